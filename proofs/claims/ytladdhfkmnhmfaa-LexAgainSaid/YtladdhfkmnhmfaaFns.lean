/-
  The functions that the laws reach, in compact form, and that each stands for the program's own. Written by a program of this repository (tools/print), not by hand.
-/
import Derived.Test.YtladdhfkmnhmfaaChecked
import Derived.Test.YtladdhfkmnhmfaaViRow
import Derived.Test.YtladdhfkmnhmfaaViBytes
import Derived.KernelRfl
import GoSem.PinnedTables
import Derived.Shelf.Strings.Search3
set_option maxRecDepth 100000
namespace Go.Proofs.Ytladdhfkmnhmfaa
open Go.Vi
/- cartouche/cartouchelaw4.LexKnown -/
def n_law4_LexKnown : Nat := 3
def f_law4_LexKnown : SFunc where
  np := 0
  res := [.slot 0]
  body := .seq (.reg [⟨some 0, none, .mov false (.c (.d (.bool false)))⟩] []) <|
    .seq (.reg [⟨some 6, none, .call 7 [(false, .c (.d (.str [34, 97, 92, 110, 34, 32, 47, 47, 32, 120, 10])))]⟩,
      ⟨some 5, none, .mov false (.t 6)⟩,
      ⟨some 7, none, .ext (.t 5) 0⟩,
      ⟨some 8, none, .ext (.t 5) 1⟩,
      ⟨some 2, none, .zbox [.int .i64 0, .int .i64 0, .int .i64 0, .int .i64 0]⟩,
      ⟨some 1, none, .mov true (.t 7)⟩,
      ⟨none, none, .store 4 (.t 2) (.t 8)⟩] [1, 2]) <|
    .seq (.reg [⟨some 10, none, .call 7 [(false, .c (.d (.str [])))]⟩,
      ⟨some 9, none, .mov false (.t 10)⟩,
      ⟨some 11, none, .ext (.t 9) 0⟩,
      ⟨some 12, none, .ext (.t 9) 1⟩,
      ⟨some 4, none, .zbox [.int .i64 0, .int .i64 0, .int .i64 0, .int .i64 0]⟩,
      ⟨some 3, none, .mov true (.t 11)⟩,
      ⟨none, none, .store 4 (.t 4) (.t 12)⟩] [1, 2, 3, 4]) <|
    .seq (.seq (.reg [⟨some 13, none, .call 8 []⟩,
      ⟨some 14, none, .not (.t 13)⟩,
      ⟨some 15, none, .mov false (.t 14)⟩,
      ⟨some 16, none, .pick (.t 15) (.c (.d (.bool true))) (.c (.d (.bool false)))⟩,
      ⟨some 17, none, .mov false (.t 16)⟩,
      ⟨some 18, none, .pick (.t 17) (.c (.d (.bool true))) (.c (.d (.bool false)))⟩,
      ⟨some 19, none, .mov false (.t 18)⟩,
      ⟨some 20, none, .pick (.t 19) (.c (.d (.bool true))) (.c (.d (.bool false)))⟩,
      ⟨some 21, none, .mov false (.t 20)⟩,
      ⟨some 22, none, .pick (.t 21) (.c (.d (.bool true))) (.c (.d (.bool false)))⟩,
      ⟨some 23, none, .mov false (.t 22)⟩,
      ⟨some 24, none, .pick (.t 23) (.c (.d (.bool true))) (.c (.d (.bool false)))⟩,
      ⟨some 25, none, .mov false (.t 24)⟩,
      ⟨some 26, some (25, false), .faddr 0 none (.t 2)⟩,
      ⟨some 27, some (25, false), .load none (.t 26)⟩,
      ⟨some 28, some (25, false), .bin .i .neq (.t 27) (.c (.d (.int .i64 0)))⟩,
      ⟨some 29, none, .pick (.t 25) (.c (.d (.bool true))) (.t 28)⟩,
      ⟨some 30, none, .mov false (.t 29)⟩,
      ⟨some 31, some (30, false), .mov true (.t 1)⟩,
      ⟨some 32, some (30, false), .mk 1 [.c (.d (.int .u8 97)), .c (.d (.int .u8 10))]⟩,
      ⟨some 33, some (30, false), .build [.int .i64 0, .str [], .int .u64 0, .slice 0 [], .int .i64 0, .int .i64 0] [(0, 1, .c (.d (.int .i64 3))), (1, 1, .c (.d (.str [34, 97, 92, 110, 34]))), (3, 1, .t 32), (4, 1, .c (.d (.int .i64 1))), (5, 1, .c (.d (.int .i64 1)))]⟩,
      ⟨some 34, some (30, false), .build [.int .i64 0, .str [], .int .u64 0, .slice 0 [], .int .i64 0, .int .i64 0] [(0, 1, .c (.d (.int .i64 5))), (4, 1, .c (.d (.int .i64 2))), (5, 1, .c (.d (.int .i64 1)))]⟩,
      ⟨some 35, some (30, false), .mk 6 [.t 33, .t 34]⟩,
      ⟨some 36, some (30, false), .call 9 [(false, .t 31), (false, .t 35)]⟩,
      ⟨some 37, some (30, false), .not (.t 36)⟩,
      ⟨some 38, none, .pick (.t 30) (.c (.d (.bool true))) (.t 37)⟩,
      ⟨some 39, none, .mov false (.t 38)⟩,
      ⟨some 40, some (39, false), .faddr 0 none (.t 4)⟩,
      ⟨some 41, some (39, false), .load none (.t 40)⟩,
      ⟨some 42, some (39, false), .bin .i .neq (.t 41) (.c (.d (.int .i64 0)))⟩,
      ⟨some 43, none, .pick (.t 39) (.c (.d (.bool true))) (.t 42)⟩,
      ⟨some 44, none, .mov false (.t 43)⟩,
      ⟨some 45, some (44, false), .mov true (.t 3)⟩,
      ⟨some 46, some (44, false), .build [.int .i64 0, .str [], .int .u64 0, .slice 0 [], .int .i64 0, .int .i64 0] [(0, 1, .c (.d (.int .i64 5))), (4, 1, .c (.d (.int .i64 1))), (5, 1, .c (.d (.int .i64 1)))]⟩,
      ⟨some 47, some (44, false), .mk 6 [.t 46]⟩,
      ⟨some 48, some (44, false), .call 9 [(false, .t 45), (false, .t 47)]⟩,
      ⟨some 49, some (44, false), .not (.t 48)⟩,
      ⟨some 50, none, .pick (.t 44) (.c (.d (.bool true))) (.t 49)⟩] [50]) <|
    .cond (.t 50)
      (.seq (.reg [⟨some 0, none, .mov false (.c (.d (.bool false)))⟩] [0]) <|
      .ret)
      (.skip)) <|
    .seq (.reg [⟨some 51, none, .call 10 [(false, .c (.d (.str [47, 42, 32, 120]))), (false, .c (.d (.int .i64 11))), (false, .c (.d (.int .i64 1))), (false, .c (.d (.int .i64 1)))]⟩,
      ⟨some 52, none, .mov false (.t 51)⟩,
      ⟨some 53, some (52, true), .call 10 [(false, .c (.d (.str [49, 97]))), (false, .c (.d (.int .i64 11))), (false, .c (.d (.int .i64 1))), (false, .c (.d (.int .i64 1)))]⟩,
      ⟨some 54, none, .pick (.t 52) (.t 53) (.c (.d (.bool false)))⟩,
      ⟨some 55, none, .mov false (.t 54)⟩,
      ⟨some 56, some (55, true), .call 10 [(false, .c (.d (.str [48, 120]))), (false, .c (.d (.int .i64 11))), (false, .c (.d (.int .i64 1))), (false, .c (.d (.int .i64 1)))]⟩,
      ⟨some 57, none, .pick (.t 55) (.t 56) (.c (.d (.bool false)))⟩,
      ⟨some 58, none, .mov false (.t 57)⟩,
      ⟨some 59, some (58, true), .call 10 [(false, .c (.d (.str [35]))), (false, .c (.d (.int .i64 11))), (false, .c (.d (.int .i64 1))), (false, .c (.d (.int .i64 1)))]⟩,
      ⟨some 60, none, .pick (.t 58) (.t 59) (.c (.d (.bool false)))⟩,
      ⟨some 61, none, .mov false (.t 60)⟩,
      ⟨some 62, some (61, true), .call 10 [(false, .c (.d (.str [34, 97]))), (false, .c (.d (.int .i64 11))), (false, .c (.d (.int .i64 1))), (false, .c (.d (.int .i64 1)))]⟩,
      ⟨some 63, none, .pick (.t 61) (.t 62) (.c (.d (.bool false)))⟩,
      ⟨some 64, none, .mov false (.t 63)⟩,
      ⟨some 65, some (64, true), .call 10 [(false, .c (.d (.str [49, 56, 52, 52, 54, 55, 52, 52, 48, 55, 51, 55, 48, 57, 53, 53, 49, 54, 49, 54]))), (false, .c (.d (.int .i64 7))), (false, .c (.d (.int .i64 1))), (false, .c (.d (.int .i64 1)))]⟩,
      ⟨some 66, none, .pick (.t 64) (.t 65) (.c (.d (.bool false)))⟩,
      ⟨some 67, none, .mov false (.t 66)⟩,
      ⟨some 68, some (67, true), .call 10 [(false, .c (.d (.str [47, 42, 42, 47, 32, 34, 92, 113, 34]))), (false, .c (.d (.int .i64 11))), (false, .c (.d (.int .i64 1))), (false, .c (.d (.int .i64 6)))]⟩,
      ⟨some 69, none, .pick (.t 67) (.t 68) (.c (.d (.bool false)))⟩,
      ⟨some 0, none, .mov false (.t 69)⟩] [0]) <|
    .ret
/- cartouche/cartouchelaw4.LexSplits -/
def n_law4_LexSplits : Nat := 4
def f_law4_LexSplits : SFunc where
  np := 1
  res := [.slot 2]
  body := .seq (.reg [⟨some 2, none, .mov false (.c (.d (.bool false)))⟩] [0]) <|
    .seq (.reg [⟨some 8, none, .mov false (.t 0)⟩,
      ⟨some 9, none, .call 7 [(false, .t 8)]⟩,
      ⟨some 7, none, .mov false (.t 9)⟩,
      ⟨some 10, none, .ext (.t 7) 0⟩,
      ⟨some 11, none, .ext (.t 7) 1⟩,
      ⟨some 4, none, .zbox [.int .i64 0, .int .i64 0, .int .i64 0, .int .i64 0]⟩,
      ⟨some 3, none, .mov true (.t 10)⟩,
      ⟨none, none, .store 4 (.t 4) (.t 11)⟩] [0, 3, 4, 4]) <|
    .seq (.reg [⟨some 13, none, .mov false (.t 0)⟩,
      ⟨some 14, none, .call 11 [(false, .t 13)]⟩,
      ⟨some 12, none, .mov false (.t 14)⟩,
      ⟨some 15, none, .ext (.t 12) 0⟩,
      ⟨some 16, none, .ext (.t 12) 1⟩,
      ⟨some 6, none, .zbox [.int .i64 0, .int .i64 0, .int .i64 0, .int .i64 0]⟩,
      ⟨some 5, none, .mov true (.t 15)⟩,
      ⟨none, none, .store 4 (.t 6) (.t 16)⟩] [3, 4, 4, 5, 6, 6]) <|
    .seq (.reg [⟨some 17, none, .call 8 []⟩,
      ⟨some 18, none, .mov false (.t 17)⟩,
      ⟨some 19, some (18, true), .load (some 4) (.t 4)⟩,
      ⟨some 20, some (18, true), .load (some 4) (.t 6)⟩,
      ⟨some 21, some (18, true), .eqs false 4 (.t 19) (.t 20)⟩,
      ⟨some 22, none, .pick (.t 18) (.t 21) (.c (.d (.bool false)))⟩,
      ⟨some 23, none, .mov false (.t 22)⟩,
      ⟨some 24, some (23, true), .mov true (.t 3)⟩,
      ⟨some 25, some (23, true), .mov true (.t 5)⟩,
      ⟨some 26, some (23, true), .call 9 [(false, .t 24), (false, .t 25)]⟩,
      ⟨some 27, none, .pick (.t 23) (.t 26) (.c (.d (.bool false)))⟩,
      ⟨some 2, none, .mov false (.t 27)⟩] [2]) <|
    .ret
/- cartouche/cartouchelaw4.LexAgain -/
def l_law4_LexAgain_5 : SC :=
  .seq (.seq (.reg [⟨some 28, none, .mov false (.t 9)⟩,
      ⟨some 29, none, .mov false (.t 5)⟩,
      ⟨some 30, none, .len false (.t 29)⟩,
      ⟨some 31, none, .bin .i .lss (.t 28) (.t 30)⟩] [1, 5, 7, 8, 9, 31]) <|
    .cond (.t 31)
      (.skip)
      (.exit 0)) <|
    .seq (.block 1 <| .seq (.reg [⟨some 34, none, .mov false (.t 7)⟩,
      ⟨some 35, none, .mov false (.t 5)⟩,
      ⟨some 36, none, .mov false (.t 9)⟩,
      ⟨some 37, none, .iaddr 6 (.t 35) (.t 36)⟩,
      ⟨some 38, none, .faddr 1 none (.t 37)⟩,
      ⟨some 39, none, .load none (.t 38)⟩,
      ⟨some 40, none, .bin .s .add (.t 34) (.t 39)⟩,
      ⟨some 41, none, .bin .s .add (.t 40) (.c (.d (.str [32])))⟩,
      ⟨some 7, none, .mov false (.t 41)⟩] [1, 5, 7, 8, 9]) <|
    .seq (.reg [⟨some 10, none, .mov false (.c (.d (.int .u8 0)))⟩] [1, 5, 7, 8, 9, 10]) <|
    .seq (.seq (.reg [⟨some 42, none, .mov false (.t 1)⟩,
      ⟨some 43, none, .len false (.t 42)⟩,
      ⟨some 44, none, .bin .i .gtr (.t 43) (.c (.d (.int .i64 0)))⟩] [1, 5, 7, 8, 9, 10, 44]) <|
    .cond (.t 44)
      (.reg [⟨some 45, none, .mov false (.t 1)⟩,
        ⟨some 46, none, .mov false (.t 9)⟩,
        ⟨some 47, none, .mov false (.t 1)⟩,
        ⟨some 48, none, .len false (.t 47)⟩,
        ⟨some 49, none, .bin .i .rem (.t 46) (.t 48)⟩,
        ⟨some 50, none, .iaddr 1 (.t 45) (.t 49)⟩,
        ⟨some 51, none, .load none (.t 50)⟩,
        ⟨some 10, none, .mov false (.t 51)⟩] [1, 5, 7, 8, 9, 10])
      (.skip)) <|
    .reg [⟨some 52, none, .mov false (.t 8)⟩,
      ⟨some 53, none, .mov false (.t 5)⟩,
      ⟨some 54, none, .mov false (.t 9)⟩,
      ⟨some 55, none, .iaddr 6 (.t 53) (.t 54)⟩,
      ⟨some 56, none, .faddr 1 none (.t 55)⟩,
      ⟨some 57, none, .load none (.t 56)⟩,
      ⟨some 58, none, .bin .s .add (.t 52) (.t 57)⟩,
      ⟨some 59, none, .build [.str [], .str [], .str [], .str []] [(0, 1, .c (.d (.str [32]))), (1, 1, .c (.d (.str [10]))), (2, 1, .c (.d (.str [47, 42, 32, 42, 32, 47, 32, 34, 32, 42, 47]))), (3, 1, .c (.d (.str [47, 47, 32, 34, 32, 47, 42, 10])))]⟩,
      ⟨some 60, none, .mov false (.t 10)⟩,
      ⟨some 61, none, .bin .i .rem (.t 60) (.c (.d (.int .u8 4)))⟩,
      ⟨some 62, none, .aidx 4 1 none (.t 59) (.t 61)⟩,
      ⟨some 63, none, .bin .s .add (.t 58) (.t 62)⟩,
      ⟨some 8, none, .mov false (.t 63)⟩] [1, 5, 7, 8, 9]) <|
    .reg [⟨some 32, none, .mov false (.t 9)⟩,
      ⟨some 33, none, .bin .i .add (.t 32) (.c (.d (.int .i64 1)))⟩,
      ⟨some 9, none, .mov false (.t 33)⟩] [1, 5, 7, 8, 9]
def n_law4_LexAgain : Nat := 5
def f_law4_LexAgain : SFunc where
  np := 2
  res := [.slot 4]
  body := .seq (.reg [⟨some 4, none, .mov false (.c (.d (.bool false)))⟩] [0, 1]) <|
    .seq (.seq (.reg [⟨some 15, none, .call 8 []⟩,
      ⟨some 16, none, .not (.t 15)⟩] [0, 1, 16]) <|
    .cond (.t 16)
      (.seq (.reg [⟨some 4, none, .mov false (.c (.d (.bool false)))⟩] [4]) <|
      .ret)
      (.skip)) <|
    .seq (.reg [⟨some 18, none, .mov false (.t 0)⟩,
      ⟨some 19, none, .call 7 [(false, .t 18)]⟩,
      ⟨some 17, none, .mov false (.t 19)⟩,
      ⟨some 20, none, .ext (.t 17) 0⟩,
      ⟨some 21, none, .ext (.t 17) 1⟩,
      ⟨some 6, none, .zbox [.int .i64 0, .int .i64 0, .int .i64 0, .int .i64 0]⟩,
      ⟨some 5, none, .mov true (.t 20)⟩,
      ⟨none, none, .store 4 (.t 6) (.t 21)⟩] [1, 5, 6]) <|
    .seq (.seq (.reg [⟨some 22, none, .faddr 0 none (.t 6)⟩,
      ⟨some 23, none, .load none (.t 22)⟩,
      ⟨some 24, none, .bin .i .neq (.t 23) (.c (.d (.int .i64 0)))⟩] [1, 5, 24]) <|
    .cond (.t 24)
      (.seq (.reg [⟨some 25, none, .mov true (.t 5)⟩,
        ⟨some 26, none, .len false (.t 25)⟩,
        ⟨some 27, none, .bin .i .eql (.t 26) (.c (.d (.int .i64 0)))⟩,
        ⟨some 4, none, .mov false (.t 27)⟩] [4]) <|
      .ret)
      (.skip)) <|
    .seq (.reg [⟨some 7, none, .mov false (.c (.d (.str [])))⟩] [1, 5, 7]) <|
    .seq (.reg [⟨some 8, none, .mov false (.c (.d (.str [])))⟩] [1, 5, 7, 8]) <|
    .seq (.seq (.reg [⟨some 9, none, .mov false (.c (.d (.int .i64 0)))⟩] [1, 5, 7, 8, 9]) <|
    .block 0 <| .loop l_law4_LexAgain_5) <|
    .seq (.reg [⟨some 65, none, .mov false (.t 7)⟩,
      ⟨some 66, none, .call 7 [(false, .t 65)]⟩,
      ⟨some 64, none, .mov false (.t 66)⟩,
      ⟨some 67, none, .ext (.t 64) 0⟩,
      ⟨some 68, none, .ext (.t 64) 1⟩,
      ⟨some 12, none, .zbox [.int .i64 0, .int .i64 0, .int .i64 0, .int .i64 0]⟩,
      ⟨some 11, none, .mov true (.t 67)⟩,
      ⟨none, none, .store 4 (.t 12) (.t 68)⟩] [5, 7, 8, 11, 12]) <|
    .seq (.reg [⟨some 70, none, .mov false (.t 8)⟩,
      ⟨some 71, none, .call 7 [(false, .t 70)]⟩,
      ⟨some 69, none, .mov false (.t 71)⟩,
      ⟨some 72, none, .ext (.t 69) 0⟩,
      ⟨some 73, none, .ext (.t 69) 1⟩,
      ⟨some 14, none, .zbox [.int .i64 0, .int .i64 0, .int .i64 0, .int .i64 0]⟩,
      ⟨some 13, none, .mov true (.t 72)⟩,
      ⟨none, none, .store 4 (.t 14) (.t 73)⟩] [5, 7, 8, 11, 12, 13, 14]) <|
    .seq (.seq (.reg [⟨some 74, none, .mov false (.t 7)⟩,
      ⟨some 75, none, .len true (.t 74)⟩,
      ⟨some 76, none, .bin .i .gtr (.t 75) (.c (.d (.int .i64 65536)))⟩,
      ⟨some 77, none, .mov false (.t 76)⟩,
      ⟨some 78, some (77, false), .mov false (.t 8)⟩,
      ⟨some 79, some (77, false), .len true (.t 78)⟩,
      ⟨some 80, some (77, false), .bin .i .gtr (.t 79) (.c (.d (.int .i64 65536)))⟩,
      ⟨some 81, none, .pick (.t 77) (.c (.d (.bool true))) (.t 80)⟩] [5, 7, 8, 11, 12, 13, 14, 81]) <|
    .cond (.t 81)
      (.seq (.reg [⟨some 82, none, .mov false (.t 7)⟩,
        ⟨some 83, none, .len true (.t 82)⟩,
        ⟨some 84, none, .bin .i .leq (.t 83) (.c (.d (.int .i64 65536)))⟩,
        ⟨some 85, none, .mov false (.t 84)⟩,
        ⟨some 86, some (85, false), .faddr 0 none (.t 12)⟩,
        ⟨some 87, some (85, false), .load none (.t 86)⟩,
        ⟨some 88, some (85, false), .bin .i .eql (.t 87) (.c (.d (.int .i64 1)))⟩,
        ⟨some 89, none, .pick (.t 85) (.c (.d (.bool true))) (.t 88)⟩,
        ⟨some 90, none, .mov false (.t 89)⟩,
        ⟨some 91, some (90, true), .mov false (.t 8)⟩,
        ⟨some 92, some (90, true), .len true (.t 91)⟩,
        ⟨some 93, some (90, true), .bin .i .leq (.t 92) (.c (.d (.int .i64 65536)))⟩,
        ⟨some 94, some (90, true), .mov false (.t 93)⟩,
        ⟨some 95, some (94, false), .faddr 0 none (.t 14)⟩,
        ⟨some 96, some (94, false), .load none (.t 95)⟩,
        ⟨some 97, some (94, false), .bin .i .eql (.t 96) (.c (.d (.int .i64 1)))⟩,
        ⟨some 98, some (90, true), .pick (.t 94) (.c (.d (.bool true))) (.t 97)⟩,
        ⟨some 99, none, .pick (.t 90) (.t 98) (.c (.d (.bool false)))⟩,
        ⟨some 4, none, .mov false (.t 99)⟩] [4]) <|
      .ret)
      (.skip)) <|
    .seq (.reg [⟨some 100, none, .faddr 0 none (.t 12)⟩,
      ⟨some 101, none, .load none (.t 100)⟩,
      ⟨some 102, none, .bin .i .eql (.t 101) (.c (.d (.int .i64 0)))⟩,
      ⟨some 103, none, .mov false (.t 102)⟩,
      ⟨some 104, some (103, true), .faddr 0 none (.t 14)⟩,
      ⟨some 105, some (103, true), .load none (.t 104)⟩,
      ⟨some 106, some (103, true), .bin .i .eql (.t 105) (.c (.d (.int .i64 0)))⟩,
      ⟨some 107, none, .pick (.t 103) (.t 106) (.c (.d (.bool false)))⟩,
      ⟨some 108, none, .mov false (.t 107)⟩,
      ⟨some 109, some (108, true), .mov true (.t 11)⟩,
      ⟨some 110, some (108, true), .mov false (.t 5)⟩,
      ⟨some 111, some (108, true), .call 12 [(false, .t 109), (false, .t 110)]⟩,
      ⟨some 112, none, .pick (.t 108) (.t 111) (.c (.d (.bool false)))⟩,
      ⟨some 113, none, .mov false (.t 112)⟩,
      ⟨some 114, some (113, true), .mov true (.t 13)⟩,
      ⟨some 115, some (113, true), .mov true (.t 5)⟩,
      ⟨some 116, some (113, true), .call 12 [(false, .t 114), (false, .t 115)]⟩,
      ⟨some 117, none, .pick (.t 113) (.t 116) (.c (.d (.bool false)))⟩,
      ⟨some 4, none, .mov false (.t 117)⟩] [4]) <|
    .ret
/- cartouche/cartouchelaw4.LexPlaces -/
def l_law4_LexPlaces_1 : SC :=
  .seq (.seq (.reg [⟨some 23, none, .mov false (.t 8)⟩,
      ⟨some 24, none, .mov false (.t 0)⟩,
      ⟨some 25, none, .len true (.t 24)⟩,
      ⟨some 26, none, .bin .i .leq (.t 23) (.t 25)⟩] [0, 3, 5, 6, 7, 8, 26]) <|
    .cond (.t 26)
      (.skip)
      (.exit 0)) <|
    .seq (.block 1 <| .seq (.seq (.reg [⟨some 29, none, .mov false (.t 7)⟩,
      ⟨some 30, none, .mov false (.t 3)⟩,
      ⟨some 31, none, .len false (.t 30)⟩,
      ⟨some 32, none, .bin .i .lss (.t 29) (.t 31)⟩,
      ⟨some 33, none, .mov false (.t 32)⟩,
      ⟨some 34, some (33, true), .mov false (.t 3)⟩,
      ⟨some 35, some (33, true), .mov false (.t 7)⟩,
      ⟨some 36, some (33, true), .iaddr 6 (.t 34) (.t 35)⟩,
      ⟨some 37, some (33, true), .faddr 4 none (.t 36)⟩,
      ⟨some 38, some (33, true), .load none (.t 37)⟩,
      ⟨some 39, some (33, true), .mov false (.t 5)⟩,
      ⟨some 40, some (33, true), .bin .i .eql (.t 38) (.t 39)⟩,
      ⟨some 41, none, .pick (.t 33) (.t 40) (.c (.d (.bool false)))⟩,
      ⟨some 42, none, .mov false (.t 41)⟩,
      ⟨some 43, some (42, true), .mov false (.t 3)⟩,
      ⟨some 44, some (42, true), .mov false (.t 7)⟩,
      ⟨some 45, some (42, true), .iaddr 6 (.t 43) (.t 44)⟩,
      ⟨some 46, some (42, true), .faddr 5 none (.t 45)⟩,
      ⟨some 47, some (42, true), .load none (.t 46)⟩,
      ⟨some 48, some (42, true), .mov false (.t 6)⟩,
      ⟨some 49, some (42, true), .bin .i .eql (.t 47) (.t 48)⟩,
      ⟨some 50, none, .pick (.t 42) (.t 49) (.c (.d (.bool false)))⟩] [0, 3, 5, 6, 7, 8, 50]) <|
    .cond (.t 50)
      (.seq (.reg [⟨some 51, none, .mov false (.t 3)⟩,
        ⟨some 52, none, .mov false (.t 7)⟩,
        ⟨some 53, none, .iaddr 6 (.t 51) (.t 52)⟩,
        ⟨some 54, none, .faddr 1 none (.t 53)⟩,
        ⟨some 55, none, .load none (.t 54)⟩,
        ⟨some 56, none, .len true (.t 55)⟩,
        ⟨some 9, none, .mov false (.t 56)⟩] [0, 3, 5, 6, 7, 8, 9]) <|
      .seq (.seq (.reg [⟨some 57, none, .mov false (.t 8)⟩,
        ⟨some 58, none, .mov false (.t 9)⟩,
        ⟨some 59, none, .bin .i .add (.t 57) (.t 58)⟩,
        ⟨some 60, none, .mov false (.t 0)⟩,
        ⟨some 61, none, .len true (.t 60)⟩,
        ⟨some 62, none, .bin .i .gtr (.t 59) (.t 61)⟩,
        ⟨some 63, none, .mov false (.t 62)⟩,
        ⟨some 64, some (63, false), .mov false (.t 0)⟩,
        ⟨some 65, some (63, false), .mov false (.t 8)⟩,
        ⟨some 66, some (63, false), .mov false (.t 8)⟩,
        ⟨some 67, some (63, false), .mov false (.t 9)⟩,
        ⟨some 68, some (63, false), .bin .i .add (.t 66) (.t 67)⟩,
        ⟨some 69, some (63, false), .slcs (.t 64) (some (.t 65)) (some (.t 68))⟩,
        ⟨some 70, some (63, false), .mov false (.t 3)⟩,
        ⟨some 71, some (63, false), .mov false (.t 7)⟩,
        ⟨some 72, some (63, false), .iaddr 6 (.t 70) (.t 71)⟩,
        ⟨some 73, some (63, false), .faddr 1 none (.t 72)⟩,
        ⟨some 74, some (63, false), .load none (.t 73)⟩,
        ⟨some 75, some (63, false), .bin .s .neq (.t 69) (.t 74)⟩,
        ⟨some 76, none, .pick (.t 63) (.c (.d (.bool true))) (.t 75)⟩,
        ⟨some 77, none, .mov false (.t 76)⟩,
        ⟨some 78, some (77, false), .mov false (.t 9)⟩,
        ⟨some 79, some (77, false), .bin .i .eql (.t 78) (.c (.d (.int .i64 0)))⟩,
        ⟨some 80, some (77, false), .mov false (.t 3)⟩,
        ⟨some 81, some (77, false), .mov false (.t 7)⟩,
        ⟨some 82, some (77, false), .iaddr 6 (.t 80) (.t 81)⟩,
        ⟨some 83, some (77, false), .faddr 0 none (.t 82)⟩,
        ⟨some 84, some (77, false), .load none (.t 83)⟩,
        ⟨some 85, some (77, false), .bin .i .eql (.t 84) (.c (.d (.int .i64 5)))⟩,
        ⟨some 86, some (77, false), .bin .b .neq (.t 79) (.t 85)⟩,
        ⟨some 87, none, .pick (.t 77) (.c (.d (.bool true))) (.t 86)⟩] [0, 3, 5, 6, 7, 8, 87]) <|
      .cond (.t 87)
        (.seq (.reg [⟨some 2, none, .mov false (.c (.d (.bool false)))⟩] [2]) <|
        .ret)
        (.skip)) <|
      .reg [⟨some 88, none, .mov false (.t 7)⟩,
        ⟨some 89, none, .bin .i .add (.t 88) (.c (.d (.int .i64 1)))⟩,
        ⟨some 7, none, .mov false (.t 89)⟩] [0, 3, 5, 6, 7, 8])
      (.skip)) <|
    .seq (.reg [⟨some 90, none, .mov false (.t 8)⟩,
      ⟨some 91, none, .mov false (.t 0)⟩,
      ⟨some 92, none, .len true (.t 91)⟩,
      ⟨some 93, none, .bin .i .lss (.t 90) (.t 92)⟩,
      ⟨some 94, none, .mov false (.t 93)⟩,
      ⟨some 95, some (94, true), .mov false (.t 0)⟩,
      ⟨some 96, some (94, true), .mov false (.t 8)⟩,
      ⟨some 97, some (94, true), .sidx (.t 95) (.t 96)⟩,
      ⟨some 98, some (94, true), .bin .i .eql (.t 97) (.c (.d (.int .u8 10)))⟩,
      ⟨some 99, none, .pick (.t 94) (.t 98) (.c (.d (.bool false)))⟩] [0, 3, 5, 6, 7, 8, 99]) <|
    .cond (.t 99)
      (.seq (.reg [⟨some 100, none, .mov false (.t 5)⟩,
        ⟨some 101, none, .bin .i .add (.t 100) (.c (.d (.int .i64 1)))⟩,
        ⟨some 5, none, .mov false (.t 101)⟩] [0, 3, 5, 7, 8]) <|
      .reg [⟨some 6, none, .mov false (.c (.d (.int .i64 1)))⟩] [0, 3, 5, 6, 7, 8])
      (.reg [⟨some 102, none, .mov false (.t 6)⟩,
        ⟨some 103, none, .bin .i .add (.t 102) (.c (.d (.int .i64 1)))⟩,
        ⟨some 6, none, .mov false (.t 103)⟩] [0, 3, 5, 6, 7, 8])) <|
    .reg [⟨some 27, none, .mov false (.t 8)⟩,
      ⟨some 28, none, .bin .i .add (.t 27) (.c (.d (.int .i64 1)))⟩,
      ⟨some 8, none, .mov false (.t 28)⟩] [0, 3, 5, 6, 7, 8]
def n_law4_LexPlaces : Nat := 6
def f_law4_LexPlaces : SFunc where
  np := 1
  res := [.slot 2]
  body := .seq (.reg [⟨some 2, none, .mov false (.c (.d (.bool false)))⟩] [0]) <|
    .seq (.seq (.reg [⟨some 10, none, .call 8 []⟩,
      ⟨some 11, none, .not (.t 10)⟩] [0, 11]) <|
    .cond (.t 11)
      (.seq (.reg [⟨some 2, none, .mov false (.c (.d (.bool false)))⟩] [2]) <|
      .ret)
      (.skip)) <|
    .seq (.reg [⟨some 13, none, .mov false (.t 0)⟩,
      ⟨some 14, none, .call 7 [(false, .t 13)]⟩,
      ⟨some 12, none, .mov false (.t 14)⟩,
      ⟨some 15, none, .ext (.t 12) 0⟩,
      ⟨some 16, none, .ext (.t 12) 1⟩,
      ⟨some 4, none, .zbox [.int .i64 0, .int .i64 0, .int .i64 0, .int .i64 0]⟩,
      ⟨some 3, none, .mov true (.t 15)⟩,
      ⟨none, none, .store 4 (.t 4) (.t 16)⟩] [0, 3, 4]) <|
    .seq (.seq (.reg [⟨some 17, none, .faddr 0 none (.t 4)⟩,
      ⟨some 18, none, .load none (.t 17)⟩,
      ⟨some 19, none, .bin .i .neq (.t 18) (.c (.d (.int .i64 0)))⟩] [0, 3, 19]) <|
    .cond (.t 19)
      (.seq (.reg [⟨some 20, none, .mov true (.t 3)⟩,
        ⟨some 21, none, .len false (.t 20)⟩,
        ⟨some 22, none, .bin .i .eql (.t 21) (.c (.d (.int .i64 0)))⟩,
        ⟨some 2, none, .mov false (.t 22)⟩] [2]) <|
      .ret)
      (.skip)) <|
    .seq (.reg [⟨some 5, none, .mov false (.c (.d (.int .i64 1)))⟩] [0, 3, 5]) <|
    .seq (.reg [⟨some 6, none, .mov false (.c (.d (.int .i64 1)))⟩] [0, 3, 5, 6]) <|
    .seq (.reg [⟨some 7, none, .mov false (.c (.d (.int .i64 0)))⟩] [0, 3, 5, 6, 7]) <|
    .seq (.seq (.reg [⟨some 8, none, .mov false (.c (.d (.int .i64 0)))⟩] [0, 3, 5, 6, 7, 8]) <|
    .block 0 <| .loop l_law4_LexPlaces_1) <|
    .seq (.reg [⟨some 104, none, .mov false (.t 7)⟩,
      ⟨some 105, none, .mov false (.t 3)⟩,
      ⟨some 106, none, .len false (.t 105)⟩,
      ⟨some 107, none, .bin .i .eql (.t 104) (.t 106)⟩,
      ⟨some 108, none, .mov false (.t 107)⟩,
      ⟨some 109, some (108, true), .mov false (.t 7)⟩,
      ⟨some 110, some (108, true), .bin .i .gtr (.t 109) (.c (.d (.int .i64 0)))⟩,
      ⟨some 111, none, .pick (.t 108) (.t 110) (.c (.d (.bool false)))⟩,
      ⟨some 112, none, .mov false (.t 111)⟩,
      ⟨some 113, some (112, true), .mov true (.t 3)⟩,
      ⟨some 114, some (112, true), .mov false (.t 7)⟩,
      ⟨some 115, some (112, true), .bin .i .sub (.t 114) (.c (.d (.int .i64 1)))⟩,
      ⟨some 116, some (112, true), .iaddr 6 (.t 113) (.t 115)⟩,
      ⟨some 117, some (112, true), .faddr 0 none (.t 116)⟩,
      ⟨some 118, some (112, true), .load none (.t 117)⟩,
      ⟨some 119, some (112, true), .bin .i .eql (.t 118) (.c (.d (.int .i64 5)))⟩,
      ⟨some 120, none, .pick (.t 112) (.t 119) (.c (.d (.bool false)))⟩,
      ⟨some 2, none, .mov false (.t 120)⟩] [2]) <|
    .ret
/- cartouche/lex.Split -/
def l_lex_Split_3 : SC :=
  .seq (.reg [⟨some 141, none, .bin .i .lss (.t 140) (.t 139)⟩] [0, 3, 3, 4, 5, 6, 7, 9, 9, 10, 139, 140, 141]) <|
    .seq (.cond (.t 141)
      (.skip)
      (.exit 1)) <|
    .seq (.block 2 <| .seq (.reg [⟨some 142, none, .mov false (.t 7)⟩,
      ⟨some 143, none, .bin .i .add (.t 142) (.c (.d (.int .i64 1)))⟩,
      ⟨some 7, none, .mov false (.t 143)⟩] [0, 3, 3, 4, 5, 6, 7, 9, 9, 10, 139, 140]) <|
    .seq (.reg [⟨some 144, none, .mov false (.t 0)⟩,
      ⟨some 145, none, .mov false (.t 7)⟩,
      ⟨some 146, none, .bin .i .sub (.t 145) (.c (.d (.int .i64 1)))⟩,
      ⟨some 147, none, .sidx (.t 144) (.t 146)⟩,
      ⟨some 148, none, .bin .i .eql (.t 147) (.c (.d (.int .u8 10)))⟩] [0, 3, 3, 4, 5, 6, 7, 9, 9, 10, 139, 140, 148]) <|
    .cond (.t 148)
      (.reg [⟨some 149, none, .mov false (.t 5)⟩,
        ⟨some 150, none, .bin .i .add (.t 149) (.c (.d (.int .i64 1)))⟩,
        ⟨some 151, none, .mov false (.t 7)⟩,
        ⟨some 5, none, .mov false (.t 150)⟩,
        ⟨some 6, none, .mov false (.t 151)⟩] [0, 3, 3, 4, 5, 6, 7, 9, 9, 10, 139, 140])
      (.skip)) <|
    .reg [⟨some 152, none, .bin .i .add (.t 140) (.c (.d (.int .i64 1)))⟩,
      ⟨some 140, none, .mov false (.t 152)⟩] [0, 3, 3, 4, 5, 6, 7, 9, 9, 10, 139, 140]
def b_lex_Split_49 : SC :=
  .seq (.seq (.reg [⟨some 12, none, .mov false (.t 0)⟩,
      ⟨some 13, none, .len true (.t 12)⟩,
      ⟨some 14, none, .bin .i .gtr (.t 13) (.c (.d (.int .i64 65536)))⟩] [0, 3, 3, 14]) <|
    .cond (.t 14)
      (.seq (.reg [⟨some 15, none, .build [.int .i64 0, .int .i64 0, .int .i64 0, .int .i64 0] [(0, 1, .c (.d (.int .i64 1)))]⟩,
        ⟨some 2, none, .mov true (.c (.own 6 []))⟩,
        ⟨none, none, .store 4 (.t 3) (.t 15)⟩] [2, 3, 3]) <|
      .ret)
      (.skip)) <|
    .seq (.reg [⟨some 4, none, .mov true (.c (.own 6 []))⟩] [0, 3, 3, 4]) <|
    .seq (.reg [⟨some 5, none, .mov false (.c (.d (.int .i64 1)))⟩,
      ⟨some 6, none, .mov false (.c (.d (.int .i64 0)))⟩] [0, 3, 3, 4, 5, 6]) <|
    .seq (.reg [⟨some 7, none, .mov false (.c (.d (.int .i64 0)))⟩,
      ⟨some 8, none, .mov false (.c (.d (.int .i64 0)))⟩] [0, 3, 3, 4, 5, 6, 7]) <|
    .seq (.reg [⟨some 16, none, .build [.int .i64 0, .str [], .int .u64 0, .slice 0 [], .int .i64 0, .int .i64 0] []⟩,
      ⟨some 9, none, .zbox [.int .i64 0, .str [], .int .u64 0, .slice 0 [], .int .i64 0, .int .i64 0]⟩,
      ⟨none, none, .store 6 (.t 9) (.t 16)⟩] [0, 3, 3, 4, 5, 6, 7, 9, 9]) <|
    .seq (.reg [⟨some 10, none, .mov false (.c (.d (.int .i64 11)))⟩] [0, 3, 3, 4, 5, 6, 7, 9, 9, 10]) <|
    .seq (.label 0) <|
    .seq (.reg [⟨some 17, none, .mov false (.t 5)⟩,
      ⟨some 18, none, .mov false (.t 7)⟩,
      ⟨some 19, none, .mov false (.t 6)⟩,
      ⟨some 20, none, .bin .i .sub (.t 18) (.t 19)⟩,
      ⟨some 21, none, .bin .i .add (.t 20) (.c (.d (.int .i64 1)))⟩,
      ⟨some 22, none, .build [.int .i64 0, .str [], .int .u64 0, .slice 0 [], .int .i64 0, .int .i64 0] [(4, 1, .t 17), (5, 1, .t 21)]⟩,
      ⟨none, none, .store 6 (.t 9) (.t 22)⟩] [0, 3, 3, 4, 5, 6, 7, 9, 9, 10]) <|
    .seq (.seq (.reg [⟨some 23, none, .mov false (.t 7)⟩,
      ⟨some 24, none, .mov false (.t 0)⟩,
      ⟨some 25, none, .len true (.t 24)⟩,
      ⟨some 26, none, .bin .i .eql (.t 23) (.t 25)⟩] [0, 3, 3, 4, 5, 6, 7, 9, 9, 10, 26]) <|
    .cond (.t 26)
      (.goto 1)
      (.skip)) <|
    .seq (.seq (.reg [⟨some 27, none, .mov false (.t 0)⟩,
      ⟨some 28, none, .mov false (.t 7)⟩,
      ⟨some 29, none, .sidx (.t 27) (.t 28)⟩,
      ⟨some 11, none, .mov false (.t 29)⟩] [0, 3, 3, 4, 5, 6, 7, 9, 9, 10, 11]) <|
    .block 0 <| .seq (.reg [⟨some 31, none, .mov false (.t 11)⟩,
      ⟨some 32, none, .bin .i .eql (.t 31) (.c (.d (.int .u8 10)))⟩,
      ⟨some 30, none, .mov false (.t 32)⟩] [0, 3, 3, 4, 5, 6, 7, 9, 9, 10, 11, 30]) <|
    .cond (.t 30)
      (.seq (.reg [⟨some 33, none, .mov false (.t 7)⟩,
        ⟨some 34, none, .bin .i .add (.t 33) (.c (.d (.int .i64 1)))⟩,
        ⟨some 7, none, .mov false (.t 34)⟩] [0, 3, 3, 4, 5, 7, 9, 9, 10]) <|
      .seq (.reg [⟨some 35, none, .mov false (.t 5)⟩,
        ⟨some 36, none, .bin .i .add (.t 35) (.c (.d (.int .i64 1)))⟩,
        ⟨some 37, none, .mov false (.t 7)⟩,
        ⟨some 5, none, .mov false (.t 36)⟩,
        ⟨some 6, none, .mov false (.t 37)⟩] [0, 3, 3, 4, 5, 6, 7, 9, 9, 10]) <|
      .goto 0)
      (.seq (.reg [⟨some 39, none, .mov false (.t 11)⟩,
        ⟨some 40, none, .bin .i .eql (.t 39) (.c (.d (.int .u8 32)))⟩,
        ⟨some 41, none, .mov false (.t 40)⟩,
        ⟨some 42, some (41, false), .mov false (.t 11)⟩,
        ⟨some 43, some (41, false), .bin .i .eql (.t 42) (.c (.d (.int .u8 9)))⟩,
        ⟨some 44, none, .pick (.t 41) (.c (.d (.bool true))) (.t 43)⟩,
        ⟨some 45, none, .mov false (.t 44)⟩,
        ⟨some 46, some (45, false), .mov false (.t 11)⟩,
        ⟨some 47, some (45, false), .bin .i .eql (.t 46) (.c (.d (.int .u8 13)))⟩,
        ⟨some 48, none, .pick (.t 45) (.c (.d (.bool true))) (.t 47)⟩,
        ⟨some 38, none, .mov false (.t 48)⟩] [0, 3, 3, 4, 5, 6, 7, 9, 9, 10, 11, 38]) <|
      .cond (.t 38)
        (.seq (.reg [⟨some 49, none, .mov false (.t 7)⟩,
          ⟨some 50, none, .bin .i .add (.t 49) (.c (.d (.int .i64 1)))⟩,
          ⟨some 7, none, .mov false (.t 50)⟩] [0, 3, 3, 4, 5, 6, 7, 9, 9, 10]) <|
        .goto 0)
        (.seq (.reg [⟨some 52, none, .mov false (.t 0)⟩,
          ⟨some 53, none, .mov false (.t 7)⟩,
          ⟨some 54, none, .slcs (.t 52) (some (.t 53)) none⟩,
          ⟨some 55, none, .call 13 [(false, .t 54), (false, .c (.d (.str [47, 47])))]⟩,
          ⟨some 51, none, .mov false (.t 55)⟩] [0, 3, 3, 4, 5, 6, 7, 9, 9, 10, 11, 51]) <|
        .cond (.t 51)
          (.seq (.seq (.reg [⟨some 56, none, .mov false (.t 0)⟩,
            ⟨some 57, none, .mov false (.t 7)⟩,
            ⟨some 58, none, .slcs (.t 56) (some (.t 57)) none⟩,
            ⟨some 59, none, .call 14 [(false, .t 58), (false, .c (.d (.int .u8 10)))]⟩,
            ⟨some 8, none, .mov false (.t 59)⟩] [0, 3, 3, 4, 5, 6, 7, 8, 9, 9, 10]) <|
          .seq (.reg [⟨some 60, none, .mov false (.t 8)⟩,
            ⟨some 61, none, .bin .i .lss (.t 60) (.c (.d (.int .i64 0)))⟩] [0, 3, 3, 4, 5, 6, 7, 8, 9, 9, 10, 61]) <|
          .cond (.t 61)
            (.reg [⟨some 62, none, .mov false (.t 0)⟩,
              ⟨some 63, none, .len true (.t 62)⟩,
              ⟨some 64, none, .mov false (.t 7)⟩,
              ⟨some 65, none, .bin .i .sub (.t 63) (.t 64)⟩,
              ⟨some 8, none, .mov false (.t 65)⟩] [0, 3, 3, 4, 5, 6, 7, 8, 9, 9, 10])
            (.skip)) <|
          .seq (.reg [⟨some 66, none, .mov false (.t 7)⟩,
            ⟨some 67, none, .mov false (.t 8)⟩,
            ⟨some 68, none, .bin .i .add (.t 66) (.t 67)⟩,
            ⟨some 7, none, .mov false (.t 68)⟩] [0, 3, 3, 4, 5, 6, 7, 9, 9, 10]) <|
          .goto 0)
          (.seq (.reg [⟨some 70, none, .mov false (.t 0)⟩,
            ⟨some 71, none, .mov false (.t 7)⟩,
            ⟨some 72, none, .slcs (.t 70) (some (.t 71)) none⟩,
            ⟨some 73, none, .call 13 [(false, .t 72), (false, .c (.d (.str [47, 42])))]⟩,
            ⟨some 69, none, .mov false (.t 73)⟩] [0, 3, 3, 4, 5, 6, 7, 9, 10, 11, 69]) <|
          .cond (.t 69)
            (.goto 2)
            (.seq (.reg [⟨some 75, none, .mov false (.t 11)⟩,
              ⟨some 76, none, .call 15 [(false, .t 75)]⟩,
              ⟨some 74, none, .mov false (.t 76)⟩] [0, 3, 3, 4, 5, 6, 7, 9, 9, 10, 11, 74]) <|
            .cond (.t 74)
              (.reg [⟨some 77, none, .mov false (.t 0)⟩,
                ⟨some 78, none, .mov false (.t 7)⟩,
                ⟨some 79, none, .call 16 [(false, .t 77), (false, .t 78)]⟩,
                ⟨some 80, none, .mov false (.t 7)⟩,
                ⟨some 81, none, .bin .i .sub (.t 79) (.t 80)⟩,
                ⟨some 82, none, .faddr 0 none (.t 9)⟩,
                ⟨none, none, .store 1 (.t 82) (.c (.d (.int .i64 1)))⟩,
                ⟨some 8, none, .mov false (.t 81)⟩] [0, 3, 3, 4, 5, 6, 7, 8, 9, 9])
              (.seq (.reg [⟨some 84, none, .mov false (.t 11)⟩,
                ⟨some 85, none, .call 17 [(false, .t 84)]⟩,
                ⟨some 83, none, .mov false (.t 85)⟩] [0, 3, 3, 4, 5, 6, 7, 9, 10, 11, 83]) <|
              .cond (.t 83)
                (.seq (.reg [⟨some 86, none, .faddr 0 none (.t 9)⟩,
                  ⟨none, none, .store 1 (.t 86) (.c (.d (.int .i64 2)))⟩] [0, 3, 3, 4, 5, 6, 7, 9]) <|
                .seq (.reg [⟨some 88, none, .mov false (.t 0)⟩,
                  ⟨some 89, none, .mov false (.t 7)⟩,
                  ⟨some 90, none, .slcs (.t 88) (some (.t 89)) none⟩,
                  ⟨some 91, none, .call 18 [(false, .t 90)]⟩,
                  ⟨some 87, none, .mov false (.t 91)⟩,
                  ⟨some 92, none, .ext (.t 87) 0⟩,
                  ⟨some 93, none, .ext (.t 87) 1⟩,
                  ⟨some 94, none, .ext (.t 87) 2⟩,
                  ⟨some 8, none, .mov false (.t 92)⟩,
                  ⟨some 95, none, .faddr 2 none (.t 9)⟩,
                  ⟨none, none, .store 1 (.t 95) (.t 93)⟩,
                  ⟨some 10, none, .mov false (.t 94)⟩] [0, 3, 3, 4, 5, 6, 7, 8, 9, 10]) <|
                .seq (.reg [⟨some 96, none, .mov false (.t 10)⟩,
                  ⟨some 97, none, .bin .i .neq (.t 96) (.c (.d (.int .i64 0)))⟩] [0, 3, 3, 4, 5, 6, 7, 8, 9, 10, 97]) <|
                .cond (.t 97)
                  (.goto 3)
                  (.skip))
                (.seq (.reg [⟨some 99, none, .mov false (.t 11)⟩,
                  ⟨some 100, none, .bin .i .eql (.t 99) (.c (.d (.int .u8 34)))⟩,
                  ⟨some 98, none, .mov false (.t 100)⟩] [0, 3, 3, 4, 5, 6, 7, 9, 10, 11, 98]) <|
                .cond (.t 98)
                  (.seq (.reg [⟨some 101, none, .faddr 0 none (.t 9)⟩,
                    ⟨none, none, .store 1 (.t 101) (.c (.d (.int .i64 3)))⟩] [0, 3, 3, 4, 5, 6, 7, 9, 10]) <|
                  .seq (.reg [⟨some 103, none, .mov false (.t 0)⟩,
                    ⟨some 104, none, .mov false (.t 7)⟩,
                    ⟨some 105, none, .slcs (.t 103) (some (.t 104)) none⟩,
                    ⟨some 106, none, .call 19 [(false, .t 105)]⟩,
                    ⟨some 102, none, .mov false (.t 106)⟩,
                    ⟨some 107, none, .ext (.t 102) 0⟩,
                    ⟨some 108, none, .ext (.t 102) 1⟩,
                    ⟨some 8, none, .mov false (.t 107)⟩,
                    ⟨some 109, none, .faddr 3 none (.t 9)⟩,
                    ⟨none, none, .store 1 (.t 109) (.t 108)⟩] [0, 3, 3, 4, 5, 6, 7, 8, 9, 10]) <|
                  .seq (.reg [⟨some 110, none, .mov false (.t 8)⟩,
                    ⟨some 111, none, .bin .i .eql (.t 110) (.c (.d (.int .i64 0)))⟩] [0, 3, 3, 4, 5, 6, 7, 8, 9, 10, 111]) <|
                  .cond (.t 111)
                    (.goto 3)
                    (.skip))
                  (.seq (.reg [⟨some 113, none, .mov false (.t 11)⟩,
                    ⟨some 114, none, .call 14 [(false, .c (.d (.str [123, 125, 91, 93, 40, 41, 60, 62, 61, 59, 44, 46, 45, 58, 63]))), (false, .t 113)]⟩,
                    ⟨some 115, none, .bin .i .geq (.t 114) (.c (.d (.int .i64 0)))⟩,
                    ⟨some 112, none, .mov false (.t 115)⟩] [0, 3, 3, 4, 5, 6, 7, 9, 9, 10, 112]) <|
                  .cond (.t 112)
                    (.reg [⟨some 116, none, .faddr 0 none (.t 9)⟩,
                      ⟨none, none, .store 1 (.t 116) (.c (.d (.int .i64 4)))⟩,
                      ⟨some 8, none, .mov false (.c (.d (.int .i64 1)))⟩] [0, 3, 3, 4, 5, 6, 7, 8, 9, 9])
                    (.goto 3))))))))) <|
    .seq (.reg [⟨some 117, none, .mov false (.t 0)⟩,
      ⟨some 118, none, .mov false (.t 7)⟩,
      ⟨some 119, none, .mov false (.t 7)⟩,
      ⟨some 120, none, .mov false (.t 8)⟩,
      ⟨some 121, none, .bin .i .add (.t 119) (.t 120)⟩,
      ⟨some 122, none, .slcs (.t 117) (some (.t 118)) (some (.t 121))⟩,
      ⟨some 123, none, .faddr 1 none (.t 9)⟩,
      ⟨none, none, .store 1 (.t 123) (.t 122)⟩] [0, 3, 3, 4, 5, 6, 7, 8, 9, 9]) <|
    .seq (.reg [⟨some 124, none, .mov true (.t 4)⟩,
      ⟨some 125, none, .load (some 6) (.t 9)⟩,
      ⟨some 126, none, .mk 6 [.t 125]⟩,
      ⟨some 127, none, .app false 6 72 (.t 124) (.t 126)⟩,
      ⟨some 4, none, .mov true (.t 127)⟩] [0, 3, 3, 4, 5, 6, 7, 8, 9, 9]) <|
    .seq (.reg [⟨some 128, none, .mov false (.t 7)⟩,
      ⟨some 129, none, .mov false (.t 8)⟩,
      ⟨some 130, none, .bin .i .add (.t 128) (.t 129)⟩,
      ⟨some 7, none, .mov false (.t 130)⟩] [0, 3, 3, 4, 5, 6, 7, 9, 9]) <|
    .seq (.reg [⟨some 10, none, .mov false (.c (.d (.int .i64 11)))⟩] [0, 3, 3, 4, 5, 6, 7, 9, 9, 10]) <|
    .seq (.goto 0) <|
    .seq (.label 2) <|
    .seq (.seq (.reg [⟨some 131, none, .mov false (.t 0)⟩,
      ⟨some 132, none, .mov false (.t 7)⟩,
      ⟨some 133, none, .bin .i .add (.t 132) (.c (.d (.int .i64 2)))⟩,
      ⟨some 134, none, .slcs (.t 131) (some (.t 133)) none⟩,
      ⟨some 135, none, .call 20 [(false, .t 134), (false, .c (.d (.str [42, 47])))]⟩,
      ⟨some 8, none, .mov false (.t 135)⟩] [0, 3, 3, 4, 5, 6, 7, 8, 9, 10]) <|
    .seq (.reg [⟨some 136, none, .mov false (.t 8)⟩,
      ⟨some 137, none, .bin .i .lss (.t 136) (.c (.d (.int .i64 0)))⟩] [0, 3, 3, 4, 5, 6, 7, 8, 9, 10, 137]) <|
    .cond (.t 137)
      (.goto 3)
      (.skip)) <|
    .seq (.seq (.reg [⟨some 138, none, .mov false (.t 8)⟩,
      ⟨some 139, none, .bin .i .add (.t 138) (.c (.d (.int .i64 4)))⟩,
      ⟨some 140, none, .mov false (.c (.d (.int .i64 0)))⟩] [0, 3, 3, 4, 5, 6, 7, 9, 9, 10, 139, 140]) <|
    .block 1 <| .loop l_lex_Split_3) <|
    .seq (.goto 0) <|
    .seq (.label 3) <|
    .seq (.seq (.reg [⟨some 153, none, .mov false (.t 10)⟩,
      ⟨some 154, none, .faddr 4 none (.t 9)⟩,
      ⟨some 155, none, .load none (.t 154)⟩,
      ⟨some 156, none, .faddr 5 none (.t 9)⟩,
      ⟨some 157, none, .load none (.t 156)⟩,
      ⟨some 158, none, .build [.int .i64 0, .int .i64 0, .int .i64 0, .int .i64 0] [(0, 1, .t 153), (2, 1, .t 155), (3, 1, .t 157)]⟩,
      ⟨some 2, none, .mov true (.c (.own 6 []))⟩,
      ⟨none, none, .store 4 (.t 3) (.t 158)⟩] [2, 3, 3]) <|
    .ret) <|
    .seq (.label 1) <|
    .seq (.reg [⟨some 159, none, .faddr 0 none (.t 9)⟩,
      ⟨none, none, .store 1 (.t 159) (.c (.d (.int .i64 5)))⟩] [3, 3, 4, 9, 9]) <|
    .seq (.reg [⟨some 160, none, .mov false (.t 4)⟩,
      ⟨some 161, none, .len false (.t 160)⟩,
      ⟨some 162, none, .bin .i .add (.t 161) (.c (.d (.int .i64 1)))⟩,
      ⟨some 163, none, .make (.agg [.int .i64 0, .str [], .int .u64 0, .slice 0 [], .int .i64 0, .int .i64 0]) 72 (.c (.d (.int .i64 0))) (.t 162)⟩,
      ⟨some 164, none, .mov false (.t 4)⟩,
      ⟨some 165, none, .app false 6 72 (.t 163) (.t 164)⟩,
      ⟨some 166, none, .load (some 6) (.t 9)⟩,
      ⟨some 167, none, .mk 6 [.t 166]⟩,
      ⟨some 168, none, .app false 6 72 (.t 165) (.t 167)⟩,
      ⟨some 169, none, .build [.int .i64 0, .int .i64 0, .int .i64 0, .int .i64 0] []⟩,
      ⟨some 2, none, .mov true (.t 168)⟩,
      ⟨none, none, .store 4 (.t 3) (.t 169)⟩] [2, 3, 3]) <|
    .ret
def n_lex_Split : Nat := 7
def f_lex_Split : SFunc where
  np := 1
  res := [.slot 2, .cell 3 (some 4)]
  body := .seq (.reg [⟨some 2, none, .mov true (.c (.own 6 []))⟩,
      ⟨some 3, none, .zbox [.int .i64 0, .int .i64 0, .int .i64 0, .int .i64 0]⟩] [0, 3, 3]) <|
    .scp b_lex_Split_49
/- cartouche/cartouchelaw4.awake -/
def n_law4_awake : Nat := 8
def f_law4_awake : SFunc where
  np := 0
  res := [.slot 0]
  body := .seq (.reg [⟨some 0, none, .mov false (.c (.d (.bool false)))⟩] []) <|
    .seq (.reg [⟨some 4, none, .call 7 [(false, .c (.d (.str [97, 95, 49, 32, 61, 32, 48, 120, 49, 70, 59])))]⟩,
      ⟨some 3, none, .mov false (.t 4)⟩,
      ⟨some 5, none, .ext (.t 3) 0⟩,
      ⟨some 6, none, .ext (.t 3) 1⟩,
      ⟨some 2, none, .zbox [.int .i64 0, .int .i64 0, .int .i64 0, .int .i64 0]⟩,
      ⟨some 1, none, .mov true (.t 5)⟩,
      ⟨none, none, .store 4 (.t 2) (.t 6)⟩] [1, 2, 2]) <|
    .seq (.reg [⟨some 7, none, .load (some 4) (.t 2)⟩,
      ⟨some 8, none, .build [.int .i64 0, .int .i64 0, .int .i64 0, .int .i64 0] []⟩,
      ⟨some 9, none, .eqs false 4 (.t 7) (.t 8)⟩,
      ⟨some 10, none, .mov false (.t 9)⟩,
      ⟨some 11, some (10, true), .mov true (.t 1)⟩,
      ⟨some 12, some (10, true), .build [.int .i64 0, .str [], .int .u64 0, .slice 0 [], .int .i64 0, .int .i64 0] [(0, 1, .c (.d (.int .i64 1))), (1, 1, .c (.d (.str [97, 95, 49]))), (4, 1, .c (.d (.int .i64 1))), (5, 1, .c (.d (.int .i64 1)))]⟩,
      ⟨some 13, some (10, true), .build [.int .i64 0, .str [], .int .u64 0, .slice 0 [], .int .i64 0, .int .i64 0] [(0, 1, .c (.d (.int .i64 4))), (1, 1, .c (.d (.str [61]))), (4, 1, .c (.d (.int .i64 1))), (5, 1, .c (.d (.int .i64 5)))]⟩,
      ⟨some 14, some (10, true), .build [.int .i64 0, .str [], .int .u64 0, .slice 0 [], .int .i64 0, .int .i64 0] [(0, 1, .c (.d (.int .i64 2))), (1, 1, .c (.d (.str [48, 120, 49, 70]))), (2, 1, .c (.d (.int .u64 31))), (4, 1, .c (.d (.int .i64 1))), (5, 1, .c (.d (.int .i64 7)))]⟩,
      ⟨some 15, some (10, true), .build [.int .i64 0, .str [], .int .u64 0, .slice 0 [], .int .i64 0, .int .i64 0] [(0, 1, .c (.d (.int .i64 4))), (1, 1, .c (.d (.str [59]))), (4, 1, .c (.d (.int .i64 1))), (5, 1, .c (.d (.int .i64 11)))]⟩,
      ⟨some 16, some (10, true), .build [.int .i64 0, .str [], .int .u64 0, .slice 0 [], .int .i64 0, .int .i64 0] [(0, 1, .c (.d (.int .i64 5))), (4, 1, .c (.d (.int .i64 1))), (5, 1, .c (.d (.int .i64 12)))]⟩,
      ⟨some 17, some (10, true), .mk 6 [.t 12, .t 13, .t 14, .t 15, .t 16]⟩,
      ⟨some 18, some (10, true), .call 9 [(false, .t 11), (false, .t 17)]⟩,
      ⟨some 19, none, .pick (.t 10) (.t 18) (.c (.d (.bool false)))⟩,
      ⟨some 0, none, .mov false (.t 19)⟩] [0]) <|
    .ret
/- cartouche/cartouchelaw4.same -/
def l_law4_same_1 : SC :=
  .seq (.seq (.reg [⟨some 13, none, .mov false (.t 5)⟩,
      ⟨some 14, none, .mov false (.t 0)⟩,
      ⟨some 15, none, .len false (.t 14)⟩,
      ⟨some 16, none, .bin .i .lss (.t 13) (.t 15)⟩] [0, 1, 5, 16]) <|
    .cond (.t 16)
      (.skip)
      (.exit 0)) <|
    .seq (.block 1 <| .seq (.reg [⟨some 19, none, .mov false (.t 0)⟩,
      ⟨some 20, none, .mov false (.t 5)⟩,
      ⟨some 21, none, .iaddr 6 (.t 19) (.t 20)⟩,
      ⟨some 22, none, .load (some 6) (.t 21)⟩,
      ⟨some 6, none, .zbox [.int .i64 0, .str [], .int .u64 0, .slice 0 [], .int .i64 0, .int .i64 0]⟩,
      ⟨none, none, .store 6 (.t 6) (.t 22)⟩] [0, 1, 5, 6]) <|
    .seq (.reg [⟨some 23, none, .mov false (.t 1)⟩,
      ⟨some 24, none, .mov false (.t 5)⟩,
      ⟨some 25, none, .iaddr 6 (.t 23) (.t 24)⟩,
      ⟨some 26, none, .load (some 6) (.t 25)⟩,
      ⟨some 7, none, .zbox [.int .i64 0, .str [], .int .u64 0, .slice 0 [], .int .i64 0, .int .i64 0]⟩,
      ⟨none, none, .store 6 (.t 7) (.t 26)⟩] [0, 1, 5, 6, 7]) <|
    .seq (.reg [⟨some 27, none, .faddr 0 none (.t 6)⟩,
      ⟨some 28, none, .load none (.t 27)⟩,
      ⟨some 29, none, .faddr 0 none (.t 7)⟩,
      ⟨some 30, none, .load none (.t 29)⟩,
      ⟨some 31, none, .bin .i .neq (.t 28) (.t 30)⟩,
      ⟨some 32, none, .mov false (.t 31)⟩,
      ⟨some 33, some (32, false), .faddr 1 none (.t 6)⟩,
      ⟨some 34, some (32, false), .load none (.t 33)⟩,
      ⟨some 35, some (32, false), .faddr 1 none (.t 7)⟩,
      ⟨some 36, some (32, false), .load none (.t 35)⟩,
      ⟨some 37, some (32, false), .bin .s .neq (.t 34) (.t 36)⟩,
      ⟨some 38, none, .pick (.t 32) (.c (.d (.bool true))) (.t 37)⟩,
      ⟨some 39, none, .mov false (.t 38)⟩,
      ⟨some 40, some (39, false), .faddr 2 none (.t 6)⟩,
      ⟨some 41, some (39, false), .load none (.t 40)⟩,
      ⟨some 42, some (39, false), .faddr 2 none (.t 7)⟩,
      ⟨some 43, some (39, false), .load none (.t 42)⟩,
      ⟨some 44, some (39, false), .bin .i .neq (.t 41) (.t 43)⟩,
      ⟨some 45, none, .pick (.t 39) (.c (.d (.bool true))) (.t 44)⟩,
      ⟨some 46, none, .mov false (.t 45)⟩,
      ⟨some 47, some (46, false), .faddr 3 none (.t 6)⟩,
      ⟨some 48, some (46, false), .load none (.t 47)⟩,
      ⟨some 49, some (46, false), .cstr (.t 48)⟩,
      ⟨some 50, some (46, false), .faddr 3 none (.t 7)⟩,
      ⟨some 51, some (46, false), .load none (.t 50)⟩,
      ⟨some 52, some (46, false), .cstr (.t 51)⟩,
      ⟨some 53, some (46, false), .bin .s .neq (.t 49) (.t 52)⟩,
      ⟨some 54, none, .pick (.t 46) (.c (.d (.bool true))) (.t 53)⟩,
      ⟨some 55, none, .mov false (.t 54)⟩,
      ⟨some 56, some (55, false), .faddr 4 none (.t 6)⟩,
      ⟨some 57, some (55, false), .load none (.t 56)⟩,
      ⟨some 58, some (55, false), .faddr 4 none (.t 7)⟩,
      ⟨some 59, some (55, false), .load none (.t 58)⟩,
      ⟨some 60, some (55, false), .bin .i .neq (.t 57) (.t 59)⟩,
      ⟨some 61, none, .pick (.t 55) (.c (.d (.bool true))) (.t 60)⟩,
      ⟨some 62, none, .mov false (.t 61)⟩,
      ⟨some 63, some (62, false), .faddr 5 none (.t 6)⟩,
      ⟨some 64, some (62, false), .load none (.t 63)⟩,
      ⟨some 65, some (62, false), .faddr 5 none (.t 7)⟩,
      ⟨some 66, some (62, false), .load none (.t 65)⟩,
      ⟨some 67, some (62, false), .bin .i .neq (.t 64) (.t 66)⟩,
      ⟨some 68, none, .pick (.t 62) (.c (.d (.bool true))) (.t 67)⟩] [0, 1, 5, 68]) <|
    .cond (.t 68)
      (.seq (.reg [⟨some 4, none, .mov false (.c (.d (.bool false)))⟩] [4]) <|
      .ret)
      (.skip)) <|
    .reg [⟨some 17, none, .mov false (.t 5)⟩,
      ⟨some 18, none, .bin .i .add (.t 17) (.c (.d (.int .i64 1)))⟩,
      ⟨some 5, none, .mov false (.t 18)⟩] [0, 1, 5]
def n_law4_same : Nat := 9
def f_law4_same : SFunc where
  np := 2
  res := [.slot 4]
  body := .seq (.reg [⟨some 4, none, .mov false (.c (.d (.bool false)))⟩] [0, 1]) <|
    .seq (.seq (.reg [⟨some 8, none, .mov false (.t 0)⟩,
      ⟨some 9, none, .len false (.t 8)⟩,
      ⟨some 10, none, .mov false (.t 1)⟩,
      ⟨some 11, none, .len false (.t 10)⟩,
      ⟨some 12, none, .bin .i .neq (.t 9) (.t 11)⟩] [0, 1, 12]) <|
    .cond (.t 12)
      (.seq (.reg [⟨some 4, none, .mov false (.c (.d (.bool false)))⟩] [4]) <|
      .ret)
      (.skip)) <|
    .seq (.seq (.reg [⟨some 5, none, .mov false (.c (.d (.int .i64 0)))⟩] [0, 1, 5]) <|
    .block 0 <| .loop l_law4_same_1) <|
    .seq (.reg [⟨some 4, none, .mov false (.c (.d (.bool true)))⟩] [4]) <|
    .ret
/- cartouche/cartouchelaw4.fails -/
def n_law4_fails : Nat := 10
def f_law4_fails : SFunc where
  np := 4
  res := [.slot 8]
  body := .seq (.reg [⟨some 8, none, .mov false (.c (.d (.bool false)))⟩] [0, 1, 2, 3]) <|
    .seq (.reg [⟨some 12, none, .mov false (.t 0)⟩,
      ⟨some 13, none, .call 7 [(false, .t 12)]⟩,
      ⟨some 11, none, .mov false (.t 13)⟩,
      ⟨some 14, none, .ext (.t 11) 0⟩,
      ⟨some 15, none, .ext (.t 11) 1⟩,
      ⟨some 10, none, .zbox [.int .i64 0, .int .i64 0, .int .i64 0, .int .i64 0]⟩,
      ⟨some 9, none, .mov true (.t 14)⟩,
      ⟨none, none, .store 4 (.t 10) (.t 15)⟩] [1, 2, 3, 9, 10, 10]) <|
    .seq (.reg [⟨some 16, none, .mov true (.t 9)⟩,
      ⟨some 17, none, .len false (.t 16)⟩,
      ⟨some 18, none, .bin .i .eql (.t 17) (.c (.d (.int .i64 0)))⟩,
      ⟨some 19, none, .mov false (.t 18)⟩,
      ⟨some 20, some (19, true), .load (some 4) (.t 10)⟩,
      ⟨some 21, some (19, true), .mov false (.t 1)⟩,
      ⟨some 22, some (19, true), .mov false (.t 2)⟩,
      ⟨some 23, some (19, true), .mov false (.t 3)⟩,
      ⟨some 24, some (19, true), .build [.int .i64 0, .int .i64 0, .int .i64 0, .int .i64 0] [(0, 1, .t 21), (2, 1, .t 22), (3, 1, .t 23)]⟩,
      ⟨some 25, some (19, true), .eqs false 4 (.t 20) (.t 24)⟩,
      ⟨some 26, none, .pick (.t 19) (.t 25) (.c (.d (.bool false)))⟩,
      ⟨some 8, none, .mov false (.t 26)⟩] [8]) <|
    .ret
/- cartouche/cartoucheref4.Split -/
def l_ref4_Split_4 : SC :=
  .seq (.seq (.reg [⟨some 71, none, .mov false (.t 11)⟩,
      ⟨some 72, none, .mov false (.t 0)⟩,
      ⟨some 73, none, .len true (.t 72)⟩,
      ⟨some 74, none, .bin .i .lss (.t 71) (.t 73)⟩,
      ⟨some 75, none, .mov false (.t 74)⟩,
      ⟨some 76, some (75, true), .mov false (.t 0)⟩,
      ⟨some 77, some (75, true), .mov false (.t 11)⟩,
      ⟨some 78, some (75, true), .sidx (.t 76) (.t 77)⟩,
      ⟨some 79, some (75, true), .call 23 [(false, .t 78)]⟩,
      ⟨some 80, some (75, true), .mov false (.t 79)⟩,
      ⟨some 81, some (80, false), .mov false (.t 0)⟩,
      ⟨some 82, some (80, false), .mov false (.t 11)⟩,
      ⟨some 83, some (80, false), .sidx (.t 81) (.t 82)⟩,
      ⟨some 84, some (80, false), .call 24 [(false, .t 83)]⟩,
      ⟨some 85, some (75, true), .pick (.t 80) (.c (.d (.bool true))) (.t 84)⟩,
      ⟨some 86, none, .pick (.t 75) (.t 85) (.c (.d (.bool false)))⟩] [0, 3, 3, 4, 5, 5, 6, 10, 10, 11, 86]) <|
    .cond (.t 86)
      (.skip)
      (.exit 3)) <|
    .block 4 <| .reg [⟨some 87, none, .mov false (.t 11)⟩,
      ⟨some 88, none, .bin .i .add (.t 87) (.c (.d (.int .i64 1)))⟩,
      ⟨some 11, none, .mov false (.t 88)⟩] [0, 3, 3, 4, 5, 5, 6, 10, 10, 11]
def l_ref4_Split_0 : SC :=
  .block 1 <| .seq (.reg [⟨some 25, none, .mov false (.t 0)⟩,
      ⟨some 26, none, .faddr 0 none (.t 5)⟩,
      ⟨some 27, none, .load none (.t 26)⟩,
      ⟨some 28, none, .call 21 [(false, .t 25), (false, .t 27)]⟩,
      ⟨some 24, none, .mov false (.t 28)⟩,
      ⟨some 29, none, .ext (.t 24) 0⟩,
      ⟨some 30, none, .ext (.t 24) 1⟩,
      ⟨some 6, none, .mov false (.t 29)⟩,
      ⟨some 7, none, .mov false (.t 30)⟩] [0, 3, 3, 4, 5, 6, 7]) <|
    .seq (.reg [⟨some 31, none, .mov false (.t 0)⟩,
      ⟨some 32, none, .load (some 3) (.t 5)⟩,
      ⟨some 33, none, .mov false (.t 6)⟩,
      ⟨some 34, none, .call 22 [(false, .t 31), (false, .t 32), (false, .t 33)]⟩,
      ⟨none, none, .store 3 (.t 5) (.t 34)⟩] [0, 3, 3, 4, 5, 6, 7]) <|
    .seq (.reg [⟨some 35, none, .faddr 1 none (.t 5)⟩,
      ⟨some 36, none, .load none (.t 35)⟩,
      ⟨some 37, none, .faddr 2 none (.t 5)⟩,
      ⟨some 38, none, .load none (.t 37)⟩,
      ⟨some 39, none, .build [.int .i64 0, .int .i64 0, .int .i64 0, .int .i64 0] [(0, 1, .c (.d (.int .i64 11))), (2, 1, .t 36), (3, 1, .t 38)]⟩,
      ⟨some 8, none, .zbox [.int .i64 0, .int .i64 0, .int .i64 0, .int .i64 0]⟩,
      ⟨none, none, .store 4 (.t 8) (.t 39)⟩] [0, 3, 3, 4, 5, 6, 7, 8, 8]) <|
    .seq (.seq (.reg [⟨some 40, none, .mov false (.t 7)⟩,
      ⟨some 41, none, .not (.t 40)⟩] [0, 3, 3, 4, 5, 6, 8, 8, 41]) <|
    .cond (.t 41)
      (.seq (.reg [⟨some 42, none, .load (some 4) (.t 8)⟩,
        ⟨some 2, none, .mov true (.c (.own 6 []))⟩,
        ⟨none, none, .store 4 (.t 3) (.t 42)⟩] [2, 3, 3]) <|
      .ret)
      (.skip)) <|
    .seq (.seq (.reg [⟨some 43, none, .mov false (.t 6)⟩,
      ⟨some 44, none, .mov false (.t 0)⟩,
      ⟨some 45, none, .len true (.t 44)⟩,
      ⟨some 46, none, .bin .i .eql (.t 43) (.t 45)⟩] [0, 3, 3, 4, 5, 6, 8, 8, 46]) <|
    .cond (.t 46)
      (.seq (.reg [⟨some 47, none, .mov true (.t 4)⟩,
        ⟨some 48, none, .faddr 1 none (.t 5)⟩,
        ⟨some 49, none, .load none (.t 48)⟩,
        ⟨some 50, none, .faddr 2 none (.t 5)⟩,
        ⟨some 51, none, .load none (.t 50)⟩,
        ⟨some 52, none, .build [.int .i64 0, .str [], .int .u64 0, .slice 0 [], .int .i64 0, .int .i64 0] [(0, 1, .c (.d (.int .i64 5))), (4, 1, .t 49), (5, 1, .t 51)]⟩,
        ⟨some 53, none, .mk 6 [.t 52]⟩,
        ⟨some 54, none, .app false 6 72 (.t 47) (.t 53)⟩,
        ⟨some 55, none, .build [.int .i64 0, .int .i64 0, .int .i64 0, .int .i64 0] []⟩,
        ⟨some 2, none, .mov true (.t 54)⟩,
        ⟨none, none, .store 4 (.t 3) (.t 55)⟩] [2, 3, 3]) <|
      .ret)
      (.skip)) <|
    .seq (.reg [⟨some 56, none, .mov false (.t 0)⟩,
      ⟨some 57, none, .mov false (.t 6)⟩,
      ⟨some 58, none, .sidx (.t 56) (.t 57)⟩,
      ⟨some 9, none, .mov false (.t 58)⟩] [0, 3, 3, 4, 5, 5, 6, 8, 8, 9]) <|
    .seq (.reg [⟨some 59, none, .faddr 1 none (.t 5)⟩,
      ⟨some 60, none, .load none (.t 59)⟩,
      ⟨some 61, none, .faddr 2 none (.t 5)⟩,
      ⟨some 62, none, .load none (.t 61)⟩,
      ⟨some 63, none, .build [.int .i64 0, .str [], .int .u64 0, .slice 0 [], .int .i64 0, .int .i64 0] [(4, 1, .t 60), (5, 1, .t 62)]⟩,
      ⟨some 10, none, .zbox [.int .i64 0, .str [], .int .u64 0, .slice 0 [], .int .i64 0, .int .i64 0]⟩,
      ⟨none, none, .store 6 (.t 10) (.t 63)⟩] [0, 3, 3, 4, 5, 5, 6, 8, 8, 9, 10, 10]) <|
    .seq (.reg [⟨some 64, none, .mov false (.t 6)⟩,
      ⟨some 65, none, .bin .i .add (.t 64) (.c (.d (.int .i64 1)))⟩,
      ⟨some 11, none, .mov false (.t 65)⟩] [0, 3, 3, 4, 5, 5, 6, 8, 8, 9, 10, 10, 11]) <|
    .seq (.block 2 <| .seq (.reg [⟨some 68, none, .mov false (.t 9)⟩,
      ⟨some 69, none, .call 23 [(false, .t 68)]⟩,
      ⟨some 67, none, .mov false (.t 69)⟩] [0, 3, 3, 4, 5, 5, 6, 8, 8, 9, 10, 10, 11, 67]) <|
    .cond (.t 67)
      (.seq (.reg [⟨some 70, none, .faddr 0 none (.t 10)⟩,
        ⟨none, none, .store 1 (.t 70) (.c (.d (.int .i64 1)))⟩] [0, 3, 3, 4, 5, 5, 6, 10, 10, 11]) <|
      .block 3 <| .loop l_ref4_Split_4)
      (.seq (.reg [⟨some 90, none, .mov false (.t 9)⟩,
        ⟨some 91, none, .call 24 [(false, .t 90)]⟩,
        ⟨some 89, none, .mov false (.t 91)⟩] [0, 3, 3, 4, 5, 6, 8, 8, 9, 10, 10, 11, 89]) <|
      .cond (.t 89)
        (.seq (.reg [⟨some 92, none, .faddr 0 none (.t 10)⟩,
          ⟨none, none, .store 1 (.t 92) (.c (.d (.int .i64 2)))⟩] [0, 3, 3, 4, 5, 6, 8, 8, 10, 10]) <|
        .seq (.reg [⟨some 94, none, .mov false (.t 0)⟩,
          ⟨some 95, none, .mov false (.t 6)⟩,
          ⟨some 96, none, .call 25 [(false, .t 94), (false, .t 95)]⟩,
          ⟨some 93, none, .mov false (.t 96)⟩,
          ⟨some 97, none, .ext (.t 93) 0⟩,
          ⟨some 98, none, .ext (.t 93) 1⟩,
          ⟨some 99, none, .ext (.t 93) 2⟩,
          ⟨some 12, none, .mov false (.t 97)⟩,
          ⟨some 13, none, .mov false (.t 98)⟩,
          ⟨some 14, none, .mov false (.t 99)⟩] [0, 3, 3, 4, 5, 6, 8, 8, 10, 10, 12, 13, 14]) <|
        .seq (.seq (.reg [⟨some 100, none, .mov false (.t 14)⟩,
          ⟨some 101, none, .bin .i .neq (.t 100) (.c (.d (.int .i64 0)))⟩] [0, 3, 3, 4, 5, 6, 8, 8, 10, 10, 12, 13, 14, 101]) <|
        .cond (.t 101)
          (.seq (.reg [⟨some 102, none, .mov false (.t 14)⟩,
            ⟨some 103, none, .faddr 0 none (.t 8)⟩,
            ⟨none, none, .store 1 (.t 103) (.t 102)⟩] [3, 3, 8, 8]) <|
          .seq (.reg [⟨some 104, none, .load (some 4) (.t 8)⟩,
            ⟨some 2, none, .mov true (.c (.own 6 []))⟩,
            ⟨none, none, .store 4 (.t 3) (.t 104)⟩] [2, 3, 3]) <|
          .ret)
          (.skip)) <|
        .seq (.reg [⟨some 105, none, .mov false (.t 12)⟩,
          ⟨some 11, none, .mov false (.t 105)⟩] [0, 3, 3, 4, 5, 6, 10, 10, 11, 13]) <|
        .reg [⟨some 106, none, .mov false (.t 13)⟩,
          ⟨some 107, none, .faddr 2 none (.t 10)⟩,
          ⟨none, none, .store 1 (.t 107) (.t 106)⟩] [0, 3, 3, 4, 5, 6, 10, 10, 11])
        (.seq (.reg [⟨some 109, none, .mov false (.t 9)⟩,
          ⟨some 110, none, .bin .i .eql (.t 109) (.c (.d (.int .u8 34)))⟩,
          ⟨some 108, none, .mov false (.t 110)⟩] [0, 3, 3, 4, 5, 6, 8, 8, 9, 10, 10, 11, 108]) <|
        .cond (.t 108)
          (.seq (.reg [⟨some 111, none, .faddr 0 none (.t 10)⟩,
            ⟨none, none, .store 1 (.t 111) (.c (.d (.int .i64 3)))⟩] [0, 3, 3, 4, 5, 6, 8, 8, 10, 10]) <|
          .seq (.reg [⟨some 113, none, .mov false (.t 0)⟩,
            ⟨some 114, none, .mov false (.t 6)⟩,
            ⟨some 115, none, .call 26 [(false, .t 113), (false, .t 114)]⟩,
            ⟨some 112, none, .mov false (.t 115)⟩,
            ⟨some 116, none, .ext (.t 112) 0⟩,
            ⟨some 117, none, .ext (.t 112) 1⟩,
            ⟨some 15, none, .mov false (.t 116)⟩,
            ⟨some 16, none, .mov false (.t 117)⟩] [0, 3, 3, 4, 5, 6, 8, 8, 10, 10, 15, 16]) <|
          .seq (.seq (.reg [⟨some 118, none, .mov false (.t 16)⟩,
            ⟨some 119, none, .not (.t 118)⟩] [0, 3, 3, 4, 5, 6, 8, 8, 10, 10, 15, 119]) <|
          .cond (.t 119)
            (.seq (.reg [⟨some 120, none, .load (some 4) (.t 8)⟩,
              ⟨some 2, none, .mov true (.c (.own 6 []))⟩,
              ⟨none, none, .store 4 (.t 3) (.t 120)⟩] [2, 3, 3]) <|
            .ret)
            (.skip)) <|
          .seq (.reg [⟨some 122, none, .mov false (.t 0)⟩,
            ⟨some 123, none, .mov false (.t 6)⟩,
            ⟨some 124, none, .mov false (.t 15)⟩,
            ⟨some 125, none, .slcs (.t 122) (some (.t 123)) (some (.t 124))⟩,
            ⟨some 126, none, .call 27 [(false, .t 125)]⟩,
            ⟨some 121, none, .mov false (.t 126)⟩,
            ⟨some 127, none, .ext (.t 121) 0⟩,
            ⟨some 128, none, .ext (.t 121) 1⟩,
            ⟨some 17, none, .mov true (.t 127)⟩,
            ⟨some 18, none, .mov false (.t 128)⟩] [0, 3, 3, 4, 5, 6, 8, 8, 10, 10, 15, 17, 18]) <|
          .seq (.seq (.reg [⟨some 129, none, .mov false (.t 18)⟩,
            ⟨some 130, none, .not (.t 129)⟩] [0, 3, 3, 4, 5, 6, 8, 8, 10, 10, 15, 17, 130]) <|
          .cond (.t 130)
            (.seq (.reg [⟨some 131, none, .load (some 4) (.t 8)⟩,
              ⟨some 2, none, .mov true (.c (.own 6 []))⟩,
              ⟨none, none, .store 4 (.t 3) (.t 131)⟩] [2, 3, 3]) <|
            .ret)
            (.skip)) <|
          .seq (.reg [⟨some 132, none, .mov false (.t 15)⟩,
            ⟨some 11, none, .mov false (.t 132)⟩] [0, 3, 3, 4, 5, 6, 10, 10, 11, 17]) <|
          .reg [⟨some 133, none, .mov true (.t 17)⟩,
            ⟨some 134, none, .faddr 3 none (.t 10)⟩,
            ⟨none, none, .store 1 (.t 134) (.t 133)⟩] [0, 3, 3, 4, 5, 6, 10, 10, 11])
          (.seq (.reg [⟨some 136, none, .mov false (.t 9)⟩,
            ⟨some 137, none, .call 28 [(false, .t 136)]⟩,
            ⟨some 135, none, .mov false (.t 137)⟩] [0, 3, 3, 4, 5, 6, 8, 8, 10, 10, 11, 135]) <|
          .cond (.t 135)
            (.reg [⟨some 138, none, .faddr 0 none (.t 10)⟩,
              ⟨none, none, .store 1 (.t 138) (.c (.d (.int .i64 4)))⟩] [0, 3, 3, 4, 5, 6, 10, 10, 11])
            (.seq (.reg [⟨some 66, none, .load (some 4) (.t 8)⟩,
              ⟨some 2, none, .mov true (.c (.own 6 []))⟩,
              ⟨none, none, .store 4 (.t 3) (.t 66)⟩] [2, 3, 3]) <|
            .ret))))) <|
    .seq (.reg [⟨some 139, none, .mov false (.t 0)⟩,
      ⟨some 140, none, .mov false (.t 6)⟩,
      ⟨some 141, none, .mov false (.t 11)⟩,
      ⟨some 142, none, .slcs (.t 139) (some (.t 140)) (some (.t 141))⟩,
      ⟨some 143, none, .faddr 1 none (.t 10)⟩,
      ⟨none, none, .store 1 (.t 143) (.t 142)⟩] [0, 3, 3, 4, 5, 10, 10, 11]) <|
    .seq (.reg [⟨some 144, none, .mov true (.t 4)⟩,
      ⟨some 145, none, .load (some 6) (.t 10)⟩,
      ⟨some 146, none, .mk 6 [.t 145]⟩,
      ⟨some 147, none, .app false 6 72 (.t 144) (.t 146)⟩,
      ⟨some 4, none, .mov true (.t 147)⟩] [0, 3, 3, 4, 5, 11]) <|
    .reg [⟨some 148, none, .mov false (.t 0)⟩,
      ⟨some 149, none, .load (some 3) (.t 5)⟩,
      ⟨some 150, none, .mov false (.t 11)⟩,
      ⟨some 151, none, .call 22 [(false, .t 148), (false, .t 149), (false, .t 150)]⟩,
      ⟨none, none, .store 3 (.t 5) (.t 151)⟩] [0, 3, 3, 4, 5]
def n_ref4_Split : Nat := 11
def f_ref4_Split : SFunc where
  np := 1
  res := [.slot 2, .cell 3 (some 4)]
  body := .seq (.reg [⟨some 2, none, .mov true (.c (.own 6 []))⟩,
      ⟨some 3, none, .zbox [.int .i64 0, .int .i64 0, .int .i64 0, .int .i64 0]⟩] [0, 3, 3]) <|
    .seq (.seq (.reg [⟨some 19, none, .mov false (.t 0)⟩,
      ⟨some 20, none, .len true (.t 19)⟩,
      ⟨some 21, none, .bin .i .gtr (.t 20) (.c (.d (.int .i64 65536)))⟩] [0, 3, 3, 21]) <|
    .cond (.t 21)
      (.seq (.reg [⟨some 22, none, .build [.int .i64 0, .int .i64 0, .int .i64 0, .int .i64 0] [(0, 1, .c (.d (.int .i64 1)))]⟩,
        ⟨some 2, none, .mov true (.c (.own 6 []))⟩,
        ⟨none, none, .store 4 (.t 3) (.t 22)⟩] [2, 3, 3]) <|
      .ret)
      (.skip)) <|
    .seq (.reg [⟨some 4, none, .mov true (.c (.own 6 []))⟩] [0, 3, 3, 4]) <|
    .seq (.reg [⟨some 23, none, .build [.int .i64 0, .int .i64 0, .int .i64 0] [(0, 1, .c (.d (.int .i64 0))), (1, 1, .c (.d (.int .i64 1))), (2, 1, .c (.d (.int .i64 1)))]⟩,
      ⟨some 5, none, .zbox [.int .i64 0, .int .i64 0, .int .i64 0]⟩,
      ⟨none, none, .store 3 (.t 5) (.t 23)⟩] [0, 3, 3, 4, 5]) <|
    .block 0 <| .loop l_ref4_Split_0
/- cartouche/cartouchelaw4.like -/
def l_law4_like_1 : SC :=
  .seq (.seq (.reg [⟨some 11, none, .mov false (.t 5)⟩,
      ⟨some 12, none, .mov false (.t 0)⟩,
      ⟨some 13, none, .len false (.t 12)⟩,
      ⟨some 14, none, .bin .i .lss (.t 11) (.t 13)⟩] [0, 1, 5, 14]) <|
    .cond (.t 14)
      (.skip)
      (.exit 0)) <|
    .seq (.block 1 <| .seq (.reg [⟨some 17, none, .mov false (.t 0)⟩,
      ⟨some 18, none, .mov false (.t 5)⟩,
      ⟨some 19, none, .iaddr 6 (.t 17) (.t 18)⟩,
      ⟨some 20, none, .faddr 0 none (.t 19)⟩,
      ⟨some 21, none, .load none (.t 20)⟩,
      ⟨some 22, none, .mov false (.t 1)⟩,
      ⟨some 23, none, .mov false (.t 5)⟩,
      ⟨some 24, none, .iaddr 6 (.t 22) (.t 23)⟩,
      ⟨some 25, none, .faddr 0 none (.t 24)⟩,
      ⟨some 26, none, .load none (.t 25)⟩,
      ⟨some 27, none, .bin .i .neq (.t 21) (.t 26)⟩,
      ⟨some 28, none, .mov false (.t 27)⟩,
      ⟨some 29, some (28, false), .mov false (.t 0)⟩,
      ⟨some 30, some (28, false), .mov false (.t 5)⟩,
      ⟨some 31, some (28, false), .iaddr 6 (.t 29) (.t 30)⟩,
      ⟨some 32, some (28, false), .faddr 1 none (.t 31)⟩,
      ⟨some 33, some (28, false), .load none (.t 32)⟩,
      ⟨some 34, some (28, false), .mov false (.t 1)⟩,
      ⟨some 35, some (28, false), .mov false (.t 5)⟩,
      ⟨some 36, some (28, false), .iaddr 6 (.t 34) (.t 35)⟩,
      ⟨some 37, some (28, false), .faddr 1 none (.t 36)⟩,
      ⟨some 38, some (28, false), .load none (.t 37)⟩,
      ⟨some 39, some (28, false), .bin .s .neq (.t 33) (.t 38)⟩,
      ⟨some 40, none, .pick (.t 28) (.c (.d (.bool true))) (.t 39)⟩,
      ⟨some 41, none, .mov false (.t 40)⟩,
      ⟨some 42, some (41, false), .mov false (.t 0)⟩,
      ⟨some 43, some (41, false), .mov false (.t 5)⟩,
      ⟨some 44, some (41, false), .iaddr 6 (.t 42) (.t 43)⟩,
      ⟨some 45, some (41, false), .faddr 2 none (.t 44)⟩,
      ⟨some 46, some (41, false), .load none (.t 45)⟩,
      ⟨some 47, some (41, false), .mov false (.t 1)⟩,
      ⟨some 48, some (41, false), .mov false (.t 5)⟩,
      ⟨some 49, some (41, false), .iaddr 6 (.t 47) (.t 48)⟩,
      ⟨some 50, some (41, false), .faddr 2 none (.t 49)⟩,
      ⟨some 51, some (41, false), .load none (.t 50)⟩,
      ⟨some 52, some (41, false), .bin .i .neq (.t 46) (.t 51)⟩,
      ⟨some 53, none, .pick (.t 41) (.c (.d (.bool true))) (.t 52)⟩,
      ⟨some 54, none, .mov false (.t 53)⟩,
      ⟨some 55, some (54, false), .mov false (.t 0)⟩,
      ⟨some 56, some (54, false), .mov false (.t 5)⟩,
      ⟨some 57, some (54, false), .iaddr 6 (.t 55) (.t 56)⟩,
      ⟨some 58, some (54, false), .faddr 3 none (.t 57)⟩,
      ⟨some 59, some (54, false), .load none (.t 58)⟩,
      ⟨some 60, some (54, false), .cstr (.t 59)⟩,
      ⟨some 61, some (54, false), .mov false (.t 1)⟩,
      ⟨some 62, some (54, false), .mov false (.t 5)⟩,
      ⟨some 63, some (54, false), .iaddr 6 (.t 61) (.t 62)⟩,
      ⟨some 64, some (54, false), .faddr 3 none (.t 63)⟩,
      ⟨some 65, some (54, false), .load none (.t 64)⟩,
      ⟨some 66, some (54, false), .cstr (.t 65)⟩,
      ⟨some 67, some (54, false), .bin .s .neq (.t 60) (.t 66)⟩,
      ⟨some 68, none, .pick (.t 54) (.c (.d (.bool true))) (.t 67)⟩] [0, 1, 5, 68]) <|
    .cond (.t 68)
      (.seq (.reg [⟨some 4, none, .mov false (.c (.d (.bool false)))⟩] [4]) <|
      .ret)
      (.skip)) <|
    .reg [⟨some 15, none, .mov false (.t 5)⟩,
      ⟨some 16, none, .bin .i .add (.t 15) (.c (.d (.int .i64 1)))⟩,
      ⟨some 5, none, .mov false (.t 16)⟩] [0, 1, 5]
def n_law4_like : Nat := 12
def f_law4_like : SFunc where
  np := 2
  res := [.slot 4]
  body := .seq (.reg [⟨some 4, none, .mov false (.c (.d (.bool false)))⟩] [0, 1]) <|
    .seq (.seq (.reg [⟨some 6, none, .mov false (.t 0)⟩,
      ⟨some 7, none, .len false (.t 6)⟩,
      ⟨some 8, none, .mov false (.t 1)⟩,
      ⟨some 9, none, .len false (.t 8)⟩,
      ⟨some 10, none, .bin .i .neq (.t 7) (.t 9)⟩] [0, 1, 10]) <|
    .cond (.t 10)
      (.seq (.reg [⟨some 4, none, .mov false (.c (.d (.bool false)))⟩] [4]) <|
      .ret)
      (.skip)) <|
    .seq (.seq (.reg [⟨some 5, none, .mov false (.c (.d (.int .i64 0)))⟩] [0, 1, 5]) <|
    .block 0 <| .loop l_law4_like_1) <|
    .seq (.reg [⟨some 4, none, .mov false (.c (.d (.bool true)))⟩] [4]) <|
    .ret
/- strings.HasPrefix -/
def n_strings_HasPrefix : Nat := 13
def f_strings_HasPrefix : SFunc where
  np := 2
  res := [.slot 4]
  body := .seq (.reg [⟨some 4, none, .mov false (.c (.d (.bool false)))⟩] [0, 1]) <|
    .seq (.reg [⟨some 5, none, .mov false (.t 0)⟩,
      ⟨some 6, none, .mov false (.t 1)⟩,
      ⟨some 7, none, .call 29 [(false, .t 5), (false, .t 6)]⟩,
      ⟨some 4, none, .mov false (.t 7)⟩] [4]) <|
    .ret
/- cartouche/lex.letter -/
def n_lex_letter : Nat := 15
def f_lex_letter : SFunc where
  np := 1
  res := [.slot 2]
  body := .seq (.reg [⟨some 2, none, .mov false (.c (.d (.bool false)))⟩] [0]) <|
    .seq (.reg [⟨some 3, none, .mov false (.t 0)⟩,
      ⟨some 4, none, .bin .i .geq (.t 3) (.c (.d (.int .u8 97)))⟩,
      ⟨some 5, none, .mov false (.t 4)⟩,
      ⟨some 6, some (5, true), .mov false (.t 0)⟩,
      ⟨some 7, some (5, true), .bin .i .leq (.t 6) (.c (.d (.int .u8 122)))⟩,
      ⟨some 8, none, .pick (.t 5) (.t 7) (.c (.d (.bool false)))⟩,
      ⟨some 9, none, .mov false (.t 8)⟩,
      ⟨some 10, some (9, false), .mov false (.t 0)⟩,
      ⟨some 11, some (9, false), .bin .i .geq (.t 10) (.c (.d (.int .u8 65)))⟩,
      ⟨some 12, some (9, false), .mov false (.t 11)⟩,
      ⟨some 13, some (12, true), .mov false (.t 0)⟩,
      ⟨some 14, some (12, true), .bin .i .leq (.t 13) (.c (.d (.int .u8 90)))⟩,
      ⟨some 15, some (9, false), .pick (.t 12) (.t 14) (.c (.d (.bool false)))⟩,
      ⟨some 16, none, .pick (.t 9) (.c (.d (.bool true))) (.t 15)⟩,
      ⟨some 17, none, .mov false (.t 16)⟩,
      ⟨some 18, some (17, false), .mov false (.t 0)⟩,
      ⟨some 19, some (17, false), .bin .i .eql (.t 18) (.c (.d (.int .u8 95)))⟩,
      ⟨some 20, none, .pick (.t 17) (.c (.d (.bool true))) (.t 19)⟩,
      ⟨some 2, none, .mov false (.t 20)⟩] [2]) <|
    .ret
/- cartouche/lex.named -/
def l_lex_named_1 : SC :=
  .seq (.seq (.reg [⟨some 5, none, .mov false (.t 1)⟩,
      ⟨some 6, none, .mov false (.t 0)⟩,
      ⟨some 7, none, .len true (.t 6)⟩,
      ⟨some 8, none, .bin .i .lss (.t 5) (.t 7)⟩,
      ⟨some 9, none, .mov false (.t 8)⟩,
      ⟨some 10, some (9, true), .mov false (.t 0)⟩,
      ⟨some 11, some (9, true), .mov false (.t 1)⟩,
      ⟨some 12, some (9, true), .sidx (.t 10) (.t 11)⟩,
      ⟨some 13, some (9, true), .call 15 [(false, .t 12)]⟩,
      ⟨some 14, some (9, true), .mov false (.t 13)⟩,
      ⟨some 15, some (14, false), .mov false (.t 0)⟩,
      ⟨some 16, some (14, false), .mov false (.t 1)⟩,
      ⟨some 17, some (14, false), .sidx (.t 15) (.t 16)⟩,
      ⟨some 18, some (14, false), .call 17 [(false, .t 17)]⟩,
      ⟨some 19, some (9, true), .pick (.t 14) (.c (.d (.bool true))) (.t 18)⟩,
      ⟨some 20, none, .pick (.t 9) (.t 19) (.c (.d (.bool false)))⟩] [0, 1, 20]) <|
    .cond (.t 20)
      (.skip)
      (.exit 0)) <|
    .block 1 <| .reg [⟨some 21, none, .mov false (.t 1)⟩,
      ⟨some 22, none, .bin .i .add (.t 21) (.c (.d (.int .i64 1)))⟩,
      ⟨some 1, none, .mov false (.t 22)⟩] [0, 1]
def n_lex_named : Nat := 16
def f_lex_named : SFunc where
  np := 2
  res := [.slot 4]
  body := .seq (.reg [⟨some 4, none, .mov false (.c (.d (.int .i64 0)))⟩] [0, 1]) <|
    .seq (.block 0 <| .loop l_lex_named_1) <|
    .seq (.reg [⟨some 23, none, .mov false (.t 1)⟩,
      ⟨some 4, none, .mov false (.t 23)⟩] [4]) <|
    .ret
/- cartouche/lex.digit -/
def n_lex_digit : Nat := 17
def f_lex_digit : SFunc where
  np := 1
  res := [.slot 2]
  body := .seq (.reg [⟨some 2, none, .mov false (.c (.d (.bool false)))⟩] [0]) <|
    .seq (.reg [⟨some 3, none, .mov false (.t 0)⟩,
      ⟨some 4, none, .bin .i .geq (.t 3) (.c (.d (.int .u8 48)))⟩,
      ⟨some 5, none, .mov false (.t 4)⟩,
      ⟨some 6, some (5, true), .mov false (.t 0)⟩,
      ⟨some 7, some (5, true), .bin .i .leq (.t 6) (.c (.d (.int .u8 57)))⟩,
      ⟨some 8, none, .pick (.t 5) (.t 7) (.c (.d (.bool false)))⟩,
      ⟨some 2, none, .mov false (.t 8)⟩] [2]) <|
    .ret
/- cartouche/lex.number -/
def l_lex_number_3 : SC :=
  .seq (.seq (.reg [⟨some 12, none, .mov false (.t 6)⟩,
      ⟨some 13, none, .mov false (.t 0)⟩,
      ⟨some 14, none, .len true (.t 13)⟩,
      ⟨some 15, none, .bin .i .lss (.t 12) (.t 14)⟩,
      ⟨some 16, none, .mov false (.t 15)⟩,
      ⟨some 17, some (16, true), .mov false (.t 5)⟩,
      ⟨some 18, some (16, true), .bin .i .eql (.t 17) (.c (.d (.int .u64 16)))⟩,
      ⟨some 19, some (16, true), .mov false (.t 18)⟩,
      ⟨some 20, some (19, true), .mov false (.t 0)⟩,
      ⟨some 21, some (19, true), .mov false (.t 6)⟩,
      ⟨some 22, some (19, true), .sidx (.t 20) (.t 21)⟩,
      ⟨some 23, some (19, true), .call 31 [(false, .t 22)]⟩,
      ⟨some 24, some (19, true), .bin .i .geq (.t 23) (.c (.d (.int .i64 0)))⟩,
      ⟨some 25, some (16, true), .pick (.t 19) (.t 24) (.c (.d (.bool false)))⟩,
      ⟨some 26, some (16, true), .mov false (.t 25)⟩,
      ⟨some 27, some (26, false), .mov false (.t 0)⟩,
      ⟨some 28, some (26, false), .mov false (.t 6)⟩,
      ⟨some 29, some (26, false), .sidx (.t 27) (.t 28)⟩,
      ⟨some 30, some (26, false), .call 17 [(false, .t 29)]⟩,
      ⟨some 31, some (16, true), .pick (.t 26) (.c (.d (.bool true))) (.t 30)⟩,
      ⟨some 32, none, .pick (.t 16) (.t 31) (.c (.d (.bool false)))⟩] [0, 3, 4, 5, 6, 7, 32]) <|
    .cond (.t 32)
      (.skip)
      (.exit 0)) <|
    .block 1 <| .seq (.reg [⟨some 33, none, .mov false (.t 0)⟩,
      ⟨some 34, none, .mov false (.t 6)⟩,
      ⟨some 35, none, .sidx (.t 33) (.t 34)⟩,
      ⟨some 36, none, .call 31 [(false, .t 35)]⟩,
      ⟨some 37, none, .cint .u64 (.t 36)⟩,
      ⟨some 8, none, .mov false (.t 37)⟩] [0, 3, 4, 5, 6, 7, 8]) <|
    .seq (.seq (.reg [⟨some 38, none, .mov false (.t 3)⟩,
      ⟨some 39, none, .mov false (.t 8)⟩,
      ⟨some 40, none, .bin .i .sub (.c (.d (.int .u64 18446744073709551615))) (.t 39)⟩,
      ⟨some 41, none, .mov false (.t 5)⟩,
      ⟨some 42, none, .bin .i .quo (.t 40) (.t 41)⟩,
      ⟨some 43, none, .bin .i .gtr (.t 38) (.t 42)⟩] [0, 3, 4, 5, 6, 7, 8, 43]) <|
    .cond (.t 43)
      (.reg [⟨some 4, none, .mov false (.c (.d (.int .i64 7)))⟩] [0, 3, 4, 5, 6, 7, 8])
      (.skip)) <|
    .seq (.reg [⟨some 44, none, .mov false (.t 5)⟩,
      ⟨some 45, none, .mov false (.t 3)⟩,
      ⟨some 46, none, .bin .i .mul (.t 44) (.t 45)⟩,
      ⟨some 47, none, .mov false (.t 8)⟩,
      ⟨some 48, none, .bin .i .add (.t 46) (.t 47)⟩,
      ⟨some 3, none, .mov false (.t 48)⟩] [0, 3, 4, 5, 6, 7]) <|
    .reg [⟨some 49, none, .mov false (.t 6)⟩,
      ⟨some 50, none, .bin .i .add (.t 49) (.c (.d (.int .i64 1)))⟩,
      ⟨some 6, none, .mov false (.t 50)⟩] [0, 3, 4, 5, 6, 7]
def n_lex_number : Nat := 18
def f_lex_number : SFunc where
  np := 1
  res := [.slot 2, .slot 3, .slot 4]
  body := .seq (.reg [⟨some 2, none, .mov false (.c (.d (.int .i64 0)))⟩,
      ⟨some 3, none, .mov false (.c (.d (.int .u64 0)))⟩,
      ⟨some 4, none, .mov false (.c (.d (.int .i64 0)))⟩] [0, 3, 4]) <|
    .seq (.reg [⟨some 5, none, .mov false (.c (.d (.int .u64 10)))⟩,
      ⟨some 6, none, .mov false (.c (.d (.int .i64 0)))⟩] [0, 3, 4, 5, 6]) <|
    .seq (.seq (.reg [⟨some 9, none, .mov false (.t 0)⟩,
      ⟨some 10, none, .call 13 [(false, .t 9), (false, .c (.d (.str [48, 120])))]⟩] [0, 3, 4, 5, 6, 10]) <|
    .cond (.t 10)
      (.reg [⟨some 5, none, .mov false (.c (.d (.int .u64 16)))⟩,
        ⟨some 6, none, .mov false (.c (.d (.int .i64 2)))⟩] [0, 3, 4, 5, 6])
      (.skip)) <|
    .seq (.reg [⟨some 11, none, .mov false (.t 6)⟩,
      ⟨some 7, none, .mov false (.t 11)⟩] [0, 3, 4, 5, 6, 7]) <|
    .seq (.block 0 <| .loop l_lex_number_3) <|
    .seq (.seq (.reg [⟨some 51, none, .mov false (.t 6)⟩,
      ⟨some 52, none, .mov false (.t 7)⟩,
      ⟨some 53, none, .bin .i .eql (.t 51) (.t 52)⟩,
      ⟨some 54, none, .mov false (.t 53)⟩,
      ⟨some 55, some (54, false), .mov false (.t 0)⟩,
      ⟨some 56, some (54, false), .mov false (.t 6)⟩,
      ⟨some 57, some (54, false), .call 16 [(false, .t 55), (false, .t 56)]⟩,
      ⟨some 58, some (54, false), .mov false (.t 6)⟩,
      ⟨some 59, some (54, false), .bin .i .gtr (.t 57) (.t 58)⟩,
      ⟨some 60, none, .pick (.t 54) (.c (.d (.bool true))) (.t 59)⟩] [3, 4, 6, 60]) <|
    .cond (.t 60)
      (.seq (.reg [⟨some 2, none, .mov false (.c (.d (.int .i64 0)))⟩,
        ⟨some 3, none, .mov false (.c (.d (.int .u64 0)))⟩,
        ⟨some 4, none, .mov false (.c (.d (.int .i64 11)))⟩] [2, 3, 4]) <|
      .ret)
      (.skip)) <|
    .seq (.reg [⟨some 61, none, .mov false (.t 6)⟩,
      ⟨some 62, none, .mov false (.t 3)⟩,
      ⟨some 63, none, .mov false (.t 4)⟩,
      ⟨some 2, none, .mov false (.t 61)⟩,
      ⟨some 3, none, .mov false (.t 62)⟩,
      ⟨some 4, none, .mov false (.t 63)⟩] [2, 3, 4]) <|
    .ret
/- cartouche/lex.quoted -/
def l_lex_quoted_6 : SC :=
  .seq (.seq (.reg [⟨some 6, none, .mov false (.t 4)⟩,
      ⟨some 7, none, .mov false (.t 0)⟩,
      ⟨some 8, none, .len true (.t 7)⟩,
      ⟨some 9, none, .bin .i .lss (.t 6) (.t 8)⟩,
      ⟨some 10, none, .mov false (.t 9)⟩,
      ⟨some 11, some (10, true), .mov false (.t 0)⟩,
      ⟨some 12, some (10, true), .mov false (.t 4)⟩,
      ⟨some 13, some (10, true), .sidx (.t 11) (.t 12)⟩,
      ⟨some 14, some (10, true), .bin .i .neq (.t 13) (.c (.d (.int .u8 34)))⟩,
      ⟨some 15, none, .pick (.t 10) (.t 14) (.c (.d (.bool false)))⟩] [0, 4, 15]) <|
    .cond (.t 15)
      (.skip)
      (.exit 0)) <|
    .block 1 <| .seq (.seq (.reg [⟨some 16, none, .mov false (.t 0)⟩,
      ⟨some 17, none, .mov false (.t 4)⟩,
      ⟨some 18, none, .sidx (.t 16) (.t 17)⟩,
      ⟨some 19, none, .bin .i .eql (.t 18) (.c (.d (.int .u8 92)))⟩] [0, 4, 19]) <|
    .cond (.t 19)
      (.reg [⟨some 20, none, .mov false (.t 4)⟩,
        ⟨some 21, none, .bin .i .add (.t 20) (.c (.d (.int .i64 1)))⟩,
        ⟨some 4, none, .mov false (.t 21)⟩] [0, 4])
      (.skip)) <|
    .reg [⟨some 22, none, .mov false (.t 4)⟩,
      ⟨some 23, none, .bin .i .add (.t 22) (.c (.d (.int .i64 1)))⟩,
      ⟨some 4, none, .mov false (.t 23)⟩] [0, 4]
def n_lex_quoted : Nat := 19
def f_lex_quoted : SFunc where
  np := 1
  res := [.slot 2, .slot 3]
  body := .seq (.reg [⟨some 2, none, .mov false (.c (.d (.int .i64 0)))⟩,
      ⟨some 3, none, .mov true (.c (.own 1 []))⟩] [0]) <|
    .seq (.reg [⟨some 4, none, .mov false (.c (.d (.int .i64 1)))⟩] [0, 4]) <|
    .seq (.block 0 <| .loop l_lex_quoted_6) <|
    .seq (.seq (.reg [⟨some 24, none, .mov false (.t 4)⟩,
      ⟨some 25, none, .mov false (.t 0)⟩,
      ⟨some 26, none, .len true (.t 25)⟩,
      ⟨some 27, none, .bin .i .geq (.t 24) (.t 26)⟩] [0, 4, 27]) <|
    .cond (.t 27)
      (.seq (.reg [⟨some 2, none, .mov false (.c (.d (.int .i64 0)))⟩,
        ⟨some 3, none, .mov true (.c (.own 1 []))⟩] [2, 3]) <|
      .ret)
      (.skip)) <|
    .seq (.reg [⟨some 29, none, .mov false (.t 0)⟩,
      ⟨some 30, none, .mov false (.t 4)⟩,
      ⟨some 31, none, .bin .i .add (.t 30) (.c (.d (.int .i64 1)))⟩,
      ⟨some 32, none, .slcs (.t 29) none (some (.t 31))⟩,
      ⟨some 33, none, .call 32 [(false, .t 32)]⟩,
      ⟨some 28, none, .mov false (.t 33)⟩,
      ⟨some 34, none, .ext (.t 28) 0⟩,
      ⟨some 35, none, .ext (.t 28) 1⟩,
      ⟨some 3, none, .mov true (.t 34)⟩,
      ⟨some 5, none, .mov false (.t 35)⟩] [3, 4, 5]) <|
    .seq (.seq (.reg [⟨some 36, none, .mov false (.t 5)⟩,
      ⟨some 37, none, .bin .i .neq (.t 36) (.c (.d (.int .i64 0)))⟩] [3, 4, 37]) <|
    .cond (.t 37)
      (.seq (.reg [⟨some 2, none, .mov false (.c (.d (.int .i64 0)))⟩,
        ⟨some 3, none, .mov true (.c (.own 1 []))⟩] [2, 3]) <|
      .ret)
      (.skip)) <|
    .seq (.reg [⟨some 38, none, .mov false (.t 4)⟩,
      ⟨some 39, none, .bin .i .add (.t 38) (.c (.d (.int .i64 1)))⟩,
      ⟨some 40, none, .mov true (.t 3)⟩,
      ⟨some 2, none, .mov false (.t 39)⟩,
      ⟨some 3, none, .mov true (.t 40)⟩] [2, 3]) <|
    .ret
/- cartouche/cartoucheref4.space -/
def l_ref4_space_5 : SC :=
  .seq (.seq (.reg [⟨some 75, none, .mov false (.t 7)⟩,
      ⟨some 76, none, .bin .i .add (.t 75) (.c (.d (.int .i64 1)))⟩,
      ⟨some 77, none, .mov false (.t 0)⟩,
      ⟨some 78, none, .len true (.t 77)⟩,
      ⟨some 79, none, .bin .i .lss (.t 76) (.t 78)⟩,
      ⟨some 80, none, .mov false (.t 79)⟩,
      ⟨some 81, some (80, true), .mov false (.t 0)⟩,
      ⟨some 82, some (80, true), .mov false (.t 7)⟩,
      ⟨some 83, some (80, true), .sidx (.t 81) (.t 82)⟩,
      ⟨some 84, some (80, true), .bin .i .neq (.t 83) (.c (.d (.int .u8 42)))⟩,
      ⟨some 85, some (80, true), .mov false (.t 84)⟩,
      ⟨some 86, some (85, false), .mov false (.t 0)⟩,
      ⟨some 87, some (85, false), .mov false (.t 7)⟩,
      ⟨some 88, some (85, false), .bin .i .add (.t 87) (.c (.d (.int .i64 1)))⟩,
      ⟨some 89, some (85, false), .sidx (.t 86) (.t 88)⟩,
      ⟨some 90, some (85, false), .bin .i .neq (.t 89) (.c (.d (.int .u8 47)))⟩,
      ⟨some 91, some (80, true), .pick (.t 85) (.c (.d (.bool true))) (.t 90)⟩,
      ⟨some 92, none, .pick (.t 80) (.t 91) (.c (.d (.bool false)))⟩] [0, 1, 7, 92]) <|
    .cond (.t 92)
      (.skip)
      (.exit 4)) <|
    .block 5 <| .reg [⟨some 93, none, .mov false (.t 7)⟩,
      ⟨some 94, none, .bin .i .add (.t 93) (.c (.d (.int .i64 1)))⟩,
      ⟨some 7, none, .mov false (.t 94)⟩] [0, 1, 7]
def l_ref4_space_9 : SC :=
  .seq (.seq (.reg [⟨some 62, none, .mov false (.t 7)⟩,
      ⟨some 63, none, .mov false (.t 0)⟩,
      ⟨some 64, none, .len true (.t 63)⟩,
      ⟨some 65, none, .bin .i .lss (.t 62) (.t 64)⟩,
      ⟨some 66, none, .mov false (.t 65)⟩,
      ⟨some 67, some (66, true), .mov false (.t 0)⟩,
      ⟨some 68, some (66, true), .mov false (.t 7)⟩,
      ⟨some 69, some (66, true), .sidx (.t 67) (.t 68)⟩,
      ⟨some 70, some (66, true), .bin .i .neq (.t 69) (.c (.d (.int .u8 10)))⟩,
      ⟨some 71, none, .pick (.t 66) (.t 70) (.c (.d (.bool false)))⟩] [0, 7, 71]) <|
    .cond (.t 71)
      (.skip)
      (.exit 2)) <|
    .block 3 <| .reg [⟨some 72, none, .mov false (.t 7)⟩,
      ⟨some 73, none, .bin .i .add (.t 72) (.c (.d (.int .i64 1)))⟩,
      ⟨some 7, none, .mov false (.t 73)⟩] [0, 7]
def l_ref4_space_1 : SC :=
  .seq (.seq (.reg [⟨some 8, none, .mov false (.t 1)⟩,
      ⟨some 9, none, .mov false (.t 0)⟩,
      ⟨some 10, none, .len true (.t 9)⟩,
      ⟨some 11, none, .bin .i .lss (.t 8) (.t 10)⟩] [0, 1, 11]) <|
    .cond (.t 11)
      (.skip)
      (.exit 0)) <|
    .block 1 <| .seq (.reg [⟨some 12, none, .mov false (.t 0)⟩,
      ⟨some 13, none, .mov false (.t 1)⟩,
      ⟨some 14, none, .sidx (.t 12) (.t 13)⟩,
      ⟨some 6, none, .mov false (.t 14)⟩] [0, 1, 6]) <|
    .seq (.seq (.reg [⟨some 15, none, .mov false (.t 6)⟩,
      ⟨some 16, none, .bin .i .eql (.t 15) (.c (.d (.int .u8 32)))⟩,
      ⟨some 17, none, .mov false (.t 16)⟩,
      ⟨some 18, some (17, false), .mov false (.t 6)⟩,
      ⟨some 19, some (17, false), .bin .i .eql (.t 18) (.c (.d (.int .u8 9)))⟩,
      ⟨some 20, none, .pick (.t 17) (.c (.d (.bool true))) (.t 19)⟩,
      ⟨some 21, none, .mov false (.t 20)⟩,
      ⟨some 22, some (21, false), .mov false (.t 6)⟩,
      ⟨some 23, some (21, false), .bin .i .eql (.t 22) (.c (.d (.int .u8 13)))⟩,
      ⟨some 24, none, .pick (.t 21) (.c (.d (.bool true))) (.t 23)⟩,
      ⟨some 25, none, .mov false (.t 24)⟩,
      ⟨some 26, some (25, false), .mov false (.t 6)⟩,
      ⟨some 27, some (25, false), .bin .i .eql (.t 26) (.c (.d (.int .u8 10)))⟩,
      ⟨some 28, none, .pick (.t 25) (.c (.d (.bool true))) (.t 27)⟩] [0, 1, 6, 28]) <|
    .cond (.t 28)
      (.seq (.reg [⟨some 29, none, .mov false (.t 1)⟩,
        ⟨some 30, none, .bin .i .add (.t 29) (.c (.d (.int .i64 1)))⟩,
        ⟨some 1, none, .mov false (.t 30)⟩] [0, 1]) <|
      .exit 1)
      (.skip)) <|
    .seq (.seq (.reg [⟨some 31, none, .mov false (.t 6)⟩,
      ⟨some 32, none, .bin .i .neq (.t 31) (.c (.d (.int .u8 47)))⟩,
      ⟨some 33, none, .mov false (.t 32)⟩,
      ⟨some 34, some (33, false), .mov false (.t 1)⟩,
      ⟨some 35, some (33, false), .bin .i .add (.t 34) (.c (.d (.int .i64 1)))⟩,
      ⟨some 36, some (33, false), .mov false (.t 0)⟩,
      ⟨some 37, some (33, false), .len true (.t 36)⟩,
      ⟨some 38, some (33, false), .bin .i .eql (.t 35) (.t 37)⟩,
      ⟨some 39, none, .pick (.t 33) (.c (.d (.bool true))) (.t 38)⟩,
      ⟨some 40, none, .mov false (.t 39)⟩,
      ⟨some 41, some (40, false), .mov false (.t 0)⟩,
      ⟨some 42, some (40, false), .mov false (.t 1)⟩,
      ⟨some 43, some (40, false), .bin .i .add (.t 42) (.c (.d (.int .i64 1)))⟩,
      ⟨some 44, some (40, false), .sidx (.t 41) (.t 43)⟩,
      ⟨some 45, some (40, false), .bin .i .neq (.t 44) (.c (.d (.int .u8 47)))⟩,
      ⟨some 46, some (40, false), .mov false (.t 45)⟩,
      ⟨some 47, some (46, true), .mov false (.t 0)⟩,
      ⟨some 48, some (46, true), .mov false (.t 1)⟩,
      ⟨some 49, some (46, true), .bin .i .add (.t 48) (.c (.d (.int .i64 1)))⟩,
      ⟨some 50, some (46, true), .sidx (.t 47) (.t 49)⟩,
      ⟨some 51, some (46, true), .bin .i .neq (.t 50) (.c (.d (.int .u8 42)))⟩,
      ⟨some 52, some (40, false), .pick (.t 46) (.t 51) (.c (.d (.bool false)))⟩,
      ⟨some 53, none, .pick (.t 40) (.c (.d (.bool true))) (.t 52)⟩] [0, 1, 53]) <|
    .cond (.t 53)
      (.seq (.reg [⟨some 54, none, .mov false (.t 1)⟩,
        ⟨some 4, none, .mov false (.t 54)⟩,
        ⟨some 5, none, .mov false (.c (.d (.bool true)))⟩] [4, 5]) <|
      .ret)
      (.skip)) <|
    .seq (.reg [⟨some 55, none, .mov false (.t 1)⟩,
      ⟨some 56, none, .bin .i .add (.t 55) (.c (.d (.int .i64 2)))⟩,
      ⟨some 7, none, .mov false (.t 56)⟩] [0, 1, 7]) <|
    .seq (.seq (.reg [⟨some 57, none, .mov false (.t 0)⟩,
      ⟨some 58, none, .mov false (.t 1)⟩,
      ⟨some 59, none, .bin .i .add (.t 58) (.c (.d (.int .i64 1)))⟩,
      ⟨some 60, none, .sidx (.t 57) (.t 59)⟩,
      ⟨some 61, none, .bin .i .eql (.t 60) (.c (.d (.int .u8 47)))⟩] [0, 1, 7, 61]) <|
    .cond (.t 61)
      (.seq (.block 2 <| .loop l_ref4_space_9) <|
      .seq (.reg [⟨some 74, none, .mov false (.t 7)⟩,
        ⟨some 1, none, .mov false (.t 74)⟩] [0, 1]) <|
      .exit 1)
      (.skip)) <|
    .seq (.block 4 <| .loop l_ref4_space_5) <|
    .seq (.seq (.reg [⟨some 95, none, .mov false (.t 7)⟩,
      ⟨some 96, none, .bin .i .add (.t 95) (.c (.d (.int .i64 1)))⟩,
      ⟨some 97, none, .mov false (.t 0)⟩,
      ⟨some 98, none, .len true (.t 97)⟩,
      ⟨some 99, none, .bin .i .geq (.t 96) (.t 98)⟩] [0, 1, 7, 99]) <|
    .cond (.t 99)
      (.seq (.reg [⟨some 100, none, .mov false (.t 1)⟩,
        ⟨some 4, none, .mov false (.t 100)⟩,
        ⟨some 5, none, .mov false (.c (.d (.bool false)))⟩] [4, 5]) <|
      .ret)
      (.skip)) <|
    .reg [⟨some 101, none, .mov false (.t 7)⟩,
      ⟨some 102, none, .bin .i .add (.t 101) (.c (.d (.int .i64 2)))⟩,
      ⟨some 1, none, .mov false (.t 102)⟩] [0, 1]
def n_ref4_space : Nat := 21
def f_ref4_space : SFunc where
  np := 2
  res := [.slot 4, .slot 5]
  body := .seq (.reg [⟨some 4, none, .mov false (.c (.d (.int .i64 0)))⟩,
      ⟨some 5, none, .mov false (.c (.d (.bool false)))⟩] [0, 1]) <|
    .seq (.block 0 <| .loop l_ref4_space_1) <|
    .seq (.reg [⟨some 103, none, .mov false (.t 1)⟩,
      ⟨some 4, none, .mov false (.t 103)⟩,
      ⟨some 5, none, .mov false (.c (.d (.bool true)))⟩] [4, 5]) <|
    .ret
/- cartouche/cartoucheref4.to -/
def l_ref4_to_2 : SC :=
  .seq (.seq (.reg [⟨some 10, none, .mov false (.t 7)⟩,
      ⟨some 11, none, .mov false (.t 2)⟩,
      ⟨some 12, none, .bin .i .lss (.t 10) (.t 11)⟩] [0, 2, 4, 6, 6, 7, 12]) <|
    .cond (.t 12)
      (.skip)
      (.exit 0)) <|
    .seq (.block 1 <| .seq (.reg [⟨some 15, none, .mov false (.t 0)⟩,
      ⟨some 16, none, .mov false (.t 7)⟩,
      ⟨some 17, none, .sidx (.t 15) (.t 16)⟩,
      ⟨some 18, none, .bin .i .eql (.t 17) (.c (.d (.int .u8 10)))⟩] [0, 2, 4, 6, 6, 7, 18]) <|
    .cond (.t 18)
      (.seq (.reg [⟨some 19, none, .faddr 1 none (.t 4)⟩,
        ⟨some 20, none, .load none (.t 19)⟩,
        ⟨some 21, none, .bin .i .add (.t 20) (.c (.d (.int .i64 1)))⟩,
        ⟨some 22, none, .faddr 1 none (.t 4)⟩,
        ⟨none, none, .store 1 (.t 22) (.t 21)⟩] [0, 2, 4, 6, 6, 7]) <|
      .reg [⟨some 23, none, .faddr 2 none (.t 4)⟩,
        ⟨none, none, .store 1 (.t 23) (.c (.d (.int .i64 1)))⟩] [0, 2, 4, 6, 6, 7])
      (.reg [⟨some 24, none, .faddr 2 none (.t 4)⟩,
        ⟨some 25, none, .load none (.t 24)⟩,
        ⟨some 26, none, .bin .i .add (.t 25) (.c (.d (.int .i64 1)))⟩,
        ⟨some 27, none, .faddr 2 none (.t 4)⟩,
        ⟨none, none, .store 1 (.t 27) (.t 26)⟩] [0, 2, 4, 6, 6, 7])) <|
    .reg [⟨some 13, none, .mov false (.t 7)⟩,
      ⟨some 14, none, .bin .i .add (.t 13) (.c (.d (.int .i64 1)))⟩,
      ⟨some 7, none, .mov false (.t 14)⟩] [0, 2, 4, 6, 6, 7]
def n_ref4_to : Nat := 22
def f_ref4_to : SFunc where
  np := 3
  res := [.cell 6 (some 3)]
  body := .seq (.reg [⟨some 4, none, .box (.t 1)⟩,
      ⟨some 6, none, .zbox [.int .i64 0, .int .i64 0, .int .i64 0]⟩] [0, 2, 4, 6, 6]) <|
    .seq (.seq (.reg [⟨some 8, none, .faddr 0 none (.t 4)⟩,
      ⟨some 9, none, .load none (.t 8)⟩,
      ⟨some 7, none, .mov false (.t 9)⟩] [0, 2, 4, 6, 6, 7]) <|
    .block 0 <| .loop l_ref4_to_2) <|
    .seq (.reg [⟨some 28, none, .mov false (.t 2)⟩,
      ⟨some 29, none, .faddr 0 none (.t 4)⟩,
      ⟨none, none, .store 1 (.t 29) (.t 28)⟩] [4, 4, 6, 6]) <|
    .seq (.reg [⟨some 30, none, .load (some 3) (.t 4)⟩,
      ⟨none, none, .store 3 (.t 6) (.t 30)⟩] [6, 6]) <|
    .ret
/- cartouche/cartoucheref4.letter -/
def n_ref4_letter : Nat := 23
def f_ref4_letter : SFunc where
  np := 1
  res := [.slot 2]
  body := .seq (.reg [⟨some 2, none, .mov false (.c (.d (.bool false)))⟩] [0]) <|
    .seq (.reg [⟨some 3, none, .mov false (.t 0)⟩,
      ⟨some 4, none, .bin .i .geq (.t 3) (.c (.d (.int .u8 97)))⟩,
      ⟨some 5, none, .mov false (.t 4)⟩,
      ⟨some 6, some (5, true), .mov false (.t 0)⟩,
      ⟨some 7, some (5, true), .bin .i .leq (.t 6) (.c (.d (.int .u8 122)))⟩,
      ⟨some 8, none, .pick (.t 5) (.t 7) (.c (.d (.bool false)))⟩,
      ⟨some 9, none, .mov false (.t 8)⟩,
      ⟨some 10, some (9, false), .mov false (.t 0)⟩,
      ⟨some 11, some (9, false), .bin .i .geq (.t 10) (.c (.d (.int .u8 65)))⟩,
      ⟨some 12, some (9, false), .mov false (.t 11)⟩,
      ⟨some 13, some (12, true), .mov false (.t 0)⟩,
      ⟨some 14, some (12, true), .bin .i .leq (.t 13) (.c (.d (.int .u8 90)))⟩,
      ⟨some 15, some (9, false), .pick (.t 12) (.t 14) (.c (.d (.bool false)))⟩,
      ⟨some 16, none, .pick (.t 9) (.c (.d (.bool true))) (.t 15)⟩,
      ⟨some 17, none, .mov false (.t 16)⟩,
      ⟨some 18, some (17, false), .mov false (.t 0)⟩,
      ⟨some 19, some (17, false), .bin .i .eql (.t 18) (.c (.d (.int .u8 95)))⟩,
      ⟨some 20, none, .pick (.t 17) (.c (.d (.bool true))) (.t 19)⟩,
      ⟨some 2, none, .mov false (.t 20)⟩] [2]) <|
    .ret
/- cartouche/cartoucheref4.digit -/
def n_ref4_digit : Nat := 24
def f_ref4_digit : SFunc where
  np := 1
  res := [.slot 2]
  body := .seq (.reg [⟨some 2, none, .mov false (.c (.d (.bool false)))⟩] [0]) <|
    .seq (.reg [⟨some 3, none, .mov false (.t 0)⟩,
      ⟨some 4, none, .bin .i .geq (.t 3) (.c (.d (.int .u8 48)))⟩,
      ⟨some 5, none, .mov false (.t 4)⟩,
      ⟨some 6, some (5, true), .mov false (.t 0)⟩,
      ⟨some 7, some (5, true), .bin .i .leq (.t 6) (.c (.d (.int .u8 57)))⟩,
      ⟨some 8, none, .pick (.t 5) (.t 7) (.c (.d (.bool false)))⟩,
      ⟨some 2, none, .mov false (.t 8)⟩] [2]) <|
    .ret
/- cartouche/cartoucheref4.number -/
def l_ref4_number_5 : SC :=
  .seq (.seq (.reg [⟨some 37, none, .mov false (.t 7)⟩,
      ⟨some 38, none, .mov false (.t 0)⟩,
      ⟨some 39, none, .len true (.t 38)⟩,
      ⟨some 40, none, .bin .i .lss (.t 37) (.t 39)⟩] [0, 7, 8, 9, 10, 11, 12, 40]) <|
    .cond (.t 40)
      (.skip)
      (.exit 0)) <|
    .block 1 <| .seq (.reg [⟨some 41, none, .mov false (.t 0)⟩,
      ⟨some 42, none, .mov false (.t 7)⟩,
      ⟨some 43, none, .sidx (.t 41) (.t 42)⟩,
      ⟨some 44, none, .call 34 [(false, .t 43)]⟩,
      ⟨some 13, none, .mov false (.t 44)⟩] [0, 7, 8, 9, 10, 11, 12, 13]) <|
    .seq (.seq (.reg [⟨some 45, none, .mov false (.t 13)⟩,
      ⟨some 46, none, .bin .i .lss (.t 45) (.c (.d (.int .i64 0)))⟩,
      ⟨some 47, none, .mov false (.t 46)⟩,
      ⟨some 48, some (47, false), .mov false (.t 8)⟩,
      ⟨some 49, some (47, false), .not (.t 48)⟩,
      ⟨some 50, some (47, false), .mov false (.t 49)⟩,
      ⟨some 51, some (50, true), .mov false (.t 13)⟩,
      ⟨some 52, some (50, true), .bin .i .gtr (.t 51) (.c (.d (.int .i64 9)))⟩,
      ⟨some 53, some (47, false), .pick (.t 50) (.t 52) (.c (.d (.bool false)))⟩,
      ⟨some 54, none, .pick (.t 47) (.c (.d (.bool true))) (.t 53)⟩] [0, 7, 8, 9, 10, 11, 12, 13, 54]) <|
    .cond (.t 54)
      (.exit 0)
      (.skip)) <|
    .seq (.seq (.reg [⟨some 55, none, .mov false (.t 11)⟩,
      ⟨some 56, none, .mov false (.t 13)⟩,
      ⟨some 57, none, .cint .u64 (.t 56)⟩,
      ⟨some 58, none, .bin .i .sub (.c (.d (.int .u64 18446744073709551615))) (.t 57)⟩,
      ⟨some 59, none, .mov false (.t 9)⟩,
      ⟨some 60, none, .bin .i .quo (.t 58) (.t 59)⟩,
      ⟨some 61, none, .bin .i .gtr (.t 55) (.t 60)⟩] [0, 7, 8, 9, 10, 11, 12, 13, 61]) <|
    .cond (.t 61)
      (.reg [⟨some 12, none, .mov false (.c (.d (.bool true)))⟩] [0, 7, 8, 9, 10, 11, 12, 13])
      (.skip)) <|
    .seq (.reg [⟨some 62, none, .mov false (.t 11)⟩,
      ⟨some 63, none, .mov false (.t 9)⟩,
      ⟨some 64, none, .bin .i .mul (.t 62) (.t 63)⟩,
      ⟨some 65, none, .mov false (.t 13)⟩,
      ⟨some 66, none, .cint .u64 (.t 65)⟩,
      ⟨some 67, none, .bin .i .add (.t 64) (.t 66)⟩,
      ⟨some 11, none, .mov false (.t 67)⟩] [0, 7, 8, 9, 10, 11, 12]) <|
    .reg [⟨some 68, none, .mov false (.t 7)⟩,
      ⟨some 69, none, .bin .i .add (.t 68) (.c (.d (.int .i64 1)))⟩,
      ⟨some 7, none, .mov false (.t 69)⟩] [0, 7, 8, 9, 10, 11, 12]
def n_ref4_number : Nat := 25
def f_ref4_number : SFunc where
  np := 2
  res := [.slot 4, .slot 5, .slot 6]
  body := .seq (.reg [⟨some 4, none, .mov false (.c (.d (.int .i64 0)))⟩,
      ⟨some 5, none, .mov false (.c (.d (.int .u64 0)))⟩,
      ⟨some 6, none, .mov false (.c (.d (.int .i64 0)))⟩] [0, 1]) <|
    .seq (.reg [⟨some 14, none, .mov false (.t 1)⟩,
      ⟨some 7, none, .mov false (.t 14)⟩] [0, 1, 7]) <|
    .seq (.reg [⟨some 15, none, .mov false (.t 0)⟩,
      ⟨some 16, none, .mov false (.t 1)⟩,
      ⟨some 17, none, .sidx (.t 15) (.t 16)⟩,
      ⟨some 18, none, .bin .i .eql (.t 17) (.c (.d (.int .u8 48)))⟩,
      ⟨some 19, none, .mov false (.t 18)⟩,
      ⟨some 20, some (19, true), .mov false (.t 1)⟩,
      ⟨some 21, some (19, true), .bin .i .add (.t 20) (.c (.d (.int .i64 1)))⟩,
      ⟨some 22, some (19, true), .mov false (.t 0)⟩,
      ⟨some 23, some (19, true), .len true (.t 22)⟩,
      ⟨some 24, some (19, true), .bin .i .lss (.t 21) (.t 23)⟩,
      ⟨some 25, none, .pick (.t 19) (.t 24) (.c (.d (.bool false)))⟩,
      ⟨some 26, none, .mov false (.t 25)⟩,
      ⟨some 27, some (26, true), .mov false (.t 0)⟩,
      ⟨some 28, some (26, true), .mov false (.t 1)⟩,
      ⟨some 29, some (26, true), .bin .i .add (.t 28) (.c (.d (.int .i64 1)))⟩,
      ⟨some 30, some (26, true), .sidx (.t 27) (.t 29)⟩,
      ⟨some 31, some (26, true), .bin .i .eql (.t 30) (.c (.d (.int .u8 120)))⟩,
      ⟨some 32, none, .pick (.t 26) (.t 31) (.c (.d (.bool false)))⟩,
      ⟨some 8, none, .mov false (.t 32)⟩] [0, 7, 8]) <|
    .seq (.reg [⟨some 9, none, .mov false (.c (.d (.int .u64 10)))⟩] [0, 7, 8, 9]) <|
    .seq (.seq (.reg [⟨some 33, none, .mov false (.t 8)⟩] [0, 7, 8, 9, 33]) <|
    .cond (.t 33)
      (.seq (.reg [⟨some 34, none, .mov false (.t 7)⟩,
        ⟨some 35, none, .bin .i .add (.t 34) (.c (.d (.int .i64 2)))⟩,
        ⟨some 7, none, .mov false (.t 35)⟩] [0, 7, 8]) <|
      .reg [⟨some 9, none, .mov false (.c (.d (.int .u64 16)))⟩] [0, 7, 8, 9])
      (.skip)) <|
    .seq (.reg [⟨some 36, none, .mov false (.t 7)⟩,
      ⟨some 10, none, .mov false (.t 36)⟩] [0, 7, 8, 9, 10]) <|
    .seq (.reg [⟨some 11, none, .mov false (.c (.d (.int .u64 0)))⟩] [0, 7, 8, 9, 10, 11]) <|
    .seq (.reg [⟨some 12, none, .mov false (.c (.d (.bool false)))⟩] [0, 7, 8, 9, 10, 11, 12]) <|
    .seq (.block 0 <| .loop l_ref4_number_5) <|
    .seq (.seq (.reg [⟨some 70, none, .mov false (.t 7)⟩,
      ⟨some 71, none, .mov false (.t 10)⟩,
      ⟨some 72, none, .bin .i .eql (.t 70) (.t 71)⟩,
      ⟨some 73, none, .mov false (.t 72)⟩,
      ⟨some 74, some (73, false), .mov false (.t 7)⟩,
      ⟨some 75, some (73, false), .mov false (.t 0)⟩,
      ⟨some 76, some (73, false), .len true (.t 75)⟩,
      ⟨some 77, some (73, false), .bin .i .lss (.t 74) (.t 76)⟩,
      ⟨some 78, some (73, false), .mov false (.t 77)⟩,
      ⟨some 79, some (78, true), .mov false (.t 0)⟩,
      ⟨some 80, some (78, true), .mov false (.t 7)⟩,
      ⟨some 81, some (78, true), .sidx (.t 79) (.t 80)⟩,
      ⟨some 82, some (78, true), .call 23 [(false, .t 81)]⟩,
      ⟨some 83, some (78, true), .mov false (.t 82)⟩,
      ⟨some 84, some (83, false), .mov false (.t 0)⟩,
      ⟨some 85, some (83, false), .mov false (.t 7)⟩,
      ⟨some 86, some (83, false), .sidx (.t 84) (.t 85)⟩,
      ⟨some 87, some (83, false), .call 24 [(false, .t 86)]⟩,
      ⟨some 88, some (78, true), .pick (.t 83) (.c (.d (.bool true))) (.t 87)⟩,
      ⟨some 89, some (73, false), .pick (.t 78) (.t 88) (.c (.d (.bool false)))⟩,
      ⟨some 90, none, .pick (.t 73) (.c (.d (.bool true))) (.t 89)⟩] [7, 11, 12, 90]) <|
    .cond (.t 90)
      (.seq (.reg [⟨some 4, none, .mov false (.c (.d (.int .i64 0)))⟩,
        ⟨some 5, none, .mov false (.c (.d (.int .u64 0)))⟩,
        ⟨some 6, none, .mov false (.c (.d (.int .i64 11)))⟩] [4, 5, 6]) <|
      .ret)
      (.skip)) <|
    .seq (.seq (.reg [⟨some 91, none, .mov false (.t 12)⟩] [7, 11, 91]) <|
    .cond (.t 91)
      (.seq (.reg [⟨some 4, none, .mov false (.c (.d (.int .i64 0)))⟩,
        ⟨some 5, none, .mov false (.c (.d (.int .u64 0)))⟩,
        ⟨some 6, none, .mov false (.c (.d (.int .i64 7)))⟩] [4, 5, 6]) <|
      .ret)
      (.skip)) <|
    .seq (.reg [⟨some 92, none, .mov false (.t 7)⟩,
      ⟨some 93, none, .mov false (.t 11)⟩,
      ⟨some 4, none, .mov false (.t 92)⟩,
      ⟨some 5, none, .mov false (.t 93)⟩,
      ⟨some 6, none, .mov false (.c (.d (.int .i64 0)))⟩] [4, 5, 6]) <|
    .ret
/- cartouche/cartoucheref4.quoted -/
def l_ref4_quoted_1 : SC :=
  .seq (.seq (.reg [⟨some 9, none, .mov false (.t 6)⟩,
      ⟨some 10, none, .mov false (.t 0)⟩,
      ⟨some 11, none, .len true (.t 10)⟩,
      ⟨some 12, none, .bin .i .lss (.t 9) (.t 11)⟩] [0, 6, 12]) <|
    .cond (.t 12)
      (.skip)
      (.exit 0)) <|
    .seq (.block 1 <| .seq (.seq (.reg [⟨some 15, none, .mov false (.t 0)⟩,
      ⟨some 16, none, .mov false (.t 6)⟩,
      ⟨some 17, none, .sidx (.t 15) (.t 16)⟩,
      ⟨some 18, none, .bin .i .eql (.t 17) (.c (.d (.int .u8 92)))⟩] [0, 6, 18]) <|
    .cond (.t 18)
      (.seq (.reg [⟨some 19, none, .mov false (.t 6)⟩,
        ⟨some 20, none, .bin .i .add (.t 19) (.c (.d (.int .i64 1)))⟩,
        ⟨some 6, none, .mov false (.t 20)⟩] [0, 6]) <|
      .exit 1)
      (.skip)) <|
    .seq (.reg [⟨some 21, none, .mov false (.t 0)⟩,
      ⟨some 22, none, .mov false (.t 6)⟩,
      ⟨some 23, none, .sidx (.t 21) (.t 22)⟩,
      ⟨some 24, none, .bin .i .eql (.t 23) (.c (.d (.int .u8 34)))⟩] [0, 6, 24]) <|
    .cond (.t 24)
      (.seq (.reg [⟨some 25, none, .mov false (.t 6)⟩,
        ⟨some 26, none, .bin .i .add (.t 25) (.c (.d (.int .i64 1)))⟩,
        ⟨some 4, none, .mov false (.t 26)⟩,
        ⟨some 5, none, .mov false (.c (.d (.bool true)))⟩] [4, 5]) <|
      .ret)
      (.skip)) <|
    .reg [⟨some 13, none, .mov false (.t 6)⟩,
      ⟨some 14, none, .bin .i .add (.t 13) (.c (.d (.int .i64 1)))⟩,
      ⟨some 6, none, .mov false (.t 14)⟩] [0, 6]
def n_ref4_quoted : Nat := 26
def f_ref4_quoted : SFunc where
  np := 2
  res := [.slot 4, .slot 5]
  body := .seq (.reg [⟨some 4, none, .mov false (.c (.d (.int .i64 0)))⟩,
      ⟨some 5, none, .mov false (.c (.d (.bool false)))⟩] [0, 1]) <|
    .seq (.seq (.reg [⟨some 7, none, .mov false (.t 1)⟩,
      ⟨some 8, none, .bin .i .add (.t 7) (.c (.d (.int .i64 1)))⟩,
      ⟨some 6, none, .mov false (.t 8)⟩] [0, 6]) <|
    .block 0 <| .loop l_ref4_quoted_1) <|
    .seq (.reg [⟨some 4, none, .mov false (.c (.d (.int .i64 0)))⟩,
      ⟨some 5, none, .mov false (.c (.d (.bool false)))⟩] [4, 5]) <|
    .ret
/- cartouche/cartoucheref2.Unquote -/
def l_ref2_Unquote_1 : SC :=
  .seq (.seq (.reg [⟨some 27, none, .mov false (.t 6)⟩,
      ⟨some 28, none, .mov false (.t 5)⟩,
      ⟨some 29, none, .bin .i .lss (.t 27) (.t 28)⟩] [0, 4, 5, 6, 29]) <|
    .cond (.t 29)
      (.skip)
      (.exit 0)) <|
    .seq (.block 1 <| .seq (.reg [⟨some 32, none, .mov false (.t 0)⟩,
      ⟨some 33, none, .mov false (.t 6)⟩,
      ⟨some 34, none, .sidx (.t 32) (.t 33)⟩,
      ⟨some 7, none, .mov false (.t 34)⟩] [0, 4, 5, 6, 7]) <|
    .seq (.seq (.reg [⟨some 35, none, .mov false (.t 7)⟩,
      ⟨some 36, none, .bin .i .eql (.t 35) (.c (.d (.int .u8 34)))⟩,
      ⟨some 37, none, .mov false (.t 36)⟩,
      ⟨some 38, some (37, false), .mov false (.t 7)⟩,
      ⟨some 39, some (37, false), .bin .i .eql (.t 38) (.c (.d (.int .u8 10)))⟩,
      ⟨some 40, none, .pick (.t 37) (.c (.d (.bool true))) (.t 39)⟩] [0, 4, 5, 6, 7, 40]) <|
    .cond (.t 40)
      (.seq (.reg [⟨some 2, none, .mov true (.c (.own 1 []))⟩,
        ⟨some 3, none, .mov false (.c (.d (.bool false)))⟩] [2, 3]) <|
      .ret)
      (.skip)) <|
    .seq (.seq (.reg [⟨some 41, none, .mov false (.t 7)⟩,
      ⟨some 42, none, .bin .i .neq (.t 41) (.c (.d (.int .u8 92)))⟩] [0, 4, 5, 6, 7, 42]) <|
    .cond (.t 42)
      (.seq (.reg [⟨some 43, none, .mov true (.t 4)⟩,
        ⟨some 44, none, .mov false (.t 7)⟩,
        ⟨some 45, none, .mk 1 [.t 44]⟩,
        ⟨some 46, none, .app false 1 1 (.t 43) (.t 45)⟩,
        ⟨some 4, none, .mov true (.t 46)⟩] [0, 4, 5, 6]) <|
      .exit 1)
      (.skip)) <|
    .seq (.reg [⟨some 47, none, .mov false (.t 6)⟩,
      ⟨some 48, none, .bin .i .add (.t 47) (.c (.d (.int .i64 1)))⟩,
      ⟨some 6, none, .mov false (.t 48)⟩] [0, 4, 5, 6]) <|
    .seq (.seq (.reg [⟨some 49, none, .mov false (.t 6)⟩,
      ⟨some 50, none, .mov false (.t 5)⟩,
      ⟨some 51, none, .bin .i .geq (.t 49) (.t 50)⟩] [0, 4, 5, 6, 51]) <|
    .cond (.t 51)
      (.seq (.reg [⟨some 2, none, .mov true (.c (.own 1 []))⟩,
        ⟨some 3, none, .mov false (.c (.d (.bool false)))⟩] [2, 3]) <|
      .ret)
      (.skip)) <|
    .seq (.reg [⟨some 52, none, .mov false (.t 0)⟩,
      ⟨some 53, none, .mov false (.t 6)⟩,
      ⟨some 54, none, .sidx (.t 52) (.t 53)⟩] [0, 4, 5, 6, 54]) <|
    .block 2 <| .seq (.seq (.reg [⟨some 56, none, .bin .i .eql (.t 54) (.c (.d (.int .u8 34)))⟩,
      ⟨some 55, none, .mov false (.t 56)⟩] [0, 4, 5, 6, 54, 55]) <|
    .cond (.t 55)
      (.skip)
      (.reg [⟨some 57, none, .bin .i .eql (.t 54) (.c (.d (.int .u8 92)))⟩,
        ⟨some 55, none, .mov false (.t 57)⟩] [0, 4, 5, 6, 54, 55])) <|
    .cond (.t 55)
      (.reg [⟨some 58, none, .mov true (.t 4)⟩,
        ⟨some 59, none, .mov false (.t 0)⟩,
        ⟨some 60, none, .mov false (.t 6)⟩,
        ⟨some 61, none, .sidx (.t 59) (.t 60)⟩,
        ⟨some 62, none, .mk 1 [.t 61]⟩,
        ⟨some 63, none, .app false 1 1 (.t 58) (.t 62)⟩,
        ⟨some 4, none, .mov true (.t 63)⟩] [0, 4, 5, 6])
      (.seq (.reg [⟨some 65, none, .bin .i .eql (.t 54) (.c (.d (.int .u8 110)))⟩,
        ⟨some 64, none, .mov false (.t 65)⟩] [0, 4, 5, 6, 54, 64]) <|
      .cond (.t 64)
        (.reg [⟨some 66, none, .mov true (.t 4)⟩,
          ⟨some 67, none, .mk 1 [.c (.d (.int .u8 10))]⟩,
          ⟨some 68, none, .app false 1 1 (.t 66) (.t 67)⟩,
          ⟨some 4, none, .mov true (.t 68)⟩] [0, 4, 5, 6])
        (.seq (.reg [⟨some 70, none, .bin .i .eql (.t 54) (.c (.d (.int .u8 116)))⟩,
          ⟨some 69, none, .mov false (.t 70)⟩] [0, 4, 5, 6, 54, 69]) <|
        .cond (.t 69)
          (.reg [⟨some 71, none, .mov true (.t 4)⟩,
            ⟨some 72, none, .mk 1 [.c (.d (.int .u8 9))]⟩,
            ⟨some 73, none, .app false 1 1 (.t 71) (.t 72)⟩,
            ⟨some 4, none, .mov true (.t 73)⟩] [0, 4, 5, 6])
          (.seq (.reg [⟨some 75, none, .bin .i .eql (.t 54) (.c (.d (.int .u8 114)))⟩,
            ⟨some 74, none, .mov false (.t 75)⟩] [0, 4, 5, 6, 54, 74]) <|
          .cond (.t 74)
            (.reg [⟨some 76, none, .mov true (.t 4)⟩,
              ⟨some 77, none, .mk 1 [.c (.d (.int .u8 13))]⟩,
              ⟨some 78, none, .app false 1 1 (.t 76) (.t 77)⟩,
              ⟨some 4, none, .mov true (.t 78)⟩] [0, 4, 5, 6])
            (.seq (.reg [⟨some 80, none, .bin .i .eql (.t 54) (.c (.d (.int .u8 120)))⟩,
              ⟨some 79, none, .mov false (.t 80)⟩] [0, 4, 5, 6, 79]) <|
            .cond (.t 79)
              (.seq (.seq (.reg [⟨some 81, none, .mov false (.t 6)⟩,
                ⟨some 82, none, .bin .i .add (.t 81) (.c (.d (.int .i64 2)))⟩,
                ⟨some 83, none, .mov false (.t 5)⟩,
                ⟨some 84, none, .bin .i .geq (.t 82) (.t 83)⟩,
                ⟨some 85, none, .mov false (.t 84)⟩,
                ⟨some 86, some (85, false), .mov false (.t 0)⟩,
                ⟨some 87, some (85, false), .mov false (.t 6)⟩,
                ⟨some 88, some (85, false), .bin .i .add (.t 87) (.c (.d (.int .i64 1)))⟩,
                ⟨some 89, some (85, false), .sidx (.t 86) (.t 88)⟩,
                ⟨some 90, some (85, false), .call 34 [(false, .t 89)]⟩,
                ⟨some 91, some (85, false), .bin .i .lss (.t 90) (.c (.d (.int .i64 0)))⟩,
                ⟨some 92, none, .pick (.t 85) (.c (.d (.bool true))) (.t 91)⟩,
                ⟨some 93, none, .mov false (.t 92)⟩,
                ⟨some 94, some (93, false), .mov false (.t 0)⟩,
                ⟨some 95, some (93, false), .mov false (.t 6)⟩,
                ⟨some 96, some (93, false), .bin .i .add (.t 95) (.c (.d (.int .i64 2)))⟩,
                ⟨some 97, some (93, false), .sidx (.t 94) (.t 96)⟩,
                ⟨some 98, some (93, false), .call 34 [(false, .t 97)]⟩,
                ⟨some 99, some (93, false), .bin .i .lss (.t 98) (.c (.d (.int .i64 0)))⟩,
                ⟨some 100, none, .pick (.t 93) (.c (.d (.bool true))) (.t 99)⟩] [0, 4, 5, 6, 100]) <|
              .cond (.t 100)
                (.seq (.reg [⟨some 2, none, .mov true (.c (.own 1 []))⟩,
                  ⟨some 3, none, .mov false (.c (.d (.bool false)))⟩] [2, 3]) <|
                .ret)
                (.skip)) <|
              .seq (.reg [⟨some 101, none, .mov true (.t 4)⟩,
                ⟨some 102, none, .mov false (.t 0)⟩,
                ⟨some 103, none, .mov false (.t 6)⟩,
                ⟨some 104, none, .bin .i .add (.t 103) (.c (.d (.int .i64 1)))⟩,
                ⟨some 105, none, .sidx (.t 102) (.t 104)⟩,
                ⟨some 106, none, .call 34 [(false, .t 105)]⟩,
                ⟨some 107, none, .bin .i .mul (.t 106) (.c (.d (.int .i64 16)))⟩,
                ⟨some 108, none, .mov false (.t 0)⟩,
                ⟨some 109, none, .mov false (.t 6)⟩,
                ⟨some 110, none, .bin .i .add (.t 109) (.c (.d (.int .i64 2)))⟩,
                ⟨some 111, none, .sidx (.t 108) (.t 110)⟩,
                ⟨some 112, none, .call 34 [(false, .t 111)]⟩,
                ⟨some 113, none, .bin .i .add (.t 107) (.t 112)⟩,
                ⟨some 114, none, .cint .u8 (.t 113)⟩,
                ⟨some 115, none, .mk 1 [.t 114]⟩,
                ⟨some 116, none, .app false 1 1 (.t 101) (.t 115)⟩,
                ⟨some 4, none, .mov true (.t 116)⟩] [0, 4, 5, 6]) <|
              .reg [⟨some 117, none, .mov false (.t 6)⟩,
                ⟨some 118, none, .bin .i .add (.t 117) (.c (.d (.int .i64 2)))⟩,
                ⟨some 6, none, .mov false (.t 118)⟩] [0, 4, 5, 6])
              (.seq (.reg [⟨some 2, none, .mov true (.c (.own 1 []))⟩,
                ⟨some 3, none, .mov false (.c (.d (.bool false)))⟩] [2, 3]) <|
              .ret)))))) <|
    .reg [⟨some 30, none, .mov false (.t 6)⟩,
      ⟨some 31, none, .bin .i .add (.t 30) (.c (.d (.int .i64 1)))⟩,
      ⟨some 6, none, .mov false (.t 31)⟩] [0, 4, 5, 6]
def n_ref2_Unquote : Nat := 27
def f_ref2_Unquote : SFunc where
  np := 1
  res := [.slot 2, .slot 3]
  body := .seq (.reg [⟨some 2, none, .mov true (.c (.own 1 []))⟩,
      ⟨some 3, none, .mov false (.c (.d (.bool false)))⟩] [0]) <|
    .seq (.reg [⟨some 4, none, .mov true (.c (.own 1 []))⟩] [0, 4]) <|
    .seq (.seq (.reg [⟨some 8, none, .mov false (.t 0)⟩,
      ⟨some 9, none, .len true (.t 8)⟩,
      ⟨some 10, none, .bin .i .lss (.t 9) (.c (.d (.int .i64 2)))⟩,
      ⟨some 11, none, .mov false (.t 10)⟩,
      ⟨some 12, some (11, false), .mov false (.t 0)⟩,
      ⟨some 13, some (11, false), .sidx (.t 12) (.c (.d (.int .i64 0)))⟩,
      ⟨some 14, some (11, false), .bin .i .neq (.t 13) (.c (.d (.int .u8 34)))⟩,
      ⟨some 15, none, .pick (.t 11) (.c (.d (.bool true))) (.t 14)⟩,
      ⟨some 16, none, .mov false (.t 15)⟩,
      ⟨some 17, some (16, false), .mov false (.t 0)⟩,
      ⟨some 18, some (16, false), .mov false (.t 0)⟩,
      ⟨some 19, some (16, false), .len true (.t 18)⟩,
      ⟨some 20, some (16, false), .bin .i .sub (.t 19) (.c (.d (.int .i64 1)))⟩,
      ⟨some 21, some (16, false), .sidx (.t 17) (.t 20)⟩,
      ⟨some 22, some (16, false), .bin .i .neq (.t 21) (.c (.d (.int .u8 34)))⟩,
      ⟨some 23, none, .pick (.t 16) (.c (.d (.bool true))) (.t 22)⟩] [0, 4, 23]) <|
    .cond (.t 23)
      (.seq (.reg [⟨some 2, none, .mov true (.c (.own 1 []))⟩,
        ⟨some 3, none, .mov false (.c (.d (.bool false)))⟩] [2, 3]) <|
      .ret)
      (.skip)) <|
    .seq (.reg [⟨some 24, none, .mov false (.t 0)⟩,
      ⟨some 25, none, .len true (.t 24)⟩,
      ⟨some 26, none, .bin .i .sub (.t 25) (.c (.d (.int .i64 1)))⟩,
      ⟨some 5, none, .mov false (.t 26)⟩] [0, 4, 5]) <|
    .seq (.seq (.reg [⟨some 6, none, .mov false (.c (.d (.int .i64 1)))⟩] [0, 4, 5, 6]) <|
    .block 0 <| .loop l_ref2_Unquote_1) <|
    .seq (.reg [⟨some 119, none, .mov true (.t 4)⟩,
      ⟨some 2, none, .mov true (.t 119)⟩,
      ⟨some 3, none, .mov false (.c (.d (.bool true)))⟩] [2, 3]) <|
    .ret
/- cartouche/cartoucheref4.sign -/
def l_ref4_sign_1 : SC :=
  .seq (.seq (.reg [⟨some 5, none, .mov false (.t 4)⟩,
      ⟨some 6, none, .mov false (.t 3)⟩,
      ⟨some 7, none, .len true (.t 6)⟩,
      ⟨some 8, none, .bin .i .lss (.t 5) (.t 7)⟩] [0, 3, 4, 8]) <|
    .cond (.t 8)
      (.skip)
      (.exit 0)) <|
    .seq (.block 1 <| .seq (.reg [⟨some 11, none, .mov false (.t 3)⟩,
      ⟨some 12, none, .mov false (.t 4)⟩,
      ⟨some 13, none, .sidx (.t 11) (.t 12)⟩,
      ⟨some 14, none, .mov false (.t 0)⟩,
      ⟨some 15, none, .bin .i .eql (.t 13) (.t 14)⟩] [0, 3, 4, 15]) <|
    .cond (.t 15)
      (.seq (.reg [⟨some 2, none, .mov false (.c (.d (.bool true)))⟩] [2]) <|
      .ret)
      (.skip)) <|
    .reg [⟨some 9, none, .mov false (.t 4)⟩,
      ⟨some 10, none, .bin .i .add (.t 9) (.c (.d (.int .i64 1)))⟩,
      ⟨some 4, none, .mov false (.t 10)⟩] [0, 3, 4]
def n_ref4_sign : Nat := 28
def f_ref4_sign : SFunc where
  np := 1
  res := [.slot 2]
  body := .seq (.reg [⟨some 2, none, .mov false (.c (.d (.bool false)))⟩] [0]) <|
    .seq (.reg [⟨some 3, none, .mov false (.c (.d (.str [123, 125, 91, 93, 40, 41, 60, 62, 61, 59, 44, 46, 45, 58, 63])))⟩] [0, 3]) <|
    .seq (.seq (.reg [⟨some 4, none, .mov false (.c (.d (.int .i64 0)))⟩] [0, 3, 4]) <|
    .block 0 <| .loop l_ref4_sign_1) <|
    .seq (.reg [⟨some 2, none, .mov false (.c (.d (.bool false)))⟩] [2]) <|
    .ret
/- internal/stringslite.HasPrefix -/
def n_internal_stringslite_HasPrefix : Nat := 29
def f_internal_stringslite_HasPrefix : SFunc where
  np := 2
  res := [.slot 4]
  body := .seq (.reg [⟨some 4, none, .mov false (.c (.d (.bool false)))⟩] [0, 1]) <|
    .seq (.reg [⟨some 5, none, .mov false (.t 0)⟩,
      ⟨some 6, none, .len true (.t 5)⟩,
      ⟨some 7, none, .mov false (.t 1)⟩,
      ⟨some 8, none, .len true (.t 7)⟩,
      ⟨some 9, none, .bin .i .geq (.t 6) (.t 8)⟩,
      ⟨some 10, none, .mov false (.t 9)⟩,
      ⟨some 11, some (10, true), .mov false (.t 0)⟩,
      ⟨some 12, some (10, true), .mov false (.t 1)⟩,
      ⟨some 13, some (10, true), .len true (.t 12)⟩,
      ⟨some 14, some (10, true), .slcs (.t 11) none (some (.t 13))⟩,
      ⟨some 15, some (10, true), .mov false (.t 1)⟩,
      ⟨some 16, some (10, true), .bin .s .eql (.t 14) (.t 15)⟩,
      ⟨some 17, none, .pick (.t 10) (.t 16) (.c (.d (.bool false)))⟩,
      ⟨some 4, none, .mov false (.t 17)⟩] [4]) <|
    .ret
/- cartouche/quote.Digit -/
def n_quote_Digit : Nat := 31
def f_quote_Digit : SFunc where
  np := 1
  res := [.slot 2]
  body := .seq (.reg [⟨some 2, none, .mov false (.c (.d (.int .i64 0)))⟩] [0]) <|
    .seq (.block 0 <| .seq (.reg [⟨some 4, none, .mov false (.t 0)⟩,
      ⟨some 5, none, .bin .i .geq (.t 4) (.c (.d (.int .u8 48)))⟩,
      ⟨some 6, none, .mov false (.t 5)⟩,
      ⟨some 7, some (6, true), .mov false (.t 0)⟩,
      ⟨some 8, some (6, true), .bin .i .leq (.t 7) (.c (.d (.int .u8 57)))⟩,
      ⟨some 9, none, .pick (.t 6) (.t 8) (.c (.d (.bool false)))⟩,
      ⟨some 3, none, .mov false (.t 9)⟩] [0, 3]) <|
    .cond (.t 3)
      (.seq (.reg [⟨some 10, none, .mov false (.t 0)⟩,
        ⟨some 11, none, .bin .i .sub (.t 10) (.c (.d (.int .u8 48)))⟩,
        ⟨some 12, none, .cint .i64 (.t 11)⟩,
        ⟨some 2, none, .mov false (.t 12)⟩] [2]) <|
      .ret)
      (.seq (.reg [⟨some 14, none, .mov false (.t 0)⟩,
        ⟨some 15, none, .bin .i .geq (.t 14) (.c (.d (.int .u8 97)))⟩,
        ⟨some 16, none, .mov false (.t 15)⟩,
        ⟨some 17, some (16, true), .mov false (.t 0)⟩,
        ⟨some 18, some (16, true), .bin .i .leq (.t 17) (.c (.d (.int .u8 102)))⟩,
        ⟨some 19, none, .pick (.t 16) (.t 18) (.c (.d (.bool false)))⟩,
        ⟨some 13, none, .mov false (.t 19)⟩] [0, 13]) <|
      .cond (.t 13)
        (.seq (.reg [⟨some 20, none, .mov false (.t 0)⟩,
          ⟨some 21, none, .bin .i .sub (.t 20) (.c (.d (.int .u8 97)))⟩,
          ⟨some 22, none, .cint .i64 (.t 21)⟩,
          ⟨some 23, none, .bin .i .add (.t 22) (.c (.d (.int .i64 10)))⟩,
          ⟨some 2, none, .mov false (.t 23)⟩] [2]) <|
        .ret)
        (.seq (.reg [⟨some 25, none, .mov false (.t 0)⟩,
          ⟨some 26, none, .bin .i .geq (.t 25) (.c (.d (.int .u8 65)))⟩,
          ⟨some 27, none, .mov false (.t 26)⟩,
          ⟨some 28, some (27, true), .mov false (.t 0)⟩,
          ⟨some 29, some (27, true), .bin .i .leq (.t 28) (.c (.d (.int .u8 70)))⟩,
          ⟨some 30, none, .pick (.t 27) (.t 29) (.c (.d (.bool false)))⟩,
          ⟨some 24, none, .mov false (.t 30)⟩] [0, 24]) <|
        .cond (.t 24)
          (.seq (.reg [⟨some 31, none, .mov false (.t 0)⟩,
            ⟨some 32, none, .bin .i .sub (.t 31) (.c (.d (.int .u8 65)))⟩,
            ⟨some 33, none, .cint .i64 (.t 32)⟩,
            ⟨some 34, none, .bin .i .add (.t 33) (.c (.d (.int .i64 10)))⟩,
            ⟨some 2, none, .mov false (.t 34)⟩] [2]) <|
          .ret)
          (.skip)))) <|
    .seq (.reg [⟨some 2, none, .mov false (.c (.d (.int .i64 (-1))))⟩] [2]) <|
    .ret
/- cartouche/quote.Unquote -/
def l_quote_Unquote_1 : SC :=
  .seq (.seq (.reg [⟨some 34, none, .mov false (.t 5)⟩,
      ⟨some 35, none, .mov false (.t 0)⟩,
      ⟨some 36, none, .len true (.t 35)⟩,
      ⟨some 37, none, .bin .i .lss (.t 34) (.t 36)⟩] [0, 4, 5, 37]) <|
    .cond (.t 37)
      (.skip)
      (.exit 0)) <|
    .seq (.block 1 <| .seq (.reg [⟨some 40, none, .mov false (.t 0)⟩,
      ⟨some 41, none, .mov false (.t 5)⟩,
      ⟨some 42, none, .sidx (.t 40) (.t 41)⟩,
      ⟨some 6, none, .mov false (.t 42)⟩] [0, 4, 5, 6]) <|
    .seq (.block 2 <| .seq (.reg [⟨some 44, none, .mov false (.t 6)⟩,
      ⟨some 45, none, .bin .i .eql (.t 44) (.c (.d (.int .u8 34)))⟩,
      ⟨some 46, none, .mov false (.t 45)⟩,
      ⟨some 47, some (46, false), .mov false (.t 6)⟩,
      ⟨some 48, some (46, false), .bin .i .eql (.t 47) (.c (.d (.int .u8 10)))⟩,
      ⟨some 49, none, .pick (.t 46) (.c (.d (.bool true))) (.t 48)⟩,
      ⟨some 50, none, .mov false (.t 49)⟩,
      ⟨some 51, some (50, false), .mov false (.t 6)⟩,
      ⟨some 52, some (50, false), .bin .i .eql (.t 51) (.c (.d (.int .u8 92)))⟩,
      ⟨some 53, some (50, false), .mov false (.t 52)⟩,
      ⟨some 54, some (53, true), .mov false (.t 5)⟩,
      ⟨some 55, some (53, true), .bin .i .add (.t 54) (.c (.d (.int .i64 1)))⟩,
      ⟨some 56, some (53, true), .mov false (.t 0)⟩,
      ⟨some 57, some (53, true), .len true (.t 56)⟩,
      ⟨some 58, some (53, true), .bin .i .eql (.t 55) (.t 57)⟩,
      ⟨some 59, some (50, false), .pick (.t 53) (.t 58) (.c (.d (.bool false)))⟩,
      ⟨some 60, none, .pick (.t 50) (.c (.d (.bool true))) (.t 59)⟩,
      ⟨some 43, none, .mov false (.t 60)⟩] [0, 4, 5, 6, 43]) <|
    .cond (.t 43)
      (.seq (.reg [⟨some 2, none, .mov true (.c (.own 1 []))⟩,
        ⟨some 3, none, .mov false (.c (.d (.int .i64 11)))⟩] [2, 3]) <|
      .ret)
      (.seq (.reg [⟨some 62, none, .mov false (.t 6)⟩,
        ⟨some 63, none, .bin .i .neq (.t 62) (.c (.d (.int .u8 92)))⟩,
        ⟨some 61, none, .mov false (.t 63)⟩] [0, 4, 5, 6, 61]) <|
      .cond (.t 61)
        (.seq (.reg [⟨some 64, none, .mov true (.t 4)⟩,
          ⟨some 65, none, .mov false (.t 6)⟩,
          ⟨some 66, none, .mk 1 [.t 65]⟩,
          ⟨some 67, none, .app false 1 1 (.t 64) (.t 66)⟩,
          ⟨some 4, none, .mov true (.t 67)⟩] [0, 4, 5]) <|
        .exit 1)
        (.skip))) <|
    .seq (.reg [⟨some 68, none, .mov false (.t 5)⟩,
      ⟨some 69, none, .bin .i .add (.t 68) (.c (.d (.int .i64 1)))⟩,
      ⟨some 5, none, .mov false (.t 69)⟩] [0, 4, 5]) <|
    .seq (.reg [⟨some 70, none, .mov false (.t 0)⟩,
      ⟨some 71, none, .mov false (.t 5)⟩,
      ⟨some 72, none, .sidx (.t 70) (.t 71)⟩] [0, 4, 5, 72]) <|
    .block 3 <| .seq (.seq (.reg [⟨some 74, none, .bin .i .eql (.t 72) (.c (.d (.int .u8 34)))⟩,
      ⟨some 73, none, .mov false (.t 74)⟩] [0, 4, 5, 72, 73]) <|
    .cond (.t 73)
      (.skip)
      (.reg [⟨some 75, none, .bin .i .eql (.t 72) (.c (.d (.int .u8 92)))⟩,
        ⟨some 73, none, .mov false (.t 75)⟩] [0, 4, 5, 72, 73])) <|
    .cond (.t 73)
      (.reg [⟨some 76, none, .mov true (.t 4)⟩,
        ⟨some 77, none, .mov false (.t 0)⟩,
        ⟨some 78, none, .mov false (.t 5)⟩,
        ⟨some 79, none, .sidx (.t 77) (.t 78)⟩,
        ⟨some 80, none, .mk 1 [.t 79]⟩,
        ⟨some 81, none, .app false 1 1 (.t 76) (.t 80)⟩,
        ⟨some 4, none, .mov true (.t 81)⟩] [0, 4, 5])
      (.seq (.reg [⟨some 83, none, .bin .i .eql (.t 72) (.c (.d (.int .u8 110)))⟩,
        ⟨some 82, none, .mov false (.t 83)⟩] [0, 4, 5, 72, 82]) <|
      .cond (.t 82)
        (.reg [⟨some 84, none, .mov true (.t 4)⟩,
          ⟨some 85, none, .mk 1 [.c (.d (.int .u8 10))]⟩,
          ⟨some 86, none, .app false 1 1 (.t 84) (.t 85)⟩,
          ⟨some 4, none, .mov true (.t 86)⟩] [0, 4, 5])
        (.seq (.reg [⟨some 88, none, .bin .i .eql (.t 72) (.c (.d (.int .u8 116)))⟩,
          ⟨some 87, none, .mov false (.t 88)⟩] [0, 4, 5, 72, 87]) <|
        .cond (.t 87)
          (.reg [⟨some 89, none, .mov true (.t 4)⟩,
            ⟨some 90, none, .mk 1 [.c (.d (.int .u8 9))]⟩,
            ⟨some 91, none, .app false 1 1 (.t 89) (.t 90)⟩,
            ⟨some 4, none, .mov true (.t 91)⟩] [0, 4, 5])
          (.seq (.reg [⟨some 93, none, .bin .i .eql (.t 72) (.c (.d (.int .u8 114)))⟩,
            ⟨some 92, none, .mov false (.t 93)⟩] [0, 4, 5, 72, 92]) <|
          .cond (.t 92)
            (.reg [⟨some 94, none, .mov true (.t 4)⟩,
              ⟨some 95, none, .mk 1 [.c (.d (.int .u8 13))]⟩,
              ⟨some 96, none, .app false 1 1 (.t 94) (.t 95)⟩,
              ⟨some 4, none, .mov true (.t 96)⟩] [0, 4, 5])
            (.seq (.reg [⟨some 98, none, .bin .i .eql (.t 72) (.c (.d (.int .u8 120)))⟩,
              ⟨some 97, none, .mov false (.t 98)⟩] [0, 4, 5, 97]) <|
            .cond (.t 97)
              (.seq (.seq (.reg [⟨some 99, none, .mov false (.t 0)⟩,
                ⟨some 100, none, .len true (.t 99)⟩,
                ⟨some 101, none, .mov false (.t 5)⟩,
                ⟨some 102, none, .bin .i .sub (.t 100) (.t 101)⟩,
                ⟨some 103, none, .bin .i .lss (.t 102) (.c (.d (.int .i64 3)))⟩,
                ⟨some 104, none, .mov false (.t 103)⟩,
                ⟨some 105, some (104, false), .mov false (.t 0)⟩,
                ⟨some 106, some (104, false), .mov false (.t 5)⟩,
                ⟨some 107, some (104, false), .bin .i .add (.t 106) (.c (.d (.int .i64 1)))⟩,
                ⟨some 108, some (104, false), .sidx (.t 105) (.t 107)⟩,
                ⟨some 109, some (104, false), .call 31 [(false, .t 108)]⟩,
                ⟨some 110, some (104, false), .bin .i .lss (.t 109) (.c (.d (.int .i64 0)))⟩,
                ⟨some 111, none, .pick (.t 104) (.c (.d (.bool true))) (.t 110)⟩,
                ⟨some 112, none, .mov false (.t 111)⟩,
                ⟨some 113, some (112, false), .mov false (.t 0)⟩,
                ⟨some 114, some (112, false), .mov false (.t 5)⟩,
                ⟨some 115, some (112, false), .bin .i .add (.t 114) (.c (.d (.int .i64 2)))⟩,
                ⟨some 116, some (112, false), .sidx (.t 113) (.t 115)⟩,
                ⟨some 117, some (112, false), .call 31 [(false, .t 116)]⟩,
                ⟨some 118, some (112, false), .bin .i .lss (.t 117) (.c (.d (.int .i64 0)))⟩,
                ⟨some 119, none, .pick (.t 112) (.c (.d (.bool true))) (.t 118)⟩] [0, 4, 5, 119]) <|
              .cond (.t 119)
                (.seq (.reg [⟨some 2, none, .mov true (.c (.own 1 []))⟩,
                  ⟨some 3, none, .mov false (.c (.d (.int .i64 11)))⟩] [2, 3]) <|
                .ret)
                (.skip)) <|
              .seq (.reg [⟨some 120, none, .mov true (.t 4)⟩,
                ⟨some 121, none, .mov false (.t 0)⟩,
                ⟨some 122, none, .mov false (.t 5)⟩,
                ⟨some 123, none, .bin .i .add (.t 122) (.c (.d (.int .i64 1)))⟩,
                ⟨some 124, none, .sidx (.t 121) (.t 123)⟩,
                ⟨some 125, none, .call 31 [(false, .t 124)]⟩,
                ⟨some 126, none, .bin .i .shl (.t 125) (.c (.d (.int .u64 4)))⟩,
                ⟨some 127, none, .mov false (.t 0)⟩,
                ⟨some 128, none, .mov false (.t 5)⟩,
                ⟨some 129, none, .bin .i .add (.t 128) (.c (.d (.int .i64 2)))⟩,
                ⟨some 130, none, .sidx (.t 127) (.t 129)⟩,
                ⟨some 131, none, .call 31 [(false, .t 130)]⟩,
                ⟨some 132, none, .bin .i .or (.t 126) (.t 131)⟩,
                ⟨some 133, none, .cint .u8 (.t 132)⟩,
                ⟨some 134, none, .mk 1 [.t 133]⟩,
                ⟨some 135, none, .app false 1 1 (.t 120) (.t 134)⟩,
                ⟨some 4, none, .mov true (.t 135)⟩] [0, 4, 5]) <|
              .reg [⟨some 136, none, .mov false (.t 5)⟩,
                ⟨some 137, none, .bin .i .add (.t 136) (.c (.d (.int .i64 2)))⟩,
                ⟨some 5, none, .mov false (.t 137)⟩] [0, 4, 5])
              (.seq (.reg [⟨some 2, none, .mov true (.c (.own 1 []))⟩,
                ⟨some 3, none, .mov false (.c (.d (.int .i64 11)))⟩] [2, 3]) <|
              .ret)))))) <|
    .reg [⟨some 38, none, .mov false (.t 5)⟩,
      ⟨some 39, none, .bin .i .add (.t 38) (.c (.d (.int .i64 1)))⟩,
      ⟨some 5, none, .mov false (.t 39)⟩] [0, 4, 5]
def n_quote_Unquote : Nat := 32
def f_quote_Unquote : SFunc where
  np := 1
  res := [.slot 2, .slot 3]
  body := .seq (.reg [⟨some 2, none, .mov true (.c (.own 1 []))⟩,
      ⟨some 3, none, .mov false (.c (.d (.int .i64 0)))⟩] [0]) <|
    .seq (.seq (.reg [⟨some 7, none, .mov false (.t 0)⟩,
      ⟨some 8, none, .len true (.t 7)⟩,
      ⟨some 9, none, .bin .i .gtr (.t 8) (.c (.d (.int .i64 65536)))⟩] [0, 9]) <|
    .cond (.t 9)
      (.seq (.reg [⟨some 2, none, .mov true (.c (.own 1 []))⟩,
        ⟨some 3, none, .mov false (.c (.d (.int .i64 1)))⟩] [2, 3]) <|
      .ret)
      (.skip)) <|
    .seq (.seq (.reg [⟨some 10, none, .mov false (.t 0)⟩,
      ⟨some 11, none, .len true (.t 10)⟩,
      ⟨some 12, none, .bin .i .lss (.t 11) (.c (.d (.int .i64 2)))⟩,
      ⟨some 13, none, .mov false (.t 12)⟩,
      ⟨some 14, some (13, false), .mov false (.t 0)⟩,
      ⟨some 15, some (13, false), .sidx (.t 14) (.c (.d (.int .i64 0)))⟩,
      ⟨some 16, some (13, false), .bin .i .neq (.t 15) (.c (.d (.int .u8 34)))⟩,
      ⟨some 17, none, .pick (.t 13) (.c (.d (.bool true))) (.t 16)⟩,
      ⟨some 18, none, .mov false (.t 17)⟩,
      ⟨some 19, some (18, false), .mov false (.t 0)⟩,
      ⟨some 20, some (18, false), .mov false (.t 0)⟩,
      ⟨some 21, some (18, false), .len true (.t 20)⟩,
      ⟨some 22, some (18, false), .bin .i .sub (.t 21) (.c (.d (.int .i64 1)))⟩,
      ⟨some 23, some (18, false), .sidx (.t 19) (.t 22)⟩,
      ⟨some 24, some (18, false), .bin .i .neq (.t 23) (.c (.d (.int .u8 34)))⟩,
      ⟨some 25, none, .pick (.t 18) (.c (.d (.bool true))) (.t 24)⟩] [0, 25]) <|
    .cond (.t 25)
      (.seq (.reg [⟨some 2, none, .mov true (.c (.own 1 []))⟩,
        ⟨some 3, none, .mov false (.c (.d (.int .i64 11)))⟩] [2, 3]) <|
      .ret)
      (.skip)) <|
    .seq (.reg [⟨some 26, none, .mov false (.t 0)⟩,
      ⟨some 27, none, .mov false (.t 0)⟩,
      ⟨some 28, none, .len true (.t 27)⟩,
      ⟨some 29, none, .bin .i .sub (.t 28) (.c (.d (.int .i64 1)))⟩,
      ⟨some 30, none, .slcs (.t 26) (some (.c (.d (.int .i64 1)))) (some (.t 29))⟩,
      ⟨some 0, none, .mov false (.t 30)⟩] [0]) <|
    .seq (.reg [⟨some 31, none, .mov false (.t 0)⟩,
      ⟨some 32, none, .len true (.t 31)⟩,
      ⟨some 33, none, .make (.int .u8 0) 1 (.c (.d (.int .i64 0))) (.t 32)⟩,
      ⟨some 4, none, .mov true (.t 33)⟩] [0, 4]) <|
    .seq (.seq (.reg [⟨some 5, none, .mov false (.c (.d (.int .i64 0)))⟩] [0, 4, 5]) <|
    .block 0 <| .loop l_quote_Unquote_1) <|
    .seq (.reg [⟨some 138, none, .mov false (.t 4)⟩,
      ⟨some 139, none, .len false (.t 138)⟩,
      ⟨some 140, none, .make (.int .u8 0) 1 (.c (.d (.int .i64 0))) (.t 139)⟩,
      ⟨some 141, none, .mov true (.t 4)⟩,
      ⟨some 142, none, .app false 1 1 (.t 140) (.t 141)⟩,
      ⟨some 2, none, .mov true (.t 142)⟩,
      ⟨some 3, none, .mov false (.c (.d (.int .i64 0)))⟩] [2, 3]) <|
    .ret
/- cartouche/cartoucheref2.Hex -/
def n_ref2_Hex : Nat := 34
def f_ref2_Hex : SFunc where
  np := 1
  res := [.slot 2]
  body := .seq (.reg [⟨some 2, none, .mov false (.c (.d (.int .i64 0)))⟩] [0]) <|
    .seq (.seq (.reg [⟨some 3, none, .mov false (.t 0)⟩,
      ⟨some 4, none, .bin .i .geq (.t 3) (.c (.d (.int .u8 48)))⟩,
      ⟨some 5, none, .mov false (.t 4)⟩,
      ⟨some 6, some (5, true), .mov false (.t 0)⟩,
      ⟨some 7, some (5, true), .bin .i .leq (.t 6) (.c (.d (.int .u8 57)))⟩,
      ⟨some 8, none, .pick (.t 5) (.t 7) (.c (.d (.bool false)))⟩] [0, 8]) <|
    .cond (.t 8)
      (.seq (.reg [⟨some 9, none, .mov false (.t 0)⟩,
        ⟨some 10, none, .cint .i64 (.t 9)⟩,
        ⟨some 11, none, .bin .i .sub (.t 10) (.c (.d (.int .i64 48)))⟩,
        ⟨some 2, none, .mov false (.t 11)⟩] [2]) <|
      .ret)
      (.skip)) <|
    .seq (.seq (.reg [⟨some 12, none, .mov false (.t 0)⟩,
      ⟨some 13, none, .bin .i .geq (.t 12) (.c (.d (.int .u8 97)))⟩,
      ⟨some 14, none, .mov false (.t 13)⟩,
      ⟨some 15, some (14, true), .mov false (.t 0)⟩,
      ⟨some 16, some (14, true), .bin .i .leq (.t 15) (.c (.d (.int .u8 102)))⟩,
      ⟨some 17, none, .pick (.t 14) (.t 16) (.c (.d (.bool false)))⟩] [0, 17]) <|
    .cond (.t 17)
      (.seq (.reg [⟨some 18, none, .mov false (.t 0)⟩,
        ⟨some 19, none, .cint .i64 (.t 18)⟩,
        ⟨some 20, none, .bin .i .sub (.t 19) (.c (.d (.int .i64 87)))⟩,
        ⟨some 2, none, .mov false (.t 20)⟩] [2]) <|
      .ret)
      (.skip)) <|
    .seq (.seq (.reg [⟨some 21, none, .mov false (.t 0)⟩,
      ⟨some 22, none, .bin .i .geq (.t 21) (.c (.d (.int .u8 65)))⟩,
      ⟨some 23, none, .mov false (.t 22)⟩,
      ⟨some 24, some (23, true), .mov false (.t 0)⟩,
      ⟨some 25, some (23, true), .bin .i .leq (.t 24) (.c (.d (.int .u8 70)))⟩,
      ⟨some 26, none, .pick (.t 23) (.t 25) (.c (.d (.bool false)))⟩] [0, 26]) <|
    .cond (.t 26)
      (.seq (.reg [⟨some 27, none, .mov false (.t 0)⟩,
        ⟨some 28, none, .cint .i64 (.t 27)⟩,
        ⟨some 29, none, .bin .i .sub (.t 28) (.c (.d (.int .i64 55)))⟩,
        ⟨some 2, none, .mov false (.t 29)⟩] [2]) <|
      .ret)
      (.skip)) <|
    .seq (.reg [⟨some 2, none, .mov false (.c (.d (.int .i64 (-1))))⟩] [2]) <|
    .ret
theorem c_law4_LexKnown : chkFunc Try.prog n_law4_LexKnown f_law4_LexKnown = true := by kernel_rfl
theorem c_law4_LexSplits : chkFunc Try.prog n_law4_LexSplits f_law4_LexSplits = true := by kernel_rfl
theorem c_law4_LexAgain : chkFunc Try.prog n_law4_LexAgain f_law4_LexAgain = true := by kernel_rfl
theorem c_law4_LexPlaces : chkFunc Try.prog n_law4_LexPlaces f_law4_LexPlaces = true := by kernel_rfl
theorem c_lex_Split : chkFunc Try.prog n_lex_Split f_lex_Split = true := by kernel_rfl
theorem c_law4_awake : chkFunc Try.prog n_law4_awake f_law4_awake = true := by kernel_rfl
theorem c_law4_same : chkFunc Try.prog n_law4_same f_law4_same = true := by kernel_rfl
theorem c_law4_fails : chkFunc Try.prog n_law4_fails f_law4_fails = true := by kernel_rfl
theorem c_ref4_Split : chkFunc Try.prog n_ref4_Split f_ref4_Split = true := by kernel_rfl
theorem c_law4_like : chkFunc Try.prog n_law4_like f_law4_like = true := by kernel_rfl
theorem c_strings_HasPrefix : chkFunc Try.prog n_strings_HasPrefix f_strings_HasPrefix = true := by kernel_rfl
theorem c_lex_letter : chkFunc Try.prog n_lex_letter f_lex_letter = true := by kernel_rfl
theorem c_lex_named : chkFunc Try.prog n_lex_named f_lex_named = true := by kernel_rfl
theorem c_lex_digit : chkFunc Try.prog n_lex_digit f_lex_digit = true := by kernel_rfl
theorem c_lex_number : chkFunc Try.prog n_lex_number f_lex_number = true := by kernel_rfl
theorem c_lex_quoted : chkFunc Try.prog n_lex_quoted f_lex_quoted = true := by kernel_rfl
theorem c_ref4_space : chkFunc Try.prog n_ref4_space f_ref4_space = true := by kernel_rfl
theorem c_ref4_to : chkFunc Try.prog n_ref4_to f_ref4_to = true := by kernel_rfl
theorem c_ref4_letter : chkFunc Try.prog n_ref4_letter f_ref4_letter = true := by kernel_rfl
theorem c_ref4_digit : chkFunc Try.prog n_ref4_digit f_ref4_digit = true := by kernel_rfl
theorem c_ref4_number : chkFunc Try.prog n_ref4_number f_ref4_number = true := by kernel_rfl
theorem c_ref4_quoted : chkFunc Try.prog n_ref4_quoted f_ref4_quoted = true := by kernel_rfl
theorem c_ref2_Unquote : chkFunc Try.prog n_ref2_Unquote f_ref2_Unquote = true := by kernel_rfl
theorem c_ref4_sign : chkFunc Try.prog n_ref4_sign f_ref4_sign = true := by kernel_rfl
theorem c_internal_stringslite_HasPrefix : chkFunc Try.prog n_internal_stringslite_HasPrefix f_internal_stringslite_HasPrefix = true := by kernel_rfl
theorem c_quote_Digit : chkFunc Try.prog n_quote_Digit f_quote_Digit = true := by kernel_rfl
theorem c_quote_Unquote : chkFunc Try.prog n_quote_Unquote f_quote_Unquote = true := by kernel_rfl
theorem c_ref2_Hex : chkFunc Try.prog n_ref2_Hex f_ref2_Hex = true := by kernel_rfl
def fns : List (Nat × SFunc) := [(n_law4_LexKnown, f_law4_LexKnown), (n_law4_LexSplits, f_law4_LexSplits), (n_law4_LexAgain, f_law4_LexAgain), (n_law4_LexPlaces, f_law4_LexPlaces), (n_lex_Split, f_lex_Split), (n_law4_awake, f_law4_awake), (n_law4_same, f_law4_same), (n_law4_fails, f_law4_fails), (n_ref4_Split, f_ref4_Split), (n_law4_like, f_law4_like), (n_strings_HasPrefix, f_strings_HasPrefix), (n_lex_letter, f_lex_letter), (n_lex_named, f_lex_named), (n_lex_digit, f_lex_digit), (n_lex_number, f_lex_number), (n_lex_quoted, f_lex_quoted), (n_ref4_space, f_ref4_space), (n_ref4_to, f_ref4_to), (n_ref4_letter, f_ref4_letter), (n_ref4_digit, f_ref4_digit), (n_ref4_number, f_ref4_number), (n_ref4_quoted, f_ref4_quoted), (n_ref2_Unquote, f_ref2_Unquote), (n_ref4_sign, f_ref4_sign), (n_internal_stringslite_HasPrefix, f_internal_stringslite_HasPrefix), (n_quote_Digit, f_quote_Digit), (n_quote_Unquote, f_quote_Unquote), (n_ref2_Hex, f_ref2_Hex)]
def globals (m : Int) : List (Nat × D) := [(0, .int .i64 m)]
/-- strings.Index and strings.IndexByte, by what they answer. -/
def prims : List (Nat × (List D → Option V)) :=
  [(20, fun
    | [.str s, .str t] => if s.length < 4294967281 then some (.d (.int .i64 (Go.Lib.index s t))) else none
    | _ => none),
   (14, fun
    | [.str s, .int .u8 c] => some (.d (.int .i64 (Go.Lib.indexByte s c.toNat.toUInt8)))
    | _ => none)]
/-- The machine over data: the functions above, the listed tables, the library's functions that are told by what they answer. -/
def M (m : Int) : Mach where
  fn := Vi.get fns
  prim := Vi.get prims
  glob := Vi.get (globals m)
theorem fnsOK (m : Int) : ∀ f sf, (M m).fn f = some sf → chkFunc Try.prog f sf = true := fun f sf h => by
  have hm := get_mem (l := fns) h
  simp only [fns, List.mem_cons, List.mem_nil_iff, or_false, Prod.mk.injEq] at hm
  rcases hm with ⟨rfl, rfl⟩ | ⟨rfl, rfl⟩ | ⟨rfl, rfl⟩ | ⟨rfl, rfl⟩ | ⟨rfl, rfl⟩ | ⟨rfl, rfl⟩ | ⟨rfl, rfl⟩ | ⟨rfl, rfl⟩ | ⟨rfl, rfl⟩ | ⟨rfl, rfl⟩ | ⟨rfl, rfl⟩ | ⟨rfl, rfl⟩ | ⟨rfl, rfl⟩ | ⟨rfl, rfl⟩ | ⟨rfl, rfl⟩ | ⟨rfl, rfl⟩ | ⟨rfl, rfl⟩ | ⟨rfl, rfl⟩ | ⟨rfl, rfl⟩ | ⟨rfl, rfl⟩ | ⟨rfl, rfl⟩ | ⟨rfl, rfl⟩ | ⟨rfl, rfl⟩ | ⟨rfl, rfl⟩ | ⟨rfl, rfl⟩ | ⟨rfl, rfl⟩ | ⟨rfl, rfl⟩ | ⟨rfl, rfl⟩
  · exact c_law4_LexKnown
  · exact c_law4_LexSplits
  · exact c_law4_LexAgain
  · exact c_law4_LexPlaces
  · exact c_lex_Split
  · exact c_law4_awake
  · exact c_law4_same
  · exact c_law4_fails
  · exact c_ref4_Split
  · exact c_law4_like
  · exact c_strings_HasPrefix
  · exact c_lex_letter
  · exact c_lex_named
  · exact c_lex_digit
  · exact c_lex_number
  · exact c_lex_quoted
  · exact c_ref4_space
  · exact c_ref4_to
  · exact c_ref4_letter
  · exact c_ref4_digit
  · exact c_ref4_number
  · exact c_ref4_quoted
  · exact c_ref2_Unquote
  · exact c_ref4_sign
  · exact c_internal_stringslite_HasPrefix
  · exact c_quote_Digit
  · exact c_quote_Unquote
  · exact c_ref2_Hex
end Go.Proofs.Ytladdhfkmnhmfaa

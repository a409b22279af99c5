/-
  The functions that the laws reach, in compact form, and that each stands for the program's own. Written by a program of this repository (tools/print), not by hand.
-/
import Derived.Test.YtedncpnkbpbchaaGreatDoorChecked
import Derived.Test.YtedncpnkbpbchaaGreatDoorViRow
import Derived.Test.YtedncpnkbpbchaaGreatDoorViBytes
import Derived.Lib.Bytealg
import Derived.Lib.Space
import Derived.Shelf.Strconv.Itoa4
import Derived.Shelf.Strings.Repeat
import Derived.Shelf.Pu.ParseUintPublic10
import Derived.KernelRfl
import GoSem.PinnedTables
set_option maxRecDepth 100000
namespace Go.Proofs.YtedncpnkbpbchaaGreatDoor
open Go.Vi
/- cartouche/cartouchelaw3.ScalarBack -/
def n_law3_ScalarBack : Nat := 3
def f_law3_ScalarBack : SFunc where
  np := 3
  res := [.slot 6]
  body := .seq (.reg [⟨some 4, none, .box (.t 1)⟩,
      ⟨some 6, none, .mov false (.c (.d (.bool false)))⟩] [0, 2, 4, 4]) <|
    .seq (.seq (.reg [⟨some 19, none, .call 5 []⟩,
      ⟨some 20, none, .not (.t 19)⟩] [0, 2, 4, 4, 20]) <|
    .cond (.t 20)
      (.seq (.reg [⟨some 6, none, .mov false (.c (.d (.bool false)))⟩] [6]) <|
      .ret)
      (.skip)) <|
    .seq (.reg [⟨some 22, none, .mov false (.t 0)⟩,
      ⟨some 23, none, .call 6 [(false, .t 22)]⟩,
      ⟨some 21, none, .mov false (.t 23)⟩,
      ⟨some 24, none, .ext (.t 21) 0⟩,
      ⟨some 25, none, .ext (.t 21) 1⟩,
      ⟨some 7, none, .mov false (.t 24)⟩,
      ⟨some 8, none, .mov false (.t 25)⟩] [0, 2, 4, 4, 7, 8]) <|
    .seq (.seq (.reg [⟨some 26, none, .mov false (.t 8)⟩,
      ⟨some 27, none, .bin .i .eql (.t 26) (.c (.d (.int .i64 0)))⟩] [0, 2, 4, 4, 7, 27]) <|
    .cond (.t 27)
      (.seq (.reg [⟨some 29, none, .mov false (.t 7)⟩,
        ⟨some 30, none, .call 7 [(false, .t 29)]⟩,
        ⟨some 28, none, .mov false (.t 30)⟩,
        ⟨some 31, none, .ext (.t 28) 0⟩,
        ⟨some 32, none, .ext (.t 28) 1⟩,
        ⟨some 9, none, .mov false (.t 31)⟩,
        ⟨some 10, none, .mov false (.t 32)⟩] [0, 2, 4, 4, 9, 10]) <|
      .seq (.reg [⟨some 33, none, .mov false (.t 10)⟩,
        ⟨some 34, none, .bin .i .neq (.t 33) (.c (.d (.int .i64 0)))⟩,
        ⟨some 35, none, .mov false (.t 34)⟩,
        ⟨some 36, some (35, false), .mov false (.t 9)⟩,
        ⟨some 37, some (35, false), .mov false (.t 0)⟩,
        ⟨some 38, some (35, false), .bin .i .neq (.t 36) (.t 37)⟩,
        ⟨some 39, none, .pick (.t 35) (.c (.d (.bool true))) (.t 38)⟩] [0, 2, 4, 4, 39]) <|
      .cond (.t 39)
        (.seq (.reg [⟨some 6, none, .mov false (.c (.d (.bool false)))⟩] [6]) <|
        .ret)
        (.skip))
      (.skip)) <|
    .seq (.reg [⟨some 41, none, .mov false (.t 0)⟩,
      ⟨some 42, none, .load (some 3) (.t 4)⟩,
      ⟨some 43, none, .call 8 [(false, .t 41), (false, .t 42)]⟩,
      ⟨some 40, none, .mov false (.t 43)⟩,
      ⟨some 44, none, .ext (.t 40) 0⟩,
      ⟨some 45, none, .ext (.t 40) 1⟩,
      ⟨some 11, none, .mov true (.t 44)⟩,
      ⟨some 8, none, .mov false (.t 45)⟩] [0, 2, 4, 4, 8, 11]) <|
    .seq (.seq (.reg [⟨some 46, none, .mov false (.t 8)⟩,
      ⟨some 47, none, .bin .i .neq (.t 46) (.c (.d (.int .i64 0)))⟩] [0, 2, 4, 4, 11, 47]) <|
    .cond (.t 47)
      (.seq (.reg [⟨some 48, none, .mov true (.t 11)⟩,
        ⟨some 49, none, .len false (.t 48)⟩,
        ⟨some 50, none, .bin .i .eql (.t 49) (.c (.d (.int .i64 0)))⟩,
        ⟨some 6, none, .mov false (.t 50)⟩] [6]) <|
      .ret)
      (.skip)) <|
    .seq (.reg [⟨some 52, none, .mov false (.t 0)⟩,
      ⟨some 53, none, .mk 1 []⟩,
      ⟨some 54, none, .mov false (.t 11)⟩,
      ⟨some 55, none, .app false 1 1 (.t 53) (.t 54)⟩,
      ⟨some 56, none, .mov true (.t 2)⟩,
      ⟨some 57, none, .app false 1 1 (.t 55) (.t 56)⟩,
      ⟨some 58, none, .call 9 [(false, .t 52), (false, .t 57), (false, .c (.d (.int .i64 0)))]⟩,
      ⟨some 51, none, .mov false (.t 58)⟩,
      ⟨some 59, none, .ext (.t 51) 0⟩,
      ⟨some 60, none, .ext (.t 51) 1⟩,
      ⟨some 61, none, .ext (.t 51) 2⟩,
      ⟨some 12, none, .zbox [.int .u64 0, .slice 0 [], .slice 0 []]⟩,
      ⟨none, none, .store 3 (.t 12) (.t 59)⟩,
      ⟨some 13, none, .mov false (.t 60)⟩,
      ⟨some 14, none, .mov false (.t 61)⟩] [0, 4, 4, 11, 12, 12, 13, 14]) <|
    .seq (.reg [⟨some 63, none, .mov false (.t 0)⟩,
      ⟨some 64, none, .load (some 3) (.t 4)⟩,
      ⟨some 65, none, .call 10 [(false, .t 63), (false, .t 64)]⟩,
      ⟨some 62, none, .mov false (.t 65)⟩,
      ⟨some 66, none, .ext (.t 62) 0⟩,
      ⟨some 67, none, .ext (.t 62) 1⟩,
      ⟨some 15, none, .mov false (.t 66)⟩,
      ⟨some 16, none, .mov false (.t 67)⟩] [0, 4, 4, 11, 12, 12, 13, 14, 15, 16]) <|
    .seq (.reg [⟨some 69, none, .mov false (.t 0)⟩,
      ⟨some 70, none, .mov false (.t 15)⟩,
      ⟨some 71, none, .call 11 [(false, .t 69), (false, .t 70)]⟩,
      ⟨some 68, none, .mov false (.t 71)⟩,
      ⟨some 72, none, .ext (.t 68) 0⟩,
      ⟨some 73, none, .ext (.t 68) 1⟩,
      ⟨some 17, none, .zbox [.int .u64 0, .slice 0 [], .slice 0 []]⟩,
      ⟨none, none, .store 3 (.t 17) (.t 72)⟩,
      ⟨some 18, none, .mov false (.t 73)⟩] [4, 4, 11, 12, 12, 13, 14, 15, 16, 17, 17, 18]) <|
    .seq (.seq (.reg [⟨some 74, none, .load (some 3) (.t 12)⟩,
      ⟨some 75, none, .mov false (.t 14)⟩,
      ⟨some 76, none, .load (some 3) (.t 4)⟩,
      ⟨some 77, none, .call 12 [(false, .t 74), (false, .t 75), (false, .t 76), (false, .c (.d (.int .i64 0)))]⟩,
      ⟨some 78, none, .not (.t 77)⟩,
      ⟨some 79, none, .mov false (.t 78)⟩,
      ⟨some 80, some (79, false), .mov false (.t 13)⟩,
      ⟨some 81, some (79, false), .mov true (.t 11)⟩,
      ⟨some 82, some (79, false), .len false (.t 81)⟩,
      ⟨some 83, some (79, false), .bin .i .neq (.t 80) (.t 82)⟩,
      ⟨some 84, none, .pick (.t 79) (.c (.d (.bool true))) (.t 83)⟩,
      ⟨some 85, none, .mov false (.t 84)⟩,
      ⟨some 86, some (85, false), .mov false (.t 16)⟩,
      ⟨some 87, some (85, false), .bin .i .neq (.t 86) (.c (.d (.int .i64 0)))⟩,
      ⟨some 88, none, .pick (.t 85) (.c (.d (.bool true))) (.t 87)⟩] [4, 4, 15, 17, 17, 18, 88]) <|
    .cond (.t 88)
      (.seq (.reg [⟨some 6, none, .mov false (.c (.d (.bool false)))⟩] [6]) <|
      .ret)
      (.skip)) <|
    .seq (.seq (.reg [⟨some 89, none, .mov false (.t 15)⟩,
      ⟨some 90, none, .len true (.t 89)⟩,
      ⟨some 91, none, .bin .i .gtr (.t 90) (.c (.d (.int .i64 65536)))⟩] [4, 4, 17, 17, 18, 91]) <|
    .cond (.t 91)
      (.seq (.reg [⟨some 92, none, .mov false (.t 18)⟩,
        ⟨some 93, none, .bin .i .eql (.t 92) (.c (.d (.int .i64 1)))⟩,
        ⟨some 6, none, .mov false (.t 93)⟩] [6]) <|
      .ret)
      (.skip)) <|
    .seq (.reg [⟨some 94, none, .load (some 3) (.t 17)⟩,
      ⟨some 95, none, .mov false (.t 18)⟩,
      ⟨some 96, none, .load (some 3) (.t 4)⟩,
      ⟨some 97, none, .call 12 [(false, .t 94), (false, .t 95), (false, .t 96), (false, .c (.d (.int .i64 0)))]⟩,
      ⟨some 6, none, .mov false (.t 97)⟩] [6]) <|
    .ret
/- cartouche/cartouchelaw3.ScalarKnown -/
def n_law3_ScalarKnown : Nat := 4
def f_law3_ScalarKnown : SFunc where
  np := 0
  res := [.slot 0]
  body := .seq (.reg [⟨some 0, none, .mov false (.c (.d (.bool false)))⟩] []) <|
    .seq (.reg [⟨some 22, none, .call 13 [(false, .c (.d (.int .i64 6)))]⟩,
      ⟨some 21, none, .mov false (.t 22)⟩,
      ⟨some 23, none, .ext (.t 21) 0⟩,
      ⟨some 24, none, .ext (.t 21) 1⟩,
      ⟨some 1, none, .mov false (.t 23)⟩,
      ⟨some 2, none, .mov false (.t 24)⟩] [1, 2]) <|
    .seq (.reg [⟨some 26, none, .call 13 [(false, .c (.d (.int .i64 0)))]⟩,
      ⟨some 25, none, .mov false (.t 26)⟩,
      ⟨some 27, none, .ext (.t 25) 0⟩,
      ⟨some 28, none, .ext (.t 25) 1⟩,
      ⟨some 3, none, .mov false (.t 27)⟩,
      ⟨some 4, none, .mov false (.t 28)⟩] [1, 2, 4]) <|
    .seq (.seq (.reg [⟨some 29, none, .call 5 []⟩,
      ⟨some 30, none, .not (.t 29)⟩,
      ⟨some 31, none, .mov false (.t 30)⟩,
      ⟨some 32, some (31, false), .mov false (.t 1)⟩,
      ⟨some 33, some (31, false), .bin .i .neq (.t 32) (.c (.d (.int .i64 0)))⟩,
      ⟨some 34, none, .pick (.t 31) (.c (.d (.bool true))) (.t 33)⟩,
      ⟨some 35, none, .mov false (.t 34)⟩,
      ⟨some 36, some (35, false), .mov false (.t 2)⟩,
      ⟨some 37, some (35, false), .bin .i .neq (.t 36) (.c (.d (.int .i64 0)))⟩,
      ⟨some 38, none, .pick (.t 35) (.c (.d (.bool true))) (.t 37)⟩,
      ⟨some 39, none, .mov false (.t 38)⟩,
      ⟨some 40, some (39, false), .mov false (.t 4)⟩,
      ⟨some 41, some (39, false), .bin .i .neq (.t 40) (.c (.d (.int .i64 18)))⟩,
      ⟨some 42, none, .pick (.t 39) (.c (.d (.bool true))) (.t 41)⟩,
      ⟨some 43, none, .mov false (.t 42)⟩,
      ⟨some 44, some (43, false), .call 14 [(false, .c (.d (.int .i64 14)))]⟩,
      ⟨some 45, none, .pick (.t 43) (.c (.d (.bool true))) (.t 44)⟩,
      ⟨some 46, none, .mov false (.t 45)⟩,
      ⟨some 47, some (46, false), .call 15 [(false, .c (.d (.int .i64 12)))]⟩,
      ⟨some 48, none, .pick (.t 46) (.c (.d (.bool true))) (.t 47)⟩,
      ⟨some 49, none, .mov false (.t 48)⟩,
      ⟨some 50, some (49, false), .call 14 [(false, .c (.d (.int .i64 1)))]⟩,
      ⟨some 51, some (49, false), .not (.t 50)⟩,
      ⟨some 52, none, .pick (.t 49) (.c (.d (.bool true))) (.t 51)⟩,
      ⟨some 53, none, .mov false (.t 52)⟩,
      ⟨some 54, some (53, false), .call 15 [(false, .c (.d (.int .i64 14)))]⟩,
      ⟨some 55, some (53, false), .not (.t 54)⟩,
      ⟨some 56, none, .pick (.t 53) (.c (.d (.bool true))) (.t 55)⟩] [56]) <|
    .cond (.t 56)
      (.seq (.reg [⟨some 0, none, .mov false (.c (.d (.bool false)))⟩] [0]) <|
      .ret)
      (.skip)) <|
    .seq (.reg [⟨some 58, none, .call 16 [(false, .c (.d (.int .i64 (-1))))]⟩,
      ⟨some 59, none, .call 8 [(false, .c (.d (.int .i64 2))), (false, .t 58)]⟩,
      ⟨some 57, none, .mov false (.t 59)⟩,
      ⟨some 60, none, .ext (.t 57) 0⟩,
      ⟨some 61, none, .ext (.t 57) 1⟩,
      ⟨some 5, none, .mov true (.t 60)⟩,
      ⟨some 2, none, .mov false (.t 61)⟩] [2, 5]) <|
    .seq (.reg [⟨some 63, none, .call 16 [(false, .c (.d (.int .i64 2)))]⟩,
      ⟨some 64, none, .call 8 [(false, .c (.d (.int .i64 1))), (false, .t 63)]⟩,
      ⟨some 62, none, .mov false (.t 64)⟩,
      ⟨some 65, none, .ext (.t 62) 0⟩,
      ⟨some 66, none, .ext (.t 62) 1⟩,
      ⟨some 4, none, .mov false (.t 66)⟩] [2, 4, 5]) <|
    .seq (.reg [⟨some 68, none, .call 16 [(false, .c (.d (.int .i64 (-2))))]⟩,
      ⟨some 69, none, .call 8 [(false, .c (.d (.int .i64 10))), (false, .t 68)]⟩,
      ⟨some 67, none, .mov false (.t 69)⟩,
      ⟨some 70, none, .ext (.t 67) 0⟩,
      ⟨some 71, none, .ext (.t 67) 1⟩,
      ⟨some 6, none, .mov true (.t 70)⟩,
      ⟨some 7, none, .mov false (.t 71)⟩] [2, 4, 5, 6, 7]) <|
    .seq (.reg [⟨some 73, none, .mk 1 [.c (.d (.int .u8 255))]⟩,
      ⟨some 74, none, .call 17 [(false, .t 73)]⟩,
      ⟨some 75, none, .call 8 [(false, .c (.d (.int .i64 14))), (false, .t 74)]⟩,
      ⟨some 72, none, .mov false (.t 75)⟩,
      ⟨some 76, none, .ext (.t 72) 0⟩,
      ⟨some 77, none, .ext (.t 72) 1⟩,
      ⟨some 8, none, .mov true (.t 76)⟩,
      ⟨some 9, none, .mov false (.t 77)⟩] [2, 4, 5, 6, 7, 9]) <|
    .seq (.seq (.reg [⟨some 78, none, .mov false (.t 2)⟩,
      ⟨some 79, none, .bin .i .neq (.t 78) (.c (.d (.int .i64 0)))⟩,
      ⟨some 80, none, .mov false (.t 79)⟩,
      ⟨some 81, some (80, false), .mov true (.t 5)⟩,
      ⟨some 82, some (80, false), .mk 1 [.c (.d (.int .u8 255)), .c (.d (.int .u8 255)), .c (.d (.int .u8 255)), .c (.d (.int .u8 255)), .c (.d (.int .u8 255)), .c (.d (.int .u8 255)), .c (.d (.int .u8 255)), .c (.d (.int .u8 255)), .c (.d (.int .u8 255)), .c (.d (.int .u8 1))]⟩,
      ⟨some 83, some (80, false), .call 18 [(false, .t 81), (false, .t 82)]⟩,
      ⟨some 84, some (80, false), .not (.t 83)⟩,
      ⟨some 85, none, .pick (.t 80) (.c (.d (.bool true))) (.t 84)⟩,
      ⟨some 86, none, .mov false (.t 85)⟩,
      ⟨some 87, some (86, false), .mov false (.t 4)⟩,
      ⟨some 88, some (86, false), .bin .i .neq (.t 87) (.c (.d (.int .i64 7)))⟩,
      ⟨some 89, none, .pick (.t 86) (.c (.d (.bool true))) (.t 88)⟩,
      ⟨some 90, none, .mov false (.t 89)⟩,
      ⟨some 91, some (90, false), .mov false (.t 7)⟩,
      ⟨some 92, some (90, false), .bin .i .neq (.t 91) (.c (.d (.int .i64 0)))⟩,
      ⟨some 93, none, .pick (.t 90) (.c (.d (.bool true))) (.t 92)⟩,
      ⟨some 94, none, .mov false (.t 93)⟩,
      ⟨some 95, some (94, false), .mov true (.t 6)⟩,
      ⟨some 96, some (94, false), .mk 1 [.c (.d (.int .u8 254)), .c (.d (.int .u8 255)), .c (.d (.int .u8 255)), .c (.d (.int .u8 255))]⟩,
      ⟨some 97, some (94, false), .call 18 [(false, .t 95), (false, .t 96)]⟩,
      ⟨some 98, some (94, false), .not (.t 97)⟩,
      ⟨some 99, none, .pick (.t 94) (.c (.d (.bool true))) (.t 98)⟩,
      ⟨some 100, none, .mov false (.t 99)⟩,
      ⟨some 101, some (100, false), .mov false (.t 9)⟩,
      ⟨some 102, some (100, false), .bin .i .neq (.t 101) (.c (.d (.int .i64 8)))⟩,
      ⟨some 103, none, .pick (.t 100) (.c (.d (.bool true))) (.t 102)⟩] [103]) <|
    .cond (.t 103)
      (.seq (.reg [⟨some 0, none, .mov false (.c (.d (.bool false)))⟩] [0]) <|
      .ret)
      (.skip)) <|
    .seq (.reg [⟨some 104, none, .build [.int .u64 0, .slice 0 [], .slice 0 []] []⟩,
      ⟨some 10, none, .zbox [.int .u64 0, .slice 0 [], .slice 0 []]⟩,
      ⟨none, none, .store 3 (.t 10) (.t 104)⟩] [10, 10]) <|
    .seq (.seq (.reg [⟨some 105, none, .mk 1 [.c (.d (.int .u8 255)), .c (.d (.int .u8 255)), .c (.d (.int .u8 255)), .c (.d (.int .u8 255)), .c (.d (.int .u8 15))]⟩,
      ⟨some 106, none, .load (some 3) (.t 10)⟩,
      ⟨some 107, none, .call 19 [(false, .c (.d (.int .i64 2))), (false, .t 105), (false, .t 106), (false, .c (.d (.int .i64 0))), (false, .c (.d (.int .i64 7)))]⟩,
      ⟨some 108, none, .not (.t 107)⟩,
      ⟨some 109, none, .mov false (.t 108)⟩,
      ⟨some 110, some (109, false), .mk 1 [.c (.d (.int .u8 255)), .c (.d (.int .u8 255)), .c (.d (.int .u8 255)), .c (.d (.int .u8 255)), .c (.d (.int .u8 15))]⟩,
      ⟨some 111, some (109, false), .call 16 [(false, .c (.d (.int .i64 4294967295)))]⟩,
      ⟨some 112, some (109, false), .call 19 [(false, .c (.d (.int .i64 4))), (false, .t 110), (false, .t 111), (false, .c (.d (.int .i64 5))), (false, .c (.d (.int .i64 0)))]⟩,
      ⟨some 113, some (109, false), .not (.t 112)⟩,
      ⟨some 114, none, .pick (.t 109) (.c (.d (.bool true))) (.t 113)⟩,
      ⟨some 115, none, .mov false (.t 114)⟩,
      ⟨some 116, some (115, false), .mk 1 [.c (.d (.int .u8 2))]⟩,
      ⟨some 117, some (115, false), .load (some 3) (.t 10)⟩,
      ⟨some 118, some (115, false), .call 19 [(false, .c (.d (.int .i64 1))), (false, .t 116), (false, .t 117), (false, .c (.d (.int .i64 0))), (false, .c (.d (.int .i64 7)))]⟩,
      ⟨some 119, some (115, false), .not (.t 118)⟩,
      ⟨some 120, none, .pick (.t 115) (.c (.d (.bool true))) (.t 119)⟩,
      ⟨some 121, none, .mov false (.t 120)⟩,
      ⟨some 122, some (121, false), .mk 1 [.c (.d (.int .u8 128)), .c (.d (.int .u8 128)), .c (.d (.int .u8 128)), .c (.d (.int .u8 128)), .c (.d (.int .u8 8))]⟩,
      ⟨some 123, some (121, false), .load (some 3) (.t 10)⟩,
      ⟨some 124, some (121, false), .call 19 [(false, .c (.d (.int .i64 16))), (false, .t 122), (false, .t 123), (false, .c (.d (.int .i64 0))), (false, .c (.d (.int .i64 7)))]⟩,
      ⟨some 125, some (121, false), .not (.t 124)⟩,
      ⟨some 126, none, .pick (.t 121) (.c (.d (.bool true))) (.t 125)⟩,
      ⟨some 127, none, .mov false (.t 126)⟩,
      ⟨some 128, some (127, false), .mk 1 [.c (.d (.int .u8 1))]⟩,
      ⟨some 129, some (127, false), .load (some 3) (.t 10)⟩,
      ⟨some 130, some (127, false), .call 19 [(false, .c (.d (.int .i64 15))), (false, .t 128), (false, .t 129), (false, .c (.d (.int .i64 0))), (false, .c (.d (.int .i64 3)))]⟩,
      ⟨some 131, some (127, false), .not (.t 130)⟩,
      ⟨some 132, none, .pick (.t 127) (.c (.d (.bool true))) (.t 131)⟩] [132]) <|
    .cond (.t 132)
      (.seq (.reg [⟨some 0, none, .mov false (.c (.d (.bool false)))⟩] [0]) <|
      .ret)
      (.skip)) <|
    .seq (.reg [⟨some 134, none, .call 6 [(false, .c (.d (.int .i64 11)))]⟩,
      ⟨some 133, none, .mov false (.t 134)⟩,
      ⟨some 135, none, .ext (.t 133) 0⟩,
      ⟨some 136, none, .ext (.t 133) 1⟩,
      ⟨some 11, none, .mov false (.t 135)⟩,
      ⟨some 2, none, .mov false (.t 136)⟩] [2, 11]) <|
    .seq (.reg [⟨some 138, none, .call 6 [(false, .c (.d (.int .i64 16)))]⟩,
      ⟨some 137, none, .mov false (.t 138)⟩,
      ⟨some 139, none, .ext (.t 137) 0⟩,
      ⟨some 140, none, .ext (.t 137) 1⟩,
      ⟨some 4, none, .mov false (.t 140)⟩] [2, 4, 11]) <|
    .seq (.reg [⟨some 142, none, .call 7 [(false, .c (.d (.str [100, 111, 117, 98, 108, 101])))]⟩,
      ⟨some 141, none, .mov false (.t 142)⟩,
      ⟨some 143, none, .ext (.t 141) 0⟩,
      ⟨some 144, none, .ext (.t 141) 1⟩,
      ⟨some 12, none, .mov false (.t 143)⟩,
      ⟨some 7, none, .mov false (.t 144)⟩] [2, 4, 7, 11, 12]) <|
    .seq (.reg [⟨some 146, none, .call 7 [(false, .c (.d (.str [66, 111, 111, 108])))]⟩,
      ⟨some 145, none, .mov false (.t 146)⟩,
      ⟨some 147, none, .ext (.t 145) 0⟩,
      ⟨some 148, none, .ext (.t 145) 1⟩,
      ⟨some 9, none, .mov false (.t 148)⟩] [2, 4, 7, 9, 11, 12]) <|
    .seq (.seq (.reg [⟨some 149, none, .mov false (.t 2)⟩,
      ⟨some 150, none, .bin .i .neq (.t 149) (.c (.d (.int .i64 0)))⟩,
      ⟨some 151, none, .mov false (.t 150)⟩,
      ⟨some 152, some (151, false), .mov false (.t 11)⟩,
      ⟨some 153, some (151, false), .bin .s .neq (.t 152) (.c (.d (.str [115, 102, 105, 120, 101, 100, 54, 52])))⟩,
      ⟨some 154, none, .pick (.t 151) (.c (.d (.bool true))) (.t 153)⟩,
      ⟨some 155, none, .mov false (.t 154)⟩,
      ⟨some 156, some (155, false), .mov false (.t 4)⟩,
      ⟨some 157, some (155, false), .bin .i .neq (.t 156) (.c (.d (.int .i64 18)))⟩,
      ⟨some 158, none, .pick (.t 155) (.c (.d (.bool true))) (.t 157)⟩,
      ⟨some 159, none, .mov false (.t 158)⟩,
      ⟨some 160, some (159, false), .mov false (.t 7)⟩,
      ⟨some 161, some (159, false), .bin .i .neq (.t 160) (.c (.d (.int .i64 0)))⟩,
      ⟨some 162, none, .pick (.t 159) (.c (.d (.bool true))) (.t 161)⟩,
      ⟨some 163, none, .mov false (.t 162)⟩,
      ⟨some 164, some (163, false), .mov false (.t 12)⟩,
      ⟨some 165, some (163, false), .bin .i .neq (.t 164) (.c (.d (.int .i64 13)))⟩,
      ⟨some 166, none, .pick (.t 163) (.c (.d (.bool true))) (.t 165)⟩,
      ⟨some 167, none, .mov false (.t 166)⟩,
      ⟨some 168, some (167, false), .mov false (.t 9)⟩,
      ⟨some 169, some (167, false), .bin .i .neq (.t 168) (.c (.d (.int .i64 12)))⟩,
      ⟨some 170, none, .pick (.t 167) (.c (.d (.bool true))) (.t 169)⟩] [170]) <|
    .cond (.t 170)
      (.seq (.reg [⟨some 0, none, .mov false (.c (.d (.bool false)))⟩] [0]) <|
      .ret)
      (.skip)) <|
    .seq (.reg [⟨some 172, none, .build [.int .u64 0, .slice 0 [], .slice 0 []] [(0, 1, .c (.d (.int .u64 4607182418800017408)))]⟩,
      ⟨some 173, none, .call 10 [(false, .c (.d (.int .i64 13))), (false, .t 172)]⟩,
      ⟨some 171, none, .mov false (.t 173)⟩,
      ⟨some 174, none, .ext (.t 171) 0⟩,
      ⟨some 175, none, .ext (.t 171) 1⟩,
      ⟨some 11, none, .mov false (.t 174)⟩,
      ⟨some 2, none, .mov false (.t 175)⟩] [2, 11]) <|
    .seq (.reg [⟨some 177, none, .call 16 [(false, .c (.d (.int .i64 1)))]⟩,
      ⟨some 178, none, .call 10 [(false, .c (.d (.int .i64 1))), (false, .t 177)]⟩,
      ⟨some 176, none, .mov false (.t 178)⟩,
      ⟨some 179, none, .ext (.t 176) 0⟩,
      ⟨some 180, none, .ext (.t 176) 1⟩,
      ⟨some 13, none, .mov false (.t 179)⟩,
      ⟨some 4, none, .mov false (.t 180)⟩] [2, 4, 11, 13]) <|
    .seq (.reg [⟨some 182, none, .call 11 [(false, .c (.d (.int .i64 12))), (false, .c (.d (.str [102, 51, 70, 56, 48, 48, 48, 48, 48])))]⟩,
      ⟨some 181, none, .mov false (.t 182)⟩,
      ⟨some 183, none, .ext (.t 181) 0⟩,
      ⟨some 184, none, .ext (.t 181) 1⟩,
      ⟨some 14, none, .zbox [.int .u64 0, .slice 0 [], .slice 0 []]⟩,
      ⟨none, none, .store 3 (.t 14) (.t 183)⟩,
      ⟨some 7, none, .mov false (.t 184)⟩] [2, 4, 7, 11, 13, 14, 14]) <|
    .seq (.reg [⟨some 186, none, .call 11 [(false, .c (.d (.int .i64 4))), (false, .c (.d (.str [45, 49])))]⟩,
      ⟨some 185, none, .mov false (.t 186)⟩,
      ⟨some 187, none, .ext (.t 185) 0⟩,
      ⟨some 188, none, .ext (.t 185) 1⟩,
      ⟨some 15, none, .zbox [.int .u64 0, .slice 0 [], .slice 0 []]⟩,
      ⟨none, none, .store 3 (.t 15) (.t 187)⟩,
      ⟨some 9, none, .mov false (.t 188)⟩] [2, 4, 7, 9, 11, 13, 14, 14, 15, 15]) <|
    .seq (.reg [⟨some 190, none, .call 11 [(false, .c (.d (.int .i64 2))), (false, .c (.d (.str [50, 49, 52, 55, 52, 56, 51, 54, 52, 56])))]⟩,
      ⟨some 189, none, .mov false (.t 190)⟩,
      ⟨some 191, none, .ext (.t 189) 0⟩,
      ⟨some 192, none, .ext (.t 189) 1⟩,
      ⟨some 16, none, .zbox [.int .u64 0, .slice 0 [], .slice 0 []]⟩,
      ⟨none, none, .store 3 (.t 16) (.t 191)⟩,
      ⟨some 17, none, .mov false (.t 192)⟩] [2, 4, 7, 9, 11, 13, 14, 14, 15, 15, 16, 16, 17]) <|
    .seq (.seq (.reg [⟨some 193, none, .mov false (.t 2)⟩,
      ⟨some 194, none, .bin .i .neq (.t 193) (.c (.d (.int .i64 0)))⟩,
      ⟨some 195, none, .mov false (.t 194)⟩,
      ⟨some 196, some (195, false), .mov false (.t 11)⟩,
      ⟨some 197, some (195, false), .bin .s .neq (.t 196) (.c (.d (.str [100, 51, 102, 102, 48, 48, 48, 48, 48, 48, 48, 48, 48, 48, 48, 48, 48])))⟩,
      ⟨some 198, none, .pick (.t 195) (.c (.d (.bool true))) (.t 197)⟩,
      ⟨some 199, none, .mov false (.t 198)⟩,
      ⟨some 200, some (199, false), .mov false (.t 4)⟩,
      ⟨some 201, some (199, false), .bin .i .neq (.t 200) (.c (.d (.int .i64 0)))⟩,
      ⟨some 202, none, .pick (.t 199) (.c (.d (.bool true))) (.t 201)⟩,
      ⟨some 203, none, .mov false (.t 202)⟩,
      ⟨some 204, some (203, false), .mov false (.t 13)⟩,
      ⟨some 205, some (203, false), .bin .s .neq (.t 204) (.c (.d (.str [116, 114, 117, 101])))⟩,
      ⟨some 206, none, .pick (.t 203) (.c (.d (.bool true))) (.t 205)⟩,
      ⟨some 207, none, .mov false (.t 206)⟩,
      ⟨some 208, some (207, false), .load (some 3) (.t 14)⟩,
      ⟨some 209, some (207, false), .mov false (.t 7)⟩,
      ⟨some 210, some (207, false), .call 16 [(false, .c (.d (.int .i64 1065353216)))]⟩,
      ⟨some 211, some (207, false), .call 12 [(false, .t 208), (false, .t 209), (false, .t 210), (false, .c (.d (.int .i64 0)))]⟩,
      ⟨some 212, some (207, false), .not (.t 211)⟩,
      ⟨some 213, none, .pick (.t 207) (.c (.d (.bool true))) (.t 212)⟩,
      ⟨some 214, none, .mov false (.t 213)⟩,
      ⟨some 215, some (214, false), .load (some 3) (.t 15)⟩,
      ⟨some 216, some (214, false), .mov false (.t 9)⟩,
      ⟨some 217, some (214, false), .load (some 3) (.t 15)⟩,
      ⟨some 218, some (214, false), .call 12 [(false, .t 215), (false, .t 216), (false, .t 217), (false, .c (.d (.int .i64 11)))]⟩,
      ⟨some 219, some (214, false), .not (.t 218)⟩,
      ⟨some 220, none, .pick (.t 214) (.c (.d (.bool true))) (.t 219)⟩,
      ⟨some 221, none, .mov false (.t 220)⟩,
      ⟨some 222, some (221, false), .load (some 3) (.t 16)⟩,
      ⟨some 223, some (221, false), .mov false (.t 17)⟩,
      ⟨some 224, some (221, false), .load (some 3) (.t 16)⟩,
      ⟨some 225, some (221, false), .call 12 [(false, .t 222), (false, .t 223), (false, .t 224), (false, .c (.d (.int .i64 7)))]⟩,
      ⟨some 226, some (221, false), .not (.t 225)⟩,
      ⟨some 227, none, .pick (.t 221) (.c (.d (.bool true))) (.t 226)⟩] [227]) <|
    .cond (.t 227)
      (.seq (.reg [⟨some 0, none, .mov false (.c (.d (.bool false)))⟩] [0]) <|
      .ret)
      (.skip)) <|
    .seq (.reg [⟨some 229, none, .call 16 [(false, .c (.d (.int .i64 (-1))))]⟩,
      ⟨some 230, none, .call 16 [(false, .c (.d (.int .i64 1)))]⟩,
      ⟨some 231, none, .call 20 [(false, .c (.d (.int .i64 3))), (false, .t 229), (false, .t 230)]⟩,
      ⟨some 228, none, .mov false (.t 231)⟩,
      ⟨some 232, none, .ext (.t 228) 0⟩,
      ⟨some 233, none, .ext (.t 228) 1⟩,
      ⟨some 18, none, .mov false (.t 232)⟩,
      ⟨some 2, none, .mov false (.t 233)⟩] [2, 18]) <|
    .seq (.reg [⟨some 235, none, .call 16 [(false, .c (.d (.int .i64 (-1))))]⟩,
      ⟨some 236, none, .call 16 [(false, .c (.d (.int .i64 1)))]⟩,
      ⟨some 237, none, .call 20 [(false, .c (.d (.int .i64 5))), (false, .t 235), (false, .t 236)]⟩,
      ⟨some 234, none, .mov false (.t 237)⟩,
      ⟨some 238, none, .ext (.t 234) 0⟩,
      ⟨some 239, none, .ext (.t 234) 1⟩,
      ⟨some 19, none, .mov false (.t 238)⟩,
      ⟨some 4, none, .mov false (.t 239)⟩] [2, 4, 18, 19]) <|
    .seq (.reg [⟨some 241, none, .mk 1 [.c (.d (.int .u8 97))]⟩,
      ⟨some 242, none, .call 17 [(false, .t 241)]⟩,
      ⟨some 243, none, .mk 1 [.c (.d (.int .u8 97)), .c (.d (.int .u8 98))]⟩,
      ⟨some 244, none, .call 17 [(false, .t 243)]⟩,
      ⟨some 245, none, .call 20 [(false, .c (.d (.int .i64 14))), (false, .t 242), (false, .t 244)]⟩,
      ⟨some 240, none, .mov false (.t 245)⟩,
      ⟨some 246, none, .ext (.t 240) 0⟩,
      ⟨some 247, none, .ext (.t 240) 1⟩,
      ⟨some 20, none, .mov false (.t 246)⟩,
      ⟨some 7, none, .mov false (.t 247)⟩] [2, 4, 7, 18, 19, 20]) <|
    .seq (.reg [⟨some 249, none, .mk 1 [.c (.d (.int .u8 97))]⟩,
      ⟨some 250, none, .call 17 [(false, .t 249)]⟩,
      ⟨some 251, none, .mk 1 [.c (.d (.int .u8 97))]⟩,
      ⟨some 252, none, .call 17 [(false, .t 251)]⟩,
      ⟨some 253, none, .call 20 [(false, .c (.d (.int .i64 15))), (false, .t 250), (false, .t 252)]⟩,
      ⟨some 248, none, .mov false (.t 253)⟩,
      ⟨some 254, none, .ext (.t 248) 0⟩,
      ⟨some 255, none, .ext (.t 248) 1⟩,
      ⟨some 9, none, .mov false (.t 255)⟩] [2, 4, 7, 9, 18, 19, 20]) <|
    .seq (.reg [⟨some 256, none, .mov false (.t 2)⟩,
      ⟨some 257, none, .bin .i .eql (.t 256) (.c (.d (.int .i64 0)))⟩,
      ⟨some 258, none, .mov false (.t 257)⟩,
      ⟨some 259, some (258, true), .mov false (.t 18)⟩,
      ⟨some 260, some (258, true), .bin .i .eql (.t 259) (.c (.d (.int .i64 (-1))))⟩,
      ⟨some 261, none, .pick (.t 258) (.t 260) (.c (.d (.bool false)))⟩,
      ⟨some 262, none, .mov false (.t 261)⟩,
      ⟨some 263, some (262, true), .mov false (.t 4)⟩,
      ⟨some 264, some (262, true), .bin .i .eql (.t 263) (.c (.d (.int .i64 0)))⟩,
      ⟨some 265, none, .pick (.t 262) (.t 264) (.c (.d (.bool false)))⟩,
      ⟨some 266, none, .mov false (.t 265)⟩,
      ⟨some 267, some (266, true), .mov false (.t 19)⟩,
      ⟨some 268, some (266, true), .bin .i .eql (.t 267) (.c (.d (.int .i64 1)))⟩,
      ⟨some 269, none, .pick (.t 266) (.t 268) (.c (.d (.bool false)))⟩,
      ⟨some 270, none, .mov false (.t 269)⟩,
      ⟨some 271, some (270, true), .mov false (.t 7)⟩,
      ⟨some 272, some (270, true), .bin .i .eql (.t 271) (.c (.d (.int .i64 0)))⟩,
      ⟨some 273, none, .pick (.t 270) (.t 272) (.c (.d (.bool false)))⟩,
      ⟨some 274, none, .mov false (.t 273)⟩,
      ⟨some 275, some (274, true), .mov false (.t 20)⟩,
      ⟨some 276, some (274, true), .bin .i .eql (.t 275) (.c (.d (.int .i64 (-1))))⟩,
      ⟨some 277, none, .pick (.t 274) (.t 276) (.c (.d (.bool false)))⟩,
      ⟨some 278, none, .mov false (.t 277)⟩,
      ⟨some 279, some (278, true), .mov false (.t 9)⟩,
      ⟨some 280, some (278, true), .bin .i .eql (.t 279) (.c (.d (.int .i64 18)))⟩,
      ⟨some 281, none, .pick (.t 278) (.t 280) (.c (.d (.bool false)))⟩,
      ⟨some 0, none, .mov false (.t 281)⟩] [0]) <|
    .ret
/- cartouche/cartouchelaw3.awake -/
def n_law3_awake : Nat := 5
def f_law3_awake : SFunc where
  np := 0
  res := [.slot 0]
  body := .seq (.reg [⟨some 0, none, .mov false (.c (.d (.bool false)))⟩] []) <|
    .seq (.reg [⟨some 7, none, .call 16 [(false, .c (.d (.int .i64 (-1))))]⟩,
      ⟨some 8, none, .call 8 [(false, .c (.d (.int .i64 6))), (false, .t 7)]⟩,
      ⟨some 6, none, .mov false (.t 8)⟩,
      ⟨some 9, none, .ext (.t 6) 0⟩,
      ⟨some 10, none, .ext (.t 6) 1⟩,
      ⟨some 1, none, .mov true (.t 9)⟩,
      ⟨some 2, none, .mov false (.t 10)⟩] [1, 2]) <|
    .seq (.reg [⟨some 12, none, .mk 1 [.c (.d (.int .u8 255)), .c (.d (.int .u8 255)), .c (.d (.int .u8 255)), .c (.d (.int .u8 255))]⟩,
      ⟨some 13, none, .call 9 [(false, .c (.d (.int .i64 10))), (false, .t 12), (false, .c (.d (.int .i64 0)))]⟩,
      ⟨some 11, none, .mov false (.t 13)⟩,
      ⟨some 14, none, .ext (.t 11) 0⟩,
      ⟨some 15, none, .ext (.t 11) 1⟩,
      ⟨some 16, none, .ext (.t 11) 2⟩,
      ⟨some 3, none, .zbox [.int .u64 0, .slice 0 [], .slice 0 []]⟩,
      ⟨none, none, .store 3 (.t 3) (.t 14)⟩,
      ⟨some 4, none, .mov false (.t 15)⟩,
      ⟨some 5, none, .mov false (.t 16)⟩] [1, 2, 3, 3, 4, 5]) <|
    .seq (.reg [⟨some 17, none, .mov false (.t 2)⟩,
      ⟨some 18, none, .bin .i .eql (.t 17) (.c (.d (.int .i64 0)))⟩,
      ⟨some 19, none, .mov false (.t 18)⟩,
      ⟨some 20, some (19, true), .mov true (.t 1)⟩,
      ⟨some 21, some (19, true), .mk 1 [.c (.d (.int .u8 1))]⟩,
      ⟨some 22, some (19, true), .call 18 [(false, .t 20), (false, .t 21)]⟩,
      ⟨some 23, none, .pick (.t 19) (.t 22) (.c (.d (.bool false)))⟩,
      ⟨some 24, none, .mov false (.t 23)⟩,
      ⟨some 25, some (24, true), .load (some 3) (.t 3)⟩,
      ⟨some 26, some (24, true), .mov false (.t 5)⟩,
      ⟨some 27, some (24, true), .call 16 [(false, .c (.d (.int .i64 (-1))))]⟩,
      ⟨some 28, some (24, true), .call 12 [(false, .t 25), (false, .t 26), (false, .t 27), (false, .c (.d (.int .i64 0)))]⟩,
      ⟨some 29, none, .pick (.t 24) (.t 28) (.c (.d (.bool false)))⟩,
      ⟨some 30, none, .mov false (.t 29)⟩,
      ⟨some 31, some (30, true), .mov false (.t 4)⟩,
      ⟨some 32, some (30, true), .bin .i .eql (.t 31) (.c (.d (.int .i64 4)))⟩,
      ⟨some 33, none, .pick (.t 30) (.t 32) (.c (.d (.bool false)))⟩,
      ⟨some 0, none, .mov false (.t 33)⟩] [0]) <|
    .ret
/- cartouche/scalar.Name -/
def n_scalar_Name : Nat := 6
def f_scalar_Name : SFunc where
  np := 1
  res := [.slot 2, .slot 3]
  body := .seq (.reg [⟨some 2, none, .mov false (.c (.d (.str [])))⟩,
      ⟨some 3, none, .mov false (.c (.d (.int .i64 0)))⟩] [0]) <|
    .seq (.seq (.reg [⟨some 4, none, .mov false (.t 0)⟩,
      ⟨some 5, none, .bin .i .lss (.t 4) (.c (.d (.int .i64 1)))⟩,
      ⟨some 6, none, .mov false (.t 5)⟩,
      ⟨some 7, some (6, false), .mov false (.t 0)⟩,
      ⟨some 8, some (6, false), .bin .i .gtr (.t 7) (.c (.d (.int .i64 15)))⟩,
      ⟨some 9, none, .pick (.t 6) (.c (.d (.bool true))) (.t 8)⟩] [0, 9]) <|
    .cond (.t 9)
      (.seq (.reg [⟨some 2, none, .mov false (.c (.d (.str [])))⟩,
        ⟨some 3, none, .mov false (.c (.d (.int .i64 18)))⟩] [2, 3]) <|
      .ret)
      (.skip)) <|
    .seq (.reg [⟨some 10, none, .call 21 [(false, .c (.d (.str [98, 111, 111, 108, 32, 105, 110, 116, 51, 50, 32, 105, 110, 116, 54, 52, 32, 117, 105, 110, 116, 51, 50, 32, 117, 105, 110, 116, 54, 52, 32, 115, 105, 110, 116, 51, 50, 32, 115, 105, 110, 116, 54, 52, 32, 102, 105, 120, 101, 100, 51, 50, 32, 102, 105, 120, 101, 100, 54, 52, 32, 115, 102, 105, 120, 101, 100, 51, 50, 32, 115, 102, 105, 120, 101, 100, 54, 52, 32, 102, 108, 111, 97, 116, 32, 100, 111, 117, 98, 108, 101, 32, 115, 116, 114, 105, 110, 103, 32, 98, 121, 116, 101, 115])))]⟩,
      ⟨some 11, none, .mov false (.t 0)⟩,
      ⟨some 12, none, .bin .i .sub (.t 11) (.c (.d (.int .i64 1)))⟩,
      ⟨some 13, none, .iaddr 1 (.t 10) (.t 12)⟩,
      ⟨some 14, none, .load none (.t 13)⟩,
      ⟨some 2, none, .mov false (.t 14)⟩,
      ⟨some 3, none, .mov false (.c (.d (.int .i64 0)))⟩] [2, 3]) <|
    .ret
/- cartouche/scalar.Kind -/
def l_scalar_Kind_1 : SC :=
  .seq (.reg [⟨some 9, none, .bin .i .lss (.t 8) (.t 7)⟩] [0, 6, 7, 8, 9]) <|
    .seq (.cond (.t 9)
      (.skip)
      (.exit 0)) <|
    .seq (.block 1 <| .seq (.reg [⟨some 10, none, .mov false (.t 8)⟩,
      ⟨some 11, none, .iaddr 1 (.t 6) (.t 8)⟩,
      ⟨some 12, none, .load none (.t 11)⟩,
      ⟨some 4, none, .mov false (.t 10)⟩,
      ⟨some 5, none, .mov false (.t 12)⟩] [0, 4, 5, 6, 7, 8]) <|
    .seq (.reg [⟨some 13, none, .mov false (.t 5)⟩,
      ⟨some 14, none, .mov false (.t 0)⟩,
      ⟨some 15, none, .bin .s .eql (.t 13) (.t 14)⟩] [0, 4, 6, 7, 8, 15]) <|
    .cond (.t 15)
      (.seq (.reg [⟨some 16, none, .mov false (.t 4)⟩,
        ⟨some 17, none, .bin .i .add (.c (.d (.int .i64 1))) (.t 16)⟩,
        ⟨some 2, none, .mov false (.t 17)⟩,
        ⟨some 3, none, .mov false (.c (.d (.int .i64 0)))⟩] [2, 3]) <|
      .ret)
      (.skip)) <|
    .reg [⟨some 18, none, .bin .i .add (.t 8) (.c (.d (.int .i64 1)))⟩,
      ⟨some 8, none, .mov false (.t 18)⟩] [0, 6, 7, 8]
def n_scalar_Kind : Nat := 7
def f_scalar_Kind : SFunc where
  np := 1
  res := [.slot 2, .slot 3]
  body := .seq (.reg [⟨some 2, none, .mov false (.c (.d (.int .i64 0)))⟩,
      ⟨some 3, none, .mov false (.c (.d (.int .i64 0)))⟩] [0]) <|
    .seq (.seq (.reg [⟨some 6, none, .call 21 [(false, .c (.d (.str [98, 111, 111, 108, 32, 105, 110, 116, 51, 50, 32, 105, 110, 116, 54, 52, 32, 117, 105, 110, 116, 51, 50, 32, 117, 105, 110, 116, 54, 52, 32, 115, 105, 110, 116, 51, 50, 32, 115, 105, 110, 116, 54, 52, 32, 102, 105, 120, 101, 100, 51, 50, 32, 102, 105, 120, 101, 100, 54, 52, 32, 115, 102, 105, 120, 101, 100, 51, 50, 32, 115, 102, 105, 120, 101, 100, 54, 52, 32, 102, 108, 111, 97, 116, 32, 100, 111, 117, 98, 108, 101, 32, 115, 116, 114, 105, 110, 103, 32, 98, 121, 116, 101, 115])))]⟩,
      ⟨some 7, none, .len false (.t 6)⟩,
      ⟨some 8, none, .mov false (.c (.d (.int .i64 0)))⟩] [0, 6, 7, 8]) <|
    .block 0 <| .loop l_scalar_Kind_1) <|
    .seq (.reg [⟨some 2, none, .mov false (.c (.d (.int .i64 0)))⟩,
      ⟨some 3, none, .mov false (.c (.d (.int .i64 12)))⟩] [2, 3]) <|
    .ret
/- cartouche/scalar.Put -/
def n_scalar_Put : Nat := 8
def f_scalar_Put : SFunc where
  np := 2
  res := [.slot 4, .slot 5]
  body := .seq (.reg [⟨some 3, none, .box (.t 1)⟩,
      ⟨some 4, none, .mov true (.c (.own 1 []))⟩,
      ⟨some 5, none, .mov false (.c (.d (.int .i64 0)))⟩] [0, 3]) <|
    .seq (.seq (.reg [⟨some 9, none, .mov false (.t 0)⟩,
      ⟨some 10, none, .load (some 3) (.t 3)⟩,
      ⟨some 11, none, .call 22 [(false, .t 9), (false, .t 10)]⟩,
      ⟨some 6, none, .mov false (.t 11)⟩] [0, 3, 6]) <|
    .seq (.reg [⟨some 12, none, .mov false (.t 6)⟩,
      ⟨some 13, none, .bin .i .neq (.t 12) (.c (.d (.int .i64 0)))⟩] [0, 3, 6, 13]) <|
    .cond (.t 13)
      (.seq (.reg [⟨some 14, none, .mov false (.t 6)⟩,
        ⟨some 4, none, .mov true (.c (.own 1 []))⟩,
        ⟨some 5, none, .mov false (.t 14)⟩] [4, 5]) <|
      .ret)
      (.skip)) <|
    .seq (.reg [⟨some 16, none, .mov false (.t 0)⟩,
      ⟨some 17, none, .call 13 [(false, .t 16)]⟩,
      ⟨some 15, none, .mov false (.t 17)⟩,
      ⟨some 18, none, .ext (.t 15) 0⟩,
      ⟨some 19, none, .ext (.t 15) 1⟩,
      ⟨some 7, none, .mov false (.t 18)⟩,
      ⟨some 8, none, .mov false (.t 19)⟩] [0, 3, 7]) <|
    .seq (.block 0 <| .seq (.reg [⟨some 21, none, .mov false (.t 7)⟩,
      ⟨some 22, none, .bin .i .eql (.t 21) (.c (.d (.int .i64 2)))⟩,
      ⟨some 20, none, .mov false (.t 22)⟩] [0, 3, 7, 20]) <|
    .cond (.t 20)
      (.seq (.reg [⟨some 23, none, .faddr 1 none (.t 3)⟩,
        ⟨some 24, none, .load none (.t 23)⟩,
        ⟨some 25, none, .call 23 [(false, .t 24)]⟩,
        ⟨some 4, none, .mov true (.t 25)⟩,
        ⟨some 5, none, .mov false (.c (.d (.int .i64 0)))⟩] [4, 5]) <|
      .ret)
      (.seq (.reg [⟨some 27, none, .mov false (.t 7)⟩,
        ⟨some 28, none, .bin .i .eql (.t 27) (.c (.d (.int .i64 5)))⟩,
        ⟨some 26, none, .mov false (.t 28)⟩] [0, 3, 7, 26]) <|
      .cond (.t 26)
        (.seq (.reg [⟨some 29, none, .faddr 0 none (.t 3)⟩,
          ⟨some 30, none, .load none (.t 29)⟩,
          ⟨some 31, none, .cint .u32 (.t 30)⟩,
          ⟨some 32, none, .call 24 [(false, .t 31)]⟩,
          ⟨some 4, none, .mov true (.t 32)⟩,
          ⟨some 5, none, .mov false (.c (.d (.int .i64 0)))⟩] [4, 5]) <|
        .ret)
        (.seq (.reg [⟨some 34, none, .mov false (.t 7)⟩,
          ⟨some 35, none, .bin .i .eql (.t 34) (.c (.d (.int .i64 1)))⟩,
          ⟨some 33, none, .mov false (.t 35)⟩] [0, 3, 33]) <|
        .cond (.t 33)
          (.seq (.reg [⟨some 36, none, .faddr 0 none (.t 3)⟩,
            ⟨some 37, none, .load none (.t 36)⟩,
            ⟨some 38, none, .call 25 [(false, .t 37)]⟩,
            ⟨some 4, none, .mov true (.t 38)⟩,
            ⟨some 5, none, .mov false (.c (.d (.int .i64 0)))⟩] [4, 5]) <|
          .ret)
          (.seq (.reg [⟨some 40, none, .mov false (.t 0)⟩,
            ⟨some 41, none, .bin .i .eql (.t 40) (.c (.d (.int .i64 6)))⟩,
            ⟨some 42, none, .mov false (.t 41)⟩,
            ⟨some 43, some (42, false), .mov false (.t 0)⟩,
            ⟨some 44, some (42, false), .bin .i .eql (.t 43) (.c (.d (.int .i64 7)))⟩,
            ⟨some 45, none, .pick (.t 42) (.c (.d (.bool true))) (.t 44)⟩,
            ⟨some 39, none, .mov false (.t 45)⟩] [3, 39]) <|
          .cond (.t 39)
            (.seq (.reg [⟨some 46, none, .faddr 0 none (.t 3)⟩,
              ⟨some 47, none, .load none (.t 46)⟩,
              ⟨some 48, none, .cint .i64 (.t 47)⟩,
              ⟨some 49, none, .call 27 [(false, .t 48)]⟩,
              ⟨some 50, none, .call 26 [(false, .t 49)]⟩,
              ⟨some 4, none, .mov true (.t 50)⟩,
              ⟨some 5, none, .mov false (.c (.d (.int .i64 0)))⟩] [4, 5]) <|
            .ret)
            (.skip))))) <|
    .seq (.reg [⟨some 51, none, .faddr 0 none (.t 3)⟩,
      ⟨some 52, none, .load none (.t 51)⟩,
      ⟨some 53, none, .call 26 [(false, .t 52)]⟩,
      ⟨some 4, none, .mov true (.t 53)⟩,
      ⟨some 5, none, .mov false (.c (.d (.int .i64 0)))⟩] [4, 5]) <|
    .ret
/- cartouche/scalar.Get -/
def n_scalar_Get : Nat := 9
def f_scalar_Get : SFunc where
  np := 3
  res := [.cell 6 (some 3), .slot 7, .slot 8]
  body := .seq (.reg [⟨some 6, none, .zbox [.int .u64 0, .slice 0 [], .slice 0 []]⟩,
      ⟨some 7, none, .mov false (.c (.d (.int .i64 0)))⟩,
      ⟨some 8, none, .mov false (.c (.d (.int .i64 0)))⟩] [0, 1, 2, 6, 6]) <|
    .seq (.seq (.reg [⟨some 12, none, .mov false (.t 0)⟩,
      ⟨some 13, none, .call 28 [(false, .t 12)]⟩,
      ⟨some 14, none, .not (.t 13)⟩] [0, 1, 2, 6, 6, 14]) <|
    .cond (.t 14)
      (.seq (.reg [⟨some 15, none, .build [.int .u64 0, .slice 0 [], .slice 0 []] []⟩,
        ⟨none, none, .store 3 (.t 6) (.t 15)⟩,
        ⟨some 7, none, .mov false (.c (.d (.int .i64 0)))⟩,
        ⟨some 8, none, .mov false (.c (.d (.int .i64 18)))⟩] [6, 6, 7, 8]) <|
      .ret)
      (.skip)) <|
    .seq (.seq (.reg [⟨some 17, none, .mov false (.t 0)⟩,
      ⟨some 18, none, .call 13 [(false, .t 17)]⟩,
      ⟨some 16, none, .mov false (.t 18)⟩,
      ⟨some 19, none, .ext (.t 16) 0⟩,
      ⟨some 20, none, .ext (.t 16) 1⟩,
      ⟨some 9, none, .mov false (.t 19)⟩,
      ⟨some 10, none, .mov false (.t 20)⟩] [0, 1, 2, 6, 6, 9]) <|
    .seq (.reg [⟨some 21, none, .mov false (.t 9)⟩] [0, 1, 2, 6, 6, 21]) <|
    .block 0 <| .seq (.reg [⟨some 42, none, .bin .i .eql (.t 21) (.c (.d (.int .i64 2)))⟩,
      ⟨some 41, none, .mov false (.t 42)⟩] [0, 1, 2, 6, 6, 21, 41]) <|
    .cond (.t 41)
      (.reg [⟨some 44, none, .mov true (.t 1)⟩,
        ⟨some 45, none, .mov false (.t 2)⟩,
        ⟨some 46, none, .call 29 [(false, .t 44), (false, .t 45)]⟩,
        ⟨some 43, none, .mov false (.t 46)⟩,
        ⟨some 47, none, .ext (.t 43) 0⟩,
        ⟨some 48, none, .ext (.t 43) 1⟩,
        ⟨some 49, none, .ext (.t 43) 2⟩,
        ⟨some 50, none, .faddr 1 none (.t 6)⟩,
        ⟨none, none, .store 1 (.t 50) (.t 47)⟩,
        ⟨some 7, none, .mov false (.t 48)⟩,
        ⟨some 8, none, .mov false (.t 49)⟩] [0, 6, 6, 7, 8])
      (.seq (.reg [⟨some 52, none, .bin .i .eql (.t 21) (.c (.d (.int .i64 5)))⟩,
        ⟨some 51, none, .mov false (.t 52)⟩] [0, 1, 2, 6, 6, 21, 51]) <|
      .cond (.t 51)
        (.seq (.reg [⟨some 11, none, .mov false (.c (.d (.int .u32 0)))⟩] [0, 1, 2, 6, 6]) <|
        .seq (.reg [⟨some 54, none, .mov true (.t 1)⟩,
          ⟨some 55, none, .mov false (.t 2)⟩,
          ⟨some 56, none, .call 30 [(false, .t 54), (false, .t 55)]⟩,
          ⟨some 53, none, .mov false (.t 56)⟩,
          ⟨some 57, none, .ext (.t 53) 0⟩,
          ⟨some 58, none, .ext (.t 53) 1⟩,
          ⟨some 59, none, .ext (.t 53) 2⟩,
          ⟨some 11, none, .mov false (.t 57)⟩,
          ⟨some 7, none, .mov false (.t 58)⟩,
          ⟨some 8, none, .mov false (.t 59)⟩] [0, 6, 6, 7, 8, 11]) <|
        .seq (.reg [⟨some 60, none, .mov false (.t 11)⟩,
          ⟨some 61, none, .cint .u64 (.t 60)⟩,
          ⟨some 62, none, .faddr 0 none (.t 6)⟩,
          ⟨none, none, .store 1 (.t 62) (.t 61)⟩] [0, 6, 6, 7, 8, 11]) <|
        .seq (.reg [⟨some 63, none, .mov false (.t 0)⟩,
          ⟨some 64, none, .bin .i .eql (.t 63) (.c (.d (.int .i64 10)))⟩] [0, 6, 6, 7, 8, 11, 64]) <|
        .cond (.t 64)
          (.reg [⟨some 65, none, .mov false (.t 11)⟩,
            ⟨some 66, none, .cint .i32 (.t 65)⟩,
            ⟨some 67, none, .cint .u64 (.t 66)⟩,
            ⟨some 68, none, .faddr 0 none (.t 6)⟩,
            ⟨none, none, .store 1 (.t 68) (.t 67)⟩] [0, 6, 6, 7, 8])
          (.skip))
        (.seq (.reg [⟨some 70, none, .bin .i .eql (.t 21) (.c (.d (.int .i64 1)))⟩,
          ⟨some 69, none, .mov false (.t 70)⟩] [0, 1, 2, 6, 6, 69]) <|
        .cond (.t 69)
          (.reg [⟨some 72, none, .mov true (.t 1)⟩,
            ⟨some 73, none, .mov false (.t 2)⟩,
            ⟨some 74, none, .call 31 [(false, .t 72), (false, .t 73)]⟩,
            ⟨some 71, none, .mov false (.t 74)⟩,
            ⟨some 75, none, .ext (.t 71) 0⟩,
            ⟨some 76, none, .ext (.t 71) 1⟩,
            ⟨some 77, none, .ext (.t 71) 2⟩,
            ⟨some 78, none, .faddr 0 none (.t 6)⟩,
            ⟨none, none, .store 1 (.t 78) (.t 75)⟩,
            ⟨some 7, none, .mov false (.t 76)⟩,
            ⟨some 8, none, .mov false (.t 77)⟩] [0, 6, 6, 7, 8])
          (.seq (.reg [⟨some 23, none, .mov true (.t 1)⟩,
            ⟨some 24, none, .mov false (.t 2)⟩,
            ⟨some 25, none, .call 32 [(false, .t 23), (false, .t 24)]⟩,
            ⟨some 22, none, .mov false (.t 25)⟩,
            ⟨some 26, none, .ext (.t 22) 0⟩,
            ⟨some 27, none, .ext (.t 22) 1⟩,
            ⟨some 28, none, .ext (.t 22) 2⟩,
            ⟨some 29, none, .faddr 0 none (.t 6)⟩,
            ⟨none, none, .store 1 (.t 29) (.t 26)⟩,
            ⟨some 7, none, .mov false (.t 27)⟩,
            ⟨some 8, none, .mov false (.t 28)⟩] [0, 6, 6, 7, 8]) <|
          .seq (.reg [⟨some 30, none, .mov false (.t 0)⟩,
            ⟨some 31, none, .bin .i .eql (.t 30) (.c (.d (.int .i64 6)))⟩,
            ⟨some 32, none, .mov false (.t 31)⟩,
            ⟨some 33, some (32, false), .mov false (.t 0)⟩,
            ⟨some 34, some (32, false), .bin .i .eql (.t 33) (.c (.d (.int .i64 7)))⟩,
            ⟨some 35, none, .pick (.t 32) (.c (.d (.bool true))) (.t 34)⟩] [0, 6, 6, 7, 8, 35]) <|
          .cond (.t 35)
            (.reg [⟨some 36, none, .faddr 0 none (.t 6)⟩,
              ⟨some 37, none, .load none (.t 36)⟩,
              ⟨some 38, none, .call 33 [(false, .t 37)]⟩,
              ⟨some 39, none, .cint .u64 (.t 38)⟩,
              ⟨some 40, none, .faddr 0 none (.t 6)⟩,
              ⟨none, none, .store 1 (.t 40) (.t 39)⟩] [0, 6, 6, 7, 8])
            (.skip))))) <|
    .seq (.seq (.reg [⟨some 79, none, .mov false (.t 8)⟩,
      ⟨some 80, none, .bin .i .eql (.t 79) (.c (.d (.int .i64 0)))⟩] [0, 6, 6, 7, 8, 80]) <|
    .cond (.t 80)
      (.reg [⟨some 81, none, .mov false (.t 0)⟩,
        ⟨some 82, none, .load (some 3) (.t 6)⟩,
        ⟨some 83, none, .call 22 [(false, .t 81), (false, .t 82)]⟩,
        ⟨some 8, none, .mov false (.t 83)⟩] [6, 6, 7, 8])
      (.skip)) <|
    .seq (.seq (.reg [⟨some 84, none, .mov false (.t 8)⟩,
      ⟨some 85, none, .bin .i .neq (.t 84) (.c (.d (.int .i64 0)))⟩] [6, 6, 7, 8, 85]) <|
    .cond (.t 85)
      (.seq (.reg [⟨some 86, none, .build [.int .u64 0, .slice 0 [], .slice 0 []] []⟩,
        ⟨some 87, none, .mov false (.t 8)⟩,
        ⟨none, none, .store 3 (.t 6) (.t 86)⟩,
        ⟨some 7, none, .mov false (.c (.d (.int .i64 0)))⟩,
        ⟨some 8, none, .mov false (.t 87)⟩] [6, 6, 7, 8]) <|
      .ret)
      (.skip)) <|
    .seq (.reg [⟨some 88, none, .load (some 3) (.t 6)⟩,
      ⟨some 89, none, .mov false (.t 7)⟩,
      ⟨none, none, .store 3 (.t 6) (.t 88)⟩,
      ⟨some 7, none, .mov false (.t 89)⟩,
      ⟨some 8, none, .mov false (.c (.d (.int .i64 0)))⟩] [6, 6, 7, 8]) <|
    .ret
/- cartouche/scalar.Text -/
def n_scalar_Text : Nat := 10
def f_scalar_Text : SFunc where
  np := 2
  res := [.slot 4, .slot 5]
  body := .seq (.reg [⟨some 3, none, .box (.t 1)⟩,
      ⟨some 4, none, .mov false (.c (.d (.str [])))⟩,
      ⟨some 5, none, .mov false (.c (.d (.int .i64 0)))⟩] [0, 3]) <|
    .seq (.seq (.reg [⟨some 7, none, .mov false (.t 0)⟩,
      ⟨some 8, none, .load (some 3) (.t 3)⟩,
      ⟨some 9, none, .call 22 [(false, .t 7), (false, .t 8)]⟩,
      ⟨some 6, none, .mov false (.t 9)⟩] [0, 3, 6]) <|
    .seq (.reg [⟨some 10, none, .mov false (.t 6)⟩,
      ⟨some 11, none, .bin .i .neq (.t 10) (.c (.d (.int .i64 0)))⟩] [0, 3, 6, 11]) <|
    .cond (.t 11)
      (.seq (.reg [⟨some 12, none, .mov false (.t 6)⟩,
        ⟨some 4, none, .mov false (.c (.d (.str [])))⟩,
        ⟨some 5, none, .mov false (.t 12)⟩] [4, 5]) <|
      .ret)
      (.skip)) <|
    .seq (.block 0 <| .seq (.reg [⟨some 14, none, .mov false (.t 0)⟩,
      ⟨some 15, none, .bin .i .eql (.t 14) (.c (.d (.int .i64 1)))⟩,
      ⟨some 13, none, .mov false (.t 15)⟩] [0, 3, 13]) <|
    .cond (.t 13)
      (.seq (.reg [⟨some 16, none, .faddr 0 none (.t 3)⟩,
        ⟨some 17, none, .load none (.t 16)⟩,
        ⟨some 18, none, .bin .i .eql (.t 17) (.c (.d (.int .u64 1)))⟩,
        ⟨some 19, none, .call 34 [(false, .t 18)]⟩,
        ⟨some 4, none, .mov false (.t 19)⟩,
        ⟨some 5, none, .mov false (.c (.d (.int .i64 0)))⟩] [4, 5]) <|
      .ret)
      (.seq (.reg [⟨some 21, none, .mov false (.t 0)⟩,
        ⟨some 22, none, .bin .i .eql (.t 21) (.c (.d (.int .i64 12)))⟩,
        ⟨some 20, none, .mov false (.t 22)⟩] [0, 3, 20]) <|
      .cond (.t 20)
        (.seq (.reg [⟨some 23, none, .faddr 0 none (.t 3)⟩,
          ⟨some 24, none, .load none (.t 23)⟩,
          ⟨some 25, none, .call 35 [(false, .t 24), (false, .c (.d (.int .i64 8)))]⟩,
          ⟨some 26, none, .bin .s .add (.c (.d (.str [102]))) (.t 25)⟩,
          ⟨some 4, none, .mov false (.t 26)⟩,
          ⟨some 5, none, .mov false (.c (.d (.int .i64 0)))⟩] [4, 5]) <|
        .ret)
        (.seq (.reg [⟨some 28, none, .mov false (.t 0)⟩,
          ⟨some 29, none, .bin .i .eql (.t 28) (.c (.d (.int .i64 13)))⟩,
          ⟨some 27, none, .mov false (.t 29)⟩] [0, 3, 27]) <|
        .cond (.t 27)
          (.seq (.reg [⟨some 30, none, .faddr 0 none (.t 3)⟩,
            ⟨some 31, none, .load none (.t 30)⟩,
            ⟨some 32, none, .call 35 [(false, .t 31), (false, .c (.d (.int .i64 16)))]⟩,
            ⟨some 33, none, .bin .s .add (.c (.d (.str [100]))) (.t 32)⟩,
            ⟨some 4, none, .mov false (.t 33)⟩,
            ⟨some 5, none, .mov false (.c (.d (.int .i64 0)))⟩] [4, 5]) <|
          .ret)
          (.seq (.reg [⟨some 35, none, .mov false (.t 0)⟩,
            ⟨some 36, none, .bin .i .eql (.t 35) (.c (.d (.int .i64 14)))⟩,
            ⟨some 37, none, .mov false (.t 36)⟩,
            ⟨some 38, some (37, false), .mov false (.t 0)⟩,
            ⟨some 39, some (37, false), .bin .i .eql (.t 38) (.c (.d (.int .i64 15)))⟩,
            ⟨some 40, none, .pick (.t 37) (.c (.d (.bool true))) (.t 39)⟩,
            ⟨some 34, none, .mov false (.t 40)⟩] [0, 3, 34]) <|
          .cond (.t 34)
            (.seq (.reg [⟨some 41, none, .faddr 1 none (.t 3)⟩,
              ⟨some 42, none, .load none (.t 41)⟩,
              ⟨some 43, none, .call 36 [(false, .t 42)]⟩,
              ⟨some 4, none, .mov false (.t 43)⟩,
              ⟨some 5, none, .mov false (.c (.d (.int .i64 0)))⟩] [4, 5]) <|
            .ret)
            (.seq (.reg [⟨some 45, none, .mov false (.t 0)⟩,
              ⟨some 46, none, .call 37 [(false, .t 45)]⟩,
              ⟨some 44, none, .mov false (.t 46)⟩] [3, 44]) <|
            .cond (.t 44)
              (.seq (.reg [⟨some 47, none, .faddr 0 none (.t 3)⟩,
                ⟨some 48, none, .load none (.t 47)⟩,
                ⟨some 49, none, .cint .i64 (.t 48)⟩,
                ⟨some 50, none, .call 38 [(false, .t 49), (false, .c (.d (.int .i64 10)))]⟩,
                ⟨some 4, none, .mov false (.t 50)⟩,
                ⟨some 5, none, .mov false (.c (.d (.int .i64 0)))⟩] [4, 5]) <|
              .ret)
              (.skip)))))) <|
    .seq (.reg [⟨some 51, none, .faddr 0 none (.t 3)⟩,
      ⟨some 52, none, .load none (.t 51)⟩,
      ⟨some 53, none, .call 39 [(false, .t 52), (false, .c (.d (.int .i64 10)))]⟩,
      ⟨some 4, none, .mov false (.t 53)⟩,
      ⟨some 5, none, .mov false (.c (.d (.int .i64 0)))⟩] [4, 5]) <|
    .ret
/- cartouche/scalar.Parse -/
def n_scalar_Parse : Nat := 11
def f_scalar_Parse : SFunc where
  np := 2
  res := [.cell 4 (some 3), .slot 5]
  body := .seq (.reg [⟨some 4, none, .zbox [.int .u64 0, .slice 0 [], .slice 0 []]⟩,
      ⟨some 5, none, .mov false (.c (.d (.int .i64 0)))⟩] [0, 1, 4, 4, 5]) <|
    .seq (.block 0 <| .seq (.reg [⟨some 15, none, .mov false (.t 0)⟩,
      ⟨some 16, none, .call 28 [(false, .t 15)]⟩,
      ⟨some 17, none, .not (.t 16)⟩,
      ⟨some 14, none, .mov false (.t 17)⟩] [0, 1, 4, 4, 5, 14]) <|
    .cond (.t 14)
      (.seq (.reg [⟨some 18, none, .build [.int .u64 0, .slice 0 [], .slice 0 []] []⟩,
        ⟨none, none, .store 3 (.t 4) (.t 18)⟩,
        ⟨some 5, none, .mov false (.c (.d (.int .i64 18)))⟩] [4, 4, 5]) <|
      .ret)
      (.seq (.reg [⟨some 20, none, .mov false (.t 0)⟩,
        ⟨some 21, none, .bin .i .eql (.t 20) (.c (.d (.int .i64 1)))⟩,
        ⟨some 19, none, .mov false (.t 21)⟩] [0, 1, 4, 4, 5, 19]) <|
      .cond (.t 19)
        (.seq (.seq (.reg [⟨some 22, none, .mov false (.t 1)⟩,
          ⟨some 23, none, .bin .s .neq (.t 22) (.c (.d (.str [116, 114, 117, 101])))⟩,
          ⟨some 24, none, .mov false (.t 23)⟩,
          ⟨some 25, some (24, true), .mov false (.t 1)⟩,
          ⟨some 26, some (24, true), .bin .s .neq (.t 25) (.c (.d (.str [102, 97, 108, 115, 101])))⟩,
          ⟨some 27, none, .pick (.t 24) (.t 26) (.c (.d (.bool false)))⟩] [0, 1, 4, 4, 5, 27]) <|
        .cond (.t 27)
          (.seq (.reg [⟨some 28, none, .build [.int .u64 0, .slice 0 [], .slice 0 []] []⟩,
            ⟨none, none, .store 3 (.t 4) (.t 28)⟩,
            ⟨some 5, none, .mov false (.c (.d (.int .i64 11)))⟩] [4, 4, 5]) <|
          .ret)
          (.skip)) <|
        .seq (.reg [⟨some 29, none, .mov false (.t 1)⟩,
          ⟨some 30, none, .bin .s .eql (.t 29) (.c (.d (.str [116, 114, 117, 101])))⟩] [0, 4, 4, 5, 30]) <|
        .cond (.t 30)
          (.reg [⟨some 31, none, .faddr 0 none (.t 4)⟩,
            ⟨none, none, .store 1 (.t 31) (.c (.d (.int .u64 1)))⟩] [0, 4, 4, 5])
          (.skip))
        (.seq (.reg [⟨some 33, none, .mov false (.t 0)⟩,
          ⟨some 34, none, .bin .i .eql (.t 33) (.c (.d (.int .i64 12)))⟩,
          ⟨some 32, none, .mov false (.t 34)⟩] [0, 1, 4, 4, 32]) <|
        .cond (.t 32)
          (.reg [⟨some 36, none, .mov false (.t 1)⟩,
            ⟨some 37, none, .call 40 [(false, .t 36), (false, .c (.d (.int .u8 102))), (false, .c (.d (.int .i64 8)))]⟩,
            ⟨some 35, none, .mov false (.t 37)⟩,
            ⟨some 38, none, .ext (.t 35) 0⟩,
            ⟨some 39, none, .ext (.t 35) 1⟩,
            ⟨some 40, none, .faddr 0 none (.t 4)⟩,
            ⟨none, none, .store 1 (.t 40) (.t 38)⟩,
            ⟨some 5, none, .mov false (.t 39)⟩] [0, 4, 4, 5])
          (.seq (.reg [⟨some 42, none, .mov false (.t 0)⟩,
            ⟨some 43, none, .bin .i .eql (.t 42) (.c (.d (.int .i64 13)))⟩,
            ⟨some 41, none, .mov false (.t 43)⟩] [0, 1, 4, 4, 41]) <|
          .cond (.t 41)
            (.reg [⟨some 45, none, .mov false (.t 1)⟩,
              ⟨some 46, none, .call 40 [(false, .t 45), (false, .c (.d (.int .u8 100))), (false, .c (.d (.int .i64 16)))]⟩,
              ⟨some 44, none, .mov false (.t 46)⟩,
              ⟨some 47, none, .ext (.t 44) 0⟩,
              ⟨some 48, none, .ext (.t 44) 1⟩,
              ⟨some 49, none, .faddr 0 none (.t 4)⟩,
              ⟨none, none, .store 1 (.t 49) (.t 47)⟩,
              ⟨some 5, none, .mov false (.t 48)⟩] [0, 4, 4, 5])
            (.seq (.reg [⟨some 51, none, .mov false (.t 0)⟩,
              ⟨some 52, none, .bin .i .eql (.t 51) (.c (.d (.int .i64 14)))⟩,
              ⟨some 53, none, .mov false (.t 52)⟩,
              ⟨some 54, some (53, false), .mov false (.t 0)⟩,
              ⟨some 55, some (53, false), .bin .i .eql (.t 54) (.c (.d (.int .i64 15)))⟩,
              ⟨some 56, none, .pick (.t 53) (.c (.d (.bool true))) (.t 55)⟩,
              ⟨some 50, none, .mov false (.t 56)⟩] [0, 1, 4, 4, 50]) <|
            .cond (.t 50)
              (.reg [⟨some 58, none, .mov false (.t 1)⟩,
                ⟨some 59, none, .call 41 [(false, .t 58)]⟩,
                ⟨some 57, none, .mov false (.t 59)⟩,
                ⟨some 60, none, .ext (.t 57) 0⟩,
                ⟨some 61, none, .ext (.t 57) 1⟩,
                ⟨some 62, none, .faddr 1 none (.t 4)⟩,
                ⟨none, none, .store 1 (.t 62) (.t 60)⟩,
                ⟨some 5, none, .mov false (.t 61)⟩] [0, 4, 4, 5])
              (.reg [⟨some 7, none, .mov false (.t 1)⟩,
                ⟨some 8, none, .mov false (.t 0)⟩,
                ⟨some 9, none, .call 37 [(false, .t 8)]⟩,
                ⟨some 10, none, .call 42 [(false, .t 7), (false, .t 9)]⟩,
                ⟨some 6, none, .mov false (.t 10)⟩,
                ⟨some 11, none, .ext (.t 6) 0⟩,
                ⟨some 12, none, .ext (.t 6) 1⟩,
                ⟨some 13, none, .faddr 0 none (.t 4)⟩,
                ⟨none, none, .store 1 (.t 13) (.t 11)⟩,
                ⟨some 5, none, .mov false (.t 12)⟩] [0, 4, 4, 5])))))) <|
    .seq (.seq (.reg [⟨some 63, none, .mov false (.t 5)⟩,
      ⟨some 64, none, .bin .i .eql (.t 63) (.c (.d (.int .i64 0)))⟩] [0, 4, 4, 5, 64]) <|
    .cond (.t 64)
      (.reg [⟨some 65, none, .mov false (.t 0)⟩,
        ⟨some 66, none, .load (some 3) (.t 4)⟩,
        ⟨some 67, none, .call 22 [(false, .t 65), (false, .t 66)]⟩,
        ⟨some 5, none, .mov false (.t 67)⟩] [4, 4, 5])
      (.skip)) <|
    .seq (.seq (.reg [⟨some 68, none, .mov false (.t 5)⟩,
      ⟨some 69, none, .bin .i .neq (.t 68) (.c (.d (.int .i64 0)))⟩] [4, 4, 5, 69]) <|
    .cond (.t 69)
      (.seq (.reg [⟨some 70, none, .build [.int .u64 0, .slice 0 [], .slice 0 []] []⟩,
        ⟨some 71, none, .mov false (.t 5)⟩,
        ⟨none, none, .store 3 (.t 4) (.t 70)⟩,
        ⟨some 5, none, .mov false (.t 71)⟩] [4, 4, 5]) <|
      .ret)
      (.skip)) <|
    .seq (.reg [⟨some 72, none, .load (some 3) (.t 4)⟩,
      ⟨none, none, .store 3 (.t 4) (.t 72)⟩,
      ⟨some 5, none, .mov false (.c (.d (.int .i64 0)))⟩] [4, 4, 5]) <|
    .ret
/- cartouche/cartouchelaw3.told -/
def n_law3_told : Nat := 12
def f_law3_told : SFunc where
  np := 4
  res := [.slot 8]
  body := .seq (.reg [⟨some 4, none, .box (.t 0)⟩,
      ⟨some 6, none, .box (.t 2)⟩,
      ⟨some 8, none, .mov false (.c (.d (.bool false)))⟩] [1, 3, 4, 4, 6, 6]) <|
    .seq (.seq (.reg [⟨some 9, none, .mov false (.t 3)⟩,
      ⟨some 10, none, .bin .i .neq (.t 9) (.c (.d (.int .i64 0)))⟩] [1, 3, 4, 4, 6, 6, 10]) <|
    .cond (.t 10)
      (.seq (.reg [⟨some 11, none, .mov false (.t 1)⟩,
        ⟨some 12, none, .mov false (.t 3)⟩,
        ⟨some 13, none, .bin .i .eql (.t 11) (.t 12)⟩,
        ⟨some 14, none, .mov false (.t 13)⟩,
        ⟨some 15, some (14, true), .load (some 3) (.t 4)⟩,
        ⟨some 16, some (14, true), .build [.int .u64 0, .slice 0 [], .slice 0 []] []⟩,
        ⟨some 17, some (14, true), .call 43 [(false, .t 15), (false, .t 16)]⟩,
        ⟨some 18, none, .pick (.t 14) (.t 17) (.c (.d (.bool false)))⟩,
        ⟨some 8, none, .mov false (.t 18)⟩] [8]) <|
      .ret)
      (.skip)) <|
    .seq (.reg [⟨some 19, none, .mov false (.t 1)⟩,
      ⟨some 20, none, .bin .i .eql (.t 19) (.c (.d (.int .i64 0)))⟩,
      ⟨some 21, none, .mov false (.t 20)⟩,
      ⟨some 22, some (21, true), .load (some 3) (.t 4)⟩,
      ⟨some 23, some (21, true), .load (some 3) (.t 6)⟩,
      ⟨some 24, some (21, true), .call 43 [(false, .t 22), (false, .t 23)]⟩,
      ⟨some 25, none, .pick (.t 21) (.t 24) (.c (.d (.bool false)))⟩,
      ⟨some 8, none, .mov false (.t 25)⟩] [8]) <|
    .ret
/- cartouche/scalar.Wire -/
def n_scalar_Wire : Nat := 13
def f_scalar_Wire : SFunc where
  np := 1
  res := [.slot 2, .slot 3]
  body := .seq (.reg [⟨some 2, none, .mov false (.c (.d (.int .i64 0)))⟩,
      ⟨some 3, none, .mov false (.c (.d (.int .i64 0)))⟩] [0]) <|
    .seq (.seq (.reg [⟨some 4, none, .mov false (.t 0)⟩] [4]) <|
    .block 0 <| .seq (.seq (.reg [⟨some 6, none, .bin .i .eql (.t 4) (.c (.d (.int .i64 1)))⟩,
      ⟨some 5, none, .mov false (.t 6)⟩] [4, 5]) <|
    .cond (.t 5)
      (.skip)
      (.seq (.reg [⟨some 7, none, .bin .i .eql (.t 4) (.c (.d (.int .i64 2)))⟩,
        ⟨some 5, none, .mov false (.t 7)⟩] [4, 5]) <|
      .cond (.t 5)
        (.skip)
        (.seq (.reg [⟨some 8, none, .bin .i .eql (.t 4) (.c (.d (.int .i64 3)))⟩,
          ⟨some 5, none, .mov false (.t 8)⟩] [4, 5]) <|
        .cond (.t 5)
          (.skip)
          (.seq (.reg [⟨some 9, none, .bin .i .eql (.t 4) (.c (.d (.int .i64 4)))⟩,
            ⟨some 5, none, .mov false (.t 9)⟩] [4, 5]) <|
          .cond (.t 5)
            (.skip)
            (.seq (.reg [⟨some 10, none, .bin .i .eql (.t 4) (.c (.d (.int .i64 5)))⟩,
              ⟨some 5, none, .mov false (.t 10)⟩] [4, 5]) <|
            .cond (.t 5)
              (.skip)
              (.seq (.reg [⟨some 11, none, .bin .i .eql (.t 4) (.c (.d (.int .i64 6)))⟩,
                ⟨some 5, none, .mov false (.t 11)⟩] [4, 5]) <|
              .cond (.t 5)
                (.skip)
                (.seq (.reg [⟨some 12, none, .bin .i .eql (.t 4) (.c (.d (.int .i64 7)))⟩,
                  ⟨some 5, none, .mov false (.t 12)⟩] [4, 5]) <|
                .cond (.t 5)
                  (.skip)
                  (.reg [⟨some 13, none, .bin .i .eql (.t 4) (.c (.d (.int .i64 16)))⟩,
                    ⟨some 5, none, .mov false (.t 13)⟩] [4, 5])))))))) <|
    .cond (.t 5)
      (.seq (.reg [⟨some 2, none, .mov false (.c (.d (.int .i64 0)))⟩,
        ⟨some 3, none, .mov false (.c (.d (.int .i64 0)))⟩] [2, 3]) <|
      .ret)
      (.seq (.seq (.reg [⟨some 15, none, .bin .i .eql (.t 4) (.c (.d (.int .i64 8)))⟩,
        ⟨some 14, none, .mov false (.t 15)⟩] [4, 14]) <|
      .cond (.t 14)
        (.skip)
        (.seq (.reg [⟨some 16, none, .bin .i .eql (.t 4) (.c (.d (.int .i64 10)))⟩,
          ⟨some 14, none, .mov false (.t 16)⟩] [4, 14]) <|
        .cond (.t 14)
          (.skip)
          (.reg [⟨some 17, none, .bin .i .eql (.t 4) (.c (.d (.int .i64 12)))⟩,
            ⟨some 14, none, .mov false (.t 17)⟩] [4, 14]))) <|
      .cond (.t 14)
        (.seq (.reg [⟨some 2, none, .mov false (.c (.d (.int .i64 5)))⟩,
          ⟨some 3, none, .mov false (.c (.d (.int .i64 0)))⟩] [2, 3]) <|
        .ret)
        (.seq (.seq (.reg [⟨some 19, none, .bin .i .eql (.t 4) (.c (.d (.int .i64 9)))⟩,
          ⟨some 18, none, .mov false (.t 19)⟩] [4, 18]) <|
        .cond (.t 18)
          (.skip)
          (.seq (.reg [⟨some 20, none, .bin .i .eql (.t 4) (.c (.d (.int .i64 11)))⟩,
            ⟨some 18, none, .mov false (.t 20)⟩] [4, 18]) <|
          .cond (.t 18)
            (.skip)
            (.reg [⟨some 21, none, .bin .i .eql (.t 4) (.c (.d (.int .i64 13)))⟩,
              ⟨some 18, none, .mov false (.t 21)⟩] [4, 18]))) <|
        .cond (.t 18)
          (.seq (.reg [⟨some 2, none, .mov false (.c (.d (.int .i64 1)))⟩,
            ⟨some 3, none, .mov false (.c (.d (.int .i64 0)))⟩] [2, 3]) <|
          .ret)
          (.seq (.seq (.reg [⟨some 23, none, .bin .i .eql (.t 4) (.c (.d (.int .i64 14)))⟩,
            ⟨some 22, none, .mov false (.t 23)⟩] [4, 22]) <|
          .cond (.t 22)
            (.skip)
            (.seq (.reg [⟨some 24, none, .bin .i .eql (.t 4) (.c (.d (.int .i64 15)))⟩,
              ⟨some 22, none, .mov false (.t 24)⟩] [4, 22]) <|
            .cond (.t 22)
              (.skip)
              (.reg [⟨some 25, none, .bin .i .eql (.t 4) (.c (.d (.int .i64 17)))⟩,
                ⟨some 22, none, .mov false (.t 25)⟩] [22]))) <|
          .cond (.t 22)
            (.seq (.reg [⟨some 2, none, .mov false (.c (.d (.int .i64 2)))⟩,
              ⟨some 3, none, .mov false (.c (.d (.int .i64 0)))⟩] [2, 3]) <|
            .ret)
            (.skip))))) <|
    .seq (.reg [⟨some 2, none, .mov false (.c (.d (.int .i64 0)))⟩,
      ⟨some 3, none, .mov false (.c (.d (.int .i64 18)))⟩] [2, 3]) <|
    .ret
/- cartouche/scalar.Numeric -/
def n_scalar_Numeric : Nat := 14
def f_scalar_Numeric : SFunc where
  np := 1
  res := [.slot 2]
  body := .seq (.reg [⟨some 2, none, .mov false (.c (.d (.bool false)))⟩] [0]) <|
    .seq (.reg [⟨some 6, none, .mov false (.t 0)⟩,
      ⟨some 7, none, .call 13 [(false, .t 6)]⟩,
      ⟨some 5, none, .mov false (.t 7)⟩,
      ⟨some 8, none, .ext (.t 5) 0⟩,
      ⟨some 9, none, .ext (.t 5) 1⟩,
      ⟨some 3, none, .mov false (.t 8)⟩,
      ⟨some 4, none, .mov false (.t 9)⟩] [3, 4]) <|
    .seq (.reg [⟨some 10, none, .mov false (.t 4)⟩,
      ⟨some 11, none, .bin .i .eql (.t 10) (.c (.d (.int .i64 0)))⟩,
      ⟨some 12, none, .mov false (.t 11)⟩,
      ⟨some 13, some (12, true), .mov false (.t 3)⟩,
      ⟨some 14, some (12, true), .bin .i .neq (.t 13) (.c (.d (.int .i64 2)))⟩,
      ⟨some 15, none, .pick (.t 12) (.t 14) (.c (.d (.bool false)))⟩,
      ⟨some 2, none, .mov false (.t 15)⟩] [2]) <|
    .ret
/- cartouche/scalar.IsKey -/
def n_scalar_IsKey : Nat := 15
def f_scalar_IsKey : SFunc where
  np := 1
  res := [.slot 2]
  body := .seq (.reg [⟨some 2, none, .mov false (.c (.d (.bool false)))⟩] [0]) <|
    .seq (.reg [⟨some 3, none, .mov false (.t 0)⟩,
      ⟨some 4, none, .bin .i .geq (.t 3) (.c (.d (.int .i64 1)))⟩,
      ⟨some 5, none, .mov false (.t 4)⟩,
      ⟨some 6, some (5, true), .mov false (.t 0)⟩,
      ⟨some 7, some (5, true), .bin .i .leq (.t 6) (.c (.d (.int .i64 11)))⟩,
      ⟨some 8, none, .pick (.t 5) (.t 7) (.c (.d (.bool false)))⟩,
      ⟨some 9, none, .mov false (.t 8)⟩,
      ⟨some 10, some (9, false), .mov false (.t 0)⟩,
      ⟨some 11, some (9, false), .bin .i .eql (.t 10) (.c (.d (.int .i64 14)))⟩,
      ⟨some 12, none, .pick (.t 9) (.c (.d (.bool true))) (.t 11)⟩,
      ⟨some 2, none, .mov false (.t 12)⟩] [2]) <|
    .ret
/- cartouche/cartouchelaw3.n -/
def n_law3_n : Nat := 16
def f_law3_n : SFunc where
  np := 1
  res := [.cell 2 (some 3)]
  body := .seq (.reg [⟨some 2, none, .zbox [.int .u64 0, .slice 0 [], .slice 0 []]⟩] [0, 2, 2]) <|
    .seq (.reg [⟨some 3, none, .mov false (.t 0)⟩,
      ⟨some 4, none, .cint .u64 (.t 3)⟩,
      ⟨some 5, none, .build [.int .u64 0, .slice 0 [], .slice 0 []] [(0, 1, .t 4)]⟩,
      ⟨none, none, .store 3 (.t 2) (.t 5)⟩] [2, 2]) <|
    .ret
/- cartouche/cartouchelaw3.s -/
def n_law3_s : Nat := 17
def f_law3_s : SFunc where
  np := 1
  res := [.cell 2 (some 3)]
  body := .seq (.reg [⟨some 2, none, .zbox [.int .u64 0, .slice 0 [], .slice 0 []]⟩] [0, 2, 2]) <|
    .seq (.reg [⟨some 3, none, .mov true (.t 0)⟩,
      ⟨some 4, none, .build [.int .u64 0, .slice 0 [], .slice 0 []] [(1, 1, .t 3)]⟩,
      ⟨none, none, .store 3 (.t 2) (.t 4)⟩] [2, 2]) <|
    .ret
/- cartouche/cartouchelaw3.same -/
def n_law3_same : Nat := 18
def f_law3_same : SFunc where
  np := 2
  res := [.slot 4]
  body := .seq (.reg [⟨some 4, none, .mov false (.c (.d (.bool false)))⟩] [0, 1]) <|
    .seq (.reg [⟨some 5, none, .mov true (.t 0)⟩,
      ⟨some 6, none, .cstr (.t 5)⟩,
      ⟨some 7, none, .mov true (.t 1)⟩,
      ⟨some 8, none, .cstr (.t 7)⟩,
      ⟨some 9, none, .bin .s .eql (.t 6) (.t 8)⟩,
      ⟨some 4, none, .mov false (.t 9)⟩] [4]) <|
    .ret
/- cartouche/cartouchelaw3.got -/
def n_law3_got : Nat := 19
def f_law3_got : SFunc where
  np := 5
  res := [.slot 10]
  body := .seq (.reg [⟨some 7, none, .box (.t 2)⟩,
      ⟨some 10, none, .mov false (.c (.d (.bool false)))⟩] [0, 1, 3, 4, 7, 7]) <|
    .seq (.reg [⟨some 15, none, .mov false (.t 0)⟩,
      ⟨some 16, none, .mov true (.t 1)⟩,
      ⟨some 17, none, .call 9 [(false, .t 15), (false, .t 16), (false, .c (.d (.int .i64 0)))]⟩,
      ⟨some 14, none, .mov false (.t 17)⟩,
      ⟨some 18, none, .ext (.t 14) 0⟩,
      ⟨some 19, none, .ext (.t 14) 1⟩,
      ⟨some 20, none, .ext (.t 14) 2⟩,
      ⟨some 11, none, .zbox [.int .u64 0, .slice 0 [], .slice 0 []]⟩,
      ⟨none, none, .store 3 (.t 11) (.t 18)⟩,
      ⟨some 12, none, .mov false (.t 19)⟩,
      ⟨some 13, none, .mov false (.t 20)⟩] [3, 4, 7, 7, 11, 11, 12, 13]) <|
    .seq (.reg [⟨some 21, none, .load (some 3) (.t 11)⟩,
      ⟨some 22, none, .mov false (.t 13)⟩,
      ⟨some 23, none, .load (some 3) (.t 7)⟩,
      ⟨some 24, none, .mov false (.t 4)⟩,
      ⟨some 25, none, .call 12 [(false, .t 21), (false, .t 22), (false, .t 23), (false, .t 24)]⟩,
      ⟨some 26, none, .mov false (.t 25)⟩,
      ⟨some 27, some (26, true), .mov false (.t 12)⟩,
      ⟨some 28, some (26, true), .mov false (.t 3)⟩,
      ⟨some 29, some (26, true), .bin .i .eql (.t 27) (.t 28)⟩,
      ⟨some 30, none, .pick (.t 26) (.t 29) (.c (.d (.bool false)))⟩,
      ⟨some 10, none, .mov false (.t 30)⟩] [10]) <|
    .ret
/- cartouche/scalar.Compare -/
def n_scalar_Compare : Nat := 20
def f_scalar_Compare : SFunc where
  np := 3
  res := [.slot 6, .slot 7]
  body := .seq (.reg [⟨some 4, none, .box (.t 1)⟩,
      ⟨some 5, none, .box (.t 2)⟩,
      ⟨some 6, none, .mov false (.c (.d (.int .i64 0)))⟩,
      ⟨some 7, none, .mov false (.c (.d (.int .i64 0)))⟩] [0, 4, 5]) <|
    .seq (.block 0 <| .seq (.reg [⟨some 9, none, .mov false (.t 0)⟩,
      ⟨some 10, none, .call 15 [(false, .t 9)]⟩,
      ⟨some 11, none, .not (.t 10)⟩,
      ⟨some 8, none, .mov false (.t 11)⟩] [0, 4, 5, 8]) <|
    .cond (.t 8)
      (.seq (.reg [⟨some 6, none, .mov false (.c (.d (.int .i64 0)))⟩,
        ⟨some 7, none, .mov false (.c (.d (.int .i64 18)))⟩] [6, 7]) <|
      .ret)
      (.seq (.reg [⟨some 13, none, .mov false (.t 0)⟩,
        ⟨some 14, none, .load (some 3) (.t 4)⟩,
        ⟨some 15, none, .call 44 [(false, .t 13), (false, .t 14)]⟩,
        ⟨some 16, none, .not (.t 15)⟩,
        ⟨some 17, none, .mov false (.t 16)⟩,
        ⟨some 18, some (17, false), .mov false (.t 0)⟩,
        ⟨some 19, some (17, false), .load (some 3) (.t 5)⟩,
        ⟨some 20, some (17, false), .call 44 [(false, .t 18), (false, .t 19)]⟩,
        ⟨some 21, some (17, false), .not (.t 20)⟩,
        ⟨some 22, none, .pick (.t 17) (.c (.d (.bool true))) (.t 21)⟩,
        ⟨some 12, none, .mov false (.t 22)⟩] [0, 4, 5, 12]) <|
      .cond (.t 12)
        (.seq (.reg [⟨some 6, none, .mov false (.c (.d (.int .i64 0)))⟩,
          ⟨some 7, none, .mov false (.c (.d (.int .i64 7)))⟩] [6, 7]) <|
        .ret)
        (.seq (.reg [⟨some 24, none, .mov false (.t 0)⟩,
          ⟨some 25, none, .bin .i .eql (.t 24) (.c (.d (.int .i64 14)))⟩,
          ⟨some 23, none, .mov false (.t 25)⟩] [0, 4, 5, 23]) <|
        .cond (.t 23)
          (.seq (.reg [⟨some 26, none, .faddr 1 none (.t 4)⟩,
            ⟨some 27, none, .load none (.t 26)⟩,
            ⟨some 28, none, .faddr 1 none (.t 5)⟩,
            ⟨some 29, none, .load none (.t 28)⟩,
            ⟨some 30, none, .call 45 [(false, .t 27), (false, .t 29)]⟩,
            ⟨some 6, none, .mov false (.t 30)⟩,
            ⟨some 7, none, .mov false (.c (.d (.int .i64 0)))⟩] [6, 7]) <|
          .ret)
          (.seq (.reg [⟨some 32, none, .mov false (.t 0)⟩,
            ⟨some 33, none, .call 37 [(false, .t 32)]⟩,
            ⟨some 31, none, .mov false (.t 33)⟩] [4, 5, 31]) <|
          .cond (.t 31)
            (.seq (.reg [⟨some 34, none, .faddr 0 none (.t 4)⟩,
              ⟨some 35, none, .load none (.t 34)⟩,
              ⟨some 36, none, .cint .i64 (.t 35)⟩,
              ⟨some 37, none, .faddr 0 none (.t 5)⟩,
              ⟨some 38, none, .load none (.t 37)⟩,
              ⟨some 39, none, .cint .i64 (.t 38)⟩,
              ⟨some 40, none, .call 46 [(false, .t 36), (false, .t 39)]⟩,
              ⟨some 6, none, .mov false (.t 40)⟩,
              ⟨some 7, none, .mov false (.c (.d (.int .i64 0)))⟩] [6, 7]) <|
            .ret)
            (.skip))))) <|
    .seq (.reg [⟨some 41, none, .faddr 0 none (.t 4)⟩,
      ⟨some 42, none, .load none (.t 41)⟩,
      ⟨some 43, none, .faddr 0 none (.t 5)⟩,
      ⟨some 44, none, .load none (.t 43)⟩,
      ⟨some 45, none, .call 47 [(false, .t 42), (false, .t 44)]⟩,
      ⟨some 6, none, .mov false (.t 45)⟩,
      ⟨some 7, none, .mov false (.c (.d (.int .i64 0)))⟩] [6, 7]) <|
    .ret
/- cartouche/scalar.may -/
def n_scalar_may : Nat := 22
def f_scalar_may : SFunc where
  np := 2
  res := [.slot 4]
  body := .seq (.reg [⟨some 3, none, .box (.t 1)⟩,
      ⟨some 4, none, .mov false (.c (.d (.int .i64 0)))⟩] [0, 3]) <|
    .seq (.block 0 <| .seq (.reg [⟨some 6, none, .mov false (.t 0)⟩,
      ⟨some 7, none, .call 28 [(false, .t 6)]⟩,
      ⟨some 8, none, .not (.t 7)⟩,
      ⟨some 5, none, .mov false (.t 8)⟩] [0, 3, 5]) <|
    .cond (.t 5)
      (.seq (.reg [⟨some 4, none, .mov false (.c (.d (.int .i64 18)))⟩] [4]) <|
      .ret)
      (.seq (.reg [⟨some 10, none, .mov false (.t 0)⟩,
        ⟨some 11, none, .load (some 3) (.t 3)⟩,
        ⟨some 12, none, .call 44 [(false, .t 10), (false, .t 11)]⟩,
        ⟨some 13, none, .not (.t 12)⟩,
        ⟨some 9, none, .mov false (.t 13)⟩] [0, 3, 9]) <|
      .cond (.t 9)
        (.seq (.reg [⟨some 4, none, .mov false (.c (.d (.int .i64 7)))⟩] [4]) <|
        .ret)
        (.seq (.reg [⟨some 15, none, .mov false (.t 0)⟩,
          ⟨some 16, none, .bin .i .eql (.t 15) (.c (.d (.int .i64 14)))⟩,
          ⟨some 17, none, .mov false (.t 16)⟩,
          ⟨some 18, some (17, true), .faddr 1 none (.t 3)⟩,
          ⟨some 19, some (17, true), .load none (.t 18)⟩,
          ⟨some 20, some (17, true), .call 50 [(false, .t 19)]⟩,
          ⟨some 21, some (17, true), .not (.t 20)⟩,
          ⟨some 22, none, .pick (.t 17) (.t 21) (.c (.d (.bool false)))⟩,
          ⟨some 14, none, .mov false (.t 22)⟩] [14]) <|
        .cond (.t 14)
          (.seq (.reg [⟨some 4, none, .mov false (.c (.d (.int .i64 8)))⟩] [4]) <|
          .ret)
          (.skip)))) <|
    .seq (.reg [⟨some 4, none, .mov false (.c (.d (.int .i64 0)))⟩] [4]) <|
    .ret
/- cartouche/wire.PutChunk -/
def n_wire_PutChunk : Nat := 23
def f_wire_PutChunk : SFunc where
  np := 1
  res := [.slot 2]
  body := .seq (.reg [⟨some 2, none, .mov true (.c (.own 1 []))⟩] [0]) <|
    .seq (.reg [⟨some 4, none, .mov false (.t 0)⟩,
      ⟨some 5, none, .len false (.t 4)⟩,
      ⟨some 6, none, .cint .u64 (.t 5)⟩,
      ⟨some 3, none, .mov false (.t 6)⟩] [0, 3]) <|
    .seq (.reg [⟨some 7, none, .mov false (.t 3)⟩,
      ⟨some 8, none, .call 52 [(false, .t 7)]⟩,
      ⟨some 9, none, .mov false (.t 0)⟩,
      ⟨some 10, none, .len false (.t 9)⟩,
      ⟨some 11, none, .bin .i .add (.t 8) (.t 10)⟩,
      ⟨some 12, none, .make (.int .u8 0) 1 (.c (.d (.int .i64 0))) (.t 11)⟩,
      ⟨some 13, none, .mov false (.t 3)⟩,
      ⟨some 14, none, .call 51 [(true, .t 12), (false, .t 13)]⟩,
      ⟨some 15, none, .mov true (.t 0)⟩,
      ⟨some 16, none, .app false 1 1 (.t 14) (.t 15)⟩,
      ⟨some 2, none, .mov true (.t 16)⟩] [2]) <|
    .ret
/- cartouche/wire.PutFix32 -/
def n_wire_PutFix32 : Nat := 24
def f_wire_PutFix32 : SFunc where
  np := 1
  res := [.slot 2]
  body := .seq (.reg [⟨some 2, none, .mov true (.c (.own 1 []))⟩] [0]) <|
    .seq (.reg [⟨some 3, none, .mov false (.t 0)⟩,
      ⟨some 4, none, .cint .u64 (.t 3)⟩,
      ⟨some 5, none, .call 53 [(false, .t 4), (false, .c (.d (.int .i64 4)))]⟩,
      ⟨some 2, none, .mov true (.t 5)⟩] [2]) <|
    .ret
/- cartouche/wire.PutFix64 -/
def n_wire_PutFix64 : Nat := 25
def f_wire_PutFix64 : SFunc where
  np := 1
  res := [.slot 2]
  body := .seq (.reg [⟨some 2, none, .mov true (.c (.own 1 []))⟩] [0]) <|
    .seq (.reg [⟨some 3, none, .mov false (.t 0)⟩,
      ⟨some 4, none, .call 53 [(false, .t 3), (false, .c (.d (.int .i64 8)))]⟩,
      ⟨some 2, none, .mov true (.t 4)⟩] [2]) <|
    .ret
/- cartouche/wire.PutVarint -/
def n_wire_PutVarint : Nat := 26
def f_wire_PutVarint : SFunc where
  np := 1
  res := [.slot 2]
  body := .seq (.reg [⟨some 2, none, .mov true (.c (.own 1 []))⟩] [0]) <|
    .seq (.reg [⟨some 3, none, .mov false (.t 0)⟩,
      ⟨some 4, none, .call 52 [(false, .t 3)]⟩,
      ⟨some 5, none, .make (.int .u8 0) 1 (.c (.d (.int .i64 0))) (.t 4)⟩,
      ⟨some 6, none, .mov false (.t 0)⟩,
      ⟨some 7, none, .call 51 [(true, .t 5), (false, .t 6)]⟩,
      ⟨some 2, none, .mov true (.t 7)⟩] [2]) <|
    .ret
/- cartouche/wire.ZigZag -/
def n_wire_ZigZag : Nat := 27
def f_wire_ZigZag : SFunc where
  np := 1
  res := [.slot 2]
  body := .seq (.reg [⟨some 2, none, .mov false (.c (.d (.int .u64 0)))⟩] [0]) <|
    .seq (.reg [⟨some 3, none, .mov false (.t 0)⟩,
      ⟨some 4, none, .cint .u64 (.t 3)⟩,
      ⟨some 5, none, .bin .i .shl (.t 4) (.c (.d (.int .u64 1)))⟩,
      ⟨some 6, none, .mov false (.t 0)⟩,
      ⟨some 7, none, .bin .i .shr (.t 6) (.c (.d (.int .u64 63)))⟩,
      ⟨some 8, none, .cint .u64 (.t 7)⟩,
      ⟨some 9, none, .bin .i .xor (.t 5) (.t 8)⟩,
      ⟨some 2, none, .mov false (.t 9)⟩] [2]) <|
    .ret
/- cartouche/scalar.known -/
def n_scalar_known : Nat := 28
def f_scalar_known : SFunc where
  np := 1
  res := [.slot 2]
  body := .seq (.reg [⟨some 2, none, .mov false (.c (.d (.bool false)))⟩] [0]) <|
    .seq (.reg [⟨some 3, none, .mov false (.t 0)⟩,
      ⟨some 4, none, .bin .i .geq (.t 3) (.c (.d (.int .i64 1)))⟩,
      ⟨some 5, none, .mov false (.t 4)⟩,
      ⟨some 6, some (5, true), .mov false (.t 0)⟩,
      ⟨some 7, some (5, true), .bin .i .leq (.t 6) (.c (.d (.int .i64 16)))⟩,
      ⟨some 8, none, .pick (.t 5) (.t 7) (.c (.d (.bool false)))⟩,
      ⟨some 2, none, .mov false (.t 8)⟩] [2]) <|
    .ret
/- cartouche/wire.GetChunk -/
def n_wire_GetChunk : Nat := 29
def f_wire_GetChunk : SFunc where
  np := 2
  res := [.slot 4, .slot 5, .slot 6]
  body := .seq (.reg [⟨some 4, none, .mov true (.c (.own 1 []))⟩,
      ⟨some 5, none, .mov false (.c (.d (.int .i64 0)))⟩,
      ⟨some 6, none, .mov false (.c (.d (.int .i64 0)))⟩] [0, 1]) <|
    .seq (.reg [⟨some 10, none, .mov false (.t 0)⟩,
      ⟨some 11, none, .mov false (.t 1)⟩,
      ⟨some 12, none, .call 54 [(false, .t 10), (false, .t 11)]⟩,
      ⟨some 9, none, .mov false (.t 12)⟩,
      ⟨some 13, none, .ext (.t 9) 0⟩,
      ⟨some 14, none, .ext (.t 9) 1⟩,
      ⟨some 15, none, .ext (.t 9) 2⟩,
      ⟨some 7, none, .mov false (.t 13)⟩,
      ⟨some 8, none, .mov false (.t 14)⟩,
      ⟨some 6, none, .mov false (.t 15)⟩] [0, 6, 7, 8]) <|
    .seq (.seq (.reg [⟨some 16, none, .mov false (.t 6)⟩,
      ⟨some 17, none, .bin .i .neq (.t 16) (.c (.d (.int .i64 0)))⟩] [0, 6, 7, 8, 17]) <|
    .cond (.t 17)
      (.seq (.reg [⟨some 18, none, .mov false (.t 6)⟩,
        ⟨some 4, none, .mov true (.c (.own 1 []))⟩,
        ⟨some 5, none, .mov false (.c (.d (.int .i64 0)))⟩,
        ⟨some 6, none, .mov false (.t 18)⟩] [4, 5, 6]) <|
      .ret)
      (.skip)) <|
    .seq (.reg [⟨some 19, none, .mov false (.t 8)⟩,
      ⟨some 20, none, .mov false (.t 7)⟩,
      ⟨some 21, none, .bin .i .sub (.t 19) (.t 20)⟩,
      ⟨some 22, none, .make (.int .u8 0) 1 (.c (.d (.int .i64 0))) (.t 21)⟩,
      ⟨some 23, none, .mov true (.t 0)⟩,
      ⟨some 24, none, .mov false (.t 7)⟩,
      ⟨some 25, none, .mov false (.t 8)⟩,
      ⟨some 26, none, .slc 1 (.t 23) (some (.t 24)) (some (.t 25)) none⟩,
      ⟨some 27, none, .app false 1 1 (.t 22) (.t 26)⟩,
      ⟨some 28, none, .mov false (.t 8)⟩,
      ⟨some 4, none, .mov true (.t 27)⟩,
      ⟨some 5, none, .mov false (.t 28)⟩,
      ⟨some 6, none, .mov false (.c (.d (.int .i64 0)))⟩] [4, 5, 6]) <|
    .ret
/- cartouche/wire.GetFix32 -/
def n_wire_GetFix32 : Nat := 30
def f_wire_GetFix32 : SFunc where
  np := 2
  res := [.slot 4, .slot 5, .slot 6]
  body := .seq (.reg [⟨some 4, none, .mov false (.c (.d (.int .u32 0)))⟩,
      ⟨some 5, none, .mov false (.c (.d (.int .i64 0)))⟩,
      ⟨some 6, none, .mov false (.c (.d (.int .i64 0)))⟩] [0, 1]) <|
    .seq (.reg [⟨some 9, none, .mov true (.t 0)⟩,
      ⟨some 10, none, .mov false (.t 1)⟩,
      ⟨some 11, none, .call 55 [(false, .t 9), (false, .t 10), (false, .c (.d (.int .i64 4)))]⟩,
      ⟨some 8, none, .mov false (.t 11)⟩,
      ⟨some 12, none, .ext (.t 8) 0⟩,
      ⟨some 13, none, .ext (.t 8) 1⟩,
      ⟨some 14, none, .ext (.t 8) 2⟩,
      ⟨some 7, none, .mov false (.t 12)⟩,
      ⟨some 5, none, .mov false (.t 13)⟩,
      ⟨some 6, none, .mov false (.t 14)⟩] [5, 6, 7]) <|
    .seq (.reg [⟨some 15, none, .mov false (.t 7)⟩,
      ⟨some 16, none, .cint .u32 (.t 15)⟩,
      ⟨some 17, none, .mov false (.t 5)⟩,
      ⟨some 18, none, .mov false (.t 6)⟩,
      ⟨some 4, none, .mov false (.t 16)⟩,
      ⟨some 5, none, .mov false (.t 17)⟩,
      ⟨some 6, none, .mov false (.t 18)⟩] [4, 5, 6]) <|
    .ret
/- cartouche/wire.GetFix64 -/
def n_wire_GetFix64 : Nat := 31
def f_wire_GetFix64 : SFunc where
  np := 2
  res := [.slot 4, .slot 5, .slot 6]
  body := .seq (.reg [⟨some 4, none, .mov false (.c (.d (.int .u64 0)))⟩,
      ⟨some 5, none, .mov false (.c (.d (.int .i64 0)))⟩,
      ⟨some 6, none, .mov false (.c (.d (.int .i64 0)))⟩] [0, 1]) <|
    .seq (.reg [⟨some 7, none, .mov true (.t 0)⟩,
      ⟨some 8, none, .mov false (.t 1)⟩,
      ⟨some 9, none, .call 55 [(false, .t 7), (false, .t 8), (false, .c (.d (.int .i64 8)))]⟩,
      ⟨some 10, none, .ext (.t 9) 0⟩,
      ⟨some 11, none, .ext (.t 9) 1⟩,
      ⟨some 12, none, .ext (.t 9) 2⟩,
      ⟨some 4, none, .mov false (.t 10)⟩,
      ⟨some 5, none, .mov false (.t 11)⟩,
      ⟨some 6, none, .mov false (.t 12)⟩] [4, 5, 6]) <|
    .ret
/- cartouche/wire.GetVarint -/
def l_wire_GetVarint_1 : SC :=
  .seq (.reg [⟨some 14, none, .bin .i .lss (.t 13) (.c (.d (.int .i64 10)))⟩] [0, 1, 4, 13, 14]) <|
    .seq (.cond (.t 14)
      (.skip)
      (.exit 0)) <|
    .seq (.block 1 <| .seq (.reg [⟨some 15, none, .mov false (.t 13)⟩,
      ⟨some 7, none, .mov false (.t 15)⟩] [0, 1, 4, 7, 13]) <|
    .seq (.seq (.reg [⟨some 16, none, .mov false (.t 1)⟩,
      ⟨some 17, none, .mov false (.t 7)⟩,
      ⟨some 18, none, .bin .i .add (.t 16) (.t 17)⟩,
      ⟨some 19, none, .mov false (.t 0)⟩,
      ⟨some 20, none, .len false (.t 19)⟩,
      ⟨some 21, none, .bin .i .eql (.t 18) (.t 20)⟩] [0, 1, 4, 7, 13, 21]) <|
    .cond (.t 21)
      (.exit 0)
      (.skip)) <|
    .seq (.reg [⟨some 22, none, .mov false (.t 0)⟩,
      ⟨some 23, none, .mov false (.t 1)⟩,
      ⟨some 24, none, .mov false (.t 7)⟩,
      ⟨some 25, none, .bin .i .add (.t 23) (.t 24)⟩,
      ⟨some 26, none, .iaddr 1 (.t 22) (.t 25)⟩,
      ⟨some 27, none, .load none (.t 26)⟩,
      ⟨some 8, none, .mov false (.t 27)⟩] [0, 1, 4, 7, 8, 13]) <|
    .seq (.seq (.reg [⟨some 28, none, .mov false (.t 7)⟩,
      ⟨some 29, none, .bin .i .eql (.t 28) (.c (.d (.int .i64 9)))⟩,
      ⟨some 30, none, .mov false (.t 29)⟩,
      ⟨some 31, some (30, true), .mov false (.t 8)⟩,
      ⟨some 32, some (30, true), .bin .i .gtr (.t 31) (.c (.d (.int .u8 1)))⟩,
      ⟨some 33, none, .pick (.t 30) (.t 32) (.c (.d (.bool false)))⟩] [0, 1, 4, 7, 8, 13, 33]) <|
    .cond (.t 33)
      (.seq (.reg [⟨some 4, none, .mov false (.c (.d (.int .u64 0)))⟩,
        ⟨some 5, none, .mov false (.c (.d (.int .i64 0)))⟩,
        ⟨some 6, none, .mov false (.c (.d (.int .i64 4)))⟩] [4, 5, 6]) <|
      .ret)
      (.skip)) <|
    .seq (.reg [⟨some 34, none, .mov false (.t 4)⟩,
      ⟨some 35, none, .mov false (.t 8)⟩,
      ⟨some 36, none, .bin .i .and (.t 35) (.c (.d (.int .u8 127)))⟩,
      ⟨some 37, none, .cint .u64 (.t 36)⟩,
      ⟨some 38, none, .mov false (.t 7)⟩,
      ⟨some 39, none, .bin .i .mul (.c (.d (.int .i64 7))) (.t 38)⟩,
      ⟨some 40, none, .bin .i .shl (.t 37) (.t 39)⟩,
      ⟨some 41, none, .bin .i .or (.t 34) (.t 40)⟩,
      ⟨some 4, none, .mov false (.t 41)⟩] [0, 1, 4, 7, 8, 13]) <|
    .seq (.reg [⟨some 42, none, .mov false (.t 8)⟩,
      ⟨some 43, none, .bin .i .lss (.t 42) (.c (.d (.int .u8 128)))⟩] [0, 1, 4, 7, 13, 43]) <|
    .cond (.t 43)
      (.seq (.reg [⟨some 44, none, .mov false (.t 4)⟩,
        ⟨some 45, none, .mov false (.t 1)⟩,
        ⟨some 46, none, .mov false (.t 7)⟩,
        ⟨some 47, none, .bin .i .add (.t 45) (.t 46)⟩,
        ⟨some 48, none, .bin .i .add (.t 47) (.c (.d (.int .i64 1)))⟩,
        ⟨some 4, none, .mov false (.t 44)⟩,
        ⟨some 5, none, .mov false (.t 48)⟩,
        ⟨some 6, none, .mov false (.c (.d (.int .i64 0)))⟩] [4, 5, 6]) <|
      .ret)
      (.skip)) <|
    .reg [⟨some 49, none, .bin .i .add (.t 13) (.c (.d (.int .i64 1)))⟩,
      ⟨some 13, none, .mov false (.t 49)⟩] [0, 1, 4, 13]
def b_wire_GetVarint_15 : SC :=
  .seq (.seq (.reg [⟨some 9, none, .mov false (.t 0)⟩,
      ⟨some 10, none, .mov false (.t 1)⟩,
      ⟨some 11, none, .call 56 [(false, .t 9), (false, .t 10)]⟩,
      ⟨some 12, none, .not (.t 11)⟩] [0, 1, 4, 12]) <|
    .cond (.t 12)
      (.seq (.reg [⟨some 4, none, .mov false (.c (.d (.int .u64 0)))⟩,
        ⟨some 5, none, .mov false (.c (.d (.int .i64 0)))⟩,
        ⟨some 6, none, .mov false (.c (.d (.int .i64 18)))⟩] [4, 5, 6]) <|
      .ret)
      (.skip)) <|
    .seq (.label 0) <|
    .seq (.seq (.reg [⟨some 13, none, .mov false (.c (.d (.int .i64 0)))⟩] [0, 1, 4, 13]) <|
    .block 0 <| .loop l_wire_GetVarint_1) <|
    .seq (.reg [⟨some 4, none, .mov false (.c (.d (.int .u64 0)))⟩,
      ⟨some 5, none, .mov false (.c (.d (.int .i64 0)))⟩,
      ⟨some 6, none, .mov false (.c (.d (.int .i64 3)))⟩] [4, 5, 6]) <|
    .ret
def n_wire_GetVarint : Nat := 32
def f_wire_GetVarint : SFunc where
  np := 2
  res := [.slot 4, .slot 5, .slot 6]
  body := .seq (.reg [⟨some 4, none, .mov false (.c (.d (.int .u64 0)))⟩,
      ⟨some 5, none, .mov false (.c (.d (.int .i64 0)))⟩,
      ⟨some 6, none, .mov false (.c (.d (.int .i64 0)))⟩] [0, 1, 4]) <|
    .scp b_wire_GetVarint_15
/- cartouche/wire.ZagZig -/
def n_wire_ZagZig : Nat := 33
def f_wire_ZagZig : SFunc where
  np := 1
  res := [.slot 2]
  body := .seq (.reg [⟨some 2, none, .mov false (.c (.d (.int .i64 0)))⟩] [0]) <|
    .seq (.reg [⟨some 3, none, .mov false (.t 0)⟩,
      ⟨some 4, none, .bin .i .shr (.t 3) (.c (.d (.int .u64 1)))⟩,
      ⟨some 5, none, .cint .i64 (.t 4)⟩,
      ⟨some 6, none, .mov false (.t 0)⟩,
      ⟨some 7, none, .bin .i .and (.t 6) (.c (.d (.int .u64 1)))⟩,
      ⟨some 8, none, .cint .i64 (.t 7)⟩,
      ⟨some 9, none, .neg (.t 8)⟩,
      ⟨some 10, none, .bin .i .xor (.t 5) (.t 9)⟩,
      ⟨some 2, none, .mov false (.t 10)⟩] [2]) <|
    .ret
/- strconv.FormatBool -/
def n_strconv_FormatBool : Nat := 34
def f_strconv_FormatBool : SFunc where
  np := 1
  res := [.slot 2]
  body := .seq (.reg [⟨some 2, none, .mov false (.c (.d (.str [])))⟩] [0]) <|
    .seq (.reg [⟨some 3, none, .mov false (.t 0)⟩,
      ⟨some 4, none, .call 57 [(false, .t 3)]⟩,
      ⟨some 2, none, .mov false (.t 4)⟩] [2]) <|
    .ret
/- cartouche/scalar.digits -/
def n_scalar_digits : Nat := 35
def f_scalar_digits : SFunc where
  np := 2
  res := [.slot 4]
  body := .seq (.reg [⟨some 4, none, .mov false (.c (.d (.str [])))⟩] [0, 1]) <|
    .seq (.reg [⟨some 6, none, .mov false (.t 0)⟩,
      ⟨some 7, none, .call 39 [(false, .t 6), (false, .c (.d (.int .i64 16)))]⟩,
      ⟨some 5, none, .mov false (.t 7)⟩] [1, 5]) <|
    .seq (.reg [⟨some 8, none, .mov false (.t 1)⟩,
      ⟨some 9, none, .mov false (.t 5)⟩,
      ⟨some 10, none, .len true (.t 9)⟩,
      ⟨some 11, none, .bin .i .sub (.t 8) (.t 10)⟩,
      ⟨some 12, none, .call 58 [(false, .c (.d (.str [48]))), (false, .t 11)]⟩,
      ⟨some 13, none, .mov false (.t 5)⟩,
      ⟨some 14, none, .bin .s .add (.t 12) (.t 13)⟩,
      ⟨some 4, none, .mov false (.t 14)⟩] [4]) <|
    .ret
/- cartouche/quote.Quote -/
def l_quote_Quote_1 : SC :=
  .seq (.reg [⟨some 15, none, .bin .i .lss (.t 14) (.t 13)⟩] [3, 12, 13, 14, 15]) <|
    .seq (.cond (.t 15)
      (.skip)
      (.exit 0)) <|
    .seq (.block 1 <| .seq (.reg [⟨some 16, none, .iaddr 1 (.t 12) (.t 14)⟩,
      ⟨some 17, none, .load none (.t 16)⟩,
      ⟨some 5, none, .mov false (.t 17)⟩] [3, 5, 12, 13, 14]) <|
    .block 2 <| .seq (.reg [⟨some 23, none, .mov false (.t 5)⟩,
      ⟨some 24, none, .bin .i .eql (.t 23) (.c (.d (.int .u8 34)))⟩,
      ⟨some 25, none, .mov false (.t 24)⟩,
      ⟨some 26, some (25, false), .mov false (.t 5)⟩,
      ⟨some 27, some (25, false), .bin .i .eql (.t 26) (.c (.d (.int .u8 92)))⟩,
      ⟨some 28, none, .pick (.t 25) (.c (.d (.bool true))) (.t 27)⟩,
      ⟨some 22, none, .mov false (.t 28)⟩] [3, 5, 12, 13, 14, 22]) <|
    .cond (.t 22)
      (.reg [⟨some 29, none, .mov true (.t 3)⟩,
        ⟨some 30, none, .mov false (.t 5)⟩,
        ⟨some 31, none, .mk 1 [.c (.d (.int .u8 92)), .t 30]⟩,
        ⟨some 32, none, .app false 1 1 (.t 29) (.t 31)⟩,
        ⟨some 3, none, .mov true (.t 32)⟩] [3, 12, 13, 14])
      (.seq (.reg [⟨some 34, none, .mov false (.t 5)⟩,
        ⟨some 35, none, .bin .i .eql (.t 34) (.c (.d (.int .u8 10)))⟩,
        ⟨some 33, none, .mov false (.t 35)⟩] [3, 5, 12, 13, 14, 33]) <|
      .cond (.t 33)
        (.reg [⟨some 36, none, .mov true (.t 3)⟩,
          ⟨some 37, none, .mk 1 [.c (.d (.int .u8 92)), .c (.d (.int .u8 110))]⟩,
          ⟨some 38, none, .app false 1 1 (.t 36) (.t 37)⟩,
          ⟨some 3, none, .mov true (.t 38)⟩] [3, 12, 13, 14])
        (.seq (.reg [⟨some 40, none, .mov false (.t 5)⟩,
          ⟨some 41, none, .bin .i .eql (.t 40) (.c (.d (.int .u8 9)))⟩,
          ⟨some 39, none, .mov false (.t 41)⟩] [3, 5, 12, 13, 14, 39]) <|
        .cond (.t 39)
          (.reg [⟨some 42, none, .mov true (.t 3)⟩,
            ⟨some 43, none, .mk 1 [.c (.d (.int .u8 92)), .c (.d (.int .u8 116))]⟩,
            ⟨some 44, none, .app false 1 1 (.t 42) (.t 43)⟩,
            ⟨some 3, none, .mov true (.t 44)⟩] [3, 12, 13, 14])
          (.seq (.reg [⟨some 46, none, .mov false (.t 5)⟩,
            ⟨some 47, none, .bin .i .eql (.t 46) (.c (.d (.int .u8 13)))⟩,
            ⟨some 45, none, .mov false (.t 47)⟩] [3, 5, 12, 13, 14, 45]) <|
          .cond (.t 45)
            (.reg [⟨some 48, none, .mov true (.t 3)⟩,
              ⟨some 49, none, .mk 1 [.c (.d (.int .u8 92)), .c (.d (.int .u8 114))]⟩,
              ⟨some 50, none, .app false 1 1 (.t 48) (.t 49)⟩,
              ⟨some 3, none, .mov true (.t 50)⟩] [3, 12, 13, 14])
            (.seq (.reg [⟨some 52, none, .mov false (.t 5)⟩,
              ⟨some 53, none, .bin .i .lss (.t 52) (.c (.d (.int .u8 32)))⟩,
              ⟨some 54, none, .mov false (.t 53)⟩,
              ⟨some 55, some (54, false), .mov false (.t 5)⟩,
              ⟨some 56, some (54, false), .bin .i .gtr (.t 55) (.c (.d (.int .u8 126)))⟩,
              ⟨some 57, none, .pick (.t 54) (.c (.d (.bool true))) (.t 56)⟩,
              ⟨some 51, none, .mov false (.t 57)⟩] [3, 5, 12, 13, 14, 51]) <|
            .cond (.t 51)
              (.reg [⟨some 58, none, .mov true (.t 3)⟩,
                ⟨some 59, none, .mov false (.t 5)⟩,
                ⟨some 60, none, .bin .i .shr (.t 59) (.c (.d (.int .u64 4)))⟩,
                ⟨some 61, none, .sidx (.c (.d (.str [48, 49, 50, 51, 52, 53, 54, 55, 56, 57, 97, 98, 99, 100, 101, 102]))) (.t 60)⟩,
                ⟨some 62, none, .mov false (.t 5)⟩,
                ⟨some 63, none, .bin .i .and (.t 62) (.c (.d (.int .u8 15)))⟩,
                ⟨some 64, none, .sidx (.c (.d (.str [48, 49, 50, 51, 52, 53, 54, 55, 56, 57, 97, 98, 99, 100, 101, 102]))) (.t 63)⟩,
                ⟨some 65, none, .mk 1 [.c (.d (.int .u8 92)), .c (.d (.int .u8 120)), .t 61, .t 64]⟩,
                ⟨some 66, none, .app false 1 1 (.t 58) (.t 65)⟩,
                ⟨some 3, none, .mov true (.t 66)⟩] [3, 12, 13, 14])
              (.reg [⟨some 18, none, .mov true (.t 3)⟩,
                ⟨some 19, none, .mov false (.t 5)⟩,
                ⟨some 20, none, .mk 1 [.t 19]⟩,
                ⟨some 21, none, .app false 1 1 (.t 18) (.t 20)⟩,
                ⟨some 3, none, .mov true (.t 21)⟩] [3, 12, 13, 14])))))) <|
    .reg [⟨some 67, none, .bin .i .add (.t 14) (.c (.d (.int .i64 1)))⟩,
      ⟨some 14, none, .mov false (.t 67)⟩] [3, 12, 13, 14]
def n_quote_Quote : Nat := 36
def f_quote_Quote : SFunc where
  np := 1
  res := [.slot 2]
  body := .seq (.reg [⟨some 2, none, .mov false (.c (.d (.str [])))⟩] [0]) <|
    .seq (.reg [⟨some 6, none, .mov false (.t 0)⟩,
      ⟨some 7, none, .len false (.t 6)⟩,
      ⟨some 8, none, .bin .i .add (.t 7) (.c (.d (.int .i64 2)))⟩,
      ⟨some 9, none, .make (.int .u8 0) 1 (.c (.d (.int .i64 0))) (.t 8)⟩,
      ⟨some 10, none, .mk 1 [.c (.d (.int .u8 34))]⟩,
      ⟨some 11, none, .app false 1 1 (.t 9) (.t 10)⟩,
      ⟨some 3, none, .mov true (.t 11)⟩] [0, 3]) <|
    .seq (.seq (.reg [⟨some 12, none, .mov true (.t 0)⟩,
      ⟨some 13, none, .len false (.t 12)⟩,
      ⟨some 14, none, .mov false (.c (.d (.int .i64 0)))⟩] [3, 12, 13, 14]) <|
    .block 0 <| .loop l_quote_Quote_1) <|
    .seq (.reg [⟨some 68, none, .mov true (.t 3)⟩,
      ⟨some 69, none, .mk 1 [.c (.d (.int .u8 34))]⟩,
      ⟨some 70, none, .app false 1 1 (.t 68) (.t 69)⟩,
      ⟨some 71, none, .cstr (.t 70)⟩,
      ⟨some 2, none, .mov false (.t 71)⟩] [2]) <|
    .ret
/- cartouche/scalar.signed -/
def n_scalar_signed : Nat := 37
def f_scalar_signed : SFunc where
  np := 1
  res := [.slot 2]
  body := .seq (.reg [⟨some 2, none, .mov false (.c (.d (.bool false)))⟩] [0]) <|
    .seq (.seq (.reg [⟨some 3, none, .mov false (.t 0)⟩] [3]) <|
    .block 0 <| .seq (.seq (.reg [⟨some 5, none, .bin .i .eql (.t 3) (.c (.d (.int .i64 2)))⟩,
      ⟨some 4, none, .mov false (.t 5)⟩] [3, 4]) <|
    .cond (.t 4)
      (.skip)
      (.seq (.reg [⟨some 6, none, .bin .i .eql (.t 3) (.c (.d (.int .i64 3)))⟩,
        ⟨some 4, none, .mov false (.t 6)⟩] [3, 4]) <|
      .cond (.t 4)
        (.skip)
        (.seq (.reg [⟨some 7, none, .bin .i .eql (.t 3) (.c (.d (.int .i64 6)))⟩,
          ⟨some 4, none, .mov false (.t 7)⟩] [3, 4]) <|
        .cond (.t 4)
          (.skip)
          (.seq (.reg [⟨some 8, none, .bin .i .eql (.t 3) (.c (.d (.int .i64 7)))⟩,
            ⟨some 4, none, .mov false (.t 8)⟩] [3, 4]) <|
          .cond (.t 4)
            (.skip)
            (.seq (.reg [⟨some 9, none, .bin .i .eql (.t 3) (.c (.d (.int .i64 10)))⟩,
              ⟨some 4, none, .mov false (.t 9)⟩] [3, 4]) <|
            .cond (.t 4)
              (.skip)
              (.reg [⟨some 10, none, .bin .i .eql (.t 3) (.c (.d (.int .i64 11)))⟩,
                ⟨some 4, none, .mov false (.t 10)⟩] [4])))))) <|
    .cond (.t 4)
      (.seq (.reg [⟨some 2, none, .mov false (.c (.d (.bool true)))⟩] [2]) <|
      .ret)
      (.skip)) <|
    .seq (.reg [⟨some 2, none, .mov false (.c (.d (.bool false)))⟩] [2]) <|
    .ret
/- cartouche/scalar.pattern -/
def l_scalar_pattern_1 : SC :=
  .seq (.seq (.reg [⟨some 22, none, .mov false (.t 9)⟩,
      ⟨some 23, none, .mov false (.t 0)⟩,
      ⟨some 24, none, .len true (.t 23)⟩,
      ⟨some 25, none, .bin .i .lss (.t 22) (.t 24)⟩] [0, 8, 9, 25]) <|
    .cond (.t 25)
      (.skip)
      (.exit 0)) <|
    .seq (.block 1 <| .seq (.reg [⟨some 28, none, .mov false (.t 0)⟩,
      ⟨some 29, none, .mov false (.t 9)⟩,
      ⟨some 30, none, .sidx (.t 28) (.t 29)⟩,
      ⟨some 31, none, .call 61 [(false, .t 30)]⟩,
      ⟨some 10, none, .mov false (.t 31)⟩] [0, 8, 9, 10]) <|
    .seq (.seq (.reg [⟨some 32, none, .mov false (.t 10)⟩,
      ⟨some 33, none, .bin .i .lss (.t 32) (.c (.d (.int .i64 0)))⟩] [0, 8, 9, 10, 33]) <|
    .cond (.t 33)
      (.seq (.reg [⟨some 6, none, .mov false (.c (.d (.int .u64 0)))⟩,
        ⟨some 7, none, .mov false (.c (.d (.int .i64 11)))⟩] [6, 7]) <|
      .ret)
      (.skip)) <|
    .reg [⟨some 34, none, .mov false (.t 8)⟩,
      ⟨some 35, none, .bin .i .shl (.t 34) (.c (.d (.int .u64 4)))⟩,
      ⟨some 36, none, .mov false (.t 10)⟩,
      ⟨some 37, none, .cint .u64 (.t 36)⟩,
      ⟨some 38, none, .bin .i .or (.t 35) (.t 37)⟩,
      ⟨some 8, none, .mov false (.t 38)⟩] [0, 8, 9]) <|
    .reg [⟨some 26, none, .mov false (.t 9)⟩,
      ⟨some 27, none, .bin .i .add (.t 26) (.c (.d (.int .i64 1)))⟩,
      ⟨some 9, none, .mov false (.t 27)⟩] [0, 8, 9]
def n_scalar_pattern : Nat := 40
def f_scalar_pattern : SFunc where
  np := 3
  res := [.slot 6, .slot 7]
  body := .seq (.reg [⟨some 6, none, .mov false (.c (.d (.int .u64 0)))⟩,
      ⟨some 7, none, .mov false (.c (.d (.int .i64 0)))⟩] [0, 1, 2]) <|
    .seq (.seq (.reg [⟨some 11, none, .mov false (.t 0)⟩,
      ⟨some 12, none, .len true (.t 11)⟩,
      ⟨some 13, none, .mov false (.t 2)⟩,
      ⟨some 14, none, .bin .i .add (.t 13) (.c (.d (.int .i64 1)))⟩,
      ⟨some 15, none, .bin .i .neq (.t 12) (.t 14)⟩,
      ⟨some 16, none, .mov false (.t 15)⟩,
      ⟨some 17, some (16, false), .mov false (.t 0)⟩,
      ⟨some 18, some (16, false), .sidx (.t 17) (.c (.d (.int .i64 0)))⟩,
      ⟨some 19, some (16, false), .mov false (.t 1)⟩,
      ⟨some 20, some (16, false), .bin .i .neq (.t 18) (.t 19)⟩,
      ⟨some 21, none, .pick (.t 16) (.c (.d (.bool true))) (.t 20)⟩] [0, 21]) <|
    .cond (.t 21)
      (.seq (.reg [⟨some 6, none, .mov false (.c (.d (.int .u64 0)))⟩,
        ⟨some 7, none, .mov false (.c (.d (.int .i64 11)))⟩] [6, 7]) <|
      .ret)
      (.skip)) <|
    .seq (.reg [⟨some 8, none, .mov false (.c (.d (.int .u64 0)))⟩] [0, 8]) <|
    .seq (.seq (.reg [⟨some 9, none, .mov false (.c (.d (.int .i64 1)))⟩] [0, 8, 9]) <|
    .block 0 <| .loop l_scalar_pattern_1) <|
    .seq (.reg [⟨some 39, none, .mov false (.t 8)⟩,
      ⟨some 6, none, .mov false (.t 39)⟩,
      ⟨some 7, none, .mov false (.c (.d (.int .i64 0)))⟩] [6, 7]) <|
    .ret
/- cartouche/quote.Unquote -/
def l_quote_Unquote_1 : SC :=
  .seq (.seq (.reg [⟨some 34, none, .mov false (.t 5)⟩,
      ⟨some 35, none, .mov false (.t 0)⟩,
      ⟨some 36, none, .len true (.t 35)⟩,
      ⟨some 37, none, .bin .i .lss (.t 34) (.t 36)⟩] [0, 4, 5, 37]) <|
    .cond (.t 37)
      (.skip)
      (.exit 0)) <|
    .seq (.block 1 <| .seq (.reg [⟨some 40, none, .mov false (.t 0)⟩,
      ⟨some 41, none, .mov false (.t 5)⟩,
      ⟨some 42, none, .sidx (.t 40) (.t 41)⟩,
      ⟨some 6, none, .mov false (.t 42)⟩] [0, 4, 5, 6]) <|
    .seq (.block 2 <| .seq (.reg [⟨some 44, none, .mov false (.t 6)⟩,
      ⟨some 45, none, .bin .i .eql (.t 44) (.c (.d (.int .u8 34)))⟩,
      ⟨some 46, none, .mov false (.t 45)⟩,
      ⟨some 47, some (46, false), .mov false (.t 6)⟩,
      ⟨some 48, some (46, false), .bin .i .eql (.t 47) (.c (.d (.int .u8 10)))⟩,
      ⟨some 49, none, .pick (.t 46) (.c (.d (.bool true))) (.t 48)⟩,
      ⟨some 50, none, .mov false (.t 49)⟩,
      ⟨some 51, some (50, false), .mov false (.t 6)⟩,
      ⟨some 52, some (50, false), .bin .i .eql (.t 51) (.c (.d (.int .u8 92)))⟩,
      ⟨some 53, some (50, false), .mov false (.t 52)⟩,
      ⟨some 54, some (53, true), .mov false (.t 5)⟩,
      ⟨some 55, some (53, true), .bin .i .add (.t 54) (.c (.d (.int .i64 1)))⟩,
      ⟨some 56, some (53, true), .mov false (.t 0)⟩,
      ⟨some 57, some (53, true), .len true (.t 56)⟩,
      ⟨some 58, some (53, true), .bin .i .eql (.t 55) (.t 57)⟩,
      ⟨some 59, some (50, false), .pick (.t 53) (.t 58) (.c (.d (.bool false)))⟩,
      ⟨some 60, none, .pick (.t 50) (.c (.d (.bool true))) (.t 59)⟩,
      ⟨some 43, none, .mov false (.t 60)⟩] [0, 4, 5, 6, 43]) <|
    .cond (.t 43)
      (.seq (.reg [⟨some 2, none, .mov true (.c (.own 1 []))⟩,
        ⟨some 3, none, .mov false (.c (.d (.int .i64 11)))⟩] [2, 3]) <|
      .ret)
      (.seq (.reg [⟨some 62, none, .mov false (.t 6)⟩,
        ⟨some 63, none, .bin .i .neq (.t 62) (.c (.d (.int .u8 92)))⟩,
        ⟨some 61, none, .mov false (.t 63)⟩] [0, 4, 5, 6, 61]) <|
      .cond (.t 61)
        (.seq (.reg [⟨some 64, none, .mov true (.t 4)⟩,
          ⟨some 65, none, .mov false (.t 6)⟩,
          ⟨some 66, none, .mk 1 [.t 65]⟩,
          ⟨some 67, none, .app false 1 1 (.t 64) (.t 66)⟩,
          ⟨some 4, none, .mov true (.t 67)⟩] [0, 4, 5]) <|
        .exit 1)
        (.skip))) <|
    .seq (.reg [⟨some 68, none, .mov false (.t 5)⟩,
      ⟨some 69, none, .bin .i .add (.t 68) (.c (.d (.int .i64 1)))⟩,
      ⟨some 5, none, .mov false (.t 69)⟩] [0, 4, 5]) <|
    .seq (.reg [⟨some 70, none, .mov false (.t 0)⟩,
      ⟨some 71, none, .mov false (.t 5)⟩,
      ⟨some 72, none, .sidx (.t 70) (.t 71)⟩] [0, 4, 5, 72]) <|
    .block 3 <| .seq (.seq (.reg [⟨some 74, none, .bin .i .eql (.t 72) (.c (.d (.int .u8 34)))⟩,
      ⟨some 73, none, .mov false (.t 74)⟩] [0, 4, 5, 72, 73]) <|
    .cond (.t 73)
      (.skip)
      (.reg [⟨some 75, none, .bin .i .eql (.t 72) (.c (.d (.int .u8 92)))⟩,
        ⟨some 73, none, .mov false (.t 75)⟩] [0, 4, 5, 72, 73])) <|
    .cond (.t 73)
      (.reg [⟨some 76, none, .mov true (.t 4)⟩,
        ⟨some 77, none, .mov false (.t 0)⟩,
        ⟨some 78, none, .mov false (.t 5)⟩,
        ⟨some 79, none, .sidx (.t 77) (.t 78)⟩,
        ⟨some 80, none, .mk 1 [.t 79]⟩,
        ⟨some 81, none, .app false 1 1 (.t 76) (.t 80)⟩,
        ⟨some 4, none, .mov true (.t 81)⟩] [0, 4, 5])
      (.seq (.reg [⟨some 83, none, .bin .i .eql (.t 72) (.c (.d (.int .u8 110)))⟩,
        ⟨some 82, none, .mov false (.t 83)⟩] [0, 4, 5, 72, 82]) <|
      .cond (.t 82)
        (.reg [⟨some 84, none, .mov true (.t 4)⟩,
          ⟨some 85, none, .mk 1 [.c (.d (.int .u8 10))]⟩,
          ⟨some 86, none, .app false 1 1 (.t 84) (.t 85)⟩,
          ⟨some 4, none, .mov true (.t 86)⟩] [0, 4, 5])
        (.seq (.reg [⟨some 88, none, .bin .i .eql (.t 72) (.c (.d (.int .u8 116)))⟩,
          ⟨some 87, none, .mov false (.t 88)⟩] [0, 4, 5, 72, 87]) <|
        .cond (.t 87)
          (.reg [⟨some 89, none, .mov true (.t 4)⟩,
            ⟨some 90, none, .mk 1 [.c (.d (.int .u8 9))]⟩,
            ⟨some 91, none, .app false 1 1 (.t 89) (.t 90)⟩,
            ⟨some 4, none, .mov true (.t 91)⟩] [0, 4, 5])
          (.seq (.reg [⟨some 93, none, .bin .i .eql (.t 72) (.c (.d (.int .u8 114)))⟩,
            ⟨some 92, none, .mov false (.t 93)⟩] [0, 4, 5, 72, 92]) <|
          .cond (.t 92)
            (.reg [⟨some 94, none, .mov true (.t 4)⟩,
              ⟨some 95, none, .mk 1 [.c (.d (.int .u8 13))]⟩,
              ⟨some 96, none, .app false 1 1 (.t 94) (.t 95)⟩,
              ⟨some 4, none, .mov true (.t 96)⟩] [0, 4, 5])
            (.seq (.reg [⟨some 98, none, .bin .i .eql (.t 72) (.c (.d (.int .u8 120)))⟩,
              ⟨some 97, none, .mov false (.t 98)⟩] [0, 4, 5, 97]) <|
            .cond (.t 97)
              (.seq (.seq (.reg [⟨some 99, none, .mov false (.t 0)⟩,
                ⟨some 100, none, .len true (.t 99)⟩,
                ⟨some 101, none, .mov false (.t 5)⟩,
                ⟨some 102, none, .bin .i .sub (.t 100) (.t 101)⟩,
                ⟨some 103, none, .bin .i .lss (.t 102) (.c (.d (.int .i64 3)))⟩,
                ⟨some 104, none, .mov false (.t 103)⟩,
                ⟨some 105, some (104, false), .mov false (.t 0)⟩,
                ⟨some 106, some (104, false), .mov false (.t 5)⟩,
                ⟨some 107, some (104, false), .bin .i .add (.t 106) (.c (.d (.int .i64 1)))⟩,
                ⟨some 108, some (104, false), .sidx (.t 105) (.t 107)⟩,
                ⟨some 109, some (104, false), .call 61 [(false, .t 108)]⟩,
                ⟨some 110, some (104, false), .bin .i .lss (.t 109) (.c (.d (.int .i64 0)))⟩,
                ⟨some 111, none, .pick (.t 104) (.c (.d (.bool true))) (.t 110)⟩,
                ⟨some 112, none, .mov false (.t 111)⟩,
                ⟨some 113, some (112, false), .mov false (.t 0)⟩,
                ⟨some 114, some (112, false), .mov false (.t 5)⟩,
                ⟨some 115, some (112, false), .bin .i .add (.t 114) (.c (.d (.int .i64 2)))⟩,
                ⟨some 116, some (112, false), .sidx (.t 113) (.t 115)⟩,
                ⟨some 117, some (112, false), .call 61 [(false, .t 116)]⟩,
                ⟨some 118, some (112, false), .bin .i .lss (.t 117) (.c (.d (.int .i64 0)))⟩,
                ⟨some 119, none, .pick (.t 112) (.c (.d (.bool true))) (.t 118)⟩] [0, 4, 5, 119]) <|
              .cond (.t 119)
                (.seq (.reg [⟨some 2, none, .mov true (.c (.own 1 []))⟩,
                  ⟨some 3, none, .mov false (.c (.d (.int .i64 11)))⟩] [2, 3]) <|
                .ret)
                (.skip)) <|
              .seq (.reg [⟨some 120, none, .mov true (.t 4)⟩,
                ⟨some 121, none, .mov false (.t 0)⟩,
                ⟨some 122, none, .mov false (.t 5)⟩,
                ⟨some 123, none, .bin .i .add (.t 122) (.c (.d (.int .i64 1)))⟩,
                ⟨some 124, none, .sidx (.t 121) (.t 123)⟩,
                ⟨some 125, none, .call 61 [(false, .t 124)]⟩,
                ⟨some 126, none, .bin .i .shl (.t 125) (.c (.d (.int .u64 4)))⟩,
                ⟨some 127, none, .mov false (.t 0)⟩,
                ⟨some 128, none, .mov false (.t 5)⟩,
                ⟨some 129, none, .bin .i .add (.t 128) (.c (.d (.int .i64 2)))⟩,
                ⟨some 130, none, .sidx (.t 127) (.t 129)⟩,
                ⟨some 131, none, .call 61 [(false, .t 130)]⟩,
                ⟨some 132, none, .bin .i .or (.t 126) (.t 131)⟩,
                ⟨some 133, none, .cint .u8 (.t 132)⟩,
                ⟨some 134, none, .mk 1 [.t 133]⟩,
                ⟨some 135, none, .app false 1 1 (.t 120) (.t 134)⟩,
                ⟨some 4, none, .mov true (.t 135)⟩] [0, 4, 5]) <|
              .reg [⟨some 136, none, .mov false (.t 5)⟩,
                ⟨some 137, none, .bin .i .add (.t 136) (.c (.d (.int .i64 2)))⟩,
                ⟨some 5, none, .mov false (.t 137)⟩] [0, 4, 5])
              (.seq (.reg [⟨some 2, none, .mov true (.c (.own 1 []))⟩,
                ⟨some 3, none, .mov false (.c (.d (.int .i64 11)))⟩] [2, 3]) <|
              .ret)))))) <|
    .reg [⟨some 38, none, .mov false (.t 5)⟩,
      ⟨some 39, none, .bin .i .add (.t 38) (.c (.d (.int .i64 1)))⟩,
      ⟨some 5, none, .mov false (.t 39)⟩] [0, 4, 5]
def n_quote_Unquote : Nat := 41
def f_quote_Unquote : SFunc where
  np := 1
  res := [.slot 2, .slot 3]
  body := .seq (.reg [⟨some 2, none, .mov true (.c (.own 1 []))⟩,
      ⟨some 3, none, .mov false (.c (.d (.int .i64 0)))⟩] [0]) <|
    .seq (.seq (.reg [⟨some 7, none, .mov false (.t 0)⟩,
      ⟨some 8, none, .len true (.t 7)⟩,
      ⟨some 9, none, .bin .i .gtr (.t 8) (.c (.d (.int .i64 65536)))⟩] [0, 9]) <|
    .cond (.t 9)
      (.seq (.reg [⟨some 2, none, .mov true (.c (.own 1 []))⟩,
        ⟨some 3, none, .mov false (.c (.d (.int .i64 1)))⟩] [2, 3]) <|
      .ret)
      (.skip)) <|
    .seq (.seq (.reg [⟨some 10, none, .mov false (.t 0)⟩,
      ⟨some 11, none, .len true (.t 10)⟩,
      ⟨some 12, none, .bin .i .lss (.t 11) (.c (.d (.int .i64 2)))⟩,
      ⟨some 13, none, .mov false (.t 12)⟩,
      ⟨some 14, some (13, false), .mov false (.t 0)⟩,
      ⟨some 15, some (13, false), .sidx (.t 14) (.c (.d (.int .i64 0)))⟩,
      ⟨some 16, some (13, false), .bin .i .neq (.t 15) (.c (.d (.int .u8 34)))⟩,
      ⟨some 17, none, .pick (.t 13) (.c (.d (.bool true))) (.t 16)⟩,
      ⟨some 18, none, .mov false (.t 17)⟩,
      ⟨some 19, some (18, false), .mov false (.t 0)⟩,
      ⟨some 20, some (18, false), .mov false (.t 0)⟩,
      ⟨some 21, some (18, false), .len true (.t 20)⟩,
      ⟨some 22, some (18, false), .bin .i .sub (.t 21) (.c (.d (.int .i64 1)))⟩,
      ⟨some 23, some (18, false), .sidx (.t 19) (.t 22)⟩,
      ⟨some 24, some (18, false), .bin .i .neq (.t 23) (.c (.d (.int .u8 34)))⟩,
      ⟨some 25, none, .pick (.t 18) (.c (.d (.bool true))) (.t 24)⟩] [0, 25]) <|
    .cond (.t 25)
      (.seq (.reg [⟨some 2, none, .mov true (.c (.own 1 []))⟩,
        ⟨some 3, none, .mov false (.c (.d (.int .i64 11)))⟩] [2, 3]) <|
      .ret)
      (.skip)) <|
    .seq (.reg [⟨some 26, none, .mov false (.t 0)⟩,
      ⟨some 27, none, .mov false (.t 0)⟩,
      ⟨some 28, none, .len true (.t 27)⟩,
      ⟨some 29, none, .bin .i .sub (.t 28) (.c (.d (.int .i64 1)))⟩,
      ⟨some 30, none, .slcs (.t 26) (some (.c (.d (.int .i64 1)))) (some (.t 29))⟩,
      ⟨some 0, none, .mov false (.t 30)⟩] [0]) <|
    .seq (.reg [⟨some 31, none, .mov false (.t 0)⟩,
      ⟨some 32, none, .len true (.t 31)⟩,
      ⟨some 33, none, .make (.int .u8 0) 1 (.c (.d (.int .i64 0))) (.t 32)⟩,
      ⟨some 4, none, .mov true (.t 33)⟩] [0, 4]) <|
    .seq (.seq (.reg [⟨some 5, none, .mov false (.c (.d (.int .i64 0)))⟩] [0, 4, 5]) <|
    .block 0 <| .loop l_quote_Unquote_1) <|
    .seq (.reg [⟨some 138, none, .mov false (.t 4)⟩,
      ⟨some 139, none, .len false (.t 138)⟩,
      ⟨some 140, none, .make (.int .u8 0) 1 (.c (.d (.int .i64 0))) (.t 139)⟩,
      ⟨some 141, none, .mov true (.t 4)⟩,
      ⟨some 142, none, .app false 1 1 (.t 140) (.t 141)⟩,
      ⟨some 2, none, .mov true (.t 142)⟩,
      ⟨some 3, none, .mov false (.c (.d (.int .i64 0)))⟩] [2, 3]) <|
    .ret
/- cartouche/scalar.whole -/
def l_scalar_whole_10 : SC :=
  .seq (.reg [⟨some 21, none, .bin .i .lss (.t 20) (.t 19)⟩] [0, 1, 6, 19, 20, 21]) <|
    .seq (.cond (.t 21)
      (.skip)
      (.exit 0)) <|
    .seq (.block 1 <| .seq (.reg [⟨some 22, none, .mov false (.t 20)⟩,
      ⟨some 7, none, .mov false (.t 22)⟩] [0, 1, 6, 7, 19, 20]) <|
    .seq (.reg [⟨some 23, none, .mov false (.t 0)⟩,
      ⟨some 24, none, .mov false (.t 7)⟩,
      ⟨some 25, none, .sidx (.t 23) (.t 24)⟩,
      ⟨some 26, none, .bin .i .lss (.t 25) (.c (.d (.int .u8 48)))⟩,
      ⟨some 27, none, .mov false (.t 26)⟩,
      ⟨some 28, some (27, false), .mov false (.t 0)⟩,
      ⟨some 29, some (27, false), .mov false (.t 7)⟩,
      ⟨some 30, some (27, false), .sidx (.t 28) (.t 29)⟩,
      ⟨some 31, some (27, false), .bin .i .gtr (.t 30) (.c (.d (.int .u8 57)))⟩,
      ⟨some 32, none, .pick (.t 27) (.c (.d (.bool true))) (.t 31)⟩] [0, 1, 6, 19, 20, 32]) <|
    .cond (.t 32)
      (.seq (.reg [⟨some 4, none, .mov false (.c (.d (.int .u64 0)))⟩,
        ⟨some 5, none, .mov false (.c (.d (.int .i64 11)))⟩] [4, 5]) <|
      .ret)
      (.skip)) <|
    .reg [⟨some 33, none, .bin .i .add (.t 20) (.c (.d (.int .i64 1)))⟩,
      ⟨some 20, none, .mov false (.t 33)⟩] [0, 1, 6, 19, 20]
def n_scalar_whole : Nat := 42
def f_scalar_whole : SFunc where
  np := 2
  res := [.slot 4, .slot 5]
  body := .seq (.reg [⟨some 4, none, .mov false (.c (.d (.int .u64 0)))⟩,
      ⟨some 5, none, .mov false (.c (.d (.int .i64 0)))⟩] [0, 1]) <|
    .seq (.reg [⟨some 6, none, .mov false (.c (.d (.bool false)))⟩] [0, 1, 6]) <|
    .seq (.seq (.reg [⟨some 10, none, .mov false (.t 1)⟩] [0, 1, 6, 10]) <|
    .cond (.t 10)
      (.reg [⟨some 12, none, .mov false (.t 0)⟩,
        ⟨some 13, none, .call 62 [(false, .t 12), (false, .c (.d (.str [45])))]⟩,
        ⟨some 11, none, .mov false (.t 13)⟩,
        ⟨some 14, none, .ext (.t 11) 0⟩,
        ⟨some 15, none, .ext (.t 11) 1⟩,
        ⟨some 0, none, .mov false (.t 14)⟩,
        ⟨some 6, none, .mov false (.t 15)⟩] [0, 1, 6])
      (.skip)) <|
    .seq (.seq (.reg [⟨some 16, none, .mov false (.t 0)⟩,
      ⟨some 17, none, .bin .s .eql (.t 16) (.c (.d (.str [])))⟩] [0, 1, 6, 17]) <|
    .cond (.t 17)
      (.seq (.reg [⟨some 4, none, .mov false (.c (.d (.int .u64 0)))⟩,
        ⟨some 5, none, .mov false (.c (.d (.int .i64 11)))⟩] [4, 5]) <|
      .ret)
      (.skip)) <|
    .seq (.seq (.reg [⟨some 18, none, .mov false (.t 0)⟩,
      ⟨some 19, none, .len true (.t 18)⟩,
      ⟨some 20, none, .mov false (.c (.d (.int .i64 0)))⟩] [0, 1, 6, 19, 20]) <|
    .block 0 <| .loop l_scalar_whole_10) <|
    .seq (.reg [⟨some 35, none, .mov false (.t 0)⟩,
      ⟨some 36, none, .call 63 [(false, .t 35), (false, .c (.d (.int .i64 10))), (false, .c (.d (.int .i64 64)))]⟩,
      ⟨some 34, none, .mov false (.t 36)⟩,
      ⟨some 37, none, .ext (.t 34) 0⟩,
      ⟨some 38, none, .ext (.t 34) 1⟩,
      ⟨some 8, none, .mov false (.t 37)⟩,
      ⟨some 9, none, .mov false (.t 38)⟩] [1, 6, 8, 9]) <|
    .seq (.block 2 <| .seq (.reg [⟨some 40, none, .mov false (.t 9)⟩,
      ⟨some 41, none, .bin .e .neq (.t 40) (.c (.d (.err false)))⟩,
      ⟨some 39, none, .mov false (.t 41)⟩] [1, 6, 8, 39]) <|
    .cond (.t 39)
      (.seq (.reg [⟨some 4, none, .mov false (.c (.d (.int .u64 0)))⟩,
        ⟨some 5, none, .mov false (.c (.d (.int .i64 7)))⟩] [4, 5]) <|
      .ret)
      (.seq (.reg [⟨some 43, none, .mov false (.t 1)⟩,
        ⟨some 44, none, .not (.t 43)⟩,
        ⟨some 42, none, .mov false (.t 44)⟩] [6, 8, 42]) <|
      .cond (.t 42)
        (.seq (.reg [⟨some 45, none, .mov false (.t 8)⟩,
          ⟨some 4, none, .mov false (.t 45)⟩,
          ⟨some 5, none, .mov false (.c (.d (.int .i64 0)))⟩] [4, 5]) <|
        .ret)
        (.seq (.reg [⟨some 47, none, .mov false (.t 6)⟩,
          ⟨some 48, none, .mov false (.t 47)⟩,
          ⟨some 49, some (48, true), .mov false (.t 8)⟩,
          ⟨some 50, some (48, true), .bin .i .leq (.t 49) (.c (.d (.int .u64 9223372036854775808)))⟩,
          ⟨some 51, none, .pick (.t 48) (.t 50) (.c (.d (.bool false)))⟩,
          ⟨some 46, none, .mov false (.t 51)⟩] [6, 8, 46]) <|
        .cond (.t 46)
          (.seq (.reg [⟨some 52, none, .mov false (.t 8)⟩,
            ⟨some 53, none, .neg (.t 52)⟩,
            ⟨some 4, none, .mov false (.t 53)⟩,
            ⟨some 5, none, .mov false (.c (.d (.int .i64 0)))⟩] [4, 5]) <|
          .ret)
          (.seq (.reg [⟨some 55, none, .mov false (.t 6)⟩,
            ⟨some 56, none, .not (.t 55)⟩,
            ⟨some 57, none, .mov false (.t 56)⟩,
            ⟨some 58, some (57, true), .mov false (.t 8)⟩,
            ⟨some 59, some (57, true), .bin .i .lss (.t 58) (.c (.d (.int .u64 9223372036854775808)))⟩,
            ⟨some 60, none, .pick (.t 57) (.t 59) (.c (.d (.bool false)))⟩,
            ⟨some 54, none, .mov false (.t 60)⟩] [8, 54]) <|
          .cond (.t 54)
            (.seq (.reg [⟨some 61, none, .mov false (.t 8)⟩,
              ⟨some 4, none, .mov false (.t 61)⟩,
              ⟨some 5, none, .mov false (.c (.d (.int .i64 0)))⟩] [4, 5]) <|
            .ret)
            (.skip))))) <|
    .seq (.reg [⟨some 4, none, .mov false (.c (.d (.int .u64 0)))⟩,
      ⟨some 5, none, .mov false (.c (.d (.int .i64 7)))⟩] [4, 5]) <|
    .ret
/- cartouche/cartoucheref3.Same -/
def n_ref3_Same : Nat := 43
def f_ref3_Same : SFunc where
  np := 2
  res := [.slot 4]
  body := .seq (.reg [⟨some 2, none, .box (.t 0)⟩,
      ⟨some 3, none, .box (.t 1)⟩,
      ⟨some 4, none, .mov false (.c (.d (.bool false)))⟩] [2, 3]) <|
    .seq (.reg [⟨some 5, none, .faddr 0 none (.t 2)⟩,
      ⟨some 6, none, .load none (.t 5)⟩,
      ⟨some 7, none, .faddr 0 none (.t 3)⟩,
      ⟨some 8, none, .load none (.t 7)⟩,
      ⟨some 9, none, .bin .i .eql (.t 6) (.t 8)⟩,
      ⟨some 10, none, .mov false (.t 9)⟩,
      ⟨some 11, some (10, true), .faddr 1 none (.t 2)⟩,
      ⟨some 12, some (10, true), .load none (.t 11)⟩,
      ⟨some 13, some (10, true), .cstr (.t 12)⟩,
      ⟨some 14, some (10, true), .faddr 1 none (.t 3)⟩,
      ⟨some 15, some (10, true), .load none (.t 14)⟩,
      ⟨some 16, some (10, true), .cstr (.t 15)⟩,
      ⟨some 17, some (10, true), .bin .s .eql (.t 13) (.t 16)⟩,
      ⟨some 18, none, .pick (.t 10) (.t 17) (.c (.d (.bool false)))⟩,
      ⟨some 19, none, .mov false (.t 18)⟩,
      ⟨some 20, some (19, true), .faddr 2 none (.t 2)⟩,
      ⟨some 21, some (19, true), .load none (.t 20)⟩,
      ⟨some 22, some (19, true), .len false (.t 21)⟩,
      ⟨some 23, some (19, true), .bin .i .eql (.t 22) (.c (.d (.int .i64 0)))⟩,
      ⟨some 24, none, .pick (.t 19) (.t 23) (.c (.d (.bool false)))⟩,
      ⟨some 25, none, .mov false (.t 24)⟩,
      ⟨some 26, some (25, true), .faddr 2 none (.t 3)⟩,
      ⟨some 27, some (25, true), .load none (.t 26)⟩,
      ⟨some 28, some (25, true), .len false (.t 27)⟩,
      ⟨some 29, some (25, true), .bin .i .eql (.t 28) (.c (.d (.int .i64 0)))⟩,
      ⟨some 30, none, .pick (.t 25) (.t 29) (.c (.d (.bool false)))⟩,
      ⟨some 4, none, .mov false (.t 30)⟩] [4]) <|
    .ret
/- cartouche/scalar.Fits -/
def n_scalar_Fits : Nat := 44
def f_scalar_Fits : SFunc where
  np := 2
  res := [.slot 4]
  body := .seq (.reg [⟨some 3, none, .box (.t 1)⟩,
      ⟨some 4, none, .mov false (.c (.d (.bool false)))⟩] [0, 3]) <|
    .seq (.block 0 <| .seq (.reg [⟨some 6, none, .mov false (.t 0)⟩,
      ⟨some 7, none, .call 28 [(false, .t 6)]⟩,
      ⟨some 8, none, .not (.t 7)⟩,
      ⟨some 9, none, .mov false (.t 8)⟩,
      ⟨some 10, some (9, false), .faddr 2 none (.t 3)⟩,
      ⟨some 11, some (9, false), .load none (.t 10)⟩,
      ⟨some 12, some (9, false), .len false (.t 11)⟩,
      ⟨some 13, some (9, false), .bin .i .gtr (.t 12) (.c (.d (.int .i64 0)))⟩,
      ⟨some 14, none, .pick (.t 9) (.c (.d (.bool true))) (.t 13)⟩,
      ⟨some 5, none, .mov false (.t 14)⟩] [0, 3, 5]) <|
    .cond (.t 5)
      (.seq (.reg [⟨some 4, none, .mov false (.c (.d (.bool false)))⟩] [4]) <|
      .ret)
      (.seq (.reg [⟨some 16, none, .mov false (.t 0)⟩,
        ⟨some 17, none, .call 14 [(false, .t 16)]⟩,
        ⟨some 15, none, .mov false (.t 17)⟩] [0, 3, 15]) <|
      .cond (.t 15)
        (.seq (.reg [⟨some 18, none, .faddr 1 none (.t 3)⟩,
          ⟨some 19, none, .load none (.t 18)⟩,
          ⟨some 20, none, .len false (.t 19)⟩,
          ⟨some 21, none, .bin .i .eql (.t 20) (.c (.d (.int .i64 0)))⟩,
          ⟨some 22, none, .mov false (.t 21)⟩,
          ⟨some 23, some (22, true), .mov false (.t 0)⟩,
          ⟨some 24, some (22, true), .faddr 0 none (.t 3)⟩,
          ⟨some 25, some (22, true), .load none (.t 24)⟩,
          ⟨some 26, some (22, true), .call 64 [(false, .t 23), (false, .t 25)]⟩,
          ⟨some 27, none, .pick (.t 22) (.t 26) (.c (.d (.bool false)))⟩,
          ⟨some 4, none, .mov false (.t 27)⟩] [4]) <|
        .ret)
        (.skip))) <|
    .seq (.reg [⟨some 28, none, .faddr 0 none (.t 3)⟩,
      ⟨some 29, none, .load none (.t 28)⟩,
      ⟨some 30, none, .bin .i .eql (.t 29) (.c (.d (.int .u64 0)))⟩,
      ⟨some 4, none, .mov false (.t 30)⟩] [4]) <|
    .ret
/- cmp.Compare[int64] -/
def n_cmp_Compare_int64_ : Nat := 46
def f_cmp_Compare_int64_ : SFunc where
  np := 2
  res := [.slot 4]
  body := .seq (.reg [⟨some 4, none, .mov false (.c (.d (.int .i64 0)))⟩] [0, 1]) <|
    .seq (.reg [⟨some 7, none, .mov false (.t 0)⟩,
      ⟨some 8, none, .call 66 [(false, .t 7)]⟩,
      ⟨some 5, none, .mov false (.t 8)⟩] [0, 1, 5]) <|
    .seq (.reg [⟨some 9, none, .mov false (.t 1)⟩,
      ⟨some 10, none, .call 66 [(false, .t 9)]⟩,
      ⟨some 6, none, .mov false (.t 10)⟩] [0, 1, 5, 6]) <|
    .seq (.seq (.reg [⟨some 11, none, .mov false (.t 5)⟩] [0, 1, 6, 11]) <|
    .cond (.t 11)
      (.seq (.seq (.reg [⟨some 12, none, .mov false (.t 6)⟩] [12]) <|
      .cond (.t 12)
        (.seq (.reg [⟨some 4, none, .mov false (.c (.d (.int .i64 0)))⟩] [4]) <|
        .ret)
        (.skip)) <|
      .seq (.reg [⟨some 4, none, .mov false (.c (.d (.int .i64 (-1))))⟩] [4]) <|
      .ret)
      (.skip)) <|
    .seq (.seq (.reg [⟨some 13, none, .mov false (.t 6)⟩] [0, 1, 13]) <|
    .cond (.t 13)
      (.seq (.reg [⟨some 4, none, .mov false (.c (.d (.int .i64 1)))⟩] [4]) <|
      .ret)
      (.skip)) <|
    .seq (.seq (.reg [⟨some 14, none, .mov false (.t 0)⟩,
      ⟨some 15, none, .mov false (.t 1)⟩,
      ⟨some 16, none, .bin .i .lss (.t 14) (.t 15)⟩] [0, 1, 16]) <|
    .cond (.t 16)
      (.seq (.reg [⟨some 4, none, .mov false (.c (.d (.int .i64 (-1))))⟩] [4]) <|
      .ret)
      (.skip)) <|
    .seq (.seq (.reg [⟨some 17, none, .mov false (.t 0)⟩,
      ⟨some 18, none, .mov false (.t 1)⟩,
      ⟨some 19, none, .bin .i .gtr (.t 17) (.t 18)⟩] [19]) <|
    .cond (.t 19)
      (.seq (.reg [⟨some 4, none, .mov false (.c (.d (.int .i64 1)))⟩] [4]) <|
      .ret)
      (.skip)) <|
    .seq (.reg [⟨some 4, none, .mov false (.c (.d (.int .i64 0)))⟩] [4]) <|
    .ret
/- cmp.Compare[uint64] -/
def n_cmp_Compare_uint64_ : Nat := 47
def f_cmp_Compare_uint64_ : SFunc where
  np := 2
  res := [.slot 4]
  body := .seq (.reg [⟨some 4, none, .mov false (.c (.d (.int .i64 0)))⟩] [0, 1]) <|
    .seq (.reg [⟨some 7, none, .mov false (.t 0)⟩,
      ⟨some 8, none, .call 67 [(false, .t 7)]⟩,
      ⟨some 5, none, .mov false (.t 8)⟩] [0, 1, 5]) <|
    .seq (.reg [⟨some 9, none, .mov false (.t 1)⟩,
      ⟨some 10, none, .call 67 [(false, .t 9)]⟩,
      ⟨some 6, none, .mov false (.t 10)⟩] [0, 1, 5, 6]) <|
    .seq (.seq (.reg [⟨some 11, none, .mov false (.t 5)⟩] [0, 1, 6, 11]) <|
    .cond (.t 11)
      (.seq (.seq (.reg [⟨some 12, none, .mov false (.t 6)⟩] [12]) <|
      .cond (.t 12)
        (.seq (.reg [⟨some 4, none, .mov false (.c (.d (.int .i64 0)))⟩] [4]) <|
        .ret)
        (.skip)) <|
      .seq (.reg [⟨some 4, none, .mov false (.c (.d (.int .i64 (-1))))⟩] [4]) <|
      .ret)
      (.skip)) <|
    .seq (.seq (.reg [⟨some 13, none, .mov false (.t 6)⟩] [0, 1, 13]) <|
    .cond (.t 13)
      (.seq (.reg [⟨some 4, none, .mov false (.c (.d (.int .i64 1)))⟩] [4]) <|
      .ret)
      (.skip)) <|
    .seq (.seq (.reg [⟨some 14, none, .mov false (.t 0)⟩,
      ⟨some 15, none, .mov false (.t 1)⟩,
      ⟨some 16, none, .bin .i .lss (.t 14) (.t 15)⟩] [0, 1, 16]) <|
    .cond (.t 16)
      (.seq (.reg [⟨some 4, none, .mov false (.c (.d (.int .i64 (-1))))⟩] [4]) <|
      .ret)
      (.skip)) <|
    .seq (.seq (.reg [⟨some 17, none, .mov false (.t 0)⟩,
      ⟨some 18, none, .mov false (.t 1)⟩,
      ⟨some 19, none, .bin .i .gtr (.t 17) (.t 18)⟩] [19]) <|
    .cond (.t 19)
      (.seq (.reg [⟨some 4, none, .mov false (.c (.d (.int .i64 1)))⟩] [4]) <|
      .ret)
      (.skip)) <|
    .seq (.reg [⟨some 4, none, .mov false (.c (.d (.int .i64 0)))⟩] [4]) <|
    .ret
/- cartouche/quote.Valid -/
def n_quote_Valid : Nat := 50
def f_quote_Valid : SFunc where
  np := 1
  res := [.slot 2]
  body := .seq (.reg [⟨some 2, none, .mov false (.c (.d (.bool false)))⟩] [0]) <|
    .seq (.reg [⟨some 3, none, .mov true (.t 0)⟩,
      ⟨some 4, none, .call 69 [(false, .t 3)]⟩,
      ⟨some 2, none, .mov false (.t 4)⟩] [2]) <|
    .ret
/- cartouche/wire.varint -/
def l_wire_varint_1 : SC :=
  .seq (.seq (.reg [⟨some 5, none, .mov false (.t 1)⟩,
      ⟨some 6, none, .bin .i .geq (.t 5) (.c (.d (.int .u64 128)))⟩] [0, 1, 6]) <|
    .cond (.t 6)
      (.skip)
      (.exit 0)) <|
    .block 1 <| .seq (.reg [⟨some 7, none, .mov true (.t 0)⟩,
      ⟨some 8, none, .mov false (.t 1)⟩,
      ⟨some 9, none, .cint .u8 (.t 8)⟩,
      ⟨some 10, none, .bin .i .or (.t 9) (.c (.d (.int .u8 128)))⟩,
      ⟨some 11, none, .mk 1 [.t 10]⟩,
      ⟨some 12, none, .app false 1 1 (.t 7) (.t 11)⟩,
      ⟨some 0, none, .mov true (.t 12)⟩] [0, 1]) <|
    .reg [⟨some 13, none, .mov false (.t 1)⟩,
      ⟨some 14, none, .bin .i .shr (.t 13) (.c (.d (.int .u64 7)))⟩,
      ⟨some 1, none, .mov false (.t 14)⟩] [0, 1]
def n_wire_varint : Nat := 51
def f_wire_varint : SFunc where
  np := 2
  res := [.slot 4]
  body := .seq (.reg [⟨some 4, none, .mov true (.c (.own 1 []))⟩] [0, 1]) <|
    .seq (.block 0 <| .loop l_wire_varint_1) <|
    .seq (.reg [⟨some 15, none, .mov true (.t 0)⟩,
      ⟨some 16, none, .mov false (.t 1)⟩,
      ⟨some 17, none, .cint .u8 (.t 16)⟩,
      ⟨some 18, none, .mk 1 [.t 17]⟩,
      ⟨some 19, none, .app false 1 1 (.t 15) (.t 18)⟩,
      ⟨some 4, none, .mov true (.t 19)⟩] [4]) <|
    .ret
/- cartouche/wire.Size -/
def n_wire_Size : Nat := 52
def f_wire_Size : SFunc where
  np := 1
  res := [.slot 2]
  body := .seq (.reg [⟨some 2, none, .mov false (.c (.d (.int .i64 0)))⟩] [0]) <|
    .seq (.reg [⟨some 3, none, .mov false (.t 0)⟩,
      ⟨some 4, none, .call 70 [(false, .t 3)]⟩,
      ⟨some 5, none, .max2 (.c (.d (.int .i64 1))) (.t 4)⟩,
      ⟨some 6, none, .bin .i .add (.t 5) (.c (.d (.int .i64 7)))⟩,
      ⟨some 7, none, .bin .i .sub (.t 6) (.c (.d (.int .i64 1)))⟩,
      ⟨some 8, none, .bin .i .quo (.t 7) (.c (.d (.int .i64 7)))⟩,
      ⟨some 2, none, .mov false (.t 8)⟩] [2]) <|
    .ret
/- cartouche/wire.word -/
def l_wire_word_1 : SC :=
  .seq (.reg [⟨some 11, none, .bin .i .lss (.t 10) (.t 9)⟩] [0, 5, 9, 10, 11]) <|
    .seq (.cond (.t 11)
      (.skip)
      (.exit 0)) <|
    .seq (.block 1 <| .seq (.reg [⟨some 12, none, .mov false (.t 10)⟩,
      ⟨some 6, none, .mov false (.t 12)⟩] [0, 5, 6, 9, 10]) <|
    .reg [⟨some 13, none, .mov true (.t 5)⟩,
      ⟨some 14, none, .mov false (.t 0)⟩,
      ⟨some 15, none, .mov false (.t 6)⟩,
      ⟨some 16, none, .bin .i .mul (.c (.d (.int .i64 8))) (.t 15)⟩,
      ⟨some 17, none, .bin .i .shr (.t 14) (.t 16)⟩,
      ⟨some 18, none, .cint .u8 (.t 17)⟩,
      ⟨some 19, none, .mk 1 [.t 18]⟩,
      ⟨some 20, none, .app false 1 1 (.t 13) (.t 19)⟩,
      ⟨some 5, none, .mov true (.t 20)⟩] [0, 5, 9, 10]) <|
    .reg [⟨some 21, none, .bin .i .add (.t 10) (.c (.d (.int .i64 1)))⟩,
      ⟨some 10, none, .mov false (.t 21)⟩] [0, 5, 9, 10]
def n_wire_word : Nat := 53
def f_wire_word : SFunc where
  np := 2
  res := [.slot 4]
  body := .seq (.reg [⟨some 4, none, .mov true (.c (.own 1 []))⟩] [0, 1]) <|
    .seq (.reg [⟨some 7, none, .mov false (.t 1)⟩,
      ⟨some 8, none, .make (.int .u8 0) 1 (.c (.d (.int .i64 0))) (.t 7)⟩,
      ⟨some 5, none, .mov true (.t 8)⟩] [0, 1, 5]) <|
    .seq (.seq (.reg [⟨some 9, none, .mov false (.t 1)⟩,
      ⟨some 10, none, .mov false (.c (.d (.int .i64 0)))⟩] [0, 5, 9, 10]) <|
    .block 0 <| .loop l_wire_word_1) <|
    .seq (.reg [⟨some 22, none, .mov true (.t 5)⟩,
      ⟨some 4, none, .mov true (.t 22)⟩] [4]) <|
    .ret
/- cartouche/wire.Span -/
def n_wire_Span : Nat := 54
def f_wire_Span : SFunc where
  np := 2
  res := [.slot 4, .slot 5, .slot 6]
  body := .seq (.reg [⟨some 4, none, .mov false (.c (.d (.int .i64 0)))⟩,
      ⟨some 5, none, .mov false (.c (.d (.int .i64 0)))⟩,
      ⟨some 6, none, .mov false (.c (.d (.int .i64 0)))⟩] [0, 1]) <|
    .seq (.reg [⟨some 9, none, .mov false (.t 0)⟩,
      ⟨some 10, none, .mov false (.t 1)⟩,
      ⟨some 11, none, .call 32 [(false, .t 9), (false, .t 10)]⟩,
      ⟨some 8, none, .mov false (.t 11)⟩,
      ⟨some 12, none, .ext (.t 8) 0⟩,
      ⟨some 13, none, .ext (.t 8) 1⟩,
      ⟨some 14, none, .ext (.t 8) 2⟩,
      ⟨some 7, none, .mov false (.t 12)⟩,
      ⟨some 4, none, .mov false (.t 13)⟩,
      ⟨some 6, none, .mov false (.t 14)⟩] [0, 4, 6, 7]) <|
    .seq (.block 0 <| .seq (.reg [⟨some 16, none, .mov false (.t 6)⟩,
      ⟨some 17, none, .bin .i .neq (.t 16) (.c (.d (.int .i64 0)))⟩,
      ⟨some 15, none, .mov false (.t 17)⟩] [0, 4, 6, 7, 15]) <|
    .cond (.t 15)
      (.seq (.reg [⟨some 18, none, .mov false (.t 6)⟩,
        ⟨some 4, none, .mov false (.c (.d (.int .i64 0)))⟩,
        ⟨some 5, none, .mov false (.c (.d (.int .i64 0)))⟩,
        ⟨some 6, none, .mov false (.t 18)⟩] [4, 5, 6]) <|
      .ret)
      (.seq (.reg [⟨some 20, none, .mov false (.t 7)⟩,
        ⟨some 21, none, .mov true (.t 0)⟩,
        ⟨some 22, none, .len false (.t 21)⟩,
        ⟨some 23, none, .mov false (.t 4)⟩,
        ⟨some 24, none, .bin .i .sub (.t 22) (.t 23)⟩,
        ⟨some 25, none, .cint .u64 (.t 24)⟩,
        ⟨some 26, none, .bin .i .gtr (.t 20) (.t 25)⟩,
        ⟨some 19, none, .mov false (.t 26)⟩] [4, 7, 19]) <|
      .cond (.t 19)
        (.seq (.reg [⟨some 4, none, .mov false (.c (.d (.int .i64 0)))⟩,
          ⟨some 5, none, .mov false (.c (.d (.int .i64 0)))⟩,
          ⟨some 6, none, .mov false (.c (.d (.int .i64 3)))⟩] [4, 5, 6]) <|
        .ret)
        (.skip))) <|
    .seq (.reg [⟨some 27, none, .mov false (.t 4)⟩,
      ⟨some 28, none, .mov false (.t 4)⟩,
      ⟨some 29, none, .mov false (.t 7)⟩,
      ⟨some 30, none, .cint .i64 (.t 29)⟩,
      ⟨some 31, none, .bin .i .add (.t 28) (.t 30)⟩,
      ⟨some 4, none, .mov false (.t 27)⟩,
      ⟨some 5, none, .mov false (.t 31)⟩,
      ⟨some 6, none, .mov false (.c (.d (.int .i64 0)))⟩] [4, 5, 6]) <|
    .ret
/- cartouche/wire.read -/
def l_wire_read_1 : SC :=
  .seq (.reg [⟨some 24, none, .bin .i .lss (.t 23) (.t 22)⟩] [0, 1, 2, 6, 22, 23, 24]) <|
    .seq (.cond (.t 24)
      (.skip)
      (.exit 1)) <|
    .seq (.block 2 <| .seq (.reg [⟨some 25, none, .mov false (.t 23)⟩,
      ⟨some 9, none, .mov false (.t 25)⟩] [0, 1, 2, 6, 9, 22, 23]) <|
    .reg [⟨some 26, none, .mov false (.t 6)⟩,
      ⟨some 27, none, .mov false (.t 0)⟩,
      ⟨some 28, none, .mov false (.t 1)⟩,
      ⟨some 29, none, .mov false (.t 9)⟩,
      ⟨some 30, none, .bin .i .add (.t 28) (.t 29)⟩,
      ⟨some 31, none, .iaddr 1 (.t 27) (.t 30)⟩,
      ⟨some 32, none, .load none (.t 31)⟩,
      ⟨some 33, none, .cint .u64 (.t 32)⟩,
      ⟨some 34, none, .mov false (.t 9)⟩,
      ⟨some 35, none, .bin .i .mul (.c (.d (.int .i64 8))) (.t 34)⟩,
      ⟨some 36, none, .bin .i .shl (.t 33) (.t 35)⟩,
      ⟨some 37, none, .bin .i .or (.t 26) (.t 36)⟩,
      ⟨some 6, none, .mov false (.t 37)⟩] [0, 1, 2, 6, 22, 23]) <|
    .reg [⟨some 38, none, .bin .i .add (.t 23) (.c (.d (.int .i64 1)))⟩,
      ⟨some 23, none, .mov false (.t 38)⟩] [0, 1, 2, 6, 22, 23]
def n_wire_read : Nat := 55
def f_wire_read : SFunc where
  np := 3
  res := [.slot 6, .slot 7, .slot 8]
  body := .seq (.reg [⟨some 6, none, .mov false (.c (.d (.int .u64 0)))⟩,
      ⟨some 7, none, .mov false (.c (.d (.int .i64 0)))⟩,
      ⟨some 8, none, .mov false (.c (.d (.int .i64 0)))⟩] [0, 1, 2, 6]) <|
    .seq (.block 0 <| .seq (.reg [⟨some 11, none, .mov false (.t 0)⟩,
      ⟨some 12, none, .mov false (.t 1)⟩,
      ⟨some 13, none, .call 56 [(false, .t 11), (false, .t 12)]⟩,
      ⟨some 14, none, .not (.t 13)⟩,
      ⟨some 10, none, .mov false (.t 14)⟩] [0, 1, 2, 6, 10]) <|
    .cond (.t 10)
      (.seq (.reg [⟨some 6, none, .mov false (.c (.d (.int .u64 0)))⟩,
        ⟨some 7, none, .mov false (.c (.d (.int .i64 0)))⟩,
        ⟨some 8, none, .mov false (.c (.d (.int .i64 18)))⟩] [6, 7, 8]) <|
      .ret)
      (.seq (.reg [⟨some 16, none, .mov false (.t 0)⟩,
        ⟨some 17, none, .len false (.t 16)⟩,
        ⟨some 18, none, .mov false (.t 1)⟩,
        ⟨some 19, none, .bin .i .sub (.t 17) (.t 18)⟩,
        ⟨some 20, none, .mov false (.t 2)⟩,
        ⟨some 21, none, .bin .i .lss (.t 19) (.t 20)⟩,
        ⟨some 15, none, .mov false (.t 21)⟩] [0, 1, 2, 6, 15]) <|
      .cond (.t 15)
        (.seq (.reg [⟨some 6, none, .mov false (.c (.d (.int .u64 0)))⟩,
          ⟨some 7, none, .mov false (.c (.d (.int .i64 0)))⟩,
          ⟨some 8, none, .mov false (.c (.d (.int .i64 3)))⟩] [6, 7, 8]) <|
        .ret)
        (.skip))) <|
    .seq (.seq (.reg [⟨some 22, none, .mov false (.t 2)⟩,
      ⟨some 23, none, .mov false (.c (.d (.int .i64 0)))⟩] [0, 1, 2, 6, 22, 23]) <|
    .block 1 <| .loop l_wire_read_1) <|
    .seq (.reg [⟨some 39, none, .mov false (.t 6)⟩,
      ⟨some 40, none, .mov false (.t 1)⟩,
      ⟨some 41, none, .mov false (.t 2)⟩,
      ⟨some 42, none, .bin .i .add (.t 40) (.t 41)⟩,
      ⟨some 6, none, .mov false (.t 39)⟩,
      ⟨some 7, none, .mov false (.t 42)⟩,
      ⟨some 8, none, .mov false (.c (.d (.int .i64 0)))⟩] [6, 7, 8]) <|
    .ret
/- cartouche/wire.place -/
def n_wire_place : Nat := 56
def f_wire_place : SFunc where
  np := 2
  res := [.slot 4]
  body := .seq (.reg [⟨some 4, none, .mov false (.c (.d (.bool false)))⟩] [0, 1]) <|
    .seq (.reg [⟨some 5, none, .mov false (.t 1)⟩,
      ⟨some 6, none, .bin .i .geq (.t 5) (.c (.d (.int .i64 0)))⟩,
      ⟨some 7, none, .mov false (.t 6)⟩,
      ⟨some 8, some (7, true), .mov false (.t 1)⟩,
      ⟨some 9, some (7, true), .mov true (.t 0)⟩,
      ⟨some 10, some (7, true), .len false (.t 9)⟩,
      ⟨some 11, some (7, true), .bin .i .leq (.t 8) (.t 10)⟩,
      ⟨some 12, none, .pick (.t 7) (.t 11) (.c (.d (.bool false)))⟩,
      ⟨some 4, none, .mov false (.t 12)⟩] [4]) <|
    .ret
/- internal/strconv.FormatBool -/
def n_internal_strconv_FormatBool : Nat := 57
def f_internal_strconv_FormatBool : SFunc where
  np := 1
  res := [.slot 2]
  body := .seq (.reg [⟨some 2, none, .mov false (.c (.d (.str [])))⟩] [0]) <|
    .seq (.seq (.reg [⟨some 3, none, .mov false (.t 0)⟩] [3]) <|
    .cond (.t 3)
      (.seq (.reg [⟨some 2, none, .mov false (.c (.d (.str [116, 114, 117, 101])))⟩] [2]) <|
      .ret)
      (.skip)) <|
    .seq (.reg [⟨some 2, none, .mov false (.c (.d (.str [102, 97, 108, 115, 101])))⟩] [2]) <|
    .ret
/- cartouche/quote.Digit -/
def n_quote_Digit : Nat := 61
def f_quote_Digit : SFunc where
  np := 1
  res := [.slot 2]
  body := .seq (.reg [⟨some 2, none, .mov false (.c (.d (.int .i64 0)))⟩] [0]) <|
    .seq (.block 0 <| .seq (.reg [⟨some 4, none, .mov false (.t 0)⟩,
      ⟨some 5, none, .bin .i .geq (.t 4) (.c (.d (.int .u8 48)))⟩,
      ⟨some 6, none, .mov false (.t 5)⟩,
      ⟨some 7, some (6, true), .mov false (.t 0)⟩,
      ⟨some 8, some (6, true), .bin .i .leq (.t 7) (.c (.d (.int .u8 57)))⟩,
      ⟨some 9, none, .pick (.t 6) (.t 8) (.c (.d (.bool false)))⟩,
      ⟨some 3, none, .mov false (.t 9)⟩] [0, 3]) <|
    .cond (.t 3)
      (.seq (.reg [⟨some 10, none, .mov false (.t 0)⟩,
        ⟨some 11, none, .bin .i .sub (.t 10) (.c (.d (.int .u8 48)))⟩,
        ⟨some 12, none, .cint .i64 (.t 11)⟩,
        ⟨some 2, none, .mov false (.t 12)⟩] [2]) <|
      .ret)
      (.seq (.reg [⟨some 14, none, .mov false (.t 0)⟩,
        ⟨some 15, none, .bin .i .geq (.t 14) (.c (.d (.int .u8 97)))⟩,
        ⟨some 16, none, .mov false (.t 15)⟩,
        ⟨some 17, some (16, true), .mov false (.t 0)⟩,
        ⟨some 18, some (16, true), .bin .i .leq (.t 17) (.c (.d (.int .u8 102)))⟩,
        ⟨some 19, none, .pick (.t 16) (.t 18) (.c (.d (.bool false)))⟩,
        ⟨some 13, none, .mov false (.t 19)⟩] [0, 13]) <|
      .cond (.t 13)
        (.seq (.reg [⟨some 20, none, .mov false (.t 0)⟩,
          ⟨some 21, none, .bin .i .sub (.t 20) (.c (.d (.int .u8 97)))⟩,
          ⟨some 22, none, .cint .i64 (.t 21)⟩,
          ⟨some 23, none, .bin .i .add (.t 22) (.c (.d (.int .i64 10)))⟩,
          ⟨some 2, none, .mov false (.t 23)⟩] [2]) <|
        .ret)
        (.seq (.reg [⟨some 25, none, .mov false (.t 0)⟩,
          ⟨some 26, none, .bin .i .geq (.t 25) (.c (.d (.int .u8 65)))⟩,
          ⟨some 27, none, .mov false (.t 26)⟩,
          ⟨some 28, some (27, true), .mov false (.t 0)⟩,
          ⟨some 29, some (27, true), .bin .i .leq (.t 28) (.c (.d (.int .u8 70)))⟩,
          ⟨some 30, none, .pick (.t 27) (.t 29) (.c (.d (.bool false)))⟩,
          ⟨some 24, none, .mov false (.t 30)⟩] [0, 24]) <|
        .cond (.t 24)
          (.seq (.reg [⟨some 31, none, .mov false (.t 0)⟩,
            ⟨some 32, none, .bin .i .sub (.t 31) (.c (.d (.int .u8 65)))⟩,
            ⟨some 33, none, .cint .i64 (.t 32)⟩,
            ⟨some 34, none, .bin .i .add (.t 33) (.c (.d (.int .i64 10)))⟩,
            ⟨some 2, none, .mov false (.t 34)⟩] [2]) <|
          .ret)
          (.skip)))) <|
    .seq (.reg [⟨some 2, none, .mov false (.c (.d (.int .i64 (-1))))⟩] [2]) <|
    .ret
/- strings.CutPrefix -/
def n_strings_CutPrefix : Nat := 62
def f_strings_CutPrefix : SFunc where
  np := 2
  res := [.slot 4, .slot 5]
  body := .seq (.reg [⟨some 4, none, .mov false (.c (.d (.str [])))⟩,
      ⟨some 5, none, .mov false (.c (.d (.bool false)))⟩] [0, 1]) <|
    .seq (.reg [⟨some 6, none, .mov false (.t 0)⟩,
      ⟨some 7, none, .mov false (.t 1)⟩,
      ⟨some 8, none, .call 81 [(false, .t 6), (false, .t 7)]⟩,
      ⟨some 9, none, .ext (.t 8) 0⟩,
      ⟨some 10, none, .ext (.t 8) 1⟩,
      ⟨some 4, none, .mov false (.t 9)⟩,
      ⟨some 5, none, .mov false (.t 10)⟩] [4, 5]) <|
    .ret
/- cartouche/scalar.holds -/
def n_scalar_holds : Nat := 64
def f_scalar_holds : SFunc where
  np := 2
  res := [.slot 4]
  body := .seq (.reg [⟨some 4, none, .mov false (.c (.d (.bool false)))⟩] [0, 1]) <|
    .seq (.seq (.reg [⟨some 5, none, .mov false (.t 0)⟩] [1, 5]) <|
    .block 0 <| .seq (.reg [⟨some 7, none, .bin .i .eql (.t 5) (.c (.d (.int .i64 1)))⟩,
      ⟨some 6, none, .mov false (.t 7)⟩] [1, 5, 6]) <|
    .cond (.t 6)
      (.seq (.reg [⟨some 8, none, .mov false (.t 1)⟩,
        ⟨some 9, none, .bin .i .leq (.t 8) (.c (.d (.int .u64 1)))⟩,
        ⟨some 4, none, .mov false (.t 9)⟩] [4]) <|
      .ret)
      (.seq (.seq (.reg [⟨some 11, none, .bin .i .eql (.t 5) (.c (.d (.int .i64 2)))⟩,
        ⟨some 10, none, .mov false (.t 11)⟩] [1, 5, 10]) <|
      .cond (.t 10)
        (.skip)
        (.seq (.reg [⟨some 12, none, .bin .i .eql (.t 5) (.c (.d (.int .i64 6)))⟩,
          ⟨some 10, none, .mov false (.t 12)⟩] [1, 5, 10]) <|
        .cond (.t 10)
          (.skip)
          (.reg [⟨some 13, none, .bin .i .eql (.t 5) (.c (.d (.int .i64 10)))⟩,
            ⟨some 10, none, .mov false (.t 13)⟩] [1, 5, 10]))) <|
      .cond (.t 10)
        (.seq (.reg [⟨some 14, none, .mov false (.t 1)⟩,
          ⟨some 15, none, .cint .i64 (.t 14)⟩,
          ⟨some 16, none, .mov false (.t 1)⟩,
          ⟨some 17, none, .cint .i32 (.t 16)⟩,
          ⟨some 18, none, .cint .i64 (.t 17)⟩,
          ⟨some 19, none, .bin .i .eql (.t 15) (.t 18)⟩,
          ⟨some 4, none, .mov false (.t 19)⟩] [4]) <|
        .ret)
        (.seq (.reg [⟨some 21, none, .bin .i .eql (.t 5) (.c (.d (.int .i64 16)))⟩,
          ⟨some 20, none, .mov false (.t 21)⟩] [1, 5, 20]) <|
        .cond (.t 20)
          (.seq (.reg [⟨some 22, none, .mov false (.t 1)⟩,
            ⟨some 23, none, .bin .i .leq (.t 22) (.c (.d (.int .u64 2147483647)))⟩,
            ⟨some 4, none, .mov false (.t 23)⟩] [4]) <|
          .ret)
          (.seq (.seq (.reg [⟨some 25, none, .bin .i .eql (.t 5) (.c (.d (.int .i64 4)))⟩,
            ⟨some 24, none, .mov false (.t 25)⟩] [1, 5, 24]) <|
          .cond (.t 24)
            (.skip)
            (.seq (.reg [⟨some 26, none, .bin .i .eql (.t 5) (.c (.d (.int .i64 8)))⟩,
              ⟨some 24, none, .mov false (.t 26)⟩] [1, 5, 24]) <|
            .cond (.t 24)
              (.skip)
              (.reg [⟨some 27, none, .bin .i .eql (.t 5) (.c (.d (.int .i64 12)))⟩,
                ⟨some 24, none, .mov false (.t 27)⟩] [1, 24]))) <|
          .cond (.t 24)
            (.seq (.reg [⟨some 28, none, .mov false (.t 1)⟩,
              ⟨some 29, none, .bin .i .leq (.t 28) (.c (.d (.int .u64 4294967295)))⟩,
              ⟨some 4, none, .mov false (.t 29)⟩] [4]) <|
            .ret)
            (.skip))))) <|
    .seq (.reg [⟨some 4, none, .mov false (.c (.d (.bool true)))⟩] [4]) <|
    .ret
/- cmp.isNaN[int64] -/
def n_cmp_isNaN_int64_ : Nat := 66
def f_cmp_isNaN_int64_ : SFunc where
  np := 1
  res := [.slot 2]
  body := .seq (.reg [⟨some 2, none, .mov false (.c (.d (.bool false)))⟩] [0]) <|
    .seq (.reg [⟨some 3, none, .mov false (.t 0)⟩,
      ⟨some 4, none, .mov false (.t 0)⟩,
      ⟨some 5, none, .bin .i .neq (.t 3) (.t 4)⟩,
      ⟨some 2, none, .mov false (.t 5)⟩] [2]) <|
    .ret
/- cmp.isNaN[uint64] -/
def n_cmp_isNaN_uint64_ : Nat := 67
def f_cmp_isNaN_uint64_ : SFunc where
  np := 1
  res := [.slot 2]
  body := .seq (.reg [⟨some 2, none, .mov false (.c (.d (.bool false)))⟩] [0]) <|
    .seq (.reg [⟨some 3, none, .mov false (.t 0)⟩,
      ⟨some 4, none, .mov false (.t 0)⟩,
      ⟨some 5, none, .bin .i .neq (.t 3) (.t 4)⟩,
      ⟨some 2, none, .mov false (.t 5)⟩] [2]) <|
    .ret
/- unicode/utf8.Valid -/
def l_unicode_utf8_Valid_19 : SC :=
  .seq (.seq (.reg [⟨some 49, none, .mov false (.t 0)⟩,
      ⟨some 50, none, .len false (.t 49)⟩,
      ⟨some 51, none, .bin .i .gtr (.t 50) (.c (.d (.int .i64 32)))⟩,
      ⟨some 52, none, .mov false (.t 51)⟩,
      ⟨some 53, some (52, true), .mov false (.t 0)⟩,
      ⟨some 54, some (52, true), .call 86 [(false, .t 53)]⟩,
      ⟨some 55, some (52, true), .mov false (.t 0)⟩,
      ⟨some 56, some (52, true), .slc 1 (.t 55) (some (.c (.d (.int .i64 8)))) none none⟩,
      ⟨some 57, some (52, true), .call 86 [(false, .t 56)]⟩,
      ⟨some 58, some (52, true), .bin .i .or (.t 54) (.t 57)⟩,
      ⟨some 59, some (52, true), .mov false (.t 0)⟩,
      ⟨some 60, some (52, true), .slc 1 (.t 59) (some (.c (.d (.int .i64 16)))) none none⟩,
      ⟨some 61, some (52, true), .call 86 [(false, .t 60)]⟩,
      ⟨some 62, some (52, true), .mov false (.t 0)⟩,
      ⟨some 63, some (52, true), .slc 1 (.t 62) (some (.c (.d (.int .i64 24)))) none none⟩,
      ⟨some 64, some (52, true), .call 86 [(false, .t 63)]⟩,
      ⟨some 65, some (52, true), .bin .i .or (.t 61) (.t 64)⟩,
      ⟨some 66, some (52, true), .bin .i .or (.t 58) (.t 65)⟩,
      ⟨some 67, some (52, true), .bin .i .and (.t 66) (.c (.d (.int .u64 9259542123273814144)))⟩,
      ⟨some 68, some (52, true), .bin .i .eql (.t 67) (.c (.d (.int .u64 0)))⟩,
      ⟨some 69, none, .pick (.t 52) (.t 68) (.c (.d (.bool false)))⟩] [0, 69]) <|
    .cond (.t 69)
      (.skip)
      (.exit 2)) <|
    .block 3 <| .reg [⟨some 70, none, .mov true (.t 0)⟩,
      ⟨some 71, none, .slc 1 (.t 70) (some (.c (.d (.int .i64 32)))) none none⟩,
      ⟨some 0, none, .mov true (.t 71)⟩] [0]
def l_unicode_utf8_Valid_1 : SC :=
  .seq (.seq (.reg [⟨some 13, none, .mov false (.t 0)⟩,
      ⟨some 14, none, .len false (.t 13)⟩,
      ⟨some 15, none, .bin .i .gtr (.t 14) (.c (.d (.int .i64 0)))⟩] [0, 15]) <|
    .cond (.t 15)
      (.skip)
      (.exit 0)) <|
    .block 1 <| .seq (.reg [⟨some 16, none, .mov false (.t 0)⟩,
      ⟨some 17, none, .iaddr 1 (.t 16) (.c (.d (.int .i64 0)))⟩,
      ⟨some 18, none, .load none (.t 17)⟩,
      ⟨some 3, none, .mov false (.t 18)⟩] [0, 3]) <|
    .seq (.seq (.reg [⟨some 19, none, .mov false (.t 3)⟩,
      ⟨some 20, none, .bin .i .lss (.t 19) (.c (.d (.int .u8 128)))⟩] [0, 3, 20]) <|
    .cond (.t 20)
      (.seq (.reg [⟨some 21, none, .mov true (.t 0)⟩,
        ⟨some 22, none, .slc 1 (.t 21) (some (.c (.d (.int .i64 1)))) none none⟩,
        ⟨some 0, none, .mov true (.t 22)⟩] [0]) <|
      .seq (.seq (.reg [⟨some 23, none, .mov false (.t 0)⟩,
        ⟨some 24, none, .len false (.t 23)⟩,
        ⟨some 25, none, .bin .i .gtr (.t 24) (.c (.d (.int .i64 8)))⟩,
        ⟨some 26, none, .mov false (.t 25)⟩,
        ⟨some 27, some (26, true), .mov false (.t 0)⟩,
        ⟨some 28, some (26, true), .call 86 [(false, .t 27)]⟩,
        ⟨some 29, some (26, true), .bin .i .and (.t 28) (.c (.d (.int .u64 9259542123273814144)))⟩,
        ⟨some 30, some (26, true), .bin .i .eql (.t 29) (.c (.d (.int .u64 0)))⟩,
        ⟨some 31, none, .pick (.t 26) (.t 30) (.c (.d (.bool false)))⟩] [0, 31]) <|
      .cond (.t 31)
        (.seq (.reg [⟨some 32, none, .mov true (.t 0)⟩,
          ⟨some 33, none, .slc 1 (.t 32) (some (.c (.d (.int .i64 8)))) none none⟩,
          ⟨some 0, none, .mov true (.t 33)⟩] [0]) <|
        .seq (.reg [⟨some 34, none, .mov false (.t 0)⟩,
          ⟨some 35, none, .len false (.t 34)⟩,
          ⟨some 36, none, .bin .i .gtr (.t 35) (.c (.d (.int .i64 16)))⟩,
          ⟨some 37, none, .mov false (.t 36)⟩,
          ⟨some 38, some (37, true), .mov false (.t 0)⟩,
          ⟨some 39, some (37, true), .call 86 [(false, .t 38)]⟩,
          ⟨some 40, some (37, true), .mov false (.t 0)⟩,
          ⟨some 41, some (37, true), .slc 1 (.t 40) (some (.c (.d (.int .i64 8)))) none none⟩,
          ⟨some 42, some (37, true), .call 86 [(false, .t 41)]⟩,
          ⟨some 43, some (37, true), .bin .i .or (.t 39) (.t 42)⟩,
          ⟨some 44, some (37, true), .bin .i .and (.t 43) (.c (.d (.int .u64 9259542123273814144)))⟩,
          ⟨some 45, some (37, true), .bin .i .eql (.t 44) (.c (.d (.int .u64 0)))⟩,
          ⟨some 46, none, .pick (.t 37) (.t 45) (.c (.d (.bool false)))⟩] [0, 46]) <|
        .cond (.t 46)
          (.seq (.reg [⟨some 47, none, .mov true (.t 0)⟩,
            ⟨some 48, none, .slc 1 (.t 47) (some (.c (.d (.int .i64 16)))) none none⟩,
            ⟨some 0, none, .mov true (.t 48)⟩] [0]) <|
          .block 2 <| .loop l_unicode_utf8_Valid_19)
          (.skip))
        (.skip)) <|
      .exit 1)
      (.skip)) <|
    .seq (.reg [⟨some 72, none, .mov false (.t 3)⟩,
      ⟨some 73, none, .aaddr 256 1 none (.g 3) (.t 72)⟩,
      ⟨some 74, none, .load none (.t 73)⟩,
      ⟨some 4, none, .mov false (.t 74)⟩] [0, 4]) <|
    .seq (.reg [⟨some 75, none, .mov false (.t 4)⟩,
      ⟨some 76, none, .bin .i .and (.t 75) (.c (.d (.int .u8 7)))⟩,
      ⟨some 77, none, .cint .i64 (.t 76)⟩,
      ⟨some 5, none, .mov false (.t 77)⟩] [0, 4, 5]) <|
    .seq (.reg [⟨some 78, none, .mov false (.t 4)⟩,
      ⟨some 79, none, .bin .i .shr (.t 78) (.c (.d (.int .u64 4)))⟩,
      ⟨some 80, none, .aaddr 16 2 (some 2) (.g 4) (.t 79)⟩,
      ⟨some 81, none, .load (some 2) (.t 80)⟩,
      ⟨some 6, none, .zbox [.int .u8 0, .int .u8 0]⟩,
      ⟨none, none, .store 2 (.t 6) (.t 81)⟩] [0, 5, 6]) <|
    .seq (.reg [⟨some 82, none, .mov false (.t 5)⟩] [0, 6, 82]) <|
    .block 4 <| .seq (.reg [⟨some 84, none, .bin .i .eql (.t 82) (.c (.d (.int .i64 2)))⟩,
      ⟨some 83, none, .mov false (.t 84)⟩] [0, 6, 82, 83]) <|
    .cond (.t 83)
      (.seq (.seq (.reg [⟨some 85, none, .mov false (.t 0)⟩,
        ⟨some 86, none, .len false (.t 85)⟩,
        ⟨some 87, none, .bin .i .lss (.t 86) (.c (.d (.int .i64 2)))⟩,
        ⟨some 88, none, .mov false (.t 87)⟩,
        ⟨some 89, some (88, false), .mov false (.t 0)⟩,
        ⟨some 90, some (88, false), .iaddr 1 (.t 89) (.c (.d (.int .i64 1)))⟩,
        ⟨some 91, some (88, false), .load none (.t 90)⟩,
        ⟨some 92, some (88, false), .faddr 0 none (.t 6)⟩,
        ⟨some 93, some (88, false), .load none (.t 92)⟩,
        ⟨some 94, some (88, false), .bin .i .lss (.t 91) (.t 93)⟩,
        ⟨some 95, none, .pick (.t 88) (.c (.d (.bool true))) (.t 94)⟩,
        ⟨some 96, none, .mov false (.t 95)⟩,
        ⟨some 97, some (96, false), .faddr 1 none (.t 6)⟩,
        ⟨some 98, some (96, false), .load none (.t 97)⟩,
        ⟨some 99, some (96, false), .mov false (.t 0)⟩,
        ⟨some 100, some (96, false), .iaddr 1 (.t 99) (.c (.d (.int .i64 1)))⟩,
        ⟨some 101, some (96, false), .load none (.t 100)⟩,
        ⟨some 102, some (96, false), .bin .i .lss (.t 98) (.t 101)⟩,
        ⟨some 103, none, .pick (.t 96) (.c (.d (.bool true))) (.t 102)⟩] [0, 103]) <|
      .cond (.t 103)
        (.seq (.reg [⟨some 2, none, .mov false (.c (.d (.bool false)))⟩] [2]) <|
        .ret)
        (.skip)) <|
      .reg [⟨some 104, none, .mov true (.t 0)⟩,
        ⟨some 105, none, .slc 1 (.t 104) (some (.c (.d (.int .i64 2)))) none none⟩,
        ⟨some 0, none, .mov true (.t 105)⟩] [0])
      (.seq (.reg [⟨some 107, none, .bin .i .eql (.t 82) (.c (.d (.int .i64 3)))⟩,
        ⟨some 106, none, .mov false (.t 107)⟩] [0, 6, 82, 106]) <|
      .cond (.t 106)
        (.seq (.seq (.reg [⟨some 108, none, .mov false (.t 0)⟩,
          ⟨some 109, none, .len false (.t 108)⟩,
          ⟨some 110, none, .bin .i .lss (.t 109) (.c (.d (.int .i64 3)))⟩,
          ⟨some 111, none, .mov false (.t 110)⟩,
          ⟨some 112, some (111, false), .mov false (.t 0)⟩,
          ⟨some 113, some (111, false), .iaddr 1 (.t 112) (.c (.d (.int .i64 1)))⟩,
          ⟨some 114, some (111, false), .load none (.t 113)⟩,
          ⟨some 115, some (111, false), .faddr 0 none (.t 6)⟩,
          ⟨some 116, some (111, false), .load none (.t 115)⟩,
          ⟨some 117, some (111, false), .bin .i .lss (.t 114) (.t 116)⟩,
          ⟨some 118, none, .pick (.t 111) (.c (.d (.bool true))) (.t 117)⟩,
          ⟨some 119, none, .mov false (.t 118)⟩,
          ⟨some 120, some (119, false), .faddr 1 none (.t 6)⟩,
          ⟨some 121, some (119, false), .load none (.t 120)⟩,
          ⟨some 122, some (119, false), .mov false (.t 0)⟩,
          ⟨some 123, some (119, false), .iaddr 1 (.t 122) (.c (.d (.int .i64 1)))⟩,
          ⟨some 124, some (119, false), .load none (.t 123)⟩,
          ⟨some 125, some (119, false), .bin .i .lss (.t 121) (.t 124)⟩,
          ⟨some 126, none, .pick (.t 119) (.c (.d (.bool true))) (.t 125)⟩,
          ⟨some 127, none, .mov false (.t 126)⟩,
          ⟨some 128, some (127, false), .mov false (.t 0)⟩,
          ⟨some 129, some (127, false), .iaddr 1 (.t 128) (.c (.d (.int .i64 2)))⟩,
          ⟨some 130, some (127, false), .load none (.t 129)⟩,
          ⟨some 131, some (127, false), .bin .i .lss (.t 130) (.c (.d (.int .u8 128)))⟩,
          ⟨some 132, none, .pick (.t 127) (.c (.d (.bool true))) (.t 131)⟩,
          ⟨some 133, none, .mov false (.t 132)⟩,
          ⟨some 134, some (133, false), .mov false (.t 0)⟩,
          ⟨some 135, some (133, false), .iaddr 1 (.t 134) (.c (.d (.int .i64 2)))⟩,
          ⟨some 136, some (133, false), .load none (.t 135)⟩,
          ⟨some 137, some (133, false), .bin .i .lss (.c (.d (.int .u8 191))) (.t 136)⟩,
          ⟨some 138, none, .pick (.t 133) (.c (.d (.bool true))) (.t 137)⟩] [0, 138]) <|
        .cond (.t 138)
          (.seq (.reg [⟨some 2, none, .mov false (.c (.d (.bool false)))⟩] [2]) <|
          .ret)
          (.skip)) <|
        .reg [⟨some 139, none, .mov true (.t 0)⟩,
          ⟨some 140, none, .slc 1 (.t 139) (some (.c (.d (.int .i64 3)))) none none⟩,
          ⟨some 0, none, .mov true (.t 140)⟩] [0])
        (.seq (.reg [⟨some 142, none, .bin .i .eql (.t 82) (.c (.d (.int .i64 4)))⟩,
          ⟨some 141, none, .mov false (.t 142)⟩] [0, 6, 141]) <|
        .cond (.t 141)
          (.seq (.seq (.reg [⟨some 143, none, .mov false (.t 0)⟩,
            ⟨some 144, none, .len false (.t 143)⟩,
            ⟨some 145, none, .bin .i .lss (.t 144) (.c (.d (.int .i64 4)))⟩,
            ⟨some 146, none, .mov false (.t 145)⟩,
            ⟨some 147, some (146, false), .mov false (.t 0)⟩,
            ⟨some 148, some (146, false), .iaddr 1 (.t 147) (.c (.d (.int .i64 1)))⟩,
            ⟨some 149, some (146, false), .load none (.t 148)⟩,
            ⟨some 150, some (146, false), .faddr 0 none (.t 6)⟩,
            ⟨some 151, some (146, false), .load none (.t 150)⟩,
            ⟨some 152, some (146, false), .bin .i .lss (.t 149) (.t 151)⟩,
            ⟨some 153, none, .pick (.t 146) (.c (.d (.bool true))) (.t 152)⟩,
            ⟨some 154, none, .mov false (.t 153)⟩,
            ⟨some 155, some (154, false), .faddr 1 none (.t 6)⟩,
            ⟨some 156, some (154, false), .load none (.t 155)⟩,
            ⟨some 157, some (154, false), .mov false (.t 0)⟩,
            ⟨some 158, some (154, false), .iaddr 1 (.t 157) (.c (.d (.int .i64 1)))⟩,
            ⟨some 159, some (154, false), .load none (.t 158)⟩,
            ⟨some 160, some (154, false), .bin .i .lss (.t 156) (.t 159)⟩,
            ⟨some 161, none, .pick (.t 154) (.c (.d (.bool true))) (.t 160)⟩,
            ⟨some 162, none, .mov false (.t 161)⟩,
            ⟨some 163, some (162, false), .mov false (.t 0)⟩,
            ⟨some 164, some (162, false), .iaddr 1 (.t 163) (.c (.d (.int .i64 2)))⟩,
            ⟨some 165, some (162, false), .load none (.t 164)⟩,
            ⟨some 166, some (162, false), .bin .i .lss (.t 165) (.c (.d (.int .u8 128)))⟩,
            ⟨some 167, none, .pick (.t 162) (.c (.d (.bool true))) (.t 166)⟩,
            ⟨some 168, none, .mov false (.t 167)⟩,
            ⟨some 169, some (168, false), .mov false (.t 0)⟩,
            ⟨some 170, some (168, false), .iaddr 1 (.t 169) (.c (.d (.int .i64 2)))⟩,
            ⟨some 171, some (168, false), .load none (.t 170)⟩,
            ⟨some 172, some (168, false), .bin .i .lss (.c (.d (.int .u8 191))) (.t 171)⟩,
            ⟨some 173, none, .pick (.t 168) (.c (.d (.bool true))) (.t 172)⟩,
            ⟨some 174, none, .mov false (.t 173)⟩,
            ⟨some 175, some (174, false), .mov false (.t 0)⟩,
            ⟨some 176, some (174, false), .iaddr 1 (.t 175) (.c (.d (.int .i64 3)))⟩,
            ⟨some 177, some (174, false), .load none (.t 176)⟩,
            ⟨some 178, some (174, false), .bin .i .lss (.t 177) (.c (.d (.int .u8 128)))⟩,
            ⟨some 179, none, .pick (.t 174) (.c (.d (.bool true))) (.t 178)⟩,
            ⟨some 180, none, .mov false (.t 179)⟩,
            ⟨some 181, some (180, false), .mov false (.t 0)⟩,
            ⟨some 182, some (180, false), .iaddr 1 (.t 181) (.c (.d (.int .i64 3)))⟩,
            ⟨some 183, some (180, false), .load none (.t 182)⟩,
            ⟨some 184, some (180, false), .bin .i .lss (.c (.d (.int .u8 191))) (.t 183)⟩,
            ⟨some 185, none, .pick (.t 180) (.c (.d (.bool true))) (.t 184)⟩] [0, 185]) <|
          .cond (.t 185)
            (.seq (.reg [⟨some 2, none, .mov false (.c (.d (.bool false)))⟩] [2]) <|
            .ret)
            (.skip)) <|
          .reg [⟨some 186, none, .mov true (.t 0)⟩,
            ⟨some 187, none, .slc 1 (.t 186) (some (.c (.d (.int .i64 4)))) none none⟩,
            ⟨some 0, none, .mov true (.t 187)⟩] [0])
          (.seq (.reg [⟨some 2, none, .mov false (.c (.d (.bool false)))⟩] [2]) <|
          .ret)))
def n_unicode_utf8_Valid : Nat := 69
def f_unicode_utf8_Valid : SFunc where
  np := 1
  res := [.slot 2]
  body := .seq (.reg [⟨some 2, none, .mov false (.c (.d (.bool false)))⟩] [0]) <|
    .seq (.reg [⟨some 7, none, .mov false (.t 0)⟩,
      ⟨some 8, none, .mov false (.t 0)⟩,
      ⟨some 9, none, .len false (.t 8)⟩,
      ⟨some 10, none, .mov true (.t 0)⟩,
      ⟨some 11, none, .len false (.t 10)⟩,
      ⟨some 12, none, .slc 1 (.t 7) none (some (.t 9)) (some (.t 11))⟩,
      ⟨some 0, none, .mov true (.t 12)⟩] [0]) <|
    .seq (.block 0 <| .loop l_unicode_utf8_Valid_1) <|
    .seq (.reg [⟨some 2, none, .mov false (.c (.d (.bool true)))⟩] [2]) <|
    .ret
/- math/bits.Len64 -/
def n_math_bits_Len64 : Nat := 70
def f_math_bits_Len64 : SFunc where
  np := 1
  res := [.slot 2]
  body := .seq (.reg [⟨some 2, none, .mov false (.c (.d (.int .i64 0)))⟩] [0, 2]) <|
    .seq (.seq (.reg [⟨some 3, none, .mov false (.t 0)⟩,
      ⟨some 4, none, .bin .i .geq (.t 3) (.c (.d (.int .u64 4294967296)))⟩] [0, 2, 4]) <|
    .cond (.t 4)
      (.seq (.reg [⟨some 5, none, .mov false (.t 0)⟩,
        ⟨some 6, none, .bin .i .shr (.t 5) (.c (.d (.int .u64 32)))⟩,
        ⟨some 0, none, .mov false (.t 6)⟩] [0]) <|
      .reg [⟨some 2, none, .mov false (.c (.d (.int .i64 32)))⟩] [0, 2])
      (.skip)) <|
    .seq (.seq (.reg [⟨some 7, none, .mov false (.t 0)⟩,
      ⟨some 8, none, .bin .i .geq (.t 7) (.c (.d (.int .u64 65536)))⟩] [0, 2, 8]) <|
    .cond (.t 8)
      (.seq (.reg [⟨some 9, none, .mov false (.t 0)⟩,
        ⟨some 10, none, .bin .i .shr (.t 9) (.c (.d (.int .u64 16)))⟩,
        ⟨some 0, none, .mov false (.t 10)⟩] [0, 2]) <|
      .reg [⟨some 11, none, .mov false (.t 2)⟩,
        ⟨some 12, none, .bin .i .add (.t 11) (.c (.d (.int .i64 16)))⟩,
        ⟨some 2, none, .mov false (.t 12)⟩] [0, 2])
      (.skip)) <|
    .seq (.seq (.reg [⟨some 13, none, .mov false (.t 0)⟩,
      ⟨some 14, none, .bin .i .geq (.t 13) (.c (.d (.int .u64 256)))⟩] [0, 2, 14]) <|
    .cond (.t 14)
      (.seq (.reg [⟨some 15, none, .mov false (.t 0)⟩,
        ⟨some 16, none, .bin .i .shr (.t 15) (.c (.d (.int .u64 8)))⟩,
        ⟨some 0, none, .mov false (.t 16)⟩] [0, 2]) <|
      .reg [⟨some 17, none, .mov false (.t 2)⟩,
        ⟨some 18, none, .bin .i .add (.t 17) (.c (.d (.int .i64 8)))⟩,
        ⟨some 2, none, .mov false (.t 18)⟩] [0, 2])
      (.skip)) <|
    .seq (.reg [⟨some 19, none, .mov false (.t 2)⟩,
      ⟨some 20, none, .mov false (.t 0)⟩,
      ⟨some 21, none, .cint .u8 (.t 20)⟩,
      ⟨some 22, none, .sidx (.c (.d (.str [0, 1, 2, 2, 3, 3, 3, 3, 4, 4, 4, 4, 4, 4, 4, 4, 5, 5, 5, 5, 5, 5, 5, 5, 5, 5, 5, 5, 5, 5, 5, 5, 6, 6, 6, 6, 6, 6, 6, 6, 6, 6, 6, 6, 6, 6, 6, 6, 6, 6, 6, 6, 6, 6, 6, 6, 6, 6, 6, 6, 6, 6, 6, 6, 7, 7, 7, 7, 7, 7, 7, 7, 7, 7, 7, 7, 7, 7, 7, 7, 7, 7, 7, 7, 7, 7, 7, 7, 7, 7, 7, 7, 7, 7, 7, 7, 7, 7, 7, 7, 7, 7, 7, 7, 7, 7, 7, 7, 7, 7, 7, 7, 7, 7, 7, 7, 7, 7, 7, 7, 7, 7, 7, 7, 7, 7, 7, 7, 8, 8, 8, 8, 8, 8, 8, 8, 8, 8, 8, 8, 8, 8, 8, 8, 8, 8, 8, 8, 8, 8, 8, 8, 8, 8, 8, 8, 8, 8, 8, 8, 8, 8, 8, 8, 8, 8, 8, 8, 8, 8, 8, 8, 8, 8, 8, 8, 8, 8, 8, 8, 8, 8, 8, 8, 8, 8, 8, 8, 8, 8, 8, 8, 8, 8, 8, 8, 8, 8, 8, 8, 8, 8, 8, 8, 8, 8, 8, 8, 8, 8, 8, 8, 8, 8, 8, 8, 8, 8, 8, 8, 8, 8, 8, 8, 8, 8, 8, 8, 8, 8, 8, 8, 8, 8, 8, 8, 8, 8, 8, 8, 8, 8, 8, 8, 8, 8, 8, 8, 8, 8, 8, 8, 8, 8, 8, 8]))) (.t 21)⟩,
      ⟨some 23, none, .cint .i64 (.t 22)⟩,
      ⟨some 24, none, .bin .i .add (.t 19) (.t 23)⟩,
      ⟨some 2, none, .mov false (.t 24)⟩] [2]) <|
    .ret
/- internal/stringslite.CutPrefix -/
def n_internal_stringslite_CutPrefix : Nat := 81
def f_internal_stringslite_CutPrefix : SFunc where
  np := 2
  res := [.slot 4, .slot 5]
  body := .seq (.reg [⟨some 4, none, .mov false (.c (.d (.str [])))⟩,
      ⟨some 5, none, .mov false (.c (.d (.bool false)))⟩] [0, 1]) <|
    .seq (.seq (.reg [⟨some 6, none, .mov false (.t 0)⟩,
      ⟨some 7, none, .mov false (.t 1)⟩,
      ⟨some 8, none, .call 89 [(false, .t 6), (false, .t 7)]⟩,
      ⟨some 9, none, .not (.t 8)⟩] [0, 1, 9]) <|
    .cond (.t 9)
      (.seq (.reg [⟨some 10, none, .mov false (.t 0)⟩,
        ⟨some 4, none, .mov false (.t 10)⟩,
        ⟨some 5, none, .mov false (.c (.d (.bool false)))⟩] [4, 5]) <|
      .ret)
      (.skip)) <|
    .seq (.reg [⟨some 11, none, .mov false (.t 0)⟩,
      ⟨some 12, none, .mov false (.t 1)⟩,
      ⟨some 13, none, .len true (.t 12)⟩,
      ⟨some 14, none, .slcs (.t 11) (some (.t 13)) none⟩,
      ⟨some 4, none, .mov false (.t 14)⟩,
      ⟨some 5, none, .mov false (.c (.d (.bool true)))⟩] [4, 5]) <|
    .ret
/- unicode/utf8.word[[]byte] -/
def n_unicode_utf8_word___byte_ : Nat := 86
def f_unicode_utf8_word___byte_ : SFunc where
  np := 1
  res := [.slot 2]
  body := .seq (.reg [⟨some 2, none, .mov false (.c (.d (.int .u64 0)))⟩] [0]) <|
    .seq (.cond (.c (.d (.bool false)))
      (.seq (.reg [⟨some 3, none, .mov false (.t 0)⟩,
        ⟨some 4, none, .iaddr 1 (.t 3) (.c (.d (.int .i64 0)))⟩,
        ⟨some 5, none, .load none (.t 4)⟩,
        ⟨some 6, none, .cint .u64 (.t 5)⟩,
        ⟨some 7, none, .mov false (.t 0)⟩,
        ⟨some 8, none, .iaddr 1 (.t 7) (.c (.d (.int .i64 1)))⟩,
        ⟨some 9, none, .load none (.t 8)⟩,
        ⟨some 10, none, .cint .u64 (.t 9)⟩,
        ⟨some 11, none, .bin .i .shl (.t 10) (.c (.d (.int .u64 8)))⟩,
        ⟨some 12, none, .bin .i .or (.t 6) (.t 11)⟩,
        ⟨some 13, none, .mov false (.t 0)⟩,
        ⟨some 14, none, .iaddr 1 (.t 13) (.c (.d (.int .i64 2)))⟩,
        ⟨some 15, none, .load none (.t 14)⟩,
        ⟨some 16, none, .cint .u64 (.t 15)⟩,
        ⟨some 17, none, .bin .i .shl (.t 16) (.c (.d (.int .u64 16)))⟩,
        ⟨some 18, none, .bin .i .or (.t 12) (.t 17)⟩,
        ⟨some 19, none, .mov false (.t 0)⟩,
        ⟨some 20, none, .iaddr 1 (.t 19) (.c (.d (.int .i64 3)))⟩,
        ⟨some 21, none, .load none (.t 20)⟩,
        ⟨some 22, none, .cint .u64 (.t 21)⟩,
        ⟨some 23, none, .bin .i .shl (.t 22) (.c (.d (.int .u64 24)))⟩,
        ⟨some 24, none, .bin .i .or (.t 18) (.t 23)⟩,
        ⟨some 2, none, .mov false (.t 24)⟩] [2]) <|
      .ret)
      (.skip)) <|
    .seq (.reg [⟨some 25, none, .mov false (.t 0)⟩,
      ⟨some 26, none, .iaddr 1 (.t 25) (.c (.d (.int .i64 0)))⟩,
      ⟨some 27, none, .load none (.t 26)⟩,
      ⟨some 28, none, .cint .u64 (.t 27)⟩,
      ⟨some 29, none, .mov false (.t 0)⟩,
      ⟨some 30, none, .iaddr 1 (.t 29) (.c (.d (.int .i64 1)))⟩,
      ⟨some 31, none, .load none (.t 30)⟩,
      ⟨some 32, none, .cint .u64 (.t 31)⟩,
      ⟨some 33, none, .bin .i .shl (.t 32) (.c (.d (.int .u64 8)))⟩,
      ⟨some 34, none, .bin .i .or (.t 28) (.t 33)⟩,
      ⟨some 35, none, .mov false (.t 0)⟩,
      ⟨some 36, none, .iaddr 1 (.t 35) (.c (.d (.int .i64 2)))⟩,
      ⟨some 37, none, .load none (.t 36)⟩,
      ⟨some 38, none, .cint .u64 (.t 37)⟩,
      ⟨some 39, none, .bin .i .shl (.t 38) (.c (.d (.int .u64 16)))⟩,
      ⟨some 40, none, .bin .i .or (.t 34) (.t 39)⟩,
      ⟨some 41, none, .mov false (.t 0)⟩,
      ⟨some 42, none, .iaddr 1 (.t 41) (.c (.d (.int .i64 3)))⟩,
      ⟨some 43, none, .load none (.t 42)⟩,
      ⟨some 44, none, .cint .u64 (.t 43)⟩,
      ⟨some 45, none, .bin .i .shl (.t 44) (.c (.d (.int .u64 24)))⟩,
      ⟨some 46, none, .bin .i .or (.t 40) (.t 45)⟩,
      ⟨some 47, none, .mov false (.t 0)⟩,
      ⟨some 48, none, .iaddr 1 (.t 47) (.c (.d (.int .i64 4)))⟩,
      ⟨some 49, none, .load none (.t 48)⟩,
      ⟨some 50, none, .cint .u64 (.t 49)⟩,
      ⟨some 51, none, .bin .i .shl (.t 50) (.c (.d (.int .u64 32)))⟩,
      ⟨some 52, none, .bin .i .or (.t 46) (.t 51)⟩,
      ⟨some 53, none, .mov false (.t 0)⟩,
      ⟨some 54, none, .iaddr 1 (.t 53) (.c (.d (.int .i64 5)))⟩,
      ⟨some 55, none, .load none (.t 54)⟩,
      ⟨some 56, none, .cint .u64 (.t 55)⟩,
      ⟨some 57, none, .bin .i .shl (.t 56) (.c (.d (.int .u64 40)))⟩,
      ⟨some 58, none, .bin .i .or (.t 52) (.t 57)⟩,
      ⟨some 59, none, .mov false (.t 0)⟩,
      ⟨some 60, none, .iaddr 1 (.t 59) (.c (.d (.int .i64 6)))⟩,
      ⟨some 61, none, .load none (.t 60)⟩,
      ⟨some 62, none, .cint .u64 (.t 61)⟩,
      ⟨some 63, none, .bin .i .shl (.t 62) (.c (.d (.int .u64 48)))⟩,
      ⟨some 64, none, .bin .i .or (.t 58) (.t 63)⟩,
      ⟨some 65, none, .mov false (.t 0)⟩,
      ⟨some 66, none, .iaddr 1 (.t 65) (.c (.d (.int .i64 7)))⟩,
      ⟨some 67, none, .load none (.t 66)⟩,
      ⟨some 68, none, .cint .u64 (.t 67)⟩,
      ⟨some 69, none, .bin .i .shl (.t 68) (.c (.d (.int .u64 56)))⟩,
      ⟨some 70, none, .bin .i .or (.t 64) (.t 69)⟩,
      ⟨some 2, none, .mov false (.t 70)⟩] [2]) <|
    .ret
/- internal/stringslite.HasPrefix -/
def n_internal_stringslite_HasPrefix : Nat := 89
def f_internal_stringslite_HasPrefix : SFunc where
  np := 2
  res := [.slot 4]
  body := .seq (.reg [⟨some 4, none, .mov false (.c (.d (.bool false)))⟩] [0, 1]) <|
    .seq (.reg [⟨some 5, none, .mov false (.t 0)⟩,
      ⟨some 6, none, .len true (.t 5)⟩,
      ⟨some 7, none, .mov false (.t 1)⟩,
      ⟨some 8, none, .len true (.t 7)⟩,
      ⟨some 9, none, .bin .i .geq (.t 6) (.t 8)⟩,
      ⟨some 10, none, .mov false (.t 9)⟩,
      ⟨some 11, some (10, true), .mov false (.t 0)⟩,
      ⟨some 12, some (10, true), .mov false (.t 1)⟩,
      ⟨some 13, some (10, true), .len true (.t 12)⟩,
      ⟨some 14, some (10, true), .slcs (.t 11) none (some (.t 13))⟩,
      ⟨some 15, some (10, true), .mov false (.t 1)⟩,
      ⟨some 16, some (10, true), .bin .s .eql (.t 14) (.t 15)⟩,
      ⟨some 17, none, .pick (.t 10) (.t 16) (.c (.d (.bool false)))⟩,
      ⟨some 4, none, .mov false (.t 17)⟩] [4]) <|
    .ret
theorem c_law3_ScalarBack : chkFunc Tryz.prog n_law3_ScalarBack f_law3_ScalarBack = true := by kernel_rfl
theorem c_law3_ScalarKnown : chkFunc Tryz.prog n_law3_ScalarKnown f_law3_ScalarKnown = true := by kernel_rfl
theorem c_law3_awake : chkFunc Tryz.prog n_law3_awake f_law3_awake = true := by kernel_rfl
theorem c_scalar_Name : chkFunc Tryz.prog n_scalar_Name f_scalar_Name = true := by kernel_rfl
theorem c_scalar_Kind : chkFunc Tryz.prog n_scalar_Kind f_scalar_Kind = true := by kernel_rfl
theorem c_scalar_Put : chkFunc Tryz.prog n_scalar_Put f_scalar_Put = true := by kernel_rfl
theorem c_scalar_Get : chkFunc Tryz.prog n_scalar_Get f_scalar_Get = true := by kernel_rfl
theorem c_scalar_Text : chkFunc Tryz.prog n_scalar_Text f_scalar_Text = true := by kernel_rfl
theorem c_scalar_Parse : chkFunc Tryz.prog n_scalar_Parse f_scalar_Parse = true := by kernel_rfl
theorem c_law3_told : chkFunc Tryz.prog n_law3_told f_law3_told = true := by kernel_rfl
theorem c_scalar_Wire : chkFunc Tryz.prog n_scalar_Wire f_scalar_Wire = true := by kernel_rfl
theorem c_scalar_Numeric : chkFunc Tryz.prog n_scalar_Numeric f_scalar_Numeric = true := by kernel_rfl
theorem c_scalar_IsKey : chkFunc Tryz.prog n_scalar_IsKey f_scalar_IsKey = true := by kernel_rfl
theorem c_law3_n : chkFunc Tryz.prog n_law3_n f_law3_n = true := by kernel_rfl
theorem c_law3_s : chkFunc Tryz.prog n_law3_s f_law3_s = true := by kernel_rfl
theorem c_law3_same : chkFunc Tryz.prog n_law3_same f_law3_same = true := by kernel_rfl
theorem c_law3_got : chkFunc Tryz.prog n_law3_got f_law3_got = true := by kernel_rfl
theorem c_scalar_Compare : chkFunc Tryz.prog n_scalar_Compare f_scalar_Compare = true := by kernel_rfl
theorem c_scalar_may : chkFunc Tryz.prog n_scalar_may f_scalar_may = true := by kernel_rfl
theorem c_wire_PutChunk : chkFunc Tryz.prog n_wire_PutChunk f_wire_PutChunk = true := by kernel_rfl
theorem c_wire_PutFix32 : chkFunc Tryz.prog n_wire_PutFix32 f_wire_PutFix32 = true := by kernel_rfl
theorem c_wire_PutFix64 : chkFunc Tryz.prog n_wire_PutFix64 f_wire_PutFix64 = true := by kernel_rfl
theorem c_wire_PutVarint : chkFunc Tryz.prog n_wire_PutVarint f_wire_PutVarint = true := by kernel_rfl
theorem c_wire_ZigZag : chkFunc Tryz.prog n_wire_ZigZag f_wire_ZigZag = true := by kernel_rfl
theorem c_scalar_known : chkFunc Tryz.prog n_scalar_known f_scalar_known = true := by kernel_rfl
theorem c_wire_GetChunk : chkFunc Tryz.prog n_wire_GetChunk f_wire_GetChunk = true := by kernel_rfl
theorem c_wire_GetFix32 : chkFunc Tryz.prog n_wire_GetFix32 f_wire_GetFix32 = true := by kernel_rfl
theorem c_wire_GetFix64 : chkFunc Tryz.prog n_wire_GetFix64 f_wire_GetFix64 = true := by kernel_rfl
theorem c_wire_GetVarint : chkFunc Tryz.prog n_wire_GetVarint f_wire_GetVarint = true := by kernel_rfl
theorem c_wire_ZagZig : chkFunc Tryz.prog n_wire_ZagZig f_wire_ZagZig = true := by kernel_rfl
theorem c_strconv_FormatBool : chkFunc Tryz.prog n_strconv_FormatBool f_strconv_FormatBool = true := by kernel_rfl
theorem c_scalar_digits : chkFunc Tryz.prog n_scalar_digits f_scalar_digits = true := by kernel_rfl
theorem c_quote_Quote : chkFunc Tryz.prog n_quote_Quote f_quote_Quote = true := by kernel_rfl
theorem c_scalar_signed : chkFunc Tryz.prog n_scalar_signed f_scalar_signed = true := by kernel_rfl
theorem c_scalar_pattern : chkFunc Tryz.prog n_scalar_pattern f_scalar_pattern = true := by kernel_rfl
theorem c_quote_Unquote : chkFunc Tryz.prog n_quote_Unquote f_quote_Unquote = true := by kernel_rfl
theorem c_scalar_whole : chkFunc Tryz.prog n_scalar_whole f_scalar_whole = true := by kernel_rfl
theorem c_ref3_Same : chkFunc Tryz.prog n_ref3_Same f_ref3_Same = true := by kernel_rfl
theorem c_scalar_Fits : chkFunc Tryz.prog n_scalar_Fits f_scalar_Fits = true := by kernel_rfl
theorem c_cmp_Compare_int64_ : chkFunc Tryz.prog n_cmp_Compare_int64_ f_cmp_Compare_int64_ = true := by kernel_rfl
theorem c_cmp_Compare_uint64_ : chkFunc Tryz.prog n_cmp_Compare_uint64_ f_cmp_Compare_uint64_ = true := by kernel_rfl
theorem c_quote_Valid : chkFunc Tryz.prog n_quote_Valid f_quote_Valid = true := by kernel_rfl
theorem c_wire_varint : chkFunc Tryz.prog n_wire_varint f_wire_varint = true := by kernel_rfl
theorem c_wire_Size : chkFunc Tryz.prog n_wire_Size f_wire_Size = true := by kernel_rfl
theorem c_wire_word : chkFunc Tryz.prog n_wire_word f_wire_word = true := by kernel_rfl
theorem c_wire_Span : chkFunc Tryz.prog n_wire_Span f_wire_Span = true := by kernel_rfl
theorem c_wire_read : chkFunc Tryz.prog n_wire_read f_wire_read = true := by kernel_rfl
theorem c_wire_place : chkFunc Tryz.prog n_wire_place f_wire_place = true := by kernel_rfl
theorem c_internal_strconv_FormatBool : chkFunc Tryz.prog n_internal_strconv_FormatBool f_internal_strconv_FormatBool = true := by kernel_rfl
theorem c_quote_Digit : chkFunc Tryz.prog n_quote_Digit f_quote_Digit = true := by kernel_rfl
theorem c_strings_CutPrefix : chkFunc Tryz.prog n_strings_CutPrefix f_strings_CutPrefix = true := by kernel_rfl
theorem c_scalar_holds : chkFunc Tryz.prog n_scalar_holds f_scalar_holds = true := by kernel_rfl
theorem c_cmp_isNaN_int64_ : chkFunc Tryz.prog n_cmp_isNaN_int64_ f_cmp_isNaN_int64_ = true := by kernel_rfl
theorem c_cmp_isNaN_uint64_ : chkFunc Tryz.prog n_cmp_isNaN_uint64_ f_cmp_isNaN_uint64_ = true := by kernel_rfl
theorem c_unicode_utf8_Valid : chkFunc Tryz.prog n_unicode_utf8_Valid f_unicode_utf8_Valid = true := by kernel_rfl
theorem c_math_bits_Len64 : chkFunc Tryz.prog n_math_bits_Len64 f_math_bits_Len64 = true := by kernel_rfl
theorem c_internal_stringslite_CutPrefix : chkFunc Tryz.prog n_internal_stringslite_CutPrefix f_internal_stringslite_CutPrefix = true := by kernel_rfl
theorem c_unicode_utf8_word___byte_ : chkFunc Tryz.prog n_unicode_utf8_word___byte_ f_unicode_utf8_word___byte_ = true := by kernel_rfl
theorem c_internal_stringslite_HasPrefix : chkFunc Tryz.prog n_internal_stringslite_HasPrefix f_internal_stringslite_HasPrefix = true := by kernel_rfl
def fns : List (Nat × SFunc) := [(n_law3_ScalarBack, f_law3_ScalarBack), (n_law3_ScalarKnown, f_law3_ScalarKnown), (n_law3_awake, f_law3_awake), (n_scalar_Name, f_scalar_Name), (n_scalar_Kind, f_scalar_Kind), (n_scalar_Put, f_scalar_Put), (n_scalar_Get, f_scalar_Get), (n_scalar_Text, f_scalar_Text), (n_scalar_Parse, f_scalar_Parse), (n_law3_told, f_law3_told), (n_scalar_Wire, f_scalar_Wire), (n_scalar_Numeric, f_scalar_Numeric), (n_scalar_IsKey, f_scalar_IsKey), (n_law3_n, f_law3_n), (n_law3_s, f_law3_s), (n_law3_same, f_law3_same), (n_law3_got, f_law3_got), (n_scalar_Compare, f_scalar_Compare), (n_scalar_may, f_scalar_may), (n_wire_PutChunk, f_wire_PutChunk), (n_wire_PutFix32, f_wire_PutFix32), (n_wire_PutFix64, f_wire_PutFix64), (n_wire_PutVarint, f_wire_PutVarint), (n_wire_ZigZag, f_wire_ZigZag), (n_scalar_known, f_scalar_known), (n_wire_GetChunk, f_wire_GetChunk), (n_wire_GetFix32, f_wire_GetFix32), (n_wire_GetFix64, f_wire_GetFix64), (n_wire_GetVarint, f_wire_GetVarint), (n_wire_ZagZig, f_wire_ZagZig), (n_strconv_FormatBool, f_strconv_FormatBool), (n_scalar_digits, f_scalar_digits), (n_quote_Quote, f_quote_Quote), (n_scalar_signed, f_scalar_signed), (n_scalar_pattern, f_scalar_pattern), (n_quote_Unquote, f_quote_Unquote), (n_scalar_whole, f_scalar_whole), (n_ref3_Same, f_ref3_Same), (n_scalar_Fits, f_scalar_Fits), (n_cmp_Compare_int64_, f_cmp_Compare_int64_), (n_cmp_Compare_uint64_, f_cmp_Compare_uint64_), (n_quote_Valid, f_quote_Valid), (n_wire_varint, f_wire_varint), (n_wire_Size, f_wire_Size), (n_wire_word, f_wire_word), (n_wire_Span, f_wire_Span), (n_wire_read, f_wire_read), (n_wire_place, f_wire_place), (n_internal_strconv_FormatBool, f_internal_strconv_FormatBool), (n_quote_Digit, f_quote_Digit), (n_strings_CutPrefix, f_strings_CutPrefix), (n_scalar_holds, f_scalar_holds), (n_cmp_isNaN_int64_, f_cmp_isNaN_int64_), (n_cmp_isNaN_uint64_, f_cmp_isNaN_uint64_), (n_unicode_utf8_Valid, f_unicode_utf8_Valid), (n_math_bits_Len64, f_math_bits_Len64), (n_internal_stringslite_CutPrefix, f_internal_stringslite_CutPrefix), (n_unicode_utf8_word___byte_, f_unicode_utf8_word___byte_), (n_internal_stringslite_HasPrefix, f_internal_stringslite_HasPrefix)]
def accepts : List (Int × Int) := [(128, 191), (160, 191), (128, 159), (144, 191), (128, 143), (0, 0), (0, 0), (0, 0), (0, 0), (0, 0), (0, 0), (0, 0), (0, 0), (0, 0), (0, 0), (0, 0)]
def firsts : List Int := Go.Pinned.utf8FirstZ.map fun (n : Nat) => (n : Int)
def globals : List (Nat × D) := [(3, .agg (firsts.map (D.int .u8))), (4, .agg ((flatPairs accepts).map (D.int .u8)))]
/-- The names of the kinds. -/
def kindNames : List (List UInt8) := [[98, 111, 111, 108], [105, 110, 116, 51, 50], [105, 110, 116, 54, 52], [117, 105, 110, 116, 51, 50], [117, 105, 110, 116, 54, 52], [115, 105, 110, 116, 51, 50], [115, 105, 110, 116, 54, 52], [102, 105, 120, 101, 100, 51, 50], [102, 105, 120, 101, 100, 54, 52], [115, 102, 105, 120, 101, 100, 51, 50], [115, 102, 105, 120, 101, 100, 54, 52], [102, 108, 111, 97, 116], [100, 111, 117, 98, 108, 101], [115, 116, 114, 105, 110, 103], [98, 121, 116, 101, 115]]
/-- bytes.Compare and strings.Fields (of the one text that the program hands it), by what they answer. -/
def cmpPrim : List D → Option V
  | [.slice _ a, .slice _ b] => (bytesOf a).bind fun x => (bytesOf b).bind fun y => some (.d (.int .i64 (Go.Lib.compareBytes x y)))
  | _ => none
def fieldsText : List UInt8 := [98, 111, 111, 108, 32, 105, 110, 116, 51, 50, 32, 105, 110, 116, 54, 52, 32, 117, 105, 110, 116, 51, 50, 32, 117, 105, 110, 116, 54, 52, 32, 115, 105, 110, 116, 51, 50, 32, 115, 105, 110, 116, 54, 52, 32, 102, 105, 120, 101, 100, 51, 50, 32, 102, 105, 120, 101, 100, 54, 52, 32, 115, 102, 105, 120, 101, 100, 51, 50, 32, 115, 102, 105, 120, 101, 100, 54, 52, 32, 102, 108, 111, 97, 116, 32, 100, 111, 117, 98, 108, 101, 32, 115, 116, 114, 105, 110, 103, 32, 98, 121, 116, 101, 115]
def fieldsPrim : List D → Option V
  | [.str s] => if s = fieldsText then some (.d (.slice 1 (kindNames.map D.str))) else none
  | _ => none
/-- A number's digits by base 16. -/
def hexDigit (n : Nat) : UInt8 := if n < 10 then UInt8.ofNat (48 + n) else UInt8.ofNat (87 + n)
def hexF : Nat → Nat → List UInt8
  | 0, _ => []
  | f + 1, n => if n < 16 then [hexDigit n] else hexF f (n / 16) ++ [hexDigit (n % 16)]
def hexL (n : Nat) : List UInt8 := hexF 16 n
def repeatPrim : List D → Option V
  | [.str s, .int .i64 c] => if 0 ≤ c ∧ c ≤ 64 ∧ 0 < s.length ∧ s.length ≤ 64 then some (.d (.str (Go.Lib.repeatL s c.toNat))) else none
  | _ => none
def fintPrim : List D → Option V
  | [.int .i64 n, .int .i64 b] => if -9223372036854775808 ≤ n ∧ n ≤ 9223372036854775807 ∧ b = 10 then some (.d (.str (Go.Lib.itoa n))) else none
  | _ => none
def fuintPrim : List D → Option V
  | [.int .u64 n, .int .i64 b] => if 0 ≤ n ∧ n ≤ 18446744073709551615 then (if b = 10 then some (.d (.str (Go.Lib.decDigits n.toNat))) else if b = 16 then some (.d (.str (hexL n.toNat))) else none) else none
  | _ => none
def parsePrim : List D → Option V
  | [.str s, .int .i64 b, .int .i64 z] => if b = 10 ∧ z = 64 ∧ s.length ≤ 65536 then (match Go.Lib.parseUintB 64 s with
    | .ok u => some (.tup [.int .u64 u, .err false])
    | _ => none) else none
  | _ => none
/-- The machine over data: the functions above, the listed tables, the library's functions that are told by what they answer. -/
def M : Mach where
  fn := Vi.get fns
  prim := fun f => if f = 45 then some cmpPrim else if f = 21 then some fieldsPrim else if f = 58 then some repeatPrim else if f = 38 then some fintPrim else if f = 39 then some fuintPrim else if f = 63 then some parsePrim else none
  glob := fun i => if i = 0 then some (.agg (Go.Lib.asciiSpaceTab.map (D.int .u8))) else if i = 5 then some (.agg (Go.Lib.pow10Tab.map (D.int .u64))) else Vi.get globals i
theorem fnsOK : ∀ f sf, (M).fn f = some sf → chkFunc Tryz.prog f sf = true := fun f sf h => by
  have hm := get_mem (l := fns) h
  simp only [fns, List.mem_cons, List.mem_nil_iff, or_false, Prod.mk.injEq] at hm
  rcases hm with ⟨rfl, rfl⟩ | ⟨rfl, rfl⟩ | ⟨rfl, rfl⟩ | ⟨rfl, rfl⟩ | ⟨rfl, rfl⟩ | ⟨rfl, rfl⟩ | ⟨rfl, rfl⟩ | ⟨rfl, rfl⟩ | ⟨rfl, rfl⟩ | ⟨rfl, rfl⟩ | ⟨rfl, rfl⟩ | ⟨rfl, rfl⟩ | ⟨rfl, rfl⟩ | ⟨rfl, rfl⟩ | ⟨rfl, rfl⟩ | ⟨rfl, rfl⟩ | ⟨rfl, rfl⟩ | ⟨rfl, rfl⟩ | ⟨rfl, rfl⟩ | ⟨rfl, rfl⟩ | ⟨rfl, rfl⟩ | ⟨rfl, rfl⟩ | ⟨rfl, rfl⟩ | ⟨rfl, rfl⟩ | ⟨rfl, rfl⟩ | ⟨rfl, rfl⟩ | ⟨rfl, rfl⟩ | ⟨rfl, rfl⟩ | ⟨rfl, rfl⟩ | ⟨rfl, rfl⟩ | ⟨rfl, rfl⟩ | ⟨rfl, rfl⟩ | ⟨rfl, rfl⟩ | ⟨rfl, rfl⟩ | ⟨rfl, rfl⟩ | ⟨rfl, rfl⟩ | ⟨rfl, rfl⟩ | ⟨rfl, rfl⟩ | ⟨rfl, rfl⟩ | ⟨rfl, rfl⟩ | ⟨rfl, rfl⟩ | ⟨rfl, rfl⟩ | ⟨rfl, rfl⟩ | ⟨rfl, rfl⟩ | ⟨rfl, rfl⟩ | ⟨rfl, rfl⟩ | ⟨rfl, rfl⟩ | ⟨rfl, rfl⟩ | ⟨rfl, rfl⟩ | ⟨rfl, rfl⟩ | ⟨rfl, rfl⟩ | ⟨rfl, rfl⟩ | ⟨rfl, rfl⟩ | ⟨rfl, rfl⟩ | ⟨rfl, rfl⟩ | ⟨rfl, rfl⟩ | ⟨rfl, rfl⟩ | ⟨rfl, rfl⟩ | ⟨rfl, rfl⟩
  · exact c_law3_ScalarBack
  · exact c_law3_ScalarKnown
  · exact c_law3_awake
  · exact c_scalar_Name
  · exact c_scalar_Kind
  · exact c_scalar_Put
  · exact c_scalar_Get
  · exact c_scalar_Text
  · exact c_scalar_Parse
  · exact c_law3_told
  · exact c_scalar_Wire
  · exact c_scalar_Numeric
  · exact c_scalar_IsKey
  · exact c_law3_n
  · exact c_law3_s
  · exact c_law3_same
  · exact c_law3_got
  · exact c_scalar_Compare
  · exact c_scalar_may
  · exact c_wire_PutChunk
  · exact c_wire_PutFix32
  · exact c_wire_PutFix64
  · exact c_wire_PutVarint
  · exact c_wire_ZigZag
  · exact c_scalar_known
  · exact c_wire_GetChunk
  · exact c_wire_GetFix32
  · exact c_wire_GetFix64
  · exact c_wire_GetVarint
  · exact c_wire_ZagZig
  · exact c_strconv_FormatBool
  · exact c_scalar_digits
  · exact c_quote_Quote
  · exact c_scalar_signed
  · exact c_scalar_pattern
  · exact c_quote_Unquote
  · exact c_scalar_whole
  · exact c_ref3_Same
  · exact c_scalar_Fits
  · exact c_cmp_Compare_int64_
  · exact c_cmp_Compare_uint64_
  · exact c_quote_Valid
  · exact c_wire_varint
  · exact c_wire_Size
  · exact c_wire_word
  · exact c_wire_Span
  · exact c_wire_read
  · exact c_wire_place
  · exact c_internal_strconv_FormatBool
  · exact c_quote_Digit
  · exact c_strings_CutPrefix
  · exact c_scalar_holds
  · exact c_cmp_isNaN_int64_
  · exact c_cmp_isNaN_uint64_
  · exact c_unicode_utf8_Valid
  · exact c_math_bits_Len64
  · exact c_internal_stringslite_CutPrefix
  · exact c_unicode_utf8_word___byte_
  · exact c_internal_stringslite_HasPrefix
end Go.Proofs.YtedncpnkbpbchaaGreatDoor

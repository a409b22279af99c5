/-
  The functions that the laws reach, in compact form, and that each stands for the program's own. Written by a program of this repository (tools/print), not by hand.
-/
import Derived.Test.YtladdhfkmnhmfaaDoorChecked
import Derived.Test.YtladdhfkmnhmfaaDoorViRow
import Derived.Test.YtladdhfkmnhmfaaDoorViBytes
import Derived.KernelRfl
import GoSem.PinnedTables
set_option maxRecDepth 100000
namespace Go.Proofs.YtladdhfkmnhmfaaDoor
open Go.Vi
/- cartouche/cartouchelaw2.QuoteTexts -/
def n_law2_QuoteTexts : Nat := 3
def f_law2_QuoteTexts : SFunc where
  np := 2
  res := [.slot 4]
  body := .seq (.reg [⟨some 4, none, .mov false (.c (.d (.bool false)))⟩] [0, 1]) <|
    .seq (.reg [⟨some 10, none, .mov false (.t 1)⟩,
      ⟨some 11, none, .call 7 [(false, .t 10)]⟩,
      ⟨some 9, none, .mov false (.t 11)⟩,
      ⟨some 12, none, .ext (.t 9) 0⟩,
      ⟨some 13, none, .ext (.t 9) 1⟩,
      ⟨some 5, none, .mov true (.t 12)⟩,
      ⟨some 6, none, .mov false (.t 13)⟩] [0, 1, 5, 6]) <|
    .seq (.reg [⟨some 15, none, .mov false (.t 1)⟩,
      ⟨some 16, none, .call 8 [(false, .t 15)]⟩,
      ⟨some 14, none, .mov false (.t 16)⟩,
      ⟨some 17, none, .ext (.t 14) 0⟩,
      ⟨some 18, none, .ext (.t 14) 1⟩,
      ⟨some 7, none, .mov true (.t 17)⟩,
      ⟨some 8, none, .mov false (.t 18)⟩] [0, 1, 5, 6, 7, 8]) <|
    .seq (.seq (.reg [⟨some 19, none, .call 9 []⟩,
      ⟨some 20, none, .not (.t 19)⟩,
      ⟨some 21, none, .mov false (.t 20)⟩,
      ⟨some 22, some (21, false), .mov false (.t 0)⟩,
      ⟨some 23, some (21, false), .call 10 [(false, .t 22)]⟩,
      ⟨some 24, some (21, false), .mov true (.t 0)⟩,
      ⟨some 25, some (21, false), .call 11 [(false, .t 24)]⟩,
      ⟨some 26, some (21, false), .bin .s .neq (.t 23) (.t 25)⟩,
      ⟨some 27, none, .pick (.t 21) (.c (.d (.bool true))) (.t 26)⟩] [1, 5, 6, 7, 8, 27]) <|
    .cond (.t 27)
      (.seq (.reg [⟨some 4, none, .mov false (.c (.d (.bool false)))⟩] [4]) <|
      .ret)
      (.skip)) <|
    .seq (.seq (.reg [⟨some 28, none, .mov false (.t 1)⟩,
      ⟨some 29, none, .len true (.t 28)⟩,
      ⟨some 30, none, .bin .i .gtr (.t 29) (.c (.d (.int .i64 65536)))⟩] [5, 6, 7, 8, 30]) <|
    .cond (.t 30)
      (.seq (.reg [⟨some 31, none, .mov false (.t 6)⟩,
        ⟨some 32, none, .bin .i .eql (.t 31) (.c (.d (.int .i64 1)))⟩,
        ⟨some 33, none, .mov false (.t 32)⟩,
        ⟨some 34, some (33, true), .mov true (.t 5)⟩,
        ⟨some 35, some (33, true), .len false (.t 34)⟩,
        ⟨some 36, some (33, true), .bin .i .eql (.t 35) (.c (.d (.int .i64 0)))⟩,
        ⟨some 37, none, .pick (.t 33) (.t 36) (.c (.d (.bool false)))⟩,
        ⟨some 4, none, .mov false (.t 37)⟩] [4]) <|
      .ret)
      (.skip)) <|
    .seq (.seq (.reg [⟨some 38, none, .mov false (.t 8)⟩,
      ⟨some 39, none, .not (.t 38)⟩] [5, 6, 7, 39]) <|
    .cond (.t 39)
      (.seq (.reg [⟨some 40, none, .mov false (.t 6)⟩,
        ⟨some 41, none, .bin .i .eql (.t 40) (.c (.d (.int .i64 11)))⟩,
        ⟨some 42, none, .mov false (.t 41)⟩,
        ⟨some 43, some (42, true), .mov true (.t 5)⟩,
        ⟨some 44, some (42, true), .len false (.t 43)⟩,
        ⟨some 45, some (42, true), .bin .i .eql (.t 44) (.c (.d (.int .i64 0)))⟩,
        ⟨some 46, none, .pick (.t 42) (.t 45) (.c (.d (.bool false)))⟩,
        ⟨some 4, none, .mov false (.t 46)⟩] [4]) <|
      .ret)
      (.skip)) <|
    .seq (.reg [⟨some 47, none, .mov false (.t 6)⟩,
      ⟨some 48, none, .bin .i .eql (.t 47) (.c (.d (.int .i64 0)))⟩,
      ⟨some 49, none, .mov false (.t 48)⟩,
      ⟨some 50, some (49, true), .mov true (.t 5)⟩,
      ⟨some 51, some (49, true), .cstr (.t 50)⟩,
      ⟨some 52, some (49, true), .mov true (.t 7)⟩,
      ⟨some 53, some (49, true), .cstr (.t 52)⟩,
      ⟨some 54, some (49, true), .bin .s .eql (.t 51) (.t 53)⟩,
      ⟨some 55, none, .pick (.t 49) (.t 54) (.c (.d (.bool false)))⟩,
      ⟨some 4, none, .mov false (.t 55)⟩] [4]) <|
    .ret
/- cartouche/cartouchelaw2.QuoteKnown -/
def n_law2_QuoteKnown : Nat := 4
def f_law2_QuoteKnown : SFunc where
  np := 0
  res := [.slot 0]
  body := .seq (.reg [⟨some 0, none, .mov false (.c (.d (.bool false)))⟩] []) <|
    .seq (.reg [⟨some 6, none, .call 7 [(false, .c (.d (.str [34, 92, 113, 34])))]⟩,
      ⟨some 5, none, .mov false (.t 6)⟩,
      ⟨some 7, none, .ext (.t 5) 0⟩,
      ⟨some 8, none, .ext (.t 5) 1⟩,
      ⟨some 1, none, .mov true (.t 7)⟩,
      ⟨some 2, none, .mov false (.t 8)⟩] [2]) <|
    .seq (.reg [⟨some 10, none, .call 7 [(false, .c (.d (.str [97])))]⟩,
      ⟨some 9, none, .mov false (.t 10)⟩,
      ⟨some 11, none, .ext (.t 9) 0⟩,
      ⟨some 12, none, .ext (.t 9) 1⟩,
      ⟨some 3, none, .mov true (.t 11)⟩,
      ⟨some 4, none, .mov false (.t 12)⟩] [2, 4]) <|
    .seq (.reg [⟨some 13, none, .call 9 []⟩,
      ⟨some 14, none, .mov false (.t 13)⟩,
      ⟨some 15, some (14, true), .mk 1 [.c (.d (.int .u8 195)), .c (.d (.int .u8 164))]⟩,
      ⟨some 16, some (14, true), .call 12 [(false, .t 15)]⟩,
      ⟨some 17, none, .pick (.t 14) (.t 16) (.c (.d (.bool false)))⟩,
      ⟨some 18, none, .mov false (.t 17)⟩,
      ⟨some 19, some (18, true), .mk 1 [.c (.d (.int .u8 192)), .c (.d (.int .u8 128))]⟩,
      ⟨some 20, some (18, true), .call 12 [(false, .t 19)]⟩,
      ⟨some 21, some (18, true), .not (.t 20)⟩,
      ⟨some 22, none, .pick (.t 18) (.t 21) (.c (.d (.bool false)))⟩,
      ⟨some 23, none, .mov false (.t 22)⟩,
      ⟨some 24, some (23, true), .mk 1 [.c (.d (.int .u8 237)), .c (.d (.int .u8 160)), .c (.d (.int .u8 128))]⟩,
      ⟨some 25, some (23, true), .call 12 [(false, .t 24)]⟩,
      ⟨some 26, some (23, true), .not (.t 25)⟩,
      ⟨some 27, none, .pick (.t 23) (.t 26) (.c (.d (.bool false)))⟩,
      ⟨some 28, none, .mov false (.t 27)⟩,
      ⟨some 29, some (28, true), .mk 1 [.c (.d (.int .u8 244)), .c (.d (.int .u8 144)), .c (.d (.int .u8 128)), .c (.d (.int .u8 128))]⟩,
      ⟨some 30, some (28, true), .call 12 [(false, .t 29)]⟩,
      ⟨some 31, some (28, true), .not (.t 30)⟩,
      ⟨some 32, none, .pick (.t 28) (.t 31) (.c (.d (.bool false)))⟩,
      ⟨some 33, none, .mov false (.t 32)⟩,
      ⟨some 34, some (33, true), .call 12 [(false, .c (.own 1 []))]⟩,
      ⟨some 35, none, .pick (.t 33) (.t 34) (.c (.d (.bool false)))⟩,
      ⟨some 36, none, .mov false (.t 35)⟩,
      ⟨some 37, some (36, true), .mk 1 [.c (.d (.int .u8 97)), .c (.d (.int .u8 195)), .c (.d (.int .u8 164))]⟩,
      ⟨some 38, some (36, true), .call 13 [(false, .t 37)]⟩,
      ⟨some 39, some (36, true), .bin .i .eql (.t 38) (.c (.d (.int .i64 2)))⟩,
      ⟨some 40, none, .pick (.t 36) (.t 39) (.c (.d (.bool false)))⟩,
      ⟨some 41, none, .mov false (.t 40)⟩,
      ⟨some 42, some (41, true), .mk 1 [.c (.d (.int .u8 255))]⟩,
      ⟨some 43, some (41, true), .call 13 [(false, .t 42)]⟩,
      ⟨some 44, some (41, true), .bin .i .eql (.t 43) (.c (.d (.int .i64 0)))⟩,
      ⟨some 45, none, .pick (.t 41) (.t 44) (.c (.d (.bool false)))⟩,
      ⟨some 46, none, .mov false (.t 45)⟩,
      ⟨some 47, some (46, true), .mov false (.t 2)⟩,
      ⟨some 48, some (46, true), .bin .i .eql (.t 47) (.c (.d (.int .i64 11)))⟩,
      ⟨some 49, none, .pick (.t 46) (.t 48) (.c (.d (.bool false)))⟩,
      ⟨some 50, none, .mov false (.t 49)⟩,
      ⟨some 51, some (50, true), .mov false (.t 4)⟩,
      ⟨some 52, some (50, true), .bin .i .eql (.t 51) (.c (.d (.int .i64 11)))⟩,
      ⟨some 53, none, .pick (.t 50) (.t 52) (.c (.d (.bool false)))⟩,
      ⟨some 0, none, .mov false (.t 53)⟩] [0]) <|
    .ret
/- cartouche/cartouchelaw2.QuoteRunes -/
def n_law2_QuoteRunes : Nat := 5
def f_law2_QuoteRunes : SFunc where
  np := 1
  res := [.slot 2]
  body := .seq (.reg [⟨some 2, none, .mov false (.c (.d (.bool false)))⟩] [0]) <|
    .seq (.reg [⟨some 4, none, .mov false (.t 0)⟩,
      ⟨some 5, none, .call 14 [(false, .t 4)]⟩,
      ⟨some 3, none, .mov false (.t 5)⟩] [0, 3]) <|
    .seq (.reg [⟨some 6, none, .call 9 []⟩,
      ⟨some 7, none, .mov false (.t 6)⟩,
      ⟨some 8, some (7, true), .mov false (.t 0)⟩,
      ⟨some 9, some (7, true), .call 12 [(false, .t 8)]⟩,
      ⟨some 10, some (7, true), .mov false (.t 3)⟩,
      ⟨some 11, some (7, true), .bin .i .geq (.t 10) (.c (.d (.int .i64 0)))⟩,
      ⟨some 12, some (7, true), .bin .b .eql (.t 9) (.t 11)⟩,
      ⟨some 13, none, .pick (.t 7) (.t 12) (.c (.d (.bool false)))⟩,
      ⟨some 14, none, .mov false (.t 13)⟩,
      ⟨some 15, some (14, true), .mov true (.t 0)⟩,
      ⟨some 16, some (14, true), .call 13 [(false, .t 15)]⟩,
      ⟨some 17, some (14, true), .mov false (.t 3)⟩,
      ⟨some 18, some (14, true), .max2 (.t 17) (.c (.d (.int .i64 0)))⟩,
      ⟨some 19, some (14, true), .bin .i .eql (.t 16) (.t 18)⟩,
      ⟨some 20, none, .pick (.t 14) (.t 19) (.c (.d (.bool false)))⟩,
      ⟨some 2, none, .mov false (.t 20)⟩] [2]) <|
    .ret
/- cartouche/cartouchelaw2.QuoteBack -/
def l_law2_QuoteBack_9 : SC :=
  .seq (.seq (.reg [⟨some 14, none, .mov false (.t 6)⟩,
      ⟨some 15, none, .mov false (.t 5)⟩,
      ⟨some 16, none, .len true (.t 15)⟩,
      ⟨some 17, none, .bin .i .lss (.t 14) (.t 16)⟩] [0, 1, 5, 6, 17]) <|
    .cond (.t 17)
      (.skip)
      (.exit 0)) <|
    .seq (.block 1 <| .seq (.reg [⟨some 20, none, .mov false (.t 5)⟩,
      ⟨some 21, none, .mov false (.t 6)⟩,
      ⟨some 22, none, .sidx (.t 20) (.t 21)⟩,
      ⟨some 23, none, .bin .i .lss (.t 22) (.c (.d (.int .u8 32)))⟩,
      ⟨some 24, none, .mov false (.t 23)⟩,
      ⟨some 25, some (24, false), .mov false (.t 5)⟩,
      ⟨some 26, some (24, false), .mov false (.t 6)⟩,
      ⟨some 27, some (24, false), .sidx (.t 25) (.t 26)⟩,
      ⟨some 28, some (24, false), .bin .i .gtr (.t 27) (.c (.d (.int .u8 126)))⟩,
      ⟨some 29, none, .pick (.t 24) (.c (.d (.bool true))) (.t 28)⟩] [0, 1, 5, 6, 29]) <|
    .cond (.t 29)
      (.seq (.reg [⟨some 4, none, .mov false (.c (.d (.bool false)))⟩] [4]) <|
      .ret)
      (.skip)) <|
    .reg [⟨some 18, none, .mov false (.t 6)⟩,
      ⟨some 19, none, .bin .i .add (.t 18) (.c (.d (.int .i64 1)))⟩,
      ⟨some 6, none, .mov false (.t 19)⟩] [0, 1, 5, 6]
def n_law2_QuoteBack : Nat := 6
def f_law2_QuoteBack : SFunc where
  np := 2
  res := [.slot 4]
  body := .seq (.reg [⟨some 4, none, .mov false (.c (.d (.bool false)))⟩] [0, 1]) <|
    .seq (.seq (.reg [⟨some 10, none, .call 9 []⟩,
      ⟨some 11, none, .not (.t 10)⟩] [0, 1, 11]) <|
    .cond (.t 11)
      (.seq (.reg [⟨some 4, none, .mov false (.c (.d (.bool false)))⟩] [4]) <|
      .ret)
      (.skip)) <|
    .seq (.reg [⟨some 12, none, .mov false (.t 0)⟩,
      ⟨some 13, none, .call 10 [(false, .t 12)]⟩,
      ⟨some 5, none, .mov false (.t 13)⟩] [0, 1, 5]) <|
    .seq (.seq (.reg [⟨some 6, none, .mov false (.c (.d (.int .i64 0)))⟩] [0, 1, 5, 6]) <|
    .block 0 <| .loop l_law2_QuoteBack_9) <|
    .seq (.reg [⟨some 31, none, .mov false (.t 5)⟩,
      ⟨some 32, none, .call 7 [(false, .t 31)]⟩,
      ⟨some 30, none, .mov false (.t 32)⟩,
      ⟨some 33, none, .ext (.t 30) 0⟩,
      ⟨some 34, none, .ext (.t 30) 1⟩,
      ⟨some 7, none, .mov true (.t 33)⟩,
      ⟨some 8, none, .mov false (.t 34)⟩] [0, 1, 5, 7, 8]) <|
    .seq (.seq (.reg [⟨some 35, none, .mov false (.t 5)⟩,
      ⟨some 36, none, .len true (.t 35)⟩,
      ⟨some 37, none, .bin .i .gtr (.t 36) (.c (.d (.int .i64 65536)))⟩] [0, 1, 7, 8, 37]) <|
    .cond (.t 37)
      (.seq (.reg [⟨some 38, none, .mov false (.t 8)⟩,
        ⟨some 39, none, .bin .i .eql (.t 38) (.c (.d (.int .i64 1)))⟩,
        ⟨some 4, none, .mov false (.t 39)⟩] [4]) <|
      .ret)
      (.skip)) <|
    .seq (.seq (.reg [⟨some 40, none, .mov false (.t 8)⟩,
      ⟨some 41, none, .bin .i .neq (.t 40) (.c (.d (.int .i64 0)))⟩,
      ⟨some 42, none, .mov false (.t 41)⟩,
      ⟨some 43, some (42, false), .mov true (.t 7)⟩,
      ⟨some 44, some (42, false), .cstr (.t 43)⟩,
      ⟨some 45, some (42, false), .mov false (.t 0)⟩,
      ⟨some 46, some (42, false), .cstr (.t 45)⟩,
      ⟨some 47, some (42, false), .bin .s .neq (.t 44) (.t 46)⟩,
      ⟨some 48, none, .pick (.t 42) (.c (.d (.bool true))) (.t 47)⟩] [0, 1, 48]) <|
    .cond (.t 48)
      (.seq (.reg [⟨some 4, none, .mov false (.c (.d (.bool false)))⟩] [4]) <|
      .ret)
      (.skip)) <|
    .seq (.seq (.reg [⟨some 49, none, .mov false (.t 0)⟩,
      ⟨some 50, none, .call 12 [(false, .t 49)]⟩,
      ⟨some 51, none, .mov false (.t 50)⟩,
      ⟨some 52, some (51, true), .mov false (.t 1)⟩,
      ⟨some 53, some (51, true), .call 12 [(false, .t 52)]⟩,
      ⟨some 54, none, .pick (.t 51) (.t 53) (.c (.d (.bool false)))⟩] [0, 1, 54]) <|
    .cond (.t 54)
      (.seq (.reg [⟨some 55, none, .mk 1 []⟩,
        ⟨some 56, none, .mov false (.t 0)⟩,
        ⟨some 57, none, .app false 1 1 (.t 55) (.t 56)⟩,
        ⟨some 58, none, .mov false (.t 1)⟩,
        ⟨some 59, none, .app false 1 1 (.t 57) (.t 58)⟩,
        ⟨some 9, none, .mov true (.t 59)⟩] [0, 1, 9]) <|
      .seq (.reg [⟨some 60, none, .mov false (.t 9)⟩,
        ⟨some 61, none, .call 12 [(false, .t 60)]⟩,
        ⟨some 62, none, .mov false (.t 61)⟩,
        ⟨some 63, some (62, true), .mov true (.t 9)⟩,
        ⟨some 64, some (62, true), .call 13 [(false, .t 63)]⟩,
        ⟨some 65, some (62, true), .mov true (.t 0)⟩,
        ⟨some 66, some (62, true), .call 13 [(false, .t 65)]⟩,
        ⟨some 67, some (62, true), .mov true (.t 1)⟩,
        ⟨some 68, some (62, true), .call 13 [(false, .t 67)]⟩,
        ⟨some 69, some (62, true), .bin .i .add (.t 66) (.t 68)⟩,
        ⟨some 70, some (62, true), .bin .i .eql (.t 64) (.t 69)⟩,
        ⟨some 71, none, .pick (.t 62) (.t 70) (.c (.d (.bool false)))⟩,
        ⟨some 4, none, .mov false (.t 71)⟩] [4]) <|
      .ret)
      (.skip)) <|
    .seq (.reg [⟨some 72, none, .mov false (.t 0)⟩,
      ⟨some 73, none, .call 12 [(false, .t 72)]⟩,
      ⟨some 74, none, .mov false (.t 73)⟩,
      ⟨some 75, some (74, false), .mov true (.t 0)⟩,
      ⟨some 76, some (74, false), .call 13 [(false, .t 75)]⟩,
      ⟨some 77, some (74, false), .bin .i .eql (.t 76) (.c (.d (.int .i64 0)))⟩,
      ⟨some 78, none, .pick (.t 74) (.c (.d (.bool true))) (.t 77)⟩,
      ⟨some 4, none, .mov false (.t 78)⟩] [4]) <|
    .ret
/- cartouche/quote.Unquote -/
def l_quote_Unquote_1 : SC :=
  .seq (.seq (.reg [⟨some 34, none, .mov false (.t 5)⟩,
      ⟨some 35, none, .mov false (.t 0)⟩,
      ⟨some 36, none, .len true (.t 35)⟩,
      ⟨some 37, none, .bin .i .lss (.t 34) (.t 36)⟩] [0, 4, 5, 37]) <|
    .cond (.t 37)
      (.skip)
      (.exit 0)) <|
    .seq (.block 1 <| .seq (.reg [⟨some 40, none, .mov false (.t 0)⟩,
      ⟨some 41, none, .mov false (.t 5)⟩,
      ⟨some 42, none, .sidx (.t 40) (.t 41)⟩,
      ⟨some 6, none, .mov false (.t 42)⟩] [0, 4, 5, 6]) <|
    .seq (.block 2 <| .seq (.reg [⟨some 44, none, .mov false (.t 6)⟩,
      ⟨some 45, none, .bin .i .eql (.t 44) (.c (.d (.int .u8 34)))⟩,
      ⟨some 46, none, .mov false (.t 45)⟩,
      ⟨some 47, some (46, false), .mov false (.t 6)⟩,
      ⟨some 48, some (46, false), .bin .i .eql (.t 47) (.c (.d (.int .u8 10)))⟩,
      ⟨some 49, none, .pick (.t 46) (.c (.d (.bool true))) (.t 48)⟩,
      ⟨some 50, none, .mov false (.t 49)⟩,
      ⟨some 51, some (50, false), .mov false (.t 6)⟩,
      ⟨some 52, some (50, false), .bin .i .eql (.t 51) (.c (.d (.int .u8 92)))⟩,
      ⟨some 53, some (50, false), .mov false (.t 52)⟩,
      ⟨some 54, some (53, true), .mov false (.t 5)⟩,
      ⟨some 55, some (53, true), .bin .i .add (.t 54) (.c (.d (.int .i64 1)))⟩,
      ⟨some 56, some (53, true), .mov false (.t 0)⟩,
      ⟨some 57, some (53, true), .len true (.t 56)⟩,
      ⟨some 58, some (53, true), .bin .i .eql (.t 55) (.t 57)⟩,
      ⟨some 59, some (50, false), .pick (.t 53) (.t 58) (.c (.d (.bool false)))⟩,
      ⟨some 60, none, .pick (.t 50) (.c (.d (.bool true))) (.t 59)⟩,
      ⟨some 43, none, .mov false (.t 60)⟩] [0, 4, 5, 6, 43]) <|
    .cond (.t 43)
      (.seq (.reg [⟨some 2, none, .mov true (.c (.own 1 []))⟩,
        ⟨some 3, none, .mov false (.c (.d (.int .i64 11)))⟩] [2, 3]) <|
      .ret)
      (.seq (.reg [⟨some 62, none, .mov false (.t 6)⟩,
        ⟨some 63, none, .bin .i .neq (.t 62) (.c (.d (.int .u8 92)))⟩,
        ⟨some 61, none, .mov false (.t 63)⟩] [0, 4, 5, 6, 61]) <|
      .cond (.t 61)
        (.seq (.reg [⟨some 64, none, .mov true (.t 4)⟩,
          ⟨some 65, none, .mov false (.t 6)⟩,
          ⟨some 66, none, .mk 1 [.t 65]⟩,
          ⟨some 67, none, .app false 1 1 (.t 64) (.t 66)⟩,
          ⟨some 4, none, .mov true (.t 67)⟩] [0, 4, 5]) <|
        .exit 1)
        (.skip))) <|
    .seq (.reg [⟨some 68, none, .mov false (.t 5)⟩,
      ⟨some 69, none, .bin .i .add (.t 68) (.c (.d (.int .i64 1)))⟩,
      ⟨some 5, none, .mov false (.t 69)⟩] [0, 4, 5]) <|
    .seq (.reg [⟨some 70, none, .mov false (.t 0)⟩,
      ⟨some 71, none, .mov false (.t 5)⟩,
      ⟨some 72, none, .sidx (.t 70) (.t 71)⟩] [0, 4, 5, 72]) <|
    .block 3 <| .seq (.seq (.reg [⟨some 74, none, .bin .i .eql (.t 72) (.c (.d (.int .u8 34)))⟩,
      ⟨some 73, none, .mov false (.t 74)⟩] [0, 4, 5, 72, 73]) <|
    .cond (.t 73)
      (.skip)
      (.reg [⟨some 75, none, .bin .i .eql (.t 72) (.c (.d (.int .u8 92)))⟩,
        ⟨some 73, none, .mov false (.t 75)⟩] [0, 4, 5, 72, 73])) <|
    .cond (.t 73)
      (.reg [⟨some 76, none, .mov true (.t 4)⟩,
        ⟨some 77, none, .mov false (.t 0)⟩,
        ⟨some 78, none, .mov false (.t 5)⟩,
        ⟨some 79, none, .sidx (.t 77) (.t 78)⟩,
        ⟨some 80, none, .mk 1 [.t 79]⟩,
        ⟨some 81, none, .app false 1 1 (.t 76) (.t 80)⟩,
        ⟨some 4, none, .mov true (.t 81)⟩] [0, 4, 5])
      (.seq (.reg [⟨some 83, none, .bin .i .eql (.t 72) (.c (.d (.int .u8 110)))⟩,
        ⟨some 82, none, .mov false (.t 83)⟩] [0, 4, 5, 72, 82]) <|
      .cond (.t 82)
        (.reg [⟨some 84, none, .mov true (.t 4)⟩,
          ⟨some 85, none, .mk 1 [.c (.d (.int .u8 10))]⟩,
          ⟨some 86, none, .app false 1 1 (.t 84) (.t 85)⟩,
          ⟨some 4, none, .mov true (.t 86)⟩] [0, 4, 5])
        (.seq (.reg [⟨some 88, none, .bin .i .eql (.t 72) (.c (.d (.int .u8 116)))⟩,
          ⟨some 87, none, .mov false (.t 88)⟩] [0, 4, 5, 72, 87]) <|
        .cond (.t 87)
          (.reg [⟨some 89, none, .mov true (.t 4)⟩,
            ⟨some 90, none, .mk 1 [.c (.d (.int .u8 9))]⟩,
            ⟨some 91, none, .app false 1 1 (.t 89) (.t 90)⟩,
            ⟨some 4, none, .mov true (.t 91)⟩] [0, 4, 5])
          (.seq (.reg [⟨some 93, none, .bin .i .eql (.t 72) (.c (.d (.int .u8 114)))⟩,
            ⟨some 92, none, .mov false (.t 93)⟩] [0, 4, 5, 72, 92]) <|
          .cond (.t 92)
            (.reg [⟨some 94, none, .mov true (.t 4)⟩,
              ⟨some 95, none, .mk 1 [.c (.d (.int .u8 13))]⟩,
              ⟨some 96, none, .app false 1 1 (.t 94) (.t 95)⟩,
              ⟨some 4, none, .mov true (.t 96)⟩] [0, 4, 5])
            (.seq (.reg [⟨some 98, none, .bin .i .eql (.t 72) (.c (.d (.int .u8 120)))⟩,
              ⟨some 97, none, .mov false (.t 98)⟩] [0, 4, 5, 97]) <|
            .cond (.t 97)
              (.seq (.seq (.reg [⟨some 99, none, .mov false (.t 0)⟩,
                ⟨some 100, none, .len true (.t 99)⟩,
                ⟨some 101, none, .mov false (.t 5)⟩,
                ⟨some 102, none, .bin .i .sub (.t 100) (.t 101)⟩,
                ⟨some 103, none, .bin .i .lss (.t 102) (.c (.d (.int .i64 3)))⟩,
                ⟨some 104, none, .mov false (.t 103)⟩,
                ⟨some 105, some (104, false), .mov false (.t 0)⟩,
                ⟨some 106, some (104, false), .mov false (.t 5)⟩,
                ⟨some 107, some (104, false), .bin .i .add (.t 106) (.c (.d (.int .i64 1)))⟩,
                ⟨some 108, some (104, false), .sidx (.t 105) (.t 107)⟩,
                ⟨some 109, some (104, false), .call 15 [(false, .t 108)]⟩,
                ⟨some 110, some (104, false), .bin .i .lss (.t 109) (.c (.d (.int .i64 0)))⟩,
                ⟨some 111, none, .pick (.t 104) (.c (.d (.bool true))) (.t 110)⟩,
                ⟨some 112, none, .mov false (.t 111)⟩,
                ⟨some 113, some (112, false), .mov false (.t 0)⟩,
                ⟨some 114, some (112, false), .mov false (.t 5)⟩,
                ⟨some 115, some (112, false), .bin .i .add (.t 114) (.c (.d (.int .i64 2)))⟩,
                ⟨some 116, some (112, false), .sidx (.t 113) (.t 115)⟩,
                ⟨some 117, some (112, false), .call 15 [(false, .t 116)]⟩,
                ⟨some 118, some (112, false), .bin .i .lss (.t 117) (.c (.d (.int .i64 0)))⟩,
                ⟨some 119, none, .pick (.t 112) (.c (.d (.bool true))) (.t 118)⟩] [0, 4, 5, 119]) <|
              .cond (.t 119)
                (.seq (.reg [⟨some 2, none, .mov true (.c (.own 1 []))⟩,
                  ⟨some 3, none, .mov false (.c (.d (.int .i64 11)))⟩] [2, 3]) <|
                .ret)
                (.skip)) <|
              .seq (.reg [⟨some 120, none, .mov true (.t 4)⟩,
                ⟨some 121, none, .mov false (.t 0)⟩,
                ⟨some 122, none, .mov false (.t 5)⟩,
                ⟨some 123, none, .bin .i .add (.t 122) (.c (.d (.int .i64 1)))⟩,
                ⟨some 124, none, .sidx (.t 121) (.t 123)⟩,
                ⟨some 125, none, .call 15 [(false, .t 124)]⟩,
                ⟨some 126, none, .bin .i .shl (.t 125) (.c (.d (.int .u64 4)))⟩,
                ⟨some 127, none, .mov false (.t 0)⟩,
                ⟨some 128, none, .mov false (.t 5)⟩,
                ⟨some 129, none, .bin .i .add (.t 128) (.c (.d (.int .i64 2)))⟩,
                ⟨some 130, none, .sidx (.t 127) (.t 129)⟩,
                ⟨some 131, none, .call 15 [(false, .t 130)]⟩,
                ⟨some 132, none, .bin .i .or (.t 126) (.t 131)⟩,
                ⟨some 133, none, .cint .u8 (.t 132)⟩,
                ⟨some 134, none, .mk 1 [.t 133]⟩,
                ⟨some 135, none, .app false 1 1 (.t 120) (.t 134)⟩,
                ⟨some 4, none, .mov true (.t 135)⟩] [0, 4, 5]) <|
              .reg [⟨some 136, none, .mov false (.t 5)⟩,
                ⟨some 137, none, .bin .i .add (.t 136) (.c (.d (.int .i64 2)))⟩,
                ⟨some 5, none, .mov false (.t 137)⟩] [0, 4, 5])
              (.seq (.reg [⟨some 2, none, .mov true (.c (.own 1 []))⟩,
                ⟨some 3, none, .mov false (.c (.d (.int .i64 11)))⟩] [2, 3]) <|
              .ret)))))) <|
    .reg [⟨some 38, none, .mov false (.t 5)⟩,
      ⟨some 39, none, .bin .i .add (.t 38) (.c (.d (.int .i64 1)))⟩,
      ⟨some 5, none, .mov false (.t 39)⟩] [0, 4, 5]
def n_quote_Unquote : Nat := 7
def f_quote_Unquote : SFunc where
  np := 1
  res := [.slot 2, .slot 3]
  body := .seq (.reg [⟨some 2, none, .mov true (.c (.own 1 []))⟩,
      ⟨some 3, none, .mov false (.c (.d (.int .i64 0)))⟩] [0]) <|
    .seq (.seq (.reg [⟨some 7, none, .mov false (.t 0)⟩,
      ⟨some 8, none, .len true (.t 7)⟩,
      ⟨some 9, none, .bin .i .gtr (.t 8) (.c (.d (.int .i64 65536)))⟩] [0, 9]) <|
    .cond (.t 9)
      (.seq (.reg [⟨some 2, none, .mov true (.c (.own 1 []))⟩,
        ⟨some 3, none, .mov false (.c (.d (.int .i64 1)))⟩] [2, 3]) <|
      .ret)
      (.skip)) <|
    .seq (.seq (.reg [⟨some 10, none, .mov false (.t 0)⟩,
      ⟨some 11, none, .len true (.t 10)⟩,
      ⟨some 12, none, .bin .i .lss (.t 11) (.c (.d (.int .i64 2)))⟩,
      ⟨some 13, none, .mov false (.t 12)⟩,
      ⟨some 14, some (13, false), .mov false (.t 0)⟩,
      ⟨some 15, some (13, false), .sidx (.t 14) (.c (.d (.int .i64 0)))⟩,
      ⟨some 16, some (13, false), .bin .i .neq (.t 15) (.c (.d (.int .u8 34)))⟩,
      ⟨some 17, none, .pick (.t 13) (.c (.d (.bool true))) (.t 16)⟩,
      ⟨some 18, none, .mov false (.t 17)⟩,
      ⟨some 19, some (18, false), .mov false (.t 0)⟩,
      ⟨some 20, some (18, false), .mov false (.t 0)⟩,
      ⟨some 21, some (18, false), .len true (.t 20)⟩,
      ⟨some 22, some (18, false), .bin .i .sub (.t 21) (.c (.d (.int .i64 1)))⟩,
      ⟨some 23, some (18, false), .sidx (.t 19) (.t 22)⟩,
      ⟨some 24, some (18, false), .bin .i .neq (.t 23) (.c (.d (.int .u8 34)))⟩,
      ⟨some 25, none, .pick (.t 18) (.c (.d (.bool true))) (.t 24)⟩] [0, 25]) <|
    .cond (.t 25)
      (.seq (.reg [⟨some 2, none, .mov true (.c (.own 1 []))⟩,
        ⟨some 3, none, .mov false (.c (.d (.int .i64 11)))⟩] [2, 3]) <|
      .ret)
      (.skip)) <|
    .seq (.reg [⟨some 26, none, .mov false (.t 0)⟩,
      ⟨some 27, none, .mov false (.t 0)⟩,
      ⟨some 28, none, .len true (.t 27)⟩,
      ⟨some 29, none, .bin .i .sub (.t 28) (.c (.d (.int .i64 1)))⟩,
      ⟨some 30, none, .slcs (.t 26) (some (.c (.d (.int .i64 1)))) (some (.t 29))⟩,
      ⟨some 0, none, .mov false (.t 30)⟩] [0]) <|
    .seq (.reg [⟨some 31, none, .mov false (.t 0)⟩,
      ⟨some 32, none, .len true (.t 31)⟩,
      ⟨some 33, none, .make (.int .u8 0) 1 (.c (.d (.int .i64 0))) (.t 32)⟩,
      ⟨some 4, none, .mov true (.t 33)⟩] [0, 4]) <|
    .seq (.seq (.reg [⟨some 5, none, .mov false (.c (.d (.int .i64 0)))⟩] [0, 4, 5]) <|
    .block 0 <| .loop l_quote_Unquote_1) <|
    .seq (.reg [⟨some 138, none, .mov false (.t 4)⟩,
      ⟨some 139, none, .len false (.t 138)⟩,
      ⟨some 140, none, .make (.int .u8 0) 1 (.c (.d (.int .i64 0))) (.t 139)⟩,
      ⟨some 141, none, .mov true (.t 4)⟩,
      ⟨some 142, none, .app false 1 1 (.t 140) (.t 141)⟩,
      ⟨some 2, none, .mov true (.t 142)⟩,
      ⟨some 3, none, .mov false (.c (.d (.int .i64 0)))⟩] [2, 3]) <|
    .ret
/- cartouche/cartoucheref2.Unquote -/
def l_ref2_Unquote_1 : SC :=
  .seq (.seq (.reg [⟨some 27, none, .mov false (.t 6)⟩,
      ⟨some 28, none, .mov false (.t 5)⟩,
      ⟨some 29, none, .bin .i .lss (.t 27) (.t 28)⟩] [0, 4, 5, 6, 29]) <|
    .cond (.t 29)
      (.skip)
      (.exit 0)) <|
    .seq (.block 1 <| .seq (.reg [⟨some 32, none, .mov false (.t 0)⟩,
      ⟨some 33, none, .mov false (.t 6)⟩,
      ⟨some 34, none, .sidx (.t 32) (.t 33)⟩,
      ⟨some 7, none, .mov false (.t 34)⟩] [0, 4, 5, 6, 7]) <|
    .seq (.seq (.reg [⟨some 35, none, .mov false (.t 7)⟩,
      ⟨some 36, none, .bin .i .eql (.t 35) (.c (.d (.int .u8 34)))⟩,
      ⟨some 37, none, .mov false (.t 36)⟩,
      ⟨some 38, some (37, false), .mov false (.t 7)⟩,
      ⟨some 39, some (37, false), .bin .i .eql (.t 38) (.c (.d (.int .u8 10)))⟩,
      ⟨some 40, none, .pick (.t 37) (.c (.d (.bool true))) (.t 39)⟩] [0, 4, 5, 6, 7, 40]) <|
    .cond (.t 40)
      (.seq (.reg [⟨some 2, none, .mov true (.c (.own 1 []))⟩,
        ⟨some 3, none, .mov false (.c (.d (.bool false)))⟩] [2, 3]) <|
      .ret)
      (.skip)) <|
    .seq (.seq (.reg [⟨some 41, none, .mov false (.t 7)⟩,
      ⟨some 42, none, .bin .i .neq (.t 41) (.c (.d (.int .u8 92)))⟩] [0, 4, 5, 6, 7, 42]) <|
    .cond (.t 42)
      (.seq (.reg [⟨some 43, none, .mov true (.t 4)⟩,
        ⟨some 44, none, .mov false (.t 7)⟩,
        ⟨some 45, none, .mk 1 [.t 44]⟩,
        ⟨some 46, none, .app false 1 1 (.t 43) (.t 45)⟩,
        ⟨some 4, none, .mov true (.t 46)⟩] [0, 4, 5, 6]) <|
      .exit 1)
      (.skip)) <|
    .seq (.reg [⟨some 47, none, .mov false (.t 6)⟩,
      ⟨some 48, none, .bin .i .add (.t 47) (.c (.d (.int .i64 1)))⟩,
      ⟨some 6, none, .mov false (.t 48)⟩] [0, 4, 5, 6]) <|
    .seq (.seq (.reg [⟨some 49, none, .mov false (.t 6)⟩,
      ⟨some 50, none, .mov false (.t 5)⟩,
      ⟨some 51, none, .bin .i .geq (.t 49) (.t 50)⟩] [0, 4, 5, 6, 51]) <|
    .cond (.t 51)
      (.seq (.reg [⟨some 2, none, .mov true (.c (.own 1 []))⟩,
        ⟨some 3, none, .mov false (.c (.d (.bool false)))⟩] [2, 3]) <|
      .ret)
      (.skip)) <|
    .seq (.reg [⟨some 52, none, .mov false (.t 0)⟩,
      ⟨some 53, none, .mov false (.t 6)⟩,
      ⟨some 54, none, .sidx (.t 52) (.t 53)⟩] [0, 4, 5, 6, 54]) <|
    .block 2 <| .seq (.seq (.reg [⟨some 56, none, .bin .i .eql (.t 54) (.c (.d (.int .u8 34)))⟩,
      ⟨some 55, none, .mov false (.t 56)⟩] [0, 4, 5, 6, 54, 55]) <|
    .cond (.t 55)
      (.skip)
      (.reg [⟨some 57, none, .bin .i .eql (.t 54) (.c (.d (.int .u8 92)))⟩,
        ⟨some 55, none, .mov false (.t 57)⟩] [0, 4, 5, 6, 54, 55])) <|
    .cond (.t 55)
      (.reg [⟨some 58, none, .mov true (.t 4)⟩,
        ⟨some 59, none, .mov false (.t 0)⟩,
        ⟨some 60, none, .mov false (.t 6)⟩,
        ⟨some 61, none, .sidx (.t 59) (.t 60)⟩,
        ⟨some 62, none, .mk 1 [.t 61]⟩,
        ⟨some 63, none, .app false 1 1 (.t 58) (.t 62)⟩,
        ⟨some 4, none, .mov true (.t 63)⟩] [0, 4, 5, 6])
      (.seq (.reg [⟨some 65, none, .bin .i .eql (.t 54) (.c (.d (.int .u8 110)))⟩,
        ⟨some 64, none, .mov false (.t 65)⟩] [0, 4, 5, 6, 54, 64]) <|
      .cond (.t 64)
        (.reg [⟨some 66, none, .mov true (.t 4)⟩,
          ⟨some 67, none, .mk 1 [.c (.d (.int .u8 10))]⟩,
          ⟨some 68, none, .app false 1 1 (.t 66) (.t 67)⟩,
          ⟨some 4, none, .mov true (.t 68)⟩] [0, 4, 5, 6])
        (.seq (.reg [⟨some 70, none, .bin .i .eql (.t 54) (.c (.d (.int .u8 116)))⟩,
          ⟨some 69, none, .mov false (.t 70)⟩] [0, 4, 5, 6, 54, 69]) <|
        .cond (.t 69)
          (.reg [⟨some 71, none, .mov true (.t 4)⟩,
            ⟨some 72, none, .mk 1 [.c (.d (.int .u8 9))]⟩,
            ⟨some 73, none, .app false 1 1 (.t 71) (.t 72)⟩,
            ⟨some 4, none, .mov true (.t 73)⟩] [0, 4, 5, 6])
          (.seq (.reg [⟨some 75, none, .bin .i .eql (.t 54) (.c (.d (.int .u8 114)))⟩,
            ⟨some 74, none, .mov false (.t 75)⟩] [0, 4, 5, 6, 54, 74]) <|
          .cond (.t 74)
            (.reg [⟨some 76, none, .mov true (.t 4)⟩,
              ⟨some 77, none, .mk 1 [.c (.d (.int .u8 13))]⟩,
              ⟨some 78, none, .app false 1 1 (.t 76) (.t 77)⟩,
              ⟨some 4, none, .mov true (.t 78)⟩] [0, 4, 5, 6])
            (.seq (.reg [⟨some 80, none, .bin .i .eql (.t 54) (.c (.d (.int .u8 120)))⟩,
              ⟨some 79, none, .mov false (.t 80)⟩] [0, 4, 5, 6, 79]) <|
            .cond (.t 79)
              (.seq (.seq (.reg [⟨some 81, none, .mov false (.t 6)⟩,
                ⟨some 82, none, .bin .i .add (.t 81) (.c (.d (.int .i64 2)))⟩,
                ⟨some 83, none, .mov false (.t 5)⟩,
                ⟨some 84, none, .bin .i .geq (.t 82) (.t 83)⟩,
                ⟨some 85, none, .mov false (.t 84)⟩,
                ⟨some 86, some (85, false), .mov false (.t 0)⟩,
                ⟨some 87, some (85, false), .mov false (.t 6)⟩,
                ⟨some 88, some (85, false), .bin .i .add (.t 87) (.c (.d (.int .i64 1)))⟩,
                ⟨some 89, some (85, false), .sidx (.t 86) (.t 88)⟩,
                ⟨some 90, some (85, false), .call 16 [(false, .t 89)]⟩,
                ⟨some 91, some (85, false), .bin .i .lss (.t 90) (.c (.d (.int .i64 0)))⟩,
                ⟨some 92, none, .pick (.t 85) (.c (.d (.bool true))) (.t 91)⟩,
                ⟨some 93, none, .mov false (.t 92)⟩,
                ⟨some 94, some (93, false), .mov false (.t 0)⟩,
                ⟨some 95, some (93, false), .mov false (.t 6)⟩,
                ⟨some 96, some (93, false), .bin .i .add (.t 95) (.c (.d (.int .i64 2)))⟩,
                ⟨some 97, some (93, false), .sidx (.t 94) (.t 96)⟩,
                ⟨some 98, some (93, false), .call 16 [(false, .t 97)]⟩,
                ⟨some 99, some (93, false), .bin .i .lss (.t 98) (.c (.d (.int .i64 0)))⟩,
                ⟨some 100, none, .pick (.t 93) (.c (.d (.bool true))) (.t 99)⟩] [0, 4, 5, 6, 100]) <|
              .cond (.t 100)
                (.seq (.reg [⟨some 2, none, .mov true (.c (.own 1 []))⟩,
                  ⟨some 3, none, .mov false (.c (.d (.bool false)))⟩] [2, 3]) <|
                .ret)
                (.skip)) <|
              .seq (.reg [⟨some 101, none, .mov true (.t 4)⟩,
                ⟨some 102, none, .mov false (.t 0)⟩,
                ⟨some 103, none, .mov false (.t 6)⟩,
                ⟨some 104, none, .bin .i .add (.t 103) (.c (.d (.int .i64 1)))⟩,
                ⟨some 105, none, .sidx (.t 102) (.t 104)⟩,
                ⟨some 106, none, .call 16 [(false, .t 105)]⟩,
                ⟨some 107, none, .bin .i .mul (.t 106) (.c (.d (.int .i64 16)))⟩,
                ⟨some 108, none, .mov false (.t 0)⟩,
                ⟨some 109, none, .mov false (.t 6)⟩,
                ⟨some 110, none, .bin .i .add (.t 109) (.c (.d (.int .i64 2)))⟩,
                ⟨some 111, none, .sidx (.t 108) (.t 110)⟩,
                ⟨some 112, none, .call 16 [(false, .t 111)]⟩,
                ⟨some 113, none, .bin .i .add (.t 107) (.t 112)⟩,
                ⟨some 114, none, .cint .u8 (.t 113)⟩,
                ⟨some 115, none, .mk 1 [.t 114]⟩,
                ⟨some 116, none, .app false 1 1 (.t 101) (.t 115)⟩,
                ⟨some 4, none, .mov true (.t 116)⟩] [0, 4, 5, 6]) <|
              .reg [⟨some 117, none, .mov false (.t 6)⟩,
                ⟨some 118, none, .bin .i .add (.t 117) (.c (.d (.int .i64 2)))⟩,
                ⟨some 6, none, .mov false (.t 118)⟩] [0, 4, 5, 6])
              (.seq (.reg [⟨some 2, none, .mov true (.c (.own 1 []))⟩,
                ⟨some 3, none, .mov false (.c (.d (.bool false)))⟩] [2, 3]) <|
              .ret)))))) <|
    .reg [⟨some 30, none, .mov false (.t 6)⟩,
      ⟨some 31, none, .bin .i .add (.t 30) (.c (.d (.int .i64 1)))⟩,
      ⟨some 6, none, .mov false (.t 31)⟩] [0, 4, 5, 6]
def n_ref2_Unquote : Nat := 8
def f_ref2_Unquote : SFunc where
  np := 1
  res := [.slot 2, .slot 3]
  body := .seq (.reg [⟨some 2, none, .mov true (.c (.own 1 []))⟩,
      ⟨some 3, none, .mov false (.c (.d (.bool false)))⟩] [0]) <|
    .seq (.reg [⟨some 4, none, .mov true (.c (.own 1 []))⟩] [0, 4]) <|
    .seq (.seq (.reg [⟨some 8, none, .mov false (.t 0)⟩,
      ⟨some 9, none, .len true (.t 8)⟩,
      ⟨some 10, none, .bin .i .lss (.t 9) (.c (.d (.int .i64 2)))⟩,
      ⟨some 11, none, .mov false (.t 10)⟩,
      ⟨some 12, some (11, false), .mov false (.t 0)⟩,
      ⟨some 13, some (11, false), .sidx (.t 12) (.c (.d (.int .i64 0)))⟩,
      ⟨some 14, some (11, false), .bin .i .neq (.t 13) (.c (.d (.int .u8 34)))⟩,
      ⟨some 15, none, .pick (.t 11) (.c (.d (.bool true))) (.t 14)⟩,
      ⟨some 16, none, .mov false (.t 15)⟩,
      ⟨some 17, some (16, false), .mov false (.t 0)⟩,
      ⟨some 18, some (16, false), .mov false (.t 0)⟩,
      ⟨some 19, some (16, false), .len true (.t 18)⟩,
      ⟨some 20, some (16, false), .bin .i .sub (.t 19) (.c (.d (.int .i64 1)))⟩,
      ⟨some 21, some (16, false), .sidx (.t 17) (.t 20)⟩,
      ⟨some 22, some (16, false), .bin .i .neq (.t 21) (.c (.d (.int .u8 34)))⟩,
      ⟨some 23, none, .pick (.t 16) (.c (.d (.bool true))) (.t 22)⟩] [0, 4, 23]) <|
    .cond (.t 23)
      (.seq (.reg [⟨some 2, none, .mov true (.c (.own 1 []))⟩,
        ⟨some 3, none, .mov false (.c (.d (.bool false)))⟩] [2, 3]) <|
      .ret)
      (.skip)) <|
    .seq (.reg [⟨some 24, none, .mov false (.t 0)⟩,
      ⟨some 25, none, .len true (.t 24)⟩,
      ⟨some 26, none, .bin .i .sub (.t 25) (.c (.d (.int .i64 1)))⟩,
      ⟨some 5, none, .mov false (.t 26)⟩] [0, 4, 5]) <|
    .seq (.seq (.reg [⟨some 6, none, .mov false (.c (.d (.int .i64 1)))⟩] [0, 4, 5, 6]) <|
    .block 0 <| .loop l_ref2_Unquote_1) <|
    .seq (.reg [⟨some 119, none, .mov true (.t 4)⟩,
      ⟨some 2, none, .mov true (.t 119)⟩,
      ⟨some 3, none, .mov false (.c (.d (.bool true)))⟩] [2, 3]) <|
    .ret
/- cartouche/cartouchelaw2.awake -/
def n_law2_awake : Nat := 9
def f_law2_awake : SFunc where
  np := 0
  res := [.slot 0]
  body := .seq (.reg [⟨some 0, none, .mov false (.c (.d (.bool false)))⟩] []) <|
    .seq (.reg [⟨some 4, none, .call 7 [(false, .c (.d (.str [34, 97, 92, 120, 52, 49, 34])))]⟩,
      ⟨some 3, none, .mov false (.t 4)⟩,
      ⟨some 5, none, .ext (.t 3) 0⟩,
      ⟨some 6, none, .ext (.t 3) 1⟩,
      ⟨some 1, none, .mov true (.t 5)⟩,
      ⟨some 2, none, .mov false (.t 6)⟩] [1, 2]) <|
    .seq (.reg [⟨some 7, none, .mk 1 [.c (.d (.int .u8 97)), .c (.d (.int .u8 34)), .c (.d (.int .u8 10)), .c (.d (.int .u8 0)), .c (.d (.int .u8 195))]⟩,
      ⟨some 8, none, .call 10 [(false, .t 7)]⟩,
      ⟨some 9, none, .bin .s .eql (.t 8) (.c (.d (.str [34, 97, 92, 34, 92, 110, 92, 120, 48, 48, 92, 120, 99, 51, 34])))⟩,
      ⟨some 10, none, .mov false (.t 9)⟩,
      ⟨some 11, some (10, true), .mov false (.t 2)⟩,
      ⟨some 12, some (10, true), .bin .i .eql (.t 11) (.c (.d (.int .i64 0)))⟩,
      ⟨some 13, none, .pick (.t 10) (.t 12) (.c (.d (.bool false)))⟩,
      ⟨some 14, none, .mov false (.t 13)⟩,
      ⟨some 15, some (14, true), .mov true (.t 1)⟩,
      ⟨some 16, some (14, true), .cstr (.t 15)⟩,
      ⟨some 17, some (14, true), .bin .s .eql (.t 16) (.c (.d (.str [97, 65])))⟩,
      ⟨some 18, none, .pick (.t 14) (.t 17) (.c (.d (.bool false)))⟩,
      ⟨some 19, none, .mov false (.t 18)⟩,
      ⟨some 20, some (19, true), .mk 1 [.c (.d (.int .u8 97))]⟩,
      ⟨some 21, some (19, true), .call 12 [(false, .t 20)]⟩,
      ⟨some 22, none, .pick (.t 19) (.t 21) (.c (.d (.bool false)))⟩,
      ⟨some 0, none, .mov false (.t 22)⟩] [0]) <|
    .ret
/- cartouche/quote.Quote -/
def l_quote_Quote_1 : SC :=
  .seq (.reg [⟨some 15, none, .bin .i .lss (.t 14) (.t 13)⟩] [3, 12, 13, 14, 15]) <|
    .seq (.cond (.t 15)
      (.skip)
      (.exit 0)) <|
    .seq (.block 1 <| .seq (.reg [⟨some 16, none, .iaddr 1 (.t 12) (.t 14)⟩,
      ⟨some 17, none, .load none (.t 16)⟩,
      ⟨some 5, none, .mov false (.t 17)⟩] [3, 5, 12, 13, 14]) <|
    .block 2 <| .seq (.reg [⟨some 23, none, .mov false (.t 5)⟩,
      ⟨some 24, none, .bin .i .eql (.t 23) (.c (.d (.int .u8 34)))⟩,
      ⟨some 25, none, .mov false (.t 24)⟩,
      ⟨some 26, some (25, false), .mov false (.t 5)⟩,
      ⟨some 27, some (25, false), .bin .i .eql (.t 26) (.c (.d (.int .u8 92)))⟩,
      ⟨some 28, none, .pick (.t 25) (.c (.d (.bool true))) (.t 27)⟩,
      ⟨some 22, none, .mov false (.t 28)⟩] [3, 5, 12, 13, 14, 22]) <|
    .cond (.t 22)
      (.reg [⟨some 29, none, .mov true (.t 3)⟩,
        ⟨some 30, none, .mov false (.t 5)⟩,
        ⟨some 31, none, .mk 1 [.c (.d (.int .u8 92)), .t 30]⟩,
        ⟨some 32, none, .app false 1 1 (.t 29) (.t 31)⟩,
        ⟨some 3, none, .mov true (.t 32)⟩] [3, 12, 13, 14])
      (.seq (.reg [⟨some 34, none, .mov false (.t 5)⟩,
        ⟨some 35, none, .bin .i .eql (.t 34) (.c (.d (.int .u8 10)))⟩,
        ⟨some 33, none, .mov false (.t 35)⟩] [3, 5, 12, 13, 14, 33]) <|
      .cond (.t 33)
        (.reg [⟨some 36, none, .mov true (.t 3)⟩,
          ⟨some 37, none, .mk 1 [.c (.d (.int .u8 92)), .c (.d (.int .u8 110))]⟩,
          ⟨some 38, none, .app false 1 1 (.t 36) (.t 37)⟩,
          ⟨some 3, none, .mov true (.t 38)⟩] [3, 12, 13, 14])
        (.seq (.reg [⟨some 40, none, .mov false (.t 5)⟩,
          ⟨some 41, none, .bin .i .eql (.t 40) (.c (.d (.int .u8 9)))⟩,
          ⟨some 39, none, .mov false (.t 41)⟩] [3, 5, 12, 13, 14, 39]) <|
        .cond (.t 39)
          (.reg [⟨some 42, none, .mov true (.t 3)⟩,
            ⟨some 43, none, .mk 1 [.c (.d (.int .u8 92)), .c (.d (.int .u8 116))]⟩,
            ⟨some 44, none, .app false 1 1 (.t 42) (.t 43)⟩,
            ⟨some 3, none, .mov true (.t 44)⟩] [3, 12, 13, 14])
          (.seq (.reg [⟨some 46, none, .mov false (.t 5)⟩,
            ⟨some 47, none, .bin .i .eql (.t 46) (.c (.d (.int .u8 13)))⟩,
            ⟨some 45, none, .mov false (.t 47)⟩] [3, 5, 12, 13, 14, 45]) <|
          .cond (.t 45)
            (.reg [⟨some 48, none, .mov true (.t 3)⟩,
              ⟨some 49, none, .mk 1 [.c (.d (.int .u8 92)), .c (.d (.int .u8 114))]⟩,
              ⟨some 50, none, .app false 1 1 (.t 48) (.t 49)⟩,
              ⟨some 3, none, .mov true (.t 50)⟩] [3, 12, 13, 14])
            (.seq (.reg [⟨some 52, none, .mov false (.t 5)⟩,
              ⟨some 53, none, .bin .i .lss (.t 52) (.c (.d (.int .u8 32)))⟩,
              ⟨some 54, none, .mov false (.t 53)⟩,
              ⟨some 55, some (54, false), .mov false (.t 5)⟩,
              ⟨some 56, some (54, false), .bin .i .gtr (.t 55) (.c (.d (.int .u8 126)))⟩,
              ⟨some 57, none, .pick (.t 54) (.c (.d (.bool true))) (.t 56)⟩,
              ⟨some 51, none, .mov false (.t 57)⟩] [3, 5, 12, 13, 14, 51]) <|
            .cond (.t 51)
              (.reg [⟨some 58, none, .mov true (.t 3)⟩,
                ⟨some 59, none, .mov false (.t 5)⟩,
                ⟨some 60, none, .bin .i .shr (.t 59) (.c (.d (.int .u64 4)))⟩,
                ⟨some 61, none, .sidx (.c (.d (.str [48, 49, 50, 51, 52, 53, 54, 55, 56, 57, 97, 98, 99, 100, 101, 102]))) (.t 60)⟩,
                ⟨some 62, none, .mov false (.t 5)⟩,
                ⟨some 63, none, .bin .i .and (.t 62) (.c (.d (.int .u8 15)))⟩,
                ⟨some 64, none, .sidx (.c (.d (.str [48, 49, 50, 51, 52, 53, 54, 55, 56, 57, 97, 98, 99, 100, 101, 102]))) (.t 63)⟩,
                ⟨some 65, none, .mk 1 [.c (.d (.int .u8 92)), .c (.d (.int .u8 120)), .t 61, .t 64]⟩,
                ⟨some 66, none, .app false 1 1 (.t 58) (.t 65)⟩,
                ⟨some 3, none, .mov true (.t 66)⟩] [3, 12, 13, 14])
              (.reg [⟨some 18, none, .mov true (.t 3)⟩,
                ⟨some 19, none, .mov false (.t 5)⟩,
                ⟨some 20, none, .mk 1 [.t 19]⟩,
                ⟨some 21, none, .app false 1 1 (.t 18) (.t 20)⟩,
                ⟨some 3, none, .mov true (.t 21)⟩] [3, 12, 13, 14])))))) <|
    .reg [⟨some 67, none, .bin .i .add (.t 14) (.c (.d (.int .i64 1)))⟩,
      ⟨some 14, none, .mov false (.t 67)⟩] [3, 12, 13, 14]
def n_quote_Quote : Nat := 10
def f_quote_Quote : SFunc where
  np := 1
  res := [.slot 2]
  body := .seq (.reg [⟨some 2, none, .mov false (.c (.d (.str [])))⟩] [0]) <|
    .seq (.reg [⟨some 6, none, .mov false (.t 0)⟩,
      ⟨some 7, none, .len false (.t 6)⟩,
      ⟨some 8, none, .bin .i .add (.t 7) (.c (.d (.int .i64 2)))⟩,
      ⟨some 9, none, .make (.int .u8 0) 1 (.c (.d (.int .i64 0))) (.t 8)⟩,
      ⟨some 10, none, .mk 1 [.c (.d (.int .u8 34))]⟩,
      ⟨some 11, none, .app false 1 1 (.t 9) (.t 10)⟩,
      ⟨some 3, none, .mov true (.t 11)⟩] [0, 3]) <|
    .seq (.seq (.reg [⟨some 12, none, .mov true (.t 0)⟩,
      ⟨some 13, none, .len false (.t 12)⟩,
      ⟨some 14, none, .mov false (.c (.d (.int .i64 0)))⟩] [3, 12, 13, 14]) <|
    .block 0 <| .loop l_quote_Quote_1) <|
    .seq (.reg [⟨some 68, none, .mov true (.t 3)⟩,
      ⟨some 69, none, .mk 1 [.c (.d (.int .u8 34))]⟩,
      ⟨some 70, none, .app false 1 1 (.t 68) (.t 69)⟩,
      ⟨some 71, none, .cstr (.t 70)⟩,
      ⟨some 2, none, .mov false (.t 71)⟩] [2]) <|
    .ret
/- cartouche/cartoucheref2.Quote -/
def l_ref2_Quote_1 : SC :=
  .seq (.seq (.reg [⟨some 7, none, .mov false (.t 4)⟩,
      ⟨some 8, none, .mov false (.t 0)⟩,
      ⟨some 9, none, .len false (.t 8)⟩,
      ⟨some 10, none, .bin .i .lss (.t 7) (.t 9)⟩] [0, 3, 4, 10]) <|
    .cond (.t 10)
      (.skip)
      (.exit 0)) <|
    .seq (.block 1 <| .seq (.reg [⟨some 13, none, .mov false (.t 0)⟩,
      ⟨some 14, none, .mov false (.t 4)⟩,
      ⟨some 15, none, .iaddr 1 (.t 13) (.t 14)⟩,
      ⟨some 16, none, .load none (.t 15)⟩,
      ⟨some 5, none, .mov false (.t 16)⟩] [0, 3, 4, 5]) <|
    .block 2 <| .seq (.reg [⟨some 22, none, .mov false (.t 5)⟩,
      ⟨some 23, none, .bin .i .eql (.t 22) (.c (.d (.int .u8 34)))⟩,
      ⟨some 24, none, .mov false (.t 23)⟩,
      ⟨some 25, some (24, false), .mov false (.t 5)⟩,
      ⟨some 26, some (24, false), .bin .i .eql (.t 25) (.c (.d (.int .u8 92)))⟩,
      ⟨some 27, none, .pick (.t 24) (.c (.d (.bool true))) (.t 26)⟩,
      ⟨some 21, none, .mov false (.t 27)⟩] [0, 3, 4, 5, 21]) <|
    .cond (.t 21)
      (.reg [⟨some 28, none, .mov true (.t 3)⟩,
        ⟨some 29, none, .mov false (.t 5)⟩,
        ⟨some 30, none, .mk 1 [.c (.d (.int .u8 92)), .t 29]⟩,
        ⟨some 31, none, .app false 1 1 (.t 28) (.t 30)⟩,
        ⟨some 3, none, .mov true (.t 31)⟩] [0, 3, 4])
      (.seq (.reg [⟨some 33, none, .mov false (.t 5)⟩,
        ⟨some 34, none, .bin .i .eql (.t 33) (.c (.d (.int .u8 10)))⟩,
        ⟨some 32, none, .mov false (.t 34)⟩] [0, 3, 4, 5, 32]) <|
      .cond (.t 32)
        (.reg [⟨some 35, none, .mov true (.t 3)⟩,
          ⟨some 36, none, .mk 1 [.c (.d (.int .u8 92)), .c (.d (.int .u8 110))]⟩,
          ⟨some 37, none, .app false 1 1 (.t 35) (.t 36)⟩,
          ⟨some 3, none, .mov true (.t 37)⟩] [0, 3, 4])
        (.seq (.reg [⟨some 39, none, .mov false (.t 5)⟩,
          ⟨some 40, none, .bin .i .eql (.t 39) (.c (.d (.int .u8 9)))⟩,
          ⟨some 38, none, .mov false (.t 40)⟩] [0, 3, 4, 5, 38]) <|
        .cond (.t 38)
          (.reg [⟨some 41, none, .mov true (.t 3)⟩,
            ⟨some 42, none, .mk 1 [.c (.d (.int .u8 92)), .c (.d (.int .u8 116))]⟩,
            ⟨some 43, none, .app false 1 1 (.t 41) (.t 42)⟩,
            ⟨some 3, none, .mov true (.t 43)⟩] [0, 3, 4])
          (.seq (.reg [⟨some 45, none, .mov false (.t 5)⟩,
            ⟨some 46, none, .bin .i .eql (.t 45) (.c (.d (.int .u8 13)))⟩,
            ⟨some 44, none, .mov false (.t 46)⟩] [0, 3, 4, 5, 44]) <|
          .cond (.t 44)
            (.reg [⟨some 47, none, .mov true (.t 3)⟩,
              ⟨some 48, none, .mk 1 [.c (.d (.int .u8 92)), .c (.d (.int .u8 114))]⟩,
              ⟨some 49, none, .app false 1 1 (.t 47) (.t 48)⟩,
              ⟨some 3, none, .mov true (.t 49)⟩] [0, 3, 4])
            (.seq (.reg [⟨some 51, none, .mov false (.t 5)⟩,
              ⟨some 52, none, .bin .i .lss (.t 51) (.c (.d (.int .u8 32)))⟩,
              ⟨some 53, none, .mov false (.t 52)⟩,
              ⟨some 54, some (53, false), .mov false (.t 5)⟩,
              ⟨some 55, some (53, false), .bin .i .gtr (.t 54) (.c (.d (.int .u8 126)))⟩,
              ⟨some 56, none, .pick (.t 53) (.c (.d (.bool true))) (.t 55)⟩,
              ⟨some 50, none, .mov false (.t 56)⟩] [0, 3, 4, 5, 50]) <|
            .cond (.t 50)
              (.reg [⟨some 57, none, .mov true (.t 3)⟩,
                ⟨some 58, none, .mov false (.t 5)⟩,
                ⟨some 59, none, .bin .i .quo (.t 58) (.c (.d (.int .u8 16)))⟩,
                ⟨some 60, none, .cint .i64 (.t 59)⟩,
                ⟨some 61, none, .call 17 [(false, .t 60)]⟩,
                ⟨some 62, none, .mov false (.t 5)⟩,
                ⟨some 63, none, .bin .i .rem (.t 62) (.c (.d (.int .u8 16)))⟩,
                ⟨some 64, none, .cint .i64 (.t 63)⟩,
                ⟨some 65, none, .call 17 [(false, .t 64)]⟩,
                ⟨some 66, none, .mk 1 [.c (.d (.int .u8 92)), .c (.d (.int .u8 120)), .t 61, .t 65]⟩,
                ⟨some 67, none, .app false 1 1 (.t 57) (.t 66)⟩,
                ⟨some 3, none, .mov true (.t 67)⟩] [0, 3, 4])
              (.reg [⟨some 17, none, .mov true (.t 3)⟩,
                ⟨some 18, none, .mov false (.t 5)⟩,
                ⟨some 19, none, .mk 1 [.t 18]⟩,
                ⟨some 20, none, .app false 1 1 (.t 17) (.t 19)⟩,
                ⟨some 3, none, .mov true (.t 20)⟩] [0, 3, 4])))))) <|
    .reg [⟨some 11, none, .mov false (.t 4)⟩,
      ⟨some 12, none, .bin .i .add (.t 11) (.c (.d (.int .i64 1)))⟩,
      ⟨some 4, none, .mov false (.t 12)⟩] [0, 3, 4]
def n_ref2_Quote : Nat := 11
def f_ref2_Quote : SFunc where
  np := 1
  res := [.slot 2]
  body := .seq (.reg [⟨some 2, none, .mov false (.c (.d (.str [])))⟩] [0]) <|
    .seq (.reg [⟨some 6, none, .mk 1 [.c (.d (.int .u8 34))]⟩,
      ⟨some 3, none, .mov true (.t 6)⟩] [0, 3]) <|
    .seq (.seq (.reg [⟨some 4, none, .mov false (.c (.d (.int .i64 0)))⟩] [0, 3, 4]) <|
    .block 0 <| .loop l_ref2_Quote_1) <|
    .seq (.reg [⟨some 68, none, .mov true (.t 3)⟩,
      ⟨some 69, none, .mk 1 [.c (.d (.int .u8 34))]⟩,
      ⟨some 70, none, .app false 1 1 (.t 68) (.t 69)⟩,
      ⟨some 71, none, .cstr (.t 70)⟩,
      ⟨some 2, none, .mov false (.t 71)⟩] [2]) <|
    .ret
/- cartouche/quote.Valid -/
def n_quote_Valid : Nat := 12
def f_quote_Valid : SFunc where
  np := 1
  res := [.slot 2]
  body := .seq (.reg [⟨some 2, none, .mov false (.c (.d (.bool false)))⟩] [0]) <|
    .seq (.reg [⟨some 3, none, .mov true (.t 0)⟩,
      ⟨some 4, none, .call 18 [(false, .t 3)]⟩,
      ⟨some 2, none, .mov false (.t 4)⟩] [2]) <|
    .ret
/- cartouche/quote.Runes -/
def l_quote_Runes_1 : SC :=
  .seq (.reg [⟨some 10, none, .nxt 9⟩,
      ⟨some 11, none, .ext (.t 10) 0⟩] [3, 9, 11]) <|
    .seq (.cond (.t 11)
      (.skip)
      (.exit 0)) <|
    .block 1 <| .reg [⟨some 12, none, .mov false (.t 3)⟩,
      ⟨some 13, none, .bin .i .add (.t 12) (.c (.d (.int .i64 1)))⟩,
      ⟨some 3, none, .mov false (.t 13)⟩] [3, 9]
def n_quote_Runes : Nat := 13
def f_quote_Runes : SFunc where
  np := 1
  res := [.slot 2]
  body := .seq (.reg [⟨some 2, none, .mov false (.c (.d (.int .i64 0)))⟩] [0]) <|
    .seq (.seq (.reg [⟨some 4, none, .mov false (.t 0)⟩,
      ⟨some 5, none, .call 12 [(false, .t 4)]⟩,
      ⟨some 6, none, .not (.t 5)⟩] [0, 6]) <|
    .cond (.t 6)
      (.seq (.reg [⟨some 2, none, .mov false (.c (.d (.int .i64 0)))⟩] [2]) <|
      .ret)
      (.skip)) <|
    .seq (.reg [⟨some 3, none, .mov false (.c (.d (.int .i64 0)))⟩] [0, 3]) <|
    .seq (.seq (.reg [⟨some 7, none, .mov true (.t 0)⟩,
      ⟨some 8, none, .cstr (.t 7)⟩,
      ⟨some 9, none, .rng (.t 8)⟩] [3, 9]) <|
    .block 0 <| .loop l_quote_Runes_1) <|
    .seq (.reg [⟨some 14, none, .mov false (.t 3)⟩,
      ⟨some 2, none, .mov false (.t 14)⟩] [2]) <|
    .ret
/- cartouche/cartoucheref2.Runes -/
def l_ref2_Runes_6 : SC :=
  .seq (.seq (.reg [⟨some 55, none, .mov false (.t 9)⟩,
      ⟨some 56, none, .mov false (.t 6)⟩,
      ⟨some 57, none, .bin .i .lss (.t 55) (.t 56)⟩] [0, 3, 4, 6, 7, 8, 9, 57]) <|
    .cond (.t 57)
      (.skip)
      (.exit 2)) <|
    .seq (.block 3 <| .seq (.reg [⟨some 60, none, .mov false (.t 0)⟩,
      ⟨some 61, none, .mov false (.t 4)⟩,
      ⟨some 62, none, .mov false (.t 9)⟩,
      ⟨some 63, none, .bin .i .add (.t 61) (.t 62)⟩,
      ⟨some 64, none, .iaddr 1 (.t 60) (.t 63)⟩,
      ⟨some 65, none, .load none (.t 64)⟩,
      ⟨some 66, none, .cint .i64 (.t 65)⟩,
      ⟨some 10, none, .mov false (.t 66)⟩] [0, 3, 4, 6, 7, 8, 9, 10]) <|
    .seq (.seq (.reg [⟨some 67, none, .mov false (.t 10)⟩,
      ⟨some 68, none, .bin .i .lss (.t 67) (.c (.d (.int .i64 128)))⟩,
      ⟨some 69, none, .mov false (.t 68)⟩,
      ⟨some 70, some (69, false), .mov false (.t 10)⟩,
      ⟨some 71, some (69, false), .bin .i .geq (.t 70) (.c (.d (.int .i64 192)))⟩,
      ⟨some 72, none, .pick (.t 69) (.c (.d (.bool true))) (.t 71)⟩] [0, 3, 4, 6, 7, 8, 9, 10, 72]) <|
    .cond (.t 72)
      (.seq (.reg [⟨some 2, none, .mov false (.c (.d (.int .i64 (-1))))⟩] [2]) <|
      .ret)
      (.skip)) <|
    .reg [⟨some 73, none, .mov false (.t 7)⟩,
      ⟨some 74, none, .bin .i .mul (.t 73) (.c (.d (.int .i64 64)))⟩,
      ⟨some 75, none, .mov false (.t 10)⟩,
      ⟨some 76, none, .bin .i .add (.t 74) (.t 75)⟩,
      ⟨some 77, none, .bin .i .sub (.t 76) (.c (.d (.int .i64 128)))⟩,
      ⟨some 7, none, .mov false (.t 77)⟩] [0, 3, 4, 6, 7, 8, 9]) <|
    .reg [⟨some 58, none, .mov false (.t 9)⟩,
      ⟨some 59, none, .bin .i .add (.t 58) (.c (.d (.int .i64 1)))⟩,
      ⟨some 9, none, .mov false (.t 59)⟩] [0, 3, 4, 6, 7, 8, 9]
def l_ref2_Runes_1 : SC :=
  .seq (.seq (.reg [⟨some 11, none, .mov false (.t 4)⟩,
      ⟨some 12, none, .mov false (.t 0)⟩,
      ⟨some 13, none, .len false (.t 12)⟩,
      ⟨some 14, none, .bin .i .lss (.t 11) (.t 13)⟩] [0, 3, 4, 14]) <|
    .cond (.t 14)
      (.skip)
      (.exit 0)) <|
    .seq (.block 1 <| .seq (.reg [⟨some 17, none, .mov false (.t 0)⟩,
      ⟨some 18, none, .mov false (.t 4)⟩,
      ⟨some 19, none, .iaddr 1 (.t 17) (.t 18)⟩,
      ⟨some 20, none, .load none (.t 19)⟩,
      ⟨some 21, none, .cint .i64 (.t 20)⟩,
      ⟨some 5, none, .mov false (.t 21)⟩] [0, 3, 4, 5]) <|
    .seq (.reg [⟨some 6, none, .mov false (.c (.d (.int .i64 1)))⟩] [0, 3, 4, 5, 6]) <|
    .seq (.reg [⟨some 22, none, .mov false (.t 5)⟩,
      ⟨some 7, none, .mov false (.t 22)⟩] [0, 3, 4, 5, 6, 7]) <|
    .seq (.reg [⟨some 8, none, .mov false (.c (.d (.int .i64 0)))⟩] [0, 3, 4, 5, 6, 7, 8]) <|
    .seq (.seq (.reg [⟨some 23, none, .mov false (.t 5)⟩,
      ⟨some 24, none, .bin .i .geq (.t 23) (.c (.d (.int .i64 128)))⟩] [0, 3, 4, 5, 6, 7, 8, 24]) <|
    .cond (.t 24)
      (.seq (.reg [⟨some 25, none, .mov false (.t 5)⟩,
        ⟨some 26, none, .bin .i .geq (.t 25) (.c (.d (.int .i64 192)))⟩,
        ⟨some 27, none, .mov false (.t 26)⟩,
        ⟨some 28, some (27, true), .mov false (.t 5)⟩,
        ⟨some 29, some (27, true), .bin .i .lss (.t 28) (.c (.d (.int .i64 224)))⟩,
        ⟨some 30, none, .pick (.t 27) (.t 29) (.c (.d (.bool false)))⟩] [0, 3, 4, 5, 30]) <|
      .cond (.t 30)
        (.reg [⟨some 31, none, .mov false (.t 5)⟩,
          ⟨some 32, none, .bin .i .sub (.t 31) (.c (.d (.int .i64 192)))⟩,
          ⟨some 6, none, .mov false (.c (.d (.int .i64 2)))⟩,
          ⟨some 7, none, .mov false (.t 32)⟩,
          ⟨some 8, none, .mov false (.c (.d (.int .i64 128)))⟩] [0, 3, 4, 6, 7, 8])
        (.seq (.reg [⟨some 33, none, .mov false (.t 5)⟩,
          ⟨some 34, none, .bin .i .geq (.t 33) (.c (.d (.int .i64 224)))⟩,
          ⟨some 35, none, .mov false (.t 34)⟩,
          ⟨some 36, some (35, true), .mov false (.t 5)⟩,
          ⟨some 37, some (35, true), .bin .i .lss (.t 36) (.c (.d (.int .i64 240)))⟩,
          ⟨some 38, none, .pick (.t 35) (.t 37) (.c (.d (.bool false)))⟩] [0, 3, 4, 5, 38]) <|
        .cond (.t 38)
          (.reg [⟨some 39, none, .mov false (.t 5)⟩,
            ⟨some 40, none, .bin .i .sub (.t 39) (.c (.d (.int .i64 224)))⟩,
            ⟨some 6, none, .mov false (.c (.d (.int .i64 3)))⟩,
            ⟨some 7, none, .mov false (.t 40)⟩,
            ⟨some 8, none, .mov false (.c (.d (.int .i64 2048)))⟩] [0, 3, 4, 6, 7, 8])
          (.seq (.reg [⟨some 41, none, .mov false (.t 5)⟩,
            ⟨some 42, none, .bin .i .geq (.t 41) (.c (.d (.int .i64 240)))⟩,
            ⟨some 43, none, .mov false (.t 42)⟩,
            ⟨some 44, some (43, true), .mov false (.t 5)⟩,
            ⟨some 45, some (43, true), .bin .i .lss (.t 44) (.c (.d (.int .i64 248)))⟩,
            ⟨some 46, none, .pick (.t 43) (.t 45) (.c (.d (.bool false)))⟩] [0, 3, 4, 5, 46]) <|
          .cond (.t 46)
            (.reg [⟨some 47, none, .mov false (.t 5)⟩,
              ⟨some 48, none, .bin .i .sub (.t 47) (.c (.d (.int .i64 240)))⟩,
              ⟨some 6, none, .mov false (.c (.d (.int .i64 4)))⟩,
              ⟨some 7, none, .mov false (.t 48)⟩,
              ⟨some 8, none, .mov false (.c (.d (.int .i64 65536)))⟩] [0, 3, 4, 6, 7, 8])
            (.seq (.reg [⟨some 2, none, .mov false (.c (.d (.int .i64 (-1))))⟩] [2]) <|
            .ret))))
      (.skip)) <|
    .seq (.seq (.reg [⟨some 49, none, .mov false (.t 4)⟩,
      ⟨some 50, none, .mov false (.t 6)⟩,
      ⟨some 51, none, .bin .i .add (.t 49) (.t 50)⟩,
      ⟨some 52, none, .mov false (.t 0)⟩,
      ⟨some 53, none, .len false (.t 52)⟩,
      ⟨some 54, none, .bin .i .gtr (.t 51) (.t 53)⟩] [0, 3, 4, 6, 7, 8, 54]) <|
    .cond (.t 54)
      (.seq (.reg [⟨some 2, none, .mov false (.c (.d (.int .i64 (-1))))⟩] [2]) <|
      .ret)
      (.skip)) <|
    .seq (.seq (.reg [⟨some 9, none, .mov false (.c (.d (.int .i64 1)))⟩] [0, 3, 4, 6, 7, 8, 9]) <|
    .block 2 <| .loop l_ref2_Runes_6) <|
    .seq (.seq (.reg [⟨some 78, none, .mov false (.t 7)⟩,
      ⟨some 79, none, .mov false (.t 8)⟩,
      ⟨some 80, none, .bin .i .lss (.t 78) (.t 79)⟩,
      ⟨some 81, none, .mov false (.t 80)⟩,
      ⟨some 82, some (81, false), .mov false (.t 7)⟩,
      ⟨some 83, some (81, false), .bin .i .gtr (.t 82) (.c (.d (.int .i64 1114111)))⟩,
      ⟨some 84, none, .pick (.t 81) (.c (.d (.bool true))) (.t 83)⟩,
      ⟨some 85, none, .mov false (.t 84)⟩,
      ⟨some 86, some (85, false), .mov false (.t 7)⟩,
      ⟨some 87, some (85, false), .bin .i .geq (.t 86) (.c (.d (.int .i64 55296)))⟩,
      ⟨some 88, some (85, false), .mov false (.t 87)⟩,
      ⟨some 89, some (88, true), .mov false (.t 7)⟩,
      ⟨some 90, some (88, true), .bin .i .leq (.t 89) (.c (.d (.int .i64 57343)))⟩,
      ⟨some 91, some (85, false), .pick (.t 88) (.t 90) (.c (.d (.bool false)))⟩,
      ⟨some 92, none, .pick (.t 85) (.c (.d (.bool true))) (.t 91)⟩] [0, 3, 4, 6, 92]) <|
    .cond (.t 92)
      (.seq (.reg [⟨some 2, none, .mov false (.c (.d (.int .i64 (-1))))⟩] [2]) <|
      .ret)
      (.skip)) <|
    .reg [⟨some 93, none, .mov false (.t 4)⟩,
      ⟨some 94, none, .mov false (.t 6)⟩,
      ⟨some 95, none, .bin .i .add (.t 93) (.t 94)⟩,
      ⟨some 4, none, .mov false (.t 95)⟩] [0, 3, 4]) <|
    .reg [⟨some 15, none, .mov false (.t 3)⟩,
      ⟨some 16, none, .bin .i .add (.t 15) (.c (.d (.int .i64 1)))⟩,
      ⟨some 3, none, .mov false (.t 16)⟩] [0, 3, 4]
def n_ref2_Runes : Nat := 14
def f_ref2_Runes : SFunc where
  np := 1
  res := [.slot 2]
  body := .seq (.reg [⟨some 2, none, .mov false (.c (.d (.int .i64 0)))⟩] [0]) <|
    .seq (.reg [⟨some 3, none, .mov false (.c (.d (.int .i64 0)))⟩] [0, 3]) <|
    .seq (.seq (.reg [⟨some 4, none, .mov false (.c (.d (.int .i64 0)))⟩] [0, 3, 4]) <|
    .block 0 <| .loop l_ref2_Runes_1) <|
    .seq (.reg [⟨some 96, none, .mov false (.t 3)⟩,
      ⟨some 2, none, .mov false (.t 96)⟩] [2]) <|
    .ret
/- cartouche/quote.Digit -/
def n_quote_Digit : Nat := 15
def f_quote_Digit : SFunc where
  np := 1
  res := [.slot 2]
  body := .seq (.reg [⟨some 2, none, .mov false (.c (.d (.int .i64 0)))⟩] [0]) <|
    .seq (.block 0 <| .seq (.reg [⟨some 4, none, .mov false (.t 0)⟩,
      ⟨some 5, none, .bin .i .geq (.t 4) (.c (.d (.int .u8 48)))⟩,
      ⟨some 6, none, .mov false (.t 5)⟩,
      ⟨some 7, some (6, true), .mov false (.t 0)⟩,
      ⟨some 8, some (6, true), .bin .i .leq (.t 7) (.c (.d (.int .u8 57)))⟩,
      ⟨some 9, none, .pick (.t 6) (.t 8) (.c (.d (.bool false)))⟩,
      ⟨some 3, none, .mov false (.t 9)⟩] [0, 3]) <|
    .cond (.t 3)
      (.seq (.reg [⟨some 10, none, .mov false (.t 0)⟩,
        ⟨some 11, none, .bin .i .sub (.t 10) (.c (.d (.int .u8 48)))⟩,
        ⟨some 12, none, .cint .i64 (.t 11)⟩,
        ⟨some 2, none, .mov false (.t 12)⟩] [2]) <|
      .ret)
      (.seq (.reg [⟨some 14, none, .mov false (.t 0)⟩,
        ⟨some 15, none, .bin .i .geq (.t 14) (.c (.d (.int .u8 97)))⟩,
        ⟨some 16, none, .mov false (.t 15)⟩,
        ⟨some 17, some (16, true), .mov false (.t 0)⟩,
        ⟨some 18, some (16, true), .bin .i .leq (.t 17) (.c (.d (.int .u8 102)))⟩,
        ⟨some 19, none, .pick (.t 16) (.t 18) (.c (.d (.bool false)))⟩,
        ⟨some 13, none, .mov false (.t 19)⟩] [0, 13]) <|
      .cond (.t 13)
        (.seq (.reg [⟨some 20, none, .mov false (.t 0)⟩,
          ⟨some 21, none, .bin .i .sub (.t 20) (.c (.d (.int .u8 97)))⟩,
          ⟨some 22, none, .cint .i64 (.t 21)⟩,
          ⟨some 23, none, .bin .i .add (.t 22) (.c (.d (.int .i64 10)))⟩,
          ⟨some 2, none, .mov false (.t 23)⟩] [2]) <|
        .ret)
        (.seq (.reg [⟨some 25, none, .mov false (.t 0)⟩,
          ⟨some 26, none, .bin .i .geq (.t 25) (.c (.d (.int .u8 65)))⟩,
          ⟨some 27, none, .mov false (.t 26)⟩,
          ⟨some 28, some (27, true), .mov false (.t 0)⟩,
          ⟨some 29, some (27, true), .bin .i .leq (.t 28) (.c (.d (.int .u8 70)))⟩,
          ⟨some 30, none, .pick (.t 27) (.t 29) (.c (.d (.bool false)))⟩,
          ⟨some 24, none, .mov false (.t 30)⟩] [0, 24]) <|
        .cond (.t 24)
          (.seq (.reg [⟨some 31, none, .mov false (.t 0)⟩,
            ⟨some 32, none, .bin .i .sub (.t 31) (.c (.d (.int .u8 65)))⟩,
            ⟨some 33, none, .cint .i64 (.t 32)⟩,
            ⟨some 34, none, .bin .i .add (.t 33) (.c (.d (.int .i64 10)))⟩,
            ⟨some 2, none, .mov false (.t 34)⟩] [2]) <|
          .ret)
          (.skip)))) <|
    .seq (.reg [⟨some 2, none, .mov false (.c (.d (.int .i64 (-1))))⟩] [2]) <|
    .ret
/- cartouche/cartoucheref2.Hex -/
def n_ref2_Hex : Nat := 16
def f_ref2_Hex : SFunc where
  np := 1
  res := [.slot 2]
  body := .seq (.reg [⟨some 2, none, .mov false (.c (.d (.int .i64 0)))⟩] [0]) <|
    .seq (.seq (.reg [⟨some 3, none, .mov false (.t 0)⟩,
      ⟨some 4, none, .bin .i .geq (.t 3) (.c (.d (.int .u8 48)))⟩,
      ⟨some 5, none, .mov false (.t 4)⟩,
      ⟨some 6, some (5, true), .mov false (.t 0)⟩,
      ⟨some 7, some (5, true), .bin .i .leq (.t 6) (.c (.d (.int .u8 57)))⟩,
      ⟨some 8, none, .pick (.t 5) (.t 7) (.c (.d (.bool false)))⟩] [0, 8]) <|
    .cond (.t 8)
      (.seq (.reg [⟨some 9, none, .mov false (.t 0)⟩,
        ⟨some 10, none, .cint .i64 (.t 9)⟩,
        ⟨some 11, none, .bin .i .sub (.t 10) (.c (.d (.int .i64 48)))⟩,
        ⟨some 2, none, .mov false (.t 11)⟩] [2]) <|
      .ret)
      (.skip)) <|
    .seq (.seq (.reg [⟨some 12, none, .mov false (.t 0)⟩,
      ⟨some 13, none, .bin .i .geq (.t 12) (.c (.d (.int .u8 97)))⟩,
      ⟨some 14, none, .mov false (.t 13)⟩,
      ⟨some 15, some (14, true), .mov false (.t 0)⟩,
      ⟨some 16, some (14, true), .bin .i .leq (.t 15) (.c (.d (.int .u8 102)))⟩,
      ⟨some 17, none, .pick (.t 14) (.t 16) (.c (.d (.bool false)))⟩] [0, 17]) <|
    .cond (.t 17)
      (.seq (.reg [⟨some 18, none, .mov false (.t 0)⟩,
        ⟨some 19, none, .cint .i64 (.t 18)⟩,
        ⟨some 20, none, .bin .i .sub (.t 19) (.c (.d (.int .i64 87)))⟩,
        ⟨some 2, none, .mov false (.t 20)⟩] [2]) <|
      .ret)
      (.skip)) <|
    .seq (.seq (.reg [⟨some 21, none, .mov false (.t 0)⟩,
      ⟨some 22, none, .bin .i .geq (.t 21) (.c (.d (.int .u8 65)))⟩,
      ⟨some 23, none, .mov false (.t 22)⟩,
      ⟨some 24, some (23, true), .mov false (.t 0)⟩,
      ⟨some 25, some (23, true), .bin .i .leq (.t 24) (.c (.d (.int .u8 70)))⟩,
      ⟨some 26, none, .pick (.t 23) (.t 25) (.c (.d (.bool false)))⟩] [0, 26]) <|
    .cond (.t 26)
      (.seq (.reg [⟨some 27, none, .mov false (.t 0)⟩,
        ⟨some 28, none, .cint .i64 (.t 27)⟩,
        ⟨some 29, none, .bin .i .sub (.t 28) (.c (.d (.int .i64 55)))⟩,
        ⟨some 2, none, .mov false (.t 29)⟩] [2]) <|
      .ret)
      (.skip)) <|
    .seq (.reg [⟨some 2, none, .mov false (.c (.d (.int .i64 (-1))))⟩] [2]) <|
    .ret
/- cartouche/cartoucheref2.Digit -/
def n_ref2_Digit : Nat := 17
def f_ref2_Digit : SFunc where
  np := 1
  res := [.slot 2]
  body := .seq (.reg [⟨some 2, none, .mov false (.c (.d (.int .u8 0)))⟩] [0]) <|
    .seq (.seq (.reg [⟨some 3, none, .mov false (.t 0)⟩,
      ⟨some 4, none, .bin .i .lss (.t 3) (.c (.d (.int .i64 10)))⟩] [0, 4]) <|
    .cond (.t 4)
      (.seq (.reg [⟨some 5, none, .mov false (.t 0)⟩,
        ⟨some 6, none, .bin .i .add (.c (.d (.int .i64 48))) (.t 5)⟩,
        ⟨some 7, none, .cint .u8 (.t 6)⟩,
        ⟨some 2, none, .mov false (.t 7)⟩] [2]) <|
      .ret)
      (.skip)) <|
    .seq (.reg [⟨some 8, none, .mov false (.t 0)⟩,
      ⟨some 9, none, .bin .i .add (.c (.d (.int .i64 87))) (.t 8)⟩,
      ⟨some 10, none, .cint .u8 (.t 9)⟩,
      ⟨some 2, none, .mov false (.t 10)⟩] [2]) <|
    .ret
/- unicode/utf8.Valid -/
def l_unicode_utf8_Valid_19 : SC :=
  .seq (.seq (.reg [⟨some 49, none, .mov false (.t 0)⟩,
      ⟨some 50, none, .len false (.t 49)⟩,
      ⟨some 51, none, .bin .i .gtr (.t 50) (.c (.d (.int .i64 32)))⟩,
      ⟨some 52, none, .mov false (.t 51)⟩,
      ⟨some 53, some (52, true), .mov false (.t 0)⟩,
      ⟨some 54, some (52, true), .call 19 [(false, .t 53)]⟩,
      ⟨some 55, some (52, true), .mov false (.t 0)⟩,
      ⟨some 56, some (52, true), .slc 1 (.t 55) (some (.c (.d (.int .i64 8)))) none none⟩,
      ⟨some 57, some (52, true), .call 19 [(false, .t 56)]⟩,
      ⟨some 58, some (52, true), .bin .i .or (.t 54) (.t 57)⟩,
      ⟨some 59, some (52, true), .mov false (.t 0)⟩,
      ⟨some 60, some (52, true), .slc 1 (.t 59) (some (.c (.d (.int .i64 16)))) none none⟩,
      ⟨some 61, some (52, true), .call 19 [(false, .t 60)]⟩,
      ⟨some 62, some (52, true), .mov false (.t 0)⟩,
      ⟨some 63, some (52, true), .slc 1 (.t 62) (some (.c (.d (.int .i64 24)))) none none⟩,
      ⟨some 64, some (52, true), .call 19 [(false, .t 63)]⟩,
      ⟨some 65, some (52, true), .bin .i .or (.t 61) (.t 64)⟩,
      ⟨some 66, some (52, true), .bin .i .or (.t 58) (.t 65)⟩,
      ⟨some 67, some (52, true), .bin .i .and (.t 66) (.c (.d (.int .u64 9259542123273814144)))⟩,
      ⟨some 68, some (52, true), .bin .i .eql (.t 67) (.c (.d (.int .u64 0)))⟩,
      ⟨some 69, none, .pick (.t 52) (.t 68) (.c (.d (.bool false)))⟩] [0, 69]) <|
    .cond (.t 69)
      (.skip)
      (.exit 2)) <|
    .block 3 <| .reg [⟨some 70, none, .mov true (.t 0)⟩,
      ⟨some 71, none, .slc 1 (.t 70) (some (.c (.d (.int .i64 32)))) none none⟩,
      ⟨some 0, none, .mov true (.t 71)⟩] [0]
def l_unicode_utf8_Valid_1 : SC :=
  .seq (.seq (.reg [⟨some 13, none, .mov false (.t 0)⟩,
      ⟨some 14, none, .len false (.t 13)⟩,
      ⟨some 15, none, .bin .i .gtr (.t 14) (.c (.d (.int .i64 0)))⟩] [0, 15]) <|
    .cond (.t 15)
      (.skip)
      (.exit 0)) <|
    .block 1 <| .seq (.reg [⟨some 16, none, .mov false (.t 0)⟩,
      ⟨some 17, none, .iaddr 1 (.t 16) (.c (.d (.int .i64 0)))⟩,
      ⟨some 18, none, .load none (.t 17)⟩,
      ⟨some 3, none, .mov false (.t 18)⟩] [0, 3]) <|
    .seq (.seq (.reg [⟨some 19, none, .mov false (.t 3)⟩,
      ⟨some 20, none, .bin .i .lss (.t 19) (.c (.d (.int .u8 128)))⟩] [0, 3, 20]) <|
    .cond (.t 20)
      (.seq (.reg [⟨some 21, none, .mov true (.t 0)⟩,
        ⟨some 22, none, .slc 1 (.t 21) (some (.c (.d (.int .i64 1)))) none none⟩,
        ⟨some 0, none, .mov true (.t 22)⟩] [0]) <|
      .seq (.seq (.reg [⟨some 23, none, .mov false (.t 0)⟩,
        ⟨some 24, none, .len false (.t 23)⟩,
        ⟨some 25, none, .bin .i .gtr (.t 24) (.c (.d (.int .i64 8)))⟩,
        ⟨some 26, none, .mov false (.t 25)⟩,
        ⟨some 27, some (26, true), .mov false (.t 0)⟩,
        ⟨some 28, some (26, true), .call 19 [(false, .t 27)]⟩,
        ⟨some 29, some (26, true), .bin .i .and (.t 28) (.c (.d (.int .u64 9259542123273814144)))⟩,
        ⟨some 30, some (26, true), .bin .i .eql (.t 29) (.c (.d (.int .u64 0)))⟩,
        ⟨some 31, none, .pick (.t 26) (.t 30) (.c (.d (.bool false)))⟩] [0, 31]) <|
      .cond (.t 31)
        (.seq (.reg [⟨some 32, none, .mov true (.t 0)⟩,
          ⟨some 33, none, .slc 1 (.t 32) (some (.c (.d (.int .i64 8)))) none none⟩,
          ⟨some 0, none, .mov true (.t 33)⟩] [0]) <|
        .seq (.reg [⟨some 34, none, .mov false (.t 0)⟩,
          ⟨some 35, none, .len false (.t 34)⟩,
          ⟨some 36, none, .bin .i .gtr (.t 35) (.c (.d (.int .i64 16)))⟩,
          ⟨some 37, none, .mov false (.t 36)⟩,
          ⟨some 38, some (37, true), .mov false (.t 0)⟩,
          ⟨some 39, some (37, true), .call 19 [(false, .t 38)]⟩,
          ⟨some 40, some (37, true), .mov false (.t 0)⟩,
          ⟨some 41, some (37, true), .slc 1 (.t 40) (some (.c (.d (.int .i64 8)))) none none⟩,
          ⟨some 42, some (37, true), .call 19 [(false, .t 41)]⟩,
          ⟨some 43, some (37, true), .bin .i .or (.t 39) (.t 42)⟩,
          ⟨some 44, some (37, true), .bin .i .and (.t 43) (.c (.d (.int .u64 9259542123273814144)))⟩,
          ⟨some 45, some (37, true), .bin .i .eql (.t 44) (.c (.d (.int .u64 0)))⟩,
          ⟨some 46, none, .pick (.t 37) (.t 45) (.c (.d (.bool false)))⟩] [0, 46]) <|
        .cond (.t 46)
          (.seq (.reg [⟨some 47, none, .mov true (.t 0)⟩,
            ⟨some 48, none, .slc 1 (.t 47) (some (.c (.d (.int .i64 16)))) none none⟩,
            ⟨some 0, none, .mov true (.t 48)⟩] [0]) <|
          .block 2 <| .loop l_unicode_utf8_Valid_19)
          (.skip))
        (.skip)) <|
      .exit 1)
      (.skip)) <|
    .seq (.reg [⟨some 72, none, .mov false (.t 3)⟩,
      ⟨some 73, none, .aaddr 256 1 none (.g 0) (.t 72)⟩,
      ⟨some 74, none, .load none (.t 73)⟩,
      ⟨some 4, none, .mov false (.t 74)⟩] [0, 4]) <|
    .seq (.reg [⟨some 75, none, .mov false (.t 4)⟩,
      ⟨some 76, none, .bin .i .and (.t 75) (.c (.d (.int .u8 7)))⟩,
      ⟨some 77, none, .cint .i64 (.t 76)⟩,
      ⟨some 5, none, .mov false (.t 77)⟩] [0, 4, 5]) <|
    .seq (.reg [⟨some 78, none, .mov false (.t 4)⟩,
      ⟨some 79, none, .bin .i .shr (.t 78) (.c (.d (.int .u64 4)))⟩,
      ⟨some 80, none, .aaddr 16 2 (some 2) (.g 1) (.t 79)⟩,
      ⟨some 81, none, .load (some 2) (.t 80)⟩,
      ⟨some 6, none, .zbox [.int .u8 0, .int .u8 0]⟩,
      ⟨none, none, .store 2 (.t 6) (.t 81)⟩] [0, 5, 6]) <|
    .seq (.reg [⟨some 82, none, .mov false (.t 5)⟩] [0, 6, 82]) <|
    .block 4 <| .seq (.reg [⟨some 84, none, .bin .i .eql (.t 82) (.c (.d (.int .i64 2)))⟩,
      ⟨some 83, none, .mov false (.t 84)⟩] [0, 6, 82, 83]) <|
    .cond (.t 83)
      (.seq (.seq (.reg [⟨some 85, none, .mov false (.t 0)⟩,
        ⟨some 86, none, .len false (.t 85)⟩,
        ⟨some 87, none, .bin .i .lss (.t 86) (.c (.d (.int .i64 2)))⟩,
        ⟨some 88, none, .mov false (.t 87)⟩,
        ⟨some 89, some (88, false), .mov false (.t 0)⟩,
        ⟨some 90, some (88, false), .iaddr 1 (.t 89) (.c (.d (.int .i64 1)))⟩,
        ⟨some 91, some (88, false), .load none (.t 90)⟩,
        ⟨some 92, some (88, false), .faddr 0 none (.t 6)⟩,
        ⟨some 93, some (88, false), .load none (.t 92)⟩,
        ⟨some 94, some (88, false), .bin .i .lss (.t 91) (.t 93)⟩,
        ⟨some 95, none, .pick (.t 88) (.c (.d (.bool true))) (.t 94)⟩,
        ⟨some 96, none, .mov false (.t 95)⟩,
        ⟨some 97, some (96, false), .faddr 1 none (.t 6)⟩,
        ⟨some 98, some (96, false), .load none (.t 97)⟩,
        ⟨some 99, some (96, false), .mov false (.t 0)⟩,
        ⟨some 100, some (96, false), .iaddr 1 (.t 99) (.c (.d (.int .i64 1)))⟩,
        ⟨some 101, some (96, false), .load none (.t 100)⟩,
        ⟨some 102, some (96, false), .bin .i .lss (.t 98) (.t 101)⟩,
        ⟨some 103, none, .pick (.t 96) (.c (.d (.bool true))) (.t 102)⟩] [0, 103]) <|
      .cond (.t 103)
        (.seq (.reg [⟨some 2, none, .mov false (.c (.d (.bool false)))⟩] [2]) <|
        .ret)
        (.skip)) <|
      .reg [⟨some 104, none, .mov true (.t 0)⟩,
        ⟨some 105, none, .slc 1 (.t 104) (some (.c (.d (.int .i64 2)))) none none⟩,
        ⟨some 0, none, .mov true (.t 105)⟩] [0])
      (.seq (.reg [⟨some 107, none, .bin .i .eql (.t 82) (.c (.d (.int .i64 3)))⟩,
        ⟨some 106, none, .mov false (.t 107)⟩] [0, 6, 82, 106]) <|
      .cond (.t 106)
        (.seq (.seq (.reg [⟨some 108, none, .mov false (.t 0)⟩,
          ⟨some 109, none, .len false (.t 108)⟩,
          ⟨some 110, none, .bin .i .lss (.t 109) (.c (.d (.int .i64 3)))⟩,
          ⟨some 111, none, .mov false (.t 110)⟩,
          ⟨some 112, some (111, false), .mov false (.t 0)⟩,
          ⟨some 113, some (111, false), .iaddr 1 (.t 112) (.c (.d (.int .i64 1)))⟩,
          ⟨some 114, some (111, false), .load none (.t 113)⟩,
          ⟨some 115, some (111, false), .faddr 0 none (.t 6)⟩,
          ⟨some 116, some (111, false), .load none (.t 115)⟩,
          ⟨some 117, some (111, false), .bin .i .lss (.t 114) (.t 116)⟩,
          ⟨some 118, none, .pick (.t 111) (.c (.d (.bool true))) (.t 117)⟩,
          ⟨some 119, none, .mov false (.t 118)⟩,
          ⟨some 120, some (119, false), .faddr 1 none (.t 6)⟩,
          ⟨some 121, some (119, false), .load none (.t 120)⟩,
          ⟨some 122, some (119, false), .mov false (.t 0)⟩,
          ⟨some 123, some (119, false), .iaddr 1 (.t 122) (.c (.d (.int .i64 1)))⟩,
          ⟨some 124, some (119, false), .load none (.t 123)⟩,
          ⟨some 125, some (119, false), .bin .i .lss (.t 121) (.t 124)⟩,
          ⟨some 126, none, .pick (.t 119) (.c (.d (.bool true))) (.t 125)⟩,
          ⟨some 127, none, .mov false (.t 126)⟩,
          ⟨some 128, some (127, false), .mov false (.t 0)⟩,
          ⟨some 129, some (127, false), .iaddr 1 (.t 128) (.c (.d (.int .i64 2)))⟩,
          ⟨some 130, some (127, false), .load none (.t 129)⟩,
          ⟨some 131, some (127, false), .bin .i .lss (.t 130) (.c (.d (.int .u8 128)))⟩,
          ⟨some 132, none, .pick (.t 127) (.c (.d (.bool true))) (.t 131)⟩,
          ⟨some 133, none, .mov false (.t 132)⟩,
          ⟨some 134, some (133, false), .mov false (.t 0)⟩,
          ⟨some 135, some (133, false), .iaddr 1 (.t 134) (.c (.d (.int .i64 2)))⟩,
          ⟨some 136, some (133, false), .load none (.t 135)⟩,
          ⟨some 137, some (133, false), .bin .i .lss (.c (.d (.int .u8 191))) (.t 136)⟩,
          ⟨some 138, none, .pick (.t 133) (.c (.d (.bool true))) (.t 137)⟩] [0, 138]) <|
        .cond (.t 138)
          (.seq (.reg [⟨some 2, none, .mov false (.c (.d (.bool false)))⟩] [2]) <|
          .ret)
          (.skip)) <|
        .reg [⟨some 139, none, .mov true (.t 0)⟩,
          ⟨some 140, none, .slc 1 (.t 139) (some (.c (.d (.int .i64 3)))) none none⟩,
          ⟨some 0, none, .mov true (.t 140)⟩] [0])
        (.seq (.reg [⟨some 142, none, .bin .i .eql (.t 82) (.c (.d (.int .i64 4)))⟩,
          ⟨some 141, none, .mov false (.t 142)⟩] [0, 6, 141]) <|
        .cond (.t 141)
          (.seq (.seq (.reg [⟨some 143, none, .mov false (.t 0)⟩,
            ⟨some 144, none, .len false (.t 143)⟩,
            ⟨some 145, none, .bin .i .lss (.t 144) (.c (.d (.int .i64 4)))⟩,
            ⟨some 146, none, .mov false (.t 145)⟩,
            ⟨some 147, some (146, false), .mov false (.t 0)⟩,
            ⟨some 148, some (146, false), .iaddr 1 (.t 147) (.c (.d (.int .i64 1)))⟩,
            ⟨some 149, some (146, false), .load none (.t 148)⟩,
            ⟨some 150, some (146, false), .faddr 0 none (.t 6)⟩,
            ⟨some 151, some (146, false), .load none (.t 150)⟩,
            ⟨some 152, some (146, false), .bin .i .lss (.t 149) (.t 151)⟩,
            ⟨some 153, none, .pick (.t 146) (.c (.d (.bool true))) (.t 152)⟩,
            ⟨some 154, none, .mov false (.t 153)⟩,
            ⟨some 155, some (154, false), .faddr 1 none (.t 6)⟩,
            ⟨some 156, some (154, false), .load none (.t 155)⟩,
            ⟨some 157, some (154, false), .mov false (.t 0)⟩,
            ⟨some 158, some (154, false), .iaddr 1 (.t 157) (.c (.d (.int .i64 1)))⟩,
            ⟨some 159, some (154, false), .load none (.t 158)⟩,
            ⟨some 160, some (154, false), .bin .i .lss (.t 156) (.t 159)⟩,
            ⟨some 161, none, .pick (.t 154) (.c (.d (.bool true))) (.t 160)⟩,
            ⟨some 162, none, .mov false (.t 161)⟩,
            ⟨some 163, some (162, false), .mov false (.t 0)⟩,
            ⟨some 164, some (162, false), .iaddr 1 (.t 163) (.c (.d (.int .i64 2)))⟩,
            ⟨some 165, some (162, false), .load none (.t 164)⟩,
            ⟨some 166, some (162, false), .bin .i .lss (.t 165) (.c (.d (.int .u8 128)))⟩,
            ⟨some 167, none, .pick (.t 162) (.c (.d (.bool true))) (.t 166)⟩,
            ⟨some 168, none, .mov false (.t 167)⟩,
            ⟨some 169, some (168, false), .mov false (.t 0)⟩,
            ⟨some 170, some (168, false), .iaddr 1 (.t 169) (.c (.d (.int .i64 2)))⟩,
            ⟨some 171, some (168, false), .load none (.t 170)⟩,
            ⟨some 172, some (168, false), .bin .i .lss (.c (.d (.int .u8 191))) (.t 171)⟩,
            ⟨some 173, none, .pick (.t 168) (.c (.d (.bool true))) (.t 172)⟩,
            ⟨some 174, none, .mov false (.t 173)⟩,
            ⟨some 175, some (174, false), .mov false (.t 0)⟩,
            ⟨some 176, some (174, false), .iaddr 1 (.t 175) (.c (.d (.int .i64 3)))⟩,
            ⟨some 177, some (174, false), .load none (.t 176)⟩,
            ⟨some 178, some (174, false), .bin .i .lss (.t 177) (.c (.d (.int .u8 128)))⟩,
            ⟨some 179, none, .pick (.t 174) (.c (.d (.bool true))) (.t 178)⟩,
            ⟨some 180, none, .mov false (.t 179)⟩,
            ⟨some 181, some (180, false), .mov false (.t 0)⟩,
            ⟨some 182, some (180, false), .iaddr 1 (.t 181) (.c (.d (.int .i64 3)))⟩,
            ⟨some 183, some (180, false), .load none (.t 182)⟩,
            ⟨some 184, some (180, false), .bin .i .lss (.c (.d (.int .u8 191))) (.t 183)⟩,
            ⟨some 185, none, .pick (.t 180) (.c (.d (.bool true))) (.t 184)⟩] [0, 185]) <|
          .cond (.t 185)
            (.seq (.reg [⟨some 2, none, .mov false (.c (.d (.bool false)))⟩] [2]) <|
            .ret)
            (.skip)) <|
          .reg [⟨some 186, none, .mov true (.t 0)⟩,
            ⟨some 187, none, .slc 1 (.t 186) (some (.c (.d (.int .i64 4)))) none none⟩,
            ⟨some 0, none, .mov true (.t 187)⟩] [0])
          (.seq (.reg [⟨some 2, none, .mov false (.c (.d (.bool false)))⟩] [2]) <|
          .ret)))
def n_unicode_utf8_Valid : Nat := 18
def f_unicode_utf8_Valid : SFunc where
  np := 1
  res := [.slot 2]
  body := .seq (.reg [⟨some 2, none, .mov false (.c (.d (.bool false)))⟩] [0]) <|
    .seq (.reg [⟨some 7, none, .mov false (.t 0)⟩,
      ⟨some 8, none, .mov false (.t 0)⟩,
      ⟨some 9, none, .len false (.t 8)⟩,
      ⟨some 10, none, .mov true (.t 0)⟩,
      ⟨some 11, none, .len false (.t 10)⟩,
      ⟨some 12, none, .slc 1 (.t 7) none (some (.t 9)) (some (.t 11))⟩,
      ⟨some 0, none, .mov true (.t 12)⟩] [0]) <|
    .seq (.block 0 <| .loop l_unicode_utf8_Valid_1) <|
    .seq (.reg [⟨some 2, none, .mov false (.c (.d (.bool true)))⟩] [2]) <|
    .ret
/- unicode/utf8.word[[]byte] -/
def n_unicode_utf8_word___byte_ : Nat := 19
def f_unicode_utf8_word___byte_ : SFunc where
  np := 1
  res := [.slot 2]
  body := .seq (.reg [⟨some 2, none, .mov false (.c (.d (.int .u64 0)))⟩] [0]) <|
    .seq (.cond (.c (.d (.bool false)))
      (.seq (.reg [⟨some 3, none, .mov false (.t 0)⟩,
        ⟨some 4, none, .iaddr 1 (.t 3) (.c (.d (.int .i64 0)))⟩,
        ⟨some 5, none, .load none (.t 4)⟩,
        ⟨some 6, none, .cint .u64 (.t 5)⟩,
        ⟨some 7, none, .mov false (.t 0)⟩,
        ⟨some 8, none, .iaddr 1 (.t 7) (.c (.d (.int .i64 1)))⟩,
        ⟨some 9, none, .load none (.t 8)⟩,
        ⟨some 10, none, .cint .u64 (.t 9)⟩,
        ⟨some 11, none, .bin .i .shl (.t 10) (.c (.d (.int .u64 8)))⟩,
        ⟨some 12, none, .bin .i .or (.t 6) (.t 11)⟩,
        ⟨some 13, none, .mov false (.t 0)⟩,
        ⟨some 14, none, .iaddr 1 (.t 13) (.c (.d (.int .i64 2)))⟩,
        ⟨some 15, none, .load none (.t 14)⟩,
        ⟨some 16, none, .cint .u64 (.t 15)⟩,
        ⟨some 17, none, .bin .i .shl (.t 16) (.c (.d (.int .u64 16)))⟩,
        ⟨some 18, none, .bin .i .or (.t 12) (.t 17)⟩,
        ⟨some 19, none, .mov false (.t 0)⟩,
        ⟨some 20, none, .iaddr 1 (.t 19) (.c (.d (.int .i64 3)))⟩,
        ⟨some 21, none, .load none (.t 20)⟩,
        ⟨some 22, none, .cint .u64 (.t 21)⟩,
        ⟨some 23, none, .bin .i .shl (.t 22) (.c (.d (.int .u64 24)))⟩,
        ⟨some 24, none, .bin .i .or (.t 18) (.t 23)⟩,
        ⟨some 2, none, .mov false (.t 24)⟩] [2]) <|
      .ret)
      (.skip)) <|
    .seq (.reg [⟨some 25, none, .mov false (.t 0)⟩,
      ⟨some 26, none, .iaddr 1 (.t 25) (.c (.d (.int .i64 0)))⟩,
      ⟨some 27, none, .load none (.t 26)⟩,
      ⟨some 28, none, .cint .u64 (.t 27)⟩,
      ⟨some 29, none, .mov false (.t 0)⟩,
      ⟨some 30, none, .iaddr 1 (.t 29) (.c (.d (.int .i64 1)))⟩,
      ⟨some 31, none, .load none (.t 30)⟩,
      ⟨some 32, none, .cint .u64 (.t 31)⟩,
      ⟨some 33, none, .bin .i .shl (.t 32) (.c (.d (.int .u64 8)))⟩,
      ⟨some 34, none, .bin .i .or (.t 28) (.t 33)⟩,
      ⟨some 35, none, .mov false (.t 0)⟩,
      ⟨some 36, none, .iaddr 1 (.t 35) (.c (.d (.int .i64 2)))⟩,
      ⟨some 37, none, .load none (.t 36)⟩,
      ⟨some 38, none, .cint .u64 (.t 37)⟩,
      ⟨some 39, none, .bin .i .shl (.t 38) (.c (.d (.int .u64 16)))⟩,
      ⟨some 40, none, .bin .i .or (.t 34) (.t 39)⟩,
      ⟨some 41, none, .mov false (.t 0)⟩,
      ⟨some 42, none, .iaddr 1 (.t 41) (.c (.d (.int .i64 3)))⟩,
      ⟨some 43, none, .load none (.t 42)⟩,
      ⟨some 44, none, .cint .u64 (.t 43)⟩,
      ⟨some 45, none, .bin .i .shl (.t 44) (.c (.d (.int .u64 24)))⟩,
      ⟨some 46, none, .bin .i .or (.t 40) (.t 45)⟩,
      ⟨some 47, none, .mov false (.t 0)⟩,
      ⟨some 48, none, .iaddr 1 (.t 47) (.c (.d (.int .i64 4)))⟩,
      ⟨some 49, none, .load none (.t 48)⟩,
      ⟨some 50, none, .cint .u64 (.t 49)⟩,
      ⟨some 51, none, .bin .i .shl (.t 50) (.c (.d (.int .u64 32)))⟩,
      ⟨some 52, none, .bin .i .or (.t 46) (.t 51)⟩,
      ⟨some 53, none, .mov false (.t 0)⟩,
      ⟨some 54, none, .iaddr 1 (.t 53) (.c (.d (.int .i64 5)))⟩,
      ⟨some 55, none, .load none (.t 54)⟩,
      ⟨some 56, none, .cint .u64 (.t 55)⟩,
      ⟨some 57, none, .bin .i .shl (.t 56) (.c (.d (.int .u64 40)))⟩,
      ⟨some 58, none, .bin .i .or (.t 52) (.t 57)⟩,
      ⟨some 59, none, .mov false (.t 0)⟩,
      ⟨some 60, none, .iaddr 1 (.t 59) (.c (.d (.int .i64 6)))⟩,
      ⟨some 61, none, .load none (.t 60)⟩,
      ⟨some 62, none, .cint .u64 (.t 61)⟩,
      ⟨some 63, none, .bin .i .shl (.t 62) (.c (.d (.int .u64 48)))⟩,
      ⟨some 64, none, .bin .i .or (.t 58) (.t 63)⟩,
      ⟨some 65, none, .mov false (.t 0)⟩,
      ⟨some 66, none, .iaddr 1 (.t 65) (.c (.d (.int .i64 7)))⟩,
      ⟨some 67, none, .load none (.t 66)⟩,
      ⟨some 68, none, .cint .u64 (.t 67)⟩,
      ⟨some 69, none, .bin .i .shl (.t 68) (.c (.d (.int .u64 56)))⟩,
      ⟨some 70, none, .bin .i .or (.t 64) (.t 69)⟩,
      ⟨some 2, none, .mov false (.t 70)⟩] [2]) <|
    .ret
theorem c_law2_QuoteTexts : chkFunc Tryd.prog n_law2_QuoteTexts f_law2_QuoteTexts = true := by kernel_rfl
theorem c_law2_QuoteKnown : chkFunc Tryd.prog n_law2_QuoteKnown f_law2_QuoteKnown = true := by kernel_rfl
theorem c_law2_QuoteRunes : chkFunc Tryd.prog n_law2_QuoteRunes f_law2_QuoteRunes = true := by kernel_rfl
theorem c_law2_QuoteBack : chkFunc Tryd.prog n_law2_QuoteBack f_law2_QuoteBack = true := by kernel_rfl
theorem c_quote_Unquote : chkFunc Tryd.prog n_quote_Unquote f_quote_Unquote = true := by kernel_rfl
theorem c_ref2_Unquote : chkFunc Tryd.prog n_ref2_Unquote f_ref2_Unquote = true := by kernel_rfl
theorem c_law2_awake : chkFunc Tryd.prog n_law2_awake f_law2_awake = true := by kernel_rfl
theorem c_quote_Quote : chkFunc Tryd.prog n_quote_Quote f_quote_Quote = true := by kernel_rfl
theorem c_ref2_Quote : chkFunc Tryd.prog n_ref2_Quote f_ref2_Quote = true := by kernel_rfl
theorem c_quote_Valid : chkFunc Tryd.prog n_quote_Valid f_quote_Valid = true := by kernel_rfl
theorem c_quote_Runes : chkFunc Tryd.prog n_quote_Runes f_quote_Runes = true := by kernel_rfl
theorem c_ref2_Runes : chkFunc Tryd.prog n_ref2_Runes f_ref2_Runes = true := by kernel_rfl
theorem c_quote_Digit : chkFunc Tryd.prog n_quote_Digit f_quote_Digit = true := by kernel_rfl
theorem c_ref2_Hex : chkFunc Tryd.prog n_ref2_Hex f_ref2_Hex = true := by kernel_rfl
theorem c_ref2_Digit : chkFunc Tryd.prog n_ref2_Digit f_ref2_Digit = true := by kernel_rfl
theorem c_unicode_utf8_Valid : chkFunc Tryd.prog n_unicode_utf8_Valid f_unicode_utf8_Valid = true := by kernel_rfl
theorem c_unicode_utf8_word___byte_ : chkFunc Tryd.prog n_unicode_utf8_word___byte_ f_unicode_utf8_word___byte_ = true := by kernel_rfl
def fns : List (Nat × SFunc) := [(n_law2_QuoteTexts, f_law2_QuoteTexts), (n_law2_QuoteKnown, f_law2_QuoteKnown), (n_law2_QuoteRunes, f_law2_QuoteRunes), (n_law2_QuoteBack, f_law2_QuoteBack), (n_quote_Unquote, f_quote_Unquote), (n_ref2_Unquote, f_ref2_Unquote), (n_law2_awake, f_law2_awake), (n_quote_Quote, f_quote_Quote), (n_ref2_Quote, f_ref2_Quote), (n_quote_Valid, f_quote_Valid), (n_quote_Runes, f_quote_Runes), (n_ref2_Runes, f_ref2_Runes), (n_quote_Digit, f_quote_Digit), (n_ref2_Hex, f_ref2_Hex), (n_ref2_Digit, f_ref2_Digit), (n_unicode_utf8_Valid, f_unicode_utf8_Valid), (n_unicode_utf8_word___byte_, f_unicode_utf8_word___byte_)]
def accepts : List (Int × Int) := [(128, 191), (160, 191), (128, 159), (144, 191), (128, 143), (0, 0), (0, 0), (0, 0), (0, 0), (0, 0), (0, 0), (0, 0), (0, 0), (0, 0), (0, 0), (0, 0)]
def firsts : List Int := Go.Pinned.utf8FirstZ.map fun (n : Nat) => (n : Int)
def globals : List (Nat × D) := [(0, .agg (firsts.map (D.int .u8))), (1, .agg ((flatPairs accepts).map (D.int .u8)))]
/-- The machine over data: the functions above, the listed tables, the library's functions that are told by what they answer. -/
def M : Mach where
  fn := Vi.get fns
  prim := fun _ => none
  glob := Vi.get globals
theorem fnsOK : ∀ f sf, M.fn f = some sf → chkFunc Tryd.prog f sf = true := fun f sf h => by
  have hm := get_mem (l := fns) h
  simp only [fns, List.mem_cons, List.mem_nil_iff, or_false, Prod.mk.injEq] at hm
  rcases hm with ⟨rfl, rfl⟩ | ⟨rfl, rfl⟩ | ⟨rfl, rfl⟩ | ⟨rfl, rfl⟩ | ⟨rfl, rfl⟩ | ⟨rfl, rfl⟩ | ⟨rfl, rfl⟩ | ⟨rfl, rfl⟩ | ⟨rfl, rfl⟩ | ⟨rfl, rfl⟩ | ⟨rfl, rfl⟩ | ⟨rfl, rfl⟩ | ⟨rfl, rfl⟩ | ⟨rfl, rfl⟩ | ⟨rfl, rfl⟩ | ⟨rfl, rfl⟩ | ⟨rfl, rfl⟩
  · exact c_law2_QuoteTexts
  · exact c_law2_QuoteKnown
  · exact c_law2_QuoteRunes
  · exact c_law2_QuoteBack
  · exact c_quote_Unquote
  · exact c_ref2_Unquote
  · exact c_law2_awake
  · exact c_quote_Quote
  · exact c_ref2_Quote
  · exact c_quote_Valid
  · exact c_quote_Runes
  · exact c_ref2_Runes
  · exact c_quote_Digit
  · exact c_ref2_Hex
  · exact c_ref2_Digit
  · exact c_unicode_utf8_Valid
  · exact c_unicode_utf8_word___byte_
theorem m_law2_QuoteTexts : M.fn n_law2_QuoteTexts = some f_law2_QuoteTexts := rfl
theorem p_law2_QuoteTexts : M.prim n_law2_QuoteTexts = none := rfl
theorem m_law2_QuoteKnown : M.fn n_law2_QuoteKnown = some f_law2_QuoteKnown := rfl
theorem p_law2_QuoteKnown : M.prim n_law2_QuoteKnown = none := rfl
theorem m_law2_QuoteRunes : M.fn n_law2_QuoteRunes = some f_law2_QuoteRunes := rfl
theorem p_law2_QuoteRunes : M.prim n_law2_QuoteRunes = none := rfl
theorem m_law2_QuoteBack : M.fn n_law2_QuoteBack = some f_law2_QuoteBack := rfl
theorem p_law2_QuoteBack : M.prim n_law2_QuoteBack = none := rfl
theorem m_quote_Unquote : M.fn n_quote_Unquote = some f_quote_Unquote := rfl
theorem p_quote_Unquote : M.prim n_quote_Unquote = none := rfl
theorem m_ref2_Unquote : M.fn n_ref2_Unquote = some f_ref2_Unquote := rfl
theorem p_ref2_Unquote : M.prim n_ref2_Unquote = none := rfl
theorem m_law2_awake : M.fn n_law2_awake = some f_law2_awake := rfl
theorem p_law2_awake : M.prim n_law2_awake = none := rfl
theorem m_quote_Quote : M.fn n_quote_Quote = some f_quote_Quote := rfl
theorem p_quote_Quote : M.prim n_quote_Quote = none := rfl
theorem m_ref2_Quote : M.fn n_ref2_Quote = some f_ref2_Quote := rfl
theorem p_ref2_Quote : M.prim n_ref2_Quote = none := rfl
theorem m_quote_Valid : M.fn n_quote_Valid = some f_quote_Valid := rfl
theorem p_quote_Valid : M.prim n_quote_Valid = none := rfl
theorem m_quote_Runes : M.fn n_quote_Runes = some f_quote_Runes := rfl
theorem p_quote_Runes : M.prim n_quote_Runes = none := rfl
theorem m_ref2_Runes : M.fn n_ref2_Runes = some f_ref2_Runes := rfl
theorem p_ref2_Runes : M.prim n_ref2_Runes = none := rfl
theorem m_quote_Digit : M.fn n_quote_Digit = some f_quote_Digit := rfl
theorem p_quote_Digit : M.prim n_quote_Digit = none := rfl
theorem m_ref2_Hex : M.fn n_ref2_Hex = some f_ref2_Hex := rfl
theorem p_ref2_Hex : M.prim n_ref2_Hex = none := rfl
theorem m_ref2_Digit : M.fn n_ref2_Digit = some f_ref2_Digit := rfl
theorem p_ref2_Digit : M.prim n_ref2_Digit = none := rfl
theorem m_unicode_utf8_Valid : M.fn n_unicode_utf8_Valid = some f_unicode_utf8_Valid := rfl
theorem p_unicode_utf8_Valid : M.prim n_unicode_utf8_Valid = none := rfl
theorem m_unicode_utf8_word___byte_ : M.fn n_unicode_utf8_word___byte_ = some f_unicode_utf8_word___byte_ := rfl
theorem p_unicode_utf8_word___byte_ : M.prim n_unicode_utf8_word___byte_ = none := rfl
end Go.Proofs.YtladdhfkmnhmfaaDoor

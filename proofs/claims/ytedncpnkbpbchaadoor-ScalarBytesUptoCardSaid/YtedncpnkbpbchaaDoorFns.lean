/-
  The functions that the laws reach, in compact form, and that each stands for the program's own. Written by a program of this repository (tools/print), not by hand.
-/
import Derived.Test.YtedncpnkbpbchaaDoorChecked
import Derived.Test.YtedncpnkbpbchaaDoorViRow
import Derived.Test.YtedncpnkbpbchaaDoorViBytes
import Derived.Lib.Bytealg
import Derived.Lib.Space
import Derived.KernelRfl
import GoSem.PinnedTables
set_option maxRecDepth 100000
namespace Go.Proofs.YtedncpnkbpbchaaDoor
open Go.Vi
/- cartouche/cartouchelaw3.ScalarBytes -/
def n_law3_ScalarBytes : Nat := 3
def f_law3_ScalarBytes : SFunc where
  np := 4
  res := [.slot 8]
  body := .seq (.reg [⟨some 5, none, .box (.t 1)⟩,
      ⟨some 8, none, .mov false (.c (.d (.bool false)))⟩] [0, 2, 3, 5, 5]) <|
    .seq (.reg [⟨some 20, none, .mov false (.t 0)⟩,
      ⟨some 21, none, .load (some 3) (.t 5)⟩,
      ⟨some 22, none, .call 7 [(false, .t 20), (false, .t 21)]⟩,
      ⟨some 19, none, .mov false (.t 22)⟩,
      ⟨some 23, none, .ext (.t 19) 0⟩,
      ⟨some 24, none, .ext (.t 19) 1⟩,
      ⟨some 9, none, .mov true (.t 23)⟩,
      ⟨some 10, none, .mov false (.t 24)⟩] [0, 2, 3, 5, 5, 9, 10]) <|
    .seq (.reg [⟨some 26, none, .mov false (.t 0)⟩,
      ⟨some 27, none, .mov false (.t 2)⟩,
      ⟨some 28, none, .mov false (.t 3)⟩,
      ⟨some 29, none, .call 8 [(false, .t 26), (false, .t 27), (false, .t 28)]⟩,
      ⟨some 25, none, .mov false (.t 29)⟩,
      ⟨some 30, none, .ext (.t 25) 0⟩,
      ⟨some 31, none, .ext (.t 25) 1⟩,
      ⟨some 32, none, .ext (.t 25) 2⟩,
      ⟨some 11, none, .zbox [.int .u64 0, .slice 0 [], .slice 0 []]⟩,
      ⟨none, none, .store 3 (.t 11) (.t 30)⟩,
      ⟨some 12, none, .mov false (.t 31)⟩,
      ⟨some 13, none, .mov false (.t 32)⟩] [0, 2, 3, 5, 5, 9, 10, 11, 11, 12, 13]) <|
    .seq (.reg [⟨some 34, none, .mov false (.t 0)⟩,
      ⟨some 35, none, .load (some 3) (.t 5)⟩,
      ⟨some 36, none, .call 9 [(false, .t 34), (false, .t 35)]⟩,
      ⟨some 33, none, .mov false (.t 36)⟩,
      ⟨some 37, none, .ext (.t 33) 0⟩,
      ⟨some 38, none, .ext (.t 33) 1⟩,
      ⟨some 14, none, .mov true (.t 37)⟩,
      ⟨some 15, none, .mov false (.t 38)⟩] [0, 2, 3, 9, 10, 11, 11, 12, 13, 14, 15]) <|
    .seq (.seq (.reg [⟨some 39, none, .call 10 []⟩,
      ⟨some 40, none, .not (.t 39)⟩,
      ⟨some 41, none, .mov false (.t 40)⟩,
      ⟨some 42, some (41, false), .mov false (.t 10)⟩,
      ⟨some 43, some (41, false), .mov false (.t 15)⟩,
      ⟨some 44, some (41, false), .bin .i .neq (.t 42) (.t 43)⟩,
      ⟨some 45, none, .pick (.t 41) (.c (.d (.bool true))) (.t 44)⟩,
      ⟨some 46, none, .mov false (.t 45)⟩,
      ⟨some 47, some (46, false), .mov true (.t 9)⟩,
      ⟨some 48, some (46, false), .mov true (.t 14)⟩,
      ⟨some 49, some (46, false), .call 11 [(false, .t 47), (false, .t 48)]⟩,
      ⟨some 50, some (46, false), .not (.t 49)⟩,
      ⟨some 51, none, .pick (.t 46) (.c (.d (.bool true))) (.t 50)⟩] [0, 2, 3, 11, 11, 12, 13, 51]) <|
    .cond (.t 51)
      (.seq (.reg [⟨some 8, none, .mov false (.c (.d (.bool false)))⟩] [8]) <|
      .ret)
      (.skip)) <|
    .seq (.seq (.reg [⟨some 52, none, .mov false (.t 0)⟩,
      ⟨some 53, none, .bin .i .lss (.t 52) (.c (.d (.int .i64 1)))⟩,
      ⟨some 54, none, .mov false (.t 53)⟩,
      ⟨some 55, some (54, false), .mov false (.t 0)⟩,
      ⟨some 56, some (54, false), .bin .i .gtr (.t 55) (.c (.d (.int .i64 16)))⟩,
      ⟨some 57, none, .pick (.t 54) (.c (.d (.bool true))) (.t 56)⟩,
      ⟨some 58, none, .mov false (.t 57)⟩,
      ⟨some 59, some (58, false), .mov false (.t 3)⟩,
      ⟨some 60, some (58, false), .bin .i .lss (.t 59) (.c (.d (.int .i64 0)))⟩,
      ⟨some 61, none, .pick (.t 58) (.c (.d (.bool true))) (.t 60)⟩,
      ⟨some 62, none, .mov false (.t 61)⟩,
      ⟨some 63, some (62, false), .mov false (.t 3)⟩,
      ⟨some 64, some (62, false), .mov false (.t 2)⟩,
      ⟨some 65, some (62, false), .len false (.t 64)⟩,
      ⟨some 66, some (62, false), .bin .i .gtr (.t 63) (.t 65)⟩,
      ⟨some 67, none, .pick (.t 62) (.c (.d (.bool true))) (.t 66)⟩] [0, 2, 3, 11, 11, 12, 13, 67]) <|
    .cond (.t 67)
      (.seq (.reg [⟨some 68, none, .load (some 3) (.t 11)⟩,
        ⟨some 69, none, .mov false (.t 13)⟩,
        ⟨some 70, none, .load (some 3) (.t 11)⟩,
        ⟨some 71, none, .call 12 [(false, .t 68), (false, .t 69), (false, .t 70), (false, .c (.d (.int .i64 18)))]⟩,
        ⟨some 72, none, .mov false (.t 71)⟩,
        ⟨some 73, some (72, true), .mov false (.t 12)⟩,
        ⟨some 74, some (72, true), .bin .i .eql (.t 73) (.c (.d (.int .i64 0)))⟩,
        ⟨some 75, none, .pick (.t 72) (.t 74) (.c (.d (.bool false)))⟩,
        ⟨some 8, none, .mov false (.t 75)⟩] [8]) <|
      .ret)
      (.skip)) <|
    .seq (.reg [⟨some 77, none, .mov false (.t 0)⟩,
      ⟨some 78, none, .mov true (.t 2)⟩,
      ⟨some 79, none, .mov false (.t 3)⟩,
      ⟨some 80, none, .call 13 [(false, .t 77), (false, .t 78), (false, .t 79)]⟩,
      ⟨some 76, none, .mov false (.t 80)⟩,
      ⟨some 81, none, .ext (.t 76) 0⟩,
      ⟨some 82, none, .ext (.t 76) 1⟩,
      ⟨some 83, none, .ext (.t 76) 2⟩,
      ⟨some 16, none, .zbox [.int .u64 0, .slice 0 [], .slice 0 []]⟩,
      ⟨none, none, .store 3 (.t 16) (.t 81)⟩,
      ⟨some 17, none, .mov false (.t 82)⟩,
      ⟨some 18, none, .mov false (.t 83)⟩] [11, 11, 12, 13, 16, 16, 17, 18]) <|
    .seq (.reg [⟨some 84, none, .load (some 3) (.t 11)⟩,
      ⟨some 85, none, .mov false (.t 13)⟩,
      ⟨some 86, none, .load (some 3) (.t 16)⟩,
      ⟨some 87, none, .mov false (.t 18)⟩,
      ⟨some 88, none, .call 12 [(false, .t 84), (false, .t 85), (false, .t 86), (false, .t 87)]⟩,
      ⟨some 89, none, .mov false (.t 88)⟩,
      ⟨some 90, some (89, true), .mov false (.t 12)⟩,
      ⟨some 91, some (89, true), .mov false (.t 17)⟩,
      ⟨some 92, some (89, true), .bin .i .eql (.t 90) (.t 91)⟩,
      ⟨some 93, none, .pick (.t 89) (.t 92) (.c (.d (.bool false)))⟩,
      ⟨some 8, none, .mov false (.t 93)⟩] [8]) <|
    .ret
/- cartouche/cartouchelaw3.ScalarOrders -/
def n_law3_ScalarOrders : Nat := 4
def f_law3_ScalarOrders : SFunc where
  np := 3
  res := [.slot 6]
  body := .seq (.reg [⟨some 4, none, .box (.t 1)⟩,
      ⟨some 5, none, .box (.t 2)⟩,
      ⟨some 6, none, .mov false (.c (.d (.bool false)))⟩] [0, 4, 4, 5, 5]) <|
    .seq (.reg [⟨some 10, none, .mov false (.t 0)⟩,
      ⟨some 11, none, .load (some 3) (.t 4)⟩,
      ⟨some 12, none, .load (some 3) (.t 5)⟩,
      ⟨some 13, none, .call 14 [(false, .t 10), (false, .t 11), (false, .t 12)]⟩,
      ⟨some 9, none, .mov false (.t 13)⟩,
      ⟨some 14, none, .ext (.t 9) 0⟩,
      ⟨some 15, none, .ext (.t 9) 1⟩,
      ⟨some 7, none, .mov false (.t 14)⟩,
      ⟨some 8, none, .mov false (.t 15)⟩] [0, 4, 4, 5, 5, 7, 8]) <|
    .seq (.seq (.reg [⟨some 16, none, .call 10 []⟩,
      ⟨some 17, none, .not (.t 16)⟩] [0, 4, 4, 5, 5, 7, 8, 17]) <|
    .cond (.t 17)
      (.seq (.reg [⟨some 6, none, .mov false (.c (.d (.bool false)))⟩] [6]) <|
      .ret)
      (.skip)) <|
    .seq (.seq (.reg [⟨some 18, none, .mov false (.t 0)⟩,
      ⟨some 19, none, .call 15 [(false, .t 18)]⟩,
      ⟨some 20, none, .not (.t 19)⟩] [0, 4, 4, 5, 5, 7, 8, 20]) <|
    .cond (.t 20)
      (.seq (.reg [⟨some 21, none, .mov false (.t 8)⟩,
        ⟨some 22, none, .bin .i .eql (.t 21) (.c (.d (.int .i64 18)))⟩,
        ⟨some 23, none, .mov false (.t 22)⟩,
        ⟨some 24, some (23, true), .mov false (.t 7)⟩,
        ⟨some 25, some (23, true), .bin .i .eql (.t 24) (.c (.d (.int .i64 0)))⟩,
        ⟨some 26, none, .pick (.t 23) (.t 25) (.c (.d (.bool false)))⟩,
        ⟨some 6, none, .mov false (.t 26)⟩] [6]) <|
      .ret)
      (.skip)) <|
    .seq (.seq (.reg [⟨some 27, none, .mov false (.t 0)⟩,
      ⟨some 28, none, .load (some 3) (.t 4)⟩,
      ⟨some 29, none, .call 16 [(false, .t 27), (false, .t 28)]⟩,
      ⟨some 30, none, .not (.t 29)⟩,
      ⟨some 31, none, .mov false (.t 30)⟩,
      ⟨some 32, some (31, false), .mov false (.t 0)⟩,
      ⟨some 33, some (31, false), .load (some 3) (.t 5)⟩,
      ⟨some 34, some (31, false), .call 16 [(false, .t 32), (false, .t 33)]⟩,
      ⟨some 35, some (31, false), .not (.t 34)⟩,
      ⟨some 36, none, .pick (.t 31) (.c (.d (.bool true))) (.t 35)⟩] [0, 4, 4, 5, 5, 7, 8, 36]) <|
    .cond (.t 36)
      (.seq (.reg [⟨some 37, none, .mov false (.t 8)⟩,
        ⟨some 38, none, .bin .i .eql (.t 37) (.c (.d (.int .i64 7)))⟩,
        ⟨some 39, none, .mov false (.t 38)⟩,
        ⟨some 40, some (39, true), .mov false (.t 7)⟩,
        ⟨some 41, some (39, true), .bin .i .eql (.t 40) (.c (.d (.int .i64 0)))⟩,
        ⟨some 42, none, .pick (.t 39) (.t 41) (.c (.d (.bool false)))⟩,
        ⟨some 6, none, .mov false (.t 42)⟩] [6]) <|
      .ret)
      (.skip)) <|
    .seq (.reg [⟨some 43, none, .mov false (.t 8)⟩,
      ⟨some 44, none, .bin .i .eql (.t 43) (.c (.d (.int .i64 0)))⟩,
      ⟨some 45, none, .mov false (.t 44)⟩,
      ⟨some 46, some (45, true), .mov false (.t 7)⟩,
      ⟨some 47, some (45, true), .mov false (.t 0)⟩,
      ⟨some 48, some (45, true), .load (some 3) (.t 4)⟩,
      ⟨some 49, some (45, true), .load (some 3) (.t 5)⟩,
      ⟨some 50, some (45, true), .call 17 [(false, .t 47), (false, .t 48), (false, .t 49)]⟩,
      ⟨some 51, some (45, true), .bin .i .eql (.t 46) (.t 50)⟩,
      ⟨some 52, none, .pick (.t 45) (.t 51) (.c (.d (.bool false)))⟩,
      ⟨some 6, none, .mov false (.t 52)⟩] [6]) <|
    .ret
/- cartouche/cartouchelaw3.ScalarChain -/
def n_law3_ScalarChain : Nat := 5
def f_law3_ScalarChain : SFunc where
  np := 4
  res := [.slot 8]
  body := .seq (.reg [⟨some 5, none, .box (.t 1)⟩,
      ⟨some 6, none, .box (.t 2)⟩,
      ⟨some 7, none, .box (.t 3)⟩,
      ⟨some 8, none, .mov false (.c (.d (.bool false)))⟩] [0, 5, 5, 6, 6, 7, 7]) <|
    .seq (.seq (.reg [⟨some 17, none, .call 10 []⟩,
      ⟨some 18, none, .not (.t 17)⟩] [0, 5, 5, 6, 6, 7, 7, 18]) <|
    .cond (.t 18)
      (.seq (.reg [⟨some 8, none, .mov false (.c (.d (.bool false)))⟩] [8]) <|
      .ret)
      (.skip)) <|
    .seq (.reg [⟨some 20, none, .mov false (.t 0)⟩,
      ⟨some 21, none, .load (some 3) (.t 5)⟩,
      ⟨some 22, none, .load (some 3) (.t 6)⟩,
      ⟨some 23, none, .call 14 [(false, .t 20), (false, .t 21), (false, .t 22)]⟩,
      ⟨some 19, none, .mov false (.t 23)⟩,
      ⟨some 24, none, .ext (.t 19) 0⟩,
      ⟨some 25, none, .ext (.t 19) 1⟩,
      ⟨some 9, none, .mov false (.t 24)⟩,
      ⟨some 10, none, .mov false (.t 25)⟩] [0, 5, 5, 6, 6, 7, 7, 9, 10]) <|
    .seq (.reg [⟨some 27, none, .mov false (.t 0)⟩,
      ⟨some 28, none, .load (some 3) (.t 6)⟩,
      ⟨some 29, none, .load (some 3) (.t 5)⟩,
      ⟨some 30, none, .call 14 [(false, .t 27), (false, .t 28), (false, .t 29)]⟩,
      ⟨some 26, none, .mov false (.t 30)⟩,
      ⟨some 31, none, .ext (.t 26) 0⟩,
      ⟨some 32, none, .ext (.t 26) 1⟩,
      ⟨some 11, none, .mov false (.t 31)⟩,
      ⟨some 12, none, .mov false (.t 32)⟩] [0, 5, 5, 6, 6, 7, 7, 9, 10, 11, 12]) <|
    .seq (.reg [⟨some 34, none, .mov false (.t 0)⟩,
      ⟨some 35, none, .load (some 3) (.t 6)⟩,
      ⟨some 36, none, .load (some 3) (.t 7)⟩,
      ⟨some 37, none, .call 14 [(false, .t 34), (false, .t 35), (false, .t 36)]⟩,
      ⟨some 33, none, .mov false (.t 37)⟩,
      ⟨some 38, none, .ext (.t 33) 0⟩,
      ⟨some 39, none, .ext (.t 33) 1⟩,
      ⟨some 13, none, .mov false (.t 38)⟩,
      ⟨some 14, none, .mov false (.t 39)⟩] [0, 5, 5, 6, 6, 7, 7, 9, 10, 11, 12, 13, 14]) <|
    .seq (.reg [⟨some 41, none, .mov false (.t 0)⟩,
      ⟨some 42, none, .load (some 3) (.t 5)⟩,
      ⟨some 43, none, .load (some 3) (.t 7)⟩,
      ⟨some 44, none, .call 14 [(false, .t 41), (false, .t 42), (false, .t 43)]⟩,
      ⟨some 40, none, .mov false (.t 44)⟩,
      ⟨some 45, none, .ext (.t 40) 0⟩,
      ⟨some 46, none, .ext (.t 40) 1⟩,
      ⟨some 15, none, .mov false (.t 45)⟩,
      ⟨some 16, none, .mov false (.t 46)⟩] [5, 5, 6, 6, 9, 10, 11, 12, 13, 14, 15, 16]) <|
    .seq (.seq (.reg [⟨some 47, none, .mov false (.t 10)⟩,
      ⟨some 48, none, .bin .i .neq (.t 47) (.c (.d (.int .i64 0)))⟩,
      ⟨some 49, none, .mov false (.t 48)⟩,
      ⟨some 50, some (49, false), .mov false (.t 12)⟩,
      ⟨some 51, some (49, false), .bin .i .neq (.t 50) (.c (.d (.int .i64 0)))⟩,
      ⟨some 52, none, .pick (.t 49) (.c (.d (.bool true))) (.t 51)⟩,
      ⟨some 53, none, .mov false (.t 52)⟩,
      ⟨some 54, some (53, false), .mov false (.t 14)⟩,
      ⟨some 55, some (53, false), .bin .i .neq (.t 54) (.c (.d (.int .i64 0)))⟩,
      ⟨some 56, none, .pick (.t 53) (.c (.d (.bool true))) (.t 55)⟩,
      ⟨some 57, none, .mov false (.t 56)⟩,
      ⟨some 58, some (57, false), .mov false (.t 16)⟩,
      ⟨some 59, some (57, false), .bin .i .neq (.t 58) (.c (.d (.int .i64 0)))⟩,
      ⟨some 60, none, .pick (.t 57) (.c (.d (.bool true))) (.t 59)⟩] [5, 5, 6, 6, 9, 10, 11, 12, 13, 15, 60]) <|
    .cond (.t 60)
      (.seq (.reg [⟨some 61, none, .mov false (.t 10)⟩,
        ⟨some 62, none, .mov false (.t 12)⟩,
        ⟨some 63, none, .bin .i .eql (.t 61) (.t 62)⟩,
        ⟨some 64, none, .mov false (.t 63)⟩,
        ⟨some 65, some (64, true), .mov false (.t 10)⟩,
        ⟨some 66, some (64, true), .bin .i .eql (.t 65) (.c (.d (.int .i64 0)))⟩,
        ⟨some 67, some (64, true), .mov false (.t 66)⟩,
        ⟨some 68, some (67, false), .mov false (.t 9)⟩,
        ⟨some 69, some (67, false), .bin .i .eql (.t 68) (.c (.d (.int .i64 0)))⟩,
        ⟨some 70, some (67, false), .mov false (.t 69)⟩,
        ⟨some 71, some (70, true), .mov false (.t 11)⟩,
        ⟨some 72, some (70, true), .bin .i .eql (.t 71) (.c (.d (.int .i64 0)))⟩,
        ⟨some 73, some (67, false), .pick (.t 70) (.t 72) (.c (.d (.bool false)))⟩,
        ⟨some 74, some (64, true), .pick (.t 67) (.c (.d (.bool true))) (.t 73)⟩,
        ⟨some 75, none, .pick (.t 64) (.t 74) (.c (.d (.bool false)))⟩,
        ⟨some 8, none, .mov false (.t 75)⟩] [8]) <|
      .ret)
      (.skip)) <|
    .seq (.seq (.reg [⟨some 76, none, .mov false (.t 9)⟩,
      ⟨some 77, none, .mov false (.t 11)⟩,
      ⟨some 78, none, .neg (.t 77)⟩,
      ⟨some 79, none, .bin .i .neq (.t 76) (.t 78)⟩,
      ⟨some 80, none, .mov false (.t 79)⟩,
      ⟨some 81, some (80, false), .mov false (.t 9)⟩,
      ⟨some 82, some (80, false), .bin .i .eql (.t 81) (.c (.d (.int .i64 0)))⟩,
      ⟨some 83, some (80, false), .load (some 3) (.t 5)⟩,
      ⟨some 84, some (80, false), .load (some 3) (.t 6)⟩,
      ⟨some 85, some (80, false), .call 18 [(false, .t 83), (false, .t 84)]⟩,
      ⟨some 86, some (80, false), .bin .b .neq (.t 82) (.t 85)⟩,
      ⟨some 87, none, .pick (.t 80) (.c (.d (.bool true))) (.t 86)⟩] [9, 13, 15, 87]) <|
    .cond (.t 87)
      (.seq (.reg [⟨some 8, none, .mov false (.c (.d (.bool false)))⟩] [8]) <|
      .ret)
      (.skip)) <|
    .seq (.reg [⟨some 88, none, .mov false (.t 9)⟩,
      ⟨some 89, none, .bin .i .gtr (.t 88) (.c (.d (.int .i64 0)))⟩,
      ⟨some 90, none, .mov false (.t 89)⟩,
      ⟨some 91, some (90, false), .mov false (.t 13)⟩,
      ⟨some 92, some (90, false), .bin .i .gtr (.t 91) (.c (.d (.int .i64 0)))⟩,
      ⟨some 93, none, .pick (.t 90) (.c (.d (.bool true))) (.t 92)⟩,
      ⟨some 94, none, .mov false (.t 93)⟩,
      ⟨some 95, some (94, false), .mov false (.t 15)⟩,
      ⟨some 96, some (94, false), .bin .i .leq (.t 95) (.c (.d (.int .i64 0)))⟩,
      ⟨some 97, some (94, false), .mov false (.t 96)⟩,
      ⟨some 98, some (97, true), .mov false (.t 9)⟩,
      ⟨some 99, some (97, true), .bin .i .eql (.t 98) (.c (.d (.int .i64 0)))⟩,
      ⟨some 100, some (97, true), .mov false (.t 99)⟩,
      ⟨some 101, some (100, true), .mov false (.t 13)⟩,
      ⟨some 102, some (100, true), .bin .i .eql (.t 101) (.c (.d (.int .i64 0)))⟩,
      ⟨some 103, some (97, true), .pick (.t 100) (.t 102) (.c (.d (.bool false)))⟩,
      ⟨some 104, some (97, true), .mov false (.t 103)⟩,
      ⟨some 105, some (104, false), .mov false (.t 15)⟩,
      ⟨some 106, some (104, false), .bin .i .lss (.t 105) (.c (.d (.int .i64 0)))⟩,
      ⟨some 107, some (97, true), .pick (.t 104) (.c (.d (.bool true))) (.t 106)⟩,
      ⟨some 108, some (94, false), .pick (.t 97) (.t 107) (.c (.d (.bool false)))⟩,
      ⟨some 109, none, .pick (.t 94) (.c (.d (.bool true))) (.t 108)⟩,
      ⟨some 8, none, .mov false (.t 109)⟩] [8]) <|
    .ret
/- cartouche/cartouchelaw3.ScalarKinds -/
def n_law3_ScalarKinds : Nat := 6
def f_law3_ScalarKinds : SFunc where
  np := 3
  res := [.slot 6]
  body := .seq (.reg [⟨some 5, none, .box (.t 2)⟩,
      ⟨some 6, none, .mov false (.c (.d (.bool false)))⟩] [0, 1, 5, 5]) <|
    .seq (.reg [⟨some 16, none, .mov false (.t 0)⟩,
      ⟨some 17, none, .call 19 [(false, .t 16)]⟩,
      ⟨some 15, none, .mov false (.t 17)⟩,
      ⟨some 18, none, .ext (.t 15) 0⟩,
      ⟨some 19, none, .ext (.t 15) 1⟩,
      ⟨some 7, none, .mov false (.t 18)⟩,
      ⟨some 8, none, .mov false (.t 19)⟩] [0, 1, 5, 5, 7, 8]) <|
    .seq (.reg [⟨some 21, none, .mov false (.t 0)⟩,
      ⟨some 22, none, .call 20 [(false, .t 21)]⟩,
      ⟨some 20, none, .mov false (.t 22)⟩,
      ⟨some 23, none, .ext (.t 20) 0⟩,
      ⟨some 24, none, .ext (.t 20) 1⟩,
      ⟨some 9, none, .mov false (.t 23)⟩,
      ⟨some 10, none, .mov false (.t 24)⟩] [0, 1, 5, 5, 7, 8, 9, 10]) <|
    .seq (.reg [⟨some 26, none, .mov false (.t 1)⟩,
      ⟨some 27, none, .call 21 [(false, .t 26)]⟩,
      ⟨some 25, none, .mov false (.t 27)⟩,
      ⟨some 28, none, .ext (.t 25) 0⟩,
      ⟨some 29, none, .ext (.t 25) 1⟩,
      ⟨some 11, none, .mov false (.t 28)⟩,
      ⟨some 12, none, .mov false (.t 29)⟩] [0, 1, 5, 5, 7, 8, 9, 10, 11, 12]) <|
    .seq (.seq (.reg [⟨some 30, none, .call 10 []⟩,
      ⟨some 31, none, .not (.t 30)⟩,
      ⟨some 32, none, .mov false (.t 31)⟩,
      ⟨some 33, some (32, false), .mov false (.t 0)⟩,
      ⟨some 34, some (32, false), .call 22 [(false, .t 33)]⟩,
      ⟨some 35, some (32, false), .mov false (.t 0)⟩,
      ⟨some 36, some (32, false), .call 23 [(false, .t 35)]⟩,
      ⟨some 37, some (32, false), .bin .b .neq (.t 34) (.t 36)⟩,
      ⟨some 38, none, .pick (.t 32) (.c (.d (.bool true))) (.t 37)⟩,
      ⟨some 39, none, .mov false (.t 38)⟩,
      ⟨some 40, some (39, false), .mov false (.t 0)⟩,
      ⟨some 41, some (39, false), .call 24 [(false, .t 40)]⟩,
      ⟨some 42, some (39, false), .mov false (.t 0)⟩,
      ⟨some 43, some (39, false), .call 15 [(false, .t 42)]⟩,
      ⟨some 44, some (39, false), .bin .b .neq (.t 41) (.t 43)⟩,
      ⟨some 45, none, .pick (.t 39) (.c (.d (.bool true))) (.t 44)⟩,
      ⟨some 46, none, .mov false (.t 45)⟩,
      ⟨some 47, some (46, false), .mov false (.t 0)⟩,
      ⟨some 48, some (46, false), .load (some 3) (.t 5)⟩,
      ⟨some 49, some (46, false), .call 25 [(false, .t 47), (false, .t 48)]⟩,
      ⟨some 50, some (46, false), .mov false (.t 0)⟩,
      ⟨some 51, some (46, false), .load (some 3) (.t 5)⟩,
      ⟨some 52, some (46, false), .call 16 [(false, .t 50), (false, .t 51)]⟩,
      ⟨some 53, some (46, false), .bin .b .neq (.t 49) (.t 52)⟩,
      ⟨some 54, none, .pick (.t 46) (.c (.d (.bool true))) (.t 53)⟩] [0, 1, 7, 8, 9, 10, 11, 12, 54]) <|
    .cond (.t 54)
      (.seq (.reg [⟨some 6, none, .mov false (.c (.d (.bool false)))⟩] [6]) <|
      .ret)
      (.skip)) <|
    .seq (.reg [⟨some 55, none, .mov false (.t 0)⟩,
      ⟨some 56, none, .call 26 [(false, .t 55)]⟩,
      ⟨some 13, none, .mov false (.t 56)⟩] [0, 1, 7, 8, 9, 10, 11, 12, 13]) <|
    .seq (.seq (.reg [⟨some 57, none, .mov false (.t 13)⟩,
      ⟨some 58, none, .bin .i .lss (.t 57) (.c (.d (.int .i64 0)))⟩,
      ⟨some 59, none, .mov false (.t 58)⟩,
      ⟨some 60, some (59, true), .mov false (.t 8)⟩,
      ⟨some 61, some (59, true), .bin .i .neq (.t 60) (.c (.d (.int .i64 18)))⟩,
      ⟨some 62, some (59, true), .mov false (.t 61)⟩,
      ⟨some 63, some (62, false), .mov false (.t 7)⟩,
      ⟨some 64, some (62, false), .bin .i .neq (.t 63) (.c (.d (.int .i64 0)))⟩,
      ⟨some 65, some (59, true), .pick (.t 62) (.c (.d (.bool true))) (.t 64)⟩,
      ⟨some 66, none, .pick (.t 59) (.t 65) (.c (.d (.bool false)))⟩,
      ⟨some 67, none, .mov false (.t 66)⟩,
      ⟨some 68, some (67, false), .mov false (.t 13)⟩,
      ⟨some 69, some (67, false), .bin .i .geq (.t 68) (.c (.d (.int .i64 0)))⟩,
      ⟨some 70, some (67, false), .mov false (.t 69)⟩,
      ⟨some 71, some (70, true), .mov false (.t 8)⟩,
      ⟨some 72, some (70, true), .bin .i .neq (.t 71) (.c (.d (.int .i64 0)))⟩,
      ⟨some 73, some (70, true), .mov false (.t 72)⟩,
      ⟨some 74, some (73, false), .mov false (.t 7)⟩,
      ⟨some 75, some (73, false), .mov false (.t 13)⟩,
      ⟨some 76, some (73, false), .bin .i .neq (.t 74) (.t 75)⟩,
      ⟨some 77, some (70, true), .pick (.t 73) (.c (.d (.bool true))) (.t 76)⟩,
      ⟨some 78, some (67, false), .pick (.t 70) (.t 77) (.c (.d (.bool false)))⟩,
      ⟨some 79, none, .pick (.t 67) (.c (.d (.bool true))) (.t 78)⟩] [0, 1, 9, 10, 11, 12, 79]) <|
    .cond (.t 79)
      (.seq (.reg [⟨some 6, none, .mov false (.c (.d (.bool false)))⟩] [6]) <|
      .ret)
      (.skip)) <|
    .seq (.seq (.reg [⟨some 80, none, .mov false (.t 0)⟩,
      ⟨some 81, none, .bin .i .lss (.t 80) (.c (.d (.int .i64 1)))⟩,
      ⟨some 82, none, .mov false (.t 81)⟩,
      ⟨some 83, some (82, false), .mov false (.t 0)⟩,
      ⟨some 84, some (82, false), .bin .i .gtr (.t 83) (.c (.d (.int .i64 15)))⟩,
      ⟨some 85, none, .pick (.t 82) (.c (.d (.bool true))) (.t 84)⟩] [0, 1, 9, 10, 11, 12, 85]) <|
    .cond (.t 85)
      (.seq (.reg [⟨some 86, none, .mov false (.t 10)⟩,
        ⟨some 87, none, .bin .i .neq (.t 86) (.c (.d (.int .i64 18)))⟩,
        ⟨some 88, none, .mov false (.t 87)⟩,
        ⟨some 89, some (88, false), .mov false (.t 9)⟩,
        ⟨some 90, some (88, false), .bin .s .neq (.t 89) (.c (.d (.str [])))⟩,
        ⟨some 91, none, .pick (.t 88) (.c (.d (.bool true))) (.t 90)⟩] [1, 11, 12, 91]) <|
      .cond (.t 91)
        (.seq (.reg [⟨some 6, none, .mov false (.c (.d (.bool false)))⟩] [6]) <|
        .ret)
        (.skip))
      (.seq (.reg [⟨some 92, none, .mov false (.t 10)⟩,
        ⟨some 93, none, .bin .i .neq (.t 92) (.c (.d (.int .i64 0)))⟩,
        ⟨some 94, none, .mov false (.t 93)⟩,
        ⟨some 95, some (94, false), .mov false (.t 9)⟩,
        ⟨some 96, some (94, false), .call 27 []⟩,
        ⟨some 97, some (94, false), .mov false (.t 0)⟩,
        ⟨some 98, some (94, false), .aidx 16 1 none (.t 96) (.t 97)⟩,
        ⟨some 99, some (94, false), .bin .s .neq (.t 95) (.t 98)⟩,
        ⟨some 100, none, .pick (.t 94) (.c (.d (.bool true))) (.t 99)⟩] [1, 11, 12, 100]) <|
      .cond (.t 100)
        (.seq (.reg [⟨some 6, none, .mov false (.c (.d (.bool false)))⟩] [6]) <|
        .ret)
        (.skip))) <|
    .seq (.reg [⟨some 101, none, .mov false (.t 1)⟩,
      ⟨some 102, none, .call 28 [(false, .t 101)]⟩,
      ⟨some 14, none, .mov false (.t 102)⟩] [11, 12, 14]) <|
    .seq (.seq (.reg [⟨some 103, none, .mov false (.t 14)⟩,
      ⟨some 104, none, .bin .i .eql (.t 103) (.c (.d (.int .i64 0)))⟩] [11, 12, 14, 104]) <|
    .cond (.t 104)
      (.seq (.reg [⟨some 105, none, .mov false (.t 12)⟩,
        ⟨some 106, none, .bin .i .eql (.t 105) (.c (.d (.int .i64 12)))⟩,
        ⟨some 107, none, .mov false (.t 106)⟩,
        ⟨some 108, some (107, true), .mov false (.t 11)⟩,
        ⟨some 109, some (107, true), .bin .i .eql (.t 108) (.c (.d (.int .i64 0)))⟩,
        ⟨some 110, none, .pick (.t 107) (.t 109) (.c (.d (.bool false)))⟩,
        ⟨some 6, none, .mov false (.t 110)⟩] [6]) <|
      .ret)
      (.skip)) <|
    .seq (.reg [⟨some 111, none, .mov false (.t 12)⟩,
      ⟨some 112, none, .bin .i .eql (.t 111) (.c (.d (.int .i64 0)))⟩,
      ⟨some 113, none, .mov false (.t 112)⟩,
      ⟨some 114, some (113, true), .mov false (.t 11)⟩,
      ⟨some 115, some (113, true), .mov false (.t 14)⟩,
      ⟨some 116, some (113, true), .bin .i .eql (.t 114) (.t 115)⟩,
      ⟨some 117, none, .pick (.t 113) (.t 116) (.c (.d (.bool false)))⟩,
      ⟨some 6, none, .mov false (.t 117)⟩] [6]) <|
    .ret
/- cartouche/scalar.Put -/
def n_scalar_Put : Nat := 7
def f_scalar_Put : SFunc where
  np := 2
  res := [.slot 4, .slot 5]
  body := .seq (.reg [⟨some 3, none, .box (.t 1)⟩,
      ⟨some 4, none, .mov true (.c (.own 1 []))⟩,
      ⟨some 5, none, .mov false (.c (.d (.int .i64 0)))⟩] [0, 3]) <|
    .seq (.seq (.reg [⟨some 9, none, .mov false (.t 0)⟩,
      ⟨some 10, none, .load (some 3) (.t 3)⟩,
      ⟨some 11, none, .call 29 [(false, .t 9), (false, .t 10)]⟩,
      ⟨some 6, none, .mov false (.t 11)⟩] [0, 3, 6]) <|
    .seq (.reg [⟨some 12, none, .mov false (.t 6)⟩,
      ⟨some 13, none, .bin .i .neq (.t 12) (.c (.d (.int .i64 0)))⟩] [0, 3, 6, 13]) <|
    .cond (.t 13)
      (.seq (.reg [⟨some 14, none, .mov false (.t 6)⟩,
        ⟨some 4, none, .mov true (.c (.own 1 []))⟩,
        ⟨some 5, none, .mov false (.t 14)⟩] [4, 5]) <|
      .ret)
      (.skip)) <|
    .seq (.reg [⟨some 16, none, .mov false (.t 0)⟩,
      ⟨some 17, none, .call 19 [(false, .t 16)]⟩,
      ⟨some 15, none, .mov false (.t 17)⟩,
      ⟨some 18, none, .ext (.t 15) 0⟩,
      ⟨some 19, none, .ext (.t 15) 1⟩,
      ⟨some 7, none, .mov false (.t 18)⟩,
      ⟨some 8, none, .mov false (.t 19)⟩] [0, 3, 7]) <|
    .seq (.block 0 <| .seq (.reg [⟨some 21, none, .mov false (.t 7)⟩,
      ⟨some 22, none, .bin .i .eql (.t 21) (.c (.d (.int .i64 2)))⟩,
      ⟨some 20, none, .mov false (.t 22)⟩] [0, 3, 7, 20]) <|
    .cond (.t 20)
      (.seq (.reg [⟨some 23, none, .faddr 1 none (.t 3)⟩,
        ⟨some 24, none, .load none (.t 23)⟩,
        ⟨some 25, none, .call 30 [(false, .t 24)]⟩,
        ⟨some 4, none, .mov true (.t 25)⟩,
        ⟨some 5, none, .mov false (.c (.d (.int .i64 0)))⟩] [4, 5]) <|
      .ret)
      (.seq (.reg [⟨some 27, none, .mov false (.t 7)⟩,
        ⟨some 28, none, .bin .i .eql (.t 27) (.c (.d (.int .i64 5)))⟩,
        ⟨some 26, none, .mov false (.t 28)⟩] [0, 3, 7, 26]) <|
      .cond (.t 26)
        (.seq (.reg [⟨some 29, none, .faddr 0 none (.t 3)⟩,
          ⟨some 30, none, .load none (.t 29)⟩,
          ⟨some 31, none, .cint .u32 (.t 30)⟩,
          ⟨some 32, none, .call 31 [(false, .t 31)]⟩,
          ⟨some 4, none, .mov true (.t 32)⟩,
          ⟨some 5, none, .mov false (.c (.d (.int .i64 0)))⟩] [4, 5]) <|
        .ret)
        (.seq (.reg [⟨some 34, none, .mov false (.t 7)⟩,
          ⟨some 35, none, .bin .i .eql (.t 34) (.c (.d (.int .i64 1)))⟩,
          ⟨some 33, none, .mov false (.t 35)⟩] [0, 3, 33]) <|
        .cond (.t 33)
          (.seq (.reg [⟨some 36, none, .faddr 0 none (.t 3)⟩,
            ⟨some 37, none, .load none (.t 36)⟩,
            ⟨some 38, none, .call 32 [(false, .t 37)]⟩,
            ⟨some 4, none, .mov true (.t 38)⟩,
            ⟨some 5, none, .mov false (.c (.d (.int .i64 0)))⟩] [4, 5]) <|
          .ret)
          (.seq (.reg [⟨some 40, none, .mov false (.t 0)⟩,
            ⟨some 41, none, .bin .i .eql (.t 40) (.c (.d (.int .i64 6)))⟩,
            ⟨some 42, none, .mov false (.t 41)⟩,
            ⟨some 43, some (42, false), .mov false (.t 0)⟩,
            ⟨some 44, some (42, false), .bin .i .eql (.t 43) (.c (.d (.int .i64 7)))⟩,
            ⟨some 45, none, .pick (.t 42) (.c (.d (.bool true))) (.t 44)⟩,
            ⟨some 39, none, .mov false (.t 45)⟩] [3, 39]) <|
          .cond (.t 39)
            (.seq (.reg [⟨some 46, none, .faddr 0 none (.t 3)⟩,
              ⟨some 47, none, .load none (.t 46)⟩,
              ⟨some 48, none, .cint .i64 (.t 47)⟩,
              ⟨some 49, none, .call 34 [(false, .t 48)]⟩,
              ⟨some 50, none, .call 33 [(false, .t 49)]⟩,
              ⟨some 4, none, .mov true (.t 50)⟩,
              ⟨some 5, none, .mov false (.c (.d (.int .i64 0)))⟩] [4, 5]) <|
            .ret)
            (.skip))))) <|
    .seq (.reg [⟨some 51, none, .faddr 0 none (.t 3)⟩,
      ⟨some 52, none, .load none (.t 51)⟩,
      ⟨some 53, none, .call 33 [(false, .t 52)]⟩,
      ⟨some 4, none, .mov true (.t 53)⟩,
      ⟨some 5, none, .mov false (.c (.d (.int .i64 0)))⟩] [4, 5]) <|
    .ret
/- cartouche/scalar.Get -/
def n_scalar_Get : Nat := 8
def f_scalar_Get : SFunc where
  np := 3
  res := [.cell 6 (some 3), .slot 7, .slot 8]
  body := .seq (.reg [⟨some 6, none, .zbox [.int .u64 0, .slice 0 [], .slice 0 []]⟩,
      ⟨some 7, none, .mov false (.c (.d (.int .i64 0)))⟩,
      ⟨some 8, none, .mov false (.c (.d (.int .i64 0)))⟩] [0, 1, 2, 6, 6]) <|
    .seq (.seq (.reg [⟨some 12, none, .mov false (.t 0)⟩,
      ⟨some 13, none, .call 35 [(false, .t 12)]⟩,
      ⟨some 14, none, .not (.t 13)⟩] [0, 1, 2, 6, 6, 14]) <|
    .cond (.t 14)
      (.seq (.reg [⟨some 15, none, .build [.int .u64 0, .slice 0 [], .slice 0 []] []⟩,
        ⟨none, none, .store 3 (.t 6) (.t 15)⟩,
        ⟨some 7, none, .mov false (.c (.d (.int .i64 0)))⟩,
        ⟨some 8, none, .mov false (.c (.d (.int .i64 18)))⟩] [6, 6, 7, 8]) <|
      .ret)
      (.skip)) <|
    .seq (.seq (.reg [⟨some 17, none, .mov false (.t 0)⟩,
      ⟨some 18, none, .call 19 [(false, .t 17)]⟩,
      ⟨some 16, none, .mov false (.t 18)⟩,
      ⟨some 19, none, .ext (.t 16) 0⟩,
      ⟨some 20, none, .ext (.t 16) 1⟩,
      ⟨some 9, none, .mov false (.t 19)⟩,
      ⟨some 10, none, .mov false (.t 20)⟩] [0, 1, 2, 6, 6, 9]) <|
    .seq (.reg [⟨some 21, none, .mov false (.t 9)⟩] [0, 1, 2, 6, 6, 21]) <|
    .block 0 <| .seq (.reg [⟨some 42, none, .bin .i .eql (.t 21) (.c (.d (.int .i64 2)))⟩,
      ⟨some 41, none, .mov false (.t 42)⟩] [0, 1, 2, 6, 6, 21, 41]) <|
    .cond (.t 41)
      (.reg [⟨some 44, none, .mov true (.t 1)⟩,
        ⟨some 45, none, .mov false (.t 2)⟩,
        ⟨some 46, none, .call 36 [(false, .t 44), (false, .t 45)]⟩,
        ⟨some 43, none, .mov false (.t 46)⟩,
        ⟨some 47, none, .ext (.t 43) 0⟩,
        ⟨some 48, none, .ext (.t 43) 1⟩,
        ⟨some 49, none, .ext (.t 43) 2⟩,
        ⟨some 50, none, .faddr 1 none (.t 6)⟩,
        ⟨none, none, .store 1 (.t 50) (.t 47)⟩,
        ⟨some 7, none, .mov false (.t 48)⟩,
        ⟨some 8, none, .mov false (.t 49)⟩] [0, 6, 6, 7, 8])
      (.seq (.reg [⟨some 52, none, .bin .i .eql (.t 21) (.c (.d (.int .i64 5)))⟩,
        ⟨some 51, none, .mov false (.t 52)⟩] [0, 1, 2, 6, 6, 21, 51]) <|
      .cond (.t 51)
        (.seq (.reg [⟨some 11, none, .mov false (.c (.d (.int .u32 0)))⟩] [0, 1, 2, 6, 6]) <|
        .seq (.reg [⟨some 54, none, .mov true (.t 1)⟩,
          ⟨some 55, none, .mov false (.t 2)⟩,
          ⟨some 56, none, .call 37 [(false, .t 54), (false, .t 55)]⟩,
          ⟨some 53, none, .mov false (.t 56)⟩,
          ⟨some 57, none, .ext (.t 53) 0⟩,
          ⟨some 58, none, .ext (.t 53) 1⟩,
          ⟨some 59, none, .ext (.t 53) 2⟩,
          ⟨some 11, none, .mov false (.t 57)⟩,
          ⟨some 7, none, .mov false (.t 58)⟩,
          ⟨some 8, none, .mov false (.t 59)⟩] [0, 6, 6, 7, 8, 11]) <|
        .seq (.reg [⟨some 60, none, .mov false (.t 11)⟩,
          ⟨some 61, none, .cint .u64 (.t 60)⟩,
          ⟨some 62, none, .faddr 0 none (.t 6)⟩,
          ⟨none, none, .store 1 (.t 62) (.t 61)⟩] [0, 6, 6, 7, 8, 11]) <|
        .seq (.reg [⟨some 63, none, .mov false (.t 0)⟩,
          ⟨some 64, none, .bin .i .eql (.t 63) (.c (.d (.int .i64 10)))⟩] [0, 6, 6, 7, 8, 11, 64]) <|
        .cond (.t 64)
          (.reg [⟨some 65, none, .mov false (.t 11)⟩,
            ⟨some 66, none, .cint .i32 (.t 65)⟩,
            ⟨some 67, none, .cint .u64 (.t 66)⟩,
            ⟨some 68, none, .faddr 0 none (.t 6)⟩,
            ⟨none, none, .store 1 (.t 68) (.t 67)⟩] [0, 6, 6, 7, 8])
          (.skip))
        (.seq (.reg [⟨some 70, none, .bin .i .eql (.t 21) (.c (.d (.int .i64 1)))⟩,
          ⟨some 69, none, .mov false (.t 70)⟩] [0, 1, 2, 6, 6, 69]) <|
        .cond (.t 69)
          (.reg [⟨some 72, none, .mov true (.t 1)⟩,
            ⟨some 73, none, .mov false (.t 2)⟩,
            ⟨some 74, none, .call 38 [(false, .t 72), (false, .t 73)]⟩,
            ⟨some 71, none, .mov false (.t 74)⟩,
            ⟨some 75, none, .ext (.t 71) 0⟩,
            ⟨some 76, none, .ext (.t 71) 1⟩,
            ⟨some 77, none, .ext (.t 71) 2⟩,
            ⟨some 78, none, .faddr 0 none (.t 6)⟩,
            ⟨none, none, .store 1 (.t 78) (.t 75)⟩,
            ⟨some 7, none, .mov false (.t 76)⟩,
            ⟨some 8, none, .mov false (.t 77)⟩] [0, 6, 6, 7, 8])
          (.seq (.reg [⟨some 23, none, .mov true (.t 1)⟩,
            ⟨some 24, none, .mov false (.t 2)⟩,
            ⟨some 25, none, .call 39 [(false, .t 23), (false, .t 24)]⟩,
            ⟨some 22, none, .mov false (.t 25)⟩,
            ⟨some 26, none, .ext (.t 22) 0⟩,
            ⟨some 27, none, .ext (.t 22) 1⟩,
            ⟨some 28, none, .ext (.t 22) 2⟩,
            ⟨some 29, none, .faddr 0 none (.t 6)⟩,
            ⟨none, none, .store 1 (.t 29) (.t 26)⟩,
            ⟨some 7, none, .mov false (.t 27)⟩,
            ⟨some 8, none, .mov false (.t 28)⟩] [0, 6, 6, 7, 8]) <|
          .seq (.reg [⟨some 30, none, .mov false (.t 0)⟩,
            ⟨some 31, none, .bin .i .eql (.t 30) (.c (.d (.int .i64 6)))⟩,
            ⟨some 32, none, .mov false (.t 31)⟩,
            ⟨some 33, some (32, false), .mov false (.t 0)⟩,
            ⟨some 34, some (32, false), .bin .i .eql (.t 33) (.c (.d (.int .i64 7)))⟩,
            ⟨some 35, none, .pick (.t 32) (.c (.d (.bool true))) (.t 34)⟩] [0, 6, 6, 7, 8, 35]) <|
          .cond (.t 35)
            (.reg [⟨some 36, none, .faddr 0 none (.t 6)⟩,
              ⟨some 37, none, .load none (.t 36)⟩,
              ⟨some 38, none, .call 40 [(false, .t 37)]⟩,
              ⟨some 39, none, .cint .u64 (.t 38)⟩,
              ⟨some 40, none, .faddr 0 none (.t 6)⟩,
              ⟨none, none, .store 1 (.t 40) (.t 39)⟩] [0, 6, 6, 7, 8])
            (.skip))))) <|
    .seq (.seq (.reg [⟨some 79, none, .mov false (.t 8)⟩,
      ⟨some 80, none, .bin .i .eql (.t 79) (.c (.d (.int .i64 0)))⟩] [0, 6, 6, 7, 8, 80]) <|
    .cond (.t 80)
      (.reg [⟨some 81, none, .mov false (.t 0)⟩,
        ⟨some 82, none, .load (some 3) (.t 6)⟩,
        ⟨some 83, none, .call 29 [(false, .t 81), (false, .t 82)]⟩,
        ⟨some 8, none, .mov false (.t 83)⟩] [6, 6, 7, 8])
      (.skip)) <|
    .seq (.seq (.reg [⟨some 84, none, .mov false (.t 8)⟩,
      ⟨some 85, none, .bin .i .neq (.t 84) (.c (.d (.int .i64 0)))⟩] [6, 6, 7, 8, 85]) <|
    .cond (.t 85)
      (.seq (.reg [⟨some 86, none, .build [.int .u64 0, .slice 0 [], .slice 0 []] []⟩,
        ⟨some 87, none, .mov false (.t 8)⟩,
        ⟨none, none, .store 3 (.t 6) (.t 86)⟩,
        ⟨some 7, none, .mov false (.c (.d (.int .i64 0)))⟩,
        ⟨some 8, none, .mov false (.t 87)⟩] [6, 6, 7, 8]) <|
      .ret)
      (.skip)) <|
    .seq (.reg [⟨some 88, none, .load (some 3) (.t 6)⟩,
      ⟨some 89, none, .mov false (.t 7)⟩,
      ⟨none, none, .store 3 (.t 6) (.t 88)⟩,
      ⟨some 7, none, .mov false (.t 89)⟩,
      ⟨some 8, none, .mov false (.c (.d (.int .i64 0)))⟩] [6, 6, 7, 8]) <|
    .ret
/- cartouche/cartoucheref3.Put -/
def n_ref3_Put : Nat := 9
def f_ref3_Put : SFunc where
  np := 2
  res := [.slot 4, .slot 5]
  body := .seq (.reg [⟨some 3, none, .box (.t 1)⟩,
      ⟨some 4, none, .mov true (.c (.own 1 []))⟩,
      ⟨some 5, none, .mov false (.c (.d (.int .i64 0)))⟩] [0, 3]) <|
    .seq (.seq (.reg [⟨some 6, none, .mov false (.t 0)⟩,
      ⟨some 7, none, .bin .i .lss (.t 6) (.c (.d (.int .i64 1)))⟩,
      ⟨some 8, none, .mov false (.t 7)⟩,
      ⟨some 9, some (8, false), .mov false (.t 0)⟩,
      ⟨some 10, some (8, false), .bin .i .gtr (.t 9) (.c (.d (.int .i64 16)))⟩,
      ⟨some 11, none, .pick (.t 8) (.c (.d (.bool true))) (.t 10)⟩] [0, 3, 11]) <|
    .cond (.t 11)
      (.seq (.reg [⟨some 4, none, .mov true (.c (.own 1 []))⟩,
        ⟨some 5, none, .mov false (.c (.d (.int .i64 18)))⟩] [4, 5]) <|
      .ret)
      (.skip)) <|
    .seq (.seq (.reg [⟨some 12, none, .mov false (.t 0)⟩,
      ⟨some 13, none, .load (some 3) (.t 3)⟩,
      ⟨some 14, none, .call 16 [(false, .t 12), (false, .t 13)]⟩,
      ⟨some 15, none, .not (.t 14)⟩] [0, 3, 15]) <|
    .cond (.t 15)
      (.seq (.reg [⟨some 4, none, .mov true (.c (.own 1 []))⟩,
        ⟨some 5, none, .mov false (.c (.d (.int .i64 7)))⟩] [4, 5]) <|
      .ret)
      (.skip)) <|
    .seq (.seq (.reg [⟨some 16, none, .mov false (.t 0)⟩,
      ⟨some 17, none, .bin .i .eql (.t 16) (.c (.d (.int .i64 14)))⟩,
      ⟨some 18, none, .mov false (.t 17)⟩,
      ⟨some 19, some (18, true), .faddr 1 none (.t 3)⟩,
      ⟨some 20, some (18, true), .load none (.t 19)⟩,
      ⟨some 21, some (18, true), .call 41 [(false, .t 20)]⟩,
      ⟨some 22, some (18, true), .not (.t 21)⟩,
      ⟨some 23, none, .pick (.t 18) (.t 22) (.c (.d (.bool false)))⟩] [0, 3, 23]) <|
    .cond (.t 23)
      (.seq (.reg [⟨some 4, none, .mov true (.c (.own 1 []))⟩,
        ⟨some 5, none, .mov false (.c (.d (.int .i64 8)))⟩] [4, 5]) <|
      .ret)
      (.skip)) <|
    .seq (.seq (.reg [⟨some 24, none, .mov false (.t 0)⟩,
      ⟨some 25, none, .call 26 [(false, .t 24)]⟩] [0, 3, 25]) <|
    .block 0 <| .seq (.reg [⟨some 27, none, .bin .i .eql (.t 25) (.c (.d (.int .i64 0)))⟩,
      ⟨some 26, none, .mov false (.t 27)⟩] [0, 3, 25, 26]) <|
    .cond (.t 26)
      (.seq (.seq (.reg [⟨some 28, none, .mov false (.t 0)⟩,
        ⟨some 29, none, .bin .i .eql (.t 28) (.c (.d (.int .i64 6)))⟩,
        ⟨some 30, none, .mov false (.t 29)⟩,
        ⟨some 31, some (30, false), .mov false (.t 0)⟩,
        ⟨some 32, some (30, false), .bin .i .eql (.t 31) (.c (.d (.int .i64 7)))⟩,
        ⟨some 33, none, .pick (.t 30) (.c (.d (.bool true))) (.t 32)⟩] [3, 33]) <|
      .cond (.t 33)
        (.seq (.reg [⟨some 34, none, .faddr 0 none (.t 3)⟩,
          ⟨some 35, none, .load none (.t 34)⟩,
          ⟨some 36, none, .cint .i64 (.t 35)⟩,
          ⟨some 37, none, .call 43 [(false, .t 36)]⟩,
          ⟨some 38, none, .call 42 [(false, .t 37)]⟩,
          ⟨some 4, none, .mov true (.t 38)⟩,
          ⟨some 5, none, .mov false (.c (.d (.int .i64 0)))⟩] [4, 5]) <|
        .ret)
        (.skip)) <|
      .seq (.reg [⟨some 39, none, .faddr 0 none (.t 3)⟩,
        ⟨some 40, none, .load none (.t 39)⟩,
        ⟨some 41, none, .call 42 [(false, .t 40)]⟩,
        ⟨some 4, none, .mov true (.t 41)⟩,
        ⟨some 5, none, .mov false (.c (.d (.int .i64 0)))⟩] [4, 5]) <|
      .ret)
      (.seq (.reg [⟨some 43, none, .bin .i .eql (.t 25) (.c (.d (.int .i64 1)))⟩,
        ⟨some 42, none, .mov false (.t 43)⟩] [3, 25, 42]) <|
      .cond (.t 42)
        (.seq (.reg [⟨some 44, none, .faddr 0 none (.t 3)⟩,
          ⟨some 45, none, .load none (.t 44)⟩,
          ⟨some 46, none, .call 44 [(false, .t 45), (false, .c (.d (.int .i64 8)))]⟩,
          ⟨some 4, none, .mov true (.t 46)⟩,
          ⟨some 5, none, .mov false (.c (.d (.int .i64 0)))⟩] [4, 5]) <|
        .ret)
        (.seq (.reg [⟨some 48, none, .bin .i .eql (.t 25) (.c (.d (.int .i64 5)))⟩,
          ⟨some 47, none, .mov false (.t 48)⟩] [3, 47]) <|
        .cond (.t 47)
          (.seq (.reg [⟨some 49, none, .faddr 0 none (.t 3)⟩,
            ⟨some 50, none, .load none (.t 49)⟩,
            ⟨some 51, none, .call 44 [(false, .t 50), (false, .c (.d (.int .i64 4)))]⟩,
            ⟨some 4, none, .mov true (.t 51)⟩,
            ⟨some 5, none, .mov false (.c (.d (.int .i64 0)))⟩] [4, 5]) <|
          .ret)
          (.skip)))) <|
    .seq (.reg [⟨some 52, none, .faddr 1 none (.t 3)⟩,
      ⟨some 53, none, .load none (.t 52)⟩,
      ⟨some 54, none, .call 45 [(false, .t 53)]⟩,
      ⟨some 4, none, .mov true (.t 54)⟩,
      ⟨some 5, none, .mov false (.c (.d (.int .i64 0)))⟩] [4, 5]) <|
    .ret
/- cartouche/cartouchelaw3.awake -/
def n_law3_awake : Nat := 10
def f_law3_awake : SFunc where
  np := 0
  res := [.slot 0]
  body := .seq (.reg [⟨some 0, none, .mov false (.c (.d (.bool false)))⟩] []) <|
    .seq (.reg [⟨some 7, none, .call 46 [(false, .c (.d (.int .i64 (-1))))]⟩,
      ⟨some 8, none, .call 7 [(false, .c (.d (.int .i64 6))), (false, .t 7)]⟩,
      ⟨some 6, none, .mov false (.t 8)⟩,
      ⟨some 9, none, .ext (.t 6) 0⟩,
      ⟨some 10, none, .ext (.t 6) 1⟩,
      ⟨some 1, none, .mov true (.t 9)⟩,
      ⟨some 2, none, .mov false (.t 10)⟩] [1, 2]) <|
    .seq (.reg [⟨some 12, none, .mk 1 [.c (.d (.int .u8 255)), .c (.d (.int .u8 255)), .c (.d (.int .u8 255)), .c (.d (.int .u8 255))]⟩,
      ⟨some 13, none, .call 8 [(false, .c (.d (.int .i64 10))), (false, .t 12), (false, .c (.d (.int .i64 0)))]⟩,
      ⟨some 11, none, .mov false (.t 13)⟩,
      ⟨some 14, none, .ext (.t 11) 0⟩,
      ⟨some 15, none, .ext (.t 11) 1⟩,
      ⟨some 16, none, .ext (.t 11) 2⟩,
      ⟨some 3, none, .zbox [.int .u64 0, .slice 0 [], .slice 0 []]⟩,
      ⟨none, none, .store 3 (.t 3) (.t 14)⟩,
      ⟨some 4, none, .mov false (.t 15)⟩,
      ⟨some 5, none, .mov false (.t 16)⟩] [1, 2, 3, 3, 4, 5]) <|
    .seq (.reg [⟨some 17, none, .mov false (.t 2)⟩,
      ⟨some 18, none, .bin .i .eql (.t 17) (.c (.d (.int .i64 0)))⟩,
      ⟨some 19, none, .mov false (.t 18)⟩,
      ⟨some 20, some (19, true), .mov true (.t 1)⟩,
      ⟨some 21, some (19, true), .mk 1 [.c (.d (.int .u8 1))]⟩,
      ⟨some 22, some (19, true), .call 11 [(false, .t 20), (false, .t 21)]⟩,
      ⟨some 23, none, .pick (.t 19) (.t 22) (.c (.d (.bool false)))⟩,
      ⟨some 24, none, .mov false (.t 23)⟩,
      ⟨some 25, some (24, true), .load (some 3) (.t 3)⟩,
      ⟨some 26, some (24, true), .mov false (.t 5)⟩,
      ⟨some 27, some (24, true), .call 46 [(false, .c (.d (.int .i64 (-1))))]⟩,
      ⟨some 28, some (24, true), .call 12 [(false, .t 25), (false, .t 26), (false, .t 27), (false, .c (.d (.int .i64 0)))]⟩,
      ⟨some 29, none, .pick (.t 24) (.t 28) (.c (.d (.bool false)))⟩,
      ⟨some 30, none, .mov false (.t 29)⟩,
      ⟨some 31, some (30, true), .mov false (.t 4)⟩,
      ⟨some 32, some (30, true), .bin .i .eql (.t 31) (.c (.d (.int .i64 4)))⟩,
      ⟨some 33, none, .pick (.t 30) (.t 32) (.c (.d (.bool false)))⟩,
      ⟨some 0, none, .mov false (.t 33)⟩] [0]) <|
    .ret
/- cartouche/cartouchelaw3.same -/
def n_law3_same : Nat := 11
def f_law3_same : SFunc where
  np := 2
  res := [.slot 4]
  body := .seq (.reg [⟨some 4, none, .mov false (.c (.d (.bool false)))⟩] [0, 1]) <|
    .seq (.reg [⟨some 5, none, .mov true (.t 0)⟩,
      ⟨some 6, none, .cstr (.t 5)⟩,
      ⟨some 7, none, .mov true (.t 1)⟩,
      ⟨some 8, none, .cstr (.t 7)⟩,
      ⟨some 9, none, .bin .s .eql (.t 6) (.t 8)⟩,
      ⟨some 4, none, .mov false (.t 9)⟩] [4]) <|
    .ret
/- cartouche/cartouchelaw3.told -/
def n_law3_told : Nat := 12
def f_law3_told : SFunc where
  np := 4
  res := [.slot 8]
  body := .seq (.reg [⟨some 4, none, .box (.t 0)⟩,
      ⟨some 6, none, .box (.t 2)⟩,
      ⟨some 8, none, .mov false (.c (.d (.bool false)))⟩] [1, 3, 4, 4, 6, 6]) <|
    .seq (.seq (.reg [⟨some 9, none, .mov false (.t 3)⟩,
      ⟨some 10, none, .bin .i .neq (.t 9) (.c (.d (.int .i64 0)))⟩] [1, 3, 4, 4, 6, 6, 10]) <|
    .cond (.t 10)
      (.seq (.reg [⟨some 11, none, .mov false (.t 1)⟩,
        ⟨some 12, none, .mov false (.t 3)⟩,
        ⟨some 13, none, .bin .i .eql (.t 11) (.t 12)⟩,
        ⟨some 14, none, .mov false (.t 13)⟩,
        ⟨some 15, some (14, true), .load (some 3) (.t 4)⟩,
        ⟨some 16, some (14, true), .build [.int .u64 0, .slice 0 [], .slice 0 []] []⟩,
        ⟨some 17, some (14, true), .call 18 [(false, .t 15), (false, .t 16)]⟩,
        ⟨some 18, none, .pick (.t 14) (.t 17) (.c (.d (.bool false)))⟩,
        ⟨some 8, none, .mov false (.t 18)⟩] [8]) <|
      .ret)
      (.skip)) <|
    .seq (.reg [⟨some 19, none, .mov false (.t 1)⟩,
      ⟨some 20, none, .bin .i .eql (.t 19) (.c (.d (.int .i64 0)))⟩,
      ⟨some 21, none, .mov false (.t 20)⟩,
      ⟨some 22, some (21, true), .load (some 3) (.t 4)⟩,
      ⟨some 23, some (21, true), .load (some 3) (.t 6)⟩,
      ⟨some 24, some (21, true), .call 18 [(false, .t 22), (false, .t 23)]⟩,
      ⟨some 25, none, .pick (.t 21) (.t 24) (.c (.d (.bool false)))⟩,
      ⟨some 8, none, .mov false (.t 25)⟩] [8]) <|
    .ret
/- cartouche/cartoucheref3.Get -/
def n_ref3_Get : Nat := 13
def f_ref3_Get : SFunc where
  np := 3
  res := [.cell 6 (some 3), .slot 7, .slot 8]
  body := .seq (.reg [⟨some 6, none, .zbox [.int .u64 0, .slice 0 [], .slice 0 []]⟩,
      ⟨some 7, none, .mov false (.c (.d (.int .i64 0)))⟩,
      ⟨some 8, none, .mov false (.c (.d (.int .i64 0)))⟩] [0, 1, 2, 6, 6]) <|
    .seq (.reg [⟨some 16, none, .build [.int .u64 0, .slice 0 [], .slice 0 []] []⟩,
      ⟨some 9, none, .zbox [.int .u64 0, .slice 0 [], .slice 0 []]⟩,
      ⟨none, none, .store 3 (.t 9) (.t 16)⟩] [0, 1, 2, 6, 6, 9, 9]) <|
    .seq (.reg [⟨some 10, none, .mov false (.c (.d (.int .u64 0)))⟩,
      ⟨some 11, none, .mov false (.c (.d (.int .i64 0)))⟩,
      ⟨some 12, none, .mov false (.c (.d (.int .i64 0)))⟩] [0, 1, 2, 6, 6, 9, 9]) <|
    .seq (.seq (.reg [⟨some 17, none, .mov false (.t 0)⟩,
      ⟨some 18, none, .call 26 [(false, .t 17)]⟩] [0, 1, 2, 6, 6, 9, 9, 18]) <|
    .block 0 <| .seq (.reg [⟨some 42, none, .bin .i .eql (.t 18) (.c (.d (.int .i64 0)))⟩,
      ⟨some 41, none, .mov false (.t 42)⟩] [0, 1, 2, 6, 6, 9, 9, 18, 41]) <|
    .cond (.t 41)
      (.seq (.reg [⟨some 44, none, .mov true (.t 1)⟩,
        ⟨some 45, none, .mov false (.t 2)⟩,
        ⟨some 46, none, .call 47 [(false, .t 44), (false, .t 45)]⟩,
        ⟨some 43, none, .mov false (.t 46)⟩,
        ⟨some 47, none, .ext (.t 43) 0⟩,
        ⟨some 48, none, .ext (.t 43) 1⟩,
        ⟨some 49, none, .ext (.t 43) 2⟩,
        ⟨some 10, none, .mov false (.t 47)⟩,
        ⟨some 11, none, .mov false (.t 48)⟩,
        ⟨some 12, none, .mov false (.t 49)⟩] [0, 6, 6, 9, 9, 10, 11, 12]) <|
      .seq (.reg [⟨some 50, none, .mov false (.t 0)⟩,
        ⟨some 51, none, .bin .i .eql (.t 50) (.c (.d (.int .i64 6)))⟩,
        ⟨some 52, none, .mov false (.t 51)⟩,
        ⟨some 53, some (52, false), .mov false (.t 0)⟩,
        ⟨some 54, some (52, false), .bin .i .eql (.t 53) (.c (.d (.int .i64 7)))⟩,
        ⟨some 55, none, .pick (.t 52) (.c (.d (.bool true))) (.t 54)⟩] [0, 6, 6, 9, 9, 10, 11, 12, 55]) <|
      .cond (.t 55)
        (.reg [⟨some 56, none, .mov false (.t 10)⟩,
          ⟨some 57, none, .call 48 [(false, .t 56)]⟩,
          ⟨some 58, none, .cint .u64 (.t 57)⟩,
          ⟨some 10, none, .mov false (.t 58)⟩] [0, 6, 6, 9, 9, 10, 11, 12])
        (.skip))
      (.seq (.reg [⟨some 60, none, .bin .i .eql (.t 18) (.c (.d (.int .i64 1)))⟩,
        ⟨some 59, none, .mov false (.t 60)⟩] [0, 1, 2, 6, 6, 9, 9, 18, 59]) <|
      .cond (.t 59)
        (.reg [⟨some 62, none, .mov true (.t 1)⟩,
          ⟨some 63, none, .mov false (.t 2)⟩,
          ⟨some 64, none, .call 49 [(false, .t 62), (false, .t 63), (false, .c (.d (.int .i64 8)))]⟩,
          ⟨some 61, none, .mov false (.t 64)⟩,
          ⟨some 65, none, .ext (.t 61) 0⟩,
          ⟨some 66, none, .ext (.t 61) 1⟩,
          ⟨some 67, none, .ext (.t 61) 2⟩,
          ⟨some 10, none, .mov false (.t 65)⟩,
          ⟨some 11, none, .mov false (.t 66)⟩,
          ⟨some 12, none, .mov false (.t 67)⟩] [0, 6, 6, 9, 9, 10, 11, 12])
        (.seq (.reg [⟨some 69, none, .bin .i .eql (.t 18) (.c (.d (.int .i64 5)))⟩,
          ⟨some 68, none, .mov false (.t 69)⟩] [0, 1, 2, 6, 6, 9, 9, 68]) <|
        .cond (.t 68)
          (.seq (.reg [⟨some 71, none, .mov true (.t 1)⟩,
            ⟨some 72, none, .mov false (.t 2)⟩,
            ⟨some 73, none, .call 49 [(false, .t 71), (false, .t 72), (false, .c (.d (.int .i64 4)))]⟩,
            ⟨some 70, none, .mov false (.t 73)⟩,
            ⟨some 74, none, .ext (.t 70) 0⟩,
            ⟨some 75, none, .ext (.t 70) 1⟩,
            ⟨some 76, none, .ext (.t 70) 2⟩,
            ⟨some 10, none, .mov false (.t 74)⟩,
            ⟨some 11, none, .mov false (.t 75)⟩,
            ⟨some 12, none, .mov false (.t 76)⟩] [0, 6, 6, 9, 9, 10, 11, 12]) <|
          .seq (.reg [⟨some 77, none, .mov false (.t 0)⟩,
            ⟨some 78, none, .bin .i .eql (.t 77) (.c (.d (.int .i64 10)))⟩] [0, 6, 6, 9, 9, 10, 11, 12, 78]) <|
          .cond (.t 78)
            (.reg [⟨some 79, none, .mov false (.t 10)⟩,
              ⟨some 80, none, .cint .i32 (.t 79)⟩,
              ⟨some 81, none, .cint .i64 (.t 80)⟩,
              ⟨some 82, none, .cint .u64 (.t 81)⟩,
              ⟨some 10, none, .mov false (.t 82)⟩] [0, 6, 6, 9, 9, 10, 11, 12])
            (.skip))
          (.seq (.reg [⟨some 20, none, .mov true (.t 1)⟩,
            ⟨some 21, none, .mov false (.t 2)⟩,
            ⟨some 22, none, .call 50 [(false, .t 20), (false, .t 21)]⟩,
            ⟨some 19, none, .mov false (.t 22)⟩,
            ⟨some 23, none, .ext (.t 19) 0⟩,
            ⟨some 24, none, .ext (.t 19) 1⟩,
            ⟨some 25, none, .ext (.t 19) 2⟩,
            ⟨some 13, none, .mov true (.t 23)⟩,
            ⟨some 14, none, .mov false (.t 24)⟩,
            ⟨some 15, none, .mov false (.t 25)⟩] [0, 6, 6, 9, 9, 13, 14, 15]) <|
          .seq (.seq (.reg [⟨some 26, none, .mov false (.t 15)⟩,
            ⟨some 27, none, .bin .i .neq (.t 26) (.c (.d (.int .i64 0)))⟩] [0, 6, 6, 9, 9, 13, 14, 15, 27]) <|
          .cond (.t 27)
            (.seq (.reg [⟨some 28, none, .load (some 3) (.t 9)⟩,
              ⟨some 29, none, .mov false (.t 15)⟩,
              ⟨none, none, .store 3 (.t 6) (.t 28)⟩,
              ⟨some 7, none, .mov false (.c (.d (.int .i64 0)))⟩,
              ⟨some 8, none, .mov false (.t 29)⟩] [6, 6, 7, 8]) <|
            .ret)
            (.skip)) <|
          .seq (.seq (.reg [⟨some 30, none, .mov false (.t 0)⟩,
            ⟨some 31, none, .bin .i .eql (.t 30) (.c (.d (.int .i64 14)))⟩,
            ⟨some 32, none, .mov false (.t 31)⟩,
            ⟨some 33, some (32, true), .mov false (.t 13)⟩,
            ⟨some 34, some (32, true), .call 41 [(false, .t 33)]⟩,
            ⟨some 35, some (32, true), .not (.t 34)⟩,
            ⟨some 36, none, .pick (.t 32) (.t 35) (.c (.d (.bool false)))⟩] [6, 6, 9, 9, 13, 14, 36]) <|
          .cond (.t 36)
            (.seq (.reg [⟨some 37, none, .load (some 3) (.t 9)⟩,
              ⟨none, none, .store 3 (.t 6) (.t 37)⟩,
              ⟨some 7, none, .mov false (.c (.d (.int .i64 0)))⟩,
              ⟨some 8, none, .mov false (.c (.d (.int .i64 8)))⟩] [6, 6, 7, 8]) <|
            .ret)
            (.skip)) <|
          .seq (.reg [⟨some 38, none, .mov true (.t 13)⟩,
            ⟨some 39, none, .build [.int .u64 0, .slice 0 [], .slice 0 []] [(1, 1, .t 38)]⟩,
            ⟨some 40, none, .mov false (.t 14)⟩,
            ⟨none, none, .store 3 (.t 6) (.t 39)⟩,
            ⟨some 7, none, .mov false (.t 40)⟩,
            ⟨some 8, none, .mov false (.c (.d (.int .i64 0)))⟩] [6, 6, 7, 8]) <|
          .ret)))) <|
    .seq (.seq (.reg [⟨some 83, none, .mov false (.t 12)⟩,
      ⟨some 84, none, .bin .i .neq (.t 83) (.c (.d (.int .i64 0)))⟩] [0, 6, 6, 9, 9, 10, 11, 12, 84]) <|
    .cond (.t 84)
      (.seq (.reg [⟨some 85, none, .load (some 3) (.t 9)⟩,
        ⟨some 86, none, .mov false (.t 12)⟩,
        ⟨none, none, .store 3 (.t 6) (.t 85)⟩,
        ⟨some 7, none, .mov false (.c (.d (.int .i64 0)))⟩,
        ⟨some 8, none, .mov false (.t 86)⟩] [6, 6, 7, 8]) <|
      .ret)
      (.skip)) <|
    .seq (.seq (.reg [⟨some 87, none, .mov false (.t 0)⟩,
      ⟨some 88, none, .mov false (.t 10)⟩,
      ⟨some 89, none, .call 51 [(false, .t 87), (false, .t 88)]⟩,
      ⟨some 90, none, .not (.t 89)⟩] [6, 6, 9, 9, 10, 11, 90]) <|
    .cond (.t 90)
      (.seq (.reg [⟨some 91, none, .load (some 3) (.t 9)⟩,
        ⟨none, none, .store 3 (.t 6) (.t 91)⟩,
        ⟨some 7, none, .mov false (.c (.d (.int .i64 0)))⟩,
        ⟨some 8, none, .mov false (.c (.d (.int .i64 7)))⟩] [6, 6, 7, 8]) <|
      .ret)
      (.skip)) <|
    .seq (.reg [⟨some 92, none, .mov false (.t 10)⟩,
      ⟨some 93, none, .build [.int .u64 0, .slice 0 [], .slice 0 []] [(0, 1, .t 92)]⟩,
      ⟨some 94, none, .mov false (.t 11)⟩,
      ⟨none, none, .store 3 (.t 6) (.t 93)⟩,
      ⟨some 7, none, .mov false (.t 94)⟩,
      ⟨some 8, none, .mov false (.c (.d (.int .i64 0)))⟩] [6, 6, 7, 8]) <|
    .ret
/- cartouche/scalar.Compare -/
def n_scalar_Compare : Nat := 14
def f_scalar_Compare : SFunc where
  np := 3
  res := [.slot 6, .slot 7]
  body := .seq (.reg [⟨some 4, none, .box (.t 1)⟩,
      ⟨some 5, none, .box (.t 2)⟩,
      ⟨some 6, none, .mov false (.c (.d (.int .i64 0)))⟩,
      ⟨some 7, none, .mov false (.c (.d (.int .i64 0)))⟩] [0, 4, 5]) <|
    .seq (.block 0 <| .seq (.reg [⟨some 9, none, .mov false (.t 0)⟩,
      ⟨some 10, none, .call 24 [(false, .t 9)]⟩,
      ⟨some 11, none, .not (.t 10)⟩,
      ⟨some 8, none, .mov false (.t 11)⟩] [0, 4, 5, 8]) <|
    .cond (.t 8)
      (.seq (.reg [⟨some 6, none, .mov false (.c (.d (.int .i64 0)))⟩,
        ⟨some 7, none, .mov false (.c (.d (.int .i64 18)))⟩] [6, 7]) <|
      .ret)
      (.seq (.reg [⟨some 13, none, .mov false (.t 0)⟩,
        ⟨some 14, none, .load (some 3) (.t 4)⟩,
        ⟨some 15, none, .call 25 [(false, .t 13), (false, .t 14)]⟩,
        ⟨some 16, none, .not (.t 15)⟩,
        ⟨some 17, none, .mov false (.t 16)⟩,
        ⟨some 18, some (17, false), .mov false (.t 0)⟩,
        ⟨some 19, some (17, false), .load (some 3) (.t 5)⟩,
        ⟨some 20, some (17, false), .call 25 [(false, .t 18), (false, .t 19)]⟩,
        ⟨some 21, some (17, false), .not (.t 20)⟩,
        ⟨some 22, none, .pick (.t 17) (.c (.d (.bool true))) (.t 21)⟩,
        ⟨some 12, none, .mov false (.t 22)⟩] [0, 4, 5, 12]) <|
      .cond (.t 12)
        (.seq (.reg [⟨some 6, none, .mov false (.c (.d (.int .i64 0)))⟩,
          ⟨some 7, none, .mov false (.c (.d (.int .i64 7)))⟩] [6, 7]) <|
        .ret)
        (.seq (.reg [⟨some 24, none, .mov false (.t 0)⟩,
          ⟨some 25, none, .bin .i .eql (.t 24) (.c (.d (.int .i64 14)))⟩,
          ⟨some 23, none, .mov false (.t 25)⟩] [0, 4, 5, 23]) <|
        .cond (.t 23)
          (.seq (.reg [⟨some 26, none, .faddr 1 none (.t 4)⟩,
            ⟨some 27, none, .load none (.t 26)⟩,
            ⟨some 28, none, .faddr 1 none (.t 5)⟩,
            ⟨some 29, none, .load none (.t 28)⟩,
            ⟨some 30, none, .call 52 [(false, .t 27), (false, .t 29)]⟩,
            ⟨some 6, none, .mov false (.t 30)⟩,
            ⟨some 7, none, .mov false (.c (.d (.int .i64 0)))⟩] [6, 7]) <|
          .ret)
          (.seq (.reg [⟨some 32, none, .mov false (.t 0)⟩,
            ⟨some 33, none, .call 53 [(false, .t 32)]⟩,
            ⟨some 31, none, .mov false (.t 33)⟩] [4, 5, 31]) <|
          .cond (.t 31)
            (.seq (.reg [⟨some 34, none, .faddr 0 none (.t 4)⟩,
              ⟨some 35, none, .load none (.t 34)⟩,
              ⟨some 36, none, .cint .i64 (.t 35)⟩,
              ⟨some 37, none, .faddr 0 none (.t 5)⟩,
              ⟨some 38, none, .load none (.t 37)⟩,
              ⟨some 39, none, .cint .i64 (.t 38)⟩,
              ⟨some 40, none, .call 54 [(false, .t 36), (false, .t 39)]⟩,
              ⟨some 6, none, .mov false (.t 40)⟩,
              ⟨some 7, none, .mov false (.c (.d (.int .i64 0)))⟩] [6, 7]) <|
            .ret)
            (.skip))))) <|
    .seq (.reg [⟨some 41, none, .faddr 0 none (.t 4)⟩,
      ⟨some 42, none, .load none (.t 41)⟩,
      ⟨some 43, none, .faddr 0 none (.t 5)⟩,
      ⟨some 44, none, .load none (.t 43)⟩,
      ⟨some 45, none, .call 55 [(false, .t 42), (false, .t 44)]⟩,
      ⟨some 6, none, .mov false (.t 45)⟩,
      ⟨some 7, none, .mov false (.c (.d (.int .i64 0)))⟩] [6, 7]) <|
    .ret
/- cartouche/cartoucheref3.IsKey -/
def n_ref3_IsKey : Nat := 15
def f_ref3_IsKey : SFunc where
  np := 1
  res := [.slot 2]
  body := .seq (.reg [⟨some 2, none, .mov false (.c (.d (.bool false)))⟩] [0]) <|
    .seq (.reg [⟨some 3, none, .mov false (.t 0)⟩,
      ⟨some 4, none, .bin .i .geq (.t 3) (.c (.d (.int .i64 1)))⟩,
      ⟨some 5, none, .mov false (.t 4)⟩,
      ⟨some 6, some (5, true), .mov false (.t 0)⟩,
      ⟨some 7, some (5, true), .bin .i .leq (.t 6) (.c (.d (.int .i64 11)))⟩,
      ⟨some 8, none, .pick (.t 5) (.t 7) (.c (.d (.bool false)))⟩,
      ⟨some 9, none, .mov false (.t 8)⟩,
      ⟨some 10, some (9, false), .mov false (.t 0)⟩,
      ⟨some 11, some (9, false), .bin .i .eql (.t 10) (.c (.d (.int .i64 14)))⟩,
      ⟨some 12, none, .pick (.t 9) (.c (.d (.bool true))) (.t 11)⟩,
      ⟨some 2, none, .mov false (.t 12)⟩] [2]) <|
    .ret
/- cartouche/cartoucheref3.Fits -/
def n_ref3_Fits : Nat := 16
def f_ref3_Fits : SFunc where
  np := 2
  res := [.slot 4]
  body := .seq (.reg [⟨some 3, none, .box (.t 1)⟩,
      ⟨some 4, none, .mov false (.c (.d (.bool false)))⟩] [0, 3]) <|
    .seq (.seq (.reg [⟨some 5, none, .mov false (.t 0)⟩,
      ⟨some 6, none, .bin .i .lss (.t 5) (.c (.d (.int .i64 1)))⟩,
      ⟨some 7, none, .mov false (.t 6)⟩,
      ⟨some 8, some (7, false), .mov false (.t 0)⟩,
      ⟨some 9, some (7, false), .bin .i .gtr (.t 8) (.c (.d (.int .i64 16)))⟩,
      ⟨some 10, none, .pick (.t 7) (.c (.d (.bool true))) (.t 9)⟩,
      ⟨some 11, none, .mov false (.t 10)⟩,
      ⟨some 12, some (11, false), .faddr 2 none (.t 3)⟩,
      ⟨some 13, some (11, false), .load none (.t 12)⟩,
      ⟨some 14, some (11, false), .len false (.t 13)⟩,
      ⟨some 15, some (11, false), .bin .i .gtr (.t 14) (.c (.d (.int .i64 0)))⟩,
      ⟨some 16, none, .pick (.t 11) (.c (.d (.bool true))) (.t 15)⟩] [0, 3, 16]) <|
    .cond (.t 16)
      (.seq (.reg [⟨some 4, none, .mov false (.c (.d (.bool false)))⟩] [4]) <|
      .ret)
      (.skip)) <|
    .seq (.seq (.reg [⟨some 17, none, .mov false (.t 0)⟩,
      ⟨some 18, none, .bin .i .eql (.t 17) (.c (.d (.int .i64 14)))⟩,
      ⟨some 19, none, .mov false (.t 18)⟩,
      ⟨some 20, some (19, false), .mov false (.t 0)⟩,
      ⟨some 21, some (19, false), .bin .i .eql (.t 20) (.c (.d (.int .i64 15)))⟩,
      ⟨some 22, none, .pick (.t 19) (.c (.d (.bool true))) (.t 21)⟩] [0, 3, 22]) <|
    .cond (.t 22)
      (.seq (.reg [⟨some 23, none, .faddr 0 none (.t 3)⟩,
        ⟨some 24, none, .load none (.t 23)⟩,
        ⟨some 25, none, .bin .i .eql (.t 24) (.c (.d (.int .u64 0)))⟩,
        ⟨some 4, none, .mov false (.t 25)⟩] [4]) <|
      .ret)
      (.skip)) <|
    .seq (.reg [⟨some 26, none, .faddr 1 none (.t 3)⟩,
      ⟨some 27, none, .load none (.t 26)⟩,
      ⟨some 28, none, .len false (.t 27)⟩,
      ⟨some 29, none, .bin .i .eql (.t 28) (.c (.d (.int .i64 0)))⟩,
      ⟨some 30, none, .mov false (.t 29)⟩,
      ⟨some 31, some (30, true), .mov false (.t 0)⟩,
      ⟨some 32, some (30, true), .faddr 0 none (.t 3)⟩,
      ⟨some 33, some (30, true), .load none (.t 32)⟩,
      ⟨some 34, some (30, true), .call 51 [(false, .t 31), (false, .t 33)]⟩,
      ⟨some 35, none, .pick (.t 30) (.t 34) (.c (.d (.bool false)))⟩,
      ⟨some 4, none, .mov false (.t 35)⟩] [4]) <|
    .ret
/- cartouche/cartoucheref3.Compare -/
def n_ref3_Compare : Nat := 17
def f_ref3_Compare : SFunc where
  np := 3
  res := [.slot 6]
  body := .seq (.reg [⟨some 4, none, .box (.t 1)⟩,
      ⟨some 5, none, .box (.t 2)⟩,
      ⟨some 6, none, .mov false (.c (.d (.int .i64 0)))⟩] [0, 4, 5]) <|
    .seq (.seq (.reg [⟨some 11, none, .mov false (.t 0)⟩,
      ⟨some 12, none, .bin .i .eql (.t 11) (.c (.d (.int .i64 14)))⟩] [0, 4, 5, 12]) <|
    .cond (.t 12)
      (.seq (.reg [⟨some 13, none, .faddr 1 none (.t 4)⟩,
        ⟨some 14, none, .load none (.t 13)⟩,
        ⟨some 15, none, .cstr (.t 14)⟩,
        ⟨some 7, none, .mov false (.t 15)⟩] [5, 7]) <|
      .seq (.reg [⟨some 16, none, .faddr 1 none (.t 5)⟩,
        ⟨some 17, none, .load none (.t 16)⟩,
        ⟨some 18, none, .cstr (.t 17)⟩,
        ⟨some 8, none, .mov false (.t 18)⟩] [7, 8]) <|
      .seq (.seq (.reg [⟨some 19, none, .mov false (.t 7)⟩,
        ⟨some 20, none, .mov false (.t 8)⟩,
        ⟨some 21, none, .bin .s .lss (.t 19) (.t 20)⟩] [7, 8, 21]) <|
      .cond (.t 21)
        (.seq (.reg [⟨some 6, none, .mov false (.c (.d (.int .i64 (-1))))⟩] [6]) <|
        .ret)
        (.skip)) <|
      .seq (.seq (.reg [⟨some 22, none, .mov false (.t 7)⟩,
        ⟨some 23, none, .mov false (.t 8)⟩,
        ⟨some 24, none, .bin .s .gtr (.t 22) (.t 23)⟩] [24]) <|
      .cond (.t 24)
        (.seq (.reg [⟨some 6, none, .mov false (.c (.d (.int .i64 1)))⟩] [6]) <|
        .ret)
        (.skip)) <|
      .seq (.reg [⟨some 6, none, .mov false (.c (.d (.int .i64 0)))⟩] [6]) <|
      .ret)
      (.skip)) <|
    .seq (.reg [⟨some 25, none, .faddr 0 none (.t 4)⟩,
      ⟨some 26, none, .load none (.t 25)⟩,
      ⟨some 9, none, .mov false (.t 26)⟩] [0, 5, 9]) <|
    .seq (.reg [⟨some 27, none, .faddr 0 none (.t 5)⟩,
      ⟨some 28, none, .load none (.t 27)⟩,
      ⟨some 10, none, .mov false (.t 28)⟩] [0, 9, 10]) <|
    .seq (.seq (.reg [⟨some 29, none, .mov false (.t 0)⟩,
      ⟨some 30, none, .call 56 [(false, .t 29)]⟩] [9, 10, 30]) <|
    .cond (.t 30)
      (.seq (.reg [⟨some 31, none, .mov false (.t 9)⟩,
        ⟨some 32, none, .bin .i .xor (.t 31) (.c (.d (.int .u64 9223372036854775808)))⟩,
        ⟨some 9, none, .mov false (.t 32)⟩] [9, 10]) <|
      .reg [⟨some 33, none, .mov false (.t 10)⟩,
        ⟨some 34, none, .bin .i .xor (.t 33) (.c (.d (.int .u64 9223372036854775808)))⟩,
        ⟨some 10, none, .mov false (.t 34)⟩] [9, 10])
      (.skip)) <|
    .seq (.seq (.reg [⟨some 35, none, .mov false (.t 9)⟩,
      ⟨some 36, none, .mov false (.t 10)⟩,
      ⟨some 37, none, .bin .i .lss (.t 35) (.t 36)⟩] [9, 10, 37]) <|
    .cond (.t 37)
      (.seq (.reg [⟨some 6, none, .mov false (.c (.d (.int .i64 (-1))))⟩] [6]) <|
      .ret)
      (.skip)) <|
    .seq (.seq (.reg [⟨some 38, none, .mov false (.t 9)⟩,
      ⟨some 39, none, .mov false (.t 10)⟩,
      ⟨some 40, none, .bin .i .gtr (.t 38) (.t 39)⟩] [40]) <|
    .cond (.t 40)
      (.seq (.reg [⟨some 6, none, .mov false (.c (.d (.int .i64 1)))⟩] [6]) <|
      .ret)
      (.skip)) <|
    .seq (.reg [⟨some 6, none, .mov false (.c (.d (.int .i64 0)))⟩] [6]) <|
    .ret
/- cartouche/cartoucheref3.Same -/
def n_ref3_Same : Nat := 18
def f_ref3_Same : SFunc where
  np := 2
  res := [.slot 4]
  body := .seq (.reg [⟨some 2, none, .box (.t 0)⟩,
      ⟨some 3, none, .box (.t 1)⟩,
      ⟨some 4, none, .mov false (.c (.d (.bool false)))⟩] [2, 3]) <|
    .seq (.reg [⟨some 5, none, .faddr 0 none (.t 2)⟩,
      ⟨some 6, none, .load none (.t 5)⟩,
      ⟨some 7, none, .faddr 0 none (.t 3)⟩,
      ⟨some 8, none, .load none (.t 7)⟩,
      ⟨some 9, none, .bin .i .eql (.t 6) (.t 8)⟩,
      ⟨some 10, none, .mov false (.t 9)⟩,
      ⟨some 11, some (10, true), .faddr 1 none (.t 2)⟩,
      ⟨some 12, some (10, true), .load none (.t 11)⟩,
      ⟨some 13, some (10, true), .cstr (.t 12)⟩,
      ⟨some 14, some (10, true), .faddr 1 none (.t 3)⟩,
      ⟨some 15, some (10, true), .load none (.t 14)⟩,
      ⟨some 16, some (10, true), .cstr (.t 15)⟩,
      ⟨some 17, some (10, true), .bin .s .eql (.t 13) (.t 16)⟩,
      ⟨some 18, none, .pick (.t 10) (.t 17) (.c (.d (.bool false)))⟩,
      ⟨some 19, none, .mov false (.t 18)⟩,
      ⟨some 20, some (19, true), .faddr 2 none (.t 2)⟩,
      ⟨some 21, some (19, true), .load none (.t 20)⟩,
      ⟨some 22, some (19, true), .len false (.t 21)⟩,
      ⟨some 23, some (19, true), .bin .i .eql (.t 22) (.c (.d (.int .i64 0)))⟩,
      ⟨some 24, none, .pick (.t 19) (.t 23) (.c (.d (.bool false)))⟩,
      ⟨some 25, none, .mov false (.t 24)⟩,
      ⟨some 26, some (25, true), .faddr 2 none (.t 3)⟩,
      ⟨some 27, some (25, true), .load none (.t 26)⟩,
      ⟨some 28, some (25, true), .len false (.t 27)⟩,
      ⟨some 29, some (25, true), .bin .i .eql (.t 28) (.c (.d (.int .i64 0)))⟩,
      ⟨some 30, none, .pick (.t 25) (.t 29) (.c (.d (.bool false)))⟩,
      ⟨some 4, none, .mov false (.t 30)⟩] [4]) <|
    .ret
/- cartouche/scalar.Wire -/
def n_scalar_Wire : Nat := 19
def f_scalar_Wire : SFunc where
  np := 1
  res := [.slot 2, .slot 3]
  body := .seq (.reg [⟨some 2, none, .mov false (.c (.d (.int .i64 0)))⟩,
      ⟨some 3, none, .mov false (.c (.d (.int .i64 0)))⟩] [0]) <|
    .seq (.seq (.reg [⟨some 4, none, .mov false (.t 0)⟩] [4]) <|
    .block 0 <| .seq (.seq (.reg [⟨some 6, none, .bin .i .eql (.t 4) (.c (.d (.int .i64 1)))⟩,
      ⟨some 5, none, .mov false (.t 6)⟩] [4, 5]) <|
    .cond (.t 5)
      (.skip)
      (.seq (.reg [⟨some 7, none, .bin .i .eql (.t 4) (.c (.d (.int .i64 2)))⟩,
        ⟨some 5, none, .mov false (.t 7)⟩] [4, 5]) <|
      .cond (.t 5)
        (.skip)
        (.seq (.reg [⟨some 8, none, .bin .i .eql (.t 4) (.c (.d (.int .i64 3)))⟩,
          ⟨some 5, none, .mov false (.t 8)⟩] [4, 5]) <|
        .cond (.t 5)
          (.skip)
          (.seq (.reg [⟨some 9, none, .bin .i .eql (.t 4) (.c (.d (.int .i64 4)))⟩,
            ⟨some 5, none, .mov false (.t 9)⟩] [4, 5]) <|
          .cond (.t 5)
            (.skip)
            (.seq (.reg [⟨some 10, none, .bin .i .eql (.t 4) (.c (.d (.int .i64 5)))⟩,
              ⟨some 5, none, .mov false (.t 10)⟩] [4, 5]) <|
            .cond (.t 5)
              (.skip)
              (.seq (.reg [⟨some 11, none, .bin .i .eql (.t 4) (.c (.d (.int .i64 6)))⟩,
                ⟨some 5, none, .mov false (.t 11)⟩] [4, 5]) <|
              .cond (.t 5)
                (.skip)
                (.seq (.reg [⟨some 12, none, .bin .i .eql (.t 4) (.c (.d (.int .i64 7)))⟩,
                  ⟨some 5, none, .mov false (.t 12)⟩] [4, 5]) <|
                .cond (.t 5)
                  (.skip)
                  (.reg [⟨some 13, none, .bin .i .eql (.t 4) (.c (.d (.int .i64 16)))⟩,
                    ⟨some 5, none, .mov false (.t 13)⟩] [4, 5])))))))) <|
    .cond (.t 5)
      (.seq (.reg [⟨some 2, none, .mov false (.c (.d (.int .i64 0)))⟩,
        ⟨some 3, none, .mov false (.c (.d (.int .i64 0)))⟩] [2, 3]) <|
      .ret)
      (.seq (.seq (.reg [⟨some 15, none, .bin .i .eql (.t 4) (.c (.d (.int .i64 8)))⟩,
        ⟨some 14, none, .mov false (.t 15)⟩] [4, 14]) <|
      .cond (.t 14)
        (.skip)
        (.seq (.reg [⟨some 16, none, .bin .i .eql (.t 4) (.c (.d (.int .i64 10)))⟩,
          ⟨some 14, none, .mov false (.t 16)⟩] [4, 14]) <|
        .cond (.t 14)
          (.skip)
          (.reg [⟨some 17, none, .bin .i .eql (.t 4) (.c (.d (.int .i64 12)))⟩,
            ⟨some 14, none, .mov false (.t 17)⟩] [4, 14]))) <|
      .cond (.t 14)
        (.seq (.reg [⟨some 2, none, .mov false (.c (.d (.int .i64 5)))⟩,
          ⟨some 3, none, .mov false (.c (.d (.int .i64 0)))⟩] [2, 3]) <|
        .ret)
        (.seq (.seq (.reg [⟨some 19, none, .bin .i .eql (.t 4) (.c (.d (.int .i64 9)))⟩,
          ⟨some 18, none, .mov false (.t 19)⟩] [4, 18]) <|
        .cond (.t 18)
          (.skip)
          (.seq (.reg [⟨some 20, none, .bin .i .eql (.t 4) (.c (.d (.int .i64 11)))⟩,
            ⟨some 18, none, .mov false (.t 20)⟩] [4, 18]) <|
          .cond (.t 18)
            (.skip)
            (.reg [⟨some 21, none, .bin .i .eql (.t 4) (.c (.d (.int .i64 13)))⟩,
              ⟨some 18, none, .mov false (.t 21)⟩] [4, 18]))) <|
        .cond (.t 18)
          (.seq (.reg [⟨some 2, none, .mov false (.c (.d (.int .i64 1)))⟩,
            ⟨some 3, none, .mov false (.c (.d (.int .i64 0)))⟩] [2, 3]) <|
          .ret)
          (.seq (.seq (.reg [⟨some 23, none, .bin .i .eql (.t 4) (.c (.d (.int .i64 14)))⟩,
            ⟨some 22, none, .mov false (.t 23)⟩] [4, 22]) <|
          .cond (.t 22)
            (.skip)
            (.seq (.reg [⟨some 24, none, .bin .i .eql (.t 4) (.c (.d (.int .i64 15)))⟩,
              ⟨some 22, none, .mov false (.t 24)⟩] [4, 22]) <|
            .cond (.t 22)
              (.skip)
              (.reg [⟨some 25, none, .bin .i .eql (.t 4) (.c (.d (.int .i64 17)))⟩,
                ⟨some 22, none, .mov false (.t 25)⟩] [22]))) <|
          .cond (.t 22)
            (.seq (.reg [⟨some 2, none, .mov false (.c (.d (.int .i64 2)))⟩,
              ⟨some 3, none, .mov false (.c (.d (.int .i64 0)))⟩] [2, 3]) <|
            .ret)
            (.skip))))) <|
    .seq (.reg [⟨some 2, none, .mov false (.c (.d (.int .i64 0)))⟩,
      ⟨some 3, none, .mov false (.c (.d (.int .i64 18)))⟩] [2, 3]) <|
    .ret
/- cartouche/scalar.Name -/
def n_scalar_Name : Nat := 20
def f_scalar_Name : SFunc where
  np := 1
  res := [.slot 2, .slot 3]
  body := .seq (.reg [⟨some 2, none, .mov false (.c (.d (.str [])))⟩,
      ⟨some 3, none, .mov false (.c (.d (.int .i64 0)))⟩] [0]) <|
    .seq (.seq (.reg [⟨some 4, none, .mov false (.t 0)⟩,
      ⟨some 5, none, .bin .i .lss (.t 4) (.c (.d (.int .i64 1)))⟩,
      ⟨some 6, none, .mov false (.t 5)⟩,
      ⟨some 7, some (6, false), .mov false (.t 0)⟩,
      ⟨some 8, some (6, false), .bin .i .gtr (.t 7) (.c (.d (.int .i64 15)))⟩,
      ⟨some 9, none, .pick (.t 6) (.c (.d (.bool true))) (.t 8)⟩] [0, 9]) <|
    .cond (.t 9)
      (.seq (.reg [⟨some 2, none, .mov false (.c (.d (.str [])))⟩,
        ⟨some 3, none, .mov false (.c (.d (.int .i64 18)))⟩] [2, 3]) <|
      .ret)
      (.skip)) <|
    .seq (.reg [⟨some 10, none, .call 57 [(false, .c (.d (.str [98, 111, 111, 108, 32, 105, 110, 116, 51, 50, 32, 105, 110, 116, 54, 52, 32, 117, 105, 110, 116, 51, 50, 32, 117, 105, 110, 116, 54, 52, 32, 115, 105, 110, 116, 51, 50, 32, 115, 105, 110, 116, 54, 52, 32, 102, 105, 120, 101, 100, 51, 50, 32, 102, 105, 120, 101, 100, 54, 52, 32, 115, 102, 105, 120, 101, 100, 51, 50, 32, 115, 102, 105, 120, 101, 100, 54, 52, 32, 102, 108, 111, 97, 116, 32, 100, 111, 117, 98, 108, 101, 32, 115, 116, 114, 105, 110, 103, 32, 98, 121, 116, 101, 115])))]⟩,
      ⟨some 11, none, .mov false (.t 0)⟩,
      ⟨some 12, none, .bin .i .sub (.t 11) (.c (.d (.int .i64 1)))⟩,
      ⟨some 13, none, .iaddr 1 (.t 10) (.t 12)⟩,
      ⟨some 14, none, .load none (.t 13)⟩,
      ⟨some 2, none, .mov false (.t 14)⟩,
      ⟨some 3, none, .mov false (.c (.d (.int .i64 0)))⟩] [2, 3]) <|
    .ret
/- cartouche/scalar.Kind -/
def l_scalar_Kind_1 : SC :=
  .seq (.reg [⟨some 9, none, .bin .i .lss (.t 8) (.t 7)⟩] [0, 6, 7, 8, 9]) <|
    .seq (.cond (.t 9)
      (.skip)
      (.exit 0)) <|
    .seq (.block 1 <| .seq (.reg [⟨some 10, none, .mov false (.t 8)⟩,
      ⟨some 11, none, .iaddr 1 (.t 6) (.t 8)⟩,
      ⟨some 12, none, .load none (.t 11)⟩,
      ⟨some 4, none, .mov false (.t 10)⟩,
      ⟨some 5, none, .mov false (.t 12)⟩] [0, 4, 5, 6, 7, 8]) <|
    .seq (.reg [⟨some 13, none, .mov false (.t 5)⟩,
      ⟨some 14, none, .mov false (.t 0)⟩,
      ⟨some 15, none, .bin .s .eql (.t 13) (.t 14)⟩] [0, 4, 6, 7, 8, 15]) <|
    .cond (.t 15)
      (.seq (.reg [⟨some 16, none, .mov false (.t 4)⟩,
        ⟨some 17, none, .bin .i .add (.c (.d (.int .i64 1))) (.t 16)⟩,
        ⟨some 2, none, .mov false (.t 17)⟩,
        ⟨some 3, none, .mov false (.c (.d (.int .i64 0)))⟩] [2, 3]) <|
      .ret)
      (.skip)) <|
    .reg [⟨some 18, none, .bin .i .add (.t 8) (.c (.d (.int .i64 1)))⟩,
      ⟨some 8, none, .mov false (.t 18)⟩] [0, 6, 7, 8]
def n_scalar_Kind : Nat := 21
def f_scalar_Kind : SFunc where
  np := 1
  res := [.slot 2, .slot 3]
  body := .seq (.reg [⟨some 2, none, .mov false (.c (.d (.int .i64 0)))⟩,
      ⟨some 3, none, .mov false (.c (.d (.int .i64 0)))⟩] [0]) <|
    .seq (.seq (.reg [⟨some 6, none, .call 57 [(false, .c (.d (.str [98, 111, 111, 108, 32, 105, 110, 116, 51, 50, 32, 105, 110, 116, 54, 52, 32, 117, 105, 110, 116, 51, 50, 32, 117, 105, 110, 116, 54, 52, 32, 115, 105, 110, 116, 51, 50, 32, 115, 105, 110, 116, 54, 52, 32, 102, 105, 120, 101, 100, 51, 50, 32, 102, 105, 120, 101, 100, 54, 52, 32, 115, 102, 105, 120, 101, 100, 51, 50, 32, 115, 102, 105, 120, 101, 100, 54, 52, 32, 102, 108, 111, 97, 116, 32, 100, 111, 117, 98, 108, 101, 32, 115, 116, 114, 105, 110, 103, 32, 98, 121, 116, 101, 115])))]⟩,
      ⟨some 7, none, .len false (.t 6)⟩,
      ⟨some 8, none, .mov false (.c (.d (.int .i64 0)))⟩] [0, 6, 7, 8]) <|
    .block 0 <| .loop l_scalar_Kind_1) <|
    .seq (.reg [⟨some 2, none, .mov false (.c (.d (.int .i64 0)))⟩,
      ⟨some 3, none, .mov false (.c (.d (.int .i64 12)))⟩] [2, 3]) <|
    .ret
/- cartouche/scalar.Numeric -/
def n_scalar_Numeric : Nat := 22
def f_scalar_Numeric : SFunc where
  np := 1
  res := [.slot 2]
  body := .seq (.reg [⟨some 2, none, .mov false (.c (.d (.bool false)))⟩] [0]) <|
    .seq (.reg [⟨some 6, none, .mov false (.t 0)⟩,
      ⟨some 7, none, .call 19 [(false, .t 6)]⟩,
      ⟨some 5, none, .mov false (.t 7)⟩,
      ⟨some 8, none, .ext (.t 5) 0⟩,
      ⟨some 9, none, .ext (.t 5) 1⟩,
      ⟨some 3, none, .mov false (.t 8)⟩,
      ⟨some 4, none, .mov false (.t 9)⟩] [3, 4]) <|
    .seq (.reg [⟨some 10, none, .mov false (.t 4)⟩,
      ⟨some 11, none, .bin .i .eql (.t 10) (.c (.d (.int .i64 0)))⟩,
      ⟨some 12, none, .mov false (.t 11)⟩,
      ⟨some 13, some (12, true), .mov false (.t 3)⟩,
      ⟨some 14, some (12, true), .bin .i .neq (.t 13) (.c (.d (.int .i64 2)))⟩,
      ⟨some 15, none, .pick (.t 12) (.t 14) (.c (.d (.bool false)))⟩,
      ⟨some 2, none, .mov false (.t 15)⟩] [2]) <|
    .ret
/- cartouche/cartoucheref3.Numeric -/
def n_ref3_Numeric : Nat := 23
def f_ref3_Numeric : SFunc where
  np := 1
  res := [.slot 2]
  body := .seq (.reg [⟨some 2, none, .mov false (.c (.d (.bool false)))⟩] [0]) <|
    .seq (.reg [⟨some 3, none, .mov false (.t 0)⟩,
      ⟨some 4, none, .call 26 [(false, .t 3)]⟩,
      ⟨some 5, none, .bin .i .geq (.t 4) (.c (.d (.int .i64 0)))⟩,
      ⟨some 6, none, .mov false (.t 5)⟩,
      ⟨some 7, some (6, true), .mov false (.t 0)⟩,
      ⟨some 8, some (6, true), .call 26 [(false, .t 7)]⟩,
      ⟨some 9, some (6, true), .bin .i .neq (.t 8) (.c (.d (.int .i64 2)))⟩,
      ⟨some 10, none, .pick (.t 6) (.t 9) (.c (.d (.bool false)))⟩,
      ⟨some 2, none, .mov false (.t 10)⟩] [2]) <|
    .ret
/- cartouche/scalar.IsKey -/
def n_scalar_IsKey : Nat := 24
def f_scalar_IsKey : SFunc where
  np := 1
  res := [.slot 2]
  body := .seq (.reg [⟨some 2, none, .mov false (.c (.d (.bool false)))⟩] [0]) <|
    .seq (.reg [⟨some 3, none, .mov false (.t 0)⟩,
      ⟨some 4, none, .bin .i .geq (.t 3) (.c (.d (.int .i64 1)))⟩,
      ⟨some 5, none, .mov false (.t 4)⟩,
      ⟨some 6, some (5, true), .mov false (.t 0)⟩,
      ⟨some 7, some (5, true), .bin .i .leq (.t 6) (.c (.d (.int .i64 11)))⟩,
      ⟨some 8, none, .pick (.t 5) (.t 7) (.c (.d (.bool false)))⟩,
      ⟨some 9, none, .mov false (.t 8)⟩,
      ⟨some 10, some (9, false), .mov false (.t 0)⟩,
      ⟨some 11, some (9, false), .bin .i .eql (.t 10) (.c (.d (.int .i64 14)))⟩,
      ⟨some 12, none, .pick (.t 9) (.c (.d (.bool true))) (.t 11)⟩,
      ⟨some 2, none, .mov false (.t 12)⟩] [2]) <|
    .ret
/- cartouche/scalar.Fits -/
def n_scalar_Fits : Nat := 25
def f_scalar_Fits : SFunc where
  np := 2
  res := [.slot 4]
  body := .seq (.reg [⟨some 3, none, .box (.t 1)⟩,
      ⟨some 4, none, .mov false (.c (.d (.bool false)))⟩] [0, 3]) <|
    .seq (.block 0 <| .seq (.reg [⟨some 6, none, .mov false (.t 0)⟩,
      ⟨some 7, none, .call 35 [(false, .t 6)]⟩,
      ⟨some 8, none, .not (.t 7)⟩,
      ⟨some 9, none, .mov false (.t 8)⟩,
      ⟨some 10, some (9, false), .faddr 2 none (.t 3)⟩,
      ⟨some 11, some (9, false), .load none (.t 10)⟩,
      ⟨some 12, some (9, false), .len false (.t 11)⟩,
      ⟨some 13, some (9, false), .bin .i .gtr (.t 12) (.c (.d (.int .i64 0)))⟩,
      ⟨some 14, none, .pick (.t 9) (.c (.d (.bool true))) (.t 13)⟩,
      ⟨some 5, none, .mov false (.t 14)⟩] [0, 3, 5]) <|
    .cond (.t 5)
      (.seq (.reg [⟨some 4, none, .mov false (.c (.d (.bool false)))⟩] [4]) <|
      .ret)
      (.seq (.reg [⟨some 16, none, .mov false (.t 0)⟩,
        ⟨some 17, none, .call 22 [(false, .t 16)]⟩,
        ⟨some 15, none, .mov false (.t 17)⟩] [0, 3, 15]) <|
      .cond (.t 15)
        (.seq (.reg [⟨some 18, none, .faddr 1 none (.t 3)⟩,
          ⟨some 19, none, .load none (.t 18)⟩,
          ⟨some 20, none, .len false (.t 19)⟩,
          ⟨some 21, none, .bin .i .eql (.t 20) (.c (.d (.int .i64 0)))⟩,
          ⟨some 22, none, .mov false (.t 21)⟩,
          ⟨some 23, some (22, true), .mov false (.t 0)⟩,
          ⟨some 24, some (22, true), .faddr 0 none (.t 3)⟩,
          ⟨some 25, some (22, true), .load none (.t 24)⟩,
          ⟨some 26, some (22, true), .call 58 [(false, .t 23), (false, .t 25)]⟩,
          ⟨some 27, none, .pick (.t 22) (.t 26) (.c (.d (.bool false)))⟩,
          ⟨some 4, none, .mov false (.t 27)⟩] [4]) <|
        .ret)
        (.skip))) <|
    .seq (.reg [⟨some 28, none, .faddr 0 none (.t 3)⟩,
      ⟨some 29, none, .load none (.t 28)⟩,
      ⟨some 30, none, .bin .i .eql (.t 29) (.c (.d (.int .u64 0)))⟩,
      ⟨some 4, none, .mov false (.t 30)⟩] [4]) <|
    .ret
/- cartouche/cartoucheref3.Wire -/
def n_ref3_Wire : Nat := 26
def f_ref3_Wire : SFunc where
  np := 1
  res := [.slot 2]
  body := .seq (.reg [⟨some 2, none, .mov false (.c (.d (.int .i64 0)))⟩] [0]) <|
    .seq (.seq (.reg [⟨some 3, none, .mov false (.t 0)⟩] [3]) <|
    .block 0 <| .seq (.seq (.reg [⟨some 5, none, .bin .i .eql (.t 3) (.c (.d (.int .i64 1)))⟩,
      ⟨some 4, none, .mov false (.t 5)⟩] [3, 4]) <|
    .cond (.t 4)
      (.skip)
      (.seq (.reg [⟨some 6, none, .bin .i .eql (.t 3) (.c (.d (.int .i64 2)))⟩,
        ⟨some 4, none, .mov false (.t 6)⟩] [3, 4]) <|
      .cond (.t 4)
        (.skip)
        (.seq (.reg [⟨some 7, none, .bin .i .eql (.t 3) (.c (.d (.int .i64 3)))⟩,
          ⟨some 4, none, .mov false (.t 7)⟩] [3, 4]) <|
        .cond (.t 4)
          (.skip)
          (.seq (.reg [⟨some 8, none, .bin .i .eql (.t 3) (.c (.d (.int .i64 4)))⟩,
            ⟨some 4, none, .mov false (.t 8)⟩] [3, 4]) <|
          .cond (.t 4)
            (.skip)
            (.seq (.reg [⟨some 9, none, .bin .i .eql (.t 3) (.c (.d (.int .i64 5)))⟩,
              ⟨some 4, none, .mov false (.t 9)⟩] [3, 4]) <|
            .cond (.t 4)
              (.skip)
              (.seq (.reg [⟨some 10, none, .bin .i .eql (.t 3) (.c (.d (.int .i64 6)))⟩,
                ⟨some 4, none, .mov false (.t 10)⟩] [3, 4]) <|
              .cond (.t 4)
                (.skip)
                (.seq (.reg [⟨some 11, none, .bin .i .eql (.t 3) (.c (.d (.int .i64 7)))⟩,
                  ⟨some 4, none, .mov false (.t 11)⟩] [3, 4]) <|
                .cond (.t 4)
                  (.skip)
                  (.reg [⟨some 12, none, .bin .i .eql (.t 3) (.c (.d (.int .i64 16)))⟩,
                    ⟨some 4, none, .mov false (.t 12)⟩] [3, 4])))))))) <|
    .cond (.t 4)
      (.seq (.reg [⟨some 2, none, .mov false (.c (.d (.int .i64 0)))⟩] [2]) <|
      .ret)
      (.seq (.seq (.reg [⟨some 14, none, .bin .i .eql (.t 3) (.c (.d (.int .i64 8)))⟩,
        ⟨some 13, none, .mov false (.t 14)⟩] [3, 13]) <|
      .cond (.t 13)
        (.skip)
        (.seq (.reg [⟨some 15, none, .bin .i .eql (.t 3) (.c (.d (.int .i64 10)))⟩,
          ⟨some 13, none, .mov false (.t 15)⟩] [3, 13]) <|
        .cond (.t 13)
          (.skip)
          (.reg [⟨some 16, none, .bin .i .eql (.t 3) (.c (.d (.int .i64 12)))⟩,
            ⟨some 13, none, .mov false (.t 16)⟩] [3, 13]))) <|
      .cond (.t 13)
        (.seq (.reg [⟨some 2, none, .mov false (.c (.d (.int .i64 5)))⟩] [2]) <|
        .ret)
        (.seq (.seq (.reg [⟨some 18, none, .bin .i .eql (.t 3) (.c (.d (.int .i64 9)))⟩,
          ⟨some 17, none, .mov false (.t 18)⟩] [3, 17]) <|
        .cond (.t 17)
          (.skip)
          (.seq (.reg [⟨some 19, none, .bin .i .eql (.t 3) (.c (.d (.int .i64 11)))⟩,
            ⟨some 17, none, .mov false (.t 19)⟩] [3, 17]) <|
          .cond (.t 17)
            (.skip)
            (.reg [⟨some 20, none, .bin .i .eql (.t 3) (.c (.d (.int .i64 13)))⟩,
              ⟨some 17, none, .mov false (.t 20)⟩] [3, 17]))) <|
        .cond (.t 17)
          (.seq (.reg [⟨some 2, none, .mov false (.c (.d (.int .i64 1)))⟩] [2]) <|
          .ret)
          (.seq (.seq (.reg [⟨some 22, none, .bin .i .eql (.t 3) (.c (.d (.int .i64 14)))⟩,
            ⟨some 21, none, .mov false (.t 22)⟩] [3, 21]) <|
          .cond (.t 21)
            (.skip)
            (.seq (.reg [⟨some 23, none, .bin .i .eql (.t 3) (.c (.d (.int .i64 15)))⟩,
              ⟨some 21, none, .mov false (.t 23)⟩] [3, 21]) <|
            .cond (.t 21)
              (.skip)
              (.reg [⟨some 24, none, .bin .i .eql (.t 3) (.c (.d (.int .i64 17)))⟩,
                ⟨some 21, none, .mov false (.t 24)⟩] [21]))) <|
          .cond (.t 21)
            (.seq (.reg [⟨some 2, none, .mov false (.c (.d (.int .i64 2)))⟩] [2]) <|
            .ret)
            (.skip))))) <|
    .seq (.reg [⟨some 2, none, .mov false (.c (.d (.int .i64 (-1))))⟩] [2]) <|
    .ret
/- cartouche/cartoucheref3.Names -/
def n_ref3_Names : Nat := 27
def f_ref3_Names : SFunc where
  np := 0
  res := [.cell 0 (some 16)]
  body := .seq (.reg [⟨some 0, none, .zbox [.str [], .str [], .str [], .str [], .str [], .str [], .str [], .str [], .str [], .str [], .str [], .str [], .str [], .str [], .str [], .str []]⟩] [0, 0]) <|
    .seq (.reg [⟨some 1, none, .build [.str [], .str [], .str [], .str [], .str [], .str [], .str [], .str [], .str [], .str [], .str [], .str [], .str [], .str [], .str [], .str []] [(0, 1, .c (.d (.str []))), (1, 1, .c (.d (.str [98, 111, 111, 108]))), (2, 1, .c (.d (.str [105, 110, 116, 51, 50]))), (3, 1, .c (.d (.str [105, 110, 116, 54, 52]))), (4, 1, .c (.d (.str [117, 105, 110, 116, 51, 50]))), (5, 1, .c (.d (.str [117, 105, 110, 116, 54, 52]))), (6, 1, .c (.d (.str [115, 105, 110, 116, 51, 50]))), (7, 1, .c (.d (.str [115, 105, 110, 116, 54, 52]))), (8, 1, .c (.d (.str [102, 105, 120, 101, 100, 51, 50]))), (9, 1, .c (.d (.str [102, 105, 120, 101, 100, 54, 52]))), (10, 1, .c (.d (.str [115, 102, 105, 120, 101, 100, 51, 50]))), (11, 1, .c (.d (.str [115, 102, 105, 120, 101, 100, 54, 52]))), (12, 1, .c (.d (.str [102, 108, 111, 97, 116]))), (13, 1, .c (.d (.str [100, 111, 117, 98, 108, 101]))), (14, 1, .c (.d (.str [115, 116, 114, 105, 110, 103]))), (15, 1, .c (.d (.str [98, 121, 116, 101, 115])))]⟩,
      ⟨none, none, .store 16 (.t 0) (.t 1)⟩] [0, 0]) <|
    .ret
/- cartouche/cartoucheref3.Kind -/
def l_ref3_Kind_1 : SC :=
  .seq (.seq (.reg [⟨some 6, none, .mov false (.t 4)⟩,
      ⟨some 7, none, .bin .i .lss (.t 6) (.c (.d (.int .i64 16)))⟩] [0, 3, 4, 7]) <|
    .cond (.t 7)
      (.skip)
      (.exit 0)) <|
    .seq (.block 1 <| .seq (.reg [⟨some 10, none, .mov false (.t 4)⟩,
      ⟨some 11, none, .aaddr 16 1 none (.t 3) (.t 10)⟩,
      ⟨some 12, none, .load none (.t 11)⟩,
      ⟨some 13, none, .mov false (.t 0)⟩,
      ⟨some 14, none, .bin .s .eql (.t 12) (.t 13)⟩] [0, 3, 4, 14]) <|
    .cond (.t 14)
      (.seq (.reg [⟨some 15, none, .mov false (.t 4)⟩,
        ⟨some 2, none, .mov false (.t 15)⟩] [2]) <|
      .ret)
      (.skip)) <|
    .reg [⟨some 8, none, .mov false (.t 4)⟩,
      ⟨some 9, none, .bin .i .add (.t 8) (.c (.d (.int .i64 1)))⟩,
      ⟨some 4, none, .mov false (.t 9)⟩] [0, 3, 4]
def n_ref3_Kind : Nat := 28
def f_ref3_Kind : SFunc where
  np := 1
  res := [.slot 2]
  body := .seq (.reg [⟨some 2, none, .mov false (.c (.d (.int .i64 0)))⟩] [0]) <|
    .seq (.reg [⟨some 5, none, .call 27 []⟩,
      ⟨some 3, none, .zbox [.str [], .str [], .str [], .str [], .str [], .str [], .str [], .str [], .str [], .str [], .str [], .str [], .str [], .str [], .str [], .str []]⟩,
      ⟨none, none, .store 16 (.t 3) (.t 5)⟩] [0, 3]) <|
    .seq (.seq (.reg [⟨some 4, none, .mov false (.c (.d (.int .i64 1)))⟩] [0, 3, 4]) <|
    .block 0 <| .loop l_ref3_Kind_1) <|
    .seq (.reg [⟨some 2, none, .mov false (.c (.d (.int .i64 0)))⟩] [2]) <|
    .ret
/- cartouche/scalar.may -/
def n_scalar_may : Nat := 29
def f_scalar_may : SFunc where
  np := 2
  res := [.slot 4]
  body := .seq (.reg [⟨some 3, none, .box (.t 1)⟩,
      ⟨some 4, none, .mov false (.c (.d (.int .i64 0)))⟩] [0, 3]) <|
    .seq (.block 0 <| .seq (.reg [⟨some 6, none, .mov false (.t 0)⟩,
      ⟨some 7, none, .call 35 [(false, .t 6)]⟩,
      ⟨some 8, none, .not (.t 7)⟩,
      ⟨some 5, none, .mov false (.t 8)⟩] [0, 3, 5]) <|
    .cond (.t 5)
      (.seq (.reg [⟨some 4, none, .mov false (.c (.d (.int .i64 18)))⟩] [4]) <|
      .ret)
      (.seq (.reg [⟨some 10, none, .mov false (.t 0)⟩,
        ⟨some 11, none, .load (some 3) (.t 3)⟩,
        ⟨some 12, none, .call 25 [(false, .t 10), (false, .t 11)]⟩,
        ⟨some 13, none, .not (.t 12)⟩,
        ⟨some 9, none, .mov false (.t 13)⟩] [0, 3, 9]) <|
      .cond (.t 9)
        (.seq (.reg [⟨some 4, none, .mov false (.c (.d (.int .i64 7)))⟩] [4]) <|
        .ret)
        (.seq (.reg [⟨some 15, none, .mov false (.t 0)⟩,
          ⟨some 16, none, .bin .i .eql (.t 15) (.c (.d (.int .i64 14)))⟩,
          ⟨some 17, none, .mov false (.t 16)⟩,
          ⟨some 18, some (17, true), .faddr 1 none (.t 3)⟩,
          ⟨some 19, some (17, true), .load none (.t 18)⟩,
          ⟨some 20, some (17, true), .call 59 [(false, .t 19)]⟩,
          ⟨some 21, some (17, true), .not (.t 20)⟩,
          ⟨some 22, none, .pick (.t 17) (.t 21) (.c (.d (.bool false)))⟩,
          ⟨some 14, none, .mov false (.t 22)⟩] [14]) <|
        .cond (.t 14)
          (.seq (.reg [⟨some 4, none, .mov false (.c (.d (.int .i64 8)))⟩] [4]) <|
          .ret)
          (.skip)))) <|
    .seq (.reg [⟨some 4, none, .mov false (.c (.d (.int .i64 0)))⟩] [4]) <|
    .ret
/- cartouche/wire.PutChunk -/
def n_wire_PutChunk : Nat := 30
def f_wire_PutChunk : SFunc where
  np := 1
  res := [.slot 2]
  body := .seq (.reg [⟨some 2, none, .mov true (.c (.own 1 []))⟩] [0]) <|
    .seq (.reg [⟨some 4, none, .mov false (.t 0)⟩,
      ⟨some 5, none, .len false (.t 4)⟩,
      ⟨some 6, none, .cint .u64 (.t 5)⟩,
      ⟨some 3, none, .mov false (.t 6)⟩] [0, 3]) <|
    .seq (.reg [⟨some 7, none, .mov false (.t 3)⟩,
      ⟨some 8, none, .call 61 [(false, .t 7)]⟩,
      ⟨some 9, none, .mov false (.t 0)⟩,
      ⟨some 10, none, .len false (.t 9)⟩,
      ⟨some 11, none, .bin .i .add (.t 8) (.t 10)⟩,
      ⟨some 12, none, .make (.int .u8 0) 1 (.c (.d (.int .i64 0))) (.t 11)⟩,
      ⟨some 13, none, .mov false (.t 3)⟩,
      ⟨some 14, none, .call 60 [(true, .t 12), (false, .t 13)]⟩,
      ⟨some 15, none, .mov true (.t 0)⟩,
      ⟨some 16, none, .app false 1 1 (.t 14) (.t 15)⟩,
      ⟨some 2, none, .mov true (.t 16)⟩] [2]) <|
    .ret
/- cartouche/wire.PutFix32 -/
def n_wire_PutFix32 : Nat := 31
def f_wire_PutFix32 : SFunc where
  np := 1
  res := [.slot 2]
  body := .seq (.reg [⟨some 2, none, .mov true (.c (.own 1 []))⟩] [0]) <|
    .seq (.reg [⟨some 3, none, .mov false (.t 0)⟩,
      ⟨some 4, none, .cint .u64 (.t 3)⟩,
      ⟨some 5, none, .call 62 [(false, .t 4), (false, .c (.d (.int .i64 4)))]⟩,
      ⟨some 2, none, .mov true (.t 5)⟩] [2]) <|
    .ret
/- cartouche/wire.PutFix64 -/
def n_wire_PutFix64 : Nat := 32
def f_wire_PutFix64 : SFunc where
  np := 1
  res := [.slot 2]
  body := .seq (.reg [⟨some 2, none, .mov true (.c (.own 1 []))⟩] [0]) <|
    .seq (.reg [⟨some 3, none, .mov false (.t 0)⟩,
      ⟨some 4, none, .call 62 [(false, .t 3), (false, .c (.d (.int .i64 8)))]⟩,
      ⟨some 2, none, .mov true (.t 4)⟩] [2]) <|
    .ret
/- cartouche/wire.PutVarint -/
def n_wire_PutVarint : Nat := 33
def f_wire_PutVarint : SFunc where
  np := 1
  res := [.slot 2]
  body := .seq (.reg [⟨some 2, none, .mov true (.c (.own 1 []))⟩] [0]) <|
    .seq (.reg [⟨some 3, none, .mov false (.t 0)⟩,
      ⟨some 4, none, .call 61 [(false, .t 3)]⟩,
      ⟨some 5, none, .make (.int .u8 0) 1 (.c (.d (.int .i64 0))) (.t 4)⟩,
      ⟨some 6, none, .mov false (.t 0)⟩,
      ⟨some 7, none, .call 60 [(true, .t 5), (false, .t 6)]⟩,
      ⟨some 2, none, .mov true (.t 7)⟩] [2]) <|
    .ret
/- cartouche/wire.ZigZag -/
def n_wire_ZigZag : Nat := 34
def f_wire_ZigZag : SFunc where
  np := 1
  res := [.slot 2]
  body := .seq (.reg [⟨some 2, none, .mov false (.c (.d (.int .u64 0)))⟩] [0]) <|
    .seq (.reg [⟨some 3, none, .mov false (.t 0)⟩,
      ⟨some 4, none, .cint .u64 (.t 3)⟩,
      ⟨some 5, none, .bin .i .shl (.t 4) (.c (.d (.int .u64 1)))⟩,
      ⟨some 6, none, .mov false (.t 0)⟩,
      ⟨some 7, none, .bin .i .shr (.t 6) (.c (.d (.int .u64 63)))⟩,
      ⟨some 8, none, .cint .u64 (.t 7)⟩,
      ⟨some 9, none, .bin .i .xor (.t 5) (.t 8)⟩,
      ⟨some 2, none, .mov false (.t 9)⟩] [2]) <|
    .ret
/- cartouche/scalar.known -/
def n_scalar_known : Nat := 35
def f_scalar_known : SFunc where
  np := 1
  res := [.slot 2]
  body := .seq (.reg [⟨some 2, none, .mov false (.c (.d (.bool false)))⟩] [0]) <|
    .seq (.reg [⟨some 3, none, .mov false (.t 0)⟩,
      ⟨some 4, none, .bin .i .geq (.t 3) (.c (.d (.int .i64 1)))⟩,
      ⟨some 5, none, .mov false (.t 4)⟩,
      ⟨some 6, some (5, true), .mov false (.t 0)⟩,
      ⟨some 7, some (5, true), .bin .i .leq (.t 6) (.c (.d (.int .i64 16)))⟩,
      ⟨some 8, none, .pick (.t 5) (.t 7) (.c (.d (.bool false)))⟩,
      ⟨some 2, none, .mov false (.t 8)⟩] [2]) <|
    .ret
/- cartouche/wire.GetChunk -/
def n_wire_GetChunk : Nat := 36
def f_wire_GetChunk : SFunc where
  np := 2
  res := [.slot 4, .slot 5, .slot 6]
  body := .seq (.reg [⟨some 4, none, .mov true (.c (.own 1 []))⟩,
      ⟨some 5, none, .mov false (.c (.d (.int .i64 0)))⟩,
      ⟨some 6, none, .mov false (.c (.d (.int .i64 0)))⟩] [0, 1]) <|
    .seq (.reg [⟨some 10, none, .mov false (.t 0)⟩,
      ⟨some 11, none, .mov false (.t 1)⟩,
      ⟨some 12, none, .call 63 [(false, .t 10), (false, .t 11)]⟩,
      ⟨some 9, none, .mov false (.t 12)⟩,
      ⟨some 13, none, .ext (.t 9) 0⟩,
      ⟨some 14, none, .ext (.t 9) 1⟩,
      ⟨some 15, none, .ext (.t 9) 2⟩,
      ⟨some 7, none, .mov false (.t 13)⟩,
      ⟨some 8, none, .mov false (.t 14)⟩,
      ⟨some 6, none, .mov false (.t 15)⟩] [0, 6, 7, 8]) <|
    .seq (.seq (.reg [⟨some 16, none, .mov false (.t 6)⟩,
      ⟨some 17, none, .bin .i .neq (.t 16) (.c (.d (.int .i64 0)))⟩] [0, 6, 7, 8, 17]) <|
    .cond (.t 17)
      (.seq (.reg [⟨some 18, none, .mov false (.t 6)⟩,
        ⟨some 4, none, .mov true (.c (.own 1 []))⟩,
        ⟨some 5, none, .mov false (.c (.d (.int .i64 0)))⟩,
        ⟨some 6, none, .mov false (.t 18)⟩] [4, 5, 6]) <|
      .ret)
      (.skip)) <|
    .seq (.reg [⟨some 19, none, .mov false (.t 8)⟩,
      ⟨some 20, none, .mov false (.t 7)⟩,
      ⟨some 21, none, .bin .i .sub (.t 19) (.t 20)⟩,
      ⟨some 22, none, .make (.int .u8 0) 1 (.c (.d (.int .i64 0))) (.t 21)⟩,
      ⟨some 23, none, .mov true (.t 0)⟩,
      ⟨some 24, none, .mov false (.t 7)⟩,
      ⟨some 25, none, .mov false (.t 8)⟩,
      ⟨some 26, none, .slc 1 (.t 23) (some (.t 24)) (some (.t 25)) none⟩,
      ⟨some 27, none, .app false 1 1 (.t 22) (.t 26)⟩,
      ⟨some 28, none, .mov false (.t 8)⟩,
      ⟨some 4, none, .mov true (.t 27)⟩,
      ⟨some 5, none, .mov false (.t 28)⟩,
      ⟨some 6, none, .mov false (.c (.d (.int .i64 0)))⟩] [4, 5, 6]) <|
    .ret
/- cartouche/wire.GetFix32 -/
def n_wire_GetFix32 : Nat := 37
def f_wire_GetFix32 : SFunc where
  np := 2
  res := [.slot 4, .slot 5, .slot 6]
  body := .seq (.reg [⟨some 4, none, .mov false (.c (.d (.int .u32 0)))⟩,
      ⟨some 5, none, .mov false (.c (.d (.int .i64 0)))⟩,
      ⟨some 6, none, .mov false (.c (.d (.int .i64 0)))⟩] [0, 1]) <|
    .seq (.reg [⟨some 9, none, .mov true (.t 0)⟩,
      ⟨some 10, none, .mov false (.t 1)⟩,
      ⟨some 11, none, .call 64 [(false, .t 9), (false, .t 10), (false, .c (.d (.int .i64 4)))]⟩,
      ⟨some 8, none, .mov false (.t 11)⟩,
      ⟨some 12, none, .ext (.t 8) 0⟩,
      ⟨some 13, none, .ext (.t 8) 1⟩,
      ⟨some 14, none, .ext (.t 8) 2⟩,
      ⟨some 7, none, .mov false (.t 12)⟩,
      ⟨some 5, none, .mov false (.t 13)⟩,
      ⟨some 6, none, .mov false (.t 14)⟩] [5, 6, 7]) <|
    .seq (.reg [⟨some 15, none, .mov false (.t 7)⟩,
      ⟨some 16, none, .cint .u32 (.t 15)⟩,
      ⟨some 17, none, .mov false (.t 5)⟩,
      ⟨some 18, none, .mov false (.t 6)⟩,
      ⟨some 4, none, .mov false (.t 16)⟩,
      ⟨some 5, none, .mov false (.t 17)⟩,
      ⟨some 6, none, .mov false (.t 18)⟩] [4, 5, 6]) <|
    .ret
/- cartouche/wire.GetFix64 -/
def n_wire_GetFix64 : Nat := 38
def f_wire_GetFix64 : SFunc where
  np := 2
  res := [.slot 4, .slot 5, .slot 6]
  body := .seq (.reg [⟨some 4, none, .mov false (.c (.d (.int .u64 0)))⟩,
      ⟨some 5, none, .mov false (.c (.d (.int .i64 0)))⟩,
      ⟨some 6, none, .mov false (.c (.d (.int .i64 0)))⟩] [0, 1]) <|
    .seq (.reg [⟨some 7, none, .mov true (.t 0)⟩,
      ⟨some 8, none, .mov false (.t 1)⟩,
      ⟨some 9, none, .call 64 [(false, .t 7), (false, .t 8), (false, .c (.d (.int .i64 8)))]⟩,
      ⟨some 10, none, .ext (.t 9) 0⟩,
      ⟨some 11, none, .ext (.t 9) 1⟩,
      ⟨some 12, none, .ext (.t 9) 2⟩,
      ⟨some 4, none, .mov false (.t 10)⟩,
      ⟨some 5, none, .mov false (.t 11)⟩,
      ⟨some 6, none, .mov false (.t 12)⟩] [4, 5, 6]) <|
    .ret
/- cartouche/wire.GetVarint -/
def l_wire_GetVarint_1 : SC :=
  .seq (.reg [⟨some 14, none, .bin .i .lss (.t 13) (.c (.d (.int .i64 10)))⟩] [0, 1, 4, 13, 14]) <|
    .seq (.cond (.t 14)
      (.skip)
      (.exit 0)) <|
    .seq (.block 1 <| .seq (.reg [⟨some 15, none, .mov false (.t 13)⟩,
      ⟨some 7, none, .mov false (.t 15)⟩] [0, 1, 4, 7, 13]) <|
    .seq (.seq (.reg [⟨some 16, none, .mov false (.t 1)⟩,
      ⟨some 17, none, .mov false (.t 7)⟩,
      ⟨some 18, none, .bin .i .add (.t 16) (.t 17)⟩,
      ⟨some 19, none, .mov false (.t 0)⟩,
      ⟨some 20, none, .len false (.t 19)⟩,
      ⟨some 21, none, .bin .i .eql (.t 18) (.t 20)⟩] [0, 1, 4, 7, 13, 21]) <|
    .cond (.t 21)
      (.exit 0)
      (.skip)) <|
    .seq (.reg [⟨some 22, none, .mov false (.t 0)⟩,
      ⟨some 23, none, .mov false (.t 1)⟩,
      ⟨some 24, none, .mov false (.t 7)⟩,
      ⟨some 25, none, .bin .i .add (.t 23) (.t 24)⟩,
      ⟨some 26, none, .iaddr 1 (.t 22) (.t 25)⟩,
      ⟨some 27, none, .load none (.t 26)⟩,
      ⟨some 8, none, .mov false (.t 27)⟩] [0, 1, 4, 7, 8, 13]) <|
    .seq (.seq (.reg [⟨some 28, none, .mov false (.t 7)⟩,
      ⟨some 29, none, .bin .i .eql (.t 28) (.c (.d (.int .i64 9)))⟩,
      ⟨some 30, none, .mov false (.t 29)⟩,
      ⟨some 31, some (30, true), .mov false (.t 8)⟩,
      ⟨some 32, some (30, true), .bin .i .gtr (.t 31) (.c (.d (.int .u8 1)))⟩,
      ⟨some 33, none, .pick (.t 30) (.t 32) (.c (.d (.bool false)))⟩] [0, 1, 4, 7, 8, 13, 33]) <|
    .cond (.t 33)
      (.seq (.reg [⟨some 4, none, .mov false (.c (.d (.int .u64 0)))⟩,
        ⟨some 5, none, .mov false (.c (.d (.int .i64 0)))⟩,
        ⟨some 6, none, .mov false (.c (.d (.int .i64 4)))⟩] [4, 5, 6]) <|
      .ret)
      (.skip)) <|
    .seq (.reg [⟨some 34, none, .mov false (.t 4)⟩,
      ⟨some 35, none, .mov false (.t 8)⟩,
      ⟨some 36, none, .bin .i .and (.t 35) (.c (.d (.int .u8 127)))⟩,
      ⟨some 37, none, .cint .u64 (.t 36)⟩,
      ⟨some 38, none, .mov false (.t 7)⟩,
      ⟨some 39, none, .bin .i .mul (.c (.d (.int .i64 7))) (.t 38)⟩,
      ⟨some 40, none, .bin .i .shl (.t 37) (.t 39)⟩,
      ⟨some 41, none, .bin .i .or (.t 34) (.t 40)⟩,
      ⟨some 4, none, .mov false (.t 41)⟩] [0, 1, 4, 7, 8, 13]) <|
    .seq (.reg [⟨some 42, none, .mov false (.t 8)⟩,
      ⟨some 43, none, .bin .i .lss (.t 42) (.c (.d (.int .u8 128)))⟩] [0, 1, 4, 7, 13, 43]) <|
    .cond (.t 43)
      (.seq (.reg [⟨some 44, none, .mov false (.t 4)⟩,
        ⟨some 45, none, .mov false (.t 1)⟩,
        ⟨some 46, none, .mov false (.t 7)⟩,
        ⟨some 47, none, .bin .i .add (.t 45) (.t 46)⟩,
        ⟨some 48, none, .bin .i .add (.t 47) (.c (.d (.int .i64 1)))⟩,
        ⟨some 4, none, .mov false (.t 44)⟩,
        ⟨some 5, none, .mov false (.t 48)⟩,
        ⟨some 6, none, .mov false (.c (.d (.int .i64 0)))⟩] [4, 5, 6]) <|
      .ret)
      (.skip)) <|
    .reg [⟨some 49, none, .bin .i .add (.t 13) (.c (.d (.int .i64 1)))⟩,
      ⟨some 13, none, .mov false (.t 49)⟩] [0, 1, 4, 13]
def b_wire_GetVarint_15 : SC :=
  .seq (.seq (.reg [⟨some 9, none, .mov false (.t 0)⟩,
      ⟨some 10, none, .mov false (.t 1)⟩,
      ⟨some 11, none, .call 65 [(false, .t 9), (false, .t 10)]⟩,
      ⟨some 12, none, .not (.t 11)⟩] [0, 1, 4, 12]) <|
    .cond (.t 12)
      (.seq (.reg [⟨some 4, none, .mov false (.c (.d (.int .u64 0)))⟩,
        ⟨some 5, none, .mov false (.c (.d (.int .i64 0)))⟩,
        ⟨some 6, none, .mov false (.c (.d (.int .i64 18)))⟩] [4, 5, 6]) <|
      .ret)
      (.skip)) <|
    .seq (.label 0) <|
    .seq (.seq (.reg [⟨some 13, none, .mov false (.c (.d (.int .i64 0)))⟩] [0, 1, 4, 13]) <|
    .block 0 <| .loop l_wire_GetVarint_1) <|
    .seq (.reg [⟨some 4, none, .mov false (.c (.d (.int .u64 0)))⟩,
      ⟨some 5, none, .mov false (.c (.d (.int .i64 0)))⟩,
      ⟨some 6, none, .mov false (.c (.d (.int .i64 3)))⟩] [4, 5, 6]) <|
    .ret
def n_wire_GetVarint : Nat := 39
def f_wire_GetVarint : SFunc where
  np := 2
  res := [.slot 4, .slot 5, .slot 6]
  body := .seq (.reg [⟨some 4, none, .mov false (.c (.d (.int .u64 0)))⟩,
      ⟨some 5, none, .mov false (.c (.d (.int .i64 0)))⟩,
      ⟨some 6, none, .mov false (.c (.d (.int .i64 0)))⟩] [0, 1, 4]) <|
    .scp b_wire_GetVarint_15
/- cartouche/wire.ZagZig -/
def n_wire_ZagZig : Nat := 40
def f_wire_ZagZig : SFunc where
  np := 1
  res := [.slot 2]
  body := .seq (.reg [⟨some 2, none, .mov false (.c (.d (.int .i64 0)))⟩] [0]) <|
    .seq (.reg [⟨some 3, none, .mov false (.t 0)⟩,
      ⟨some 4, none, .bin .i .shr (.t 3) (.c (.d (.int .u64 1)))⟩,
      ⟨some 5, none, .cint .i64 (.t 4)⟩,
      ⟨some 6, none, .mov false (.t 0)⟩,
      ⟨some 7, none, .bin .i .and (.t 6) (.c (.d (.int .u64 1)))⟩,
      ⟨some 8, none, .cint .i64 (.t 7)⟩,
      ⟨some 9, none, .neg (.t 8)⟩,
      ⟨some 10, none, .bin .i .xor (.t 5) (.t 9)⟩,
      ⟨some 2, none, .mov false (.t 10)⟩] [2]) <|
    .ret
/- cartouche/cartoucheref2.Valid -/
def n_ref2_Valid : Nat := 41
def f_ref2_Valid : SFunc where
  np := 1
  res := [.slot 2]
  body := .seq (.reg [⟨some 2, none, .mov false (.c (.d (.bool false)))⟩] [0]) <|
    .seq (.reg [⟨some 3, none, .mov true (.t 0)⟩,
      ⟨some 4, none, .call 66 [(false, .t 3)]⟩,
      ⟨some 5, none, .bin .i .geq (.t 4) (.c (.d (.int .i64 0)))⟩,
      ⟨some 2, none, .mov false (.t 5)⟩] [2]) <|
    .ret
/- cartouche/cartoucheref1.PutVarint -/
def l_ref1_PutVarint_1 : SC :=
  .seq (.seq (.reg [⟨some 4, none, .mov false (.t 0)⟩,
      ⟨some 5, none, .bin .i .geq (.t 4) (.c (.d (.int .u64 128)))⟩] [0, 3, 5]) <|
    .cond (.t 5)
      (.skip)
      (.exit 0)) <|
    .block 1 <| .seq (.reg [⟨some 6, none, .mov true (.t 3)⟩,
      ⟨some 7, none, .mov false (.t 0)⟩,
      ⟨some 8, none, .bin .i .rem (.t 7) (.c (.d (.int .u64 128)))⟩,
      ⟨some 9, none, .cint .u8 (.t 8)⟩,
      ⟨some 10, none, .bin .i .add (.t 9) (.c (.d (.int .u8 128)))⟩,
      ⟨some 11, none, .mk 1 [.t 10]⟩,
      ⟨some 12, none, .app false 1 1 (.t 6) (.t 11)⟩,
      ⟨some 3, none, .mov true (.t 12)⟩] [0, 3]) <|
    .reg [⟨some 13, none, .mov false (.t 0)⟩,
      ⟨some 14, none, .bin .i .quo (.t 13) (.c (.d (.int .u64 128)))⟩,
      ⟨some 0, none, .mov false (.t 14)⟩] [0, 3]
def n_ref1_PutVarint : Nat := 42
def f_ref1_PutVarint : SFunc where
  np := 1
  res := [.slot 2]
  body := .seq (.reg [⟨some 2, none, .mov true (.c (.own 1 []))⟩] [0]) <|
    .seq (.reg [⟨some 3, none, .mov true (.c (.own 1 []))⟩] [0, 3]) <|
    .seq (.block 0 <| .loop l_ref1_PutVarint_1) <|
    .seq (.reg [⟨some 15, none, .mov true (.t 3)⟩,
      ⟨some 16, none, .mov false (.t 0)⟩,
      ⟨some 17, none, .cint .u8 (.t 16)⟩,
      ⟨some 18, none, .mk 1 [.t 17]⟩,
      ⟨some 19, none, .app false 1 1 (.t 15) (.t 18)⟩,
      ⟨some 2, none, .mov true (.t 19)⟩] [2]) <|
    .ret
/- cartouche/cartoucheref1.ZigZag -/
def n_ref1_ZigZag : Nat := 43
def f_ref1_ZigZag : SFunc where
  np := 1
  res := [.slot 2]
  body := .seq (.reg [⟨some 2, none, .mov false (.c (.d (.int .u64 0)))⟩] [0]) <|
    .seq (.seq (.reg [⟨some 3, none, .mov false (.t 0)⟩,
      ⟨some 4, none, .bin .i .geq (.t 3) (.c (.d (.int .i64 0)))⟩] [0, 4]) <|
    .cond (.t 4)
      (.seq (.reg [⟨some 5, none, .mov false (.t 0)⟩,
        ⟨some 6, none, .cint .u64 (.t 5)⟩,
        ⟨some 7, none, .bin .i .mul (.t 6) (.c (.d (.int .u64 2)))⟩,
        ⟨some 2, none, .mov false (.t 7)⟩] [2]) <|
      .ret)
      (.skip)) <|
    .seq (.reg [⟨some 8, none, .mov false (.t 0)⟩,
      ⟨some 9, none, .bin .i .add (.t 8) (.c (.d (.int .i64 1)))⟩,
      ⟨some 10, none, .neg (.t 9)⟩,
      ⟨some 11, none, .cint .u64 (.t 10)⟩,
      ⟨some 12, none, .bin .i .mul (.t 11) (.c (.d (.int .u64 2)))⟩,
      ⟨some 13, none, .bin .i .add (.t 12) (.c (.d (.int .u64 1)))⟩,
      ⟨some 2, none, .mov false (.t 13)⟩] [2]) <|
    .ret
/- cartouche/cartoucheref1.PutWord -/
def l_ref1_PutWord_1 : SC :=
  .seq (.seq (.reg [⟨some 7, none, .mov false (.t 6)⟩,
      ⟨some 8, none, .mov false (.t 1)⟩,
      ⟨some 9, none, .bin .i .lss (.t 7) (.t 8)⟩] [0, 1, 5, 6, 9]) <|
    .cond (.t 9)
      (.skip)
      (.exit 0)) <|
    .seq (.block 1 <| .reg [⟨some 12, none, .mov true (.t 5)⟩,
      ⟨some 13, none, .mov false (.t 0)⟩,
      ⟨some 14, none, .mov false (.t 6)⟩,
      ⟨some 15, none, .bin .i .mul (.c (.d (.int .i64 8))) (.t 14)⟩,
      ⟨some 16, none, .cint .u64 (.t 15)⟩,
      ⟨some 17, none, .bin .i .shr (.t 13) (.t 16)⟩,
      ⟨some 18, none, .cint .u8 (.t 17)⟩,
      ⟨some 19, none, .mk 1 [.t 18]⟩,
      ⟨some 20, none, .app false 1 1 (.t 12) (.t 19)⟩,
      ⟨some 5, none, .mov true (.t 20)⟩] [0, 1, 5, 6]) <|
    .reg [⟨some 10, none, .mov false (.t 6)⟩,
      ⟨some 11, none, .bin .i .add (.t 10) (.c (.d (.int .i64 1)))⟩,
      ⟨some 6, none, .mov false (.t 11)⟩] [0, 1, 5, 6]
def n_ref1_PutWord : Nat := 44
def f_ref1_PutWord : SFunc where
  np := 2
  res := [.slot 4]
  body := .seq (.reg [⟨some 4, none, .mov true (.c (.own 1 []))⟩] [0, 1]) <|
    .seq (.reg [⟨some 5, none, .mov true (.c (.own 1 []))⟩] [0, 1, 5]) <|
    .seq (.seq (.reg [⟨some 6, none, .mov false (.c (.d (.int .i64 0)))⟩] [0, 1, 5, 6]) <|
    .block 0 <| .loop l_ref1_PutWord_1) <|
    .seq (.reg [⟨some 21, none, .mov true (.t 5)⟩,
      ⟨some 4, none, .mov true (.t 21)⟩] [4]) <|
    .ret
/- cartouche/cartoucheref1.PutChunk -/
def n_ref1_PutChunk : Nat := 45
def f_ref1_PutChunk : SFunc where
  np := 1
  res := [.slot 2]
  body := .seq (.reg [⟨some 2, none, .mov true (.c (.own 1 []))⟩] [0]) <|
    .seq (.reg [⟨some 3, none, .mov false (.t 0)⟩,
      ⟨some 4, none, .len false (.t 3)⟩,
      ⟨some 5, none, .cint .u64 (.t 4)⟩,
      ⟨some 6, none, .call 42 [(false, .t 5)]⟩,
      ⟨some 7, none, .mov true (.t 0)⟩,
      ⟨some 8, none, .app false 1 1 (.t 6) (.t 7)⟩,
      ⟨some 2, none, .mov true (.t 8)⟩] [2]) <|
    .ret
/- cartouche/cartouchelaw3.n -/
def n_law3_n : Nat := 46
def f_law3_n : SFunc where
  np := 1
  res := [.cell 2 (some 3)]
  body := .seq (.reg [⟨some 2, none, .zbox [.int .u64 0, .slice 0 [], .slice 0 []]⟩] [0, 2, 2]) <|
    .seq (.reg [⟨some 3, none, .mov false (.t 0)⟩,
      ⟨some 4, none, .cint .u64 (.t 3)⟩,
      ⟨some 5, none, .build [.int .u64 0, .slice 0 [], .slice 0 []] [(0, 1, .t 4)]⟩,
      ⟨none, none, .store 3 (.t 2) (.t 5)⟩] [2, 2]) <|
    .ret
/- cartouche/cartoucheref1.GetVarint -/
def l_ref1_GetVarint_0 : SC :=
  .seq (.block 1 <| .seq (.seq (.reg [⟨some 12, none, .mov false (.t 1)⟩,
      ⟨some 13, none, .mov false (.t 8)⟩,
      ⟨some 14, none, .bin .i .add (.t 12) (.t 13)⟩,
      ⟨some 15, none, .mov false (.t 0)⟩,
      ⟨some 16, none, .len false (.t 15)⟩,
      ⟨some 17, none, .bin .i .geq (.t 14) (.t 16)⟩] [0, 1, 7, 8, 17]) <|
    .cond (.t 17)
      (.seq (.reg [⟨some 4, none, .mov false (.c (.d (.int .u64 0)))⟩,
        ⟨some 5, none, .mov false (.c (.d (.int .i64 0)))⟩,
        ⟨some 6, none, .mov false (.c (.d (.int .i64 3)))⟩] [4, 5, 6]) <|
      .ret)
      (.skip)) <|
    .seq (.reg [⟨some 18, none, .mov false (.t 0)⟩,
      ⟨some 19, none, .mov false (.t 1)⟩,
      ⟨some 20, none, .mov false (.t 8)⟩,
      ⟨some 21, none, .bin .i .add (.t 19) (.t 20)⟩,
      ⟨some 22, none, .iaddr 1 (.t 18) (.t 21)⟩,
      ⟨some 23, none, .load none (.t 22)⟩,
      ⟨some 9, none, .mov false (.t 23)⟩] [0, 1, 7, 8, 9]) <|
    .seq (.seq (.reg [⟨some 24, none, .mov false (.t 8)⟩,
      ⟨some 25, none, .bin .i .eql (.t 24) (.c (.d (.int .i64 9)))⟩,
      ⟨some 26, none, .mov false (.t 25)⟩,
      ⟨some 27, some (26, true), .mov false (.t 9)⟩,
      ⟨some 28, some (26, true), .bin .i .gtr (.t 27) (.c (.d (.int .u8 1)))⟩,
      ⟨some 29, none, .pick (.t 26) (.t 28) (.c (.d (.bool false)))⟩] [0, 1, 7, 8, 9, 29]) <|
    .cond (.t 29)
      (.seq (.reg [⟨some 4, none, .mov false (.c (.d (.int .u64 0)))⟩,
        ⟨some 5, none, .mov false (.c (.d (.int .i64 0)))⟩,
        ⟨some 6, none, .mov false (.c (.d (.int .i64 4)))⟩] [4, 5, 6]) <|
      .ret)
      (.skip)) <|
    .seq (.reg [⟨some 30, none, .mov false (.t 7)⟩,
      ⟨some 31, none, .mov false (.t 9)⟩,
      ⟨some 32, none, .bin .i .rem (.t 31) (.c (.d (.int .u8 128)))⟩,
      ⟨some 33, none, .cint .u64 (.t 32)⟩,
      ⟨some 34, none, .mov false (.t 8)⟩,
      ⟨some 35, none, .bin .i .mul (.c (.d (.int .i64 7))) (.t 34)⟩,
      ⟨some 36, none, .cint .u64 (.t 35)⟩,
      ⟨some 37, none, .bin .i .shl (.t 33) (.t 36)⟩,
      ⟨some 38, none, .bin .i .or (.t 30) (.t 37)⟩,
      ⟨some 7, none, .mov false (.t 38)⟩] [0, 1, 7, 8, 9]) <|
    .seq (.reg [⟨some 39, none, .mov false (.t 9)⟩,
      ⟨some 40, none, .bin .i .lss (.t 39) (.c (.d (.int .u8 128)))⟩] [0, 1, 7, 8, 40]) <|
    .cond (.t 40)
      (.seq (.reg [⟨some 41, none, .mov false (.t 7)⟩,
        ⟨some 42, none, .mov false (.t 1)⟩,
        ⟨some 43, none, .mov false (.t 8)⟩,
        ⟨some 44, none, .bin .i .add (.t 42) (.t 43)⟩,
        ⟨some 45, none, .bin .i .add (.t 44) (.c (.d (.int .i64 1)))⟩,
        ⟨some 4, none, .mov false (.t 41)⟩,
        ⟨some 5, none, .mov false (.t 45)⟩,
        ⟨some 6, none, .mov false (.c (.d (.int .i64 0)))⟩] [4, 5, 6]) <|
      .ret)
      (.skip)) <|
    .reg [⟨some 10, none, .mov false (.t 8)⟩,
      ⟨some 11, none, .bin .i .add (.t 10) (.c (.d (.int .i64 1)))⟩,
      ⟨some 8, none, .mov false (.t 11)⟩] [0, 1, 7, 8]
def n_ref1_GetVarint : Nat := 47
def f_ref1_GetVarint : SFunc where
  np := 2
  res := [.slot 4, .slot 5, .slot 6]
  body := .seq (.reg [⟨some 4, none, .mov false (.c (.d (.int .u64 0)))⟩,
      ⟨some 5, none, .mov false (.c (.d (.int .i64 0)))⟩,
      ⟨some 6, none, .mov false (.c (.d (.int .i64 0)))⟩] [0, 1]) <|
    .seq (.reg [⟨some 7, none, .mov false (.c (.d (.int .u64 0)))⟩] [0, 1, 7]) <|
    .seq (.reg [⟨some 8, none, .mov false (.c (.d (.int .i64 0)))⟩] [0, 1, 7, 8]) <|
    .block 0 <| .loop l_ref1_GetVarint_0
/- cartouche/cartoucheref1.ZagZig -/
def n_ref1_ZagZig : Nat := 48
def f_ref1_ZagZig : SFunc where
  np := 1
  res := [.slot 2]
  body := .seq (.reg [⟨some 2, none, .mov false (.c (.d (.int .i64 0)))⟩] [0]) <|
    .seq (.seq (.reg [⟨some 3, none, .mov false (.t 0)⟩,
      ⟨some 4, none, .bin .i .rem (.t 3) (.c (.d (.int .u64 2)))⟩,
      ⟨some 5, none, .bin .i .eql (.t 4) (.c (.d (.int .u64 0)))⟩] [0, 5]) <|
    .cond (.t 5)
      (.seq (.reg [⟨some 6, none, .mov false (.t 0)⟩,
        ⟨some 7, none, .bin .i .quo (.t 6) (.c (.d (.int .u64 2)))⟩,
        ⟨some 8, none, .cint .i64 (.t 7)⟩,
        ⟨some 2, none, .mov false (.t 8)⟩] [2]) <|
      .ret)
      (.skip)) <|
    .seq (.reg [⟨some 9, none, .mov false (.t 0)⟩,
      ⟨some 10, none, .bin .i .quo (.t 9) (.c (.d (.int .u64 2)))⟩,
      ⟨some 11, none, .cint .i64 (.t 10)⟩,
      ⟨some 12, none, .neg (.t 11)⟩,
      ⟨some 13, none, .bin .i .sub (.t 12) (.c (.d (.int .i64 1)))⟩,
      ⟨some 2, none, .mov false (.t 13)⟩] [2]) <|
    .ret
/- cartouche/cartoucheref1.Word -/
def l_ref1_Word_1 : SC :=
  .seq (.seq (.reg [⟨some 19, none, .mov false (.t 10)⟩,
      ⟨some 20, none, .bin .i .geq (.t 19) (.c (.d (.int .i64 0)))⟩] [0, 1, 2, 9, 10, 20]) <|
    .cond (.t 20)
      (.skip)
      (.exit 0)) <|
    .seq (.block 1 <| .reg [⟨some 23, none, .mov false (.t 9)⟩,
      ⟨some 24, none, .bin .i .mul (.t 23) (.c (.d (.int .u64 256)))⟩,
      ⟨some 25, none, .mov false (.t 0)⟩,
      ⟨some 26, none, .mov false (.t 1)⟩,
      ⟨some 27, none, .mov false (.t 10)⟩,
      ⟨some 28, none, .bin .i .add (.t 26) (.t 27)⟩,
      ⟨some 29, none, .iaddr 1 (.t 25) (.t 28)⟩,
      ⟨some 30, none, .load none (.t 29)⟩,
      ⟨some 31, none, .cint .u64 (.t 30)⟩,
      ⟨some 32, none, .bin .i .add (.t 24) (.t 31)⟩,
      ⟨some 9, none, .mov false (.t 32)⟩] [0, 1, 2, 9, 10]) <|
    .reg [⟨some 21, none, .mov false (.t 10)⟩,
      ⟨some 22, none, .bin .i .sub (.t 21) (.c (.d (.int .i64 1)))⟩,
      ⟨some 10, none, .mov false (.t 22)⟩] [0, 1, 2, 9, 10]
def n_ref1_Word : Nat := 49
def f_ref1_Word : SFunc where
  np := 3
  res := [.slot 6, .slot 7, .slot 8]
  body := .seq (.reg [⟨some 6, none, .mov false (.c (.d (.int .u64 0)))⟩,
      ⟨some 7, none, .mov false (.c (.d (.int .i64 0)))⟩,
      ⟨some 8, none, .mov false (.c (.d (.int .i64 0)))⟩] [0, 1, 2]) <|
    .seq (.seq (.reg [⟨some 11, none, .mov false (.t 0)⟩,
      ⟨some 12, none, .len false (.t 11)⟩,
      ⟨some 13, none, .mov false (.t 1)⟩,
      ⟨some 14, none, .bin .i .sub (.t 12) (.t 13)⟩,
      ⟨some 15, none, .mov false (.t 2)⟩,
      ⟨some 16, none, .bin .i .lss (.t 14) (.t 15)⟩] [0, 1, 2, 16]) <|
    .cond (.t 16)
      (.seq (.reg [⟨some 6, none, .mov false (.c (.d (.int .u64 0)))⟩,
        ⟨some 7, none, .mov false (.c (.d (.int .i64 0)))⟩,
        ⟨some 8, none, .mov false (.c (.d (.int .i64 3)))⟩] [6, 7, 8]) <|
      .ret)
      (.skip)) <|
    .seq (.reg [⟨some 9, none, .mov false (.c (.d (.int .u64 0)))⟩] [0, 1, 2, 9]) <|
    .seq (.seq (.reg [⟨some 17, none, .mov false (.t 2)⟩,
      ⟨some 18, none, .bin .i .sub (.t 17) (.c (.d (.int .i64 1)))⟩,
      ⟨some 10, none, .mov false (.t 18)⟩] [0, 1, 2, 9, 10]) <|
    .block 0 <| .loop l_ref1_Word_1) <|
    .seq (.reg [⟨some 33, none, .mov false (.t 9)⟩,
      ⟨some 34, none, .mov false (.t 1)⟩,
      ⟨some 35, none, .mov false (.t 2)⟩,
      ⟨some 36, none, .bin .i .add (.t 34) (.t 35)⟩,
      ⟨some 6, none, .mov false (.t 33)⟩,
      ⟨some 7, none, .mov false (.t 36)⟩,
      ⟨some 8, none, .mov false (.c (.d (.int .i64 0)))⟩] [6, 7, 8]) <|
    .ret
/- cartouche/cartoucheref1.GetChunk -/
def n_ref1_GetChunk : Nat := 50
def f_ref1_GetChunk : SFunc where
  np := 2
  res := [.slot 4, .slot 5, .slot 6]
  body := .seq (.reg [⟨some 4, none, .mov true (.c (.own 1 []))⟩,
      ⟨some 5, none, .mov false (.c (.d (.int .i64 0)))⟩,
      ⟨some 6, none, .mov false (.c (.d (.int .i64 0)))⟩] [0, 1]) <|
    .seq (.reg [⟨some 12, none, .mov false (.t 0)⟩,
      ⟨some 13, none, .mov false (.t 1)⟩,
      ⟨some 14, none, .call 47 [(false, .t 12), (false, .t 13)]⟩,
      ⟨some 11, none, .mov false (.t 14)⟩,
      ⟨some 15, none, .ext (.t 11) 0⟩,
      ⟨some 16, none, .ext (.t 11) 1⟩,
      ⟨some 17, none, .ext (.t 11) 2⟩,
      ⟨some 7, none, .mov false (.t 15)⟩,
      ⟨some 8, none, .mov false (.t 16)⟩,
      ⟨some 9, none, .mov false (.t 17)⟩] [0, 7, 8, 9]) <|
    .seq (.seq (.reg [⟨some 18, none, .mov false (.t 9)⟩,
      ⟨some 19, none, .bin .i .neq (.t 18) (.c (.d (.int .i64 0)))⟩] [0, 7, 8, 9, 19]) <|
    .cond (.t 19)
      (.seq (.reg [⟨some 20, none, .mov false (.t 9)⟩,
        ⟨some 4, none, .mov true (.c (.own 1 []))⟩,
        ⟨some 5, none, .mov false (.c (.d (.int .i64 0)))⟩,
        ⟨some 6, none, .mov false (.t 20)⟩] [4, 5, 6]) <|
      .ret)
      (.skip)) <|
    .seq (.seq (.reg [⟨some 21, none, .mov false (.t 7)⟩,
      ⟨some 22, none, .mov false (.t 0)⟩,
      ⟨some 23, none, .len false (.t 22)⟩,
      ⟨some 24, none, .mov false (.t 8)⟩,
      ⟨some 25, none, .bin .i .sub (.t 23) (.t 24)⟩,
      ⟨some 26, none, .cint .u64 (.t 25)⟩,
      ⟨some 27, none, .bin .i .gtr (.t 21) (.t 26)⟩] [0, 7, 8, 27]) <|
    .cond (.t 27)
      (.seq (.reg [⟨some 4, none, .mov true (.c (.own 1 []))⟩,
        ⟨some 5, none, .mov false (.c (.d (.int .i64 0)))⟩,
        ⟨some 6, none, .mov false (.c (.d (.int .i64 3)))⟩] [4, 5, 6]) <|
      .ret)
      (.skip)) <|
    .seq (.reg [⟨some 10, none, .mov true (.c (.own 1 []))⟩] [0, 7, 8, 10]) <|
    .seq (.reg [⟨some 28, none, .mov true (.t 10)⟩,
      ⟨some 29, none, .mov true (.t 0)⟩,
      ⟨some 30, none, .mov false (.t 8)⟩,
      ⟨some 31, none, .mov false (.t 8)⟩,
      ⟨some 32, none, .mov false (.t 7)⟩,
      ⟨some 33, none, .cint .i64 (.t 32)⟩,
      ⟨some 34, none, .bin .i .add (.t 31) (.t 33)⟩,
      ⟨some 35, none, .slc 1 (.t 29) (some (.t 30)) (some (.t 34)) none⟩,
      ⟨some 36, none, .app false 1 1 (.t 28) (.t 35)⟩,
      ⟨some 37, none, .mov false (.t 8)⟩,
      ⟨some 38, none, .mov false (.t 7)⟩,
      ⟨some 39, none, .cint .i64 (.t 38)⟩,
      ⟨some 40, none, .bin .i .add (.t 37) (.t 39)⟩,
      ⟨some 4, none, .mov true (.t 36)⟩,
      ⟨some 5, none, .mov false (.t 40)⟩,
      ⟨some 6, none, .mov false (.c (.d (.int .i64 0)))⟩] [4, 5, 6]) <|
    .ret
/- cartouche/cartoucheref3.Holds -/
def n_ref3_Holds : Nat := 51
def f_ref3_Holds : SFunc where
  np := 2
  res := [.slot 4]
  body := .seq (.reg [⟨some 4, none, .mov false (.c (.d (.bool false)))⟩] [0, 1]) <|
    .seq (.reg [⟨some 6, none, .mov false (.t 1)⟩,
      ⟨some 7, none, .cint .i64 (.t 6)⟩,
      ⟨some 5, none, .mov false (.t 7)⟩] [0, 1, 5]) <|
    .seq (.seq (.reg [⟨some 8, none, .mov false (.t 0)⟩] [1, 5, 8]) <|
    .block 0 <| .seq (.reg [⟨some 10, none, .bin .i .eql (.t 8) (.c (.d (.int .i64 1)))⟩,
      ⟨some 9, none, .mov false (.t 10)⟩] [1, 5, 8, 9]) <|
    .cond (.t 9)
      (.seq (.reg [⟨some 11, none, .mov false (.t 1)⟩,
        ⟨some 12, none, .bin .i .lss (.t 11) (.c (.d (.int .u64 2)))⟩,
        ⟨some 4, none, .mov false (.t 12)⟩] [4]) <|
      .ret)
      (.seq (.seq (.reg [⟨some 14, none, .bin .i .eql (.t 8) (.c (.d (.int .i64 2)))⟩,
        ⟨some 13, none, .mov false (.t 14)⟩] [1, 5, 8, 13]) <|
      .cond (.t 13)
        (.skip)
        (.seq (.reg [⟨some 15, none, .bin .i .eql (.t 8) (.c (.d (.int .i64 6)))⟩,
          ⟨some 13, none, .mov false (.t 15)⟩] [1, 5, 8, 13]) <|
        .cond (.t 13)
          (.skip)
          (.reg [⟨some 16, none, .bin .i .eql (.t 8) (.c (.d (.int .i64 10)))⟩,
            ⟨some 13, none, .mov false (.t 16)⟩] [1, 5, 8, 13]))) <|
      .cond (.t 13)
        (.seq (.reg [⟨some 17, none, .mov false (.t 5)⟩,
          ⟨some 18, none, .bin .i .geq (.t 17) (.c (.d (.int .i64 (-2147483648))))⟩,
          ⟨some 19, none, .mov false (.t 18)⟩,
          ⟨some 20, some (19, true), .mov false (.t 5)⟩,
          ⟨some 21, some (19, true), .bin .i .lss (.t 20) (.c (.d (.int .i64 2147483648)))⟩,
          ⟨some 22, none, .pick (.t 19) (.t 21) (.c (.d (.bool false)))⟩,
          ⟨some 4, none, .mov false (.t 22)⟩] [4]) <|
        .ret)
        (.seq (.seq (.reg [⟨some 24, none, .bin .i .eql (.t 8) (.c (.d (.int .i64 4)))⟩,
          ⟨some 23, none, .mov false (.t 24)⟩] [1, 5, 8, 23]) <|
        .cond (.t 23)
          (.skip)
          (.seq (.reg [⟨some 25, none, .bin .i .eql (.t 8) (.c (.d (.int .i64 8)))⟩,
            ⟨some 23, none, .mov false (.t 25)⟩] [1, 5, 8, 23]) <|
          .cond (.t 23)
            (.skip)
            (.reg [⟨some 26, none, .bin .i .eql (.t 8) (.c (.d (.int .i64 12)))⟩,
              ⟨some 23, none, .mov false (.t 26)⟩] [1, 5, 8, 23]))) <|
        .cond (.t 23)
          (.seq (.reg [⟨some 27, none, .mov false (.t 1)⟩,
            ⟨some 28, none, .bin .i .lss (.t 27) (.c (.d (.int .u64 4294967296)))⟩,
            ⟨some 4, none, .mov false (.t 28)⟩] [4]) <|
          .ret)
          (.seq (.reg [⟨some 30, none, .bin .i .eql (.t 8) (.c (.d (.int .i64 16)))⟩,
            ⟨some 29, none, .mov false (.t 30)⟩] [5, 29]) <|
          .cond (.t 29)
            (.seq (.reg [⟨some 31, none, .mov false (.t 5)⟩,
              ⟨some 32, none, .bin .i .geq (.t 31) (.c (.d (.int .i64 0)))⟩,
              ⟨some 33, none, .mov false (.t 32)⟩,
              ⟨some 34, some (33, true), .mov false (.t 5)⟩,
              ⟨some 35, some (33, true), .bin .i .lss (.t 34) (.c (.d (.int .i64 2147483648)))⟩,
              ⟨some 36, none, .pick (.t 33) (.t 35) (.c (.d (.bool false)))⟩,
              ⟨some 4, none, .mov false (.t 36)⟩] [4]) <|
            .ret)
            (.skip))))) <|
    .seq (.reg [⟨some 4, none, .mov false (.c (.d (.bool true)))⟩] [4]) <|
    .ret
/- cartouche/scalar.signed -/
def n_scalar_signed : Nat := 53
def f_scalar_signed : SFunc where
  np := 1
  res := [.slot 2]
  body := .seq (.reg [⟨some 2, none, .mov false (.c (.d (.bool false)))⟩] [0]) <|
    .seq (.seq (.reg [⟨some 3, none, .mov false (.t 0)⟩] [3]) <|
    .block 0 <| .seq (.seq (.reg [⟨some 5, none, .bin .i .eql (.t 3) (.c (.d (.int .i64 2)))⟩,
      ⟨some 4, none, .mov false (.t 5)⟩] [3, 4]) <|
    .cond (.t 4)
      (.skip)
      (.seq (.reg [⟨some 6, none, .bin .i .eql (.t 3) (.c (.d (.int .i64 3)))⟩,
        ⟨some 4, none, .mov false (.t 6)⟩] [3, 4]) <|
      .cond (.t 4)
        (.skip)
        (.seq (.reg [⟨some 7, none, .bin .i .eql (.t 3) (.c (.d (.int .i64 6)))⟩,
          ⟨some 4, none, .mov false (.t 7)⟩] [3, 4]) <|
        .cond (.t 4)
          (.skip)
          (.seq (.reg [⟨some 8, none, .bin .i .eql (.t 3) (.c (.d (.int .i64 7)))⟩,
            ⟨some 4, none, .mov false (.t 8)⟩] [3, 4]) <|
          .cond (.t 4)
            (.skip)
            (.seq (.reg [⟨some 9, none, .bin .i .eql (.t 3) (.c (.d (.int .i64 10)))⟩,
              ⟨some 4, none, .mov false (.t 9)⟩] [3, 4]) <|
            .cond (.t 4)
              (.skip)
              (.reg [⟨some 10, none, .bin .i .eql (.t 3) (.c (.d (.int .i64 11)))⟩,
                ⟨some 4, none, .mov false (.t 10)⟩] [4])))))) <|
    .cond (.t 4)
      (.seq (.reg [⟨some 2, none, .mov false (.c (.d (.bool true)))⟩] [2]) <|
      .ret)
      (.skip)) <|
    .seq (.reg [⟨some 2, none, .mov false (.c (.d (.bool false)))⟩] [2]) <|
    .ret
/- cmp.Compare[int64] -/
def n_cmp_Compare_int64_ : Nat := 54
def f_cmp_Compare_int64_ : SFunc where
  np := 2
  res := [.slot 4]
  body := .seq (.reg [⟨some 4, none, .mov false (.c (.d (.int .i64 0)))⟩] [0, 1]) <|
    .seq (.reg [⟨some 7, none, .mov false (.t 0)⟩,
      ⟨some 8, none, .call 68 [(false, .t 7)]⟩,
      ⟨some 5, none, .mov false (.t 8)⟩] [0, 1, 5]) <|
    .seq (.reg [⟨some 9, none, .mov false (.t 1)⟩,
      ⟨some 10, none, .call 68 [(false, .t 9)]⟩,
      ⟨some 6, none, .mov false (.t 10)⟩] [0, 1, 5, 6]) <|
    .seq (.seq (.reg [⟨some 11, none, .mov false (.t 5)⟩] [0, 1, 6, 11]) <|
    .cond (.t 11)
      (.seq (.seq (.reg [⟨some 12, none, .mov false (.t 6)⟩] [12]) <|
      .cond (.t 12)
        (.seq (.reg [⟨some 4, none, .mov false (.c (.d (.int .i64 0)))⟩] [4]) <|
        .ret)
        (.skip)) <|
      .seq (.reg [⟨some 4, none, .mov false (.c (.d (.int .i64 (-1))))⟩] [4]) <|
      .ret)
      (.skip)) <|
    .seq (.seq (.reg [⟨some 13, none, .mov false (.t 6)⟩] [0, 1, 13]) <|
    .cond (.t 13)
      (.seq (.reg [⟨some 4, none, .mov false (.c (.d (.int .i64 1)))⟩] [4]) <|
      .ret)
      (.skip)) <|
    .seq (.seq (.reg [⟨some 14, none, .mov false (.t 0)⟩,
      ⟨some 15, none, .mov false (.t 1)⟩,
      ⟨some 16, none, .bin .i .lss (.t 14) (.t 15)⟩] [0, 1, 16]) <|
    .cond (.t 16)
      (.seq (.reg [⟨some 4, none, .mov false (.c (.d (.int .i64 (-1))))⟩] [4]) <|
      .ret)
      (.skip)) <|
    .seq (.seq (.reg [⟨some 17, none, .mov false (.t 0)⟩,
      ⟨some 18, none, .mov false (.t 1)⟩,
      ⟨some 19, none, .bin .i .gtr (.t 17) (.t 18)⟩] [19]) <|
    .cond (.t 19)
      (.seq (.reg [⟨some 4, none, .mov false (.c (.d (.int .i64 1)))⟩] [4]) <|
      .ret)
      (.skip)) <|
    .seq (.reg [⟨some 4, none, .mov false (.c (.d (.int .i64 0)))⟩] [4]) <|
    .ret
/- cmp.Compare[uint64] -/
def n_cmp_Compare_uint64_ : Nat := 55
def f_cmp_Compare_uint64_ : SFunc where
  np := 2
  res := [.slot 4]
  body := .seq (.reg [⟨some 4, none, .mov false (.c (.d (.int .i64 0)))⟩] [0, 1]) <|
    .seq (.reg [⟨some 7, none, .mov false (.t 0)⟩,
      ⟨some 8, none, .call 69 [(false, .t 7)]⟩,
      ⟨some 5, none, .mov false (.t 8)⟩] [0, 1, 5]) <|
    .seq (.reg [⟨some 9, none, .mov false (.t 1)⟩,
      ⟨some 10, none, .call 69 [(false, .t 9)]⟩,
      ⟨some 6, none, .mov false (.t 10)⟩] [0, 1, 5, 6]) <|
    .seq (.seq (.reg [⟨some 11, none, .mov false (.t 5)⟩] [0, 1, 6, 11]) <|
    .cond (.t 11)
      (.seq (.seq (.reg [⟨some 12, none, .mov false (.t 6)⟩] [12]) <|
      .cond (.t 12)
        (.seq (.reg [⟨some 4, none, .mov false (.c (.d (.int .i64 0)))⟩] [4]) <|
        .ret)
        (.skip)) <|
      .seq (.reg [⟨some 4, none, .mov false (.c (.d (.int .i64 (-1))))⟩] [4]) <|
      .ret)
      (.skip)) <|
    .seq (.seq (.reg [⟨some 13, none, .mov false (.t 6)⟩] [0, 1, 13]) <|
    .cond (.t 13)
      (.seq (.reg [⟨some 4, none, .mov false (.c (.d (.int .i64 1)))⟩] [4]) <|
      .ret)
      (.skip)) <|
    .seq (.seq (.reg [⟨some 14, none, .mov false (.t 0)⟩,
      ⟨some 15, none, .mov false (.t 1)⟩,
      ⟨some 16, none, .bin .i .lss (.t 14) (.t 15)⟩] [0, 1, 16]) <|
    .cond (.t 16)
      (.seq (.reg [⟨some 4, none, .mov false (.c (.d (.int .i64 (-1))))⟩] [4]) <|
      .ret)
      (.skip)) <|
    .seq (.seq (.reg [⟨some 17, none, .mov false (.t 0)⟩,
      ⟨some 18, none, .mov false (.t 1)⟩,
      ⟨some 19, none, .bin .i .gtr (.t 17) (.t 18)⟩] [19]) <|
    .cond (.t 19)
      (.seq (.reg [⟨some 4, none, .mov false (.c (.d (.int .i64 1)))⟩] [4]) <|
      .ret)
      (.skip)) <|
    .seq (.reg [⟨some 4, none, .mov false (.c (.d (.int .i64 0)))⟩] [4]) <|
    .ret
/- cartouche/cartoucheref3.Signed -/
def n_ref3_Signed : Nat := 56
def f_ref3_Signed : SFunc where
  np := 1
  res := [.slot 2]
  body := .seq (.reg [⟨some 2, none, .mov false (.c (.d (.bool false)))⟩] [0]) <|
    .seq (.reg [⟨some 3, none, .mov false (.t 0)⟩,
      ⟨some 4, none, .bin .i .eql (.t 3) (.c (.d (.int .i64 2)))⟩,
      ⟨some 5, none, .mov false (.t 4)⟩,
      ⟨some 6, some (5, false), .mov false (.t 0)⟩,
      ⟨some 7, some (5, false), .bin .i .eql (.t 6) (.c (.d (.int .i64 3)))⟩,
      ⟨some 8, none, .pick (.t 5) (.c (.d (.bool true))) (.t 7)⟩,
      ⟨some 9, none, .mov false (.t 8)⟩,
      ⟨some 10, some (9, false), .mov false (.t 0)⟩,
      ⟨some 11, some (9, false), .bin .i .eql (.t 10) (.c (.d (.int .i64 6)))⟩,
      ⟨some 12, none, .pick (.t 9) (.c (.d (.bool true))) (.t 11)⟩,
      ⟨some 13, none, .mov false (.t 12)⟩,
      ⟨some 14, some (13, false), .mov false (.t 0)⟩,
      ⟨some 15, some (13, false), .bin .i .eql (.t 14) (.c (.d (.int .i64 7)))⟩,
      ⟨some 16, none, .pick (.t 13) (.c (.d (.bool true))) (.t 15)⟩,
      ⟨some 17, none, .mov false (.t 16)⟩,
      ⟨some 18, some (17, false), .mov false (.t 0)⟩,
      ⟨some 19, some (17, false), .bin .i .eql (.t 18) (.c (.d (.int .i64 10)))⟩,
      ⟨some 20, none, .pick (.t 17) (.c (.d (.bool true))) (.t 19)⟩,
      ⟨some 21, none, .mov false (.t 20)⟩,
      ⟨some 22, some (21, false), .mov false (.t 0)⟩,
      ⟨some 23, some (21, false), .bin .i .eql (.t 22) (.c (.d (.int .i64 11)))⟩,
      ⟨some 24, none, .pick (.t 21) (.c (.d (.bool true))) (.t 23)⟩,
      ⟨some 25, none, .mov false (.t 24)⟩,
      ⟨some 26, some (25, false), .mov false (.t 0)⟩,
      ⟨some 27, some (25, false), .bin .i .eql (.t 26) (.c (.d (.int .i64 16)))⟩,
      ⟨some 28, none, .pick (.t 25) (.c (.d (.bool true))) (.t 27)⟩,
      ⟨some 2, none, .mov false (.t 28)⟩] [2]) <|
    .ret
/- cartouche/scalar.holds -/
def n_scalar_holds : Nat := 58
def f_scalar_holds : SFunc where
  np := 2
  res := [.slot 4]
  body := .seq (.reg [⟨some 4, none, .mov false (.c (.d (.bool false)))⟩] [0, 1]) <|
    .seq (.seq (.reg [⟨some 5, none, .mov false (.t 0)⟩] [1, 5]) <|
    .block 0 <| .seq (.reg [⟨some 7, none, .bin .i .eql (.t 5) (.c (.d (.int .i64 1)))⟩,
      ⟨some 6, none, .mov false (.t 7)⟩] [1, 5, 6]) <|
    .cond (.t 6)
      (.seq (.reg [⟨some 8, none, .mov false (.t 1)⟩,
        ⟨some 9, none, .bin .i .leq (.t 8) (.c (.d (.int .u64 1)))⟩,
        ⟨some 4, none, .mov false (.t 9)⟩] [4]) <|
      .ret)
      (.seq (.seq (.reg [⟨some 11, none, .bin .i .eql (.t 5) (.c (.d (.int .i64 2)))⟩,
        ⟨some 10, none, .mov false (.t 11)⟩] [1, 5, 10]) <|
      .cond (.t 10)
        (.skip)
        (.seq (.reg [⟨some 12, none, .bin .i .eql (.t 5) (.c (.d (.int .i64 6)))⟩,
          ⟨some 10, none, .mov false (.t 12)⟩] [1, 5, 10]) <|
        .cond (.t 10)
          (.skip)
          (.reg [⟨some 13, none, .bin .i .eql (.t 5) (.c (.d (.int .i64 10)))⟩,
            ⟨some 10, none, .mov false (.t 13)⟩] [1, 5, 10]))) <|
      .cond (.t 10)
        (.seq (.reg [⟨some 14, none, .mov false (.t 1)⟩,
          ⟨some 15, none, .cint .i64 (.t 14)⟩,
          ⟨some 16, none, .mov false (.t 1)⟩,
          ⟨some 17, none, .cint .i32 (.t 16)⟩,
          ⟨some 18, none, .cint .i64 (.t 17)⟩,
          ⟨some 19, none, .bin .i .eql (.t 15) (.t 18)⟩,
          ⟨some 4, none, .mov false (.t 19)⟩] [4]) <|
        .ret)
        (.seq (.reg [⟨some 21, none, .bin .i .eql (.t 5) (.c (.d (.int .i64 16)))⟩,
          ⟨some 20, none, .mov false (.t 21)⟩] [1, 5, 20]) <|
        .cond (.t 20)
          (.seq (.reg [⟨some 22, none, .mov false (.t 1)⟩,
            ⟨some 23, none, .bin .i .leq (.t 22) (.c (.d (.int .u64 2147483647)))⟩,
            ⟨some 4, none, .mov false (.t 23)⟩] [4]) <|
          .ret)
          (.seq (.seq (.reg [⟨some 25, none, .bin .i .eql (.t 5) (.c (.d (.int .i64 4)))⟩,
            ⟨some 24, none, .mov false (.t 25)⟩] [1, 5, 24]) <|
          .cond (.t 24)
            (.skip)
            (.seq (.reg [⟨some 26, none, .bin .i .eql (.t 5) (.c (.d (.int .i64 8)))⟩,
              ⟨some 24, none, .mov false (.t 26)⟩] [1, 5, 24]) <|
            .cond (.t 24)
              (.skip)
              (.reg [⟨some 27, none, .bin .i .eql (.t 5) (.c (.d (.int .i64 12)))⟩,
                ⟨some 24, none, .mov false (.t 27)⟩] [1, 24]))) <|
          .cond (.t 24)
            (.seq (.reg [⟨some 28, none, .mov false (.t 1)⟩,
              ⟨some 29, none, .bin .i .leq (.t 28) (.c (.d (.int .u64 4294967295)))⟩,
              ⟨some 4, none, .mov false (.t 29)⟩] [4]) <|
            .ret)
            (.skip))))) <|
    .seq (.reg [⟨some 4, none, .mov false (.c (.d (.bool true)))⟩] [4]) <|
    .ret
/- cartouche/quote.Valid -/
def n_quote_Valid : Nat := 59
def f_quote_Valid : SFunc where
  np := 1
  res := [.slot 2]
  body := .seq (.reg [⟨some 2, none, .mov false (.c (.d (.bool false)))⟩] [0]) <|
    .seq (.reg [⟨some 3, none, .mov true (.t 0)⟩,
      ⟨some 4, none, .call 72 [(false, .t 3)]⟩,
      ⟨some 2, none, .mov false (.t 4)⟩] [2]) <|
    .ret
/- cartouche/wire.varint -/
def l_wire_varint_1 : SC :=
  .seq (.seq (.reg [⟨some 5, none, .mov false (.t 1)⟩,
      ⟨some 6, none, .bin .i .geq (.t 5) (.c (.d (.int .u64 128)))⟩] [0, 1, 6]) <|
    .cond (.t 6)
      (.skip)
      (.exit 0)) <|
    .block 1 <| .seq (.reg [⟨some 7, none, .mov true (.t 0)⟩,
      ⟨some 8, none, .mov false (.t 1)⟩,
      ⟨some 9, none, .cint .u8 (.t 8)⟩,
      ⟨some 10, none, .bin .i .or (.t 9) (.c (.d (.int .u8 128)))⟩,
      ⟨some 11, none, .mk 1 [.t 10]⟩,
      ⟨some 12, none, .app false 1 1 (.t 7) (.t 11)⟩,
      ⟨some 0, none, .mov true (.t 12)⟩] [0, 1]) <|
    .reg [⟨some 13, none, .mov false (.t 1)⟩,
      ⟨some 14, none, .bin .i .shr (.t 13) (.c (.d (.int .u64 7)))⟩,
      ⟨some 1, none, .mov false (.t 14)⟩] [0, 1]
def n_wire_varint : Nat := 60
def f_wire_varint : SFunc where
  np := 2
  res := [.slot 4]
  body := .seq (.reg [⟨some 4, none, .mov true (.c (.own 1 []))⟩] [0, 1]) <|
    .seq (.block 0 <| .loop l_wire_varint_1) <|
    .seq (.reg [⟨some 15, none, .mov true (.t 0)⟩,
      ⟨some 16, none, .mov false (.t 1)⟩,
      ⟨some 17, none, .cint .u8 (.t 16)⟩,
      ⟨some 18, none, .mk 1 [.t 17]⟩,
      ⟨some 19, none, .app false 1 1 (.t 15) (.t 18)⟩,
      ⟨some 4, none, .mov true (.t 19)⟩] [4]) <|
    .ret
/- cartouche/wire.Size -/
def n_wire_Size : Nat := 61
def f_wire_Size : SFunc where
  np := 1
  res := [.slot 2]
  body := .seq (.reg [⟨some 2, none, .mov false (.c (.d (.int .i64 0)))⟩] [0]) <|
    .seq (.reg [⟨some 3, none, .mov false (.t 0)⟩,
      ⟨some 4, none, .call 73 [(false, .t 3)]⟩,
      ⟨some 5, none, .max2 (.c (.d (.int .i64 1))) (.t 4)⟩,
      ⟨some 6, none, .bin .i .add (.t 5) (.c (.d (.int .i64 7)))⟩,
      ⟨some 7, none, .bin .i .sub (.t 6) (.c (.d (.int .i64 1)))⟩,
      ⟨some 8, none, .bin .i .quo (.t 7) (.c (.d (.int .i64 7)))⟩,
      ⟨some 2, none, .mov false (.t 8)⟩] [2]) <|
    .ret
/- cartouche/wire.word -/
def l_wire_word_1 : SC :=
  .seq (.reg [⟨some 11, none, .bin .i .lss (.t 10) (.t 9)⟩] [0, 5, 9, 10, 11]) <|
    .seq (.cond (.t 11)
      (.skip)
      (.exit 0)) <|
    .seq (.block 1 <| .seq (.reg [⟨some 12, none, .mov false (.t 10)⟩,
      ⟨some 6, none, .mov false (.t 12)⟩] [0, 5, 6, 9, 10]) <|
    .reg [⟨some 13, none, .mov true (.t 5)⟩,
      ⟨some 14, none, .mov false (.t 0)⟩,
      ⟨some 15, none, .mov false (.t 6)⟩,
      ⟨some 16, none, .bin .i .mul (.c (.d (.int .i64 8))) (.t 15)⟩,
      ⟨some 17, none, .bin .i .shr (.t 14) (.t 16)⟩,
      ⟨some 18, none, .cint .u8 (.t 17)⟩,
      ⟨some 19, none, .mk 1 [.t 18]⟩,
      ⟨some 20, none, .app false 1 1 (.t 13) (.t 19)⟩,
      ⟨some 5, none, .mov true (.t 20)⟩] [0, 5, 9, 10]) <|
    .reg [⟨some 21, none, .bin .i .add (.t 10) (.c (.d (.int .i64 1)))⟩,
      ⟨some 10, none, .mov false (.t 21)⟩] [0, 5, 9, 10]
def n_wire_word : Nat := 62
def f_wire_word : SFunc where
  np := 2
  res := [.slot 4]
  body := .seq (.reg [⟨some 4, none, .mov true (.c (.own 1 []))⟩] [0, 1]) <|
    .seq (.reg [⟨some 7, none, .mov false (.t 1)⟩,
      ⟨some 8, none, .make (.int .u8 0) 1 (.c (.d (.int .i64 0))) (.t 7)⟩,
      ⟨some 5, none, .mov true (.t 8)⟩] [0, 1, 5]) <|
    .seq (.seq (.reg [⟨some 9, none, .mov false (.t 1)⟩,
      ⟨some 10, none, .mov false (.c (.d (.int .i64 0)))⟩] [0, 5, 9, 10]) <|
    .block 0 <| .loop l_wire_word_1) <|
    .seq (.reg [⟨some 22, none, .mov true (.t 5)⟩,
      ⟨some 4, none, .mov true (.t 22)⟩] [4]) <|
    .ret
/- cartouche/wire.Span -/
def n_wire_Span : Nat := 63
def f_wire_Span : SFunc where
  np := 2
  res := [.slot 4, .slot 5, .slot 6]
  body := .seq (.reg [⟨some 4, none, .mov false (.c (.d (.int .i64 0)))⟩,
      ⟨some 5, none, .mov false (.c (.d (.int .i64 0)))⟩,
      ⟨some 6, none, .mov false (.c (.d (.int .i64 0)))⟩] [0, 1]) <|
    .seq (.reg [⟨some 9, none, .mov false (.t 0)⟩,
      ⟨some 10, none, .mov false (.t 1)⟩,
      ⟨some 11, none, .call 39 [(false, .t 9), (false, .t 10)]⟩,
      ⟨some 8, none, .mov false (.t 11)⟩,
      ⟨some 12, none, .ext (.t 8) 0⟩,
      ⟨some 13, none, .ext (.t 8) 1⟩,
      ⟨some 14, none, .ext (.t 8) 2⟩,
      ⟨some 7, none, .mov false (.t 12)⟩,
      ⟨some 4, none, .mov false (.t 13)⟩,
      ⟨some 6, none, .mov false (.t 14)⟩] [0, 4, 6, 7]) <|
    .seq (.block 0 <| .seq (.reg [⟨some 16, none, .mov false (.t 6)⟩,
      ⟨some 17, none, .bin .i .neq (.t 16) (.c (.d (.int .i64 0)))⟩,
      ⟨some 15, none, .mov false (.t 17)⟩] [0, 4, 6, 7, 15]) <|
    .cond (.t 15)
      (.seq (.reg [⟨some 18, none, .mov false (.t 6)⟩,
        ⟨some 4, none, .mov false (.c (.d (.int .i64 0)))⟩,
        ⟨some 5, none, .mov false (.c (.d (.int .i64 0)))⟩,
        ⟨some 6, none, .mov false (.t 18)⟩] [4, 5, 6]) <|
      .ret)
      (.seq (.reg [⟨some 20, none, .mov false (.t 7)⟩,
        ⟨some 21, none, .mov true (.t 0)⟩,
        ⟨some 22, none, .len false (.t 21)⟩,
        ⟨some 23, none, .mov false (.t 4)⟩,
        ⟨some 24, none, .bin .i .sub (.t 22) (.t 23)⟩,
        ⟨some 25, none, .cint .u64 (.t 24)⟩,
        ⟨some 26, none, .bin .i .gtr (.t 20) (.t 25)⟩,
        ⟨some 19, none, .mov false (.t 26)⟩] [4, 7, 19]) <|
      .cond (.t 19)
        (.seq (.reg [⟨some 4, none, .mov false (.c (.d (.int .i64 0)))⟩,
          ⟨some 5, none, .mov false (.c (.d (.int .i64 0)))⟩,
          ⟨some 6, none, .mov false (.c (.d (.int .i64 3)))⟩] [4, 5, 6]) <|
        .ret)
        (.skip))) <|
    .seq (.reg [⟨some 27, none, .mov false (.t 4)⟩,
      ⟨some 28, none, .mov false (.t 4)⟩,
      ⟨some 29, none, .mov false (.t 7)⟩,
      ⟨some 30, none, .cint .i64 (.t 29)⟩,
      ⟨some 31, none, .bin .i .add (.t 28) (.t 30)⟩,
      ⟨some 4, none, .mov false (.t 27)⟩,
      ⟨some 5, none, .mov false (.t 31)⟩,
      ⟨some 6, none, .mov false (.c (.d (.int .i64 0)))⟩] [4, 5, 6]) <|
    .ret
/- cartouche/wire.read -/
def l_wire_read_1 : SC :=
  .seq (.reg [⟨some 24, none, .bin .i .lss (.t 23) (.t 22)⟩] [0, 1, 2, 6, 22, 23, 24]) <|
    .seq (.cond (.t 24)
      (.skip)
      (.exit 1)) <|
    .seq (.block 2 <| .seq (.reg [⟨some 25, none, .mov false (.t 23)⟩,
      ⟨some 9, none, .mov false (.t 25)⟩] [0, 1, 2, 6, 9, 22, 23]) <|
    .reg [⟨some 26, none, .mov false (.t 6)⟩,
      ⟨some 27, none, .mov false (.t 0)⟩,
      ⟨some 28, none, .mov false (.t 1)⟩,
      ⟨some 29, none, .mov false (.t 9)⟩,
      ⟨some 30, none, .bin .i .add (.t 28) (.t 29)⟩,
      ⟨some 31, none, .iaddr 1 (.t 27) (.t 30)⟩,
      ⟨some 32, none, .load none (.t 31)⟩,
      ⟨some 33, none, .cint .u64 (.t 32)⟩,
      ⟨some 34, none, .mov false (.t 9)⟩,
      ⟨some 35, none, .bin .i .mul (.c (.d (.int .i64 8))) (.t 34)⟩,
      ⟨some 36, none, .bin .i .shl (.t 33) (.t 35)⟩,
      ⟨some 37, none, .bin .i .or (.t 26) (.t 36)⟩,
      ⟨some 6, none, .mov false (.t 37)⟩] [0, 1, 2, 6, 22, 23]) <|
    .reg [⟨some 38, none, .bin .i .add (.t 23) (.c (.d (.int .i64 1)))⟩,
      ⟨some 23, none, .mov false (.t 38)⟩] [0, 1, 2, 6, 22, 23]
def n_wire_read : Nat := 64
def f_wire_read : SFunc where
  np := 3
  res := [.slot 6, .slot 7, .slot 8]
  body := .seq (.reg [⟨some 6, none, .mov false (.c (.d (.int .u64 0)))⟩,
      ⟨some 7, none, .mov false (.c (.d (.int .i64 0)))⟩,
      ⟨some 8, none, .mov false (.c (.d (.int .i64 0)))⟩] [0, 1, 2, 6]) <|
    .seq (.block 0 <| .seq (.reg [⟨some 11, none, .mov false (.t 0)⟩,
      ⟨some 12, none, .mov false (.t 1)⟩,
      ⟨some 13, none, .call 65 [(false, .t 11), (false, .t 12)]⟩,
      ⟨some 14, none, .not (.t 13)⟩,
      ⟨some 10, none, .mov false (.t 14)⟩] [0, 1, 2, 6, 10]) <|
    .cond (.t 10)
      (.seq (.reg [⟨some 6, none, .mov false (.c (.d (.int .u64 0)))⟩,
        ⟨some 7, none, .mov false (.c (.d (.int .i64 0)))⟩,
        ⟨some 8, none, .mov false (.c (.d (.int .i64 18)))⟩] [6, 7, 8]) <|
      .ret)
      (.seq (.reg [⟨some 16, none, .mov false (.t 0)⟩,
        ⟨some 17, none, .len false (.t 16)⟩,
        ⟨some 18, none, .mov false (.t 1)⟩,
        ⟨some 19, none, .bin .i .sub (.t 17) (.t 18)⟩,
        ⟨some 20, none, .mov false (.t 2)⟩,
        ⟨some 21, none, .bin .i .lss (.t 19) (.t 20)⟩,
        ⟨some 15, none, .mov false (.t 21)⟩] [0, 1, 2, 6, 15]) <|
      .cond (.t 15)
        (.seq (.reg [⟨some 6, none, .mov false (.c (.d (.int .u64 0)))⟩,
          ⟨some 7, none, .mov false (.c (.d (.int .i64 0)))⟩,
          ⟨some 8, none, .mov false (.c (.d (.int .i64 3)))⟩] [6, 7, 8]) <|
        .ret)
        (.skip))) <|
    .seq (.seq (.reg [⟨some 22, none, .mov false (.t 2)⟩,
      ⟨some 23, none, .mov false (.c (.d (.int .i64 0)))⟩] [0, 1, 2, 6, 22, 23]) <|
    .block 1 <| .loop l_wire_read_1) <|
    .seq (.reg [⟨some 39, none, .mov false (.t 6)⟩,
      ⟨some 40, none, .mov false (.t 1)⟩,
      ⟨some 41, none, .mov false (.t 2)⟩,
      ⟨some 42, none, .bin .i .add (.t 40) (.t 41)⟩,
      ⟨some 6, none, .mov false (.t 39)⟩,
      ⟨some 7, none, .mov false (.t 42)⟩,
      ⟨some 8, none, .mov false (.c (.d (.int .i64 0)))⟩] [6, 7, 8]) <|
    .ret
/- cartouche/wire.place -/
def n_wire_place : Nat := 65
def f_wire_place : SFunc where
  np := 2
  res := [.slot 4]
  body := .seq (.reg [⟨some 4, none, .mov false (.c (.d (.bool false)))⟩] [0, 1]) <|
    .seq (.reg [⟨some 5, none, .mov false (.t 1)⟩,
      ⟨some 6, none, .bin .i .geq (.t 5) (.c (.d (.int .i64 0)))⟩,
      ⟨some 7, none, .mov false (.t 6)⟩,
      ⟨some 8, some (7, true), .mov false (.t 1)⟩,
      ⟨some 9, some (7, true), .mov true (.t 0)⟩,
      ⟨some 10, some (7, true), .len false (.t 9)⟩,
      ⟨some 11, some (7, true), .bin .i .leq (.t 8) (.t 10)⟩,
      ⟨some 12, none, .pick (.t 7) (.t 11) (.c (.d (.bool false)))⟩,
      ⟨some 4, none, .mov false (.t 12)⟩] [4]) <|
    .ret
/- cartouche/cartoucheref2.Runes -/
def l_ref2_Runes_6 : SC :=
  .seq (.seq (.reg [⟨some 55, none, .mov false (.t 9)⟩,
      ⟨some 56, none, .mov false (.t 6)⟩,
      ⟨some 57, none, .bin .i .lss (.t 55) (.t 56)⟩] [0, 3, 4, 6, 7, 8, 9, 57]) <|
    .cond (.t 57)
      (.skip)
      (.exit 2)) <|
    .seq (.block 3 <| .seq (.reg [⟨some 60, none, .mov false (.t 0)⟩,
      ⟨some 61, none, .mov false (.t 4)⟩,
      ⟨some 62, none, .mov false (.t 9)⟩,
      ⟨some 63, none, .bin .i .add (.t 61) (.t 62)⟩,
      ⟨some 64, none, .iaddr 1 (.t 60) (.t 63)⟩,
      ⟨some 65, none, .load none (.t 64)⟩,
      ⟨some 66, none, .cint .i64 (.t 65)⟩,
      ⟨some 10, none, .mov false (.t 66)⟩] [0, 3, 4, 6, 7, 8, 9, 10]) <|
    .seq (.seq (.reg [⟨some 67, none, .mov false (.t 10)⟩,
      ⟨some 68, none, .bin .i .lss (.t 67) (.c (.d (.int .i64 128)))⟩,
      ⟨some 69, none, .mov false (.t 68)⟩,
      ⟨some 70, some (69, false), .mov false (.t 10)⟩,
      ⟨some 71, some (69, false), .bin .i .geq (.t 70) (.c (.d (.int .i64 192)))⟩,
      ⟨some 72, none, .pick (.t 69) (.c (.d (.bool true))) (.t 71)⟩] [0, 3, 4, 6, 7, 8, 9, 10, 72]) <|
    .cond (.t 72)
      (.seq (.reg [⟨some 2, none, .mov false (.c (.d (.int .i64 (-1))))⟩] [2]) <|
      .ret)
      (.skip)) <|
    .reg [⟨some 73, none, .mov false (.t 7)⟩,
      ⟨some 74, none, .bin .i .mul (.t 73) (.c (.d (.int .i64 64)))⟩,
      ⟨some 75, none, .mov false (.t 10)⟩,
      ⟨some 76, none, .bin .i .add (.t 74) (.t 75)⟩,
      ⟨some 77, none, .bin .i .sub (.t 76) (.c (.d (.int .i64 128)))⟩,
      ⟨some 7, none, .mov false (.t 77)⟩] [0, 3, 4, 6, 7, 8, 9]) <|
    .reg [⟨some 58, none, .mov false (.t 9)⟩,
      ⟨some 59, none, .bin .i .add (.t 58) (.c (.d (.int .i64 1)))⟩,
      ⟨some 9, none, .mov false (.t 59)⟩] [0, 3, 4, 6, 7, 8, 9]
def l_ref2_Runes_1 : SC :=
  .seq (.seq (.reg [⟨some 11, none, .mov false (.t 4)⟩,
      ⟨some 12, none, .mov false (.t 0)⟩,
      ⟨some 13, none, .len false (.t 12)⟩,
      ⟨some 14, none, .bin .i .lss (.t 11) (.t 13)⟩] [0, 3, 4, 14]) <|
    .cond (.t 14)
      (.skip)
      (.exit 0)) <|
    .seq (.block 1 <| .seq (.reg [⟨some 17, none, .mov false (.t 0)⟩,
      ⟨some 18, none, .mov false (.t 4)⟩,
      ⟨some 19, none, .iaddr 1 (.t 17) (.t 18)⟩,
      ⟨some 20, none, .load none (.t 19)⟩,
      ⟨some 21, none, .cint .i64 (.t 20)⟩,
      ⟨some 5, none, .mov false (.t 21)⟩] [0, 3, 4, 5]) <|
    .seq (.reg [⟨some 6, none, .mov false (.c (.d (.int .i64 1)))⟩] [0, 3, 4, 5, 6]) <|
    .seq (.reg [⟨some 22, none, .mov false (.t 5)⟩,
      ⟨some 7, none, .mov false (.t 22)⟩] [0, 3, 4, 5, 6, 7]) <|
    .seq (.reg [⟨some 8, none, .mov false (.c (.d (.int .i64 0)))⟩] [0, 3, 4, 5, 6, 7, 8]) <|
    .seq (.seq (.reg [⟨some 23, none, .mov false (.t 5)⟩,
      ⟨some 24, none, .bin .i .geq (.t 23) (.c (.d (.int .i64 128)))⟩] [0, 3, 4, 5, 6, 7, 8, 24]) <|
    .cond (.t 24)
      (.seq (.reg [⟨some 25, none, .mov false (.t 5)⟩,
        ⟨some 26, none, .bin .i .geq (.t 25) (.c (.d (.int .i64 192)))⟩,
        ⟨some 27, none, .mov false (.t 26)⟩,
        ⟨some 28, some (27, true), .mov false (.t 5)⟩,
        ⟨some 29, some (27, true), .bin .i .lss (.t 28) (.c (.d (.int .i64 224)))⟩,
        ⟨some 30, none, .pick (.t 27) (.t 29) (.c (.d (.bool false)))⟩] [0, 3, 4, 5, 30]) <|
      .cond (.t 30)
        (.reg [⟨some 31, none, .mov false (.t 5)⟩,
          ⟨some 32, none, .bin .i .sub (.t 31) (.c (.d (.int .i64 192)))⟩,
          ⟨some 6, none, .mov false (.c (.d (.int .i64 2)))⟩,
          ⟨some 7, none, .mov false (.t 32)⟩,
          ⟨some 8, none, .mov false (.c (.d (.int .i64 128)))⟩] [0, 3, 4, 6, 7, 8])
        (.seq (.reg [⟨some 33, none, .mov false (.t 5)⟩,
          ⟨some 34, none, .bin .i .geq (.t 33) (.c (.d (.int .i64 224)))⟩,
          ⟨some 35, none, .mov false (.t 34)⟩,
          ⟨some 36, some (35, true), .mov false (.t 5)⟩,
          ⟨some 37, some (35, true), .bin .i .lss (.t 36) (.c (.d (.int .i64 240)))⟩,
          ⟨some 38, none, .pick (.t 35) (.t 37) (.c (.d (.bool false)))⟩] [0, 3, 4, 5, 38]) <|
        .cond (.t 38)
          (.reg [⟨some 39, none, .mov false (.t 5)⟩,
            ⟨some 40, none, .bin .i .sub (.t 39) (.c (.d (.int .i64 224)))⟩,
            ⟨some 6, none, .mov false (.c (.d (.int .i64 3)))⟩,
            ⟨some 7, none, .mov false (.t 40)⟩,
            ⟨some 8, none, .mov false (.c (.d (.int .i64 2048)))⟩] [0, 3, 4, 6, 7, 8])
          (.seq (.reg [⟨some 41, none, .mov false (.t 5)⟩,
            ⟨some 42, none, .bin .i .geq (.t 41) (.c (.d (.int .i64 240)))⟩,
            ⟨some 43, none, .mov false (.t 42)⟩,
            ⟨some 44, some (43, true), .mov false (.t 5)⟩,
            ⟨some 45, some (43, true), .bin .i .lss (.t 44) (.c (.d (.int .i64 248)))⟩,
            ⟨some 46, none, .pick (.t 43) (.t 45) (.c (.d (.bool false)))⟩] [0, 3, 4, 5, 46]) <|
          .cond (.t 46)
            (.reg [⟨some 47, none, .mov false (.t 5)⟩,
              ⟨some 48, none, .bin .i .sub (.t 47) (.c (.d (.int .i64 240)))⟩,
              ⟨some 6, none, .mov false (.c (.d (.int .i64 4)))⟩,
              ⟨some 7, none, .mov false (.t 48)⟩,
              ⟨some 8, none, .mov false (.c (.d (.int .i64 65536)))⟩] [0, 3, 4, 6, 7, 8])
            (.seq (.reg [⟨some 2, none, .mov false (.c (.d (.int .i64 (-1))))⟩] [2]) <|
            .ret))))
      (.skip)) <|
    .seq (.seq (.reg [⟨some 49, none, .mov false (.t 4)⟩,
      ⟨some 50, none, .mov false (.t 6)⟩,
      ⟨some 51, none, .bin .i .add (.t 49) (.t 50)⟩,
      ⟨some 52, none, .mov false (.t 0)⟩,
      ⟨some 53, none, .len false (.t 52)⟩,
      ⟨some 54, none, .bin .i .gtr (.t 51) (.t 53)⟩] [0, 3, 4, 6, 7, 8, 54]) <|
    .cond (.t 54)
      (.seq (.reg [⟨some 2, none, .mov false (.c (.d (.int .i64 (-1))))⟩] [2]) <|
      .ret)
      (.skip)) <|
    .seq (.seq (.reg [⟨some 9, none, .mov false (.c (.d (.int .i64 1)))⟩] [0, 3, 4, 6, 7, 8, 9]) <|
    .block 2 <| .loop l_ref2_Runes_6) <|
    .seq (.seq (.reg [⟨some 78, none, .mov false (.t 7)⟩,
      ⟨some 79, none, .mov false (.t 8)⟩,
      ⟨some 80, none, .bin .i .lss (.t 78) (.t 79)⟩,
      ⟨some 81, none, .mov false (.t 80)⟩,
      ⟨some 82, some (81, false), .mov false (.t 7)⟩,
      ⟨some 83, some (81, false), .bin .i .gtr (.t 82) (.c (.d (.int .i64 1114111)))⟩,
      ⟨some 84, none, .pick (.t 81) (.c (.d (.bool true))) (.t 83)⟩,
      ⟨some 85, none, .mov false (.t 84)⟩,
      ⟨some 86, some (85, false), .mov false (.t 7)⟩,
      ⟨some 87, some (85, false), .bin .i .geq (.t 86) (.c (.d (.int .i64 55296)))⟩,
      ⟨some 88, some (85, false), .mov false (.t 87)⟩,
      ⟨some 89, some (88, true), .mov false (.t 7)⟩,
      ⟨some 90, some (88, true), .bin .i .leq (.t 89) (.c (.d (.int .i64 57343)))⟩,
      ⟨some 91, some (85, false), .pick (.t 88) (.t 90) (.c (.d (.bool false)))⟩,
      ⟨some 92, none, .pick (.t 85) (.c (.d (.bool true))) (.t 91)⟩] [0, 3, 4, 6, 92]) <|
    .cond (.t 92)
      (.seq (.reg [⟨some 2, none, .mov false (.c (.d (.int .i64 (-1))))⟩] [2]) <|
      .ret)
      (.skip)) <|
    .reg [⟨some 93, none, .mov false (.t 4)⟩,
      ⟨some 94, none, .mov false (.t 6)⟩,
      ⟨some 95, none, .bin .i .add (.t 93) (.t 94)⟩,
      ⟨some 4, none, .mov false (.t 95)⟩] [0, 3, 4]) <|
    .reg [⟨some 15, none, .mov false (.t 3)⟩,
      ⟨some 16, none, .bin .i .add (.t 15) (.c (.d (.int .i64 1)))⟩,
      ⟨some 3, none, .mov false (.t 16)⟩] [0, 3, 4]
def n_ref2_Runes : Nat := 66
def f_ref2_Runes : SFunc where
  np := 1
  res := [.slot 2]
  body := .seq (.reg [⟨some 2, none, .mov false (.c (.d (.int .i64 0)))⟩] [0]) <|
    .seq (.reg [⟨some 3, none, .mov false (.c (.d (.int .i64 0)))⟩] [0, 3]) <|
    .seq (.seq (.reg [⟨some 4, none, .mov false (.c (.d (.int .i64 0)))⟩] [0, 3, 4]) <|
    .block 0 <| .loop l_ref2_Runes_1) <|
    .seq (.reg [⟨some 96, none, .mov false (.t 3)⟩,
      ⟨some 2, none, .mov false (.t 96)⟩] [2]) <|
    .ret
/- cmp.isNaN[int64] -/
def n_cmp_isNaN_int64_ : Nat := 68
def f_cmp_isNaN_int64_ : SFunc where
  np := 1
  res := [.slot 2]
  body := .seq (.reg [⟨some 2, none, .mov false (.c (.d (.bool false)))⟩] [0]) <|
    .seq (.reg [⟨some 3, none, .mov false (.t 0)⟩,
      ⟨some 4, none, .mov false (.t 0)⟩,
      ⟨some 5, none, .bin .i .neq (.t 3) (.t 4)⟩,
      ⟨some 2, none, .mov false (.t 5)⟩] [2]) <|
    .ret
/- cmp.isNaN[uint64] -/
def n_cmp_isNaN_uint64_ : Nat := 69
def f_cmp_isNaN_uint64_ : SFunc where
  np := 1
  res := [.slot 2]
  body := .seq (.reg [⟨some 2, none, .mov false (.c (.d (.bool false)))⟩] [0]) <|
    .seq (.reg [⟨some 3, none, .mov false (.t 0)⟩,
      ⟨some 4, none, .mov false (.t 0)⟩,
      ⟨some 5, none, .bin .i .neq (.t 3) (.t 4)⟩,
      ⟨some 2, none, .mov false (.t 5)⟩] [2]) <|
    .ret
/- unicode/utf8.Valid -/
def l_unicode_utf8_Valid_19 : SC :=
  .seq (.seq (.reg [⟨some 49, none, .mov false (.t 0)⟩,
      ⟨some 50, none, .len false (.t 49)⟩,
      ⟨some 51, none, .bin .i .gtr (.t 50) (.c (.d (.int .i64 32)))⟩,
      ⟨some 52, none, .mov false (.t 51)⟩,
      ⟨some 53, some (52, true), .mov false (.t 0)⟩,
      ⟨some 54, some (52, true), .call 75 [(false, .t 53)]⟩,
      ⟨some 55, some (52, true), .mov false (.t 0)⟩,
      ⟨some 56, some (52, true), .slc 1 (.t 55) (some (.c (.d (.int .i64 8)))) none none⟩,
      ⟨some 57, some (52, true), .call 75 [(false, .t 56)]⟩,
      ⟨some 58, some (52, true), .bin .i .or (.t 54) (.t 57)⟩,
      ⟨some 59, some (52, true), .mov false (.t 0)⟩,
      ⟨some 60, some (52, true), .slc 1 (.t 59) (some (.c (.d (.int .i64 16)))) none none⟩,
      ⟨some 61, some (52, true), .call 75 [(false, .t 60)]⟩,
      ⟨some 62, some (52, true), .mov false (.t 0)⟩,
      ⟨some 63, some (52, true), .slc 1 (.t 62) (some (.c (.d (.int .i64 24)))) none none⟩,
      ⟨some 64, some (52, true), .call 75 [(false, .t 63)]⟩,
      ⟨some 65, some (52, true), .bin .i .or (.t 61) (.t 64)⟩,
      ⟨some 66, some (52, true), .bin .i .or (.t 58) (.t 65)⟩,
      ⟨some 67, some (52, true), .bin .i .and (.t 66) (.c (.d (.int .u64 9259542123273814144)))⟩,
      ⟨some 68, some (52, true), .bin .i .eql (.t 67) (.c (.d (.int .u64 0)))⟩,
      ⟨some 69, none, .pick (.t 52) (.t 68) (.c (.d (.bool false)))⟩] [0, 69]) <|
    .cond (.t 69)
      (.skip)
      (.exit 2)) <|
    .block 3 <| .reg [⟨some 70, none, .mov true (.t 0)⟩,
      ⟨some 71, none, .slc 1 (.t 70) (some (.c (.d (.int .i64 32)))) none none⟩,
      ⟨some 0, none, .mov true (.t 71)⟩] [0]
def l_unicode_utf8_Valid_1 : SC :=
  .seq (.seq (.reg [⟨some 13, none, .mov false (.t 0)⟩,
      ⟨some 14, none, .len false (.t 13)⟩,
      ⟨some 15, none, .bin .i .gtr (.t 14) (.c (.d (.int .i64 0)))⟩] [0, 15]) <|
    .cond (.t 15)
      (.skip)
      (.exit 0)) <|
    .block 1 <| .seq (.reg [⟨some 16, none, .mov false (.t 0)⟩,
      ⟨some 17, none, .iaddr 1 (.t 16) (.c (.d (.int .i64 0)))⟩,
      ⟨some 18, none, .load none (.t 17)⟩,
      ⟨some 3, none, .mov false (.t 18)⟩] [0, 3]) <|
    .seq (.seq (.reg [⟨some 19, none, .mov false (.t 3)⟩,
      ⟨some 20, none, .bin .i .lss (.t 19) (.c (.d (.int .u8 128)))⟩] [0, 3, 20]) <|
    .cond (.t 20)
      (.seq (.reg [⟨some 21, none, .mov true (.t 0)⟩,
        ⟨some 22, none, .slc 1 (.t 21) (some (.c (.d (.int .i64 1)))) none none⟩,
        ⟨some 0, none, .mov true (.t 22)⟩] [0]) <|
      .seq (.seq (.reg [⟨some 23, none, .mov false (.t 0)⟩,
        ⟨some 24, none, .len false (.t 23)⟩,
        ⟨some 25, none, .bin .i .gtr (.t 24) (.c (.d (.int .i64 8)))⟩,
        ⟨some 26, none, .mov false (.t 25)⟩,
        ⟨some 27, some (26, true), .mov false (.t 0)⟩,
        ⟨some 28, some (26, true), .call 75 [(false, .t 27)]⟩,
        ⟨some 29, some (26, true), .bin .i .and (.t 28) (.c (.d (.int .u64 9259542123273814144)))⟩,
        ⟨some 30, some (26, true), .bin .i .eql (.t 29) (.c (.d (.int .u64 0)))⟩,
        ⟨some 31, none, .pick (.t 26) (.t 30) (.c (.d (.bool false)))⟩] [0, 31]) <|
      .cond (.t 31)
        (.seq (.reg [⟨some 32, none, .mov true (.t 0)⟩,
          ⟨some 33, none, .slc 1 (.t 32) (some (.c (.d (.int .i64 8)))) none none⟩,
          ⟨some 0, none, .mov true (.t 33)⟩] [0]) <|
        .seq (.reg [⟨some 34, none, .mov false (.t 0)⟩,
          ⟨some 35, none, .len false (.t 34)⟩,
          ⟨some 36, none, .bin .i .gtr (.t 35) (.c (.d (.int .i64 16)))⟩,
          ⟨some 37, none, .mov false (.t 36)⟩,
          ⟨some 38, some (37, true), .mov false (.t 0)⟩,
          ⟨some 39, some (37, true), .call 75 [(false, .t 38)]⟩,
          ⟨some 40, some (37, true), .mov false (.t 0)⟩,
          ⟨some 41, some (37, true), .slc 1 (.t 40) (some (.c (.d (.int .i64 8)))) none none⟩,
          ⟨some 42, some (37, true), .call 75 [(false, .t 41)]⟩,
          ⟨some 43, some (37, true), .bin .i .or (.t 39) (.t 42)⟩,
          ⟨some 44, some (37, true), .bin .i .and (.t 43) (.c (.d (.int .u64 9259542123273814144)))⟩,
          ⟨some 45, some (37, true), .bin .i .eql (.t 44) (.c (.d (.int .u64 0)))⟩,
          ⟨some 46, none, .pick (.t 37) (.t 45) (.c (.d (.bool false)))⟩] [0, 46]) <|
        .cond (.t 46)
          (.seq (.reg [⟨some 47, none, .mov true (.t 0)⟩,
            ⟨some 48, none, .slc 1 (.t 47) (some (.c (.d (.int .i64 16)))) none none⟩,
            ⟨some 0, none, .mov true (.t 48)⟩] [0]) <|
          .block 2 <| .loop l_unicode_utf8_Valid_19)
          (.skip))
        (.skip)) <|
      .exit 1)
      (.skip)) <|
    .seq (.reg [⟨some 72, none, .mov false (.t 3)⟩,
      ⟨some 73, none, .aaddr 256 1 none (.g 3) (.t 72)⟩,
      ⟨some 74, none, .load none (.t 73)⟩,
      ⟨some 4, none, .mov false (.t 74)⟩] [0, 4]) <|
    .seq (.reg [⟨some 75, none, .mov false (.t 4)⟩,
      ⟨some 76, none, .bin .i .and (.t 75) (.c (.d (.int .u8 7)))⟩,
      ⟨some 77, none, .cint .i64 (.t 76)⟩,
      ⟨some 5, none, .mov false (.t 77)⟩] [0, 4, 5]) <|
    .seq (.reg [⟨some 78, none, .mov false (.t 4)⟩,
      ⟨some 79, none, .bin .i .shr (.t 78) (.c (.d (.int .u64 4)))⟩,
      ⟨some 80, none, .aaddr 16 2 (some 2) (.g 4) (.t 79)⟩,
      ⟨some 81, none, .load (some 2) (.t 80)⟩,
      ⟨some 6, none, .zbox [.int .u8 0, .int .u8 0]⟩,
      ⟨none, none, .store 2 (.t 6) (.t 81)⟩] [0, 5, 6]) <|
    .seq (.reg [⟨some 82, none, .mov false (.t 5)⟩] [0, 6, 82]) <|
    .block 4 <| .seq (.reg [⟨some 84, none, .bin .i .eql (.t 82) (.c (.d (.int .i64 2)))⟩,
      ⟨some 83, none, .mov false (.t 84)⟩] [0, 6, 82, 83]) <|
    .cond (.t 83)
      (.seq (.seq (.reg [⟨some 85, none, .mov false (.t 0)⟩,
        ⟨some 86, none, .len false (.t 85)⟩,
        ⟨some 87, none, .bin .i .lss (.t 86) (.c (.d (.int .i64 2)))⟩,
        ⟨some 88, none, .mov false (.t 87)⟩,
        ⟨some 89, some (88, false), .mov false (.t 0)⟩,
        ⟨some 90, some (88, false), .iaddr 1 (.t 89) (.c (.d (.int .i64 1)))⟩,
        ⟨some 91, some (88, false), .load none (.t 90)⟩,
        ⟨some 92, some (88, false), .faddr 0 none (.t 6)⟩,
        ⟨some 93, some (88, false), .load none (.t 92)⟩,
        ⟨some 94, some (88, false), .bin .i .lss (.t 91) (.t 93)⟩,
        ⟨some 95, none, .pick (.t 88) (.c (.d (.bool true))) (.t 94)⟩,
        ⟨some 96, none, .mov false (.t 95)⟩,
        ⟨some 97, some (96, false), .faddr 1 none (.t 6)⟩,
        ⟨some 98, some (96, false), .load none (.t 97)⟩,
        ⟨some 99, some (96, false), .mov false (.t 0)⟩,
        ⟨some 100, some (96, false), .iaddr 1 (.t 99) (.c (.d (.int .i64 1)))⟩,
        ⟨some 101, some (96, false), .load none (.t 100)⟩,
        ⟨some 102, some (96, false), .bin .i .lss (.t 98) (.t 101)⟩,
        ⟨some 103, none, .pick (.t 96) (.c (.d (.bool true))) (.t 102)⟩] [0, 103]) <|
      .cond (.t 103)
        (.seq (.reg [⟨some 2, none, .mov false (.c (.d (.bool false)))⟩] [2]) <|
        .ret)
        (.skip)) <|
      .reg [⟨some 104, none, .mov true (.t 0)⟩,
        ⟨some 105, none, .slc 1 (.t 104) (some (.c (.d (.int .i64 2)))) none none⟩,
        ⟨some 0, none, .mov true (.t 105)⟩] [0])
      (.seq (.reg [⟨some 107, none, .bin .i .eql (.t 82) (.c (.d (.int .i64 3)))⟩,
        ⟨some 106, none, .mov false (.t 107)⟩] [0, 6, 82, 106]) <|
      .cond (.t 106)
        (.seq (.seq (.reg [⟨some 108, none, .mov false (.t 0)⟩,
          ⟨some 109, none, .len false (.t 108)⟩,
          ⟨some 110, none, .bin .i .lss (.t 109) (.c (.d (.int .i64 3)))⟩,
          ⟨some 111, none, .mov false (.t 110)⟩,
          ⟨some 112, some (111, false), .mov false (.t 0)⟩,
          ⟨some 113, some (111, false), .iaddr 1 (.t 112) (.c (.d (.int .i64 1)))⟩,
          ⟨some 114, some (111, false), .load none (.t 113)⟩,
          ⟨some 115, some (111, false), .faddr 0 none (.t 6)⟩,
          ⟨some 116, some (111, false), .load none (.t 115)⟩,
          ⟨some 117, some (111, false), .bin .i .lss (.t 114) (.t 116)⟩,
          ⟨some 118, none, .pick (.t 111) (.c (.d (.bool true))) (.t 117)⟩,
          ⟨some 119, none, .mov false (.t 118)⟩,
          ⟨some 120, some (119, false), .faddr 1 none (.t 6)⟩,
          ⟨some 121, some (119, false), .load none (.t 120)⟩,
          ⟨some 122, some (119, false), .mov false (.t 0)⟩,
          ⟨some 123, some (119, false), .iaddr 1 (.t 122) (.c (.d (.int .i64 1)))⟩,
          ⟨some 124, some (119, false), .load none (.t 123)⟩,
          ⟨some 125, some (119, false), .bin .i .lss (.t 121) (.t 124)⟩,
          ⟨some 126, none, .pick (.t 119) (.c (.d (.bool true))) (.t 125)⟩,
          ⟨some 127, none, .mov false (.t 126)⟩,
          ⟨some 128, some (127, false), .mov false (.t 0)⟩,
          ⟨some 129, some (127, false), .iaddr 1 (.t 128) (.c (.d (.int .i64 2)))⟩,
          ⟨some 130, some (127, false), .load none (.t 129)⟩,
          ⟨some 131, some (127, false), .bin .i .lss (.t 130) (.c (.d (.int .u8 128)))⟩,
          ⟨some 132, none, .pick (.t 127) (.c (.d (.bool true))) (.t 131)⟩,
          ⟨some 133, none, .mov false (.t 132)⟩,
          ⟨some 134, some (133, false), .mov false (.t 0)⟩,
          ⟨some 135, some (133, false), .iaddr 1 (.t 134) (.c (.d (.int .i64 2)))⟩,
          ⟨some 136, some (133, false), .load none (.t 135)⟩,
          ⟨some 137, some (133, false), .bin .i .lss (.c (.d (.int .u8 191))) (.t 136)⟩,
          ⟨some 138, none, .pick (.t 133) (.c (.d (.bool true))) (.t 137)⟩] [0, 138]) <|
        .cond (.t 138)
          (.seq (.reg [⟨some 2, none, .mov false (.c (.d (.bool false)))⟩] [2]) <|
          .ret)
          (.skip)) <|
        .reg [⟨some 139, none, .mov true (.t 0)⟩,
          ⟨some 140, none, .slc 1 (.t 139) (some (.c (.d (.int .i64 3)))) none none⟩,
          ⟨some 0, none, .mov true (.t 140)⟩] [0])
        (.seq (.reg [⟨some 142, none, .bin .i .eql (.t 82) (.c (.d (.int .i64 4)))⟩,
          ⟨some 141, none, .mov false (.t 142)⟩] [0, 6, 141]) <|
        .cond (.t 141)
          (.seq (.seq (.reg [⟨some 143, none, .mov false (.t 0)⟩,
            ⟨some 144, none, .len false (.t 143)⟩,
            ⟨some 145, none, .bin .i .lss (.t 144) (.c (.d (.int .i64 4)))⟩,
            ⟨some 146, none, .mov false (.t 145)⟩,
            ⟨some 147, some (146, false), .mov false (.t 0)⟩,
            ⟨some 148, some (146, false), .iaddr 1 (.t 147) (.c (.d (.int .i64 1)))⟩,
            ⟨some 149, some (146, false), .load none (.t 148)⟩,
            ⟨some 150, some (146, false), .faddr 0 none (.t 6)⟩,
            ⟨some 151, some (146, false), .load none (.t 150)⟩,
            ⟨some 152, some (146, false), .bin .i .lss (.t 149) (.t 151)⟩,
            ⟨some 153, none, .pick (.t 146) (.c (.d (.bool true))) (.t 152)⟩,
            ⟨some 154, none, .mov false (.t 153)⟩,
            ⟨some 155, some (154, false), .faddr 1 none (.t 6)⟩,
            ⟨some 156, some (154, false), .load none (.t 155)⟩,
            ⟨some 157, some (154, false), .mov false (.t 0)⟩,
            ⟨some 158, some (154, false), .iaddr 1 (.t 157) (.c (.d (.int .i64 1)))⟩,
            ⟨some 159, some (154, false), .load none (.t 158)⟩,
            ⟨some 160, some (154, false), .bin .i .lss (.t 156) (.t 159)⟩,
            ⟨some 161, none, .pick (.t 154) (.c (.d (.bool true))) (.t 160)⟩,
            ⟨some 162, none, .mov false (.t 161)⟩,
            ⟨some 163, some (162, false), .mov false (.t 0)⟩,
            ⟨some 164, some (162, false), .iaddr 1 (.t 163) (.c (.d (.int .i64 2)))⟩,
            ⟨some 165, some (162, false), .load none (.t 164)⟩,
            ⟨some 166, some (162, false), .bin .i .lss (.t 165) (.c (.d (.int .u8 128)))⟩,
            ⟨some 167, none, .pick (.t 162) (.c (.d (.bool true))) (.t 166)⟩,
            ⟨some 168, none, .mov false (.t 167)⟩,
            ⟨some 169, some (168, false), .mov false (.t 0)⟩,
            ⟨some 170, some (168, false), .iaddr 1 (.t 169) (.c (.d (.int .i64 2)))⟩,
            ⟨some 171, some (168, false), .load none (.t 170)⟩,
            ⟨some 172, some (168, false), .bin .i .lss (.c (.d (.int .u8 191))) (.t 171)⟩,
            ⟨some 173, none, .pick (.t 168) (.c (.d (.bool true))) (.t 172)⟩,
            ⟨some 174, none, .mov false (.t 173)⟩,
            ⟨some 175, some (174, false), .mov false (.t 0)⟩,
            ⟨some 176, some (174, false), .iaddr 1 (.t 175) (.c (.d (.int .i64 3)))⟩,
            ⟨some 177, some (174, false), .load none (.t 176)⟩,
            ⟨some 178, some (174, false), .bin .i .lss (.t 177) (.c (.d (.int .u8 128)))⟩,
            ⟨some 179, none, .pick (.t 174) (.c (.d (.bool true))) (.t 178)⟩,
            ⟨some 180, none, .mov false (.t 179)⟩,
            ⟨some 181, some (180, false), .mov false (.t 0)⟩,
            ⟨some 182, some (180, false), .iaddr 1 (.t 181) (.c (.d (.int .i64 3)))⟩,
            ⟨some 183, some (180, false), .load none (.t 182)⟩,
            ⟨some 184, some (180, false), .bin .i .lss (.c (.d (.int .u8 191))) (.t 183)⟩,
            ⟨some 185, none, .pick (.t 180) (.c (.d (.bool true))) (.t 184)⟩] [0, 185]) <|
          .cond (.t 185)
            (.seq (.reg [⟨some 2, none, .mov false (.c (.d (.bool false)))⟩] [2]) <|
            .ret)
            (.skip)) <|
          .reg [⟨some 186, none, .mov true (.t 0)⟩,
            ⟨some 187, none, .slc 1 (.t 186) (some (.c (.d (.int .i64 4)))) none none⟩,
            ⟨some 0, none, .mov true (.t 187)⟩] [0])
          (.seq (.reg [⟨some 2, none, .mov false (.c (.d (.bool false)))⟩] [2]) <|
          .ret)))
def n_unicode_utf8_Valid : Nat := 72
def f_unicode_utf8_Valid : SFunc where
  np := 1
  res := [.slot 2]
  body := .seq (.reg [⟨some 2, none, .mov false (.c (.d (.bool false)))⟩] [0]) <|
    .seq (.reg [⟨some 7, none, .mov false (.t 0)⟩,
      ⟨some 8, none, .mov false (.t 0)⟩,
      ⟨some 9, none, .len false (.t 8)⟩,
      ⟨some 10, none, .mov true (.t 0)⟩,
      ⟨some 11, none, .len false (.t 10)⟩,
      ⟨some 12, none, .slc 1 (.t 7) none (some (.t 9)) (some (.t 11))⟩,
      ⟨some 0, none, .mov true (.t 12)⟩] [0]) <|
    .seq (.block 0 <| .loop l_unicode_utf8_Valid_1) <|
    .seq (.reg [⟨some 2, none, .mov false (.c (.d (.bool true)))⟩] [2]) <|
    .ret
/- math/bits.Len64 -/
def n_math_bits_Len64 : Nat := 73
def f_math_bits_Len64 : SFunc where
  np := 1
  res := [.slot 2]
  body := .seq (.reg [⟨some 2, none, .mov false (.c (.d (.int .i64 0)))⟩] [0, 2]) <|
    .seq (.seq (.reg [⟨some 3, none, .mov false (.t 0)⟩,
      ⟨some 4, none, .bin .i .geq (.t 3) (.c (.d (.int .u64 4294967296)))⟩] [0, 2, 4]) <|
    .cond (.t 4)
      (.seq (.reg [⟨some 5, none, .mov false (.t 0)⟩,
        ⟨some 6, none, .bin .i .shr (.t 5) (.c (.d (.int .u64 32)))⟩,
        ⟨some 0, none, .mov false (.t 6)⟩] [0]) <|
      .reg [⟨some 2, none, .mov false (.c (.d (.int .i64 32)))⟩] [0, 2])
      (.skip)) <|
    .seq (.seq (.reg [⟨some 7, none, .mov false (.t 0)⟩,
      ⟨some 8, none, .bin .i .geq (.t 7) (.c (.d (.int .u64 65536)))⟩] [0, 2, 8]) <|
    .cond (.t 8)
      (.seq (.reg [⟨some 9, none, .mov false (.t 0)⟩,
        ⟨some 10, none, .bin .i .shr (.t 9) (.c (.d (.int .u64 16)))⟩,
        ⟨some 0, none, .mov false (.t 10)⟩] [0, 2]) <|
      .reg [⟨some 11, none, .mov false (.t 2)⟩,
        ⟨some 12, none, .bin .i .add (.t 11) (.c (.d (.int .i64 16)))⟩,
        ⟨some 2, none, .mov false (.t 12)⟩] [0, 2])
      (.skip)) <|
    .seq (.seq (.reg [⟨some 13, none, .mov false (.t 0)⟩,
      ⟨some 14, none, .bin .i .geq (.t 13) (.c (.d (.int .u64 256)))⟩] [0, 2, 14]) <|
    .cond (.t 14)
      (.seq (.reg [⟨some 15, none, .mov false (.t 0)⟩,
        ⟨some 16, none, .bin .i .shr (.t 15) (.c (.d (.int .u64 8)))⟩,
        ⟨some 0, none, .mov false (.t 16)⟩] [0, 2]) <|
      .reg [⟨some 17, none, .mov false (.t 2)⟩,
        ⟨some 18, none, .bin .i .add (.t 17) (.c (.d (.int .i64 8)))⟩,
        ⟨some 2, none, .mov false (.t 18)⟩] [0, 2])
      (.skip)) <|
    .seq (.reg [⟨some 19, none, .mov false (.t 2)⟩,
      ⟨some 20, none, .mov false (.t 0)⟩,
      ⟨some 21, none, .cint .u8 (.t 20)⟩,
      ⟨some 22, none, .sidx (.c (.d (.str [0, 1, 2, 2, 3, 3, 3, 3, 4, 4, 4, 4, 4, 4, 4, 4, 5, 5, 5, 5, 5, 5, 5, 5, 5, 5, 5, 5, 5, 5, 5, 5, 6, 6, 6, 6, 6, 6, 6, 6, 6, 6, 6, 6, 6, 6, 6, 6, 6, 6, 6, 6, 6, 6, 6, 6, 6, 6, 6, 6, 6, 6, 6, 6, 7, 7, 7, 7, 7, 7, 7, 7, 7, 7, 7, 7, 7, 7, 7, 7, 7, 7, 7, 7, 7, 7, 7, 7, 7, 7, 7, 7, 7, 7, 7, 7, 7, 7, 7, 7, 7, 7, 7, 7, 7, 7, 7, 7, 7, 7, 7, 7, 7, 7, 7, 7, 7, 7, 7, 7, 7, 7, 7, 7, 7, 7, 7, 7, 8, 8, 8, 8, 8, 8, 8, 8, 8, 8, 8, 8, 8, 8, 8, 8, 8, 8, 8, 8, 8, 8, 8, 8, 8, 8, 8, 8, 8, 8, 8, 8, 8, 8, 8, 8, 8, 8, 8, 8, 8, 8, 8, 8, 8, 8, 8, 8, 8, 8, 8, 8, 8, 8, 8, 8, 8, 8, 8, 8, 8, 8, 8, 8, 8, 8, 8, 8, 8, 8, 8, 8, 8, 8, 8, 8, 8, 8, 8, 8, 8, 8, 8, 8, 8, 8, 8, 8, 8, 8, 8, 8, 8, 8, 8, 8, 8, 8, 8, 8, 8, 8, 8, 8, 8, 8, 8, 8, 8, 8, 8, 8, 8, 8, 8, 8, 8, 8, 8, 8, 8, 8, 8, 8, 8, 8, 8, 8]))) (.t 21)⟩,
      ⟨some 23, none, .cint .i64 (.t 22)⟩,
      ⟨some 24, none, .bin .i .add (.t 19) (.t 23)⟩,
      ⟨some 2, none, .mov false (.t 24)⟩] [2]) <|
    .ret
/- unicode/utf8.word[[]byte] -/
def n_unicode_utf8_word___byte_ : Nat := 75
def f_unicode_utf8_word___byte_ : SFunc where
  np := 1
  res := [.slot 2]
  body := .seq (.reg [⟨some 2, none, .mov false (.c (.d (.int .u64 0)))⟩] [0]) <|
    .seq (.cond (.c (.d (.bool false)))
      (.seq (.reg [⟨some 3, none, .mov false (.t 0)⟩,
        ⟨some 4, none, .iaddr 1 (.t 3) (.c (.d (.int .i64 0)))⟩,
        ⟨some 5, none, .load none (.t 4)⟩,
        ⟨some 6, none, .cint .u64 (.t 5)⟩,
        ⟨some 7, none, .mov false (.t 0)⟩,
        ⟨some 8, none, .iaddr 1 (.t 7) (.c (.d (.int .i64 1)))⟩,
        ⟨some 9, none, .load none (.t 8)⟩,
        ⟨some 10, none, .cint .u64 (.t 9)⟩,
        ⟨some 11, none, .bin .i .shl (.t 10) (.c (.d (.int .u64 8)))⟩,
        ⟨some 12, none, .bin .i .or (.t 6) (.t 11)⟩,
        ⟨some 13, none, .mov false (.t 0)⟩,
        ⟨some 14, none, .iaddr 1 (.t 13) (.c (.d (.int .i64 2)))⟩,
        ⟨some 15, none, .load none (.t 14)⟩,
        ⟨some 16, none, .cint .u64 (.t 15)⟩,
        ⟨some 17, none, .bin .i .shl (.t 16) (.c (.d (.int .u64 16)))⟩,
        ⟨some 18, none, .bin .i .or (.t 12) (.t 17)⟩,
        ⟨some 19, none, .mov false (.t 0)⟩,
        ⟨some 20, none, .iaddr 1 (.t 19) (.c (.d (.int .i64 3)))⟩,
        ⟨some 21, none, .load none (.t 20)⟩,
        ⟨some 22, none, .cint .u64 (.t 21)⟩,
        ⟨some 23, none, .bin .i .shl (.t 22) (.c (.d (.int .u64 24)))⟩,
        ⟨some 24, none, .bin .i .or (.t 18) (.t 23)⟩,
        ⟨some 2, none, .mov false (.t 24)⟩] [2]) <|
      .ret)
      (.skip)) <|
    .seq (.reg [⟨some 25, none, .mov false (.t 0)⟩,
      ⟨some 26, none, .iaddr 1 (.t 25) (.c (.d (.int .i64 0)))⟩,
      ⟨some 27, none, .load none (.t 26)⟩,
      ⟨some 28, none, .cint .u64 (.t 27)⟩,
      ⟨some 29, none, .mov false (.t 0)⟩,
      ⟨some 30, none, .iaddr 1 (.t 29) (.c (.d (.int .i64 1)))⟩,
      ⟨some 31, none, .load none (.t 30)⟩,
      ⟨some 32, none, .cint .u64 (.t 31)⟩,
      ⟨some 33, none, .bin .i .shl (.t 32) (.c (.d (.int .u64 8)))⟩,
      ⟨some 34, none, .bin .i .or (.t 28) (.t 33)⟩,
      ⟨some 35, none, .mov false (.t 0)⟩,
      ⟨some 36, none, .iaddr 1 (.t 35) (.c (.d (.int .i64 2)))⟩,
      ⟨some 37, none, .load none (.t 36)⟩,
      ⟨some 38, none, .cint .u64 (.t 37)⟩,
      ⟨some 39, none, .bin .i .shl (.t 38) (.c (.d (.int .u64 16)))⟩,
      ⟨some 40, none, .bin .i .or (.t 34) (.t 39)⟩,
      ⟨some 41, none, .mov false (.t 0)⟩,
      ⟨some 42, none, .iaddr 1 (.t 41) (.c (.d (.int .i64 3)))⟩,
      ⟨some 43, none, .load none (.t 42)⟩,
      ⟨some 44, none, .cint .u64 (.t 43)⟩,
      ⟨some 45, none, .bin .i .shl (.t 44) (.c (.d (.int .u64 24)))⟩,
      ⟨some 46, none, .bin .i .or (.t 40) (.t 45)⟩,
      ⟨some 47, none, .mov false (.t 0)⟩,
      ⟨some 48, none, .iaddr 1 (.t 47) (.c (.d (.int .i64 4)))⟩,
      ⟨some 49, none, .load none (.t 48)⟩,
      ⟨some 50, none, .cint .u64 (.t 49)⟩,
      ⟨some 51, none, .bin .i .shl (.t 50) (.c (.d (.int .u64 32)))⟩,
      ⟨some 52, none, .bin .i .or (.t 46) (.t 51)⟩,
      ⟨some 53, none, .mov false (.t 0)⟩,
      ⟨some 54, none, .iaddr 1 (.t 53) (.c (.d (.int .i64 5)))⟩,
      ⟨some 55, none, .load none (.t 54)⟩,
      ⟨some 56, none, .cint .u64 (.t 55)⟩,
      ⟨some 57, none, .bin .i .shl (.t 56) (.c (.d (.int .u64 40)))⟩,
      ⟨some 58, none, .bin .i .or (.t 52) (.t 57)⟩,
      ⟨some 59, none, .mov false (.t 0)⟩,
      ⟨some 60, none, .iaddr 1 (.t 59) (.c (.d (.int .i64 6)))⟩,
      ⟨some 61, none, .load none (.t 60)⟩,
      ⟨some 62, none, .cint .u64 (.t 61)⟩,
      ⟨some 63, none, .bin .i .shl (.t 62) (.c (.d (.int .u64 48)))⟩,
      ⟨some 64, none, .bin .i .or (.t 58) (.t 63)⟩,
      ⟨some 65, none, .mov false (.t 0)⟩,
      ⟨some 66, none, .iaddr 1 (.t 65) (.c (.d (.int .i64 7)))⟩,
      ⟨some 67, none, .load none (.t 66)⟩,
      ⟨some 68, none, .cint .u64 (.t 67)⟩,
      ⟨some 69, none, .bin .i .shl (.t 68) (.c (.d (.int .u64 56)))⟩,
      ⟨some 70, none, .bin .i .or (.t 64) (.t 69)⟩,
      ⟨some 2, none, .mov false (.t 70)⟩] [2]) <|
    .ret
theorem c_law3_ScalarBytes : chkFunc Tryd.prog n_law3_ScalarBytes f_law3_ScalarBytes = true := by kernel_rfl
theorem c_law3_ScalarOrders : chkFunc Tryd.prog n_law3_ScalarOrders f_law3_ScalarOrders = true := by kernel_rfl
theorem c_law3_ScalarChain : chkFunc Tryd.prog n_law3_ScalarChain f_law3_ScalarChain = true := by kernel_rfl
theorem c_law3_ScalarKinds : chkFunc Tryd.prog n_law3_ScalarKinds f_law3_ScalarKinds = true := by kernel_rfl
theorem c_scalar_Put : chkFunc Tryd.prog n_scalar_Put f_scalar_Put = true := by kernel_rfl
theorem c_scalar_Get : chkFunc Tryd.prog n_scalar_Get f_scalar_Get = true := by kernel_rfl
theorem c_ref3_Put : chkFunc Tryd.prog n_ref3_Put f_ref3_Put = true := by kernel_rfl
theorem c_law3_awake : chkFunc Tryd.prog n_law3_awake f_law3_awake = true := by kernel_rfl
theorem c_law3_same : chkFunc Tryd.prog n_law3_same f_law3_same = true := by kernel_rfl
theorem c_law3_told : chkFunc Tryd.prog n_law3_told f_law3_told = true := by kernel_rfl
theorem c_ref3_Get : chkFunc Tryd.prog n_ref3_Get f_ref3_Get = true := by kernel_rfl
theorem c_scalar_Compare : chkFunc Tryd.prog n_scalar_Compare f_scalar_Compare = true := by kernel_rfl
theorem c_ref3_IsKey : chkFunc Tryd.prog n_ref3_IsKey f_ref3_IsKey = true := by kernel_rfl
theorem c_ref3_Fits : chkFunc Tryd.prog n_ref3_Fits f_ref3_Fits = true := by kernel_rfl
theorem c_ref3_Compare : chkFunc Tryd.prog n_ref3_Compare f_ref3_Compare = true := by kernel_rfl
theorem c_ref3_Same : chkFunc Tryd.prog n_ref3_Same f_ref3_Same = true := by kernel_rfl
theorem c_scalar_Wire : chkFunc Tryd.prog n_scalar_Wire f_scalar_Wire = true := by kernel_rfl
theorem c_scalar_Name : chkFunc Tryd.prog n_scalar_Name f_scalar_Name = true := by kernel_rfl
theorem c_scalar_Kind : chkFunc Tryd.prog n_scalar_Kind f_scalar_Kind = true := by kernel_rfl
theorem c_scalar_Numeric : chkFunc Tryd.prog n_scalar_Numeric f_scalar_Numeric = true := by kernel_rfl
theorem c_ref3_Numeric : chkFunc Tryd.prog n_ref3_Numeric f_ref3_Numeric = true := by kernel_rfl
theorem c_scalar_IsKey : chkFunc Tryd.prog n_scalar_IsKey f_scalar_IsKey = true := by kernel_rfl
theorem c_scalar_Fits : chkFunc Tryd.prog n_scalar_Fits f_scalar_Fits = true := by kernel_rfl
theorem c_ref3_Wire : chkFunc Tryd.prog n_ref3_Wire f_ref3_Wire = true := by kernel_rfl
theorem c_ref3_Names : chkFunc Tryd.prog n_ref3_Names f_ref3_Names = true := by kernel_rfl
theorem c_ref3_Kind : chkFunc Tryd.prog n_ref3_Kind f_ref3_Kind = true := by kernel_rfl
theorem c_scalar_may : chkFunc Tryd.prog n_scalar_may f_scalar_may = true := by kernel_rfl
theorem c_wire_PutChunk : chkFunc Tryd.prog n_wire_PutChunk f_wire_PutChunk = true := by kernel_rfl
theorem c_wire_PutFix32 : chkFunc Tryd.prog n_wire_PutFix32 f_wire_PutFix32 = true := by kernel_rfl
theorem c_wire_PutFix64 : chkFunc Tryd.prog n_wire_PutFix64 f_wire_PutFix64 = true := by kernel_rfl
theorem c_wire_PutVarint : chkFunc Tryd.prog n_wire_PutVarint f_wire_PutVarint = true := by kernel_rfl
theorem c_wire_ZigZag : chkFunc Tryd.prog n_wire_ZigZag f_wire_ZigZag = true := by kernel_rfl
theorem c_scalar_known : chkFunc Tryd.prog n_scalar_known f_scalar_known = true := by kernel_rfl
theorem c_wire_GetChunk : chkFunc Tryd.prog n_wire_GetChunk f_wire_GetChunk = true := by kernel_rfl
theorem c_wire_GetFix32 : chkFunc Tryd.prog n_wire_GetFix32 f_wire_GetFix32 = true := by kernel_rfl
theorem c_wire_GetFix64 : chkFunc Tryd.prog n_wire_GetFix64 f_wire_GetFix64 = true := by kernel_rfl
theorem c_wire_GetVarint : chkFunc Tryd.prog n_wire_GetVarint f_wire_GetVarint = true := by kernel_rfl
theorem c_wire_ZagZig : chkFunc Tryd.prog n_wire_ZagZig f_wire_ZagZig = true := by kernel_rfl
theorem c_ref2_Valid : chkFunc Tryd.prog n_ref2_Valid f_ref2_Valid = true := by kernel_rfl
theorem c_ref1_PutVarint : chkFunc Tryd.prog n_ref1_PutVarint f_ref1_PutVarint = true := by kernel_rfl
theorem c_ref1_ZigZag : chkFunc Tryd.prog n_ref1_ZigZag f_ref1_ZigZag = true := by kernel_rfl
theorem c_ref1_PutWord : chkFunc Tryd.prog n_ref1_PutWord f_ref1_PutWord = true := by kernel_rfl
theorem c_ref1_PutChunk : chkFunc Tryd.prog n_ref1_PutChunk f_ref1_PutChunk = true := by kernel_rfl
theorem c_law3_n : chkFunc Tryd.prog n_law3_n f_law3_n = true := by kernel_rfl
theorem c_ref1_GetVarint : chkFunc Tryd.prog n_ref1_GetVarint f_ref1_GetVarint = true := by kernel_rfl
theorem c_ref1_ZagZig : chkFunc Tryd.prog n_ref1_ZagZig f_ref1_ZagZig = true := by kernel_rfl
theorem c_ref1_Word : chkFunc Tryd.prog n_ref1_Word f_ref1_Word = true := by kernel_rfl
theorem c_ref1_GetChunk : chkFunc Tryd.prog n_ref1_GetChunk f_ref1_GetChunk = true := by kernel_rfl
theorem c_ref3_Holds : chkFunc Tryd.prog n_ref3_Holds f_ref3_Holds = true := by kernel_rfl
theorem c_scalar_signed : chkFunc Tryd.prog n_scalar_signed f_scalar_signed = true := by kernel_rfl
theorem c_cmp_Compare_int64_ : chkFunc Tryd.prog n_cmp_Compare_int64_ f_cmp_Compare_int64_ = true := by kernel_rfl
theorem c_cmp_Compare_uint64_ : chkFunc Tryd.prog n_cmp_Compare_uint64_ f_cmp_Compare_uint64_ = true := by kernel_rfl
theorem c_ref3_Signed : chkFunc Tryd.prog n_ref3_Signed f_ref3_Signed = true := by kernel_rfl
theorem c_scalar_holds : chkFunc Tryd.prog n_scalar_holds f_scalar_holds = true := by kernel_rfl
theorem c_quote_Valid : chkFunc Tryd.prog n_quote_Valid f_quote_Valid = true := by kernel_rfl
theorem c_wire_varint : chkFunc Tryd.prog n_wire_varint f_wire_varint = true := by kernel_rfl
theorem c_wire_Size : chkFunc Tryd.prog n_wire_Size f_wire_Size = true := by kernel_rfl
theorem c_wire_word : chkFunc Tryd.prog n_wire_word f_wire_word = true := by kernel_rfl
theorem c_wire_Span : chkFunc Tryd.prog n_wire_Span f_wire_Span = true := by kernel_rfl
theorem c_wire_read : chkFunc Tryd.prog n_wire_read f_wire_read = true := by kernel_rfl
theorem c_wire_place : chkFunc Tryd.prog n_wire_place f_wire_place = true := by kernel_rfl
theorem c_ref2_Runes : chkFunc Tryd.prog n_ref2_Runes f_ref2_Runes = true := by kernel_rfl
theorem c_cmp_isNaN_int64_ : chkFunc Tryd.prog n_cmp_isNaN_int64_ f_cmp_isNaN_int64_ = true := by kernel_rfl
theorem c_cmp_isNaN_uint64_ : chkFunc Tryd.prog n_cmp_isNaN_uint64_ f_cmp_isNaN_uint64_ = true := by kernel_rfl
theorem c_unicode_utf8_Valid : chkFunc Tryd.prog n_unicode_utf8_Valid f_unicode_utf8_Valid = true := by kernel_rfl
theorem c_math_bits_Len64 : chkFunc Tryd.prog n_math_bits_Len64 f_math_bits_Len64 = true := by kernel_rfl
theorem c_unicode_utf8_word___byte_ : chkFunc Tryd.prog n_unicode_utf8_word___byte_ f_unicode_utf8_word___byte_ = true := by kernel_rfl
def fns : List (Nat × SFunc) := [(n_law3_ScalarBytes, f_law3_ScalarBytes), (n_law3_ScalarOrders, f_law3_ScalarOrders), (n_law3_ScalarChain, f_law3_ScalarChain), (n_law3_ScalarKinds, f_law3_ScalarKinds), (n_scalar_Put, f_scalar_Put), (n_scalar_Get, f_scalar_Get), (n_ref3_Put, f_ref3_Put), (n_law3_awake, f_law3_awake), (n_law3_same, f_law3_same), (n_law3_told, f_law3_told), (n_ref3_Get, f_ref3_Get), (n_scalar_Compare, f_scalar_Compare), (n_ref3_IsKey, f_ref3_IsKey), (n_ref3_Fits, f_ref3_Fits), (n_ref3_Compare, f_ref3_Compare), (n_ref3_Same, f_ref3_Same), (n_scalar_Wire, f_scalar_Wire), (n_scalar_Name, f_scalar_Name), (n_scalar_Kind, f_scalar_Kind), (n_scalar_Numeric, f_scalar_Numeric), (n_ref3_Numeric, f_ref3_Numeric), (n_scalar_IsKey, f_scalar_IsKey), (n_scalar_Fits, f_scalar_Fits), (n_ref3_Wire, f_ref3_Wire), (n_ref3_Names, f_ref3_Names), (n_ref3_Kind, f_ref3_Kind), (n_scalar_may, f_scalar_may), (n_wire_PutChunk, f_wire_PutChunk), (n_wire_PutFix32, f_wire_PutFix32), (n_wire_PutFix64, f_wire_PutFix64), (n_wire_PutVarint, f_wire_PutVarint), (n_wire_ZigZag, f_wire_ZigZag), (n_scalar_known, f_scalar_known), (n_wire_GetChunk, f_wire_GetChunk), (n_wire_GetFix32, f_wire_GetFix32), (n_wire_GetFix64, f_wire_GetFix64), (n_wire_GetVarint, f_wire_GetVarint), (n_wire_ZagZig, f_wire_ZagZig), (n_ref2_Valid, f_ref2_Valid), (n_ref1_PutVarint, f_ref1_PutVarint), (n_ref1_ZigZag, f_ref1_ZigZag), (n_ref1_PutWord, f_ref1_PutWord), (n_ref1_PutChunk, f_ref1_PutChunk), (n_law3_n, f_law3_n), (n_ref1_GetVarint, f_ref1_GetVarint), (n_ref1_ZagZig, f_ref1_ZagZig), (n_ref1_Word, f_ref1_Word), (n_ref1_GetChunk, f_ref1_GetChunk), (n_ref3_Holds, f_ref3_Holds), (n_scalar_signed, f_scalar_signed), (n_cmp_Compare_int64_, f_cmp_Compare_int64_), (n_cmp_Compare_uint64_, f_cmp_Compare_uint64_), (n_ref3_Signed, f_ref3_Signed), (n_scalar_holds, f_scalar_holds), (n_quote_Valid, f_quote_Valid), (n_wire_varint, f_wire_varint), (n_wire_Size, f_wire_Size), (n_wire_word, f_wire_word), (n_wire_Span, f_wire_Span), (n_wire_read, f_wire_read), (n_wire_place, f_wire_place), (n_ref2_Runes, f_ref2_Runes), (n_cmp_isNaN_int64_, f_cmp_isNaN_int64_), (n_cmp_isNaN_uint64_, f_cmp_isNaN_uint64_), (n_unicode_utf8_Valid, f_unicode_utf8_Valid), (n_math_bits_Len64, f_math_bits_Len64), (n_unicode_utf8_word___byte_, f_unicode_utf8_word___byte_)]
def accepts : List (Int × Int) := [(128, 191), (160, 191), (128, 159), (144, 191), (128, 143), (0, 0), (0, 0), (0, 0), (0, 0), (0, 0), (0, 0), (0, 0), (0, 0), (0, 0), (0, 0), (0, 0)]
def firsts : List Int := Go.Pinned.utf8FirstZ.map fun (n : Nat) => (n : Int)
def globals : List (Nat × D) := [(3, .agg (firsts.map (D.int .u8))), (4, .agg ((flatPairs accepts).map (D.int .u8)))]
/-- The names of the kinds. -/
def kindNames : List (List UInt8) := [[98, 111, 111, 108], [105, 110, 116, 51, 50], [105, 110, 116, 54, 52], [117, 105, 110, 116, 51, 50], [117, 105, 110, 116, 54, 52], [115, 105, 110, 116, 51, 50], [115, 105, 110, 116, 54, 52], [102, 105, 120, 101, 100, 51, 50], [102, 105, 120, 101, 100, 54, 52], [115, 102, 105, 120, 101, 100, 51, 50], [115, 102, 105, 120, 101, 100, 54, 52], [102, 108, 111, 97, 116], [100, 111, 117, 98, 108, 101], [115, 116, 114, 105, 110, 103], [98, 121, 116, 101, 115]]
/-- bytes.Compare and strings.Fields (of the one text that the program hands it), by what they answer. -/
def cmpPrim : List D → Option V
  | [.slice _ a, .slice _ b] => (bytesOf a).bind fun x => (bytesOf b).bind fun y => some (.d (.int .i64 (Go.Lib.compareBytes x y)))
  | _ => none
def fieldsText : List UInt8 := [98, 111, 111, 108, 32, 105, 110, 116, 51, 50, 32, 105, 110, 116, 54, 52, 32, 117, 105, 110, 116, 51, 50, 32, 117, 105, 110, 116, 54, 52, 32, 115, 105, 110, 116, 51, 50, 32, 115, 105, 110, 116, 54, 52, 32, 102, 105, 120, 101, 100, 51, 50, 32, 102, 105, 120, 101, 100, 54, 52, 32, 115, 102, 105, 120, 101, 100, 51, 50, 32, 115, 102, 105, 120, 101, 100, 54, 52, 32, 102, 108, 111, 97, 116, 32, 100, 111, 117, 98, 108, 101, 32, 115, 116, 114, 105, 110, 103, 32, 98, 121, 116, 101, 115]
def fieldsPrim : List D → Option V
  | [.str s] => if s = fieldsText then some (.d (.slice 1 (kindNames.map D.str))) else none
  | _ => none
/-- The machine over data: the functions above, the listed tables, the library's functions that are told by what they answer. -/
def M (k : Bool) : Mach where
  fn := Vi.get fns
  prim := fun f => if f = 52 then some cmpPrim else if f = 57 then (if k = true then some fieldsPrim else none) else none
  glob := fun i => if i = 0 then (if k = true then some (.agg (Go.Lib.asciiSpaceTab.map (D.int .u8))) else none) else Vi.get globals i
theorem fnsOK (k : Bool) : ∀ f sf, (M k).fn f = some sf → chkFunc Tryd.prog f sf = true := fun f sf h => by
  have hm := get_mem (l := fns) h
  simp only [fns, List.mem_cons, List.mem_nil_iff, or_false, Prod.mk.injEq] at hm
  rcases hm with ⟨rfl, rfl⟩ | ⟨rfl, rfl⟩ | ⟨rfl, rfl⟩ | ⟨rfl, rfl⟩ | ⟨rfl, rfl⟩ | ⟨rfl, rfl⟩ | ⟨rfl, rfl⟩ | ⟨rfl, rfl⟩ | ⟨rfl, rfl⟩ | ⟨rfl, rfl⟩ | ⟨rfl, rfl⟩ | ⟨rfl, rfl⟩ | ⟨rfl, rfl⟩ | ⟨rfl, rfl⟩ | ⟨rfl, rfl⟩ | ⟨rfl, rfl⟩ | ⟨rfl, rfl⟩ | ⟨rfl, rfl⟩ | ⟨rfl, rfl⟩ | ⟨rfl, rfl⟩ | ⟨rfl, rfl⟩ | ⟨rfl, rfl⟩ | ⟨rfl, rfl⟩ | ⟨rfl, rfl⟩ | ⟨rfl, rfl⟩ | ⟨rfl, rfl⟩ | ⟨rfl, rfl⟩ | ⟨rfl, rfl⟩ | ⟨rfl, rfl⟩ | ⟨rfl, rfl⟩ | ⟨rfl, rfl⟩ | ⟨rfl, rfl⟩ | ⟨rfl, rfl⟩ | ⟨rfl, rfl⟩ | ⟨rfl, rfl⟩ | ⟨rfl, rfl⟩ | ⟨rfl, rfl⟩ | ⟨rfl, rfl⟩ | ⟨rfl, rfl⟩ | ⟨rfl, rfl⟩ | ⟨rfl, rfl⟩ | ⟨rfl, rfl⟩ | ⟨rfl, rfl⟩ | ⟨rfl, rfl⟩ | ⟨rfl, rfl⟩ | ⟨rfl, rfl⟩ | ⟨rfl, rfl⟩ | ⟨rfl, rfl⟩ | ⟨rfl, rfl⟩ | ⟨rfl, rfl⟩ | ⟨rfl, rfl⟩ | ⟨rfl, rfl⟩ | ⟨rfl, rfl⟩ | ⟨rfl, rfl⟩ | ⟨rfl, rfl⟩ | ⟨rfl, rfl⟩ | ⟨rfl, rfl⟩ | ⟨rfl, rfl⟩ | ⟨rfl, rfl⟩ | ⟨rfl, rfl⟩ | ⟨rfl, rfl⟩ | ⟨rfl, rfl⟩ | ⟨rfl, rfl⟩ | ⟨rfl, rfl⟩ | ⟨rfl, rfl⟩ | ⟨rfl, rfl⟩ | ⟨rfl, rfl⟩
  · exact c_law3_ScalarBytes
  · exact c_law3_ScalarOrders
  · exact c_law3_ScalarChain
  · exact c_law3_ScalarKinds
  · exact c_scalar_Put
  · exact c_scalar_Get
  · exact c_ref3_Put
  · exact c_law3_awake
  · exact c_law3_same
  · exact c_law3_told
  · exact c_ref3_Get
  · exact c_scalar_Compare
  · exact c_ref3_IsKey
  · exact c_ref3_Fits
  · exact c_ref3_Compare
  · exact c_ref3_Same
  · exact c_scalar_Wire
  · exact c_scalar_Name
  · exact c_scalar_Kind
  · exact c_scalar_Numeric
  · exact c_ref3_Numeric
  · exact c_scalar_IsKey
  · exact c_scalar_Fits
  · exact c_ref3_Wire
  · exact c_ref3_Names
  · exact c_ref3_Kind
  · exact c_scalar_may
  · exact c_wire_PutChunk
  · exact c_wire_PutFix32
  · exact c_wire_PutFix64
  · exact c_wire_PutVarint
  · exact c_wire_ZigZag
  · exact c_scalar_known
  · exact c_wire_GetChunk
  · exact c_wire_GetFix32
  · exact c_wire_GetFix64
  · exact c_wire_GetVarint
  · exact c_wire_ZagZig
  · exact c_ref2_Valid
  · exact c_ref1_PutVarint
  · exact c_ref1_ZigZag
  · exact c_ref1_PutWord
  · exact c_ref1_PutChunk
  · exact c_law3_n
  · exact c_ref1_GetVarint
  · exact c_ref1_ZagZig
  · exact c_ref1_Word
  · exact c_ref1_GetChunk
  · exact c_ref3_Holds
  · exact c_scalar_signed
  · exact c_cmp_Compare_int64_
  · exact c_cmp_Compare_uint64_
  · exact c_ref3_Signed
  · exact c_scalar_holds
  · exact c_quote_Valid
  · exact c_wire_varint
  · exact c_wire_Size
  · exact c_wire_word
  · exact c_wire_Span
  · exact c_wire_read
  · exact c_wire_place
  · exact c_ref2_Runes
  · exact c_cmp_isNaN_int64_
  · exact c_cmp_isNaN_uint64_
  · exact c_unicode_utf8_Valid
  · exact c_math_bits_Len64
  · exact c_unicode_utf8_word___byte_
end Go.Proofs.YtedncpnkbpbchaaDoor

/-
  lex.Split's body in pieces. Written by a program, out of the text with the functions.
-/
import Derived.Test.YtladdhfkmnhmfaaFns
set_option maxRecDepth 100000
namespace Go.Proofs.Ytladdhfkmnhmfaa
open Go.Vi
def sp_p0 : SC :=
  .seq (.reg [⟨some 12, none, .mov false (.t 0)⟩,
      ⟨some 13, none, .len true (.t 12)⟩,
      ⟨some 14, none, .bin .i .gtr (.t 13) (.c (.d (.int .i64 65536)))⟩] [0, 3, 3, 14]) <|
    .cond (.t 14)
      (.seq (.reg [⟨some 15, none, .build [.int .i64 0, .int .i64 0, .int .i64 0, .int .i64 0] [(0, 1, .c (.d (.int .i64 1)))]⟩,
        ⟨some 2, none, .mov true (.c (.own 6 []))⟩,
        ⟨none, none, .store 4 (.t 3) (.t 15)⟩] [2, 3, 3]) <|
      .ret)
      (.skip)
def sp_p1 : SC :=
  .reg [⟨some 4, none, .mov true (.c (.own 6 []))⟩] [0, 3, 3, 4]
def sp_p2 : SC :=
  .reg [⟨some 5, none, .mov false (.c (.d (.int .i64 1)))⟩,
      ⟨some 6, none, .mov false (.c (.d (.int .i64 0)))⟩] [0, 3, 3, 4, 5, 6]
def sp_p3 : SC :=
  .reg [⟨some 7, none, .mov false (.c (.d (.int .i64 0)))⟩,
      ⟨some 8, none, .mov false (.c (.d (.int .i64 0)))⟩] [0, 3, 3, 4, 5, 6, 7]
def sp_p4 : SC :=
  .reg [⟨some 16, none, .build [.int .i64 0, .str [], .int .u64 0, .slice 0 [], .int .i64 0, .int .i64 0] []⟩,
      ⟨some 9, none, .zbox [.int .i64 0, .str [], .int .u64 0, .slice 0 [], .int .i64 0, .int .i64 0]⟩,
      ⟨none, none, .store 6 (.t 9) (.t 16)⟩] [0, 3, 3, 4, 5, 6, 7, 9, 9]
def sp_p5 : SC :=
  .reg [⟨some 10, none, .mov false (.c (.d (.int .i64 11)))⟩] [0, 3, 3, 4, 5, 6, 7, 9, 9, 10]
def sp_p6 : SC :=
  .label 0
def sp_p7 : SC :=
  .reg [⟨some 17, none, .mov false (.t 5)⟩,
      ⟨some 18, none, .mov false (.t 7)⟩,
      ⟨some 19, none, .mov false (.t 6)⟩,
      ⟨some 20, none, .bin .i .sub (.t 18) (.t 19)⟩,
      ⟨some 21, none, .bin .i .add (.t 20) (.c (.d (.int .i64 1)))⟩,
      ⟨some 22, none, .build [.int .i64 0, .str [], .int .u64 0, .slice 0 [], .int .i64 0, .int .i64 0] [(4, 1, .t 17), (5, 1, .t 21)]⟩,
      ⟨none, none, .store 6 (.t 9) (.t 22)⟩] [0, 3, 3, 4, 5, 6, 7, 9, 9, 10]
def sp_p8 : SC :=
  .seq (.reg [⟨some 23, none, .mov false (.t 7)⟩,
      ⟨some 24, none, .mov false (.t 0)⟩,
      ⟨some 25, none, .len true (.t 24)⟩,
      ⟨some 26, none, .bin .i .eql (.t 23) (.t 25)⟩] [0, 3, 3, 4, 5, 6, 7, 9, 9, 10, 26]) <|
    .cond (.t 26)
      (.goto 1)
      (.skip)
def sp_p9 : SC :=
  .seq (.reg [⟨some 27, none, .mov false (.t 0)⟩,
      ⟨some 28, none, .mov false (.t 7)⟩,
      ⟨some 29, none, .sidx (.t 27) (.t 28)⟩,
      ⟨some 11, none, .mov false (.t 29)⟩] [0, 3, 3, 4, 5, 6, 7, 9, 9, 10, 11]) <|
    .block 0 <| .seq (.reg [⟨some 31, none, .mov false (.t 11)⟩,
      ⟨some 32, none, .bin .i .eql (.t 31) (.c (.d (.int .u8 10)))⟩,
      ⟨some 30, none, .mov false (.t 32)⟩] [0, 3, 3, 4, 5, 6, 7, 9, 9, 10, 11, 30]) <|
    .cond (.t 30)
      (.seq (.reg [⟨some 33, none, .mov false (.t 7)⟩,
        ⟨some 34, none, .bin .i .add (.t 33) (.c (.d (.int .i64 1)))⟩,
        ⟨some 7, none, .mov false (.t 34)⟩] [0, 3, 3, 4, 5, 7, 9, 9, 10]) <|
      .seq (.reg [⟨some 35, none, .mov false (.t 5)⟩,
        ⟨some 36, none, .bin .i .add (.t 35) (.c (.d (.int .i64 1)))⟩,
        ⟨some 37, none, .mov false (.t 7)⟩,
        ⟨some 5, none, .mov false (.t 36)⟩,
        ⟨some 6, none, .mov false (.t 37)⟩] [0, 3, 3, 4, 5, 6, 7, 9, 9, 10]) <|
      .goto 0)
      (.seq (.reg [⟨some 39, none, .mov false (.t 11)⟩,
        ⟨some 40, none, .bin .i .eql (.t 39) (.c (.d (.int .u8 32)))⟩,
        ⟨some 41, none, .mov false (.t 40)⟩,
        ⟨some 42, some (41, false), .mov false (.t 11)⟩,
        ⟨some 43, some (41, false), .bin .i .eql (.t 42) (.c (.d (.int .u8 9)))⟩,
        ⟨some 44, none, .pick (.t 41) (.c (.d (.bool true))) (.t 43)⟩,
        ⟨some 45, none, .mov false (.t 44)⟩,
        ⟨some 46, some (45, false), .mov false (.t 11)⟩,
        ⟨some 47, some (45, false), .bin .i .eql (.t 46) (.c (.d (.int .u8 13)))⟩,
        ⟨some 48, none, .pick (.t 45) (.c (.d (.bool true))) (.t 47)⟩,
        ⟨some 38, none, .mov false (.t 48)⟩] [0, 3, 3, 4, 5, 6, 7, 9, 9, 10, 11, 38]) <|
      .cond (.t 38)
        (.seq (.reg [⟨some 49, none, .mov false (.t 7)⟩,
          ⟨some 50, none, .bin .i .add (.t 49) (.c (.d (.int .i64 1)))⟩,
          ⟨some 7, none, .mov false (.t 50)⟩] [0, 3, 3, 4, 5, 6, 7, 9, 9, 10]) <|
        .goto 0)
        (.seq (.reg [⟨some 52, none, .mov false (.t 0)⟩,
          ⟨some 53, none, .mov false (.t 7)⟩,
          ⟨some 54, none, .slcs (.t 52) (some (.t 53)) none⟩,
          ⟨some 55, none, .call 13 [(false, .t 54), (false, .c (.d (.str [47, 47])))]⟩,
          ⟨some 51, none, .mov false (.t 55)⟩] [0, 3, 3, 4, 5, 6, 7, 9, 9, 10, 11, 51]) <|
        .cond (.t 51)
          (.seq (.seq (.reg [⟨some 56, none, .mov false (.t 0)⟩,
            ⟨some 57, none, .mov false (.t 7)⟩,
            ⟨some 58, none, .slcs (.t 56) (some (.t 57)) none⟩,
            ⟨some 59, none, .call 14 [(false, .t 58), (false, .c (.d (.int .u8 10)))]⟩,
            ⟨some 8, none, .mov false (.t 59)⟩] [0, 3, 3, 4, 5, 6, 7, 8, 9, 9, 10]) <|
          .seq (.reg [⟨some 60, none, .mov false (.t 8)⟩,
            ⟨some 61, none, .bin .i .lss (.t 60) (.c (.d (.int .i64 0)))⟩] [0, 3, 3, 4, 5, 6, 7, 8, 9, 9, 10, 61]) <|
          .cond (.t 61)
            (.reg [⟨some 62, none, .mov false (.t 0)⟩,
              ⟨some 63, none, .len true (.t 62)⟩,
              ⟨some 64, none, .mov false (.t 7)⟩,
              ⟨some 65, none, .bin .i .sub (.t 63) (.t 64)⟩,
              ⟨some 8, none, .mov false (.t 65)⟩] [0, 3, 3, 4, 5, 6, 7, 8, 9, 9, 10])
            (.skip)) <|
          .seq (.reg [⟨some 66, none, .mov false (.t 7)⟩,
            ⟨some 67, none, .mov false (.t 8)⟩,
            ⟨some 68, none, .bin .i .add (.t 66) (.t 67)⟩,
            ⟨some 7, none, .mov false (.t 68)⟩] [0, 3, 3, 4, 5, 6, 7, 9, 9, 10]) <|
          .goto 0)
          (.seq (.reg [⟨some 70, none, .mov false (.t 0)⟩,
            ⟨some 71, none, .mov false (.t 7)⟩,
            ⟨some 72, none, .slcs (.t 70) (some (.t 71)) none⟩,
            ⟨some 73, none, .call 13 [(false, .t 72), (false, .c (.d (.str [47, 42])))]⟩,
            ⟨some 69, none, .mov false (.t 73)⟩] [0, 3, 3, 4, 5, 6, 7, 9, 10, 11, 69]) <|
          .cond (.t 69)
            (.goto 2)
            (.seq (.reg [⟨some 75, none, .mov false (.t 11)⟩,
              ⟨some 76, none, .call 15 [(false, .t 75)]⟩,
              ⟨some 74, none, .mov false (.t 76)⟩] [0, 3, 3, 4, 5, 6, 7, 9, 9, 10, 11, 74]) <|
            .cond (.t 74)
              (.reg [⟨some 77, none, .mov false (.t 0)⟩,
                ⟨some 78, none, .mov false (.t 7)⟩,
                ⟨some 79, none, .call 16 [(false, .t 77), (false, .t 78)]⟩,
                ⟨some 80, none, .mov false (.t 7)⟩,
                ⟨some 81, none, .bin .i .sub (.t 79) (.t 80)⟩,
                ⟨some 82, none, .faddr 0 none (.t 9)⟩,
                ⟨none, none, .store 1 (.t 82) (.c (.d (.int .i64 1)))⟩,
                ⟨some 8, none, .mov false (.t 81)⟩] [0, 3, 3, 4, 5, 6, 7, 8, 9, 9])
              (.seq (.reg [⟨some 84, none, .mov false (.t 11)⟩,
                ⟨some 85, none, .call 17 [(false, .t 84)]⟩,
                ⟨some 83, none, .mov false (.t 85)⟩] [0, 3, 3, 4, 5, 6, 7, 9, 10, 11, 83]) <|
              .cond (.t 83)
                (.seq (.reg [⟨some 86, none, .faddr 0 none (.t 9)⟩,
                  ⟨none, none, .store 1 (.t 86) (.c (.d (.int .i64 2)))⟩] [0, 3, 3, 4, 5, 6, 7, 9]) <|
                .seq (.reg [⟨some 88, none, .mov false (.t 0)⟩,
                  ⟨some 89, none, .mov false (.t 7)⟩,
                  ⟨some 90, none, .slcs (.t 88) (some (.t 89)) none⟩,
                  ⟨some 91, none, .call 18 [(false, .t 90)]⟩,
                  ⟨some 87, none, .mov false (.t 91)⟩,
                  ⟨some 92, none, .ext (.t 87) 0⟩,
                  ⟨some 93, none, .ext (.t 87) 1⟩,
                  ⟨some 94, none, .ext (.t 87) 2⟩,
                  ⟨some 8, none, .mov false (.t 92)⟩,
                  ⟨some 95, none, .faddr 2 none (.t 9)⟩,
                  ⟨none, none, .store 1 (.t 95) (.t 93)⟩,
                  ⟨some 10, none, .mov false (.t 94)⟩] [0, 3, 3, 4, 5, 6, 7, 8, 9, 10]) <|
                .seq (.reg [⟨some 96, none, .mov false (.t 10)⟩,
                  ⟨some 97, none, .bin .i .neq (.t 96) (.c (.d (.int .i64 0)))⟩] [0, 3, 3, 4, 5, 6, 7, 8, 9, 10, 97]) <|
                .cond (.t 97)
                  (.goto 3)
                  (.skip))
                (.seq (.reg [⟨some 99, none, .mov false (.t 11)⟩,
                  ⟨some 100, none, .bin .i .eql (.t 99) (.c (.d (.int .u8 34)))⟩,
                  ⟨some 98, none, .mov false (.t 100)⟩] [0, 3, 3, 4, 5, 6, 7, 9, 10, 11, 98]) <|
                .cond (.t 98)
                  (.seq (.reg [⟨some 101, none, .faddr 0 none (.t 9)⟩,
                    ⟨none, none, .store 1 (.t 101) (.c (.d (.int .i64 3)))⟩] [0, 3, 3, 4, 5, 6, 7, 9, 10]) <|
                  .seq (.reg [⟨some 103, none, .mov false (.t 0)⟩,
                    ⟨some 104, none, .mov false (.t 7)⟩,
                    ⟨some 105, none, .slcs (.t 103) (some (.t 104)) none⟩,
                    ⟨some 106, none, .call 19 [(false, .t 105)]⟩,
                    ⟨some 102, none, .mov false (.t 106)⟩,
                    ⟨some 107, none, .ext (.t 102) 0⟩,
                    ⟨some 108, none, .ext (.t 102) 1⟩,
                    ⟨some 8, none, .mov false (.t 107)⟩,
                    ⟨some 109, none, .faddr 3 none (.t 9)⟩,
                    ⟨none, none, .store 1 (.t 109) (.t 108)⟩] [0, 3, 3, 4, 5, 6, 7, 8, 9, 10]) <|
                  .seq (.reg [⟨some 110, none, .mov false (.t 8)⟩,
                    ⟨some 111, none, .bin .i .eql (.t 110) (.c (.d (.int .i64 0)))⟩] [0, 3, 3, 4, 5, 6, 7, 8, 9, 10, 111]) <|
                  .cond (.t 111)
                    (.goto 3)
                    (.skip))
                  (.seq (.reg [⟨some 113, none, .mov false (.t 11)⟩,
                    ⟨some 114, none, .call 14 [(false, .c (.d (.str [123, 125, 91, 93, 40, 41, 60, 62, 61, 59, 44, 46, 45, 58, 63]))), (false, .t 113)]⟩,
                    ⟨some 115, none, .bin .i .geq (.t 114) (.c (.d (.int .i64 0)))⟩,
                    ⟨some 112, none, .mov false (.t 115)⟩] [0, 3, 3, 4, 5, 6, 7, 9, 9, 10, 112]) <|
                  .cond (.t 112)
                    (.reg [⟨some 116, none, .faddr 0 none (.t 9)⟩,
                      ⟨none, none, .store 1 (.t 116) (.c (.d (.int .i64 4)))⟩,
                      ⟨some 8, none, .mov false (.c (.d (.int .i64 1)))⟩] [0, 3, 3, 4, 5, 6, 7, 8, 9, 9])
                    (.goto 3))))))))
def sp_p10 : SC :=
  .reg [⟨some 117, none, .mov false (.t 0)⟩,
      ⟨some 118, none, .mov false (.t 7)⟩,
      ⟨some 119, none, .mov false (.t 7)⟩,
      ⟨some 120, none, .mov false (.t 8)⟩,
      ⟨some 121, none, .bin .i .add (.t 119) (.t 120)⟩,
      ⟨some 122, none, .slcs (.t 117) (some (.t 118)) (some (.t 121))⟩,
      ⟨some 123, none, .faddr 1 none (.t 9)⟩,
      ⟨none, none, .store 1 (.t 123) (.t 122)⟩] [0, 3, 3, 4, 5, 6, 7, 8, 9, 9]
def sp_p11 : SC :=
  .reg [⟨some 124, none, .mov true (.t 4)⟩,
      ⟨some 125, none, .load (some 6) (.t 9)⟩,
      ⟨some 126, none, .mk 6 [.t 125]⟩,
      ⟨some 127, none, .app false 6 72 (.t 124) (.t 126)⟩,
      ⟨some 4, none, .mov true (.t 127)⟩] [0, 3, 3, 4, 5, 6, 7, 8, 9, 9]
def sp_p12 : SC :=
  .reg [⟨some 128, none, .mov false (.t 7)⟩,
      ⟨some 129, none, .mov false (.t 8)⟩,
      ⟨some 130, none, .bin .i .add (.t 128) (.t 129)⟩,
      ⟨some 7, none, .mov false (.t 130)⟩] [0, 3, 3, 4, 5, 6, 7, 9, 9]
def sp_p13 : SC :=
  .reg [⟨some 10, none, .mov false (.c (.d (.int .i64 11)))⟩] [0, 3, 3, 4, 5, 6, 7, 9, 9, 10]
def sp_p14 : SC :=
  .goto 0
def sp_p15 : SC :=
  .label 2
def sp_p16 : SC :=
  .seq (.reg [⟨some 131, none, .mov false (.t 0)⟩,
      ⟨some 132, none, .mov false (.t 7)⟩,
      ⟨some 133, none, .bin .i .add (.t 132) (.c (.d (.int .i64 2)))⟩,
      ⟨some 134, none, .slcs (.t 131) (some (.t 133)) none⟩,
      ⟨some 135, none, .call 20 [(false, .t 134), (false, .c (.d (.str [42, 47])))]⟩,
      ⟨some 8, none, .mov false (.t 135)⟩] [0, 3, 3, 4, 5, 6, 7, 8, 9, 10]) <|
    .seq (.reg [⟨some 136, none, .mov false (.t 8)⟩,
      ⟨some 137, none, .bin .i .lss (.t 136) (.c (.d (.int .i64 0)))⟩] [0, 3, 3, 4, 5, 6, 7, 8, 9, 10, 137]) <|
    .cond (.t 137)
      (.goto 3)
      (.skip)
def sp_p17 : SC :=
  .seq (.reg [⟨some 138, none, .mov false (.t 8)⟩,
      ⟨some 139, none, .bin .i .add (.t 138) (.c (.d (.int .i64 4)))⟩,
      ⟨some 140, none, .mov false (.c (.d (.int .i64 0)))⟩] [0, 3, 3, 4, 5, 6, 7, 9, 9, 10, 139, 140]) <|
    .block 1 <| .loop l_lex_Split_3
def sp_p18 : SC :=
  .goto 0
def sp_p19 : SC :=
  .label 3
def sp_p20 : SC :=
  .seq (.reg [⟨some 153, none, .mov false (.t 10)⟩,
      ⟨some 154, none, .faddr 4 none (.t 9)⟩,
      ⟨some 155, none, .load none (.t 154)⟩,
      ⟨some 156, none, .faddr 5 none (.t 9)⟩,
      ⟨some 157, none, .load none (.t 156)⟩,
      ⟨some 158, none, .build [.int .i64 0, .int .i64 0, .int .i64 0, .int .i64 0] [(0, 1, .t 153), (2, 1, .t 155), (3, 1, .t 157)]⟩,
      ⟨some 2, none, .mov true (.c (.own 6 []))⟩,
      ⟨none, none, .store 4 (.t 3) (.t 158)⟩] [2, 3, 3]) <|
    .ret
def sp_p21 : SC :=
  .label 1
def sp_p22 : SC :=
  .reg [⟨some 159, none, .faddr 0 none (.t 9)⟩,
      ⟨none, none, .store 1 (.t 159) (.c (.d (.int .i64 5)))⟩] [3, 3, 4, 9, 9]
def sp_p23 : SC :=
  .reg [⟨some 160, none, .mov false (.t 4)⟩,
      ⟨some 161, none, .len false (.t 160)⟩,
      ⟨some 162, none, .bin .i .add (.t 161) (.c (.d (.int .i64 1)))⟩,
      ⟨some 163, none, .make (.agg [.int .i64 0, .str [], .int .u64 0, .slice 0 [], .int .i64 0, .int .i64 0]) 72 (.c (.d (.int .i64 0))) (.t 162)⟩,
      ⟨some 164, none, .mov false (.t 4)⟩,
      ⟨some 165, none, .app false 6 72 (.t 163) (.t 164)⟩,
      ⟨some 166, none, .load (some 6) (.t 9)⟩,
      ⟨some 167, none, .mk 6 [.t 166]⟩,
      ⟨some 168, none, .app false 6 72 (.t 165) (.t 167)⟩,
      ⟨some 169, none, .build [.int .i64 0, .int .i64 0, .int .i64 0, .int .i64 0] []⟩,
      ⟨some 2, none, .mov true (.t 168)⟩,
      ⟨none, none, .store 4 (.t 3) (.t 169)⟩] [2, 3, 3]
def sp_p24 : SC :=
  .ret
def sp_t24 : SC := sp_p24
def sp_t23 : SC := .seq sp_p23 sp_t24
def sp_t22 : SC := .seq sp_p22 sp_t23
def sp_t21 : SC := .seq sp_p21 sp_t22
def sp_t20 : SC := .seq sp_p20 sp_t21
def sp_t19 : SC := .seq sp_p19 sp_t20
def sp_t18 : SC := .seq sp_p18 sp_t19
def sp_t17 : SC := .seq sp_p17 sp_t18
def sp_t16 : SC := .seq sp_p16 sp_t17
def sp_t15 : SC := .seq sp_p15 sp_t16
def sp_t14 : SC := .seq sp_p14 sp_t15
def sp_t13 : SC := .seq sp_p13 sp_t14
def sp_t12 : SC := .seq sp_p12 sp_t13
def sp_t11 : SC := .seq sp_p11 sp_t12
def sp_t10 : SC := .seq sp_p10 sp_t11
def sp_t9 : SC := .seq sp_p9 sp_t10
def sp_t8 : SC := .seq sp_p8 sp_t9
def sp_t7 : SC := .seq sp_p7 sp_t8
def sp_t6 : SC := .seq sp_p6 sp_t7
def sp_t5 : SC := .seq sp_p5 sp_t6
def sp_t4 : SC := .seq sp_p4 sp_t5
def sp_t3 : SC := .seq sp_p3 sp_t4
def sp_t2 : SC := .seq sp_p2 sp_t3
def sp_t1 : SC := .seq sp_p1 sp_t2
def sp_t0 : SC := .seq sp_p0 sp_t1
theorem sp_whole : b_lex_Split_49 = sp_t0 := rfl
end Go.Proofs.Ytladdhfkmnhmfaa

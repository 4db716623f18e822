/- The code of functions of erasurelaw32 in the form of the abstract machine, and that it fits. -/
import Derived.Test.YtilbfoijfiebdaaCNames
namespace Go.Proofs.Ytilbfoijfiebdaa.Am
open Go
set_option linter.unusedVariables false
set_option linter.unusedSimpArgs false
set_option maxRecDepth 100000
/- erasure/erasurelaw32.DiskLimit -/
def r_erasurelaw32DiskLimit_0 : ACode := .reg [
    ⟨some 4, none, .mov (.k (.bool false))⟩] none [0, 1]
def r_erasurelaw32DiskLimit_1 : ACode := .reg [
    ⟨some 10, none, .mov (.t 1)⟩,
    ⟨some 11, none, .len (.t 10)⟩,
    ⟨some 12, none, .bin .gtr (.t 11) (.k (.int .i64 (100)))⟩] none [0, 1, 12]
def r_erasurelaw32DiskLimit_2 : ACode := .reg [
    ⟨some 13, none, .call 9 []⟩,
    ⟨some 4, none, .mov (.t 13)⟩] none [4]
def r_erasurelaw32DiskLimit_3 : ACode := .reg [
    ⟨some 14, none, .mov (.t 0)⟩,
    ⟨some 15, none, .conv .u64 (.t 14)⟩,
    ⟨some 16, none, .bin .rem (.t 15) (.k (.int .u64 (120)))⟩,
    ⟨some 17, none, .conv .i64 (.t 16)⟩,
    ⟨some 5, none, .mov (.t 17)⟩] none [1, 5]
def r_erasurelaw32DiskLimit_4 : ACode := .reg [
    ⟨some 19, none, .call 11 []⟩,
    ⟨some 20, none, .mov (.t 5)⟩,
    ⟨some 21, none, .bin .sub (.k (.int .i64 (131072))) (.t 20)⟩,
    ⟨some 22, none, .make 5 1 1 [.int .u8 0] (.t 21) (.t 21) false⟩,
    ⟨some 23, none, .call 10 [(.t 19), (.t 22)]⟩,
    ⟨some 18, none, .mov (.t 23)⟩,
    ⟨some 24, none, .ext 0 (.t 18)⟩,
    ⟨some 25, none, .ext 1 (.t 18)⟩,
    ⟨some 6, none, .alloc 26 [.slice none 0 0, .slice none 0 0, .int .i64 0, .bool false]⟩,
    ⟨none, none, .store 4 (.t 6) (.t 24)⟩,
    ⟨some 7, none, .mov (.t 25)⟩] (some [0, 0, 2, 6, 15, 31, 63, 63, 0, 383, 1023]) [1, 5, 6, 7]
def r_erasurelaw32DiskLimit_5 : ACode := .reg [
    ⟨some 27, none, .load (some 4) (.t 6)⟩,
    ⟨some 28, none, .mov (.t 1)⟩,
    ⟨some 29, none, .call 10 [(.t 27), (.t 28)]⟩,
    ⟨some 26, none, .mov (.t 29)⟩,
    ⟨some 30, none, .ext 0 (.t 26)⟩,
    ⟨some 31, none, .ext 1 (.t 26)⟩,
    ⟨some 8, none, .alloc 26 [.slice none 0 0, .slice none 0 0, .int .i64 0, .bool false]⟩,
    ⟨none, none, .store 4 (.t 8) (.t 30)⟩,
    ⟨some 9, none, .mov (.t 31)⟩] none [1, 5, 6, 7, 8, 9]
def r_erasurelaw32DiskLimit_6 : ACode := .reg [
    ⟨some 32, none, .mov (.t 1)⟩,
    ⟨some 33, none, .len (.t 32)⟩,
    ⟨some 34, none, .mov (.t 5)⟩,
    ⟨some 35, none, .bin .gtr (.t 33) (.t 34)⟩] none [1, 5, 6, 7, 8, 9, 35]
def r_erasurelaw32DiskLimit_7 : ACode := .reg [
    ⟨some 36, none, .mov (.t 7)⟩,
    ⟨some 37, none, .bin .eql (.t 36) (.k (.int .i64 (0)))⟩,
    ⟨some 38, none, .mov (.t 37)⟩,
    ⟨some 39, (some (38, true)), .mov (.t 9)⟩,
    ⟨some 40, (some (38, true)), .bin .eql (.t 39) (.k (.int .i64 (8)))⟩,
    ⟨some 41, none, .pick (.t 38) (.t 40) (.k (.bool false))⟩,
    ⟨some 42, none, .mov (.t 41)⟩,
    ⟨some 43, (some (42, true)), .load (some 4) (.t 8)⟩,
    ⟨some 44, (some (42, true)), .build [.slice none 0 0, .slice none 0 0, .int .i64 0, .bool false] []⟩,
    ⟨some 45, (some (42, true)), .call 12 [(.t 43), (.t 44)]⟩,
    ⟨some 46, none, .pick (.t 42) (.t 45) (.k (.bool false))⟩,
    ⟨some 47, none, .mov (.t 46)⟩,
    ⟨some 48, (some (47, true)), .fld 1 (.t 6)⟩,
    ⟨some 49, (some (47, true)), .load none (.t 48)⟩,
    ⟨some 50, (some (47, true)), .len (.t 49)⟩,
    ⟨some 51, (some (47, true)), .mov (.t 5)⟩,
    ⟨some 52, (some (47, true)), .bin .sub (.k (.int .i64 (131072))) (.t 51)⟩,
    ⟨some 53, (some (47, true)), .bin .eql (.t 50) (.t 52)⟩,
    ⟨some 54, none, .pick (.t 47) (.t 53) (.k (.bool false))⟩,
    ⟨some 55, none, .mov (.t 54)⟩,
    ⟨some 56, (some (55, true)), .call 9 []⟩,
    ⟨some 57, none, .pick (.t 55) (.t 56) (.k (.bool false))⟩,
    ⟨some 4, none, .mov (.t 57)⟩] none [4]
def r_erasurelaw32DiskLimit_8 : ACode := .reg [
    ⟨some 58, none, .mov (.t 7)⟩,
    ⟨some 59, none, .bin .eql (.t 58) (.k (.int .i64 (0)))⟩,
    ⟨some 60, none, .mov (.t 59)⟩,
    ⟨some 61, (some (60, true)), .mov (.t 9)⟩,
    ⟨some 62, (some (60, true)), .bin .eql (.t 61) (.k (.int .i64 (0)))⟩,
    ⟨some 63, none, .pick (.t 60) (.t 62) (.k (.bool false))⟩,
    ⟨some 64, none, .mov (.t 63)⟩,
    ⟨some 65, (some (64, true)), .fld 1 (.t 8)⟩,
    ⟨some 66, (some (64, true)), .load none (.t 65)⟩,
    ⟨some 67, (some (64, true)), .len (.t 66)⟩,
    ⟨some 68, (some (64, true)), .mov (.t 5)⟩,
    ⟨some 69, (some (64, true)), .bin .sub (.k (.int .i64 (131072))) (.t 68)⟩,
    ⟨some 70, (some (64, true)), .mov (.t 1)⟩,
    ⟨some 71, (some (64, true)), .len (.t 70)⟩,
    ⟨some 72, (some (64, true)), .bin .add (.t 69) (.t 71)⟩,
    ⟨some 73, (some (64, true)), .bin .eql (.t 67) (.t 72)⟩,
    ⟨some 74, none, .pick (.t 64) (.t 73) (.k (.bool false))⟩,
    ⟨some 75, none, .mov (.t 74)⟩,
    ⟨some 76, (some (75, true)), .call 9 []⟩,
    ⟨some 77, none, .pick (.t 75) (.t 76) (.k (.bool false))⟩,
    ⟨some 4, none, .mov (.t 77)⟩] none [4]
def c_erasurelaw32DiskLimit : ACode :=
  (.seq r_erasurelaw32DiskLimit_0
  (.seq (.seq r_erasurelaw32DiskLimit_1
    (.cond (.t 12)
     (.seq r_erasurelaw32DiskLimit_2
      .ret)
     .skip))
   (.seq r_erasurelaw32DiskLimit_3
    (.seq r_erasurelaw32DiskLimit_4
     (.seq r_erasurelaw32DiskLimit_5
      (.seq (.seq r_erasurelaw32DiskLimit_6
        (.cond (.t 35)
         (.seq r_erasurelaw32DiskLimit_7
          .ret)
         .skip))
       (.seq r_erasurelaw32DiskLimit_8
        .ret)))))))
theorem fits_erasurelaw32DiskLimit : Fits Try.prog 3 78 c_erasurelaw32DiskLimit [.t 4] := ⟨⟨Try.f3, _, _, Try.func3, rfl, rfl, rfl, by decide, by kernel_rfl, by kernel_rfl⟩, Try.checked.mixed⟩
/- erasure/erasurelaw32.DiskWhole -/
def r_erasurelaw32DiskWhole_0 : ACode := .reg [
    ⟨some 6, none, .mov (.k (.bool false))⟩] none [0, 1, 2]
def r_erasurelaw32DiskWhole_1 : ACode := .reg [
    ⟨some 15, none, .mov (.t 0)⟩,
    ⟨some 16, none, .len (.t 15)⟩,
    ⟨some 17, none, .bin .gtr (.t 16) (.k (.int .i64 (100)))⟩,
    ⟨some 18, none, .mov (.t 17)⟩,
    ⟨some 19, (some (18, false)), .mov (.t 1)⟩,
    ⟨some 20, (some (18, false)), .len (.t 19)⟩,
    ⟨some 21, (some (18, false)), .bin .gtr (.t 20) (.k (.int .i64 (100)))⟩,
    ⟨some 22, none, .pick (.t 18) (.k (.bool true)) (.t 21)⟩] none [0, 1, 2, 22]
def r_erasurelaw32DiskWhole_2 : ACode := .reg [
    ⟨some 23, none, .call 9 []⟩,
    ⟨some 6, none, .mov (.t 23)⟩] none [6]
def r_erasurelaw32DiskWhole_3 : ACode := .reg [
    ⟨some 25, none, .call 11 []⟩,
    ⟨some 26, none, .mov (.t 0)⟩,
    ⟨some 27, none, .call 10 [(.t 25), (.t 26)]⟩,
    ⟨some 24, none, .mov (.t 27)⟩,
    ⟨some 28, none, .ext 0 (.t 24)⟩,
    ⟨some 29, none, .ext 1 (.t 24)⟩,
    ⟨some 7, none, .alloc 26 [.slice none 0 0, .slice none 0 0, .int .i64 0, .bool false]⟩,
    ⟨none, none, .store 4 (.t 7) (.t 28)⟩,
    ⟨some 8, none, .mov (.t 29)⟩] none [0, 1, 2, 7, 8]
def r_erasurelaw32DiskWhole_4 : ACode := .reg [
    ⟨some 31, none, .load (some 4) (.t 7)⟩,
    ⟨some 32, none, .mov (.t 2)⟩,
    ⟨some 33, none, .conv .u64 (.t 32)⟩,
    ⟨some 34, none, .bin .rem (.t 33) (.k (.int .u64 (130)))⟩,
    ⟨some 35, none, .conv .i64 (.t 34)⟩,
    ⟨some 36, none, .call 13 [(.t 31), (.t 35)]⟩,
    ⟨some 30, none, .mov (.t 36)⟩,
    ⟨some 37, none, .ext 0 (.t 30)⟩,
    ⟨some 38, none, .ext 1 (.t 30)⟩,
    ⟨none, none, .store 4 (.t 7) (.t 37)⟩,
    ⟨some 9, none, .mov (.t 38)⟩] none [0, 1, 2, 7, 8, 9]
def r_erasurelaw32DiskWhole_5 : ACode := .reg [
    ⟨some 40, none, .load (some 4) (.t 7)⟩,
    ⟨some 41, none, .mov (.t 1)⟩,
    ⟨some 42, none, .call 10 [(.t 40), (.t 41)]⟩,
    ⟨some 39, none, .mov (.t 42)⟩,
    ⟨some 43, none, .ext 0 (.t 39)⟩,
    ⟨some 44, none, .ext 1 (.t 39)⟩,
    ⟨some 10, none, .alloc 26 [.slice none 0 0, .slice none 0 0, .int .i64 0, .bool false]⟩,
    ⟨none, none, .store 4 (.t 10) (.t 43)⟩,
    ⟨some 11, none, .mov (.t 44)⟩] none [0, 1, 2, 8, 9, 10, 11]
def r_erasurelaw32DiskWhole_6 : ACode := .reg [
    ⟨some 45, none, .mov (.t 2)⟩,
    ⟨some 46, none, .conv .u64 (.t 45)⟩,
    ⟨some 47, none, .bin .rem (.t 46) (.k (.int .u64 (130)))⟩,
    ⟨some 48, none, .conv .i64 (.t 47)⟩,
    ⟨some 12, none, .mov (.t 48)⟩] none [0, 1, 8, 9, 10, 11, 12]
def r_erasurelaw32DiskWhole_7 : ACode := .reg [
    ⟨some 49, none, .mov (.t 12)⟩,
    ⟨some 50, none, .mov (.t 1)⟩,
    ⟨some 51, none, .len (.t 50)⟩,
    ⟨some 52, none, .bin .lss (.t 49) (.t 51)⟩] none [0, 1, 8, 9, 10, 11, 12, 52]
def r_erasurelaw32DiskWhole_8 : ACode := .reg [
    ⟨some 53, none, .mov (.t 8)⟩,
    ⟨some 54, none, .bin .eql (.t 53) (.k (.int .i64 (0)))⟩,
    ⟨some 55, none, .mov (.t 54)⟩,
    ⟨some 56, (some (55, true)), .mov (.t 9)⟩,
    ⟨some 57, (some (55, true)), .bin .eql (.t 56) (.k (.int .i64 (0)))⟩,
    ⟨some 58, none, .pick (.t 55) (.t 57) (.k (.bool false))⟩,
    ⟨some 59, none, .mov (.t 58)⟩,
    ⟨some 60, (some (59, true)), .mov (.t 11)⟩,
    ⟨some 61, (some (59, true)), .bin .eql (.t 60) (.k (.int .i64 (104)))⟩,
    ⟨some 62, none, .pick (.t 59) (.t 61) (.k (.bool false))⟩,
    ⟨some 63, none, .mov (.t 62)⟩,
    ⟨some 64, (some (63, true)), .fld 3 (.t 10)⟩,
    ⟨some 65, (some (63, true)), .load none (.t 64)⟩,
    ⟨some 66, none, .pick (.t 63) (.t 65) (.k (.bool false))⟩,
    ⟨some 67, none, .mov (.t 66)⟩,
    ⟨some 68, (some (67, true)), .fld 1 (.t 10)⟩,
    ⟨some 69, (some (67, true)), .load none (.t 68)⟩,
    ⟨some 70, (some (67, true)), .tostr (.t 69)⟩,
    ⟨some 71, (some (67, true)), .mov (.t 0)⟩,
    ⟨some 72, (some (67, true)), .tostr (.t 71)⟩,
    ⟨some 73, (some (67, true)), .mov (.t 1)⟩,
    ⟨some 74, (some (67, true)), .mov (.t 12)⟩,
    ⟨some 75, (some (67, true)), .sl 1 (.t 73) none (some (.t 74)) none⟩,
    ⟨some 76, (some (67, true)), .tostr (.t 75)⟩,
    ⟨some 77, (some (67, true)), .bin .add (.t 72) (.t 76)⟩,
    ⟨some 78, (some (67, true)), .bin .eql (.t 70) (.t 77)⟩,
    ⟨some 79, none, .pick (.t 67) (.t 78) (.k (.bool false))⟩,
    ⟨some 80, none, .mov (.t 79)⟩,
    ⟨some 81, (some (80, true)), .call 9 []⟩,
    ⟨some 82, none, .pick (.t 80) (.t 81) (.k (.bool false))⟩,
    ⟨some 6, none, .mov (.t 82)⟩] (some [0, 1, 3, 7, 15, 31, 63, 127, 255, 511, 1023, 2047, 4095, 8191, 16383, 32767, 65535, 131071, 32767, 294911, 32767, 32767, 3178495, 7372799, 16547839, 33554431, 67108863, 134217727, 268435455, 536870911, 1073741823]) [6]
def r_erasurelaw32DiskWhole_9 : ACode := .reg [
    ⟨some 84, none, .load (some 4) (.t 10)⟩,
    ⟨some 85, none, .call 14 [(.t 84)]⟩,
    ⟨some 83, none, .mov (.t 85)⟩,
    ⟨some 86, none, .ext 0 (.t 83)⟩,
    ⟨some 87, none, .ext 1 (.t 83)⟩,
    ⟨some 13, none, .mov (.t 86)⟩,
    ⟨some 14, none, .mov (.t 87)⟩] none [0, 1, 8, 9, 10, 11, 12, 13, 14]
def r_erasurelaw32DiskWhole_10 : ACode := .reg [
    ⟨some 88, none, .mov (.t 8)⟩,
    ⟨some 89, none, .bin .eql (.t 88) (.k (.int .i64 (0)))⟩,
    ⟨some 90, none, .mov (.t 89)⟩,
    ⟨some 91, (some (90, true)), .mov (.t 9)⟩,
    ⟨some 92, (some (90, true)), .bin .eql (.t 91) (.k (.int .i64 (0)))⟩,
    ⟨some 93, none, .pick (.t 90) (.t 92) (.k (.bool false))⟩,
    ⟨some 94, none, .mov (.t 93)⟩,
    ⟨some 95, (some (94, true)), .mov (.t 11)⟩,
    ⟨some 96, (some (94, true)), .bin .eql (.t 95) (.k (.int .i64 (0)))⟩,
    ⟨some 97, none, .pick (.t 94) (.t 96) (.k (.bool false))⟩,
    ⟨some 98, none, .mov (.t 97)⟩,
    ⟨some 99, (some (98, true)), .mov (.t 14)⟩,
    ⟨some 100, (some (98, true)), .bin .eql (.t 99) (.k (.int .i64 (0)))⟩,
    ⟨some 101, none, .pick (.t 98) (.t 100) (.k (.bool false))⟩,
    ⟨some 102, none, .mov (.t 101)⟩,
    ⟨some 103, (some (102, true)), .mov (.t 13)⟩,
    ⟨some 104, (some (102, true)), .tostr (.t 103)⟩,
    ⟨some 105, (some (102, true)), .mov (.t 0)⟩,
    ⟨some 106, (some (102, true)), .tostr (.t 105)⟩,
    ⟨some 107, (some (102, true)), .mov (.t 1)⟩,
    ⟨some 108, (some (102, true)), .tostr (.t 107)⟩,
    ⟨some 109, (some (102, true)), .bin .add (.t 106) (.t 108)⟩,
    ⟨some 110, (some (102, true)), .bin .eql (.t 104) (.t 109)⟩,
    ⟨some 111, none, .pick (.t 102) (.t 110) (.k (.bool false))⟩,
    ⟨some 112, none, .mov (.t 111)⟩,
    ⟨some 113, (some (112, true)), .fld 2 (.t 10)⟩,
    ⟨some 114, (some (112, true)), .load none (.t 113)⟩,
    ⟨some 115, (some (112, true)), .mov (.t 12)⟩,
    ⟨some 116, (some (112, true)), .mov (.t 1)⟩,
    ⟨some 117, (some (112, true)), .len (.t 116)⟩,
    ⟨some 118, (some (112, true)), .bin .sub (.t 115) (.t 117)⟩,
    ⟨some 119, (some (112, true)), .bin .eql (.t 114) (.t 118)⟩,
    ⟨some 120, none, .pick (.t 112) (.t 119) (.k (.bool false))⟩,
    ⟨some 121, none, .mov (.t 120)⟩,
    ⟨some 122, (some (121, true)), .call 9 []⟩,
    ⟨some 123, none, .pick (.t 121) (.t 122) (.k (.bool false))⟩,
    ⟨some 6, none, .mov (.t 123)⟩] none [6]
def c_erasurelaw32DiskWhole : ACode :=
  (.seq r_erasurelaw32DiskWhole_0
  (.seq (.seq r_erasurelaw32DiskWhole_1
    (.cond (.t 22)
     (.seq r_erasurelaw32DiskWhole_2
      .ret)
     .skip))
   (.seq r_erasurelaw32DiskWhole_3
    (.seq r_erasurelaw32DiskWhole_4
     (.seq r_erasurelaw32DiskWhole_5
      (.seq r_erasurelaw32DiskWhole_6
       (.seq (.seq r_erasurelaw32DiskWhole_7
         (.cond (.t 52)
          (.seq r_erasurelaw32DiskWhole_8
           .ret)
          .skip))
        (.seq r_erasurelaw32DiskWhole_9
         (.seq r_erasurelaw32DiskWhole_10
          .ret)))))))))
theorem fits_erasurelaw32DiskWhole : Fits Try.prog 4 124 c_erasurelaw32DiskWhole [.t 6] := ⟨⟨Try.f4, _, _, Try.func4, rfl, rfl, rfl, by decide, by kernel_rfl, by kernel_rfl⟩, Try.checked.mixed⟩
/- erasure/erasurelaw32.DiskPlays -/
def r_erasurelaw32DiskPlays_0 : ACode := .reg [
    ⟨some 2, none, .mov (.k (.bool false))⟩] none [0]
def r_erasurelaw32DiskPlays_1 : ACode := .reg [
    ⟨some 10, none, .mov (.t 0)⟩,
    ⟨some 11, none, .call 15 [(.t 10)]⟩,
    ⟨some 12, none, .un .not (.t 11)⟩] none [0, 12]
def r_erasurelaw32DiskPlays_2 : ACode := .reg [
    ⟨some 13, none, .call 9 []⟩,
    ⟨some 2, none, .mov (.t 13)⟩] none [2]
def r_erasurelaw32DiskPlays_3 : ACode := .reg [
    ⟨some 14, none, .call 11 []⟩,
    ⟨some 15, none, .call 16 []⟩,
    ⟨some 3, none, .alloc 26 [.slice none 0 0, .slice none 0 0, .int .i64 0, .bool false]⟩,
    ⟨some 4, none, .alloc 26 [.slice none 0 0, .slice none 0 0, .int .i64 0, .bool false]⟩,
    ⟨none, none, .store 4 (.t 3) (.t 14)⟩,
    ⟨none, none, .store 4 (.t 4) (.t 15)⟩] none [0, 3, 4]
def r_erasurelaw32DiskPlays_4 : ACode := .reg [
    ⟨some 5, none, .mov (.k (.int .i64 (0)))⟩] none [0, 3, 4, 5]
def r_erasurelaw32DiskPlays_5 : ACode := .reg [
    ⟨some 16, none, .mov (.t 5)⟩,
    ⟨some 17, none, .mov (.t 0)⟩,
    ⟨some 18, none, .len (.t 17)⟩,
    ⟨some 19, none, .bin .lss (.t 16) (.t 18)⟩] none [0, 3, 4, 5, 19]
def r_erasurelaw32DiskPlays_6 : ACode := .reg [
    ⟨some 23, none, .load (some 4) (.t 3)⟩,
    ⟨some 24, none, .mov (.t 0)⟩,
    ⟨some 25, none, .mov (.t 5)⟩,
    ⟨some 26, none, .idxa 3 (.t 24) (.t 25)⟩,
    ⟨some 27, none, .load (some 3) (.t 26)⟩,
    ⟨some 28, none, .call 17 [(.t 23), (.t 27)]⟩,
    ⟨some 22, none, .mov (.t 28)⟩,
    ⟨some 29, none, .ext 0 (.t 22)⟩,
    ⟨some 30, none, .ext 1 (.t 22)⟩,
    ⟨some 6, none, .alloc 26 [.slice none 0 0, .slice none 0 0, .int .i64 0, .bool false]⟩,
    ⟨none, none, .store 4 (.t 6) (.t 29)⟩,
    ⟨some 7, none, .mov (.t 30)⟩] (some [0, 0, 0, 6, 14, 31, 63, 127, 127, 0, 767, 2047]) [0, 3, 4, 5, 6, 7]
def r_erasurelaw32DiskPlays_7 : ACode := .reg [
    ⟨some 32, none, .load (some 4) (.t 4)⟩,
    ⟨some 33, none, .mov (.t 0)⟩,
    ⟨some 34, none, .mov (.t 5)⟩,
    ⟨some 35, none, .idxa 3 (.t 33) (.t 34)⟩,
    ⟨some 36, none, .load (some 3) (.t 35)⟩,
    ⟨some 37, none, .call 18 [(.t 32), (.t 36)]⟩,
    ⟨some 31, none, .mov (.t 37)⟩,
    ⟨some 38, none, .ext 0 (.t 31)⟩,
    ⟨some 39, none, .ext 1 (.t 31)⟩,
    ⟨some 8, none, .alloc 26 [.slice none 0 0, .slice none 0 0, .int .i64 0, .bool false]⟩,
    ⟨none, none, .store 4 (.t 8) (.t 38)⟩,
    ⟨some 9, none, .mov (.t 39)⟩] (some [0, 0, 0, 6, 14, 31, 63, 127, 127, 0, 767, 2047]) [0, 3, 4, 5, 6, 7, 8, 9]
def r_erasurelaw32DiskPlays_8 : ACode := .reg [
    ⟨some 40, none, .mov (.t 7)⟩,
    ⟨some 41, none, .mov (.t 9)⟩,
    ⟨some 42, none, .bin .neq (.t 40) (.t 41)⟩,
    ⟨some 43, none, .mov (.t 42)⟩,
    ⟨some 44, (some (43, false)), .load (some 4) (.t 6)⟩,
    ⟨some 45, (some (43, false)), .load (some 4) (.t 8)⟩,
    ⟨some 46, (some (43, false)), .call 12 [(.t 44), (.t 45)]⟩,
    ⟨some 47, (some (43, false)), .un .not (.t 46)⟩,
    ⟨some 48, none, .pick (.t 43) (.k (.bool true)) (.t 47)⟩] none [0, 3, 4, 5, 6, 7, 8, 48]
def r_erasurelaw32DiskPlays_9 : ACode := .reg [
    ⟨some 2, none, .mov (.k (.bool false))⟩] none [2]
def r_erasurelaw32DiskPlays_10 : ACode := .reg [
    ⟨some 49, none, .mov (.t 7)⟩,
    ⟨some 50, none, .bin .eql (.t 49) (.k (.int .i64 (0)))⟩,
    ⟨some 51, none, .mov (.t 50)⟩,
    ⟨some 52, (some (51, false)), .mov (.t 7)⟩,
    ⟨some 53, (some (51, false)), .bin .eql (.t 52) (.k (.int .i64 (104)))⟩,
    ⟨some 54, none, .pick (.t 51) (.k (.bool true)) (.t 53)⟩] none [0, 3, 4, 5, 6, 8, 54]
def r_erasurelaw32DiskPlays_11 : ACode := .reg [
    ⟨some 55, none, .load (some 4) (.t 6)⟩,
    ⟨some 56, none, .load (some 4) (.t 8)⟩,
    ⟨none, none, .store 4 (.t 3) (.t 55)⟩,
    ⟨none, none, .store 4 (.t 4) (.t 56)⟩] (some [0, 0, 1, 7]) [0, 3, 4, 5]
def r_erasurelaw32DiskPlays_12 : ACode := .reg [
    ⟨some 57, none, .load (some 4) (.t 3)⟩,
    ⟨some 58, none, .load (some 4) (.t 4)⟩,
    ⟨some 59, none, .call 19 [(.t 57), (.t 58)]⟩,
    ⟨some 60, none, .un .not (.t 59)⟩,
    ⟨some 61, none, .mov (.t 60)⟩,
    ⟨some 62, (some (61, false)), .load (some 4) (.t 3)⟩,
    ⟨some 63, (some (61, false)), .call 20 [(.t 62)]⟩,
    ⟨some 64, (some (61, false)), .un .not (.t 63)⟩,
    ⟨some 65, none, .pick (.t 61) (.k (.bool true)) (.t 64)⟩] none [0, 3, 4, 5, 65]
def r_erasurelaw32DiskPlays_13 : ACode := .reg [
    ⟨some 2, none, .mov (.k (.bool false))⟩] none [2]
def r_erasurelaw32DiskPlays_14 : ACode := .reg [
    ⟨some 20, none, .mov (.t 5)⟩,
    ⟨some 21, none, .bin .add (.t 20) (.k (.int .i64 (1)))⟩,
    ⟨some 5, none, .mov (.t 21)⟩] none [0, 3, 4, 5]
def r_erasurelaw32DiskPlays_15 : ACode := .reg [
    ⟨some 66, none, .call 9 []⟩,
    ⟨some 2, none, .mov (.t 66)⟩] none [2]
def c_erasurelaw32DiskPlays : ACode :=
  (.seq r_erasurelaw32DiskPlays_0
  (.seq (.seq r_erasurelaw32DiskPlays_1
    (.cond (.t 12)
     (.seq r_erasurelaw32DiskPlays_2
      .ret)
     .skip))
   (.seq r_erasurelaw32DiskPlays_3
    (.seq (.seq r_erasurelaw32DiskPlays_4
      (.block 0 (.loop (.seq (.seq r_erasurelaw32DiskPlays_5
          (.cond (.t 19)
           .skip
           (.exit 0)))
         (.seq (.block 1 (.seq r_erasurelaw32DiskPlays_6
            (.seq r_erasurelaw32DiskPlays_7
             (.seq (.seq r_erasurelaw32DiskPlays_8
               (.cond (.t 48)
                (.seq r_erasurelaw32DiskPlays_9
                 .ret)
                .skip))
              (.seq (.seq r_erasurelaw32DiskPlays_10
                (.cond (.t 54)
                 r_erasurelaw32DiskPlays_11
                 .skip))
               (.seq r_erasurelaw32DiskPlays_12
                (.cond (.t 65)
                 (.seq r_erasurelaw32DiskPlays_13
                  .ret)
                 .skip)))))))
          r_erasurelaw32DiskPlays_14)))))
     (.seq r_erasurelaw32DiskPlays_15
      .ret)))))
theorem fits_erasurelaw32DiskPlays : Fits Try.prog 5 67 c_erasurelaw32DiskPlays [.t 2] := ⟨⟨Try.f5, _, _, Try.func5, rfl, rfl, rfl, by decide, by kernel_rfl, by kernel_rfl⟩, Try.checked.mixed⟩
/- erasure/erasurelaw32.DiskRaw -/
def r_erasurelaw32DiskRaw_0 : ACode := .reg [
    ⟨some 2, none, .box 26 (.t 0)⟩,
    ⟨some 3, none, .box 41 (.t 1)⟩,
    ⟨some 4, none, .mov (.k (.bool false))⟩] none [2, 3]
def r_erasurelaw32DiskRaw_1 : ACode := .reg [
    ⟨some 9, none, .fld 0 (.t 2)⟩,
    ⟨some 10, none, .load none (.t 9)⟩,
    ⟨some 11, none, .len (.t 10)⟩,
    ⟨some 12, none, .bin .gtr (.t 11) (.k (.int .i64 (200)))⟩,
    ⟨some 13, none, .mov (.t 12)⟩,
    ⟨some 14, (some (13, false)), .fld 1 (.t 2)⟩,
    ⟨some 15, (some (13, false)), .load none (.t 14)⟩,
    ⟨some 16, (some (13, false)), .len (.t 15)⟩,
    ⟨some 17, (some (13, false)), .bin .gtr (.t 16) (.k (.int .i64 (200)))⟩,
    ⟨some 18, none, .pick (.t 13) (.k (.bool true)) (.t 17)⟩,
    ⟨some 19, none, .mov (.t 18)⟩,
    ⟨some 20, (some (19, false)), .fld 2 (.t 3)⟩,
    ⟨some 21, (some (19, false)), .load none (.t 20)⟩,
    ⟨some 22, (some (19, false)), .len (.t 21)⟩,
    ⟨some 23, (some (19, false)), .bin .gtr (.t 22) (.k (.int .i64 (200)))⟩,
    ⟨some 24, none, .pick (.t 19) (.k (.bool true)) (.t 23)⟩] none [2, 3, 24]
def r_erasurelaw32DiskRaw_2 : ACode := .reg [
    ⟨some 25, none, .call 9 []⟩,
    ⟨some 4, none, .mov (.t 25)⟩] none [4]
def r_erasurelaw32DiskRaw_3 : ACode := .reg [
    ⟨some 27, none, .load (some 4) (.t 2)⟩,
    ⟨some 28, none, .load (some 3) (.t 3)⟩,
    ⟨some 29, none, .call 17 [(.t 27), (.t 28)]⟩,
    ⟨some 26, none, .mov (.t 29)⟩,
    ⟨some 30, none, .ext 0 (.t 26)⟩,
    ⟨some 31, none, .ext 1 (.t 26)⟩,
    ⟨some 5, none, .alloc 26 [.slice none 0 0, .slice none 0 0, .int .i64 0, .bool false]⟩,
    ⟨none, none, .store 4 (.t 5) (.t 30)⟩,
    ⟨some 6, none, .mov (.t 31)⟩] none [2, 3, 5, 6]
def r_erasurelaw32DiskRaw_4 : ACode := .reg [
    ⟨some 33, none, .load (some 4) (.t 2)⟩,
    ⟨some 34, none, .load (some 3) (.t 3)⟩,
    ⟨some 35, none, .call 18 [(.t 33), (.t 34)]⟩,
    ⟨some 32, none, .mov (.t 35)⟩,
    ⟨some 36, none, .ext 0 (.t 32)⟩,
    ⟨some 37, none, .ext 1 (.t 32)⟩,
    ⟨some 7, none, .alloc 26 [.slice none 0 0, .slice none 0 0, .int .i64 0, .bool false]⟩,
    ⟨none, none, .store 4 (.t 7) (.t 36)⟩,
    ⟨some 8, none, .mov (.t 37)⟩] none [2, 5, 6, 7, 8]
def r_erasurelaw32DiskRaw_5 : ACode := .reg [
    ⟨some 38, none, .mov (.t 6)⟩,
    ⟨some 39, none, .mov (.t 8)⟩,
    ⟨some 40, none, .bin .eql (.t 38) (.t 39)⟩,
    ⟨some 41, none, .mov (.t 40)⟩,
    ⟨some 42, (some (41, true)), .load (some 4) (.t 5)⟩,
    ⟨some 43, (some (41, true)), .load (some 4) (.t 7)⟩,
    ⟨some 44, (some (41, true)), .call 12 [(.t 42), (.t 43)]⟩,
    ⟨some 45, none, .pick (.t 41) (.t 44) (.k (.bool false))⟩,
    ⟨some 46, none, .mov (.t 45)⟩,
    ⟨some 47, (some (46, true)), .load (some 4) (.t 2)⟩,
    ⟨some 48, (some (46, true)), .call 20 [(.t 47)]⟩,
    ⟨some 49, (some (46, true)), .load (some 4) (.t 2)⟩,
    ⟨some 50, (some (46, true)), .call 21 [(.t 49)]⟩,
    ⟨some 51, (some (46, true)), .eqb false (.t 48) (.t 50)⟩,
    ⟨some 52, none, .pick (.t 46) (.t 51) (.k (.bool false))⟩,
    ⟨some 53, none, .mov (.t 52)⟩,
    ⟨some 54, (some (53, true)), .load (some 4) (.t 2)⟩,
    ⟨some 55, (some (53, true)), .load (some 4) (.t 2)⟩,
    ⟨some 56, (some (53, true)), .call 19 [(.t 54), (.t 55)]⟩,
    ⟨some 57, none, .pick (.t 53) (.t 56) (.k (.bool false))⟩,
    ⟨some 58, none, .mov (.t 57)⟩,
    ⟨some 59, (some (58, true)), .call 9 []⟩,
    ⟨some 60, none, .pick (.t 58) (.t 59) (.k (.bool false))⟩,
    ⟨some 4, none, .mov (.t 60)⟩] (some [0, 0, 3, 7, 15, 15, 63, 127, 255, 511, 1023, 511, 4095, 8191, 16383, 32767, 65535, 65535, 262143, 524287, 1048575, 2097151, 4194303, 8388607]) [4]
def c_erasurelaw32DiskRaw : ACode :=
  (.seq r_erasurelaw32DiskRaw_0
  (.seq (.seq r_erasurelaw32DiskRaw_1
    (.cond (.t 24)
     (.seq r_erasurelaw32DiskRaw_2
      .ret)
     .skip))
   (.seq r_erasurelaw32DiskRaw_3
    (.seq r_erasurelaw32DiskRaw_4
     (.seq r_erasurelaw32DiskRaw_5
      .ret)))))
theorem fits_erasurelaw32DiskRaw : Fits Try.prog 6 61 c_erasurelaw32DiskRaw [.t 4] := ⟨⟨Try.f6, _, _, Try.func6, rfl, rfl, rfl, by decide, by kernel_rfl, by kernel_rfl⟩, Try.checked.mixed⟩
/- erasure/erasurelaw32.DiskKeeps -/
def r_erasurelaw32DiskKeeps_0 : ACode := .reg [
    ⟨some 4, none, .mov (.k (.bool false))⟩] none [0, 1]
def r_erasurelaw32DiskKeeps_1 : ACode := .reg [
    ⟨some 15, none, .mov (.t 0)⟩,
    ⟨some 16, none, .call 15 [(.t 15)]⟩,
    ⟨some 17, none, .un .not (.t 16)⟩] none [0, 1, 17]
def r_erasurelaw32DiskKeeps_2 : ACode := .reg [
    ⟨some 18, none, .call 9 []⟩,
    ⟨some 4, none, .mov (.t 18)⟩] none [4]
def r_erasurelaw32DiskKeeps_3 : ACode := .reg [
    ⟨some 19, none, .call 11 []⟩,
    ⟨some 5, none, .alloc 26 [.slice none 0 0, .slice none 0 0, .int .i64 0, .bool false]⟩,
    ⟨none, none, .store 4 (.t 5) (.t 19)⟩] none [0, 1, 5]
def r_erasurelaw32DiskKeeps_4 : ACode := .reg [
    ⟨some 20, none, .lit 5 1 0 [.int .u8 0] [] true⟩,
    ⟨some 6, none, .mov (.t 20)⟩,
    ⟨some 7, none, .mov (.k (.int .i64 (0)))⟩] none [0, 1, 5, 6, 7]
def r_erasurelaw32DiskKeeps_5 : ACode := .reg [
    ⟨some 8, none, .mov (.k (.int .i64 (0)))⟩] none [0, 1, 5, 6, 7, 8]
def r_erasurelaw32DiskKeeps_6 : ACode := .reg [
    ⟨some 21, none, .mov (.t 8)⟩,
    ⟨some 22, none, .mov (.t 0)⟩,
    ⟨some 23, none, .len (.t 22)⟩,
    ⟨some 24, none, .bin .lss (.t 21) (.t 23)⟩] none [0, 1, 5, 6, 7, 8, 24]
def r_erasurelaw32DiskKeeps_7 : ACode := .reg [
    ⟨some 27, none, .mov (.t 0)⟩,
    ⟨some 28, none, .mov (.t 8)⟩,
    ⟨some 29, none, .idxa 3 (.t 27) (.t 28)⟩,
    ⟨some 30, none, .fld 0 (.t 29)⟩,
    ⟨some 31, none, .load none (.t 30)⟩,
    ⟨some 32, none, .bin .rem (.t 31) (.k (.int .i64 (5)))⟩,
    ⟨some 33, none, .bin .gtr (.t 32) (.k (.int .i64 (2)))⟩,
    ⟨some 34, none, .mov (.t 33)⟩,
    ⟨some 35, (some (34, false)), .mov (.t 0)⟩,
    ⟨some 36, (some (34, false)), .mov (.t 8)⟩,
    ⟨some 37, (some (34, false)), .idxa 3 (.t 35) (.t 36)⟩,
    ⟨some 38, (some (34, false)), .fld 0 (.t 37)⟩,
    ⟨some 39, (some (34, false)), .load none (.t 38)⟩,
    ⟨some 40, (some (34, false)), .bin .lss (.t 39) (.k (.int .i64 (0)))⟩,
    ⟨some 41, none, .pick (.t 34) (.k (.bool true)) (.t 40)⟩] none [0, 1, 5, 6, 7, 8, 41]
def r_erasurelaw32DiskKeeps_8 : ACode := .reg [
    ⟨some 43, none, .load (some 4) (.t 5)⟩,
    ⟨some 44, none, .mov (.t 0)⟩,
    ⟨some 45, none, .mov (.t 8)⟩,
    ⟨some 46, none, .idxa 3 (.t 44) (.t 45)⟩,
    ⟨some 47, none, .load (some 3) (.t 46)⟩,
    ⟨some 48, none, .call 17 [(.t 43), (.t 47)]⟩,
    ⟨some 42, none, .mov (.t 48)⟩,
    ⟨some 49, none, .ext 0 (.t 42)⟩,
    ⟨some 50, none, .ext 1 (.t 42)⟩,
    ⟨some 9, none, .alloc 26 [.slice none 0 0, .slice none 0 0, .int .i64 0, .bool false]⟩,
    ⟨none, none, .store 4 (.t 9) (.t 49)⟩,
    ⟨some 10, none, .mov (.t 50)⟩] (some [0, 0, 0, 6, 14, 31, 63, 127, 127, 0, 767, 2047]) [0, 1, 5, 6, 7, 8, 9, 10]
def r_erasurelaw32DiskKeeps_9 : ACode := .reg [
    ⟨some 51, none, .mov (.t 0)⟩,
    ⟨some 52, none, .mov (.t 8)⟩,
    ⟨some 53, none, .idxa 3 (.t 51) (.t 52)⟩,
    ⟨some 54, none, .fld 0 (.t 53)⟩,
    ⟨some 55, none, .load none (.t 54)⟩,
    ⟨some 56, none, .bin .rem (.t 55) (.k (.int .i64 (5)))⟩,
    ⟨some 57, none, .bin .eql (.t 56) (.k (.int .i64 (0)))⟩,
    ⟨some 58, none, .mov (.t 57)⟩,
    ⟨some 59, (some (58, true)), .mov (.t 10)⟩,
    ⟨some 60, (some (58, true)), .bin .neq (.t 59) (.k (.int .i64 (8)))⟩,
    ⟨some 61, none, .pick (.t 58) (.t 60) (.k (.bool false))⟩] none [0, 1, 5, 6, 7, 8, 9, 10, 61]
def r_erasurelaw32DiskKeeps_10 : ACode := .reg [
    ⟨some 62, none, .mov (.t 6)⟩,
    ⟨some 63, none, .mov (.t 0)⟩,
    ⟨some 64, none, .mov (.t 8)⟩,
    ⟨some 65, none, .idxa 3 (.t 63) (.t 64)⟩,
    ⟨some 66, none, .fld 2 (.t 65)⟩,
    ⟨some 67, none, .load none (.t 66)⟩,
    ⟨some 68, none, .app 5 1 1 (.t 62) (.t 67)⟩,
    ⟨some 6, none, .mov (.t 68)⟩] none [0, 1, 5, 6, 7, 8, 9, 10]
def r_erasurelaw32DiskKeeps_11 : ACode := .reg [
    ⟨some 69, none, .mov (.t 0)⟩,
    ⟨some 70, none, .mov (.t 8)⟩,
    ⟨some 71, none, .idxa 3 (.t 69) (.t 70)⟩,
    ⟨some 72, none, .fld 0 (.t 71)⟩,
    ⟨some 73, none, .load none (.t 72)⟩,
    ⟨some 74, none, .bin .rem (.t 73) (.k (.int .i64 (5)))⟩,
    ⟨some 75, none, .bin .eql (.t 74) (.k (.int .i64 (1)))⟩,
    ⟨some 76, none, .mov (.t 75)⟩,
    ⟨some 77, (some (76, true)), .mov (.t 10)⟩,
    ⟨some 78, (some (76, true)), .bin .eql (.t 77) (.k (.int .i64 (0)))⟩,
    ⟨some 79, none, .pick (.t 76) (.t 78) (.k (.bool false))⟩] none [0, 1, 5, 6, 7, 8, 9, 10, 79]
def r_erasurelaw32DiskKeeps_12 : ACode := .reg [
    ⟨some 80, none, .mov (.t 6)⟩,
    ⟨some 81, none, .len (.t 80)⟩,
    ⟨some 7, none, .mov (.t 81)⟩] none [0, 1, 5, 6, 7, 8, 9, 10]
def r_erasurelaw32DiskKeeps_13 : ACode := .reg [
    ⟨some 82, none, .mov (.t 10)⟩,
    ⟨some 83, none, .bin .eql (.t 82) (.k (.int .i64 (104)))⟩] none [0, 1, 5, 6, 7, 8, 9, 10, 83]
def r_erasurelaw32DiskKeeps_14 : ACode := .reg [
    ⟨some 84, none, .load (some 4) (.t 9)⟩,
    ⟨none, none, .store 4 (.t 5) (.t 84)⟩] none [1, 5, 6, 7]
def r_erasurelaw32DiskKeeps_15 : ACode := .reg [
    ⟨some 85, none, .mov (.t 10)⟩,
    ⟨some 86, none, .bin .eql (.t 85) (.k (.int .i64 (0)))⟩] none [0, 1, 5, 6, 7, 8, 9, 86]
def r_erasurelaw32DiskKeeps_16 : ACode := .reg [
    ⟨some 87, none, .load (some 4) (.t 9)⟩,
    ⟨none, none, .store 4 (.t 5) (.t 87)⟩] none [0, 1, 5, 6, 7, 8]
def r_erasurelaw32DiskKeeps_17 : ACode := .reg [
    ⟨some 25, none, .mov (.t 8)⟩,
    ⟨some 26, none, .bin .add (.t 25) (.k (.int .i64 (1)))⟩,
    ⟨some 8, none, .mov (.t 26)⟩] none [0, 1, 5, 6, 7, 8]
def r_erasurelaw32DiskKeeps_18 : ACode := .reg [
    ⟨some 89, none, .load (some 4) (.t 5)⟩,
    ⟨some 90, none, .mov (.t 1)⟩,
    ⟨some 91, none, .call 22 [(.t 89), (.t 90)]⟩,
    ⟨some 88, none, .mov (.t 91)⟩,
    ⟨some 92, none, .ext 0 (.t 88)⟩,
    ⟨some 93, none, .ext 1 (.t 88)⟩,
    ⟨some 11, none, .alloc 26 [.slice none 0 0, .slice none 0 0, .int .i64 0, .bool false]⟩,
    ⟨none, none, .store 4 (.t 11) (.t 92)⟩,
    ⟨some 12, none, .mov (.t 93)⟩] none [6, 7, 11, 12]
def r_erasurelaw32DiskKeeps_19 : ACode := .reg [
    ⟨some 95, none, .load (some 4) (.t 11)⟩,
    ⟨some 96, none, .call 14 [(.t 95)]⟩,
    ⟨some 94, none, .mov (.t 96)⟩,
    ⟨some 97, none, .ext 0 (.t 94)⟩,
    ⟨some 98, none, .ext 1 (.t 94)⟩,
    ⟨some 13, none, .mov (.t 97)⟩,
    ⟨some 14, none, .mov (.t 98)⟩] none [6, 7, 12, 13, 14]
def r_erasurelaw32DiskKeeps_20 : ACode := .reg [
    ⟨some 99, none, .mov (.t 12)⟩,
    ⟨some 100, none, .bin .eql (.t 99) (.k (.int .i64 (0)))⟩,
    ⟨some 101, none, .mov (.t 100)⟩,
    ⟨some 102, (some (101, true)), .mov (.t 14)⟩,
    ⟨some 103, (some (101, true)), .bin .eql (.t 102) (.k (.int .i64 (0)))⟩,
    ⟨some 104, none, .pick (.t 101) (.t 103) (.k (.bool false))⟩,
    ⟨some 105, none, .mov (.t 104)⟩,
    ⟨some 106, (some (105, true)), .mov (.t 13)⟩,
    ⟨some 107, (some (105, true)), .len (.t 106)⟩,
    ⟨some 108, (some (105, true)), .mov (.t 7)⟩,
    ⟨some 109, (some (105, true)), .bin .geq (.t 107) (.t 108)⟩,
    ⟨some 110, none, .pick (.t 105) (.t 109) (.k (.bool false))⟩,
    ⟨some 111, none, .mov (.t 110)⟩,
    ⟨some 112, (some (111, true)), .mov (.t 13)⟩,
    ⟨some 113, (some (111, true)), .len (.t 112)⟩,
    ⟨some 114, (some (111, true)), .mov (.t 6)⟩,
    ⟨some 115, (some (111, true)), .len (.t 114)⟩,
    ⟨some 116, (some (111, true)), .bin .leq (.t 113) (.t 115)⟩,
    ⟨some 117, none, .pick (.t 111) (.t 116) (.k (.bool false))⟩,
    ⟨some 118, none, .mov (.t 117)⟩,
    ⟨some 119, (some (118, true)), .mov (.t 13)⟩,
    ⟨some 120, (some (118, true)), .tostr (.t 119)⟩,
    ⟨some 121, (some (118, true)), .mov (.t 6)⟩,
    ⟨some 122, (some (118, true)), .mov (.t 13)⟩,
    ⟨some 123, (some (118, true)), .len (.t 122)⟩,
    ⟨some 124, (some (118, true)), .sl 1 (.t 121) none (some (.t 123)) none⟩,
    ⟨some 125, (some (118, true)), .tostr (.t 124)⟩,
    ⟨some 126, (some (118, true)), .bin .eql (.t 120) (.t 125)⟩,
    ⟨some 127, none, .pick (.t 118) (.t 126) (.k (.bool false))⟩,
    ⟨some 128, none, .mov (.t 127)⟩,
    ⟨some 129, (some (128, true)), .call 9 []⟩,
    ⟨some 130, none, .pick (.t 128) (.t 129) (.k (.bool false))⟩,
    ⟨some 4, none, .mov (.t 130)⟩] (some [0, 1, 3, 7, 15, 31, 63, 127, 255, 127, 1023, 2047, 4095, 8191, 16383, 8191, 40959, 131071, 262143, 524287, 1048575, 2097151, 1048575, 1048575, 9437183, 30408703, 63963135, 134217727, 268435455, 536870911, 1073741823, 2147483647, 4294967295]) [4]
def c_erasurelaw32DiskKeeps : ACode :=
  (.seq r_erasurelaw32DiskKeeps_0
  (.seq (.seq r_erasurelaw32DiskKeeps_1
    (.cond (.t 17)
     (.seq r_erasurelaw32DiskKeeps_2
      .ret)
     .skip))
   (.seq r_erasurelaw32DiskKeeps_3
    (.seq r_erasurelaw32DiskKeeps_4
     (.seq (.seq r_erasurelaw32DiskKeeps_5
       (.block 0 (.loop (.seq (.seq r_erasurelaw32DiskKeeps_6
           (.cond (.t 24)
            .skip
            (.exit 0)))
          (.seq (.block 1 (.seq (.seq r_erasurelaw32DiskKeeps_7
              (.cond (.t 41)
               (.exit 1)
               .skip))
             (.seq r_erasurelaw32DiskKeeps_8
              (.seq (.seq r_erasurelaw32DiskKeeps_9
                (.cond (.t 61)
                 r_erasurelaw32DiskKeeps_10
                 .skip))
               (.seq (.seq r_erasurelaw32DiskKeeps_11
                 (.cond (.t 79)
                  r_erasurelaw32DiskKeeps_12
                  .skip))
                (.seq (.seq r_erasurelaw32DiskKeeps_13
                  (.cond (.t 83)
                   (.seq r_erasurelaw32DiskKeeps_14
                    (.exit 0))
                   .skip))
                 (.seq r_erasurelaw32DiskKeeps_15
                  (.cond (.t 86)
                   r_erasurelaw32DiskKeeps_16
                   .skip))))))))
           r_erasurelaw32DiskKeeps_17)))))
      (.seq r_erasurelaw32DiskKeeps_18
       (.seq r_erasurelaw32DiskKeeps_19
        (.seq r_erasurelaw32DiskKeeps_20
         .ret))))))))
theorem fits_erasurelaw32DiskKeeps : Fits Try.prog 7 131 c_erasurelaw32DiskKeeps [.t 4] := ⟨⟨Try.f7, _, _, Try.func7, rfl, rfl, rfl, by decide, by kernel_rfl, by kernel_rfl⟩, Try.checked.mixed⟩
/- erasure/erasurelaw32.DiskDown -/
def r_erasurelaw32DiskDown_0 : ACode := .reg [
    ⟨some 6, none, .mov (.k (.bool false))⟩] none [0, 1, 2]
def r_erasurelaw32DiskDown_1 : ACode := .reg [
    ⟨some 24, none, .mov (.t 0)⟩,
    ⟨some 25, none, .len (.t 24)⟩,
    ⟨some 26, none, .bin .gtr (.t 25) (.k (.int .i64 (100)))⟩,
    ⟨some 27, none, .mov (.t 26)⟩,
    ⟨some 28, (some (27, false)), .mov (.t 1)⟩,
    ⟨some 29, (some (27, false)), .len (.t 28)⟩,
    ⟨some 30, (some (27, false)), .bin .gtr (.t 29) (.k (.int .i64 (100)))⟩,
    ⟨some 31, none, .pick (.t 27) (.k (.bool true)) (.t 30)⟩,
    ⟨some 32, none, .mov (.t 31)⟩,
    ⟨some 33, (some (32, false)), .mov (.t 1)⟩,
    ⟨some 34, (some (32, false)), .len (.t 33)⟩,
    ⟨some 35, (some (32, false)), .bin .eql (.t 34) (.k (.int .i64 (0)))⟩,
    ⟨some 36, none, .pick (.t 32) (.k (.bool true)) (.t 35)⟩] none [0, 1, 2, 36]
def r_erasurelaw32DiskDown_2 : ACode := .reg [
    ⟨some 37, none, .call 9 []⟩,
    ⟨some 6, none, .mov (.t 37)⟩] none [6]
def r_erasurelaw32DiskDown_3 : ACode := .reg [
    ⟨some 39, none, .call 11 []⟩,
    ⟨some 40, none, .mov (.t 0)⟩,
    ⟨some 41, none, .call 10 [(.t 39), (.t 40)]⟩,
    ⟨some 38, none, .mov (.t 41)⟩,
    ⟨some 42, none, .ext 0 (.t 38)⟩,
    ⟨some 43, none, .ext 1 (.t 38)⟩,
    ⟨some 7, none, .alloc 26 [.slice none 0 0, .slice none 0 0, .int .i64 0, .bool false]⟩,
    ⟨none, none, .store 4 (.t 7) (.t 42)⟩,
    ⟨some 8, none, .mov (.t 43)⟩] none [0, 1, 2, 7, 8]
def r_erasurelaw32DiskDown_4 : ACode := .reg [
    ⟨some 45, none, .load (some 4) (.t 7)⟩,
    ⟨some 46, none, .call 23 [(.t 45)]⟩,
    ⟨some 44, none, .mov (.t 46)⟩,
    ⟨some 47, none, .ext 0 (.t 44)⟩,
    ⟨some 48, none, .ext 1 (.t 44)⟩,
    ⟨none, none, .store 4 (.t 7) (.t 47)⟩,
    ⟨some 9, none, .mov (.t 48)⟩] none [0, 1, 2, 7, 8, 9]
def r_erasurelaw32DiskDown_5 : ACode := .reg [
    ⟨some 50, none, .load (some 4) (.t 7)⟩,
    ⟨some 51, none, .call 13 [(.t 50), (.k (.int .i64 (0)))]⟩,
    ⟨some 49, none, .mov (.t 51)⟩,
    ⟨some 52, none, .ext 0 (.t 49)⟩,
    ⟨some 53, none, .ext 1 (.t 49)⟩,
    ⟨none, none, .store 4 (.t 7) (.t 52)⟩,
    ⟨some 10, none, .mov (.t 53)⟩] none [0, 1, 2, 7, 8, 9, 10]
def r_erasurelaw32DiskDown_6 : ACode := .reg [
    ⟨some 55, none, .load (some 4) (.t 7)⟩,
    ⟨some 56, none, .mov (.t 1)⟩,
    ⟨some 57, none, .call 10 [(.t 55), (.t 56)]⟩,
    ⟨some 54, none, .mov (.t 57)⟩,
    ⟨some 58, none, .ext 0 (.t 54)⟩,
    ⟨some 59, none, .ext 1 (.t 54)⟩,
    ⟨none, none, .store 4 (.t 7) (.t 58)⟩,
    ⟨some 11, none, .mov (.t 59)⟩] none [0, 2, 7, 8, 9, 10, 11]
def r_erasurelaw32DiskDown_7 : ACode := .reg [
    ⟨some 60, none, .mov (.t 8)⟩,
    ⟨some 61, none, .bin .neq (.t 60) (.k (.int .i64 (0)))⟩,
    ⟨some 62, none, .mov (.t 61)⟩,
    ⟨some 63, (some (62, false)), .mov (.t 9)⟩,
    ⟨some 64, (some (62, false)), .bin .neq (.t 63) (.k (.int .i64 (0)))⟩,
    ⟨some 65, none, .pick (.t 62) (.k (.bool true)) (.t 64)⟩,
    ⟨some 66, none, .mov (.t 65)⟩,
    ⟨some 67, (some (66, false)), .mov (.t 10)⟩,
    ⟨some 68, (some (66, false)), .bin .neq (.t 67) (.k (.int .i64 (0)))⟩,
    ⟨some 69, none, .pick (.t 66) (.k (.bool true)) (.t 68)⟩,
    ⟨some 70, none, .mov (.t 69)⟩,
    ⟨some 71, (some (70, false)), .mov (.t 11)⟩,
    ⟨some 72, (some (70, false)), .bin .neq (.t 71) (.k (.int .i64 (104)))⟩,
    ⟨some 73, none, .pick (.t 70) (.k (.bool true)) (.t 72)⟩] none [0, 2, 7, 73]
def r_erasurelaw32DiskDown_8 : ACode := .reg [
    ⟨some 6, none, .mov (.k (.bool false))⟩] none [6]
def r_erasurelaw32DiskDown_9 : ACode := .reg [
    ⟨some 75, none, .load (some 4) (.t 7)⟩,
    ⟨some 76, none, .call 10 [(.t 75), (.k (.slice none 0 0))]⟩,
    ⟨some 74, none, .mov (.t 76)⟩,
    ⟨some 77, none, .ext 0 (.t 74)⟩,
    ⟨some 78, none, .ext 1 (.t 74)⟩,
    ⟨some 12, none, .alloc 26 [.slice none 0 0, .slice none 0 0, .int .i64 0, .bool false]⟩,
    ⟨none, none, .store 4 (.t 12) (.t 77)⟩,
    ⟨some 13, none, .mov (.t 78)⟩] none [0, 2, 7, 12, 13]
def r_erasurelaw32DiskDown_10 : ACode := .reg [
    ⟨some 80, none, .load (some 4) (.t 7)⟩,
    ⟨some 81, none, .call 23 [(.t 80)]⟩,
    ⟨some 79, none, .mov (.t 81)⟩,
    ⟨some 82, none, .ext 0 (.t 79)⟩,
    ⟨some 83, none, .ext 1 (.t 79)⟩,
    ⟨some 14, none, .alloc 26 [.slice none 0 0, .slice none 0 0, .int .i64 0, .bool false]⟩,
    ⟨none, none, .store 4 (.t 14) (.t 82)⟩,
    ⟨some 15, none, .mov (.t 83)⟩] none [0, 2, 7, 12, 13, 14, 15]
def r_erasurelaw32DiskDown_11 : ACode := .reg [
    ⟨some 85, none, .load (some 4) (.t 7)⟩,
    ⟨some 86, none, .call 24 [(.t 85), (.k (.int .i64 (0)))]⟩,
    ⟨some 84, none, .mov (.t 86)⟩,
    ⟨some 87, none, .ext 0 (.t 84)⟩,
    ⟨some 88, none, .ext 1 (.t 84)⟩,
    ⟨some 16, none, .alloc 26 [.slice none 0 0, .slice none 0 0, .int .i64 0, .bool false]⟩,
    ⟨none, none, .store 4 (.t 16) (.t 87)⟩,
    ⟨some 17, none, .mov (.t 88)⟩] none [0, 2, 7, 12, 13, 14, 15, 16, 17]
def r_erasurelaw32DiskDown_12 : ACode := .reg [
    ⟨some 90, none, .load (some 4) (.t 7)⟩,
    ⟨some 91, none, .call 14 [(.t 90)]⟩,
    ⟨some 89, none, .mov (.t 91)⟩,
    ⟨some 92, none, .ext 0 (.t 89)⟩,
    ⟨some 93, none, .ext 1 (.t 89)⟩,
    ⟨some 18, none, .mov (.t 92)⟩,
    ⟨some 19, none, .mov (.t 93)⟩] none [0, 2, 7, 12, 13, 14, 15, 16, 17, 19]
def r_erasurelaw32DiskDown_13 : ACode := .reg [
    ⟨some 95, none, .load (some 4) (.t 7)⟩,
    ⟨some 96, none, .mov (.t 2)⟩,
    ⟨some 97, none, .call 22 [(.t 95), (.t 96)]⟩,
    ⟨some 94, none, .mov (.t 97)⟩,
    ⟨some 98, none, .ext 0 (.t 94)⟩,
    ⟨some 99, none, .ext 1 (.t 94)⟩,
    ⟨some 20, none, .alloc 26 [.slice none 0 0, .slice none 0 0, .int .i64 0, .bool false]⟩,
    ⟨none, none, .store 4 (.t 20) (.t 98)⟩,
    ⟨some 21, none, .mov (.t 99)⟩] none [0, 7, 12, 13, 14, 15, 16, 17, 19, 20, 21]
def r_erasurelaw32DiskDown_14 : ACode := .reg [
    ⟨some 101, none, .load (some 4) (.t 20)⟩,
    ⟨some 102, none, .call 14 [(.t 101)]⟩,
    ⟨some 100, none, .mov (.t 102)⟩,
    ⟨some 103, none, .ext 0 (.t 100)⟩,
    ⟨some 104, none, .ext 1 (.t 100)⟩,
    ⟨some 22, none, .mov (.t 103)⟩,
    ⟨some 23, none, .mov (.t 104)⟩] none [0, 7, 12, 13, 14, 15, 16, 17, 19, 21, 22, 23]
def r_erasurelaw32DiskDown_15 : ACode := .reg [
    ⟨some 105, none, .mov (.t 13)⟩,
    ⟨some 106, none, .bin .eql (.t 105) (.k (.int .i64 (104)))⟩,
    ⟨some 107, none, .mov (.t 106)⟩,
    ⟨some 108, (some (107, true)), .mov (.t 15)⟩,
    ⟨some 109, (some (107, true)), .bin .eql (.t 108) (.k (.int .i64 (104)))⟩,
    ⟨some 110, none, .pick (.t 107) (.t 109) (.k (.bool false))⟩,
    ⟨some 111, none, .mov (.t 110)⟩,
    ⟨some 112, (some (111, true)), .mov (.t 17)⟩,
    ⟨some 113, (some (111, true)), .bin .eql (.t 112) (.k (.int .i64 (104)))⟩,
    ⟨some 114, none, .pick (.t 111) (.t 113) (.k (.bool false))⟩,
    ⟨some 115, none, .mov (.t 114)⟩,
    ⟨some 116, (some (115, true)), .mov (.t 19)⟩,
    ⟨some 117, (some (115, true)), .bin .eql (.t 116) (.k (.int .i64 (104)))⟩,
    ⟨some 118, none, .pick (.t 115) (.t 117) (.k (.bool false))⟩,
    ⟨some 119, none, .mov (.t 118)⟩,
    ⟨some 120, (some (119, true)), .load (some 4) (.t 12)⟩,
    ⟨some 121, (some (119, true)), .load (some 4) (.t 7)⟩,
    ⟨some 122, (some (119, true)), .call 12 [(.t 120), (.t 121)]⟩,
    ⟨some 123, none, .pick (.t 119) (.t 122) (.k (.bool false))⟩,
    ⟨some 124, none, .mov (.t 123)⟩,
    ⟨some 125, (some (124, true)), .load (some 4) (.t 14)⟩,
    ⟨some 126, (some (124, true)), .load (some 4) (.t 7)⟩,
    ⟨some 127, (some (124, true)), .call 12 [(.t 125), (.t 126)]⟩,
    ⟨some 128, none, .pick (.t 124) (.t 127) (.k (.bool false))⟩,
    ⟨some 129, none, .mov (.t 128)⟩,
    ⟨some 130, (some (129, true)), .load (some 4) (.t 16)⟩,
    ⟨some 131, (some (129, true)), .load (some 4) (.t 7)⟩,
    ⟨some 132, (some (129, true)), .call 12 [(.t 130), (.t 131)]⟩,
    ⟨some 133, none, .pick (.t 129) (.t 132) (.k (.bool false))⟩,
    ⟨some 134, none, .mov (.t 133)⟩,
    ⟨some 135, (some (134, true)), .mov (.t 21)⟩,
    ⟨some 136, (some (134, true)), .bin .eql (.t 135) (.k (.int .i64 (0)))⟩,
    ⟨some 137, none, .pick (.t 134) (.t 136) (.k (.bool false))⟩,
    ⟨some 138, none, .mov (.t 137)⟩,
    ⟨some 139, (some (138, true)), .mov (.t 23)⟩,
    ⟨some 140, (some (138, true)), .bin .eql (.t 139) (.k (.int .i64 (0)))⟩,
    ⟨some 141, none, .pick (.t 138) (.t 140) (.k (.bool false))⟩,
    ⟨some 142, none, .mov (.t 141)⟩,
    ⟨some 143, (some (142, true)), .mov (.t 22)⟩,
    ⟨some 144, (some (142, true)), .tostr (.t 143)⟩,
    ⟨some 145, (some (142, true)), .mov (.t 0)⟩,
    ⟨some 146, (some (142, true)), .tostr (.t 145)⟩,
    ⟨some 147, (some (142, true)), .bin .eql (.t 144) (.t 146)⟩,
    ⟨some 148, none, .pick (.t 142) (.t 147) (.k (.bool false))⟩,
    ⟨some 149, none, .mov (.t 148)⟩,
    ⟨some 150, (some (149, true)), .call 9 []⟩,
    ⟨some 151, none, .pick (.t 149) (.t 150) (.k (.bool false))⟩,
    ⟨some 6, none, .mov (.t 151)⟩] none [6]
def c_erasurelaw32DiskDown : ACode :=
  (.seq r_erasurelaw32DiskDown_0
  (.seq (.seq r_erasurelaw32DiskDown_1
    (.cond (.t 36)
     (.seq r_erasurelaw32DiskDown_2
      .ret)
     .skip))
   (.seq r_erasurelaw32DiskDown_3
    (.seq r_erasurelaw32DiskDown_4
     (.seq r_erasurelaw32DiskDown_5
      (.seq r_erasurelaw32DiskDown_6
       (.seq (.seq r_erasurelaw32DiskDown_7
         (.cond (.t 73)
          (.seq r_erasurelaw32DiskDown_8
           .ret)
          .skip))
        (.seq r_erasurelaw32DiskDown_9
         (.seq r_erasurelaw32DiskDown_10
          (.seq r_erasurelaw32DiskDown_11
           (.seq r_erasurelaw32DiskDown_12
            (.seq r_erasurelaw32DiskDown_13
             (.seq r_erasurelaw32DiskDown_14
              (.seq r_erasurelaw32DiskDown_15
               .ret))))))))))))))
theorem fits_erasurelaw32DiskDown : Fits Try.prog 8 152 c_erasurelaw32DiskDown [.t 6] := ⟨⟨Try.f8, _, _, Try.func8, rfl, rfl, rfl, by decide, by kernel_rfl, by kernel_rfl⟩, Try.checked.mixed⟩
/- erasure/erasurelaw32.awake -/
def r_erasurelaw32awake_0 : ACode := .reg [
    ⟨some 0, none, .mov (.k (.bool false))⟩] none []
def r_erasurelaw32awake_1 : ACode := .reg [
    ⟨some 10, none, .call 11 []⟩,
    ⟨some 11, none, .call 13 [(.t 10), (.k (.int .i64 (2)))]⟩,
    ⟨some 9, none, .mov (.t 11)⟩,
    ⟨some 12, none, .ext 0 (.t 9)⟩,
    ⟨some 13, none, .ext 1 (.t 9)⟩,
    ⟨some 1, none, .alloc 26 [.slice none 0 0, .slice none 0 0, .int .i64 0, .bool false]⟩,
    ⟨none, none, .store 4 (.t 1) (.t 12)⟩,
    ⟨some 2, none, .mov (.t 13)⟩] none [1, 2]
def r_erasurelaw32awake_2 : ACode := .reg [
    ⟨some 15, none, .load (some 4) (.t 1)⟩,
    ⟨some 16, none, .lit 5 1 3 [.int .u8 0] [(0, (.k (.int .u8 (97)))), (1, (.k (.int .u8 (98)))), (2, (.k (.int .u8 (99))))] true⟩,
    ⟨some 17, none, .bconv (.t 16)⟩,
    ⟨some 18, none, .call 10 [(.t 15), (.t 17)]⟩,
    ⟨some 14, none, .mov (.t 18)⟩,
    ⟨some 19, none, .ext 0 (.t 14)⟩,
    ⟨some 20, none, .ext 1 (.t 14)⟩,
    ⟨some 3, none, .alloc 26 [.slice none 0 0, .slice none 0 0, .int .i64 0, .bool false]⟩,
    ⟨none, none, .store 4 (.t 3) (.t 19)⟩,
    ⟨some 4, none, .mov (.t 20)⟩] none [2, 3, 4]
def r_erasurelaw32awake_3 : ACode := .reg [
    ⟨some 22, none, .load (some 4) (.t 3)⟩,
    ⟨some 23, none, .call 22 [(.t 22), (.k (.int .i64 (1)))]⟩,
    ⟨some 21, none, .mov (.t 23)⟩,
    ⟨some 24, none, .ext 0 (.t 21)⟩,
    ⟨some 25, none, .ext 1 (.t 21)⟩,
    ⟨some 5, none, .alloc 26 [.slice none 0 0, .slice none 0 0, .int .i64 0, .bool false]⟩,
    ⟨none, none, .store 4 (.t 5) (.t 24)⟩,
    ⟨some 6, none, .mov (.t 25)⟩] none [2, 3, 4, 5, 6]
def r_erasurelaw32awake_4 : ACode := .reg [
    ⟨some 27, none, .load (some 4) (.t 5)⟩,
    ⟨some 28, none, .call 14 [(.t 27)]⟩,
    ⟨some 26, none, .mov (.t 28)⟩,
    ⟨some 29, none, .ext 0 (.t 26)⟩,
    ⟨some 30, none, .ext 1 (.t 26)⟩,
    ⟨some 7, none, .mov (.t 29)⟩,
    ⟨some 8, none, .mov (.t 30)⟩] none [2, 3, 4, 6, 7, 8]
def r_erasurelaw32awake_5 : ACode := .reg [
    ⟨some 31, none, .mov (.t 2)⟩,
    ⟨some 32, none, .bin .eql (.t 31) (.k (.int .i64 (0)))⟩,
    ⟨some 33, none, .mov (.t 32)⟩,
    ⟨some 34, (some (33, true)), .mov (.t 4)⟩,
    ⟨some 35, (some (33, true)), .bin .eql (.t 34) (.k (.int .i64 (104)))⟩,
    ⟨some 36, none, .pick (.t 33) (.t 35) (.k (.bool false))⟩,
    ⟨some 37, none, .mov (.t 36)⟩,
    ⟨some 38, (some (37, true)), .fld 3 (.t 3)⟩,
    ⟨some 39, (some (37, true)), .load none (.t 38)⟩,
    ⟨some 40, none, .pick (.t 37) (.t 39) (.k (.bool false))⟩,
    ⟨some 41, none, .mov (.t 40)⟩,
    ⟨some 42, (some (41, true)), .fld 1 (.t 3)⟩,
    ⟨some 43, (some (41, true)), .load none (.t 42)⟩,
    ⟨some 44, (some (41, true)), .len (.t 43)⟩,
    ⟨some 45, (some (41, true)), .bin .eql (.t 44) (.k (.int .i64 (2)))⟩,
    ⟨some 46, none, .pick (.t 41) (.t 45) (.k (.bool false))⟩,
    ⟨some 47, none, .mov (.t 46)⟩,
    ⟨some 48, (some (47, true)), .mov (.t 6)⟩,
    ⟨some 49, (some (47, true)), .bin .eql (.t 48) (.k (.int .i64 (0)))⟩,
    ⟨some 50, none, .pick (.t 47) (.t 49) (.k (.bool false))⟩,
    ⟨some 51, none, .mov (.t 50)⟩,
    ⟨some 52, (some (51, true)), .mov (.t 8)⟩,
    ⟨some 53, (some (51, true)), .bin .eql (.t 52) (.k (.int .i64 (0)))⟩,
    ⟨some 54, none, .pick (.t 51) (.t 53) (.k (.bool false))⟩,
    ⟨some 55, none, .mov (.t 54)⟩,
    ⟨some 56, (some (55, true)), .mov (.t 7)⟩,
    ⟨some 57, (some (55, true)), .tostr (.t 56)⟩,
    ⟨some 58, (some (55, true)), .bin .eql (.t 57) (.k (.string { data := #[97] }))⟩,
    ⟨some 59, none, .pick (.t 55) (.t 58) (.k (.bool false))⟩,
    ⟨some 0, none, .mov (.t 59)⟩] none [0]
def c_erasurelaw32awake : ACode :=
  (.seq r_erasurelaw32awake_0
  (.seq r_erasurelaw32awake_1
   (.seq r_erasurelaw32awake_2
    (.seq r_erasurelaw32awake_3
     (.seq r_erasurelaw32awake_4
      (.seq r_erasurelaw32awake_5
       .ret))))))
theorem fits_erasurelaw32awake : Fits Try.prog 9 60 c_erasurelaw32awake [.t 0] := ⟨⟨Try.f9, _, _, Try.func9, rfl, rfl, rfl, by decide, by kernel_rfl, by kernel_rfl⟩, Try.checked.mixed⟩
/- erasure/erasurelaw32.short -/
def r_erasurelaw32short_0 : ACode := .reg [
    ⟨some 2, none, .mov (.k (.bool false))⟩] none [0]
def r_erasurelaw32short_1 : ACode := .reg [
    ⟨some 3, none, .mov (.k (.int .i64 (0)))⟩] none [0, 3]
def r_erasurelaw32short_2 : ACode := .reg [
    ⟨some 4, none, .mov (.t 3)⟩,
    ⟨some 5, none, .mov (.t 0)⟩,
    ⟨some 6, none, .len (.t 5)⟩,
    ⟨some 7, none, .bin .lss (.t 4) (.t 6)⟩] none [0, 3, 7]
def r_erasurelaw32short_3 : ACode := .reg [
    ⟨some 10, none, .mov (.t 0)⟩,
    ⟨some 11, none, .mov (.t 3)⟩,
    ⟨some 12, none, .idxa 3 (.t 10) (.t 11)⟩,
    ⟨some 13, none, .fld 2 (.t 12)⟩,
    ⟨some 14, none, .load none (.t 13)⟩,
    ⟨some 15, none, .len (.t 14)⟩,
    ⟨some 16, none, .bin .gtr (.t 15) (.k (.int .i64 (60)))⟩] none [0, 3, 16]
def r_erasurelaw32short_4 : ACode := .reg [
    ⟨some 2, none, .mov (.k (.bool false))⟩] none [2]
def r_erasurelaw32short_5 : ACode := .reg [
    ⟨some 8, none, .mov (.t 3)⟩,
    ⟨some 9, none, .bin .add (.t 8) (.k (.int .i64 (1)))⟩,
    ⟨some 3, none, .mov (.t 9)⟩] none [0, 3]
def r_erasurelaw32short_6 : ACode := .reg [
    ⟨some 17, none, .mov (.t 0)⟩,
    ⟨some 18, none, .len (.t 17)⟩,
    ⟨some 19, none, .bin .leq (.t 18) (.k (.int .i64 (30)))⟩,
    ⟨some 2, none, .mov (.t 19)⟩] none [2]
def c_erasurelaw32short : ACode :=
  (.seq r_erasurelaw32short_0
  (.seq (.seq r_erasurelaw32short_1
    (.block 0 (.loop (.seq (.seq r_erasurelaw32short_2
        (.cond (.t 7)
         .skip
         (.exit 0)))
       (.seq (.block 1 (.seq r_erasurelaw32short_3
          (.cond (.t 16)
           (.seq r_erasurelaw32short_4
            .ret)
           .skip)))
        r_erasurelaw32short_5)))))
   (.seq r_erasurelaw32short_6
    .ret)))
theorem fits_erasurelaw32short : Fits Try.prog 15 20 c_erasurelaw32short [.t 2] := ⟨⟨Try.f15, _, _, Try.func15, rfl, rfl, rfl, by decide, by kernel_rfl, by kernel_rfl⟩, Try.checked.mixed⟩
/- erasure/erasurelaw32.do -/
def r_erasurelaw32do_0 : ACode := .reg [
    ⟨some 2, none, .box 26 (.t 0)⟩,
    ⟨some 3, none, .box 41 (.t 1)⟩,
    ⟨some 4, none, .alloc 26 [.slice none 0 0, .slice none 0 0, .int .i64 0, .bool false]⟩,
    ⟨some 5, none, .mov (.k (.int .i64 (0)))⟩] none [2, 3, 4]
def r_erasurelaw32do_1 : ACode := .reg [
    ⟨some 6, none, .fld 0 (.t 3)⟩,
    ⟨some 7, none, .load none (.t 6)⟩,
    ⟨some 8, none, .bin .rem (.t 7) (.k (.int .i64 (5)))⟩] none [2, 3, 4, 8]
def r_erasurelaw32do_2 : ACode := .reg [
    ⟨some 10, none, .bin .eql (.t 8) (.k (.int .i64 (0)))⟩,
    ⟨some 9, none, .mov (.t 10)⟩] none [2, 3, 4, 8, 9]
def r_erasurelaw32do_3 : ACode := .reg [
    ⟨some 11, none, .load (some 4) (.t 2)⟩,
    ⟨some 12, none, .fld 2 (.t 3)⟩,
    ⟨some 13, none, .load none (.t 12)⟩,
    ⟨some 14, none, .call 10 [(.t 11), (.t 13)]⟩,
    ⟨some 15, none, .ext 0 (.t 14)⟩,
    ⟨some 16, none, .ext 1 (.t 14)⟩,
    ⟨none, none, .store 4 (.t 4) (.t 15)⟩,
    ⟨some 5, none, .mov (.t 16)⟩] none [4, 5]
def r_erasurelaw32do_4 : ACode := .reg [
    ⟨some 18, none, .bin .eql (.t 8) (.k (.int .i64 (1)))⟩,
    ⟨some 17, none, .mov (.t 18)⟩] none [2, 3, 4, 8, 17]
def r_erasurelaw32do_5 : ACode := .reg [
    ⟨some 19, none, .load (some 4) (.t 2)⟩,
    ⟨some 20, none, .call 23 [(.t 19)]⟩,
    ⟨some 21, none, .ext 0 (.t 20)⟩,
    ⟨some 22, none, .ext 1 (.t 20)⟩,
    ⟨none, none, .store 4 (.t 4) (.t 21)⟩,
    ⟨some 5, none, .mov (.t 22)⟩] none [4, 5]
def r_erasurelaw32do_6 : ACode := .reg [
    ⟨some 24, none, .bin .eql (.t 8) (.k (.int .i64 (2)))⟩,
    ⟨some 23, none, .mov (.t 24)⟩] none [2, 3, 4, 8, 23]
def r_erasurelaw32do_7 : ACode := .reg [
    ⟨some 25, none, .load (some 4) (.t 2)⟩,
    ⟨some 26, none, .fld 1 (.t 3)⟩,
    ⟨some 27, none, .load none (.t 26)⟩,
    ⟨some 28, none, .call 13 [(.t 25), (.t 27)]⟩,
    ⟨some 29, none, .ext 0 (.t 28)⟩,
    ⟨some 30, none, .ext 1 (.t 28)⟩,
    ⟨none, none, .store 4 (.t 4) (.t 29)⟩,
    ⟨some 5, none, .mov (.t 30)⟩] none [4, 5]
def r_erasurelaw32do_8 : ACode := .reg [
    ⟨some 32, none, .bin .eql (.t 8) (.k (.int .i64 (3)))⟩,
    ⟨some 31, none, .mov (.t 32)⟩] none [2, 3, 4, 31]
def r_erasurelaw32do_9 : ACode := .reg [
    ⟨some 33, none, .load (some 4) (.t 2)⟩,
    ⟨some 34, none, .fld 1 (.t 3)⟩,
    ⟨some 35, none, .load none (.t 34)⟩,
    ⟨some 36, none, .call 22 [(.t 33), (.t 35)]⟩,
    ⟨some 37, none, .ext 0 (.t 36)⟩,
    ⟨some 38, none, .ext 1 (.t 36)⟩,
    ⟨none, none, .store 4 (.t 4) (.t 37)⟩,
    ⟨some 5, none, .mov (.t 38)⟩] none [4, 5]
def r_erasurelaw32do_10 : ACode := .reg [
    ⟨some 39, none, .load (some 4) (.t 2)⟩,
    ⟨some 40, none, .fld 1 (.t 3)⟩,
    ⟨some 41, none, .load none (.t 40)⟩,
    ⟨some 42, none, .call 24 [(.t 39), (.t 41)]⟩,
    ⟨some 43, none, .ext 0 (.t 42)⟩,
    ⟨some 44, none, .ext 1 (.t 42)⟩,
    ⟨none, none, .store 4 (.t 4) (.t 43)⟩,
    ⟨some 5, none, .mov (.t 44)⟩] none [4, 5]
def c_erasurelaw32do : ACode :=
  (.seq r_erasurelaw32do_0
  (.seq (.seq r_erasurelaw32do_1
    (.block 0 (.seq r_erasurelaw32do_2
      (.cond (.t 9)
       (.seq r_erasurelaw32do_3
        .ret)
       (.seq r_erasurelaw32do_4
        (.cond (.t 17)
         (.seq r_erasurelaw32do_5
          .ret)
         (.seq r_erasurelaw32do_6
          (.cond (.t 23)
           (.seq r_erasurelaw32do_7
            .ret)
           (.seq r_erasurelaw32do_8
            (.cond (.t 31)
             (.seq r_erasurelaw32do_9
              .ret)
             .skip))))))))))
   (.seq r_erasurelaw32do_10
    .ret)))
theorem fits_erasurelaw32do : Fits Try.prog 17 45 c_erasurelaw32do [.c 4 (some 4), .t 5] := ⟨⟨Try.f17, _, _, Try.func17, rfl, rfl, rfl, by decide, by kernel_rfl, by kernel_rfl⟩, Try.checked.mixed⟩
/- erasure/erasurelaw32.model -/
def r_erasurelaw32model_0 : ACode := .reg [
    ⟨some 2, none, .box 26 (.t 0)⟩,
    ⟨some 3, none, .box 41 (.t 1)⟩,
    ⟨some 4, none, .alloc 26 [.slice none 0 0, .slice none 0 0, .int .i64 0, .bool false]⟩,
    ⟨some 5, none, .mov (.k (.int .i64 (0)))⟩] none [2, 3, 4]
def r_erasurelaw32model_1 : ACode := .reg [
    ⟨some 6, none, .fld 0 (.t 3)⟩,
    ⟨some 7, none, .load none (.t 6)⟩,
    ⟨some 8, none, .bin .rem (.t 7) (.k (.int .i64 (5)))⟩] none [2, 3, 4, 8]
def r_erasurelaw32model_2 : ACode := .reg [
    ⟨some 10, none, .bin .eql (.t 8) (.k (.int .i64 (0)))⟩,
    ⟨some 9, none, .mov (.t 10)⟩] none [2, 3, 4, 8, 9]
def r_erasurelaw32model_3 : ACode := .reg [
    ⟨some 11, none, .load (some 4) (.t 2)⟩,
    ⟨some 12, none, .fld 2 (.t 3)⟩,
    ⟨some 13, none, .load none (.t 12)⟩,
    ⟨some 14, none, .call 27 [(.t 11), (.t 13)]⟩,
    ⟨some 15, none, .ext 0 (.t 14)⟩,
    ⟨some 16, none, .ext 1 (.t 14)⟩,
    ⟨none, none, .store 4 (.t 4) (.t 15)⟩,
    ⟨some 5, none, .mov (.t 16)⟩] none [4, 5]
def r_erasurelaw32model_4 : ACode := .reg [
    ⟨some 18, none, .bin .eql (.t 8) (.k (.int .i64 (1)))⟩,
    ⟨some 17, none, .mov (.t 18)⟩] none [2, 3, 4, 8, 17]
def r_erasurelaw32model_5 : ACode := .reg [
    ⟨some 19, none, .load (some 4) (.t 2)⟩,
    ⟨some 20, none, .call 28 [(.t 19)]⟩,
    ⟨some 21, none, .ext 0 (.t 20)⟩,
    ⟨some 22, none, .ext 1 (.t 20)⟩,
    ⟨none, none, .store 4 (.t 4) (.t 21)⟩,
    ⟨some 5, none, .mov (.t 22)⟩] none [4, 5]
def r_erasurelaw32model_6 : ACode := .reg [
    ⟨some 24, none, .bin .eql (.t 8) (.k (.int .i64 (2)))⟩,
    ⟨some 23, none, .mov (.t 24)⟩] none [2, 3, 4, 8, 23]
def r_erasurelaw32model_7 : ACode := .reg [
    ⟨some 25, none, .load (some 4) (.t 2)⟩,
    ⟨some 26, none, .fld 1 (.t 3)⟩,
    ⟨some 27, none, .load none (.t 26)⟩,
    ⟨some 28, none, .call 29 [(.t 25), (.t 27)]⟩,
    ⟨some 29, none, .ext 0 (.t 28)⟩,
    ⟨some 30, none, .ext 1 (.t 28)⟩,
    ⟨none, none, .store 4 (.t 4) (.t 29)⟩,
    ⟨some 5, none, .mov (.t 30)⟩] none [4, 5]
def r_erasurelaw32model_8 : ACode := .reg [
    ⟨some 32, none, .bin .eql (.t 8) (.k (.int .i64 (3)))⟩,
    ⟨some 31, none, .mov (.t 32)⟩] none [2, 3, 4, 31]
def r_erasurelaw32model_9 : ACode := .reg [
    ⟨some 33, none, .load (some 4) (.t 2)⟩,
    ⟨some 34, none, .fld 1 (.t 3)⟩,
    ⟨some 35, none, .load none (.t 34)⟩,
    ⟨some 36, none, .call 30 [(.t 33), (.t 35)]⟩,
    ⟨some 37, none, .ext 0 (.t 36)⟩,
    ⟨some 38, none, .ext 1 (.t 36)⟩,
    ⟨none, none, .store 4 (.t 4) (.t 37)⟩,
    ⟨some 5, none, .mov (.t 38)⟩] none [4, 5]
def r_erasurelaw32model_10 : ACode := .reg [
    ⟨some 39, none, .load (some 4) (.t 2)⟩,
    ⟨some 40, none, .fld 1 (.t 3)⟩,
    ⟨some 41, none, .load none (.t 40)⟩,
    ⟨some 42, none, .call 31 [(.t 39), (.t 41)]⟩,
    ⟨some 43, none, .ext 0 (.t 42)⟩,
    ⟨some 44, none, .ext 1 (.t 42)⟩,
    ⟨none, none, .store 4 (.t 4) (.t 43)⟩,
    ⟨some 5, none, .mov (.t 44)⟩] none [4, 5]
def c_erasurelaw32model : ACode :=
  (.seq r_erasurelaw32model_0
  (.seq (.seq r_erasurelaw32model_1
    (.block 0 (.seq r_erasurelaw32model_2
      (.cond (.t 9)
       (.seq r_erasurelaw32model_3
        .ret)
       (.seq r_erasurelaw32model_4
        (.cond (.t 17)
         (.seq r_erasurelaw32model_5
          .ret)
         (.seq r_erasurelaw32model_6
          (.cond (.t 23)
           (.seq r_erasurelaw32model_7
            .ret)
           (.seq r_erasurelaw32model_8
            (.cond (.t 31)
             (.seq r_erasurelaw32model_9
              .ret)
             .skip))))))))))
   (.seq r_erasurelaw32model_10
    .ret)))
theorem fits_erasurelaw32model : Fits Try.prog 18 45 c_erasurelaw32model [.c 4 (some 4), .t 5] := ⟨⟨Try.f18, _, _, Try.func18, rfl, rfl, rfl, by decide, by kernel_rfl, by kernel_rfl⟩, Try.checked.mixed⟩
/- erasure/erasurelaw32.same -/
def r_erasurelaw32same_0 : ACode := .reg [
    ⟨some 2, none, .box 26 (.t 0)⟩,
    ⟨some 3, none, .box 26 (.t 1)⟩,
    ⟨some 4, none, .mov (.k (.bool false))⟩] none [2, 3]
def r_erasurelaw32same_1 : ACode := .reg [
    ⟨some 10, none, .load (some 4) (.t 2)⟩,
    ⟨some 11, none, .call 14 [(.t 10)]⟩,
    ⟨some 9, none, .mov (.t 11)⟩,
    ⟨some 12, none, .ext 0 (.t 9)⟩,
    ⟨some 13, none, .ext 1 (.t 9)⟩,
    ⟨some 5, none, .mov (.t 12)⟩,
    ⟨some 6, none, .mov (.t 13)⟩] none [2, 3, 5, 6]
def r_erasurelaw32same_2 : ACode := .reg [
    ⟨some 15, none, .load (some 4) (.t 3)⟩,
    ⟨some 16, none, .call 32 [(.t 15)]⟩,
    ⟨some 14, none, .mov (.t 16)⟩,
    ⟨some 17, none, .ext 0 (.t 14)⟩,
    ⟨some 18, none, .ext 1 (.t 14)⟩,
    ⟨some 7, none, .mov (.t 17)⟩,
    ⟨some 8, none, .mov (.t 18)⟩] none [2, 3, 5, 6, 7, 8]
def r_erasurelaw32same_3 : ACode := .reg [
    ⟨some 19, none, .load (some 4) (.t 2)⟩,
    ⟨some 20, none, .load (some 4) (.t 3)⟩,
    ⟨some 21, none, .call 12 [(.t 19), (.t 20)]⟩,
    ⟨some 22, none, .mov (.t 21)⟩,
    ⟨some 23, (some (22, true)), .mov (.t 5)⟩,
    ⟨some 24, (some (22, true)), .tostr (.t 23)⟩,
    ⟨some 25, (some (22, true)), .mov (.t 7)⟩,
    ⟨some 26, (some (22, true)), .tostr (.t 25)⟩,
    ⟨some 27, (some (22, true)), .bin .eql (.t 24) (.t 26)⟩,
    ⟨some 28, none, .pick (.t 22) (.t 27) (.k (.bool false))⟩,
    ⟨some 29, none, .mov (.t 28)⟩,
    ⟨some 30, (some (29, true)), .mov (.t 6)⟩,
    ⟨some 31, (some (29, true)), .mov (.t 8)⟩,
    ⟨some 32, (some (29, true)), .bin .eql (.t 30) (.t 31)⟩,
    ⟨some 33, none, .pick (.t 29) (.t 32) (.k (.bool false))⟩,
    ⟨some 4, none, .mov (.t 33)⟩] none [4]
def c_erasurelaw32same : ACode :=
  (.seq r_erasurelaw32same_0
  (.seq r_erasurelaw32same_1
   (.seq r_erasurelaw32same_2
    (.seq r_erasurelaw32same_3
     .ret))))
theorem fits_erasurelaw32same : Fits Try.prog 19 34 c_erasurelaw32same [.t 4] := ⟨⟨Try.f19, _, _, Try.func19, rfl, rfl, rfl, by decide, by kernel_rfl, by kernel_rfl⟩, Try.checked.mixed⟩
end Go.Proofs.Ytilbfoijfiebdaa.Am

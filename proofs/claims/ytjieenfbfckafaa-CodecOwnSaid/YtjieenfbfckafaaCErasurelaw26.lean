/- The code of functions of erasurelaw26 in the form of the abstract machine, and that it fits. -/
import Derived.Test.YtjieenfbfckafaaCNames
namespace Go.Proofs.Ytjieenfbfckafaa.Am
open Go
set_option linter.unusedVariables false
set_option linter.unusedSimpArgs false
set_option maxRecDepth 100000
/- erasure/erasurelaw26.CodecInts -/
def r_erasurelaw26CodecInts_0 : ACode := .reg [
    ⟨some 6, none, .mov (.k (.bool false))⟩] none [0, 1, 2]
def r_erasurelaw26CodecInts_1 : ACode := .reg [
    ⟨some 12, none, .mov (.t 0)⟩,
    ⟨some 13, none, .len (.t 12)⟩,
    ⟨some 14, none, .bin .gtr (.t 13) (.k (.int .i64 (100)))⟩,
    ⟨some 15, none, .mov (.t 14)⟩,
    ⟨some 16, (some (15, false)), .mov (.t 2)⟩,
    ⟨some 17, (some (15, false)), .len (.t 16)⟩,
    ⟨some 18, (some (15, false)), .bin .gtr (.t 17) (.k (.int .i64 (100)))⟩,
    ⟨some 19, none, .pick (.t 15) (.k (.bool true)) (.t 18)⟩] none [0, 1, 2, 19]
def r_erasurelaw26CodecInts_2 : ACode := .reg [
    ⟨some 20, none, .call 18 []⟩,
    ⟨some 6, none, .mov (.t 20)⟩] none [6]
def r_erasurelaw26CodecInts_3 : ACode := .reg [
    ⟨some 21, none, .mov (.t 0)⟩,
    ⟨some 22, none, .tostr (.t 21)⟩,
    ⟨some 7, none, .mov (.t 22)⟩] none [0, 1, 2, 7]
def r_erasurelaw26CodecInts_4 : ACode := .reg [
    ⟨some 23, none, .mov (.t 0)⟩,
    ⟨some 24, none, .mov (.t 1)⟩,
    ⟨some 25, none, .call 19 [(.t 23), (.t 24)]⟩,
    ⟨some 8, none, .mov (.t 25)⟩] none [0, 1, 2, 7, 8]
def r_erasurelaw26CodecInts_5 : ACode := .reg [
    ⟨some 27, none, .mov (.t 1)⟩,
    ⟨some 28, none, .call 22 [(.t 27)]⟩,
    ⟨some 29, none, .mov (.t 2)⟩,
    ⟨some 30, none, .call 21 [(.t 28), (.t 29)]⟩,
    ⟨some 31, none, .call 20 [(.t 30)]⟩,
    ⟨some 26, none, .mov (.t 31)⟩,
    ⟨some 32, none, .ext 0 (.t 26)⟩,
    ⟨some 33, none, .ext 1 (.t 26)⟩,
    ⟨some 34, none, .ext 2 (.t 26)⟩,
    ⟨some 9, none, .mov (.t 32)⟩,
    ⟨some 10, none, .mov (.t 33)⟩,
    ⟨some 11, none, .mov (.t 34)⟩] none [0, 1, 2, 7, 8, 9, 10, 11]
def r_erasurelaw26CodecInts_6 : ACode := .reg [
    ⟨some 35, none, .mov (.t 8)⟩,
    ⟨some 36, none, .tostr (.t 35)⟩,
    ⟨some 37, none, .mov (.t 7)⟩,
    ⟨some 38, none, .mov (.t 1)⟩,
    ⟨some 39, none, .call 22 [(.t 38)]⟩,
    ⟨some 40, none, .tostr (.t 39)⟩,
    ⟨some 41, none, .bin .add (.t 37) (.t 40)⟩,
    ⟨some 42, none, .bin .eql (.t 36) (.t 41)⟩,
    ⟨some 43, none, .mov (.t 42)⟩,
    ⟨some 44, (some (43, true)), .mov (.t 0)⟩,
    ⟨some 45, (some (43, true)), .tostr (.t 44)⟩,
    ⟨some 46, (some (43, true)), .mov (.t 7)⟩,
    ⟨some 47, (some (43, true)), .bin .eql (.t 45) (.t 46)⟩,
    ⟨some 48, none, .pick (.t 43) (.t 47) (.k (.bool false))⟩,
    ⟨some 49, none, .mov (.t 48)⟩,
    ⟨some 50, (some (49, true)), .mov (.t 11)⟩,
    ⟨some 51, (some (49, true)), .bin .eql (.t 50) (.k (.int .i64 (0)))⟩,
    ⟨some 52, none, .pick (.t 49) (.t 51) (.k (.bool false))⟩,
    ⟨some 53, none, .mov (.t 52)⟩,
    ⟨some 54, (some (53, true)), .mov (.t 9)⟩,
    ⟨some 55, (some (53, true)), .mov (.t 1)⟩,
    ⟨some 56, (some (53, true)), .bin .eql (.t 54) (.t 55)⟩,
    ⟨some 57, none, .pick (.t 53) (.t 56) (.k (.bool false))⟩,
    ⟨some 58, none, .mov (.t 57)⟩,
    ⟨some 59, (some (58, true)), .mov (.t 10)⟩,
    ⟨some 60, (some (58, true)), .tostr (.t 59)⟩,
    ⟨some 61, (some (58, true)), .mov (.t 2)⟩,
    ⟨some 62, (some (58, true)), .tostr (.t 61)⟩,
    ⟨some 63, (some (58, true)), .bin .eql (.t 60) (.t 62)⟩,
    ⟨some 64, none, .pick (.t 58) (.t 63) (.k (.bool false))⟩,
    ⟨some 65, none, .mov (.t 64)⟩,
    ⟨some 66, (some (65, true)), .call 18 []⟩,
    ⟨some 67, none, .pick (.t 65) (.t 66) (.k (.bool false))⟩,
    ⟨some 6, none, .mov (.t 67)⟩] (some [0, 1, 0, 0, 8, 24, 60, 127, 255, 511, 1023, 511, 4095, 8191, 16383, 32767, 65535, 131071, 262143, 524287, 524287, 2097151, 4194303, 8388607, 16777215, 33554431, 16777215, 83886079, 268435455, 536870911, 1073741823, 2147483647, 4294967295, 8589934591]) [6]
def c_erasurelaw26CodecInts : ACode :=
  (.seq r_erasurelaw26CodecInts_0
  (.seq (.seq r_erasurelaw26CodecInts_1
    (.cond (.t 19)
     (.seq r_erasurelaw26CodecInts_2
      .ret)
     .skip))
   (.seq r_erasurelaw26CodecInts_3
    (.seq r_erasurelaw26CodecInts_4
     (.seq r_erasurelaw26CodecInts_5
      (.seq r_erasurelaw26CodecInts_6
       .ret))))))
theorem fits_erasurelaw26CodecInts : Fits Try.prog 3 68 c_erasurelaw26CodecInts [.t 6] := ⟨⟨Try.f3, _, _, Try.func3, rfl, rfl, rfl, by decide, by kernel_rfl, by kernel_rfl⟩, Try.checked.mixed⟩
/- erasure/erasurelaw26.CodecIntReads -/
def r_erasurelaw26CodecIntReads_0 : ACode := .reg [
    ⟨some 2, none, .mov (.k (.bool false))⟩] none [0]
def r_erasurelaw26CodecIntReads_1 : ACode := .reg [
    ⟨some 8, none, .mov (.t 0)⟩,
    ⟨some 9, none, .len (.t 8)⟩,
    ⟨some 10, none, .bin .gtr (.t 9) (.k (.int .i64 (100)))⟩] none [0, 10]
def r_erasurelaw26CodecIntReads_2 : ACode := .reg [
    ⟨some 11, none, .call 18 []⟩,
    ⟨some 2, none, .mov (.t 11)⟩] none [2]
def r_erasurelaw26CodecIntReads_3 : ACode := .reg [
    ⟨some 13, none, .mov (.t 0)⟩,
    ⟨some 14, none, .call 20 [(.t 13)]⟩,
    ⟨some 12, none, .mov (.t 14)⟩,
    ⟨some 15, none, .ext 0 (.t 12)⟩,
    ⟨some 16, none, .ext 1 (.t 12)⟩,
    ⟨some 17, none, .ext 2 (.t 12)⟩,
    ⟨some 3, none, .mov (.t 15)⟩,
    ⟨some 4, none, .mov (.t 16)⟩,
    ⟨some 5, none, .mov (.t 17)⟩] none [0, 3, 4, 5]
def r_erasurelaw26CodecIntReads_4 : ACode := .reg [
    ⟨some 18, none, .mov (.t 0)⟩,
    ⟨some 19, none, .build [.slice none 0 0, .int .i64 0] [(0, 1, (.t 18))]⟩,
    ⟨some 20, none, .box 33 (.t 19)⟩,
    ⟨some 6, none, .mov (.t 20)⟩] none [3, 4, 5, 6]
def r_erasurelaw26CodecIntReads_5 : ACode := .reg [
    ⟨some 21, none, .mov (.t 6)⟩,
    ⟨some 22, none, .call 23 [(.t 21)]⟩,
    ⟨some 7, none, .mov (.t 22)⟩] none [3, 4, 5, 6, 7]
def r_erasurelaw26CodecIntReads_6 : ACode := .reg [
    ⟨some 23, none, .mov (.t 6)⟩,
    ⟨some 24, none, .nilck (.t 23)⟩,
    ⟨some 25, none, .fld 1 (.t 24)⟩,
    ⟨some 26, none, .load none (.t 25)⟩,
    ⟨some 27, none, .bin .neq (.t 26) (.k (.int .i64 (0)))⟩] none [3, 4, 5, 6, 7, 27]
def r_erasurelaw26CodecIntReads_7 : ACode := .reg [
    ⟨some 28, none, .mov (.t 5)⟩,
    ⟨some 29, none, .mov (.t 6)⟩,
    ⟨some 30, none, .nilck (.t 29)⟩,
    ⟨some 31, none, .fld 1 (.t 30)⟩,
    ⟨some 32, none, .load none (.t 31)⟩,
    ⟨some 33, none, .bin .eql (.t 28) (.t 32)⟩,
    ⟨some 34, none, .mov (.t 33)⟩,
    ⟨some 35, (some (34, true)), .mov (.t 3)⟩,
    ⟨some 36, (some (34, true)), .bin .eql (.t 35) (.k (.int .i64 (0)))⟩,
    ⟨some 37, none, .pick (.t 34) (.t 36) (.k (.bool false))⟩,
    ⟨some 38, none, .mov (.t 37)⟩,
    ⟨some 39, (some (38, true)), .mov (.t 4)⟩,
    ⟨some 40, (some (38, true)), .len (.t 39)⟩,
    ⟨some 41, (some (38, true)), .bin .eql (.t 40) (.k (.int .i64 (0)))⟩,
    ⟨some 42, none, .pick (.t 38) (.t 41) (.k (.bool false))⟩,
    ⟨some 43, none, .mov (.t 42)⟩,
    ⟨some 44, (some (43, true)), .call 18 []⟩,
    ⟨some 45, none, .pick (.t 43) (.t 44) (.k (.bool false))⟩,
    ⟨some 2, none, .mov (.t 45)⟩] none [2]
def r_erasurelaw26CodecIntReads_8 : ACode := .reg [
    ⟨some 46, none, .mov (.t 5)⟩,
    ⟨some 47, none, .bin .eql (.t 46) (.k (.int .i64 (0)))⟩,
    ⟨some 48, none, .mov (.t 47)⟩,
    ⟨some 49, (some (48, true)), .mov (.t 3)⟩,
    ⟨some 50, (some (48, true)), .mov (.t 7)⟩,
    ⟨some 51, (some (48, true)), .bin .eql (.t 49) (.t 50)⟩,
    ⟨some 52, none, .pick (.t 48) (.t 51) (.k (.bool false))⟩,
    ⟨some 53, none, .mov (.t 52)⟩,
    ⟨some 54, (some (53, true)), .mov (.t 4)⟩,
    ⟨some 55, (some (53, true)), .tostr (.t 54)⟩,
    ⟨some 56, (some (53, true)), .mov (.t 6)⟩,
    ⟨some 57, (some (53, true)), .nilck (.t 56)⟩,
    ⟨some 58, (some (53, true)), .fld 0 (.t 57)⟩,
    ⟨some 59, (some (53, true)), .load none (.t 58)⟩,
    ⟨some 60, (some (53, true)), .tostr (.t 59)⟩,
    ⟨some 61, (some (53, true)), .bin .eql (.t 55) (.t 60)⟩,
    ⟨some 62, none, .pick (.t 53) (.t 61) (.k (.bool false))⟩,
    ⟨some 63, none, .mov (.t 62)⟩,
    ⟨some 64, (some (63, true)), .call 18 []⟩,
    ⟨some 65, none, .pick (.t 63) (.t 64) (.k (.bool false))⟩,
    ⟨some 2, none, .mov (.t 65)⟩] (some [0, 1, 3, 7, 7, 31, 63, 127, 255, 511, 255, 1279, 3327, 7423, 15615, 32767, 65535, 131071, 262143, 524287, 1048575]) [2]
def c_erasurelaw26CodecIntReads : ACode :=
  (.seq r_erasurelaw26CodecIntReads_0
  (.seq (.seq r_erasurelaw26CodecIntReads_1
    (.cond (.t 10)
     (.seq r_erasurelaw26CodecIntReads_2
      .ret)
     .skip))
   (.seq r_erasurelaw26CodecIntReads_3
    (.seq r_erasurelaw26CodecIntReads_4
     (.seq r_erasurelaw26CodecIntReads_5
      (.seq (.seq r_erasurelaw26CodecIntReads_6
        (.cond (.t 27)
         (.seq r_erasurelaw26CodecIntReads_7
          .ret)
         .skip))
       (.seq r_erasurelaw26CodecIntReads_8
        .ret)))))))
theorem fits_erasurelaw26CodecIntReads : Fits Try.prog 4 66 c_erasurelaw26CodecIntReads [.t 2] := ⟨⟨Try.f4, _, _, Try.func4, rfl, rfl, rfl, by decide, by kernel_rfl, by kernel_rfl⟩, Try.checked.mixed⟩
/- erasure/erasurelaw26.CodecOwn -/
def r_erasurelaw26CodecOwn_0 : ACode := .reg [
    ⟨some 6, none, .mov (.k (.bool false))⟩] none [0, 1, 2]
def r_erasurelaw26CodecOwn_1 : ACode := .reg [
    ⟨some 10, none, .mov (.t 0)⟩,
    ⟨some 11, none, .len (.t 10)⟩,
    ⟨some 12, none, .bin .gtr (.t 11) (.k (.int .i64 (100)))⟩] none [0, 1, 2, 12]
def r_erasurelaw26CodecOwn_2 : ACode := .reg [
    ⟨some 13, none, .call 18 []⟩,
    ⟨some 6, none, .mov (.t 13)⟩] none [6]
def r_erasurelaw26CodecOwn_3 : ACode := .reg [
    ⟨some 14, none, .mov (.t 0)⟩,
    ⟨some 15, none, .len (.t 14)⟩,
    ⟨some 16, none, .mov (.t 0)⟩,
    ⟨some 17, none, .len (.t 16)⟩,
    ⟨some 18, none, .bin .add (.t 17) (.k (.int .i64 (40)))⟩,
    ⟨some 19, none, .make 5 1 1 [.int .u8 0] (.t 15) (.t 18) true⟩,
    ⟨some 7, none, .mov (.t 19)⟩] none [0, 1, 2, 7]
def r_erasurelaw26CodecOwn_4 : ACode := .reg [
    ⟨some 20, none, .mov (.t 7)⟩,
    ⟨some 21, none, .mov (.t 0)⟩,
    ⟨some 22, none, .copy 1 (.t 20) (.t 21)⟩] none [0, 1, 2, 7]
def r_erasurelaw26CodecOwn_5 : ACode := .reg [
    ⟨some 23, none, .mov (.t 7)⟩,
    ⟨some 24, none, .mov (.t 1)⟩,
    ⟨some 25, none, .call 19 [(.t 23), (.t 24)]⟩,
    ⟨some 8, none, .mov (.t 25)⟩] none [0, 1, 2, 7, 8]
def r_erasurelaw26CodecOwn_6 : ACode := .reg [
    ⟨some 26, none, .mov (.t 7)⟩,
    ⟨some 27, none, .mov (.t 2)⟩,
    ⟨some 28, none, .call 19 [(.t 26), (.t 27)]⟩,
    ⟨some 9, none, .mov (.t 28)⟩] none [0, 1, 2, 8, 9]
def r_erasurelaw26CodecOwn_7 : ACode := .reg [
    ⟨some 29, none, .mov (.t 8)⟩,
    ⟨some 30, none, .tostr (.t 29)⟩,
    ⟨some 31, none, .mov (.t 0)⟩,
    ⟨some 32, none, .tostr (.t 31)⟩,
    ⟨some 33, none, .mov (.t 1)⟩,
    ⟨some 34, none, .call 22 [(.t 33)]⟩,
    ⟨some 35, none, .tostr (.t 34)⟩,
    ⟨some 36, none, .bin .add (.t 32) (.t 35)⟩,
    ⟨some 37, none, .bin .eql (.t 30) (.t 36)⟩,
    ⟨some 38, none, .mov (.t 37)⟩,
    ⟨some 39, (some (38, true)), .mov (.t 9)⟩,
    ⟨some 40, (some (38, true)), .tostr (.t 39)⟩,
    ⟨some 41, (some (38, true)), .mov (.t 0)⟩,
    ⟨some 42, (some (38, true)), .tostr (.t 41)⟩,
    ⟨some 43, (some (38, true)), .mov (.t 2)⟩,
    ⟨some 44, (some (38, true)), .call 22 [(.t 43)]⟩,
    ⟨some 45, (some (38, true)), .tostr (.t 44)⟩,
    ⟨some 46, (some (38, true)), .bin .add (.t 42) (.t 45)⟩,
    ⟨some 47, (some (38, true)), .bin .eql (.t 40) (.t 46)⟩,
    ⟨some 48, none, .pick (.t 38) (.t 47) (.k (.bool false))⟩,
    ⟨some 49, none, .mov (.t 48)⟩,
    ⟨some 50, (some (49, true)), .call 18 []⟩,
    ⟨some 51, none, .pick (.t 49) (.t 50) (.k (.bool false))⟩,
    ⟨some 6, none, .mov (.t 51)⟩] (some [0, 1, 0, 4, 0, 16, 48, 124, 255, 511, 1023, 2047, 1023, 5119, 1023, 17407, 50175, 127999, 262143, 524287, 1048575, 2097151, 4194303, 8388607]) [6]
def c_erasurelaw26CodecOwn : ACode :=
  (.seq r_erasurelaw26CodecOwn_0
  (.seq (.seq r_erasurelaw26CodecOwn_1
    (.cond (.t 12)
     (.seq r_erasurelaw26CodecOwn_2
      .ret)
     .skip))
   (.seq r_erasurelaw26CodecOwn_3
    (.seq r_erasurelaw26CodecOwn_4
     (.seq (.ghost r_erasurelaw26CodecOwn_5)
      (.seq r_erasurelaw26CodecOwn_6
       (.seq r_erasurelaw26CodecOwn_7
        .ret)))))))
theorem fits_erasurelaw26CodecOwn : Fits Try.prog 5 52 c_erasurelaw26CodecOwn [.t 6] := ⟨⟨Try.f5, _, _, Try.func5, rfl, rfl, rfl, by decide, by kernel_rfl, by kernel_rfl⟩, Try.checked.mixed⟩
/- erasure/erasurelaw26.CodecTexts -/
def r_erasurelaw26CodecTexts_0 : ACode := .reg [
    ⟨some 6, none, .mov (.k (.bool false))⟩] none [0, 1, 2]
def r_erasurelaw26CodecTexts_1 : ACode := .reg [
    ⟨some 11, none, .mov (.t 0)⟩,
    ⟨some 12, none, .lens (.t 11)⟩,
    ⟨some 13, none, .bin .gtr (.t 12) (.k (.int .i64 (200)))⟩,
    ⟨some 14, none, .mov (.t 13)⟩,
    ⟨some 15, (some (14, false)), .mov (.t 2)⟩,
    ⟨some 16, (some (14, false)), .len (.t 15)⟩,
    ⟨some 17, (some (14, false)), .bin .gtr (.t 16) (.k (.int .i64 (100)))⟩,
    ⟨some 18, none, .pick (.t 14) (.k (.bool true)) (.t 17)⟩] none [0, 1, 2, 18]
def r_erasurelaw26CodecTexts_2 : ACode := .reg [
    ⟨some 19, none, .call 18 []⟩,
    ⟨some 6, none, .mov (.t 19)⟩] none [6]
def r_erasurelaw26CodecTexts_3 : ACode := .reg [
    ⟨some 20, none, .mov (.t 0)⟩,
    ⟨some 21, none, .call 24 [(.k (.slice none 0 0)), (.t 20)]⟩,
    ⟨some 7, none, .mov (.t 21)⟩] none [0, 1, 2, 7]
def r_erasurelaw26CodecTexts_4 : ACode := .reg [
    ⟨some 23, none, .mov (.t 0)⟩,
    ⟨some 24, none, .call 26 [(.t 23)]⟩,
    ⟨some 25, none, .mov (.t 2)⟩,
    ⟨some 26, none, .call 21 [(.t 24), (.t 25)]⟩,
    ⟨some 27, none, .mov (.t 1)⟩,
    ⟨some 28, none, .call 25 [(.t 26), (.t 27)]⟩,
    ⟨some 22, none, .mov (.t 28)⟩,
    ⟨some 29, none, .ext 0 (.t 22)⟩,
    ⟨some 30, none, .ext 1 (.t 22)⟩,
    ⟨some 31, none, .ext 2 (.t 22)⟩,
    ⟨some 8, none, .mov (.t 29)⟩,
    ⟨some 9, none, .mov (.t 30)⟩,
    ⟨some 10, none, .mov (.t 31)⟩] none [0, 1, 2, 7, 8, 9, 10]
def r_erasurelaw26CodecTexts_5 : ACode := .reg [
    ⟨some 32, none, .mov (.t 7)⟩,
    ⟨some 33, none, .tostr (.t 32)⟩,
    ⟨some 34, none, .mov (.t 0)⟩,
    ⟨some 35, none, .call 26 [(.t 34)]⟩,
    ⟨some 36, none, .tostr (.t 35)⟩,
    ⟨some 37, none, .bin .neq (.t 33) (.t 36)⟩] (some [0, 1, 0, 4, 12, 31]) [0, 1, 2, 8, 9, 10, 37]
def r_erasurelaw26CodecTexts_6 : ACode := .reg [
    ⟨some 6, none, .mov (.k (.bool false))⟩] none [6]
def r_erasurelaw26CodecTexts_7 : ACode := .reg [
    ⟨some 38, none, .mov (.t 0)⟩,
    ⟨some 39, none, .lens (.t 38)⟩,
    ⟨some 40, none, .mov (.t 1)⟩,
    ⟨some 41, none, .bin .gtr (.t 39) (.t 40)⟩] none [0, 2, 8, 9, 10, 41]
def r_erasurelaw26CodecTexts_8 : ACode := .reg [
    ⟨some 42, none, .mov (.t 10)⟩,
    ⟨some 43, none, .bin .eql (.t 42) (.k (.int .i64 (1)))⟩,
    ⟨some 44, none, .mov (.t 43)⟩,
    ⟨some 45, (some (44, true)), .mov (.t 8)⟩,
    ⟨some 46, (some (44, true)), .bin .eql (.t 45) (.k (.string { data := #[] }))⟩,
    ⟨some 47, none, .pick (.t 44) (.t 46) (.k (.bool false))⟩,
    ⟨some 48, none, .mov (.t 47)⟩,
    ⟨some 49, (some (48, true)), .mov (.t 9)⟩,
    ⟨some 50, (some (48, true)), .len (.t 49)⟩,
    ⟨some 51, (some (48, true)), .bin .eql (.t 50) (.k (.int .i64 (0)))⟩,
    ⟨some 52, none, .pick (.t 48) (.t 51) (.k (.bool false))⟩,
    ⟨some 53, none, .mov (.t 52)⟩,
    ⟨some 54, (some (53, true)), .call 18 []⟩,
    ⟨some 55, none, .pick (.t 53) (.t 54) (.k (.bool false))⟩,
    ⟨some 6, none, .mov (.t 55)⟩] none [6]
def r_erasurelaw26CodecTexts_9 : ACode := .reg [
    ⟨some 56, none, .mov (.t 10)⟩,
    ⟨some 57, none, .bin .eql (.t 56) (.k (.int .i64 (0)))⟩,
    ⟨some 58, none, .mov (.t 57)⟩,
    ⟨some 59, (some (58, true)), .mov (.t 8)⟩,
    ⟨some 60, (some (58, true)), .mov (.t 0)⟩,
    ⟨some 61, (some (58, true)), .bin .eql (.t 59) (.t 60)⟩,
    ⟨some 62, none, .pick (.t 58) (.t 61) (.k (.bool false))⟩,
    ⟨some 63, none, .mov (.t 62)⟩,
    ⟨some 64, (some (63, true)), .mov (.t 9)⟩,
    ⟨some 65, (some (63, true)), .tostr (.t 64)⟩,
    ⟨some 66, (some (63, true)), .mov (.t 2)⟩,
    ⟨some 67, (some (63, true)), .tostr (.t 66)⟩,
    ⟨some 68, (some (63, true)), .bin .eql (.t 65) (.t 67)⟩,
    ⟨some 69, none, .pick (.t 63) (.t 68) (.k (.bool false))⟩,
    ⟨some 70, none, .mov (.t 69)⟩,
    ⟨some 71, (some (70, true)), .call 18 []⟩,
    ⟨some 72, none, .pick (.t 70) (.t 71) (.k (.bool false))⟩,
    ⟨some 6, none, .mov (.t 72)⟩] none [6]
def c_erasurelaw26CodecTexts : ACode :=
  (.seq r_erasurelaw26CodecTexts_0
  (.seq (.seq r_erasurelaw26CodecTexts_1
    (.cond (.t 18)
     (.seq r_erasurelaw26CodecTexts_2
      .ret)
     .skip))
   (.seq r_erasurelaw26CodecTexts_3
    (.seq r_erasurelaw26CodecTexts_4
     (.seq (.seq r_erasurelaw26CodecTexts_5
       (.cond (.t 37)
        (.seq r_erasurelaw26CodecTexts_6
         .ret)
        .skip))
      (.seq (.seq r_erasurelaw26CodecTexts_7
        (.cond (.t 41)
         (.seq r_erasurelaw26CodecTexts_8
          .ret)
         .skip))
       (.seq r_erasurelaw26CodecTexts_9
        .ret)))))))
theorem fits_erasurelaw26CodecTexts : Fits Try.prog 6 73 c_erasurelaw26CodecTexts [.t 6] := ⟨⟨Try.f6, _, _, Try.func6, rfl, rfl, rfl, by decide, by kernel_rfl, by kernel_rfl⟩, Try.checked.mixed⟩
/- erasure/erasurelaw26.CodecVersions -/
def r_erasurelaw26CodecVersions_0 : ACode := .reg [
    ⟨some 5, none, .box 45 (.t 2)⟩,
    ⟨some 6, none, .mov (.k (.bool false))⟩] none [0, 1, 5]
def r_erasurelaw26CodecVersions_1 : ACode := .reg [
    ⟨some 17, none, .mov (.t 0)⟩,
    ⟨some 18, none, .len (.t 17)⟩,
    ⟨some 19, none, .bin .gtr (.t 18) (.k (.int .i64 (40)))⟩,
    ⟨some 20, none, .mov (.t 19)⟩,
    ⟨some 21, (some (20, false)), .mov (.t 1)⟩,
    ⟨some 22, (some (20, false)), .len (.t 21)⟩,
    ⟨some 23, (some (20, false)), .bin .gtr (.t 22) (.k (.int .i64 (40)))⟩,
    ⟨some 24, none, .pick (.t 20) (.k (.bool true)) (.t 23)⟩] none [0, 1, 5, 24]
def r_erasurelaw26CodecVersions_2 : ACode := .reg [
    ⟨some 25, none, .call 18 []⟩,
    ⟨some 6, none, .mov (.t 25)⟩] none [6]
def r_erasurelaw26CodecVersions_3 : ACode := .reg [
    ⟨some 26, none, .mov (.t 0)⟩,
    ⟨some 27, none, .call 29 [(.k (.slice none 0 0)), (.t 26)]⟩,
    ⟨some 28, none, .load (some 32) (.t 5)⟩,
    ⟨some 29, none, .call 28 [(.t 27), (.t 28)]⟩,
    ⟨some 30, none, .mov (.t 1)⟩,
    ⟨some 31, none, .call 27 [(.t 29), (.t 30)]⟩,
    ⟨some 7, none, .mov (.t 31)⟩] (some [0, 1, 0, 7, 0, 31, 63]) [0, 1, 5, 7]
def r_erasurelaw26CodecVersions_4 : ACode := .reg [
    ⟨some 33, none, .mov (.t 7)⟩,
    ⟨some 34, none, .call 30 [(.t 33)]⟩,
    ⟨some 32, none, .mov (.t 34)⟩,
    ⟨some 35, none, .ext 0 (.t 32)⟩,
    ⟨some 36, none, .ext 1 (.t 32)⟩,
    ⟨some 37, none, .ext 2 (.t 32)⟩,
    ⟨some 8, none, .mov (.t 35)⟩,
    ⟨some 9, none, .mov (.t 36)⟩,
    ⟨some 10, none, .mov (.t 37)⟩] none [0, 1, 5, 8, 9, 10]
def r_erasurelaw26CodecVersions_5 : ACode := .reg [
    ⟨some 39, none, .mov (.t 9)⟩,
    ⟨some 40, none, .call 31 [(.t 39)]⟩,
    ⟨some 38, none, .mov (.t 40)⟩,
    ⟨some 41, none, .ext 0 (.t 38)⟩,
    ⟨some 42, none, .ext 1 (.t 38)⟩,
    ⟨some 43, none, .ext 2 (.t 38)⟩,
    ⟨some 11, none, .alloc 45 [.int .u8 0, .int .u8 0, .int .u8 0, .int .u8 0, .int .u8 0, .int .u8 0, .int .u8 0, .int .u8 0, .int .u8 0, .int .u8 0, .int .u8 0, .int .u8 0, .int .u8 0, .int .u8 0, .int .u8 0, .int .u8 0, .int .u8 0, .int .u8 0, .int .u8 0, .int .u8 0, .int .u8 0, .int .u8 0, .int .u8 0, .int .u8 0, .int .u8 0, .int .u8 0, .int .u8 0, .int .u8 0, .int .u8 0, .int .u8 0, .int .u8 0, .int .u8 0]⟩,
    ⟨none, none, .store 32 (.t 11) (.t 41)⟩,
    ⟨some 12, none, .mov (.t 42)⟩,
    ⟨some 13, none, .mov (.t 43)⟩] none [0, 1, 5, 8, 10, 11, 12, 13]
def r_erasurelaw26CodecVersions_6 : ACode := .reg [
    ⟨some 45, none, .mov (.t 12)⟩,
    ⟨some 46, none, .lit 5 1 1 [.int .u8 0] [(0, (.k (.int .u8 (7))))] false⟩,
    ⟨some 47, none, .call 21 [(.t 45), (.t 46)]⟩,
    ⟨some 48, none, .call 32 [(.t 47)]⟩,
    ⟨some 44, none, .mov (.t 48)⟩,
    ⟨some 49, none, .ext 0 (.t 44)⟩,
    ⟨some 50, none, .ext 1 (.t 44)⟩,
    ⟨some 51, none, .ext 2 (.t 44)⟩,
    ⟨some 14, none, .mov (.t 49)⟩,
    ⟨some 15, none, .mov (.t 50)⟩,
    ⟨some 16, none, .mov (.t 51)⟩] none [0, 1, 5, 8, 10, 11, 13, 14, 15, 16]
def r_erasurelaw26CodecVersions_7 : ACode := .reg [
    ⟨some 52, none, .mov (.t 0)⟩,
    ⟨some 53, none, .call 29 [(.k (.slice none 0 0)), (.t 52)]⟩,
    ⟨some 54, none, .tostr (.t 53)⟩,
    ⟨some 55, none, .mov (.t 0)⟩,
    ⟨some 56, none, .call 33 [(.t 55)]⟩,
    ⟨some 57, none, .tostr (.t 56)⟩,
    ⟨some 58, none, .bin .eql (.t 54) (.t 57)⟩,
    ⟨some 59, none, .mov (.t 58)⟩,
    ⟨some 60, (some (59, true)), .mov (.t 1)⟩,
    ⟨some 61, (some (59, true)), .call 27 [(.k (.slice none 0 0)), (.t 60)]⟩,
    ⟨some 62, (some (59, true)), .tostr (.t 61)⟩,
    ⟨some 63, (some (59, true)), .mov (.t 1)⟩,
    ⟨some 64, (some (59, true)), .call 34 [(.t 63)]⟩,
    ⟨some 65, (some (59, true)), .tostr (.t 64)⟩,
    ⟨some 66, (some (59, true)), .bin .eql (.t 62) (.t 65)⟩,
    ⟨some 67, none, .pick (.t 59) (.t 66) (.k (.bool false))⟩,
    ⟨some 68, none, .mov (.t 67)⟩,
    ⟨some 69, (some (68, true)), .mov (.t 10)⟩,
    ⟨some 70, (some (68, true)), .bin .eql (.t 69) (.k (.int .i64 (0)))⟩,
    ⟨some 71, none, .pick (.t 68) (.t 70) (.k (.bool false))⟩,
    ⟨some 72, none, .mov (.t 71)⟩,
    ⟨some 73, (some (72, true)), .mov (.t 13)⟩,
    ⟨some 74, (some (72, true)), .bin .eql (.t 73) (.k (.int .i64 (0)))⟩,
    ⟨some 75, none, .pick (.t 72) (.t 74) (.k (.bool false))⟩,
    ⟨some 76, none, .mov (.t 75)⟩,
    ⟨some 77, (some (76, true)), .mov (.t 16)⟩,
    ⟨some 78, (some (76, true)), .bin .eql (.t 77) (.k (.int .i64 (0)))⟩,
    ⟨some 79, none, .pick (.t 76) (.t 78) (.k (.bool false))⟩,
    ⟨some 80, none, .mov (.t 79)⟩,
    ⟨some 81, (some (80, true)), .mov (.t 8)⟩,
    ⟨some 82, (some (80, true)), .mov (.t 0)⟩,
    ⟨some 83, (some (80, true)), .call 35 [(.t 81), (.t 82)]⟩,
    ⟨some 84, none, .pick (.t 80) (.t 83) (.k (.bool false))⟩,
    ⟨some 85, none, .mov (.t 84)⟩,
    ⟨some 86, (some (85, true)), .load (some 32) (.t 11)⟩,
    ⟨some 87, (some (85, true)), .load (some 32) (.t 5)⟩,
    ⟨some 88, (some (85, true)), .eqa false [(32, .ti .u8)] (.t 86) (.t 87)⟩,
    ⟨some 89, none, .pick (.t 85) (.t 88) (.k (.bool false))⟩,
    ⟨some 90, none, .mov (.t 89)⟩,
    ⟨some 91, (some (90, true)), .mov (.t 14)⟩,
    ⟨some 92, (some (90, true)), .mov (.t 1)⟩,
    ⟨some 93, (some (90, true)), .call 36 [(.t 91), (.t 92)]⟩,
    ⟨some 94, none, .pick (.t 90) (.t 93) (.k (.bool false))⟩,
    ⟨some 95, none, .mov (.t 94)⟩,
    ⟨some 96, (some (95, true)), .mov (.t 15)⟩,
    ⟨some 97, (some (95, true)), .tostr (.t 96)⟩,
    ⟨some 98, (some (95, true)), .bin .eql (.t 97) (.k (.string { data := #[7] }))⟩,
    ⟨some 99, none, .pick (.t 95) (.t 98) (.k (.bool false))⟩,
    ⟨some 100, none, .mov (.t 99)⟩,
    ⟨some 101, (some (100, true)), .call 18 []⟩,
    ⟨some 102, none, .pick (.t 100) (.t 101) (.k (.bool false))⟩,
    ⟨some 6, none, .mov (.t 102)⟩] (some [0, 1, 3, 0, 11, 27, 63, 127, 255, 511, 1023, 255, 3071, 7167, 16383, 32767, 65535, 131071, 262143, 524287, 1048575, 2097151, 4194303, 8388607, 16777215, 33554431, 67108863, 134217727, 268435455, 536870911, 536870911, 2147483647, 4294967295, 8589934591, 17179869183, 17179869183, 68719476735, 137438953471, 274877906943, 549755813887, 549755813887, 2199023255551, 4398046511103, 8796093022207, 17592186044415, 35184372088831, 70368744177663, 140737488355327, 281474976710655, 562949953421311, 1125899906842623, 2251799813685247]) [6]
def c_erasurelaw26CodecVersions : ACode :=
  (.seq r_erasurelaw26CodecVersions_0
  (.seq (.seq r_erasurelaw26CodecVersions_1
    (.cond (.t 24)
     (.seq r_erasurelaw26CodecVersions_2
      .ret)
     .skip))
   (.seq r_erasurelaw26CodecVersions_3
    (.seq r_erasurelaw26CodecVersions_4
     (.seq r_erasurelaw26CodecVersions_5
      (.seq r_erasurelaw26CodecVersions_6
       (.seq r_erasurelaw26CodecVersions_7
        .ret)))))))
theorem fits_erasurelaw26CodecVersions : Fits Try.prog 7 103 c_erasurelaw26CodecVersions [.t 6] := ⟨⟨Try.f7, _, _, Try.func7, rfl, rfl, rfl, by decide, by kernel_rfl, by kernel_rfl⟩, Try.checked.mixed⟩
/- erasure/erasurelaw26.CodecRows -/
def r_erasurelaw26CodecRows_0 : ACode := .reg [
    ⟨some 4, none, .mov (.k (.bool false))⟩] none [0, 1]
def r_erasurelaw26CodecRows_1 : ACode := .reg [
    ⟨some 14, none, .mov (.t 0)⟩,
    ⟨some 15, none, .call 37 [(.t 14)]⟩,
    ⟨some 16, none, .un .not (.t 15)⟩,
    ⟨some 17, none, .mov (.t 16)⟩,
    ⟨some 18, (some (17, false)), .mov (.t 1)⟩,
    ⟨some 19, (some (17, false)), .len (.t 18)⟩,
    ⟨some 20, (some (17, false)), .bin .gtr (.t 19) (.k (.int .i64 (100)))⟩,
    ⟨some 21, none, .pick (.t 17) (.k (.bool true)) (.t 20)⟩] none [0, 1, 21]
def r_erasurelaw26CodecRows_2 : ACode := .reg [
    ⟨some 22, none, .call 18 []⟩,
    ⟨some 4, none, .mov (.t 22)⟩] none [4]
def r_erasurelaw26CodecRows_3 : ACode := .reg [
    ⟨some 23, none, .mov (.t 0)⟩,
    ⟨some 24, none, .call 38 [(.k (.slice none 0 0)), (.t 23)]⟩,
    ⟨some 5, none, .mov (.t 24)⟩] none [0, 1, 5]
def r_erasurelaw26CodecRows_4 : ACode := .reg [
    ⟨some 26, none, .mov (.t 5)⟩,
    ⟨some 27, none, .mov (.t 1)⟩,
    ⟨some 28, none, .call 21 [(.t 26), (.t 27)]⟩,
    ⟨some 29, none, .call 39 [(.t 28)]⟩,
    ⟨some 25, none, .mov (.t 29)⟩,
    ⟨some 30, none, .ext 0 (.t 25)⟩,
    ⟨some 31, none, .ext 1 (.t 25)⟩,
    ⟨some 32, none, .ext 2 (.t 25)⟩,
    ⟨some 6, none, .mov (.t 30)⟩,
    ⟨some 7, none, .mov (.t 31)⟩,
    ⟨some 8, none, .mov (.t 32)⟩] none [0, 1, 5, 6, 7, 8]
def r_erasurelaw26CodecRows_5 : ACode := .reg [
    ⟨some 9, none, .mov (.k (.int .i64 (0)))⟩] none [0, 1, 5, 6, 7, 8, 9]
def r_erasurelaw26CodecRows_6 : ACode := .reg [
    ⟨some 33, none, .mov (.t 9)⟩,
    ⟨some 34, none, .mov (.t 0)⟩,
    ⟨some 35, none, .len (.t 34)⟩,
    ⟨some 36, none, .bin .lss (.t 33) (.t 35)⟩] none [0, 1, 5, 6, 7, 8, 9, 36]
def r_erasurelaw26CodecRows_7 : ACode := .reg [
    ⟨some 39, none, .mov (.t 0)⟩,
    ⟨some 40, none, .mov (.t 9)⟩,
    ⟨some 41, none, .idxa 3 (.t 39) (.t 40)⟩,
    ⟨some 42, none, .load (some 3) (.t 41)⟩,
    ⟨some 43, none, .call 40 [(.k (.slice none 0 0)), (.t 42)]⟩,
    ⟨some 10, none, .mov (.t 43)⟩] none [0, 1, 5, 6, 7, 8, 9, 10]
def r_erasurelaw26CodecRows_8 : ACode := .reg [
    ⟨some 45, none, .mov (.t 10)⟩,
    ⟨some 46, none, .mov (.t 1)⟩,
    ⟨some 47, none, .call 21 [(.t 45), (.t 46)]⟩,
    ⟨some 48, none, .call 41 [(.t 47)]⟩,
    ⟨some 44, none, .mov (.t 48)⟩,
    ⟨some 49, none, .ext 0 (.t 44)⟩,
    ⟨some 50, none, .ext 1 (.t 44)⟩,
    ⟨some 51, none, .ext 2 (.t 44)⟩,
    ⟨some 11, none, .alloc 67 [.int .i64 0, .int .i64 0, .string ⟨#[]⟩]⟩,
    ⟨none, none, .store 3 (.t 11) (.t 49)⟩,
    ⟨some 12, none, .mov (.t 50)⟩,
    ⟨some 13, none, .mov (.t 51)⟩] none [0, 1, 5, 6, 7, 8, 9, 10, 11, 12, 13]
def r_erasurelaw26CodecRows_9 : ACode := .reg [
    ⟨some 52, none, .mov (.t 10)⟩,
    ⟨some 53, none, .tostr (.t 52)⟩,
    ⟨some 54, none, .mov (.t 0)⟩,
    ⟨some 55, none, .mov (.t 9)⟩,
    ⟨some 56, none, .idxa 3 (.t 54) (.t 55)⟩,
    ⟨some 57, none, .load (some 3) (.t 56)⟩,
    ⟨some 58, none, .call 42 [(.t 57)]⟩,
    ⟨some 59, none, .tostr (.t 58)⟩,
    ⟨some 60, none, .bin .neq (.t 53) (.t 59)⟩,
    ⟨some 61, none, .mov (.t 60)⟩,
    ⟨some 62, (some (61, false)), .mov (.t 13)⟩,
    ⟨some 63, (some (61, false)), .bin .neq (.t 62) (.k (.int .i64 (0)))⟩,
    ⟨some 64, none, .pick (.t 61) (.k (.bool true)) (.t 63)⟩,
    ⟨some 65, none, .mov (.t 64)⟩,
    ⟨some 66, (some (65, false)), .load (some 3) (.t 11)⟩,
    ⟨some 67, (some (65, false)), .mov (.t 0)⟩,
    ⟨some 68, (some (65, false)), .mov (.t 9)⟩,
    ⟨some 69, (some (65, false)), .idxa 3 (.t 67) (.t 68)⟩,
    ⟨some 70, (some (65, false)), .load (some 3) (.t 69)⟩,
    ⟨some 71, (some (65, false)), .call 43 [(.t 70)]⟩,
    ⟨some 72, (some (65, false)), .eqa true [(2, .ti .i64), (1, .ts)] (.t 66) (.t 71)⟩,
    ⟨some 73, none, .pick (.t 65) (.k (.bool true)) (.t 72)⟩,
    ⟨some 74, none, .mov (.t 73)⟩,
    ⟨some 75, (some (74, false)), .mov (.t 12)⟩,
    ⟨some 76, (some (74, false)), .tostr (.t 75)⟩,
    ⟨some 77, (some (74, false)), .mov (.t 1)⟩,
    ⟨some 78, (some (74, false)), .tostr (.t 77)⟩,
    ⟨some 79, (some (74, false)), .bin .neq (.t 76) (.t 78)⟩,
    ⟨some 80, none, .pick (.t 74) (.k (.bool true)) (.t 79)⟩] (some [0, 1, 0, 0, 12, 28, 60, 124, 255, 511, 1023, 2047, 4095, 8191, 16383, 16383, 16383, 114687, 245759, 507903, 1048575, 2097151, 4194303, 8388607, 16777215, 8388607, 41943039, 134217727, 268435455]) [0, 1, 5, 6, 7, 8, 9, 80]
def r_erasurelaw26CodecRows_10 : ACode := .reg [
    ⟨some 4, none, .mov (.k (.bool false))⟩] none [4]
def r_erasurelaw26CodecRows_11 : ACode := .reg [
    ⟨some 37, none, .mov (.t 9)⟩,
    ⟨some 38, none, .bin .add (.t 37) (.k (.int .i64 (1)))⟩,
    ⟨some 9, none, .mov (.t 38)⟩] none [0, 1, 5, 6, 7, 8, 9]
def r_erasurelaw26CodecRows_12 : ACode := .reg [
    ⟨some 81, none, .mov (.t 5)⟩,
    ⟨some 82, none, .tostr (.t 81)⟩,
    ⟨some 83, none, .mov (.t 0)⟩,
    ⟨some 84, none, .call 44 [(.t 83)]⟩,
    ⟨some 85, none, .tostr (.t 84)⟩,
    ⟨some 86, none, .bin .eql (.t 82) (.t 85)⟩,
    ⟨some 87, none, .mov (.t 86)⟩,
    ⟨some 88, (some (87, true)), .mov (.t 8)⟩,
    ⟨some 89, (some (87, true)), .bin .eql (.t 88) (.k (.int .i64 (0)))⟩,
    ⟨some 90, none, .pick (.t 87) (.t 89) (.k (.bool false))⟩,
    ⟨some 91, none, .mov (.t 90)⟩,
    ⟨some 92, (some (91, true)), .mov (.t 6)⟩,
    ⟨some 93, (some (91, true)), .mov (.t 0)⟩,
    ⟨some 94, (some (91, true)), .call 46 [(.t 93)]⟩,
    ⟨some 95, (some (91, true)), .call 45 [(.t 92), (.t 94)]⟩,
    ⟨some 96, none, .pick (.t 91) (.t 95) (.k (.bool false))⟩,
    ⟨some 97, none, .mov (.t 96)⟩,
    ⟨some 98, (some (97, true)), .mov (.t 7)⟩,
    ⟨some 99, (some (97, true)), .tostr (.t 98)⟩,
    ⟨some 100, (some (97, true)), .mov (.t 1)⟩,
    ⟨some 101, (some (97, true)), .tostr (.t 100)⟩,
    ⟨some 102, (some (97, true)), .bin .eql (.t 99) (.t 101)⟩,
    ⟨some 103, none, .pick (.t 97) (.t 102) (.k (.bool false))⟩,
    ⟨some 104, none, .mov (.t 103)⟩,
    ⟨some 105, (some (104, true)), .call 18 []⟩,
    ⟨some 106, none, .pick (.t 104) (.t 105) (.k (.bool false))⟩,
    ⟨some 4, none, .mov (.t 106)⟩] (some [0, 1, 0, 4, 12, 31, 63, 127, 255, 511, 1023, 2047, 2047, 6143, 16383, 32767, 65535, 131071, 262143, 131071, 655359, 2097151, 4194303, 8388607, 16777215, 33554431, 67108863]) [4]
def c_erasurelaw26CodecRows : ACode :=
  (.seq r_erasurelaw26CodecRows_0
  (.seq (.seq r_erasurelaw26CodecRows_1
    (.cond (.t 21)
     (.seq r_erasurelaw26CodecRows_2
      .ret)
     .skip))
   (.seq r_erasurelaw26CodecRows_3
    (.seq r_erasurelaw26CodecRows_4
     (.seq (.seq r_erasurelaw26CodecRows_5
       (.block 0 (.loop (.seq (.seq r_erasurelaw26CodecRows_6
           (.cond (.t 36)
            .skip
            (.exit 0)))
          (.seq (.block 1 (.seq r_erasurelaw26CodecRows_7
             (.seq r_erasurelaw26CodecRows_8
              (.seq r_erasurelaw26CodecRows_9
               (.cond (.t 80)
                (.seq r_erasurelaw26CodecRows_10
                 .ret)
                .skip)))))
           r_erasurelaw26CodecRows_11)))))
      (.seq r_erasurelaw26CodecRows_12
       .ret))))))
theorem fits_erasurelaw26CodecRows : Fits Try.prog 8 107 c_erasurelaw26CodecRows [.t 4] := ⟨⟨Try.f8, _, _, Try.func8, rfl, rfl, rfl, by decide, by kernel_rfl, by kernel_rfl⟩, Try.checked.mixed⟩
/- erasure/erasurelaw26.CodecBags -/
def r_erasurelaw26CodecBags_0 : ACode := .reg [
    ⟨some 4, none, .mov (.k (.bool false))⟩] none [0, 1]
def r_erasurelaw26CodecBags_1 : ACode := .reg [
    ⟨some 11, none, .mov (.t 0)⟩,
    ⟨some 12, none, .len (.t 11)⟩,
    ⟨some 13, none, .bin .gtr (.t 12) (.k (.int .i64 (30)))⟩,
    ⟨some 14, none, .mov (.t 13)⟩,
    ⟨some 15, (some (14, false)), .mov (.t 1)⟩,
    ⟨some 16, (some (14, false)), .len (.t 15)⟩,
    ⟨some 17, (some (14, false)), .bin .gtr (.t 16) (.k (.int .i64 (100)))⟩,
    ⟨some 18, none, .pick (.t 14) (.k (.bool true)) (.t 17)⟩] none [0, 1, 18]
def r_erasurelaw26CodecBags_2 : ACode := .reg [
    ⟨some 19, none, .call 18 []⟩,
    ⟨some 4, none, .mov (.t 19)⟩] none [4]
def r_erasurelaw26CodecBags_3 : ACode := .reg [
    ⟨some 5, none, .mov (.k (.slice none 0 0))⟩] none [0, 1, 5]
def r_erasurelaw26CodecBags_4 : ACode := .reg [
    ⟨some 6, none, .mov (.k (.int .i64 (0)))⟩] none [0, 1, 5, 6]
def r_erasurelaw26CodecBags_5 : ACode := .reg [
    ⟨some 20, none, .mov (.t 6)⟩,
    ⟨some 21, none, .mov (.t 0)⟩,
    ⟨some 22, none, .len (.t 21)⟩,
    ⟨some 23, none, .bin .lss (.t 20) (.t 22)⟩] none [0, 1, 5, 6, 23]
def r_erasurelaw26CodecBags_6 : ACode := .reg [
    ⟨some 26, none, .mov (.t 0)⟩,
    ⟨some 27, none, .mov (.t 6)⟩,
    ⟨some 28, none, .idxa 2 (.t 26) (.t 27)⟩,
    ⟨some 29, none, .fld 0 (.t 28)⟩,
    ⟨some 30, none, .load none (.t 29)⟩,
    ⟨some 31, none, .call 37 [(.t 30)]⟩,
    ⟨some 32, none, .un .not (.t 31)⟩] none [0, 1, 5, 6, 32]
def r_erasurelaw26CodecBags_7 : ACode := .reg [
    ⟨some 33, none, .call 18 []⟩,
    ⟨some 4, none, .mov (.t 33)⟩] none [4]
def r_erasurelaw26CodecBags_8 : ACode := .reg [
    ⟨some 34, none, .mov (.t 5)⟩,
    ⟨some 35, none, .mov (.t 0)⟩,
    ⟨some 36, none, .mov (.t 6)⟩,
    ⟨some 37, none, .idxa 2 (.t 35) (.t 36)⟩,
    ⟨some 38, none, .fld 0 (.t 37)⟩,
    ⟨some 39, none, .load none (.t 38)⟩,
    ⟨some 40, none, .call 46 [(.t 39)]⟩,
    ⟨some 41, none, .mov (.t 0)⟩,
    ⟨some 42, none, .mov (.t 6)⟩,
    ⟨some 43, none, .idxa 2 (.t 41) (.t 42)⟩,
    ⟨some 44, none, .fld 1 (.t 43)⟩,
    ⟨some 45, none, .load none (.t 44)⟩,
    ⟨some 46, none, .build [.slice none 0 0, .int .i64 0] [(0, 1, (.t 40)), (1, 1, (.t 45))]⟩,
    ⟨some 47, none, .lit 78 2 1 [.slice none 0 0, .int .i64 0] [(0, (.t 46))] false⟩,
    ⟨some 48, none, .app 78 2 32 (.t 34) (.t 47)⟩,
    ⟨some 5, none, .mov (.t 48)⟩] (some [0, 0, 0, 6, 14, 30, 62, 0, 0, 384, 896, 1920, 4094, 8190, 16383, 32767]) [0, 1, 5, 6]
def r_erasurelaw26CodecBags_9 : ACode := .reg [
    ⟨some 24, none, .mov (.t 6)⟩,
    ⟨some 25, none, .bin .add (.t 24) (.k (.int .i64 (1)))⟩,
    ⟨some 6, none, .mov (.t 25)⟩] none [0, 1, 5, 6]
def r_erasurelaw26CodecBags_10 : ACode := .reg [
    ⟨some 49, none, .mov (.t 0)⟩,
    ⟨some 50, none, .call 47 [(.k (.slice none 0 0)), (.t 49)]⟩,
    ⟨some 7, none, .mov (.t 50)⟩] none [0, 1, 5, 7]
def r_erasurelaw26CodecBags_11 : ACode := .reg [
    ⟨some 52, none, .mov (.t 7)⟩,
    ⟨some 53, none, .mov (.t 1)⟩,
    ⟨some 54, none, .call 21 [(.t 52), (.t 53)]⟩,
    ⟨some 55, none, .call 48 [(.t 54)]⟩,
    ⟨some 51, none, .mov (.t 55)⟩,
    ⟨some 56, none, .ext 0 (.t 51)⟩,
    ⟨some 57, none, .ext 1 (.t 51)⟩,
    ⟨some 58, none, .ext 2 (.t 51)⟩,
    ⟨some 8, none, .mov (.t 56)⟩,
    ⟨some 9, none, .mov (.t 57)⟩,
    ⟨some 10, none, .mov (.t 58)⟩] none [0, 1, 5, 7, 8, 9, 10]
def r_erasurelaw26CodecBags_12 : ACode := .reg [
    ⟨some 59, none, .mov (.t 7)⟩,
    ⟨some 60, none, .tostr (.t 59)⟩,
    ⟨some 61, none, .mov (.t 0)⟩,
    ⟨some 62, none, .call 49 [(.t 61)]⟩,
    ⟨some 63, none, .tostr (.t 62)⟩,
    ⟨some 64, none, .bin .eql (.t 60) (.t 63)⟩,
    ⟨some 65, none, .mov (.t 64)⟩,
    ⟨some 66, (some (65, true)), .mov (.t 10)⟩,
    ⟨some 67, (some (65, true)), .bin .eql (.t 66) (.k (.int .i64 (0)))⟩,
    ⟨some 68, none, .pick (.t 65) (.t 67) (.k (.bool false))⟩,
    ⟨some 69, none, .mov (.t 68)⟩,
    ⟨some 70, (some (69, true)), .mov (.t 8)⟩,
    ⟨some 71, (some (69, true)), .mov (.t 5)⟩,
    ⟨some 72, (some (69, true)), .call 50 [(.t 70), (.t 71)]⟩,
    ⟨some 73, none, .pick (.t 69) (.t 72) (.k (.bool false))⟩,
    ⟨some 74, none, .mov (.t 73)⟩,
    ⟨some 75, (some (74, true)), .mov (.t 9)⟩,
    ⟨some 76, (some (74, true)), .tostr (.t 75)⟩,
    ⟨some 77, (some (74, true)), .mov (.t 1)⟩,
    ⟨some 78, (some (74, true)), .tostr (.t 77)⟩,
    ⟨some 79, (some (74, true)), .bin .eql (.t 76) (.t 78)⟩,
    ⟨some 80, none, .pick (.t 74) (.t 79) (.k (.bool false))⟩,
    ⟨some 81, none, .mov (.t 80)⟩,
    ⟨some 82, (some (81, true)), .call 18 []⟩,
    ⟨some 83, none, .pick (.t 81) (.t 82) (.k (.bool false))⟩,
    ⟨some 4, none, .mov (.t 83)⟩] (some [0, 1, 0, 4, 12, 31, 63, 127, 255, 511, 1023, 2047, 2047, 8191, 16383, 32767, 65535, 131071, 65535, 327679, 1048575, 2097151, 4194303, 8388607, 16777215, 33554431]) [4]
def c_erasurelaw26CodecBags : ACode :=
  (.seq r_erasurelaw26CodecBags_0
  (.seq (.seq r_erasurelaw26CodecBags_1
    (.cond (.t 18)
     (.seq r_erasurelaw26CodecBags_2
      .ret)
     .skip))
   (.seq r_erasurelaw26CodecBags_3
    (.seq (.seq r_erasurelaw26CodecBags_4
      (.block 0 (.loop (.seq (.seq r_erasurelaw26CodecBags_5
          (.cond (.t 23)
           .skip
           (.exit 0)))
         (.seq (.block 1 (.seq (.seq r_erasurelaw26CodecBags_6
             (.cond (.t 32)
              (.seq r_erasurelaw26CodecBags_7
               .ret)
              .skip))
            r_erasurelaw26CodecBags_8))
          r_erasurelaw26CodecBags_9)))))
     (.seq r_erasurelaw26CodecBags_10
      (.seq r_erasurelaw26CodecBags_11
       (.seq r_erasurelaw26CodecBags_12
        .ret)))))))
theorem fits_erasurelaw26CodecBags : Fits Try.prog 9 84 c_erasurelaw26CodecBags [.t 4] := ⟨⟨Try.f9, _, _, Try.func9, rfl, rfl, rfl, by decide, by kernel_rfl, by kernel_rfl⟩, Try.checked.mixed⟩
/- erasure/erasurelaw26.CodecChanges -/
def r_erasurelaw26CodecChanges_0 : ACode := .reg [
    ⟨some 2, none, .box 86 (.t 0)⟩,
    ⟨some 4, none, .mov (.k (.bool false))⟩] none [1, 2]
def r_erasurelaw26CodecChanges_1 : ACode := .reg [
    ⟨some 10, none, .fld 4 (.t 2)⟩,
    ⟨some 11, none, .load none (.t 10)⟩,
    ⟨some 12, none, .call 37 [(.t 11)]⟩,
    ⟨some 13, none, .un .not (.t 12)⟩,
    ⟨some 14, none, .mov (.t 13)⟩,
    ⟨some 15, (some (14, false)), .mov (.t 1)⟩,
    ⟨some 16, (some (14, false)), .len (.t 15)⟩,
    ⟨some 17, (some (14, false)), .bin .gtr (.t 16) (.k (.int .i64 (100)))⟩,
    ⟨some 18, none, .pick (.t 14) (.k (.bool true)) (.t 17)⟩] none [1, 2, 18]
def r_erasurelaw26CodecChanges_2 : ACode := .reg [
    ⟨some 19, none, .call 18 []⟩,
    ⟨some 4, none, .mov (.t 19)⟩] none [4]
def r_erasurelaw26CodecChanges_3 : ACode := .reg [
    ⟨some 20, none, .fld 0 (.t 2)⟩,
    ⟨some 21, none, .load none (.t 20)⟩,
    ⟨some 22, none, .fld 1 (.t 2)⟩,
    ⟨some 23, none, .load none (.t 22)⟩,
    ⟨some 24, none, .fld 2 (.t 2)⟩,
    ⟨some 25, none, .load none (.t 24)⟩,
    ⟨some 26, none, .fld 3 (.t 2)⟩,
    ⟨some 27, none, .load none (.t 26)⟩,
    ⟨some 28, none, .fld 4 (.t 2)⟩,
    ⟨some 29, none, .load none (.t 28)⟩,
    ⟨some 30, none, .call 46 [(.t 29)]⟩,
    ⟨some 31, none, .fld 5 (.t 2)⟩,
    ⟨some 32, none, .load (some 3) (.t 31)⟩,
    ⟨some 33, none, .call 43 [(.t 32)]⟩,
    ⟨some 34, none, .fld 8 (.t 2)⟩,
    ⟨some 35, none, .load none (.t 34)⟩,
    ⟨some 36, none, .fld 9 (.t 2)⟩,
    ⟨some 37, none, .load (some 3) (.t 36)⟩,
    ⟨some 38, none, .call 43 [(.t 37)]⟩,
    ⟨some 39, none, .build [.int .i64 0, .int .i64 0, .int .i64 0, .int .i64 0, .slice none 0 0, .int .i64 0, .int .i64 0, .string ⟨#[]⟩, .int .i64 0, .int .i64 0, .int .i64 0, .string ⟨#[]⟩] [(0, 1, (.t 21)), (1, 1, (.t 23)), (2, 1, (.t 25)), (3, 1, (.t 27)), (4, 1, (.t 30)), (5, 3, (.t 33)), (8, 1, (.t 35)), (9, 3, (.t 38))]⟩,
    ⟨some 5, none, .alloc 86 [.int .i64 0, .int .i64 0, .int .i64 0, .int .i64 0, .slice none 0 0, .int .i64 0, .int .i64 0, .string ⟨#[]⟩, .int .i64 0, .int .i64 0, .int .i64 0, .string ⟨#[]⟩]⟩,
    ⟨none, none, .store 12 (.t 5) (.t 39)⟩] (some [0, 1, 0, 4, 0, 16, 0, 64, 0, 256, 768, 0, 2048, 7936, 0, 16384, 0, 65536, 212736, 524287, 0, 2097151]) [1, 2, 5]
def r_erasurelaw26CodecChanges_4 : ACode := .reg [
    ⟨some 40, none, .load (some 12) (.t 2)⟩,
    ⟨some 41, none, .call 51 [(.k (.slice none 0 0)), (.t 40)]⟩,
    ⟨some 6, none, .mov (.t 41)⟩] none [1, 2, 5, 6]
def r_erasurelaw26CodecChanges_5 : ACode := .reg [
    ⟨some 43, none, .mov (.t 6)⟩,
    ⟨some 44, none, .mov (.t 1)⟩,
    ⟨some 45, none, .call 21 [(.t 43), (.t 44)]⟩,
    ⟨some 46, none, .call 52 [(.t 45)]⟩,
    ⟨some 42, none, .mov (.t 46)⟩,
    ⟨some 47, none, .ext 0 (.t 42)⟩,
    ⟨some 48, none, .ext 1 (.t 42)⟩,
    ⟨some 49, none, .ext 2 (.t 42)⟩,
    ⟨some 7, none, .alloc 86 [.int .i64 0, .int .i64 0, .int .i64 0, .int .i64 0, .slice none 0 0, .int .i64 0, .int .i64 0, .string ⟨#[]⟩, .int .i64 0, .int .i64 0, .int .i64 0, .string ⟨#[]⟩]⟩,
    ⟨none, none, .store 12 (.t 7) (.t 47)⟩,
    ⟨some 8, none, .mov (.t 48)⟩,
    ⟨some 9, none, .mov (.t 49)⟩] none [1, 2, 5, 6, 7, 8, 9]
def r_erasurelaw26CodecChanges_6 : ACode := .reg [
    ⟨some 50, none, .mov (.t 6)⟩,
    ⟨some 51, none, .tostr (.t 50)⟩,
    ⟨some 52, none, .load (some 12) (.t 2)⟩,
    ⟨some 53, none, .call 53 [(.t 52)]⟩,
    ⟨some 54, none, .tostr (.t 53)⟩,
    ⟨some 55, none, .bin .eql (.t 51) (.t 54)⟩,
    ⟨some 56, none, .mov (.t 55)⟩,
    ⟨some 57, (some (56, true)), .mov (.t 9)⟩,
    ⟨some 58, (some (56, true)), .bin .eql (.t 57) (.k (.int .i64 (0)))⟩,
    ⟨some 59, none, .pick (.t 56) (.t 58) (.k (.bool false))⟩,
    ⟨some 60, none, .mov (.t 59)⟩,
    ⟨some 61, (some (60, true)), .load (some 12) (.t 7)⟩,
    ⟨some 62, (some (60, true)), .load (some 12) (.t 5)⟩,
    ⟨some 63, (some (60, true)), .call 54 [(.t 61), (.t 62)]⟩,
    ⟨some 64, none, .pick (.t 60) (.t 63) (.k (.bool false))⟩,
    ⟨some 65, none, .mov (.t 64)⟩,
    ⟨some 66, (some (65, true)), .mov (.t 8)⟩,
    ⟨some 67, (some (65, true)), .tostr (.t 66)⟩,
    ⟨some 68, (some (65, true)), .mov (.t 1)⟩,
    ⟨some 69, (some (65, true)), .tostr (.t 68)⟩,
    ⟨some 70, (some (65, true)), .bin .eql (.t 67) (.t 69)⟩,
    ⟨some 71, none, .pick (.t 65) (.t 70) (.k (.bool false))⟩,
    ⟨some 72, none, .mov (.t 71)⟩,
    ⟨some 73, (some (72, true)), .call 18 []⟩,
    ⟨some 74, none, .pick (.t 72) (.t 73) (.k (.bool false))⟩,
    ⟨some 4, none, .mov (.t 74)⟩] (some [0, 1, 0, 4, 12, 31, 63, 127, 255, 511, 1023, 2047, 2047, 8191, 16383, 32767, 65535, 131071, 65535, 327679, 1048575, 2097151, 4194303, 8388607, 16777215, 33554431]) [4]
def c_erasurelaw26CodecChanges : ACode :=
  (.seq r_erasurelaw26CodecChanges_0
  (.seq (.seq r_erasurelaw26CodecChanges_1
    (.cond (.t 18)
     (.seq r_erasurelaw26CodecChanges_2
      .ret)
     .skip))
   (.seq r_erasurelaw26CodecChanges_3
    (.seq r_erasurelaw26CodecChanges_4
     (.seq r_erasurelaw26CodecChanges_5
      (.seq r_erasurelaw26CodecChanges_6
       .ret))))))
theorem fits_erasurelaw26CodecChanges : Fits Try.prog 10 75 c_erasurelaw26CodecChanges [.t 4] := ⟨⟨Try.f10, _, _, Try.func10, rfl, rfl, rfl, by decide, by kernel_rfl, by kernel_rfl⟩, Try.checked.mixed⟩
/- erasure/erasurelaw26.CodecApart -/
def r_erasurelaw26CodecApart_0 : ACode := .reg [
    ⟨some 2, none, .box 86 (.t 0)⟩,
    ⟨some 3, none, .box 86 (.t 1)⟩,
    ⟨some 4, none, .mov (.k (.bool false))⟩] none [2, 3]
def r_erasurelaw26CodecApart_1 : ACode := .reg [
    ⟨some 11, none, .fld 4 (.t 2)⟩,
    ⟨some 12, none, .load none (.t 11)⟩,
    ⟨some 13, none, .call 37 [(.t 12)]⟩,
    ⟨some 14, none, .un .not (.t 13)⟩,
    ⟨some 15, none, .mov (.t 14)⟩,
    ⟨some 16, (some (15, false)), .fld 4 (.t 3)⟩,
    ⟨some 17, (some (15, false)), .load none (.t 16)⟩,
    ⟨some 18, (some (15, false)), .call 37 [(.t 17)]⟩,
    ⟨some 19, (some (15, false)), .un .not (.t 18)⟩,
    ⟨some 20, none, .pick (.t 15) (.k (.bool true)) (.t 19)⟩] none [2, 3, 20]
def r_erasurelaw26CodecApart_2 : ACode := .reg [
    ⟨some 21, none, .call 18 []⟩,
    ⟨some 4, none, .mov (.t 21)⟩] none [4]
def r_erasurelaw26CodecApart_3 : ACode := .reg [
    ⟨some 23, none, .load (some 12) (.t 2)⟩,
    ⟨some 24, none, .call 51 [(.k (.slice none 0 0)), (.t 23)]⟩,
    ⟨some 25, none, .call 52 [(.t 24)]⟩,
    ⟨some 22, none, .mov (.t 25)⟩,
    ⟨some 26, none, .ext 0 (.t 22)⟩,
    ⟨some 27, none, .ext 1 (.t 22)⟩,
    ⟨some 28, none, .ext 2 (.t 22)⟩,
    ⟨some 5, none, .alloc 86 [.int .i64 0, .int .i64 0, .int .i64 0, .int .i64 0, .slice none 0 0, .int .i64 0, .int .i64 0, .string ⟨#[]⟩, .int .i64 0, .int .i64 0, .int .i64 0, .string ⟨#[]⟩]⟩,
    ⟨none, none, .store 12 (.t 5) (.t 26)⟩,
    ⟨some 6, none, .mov (.t 27)⟩,
    ⟨some 7, none, .mov (.t 28)⟩] none [2, 3, 5, 7]
def r_erasurelaw26CodecApart_4 : ACode := .reg [
    ⟨some 30, none, .load (some 12) (.t 3)⟩,
    ⟨some 31, none, .call 51 [(.k (.slice none 0 0)), (.t 30)]⟩,
    ⟨some 32, none, .call 52 [(.t 31)]⟩,
    ⟨some 29, none, .mov (.t 32)⟩,
    ⟨some 33, none, .ext 0 (.t 29)⟩,
    ⟨some 34, none, .ext 1 (.t 29)⟩,
    ⟨some 35, none, .ext 2 (.t 29)⟩,
    ⟨some 8, none, .alloc 86 [.int .i64 0, .int .i64 0, .int .i64 0, .int .i64 0, .slice none 0 0, .int .i64 0, .int .i64 0, .string ⟨#[]⟩, .int .i64 0, .int .i64 0, .int .i64 0, .string ⟨#[]⟩]⟩,
    ⟨none, none, .store 12 (.t 8) (.t 33)⟩,
    ⟨some 9, none, .mov (.t 34)⟩,
    ⟨some 10, none, .mov (.t 35)⟩] none [2, 3, 5, 7, 8, 10]
def r_erasurelaw26CodecApart_5 : ACode := .reg [
    ⟨some 36, none, .mov (.t 7)⟩,
    ⟨some 37, none, .bin .eql (.t 36) (.k (.int .i64 (0)))⟩,
    ⟨some 38, none, .mov (.t 37)⟩,
    ⟨some 39, (some (38, true)), .mov (.t 10)⟩,
    ⟨some 40, (some (38, true)), .bin .eql (.t 39) (.k (.int .i64 (0)))⟩,
    ⟨some 41, none, .pick (.t 38) (.t 40) (.k (.bool false))⟩,
    ⟨some 42, none, .mov (.t 41)⟩,
    ⟨some 43, (some (42, true)), .load (some 12) (.t 2)⟩,
    ⟨some 44, (some (42, true)), .call 51 [(.k (.slice none 0 0)), (.t 43)]⟩,
    ⟨some 45, (some (42, true)), .tostr (.t 44)⟩,
    ⟨some 46, (some (42, true)), .load (some 12) (.t 3)⟩,
    ⟨some 47, (some (42, true)), .call 51 [(.k (.slice none 0 0)), (.t 46)]⟩,
    ⟨some 48, (some (42, true)), .tostr (.t 47)⟩,
    ⟨some 49, (some (42, true)), .bin .eql (.t 45) (.t 48)⟩,
    ⟨some 50, (some (42, true)), .load (some 12) (.t 5)⟩,
    ⟨some 51, (some (42, true)), .load (some 12) (.t 8)⟩,
    ⟨some 52, (some (42, true)), .call 54 [(.t 50), (.t 51)]⟩,
    ⟨some 53, (some (42, true)), .eqb false (.t 49) (.t 52)⟩,
    ⟨some 54, none, .pick (.t 42) (.t 53) (.k (.bool false))⟩,
    ⟨some 55, none, .mov (.t 54)⟩,
    ⟨some 56, (some (55, true)), .call 18 []⟩,
    ⟨some 57, none, .pick (.t 55) (.t 56) (.k (.bool false))⟩,
    ⟨some 4, none, .mov (.t 57)⟩] (some [0, 1, 3, 7, 15, 31, 63, 127, 255, 511, 127, 1535, 3583, 8191, 127, 127, 52735, 131071, 262143, 524287, 1048575, 2097151, 4194303]) [4]
def c_erasurelaw26CodecApart : ACode :=
  (.seq r_erasurelaw26CodecApart_0
  (.seq (.seq r_erasurelaw26CodecApart_1
    (.cond (.t 20)
     (.seq r_erasurelaw26CodecApart_2
      .ret)
     .skip))
   (.seq r_erasurelaw26CodecApart_3
    (.seq r_erasurelaw26CodecApart_4
     (.seq r_erasurelaw26CodecApart_5
      .ret)))))
theorem fits_erasurelaw26CodecApart : Fits Try.prog 11 58 c_erasurelaw26CodecApart [.t 4] := ⟨⟨Try.f11, _, _, Try.func11, rfl, rfl, rfl, by decide, by kernel_rfl, by kernel_rfl⟩, Try.checked.mixed⟩
/- erasure/erasurelaw26.CodecRecords -/
def r_erasurelaw26CodecRecords_0 : ACode := .reg [
    ⟨some 2, none, .box 95 (.t 0)⟩,
    ⟨some 4, none, .mov (.k (.bool false))⟩] none [1, 2]
def r_erasurelaw26CodecRecords_1 : ACode := .reg [
    ⟨some 12, none, .fld 0 (.t 2)⟩,
    ⟨some 13, none, .load none (.t 12)⟩,
    ⟨some 14, none, .call 37 [(.t 13)]⟩,
    ⟨some 15, none, .un .not (.t 14)⟩,
    ⟨some 16, none, .mov (.t 15)⟩,
    ⟨some 17, (some (16, false)), .fld 1 (.t 2)⟩,
    ⟨some 18, (some (16, false)), .load none (.t 17)⟩,
    ⟨some 19, (some (16, false)), .len (.t 18)⟩,
    ⟨some 20, (some (16, false)), .bin .gtr (.t 19) (.k (.int .i64 (40)))⟩,
    ⟨some 21, none, .pick (.t 16) (.k (.bool true)) (.t 20)⟩,
    ⟨some 22, none, .mov (.t 21)⟩,
    ⟨some 23, (some (22, false)), .mov (.t 1)⟩,
    ⟨some 24, (some (22, false)), .len (.t 23)⟩,
    ⟨some 25, (some (22, false)), .bin .gtr (.t 24) (.k (.int .i64 (100)))⟩,
    ⟨some 26, none, .pick (.t 22) (.k (.bool true)) (.t 25)⟩] none [1, 2, 26]
def r_erasurelaw26CodecRecords_2 : ACode := .reg [
    ⟨some 27, none, .call 18 []⟩,
    ⟨some 4, none, .mov (.t 27)⟩] none [4]
def r_erasurelaw26CodecRecords_3 : ACode := .reg [
    ⟨some 28, none, .fld 0 (.t 2)⟩,
    ⟨some 29, none, .load none (.t 28)⟩,
    ⟨some 30, none, .call 46 [(.t 29)]⟩,
    ⟨some 31, none, .fld 2 (.t 2)⟩,
    ⟨some 32, none, .load none (.t 31)⟩,
    ⟨some 33, none, .build [.slice none 0 0, .slice none 0 0, .int .i64 0] [(0, 1, (.t 30)), (2, 1, (.t 32))]⟩,
    ⟨some 5, none, .alloc 95 [.slice none 0 0, .slice none 0 0, .int .i64 0]⟩,
    ⟨none, none, .store 3 (.t 5) (.t 33)⟩] (some [0, 1, 3, 0, 8, 31, 0, 127]) [1, 2, 5]
def r_erasurelaw26CodecRecords_4 : ACode := .reg [
    ⟨some 6, none, .mov (.k (.int .i64 (0)))⟩] none [1, 2, 5, 6]
def r_erasurelaw26CodecRecords_5 : ACode := .reg [
    ⟨some 34, none, .mov (.t 6)⟩,
    ⟨some 35, none, .fld 0 (.t 2)⟩,
    ⟨some 36, none, .load none (.t 35)⟩,
    ⟨some 37, none, .len (.t 36)⟩,
    ⟨some 38, none, .bin .lss (.t 34) (.t 37)⟩] none [1, 2, 5, 6, 38]
def r_erasurelaw26CodecRecords_6 : ACode := .reg [
    ⟨some 7, none, .mov (.k (.int .i64 (0)))⟩] none [1, 2, 5, 6, 7]
def r_erasurelaw26CodecRecords_7 : ACode := .reg [
    ⟨some 41, none, .mov (.t 6)⟩,
    ⟨some 42, none, .fld 1 (.t 2)⟩,
    ⟨some 43, none, .load none (.t 42)⟩,
    ⟨some 44, none, .len (.t 43)⟩,
    ⟨some 45, none, .bin .lss (.t 41) (.t 44)⟩] none [1, 2, 5, 6, 7, 45]
def r_erasurelaw26CodecRecords_8 : ACode := .reg [
    ⟨some 46, none, .fld 1 (.t 2)⟩,
    ⟨some 47, none, .load none (.t 46)⟩,
    ⟨some 48, none, .mov (.t 6)⟩,
    ⟨some 49, none, .idxa 1 (.t 47) (.t 48)⟩,
    ⟨some 50, none, .load none (.t 49)⟩,
    ⟨some 7, none, .mov (.t 50)⟩] none [1, 2, 5, 6, 7]
def r_erasurelaw26CodecRecords_9 : ACode := .reg [
    ⟨some 51, none, .fld 1 (.t 5)⟩,
    ⟨some 52, none, .load none (.t 51)⟩,
    ⟨some 53, none, .mov (.t 7)⟩,
    ⟨some 54, none, .lit 3 1 1 [.int .i64 0] [(0, (.t 53))] false⟩,
    ⟨some 55, none, .app 3 1 8 (.t 52) (.t 54)⟩,
    ⟨some 56, none, .fld 1 (.t 5)⟩,
    ⟨none, none, .store 1 (.t 56) (.t 55)⟩] none [1, 2, 5, 6]
def r_erasurelaw26CodecRecords_10 : ACode := .reg [
    ⟨some 39, none, .mov (.t 6)⟩,
    ⟨some 40, none, .bin .add (.t 39) (.k (.int .i64 (1)))⟩,
    ⟨some 6, none, .mov (.t 40)⟩] none [1, 2, 5, 6]
def r_erasurelaw26CodecRecords_11 : ACode := .reg [
    ⟨some 57, none, .load (some 3) (.t 2)⟩,
    ⟨some 58, none, .call 55 [(.k (.slice none 0 0)), (.t 57)]⟩,
    ⟨some 8, none, .mov (.t 58)⟩] none [1, 2, 5, 8]
def r_erasurelaw26CodecRecords_12 : ACode := .reg [
    ⟨some 60, none, .mov (.t 8)⟩,
    ⟨some 61, none, .mov (.t 1)⟩,
    ⟨some 62, none, .call 21 [(.t 60), (.t 61)]⟩,
    ⟨some 63, none, .call 56 [(.t 62)]⟩,
    ⟨some 59, none, .mov (.t 63)⟩,
    ⟨some 64, none, .ext 0 (.t 59)⟩,
    ⟨some 65, none, .ext 1 (.t 59)⟩,
    ⟨some 66, none, .ext 2 (.t 59)⟩,
    ⟨some 9, none, .alloc 95 [.slice none 0 0, .slice none 0 0, .int .i64 0]⟩,
    ⟨none, none, .store 3 (.t 9) (.t 64)⟩,
    ⟨some 10, none, .mov (.t 65)⟩,
    ⟨some 11, none, .mov (.t 66)⟩] none [1, 2, 5, 8, 9, 10, 11]
def r_erasurelaw26CodecRecords_13 : ACode := .reg [
    ⟨some 67, none, .mov (.t 8)⟩,
    ⟨some 68, none, .tostr (.t 67)⟩,
    ⟨some 69, none, .load (some 3) (.t 2)⟩,
    ⟨some 70, none, .call 57 [(.t 69)]⟩,
    ⟨some 71, none, .tostr (.t 70)⟩,
    ⟨some 72, none, .bin .eql (.t 68) (.t 71)⟩,
    ⟨some 73, none, .mov (.t 72)⟩,
    ⟨some 74, (some (73, true)), .mov (.t 11)⟩,
    ⟨some 75, (some (73, true)), .bin .eql (.t 74) (.k (.int .i64 (0)))⟩,
    ⟨some 76, none, .pick (.t 73) (.t 75) (.k (.bool false))⟩,
    ⟨some 77, none, .mov (.t 76)⟩,
    ⟨some 78, (some (77, true)), .load (some 3) (.t 9)⟩,
    ⟨some 79, (some (77, true)), .load (some 3) (.t 5)⟩,
    ⟨some 80, (some (77, true)), .call 58 [(.t 78), (.t 79)]⟩,
    ⟨some 81, none, .pick (.t 77) (.t 80) (.k (.bool false))⟩,
    ⟨some 82, none, .mov (.t 81)⟩,
    ⟨some 83, (some (82, true)), .mov (.t 10)⟩,
    ⟨some 84, (some (82, true)), .tostr (.t 83)⟩,
    ⟨some 85, (some (82, true)), .mov (.t 1)⟩,
    ⟨some 86, (some (82, true)), .tostr (.t 85)⟩,
    ⟨some 87, (some (82, true)), .bin .eql (.t 84) (.t 86)⟩,
    ⟨some 88, none, .pick (.t 82) (.t 87) (.k (.bool false))⟩,
    ⟨some 89, none, .mov (.t 88)⟩,
    ⟨some 90, (some (89, true)), .call 18 []⟩,
    ⟨some 91, none, .pick (.t 89) (.t 90) (.k (.bool false))⟩,
    ⟨some 4, none, .mov (.t 91)⟩] (some [0, 1, 0, 4, 12, 31, 63, 127, 255, 511, 1023, 2047, 2047, 8191, 16383, 32767, 65535, 131071, 65535, 327679, 1048575, 2097151, 4194303, 8388607, 16777215, 33554431]) [4]
def c_erasurelaw26CodecRecords : ACode :=
  (.seq r_erasurelaw26CodecRecords_0
  (.seq (.seq r_erasurelaw26CodecRecords_1
    (.cond (.t 26)
     (.seq r_erasurelaw26CodecRecords_2
      .ret)
     .skip))
   (.seq r_erasurelaw26CodecRecords_3
    (.seq (.seq r_erasurelaw26CodecRecords_4
      (.block 0 (.loop (.seq (.seq r_erasurelaw26CodecRecords_5
          (.cond (.t 38)
           .skip
           (.exit 0)))
         (.seq (.block 1 (.seq r_erasurelaw26CodecRecords_6
            (.seq (.seq r_erasurelaw26CodecRecords_7
              (.cond (.t 45)
               r_erasurelaw26CodecRecords_8
               .skip))
             r_erasurelaw26CodecRecords_9)))
          r_erasurelaw26CodecRecords_10)))))
     (.seq r_erasurelaw26CodecRecords_11
      (.seq r_erasurelaw26CodecRecords_12
       (.seq r_erasurelaw26CodecRecords_13
        .ret)))))))
theorem fits_erasurelaw26CodecRecords : Fits Try.prog 12 92 c_erasurelaw26CodecRecords [.t 4] := ⟨⟨Try.f12, _, _, Try.func12, rfl, rfl, rfl, by decide, by kernel_rfl, by kernel_rfl⟩, Try.checked.mixed⟩
/- erasure/erasurelaw26.CodecCuts -/
def r_erasurelaw26CodecCuts_0 : ACode := .reg [
    ⟨some 2, none, .box 111 (.t 0)⟩,
    ⟨some 4, none, .mov (.k (.bool false))⟩] none [1, 2]
def r_erasurelaw26CodecCuts_1 : ACode := .reg [
    ⟨some 9, none, .load (some 65) (.t 2)⟩,
    ⟨some 10, none, .call 59 [(.t 9)]⟩,
    ⟨some 11, none, .un .not (.t 10)⟩,
    ⟨some 12, none, .mov (.t 11)⟩,
    ⟨some 13, (some (12, false)), .fld 0 (.t 2)⟩,
    ⟨some 14, (some (12, false)), .load none (.t 13)⟩,
    ⟨some 15, (some (12, false)), .bin .lss (.t 14) (.k (.int .i64 (1)))⟩,
    ⟨some 16, none, .pick (.t 12) (.k (.bool true)) (.t 15)⟩,
    ⟨some 17, none, .mov (.t 16)⟩,
    ⟨some 18, (some (17, false)), .fld 0 (.t 2)⟩,
    ⟨some 19, (some (17, false)), .load none (.t 18)⟩,
    ⟨some 20, (some (17, false)), .bin .gtr (.t 19) (.k (.int .i64 (7)))⟩,
    ⟨some 21, none, .pick (.t 17) (.k (.bool true)) (.t 20)⟩,
    ⟨some 22, none, .mov (.t 21)⟩,
    ⟨some 23, (some (22, false)), .mov (.t 1)⟩,
    ⟨some 24, (some (22, false)), .bin .lss (.t 23) (.k (.int .i64 (0)))⟩,
    ⟨some 25, none, .pick (.t 22) (.k (.bool true)) (.t 24)⟩] none [1, 2, 25]
def r_erasurelaw26CodecCuts_2 : ACode := .reg [
    ⟨some 26, none, .call 18 []⟩,
    ⟨some 4, none, .mov (.t 26)⟩] none [4]
def r_erasurelaw26CodecCuts_3 : ACode := .reg [
    ⟨some 27, none, .load (some 65) (.t 2)⟩,
    ⟨some 28, none, .call 60 [(.t 27)]⟩,
    ⟨some 5, none, .mov (.t 28)⟩] none [1, 5]
def r_erasurelaw26CodecCuts_4 : ACode := .reg [
    ⟨some 30, none, .mov (.t 5)⟩,
    ⟨some 31, none, .mov (.t 1)⟩,
    ⟨some 32, none, .mov (.t 5)⟩,
    ⟨some 33, none, .len (.t 32)⟩,
    ⟨some 34, none, .bin .rem (.t 31) (.t 33)⟩,
    ⟨some 35, none, .sl 1 (.t 30) none (some (.t 34)) none⟩,
    ⟨some 36, none, .call 61 [(.t 35)]⟩,
    ⟨some 29, none, .mov (.t 36)⟩,
    ⟨some 37, none, .ext 0 (.t 29)⟩,
    ⟨some 38, none, .ext 1 (.t 29)⟩,
    ⟨some 39, none, .ext 2 (.t 29)⟩,
    ⟨some 6, none, .alloc 111 [.int .i64 0, .int .i64 0, .int .i64 0, .int .i64 0, .int .i64 0, .string ⟨#[]⟩, .int .i64 0, .int .i64 0, .string ⟨#[]⟩, .int .i64 0, .int .i64 0, .int .i64 0, .string ⟨#[]⟩, .int .i64 0, .int .i64 0, .string ⟨#[]⟩, .string ⟨#[]⟩, .int .i64 0, .int .i64 0, .string ⟨#[]⟩, .int .i64 0, .bool false, .int .i64 0, .int .i64 0, .string ⟨#[]⟩, .int .i64 0, .int .i64 0, .string ⟨#[]⟩, .int .i64 0, .int .i64 0, .int .i64 0, .slice none 0 0, .slice none 0 0, .int .u8 0, .int .u8 0, .int .u8 0, .int .u8 0, .int .u8 0, .int .u8 0, .int .u8 0, .int .u8 0, .int .u8 0, .int .u8 0, .int .u8 0, .int .u8 0, .int .u8 0, .int .u8 0, .int .u8 0, .int .u8 0, .int .u8 0, .int .u8 0, .int .u8 0, .int .u8 0, .int .u8 0, .int .u8 0, .int .u8 0, .int .u8 0, .int .u8 0, .int .u8 0, .int .u8 0, .int .u8 0, .int .u8 0, .int .u8 0, .int .u8 0, .int .u8 0]⟩,
    ⟨none, none, .store 65 (.t 6) (.t 37)⟩,
    ⟨some 7, none, .mov (.t 38)⟩,
    ⟨some 8, none, .mov (.t 39)⟩] none [6, 7, 8]
def r_erasurelaw26CodecCuts_5 : ACode := .reg [
    ⟨some 40, none, .mov (.t 8)⟩,
    ⟨some 41, none, .bin .eql (.t 40) (.k (.int .i64 (100)))⟩,
    ⟨some 42, none, .mov (.t 41)⟩,
    ⟨some 43, (some (42, true)), .load (some 65) (.t 6)⟩,
    ⟨some 44, (some (42, true)), .build [.int .i64 0, .int .i64 0, .int .i64 0, .int .i64 0, .int .i64 0, .string ⟨#[]⟩, .int .i64 0, .int .i64 0, .string ⟨#[]⟩, .int .i64 0, .int .i64 0, .int .i64 0, .string ⟨#[]⟩, .int .i64 0, .int .i64 0, .string ⟨#[]⟩, .string ⟨#[]⟩, .int .i64 0, .int .i64 0, .string ⟨#[]⟩, .int .i64 0, .bool false, .int .i64 0, .int .i64 0, .string ⟨#[]⟩, .int .i64 0, .int .i64 0, .string ⟨#[]⟩, .int .i64 0, .int .i64 0, .int .i64 0, .slice none 0 0, .slice none 0 0, .int .u8 0, .int .u8 0, .int .u8 0, .int .u8 0, .int .u8 0, .int .u8 0, .int .u8 0, .int .u8 0, .int .u8 0, .int .u8 0, .int .u8 0, .int .u8 0, .int .u8 0, .int .u8 0, .int .u8 0, .int .u8 0, .int .u8 0, .int .u8 0, .int .u8 0, .int .u8 0, .int .u8 0, .int .u8 0, .int .u8 0, .int .u8 0, .int .u8 0, .int .u8 0, .int .u8 0, .int .u8 0, .int .u8 0, .int .u8 0, .int .u8 0, .int .u8 0] []⟩,
    ⟨some 45, (some (42, true)), .call 62 [(.t 43), (.t 44)]⟩,
    ⟨some 46, none, .pick (.t 42) (.t 45) (.k (.bool false))⟩,
    ⟨some 47, none, .mov (.t 46)⟩,
    ⟨some 48, (some (47, true)), .mov (.t 7)⟩,
    ⟨some 49, (some (47, true)), .len (.t 48)⟩,
    ⟨some 50, (some (47, true)), .bin .eql (.t 49) (.k (.int .i64 (0)))⟩,
    ⟨some 51, none, .pick (.t 47) (.t 50) (.k (.bool false))⟩,
    ⟨some 52, none, .mov (.t 51)⟩,
    ⟨some 53, (some (52, true)), .call 18 []⟩,
    ⟨some 54, none, .pick (.t 52) (.t 53) (.k (.bool false))⟩,
    ⟨some 4, none, .mov (.t 54)⟩] none [4]
def c_erasurelaw26CodecCuts : ACode :=
  (.seq r_erasurelaw26CodecCuts_0
  (.seq (.seq r_erasurelaw26CodecCuts_1
    (.cond (.t 25)
     (.seq r_erasurelaw26CodecCuts_2
      .ret)
     .skip))
   (.seq r_erasurelaw26CodecCuts_3
    (.seq r_erasurelaw26CodecCuts_4
     (.seq r_erasurelaw26CodecCuts_5
      .ret)))))
theorem fits_erasurelaw26CodecCuts : Fits Try.prog 13 55 c_erasurelaw26CodecCuts [.t 4] := ⟨⟨Try.f13, _, _, Try.func13, rfl, rfl, rfl, by decide, by kernel_rfl, by kernel_rfl⟩, Try.checked.mixed⟩
/- erasure/erasurelaw26.CodecRequests -/
def r_erasurelaw26CodecRequests_0 : ACode := .reg [
    ⟨some 3, none, .box 105 (.t 0)⟩,
    ⟨some 4, none, .box 107 (.t 1)⟩,
    ⟨some 5, none, .box 109 (.t 2)⟩,
    ⟨some 6, none, .mov (.k (.bool false))⟩] none [3, 4, 5]
def r_erasurelaw26CodecRequests_1 : ACode := .reg [
    ⟨some 22, none, .fld 1 (.t 3)⟩,
    ⟨some 23, none, .load (some 4) (.t 22)⟩,
    ⟨some 24, none, .call 63 [(.t 23)]⟩,
    ⟨some 25, none, .un .not (.t 24)⟩,
    ⟨some 26, none, .mov (.t 25)⟩,
    ⟨some 27, (some (26, false)), .fld 0 (.t 4)⟩,
    ⟨some 28, (some (26, false)), .load (some 4) (.t 27)⟩,
    ⟨some 29, (some (26, false)), .call 63 [(.t 28)]⟩,
    ⟨some 30, (some (26, false)), .un .not (.t 29)⟩,
    ⟨some 31, none, .pick (.t 26) (.k (.bool true)) (.t 30)⟩,
    ⟨some 32, none, .mov (.t 31)⟩,
    ⟨some 33, (some (32, false)), .fld 4 (.t 4)⟩,
    ⟨some 34, (some (32, false)), .load (some 4) (.t 33)⟩,
    ⟨some 35, (some (32, false)), .call 63 [(.t 34)]⟩,
    ⟨some 36, (some (32, false)), .un .not (.t 35)⟩,
    ⟨some 37, none, .pick (.t 32) (.k (.bool true)) (.t 36)⟩,
    ⟨some 38, none, .mov (.t 37)⟩,
    ⟨some 39, (some (38, false)), .fld 2 (.t 5)⟩,
    ⟨some 40, (some (38, false)), .load (some 4) (.t 39)⟩,
    ⟨some 41, (some (38, false)), .call 63 [(.t 40)]⟩,
    ⟨some 42, (some (38, false)), .un .not (.t 41)⟩,
    ⟨some 43, none, .pick (.t 38) (.k (.bool true)) (.t 42)⟩] none [3, 4, 5, 43]
def r_erasurelaw26CodecRequests_2 : ACode := .reg [
    ⟨some 44, none, .call 18 []⟩,
    ⟨some 6, none, .mov (.t 44)⟩] none [6]
def r_erasurelaw26CodecRequests_3 : ACode := .reg [
    ⟨some 45, none, .load (some 8) (.t 3)⟩,
    ⟨some 46, none, .call 64 [(.k (.slice none 0 0)), (.t 45)]⟩,
    ⟨some 7, none, .mov (.t 46)⟩] none [3, 4, 5, 7]
def r_erasurelaw26CodecRequests_4 : ACode := .reg [
    ⟨some 47, none, .mov (.t 7)⟩,
    ⟨some 48, none, .load (some 10) (.t 4)⟩,
    ⟨some 49, none, .call 65 [(.t 47), (.t 48)]⟩,
    ⟨some 8, none, .mov (.t 49)⟩] none [3, 4, 5, 8]
def r_erasurelaw26CodecRequests_5 : ACode := .reg [
    ⟨some 50, none, .mov (.t 8)⟩,
    ⟨some 51, none, .load (some 9) (.t 5)⟩,
    ⟨some 52, none, .call 66 [(.t 50), (.t 51)]⟩,
    ⟨some 9, none, .mov (.t 52)⟩] none [3, 4, 5, 9]
def r_erasurelaw26CodecRequests_6 : ACode := .reg [
    ⟨some 53, none, .mov (.t 9)⟩,
    ⟨some 54, none, .tostr (.t 53)⟩,
    ⟨some 55, none, .load (some 8) (.t 3)⟩,
    ⟨some 56, none, .call 67 [(.t 55)]⟩,
    ⟨some 57, none, .tostr (.t 56)⟩,
    ⟨some 58, none, .load (some 10) (.t 4)⟩,
    ⟨some 59, none, .call 68 [(.t 58)]⟩,
    ⟨some 60, none, .tostr (.t 59)⟩,
    ⟨some 61, none, .bin .add (.t 57) (.t 60)⟩,
    ⟨some 62, none, .load (some 9) (.t 5)⟩,
    ⟨some 63, none, .call 69 [(.t 62)]⟩,
    ⟨some 64, none, .tostr (.t 63)⟩,
    ⟨some 65, none, .bin .add (.t 61) (.t 64)⟩,
    ⟨some 66, none, .bin .neq (.t 54) (.t 65)⟩] (some [0, 1, 0, 4, 12, 0, 44, 108, 252, 0, 620, 1644, 4092, 8191]) [3, 4, 5, 9, 66]
def r_erasurelaw26CodecRequests_7 : ACode := .reg [
    ⟨some 6, none, .mov (.k (.bool false))⟩] none [6]
def r_erasurelaw26CodecRequests_8 : ACode := .reg [
    ⟨some 68, none, .mov (.t 9)⟩,
    ⟨some 69, none, .call 70 [(.t 68)]⟩,
    ⟨some 67, none, .mov (.t 69)⟩,
    ⟨some 70, none, .ext 0 (.t 67)⟩,
    ⟨some 71, none, .ext 1 (.t 67)⟩,
    ⟨some 72, none, .ext 2 (.t 67)⟩,
    ⟨some 10, none, .alloc 105 [.int .i64 0, .string ⟨#[]⟩, .int .i64 0, .int .i64 0, .string ⟨#[]⟩, .int .i64 0, .int .i64 0, .int .i64 0]⟩,
    ⟨none, none, .store 8 (.t 10) (.t 70)⟩,
    ⟨some 11, none, .mov (.t 71)⟩,
    ⟨some 12, none, .mov (.t 72)⟩] none [3, 4, 5, 10, 11, 12]
def r_erasurelaw26CodecRequests_9 : ACode := .reg [
    ⟨some 74, none, .mov (.t 11)⟩,
    ⟨some 75, none, .call 71 [(.t 74)]⟩,
    ⟨some 73, none, .mov (.t 75)⟩,
    ⟨some 76, none, .ext 0 (.t 73)⟩,
    ⟨some 77, none, .ext 1 (.t 73)⟩,
    ⟨some 78, none, .ext 2 (.t 73)⟩,
    ⟨some 13, none, .alloc 107 [.string ⟨#[]⟩, .int .i64 0, .int .i64 0, .string ⟨#[]⟩, .string ⟨#[]⟩, .int .i64 0, .int .i64 0, .string ⟨#[]⟩, .int .i64 0, .bool false]⟩,
    ⟨none, none, .store 10 (.t 13) (.t 76)⟩,
    ⟨some 14, none, .mov (.t 77)⟩,
    ⟨some 15, none, .mov (.t 78)⟩] none [3, 4, 5, 10, 12, 13, 14, 15]
def r_erasurelaw26CodecRequests_10 : ACode := .reg [
    ⟨some 80, none, .mov (.t 14)⟩,
    ⟨some 81, none, .call 72 [(.t 80)]⟩,
    ⟨some 79, none, .mov (.t 81)⟩,
    ⟨some 82, none, .ext 0 (.t 79)⟩,
    ⟨some 83, none, .ext 1 (.t 79)⟩,
    ⟨some 84, none, .ext 2 (.t 79)⟩,
    ⟨some 16, none, .alloc 109 [.int .i64 0, .int .i64 0, .string ⟨#[]⟩, .int .i64 0, .int .i64 0, .string ⟨#[]⟩, .int .i64 0, .int .i64 0, .int .i64 0]⟩,
    ⟨none, none, .store 9 (.t 16) (.t 82)⟩,
    ⟨some 17, none, .mov (.t 83)⟩,
    ⟨some 18, none, .mov (.t 84)⟩] none [3, 4, 5, 10, 12, 13, 15, 16, 17, 18]
def r_erasurelaw26CodecRequests_11 : ACode := .reg [
    ⟨some 86, none, .fld 1 (.t 3)⟩,
    ⟨some 87, none, .load (some 4) (.t 86)⟩,
    ⟨some 88, none, .call 74 [(.k (.slice none 0 0)), (.t 87)]⟩,
    ⟨some 89, none, .lit 5 1 1 [.int .u8 0] [(0, (.k (.int .u8 (9))))] false⟩,
    ⟨some 90, none, .call 21 [(.t 88), (.t 89)]⟩,
    ⟨some 91, none, .call 73 [(.t 90)]⟩,
    ⟨some 85, none, .mov (.t 91)⟩,
    ⟨some 92, none, .ext 0 (.t 85)⟩,
    ⟨some 93, none, .ext 1 (.t 85)⟩,
    ⟨some 94, none, .ext 2 (.t 85)⟩,
    ⟨some 19, none, .alloc 103 [.string ⟨#[]⟩, .int .i64 0, .int .i64 0, .string ⟨#[]⟩]⟩,
    ⟨none, none, .store 4 (.t 19) (.t 92)⟩,
    ⟨some 20, none, .mov (.t 93)⟩,
    ⟨some 21, none, .mov (.t 94)⟩] none [3, 4, 5, 10, 12, 13, 15, 16, 17, 18, 19, 20, 21]
def r_erasurelaw26CodecRequests_12 : ACode := .reg [
    ⟨some 95, none, .fld 1 (.t 3)⟩,
    ⟨some 96, none, .load (some 4) (.t 95)⟩,
    ⟨some 97, none, .call 75 [(.t 96)]⟩,
    ⟨some 98, none, .fld 0 (.t 4)⟩,
    ⟨some 99, none, .load (some 4) (.t 98)⟩,
    ⟨some 100, none, .call 75 [(.t 99)]⟩,
    ⟨some 101, none, .fld 4 (.t 4)⟩,
    ⟨some 102, none, .load (some 4) (.t 101)⟩,
    ⟨some 103, none, .call 75 [(.t 102)]⟩,
    ⟨some 104, none, .fld 2 (.t 5)⟩,
    ⟨some 105, none, .load (some 4) (.t 104)⟩,
    ⟨some 106, none, .call 75 [(.t 105)]⟩,
    ⟨some 107, none, .fld 1 (.t 3)⟩,
    ⟨none, none, .store 4 (.t 107) (.t 97)⟩,
    ⟨some 108, none, .fld 0 (.t 4)⟩,
    ⟨none, none, .store 4 (.t 108) (.t 100)⟩,
    ⟨some 109, none, .fld 4 (.t 4)⟩,
    ⟨none, none, .store 4 (.t 109) (.t 103)⟩,
    ⟨some 110, none, .fld 2 (.t 5)⟩,
    ⟨none, none, .store 4 (.t 110) (.t 106)⟩] (some [0, 1, 3, 0, 8, 31, 0, 64, 255, 0, 512, 2047, 199, 8191, 16383, 32767, 65535, 131071, 262143, 524287]) [3, 4, 5, 10, 12, 13, 15, 16, 17, 18, 19, 20, 21]
def r_erasurelaw26CodecRequests_13 : ACode := .reg [
    ⟨some 111, none, .mov (.t 12)⟩,
    ⟨some 112, none, .bin .eql (.t 111) (.k (.int .i64 (0)))⟩,
    ⟨some 113, none, .mov (.t 112)⟩,
    ⟨some 114, (some (113, true)), .mov (.t 15)⟩,
    ⟨some 115, (some (113, true)), .bin .eql (.t 114) (.k (.int .i64 (0)))⟩,
    ⟨some 116, none, .pick (.t 113) (.t 115) (.k (.bool false))⟩,
    ⟨some 117, none, .mov (.t 116)⟩,
    ⟨some 118, (some (117, true)), .mov (.t 18)⟩,
    ⟨some 119, (some (117, true)), .bin .eql (.t 118) (.k (.int .i64 (0)))⟩,
    ⟨some 120, none, .pick (.t 117) (.t 119) (.k (.bool false))⟩,
    ⟨some 121, none, .mov (.t 120)⟩,
    ⟨some 122, (some (121, true)), .mov (.t 21)⟩,
    ⟨some 123, (some (121, true)), .bin .eql (.t 122) (.k (.int .i64 (0)))⟩,
    ⟨some 124, none, .pick (.t 121) (.t 123) (.k (.bool false))⟩,
    ⟨some 125, none, .mov (.t 124)⟩,
    ⟨some 126, (some (125, true)), .load (some 8) (.t 10)⟩,
    ⟨some 127, (some (125, true)), .load (some 8) (.t 3)⟩,
    ⟨some 128, (some (125, true)), .eqa false [(1, .ti .i64), (1, .ts), (2, .ti .i64), (1, .ts), (3, .ti .i64)] (.t 126) (.t 127)⟩,
    ⟨some 129, none, .pick (.t 125) (.t 128) (.k (.bool false))⟩,
    ⟨some 130, none, .mov (.t 129)⟩,
    ⟨some 131, (some (130, true)), .load (some 10) (.t 13)⟩,
    ⟨some 132, (some (130, true)), .load (some 10) (.t 4)⟩,
    ⟨some 133, (some (130, true)), .eqa false [(1, .ts), (2, .ti .i64), (2, .ts), (2, .ti .i64), (1, .ts), (1, .ti .i64), (1, .tb)] (.t 131) (.t 132)⟩,
    ⟨some 134, none, .pick (.t 130) (.t 133) (.k (.bool false))⟩,
    ⟨some 135, none, .mov (.t 134)⟩,
    ⟨some 136, (some (135, true)), .load (some 9) (.t 16)⟩,
    ⟨some 137, (some (135, true)), .load (some 9) (.t 5)⟩,
    ⟨some 138, (some (135, true)), .eqa false [(2, .ti .i64), (1, .ts), (2, .ti .i64), (1, .ts), (3, .ti .i64)] (.t 136) (.t 137)⟩,
    ⟨some 139, none, .pick (.t 135) (.t 138) (.k (.bool false))⟩,
    ⟨some 140, none, .mov (.t 139)⟩,
    ⟨some 141, (some (140, true)), .load (some 4) (.t 19)⟩,
    ⟨some 142, (some (140, true)), .fld 1 (.t 3)⟩,
    ⟨some 143, (some (140, true)), .load (some 4) (.t 142)⟩,
    ⟨some 144, (some (140, true)), .eqa false [(1, .ts), (2, .ti .i64), (1, .ts)] (.t 141) (.t 143)⟩,
    ⟨some 145, none, .pick (.t 140) (.t 144) (.k (.bool false))⟩,
    ⟨some 146, none, .mov (.t 145)⟩,
    ⟨some 147, (some (146, true)), .mov (.t 17)⟩,
    ⟨some 148, (some (146, true)), .len (.t 147)⟩,
    ⟨some 149, (some (146, true)), .bin .eql (.t 148) (.k (.int .i64 (0)))⟩,
    ⟨some 150, none, .pick (.t 146) (.t 149) (.k (.bool false))⟩,
    ⟨some 151, none, .mov (.t 150)⟩,
    ⟨some 152, (some (151, true)), .mov (.t 20)⟩,
    ⟨some 153, (some (151, true)), .tostr (.t 152)⟩,
    ⟨some 154, (some (151, true)), .bin .eql (.t 153) (.k (.string { data := #[9] }))⟩,
    ⟨some 155, none, .pick (.t 151) (.t 154) (.k (.bool false))⟩,
    ⟨some 156, none, .mov (.t 155)⟩,
    ⟨some 157, (some (156, true)), .call 18 []⟩,
    ⟨some 158, none, .pick (.t 156) (.t 157) (.k (.bool false))⟩,
    ⟨some 6, none, .mov (.t 158)⟩] none [6]
def c_erasurelaw26CodecRequests : ACode :=
  (.seq r_erasurelaw26CodecRequests_0
  (.seq (.seq r_erasurelaw26CodecRequests_1
    (.cond (.t 43)
     (.seq r_erasurelaw26CodecRequests_2
      .ret)
     .skip))
   (.seq r_erasurelaw26CodecRequests_3
    (.seq r_erasurelaw26CodecRequests_4
     (.seq r_erasurelaw26CodecRequests_5
      (.seq (.seq r_erasurelaw26CodecRequests_6
        (.cond (.t 66)
         (.seq r_erasurelaw26CodecRequests_7
          .ret)
         .skip))
       (.seq r_erasurelaw26CodecRequests_8
        (.seq r_erasurelaw26CodecRequests_9
         (.seq r_erasurelaw26CodecRequests_10
          (.seq r_erasurelaw26CodecRequests_11
           (.seq r_erasurelaw26CodecRequests_12
            (.seq r_erasurelaw26CodecRequests_13
             .ret))))))))))))
theorem fits_erasurelaw26CodecRequests : Fits Try.prog 14 159 c_erasurelaw26CodecRequests [.t 6] := ⟨⟨Try.f14, _, _, Try.func14, rfl, rfl, rfl, by decide, by kernel_rfl, by kernel_rfl⟩, Try.checked.mixed⟩
/- erasure/erasurelaw26.CodecEntries -/
def r_erasurelaw26CodecEntries_0 : ACode := .reg [
    ⟨some 2, none, .box 111 (.t 0)⟩,
    ⟨some 4, none, .mov (.k (.bool false))⟩] none [1, 2]
def r_erasurelaw26CodecEntries_1 : ACode := .reg [
    ⟨some 9, none, .load (some 65) (.t 2)⟩,
    ⟨some 10, none, .call 59 [(.t 9)]⟩,
    ⟨some 11, none, .un .not (.t 10)⟩,
    ⟨some 12, none, .mov (.t 11)⟩,
    ⟨some 13, (some (12, false)), .mov (.t 1)⟩,
    ⟨some 14, (some (12, false)), .len (.t 13)⟩,
    ⟨some 15, (some (12, false)), .bin .gtr (.t 14) (.k (.int .i64 (100)))⟩,
    ⟨some 16, none, .pick (.t 12) (.k (.bool true)) (.t 15)⟩] none [1, 2, 16]
def r_erasurelaw26CodecEntries_2 : ACode := .reg [
    ⟨some 17, none, .call 18 []⟩,
    ⟨some 4, none, .mov (.t 17)⟩] none [4]
def r_erasurelaw26CodecEntries_3 : ACode := .reg [
    ⟨some 18, none, .load (some 65) (.t 2)⟩,
    ⟨some 19, none, .call 76 [(.k (.slice none 0 0)), (.t 18)]⟩,
    ⟨some 5, none, .mov (.t 19)⟩] none [1, 2, 5]
def r_erasurelaw26CodecEntries_4 : ACode := .reg [
    ⟨some 21, none, .mov (.t 5)⟩,
    ⟨some 22, none, .mov (.t 1)⟩,
    ⟨some 23, none, .call 21 [(.t 21), (.t 22)]⟩,
    ⟨some 24, none, .call 61 [(.t 23)]⟩,
    ⟨some 20, none, .mov (.t 24)⟩,
    ⟨some 25, none, .ext 0 (.t 20)⟩,
    ⟨some 26, none, .ext 1 (.t 20)⟩,
    ⟨some 27, none, .ext 2 (.t 20)⟩,
    ⟨some 6, none, .alloc 111 [.int .i64 0, .int .i64 0, .int .i64 0, .int .i64 0, .int .i64 0, .string ⟨#[]⟩, .int .i64 0, .int .i64 0, .string ⟨#[]⟩, .int .i64 0, .int .i64 0, .int .i64 0, .string ⟨#[]⟩, .int .i64 0, .int .i64 0, .string ⟨#[]⟩, .string ⟨#[]⟩, .int .i64 0, .int .i64 0, .string ⟨#[]⟩, .int .i64 0, .bool false, .int .i64 0, .int .i64 0, .string ⟨#[]⟩, .int .i64 0, .int .i64 0, .string ⟨#[]⟩, .int .i64 0, .int .i64 0, .int .i64 0, .slice none 0 0, .slice none 0 0, .int .u8 0, .int .u8 0, .int .u8 0, .int .u8 0, .int .u8 0, .int .u8 0, .int .u8 0, .int .u8 0, .int .u8 0, .int .u8 0, .int .u8 0, .int .u8 0, .int .u8 0, .int .u8 0, .int .u8 0, .int .u8 0, .int .u8 0, .int .u8 0, .int .u8 0, .int .u8 0, .int .u8 0, .int .u8 0, .int .u8 0, .int .u8 0, .int .u8 0, .int .u8 0, .int .u8 0, .int .u8 0, .int .u8 0, .int .u8 0, .int .u8 0, .int .u8 0]⟩,
    ⟨none, none, .store 65 (.t 6) (.t 25)⟩,
    ⟨some 7, none, .mov (.t 26)⟩,
    ⟨some 8, none, .mov (.t 27)⟩] none [1, 2, 5, 6, 7, 8]
def r_erasurelaw26CodecEntries_5 : ACode := .reg [
    ⟨some 28, none, .mov (.t 5)⟩,
    ⟨some 29, none, .tostr (.t 28)⟩,
    ⟨some 30, none, .load (some 65) (.t 2)⟩,
    ⟨some 31, none, .call 60 [(.t 30)]⟩,
    ⟨some 32, none, .tostr (.t 31)⟩,
    ⟨some 33, none, .bin .neq (.t 29) (.t 32)⟩] (some [0, 1, 0, 4, 12, 31]) [1, 2, 6, 7, 8, 33]
def r_erasurelaw26CodecEntries_6 : ACode := .reg [
    ⟨some 4, none, .mov (.k (.bool false))⟩] none [4]
def r_erasurelaw26CodecEntries_7 : ACode := .reg [
    ⟨some 34, none, .fld 0 (.t 2)⟩,
    ⟨some 35, none, .load none (.t 34)⟩,
    ⟨some 36, none, .bin .lss (.t 35) (.k (.int .i64 (1)))⟩,
    ⟨some 37, none, .mov (.t 36)⟩,
    ⟨some 38, (some (37, false)), .fld 0 (.t 2)⟩,
    ⟨some 39, (some (37, false)), .load none (.t 38)⟩,
    ⟨some 40, (some (37, false)), .bin .gtr (.t 39) (.k (.int .i64 (7)))⟩,
    ⟨some 41, none, .pick (.t 37) (.k (.bool true)) (.t 40)⟩] none [1, 2, 6, 7, 8, 41]
def r_erasurelaw26CodecEntries_8 : ACode := .reg [
    ⟨some 42, none, .mov (.t 8)⟩,
    ⟨some 43, none, .bin .eql (.t 42) (.k (.int .i64 (1)))⟩,
    ⟨some 44, none, .mov (.t 43)⟩,
    ⟨some 45, (some (44, true)), .load (some 65) (.t 6)⟩,
    ⟨some 46, (some (44, true)), .build [.int .i64 0, .int .i64 0, .int .i64 0, .int .i64 0, .int .i64 0, .string ⟨#[]⟩, .int .i64 0, .int .i64 0, .string ⟨#[]⟩, .int .i64 0, .int .i64 0, .int .i64 0, .string ⟨#[]⟩, .int .i64 0, .int .i64 0, .string ⟨#[]⟩, .string ⟨#[]⟩, .int .i64 0, .int .i64 0, .string ⟨#[]⟩, .int .i64 0, .bool false, .int .i64 0, .int .i64 0, .string ⟨#[]⟩, .int .i64 0, .int .i64 0, .string ⟨#[]⟩, .int .i64 0, .int .i64 0, .int .i64 0, .slice none 0 0, .slice none 0 0, .int .u8 0, .int .u8 0, .int .u8 0, .int .u8 0, .int .u8 0, .int .u8 0, .int .u8 0, .int .u8 0, .int .u8 0, .int .u8 0, .int .u8 0, .int .u8 0, .int .u8 0, .int .u8 0, .int .u8 0, .int .u8 0, .int .u8 0, .int .u8 0, .int .u8 0, .int .u8 0, .int .u8 0, .int .u8 0, .int .u8 0, .int .u8 0, .int .u8 0, .int .u8 0, .int .u8 0, .int .u8 0, .int .u8 0, .int .u8 0, .int .u8 0, .int .u8 0] []⟩,
    ⟨some 47, (some (44, true)), .call 62 [(.t 45), (.t 46)]⟩,
    ⟨some 48, none, .pick (.t 44) (.t 47) (.k (.bool false))⟩,
    ⟨some 49, none, .mov (.t 48)⟩,
    ⟨some 50, (some (49, true)), .mov (.t 7)⟩,
    ⟨some 51, (some (49, true)), .len (.t 50)⟩,
    ⟨some 52, (some (49, true)), .bin .eql (.t 51) (.k (.int .i64 (0)))⟩,
    ⟨some 53, none, .pick (.t 49) (.t 52) (.k (.bool false))⟩,
    ⟨some 54, none, .mov (.t 53)⟩,
    ⟨some 55, (some (54, true)), .call 18 []⟩,
    ⟨some 56, none, .pick (.t 54) (.t 55) (.k (.bool false))⟩,
    ⟨some 4, none, .mov (.t 56)⟩] none [4]
def r_erasurelaw26CodecEntries_9 : ACode := .reg [
    ⟨some 57, none, .mov (.t 8)⟩,
    ⟨some 58, none, .bin .eql (.t 57) (.k (.int .i64 (0)))⟩,
    ⟨some 59, none, .mov (.t 58)⟩,
    ⟨some 60, (some (59, true)), .load (some 65) (.t 6)⟩,
    ⟨some 61, (some (59, true)), .load (some 65) (.t 2)⟩,
    ⟨some 62, (some (59, true)), .call 77 [(.t 61)]⟩,
    ⟨some 63, (some (59, true)), .call 62 [(.t 60), (.t 62)]⟩,
    ⟨some 64, none, .pick (.t 59) (.t 63) (.k (.bool false))⟩,
    ⟨some 65, none, .mov (.t 64)⟩,
    ⟨some 66, (some (65, true)), .mov (.t 7)⟩,
    ⟨some 67, (some (65, true)), .tostr (.t 66)⟩,
    ⟨some 68, (some (65, true)), .mov (.t 1)⟩,
    ⟨some 69, (some (65, true)), .tostr (.t 68)⟩,
    ⟨some 70, (some (65, true)), .bin .eql (.t 67) (.t 69)⟩,
    ⟨some 71, none, .pick (.t 65) (.t 70) (.k (.bool false))⟩,
    ⟨some 72, none, .mov (.t 71)⟩,
    ⟨some 73, (some (72, true)), .call 18 []⟩,
    ⟨some 74, none, .pick (.t 72) (.t 73) (.k (.bool false))⟩,
    ⟨some 4, none, .mov (.t 74)⟩] (some [0, 1, 3, 7, 7, 23, 63, 127, 255, 511, 1023, 511, 2559, 8191, 16383, 32767, 65535, 131071, 262143]) [4]
def c_erasurelaw26CodecEntries : ACode :=
  (.seq r_erasurelaw26CodecEntries_0
  (.seq (.seq r_erasurelaw26CodecEntries_1
    (.cond (.t 16)
     (.seq r_erasurelaw26CodecEntries_2
      .ret)
     .skip))
   (.seq r_erasurelaw26CodecEntries_3
    (.seq r_erasurelaw26CodecEntries_4
     (.seq (.seq r_erasurelaw26CodecEntries_5
       (.cond (.t 33)
        (.seq r_erasurelaw26CodecEntries_6
         .ret)
        .skip))
      (.seq (.seq r_erasurelaw26CodecEntries_7
        (.cond (.t 41)
         (.seq r_erasurelaw26CodecEntries_8
          .ret)
         .skip))
       (.seq r_erasurelaw26CodecEntries_9
        .ret)))))))
theorem fits_erasurelaw26CodecEntries : Fits Try.prog 15 75 c_erasurelaw26CodecEntries [.t 4] := ⟨⟨Try.f15, _, _, Try.func15, rfl, rfl, rfl, by decide, by kernel_rfl, by kernel_rfl⟩, Try.checked.mixed⟩
/- erasure/erasurelaw26.CodecOnly -/
def r_erasurelaw26CodecOnly_0 : ACode := .reg [
    ⟨some 3, none, .box 111 (.t 0)⟩,
    ⟨some 6, none, .mov (.k (.bool false))⟩] none [1, 2, 3]
def r_erasurelaw26CodecOnly_1 : ACode := .reg [
    ⟨some 11, none, .load (some 65) (.t 3)⟩,
    ⟨some 12, none, .call 59 [(.t 11)]⟩,
    ⟨some 13, none, .un .not (.t 12)⟩,
    ⟨some 14, none, .mov (.t 13)⟩,
    ⟨some 15, (some (14, false)), .mov (.t 1)⟩,
    ⟨some 16, (some (14, false)), .bin .lss (.t 15) (.k (.int .i64 (0)))⟩,
    ⟨some 17, none, .pick (.t 14) (.k (.bool true)) (.t 16)⟩] none [1, 2, 3, 17]
def r_erasurelaw26CodecOnly_2 : ACode := .reg [
    ⟨some 18, none, .call 18 []⟩,
    ⟨some 6, none, .mov (.t 18)⟩] none [6]
def r_erasurelaw26CodecOnly_3 : ACode := .reg [
    ⟨some 19, none, .load (some 65) (.t 3)⟩,
    ⟨some 20, none, .call 60 [(.t 19)]⟩,
    ⟨some 7, none, .mov (.t 20)⟩] none [1, 2, 7]
def r_erasurelaw26CodecOnly_4 : ACode := .reg [
    ⟨some 21, none, .mov (.t 7)⟩,
    ⟨some 22, none, .mov (.t 1)⟩,
    ⟨some 23, none, .mov (.t 7)⟩,
    ⟨some 24, none, .len (.t 23)⟩,
    ⟨some 25, none, .bin .rem (.t 22) (.t 24)⟩,
    ⟨some 26, none, .idxa 1 (.t 21) (.t 25)⟩,
    ⟨some 27, none, .load none (.t 26)⟩,
    ⟨some 28, none, .mov (.t 2)⟩,
    ⟨some 29, none, .bin .xor (.t 27) (.t 28)⟩,
    ⟨some 30, none, .idxa 1 (.t 21) (.t 25)⟩,
    ⟨none, none, .store 1 (.t 30) (.t 29)⟩] none [7]
def r_erasurelaw26CodecOnly_5 : ACode := .reg [
    ⟨some 32, none, .mov (.t 7)⟩,
    ⟨some 33, none, .call 61 [(.t 32)]⟩,
    ⟨some 31, none, .mov (.t 33)⟩,
    ⟨some 34, none, .ext 0 (.t 31)⟩,
    ⟨some 35, none, .ext 1 (.t 31)⟩,
    ⟨some 36, none, .ext 2 (.t 31)⟩,
    ⟨some 8, none, .alloc 111 [.int .i64 0, .int .i64 0, .int .i64 0, .int .i64 0, .int .i64 0, .string ⟨#[]⟩, .int .i64 0, .int .i64 0, .string ⟨#[]⟩, .int .i64 0, .int .i64 0, .int .i64 0, .string ⟨#[]⟩, .int .i64 0, .int .i64 0, .string ⟨#[]⟩, .string ⟨#[]⟩, .int .i64 0, .int .i64 0, .string ⟨#[]⟩, .int .i64 0, .bool false, .int .i64 0, .int .i64 0, .string ⟨#[]⟩, .int .i64 0, .int .i64 0, .string ⟨#[]⟩, .int .i64 0, .int .i64 0, .int .i64 0, .slice none 0 0, .slice none 0 0, .int .u8 0, .int .u8 0, .int .u8 0, .int .u8 0, .int .u8 0, .int .u8 0, .int .u8 0, .int .u8 0, .int .u8 0, .int .u8 0, .int .u8 0, .int .u8 0, .int .u8 0, .int .u8 0, .int .u8 0, .int .u8 0, .int .u8 0, .int .u8 0, .int .u8 0, .int .u8 0, .int .u8 0, .int .u8 0, .int .u8 0, .int .u8 0, .int .u8 0, .int .u8 0, .int .u8 0, .int .u8 0, .int .u8 0, .int .u8 0, .int .u8 0, .int .u8 0]⟩,
    ⟨none, none, .store 65 (.t 8) (.t 34)⟩,
    ⟨some 9, none, .mov (.t 35)⟩,
    ⟨some 10, none, .mov (.t 36)⟩] none [7, 8, 9, 10]
def r_erasurelaw26CodecOnly_6 : ACode := .reg [
    ⟨some 37, none, .mov (.t 10)⟩,
    ⟨some 38, none, .bin .neq (.t 37) (.k (.int .i64 (0)))⟩] none [7, 8, 9, 38]
def r_erasurelaw26CodecOnly_7 : ACode := .reg [
    ⟨some 39, none, .load (some 65) (.t 8)⟩,
    ⟨some 40, none, .build [.int .i64 0, .int .i64 0, .int .i64 0, .int .i64 0, .int .i64 0, .string ⟨#[]⟩, .int .i64 0, .int .i64 0, .string ⟨#[]⟩, .int .i64 0, .int .i64 0, .int .i64 0, .string ⟨#[]⟩, .int .i64 0, .int .i64 0, .string ⟨#[]⟩, .string ⟨#[]⟩, .int .i64 0, .int .i64 0, .string ⟨#[]⟩, .int .i64 0, .bool false, .int .i64 0, .int .i64 0, .string ⟨#[]⟩, .int .i64 0, .int .i64 0, .string ⟨#[]⟩, .int .i64 0, .int .i64 0, .int .i64 0, .slice none 0 0, .slice none 0 0, .int .u8 0, .int .u8 0, .int .u8 0, .int .u8 0, .int .u8 0, .int .u8 0, .int .u8 0, .int .u8 0, .int .u8 0, .int .u8 0, .int .u8 0, .int .u8 0, .int .u8 0, .int .u8 0, .int .u8 0, .int .u8 0, .int .u8 0, .int .u8 0, .int .u8 0, .int .u8 0, .int .u8 0, .int .u8 0, .int .u8 0, .int .u8 0, .int .u8 0, .int .u8 0, .int .u8 0, .int .u8 0, .int .u8 0, .int .u8 0, .int .u8 0, .int .u8 0] []⟩,
    ⟨some 41, none, .call 62 [(.t 39), (.t 40)]⟩,
    ⟨some 42, none, .mov (.t 41)⟩,
    ⟨some 43, (some (42, true)), .mov (.t 9)⟩,
    ⟨some 44, (some (42, true)), .len (.t 43)⟩,
    ⟨some 45, (some (42, true)), .bin .eql (.t 44) (.k (.int .i64 (0)))⟩,
    ⟨some 46, none, .pick (.t 42) (.t 45) (.k (.bool false))⟩,
    ⟨some 47, none, .mov (.t 46)⟩,
    ⟨some 48, (some (47, true)), .call 18 []⟩,
    ⟨some 49, none, .pick (.t 47) (.t 48) (.k (.bool false))⟩,
    ⟨some 6, none, .mov (.t 49)⟩] none [6]
def r_erasurelaw26CodecOnly_8 : ACode := .reg [
    ⟨some 50, none, .mov (.t 9)⟩,
    ⟨some 51, none, .len (.t 50)⟩,
    ⟨some 52, none, .mov (.t 7)⟩,
    ⟨some 53, none, .len (.t 52)⟩,
    ⟨some 54, none, .bin .lss (.t 51) (.t 53)⟩,
    ⟨some 55, none, .mov (.t 54)⟩,
    ⟨some 56, (some (55, true)), .load (some 65) (.t 8)⟩,
    ⟨some 57, (some (55, true)), .call 76 [(.k (.slice none 0 0)), (.t 56)]⟩,
    ⟨some 58, (some (55, true)), .tostr (.t 57)⟩,
    ⟨some 59, (some (55, true)), .mov (.t 9)⟩,
    ⟨some 60, (some (55, true)), .tostr (.t 59)⟩,
    ⟨some 61, (some (55, true)), .bin .add (.t 58) (.t 60)⟩,
    ⟨some 62, (some (55, true)), .mov (.t 7)⟩,
    ⟨some 63, (some (55, true)), .tostr (.t 62)⟩,
    ⟨some 64, (some (55, true)), .bin .eql (.t 61) (.t 63)⟩,
    ⟨some 65, none, .pick (.t 55) (.t 64) (.k (.bool false))⟩,
    ⟨some 66, none, .mov (.t 65)⟩,
    ⟨some 67, (some (66, true)), .call 18 []⟩,
    ⟨some 68, none, .pick (.t 66) (.t 67) (.k (.bool false))⟩,
    ⟨some 6, none, .mov (.t 68)⟩] (some [0, 1, 0, 4, 15, 31, 63, 127, 255, 63, 575, 2047, 63, 4159, 16383, 32767, 65535, 131071, 262143, 524287]) [6]
def c_erasurelaw26CodecOnly : ACode :=
  (.seq r_erasurelaw26CodecOnly_0
  (.seq (.seq r_erasurelaw26CodecOnly_1
    (.cond (.t 17)
     (.seq r_erasurelaw26CodecOnly_2
      .ret)
     .skip))
   (.seq r_erasurelaw26CodecOnly_3
    (.seq r_erasurelaw26CodecOnly_4
     (.seq r_erasurelaw26CodecOnly_5
      (.seq (.seq r_erasurelaw26CodecOnly_6
        (.cond (.t 38)
         (.seq r_erasurelaw26CodecOnly_7
          .ret)
         .skip))
       (.seq r_erasurelaw26CodecOnly_8
        .ret)))))))
theorem fits_erasurelaw26CodecOnly : Fits Try.prog 16 69 c_erasurelaw26CodecOnly [.t 6] := ⟨⟨Try.f16, _, _, Try.func16, rfl, rfl, rfl, by decide, by kernel_rfl, by kernel_rfl⟩, Try.checked.mixed⟩
/- erasure/erasurelaw26.CodecReads -/
def r_erasurelaw26CodecReads_0 : ACode := .reg [
    ⟨some 4, none, .mov (.k (.bool false))⟩] none [0, 1]
def r_erasurelaw26CodecReads_1 : ACode := .reg [
    ⟨some 45, none, .mov (.t 0)⟩,
    ⟨some 46, none, .len (.t 45)⟩,
    ⟨some 47, none, .bin .gtr (.t 46) (.k (.int .i64 (200)))⟩] none [0, 1, 47]
def r_erasurelaw26CodecReads_2 : ACode := .reg [
    ⟨some 48, none, .call 18 []⟩,
    ⟨some 4, none, .mov (.t 48)⟩] none [4]
def r_erasurelaw26CodecReads_3 : ACode := .reg [
    ⟨some 49, none, .mov (.t 0)⟩,
    ⟨some 50, none, .build [.slice none 0 0, .int .i64 0] [(0, 1, (.t 49))]⟩,
    ⟨some 51, none, .box 33 (.t 50)⟩,
    ⟨some 5, none, .mov (.t 51)⟩] none [0, 1, 5]
def r_erasurelaw26CodecReads_4 : ACode := .reg [
    ⟨some 6, none, .mov (.k (.slice none 0 0))⟩] none [0, 1, 5, 6]
def r_erasurelaw26CodecReads_5 : ACode := .reg [
    ⟨some 7, none, .mov (.k (.int .i64 (0)))⟩] none [0, 1, 5, 6, 7]
def r_erasurelaw26CodecReads_6 : ACode := .reg [
    ⟨some 8, none, .mov (.k (.bool true))⟩] none [0, 1, 5, 6, 7, 8]
def r_erasurelaw26CodecReads_7 : ACode := .reg [
    ⟨some 52, none, .mov (.t 1)⟩,
    ⟨some 53, none, .bin .and (.t 52) (.k (.int .i64 (7)))⟩] none [0, 1, 5, 6, 7, 8, 53]
def r_erasurelaw26CodecReads_8 : ACode := .reg [
    ⟨some 55, none, .bin .eql (.t 53) (.k (.int .i64 (0)))⟩,
    ⟨some 54, none, .mov (.t 55)⟩] none [0, 1, 5, 6, 7, 8, 53, 54]
def r_erasurelaw26CodecReads_9 : ACode := .reg [
    ⟨some 57, none, .mov (.t 0)⟩,
    ⟨some 58, none, .call 41 [(.t 57)]⟩,
    ⟨some 56, none, .mov (.t 58)⟩,
    ⟨some 59, none, .ext 0 (.t 56)⟩,
    ⟨some 60, none, .ext 1 (.t 56)⟩,
    ⟨some 61, none, .ext 2 (.t 56)⟩,
    ⟨some 9, none, .alloc 67 [.int .i64 0, .int .i64 0, .string ⟨#[]⟩]⟩,
    ⟨none, none, .store 3 (.t 9) (.t 59)⟩,
    ⟨some 10, none, .mov (.t 60)⟩,
    ⟨some 11, none, .mov (.t 61)⟩] none [5, 9, 10, 11]
def r_erasurelaw26CodecReads_10 : ACode := .reg [
    ⟨some 62, none, .mov (.t 5)⟩,
    ⟨some 63, none, .call 78 [(.t 62)]⟩,
    ⟨some 12, none, .alloc 67 [.int .i64 0, .int .i64 0, .string ⟨#[]⟩]⟩,
    ⟨none, none, .store 3 (.t 12) (.t 63)⟩] none [5, 9, 10, 11, 12]
def r_erasurelaw26CodecReads_11 : ACode := .reg [
    ⟨some 64, none, .mov (.t 10)⟩,
    ⟨some 65, none, .mov (.t 11)⟩,
    ⟨some 66, none, .mov (.t 5)⟩,
    ⟨some 67, none, .nilck (.t 66)⟩,
    ⟨some 68, none, .fld 1 (.t 67)⟩,
    ⟨some 69, none, .load none (.t 68)⟩,
    ⟨some 70, none, .bin .neq (.t 69) (.k (.int .i64 (0)))⟩,
    ⟨some 71, none, .mov (.t 70)⟩,
    ⟨some 72, (some (71, true)), .load (some 3) (.t 9)⟩,
    ⟨some 73, (some (71, true)), .build [.int .i64 0, .int .i64 0, .string ⟨#[]⟩] []⟩,
    ⟨some 74, (some (71, true)), .eqa false [(2, .ti .i64), (1, .ts)] (.t 72) (.t 73)⟩,
    ⟨some 75, none, .pick (.t 71) (.t 74) (.k (.bool false))⟩,
    ⟨some 76, none, .mov (.t 75)⟩,
    ⟨some 77, (some (76, false)), .mov (.t 5)⟩,
    ⟨some 78, (some (76, false)), .nilck (.t 77)⟩,
    ⟨some 79, (some (76, false)), .fld 1 (.t 78)⟩,
    ⟨some 80, (some (76, false)), .load none (.t 79)⟩,
    ⟨some 81, (some (76, false)), .bin .eql (.t 80) (.k (.int .i64 (0)))⟩,
    ⟨some 82, (some (76, false)), .mov (.t 81)⟩,
    ⟨some 83, (some (82, true)), .load (some 3) (.t 9)⟩,
    ⟨some 84, (some (82, true)), .load (some 3) (.t 12)⟩,
    ⟨some 85, (some (82, true)), .eqa false [(2, .ti .i64), (1, .ts)] (.t 83) (.t 84)⟩,
    ⟨some 86, (some (76, false)), .pick (.t 82) (.t 85) (.k (.bool false))⟩,
    ⟨some 87, none, .pick (.t 76) (.k (.bool true)) (.t 86)⟩,
    ⟨some 6, none, .mov (.t 64)⟩,
    ⟨some 7, none, .mov (.t 65)⟩,
    ⟨some 8, none, .mov (.t 87)⟩] (some [0, 0, 0, 4, 12, 28, 60, 124, 252, 252, 1020, 2044, 4092, 8188, 16380, 32764, 65532, 131068, 262140, 524284, 524284, 2097148, 4194300, 8388604, 524285, 17301503, 67108863]) [5, 6, 7, 8]
def r_erasurelaw26CodecReads_12 : ACode := .reg [
    ⟨some 89, none, .bin .eql (.t 53) (.k (.int .i64 (1)))⟩,
    ⟨some 88, none, .mov (.t 89)⟩] none [0, 1, 5, 6, 7, 8, 53, 88]
def r_erasurelaw26CodecReads_13 : ACode := .reg [
    ⟨some 91, none, .mov (.t 0)⟩,
    ⟨some 92, none, .call 39 [(.t 91)]⟩,
    ⟨some 90, none, .mov (.t 92)⟩,
    ⟨some 93, none, .ext 0 (.t 90)⟩,
    ⟨some 94, none, .ext 1 (.t 90)⟩,
    ⟨some 95, none, .ext 2 (.t 90)⟩,
    ⟨some 13, none, .mov (.t 93)⟩,
    ⟨some 14, none, .mov (.t 94)⟩,
    ⟨some 15, none, .mov (.t 95)⟩] none [5, 13, 14, 15]
def r_erasurelaw26CodecReads_14 : ACode := .reg [
    ⟨some 96, none, .mov (.t 5)⟩,
    ⟨some 97, none, .call 79 [(.t 96)]⟩,
    ⟨some 16, none, .mov (.t 97)⟩] none [5, 13, 14, 15, 16]
def r_erasurelaw26CodecReads_15 : ACode := .reg [
    ⟨some 98, none, .mov (.t 14)⟩,
    ⟨some 99, none, .mov (.t 15)⟩,
    ⟨some 100, none, .mov (.t 5)⟩,
    ⟨some 101, none, .nilck (.t 100)⟩,
    ⟨some 102, none, .fld 1 (.t 101)⟩,
    ⟨some 103, none, .load none (.t 102)⟩,
    ⟨some 104, none, .bin .neq (.t 103) (.k (.int .i64 (0)))⟩,
    ⟨some 105, none, .mov (.t 104)⟩,
    ⟨some 106, (some (105, true)), .mov (.t 13)⟩,
    ⟨some 107, (some (105, true)), .len (.t 106)⟩,
    ⟨some 108, (some (105, true)), .bin .eql (.t 107) (.k (.int .i64 (0)))⟩,
    ⟨some 109, none, .pick (.t 105) (.t 108) (.k (.bool false))⟩,
    ⟨some 110, none, .mov (.t 109)⟩,
    ⟨some 111, (some (110, false)), .mov (.t 5)⟩,
    ⟨some 112, (some (110, false)), .nilck (.t 111)⟩,
    ⟨some 113, (some (110, false)), .fld 1 (.t 112)⟩,
    ⟨some 114, (some (110, false)), .load none (.t 113)⟩,
    ⟨some 115, (some (110, false)), .bin .eql (.t 114) (.k (.int .i64 (0)))⟩,
    ⟨some 116, (some (110, false)), .mov (.t 115)⟩,
    ⟨some 117, (some (116, true)), .mov (.t 13)⟩,
    ⟨some 118, (some (116, true)), .mov (.t 16)⟩,
    ⟨some 119, (some (116, true)), .call 45 [(.t 117), (.t 118)]⟩,
    ⟨some 120, (some (110, false)), .pick (.t 116) (.t 119) (.k (.bool false))⟩,
    ⟨some 121, none, .pick (.t 110) (.k (.bool true)) (.t 120)⟩,
    ⟨some 6, none, .mov (.t 98)⟩,
    ⟨some 7, none, .mov (.t 99)⟩,
    ⟨some 8, none, .mov (.t 121)⟩] none [5, 6, 7, 8]
def r_erasurelaw26CodecReads_16 : ACode := .reg [
    ⟨some 123, none, .bin .eql (.t 53) (.k (.int .i64 (2)))⟩,
    ⟨some 122, none, .mov (.t 123)⟩] none [0, 1, 5, 6, 7, 8, 53, 122]
def r_erasurelaw26CodecReads_17 : ACode := .reg [
    ⟨some 125, none, .mov (.t 0)⟩,
    ⟨some 126, none, .call 56 [(.t 125)]⟩,
    ⟨some 124, none, .mov (.t 126)⟩,
    ⟨some 127, none, .ext 0 (.t 124)⟩,
    ⟨some 128, none, .ext 1 (.t 124)⟩,
    ⟨some 129, none, .ext 2 (.t 124)⟩,
    ⟨some 17, none, .alloc 95 [.slice none 0 0, .slice none 0 0, .int .i64 0]⟩,
    ⟨none, none, .store 3 (.t 17) (.t 127)⟩,
    ⟨some 18, none, .mov (.t 128)⟩,
    ⟨some 19, none, .mov (.t 129)⟩] none [5, 17, 18, 19]
def r_erasurelaw26CodecReads_18 : ACode := .reg [
    ⟨some 130, none, .mov (.t 5)⟩,
    ⟨some 131, none, .call 80 [(.t 130)]⟩,
    ⟨some 20, none, .alloc 95 [.slice none 0 0, .slice none 0 0, .int .i64 0]⟩,
    ⟨none, none, .store 3 (.t 20) (.t 131)⟩] none [5, 17, 18, 19, 20]
def r_erasurelaw26CodecReads_19 : ACode := .reg [
    ⟨some 132, none, .mov (.t 18)⟩,
    ⟨some 133, none, .mov (.t 19)⟩,
    ⟨some 134, none, .mov (.t 5)⟩,
    ⟨some 135, none, .nilck (.t 134)⟩,
    ⟨some 136, none, .fld 1 (.t 135)⟩,
    ⟨some 137, none, .load none (.t 136)⟩,
    ⟨some 138, none, .bin .neq (.t 137) (.k (.int .i64 (0)))⟩,
    ⟨some 139, none, .mov (.t 138)⟩,
    ⟨some 140, (some (139, true)), .load (some 3) (.t 17)⟩,
    ⟨some 141, (some (139, true)), .build [.slice none 0 0, .slice none 0 0, .int .i64 0] []⟩,
    ⟨some 142, (some (139, true)), .call 58 [(.t 140), (.t 141)]⟩,
    ⟨some 143, none, .pick (.t 139) (.t 142) (.k (.bool false))⟩,
    ⟨some 144, none, .mov (.t 143)⟩,
    ⟨some 145, (some (144, false)), .mov (.t 5)⟩,
    ⟨some 146, (some (144, false)), .nilck (.t 145)⟩,
    ⟨some 147, (some (144, false)), .fld 1 (.t 146)⟩,
    ⟨some 148, (some (144, false)), .load none (.t 147)⟩,
    ⟨some 149, (some (144, false)), .bin .eql (.t 148) (.k (.int .i64 (0)))⟩,
    ⟨some 150, (some (144, false)), .mov (.t 149)⟩,
    ⟨some 151, (some (150, true)), .load (some 3) (.t 17)⟩,
    ⟨some 152, (some (150, true)), .load (some 3) (.t 20)⟩,
    ⟨some 153, (some (150, true)), .call 58 [(.t 151), (.t 152)]⟩,
    ⟨some 154, (some (144, false)), .pick (.t 150) (.t 153) (.k (.bool false))⟩,
    ⟨some 155, none, .pick (.t 144) (.k (.bool true)) (.t 154)⟩,
    ⟨some 6, none, .mov (.t 132)⟩,
    ⟨some 7, none, .mov (.t 133)⟩,
    ⟨some 8, none, .mov (.t 155)⟩] none [5, 6, 7, 8]
def r_erasurelaw26CodecReads_20 : ACode := .reg [
    ⟨some 157, none, .bin .eql (.t 53) (.k (.int .i64 (3)))⟩,
    ⟨some 156, none, .mov (.t 157)⟩] none [0, 1, 5, 6, 7, 8, 53, 156]
def r_erasurelaw26CodecReads_21 : ACode := .reg [
    ⟨some 159, none, .mov (.t 0)⟩,
    ⟨some 160, none, .call 48 [(.t 159)]⟩,
    ⟨some 158, none, .mov (.t 160)⟩,
    ⟨some 161, none, .ext 0 (.t 158)⟩,
    ⟨some 162, none, .ext 1 (.t 158)⟩,
    ⟨some 163, none, .ext 2 (.t 158)⟩,
    ⟨some 21, none, .mov (.t 161)⟩,
    ⟨some 22, none, .mov (.t 162)⟩,
    ⟨some 23, none, .mov (.t 163)⟩] none [5, 21, 22, 23]
def r_erasurelaw26CodecReads_22 : ACode := .reg [
    ⟨some 164, none, .mov (.t 5)⟩,
    ⟨some 165, none, .call 81 [(.t 164)]⟩,
    ⟨some 24, none, .mov (.t 165)⟩] none [5, 21, 22, 23, 24]
def r_erasurelaw26CodecReads_23 : ACode := .reg [
    ⟨some 166, none, .mov (.t 22)⟩,
    ⟨some 167, none, .mov (.t 23)⟩,
    ⟨some 168, none, .mov (.t 5)⟩,
    ⟨some 169, none, .nilck (.t 168)⟩,
    ⟨some 170, none, .fld 1 (.t 169)⟩,
    ⟨some 171, none, .load none (.t 170)⟩,
    ⟨some 172, none, .bin .neq (.t 171) (.k (.int .i64 (0)))⟩,
    ⟨some 173, none, .mov (.t 172)⟩,
    ⟨some 174, (some (173, true)), .mov (.t 21)⟩,
    ⟨some 175, (some (173, true)), .len (.t 174)⟩,
    ⟨some 176, (some (173, true)), .bin .eql (.t 175) (.k (.int .i64 (0)))⟩,
    ⟨some 177, none, .pick (.t 173) (.t 176) (.k (.bool false))⟩,
    ⟨some 178, none, .mov (.t 177)⟩,
    ⟨some 179, (some (178, false)), .mov (.t 5)⟩,
    ⟨some 180, (some (178, false)), .nilck (.t 179)⟩,
    ⟨some 181, (some (178, false)), .fld 1 (.t 180)⟩,
    ⟨some 182, (some (178, false)), .load none (.t 181)⟩,
    ⟨some 183, (some (178, false)), .bin .eql (.t 182) (.k (.int .i64 (0)))⟩,
    ⟨some 184, (some (178, false)), .mov (.t 183)⟩,
    ⟨some 185, (some (184, true)), .mov (.t 21)⟩,
    ⟨some 186, (some (184, true)), .mov (.t 24)⟩,
    ⟨some 187, (some (184, true)), .call 50 [(.t 185), (.t 186)]⟩,
    ⟨some 188, (some (178, false)), .pick (.t 184) (.t 187) (.k (.bool false))⟩,
    ⟨some 189, none, .pick (.t 178) (.k (.bool true)) (.t 188)⟩,
    ⟨some 6, none, .mov (.t 166)⟩,
    ⟨some 7, none, .mov (.t 167)⟩,
    ⟨some 8, none, .mov (.t 189)⟩] none [5, 6, 7, 8]
def r_erasurelaw26CodecReads_24 : ACode := .reg [
    ⟨some 191, none, .bin .eql (.t 53) (.k (.int .i64 (4)))⟩,
    ⟨some 190, none, .mov (.t 191)⟩] none [0, 1, 5, 6, 7, 8, 53, 190]
def r_erasurelaw26CodecReads_25 : ACode := .reg [
    ⟨some 193, none, .mov (.t 0)⟩,
    ⟨some 194, none, .call 52 [(.t 193)]⟩,
    ⟨some 192, none, .mov (.t 194)⟩,
    ⟨some 195, none, .ext 0 (.t 192)⟩,
    ⟨some 196, none, .ext 1 (.t 192)⟩,
    ⟨some 197, none, .ext 2 (.t 192)⟩,
    ⟨some 25, none, .alloc 86 [.int .i64 0, .int .i64 0, .int .i64 0, .int .i64 0, .slice none 0 0, .int .i64 0, .int .i64 0, .string ⟨#[]⟩, .int .i64 0, .int .i64 0, .int .i64 0, .string ⟨#[]⟩]⟩,
    ⟨none, none, .store 12 (.t 25) (.t 195)⟩,
    ⟨some 26, none, .mov (.t 196)⟩,
    ⟨some 27, none, .mov (.t 197)⟩] none [5, 25, 26, 27]
def r_erasurelaw26CodecReads_26 : ACode := .reg [
    ⟨some 198, none, .mov (.t 5)⟩,
    ⟨some 199, none, .call 82 [(.t 198)]⟩,
    ⟨some 28, none, .alloc 86 [.int .i64 0, .int .i64 0, .int .i64 0, .int .i64 0, .slice none 0 0, .int .i64 0, .int .i64 0, .string ⟨#[]⟩, .int .i64 0, .int .i64 0, .int .i64 0, .string ⟨#[]⟩]⟩,
    ⟨none, none, .store 12 (.t 28) (.t 199)⟩] none [5, 25, 26, 27, 28]
def r_erasurelaw26CodecReads_27 : ACode := .reg [
    ⟨some 200, none, .mov (.t 26)⟩,
    ⟨some 201, none, .mov (.t 27)⟩,
    ⟨some 202, none, .mov (.t 5)⟩,
    ⟨some 203, none, .nilck (.t 202)⟩,
    ⟨some 204, none, .fld 1 (.t 203)⟩,
    ⟨some 205, none, .load none (.t 204)⟩,
    ⟨some 206, none, .bin .neq (.t 205) (.k (.int .i64 (0)))⟩,
    ⟨some 207, none, .mov (.t 206)⟩,
    ⟨some 208, (some (207, true)), .load (some 12) (.t 25)⟩,
    ⟨some 209, (some (207, true)), .build [.int .i64 0, .int .i64 0, .int .i64 0, .int .i64 0, .slice none 0 0, .int .i64 0, .int .i64 0, .string ⟨#[]⟩, .int .i64 0, .int .i64 0, .int .i64 0, .string ⟨#[]⟩] []⟩,
    ⟨some 210, (some (207, true)), .call 54 [(.t 208), (.t 209)]⟩,
    ⟨some 211, none, .pick (.t 207) (.t 210) (.k (.bool false))⟩,
    ⟨some 212, none, .mov (.t 211)⟩,
    ⟨some 213, (some (212, false)), .mov (.t 5)⟩,
    ⟨some 214, (some (212, false)), .nilck (.t 213)⟩,
    ⟨some 215, (some (212, false)), .fld 1 (.t 214)⟩,
    ⟨some 216, (some (212, false)), .load none (.t 215)⟩,
    ⟨some 217, (some (212, false)), .bin .eql (.t 216) (.k (.int .i64 (0)))⟩,
    ⟨some 218, (some (212, false)), .mov (.t 217)⟩,
    ⟨some 219, (some (218, true)), .load (some 12) (.t 25)⟩,
    ⟨some 220, (some (218, true)), .load (some 12) (.t 28)⟩,
    ⟨some 221, (some (218, true)), .call 54 [(.t 219), (.t 220)]⟩,
    ⟨some 222, (some (212, false)), .pick (.t 218) (.t 221) (.k (.bool false))⟩,
    ⟨some 223, none, .pick (.t 212) (.k (.bool true)) (.t 222)⟩,
    ⟨some 6, none, .mov (.t 200)⟩,
    ⟨some 7, none, .mov (.t 201)⟩,
    ⟨some 8, none, .mov (.t 223)⟩] none [5, 6, 7, 8]
def r_erasurelaw26CodecReads_28 : ACode := .reg [
    ⟨some 225, none, .bin .eql (.t 53) (.k (.int .i64 (5)))⟩,
    ⟨some 224, none, .mov (.t 225)⟩] none [0, 1, 5, 6, 7, 8, 53, 224]
def r_erasurelaw26CodecReads_29 : ACode := .reg [
    ⟨some 226, none, .mov (.t 1)⟩,
    ⟨some 227, none, .bin .and (.t 226) (.k (.int .i64 (8)))⟩,
    ⟨some 228, none, .bin .eql (.t 227) (.k (.int .i64 (0)))⟩] none [0, 5, 228]
def r_erasurelaw26CodecReads_30 : ACode := .reg [
    ⟨some 230, none, .mov (.t 0)⟩,
    ⟨some 231, none, .call 30 [(.t 230)]⟩,
    ⟨some 229, none, .mov (.t 231)⟩,
    ⟨some 232, none, .ext 0 (.t 229)⟩,
    ⟨some 233, none, .ext 1 (.t 229)⟩,
    ⟨some 234, none, .ext 2 (.t 229)⟩,
    ⟨some 29, none, .mov (.t 232)⟩,
    ⟨some 30, none, .mov (.t 233)⟩,
    ⟨some 31, none, .mov (.t 234)⟩] none [5, 29, 30, 31]
def r_erasurelaw26CodecReads_31 : ACode := .reg [
    ⟨some 235, none, .mov (.t 5)⟩,
    ⟨some 236, none, .call 83 [(.t 235)]⟩,
    ⟨some 32, none, .mov (.t 236)⟩] none [5, 29, 30, 31, 32]
def r_erasurelaw26CodecReads_32 : ACode := .reg [
    ⟨some 237, none, .mov (.t 30)⟩,
    ⟨some 238, none, .mov (.t 31)⟩,
    ⟨some 239, none, .mov (.t 5)⟩,
    ⟨some 240, none, .nilck (.t 239)⟩,
    ⟨some 241, none, .fld 1 (.t 240)⟩,
    ⟨some 242, none, .load none (.t 241)⟩,
    ⟨some 243, none, .bin .neq (.t 242) (.k (.int .i64 (0)))⟩,
    ⟨some 244, none, .mov (.t 243)⟩,
    ⟨some 245, (some (244, true)), .mov (.t 29)⟩,
    ⟨some 246, (some (244, true)), .len (.t 245)⟩,
    ⟨some 247, (some (244, true)), .bin .eql (.t 246) (.k (.int .i64 (0)))⟩,
    ⟨some 248, none, .pick (.t 244) (.t 247) (.k (.bool false))⟩,
    ⟨some 249, none, .mov (.t 248)⟩,
    ⟨some 250, (some (249, false)), .mov (.t 5)⟩,
    ⟨some 251, (some (249, false)), .nilck (.t 250)⟩,
    ⟨some 252, (some (249, false)), .fld 1 (.t 251)⟩,
    ⟨some 253, (some (249, false)), .load none (.t 252)⟩,
    ⟨some 254, (some (249, false)), .bin .eql (.t 253) (.k (.int .i64 (0)))⟩,
    ⟨some 255, (some (249, false)), .mov (.t 254)⟩,
    ⟨some 256, (some (255, true)), .mov (.t 29)⟩,
    ⟨some 257, (some (255, true)), .mov (.t 32)⟩,
    ⟨some 258, (some (255, true)), .call 35 [(.t 256), (.t 257)]⟩,
    ⟨some 259, (some (249, false)), .pick (.t 255) (.t 258) (.k (.bool false))⟩,
    ⟨some 260, none, .pick (.t 249) (.k (.bool true)) (.t 259)⟩,
    ⟨some 6, none, .mov (.t 237)⟩,
    ⟨some 7, none, .mov (.t 238)⟩,
    ⟨some 8, none, .mov (.t 260)⟩] none [5, 6, 7, 8]
def r_erasurelaw26CodecReads_33 : ACode := .reg [
    ⟨some 262, none, .mov (.t 0)⟩,
    ⟨some 263, none, .call 32 [(.t 262)]⟩,
    ⟨some 261, none, .mov (.t 263)⟩,
    ⟨some 264, none, .ext 0 (.t 261)⟩,
    ⟨some 265, none, .ext 1 (.t 261)⟩,
    ⟨some 266, none, .ext 2 (.t 261)⟩,
    ⟨some 33, none, .mov (.t 264)⟩,
    ⟨some 34, none, .mov (.t 265)⟩,
    ⟨some 35, none, .mov (.t 266)⟩] none [5, 33, 34, 35]
def r_erasurelaw26CodecReads_34 : ACode := .reg [
    ⟨some 267, none, .mov (.t 5)⟩,
    ⟨some 268, none, .call 84 [(.t 267)]⟩,
    ⟨some 36, none, .mov (.t 268)⟩] none [5, 33, 34, 35, 36]
def r_erasurelaw26CodecReads_35 : ACode := .reg [
    ⟨some 269, none, .mov (.t 34)⟩,
    ⟨some 270, none, .mov (.t 35)⟩,
    ⟨some 271, none, .mov (.t 5)⟩,
    ⟨some 272, none, .nilck (.t 271)⟩,
    ⟨some 273, none, .fld 1 (.t 272)⟩,
    ⟨some 274, none, .load none (.t 273)⟩,
    ⟨some 275, none, .bin .neq (.t 274) (.k (.int .i64 (0)))⟩,
    ⟨some 276, none, .mov (.t 275)⟩,
    ⟨some 277, (some (276, true)), .mov (.t 33)⟩,
    ⟨some 278, (some (276, true)), .len (.t 277)⟩,
    ⟨some 279, (some (276, true)), .bin .eql (.t 278) (.k (.int .i64 (0)))⟩,
    ⟨some 280, none, .pick (.t 276) (.t 279) (.k (.bool false))⟩,
    ⟨some 281, none, .mov (.t 280)⟩,
    ⟨some 282, (some (281, false)), .mov (.t 5)⟩,
    ⟨some 283, (some (281, false)), .nilck (.t 282)⟩,
    ⟨some 284, (some (281, false)), .fld 1 (.t 283)⟩,
    ⟨some 285, (some (281, false)), .load none (.t 284)⟩,
    ⟨some 286, (some (281, false)), .bin .eql (.t 285) (.k (.int .i64 (0)))⟩,
    ⟨some 287, (some (281, false)), .mov (.t 286)⟩,
    ⟨some 288, (some (287, true)), .mov (.t 33)⟩,
    ⟨some 289, (some (287, true)), .mov (.t 36)⟩,
    ⟨some 290, (some (287, true)), .call 36 [(.t 288), (.t 289)]⟩,
    ⟨some 291, (some (281, false)), .pick (.t 287) (.t 290) (.k (.bool false))⟩,
    ⟨some 292, none, .pick (.t 281) (.k (.bool true)) (.t 291)⟩,
    ⟨some 6, none, .mov (.t 269)⟩,
    ⟨some 7, none, .mov (.t 270)⟩,
    ⟨some 8, none, .mov (.t 292)⟩] none [5, 6, 7, 8]
def r_erasurelaw26CodecReads_36 : ACode := .reg [
    ⟨some 294, none, .bin .eql (.t 53) (.k (.int .i64 (6)))⟩,
    ⟨some 293, none, .mov (.t 294)⟩] none [0, 5, 6, 7, 8, 53, 293]
def r_erasurelaw26CodecReads_37 : ACode := .reg [
    ⟨some 296, none, .mov (.t 0)⟩,
    ⟨some 297, none, .call 61 [(.t 296)]⟩,
    ⟨some 295, none, .mov (.t 297)⟩,
    ⟨some 298, none, .ext 0 (.t 295)⟩,
    ⟨some 299, none, .ext 1 (.t 295)⟩,
    ⟨some 300, none, .ext 2 (.t 295)⟩,
    ⟨some 37, none, .alloc 111 [.int .i64 0, .int .i64 0, .int .i64 0, .int .i64 0, .int .i64 0, .string ⟨#[]⟩, .int .i64 0, .int .i64 0, .string ⟨#[]⟩, .int .i64 0, .int .i64 0, .int .i64 0, .string ⟨#[]⟩, .int .i64 0, .int .i64 0, .string ⟨#[]⟩, .string ⟨#[]⟩, .int .i64 0, .int .i64 0, .string ⟨#[]⟩, .int .i64 0, .bool false, .int .i64 0, .int .i64 0, .string ⟨#[]⟩, .int .i64 0, .int .i64 0, .string ⟨#[]⟩, .int .i64 0, .int .i64 0, .int .i64 0, .slice none 0 0, .slice none 0 0, .int .u8 0, .int .u8 0, .int .u8 0, .int .u8 0, .int .u8 0, .int .u8 0, .int .u8 0, .int .u8 0, .int .u8 0, .int .u8 0, .int .u8 0, .int .u8 0, .int .u8 0, .int .u8 0, .int .u8 0, .int .u8 0, .int .u8 0, .int .u8 0, .int .u8 0, .int .u8 0, .int .u8 0, .int .u8 0, .int .u8 0, .int .u8 0, .int .u8 0, .int .u8 0, .int .u8 0, .int .u8 0, .int .u8 0, .int .u8 0, .int .u8 0, .int .u8 0]⟩,
    ⟨none, none, .store 65 (.t 37) (.t 298)⟩,
    ⟨some 38, none, .mov (.t 299)⟩,
    ⟨some 39, none, .mov (.t 300)⟩] none [5, 37, 38, 39]
def r_erasurelaw26CodecReads_38 : ACode := .reg [
    ⟨some 301, none, .mov (.t 5)⟩,
    ⟨some 302, none, .call 85 [(.t 301)]⟩,
    ⟨some 40, none, .alloc 111 [.int .i64 0, .int .i64 0, .int .i64 0, .int .i64 0, .int .i64 0, .string ⟨#[]⟩, .int .i64 0, .int .i64 0, .string ⟨#[]⟩, .int .i64 0, .int .i64 0, .int .i64 0, .string ⟨#[]⟩, .int .i64 0, .int .i64 0, .string ⟨#[]⟩, .string ⟨#[]⟩, .int .i64 0, .int .i64 0, .string ⟨#[]⟩, .int .i64 0, .bool false, .int .i64 0, .int .i64 0, .string ⟨#[]⟩, .int .i64 0, .int .i64 0, .string ⟨#[]⟩, .int .i64 0, .int .i64 0, .int .i64 0, .slice none 0 0, .slice none 0 0, .int .u8 0, .int .u8 0, .int .u8 0, .int .u8 0, .int .u8 0, .int .u8 0, .int .u8 0, .int .u8 0, .int .u8 0, .int .u8 0, .int .u8 0, .int .u8 0, .int .u8 0, .int .u8 0, .int .u8 0, .int .u8 0, .int .u8 0, .int .u8 0, .int .u8 0, .int .u8 0, .int .u8 0, .int .u8 0, .int .u8 0, .int .u8 0, .int .u8 0, .int .u8 0, .int .u8 0, .int .u8 0, .int .u8 0, .int .u8 0, .int .u8 0, .int .u8 0]⟩,
    ⟨none, none, .store 65 (.t 40) (.t 302)⟩] none [5, 37, 38, 39, 40]
def r_erasurelaw26CodecReads_39 : ACode := .reg [
    ⟨some 303, none, .mov (.t 38)⟩,
    ⟨some 304, none, .mov (.t 39)⟩,
    ⟨some 305, none, .mov (.t 5)⟩,
    ⟨some 306, none, .nilck (.t 305)⟩,
    ⟨some 307, none, .fld 1 (.t 306)⟩,
    ⟨some 308, none, .load none (.t 307)⟩,
    ⟨some 309, none, .bin .neq (.t 308) (.k (.int .i64 (0)))⟩,
    ⟨some 310, none, .mov (.t 309)⟩,
    ⟨some 311, (some (310, true)), .load (some 65) (.t 37)⟩,
    ⟨some 312, (some (310, true)), .build [.int .i64 0, .int .i64 0, .int .i64 0, .int .i64 0, .int .i64 0, .string ⟨#[]⟩, .int .i64 0, .int .i64 0, .string ⟨#[]⟩, .int .i64 0, .int .i64 0, .int .i64 0, .string ⟨#[]⟩, .int .i64 0, .int .i64 0, .string ⟨#[]⟩, .string ⟨#[]⟩, .int .i64 0, .int .i64 0, .string ⟨#[]⟩, .int .i64 0, .bool false, .int .i64 0, .int .i64 0, .string ⟨#[]⟩, .int .i64 0, .int .i64 0, .string ⟨#[]⟩, .int .i64 0, .int .i64 0, .int .i64 0, .slice none 0 0, .slice none 0 0, .int .u8 0, .int .u8 0, .int .u8 0, .int .u8 0, .int .u8 0, .int .u8 0, .int .u8 0, .int .u8 0, .int .u8 0, .int .u8 0, .int .u8 0, .int .u8 0, .int .u8 0, .int .u8 0, .int .u8 0, .int .u8 0, .int .u8 0, .int .u8 0, .int .u8 0, .int .u8 0, .int .u8 0, .int .u8 0, .int .u8 0, .int .u8 0, .int .u8 0, .int .u8 0, .int .u8 0, .int .u8 0, .int .u8 0, .int .u8 0, .int .u8 0, .int .u8 0] []⟩,
    ⟨some 313, (some (310, true)), .call 62 [(.t 311), (.t 312)]⟩,
    ⟨some 314, none, .pick (.t 310) (.t 313) (.k (.bool false))⟩,
    ⟨some 315, none, .mov (.t 314)⟩,
    ⟨some 316, (some (315, false)), .mov (.t 5)⟩,
    ⟨some 317, (some (315, false)), .nilck (.t 316)⟩,
    ⟨some 318, (some (315, false)), .fld 1 (.t 317)⟩,
    ⟨some 319, (some (315, false)), .load none (.t 318)⟩,
    ⟨some 320, (some (315, false)), .bin .eql (.t 319) (.k (.int .i64 (0)))⟩,
    ⟨some 321, (some (315, false)), .mov (.t 320)⟩,
    ⟨some 322, (some (321, true)), .load (some 65) (.t 37)⟩,
    ⟨some 323, (some (321, true)), .load (some 65) (.t 40)⟩,
    ⟨some 324, (some (321, true)), .call 62 [(.t 322), (.t 323)]⟩,
    ⟨some 325, (some (315, false)), .pick (.t 321) (.t 324) (.k (.bool false))⟩,
    ⟨some 326, none, .pick (.t 315) (.k (.bool true)) (.t 325)⟩,
    ⟨some 6, none, .mov (.t 303)⟩,
    ⟨some 7, none, .mov (.t 304)⟩,
    ⟨some 8, none, .mov (.t 326)⟩] none [5, 6, 7, 8]
def r_erasurelaw26CodecReads_40 : ACode := .reg [
    ⟨some 328, none, .bin .eql (.t 53) (.k (.int .i64 (7)))⟩,
    ⟨some 327, none, .mov (.t 328)⟩] none [0, 5, 6, 7, 8, 327]
def r_erasurelaw26CodecReads_41 : ACode := .reg [
    ⟨some 330, none, .mov (.t 0)⟩,
    ⟨some 331, none, .call 72 [(.t 330)]⟩,
    ⟨some 329, none, .mov (.t 331)⟩,
    ⟨some 332, none, .ext 0 (.t 329)⟩,
    ⟨some 333, none, .ext 1 (.t 329)⟩,
    ⟨some 334, none, .ext 2 (.t 329)⟩,
    ⟨some 41, none, .alloc 109 [.int .i64 0, .int .i64 0, .string ⟨#[]⟩, .int .i64 0, .int .i64 0, .string ⟨#[]⟩, .int .i64 0, .int .i64 0, .int .i64 0]⟩,
    ⟨none, none, .store 9 (.t 41) (.t 332)⟩,
    ⟨some 42, none, .mov (.t 333)⟩,
    ⟨some 43, none, .mov (.t 334)⟩] none [5, 41, 42, 43]
def r_erasurelaw26CodecReads_42 : ACode := .reg [
    ⟨some 335, none, .mov (.t 5)⟩,
    ⟨some 336, none, .call 86 [(.t 335)]⟩,
    ⟨some 44, none, .alloc 109 [.int .i64 0, .int .i64 0, .string ⟨#[]⟩, .int .i64 0, .int .i64 0, .string ⟨#[]⟩, .int .i64 0, .int .i64 0, .int .i64 0]⟩,
    ⟨none, none, .store 9 (.t 44) (.t 336)⟩] none [5, 41, 42, 43, 44]
def r_erasurelaw26CodecReads_43 : ACode := .reg [
    ⟨some 337, none, .mov (.t 42)⟩,
    ⟨some 338, none, .mov (.t 43)⟩,
    ⟨some 339, none, .mov (.t 5)⟩,
    ⟨some 340, none, .nilck (.t 339)⟩,
    ⟨some 341, none, .fld 1 (.t 340)⟩,
    ⟨some 342, none, .load none (.t 341)⟩,
    ⟨some 343, none, .bin .neq (.t 342) (.k (.int .i64 (0)))⟩,
    ⟨some 344, none, .mov (.t 343)⟩,
    ⟨some 345, (some (344, true)), .load (some 9) (.t 41)⟩,
    ⟨some 346, (some (344, true)), .build [.int .i64 0, .int .i64 0, .string ⟨#[]⟩, .int .i64 0, .int .i64 0, .string ⟨#[]⟩, .int .i64 0, .int .i64 0, .int .i64 0] []⟩,
    ⟨some 347, (some (344, true)), .eqa false [(2, .ti .i64), (1, .ts), (2, .ti .i64), (1, .ts), (3, .ti .i64)] (.t 345) (.t 346)⟩,
    ⟨some 348, none, .pick (.t 344) (.t 347) (.k (.bool false))⟩,
    ⟨some 349, none, .mov (.t 348)⟩,
    ⟨some 350, (some (349, false)), .mov (.t 5)⟩,
    ⟨some 351, (some (349, false)), .nilck (.t 350)⟩,
    ⟨some 352, (some (349, false)), .fld 1 (.t 351)⟩,
    ⟨some 353, (some (349, false)), .load none (.t 352)⟩,
    ⟨some 354, (some (349, false)), .bin .eql (.t 353) (.k (.int .i64 (0)))⟩,
    ⟨some 355, (some (349, false)), .mov (.t 354)⟩,
    ⟨some 356, (some (355, true)), .load (some 9) (.t 41)⟩,
    ⟨some 357, (some (355, true)), .load (some 9) (.t 44)⟩,
    ⟨some 358, (some (355, true)), .eqa false [(2, .ti .i64), (1, .ts), (2, .ti .i64), (1, .ts), (3, .ti .i64)] (.t 356) (.t 357)⟩,
    ⟨some 359, (some (349, false)), .pick (.t 355) (.t 358) (.k (.bool false))⟩,
    ⟨some 360, none, .pick (.t 349) (.k (.bool true)) (.t 359)⟩,
    ⟨some 6, none, .mov (.t 337)⟩,
    ⟨some 7, none, .mov (.t 338)⟩,
    ⟨some 8, none, .mov (.t 360)⟩] (some [0, 0, 0, 4, 12, 28, 60, 124, 252, 252, 1020, 2044, 4092, 8188, 16380, 32764, 65532, 131068, 262140, 524284, 524284, 2097148, 4194300, 8388604, 524285, 17301503, 67108863]) [5, 6, 7, 8]
def r_erasurelaw26CodecReads_44 : ACode := .reg [
    ⟨some 361, none, .mov (.t 5)⟩,
    ⟨some 362, none, .nilck (.t 361)⟩,
    ⟨some 363, none, .fld 1 (.t 362)⟩,
    ⟨some 364, none, .load none (.t 363)⟩,
    ⟨some 365, none, .bin .neq (.t 364) (.k (.int .i64 (0)))⟩] none [5, 6, 7, 8, 365]
def r_erasurelaw26CodecReads_45 : ACode := .reg [
    ⟨some 366, none, .mov (.t 8)⟩,
    ⟨some 367, none, .mov (.t 366)⟩,
    ⟨some 368, (some (367, true)), .mov (.t 7)⟩,
    ⟨some 369, (some (367, true)), .mov (.t 5)⟩,
    ⟨some 370, (some (367, true)), .nilck (.t 369)⟩,
    ⟨some 371, (some (367, true)), .fld 1 (.t 370)⟩,
    ⟨some 372, (some (367, true)), .load none (.t 371)⟩,
    ⟨some 373, (some (367, true)), .bin .eql (.t 368) (.t 372)⟩,
    ⟨some 374, none, .pick (.t 367) (.t 373) (.k (.bool false))⟩,
    ⟨some 375, none, .mov (.t 374)⟩,
    ⟨some 376, (some (375, true)), .mov (.t 6)⟩,
    ⟨some 377, (some (375, true)), .len (.t 376)⟩,
    ⟨some 378, (some (375, true)), .bin .eql (.t 377) (.k (.int .i64 (0)))⟩,
    ⟨some 379, none, .pick (.t 375) (.t 378) (.k (.bool false))⟩,
    ⟨some 380, none, .mov (.t 379)⟩,
    ⟨some 381, (some (380, true)), .call 18 []⟩,
    ⟨some 382, none, .pick (.t 380) (.t 381) (.k (.bool false))⟩,
    ⟨some 4, none, .mov (.t 382)⟩] none [4]
def r_erasurelaw26CodecReads_46 : ACode := .reg [
    ⟨some 383, none, .mov (.t 8)⟩,
    ⟨some 384, none, .mov (.t 383)⟩,
    ⟨some 385, (some (384, true)), .mov (.t 7)⟩,
    ⟨some 386, (some (384, true)), .bin .eql (.t 385) (.k (.int .i64 (0)))⟩,
    ⟨some 387, none, .pick (.t 384) (.t 386) (.k (.bool false))⟩,
    ⟨some 388, none, .mov (.t 387)⟩,
    ⟨some 389, (some (388, true)), .mov (.t 6)⟩,
    ⟨some 390, (some (388, true)), .tostr (.t 389)⟩,
    ⟨some 391, (some (388, true)), .mov (.t 5)⟩,
    ⟨some 392, (some (388, true)), .nilck (.t 391)⟩,
    ⟨some 393, (some (388, true)), .fld 0 (.t 392)⟩,
    ⟨some 394, (some (388, true)), .load none (.t 393)⟩,
    ⟨some 395, (some (388, true)), .tostr (.t 394)⟩,
    ⟨some 396, (some (388, true)), .bin .eql (.t 390) (.t 395)⟩,
    ⟨some 397, none, .pick (.t 388) (.t 396) (.k (.bool false))⟩,
    ⟨some 398, none, .mov (.t 397)⟩,
    ⟨some 399, (some (398, true)), .call 18 []⟩,
    ⟨some 400, none, .pick (.t 398) (.t 399) (.k (.bool false))⟩,
    ⟨some 4, none, .mov (.t 400)⟩] (some [0, 1, 3, 7, 15, 31, 63, 127, 63, 319, 831, 1855, 3903, 8191, 16383, 32767, 65535, 131071, 262143]) [4]
def c_erasurelaw26CodecReads : ACode :=
  (.seq r_erasurelaw26CodecReads_0
  (.seq (.seq r_erasurelaw26CodecReads_1
    (.cond (.t 47)
     (.seq r_erasurelaw26CodecReads_2
      .ret)
     .skip))
   (.seq r_erasurelaw26CodecReads_3
    (.seq r_erasurelaw26CodecReads_4
     (.seq r_erasurelaw26CodecReads_5
      (.seq r_erasurelaw26CodecReads_6
       (.seq (.seq r_erasurelaw26CodecReads_7
         (.block 0 (.seq r_erasurelaw26CodecReads_8
           (.cond (.t 54)
            (.seq r_erasurelaw26CodecReads_9
             (.seq r_erasurelaw26CodecReads_10
              r_erasurelaw26CodecReads_11))
            (.seq r_erasurelaw26CodecReads_12
             (.cond (.t 88)
              (.seq r_erasurelaw26CodecReads_13
               (.seq r_erasurelaw26CodecReads_14
                r_erasurelaw26CodecReads_15))
              (.seq r_erasurelaw26CodecReads_16
               (.cond (.t 122)
                (.seq r_erasurelaw26CodecReads_17
                 (.seq r_erasurelaw26CodecReads_18
                  r_erasurelaw26CodecReads_19))
                (.seq r_erasurelaw26CodecReads_20
                 (.cond (.t 156)
                  (.seq r_erasurelaw26CodecReads_21
                   (.seq r_erasurelaw26CodecReads_22
                    r_erasurelaw26CodecReads_23))
                  (.seq r_erasurelaw26CodecReads_24
                   (.cond (.t 190)
                    (.seq r_erasurelaw26CodecReads_25
                     (.seq r_erasurelaw26CodecReads_26
                      r_erasurelaw26CodecReads_27))
                    (.seq r_erasurelaw26CodecReads_28
                     (.cond (.t 224)
                      (.seq r_erasurelaw26CodecReads_29
                       (.cond (.t 228)
                        (.seq r_erasurelaw26CodecReads_30
                         (.seq r_erasurelaw26CodecReads_31
                          r_erasurelaw26CodecReads_32))
                        (.seq r_erasurelaw26CodecReads_33
                         (.seq r_erasurelaw26CodecReads_34
                          r_erasurelaw26CodecReads_35))))
                      (.seq r_erasurelaw26CodecReads_36
                       (.cond (.t 293)
                        (.seq r_erasurelaw26CodecReads_37
                         (.seq r_erasurelaw26CodecReads_38
                          r_erasurelaw26CodecReads_39))
                        (.seq r_erasurelaw26CodecReads_40
                         (.cond (.t 327)
                          (.seq r_erasurelaw26CodecReads_41
                           (.seq r_erasurelaw26CodecReads_42
                            r_erasurelaw26CodecReads_43))
                          .skip))))))))))))))))))
        (.seq (.seq r_erasurelaw26CodecReads_44
          (.cond (.t 365)
           (.seq r_erasurelaw26CodecReads_45
            .ret)
           .skip))
         (.seq r_erasurelaw26CodecReads_46
          .ret)))))))))
theorem fits_erasurelaw26CodecReads : Fits Try.prog 17 401 c_erasurelaw26CodecReads [.t 4] := ⟨⟨Try.f17, _, _, Try.func17, rfl, rfl, rfl, by decide, by kernel_rfl, by kernel_rfl⟩, Try.checked.mixed⟩
/- erasure/erasurelaw26.awake -/
def r_erasurelaw26awake_0 : ACode := .reg [
    ⟨some 0, none, .mov (.k (.bool false))⟩] none []
def r_erasurelaw26awake_1 : ACode := .reg [
    ⟨some 11, none, .lit 5 1 2 [.int .u8 0] [(0, (.k (.int .u8 (128)))), (1, (.k (.int .u8 (0))))] false⟩,
    ⟨some 12, none, .call 20 [(.t 11)]⟩,
    ⟨some 10, none, .mov (.t 12)⟩,
    ⟨some 13, none, .ext 0 (.t 10)⟩,
    ⟨some 14, none, .ext 1 (.t 10)⟩,
    ⟨some 15, none, .ext 2 (.t 10)⟩,
    ⟨some 1, none, .mov (.t 13)⟩,
    ⟨some 2, none, .mov (.t 14)⟩,
    ⟨some 3, none, .mov (.t 15)⟩] none [3]
def r_erasurelaw26awake_2 : ACode := .reg [
    ⟨some 17, none, .lit 5 1 1 [.int .u8 0] [(0, (.k (.int .u8 (128))))] false⟩,
    ⟨some 18, none, .call 20 [(.t 17)]⟩,
    ⟨some 16, none, .mov (.t 18)⟩,
    ⟨some 19, none, .ext 0 (.t 16)⟩,
    ⟨some 20, none, .ext 1 (.t 16)⟩,
    ⟨some 21, none, .ext 2 (.t 16)⟩,
    ⟨some 4, none, .mov (.t 19)⟩,
    ⟨some 5, none, .mov (.t 20)⟩,
    ⟨some 6, none, .mov (.t 21)⟩] none [3, 6]
def r_erasurelaw26awake_3 : ACode := .reg [
    ⟨some 23, none, .lit 5 1 3 [.int .u8 0] [(0, (.k (.int .u8 (128)))), (1, (.k (.int .u8 (1)))), (2, (.k (.int .u8 (7))))] false⟩,
    ⟨some 24, none, .call 20 [(.t 23)]⟩,
    ⟨some 22, none, .mov (.t 24)⟩,
    ⟨some 25, none, .ext 0 (.t 22)⟩,
    ⟨some 26, none, .ext 1 (.t 22)⟩,
    ⟨some 27, none, .ext 2 (.t 22)⟩,
    ⟨some 7, none, .mov (.t 25)⟩,
    ⟨some 8, none, .mov (.t 26)⟩,
    ⟨some 9, none, .mov (.t 27)⟩] none [3, 6, 7, 8, 9]
def r_erasurelaw26awake_4 : ACode := .reg [
    ⟨some 28, none, .call 19 [(.k (.slice none 0 0)), (.k (.int .i64 (-1)))]⟩,
    ⟨some 29, none, .tostr (.t 28)⟩,
    ⟨some 30, none, .bin .eql (.t 29) (.k (.string { data := #[1] }))⟩,
    ⟨some 31, none, .mov (.t 30)⟩,
    ⟨some 32, (some (31, true)), .mov (.t 3)⟩,
    ⟨some 33, (some (31, true)), .bin .eql (.t 32) (.k (.int .i64 (1)))⟩,
    ⟨some 34, none, .pick (.t 31) (.t 33) (.k (.bool false))⟩,
    ⟨some 35, none, .mov (.t 34)⟩,
    ⟨some 36, (some (35, true)), .mov (.t 6)⟩,
    ⟨some 37, (some (35, true)), .bin .eql (.t 36) (.k (.int .i64 (100)))⟩,
    ⟨some 38, none, .pick (.t 35) (.t 37) (.k (.bool false))⟩,
    ⟨some 39, none, .mov (.t 38)⟩,
    ⟨some 40, (some (39, true)), .mov (.t 9)⟩,
    ⟨some 41, (some (39, true)), .bin .eql (.t 40) (.k (.int .i64 (0)))⟩,
    ⟨some 42, none, .pick (.t 39) (.t 41) (.k (.bool false))⟩,
    ⟨some 43, none, .mov (.t 42)⟩,
    ⟨some 44, (some (43, true)), .mov (.t 7)⟩,
    ⟨some 45, (some (43, true)), .bin .eql (.t 44) (.k (.int .i64 (64)))⟩,
    ⟨some 46, none, .pick (.t 43) (.t 45) (.k (.bool false))⟩,
    ⟨some 47, none, .mov (.t 46)⟩,
    ⟨some 48, (some (47, true)), .mov (.t 8)⟩,
    ⟨some 49, (some (47, true)), .len (.t 48)⟩,
    ⟨some 50, (some (47, true)), .bin .eql (.t 49) (.k (.int .i64 (1)))⟩,
    ⟨some 51, none, .pick (.t 47) (.t 50) (.k (.bool false))⟩,
    ⟨some 0, none, .mov (.t 51)⟩] none [0]
def c_erasurelaw26awake : ACode :=
  (.seq r_erasurelaw26awake_0
  (.seq r_erasurelaw26awake_1
   (.seq r_erasurelaw26awake_2
    (.seq r_erasurelaw26awake_3
     (.seq r_erasurelaw26awake_4
      .ret)))))
theorem fits_erasurelaw26awake : Fits Try.prog 18 52 c_erasurelaw26awake [.t 0] := ⟨⟨Try.f18, _, _, Try.func18, rfl, rfl, rfl, by decide, by kernel_rfl, by kernel_rfl⟩, Try.checked.mixed⟩
/- erasure/erasurelaw26.join -/
def r_erasurelaw26join_0 : ACode := .reg [
    ⟨some 4, none, .mov (.k (.slice none 0 0))⟩] none [0, 1]
def r_erasurelaw26join_1 : ACode := .reg [
    ⟨some 5, none, .lit 5 1 0 [.int .u8 0] [] true⟩,
    ⟨some 6, none, .mov (.t 0)⟩,
    ⟨some 7, none, .app 5 1 1 (.t 5) (.t 6)⟩,
    ⟨some 8, none, .mov (.t 1)⟩,
    ⟨some 9, none, .app 5 1 1 (.t 7) (.t 8)⟩,
    ⟨some 4, none, .mov (.t 9)⟩] none [4]
def c_erasurelaw26join : ACode :=
  (.seq r_erasurelaw26join_0
  (.seq r_erasurelaw26join_1
   .ret))
theorem fits_erasurelaw26join : Fits Try.prog 21 10 c_erasurelaw26join [.t 4] := ⟨⟨Try.f21, _, _, Try.func21, rfl, rfl, rfl, by decide, by kernel_rfl, by kernel_rfl⟩, Try.checked.mixed⟩
/- erasure/erasurelaw26.short -/
def r_erasurelaw26short_0 : ACode := .reg [
    ⟨some 2, none, .mov (.k (.bool false))⟩] none [0]
def r_erasurelaw26short_1 : ACode := .reg [
    ⟨some 3, none, .mov (.t 0)⟩,
    ⟨some 4, none, .len (.t 3)⟩,
    ⟨some 5, none, .bin .leq (.t 4) (.k (.int .i64 (16)))⟩,
    ⟨some 2, none, .mov (.t 5)⟩] none [2]
def c_erasurelaw26short : ACode :=
  (.seq r_erasurelaw26short_0
  (.seq r_erasurelaw26short_1
   .ret))
theorem fits_erasurelaw26short : Fits Try.prog 37 6 c_erasurelaw26short [.t 2] := ⟨⟨Try.f37, _, _, Try.func37, rfl, rfl, rfl, by decide, by kernel_rfl, by kernel_rfl⟩, Try.checked.mixed⟩
/- erasure/erasurelaw26.fits -/
def r_erasurelaw26fits_0 : ACode := .reg [
    ⟨some 1, none, .box 111 (.t 0)⟩,
    ⟨some 2, none, .mov (.k (.bool false))⟩] none [1]
def r_erasurelaw26fits_1 : ACode := .reg [
    ⟨some 3, none, .fld 31 (.t 1)⟩,
    ⟨some 4, none, .load none (.t 3)⟩,
    ⟨some 5, none, .len (.t 4)⟩,
    ⟨some 6, none, .bin .leq (.t 5) (.k (.int .i64 (40)))⟩,
    ⟨some 7, none, .mov (.t 6)⟩,
    ⟨some 8, (some (7, true)), .fld 32 (.t 1)⟩,
    ⟨some 9, (some (7, true)), .load none (.t 8)⟩,
    ⟨some 10, (some (7, true)), .len (.t 9)⟩,
    ⟨some 11, (some (7, true)), .bin .leq (.t 10) (.k (.int .i64 (40)))⟩,
    ⟨some 12, none, .pick (.t 7) (.t 11) (.k (.bool false))⟩,
    ⟨some 13, none, .mov (.t 12)⟩,
    ⟨some 14, (some (13, true)), .fld 4 (.t 1)⟩,
    ⟨some 15, (some (13, true)), .fld 1 (.t 14)⟩,
    ⟨some 16, (some (13, true)), .load (some 4) (.t 15)⟩,
    ⟨some 17, (some (13, true)), .call 63 [(.t 16)]⟩,
    ⟨some 18, none, .pick (.t 13) (.t 17) (.k (.bool false))⟩,
    ⟨some 19, none, .mov (.t 18)⟩,
    ⟨some 20, (some (19, true)), .fld 12 (.t 1)⟩,
    ⟨some 21, (some (19, true)), .fld 0 (.t 20)⟩,
    ⟨some 22, (some (19, true)), .load (some 4) (.t 21)⟩,
    ⟨some 23, (some (19, true)), .call 63 [(.t 22)]⟩,
    ⟨some 24, none, .pick (.t 19) (.t 23) (.k (.bool false))⟩,
    ⟨some 25, none, .mov (.t 24)⟩,
    ⟨some 26, (some (25, true)), .fld 12 (.t 1)⟩,
    ⟨some 27, (some (25, true)), .fld 4 (.t 26)⟩,
    ⟨some 28, (some (25, true)), .load (some 4) (.t 27)⟩,
    ⟨some 29, (some (25, true)), .call 63 [(.t 28)]⟩,
    ⟨some 30, none, .pick (.t 25) (.t 29) (.k (.bool false))⟩,
    ⟨some 31, none, .mov (.t 30)⟩,
    ⟨some 32, (some (31, true)), .fld 22 (.t 1)⟩,
    ⟨some 33, (some (31, true)), .fld 2 (.t 32)⟩,
    ⟨some 34, (some (31, true)), .load (some 4) (.t 33)⟩,
    ⟨some 35, (some (31, true)), .call 63 [(.t 34)]⟩,
    ⟨some 36, none, .pick (.t 31) (.t 35) (.k (.bool false))⟩,
    ⟨some 2, none, .mov (.t 36)⟩] none [2]
def c_erasurelaw26fits : ACode :=
  (.seq r_erasurelaw26fits_0
  (.seq r_erasurelaw26fits_1
   .ret))
theorem fits_erasurelaw26fits : Fits Try.prog 59 37 c_erasurelaw26fits [.t 2] := ⟨⟨Try.f59, _, _, Try.func59, rfl, rfl, rfl, by decide, by kernel_rfl, by kernel_rfl⟩, Try.checked.mixed⟩
/- erasure/erasurelaw26.named -/
def r_erasurelaw26named_0 : ACode := .reg [
    ⟨some 1, none, .box 103 (.t 0)⟩,
    ⟨some 2, none, .mov (.k (.bool false))⟩] none [1]
def r_erasurelaw26named_1 : ACode := .reg [
    ⟨some 3, none, .fld 0 (.t 1)⟩,
    ⟨some 4, none, .load none (.t 3)⟩,
    ⟨some 5, none, .lens (.t 4)⟩,
    ⟨some 6, none, .bin .leq (.t 5) (.k (.int .i64 (16)))⟩,
    ⟨some 2, none, .mov (.t 6)⟩] none [2]
def c_erasurelaw26named : ACode :=
  (.seq r_erasurelaw26named_0
  (.seq r_erasurelaw26named_1
   .ret))
theorem fits_erasurelaw26named : Fits Try.prog 63 7 c_erasurelaw26named [.t 2] := ⟨⟨Try.f63, _, _, Try.func63, rfl, rfl, rfl, by decide, by kernel_rfl, by kernel_rfl⟩, Try.checked.mixed⟩
/- erasure/erasurelaw26.clean -/
def r_erasurelaw26clean_0 : ACode := .reg [
    ⟨some 1, none, .box 103 (.t 0)⟩,
    ⟨some 2, none, .alloc 103 [.string ⟨#[]⟩, .int .i64 0, .int .i64 0, .string ⟨#[]⟩]⟩] none [1, 2]
def r_erasurelaw26clean_1 : ACode := .reg [
    ⟨some 3, none, .fld 0 (.t 1)⟩,
    ⟨some 4, none, .load none (.t 3)⟩,
    ⟨some 5, none, .fld 1 (.t 1)⟩,
    ⟨some 6, none, .load (some 3) (.t 5)⟩,
    ⟨some 7, none, .call 43 [(.t 6)]⟩,
    ⟨some 8, none, .build [.string ⟨#[]⟩, .int .i64 0, .int .i64 0, .string ⟨#[]⟩] [(0, 1, (.t 4)), (1, 3, (.t 7))]⟩,
    ⟨none, none, .store 4 (.t 2) (.t 8)⟩] (some [0, 1, 0, 4, 12, 31, 63]) [2]
def c_erasurelaw26clean : ACode :=
  (.seq r_erasurelaw26clean_0
  (.seq r_erasurelaw26clean_1
   .ret))
theorem fits_erasurelaw26clean : Fits Try.prog 75 9 c_erasurelaw26clean [.c 2 (some 4)] := ⟨⟨Try.f75, _, _, Try.func75, rfl, rfl, rfl, by decide, by kernel_rfl, by kernel_rfl⟩, Try.checked.mixed⟩
/- erasure/erasurelaw26.normal -/
def r_erasurelaw26normal_0 : ACode := .reg [
    ⟨some 1, none, .box 111 (.t 0)⟩,
    ⟨some 2, none, .alloc 111 [.int .i64 0, .int .i64 0, .int .i64 0, .int .i64 0, .int .i64 0, .string ⟨#[]⟩, .int .i64 0, .int .i64 0, .string ⟨#[]⟩, .int .i64 0, .int .i64 0, .int .i64 0, .string ⟨#[]⟩, .int .i64 0, .int .i64 0, .string ⟨#[]⟩, .string ⟨#[]⟩, .int .i64 0, .int .i64 0, .string ⟨#[]⟩, .int .i64 0, .bool false, .int .i64 0, .int .i64 0, .string ⟨#[]⟩, .int .i64 0, .int .i64 0, .string ⟨#[]⟩, .int .i64 0, .int .i64 0, .int .i64 0, .slice none 0 0, .slice none 0 0, .int .u8 0, .int .u8 0, .int .u8 0, .int .u8 0, .int .u8 0, .int .u8 0, .int .u8 0, .int .u8 0, .int .u8 0, .int .u8 0, .int .u8 0, .int .u8 0, .int .u8 0, .int .u8 0, .int .u8 0, .int .u8 0, .int .u8 0, .int .u8 0, .int .u8 0, .int .u8 0, .int .u8 0, .int .u8 0, .int .u8 0, .int .u8 0, .int .u8 0, .int .u8 0, .int .u8 0, .int .u8 0, .int .u8 0, .int .u8 0, .int .u8 0, .int .u8 0]⟩] none [1, 2]
def r_erasurelaw26normal_1 : ACode := .reg [
    ⟨some 4, none, .fld 0 (.t 1)⟩,
    ⟨some 5, none, .load none (.t 4)⟩,
    ⟨some 6, none, .fld 1 (.t 1)⟩,
    ⟨some 7, none, .load none (.t 6)⟩,
    ⟨some 8, none, .fld 2 (.t 1)⟩,
    ⟨some 9, none, .load none (.t 8)⟩,
    ⟨some 10, none, .fld 3 (.t 1)⟩,
    ⟨some 11, none, .load none (.t 10)⟩,
    ⟨some 12, none, .build [.int .i64 0, .int .i64 0, .int .i64 0, .int .i64 0, .int .i64 0, .string ⟨#[]⟩, .int .i64 0, .int .i64 0, .string ⟨#[]⟩, .int .i64 0, .int .i64 0, .int .i64 0, .string ⟨#[]⟩, .int .i64 0, .int .i64 0, .string ⟨#[]⟩, .string ⟨#[]⟩, .int .i64 0, .int .i64 0, .string ⟨#[]⟩, .int .i64 0, .bool false, .int .i64 0, .int .i64 0, .string ⟨#[]⟩, .int .i64 0, .int .i64 0, .string ⟨#[]⟩, .int .i64 0, .int .i64 0, .int .i64 0, .slice none 0 0, .slice none 0 0, .int .u8 0, .int .u8 0, .int .u8 0, .int .u8 0, .int .u8 0, .int .u8 0, .int .u8 0, .int .u8 0, .int .u8 0, .int .u8 0, .int .u8 0, .int .u8 0, .int .u8 0, .int .u8 0, .int .u8 0, .int .u8 0, .int .u8 0, .int .u8 0, .int .u8 0, .int .u8 0, .int .u8 0, .int .u8 0, .int .u8 0, .int .u8 0, .int .u8 0, .int .u8 0, .int .u8 0, .int .u8 0, .int .u8 0, .int .u8 0, .int .u8 0, .int .u8 0] [(0, 1, (.t 5)), (1, 1, (.t 7)), (2, 1, (.t 9)), (3, 1, (.t 11))]⟩,
    ⟨some 3, none, .alloc 111 [.int .i64 0, .int .i64 0, .int .i64 0, .int .i64 0, .int .i64 0, .string ⟨#[]⟩, .int .i64 0, .int .i64 0, .string ⟨#[]⟩, .int .i64 0, .int .i64 0, .int .i64 0, .string ⟨#[]⟩, .int .i64 0, .int .i64 0, .string ⟨#[]⟩, .string ⟨#[]⟩, .int .i64 0, .int .i64 0, .string ⟨#[]⟩, .int .i64 0, .bool false, .int .i64 0, .int .i64 0, .string ⟨#[]⟩, .int .i64 0, .int .i64 0, .string ⟨#[]⟩, .int .i64 0, .int .i64 0, .int .i64 0, .slice none 0 0, .slice none 0 0, .int .u8 0, .int .u8 0, .int .u8 0, .int .u8 0, .int .u8 0, .int .u8 0, .int .u8 0, .int .u8 0, .int .u8 0, .int .u8 0, .int .u8 0, .int .u8 0, .int .u8 0, .int .u8 0, .int .u8 0, .int .u8 0, .int .u8 0, .int .u8 0, .int .u8 0, .int .u8 0, .int .u8 0, .int .u8 0, .int .u8 0, .int .u8 0, .int .u8 0, .int .u8 0, .int .u8 0, .int .u8 0, .int .u8 0, .int .u8 0, .int .u8 0, .int .u8 0]⟩,
    ⟨none, none, .store 65 (.t 3) (.t 12)⟩] none [1, 2, 3]
def r_erasurelaw26normal_2 : ACode := .reg [
    ⟨some 13, none, .fld 0 (.t 1)⟩,
    ⟨some 14, none, .load none (.t 13)⟩] none [1, 2, 3, 14]
def r_erasurelaw26normal_3 : ACode := .reg [
    ⟨some 16, none, .bin .eql (.t 14) (.k (.int .i64 (1)))⟩,
    ⟨some 15, none, .mov (.t 16)⟩] none [1, 2, 3, 14, 15]
def r_erasurelaw26normal_4 : ACode := .reg [
    ⟨some 17, none, .fld 4 (.t 1)⟩,
    ⟨some 18, none, .load (some 8) (.t 17)⟩,
    ⟨some 19, none, .fld 4 (.t 3)⟩,
    ⟨none, none, .store 8 (.t 19) (.t 18)⟩] none [1, 2, 3]
def r_erasurelaw26normal_5 : ACode := .reg [
    ⟨some 20, none, .fld 4 (.t 1)⟩,
    ⟨some 21, none, .fld 1 (.t 20)⟩,
    ⟨some 22, none, .load (some 4) (.t 21)⟩,
    ⟨some 23, none, .call 75 [(.t 22)]⟩,
    ⟨some 24, none, .fld 4 (.t 3)⟩,
    ⟨some 25, none, .fld 1 (.t 24)⟩,
    ⟨none, none, .store 4 (.t 25) (.t 23)⟩] none [2, 3]
def r_erasurelaw26normal_6 : ACode := .reg [
    ⟨some 27, none, .bin .eql (.t 14) (.k (.int .i64 (2)))⟩,
    ⟨some 26, none, .mov (.t 27)⟩] none [1, 2, 3, 14, 26]
def r_erasurelaw26normal_7 : ACode := .reg [
    ⟨some 28, none, .fld 31 (.t 1)⟩,
    ⟨some 29, none, .load none (.t 28)⟩,
    ⟨some 30, none, .fld 31 (.t 3)⟩,
    ⟨none, none, .store 1 (.t 30) (.t 29)⟩] none [1, 2, 3]
def r_erasurelaw26normal_8 : ACode := .reg [
    ⟨some 31, none, .fld 32 (.t 1)⟩,
    ⟨some 32, none, .load none (.t 31)⟩,
    ⟨some 33, none, .fld 32 (.t 3)⟩,
    ⟨none, none, .store 1 (.t 33) (.t 32)⟩] none [2, 3]
def r_erasurelaw26normal_9 : ACode := .reg [
    ⟨some 35, none, .bin .eql (.t 14) (.k (.int .i64 (4)))⟩,
    ⟨some 34, none, .mov (.t 35)⟩] none [1, 2, 3, 14, 34]
def r_erasurelaw26normal_10 : ACode := .reg [
    ⟨some 36, none, .fld 33 (.t 1)⟩,
    ⟨some 37, none, .load (some 32) (.t 36)⟩,
    ⟨some 38, none, .fld 33 (.t 3)⟩,
    ⟨none, none, .store 32 (.t 38) (.t 37)⟩] none [2, 3]
def r_erasurelaw26normal_11 : ACode := .reg [
    ⟨some 40, none, .bin .eql (.t 14) (.k (.int .i64 (6)))⟩,
    ⟨some 39, none, .mov (.t 40)⟩] none [1, 2, 3, 14, 39]
def r_erasurelaw26normal_12 : ACode := .reg [
    ⟨some 41, none, .fld 12 (.t 1)⟩,
    ⟨some 42, none, .fld 0 (.t 41)⟩,
    ⟨some 43, none, .load (some 4) (.t 42)⟩,
    ⟨some 44, none, .call 75 [(.t 43)]⟩,
    ⟨some 45, none, .fld 12 (.t 1)⟩,
    ⟨some 46, none, .fld 4 (.t 45)⟩,
    ⟨some 47, none, .load (some 4) (.t 46)⟩,
    ⟨some 48, none, .call 75 [(.t 47)]⟩,
    ⟨some 49, none, .fld 12 (.t 1)⟩,
    ⟨some 50, none, .fld 8 (.t 49)⟩,
    ⟨some 51, none, .load none (.t 50)⟩,
    ⟨some 52, none, .fld 12 (.t 1)⟩,
    ⟨some 53, none, .fld 9 (.t 52)⟩,
    ⟨some 54, none, .load none (.t 53)⟩,
    ⟨some 55, none, .build [.string ⟨#[]⟩, .int .i64 0, .int .i64 0, .string ⟨#[]⟩, .string ⟨#[]⟩, .int .i64 0, .int .i64 0, .string ⟨#[]⟩, .int .i64 0, .bool false] [(0, 4, (.t 44)), (4, 4, (.t 48)), (8, 1, (.t 51)), (9, 1, (.t 54))]⟩,
    ⟨some 56, none, .fld 12 (.t 3)⟩,
    ⟨none, none, .store 10 (.t 56) (.t 55)⟩] (some [0, 1, 3, 7, 0, 16, 48, 127, 0, 256, 768, 0, 2048, 6144, 16383, 32767, 65535]) [2, 3]
def r_erasurelaw26normal_13 : ACode := .reg [
    ⟨some 58, none, .bin .eql (.t 14) (.k (.int .i64 (7)))⟩,
    ⟨some 57, none, .mov (.t 58)⟩] none [1, 2, 3, 57]
def r_erasurelaw26normal_14 : ACode := .reg [
    ⟨some 59, none, .fld 22 (.t 1)⟩,
    ⟨some 60, none, .load (some 9) (.t 59)⟩,
    ⟨some 61, none, .fld 22 (.t 3)⟩,
    ⟨none, none, .store 9 (.t 61) (.t 60)⟩] none [1, 2, 3]
def r_erasurelaw26normal_15 : ACode := .reg [
    ⟨some 62, none, .fld 22 (.t 1)⟩,
    ⟨some 63, none, .fld 2 (.t 62)⟩,
    ⟨some 64, none, .load (some 4) (.t 63)⟩,
    ⟨some 65, none, .call 75 [(.t 64)]⟩,
    ⟨some 66, none, .fld 22 (.t 3)⟩,
    ⟨some 67, none, .fld 2 (.t 66)⟩,
    ⟨none, none, .store 4 (.t 67) (.t 65)⟩] none [2, 3]
def r_erasurelaw26normal_16 : ACode := .reg [
    ⟨some 68, none, .load (some 65) (.t 3)⟩,
    ⟨none, none, .store 65 (.t 2) (.t 68)⟩] none [2]
def c_erasurelaw26normal : ACode :=
  (.seq r_erasurelaw26normal_0
  (.seq r_erasurelaw26normal_1
   (.seq (.seq r_erasurelaw26normal_2
     (.block 0 (.seq r_erasurelaw26normal_3
       (.cond (.t 15)
        (.seq r_erasurelaw26normal_4
         r_erasurelaw26normal_5)
        (.seq r_erasurelaw26normal_6
         (.cond (.t 26)
          (.seq r_erasurelaw26normal_7
           r_erasurelaw26normal_8)
          (.seq r_erasurelaw26normal_9
           (.cond (.t 34)
            r_erasurelaw26normal_10
            (.seq r_erasurelaw26normal_11
             (.cond (.t 39)
              r_erasurelaw26normal_12
              (.seq r_erasurelaw26normal_13
               (.cond (.t 57)
                (.seq r_erasurelaw26normal_14
                 r_erasurelaw26normal_15)
                .skip))))))))))))
    (.seq r_erasurelaw26normal_16
     .ret))))
theorem fits_erasurelaw26normal : Fits Try.prog 77 69 c_erasurelaw26normal [.c 2 (some 65)] := ⟨⟨Try.f77, _, _, Try.func77, rfl, rfl, rfl, by decide, by kernel_rfl, by kernel_rfl⟩, Try.checked.mixed⟩
end Go.Proofs.Ytjieenfbfckafaa.Am

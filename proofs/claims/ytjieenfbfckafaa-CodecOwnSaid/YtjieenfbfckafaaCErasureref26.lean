/- The code of functions of erasureref26 in the form of the abstract machine, and that it fits. -/
import Derived.Test.YtjieenfbfckafaaCNames
namespace Go.Proofs.Ytjieenfbfckafaa.Am
open Go
set_option linter.unusedVariables false
set_option linter.unusedSimpArgs false
set_option maxRecDepth 100000
/- erasure/erasureref26.Int -/
def r_erasureref26Int_0 : ACode := .reg [
    ⟨some 2, none, .mov (.k (.slice none 0 0))⟩] none [0]
def r_erasureref26Int_1 : ACode := .reg [
    ⟨some 5, none, .mov (.t 0)⟩,
    ⟨some 6, none, .conv .u64 (.t 5)⟩,
    ⟨some 7, none, .bin .shl (.t 6) (.k (.int .u64 (1)))⟩,
    ⟨some 3, none, .mov (.t 7)⟩] none [0, 3]
def r_erasureref26Int_2 : ACode := .reg [
    ⟨some 8, none, .mov (.t 0)⟩,
    ⟨some 9, none, .bin .lss (.t 8) (.k (.int .i64 (0)))⟩] none [3, 9]
def r_erasureref26Int_3 : ACode := .reg [
    ⟨some 10, none, .mov (.t 3)⟩,
    ⟨some 11, none, .un .xor (.t 10)⟩,
    ⟨some 3, none, .mov (.t 11)⟩] none [3]
def r_erasureref26Int_4 : ACode := .reg [
    ⟨some 12, none, .lit 5 1 0 [.int .u8 0] [] true⟩,
    ⟨some 4, none, .mov (.t 12)⟩] none [3, 4]
def r_erasureref26Int_5 : ACode := .reg [
    ⟨some 13, none, .mov (.t 3)⟩,
    ⟨some 14, none, .bin .geq (.t 13) (.k (.int .u64 (128)))⟩] none [3, 4, 14]
def r_erasureref26Int_6 : ACode := .reg [
    ⟨some 15, none, .mov (.t 4)⟩,
    ⟨some 16, none, .mov (.t 3)⟩,
    ⟨some 17, none, .bin .rem (.t 16) (.k (.int .u64 (128)))⟩,
    ⟨some 18, none, .conv .u8 (.t 17)⟩,
    ⟨some 19, none, .bin .add (.t 18) (.k (.int .u8 (128)))⟩,
    ⟨some 20, none, .lit 5 1 1 [.int .u8 0] [(0, (.t 19))] false⟩,
    ⟨some 21, none, .app 5 1 1 (.t 15) (.t 20)⟩,
    ⟨some 4, none, .mov (.t 21)⟩] none [3, 4]
def r_erasureref26Int_7 : ACode := .reg [
    ⟨some 22, none, .mov (.t 3)⟩,
    ⟨some 23, none, .bin .quo (.t 22) (.k (.int .u64 (128)))⟩,
    ⟨some 3, none, .mov (.t 23)⟩] none [3, 4]
def r_erasureref26Int_8 : ACode := .reg [
    ⟨some 24, none, .mov (.t 4)⟩,
    ⟨some 25, none, .mov (.t 3)⟩,
    ⟨some 26, none, .conv .u8 (.t 25)⟩,
    ⟨some 27, none, .lit 5 1 1 [.int .u8 0] [(0, (.t 26))] false⟩,
    ⟨some 28, none, .app 5 1 1 (.t 24) (.t 27)⟩,
    ⟨some 2, none, .mov (.t 28)⟩] none [2]
def c_erasureref26Int : ACode :=
  (.seq r_erasureref26Int_0
  (.seq r_erasureref26Int_1
   (.seq (.seq r_erasureref26Int_2
     (.cond (.t 9)
      r_erasureref26Int_3
      .skip))
    (.seq r_erasureref26Int_4
     (.seq (.block 0 (.loop (.seq (.seq r_erasureref26Int_5
          (.cond (.t 14)
           .skip
           (.exit 0)))
         (.block 1 (.seq r_erasureref26Int_6
           r_erasureref26Int_7)))))
      (.seq r_erasureref26Int_8
       .ret))))))
theorem fits_erasureref26Int : Fits Try.prog 22 29 c_erasureref26Int [.t 2] := ⟨⟨Try.f22, _, _, Try.func22, rfl, rfl, rfl, by decide, by kernel_rfl, by kernel_rfl⟩, Try.checked.mixed⟩
/- (*erasure/erasureref26.Reader).Int -/
def r_erasureref26Reader_Int_0 : ACode := .reg [
    ⟨some 2, none, .mov (.k (.int .i64 (0)))⟩] none [0]
def r_erasureref26Reader_Int_1 : ACode := .reg [
    ⟨some 3, none, .mov (.k (.int .u64 (0)))⟩] none [0, 3]
def r_erasureref26Reader_Int_2 : ACode := .reg [
    ⟨some 4, none, .mov (.k (.int .i64 (0)))⟩] none [0, 3, 4]
def r_erasureref26Reader_Int_3 : ACode := .reg [
    ⟨some 6, none, .mov (.t 0)⟩,
    ⟨some 7, none, .nilck (.t 6)⟩,
    ⟨some 8, none, .fld 1 (.t 7)⟩,
    ⟨some 9, none, .load none (.t 8)⟩,
    ⟨some 10, none, .bin .eql (.t 9) (.k (.int .i64 (0)))⟩] none [0, 3, 4, 10]
def r_erasureref26Reader_Int_4 : ACode := .reg [
    ⟨some 13, none, .mov (.t 4)⟩,
    ⟨some 14, none, .mov (.t 0)⟩,
    ⟨some 15, none, .nilck (.t 14)⟩,
    ⟨some 16, none, .fld 0 (.t 15)⟩,
    ⟨some 17, none, .load none (.t 16)⟩,
    ⟨some 18, none, .len (.t 17)⟩,
    ⟨some 19, none, .bin .geq (.t 13) (.t 18)⟩] none [0, 3, 4, 19]
def r_erasureref26Reader_Int_5 : ACode := .reg [
    ⟨some 20, none, .mov (.t 0)⟩,
    ⟨some 21, none, .call 91 [(.t 20), (.k (.int .i64 (100)))]⟩] none [0, 3]
def r_erasureref26Reader_Int_6 : ACode := .reg [
    ⟨some 22, none, .mov (.t 0)⟩,
    ⟨some 23, none, .nilck (.t 22)⟩,
    ⟨some 24, none, .fld 0 (.t 23)⟩,
    ⟨some 25, none, .load none (.t 24)⟩,
    ⟨some 26, none, .mov (.t 4)⟩,
    ⟨some 27, none, .idxa 1 (.t 25) (.t 26)⟩,
    ⟨some 28, none, .load none (.t 27)⟩,
    ⟨some 5, none, .mov (.t 28)⟩] none [0, 3, 4, 5]
def r_erasureref26Reader_Int_7 : ACode := .reg [
    ⟨some 29, none, .mov (.t 4)⟩,
    ⟨some 30, none, .bin .eql (.t 29) (.k (.int .i64 (9)))⟩,
    ⟨some 31, none, .mov (.t 30)⟩,
    ⟨some 32, (some (31, true)), .mov (.t 5)⟩,
    ⟨some 33, (some (31, true)), .bin .gtr (.t 32) (.k (.int .u8 (1)))⟩,
    ⟨some 34, none, .pick (.t 31) (.t 33) (.k (.bool false))⟩,
    ⟨some 35, none, .mov (.t 34)⟩,
    ⟨some 36, (some (35, false)), .mov (.t 4)⟩,
    ⟨some 37, (some (35, false)), .bin .gtr (.t 36) (.k (.int .i64 (0)))⟩,
    ⟨some 38, (some (35, false)), .mov (.t 37)⟩,
    ⟨some 39, (some (38, true)), .mov (.t 5)⟩,
    ⟨some 40, (some (38, true)), .bin .eql (.t 39) (.k (.int .u8 (0)))⟩,
    ⟨some 41, (some (35, false)), .pick (.t 38) (.t 40) (.k (.bool false))⟩,
    ⟨some 42, none, .pick (.t 35) (.k (.bool true)) (.t 41)⟩] none [0, 3, 4, 5, 42]
def r_erasureref26Reader_Int_8 : ACode := .reg [
    ⟨some 43, none, .mov (.t 0)⟩,
    ⟨some 44, none, .call 91 [(.t 43), (.k (.int .i64 (1)))]⟩] none [0, 3]
def r_erasureref26Reader_Int_9 : ACode := .reg [
    ⟨some 45, none, .mov (.t 3)⟩,
    ⟨some 46, none, .mov (.t 5)⟩,
    ⟨some 47, none, .bin .rem (.t 46) (.k (.int .u8 (128)))⟩,
    ⟨some 48, none, .conv .u64 (.t 47)⟩,
    ⟨some 49, none, .mov (.t 4)⟩,
    ⟨some 50, none, .bin .mul (.k (.int .i64 (7))) (.t 49)⟩,
    ⟨some 51, none, .bin .shl (.t 48) (.t 50)⟩,
    ⟨some 52, none, .bin .or (.t 45) (.t 51)⟩,
    ⟨some 3, none, .mov (.t 52)⟩] none [0, 3, 4, 5]
def r_erasureref26Reader_Int_10 : ACode := .reg [
    ⟨some 53, none, .mov (.t 5)⟩,
    ⟨some 54, none, .bin .lss (.t 53) (.k (.int .u8 (128)))⟩] none [0, 3, 4, 54]
def r_erasureref26Reader_Int_11 : ACode := .reg [
    ⟨some 55, none, .mov (.t 0)⟩,
    ⟨some 56, none, .mov (.t 0)⟩,
    ⟨some 57, none, .nilck (.t 56)⟩,
    ⟨some 58, none, .fld 0 (.t 57)⟩,
    ⟨some 59, none, .load none (.t 58)⟩,
    ⟨some 60, none, .mov (.t 4)⟩,
    ⟨some 61, none, .bin .add (.t 60) (.k (.int .i64 (1)))⟩,
    ⟨some 62, none, .sl 1 (.t 59) (some (.t 61)) none none⟩,
    ⟨some 63, none, .nilck (.t 55)⟩,
    ⟨some 64, none, .fld 0 (.t 63)⟩,
    ⟨none, none, .store 1 (.t 64) (.t 62)⟩] none [0, 3]
def r_erasureref26Reader_Int_12 : ACode := .reg [
    ⟨some 11, none, .mov (.t 4)⟩,
    ⟨some 12, none, .bin .add (.t 11) (.k (.int .i64 (1)))⟩,
    ⟨some 4, none, .mov (.t 12)⟩] none [0, 3, 4]
def r_erasureref26Reader_Int_13 : ACode := .reg [
    ⟨some 65, none, .mov (.t 0)⟩,
    ⟨some 66, none, .nilck (.t 65)⟩,
    ⟨some 67, none, .fld 1 (.t 66)⟩,
    ⟨some 68, none, .load none (.t 67)⟩,
    ⟨some 69, none, .bin .neq (.t 68) (.k (.int .i64 (0)))⟩] none [3, 69]
def r_erasureref26Reader_Int_14 : ACode := .reg [
    ⟨some 2, none, .mov (.k (.int .i64 (0)))⟩] none [2]
def r_erasureref26Reader_Int_15 : ACode := .reg [
    ⟨some 70, none, .mov (.t 3)⟩,
    ⟨some 71, none, .bin .rem (.t 70) (.k (.int .u64 (2)))⟩,
    ⟨some 72, none, .bin .eql (.t 71) (.k (.int .u64 (1)))⟩] none [3, 72]
def r_erasureref26Reader_Int_16 : ACode := .reg [
    ⟨some 73, none, .mov (.t 3)⟩,
    ⟨some 74, none, .bin .shr (.t 73) (.k (.int .u64 (1)))⟩,
    ⟨some 75, none, .un .xor (.t 74)⟩,
    ⟨some 76, none, .conv .i64 (.t 75)⟩,
    ⟨some 2, none, .mov (.t 76)⟩] none [2]
def r_erasureref26Reader_Int_17 : ACode := .reg [
    ⟨some 77, none, .mov (.t 3)⟩,
    ⟨some 78, none, .bin .shr (.t 77) (.k (.int .u64 (1)))⟩,
    ⟨some 79, none, .conv .i64 (.t 78)⟩,
    ⟨some 2, none, .mov (.t 79)⟩] none [2]
def c_erasureref26Reader_Int : ACode :=
  (.seq r_erasureref26Reader_Int_0
  (.seq r_erasureref26Reader_Int_1
   (.seq (.seq r_erasureref26Reader_Int_2
     (.block 0 (.loop (.seq (.seq r_erasureref26Reader_Int_3
         (.cond (.t 10)
          .skip
          (.exit 0)))
        (.seq (.block 1 (.seq (.seq r_erasureref26Reader_Int_4
            (.cond (.t 19)
             (.seq r_erasureref26Reader_Int_5
              (.exit 0))
             .skip))
           (.seq r_erasureref26Reader_Int_6
            (.seq (.seq r_erasureref26Reader_Int_7
              (.cond (.t 42)
               (.seq r_erasureref26Reader_Int_8
                (.exit 0))
               .skip))
             (.seq r_erasureref26Reader_Int_9
              (.seq r_erasureref26Reader_Int_10
               (.cond (.t 54)
                (.seq r_erasureref26Reader_Int_11
                 (.exit 0))
                .skip)))))))
         r_erasureref26Reader_Int_12)))))
    (.seq (.seq r_erasureref26Reader_Int_13
      (.cond (.t 69)
       (.seq r_erasureref26Reader_Int_14
        .ret)
       .skip))
     (.seq (.seq r_erasureref26Reader_Int_15
       (.cond (.t 72)
        (.seq r_erasureref26Reader_Int_16
         .ret)
        .skip))
      (.seq r_erasureref26Reader_Int_17
       .ret))))))
theorem fits_erasureref26Reader_Int : Fits Try.prog 23 80 c_erasureref26Reader_Int [.t 2] := ⟨⟨Try.f23, _, _, Try.func23, rfl, rfl, rfl, by decide, by kernel_rfl, by kernel_rfl⟩, Try.checked.mixed⟩
/- erasure/erasureref26.Text -/
def r_erasureref26Text_0 : ACode := .reg [
    ⟨some 2, none, .mov (.k (.slice none 0 0))⟩] none [0]
def r_erasureref26Text_1 : ACode := .reg [
    ⟨some 3, none, .mov (.t 0)⟩,
    ⟨some 4, none, .lens (.t 3)⟩,
    ⟨some 5, none, .call 22 [(.t 4)]⟩,
    ⟨some 6, none, .mov (.t 0)⟩,
    ⟨some 7, none, .apps 5 (.t 5) (.t 6)⟩,
    ⟨some 2, none, .mov (.t 7)⟩] none [2]
def c_erasureref26Text : ACode :=
  (.seq r_erasureref26Text_0
  (.seq r_erasureref26Text_1
   .ret))
theorem fits_erasureref26Text : Fits Try.prog 26 8 c_erasureref26Text [.t 2] := ⟨⟨Try.f26, _, _, Try.func26, rfl, rfl, rfl, by decide, by kernel_rfl, by kernel_rfl⟩, Try.checked.mixed⟩
/- erasure/erasureref26.Versions -/
def r_erasureref26Versions_0 : ACode := .reg [
    ⟨some 2, none, .mov (.k (.slice none 0 0))⟩] none [0]
def r_erasureref26Versions_1 : ACode := .reg [
    ⟨some 5, none, .mov (.t 0)⟩,
    ⟨some 6, none, .len (.t 5)⟩,
    ⟨some 7, none, .call 22 [(.t 6)]⟩,
    ⟨some 3, none, .mov (.t 7)⟩] none [0, 3]
def r_erasureref26Versions_2 : ACode := .reg [
    ⟨some 4, none, .mov (.k (.int .i64 (0)))⟩] none [0, 3, 4]
def r_erasureref26Versions_3 : ACode := .reg [
    ⟨some 8, none, .mov (.t 4)⟩,
    ⟨some 9, none, .mov (.t 0)⟩,
    ⟨some 10, none, .len (.t 9)⟩,
    ⟨some 11, none, .bin .lss (.t 8) (.t 10)⟩] none [0, 3, 4, 11]
def r_erasureref26Versions_4 : ACode := .reg [
    ⟨some 14, none, .mov (.t 3)⟩,
    ⟨some 15, none, .mov (.t 0)⟩,
    ⟨some 16, none, .mov (.t 4)⟩,
    ⟨some 17, none, .idxa 3 (.t 15) (.t 16)⟩,
    ⟨some 18, none, .fld 0 (.t 17)⟩,
    ⟨some 19, none, .load none (.t 18)⟩,
    ⟨some 20, none, .mov (.t 0)⟩,
    ⟨some 21, none, .mov (.t 4)⟩,
    ⟨some 22, none, .idxa 3 (.t 20) (.t 21)⟩,
    ⟨some 23, none, .fld 2 (.t 22)⟩,
    ⟨some 24, none, .load none (.t 23)⟩,
    ⟨some 25, none, .mov (.t 0)⟩,
    ⟨some 26, none, .mov (.t 4)⟩,
    ⟨some 27, none, .idxa 3 (.t 25) (.t 26)⟩,
    ⟨some 28, none, .fld 1 (.t 27)⟩,
    ⟨some 29, none, .load none (.t 28)⟩,
    ⟨some 30, none, .lit 3 1 3 [.int .i64 0] [(0, (.t 19)), (1, (.t 24)), (2, (.t 29))] false⟩,
    ⟨some 31, none, .call 99 [(.t 30)]⟩,
    ⟨some 32, none, .app 5 1 1 (.t 14) (.t 31)⟩,
    ⟨some 3, none, .mov (.t 32)⟩] (some [0, 0, 0, 6, 14, 30, 0, 0, 192, 448, 960, 0, 0, 6144, 14336, 30720, 65534, 131070, 262143, 524287]) [0, 3, 4]
def r_erasureref26Versions_5 : ACode := .reg [
    ⟨some 12, none, .mov (.t 4)⟩,
    ⟨some 13, none, .bin .add (.t 12) (.k (.int .i64 (1)))⟩,
    ⟨some 4, none, .mov (.t 13)⟩] none [0, 3, 4]
def r_erasureref26Versions_6 : ACode := .reg [
    ⟨some 33, none, .mov (.t 3)⟩,
    ⟨some 2, none, .mov (.t 33)⟩] none [2]
def c_erasureref26Versions : ACode :=
  (.seq r_erasureref26Versions_0
  (.seq r_erasureref26Versions_1
   (.seq (.seq r_erasureref26Versions_2
     (.block 0 (.loop (.seq (.seq r_erasureref26Versions_3
         (.cond (.t 11)
          .skip
          (.exit 0)))
        (.seq (.block 1 r_erasureref26Versions_4)
         r_erasureref26Versions_5)))))
    (.seq r_erasureref26Versions_6
     .ret))))
theorem fits_erasureref26Versions : Fits Try.prog 33 34 c_erasureref26Versions [.t 2] := ⟨⟨Try.f33, _, _, Try.func33, rfl, rfl, rfl, by decide, by kernel_rfl, by kernel_rfl⟩, Try.checked.mixed⟩
/- erasure/erasureref26.Sources -/
def r_erasureref26Sources_0 : ACode := .reg [
    ⟨some 2, none, .mov (.k (.slice none 0 0))⟩] none [0]
def r_erasureref26Sources_1 : ACode := .reg [
    ⟨some 5, none, .mov (.t 0)⟩,
    ⟨some 6, none, .len (.t 5)⟩,
    ⟨some 7, none, .call 22 [(.t 6)]⟩,
    ⟨some 3, none, .mov (.t 7)⟩] none [0, 3]
def r_erasureref26Sources_2 : ACode := .reg [
    ⟨some 4, none, .mov (.k (.int .i64 (0)))⟩] none [0, 3, 4]
def r_erasureref26Sources_3 : ACode := .reg [
    ⟨some 8, none, .mov (.t 4)⟩,
    ⟨some 9, none, .mov (.t 0)⟩,
    ⟨some 10, none, .len (.t 9)⟩,
    ⟨some 11, none, .bin .lss (.t 8) (.t 10)⟩] none [0, 3, 4, 11]
def r_erasureref26Sources_4 : ACode := .reg [
    ⟨some 14, none, .mov (.t 3)⟩,
    ⟨some 15, none, .mov (.t 0)⟩,
    ⟨some 16, none, .mov (.t 4)⟩,
    ⟨some 17, none, .idxa 2 (.t 15) (.t 16)⟩,
    ⟨some 18, none, .fld 0 (.t 17)⟩,
    ⟨some 19, none, .load none (.t 18)⟩,
    ⟨some 20, none, .mov (.t 0)⟩,
    ⟨some 21, none, .mov (.t 4)⟩,
    ⟨some 22, none, .idxa 2 (.t 20) (.t 21)⟩,
    ⟨some 23, none, .fld 1 (.t 22)⟩,
    ⟨some 24, none, .load none (.t 23)⟩,
    ⟨some 25, none, .lit 3 1 2 [.int .i64 0] [(0, (.t 19)), (1, (.t 24))] false⟩,
    ⟨some 26, none, .call 99 [(.t 25)]⟩,
    ⟨some 27, none, .app 5 1 1 (.t 14) (.t 26)⟩,
    ⟨some 3, none, .mov (.t 27)⟩] (some [0, 0, 0, 6, 14, 30, 0, 0, 192, 448, 960, 2046, 4094, 8191, 16383]) [0, 3, 4]
def r_erasureref26Sources_5 : ACode := .reg [
    ⟨some 12, none, .mov (.t 4)⟩,
    ⟨some 13, none, .bin .add (.t 12) (.k (.int .i64 (1)))⟩,
    ⟨some 4, none, .mov (.t 13)⟩] none [0, 3, 4]
def r_erasureref26Sources_6 : ACode := .reg [
    ⟨some 28, none, .mov (.t 3)⟩,
    ⟨some 2, none, .mov (.t 28)⟩] none [2]
def c_erasureref26Sources : ACode :=
  (.seq r_erasureref26Sources_0
  (.seq r_erasureref26Sources_1
   (.seq (.seq r_erasureref26Sources_2
     (.block 0 (.loop (.seq (.seq r_erasureref26Sources_3
         (.cond (.t 11)
          .skip
          (.exit 0)))
        (.seq (.block 1 r_erasureref26Sources_4)
         r_erasureref26Sources_5)))))
    (.seq r_erasureref26Sources_6
     .ret))))
theorem fits_erasureref26Sources : Fits Try.prog 34 29 c_erasureref26Sources [.t 2] := ⟨⟨Try.f34, _, _, Try.func34, rfl, rfl, rfl, by decide, by kernel_rfl, by kernel_rfl⟩, Try.checked.mixed⟩
/- erasure/erasureref26.SameVersions -/
def r_erasureref26SameVersions_0 : ACode := .reg [
    ⟨some 4, none, .mov (.k (.bool false))⟩] none [0, 1]
def r_erasureref26SameVersions_1 : ACode := .reg [
    ⟨some 5, none, .mov (.t 0)⟩,
    ⟨some 6, none, .mov (.t 1)⟩,
    ⟨some 7, none, .call 100 [(.t 5), (.t 6)]⟩,
    ⟨some 4, none, .mov (.t 7)⟩] none [4]
def c_erasureref26SameVersions : ACode :=
  (.seq r_erasureref26SameVersions_0
  (.seq r_erasureref26SameVersions_1
   .ret))
theorem fits_erasureref26SameVersions : Fits Try.prog 35 8 c_erasureref26SameVersions [.t 4] := ⟨⟨Try.f35, _, _, Try.func35, rfl, rfl, rfl, by decide, by kernel_rfl, by kernel_rfl⟩, Try.checked.mixed⟩
/- erasure/erasureref26.SameSources -/
def r_erasureref26SameSources_0 : ACode := .reg [
    ⟨some 4, none, .mov (.k (.bool false))⟩] none [0, 1]
def r_erasureref26SameSources_1 : ACode := .reg [
    ⟨some 5, none, .mov (.t 0)⟩,
    ⟨some 6, none, .mov (.t 1)⟩,
    ⟨some 7, none, .call 101 [(.t 5), (.t 6)]⟩,
    ⟨some 4, none, .mov (.t 7)⟩] none [4]
def c_erasureref26SameSources : ACode :=
  (.seq r_erasureref26SameSources_0
  (.seq r_erasureref26SameSources_1
   .ret))
theorem fits_erasureref26SameSources : Fits Try.prog 36 8 c_erasureref26SameSources [.t 4] := ⟨⟨Try.f36, _, _, Try.func36, rfl, rfl, rfl, by decide, by kernel_rfl, by kernel_rfl⟩, Try.checked.mixed⟩
/- erasure/erasureref26.Value -/
def r_erasureref26Value_0 : ACode := .reg [
    ⟨some 1, none, .box 67 (.t 0)⟩,
    ⟨some 2, none, .mov (.k (.slice none 0 0))⟩] none [1]
def r_erasureref26Value_1 : ACode := .reg [
    ⟨some 4, none, .load (some 3) (.t 1)⟩,
    ⟨some 5, none, .call 43 [(.t 4)]⟩,
    ⟨none, none, .store 3 (.t 1) (.t 5)⟩] none [1]
def r_erasureref26Value_2 : ACode := .reg [
    ⟨some 6, none, .fld 0 (.t 1)⟩,
    ⟨some 7, none, .load none (.t 6)⟩,
    ⟨some 8, none, .call 22 [(.t 7)]⟩,
    ⟨some 3, none, .mov (.t 8)⟩] none [1, 3]
def r_erasureref26Value_3 : ACode := .reg [
    ⟨some 9, none, .fld 0 (.t 1)⟩,
    ⟨some 10, none, .load none (.t 9)⟩,
    ⟨some 11, none, .bin .eql (.t 10) (.k (.int .i64 (1)))⟩] none [1, 3, 11]
def r_erasureref26Value_4 : ACode := .reg [
    ⟨some 12, none, .mov (.t 3)⟩,
    ⟨some 13, none, .fld 1 (.t 1)⟩,
    ⟨some 14, none, .load none (.t 13)⟩,
    ⟨some 15, none, .call 22 [(.t 14)]⟩,
    ⟨some 16, none, .app 5 1 1 (.t 12) (.t 15)⟩,
    ⟨some 3, none, .mov (.t 16)⟩] none [1, 3]
def r_erasureref26Value_5 : ACode := .reg [
    ⟨some 17, none, .fld 0 (.t 1)⟩,
    ⟨some 18, none, .load none (.t 17)⟩,
    ⟨some 19, none, .bin .eql (.t 18) (.k (.int .i64 (2)))⟩] none [1, 3, 19]
def r_erasureref26Value_6 : ACode := .reg [
    ⟨some 20, none, .mov (.t 3)⟩,
    ⟨some 21, none, .fld 2 (.t 1)⟩,
    ⟨some 22, none, .load none (.t 21)⟩,
    ⟨some 23, none, .call 26 [(.t 22)]⟩,
    ⟨some 24, none, .app 5 1 1 (.t 20) (.t 23)⟩,
    ⟨some 3, none, .mov (.t 24)⟩] none [3]
def r_erasureref26Value_7 : ACode := .reg [
    ⟨some 25, none, .mov (.t 3)⟩,
    ⟨some 2, none, .mov (.t 25)⟩] none [2]
def c_erasureref26Value : ACode :=
  (.seq r_erasureref26Value_0
  (.seq r_erasureref26Value_1
   (.seq r_erasureref26Value_2
    (.seq (.seq r_erasureref26Value_3
      (.cond (.t 11)
       r_erasureref26Value_4
       .skip))
     (.seq (.seq r_erasureref26Value_5
       (.cond (.t 19)
        r_erasureref26Value_6
        .skip))
      (.seq r_erasureref26Value_7
       .ret))))))
theorem fits_erasureref26Value : Fits Try.prog 42 26 c_erasureref26Value [.t 2] := ⟨⟨Try.f42, _, _, Try.func42, rfl, rfl, rfl, by decide, by kernel_rfl, by kernel_rfl⟩, Try.checked.mixed⟩
/- erasure/erasureref26.Row -/
def r_erasureref26Row_0 : ACode := .reg [
    ⟨some 2, none, .mov (.k (.slice none 0 0))⟩] none [0]
def r_erasureref26Row_1 : ACode := .reg [
    ⟨some 5, none, .mov (.t 0)⟩,
    ⟨some 6, none, .len (.t 5)⟩,
    ⟨some 7, none, .call 22 [(.t 6)]⟩,
    ⟨some 3, none, .mov (.t 7)⟩] none [0, 3]
def r_erasureref26Row_2 : ACode := .reg [
    ⟨some 4, none, .mov (.k (.int .i64 (0)))⟩] none [0, 3, 4]
def r_erasureref26Row_3 : ACode := .reg [
    ⟨some 8, none, .mov (.t 4)⟩,
    ⟨some 9, none, .mov (.t 0)⟩,
    ⟨some 10, none, .len (.t 9)⟩,
    ⟨some 11, none, .bin .lss (.t 8) (.t 10)⟩] none [0, 3, 4, 11]
def r_erasureref26Row_4 : ACode := .reg [
    ⟨some 14, none, .mov (.t 3)⟩,
    ⟨some 15, none, .mov (.t 0)⟩,
    ⟨some 16, none, .mov (.t 4)⟩,
    ⟨some 17, none, .idxa 3 (.t 15) (.t 16)⟩,
    ⟨some 18, none, .load (some 3) (.t 17)⟩,
    ⟨some 19, none, .call 42 [(.t 18)]⟩,
    ⟨some 20, none, .app 5 1 1 (.t 14) (.t 19)⟩,
    ⟨some 3, none, .mov (.t 20)⟩] none [0, 3, 4]
def r_erasureref26Row_5 : ACode := .reg [
    ⟨some 12, none, .mov (.t 4)⟩,
    ⟨some 13, none, .bin .add (.t 12) (.k (.int .i64 (1)))⟩,
    ⟨some 4, none, .mov (.t 13)⟩] none [0, 3, 4]
def r_erasureref26Row_6 : ACode := .reg [
    ⟨some 21, none, .mov (.t 3)⟩,
    ⟨some 2, none, .mov (.t 21)⟩] none [2]
def c_erasureref26Row : ACode :=
  (.seq r_erasureref26Row_0
  (.seq r_erasureref26Row_1
   (.seq (.seq r_erasureref26Row_2
     (.block 0 (.loop (.seq (.seq r_erasureref26Row_3
         (.cond (.t 11)
          .skip
          (.exit 0)))
        (.seq (.block 1 r_erasureref26Row_4)
         r_erasureref26Row_5)))))
    (.seq r_erasureref26Row_6
     .ret))))
theorem fits_erasureref26Row : Fits Try.prog 44 22 c_erasureref26Row [.t 2] := ⟨⟨Try.f44, _, _, Try.func44, rfl, rfl, rfl, by decide, by kernel_rfl, by kernel_rfl⟩, Try.checked.mixed⟩
/- erasure/erasureref26.SameRow -/
def r_erasureref26SameRow_0 : ACode := .reg [
    ⟨some 4, none, .mov (.k (.bool false))⟩] none [0, 1]
def r_erasureref26SameRow_1 : ACode := .reg [
    ⟨some 5, none, .mov (.t 0)⟩,
    ⟨some 6, none, .mov (.t 1)⟩,
    ⟨some 7, none, .call 107 [(.t 5), (.t 6)]⟩,
    ⟨some 4, none, .mov (.t 7)⟩] none [4]
def c_erasureref26SameRow : ACode :=
  (.seq r_erasureref26SameRow_0
  (.seq r_erasureref26SameRow_1
   .ret))
theorem fits_erasureref26SameRow : Fits Try.prog 45 8 c_erasureref26SameRow [.t 4] := ⟨⟨Try.f45, _, _, Try.func45, rfl, rfl, rfl, by decide, by kernel_rfl, by kernel_rfl⟩, Try.checked.mixed⟩
/- erasure/erasureref26.CleanRow -/
def r_erasureref26CleanRow_0 : ACode := .reg [
    ⟨some 2, none, .mov (.k (.slice none 0 0))⟩] none [0]
def r_erasureref26CleanRow_1 : ACode := .reg [
    ⟨some 3, none, .mov (.k (.slice none 0 0))⟩] none [0, 3]
def r_erasureref26CleanRow_2 : ACode := .reg [
    ⟨some 4, none, .mov (.k (.int .i64 (0)))⟩] none [0, 3, 4]
def r_erasureref26CleanRow_3 : ACode := .reg [
    ⟨some 5, none, .mov (.t 4)⟩,
    ⟨some 6, none, .mov (.t 0)⟩,
    ⟨some 7, none, .len (.t 6)⟩,
    ⟨some 8, none, .bin .lss (.t 5) (.t 7)⟩] none [0, 3, 4, 8]
def r_erasureref26CleanRow_4 : ACode := .reg [
    ⟨some 11, none, .mov (.t 3)⟩,
    ⟨some 12, none, .mov (.t 0)⟩,
    ⟨some 13, none, .mov (.t 4)⟩,
    ⟨some 14, none, .idxa 3 (.t 12) (.t 13)⟩,
    ⟨some 15, none, .load (some 3) (.t 14)⟩,
    ⟨some 16, none, .call 43 [(.t 15)]⟩,
    ⟨some 17, none, .lit 67 3 1 [.int .i64 0, .int .i64 0, .string ⟨#[]⟩] [(0, (.t 16))] false⟩,
    ⟨some 18, none, .app 67 3 32 (.t 11) (.t 17)⟩,
    ⟨some 3, none, .mov (.t 18)⟩] none [0, 3, 4]
def r_erasureref26CleanRow_5 : ACode := .reg [
    ⟨some 9, none, .mov (.t 4)⟩,
    ⟨some 10, none, .bin .add (.t 9) (.k (.int .i64 (1)))⟩,
    ⟨some 4, none, .mov (.t 10)⟩] none [0, 3, 4]
def r_erasureref26CleanRow_6 : ACode := .reg [
    ⟨some 19, none, .mov (.t 3)⟩,
    ⟨some 2, none, .mov (.t 19)⟩] none [2]
def c_erasureref26CleanRow : ACode :=
  (.seq r_erasureref26CleanRow_0
  (.seq r_erasureref26CleanRow_1
   (.seq (.seq r_erasureref26CleanRow_2
     (.block 0 (.loop (.seq (.seq r_erasureref26CleanRow_3
         (.cond (.t 8)
          .skip
          (.exit 0)))
        (.seq (.block 1 r_erasureref26CleanRow_4)
         r_erasureref26CleanRow_5)))))
    (.seq r_erasureref26CleanRow_6
     .ret))))
theorem fits_erasureref26CleanRow : Fits Try.prog 46 20 c_erasureref26CleanRow [.t 2] := ⟨⟨Try.f46, _, _, Try.func46, rfl, rfl, rfl, by decide, by kernel_rfl, by kernel_rfl⟩, Try.checked.mixed⟩
/- erasure/erasureref26.Bag -/
def r_erasureref26Bag_0 : ACode := .reg [
    ⟨some 2, none, .mov (.k (.slice none 0 0))⟩] none [0]
def r_erasureref26Bag_1 : ACode := .reg [
    ⟨some 5, none, .mov (.t 0)⟩,
    ⟨some 6, none, .len (.t 5)⟩,
    ⟨some 7, none, .call 22 [(.t 6)]⟩,
    ⟨some 3, none, .mov (.t 7)⟩] none [0, 3]
def r_erasureref26Bag_2 : ACode := .reg [
    ⟨some 4, none, .mov (.k (.int .i64 (0)))⟩] none [0, 3, 4]
def r_erasureref26Bag_3 : ACode := .reg [
    ⟨some 8, none, .mov (.t 4)⟩,
    ⟨some 9, none, .mov (.t 0)⟩,
    ⟨some 10, none, .len (.t 9)⟩,
    ⟨some 11, none, .bin .lss (.t 8) (.t 10)⟩] none [0, 3, 4, 11]
def r_erasureref26Bag_4 : ACode := .reg [
    ⟨some 14, none, .mov (.t 3)⟩,
    ⟨some 15, none, .mov (.t 0)⟩,
    ⟨some 16, none, .mov (.t 4)⟩,
    ⟨some 17, none, .idxa 2 (.t 15) (.t 16)⟩,
    ⟨some 18, none, .fld 0 (.t 17)⟩,
    ⟨some 19, none, .load none (.t 18)⟩,
    ⟨some 20, none, .call 44 [(.t 19)]⟩,
    ⟨some 21, none, .app 5 1 1 (.t 14) (.t 20)⟩,
    ⟨some 22, none, .mov (.t 0)⟩,
    ⟨some 23, none, .mov (.t 4)⟩,
    ⟨some 24, none, .idxa 2 (.t 22) (.t 23)⟩,
    ⟨some 25, none, .fld 1 (.t 24)⟩,
    ⟨some 26, none, .load none (.t 25)⟩,
    ⟨some 27, none, .call 22 [(.t 26)]⟩,
    ⟨some 28, none, .app 5 1 1 (.t 21) (.t 27)⟩,
    ⟨some 3, none, .mov (.t 28)⟩] (some [0, 0, 0, 6, 14, 30, 62, 127, 0, 0, 768, 1792, 3840, 8191, 16383, 32767]) [0, 3, 4]
def r_erasureref26Bag_5 : ACode := .reg [
    ⟨some 12, none, .mov (.t 4)⟩,
    ⟨some 13, none, .bin .add (.t 12) (.k (.int .i64 (1)))⟩,
    ⟨some 4, none, .mov (.t 13)⟩] none [0, 3, 4]
def r_erasureref26Bag_6 : ACode := .reg [
    ⟨some 29, none, .mov (.t 3)⟩,
    ⟨some 2, none, .mov (.t 29)⟩] none [2]
def c_erasureref26Bag : ACode :=
  (.seq r_erasureref26Bag_0
  (.seq r_erasureref26Bag_1
   (.seq (.seq r_erasureref26Bag_2
     (.block 0 (.loop (.seq (.seq r_erasureref26Bag_3
         (.cond (.t 11)
          .skip
          (.exit 0)))
        (.seq (.block 1 r_erasureref26Bag_4)
         r_erasureref26Bag_5)))))
    (.seq r_erasureref26Bag_6
     .ret))))
theorem fits_erasureref26Bag : Fits Try.prog 49 30 c_erasureref26Bag [.t 2] := ⟨⟨Try.f49, _, _, Try.func49, rfl, rfl, rfl, by decide, by kernel_rfl, by kernel_rfl⟩, Try.checked.mixed⟩
/- erasure/erasureref26.SameBag -/
def r_erasureref26SameBag_0 : ACode := .reg [
    ⟨some 4, none, .mov (.k (.bool false))⟩] none [0, 1]
def r_erasureref26SameBag_1 : ACode := .reg [
    ⟨some 5, none, .mov (.t 0)⟩,
    ⟨some 6, none, .mov (.t 1)⟩,
    ⟨some 7, none, .call 109 [(.t 5), (.t 6)]⟩,
    ⟨some 4, none, .mov (.t 7)⟩] none [4]
def c_erasureref26SameBag : ACode :=
  (.seq r_erasureref26SameBag_0
  (.seq r_erasureref26SameBag_1
   .ret))
theorem fits_erasureref26SameBag : Fits Try.prog 50 8 c_erasureref26SameBag [.t 4] := ⟨⟨Try.f50, _, _, Try.func50, rfl, rfl, rfl, by decide, by kernel_rfl, by kernel_rfl⟩, Try.checked.mixed⟩
/- erasure/erasureref26.Change -/
def r_erasureref26Change_0 : ACode := .reg [
    ⟨some 1, none, .box 86 (.t 0)⟩,
    ⟨some 2, none, .mov (.k (.slice none 0 0))⟩] none [1]
def r_erasureref26Change_1 : ACode := .reg [
    ⟨some 4, none, .fld 0 (.t 1)⟩,
    ⟨some 5, none, .load none (.t 4)⟩,
    ⟨some 6, none, .fld 1 (.t 1)⟩,
    ⟨some 7, none, .load none (.t 6)⟩,
    ⟨some 8, none, .fld 2 (.t 1)⟩,
    ⟨some 9, none, .load none (.t 8)⟩,
    ⟨some 10, none, .fld 3 (.t 1)⟩,
    ⟨some 11, none, .load none (.t 10)⟩,
    ⟨some 12, none, .lit 3 1 4 [.int .i64 0] [(0, (.t 5)), (1, (.t 7)), (2, (.t 9)), (3, (.t 11))] false⟩,
    ⟨some 13, none, .call 99 [(.t 12)]⟩,
    ⟨some 14, none, .fld 4 (.t 1)⟩,
    ⟨some 15, none, .load none (.t 14)⟩,
    ⟨some 16, none, .call 44 [(.t 15)]⟩,
    ⟨some 17, none, .app 5 1 1 (.t 13) (.t 16)⟩,
    ⟨some 3, none, .mov (.t 17)⟩] (some [0, 1, 0, 4, 0, 16, 0, 64, 255, 511, 0, 1024, 4095, 8191, 16383]) [1, 3]
def r_erasureref26Change_2 : ACode := .reg [
    ⟨some 18, none, .mov (.t 3)⟩,
    ⟨some 19, none, .fld 5 (.t 1)⟩,
    ⟨some 20, none, .load (some 3) (.t 19)⟩,
    ⟨some 21, none, .call 42 [(.t 20)]⟩,
    ⟨some 22, none, .app 5 1 1 (.t 18) (.t 21)⟩,
    ⟨some 23, none, .fld 8 (.t 1)⟩,
    ⟨some 24, none, .load none (.t 23)⟩,
    ⟨some 25, none, .lit 3 1 1 [.int .i64 0] [(0, (.t 24))] false⟩,
    ⟨some 26, none, .call 99 [(.t 25)]⟩,
    ⟨some 27, none, .app 5 1 1 (.t 22) (.t 26)⟩,
    ⟨some 3, none, .mov (.t 27)⟩] (some [0, 0, 2, 6, 15, 0, 32, 96, 255, 511, 1023]) [1, 3]
def r_erasureref26Change_3 : ACode := .reg [
    ⟨some 28, none, .mov (.t 3)⟩,
    ⟨some 29, none, .fld 9 (.t 1)⟩,
    ⟨some 30, none, .load (some 3) (.t 29)⟩,
    ⟨some 31, none, .call 42 [(.t 30)]⟩,
    ⟨some 32, none, .app 5 1 1 (.t 28) (.t 31)⟩,
    ⟨some 2, none, .mov (.t 32)⟩] none [2]
def c_erasureref26Change : ACode :=
  (.seq r_erasureref26Change_0
  (.seq r_erasureref26Change_1
   (.seq r_erasureref26Change_2
    (.seq r_erasureref26Change_3
     .ret))))
theorem fits_erasureref26Change : Fits Try.prog 53 33 c_erasureref26Change [.t 2] := ⟨⟨Try.f53, _, _, Try.func53, rfl, rfl, rfl, by decide, by kernel_rfl, by kernel_rfl⟩, Try.checked.mixed⟩
/- erasure/erasureref26.SameChange -/
def r_erasureref26SameChange_0 : ACode := .reg [
    ⟨some 2, none, .box 86 (.t 0)⟩,
    ⟨some 3, none, .box 86 (.t 1)⟩,
    ⟨some 4, none, .mov (.k (.bool false))⟩] none [2, 3]
def r_erasureref26SameChange_1 : ACode := .reg [
    ⟨some 5, none, .fld 0 (.t 2)⟩,
    ⟨some 6, none, .load none (.t 5)⟩,
    ⟨some 7, none, .fld 0 (.t 3)⟩,
    ⟨some 8, none, .load none (.t 7)⟩,
    ⟨some 9, none, .bin .eql (.t 6) (.t 8)⟩,
    ⟨some 10, none, .mov (.t 9)⟩,
    ⟨some 11, (some (10, true)), .fld 1 (.t 2)⟩,
    ⟨some 12, (some (10, true)), .load none (.t 11)⟩,
    ⟨some 13, (some (10, true)), .fld 1 (.t 3)⟩,
    ⟨some 14, (some (10, true)), .load none (.t 13)⟩,
    ⟨some 15, (some (10, true)), .bin .eql (.t 12) (.t 14)⟩,
    ⟨some 16, none, .pick (.t 10) (.t 15) (.k (.bool false))⟩,
    ⟨some 17, none, .mov (.t 16)⟩,
    ⟨some 18, (some (17, true)), .fld 2 (.t 2)⟩,
    ⟨some 19, (some (17, true)), .load none (.t 18)⟩,
    ⟨some 20, (some (17, true)), .fld 2 (.t 3)⟩,
    ⟨some 21, (some (17, true)), .load none (.t 20)⟩,
    ⟨some 22, (some (17, true)), .bin .eql (.t 19) (.t 21)⟩,
    ⟨some 23, none, .pick (.t 17) (.t 22) (.k (.bool false))⟩,
    ⟨some 24, none, .mov (.t 23)⟩,
    ⟨some 25, (some (24, true)), .fld 3 (.t 2)⟩,
    ⟨some 26, (some (24, true)), .load none (.t 25)⟩,
    ⟨some 27, (some (24, true)), .fld 3 (.t 3)⟩,
    ⟨some 28, (some (24, true)), .load none (.t 27)⟩,
    ⟨some 29, (some (24, true)), .bin .eql (.t 26) (.t 28)⟩,
    ⟨some 30, none, .pick (.t 24) (.t 29) (.k (.bool false))⟩,
    ⟨some 31, none, .mov (.t 30)⟩,
    ⟨some 32, (some (31, true)), .fld 4 (.t 2)⟩,
    ⟨some 33, (some (31, true)), .load none (.t 32)⟩,
    ⟨some 34, (some (31, true)), .fld 4 (.t 3)⟩,
    ⟨some 35, (some (31, true)), .load none (.t 34)⟩,
    ⟨some 36, (some (31, true)), .call 45 [(.t 33), (.t 35)]⟩,
    ⟨some 37, none, .pick (.t 31) (.t 36) (.k (.bool false))⟩,
    ⟨some 38, none, .mov (.t 37)⟩,
    ⟨some 39, (some (38, true)), .fld 5 (.t 2)⟩,
    ⟨some 40, (some (38, true)), .load (some 3) (.t 39)⟩,
    ⟨some 41, (some (38, true)), .fld 5 (.t 3)⟩,
    ⟨some 42, (some (38, true)), .load (some 3) (.t 41)⟩,
    ⟨some 43, (some (38, true)), .eqa false [(2, .ti .i64), (1, .ts)] (.t 40) (.t 42)⟩,
    ⟨some 44, none, .pick (.t 38) (.t 43) (.k (.bool false))⟩,
    ⟨some 45, none, .mov (.t 44)⟩,
    ⟨some 46, (some (45, true)), .fld 8 (.t 2)⟩,
    ⟨some 47, (some (45, true)), .load none (.t 46)⟩,
    ⟨some 48, (some (45, true)), .fld 8 (.t 3)⟩,
    ⟨some 49, (some (45, true)), .load none (.t 48)⟩,
    ⟨some 50, (some (45, true)), .bin .eql (.t 47) (.t 49)⟩,
    ⟨some 51, none, .pick (.t 45) (.t 50) (.k (.bool false))⟩,
    ⟨some 52, none, .mov (.t 51)⟩,
    ⟨some 53, (some (52, true)), .fld 9 (.t 2)⟩,
    ⟨some 54, (some (52, true)), .load (some 3) (.t 53)⟩,
    ⟨some 55, (some (52, true)), .fld 9 (.t 3)⟩,
    ⟨some 56, (some (52, true)), .load (some 3) (.t 55)⟩,
    ⟨some 57, (some (52, true)), .eqa false [(2, .ti .i64), (1, .ts)] (.t 54) (.t 56)⟩,
    ⟨some 58, none, .pick (.t 52) (.t 57) (.k (.bool false))⟩,
    ⟨some 4, none, .mov (.t 58)⟩] none [4]
def c_erasureref26SameChange : ACode :=
  (.seq r_erasureref26SameChange_0
  (.seq r_erasureref26SameChange_1
   .ret))
theorem fits_erasureref26SameChange : Fits Try.prog 54 59 c_erasureref26SameChange [.t 4] := ⟨⟨Try.f54, _, _, Try.func54, rfl, rfl, rfl, by decide, by kernel_rfl, by kernel_rfl⟩, Try.checked.mixed⟩
/- erasure/erasureref26.Record -/
def r_erasureref26Record_0 : ACode := .reg [
    ⟨some 1, none, .box 95 (.t 0)⟩,
    ⟨some 2, none, .mov (.k (.slice none 0 0))⟩] none [1]
def r_erasureref26Record_1 : ACode := .reg [
    ⟨some 6, none, .fld 0 (.t 1)⟩,
    ⟨some 7, none, .load none (.t 6)⟩,
    ⟨some 8, none, .call 44 [(.t 7)]⟩,
    ⟨some 3, none, .mov (.t 8)⟩] none [1, 3]
def r_erasureref26Record_2 : ACode := .reg [
    ⟨some 4, none, .mov (.k (.int .i64 (0)))⟩] none [1, 3, 4]
def r_erasureref26Record_3 : ACode := .reg [
    ⟨some 9, none, .mov (.t 4)⟩,
    ⟨some 10, none, .fld 0 (.t 1)⟩,
    ⟨some 11, none, .load none (.t 10)⟩,
    ⟨some 12, none, .len (.t 11)⟩,
    ⟨some 13, none, .bin .lss (.t 9) (.t 12)⟩] none [1, 3, 4, 13]
def r_erasureref26Record_4 : ACode := .reg [
    ⟨some 5, none, .mov (.k (.int .i64 (0)))⟩] none [1, 3, 4, 5]
def r_erasureref26Record_5 : ACode := .reg [
    ⟨some 16, none, .mov (.t 4)⟩,
    ⟨some 17, none, .fld 1 (.t 1)⟩,
    ⟨some 18, none, .load none (.t 17)⟩,
    ⟨some 19, none, .len (.t 18)⟩,
    ⟨some 20, none, .bin .lss (.t 16) (.t 19)⟩] none [1, 3, 4, 5, 20]
def r_erasureref26Record_6 : ACode := .reg [
    ⟨some 21, none, .fld 1 (.t 1)⟩,
    ⟨some 22, none, .load none (.t 21)⟩,
    ⟨some 23, none, .mov (.t 4)⟩,
    ⟨some 24, none, .idxa 1 (.t 22) (.t 23)⟩,
    ⟨some 25, none, .load none (.t 24)⟩,
    ⟨some 5, none, .mov (.t 25)⟩] none [1, 3, 4, 5]
def r_erasureref26Record_7 : ACode := .reg [
    ⟨some 26, none, .mov (.t 3)⟩,
    ⟨some 27, none, .mov (.t 5)⟩,
    ⟨some 28, none, .call 22 [(.t 27)]⟩,
    ⟨some 29, none, .app 5 1 1 (.t 26) (.t 28)⟩,
    ⟨some 3, none, .mov (.t 29)⟩] none [1, 3, 4]
def r_erasureref26Record_8 : ACode := .reg [
    ⟨some 14, none, .mov (.t 4)⟩,
    ⟨some 15, none, .bin .add (.t 14) (.k (.int .i64 (1)))⟩,
    ⟨some 4, none, .mov (.t 15)⟩] none [1, 3, 4]
def r_erasureref26Record_9 : ACode := .reg [
    ⟨some 30, none, .mov (.t 3)⟩,
    ⟨some 31, none, .fld 2 (.t 1)⟩,
    ⟨some 32, none, .load none (.t 31)⟩,
    ⟨some 33, none, .call 22 [(.t 32)]⟩,
    ⟨some 34, none, .app 5 1 1 (.t 30) (.t 33)⟩,
    ⟨some 2, none, .mov (.t 34)⟩] none [2]
def c_erasureref26Record : ACode :=
  (.seq r_erasureref26Record_0
  (.seq r_erasureref26Record_1
   (.seq (.seq r_erasureref26Record_2
     (.block 0 (.loop (.seq (.seq r_erasureref26Record_3
         (.cond (.t 13)
          .skip
          (.exit 0)))
        (.seq (.block 1 (.seq r_erasureref26Record_4
           (.seq (.seq r_erasureref26Record_5
             (.cond (.t 20)
              r_erasureref26Record_6
              .skip))
            r_erasureref26Record_7)))
         r_erasureref26Record_8)))))
    (.seq r_erasureref26Record_9
     .ret))))
theorem fits_erasureref26Record : Fits Try.prog 57 35 c_erasureref26Record [.t 2] := ⟨⟨Try.f57, _, _, Try.func57, rfl, rfl, rfl, by decide, by kernel_rfl, by kernel_rfl⟩, Try.checked.mixed⟩
/- erasure/erasureref26.SameRecord -/
def r_erasureref26SameRecord_0 : ACode := .reg [
    ⟨some 2, none, .box 95 (.t 0)⟩,
    ⟨some 3, none, .box 95 (.t 1)⟩,
    ⟨some 4, none, .mov (.k (.bool false))⟩] none [2, 3]
def r_erasureref26SameRecord_1 : ACode := .reg [
    ⟨some 5, none, .load (some 3) (.t 2)⟩,
    ⟨some 6, none, .load (some 3) (.t 3)⟩,
    ⟨some 7, none, .call 112 [(.t 5), (.t 6)]⟩,
    ⟨some 4, none, .mov (.t 7)⟩] none [4]
def c_erasureref26SameRecord : ACode :=
  (.seq r_erasureref26SameRecord_0
  (.seq r_erasureref26SameRecord_1
   .ret))
theorem fits_erasureref26SameRecord : Fits Try.prog 58 8 c_erasureref26SameRecord [.t 4] := ⟨⟨Try.f58, _, _, Try.func58, rfl, rfl, rfl, by decide, by kernel_rfl, by kernel_rfl⟩, Try.checked.mixed⟩
/- erasure/erasureref26.Entry -/
def r_erasureref26Entry_0 : ACode := .reg [
    ⟨some 1, none, .box 111 (.t 0)⟩,
    ⟨some 2, none, .mov (.k (.slice none 0 0))⟩] none [1]
def r_erasureref26Entry_1 : ACode := .reg [
    ⟨some 4, none, .fld 0 (.t 1)⟩,
    ⟨some 5, none, .load none (.t 4)⟩,
    ⟨some 6, none, .fld 1 (.t 1)⟩,
    ⟨some 7, none, .load none (.t 6)⟩,
    ⟨some 8, none, .fld 2 (.t 1)⟩,
    ⟨some 9, none, .load none (.t 8)⟩,
    ⟨some 10, none, .fld 3 (.t 1)⟩,
    ⟨some 11, none, .load none (.t 10)⟩,
    ⟨some 12, none, .lit 3 1 4 [.int .i64 0] [(0, (.t 5)), (1, (.t 7)), (2, (.t 9)), (3, (.t 11))] false⟩,
    ⟨some 13, none, .call 99 [(.t 12)]⟩,
    ⟨some 3, none, .mov (.t 13)⟩] none [1, 3]
def r_erasureref26Entry_2 : ACode := .reg [
    ⟨some 14, none, .fld 0 (.t 1)⟩,
    ⟨some 15, none, .load none (.t 14)⟩] none [1, 3, 15]
def r_erasureref26Entry_3 : ACode := .reg [
    ⟨some 17, none, .bin .eql (.t 15) (.k (.int .i64 (1)))⟩,
    ⟨some 16, none, .mov (.t 17)⟩] none [1, 3, 15, 16]
def r_erasureref26Entry_4 : ACode := .reg [
    ⟨some 18, none, .mov (.t 3)⟩,
    ⟨some 19, none, .fld 4 (.t 1)⟩,
    ⟨some 20, none, .load (some 8) (.t 19)⟩,
    ⟨some 21, none, .call 67 [(.t 20)]⟩,
    ⟨some 22, none, .app 5 1 1 (.t 18) (.t 21)⟩,
    ⟨some 3, none, .mov (.t 22)⟩] none [3]
def r_erasureref26Entry_5 : ACode := .reg [
    ⟨some 24, none, .bin .eql (.t 15) (.k (.int .i64 (2)))⟩,
    ⟨some 23, none, .mov (.t 24)⟩] none [1, 3, 15, 23]
def r_erasureref26Entry_6 : ACode := .reg [
    ⟨some 25, none, .mov (.t 3)⟩,
    ⟨some 26, none, .fld 31 (.t 1)⟩,
    ⟨some 27, none, .load none (.t 26)⟩,
    ⟨some 28, none, .call 33 [(.t 27)]⟩,
    ⟨some 29, none, .app 5 1 1 (.t 25) (.t 28)⟩,
    ⟨some 30, none, .fld 32 (.t 1)⟩,
    ⟨some 31, none, .load none (.t 30)⟩,
    ⟨some 32, none, .call 34 [(.t 31)]⟩,
    ⟨some 33, none, .app 5 1 1 (.t 29) (.t 32)⟩,
    ⟨some 3, none, .mov (.t 33)⟩] (some [0, 0, 2, 6, 15, 0, 32, 127, 255, 511]) [3]
def r_erasureref26Entry_7 : ACode := .reg [
    ⟨some 35, none, .bin .eql (.t 15) (.k (.int .i64 (4)))⟩,
    ⟨some 34, none, .mov (.t 35)⟩] none [1, 3, 15, 34]
def r_erasureref26Entry_8 : ACode := .reg [
    ⟨some 36, none, .mov (.t 3)⟩,
    ⟨some 37, none, .fld 33 (.t 1)⟩,
    ⟨some 38, none, .load (some 32) (.t 37)⟩,
    ⟨some 39, none, .call 113 [(.t 38)]⟩,
    ⟨some 40, none, .app 5 1 1 (.t 36) (.t 39)⟩,
    ⟨some 3, none, .mov (.t 40)⟩] none [3]
def r_erasureref26Entry_9 : ACode := .reg [
    ⟨some 42, none, .bin .eql (.t 15) (.k (.int .i64 (6)))⟩,
    ⟨some 41, none, .mov (.t 42)⟩] none [1, 3, 15, 41]
def r_erasureref26Entry_10 : ACode := .reg [
    ⟨some 43, none, .mov (.t 3)⟩,
    ⟨some 44, none, .fld 12 (.t 1)⟩,
    ⟨some 45, none, .load (some 10) (.t 44)⟩,
    ⟨some 46, none, .call 68 [(.t 45)]⟩,
    ⟨some 47, none, .app 5 1 1 (.t 43) (.t 46)⟩,
    ⟨some 3, none, .mov (.t 47)⟩] none [3]
def r_erasureref26Entry_11 : ACode := .reg [
    ⟨some 49, none, .bin .eql (.t 15) (.k (.int .i64 (7)))⟩,
    ⟨some 48, none, .mov (.t 49)⟩] none [1, 3, 48]
def r_erasureref26Entry_12 : ACode := .reg [
    ⟨some 50, none, .mov (.t 3)⟩,
    ⟨some 51, none, .fld 22 (.t 1)⟩,
    ⟨some 52, none, .load (some 9) (.t 51)⟩,
    ⟨some 53, none, .call 69 [(.t 52)]⟩,
    ⟨some 54, none, .app 5 1 1 (.t 50) (.t 53)⟩,
    ⟨some 3, none, .mov (.t 54)⟩] none [3]
def r_erasureref26Entry_13 : ACode := .reg [
    ⟨some 55, none, .mov (.t 3)⟩,
    ⟨some 2, none, .mov (.t 55)⟩] none [2]
def c_erasureref26Entry : ACode :=
  (.seq r_erasureref26Entry_0
  (.seq r_erasureref26Entry_1
   (.seq (.seq r_erasureref26Entry_2
     (.block 0 (.seq r_erasureref26Entry_3
       (.cond (.t 16)
        r_erasureref26Entry_4
        (.seq r_erasureref26Entry_5
         (.cond (.t 23)
          r_erasureref26Entry_6
          (.seq r_erasureref26Entry_7
           (.cond (.t 34)
            r_erasureref26Entry_8
            (.seq r_erasureref26Entry_9
             (.cond (.t 41)
              r_erasureref26Entry_10
              (.seq r_erasureref26Entry_11
               (.cond (.t 48)
                r_erasureref26Entry_12
                .skip))))))))))))
    (.seq r_erasureref26Entry_13
     .ret))))
theorem fits_erasureref26Entry : Fits Try.prog 60 56 c_erasureref26Entry [.t 2] := ⟨⟨Try.f60, _, _, Try.func60, rfl, rfl, rfl, by decide, by kernel_rfl, by kernel_rfl⟩, Try.checked.mixed⟩
/- erasure/erasureref26.SameEntry -/
def r_erasureref26SameEntry_0 : ACode := .reg [
    ⟨some 2, none, .box 111 (.t 0)⟩,
    ⟨some 3, none, .box 111 (.t 1)⟩,
    ⟨some 4, none, .mov (.k (.bool false))⟩] none [2, 3]
def r_erasureref26SameEntry_1 : ACode := .reg [
    ⟨some 5, none, .fld 0 (.t 2)⟩,
    ⟨some 6, none, .load none (.t 5)⟩,
    ⟨some 7, none, .fld 0 (.t 3)⟩,
    ⟨some 8, none, .load none (.t 7)⟩,
    ⟨some 9, none, .bin .eql (.t 6) (.t 8)⟩,
    ⟨some 10, none, .mov (.t 9)⟩,
    ⟨some 11, (some (10, true)), .fld 1 (.t 2)⟩,
    ⟨some 12, (some (10, true)), .load none (.t 11)⟩,
    ⟨some 13, (some (10, true)), .fld 1 (.t 3)⟩,
    ⟨some 14, (some (10, true)), .load none (.t 13)⟩,
    ⟨some 15, (some (10, true)), .bin .eql (.t 12) (.t 14)⟩,
    ⟨some 16, none, .pick (.t 10) (.t 15) (.k (.bool false))⟩,
    ⟨some 17, none, .mov (.t 16)⟩,
    ⟨some 18, (some (17, true)), .fld 2 (.t 2)⟩,
    ⟨some 19, (some (17, true)), .load none (.t 18)⟩,
    ⟨some 20, (some (17, true)), .fld 2 (.t 3)⟩,
    ⟨some 21, (some (17, true)), .load none (.t 20)⟩,
    ⟨some 22, (some (17, true)), .bin .eql (.t 19) (.t 21)⟩,
    ⟨some 23, none, .pick (.t 17) (.t 22) (.k (.bool false))⟩,
    ⟨some 24, none, .mov (.t 23)⟩,
    ⟨some 25, (some (24, true)), .fld 3 (.t 2)⟩,
    ⟨some 26, (some (24, true)), .load none (.t 25)⟩,
    ⟨some 27, (some (24, true)), .fld 3 (.t 3)⟩,
    ⟨some 28, (some (24, true)), .load none (.t 27)⟩,
    ⟨some 29, (some (24, true)), .bin .eql (.t 26) (.t 28)⟩,
    ⟨some 30, none, .pick (.t 24) (.t 29) (.k (.bool false))⟩,
    ⟨some 31, none, .mov (.t 30)⟩,
    ⟨some 32, (some (31, true)), .fld 4 (.t 2)⟩,
    ⟨some 33, (some (31, true)), .load (some 8) (.t 32)⟩,
    ⟨some 34, (some (31, true)), .fld 4 (.t 3)⟩,
    ⟨some 35, (some (31, true)), .load (some 8) (.t 34)⟩,
    ⟨some 36, (some (31, true)), .eqa false [(1, .ti .i64), (1, .ts), (2, .ti .i64), (1, .ts), (3, .ti .i64)] (.t 33) (.t 35)⟩,
    ⟨some 37, none, .pick (.t 31) (.t 36) (.k (.bool false))⟩,
    ⟨some 38, none, .mov (.t 37)⟩,
    ⟨some 39, (some (38, true)), .fld 12 (.t 2)⟩,
    ⟨some 40, (some (38, true)), .load (some 10) (.t 39)⟩,
    ⟨some 41, (some (38, true)), .fld 12 (.t 3)⟩,
    ⟨some 42, (some (38, true)), .load (some 10) (.t 41)⟩,
    ⟨some 43, (some (38, true)), .eqa false [(1, .ts), (2, .ti .i64), (2, .ts), (2, .ti .i64), (1, .ts), (1, .ti .i64), (1, .tb)] (.t 40) (.t 42)⟩,
    ⟨some 44, none, .pick (.t 38) (.t 43) (.k (.bool false))⟩,
    ⟨some 45, none, .mov (.t 44)⟩,
    ⟨some 46, (some (45, true)), .fld 22 (.t 2)⟩,
    ⟨some 47, (some (45, true)), .load (some 9) (.t 46)⟩,
    ⟨some 48, (some (45, true)), .fld 22 (.t 3)⟩,
    ⟨some 49, (some (45, true)), .load (some 9) (.t 48)⟩,
    ⟨some 50, (some (45, true)), .eqa false [(2, .ti .i64), (1, .ts), (2, .ti .i64), (1, .ts), (3, .ti .i64)] (.t 47) (.t 49)⟩,
    ⟨some 51, none, .pick (.t 45) (.t 50) (.k (.bool false))⟩,
    ⟨some 52, none, .mov (.t 51)⟩,
    ⟨some 53, (some (52, true)), .fld 31 (.t 2)⟩,
    ⟨some 54, (some (52, true)), .load none (.t 53)⟩,
    ⟨some 55, (some (52, true)), .fld 31 (.t 3)⟩,
    ⟨some 56, (some (52, true)), .load none (.t 55)⟩,
    ⟨some 57, (some (52, true)), .call 35 [(.t 54), (.t 56)]⟩,
    ⟨some 58, none, .pick (.t 52) (.t 57) (.k (.bool false))⟩,
    ⟨some 59, none, .mov (.t 58)⟩,
    ⟨some 60, (some (59, true)), .fld 32 (.t 2)⟩,
    ⟨some 61, (some (59, true)), .load none (.t 60)⟩,
    ⟨some 62, (some (59, true)), .fld 32 (.t 3)⟩,
    ⟨some 63, (some (59, true)), .load none (.t 62)⟩,
    ⟨some 64, (some (59, true)), .call 36 [(.t 61), (.t 63)]⟩,
    ⟨some 65, none, .pick (.t 59) (.t 64) (.k (.bool false))⟩,
    ⟨some 66, none, .mov (.t 65)⟩,
    ⟨some 67, (some (66, true)), .fld 33 (.t 2)⟩,
    ⟨some 68, (some (66, true)), .load (some 32) (.t 67)⟩,
    ⟨some 69, (some (66, true)), .fld 33 (.t 3)⟩,
    ⟨some 70, (some (66, true)), .load (some 32) (.t 69)⟩,
    ⟨some 71, (some (66, true)), .eqa false [(32, .ti .u8)] (.t 68) (.t 70)⟩,
    ⟨some 72, none, .pick (.t 66) (.t 71) (.k (.bool false))⟩,
    ⟨some 4, none, .mov (.t 72)⟩] none [4]
def c_erasureref26SameEntry : ACode :=
  (.seq r_erasureref26SameEntry_0
  (.seq r_erasureref26SameEntry_1
   .ret))
theorem fits_erasureref26SameEntry : Fits Try.prog 62 73 c_erasureref26SameEntry [.t 4] := ⟨⟨Try.f62, _, _, Try.func62, rfl, rfl, rfl, by decide, by kernel_rfl, by kernel_rfl⟩, Try.checked.mixed⟩
/- erasure/erasureref26.Request -/
def r_erasureref26Request_0 : ACode := .reg [
    ⟨some 1, none, .box 105 (.t 0)⟩,
    ⟨some 2, none, .mov (.k (.slice none 0 0))⟩] none [1]
def r_erasureref26Request_1 : ACode := .reg [
    ⟨some 3, none, .fld 0 (.t 1)⟩,
    ⟨some 4, none, .load none (.t 3)⟩,
    ⟨some 5, none, .lit 3 1 1 [.int .i64 0] [(0, (.t 4))] false⟩,
    ⟨some 6, none, .call 99 [(.t 5)]⟩,
    ⟨some 7, none, .fld 1 (.t 1)⟩,
    ⟨some 8, none, .load (some 4) (.t 7)⟩,
    ⟨some 9, none, .call 121 [(.t 8)]⟩,
    ⟨some 10, none, .app 5 1 1 (.t 6) (.t 9)⟩,
    ⟨some 11, none, .fld 5 (.t 1)⟩,
    ⟨some 12, none, .load none (.t 11)⟩,
    ⟨some 13, none, .fld 6 (.t 1)⟩,
    ⟨some 14, none, .load none (.t 13)⟩,
    ⟨some 15, none, .fld 7 (.t 1)⟩,
    ⟨some 16, none, .load none (.t 15)⟩,
    ⟨some 17, none, .lit 3 1 3 [.int .i64 0] [(0, (.t 12)), (1, (.t 14)), (2, (.t 16))] false⟩,
    ⟨some 18, none, .call 99 [(.t 17)]⟩,
    ⟨some 19, none, .app 5 1 1 (.t 10) (.t 18)⟩,
    ⟨some 2, none, .mov (.t 19)⟩] (some [0, 1, 3, 7, 0, 16, 63, 127, 0, 256, 0, 1024, 0, 4096, 16128, 32767, 65535, 131071]) [2]
def c_erasureref26Request : ACode :=
  (.seq r_erasureref26Request_0
  (.seq r_erasureref26Request_1
   .ret))
theorem fits_erasureref26Request : Fits Try.prog 67 20 c_erasureref26Request [.t 2] := ⟨⟨Try.f67, _, _, Try.func67, rfl, rfl, rfl, by decide, by kernel_rfl, by kernel_rfl⟩, Try.checked.mixed⟩
/- erasure/erasureref26.Link -/
def r_erasureref26Link_0 : ACode := .reg [
    ⟨some 1, none, .box 107 (.t 0)⟩,
    ⟨some 2, none, .mov (.k (.slice none 0 0))⟩] none [1]
def r_erasureref26Link_1 : ACode := .reg [
    ⟨some 3, none, .mov (.k (.int .i64 (0)))⟩] none [1, 3]
def r_erasureref26Link_2 : ACode := .reg [
    ⟨some 4, none, .fld 9 (.t 1)⟩,
    ⟨some 5, none, .load none (.t 4)⟩] none [1, 3, 5]
def r_erasureref26Link_3 : ACode := .reg [
    ⟨some 3, none, .mov (.k (.int .i64 (1)))⟩] none [1, 3]
def r_erasureref26Link_4 : ACode := .reg [
    ⟨some 6, none, .fld 0 (.t 1)⟩,
    ⟨some 7, none, .load (some 4) (.t 6)⟩,
    ⟨some 8, none, .call 121 [(.t 7)]⟩,
    ⟨some 9, none, .fld 4 (.t 1)⟩,
    ⟨some 10, none, .load (some 4) (.t 9)⟩,
    ⟨some 11, none, .call 121 [(.t 10)]⟩,
    ⟨some 12, none, .app 5 1 1 (.t 8) (.t 11)⟩,
    ⟨some 13, none, .fld 8 (.t 1)⟩,
    ⟨some 14, none, .load none (.t 13)⟩,
    ⟨some 15, none, .mov (.t 3)⟩,
    ⟨some 16, none, .lit 3 1 2 [.int .i64 0] [(0, (.t 14)), (1, (.t 15))] false⟩,
    ⟨some 17, none, .call 99 [(.t 16)]⟩,
    ⟨some 18, none, .app 5 1 1 (.t 12) (.t 17)⟩,
    ⟨some 2, none, .mov (.t 18)⟩] (some [0, 1, 3, 0, 8, 31, 63, 0, 128, 0, 896, 2047, 4095, 8191]) [2]
def c_erasureref26Link : ACode :=
  (.seq r_erasureref26Link_0
  (.seq r_erasureref26Link_1
   (.seq (.seq r_erasureref26Link_2
     (.cond (.t 5)
      r_erasureref26Link_3
      .skip))
    (.seq r_erasureref26Link_4
     .ret))))
theorem fits_erasureref26Link : Fits Try.prog 68 19 c_erasureref26Link [.t 2] := ⟨⟨Try.f68, _, _, Try.func68, rfl, rfl, rfl, by decide, by kernel_rfl, by kernel_rfl⟩, Try.checked.mixed⟩
/- erasure/erasureref26.Hold -/
def r_erasureref26Hold_0 : ACode := .reg [
    ⟨some 1, none, .box 109 (.t 0)⟩,
    ⟨some 2, none, .mov (.k (.slice none 0 0))⟩] none [1]
def r_erasureref26Hold_1 : ACode := .reg [
    ⟨some 3, none, .fld 0 (.t 1)⟩,
    ⟨some 4, none, .load none (.t 3)⟩,
    ⟨some 5, none, .fld 1 (.t 1)⟩,
    ⟨some 6, none, .load none (.t 5)⟩,
    ⟨some 7, none, .lit 3 1 2 [.int .i64 0] [(0, (.t 4)), (1, (.t 6))] false⟩,
    ⟨some 8, none, .call 99 [(.t 7)]⟩,
    ⟨some 9, none, .fld 2 (.t 1)⟩,
    ⟨some 10, none, .load (some 4) (.t 9)⟩,
    ⟨some 11, none, .call 121 [(.t 10)]⟩,
    ⟨some 12, none, .app 5 1 1 (.t 8) (.t 11)⟩,
    ⟨some 13, none, .fld 6 (.t 1)⟩,
    ⟨some 14, none, .load none (.t 13)⟩,
    ⟨some 15, none, .fld 7 (.t 1)⟩,
    ⟨some 16, none, .load none (.t 15)⟩,
    ⟨some 17, none, .fld 8 (.t 1)⟩,
    ⟨some 18, none, .load none (.t 17)⟩,
    ⟨some 19, none, .lit 3 1 3 [.int .i64 0] [(0, (.t 14)), (1, (.t 16)), (2, (.t 18))] false⟩,
    ⟨some 20, none, .call 99 [(.t 19)]⟩,
    ⟨some 21, none, .app 5 1 1 (.t 12) (.t 20)⟩,
    ⟨some 2, none, .mov (.t 21)⟩] (some [0, 1, 0, 4, 15, 31, 0, 64, 255, 511, 0, 1024, 0, 4096, 0, 16384, 64512, 131071, 262143, 524287]) [2]
def c_erasureref26Hold : ACode :=
  (.seq r_erasureref26Hold_0
  (.seq r_erasureref26Hold_1
   .ret))
theorem fits_erasureref26Hold : Fits Try.prog 69 22 c_erasureref26Hold [.t 2] := ⟨⟨Try.f69, _, _, Try.func69, rfl, rfl, rfl, by decide, by kernel_rfl, by kernel_rfl⟩, Try.checked.mixed⟩
/- (*erasure/erasureref26.Reader).Value -/
def r_erasureref26Reader_Value_0 : ACode := .reg [
    ⟨some 2, none, .alloc 67 [.int .i64 0, .int .i64 0, .string ⟨#[]⟩]⟩] none [0, 2]
def r_erasureref26Reader_Value_1 : ACode := .reg [
    ⟨some 5, none, .mov (.t 0)⟩,
    ⟨some 6, none, .call 124 [(.t 5), (.k (.int .i64 (2)))]⟩,
    ⟨some 3, none, .mov (.t 6)⟩] none [0, 2, 3]
def r_erasureref26Reader_Value_2 : ACode := .reg [
    ⟨some 7, none, .mov (.t 3)⟩,
    ⟨some 8, none, .build [.int .i64 0, .int .i64 0, .string ⟨#[]⟩] [(0, 1, (.t 7))]⟩,
    ⟨some 4, none, .alloc 67 [.int .i64 0, .int .i64 0, .string ⟨#[]⟩]⟩,
    ⟨none, none, .store 3 (.t 4) (.t 8)⟩] none [0, 2, 3, 4]
def r_erasureref26Reader_Value_3 : ACode := .reg [
    ⟨some 9, none, .mov (.t 3)⟩,
    ⟨some 10, none, .bin .eql (.t 9) (.k (.int .i64 (1)))⟩] none [0, 2, 3, 4, 10]
def r_erasureref26Reader_Value_4 : ACode := .reg [
    ⟨some 11, none, .mov (.t 0)⟩,
    ⟨some 12, none, .call 23 [(.t 11)]⟩,
    ⟨some 13, none, .fld 1 (.t 4)⟩,
    ⟨none, none, .store 1 (.t 13) (.t 12)⟩] none [0, 2, 3, 4]
def r_erasureref26Reader_Value_5 : ACode := .reg [
    ⟨some 14, none, .fld 1 (.t 4)⟩,
    ⟨some 15, none, .load none (.t 14)⟩,
    ⟨some 16, none, .bin .lss (.t 15) (.k (.int .i64 (-4294967296)))⟩,
    ⟨some 17, none, .mov (.t 16)⟩,
    ⟨some 18, (some (17, false)), .fld 1 (.t 4)⟩,
    ⟨some 19, (some (17, false)), .load none (.t 18)⟩,
    ⟨some 20, (some (17, false)), .bin .gtr (.t 19) (.k (.int .i64 (4294967296)))⟩,
    ⟨some 21, none, .pick (.t 17) (.k (.bool true)) (.t 20)⟩] none [0, 2, 3, 4, 21]
def r_erasureref26Reader_Value_6 : ACode := .reg [
    ⟨some 22, none, .mov (.t 0)⟩,
    ⟨some 23, none, .call 91 [(.t 22), (.k (.int .i64 (1)))]⟩] none [0, 2, 3, 4]
def r_erasureref26Reader_Value_7 : ACode := .reg [
    ⟨some 24, none, .mov (.t 3)⟩,
    ⟨some 25, none, .bin .eql (.t 24) (.k (.int .i64 (2)))⟩] none [0, 2, 4, 25]
def r_erasureref26Reader_Value_8 : ACode := .reg [
    ⟨some 26, none, .mov (.t 0)⟩,
    ⟨some 27, none, .call 125 [(.t 26), (.k (.int .i64 (32)))]⟩,
    ⟨some 28, none, .fld 2 (.t 4)⟩,
    ⟨none, none, .store 1 (.t 28) (.t 27)⟩] none [2, 4]
def r_erasureref26Reader_Value_9 : ACode := .reg [
    ⟨some 29, none, .load (some 3) (.t 4)⟩,
    ⟨none, none, .store 3 (.t 2) (.t 29)⟩] none [2]
def c_erasureref26Reader_Value : ACode :=
  (.seq r_erasureref26Reader_Value_0
  (.seq r_erasureref26Reader_Value_1
   (.seq r_erasureref26Reader_Value_2
    (.seq (.seq r_erasureref26Reader_Value_3
      (.cond (.t 10)
       (.seq r_erasureref26Reader_Value_4
        (.seq r_erasureref26Reader_Value_5
         (.cond (.t 21)
          r_erasureref26Reader_Value_6
          .skip)))
       .skip))
     (.seq (.seq r_erasureref26Reader_Value_7
       (.cond (.t 25)
        r_erasureref26Reader_Value_8
        .skip))
      (.seq r_erasureref26Reader_Value_9
       .ret))))))
theorem fits_erasureref26Reader_Value : Fits Try.prog 78 30 c_erasureref26Reader_Value [.c 2 (some 3)] := ⟨⟨Try.f78, _, _, Try.func78, rfl, rfl, rfl, by decide, by kernel_rfl, by kernel_rfl⟩, Try.checked.mixed⟩
/- (*erasure/erasureref26.Reader).Row -/
def r_erasureref26Reader_Row_0 : ACode := .reg [
    ⟨some 2, none, .mov (.k (.slice none 0 0))⟩] none [0]
def r_erasureref26Reader_Row_1 : ACode := .reg [
    ⟨some 3, none, .mov (.k (.slice none 0 0))⟩] none [0, 3]
def r_erasureref26Reader_Row_2 : ACode := .reg [
    ⟨some 6, none, .mov (.t 0)⟩,
    ⟨some 7, none, .call 124 [(.t 6), (.k (.int .i64 (16)))]⟩,
    ⟨some 4, none, .mov (.t 7)⟩] none [0, 3, 4]
def r_erasureref26Reader_Row_3 : ACode := .reg [
    ⟨some 5, none, .mov (.k (.int .i64 (0)))⟩] none [0, 3, 4, 5]
def r_erasureref26Reader_Row_4 : ACode := .reg [
    ⟨some 8, none, .mov (.t 5)⟩,
    ⟨some 9, none, .mov (.t 4)⟩,
    ⟨some 10, none, .bin .lss (.t 8) (.t 9)⟩,
    ⟨some 11, none, .mov (.t 10)⟩,
    ⟨some 12, (some (11, true)), .mov (.t 0)⟩,
    ⟨some 13, (some (11, true)), .nilck (.t 12)⟩,
    ⟨some 14, (some (11, true)), .fld 1 (.t 13)⟩,
    ⟨some 15, (some (11, true)), .load none (.t 14)⟩,
    ⟨some 16, (some (11, true)), .bin .eql (.t 15) (.k (.int .i64 (0)))⟩,
    ⟨some 17, none, .pick (.t 11) (.t 16) (.k (.bool false))⟩] none [0, 3, 4, 5, 17]
def r_erasureref26Reader_Row_5 : ACode := .reg [
    ⟨some 20, none, .mov (.t 3)⟩,
    ⟨some 21, none, .mov (.t 0)⟩,
    ⟨some 22, none, .call 78 [(.t 21)]⟩,
    ⟨some 23, none, .lit 67 3 1 [.int .i64 0, .int .i64 0, .string ⟨#[]⟩] [(0, (.t 22))] false⟩,
    ⟨some 24, none, .app 67 3 32 (.t 20) (.t 23)⟩,
    ⟨some 3, none, .mov (.t 24)⟩] none [0, 3, 4, 5]
def r_erasureref26Reader_Row_6 : ACode := .reg [
    ⟨some 18, none, .mov (.t 5)⟩,
    ⟨some 19, none, .bin .add (.t 18) (.k (.int .i64 (1)))⟩,
    ⟨some 5, none, .mov (.t 19)⟩] none [0, 3, 4, 5]
def r_erasureref26Reader_Row_7 : ACode := .reg [
    ⟨some 25, none, .mov (.t 3)⟩,
    ⟨some 2, none, .mov (.t 25)⟩] none [2]
def c_erasureref26Reader_Row : ACode :=
  (.seq r_erasureref26Reader_Row_0
  (.seq r_erasureref26Reader_Row_1
   (.seq r_erasureref26Reader_Row_2
    (.seq (.seq r_erasureref26Reader_Row_3
      (.block 0 (.loop (.seq (.seq r_erasureref26Reader_Row_4
          (.cond (.t 17)
           .skip
           (.exit 0)))
         (.seq (.block 1 r_erasureref26Reader_Row_5)
          r_erasureref26Reader_Row_6)))))
     (.seq r_erasureref26Reader_Row_7
      .ret)))))
theorem fits_erasureref26Reader_Row : Fits Try.prog 79 26 c_erasureref26Reader_Row [.t 2] := ⟨⟨Try.f79, _, _, Try.func79, rfl, rfl, rfl, by decide, by kernel_rfl, by kernel_rfl⟩, Try.checked.mixed⟩
/- (*erasure/erasureref26.Reader).Record -/
def r_erasureref26Reader_Record_0 : ACode := .reg [
    ⟨some 2, none, .alloc 95 [.slice none 0 0, .slice none 0 0, .int .i64 0]⟩] none [0, 2]
def r_erasureref26Reader_Record_1 : ACode := .reg [
    ⟨some 5, none, .mov (.t 0)⟩,
    ⟨some 6, none, .call 79 [(.t 5)]⟩,
    ⟨some 7, none, .build [.slice none 0 0, .slice none 0 0, .int .i64 0] [(0, 1, (.t 6))]⟩,
    ⟨some 3, none, .alloc 95 [.slice none 0 0, .slice none 0 0, .int .i64 0]⟩,
    ⟨none, none, .store 3 (.t 3) (.t 7)⟩] none [0, 2, 3]
def r_erasureref26Reader_Record_2 : ACode := .reg [
    ⟨some 4, none, .mov (.k (.int .i64 (0)))⟩] none [0, 2, 3, 4]
def r_erasureref26Reader_Record_3 : ACode := .reg [
    ⟨some 8, none, .mov (.t 4)⟩,
    ⟨some 9, none, .fld 0 (.t 3)⟩,
    ⟨some 10, none, .load none (.t 9)⟩,
    ⟨some 11, none, .len (.t 10)⟩,
    ⟨some 12, none, .bin .lss (.t 8) (.t 11)⟩,
    ⟨some 13, none, .mov (.t 12)⟩,
    ⟨some 14, (some (13, true)), .mov (.t 0)⟩,
    ⟨some 15, (some (13, true)), .nilck (.t 14)⟩,
    ⟨some 16, (some (13, true)), .fld 1 (.t 15)⟩,
    ⟨some 17, (some (13, true)), .load none (.t 16)⟩,
    ⟨some 18, (some (13, true)), .bin .eql (.t 17) (.k (.int .i64 (0)))⟩,
    ⟨some 19, none, .pick (.t 13) (.t 18) (.k (.bool false))⟩] none [0, 2, 3, 4, 19]
def r_erasureref26Reader_Record_4 : ACode := .reg [
    ⟨some 22, none, .fld 1 (.t 3)⟩,
    ⟨some 23, none, .load none (.t 22)⟩,
    ⟨some 24, none, .mov (.t 0)⟩,
    ⟨some 25, none, .call 23 [(.t 24)]⟩,
    ⟨some 26, none, .lit 3 1 1 [.int .i64 0] [(0, (.t 25))] false⟩,
    ⟨some 27, none, .app 3 1 8 (.t 23) (.t 26)⟩,
    ⟨some 28, none, .fld 1 (.t 3)⟩,
    ⟨none, none, .store 1 (.t 28) (.t 27)⟩] (some [0, 1, 0, 4, 12, 31, 63, 127]) [0, 2, 3, 4]
def r_erasureref26Reader_Record_5 : ACode := .reg [
    ⟨some 20, none, .mov (.t 4)⟩,
    ⟨some 21, none, .bin .add (.t 20) (.k (.int .i64 (1)))⟩,
    ⟨some 4, none, .mov (.t 21)⟩] none [0, 2, 3, 4]
def r_erasureref26Reader_Record_6 : ACode := .reg [
    ⟨some 29, none, .mov (.t 0)⟩,
    ⟨some 30, none, .call 23 [(.t 29)]⟩,
    ⟨some 31, none, .fld 2 (.t 3)⟩,
    ⟨none, none, .store 1 (.t 31) (.t 30)⟩] none [2, 3]
def r_erasureref26Reader_Record_7 : ACode := .reg [
    ⟨some 32, none, .load (some 3) (.t 3)⟩,
    ⟨none, none, .store 3 (.t 2) (.t 32)⟩] none [2]
def c_erasureref26Reader_Record : ACode :=
  (.seq r_erasureref26Reader_Record_0
  (.seq r_erasureref26Reader_Record_1
   (.seq (.seq r_erasureref26Reader_Record_2
     (.block 0 (.loop (.seq (.seq r_erasureref26Reader_Record_3
         (.cond (.t 19)
          .skip
          (.exit 0)))
        (.seq (.block 1 r_erasureref26Reader_Record_4)
         r_erasureref26Reader_Record_5)))))
    (.seq r_erasureref26Reader_Record_6
     (.seq r_erasureref26Reader_Record_7
      .ret)))))
theorem fits_erasureref26Reader_Record : Fits Try.prog 80 33 c_erasureref26Reader_Record [.c 2 (some 3)] := ⟨⟨Try.f80, _, _, Try.func80, rfl, rfl, rfl, by decide, by kernel_rfl, by kernel_rfl⟩, Try.checked.mixed⟩
/- (*erasure/erasureref26.Reader).Bag -/
def r_erasureref26Reader_Bag_0 : ACode := .reg [
    ⟨some 2, none, .mov (.k (.slice none 0 0))⟩] none [0]
def r_erasureref26Reader_Bag_1 : ACode := .reg [
    ⟨some 3, none, .mov (.k (.slice none 0 0))⟩] none [0, 3]
def r_erasureref26Reader_Bag_2 : ACode := .reg [
    ⟨some 7, none, .mov (.t 0)⟩,
    ⟨some 8, none, .call 124 [(.t 7), (.k (.int .i64 (4096)))]⟩,
    ⟨some 4, none, .mov (.t 8)⟩] none [0, 3, 4]
def r_erasureref26Reader_Bag_3 : ACode := .reg [
    ⟨some 5, none, .mov (.k (.int .i64 (0)))⟩] none [0, 3, 4, 5]
def r_erasureref26Reader_Bag_4 : ACode := .reg [
    ⟨some 9, none, .mov (.t 5)⟩,
    ⟨some 10, none, .mov (.t 4)⟩,
    ⟨some 11, none, .bin .lss (.t 9) (.t 10)⟩,
    ⟨some 12, none, .mov (.t 11)⟩,
    ⟨some 13, (some (12, true)), .mov (.t 0)⟩,
    ⟨some 14, (some (12, true)), .nilck (.t 13)⟩,
    ⟨some 15, (some (12, true)), .fld 1 (.t 14)⟩,
    ⟨some 16, (some (12, true)), .load none (.t 15)⟩,
    ⟨some 17, (some (12, true)), .bin .eql (.t 16) (.k (.int .i64 (0)))⟩,
    ⟨some 18, none, .pick (.t 12) (.t 17) (.k (.bool false))⟩] none [0, 3, 4, 5, 18]
def r_erasureref26Reader_Bag_5 : ACode := .reg [
    ⟨some 21, none, .mov (.t 0)⟩,
    ⟨some 22, none, .call 79 [(.t 21)]⟩,
    ⟨some 6, none, .mov (.t 22)⟩] none [0, 3, 4, 5, 6]
def r_erasureref26Reader_Bag_6 : ACode := .reg [
    ⟨some 23, none, .mov (.t 3)⟩,
    ⟨some 24, none, .mov (.t 6)⟩,
    ⟨some 25, none, .mov (.t 0)⟩,
    ⟨some 26, none, .call 23 [(.t 25)]⟩,
    ⟨some 27, none, .build [.slice none 0 0, .int .i64 0] [(0, 1, (.t 24)), (1, 1, (.t 26))]⟩,
    ⟨some 28, none, .lit 78 2 1 [.slice none 0 0, .int .i64 0] [(0, (.t 27))] false⟩,
    ⟨some 29, none, .app 78 2 32 (.t 23) (.t 28)⟩,
    ⟨some 3, none, .mov (.t 29)⟩] none [0, 3, 4, 5]
def r_erasureref26Reader_Bag_7 : ACode := .reg [
    ⟨some 19, none, .mov (.t 5)⟩,
    ⟨some 20, none, .bin .add (.t 19) (.k (.int .i64 (1)))⟩,
    ⟨some 5, none, .mov (.t 20)⟩] none [0, 3, 4, 5]
def r_erasureref26Reader_Bag_8 : ACode := .reg [
    ⟨some 30, none, .mov (.t 3)⟩,
    ⟨some 2, none, .mov (.t 30)⟩] none [2]
def c_erasureref26Reader_Bag : ACode :=
  (.seq r_erasureref26Reader_Bag_0
  (.seq r_erasureref26Reader_Bag_1
   (.seq r_erasureref26Reader_Bag_2
    (.seq (.seq r_erasureref26Reader_Bag_3
      (.block 0 (.loop (.seq (.seq r_erasureref26Reader_Bag_4
          (.cond (.t 18)
           .skip
           (.exit 0)))
         (.seq (.block 1 (.seq r_erasureref26Reader_Bag_5
            r_erasureref26Reader_Bag_6))
          r_erasureref26Reader_Bag_7)))))
     (.seq r_erasureref26Reader_Bag_8
      .ret)))))
theorem fits_erasureref26Reader_Bag : Fits Try.prog 81 31 c_erasureref26Reader_Bag [.t 2] := ⟨⟨Try.f81, _, _, Try.func81, rfl, rfl, rfl, by decide, by kernel_rfl, by kernel_rfl⟩, Try.checked.mixed⟩
/- (*erasure/erasureref26.Reader).Change -/
def r_erasureref26Reader_Change_0 : ACode := .reg [
    ⟨some 2, none, .alloc 86 [.int .i64 0, .int .i64 0, .int .i64 0, .int .i64 0, .slice none 0 0, .int .i64 0, .int .i64 0, .string ⟨#[]⟩, .int .i64 0, .int .i64 0, .int .i64 0, .string ⟨#[]⟩]⟩] none [0, 2]
def r_erasureref26Reader_Change_1 : ACode := .reg [
    ⟨some 4, none, .mov (.t 0)⟩,
    ⟨some 5, none, .call 23 [(.t 4)]⟩,
    ⟨some 6, none, .build [.int .i64 0, .int .i64 0, .int .i64 0, .int .i64 0, .slice none 0 0, .int .i64 0, .int .i64 0, .string ⟨#[]⟩, .int .i64 0, .int .i64 0, .int .i64 0, .string ⟨#[]⟩] [(0, 1, (.t 5))]⟩,
    ⟨some 3, none, .alloc 86 [.int .i64 0, .int .i64 0, .int .i64 0, .int .i64 0, .slice none 0 0, .int .i64 0, .int .i64 0, .string ⟨#[]⟩, .int .i64 0, .int .i64 0, .int .i64 0, .string ⟨#[]⟩]⟩,
    ⟨none, none, .store 12 (.t 3) (.t 6)⟩] none [0, 2, 3]
def r_erasureref26Reader_Change_2 : ACode := .reg [
    ⟨some 7, none, .mov (.t 0)⟩,
    ⟨some 8, none, .call 23 [(.t 7)]⟩,
    ⟨some 9, none, .fld 1 (.t 3)⟩,
    ⟨none, none, .store 1 (.t 9) (.t 8)⟩] none [0, 2, 3]
def r_erasureref26Reader_Change_3 : ACode := .reg [
    ⟨some 10, none, .mov (.t 0)⟩,
    ⟨some 11, none, .call 23 [(.t 10)]⟩,
    ⟨some 12, none, .fld 2 (.t 3)⟩,
    ⟨none, none, .store 1 (.t 12) (.t 11)⟩] none [0, 2, 3]
def r_erasureref26Reader_Change_4 : ACode := .reg [
    ⟨some 13, none, .mov (.t 0)⟩,
    ⟨some 14, none, .call 23 [(.t 13)]⟩,
    ⟨some 15, none, .fld 3 (.t 3)⟩,
    ⟨none, none, .store 1 (.t 15) (.t 14)⟩] none [0, 2, 3]
def r_erasureref26Reader_Change_5 : ACode := .reg [
    ⟨some 16, none, .mov (.t 0)⟩,
    ⟨some 17, none, .call 79 [(.t 16)]⟩,
    ⟨some 18, none, .fld 4 (.t 3)⟩,
    ⟨none, none, .store 1 (.t 18) (.t 17)⟩] none [0, 2, 3]
def r_erasureref26Reader_Change_6 : ACode := .reg [
    ⟨some 19, none, .mov (.t 0)⟩,
    ⟨some 20, none, .call 78 [(.t 19)]⟩,
    ⟨some 21, none, .fld 5 (.t 3)⟩,
    ⟨none, none, .store 3 (.t 21) (.t 20)⟩] none [0, 2, 3]
def r_erasureref26Reader_Change_7 : ACode := .reg [
    ⟨some 22, none, .mov (.t 0)⟩,
    ⟨some 23, none, .call 23 [(.t 22)]⟩,
    ⟨some 24, none, .fld 8 (.t 3)⟩,
    ⟨none, none, .store 1 (.t 24) (.t 23)⟩] none [0, 2, 3]
def r_erasureref26Reader_Change_8 : ACode := .reg [
    ⟨some 25, none, .mov (.t 0)⟩,
    ⟨some 26, none, .call 78 [(.t 25)]⟩,
    ⟨some 27, none, .fld 9 (.t 3)⟩,
    ⟨none, none, .store 3 (.t 27) (.t 26)⟩] none [2, 3]
def r_erasureref26Reader_Change_9 : ACode := .reg [
    ⟨some 28, none, .load (some 12) (.t 3)⟩,
    ⟨none, none, .store 12 (.t 2) (.t 28)⟩] none [2]
def c_erasureref26Reader_Change : ACode :=
  (.seq r_erasureref26Reader_Change_0
  (.seq r_erasureref26Reader_Change_1
   (.seq r_erasureref26Reader_Change_2
    (.seq r_erasureref26Reader_Change_3
     (.seq r_erasureref26Reader_Change_4
      (.seq r_erasureref26Reader_Change_5
       (.seq r_erasureref26Reader_Change_6
        (.seq r_erasureref26Reader_Change_7
         (.seq r_erasureref26Reader_Change_8
          (.seq r_erasureref26Reader_Change_9
           .ret))))))))))
theorem fits_erasureref26Reader_Change : Fits Try.prog 82 29 c_erasureref26Reader_Change [.c 2 (some 12)] := ⟨⟨Try.f82, _, _, Try.func82, rfl, rfl, rfl, by decide, by kernel_rfl, by kernel_rfl⟩, Try.checked.mixed⟩
/- (*erasure/erasureref26.Reader).Versions -/
def r_erasureref26Reader_Versions_0 : ACode := .reg [
    ⟨some 2, none, .mov (.k (.slice none 0 0))⟩] none [0]
def r_erasureref26Reader_Versions_1 : ACode := .reg [
    ⟨some 3, none, .mov (.k (.slice none 0 0))⟩] none [0, 3]
def r_erasureref26Reader_Versions_2 : ACode := .reg [
    ⟨some 7, none, .mov (.t 0)⟩,
    ⟨some 8, none, .call 124 [(.t 7), (.k (.int .i64 (512)))]⟩,
    ⟨some 4, none, .mov (.t 8)⟩] none [0, 3, 4]
def r_erasureref26Reader_Versions_3 : ACode := .reg [
    ⟨some 5, none, .mov (.k (.int .i64 (0)))⟩] none [0, 3, 4, 5]
def r_erasureref26Reader_Versions_4 : ACode := .reg [
    ⟨some 9, none, .mov (.t 5)⟩,
    ⟨some 10, none, .mov (.t 4)⟩,
    ⟨some 11, none, .bin .lss (.t 9) (.t 10)⟩,
    ⟨some 12, none, .mov (.t 11)⟩,
    ⟨some 13, (some (12, true)), .mov (.t 0)⟩,
    ⟨some 14, (some (12, true)), .nilck (.t 13)⟩,
    ⟨some 15, (some (12, true)), .fld 1 (.t 14)⟩,
    ⟨some 16, (some (12, true)), .load none (.t 15)⟩,
    ⟨some 17, (some (12, true)), .bin .eql (.t 16) (.k (.int .i64 (0)))⟩,
    ⟨some 18, none, .pick (.t 12) (.t 17) (.k (.bool false))⟩] none [0, 3, 4, 5, 18]
def r_erasureref26Reader_Versions_5 : ACode := .reg [
    ⟨some 21, none, .mov (.t 0)⟩,
    ⟨some 22, none, .call 23 [(.t 21)]⟩,
    ⟨some 23, none, .build [.int .i64 0, .int .i64 0, .int .i64 0] [(0, 1, (.t 22))]⟩,
    ⟨some 6, none, .alloc 161 [.int .i64 0, .int .i64 0, .int .i64 0]⟩,
    ⟨none, none, .store 3 (.t 6) (.t 23)⟩] none [0, 3, 4, 5, 6]
def r_erasureref26Reader_Versions_6 : ACode := .reg [
    ⟨some 24, none, .mov (.t 0)⟩,
    ⟨some 25, none, .call 23 [(.t 24)]⟩,
    ⟨some 26, none, .fld 2 (.t 6)⟩,
    ⟨none, none, .store 1 (.t 26) (.t 25)⟩] none [0, 3, 4, 5, 6]
def r_erasureref26Reader_Versions_7 : ACode := .reg [
    ⟨some 27, none, .mov (.t 0)⟩,
    ⟨some 28, none, .call 23 [(.t 27)]⟩,
    ⟨some 29, none, .fld 1 (.t 6)⟩,
    ⟨none, none, .store 1 (.t 29) (.t 28)⟩] none [0, 3, 4, 5, 6]
def r_erasureref26Reader_Versions_8 : ACode := .reg [
    ⟨some 30, none, .mov (.t 3)⟩,
    ⟨some 31, none, .load (some 3) (.t 6)⟩,
    ⟨some 32, none, .lit 161 3 1 [.int .i64 0, .int .i64 0, .int .i64 0] [(0, (.t 31))] false⟩,
    ⟨some 33, none, .app 161 3 24 (.t 30) (.t 32)⟩,
    ⟨some 3, none, .mov (.t 33)⟩] none [0, 3, 4, 5]
def r_erasureref26Reader_Versions_9 : ACode := .reg [
    ⟨some 19, none, .mov (.t 5)⟩,
    ⟨some 20, none, .bin .add (.t 19) (.k (.int .i64 (1)))⟩,
    ⟨some 5, none, .mov (.t 20)⟩] none [0, 3, 4, 5]
def r_erasureref26Reader_Versions_10 : ACode := .reg [
    ⟨some 34, none, .mov (.t 3)⟩,
    ⟨some 2, none, .mov (.t 34)⟩] none [2]
def c_erasureref26Reader_Versions : ACode :=
  (.seq r_erasureref26Reader_Versions_0
  (.seq r_erasureref26Reader_Versions_1
   (.seq r_erasureref26Reader_Versions_2
    (.seq (.seq r_erasureref26Reader_Versions_3
      (.block 0 (.loop (.seq (.seq r_erasureref26Reader_Versions_4
          (.cond (.t 18)
           .skip
           (.exit 0)))
         (.seq (.block 1 (.seq r_erasureref26Reader_Versions_5
            (.seq r_erasureref26Reader_Versions_6
             (.seq r_erasureref26Reader_Versions_7
              r_erasureref26Reader_Versions_8))))
          r_erasureref26Reader_Versions_9)))))
     (.seq r_erasureref26Reader_Versions_10
      .ret)))))
theorem fits_erasureref26Reader_Versions : Fits Try.prog 83 35 c_erasureref26Reader_Versions [.t 2] := ⟨⟨Try.f83, _, _, Try.func83, rfl, rfl, rfl, by decide, by kernel_rfl, by kernel_rfl⟩, Try.checked.mixed⟩
/- (*erasure/erasureref26.Reader).Sources -/
def r_erasureref26Reader_Sources_0 : ACode := .reg [
    ⟨some 2, none, .mov (.k (.slice none 0 0))⟩] none [0]
def r_erasureref26Reader_Sources_1 : ACode := .reg [
    ⟨some 3, none, .mov (.k (.slice none 0 0))⟩] none [0, 3]
def r_erasureref26Reader_Sources_2 : ACode := .reg [
    ⟨some 7, none, .mov (.t 0)⟩,
    ⟨some 8, none, .call 124 [(.t 7), (.k (.int .i64 (512)))]⟩,
    ⟨some 4, none, .mov (.t 8)⟩] none [0, 3, 4]
def r_erasureref26Reader_Sources_3 : ACode := .reg [
    ⟨some 5, none, .mov (.k (.int .i64 (0)))⟩] none [0, 3, 4, 5]
def r_erasureref26Reader_Sources_4 : ACode := .reg [
    ⟨some 9, none, .mov (.t 5)⟩,
    ⟨some 10, none, .mov (.t 4)⟩,
    ⟨some 11, none, .bin .lss (.t 9) (.t 10)⟩,
    ⟨some 12, none, .mov (.t 11)⟩,
    ⟨some 13, (some (12, true)), .mov (.t 0)⟩,
    ⟨some 14, (some (12, true)), .nilck (.t 13)⟩,
    ⟨some 15, (some (12, true)), .fld 1 (.t 14)⟩,
    ⟨some 16, (some (12, true)), .load none (.t 15)⟩,
    ⟨some 17, (some (12, true)), .bin .eql (.t 16) (.k (.int .i64 (0)))⟩,
    ⟨some 18, none, .pick (.t 12) (.t 17) (.k (.bool false))⟩] none [0, 3, 4, 5, 18]
def r_erasureref26Reader_Sources_5 : ACode := .reg [
    ⟨some 21, none, .mov (.t 0)⟩,
    ⟨some 22, none, .call 23 [(.t 21)]⟩,
    ⟨some 23, none, .build [.int .i64 0, .int .i64 0] [(0, 1, (.t 22))]⟩,
    ⟨some 6, none, .alloc 163 [.int .i64 0, .int .i64 0]⟩,
    ⟨none, none, .store 2 (.t 6) (.t 23)⟩] none [0, 3, 4, 5, 6]
def r_erasureref26Reader_Sources_6 : ACode := .reg [
    ⟨some 24, none, .mov (.t 0)⟩,
    ⟨some 25, none, .call 23 [(.t 24)]⟩,
    ⟨some 26, none, .fld 1 (.t 6)⟩,
    ⟨none, none, .store 1 (.t 26) (.t 25)⟩] none [0, 3, 4, 5, 6]
def r_erasureref26Reader_Sources_7 : ACode := .reg [
    ⟨some 27, none, .mov (.t 3)⟩,
    ⟨some 28, none, .load (some 2) (.t 6)⟩,
    ⟨some 29, none, .lit 163 2 1 [.int .i64 0, .int .i64 0] [(0, (.t 28))] false⟩,
    ⟨some 30, none, .app 163 2 16 (.t 27) (.t 29)⟩,
    ⟨some 3, none, .mov (.t 30)⟩] none [0, 3, 4, 5]
def r_erasureref26Reader_Sources_8 : ACode := .reg [
    ⟨some 19, none, .mov (.t 5)⟩,
    ⟨some 20, none, .bin .add (.t 19) (.k (.int .i64 (1)))⟩,
    ⟨some 5, none, .mov (.t 20)⟩] none [0, 3, 4, 5]
def r_erasureref26Reader_Sources_9 : ACode := .reg [
    ⟨some 31, none, .mov (.t 3)⟩,
    ⟨some 2, none, .mov (.t 31)⟩] none [2]
def c_erasureref26Reader_Sources : ACode :=
  (.seq r_erasureref26Reader_Sources_0
  (.seq r_erasureref26Reader_Sources_1
   (.seq r_erasureref26Reader_Sources_2
    (.seq (.seq r_erasureref26Reader_Sources_3
      (.block 0 (.loop (.seq (.seq r_erasureref26Reader_Sources_4
          (.cond (.t 18)
           .skip
           (.exit 0)))
         (.seq (.block 1 (.seq r_erasureref26Reader_Sources_5
            (.seq r_erasureref26Reader_Sources_6
             r_erasureref26Reader_Sources_7)))
          r_erasureref26Reader_Sources_8)))))
     (.seq r_erasureref26Reader_Sources_9
      .ret)))))
theorem fits_erasureref26Reader_Sources : Fits Try.prog 84 32 c_erasureref26Reader_Sources [.t 2] := ⟨⟨Try.f84, _, _, Try.func84, rfl, rfl, rfl, by decide, by kernel_rfl, by kernel_rfl⟩, Try.checked.mixed⟩
/- (*erasure/erasureref26.Reader).Entry -/
def r_erasureref26Reader_Entry_0 : ACode := .reg [
    ⟨some 2, none, .alloc 111 [.int .i64 0, .int .i64 0, .int .i64 0, .int .i64 0, .int .i64 0, .string ⟨#[]⟩, .int .i64 0, .int .i64 0, .string ⟨#[]⟩, .int .i64 0, .int .i64 0, .int .i64 0, .string ⟨#[]⟩, .int .i64 0, .int .i64 0, .string ⟨#[]⟩, .string ⟨#[]⟩, .int .i64 0, .int .i64 0, .string ⟨#[]⟩, .int .i64 0, .bool false, .int .i64 0, .int .i64 0, .string ⟨#[]⟩, .int .i64 0, .int .i64 0, .string ⟨#[]⟩, .int .i64 0, .int .i64 0, .int .i64 0, .slice none 0 0, .slice none 0 0, .int .u8 0, .int .u8 0, .int .u8 0, .int .u8 0, .int .u8 0, .int .u8 0, .int .u8 0, .int .u8 0, .int .u8 0, .int .u8 0, .int .u8 0, .int .u8 0, .int .u8 0, .int .u8 0, .int .u8 0, .int .u8 0, .int .u8 0, .int .u8 0, .int .u8 0, .int .u8 0, .int .u8 0, .int .u8 0, .int .u8 0, .int .u8 0, .int .u8 0, .int .u8 0, .int .u8 0, .int .u8 0, .int .u8 0, .int .u8 0, .int .u8 0, .int .u8 0]⟩] none [0, 2]
def r_erasureref26Reader_Entry_1 : ACode := .reg [
    ⟨some 5, none, .mov (.t 0)⟩,
    ⟨some 6, none, .call 23 [(.t 5)]⟩,
    ⟨some 3, none, .mov (.t 6)⟩] none [0, 2, 3]
def r_erasureref26Reader_Entry_2 : ACode := .reg [
    ⟨some 7, none, .mov (.t 3)⟩,
    ⟨some 8, none, .bin .lss (.t 7) (.k (.int .i64 (1)))⟩,
    ⟨some 9, none, .mov (.t 8)⟩,
    ⟨some 10, (some (9, false)), .mov (.t 3)⟩,
    ⟨some 11, (some (9, false)), .bin .gtr (.t 10) (.k (.int .i64 (7)))⟩,
    ⟨some 12, none, .pick (.t 9) (.k (.bool true)) (.t 11)⟩] none [0, 2, 3, 12]
def r_erasureref26Reader_Entry_3 : ACode := .reg [
    ⟨some 13, none, .mov (.t 0)⟩,
    ⟨some 14, none, .call 91 [(.t 13), (.k (.int .i64 (1)))]⟩] none [0, 2, 3]
def r_erasureref26Reader_Entry_4 : ACode := .reg [
    ⟨some 15, none, .mov (.t 3)⟩,
    ⟨some 16, none, .build [.int .i64 0, .int .i64 0, .int .i64 0, .int .i64 0, .int .i64 0, .string ⟨#[]⟩, .int .i64 0, .int .i64 0, .string ⟨#[]⟩, .int .i64 0, .int .i64 0, .int .i64 0, .string ⟨#[]⟩, .int .i64 0, .int .i64 0, .string ⟨#[]⟩, .string ⟨#[]⟩, .int .i64 0, .int .i64 0, .string ⟨#[]⟩, .int .i64 0, .bool false, .int .i64 0, .int .i64 0, .string ⟨#[]⟩, .int .i64 0, .int .i64 0, .string ⟨#[]⟩, .int .i64 0, .int .i64 0, .int .i64 0, .slice none 0 0, .slice none 0 0, .int .u8 0, .int .u8 0, .int .u8 0, .int .u8 0, .int .u8 0, .int .u8 0, .int .u8 0, .int .u8 0, .int .u8 0, .int .u8 0, .int .u8 0, .int .u8 0, .int .u8 0, .int .u8 0, .int .u8 0, .int .u8 0, .int .u8 0, .int .u8 0, .int .u8 0, .int .u8 0, .int .u8 0, .int .u8 0, .int .u8 0, .int .u8 0, .int .u8 0, .int .u8 0, .int .u8 0, .int .u8 0, .int .u8 0, .int .u8 0, .int .u8 0, .int .u8 0] [(0, 1, (.t 15))]⟩,
    ⟨some 4, none, .alloc 111 [.int .i64 0, .int .i64 0, .int .i64 0, .int .i64 0, .int .i64 0, .string ⟨#[]⟩, .int .i64 0, .int .i64 0, .string ⟨#[]⟩, .int .i64 0, .int .i64 0, .int .i64 0, .string ⟨#[]⟩, .int .i64 0, .int .i64 0, .string ⟨#[]⟩, .string ⟨#[]⟩, .int .i64 0, .int .i64 0, .string ⟨#[]⟩, .int .i64 0, .bool false, .int .i64 0, .int .i64 0, .string ⟨#[]⟩, .int .i64 0, .int .i64 0, .string ⟨#[]⟩, .int .i64 0, .int .i64 0, .int .i64 0, .slice none 0 0, .slice none 0 0, .int .u8 0, .int .u8 0, .int .u8 0, .int .u8 0, .int .u8 0, .int .u8 0, .int .u8 0, .int .u8 0, .int .u8 0, .int .u8 0, .int .u8 0, .int .u8 0, .int .u8 0, .int .u8 0, .int .u8 0, .int .u8 0, .int .u8 0, .int .u8 0, .int .u8 0, .int .u8 0, .int .u8 0, .int .u8 0, .int .u8 0, .int .u8 0, .int .u8 0, .int .u8 0, .int .u8 0, .int .u8 0, .int .u8 0, .int .u8 0, .int .u8 0, .int .u8 0]⟩,
    ⟨none, none, .store 65 (.t 4) (.t 16)⟩] none [0, 2, 4]
def r_erasureref26Reader_Entry_5 : ACode := .reg [
    ⟨some 17, none, .mov (.t 0)⟩,
    ⟨some 18, none, .call 23 [(.t 17)]⟩,
    ⟨some 19, none, .fld 1 (.t 4)⟩,
    ⟨none, none, .store 1 (.t 19) (.t 18)⟩] none [0, 2, 4]
def r_erasureref26Reader_Entry_6 : ACode := .reg [
    ⟨some 20, none, .mov (.t 0)⟩,
    ⟨some 21, none, .call 23 [(.t 20)]⟩,
    ⟨some 22, none, .fld 2 (.t 4)⟩,
    ⟨none, none, .store 1 (.t 22) (.t 21)⟩] none [0, 2, 4]
def r_erasureref26Reader_Entry_7 : ACode := .reg [
    ⟨some 23, none, .mov (.t 0)⟩,
    ⟨some 24, none, .call 23 [(.t 23)]⟩,
    ⟨some 25, none, .fld 3 (.t 4)⟩,
    ⟨none, none, .store 1 (.t 25) (.t 24)⟩] none [0, 2, 4]
def r_erasureref26Reader_Entry_8 : ACode := .reg [
    ⟨some 26, none, .fld 0 (.t 4)⟩,
    ⟨some 27, none, .load none (.t 26)⟩] none [0, 2, 4, 27]
def r_erasureref26Reader_Entry_9 : ACode := .reg [
    ⟨some 29, none, .bin .eql (.t 27) (.k (.int .i64 (1)))⟩,
    ⟨some 28, none, .mov (.t 29)⟩] none [0, 2, 4, 27, 28]
def r_erasureref26Reader_Entry_10 : ACode := .reg [
    ⟨some 30, none, .mov (.t 0)⟩,
    ⟨some 31, none, .call 126 [(.t 30)]⟩,
    ⟨some 32, none, .fld 4 (.t 4)⟩,
    ⟨none, none, .store 8 (.t 32) (.t 31)⟩] none [2, 4]
def r_erasureref26Reader_Entry_11 : ACode := .reg [
    ⟨some 34, none, .bin .eql (.t 27) (.k (.int .i64 (2)))⟩,
    ⟨some 33, none, .mov (.t 34)⟩] none [0, 2, 4, 27, 33]
def r_erasureref26Reader_Entry_12 : ACode := .reg [
    ⟨some 35, none, .mov (.t 0)⟩,
    ⟨some 36, none, .call 83 [(.t 35)]⟩,
    ⟨some 37, none, .fld 31 (.t 4)⟩,
    ⟨none, none, .store 1 (.t 37) (.t 36)⟩] none [0, 2, 4]
def r_erasureref26Reader_Entry_13 : ACode := .reg [
    ⟨some 38, none, .mov (.t 0)⟩,
    ⟨some 39, none, .call 84 [(.t 38)]⟩,
    ⟨some 40, none, .fld 32 (.t 4)⟩,
    ⟨none, none, .store 1 (.t 40) (.t 39)⟩] none [2, 4]
def r_erasureref26Reader_Entry_14 : ACode := .reg [
    ⟨some 42, none, .bin .eql (.t 27) (.k (.int .i64 (4)))⟩,
    ⟨some 41, none, .mov (.t 42)⟩] none [0, 2, 4, 27, 41]
def r_erasureref26Reader_Entry_15 : ACode := .reg [
    ⟨some 43, none, .mov (.t 0)⟩,
    ⟨some 44, none, .call 127 [(.t 43)]⟩,
    ⟨some 45, none, .fld 33 (.t 4)⟩,
    ⟨none, none, .store 32 (.t 45) (.t 44)⟩] none [2, 4]
def r_erasureref26Reader_Entry_16 : ACode := .reg [
    ⟨some 47, none, .bin .eql (.t 27) (.k (.int .i64 (6)))⟩,
    ⟨some 46, none, .mov (.t 47)⟩] none [0, 2, 4, 27, 46]
def r_erasureref26Reader_Entry_17 : ACode := .reg [
    ⟨some 48, none, .mov (.t 0)⟩,
    ⟨some 49, none, .call 128 [(.t 48)]⟩,
    ⟨some 50, none, .fld 12 (.t 4)⟩,
    ⟨none, none, .store 10 (.t 50) (.t 49)⟩] none [2, 4]
def r_erasureref26Reader_Entry_18 : ACode := .reg [
    ⟨some 52, none, .bin .eql (.t 27) (.k (.int .i64 (7)))⟩,
    ⟨some 51, none, .mov (.t 52)⟩] none [0, 2, 4, 51]
def r_erasureref26Reader_Entry_19 : ACode := .reg [
    ⟨some 53, none, .mov (.t 0)⟩,
    ⟨some 54, none, .call 86 [(.t 53)]⟩,
    ⟨some 55, none, .fld 22 (.t 4)⟩,
    ⟨none, none, .store 9 (.t 55) (.t 54)⟩] none [2, 4]
def r_erasureref26Reader_Entry_20 : ACode := .reg [
    ⟨some 56, none, .load (some 65) (.t 4)⟩,
    ⟨none, none, .store 65 (.t 2) (.t 56)⟩] none [2]
def c_erasureref26Reader_Entry : ACode :=
  (.seq r_erasureref26Reader_Entry_0
  (.seq r_erasureref26Reader_Entry_1
   (.seq (.seq r_erasureref26Reader_Entry_2
     (.cond (.t 12)
      r_erasureref26Reader_Entry_3
      .skip))
    (.seq r_erasureref26Reader_Entry_4
     (.seq r_erasureref26Reader_Entry_5
      (.seq r_erasureref26Reader_Entry_6
       (.seq r_erasureref26Reader_Entry_7
        (.seq (.seq r_erasureref26Reader_Entry_8
          (.block 0 (.seq r_erasureref26Reader_Entry_9
            (.cond (.t 28)
             r_erasureref26Reader_Entry_10
             (.seq r_erasureref26Reader_Entry_11
              (.cond (.t 33)
               (.seq r_erasureref26Reader_Entry_12
                r_erasureref26Reader_Entry_13)
               (.seq r_erasureref26Reader_Entry_14
                (.cond (.t 41)
                 r_erasureref26Reader_Entry_15
                 (.seq r_erasureref26Reader_Entry_16
                  (.cond (.t 46)
                   r_erasureref26Reader_Entry_17
                   (.seq r_erasureref26Reader_Entry_18
                    (.cond (.t 51)
                     r_erasureref26Reader_Entry_19
                     .skip))))))))))))
         (.seq r_erasureref26Reader_Entry_20
          .ret)))))))))
theorem fits_erasureref26Reader_Entry : Fits Try.prog 85 57 c_erasureref26Reader_Entry [.c 2 (some 65)] := ⟨⟨Try.f85, _, _, Try.func85, rfl, rfl, rfl, by decide, by kernel_rfl, by kernel_rfl⟩, Try.checked.mixed⟩
/- (*erasure/erasureref26.Reader).Hold -/
def r_erasureref26Reader_Hold_0 : ACode := .reg [
    ⟨some 2, none, .alloc 109 [.int .i64 0, .int .i64 0, .string ⟨#[]⟩, .int .i64 0, .int .i64 0, .string ⟨#[]⟩, .int .i64 0, .int .i64 0, .int .i64 0]⟩] none [0, 2]
def r_erasureref26Reader_Hold_1 : ACode := .reg [
    ⟨some 4, none, .mov (.t 0)⟩,
    ⟨some 5, none, .call 23 [(.t 4)]⟩,
    ⟨some 6, none, .build [.int .i64 0, .int .i64 0, .string ⟨#[]⟩, .int .i64 0, .int .i64 0, .string ⟨#[]⟩, .int .i64 0, .int .i64 0, .int .i64 0] [(0, 1, (.t 5))]⟩,
    ⟨some 3, none, .alloc 109 [.int .i64 0, .int .i64 0, .string ⟨#[]⟩, .int .i64 0, .int .i64 0, .string ⟨#[]⟩, .int .i64 0, .int .i64 0, .int .i64 0]⟩,
    ⟨none, none, .store 9 (.t 3) (.t 6)⟩] none [0, 2, 3]
def r_erasureref26Reader_Hold_2 : ACode := .reg [
    ⟨some 7, none, .mov (.t 0)⟩,
    ⟨some 8, none, .call 23 [(.t 7)]⟩,
    ⟨some 9, none, .fld 1 (.t 3)⟩,
    ⟨none, none, .store 1 (.t 9) (.t 8)⟩] none [0, 2, 3]
def r_erasureref26Reader_Hold_3 : ACode := .reg [
    ⟨some 10, none, .mov (.t 0)⟩,
    ⟨some 11, none, .call 129 [(.t 10)]⟩,
    ⟨some 12, none, .fld 2 (.t 3)⟩,
    ⟨none, none, .store 4 (.t 12) (.t 11)⟩] none [0, 2, 3]
def r_erasureref26Reader_Hold_4 : ACode := .reg [
    ⟨some 13, none, .mov (.t 0)⟩,
    ⟨some 14, none, .call 23 [(.t 13)]⟩,
    ⟨some 15, none, .fld 6 (.t 3)⟩,
    ⟨none, none, .store 1 (.t 15) (.t 14)⟩] none [0, 2, 3]
def r_erasureref26Reader_Hold_5 : ACode := .reg [
    ⟨some 16, none, .mov (.t 0)⟩,
    ⟨some 17, none, .call 23 [(.t 16)]⟩,
    ⟨some 18, none, .fld 7 (.t 3)⟩,
    ⟨none, none, .store 1 (.t 18) (.t 17)⟩] none [0, 2, 3]
def r_erasureref26Reader_Hold_6 : ACode := .reg [
    ⟨some 19, none, .mov (.t 0)⟩,
    ⟨some 20, none, .call 23 [(.t 19)]⟩,
    ⟨some 21, none, .fld 8 (.t 3)⟩,
    ⟨none, none, .store 1 (.t 21) (.t 20)⟩] none [2, 3]
def r_erasureref26Reader_Hold_7 : ACode := .reg [
    ⟨some 22, none, .load (some 9) (.t 3)⟩,
    ⟨none, none, .store 9 (.t 2) (.t 22)⟩] none [2]
def c_erasureref26Reader_Hold : ACode :=
  (.seq r_erasureref26Reader_Hold_0
  (.seq r_erasureref26Reader_Hold_1
   (.seq r_erasureref26Reader_Hold_2
    (.seq r_erasureref26Reader_Hold_3
     (.seq r_erasureref26Reader_Hold_4
      (.seq r_erasureref26Reader_Hold_5
       (.seq r_erasureref26Reader_Hold_6
        (.seq r_erasureref26Reader_Hold_7
         .ret))))))))
theorem fits_erasureref26Reader_Hold : Fits Try.prog 86 23 c_erasureref26Reader_Hold [.c 2 (some 9)] := ⟨⟨Try.f86, _, _, Try.func86, rfl, rfl, rfl, by decide, by kernel_rfl, by kernel_rfl⟩, Try.checked.mixed⟩
/- (*erasure/erasureref26.Reader).fail -/
def r_erasureref26Reader_fail_0 : ACode := .reg [
    ⟨some 4, none, .mov (.t 0)⟩,
    ⟨some 5, none, .nilck (.t 4)⟩,
    ⟨some 6, none, .fld 1 (.t 5)⟩,
    ⟨some 7, none, .load none (.t 6)⟩,
    ⟨some 8, none, .bin .eql (.t 7) (.k (.int .i64 (0)))⟩] none [0, 1, 8]
def r_erasureref26Reader_fail_1 : ACode := .reg [
    ⟨some 9, none, .mov (.t 0)⟩,
    ⟨some 10, none, .mov (.t 1)⟩,
    ⟨some 11, none, .nilck (.t 9)⟩,
    ⟨some 12, none, .fld 1 (.t 11)⟩,
    ⟨none, none, .store 1 (.t 12) (.t 10)⟩] none []
def c_erasureref26Reader_fail : ACode :=
  (.seq r_erasureref26Reader_fail_0
  (.cond (.t 8)
   r_erasureref26Reader_fail_1
   .skip))
theorem fits_erasureref26Reader_fail : Fits Try.prog 91 13 c_erasureref26Reader_fail [] := ⟨⟨Try.f91, _, _, Try.func91, rfl, rfl, rfl, by decide, by kernel_rfl, by kernel_rfl⟩, Try.checked.mixed⟩
/- erasure/erasureref26.ints -/
def r_erasureref26ints_0 : ACode := .reg [
    ⟨some 2, none, .mov (.k (.slice none 0 0))⟩] none [0]
def r_erasureref26ints_1 : ACode := .reg [
    ⟨some 5, none, .lit 5 1 0 [.int .u8 0] [] true⟩,
    ⟨some 3, none, .mov (.t 5)⟩] none [0, 3]
def r_erasureref26ints_2 : ACode := .reg [
    ⟨some 4, none, .mov (.k (.int .i64 (0)))⟩] none [0, 3, 4]
def r_erasureref26ints_3 : ACode := .reg [
    ⟨some 6, none, .mov (.t 4)⟩,
    ⟨some 7, none, .mov (.t 0)⟩,
    ⟨some 8, none, .len (.t 7)⟩,
    ⟨some 9, none, .bin .lss (.t 6) (.t 8)⟩] none [0, 3, 4, 9]
def r_erasureref26ints_4 : ACode := .reg [
    ⟨some 12, none, .mov (.t 3)⟩,
    ⟨some 13, none, .mov (.t 0)⟩,
    ⟨some 14, none, .mov (.t 4)⟩,
    ⟨some 15, none, .idxa 1 (.t 13) (.t 14)⟩,
    ⟨some 16, none, .load none (.t 15)⟩,
    ⟨some 17, none, .call 22 [(.t 16)]⟩,
    ⟨some 18, none, .app 5 1 1 (.t 12) (.t 17)⟩,
    ⟨some 3, none, .mov (.t 18)⟩] none [0, 3, 4]
def r_erasureref26ints_5 : ACode := .reg [
    ⟨some 10, none, .mov (.t 4)⟩,
    ⟨some 11, none, .bin .add (.t 10) (.k (.int .i64 (1)))⟩,
    ⟨some 4, none, .mov (.t 11)⟩] none [0, 3, 4]
def r_erasureref26ints_6 : ACode := .reg [
    ⟨some 19, none, .mov (.t 3)⟩,
    ⟨some 2, none, .mov (.t 19)⟩] none [2]
def c_erasureref26ints : ACode :=
  (.seq r_erasureref26ints_0
  (.seq r_erasureref26ints_1
   (.seq (.seq r_erasureref26ints_2
     (.block 0 (.loop (.seq (.seq r_erasureref26ints_3
         (.cond (.t 9)
          .skip
          (.exit 0)))
        (.seq (.block 1 r_erasureref26ints_4)
         r_erasureref26ints_5)))))
    (.seq r_erasureref26ints_6
     .ret))))
theorem fits_erasureref26ints : Fits Try.prog 99 20 c_erasureref26ints [.t 2] := ⟨⟨Try.f99, _, _, Try.func99, rfl, rfl, rfl, by decide, by kernel_rfl, by kernel_rfl⟩, Try.checked.mixed⟩
/- erasure/erasureref26.Identifier -/
def r_erasureref26Identifier_0 : ACode := .reg [
    ⟨some 1, none, .box 103 (.t 0)⟩,
    ⟨some 2, none, .mov (.k (.slice none 0 0))⟩] none [1]
def r_erasureref26Identifier_1 : ACode := .reg [
    ⟨some 3, none, .fld 0 (.t 1)⟩,
    ⟨some 4, none, .load none (.t 3)⟩,
    ⟨some 5, none, .call 26 [(.t 4)]⟩,
    ⟨some 6, none, .fld 1 (.t 1)⟩,
    ⟨some 7, none, .load (some 3) (.t 6)⟩,
    ⟨some 8, none, .call 42 [(.t 7)]⟩,
    ⟨some 9, none, .app 5 1 1 (.t 5) (.t 8)⟩,
    ⟨some 2, none, .mov (.t 9)⟩] (some [0, 1, 3, 0, 8, 31, 63, 127]) [2]
def c_erasureref26Identifier : ACode :=
  (.seq r_erasureref26Identifier_0
  (.seq r_erasureref26Identifier_1
   .ret))
theorem fits_erasureref26Identifier : Fits Try.prog 121 10 c_erasureref26Identifier [.t 2] := ⟨⟨Try.f121, _, _, Try.func121, rfl, rfl, rfl, by decide, by kernel_rfl, by kernel_rfl⟩, Try.checked.mixed⟩
/- (*erasure/erasureref26.Reader).Count -/
def r_erasureref26Reader_Count_0 : ACode := .reg [
    ⟨some 4, none, .mov (.k (.int .i64 (0)))⟩] none [0, 1]
def r_erasureref26Reader_Count_1 : ACode := .reg [
    ⟨some 6, none, .mov (.t 0)⟩,
    ⟨some 7, none, .call 23 [(.t 6)]⟩,
    ⟨some 5, none, .mov (.t 7)⟩] none [0, 1, 5]
def r_erasureref26Reader_Count_2 : ACode := .reg [
    ⟨some 8, none, .mov (.t 5)⟩,
    ⟨some 9, none, .bin .lss (.t 8) (.k (.int .i64 (0)))⟩,
    ⟨some 10, none, .mov (.t 9)⟩,
    ⟨some 11, (some (10, false)), .mov (.t 5)⟩,
    ⟨some 12, (some (10, false)), .mov (.t 1)⟩,
    ⟨some 13, (some (10, false)), .bin .gtr (.t 11) (.t 12)⟩,
    ⟨some 14, none, .pick (.t 10) (.k (.bool true)) (.t 13)⟩] none [0, 5, 14]
def r_erasureref26Reader_Count_3 : ACode := .reg [
    ⟨some 15, none, .mov (.t 0)⟩,
    ⟨some 16, none, .call 91 [(.t 15), (.k (.int .i64 (1)))]⟩] none []
def r_erasureref26Reader_Count_4 : ACode := .reg [
    ⟨some 4, none, .mov (.k (.int .i64 (0)))⟩] none [4]
def r_erasureref26Reader_Count_5 : ACode := .reg [
    ⟨some 17, none, .mov (.t 5)⟩,
    ⟨some 4, none, .mov (.t 17)⟩] none [4]
def c_erasureref26Reader_Count : ACode :=
  (.seq r_erasureref26Reader_Count_0
  (.seq r_erasureref26Reader_Count_1
   (.seq (.seq r_erasureref26Reader_Count_2
     (.cond (.t 14)
      (.seq r_erasureref26Reader_Count_3
       (.seq r_erasureref26Reader_Count_4
        .ret))
      .skip))
    (.seq r_erasureref26Reader_Count_5
     .ret))))
theorem fits_erasureref26Reader_Count : Fits Try.prog 124 18 c_erasureref26Reader_Count [.t 4] := ⟨⟨Try.f124, _, _, Try.func124, rfl, rfl, rfl, by decide, by kernel_rfl, by kernel_rfl⟩, Try.checked.mixed⟩
/- (*erasure/erasureref26.Reader).Text -/
def r_erasureref26Reader_Text_0 : ACode := .reg [
    ⟨some 4, none, .mov (.k (.string { data := #[] }))⟩] none [0, 1]
def r_erasureref26Reader_Text_1 : ACode := .reg [
    ⟨some 6, none, .mov (.t 0)⟩,
    ⟨some 7, none, .call 23 [(.t 6)]⟩,
    ⟨some 5, none, .mov (.t 7)⟩] none [0, 1, 5]
def r_erasureref26Reader_Text_2 : ACode := .reg [
    ⟨some 8, none, .mov (.t 5)⟩,
    ⟨some 9, none, .bin .lss (.t 8) (.k (.int .i64 (0)))⟩,
    ⟨some 10, none, .mov (.t 9)⟩,
    ⟨some 11, (some (10, false)), .mov (.t 5)⟩,
    ⟨some 12, (some (10, false)), .mov (.t 1)⟩,
    ⟨some 13, (some (10, false)), .bin .gtr (.t 11) (.t 12)⟩,
    ⟨some 14, none, .pick (.t 10) (.k (.bool true)) (.t 13)⟩] none [0, 5, 14]
def r_erasureref26Reader_Text_3 : ACode := .reg [
    ⟨some 15, none, .mov (.t 0)⟩,
    ⟨some 16, none, .call 91 [(.t 15), (.k (.int .i64 (1)))]⟩] none []
def r_erasureref26Reader_Text_4 : ACode := .reg [
    ⟨some 4, none, .mov (.k (.string { data := #[] }))⟩] none [4]
def r_erasureref26Reader_Text_5 : ACode := .reg [
    ⟨some 17, none, .mov (.t 0)⟩,
    ⟨some 18, none, .mov (.t 5)⟩,
    ⟨some 19, none, .call 133 [(.t 17), (.t 18)]⟩,
    ⟨some 20, none, .tostr (.t 19)⟩,
    ⟨some 4, none, .mov (.t 20)⟩] none [4]
def c_erasureref26Reader_Text : ACode :=
  (.seq r_erasureref26Reader_Text_0
  (.seq r_erasureref26Reader_Text_1
   (.seq (.seq r_erasureref26Reader_Text_2
     (.cond (.t 14)
      (.seq r_erasureref26Reader_Text_3
       (.seq r_erasureref26Reader_Text_4
        .ret))
      .skip))
    (.seq r_erasureref26Reader_Text_5
     .ret))))
theorem fits_erasureref26Reader_Text : Fits Try.prog 125 21 c_erasureref26Reader_Text [.t 4] := ⟨⟨Try.f125, _, _, Try.func125, rfl, rfl, rfl, by decide, by kernel_rfl, by kernel_rfl⟩, Try.checked.mixed⟩
/- (*erasure/erasureref26.Reader).Request -/
def r_erasureref26Reader_Request_0 : ACode := .reg [
    ⟨some 2, none, .alloc 105 [.int .i64 0, .string ⟨#[]⟩, .int .i64 0, .int .i64 0, .string ⟨#[]⟩, .int .i64 0, .int .i64 0, .int .i64 0]⟩] none [0, 2]
def r_erasureref26Reader_Request_1 : ACode := .reg [
    ⟨some 4, none, .mov (.t 0)⟩,
    ⟨some 5, none, .call 23 [(.t 4)]⟩,
    ⟨some 6, none, .build [.int .i64 0, .string ⟨#[]⟩, .int .i64 0, .int .i64 0, .string ⟨#[]⟩, .int .i64 0, .int .i64 0, .int .i64 0] [(0, 1, (.t 5))]⟩,
    ⟨some 3, none, .alloc 105 [.int .i64 0, .string ⟨#[]⟩, .int .i64 0, .int .i64 0, .string ⟨#[]⟩, .int .i64 0, .int .i64 0, .int .i64 0]⟩,
    ⟨none, none, .store 8 (.t 3) (.t 6)⟩] none [0, 2, 3]
def r_erasureref26Reader_Request_2 : ACode := .reg [
    ⟨some 7, none, .mov (.t 0)⟩,
    ⟨some 8, none, .call 129 [(.t 7)]⟩,
    ⟨some 9, none, .fld 1 (.t 3)⟩,
    ⟨none, none, .store 4 (.t 9) (.t 8)⟩] none [0, 2, 3]
def r_erasureref26Reader_Request_3 : ACode := .reg [
    ⟨some 10, none, .mov (.t 0)⟩,
    ⟨some 11, none, .call 23 [(.t 10)]⟩,
    ⟨some 12, none, .fld 5 (.t 3)⟩,
    ⟨none, none, .store 1 (.t 12) (.t 11)⟩] none [0, 2, 3]
def r_erasureref26Reader_Request_4 : ACode := .reg [
    ⟨some 13, none, .mov (.t 0)⟩,
    ⟨some 14, none, .call 23 [(.t 13)]⟩,
    ⟨some 15, none, .fld 6 (.t 3)⟩,
    ⟨none, none, .store 1 (.t 15) (.t 14)⟩] none [0, 2, 3]
def r_erasureref26Reader_Request_5 : ACode := .reg [
    ⟨some 16, none, .mov (.t 0)⟩,
    ⟨some 17, none, .call 23 [(.t 16)]⟩,
    ⟨some 18, none, .fld 7 (.t 3)⟩,
    ⟨none, none, .store 1 (.t 18) (.t 17)⟩] none [2, 3]
def r_erasureref26Reader_Request_6 : ACode := .reg [
    ⟨some 19, none, .load (some 8) (.t 3)⟩,
    ⟨none, none, .store 8 (.t 2) (.t 19)⟩] none [2]
def c_erasureref26Reader_Request : ACode :=
  (.seq r_erasureref26Reader_Request_0
  (.seq r_erasureref26Reader_Request_1
   (.seq r_erasureref26Reader_Request_2
    (.seq r_erasureref26Reader_Request_3
     (.seq r_erasureref26Reader_Request_4
      (.seq r_erasureref26Reader_Request_5
       (.seq r_erasureref26Reader_Request_6
        .ret)))))))
theorem fits_erasureref26Reader_Request : Fits Try.prog 126 20 c_erasureref26Reader_Request [.c 2 (some 8)] := ⟨⟨Try.f126, _, _, Try.func126, rfl, rfl, rfl, by decide, by kernel_rfl, by kernel_rfl⟩, Try.checked.mixed⟩
/- (*erasure/erasureref26.Reader).Digest -/
def r_erasureref26Reader_Digest_0 : ACode := .reg [
    ⟨some 2, none, .alloc 45 [.int .u8 0, .int .u8 0, .int .u8 0, .int .u8 0, .int .u8 0, .int .u8 0, .int .u8 0, .int .u8 0, .int .u8 0, .int .u8 0, .int .u8 0, .int .u8 0, .int .u8 0, .int .u8 0, .int .u8 0, .int .u8 0, .int .u8 0, .int .u8 0, .int .u8 0, .int .u8 0, .int .u8 0, .int .u8 0, .int .u8 0, .int .u8 0, .int .u8 0, .int .u8 0, .int .u8 0, .int .u8 0, .int .u8 0, .int .u8 0, .int .u8 0, .int .u8 0]⟩] none [0, 2]
def r_erasureref26Reader_Digest_1 : ACode := .reg [
    ⟨some 3, none, .alloc 45 [.int .u8 0, .int .u8 0, .int .u8 0, .int .u8 0, .int .u8 0, .int .u8 0, .int .u8 0, .int .u8 0, .int .u8 0, .int .u8 0, .int .u8 0, .int .u8 0, .int .u8 0, .int .u8 0, .int .u8 0, .int .u8 0, .int .u8 0, .int .u8 0, .int .u8 0, .int .u8 0, .int .u8 0, .int .u8 0, .int .u8 0, .int .u8 0, .int .u8 0, .int .u8 0, .int .u8 0, .int .u8 0, .int .u8 0, .int .u8 0, .int .u8 0, .int .u8 0]⟩] none [0, 2, 3]
def r_erasureref26Reader_Digest_2 : ACode := .reg [
    ⟨some 6, none, .mov (.t 0)⟩,
    ⟨some 7, none, .call 133 [(.t 6), (.k (.int .i64 (32)))]⟩,
    ⟨some 4, none, .mov (.t 7)⟩] none [2, 3, 4]
def r_erasureref26Reader_Digest_3 : ACode := .reg [
    ⟨some 5, none, .mov (.k (.int .i64 (0)))⟩] none [2, 3, 4, 5]
def r_erasureref26Reader_Digest_4 : ACode := .reg [
    ⟨some 8, none, .mov (.t 5)⟩,
    ⟨some 9, none, .mov (.t 4)⟩,
    ⟨some 10, none, .len (.t 9)⟩,
    ⟨some 11, none, .bin .lss (.t 8) (.t 10)⟩] none [2, 3, 4, 5, 11]
def r_erasureref26Reader_Digest_5 : ACode := .reg [
    ⟨some 14, none, .mov (.t 5)⟩,
    ⟨some 15, none, .mov (.t 4)⟩,
    ⟨some 16, none, .mov (.t 5)⟩,
    ⟨some 17, none, .idxa 1 (.t 15) (.t 16)⟩,
    ⟨some 18, none, .load none (.t 17)⟩,
    ⟨some 19, none, .idxr 32 1 (.t 3) (.t 14)⟩,
    ⟨none, none, .store 1 (.t 19) (.t 18)⟩] none [2, 3, 4, 5]
def r_erasureref26Reader_Digest_6 : ACode := .reg [
    ⟨some 12, none, .mov (.t 5)⟩,
    ⟨some 13, none, .bin .add (.t 12) (.k (.int .i64 (1)))⟩,
    ⟨some 5, none, .mov (.t 13)⟩] none [2, 3, 4, 5]
def r_erasureref26Reader_Digest_7 : ACode := .reg [
    ⟨some 20, none, .load (some 32) (.t 3)⟩,
    ⟨none, none, .store 32 (.t 2) (.t 20)⟩] none [2]
def c_erasureref26Reader_Digest : ACode :=
  (.seq r_erasureref26Reader_Digest_0
  (.seq r_erasureref26Reader_Digest_1
   (.seq r_erasureref26Reader_Digest_2
    (.seq (.seq r_erasureref26Reader_Digest_3
      (.block 0 (.loop (.seq (.seq r_erasureref26Reader_Digest_4
          (.cond (.t 11)
           .skip
           (.exit 0)))
         (.seq (.block 1 r_erasureref26Reader_Digest_5)
          r_erasureref26Reader_Digest_6)))))
     (.seq r_erasureref26Reader_Digest_7
      .ret)))))
theorem fits_erasureref26Reader_Digest : Fits Try.prog 127 21 c_erasureref26Reader_Digest [.c 2 (some 32)] := ⟨⟨Try.f127, _, _, Try.func127, rfl, rfl, rfl, by decide, by kernel_rfl, by kernel_rfl⟩, Try.checked.mixed⟩
/- (*erasure/erasureref26.Reader).Link -/
def r_erasureref26Reader_Link_0 : ACode := .reg [
    ⟨some 2, none, .alloc 107 [.string ⟨#[]⟩, .int .i64 0, .int .i64 0, .string ⟨#[]⟩, .string ⟨#[]⟩, .int .i64 0, .int .i64 0, .string ⟨#[]⟩, .int .i64 0, .bool false]⟩] none [0, 2]
def r_erasureref26Reader_Link_1 : ACode := .reg [
    ⟨some 4, none, .mov (.t 0)⟩,
    ⟨some 5, none, .call 129 [(.t 4)]⟩,
    ⟨some 6, none, .build [.string ⟨#[]⟩, .int .i64 0, .int .i64 0, .string ⟨#[]⟩, .string ⟨#[]⟩, .int .i64 0, .int .i64 0, .string ⟨#[]⟩, .int .i64 0, .bool false] [(0, 4, (.t 5))]⟩,
    ⟨some 3, none, .alloc 107 [.string ⟨#[]⟩, .int .i64 0, .int .i64 0, .string ⟨#[]⟩, .string ⟨#[]⟩, .int .i64 0, .int .i64 0, .string ⟨#[]⟩, .int .i64 0, .bool false]⟩,
    ⟨none, none, .store 10 (.t 3) (.t 6)⟩] none [0, 2, 3]
def r_erasureref26Reader_Link_2 : ACode := .reg [
    ⟨some 7, none, .mov (.t 0)⟩,
    ⟨some 8, none, .call 129 [(.t 7)]⟩,
    ⟨some 9, none, .fld 4 (.t 3)⟩,
    ⟨none, none, .store 4 (.t 9) (.t 8)⟩] none [0, 2, 3]
def r_erasureref26Reader_Link_3 : ACode := .reg [
    ⟨some 10, none, .mov (.t 0)⟩,
    ⟨some 11, none, .call 23 [(.t 10)]⟩,
    ⟨some 12, none, .fld 8 (.t 3)⟩,
    ⟨none, none, .store 1 (.t 12) (.t 11)⟩] none [0, 2, 3]
def r_erasureref26Reader_Link_4 : ACode := .reg [
    ⟨some 13, none, .mov (.t 0)⟩,
    ⟨some 14, none, .call 124 [(.t 13), (.k (.int .i64 (1)))]⟩,
    ⟨some 15, none, .bin .eql (.t 14) (.k (.int .i64 (1)))⟩,
    ⟨some 16, none, .fld 9 (.t 3)⟩,
    ⟨none, none, .store 1 (.t 16) (.t 15)⟩] none [2, 3]
def r_erasureref26Reader_Link_5 : ACode := .reg [
    ⟨some 17, none, .load (some 10) (.t 3)⟩,
    ⟨none, none, .store 10 (.t 2) (.t 17)⟩] none [2]
def c_erasureref26Reader_Link : ACode :=
  (.seq r_erasureref26Reader_Link_0
  (.seq r_erasureref26Reader_Link_1
   (.seq r_erasureref26Reader_Link_2
    (.seq r_erasureref26Reader_Link_3
     (.seq r_erasureref26Reader_Link_4
      (.seq r_erasureref26Reader_Link_5
       .ret))))))
theorem fits_erasureref26Reader_Link : Fits Try.prog 128 18 c_erasureref26Reader_Link [.c 2 (some 10)] := ⟨⟨Try.f128, _, _, Try.func128, rfl, rfl, rfl, by decide, by kernel_rfl, by kernel_rfl⟩, Try.checked.mixed⟩
/- (*erasure/erasureref26.Reader).Identifier -/
def r_erasureref26Reader_Identifier_0 : ACode := .reg [
    ⟨some 2, none, .alloc 103 [.string ⟨#[]⟩, .int .i64 0, .int .i64 0, .string ⟨#[]⟩]⟩] none [0, 2]
def r_erasureref26Reader_Identifier_1 : ACode := .reg [
    ⟨some 4, none, .mov (.t 0)⟩,
    ⟨some 5, none, .call 125 [(.t 4), (.k (.int .i64 (16)))]⟩,
    ⟨some 6, none, .build [.string ⟨#[]⟩, .int .i64 0, .int .i64 0, .string ⟨#[]⟩] [(0, 1, (.t 5))]⟩,
    ⟨some 3, none, .alloc 103 [.string ⟨#[]⟩, .int .i64 0, .int .i64 0, .string ⟨#[]⟩]⟩,
    ⟨none, none, .store 4 (.t 3) (.t 6)⟩] none [0, 2, 3]
def r_erasureref26Reader_Identifier_2 : ACode := .reg [
    ⟨some 7, none, .mov (.t 0)⟩,
    ⟨some 8, none, .call 78 [(.t 7)]⟩,
    ⟨some 9, none, .fld 1 (.t 3)⟩,
    ⟨none, none, .store 3 (.t 9) (.t 8)⟩] none [2, 3]
def r_erasureref26Reader_Identifier_3 : ACode := .reg [
    ⟨some 10, none, .load (some 4) (.t 3)⟩,
    ⟨none, none, .store 4 (.t 2) (.t 10)⟩] none [2]
def c_erasureref26Reader_Identifier : ACode :=
  (.seq r_erasureref26Reader_Identifier_0
  (.seq r_erasureref26Reader_Identifier_1
   (.seq r_erasureref26Reader_Identifier_2
    (.seq r_erasureref26Reader_Identifier_3
     .ret))))
theorem fits_erasureref26Reader_Identifier : Fits Try.prog 129 11 c_erasureref26Reader_Identifier [.c 2 (some 4)] := ⟨⟨Try.f129, _, _, Try.func129, rfl, rfl, rfl, by decide, by kernel_rfl, by kernel_rfl⟩, Try.checked.mixed⟩
/- (*erasure/erasureref26.Reader).Take -/
def r_erasureref26Reader_Take_0 : ACode := .reg [
    ⟨some 4, none, .mov (.k (.slice none 0 0))⟩] none [0, 1]
def r_erasureref26Reader_Take_1 : ACode := .reg [
    ⟨some 6, none, .mov (.t 0)⟩,
    ⟨some 7, none, .nilck (.t 6)⟩,
    ⟨some 8, none, .fld 1 (.t 7)⟩,
    ⟨some 9, none, .load none (.t 8)⟩,
    ⟨some 10, none, .bin .eql (.t 9) (.k (.int .i64 (0)))⟩,
    ⟨some 11, none, .mov (.t 10)⟩,
    ⟨some 12, (some (11, true)), .mov (.t 1)⟩,
    ⟨some 13, (some (11, true)), .mov (.t 0)⟩,
    ⟨some 14, (some (11, true)), .nilck (.t 13)⟩,
    ⟨some 15, (some (11, true)), .fld 0 (.t 14)⟩,
    ⟨some 16, (some (11, true)), .load none (.t 15)⟩,
    ⟨some 17, (some (11, true)), .len (.t 16)⟩,
    ⟨some 18, (some (11, true)), .bin .gtr (.t 12) (.t 17)⟩,
    ⟨some 19, none, .pick (.t 11) (.t 18) (.k (.bool false))⟩] none [0, 1, 19]
def r_erasureref26Reader_Take_2 : ACode := .reg [
    ⟨some 20, none, .mov (.t 0)⟩,
    ⟨some 21, none, .call 91 [(.t 20), (.k (.int .i64 (100)))]⟩] none [0, 1]
def r_erasureref26Reader_Take_3 : ACode := .reg [
    ⟨some 22, none, .mov (.t 0)⟩,
    ⟨some 23, none, .nilck (.t 22)⟩,
    ⟨some 24, none, .fld 1 (.t 23)⟩,
    ⟨some 25, none, .load none (.t 24)⟩,
    ⟨some 26, none, .bin .neq (.t 25) (.k (.int .i64 (0)))⟩] none [0, 1, 26]
def r_erasureref26Reader_Take_4 : ACode := .reg [
    ⟨some 4, none, .mov (.k (.slice none 0 0))⟩] none [4]
def r_erasureref26Reader_Take_5 : ACode := .reg [
    ⟨some 27, none, .lit 5 1 0 [.int .u8 0] [] true⟩,
    ⟨some 28, none, .mov (.t 0)⟩,
    ⟨some 29, none, .nilck (.t 28)⟩,
    ⟨some 30, none, .fld 0 (.t 29)⟩,
    ⟨some 31, none, .load none (.t 30)⟩,
    ⟨some 32, none, .mov (.t 1)⟩,
    ⟨some 33, none, .sl 1 (.t 31) none (some (.t 32)) none⟩,
    ⟨some 34, none, .app 5 1 1 (.t 27) (.t 33)⟩,
    ⟨some 5, none, .mov (.t 34)⟩] none [0, 1, 5]
def r_erasureref26Reader_Take_6 : ACode := .reg [
    ⟨some 35, none, .mov (.t 0)⟩,
    ⟨some 36, none, .mov (.t 0)⟩,
    ⟨some 37, none, .nilck (.t 36)⟩,
    ⟨some 38, none, .fld 0 (.t 37)⟩,
    ⟨some 39, none, .load none (.t 38)⟩,
    ⟨some 40, none, .mov (.t 1)⟩,
    ⟨some 41, none, .sl 1 (.t 39) (some (.t 40)) none none⟩,
    ⟨some 42, none, .nilck (.t 35)⟩,
    ⟨some 43, none, .fld 0 (.t 42)⟩,
    ⟨none, none, .store 1 (.t 43) (.t 41)⟩] none [5]
def r_erasureref26Reader_Take_7 : ACode := .reg [
    ⟨some 44, none, .mov (.t 5)⟩,
    ⟨some 4, none, .mov (.t 44)⟩] none [4]
def c_erasureref26Reader_Take : ACode :=
  (.seq r_erasureref26Reader_Take_0
  (.seq (.seq r_erasureref26Reader_Take_1
    (.cond (.t 19)
     r_erasureref26Reader_Take_2
     .skip))
   (.seq (.seq r_erasureref26Reader_Take_3
     (.cond (.t 26)
      (.seq r_erasureref26Reader_Take_4
       .ret)
      .skip))
    (.seq r_erasureref26Reader_Take_5
     (.seq r_erasureref26Reader_Take_6
      (.seq r_erasureref26Reader_Take_7
       .ret))))))
theorem fits_erasureref26Reader_Take : Fits Try.prog 133 45 c_erasureref26Reader_Take [.t 4] := ⟨⟨Try.f133, _, _, Try.func133, rfl, rfl, rfl, by decide, by kernel_rfl, by kernel_rfl⟩, Try.checked.mixed⟩
end Go.Proofs.Ytjieenfbfckafaa.Am

/- The code of functions of erasureref22 in the form of the abstract machine, and that it fits. -/
import Derived.Test.YtjieenfbfckafaaCNames
namespace Go.Proofs.Ytjieenfbfckafaa.Am
open Go
set_option linter.unusedVariables false
set_option linter.unusedSimpArgs false
set_option maxRecDepth 100000
/- erasure/erasureref22.SameVersions -/
def r_erasureref22SameVersions_0 : ACode := .reg [
    ⟨some 4, none, .mov (.k (.bool false))⟩] none [0, 1]
def r_erasureref22SameVersions_1 : ACode := .reg [
    ⟨some 6, none, .mov (.t 0)⟩,
    ⟨some 7, none, .len (.t 6)⟩,
    ⟨some 8, none, .mov (.t 1)⟩,
    ⟨some 9, none, .len (.t 8)⟩,
    ⟨some 10, none, .bin .neq (.t 7) (.t 9)⟩] none [0, 1, 10]
def r_erasureref22SameVersions_2 : ACode := .reg [
    ⟨some 4, none, .mov (.k (.bool false))⟩] none [4]
def r_erasureref22SameVersions_3 : ACode := .reg [
    ⟨some 5, none, .mov (.k (.int .i64 (0)))⟩] none [0, 1, 5]
def r_erasureref22SameVersions_4 : ACode := .reg [
    ⟨some 11, none, .mov (.t 5)⟩,
    ⟨some 12, none, .mov (.t 0)⟩,
    ⟨some 13, none, .len (.t 12)⟩,
    ⟨some 14, none, .bin .lss (.t 11) (.t 13)⟩] none [0, 1, 5, 14]
def r_erasureref22SameVersions_5 : ACode := .reg [
    ⟨some 17, none, .mov (.t 0)⟩,
    ⟨some 18, none, .mov (.t 5)⟩,
    ⟨some 19, none, .idxa 3 (.t 17) (.t 18)⟩,
    ⟨some 20, none, .load (some 3) (.t 19)⟩,
    ⟨some 21, none, .mov (.t 1)⟩,
    ⟨some 22, none, .mov (.t 5)⟩,
    ⟨some 23, none, .idxa 3 (.t 21) (.t 22)⟩,
    ⟨some 24, none, .load (some 3) (.t 23)⟩,
    ⟨some 25, none, .eqa true [(3, .ti .i64)] (.t 20) (.t 24)⟩] (some [0, 0, 3, 7, 0, 0, 48, 112, 255]) [0, 1, 5, 25]
def r_erasureref22SameVersions_6 : ACode := .reg [
    ⟨some 4, none, .mov (.k (.bool false))⟩] none [4]
def r_erasureref22SameVersions_7 : ACode := .reg [
    ⟨some 15, none, .mov (.t 5)⟩,
    ⟨some 16, none, .bin .add (.t 15) (.k (.int .i64 (1)))⟩,
    ⟨some 5, none, .mov (.t 16)⟩] none [0, 1, 5]
def r_erasureref22SameVersions_8 : ACode := .reg [
    ⟨some 4, none, .mov (.k (.bool true))⟩] none [4]
def c_erasureref22SameVersions : ACode :=
  (.seq r_erasureref22SameVersions_0
  (.seq (.seq r_erasureref22SameVersions_1
    (.cond (.t 10)
     (.seq r_erasureref22SameVersions_2
      .ret)
     .skip))
   (.seq (.seq r_erasureref22SameVersions_3
     (.block 0 (.loop (.seq (.seq r_erasureref22SameVersions_4
         (.cond (.t 14)
          .skip
          (.exit 0)))
        (.seq (.block 1 (.seq r_erasureref22SameVersions_5
           (.cond (.t 25)
            (.seq r_erasureref22SameVersions_6
             .ret)
            .skip)))
         r_erasureref22SameVersions_7)))))
    (.seq r_erasureref22SameVersions_8
     .ret))))
theorem fits_erasureref22SameVersions : Fits Try.prog 100 26 c_erasureref22SameVersions [.t 4] := ⟨⟨Try.f100, _, _, Try.func100, rfl, rfl, rfl, by decide, by kernel_rfl, by kernel_rfl⟩, Try.checked.mixed⟩
/- erasure/erasureref22.SameSources -/
def r_erasureref22SameSources_0 : ACode := .reg [
    ⟨some 4, none, .mov (.k (.bool false))⟩] none [0, 1]
def r_erasureref22SameSources_1 : ACode := .reg [
    ⟨some 6, none, .mov (.t 0)⟩,
    ⟨some 7, none, .len (.t 6)⟩,
    ⟨some 8, none, .mov (.t 1)⟩,
    ⟨some 9, none, .len (.t 8)⟩,
    ⟨some 10, none, .bin .neq (.t 7) (.t 9)⟩] none [0, 1, 10]
def r_erasureref22SameSources_2 : ACode := .reg [
    ⟨some 4, none, .mov (.k (.bool false))⟩] none [4]
def r_erasureref22SameSources_3 : ACode := .reg [
    ⟨some 5, none, .mov (.k (.int .i64 (0)))⟩] none [0, 1, 5]
def r_erasureref22SameSources_4 : ACode := .reg [
    ⟨some 11, none, .mov (.t 5)⟩,
    ⟨some 12, none, .mov (.t 0)⟩,
    ⟨some 13, none, .len (.t 12)⟩,
    ⟨some 14, none, .bin .lss (.t 11) (.t 13)⟩] none [0, 1, 5, 14]
def r_erasureref22SameSources_5 : ACode := .reg [
    ⟨some 17, none, .mov (.t 0)⟩,
    ⟨some 18, none, .mov (.t 5)⟩,
    ⟨some 19, none, .idxa 2 (.t 17) (.t 18)⟩,
    ⟨some 20, none, .load (some 2) (.t 19)⟩,
    ⟨some 21, none, .mov (.t 1)⟩,
    ⟨some 22, none, .mov (.t 5)⟩,
    ⟨some 23, none, .idxa 2 (.t 21) (.t 22)⟩,
    ⟨some 24, none, .load (some 2) (.t 23)⟩,
    ⟨some 25, none, .eqa true [(2, .ti .i64)] (.t 20) (.t 24)⟩] (some [0, 0, 3, 7, 0, 0, 48, 112, 255]) [0, 1, 5, 25]
def r_erasureref22SameSources_6 : ACode := .reg [
    ⟨some 4, none, .mov (.k (.bool false))⟩] none [4]
def r_erasureref22SameSources_7 : ACode := .reg [
    ⟨some 15, none, .mov (.t 5)⟩,
    ⟨some 16, none, .bin .add (.t 15) (.k (.int .i64 (1)))⟩,
    ⟨some 5, none, .mov (.t 16)⟩] none [0, 1, 5]
def r_erasureref22SameSources_8 : ACode := .reg [
    ⟨some 4, none, .mov (.k (.bool true))⟩] none [4]
def c_erasureref22SameSources : ACode :=
  (.seq r_erasureref22SameSources_0
  (.seq (.seq r_erasureref22SameSources_1
    (.cond (.t 10)
     (.seq r_erasureref22SameSources_2
      .ret)
     .skip))
   (.seq (.seq r_erasureref22SameSources_3
     (.block 0 (.loop (.seq (.seq r_erasureref22SameSources_4
         (.cond (.t 14)
          .skip
          (.exit 0)))
        (.seq (.block 1 (.seq r_erasureref22SameSources_5
           (.cond (.t 25)
            (.seq r_erasureref22SameSources_6
             .ret)
            .skip)))
         r_erasureref22SameSources_7)))))
    (.seq r_erasureref22SameSources_8
     .ret))))
theorem fits_erasureref22SameSources : Fits Try.prog 101 26 c_erasureref22SameSources [.t 4] := ⟨⟨Try.f101, _, _, Try.func101, rfl, rfl, rfl, by decide, by kernel_rfl, by kernel_rfl⟩, Try.checked.mixed⟩
/- erasure/erasureref22.SameRow -/
def r_erasureref22SameRow_0 : ACode := .reg [
    ⟨some 4, none, .mov (.k (.bool false))⟩] none [0, 1]
def r_erasureref22SameRow_1 : ACode := .reg [
    ⟨some 6, none, .mov (.t 0)⟩,
    ⟨some 7, none, .len (.t 6)⟩,
    ⟨some 8, none, .mov (.t 1)⟩,
    ⟨some 9, none, .len (.t 8)⟩,
    ⟨some 10, none, .bin .neq (.t 7) (.t 9)⟩] none [0, 1, 10]
def r_erasureref22SameRow_2 : ACode := .reg [
    ⟨some 4, none, .mov (.k (.bool false))⟩] none [4]
def r_erasureref22SameRow_3 : ACode := .reg [
    ⟨some 5, none, .mov (.k (.int .i64 (0)))⟩] none [0, 1, 5]
def r_erasureref22SameRow_4 : ACode := .reg [
    ⟨some 11, none, .mov (.t 5)⟩,
    ⟨some 12, none, .mov (.t 0)⟩,
    ⟨some 13, none, .len (.t 12)⟩,
    ⟨some 14, none, .bin .lss (.t 11) (.t 13)⟩] none [0, 1, 5, 14]
def r_erasureref22SameRow_5 : ACode := .reg [
    ⟨some 17, none, .mov (.t 0)⟩,
    ⟨some 18, none, .mov (.t 5)⟩,
    ⟨some 19, none, .idxa 3 (.t 17) (.t 18)⟩,
    ⟨some 20, none, .load (some 3) (.t 19)⟩,
    ⟨some 21, none, .mov (.t 1)⟩,
    ⟨some 22, none, .mov (.t 5)⟩,
    ⟨some 23, none, .idxa 3 (.t 21) (.t 22)⟩,
    ⟨some 24, none, .load (some 3) (.t 23)⟩,
    ⟨some 25, none, .eqa true [(2, .ti .i64), (1, .ts)] (.t 20) (.t 24)⟩] (some [0, 0, 3, 7, 0, 0, 48, 112, 255]) [0, 1, 5, 25]
def r_erasureref22SameRow_6 : ACode := .reg [
    ⟨some 4, none, .mov (.k (.bool false))⟩] none [4]
def r_erasureref22SameRow_7 : ACode := .reg [
    ⟨some 15, none, .mov (.t 5)⟩,
    ⟨some 16, none, .bin .add (.t 15) (.k (.int .i64 (1)))⟩,
    ⟨some 5, none, .mov (.t 16)⟩] none [0, 1, 5]
def r_erasureref22SameRow_8 : ACode := .reg [
    ⟨some 4, none, .mov (.k (.bool true))⟩] none [4]
def c_erasureref22SameRow : ACode :=
  (.seq r_erasureref22SameRow_0
  (.seq (.seq r_erasureref22SameRow_1
    (.cond (.t 10)
     (.seq r_erasureref22SameRow_2
      .ret)
     .skip))
   (.seq (.seq r_erasureref22SameRow_3
     (.block 0 (.loop (.seq (.seq r_erasureref22SameRow_4
         (.cond (.t 14)
          .skip
          (.exit 0)))
        (.seq (.block 1 (.seq r_erasureref22SameRow_5
           (.cond (.t 25)
            (.seq r_erasureref22SameRow_6
             .ret)
            .skip)))
         r_erasureref22SameRow_7)))))
    (.seq r_erasureref22SameRow_8
     .ret))))
theorem fits_erasureref22SameRow : Fits Try.prog 107 26 c_erasureref22SameRow [.t 4] := ⟨⟨Try.f107, _, _, Try.func107, rfl, rfl, rfl, by decide, by kernel_rfl, by kernel_rfl⟩, Try.checked.mixed⟩
/- erasure/erasureref22.SameBag -/
def r_erasureref22SameBag_0 : ACode := .reg [
    ⟨some 4, none, .mov (.k (.bool false))⟩] none [0, 1]
def r_erasureref22SameBag_1 : ACode := .reg [
    ⟨some 6, none, .mov (.t 0)⟩,
    ⟨some 7, none, .len (.t 6)⟩,
    ⟨some 8, none, .mov (.t 1)⟩,
    ⟨some 9, none, .len (.t 8)⟩,
    ⟨some 10, none, .bin .neq (.t 7) (.t 9)⟩] none [0, 1, 10]
def r_erasureref22SameBag_2 : ACode := .reg [
    ⟨some 4, none, .mov (.k (.bool false))⟩] none [4]
def r_erasureref22SameBag_3 : ACode := .reg [
    ⟨some 5, none, .mov (.k (.int .i64 (0)))⟩] none [0, 1, 5]
def r_erasureref22SameBag_4 : ACode := .reg [
    ⟨some 11, none, .mov (.t 5)⟩,
    ⟨some 12, none, .mov (.t 0)⟩,
    ⟨some 13, none, .len (.t 12)⟩,
    ⟨some 14, none, .bin .lss (.t 11) (.t 13)⟩] none [0, 1, 5, 14]
def r_erasureref22SameBag_5 : ACode := .reg [
    ⟨some 17, none, .mov (.t 0)⟩,
    ⟨some 18, none, .mov (.t 5)⟩,
    ⟨some 19, none, .idxa 2 (.t 17) (.t 18)⟩,
    ⟨some 20, none, .fld 0 (.t 19)⟩,
    ⟨some 21, none, .load none (.t 20)⟩,
    ⟨some 22, none, .mov (.t 1)⟩,
    ⟨some 23, none, .mov (.t 5)⟩,
    ⟨some 24, none, .idxa 2 (.t 22) (.t 23)⟩,
    ⟨some 25, none, .fld 0 (.t 24)⟩,
    ⟨some 26, none, .load none (.t 25)⟩,
    ⟨some 27, none, .call 107 [(.t 21), (.t 26)]⟩,
    ⟨some 28, none, .un .not (.t 27)⟩,
    ⟨some 29, none, .mov (.t 28)⟩,
    ⟨some 30, (some (29, false)), .mov (.t 0)⟩,
    ⟨some 31, (some (29, false)), .mov (.t 5)⟩,
    ⟨some 32, (some (29, false)), .idxa 2 (.t 30) (.t 31)⟩,
    ⟨some 33, (some (29, false)), .fld 1 (.t 32)⟩,
    ⟨some 34, (some (29, false)), .load none (.t 33)⟩,
    ⟨some 35, (some (29, false)), .mov (.t 1)⟩,
    ⟨some 36, (some (29, false)), .mov (.t 5)⟩,
    ⟨some 37, (some (29, false)), .idxa 2 (.t 35) (.t 36)⟩,
    ⟨some 38, (some (29, false)), .fld 1 (.t 37)⟩,
    ⟨some 39, (some (29, false)), .load none (.t 38)⟩,
    ⟨some 40, (some (29, false)), .bin .neq (.t 34) (.t 39)⟩,
    ⟨some 41, none, .pick (.t 29) (.k (.bool true)) (.t 40)⟩] (some [0, 0, 3, 7, 15, 0, 0, 96, 224, 480, 1023, 2047, 4095, 8191, 8191, 32767, 65535, 131071, 8191, 8191, 794623, 1843199, 3940351, 8388607, 16777215]) [0, 1, 5, 41]
def r_erasureref22SameBag_6 : ACode := .reg [
    ⟨some 4, none, .mov (.k (.bool false))⟩] none [4]
def r_erasureref22SameBag_7 : ACode := .reg [
    ⟨some 15, none, .mov (.t 5)⟩,
    ⟨some 16, none, .bin .add (.t 15) (.k (.int .i64 (1)))⟩,
    ⟨some 5, none, .mov (.t 16)⟩] none [0, 1, 5]
def r_erasureref22SameBag_8 : ACode := .reg [
    ⟨some 4, none, .mov (.k (.bool true))⟩] none [4]
def c_erasureref22SameBag : ACode :=
  (.seq r_erasureref22SameBag_0
  (.seq (.seq r_erasureref22SameBag_1
    (.cond (.t 10)
     (.seq r_erasureref22SameBag_2
      .ret)
     .skip))
   (.seq (.seq r_erasureref22SameBag_3
     (.block 0 (.loop (.seq (.seq r_erasureref22SameBag_4
         (.cond (.t 14)
          .skip
          (.exit 0)))
        (.seq (.block 1 (.seq r_erasureref22SameBag_5
           (.cond (.t 41)
            (.seq r_erasureref22SameBag_6
             .ret)
            .skip)))
         r_erasureref22SameBag_7)))))
    (.seq r_erasureref22SameBag_8
     .ret))))
theorem fits_erasureref22SameBag : Fits Try.prog 109 42 c_erasureref22SameBag [.t 4] := ⟨⟨Try.f109, _, _, Try.func109, rfl, rfl, rfl, by decide, by kernel_rfl, by kernel_rfl⟩, Try.checked.mixed⟩
/- erasure/erasureref22.SameRecord -/
def r_erasureref22SameRecord_0 : ACode := .reg [
    ⟨some 2, none, .box 95 (.t 0)⟩,
    ⟨some 3, none, .box 95 (.t 1)⟩,
    ⟨some 4, none, .mov (.k (.bool false))⟩] none [2, 3]
def r_erasureref22SameRecord_1 : ACode := .reg [
    ⟨some 5, none, .fld 0 (.t 2)⟩,
    ⟨some 6, none, .load none (.t 5)⟩,
    ⟨some 7, none, .fld 0 (.t 3)⟩,
    ⟨some 8, none, .load none (.t 7)⟩,
    ⟨some 9, none, .call 107 [(.t 6), (.t 8)]⟩,
    ⟨some 10, none, .mov (.t 9)⟩,
    ⟨some 11, (some (10, true)), .fld 1 (.t 2)⟩,
    ⟨some 12, (some (10, true)), .load none (.t 11)⟩,
    ⟨some 13, (some (10, true)), .fld 1 (.t 3)⟩,
    ⟨some 14, (some (10, true)), .load none (.t 13)⟩,
    ⟨some 15, (some (10, true)), .call 132 [(.t 12), (.t 14)]⟩,
    ⟨some 16, none, .pick (.t 10) (.t 15) (.k (.bool false))⟩,
    ⟨some 17, none, .mov (.t 16)⟩,
    ⟨some 18, (some (17, true)), .fld 2 (.t 2)⟩,
    ⟨some 19, (some (17, true)), .load none (.t 18)⟩,
    ⟨some 20, (some (17, true)), .fld 2 (.t 3)⟩,
    ⟨some 21, (some (17, true)), .load none (.t 20)⟩,
    ⟨some 22, (some (17, true)), .bin .eql (.t 19) (.t 21)⟩,
    ⟨some 23, none, .pick (.t 17) (.t 22) (.k (.bool false))⟩,
    ⟨some 4, none, .mov (.t 23)⟩] none [4]
def c_erasureref22SameRecord : ACode :=
  (.seq r_erasureref22SameRecord_0
  (.seq r_erasureref22SameRecord_1
   .ret))
theorem fits_erasureref22SameRecord : Fits Try.prog 112 24 c_erasureref22SameRecord [.t 4] := ⟨⟨Try.f112, _, _, Try.func112, rfl, rfl, rfl, by decide, by kernel_rfl, by kernel_rfl⟩, Try.checked.mixed⟩
/- erasure/erasureref22.SameInts -/
def r_erasureref22SameInts_0 : ACode := .reg [
    ⟨some 4, none, .mov (.k (.bool false))⟩] none [0, 1]
def r_erasureref22SameInts_1 : ACode := .reg [
    ⟨some 6, none, .mov (.t 0)⟩,
    ⟨some 7, none, .len (.t 6)⟩,
    ⟨some 8, none, .mov (.t 1)⟩,
    ⟨some 9, none, .len (.t 8)⟩,
    ⟨some 10, none, .bin .neq (.t 7) (.t 9)⟩] none [0, 1, 10]
def r_erasureref22SameInts_2 : ACode := .reg [
    ⟨some 4, none, .mov (.k (.bool false))⟩] none [4]
def r_erasureref22SameInts_3 : ACode := .reg [
    ⟨some 5, none, .mov (.k (.int .i64 (0)))⟩] none [0, 1, 5]
def r_erasureref22SameInts_4 : ACode := .reg [
    ⟨some 11, none, .mov (.t 5)⟩,
    ⟨some 12, none, .mov (.t 0)⟩,
    ⟨some 13, none, .len (.t 12)⟩,
    ⟨some 14, none, .bin .lss (.t 11) (.t 13)⟩] none [0, 1, 5, 14]
def r_erasureref22SameInts_5 : ACode := .reg [
    ⟨some 17, none, .mov (.t 0)⟩,
    ⟨some 18, none, .mov (.t 5)⟩,
    ⟨some 19, none, .idxa 1 (.t 17) (.t 18)⟩,
    ⟨some 20, none, .load none (.t 19)⟩,
    ⟨some 21, none, .mov (.t 1)⟩,
    ⟨some 22, none, .mov (.t 5)⟩,
    ⟨some 23, none, .idxa 1 (.t 21) (.t 22)⟩,
    ⟨some 24, none, .load none (.t 23)⟩,
    ⟨some 25, none, .bin .neq (.t 20) (.t 24)⟩] (some [0, 0, 3, 7, 0, 0, 48, 112, 255]) [0, 1, 5, 25]
def r_erasureref22SameInts_6 : ACode := .reg [
    ⟨some 4, none, .mov (.k (.bool false))⟩] none [4]
def r_erasureref22SameInts_7 : ACode := .reg [
    ⟨some 15, none, .mov (.t 5)⟩,
    ⟨some 16, none, .bin .add (.t 15) (.k (.int .i64 (1)))⟩,
    ⟨some 5, none, .mov (.t 16)⟩] none [0, 1, 5]
def r_erasureref22SameInts_8 : ACode := .reg [
    ⟨some 4, none, .mov (.k (.bool true))⟩] none [4]
def c_erasureref22SameInts : ACode :=
  (.seq r_erasureref22SameInts_0
  (.seq (.seq r_erasureref22SameInts_1
    (.cond (.t 10)
     (.seq r_erasureref22SameInts_2
      .ret)
     .skip))
   (.seq (.seq r_erasureref22SameInts_3
     (.block 0 (.loop (.seq (.seq r_erasureref22SameInts_4
         (.cond (.t 14)
          .skip
          (.exit 0)))
        (.seq (.block 1 (.seq r_erasureref22SameInts_5
           (.cond (.t 25)
            (.seq r_erasureref22SameInts_6
             .ret)
            .skip)))
         r_erasureref22SameInts_7)))))
    (.seq r_erasureref22SameInts_8
     .ret))))
theorem fits_erasureref22SameInts : Fits Try.prog 132 26 c_erasureref22SameInts [.t 4] := ⟨⟨Try.f132, _, _, Try.func132, rfl, rfl, rfl, by decide, by kernel_rfl, by kernel_rfl⟩, Try.checked.mixed⟩
end Go.Proofs.Ytjieenfbfckafaa.Am

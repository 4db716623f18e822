/- The code of functions of erasureref32 in the form of the abstract machine, and that it fits. -/
import Derived.Test.YtilbfoijfiebdaaCNames
namespace Go.Proofs.Ytilbfoijfiebdaa.Am
open Go
set_option linter.unusedVariables false
set_option linter.unusedSimpArgs false
set_option maxRecDepth 100000
/- erasure/erasureref32.Same -/
def r_erasureref32Same_0 : ACode := .reg [
    ⟨some 2, none, .box 26 (.t 0)⟩,
    ⟨some 3, none, .box 26 (.t 1)⟩,
    ⟨some 4, none, .mov (.k (.bool false))⟩] none [2, 3]
def r_erasureref32Same_1 : ACode := .reg [
    ⟨some 5, none, .fld 0 (.t 2)⟩,
    ⟨some 6, none, .load none (.t 5)⟩,
    ⟨some 7, none, .tostr (.t 6)⟩,
    ⟨some 8, none, .fld 0 (.t 3)⟩,
    ⟨some 9, none, .load none (.t 8)⟩,
    ⟨some 10, none, .tostr (.t 9)⟩,
    ⟨some 11, none, .bin .eql (.t 7) (.t 10)⟩,
    ⟨some 12, none, .mov (.t 11)⟩,
    ⟨some 13, (some (12, true)), .fld 1 (.t 2)⟩,
    ⟨some 14, (some (12, true)), .load none (.t 13)⟩,
    ⟨some 15, (some (12, true)), .tostr (.t 14)⟩,
    ⟨some 16, (some (12, true)), .fld 1 (.t 3)⟩,
    ⟨some 17, (some (12, true)), .load none (.t 16)⟩,
    ⟨some 18, (some (12, true)), .tostr (.t 17)⟩,
    ⟨some 19, (some (12, true)), .bin .eql (.t 15) (.t 18)⟩,
    ⟨some 20, none, .pick (.t 12) (.t 19) (.k (.bool false))⟩,
    ⟨some 21, none, .mov (.t 20)⟩,
    ⟨some 22, (some (21, true)), .fld 2 (.t 2)⟩,
    ⟨some 23, (some (21, true)), .load none (.t 22)⟩,
    ⟨some 24, (some (21, true)), .fld 2 (.t 3)⟩,
    ⟨some 25, (some (21, true)), .load none (.t 24)⟩,
    ⟨some 26, (some (21, true)), .bin .eql (.t 23) (.t 25)⟩,
    ⟨some 27, none, .pick (.t 21) (.t 26) (.k (.bool false))⟩,
    ⟨some 28, none, .mov (.t 27)⟩,
    ⟨some 29, (some (28, true)), .fld 3 (.t 2)⟩,
    ⟨some 30, (some (28, true)), .load none (.t 29)⟩,
    ⟨some 31, (some (28, true)), .fld 3 (.t 3)⟩,
    ⟨some 32, (some (28, true)), .load none (.t 31)⟩,
    ⟨some 33, (some (28, true)), .eqb false (.t 30) (.t 32)⟩,
    ⟨some 34, none, .pick (.t 28) (.t 33) (.k (.bool false))⟩,
    ⟨some 4, none, .mov (.t 34)⟩] none [4]
def c_erasureref32Same : ACode :=
  (.seq r_erasureref32Same_0
  (.seq r_erasureref32Same_1
   .ret))
theorem fits_erasureref32Same : Fits Try.prog 12 35 c_erasureref32Same [.t 4] := ⟨⟨Try.f12, _, _, Try.func12, rfl, rfl, rfl, by decide, by kernel_rfl, by kernel_rfl⟩, Try.checked.mixed⟩
/- erasure/erasureref32.New -/
def r_erasureref32New_0 : ACode := .reg [
    ⟨some 0, none, .alloc 26 [.slice none 0 0, .slice none 0 0, .int .i64 0, .bool false]⟩] none [0]
def r_erasureref32New_1 : ACode := .reg [
    ⟨some 1, none, .build [.slice none 0 0, .slice none 0 0, .int .i64 0, .bool false] [(2, 1, (.k (.int .i64 (-1))))]⟩,
    ⟨none, none, .store 4 (.t 0) (.t 1)⟩] none [0]
def c_erasureref32New : ACode :=
  (.seq r_erasureref32New_0
  (.seq r_erasureref32New_1
   .ret))
theorem fits_erasureref32New : Fits Try.prog 16 2 c_erasureref32New [.c 0 (some 4)] := ⟨⟨Try.f16, _, _, Try.func16, rfl, rfl, rfl, by decide, by kernel_rfl, by kernel_rfl⟩, Try.checked.mixed⟩
/- erasure/erasureref32.Valid -/
def r_erasureref32Valid_0 : ACode := .reg [
    ⟨some 1, none, .box 26 (.t 0)⟩,
    ⟨some 2, none, .mov (.k (.bool false))⟩] none [1]
def r_erasureref32Valid_1 : ACode := .reg [
    ⟨some 3, none, .fld 0 (.t 1)⟩,
    ⟨some 4, none, .load none (.t 3)⟩,
    ⟨some 5, none, .len (.t 4)⟩,
    ⟨some 6, none, .bin .leq (.t 5) (.k (.int .i64 (131072)))⟩,
    ⟨some 7, none, .mov (.t 6)⟩,
    ⟨some 8, (some (7, true)), .fld 1 (.t 1)⟩,
    ⟨some 9, (some (7, true)), .load none (.t 8)⟩,
    ⟨some 10, (some (7, true)), .len (.t 9)⟩,
    ⟨some 11, (some (7, true)), .fld 0 (.t 1)⟩,
    ⟨some 12, (some (7, true)), .load none (.t 11)⟩,
    ⟨some 13, (some (7, true)), .len (.t 12)⟩,
    ⟨some 14, (some (7, true)), .bin .sub (.k (.int .i64 (131072))) (.t 13)⟩,
    ⟨some 15, (some (7, true)), .bin .leq (.t 10) (.t 14)⟩,
    ⟨some 16, none, .pick (.t 7) (.t 15) (.k (.bool false))⟩,
    ⟨some 17, none, .mov (.t 16)⟩,
    ⟨some 18, (some (17, true)), .fld 2 (.t 1)⟩,
    ⟨some 19, (some (17, true)), .load none (.t 18)⟩,
    ⟨some 20, (some (17, true)), .bin .geq (.t 19) (.k (.int .i64 (-1)))⟩,
    ⟨some 21, none, .pick (.t 17) (.t 20) (.k (.bool false))⟩,
    ⟨some 2, none, .mov (.t 21)⟩] none [2]
def c_erasureref32Valid : ACode :=
  (.seq r_erasureref32Valid_0
  (.seq r_erasureref32Valid_1
   .ret))
theorem fits_erasureref32Valid : Fits Try.prog 21 22 c_erasureref32Valid [.t 2] := ⟨⟨Try.f21, _, _, Try.func21, rfl, rfl, rfl, by decide, by kernel_rfl, by kernel_rfl⟩, Try.checked.mixed⟩
/- erasure/erasureref32.Append -/
def r_erasureref32Append_0 : ACode := .reg [
    ⟨some 2, none, .box 26 (.t 0)⟩,
    ⟨some 4, none, .alloc 26 [.slice none 0 0, .slice none 0 0, .int .i64 0, .bool false]⟩,
    ⟨some 5, none, .mov (.k (.int .i64 (0)))⟩] none [1, 2, 4]
def r_erasureref32Append_1 : ACode := .reg [
    ⟨some 6, none, .load (some 4) (.t 2)⟩,
    ⟨some 7, none, .call 21 [(.t 6)]⟩,
    ⟨some 8, none, .un .not (.t 7)⟩] none [1, 2, 4, 8]
def r_erasureref32Append_2 : ACode := .reg [
    ⟨some 9, none, .build [.slice none 0 0, .slice none 0 0, .int .i64 0, .bool false] []⟩,
    ⟨none, none, .store 4 (.t 4) (.t 9)⟩,
    ⟨some 5, none, .mov (.k (.int .i64 (1)))⟩] none [4, 5]
def r_erasureref32Append_3 : ACode := .reg [
    ⟨some 10, none, .fld 3 (.t 2)⟩,
    ⟨some 11, none, .load none (.t 10)⟩] none [1, 2, 4, 11]
def r_erasureref32Append_4 : ACode := .reg [
    ⟨some 12, none, .load (some 4) (.t 2)⟩,
    ⟨none, none, .store 4 (.t 4) (.t 12)⟩,
    ⟨some 5, none, .mov (.k (.int .i64 (104)))⟩] none [4, 5]
def r_erasureref32Append_5 : ACode := .reg [
    ⟨some 13, none, .mov (.t 1)⟩,
    ⟨some 14, none, .len (.t 13)⟩,
    ⟨some 15, none, .fld 0 (.t 2)⟩,
    ⟨some 16, none, .load none (.t 15)⟩,
    ⟨some 17, none, .len (.t 16)⟩,
    ⟨some 18, none, .bin .sub (.k (.int .i64 (131072))) (.t 17)⟩,
    ⟨some 19, none, .fld 1 (.t 2)⟩,
    ⟨some 20, none, .load none (.t 19)⟩,
    ⟨some 21, none, .len (.t 20)⟩,
    ⟨some 22, none, .bin .sub (.t 18) (.t 21)⟩,
    ⟨some 23, none, .bin .gtr (.t 14) (.t 22)⟩] none [1, 2, 4, 23]
def r_erasureref32Append_6 : ACode := .reg [
    ⟨some 24, none, .build [.slice none 0 0, .slice none 0 0, .int .i64 0, .bool false] []⟩,
    ⟨none, none, .store 4 (.t 4) (.t 24)⟩,
    ⟨some 5, none, .mov (.k (.int .i64 (8)))⟩] none [4, 5]
def r_erasureref32Append_7 : ACode := .reg [
    ⟨some 25, none, .fld 2 (.t 2)⟩,
    ⟨some 26, none, .load none (.t 25)⟩,
    ⟨some 27, none, .bin .geq (.t 26) (.k (.int .i64 (0)))⟩,
    ⟨some 28, none, .mov (.t 27)⟩,
    ⟨some 29, (some (28, true)), .fld 2 (.t 2)⟩,
    ⟨some 30, (some (28, true)), .load none (.t 29)⟩,
    ⟨some 31, (some (28, true)), .mov (.t 1)⟩,
    ⟨some 32, (some (28, true)), .len (.t 31)⟩,
    ⟨some 33, (some (28, true)), .bin .lss (.t 30) (.t 32)⟩,
    ⟨some 34, none, .pick (.t 28) (.t 33) (.k (.bool false))⟩] none [1, 2, 4, 34]
def r_erasureref32Append_8 : ACode := .reg [
    ⟨some 35, none, .fld 1 (.t 2)⟩,
    ⟨some 36, none, .load none (.t 35)⟩,
    ⟨some 37, none, .mov (.t 1)⟩,
    ⟨some 38, none, .fld 2 (.t 2)⟩,
    ⟨some 39, none, .load none (.t 38)⟩,
    ⟨some 40, none, .sl 1 (.t 37) none (some (.t 39)) none⟩,
    ⟨some 41, none, .call 33 [(.t 36), (.t 40)]⟩,
    ⟨some 42, none, .fld 1 (.t 2)⟩,
    ⟨none, none, .store 1 (.t 42) (.t 41)⟩] (some [0, 1, 0, 0, 8, 28, 63, 127, 255]) [2, 4]
def r_erasureref32Append_9 : ACode := .reg [
    ⟨some 43, none, .fld 2 (.t 2)⟩,
    ⟨none, none, .store 1 (.t 43) (.k (.int .i64 (0)))⟩] none [2, 4]
def r_erasureref32Append_10 : ACode := .reg [
    ⟨some 44, none, .fld 3 (.t 2)⟩,
    ⟨none, none, .store 1 (.t 44) (.k (.bool true))⟩] none [2, 4]
def r_erasureref32Append_11 : ACode := .reg [
    ⟨some 45, none, .load (some 4) (.t 2)⟩,
    ⟨none, none, .store 4 (.t 4) (.t 45)⟩,
    ⟨some 5, none, .mov (.k (.int .i64 (104)))⟩] none [4, 5]
def r_erasureref32Append_12 : ACode := .reg [
    ⟨some 46, none, .fld 1 (.t 2)⟩,
    ⟨some 47, none, .load none (.t 46)⟩,
    ⟨some 48, none, .mov (.t 1)⟩,
    ⟨some 49, none, .call 33 [(.t 47), (.t 48)]⟩,
    ⟨some 50, none, .fld 1 (.t 2)⟩,
    ⟨none, none, .store 1 (.t 50) (.t 49)⟩] none [1, 2, 4]
def r_erasureref32Append_13 : ACode := .reg [
    ⟨some 51, none, .fld 2 (.t 2)⟩,
    ⟨some 52, none, .load none (.t 51)⟩,
    ⟨some 53, none, .bin .geq (.t 52) (.k (.int .i64 (0)))⟩] none [1, 2, 4, 53]
def r_erasureref32Append_14 : ACode := .reg [
    ⟨some 54, none, .fld 2 (.t 2)⟩,
    ⟨some 55, none, .load none (.t 54)⟩,
    ⟨some 56, none, .mov (.t 1)⟩,
    ⟨some 57, none, .len (.t 56)⟩,
    ⟨some 58, none, .bin .sub (.t 55) (.t 57)⟩,
    ⟨some 59, none, .fld 2 (.t 2)⟩,
    ⟨none, none, .store 1 (.t 59) (.t 58)⟩] none [2, 4]
def r_erasureref32Append_15 : ACode := .reg [
    ⟨some 60, none, .load (some 4) (.t 2)⟩,
    ⟨none, none, .store 4 (.t 4) (.t 60)⟩,
    ⟨some 5, none, .mov (.k (.int .i64 (0)))⟩] none [4, 5]
def c_erasureref32Append : ACode :=
  (.seq r_erasureref32Append_0
  (.seq (.seq r_erasureref32Append_1
    (.cond (.t 8)
     (.seq r_erasureref32Append_2
      .ret)
     .skip))
   (.seq (.seq r_erasureref32Append_3
     (.cond (.t 11)
      (.seq r_erasureref32Append_4
       .ret)
      .skip))
    (.seq (.seq r_erasureref32Append_5
      (.cond (.t 23)
       (.seq r_erasureref32Append_6
        .ret)
       .skip))
     (.seq (.seq r_erasureref32Append_7
       (.cond (.t 34)
        (.seq r_erasureref32Append_8
         (.seq r_erasureref32Append_9
          (.seq r_erasureref32Append_10
           (.seq r_erasureref32Append_11
            .ret))))
        .skip))
      (.seq r_erasureref32Append_12
       (.seq (.seq r_erasureref32Append_13
         (.cond (.t 53)
          r_erasureref32Append_14
          .skip))
        (.seq r_erasureref32Append_15
         .ret))))))))
theorem fits_erasureref32Append : Fits Try.prog 27 61 c_erasureref32Append [.c 4 (some 4), .t 5] := ⟨⟨Try.f27, _, _, Try.func27, rfl, rfl, rfl, by decide, by kernel_rfl, by kernel_rfl⟩, Try.checked.mixed⟩
/- erasure/erasureref32.Sync -/
def r_erasureref32Sync_0 : ACode := .reg [
    ⟨some 1, none, .box 26 (.t 0)⟩,
    ⟨some 2, none, .alloc 26 [.slice none 0 0, .slice none 0 0, .int .i64 0, .bool false]⟩,
    ⟨some 3, none, .mov (.k (.int .i64 (0)))⟩] none [1, 2]
def r_erasureref32Sync_1 : ACode := .reg [
    ⟨some 4, none, .load (some 4) (.t 1)⟩,
    ⟨some 5, none, .call 21 [(.t 4)]⟩,
    ⟨some 6, none, .un .not (.t 5)⟩] none [1, 2, 6]
def r_erasureref32Sync_2 : ACode := .reg [
    ⟨some 7, none, .build [.slice none 0 0, .slice none 0 0, .int .i64 0, .bool false] []⟩,
    ⟨none, none, .store 4 (.t 2) (.t 7)⟩,
    ⟨some 3, none, .mov (.k (.int .i64 (1)))⟩] none [2, 3]
def r_erasureref32Sync_3 : ACode := .reg [
    ⟨some 8, none, .fld 3 (.t 1)⟩,
    ⟨some 9, none, .load none (.t 8)⟩] none [1, 2, 9]
def r_erasureref32Sync_4 : ACode := .reg [
    ⟨some 10, none, .load (some 4) (.t 1)⟩,
    ⟨none, none, .store 4 (.t 2) (.t 10)⟩,
    ⟨some 3, none, .mov (.k (.int .i64 (104)))⟩] none [2, 3]
def r_erasureref32Sync_5 : ACode := .reg [
    ⟨some 11, none, .fld 2 (.t 1)⟩,
    ⟨some 12, none, .load none (.t 11)⟩,
    ⟨some 13, none, .bin .eql (.t 12) (.k (.int .i64 (0)))⟩,
    ⟨some 14, none, .mov (.t 13)⟩,
    ⟨some 15, (some (14, true)), .fld 1 (.t 1)⟩,
    ⟨some 16, (some (14, true)), .load none (.t 15)⟩,
    ⟨some 17, (some (14, true)), .len (.t 16)⟩,
    ⟨some 18, (some (14, true)), .bin .gtr (.t 17) (.k (.int .i64 (0)))⟩,
    ⟨some 19, none, .pick (.t 14) (.t 18) (.k (.bool false))⟩] none [1, 2, 19]
def r_erasureref32Sync_6 : ACode := .reg [
    ⟨some 20, none, .fld 3 (.t 1)⟩,
    ⟨none, none, .store 1 (.t 20) (.k (.bool true))⟩] none [1, 2]
def r_erasureref32Sync_7 : ACode := .reg [
    ⟨some 21, none, .load (some 4) (.t 1)⟩,
    ⟨none, none, .store 4 (.t 2) (.t 21)⟩,
    ⟨some 3, none, .mov (.k (.int .i64 (104)))⟩] none [2, 3]
def r_erasureref32Sync_8 : ACode := .reg [
    ⟨some 22, none, .fld 0 (.t 1)⟩,
    ⟨some 23, none, .load none (.t 22)⟩,
    ⟨some 24, none, .fld 1 (.t 1)⟩,
    ⟨some 25, none, .load none (.t 24)⟩,
    ⟨some 26, none, .call 33 [(.t 23), (.t 25)]⟩,
    ⟨some 27, none, .fld 0 (.t 1)⟩,
    ⟨none, none, .store 1 (.t 27) (.t 26)⟩] none [1, 2]
def r_erasureref32Sync_9 : ACode := .reg [
    ⟨some 28, none, .fld 1 (.t 1)⟩,
    ⟨none, none, .store 1 (.t 28) (.k (.slice none 0 0))⟩] none [1, 2]
def r_erasureref32Sync_10 : ACode := .reg [
    ⟨some 29, none, .load (some 4) (.t 1)⟩,
    ⟨none, none, .store 4 (.t 2) (.t 29)⟩,
    ⟨some 3, none, .mov (.k (.int .i64 (0)))⟩] none [2, 3]
def c_erasureref32Sync : ACode :=
  (.seq r_erasureref32Sync_0
  (.seq (.seq r_erasureref32Sync_1
    (.cond (.t 6)
     (.seq r_erasureref32Sync_2
      .ret)
     .skip))
   (.seq (.seq r_erasureref32Sync_3
     (.cond (.t 9)
      (.seq r_erasureref32Sync_4
       .ret)
      .skip))
    (.seq (.seq r_erasureref32Sync_5
      (.cond (.t 19)
       (.seq r_erasureref32Sync_6
        (.seq r_erasureref32Sync_7
         .ret))
       .skip))
     (.seq r_erasureref32Sync_8
      (.seq r_erasureref32Sync_9
       (.seq r_erasureref32Sync_10
        .ret)))))))
theorem fits_erasureref32Sync : Fits Try.prog 28 30 c_erasureref32Sync [.c 2 (some 4), .t 3] := ⟨⟨Try.f28, _, _, Try.func28, rfl, rfl, rfl, by decide, by kernel_rfl, by kernel_rfl⟩, Try.checked.mixed⟩
/- erasure/erasureref32.Fail -/
def r_erasureref32Fail_0 : ACode := .reg [
    ⟨some 2, none, .box 26 (.t 0)⟩,
    ⟨some 4, none, .alloc 26 [.slice none 0 0, .slice none 0 0, .int .i64 0, .bool false]⟩,
    ⟨some 5, none, .mov (.k (.int .i64 (0)))⟩] none [1, 2, 4]
def r_erasureref32Fail_1 : ACode := .reg [
    ⟨some 6, none, .load (some 4) (.t 2)⟩,
    ⟨some 7, none, .call 21 [(.t 6)]⟩,
    ⟨some 8, none, .un .not (.t 7)⟩,
    ⟨some 9, none, .mov (.t 8)⟩,
    ⟨some 10, (some (9, false)), .mov (.t 1)⟩,
    ⟨some 11, (some (9, false)), .bin .lss (.t 10) (.k (.int .i64 (-1)))⟩,
    ⟨some 12, none, .pick (.t 9) (.k (.bool true)) (.t 11)⟩] none [1, 2, 4, 12]
def r_erasureref32Fail_2 : ACode := .reg [
    ⟨some 13, none, .build [.slice none 0 0, .slice none 0 0, .int .i64 0, .bool false] []⟩,
    ⟨none, none, .store 4 (.t 4) (.t 13)⟩,
    ⟨some 5, none, .mov (.k (.int .i64 (1)))⟩] none [4, 5]
def r_erasureref32Fail_3 : ACode := .reg [
    ⟨some 14, none, .mov (.t 1)⟩,
    ⟨some 15, none, .fld 2 (.t 2)⟩,
    ⟨none, none, .store 1 (.t 15) (.t 14)⟩] none [2, 4]
def r_erasureref32Fail_4 : ACode := .reg [
    ⟨some 16, none, .load (some 4) (.t 2)⟩,
    ⟨none, none, .store 4 (.t 4) (.t 16)⟩,
    ⟨some 5, none, .mov (.k (.int .i64 (0)))⟩] none [4, 5]
def c_erasureref32Fail : ACode :=
  (.seq r_erasureref32Fail_0
  (.seq (.seq r_erasureref32Fail_1
    (.cond (.t 12)
     (.seq r_erasureref32Fail_2
      .ret)
     .skip))
   (.seq r_erasureref32Fail_3
    (.seq r_erasureref32Fail_4
     .ret))))
theorem fits_erasureref32Fail : Fits Try.prog 29 17 c_erasureref32Fail [.c 4 (some 4), .t 5] := ⟨⟨Try.f29, _, _, Try.func29, rfl, rfl, rfl, by decide, by kernel_rfl, by kernel_rfl⟩, Try.checked.mixed⟩
/- erasure/erasureref32.Crash -/
def r_erasureref32Crash_0 : ACode := .reg [
    ⟨some 2, none, .box 26 (.t 0)⟩,
    ⟨some 4, none, .alloc 26 [.slice none 0 0, .slice none 0 0, .int .i64 0, .bool false]⟩,
    ⟨some 5, none, .mov (.k (.int .i64 (0)))⟩] none [1, 2, 4]
def r_erasureref32Crash_1 : ACode := .reg [
    ⟨some 6, none, .load (some 4) (.t 2)⟩,
    ⟨some 7, none, .call 21 [(.t 6)]⟩,
    ⟨some 8, none, .un .not (.t 7)⟩] none [1, 2, 4, 8]
def r_erasureref32Crash_2 : ACode := .reg [
    ⟨some 9, none, .build [.slice none 0 0, .slice none 0 0, .int .i64 0, .bool false] []⟩,
    ⟨none, none, .store 4 (.t 4) (.t 9)⟩,
    ⟨some 5, none, .mov (.k (.int .i64 (1)))⟩] none [4, 5]
def r_erasureref32Crash_3 : ACode := .reg [
    ⟨some 10, none, .mov (.t 1)⟩,
    ⟨some 11, none, .mm true (.t 10) (.k (.int .i64 (0)))⟩,
    ⟨some 12, none, .fld 1 (.t 2)⟩,
    ⟨some 13, none, .load none (.t 12)⟩,
    ⟨some 14, none, .len (.t 13)⟩,
    ⟨some 15, none, .mm false (.t 11) (.t 14)⟩,
    ⟨some 1, none, .mov (.t 15)⟩] none [1, 2, 4]
def r_erasureref32Crash_4 : ACode := .reg [
    ⟨some 16, none, .fld 0 (.t 2)⟩,
    ⟨some 17, none, .load none (.t 16)⟩,
    ⟨some 18, none, .fld 1 (.t 2)⟩,
    ⟨some 19, none, .load none (.t 18)⟩,
    ⟨some 20, none, .mov (.t 1)⟩,
    ⟨some 21, none, .sl 1 (.t 19) none (some (.t 20)) none⟩,
    ⟨some 22, none, .call 33 [(.t 17), (.t 21)]⟩,
    ⟨some 23, none, .build [.slice none 0 0, .slice none 0 0, .int .i64 0, .bool false] [(0, 1, (.t 22)), (2, 1, (.k (.int .i64 (-1))))]⟩,
    ⟨none, none, .store 4 (.t 4) (.t 23)⟩,
    ⟨some 5, none, .mov (.k (.int .i64 (0)))⟩] (some [0, 1, 0, 4, 0, 28, 63, 127, 255, 511]) [4, 5]
def c_erasureref32Crash : ACode :=
  (.seq r_erasureref32Crash_0
  (.seq (.seq r_erasureref32Crash_1
    (.cond (.t 8)
     (.seq r_erasureref32Crash_2
      .ret)
     .skip))
   (.seq r_erasureref32Crash_3
    (.seq r_erasureref32Crash_4
     .ret))))
theorem fits_erasureref32Crash : Fits Try.prog 30 24 c_erasureref32Crash [.c 4 (some 4), .t 5] := ⟨⟨Try.f30, _, _, Try.func30, rfl, rfl, rfl, by decide, by kernel_rfl, by kernel_rfl⟩, Try.checked.mixed⟩
/- erasure/erasureref32.Cut -/
def r_erasureref32Cut_0 : ACode := .reg [
    ⟨some 2, none, .box 26 (.t 0)⟩,
    ⟨some 4, none, .alloc 26 [.slice none 0 0, .slice none 0 0, .int .i64 0, .bool false]⟩,
    ⟨some 5, none, .mov (.k (.int .i64 (0)))⟩] none [1, 2, 4]
def r_erasureref32Cut_1 : ACode := .reg [
    ⟨some 6, none, .load (some 4) (.t 2)⟩,
    ⟨some 7, none, .call 21 [(.t 6)]⟩,
    ⟨some 8, none, .un .not (.t 7)⟩,
    ⟨some 9, none, .mov (.t 8)⟩,
    ⟨some 10, (some (9, false)), .mov (.t 1)⟩,
    ⟨some 11, (some (9, false)), .bin .lss (.t 10) (.k (.int .i64 (0)))⟩,
    ⟨some 12, none, .pick (.t 9) (.k (.bool true)) (.t 11)⟩,
    ⟨some 13, none, .mov (.t 12)⟩,
    ⟨some 14, (some (13, false)), .mov (.t 1)⟩,
    ⟨some 15, (some (13, false)), .fld 0 (.t 2)⟩,
    ⟨some 16, (some (13, false)), .load none (.t 15)⟩,
    ⟨some 17, (some (13, false)), .len (.t 16)⟩,
    ⟨some 18, (some (13, false)), .fld 1 (.t 2)⟩,
    ⟨some 19, (some (13, false)), .load none (.t 18)⟩,
    ⟨some 20, (some (13, false)), .len (.t 19)⟩,
    ⟨some 21, (some (13, false)), .bin .add (.t 17) (.t 20)⟩,
    ⟨some 22, (some (13, false)), .bin .gtr (.t 14) (.t 21)⟩,
    ⟨some 23, none, .pick (.t 13) (.k (.bool true)) (.t 22)⟩] none [1, 2, 4, 23]
def r_erasureref32Cut_2 : ACode := .reg [
    ⟨some 24, none, .build [.slice none 0 0, .slice none 0 0, .int .i64 0, .bool false] []⟩,
    ⟨none, none, .store 4 (.t 4) (.t 24)⟩,
    ⟨some 5, none, .mov (.k (.int .i64 (1)))⟩] none [4, 5]
def r_erasureref32Cut_3 : ACode := .reg [
    ⟨some 25, none, .fld 3 (.t 2)⟩,
    ⟨some 26, none, .load none (.t 25)⟩] none [1, 2, 4, 26]
def r_erasureref32Cut_4 : ACode := .reg [
    ⟨some 27, none, .load (some 4) (.t 2)⟩,
    ⟨none, none, .store 4 (.t 4) (.t 27)⟩,
    ⟨some 5, none, .mov (.k (.int .i64 (104)))⟩] none [4, 5]
def r_erasureref32Cut_5 : ACode := .reg [
    ⟨some 28, none, .fld 0 (.t 2)⟩,
    ⟨some 29, none, .load none (.t 28)⟩,
    ⟨some 30, none, .fld 1 (.t 2)⟩,
    ⟨some 31, none, .load none (.t 30)⟩,
    ⟨some 32, none, .call 33 [(.t 29), (.t 31)]⟩,
    ⟨some 33, none, .mov (.t 1)⟩,
    ⟨some 34, none, .sl 1 (.t 32) none (some (.t 33)) none⟩,
    ⟨some 35, none, .fld 0 (.t 2)⟩,
    ⟨none, none, .store 1 (.t 35) (.t 34)⟩] none [2, 4]
def r_erasureref32Cut_6 : ACode := .reg [
    ⟨some 36, none, .fld 1 (.t 2)⟩,
    ⟨none, none, .store 1 (.t 36) (.k (.slice none 0 0))⟩] none [2, 4]
def r_erasureref32Cut_7 : ACode := .reg [
    ⟨some 37, none, .load (some 4) (.t 2)⟩,
    ⟨none, none, .store 4 (.t 4) (.t 37)⟩,
    ⟨some 5, none, .mov (.k (.int .i64 (0)))⟩] none [4, 5]
def c_erasureref32Cut : ACode :=
  (.seq r_erasureref32Cut_0
  (.seq (.seq r_erasureref32Cut_1
    (.cond (.t 23)
     (.seq r_erasureref32Cut_2
      .ret)
     .skip))
   (.seq (.seq r_erasureref32Cut_3
     (.cond (.t 26)
      (.seq r_erasureref32Cut_4
       .ret)
      .skip))
    (.seq r_erasureref32Cut_5
     (.seq r_erasureref32Cut_6
      (.seq r_erasureref32Cut_7
       .ret))))))
theorem fits_erasureref32Cut : Fits Try.prog 31 38 c_erasureref32Cut [.c 4 (some 4), .t 5] := ⟨⟨Try.f31, _, _, Try.func31, rfl, rfl, rfl, by decide, by kernel_rfl, by kernel_rfl⟩, Try.checked.mixed⟩
/- erasure/erasureref32.Read -/
def r_erasureref32Read_0 : ACode := .reg [
    ⟨some 1, none, .box 26 (.t 0)⟩,
    ⟨some 2, none, .mov (.k (.slice none 0 0))⟩,
    ⟨some 3, none, .mov (.k (.int .i64 (0)))⟩] none [1]
def r_erasureref32Read_1 : ACode := .reg [
    ⟨some 4, none, .load (some 4) (.t 1)⟩,
    ⟨some 5, none, .call 21 [(.t 4)]⟩,
    ⟨some 6, none, .un .not (.t 5)⟩] none [1, 6]
def r_erasureref32Read_2 : ACode := .reg [
    ⟨some 2, none, .mov (.k (.slice none 0 0))⟩,
    ⟨some 3, none, .mov (.k (.int .i64 (1)))⟩] none [2, 3]
def r_erasureref32Read_3 : ACode := .reg [
    ⟨some 7, none, .fld 3 (.t 1)⟩,
    ⟨some 8, none, .load none (.t 7)⟩] none [1, 8]
def r_erasureref32Read_4 : ACode := .reg [
    ⟨some 2, none, .mov (.k (.slice none 0 0))⟩,
    ⟨some 3, none, .mov (.k (.int .i64 (104)))⟩] none [2, 3]
def r_erasureref32Read_5 : ACode := .reg [
    ⟨some 9, none, .fld 0 (.t 1)⟩,
    ⟨some 10, none, .load none (.t 9)⟩,
    ⟨some 11, none, .fld 1 (.t 1)⟩,
    ⟨some 12, none, .load none (.t 11)⟩,
    ⟨some 13, none, .call 33 [(.t 10), (.t 12)]⟩,
    ⟨some 2, none, .mov (.t 13)⟩,
    ⟨some 3, none, .mov (.k (.int .i64 (0)))⟩] none [2, 3]
def c_erasureref32Read : ACode :=
  (.seq r_erasureref32Read_0
  (.seq (.seq r_erasureref32Read_1
    (.cond (.t 6)
     (.seq r_erasureref32Read_2
      .ret)
     .skip))
   (.seq (.seq r_erasureref32Read_3
     (.cond (.t 8)
      (.seq r_erasureref32Read_4
       .ret)
      .skip))
    (.seq r_erasureref32Read_5
     .ret))))
theorem fits_erasureref32Read : Fits Try.prog 32 14 c_erasureref32Read [.t 2, .t 3] := ⟨⟨Try.f32, _, _, Try.func32, rfl, rfl, rfl, by decide, by kernel_rfl, by kernel_rfl⟩, Try.checked.mixed⟩
/- erasure/erasureref32.join -/
def r_erasureref32join_0 : ACode := .reg [
    ⟨some 4, none, .mov (.k (.slice none 0 0))⟩] none [0, 1]
def r_erasureref32join_1 : ACode := .reg [
    ⟨some 5, none, .lit 5 1 0 [.int .u8 0] [] true⟩,
    ⟨some 6, none, .mov (.t 0)⟩,
    ⟨some 7, none, .app 5 1 1 (.t 5) (.t 6)⟩,
    ⟨some 8, none, .mov (.t 1)⟩,
    ⟨some 9, none, .app 5 1 1 (.t 7) (.t 8)⟩,
    ⟨some 4, none, .mov (.t 9)⟩] none [4]
def c_erasureref32join : ACode :=
  (.seq r_erasureref32join_0
  (.seq r_erasureref32join_1
   .ret))
theorem fits_erasureref32join : Fits Try.prog 33 10 c_erasureref32join [.t 4] := ⟨⟨Try.f33, _, _, Try.func33, rfl, rfl, rfl, by decide, by kernel_rfl, by kernel_rfl⟩, Try.checked.mixed⟩
end Go.Proofs.Ytilbfoijfiebdaa.Am

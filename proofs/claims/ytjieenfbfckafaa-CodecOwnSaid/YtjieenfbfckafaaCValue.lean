/- The code of functions of value in the form of the abstract machine, and that it fits. -/
import Derived.Test.YtjieenfbfckafaaCNames
namespace Go.Proofs.Ytjieenfbfckafaa.Am
open Go
set_option linter.unusedVariables false
set_option linter.unusedSimpArgs false
set_option maxRecDepth 100000
/- erasure/value.Clean -/
def r_value_Clean_0 : ACode := .reg [
    ⟨some 1, none, .box 67 (.t 0)⟩,
    ⟨some 2, none, .alloc 67 [.int .i64 0, .int .i64 0, .string ⟨#[]⟩]⟩] none [1, 2]
def r_value_Clean_1 : ACode := .reg [
    ⟨some 3, none, .load (some 3) (.t 1)⟩,
    ⟨some 4, none, .call 134 [(.t 3)]⟩] none [1, 2, 4]
def r_value_Clean_2 : ACode := .reg [
    ⟨some 5, none, .load (some 3) (.t 1)⟩,
    ⟨none, none, .store 3 (.t 2) (.t 5)⟩] none [2]
def r_value_Clean_3 : ACode := .reg [
    ⟨some 6, none, .build [.int .i64 0, .int .i64 0, .string ⟨#[]⟩] []⟩,
    ⟨none, none, .store 3 (.t 2) (.t 6)⟩] none [2]
def c_value_Clean : ACode :=
  (.seq r_value_Clean_0
  (.seq (.seq r_value_Clean_1
    (.cond (.t 4)
     (.seq r_value_Clean_2
      .ret)
     .skip))
   (.seq r_value_Clean_3
    .ret)))
theorem fits_value_Clean : Fits Try.prog 131 7 c_value_Clean [.c 2 (some 3)] := ⟨⟨Try.f131, _, _, Try.func131, rfl, rfl, rfl, by decide, by kernel_rfl, by kernel_rfl⟩, Try.checked.mixed⟩
/- erasure/value.Valid -/
def r_value_Valid_0 : ACode := .reg [
    ⟨some 1, none, .box 67 (.t 0)⟩,
    ⟨some 2, none, .mov (.k (.bool false))⟩] none [1]
def r_value_Valid_1 : ACode := .reg [
    ⟨some 3, none, .fld 0 (.t 1)⟩,
    ⟨some 4, none, .load none (.t 3)⟩] none [1, 4]
def r_value_Valid_2 : ACode := .reg [
    ⟨some 6, none, .bin .eql (.t 4) (.k (.int .i64 (0)))⟩,
    ⟨some 5, none, .mov (.t 6)⟩] none [1, 4, 5]
def r_value_Valid_3 : ACode := .reg [
    ⟨some 7, none, .fld 1 (.t 1)⟩,
    ⟨some 8, none, .load none (.t 7)⟩,
    ⟨some 9, none, .bin .eql (.t 8) (.k (.int .i64 (0)))⟩,
    ⟨some 10, none, .mov (.t 9)⟩,
    ⟨some 11, (some (10, true)), .fld 2 (.t 1)⟩,
    ⟨some 12, (some (10, true)), .load none (.t 11)⟩,
    ⟨some 13, (some (10, true)), .bin .eql (.t 12) (.k (.string { data := #[] }))⟩,
    ⟨some 14, none, .pick (.t 10) (.t 13) (.k (.bool false))⟩,
    ⟨some 2, none, .mov (.t 14)⟩] none [2]
def r_value_Valid_4 : ACode := .reg [
    ⟨some 16, none, .bin .eql (.t 4) (.k (.int .i64 (1)))⟩,
    ⟨some 15, none, .mov (.t 16)⟩] none [1, 4, 15]
def r_value_Valid_5 : ACode := .reg [
    ⟨some 17, none, .fld 1 (.t 1)⟩,
    ⟨some 18, none, .load none (.t 17)⟩,
    ⟨some 19, none, .call 135 [(.t 18)]⟩,
    ⟨some 20, none, .mov (.t 19)⟩,
    ⟨some 21, (some (20, true)), .fld 2 (.t 1)⟩,
    ⟨some 22, (some (20, true)), .load none (.t 21)⟩,
    ⟨some 23, (some (20, true)), .bin .eql (.t 22) (.k (.string { data := #[] }))⟩,
    ⟨some 24, none, .pick (.t 20) (.t 23) (.k (.bool false))⟩,
    ⟨some 2, none, .mov (.t 24)⟩] none [2]
def r_value_Valid_6 : ACode := .reg [
    ⟨some 26, none, .bin .eql (.t 4) (.k (.int .i64 (2)))⟩,
    ⟨some 25, none, .mov (.t 26)⟩] none [1, 25]
def r_value_Valid_7 : ACode := .reg [
    ⟨some 27, none, .fld 1 (.t 1)⟩,
    ⟨some 28, none, .load none (.t 27)⟩,
    ⟨some 29, none, .bin .eql (.t 28) (.k (.int .i64 (0)))⟩,
    ⟨some 30, none, .mov (.t 29)⟩,
    ⟨some 31, (some (30, true)), .fld 2 (.t 1)⟩,
    ⟨some 32, (some (30, true)), .load none (.t 31)⟩,
    ⟨some 33, (some (30, true)), .lens (.t 32)⟩,
    ⟨some 34, (some (30, true)), .bin .leq (.t 33) (.k (.int .i64 (32)))⟩,
    ⟨some 35, none, .pick (.t 30) (.t 34) (.k (.bool false))⟩,
    ⟨some 2, none, .mov (.t 35)⟩] none [2]
def r_value_Valid_8 : ACode := .reg [
    ⟨some 2, none, .mov (.k (.bool false))⟩] none [2]
def c_value_Valid : ACode :=
  (.seq r_value_Valid_0
  (.seq (.seq r_value_Valid_1
    (.block 0 (.seq r_value_Valid_2
      (.cond (.t 5)
       (.seq r_value_Valid_3
        .ret)
       (.seq r_value_Valid_4
        (.cond (.t 15)
         (.seq r_value_Valid_5
          .ret)
         (.seq r_value_Valid_6
          (.cond (.t 25)
           (.seq r_value_Valid_7
            .ret)
           .skip))))))))
   (.seq r_value_Valid_8
    .ret)))
theorem fits_value_Valid : Fits Try.prog 134 36 c_value_Valid [.t 2] := ⟨⟨Try.f134, _, _, Try.func134, rfl, rfl, rfl, by decide, by kernel_rfl, by kernel_rfl⟩, Try.checked.mixed⟩
/- erasure/value.inRange -/
def r_value_inRange_0 : ACode := .reg [
    ⟨some 2, none, .mov (.k (.bool false))⟩] none [0]
def r_value_inRange_1 : ACode := .reg [
    ⟨some 3, none, .mov (.t 0)⟩,
    ⟨some 4, none, .bin .geq (.t 3) (.k (.int .i64 (-4294967296)))⟩,
    ⟨some 5, none, .mov (.t 4)⟩,
    ⟨some 6, (some (5, true)), .mov (.t 0)⟩,
    ⟨some 7, (some (5, true)), .bin .leq (.t 6) (.k (.int .i64 (4294967296)))⟩,
    ⟨some 8, none, .pick (.t 5) (.t 7) (.k (.bool false))⟩,
    ⟨some 2, none, .mov (.t 8)⟩] none [2]
def c_value_inRange : ACode :=
  (.seq r_value_inRange_0
  (.seq r_value_inRange_1
   .ret))
theorem fits_value_inRange : Fits Try.prog 135 9 c_value_inRange [.t 2] := ⟨⟨Try.f135, _, _, Try.func135, rfl, rfl, rfl, by decide, by kernel_rfl, by kernel_rfl⟩, Try.checked.mixed⟩
end Go.Proofs.Ytjieenfbfckafaa.Am

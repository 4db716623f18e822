/- The code of functions of erasureref01 in the form of the abstract machine, and that it fits. -/
import Derived.Test.YtjieenfbfckafaaCNames
namespace Go.Proofs.Ytjieenfbfckafaa.Am
open Go
set_option linter.unusedVariables false
set_option linter.unusedSimpArgs false
set_option maxRecDepth 100000
/- erasure/erasureref01.Clean -/
def r_erasureref01Clean_0 : ACode := .reg [
    ⟨some 1, none, .box 67 (.t 0)⟩,
    ⟨some 2, none, .alloc 67 [.int .i64 0, .int .i64 0, .string ⟨#[]⟩]⟩] none [1, 2]
def r_erasureref01Clean_1 : ACode := .reg [
    ⟨some 3, none, .load (some 3) (.t 1)⟩,
    ⟨some 4, none, .call 106 [(.t 3)]⟩] none [1, 2, 4]
def r_erasureref01Clean_2 : ACode := .reg [
    ⟨some 5, none, .load (some 3) (.t 1)⟩,
    ⟨none, none, .store 3 (.t 2) (.t 5)⟩] none [2]
def r_erasureref01Clean_3 : ACode := .reg [
    ⟨some 6, none, .build [.int .i64 0, .int .i64 0, .string ⟨#[]⟩] []⟩,
    ⟨none, none, .store 3 (.t 2) (.t 6)⟩] none [2]
def c_erasureref01Clean : ACode :=
  (.seq r_erasureref01Clean_0
  (.seq (.seq r_erasureref01Clean_1
    (.cond (.t 4)
     (.seq r_erasureref01Clean_2
      .ret)
     .skip))
   (.seq r_erasureref01Clean_3
    .ret)))
theorem fits_erasureref01Clean : Fits Try.prog 43 7 c_erasureref01Clean [.c 2 (some 3)] := ⟨⟨Try.f43, _, _, Try.func43, rfl, rfl, rfl, by decide, by kernel_rfl, by kernel_rfl⟩, Try.checked.mixed⟩
/- erasure/erasureref01.Valid -/
def r_erasureref01Valid_0 : ACode := .reg [
    ⟨some 1, none, .box 67 (.t 0)⟩,
    ⟨some 2, none, .mov (.k (.bool false))⟩] none [1]
def r_erasureref01Valid_1 : ACode := .reg [
    ⟨some 3, none, .fld 0 (.t 1)⟩,
    ⟨some 4, none, .load none (.t 3)⟩] none [1, 4]
def r_erasureref01Valid_2 : ACode := .reg [
    ⟨some 6, none, .bin .eql (.t 4) (.k (.int .i64 (0)))⟩,
    ⟨some 5, none, .mov (.t 6)⟩] none [1, 4, 5]
def r_erasureref01Valid_3 : ACode := .reg [
    ⟨some 7, none, .fld 1 (.t 1)⟩,
    ⟨some 8, none, .load none (.t 7)⟩,
    ⟨some 9, none, .bin .eql (.t 8) (.k (.int .i64 (0)))⟩,
    ⟨some 10, none, .mov (.t 9)⟩,
    ⟨some 11, (some (10, true)), .fld 2 (.t 1)⟩,
    ⟨some 12, (some (10, true)), .load none (.t 11)⟩,
    ⟨some 13, (some (10, true)), .bin .eql (.t 12) (.k (.string { data := #[] }))⟩,
    ⟨some 14, none, .pick (.t 10) (.t 13) (.k (.bool false))⟩,
    ⟨some 2, none, .mov (.t 14)⟩] none [2]
def r_erasureref01Valid_4 : ACode := .reg [
    ⟨some 16, none, .bin .eql (.t 4) (.k (.int .i64 (1)))⟩,
    ⟨some 15, none, .mov (.t 16)⟩] none [1, 4, 15]
def r_erasureref01Valid_5 : ACode := .reg [
    ⟨some 17, none, .fld 1 (.t 1)⟩,
    ⟨some 18, none, .load none (.t 17)⟩,
    ⟨some 19, none, .bin .geq (.t 18) (.k (.int .i64 (-4294967296)))⟩,
    ⟨some 20, none, .mov (.t 19)⟩,
    ⟨some 21, (some (20, true)), .fld 1 (.t 1)⟩,
    ⟨some 22, (some (20, true)), .load none (.t 21)⟩,
    ⟨some 23, (some (20, true)), .bin .leq (.t 22) (.k (.int .i64 (4294967296)))⟩,
    ⟨some 24, none, .pick (.t 20) (.t 23) (.k (.bool false))⟩,
    ⟨some 25, none, .mov (.t 24)⟩,
    ⟨some 26, (some (25, true)), .fld 2 (.t 1)⟩,
    ⟨some 27, (some (25, true)), .load none (.t 26)⟩,
    ⟨some 28, (some (25, true)), .bin .eql (.t 27) (.k (.string { data := #[] }))⟩,
    ⟨some 29, none, .pick (.t 25) (.t 28) (.k (.bool false))⟩,
    ⟨some 2, none, .mov (.t 29)⟩] none [2]
def r_erasureref01Valid_6 : ACode := .reg [
    ⟨some 31, none, .bin .eql (.t 4) (.k (.int .i64 (2)))⟩,
    ⟨some 30, none, .mov (.t 31)⟩] none [1, 30]
def r_erasureref01Valid_7 : ACode := .reg [
    ⟨some 32, none, .fld 1 (.t 1)⟩,
    ⟨some 33, none, .load none (.t 32)⟩,
    ⟨some 34, none, .bin .eql (.t 33) (.k (.int .i64 (0)))⟩,
    ⟨some 35, none, .mov (.t 34)⟩,
    ⟨some 36, (some (35, true)), .fld 2 (.t 1)⟩,
    ⟨some 37, (some (35, true)), .load none (.t 36)⟩,
    ⟨some 38, (some (35, true)), .lens (.t 37)⟩,
    ⟨some 39, (some (35, true)), .bin .leq (.t 38) (.k (.int .i64 (32)))⟩,
    ⟨some 40, none, .pick (.t 35) (.t 39) (.k (.bool false))⟩,
    ⟨some 2, none, .mov (.t 40)⟩] none [2]
def r_erasureref01Valid_8 : ACode := .reg [
    ⟨some 2, none, .mov (.k (.bool false))⟩] none [2]
def c_erasureref01Valid : ACode :=
  (.seq r_erasureref01Valid_0
  (.seq (.seq r_erasureref01Valid_1
    (.block 0 (.seq r_erasureref01Valid_2
      (.cond (.t 5)
       (.seq r_erasureref01Valid_3
        .ret)
       (.seq r_erasureref01Valid_4
        (.cond (.t 15)
         (.seq r_erasureref01Valid_5
          .ret)
         (.seq r_erasureref01Valid_6
          (.cond (.t 30)
           (.seq r_erasureref01Valid_7
            .ret)
           .skip))))))))
   (.seq r_erasureref01Valid_8
    .ret)))
theorem fits_erasureref01Valid : Fits Try.prog 106 41 c_erasureref01Valid [.t 2] := ⟨⟨Try.f106, _, _, Try.func106, rfl, rfl, rfl, by decide, by kernel_rfl, by kernel_rfl⟩, Try.checked.mixed⟩
end Go.Proofs.Ytjieenfbfckafaa.Am

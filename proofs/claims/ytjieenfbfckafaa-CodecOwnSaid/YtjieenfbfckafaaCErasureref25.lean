/- The code of functions of erasureref25 in the form of the abstract machine, and that it fits. -/
import Derived.Test.YtjieenfbfckafaaCNames
namespace Go.Proofs.Ytjieenfbfckafaa.Am
open Go
set_option linter.unusedVariables false
set_option linter.unusedSimpArgs false
set_option maxRecDepth 100000
/- erasure/erasureref25.Bytes -/
def r_erasureref25Bytes_0 : ACode := .reg [
    ⟨some 1, none, .box 45 (.t 0)⟩,
    ⟨some 2, none, .mov (.k (.slice none 0 0))⟩] none [1]
def r_erasureref25Bytes_1 : ACode := .reg [
    ⟨some 5, none, .lit 5 1 0 [.int .u8 0] [] true⟩,
    ⟨some 3, none, .mov (.t 5)⟩] none [1, 3]
def r_erasureref25Bytes_2 : ACode := .reg [
    ⟨some 4, none, .mov (.k (.int .i64 (0)))⟩] none [1, 3, 4]
def r_erasureref25Bytes_3 : ACode := .reg [
    ⟨some 6, none, .mov (.t 4)⟩,
    ⟨some 7, none, .bin .lss (.t 6) (.k (.int .i64 (32)))⟩] none [1, 3, 4, 7]
def r_erasureref25Bytes_4 : ACode := .reg [
    ⟨some 10, none, .mov (.t 3)⟩,
    ⟨some 11, none, .mov (.t 4)⟩,
    ⟨some 12, none, .idxr 32 1 (.t 1) (.t 11)⟩,
    ⟨some 13, none, .load none (.t 12)⟩,
    ⟨some 14, none, .lit 5 1 1 [.int .u8 0] [(0, (.t 13))] false⟩,
    ⟨some 15, none, .app 5 1 1 (.t 10) (.t 14)⟩,
    ⟨some 3, none, .mov (.t 15)⟩] none [1, 3, 4]
def r_erasureref25Bytes_5 : ACode := .reg [
    ⟨some 8, none, .mov (.t 4)⟩,
    ⟨some 9, none, .bin .add (.t 8) (.k (.int .i64 (1)))⟩,
    ⟨some 4, none, .mov (.t 9)⟩] none [1, 3, 4]
def r_erasureref25Bytes_6 : ACode := .reg [
    ⟨some 16, none, .mov (.t 3)⟩,
    ⟨some 2, none, .mov (.t 16)⟩] none [2]
def c_erasureref25Bytes : ACode :=
  (.seq r_erasureref25Bytes_0
  (.seq r_erasureref25Bytes_1
   (.seq (.seq r_erasureref25Bytes_2
     (.block 0 (.loop (.seq (.seq r_erasureref25Bytes_3
         (.cond (.t 7)
          .skip
          (.exit 0)))
        (.seq (.block 1 r_erasureref25Bytes_4)
         r_erasureref25Bytes_5)))))
    (.seq r_erasureref25Bytes_6
     .ret))))
theorem fits_erasureref25Bytes : Fits Try.prog 113 17 c_erasureref25Bytes [.t 2] := ⟨⟨Try.f113, _, _, Try.func113, rfl, rfl, rfl, by decide, by kernel_rfl, by kernel_rfl⟩, Try.checked.mixed⟩
end Go.Proofs.Ytjieenfbfckafaa.Am

/- CodecOnly returns true for all arguments, and what was there is there. No condition. -/
import Derived.Test.YtjieenfbfckafaaWCodecOnly4
import Derived.Test.YtjieenfbfckafaaRows
namespace Go.Proofs.Ytjieenfbfckafaa.rowCodecOnly
open Go.ChangeShapes Go.WideShapes Go.ChangeAt Go.RowKit Go.Proofs.Ytjieenfbfckafaa.Am
set_option linter.unusedVariables false
set_option maxRecDepth 100000

theorem own : ownKnob Try.prog.godebug = none := by kernel_rfl
theorem laidOut : laidOutB Try.prog = true := by kernel_rfl
theorem known : (Try.f16.params.toList.all fun t => Try.prog.readableRec t && decide (t < Try.prog.types.size)) = true := by kernel_rfl

theorem contract (H : Type) (enc : TypeId × Value → H) (W : World) (base : Nat) (args : Array Value) (ds gs : List (DataW H)) (before : List MemPlace)
    (hval : ∀ (j : Nat) t v, Try.f16.params[j]? = some t → args[j]? = some v → Value.okWide Try.prog W .any base t v)
    (hW : DataW.Whole enc Try.prog Try.f16.params.toList Rows.codecOnlySpec.vars false W args.toList ds gs before) :
    Calls Try.prog 16 args W fun e W' => ∃ v, e = .returned v ∧ Rows.codecOnlySpec.post enc Try.prog Try.f16 false true false false W args v W' :=
  law_row laidOut (fun t ht => by have := List.all_eq_true.1 known t ht; rw [Bool.and_eq_true, decide_eq_true_eq] at this; exact this) rfl Try.underlying4 rfl
    (fun ds h => by match ds, h with | [_, _, _], _ => exact ⟨rfl, rfl, rfl⟩) (rts := [.st (.cons (.int .i64) (.cons (.int .i64) (.cons (.int .i64) (.cons (.int .i64) (.cons (.st (.cons (.int .i64) (.cons (.st (.cons (.str) (.cons (.st (.cons (.int .i64) (.cons (.int .i64) (.cons (.str) (.nil))))) (.nil)))) (.cons (.int .i64) (.cons (.int .i64) (.cons (.int .i64) (.nil))))))) (.cons (.st (.cons (.st (.cons (.str) (.cons (.st (.cons (.int .i64) (.cons (.int .i64) (.cons (.str) (.nil))))) (.nil)))) (.cons (.st (.cons (.str) (.cons (.st (.cons (.int .i64) (.cons (.int .i64) (.cons (.str) (.nil))))) (.nil)))) (.cons (.int .i64) (.cons (.bool) (.nil)))))) (.cons (.st (.cons (.int .i64) (.cons (.int .i64) (.cons (.st (.cons (.str) (.cons (.st (.cons (.int .i64) (.cons (.int .i64) (.cons (.str) (.nil))))) (.nil)))) (.cons (.int .i64) (.cons (.int .i64) (.cons (.int .i64) (.nil)))))))) (.cons (.slice (.st (.cons (.int .i64) (.cons (.int .i64) (.cons (.int .i64) (.nil)))))) (.cons (.slice (.st (.cons (.int .i64) (.cons (.int .i64) (.nil))))) (.cons (.arr 32 (.int .u8)) (.nil))))))))))), .int .i64, .int .u8]) (by kernel_rfl) only_law hval hW

theorem lifted (os : Os) (started : os.Started) (H : Type) (enc : TypeId × Value → H) :
    ReturnsInHanded {} Try.checked os 16 .any (Rows.codecOnlySpec.pre6 enc Try.prog Try.f16 Rows.codecOnlyRow.domain false) (Rows.codecOnlySpec.post enc Try.prog Try.f16 false true false false) := by
  refine returnsInHanded_of_change (C := Try.checked) own started (by kernel_rfl) Try.func16
    (ChangeSpec.witness6 (enc := enc) (C := Try.checked) false ⟨#[], #[.agg #[.int .i64 0, .int .i64 0, .int .i64 0, .int .i64 0, .int .i64 0, .string ⟨#[]⟩, .int .i64 0, .int .i64 0, .string ⟨#[]⟩, .int .i64 0, .int .i64 0, .int .i64 0, .string ⟨#[]⟩, .int .i64 0, .int .i64 0, .string ⟨#[]⟩, .string ⟨#[]⟩, .int .i64 0, .int .i64 0, .string ⟨#[]⟩, .int .i64 0, .bool false, .int .i64 0, .int .i64 0, .string ⟨#[]⟩, .int .i64 0, .int .i64 0, .string ⟨#[]⟩, .int .i64 0, .int .i64 0, .int .i64 0, .slice none 0 0, .slice none 0 0, .int .u8 0, .int .u8 0, .int .u8 0, .int .u8 0, .int .u8 0, .int .u8 0, .int .u8 0, .int .u8 0, .int .u8 0, .int .u8 0, .int .u8 0, .int .u8 0, .int .u8 0, .int .u8 0, .int .u8 0, .int .u8 0, .int .u8 0, .int .u8 0, .int .u8 0, .int .u8 0, .int .u8 0, .int .u8 0, .int .u8 0, .int .u8 0, .int .u8 0, .int .u8 0, .int .u8 0, .int .u8 0, .int .u8 0, .int .u8 0, .int .u8 0, .int .u8 0], .int .i64 0, .int .u8 0], []⟩ 8 (by kernel_rfl) (by kernel_rfl) (by kernel_rfl) (by kernel_rfl)) ?_
  intro W base args ds gs before hval hW _ _
  exact contract H enc W base args ds gs before hval hW

theorem proved : Rows.CodecOnlySaid :=
  OpenClaim.holds_of_wide 16 Try.f16 rfl rfl rfl rfl rfl rfl rfl ⟨rfl, rfl, rfl, rfl, rfl⟩ rfl rfl rfl rfl rfl (by kernel_rfl) Try.func16 (by kernel_rfl)
    (of_decide_eq_true (by kernel_rfl)) (by unfold Func.isWrapper; first | (rw [if_pos (by decide +kernel)]; kernel_rfl) | (rw [if_neg (by decide +kernel)]; exact ⟨rfl, rfl⟩))
    (fun os started H enc _ => lifted os started H enc)
end Go.Proofs.Ytjieenfbfckafaa.rowCodecOnly

/- The encodings of layer 26 as plain functions on lists of bytes. -/
import Derived.Test.YtjieenfbfckafaaLibMove
import Derived.Test.YtjieenfbfckafaaLibBits
namespace Go.Proofs.Ytjieenfbfckafaa.Am
open Go
set_option linter.unusedVariables false
set_option linter.unusedSimpArgs false

/-! ### Integers -/
def zz (n : Int) : Nat := if n < 0 then (-(2 * n) - 1).toNat else (2 * n).toNat
def encU (u : Nat) : List UInt8 := if u < 128 then [UInt8.ofNat u] else UInt8.ofNat (u % 128 + 128) :: encU (u / 128)
termination_by u
decreasing_by omega
def encInt (n : Int) : List UInt8 := encU (zz n)
theorem encU_lt {u : Nat} (h : u < 128) : encU u = [UInt8.ofNat u] := by rw [encU]; simp [h]
theorem encU_ge {u : Nat} (h : ¬ u < 128) : encU u = UInt8.ofNat (u % 128 + 128) :: encU (u / 128) := by rw [encU]; simp [h]
theorem zz_lt {n : Int} (h : inI64 n) : zz n < 18446744073709551616 := by
  obtain ⟨h1, h2⟩ := h
  unfold zz; split <;> omega
theorem encU_len : ∀ (k u : Nat), u < 128 ^ (k + 1) → (encU u).length ≤ k + 1 := by
  intro k
  induction k with
  | zero => intro u h; rw [encU_lt (by omega)]; simp
  | succ k ih =>
    intro u h
    by_cases hu : u < 128
    · rw [encU_lt hu]; simp
    · rw [encU_ge hu]
      have := ih (u / 128) (by rw [Nat.pow_succ] at h; exact Nat.div_lt_of_lt_mul (by rw [Nat.mul_comm]; exact h))
      simp; exact this
theorem encInt_len {n : Int} (h : inI64 n) : (encInt n).length ≤ 10 := encU_len 9 _ (Nat.lt_trans (zz_lt h) (by decide))

/-! ### Values -/
abbrev sval (t : List UInt8) : Value := .string ⟨t.toArray⟩
abbrev pst (t : List UInt8) : PV := .v (sval t)
abbrev tst (t : List UInt8) : TV := .c (.p (pst t))
structure Val where
  k : Int
  i : Int
  t : List UInt8
def Val.null : Val := ⟨0, 0, []⟩
abbrev Val.pv (v : Val) : List PV := [pi v.k, pi v.i, pst v.t]
abbrev Val.enc (v : Val) : List DV := [di v.k, di v.i, .p (pst v.t)]
def Val.valid (v : Val) : Bool :=
  if v.k = 0 then decide (v.i = 0) && decide (v.t = []) else if v.k = 1 then (decide (-4294967296 ≤ v.i) && decide (v.i ≤ 4294967296)) && decide (v.t = []) else if v.k = 2 then decide (v.i = 0) && decide (v.t.length ≤ 32) else false
def Val.clean (v : Val) : Val := if v.valid then v else Val.null
def encText (t : List UInt8) : List UInt8 := encInt t.length ++ t
def encVal' (v : Val) : List UInt8 := encInt v.k ++ (if v.k = 1 then encInt v.i else if v.k = 2 then encText v.t else [])
def encVal (v : Val) : List UInt8 := encVal' v.clean
def encRow (r : List Val) : List UInt8 := encInt r.length ++ r.flatMap encVal
end Go.Proofs.Ytjieenfbfckafaa.Am

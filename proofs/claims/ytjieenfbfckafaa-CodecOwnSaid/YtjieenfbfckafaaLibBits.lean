/- Shifts and bits of words, in plain numbers. -/
import Derived.Laws.BitsLemmas
import Derived.Test.YtjieenfbfckafaaLibWords
namespace Go.Proofs.Ytjieenfbfckafaa.Am
open Go
set_option linter.unusedVariables false
set_option linter.unusedSimpArgs false

theorem wrap_u64 (n : Int) : IntKind.u64.wrap n = n % 18446744073709551616 := by simp [IntKind.wrap, IntKind.bits, IntKind.signed]
theorem wrap_u64_of {n : Int} (h : 0 ≤ n) (h' : n < 18446744073709551616) : IntKind.u64.wrap n = n := by rw [wrap_u64]; omega
theorem wrap_u8_of {n : Int} (h : 0 ≤ n) (h' : n < 256) : IntKind.u8.wrap n = n := by rw [IntKind.wrap_u8]; omega
theorem wrap_i64_of {n : Int} (h : -9223372036854775808 ≤ n) (h' : n < 9223372036854775808) : IntKind.i64.wrap n = n := by rw [IntKind.wrap_i64]; omega
theorem wraps_u64 (n : Int) (h₀ : 0 ≤ n) (h₁ : n < 2 ^ 64) : IntKind.u64.wrap n = n := wrap_u64_of h₀ (by simpa using h₁)
theorem or_128 {x : Int} (h : 0 ≤ x) (h' : x < 256) : bits .or .u8 x 128 = x % 128 + 128 := by
  obtain ⟨a, rfl⟩ := Int.eq_ofNat_of_zero_le h
  have ha : a < 256 := by omega
  rw [show (128 : Int) = ((128 : Nat) : Int) from rfl, (bits_nat .u8 8 (by decide) wraps_u8 a 128 ha (by decide)).2]
  have : ∀ a, a < 256 → (a ||| 128) = a % 128 + 128 := by decide +kernel
  rw [this a ha]
  omega
theorem and_127 {x : Int} (h : 0 ≤ x) (h' : x < 256) : bits .and .u8 x 127 = x % 128 := bits_mask .u8 8 (by decide) wraps_u8 7 (by decide) x h h'
theorem and_1 {x : Int} (h : 0 ≤ x) (h' : x < 18446744073709551616) : bits .and .u64 x 1 = x % 2 := by
  have := bits_mask .u64 64 (by decide) wraps_u64 1 (by decide) x h (by simpa using h')
  simpa using this
theorem xor_u64 {x : Int} (h : 0 ≤ x) (h' : x < 18446744073709551616) : bits .xor .u64 18446744073709551615 x = 18446744073709551615 - x := by
  obtain ⟨a, rfl⟩ := Int.eq_ofNat_of_zero_le h
  have ha : a < 18446744073709551616 := by omega
  have e : (BitVec.ofInt 64 18446744073709551615) = BitVec.allOnes 64 := by decide
  have : bits .xor .u64 18446744073709551615 (a : Int) = IntKind.u64.wrap ((BitVec.ofInt 64 18446744073709551615 ^^^ BitVec.ofInt 64 (a : Int)).toNat : Int) := rfl
  rw [this, e, BitVec.ofInt_natCast, BitVec.allOnes_xor, BitVec.toNat_not, BitVec.toNat_ofNat, wrap_u64_of (by omega) (by omega)]
  omega
theorem xor_i64 {x : Int} (h : -9223372036854775808 ≤ x) (h' : x < 9223372036854775808) : bits .xor .i64 (-1) x = -1 - x := by
  have e : (BitVec.ofInt 64 (-1)) = BitVec.allOnes 64 := by decide
  have : bits .xor .i64 (-1) x = IntKind.i64.wrap ((BitVec.ofInt 64 (-1) ^^^ BitVec.ofInt 64 x).toNat : Int) := rfl
  rw [this, e, BitVec.allOnes_xor, BitVec.toNat_not, BitVec.toNat_ofInt, IntKind.wrap_i64]
  omega
/-- Bits that lie above are added. -/
theorem or_above {u c : Nat} {i : Nat} (hi : i < 64) (hu : u < 2 ^ i) (h : c * 2 ^ i < 2 ^ 64) : bits .or .u64 (u : Int) ((c * 2 ^ i : Nat) : Int) = ((u + c * 2 ^ i : Nat) : Int) := by
  have hu' : u < 2 ^ 64 := Nat.lt_of_lt_of_le hu (Nat.pow_le_pow_right (by decide) (by omega))
  rw [(bits_nat .u64 64 (by decide) wraps_u64 u _ hu' h).2, Nat.or_comm, Nat.mul_comm c, ← Nat.two_pow_add_eq_or_of_lt hu c, Nat.add_comm]
end Go.Proofs.Ytjieenfbfckafaa.Am

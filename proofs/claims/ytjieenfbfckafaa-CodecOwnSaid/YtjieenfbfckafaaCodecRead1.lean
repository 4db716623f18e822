/- What the readers of integers and texts return, for all bytes: those of the program and those of the specification. -/
import Derived.Test.YtjieenfbfckafaaCodecPut3
namespace Go.Proofs.Ytjieenfbfckafaa.Am
open Go
set_option linter.unusedVariables false
set_option linter.unusedSimpArgs false
set_option maxRecDepth 100000
set_option maxHeartbeats 1000000

/-! ### Reading, as plain functions -/
/-- What is left to be read, and the first error. -/
structure Sr where
  b : List UInt8
  e : Int
def Sr.ok (s : Sr) : Prop := s.b.length ≤ 4611686018427387904
def Sr.fail (s : Sr) (x : Int) : Sr := if s.e = 0 then ⟨s.b, x⟩ else s
def decU (i u : Nat) : List UInt8 → Except Int (Nat × List UInt8)
  | [] => .error 100
  | c :: r => if (i = 9 ∧ 1 < c.toNat) ∨ (0 < i ∧ c.toNat = 0) then .error 1 else if c.toNat < 128 then .ok (u + c.toNat % 128 * 2 ^ (7 * i), r) else decU (i + 1) (u + c.toNat % 128 * 2 ^ (7 * i)) r
def unzz (u : Nat) : Int := if u % 2 = 1 then -1 - ((u / 2 : Nat) : Int) else ((u / 2 : Nat) : Int)
def Sr.int (s : Sr) : Int × Sr := if s.e = 0 then (match decU 0 0 s.b with
  | .error x => (0, ⟨s.b, x⟩)
  | .ok (u, r) => (unzz u, ⟨r, 0⟩)) else (0, s)

theorem Sr.int_err {s : Sr} (he : s.e = 0) {x : Int} (h : decU 0 0 s.b = .error x) : s.int = (0, ⟨s.b, x⟩) := by unfold Sr.int; rw [if_pos he, h]
theorem Sr.int_ok {s : Sr} (he : s.e = 0) {u : Nat} {r : List UInt8} (h : decU 0 0 s.b = .ok (u, r)) : s.int = (unzz u, ⟨r, 0⟩) := by unfold Sr.int; rw [if_pos he, h]
abbrev sob (s : Sr) : Ob := ⟨T_codec_source, [bs s.b, di s.e]⟩
abbrev rob (s : Sr) : Ob := ⟨T_erasureref26Reader, [bs s.b, di s.e]⟩
abbrev ob2 (e : TypeId) (s : Sr) : Ob := ⟨e, [bs s.b, di s.e]⟩

theorem ret_obj {env : List (Nat × TV)} {hp : List (Nat × Ob)} {nx : Nat} {d r : TV} {o o' : Ob} (h1 : look env 0 = some d) (hs : Sub d r) (h2 : look hp 0 = some o) (ho : o = o') (hr : ∀ F, r.ren F = r) (ho' : ∀ F, o'.ren F = o') :
    RetOk 1 ⟨env, hp, nx⟩ r [(0, o')] 1 := by
  subst ho
  refine retn [] rfl rfl ?_ ⟨?_, trivial⟩
  · show SubO (look env 0) _
    rw [h1, hr]
    exact hs
  · show look hp (oldOf 1 nx [] 0) = some (o.ren _)
    rw [ho']
    exact h2

/-- codec.source.fail -/
theorem fail_meets' (s : Sr) (x : Int) : Meets Try.prog F_codec_source_fail ⟨[.c (.ptr 0 0), vi x], [(0, sob s)], 1, .tup [], [(0, sob (s.fail x))], 1⟩ := by
  unfold Sr.fail
  by_cases h : s.e = 0
  · rw [if_pos h]
    refine fits_codec_source_fail.meets rfl (by simp) fun Q hQ => ?_
    (conv => whnf); repeat' (first | (refine And.intro (by first | omega | (simp only [List.length_append]; omega) | (simp [pb]; done) | (simp [pb]; omega) | (simp [zeros_u8, pb]; done) | (simp [zeros_u8, pb]; omega) | (simp [ByteArray.size]; omega) | exact Nat.le_of_ble_eq_true rfl | exact u64_nonneg _ | kernel_rfl) ?_; (conv => whnf)) | (refine onB_intro (fun hb => ?_) (fun hb => ?_) <;> (try simp only [decide_eq_true_eq, decide_eq_false_iff_not, Bool.not_eq_true', Bool.not_eq_false', Bool.and_eq_true, Bool.and_eq_false_iff, Int.not_le, Int.not_lt, bsz, ByteArray.toList_eq, beq_iff_eq, beq_eq_false_iff_ne, ne_eq] at hb) <;> (try (exfalso; omega)) <;> (try (exfalso; first | contradiction | (simp [ByteArray.toList_eq] at hb; done))) <;> (conv => whnf)) | (refine (hQ _ _ _ ?_).1; (conv => whnf)) | (refine ⟨_, rfl, ?_⟩; (conv => whnf)) | (refine ⟨_, mp_cut _ _ _, ?_⟩; (conv => whnf)) | (refine ⟨_, dbs_cut _ _ _, ?_⟩; (conv => whnf)) | (refine ⟨[_], rfl, ?_⟩; (conv => whnf)) | (refine ⟨[_, _], rfl, ?_⟩; (conv => whnf)) | (refine ⟨[_, _, _], rfl, ?_⟩; (conv => whnf)) | (refine ⟨[_, _, _, _], rfl, ?_⟩; (conv => whnf)) | fail)
    refine (hQ _ _ _ ?_).2
    conv => whnf
    exact ret_obj rfl (Sub.refl _) rfl rfl (fun F => rfl) (fun F => rfl)
  · rw [if_neg h]
    refine fits_codec_source_fail.meets rfl (by simp) fun Q hQ => ?_
    (conv => whnf); repeat' (first | (refine And.intro (by first | omega | (simp only [List.length_append]; omega) | (simp [pb]; done) | (simp [pb]; omega) | (simp [zeros_u8, pb]; done) | (simp [zeros_u8, pb]; omega) | (simp [ByteArray.size]; omega) | exact Nat.le_of_ble_eq_true rfl | exact u64_nonneg _ | kernel_rfl) ?_; (conv => whnf)) | (refine onB_intro (fun hb => ?_) (fun hb => ?_) <;> (try simp only [decide_eq_true_eq, decide_eq_false_iff_not, Bool.not_eq_true', Bool.not_eq_false', Bool.and_eq_true, Bool.and_eq_false_iff, Int.not_le, Int.not_lt, bsz, ByteArray.toList_eq, beq_iff_eq, beq_eq_false_iff_ne, ne_eq] at hb) <;> (try (exfalso; omega)) <;> (try (exfalso; first | contradiction | (simp [ByteArray.toList_eq] at hb; done))) <;> (conv => whnf)) | (refine (hQ _ _ _ ?_).1; (conv => whnf)) | (refine ⟨_, rfl, ?_⟩; (conv => whnf)) | (refine ⟨_, mp_cut _ _ _, ?_⟩; (conv => whnf)) | (refine ⟨_, dbs_cut _ _ _, ?_⟩; (conv => whnf)) | (refine ⟨[_], rfl, ?_⟩; (conv => whnf)) | (refine ⟨[_, _], rfl, ?_⟩; (conv => whnf)) | (refine ⟨[_, _, _], rfl, ?_⟩; (conv => whnf)) | (refine ⟨[_, _, _, _], rfl, ?_⟩; (conv => whnf)) | fail)
    refine (hQ _ _ _ ?_).2
    conv => whnf
    exact ret_obj rfl (Sub.refl _) rfl rfl (fun F => rfl) (fun F => rfl)
/-- erasureref26.Reader.fail -/
theorem rfail_meets' (s : Sr) (x : Int) : Meets Try.prog F_erasureref26Reader_fail ⟨[.c (.ptr 0 0), vi x], [(0, rob s)], 1, .tup [], [(0, rob (s.fail x))], 1⟩ := by
  unfold Sr.fail
  by_cases h : s.e = 0
  · rw [if_pos h]
    refine fits_erasureref26Reader_fail.meets rfl (by simp) fun Q hQ => ?_
    (conv => whnf); repeat' (first | (refine And.intro (by first | omega | (simp only [List.length_append]; omega) | (simp [pb]; done) | (simp [pb]; omega) | (simp [zeros_u8, pb]; done) | (simp [zeros_u8, pb]; omega) | (simp [ByteArray.size]; omega) | exact Nat.le_of_ble_eq_true rfl | exact u64_nonneg _ | kernel_rfl) ?_; (conv => whnf)) | (refine onB_intro (fun hb => ?_) (fun hb => ?_) <;> (try simp only [decide_eq_true_eq, decide_eq_false_iff_not, Bool.not_eq_true', Bool.not_eq_false', Bool.and_eq_true, Bool.and_eq_false_iff, Int.not_le, Int.not_lt, bsz, ByteArray.toList_eq, beq_iff_eq, beq_eq_false_iff_ne, ne_eq] at hb) <;> (try (exfalso; omega)) <;> (try (exfalso; first | contradiction | (simp [ByteArray.toList_eq] at hb; done))) <;> (conv => whnf)) | (refine (hQ _ _ _ ?_).1; (conv => whnf)) | (refine ⟨_, rfl, ?_⟩; (conv => whnf)) | (refine ⟨_, mp_cut _ _ _, ?_⟩; (conv => whnf)) | (refine ⟨_, dbs_cut _ _ _, ?_⟩; (conv => whnf)) | (refine ⟨[_], rfl, ?_⟩; (conv => whnf)) | (refine ⟨[_, _], rfl, ?_⟩; (conv => whnf)) | (refine ⟨[_, _, _], rfl, ?_⟩; (conv => whnf)) | (refine ⟨[_, _, _, _], rfl, ?_⟩; (conv => whnf)) | fail)
    refine (hQ _ _ _ ?_).2
    conv => whnf
    exact ret_obj rfl (Sub.refl _) rfl rfl (fun F => rfl) (fun F => rfl)
  · rw [if_neg h]
    refine fits_erasureref26Reader_fail.meets rfl (by simp) fun Q hQ => ?_
    (conv => whnf); repeat' (first | (refine And.intro (by first | omega | (simp only [List.length_append]; omega) | (simp [pb]; done) | (simp [pb]; omega) | (simp [zeros_u8, pb]; done) | (simp [zeros_u8, pb]; omega) | (simp [ByteArray.size]; omega) | exact Nat.le_of_ble_eq_true rfl | exact u64_nonneg _ | kernel_rfl) ?_; (conv => whnf)) | (refine onB_intro (fun hb => ?_) (fun hb => ?_) <;> (try simp only [decide_eq_true_eq, decide_eq_false_iff_not, Bool.not_eq_true', Bool.not_eq_false', Bool.and_eq_true, Bool.and_eq_false_iff, Int.not_le, Int.not_lt, bsz, ByteArray.toList_eq, beq_iff_eq, beq_eq_false_iff_ne, ne_eq] at hb) <;> (try (exfalso; omega)) <;> (try (exfalso; first | contradiction | (simp [ByteArray.toList_eq] at hb; done))) <;> (conv => whnf)) | (refine (hQ _ _ _ ?_).1; (conv => whnf)) | (refine ⟨_, rfl, ?_⟩; (conv => whnf)) | (refine ⟨_, mp_cut _ _ _, ?_⟩; (conv => whnf)) | (refine ⟨_, dbs_cut _ _ _, ?_⟩; (conv => whnf)) | (refine ⟨[_], rfl, ?_⟩; (conv => whnf)) | (refine ⟨[_, _], rfl, ?_⟩; (conv => whnf)) | (refine ⟨[_, _, _], rfl, ?_⟩; (conv => whnf)) | (refine ⟨[_, _, _, _], rfl, ?_⟩; (conv => whnf)) | fail)
    refine (hQ _ _ _ ?_).2
    conv => whnf
    exact ret_obj rfl (Sub.refl _) rfl rfl (fun F => rfl) (fun F => rfl)

theorem elem_pb {l : List UInt8} {k : Nat} {c : UInt8} (h : l[k]? = some c) : ((pb l).drop (Int.toNat (k : Int) * 1)).take 1 = [pb1 c] := elem_map h
theorem pb_rest (l : List UInt8) (k : Nat) (n m : Nat) (hn : n = (k + 1) * 1) (hm : l.length ≤ n + m) : ((pb l).drop n).take m = pb (l.drop (k + 1)) := by
  subst hn
  rw [Nat.mul_one, List.take_of_length_le (by simp [pb]; omega), pb_drop]
theorem decU_step {k u : Nat} {c : UInt8} {r : List UInt8} (h1 : ¬((k = 9 ∧ 1 < c.toNat) ∨ (0 < k ∧ c.toNat = 0))) (h2 : ¬c.toNat < 128) : decU k u (c :: r) = decU (k + 1) (u + c.toNat % 128 * 2 ^ (7 * k)) r := by
  rw [decU, if_neg h1, if_neg h2]
theorem decU_last {k u : Nat} {c : UInt8} {r : List UInt8} (h1 : ¬((k = 9 ∧ 1 < c.toNat) ∨ (0 < k ∧ c.toNat = 0))) (h2 : c.toNat < 128) : decU k u (c :: r) = .ok (u + c.toNat % 128 * 2 ^ (7 * k), r) := by
  rw [decU, if_neg h1, if_pos h2]
theorem decU_bad {k u : Nat} {c : UInt8} {r : List UInt8} (h1 : (k = 9 ∧ 1 < c.toNat) ∨ (0 < k ∧ c.toNat = 0)) : decU k u (c :: r) = .error 1 := by
  rw [decU, if_pos h1]
/-- The next seven bits. -/
theorem next_bound {k u : Nat} {c : UInt8} (hk : k ≤ 9) (h9 : k = 9 → c.toNat ≤ 1) (hu : u < 2 ^ (7 * k)) : c.toNat % 128 * 2 ^ (7 * k) < 2 ^ 64 ∧ u + c.toNat % 128 * 2 ^ (7 * k) < 2 ^ 64 ∧ (k < 9 → u + c.toNat % 128 * 2 ^ (7 * k) < 2 ^ (7 * (k + 1))) := by
  have hc : c.toNat % 128 < 128 := Nat.mod_lt _ (by decide)
  have e : 2 ^ (7 * (k + 1)) = 128 * 2 ^ (7 * k) := by rw [Nat.mul_add, Nat.mul_one, Nat.pow_add]; omega
  have h1 : u + c.toNat % 128 * 2 ^ (7 * k) < 2 ^ (7 * (k + 1)) := by
    rw [e]
    have : c.toNat % 128 * 2 ^ (7 * k) ≤ 127 * 2 ^ (7 * k) := Nat.mul_le_mul_right _ (by omega)
    omega
  rcases Nat.lt_or_ge k 9 with h | h
  · have h2 : (2 : Nat) ^ (7 * (k + 1)) ≤ 2 ^ 64 := Nat.pow_le_pow_right (by decide) (by omega)
    exact ⟨by omega, by omega, fun _ => h1⟩
  · have : k = 9 := by omega
    subst this
    have h3 := h9 rfl
    have h4 : c.toNat % 128 ≤ 1 := by omega
    have h5 : c.toNat % 128 * 2 ^ (7 * 9) ≤ 1 * 2 ^ (7 * 9) := Nat.mul_le_mul_right _ h4
    have h6 : (2 : Nat) ^ (7 * 9) + 2 ^ (7 * 9) = 2 ^ 64 := by decide
    exact ⟨by omega, by omega, fun h => by omega⟩
theorem next_u {k u : Nat} {c : UInt8} (hk : k ≤ 9) (h9 : k = 9 → c.toNat ≤ 1) (hu : u < 2 ^ (7 * k)) :
    bits .or .u64 (u : Int) (IntKind.u64.wrap (IntKind.u64.wrap (bits .and .u8 (c.toNat : Int) 127) * 2 ^ min (Int.toNat (IntKind.u64.wrap (7 * IntKind.u64.wrap (k : Int)))) IntKind.u64.bits)) = ((u + c.toNat % 128 * 2 ^ (7 * k) : Nat) : Int) := by
  have hc : c.toNat < 256 := c.toNat_lt
  obtain ⟨h1, h2, _⟩ := next_bound hk h9 hu
  have e1 : min (Int.toNat (IntKind.u64.wrap (7 * IntKind.u64.wrap (k : Int)))) IntKind.u64.bits = 7 * k := by
    rw [wrap_u64_of (n := (k : Int)) (by omega) (by omega), wrap_u64_of (by omega) (by omega)]
    show min _ 64 = _
    omega
  rw [and_127 (by omega) (by omega), e1, wrap_u64_of (n := (c.toNat : Int) % 128) (by omega) (by omega)]
  have e2 : ((c.toNat : Int) % 128) * 2 ^ (7 * k) = ((c.toNat % 128 * 2 ^ (7 * k) : Nat) : Int) := by
    rw [Int.natCast_mul, Int.natCast_pow]; rfl
  have h1' : ((c.toNat % 128 * 2 ^ (7 * k) : Nat) : Int) < 18446744073709551616 := by
    have h := Int.ofNat_lt.2 h1
    rwa [show ((2 ^ 64 : Nat) : Int) = 18446744073709551616 from rfl] at h
  rw [e2, wrap_u64_of (Int.natCast_nonneg _) h1']
  exact or_above (by omega) hu h1
theorem unzz_pos {u : Nat} (hu : u < 2 ^ 64) (h : u % 2 ≠ 1) : IntKind.i64.wrap (Int.fdiv (u : Int) (2 ^ min (Int.toNat 1) IntKind.u64.bits)) = unzz u := by
  rw [show (2 : Int) ^ min (Int.toNat 1) IntKind.u64.bits = 2 by decide, Int.fdiv_eq_ediv_of_nonneg _ (by decide), wrap_i64_of (by omega) (by omega)]
  unfold unzz; rw [if_neg h]; omega
theorem unzz_neg {u : Nat} (hu : u < 2 ^ 64) (h : u % 2 = 1) : bits .xor .i64 (if IntKind.i64.signed = true then -1 else IntKind.i64.max) (IntKind.i64.wrap (Int.fdiv (u : Int) (2 ^ min (Int.toNat 1) IntKind.u64.bits))) = unzz u := by
  rw [show (if IntKind.i64.signed = true then -1 else IntKind.i64.max) = (-1 : Int) by decide, show (2 : Int) ^ min (Int.toNat 1) IntKind.u64.bits = 2 by decide, Int.fdiv_eq_ediv_of_nonneg _ (by decide), wrap_i64_of (by omega) (by omega), xor_i64 (by omega) (by omega)]
  unfold unzz; rw [if_pos h]; omega
/-- codec.source.integer -/
theorem integer_meets (s : Sr) (hs : s.ok) : Meets Try.prog F_codec_source_integer ⟨[.c (.ptr 0 0)], [(0, sob s)], 1, vi s.int.1, [(0, sob s.int.2)], 1⟩ := by
  have hs : s.b.length ≤ 4611686018427387904 := hs
  by_cases he : s.e = 0
  · refine fits_codec_source_integer.meets rfl (by simp) fun Q hQ => ?_
    have hint : s.int = match decU 0 0 s.b with | .error x => (0, ⟨s.b, x⟩) | .ok (u, r) => (unzz u, ⟨r, 0⟩) := by unfold Sr.int; rw [if_pos he]
    (conv => whnf); repeat' (first | (refine And.intro (by first | omega | (simp only [List.length_append]; omega) | (simp [pb]; done) | (simp [pb]; omega) | (simp [zeros_u8, pb]; done) | (simp [zeros_u8, pb]; omega) | (simp [ByteArray.size]; omega) | exact Nat.le_of_ble_eq_true rfl | exact u64_nonneg _ | kernel_rfl) ?_; (conv => whnf)) | (refine onB_intro (fun hb => ?_) (fun hb => ?_) <;> (try simp only [decide_eq_true_eq, decide_eq_false_iff_not, Bool.not_eq_true', Bool.not_eq_false', Bool.and_eq_true, Bool.and_eq_false_iff, Int.not_le, Int.not_lt, bsz, ByteArray.toList_eq, beq_iff_eq, beq_eq_false_iff_ne, ne_eq] at hb) <;> (try (exfalso; omega)) <;> (try (exfalso; first | contradiction | (simp [ByteArray.toList_eq] at hb; done))) <;> (conv => whnf)) | (refine (hQ _ _ _ ?_).1; (conv => whnf)) | (refine ⟨_, rfl, ?_⟩; (conv => whnf)) | (refine ⟨_, mp_cut _ _ _, ?_⟩; (conv => whnf)) | (refine ⟨_, dbs_cut _ _ _, ?_⟩; (conv => whnf)) | (refine ⟨[_], rfl, ?_⟩; (conv => whnf)) | (refine ⟨[_, _], rfl, ?_⟩; (conv => whnf)) | (refine ⟨[_, _, _], rfl, ?_⟩; (conv => whnf)) | (refine ⟨[_, _, _, _], rfl, ?_⟩; (conv => whnf)) | fail)
    refine loop_fam (ι := Nat × Nat) (fun i => ⟨[(0, .c (.ptr 0 0)), (3, .c (.p (.v (.int .u64 i.2)))), (4, vi i.1)], [(0, sob s)], 1⟩) (fun i => 10 - i.1) (fun i => i.1 ≤ 9 ∧ i.1 ≤ s.b.length ∧ i.2 < 2 ^ (7 * i.1) ∧ decU i.1 i.2 (s.b.drop i.1) = decU 0 0 s.b) (0, 0)
      (wkn [] rfl rfl ⟨Sub.refl _, Sub.refl _, Sub.refl _, trivial⟩ ⟨rfl, trivial⟩) ⟨by omega, by omega, by decide, rfl⟩ ?_
    rintro ⟨k, u⟩ ⟨hk, hkl, hu, hdec⟩ K hK
    simp only at hk hkl hu hdec
    cases hd : s.b.drop k with
    | nil =>
      have hle : s.b.length ≤ k := List.drop_eq_nil_iff.1 hd
      rw [hd] at hdec
      rw [← hdec] at hint
      (conv => whnf); repeat' (first | (refine And.intro (by first | omega | (simp only [List.length_append]; omega) | (simp [pb]; done) | (simp [pb]; omega) | (simp [zeros_u8, pb]; done) | (simp [zeros_u8, pb]; omega) | (simp [ByteArray.size]; omega) | exact Nat.le_of_ble_eq_true rfl | exact u64_nonneg _ | kernel_rfl) ?_; (conv => whnf)) | (refine onB_intro (fun hb => ?_) (fun hb => ?_) <;> (try simp only [decide_eq_true_eq, decide_eq_false_iff_not, Bool.not_eq_true', Bool.not_eq_false', Bool.and_eq_true, Bool.and_eq_false_iff, Int.not_le, Int.not_lt, bsz, ByteArray.toList_eq, beq_iff_eq, beq_eq_false_iff_ne, ne_eq] at hb) <;> (try (exfalso; omega)) <;> (try (exfalso; first | contradiction | (simp [ByteArray.toList_eq] at hb; done))) <;> (conv => whnf)) | (refine (hQ _ _ _ ?_).1; (conv => whnf)) | (refine ⟨_, rfl, ?_⟩; (conv => whnf)) | (refine ⟨_, mp_cut _ _ _, ?_⟩; (conv => whnf)) | (refine ⟨_, dbs_cut _ _ _, ?_⟩; (conv => whnf)) | (refine ⟨[_], rfl, ?_⟩; (conv => whnf)) | (refine ⟨[_, _], rfl, ?_⟩; (conv => whnf)) | (refine ⟨[_, _, _], rfl, ?_⟩; (conv => whnf)) | (refine ⟨[_, _, _, _], rfl, ?_⟩; (conv => whnf)) | (apply call_obj (fail_meets' s 100) (fun F => by first | exact rfl | exact bob_ren F _ | exact ob_ren F _ _) (fun F => by first | exact rfl | exact bob_ren F _ | exact ob_ren F _ _); (focus ((repeat' (first | exact trivial | exact Sub.refl _ | exact sub_nil | exact Or.inl rfl | exact Or.inr ⟨rfl, rfl⟩ | (refine sub_ref ?_; (first | omega | (simp; done) | (simp; omega))) | (refine sub_int ?_; (first | omega | rfl | (simp [bsz]; done))) | refine sub_tup ?_ | exact sub_agg_dbs_r | exact sub_agg_take_r rfl (by first | assumption | omega) | (refine sub_agg_take rfl ?_; (first | ((try rw [dbs_length]); assumption) | ((try rw [dbs_length]); omega))) | refine sub_agg ?_ | (refine sub_val ?_ ?_ <;> (first | omega | (simp [pb, List.map_take, List.map_drop]; done) | (simp [pb, List.map_take, List.map_drop]; omega) | (simp [pb, List.take_of_length_le]; done))) | (refine or_val ?_ ?_ <;> (first | omega | (simp [pb, List.map_take, List.map_drop]; done) | (simp [pb, List.map_take, List.map_drop]; omega) | (simp [pb, List.take_of_length_le]; done))) | refine And.intro ?_ ?_)); done)); (focus (first | exact rfl | exact hp_eq rfl (dbs_app _ _ _ rfl) | exact hp_eq rfl (dbs_appo _ _ _ _ rfl rfl) | exact hp_eq rfl (by simp only [bob, ← List.length_append, dbs_appo', dbs_app', bsz]) | exact hp_eq rfl (by simp [dbs, pb]))); (conv => whnf)) | fail)
      rw [hint]
      exact ret_obj rfl (Sub.refl _) rfl (by simp [Sr.fail, he, decU]) (fun F => rfl) (fun F => rfl)
    | cons c r =>
      have hc : s.b[k]? = some c := by have := congrArg List.head? hd; rwa [List.head?_drop] at this
      have hlt : k < s.b.length := (List.getElem?_eq_some_iff.1 hc).1
      have hr : r = s.b.drop (k + 1) := by have := congrArg List.tail hd; rw [List.tail_drop] at this; exact this.symm
      have hcb : c.toNat < 256 := c.toNat_lt
      rw [hd] at hdec
      by_cases hbad : (k = 9 ∧ 1 < c.toNat) ∨ (0 < k ∧ c.toNat = 0)
      · rw [decU_bad hbad] at hdec
        rw [← hdec] at hint
        (conv => whnf); repeat' (first | (refine And.intro (by first | omega | (simp only [List.length_append]; omega) | (simp [pb]; done) | (simp [pb]; omega) | (simp [zeros_u8, pb]; done) | (simp [zeros_u8, pb]; omega) | (simp [ByteArray.size]; omega) | exact Nat.le_of_ble_eq_true rfl | exact u64_nonneg _ | kernel_rfl) ?_; (conv => whnf)) | (refine onB_intro (fun hb => ?_) (fun hb => ?_) <;> (try simp only [decide_eq_true_eq, decide_eq_false_iff_not, Bool.not_eq_true', Bool.not_eq_false', Bool.and_eq_true, Bool.and_eq_false_iff, Int.not_le, Int.not_lt, bsz, ByteArray.toList_eq, beq_iff_eq, beq_eq_false_iff_ne, ne_eq] at hb) <;> (try (exfalso; omega)) <;> (try (exfalso; first | contradiction | (simp [ByteArray.toList_eq] at hb; done))) <;> (conv => whnf)) | (refine (hQ _ _ _ ?_).1; (conv => whnf)) | (refine ⟨_, rfl, ?_⟩; (conv => whnf)) | (refine ⟨_, mp_cut _ _ _, ?_⟩; (conv => whnf)) | (refine ⟨_, dbs_cut _ _ _, ?_⟩; (conv => whnf)) | (refine ⟨[_], rfl, ?_⟩; (conv => whnf)) | (refine ⟨[_, _], rfl, ?_⟩; (conv => whnf)) | (refine ⟨[_, _, _], rfl, ?_⟩; (conv => whnf)) | (refine ⟨[_, _, _, _], rfl, ?_⟩; (conv => whnf)) | (apply call_obj (fail_meets' s 1) (fun F => by first | exact rfl | exact bob_ren F _ | exact ob_ren F _ _) (fun F => by first | exact rfl | exact bob_ren F _ | exact ob_ren F _ _); (focus ((repeat' (first | exact trivial | exact Sub.refl _ | exact sub_nil | exact Or.inl rfl | exact Or.inr ⟨rfl, rfl⟩ | (refine sub_ref ?_; (first | omega | (simp; done) | (simp; omega))) | (refine sub_int ?_; (first | omega | rfl | (simp [bsz]; done))) | refine sub_tup ?_ | exact sub_agg_dbs_r | exact sub_agg_take_r rfl (by first | assumption | omega) | (refine sub_agg_take rfl ?_; (first | ((try rw [dbs_length]); assumption) | ((try rw [dbs_length]); omega))) | refine sub_agg ?_ | (refine sub_val ?_ ?_ <;> (first | omega | (simp [pb, List.map_take, List.map_drop]; done) | (simp [pb, List.map_take, List.map_drop]; omega) | (simp [pb, List.take_of_length_le]; done))) | (refine or_val ?_ ?_ <;> (first | omega | (simp [pb, List.map_take, List.map_drop]; done) | (simp [pb, List.map_take, List.map_drop]; omega) | (simp [pb, List.take_of_length_le]; done))) | refine And.intro ?_ ?_)); done)); (focus (first | exact rfl | exact hp_eq rfl (dbs_app _ _ _ rfl) | exact hp_eq rfl (dbs_appo _ _ _ _ rfl rfl) | exact hp_eq rfl (by simp only [bob, ← List.length_append, dbs_appo', dbs_app', bsz]) | exact hp_eq rfl (by simp [dbs, pb]))); (conv => whnf)) | (simp only [elem_pb hc]; (conv => whnf)) | fail)
        all_goals rw [hint]
        all_goals exact ret_obj rfl (Sub.refl _) rfl (by simp [Sr.fail, he]) (fun F => rfl) (fun F => rfl)
      · have h9 : k = 9 → c.toNat ≤ 1 := by omega
        obtain ⟨n1, n2, n3⟩ := next_bound hk h9 hu
        by_cases hlast : c.toNat < 128
        · rw [decU_last hbad hlast] at hdec
          rw [← hdec] at hint
          (conv => whnf); repeat' (first | (refine And.intro (by first | omega | (simp only [List.length_append]; omega) | (simp [pb]; done) | (simp [pb]; omega) | (simp [zeros_u8, pb]; done) | (simp [zeros_u8, pb]; omega) | (simp [ByteArray.size]; omega) | exact Nat.le_of_ble_eq_true rfl | exact u64_nonneg _ | kernel_rfl) ?_; (conv => whnf)) | (refine onB_intro (fun hb => ?_) (fun hb => ?_) <;> (try simp only [decide_eq_true_eq, decide_eq_false_iff_not, Bool.not_eq_true', Bool.not_eq_false', Bool.and_eq_true, Bool.and_eq_false_iff, Int.not_le, Int.not_lt, bsz, ByteArray.toList_eq, beq_iff_eq, beq_eq_false_iff_ne, ne_eq] at hb) <;> (try (exfalso; omega)) <;> (try (exfalso; first | contradiction | (simp [ByteArray.toList_eq] at hb; done))) <;> (conv => whnf)) | (refine (hQ _ _ _ ?_).1; (conv => whnf)) | (refine ⟨_, rfl, ?_⟩; (conv => whnf)) | (refine ⟨_, mp_cut _ _ _, ?_⟩; (conv => whnf)) | (refine ⟨_, dbs_cut _ _ _, ?_⟩; (conv => whnf)) | (refine ⟨[_], rfl, ?_⟩; (conv => whnf)) | (refine ⟨[_, _], rfl, ?_⟩; (conv => whnf)) | (refine ⟨[_, _, _], rfl, ?_⟩; (conv => whnf)) | (refine ⟨[_, _, _, _], rfl, ?_⟩; (conv => whnf)) | (simp only [elem_pb hc, next_u hk h9 hu]; (conv => whnf)) | fail)
          all_goals
            rw [hint]
            have hU : ((u + c.toNat % 128 * 2 ^ (7 * k) : Nat) : Int) < 18446744073709551616 := by
              have h := Int.ofNat_lt.2 n2
              rwa [show ((2 ^ 64 : Nat) : Int) = 18446744073709551616 from rfl] at h
            rw [next_u hk h9 hu, and_1 (Int.natCast_nonneg _) hU] at hb
            clear hint hdec
            generalize u + c.toNat % 128 * 2 ^ (7 * k) = U at hU hb n2 ⊢
            first
              | exact ret_obj rfl (sub_int (unzz_neg n2 (by omega))) rfl (ob2_eq (dv_val (by rw [hr]; simp; omega) (by rw [hr]; exact pb_rest _ k _ _ (by omega) (by omega))) (by rw [he])) (fun F => rfl) (fun F => rfl)
              | exact ret_obj rfl (sub_int (unzz_pos n2 (by omega))) rfl (ob2_eq (dv_val (by rw [hr]; simp; omega) (by rw [hr]; exact pb_rest _ k _ _ (by omega) (by omega))) (by rw [he])) (fun F => rfl) (fun F => rfl)
        · rw [decU_step hbad hlast] at hdec
          have hk9 : k ≠ 9 := by omega
          (conv => whnf); repeat' (first | (refine And.intro (by first | omega | (simp only [List.length_append]; omega) | (simp [pb]; done) | (simp [pb]; omega) | (simp [zeros_u8, pb]; done) | (simp [zeros_u8, pb]; omega) | (simp [ByteArray.size]; omega) | exact Nat.le_of_ble_eq_true rfl | exact u64_nonneg _ | kernel_rfl) ?_; (conv => whnf)) | (refine onB_intro (fun hb => ?_) (fun hb => ?_) <;> (try simp only [decide_eq_true_eq, decide_eq_false_iff_not, Bool.not_eq_true', Bool.not_eq_false', Bool.and_eq_true, Bool.and_eq_false_iff, Int.not_le, Int.not_lt, bsz, ByteArray.toList_eq, beq_iff_eq, beq_eq_false_iff_ne, ne_eq] at hb) <;> (try (exfalso; omega)) <;> (try (exfalso; first | contradiction | (simp [ByteArray.toList_eq] at hb; done))) <;> (conv => whnf)) | (refine (hQ _ _ _ ?_).1; (conv => whnf)) | (refine ⟨_, rfl, ?_⟩; (conv => whnf)) | (refine ⟨_, mp_cut _ _ _, ?_⟩; (conv => whnf)) | (refine ⟨_, dbs_cut _ _ _, ?_⟩; (conv => whnf)) | (refine ⟨[_], rfl, ?_⟩; (conv => whnf)) | (refine ⟨[_, _], rfl, ?_⟩; (conv => whnf)) | (refine ⟨[_, _, _], rfl, ?_⟩; (conv => whnf)) | (refine ⟨[_, _, _, _], rfl, ?_⟩; (conv => whnf)) | (simp only [elem_pb hc]; (conv => whnf)) | fail)
          all_goals refine hK _ _ _ (k + 1, u + c.toNat % 128 * 2 ^ (7 * k)) ⟨by dsimp only; omega, by dsimp only; omega, n3 (by omega), by dsimp only; rw [← hr]; exact hdec⟩ (by dsimp only; omega) (wkn [] rfl rfl ⟨Sub.refl _, sub_int (next_u hk h9 hu), sub_int (by dsimp only; omega), trivial⟩ ⟨rfl, trivial⟩)
  · have hint : s.int = (0, s) := by unfold Sr.int; rw [if_neg he]
    rw [hint]
    refine fits_codec_source_integer.meets rfl (by simp) fun Q hQ => ?_
    (conv => whnf); repeat' (first | (refine And.intro (by first | omega | (simp only [List.length_append]; omega) | (simp [pb]; done) | (simp [pb]; omega) | (simp [zeros_u8, pb]; done) | (simp [zeros_u8, pb]; omega) | (simp [ByteArray.size]; omega) | exact Nat.le_of_ble_eq_true rfl | exact u64_nonneg _ | kernel_rfl) ?_; (conv => whnf)) | (refine onB_intro (fun hb => ?_) (fun hb => ?_) <;> (try simp only [decide_eq_true_eq, decide_eq_false_iff_not, Bool.not_eq_true', Bool.not_eq_false', Bool.and_eq_true, Bool.and_eq_false_iff, Int.not_le, Int.not_lt, bsz, ByteArray.toList_eq, beq_iff_eq, beq_eq_false_iff_ne, ne_eq] at hb) <;> (try (exfalso; omega)) <;> (try (exfalso; first | contradiction | (simp [ByteArray.toList_eq] at hb; done))) <;> (conv => whnf)) | (refine (hQ _ _ _ ?_).1; (conv => whnf)) | (refine ⟨_, rfl, ?_⟩; (conv => whnf)) | (refine ⟨_, mp_cut _ _ _, ?_⟩; (conv => whnf)) | (refine ⟨_, dbs_cut _ _ _, ?_⟩; (conv => whnf)) | (refine ⟨[_], rfl, ?_⟩; (conv => whnf)) | (refine ⟨[_, _], rfl, ?_⟩; (conv => whnf)) | (refine ⟨[_, _, _], rfl, ?_⟩; (conv => whnf)) | (refine ⟨[_, _, _, _], rfl, ?_⟩; (conv => whnf)) | fail)
    refine loop_fam (ι := Unit) (fun i => ⟨[(0, .c (.ptr 0 0)), (3, .c (.p (.v (.int .u64 0)))), (4, vi 0)], [(0, sob s)], 1⟩) (fun i => 0) (fun i => True) ()
      (wkn [] rfl rfl ⟨Sub.refl _, Sub.refl _, Sub.refl _, trivial⟩ ⟨rfl, trivial⟩) trivial ?_
    intro i _ K hK
    (conv => whnf); repeat' (first | (refine And.intro (by first | omega | (simp only [List.length_append]; omega) | (simp [pb]; done) | (simp [pb]; omega) | (simp [zeros_u8, pb]; done) | (simp [zeros_u8, pb]; omega) | (simp [ByteArray.size]; omega) | exact Nat.le_of_ble_eq_true rfl | exact u64_nonneg _ | kernel_rfl) ?_; (conv => whnf)) | (refine onB_intro (fun hb => ?_) (fun hb => ?_) <;> (try simp only [decide_eq_true_eq, decide_eq_false_iff_not, Bool.not_eq_true', Bool.not_eq_false', Bool.and_eq_true, Bool.and_eq_false_iff, Int.not_le, Int.not_lt, bsz, ByteArray.toList_eq, beq_iff_eq, beq_eq_false_iff_ne, ne_eq] at hb) <;> (try (exfalso; omega)) <;> (try (exfalso; first | contradiction | (simp [ByteArray.toList_eq] at hb; done))) <;> (conv => whnf)) | (refine (hQ _ _ _ ?_).1; (conv => whnf)) | (refine ⟨_, rfl, ?_⟩; (conv => whnf)) | (refine ⟨_, mp_cut _ _ _, ?_⟩; (conv => whnf)) | (refine ⟨_, dbs_cut _ _ _, ?_⟩; (conv => whnf)) | (refine ⟨[_], rfl, ?_⟩; (conv => whnf)) | (refine ⟨[_, _], rfl, ?_⟩; (conv => whnf)) | (refine ⟨[_, _, _], rfl, ?_⟩; (conv => whnf)) | (refine ⟨[_, _, _, _], rfl, ?_⟩; (conv => whnf)) | fail)
    exact ret_obj rfl (Sub.refl _) rfl rfl (fun F => rfl) (fun F => rfl)
end Go.Proofs.Ytjieenfbfckafaa.Am

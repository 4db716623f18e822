/- What the claim of CodecRecords reaches, part 1. -/
import Derived.Test.YtjieenfbfckafaaWCodecRecords0
namespace Go.Proofs.Ytjieenfbfckafaa.Am
open Go
set_option linter.unusedVariables false
set_option linter.unusedSimpArgs false
set_option maxRecDepth 100000
set_option maxHeartbeats 1000000
/-- codec.source.fail -/
theorem fail_meets' (s : Sr) (x : Int) : Meets Try.prog F_codec_source_fail ⟨[.c (.ptr 0 0), vi x], [(0, sob s)], 1, .tup [], [(0, sob (s.fail x))], 1⟩ := by
  unfold Sr.fail
  by_cases h : s.e = 0
  · rw [if_pos h]
    refine fits_codec_source_fail.meets rfl (by simp) fun Q hQ => ?_
    (conv => whnf); repeat' (first | (refine And.intro ?_ ?_; (focus (first | omega | (dsimp only; omega) | (simp only [List.length_append]; omega) | (simp [pb]; done) | (simp [pb]; omega) | (simp [zeros_u8, pb]; done) | (simp [zeros_u8, pb]; omega) | (simp [ByteArray.size]; omega) | exact Nat.le_of_ble_eq_true rfl | exact u64_nonneg _ | (show chkDraw _ _ = true; kernel_rfl) | (decide; done))); (conv => whnf)) | (refine onB_intro (fun hb => ?_) (fun hb => ?_) <;> (try simp only [decide_eq_true_eq, decide_eq_false_iff_not, Bool.not_eq_true', Bool.not_eq_false', Bool.and_eq_true, Bool.and_eq_false_iff, Int.not_le, Int.not_lt, bsz, ByteArray.toList_eq, beq_iff_eq, beq_eq_false_iff_ne, ne_eq] at hb) <;> (try (exfalso; omega)) <;> (try (exfalso; first | contradiction | (simp [ByteArray.toList_eq] at hb; done))) <;> (conv => whnf)) | (refine (hQ _ _ _ ?_).1; (conv => whnf)) | (refine ⟨_, rfl, ?_⟩; (conv => whnf)) | (refine ⟨_, mp_cut _ _ _, ?_⟩; (conv => whnf)) | (refine ⟨_, dbs_cut _ _ _, ?_⟩; (conv => whnf)) | (refine ⟨[_], rfl, ?_⟩; (conv => whnf)) | (refine ⟨[_, _], rfl, ?_⟩; (conv => whnf)) | (refine ⟨[_, _, _], rfl, ?_⟩; (conv => whnf)) | (refine ⟨[_, _, _, _], rfl, ?_⟩; (conv => whnf)) | fail)
    refine (hQ _ _ _ ?_).2
    conv => whnf
    exact ret_obj rfl (Sub.refl _) rfl rfl (fun F => rfl) (fun F => rfl)
  · rw [if_neg h]
    refine fits_codec_source_fail.meets rfl (by simp) fun Q hQ => ?_
    (conv => whnf); repeat' (first | (refine And.intro ?_ ?_; (focus (first | omega | (dsimp only; omega) | (simp only [List.length_append]; omega) | (simp [pb]; done) | (simp [pb]; omega) | (simp [zeros_u8, pb]; done) | (simp [zeros_u8, pb]; omega) | (simp [ByteArray.size]; omega) | exact Nat.le_of_ble_eq_true rfl | exact u64_nonneg _ | (show chkDraw _ _ = true; kernel_rfl) | (decide; done))); (conv => whnf)) | (refine onB_intro (fun hb => ?_) (fun hb => ?_) <;> (try simp only [decide_eq_true_eq, decide_eq_false_iff_not, Bool.not_eq_true', Bool.not_eq_false', Bool.and_eq_true, Bool.and_eq_false_iff, Int.not_le, Int.not_lt, bsz, ByteArray.toList_eq, beq_iff_eq, beq_eq_false_iff_ne, ne_eq] at hb) <;> (try (exfalso; omega)) <;> (try (exfalso; first | contradiction | (simp [ByteArray.toList_eq] at hb; done))) <;> (conv => whnf)) | (refine (hQ _ _ _ ?_).1; (conv => whnf)) | (refine ⟨_, rfl, ?_⟩; (conv => whnf)) | (refine ⟨_, mp_cut _ _ _, ?_⟩; (conv => whnf)) | (refine ⟨_, dbs_cut _ _ _, ?_⟩; (conv => whnf)) | (refine ⟨[_], rfl, ?_⟩; (conv => whnf)) | (refine ⟨[_, _], rfl, ?_⟩; (conv => whnf)) | (refine ⟨[_, _, _], rfl, ?_⟩; (conv => whnf)) | (refine ⟨[_, _, _, _], rfl, ?_⟩; (conv => whnf)) | fail)
    refine (hQ _ _ _ ?_).2
    conv => whnf
    exact ret_obj rfl (Sub.refl _) rfl rfl (fun F => rfl) (fun F => rfl)
theorem elem_pb {l : List UInt8} {k : Nat} {c : UInt8} (h : l[k]? = some c) : ((pb l).drop (Int.toNat (k : Int) * 1)).take 1 = [pb1 c] := elem_map h
theorem pb_rest (l : List UInt8) (k : Nat) (n m : Nat) (hn : n = (k + 1) * 1) (hm : l.length ≤ n + m) : ((pb l).drop n).take m = pb (l.drop (k + 1)) := by
  subst hn
  rw [Nat.mul_one, List.take_of_length_le (by simp [pb]; omega), pb_drop]
theorem decU_step {k u : Nat} {c : UInt8} {r : List UInt8} (h1 : ¬((k = 9 ∧ 1 < c.toNat) ∨ (0 < k ∧ c.toNat = 0))) (h2 : ¬c.toNat < 128) : decU k u (c :: r) = decU (k + 1) (u + c.toNat % 128 * 2 ^ (7 * k)) r := by
  rw [decU, if_neg h1, if_neg h2]
theorem decU_last {k u : Nat} {c : UInt8} {r : List UInt8} (h1 : ¬((k = 9 ∧ 1 < c.toNat) ∨ (0 < k ∧ c.toNat = 0))) (h2 : c.toNat < 128) : decU k u (c :: r) = .ok (u + c.toNat % 128 * 2 ^ (7 * k), r) := by
  rw [decU, if_neg h1, if_pos h2]
theorem decU_bad {k u : Nat} {c : UInt8} {r : List UInt8} (h1 : (k = 9 ∧ 1 < c.toNat) ∨ (0 < k ∧ c.toNat = 0)) : decU k u (c :: r) = .error 1 := by
  rw [decU, if_pos h1]
/-- The next seven bits. -/
theorem next_bound {k u : Nat} {c : UInt8} (hk : k ≤ 9) (h9 : k = 9 → c.toNat ≤ 1) (hu : u < 2 ^ (7 * k)) : c.toNat % 128 * 2 ^ (7 * k) < 2 ^ 64 ∧ u + c.toNat % 128 * 2 ^ (7 * k) < 2 ^ 64 ∧ (k < 9 → u + c.toNat % 128 * 2 ^ (7 * k) < 2 ^ (7 * (k + 1))) := by
  have hc : c.toNat % 128 < 128 := Nat.mod_lt _ (by decide)
  have e : 2 ^ (7 * (k + 1)) = 128 * 2 ^ (7 * k) := by rw [Nat.mul_add, Nat.mul_one, Nat.pow_add]; omega
  have h1 : u + c.toNat % 128 * 2 ^ (7 * k) < 2 ^ (7 * (k + 1)) := by
    rw [e]
    have : c.toNat % 128 * 2 ^ (7 * k) ≤ 127 * 2 ^ (7 * k) := Nat.mul_le_mul_right _ (by omega)
    omega
  rcases Nat.lt_or_ge k 9 with h | h
  · have h2 : (2 : Nat) ^ (7 * (k + 1)) ≤ 2 ^ 64 := Nat.pow_le_pow_right (by decide) (by omega)
    exact ⟨by omega, by omega, fun _ => h1⟩
  · have : k = 9 := by omega
    subst this
    have h3 := h9 rfl
    have h4 : c.toNat % 128 ≤ 1 := by omega
    have h5 : c.toNat % 128 * 2 ^ (7 * 9) ≤ 1 * 2 ^ (7 * 9) := Nat.mul_le_mul_right _ h4
    have h6 : (2 : Nat) ^ (7 * 9) + 2 ^ (7 * 9) = 2 ^ 64 := by decide
    exact ⟨by omega, by omega, fun h => by omega⟩
theorem next_u {k u : Nat} {c : UInt8} (hk : k ≤ 9) (h9 : k = 9 → c.toNat ≤ 1) (hu : u < 2 ^ (7 * k)) :
    bits .or .u64 (u : Int) (IntKind.u64.wrap (IntKind.u64.wrap (bits .and .u8 (c.toNat : Int) 127) * 2 ^ min (Int.toNat (IntKind.u64.wrap (7 * IntKind.u64.wrap (k : Int)))) IntKind.u64.bits)) = ((u + c.toNat % 128 * 2 ^ (7 * k) : Nat) : Int) := by
  have hc : c.toNat < 256 := c.toNat_lt
  obtain ⟨h1, h2, _⟩ := next_bound hk h9 hu
  have e1 : min (Int.toNat (IntKind.u64.wrap (7 * IntKind.u64.wrap (k : Int)))) IntKind.u64.bits = 7 * k := by
    rw [wrap_u64_of (n := (k : Int)) (by omega) (by omega), wrap_u64_of (by omega) (by omega)]
    show min _ 64 = _
    omega
  rw [and_127 (by omega) (by omega), e1, wrap_u64_of (n := (c.toNat : Int) % 128) (by omega) (by omega)]
  have e2 : ((c.toNat : Int) % 128) * 2 ^ (7 * k) = ((c.toNat % 128 * 2 ^ (7 * k) : Nat) : Int) := by
    rw [Int.natCast_mul, Int.natCast_pow]; rfl
  have h1' : ((c.toNat % 128 * 2 ^ (7 * k) : Nat) : Int) < 18446744073709551616 := by
    have h := Int.ofNat_lt.2 h1
    rwa [show ((2 ^ 64 : Nat) : Int) = 18446744073709551616 from rfl] at h
  rw [e2, wrap_u64_of (Int.natCast_nonneg _) h1']
  exact or_above (by omega) hu h1
theorem unzz_pos {u : Nat} (hu : u < 2 ^ 64) (h : u % 2 ≠ 1) : IntKind.i64.wrap (Int.fdiv (u : Int) (2 ^ min (Int.toNat 1) IntKind.u64.bits)) = unzz u := by
  rw [show (2 : Int) ^ min (Int.toNat 1) IntKind.u64.bits = 2 by decide, Int.fdiv_eq_ediv_of_nonneg _ (by decide), wrap_i64_of (by omega) (by omega)]
  unfold unzz; rw [if_neg h]; omega
theorem unzz_neg {u : Nat} (hu : u < 2 ^ 64) (h : u % 2 = 1) : bits .xor .i64 (if IntKind.i64.signed = true then -1 else IntKind.i64.max) (IntKind.i64.wrap (Int.fdiv (u : Int) (2 ^ min (Int.toNat 1) IntKind.u64.bits))) = unzz u := by
  rw [show (if IntKind.i64.signed = true then -1 else IntKind.i64.max) = (-1 : Int) by decide, show (2 : Int) ^ min (Int.toNat 1) IntKind.u64.bits = 2 by decide, Int.fdiv_eq_ediv_of_nonneg _ (by decide), wrap_i64_of (by omega) (by omega), xor_i64 (by omega) (by omega)]
  unfold unzz; rw [if_pos h]; omega
/-- codec.source.integer -/
theorem integer_meets (s : Sr) (hs : s.ok) : Meets Try.prog F_codec_source_integer ⟨[.c (.ptr 0 0)], [(0, sob s)], 1, vi s.int.1, [(0, sob s.int.2)], 1⟩ := by
  have hs : s.b.length ≤ 4611686018427387904 := hs
  by_cases he : s.e = 0
  · refine fits_codec_source_integer.meets rfl (by simp) fun Q hQ => ?_
    have hint : s.int = match decU 0 0 s.b with | .error x => (0, ⟨s.b, x⟩) | .ok (u, r) => (unzz u, ⟨r, 0⟩) := by unfold Sr.int; rw [if_pos he]; try rfl
    (conv => whnf); repeat' (first | (refine And.intro ?_ ?_; (focus (first | omega | (dsimp only; omega) | (simp only [List.length_append]; omega) | (simp [pb]; done) | (simp [pb]; omega) | (simp [zeros_u8, pb]; done) | (simp [zeros_u8, pb]; omega) | (simp [ByteArray.size]; omega) | exact Nat.le_of_ble_eq_true rfl | exact u64_nonneg _ | (show chkDraw _ _ = true; kernel_rfl) | (decide; done))); (conv => whnf)) | (refine onB_intro (fun hb => ?_) (fun hb => ?_) <;> (try simp only [decide_eq_true_eq, decide_eq_false_iff_not, Bool.not_eq_true', Bool.not_eq_false', Bool.and_eq_true, Bool.and_eq_false_iff, Int.not_le, Int.not_lt, bsz, ByteArray.toList_eq, beq_iff_eq, beq_eq_false_iff_ne, ne_eq] at hb) <;> (try (exfalso; omega)) <;> (try (exfalso; first | contradiction | (simp [ByteArray.toList_eq] at hb; done))) <;> (conv => whnf)) | (refine (hQ _ _ _ ?_).1; (conv => whnf)) | (refine ⟨_, rfl, ?_⟩; (conv => whnf)) | (refine ⟨_, mp_cut _ _ _, ?_⟩; (conv => whnf)) | (refine ⟨_, dbs_cut _ _ _, ?_⟩; (conv => whnf)) | (refine ⟨[_], rfl, ?_⟩; (conv => whnf)) | (refine ⟨[_, _], rfl, ?_⟩; (conv => whnf)) | (refine ⟨[_, _, _], rfl, ?_⟩; (conv => whnf)) | (refine ⟨[_, _, _, _], rfl, ?_⟩; (conv => whnf)) | fail)
    refine loop_fam (ι := Nat × Nat) (fun i => ⟨[(0, .c (.ptr 0 0)), (3, .c (.p (.v (.int .u64 i.2)))), (4, vi i.1)], [(0, sob s)], 1⟩) (fun i => 10 - i.1) (fun i => i.1 ≤ 9 ∧ i.1 ≤ s.b.length ∧ i.2 < 2 ^ (7 * i.1) ∧ decU i.1 i.2 (s.b.drop i.1) = decU 0 0 s.b) (0, 0)
      (wkn [] rfl rfl ⟨Sub.refl _, Sub.refl _, Sub.refl _, trivial⟩ ⟨rfl, trivial⟩) ⟨by omega, by omega, by decide, rfl⟩ ?_
    rintro ⟨k, u⟩ ⟨hk, hkl, hu, hdec⟩ K hK
    simp only at hk hkl hu hdec
    cases hd : s.b.drop k with
    | nil =>
      have hle : s.b.length ≤ k := List.drop_eq_nil_iff.1 hd
      rw [hd] at hdec
      rw [← hdec] at hint
      (conv => whnf); repeat' (first | (refine And.intro ?_ ?_; (focus (first | omega | (dsimp only; omega) | (simp only [List.length_append]; omega) | (simp [pb]; done) | (simp [pb]; omega) | (simp [zeros_u8, pb]; done) | (simp [zeros_u8, pb]; omega) | (simp [ByteArray.size]; omega) | exact Nat.le_of_ble_eq_true rfl | exact u64_nonneg _ | (show chkDraw _ _ = true; kernel_rfl) | (decide; done))); (conv => whnf)) | (refine onB_intro (fun hb => ?_) (fun hb => ?_) <;> (try simp only [decide_eq_true_eq, decide_eq_false_iff_not, Bool.not_eq_true', Bool.not_eq_false', Bool.and_eq_true, Bool.and_eq_false_iff, Int.not_le, Int.not_lt, bsz, ByteArray.toList_eq, beq_iff_eq, beq_eq_false_iff_ne, ne_eq] at hb) <;> (try (exfalso; omega)) <;> (try (exfalso; first | contradiction | (simp [ByteArray.toList_eq] at hb; done))) <;> (conv => whnf)) | (refine (hQ _ _ _ ?_).1; (conv => whnf)) | (refine ⟨_, rfl, ?_⟩; (conv => whnf)) | (refine ⟨_, mp_cut _ _ _, ?_⟩; (conv => whnf)) | (refine ⟨_, dbs_cut _ _ _, ?_⟩; (conv => whnf)) | (refine ⟨[_], rfl, ?_⟩; (conv => whnf)) | (refine ⟨[_, _], rfl, ?_⟩; (conv => whnf)) | (refine ⟨[_, _, _], rfl, ?_⟩; (conv => whnf)) | (refine ⟨[_, _, _, _], rfl, ?_⟩; (conv => whnf)) | (apply call_obj (fail_meets' s 100) (fun F => by first | exact rfl | exact bob_ren F _ | exact ob_ren F _ _) (fun F => by first | exact rfl | exact bob_ren F _ | exact ob_ren F _ _); (focus ((repeat' (first | exact trivial | exact Sub.refl _ | exact sub_nil | exact Or.inl rfl | exact Or.inr ⟨rfl, rfl⟩ | (refine sub_ref ?_; (first | omega | (simp; done) | (simp; omega))) | (refine sub_int ?_; (first | omega | rfl | (simp [bsz]; done))) | refine sub_tup ?_ | exact sub_agg_dbs_r | exact sub_agg_take_r rfl (by first | assumption | omega) | (refine sub_agg_take rfl ?_; (first | ((try rw [dbs_length]); assumption) | ((try rw [dbs_length]); omega))) | refine sub_agg ?_ | (refine sub_val ?_ ?_ <;> (first | omega | (simp [pb, List.map_take, List.map_drop, List.take_take]; done) | (simp [pb, List.map_take, List.map_drop]; omega) | (simp [pb, List.take_of_length_le]; done))) | (refine or_val ?_ ?_ <;> (first | omega | (simp [pb, List.map_take, List.map_drop, List.take_take]; done) | (simp [pb, List.map_take, List.map_drop]; omega) | (simp [pb, List.take_of_length_le]; done))) | refine And.intro ?_ ?_)); done)); (focus (first | exact rfl | exact hp_eq rfl (dbs_app _ _ _ rfl) | exact hp_eq rfl (dbs_appo _ _ _ _ rfl rfl) | (refine hp_eq rfl ?_; (simp only [bob, ← List.length_append, dbs_appo', dbs_app', bsz]; done)) | (refine hp_eq rfl ?_; (simp [dbs, pb]; done)))); (conv => whnf)) | fail)
      rw [hint]
      exact ret_obj rfl (Sub.refl _) rfl (by simp [Sr.fail, he, decU]) (fun F => rfl) (fun F => rfl)
    | cons c r =>
      have hc : s.b[k]? = some c := by have := congrArg List.head? hd; rwa [List.head?_drop] at this
      have hlt : k < s.b.length := (List.getElem?_eq_some_iff.1 hc).1
      have hr : r = s.b.drop (k + 1) := by have := congrArg List.tail hd; rw [List.tail_drop] at this; exact this.symm
      have hcb : c.toNat < 256 := c.toNat_lt
      rw [hd] at hdec
      by_cases hbad : (k = 9 ∧ 1 < c.toNat) ∨ (0 < k ∧ c.toNat = 0)
      · rw [decU_bad hbad] at hdec
        rw [← hdec] at hint
        (conv => whnf); repeat' (first | (refine And.intro ?_ ?_; (focus (first | omega | (dsimp only; omega) | (simp only [List.length_append]; omega) | (simp [pb]; done) | (simp [pb]; omega) | (simp [zeros_u8, pb]; done) | (simp [zeros_u8, pb]; omega) | (simp [ByteArray.size]; omega) | exact Nat.le_of_ble_eq_true rfl | exact u64_nonneg _ | (show chkDraw _ _ = true; kernel_rfl) | (decide; done))); (conv => whnf)) | (refine onB_intro (fun hb => ?_) (fun hb => ?_) <;> (try simp only [decide_eq_true_eq, decide_eq_false_iff_not, Bool.not_eq_true', Bool.not_eq_false', Bool.and_eq_true, Bool.and_eq_false_iff, Int.not_le, Int.not_lt, bsz, ByteArray.toList_eq, beq_iff_eq, beq_eq_false_iff_ne, ne_eq] at hb) <;> (try (exfalso; omega)) <;> (try (exfalso; first | contradiction | (simp [ByteArray.toList_eq] at hb; done))) <;> (conv => whnf)) | (refine (hQ _ _ _ ?_).1; (conv => whnf)) | (refine ⟨_, rfl, ?_⟩; (conv => whnf)) | (refine ⟨_, mp_cut _ _ _, ?_⟩; (conv => whnf)) | (refine ⟨_, dbs_cut _ _ _, ?_⟩; (conv => whnf)) | (refine ⟨[_], rfl, ?_⟩; (conv => whnf)) | (refine ⟨[_, _], rfl, ?_⟩; (conv => whnf)) | (refine ⟨[_, _, _], rfl, ?_⟩; (conv => whnf)) | (refine ⟨[_, _, _, _], rfl, ?_⟩; (conv => whnf)) | (apply call_obj (fail_meets' s 1) (fun F => by first | exact rfl | exact bob_ren F _ | exact ob_ren F _ _) (fun F => by first | exact rfl | exact bob_ren F _ | exact ob_ren F _ _); (focus ((repeat' (first | exact trivial | exact Sub.refl _ | exact sub_nil | exact Or.inl rfl | exact Or.inr ⟨rfl, rfl⟩ | (refine sub_ref ?_; (first | omega | (simp; done) | (simp; omega))) | (refine sub_int ?_; (first | omega | rfl | (simp [bsz]; done))) | refine sub_tup ?_ | exact sub_agg_dbs_r | exact sub_agg_take_r rfl (by first | assumption | omega) | (refine sub_agg_take rfl ?_; (first | ((try rw [dbs_length]); assumption) | ((try rw [dbs_length]); omega))) | refine sub_agg ?_ | (refine sub_val ?_ ?_ <;> (first | omega | (simp [pb, List.map_take, List.map_drop, List.take_take]; done) | (simp [pb, List.map_take, List.map_drop]; omega) | (simp [pb, List.take_of_length_le]; done))) | (refine or_val ?_ ?_ <;> (first | omega | (simp [pb, List.map_take, List.map_drop, List.take_take]; done) | (simp [pb, List.map_take, List.map_drop]; omega) | (simp [pb, List.take_of_length_le]; done))) | refine And.intro ?_ ?_)); done)); (focus (first | exact rfl | exact hp_eq rfl (dbs_app _ _ _ rfl) | exact hp_eq rfl (dbs_appo _ _ _ _ rfl rfl) | (refine hp_eq rfl ?_; (simp only [bob, ← List.length_append, dbs_appo', dbs_app', bsz]; done)) | (refine hp_eq rfl ?_; (simp [dbs, pb]; done)))); (conv => whnf)) | (simp only [elem_pb hc]; (conv => whnf)) | fail)
        all_goals rw [hint]
        all_goals exact ret_obj rfl (Sub.refl _) rfl (by simp [Sr.fail, he]) (fun F => rfl) (fun F => rfl)
      · have h9 : k = 9 → c.toNat ≤ 1 := by omega
        obtain ⟨n1, n2, n3⟩ := next_bound hk h9 hu
        by_cases hlast : c.toNat < 128
        · rw [decU_last hbad hlast] at hdec
          rw [← hdec] at hint
          (conv => whnf); repeat' (first | (refine And.intro ?_ ?_; (focus (first | omega | (dsimp only; omega) | (simp only [List.length_append]; omega) | (simp [pb]; done) | (simp [pb]; omega) | (simp [zeros_u8, pb]; done) | (simp [zeros_u8, pb]; omega) | (simp [ByteArray.size]; omega) | exact Nat.le_of_ble_eq_true rfl | exact u64_nonneg _ | (show chkDraw _ _ = true; kernel_rfl) | (decide; done))); (conv => whnf)) | (refine onB_intro (fun hb => ?_) (fun hb => ?_) <;> (try simp only [decide_eq_true_eq, decide_eq_false_iff_not, Bool.not_eq_true', Bool.not_eq_false', Bool.and_eq_true, Bool.and_eq_false_iff, Int.not_le, Int.not_lt, bsz, ByteArray.toList_eq, beq_iff_eq, beq_eq_false_iff_ne, ne_eq] at hb) <;> (try (exfalso; omega)) <;> (try (exfalso; first | contradiction | (simp [ByteArray.toList_eq] at hb; done))) <;> (conv => whnf)) | (refine (hQ _ _ _ ?_).1; (conv => whnf)) | (refine ⟨_, rfl, ?_⟩; (conv => whnf)) | (refine ⟨_, mp_cut _ _ _, ?_⟩; (conv => whnf)) | (refine ⟨_, dbs_cut _ _ _, ?_⟩; (conv => whnf)) | (refine ⟨[_], rfl, ?_⟩; (conv => whnf)) | (refine ⟨[_, _], rfl, ?_⟩; (conv => whnf)) | (refine ⟨[_, _, _], rfl, ?_⟩; (conv => whnf)) | (refine ⟨[_, _, _, _], rfl, ?_⟩; (conv => whnf)) | (simp only [elem_pb hc, next_u hk h9 hu]; (conv => whnf)) | fail)
          all_goals
            rw [hint]
            have hU : ((u + c.toNat % 128 * 2 ^ (7 * k) : Nat) : Int) < 18446744073709551616 := by
              have h := Int.ofNat_lt.2 n2
              rwa [show ((2 ^ 64 : Nat) : Int) = 18446744073709551616 from rfl] at h
            rw [next_u hk h9 hu, and_1 (Int.natCast_nonneg _) hU] at hb
            clear hint hdec
            generalize u + c.toNat % 128 * 2 ^ (7 * k) = U at hU hb n2 ⊢
            first
              | exact ret_obj rfl (sub_int (unzz_neg n2 (by omega))) rfl (ob2_eq (dv_val (by rw [hr]; simp; omega) (by rw [hr]; exact pb_rest _ k _ _ (by omega) (by omega))) (by rw [he])) (fun F => rfl) (fun F => rfl)
              | exact ret_obj rfl (sub_int (unzz_pos n2 (by omega))) rfl (ob2_eq (dv_val (by rw [hr]; simp; omega) (by rw [hr]; exact pb_rest _ k _ _ (by omega) (by omega))) (by rw [he])) (fun F => rfl) (fun F => rfl)
        · rw [decU_step hbad hlast] at hdec
          have hk9 : k ≠ 9 := by omega
          (conv => whnf); repeat' (first | (refine And.intro ?_ ?_; (focus (first | omega | (dsimp only; omega) | (simp only [List.length_append]; omega) | (simp [pb]; done) | (simp [pb]; omega) | (simp [zeros_u8, pb]; done) | (simp [zeros_u8, pb]; omega) | (simp [ByteArray.size]; omega) | exact Nat.le_of_ble_eq_true rfl | exact u64_nonneg _ | (show chkDraw _ _ = true; kernel_rfl) | (decide; done))); (conv => whnf)) | (refine onB_intro (fun hb => ?_) (fun hb => ?_) <;> (try simp only [decide_eq_true_eq, decide_eq_false_iff_not, Bool.not_eq_true', Bool.not_eq_false', Bool.and_eq_true, Bool.and_eq_false_iff, Int.not_le, Int.not_lt, bsz, ByteArray.toList_eq, beq_iff_eq, beq_eq_false_iff_ne, ne_eq] at hb) <;> (try (exfalso; omega)) <;> (try (exfalso; first | contradiction | (simp [ByteArray.toList_eq] at hb; done))) <;> (conv => whnf)) | (refine (hQ _ _ _ ?_).1; (conv => whnf)) | (refine ⟨_, rfl, ?_⟩; (conv => whnf)) | (refine ⟨_, mp_cut _ _ _, ?_⟩; (conv => whnf)) | (refine ⟨_, dbs_cut _ _ _, ?_⟩; (conv => whnf)) | (refine ⟨[_], rfl, ?_⟩; (conv => whnf)) | (refine ⟨[_, _], rfl, ?_⟩; (conv => whnf)) | (refine ⟨[_, _, _], rfl, ?_⟩; (conv => whnf)) | (refine ⟨[_, _, _, _], rfl, ?_⟩; (conv => whnf)) | (simp only [elem_pb hc]; (conv => whnf)) | fail)
          all_goals refine hK _ _ _ (k + 1, u + c.toNat % 128 * 2 ^ (7 * k)) ⟨by dsimp only; omega, by dsimp only; omega, n3 (by omega), by dsimp only; rw [← hr]; exact hdec⟩ (by dsimp only; omega) (wkn [] rfl rfl ⟨Sub.refl _, sub_int (next_u hk h9 hu), sub_int (by dsimp only; omega), trivial⟩ ⟨rfl, trivial⟩)
  · have hint : s.int = (0, s) := by unfold Sr.int; rw [if_neg he]
    rw [hint]
    refine fits_codec_source_integer.meets rfl (by simp) fun Q hQ => ?_
    (conv => whnf); repeat' (first | (refine And.intro ?_ ?_; (focus (first | omega | (dsimp only; omega) | (simp only [List.length_append]; omega) | (simp [pb]; done) | (simp [pb]; omega) | (simp [zeros_u8, pb]; done) | (simp [zeros_u8, pb]; omega) | (simp [ByteArray.size]; omega) | exact Nat.le_of_ble_eq_true rfl | exact u64_nonneg _ | (show chkDraw _ _ = true; kernel_rfl) | (decide; done))); (conv => whnf)) | (refine onB_intro (fun hb => ?_) (fun hb => ?_) <;> (try simp only [decide_eq_true_eq, decide_eq_false_iff_not, Bool.not_eq_true', Bool.not_eq_false', Bool.and_eq_true, Bool.and_eq_false_iff, Int.not_le, Int.not_lt, bsz, ByteArray.toList_eq, beq_iff_eq, beq_eq_false_iff_ne, ne_eq] at hb) <;> (try (exfalso; omega)) <;> (try (exfalso; first | contradiction | (simp [ByteArray.toList_eq] at hb; done))) <;> (conv => whnf)) | (refine (hQ _ _ _ ?_).1; (conv => whnf)) | (refine ⟨_, rfl, ?_⟩; (conv => whnf)) | (refine ⟨_, mp_cut _ _ _, ?_⟩; (conv => whnf)) | (refine ⟨_, dbs_cut _ _ _, ?_⟩; (conv => whnf)) | (refine ⟨[_], rfl, ?_⟩; (conv => whnf)) | (refine ⟨[_, _], rfl, ?_⟩; (conv => whnf)) | (refine ⟨[_, _, _], rfl, ?_⟩; (conv => whnf)) | (refine ⟨[_, _, _, _], rfl, ?_⟩; (conv => whnf)) | fail)
    refine loop_fam (ι := Unit) (fun i => ⟨[(0, .c (.ptr 0 0)), (3, .c (.p (.v (.int .u64 0)))), (4, vi 0)], [(0, sob s)], 1⟩) (fun i => 0) (fun i => True) ()
      (wkn [] rfl rfl ⟨Sub.refl _, Sub.refl _, Sub.refl _, trivial⟩ ⟨rfl, trivial⟩) trivial ?_
    intro i _ K hK
    (conv => whnf); repeat' (first | (refine And.intro ?_ ?_; (focus (first | omega | (dsimp only; omega) | (simp only [List.length_append]; omega) | (simp [pb]; done) | (simp [pb]; omega) | (simp [zeros_u8, pb]; done) | (simp [zeros_u8, pb]; omega) | (simp [ByteArray.size]; omega) | exact Nat.le_of_ble_eq_true rfl | exact u64_nonneg _ | (show chkDraw _ _ = true; kernel_rfl) | (decide; done))); (conv => whnf)) | (refine onB_intro (fun hb => ?_) (fun hb => ?_) <;> (try simp only [decide_eq_true_eq, decide_eq_false_iff_not, Bool.not_eq_true', Bool.not_eq_false', Bool.and_eq_true, Bool.and_eq_false_iff, Int.not_le, Int.not_lt, bsz, ByteArray.toList_eq, beq_iff_eq, beq_eq_false_iff_ne, ne_eq] at hb) <;> (try (exfalso; omega)) <;> (try (exfalso; first | contradiction | (simp [ByteArray.toList_eq] at hb; done))) <;> (conv => whnf)) | (refine (hQ _ _ _ ?_).1; (conv => whnf)) | (refine ⟨_, rfl, ?_⟩; (conv => whnf)) | (refine ⟨_, mp_cut _ _ _, ?_⟩; (conv => whnf)) | (refine ⟨_, dbs_cut _ _ _, ?_⟩; (conv => whnf)) | (refine ⟨[_], rfl, ?_⟩; (conv => whnf)) | (refine ⟨[_, _], rfl, ?_⟩; (conv => whnf)) | (refine ⟨[_, _, _], rfl, ?_⟩; (conv => whnf)) | (refine ⟨[_, _, _, _], rfl, ?_⟩; (conv => whnf)) | fail)
    exact ret_obj rfl (Sub.refl _) rfl rfl (fun F => rfl) (fun F => rfl)
end Go.Proofs.Ytjieenfbfckafaa.Am
namespace Go.Proofs.Ytjieenfbfckafaa.Am
open Go
set_option linter.unusedVariables false
set_option linter.unusedSimpArgs false
set_option maxRecDepth 100000
def r_erasurelaw26CodecRecords_0 : ACode := .reg [
    ⟨some 2, none, .box 95 (.t 0)⟩,
    ⟨some 4, none, .mov (.k (.bool false))⟩] none [1, 2]
def r_erasurelaw26CodecRecords_1 : ACode := .reg [
    ⟨some 12, none, .fld 0 (.t 2)⟩,
    ⟨some 13, none, .load none (.t 12)⟩,
    ⟨some 14, none, .call 37 [(.t 13)]⟩,
    ⟨some 15, none, .un .not (.t 14)⟩,
    ⟨some 16, none, .mov (.t 15)⟩,
    ⟨some 17, (some (16, false)), .fld 1 (.t 2)⟩,
    ⟨some 18, (some (16, false)), .load none (.t 17)⟩,
    ⟨some 19, (some (16, false)), .len (.t 18)⟩,
    ⟨some 20, (some (16, false)), .bin .gtr (.t 19) (.k (.int .i64 (40)))⟩,
    ⟨some 21, none, .pick (.t 16) (.k (.bool true)) (.t 20)⟩,
    ⟨some 22, none, .mov (.t 21)⟩,
    ⟨some 23, (some (22, false)), .mov (.t 1)⟩,
    ⟨some 24, (some (22, false)), .len (.t 23)⟩,
    ⟨some 25, (some (22, false)), .bin .gtr (.t 24) (.k (.int .i64 (100)))⟩,
    ⟨some 26, none, .pick (.t 22) (.k (.bool true)) (.t 25)⟩] none [1, 2, 26]
def r_erasurelaw26CodecRecords_2 : ACode := .reg [
    ⟨some 27, none, .call 18 []⟩,
    ⟨some 4, none, .mov (.t 27)⟩] none [4]
def r_erasurelaw26CodecRecords_3 : ACode := .reg [
    ⟨some 28, none, .fld 0 (.t 2)⟩,
    ⟨some 29, none, .load none (.t 28)⟩,
    ⟨some 30, none, .call 46 [(.t 29)]⟩,
    ⟨some 31, none, .fld 2 (.t 2)⟩,
    ⟨some 32, none, .load none (.t 31)⟩,
    ⟨some 33, none, .build [.slice none 0 0, .slice none 0 0, .int .i64 0] [(0, 1, (.t 30)), (2, 1, (.t 32))]⟩,
    ⟨some 5, none, .alloc 95 [.slice none 0 0, .slice none 0 0, .int .i64 0]⟩,
    ⟨none, none, .store 3 (.t 5) (.t 33)⟩] (some [0, 1, 3, 0, 8, 31, 0, 127]) [1, 2, 5]
def r_erasurelaw26CodecRecords_4 : ACode := .reg [
    ⟨some 6, none, .mov (.k (.int .i64 (0)))⟩] none [1, 2, 5, 6]
def r_erasurelaw26CodecRecords_5 : ACode := .reg [
    ⟨some 34, none, .mov (.t 6)⟩,
    ⟨some 35, none, .fld 0 (.t 2)⟩,
    ⟨some 36, none, .load none (.t 35)⟩,
    ⟨some 37, none, .len (.t 36)⟩,
    ⟨some 38, none, .bin .lss (.t 34) (.t 37)⟩] none [1, 2, 5, 6, 38]
def r_erasurelaw26CodecRecords_6 : ACode := .reg [
    ⟨some 7, none, .mov (.k (.int .i64 (0)))⟩] none [1, 2, 5, 6, 7]
def r_erasurelaw26CodecRecords_7 : ACode := .reg [
    ⟨some 41, none, .mov (.t 6)⟩,
    ⟨some 42, none, .fld 1 (.t 2)⟩,
    ⟨some 43, none, .load none (.t 42)⟩,
    ⟨some 44, none, .len (.t 43)⟩,
    ⟨some 45, none, .bin .lss (.t 41) (.t 44)⟩] none [1, 2, 5, 6, 7, 45]
def r_erasurelaw26CodecRecords_8 : ACode := .reg [
    ⟨some 46, none, .fld 1 (.t 2)⟩,
    ⟨some 47, none, .load none (.t 46)⟩,
    ⟨some 48, none, .mov (.t 6)⟩,
    ⟨some 49, none, .idxa 1 (.t 47) (.t 48)⟩,
    ⟨some 50, none, .load none (.t 49)⟩,
    ⟨some 7, none, .mov (.t 50)⟩] none [1, 2, 5, 6, 7]
def r_erasurelaw26CodecRecords_9 : ACode := .reg [
    ⟨some 51, none, .fld 1 (.t 5)⟩,
    ⟨some 52, none, .load none (.t 51)⟩,
    ⟨some 53, none, .mov (.t 7)⟩,
    ⟨some 54, none, .lit 3 1 1 [.int .i64 0] [(0, (.t 53))] false⟩,
    ⟨some 55, none, .app 3 1 8 (.t 52) (.t 54)⟩,
    ⟨some 56, none, .fld 1 (.t 5)⟩,
    ⟨none, none, .store 1 (.t 56) (.t 55)⟩] none [1, 2, 5, 6]
def r_erasurelaw26CodecRecords_10 : ACode := .reg [
    ⟨some 39, none, .mov (.t 6)⟩,
    ⟨some 40, none, .bin .add (.t 39) (.k (.int .i64 (1)))⟩,
    ⟨some 6, none, .mov (.t 40)⟩] none [1, 2, 5, 6]
def r_erasurelaw26CodecRecords_11 : ACode := .reg [
    ⟨some 57, none, .load (some 3) (.t 2)⟩,
    ⟨some 58, none, .call 55 [(.k (.slice none 0 0)), (.t 57)]⟩,
    ⟨some 8, none, .mov (.t 58)⟩] none [1, 2, 5, 8]
def r_erasurelaw26CodecRecords_12 : ACode := .reg [
    ⟨some 60, none, .mov (.t 8)⟩,
    ⟨some 61, none, .mov (.t 1)⟩,
    ⟨some 62, none, .call 21 [(.t 60), (.t 61)]⟩,
    ⟨some 63, none, .call 56 [(.t 62)]⟩,
    ⟨some 59, none, .mov (.t 63)⟩,
    ⟨some 64, none, .ext 0 (.t 59)⟩,
    ⟨some 65, none, .ext 1 (.t 59)⟩,
    ⟨some 66, none, .ext 2 (.t 59)⟩,
    ⟨some 9, none, .alloc 95 [.slice none 0 0, .slice none 0 0, .int .i64 0]⟩,
    ⟨none, none, .store 3 (.t 9) (.t 64)⟩,
    ⟨some 10, none, .mov (.t 65)⟩,
    ⟨some 11, none, .mov (.t 66)⟩] none [1, 2, 5, 8, 9, 10, 11]
def r_erasurelaw26CodecRecords_13 : ACode := .reg [
    ⟨some 67, none, .mov (.t 8)⟩,
    ⟨some 68, none, .tostr (.t 67)⟩,
    ⟨some 69, none, .load (some 3) (.t 2)⟩,
    ⟨some 70, none, .call 57 [(.t 69)]⟩,
    ⟨some 71, none, .tostr (.t 70)⟩,
    ⟨some 72, none, .bin .eql (.t 68) (.t 71)⟩,
    ⟨some 73, none, .mov (.t 72)⟩,
    ⟨some 74, (some (73, true)), .mov (.t 11)⟩,
    ⟨some 75, (some (73, true)), .bin .eql (.t 74) (.k (.int .i64 (0)))⟩,
    ⟨some 76, none, .pick (.t 73) (.t 75) (.k (.bool false))⟩,
    ⟨some 77, none, .mov (.t 76)⟩,
    ⟨some 78, (some (77, true)), .load (some 3) (.t 9)⟩,
    ⟨some 79, (some (77, true)), .load (some 3) (.t 5)⟩,
    ⟨some 80, (some (77, true)), .call 58 [(.t 78), (.t 79)]⟩,
    ⟨some 81, none, .pick (.t 77) (.t 80) (.k (.bool false))⟩,
    ⟨some 82, none, .mov (.t 81)⟩,
    ⟨some 83, (some (82, true)), .mov (.t 10)⟩,
    ⟨some 84, (some (82, true)), .tostr (.t 83)⟩,
    ⟨some 85, (some (82, true)), .mov (.t 1)⟩,
    ⟨some 86, (some (82, true)), .tostr (.t 85)⟩,
    ⟨some 87, (some (82, true)), .bin .eql (.t 84) (.t 86)⟩,
    ⟨some 88, none, .pick (.t 82) (.t 87) (.k (.bool false))⟩,
    ⟨some 89, none, .mov (.t 88)⟩,
    ⟨some 90, (some (89, true)), .call 18 []⟩,
    ⟨some 91, none, .pick (.t 89) (.t 90) (.k (.bool false))⟩,
    ⟨some 4, none, .mov (.t 91)⟩] (some [0, 1, 0, 4, 12, 31, 63, 127, 255, 511, 1023, 2047, 2047, 8191, 16383, 32767, 65535, 131071, 65535, 327679, 1048575, 2097151, 4194303, 8388607, 16777215, 33554431]) [4]
def c_erasurelaw26CodecRecords : ACode :=
  (.seq r_erasurelaw26CodecRecords_0
  (.seq (.seq r_erasurelaw26CodecRecords_1
    (.cond (.t 26)
     (.seq r_erasurelaw26CodecRecords_2
      .ret)
     .skip))
   (.seq r_erasurelaw26CodecRecords_3
    (.seq (.seq r_erasurelaw26CodecRecords_4
      (.block 0 (.loop (.seq (.seq r_erasurelaw26CodecRecords_5
          (.cond (.t 38)
           .skip
           (.exit 0)))
         (.seq (.block 1 (.seq r_erasurelaw26CodecRecords_6
            (.seq (.seq r_erasurelaw26CodecRecords_7
              (.cond (.t 45)
               r_erasurelaw26CodecRecords_8
               .skip))
             r_erasurelaw26CodecRecords_9)))
          r_erasurelaw26CodecRecords_10)))))
     (.seq r_erasurelaw26CodecRecords_11
      (.seq r_erasurelaw26CodecRecords_12
       (.seq r_erasurelaw26CodecRecords_13
        .ret)))))))
theorem fits_erasurelaw26CodecRecords : Fits Try.prog 12 92 c_erasurelaw26CodecRecords [.t 4] := ⟨⟨Try.f12, _, _, Try.func12, rfl, rfl, rfl, by decide, by kernel_rfl, by kernel_rfl⟩, Try.checked.mixed⟩
def r_erasurelaw26awake_0 : ACode := .reg [
    ⟨some 0, none, .mov (.k (.bool false))⟩] none []
def r_erasurelaw26awake_1 : ACode := .reg [
    ⟨some 11, none, .lit 5 1 2 [.int .u8 0] [(0, (.k (.int .u8 (128)))), (1, (.k (.int .u8 (0))))] false⟩,
    ⟨some 12, none, .call 20 [(.t 11)]⟩,
    ⟨some 10, none, .mov (.t 12)⟩,
    ⟨some 13, none, .ext 0 (.t 10)⟩,
    ⟨some 14, none, .ext 1 (.t 10)⟩,
    ⟨some 15, none, .ext 2 (.t 10)⟩,
    ⟨some 1, none, .mov (.t 13)⟩,
    ⟨some 2, none, .mov (.t 14)⟩,
    ⟨some 3, none, .mov (.t 15)⟩] none [3]
def r_erasurelaw26awake_2 : ACode := .reg [
    ⟨some 17, none, .lit 5 1 1 [.int .u8 0] [(0, (.k (.int .u8 (128))))] false⟩,
    ⟨some 18, none, .call 20 [(.t 17)]⟩,
    ⟨some 16, none, .mov (.t 18)⟩,
    ⟨some 19, none, .ext 0 (.t 16)⟩,
    ⟨some 20, none, .ext 1 (.t 16)⟩,
    ⟨some 21, none, .ext 2 (.t 16)⟩,
    ⟨some 4, none, .mov (.t 19)⟩,
    ⟨some 5, none, .mov (.t 20)⟩,
    ⟨some 6, none, .mov (.t 21)⟩] none [3, 6]
def r_erasurelaw26awake_3 : ACode := .reg [
    ⟨some 23, none, .lit 5 1 3 [.int .u8 0] [(0, (.k (.int .u8 (128)))), (1, (.k (.int .u8 (1)))), (2, (.k (.int .u8 (7))))] false⟩,
    ⟨some 24, none, .call 20 [(.t 23)]⟩,
    ⟨some 22, none, .mov (.t 24)⟩,
    ⟨some 25, none, .ext 0 (.t 22)⟩,
    ⟨some 26, none, .ext 1 (.t 22)⟩,
    ⟨some 27, none, .ext 2 (.t 22)⟩,
    ⟨some 7, none, .mov (.t 25)⟩,
    ⟨some 8, none, .mov (.t 26)⟩,
    ⟨some 9, none, .mov (.t 27)⟩] none [3, 6, 7, 8, 9]
def r_erasurelaw26awake_4 : ACode := .reg [
    ⟨some 28, none, .call 19 [(.k (.slice none 0 0)), (.k (.int .i64 (-1)))]⟩,
    ⟨some 29, none, .tostr (.t 28)⟩,
    ⟨some 30, none, .bin .eql (.t 29) (.k (.string { data := #[1] }))⟩,
    ⟨some 31, none, .mov (.t 30)⟩,
    ⟨some 32, (some (31, true)), .mov (.t 3)⟩,
    ⟨some 33, (some (31, true)), .bin .eql (.t 32) (.k (.int .i64 (1)))⟩,
    ⟨some 34, none, .pick (.t 31) (.t 33) (.k (.bool false))⟩,
    ⟨some 35, none, .mov (.t 34)⟩,
    ⟨some 36, (some (35, true)), .mov (.t 6)⟩,
    ⟨some 37, (some (35, true)), .bin .eql (.t 36) (.k (.int .i64 (100)))⟩,
    ⟨some 38, none, .pick (.t 35) (.t 37) (.k (.bool false))⟩,
    ⟨some 39, none, .mov (.t 38)⟩,
    ⟨some 40, (some (39, true)), .mov (.t 9)⟩,
    ⟨some 41, (some (39, true)), .bin .eql (.t 40) (.k (.int .i64 (0)))⟩,
    ⟨some 42, none, .pick (.t 39) (.t 41) (.k (.bool false))⟩,
    ⟨some 43, none, .mov (.t 42)⟩,
    ⟨some 44, (some (43, true)), .mov (.t 7)⟩,
    ⟨some 45, (some (43, true)), .bin .eql (.t 44) (.k (.int .i64 (64)))⟩,
    ⟨some 46, none, .pick (.t 43) (.t 45) (.k (.bool false))⟩,
    ⟨some 47, none, .mov (.t 46)⟩,
    ⟨some 48, (some (47, true)), .mov (.t 8)⟩,
    ⟨some 49, (some (47, true)), .len (.t 48)⟩,
    ⟨some 50, (some (47, true)), .bin .eql (.t 49) (.k (.int .i64 (1)))⟩,
    ⟨some 51, none, .pick (.t 47) (.t 50) (.k (.bool false))⟩,
    ⟨some 0, none, .mov (.t 51)⟩] none [0]
def c_erasurelaw26awake : ACode :=
  (.seq r_erasurelaw26awake_0
  (.seq r_erasurelaw26awake_1
   (.seq r_erasurelaw26awake_2
    (.seq r_erasurelaw26awake_3
     (.seq r_erasurelaw26awake_4
      .ret)))))
theorem fits_erasurelaw26awake : Fits Try.prog 18 52 c_erasurelaw26awake [.t 0] := ⟨⟨Try.f18, _, _, Try.func18, rfl, rfl, rfl, by decide, by kernel_rfl, by kernel_rfl⟩, Try.checked.mixed⟩
def r_erasurelaw26join_0 : ACode := .reg [
    ⟨some 4, none, .mov (.k (.slice none 0 0))⟩] none [0, 1]
def r_erasurelaw26join_1 : ACode := .reg [
    ⟨some 5, none, .lit 5 1 0 [.int .u8 0] [] true⟩,
    ⟨some 6, none, .mov (.t 0)⟩,
    ⟨some 7, none, .app 5 1 1 (.t 5) (.t 6)⟩,
    ⟨some 8, none, .mov (.t 1)⟩,
    ⟨some 9, none, .app 5 1 1 (.t 7) (.t 8)⟩,
    ⟨some 4, none, .mov (.t 9)⟩] none [4]
def c_erasurelaw26join : ACode :=
  (.seq r_erasurelaw26join_0
  (.seq r_erasurelaw26join_1
   .ret))
theorem fits_erasurelaw26join : Fits Try.prog 21 10 c_erasurelaw26join [.t 4] := ⟨⟨Try.f21, _, _, Try.func21, rfl, rfl, rfl, by decide, by kernel_rfl, by kernel_rfl⟩, Try.checked.mixed⟩
def r_erasurelaw26short_0 : ACode := .reg [
    ⟨some 2, none, .mov (.k (.bool false))⟩] none [0]
def r_erasurelaw26short_1 : ACode := .reg [
    ⟨some 3, none, .mov (.t 0)⟩,
    ⟨some 4, none, .len (.t 3)⟩,
    ⟨some 5, none, .bin .leq (.t 4) (.k (.int .i64 (16)))⟩,
    ⟨some 2, none, .mov (.t 5)⟩] none [2]
def c_erasurelaw26short : ACode :=
  (.seq r_erasurelaw26short_0
  (.seq r_erasurelaw26short_1
   .ret))
theorem fits_erasurelaw26short : Fits Try.prog 37 6 c_erasurelaw26short [.t 2] := ⟨⟨Try.f37, _, _, Try.func37, rfl, rfl, rfl, by decide, by kernel_rfl, by kernel_rfl⟩, Try.checked.mixed⟩
end Go.Proofs.Ytjieenfbfckafaa.Am
namespace Go.Proofs.Ytjieenfbfckafaa.Am
open Go
set_option linter.unusedVariables false
set_option linter.unusedSimpArgs false
set_option maxRecDepth 100000
set_option maxHeartbeats 1000000
/-- codec.source.rest -/
theorem rest_meets (s : Sr) (hs : s.b.length ≤ 70368744177664) : Meets Try.prog F_codec_source_rest ⟨[.c (.ptr 0 0)], [(0, sob s)], 1, .c (bs s.b), [(0, sob s)], 1⟩ := by
  refine fits_codec_source_rest.meets rfl (by simp) fun Q hQ => ?_
  (conv => whnf); repeat' (first | (refine And.intro ?_ ?_; (focus (first | omega | (dsimp only; omega) | (simp only [List.length_append]; omega) | (simp [pb]; done) | (simp [pb]; omega) | (simp [zeros_u8, pb]; done) | (simp [zeros_u8, pb]; omega) | (simp [ByteArray.size]; omega) | exact Nat.le_of_ble_eq_true rfl | exact u64_nonneg _ | (show chkDraw _ _ = true; kernel_rfl) | (decide; done))); (conv => whnf)) | (refine onB_intro (fun hb => ?_) (fun hb => ?_) <;> (try simp only [decide_eq_true_eq, decide_eq_false_iff_not, Bool.not_eq_true', Bool.not_eq_false', Bool.and_eq_true, Bool.and_eq_false_iff, Int.not_le, Int.not_lt, bsz, ByteArray.toList_eq, beq_iff_eq, beq_eq_false_iff_ne, ne_eq] at hb) <;> (try (exfalso; omega)) <;> (try (exfalso; first | contradiction | (simp [ByteArray.toList_eq] at hb; done))) <;> (conv => whnf)) | (refine (hQ _ _ _ ?_).1; (conv => whnf)) | (refine ⟨_, rfl, ?_⟩; (conv => whnf)) | (refine ⟨_, mp_cut _ _ _, ?_⟩; (conv => whnf)) | (refine ⟨_, dbs_cut _ _ _, ?_⟩; (conv => whnf)) | (refine ⟨[_], rfl, ?_⟩; (conv => whnf)) | (refine ⟨[_, _], rfl, ?_⟩; (conv => whnf)) | (refine ⟨[_, _, _], rfl, ?_⟩; (conv => whnf)) | (refine ⟨[_, _, _, _], rfl, ?_⟩; (conv => whnf)) | fail)
  refine RetOk.freeze 1 T_u8 (pb s.b) rfl ?_
  exact ret_obj rfl (sub_val rfl (by rw [List.drop_zero, List.take_of_length_le (by simp [pb])])) rfl rfl (fun F => rfl) (fun F => rfl)
def readInt (b : List UInt8) : Int × List UInt8 × Int := if (Sr.int ⟨b, 0⟩).2.e = 0 then ((Sr.int ⟨b, 0⟩).1, (Sr.int ⟨b, 0⟩).2.b, 0) else (0, [], (Sr.int ⟨b, 0⟩).2.e)
theorem decU_len : ∀ (b : List UInt8) (i u : Nat) {v : Nat} {r : List UInt8}, decU i u b = .ok (v, r) → r.length ≤ b.length
  | [], i, u, v, r, h => by simp [decU] at h
  | c :: l, i, u, v, r, h => by
    rw [decU] at h
    split at h
    · cases h
    · split at h
      · cases h; simp
      · have := decU_len l _ _ h; simp; omega
theorem Sr.int_len (s : Sr) : s.int.2.b.length ≤ s.b.length := by
  unfold Sr.int
  split
  · split
    · exact Nat.le_refl _
    · rename_i h; exact decU_len _ _ _ h
  · exact Nat.le_refl _
/-- codec.ReadInt -/
theorem readInt_meets (b : List UInt8) (hb : b.length ≤ 70368744177664) : Meets Try.prog F_codec_ReadInt ⟨[.c (bs b)], [], 0, .tup [vi (readInt b).1, .c (bs (readInt b).2.1), vi (readInt b).2.2], [], 0⟩ := by
  have hl := Sr.int_len ⟨b, 0⟩
  have m := integer_meets ⟨b, 0⟩ (by show b.length ≤ _; omega)
  unfold readInt
  generalize Sr.int ⟨b, 0⟩ = x at m hl ⊢
  obtain ⟨n, s⟩ := x
  simp only at hl m ⊢
  refine fits_codec_ReadInt.meets rfl (by simp) fun Q hQ => ?_
  (conv => whnf); repeat' (first | (refine And.intro ?_ ?_; (focus (first | omega | (dsimp only; omega) | (simp only [List.length_append]; omega) | (simp [pb]; done) | (simp [pb]; omega) | (simp [zeros_u8, pb]; done) | (simp [zeros_u8, pb]; omega) | (simp [ByteArray.size]; omega) | exact Nat.le_of_ble_eq_true rfl | exact u64_nonneg _ | (show chkDraw _ _ = true; kernel_rfl) | (decide; done))); (conv => whnf)) | (refine onB_intro (fun hb => ?_) (fun hb => ?_) <;> (try simp only [decide_eq_true_eq, decide_eq_false_iff_not, Bool.not_eq_true', Bool.not_eq_false', Bool.and_eq_true, Bool.and_eq_false_iff, Int.not_le, Int.not_lt, bsz, ByteArray.toList_eq, beq_iff_eq, beq_eq_false_iff_ne, ne_eq] at hb) <;> (try (exfalso; omega)) <;> (try (exfalso; first | contradiction | (simp [ByteArray.toList_eq] at hb; done))) <;> (conv => whnf)) | (refine (hQ _ _ _ ?_).1; (conv => whnf)) | (refine ⟨_, rfl, ?_⟩; (conv => whnf)) | (refine ⟨_, mp_cut _ _ _, ?_⟩; (conv => whnf)) | (refine ⟨_, dbs_cut _ _ _, ?_⟩; (conv => whnf)) | (refine ⟨[_], rfl, ?_⟩; (conv => whnf)) | (refine ⟨[_, _], rfl, ?_⟩; (conv => whnf)) | (refine ⟨[_, _, _], rfl, ?_⟩; (conv => whnf)) | (refine ⟨[_, _, _, _], rfl, ?_⟩; (conv => whnf)) | (apply call_obj (m) (fun F => by first | exact rfl | exact bob_ren F _ | exact ob_ren F _ _) (fun F => by first | exact rfl | exact bob_ren F _ | exact ob_ren F _ _); (focus ((repeat' (first | exact trivial | exact Sub.refl _ | exact sub_nil | exact Or.inl rfl | exact Or.inr ⟨rfl, rfl⟩ | (refine sub_ref ?_; (first | omega | (simp; done) | (simp; omega))) | (refine sub_int ?_; (first | omega | rfl | (simp [bsz]; done))) | refine sub_tup ?_ | exact sub_agg_dbs_r | exact sub_agg_take_r rfl (by first | assumption | omega) | (refine sub_agg_take rfl ?_; (first | ((try rw [dbs_length]); assumption) | ((try rw [dbs_length]); omega))) | refine sub_agg ?_ | (refine sub_val ?_ ?_ <;> (first | omega | (simp [pb, List.map_take, List.map_drop, List.take_take]; done) | (simp [pb, List.map_take, List.map_drop]; omega) | (simp [pb, List.take_of_length_le]; done))) | (refine or_val ?_ ?_ <;> (first | omega | (simp [pb, List.map_take, List.map_drop, List.take_take]; done) | (simp [pb, List.map_take, List.map_drop]; omega) | (simp [pb, List.take_of_length_le]; done))) | refine And.intro ?_ ?_)); done)); (focus (first | exact rfl | exact hp_eq rfl (dbs_app _ _ _ rfl) | exact hp_eq rfl (dbs_appo _ _ _ _ rfl rfl) | (refine hp_eq rfl ?_; (simp only [bob, ← List.length_append, dbs_appo', dbs_app', bsz]; done)) | (refine hp_eq rfl ?_; (simp [dbs, pb]; done)))); (conv => whnf)) | (apply call_obj (rest_meets s (by omega)) (fun F => by first | exact rfl | exact bob_ren F _ | exact ob_ren F _ _) (fun F => by first | exact rfl | exact bob_ren F _ | exact ob_ren F _ _); (focus ((repeat' (first | exact trivial | exact Sub.refl _ | exact sub_nil | exact Or.inl rfl | exact Or.inr ⟨rfl, rfl⟩ | (refine sub_ref ?_; (first | omega | (simp; done) | (simp; omega))) | (refine sub_int ?_; (first | omega | rfl | (simp [bsz]; done))) | refine sub_tup ?_ | exact sub_agg_dbs_r | exact sub_agg_take_r rfl (by first | assumption | omega) | (refine sub_agg_take rfl ?_; (first | ((try rw [dbs_length]); assumption) | ((try rw [dbs_length]); omega))) | refine sub_agg ?_ | (refine sub_val ?_ ?_ <;> (first | omega | (simp [pb, List.map_take, List.map_drop, List.take_take]; done) | (simp [pb, List.map_take, List.map_drop]; omega) | (simp [pb, List.take_of_length_le]; done))) | (refine or_val ?_ ?_ <;> (first | omega | (simp [pb, List.map_take, List.map_drop, List.take_take]; done) | (simp [pb, List.map_take, List.map_drop]; omega) | (simp [pb, List.take_of_length_le]; done))) | refine And.intro ?_ ?_)); done)); (focus (first | exact rfl | exact hp_eq rfl (dbs_app _ _ _ rfl) | exact hp_eq rfl (dbs_appo _ _ _ _ rfl rfl) | (refine hp_eq rfl ?_; (simp only [bob, ← List.length_append, dbs_appo', dbs_app', bsz]; done)) | (refine hp_eq rfl ?_; (simp [dbs, pb]; done)))); (conv => whnf)) | fail)
  all_goals
    refine RetOk.pure' (fun f => rfl) ?_
    first
      | (rw [if_pos hb]; ((repeat' (first | exact trivial | exact Sub.refl _ | exact sub_nil | exact Or.inl rfl | exact Or.inr ⟨rfl, rfl⟩ | (refine sub_ref ?_; (first | omega | (simp; done) | (simp; omega))) | (refine sub_int ?_; (first | omega | rfl | (simp [bsz]; done))) | refine sub_tup ?_ | exact sub_agg_dbs_r | exact sub_agg_take_r rfl (by first | assumption | omega) | (refine sub_agg_take rfl ?_; (first | ((try rw [dbs_length]); assumption) | ((try rw [dbs_length]); omega))) | refine sub_agg ?_ | (refine sub_val ?_ ?_ <;> (first | omega | (simp [pb, List.map_take, List.map_drop, List.take_take]; done) | (simp [pb, List.map_take, List.map_drop]; omega) | (simp [pb, List.take_of_length_le]; done))) | (refine or_val ?_ ?_ <;> (first | omega | (simp [pb, List.map_take, List.map_drop, List.take_take]; done) | (simp [pb, List.map_take, List.map_drop]; omega) | (simp [pb, List.take_of_length_le]; done))) | refine And.intro ?_ ?_)); done))
      | (rw [if_neg hb]; ((repeat' (first | exact trivial | exact Sub.refl _ | exact sub_nil | exact Or.inl rfl | exact Or.inr ⟨rfl, rfl⟩ | (refine sub_ref ?_; (first | omega | (simp; done) | (simp; omega))) | (refine sub_int ?_; (first | omega | rfl | (simp [bsz]; done))) | refine sub_tup ?_ | exact sub_agg_dbs_r | exact sub_agg_take_r rfl (by first | assumption | omega) | (refine sub_agg_take rfl ?_; (first | ((try rw [dbs_length]); assumption) | ((try rw [dbs_length]); omega))) | refine sub_agg ?_ | (refine sub_val ?_ ?_ <;> (first | omega | (simp [pb, List.map_take, List.map_drop, List.take_take]; done) | (simp [pb, List.map_take, List.map_drop]; omega) | (simp [pb, List.take_of_length_le]; done))) | (refine or_val ?_ ?_ <;> (first | omega | (simp [pb, List.map_take, List.map_drop, List.take_take]; done) | (simp [pb, List.map_take, List.map_drop]; omega) | (simp [pb, List.take_of_length_le]; done))) | refine And.intro ?_ ?_)); done))
/-- erasurelaw26.join -/
theorem join_meets (a b : List UInt8) (ha : a.length ≤ 35184372088832) (hb : b.length ≤ 35184372088832) : Meets Try.prog F_erasurelaw26join ⟨[.c (bs a), .c (bs b)], [], 0, .c (bs (a ++ b)), [], 0⟩ := by
  refine Meets.frozenB ?_
  refine fits_erasurelaw26join.meets rfl (by simp) fun Q hQ => ?_
  (conv => whnf); repeat' (first | (refine And.intro ?_ ?_; (focus (first | omega | (dsimp only; omega) | (simp only [List.length_append]; omega) | (simp [pb]; done) | (simp [pb]; omega) | (simp [zeros_u8, pb]; done) | (simp [zeros_u8, pb]; omega) | (simp [ByteArray.size]; omega) | exact Nat.le_of_ble_eq_true rfl | exact u64_nonneg _ | (show chkDraw _ _ = true; kernel_rfl) | (decide; done))); (conv => whnf)) | (refine onB_intro (fun hb => ?_) (fun hb => ?_) <;> (try simp only [decide_eq_true_eq, decide_eq_false_iff_not, Bool.not_eq_true', Bool.not_eq_false', Bool.and_eq_true, Bool.and_eq_false_iff, Int.not_le, Int.not_lt, bsz, ByteArray.toList_eq, beq_iff_eq, beq_eq_false_iff_ne, ne_eq] at hb) <;> (try (exfalso; omega)) <;> (try (exfalso; first | contradiction | (simp [ByteArray.toList_eq] at hb; done))) <;> (conv => whnf)) | (refine (hQ _ _ _ ?_).1; (conv => whnf)) | (refine ⟨_, rfl, ?_⟩; (conv => whnf)) | (refine ⟨_, mp_cut _ _ _, ?_⟩; (conv => whnf)) | (refine ⟨_, dbs_cut _ _ _, ?_⟩; (conv => whnf)) | (refine ⟨[_], rfl, ?_⟩; (conv => whnf)) | (refine ⟨[_, _], rfl, ?_⟩; (conv => whnf)) | (refine ⟨[_, _, _], rfl, ?_⟩; (conv => whnf)) | (refine ⟨[_, _, _, _], rfl, ?_⟩; (conv => whnf)) | fail)
  exact ret_new rfl rfl (by simp) (by simp only [Nat.zero_mul, Nat.zero_add, List.take_zero, List.nil_append]; exact dbs_app' _ _)
theorem encInt_m1 : encInt (-1) = [1] := by rw [encInt, show zz (-1) = 1 by decide, encU_lt (by decide)]; rfl
theorem rd1 : readInt [128, 0] = (0, [], 1) := by simp [readInt, Sr.int, decU]
theorem rd2 : readInt [128] = (0, [], 100) := by simp [readInt, Sr.int, decU]
theorem rd3 : readInt [128, 1, 7] = (64, [7], 0) := by simp [readInt, Sr.int, decU, unzz]
end Go.Proofs.Ytjieenfbfckafaa.Am
namespace Go.Proofs.Ytjieenfbfckafaa.Am
open Go
set_option linter.unusedVariables false
set_option linter.unusedSimpArgs false
def Sr.count (most : Int) (s : Sr) : Int × Sr :=
  let x := s.int
  let t := if x.1 < 0 ∨ most < x.1 then x.2.fail 1 else x.2
  if t.e = 0 then (x.1, t) else (0, t)
def Sr.take (n : Nat) (s : Sr) : List UInt8 × Sr :=
  if s.e = 0 then (if s.b.length < n then ([], ⟨s.b, 100⟩) else (s.b.take n, ⟨s.b.drop n, 0⟩)) else ([], s)
def Sr.text (most : Int) (s : Sr) : List UInt8 × Sr :=
  let x := s.count most
  x.2.take x.1.toNat
def Sr.value (s : Sr) : Val × Sr :=
  let x := s.count 2
  if x.1 = 1 then
    (let y := x.2.int
     (⟨1, y.1, []⟩, if y.1 < -4294967296 ∨ 4294967296 < y.1 then y.2.fail 1 else y.2))
  else if x.1 = 2 then
    (let y := x.2.text 32
     (⟨2, 0, y.1⟩, y.2))
  else (Val.null, x.2)
def many {α : Type} (f : Sr → α × Sr) : Nat → Sr → List α × Sr
  | 0, s => ([], s)
  | n + 1, s => if s.e = 0 then
      (let x := f s
       let y := many f n x.2
       (x.1 :: y.1, y.2)) else ([], s)
def Sr.list {α : Type} (f : Sr → α × Sr) (most : Int) (s : Sr) : List α × Sr :=
  let x := s.count most
  many f x.1.toNat x.2
def Sr.row (s : Sr) : List Val × Sr := s.list Sr.value 16
def Sr.ident (s : Sr) : Ident × Sr :=
  let x := s.text 16
  let y := x.2.value
  (⟨x.1, y.1⟩, y.2)
def Sr.ver (s : Sr) : Ver × Sr :=
  let x := s.int
  let y := x.2.int
  let z := y.2.int
  (⟨x.1, z.1, y.1⟩, z.2)
def Sr.sou (s : Sr) : Sou × Sr :=
  let x := s.int
  let y := x.2.int
  (⟨x.1, y.1⟩, y.2)
def Sr.vers (s : Sr) : List Ver × Sr := s.list Sr.ver 512
def Sr.sous (s : Sr) : List Sou × Sr := s.list Sr.sou 512
def Sr.link (s : Sr) : Link × Sr :=
  let a := s.ident
  let b := a.2.ident
  let x := b.2.int
  let y := x.2.count 1
  (⟨a.1, b.1, x.1, decide (y.1 = 1)⟩, y.2)
def Sr.hold (s : Sr) : Hold × Sr :=
  let a := s.int
  let b := a.2.int
  let c := b.2.ident
  let d := c.2.int
  let e := d.2.int
  let f := e.2.int
  (⟨a.1, b.1, c.1, d.1, e.1, f.1⟩, f.2)
def Sr.req (s : Sr) : Req × Sr :=
  let a := s.int
  let c := a.2.ident
  let d := c.2.int
  let e := d.2.int
  let f := e.2.int
  (⟨a.1, c.1, d.1, e.1, f.1⟩, f.2)
def zero32 : List UInt8 := List.replicate 32 0
theorem Sr.fail_b (s : Sr) (x : Int) : (s.fail x).b = s.b := by unfold Sr.fail; split <;> rfl
theorem Sr.count_len (m : Int) (s : Sr) : (s.count m).2.b.length ≤ s.b.length := by
  have h := s.int_len
  unfold Sr.count
  dsimp only
  by_cases hc : s.int.1 < 0 ∨ m < s.int.1
  · rw [if_pos hc]
    have h2 := s.int.2.fail_b 1
    split
    · show (s.int.2.fail 1).b.length ≤ _; rw [h2]; exact h
    · show (s.int.2.fail 1).b.length ≤ _; rw [h2]; exact h
  · rw [if_neg hc]
    split
    · exact h
    · exact h
theorem Sr.count_range (m : Int) (s : Sr) (hm : 0 ≤ m) : 0 ≤ (s.count m).1 ∧ (s.count m).1 ≤ m := by
  unfold Sr.count
  dsimp only
  by_cases hc : s.int.1 < 0 ∨ m < s.int.1
  · rw [if_pos hc]
    by_cases he : (s.int.2.fail 1).e = 0
    · exfalso
      unfold Sr.fail at he
      split at he
      · simp at he
      · rename_i h; exact h he
    · rw [if_neg he]; exact ⟨Int.le_refl _, hm⟩
  · rw [if_neg hc]
    split
    · constructor <;> dsimp only <;> omega
    · exact ⟨Int.le_refl _, hm⟩
theorem Sr.count_nonneg (m : Int) (s : Sr) : 0 ≤ (s.count m).1 := by
  unfold Sr.count
  dsimp only
  by_cases hc : s.int.1 < 0 ∨ m < s.int.1
  · rw [if_pos hc]
    by_cases he : (s.int.2.fail 1).e = 0
    · exfalso
      unfold Sr.fail at he
      split at he
      · simp at he
      · rename_i h; exact h he
    · rw [if_neg he]; exact Int.le_refl _
  · rw [if_neg hc]
    split
    · dsimp only; omega
    · exact Int.le_refl _
theorem Sr.take_len (n : Nat) (s : Sr) : (s.take n).2.b.length ≤ s.b.length := by
  unfold Sr.take
  split
  · split
    · exact Nat.le_refl _
    · simp
  · exact Nat.le_refl _
theorem Sr.text_len (m : Int) (s : Sr) : (s.text m).2.b.length ≤ s.b.length := Nat.le_trans (Sr.take_len _ _) (s.count_len m)
theorem Sr.value_len (s : Sr) : s.value.2.b.length ≤ s.b.length := by
  have h := s.count_len 2
  unfold Sr.value
  simp only
  split
  · have h2 := (s.count 2).2.int_len
    simp only
    split
    · rw [Sr.fail_b]; omega
    · omega
  · split
    · have h2 := (s.count 2).2.text_len 32
      simp only; omega
    · exact h
theorem many_len {α : Type} {f : Sr → α × Sr} (hf : ∀ s, (f s).2.b.length ≤ s.b.length) : ∀ (n : Nat) (s : Sr), (many f n s).2.b.length ≤ s.b.length
  | 0, s => Nat.le_refl _
  | n + 1, s => by
    unfold many
    split
    · exact Nat.le_trans (many_len hf n _) (hf s)
    · exact Nat.le_refl _
theorem many_count {α : Type} {f : Sr → α × Sr} : ∀ (n : Nat) (s : Sr), (many f n s).1.length ≤ n
  | 0, s => Nat.le_refl _
  | n + 1, s => by
    unfold many
    split
    · have := many_count (f := f) n (f s).2
      simp only [List.length_cons]; omega
    · simp
theorem Sr.list_len {α : Type} {f : Sr → α × Sr} (hf : ∀ s, (f s).2.b.length ≤ s.b.length) (m : Int) (s : Sr) : (s.list f m).2.b.length ≤ s.b.length := Nat.le_trans (many_len hf _ _) (s.count_len m)
theorem Sr.row_len (s : Sr) : s.row.2.b.length ≤ s.b.length := s.list_len Sr.value_len 16
end Go.Proofs.Ytjieenfbfckafaa.Am
namespace Go.Proofs.Ytjieenfbfckafaa.Am
open Go
set_option linter.unusedVariables false
set_option linter.unusedSimpArgs false
set_option maxRecDepth 100000
set_option maxHeartbeats 1000000
/-- codec.source.number -/
theorem number_meets (s : Sr) (hs : s.ok) : Meets Try.prog F_codec_source_number ⟨[.c (.ptr 0 0)], [(0, sob s)], 1, vi s.int.1, [(0, sob s.int.2)], 1⟩ := by
  have m := integer_meets s hs
  generalize s.int = x at m ⊢
  obtain ⟨n, t⟩ := x
  refine fits_codec_source_number.meets rfl (by simp) fun Q hQ => ?_
  (conv => whnf); repeat' (first | (refine And.intro ?_ ?_; (focus (first | omega | (dsimp only; omega) | (simp only [List.length_append]; omega) | (simp [pb]; done) | (simp [pb]; omega) | (simp [zeros_u8, pb]; done) | (simp [zeros_u8, pb]; omega) | (simp [ByteArray.size]; omega) | exact Nat.le_of_ble_eq_true rfl | exact u64_nonneg _ | (show chkDraw _ _ = true; kernel_rfl) | (decide; done))); (conv => whnf)) | (refine onB_intro (fun hb => ?_) (fun hb => ?_) <;> (try simp only [decide_eq_true_eq, decide_eq_false_iff_not, Bool.not_eq_true', Bool.not_eq_false', Bool.and_eq_true, Bool.and_eq_false_iff, Int.not_le, Int.not_lt, bsz, ByteArray.toList_eq, beq_iff_eq, beq_eq_false_iff_ne, ne_eq] at hb) <;> (try (exfalso; omega)) <;> (try (exfalso; first | contradiction | (simp [ByteArray.toList_eq] at hb; done))) <;> (conv => whnf)) | (refine (hQ _ _ _ ?_).1; (conv => whnf)) | (refine ⟨_, rfl, ?_⟩; (conv => whnf)) | (refine ⟨_, mp_cut _ _ _, ?_⟩; (conv => whnf)) | (refine ⟨_, dbs_cut _ _ _, ?_⟩; (conv => whnf)) | (refine ⟨[_], rfl, ?_⟩; (conv => whnf)) | (refine ⟨[_, _], rfl, ?_⟩; (conv => whnf)) | (refine ⟨[_, _, _], rfl, ?_⟩; (conv => whnf)) | (refine ⟨[_, _, _, _], rfl, ?_⟩; (conv => whnf)) | (apply call_obj (m) (fun F => by first | exact rfl | exact bob_ren F _ | exact ob_ren F _ _) (fun F => by first | exact rfl | exact bob_ren F _ | exact ob_ren F _ _); (focus ((repeat' (first | exact trivial | exact Sub.refl _ | exact sub_nil | exact Or.inl rfl | exact Or.inr ⟨rfl, rfl⟩ | (refine sub_ref ?_; (first | omega | (simp; done) | (simp; omega))) | (refine sub_int ?_; (first | omega | rfl | (simp [bsz]; done))) | refine sub_tup ?_ | exact sub_agg_dbs_r | exact sub_agg_take_r rfl (by first | assumption | omega) | (refine sub_agg_take rfl ?_; (first | ((try rw [dbs_length]); assumption) | ((try rw [dbs_length]); omega))) | refine sub_agg ?_ | (refine sub_val ?_ ?_ <;> (first | omega | (simp [pb, List.map_take, List.map_drop, List.take_take]; done) | (simp [pb, List.map_take, List.map_drop]; omega) | (simp [pb, List.take_of_length_le]; done))) | (refine or_val ?_ ?_ <;> (first | omega | (simp [pb, List.map_take, List.map_drop, List.take_take]; done) | (simp [pb, List.map_take, List.map_drop]; omega) | (simp [pb, List.take_of_length_le]; done))) | refine And.intro ?_ ?_)); done)); (focus (first | exact rfl | exact hp_eq rfl (dbs_app _ _ _ rfl) | exact hp_eq rfl (dbs_appo _ _ _ _ rfl rfl) | (refine hp_eq rfl ?_; (simp only [bob, ← List.length_append, dbs_appo', dbs_app', bsz]; done)) | (refine hp_eq rfl ?_; (simp [dbs, pb]; done)))); (conv => whnf)) | fail)
  all_goals (refine ret_obj rfl ?_ rfl ?_ (fun F => by first | exact rfl | (simp only [TV.rens, TV.ren, dbs_ren]; rfl) | (simp [TV.rens, TV.ren, dbs_ren, map_ren_p]; done)) (fun F => by first | exact rfl | exact bob_ren F _ | exact ob_ren F _ _); (focus ((repeat' (first | exact trivial | exact Sub.refl _ | exact sub_nil | exact Or.inl rfl | exact Or.inr ⟨rfl, rfl⟩ | (refine sub_ref ?_; (first | omega | (simp; done) | (simp; omega))) | (refine sub_int ?_; (first | omega | rfl | (simp [bsz]; done))) | refine sub_tup ?_ | exact sub_agg_dbs_r | exact sub_agg_take_r rfl (by first | assumption | omega) | (refine sub_agg_take rfl ?_; (first | ((try rw [dbs_length]); assumption) | ((try rw [dbs_length]); omega))) | refine sub_agg ?_ | (refine sub_val ?_ ?_ <;> (first | omega | (simp [pb, List.map_take, List.map_drop, List.take_take]; done) | (simp [pb, List.map_take, List.map_drop]; omega) | (simp [pb, List.take_of_length_le]; done))) | (refine or_val ?_ ?_ <;> (first | omega | (simp [pb, List.map_take, List.map_drop, List.take_take]; done) | (simp [pb, List.map_take, List.map_drop]; omega) | (simp [pb, List.take_of_length_le]; done))) | refine And.intro ?_ ?_)); done)); (first | rfl | (refine ob2_eq ?_ ?_ <;> (first | rfl | assumption | (simp only [*]; done) | (refine dv_val ?_ ?_ <;> (first | rfl | omega | (simp [pb, List.map_take, List.map_drop, List.take_of_length_le]; done) | (simp [pb, List.map_take, List.map_drop]; omega)))))))
/-- codec.source.count -/
theorem count_meets (m : Int) (s : Sr) (hs : s.ok) : Meets Try.prog F_codec_source_count ⟨[.c (.ptr 0 0), vi m], [(0, sob s)], 1, vi (s.count m).1, [(0, sob (s.count m).2)], 1⟩ := by
  have m1 := integer_meets s hs
  unfold Sr.count
  dsimp only
  generalize s.int = x at m1 ⊢
  obtain ⟨n, t⟩ := x
  dsimp only at m1 ⊢
  by_cases hc : n < 0 ∨ m < n
  · rw [if_pos hc]
    have m2 := fail_meets' t 1
    generalize t.fail 1 = t2 at m2 ⊢
    by_cases he : t2.e = 0
    · rw [if_pos he]
      refine fits_codec_source_count.meets rfl (by simp) fun Q hQ => ?_
      (conv => whnf); repeat' (first | (refine And.intro ?_ ?_; (focus (first | omega | (dsimp only; omega) | (simp only [List.length_append]; omega) | (simp [pb]; done) | (simp [pb]; omega) | (simp [zeros_u8, pb]; done) | (simp [zeros_u8, pb]; omega) | (simp [ByteArray.size]; omega) | exact Nat.le_of_ble_eq_true rfl | exact u64_nonneg _ | (show chkDraw _ _ = true; kernel_rfl) | (decide; done))); (conv => whnf)) | (refine onB_intro (fun hb => ?_) (fun hb => ?_) <;> (try simp only [decide_eq_true_eq, decide_eq_false_iff_not, Bool.not_eq_true', Bool.not_eq_false', Bool.and_eq_true, Bool.and_eq_false_iff, Int.not_le, Int.not_lt, bsz, ByteArray.toList_eq, beq_iff_eq, beq_eq_false_iff_ne, ne_eq] at hb) <;> (try (exfalso; omega)) <;> (try (exfalso; first | contradiction | (simp [ByteArray.toList_eq] at hb; done))) <;> (conv => whnf)) | (refine (hQ _ _ _ ?_).1; (conv => whnf)) | (refine ⟨_, rfl, ?_⟩; (conv => whnf)) | (refine ⟨_, mp_cut _ _ _, ?_⟩; (conv => whnf)) | (refine ⟨_, dbs_cut _ _ _, ?_⟩; (conv => whnf)) | (refine ⟨[_], rfl, ?_⟩; (conv => whnf)) | (refine ⟨[_, _], rfl, ?_⟩; (conv => whnf)) | (refine ⟨[_, _, _], rfl, ?_⟩; (conv => whnf)) | (refine ⟨[_, _, _, _], rfl, ?_⟩; (conv => whnf)) | (apply call_obj (m1) (fun F => by first | exact rfl | exact bob_ren F _ | exact ob_ren F _ _) (fun F => by first | exact rfl | exact bob_ren F _ | exact ob_ren F _ _); (focus ((repeat' (first | exact trivial | exact Sub.refl _ | exact sub_nil | exact Or.inl rfl | exact Or.inr ⟨rfl, rfl⟩ | (refine sub_ref ?_; (first | omega | (simp; done) | (simp; omega))) | (refine sub_int ?_; (first | omega | rfl | (simp [bsz]; done))) | refine sub_tup ?_ | exact sub_agg_dbs_r | exact sub_agg_take_r rfl (by first | assumption | omega) | (refine sub_agg_take rfl ?_; (first | ((try rw [dbs_length]); assumption) | ((try rw [dbs_length]); omega))) | refine sub_agg ?_ | (refine sub_val ?_ ?_ <;> (first | omega | (simp [pb, List.map_take, List.map_drop, List.take_take]; done) | (simp [pb, List.map_take, List.map_drop]; omega) | (simp [pb, List.take_of_length_le]; done))) | (refine or_val ?_ ?_ <;> (first | omega | (simp [pb, List.map_take, List.map_drop, List.take_take]; done) | (simp [pb, List.map_take, List.map_drop]; omega) | (simp [pb, List.take_of_length_le]; done))) | refine And.intro ?_ ?_)); done)); (focus (first | exact rfl | exact hp_eq rfl (dbs_app _ _ _ rfl) | exact hp_eq rfl (dbs_appo _ _ _ _ rfl rfl) | (refine hp_eq rfl ?_; (simp only [bob, ← List.length_append, dbs_appo', dbs_app', bsz]; done)) | (refine hp_eq rfl ?_; (simp [dbs, pb]; done)))); (conv => whnf)) | (apply call_obj (m2) (fun F => by first | exact rfl | exact bob_ren F _ | exact ob_ren F _ _) (fun F => by first | exact rfl | exact bob_ren F _ | exact ob_ren F _ _); (focus ((repeat' (first | exact trivial | exact Sub.refl _ | exact sub_nil | exact Or.inl rfl | exact Or.inr ⟨rfl, rfl⟩ | (refine sub_ref ?_; (first | omega | (simp; done) | (simp; omega))) | (refine sub_int ?_; (first | omega | rfl | (simp [bsz]; done))) | refine sub_tup ?_ | exact sub_agg_dbs_r | exact sub_agg_take_r rfl (by first | assumption | omega) | (refine sub_agg_take rfl ?_; (first | ((try rw [dbs_length]); assumption) | ((try rw [dbs_length]); omega))) | refine sub_agg ?_ | (refine sub_val ?_ ?_ <;> (first | omega | (simp [pb, List.map_take, List.map_drop, List.take_take]; done) | (simp [pb, List.map_take, List.map_drop]; omega) | (simp [pb, List.take_of_length_le]; done))) | (refine or_val ?_ ?_ <;> (first | omega | (simp [pb, List.map_take, List.map_drop, List.take_take]; done) | (simp [pb, List.map_take, List.map_drop]; omega) | (simp [pb, List.take_of_length_le]; done))) | refine And.intro ?_ ?_)); done)); (focus (first | exact rfl | exact hp_eq rfl (dbs_app _ _ _ rfl) | exact hp_eq rfl (dbs_appo _ _ _ _ rfl rfl) | (refine hp_eq rfl ?_; (simp only [bob, ← List.length_append, dbs_appo', dbs_app', bsz]; done)) | (refine hp_eq rfl ?_; (simp [dbs, pb]; done)))); (conv => whnf)) | fail)
      all_goals (refine ret_obj rfl ?_ rfl ?_ (fun F => by first | exact rfl | (simp only [TV.rens, TV.ren, dbs_ren]; rfl) | (simp [TV.rens, TV.ren, dbs_ren, map_ren_p]; done)) (fun F => by first | exact rfl | exact bob_ren F _ | exact ob_ren F _ _); (focus ((repeat' (first | exact trivial | exact Sub.refl _ | exact sub_nil | exact Or.inl rfl | exact Or.inr ⟨rfl, rfl⟩ | (refine sub_ref ?_; (first | omega | (simp; done) | (simp; omega))) | (refine sub_int ?_; (first | omega | rfl | (simp [bsz]; done))) | refine sub_tup ?_ | exact sub_agg_dbs_r | exact sub_agg_take_r rfl (by first | assumption | omega) | (refine sub_agg_take rfl ?_; (first | ((try rw [dbs_length]); assumption) | ((try rw [dbs_length]); omega))) | refine sub_agg ?_ | (refine sub_val ?_ ?_ <;> (first | omega | (simp [pb, List.map_take, List.map_drop, List.take_take]; done) | (simp [pb, List.map_take, List.map_drop]; omega) | (simp [pb, List.take_of_length_le]; done))) | (refine or_val ?_ ?_ <;> (first | omega | (simp [pb, List.map_take, List.map_drop, List.take_take]; done) | (simp [pb, List.map_take, List.map_drop]; omega) | (simp [pb, List.take_of_length_le]; done))) | refine And.intro ?_ ?_)); done)); (first | rfl | (refine ob2_eq ?_ ?_ <;> (first | rfl | assumption | (simp only [*]; done) | (refine dv_val ?_ ?_ <;> (first | rfl | omega | (simp [pb, List.map_take, List.map_drop, List.take_of_length_le]; done) | (simp [pb, List.map_take, List.map_drop]; omega)))))))
    · rw [if_neg he]
      refine fits_codec_source_count.meets rfl (by simp) fun Q hQ => ?_
      (conv => whnf); repeat' (first | (refine And.intro ?_ ?_; (focus (first | omega | (dsimp only; omega) | (simp only [List.length_append]; omega) | (simp [pb]; done) | (simp [pb]; omega) | (simp [zeros_u8, pb]; done) | (simp [zeros_u8, pb]; omega) | (simp [ByteArray.size]; omega) | exact Nat.le_of_ble_eq_true rfl | exact u64_nonneg _ | (show chkDraw _ _ = true; kernel_rfl) | (decide; done))); (conv => whnf)) | (refine onB_intro (fun hb => ?_) (fun hb => ?_) <;> (try simp only [decide_eq_true_eq, decide_eq_false_iff_not, Bool.not_eq_true', Bool.not_eq_false', Bool.and_eq_true, Bool.and_eq_false_iff, Int.not_le, Int.not_lt, bsz, ByteArray.toList_eq, beq_iff_eq, beq_eq_false_iff_ne, ne_eq] at hb) <;> (try (exfalso; omega)) <;> (try (exfalso; first | contradiction | (simp [ByteArray.toList_eq] at hb; done))) <;> (conv => whnf)) | (refine (hQ _ _ _ ?_).1; (conv => whnf)) | (refine ⟨_, rfl, ?_⟩; (conv => whnf)) | (refine ⟨_, mp_cut _ _ _, ?_⟩; (conv => whnf)) | (refine ⟨_, dbs_cut _ _ _, ?_⟩; (conv => whnf)) | (refine ⟨[_], rfl, ?_⟩; (conv => whnf)) | (refine ⟨[_, _], rfl, ?_⟩; (conv => whnf)) | (refine ⟨[_, _, _], rfl, ?_⟩; (conv => whnf)) | (refine ⟨[_, _, _, _], rfl, ?_⟩; (conv => whnf)) | (apply call_obj (m1) (fun F => by first | exact rfl | exact bob_ren F _ | exact ob_ren F _ _) (fun F => by first | exact rfl | exact bob_ren F _ | exact ob_ren F _ _); (focus ((repeat' (first | exact trivial | exact Sub.refl _ | exact sub_nil | exact Or.inl rfl | exact Or.inr ⟨rfl, rfl⟩ | (refine sub_ref ?_; (first | omega | (simp; done) | (simp; omega))) | (refine sub_int ?_; (first | omega | rfl | (simp [bsz]; done))) | refine sub_tup ?_ | exact sub_agg_dbs_r | exact sub_agg_take_r rfl (by first | assumption | omega) | (refine sub_agg_take rfl ?_; (first | ((try rw [dbs_length]); assumption) | ((try rw [dbs_length]); omega))) | refine sub_agg ?_ | (refine sub_val ?_ ?_ <;> (first | omega | (simp [pb, List.map_take, List.map_drop, List.take_take]; done) | (simp [pb, List.map_take, List.map_drop]; omega) | (simp [pb, List.take_of_length_le]; done))) | (refine or_val ?_ ?_ <;> (first | omega | (simp [pb, List.map_take, List.map_drop, List.take_take]; done) | (simp [pb, List.map_take, List.map_drop]; omega) | (simp [pb, List.take_of_length_le]; done))) | refine And.intro ?_ ?_)); done)); (focus (first | exact rfl | exact hp_eq rfl (dbs_app _ _ _ rfl) | exact hp_eq rfl (dbs_appo _ _ _ _ rfl rfl) | (refine hp_eq rfl ?_; (simp only [bob, ← List.length_append, dbs_appo', dbs_app', bsz]; done)) | (refine hp_eq rfl ?_; (simp [dbs, pb]; done)))); (conv => whnf)) | (apply call_obj (m2) (fun F => by first | exact rfl | exact bob_ren F _ | exact ob_ren F _ _) (fun F => by first | exact rfl | exact bob_ren F _ | exact ob_ren F _ _); (focus ((repeat' (first | exact trivial | exact Sub.refl _ | exact sub_nil | exact Or.inl rfl | exact Or.inr ⟨rfl, rfl⟩ | (refine sub_ref ?_; (first | omega | (simp; done) | (simp; omega))) | (refine sub_int ?_; (first | omega | rfl | (simp [bsz]; done))) | refine sub_tup ?_ | exact sub_agg_dbs_r | exact sub_agg_take_r rfl (by first | assumption | omega) | (refine sub_agg_take rfl ?_; (first | ((try rw [dbs_length]); assumption) | ((try rw [dbs_length]); omega))) | refine sub_agg ?_ | (refine sub_val ?_ ?_ <;> (first | omega | (simp [pb, List.map_take, List.map_drop, List.take_take]; done) | (simp [pb, List.map_take, List.map_drop]; omega) | (simp [pb, List.take_of_length_le]; done))) | (refine or_val ?_ ?_ <;> (first | omega | (simp [pb, List.map_take, List.map_drop, List.take_take]; done) | (simp [pb, List.map_take, List.map_drop]; omega) | (simp [pb, List.take_of_length_le]; done))) | refine And.intro ?_ ?_)); done)); (focus (first | exact rfl | exact hp_eq rfl (dbs_app _ _ _ rfl) | exact hp_eq rfl (dbs_appo _ _ _ _ rfl rfl) | (refine hp_eq rfl ?_; (simp only [bob, ← List.length_append, dbs_appo', dbs_app', bsz]; done)) | (refine hp_eq rfl ?_; (simp [dbs, pb]; done)))); (conv => whnf)) | fail)
      all_goals (refine ret_obj rfl ?_ rfl ?_ (fun F => by first | exact rfl | (simp only [TV.rens, TV.ren, dbs_ren]; rfl) | (simp [TV.rens, TV.ren, dbs_ren, map_ren_p]; done)) (fun F => by first | exact rfl | exact bob_ren F _ | exact ob_ren F _ _); (focus ((repeat' (first | exact trivial | exact Sub.refl _ | exact sub_nil | exact Or.inl rfl | exact Or.inr ⟨rfl, rfl⟩ | (refine sub_ref ?_; (first | omega | (simp; done) | (simp; omega))) | (refine sub_int ?_; (first | omega | rfl | (simp [bsz]; done))) | refine sub_tup ?_ | exact sub_agg_dbs_r | exact sub_agg_take_r rfl (by first | assumption | omega) | (refine sub_agg_take rfl ?_; (first | ((try rw [dbs_length]); assumption) | ((try rw [dbs_length]); omega))) | refine sub_agg ?_ | (refine sub_val ?_ ?_ <;> (first | omega | (simp [pb, List.map_take, List.map_drop, List.take_take]; done) | (simp [pb, List.map_take, List.map_drop]; omega) | (simp [pb, List.take_of_length_le]; done))) | (refine or_val ?_ ?_ <;> (first | omega | (simp [pb, List.map_take, List.map_drop, List.take_take]; done) | (simp [pb, List.map_take, List.map_drop]; omega) | (simp [pb, List.take_of_length_le]; done))) | refine And.intro ?_ ?_)); done)); (first | rfl | (refine ob2_eq ?_ ?_ <;> (first | rfl | assumption | (simp only [*]; done) | (refine dv_val ?_ ?_ <;> (first | rfl | omega | (simp [pb, List.map_take, List.map_drop, List.take_of_length_le]; done) | (simp [pb, List.map_take, List.map_drop]; omega)))))))
  · rw [if_neg hc]
    by_cases he : t.e = 0
    · rw [if_pos he]
      refine fits_codec_source_count.meets rfl (by simp) fun Q hQ => ?_
      (conv => whnf); repeat' (first | (refine And.intro ?_ ?_; (focus (first | omega | (dsimp only; omega) | (simp only [List.length_append]; omega) | (simp [pb]; done) | (simp [pb]; omega) | (simp [zeros_u8, pb]; done) | (simp [zeros_u8, pb]; omega) | (simp [ByteArray.size]; omega) | exact Nat.le_of_ble_eq_true rfl | exact u64_nonneg _ | (show chkDraw _ _ = true; kernel_rfl) | (decide; done))); (conv => whnf)) | (refine onB_intro (fun hb => ?_) (fun hb => ?_) <;> (try simp only [decide_eq_true_eq, decide_eq_false_iff_not, Bool.not_eq_true', Bool.not_eq_false', Bool.and_eq_true, Bool.and_eq_false_iff, Int.not_le, Int.not_lt, bsz, ByteArray.toList_eq, beq_iff_eq, beq_eq_false_iff_ne, ne_eq] at hb) <;> (try (exfalso; omega)) <;> (try (exfalso; first | contradiction | (simp [ByteArray.toList_eq] at hb; done))) <;> (conv => whnf)) | (refine (hQ _ _ _ ?_).1; (conv => whnf)) | (refine ⟨_, rfl, ?_⟩; (conv => whnf)) | (refine ⟨_, mp_cut _ _ _, ?_⟩; (conv => whnf)) | (refine ⟨_, dbs_cut _ _ _, ?_⟩; (conv => whnf)) | (refine ⟨[_], rfl, ?_⟩; (conv => whnf)) | (refine ⟨[_, _], rfl, ?_⟩; (conv => whnf)) | (refine ⟨[_, _, _], rfl, ?_⟩; (conv => whnf)) | (refine ⟨[_, _, _, _], rfl, ?_⟩; (conv => whnf)) | (apply call_obj (m1) (fun F => by first | exact rfl | exact bob_ren F _ | exact ob_ren F _ _) (fun F => by first | exact rfl | exact bob_ren F _ | exact ob_ren F _ _); (focus ((repeat' (first | exact trivial | exact Sub.refl _ | exact sub_nil | exact Or.inl rfl | exact Or.inr ⟨rfl, rfl⟩ | (refine sub_ref ?_; (first | omega | (simp; done) | (simp; omega))) | (refine sub_int ?_; (first | omega | rfl | (simp [bsz]; done))) | refine sub_tup ?_ | exact sub_agg_dbs_r | exact sub_agg_take_r rfl (by first | assumption | omega) | (refine sub_agg_take rfl ?_; (first | ((try rw [dbs_length]); assumption) | ((try rw [dbs_length]); omega))) | refine sub_agg ?_ | (refine sub_val ?_ ?_ <;> (first | omega | (simp [pb, List.map_take, List.map_drop, List.take_take]; done) | (simp [pb, List.map_take, List.map_drop]; omega) | (simp [pb, List.take_of_length_le]; done))) | (refine or_val ?_ ?_ <;> (first | omega | (simp [pb, List.map_take, List.map_drop, List.take_take]; done) | (simp [pb, List.map_take, List.map_drop]; omega) | (simp [pb, List.take_of_length_le]; done))) | refine And.intro ?_ ?_)); done)); (focus (first | exact rfl | exact hp_eq rfl (dbs_app _ _ _ rfl) | exact hp_eq rfl (dbs_appo _ _ _ _ rfl rfl) | (refine hp_eq rfl ?_; (simp only [bob, ← List.length_append, dbs_appo', dbs_app', bsz]; done)) | (refine hp_eq rfl ?_; (simp [dbs, pb]; done)))); (conv => whnf)) | fail)
      all_goals (refine ret_obj rfl ?_ rfl ?_ (fun F => by first | exact rfl | (simp only [TV.rens, TV.ren, dbs_ren]; rfl) | (simp [TV.rens, TV.ren, dbs_ren, map_ren_p]; done)) (fun F => by first | exact rfl | exact bob_ren F _ | exact ob_ren F _ _); (focus ((repeat' (first | exact trivial | exact Sub.refl _ | exact sub_nil | exact Or.inl rfl | exact Or.inr ⟨rfl, rfl⟩ | (refine sub_ref ?_; (first | omega | (simp; done) | (simp; omega))) | (refine sub_int ?_; (first | omega | rfl | (simp [bsz]; done))) | refine sub_tup ?_ | exact sub_agg_dbs_r | exact sub_agg_take_r rfl (by first | assumption | omega) | (refine sub_agg_take rfl ?_; (first | ((try rw [dbs_length]); assumption) | ((try rw [dbs_length]); omega))) | refine sub_agg ?_ | (refine sub_val ?_ ?_ <;> (first | omega | (simp [pb, List.map_take, List.map_drop, List.take_take]; done) | (simp [pb, List.map_take, List.map_drop]; omega) | (simp [pb, List.take_of_length_le]; done))) | (refine or_val ?_ ?_ <;> (first | omega | (simp [pb, List.map_take, List.map_drop, List.take_take]; done) | (simp [pb, List.map_take, List.map_drop]; omega) | (simp [pb, List.take_of_length_le]; done))) | refine And.intro ?_ ?_)); done)); (first | rfl | (refine ob2_eq ?_ ?_ <;> (first | rfl | assumption | (simp only [*]; done) | (refine dv_val ?_ ?_ <;> (first | rfl | omega | (simp [pb, List.map_take, List.map_drop, List.take_of_length_le]; done) | (simp [pb, List.map_take, List.map_drop]; omega)))))))
    · rw [if_neg he]
      refine fits_codec_source_count.meets rfl (by simp) fun Q hQ => ?_
      (conv => whnf); repeat' (first | (refine And.intro ?_ ?_; (focus (first | omega | (dsimp only; omega) | (simp only [List.length_append]; omega) | (simp [pb]; done) | (simp [pb]; omega) | (simp [zeros_u8, pb]; done) | (simp [zeros_u8, pb]; omega) | (simp [ByteArray.size]; omega) | exact Nat.le_of_ble_eq_true rfl | exact u64_nonneg _ | (show chkDraw _ _ = true; kernel_rfl) | (decide; done))); (conv => whnf)) | (refine onB_intro (fun hb => ?_) (fun hb => ?_) <;> (try simp only [decide_eq_true_eq, decide_eq_false_iff_not, Bool.not_eq_true', Bool.not_eq_false', Bool.and_eq_true, Bool.and_eq_false_iff, Int.not_le, Int.not_lt, bsz, ByteArray.toList_eq, beq_iff_eq, beq_eq_false_iff_ne, ne_eq] at hb) <;> (try (exfalso; omega)) <;> (try (exfalso; first | contradiction | (simp [ByteArray.toList_eq] at hb; done))) <;> (conv => whnf)) | (refine (hQ _ _ _ ?_).1; (conv => whnf)) | (refine ⟨_, rfl, ?_⟩; (conv => whnf)) | (refine ⟨_, mp_cut _ _ _, ?_⟩; (conv => whnf)) | (refine ⟨_, dbs_cut _ _ _, ?_⟩; (conv => whnf)) | (refine ⟨[_], rfl, ?_⟩; (conv => whnf)) | (refine ⟨[_, _], rfl, ?_⟩; (conv => whnf)) | (refine ⟨[_, _, _], rfl, ?_⟩; (conv => whnf)) | (refine ⟨[_, _, _, _], rfl, ?_⟩; (conv => whnf)) | (apply call_obj (m1) (fun F => by first | exact rfl | exact bob_ren F _ | exact ob_ren F _ _) (fun F => by first | exact rfl | exact bob_ren F _ | exact ob_ren F _ _); (focus ((repeat' (first | exact trivial | exact Sub.refl _ | exact sub_nil | exact Or.inl rfl | exact Or.inr ⟨rfl, rfl⟩ | (refine sub_ref ?_; (first | omega | (simp; done) | (simp; omega))) | (refine sub_int ?_; (first | omega | rfl | (simp [bsz]; done))) | refine sub_tup ?_ | exact sub_agg_dbs_r | exact sub_agg_take_r rfl (by first | assumption | omega) | (refine sub_agg_take rfl ?_; (first | ((try rw [dbs_length]); assumption) | ((try rw [dbs_length]); omega))) | refine sub_agg ?_ | (refine sub_val ?_ ?_ <;> (first | omega | (simp [pb, List.map_take, List.map_drop, List.take_take]; done) | (simp [pb, List.map_take, List.map_drop]; omega) | (simp [pb, List.take_of_length_le]; done))) | (refine or_val ?_ ?_ <;> (first | omega | (simp [pb, List.map_take, List.map_drop, List.take_take]; done) | (simp [pb, List.map_take, List.map_drop]; omega) | (simp [pb, List.take_of_length_le]; done))) | refine And.intro ?_ ?_)); done)); (focus (first | exact rfl | exact hp_eq rfl (dbs_app _ _ _ rfl) | exact hp_eq rfl (dbs_appo _ _ _ _ rfl rfl) | (refine hp_eq rfl ?_; (simp only [bob, ← List.length_append, dbs_appo', dbs_app', bsz]; done)) | (refine hp_eq rfl ?_; (simp [dbs, pb]; done)))); (conv => whnf)) | fail)
      all_goals (refine ret_obj rfl ?_ rfl ?_ (fun F => by first | exact rfl | (simp only [TV.rens, TV.ren, dbs_ren]; rfl) | (simp [TV.rens, TV.ren, dbs_ren, map_ren_p]; done)) (fun F => by first | exact rfl | exact bob_ren F _ | exact ob_ren F _ _); (focus ((repeat' (first | exact trivial | exact Sub.refl _ | exact sub_nil | exact Or.inl rfl | exact Or.inr ⟨rfl, rfl⟩ | (refine sub_ref ?_; (first | omega | (simp; done) | (simp; omega))) | (refine sub_int ?_; (first | omega | rfl | (simp [bsz]; done))) | refine sub_tup ?_ | exact sub_agg_dbs_r | exact sub_agg_take_r rfl (by first | assumption | omega) | (refine sub_agg_take rfl ?_; (first | ((try rw [dbs_length]); assumption) | ((try rw [dbs_length]); omega))) | refine sub_agg ?_ | (refine sub_val ?_ ?_ <;> (first | omega | (simp [pb, List.map_take, List.map_drop, List.take_take]; done) | (simp [pb, List.map_take, List.map_drop]; omega) | (simp [pb, List.take_of_length_le]; done))) | (refine or_val ?_ ?_ <;> (first | omega | (simp [pb, List.map_take, List.map_drop, List.take_take]; done) | (simp [pb, List.map_take, List.map_drop]; omega) | (simp [pb, List.take_of_length_le]; done))) | refine And.intro ?_ ?_)); done)); (first | rfl | (refine ob2_eq ?_ ?_ <;> (first | rfl | assumption | (simp only [*]; done) | (refine dv_val ?_ ?_ <;> (first | rfl | omega | (simp [pb, List.map_take, List.map_drop, List.take_of_length_le]; done) | (simp [pb, List.map_take, List.map_drop]; omega)))))))
/-- codec.source.take -/
theorem take_meets (n : Nat) (s : Sr) (hs : s.ok) : Meets Try.prog F_codec_source_take ⟨[.c (.ptr 0 0), vi n], [(0, sob s)], 1, .c (bs (s.take n).1), [(0, sob (s.take n).2)], 1⟩ := by
  have hs : s.b.length ≤ 4611686018427387904 := hs
  unfold Sr.take
  by_cases he : s.e = 0
  · rw [if_pos he]
    by_cases hn : s.b.length < n
    · rw [if_pos hn]
      have m2 := fail_meets' s 100
      have : s.fail 100 = ⟨s.b, 100⟩ := by unfold Sr.fail; rw [if_pos he]
      rw [this] at m2
      refine fits_codec_source_take.meets rfl (by simp) fun Q hQ => ?_
      (conv => whnf); repeat' (first | (refine And.intro ?_ ?_; (focus (first | omega | (dsimp only; omega) | (simp only [List.length_append]; omega) | (simp [pb]; done) | (simp [pb]; omega) | (simp [zeros_u8, pb]; done) | (simp [zeros_u8, pb]; omega) | (simp [ByteArray.size]; omega) | exact Nat.le_of_ble_eq_true rfl | exact u64_nonneg _ | (show chkDraw _ _ = true; kernel_rfl) | (decide; done))); (conv => whnf)) | (refine onB_intro (fun hb => ?_) (fun hb => ?_) <;> (try simp only [decide_eq_true_eq, decide_eq_false_iff_not, Bool.not_eq_true', Bool.not_eq_false', Bool.and_eq_true, Bool.and_eq_false_iff, Int.not_le, Int.not_lt, bsz, ByteArray.toList_eq, beq_iff_eq, beq_eq_false_iff_ne, ne_eq] at hb) <;> (try (exfalso; omega)) <;> (try (exfalso; first | contradiction | (simp [ByteArray.toList_eq] at hb; done))) <;> (conv => whnf)) | (refine (hQ _ _ _ ?_).1; (conv => whnf)) | (refine ⟨_, rfl, ?_⟩; (conv => whnf)) | (refine ⟨_, mp_cut _ _ _, ?_⟩; (conv => whnf)) | (refine ⟨_, dbs_cut _ _ _, ?_⟩; (conv => whnf)) | (refine ⟨[_], rfl, ?_⟩; (conv => whnf)) | (refine ⟨[_, _], rfl, ?_⟩; (conv => whnf)) | (refine ⟨[_, _, _], rfl, ?_⟩; (conv => whnf)) | (refine ⟨[_, _, _, _], rfl, ?_⟩; (conv => whnf)) | (apply call_obj (m2) (fun F => by first | exact rfl | exact bob_ren F _ | exact ob_ren F _ _) (fun F => by first | exact rfl | exact bob_ren F _ | exact ob_ren F _ _); (focus ((repeat' (first | exact trivial | exact Sub.refl _ | exact sub_nil | exact Or.inl rfl | exact Or.inr ⟨rfl, rfl⟩ | (refine sub_ref ?_; (first | omega | (simp; done) | (simp; omega))) | (refine sub_int ?_; (first | omega | rfl | (simp [bsz]; done))) | refine sub_tup ?_ | exact sub_agg_dbs_r | exact sub_agg_take_r rfl (by first | assumption | omega) | (refine sub_agg_take rfl ?_; (first | ((try rw [dbs_length]); assumption) | ((try rw [dbs_length]); omega))) | refine sub_agg ?_ | (refine sub_val ?_ ?_ <;> (first | omega | (simp [pb, List.map_take, List.map_drop, List.take_take]; done) | (simp [pb, List.map_take, List.map_drop]; omega) | (simp [pb, List.take_of_length_le]; done))) | (refine or_val ?_ ?_ <;> (first | omega | (simp [pb, List.map_take, List.map_drop, List.take_take]; done) | (simp [pb, List.map_take, List.map_drop]; omega) | (simp [pb, List.take_of_length_le]; done))) | refine And.intro ?_ ?_)); done)); (focus (first | exact rfl | exact hp_eq rfl (dbs_app _ _ _ rfl) | exact hp_eq rfl (dbs_appo _ _ _ _ rfl rfl) | (refine hp_eq rfl ?_; (simp only [bob, ← List.length_append, dbs_appo', dbs_app', bsz]; done)) | (refine hp_eq rfl ?_; (simp [dbs, pb]; done)))); (conv => whnf)) | fail)
      all_goals (refine ret_obj rfl ?_ rfl ?_ (fun F => by first | exact rfl | (simp only [TV.rens, TV.ren, dbs_ren]; rfl) | (simp [TV.rens, TV.ren, dbs_ren, map_ren_p]; done)) (fun F => by first | exact rfl | exact bob_ren F _ | exact ob_ren F _ _); (focus ((repeat' (first | exact trivial | exact Sub.refl _ | exact sub_nil | exact Or.inl rfl | exact Or.inr ⟨rfl, rfl⟩ | (refine sub_ref ?_; (first | omega | (simp; done) | (simp; omega))) | (refine sub_int ?_; (first | omega | rfl | (simp [bsz]; done))) | refine sub_tup ?_ | exact sub_agg_dbs_r | exact sub_agg_take_r rfl (by first | assumption | omega) | (refine sub_agg_take rfl ?_; (first | ((try rw [dbs_length]); assumption) | ((try rw [dbs_length]); omega))) | refine sub_agg ?_ | (refine sub_val ?_ ?_ <;> (first | omega | (simp [pb, List.map_take, List.map_drop, List.take_take]; done) | (simp [pb, List.map_take, List.map_drop]; omega) | (simp [pb, List.take_of_length_le]; done))) | (refine or_val ?_ ?_ <;> (first | omega | (simp [pb, List.map_take, List.map_drop, List.take_take]; done) | (simp [pb, List.map_take, List.map_drop]; omega) | (simp [pb, List.take_of_length_le]; done))) | refine And.intro ?_ ?_)); done)); (first | rfl | (refine ob2_eq ?_ ?_ <;> (first | rfl | assumption | (simp only [*]; done) | (refine dv_val ?_ ?_ <;> (first | rfl | omega | (simp [pb, List.map_take, List.map_drop, List.take_of_length_le]; done) | (simp [pb, List.map_take, List.map_drop]; omega)))))))
    · rw [if_neg hn]
      refine fits_codec_source_take.meets rfl (by simp) fun Q hQ => ?_
      (conv => whnf); repeat' (first | (refine And.intro ?_ ?_; (focus (first | omega | (dsimp only; omega) | (simp only [List.length_append]; omega) | (simp [pb]; done) | (simp [pb]; omega) | (simp [zeros_u8, pb]; done) | (simp [zeros_u8, pb]; omega) | (simp [ByteArray.size]; omega) | exact Nat.le_of_ble_eq_true rfl | exact u64_nonneg _ | (show chkDraw _ _ = true; kernel_rfl) | (decide; done))); (conv => whnf)) | (refine onB_intro (fun hb => ?_) (fun hb => ?_) <;> (try simp only [decide_eq_true_eq, decide_eq_false_iff_not, Bool.not_eq_true', Bool.not_eq_false', Bool.and_eq_true, Bool.and_eq_false_iff, Int.not_le, Int.not_lt, bsz, ByteArray.toList_eq, beq_iff_eq, beq_eq_false_iff_ne, ne_eq] at hb) <;> (try (exfalso; omega)) <;> (try (exfalso; first | contradiction | (simp [ByteArray.toList_eq] at hb; done))) <;> (conv => whnf)) | (refine (hQ _ _ _ ?_).1; (conv => whnf)) | (refine ⟨_, rfl, ?_⟩; (conv => whnf)) | (refine ⟨_, mp_cut _ _ _, ?_⟩; (conv => whnf)) | (refine ⟨_, dbs_cut _ _ _, ?_⟩; (conv => whnf)) | (refine ⟨[_], rfl, ?_⟩; (conv => whnf)) | (refine ⟨[_, _], rfl, ?_⟩; (conv => whnf)) | (refine ⟨[_, _, _], rfl, ?_⟩; (conv => whnf)) | (refine ⟨[_, _, _, _], rfl, ?_⟩; (conv => whnf)) | fail)
      all_goals (refine ret_obj rfl ?_ rfl ?_ (fun F => by first | exact rfl | (simp only [TV.rens, TV.ren, dbs_ren]; rfl) | (simp [TV.rens, TV.ren, dbs_ren, map_ren_p]; done)) (fun F => by first | exact rfl | exact bob_ren F _ | exact ob_ren F _ _); (focus ((repeat' (first | exact trivial | exact Sub.refl _ | exact sub_nil | exact Or.inl rfl | exact Or.inr ⟨rfl, rfl⟩ | (refine sub_ref ?_; (first | omega | (simp; done) | (simp; omega))) | (refine sub_int ?_; (first | omega | rfl | (simp [bsz]; done))) | refine sub_tup ?_ | exact sub_agg_dbs_r | exact sub_agg_take_r rfl (by first | assumption | omega) | (refine sub_agg_take rfl ?_; (first | ((try rw [dbs_length]); assumption) | ((try rw [dbs_length]); omega))) | refine sub_agg ?_ | (refine sub_val ?_ ?_ <;> (first | omega | (simp [pb, List.map_take, List.map_drop, List.take_take]; done) | (simp [pb, List.map_take, List.map_drop]; omega) | (simp [pb, List.take_of_length_le]; done))) | (refine or_val ?_ ?_ <;> (first | omega | (simp [pb, List.map_take, List.map_drop, List.take_take]; done) | (simp [pb, List.map_take, List.map_drop]; omega) | (simp [pb, List.take_of_length_le]; done))) | refine And.intro ?_ ?_)); done)); (first | rfl | (refine ob2_eq ?_ ?_ <;> (first | rfl | assumption | (simp only [*]; done) | (refine dv_val ?_ ?_ <;> (first | rfl | omega | (simp [pb, List.map_take, List.map_drop, List.take_of_length_le]; done) | (simp [pb, List.map_take, List.map_drop]; omega)))))))
  · rw [if_neg he]
    refine fits_codec_source_take.meets rfl (by simp) fun Q hQ => ?_
    (conv => whnf); repeat' (first | (refine And.intro ?_ ?_; (focus (first | omega | (dsimp only; omega) | (simp only [List.length_append]; omega) | (simp [pb]; done) | (simp [pb]; omega) | (simp [zeros_u8, pb]; done) | (simp [zeros_u8, pb]; omega) | (simp [ByteArray.size]; omega) | exact Nat.le_of_ble_eq_true rfl | exact u64_nonneg _ | (show chkDraw _ _ = true; kernel_rfl) | (decide; done))); (conv => whnf)) | (refine onB_intro (fun hb => ?_) (fun hb => ?_) <;> (try simp only [decide_eq_true_eq, decide_eq_false_iff_not, Bool.not_eq_true', Bool.not_eq_false', Bool.and_eq_true, Bool.and_eq_false_iff, Int.not_le, Int.not_lt, bsz, ByteArray.toList_eq, beq_iff_eq, beq_eq_false_iff_ne, ne_eq] at hb) <;> (try (exfalso; omega)) <;> (try (exfalso; first | contradiction | (simp [ByteArray.toList_eq] at hb; done))) <;> (conv => whnf)) | (refine (hQ _ _ _ ?_).1; (conv => whnf)) | (refine ⟨_, rfl, ?_⟩; (conv => whnf)) | (refine ⟨_, mp_cut _ _ _, ?_⟩; (conv => whnf)) | (refine ⟨_, dbs_cut _ _ _, ?_⟩; (conv => whnf)) | (refine ⟨[_], rfl, ?_⟩; (conv => whnf)) | (refine ⟨[_, _], rfl, ?_⟩; (conv => whnf)) | (refine ⟨[_, _, _], rfl, ?_⟩; (conv => whnf)) | (refine ⟨[_, _, _, _], rfl, ?_⟩; (conv => whnf)) | fail)
    all_goals (refine ret_obj rfl ?_ rfl ?_ (fun F => by first | exact rfl | (simp only [TV.rens, TV.ren, dbs_ren]; rfl) | (simp [TV.rens, TV.ren, dbs_ren, map_ren_p]; done)) (fun F => by first | exact rfl | exact bob_ren F _ | exact ob_ren F _ _); (focus ((repeat' (first | exact trivial | exact Sub.refl _ | exact sub_nil | exact Or.inl rfl | exact Or.inr ⟨rfl, rfl⟩ | (refine sub_ref ?_; (first | omega | (simp; done) | (simp; omega))) | (refine sub_int ?_; (first | omega | rfl | (simp [bsz]; done))) | refine sub_tup ?_ | exact sub_agg_dbs_r | exact sub_agg_take_r rfl (by first | assumption | omega) | (refine sub_agg_take rfl ?_; (first | ((try rw [dbs_length]); assumption) | ((try rw [dbs_length]); omega))) | refine sub_agg ?_ | (refine sub_val ?_ ?_ <;> (first | omega | (simp [pb, List.map_take, List.map_drop, List.take_take]; done) | (simp [pb, List.map_take, List.map_drop]; omega) | (simp [pb, List.take_of_length_le]; done))) | (refine or_val ?_ ?_ <;> (first | omega | (simp [pb, List.map_take, List.map_drop, List.take_take]; done) | (simp [pb, List.map_take, List.map_drop]; omega) | (simp [pb, List.take_of_length_le]; done))) | refine And.intro ?_ ?_)); done)); (first | rfl | (refine ob2_eq ?_ ?_ <;> (first | rfl | assumption | (simp only [*]; done) | (refine dv_val ?_ ?_ <;> (first | rfl | omega | (simp [pb, List.map_take, List.map_drop, List.take_of_length_le]; done) | (simp [pb, List.map_take, List.map_drop]; omega)))))))
/-- codec.source.text -/
theorem text_meets (m : Int) (s : Sr) (hs : s.ok) : Meets Try.prog F_codec_source_text ⟨[.c (.ptr 0 0), vi m], [(0, sob s)], 1, tst (s.text m).1, [(0, sob (s.text m).2)], 1⟩ := by
  have h1 := s.count_len m
  have h2 := s.count_nonneg m
  have hs' : s.b.length ≤ 4611686018427387904 := hs
  unfold Sr.text
  dsimp only
  have m1 := count_meets m s hs
  generalize s.count m = x at m1 h1 h2 ⊢
  obtain ⟨n, t⟩ := x
  dsimp only at m1 h1 h2 ⊢
  obtain ⟨k, rfl⟩ := Int.eq_ofNat_of_zero_le h2
  have m2 := take_meets k t (by show t.b.length ≤ _; omega)
  rw [Int.toNat_natCast]
  generalize t.take k = y at m2 ⊢
  obtain ⟨l, u⟩ := y
  dsimp only at m2 ⊢
  refine fits_codec_source_text.meets rfl (by simp) fun Q hQ => ?_
  (conv => whnf); repeat' (first | (refine And.intro ?_ ?_; (focus (first | omega | (dsimp only; omega) | (simp only [List.length_append]; omega) | (simp [pb]; done) | (simp [pb]; omega) | (simp [zeros_u8, pb]; done) | (simp [zeros_u8, pb]; omega) | (simp [ByteArray.size]; omega) | exact Nat.le_of_ble_eq_true rfl | exact u64_nonneg _ | (show chkDraw _ _ = true; kernel_rfl) | (decide; done))); (conv => whnf)) | (refine onB_intro (fun hb => ?_) (fun hb => ?_) <;> (try simp only [decide_eq_true_eq, decide_eq_false_iff_not, Bool.not_eq_true', Bool.not_eq_false', Bool.and_eq_true, Bool.and_eq_false_iff, Int.not_le, Int.not_lt, bsz, ByteArray.toList_eq, beq_iff_eq, beq_eq_false_iff_ne, ne_eq] at hb) <;> (try (exfalso; omega)) <;> (try (exfalso; first | contradiction | (simp [ByteArray.toList_eq] at hb; done))) <;> (conv => whnf)) | (refine (hQ _ _ _ ?_).1; (conv => whnf)) | (refine ⟨_, rfl, ?_⟩; (conv => whnf)) | (refine ⟨_, mp_cut _ _ _, ?_⟩; (conv => whnf)) | (refine ⟨_, dbs_cut _ _ _, ?_⟩; (conv => whnf)) | (refine ⟨[_], rfl, ?_⟩; (conv => whnf)) | (refine ⟨[_, _], rfl, ?_⟩; (conv => whnf)) | (refine ⟨[_, _, _], rfl, ?_⟩; (conv => whnf)) | (refine ⟨[_, _, _, _], rfl, ?_⟩; (conv => whnf)) | (apply call_obj (m1) (fun F => by first | exact rfl | exact bob_ren F _ | exact ob_ren F _ _) (fun F => by first | exact rfl | exact bob_ren F _ | exact ob_ren F _ _); (focus ((repeat' (first | exact trivial | exact Sub.refl _ | exact sub_nil | exact Or.inl rfl | exact Or.inr ⟨rfl, rfl⟩ | (refine sub_ref ?_; (first | omega | (simp; done) | (simp; omega))) | (refine sub_int ?_; (first | omega | rfl | (simp [bsz]; done))) | refine sub_tup ?_ | exact sub_agg_dbs_r | exact sub_agg_take_r rfl (by first | assumption | omega) | (refine sub_agg_take rfl ?_; (first | ((try rw [dbs_length]); assumption) | ((try rw [dbs_length]); omega))) | refine sub_agg ?_ | (refine sub_val ?_ ?_ <;> (first | omega | (simp [pb, List.map_take, List.map_drop, List.take_take]; done) | (simp [pb, List.map_take, List.map_drop]; omega) | (simp [pb, List.take_of_length_le]; done))) | (refine or_val ?_ ?_ <;> (first | omega | (simp [pb, List.map_take, List.map_drop, List.take_take]; done) | (simp [pb, List.map_take, List.map_drop]; omega) | (simp [pb, List.take_of_length_le]; done))) | refine And.intro ?_ ?_)); done)); (focus (first | exact rfl | exact hp_eq rfl (dbs_app _ _ _ rfl) | exact hp_eq rfl (dbs_appo _ _ _ _ rfl rfl) | (refine hp_eq rfl ?_; (simp only [bob, ← List.length_append, dbs_appo', dbs_app', bsz]; done)) | (refine hp_eq rfl ?_; (simp [dbs, pb]; done)))); (conv => whnf)) | (apply call_obj (m2) (fun F => by first | exact rfl | exact bob_ren F _ | exact ob_ren F _ _) (fun F => by first | exact rfl | exact bob_ren F _ | exact ob_ren F _ _); (focus ((repeat' (first | exact trivial | exact Sub.refl _ | exact sub_nil | exact Or.inl rfl | exact Or.inr ⟨rfl, rfl⟩ | (refine sub_ref ?_; (first | omega | (simp; done) | (simp; omega))) | (refine sub_int ?_; (first | omega | rfl | (simp [bsz]; done))) | refine sub_tup ?_ | exact sub_agg_dbs_r | exact sub_agg_take_r rfl (by first | assumption | omega) | (refine sub_agg_take rfl ?_; (first | ((try rw [dbs_length]); assumption) | ((try rw [dbs_length]); omega))) | refine sub_agg ?_ | (refine sub_val ?_ ?_ <;> (first | omega | (simp [pb, List.map_take, List.map_drop, List.take_take]; done) | (simp [pb, List.map_take, List.map_drop]; omega) | (simp [pb, List.take_of_length_le]; done))) | (refine or_val ?_ ?_ <;> (first | omega | (simp [pb, List.map_take, List.map_drop, List.take_take]; done) | (simp [pb, List.map_take, List.map_drop]; omega) | (simp [pb, List.take_of_length_le]; done))) | refine And.intro ?_ ?_)); done)); (focus (first | exact rfl | exact hp_eq rfl (dbs_app _ _ _ rfl) | exact hp_eq rfl (dbs_appo _ _ _ _ rfl rfl) | (refine hp_eq rfl ?_; (simp only [bob, ← List.length_append, dbs_appo', dbs_app', bsz]; done)) | (refine hp_eq rfl ?_; (simp [dbs, pb]; done)))); (conv => whnf)) | fail)
  all_goals (refine ret_obj rfl ?_ rfl ?_ (fun F => by first | exact rfl | (simp only [TV.rens, TV.ren, dbs_ren]; rfl) | (simp [TV.rens, TV.ren, dbs_ren, map_ren_p]; done)) (fun F => by first | exact rfl | exact bob_ren F _ | exact ob_ren F _ _); (focus ((repeat' (first | exact trivial | exact Sub.refl _ | exact sub_nil | exact Or.inl rfl | exact Or.inr ⟨rfl, rfl⟩ | (refine sub_ref ?_; (first | omega | (simp; done) | (simp; omega))) | (refine sub_int ?_; (first | omega | rfl | (simp [bsz]; done))) | refine sub_tup ?_ | exact sub_agg_dbs_r | exact sub_agg_take_r rfl (by first | assumption | omega) | (refine sub_agg_take rfl ?_; (first | ((try rw [dbs_length]); assumption) | ((try rw [dbs_length]); omega))) | refine sub_agg ?_ | (refine sub_val ?_ ?_ <;> (first | omega | (simp [pb, List.map_take, List.map_drop, List.take_take]; done) | (simp [pb, List.map_take, List.map_drop]; omega) | (simp [pb, List.take_of_length_le]; done))) | (refine or_val ?_ ?_ <;> (first | omega | (simp [pb, List.map_take, List.map_drop, List.take_take]; done) | (simp [pb, List.map_take, List.map_drop]; omega) | (simp [pb, List.take_of_length_le]; done))) | refine And.intro ?_ ?_)); done)); (first | rfl | (refine ob2_eq ?_ ?_ <;> (first | rfl | assumption | (simp only [*]; done) | (refine dv_val ?_ ?_ <;> (first | rfl | omega | (simp [pb, List.map_take, List.map_drop, List.take_of_length_le]; done) | (simp [pb, List.map_take, List.map_drop]; omega)))))))
/-- codec.source.value -/
theorem value_meets (s : Sr) (hs : s.ok) : Meets Try.prog F_codec_source_value ⟨[.c (.ptr 0 0)], [(0, sob s)], 1, .agg s.value.1.enc, [(0, sob s.value.2)], 1⟩ := by
  have hs' : s.b.length ≤ 4611686018427387904 := hs
  unfold Sr.value
  dsimp only
  have m1 := count_meets 2 s hs
  have l1 := s.count_len 2
  generalize s.count 2 = x at m1 l1 ⊢
  obtain ⟨n, t⟩ := x
  dsimp only at m1 l1 ⊢
  have ht : t.ok := by show t.b.length ≤ _; omega
  by_cases h1 : n = 1
  · subst h1
    rw [if_pos rfl]
    have m2 := integer_meets t ht
    have l2 := t.int_len
    generalize t.int = x at m2 l2 ⊢
    obtain ⟨v, u⟩ := x
    dsimp only at m2 l2 ⊢
    by_cases hv : v < -4294967296 ∨ 4294967296 < v
    · rw [if_pos hv]
      have m3 := fail_meets' u 1
      generalize u.fail 1 = w at m3 ⊢
      refine fits_codec_source_value.meets rfl (by simp) fun Q hQ => ?_
      (conv => whnf); repeat' (first | (refine And.intro ?_ ?_; (focus (first | omega | (dsimp only; omega) | (simp only [List.length_append]; omega) | (simp [pb]; done) | (simp [pb]; omega) | (simp [zeros_u8, pb]; done) | (simp [zeros_u8, pb]; omega) | (simp [ByteArray.size]; omega) | exact Nat.le_of_ble_eq_true rfl | exact u64_nonneg _ | (show chkDraw _ _ = true; kernel_rfl) | (decide; done))); (conv => whnf)) | (refine onB_intro (fun hb => ?_) (fun hb => ?_) <;> (try simp only [decide_eq_true_eq, decide_eq_false_iff_not, Bool.not_eq_true', Bool.not_eq_false', Bool.and_eq_true, Bool.and_eq_false_iff, Int.not_le, Int.not_lt, bsz, ByteArray.toList_eq, beq_iff_eq, beq_eq_false_iff_ne, ne_eq] at hb) <;> (try (exfalso; omega)) <;> (try (exfalso; first | contradiction | (simp [ByteArray.toList_eq] at hb; done))) <;> (conv => whnf)) | (refine (hQ _ _ _ ?_).1; (conv => whnf)) | (refine ⟨_, rfl, ?_⟩; (conv => whnf)) | (refine ⟨_, mp_cut _ _ _, ?_⟩; (conv => whnf)) | (refine ⟨_, dbs_cut _ _ _, ?_⟩; (conv => whnf)) | (refine ⟨[_], rfl, ?_⟩; (conv => whnf)) | (refine ⟨[_, _], rfl, ?_⟩; (conv => whnf)) | (refine ⟨[_, _, _], rfl, ?_⟩; (conv => whnf)) | (refine ⟨[_, _, _, _], rfl, ?_⟩; (conv => whnf)) | (apply call_obj (m1) (fun F => by first | exact rfl | exact bob_ren F _ | exact ob_ren F _ _) (fun F => by first | exact rfl | exact bob_ren F _ | exact ob_ren F _ _); (focus ((repeat' (first | exact trivial | exact Sub.refl _ | exact sub_nil | exact Or.inl rfl | exact Or.inr ⟨rfl, rfl⟩ | (refine sub_ref ?_; (first | omega | (simp; done) | (simp; omega))) | (refine sub_int ?_; (first | omega | rfl | (simp [bsz]; done))) | refine sub_tup ?_ | exact sub_agg_dbs_r | exact sub_agg_take_r rfl (by first | assumption | omega) | (refine sub_agg_take rfl ?_; (first | ((try rw [dbs_length]); assumption) | ((try rw [dbs_length]); omega))) | refine sub_agg ?_ | (refine sub_val ?_ ?_ <;> (first | omega | (simp [pb, List.map_take, List.map_drop, List.take_take]; done) | (simp [pb, List.map_take, List.map_drop]; omega) | (simp [pb, List.take_of_length_le]; done))) | (refine or_val ?_ ?_ <;> (first | omega | (simp [pb, List.map_take, List.map_drop, List.take_take]; done) | (simp [pb, List.map_take, List.map_drop]; omega) | (simp [pb, List.take_of_length_le]; done))) | refine And.intro ?_ ?_)); done)); (focus (first | exact rfl | exact hp_eq rfl (dbs_app _ _ _ rfl) | exact hp_eq rfl (dbs_appo _ _ _ _ rfl rfl) | (refine hp_eq rfl ?_; (simp only [bob, ← List.length_append, dbs_appo', dbs_app', bsz]; done)) | (refine hp_eq rfl ?_; (simp [dbs, pb]; done)))); (conv => whnf)) | (apply call_obj (m2) (fun F => by first | exact rfl | exact bob_ren F _ | exact ob_ren F _ _) (fun F => by first | exact rfl | exact bob_ren F _ | exact ob_ren F _ _); (focus ((repeat' (first | exact trivial | exact Sub.refl _ | exact sub_nil | exact Or.inl rfl | exact Or.inr ⟨rfl, rfl⟩ | (refine sub_ref ?_; (first | omega | (simp; done) | (simp; omega))) | (refine sub_int ?_; (first | omega | rfl | (simp [bsz]; done))) | refine sub_tup ?_ | exact sub_agg_dbs_r | exact sub_agg_take_r rfl (by first | assumption | omega) | (refine sub_agg_take rfl ?_; (first | ((try rw [dbs_length]); assumption) | ((try rw [dbs_length]); omega))) | refine sub_agg ?_ | (refine sub_val ?_ ?_ <;> (first | omega | (simp [pb, List.map_take, List.map_drop, List.take_take]; done) | (simp [pb, List.map_take, List.map_drop]; omega) | (simp [pb, List.take_of_length_le]; done))) | (refine or_val ?_ ?_ <;> (first | omega | (simp [pb, List.map_take, List.map_drop, List.take_take]; done) | (simp [pb, List.map_take, List.map_drop]; omega) | (simp [pb, List.take_of_length_le]; done))) | refine And.intro ?_ ?_)); done)); (focus (first | exact rfl | exact hp_eq rfl (dbs_app _ _ _ rfl) | exact hp_eq rfl (dbs_appo _ _ _ _ rfl rfl) | (refine hp_eq rfl ?_; (simp only [bob, ← List.length_append, dbs_appo', dbs_app', bsz]; done)) | (refine hp_eq rfl ?_; (simp [dbs, pb]; done)))); (conv => whnf)) | (apply call_obj (m3) (fun F => by first | exact rfl | exact bob_ren F _ | exact ob_ren F _ _) (fun F => by first | exact rfl | exact bob_ren F _ | exact ob_ren F _ _); (focus ((repeat' (first | exact trivial | exact Sub.refl _ | exact sub_nil | exact Or.inl rfl | exact Or.inr ⟨rfl, rfl⟩ | (refine sub_ref ?_; (first | omega | (simp; done) | (simp; omega))) | (refine sub_int ?_; (first | omega | rfl | (simp [bsz]; done))) | refine sub_tup ?_ | exact sub_agg_dbs_r | exact sub_agg_take_r rfl (by first | assumption | omega) | (refine sub_agg_take rfl ?_; (first | ((try rw [dbs_length]); assumption) | ((try rw [dbs_length]); omega))) | refine sub_agg ?_ | (refine sub_val ?_ ?_ <;> (first | omega | (simp [pb, List.map_take, List.map_drop, List.take_take]; done) | (simp [pb, List.map_take, List.map_drop]; omega) | (simp [pb, List.take_of_length_le]; done))) | (refine or_val ?_ ?_ <;> (first | omega | (simp [pb, List.map_take, List.map_drop, List.take_take]; done) | (simp [pb, List.map_take, List.map_drop]; omega) | (simp [pb, List.take_of_length_le]; done))) | refine And.intro ?_ ?_)); done)); (focus (first | exact rfl | exact hp_eq rfl (dbs_app _ _ _ rfl) | exact hp_eq rfl (dbs_appo _ _ _ _ rfl rfl) | (refine hp_eq rfl ?_; (simp only [bob, ← List.length_append, dbs_appo', dbs_app', bsz]; done)) | (refine hp_eq rfl ?_; (simp [dbs, pb]; done)))); (conv => whnf)) | fail)
      all_goals (refine ret_obj rfl ?_ rfl ?_ (fun F => by first | exact rfl | (simp only [TV.rens, TV.ren, dbs_ren]; rfl) | (simp [TV.rens, TV.ren, dbs_ren, map_ren_p]; done)) (fun F => by first | exact rfl | exact bob_ren F _ | exact ob_ren F _ _); (focus ((repeat' (first | exact trivial | exact Sub.refl _ | exact sub_nil | exact Or.inl rfl | exact Or.inr ⟨rfl, rfl⟩ | (refine sub_ref ?_; (first | omega | (simp; done) | (simp; omega))) | (refine sub_int ?_; (first | omega | rfl | (simp [bsz]; done))) | refine sub_tup ?_ | exact sub_agg_dbs_r | exact sub_agg_take_r rfl (by first | assumption | omega) | (refine sub_agg_take rfl ?_; (first | ((try rw [dbs_length]); assumption) | ((try rw [dbs_length]); omega))) | refine sub_agg ?_ | (refine sub_val ?_ ?_ <;> (first | omega | (simp [pb, List.map_take, List.map_drop, List.take_take]; done) | (simp [pb, List.map_take, List.map_drop]; omega) | (simp [pb, List.take_of_length_le]; done))) | (refine or_val ?_ ?_ <;> (first | omega | (simp [pb, List.map_take, List.map_drop, List.take_take]; done) | (simp [pb, List.map_take, List.map_drop]; omega) | (simp [pb, List.take_of_length_le]; done))) | refine And.intro ?_ ?_)); done)); (first | rfl | (refine ob2_eq ?_ ?_ <;> (first | rfl | assumption | (simp only [*]; done) | (refine dv_val ?_ ?_ <;> (first | rfl | omega | (simp [pb, List.map_take, List.map_drop, List.take_of_length_le]; done) | (simp [pb, List.map_take, List.map_drop]; omega)))))))
    · rw [if_neg hv]
      refine fits_codec_source_value.meets rfl (by simp) fun Q hQ => ?_
      (conv => whnf); repeat' (first | (refine And.intro ?_ ?_; (focus (first | omega | (dsimp only; omega) | (simp only [List.length_append]; omega) | (simp [pb]; done) | (simp [pb]; omega) | (simp [zeros_u8, pb]; done) | (simp [zeros_u8, pb]; omega) | (simp [ByteArray.size]; omega) | exact Nat.le_of_ble_eq_true rfl | exact u64_nonneg _ | (show chkDraw _ _ = true; kernel_rfl) | (decide; done))); (conv => whnf)) | (refine onB_intro (fun hb => ?_) (fun hb => ?_) <;> (try simp only [decide_eq_true_eq, decide_eq_false_iff_not, Bool.not_eq_true', Bool.not_eq_false', Bool.and_eq_true, Bool.and_eq_false_iff, Int.not_le, Int.not_lt, bsz, ByteArray.toList_eq, beq_iff_eq, beq_eq_false_iff_ne, ne_eq] at hb) <;> (try (exfalso; omega)) <;> (try (exfalso; first | contradiction | (simp [ByteArray.toList_eq] at hb; done))) <;> (conv => whnf)) | (refine (hQ _ _ _ ?_).1; (conv => whnf)) | (refine ⟨_, rfl, ?_⟩; (conv => whnf)) | (refine ⟨_, mp_cut _ _ _, ?_⟩; (conv => whnf)) | (refine ⟨_, dbs_cut _ _ _, ?_⟩; (conv => whnf)) | (refine ⟨[_], rfl, ?_⟩; (conv => whnf)) | (refine ⟨[_, _], rfl, ?_⟩; (conv => whnf)) | (refine ⟨[_, _, _], rfl, ?_⟩; (conv => whnf)) | (refine ⟨[_, _, _, _], rfl, ?_⟩; (conv => whnf)) | (apply call_obj (m1) (fun F => by first | exact rfl | exact bob_ren F _ | exact ob_ren F _ _) (fun F => by first | exact rfl | exact bob_ren F _ | exact ob_ren F _ _); (focus ((repeat' (first | exact trivial | exact Sub.refl _ | exact sub_nil | exact Or.inl rfl | exact Or.inr ⟨rfl, rfl⟩ | (refine sub_ref ?_; (first | omega | (simp; done) | (simp; omega))) | (refine sub_int ?_; (first | omega | rfl | (simp [bsz]; done))) | refine sub_tup ?_ | exact sub_agg_dbs_r | exact sub_agg_take_r rfl (by first | assumption | omega) | (refine sub_agg_take rfl ?_; (first | ((try rw [dbs_length]); assumption) | ((try rw [dbs_length]); omega))) | refine sub_agg ?_ | (refine sub_val ?_ ?_ <;> (first | omega | (simp [pb, List.map_take, List.map_drop, List.take_take]; done) | (simp [pb, List.map_take, List.map_drop]; omega) | (simp [pb, List.take_of_length_le]; done))) | (refine or_val ?_ ?_ <;> (first | omega | (simp [pb, List.map_take, List.map_drop, List.take_take]; done) | (simp [pb, List.map_take, List.map_drop]; omega) | (simp [pb, List.take_of_length_le]; done))) | refine And.intro ?_ ?_)); done)); (focus (first | exact rfl | exact hp_eq rfl (dbs_app _ _ _ rfl) | exact hp_eq rfl (dbs_appo _ _ _ _ rfl rfl) | (refine hp_eq rfl ?_; (simp only [bob, ← List.length_append, dbs_appo', dbs_app', bsz]; done)) | (refine hp_eq rfl ?_; (simp [dbs, pb]; done)))); (conv => whnf)) | (apply call_obj (m2) (fun F => by first | exact rfl | exact bob_ren F _ | exact ob_ren F _ _) (fun F => by first | exact rfl | exact bob_ren F _ | exact ob_ren F _ _); (focus ((repeat' (first | exact trivial | exact Sub.refl _ | exact sub_nil | exact Or.inl rfl | exact Or.inr ⟨rfl, rfl⟩ | (refine sub_ref ?_; (first | omega | (simp; done) | (simp; omega))) | (refine sub_int ?_; (first | omega | rfl | (simp [bsz]; done))) | refine sub_tup ?_ | exact sub_agg_dbs_r | exact sub_agg_take_r rfl (by first | assumption | omega) | (refine sub_agg_take rfl ?_; (first | ((try rw [dbs_length]); assumption) | ((try rw [dbs_length]); omega))) | refine sub_agg ?_ | (refine sub_val ?_ ?_ <;> (first | omega | (simp [pb, List.map_take, List.map_drop, List.take_take]; done) | (simp [pb, List.map_take, List.map_drop]; omega) | (simp [pb, List.take_of_length_le]; done))) | (refine or_val ?_ ?_ <;> (first | omega | (simp [pb, List.map_take, List.map_drop, List.take_take]; done) | (simp [pb, List.map_take, List.map_drop]; omega) | (simp [pb, List.take_of_length_le]; done))) | refine And.intro ?_ ?_)); done)); (focus (first | exact rfl | exact hp_eq rfl (dbs_app _ _ _ rfl) | exact hp_eq rfl (dbs_appo _ _ _ _ rfl rfl) | (refine hp_eq rfl ?_; (simp only [bob, ← List.length_append, dbs_appo', dbs_app', bsz]; done)) | (refine hp_eq rfl ?_; (simp [dbs, pb]; done)))); (conv => whnf)) | fail)
      all_goals (refine ret_obj rfl ?_ rfl ?_ (fun F => by first | exact rfl | (simp only [TV.rens, TV.ren, dbs_ren]; rfl) | (simp [TV.rens, TV.ren, dbs_ren, map_ren_p]; done)) (fun F => by first | exact rfl | exact bob_ren F _ | exact ob_ren F _ _); (focus ((repeat' (first | exact trivial | exact Sub.refl _ | exact sub_nil | exact Or.inl rfl | exact Or.inr ⟨rfl, rfl⟩ | (refine sub_ref ?_; (first | omega | (simp; done) | (simp; omega))) | (refine sub_int ?_; (first | omega | rfl | (simp [bsz]; done))) | refine sub_tup ?_ | exact sub_agg_dbs_r | exact sub_agg_take_r rfl (by first | assumption | omega) | (refine sub_agg_take rfl ?_; (first | ((try rw [dbs_length]); assumption) | ((try rw [dbs_length]); omega))) | refine sub_agg ?_ | (refine sub_val ?_ ?_ <;> (first | omega | (simp [pb, List.map_take, List.map_drop, List.take_take]; done) | (simp [pb, List.map_take, List.map_drop]; omega) | (simp [pb, List.take_of_length_le]; done))) | (refine or_val ?_ ?_ <;> (first | omega | (simp [pb, List.map_take, List.map_drop, List.take_take]; done) | (simp [pb, List.map_take, List.map_drop]; omega) | (simp [pb, List.take_of_length_le]; done))) | refine And.intro ?_ ?_)); done)); (first | rfl | (refine ob2_eq ?_ ?_ <;> (first | rfl | assumption | (simp only [*]; done) | (refine dv_val ?_ ?_ <;> (first | rfl | omega | (simp [pb, List.map_take, List.map_drop, List.take_of_length_le]; done) | (simp [pb, List.map_take, List.map_drop]; omega)))))))
  · rw [if_neg h1]
    by_cases h2 : n = 2
    · subst h2
      rw [if_pos rfl]
      have m2 := text_meets 32 t ht
      have l2 := t.text_len 32
      generalize t.text 32 = x at m2 l2 ⊢
      obtain ⟨v, u⟩ := x
      dsimp only at m2 l2 ⊢
      refine fits_codec_source_value.meets rfl (by simp) fun Q hQ => ?_
      (conv => whnf); repeat' (first | (refine And.intro ?_ ?_; (focus (first | omega | (dsimp only; omega) | (simp only [List.length_append]; omega) | (simp [pb]; done) | (simp [pb]; omega) | (simp [zeros_u8, pb]; done) | (simp [zeros_u8, pb]; omega) | (simp [ByteArray.size]; omega) | exact Nat.le_of_ble_eq_true rfl | exact u64_nonneg _ | (show chkDraw _ _ = true; kernel_rfl) | (decide; done))); (conv => whnf)) | (refine onB_intro (fun hb => ?_) (fun hb => ?_) <;> (try simp only [decide_eq_true_eq, decide_eq_false_iff_not, Bool.not_eq_true', Bool.not_eq_false', Bool.and_eq_true, Bool.and_eq_false_iff, Int.not_le, Int.not_lt, bsz, ByteArray.toList_eq, beq_iff_eq, beq_eq_false_iff_ne, ne_eq] at hb) <;> (try (exfalso; omega)) <;> (try (exfalso; first | contradiction | (simp [ByteArray.toList_eq] at hb; done))) <;> (conv => whnf)) | (refine (hQ _ _ _ ?_).1; (conv => whnf)) | (refine ⟨_, rfl, ?_⟩; (conv => whnf)) | (refine ⟨_, mp_cut _ _ _, ?_⟩; (conv => whnf)) | (refine ⟨_, dbs_cut _ _ _, ?_⟩; (conv => whnf)) | (refine ⟨[_], rfl, ?_⟩; (conv => whnf)) | (refine ⟨[_, _], rfl, ?_⟩; (conv => whnf)) | (refine ⟨[_, _, _], rfl, ?_⟩; (conv => whnf)) | (refine ⟨[_, _, _, _], rfl, ?_⟩; (conv => whnf)) | (apply call_obj (m1) (fun F => by first | exact rfl | exact bob_ren F _ | exact ob_ren F _ _) (fun F => by first | exact rfl | exact bob_ren F _ | exact ob_ren F _ _); (focus ((repeat' (first | exact trivial | exact Sub.refl _ | exact sub_nil | exact Or.inl rfl | exact Or.inr ⟨rfl, rfl⟩ | (refine sub_ref ?_; (first | omega | (simp; done) | (simp; omega))) | (refine sub_int ?_; (first | omega | rfl | (simp [bsz]; done))) | refine sub_tup ?_ | exact sub_agg_dbs_r | exact sub_agg_take_r rfl (by first | assumption | omega) | (refine sub_agg_take rfl ?_; (first | ((try rw [dbs_length]); assumption) | ((try rw [dbs_length]); omega))) | refine sub_agg ?_ | (refine sub_val ?_ ?_ <;> (first | omega | (simp [pb, List.map_take, List.map_drop, List.take_take]; done) | (simp [pb, List.map_take, List.map_drop]; omega) | (simp [pb, List.take_of_length_le]; done))) | (refine or_val ?_ ?_ <;> (first | omega | (simp [pb, List.map_take, List.map_drop, List.take_take]; done) | (simp [pb, List.map_take, List.map_drop]; omega) | (simp [pb, List.take_of_length_le]; done))) | refine And.intro ?_ ?_)); done)); (focus (first | exact rfl | exact hp_eq rfl (dbs_app _ _ _ rfl) | exact hp_eq rfl (dbs_appo _ _ _ _ rfl rfl) | (refine hp_eq rfl ?_; (simp only [bob, ← List.length_append, dbs_appo', dbs_app', bsz]; done)) | (refine hp_eq rfl ?_; (simp [dbs, pb]; done)))); (conv => whnf)) | (apply call_obj (m2) (fun F => by first | exact rfl | exact bob_ren F _ | exact ob_ren F _ _) (fun F => by first | exact rfl | exact bob_ren F _ | exact ob_ren F _ _); (focus ((repeat' (first | exact trivial | exact Sub.refl _ | exact sub_nil | exact Or.inl rfl | exact Or.inr ⟨rfl, rfl⟩ | (refine sub_ref ?_; (first | omega | (simp; done) | (simp; omega))) | (refine sub_int ?_; (first | omega | rfl | (simp [bsz]; done))) | refine sub_tup ?_ | exact sub_agg_dbs_r | exact sub_agg_take_r rfl (by first | assumption | omega) | (refine sub_agg_take rfl ?_; (first | ((try rw [dbs_length]); assumption) | ((try rw [dbs_length]); omega))) | refine sub_agg ?_ | (refine sub_val ?_ ?_ <;> (first | omega | (simp [pb, List.map_take, List.map_drop, List.take_take]; done) | (simp [pb, List.map_take, List.map_drop]; omega) | (simp [pb, List.take_of_length_le]; done))) | (refine or_val ?_ ?_ <;> (first | omega | (simp [pb, List.map_take, List.map_drop, List.take_take]; done) | (simp [pb, List.map_take, List.map_drop]; omega) | (simp [pb, List.take_of_length_le]; done))) | refine And.intro ?_ ?_)); done)); (focus (first | exact rfl | exact hp_eq rfl (dbs_app _ _ _ rfl) | exact hp_eq rfl (dbs_appo _ _ _ _ rfl rfl) | (refine hp_eq rfl ?_; (simp only [bob, ← List.length_append, dbs_appo', dbs_app', bsz]; done)) | (refine hp_eq rfl ?_; (simp [dbs, pb]; done)))); (conv => whnf)) | fail)
      all_goals (refine ret_obj rfl ?_ rfl ?_ (fun F => by first | exact rfl | (simp only [TV.rens, TV.ren, dbs_ren]; rfl) | (simp [TV.rens, TV.ren, dbs_ren, map_ren_p]; done)) (fun F => by first | exact rfl | exact bob_ren F _ | exact ob_ren F _ _); (focus ((repeat' (first | exact trivial | exact Sub.refl _ | exact sub_nil | exact Or.inl rfl | exact Or.inr ⟨rfl, rfl⟩ | (refine sub_ref ?_; (first | omega | (simp; done) | (simp; omega))) | (refine sub_int ?_; (first | omega | rfl | (simp [bsz]; done))) | refine sub_tup ?_ | exact sub_agg_dbs_r | exact sub_agg_take_r rfl (by first | assumption | omega) | (refine sub_agg_take rfl ?_; (first | ((try rw [dbs_length]); assumption) | ((try rw [dbs_length]); omega))) | refine sub_agg ?_ | (refine sub_val ?_ ?_ <;> (first | omega | (simp [pb, List.map_take, List.map_drop, List.take_take]; done) | (simp [pb, List.map_take, List.map_drop]; omega) | (simp [pb, List.take_of_length_le]; done))) | (refine or_val ?_ ?_ <;> (first | omega | (simp [pb, List.map_take, List.map_drop, List.take_take]; done) | (simp [pb, List.map_take, List.map_drop]; omega) | (simp [pb, List.take_of_length_le]; done))) | refine And.intro ?_ ?_)); done)); (first | rfl | (refine ob2_eq ?_ ?_ <;> (first | rfl | assumption | (simp only [*]; done) | (refine dv_val ?_ ?_ <;> (first | rfl | omega | (simp [pb, List.map_take, List.map_drop, List.take_of_length_le]; done) | (simp [pb, List.map_take, List.map_drop]; omega)))))))
    · rw [if_neg h2]
      refine fits_codec_source_value.meets rfl (by simp) fun Q hQ => ?_
      (conv => whnf); repeat' (first | (refine And.intro ?_ ?_; (focus (first | omega | (dsimp only; omega) | (simp only [List.length_append]; omega) | (simp [pb]; done) | (simp [pb]; omega) | (simp [zeros_u8, pb]; done) | (simp [zeros_u8, pb]; omega) | (simp [ByteArray.size]; omega) | exact Nat.le_of_ble_eq_true rfl | exact u64_nonneg _ | (show chkDraw _ _ = true; kernel_rfl) | (decide; done))); (conv => whnf)) | (refine onB_intro (fun hb => ?_) (fun hb => ?_) <;> (try simp only [decide_eq_true_eq, decide_eq_false_iff_not, Bool.not_eq_true', Bool.not_eq_false', Bool.and_eq_true, Bool.and_eq_false_iff, Int.not_le, Int.not_lt, bsz, ByteArray.toList_eq, beq_iff_eq, beq_eq_false_iff_ne, ne_eq] at hb) <;> (try (exfalso; omega)) <;> (try (exfalso; first | contradiction | (simp [ByteArray.toList_eq] at hb; done))) <;> (conv => whnf)) | (refine (hQ _ _ _ ?_).1; (conv => whnf)) | (refine ⟨_, rfl, ?_⟩; (conv => whnf)) | (refine ⟨_, mp_cut _ _ _, ?_⟩; (conv => whnf)) | (refine ⟨_, dbs_cut _ _ _, ?_⟩; (conv => whnf)) | (refine ⟨[_], rfl, ?_⟩; (conv => whnf)) | (refine ⟨[_, _], rfl, ?_⟩; (conv => whnf)) | (refine ⟨[_, _, _], rfl, ?_⟩; (conv => whnf)) | (refine ⟨[_, _, _, _], rfl, ?_⟩; (conv => whnf)) | (apply call_obj (m1) (fun F => by first | exact rfl | exact bob_ren F _ | exact ob_ren F _ _) (fun F => by first | exact rfl | exact bob_ren F _ | exact ob_ren F _ _); (focus ((repeat' (first | exact trivial | exact Sub.refl _ | exact sub_nil | exact Or.inl rfl | exact Or.inr ⟨rfl, rfl⟩ | (refine sub_ref ?_; (first | omega | (simp; done) | (simp; omega))) | (refine sub_int ?_; (first | omega | rfl | (simp [bsz]; done))) | refine sub_tup ?_ | exact sub_agg_dbs_r | exact sub_agg_take_r rfl (by first | assumption | omega) | (refine sub_agg_take rfl ?_; (first | ((try rw [dbs_length]); assumption) | ((try rw [dbs_length]); omega))) | refine sub_agg ?_ | (refine sub_val ?_ ?_ <;> (first | omega | (simp [pb, List.map_take, List.map_drop, List.take_take]; done) | (simp [pb, List.map_take, List.map_drop]; omega) | (simp [pb, List.take_of_length_le]; done))) | (refine or_val ?_ ?_ <;> (first | omega | (simp [pb, List.map_take, List.map_drop, List.take_take]; done) | (simp [pb, List.map_take, List.map_drop]; omega) | (simp [pb, List.take_of_length_le]; done))) | refine And.intro ?_ ?_)); done)); (focus (first | exact rfl | exact hp_eq rfl (dbs_app _ _ _ rfl) | exact hp_eq rfl (dbs_appo _ _ _ _ rfl rfl) | (refine hp_eq rfl ?_; (simp only [bob, ← List.length_append, dbs_appo', dbs_app', bsz]; done)) | (refine hp_eq rfl ?_; (simp [dbs, pb]; done)))); (conv => whnf)) | fail)
      all_goals (refine ret_obj rfl ?_ rfl ?_ (fun F => by first | exact rfl | (simp only [TV.rens, TV.ren, dbs_ren]; rfl) | (simp [TV.rens, TV.ren, dbs_ren, map_ren_p]; done)) (fun F => by first | exact rfl | exact bob_ren F _ | exact ob_ren F _ _); (focus ((repeat' (first | exact trivial | exact Sub.refl _ | exact sub_nil | exact Or.inl rfl | exact Or.inr ⟨rfl, rfl⟩ | (refine sub_ref ?_; (first | omega | (simp; done) | (simp; omega))) | (refine sub_int ?_; (first | omega | rfl | (simp [bsz]; done))) | refine sub_tup ?_ | exact sub_agg_dbs_r | exact sub_agg_take_r rfl (by first | assumption | omega) | (refine sub_agg_take rfl ?_; (first | ((try rw [dbs_length]); assumption) | ((try rw [dbs_length]); omega))) | refine sub_agg ?_ | (refine sub_val ?_ ?_ <;> (first | omega | (simp [pb, List.map_take, List.map_drop, List.take_take]; done) | (simp [pb, List.map_take, List.map_drop]; omega) | (simp [pb, List.take_of_length_le]; done))) | (refine or_val ?_ ?_ <;> (first | omega | (simp [pb, List.map_take, List.map_drop, List.take_take]; done) | (simp [pb, List.map_take, List.map_drop]; omega) | (simp [pb, List.take_of_length_le]; done))) | refine And.intro ?_ ?_)); done)); (first | rfl | (refine ob2_eq ?_ ?_ <;> (first | rfl | assumption | (simp only [*]; done) | (refine dv_val ?_ ?_ <;> (first | rfl | omega | (simp [pb, List.map_take, List.map_drop, List.take_of_length_le]; done) | (simp [pb, List.map_take, List.map_drop]; omega)))))))
end Go.Proofs.Ytjieenfbfckafaa.Am
namespace Go.Proofs.Ytjieenfbfckafaa.Am
open Go
set_option linter.unusedVariables false
set_option linter.unusedSimpArgs false
set_option maxRecDepth 100000
set_option maxHeartbeats 1000000
/-- codec.source.row -/
theorem row_meets (s : Sr) (hs : s.b.length ≤ 70368744177664) : Meets Try.prog F_codec_source_row ⟨[.c (.ptr 0 0)], [(0, sob s)], 1, .c (dvals s.row.1), [(0, sob s.row.2)], 1⟩ := by
  have hr := s.count_range 16 (by omega)
  unfold Sr.row Sr.list
  dsimp only
  have m1 := count_meets 16 s (by show s.b.length ≤ _; omega)
  have l1 := s.count_len 16
  generalize s.count 16 = x at m1 l1 hr ⊢
  obtain ⟨c, t⟩ := x
  dsimp only at m1 l1 hr ⊢
  obtain ⟨n, rfl⟩ := Int.eq_ofNat_of_zero_le hr.1
  rw [Int.toNat_natCast]
  refine fits_codec_source_row.meets rfl (by simp) fun Q hQ => ?_
  (conv => whnf); repeat' (first | (refine And.intro ?_ ?_; (focus (first | omega | (dsimp only; omega) | (simp only [List.length_append]; omega) | (simp [pb]; done) | (simp [pb]; omega) | (simp [zeros_u8, pb]; done) | (simp [zeros_u8, pb]; omega) | (simp [ByteArray.size]; omega) | exact Nat.le_of_ble_eq_true rfl | exact u64_nonneg _ | (show chkDraw _ _ = true; kernel_rfl) | (decide; done))); (conv => whnf)) | (refine onB_intro (fun hb => ?_) (fun hb => ?_) <;> (try simp only [decide_eq_true_eq, decide_eq_false_iff_not, Bool.not_eq_true', Bool.not_eq_false', Bool.and_eq_true, Bool.and_eq_false_iff, Int.not_le, Int.not_lt, bsz, ByteArray.toList_eq, beq_iff_eq, beq_eq_false_iff_ne, ne_eq] at hb) <;> (try (exfalso; omega)) <;> (try (exfalso; first | contradiction | (simp [ByteArray.toList_eq] at hb; done))) <;> (conv => whnf)) | (refine (hQ _ _ _ ?_).1; (conv => whnf)) | (refine ⟨_, rfl, ?_⟩; (conv => whnf)) | (refine ⟨_, mp_cut _ _ _, ?_⟩; (conv => whnf)) | (refine ⟨_, dbs_cut _ _ _, ?_⟩; (conv => whnf)) | (refine ⟨[_], rfl, ?_⟩; (conv => whnf)) | (refine ⟨[_, _], rfl, ?_⟩; (conv => whnf)) | (refine ⟨[_, _, _], rfl, ?_⟩; (conv => whnf)) | (refine ⟨[_, _, _, _], rfl, ?_⟩; (conv => whnf)) | (apply call_obj (m1) (fun F => by first | exact rfl | exact bob_ren F _ | exact ob_ren F _ _) (fun F => by first | exact rfl | exact bob_ren F _ | exact ob_ren F _ _); (focus ((repeat' (first | exact trivial | exact Sub.refl _ | exact sub_nil | exact Or.inl rfl | exact Or.inr ⟨rfl, rfl⟩ | (refine sub_ref ?_; (first | omega | (simp; done) | (simp; omega))) | (refine sub_int ?_; (first | omega | rfl | (simp [bsz]; done))) | refine sub_tup ?_ | exact sub_agg_dbs_r | exact sub_agg_take_r rfl (by first | assumption | omega) | (refine sub_agg_take rfl ?_; (first | ((try rw [dbs_length]); assumption) | ((try rw [dbs_length]); omega))) | refine sub_agg ?_ | (refine sub_val ?_ ?_ <;> (first | omega | (simp [pb, List.map_take, List.map_drop, List.take_take]; done) | (simp [pb, List.map_take, List.map_drop]; omega) | (simp [pb, List.take_of_length_le]; done))) | (refine or_val ?_ ?_ <;> (first | omega | (simp [pb, List.map_take, List.map_drop, List.take_take]; done) | (simp [pb, List.map_take, List.map_drop]; omega) | (simp [pb, List.take_of_length_le]; done))) | refine And.intro ?_ ?_)); done)); (focus (first | exact rfl | exact hp_eq rfl (dbs_app _ _ _ rfl) | exact hp_eq rfl (dbs_appo _ _ _ _ rfl rfl) | (refine hp_eq rfl ?_; (simp only [bob, ← List.length_append, dbs_appo', dbs_app', bsz]; done)) | (refine hp_eq rfl ?_; (simp [dbs, pb]; done)))); (conv => whnf)) | fail)
  refine loop_fam (fun i : Nat × List Val × Sr => ⟨[(0, .c (.ptr 0 0)), (3, vi n), (4, .c (.ref 1 0 i.2.1.length 3)), (5, vi i.1)], [(0, sob i.2.2), (1, ⟨T_api_Value, (i.2.1.flatMap Val.pv).map DV.p⟩)], 2⟩) (fun i => n - i.1)
    (fun i => i.1 ≤ n ∧ i.2.2.b.length ≤ t.b.length ∧ i.2.1.length = i.1 ∧ (i.2.1 ++ (many Sr.value (n - i.1) i.2.2).1, (many Sr.value (n - i.1) i.2.2).2) = many Sr.value n t) (0, [], t)
    ((Wk.adopt 4 3 T_api_Value rfl).trans (wkn [(1, 2)] rfl rfl (by repeat' (first | exact trivial | exact Sub.refl _ | refine And.intro ?_ ?_)) ⟨rfl, hp_pure rfl rfl, trivial⟩)) ⟨Nat.zero_le _, Nat.le_refl _, rfl, by simp⟩ ?_
  rintro ⟨k, acc, s⟩ ⟨hk, hsl, hal, hmany⟩ K hK
  dsimp only at hk hsl hal hmany
  by_cases hgo : k < n ∧ s.e = 0
  · obtain ⟨hkn, hse⟩ := hgo
    have hsok : s.ok := by show s.b.length ≤ _; omega
    have hxl : ((acc.flatMap Val.pv).map DV.p).length = acc.length * 3 := by rw [List.length_map, flat_len Val.len]
    have hm1 : many Sr.value (n - k) s = ((Sr.value s).1 :: (many Sr.value (n - (k + 1)) (Sr.value s).2).1, (many Sr.value (n - (k + 1)) (Sr.value s).2).2) := by
      rw [show n - k = (n - (k + 1)) + 1 by omega, many, if_pos hse]
    rw [hm1] at hmany
    have hfl := Sr.value_len s
    have m := value_meets s hsok; generalize Sr.value s = x at m hmany hfl; obtain ⟨v, u⟩ := x; dsimp only at m hmany hfl
    (conv => whnf); repeat' (first | (refine And.intro ?_ ?_; (focus (first | omega | (dsimp only; omega) | (simp only [List.length_append]; omega) | (simp [pb]; done) | (simp [pb]; omega) | (simp [zeros_u8, pb]; done) | (simp [zeros_u8, pb]; omega) | (simp [ByteArray.size]; omega) | exact Nat.le_of_ble_eq_true rfl | exact u64_nonneg _ | (show chkDraw _ _ = true; kernel_rfl) | (decide; done))); (conv => whnf)) | (refine onB_intro (fun hb => ?_) (fun hb => ?_) <;> (try simp only [decide_eq_true_eq, decide_eq_false_iff_not, Bool.not_eq_true', Bool.not_eq_false', Bool.and_eq_true, Bool.and_eq_false_iff, Int.not_le, Int.not_lt, bsz, ByteArray.toList_eq, beq_iff_eq, beq_eq_false_iff_ne, ne_eq] at hb) <;> (try (exfalso; omega)) <;> (try (exfalso; first | contradiction | (simp [ByteArray.toList_eq] at hb; done))) <;> (conv => whnf)) | (refine (hQ _ _ _ ?_).1; (conv => whnf)) | (refine ⟨_, rfl, ?_⟩; (conv => whnf)) | (refine ⟨_, mp_cut _ _ _, ?_⟩; (conv => whnf)) | (refine ⟨_, dbs_cut _ _ _, ?_⟩; (conv => whnf)) | (refine ⟨[_], rfl, ?_⟩; (conv => whnf)) | (refine ⟨[_, _], rfl, ?_⟩; (conv => whnf)) | (refine ⟨[_, _, _], rfl, ?_⟩; (conv => whnf)) | (refine ⟨[_, _, _, _], rfl, ?_⟩; (conv => whnf)) | (apply call_obj (m) (fun F => by first | exact rfl | exact bob_ren F _ | exact ob_ren F _ _) (fun F => by first | exact rfl | exact bob_ren F _ | exact ob_ren F _ _); (focus ((repeat' (first | exact trivial | exact Sub.refl _ | exact sub_nil | exact Or.inl rfl | exact Or.inr ⟨rfl, rfl⟩ | (refine sub_ref ?_; (first | omega | (simp; done) | (simp; omega))) | (refine sub_int ?_; (first | omega | rfl | (simp [bsz]; done))) | refine sub_tup ?_ | exact sub_agg_dbs_r | exact sub_agg_take_r rfl (by first | assumption | omega) | (refine sub_agg_take rfl ?_; (first | ((try rw [dbs_length]); assumption) | ((try rw [dbs_length]); omega))) | refine sub_agg ?_ | (refine sub_val ?_ ?_ <;> (first | omega | (simp [pb, List.map_take, List.map_drop, List.take_take]; done) | (simp [pb, List.map_take, List.map_drop]; omega) | (simp [pb, List.take_of_length_le]; done))) | (refine or_val ?_ ?_ <;> (first | omega | (simp [pb, List.map_take, List.map_drop, List.take_take]; done) | (simp [pb, List.map_take, List.map_drop]; omega) | (simp [pb, List.take_of_length_le]; done))) | refine And.intro ?_ ?_)); done)); (focus (first | exact rfl | exact hp_eq rfl (dbs_app _ _ _ rfl) | exact hp_eq rfl (dbs_appo _ _ _ _ rfl rfl) | (refine hp_eq rfl ?_; (simp only [bob, ← List.length_append, dbs_appo', dbs_app', bsz]; done)) | (refine hp_eq rfl ?_; (simp [dbs, pb]; done)))); (conv => whnf)) | fail)
    refine hK _ _ _ (k + 1, acc ++ [v], u) ⟨by dsimp only; omega, by dsimp only; omega, by simp [hal], by dsimp only; rw [← hmany, List.append_assoc]; rfl⟩ (by dsimp only; omega) (wkn [(1, 3)] rfl rfl (by repeat' (first | exact trivial | exact Sub.refl _ | exact sub_ref (by simp) | exact sub_int (by dsimp only; omega) | refine And.intro ?_ ?_)) ⟨rfl, hp_pure rfl (cells_snoc Val.len acc v), trivial⟩)
  · have hm1 : many Sr.value (n - k) s = ([], s) := by
      cases hq : n - k with
      | zero => rfl
      | succ q => rw [many, if_neg (fun h => hgo ⟨by omega, h⟩)]
    rw [hm1] at hmany
    have hmany : (acc, s) = many Sr.value n t := by rw [← hmany]; simp
    rw [← hmany] at hQ
    rcases Nat.lt_or_ge k n with hkn | hkn
    · have hse : ¬ s.e = 0 := fun h => hgo ⟨hkn, h⟩
      (conv => whnf); repeat' (first | (refine And.intro ?_ ?_; (focus (first | omega | (dsimp only; omega) | (simp only [List.length_append]; omega) | (simp [pb]; done) | (simp [pb]; omega) | (simp [zeros_u8, pb]; done) | (simp [zeros_u8, pb]; omega) | (simp [ByteArray.size]; omega) | exact Nat.le_of_ble_eq_true rfl | exact u64_nonneg _ | (show chkDraw _ _ = true; kernel_rfl) | (decide; done))); (conv => whnf)) | (refine onB_intro (fun hb => ?_) (fun hb => ?_) <;> (try simp only [decide_eq_true_eq, decide_eq_false_iff_not, Bool.not_eq_true', Bool.not_eq_false', Bool.and_eq_true, Bool.and_eq_false_iff, Int.not_le, Int.not_lt, bsz, ByteArray.toList_eq, beq_iff_eq, beq_eq_false_iff_ne, ne_eq] at hb) <;> (try (exfalso; omega)) <;> (try (exfalso; first | contradiction | (simp [ByteArray.toList_eq] at hb; done))) <;> (conv => whnf)) | (refine (hQ _ _ _ ?_).1; (conv => whnf)) | (refine ⟨_, rfl, ?_⟩; (conv => whnf)) | (refine ⟨_, mp_cut _ _ _, ?_⟩; (conv => whnf)) | (refine ⟨_, dbs_cut _ _ _, ?_⟩; (conv => whnf)) | (refine ⟨[_], rfl, ?_⟩; (conv => whnf)) | (refine ⟨[_, _], rfl, ?_⟩; (conv => whnf)) | (refine ⟨[_, _, _], rfl, ?_⟩; (conv => whnf)) | (refine ⟨[_, _, _, _], rfl, ?_⟩; (conv => whnf)) | fail)
      exact ret_objz (cs := acc.flatMap Val.pv) rfl rfl rfl rfl rfl (sub_slice Val.len acc) rfl (fun F => rfl) (fun F => rfl) (fun id cs => rfl)
    · (conv => whnf); repeat' (first | (refine And.intro ?_ ?_; (focus (first | omega | (dsimp only; omega) | (simp only [List.length_append]; omega) | (simp [pb]; done) | (simp [pb]; omega) | (simp [zeros_u8, pb]; done) | (simp [zeros_u8, pb]; omega) | (simp [ByteArray.size]; omega) | exact Nat.le_of_ble_eq_true rfl | exact u64_nonneg _ | (show chkDraw _ _ = true; kernel_rfl) | (decide; done))); (conv => whnf)) | (refine onB_intro (fun hb => ?_) (fun hb => ?_) <;> (try simp only [decide_eq_true_eq, decide_eq_false_iff_not, Bool.not_eq_true', Bool.not_eq_false', Bool.and_eq_true, Bool.and_eq_false_iff, Int.not_le, Int.not_lt, bsz, ByteArray.toList_eq, beq_iff_eq, beq_eq_false_iff_ne, ne_eq] at hb) <;> (try (exfalso; omega)) <;> (try (exfalso; first | contradiction | (simp [ByteArray.toList_eq] at hb; done))) <;> (conv => whnf)) | (refine (hQ _ _ _ ?_).1; (conv => whnf)) | (refine ⟨_, rfl, ?_⟩; (conv => whnf)) | (refine ⟨_, mp_cut _ _ _, ?_⟩; (conv => whnf)) | (refine ⟨_, dbs_cut _ _ _, ?_⟩; (conv => whnf)) | (refine ⟨[_], rfl, ?_⟩; (conv => whnf)) | (refine ⟨[_, _], rfl, ?_⟩; (conv => whnf)) | (refine ⟨[_, _, _], rfl, ?_⟩; (conv => whnf)) | (refine ⟨[_, _, _, _], rfl, ?_⟩; (conv => whnf)) | fail)
      exact ret_objz (cs := acc.flatMap Val.pv) rfl rfl rfl rfl rfl (sub_slice Val.len acc) rfl (fun F => rfl) (fun F => rfl) (fun id cs => rfl)
end Go.Proofs.Ytjieenfbfckafaa.Am
namespace Go.Proofs.Ytjieenfbfckafaa.Am
open Go
set_option linter.unusedVariables false
set_option linter.unusedSimpArgs false
set_option maxRecDepth 100000
set_option maxHeartbeats 1000000
theorem sub_agg_eq {ds es : List DV} (h : ds = es) : Sub (.agg ds) (.agg es) := by subst h; exact Sub.refl _
end Go.Proofs.Ytjieenfbfckafaa.Am
namespace Go.Proofs.Ytjieenfbfckafaa.Am
open Go
set_option linter.unusedVariables false
set_option linter.unusedSimpArgs false
set_option maxRecDepth 100000
set_option maxHeartbeats 1000000
/-- A datum, the bytes behind it and OK; or an error. -/
def readR {α : Type} (f : Sr → α × Sr) (z : α) (b : List UInt8) : α × List UInt8 × Int := if (f ⟨b, 0⟩).2.e = 0 then ((f ⟨b, 0⟩).1, (f ⟨b, 0⟩).2.b, 0) else (z, [], (f ⟨b, 0⟩).2.e)
def Ident.zero : Ident := ⟨[], Val.null⟩
def Link.zero : Link := ⟨Ident.zero, Ident.zero, 0, false⟩
def Hold.zero : Hold := ⟨0, 0, Ident.zero, 0, 0, 0⟩
def Req.zero : Req := ⟨0, Ident.zero, 0, 0, 0⟩
end Go.Proofs.Ytjieenfbfckafaa.Am
namespace Go.Proofs.Ytjieenfbfckafaa.Am
open Go
set_option linter.unusedVariables false
set_option linter.unusedSimpArgs false
set_option maxRecDepth 100000
set_option maxHeartbeats 1000000
theorem Val.ext {a b : Val} (h1 : a.k = b.k) (h2 : a.i = b.i) (h3 : a.t = b.t) : a = b := by cases a; cases b; simp_all
theorem Val.enc_eq (a b : Val) : (a.enc = b.enc) ↔ a = b := by
  constructor
  · intro h; simp at h; exact Val.ext h.1 h.2.1 h.2.2
  · rintro rfl; rfl
theorem Ver.enc_eq (a b : Ver) : (a.enc = b.enc) ↔ a = b := by
  constructor
  · intro h; simp at h; cases a; cases b; simp_all
  · rintro rfl; rfl
theorem Sou.enc_eq (a b : Sou) : (a.enc = b.enc) ↔ a = b := by
  constructor
  · intro h; simp at h; cases a; cases b; simp_all
  · rintro rfl; rfl
instance : DecidableEq Val := fun a b => decidable_of_iff (a.k = b.k ∧ a.i = b.i ∧ a.t = b.t) ⟨fun h => Val.ext h.1 h.2.1 h.2.2, fun h => by subst h; exact ⟨rfl, rfl, rfl⟩⟩
instance : DecidableEq Ver := fun a b => decidable_of_iff (a.t = b.t ∧ a.c = b.c ∧ a.s = b.s) ⟨fun h => by cases a; cases b; simp_all, fun h => by subst h; exact ⟨rfl, rfl, rfl⟩⟩
instance : DecidableEq Sou := fun a b => decidable_of_iff (a.t = b.t ∧ a.s = b.s) ⟨fun h => by cases a; cases b; simp_all, fun h => by subst h; exact ⟨rfl, rfl⟩⟩
theorem take_ext {α : Type} {a b : List α} {k : Nat} (h : a.take k = b.take k) {x y : α} (ha : a[k]? = some x) (hb : b[k]? = some y) (e : x = y) : a.take (k + 1) = b.take (k + 1) := by
  rw [List.take_add_one, List.take_add_one, h, ha, hb, e]
theorem ne_of_get {α : Type} {a b : List α} {k : Nat} {x y : α} (ha : a[k]? = some x) (hb : b[k]? = some y) (h : x ≠ y) : a ≠ b := by
  rintro rfl; rw [ha] at hb; exact h (Option.some.inj hb)
/-- erasureref22.SameRow -/
theorem same22Row_meets (a b : List Val) (hl : a.length ≤ 4611686018427387904) (hl' : b.length ≤ 4611686018427387904) : Meets Try.prog F_erasureref22SameRow ⟨[.c (dvals a), .c (dvals b)], [], 0, vb (decide (a = b)), [], 0⟩ := by
  refine fits_erasureref22SameRow.meets rfl (by simp) fun Q hQ => ?_
  by_cases hlen : a.length = b.length
  · (conv => whnf); repeat' (first | (refine And.intro ?_ ?_; (focus (first | omega | (dsimp only; omega) | (simp only [List.length_append]; omega) | (simp [pb]; done) | (simp [pb]; omega) | (simp [zeros_u8, pb]; done) | (simp [zeros_u8, pb]; omega) | (simp [ByteArray.size]; omega) | exact Nat.le_of_ble_eq_true rfl | exact u64_nonneg _ | (show chkDraw _ _ = true; kernel_rfl) | (decide; done))); (conv => whnf)) | (refine onB_intro (fun hb => ?_) (fun hb => ?_) <;> (try simp only [decide_eq_true_eq, decide_eq_false_iff_not, Bool.not_eq_true', Bool.not_eq_false', Bool.and_eq_true, Bool.and_eq_false_iff, Int.not_le, Int.not_lt, bsz, ByteArray.toList_eq, beq_iff_eq, beq_eq_false_iff_ne, ne_eq] at hb) <;> (try (exfalso; omega)) <;> (try (exfalso; first | contradiction | (simp [ByteArray.toList_eq] at hb; done))) <;> (conv => whnf)) | (refine (hQ _ _ _ ?_).1; (conv => whnf)) | (refine ⟨_, rfl, ?_⟩; (conv => whnf)) | (refine ⟨_, mp_cut _ _ _, ?_⟩; (conv => whnf)) | (refine ⟨_, dbs_cut _ _ _, ?_⟩; (conv => whnf)) | (refine ⟨[_], rfl, ?_⟩; (conv => whnf)) | (refine ⟨[_, _], rfl, ?_⟩; (conv => whnf)) | (refine ⟨[_, _, _], rfl, ?_⟩; (conv => whnf)) | (refine ⟨[_, _, _, _], rfl, ?_⟩; (conv => whnf)) | fail)
    refine loop_fam (fun k : Nat => ⟨[(0, .c (dvals a)), (1, .c (dvals b)), (5, vi k)], [], 0⟩) (fun k => a.length - k) (fun k => k ≤ a.length ∧ a.take k = b.take k) 0 (wkn [] rfl rfl ⟨Sub.refl _, Sub.refl _, Sub.refl _, trivial⟩ trivial) ⟨Nat.zero_le _, rfl⟩ ?_
    rintro k ⟨hk, heq⟩ K hK
    rcases Nat.lt_or_ge k a.length with hlt | hge
    · obtain ⟨x, hx⟩ : ∃ x, a[k]? = some x := ⟨_, List.getElem?_eq_getElem hlt⟩
      obtain ⟨y, hy⟩ : ∃ y, b[k]? = some y := ⟨_, List.getElem?_eq_getElem (by omega)⟩
      (conv => whnf); repeat' (first | (refine And.intro ?_ ?_; (focus (first | omega | (dsimp only; omega) | (simp only [List.length_append]; omega) | (simp [pb]; done) | (simp [pb]; omega) | (simp [zeros_u8, pb]; done) | (simp [zeros_u8, pb]; omega) | (simp [ByteArray.size]; omega) | exact Nat.le_of_ble_eq_true rfl | exact u64_nonneg _ | (show chkDraw _ _ = true; kernel_rfl) | (decide; done))); (conv => whnf)) | (refine onB_intro (fun hb => ?_) (fun hb => ?_) <;> (try simp only [decide_eq_true_eq, decide_eq_false_iff_not, Bool.not_eq_true', Bool.not_eq_false', Bool.and_eq_true, Bool.and_eq_false_iff, Int.not_le, Int.not_lt, bsz, ByteArray.toList_eq, beq_iff_eq, beq_eq_false_iff_ne, ne_eq] at hb) <;> (try (exfalso; omega)) <;> (try (exfalso; first | contradiction | (simp [ByteArray.toList_eq] at hb; done))) <;> (conv => whnf)) | (refine (hQ _ _ _ ?_).1; (conv => whnf)) | (refine ⟨_, rfl, ?_⟩; (conv => whnf)) | (refine ⟨_, mp_cut _ _ _, ?_⟩; (conv => whnf)) | (refine ⟨_, dbs_cut _ _ _, ?_⟩; (conv => whnf)) | (refine ⟨[_], rfl, ?_⟩; (conv => whnf)) | (refine ⟨[_, _], rfl, ?_⟩; (conv => whnf)) | (refine ⟨[_, _, _], rfl, ?_⟩; (conv => whnf)) | (refine ⟨[_, _, _, _], rfl, ?_⟩; (conv => whnf)) | (simp only [elem_at' Val.len hx, elem_at' Val.len hy]; (conv => whnf)) | fail)
      refine ⟨by simp [fitCKs, fitCK], by simp [fitCKs, fitCK], ?_⟩
      intro q hq
      have hq : q = true ↔ x = y := hq.trans (Val.enc_eq x y)
      (conv => whnf); repeat' (first | (refine And.intro ?_ ?_; (focus (first | omega | (dsimp only; omega) | (simp only [List.length_append]; omega) | (simp [pb]; done) | (simp [pb]; omega) | (simp [zeros_u8, pb]; done) | (simp [zeros_u8, pb]; omega) | (simp [ByteArray.size]; omega) | exact Nat.le_of_ble_eq_true rfl | exact u64_nonneg _ | (show chkDraw _ _ = true; kernel_rfl) | (decide; done))); (conv => whnf)) | (refine onB_intro (fun hb => ?_) (fun hb => ?_) <;> (try simp only [decide_eq_true_eq, decide_eq_false_iff_not, Bool.not_eq_true', Bool.not_eq_false', Bool.and_eq_true, Bool.and_eq_false_iff, Int.not_le, Int.not_lt, bsz, ByteArray.toList_eq, beq_iff_eq, beq_eq_false_iff_ne, ne_eq] at hb) <;> (try (exfalso; omega)) <;> (try (exfalso; first | contradiction | (simp [ByteArray.toList_eq] at hb; done))) <;> (conv => whnf)) | (refine (hQ _ _ _ ?_).1; (conv => whnf)) | (refine ⟨_, rfl, ?_⟩; (conv => whnf)) | (refine ⟨_, mp_cut _ _ _, ?_⟩; (conv => whnf)) | (refine ⟨_, dbs_cut _ _ _, ?_⟩; (conv => whnf)) | (refine ⟨[_], rfl, ?_⟩; (conv => whnf)) | (refine ⟨[_, _], rfl, ?_⟩; (conv => whnf)) | (refine ⟨[_, _, _], rfl, ?_⟩; (conv => whnf)) | (refine ⟨[_, _, _, _], rfl, ?_⟩; (conv => whnf)) | fail)
      · have hne : x ≠ y := fun e => by have := hq.2 e; simp_all
        refine RetOk.pure' (fun f => rfl) (sub_bool ?_)
        simp [ne_of_get hx hy hne]
      · have he : x = y := hq.1 (by simp_all)
        exact hK _ _ _ (k + 1) ⟨by omega, take_ext heq hx hy he⟩ (by omega) (wkn [] rfl rfl ⟨Sub.refl _, Sub.refl _, sub_int (by omega), trivial⟩ trivial)
    · have : k = a.length := by omega
      subst this
      have he : a = b := by rwa [List.take_length, hlen, List.take_length] at heq
      (conv => whnf); repeat' (first | (refine And.intro ?_ ?_; (focus (first | omega | (dsimp only; omega) | (simp only [List.length_append]; omega) | (simp [pb]; done) | (simp [pb]; omega) | (simp [zeros_u8, pb]; done) | (simp [zeros_u8, pb]; omega) | (simp [ByteArray.size]; omega) | exact Nat.le_of_ble_eq_true rfl | exact u64_nonneg _ | (show chkDraw _ _ = true; kernel_rfl) | (decide; done))); (conv => whnf)) | (refine onB_intro (fun hb => ?_) (fun hb => ?_) <;> (try simp only [decide_eq_true_eq, decide_eq_false_iff_not, Bool.not_eq_true', Bool.not_eq_false', Bool.and_eq_true, Bool.and_eq_false_iff, Int.not_le, Int.not_lt, bsz, ByteArray.toList_eq, beq_iff_eq, beq_eq_false_iff_ne, ne_eq] at hb) <;> (try (exfalso; omega)) <;> (try (exfalso; first | contradiction | (simp [ByteArray.toList_eq] at hb; done))) <;> (conv => whnf)) | (refine (hQ _ _ _ ?_).1; (conv => whnf)) | (refine ⟨_, rfl, ?_⟩; (conv => whnf)) | (refine ⟨_, mp_cut _ _ _, ?_⟩; (conv => whnf)) | (refine ⟨_, dbs_cut _ _ _, ?_⟩; (conv => whnf)) | (refine ⟨[_], rfl, ?_⟩; (conv => whnf)) | (refine ⟨[_, _], rfl, ?_⟩; (conv => whnf)) | (refine ⟨[_, _, _], rfl, ?_⟩; (conv => whnf)) | (refine ⟨[_, _, _, _], rfl, ?_⟩; (conv => whnf)) | fail)
      refine RetOk.pure' (fun f => rfl) (sub_bool ?_)
      simp [he]
  · have hne : a ≠ b := fun e => hlen (by rw [e])
    (conv => whnf); repeat' (first | (refine And.intro ?_ ?_; (focus (first | omega | (dsimp only; omega) | (simp only [List.length_append]; omega) | (simp [pb]; done) | (simp [pb]; omega) | (simp [zeros_u8, pb]; done) | (simp [zeros_u8, pb]; omega) | (simp [ByteArray.size]; omega) | exact Nat.le_of_ble_eq_true rfl | exact u64_nonneg _ | (show chkDraw _ _ = true; kernel_rfl) | (decide; done))); (conv => whnf)) | (refine onB_intro (fun hb => ?_) (fun hb => ?_) <;> (try simp only [decide_eq_true_eq, decide_eq_false_iff_not, Bool.not_eq_true', Bool.not_eq_false', Bool.and_eq_true, Bool.and_eq_false_iff, Int.not_le, Int.not_lt, bsz, ByteArray.toList_eq, beq_iff_eq, beq_eq_false_iff_ne, ne_eq] at hb) <;> (try (exfalso; omega)) <;> (try (exfalso; first | contradiction | (simp [ByteArray.toList_eq] at hb; done))) <;> (conv => whnf)) | (refine (hQ _ _ _ ?_).1; (conv => whnf)) | (refine ⟨_, rfl, ?_⟩; (conv => whnf)) | (refine ⟨_, mp_cut _ _ _, ?_⟩; (conv => whnf)) | (refine ⟨_, dbs_cut _ _ _, ?_⟩; (conv => whnf)) | (refine ⟨[_], rfl, ?_⟩; (conv => whnf)) | (refine ⟨[_, _], rfl, ?_⟩; (conv => whnf)) | (refine ⟨[_, _, _], rfl, ?_⟩; (conv => whnf)) | (refine ⟨[_, _, _, _], rfl, ?_⟩; (conv => whnf)) | fail)
    refine RetOk.pure' (fun f => rfl) (sub_bool ?_)
    simp [hne]
/-- erasureref22.SameInts -/
theorem same22Ints_meets (a b : List Int) (hl : a.length ≤ 4611686018427387904) (hl' : b.length ≤ 4611686018427387904) : Meets Try.prog F_erasureref22SameInts ⟨[.c (dints a), .c (dints b)], [], 0, vb (decide (a = b)), [], 0⟩ := by
  refine fits_erasureref22SameInts.meets rfl (by simp) fun Q hQ => ?_
  by_cases hlen : a.length = b.length
  · (conv => whnf); repeat' (first | (refine And.intro ?_ ?_; (focus (first | omega | (dsimp only; omega) | (simp only [List.length_append]; omega) | (simp [pb]; done) | (simp [pb]; omega) | (simp [zeros_u8, pb]; done) | (simp [zeros_u8, pb]; omega) | (simp [ByteArray.size]; omega) | exact Nat.le_of_ble_eq_true rfl | exact u64_nonneg _ | (show chkDraw _ _ = true; kernel_rfl) | (decide; done))); (conv => whnf)) | (refine onB_intro (fun hb => ?_) (fun hb => ?_) <;> (try simp only [decide_eq_true_eq, decide_eq_false_iff_not, Bool.not_eq_true', Bool.not_eq_false', Bool.and_eq_true, Bool.and_eq_false_iff, Int.not_le, Int.not_lt, bsz, ByteArray.toList_eq, beq_iff_eq, beq_eq_false_iff_ne, ne_eq] at hb) <;> (try (exfalso; omega)) <;> (try (exfalso; first | contradiction | (simp [ByteArray.toList_eq] at hb; done))) <;> (conv => whnf)) | (refine (hQ _ _ _ ?_).1; (conv => whnf)) | (refine ⟨_, rfl, ?_⟩; (conv => whnf)) | (refine ⟨_, mp_cut _ _ _, ?_⟩; (conv => whnf)) | (refine ⟨_, dbs_cut _ _ _, ?_⟩; (conv => whnf)) | (refine ⟨[_], rfl, ?_⟩; (conv => whnf)) | (refine ⟨[_, _], rfl, ?_⟩; (conv => whnf)) | (refine ⟨[_, _, _], rfl, ?_⟩; (conv => whnf)) | (refine ⟨[_, _, _, _], rfl, ?_⟩; (conv => whnf)) | fail)
    refine loop_fam (fun k : Nat => ⟨[(0, .c (dints a)), (1, .c (dints b)), (5, vi k)], [], 0⟩) (fun k => a.length - k) (fun k => k ≤ a.length ∧ a.take k = b.take k) 0 (wkn [] rfl rfl ⟨Sub.refl _, Sub.refl _, Sub.refl _, trivial⟩ trivial) ⟨Nat.zero_le _, rfl⟩ ?_
    rintro k ⟨hk, heq⟩ K hK
    rcases Nat.lt_or_ge k a.length with hlt | hge
    · obtain ⟨x, hx⟩ : ∃ x, a[k]? = some x := ⟨_, List.getElem?_eq_getElem hlt⟩
      obtain ⟨y, hy⟩ : ∃ y, b[k]? = some y := ⟨_, List.getElem?_eq_getElem (by omega)⟩
      (conv => whnf); repeat' (first | (refine And.intro ?_ ?_; (focus (first | omega | (dsimp only; omega) | (simp only [List.length_append]; omega) | (simp [pb]; done) | (simp [pb]; omega) | (simp [zeros_u8, pb]; done) | (simp [zeros_u8, pb]; omega) | (simp [ByteArray.size]; omega) | exact Nat.le_of_ble_eq_true rfl | exact u64_nonneg _ | (show chkDraw _ _ = true; kernel_rfl) | (decide; done))); (conv => whnf)) | (refine onB_intro (fun hb => ?_) (fun hb => ?_) <;> (try simp only [decide_eq_true_eq, decide_eq_false_iff_not, Bool.not_eq_true', Bool.not_eq_false', Bool.and_eq_true, Bool.and_eq_false_iff, Int.not_le, Int.not_lt, bsz, ByteArray.toList_eq, beq_iff_eq, beq_eq_false_iff_ne, ne_eq] at hb) <;> (try (exfalso; omega)) <;> (try (exfalso; first | contradiction | (simp [ByteArray.toList_eq] at hb; done))) <;> (conv => whnf)) | (refine (hQ _ _ _ ?_).1; (conv => whnf)) | (refine ⟨_, rfl, ?_⟩; (conv => whnf)) | (refine ⟨_, mp_cut _ _ _, ?_⟩; (conv => whnf)) | (refine ⟨_, dbs_cut _ _ _, ?_⟩; (conv => whnf)) | (refine ⟨[_], rfl, ?_⟩; (conv => whnf)) | (refine ⟨[_, _], rfl, ?_⟩; (conv => whnf)) | (refine ⟨[_, _, _], rfl, ?_⟩; (conv => whnf)) | (refine ⟨[_, _, _, _], rfl, ?_⟩; (conv => whnf)) | (simp only [elem_map hx, elem_map hy]; (conv => whnf)) | fail)
      · have hne : x ≠ y := by simp_all
        refine RetOk.pure' (fun f => rfl) (sub_bool ?_)
        simp [ne_of_get hx hy hne]
      · have he : x = y := by simp_all
        exact hK _ _ _ (k + 1) ⟨by omega, take_ext heq hx hy he⟩ (by omega) (wkn [] rfl rfl ⟨Sub.refl _, Sub.refl _, sub_int (by omega), trivial⟩ trivial)
    · have : k = a.length := by omega
      subst this
      have he : a = b := by rwa [List.take_length, hlen, List.take_length] at heq
      (conv => whnf); repeat' (first | (refine And.intro ?_ ?_; (focus (first | omega | (dsimp only; omega) | (simp only [List.length_append]; omega) | (simp [pb]; done) | (simp [pb]; omega) | (simp [zeros_u8, pb]; done) | (simp [zeros_u8, pb]; omega) | (simp [ByteArray.size]; omega) | exact Nat.le_of_ble_eq_true rfl | exact u64_nonneg _ | (show chkDraw _ _ = true; kernel_rfl) | (decide; done))); (conv => whnf)) | (refine onB_intro (fun hb => ?_) (fun hb => ?_) <;> (try simp only [decide_eq_true_eq, decide_eq_false_iff_not, Bool.not_eq_true', Bool.not_eq_false', Bool.and_eq_true, Bool.and_eq_false_iff, Int.not_le, Int.not_lt, bsz, ByteArray.toList_eq, beq_iff_eq, beq_eq_false_iff_ne, ne_eq] at hb) <;> (try (exfalso; omega)) <;> (try (exfalso; first | contradiction | (simp [ByteArray.toList_eq] at hb; done))) <;> (conv => whnf)) | (refine (hQ _ _ _ ?_).1; (conv => whnf)) | (refine ⟨_, rfl, ?_⟩; (conv => whnf)) | (refine ⟨_, mp_cut _ _ _, ?_⟩; (conv => whnf)) | (refine ⟨_, dbs_cut _ _ _, ?_⟩; (conv => whnf)) | (refine ⟨[_], rfl, ?_⟩; (conv => whnf)) | (refine ⟨[_, _], rfl, ?_⟩; (conv => whnf)) | (refine ⟨[_, _, _], rfl, ?_⟩; (conv => whnf)) | (refine ⟨[_, _, _, _], rfl, ?_⟩; (conv => whnf)) | fail)
      refine RetOk.pure' (fun f => rfl) (sub_bool ?_)
      simp [he]
  · have hne : a ≠ b := fun e => hlen (by rw [e])
    (conv => whnf); repeat' (first | (refine And.intro ?_ ?_; (focus (first | omega | (dsimp only; omega) | (simp only [List.length_append]; omega) | (simp [pb]; done) | (simp [pb]; omega) | (simp [zeros_u8, pb]; done) | (simp [zeros_u8, pb]; omega) | (simp [ByteArray.size]; omega) | exact Nat.le_of_ble_eq_true rfl | exact u64_nonneg _ | (show chkDraw _ _ = true; kernel_rfl) | (decide; done))); (conv => whnf)) | (refine onB_intro (fun hb => ?_) (fun hb => ?_) <;> (try simp only [decide_eq_true_eq, decide_eq_false_iff_not, Bool.not_eq_true', Bool.not_eq_false', Bool.and_eq_true, Bool.and_eq_false_iff, Int.not_le, Int.not_lt, bsz, ByteArray.toList_eq, beq_iff_eq, beq_eq_false_iff_ne, ne_eq] at hb) <;> (try (exfalso; omega)) <;> (try (exfalso; first | contradiction | (simp [ByteArray.toList_eq] at hb; done))) <;> (conv => whnf)) | (refine (hQ _ _ _ ?_).1; (conv => whnf)) | (refine ⟨_, rfl, ?_⟩; (conv => whnf)) | (refine ⟨_, mp_cut _ _ _, ?_⟩; (conv => whnf)) | (refine ⟨_, dbs_cut _ _ _, ?_⟩; (conv => whnf)) | (refine ⟨[_], rfl, ?_⟩; (conv => whnf)) | (refine ⟨[_, _], rfl, ?_⟩; (conv => whnf)) | (refine ⟨[_, _, _], rfl, ?_⟩; (conv => whnf)) | (refine ⟨[_, _, _, _], rfl, ?_⟩; (conv => whnf)) | fail)
    refine RetOk.pure' (fun f => rfl) (sub_bool ?_)
    simp [hne]
end Go.Proofs.Ytjieenfbfckafaa.Am
namespace Go.Proofs.Ytjieenfbfckafaa.Am
open Go
set_option linter.unusedVariables false
set_option linter.unusedSimpArgs false
set_option maxRecDepth 100000
set_option maxHeartbeats 1000000
/-- erasurelaw26.awake -/
theorem awake26_meets : Meets Try.prog F_erasurelaw26awake ⟨[], [], 0, vb true, [], 0⟩ := by
  have m1 := readInt_meets [128, 0] (by decide)
  rw [rd1] at m1
  have m2 := readInt_meets [128] (by decide)
  rw [rd2] at m2
  have m3 := readInt_meets [128, 1, 7] (by decide)
  rw [rd3] at m3
  have m4 := aAppendInt_meets [] (-1) (by simp [inI64]) (by decide)
  obtain ⟨l, hl⟩ : ∃ l, l = [] ++ encInt (-1) := ⟨_, rfl⟩
  rw [← hl] at m4
  rw [encInt_m1] at hl
  have hl : l = [1] := hl
  dsimp only at m1 m2 m3
  refine fits_erasurelaw26awake.meets rfl (by simp) fun Q hQ => ?_
  (conv => whnf); repeat' (first | (refine And.intro ?_ ?_; (focus (first | omega | (dsimp only; omega) | (simp only [List.length_append]; omega) | (simp [pb]; done) | (simp [pb]; omega) | (simp [zeros_u8, pb]; done) | (simp [zeros_u8, pb]; omega) | (simp [ByteArray.size]; omega) | exact Nat.le_of_ble_eq_true rfl | exact u64_nonneg _ | (show chkDraw _ _ = true; kernel_rfl) | (decide; done))); (conv => whnf)) | (refine onB_intro (fun hb => ?_) (fun hb => ?_) <;> (try simp only [decide_eq_true_eq, decide_eq_false_iff_not, Bool.not_eq_true', Bool.not_eq_false', Bool.and_eq_true, Bool.and_eq_false_iff, Int.not_le, Int.not_lt, bsz, ByteArray.toList_eq, beq_iff_eq, beq_eq_false_iff_ne, ne_eq] at hb) <;> (try (exfalso; omega)) <;> (try (exfalso; first | contradiction | (simp [ByteArray.toList_eq] at hb; done))) <;> (conv => whnf)) | (refine (hQ _ _ _ ?_).1; (conv => whnf)) | (refine ⟨_, rfl, ?_⟩; (conv => whnf)) | (refine ⟨_, mp_cut _ _ _, ?_⟩; (conv => whnf)) | (refine ⟨_, dbs_cut _ _ _, ?_⟩; (conv => whnf)) | (refine ⟨[_], rfl, ?_⟩; (conv => whnf)) | (refine ⟨[_, _], rfl, ?_⟩; (conv => whnf)) | (refine ⟨[_, _, _], rfl, ?_⟩; (conv => whnf)) | (refine ⟨[_, _, _, _], rfl, ?_⟩; (conv => whnf)) | (refine call_pure (m1) (fun F => by first | exact rfl | (simp only [TV.rens, TV.ren, dbs_ren]; rfl) | (simp [TV.rens, TV.ren, dbs_ren, map_ren_p]; done)) (fun F => by first | exact rfl | (simp only [TV.rens, TV.ren, dbs_ren]; rfl) | (simp [TV.rens, TV.ren, dbs_ren, map_ren_p]; done)) ?_ ?_; (focus ((repeat' (first | exact trivial | exact Sub.refl _ | exact sub_nil | exact Or.inl rfl | exact Or.inr ⟨rfl, rfl⟩ | (refine sub_ref ?_; (first | omega | (simp; done) | (simp; omega))) | (refine sub_int ?_; (first | omega | rfl | (simp [bsz]; done))) | refine sub_tup ?_ | exact sub_agg_dbs_r | exact sub_agg_take_r rfl (by first | assumption | omega) | (refine sub_agg_take rfl ?_; (first | ((try rw [dbs_length]); assumption) | ((try rw [dbs_length]); omega))) | refine sub_agg ?_ | (refine sub_val ?_ ?_ <;> (first | omega | (simp [pb, List.map_take, List.map_drop, List.take_take]; done) | (simp [pb, List.map_take, List.map_drop]; omega) | (simp [pb, List.take_of_length_le]; done))) | (refine or_val ?_ ?_ <;> (first | omega | (simp [pb, List.map_take, List.map_drop, List.take_take]; done) | (simp [pb, List.map_take, List.map_drop]; omega) | (simp [pb, List.take_of_length_le]; done))) | refine And.intro ?_ ?_)); done)); (conv => whnf)) | (refine call_pure (m2) (fun F => by first | exact rfl | (simp only [TV.rens, TV.ren, dbs_ren]; rfl) | (simp [TV.rens, TV.ren, dbs_ren, map_ren_p]; done)) (fun F => by first | exact rfl | (simp only [TV.rens, TV.ren, dbs_ren]; rfl) | (simp [TV.rens, TV.ren, dbs_ren, map_ren_p]; done)) ?_ ?_; (focus ((repeat' (first | exact trivial | exact Sub.refl _ | exact sub_nil | exact Or.inl rfl | exact Or.inr ⟨rfl, rfl⟩ | (refine sub_ref ?_; (first | omega | (simp; done) | (simp; omega))) | (refine sub_int ?_; (first | omega | rfl | (simp [bsz]; done))) | refine sub_tup ?_ | exact sub_agg_dbs_r | exact sub_agg_take_r rfl (by first | assumption | omega) | (refine sub_agg_take rfl ?_; (first | ((try rw [dbs_length]); assumption) | ((try rw [dbs_length]); omega))) | refine sub_agg ?_ | (refine sub_val ?_ ?_ <;> (first | omega | (simp [pb, List.map_take, List.map_drop, List.take_take]; done) | (simp [pb, List.map_take, List.map_drop]; omega) | (simp [pb, List.take_of_length_le]; done))) | (refine or_val ?_ ?_ <;> (first | omega | (simp [pb, List.map_take, List.map_drop, List.take_take]; done) | (simp [pb, List.map_take, List.map_drop]; omega) | (simp [pb, List.take_of_length_le]; done))) | refine And.intro ?_ ?_)); done)); (conv => whnf)) | (refine call_pure (m3) (fun F => by first | exact rfl | (simp only [TV.rens, TV.ren, dbs_ren]; rfl) | (simp [TV.rens, TV.ren, dbs_ren, map_ren_p]; done)) (fun F => by first | exact rfl | (simp only [TV.rens, TV.ren, dbs_ren]; rfl) | (simp [TV.rens, TV.ren, dbs_ren, map_ren_p]; done)) ?_ ?_; (focus ((repeat' (first | exact trivial | exact Sub.refl _ | exact sub_nil | exact Or.inl rfl | exact Or.inr ⟨rfl, rfl⟩ | (refine sub_ref ?_; (first | omega | (simp; done) | (simp; omega))) | (refine sub_int ?_; (first | omega | rfl | (simp [bsz]; done))) | refine sub_tup ?_ | exact sub_agg_dbs_r | exact sub_agg_take_r rfl (by first | assumption | omega) | (refine sub_agg_take rfl ?_; (first | ((try rw [dbs_length]); assumption) | ((try rw [dbs_length]); omega))) | refine sub_agg ?_ | (refine sub_val ?_ ?_ <;> (first | omega | (simp [pb, List.map_take, List.map_drop, List.take_take]; done) | (simp [pb, List.map_take, List.map_drop]; omega) | (simp [pb, List.take_of_length_le]; done))) | (refine or_val ?_ ?_ <;> (first | omega | (simp [pb, List.map_take, List.map_drop, List.take_take]; done) | (simp [pb, List.map_take, List.map_drop]; omega) | (simp [pb, List.take_of_length_le]; done))) | refine And.intro ?_ ?_)); done)); (conv => whnf)) | (refine call_pure (m4) (fun F => by first | exact rfl | (simp only [TV.rens, TV.ren, dbs_ren]; rfl) | (simp [TV.rens, TV.ren, dbs_ren, map_ren_p]; done)) (fun F => by first | exact rfl | (simp only [TV.rens, TV.ren, dbs_ren]; rfl) | (simp [TV.rens, TV.ren, dbs_ren, map_ren_p]; done)) ?_ ?_; (focus ((repeat' (first | exact trivial | exact Sub.refl _ | exact sub_nil | exact Or.inl rfl | exact Or.inr ⟨rfl, rfl⟩ | (refine sub_ref ?_; (first | omega | (simp; done) | (simp; omega))) | (refine sub_int ?_; (first | omega | rfl | (simp [bsz]; done))) | refine sub_tup ?_ | exact sub_agg_dbs_r | exact sub_agg_take_r rfl (by first | assumption | omega) | (refine sub_agg_take rfl ?_; (first | ((try rw [dbs_length]); assumption) | ((try rw [dbs_length]); omega))) | refine sub_agg ?_ | (refine sub_val ?_ ?_ <;> (first | omega | (simp [pb, List.map_take, List.map_drop, List.take_take]; done) | (simp [pb, List.map_take, List.map_drop]; omega) | (simp [pb, List.take_of_length_le]; done))) | (refine or_val ?_ ?_ <;> (first | omega | (simp [pb, List.map_take, List.map_drop, List.take_take]; done) | (simp [pb, List.map_take, List.map_drop]; omega) | (simp [pb, List.take_of_length_le]; done))) | refine And.intro ?_ ?_)); done)); (conv => whnf)) | fail)
  exact RetOk.pure' (fun f => rfl) (sub_bool (by simp))
theorem decU_enc : ∀ (v i u : Nat) (rest : List UInt8), i ≤ 9 → v * 2 ^ (7 * i) < 2 ^ 64 → (0 < i → 0 < v) → decU i u (encU v ++ rest) = .ok (u + v * 2 ^ (7 * i), rest) := by
  intro v
  induction v using Nat.strongRecOn with
  | _ v ih =>
    intro i u rest hi hv h0
    by_cases h : v < 128
    · rw [encU_lt h]
      have hc : (UInt8.ofNat v).toNat = v := by simp; omega
      have h9 : ¬(i = 9 ∧ 1 < v) := by
        rintro ⟨rfl, h1⟩
        have : 2 * 2 ^ (7 * 9) ≤ v * 2 ^ (7 * 9) := Nat.mul_le_mul_right _ h1
        have : (2 : Nat) * 2 ^ (7 * 9) = 2 ^ 64 := by decide
        omega
      show decU i u (UInt8.ofNat v :: rest) = _
      rw [decU_last (by rw [hc]; omega) (by rw [hc]; exact h), hc, Nat.mod_eq_of_lt h]
    · rw [encU_ge h]
      have hc : (UInt8.ofNat (v % 128 + 128)).toNat = v % 128 + 128 := by simp; omega
      have h9 : i ≠ 9 := by
        rintro rfl
        have : 128 * 2 ^ (7 * 9) ≤ v * 2 ^ (7 * 9) := Nat.mul_le_mul_right _ (by omega)
        have : (2 : Nat) * 2 ^ (7 * 9) = 2 ^ 64 := by decide
        omega
      show decU i u (UInt8.ofNat (v % 128 + 128) :: (encU (v / 128) ++ rest)) = _
      rw [decU_step (by rw [hc]; omega) (by rw [hc]; omega), hc]
      have e : 2 ^ (7 * (i + 1)) = 128 * 2 ^ (7 * i) := by rw [Nat.mul_add, Nat.mul_one, Nat.pow_add]; omega
      have hm : v / 128 * 128 ≤ v := Nat.div_mul_le_self v 128
      have hm2 : v / 128 * 128 * 2 ^ (7 * i) ≤ v * 2 ^ (7 * i) := Nat.mul_le_mul_right _ hm
      rw [ih (v / 128) (by omega) (i + 1) _ rest (by omega) (by rw [e, ← Nat.mul_assoc]; omega) (fun _ => by omega), e]
      have e2 : v = v / 128 * 128 + v % 128 := by omega
      have e3 : v * 2 ^ (7 * i) = v / 128 * 128 * 2 ^ (7 * i) + v % 128 * 2 ^ (7 * i) := by rw [← Nat.add_mul, ← e2]
      rw [e3, show (v % 128 + 128) % 128 = v % 128 by omega, ← Nat.mul_assoc, Nat.add_assoc, Nat.add_comm (v % 128 * _)]
theorem unzz_zz (n : Int) : unzz (zz n) = n := by
  unfold unzz zz
  split <;> split <;> omega
/-- An integer comes back. -/
theorem int_enc {n : Int} (hn : inI64 n) (rest : List UInt8) : Sr.int ⟨encInt n ++ rest, 0⟩ = (n, ⟨rest, 0⟩) := by
  have h := decU_enc (zz n) 0 0 rest (by omega) (by simpa using zz_lt hn) (fun h => by omega)
  rw [Sr.int_ok rfl (s := ⟨encInt n ++ rest, 0⟩) h]
  simp [unzz_zz]
end Go.Proofs.Ytjieenfbfckafaa.Am
namespace Go.Proofs.Ytjieenfbfckafaa.Am
open Go
set_option linter.unusedVariables false
set_option linter.unusedSimpArgs false
theorem readR_of {α : Type} {f : Sr → α × Sr} {z x : α} {b rest : List UInt8} (h : f ⟨b, 0⟩ = (x, ⟨rest, 0⟩)) : readR f z b = (x, rest, 0) := by
  unfold readR; rw [h]; simp
theorem count_enc {n m : Int} (hn : inI64 n) (h0 : 0 ≤ n) (hm : n ≤ m) (rest : List UInt8) : Sr.count m ⟨encInt n ++ rest, 0⟩ = (n, ⟨rest, 0⟩) := by
  unfold Sr.count
  rw [int_enc hn]
  dsimp only
  have hc : ¬(n < 0 ∨ m < n) := by omega
  simp only [if_neg hc]
  simp
theorem take_enc (t rest : List UInt8) : Sr.take t.length ⟨t ++ rest, 0⟩ = (t, ⟨rest, 0⟩) := by
  unfold Sr.take
  simp
theorem text_enc {t : List UInt8} {m : Int} (ht : t.length ≤ 4611686018427387904) (hm : (t.length : Int) ≤ m) (rest : List UInt8) : Sr.text m ⟨encText t ++ rest, 0⟩ = (t, ⟨rest, 0⟩) := by
  unfold Sr.text encText
  rw [List.append_assoc, count_enc ⟨by omega, by omega⟩ (by omega) hm]
  dsimp only
  rw [Int.toNat_natCast, take_enc]
theorem value_enc' {v : Val} (h : v.valid = true) (rest : List UInt8) : Sr.value ⟨encVal' v ++ rest, 0⟩ = (v, ⟨rest, 0⟩) := by
  have hc := Val.clean_fit h
  unfold Sr.value encVal'
  rw [List.append_assoc, count_enc ⟨by omega, by omega⟩ (by omega) (by omega)]
  dsimp only
  rcases hc with ⟨h1, h2, h3⟩ | ⟨h1, h2, h2', h3⟩ | ⟨h1, h2, h3⟩
  · rw [h1, if_neg (show ¬(0 : Int) = 1 by decide), if_neg (show ¬(0 : Int) = 1 by decide), if_neg (show ¬(0 : Int) = 2 by decide), if_neg (show ¬(0 : Int) = 2 by decide), List.nil_append]
    rw [show Val.null = v from Val.ext h1.symm h2.symm h3.symm]
  · rw [h1, if_pos (rfl : (1 : Int) = 1), if_pos (rfl : (1 : Int) = 1), int_enc ⟨by omega, by omega⟩]
    dsimp only
    rw [if_neg (by omega), show (⟨1, v.i, []⟩ : Val) = v from Val.ext h1.symm rfl h3.symm]
  · rw [h1, if_neg (show ¬(2 : Int) = 1 by decide), if_neg (show ¬(2 : Int) = 1 by decide), if_pos (rfl : (2 : Int) = 2), if_pos (rfl : (2 : Int) = 2), text_enc (by omega) (by omega)]
    dsimp only
    rw [show (⟨2, 0, v.t⟩ : Val) = v from Val.ext h1.symm h2.symm rfl]
theorem value_enc (v : Val) (rest : List UInt8) : Sr.value ⟨encVal v ++ rest, 0⟩ = (v.clean, ⟨rest, 0⟩) := value_enc' v.clean_valid rest
theorem many_enc {α β : Type} {f : Sr → β × Sr} {enc : α → List UInt8} {dec : α → β} : ∀ {l : List α}, (∀ a ∈ l, ∀ rest, f ⟨enc a ++ rest, 0⟩ = (dec a, ⟨rest, 0⟩)) → ∀ rest, many f l.length ⟨l.flatMap enc ++ rest, 0⟩ = (l.map dec, ⟨rest, 0⟩)
  | [], _, rest => rfl
  | a :: l, h, rest => by
    rw [List.length_cons, many, if_pos rfl, List.flatMap_cons, List.append_assoc, h a (by simp)]
    dsimp only
    rw [many_enc (fun b hb => h b (by simp [hb])) rest]
    rfl
theorem list_enc {α β : Type} {f : Sr → β × Sr} {enc : α → List UInt8} {dec : α → β} {l : List α} {m : Int} (hl : (l.length : Int) ≤ m) (hm : m ≤ 1000000) (h : ∀ a ∈ l, ∀ rest, f ⟨enc a ++ rest, 0⟩ = (dec a, ⟨rest, 0⟩)) (rest : List UInt8) :
    Sr.list f m ⟨encInt l.length ++ l.flatMap enc ++ rest, 0⟩ = (l.map dec, ⟨rest, 0⟩) := by
  unfold Sr.list
  rw [List.append_assoc, count_enc ⟨by omega, by omega⟩ (by omega) hl]
  dsimp only
  rw [Int.toNat_natCast, many_enc h]
theorem row_enc {r : List Val} (h : r.length ≤ 16) (rest : List UInt8) : Sr.row ⟨encRow r ++ rest, 0⟩ = (r.map Val.clean, ⟨rest, 0⟩) :=
  list_enc (by omega) (by omega) (fun a _ rest => value_enc a rest) rest
theorem ints1_enc {a : Int} (rest : List UInt8) : encInts [a] ++ rest = encInt a ++ rest := by simp [encInts]
def Ident.clean (i : Ident) : Ident := ⟨i.ns, i.v.clean⟩
def Link.clean (l : Link) : Link := ⟨l.a.clean, l.b.clean, l.seq, l.rev⟩
def Hold.clean (h : Hold) : Hold := ⟨h.t, h.c, h.who.clean, h.seq, h.fr, h.to⟩
def Req.clean (q : Req) : Req := ⟨q.k, q.who.clean, q.seq, q.day, q.dl⟩
end Go.Proofs.Ytjieenfbfckafaa.Am
namespace Go.Proofs.Ytjieenfbfckafaa.Am
open Go
set_option linter.unusedVariables false
set_option linter.unusedSimpArgs false
set_option maxRecDepth 100000
set_option maxHeartbeats 1000000
theorem is_text {cs : List PV} (h : RT.Is .str cs) : ∃ t : List UInt8, cs = [pst t] ∧ t.length ≤ 9223372036854775807 := by
  obtain ⟨s, rfl, hs⟩ := is_str h
  refine ⟨s.data.toList, ?_, hs⟩
  show [PV.v (.string s)] = [PV.v (.string ⟨s.data.toList.toArray⟩)]
  rw [Array.toArray_toList]
end Go.Proofs.Ytjieenfbfckafaa.Am
namespace Go.Proofs.Ytjieenfbfckafaa.Am
open Go
set_option linter.unusedVariables false
set_option linter.unusedSimpArgs false
set_option maxRecDepth 100000
set_option maxHeartbeats 1000000
abbrev rVal : RT := .st (.cons rInt (.cons rInt (.cons .str .nil)))
theorem is_val {cs : List PV} (h : RT.Is rVal cs) : ∃ a : Val, cs = a.pv ∧ a.t.length ≤ 9223372036854775807 := by
  obtain ⟨_, _, rfl, hx, _, _, rfl, hy, _, _, rfl, hz, rfl⟩ := h
  obtain ⟨a, rfl, ha⟩ := is_int hx
  obtain ⟨b, rfl, hb⟩ := is_int hy
  obtain ⟨t, rfl, ht⟩ := is_text hz
  exact ⟨⟨a, b, t⟩, rfl, ht⟩
end Go.Proofs.Ytjieenfbfckafaa.Am
namespace Go.Proofs.Ytjieenfbfckafaa.Am
open Go
set_option linter.unusedVariables false
set_option linter.unusedSimpArgs false
set_option maxRecDepth 100000
set_option maxHeartbeats 1000000
/-- erasurelaw26.short -/
theorem short_meets (r : List Val) (hr : r.length ≤ 9223372036854775807) : Meets Try.prog F_erasurelaw26short ⟨[.c (dvals r)], [], 0, vb (decide (r.length ≤ 16)), [], 0⟩ := by
  refine fits_erasurelaw26short.meets rfl (by simp) fun Q hQ => ?_
  (conv => whnf); repeat' (first | (refine And.intro ?_ ?_; (focus (first | omega | (dsimp only; omega) | (simp only [List.length_append]; omega) | (simp [pb]; done) | (simp [pb]; omega) | (simp [zeros_u8, pb]; done) | (simp [zeros_u8, pb]; omega) | (simp [ByteArray.size]; omega) | exact Nat.le_of_ble_eq_true rfl | exact u64_nonneg _ | (refine chkDraw_ord ?_; kernel_rfl) | (decide; done))); (conv => whnf)) | (refine onB_intro (fun hb => ?_) (fun hb => ?_) <;> (try simp only [decide_eq_true_eq, decide_eq_false_iff_not, Bool.not_eq_true', Bool.not_eq_false', Bool.and_eq_true, Bool.and_eq_false_iff, Int.not_le, Int.not_lt, bsz, ByteArray.toList_eq, beq_iff_eq, beq_eq_false_iff_ne, ne_eq] at hb) <;> (try (exfalso; omega)) <;> (try (exfalso; first | contradiction | (simp [ByteArray.toList_eq] at hb; done))) <;> (conv => whnf)) | (refine (hQ _ _ _ ?_).1; (conv => whnf)) | (refine ⟨_, rfl, ?_⟩; (conv => whnf)) | (refine ⟨_, mp_cut _ _ _, ?_⟩; (conv => whnf)) | (refine ⟨_, dbs_cut _ _ _, ?_⟩; (conv => whnf)) | (refine ⟨[_], rfl, ?_⟩; (conv => whnf)) | (refine ⟨[_, _], rfl, ?_⟩; (conv => whnf)) | (refine ⟨[_, _, _], rfl, ?_⟩; (conv => whnf)) | (refine ⟨[_, _, _, _], rfl, ?_⟩; (conv => whnf)) | fail)
  all_goals (refine RetOk.pure' (fun f => rfl) (sub_bool ?_); (first | (simp_all [bsz, ByteArray.toList_eq]; done) | (simp_all [bsz, ByteArray.toList_eq]; omega) | (simp_all [bsz, ByteArray.toList_eq]; intros; omega)))
/-- erasureref26.CleanRow -/
theorem cleanRow_meets (r : List Val) (hr : r.length ≤ 1000) : Meets Try.prog F_erasureref26CleanRow ⟨[.c (dvals r)], [], 0, .c (dvals (r.map Val.clean)), [], 0⟩ := by
  refine fits_erasureref26CleanRow.meets rfl (by simp) fun Q hQ => ?_
  (conv => whnf); repeat' (first | (refine And.intro ?_ ?_; (focus (first | omega | (dsimp only; omega) | (simp only [List.length_append]; omega) | (simp [pb]; done) | (simp [pb]; omega) | (simp [zeros_u8, pb]; done) | (simp [zeros_u8, pb]; omega) | (simp [ByteArray.size]; omega) | exact Nat.le_of_ble_eq_true rfl | exact u64_nonneg _ | (refine chkDraw_ord ?_; kernel_rfl) | (decide; done))); (conv => whnf)) | (refine onB_intro (fun hb => ?_) (fun hb => ?_) <;> (try simp only [decide_eq_true_eq, decide_eq_false_iff_not, Bool.not_eq_true', Bool.not_eq_false', Bool.and_eq_true, Bool.and_eq_false_iff, Int.not_le, Int.not_lt, bsz, ByteArray.toList_eq, beq_iff_eq, beq_eq_false_iff_ne, ne_eq] at hb) <;> (try (exfalso; omega)) <;> (try (exfalso; first | contradiction | (simp [ByteArray.toList_eq] at hb; done))) <;> (conv => whnf)) | (refine (hQ _ _ _ ?_).1; (conv => whnf)) | (refine ⟨_, rfl, ?_⟩; (conv => whnf)) | (refine ⟨_, mp_cut _ _ _, ?_⟩; (conv => whnf)) | (refine ⟨_, dbs_cut _ _ _, ?_⟩; (conv => whnf)) | (refine ⟨[_], rfl, ?_⟩; (conv => whnf)) | (refine ⟨[_, _], rfl, ?_⟩; (conv => whnf)) | (refine ⟨[_, _, _], rfl, ?_⟩; (conv => whnf)) | (refine ⟨[_, _, _, _], rfl, ?_⟩; (conv => whnf)) | fail)
  refine loop_fam (fun i : Nat × List Val => ⟨[(0, .c (dvals r)), (3, .c (.ref 0 0 i.2.length 3)), (4, vi i.1)], [(0, ⟨T_api_Value, (i.2.flatMap Val.pv).map DV.p⟩)], 1⟩) (fun i => r.length - i.1)
    (fun i => i.1 ≤ r.length ∧ i.2 = (r.take i.1).map Val.clean) (0, [])
    ((Wk.adopt 3 3 T_api_Value rfl).trans (wkn [(0, 0)] rfl rfl (by repeat' (first | exact trivial | exact Sub.refl _ | refine And.intro ?_ ?_)) ⟨hp_pure rfl rfl, trivial⟩)) ⟨Nat.zero_le _, rfl⟩ ?_
  rintro ⟨k, acc⟩ ⟨hk, hacc⟩ K hK
  dsimp only at hk hacc
  have hal : acc.length = k := by rw [hacc]; simp; omega
  have hxl : ((acc.flatMap Val.pv).map DV.p).length = acc.length * 3 := by rw [List.length_map, flat_len Val.len]
  cases ha : r[k]? with
  | none =>
    have hkr : k = r.length := by have := List.getElem?_eq_none_iff.1 ha; omega
    have hall : acc = r.map Val.clean := by rw [hacc, hkr, List.take_length]
    rw [← hall] at hQ
    (conv => whnf); repeat' (first | (refine And.intro ?_ ?_; (focus (first | omega | (dsimp only; omega) | (simp only [List.length_append]; omega) | (simp [pb]; done) | (simp [pb]; omega) | (simp [zeros_u8, pb]; done) | (simp [zeros_u8, pb]; omega) | (simp [ByteArray.size]; omega) | exact Nat.le_of_ble_eq_true rfl | exact u64_nonneg _ | (refine chkDraw_ord ?_; kernel_rfl) | (decide; done))); (conv => whnf)) | (refine onB_intro (fun hb => ?_) (fun hb => ?_) <;> (try simp only [decide_eq_true_eq, decide_eq_false_iff_not, Bool.not_eq_true', Bool.not_eq_false', Bool.and_eq_true, Bool.and_eq_false_iff, Int.not_le, Int.not_lt, bsz, ByteArray.toList_eq, beq_iff_eq, beq_eq_false_iff_ne, ne_eq] at hb) <;> (try (exfalso; omega)) <;> (try (exfalso; first | contradiction | (simp [ByteArray.toList_eq] at hb; done))) <;> (conv => whnf)) | (refine (hQ _ _ _ ?_).1; (conv => whnf)) | (refine ⟨_, rfl, ?_⟩; (conv => whnf)) | (refine ⟨_, mp_cut _ _ _, ?_⟩; (conv => whnf)) | (refine ⟨_, dbs_cut _ _ _, ?_⟩; (conv => whnf)) | (refine ⟨[_], rfl, ?_⟩; (conv => whnf)) | (refine ⟨[_, _], rfl, ?_⟩; (conv => whnf)) | (refine ⟨[_, _, _], rfl, ?_⟩; (conv => whnf)) | (refine ⟨[_, _, _, _], rfl, ?_⟩; (conv => whnf)) | fail)
    all_goals (refine RetOk.freeze 0 T_api_Value (acc.flatMap Val.pv) (hp_eq rfl rfl) (RetOk.pure' (fun f => rfl) ?_); exact sub_slice Val.len acc)
  | some a =>
    have hlt : k < r.length := (List.getElem?_eq_some_iff.1 ha).1
    (conv => whnf); repeat' (first | (refine And.intro ?_ ?_; (focus (first | omega | (dsimp only; omega) | (simp only [List.length_append]; omega) | (simp [pb]; done) | (simp [pb]; omega) | (simp [zeros_u8, pb]; done) | (simp [zeros_u8, pb]; omega) | (simp [ByteArray.size]; omega) | exact Nat.le_of_ble_eq_true rfl | exact u64_nonneg _ | (refine chkDraw_ord ?_; kernel_rfl) | (decide; done))); (conv => whnf)) | (refine onB_intro (fun hb => ?_) (fun hb => ?_) <;> (try simp only [decide_eq_true_eq, decide_eq_false_iff_not, Bool.not_eq_true', Bool.not_eq_false', Bool.and_eq_true, Bool.and_eq_false_iff, Int.not_le, Int.not_lt, bsz, ByteArray.toList_eq, beq_iff_eq, beq_eq_false_iff_ne, ne_eq] at hb) <;> (try (exfalso; omega)) <;> (try (exfalso; first | contradiction | (simp [ByteArray.toList_eq] at hb; done))) <;> (conv => whnf)) | (refine (hQ _ _ _ ?_).1; (conv => whnf)) | (refine ⟨_, rfl, ?_⟩; (conv => whnf)) | (refine ⟨_, mp_cut _ _ _, ?_⟩; (conv => whnf)) | (refine ⟨_, dbs_cut _ _ _, ?_⟩; (conv => whnf)) | (refine ⟨[_], rfl, ?_⟩; (conv => whnf)) | (refine ⟨[_, _], rfl, ?_⟩; (conv => whnf)) | (refine ⟨[_, _, _], rfl, ?_⟩; (conv => whnf)) | (refine ⟨[_, _, _, _], rfl, ?_⟩; (conv => whnf)) | (refine call_pure (rvclean_meets a) (fun F => by first | exact rfl | (simp only [TV.rens, TV.ren, dbs_ren]; rfl) | (simp [TV.rens, TV.ren, dbs_ren, map_ren_p]; done)) (fun F => by first | exact rfl | (simp only [TV.rens, TV.ren, dbs_ren]; rfl) | (simp [TV.rens, TV.ren, dbs_ren, map_ren_p]; done)) ?_ ?_; (focus ((repeat' (first | exact trivial | exact Sub.refl _ | exact sub_nil | exact Or.inl rfl | exact Or.inr ⟨rfl, rfl⟩ | (refine sub_ref ?_; (first | omega | (simp; done) | (simp; omega))) | (refine sub_int ?_; (first | omega | rfl | (simp [bsz]; done))) | refine sub_tup ?_ | exact sub_agg_dbs_r | exact sub_agg_take_r rfl (by first | assumption | omega) | (refine sub_agg_take rfl ?_; (first | ((try rw [dbs_length]); assumption) | ((try rw [dbs_length]); omega))) | refine sub_agg ?_ | (refine sub_val ?_ ?_ <;> (first | omega | (simp [pb, List.map_take, List.map_drop, List.take_take]; done) | (simp [pb, List.map_take, List.map_drop]; omega) | (simp [pb, List.take_of_length_le]; done))) | (refine or_val ?_ ?_ <;> (first | omega | (simp [pb, List.map_take, List.map_drop, List.take_take]; done) | (simp [pb, List.map_take, List.map_drop]; omega) | (simp [pb, List.take_of_length_le]; done))) | refine And.intro ?_ ?_)); done)); (conv => whnf)) | (simp only [elem_at' Val.len ha]; (conv => whnf)) | fail)
    refine hK _ _ _ (k + 1, acc ++ [a.clean]) ⟨by dsimp only; omega, by dsimp only; rw [hacc, List.take_add_one, ha, List.map_append]; rfl⟩ (by dsimp only; omega) (wkn [(0, 2)] rfl rfl (by repeat' (first | exact trivial | exact Sub.refl _ | exact sub_ref (by simp) | exact sub_int (by dsimp only; omega) | refine And.intro ?_ ?_)) ⟨hp_pure rfl (cells_snoc Val.len acc a.clean), trivial⟩)
theorem is_vals {cs : List PV} (h : RT.Is (.slice rVal) cs) : ∃ l : List Val, cs = [.val l.length (l.flatMap Val.pv)] ∧ l.length ≤ 9223372036854775807 ∧ ∀ a ∈ l, a.t.length ≤ 9223372036854775807 := by
  obtain ⟨n, xs, rfl, hn, hc⟩ := h
  obtain ⟨l, rfl, rfl, hr⟩ := chunks_list (f := Val.pv) (fun cs h => is_val h) hc
  exact ⟨l, rfl, by simpa [maxLen] using hn, hr⟩
end Go.Proofs.Ytjieenfbfckafaa.Am
namespace Go.Proofs.Ytjieenfbfckafaa.Am
open Go
set_option linter.unusedVariables false
set_option linter.unusedSimpArgs false
set_option maxRecDepth 100000
set_option maxHeartbeats 1000000
def Chg.zero : Chg := ⟨0, 0, 0, 0, [], Val.null, 0, Val.null⟩
def Chg.clean (c : Chg) : Chg := ⟨c.k, c.seq, c.day, c.t, c.row.map Val.clean, c.key.clean, c.col, c.val.clean⟩
end Go.Proofs.Ytjieenfbfckafaa.Am
namespace Go.Proofs.Ytjieenfbfckafaa.Am
open Go
set_option linter.unusedVariables false
set_option linter.unusedSimpArgs false
set_option maxRecDepth 100000
set_option maxHeartbeats 1000000
def Chg.same (a b : Chg) : Prop := a.k = b.k ∧ a.seq = b.seq ∧ a.day = b.day ∧ a.t = b.t ∧ a.row = b.row ∧ a.key = b.key ∧ a.col = b.col ∧ a.val = b.val
instance : DecidableRel Chg.same := fun a b => by unfold Chg.same; exact inferInstance
end Go.Proofs.Ytjieenfbfckafaa.Am
namespace Go.Proofs.Ytjieenfbfckafaa.Am
open Go
set_option linter.unusedVariables false
set_option linter.unusedSimpArgs false
set_option maxRecDepth 100000
set_option maxHeartbeats 1000000
def Ent.clean (e : Ent) : Ent := ⟨e.row.map Val.clean, e.cnt⟩
end Go.Proofs.Ytjieenfbfckafaa.Am
namespace Go.Proofs.Ytjieenfbfckafaa.Am
open Go
set_option linter.unusedVariables false
set_option linter.unusedSimpArgs false
def Sr.recd (s : Sr) : Recd × Sr :=
  let r := s.row
  let q := many Sr.int r.1.length r.2
  let d := q.2.int
  (⟨r.1, q.1, d.1⟩, d.2)
def Recd.zero : Recd := ⟨[], [], 0⟩
def LE.zero : LE := ⟨0, 0, 0, 0, Req.zero, Link.zero, Hold.zero, [], [], zero32⟩
def LE.at (k d p s : Int) : LE := ⟨k, d, p, s, Req.zero, Link.zero, Hold.zero, [], [], zero32⟩
structure Stream {α : Type} (f : Sr → α × Sr) : Prop where
  stick : ∀ s, s.e ≠ 0 → (f s).2.e = s.e
  more : ∀ b r, (f ⟨b, 0⟩).2.e = 0 → f ⟨b ++ r, 0⟩ = ((f ⟨b, 0⟩).1, ⟨(f ⟨b, 0⟩).2.b ++ r, 0⟩)
  bad : ∀ b r, (f ⟨b, 0⟩).2.e ≠ 0 → (f ⟨b, 0⟩).2.e ≠ 100 → (f ⟨b ++ r, 0⟩).2.e = (f ⟨b, 0⟩).2.e
theorem Sr.eta0 {s : Sr} (h : s.e = 0) : s = ⟨s.b, 0⟩ := by cases s; cases h; rfl
theorem Stream.bind {α β : Type} {f : Sr → α × Sr} {g : α → Sr → β × Sr} (hf : Stream f) (hg : ∀ x, Stream (g x)) : Stream (fun s => g (f s).1 (f s).2) := by
  refine ⟨fun s hs => ?_, fun b r h => ?_, fun b r h h' => ?_⟩
  · have h1 := hf.stick s hs
    have h2 := (hg (f s).1).stick (f s).2 (by rw [h1]; exact hs)
    rw [h2, h1]
  · (try dsimp only at h ⊢)
    by_cases he : (f ⟨b, 0⟩).2.e = 0
    · have h1 := hf.more b r he
      rw [h1]
      (try dsimp only)
      rw [Sr.eta0 he] at h ⊢
      exact (hg _).more _ _ h
    · have h2 := (hg (f ⟨b, 0⟩).1).stick _ he
      rw [h2] at h; exact absurd h he
  · (try dsimp only at h h' ⊢)
    by_cases he : (f ⟨b, 0⟩).2.e = 0
    · have h1 := hf.more b r he
      rw [h1]
      (try dsimp only)
      rw [Sr.eta0 he] at h h' ⊢
      exact (hg _).bad _ _ h h'
    · have h2 := (hg (f ⟨b, 0⟩).1).stick _ he
      rw [h2] at h' ⊢
      have h3 := hf.bad b r he h'
      rw [(hg _).stick _ (by rw [h3]; exact he), h3]
theorem Stream.ret {α : Type} (x : α) : Stream (fun s => (x, s)) := ⟨fun s h => rfl, fun b r h => rfl, fun b r h h' => rfl⟩
theorem Stream.map {α β : Type} {f : Sr → α × Sr} (g : α → β) (hf : Stream f) : Stream (fun s => (g (f s).1, (f s).2)) := hf.bind fun x => Stream.ret (g x)
theorem Stream.check {α : Type} (x : α) (p : Prop) [Decidable p] : Stream (fun s => (x, if p then s.fail 1 else s)) := by
  by_cases hp : p
  · simp only [if_pos hp]
    refine ⟨fun s hs => ?_, fun b r h => ?_, fun b r h h' => ?_⟩
    · simp only [Sr.fail, if_neg hs]
    · simp [Sr.fail] at h
    · simp [Sr.fail]
  · simp only [if_neg hp]; exact Stream.ret x
theorem Stream.ite {α : Type} {f g : Sr → α × Sr} (p : Prop) [Decidable p] (hf : Stream f) (hg : Stream g) : Stream (fun s => if p then f s else g s) := by
  by_cases hp : p
  · simp only [if_pos hp]; exact hf
  · simp only [if_neg hp]; exact hg
theorem Stream.same {α : Type} {f g : Sr → α × Sr} (hf : Stream f) (h2 : ∀ s, (g s).2 = (f s).2) (h1 : ∀ s, (f s).2.e = 0 → (g s).1 = (f s).1) : Stream g := by
  refine ⟨fun s hs => by rw [h2]; exact hf.stick s hs, fun b r h => ?_, fun b r h h' => ?_⟩
  · rw [h2] at h
    have h3 := hf.more b r h
    have h4 := h2 ⟨b ++ r, 0⟩
    have h5 := h1 ⟨b ++ r, 0⟩ (by rw [h3])
    rw [h3] at h4 h5
    rw [h2 ⟨b, 0⟩, h1 _ h]
    exact Prod.ext h5 h4
  · rw [h2] at h h' ⊢
    rw [h2]
    exact hf.bad b r h h'
theorem decU_more : ∀ (b r : List UInt8) (i u : Nat), (∀ v q, decU i u b = .ok (v, q) → decU i u (b ++ r) = .ok (v, q ++ r)) ∧ (∀ x, decU i u b = .error x → x ≠ 100 → decU i u (b ++ r) = .error x)
  | [], r, i, u => by
    constructor
    · intro v q h; simp [decU] at h
    · intro x h hx; simp [decU] at h; exact absurd h.symm hx
  | c :: b, r, i, u => by
    rw [List.cons_append]
    by_cases h1 : (i = 9 ∧ 1 < c.toNat) ∨ (0 < i ∧ c.toNat = 0)
    · rw [decU_bad h1, decU_bad h1]
      exact ⟨fun v q h => by simp at h, fun x h _ => h⟩
    · by_cases h2 : c.toNat < 128
      · rw [decU_last h1 h2, decU_last h1 h2]
        refine ⟨fun v q h => ?_, fun x h => by simp at h⟩
        simp only [Except.ok.injEq, Prod.mk.injEq] at h ⊢
        exact ⟨h.1, by rw [h.2]⟩
      · rw [decU_step h1 h2, decU_step h1 h2]
        exact decU_more b r _ _
theorem Stream.int : Stream Sr.int := by
  refine ⟨fun s hs => by unfold Sr.int; rw [if_neg hs], fun b r h => ?_, fun b r h h' => ?_⟩
  · obtain ⟨m1, m2⟩ := decU_more b r 0 0
    unfold Sr.int at h ⊢
    rw [if_pos rfl] at h
    rw [if_pos rfl, if_pos rfl]
    cases hd : decU 0 0 b with
    | error x =>
      rw [hd] at h
      dsimp only at h
      subst h
      have := m2 0 hd (by decide)
      dsimp only
      rw [this]
    | ok p =>
      obtain ⟨v, q⟩ := p
      have := m1 v q hd
      dsimp only
      rw [this]
  · obtain ⟨m1, m2⟩ := decU_more b r 0 0
    unfold Sr.int at h h' ⊢
    rw [if_pos rfl] at h h' ⊢
    rw [if_pos rfl]
    cases hd : decU 0 0 b with
    | error x =>
      rw [hd] at h'
      have := m2 x hd h'
      dsimp only
      rw [this]
    | ok p => rw [hd] at h; exact absurd rfl h
theorem Stream.count (m : Int) : Stream (Sr.count m) := by
  refine Stream.same (Stream.bind Stream.int fun n => Stream.check n (n < 0 ∨ m < n)) (fun s => ?_) (fun s h => ?_)
  · unfold Sr.count; dsimp only; split <;> split <;> rfl
  · dsimp only at h; unfold Sr.count; dsimp only; rw [if_pos h]
theorem Stream.take (n : Nat) : Stream (Sr.take n) := by
  refine ⟨fun s hs => by unfold Sr.take; rw [if_neg hs], fun b r h => ?_, fun b r h h' => ?_⟩
  · unfold Sr.take at h ⊢
    rw [if_pos rfl] at h
    rw [if_pos rfl, if_pos rfl]
    dsimp only at h ⊢
    split at h
    · simp at h
    · rename_i hn
      have hn : n ≤ b.length := by omega
      rw [if_neg (by simp; omega), if_neg (by omega)]
      rw [List.take_append_of_le_length hn, List.drop_append_of_le_length hn]
  · unfold Sr.take at h h' ⊢
    rw [if_pos rfl] at h h'
    split at h
    · rename_i hn; rw [if_pos hn] at h'; simp at h'
    · simp at h
theorem Stream.text (m : Int) : Stream (Sr.text m) := (Stream.count m).bind fun n => Stream.take n.toNat
theorem Stream.value : Stream Sr.value := by
  refine (Stream.count 2).bind (g := fun n s => if n = 1 then ((⟨1, s.int.1, []⟩ : Val), if s.int.1 < -4294967296 ∨ 4294967296 < s.int.1 then s.int.2.fail 1 else s.int.2) else if n = 2 then ((⟨2, 0, (s.text 32).1⟩ : Val), (s.text 32).2) else (Val.null, s)) fun n => ?_
  refine Stream.ite _ (Stream.int.bind fun v => Stream.check (⟨1, v, []⟩ : Val) (v < -4294967296 ∨ 4294967296 < v)) (Stream.ite _ ((Stream.text 32).map fun t => (⟨2, 0, t⟩ : Val)) (Stream.ret _))
theorem Stream.many {α : Type} {f : Sr → α × Sr} (hf : Stream f) : ∀ n, Stream (many f n)
  | 0 => Stream.ret []
  | n + 1 => by
    have h := hf.bind fun x => (Stream.many hf n).map fun l => x :: l
    refine ⟨fun s hs => by rw [Am.many, if_neg hs], fun b r hh => ?_, fun b r hh hh' => ?_⟩
    · rw [Am.many, if_pos rfl] at hh
      rw [Am.many, if_pos rfl, Am.many, if_pos rfl]
      exact h.more b r hh
    · rw [Am.many, if_pos rfl] at hh hh'
      rw [Am.many, if_pos rfl, Am.many, if_pos rfl]
      exact h.bad b r hh hh'
theorem Stream.list {α : Type} {f : Sr → α × Sr} (hf : Stream f) (m : Int) : Stream (Sr.list f m) := (Stream.count m).bind fun n => Stream.many hf n.toNat
theorem Stream.row : Stream Sr.row := Stream.list Stream.value 16
theorem Stream.ident : Stream Sr.ident := (Stream.text 16).bind fun t => Stream.value.map fun v => (⟨t, v⟩ : Ident)
theorem Stream.ver : Stream Sr.ver := Stream.int.bind fun x => Stream.int.bind fun y => Stream.int.map fun z => (⟨x, z, y⟩ : Ver)
theorem Stream.sou : Stream Sr.sou := Stream.int.bind fun x => Stream.int.map fun y => (⟨x, y⟩ : Sou)
theorem Stream.vers : Stream Sr.vers := Stream.list Stream.ver 512
theorem Stream.sous : Stream Sr.sous := Stream.list Stream.sou 512
theorem Stream.link : Stream Sr.link := Stream.ident.bind fun a => Stream.ident.bind fun b => Stream.int.bind fun x => (Stream.count 1).map fun y => (⟨a, b, x, decide (y = 1)⟩ : Link)
theorem Stream.hold : Stream Sr.hold := Stream.int.bind fun a => Stream.int.bind fun b => Stream.ident.bind fun c => Stream.int.bind fun d => Stream.int.bind fun e => Stream.int.map fun f => (⟨a, b, c, d, e, f⟩ : Hold)
theorem Stream.req : Stream Sr.req := Stream.int.bind fun a => Stream.ident.bind fun c => Stream.int.bind fun d => Stream.int.bind fun e => Stream.int.map fun f => (⟨a, c, d, e, f⟩ : Req)
theorem recd_enc {r : Recd} (h : r.ok) (hr : r.row.length ≤ 16) (rest : List UInt8) : Sr.recd ⟨encRec r ++ rest, 0⟩ = (⟨r.row.map Val.clean, r.seqs, r.day⟩, ⟨rest, 0⟩) := by
  obtain ⟨_, h1, h2⟩ := h
  unfold Sr.recd encRec
  rw [List.append_assoc, List.append_assoc, row_enc hr]; dsimp only
  have hm := many_enc (f := Sr.int) (enc := encInt) (dec := fun n => n) (l := r.seqs) (fun a ha rest => int_enc (Recd.seqs_in h2 a ha) rest) (encInts [r.day] ++ rest)
  rw [Recd.seqs_len, List.map_id'] at hm
  rw [List.length_map]
  rw [show encInts r.seqs = r.seqs.flatMap encInt from rfl, hm]; dsimp only
  rw [ints1_enc, int_enc h1]
end Go.Proofs.Ytjieenfbfckafaa.Am
namespace Go.Proofs.Ytjieenfbfckafaa.Am
open Go
set_option linter.unusedVariables false
set_option linter.unusedSimpArgs false
set_option maxRecDepth 100000
set_option maxHeartbeats 1000000
theorem sub_vb {b : Bool} : ∀ (w : World) (X Y : Ctx) u, Y.I = X.I → TVR w X (vb b) u → TVR w Y (vb b) u := fun w X Y u h t => TVR.anyCtx h rfl t
theorem is_list {α : Type} {r : RT} {f : α → List PV} {R : α → Prop} (h : ∀ cs, RT.Is r cs → ∃ a, cs = f a ∧ R a) {cs : List PV} (h' : RT.Is (.slice r) cs) : ∃ l : List α, cs = [.val l.length (l.flatMap f)] ∧ l.length ≤ 9223372036854775807 ∧ ∀ a ∈ l, R a := by
  obtain ⟨n, xs, rfl, hn, hc⟩ := h'
  obtain ⟨l, rfl, rfl, hr⟩ := chunks_list (f := f) h hc
  exact ⟨l, rfl, by simpa [maxLen] using hn, hr⟩
end Go.Proofs.Ytjieenfbfckafaa.Am
namespace Go.Proofs.Ytjieenfbfckafaa.Am
open Go
set_option linter.unusedVariables false
set_option linter.unusedSimpArgs false
set_option maxRecDepth 100000
set_option maxHeartbeats 1000000
theorem map_pi_snoc (acc : List Int) (v : Int) : ((acc.map pi).map DV.p).take (acc.length * 1) ++ [DV.p (pi v)] = ((acc ++ [v]).map pi).map DV.p := by
  rw [List.take_of_length_le (by simp)]; simp
theorem sub_ints (l : List Int) : DV.p (.val l.length (((l.map pi).drop 0).take (l.length * 1))) = dints l := by
  rw [List.drop_zero, List.take_of_length_le (by simp)]
theorem Sr.row_count (s : Sr) : s.row.1.length ≤ 16 := by
  have h := s.count_range 16 (by omega)
  have h2 := many_count (f := Sr.value) (s.count 16).1.toNat (s.count 16).2
  show (many Sr.value (s.count 16).1.toNat (s.count 16).2).1.length ≤ 16
  omega
end Go.Proofs.Ytjieenfbfckafaa.Am

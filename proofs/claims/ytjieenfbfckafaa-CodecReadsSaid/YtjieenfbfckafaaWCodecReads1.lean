/- What the claim of CodecReads reaches, part 1. -/
import Derived.Test.YtjieenfbfckafaaWCodecReads0
namespace Go.Proofs.Ytjieenfbfckafaa.Am
open Go
set_option linter.unusedVariables false
set_option linter.unusedSimpArgs false
set_option maxRecDepth 100000
set_option maxHeartbeats 1000000
/-- codec.source.integer -/
theorem integer_meets (s : Sr) (hs : s.ok) : Meets Try.prog F_codec_source_integer ⟨[.c (.ptr 0 0)], [(0, sob s)], 1, vi s.int.1, [(0, sob s.int.2)], 1⟩ := by
  have hs : s.b.length ≤ 4611686018427387904 := hs
  by_cases he : s.e = 0
  · refine fits_codec_source_integer.meets rfl (by simp) fun Q hQ => ?_
    have hint : s.int = match decU 0 0 s.b with | .error x => (0, ⟨s.b, x⟩) | .ok (u, r) => (unzz u, ⟨r, 0⟩) := by unfold Sr.int; rw [if_pos he]; try rfl
    (conv => whnf); repeat' (first | (refine And.intro ?_ ?_; (focus (exact zq3)); (conv => whnf)) | (refine onB_intro (fun hb => ?_) (fun hb => ?_) <;> (try simp only [decide_eq_true_eq, decide_eq_false_iff_not, Bool.not_eq_true', Bool.not_eq_false', Bool.and_eq_true, Bool.and_eq_false_iff, Int.not_le, Int.not_lt, bsz, ByteArray.toList_eq, beq_iff_eq, beq_eq_false_iff_ne, ne_eq] at hb) <;> (try (exfalso; omega)) <;> (try (exfalso; first | contradiction | (simp [ByteArray.toList_eq] at hb; done))) <;> (conv => whnf)) | (refine (hQ _ _ _ ?_).1; (conv => whnf)) | (refine ⟨_, rfl, ?_⟩; (conv => whnf)) | (refine ⟨_, mp_cut _ _ _, ?_⟩; (conv => whnf)) | (refine ⟨_, dbs_cut _ _ _, ?_⟩; (conv => whnf)) | (refine ⟨[_], rfl, ?_⟩; (conv => whnf)) | (refine ⟨[_, _], rfl, ?_⟩; (conv => whnf)) | (refine ⟨[_, _, _], rfl, ?_⟩; (conv => whnf)) | (refine ⟨[_, _, _, _], rfl, ?_⟩; (conv => whnf)) | fail)
    refine loop_fam (ι := Nat × Nat) (fun i => ⟨[(0, .c (.ptr 0 0)), (3, .c (.p (.v (.int .u64 i.2)))), (4, vi i.1)], [(0, sob s)], 1⟩) (fun i => 10 - i.1) (fun i => i.1 ≤ 9 ∧ i.1 ≤ s.b.length ∧ i.2 < 2 ^ (7 * i.1) ∧ decU i.1 i.2 (s.b.drop i.1) = decU 0 0 s.b) (0, 0)
      (wkn [] rfl rfl ⟨Sub.refl _, Sub.refl _, Sub.refl _, trivial⟩ ⟨rfl, trivial⟩) ⟨by omega, by omega, by decide, rfl⟩ ?_
    rintro ⟨k, u⟩ ⟨hk, hkl, hu, hdec⟩ K hK
    simp only at hk hkl hu hdec
    cases hd : s.b.drop k with
    | nil =>
      have hle : s.b.length ≤ k := List.drop_eq_nil_iff.1 hd
      rw [hd] at hdec
      rw [← hdec] at hint
      (conv => whnf); repeat' (first | (refine And.intro ?_ ?_; (focus (exact zq3)); (conv => whnf)) | (refine onB_intro (fun hb => ?_) (fun hb => ?_) <;> (try simp only [decide_eq_true_eq, decide_eq_false_iff_not, Bool.not_eq_true', Bool.not_eq_false', Bool.and_eq_true, Bool.and_eq_false_iff, Int.not_le, Int.not_lt, bsz, ByteArray.toList_eq, beq_iff_eq, beq_eq_false_iff_ne, ne_eq] at hb) <;> (try (exfalso; omega)) <;> (try (exfalso; first | contradiction | (simp [ByteArray.toList_eq] at hb; done))) <;> (conv => whnf)) | (refine (hQ _ _ _ ?_).1; (conv => whnf)) | (refine ⟨_, rfl, ?_⟩; (conv => whnf)) | (refine ⟨_, mp_cut _ _ _, ?_⟩; (conv => whnf)) | (refine ⟨_, dbs_cut _ _ _, ?_⟩; (conv => whnf)) | (refine ⟨[_], rfl, ?_⟩; (conv => whnf)) | (refine ⟨[_, _], rfl, ?_⟩; (conv => whnf)) | (refine ⟨[_, _, _], rfl, ?_⟩; (conv => whnf)) | (refine ⟨[_, _, _, _], rfl, ?_⟩; (conv => whnf)) | (apply call_obj (fail_meets' s 100) (fun F => by first | exact rfl | exact bob_ren F _ | exact ob_ren F _ _) (fun F => by first | exact rfl | exact bob_ren F _ | exact ob_ren F _ _); (focus (exact zq0)); (focus (exact zq2)); (conv => whnf)) | fail)
      rw [hint]
      exact ret_obj rfl (Sub.refl _) rfl (by simp [Sr.fail, he, decU]) (fun F => rfl) (fun F => rfl)
    | cons c r =>
      have hc : s.b[k]? = some c := by have := congrArg List.head? hd; rwa [List.head?_drop] at this
      have hlt : k < s.b.length := (List.getElem?_eq_some_iff.1 hc).1
      have hr : r = s.b.drop (k + 1) := by have := congrArg List.tail hd; rw [List.tail_drop] at this; exact this.symm
      have hcb : c.toNat < 256 := c.toNat_lt
      rw [hd] at hdec
      by_cases hbad : (k = 9 ∧ 1 < c.toNat) ∨ (0 < k ∧ c.toNat = 0)
      · rw [decU_bad hbad] at hdec
        rw [← hdec] at hint
        (conv => whnf); repeat' (first | (refine And.intro ?_ ?_; (focus (exact zq3)); (conv => whnf)) | (refine onB_intro (fun hb => ?_) (fun hb => ?_) <;> (try simp only [decide_eq_true_eq, decide_eq_false_iff_not, Bool.not_eq_true', Bool.not_eq_false', Bool.and_eq_true, Bool.and_eq_false_iff, Int.not_le, Int.not_lt, bsz, ByteArray.toList_eq, beq_iff_eq, beq_eq_false_iff_ne, ne_eq] at hb) <;> (try (exfalso; omega)) <;> (try (exfalso; first | contradiction | (simp [ByteArray.toList_eq] at hb; done))) <;> (conv => whnf)) | (refine (hQ _ _ _ ?_).1; (conv => whnf)) | (refine ⟨_, rfl, ?_⟩; (conv => whnf)) | (refine ⟨_, mp_cut _ _ _, ?_⟩; (conv => whnf)) | (refine ⟨_, dbs_cut _ _ _, ?_⟩; (conv => whnf)) | (refine ⟨[_], rfl, ?_⟩; (conv => whnf)) | (refine ⟨[_, _], rfl, ?_⟩; (conv => whnf)) | (refine ⟨[_, _, _], rfl, ?_⟩; (conv => whnf)) | (refine ⟨[_, _, _, _], rfl, ?_⟩; (conv => whnf)) | (apply call_obj (fail_meets' s 1) (fun F => by first | exact rfl | exact bob_ren F _ | exact ob_ren F _ _) (fun F => by first | exact rfl | exact bob_ren F _ | exact ob_ren F _ _); (focus (exact zq0)); (focus (exact zq2)); (conv => whnf)) | (simp only [elem_pb hc]; (conv => whnf)) | fail)
        all_goals rw [hint]
        all_goals exact ret_obj rfl (Sub.refl _) rfl (by simp [Sr.fail, he]) (fun F => rfl) (fun F => rfl)
      · have h9 : k = 9 → c.toNat ≤ 1 := by omega
        obtain ⟨n1, n2, n3⟩ := next_bound hk h9 hu
        by_cases hlast : c.toNat < 128
        · rw [decU_last hbad hlast] at hdec
          rw [← hdec] at hint
          (conv => whnf); repeat' (first | (refine And.intro ?_ ?_; (focus (exact zq3)); (conv => whnf)) | (refine onB_intro (fun hb => ?_) (fun hb => ?_) <;> (try simp only [decide_eq_true_eq, decide_eq_false_iff_not, Bool.not_eq_true', Bool.not_eq_false', Bool.and_eq_true, Bool.and_eq_false_iff, Int.not_le, Int.not_lt, bsz, ByteArray.toList_eq, beq_iff_eq, beq_eq_false_iff_ne, ne_eq] at hb) <;> (try (exfalso; omega)) <;> (try (exfalso; first | contradiction | (simp [ByteArray.toList_eq] at hb; done))) <;> (conv => whnf)) | (refine (hQ _ _ _ ?_).1; (conv => whnf)) | (refine ⟨_, rfl, ?_⟩; (conv => whnf)) | (refine ⟨_, mp_cut _ _ _, ?_⟩; (conv => whnf)) | (refine ⟨_, dbs_cut _ _ _, ?_⟩; (conv => whnf)) | (refine ⟨[_], rfl, ?_⟩; (conv => whnf)) | (refine ⟨[_, _], rfl, ?_⟩; (conv => whnf)) | (refine ⟨[_, _, _], rfl, ?_⟩; (conv => whnf)) | (refine ⟨[_, _, _, _], rfl, ?_⟩; (conv => whnf)) | (simp only [elem_pb hc, next_u hk h9 hu]; (conv => whnf)) | fail)
          all_goals
            rw [hint]
            have hU : ((u + c.toNat % 128 * 2 ^ (7 * k) : Nat) : Int) < 18446744073709551616 := by
              have h := Int.ofNat_lt.2 n2
              rwa [show ((2 ^ 64 : Nat) : Int) = 18446744073709551616 from rfl] at h
            rw [next_u hk h9 hu, and_1 (Int.natCast_nonneg _) hU] at hb
            clear hint hdec
            generalize u + c.toNat % 128 * 2 ^ (7 * k) = U at hU hb n2 ⊢
            first
              | exact ret_obj rfl (sub_int (unzz_neg n2 (by omega))) rfl (ob2_eq (dv_val (by rw [hr]; simp; omega) (by rw [hr]; exact pb_rest _ k _ _ (by omega) (by omega))) (by rw [he])) (fun F => rfl) (fun F => rfl)
              | exact ret_obj rfl (sub_int (unzz_pos n2 (by omega))) rfl (ob2_eq (dv_val (by rw [hr]; simp; omega) (by rw [hr]; exact pb_rest _ k _ _ (by omega) (by omega))) (by rw [he])) (fun F => rfl) (fun F => rfl)
        · rw [decU_step hbad hlast] at hdec
          have hk9 : k ≠ 9 := by omega
          (conv => whnf); repeat' (first | (refine And.intro ?_ ?_; (focus (exact zq3)); (conv => whnf)) | (refine onB_intro (fun hb => ?_) (fun hb => ?_) <;> (try simp only [decide_eq_true_eq, decide_eq_false_iff_not, Bool.not_eq_true', Bool.not_eq_false', Bool.and_eq_true, Bool.and_eq_false_iff, Int.not_le, Int.not_lt, bsz, ByteArray.toList_eq, beq_iff_eq, beq_eq_false_iff_ne, ne_eq] at hb) <;> (try (exfalso; omega)) <;> (try (exfalso; first | contradiction | (simp [ByteArray.toList_eq] at hb; done))) <;> (conv => whnf)) | (refine (hQ _ _ _ ?_).1; (conv => whnf)) | (refine ⟨_, rfl, ?_⟩; (conv => whnf)) | (refine ⟨_, mp_cut _ _ _, ?_⟩; (conv => whnf)) | (refine ⟨_, dbs_cut _ _ _, ?_⟩; (conv => whnf)) | (refine ⟨[_], rfl, ?_⟩; (conv => whnf)) | (refine ⟨[_, _], rfl, ?_⟩; (conv => whnf)) | (refine ⟨[_, _, _], rfl, ?_⟩; (conv => whnf)) | (refine ⟨[_, _, _, _], rfl, ?_⟩; (conv => whnf)) | (simp only [elem_pb hc]; (conv => whnf)) | fail)
          all_goals refine hK _ _ _ (k + 1, u + c.toNat % 128 * 2 ^ (7 * k)) ⟨by dsimp only; omega, by dsimp only; omega, n3 (by omega), by dsimp only; rw [← hr]; exact hdec⟩ (by dsimp only; omega) (wkn [] rfl rfl ⟨Sub.refl _, sub_int (next_u hk h9 hu), sub_int (by dsimp only; omega), trivial⟩ ⟨rfl, trivial⟩)
  · have hint : s.int = (0, s) := by unfold Sr.int; rw [if_neg he]
    rw [hint]
    refine fits_codec_source_integer.meets rfl (by simp) fun Q hQ => ?_
    (conv => whnf); repeat' (first | (refine And.intro ?_ ?_; (focus (exact zq3)); (conv => whnf)) | (refine onB_intro (fun hb => ?_) (fun hb => ?_) <;> (try simp only [decide_eq_true_eq, decide_eq_false_iff_not, Bool.not_eq_true', Bool.not_eq_false', Bool.and_eq_true, Bool.and_eq_false_iff, Int.not_le, Int.not_lt, bsz, ByteArray.toList_eq, beq_iff_eq, beq_eq_false_iff_ne, ne_eq] at hb) <;> (try (exfalso; omega)) <;> (try (exfalso; first | contradiction | (simp [ByteArray.toList_eq] at hb; done))) <;> (conv => whnf)) | (refine (hQ _ _ _ ?_).1; (conv => whnf)) | (refine ⟨_, rfl, ?_⟩; (conv => whnf)) | (refine ⟨_, mp_cut _ _ _, ?_⟩; (conv => whnf)) | (refine ⟨_, dbs_cut _ _ _, ?_⟩; (conv => whnf)) | (refine ⟨[_], rfl, ?_⟩; (conv => whnf)) | (refine ⟨[_, _], rfl, ?_⟩; (conv => whnf)) | (refine ⟨[_, _, _], rfl, ?_⟩; (conv => whnf)) | (refine ⟨[_, _, _, _], rfl, ?_⟩; (conv => whnf)) | fail)
    refine loop_fam (ι := Unit) (fun i => ⟨[(0, .c (.ptr 0 0)), (3, .c (.p (.v (.int .u64 0)))), (4, vi 0)], [(0, sob s)], 1⟩) (fun i => 0) (fun i => True) ()
      (wkn [] rfl rfl ⟨Sub.refl _, Sub.refl _, Sub.refl _, trivial⟩ ⟨rfl, trivial⟩) trivial ?_
    intro i _ K hK
    (conv => whnf); repeat' (first | (refine And.intro ?_ ?_; (focus (exact zq3)); (conv => whnf)) | (refine onB_intro (fun hb => ?_) (fun hb => ?_) <;> (try simp only [decide_eq_true_eq, decide_eq_false_iff_not, Bool.not_eq_true', Bool.not_eq_false', Bool.and_eq_true, Bool.and_eq_false_iff, Int.not_le, Int.not_lt, bsz, ByteArray.toList_eq, beq_iff_eq, beq_eq_false_iff_ne, ne_eq] at hb) <;> (try (exfalso; omega)) <;> (try (exfalso; first | contradiction | (simp [ByteArray.toList_eq] at hb; done))) <;> (conv => whnf)) | (refine (hQ _ _ _ ?_).1; (conv => whnf)) | (refine ⟨_, rfl, ?_⟩; (conv => whnf)) | (refine ⟨_, mp_cut _ _ _, ?_⟩; (conv => whnf)) | (refine ⟨_, dbs_cut _ _ _, ?_⟩; (conv => whnf)) | (refine ⟨[_], rfl, ?_⟩; (conv => whnf)) | (refine ⟨[_, _], rfl, ?_⟩; (conv => whnf)) | (refine ⟨[_, _, _], rfl, ?_⟩; (conv => whnf)) | (refine ⟨[_, _, _, _], rfl, ?_⟩; (conv => whnf)) | fail)
    exact ret_obj rfl (Sub.refl _) rfl rfl (fun F => rfl) (fun F => rfl)
end Go.Proofs.Ytjieenfbfckafaa.Am
namespace Go.Proofs.Ytjieenfbfckafaa.Am
open Go
set_option linter.unusedVariables false
set_option linter.unusedSimpArgs false
set_option maxRecDepth 100000
set_option maxHeartbeats 1000000
theorem next_u' {k u : Nat} {c : UInt8} (hk : k ≤ 9) (h9 : k = 9 → c.toNat ≤ 1) (hu : u < 2 ^ (7 * k)) :
    bits .or .u64 (u : Int) (IntKind.u64.wrap (IntKind.u64.wrap (Int.tmod (c.toNat : Int) 128) * 2 ^ min (Int.toNat (7 * (k : Int))) IntKind.u64.bits)) = ((u + c.toNat % 128 * 2 ^ (7 * k) : Nat) : Int) := by
  have hc : c.toNat < 256 := c.toNat_lt
  obtain ⟨h1, h2, _⟩ := next_bound hk h9 hu
  have e1 : min (Int.toNat (7 * (k : Int))) IntKind.u64.bits = 7 * k := by
    show min _ 64 = _
    omega
  rw [Int.tmod_eq_emod_of_nonneg (by omega), e1, wrap_u64_of (n := (c.toNat : Int) % 128) (by omega) (by omega)]
  have e2 : ((c.toNat : Int) % 128) * 2 ^ (7 * k) = ((c.toNat % 128 * 2 ^ (7 * k) : Nat) : Int) := by
    rw [Int.natCast_mul, Int.natCast_pow]; rfl
  have h1' : ((c.toNat % 128 * 2 ^ (7 * k) : Nat) : Int) < 18446744073709551616 := by
    have h := Int.ofNat_lt.2 h1
    rwa [show ((2 ^ 64 : Nat) : Int) = 18446744073709551616 from rfl] at h
  rw [e2, wrap_u64_of (Int.natCast_nonneg _) h1']
  exact or_above (by omega) hu h1
theorem unzz_neg' {u : Nat} (hu : u < 2 ^ 64) (h : u % 2 = 1) : IntKind.i64.wrap (bits .xor .u64 (if IntKind.u64.signed = true then -1 else IntKind.u64.max) (Int.fdiv (u : Int) (2 ^ min (Int.toNat 1) IntKind.u64.bits))) = unzz u := by
  rw [show (if IntKind.u64.signed = true then -1 else IntKind.u64.max) = (18446744073709551615 : Int) by decide, show (2 : Int) ^ min (Int.toNat 1) IntKind.u64.bits = 2 by decide, Int.fdiv_eq_ediv_of_nonneg _ (by decide), xor_u64 (by omega) (by omega), IntKind.wrap_i64]
  unfold unzz; rw [if_pos h]; omega
/-- erasureref26.Reader.Int -/
theorem rInt_meets (s : Sr) (hs : s.ok) : Meets Try.prog F_erasureref26Reader_Int ⟨[.c (.ptr 0 0)], [(0, rob s)], 1, vi s.int.1, [(0, rob s.int.2)], 1⟩ := by
  have hs : s.b.length ≤ 4611686018427387904 := hs
  by_cases he : s.e = 0
  · refine fits_erasureref26Reader_Int.meets rfl (by simp) fun Q hQ => ?_
    (conv => whnf); repeat' (first | (refine And.intro ?_ ?_; (focus (exact zq3)); (conv => whnf)) | (refine onB_intro (fun hb => ?_) (fun hb => ?_) <;> (try simp only [decide_eq_true_eq, decide_eq_false_iff_not, Bool.not_eq_true', Bool.not_eq_false', Bool.and_eq_true, Bool.and_eq_false_iff, Int.not_le, Int.not_lt, bsz, ByteArray.toList_eq, beq_iff_eq, beq_eq_false_iff_ne, ne_eq] at hb) <;> (try (exfalso; omega)) <;> (try (exfalso; first | contradiction | (simp [ByteArray.toList_eq] at hb; done))) <;> (conv => whnf)) | (refine (hQ _ _ _ ?_).1; (conv => whnf)) | (refine ⟨_, rfl, ?_⟩; (conv => whnf)) | (refine ⟨_, mp_cut _ _ _, ?_⟩; (conv => whnf)) | (refine ⟨_, dbs_cut _ _ _, ?_⟩; (conv => whnf)) | (refine ⟨[_], rfl, ?_⟩; (conv => whnf)) | (refine ⟨[_, _], rfl, ?_⟩; (conv => whnf)) | (refine ⟨[_, _, _], rfl, ?_⟩; (conv => whnf)) | (refine ⟨[_, _, _, _], rfl, ?_⟩; (conv => whnf)) | fail)
    refine loop_fam (ι := Nat × Nat) (fun i => ⟨[(0, .c (.ptr 0 0)), (3, .c (.p (.v (.int .u64 i.2)))), (4, vi i.1)], [(0, rob s)], 1⟩) (fun i => 10 - i.1) (fun i => i.1 ≤ 9 ∧ i.1 ≤ s.b.length ∧ i.2 < 2 ^ (7 * i.1) ∧ decU i.1 i.2 (s.b.drop i.1) = decU 0 0 s.b) (0, 0)
      (wkn [] rfl rfl ⟨Sub.refl _, Sub.refl _, Sub.refl _, trivial⟩ ⟨rfl, trivial⟩) ⟨by omega, by omega, by decide, rfl⟩ ?_
    rintro ⟨k, u⟩ ⟨hk, hkl, hu, hdec⟩ K hK
    simp only at hk hkl hu hdec
    cases hd : s.b.drop k with
    | nil =>
      have hle : s.b.length ≤ k := List.drop_eq_nil_iff.1 hd
      rw [hd] at hdec
      have hint := Sr.int_err he hdec.symm
      have hfe : (s.fail 100).e = 100 := by simp [Sr.fail, he]
      (conv => whnf); repeat' (first | (refine And.intro ?_ ?_; (focus (exact zq3)); (conv => whnf)) | (refine onB_intro (fun hb => ?_) (fun hb => ?_) <;> (try simp only [decide_eq_true_eq, decide_eq_false_iff_not, Bool.not_eq_true', Bool.not_eq_false', Bool.and_eq_true, Bool.and_eq_false_iff, Int.not_le, Int.not_lt, bsz, ByteArray.toList_eq, beq_iff_eq, beq_eq_false_iff_ne, ne_eq] at hb) <;> (try (exfalso; omega)) <;> (try (exfalso; first | contradiction | (simp [ByteArray.toList_eq] at hb; done))) <;> (conv => whnf)) | (refine (hQ _ _ _ ?_).1; (conv => whnf)) | (refine ⟨_, rfl, ?_⟩; (conv => whnf)) | (refine ⟨_, mp_cut _ _ _, ?_⟩; (conv => whnf)) | (refine ⟨_, dbs_cut _ _ _, ?_⟩; (conv => whnf)) | (refine ⟨[_], rfl, ?_⟩; (conv => whnf)) | (refine ⟨[_, _], rfl, ?_⟩; (conv => whnf)) | (refine ⟨[_, _, _], rfl, ?_⟩; (conv => whnf)) | (refine ⟨[_, _, _, _], rfl, ?_⟩; (conv => whnf)) | (apply call_obj (rfail_meets' s 100) (fun F => by first | exact rfl | exact bob_ren F _ | exact ob_ren F _ _) (fun F => by first | exact rfl | exact bob_ren F _ | exact ob_ren F _ _); (focus (exact zq0)); (focus (exact zq2)); (conv => whnf)) | fail)
      all_goals rw [hint]
      all_goals exact ret_obj rfl (Sub.refl _) rfl (by simp [Sr.fail, he, decU]) (fun F => rfl) (fun F => rfl)
    | cons c r =>
      have hc : s.b[k]? = some c := by have := congrArg List.head? hd; rwa [List.head?_drop] at this
      have hlt : k < s.b.length := (List.getElem?_eq_some_iff.1 hc).1
      have hr : r = s.b.drop (k + 1) := by have := congrArg List.tail hd; rw [List.tail_drop] at this; exact this.symm
      have hcb : c.toNat < 256 := c.toNat_lt
      rw [hd] at hdec
      by_cases hbad : (k = 9 ∧ 1 < c.toNat) ∨ (0 < k ∧ c.toNat = 0)
      · rw [decU_bad hbad] at hdec
        have hint := Sr.int_err he hdec.symm
        have hfe : (s.fail 1).e = 1 := by simp [Sr.fail, he]
        (conv => whnf); repeat' (first | (refine And.intro ?_ ?_; (focus (exact zq3)); (conv => whnf)) | (refine onB_intro (fun hb => ?_) (fun hb => ?_) <;> (try simp only [decide_eq_true_eq, decide_eq_false_iff_not, Bool.not_eq_true', Bool.not_eq_false', Bool.and_eq_true, Bool.and_eq_false_iff, Int.not_le, Int.not_lt, bsz, ByteArray.toList_eq, beq_iff_eq, beq_eq_false_iff_ne, ne_eq] at hb) <;> (try (exfalso; omega)) <;> (try (exfalso; first | contradiction | (simp [ByteArray.toList_eq] at hb; done))) <;> (conv => whnf)) | (refine (hQ _ _ _ ?_).1; (conv => whnf)) | (refine ⟨_, rfl, ?_⟩; (conv => whnf)) | (refine ⟨_, mp_cut _ _ _, ?_⟩; (conv => whnf)) | (refine ⟨_, dbs_cut _ _ _, ?_⟩; (conv => whnf)) | (refine ⟨[_], rfl, ?_⟩; (conv => whnf)) | (refine ⟨[_, _], rfl, ?_⟩; (conv => whnf)) | (refine ⟨[_, _, _], rfl, ?_⟩; (conv => whnf)) | (refine ⟨[_, _, _, _], rfl, ?_⟩; (conv => whnf)) | (apply call_obj (rfail_meets' s 1) (fun F => by first | exact rfl | exact bob_ren F _ | exact ob_ren F _ _) (fun F => by first | exact rfl | exact bob_ren F _ | exact ob_ren F _ _); (focus (exact zq0)); (focus (exact zq2)); (conv => whnf)) | (simp only [elem_pb hc]; (conv => whnf)) | fail)
        all_goals rw [hint]
        all_goals exact ret_obj rfl (Sub.refl _) rfl (by simp [Sr.fail, he]) (fun F => rfl) (fun F => rfl)
      · have h9 : k = 9 → c.toNat ≤ 1 := by omega
        obtain ⟨n1, n2, n3⟩ := next_bound hk h9 hu
        have hU : ((u + c.toNat % 128 * 2 ^ (7 * k) : Nat) : Int) < 18446744073709551616 := by
          have h := Int.ofNat_lt.2 n2
          rwa [show ((2 ^ 64 : Nat) : Int) = 18446744073709551616 from rfl] at h
        by_cases hlast : c.toNat < 128
        · rw [decU_last hbad hlast] at hdec
          have hint := Sr.int_ok he hdec.symm
          have n2' : id (u + c.toNat % 128 * 2 ^ (7 * k) < 2 ^ 64) := n2
          clear n1 n2 n3 hU hdec
          (conv => whnf); repeat' (first | (simp only [next_u' hk h9 hu]; (conv => whnf)) | (refine And.intro ?_ ?_; (focus (exact zq3)); (conv => whnf)) | (refine onB_intro (fun hb => ?_) (fun hb => ?_) <;> (try simp only [decide_eq_true_eq, decide_eq_false_iff_not, Bool.not_eq_true', Bool.not_eq_false', Bool.and_eq_true, Bool.and_eq_false_iff, Int.not_le, Int.not_lt, bsz, ByteArray.toList_eq, beq_iff_eq, beq_eq_false_iff_ne, ne_eq] at hb) <;> (try (exfalso; omega)) <;> (try (exfalso; first | contradiction | (simp [ByteArray.toList_eq] at hb; done))) <;> (conv => whnf)) | (refine (hQ _ _ _ ?_).1; (conv => whnf)) | (refine ⟨_, rfl, ?_⟩; (conv => whnf)) | (refine ⟨_, mp_cut _ _ _, ?_⟩; (conv => whnf)) | (refine ⟨_, dbs_cut _ _ _, ?_⟩; (conv => whnf)) | (refine ⟨[_], rfl, ?_⟩; (conv => whnf)) | (refine ⟨[_, _], rfl, ?_⟩; (conv => whnf)) | (refine ⟨[_, _, _], rfl, ?_⟩; (conv => whnf)) | (refine ⟨[_, _, _, _], rfl, ?_⟩; (conv => whnf)) | (simp only [elem_pb hc]; (conv => whnf)) | fail)
          all_goals
            rw [hint]
            clear hint hu
            generalize u + c.toNat % 128 * 2 ^ (7 * k) = U at hb n2' ⊢
            have n2 : U < 2 ^ 64 := n2'
            rw [Int.tmod_eq_emod_of_nonneg (Int.natCast_nonneg _)] at hb
            first
              | exact ret_obj rfl (sub_int (unzz_neg' n2 (by omega))) rfl (ob2_eq (dv_val (by rw [hr]; simp; omega) (by rw [hr]; exact pb_rest _ k _ _ (by omega) (by omega))) (by rw [he])) (fun F => rfl) (fun F => rfl)
              | exact ret_obj rfl (sub_int (unzz_pos n2 (by omega))) rfl (ob2_eq (dv_val (by rw [hr]; simp; omega) (by rw [hr]; exact pb_rest _ k _ _ (by omega) (by omega))) (by rw [he])) (fun F => rfl) (fun F => rfl)
        · rw [decU_step hbad hlast] at hdec
          have hk9 : k ≠ 9 := by omega
          have h3 : id (u + c.toNat % 128 * 2 ^ (7 * k) < 2 ^ (7 * (k + 1))) := n3 (by omega)
          clear n1 n2 n3 hU
          (conv => whnf); repeat' (first | (refine And.intro ?_ ?_; (focus (exact zq3)); (conv => whnf)) | (refine onB_intro (fun hb => ?_) (fun hb => ?_) <;> (try simp only [decide_eq_true_eq, decide_eq_false_iff_not, Bool.not_eq_true', Bool.not_eq_false', Bool.and_eq_true, Bool.and_eq_false_iff, Int.not_le, Int.not_lt, bsz, ByteArray.toList_eq, beq_iff_eq, beq_eq_false_iff_ne, ne_eq] at hb) <;> (try (exfalso; omega)) <;> (try (exfalso; first | contradiction | (simp [ByteArray.toList_eq] at hb; done))) <;> (conv => whnf)) | (refine (hQ _ _ _ ?_).1; (conv => whnf)) | (refine ⟨_, rfl, ?_⟩; (conv => whnf)) | (refine ⟨_, mp_cut _ _ _, ?_⟩; (conv => whnf)) | (refine ⟨_, dbs_cut _ _ _, ?_⟩; (conv => whnf)) | (refine ⟨[_], rfl, ?_⟩; (conv => whnf)) | (refine ⟨[_, _], rfl, ?_⟩; (conv => whnf)) | (refine ⟨[_, _, _], rfl, ?_⟩; (conv => whnf)) | (refine ⟨[_, _, _, _], rfl, ?_⟩; (conv => whnf)) | (simp only [elem_pb hc]; (conv => whnf)) | fail)
          all_goals refine hK _ _ _ (k + 1, u + c.toNat % 128 * 2 ^ (7 * k)) ⟨by dsimp only; omega, by dsimp only; omega, h3, by dsimp only; rw [← hr]; exact hdec⟩ (by dsimp only; omega) (wkn [] rfl rfl ⟨Sub.refl _, sub_int (next_u' hk h9 hu), sub_int (by dsimp only; omega), trivial⟩ ⟨rfl, trivial⟩)
  · have hint : s.int = (0, s) := by unfold Sr.int; rw [if_neg he]
    rw [hint]
    refine fits_erasureref26Reader_Int.meets rfl (by simp) fun Q hQ => ?_
    (conv => whnf); repeat' (first | (refine And.intro ?_ ?_; (focus (exact zq3)); (conv => whnf)) | (refine onB_intro (fun hb => ?_) (fun hb => ?_) <;> (try simp only [decide_eq_true_eq, decide_eq_false_iff_not, Bool.not_eq_true', Bool.not_eq_false', Bool.and_eq_true, Bool.and_eq_false_iff, Int.not_le, Int.not_lt, bsz, ByteArray.toList_eq, beq_iff_eq, beq_eq_false_iff_ne, ne_eq] at hb) <;> (try (exfalso; omega)) <;> (try (exfalso; first | contradiction | (simp [ByteArray.toList_eq] at hb; done))) <;> (conv => whnf)) | (refine (hQ _ _ _ ?_).1; (conv => whnf)) | (refine ⟨_, rfl, ?_⟩; (conv => whnf)) | (refine ⟨_, mp_cut _ _ _, ?_⟩; (conv => whnf)) | (refine ⟨_, dbs_cut _ _ _, ?_⟩; (conv => whnf)) | (refine ⟨[_], rfl, ?_⟩; (conv => whnf)) | (refine ⟨[_, _], rfl, ?_⟩; (conv => whnf)) | (refine ⟨[_, _, _], rfl, ?_⟩; (conv => whnf)) | (refine ⟨[_, _, _, _], rfl, ?_⟩; (conv => whnf)) | fail)
    refine loop_fam (ι := Unit) (fun i => ⟨[(0, .c (.ptr 0 0)), (3, .c (.p (.v (.int .u64 0)))), (4, vi 0)], [(0, rob s)], 1⟩) (fun i => 0) (fun i => True) ()
      (wkn [] rfl rfl ⟨Sub.refl _, Sub.refl _, Sub.refl _, trivial⟩ ⟨rfl, trivial⟩) trivial ?_
    intro i _ K hK
    (conv => whnf); repeat' (first | (refine And.intro ?_ ?_; (focus (exact zq3)); (conv => whnf)) | (refine onB_intro (fun hb => ?_) (fun hb => ?_) <;> (try simp only [decide_eq_true_eq, decide_eq_false_iff_not, Bool.not_eq_true', Bool.not_eq_false', Bool.and_eq_true, Bool.and_eq_false_iff, Int.not_le, Int.not_lt, bsz, ByteArray.toList_eq, beq_iff_eq, beq_eq_false_iff_ne, ne_eq] at hb) <;> (try (exfalso; omega)) <;> (try (exfalso; first | contradiction | (simp [ByteArray.toList_eq] at hb; done))) <;> (conv => whnf)) | (refine (hQ _ _ _ ?_).1; (conv => whnf)) | (refine ⟨_, rfl, ?_⟩; (conv => whnf)) | (refine ⟨_, mp_cut _ _ _, ?_⟩; (conv => whnf)) | (refine ⟨_, dbs_cut _ _ _, ?_⟩; (conv => whnf)) | (refine ⟨[_], rfl, ?_⟩; (conv => whnf)) | (refine ⟨[_, _], rfl, ?_⟩; (conv => whnf)) | (refine ⟨[_, _, _], rfl, ?_⟩; (conv => whnf)) | (refine ⟨[_, _, _, _], rfl, ?_⟩; (conv => whnf)) | fail)
    all_goals exact ret_obj rfl (Sub.refl _) rfl rfl (fun F => rfl) (fun F => rfl)
end Go.Proofs.Ytjieenfbfckafaa.Am
namespace Go.Proofs.Ytjieenfbfckafaa.Am
open Go
set_option linter.unusedVariables false
set_option linter.unusedSimpArgs false
set_option maxRecDepth 100000
def r_erasurelaw26CodecReads_0 : ACode := .reg [
    ⟨some 4, none, .mov (.k (.bool false))⟩] none [0, 1]
def r_erasurelaw26CodecReads_1 : ACode := .reg [
    ⟨some 45, none, .mov (.t 0)⟩,
    ⟨some 46, none, .len (.t 45)⟩,
    ⟨some 47, none, .bin .gtr (.t 46) (.k (.int .i64 (200)))⟩] none [0, 1, 47]
def r_erasurelaw26CodecReads_2 : ACode := .reg [
    ⟨some 48, none, .call 18 []⟩,
    ⟨some 4, none, .mov (.t 48)⟩] none [4]
def r_erasurelaw26CodecReads_3 : ACode := .reg [
    ⟨some 49, none, .mov (.t 0)⟩,
    ⟨some 50, none, .build [.slice none 0 0, .int .i64 0] [(0, 1, (.t 49))]⟩,
    ⟨some 51, none, .box 33 (.t 50)⟩,
    ⟨some 5, none, .mov (.t 51)⟩] none [0, 1, 5]
def r_erasurelaw26CodecReads_4 : ACode := .reg [
    ⟨some 6, none, .mov (.k (.slice none 0 0))⟩] none [0, 1, 5, 6]
def r_erasurelaw26CodecReads_5 : ACode := .reg [
    ⟨some 7, none, .mov (.k (.int .i64 (0)))⟩] none [0, 1, 5, 6, 7]
def r_erasurelaw26CodecReads_6 : ACode := .reg [
    ⟨some 8, none, .mov (.k (.bool true))⟩] none [0, 1, 5, 6, 7, 8]
def r_erasurelaw26CodecReads_7 : ACode := .reg [
    ⟨some 52, none, .mov (.t 1)⟩,
    ⟨some 53, none, .bin .and (.t 52) (.k (.int .i64 (7)))⟩] none [0, 1, 5, 6, 7, 8, 53]
def r_erasurelaw26CodecReads_8 : ACode := .reg [
    ⟨some 55, none, .bin .eql (.t 53) (.k (.int .i64 (0)))⟩,
    ⟨some 54, none, .mov (.t 55)⟩] none [0, 1, 5, 6, 7, 8, 53, 54]
def r_erasurelaw26CodecReads_9 : ACode := .reg [
    ⟨some 57, none, .mov (.t 0)⟩,
    ⟨some 58, none, .call 41 [(.t 57)]⟩,
    ⟨some 56, none, .mov (.t 58)⟩,
    ⟨some 59, none, .ext 0 (.t 56)⟩,
    ⟨some 60, none, .ext 1 (.t 56)⟩,
    ⟨some 61, none, .ext 2 (.t 56)⟩,
    ⟨some 9, none, .alloc 67 [.int .i64 0, .int .i64 0, .string ⟨#[]⟩]⟩,
    ⟨none, none, .store 3 (.t 9) (.t 59)⟩,
    ⟨some 10, none, .mov (.t 60)⟩,
    ⟨some 11, none, .mov (.t 61)⟩] none [5, 9, 10, 11]
def r_erasurelaw26CodecReads_10 : ACode := .reg [
    ⟨some 62, none, .mov (.t 5)⟩,
    ⟨some 63, none, .call 78 [(.t 62)]⟩,
    ⟨some 12, none, .alloc 67 [.int .i64 0, .int .i64 0, .string ⟨#[]⟩]⟩,
    ⟨none, none, .store 3 (.t 12) (.t 63)⟩] none [5, 9, 10, 11, 12]
def r_erasurelaw26CodecReads_11 : ACode := .reg [
    ⟨some 64, none, .mov (.t 10)⟩,
    ⟨some 65, none, .mov (.t 11)⟩,
    ⟨some 66, none, .mov (.t 5)⟩,
    ⟨some 67, none, .nilck (.t 66)⟩,
    ⟨some 68, none, .fld 1 (.t 67)⟩,
    ⟨some 69, none, .load none (.t 68)⟩,
    ⟨some 70, none, .bin .neq (.t 69) (.k (.int .i64 (0)))⟩,
    ⟨some 71, none, .mov (.t 70)⟩,
    ⟨some 72, (some (71, true)), .load (some 3) (.t 9)⟩,
    ⟨some 73, (some (71, true)), .build [.int .i64 0, .int .i64 0, .string ⟨#[]⟩] []⟩,
    ⟨some 74, (some (71, true)), .eqa false [(2, .ti .i64), (1, .ts)] (.t 72) (.t 73)⟩,
    ⟨some 75, none, .pick (.t 71) (.t 74) (.k (.bool false))⟩,
    ⟨some 76, none, .mov (.t 75)⟩,
    ⟨some 77, (some (76, false)), .mov (.t 5)⟩,
    ⟨some 78, (some (76, false)), .nilck (.t 77)⟩,
    ⟨some 79, (some (76, false)), .fld 1 (.t 78)⟩,
    ⟨some 80, (some (76, false)), .load none (.t 79)⟩,
    ⟨some 81, (some (76, false)), .bin .eql (.t 80) (.k (.int .i64 (0)))⟩,
    ⟨some 82, (some (76, false)), .mov (.t 81)⟩,
    ⟨some 83, (some (82, true)), .load (some 3) (.t 9)⟩,
    ⟨some 84, (some (82, true)), .load (some 3) (.t 12)⟩,
    ⟨some 85, (some (82, true)), .eqa false [(2, .ti .i64), (1, .ts)] (.t 83) (.t 84)⟩,
    ⟨some 86, (some (76, false)), .pick (.t 82) (.t 85) (.k (.bool false))⟩,
    ⟨some 87, none, .pick (.t 76) (.k (.bool true)) (.t 86)⟩,
    ⟨some 6, none, .mov (.t 64)⟩,
    ⟨some 7, none, .mov (.t 65)⟩,
    ⟨some 8, none, .mov (.t 87)⟩] (some [0, 0, 0, 4, 12, 28, 60, 124, 252, 252, 1020, 2044, 4092, 8188, 16380, 32764, 65532, 131068, 262140, 524284, 524284, 2097148, 4194300, 8388604, 524285, 17301503, 67108863]) [5, 6, 7, 8]
def r_erasurelaw26CodecReads_12 : ACode := .reg [
    ⟨some 89, none, .bin .eql (.t 53) (.k (.int .i64 (1)))⟩,
    ⟨some 88, none, .mov (.t 89)⟩] none [0, 1, 5, 6, 7, 8, 53, 88]
def r_erasurelaw26CodecReads_13 : ACode := .reg [
    ⟨some 91, none, .mov (.t 0)⟩,
    ⟨some 92, none, .call 39 [(.t 91)]⟩,
    ⟨some 90, none, .mov (.t 92)⟩,
    ⟨some 93, none, .ext 0 (.t 90)⟩,
    ⟨some 94, none, .ext 1 (.t 90)⟩,
    ⟨some 95, none, .ext 2 (.t 90)⟩,
    ⟨some 13, none, .mov (.t 93)⟩,
    ⟨some 14, none, .mov (.t 94)⟩,
    ⟨some 15, none, .mov (.t 95)⟩] none [5, 13, 14, 15]
def r_erasurelaw26CodecReads_14 : ACode := .reg [
    ⟨some 96, none, .mov (.t 5)⟩,
    ⟨some 97, none, .call 79 [(.t 96)]⟩,
    ⟨some 16, none, .mov (.t 97)⟩] none [5, 13, 14, 15, 16]
def r_erasurelaw26CodecReads_15 : ACode := .reg [
    ⟨some 98, none, .mov (.t 14)⟩,
    ⟨some 99, none, .mov (.t 15)⟩,
    ⟨some 100, none, .mov (.t 5)⟩,
    ⟨some 101, none, .nilck (.t 100)⟩,
    ⟨some 102, none, .fld 1 (.t 101)⟩,
    ⟨some 103, none, .load none (.t 102)⟩,
    ⟨some 104, none, .bin .neq (.t 103) (.k (.int .i64 (0)))⟩,
    ⟨some 105, none, .mov (.t 104)⟩,
    ⟨some 106, (some (105, true)), .mov (.t 13)⟩,
    ⟨some 107, (some (105, true)), .len (.t 106)⟩,
    ⟨some 108, (some (105, true)), .bin .eql (.t 107) (.k (.int .i64 (0)))⟩,
    ⟨some 109, none, .pick (.t 105) (.t 108) (.k (.bool false))⟩,
    ⟨some 110, none, .mov (.t 109)⟩,
    ⟨some 111, (some (110, false)), .mov (.t 5)⟩,
    ⟨some 112, (some (110, false)), .nilck (.t 111)⟩,
    ⟨some 113, (some (110, false)), .fld 1 (.t 112)⟩,
    ⟨some 114, (some (110, false)), .load none (.t 113)⟩,
    ⟨some 115, (some (110, false)), .bin .eql (.t 114) (.k (.int .i64 (0)))⟩,
    ⟨some 116, (some (110, false)), .mov (.t 115)⟩,
    ⟨some 117, (some (116, true)), .mov (.t 13)⟩,
    ⟨some 118, (some (116, true)), .mov (.t 16)⟩,
    ⟨some 119, (some (116, true)), .call 45 [(.t 117), (.t 118)]⟩,
    ⟨some 120, (some (110, false)), .pick (.t 116) (.t 119) (.k (.bool false))⟩,
    ⟨some 121, none, .pick (.t 110) (.k (.bool true)) (.t 120)⟩,
    ⟨some 6, none, .mov (.t 98)⟩,
    ⟨some 7, none, .mov (.t 99)⟩,
    ⟨some 8, none, .mov (.t 121)⟩] none [5, 6, 7, 8]
def r_erasurelaw26CodecReads_16 : ACode := .reg [
    ⟨some 123, none, .bin .eql (.t 53) (.k (.int .i64 (2)))⟩,
    ⟨some 122, none, .mov (.t 123)⟩] none [0, 1, 5, 6, 7, 8, 53, 122]
def r_erasurelaw26CodecReads_17 : ACode := .reg [
    ⟨some 125, none, .mov (.t 0)⟩,
    ⟨some 126, none, .call 56 [(.t 125)]⟩,
    ⟨some 124, none, .mov (.t 126)⟩,
    ⟨some 127, none, .ext 0 (.t 124)⟩,
    ⟨some 128, none, .ext 1 (.t 124)⟩,
    ⟨some 129, none, .ext 2 (.t 124)⟩,
    ⟨some 17, none, .alloc 95 [.slice none 0 0, .slice none 0 0, .int .i64 0]⟩,
    ⟨none, none, .store 3 (.t 17) (.t 127)⟩,
    ⟨some 18, none, .mov (.t 128)⟩,
    ⟨some 19, none, .mov (.t 129)⟩] none [5, 17, 18, 19]
def r_erasurelaw26CodecReads_18 : ACode := .reg [
    ⟨some 130, none, .mov (.t 5)⟩,
    ⟨some 131, none, .call 80 [(.t 130)]⟩,
    ⟨some 20, none, .alloc 95 [.slice none 0 0, .slice none 0 0, .int .i64 0]⟩,
    ⟨none, none, .store 3 (.t 20) (.t 131)⟩] none [5, 17, 18, 19, 20]
def r_erasurelaw26CodecReads_19 : ACode := .reg [
    ⟨some 132, none, .mov (.t 18)⟩,
    ⟨some 133, none, .mov (.t 19)⟩,
    ⟨some 134, none, .mov (.t 5)⟩,
    ⟨some 135, none, .nilck (.t 134)⟩,
    ⟨some 136, none, .fld 1 (.t 135)⟩,
    ⟨some 137, none, .load none (.t 136)⟩,
    ⟨some 138, none, .bin .neq (.t 137) (.k (.int .i64 (0)))⟩,
    ⟨some 139, none, .mov (.t 138)⟩,
    ⟨some 140, (some (139, true)), .load (some 3) (.t 17)⟩,
    ⟨some 141, (some (139, true)), .build [.slice none 0 0, .slice none 0 0, .int .i64 0] []⟩,
    ⟨some 142, (some (139, true)), .call 58 [(.t 140), (.t 141)]⟩,
    ⟨some 143, none, .pick (.t 139) (.t 142) (.k (.bool false))⟩,
    ⟨some 144, none, .mov (.t 143)⟩,
    ⟨some 145, (some (144, false)), .mov (.t 5)⟩,
    ⟨some 146, (some (144, false)), .nilck (.t 145)⟩,
    ⟨some 147, (some (144, false)), .fld 1 (.t 146)⟩,
    ⟨some 148, (some (144, false)), .load none (.t 147)⟩,
    ⟨some 149, (some (144, false)), .bin .eql (.t 148) (.k (.int .i64 (0)))⟩,
    ⟨some 150, (some (144, false)), .mov (.t 149)⟩,
    ⟨some 151, (some (150, true)), .load (some 3) (.t 17)⟩,
    ⟨some 152, (some (150, true)), .load (some 3) (.t 20)⟩,
    ⟨some 153, (some (150, true)), .call 58 [(.t 151), (.t 152)]⟩,
    ⟨some 154, (some (144, false)), .pick (.t 150) (.t 153) (.k (.bool false))⟩,
    ⟨some 155, none, .pick (.t 144) (.k (.bool true)) (.t 154)⟩,
    ⟨some 6, none, .mov (.t 132)⟩,
    ⟨some 7, none, .mov (.t 133)⟩,
    ⟨some 8, none, .mov (.t 155)⟩] none [5, 6, 7, 8]
def r_erasurelaw26CodecReads_20 : ACode := .reg [
    ⟨some 157, none, .bin .eql (.t 53) (.k (.int .i64 (3)))⟩,
    ⟨some 156, none, .mov (.t 157)⟩] none [0, 1, 5, 6, 7, 8, 53, 156]
def r_erasurelaw26CodecReads_21 : ACode := .reg [
    ⟨some 159, none, .mov (.t 0)⟩,
    ⟨some 160, none, .call 48 [(.t 159)]⟩,
    ⟨some 158, none, .mov (.t 160)⟩,
    ⟨some 161, none, .ext 0 (.t 158)⟩,
    ⟨some 162, none, .ext 1 (.t 158)⟩,
    ⟨some 163, none, .ext 2 (.t 158)⟩,
    ⟨some 21, none, .mov (.t 161)⟩,
    ⟨some 22, none, .mov (.t 162)⟩,
    ⟨some 23, none, .mov (.t 163)⟩] none [5, 21, 22, 23]
def r_erasurelaw26CodecReads_22 : ACode := .reg [
    ⟨some 164, none, .mov (.t 5)⟩,
    ⟨some 165, none, .call 81 [(.t 164)]⟩,
    ⟨some 24, none, .mov (.t 165)⟩] none [5, 21, 22, 23, 24]
def r_erasurelaw26CodecReads_23 : ACode := .reg [
    ⟨some 166, none, .mov (.t 22)⟩,
    ⟨some 167, none, .mov (.t 23)⟩,
    ⟨some 168, none, .mov (.t 5)⟩,
    ⟨some 169, none, .nilck (.t 168)⟩,
    ⟨some 170, none, .fld 1 (.t 169)⟩,
    ⟨some 171, none, .load none (.t 170)⟩,
    ⟨some 172, none, .bin .neq (.t 171) (.k (.int .i64 (0)))⟩,
    ⟨some 173, none, .mov (.t 172)⟩,
    ⟨some 174, (some (173, true)), .mov (.t 21)⟩,
    ⟨some 175, (some (173, true)), .len (.t 174)⟩,
    ⟨some 176, (some (173, true)), .bin .eql (.t 175) (.k (.int .i64 (0)))⟩,
    ⟨some 177, none, .pick (.t 173) (.t 176) (.k (.bool false))⟩,
    ⟨some 178, none, .mov (.t 177)⟩,
    ⟨some 179, (some (178, false)), .mov (.t 5)⟩,
    ⟨some 180, (some (178, false)), .nilck (.t 179)⟩,
    ⟨some 181, (some (178, false)), .fld 1 (.t 180)⟩,
    ⟨some 182, (some (178, false)), .load none (.t 181)⟩,
    ⟨some 183, (some (178, false)), .bin .eql (.t 182) (.k (.int .i64 (0)))⟩,
    ⟨some 184, (some (178, false)), .mov (.t 183)⟩,
    ⟨some 185, (some (184, true)), .mov (.t 21)⟩,
    ⟨some 186, (some (184, true)), .mov (.t 24)⟩,
    ⟨some 187, (some (184, true)), .call 50 [(.t 185), (.t 186)]⟩,
    ⟨some 188, (some (178, false)), .pick (.t 184) (.t 187) (.k (.bool false))⟩,
    ⟨some 189, none, .pick (.t 178) (.k (.bool true)) (.t 188)⟩,
    ⟨some 6, none, .mov (.t 166)⟩,
    ⟨some 7, none, .mov (.t 167)⟩,
    ⟨some 8, none, .mov (.t 189)⟩] none [5, 6, 7, 8]
def r_erasurelaw26CodecReads_24 : ACode := .reg [
    ⟨some 191, none, .bin .eql (.t 53) (.k (.int .i64 (4)))⟩,
    ⟨some 190, none, .mov (.t 191)⟩] none [0, 1, 5, 6, 7, 8, 53, 190]
def r_erasurelaw26CodecReads_25 : ACode := .reg [
    ⟨some 193, none, .mov (.t 0)⟩,
    ⟨some 194, none, .call 52 [(.t 193)]⟩,
    ⟨some 192, none, .mov (.t 194)⟩,
    ⟨some 195, none, .ext 0 (.t 192)⟩,
    ⟨some 196, none, .ext 1 (.t 192)⟩,
    ⟨some 197, none, .ext 2 (.t 192)⟩,
    ⟨some 25, none, .alloc 86 [.int .i64 0, .int .i64 0, .int .i64 0, .int .i64 0, .slice none 0 0, .int .i64 0, .int .i64 0, .string ⟨#[]⟩, .int .i64 0, .int .i64 0, .int .i64 0, .string ⟨#[]⟩]⟩,
    ⟨none, none, .store 12 (.t 25) (.t 195)⟩,
    ⟨some 26, none, .mov (.t 196)⟩,
    ⟨some 27, none, .mov (.t 197)⟩] none [5, 25, 26, 27]
def r_erasurelaw26CodecReads_26 : ACode := .reg [
    ⟨some 198, none, .mov (.t 5)⟩,
    ⟨some 199, none, .call 82 [(.t 198)]⟩,
    ⟨some 28, none, .alloc 86 [.int .i64 0, .int .i64 0, .int .i64 0, .int .i64 0, .slice none 0 0, .int .i64 0, .int .i64 0, .string ⟨#[]⟩, .int .i64 0, .int .i64 0, .int .i64 0, .string ⟨#[]⟩]⟩,
    ⟨none, none, .store 12 (.t 28) (.t 199)⟩] none [5, 25, 26, 27, 28]
def r_erasurelaw26CodecReads_27 : ACode := .reg [
    ⟨some 200, none, .mov (.t 26)⟩,
    ⟨some 201, none, .mov (.t 27)⟩,
    ⟨some 202, none, .mov (.t 5)⟩,
    ⟨some 203, none, .nilck (.t 202)⟩,
    ⟨some 204, none, .fld 1 (.t 203)⟩,
    ⟨some 205, none, .load none (.t 204)⟩,
    ⟨some 206, none, .bin .neq (.t 205) (.k (.int .i64 (0)))⟩,
    ⟨some 207, none, .mov (.t 206)⟩,
    ⟨some 208, (some (207, true)), .load (some 12) (.t 25)⟩,
    ⟨some 209, (some (207, true)), .build [.int .i64 0, .int .i64 0, .int .i64 0, .int .i64 0, .slice none 0 0, .int .i64 0, .int .i64 0, .string ⟨#[]⟩, .int .i64 0, .int .i64 0, .int .i64 0, .string ⟨#[]⟩] []⟩,
    ⟨some 210, (some (207, true)), .call 54 [(.t 208), (.t 209)]⟩,
    ⟨some 211, none, .pick (.t 207) (.t 210) (.k (.bool false))⟩,
    ⟨some 212, none, .mov (.t 211)⟩,
    ⟨some 213, (some (212, false)), .mov (.t 5)⟩,
    ⟨some 214, (some (212, false)), .nilck (.t 213)⟩,
    ⟨some 215, (some (212, false)), .fld 1 (.t 214)⟩,
    ⟨some 216, (some (212, false)), .load none (.t 215)⟩,
    ⟨some 217, (some (212, false)), .bin .eql (.t 216) (.k (.int .i64 (0)))⟩,
    ⟨some 218, (some (212, false)), .mov (.t 217)⟩,
    ⟨some 219, (some (218, true)), .load (some 12) (.t 25)⟩,
    ⟨some 220, (some (218, true)), .load (some 12) (.t 28)⟩,
    ⟨some 221, (some (218, true)), .call 54 [(.t 219), (.t 220)]⟩,
    ⟨some 222, (some (212, false)), .pick (.t 218) (.t 221) (.k (.bool false))⟩,
    ⟨some 223, none, .pick (.t 212) (.k (.bool true)) (.t 222)⟩,
    ⟨some 6, none, .mov (.t 200)⟩,
    ⟨some 7, none, .mov (.t 201)⟩,
    ⟨some 8, none, .mov (.t 223)⟩] none [5, 6, 7, 8]
def r_erasurelaw26CodecReads_28 : ACode := .reg [
    ⟨some 225, none, .bin .eql (.t 53) (.k (.int .i64 (5)))⟩,
    ⟨some 224, none, .mov (.t 225)⟩] none [0, 1, 5, 6, 7, 8, 53, 224]
def r_erasurelaw26CodecReads_29 : ACode := .reg [
    ⟨some 226, none, .mov (.t 1)⟩,
    ⟨some 227, none, .bin .and (.t 226) (.k (.int .i64 (8)))⟩,
    ⟨some 228, none, .bin .eql (.t 227) (.k (.int .i64 (0)))⟩] none [0, 5, 228]
def r_erasurelaw26CodecReads_30 : ACode := .reg [
    ⟨some 230, none, .mov (.t 0)⟩,
    ⟨some 231, none, .call 30 [(.t 230)]⟩,
    ⟨some 229, none, .mov (.t 231)⟩,
    ⟨some 232, none, .ext 0 (.t 229)⟩,
    ⟨some 233, none, .ext 1 (.t 229)⟩,
    ⟨some 234, none, .ext 2 (.t 229)⟩,
    ⟨some 29, none, .mov (.t 232)⟩,
    ⟨some 30, none, .mov (.t 233)⟩,
    ⟨some 31, none, .mov (.t 234)⟩] none [5, 29, 30, 31]
def r_erasurelaw26CodecReads_31 : ACode := .reg [
    ⟨some 235, none, .mov (.t 5)⟩,
    ⟨some 236, none, .call 83 [(.t 235)]⟩,
    ⟨some 32, none, .mov (.t 236)⟩] none [5, 29, 30, 31, 32]
def r_erasurelaw26CodecReads_32 : ACode := .reg [
    ⟨some 237, none, .mov (.t 30)⟩,
    ⟨some 238, none, .mov (.t 31)⟩,
    ⟨some 239, none, .mov (.t 5)⟩,
    ⟨some 240, none, .nilck (.t 239)⟩,
    ⟨some 241, none, .fld 1 (.t 240)⟩,
    ⟨some 242, none, .load none (.t 241)⟩,
    ⟨some 243, none, .bin .neq (.t 242) (.k (.int .i64 (0)))⟩,
    ⟨some 244, none, .mov (.t 243)⟩,
    ⟨some 245, (some (244, true)), .mov (.t 29)⟩,
    ⟨some 246, (some (244, true)), .len (.t 245)⟩,
    ⟨some 247, (some (244, true)), .bin .eql (.t 246) (.k (.int .i64 (0)))⟩,
    ⟨some 248, none, .pick (.t 244) (.t 247) (.k (.bool false))⟩,
    ⟨some 249, none, .mov (.t 248)⟩,
    ⟨some 250, (some (249, false)), .mov (.t 5)⟩,
    ⟨some 251, (some (249, false)), .nilck (.t 250)⟩,
    ⟨some 252, (some (249, false)), .fld 1 (.t 251)⟩,
    ⟨some 253, (some (249, false)), .load none (.t 252)⟩,
    ⟨some 254, (some (249, false)), .bin .eql (.t 253) (.k (.int .i64 (0)))⟩,
    ⟨some 255, (some (249, false)), .mov (.t 254)⟩,
    ⟨some 256, (some (255, true)), .mov (.t 29)⟩,
    ⟨some 257, (some (255, true)), .mov (.t 32)⟩,
    ⟨some 258, (some (255, true)), .call 35 [(.t 256), (.t 257)]⟩,
    ⟨some 259, (some (249, false)), .pick (.t 255) (.t 258) (.k (.bool false))⟩,
    ⟨some 260, none, .pick (.t 249) (.k (.bool true)) (.t 259)⟩,
    ⟨some 6, none, .mov (.t 237)⟩,
    ⟨some 7, none, .mov (.t 238)⟩,
    ⟨some 8, none, .mov (.t 260)⟩] none [5, 6, 7, 8]
def r_erasurelaw26CodecReads_33 : ACode := .reg [
    ⟨some 262, none, .mov (.t 0)⟩,
    ⟨some 263, none, .call 32 [(.t 262)]⟩,
    ⟨some 261, none, .mov (.t 263)⟩,
    ⟨some 264, none, .ext 0 (.t 261)⟩,
    ⟨some 265, none, .ext 1 (.t 261)⟩,
    ⟨some 266, none, .ext 2 (.t 261)⟩,
    ⟨some 33, none, .mov (.t 264)⟩,
    ⟨some 34, none, .mov (.t 265)⟩,
    ⟨some 35, none, .mov (.t 266)⟩] none [5, 33, 34, 35]
def r_erasurelaw26CodecReads_34 : ACode := .reg [
    ⟨some 267, none, .mov (.t 5)⟩,
    ⟨some 268, none, .call 84 [(.t 267)]⟩,
    ⟨some 36, none, .mov (.t 268)⟩] none [5, 33, 34, 35, 36]
def r_erasurelaw26CodecReads_35 : ACode := .reg [
    ⟨some 269, none, .mov (.t 34)⟩,
    ⟨some 270, none, .mov (.t 35)⟩,
    ⟨some 271, none, .mov (.t 5)⟩,
    ⟨some 272, none, .nilck (.t 271)⟩,
    ⟨some 273, none, .fld 1 (.t 272)⟩,
    ⟨some 274, none, .load none (.t 273)⟩,
    ⟨some 275, none, .bin .neq (.t 274) (.k (.int .i64 (0)))⟩,
    ⟨some 276, none, .mov (.t 275)⟩,
    ⟨some 277, (some (276, true)), .mov (.t 33)⟩,
    ⟨some 278, (some (276, true)), .len (.t 277)⟩,
    ⟨some 279, (some (276, true)), .bin .eql (.t 278) (.k (.int .i64 (0)))⟩,
    ⟨some 280, none, .pick (.t 276) (.t 279) (.k (.bool false))⟩,
    ⟨some 281, none, .mov (.t 280)⟩,
    ⟨some 282, (some (281, false)), .mov (.t 5)⟩,
    ⟨some 283, (some (281, false)), .nilck (.t 282)⟩,
    ⟨some 284, (some (281, false)), .fld 1 (.t 283)⟩,
    ⟨some 285, (some (281, false)), .load none (.t 284)⟩,
    ⟨some 286, (some (281, false)), .bin .eql (.t 285) (.k (.int .i64 (0)))⟩,
    ⟨some 287, (some (281, false)), .mov (.t 286)⟩,
    ⟨some 288, (some (287, true)), .mov (.t 33)⟩,
    ⟨some 289, (some (287, true)), .mov (.t 36)⟩,
    ⟨some 290, (some (287, true)), .call 36 [(.t 288), (.t 289)]⟩,
    ⟨some 291, (some (281, false)), .pick (.t 287) (.t 290) (.k (.bool false))⟩,
    ⟨some 292, none, .pick (.t 281) (.k (.bool true)) (.t 291)⟩,
    ⟨some 6, none, .mov (.t 269)⟩,
    ⟨some 7, none, .mov (.t 270)⟩,
    ⟨some 8, none, .mov (.t 292)⟩] none [5, 6, 7, 8]
def r_erasurelaw26CodecReads_36 : ACode := .reg [
    ⟨some 294, none, .bin .eql (.t 53) (.k (.int .i64 (6)))⟩,
    ⟨some 293, none, .mov (.t 294)⟩] none [0, 5, 6, 7, 8, 53, 293]
def r_erasurelaw26CodecReads_37 : ACode := .reg [
    ⟨some 296, none, .mov (.t 0)⟩,
    ⟨some 297, none, .call 61 [(.t 296)]⟩,
    ⟨some 295, none, .mov (.t 297)⟩,
    ⟨some 298, none, .ext 0 (.t 295)⟩,
    ⟨some 299, none, .ext 1 (.t 295)⟩,
    ⟨some 300, none, .ext 2 (.t 295)⟩,
    ⟨some 37, none, .alloc 111 [.int .i64 0, .int .i64 0, .int .i64 0, .int .i64 0, .int .i64 0, .string ⟨#[]⟩, .int .i64 0, .int .i64 0, .string ⟨#[]⟩, .int .i64 0, .int .i64 0, .int .i64 0, .string ⟨#[]⟩, .int .i64 0, .int .i64 0, .string ⟨#[]⟩, .string ⟨#[]⟩, .int .i64 0, .int .i64 0, .string ⟨#[]⟩, .int .i64 0, .bool false, .int .i64 0, .int .i64 0, .string ⟨#[]⟩, .int .i64 0, .int .i64 0, .string ⟨#[]⟩, .int .i64 0, .int .i64 0, .int .i64 0, .slice none 0 0, .slice none 0 0, .int .u8 0, .int .u8 0, .int .u8 0, .int .u8 0, .int .u8 0, .int .u8 0, .int .u8 0, .int .u8 0, .int .u8 0, .int .u8 0, .int .u8 0, .int .u8 0, .int .u8 0, .int .u8 0, .int .u8 0, .int .u8 0, .int .u8 0, .int .u8 0, .int .u8 0, .int .u8 0, .int .u8 0, .int .u8 0, .int .u8 0, .int .u8 0, .int .u8 0, .int .u8 0, .int .u8 0, .int .u8 0, .int .u8 0, .int .u8 0, .int .u8 0, .int .u8 0]⟩,
    ⟨none, none, .store 65 (.t 37) (.t 298)⟩,
    ⟨some 38, none, .mov (.t 299)⟩,
    ⟨some 39, none, .mov (.t 300)⟩] none [5, 37, 38, 39]
def r_erasurelaw26CodecReads_38 : ACode := .reg [
    ⟨some 301, none, .mov (.t 5)⟩,
    ⟨some 302, none, .call 85 [(.t 301)]⟩,
    ⟨some 40, none, .alloc 111 [.int .i64 0, .int .i64 0, .int .i64 0, .int .i64 0, .int .i64 0, .string ⟨#[]⟩, .int .i64 0, .int .i64 0, .string ⟨#[]⟩, .int .i64 0, .int .i64 0, .int .i64 0, .string ⟨#[]⟩, .int .i64 0, .int .i64 0, .string ⟨#[]⟩, .string ⟨#[]⟩, .int .i64 0, .int .i64 0, .string ⟨#[]⟩, .int .i64 0, .bool false, .int .i64 0, .int .i64 0, .string ⟨#[]⟩, .int .i64 0, .int .i64 0, .string ⟨#[]⟩, .int .i64 0, .int .i64 0, .int .i64 0, .slice none 0 0, .slice none 0 0, .int .u8 0, .int .u8 0, .int .u8 0, .int .u8 0, .int .u8 0, .int .u8 0, .int .u8 0, .int .u8 0, .int .u8 0, .int .u8 0, .int .u8 0, .int .u8 0, .int .u8 0, .int .u8 0, .int .u8 0, .int .u8 0, .int .u8 0, .int .u8 0, .int .u8 0, .int .u8 0, .int .u8 0, .int .u8 0, .int .u8 0, .int .u8 0, .int .u8 0, .int .u8 0, .int .u8 0, .int .u8 0, .int .u8 0, .int .u8 0, .int .u8 0, .int .u8 0]⟩,
    ⟨none, none, .store 65 (.t 40) (.t 302)⟩] none [5, 37, 38, 39, 40]
def r_erasurelaw26CodecReads_39 : ACode := .reg [
    ⟨some 303, none, .mov (.t 38)⟩,
    ⟨some 304, none, .mov (.t 39)⟩,
    ⟨some 305, none, .mov (.t 5)⟩,
    ⟨some 306, none, .nilck (.t 305)⟩,
    ⟨some 307, none, .fld 1 (.t 306)⟩,
    ⟨some 308, none, .load none (.t 307)⟩,
    ⟨some 309, none, .bin .neq (.t 308) (.k (.int .i64 (0)))⟩,
    ⟨some 310, none, .mov (.t 309)⟩,
    ⟨some 311, (some (310, true)), .load (some 65) (.t 37)⟩,
    ⟨some 312, (some (310, true)), .build [.int .i64 0, .int .i64 0, .int .i64 0, .int .i64 0, .int .i64 0, .string ⟨#[]⟩, .int .i64 0, .int .i64 0, .string ⟨#[]⟩, .int .i64 0, .int .i64 0, .int .i64 0, .string ⟨#[]⟩, .int .i64 0, .int .i64 0, .string ⟨#[]⟩, .string ⟨#[]⟩, .int .i64 0, .int .i64 0, .string ⟨#[]⟩, .int .i64 0, .bool false, .int .i64 0, .int .i64 0, .string ⟨#[]⟩, .int .i64 0, .int .i64 0, .string ⟨#[]⟩, .int .i64 0, .int .i64 0, .int .i64 0, .slice none 0 0, .slice none 0 0, .int .u8 0, .int .u8 0, .int .u8 0, .int .u8 0, .int .u8 0, .int .u8 0, .int .u8 0, .int .u8 0, .int .u8 0, .int .u8 0, .int .u8 0, .int .u8 0, .int .u8 0, .int .u8 0, .int .u8 0, .int .u8 0, .int .u8 0, .int .u8 0, .int .u8 0, .int .u8 0, .int .u8 0, .int .u8 0, .int .u8 0, .int .u8 0, .int .u8 0, .int .u8 0, .int .u8 0, .int .u8 0, .int .u8 0, .int .u8 0, .int .u8 0, .int .u8 0] []⟩,
    ⟨some 313, (some (310, true)), .call 62 [(.t 311), (.t 312)]⟩,
    ⟨some 314, none, .pick (.t 310) (.t 313) (.k (.bool false))⟩,
    ⟨some 315, none, .mov (.t 314)⟩,
    ⟨some 316, (some (315, false)), .mov (.t 5)⟩,
    ⟨some 317, (some (315, false)), .nilck (.t 316)⟩,
    ⟨some 318, (some (315, false)), .fld 1 (.t 317)⟩,
    ⟨some 319, (some (315, false)), .load none (.t 318)⟩,
    ⟨some 320, (some (315, false)), .bin .eql (.t 319) (.k (.int .i64 (0)))⟩,
    ⟨some 321, (some (315, false)), .mov (.t 320)⟩,
    ⟨some 322, (some (321, true)), .load (some 65) (.t 37)⟩,
    ⟨some 323, (some (321, true)), .load (some 65) (.t 40)⟩,
    ⟨some 324, (some (321, true)), .call 62 [(.t 322), (.t 323)]⟩,
    ⟨some 325, (some (315, false)), .pick (.t 321) (.t 324) (.k (.bool false))⟩,
    ⟨some 326, none, .pick (.t 315) (.k (.bool true)) (.t 325)⟩,
    ⟨some 6, none, .mov (.t 303)⟩,
    ⟨some 7, none, .mov (.t 304)⟩,
    ⟨some 8, none, .mov (.t 326)⟩] none [5, 6, 7, 8]
def r_erasurelaw26CodecReads_40 : ACode := .reg [
    ⟨some 328, none, .bin .eql (.t 53) (.k (.int .i64 (7)))⟩,
    ⟨some 327, none, .mov (.t 328)⟩] none [0, 5, 6, 7, 8, 327]
def r_erasurelaw26CodecReads_41 : ACode := .reg [
    ⟨some 330, none, .mov (.t 0)⟩,
    ⟨some 331, none, .call 72 [(.t 330)]⟩,
    ⟨some 329, none, .mov (.t 331)⟩,
    ⟨some 332, none, .ext 0 (.t 329)⟩,
    ⟨some 333, none, .ext 1 (.t 329)⟩,
    ⟨some 334, none, .ext 2 (.t 329)⟩,
    ⟨some 41, none, .alloc 109 [.int .i64 0, .int .i64 0, .string ⟨#[]⟩, .int .i64 0, .int .i64 0, .string ⟨#[]⟩, .int .i64 0, .int .i64 0, .int .i64 0]⟩,
    ⟨none, none, .store 9 (.t 41) (.t 332)⟩,
    ⟨some 42, none, .mov (.t 333)⟩,
    ⟨some 43, none, .mov (.t 334)⟩] none [5, 41, 42, 43]
def r_erasurelaw26CodecReads_42 : ACode := .reg [
    ⟨some 335, none, .mov (.t 5)⟩,
    ⟨some 336, none, .call 86 [(.t 335)]⟩,
    ⟨some 44, none, .alloc 109 [.int .i64 0, .int .i64 0, .string ⟨#[]⟩, .int .i64 0, .int .i64 0, .string ⟨#[]⟩, .int .i64 0, .int .i64 0, .int .i64 0]⟩,
    ⟨none, none, .store 9 (.t 44) (.t 336)⟩] none [5, 41, 42, 43, 44]
def r_erasurelaw26CodecReads_43 : ACode := .reg [
    ⟨some 337, none, .mov (.t 42)⟩,
    ⟨some 338, none, .mov (.t 43)⟩,
    ⟨some 339, none, .mov (.t 5)⟩,
    ⟨some 340, none, .nilck (.t 339)⟩,
    ⟨some 341, none, .fld 1 (.t 340)⟩,
    ⟨some 342, none, .load none (.t 341)⟩,
    ⟨some 343, none, .bin .neq (.t 342) (.k (.int .i64 (0)))⟩,
    ⟨some 344, none, .mov (.t 343)⟩,
    ⟨some 345, (some (344, true)), .load (some 9) (.t 41)⟩,
    ⟨some 346, (some (344, true)), .build [.int .i64 0, .int .i64 0, .string ⟨#[]⟩, .int .i64 0, .int .i64 0, .string ⟨#[]⟩, .int .i64 0, .int .i64 0, .int .i64 0] []⟩,
    ⟨some 347, (some (344, true)), .eqa false [(2, .ti .i64), (1, .ts), (2, .ti .i64), (1, .ts), (3, .ti .i64)] (.t 345) (.t 346)⟩,
    ⟨some 348, none, .pick (.t 344) (.t 347) (.k (.bool false))⟩,
    ⟨some 349, none, .mov (.t 348)⟩,
    ⟨some 350, (some (349, false)), .mov (.t 5)⟩,
    ⟨some 351, (some (349, false)), .nilck (.t 350)⟩,
    ⟨some 352, (some (349, false)), .fld 1 (.t 351)⟩,
    ⟨some 353, (some (349, false)), .load none (.t 352)⟩,
    ⟨some 354, (some (349, false)), .bin .eql (.t 353) (.k (.int .i64 (0)))⟩,
    ⟨some 355, (some (349, false)), .mov (.t 354)⟩,
    ⟨some 356, (some (355, true)), .load (some 9) (.t 41)⟩,
    ⟨some 357, (some (355, true)), .load (some 9) (.t 44)⟩,
    ⟨some 358, (some (355, true)), .eqa false [(2, .ti .i64), (1, .ts), (2, .ti .i64), (1, .ts), (3, .ti .i64)] (.t 356) (.t 357)⟩,
    ⟨some 359, (some (349, false)), .pick (.t 355) (.t 358) (.k (.bool false))⟩,
    ⟨some 360, none, .pick (.t 349) (.k (.bool true)) (.t 359)⟩,
    ⟨some 6, none, .mov (.t 337)⟩,
    ⟨some 7, none, .mov (.t 338)⟩,
    ⟨some 8, none, .mov (.t 360)⟩] (some [0, 0, 0, 4, 12, 28, 60, 124, 252, 252, 1020, 2044, 4092, 8188, 16380, 32764, 65532, 131068, 262140, 524284, 524284, 2097148, 4194300, 8388604, 524285, 17301503, 67108863]) [5, 6, 7, 8]
def r_erasurelaw26CodecReads_44 : ACode := .reg [
    ⟨some 361, none, .mov (.t 5)⟩,
    ⟨some 362, none, .nilck (.t 361)⟩,
    ⟨some 363, none, .fld 1 (.t 362)⟩,
    ⟨some 364, none, .load none (.t 363)⟩,
    ⟨some 365, none, .bin .neq (.t 364) (.k (.int .i64 (0)))⟩] none [5, 6, 7, 8, 365]
def r_erasurelaw26CodecReads_45 : ACode := .reg [
    ⟨some 366, none, .mov (.t 8)⟩,
    ⟨some 367, none, .mov (.t 366)⟩,
    ⟨some 368, (some (367, true)), .mov (.t 7)⟩,
    ⟨some 369, (some (367, true)), .mov (.t 5)⟩,
    ⟨some 370, (some (367, true)), .nilck (.t 369)⟩,
    ⟨some 371, (some (367, true)), .fld 1 (.t 370)⟩,
    ⟨some 372, (some (367, true)), .load none (.t 371)⟩,
    ⟨some 373, (some (367, true)), .bin .eql (.t 368) (.t 372)⟩,
    ⟨some 374, none, .pick (.t 367) (.t 373) (.k (.bool false))⟩,
    ⟨some 375, none, .mov (.t 374)⟩,
    ⟨some 376, (some (375, true)), .mov (.t 6)⟩,
    ⟨some 377, (some (375, true)), .len (.t 376)⟩,
    ⟨some 378, (some (375, true)), .bin .eql (.t 377) (.k (.int .i64 (0)))⟩,
    ⟨some 379, none, .pick (.t 375) (.t 378) (.k (.bool false))⟩,
    ⟨some 380, none, .mov (.t 379)⟩,
    ⟨some 381, (some (380, true)), .call 18 []⟩,
    ⟨some 382, none, .pick (.t 380) (.t 381) (.k (.bool false))⟩,
    ⟨some 4, none, .mov (.t 382)⟩] none [4]
def r_erasurelaw26CodecReads_46 : ACode := .reg [
    ⟨some 383, none, .mov (.t 8)⟩,
    ⟨some 384, none, .mov (.t 383)⟩,
    ⟨some 385, (some (384, true)), .mov (.t 7)⟩,
    ⟨some 386, (some (384, true)), .bin .eql (.t 385) (.k (.int .i64 (0)))⟩,
    ⟨some 387, none, .pick (.t 384) (.t 386) (.k (.bool false))⟩,
    ⟨some 388, none, .mov (.t 387)⟩,
    ⟨some 389, (some (388, true)), .mov (.t 6)⟩,
    ⟨some 390, (some (388, true)), .tostr (.t 389)⟩,
    ⟨some 391, (some (388, true)), .mov (.t 5)⟩,
    ⟨some 392, (some (388, true)), .nilck (.t 391)⟩,
    ⟨some 393, (some (388, true)), .fld 0 (.t 392)⟩,
    ⟨some 394, (some (388, true)), .load none (.t 393)⟩,
    ⟨some 395, (some (388, true)), .tostr (.t 394)⟩,
    ⟨some 396, (some (388, true)), .bin .eql (.t 390) (.t 395)⟩,
    ⟨some 397, none, .pick (.t 388) (.t 396) (.k (.bool false))⟩,
    ⟨some 398, none, .mov (.t 397)⟩,
    ⟨some 399, (some (398, true)), .call 18 []⟩,
    ⟨some 400, none, .pick (.t 398) (.t 399) (.k (.bool false))⟩,
    ⟨some 4, none, .mov (.t 400)⟩] (some [0, 1, 3, 7, 15, 31, 63, 127, 63, 319, 831, 1855, 3903, 8191, 16383, 32767, 65535, 131071, 262143]) [4]
def c_erasurelaw26CodecReads : ACode :=
  (.seq r_erasurelaw26CodecReads_0
  (.seq (.seq r_erasurelaw26CodecReads_1
    (.cond (.t 47)
     (.seq r_erasurelaw26CodecReads_2
      .ret)
     .skip))
   (.seq r_erasurelaw26CodecReads_3
    (.seq r_erasurelaw26CodecReads_4
     (.seq r_erasurelaw26CodecReads_5
      (.seq r_erasurelaw26CodecReads_6
       (.seq (.seq r_erasurelaw26CodecReads_7
         (.block 0 (.seq r_erasurelaw26CodecReads_8
           (.cond (.t 54)
            (.seq r_erasurelaw26CodecReads_9
             (.seq r_erasurelaw26CodecReads_10
              r_erasurelaw26CodecReads_11))
            (.seq r_erasurelaw26CodecReads_12
             (.cond (.t 88)
              (.seq r_erasurelaw26CodecReads_13
               (.seq r_erasurelaw26CodecReads_14
                r_erasurelaw26CodecReads_15))
              (.seq r_erasurelaw26CodecReads_16
               (.cond (.t 122)
                (.seq r_erasurelaw26CodecReads_17
                 (.seq r_erasurelaw26CodecReads_18
                  r_erasurelaw26CodecReads_19))
                (.seq r_erasurelaw26CodecReads_20
                 (.cond (.t 156)
                  (.seq r_erasurelaw26CodecReads_21
                   (.seq r_erasurelaw26CodecReads_22
                    r_erasurelaw26CodecReads_23))
                  (.seq r_erasurelaw26CodecReads_24
                   (.cond (.t 190)
                    (.seq r_erasurelaw26CodecReads_25
                     (.seq r_erasurelaw26CodecReads_26
                      r_erasurelaw26CodecReads_27))
                    (.seq r_erasurelaw26CodecReads_28
                     (.cond (.t 224)
                      (.seq r_erasurelaw26CodecReads_29
                       (.cond (.t 228)
                        (.seq r_erasurelaw26CodecReads_30
                         (.seq r_erasurelaw26CodecReads_31
                          r_erasurelaw26CodecReads_32))
                        (.seq r_erasurelaw26CodecReads_33
                         (.seq r_erasurelaw26CodecReads_34
                          r_erasurelaw26CodecReads_35))))
                      (.seq r_erasurelaw26CodecReads_36
                       (.cond (.t 293)
                        (.seq r_erasurelaw26CodecReads_37
                         (.seq r_erasurelaw26CodecReads_38
                          r_erasurelaw26CodecReads_39))
                        (.seq r_erasurelaw26CodecReads_40
                         (.cond (.t 327)
                          (.seq r_erasurelaw26CodecReads_41
                           (.seq r_erasurelaw26CodecReads_42
                            r_erasurelaw26CodecReads_43))
                          .skip))))))))))))))))))
        (.seq (.seq r_erasurelaw26CodecReads_44
          (.cond (.t 365)
           (.seq r_erasurelaw26CodecReads_45
            .ret)
           .skip))
         (.seq r_erasurelaw26CodecReads_46
          .ret)))))))))
theorem fits_erasurelaw26CodecReads : Fits Try.prog 17 401 c_erasurelaw26CodecReads [.t 4] := ⟨⟨Try.f17, _, _, Try.func17, rfl, rfl, rfl, by decide, by kernel_rfl, by kernel_rfl⟩, Try.checked.mixed⟩
def r_erasurelaw26awake_0 : ACode := .reg [
    ⟨some 0, none, .mov (.k (.bool false))⟩] none []
def r_erasurelaw26awake_1 : ACode := .reg [
    ⟨some 11, none, .lit 5 1 2 [.int .u8 0] [(0, (.k (.int .u8 (128)))), (1, (.k (.int .u8 (0))))] false⟩,
    ⟨some 12, none, .call 20 [(.t 11)]⟩,
    ⟨some 10, none, .mov (.t 12)⟩,
    ⟨some 13, none, .ext 0 (.t 10)⟩,
    ⟨some 14, none, .ext 1 (.t 10)⟩,
    ⟨some 15, none, .ext 2 (.t 10)⟩,
    ⟨some 1, none, .mov (.t 13)⟩,
    ⟨some 2, none, .mov (.t 14)⟩,
    ⟨some 3, none, .mov (.t 15)⟩] none [3]
def r_erasurelaw26awake_2 : ACode := .reg [
    ⟨some 17, none, .lit 5 1 1 [.int .u8 0] [(0, (.k (.int .u8 (128))))] false⟩,
    ⟨some 18, none, .call 20 [(.t 17)]⟩,
    ⟨some 16, none, .mov (.t 18)⟩,
    ⟨some 19, none, .ext 0 (.t 16)⟩,
    ⟨some 20, none, .ext 1 (.t 16)⟩,
    ⟨some 21, none, .ext 2 (.t 16)⟩,
    ⟨some 4, none, .mov (.t 19)⟩,
    ⟨some 5, none, .mov (.t 20)⟩,
    ⟨some 6, none, .mov (.t 21)⟩] none [3, 6]
def r_erasurelaw26awake_3 : ACode := .reg [
    ⟨some 23, none, .lit 5 1 3 [.int .u8 0] [(0, (.k (.int .u8 (128)))), (1, (.k (.int .u8 (1)))), (2, (.k (.int .u8 (7))))] false⟩,
    ⟨some 24, none, .call 20 [(.t 23)]⟩,
    ⟨some 22, none, .mov (.t 24)⟩,
    ⟨some 25, none, .ext 0 (.t 22)⟩,
    ⟨some 26, none, .ext 1 (.t 22)⟩,
    ⟨some 27, none, .ext 2 (.t 22)⟩,
    ⟨some 7, none, .mov (.t 25)⟩,
    ⟨some 8, none, .mov (.t 26)⟩,
    ⟨some 9, none, .mov (.t 27)⟩] none [3, 6, 7, 8, 9]
def r_erasurelaw26awake_4 : ACode := .reg [
    ⟨some 28, none, .call 19 [(.k (.slice none 0 0)), (.k (.int .i64 (-1)))]⟩,
    ⟨some 29, none, .tostr (.t 28)⟩,
    ⟨some 30, none, .bin .eql (.t 29) (.k (.string { data := #[1] }))⟩,
    ⟨some 31, none, .mov (.t 30)⟩,
    ⟨some 32, (some (31, true)), .mov (.t 3)⟩,
    ⟨some 33, (some (31, true)), .bin .eql (.t 32) (.k (.int .i64 (1)))⟩,
    ⟨some 34, none, .pick (.t 31) (.t 33) (.k (.bool false))⟩,
    ⟨some 35, none, .mov (.t 34)⟩,
    ⟨some 36, (some (35, true)), .mov (.t 6)⟩,
    ⟨some 37, (some (35, true)), .bin .eql (.t 36) (.k (.int .i64 (100)))⟩,
    ⟨some 38, none, .pick (.t 35) (.t 37) (.k (.bool false))⟩,
    ⟨some 39, none, .mov (.t 38)⟩,
    ⟨some 40, (some (39, true)), .mov (.t 9)⟩,
    ⟨some 41, (some (39, true)), .bin .eql (.t 40) (.k (.int .i64 (0)))⟩,
    ⟨some 42, none, .pick (.t 39) (.t 41) (.k (.bool false))⟩,
    ⟨some 43, none, .mov (.t 42)⟩,
    ⟨some 44, (some (43, true)), .mov (.t 7)⟩,
    ⟨some 45, (some (43, true)), .bin .eql (.t 44) (.k (.int .i64 (64)))⟩,
    ⟨some 46, none, .pick (.t 43) (.t 45) (.k (.bool false))⟩,
    ⟨some 47, none, .mov (.t 46)⟩,
    ⟨some 48, (some (47, true)), .mov (.t 8)⟩,
    ⟨some 49, (some (47, true)), .len (.t 48)⟩,
    ⟨some 50, (some (47, true)), .bin .eql (.t 49) (.k (.int .i64 (1)))⟩,
    ⟨some 51, none, .pick (.t 47) (.t 50) (.k (.bool false))⟩,
    ⟨some 0, none, .mov (.t 51)⟩] none [0]
def c_erasurelaw26awake : ACode :=
  (.seq r_erasurelaw26awake_0
  (.seq r_erasurelaw26awake_1
   (.seq r_erasurelaw26awake_2
    (.seq r_erasurelaw26awake_3
     (.seq r_erasurelaw26awake_4
      .ret)))))
theorem fits_erasurelaw26awake : Fits Try.prog 18 52 c_erasurelaw26awake [.t 0] := ⟨⟨Try.f18, _, _, Try.func18, rfl, rfl, rfl, by decide, by kernel_rfl, by kernel_rfl⟩, Try.checked.mixed⟩
end Go.Proofs.Ytjieenfbfckafaa.Am
namespace Go.Proofs.Ytjieenfbfckafaa.Am
open Go
set_option linter.unusedVariables false
set_option linter.unusedSimpArgs false
set_option maxRecDepth 100000
set_option maxHeartbeats 1000000
/-- codec.source.rest -/
theorem rest_meets (s : Sr) (hs : s.b.length ≤ 70368744177664) : Meets Try.prog F_codec_source_rest ⟨[.c (.ptr 0 0)], [(0, sob s)], 1, .c (bs s.b), [(0, sob s)], 1⟩ := by
  refine fits_codec_source_rest.meets rfl (by simp) fun Q hQ => ?_
  (conv => whnf); repeat' (first | (refine And.intro ?_ ?_; (focus (exact zq3)); (conv => whnf)) | (refine onB_intro (fun hb => ?_) (fun hb => ?_) <;> (try simp only [decide_eq_true_eq, decide_eq_false_iff_not, Bool.not_eq_true', Bool.not_eq_false', Bool.and_eq_true, Bool.and_eq_false_iff, Int.not_le, Int.not_lt, bsz, ByteArray.toList_eq, beq_iff_eq, beq_eq_false_iff_ne, ne_eq] at hb) <;> (try (exfalso; omega)) <;> (try (exfalso; first | contradiction | (simp [ByteArray.toList_eq] at hb; done))) <;> (conv => whnf)) | (refine (hQ _ _ _ ?_).1; (conv => whnf)) | (refine ⟨_, rfl, ?_⟩; (conv => whnf)) | (refine ⟨_, mp_cut _ _ _, ?_⟩; (conv => whnf)) | (refine ⟨_, dbs_cut _ _ _, ?_⟩; (conv => whnf)) | (refine ⟨[_], rfl, ?_⟩; (conv => whnf)) | (refine ⟨[_, _], rfl, ?_⟩; (conv => whnf)) | (refine ⟨[_, _, _], rfl, ?_⟩; (conv => whnf)) | (refine ⟨[_, _, _, _], rfl, ?_⟩; (conv => whnf)) | fail)
  refine RetOk.freeze 1 T_u8 (pb s.b) rfl ?_
  exact ret_obj rfl (sub_val rfl (by rw [List.drop_zero, List.take_of_length_le (by simp [pb])])) rfl rfl (fun F => rfl) (fun F => rfl)
def readInt (b : List UInt8) : Int × List UInt8 × Int := if (Sr.int ⟨b, 0⟩).2.e = 0 then ((Sr.int ⟨b, 0⟩).1, (Sr.int ⟨b, 0⟩).2.b, 0) else (0, [], (Sr.int ⟨b, 0⟩).2.e)
theorem decU_len : ∀ (b : List UInt8) (i u : Nat) {v : Nat} {r : List UInt8}, decU i u b = .ok (v, r) → r.length ≤ b.length
  | [], i, u, v, r, h => by simp [decU] at h
  | c :: l, i, u, v, r, h => by
    rw [decU] at h
    split at h
    · cases h
    · split at h
      · cases h; simp
      · have := decU_len l _ _ h; simp; omega
theorem Sr.int_len (s : Sr) : s.int.2.b.length ≤ s.b.length := by
  unfold Sr.int
  split
  · split
    · exact Nat.le_refl _
    · rename_i h; exact decU_len _ _ _ h
  · exact Nat.le_refl _
/-- codec.ReadInt -/
theorem readInt_meets (b : List UInt8) (hb : b.length ≤ 70368744177664) : Meets Try.prog F_codec_ReadInt ⟨[.c (bs b)], [], 0, .tup [vi (readInt b).1, .c (bs (readInt b).2.1), vi (readInt b).2.2], [], 0⟩ := by
  have hl := Sr.int_len ⟨b, 0⟩
  have m := integer_meets ⟨b, 0⟩ (by show b.length ≤ _; omega)
  unfold readInt
  generalize Sr.int ⟨b, 0⟩ = x at m hl ⊢
  obtain ⟨n, s⟩ := x
  simp only at hl m ⊢
  refine fits_codec_ReadInt.meets rfl (by simp) fun Q hQ => ?_
  (conv => whnf); repeat' (first | (refine And.intro ?_ ?_; (focus (exact zq3)); (conv => whnf)) | (refine onB_intro (fun hb => ?_) (fun hb => ?_) <;> (try simp only [decide_eq_true_eq, decide_eq_false_iff_not, Bool.not_eq_true', Bool.not_eq_false', Bool.and_eq_true, Bool.and_eq_false_iff, Int.not_le, Int.not_lt, bsz, ByteArray.toList_eq, beq_iff_eq, beq_eq_false_iff_ne, ne_eq] at hb) <;> (try (exfalso; omega)) <;> (try (exfalso; first | contradiction | (simp [ByteArray.toList_eq] at hb; done))) <;> (conv => whnf)) | (refine (hQ _ _ _ ?_).1; (conv => whnf)) | (refine ⟨_, rfl, ?_⟩; (conv => whnf)) | (refine ⟨_, mp_cut _ _ _, ?_⟩; (conv => whnf)) | (refine ⟨_, dbs_cut _ _ _, ?_⟩; (conv => whnf)) | (refine ⟨[_], rfl, ?_⟩; (conv => whnf)) | (refine ⟨[_, _], rfl, ?_⟩; (conv => whnf)) | (refine ⟨[_, _, _], rfl, ?_⟩; (conv => whnf)) | (refine ⟨[_, _, _, _], rfl, ?_⟩; (conv => whnf)) | (apply call_obj (m) (fun F => by first | exact rfl | exact bob_ren F _ | exact ob_ren F _ _) (fun F => by first | exact rfl | exact bob_ren F _ | exact ob_ren F _ _); (focus (exact zq0)); (focus (exact zq2)); (conv => whnf)) | (apply call_obj (rest_meets s (by omega)) (fun F => by first | exact rfl | exact bob_ren F _ | exact ob_ren F _ _) (fun F => by first | exact rfl | exact bob_ren F _ | exact ob_ren F _ _); (focus (exact zq0)); (focus (exact zq2)); (conv => whnf)) | fail)
  all_goals
    refine RetOk.pure' (fun f => rfl) ?_
    first
      | (rw [if_pos hb]; (exact zq0))
      | (rw [if_neg hb]; (exact zq0))
theorem encInt_m1 : encInt (-1) = [1] := by rw [encInt, show zz (-1) = 1 by decide, encU_lt (by decide)]; rfl
theorem rd1 : readInt [128, 0] = (0, [], 1) := by simp [readInt, Sr.int, decU]
theorem rd2 : readInt [128] = (0, [], 100) := by simp [readInt, Sr.int, decU]
theorem rd3 : readInt [128, 1, 7] = (64, [7], 0) := by simp [readInt, Sr.int, decU, unzz]
end Go.Proofs.Ytjieenfbfckafaa.Am
namespace Go.Proofs.Ytjieenfbfckafaa.Am
open Go
set_option linter.unusedVariables false
set_option linter.unusedSimpArgs false
def Sr.count (most : Int) (s : Sr) : Int × Sr :=
  let x := s.int
  let t := if x.1 < 0 ∨ most < x.1 then x.2.fail 1 else x.2
  if t.e = 0 then (x.1, t) else (0, t)
def Sr.take (n : Nat) (s : Sr) : List UInt8 × Sr :=
  if s.e = 0 then (if s.b.length < n then ([], ⟨s.b, 100⟩) else (s.b.take n, ⟨s.b.drop n, 0⟩)) else ([], s)
def Sr.text (most : Int) (s : Sr) : List UInt8 × Sr :=
  let x := s.count most
  x.2.take x.1.toNat
def Sr.value (s : Sr) : Val × Sr :=
  let x := s.count 2
  if x.1 = 1 then
    (let y := x.2.int
     (⟨1, y.1, []⟩, if y.1 < -4294967296 ∨ 4294967296 < y.1 then y.2.fail 1 else y.2))
  else if x.1 = 2 then
    (let y := x.2.text 32
     (⟨2, 0, y.1⟩, y.2))
  else (Val.null, x.2)
def many {α : Type} (f : Sr → α × Sr) : Nat → Sr → List α × Sr
  | 0, s => ([], s)
  | n + 1, s => if s.e = 0 then
      (let x := f s
       let y := many f n x.2
       (x.1 :: y.1, y.2)) else ([], s)
def Sr.list {α : Type} (f : Sr → α × Sr) (most : Int) (s : Sr) : List α × Sr :=
  let x := s.count most
  many f x.1.toNat x.2
def Sr.row (s : Sr) : List Val × Sr := s.list Sr.value 16
def Sr.ident (s : Sr) : Ident × Sr :=
  let x := s.text 16
  let y := x.2.value
  (⟨x.1, y.1⟩, y.2)
def Sr.ver (s : Sr) : Ver × Sr :=
  let x := s.int
  let y := x.2.int
  let z := y.2.int
  (⟨x.1, z.1, y.1⟩, z.2)
def Sr.sou (s : Sr) : Sou × Sr :=
  let x := s.int
  let y := x.2.int
  (⟨x.1, y.1⟩, y.2)
def Sr.vers (s : Sr) : List Ver × Sr := s.list Sr.ver 512
def Sr.sous (s : Sr) : List Sou × Sr := s.list Sr.sou 512
def Sr.link (s : Sr) : Link × Sr :=
  let a := s.ident
  let b := a.2.ident
  let x := b.2.int
  let y := x.2.count 1
  (⟨a.1, b.1, x.1, decide (y.1 = 1)⟩, y.2)
def Sr.hold (s : Sr) : Hold × Sr :=
  let a := s.int
  let b := a.2.int
  let c := b.2.ident
  let d := c.2.int
  let e := d.2.int
  let f := e.2.int
  (⟨a.1, b.1, c.1, d.1, e.1, f.1⟩, f.2)
def Sr.req (s : Sr) : Req × Sr :=
  let a := s.int
  let c := a.2.ident
  let d := c.2.int
  let e := d.2.int
  let f := e.2.int
  (⟨a.1, c.1, d.1, e.1, f.1⟩, f.2)
def zero32 : List UInt8 := List.replicate 32 0
def Sr.digest (s : Sr) : List UInt8 × Sr :=
  let x := s.take 32
  (if x.2.e = 0 then x.1 else zero32, x.2)
theorem Sr.fail_b (s : Sr) (x : Int) : (s.fail x).b = s.b := by unfold Sr.fail; split <;> rfl
theorem Sr.int_err0 (s : Sr) (h : s.int.2.e ≠ 0) : s.int.1 = 0 := by
  unfold Sr.int at h ⊢
  split at h
  · rename_i he
    rw [if_pos he]
    split at h
    · rfl
    · exact absurd rfl h
  · rename_i he
    rw [if_neg he]
theorem Sr.count_len (m : Int) (s : Sr) : (s.count m).2.b.length ≤ s.b.length := by
  have h := s.int_len
  unfold Sr.count
  dsimp only
  by_cases hc : s.int.1 < 0 ∨ m < s.int.1
  · rw [if_pos hc]
    have h2 := s.int.2.fail_b 1
    split
    · show (s.int.2.fail 1).b.length ≤ _; rw [h2]; exact h
    · show (s.int.2.fail 1).b.length ≤ _; rw [h2]; exact h
  · rw [if_neg hc]
    split
    · exact h
    · exact h
theorem Sr.count_range (m : Int) (s : Sr) (hm : 0 ≤ m) : 0 ≤ (s.count m).1 ∧ (s.count m).1 ≤ m := by
  unfold Sr.count
  dsimp only
  by_cases hc : s.int.1 < 0 ∨ m < s.int.1
  · rw [if_pos hc]
    by_cases he : (s.int.2.fail 1).e = 0
    · exfalso
      unfold Sr.fail at he
      split at he
      · simp at he
      · rename_i h; exact h he
    · rw [if_neg he]; exact ⟨Int.le_refl _, hm⟩
  · rw [if_neg hc]
    split
    · constructor <;> dsimp only <;> omega
    · exact ⟨Int.le_refl _, hm⟩
theorem Sr.count_nonneg (m : Int) (s : Sr) : 0 ≤ (s.count m).1 := by
  unfold Sr.count
  dsimp only
  by_cases hc : s.int.1 < 0 ∨ m < s.int.1
  · rw [if_pos hc]
    by_cases he : (s.int.2.fail 1).e = 0
    · exfalso
      unfold Sr.fail at he
      split at he
      · simp at he
      · rename_i h; exact h he
    · rw [if_neg he]; exact Int.le_refl _
  · rw [if_neg hc]
    split
    · dsimp only; omega
    · exact Int.le_refl _
theorem Sr.take_len (n : Nat) (s : Sr) : (s.take n).2.b.length ≤ s.b.length := by
  unfold Sr.take
  split
  · split
    · exact Nat.le_refl _
    · simp
  · exact Nat.le_refl _
theorem Sr.text_len (m : Int) (s : Sr) : (s.text m).2.b.length ≤ s.b.length := Nat.le_trans (Sr.take_len _ _) (s.count_len m)
theorem Sr.value_len (s : Sr) : s.value.2.b.length ≤ s.b.length := by
  have h := s.count_len 2
  unfold Sr.value
  simp only
  split
  · have h2 := (s.count 2).2.int_len
    simp only
    split
    · rw [Sr.fail_b]; omega
    · omega
  · split
    · have h2 := (s.count 2).2.text_len 32
      simp only; omega
    · exact h
theorem many_len {α : Type} {f : Sr → α × Sr} (hf : ∀ s, (f s).2.b.length ≤ s.b.length) : ∀ (n : Nat) (s : Sr), (many f n s).2.b.length ≤ s.b.length
  | 0, s => Nat.le_refl _
  | n + 1, s => by
    unfold many
    split
    · exact Nat.le_trans (many_len hf n _) (hf s)
    · exact Nat.le_refl _
theorem many_count {α : Type} {f : Sr → α × Sr} : ∀ (n : Nat) (s : Sr), (many f n s).1.length ≤ n
  | 0, s => Nat.le_refl _
  | n + 1, s => by
    unfold many
    split
    · have := many_count (f := f) n (f s).2
      simp only [List.length_cons]; omega
    · simp
theorem Sr.list_len {α : Type} {f : Sr → α × Sr} (hf : ∀ s, (f s).2.b.length ≤ s.b.length) (m : Int) (s : Sr) : (s.list f m).2.b.length ≤ s.b.length := Nat.le_trans (many_len hf _ _) (s.count_len m)
theorem Sr.row_len (s : Sr) : s.row.2.b.length ≤ s.b.length := s.list_len Sr.value_len 16
theorem Sr.ident_len (s : Sr) : s.ident.2.b.length ≤ s.b.length := Nat.le_trans (Sr.value_len _) (s.text_len 16)
theorem Sr.ver_len (s : Sr) : s.ver.2.b.length ≤ s.b.length := Nat.le_trans (Sr.int_len _) (Nat.le_trans (Sr.int_len _) (Sr.int_len _))
theorem Sr.sou_len (s : Sr) : s.sou.2.b.length ≤ s.b.length := Nat.le_trans (Sr.int_len _) (Sr.int_len _)
theorem Sr.vers_len (s : Sr) : s.vers.2.b.length ≤ s.b.length := s.list_len Sr.ver_len 512
theorem Sr.sous_len (s : Sr) : s.sous.2.b.length ≤ s.b.length := s.list_len Sr.sou_len 512
theorem Sr.link_len (s : Sr) : s.link.2.b.length ≤ s.b.length := Nat.le_trans (Sr.count_len _ _) (Nat.le_trans (Sr.int_len _) (Nat.le_trans (Sr.ident_len _) (Sr.ident_len _)))
theorem Sr.hold_len (s : Sr) : s.hold.2.b.length ≤ s.b.length := Nat.le_trans (Sr.int_len _) (Nat.le_trans (Sr.int_len _) (Nat.le_trans (Sr.int_len _) (Nat.le_trans (Sr.ident_len _) (Nat.le_trans (Sr.int_len _) (Sr.int_len _)))))
theorem Sr.req_len (s : Sr) : s.req.2.b.length ≤ s.b.length := Nat.le_trans (Sr.int_len _) (Nat.le_trans (Sr.int_len _) (Nat.le_trans (Sr.int_len _) (Nat.le_trans (Sr.ident_len _) (Sr.int_len _))))
theorem Sr.digest_len (s : Sr) : s.digest.2.b.length ≤ s.b.length := s.take_len 32
end Go.Proofs.Ytjieenfbfckafaa.Am
namespace Go.Proofs.Ytjieenfbfckafaa.Am
open Go
set_option linter.unusedVariables false
set_option linter.unusedSimpArgs false
set_option maxRecDepth 100000
set_option maxHeartbeats 1000000
/-- codec.source.number -/
theorem number_meets (s : Sr) (hs : s.ok) : Meets Try.prog F_codec_source_number ⟨[.c (.ptr 0 0)], [(0, sob s)], 1, vi s.int.1, [(0, sob s.int.2)], 1⟩ := by
  have m := integer_meets s hs
  generalize s.int = x at m ⊢
  obtain ⟨n, t⟩ := x
  refine fits_codec_source_number.meets rfl (by simp) fun Q hQ => ?_
  (conv => whnf); repeat' (first | (refine And.intro ?_ ?_; (focus (exact zq3)); (conv => whnf)) | (refine onB_intro (fun hb => ?_) (fun hb => ?_) <;> (try simp only [decide_eq_true_eq, decide_eq_false_iff_not, Bool.not_eq_true', Bool.not_eq_false', Bool.and_eq_true, Bool.and_eq_false_iff, Int.not_le, Int.not_lt, bsz, ByteArray.toList_eq, beq_iff_eq, beq_eq_false_iff_ne, ne_eq] at hb) <;> (try (exfalso; omega)) <;> (try (exfalso; first | contradiction | (simp [ByteArray.toList_eq] at hb; done))) <;> (conv => whnf)) | (refine (hQ _ _ _ ?_).1; (conv => whnf)) | (refine ⟨_, rfl, ?_⟩; (conv => whnf)) | (refine ⟨_, mp_cut _ _ _, ?_⟩; (conv => whnf)) | (refine ⟨_, dbs_cut _ _ _, ?_⟩; (conv => whnf)) | (refine ⟨[_], rfl, ?_⟩; (conv => whnf)) | (refine ⟨[_, _], rfl, ?_⟩; (conv => whnf)) | (refine ⟨[_, _, _], rfl, ?_⟩; (conv => whnf)) | (refine ⟨[_, _, _, _], rfl, ?_⟩; (conv => whnf)) | (apply call_obj (m) (fun F => by first | exact rfl | exact bob_ren F _ | exact ob_ren F _ _) (fun F => by first | exact rfl | exact bob_ren F _ | exact ob_ren F _ _); (focus (exact zq0)); (focus (exact zq2)); (conv => whnf)) | fail)
  all_goals (refine ret_obj rfl ?_ rfl ?_ (fun F => by first | exact rfl | (simp only [TV.rens, TV.ren, dbs_ren]; rfl) | (simp [TV.rens, TV.ren, dbs_ren, map_ren_p]; done)) (fun F => by first | exact rfl | exact bob_ren F _ | exact ob_ren F _ _); (focus (exact zq0)); (first | rfl | (refine ob2_eq ?_ ?_ <;> (first | rfl | assumption | (simp only [*]; done) | (refine dv_val ?_ ?_ <;> (first | rfl | omega | (simp [pb, List.map_take, List.map_drop, List.take_of_length_le]; done) | (simp [pb, List.map_take, List.map_drop]; omega)))))))
/-- codec.source.count -/
theorem count_meets (m : Int) (s : Sr) (hs : s.ok) : Meets Try.prog F_codec_source_count ⟨[.c (.ptr 0 0), vi m], [(0, sob s)], 1, vi (s.count m).1, [(0, sob (s.count m).2)], 1⟩ := by
  have m1 := integer_meets s hs
  unfold Sr.count
  dsimp only
  generalize s.int = x at m1 ⊢
  obtain ⟨n, t⟩ := x
  dsimp only at m1 ⊢
  by_cases hc : n < 0 ∨ m < n
  · rw [if_pos hc]
    have m2 := fail_meets' t 1
    generalize t.fail 1 = t2 at m2 ⊢
    by_cases he : t2.e = 0
    · rw [if_pos he]
      refine fits_codec_source_count.meets rfl (by simp) fun Q hQ => ?_
      (conv => whnf); repeat' (first | (refine And.intro ?_ ?_; (focus (exact zq3)); (conv => whnf)) | (refine onB_intro (fun hb => ?_) (fun hb => ?_) <;> (try simp only [decide_eq_true_eq, decide_eq_false_iff_not, Bool.not_eq_true', Bool.not_eq_false', Bool.and_eq_true, Bool.and_eq_false_iff, Int.not_le, Int.not_lt, bsz, ByteArray.toList_eq, beq_iff_eq, beq_eq_false_iff_ne, ne_eq] at hb) <;> (try (exfalso; omega)) <;> (try (exfalso; first | contradiction | (simp [ByteArray.toList_eq] at hb; done))) <;> (conv => whnf)) | (refine (hQ _ _ _ ?_).1; (conv => whnf)) | (refine ⟨_, rfl, ?_⟩; (conv => whnf)) | (refine ⟨_, mp_cut _ _ _, ?_⟩; (conv => whnf)) | (refine ⟨_, dbs_cut _ _ _, ?_⟩; (conv => whnf)) | (refine ⟨[_], rfl, ?_⟩; (conv => whnf)) | (refine ⟨[_, _], rfl, ?_⟩; (conv => whnf)) | (refine ⟨[_, _, _], rfl, ?_⟩; (conv => whnf)) | (refine ⟨[_, _, _, _], rfl, ?_⟩; (conv => whnf)) | (apply call_obj (m1) (fun F => by first | exact rfl | exact bob_ren F _ | exact ob_ren F _ _) (fun F => by first | exact rfl | exact bob_ren F _ | exact ob_ren F _ _); (focus (exact zq0)); (focus (exact zq2)); (conv => whnf)) | (apply call_obj (m2) (fun F => by first | exact rfl | exact bob_ren F _ | exact ob_ren F _ _) (fun F => by first | exact rfl | exact bob_ren F _ | exact ob_ren F _ _); (focus (exact zq0)); (focus (exact zq2)); (conv => whnf)) | fail)
      all_goals (refine ret_obj rfl ?_ rfl ?_ (fun F => by first | exact rfl | (simp only [TV.rens, TV.ren, dbs_ren]; rfl) | (simp [TV.rens, TV.ren, dbs_ren, map_ren_p]; done)) (fun F => by first | exact rfl | exact bob_ren F _ | exact ob_ren F _ _); (focus (exact zq0)); (first | rfl | (refine ob2_eq ?_ ?_ <;> (first | rfl | assumption | (simp only [*]; done) | (refine dv_val ?_ ?_ <;> (first | rfl | omega | (simp [pb, List.map_take, List.map_drop, List.take_of_length_le]; done) | (simp [pb, List.map_take, List.map_drop]; omega)))))))
    · rw [if_neg he]
      refine fits_codec_source_count.meets rfl (by simp) fun Q hQ => ?_
      (conv => whnf); repeat' (first | (refine And.intro ?_ ?_; (focus (exact zq3)); (conv => whnf)) | (refine onB_intro (fun hb => ?_) (fun hb => ?_) <;> (try simp only [decide_eq_true_eq, decide_eq_false_iff_not, Bool.not_eq_true', Bool.not_eq_false', Bool.and_eq_true, Bool.and_eq_false_iff, Int.not_le, Int.not_lt, bsz, ByteArray.toList_eq, beq_iff_eq, beq_eq_false_iff_ne, ne_eq] at hb) <;> (try (exfalso; omega)) <;> (try (exfalso; first | contradiction | (simp [ByteArray.toList_eq] at hb; done))) <;> (conv => whnf)) | (refine (hQ _ _ _ ?_).1; (conv => whnf)) | (refine ⟨_, rfl, ?_⟩; (conv => whnf)) | (refine ⟨_, mp_cut _ _ _, ?_⟩; (conv => whnf)) | (refine ⟨_, dbs_cut _ _ _, ?_⟩; (conv => whnf)) | (refine ⟨[_], rfl, ?_⟩; (conv => whnf)) | (refine ⟨[_, _], rfl, ?_⟩; (conv => whnf)) | (refine ⟨[_, _, _], rfl, ?_⟩; (conv => whnf)) | (refine ⟨[_, _, _, _], rfl, ?_⟩; (conv => whnf)) | (apply call_obj (m1) (fun F => by first | exact rfl | exact bob_ren F _ | exact ob_ren F _ _) (fun F => by first | exact rfl | exact bob_ren F _ | exact ob_ren F _ _); (focus (exact zq0)); (focus (exact zq2)); (conv => whnf)) | (apply call_obj (m2) (fun F => by first | exact rfl | exact bob_ren F _ | exact ob_ren F _ _) (fun F => by first | exact rfl | exact bob_ren F _ | exact ob_ren F _ _); (focus (exact zq0)); (focus (exact zq2)); (conv => whnf)) | fail)
      all_goals (refine ret_obj rfl ?_ rfl ?_ (fun F => by first | exact rfl | (simp only [TV.rens, TV.ren, dbs_ren]; rfl) | (simp [TV.rens, TV.ren, dbs_ren, map_ren_p]; done)) (fun F => by first | exact rfl | exact bob_ren F _ | exact ob_ren F _ _); (focus (exact zq0)); (first | rfl | (refine ob2_eq ?_ ?_ <;> (first | rfl | assumption | (simp only [*]; done) | (refine dv_val ?_ ?_ <;> (first | rfl | omega | (simp [pb, List.map_take, List.map_drop, List.take_of_length_le]; done) | (simp [pb, List.map_take, List.map_drop]; omega)))))))
  · rw [if_neg hc]
    by_cases he : t.e = 0
    · rw [if_pos he]
      refine fits_codec_source_count.meets rfl (by simp) fun Q hQ => ?_
      (conv => whnf); repeat' (first | (refine And.intro ?_ ?_; (focus (exact zq3)); (conv => whnf)) | (refine onB_intro (fun hb => ?_) (fun hb => ?_) <;> (try simp only [decide_eq_true_eq, decide_eq_false_iff_not, Bool.not_eq_true', Bool.not_eq_false', Bool.and_eq_true, Bool.and_eq_false_iff, Int.not_le, Int.not_lt, bsz, ByteArray.toList_eq, beq_iff_eq, beq_eq_false_iff_ne, ne_eq] at hb) <;> (try (exfalso; omega)) <;> (try (exfalso; first | contradiction | (simp [ByteArray.toList_eq] at hb; done))) <;> (conv => whnf)) | (refine (hQ _ _ _ ?_).1; (conv => whnf)) | (refine ⟨_, rfl, ?_⟩; (conv => whnf)) | (refine ⟨_, mp_cut _ _ _, ?_⟩; (conv => whnf)) | (refine ⟨_, dbs_cut _ _ _, ?_⟩; (conv => whnf)) | (refine ⟨[_], rfl, ?_⟩; (conv => whnf)) | (refine ⟨[_, _], rfl, ?_⟩; (conv => whnf)) | (refine ⟨[_, _, _], rfl, ?_⟩; (conv => whnf)) | (refine ⟨[_, _, _, _], rfl, ?_⟩; (conv => whnf)) | (apply call_obj (m1) (fun F => by first | exact rfl | exact bob_ren F _ | exact ob_ren F _ _) (fun F => by first | exact rfl | exact bob_ren F _ | exact ob_ren F _ _); (focus (exact zq0)); (focus (exact zq2)); (conv => whnf)) | fail)
      all_goals (refine ret_obj rfl ?_ rfl ?_ (fun F => by first | exact rfl | (simp only [TV.rens, TV.ren, dbs_ren]; rfl) | (simp [TV.rens, TV.ren, dbs_ren, map_ren_p]; done)) (fun F => by first | exact rfl | exact bob_ren F _ | exact ob_ren F _ _); (focus (exact zq0)); (first | rfl | (refine ob2_eq ?_ ?_ <;> (first | rfl | assumption | (simp only [*]; done) | (refine dv_val ?_ ?_ <;> (first | rfl | omega | (simp [pb, List.map_take, List.map_drop, List.take_of_length_le]; done) | (simp [pb, List.map_take, List.map_drop]; omega)))))))
    · rw [if_neg he]
      refine fits_codec_source_count.meets rfl (by simp) fun Q hQ => ?_
      (conv => whnf); repeat' (first | (refine And.intro ?_ ?_; (focus (exact zq3)); (conv => whnf)) | (refine onB_intro (fun hb => ?_) (fun hb => ?_) <;> (try simp only [decide_eq_true_eq, decide_eq_false_iff_not, Bool.not_eq_true', Bool.not_eq_false', Bool.and_eq_true, Bool.and_eq_false_iff, Int.not_le, Int.not_lt, bsz, ByteArray.toList_eq, beq_iff_eq, beq_eq_false_iff_ne, ne_eq] at hb) <;> (try (exfalso; omega)) <;> (try (exfalso; first | contradiction | (simp [ByteArray.toList_eq] at hb; done))) <;> (conv => whnf)) | (refine (hQ _ _ _ ?_).1; (conv => whnf)) | (refine ⟨_, rfl, ?_⟩; (conv => whnf)) | (refine ⟨_, mp_cut _ _ _, ?_⟩; (conv => whnf)) | (refine ⟨_, dbs_cut _ _ _, ?_⟩; (conv => whnf)) | (refine ⟨[_], rfl, ?_⟩; (conv => whnf)) | (refine ⟨[_, _], rfl, ?_⟩; (conv => whnf)) | (refine ⟨[_, _, _], rfl, ?_⟩; (conv => whnf)) | (refine ⟨[_, _, _, _], rfl, ?_⟩; (conv => whnf)) | (apply call_obj (m1) (fun F => by first | exact rfl | exact bob_ren F _ | exact ob_ren F _ _) (fun F => by first | exact rfl | exact bob_ren F _ | exact ob_ren F _ _); (focus (exact zq0)); (focus (exact zq2)); (conv => whnf)) | fail)
      all_goals (refine ret_obj rfl ?_ rfl ?_ (fun F => by first | exact rfl | (simp only [TV.rens, TV.ren, dbs_ren]; rfl) | (simp [TV.rens, TV.ren, dbs_ren, map_ren_p]; done)) (fun F => by first | exact rfl | exact bob_ren F _ | exact ob_ren F _ _); (focus (exact zq0)); (first | rfl | (refine ob2_eq ?_ ?_ <;> (first | rfl | assumption | (simp only [*]; done) | (refine dv_val ?_ ?_ <;> (first | rfl | omega | (simp [pb, List.map_take, List.map_drop, List.take_of_length_le]; done) | (simp [pb, List.map_take, List.map_drop]; omega)))))))
/-- erasureref26.Reader.Count -/
theorem rcount_meets (m : Int) (s : Sr) (hs : s.ok) : Meets Try.prog F_erasureref26Reader_Count ⟨[.c (.ptr 0 0), vi m], [(0, rob s)], 1, vi (s.count m).1, [(0, rob (s.count m).2)], 1⟩ := by
  have m1 := rInt_meets s hs
  have h0 := s.int_err0
  unfold Sr.count
  dsimp only
  generalize s.int = x at m1 h0 ⊢
  obtain ⟨n, t⟩ := x
  dsimp only at m1 h0 ⊢
  by_cases hc : n < 0 ∨ m < n
  · rw [if_pos hc]
    have he : (t.fail 1).e ≠ 0 := by
      unfold Sr.fail
      split
      · simp
      · assumption
    rw [if_neg he]
    have m2 := rfail_meets' t 1
    generalize t.fail 1 = t2 at m2 ⊢
    refine fits_erasureref26Reader_Count.meets rfl (by simp) fun Q hQ => ?_
    (conv => whnf); repeat' (first | (refine And.intro ?_ ?_; (focus (exact zq3)); (conv => whnf)) | (refine onB_intro (fun hb => ?_) (fun hb => ?_) <;> (try simp only [decide_eq_true_eq, decide_eq_false_iff_not, Bool.not_eq_true', Bool.not_eq_false', Bool.and_eq_true, Bool.and_eq_false_iff, Int.not_le, Int.not_lt, bsz, ByteArray.toList_eq, beq_iff_eq, beq_eq_false_iff_ne, ne_eq] at hb) <;> (try (exfalso; omega)) <;> (try (exfalso; first | contradiction | (simp [ByteArray.toList_eq] at hb; done))) <;> (conv => whnf)) | (refine (hQ _ _ _ ?_).1; (conv => whnf)) | (refine ⟨_, rfl, ?_⟩; (conv => whnf)) | (refine ⟨_, mp_cut _ _ _, ?_⟩; (conv => whnf)) | (refine ⟨_, dbs_cut _ _ _, ?_⟩; (conv => whnf)) | (refine ⟨[_], rfl, ?_⟩; (conv => whnf)) | (refine ⟨[_, _], rfl, ?_⟩; (conv => whnf)) | (refine ⟨[_, _, _], rfl, ?_⟩; (conv => whnf)) | (refine ⟨[_, _, _, _], rfl, ?_⟩; (conv => whnf)) | (apply call_obj (m1) (fun F => by first | exact rfl | exact bob_ren F _ | exact ob_ren F _ _) (fun F => by first | exact rfl | exact bob_ren F _ | exact ob_ren F _ _); (focus (exact zq0)); (focus (exact zq2)); (conv => whnf)) | (apply call_obj (m2) (fun F => by first | exact rfl | exact bob_ren F _ | exact ob_ren F _ _) (fun F => by first | exact rfl | exact bob_ren F _ | exact ob_ren F _ _); (focus (exact zq0)); (focus (exact zq2)); (conv => whnf)) | fail)
    all_goals (refine ret_obj rfl ?_ rfl ?_ (fun F => by first | exact rfl | (simp only [TV.rens, TV.ren, dbs_ren]; rfl) | (simp [TV.rens, TV.ren, dbs_ren, map_ren_p]; done)) (fun F => by first | exact rfl | exact bob_ren F _ | exact ob_ren F _ _); (focus (exact zq0)); (first | rfl | (refine ob2_eq ?_ ?_ <;> (first | rfl | assumption | (simp only [*]; done) | (refine dv_val ?_ ?_ <;> (first | rfl | omega | (simp [pb, List.map_take, List.map_drop, List.take_of_length_le]; done) | (simp [pb, List.map_take, List.map_drop]; omega)))))))
  · rw [if_neg hc]
    by_cases he : t.e = 0
    · rw [if_pos he]
      refine fits_erasureref26Reader_Count.meets rfl (by simp) fun Q hQ => ?_
      (conv => whnf); repeat' (first | (refine And.intro ?_ ?_; (focus (exact zq3)); (conv => whnf)) | (refine onB_intro (fun hb => ?_) (fun hb => ?_) <;> (try simp only [decide_eq_true_eq, decide_eq_false_iff_not, Bool.not_eq_true', Bool.not_eq_false', Bool.and_eq_true, Bool.and_eq_false_iff, Int.not_le, Int.not_lt, bsz, ByteArray.toList_eq, beq_iff_eq, beq_eq_false_iff_ne, ne_eq] at hb) <;> (try (exfalso; omega)) <;> (try (exfalso; first | contradiction | (simp [ByteArray.toList_eq] at hb; done))) <;> (conv => whnf)) | (refine (hQ _ _ _ ?_).1; (conv => whnf)) | (refine ⟨_, rfl, ?_⟩; (conv => whnf)) | (refine ⟨_, mp_cut _ _ _, ?_⟩; (conv => whnf)) | (refine ⟨_, dbs_cut _ _ _, ?_⟩; (conv => whnf)) | (refine ⟨[_], rfl, ?_⟩; (conv => whnf)) | (refine ⟨[_, _], rfl, ?_⟩; (conv => whnf)) | (refine ⟨[_, _, _], rfl, ?_⟩; (conv => whnf)) | (refine ⟨[_, _, _, _], rfl, ?_⟩; (conv => whnf)) | (apply call_obj (m1) (fun F => by first | exact rfl | exact bob_ren F _ | exact ob_ren F _ _) (fun F => by first | exact rfl | exact bob_ren F _ | exact ob_ren F _ _); (focus (exact zq0)); (focus (exact zq2)); (conv => whnf)) | fail)
      all_goals (refine ret_obj rfl ?_ rfl ?_ (fun F => by first | exact rfl | (simp only [TV.rens, TV.ren, dbs_ren]; rfl) | (simp [TV.rens, TV.ren, dbs_ren, map_ren_p]; done)) (fun F => by first | exact rfl | exact bob_ren F _ | exact ob_ren F _ _); (focus (exact zq0)); (first | rfl | (refine ob2_eq ?_ ?_ <;> (first | rfl | assumption | (simp only [*]; done) | (refine dv_val ?_ ?_ <;> (first | rfl | omega | (simp [pb, List.map_take, List.map_drop, List.take_of_length_le]; done) | (simp [pb, List.map_take, List.map_drop]; omega)))))))
    · rw [if_neg he]
      have := h0 he
      subst this
      refine fits_erasureref26Reader_Count.meets rfl (by simp) fun Q hQ => ?_
      (conv => whnf); repeat' (first | (refine And.intro ?_ ?_; (focus (exact zq3)); (conv => whnf)) | (refine onB_intro (fun hb => ?_) (fun hb => ?_) <;> (try simp only [decide_eq_true_eq, decide_eq_false_iff_not, Bool.not_eq_true', Bool.not_eq_false', Bool.and_eq_true, Bool.and_eq_false_iff, Int.not_le, Int.not_lt, bsz, ByteArray.toList_eq, beq_iff_eq, beq_eq_false_iff_ne, ne_eq] at hb) <;> (try (exfalso; omega)) <;> (try (exfalso; first | contradiction | (simp [ByteArray.toList_eq] at hb; done))) <;> (conv => whnf)) | (refine (hQ _ _ _ ?_).1; (conv => whnf)) | (refine ⟨_, rfl, ?_⟩; (conv => whnf)) | (refine ⟨_, mp_cut _ _ _, ?_⟩; (conv => whnf)) | (refine ⟨_, dbs_cut _ _ _, ?_⟩; (conv => whnf)) | (refine ⟨[_], rfl, ?_⟩; (conv => whnf)) | (refine ⟨[_, _], rfl, ?_⟩; (conv => whnf)) | (refine ⟨[_, _, _], rfl, ?_⟩; (conv => whnf)) | (refine ⟨[_, _, _, _], rfl, ?_⟩; (conv => whnf)) | (apply call_obj (m1) (fun F => by first | exact rfl | exact bob_ren F _ | exact ob_ren F _ _) (fun F => by first | exact rfl | exact bob_ren F _ | exact ob_ren F _ _); (focus (exact zq0)); (focus (exact zq2)); (conv => whnf)) | fail)
      all_goals (refine ret_obj rfl ?_ rfl ?_ (fun F => by first | exact rfl | (simp only [TV.rens, TV.ren, dbs_ren]; rfl) | (simp [TV.rens, TV.ren, dbs_ren, map_ren_p]; done)) (fun F => by first | exact rfl | exact bob_ren F _ | exact ob_ren F _ _); (focus (exact zq0)); (first | rfl | (refine ob2_eq ?_ ?_ <;> (first | rfl | assumption | (simp only [*]; done) | (refine dv_val ?_ ?_ <;> (first | rfl | omega | (simp [pb, List.map_take, List.map_drop, List.take_of_length_le]; done) | (simp [pb, List.map_take, List.map_drop]; omega)))))))
/-- codec.source.take -/
theorem take_meets (n : Nat) (s : Sr) (hs : s.ok) : Meets Try.prog F_codec_source_take ⟨[.c (.ptr 0 0), vi n], [(0, sob s)], 1, .c (bs (s.take n).1), [(0, sob (s.take n).2)], 1⟩ := by
  have hs : s.b.length ≤ 4611686018427387904 := hs
  unfold Sr.take
  by_cases he : s.e = 0
  · rw [if_pos he]
    by_cases hn : s.b.length < n
    · rw [if_pos hn]
      have m2 := fail_meets' s 100
      have : s.fail 100 = ⟨s.b, 100⟩ := by unfold Sr.fail; rw [if_pos he]
      rw [this] at m2
      refine fits_codec_source_take.meets rfl (by simp) fun Q hQ => ?_
      (conv => whnf); repeat' (first | (refine And.intro ?_ ?_; (focus (exact zq3)); (conv => whnf)) | (refine onB_intro (fun hb => ?_) (fun hb => ?_) <;> (try simp only [decide_eq_true_eq, decide_eq_false_iff_not, Bool.not_eq_true', Bool.not_eq_false', Bool.and_eq_true, Bool.and_eq_false_iff, Int.not_le, Int.not_lt, bsz, ByteArray.toList_eq, beq_iff_eq, beq_eq_false_iff_ne, ne_eq] at hb) <;> (try (exfalso; omega)) <;> (try (exfalso; first | contradiction | (simp [ByteArray.toList_eq] at hb; done))) <;> (conv => whnf)) | (refine (hQ _ _ _ ?_).1; (conv => whnf)) | (refine ⟨_, rfl, ?_⟩; (conv => whnf)) | (refine ⟨_, mp_cut _ _ _, ?_⟩; (conv => whnf)) | (refine ⟨_, dbs_cut _ _ _, ?_⟩; (conv => whnf)) | (refine ⟨[_], rfl, ?_⟩; (conv => whnf)) | (refine ⟨[_, _], rfl, ?_⟩; (conv => whnf)) | (refine ⟨[_, _, _], rfl, ?_⟩; (conv => whnf)) | (refine ⟨[_, _, _, _], rfl, ?_⟩; (conv => whnf)) | (apply call_obj (m2) (fun F => by first | exact rfl | exact bob_ren F _ | exact ob_ren F _ _) (fun F => by first | exact rfl | exact bob_ren F _ | exact ob_ren F _ _); (focus (exact zq0)); (focus (exact zq2)); (conv => whnf)) | fail)
      all_goals (refine ret_obj rfl ?_ rfl ?_ (fun F => by first | exact rfl | (simp only [TV.rens, TV.ren, dbs_ren]; rfl) | (simp [TV.rens, TV.ren, dbs_ren, map_ren_p]; done)) (fun F => by first | exact rfl | exact bob_ren F _ | exact ob_ren F _ _); (focus (exact zq0)); (first | rfl | (refine ob2_eq ?_ ?_ <;> (first | rfl | assumption | (simp only [*]; done) | (refine dv_val ?_ ?_ <;> (first | rfl | omega | (simp [pb, List.map_take, List.map_drop, List.take_of_length_le]; done) | (simp [pb, List.map_take, List.map_drop]; omega)))))))
    · rw [if_neg hn]
      refine fits_codec_source_take.meets rfl (by simp) fun Q hQ => ?_
      (conv => whnf); repeat' (first | (refine And.intro ?_ ?_; (focus (exact zq3)); (conv => whnf)) | (refine onB_intro (fun hb => ?_) (fun hb => ?_) <;> (try simp only [decide_eq_true_eq, decide_eq_false_iff_not, Bool.not_eq_true', Bool.not_eq_false', Bool.and_eq_true, Bool.and_eq_false_iff, Int.not_le, Int.not_lt, bsz, ByteArray.toList_eq, beq_iff_eq, beq_eq_false_iff_ne, ne_eq] at hb) <;> (try (exfalso; omega)) <;> (try (exfalso; first | contradiction | (simp [ByteArray.toList_eq] at hb; done))) <;> (conv => whnf)) | (refine (hQ _ _ _ ?_).1; (conv => whnf)) | (refine ⟨_, rfl, ?_⟩; (conv => whnf)) | (refine ⟨_, mp_cut _ _ _, ?_⟩; (conv => whnf)) | (refine ⟨_, dbs_cut _ _ _, ?_⟩; (conv => whnf)) | (refine ⟨[_], rfl, ?_⟩; (conv => whnf)) | (refine ⟨[_, _], rfl, ?_⟩; (conv => whnf)) | (refine ⟨[_, _, _], rfl, ?_⟩; (conv => whnf)) | (refine ⟨[_, _, _, _], rfl, ?_⟩; (conv => whnf)) | fail)
      all_goals (refine ret_obj rfl ?_ rfl ?_ (fun F => by first | exact rfl | (simp only [TV.rens, TV.ren, dbs_ren]; rfl) | (simp [TV.rens, TV.ren, dbs_ren, map_ren_p]; done)) (fun F => by first | exact rfl | exact bob_ren F _ | exact ob_ren F _ _); (focus (exact zq0)); (first | rfl | (refine ob2_eq ?_ ?_ <;> (first | rfl | assumption | (simp only [*]; done) | (refine dv_val ?_ ?_ <;> (first | rfl | omega | (simp [pb, List.map_take, List.map_drop, List.take_of_length_le]; done) | (simp [pb, List.map_take, List.map_drop]; omega)))))))
  · rw [if_neg he]
    refine fits_codec_source_take.meets rfl (by simp) fun Q hQ => ?_
    (conv => whnf); repeat' (first | (refine And.intro ?_ ?_; (focus (exact zq3)); (conv => whnf)) | (refine onB_intro (fun hb => ?_) (fun hb => ?_) <;> (try simp only [decide_eq_true_eq, decide_eq_false_iff_not, Bool.not_eq_true', Bool.not_eq_false', Bool.and_eq_true, Bool.and_eq_false_iff, Int.not_le, Int.not_lt, bsz, ByteArray.toList_eq, beq_iff_eq, beq_eq_false_iff_ne, ne_eq] at hb) <;> (try (exfalso; omega)) <;> (try (exfalso; first | contradiction | (simp [ByteArray.toList_eq] at hb; done))) <;> (conv => whnf)) | (refine (hQ _ _ _ ?_).1; (conv => whnf)) | (refine ⟨_, rfl, ?_⟩; (conv => whnf)) | (refine ⟨_, mp_cut _ _ _, ?_⟩; (conv => whnf)) | (refine ⟨_, dbs_cut _ _ _, ?_⟩; (conv => whnf)) | (refine ⟨[_], rfl, ?_⟩; (conv => whnf)) | (refine ⟨[_, _], rfl, ?_⟩; (conv => whnf)) | (refine ⟨[_, _, _], rfl, ?_⟩; (conv => whnf)) | (refine ⟨[_, _, _, _], rfl, ?_⟩; (conv => whnf)) | fail)
    all_goals (refine ret_obj rfl ?_ rfl ?_ (fun F => by first | exact rfl | (simp only [TV.rens, TV.ren, dbs_ren]; rfl) | (simp [TV.rens, TV.ren, dbs_ren, map_ren_p]; done)) (fun F => by first | exact rfl | exact bob_ren F _ | exact ob_ren F _ _); (focus (exact zq0)); (first | rfl | (refine ob2_eq ?_ ?_ <;> (first | rfl | assumption | (simp only [*]; done) | (refine dv_val ?_ ?_ <;> (first | rfl | omega | (simp [pb, List.map_take, List.map_drop, List.take_of_length_le]; done) | (simp [pb, List.map_take, List.map_drop]; omega)))))))
/-- erasureref26.Reader.Take -/
theorem rtake_meets (n : Nat) (s : Sr) (hs : s.b.length ≤ 70368744177664) : Meets Try.prog F_erasureref26Reader_Take ⟨[.c (.ptr 0 0), vi n], [(0, rob s)], 1, .c (bs (s.take n).1), [(0, rob (s.take n).2)], 1⟩ := by
  unfold Sr.take
  by_cases he : s.e = 0
  · rw [if_pos he]
    by_cases hn : s.b.length < n
    · rw [if_pos hn]
      have m2 := rfail_meets' s 100
      have : s.fail 100 = ⟨s.b, 100⟩ := by unfold Sr.fail; rw [if_pos he]
      rw [this] at m2
      refine fits_erasureref26Reader_Take.meets rfl (by simp) fun Q hQ => ?_
      (conv => whnf); repeat' (first | (refine And.intro ?_ ?_; (focus (exact zq3)); (conv => whnf)) | (refine onB_intro (fun hb => ?_) (fun hb => ?_) <;> (try simp only [decide_eq_true_eq, decide_eq_false_iff_not, Bool.not_eq_true', Bool.not_eq_false', Bool.and_eq_true, Bool.and_eq_false_iff, Int.not_le, Int.not_lt, bsz, ByteArray.toList_eq, beq_iff_eq, beq_eq_false_iff_ne, ne_eq] at hb) <;> (try (exfalso; omega)) <;> (try (exfalso; first | contradiction | (simp [ByteArray.toList_eq] at hb; done))) <;> (conv => whnf)) | (refine (hQ _ _ _ ?_).1; (conv => whnf)) | (refine ⟨_, rfl, ?_⟩; (conv => whnf)) | (refine ⟨_, mp_cut _ _ _, ?_⟩; (conv => whnf)) | (refine ⟨_, dbs_cut _ _ _, ?_⟩; (conv => whnf)) | (refine ⟨[_], rfl, ?_⟩; (conv => whnf)) | (refine ⟨[_, _], rfl, ?_⟩; (conv => whnf)) | (refine ⟨[_, _, _], rfl, ?_⟩; (conv => whnf)) | (refine ⟨[_, _, _, _], rfl, ?_⟩; (conv => whnf)) | (apply call_obj (m2) (fun F => by first | exact rfl | exact bob_ren F _ | exact ob_ren F _ _) (fun F => by first | exact rfl | exact bob_ren F _ | exact ob_ren F _ _); (focus (exact zq0)); (focus (exact zq2)); (conv => whnf)) | fail)
      all_goals (refine ret_obj rfl ?_ rfl ?_ (fun F => by first | exact rfl | (simp only [TV.rens, TV.ren, dbs_ren]; rfl) | (simp [TV.rens, TV.ren, dbs_ren, map_ren_p]; done)) (fun F => by first | exact rfl | exact bob_ren F _ | exact ob_ren F _ _); (focus (exact zq0)); (first | rfl | (refine ob2_eq ?_ ?_ <;> (first | rfl | assumption | (simp only [*]; done) | (refine dv_val ?_ ?_ <;> (first | rfl | omega | (simp [pb, List.map_take, List.map_drop, List.take_of_length_le]; done) | (simp [pb, List.map_take, List.map_drop]; omega)))))))
    · rw [if_neg hn]
      refine fits_erasureref26Reader_Take.meets rfl (by simp) fun Q hQ => ?_
      (conv => whnf); repeat' (first | (refine And.intro ?_ ?_; (focus (exact zq3)); (conv => whnf)) | (refine onB_intro (fun hb => ?_) (fun hb => ?_) <;> (try simp only [decide_eq_true_eq, decide_eq_false_iff_not, Bool.not_eq_true', Bool.not_eq_false', Bool.and_eq_true, Bool.and_eq_false_iff, Int.not_le, Int.not_lt, bsz, ByteArray.toList_eq, beq_iff_eq, beq_eq_false_iff_ne, ne_eq] at hb) <;> (try (exfalso; omega)) <;> (try (exfalso; first | contradiction | (simp [ByteArray.toList_eq] at hb; done))) <;> (conv => whnf)) | (refine (hQ _ _ _ ?_).1; (conv => whnf)) | (refine ⟨_, rfl, ?_⟩; (conv => whnf)) | (refine ⟨_, mp_cut _ _ _, ?_⟩; (conv => whnf)) | (refine ⟨_, dbs_cut _ _ _, ?_⟩; (conv => whnf)) | (refine ⟨[_], rfl, ?_⟩; (conv => whnf)) | (refine ⟨[_, _], rfl, ?_⟩; (conv => whnf)) | (refine ⟨[_, _, _], rfl, ?_⟩; (conv => whnf)) | (refine ⟨[_, _, _, _], rfl, ?_⟩; (conv => whnf)) | fail)
      all_goals (refine ret_objz (cs := pb (s.b.take n)) rfl rfl rfl rfl ?_ ?_ ?_ (fun F => by first | exact rfl | (simp only [TV.rens, TV.ren, dbs_ren]; rfl) | (simp [TV.rens, TV.ren, dbs_ren, map_ren_p]; done)) (fun F => by first | exact rfl | exact bob_ren F _ | exact ob_ren F _ _) (fun id cs => rfl); (focus (first | rfl | (simp [pb, List.map_take, List.take_of_length_le]; done))); (focus (exact zq0)); (first | rfl | (refine ob2_eq ?_ ?_ <;> (first | rfl | assumption | (simp only [*]; done) | (refine dv_val ?_ ?_ <;> (first | rfl | omega | (simp [pb, List.map_take, List.map_drop, List.take_of_length_le]; done) | (simp [pb, List.map_take, List.map_drop]; omega)))))))
  · rw [if_neg he]
    refine fits_erasureref26Reader_Take.meets rfl (by simp) fun Q hQ => ?_
    (conv => whnf); repeat' (first | (refine And.intro ?_ ?_; (focus (exact zq3)); (conv => whnf)) | (refine onB_intro (fun hb => ?_) (fun hb => ?_) <;> (try simp only [decide_eq_true_eq, decide_eq_false_iff_not, Bool.not_eq_true', Bool.not_eq_false', Bool.and_eq_true, Bool.and_eq_false_iff, Int.not_le, Int.not_lt, bsz, ByteArray.toList_eq, beq_iff_eq, beq_eq_false_iff_ne, ne_eq] at hb) <;> (try (exfalso; omega)) <;> (try (exfalso; first | contradiction | (simp [ByteArray.toList_eq] at hb; done))) <;> (conv => whnf)) | (refine (hQ _ _ _ ?_).1; (conv => whnf)) | (refine ⟨_, rfl, ?_⟩; (conv => whnf)) | (refine ⟨_, mp_cut _ _ _, ?_⟩; (conv => whnf)) | (refine ⟨_, dbs_cut _ _ _, ?_⟩; (conv => whnf)) | (refine ⟨[_], rfl, ?_⟩; (conv => whnf)) | (refine ⟨[_, _], rfl, ?_⟩; (conv => whnf)) | (refine ⟨[_, _, _], rfl, ?_⟩; (conv => whnf)) | (refine ⟨[_, _, _, _], rfl, ?_⟩; (conv => whnf)) | fail)
    all_goals (refine ret_obj rfl ?_ rfl ?_ (fun F => by first | exact rfl | (simp only [TV.rens, TV.ren, dbs_ren]; rfl) | (simp [TV.rens, TV.ren, dbs_ren, map_ren_p]; done)) (fun F => by first | exact rfl | exact bob_ren F _ | exact ob_ren F _ _); (focus (exact zq0)); (first | rfl | (refine ob2_eq ?_ ?_ <;> (first | rfl | assumption | (simp only [*]; done) | (refine dv_val ?_ ?_ <;> (first | rfl | omega | (simp [pb, List.map_take, List.map_drop, List.take_of_length_le]; done) | (simp [pb, List.map_take, List.map_drop]; omega)))))))
/-- codec.source.text -/
theorem text_meets (m : Int) (s : Sr) (hs : s.ok) : Meets Try.prog F_codec_source_text ⟨[.c (.ptr 0 0), vi m], [(0, sob s)], 1, tst (s.text m).1, [(0, sob (s.text m).2)], 1⟩ := by
  have h1 := s.count_len m
  have h2 := s.count_nonneg m
  have hs' : s.b.length ≤ 4611686018427387904 := hs
  unfold Sr.text
  dsimp only
  have m1 := count_meets m s hs
  generalize s.count m = x at m1 h1 h2 ⊢
  obtain ⟨n, t⟩ := x
  dsimp only at m1 h1 h2 ⊢
  obtain ⟨k, rfl⟩ := Int.eq_ofNat_of_zero_le h2
  have m2 := take_meets k t (by show t.b.length ≤ _; omega)
  rw [Int.toNat_natCast]
  generalize t.take k = y at m2 ⊢
  obtain ⟨l, u⟩ := y
  dsimp only at m2 ⊢
  refine fits_codec_source_text.meets rfl (by simp) fun Q hQ => ?_
  (conv => whnf); repeat' (first | (refine And.intro ?_ ?_; (focus (exact zq3)); (conv => whnf)) | (refine onB_intro (fun hb => ?_) (fun hb => ?_) <;> (try simp only [decide_eq_true_eq, decide_eq_false_iff_not, Bool.not_eq_true', Bool.not_eq_false', Bool.and_eq_true, Bool.and_eq_false_iff, Int.not_le, Int.not_lt, bsz, ByteArray.toList_eq, beq_iff_eq, beq_eq_false_iff_ne, ne_eq] at hb) <;> (try (exfalso; omega)) <;> (try (exfalso; first | contradiction | (simp [ByteArray.toList_eq] at hb; done))) <;> (conv => whnf)) | (refine (hQ _ _ _ ?_).1; (conv => whnf)) | (refine ⟨_, rfl, ?_⟩; (conv => whnf)) | (refine ⟨_, mp_cut _ _ _, ?_⟩; (conv => whnf)) | (refine ⟨_, dbs_cut _ _ _, ?_⟩; (conv => whnf)) | (refine ⟨[_], rfl, ?_⟩; (conv => whnf)) | (refine ⟨[_, _], rfl, ?_⟩; (conv => whnf)) | (refine ⟨[_, _, _], rfl, ?_⟩; (conv => whnf)) | (refine ⟨[_, _, _, _], rfl, ?_⟩; (conv => whnf)) | (apply call_obj (m1) (fun F => by first | exact rfl | exact bob_ren F _ | exact ob_ren F _ _) (fun F => by first | exact rfl | exact bob_ren F _ | exact ob_ren F _ _); (focus (exact zq0)); (focus (exact zq2)); (conv => whnf)) | (apply call_obj (m2) (fun F => by first | exact rfl | exact bob_ren F _ | exact ob_ren F _ _) (fun F => by first | exact rfl | exact bob_ren F _ | exact ob_ren F _ _); (focus (exact zq0)); (focus (exact zq2)); (conv => whnf)) | fail)
  all_goals (refine ret_obj rfl ?_ rfl ?_ (fun F => by first | exact rfl | (simp only [TV.rens, TV.ren, dbs_ren]; rfl) | (simp [TV.rens, TV.ren, dbs_ren, map_ren_p]; done)) (fun F => by first | exact rfl | exact bob_ren F _ | exact ob_ren F _ _); (focus (exact zq0)); (first | rfl | (refine ob2_eq ?_ ?_ <;> (first | rfl | assumption | (simp only [*]; done) | (refine dv_val ?_ ?_ <;> (first | rfl | omega | (simp [pb, List.map_take, List.map_drop, List.take_of_length_le]; done) | (simp [pb, List.map_take, List.map_drop]; omega)))))))
/-- erasureref26.Reader.Text -/
theorem rText_meets (m : Int) (s : Sr) (hs : s.b.length ≤ 70368744177664) : Meets Try.prog F_erasureref26Reader_Text ⟨[.c (.ptr 0 0), vi m], [(0, rob s)], 1, tst (s.text m).1, [(0, rob (s.text m).2)], 1⟩ := by
  have h0 := s.int_err0
  have h1 := s.int_len
  have m1 := rInt_meets s (by show s.b.length ≤ _; omega)
  unfold Sr.text Sr.count
  dsimp only
  generalize s.int = x at m1 h0 h1 ⊢
  obtain ⟨n, t⟩ := x
  dsimp only at m1 h0 h1 ⊢
  by_cases hc : n < 0 ∨ m < n
  · rw [if_pos hc]
    have he : (t.fail 1).e ≠ 0 := by
      unfold Sr.fail
      split
      · simp
      · assumption
    rw [if_neg he]
    have m2 := rfail_meets' t 1
    have e : (t.fail 1).take (0 : Int).toNat = ([], t.fail 1) := by unfold Sr.take; rw [if_neg he]
    dsimp only
    rw [e]
    generalize t.fail 1 = t2 at m2 ⊢
    refine fits_erasureref26Reader_Text.meets rfl (by simp) fun Q hQ => ?_
    (conv => whnf); repeat' (first | (refine And.intro ?_ ?_; (focus (exact zq3)); (conv => whnf)) | (refine onB_intro (fun hb => ?_) (fun hb => ?_) <;> (try simp only [decide_eq_true_eq, decide_eq_false_iff_not, Bool.not_eq_true', Bool.not_eq_false', Bool.and_eq_true, Bool.and_eq_false_iff, Int.not_le, Int.not_lt, bsz, ByteArray.toList_eq, beq_iff_eq, beq_eq_false_iff_ne, ne_eq] at hb) <;> (try (exfalso; omega)) <;> (try (exfalso; first | contradiction | (simp [ByteArray.toList_eq] at hb; done))) <;> (conv => whnf)) | (refine (hQ _ _ _ ?_).1; (conv => whnf)) | (refine ⟨_, rfl, ?_⟩; (conv => whnf)) | (refine ⟨_, mp_cut _ _ _, ?_⟩; (conv => whnf)) | (refine ⟨_, dbs_cut _ _ _, ?_⟩; (conv => whnf)) | (refine ⟨[_], rfl, ?_⟩; (conv => whnf)) | (refine ⟨[_, _], rfl, ?_⟩; (conv => whnf)) | (refine ⟨[_, _, _], rfl, ?_⟩; (conv => whnf)) | (refine ⟨[_, _, _, _], rfl, ?_⟩; (conv => whnf)) | (apply call_obj (m1) (fun F => by first | exact rfl | exact bob_ren F _ | exact ob_ren F _ _) (fun F => by first | exact rfl | exact bob_ren F _ | exact ob_ren F _ _); (focus (exact zq0)); (focus (exact zq2)); (conv => whnf)) | (apply call_obj (m2) (fun F => by first | exact rfl | exact bob_ren F _ | exact ob_ren F _ _) (fun F => by first | exact rfl | exact bob_ren F _ | exact ob_ren F _ _); (focus (exact zq0)); (focus (exact zq2)); (conv => whnf)) | fail)
    all_goals (refine ret_obj rfl ?_ rfl ?_ (fun F => by first | exact rfl | (simp only [TV.rens, TV.ren, dbs_ren]; rfl) | (simp [TV.rens, TV.ren, dbs_ren, map_ren_p]; done)) (fun F => by first | exact rfl | exact bob_ren F _ | exact ob_ren F _ _); (focus (exact zq0)); (first | rfl | (refine ob2_eq ?_ ?_ <;> (first | rfl | assumption | (simp only [*]; done) | (refine dv_val ?_ ?_ <;> (first | rfl | omega | (simp [pb, List.map_take, List.map_drop, List.take_of_length_le]; done) | (simp [pb, List.map_take, List.map_drop]; omega)))))))
  · rw [if_neg hc]
    obtain ⟨k, rfl⟩ := Int.eq_ofNat_of_zero_le (show 0 ≤ n by omega)
    have m2 := rtake_meets k t (by omega)
    have e : (t.take (if t.e = 0 then ((k : Int), t) else (0, t)).1.toNat) = t.take k := by
      by_cases he : t.e = 0
      · rw [if_pos he]; rfl
      · rw [if_neg he]; unfold Sr.take; rw [if_neg he, if_neg he]
    have e2 : (if t.e = 0 then ((k : Int), t) else (0, t)).2 = t := by split <;> rfl
    rw [e2, e]
    generalize t.take k = y at m2 ⊢
    obtain ⟨l, u⟩ := y
    dsimp only at m2 ⊢
    refine fits_erasureref26Reader_Text.meets rfl (by simp) fun Q hQ => ?_
    (conv => whnf); repeat' (first | (refine And.intro ?_ ?_; (focus (exact zq3)); (conv => whnf)) | (refine onB_intro (fun hb => ?_) (fun hb => ?_) <;> (try simp only [decide_eq_true_eq, decide_eq_false_iff_not, Bool.not_eq_true', Bool.not_eq_false', Bool.and_eq_true, Bool.and_eq_false_iff, Int.not_le, Int.not_lt, bsz, ByteArray.toList_eq, beq_iff_eq, beq_eq_false_iff_ne, ne_eq] at hb) <;> (try (exfalso; omega)) <;> (try (exfalso; first | contradiction | (simp [ByteArray.toList_eq] at hb; done))) <;> (conv => whnf)) | (refine (hQ _ _ _ ?_).1; (conv => whnf)) | (refine ⟨_, rfl, ?_⟩; (conv => whnf)) | (refine ⟨_, mp_cut _ _ _, ?_⟩; (conv => whnf)) | (refine ⟨_, dbs_cut _ _ _, ?_⟩; (conv => whnf)) | (refine ⟨[_], rfl, ?_⟩; (conv => whnf)) | (refine ⟨[_, _], rfl, ?_⟩; (conv => whnf)) | (refine ⟨[_, _, _], rfl, ?_⟩; (conv => whnf)) | (refine ⟨[_, _, _, _], rfl, ?_⟩; (conv => whnf)) | (apply call_obj (m1) (fun F => by first | exact rfl | exact bob_ren F _ | exact ob_ren F _ _) (fun F => by first | exact rfl | exact bob_ren F _ | exact ob_ren F _ _); (focus (exact zq0)); (focus (exact zq2)); (conv => whnf)) | (apply call_obj (m2) (fun F => by first | exact rfl | exact bob_ren F _ | exact ob_ren F _ _) (fun F => by first | exact rfl | exact bob_ren F _ | exact ob_ren F _ _); (focus (exact zq0)); (focus (exact zq2)); (conv => whnf)) | fail)
    all_goals (refine ret_obj rfl ?_ rfl ?_ (fun F => by first | exact rfl | (simp only [TV.rens, TV.ren, dbs_ren]; rfl) | (simp [TV.rens, TV.ren, dbs_ren, map_ren_p]; done)) (fun F => by first | exact rfl | exact bob_ren F _ | exact ob_ren F _ _); (focus (exact zq0)); (first | rfl | (refine ob2_eq ?_ ?_ <;> (first | rfl | assumption | (simp only [*]; done) | (refine dv_val ?_ ?_ <;> (first | rfl | omega | (simp [pb, List.map_take, List.map_drop, List.take_of_length_le]; done) | (simp [pb, List.map_take, List.map_drop]; omega)))))))
/-- codec.source.value -/
theorem value_meets (s : Sr) (hs : s.ok) : Meets Try.prog F_codec_source_value ⟨[.c (.ptr 0 0)], [(0, sob s)], 1, .agg s.value.1.enc, [(0, sob s.value.2)], 1⟩ := by
  have hs' : s.b.length ≤ 4611686018427387904 := hs
  unfold Sr.value
  dsimp only
  have m1 := count_meets 2 s hs
  have l1 := s.count_len 2
  generalize s.count 2 = x at m1 l1 ⊢
  obtain ⟨n, t⟩ := x
  dsimp only at m1 l1 ⊢
  have ht : t.ok := by show t.b.length ≤ _; omega
  by_cases h1 : n = 1
  · subst h1
    rw [if_pos rfl]
    have m2 := integer_meets t ht
    have l2 := t.int_len
    generalize t.int = x at m2 l2 ⊢
    obtain ⟨v, u⟩ := x
    dsimp only at m2 l2 ⊢
    by_cases hv : v < -4294967296 ∨ 4294967296 < v
    · rw [if_pos hv]
      have m3 := fail_meets' u 1
      generalize u.fail 1 = w at m3 ⊢
      refine fits_codec_source_value.meets rfl (by simp) fun Q hQ => ?_
      (conv => whnf); repeat' (first | (refine And.intro ?_ ?_; (focus (exact zq3)); (conv => whnf)) | (refine onB_intro (fun hb => ?_) (fun hb => ?_) <;> (try simp only [decide_eq_true_eq, decide_eq_false_iff_not, Bool.not_eq_true', Bool.not_eq_false', Bool.and_eq_true, Bool.and_eq_false_iff, Int.not_le, Int.not_lt, bsz, ByteArray.toList_eq, beq_iff_eq, beq_eq_false_iff_ne, ne_eq] at hb) <;> (try (exfalso; omega)) <;> (try (exfalso; first | contradiction | (simp [ByteArray.toList_eq] at hb; done))) <;> (conv => whnf)) | (refine (hQ _ _ _ ?_).1; (conv => whnf)) | (refine ⟨_, rfl, ?_⟩; (conv => whnf)) | (refine ⟨_, mp_cut _ _ _, ?_⟩; (conv => whnf)) | (refine ⟨_, dbs_cut _ _ _, ?_⟩; (conv => whnf)) | (refine ⟨[_], rfl, ?_⟩; (conv => whnf)) | (refine ⟨[_, _], rfl, ?_⟩; (conv => whnf)) | (refine ⟨[_, _, _], rfl, ?_⟩; (conv => whnf)) | (refine ⟨[_, _, _, _], rfl, ?_⟩; (conv => whnf)) | (apply call_obj (m1) (fun F => by first | exact rfl | exact bob_ren F _ | exact ob_ren F _ _) (fun F => by first | exact rfl | exact bob_ren F _ | exact ob_ren F _ _); (focus (exact zq0)); (focus (exact zq2)); (conv => whnf)) | (apply call_obj (m2) (fun F => by first | exact rfl | exact bob_ren F _ | exact ob_ren F _ _) (fun F => by first | exact rfl | exact bob_ren F _ | exact ob_ren F _ _); (focus (exact zq0)); (focus (exact zq2)); (conv => whnf)) | (apply call_obj (m3) (fun F => by first | exact rfl | exact bob_ren F _ | exact ob_ren F _ _) (fun F => by first | exact rfl | exact bob_ren F _ | exact ob_ren F _ _); (focus (exact zq0)); (focus (exact zq2)); (conv => whnf)) | fail)
      all_goals (refine ret_obj rfl ?_ rfl ?_ (fun F => by first | exact rfl | (simp only [TV.rens, TV.ren, dbs_ren]; rfl) | (simp [TV.rens, TV.ren, dbs_ren, map_ren_p]; done)) (fun F => by first | exact rfl | exact bob_ren F _ | exact ob_ren F _ _); (focus (exact zq0)); (first | rfl | (refine ob2_eq ?_ ?_ <;> (first | rfl | assumption | (simp only [*]; done) | (refine dv_val ?_ ?_ <;> (first | rfl | omega | (simp [pb, List.map_take, List.map_drop, List.take_of_length_le]; done) | (simp [pb, List.map_take, List.map_drop]; omega)))))))
    · rw [if_neg hv]
      refine fits_codec_source_value.meets rfl (by simp) fun Q hQ => ?_
      (conv => whnf); repeat' (first | (refine And.intro ?_ ?_; (focus (exact zq3)); (conv => whnf)) | (refine onB_intro (fun hb => ?_) (fun hb => ?_) <;> (try simp only [decide_eq_true_eq, decide_eq_false_iff_not, Bool.not_eq_true', Bool.not_eq_false', Bool.and_eq_true, Bool.and_eq_false_iff, Int.not_le, Int.not_lt, bsz, ByteArray.toList_eq, beq_iff_eq, beq_eq_false_iff_ne, ne_eq] at hb) <;> (try (exfalso; omega)) <;> (try (exfalso; first | contradiction | (simp [ByteArray.toList_eq] at hb; done))) <;> (conv => whnf)) | (refine (hQ _ _ _ ?_).1; (conv => whnf)) | (refine ⟨_, rfl, ?_⟩; (conv => whnf)) | (refine ⟨_, mp_cut _ _ _, ?_⟩; (conv => whnf)) | (refine ⟨_, dbs_cut _ _ _, ?_⟩; (conv => whnf)) | (refine ⟨[_], rfl, ?_⟩; (conv => whnf)) | (refine ⟨[_, _], rfl, ?_⟩; (conv => whnf)) | (refine ⟨[_, _, _], rfl, ?_⟩; (conv => whnf)) | (refine ⟨[_, _, _, _], rfl, ?_⟩; (conv => whnf)) | (apply call_obj (m1) (fun F => by first | exact rfl | exact bob_ren F _ | exact ob_ren F _ _) (fun F => by first | exact rfl | exact bob_ren F _ | exact ob_ren F _ _); (focus (exact zq0)); (focus (exact zq2)); (conv => whnf)) | (apply call_obj (m2) (fun F => by first | exact rfl | exact bob_ren F _ | exact ob_ren F _ _) (fun F => by first | exact rfl | exact bob_ren F _ | exact ob_ren F _ _); (focus (exact zq0)); (focus (exact zq2)); (conv => whnf)) | fail)
      all_goals (refine ret_obj rfl ?_ rfl ?_ (fun F => by first | exact rfl | (simp only [TV.rens, TV.ren, dbs_ren]; rfl) | (simp [TV.rens, TV.ren, dbs_ren, map_ren_p]; done)) (fun F => by first | exact rfl | exact bob_ren F _ | exact ob_ren F _ _); (focus (exact zq0)); (first | rfl | (refine ob2_eq ?_ ?_ <;> (first | rfl | assumption | (simp only [*]; done) | (refine dv_val ?_ ?_ <;> (first | rfl | omega | (simp [pb, List.map_take, List.map_drop, List.take_of_length_le]; done) | (simp [pb, List.map_take, List.map_drop]; omega)))))))
  · rw [if_neg h1]
    by_cases h2 : n = 2
    · subst h2
      rw [if_pos rfl]
      have m2 := text_meets 32 t ht
      have l2 := t.text_len 32
      generalize t.text 32 = x at m2 l2 ⊢
      obtain ⟨v, u⟩ := x
      dsimp only at m2 l2 ⊢
      refine fits_codec_source_value.meets rfl (by simp) fun Q hQ => ?_
      (conv => whnf); repeat' (first | (refine And.intro ?_ ?_; (focus (exact zq3)); (conv => whnf)) | (refine onB_intro (fun hb => ?_) (fun hb => ?_) <;> (try simp only [decide_eq_true_eq, decide_eq_false_iff_not, Bool.not_eq_true', Bool.not_eq_false', Bool.and_eq_true, Bool.and_eq_false_iff, Int.not_le, Int.not_lt, bsz, ByteArray.toList_eq, beq_iff_eq, beq_eq_false_iff_ne, ne_eq] at hb) <;> (try (exfalso; omega)) <;> (try (exfalso; first | contradiction | (simp [ByteArray.toList_eq] at hb; done))) <;> (conv => whnf)) | (refine (hQ _ _ _ ?_).1; (conv => whnf)) | (refine ⟨_, rfl, ?_⟩; (conv => whnf)) | (refine ⟨_, mp_cut _ _ _, ?_⟩; (conv => whnf)) | (refine ⟨_, dbs_cut _ _ _, ?_⟩; (conv => whnf)) | (refine ⟨[_], rfl, ?_⟩; (conv => whnf)) | (refine ⟨[_, _], rfl, ?_⟩; (conv => whnf)) | (refine ⟨[_, _, _], rfl, ?_⟩; (conv => whnf)) | (refine ⟨[_, _, _, _], rfl, ?_⟩; (conv => whnf)) | (apply call_obj (m1) (fun F => by first | exact rfl | exact bob_ren F _ | exact ob_ren F _ _) (fun F => by first | exact rfl | exact bob_ren F _ | exact ob_ren F _ _); (focus (exact zq0)); (focus (exact zq2)); (conv => whnf)) | (apply call_obj (m2) (fun F => by first | exact rfl | exact bob_ren F _ | exact ob_ren F _ _) (fun F => by first | exact rfl | exact bob_ren F _ | exact ob_ren F _ _); (focus (exact zq0)); (focus (exact zq2)); (conv => whnf)) | fail)
      all_goals (refine ret_obj rfl ?_ rfl ?_ (fun F => by first | exact rfl | (simp only [TV.rens, TV.ren, dbs_ren]; rfl) | (simp [TV.rens, TV.ren, dbs_ren, map_ren_p]; done)) (fun F => by first | exact rfl | exact bob_ren F _ | exact ob_ren F _ _); (focus (exact zq0)); (first | rfl | (refine ob2_eq ?_ ?_ <;> (first | rfl | assumption | (simp only [*]; done) | (refine dv_val ?_ ?_ <;> (first | rfl | omega | (simp [pb, List.map_take, List.map_drop, List.take_of_length_le]; done) | (simp [pb, List.map_take, List.map_drop]; omega)))))))
    · rw [if_neg h2]
      refine fits_codec_source_value.meets rfl (by simp) fun Q hQ => ?_
      (conv => whnf); repeat' (first | (refine And.intro ?_ ?_; (focus (exact zq3)); (conv => whnf)) | (refine onB_intro (fun hb => ?_) (fun hb => ?_) <;> (try simp only [decide_eq_true_eq, decide_eq_false_iff_not, Bool.not_eq_true', Bool.not_eq_false', Bool.and_eq_true, Bool.and_eq_false_iff, Int.not_le, Int.not_lt, bsz, ByteArray.toList_eq, beq_iff_eq, beq_eq_false_iff_ne, ne_eq] at hb) <;> (try (exfalso; omega)) <;> (try (exfalso; first | contradiction | (simp [ByteArray.toList_eq] at hb; done))) <;> (conv => whnf)) | (refine (hQ _ _ _ ?_).1; (conv => whnf)) | (refine ⟨_, rfl, ?_⟩; (conv => whnf)) | (refine ⟨_, mp_cut _ _ _, ?_⟩; (conv => whnf)) | (refine ⟨_, dbs_cut _ _ _, ?_⟩; (conv => whnf)) | (refine ⟨[_], rfl, ?_⟩; (conv => whnf)) | (refine ⟨[_, _], rfl, ?_⟩; (conv => whnf)) | (refine ⟨[_, _, _], rfl, ?_⟩; (conv => whnf)) | (refine ⟨[_, _, _, _], rfl, ?_⟩; (conv => whnf)) | (apply call_obj (m1) (fun F => by first | exact rfl | exact bob_ren F _ | exact ob_ren F _ _) (fun F => by first | exact rfl | exact bob_ren F _ | exact ob_ren F _ _); (focus (exact zq0)); (focus (exact zq2)); (conv => whnf)) | fail)
      all_goals (refine ret_obj rfl ?_ rfl ?_ (fun F => by first | exact rfl | (simp only [TV.rens, TV.ren, dbs_ren]; rfl) | (simp [TV.rens, TV.ren, dbs_ren, map_ren_p]; done)) (fun F => by first | exact rfl | exact bob_ren F _ | exact ob_ren F _ _); (focus (exact zq0)); (first | rfl | (refine ob2_eq ?_ ?_ <;> (first | rfl | assumption | (simp only [*]; done) | (refine dv_val ?_ ?_ <;> (first | rfl | omega | (simp [pb, List.map_take, List.map_drop, List.take_of_length_le]; done) | (simp [pb, List.map_take, List.map_drop]; omega)))))))
end Go.Proofs.Ytjieenfbfckafaa.Am

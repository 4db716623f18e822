/- What the reader of integers of the specification returns, for all bytes. -/
import Derived.Test.YtjieenfbfckafaaCodecRead1
namespace Go.Proofs.Ytjieenfbfckafaa.Am
open Go
set_option linter.unusedVariables false
set_option linter.unusedSimpArgs false
set_option maxRecDepth 100000
set_option maxHeartbeats 1000000

theorem next_u' {k u : Nat} {c : UInt8} (hk : k ≤ 9) (h9 : k = 9 → c.toNat ≤ 1) (hu : u < 2 ^ (7 * k)) :
    bits .or .u64 (u : Int) (IntKind.u64.wrap (IntKind.u64.wrap (Int.tmod (c.toNat : Int) 128) * 2 ^ min (Int.toNat (7 * (k : Int))) IntKind.u64.bits)) = ((u + c.toNat % 128 * 2 ^ (7 * k) : Nat) : Int) := by
  have hc : c.toNat < 256 := c.toNat_lt
  obtain ⟨h1, h2, _⟩ := next_bound hk h9 hu
  have e1 : min (Int.toNat (7 * (k : Int))) IntKind.u64.bits = 7 * k := by
    show min _ 64 = _
    omega
  rw [Int.tmod_eq_emod_of_nonneg (by omega), e1, wrap_u64_of (n := (c.toNat : Int) % 128) (by omega) (by omega)]
  have e2 : ((c.toNat : Int) % 128) * 2 ^ (7 * k) = ((c.toNat % 128 * 2 ^ (7 * k) : Nat) : Int) := by
    rw [Int.natCast_mul, Int.natCast_pow]; rfl
  have h1' : ((c.toNat % 128 * 2 ^ (7 * k) : Nat) : Int) < 18446744073709551616 := by
    have h := Int.ofNat_lt.2 h1
    rwa [show ((2 ^ 64 : Nat) : Int) = 18446744073709551616 from rfl] at h
  rw [e2, wrap_u64_of (Int.natCast_nonneg _) h1']
  exact or_above (by omega) hu h1
theorem unzz_neg' {u : Nat} (hu : u < 2 ^ 64) (h : u % 2 = 1) : IntKind.i64.wrap (bits .xor .u64 (if IntKind.u64.signed = true then -1 else IntKind.u64.max) (Int.fdiv (u : Int) (2 ^ min (Int.toNat 1) IntKind.u64.bits))) = unzz u := by
  rw [show (if IntKind.u64.signed = true then -1 else IntKind.u64.max) = (18446744073709551615 : Int) by decide, show (2 : Int) ^ min (Int.toNat 1) IntKind.u64.bits = 2 by decide, Int.fdiv_eq_ediv_of_nonneg _ (by decide), xor_u64 (by omega) (by omega), IntKind.wrap_i64]
  unfold unzz; rw [if_pos h]; omega
/-- erasureref26.Reader.Int -/
theorem rInt_meets (s : Sr) (hs : s.ok) : Meets Try.prog F_erasureref26Reader_Int ⟨[.c (.ptr 0 0)], [(0, rob s)], 1, vi s.int.1, [(0, rob s.int.2)], 1⟩ := by
  have hs : s.b.length ≤ 4611686018427387904 := hs
  by_cases he : s.e = 0
  · refine fits_erasureref26Reader_Int.meets rfl (by simp) fun Q hQ => ?_
    (conv => whnf); repeat' (first | (refine And.intro (by first | omega | (simp only [List.length_append]; omega) | (simp [pb]; done) | (simp [pb]; omega) | (simp [zeros_u8, pb]; done) | (simp [zeros_u8, pb]; omega) | (simp [ByteArray.size]; omega) | exact Nat.le_of_ble_eq_true rfl | exact u64_nonneg _ | kernel_rfl) ?_; (conv => whnf)) | (refine onB_intro (fun hb => ?_) (fun hb => ?_) <;> (try simp only [decide_eq_true_eq, decide_eq_false_iff_not, Bool.not_eq_true', Bool.not_eq_false', Bool.and_eq_true, Bool.and_eq_false_iff, Int.not_le, Int.not_lt, bsz, ByteArray.toList_eq, beq_iff_eq, beq_eq_false_iff_ne, ne_eq] at hb) <;> (try (exfalso; omega)) <;> (try (exfalso; first | contradiction | (simp [ByteArray.toList_eq] at hb; done))) <;> (conv => whnf)) | (refine (hQ _ _ _ ?_).1; (conv => whnf)) | (refine ⟨_, rfl, ?_⟩; (conv => whnf)) | (refine ⟨_, mp_cut _ _ _, ?_⟩; (conv => whnf)) | (refine ⟨_, dbs_cut _ _ _, ?_⟩; (conv => whnf)) | (refine ⟨[_], rfl, ?_⟩; (conv => whnf)) | (refine ⟨[_, _], rfl, ?_⟩; (conv => whnf)) | (refine ⟨[_, _, _], rfl, ?_⟩; (conv => whnf)) | (refine ⟨[_, _, _, _], rfl, ?_⟩; (conv => whnf)) | fail)
    refine loop_fam (ι := Nat × Nat) (fun i => ⟨[(0, .c (.ptr 0 0)), (3, .c (.p (.v (.int .u64 i.2)))), (4, vi i.1)], [(0, rob s)], 1⟩) (fun i => 10 - i.1) (fun i => i.1 ≤ 9 ∧ i.1 ≤ s.b.length ∧ i.2 < 2 ^ (7 * i.1) ∧ decU i.1 i.2 (s.b.drop i.1) = decU 0 0 s.b) (0, 0)
      (wkn [] rfl rfl ⟨Sub.refl _, Sub.refl _, Sub.refl _, trivial⟩ ⟨rfl, trivial⟩) ⟨by omega, by omega, by decide, rfl⟩ ?_
    rintro ⟨k, u⟩ ⟨hk, hkl, hu, hdec⟩ K hK
    simp only at hk hkl hu hdec
    cases hd : s.b.drop k with
    | nil =>
      have hle : s.b.length ≤ k := List.drop_eq_nil_iff.1 hd
      rw [hd] at hdec
      have hint := Sr.int_err he hdec.symm
      have hfe : (s.fail 100).e = 100 := by simp [Sr.fail, he]
      (conv => whnf); repeat' (first | (refine And.intro (by first | omega | (simp only [List.length_append]; omega) | (simp [pb]; done) | (simp [pb]; omega) | (simp [zeros_u8, pb]; done) | (simp [zeros_u8, pb]; omega) | (simp [ByteArray.size]; omega) | exact Nat.le_of_ble_eq_true rfl | exact u64_nonneg _ | kernel_rfl) ?_; (conv => whnf)) | (refine onB_intro (fun hb => ?_) (fun hb => ?_) <;> (try simp only [decide_eq_true_eq, decide_eq_false_iff_not, Bool.not_eq_true', Bool.not_eq_false', Bool.and_eq_true, Bool.and_eq_false_iff, Int.not_le, Int.not_lt, bsz, ByteArray.toList_eq, beq_iff_eq, beq_eq_false_iff_ne, ne_eq] at hb) <;> (try (exfalso; omega)) <;> (try (exfalso; first | contradiction | (simp [ByteArray.toList_eq] at hb; done))) <;> (conv => whnf)) | (refine (hQ _ _ _ ?_).1; (conv => whnf)) | (refine ⟨_, rfl, ?_⟩; (conv => whnf)) | (refine ⟨_, mp_cut _ _ _, ?_⟩; (conv => whnf)) | (refine ⟨_, dbs_cut _ _ _, ?_⟩; (conv => whnf)) | (refine ⟨[_], rfl, ?_⟩; (conv => whnf)) | (refine ⟨[_, _], rfl, ?_⟩; (conv => whnf)) | (refine ⟨[_, _, _], rfl, ?_⟩; (conv => whnf)) | (refine ⟨[_, _, _, _], rfl, ?_⟩; (conv => whnf)) | (apply call_obj (rfail_meets' s 100) (fun F => by first | exact rfl | exact bob_ren F _ | exact ob_ren F _ _) (fun F => by first | exact rfl | exact bob_ren F _ | exact ob_ren F _ _); (focus ((repeat' (first | exact trivial | exact Sub.refl _ | exact sub_nil | exact Or.inl rfl | exact Or.inr ⟨rfl, rfl⟩ | (refine sub_ref ?_; (first | omega | (simp; done) | (simp; omega))) | (refine sub_int ?_; (first | omega | rfl | (simp [bsz]; done))) | refine sub_tup ?_ | exact sub_agg_dbs_r | exact sub_agg_take_r rfl (by first | assumption | omega) | (refine sub_agg_take rfl ?_; (first | ((try rw [dbs_length]); assumption) | ((try rw [dbs_length]); omega))) | refine sub_agg ?_ | (refine sub_val ?_ ?_ <;> (first | omega | (simp [pb, List.map_take, List.map_drop]; done) | (simp [pb, List.map_take, List.map_drop]; omega) | (simp [pb, List.take_of_length_le]; done))) | (refine or_val ?_ ?_ <;> (first | omega | (simp [pb, List.map_take, List.map_drop]; done) | (simp [pb, List.map_take, List.map_drop]; omega) | (simp [pb, List.take_of_length_le]; done))) | refine And.intro ?_ ?_)); done)); (focus (first | exact rfl | exact hp_eq rfl (dbs_app _ _ _ rfl) | exact hp_eq rfl (dbs_appo _ _ _ _ rfl rfl) | exact hp_eq rfl (by simp only [bob, ← List.length_append, dbs_appo', dbs_app', bsz]) | exact hp_eq rfl (by simp [dbs, pb]))); (conv => whnf)) | fail)
      all_goals rw [hint]
      all_goals exact ret_obj rfl (Sub.refl _) rfl (by simp [Sr.fail, he, decU]) (fun F => rfl) (fun F => rfl)
    | cons c r =>
      have hc : s.b[k]? = some c := by have := congrArg List.head? hd; rwa [List.head?_drop] at this
      have hlt : k < s.b.length := (List.getElem?_eq_some_iff.1 hc).1
      have hr : r = s.b.drop (k + 1) := by have := congrArg List.tail hd; rw [List.tail_drop] at this; exact this.symm
      have hcb : c.toNat < 256 := c.toNat_lt
      rw [hd] at hdec
      by_cases hbad : (k = 9 ∧ 1 < c.toNat) ∨ (0 < k ∧ c.toNat = 0)
      · rw [decU_bad hbad] at hdec
        have hint := Sr.int_err he hdec.symm
        have hfe : (s.fail 1).e = 1 := by simp [Sr.fail, he]
        (conv => whnf); repeat' (first | (refine And.intro (by first | omega | (simp only [List.length_append]; omega) | (simp [pb]; done) | (simp [pb]; omega) | (simp [zeros_u8, pb]; done) | (simp [zeros_u8, pb]; omega) | (simp [ByteArray.size]; omega) | exact Nat.le_of_ble_eq_true rfl | exact u64_nonneg _ | kernel_rfl) ?_; (conv => whnf)) | (refine onB_intro (fun hb => ?_) (fun hb => ?_) <;> (try simp only [decide_eq_true_eq, decide_eq_false_iff_not, Bool.not_eq_true', Bool.not_eq_false', Bool.and_eq_true, Bool.and_eq_false_iff, Int.not_le, Int.not_lt, bsz, ByteArray.toList_eq, beq_iff_eq, beq_eq_false_iff_ne, ne_eq] at hb) <;> (try (exfalso; omega)) <;> (try (exfalso; first | contradiction | (simp [ByteArray.toList_eq] at hb; done))) <;> (conv => whnf)) | (refine (hQ _ _ _ ?_).1; (conv => whnf)) | (refine ⟨_, rfl, ?_⟩; (conv => whnf)) | (refine ⟨_, mp_cut _ _ _, ?_⟩; (conv => whnf)) | (refine ⟨_, dbs_cut _ _ _, ?_⟩; (conv => whnf)) | (refine ⟨[_], rfl, ?_⟩; (conv => whnf)) | (refine ⟨[_, _], rfl, ?_⟩; (conv => whnf)) | (refine ⟨[_, _, _], rfl, ?_⟩; (conv => whnf)) | (refine ⟨[_, _, _, _], rfl, ?_⟩; (conv => whnf)) | (apply call_obj (rfail_meets' s 1) (fun F => by first | exact rfl | exact bob_ren F _ | exact ob_ren F _ _) (fun F => by first | exact rfl | exact bob_ren F _ | exact ob_ren F _ _); (focus ((repeat' (first | exact trivial | exact Sub.refl _ | exact sub_nil | exact Or.inl rfl | exact Or.inr ⟨rfl, rfl⟩ | (refine sub_ref ?_; (first | omega | (simp; done) | (simp; omega))) | (refine sub_int ?_; (first | omega | rfl | (simp [bsz]; done))) | refine sub_tup ?_ | exact sub_agg_dbs_r | exact sub_agg_take_r rfl (by first | assumption | omega) | (refine sub_agg_take rfl ?_; (first | ((try rw [dbs_length]); assumption) | ((try rw [dbs_length]); omega))) | refine sub_agg ?_ | (refine sub_val ?_ ?_ <;> (first | omega | (simp [pb, List.map_take, List.map_drop]; done) | (simp [pb, List.map_take, List.map_drop]; omega) | (simp [pb, List.take_of_length_le]; done))) | (refine or_val ?_ ?_ <;> (first | omega | (simp [pb, List.map_take, List.map_drop]; done) | (simp [pb, List.map_take, List.map_drop]; omega) | (simp [pb, List.take_of_length_le]; done))) | refine And.intro ?_ ?_)); done)); (focus (first | exact rfl | exact hp_eq rfl (dbs_app _ _ _ rfl) | exact hp_eq rfl (dbs_appo _ _ _ _ rfl rfl) | exact hp_eq rfl (by simp only [bob, ← List.length_append, dbs_appo', dbs_app', bsz]) | exact hp_eq rfl (by simp [dbs, pb]))); (conv => whnf)) | (simp only [elem_pb hc]; (conv => whnf)) | fail)
        all_goals rw [hint]
        all_goals exact ret_obj rfl (Sub.refl _) rfl (by simp [Sr.fail, he]) (fun F => rfl) (fun F => rfl)
      · have h9 : k = 9 → c.toNat ≤ 1 := by omega
        obtain ⟨n1, n2, n3⟩ := next_bound hk h9 hu
        have hU : ((u + c.toNat % 128 * 2 ^ (7 * k) : Nat) : Int) < 18446744073709551616 := by
          have h := Int.ofNat_lt.2 n2
          rwa [show ((2 ^ 64 : Nat) : Int) = 18446744073709551616 from rfl] at h
        by_cases hlast : c.toNat < 128
        · rw [decU_last hbad hlast] at hdec
          have hint := Sr.int_ok he hdec.symm
          have n2' : id (u + c.toNat % 128 * 2 ^ (7 * k) < 2 ^ 64) := n2
          clear n1 n2 n3 hU hdec
          (conv => whnf); repeat' (first | (simp only [next_u' hk h9 hu]; (conv => whnf)) | (refine And.intro (by first | omega | (simp only [List.length_append]; omega) | (simp [pb]; done) | (simp [pb]; omega) | (simp [zeros_u8, pb]; done) | (simp [zeros_u8, pb]; omega) | (simp [ByteArray.size]; omega) | exact Nat.le_of_ble_eq_true rfl | exact u64_nonneg _ | kernel_rfl) ?_; (conv => whnf)) | (refine onB_intro (fun hb => ?_) (fun hb => ?_) <;> (try simp only [decide_eq_true_eq, decide_eq_false_iff_not, Bool.not_eq_true', Bool.not_eq_false', Bool.and_eq_true, Bool.and_eq_false_iff, Int.not_le, Int.not_lt, bsz, ByteArray.toList_eq, beq_iff_eq, beq_eq_false_iff_ne, ne_eq] at hb) <;> (try (exfalso; omega)) <;> (try (exfalso; first | contradiction | (simp [ByteArray.toList_eq] at hb; done))) <;> (conv => whnf)) | (refine (hQ _ _ _ ?_).1; (conv => whnf)) | (refine ⟨_, rfl, ?_⟩; (conv => whnf)) | (refine ⟨_, mp_cut _ _ _, ?_⟩; (conv => whnf)) | (refine ⟨_, dbs_cut _ _ _, ?_⟩; (conv => whnf)) | (refine ⟨[_], rfl, ?_⟩; (conv => whnf)) | (refine ⟨[_, _], rfl, ?_⟩; (conv => whnf)) | (refine ⟨[_, _, _], rfl, ?_⟩; (conv => whnf)) | (refine ⟨[_, _, _, _], rfl, ?_⟩; (conv => whnf)) | (simp only [elem_pb hc]; (conv => whnf)) | fail)
          all_goals
            rw [hint]
            clear hint hu
            generalize u + c.toNat % 128 * 2 ^ (7 * k) = U at hb n2' ⊢
            have n2 : U < 2 ^ 64 := n2'
            rw [Int.tmod_eq_emod_of_nonneg (Int.natCast_nonneg _)] at hb
            first
              | exact ret_obj rfl (sub_int (unzz_neg' n2 (by omega))) rfl (ob2_eq (dv_val (by rw [hr]; simp; omega) (by rw [hr]; exact pb_rest _ k _ _ (by omega) (by omega))) (by rw [he])) (fun F => rfl) (fun F => rfl)
              | exact ret_obj rfl (sub_int (unzz_pos n2 (by omega))) rfl (ob2_eq (dv_val (by rw [hr]; simp; omega) (by rw [hr]; exact pb_rest _ k _ _ (by omega) (by omega))) (by rw [he])) (fun F => rfl) (fun F => rfl)
        · rw [decU_step hbad hlast] at hdec
          have hk9 : k ≠ 9 := by omega
          have h3 : id (u + c.toNat % 128 * 2 ^ (7 * k) < 2 ^ (7 * (k + 1))) := n3 (by omega)
          clear n1 n2 n3 hU
          (conv => whnf); repeat' (first | (refine And.intro (by first | omega | (simp only [List.length_append]; omega) | (simp [pb]; done) | (simp [pb]; omega) | (simp [zeros_u8, pb]; done) | (simp [zeros_u8, pb]; omega) | (simp [ByteArray.size]; omega) | exact Nat.le_of_ble_eq_true rfl | exact u64_nonneg _ | kernel_rfl) ?_; (conv => whnf)) | (refine onB_intro (fun hb => ?_) (fun hb => ?_) <;> (try simp only [decide_eq_true_eq, decide_eq_false_iff_not, Bool.not_eq_true', Bool.not_eq_false', Bool.and_eq_true, Bool.and_eq_false_iff, Int.not_le, Int.not_lt, bsz, ByteArray.toList_eq, beq_iff_eq, beq_eq_false_iff_ne, ne_eq] at hb) <;> (try (exfalso; omega)) <;> (try (exfalso; first | contradiction | (simp [ByteArray.toList_eq] at hb; done))) <;> (conv => whnf)) | (refine (hQ _ _ _ ?_).1; (conv => whnf)) | (refine ⟨_, rfl, ?_⟩; (conv => whnf)) | (refine ⟨_, mp_cut _ _ _, ?_⟩; (conv => whnf)) | (refine ⟨_, dbs_cut _ _ _, ?_⟩; (conv => whnf)) | (refine ⟨[_], rfl, ?_⟩; (conv => whnf)) | (refine ⟨[_, _], rfl, ?_⟩; (conv => whnf)) | (refine ⟨[_, _, _], rfl, ?_⟩; (conv => whnf)) | (refine ⟨[_, _, _, _], rfl, ?_⟩; (conv => whnf)) | (simp only [elem_pb hc]; (conv => whnf)) | fail)
          all_goals refine hK _ _ _ (k + 1, u + c.toNat % 128 * 2 ^ (7 * k)) ⟨by dsimp only; omega, by dsimp only; omega, h3, by dsimp only; rw [← hr]; exact hdec⟩ (by dsimp only; omega) (wkn [] rfl rfl ⟨Sub.refl _, sub_int (next_u' hk h9 hu), sub_int (by dsimp only; omega), trivial⟩ ⟨rfl, trivial⟩)
  · have hint : s.int = (0, s) := by unfold Sr.int; rw [if_neg he]
    rw [hint]
    refine fits_erasureref26Reader_Int.meets rfl (by simp) fun Q hQ => ?_
    (conv => whnf); repeat' (first | (refine And.intro (by first | omega | (simp only [List.length_append]; omega) | (simp [pb]; done) | (simp [pb]; omega) | (simp [zeros_u8, pb]; done) | (simp [zeros_u8, pb]; omega) | (simp [ByteArray.size]; omega) | exact Nat.le_of_ble_eq_true rfl | exact u64_nonneg _ | kernel_rfl) ?_; (conv => whnf)) | (refine onB_intro (fun hb => ?_) (fun hb => ?_) <;> (try simp only [decide_eq_true_eq, decide_eq_false_iff_not, Bool.not_eq_true', Bool.not_eq_false', Bool.and_eq_true, Bool.and_eq_false_iff, Int.not_le, Int.not_lt, bsz, ByteArray.toList_eq, beq_iff_eq, beq_eq_false_iff_ne, ne_eq] at hb) <;> (try (exfalso; omega)) <;> (try (exfalso; first | contradiction | (simp [ByteArray.toList_eq] at hb; done))) <;> (conv => whnf)) | (refine (hQ _ _ _ ?_).1; (conv => whnf)) | (refine ⟨_, rfl, ?_⟩; (conv => whnf)) | (refine ⟨_, mp_cut _ _ _, ?_⟩; (conv => whnf)) | (refine ⟨_, dbs_cut _ _ _, ?_⟩; (conv => whnf)) | (refine ⟨[_], rfl, ?_⟩; (conv => whnf)) | (refine ⟨[_, _], rfl, ?_⟩; (conv => whnf)) | (refine ⟨[_, _, _], rfl, ?_⟩; (conv => whnf)) | (refine ⟨[_, _, _, _], rfl, ?_⟩; (conv => whnf)) | fail)
    refine loop_fam (ι := Unit) (fun i => ⟨[(0, .c (.ptr 0 0)), (3, .c (.p (.v (.int .u64 0)))), (4, vi 0)], [(0, rob s)], 1⟩) (fun i => 0) (fun i => True) ()
      (wkn [] rfl rfl ⟨Sub.refl _, Sub.refl _, Sub.refl _, trivial⟩ ⟨rfl, trivial⟩) trivial ?_
    intro i _ K hK
    (conv => whnf); repeat' (first | (refine And.intro (by first | omega | (simp only [List.length_append]; omega) | (simp [pb]; done) | (simp [pb]; omega) | (simp [zeros_u8, pb]; done) | (simp [zeros_u8, pb]; omega) | (simp [ByteArray.size]; omega) | exact Nat.le_of_ble_eq_true rfl | exact u64_nonneg _ | kernel_rfl) ?_; (conv => whnf)) | (refine onB_intro (fun hb => ?_) (fun hb => ?_) <;> (try simp only [decide_eq_true_eq, decide_eq_false_iff_not, Bool.not_eq_true', Bool.not_eq_false', Bool.and_eq_true, Bool.and_eq_false_iff, Int.not_le, Int.not_lt, bsz, ByteArray.toList_eq, beq_iff_eq, beq_eq_false_iff_ne, ne_eq] at hb) <;> (try (exfalso; omega)) <;> (try (exfalso; first | contradiction | (simp [ByteArray.toList_eq] at hb; done))) <;> (conv => whnf)) | (refine (hQ _ _ _ ?_).1; (conv => whnf)) | (refine ⟨_, rfl, ?_⟩; (conv => whnf)) | (refine ⟨_, mp_cut _ _ _, ?_⟩; (conv => whnf)) | (refine ⟨_, dbs_cut _ _ _, ?_⟩; (conv => whnf)) | (refine ⟨[_], rfl, ?_⟩; (conv => whnf)) | (refine ⟨[_, _], rfl, ?_⟩; (conv => whnf)) | (refine ⟨[_, _, _], rfl, ?_⟩; (conv => whnf)) | (refine ⟨[_, _, _, _], rfl, ?_⟩; (conv => whnf)) | fail)
    all_goals exact ret_obj rfl (Sub.refl _) rfl rfl (fun F => rfl) (fun F => rfl)
end Go.Proofs.Ytjieenfbfckafaa.Am

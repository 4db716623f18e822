/- What the claim of CodecEntries reaches, part 2. -/
import Derived.Test.YtjieenfbfckafaaWCodecEntries1
namespace Go.Proofs.Ytjieenfbfckafaa.Am
open Go
set_option linter.unusedVariables false
set_option linter.unusedSimpArgs false
set_option maxRecDepth 100000
set_option maxHeartbeats 1000000
/-- codec.source.number -/
theorem number_meets (s : Sr) (hs : s.ok) : Meets Try.prog F_codec_source_number ⟨[.c (.ptr 0 0)], [(0, sob s)], 1, vi s.int.1, [(0, sob s.int.2)], 1⟩ := by
  have m := integer_meets s hs
  generalize s.int = x at m ⊢
  obtain ⟨n, t⟩ := x
  refine fits_codec_source_number.meets rfl (by simp) fun Q hQ => ?_
  (conv => whnf); repeat' (first | (refine And.intro ?_ ?_; (focus (first | omega | (dsimp only; omega) | (simp only [List.length_append]; omega) | (simp [pb]; done) | (simp [pb]; omega) | (simp [zeros_u8, pb]; done) | (simp [zeros_u8, pb]; omega) | (simp [ByteArray.size]; omega) | exact Nat.le_of_ble_eq_true rfl | exact u64_nonneg _ | (show chkDraw _ _ = true; kernel_rfl) | (decide; done))); (conv => whnf)) | (refine onB_intro (fun hb => ?_) (fun hb => ?_) <;> (try simp only [decide_eq_true_eq, decide_eq_false_iff_not, Bool.not_eq_true', Bool.not_eq_false', Bool.and_eq_true, Bool.and_eq_false_iff, Int.not_le, Int.not_lt, bsz, ByteArray.toList_eq, beq_iff_eq, beq_eq_false_iff_ne, ne_eq] at hb) <;> (try (exfalso; omega)) <;> (try (exfalso; first | contradiction | (simp [ByteArray.toList_eq] at hb; done))) <;> (conv => whnf)) | (refine (hQ _ _ _ ?_).1; (conv => whnf)) | (refine ⟨_, rfl, ?_⟩; (conv => whnf)) | (refine ⟨_, mp_cut _ _ _, ?_⟩; (conv => whnf)) | (refine ⟨_, dbs_cut _ _ _, ?_⟩; (conv => whnf)) | (refine ⟨[_], rfl, ?_⟩; (conv => whnf)) | (refine ⟨[_, _], rfl, ?_⟩; (conv => whnf)) | (refine ⟨[_, _, _], rfl, ?_⟩; (conv => whnf)) | (refine ⟨[_, _, _, _], rfl, ?_⟩; (conv => whnf)) | (apply call_obj (m) (fun F => by first | exact rfl | exact bob_ren F _ | exact ob_ren F _ _) (fun F => by first | exact rfl | exact bob_ren F _ | exact ob_ren F _ _); (focus ((repeat' (first | exact trivial | exact Sub.refl _ | exact sub_nil | exact Or.inl rfl | exact Or.inr ⟨rfl, rfl⟩ | (refine sub_ref ?_; (first | omega | (simp; done) | (simp; omega))) | (refine sub_int ?_; (first | omega | rfl | (simp [bsz]; done))) | refine sub_tup ?_ | exact sub_agg_dbs_r | exact sub_agg_take_r rfl (by first | assumption | omega) | (refine sub_agg_take rfl ?_; (first | ((try rw [dbs_length]); assumption) | ((try rw [dbs_length]); omega))) | refine sub_agg ?_ | (refine sub_val ?_ ?_ <;> (first | omega | (simp [pb, List.map_take, List.map_drop, List.take_take]; done) | (simp [pb, List.map_take, List.map_drop]; omega) | (simp [pb, List.take_of_length_le]; done))) | (refine or_val ?_ ?_ <;> (first | omega | (simp [pb, List.map_take, List.map_drop, List.take_take]; done) | (simp [pb, List.map_take, List.map_drop]; omega) | (simp [pb, List.take_of_length_le]; done))) | refine And.intro ?_ ?_)); done)); (focus (first | exact rfl | exact hp_eq rfl (dbs_app _ _ _ rfl) | exact hp_eq rfl (dbs_appo _ _ _ _ rfl rfl) | (refine hp_eq rfl ?_; (simp only [bob, ← List.length_append, dbs_appo', dbs_app', bsz]; done)) | (refine hp_eq rfl ?_; (simp [dbs, pb]; done)))); (conv => whnf)) | fail)
  all_goals (refine ret_obj rfl ?_ rfl ?_ (fun F => by first | exact rfl | (simp only [TV.rens, TV.ren, dbs_ren]; rfl) | (simp [TV.rens, TV.ren, dbs_ren, map_ren_p]; done)) (fun F => by first | exact rfl | exact bob_ren F _ | exact ob_ren F _ _); (focus ((repeat' (first | exact trivial | exact Sub.refl _ | exact sub_nil | exact Or.inl rfl | exact Or.inr ⟨rfl, rfl⟩ | (refine sub_ref ?_; (first | omega | (simp; done) | (simp; omega))) | (refine sub_int ?_; (first | omega | rfl | (simp [bsz]; done))) | refine sub_tup ?_ | exact sub_agg_dbs_r | exact sub_agg_take_r rfl (by first | assumption | omega) | (refine sub_agg_take rfl ?_; (first | ((try rw [dbs_length]); assumption) | ((try rw [dbs_length]); omega))) | refine sub_agg ?_ | (refine sub_val ?_ ?_ <;> (first | omega | (simp [pb, List.map_take, List.map_drop, List.take_take]; done) | (simp [pb, List.map_take, List.map_drop]; omega) | (simp [pb, List.take_of_length_le]; done))) | (refine or_val ?_ ?_ <;> (first | omega | (simp [pb, List.map_take, List.map_drop, List.take_take]; done) | (simp [pb, List.map_take, List.map_drop]; omega) | (simp [pb, List.take_of_length_le]; done))) | refine And.intro ?_ ?_)); done)); (first | rfl | (refine ob2_eq ?_ ?_ <;> (first | rfl | assumption | (simp only [*]; done) | (refine dv_val ?_ ?_ <;> (first | rfl | omega | (simp [pb, List.map_take, List.map_drop, List.take_of_length_le]; done) | (simp [pb, List.map_take, List.map_drop]; omega)))))))
/-- codec.source.count -/
theorem count_meets (m : Int) (s : Sr) (hs : s.ok) : Meets Try.prog F_codec_source_count ⟨[.c (.ptr 0 0), vi m], [(0, sob s)], 1, vi (s.count m).1, [(0, sob (s.count m).2)], 1⟩ := by
  have m1 := integer_meets s hs
  unfold Sr.count
  dsimp only
  generalize s.int = x at m1 ⊢
  obtain ⟨n, t⟩ := x
  dsimp only at m1 ⊢
  by_cases hc : n < 0 ∨ m < n
  · rw [if_pos hc]
    have m2 := fail_meets' t 1
    generalize t.fail 1 = t2 at m2 ⊢
    by_cases he : t2.e = 0
    · rw [if_pos he]
      refine fits_codec_source_count.meets rfl (by simp) fun Q hQ => ?_
      (conv => whnf); repeat' (first | (refine And.intro ?_ ?_; (focus (first | omega | (dsimp only; omega) | (simp only [List.length_append]; omega) | (simp [pb]; done) | (simp [pb]; omega) | (simp [zeros_u8, pb]; done) | (simp [zeros_u8, pb]; omega) | (simp [ByteArray.size]; omega) | exact Nat.le_of_ble_eq_true rfl | exact u64_nonneg _ | (show chkDraw _ _ = true; kernel_rfl) | (decide; done))); (conv => whnf)) | (refine onB_intro (fun hb => ?_) (fun hb => ?_) <;> (try simp only [decide_eq_true_eq, decide_eq_false_iff_not, Bool.not_eq_true', Bool.not_eq_false', Bool.and_eq_true, Bool.and_eq_false_iff, Int.not_le, Int.not_lt, bsz, ByteArray.toList_eq, beq_iff_eq, beq_eq_false_iff_ne, ne_eq] at hb) <;> (try (exfalso; omega)) <;> (try (exfalso; first | contradiction | (simp [ByteArray.toList_eq] at hb; done))) <;> (conv => whnf)) | (refine (hQ _ _ _ ?_).1; (conv => whnf)) | (refine ⟨_, rfl, ?_⟩; (conv => whnf)) | (refine ⟨_, mp_cut _ _ _, ?_⟩; (conv => whnf)) | (refine ⟨_, dbs_cut _ _ _, ?_⟩; (conv => whnf)) | (refine ⟨[_], rfl, ?_⟩; (conv => whnf)) | (refine ⟨[_, _], rfl, ?_⟩; (conv => whnf)) | (refine ⟨[_, _, _], rfl, ?_⟩; (conv => whnf)) | (refine ⟨[_, _, _, _], rfl, ?_⟩; (conv => whnf)) | (apply call_obj (m1) (fun F => by first | exact rfl | exact bob_ren F _ | exact ob_ren F _ _) (fun F => by first | exact rfl | exact bob_ren F _ | exact ob_ren F _ _); (focus ((repeat' (first | exact trivial | exact Sub.refl _ | exact sub_nil | exact Or.inl rfl | exact Or.inr ⟨rfl, rfl⟩ | (refine sub_ref ?_; (first | omega | (simp; done) | (simp; omega))) | (refine sub_int ?_; (first | omega | rfl | (simp [bsz]; done))) | refine sub_tup ?_ | exact sub_agg_dbs_r | exact sub_agg_take_r rfl (by first | assumption | omega) | (refine sub_agg_take rfl ?_; (first | ((try rw [dbs_length]); assumption) | ((try rw [dbs_length]); omega))) | refine sub_agg ?_ | (refine sub_val ?_ ?_ <;> (first | omega | (simp [pb, List.map_take, List.map_drop, List.take_take]; done) | (simp [pb, List.map_take, List.map_drop]; omega) | (simp [pb, List.take_of_length_le]; done))) | (refine or_val ?_ ?_ <;> (first | omega | (simp [pb, List.map_take, List.map_drop, List.take_take]; done) | (simp [pb, List.map_take, List.map_drop]; omega) | (simp [pb, List.take_of_length_le]; done))) | refine And.intro ?_ ?_)); done)); (focus (first | exact rfl | exact hp_eq rfl (dbs_app _ _ _ rfl) | exact hp_eq rfl (dbs_appo _ _ _ _ rfl rfl) | (refine hp_eq rfl ?_; (simp only [bob, ← List.length_append, dbs_appo', dbs_app', bsz]; done)) | (refine hp_eq rfl ?_; (simp [dbs, pb]; done)))); (conv => whnf)) | (apply call_obj (m2) (fun F => by first | exact rfl | exact bob_ren F _ | exact ob_ren F _ _) (fun F => by first | exact rfl | exact bob_ren F _ | exact ob_ren F _ _); (focus ((repeat' (first | exact trivial | exact Sub.refl _ | exact sub_nil | exact Or.inl rfl | exact Or.inr ⟨rfl, rfl⟩ | (refine sub_ref ?_; (first | omega | (simp; done) | (simp; omega))) | (refine sub_int ?_; (first | omega | rfl | (simp [bsz]; done))) | refine sub_tup ?_ | exact sub_agg_dbs_r | exact sub_agg_take_r rfl (by first | assumption | omega) | (refine sub_agg_take rfl ?_; (first | ((try rw [dbs_length]); assumption) | ((try rw [dbs_length]); omega))) | refine sub_agg ?_ | (refine sub_val ?_ ?_ <;> (first | omega | (simp [pb, List.map_take, List.map_drop, List.take_take]; done) | (simp [pb, List.map_take, List.map_drop]; omega) | (simp [pb, List.take_of_length_le]; done))) | (refine or_val ?_ ?_ <;> (first | omega | (simp [pb, List.map_take, List.map_drop, List.take_take]; done) | (simp [pb, List.map_take, List.map_drop]; omega) | (simp [pb, List.take_of_length_le]; done))) | refine And.intro ?_ ?_)); done)); (focus (first | exact rfl | exact hp_eq rfl (dbs_app _ _ _ rfl) | exact hp_eq rfl (dbs_appo _ _ _ _ rfl rfl) | (refine hp_eq rfl ?_; (simp only [bob, ← List.length_append, dbs_appo', dbs_app', bsz]; done)) | (refine hp_eq rfl ?_; (simp [dbs, pb]; done)))); (conv => whnf)) | fail)
      all_goals (refine ret_obj rfl ?_ rfl ?_ (fun F => by first | exact rfl | (simp only [TV.rens, TV.ren, dbs_ren]; rfl) | (simp [TV.rens, TV.ren, dbs_ren, map_ren_p]; done)) (fun F => by first | exact rfl | exact bob_ren F _ | exact ob_ren F _ _); (focus ((repeat' (first | exact trivial | exact Sub.refl _ | exact sub_nil | exact Or.inl rfl | exact Or.inr ⟨rfl, rfl⟩ | (refine sub_ref ?_; (first | omega | (simp; done) | (simp; omega))) | (refine sub_int ?_; (first | omega | rfl | (simp [bsz]; done))) | refine sub_tup ?_ | exact sub_agg_dbs_r | exact sub_agg_take_r rfl (by first | assumption | omega) | (refine sub_agg_take rfl ?_; (first | ((try rw [dbs_length]); assumption) | ((try rw [dbs_length]); omega))) | refine sub_agg ?_ | (refine sub_val ?_ ?_ <;> (first | omega | (simp [pb, List.map_take, List.map_drop, List.take_take]; done) | (simp [pb, List.map_take, List.map_drop]; omega) | (simp [pb, List.take_of_length_le]; done))) | (refine or_val ?_ ?_ <;> (first | omega | (simp [pb, List.map_take, List.map_drop, List.take_take]; done) | (simp [pb, List.map_take, List.map_drop]; omega) | (simp [pb, List.take_of_length_le]; done))) | refine And.intro ?_ ?_)); done)); (first | rfl | (refine ob2_eq ?_ ?_ <;> (first | rfl | assumption | (simp only [*]; done) | (refine dv_val ?_ ?_ <;> (first | rfl | omega | (simp [pb, List.map_take, List.map_drop, List.take_of_length_le]; done) | (simp [pb, List.map_take, List.map_drop]; omega)))))))
    · rw [if_neg he]
      refine fits_codec_source_count.meets rfl (by simp) fun Q hQ => ?_
      (conv => whnf); repeat' (first | (refine And.intro ?_ ?_; (focus (first | omega | (dsimp only; omega) | (simp only [List.length_append]; omega) | (simp [pb]; done) | (simp [pb]; omega) | (simp [zeros_u8, pb]; done) | (simp [zeros_u8, pb]; omega) | (simp [ByteArray.size]; omega) | exact Nat.le_of_ble_eq_true rfl | exact u64_nonneg _ | (show chkDraw _ _ = true; kernel_rfl) | (decide; done))); (conv => whnf)) | (refine onB_intro (fun hb => ?_) (fun hb => ?_) <;> (try simp only [decide_eq_true_eq, decide_eq_false_iff_not, Bool.not_eq_true', Bool.not_eq_false', Bool.and_eq_true, Bool.and_eq_false_iff, Int.not_le, Int.not_lt, bsz, ByteArray.toList_eq, beq_iff_eq, beq_eq_false_iff_ne, ne_eq] at hb) <;> (try (exfalso; omega)) <;> (try (exfalso; first | contradiction | (simp [ByteArray.toList_eq] at hb; done))) <;> (conv => whnf)) | (refine (hQ _ _ _ ?_).1; (conv => whnf)) | (refine ⟨_, rfl, ?_⟩; (conv => whnf)) | (refine ⟨_, mp_cut _ _ _, ?_⟩; (conv => whnf)) | (refine ⟨_, dbs_cut _ _ _, ?_⟩; (conv => whnf)) | (refine ⟨[_], rfl, ?_⟩; (conv => whnf)) | (refine ⟨[_, _], rfl, ?_⟩; (conv => whnf)) | (refine ⟨[_, _, _], rfl, ?_⟩; (conv => whnf)) | (refine ⟨[_, _, _, _], rfl, ?_⟩; (conv => whnf)) | (apply call_obj (m1) (fun F => by first | exact rfl | exact bob_ren F _ | exact ob_ren F _ _) (fun F => by first | exact rfl | exact bob_ren F _ | exact ob_ren F _ _); (focus ((repeat' (first | exact trivial | exact Sub.refl _ | exact sub_nil | exact Or.inl rfl | exact Or.inr ⟨rfl, rfl⟩ | (refine sub_ref ?_; (first | omega | (simp; done) | (simp; omega))) | (refine sub_int ?_; (first | omega | rfl | (simp [bsz]; done))) | refine sub_tup ?_ | exact sub_agg_dbs_r | exact sub_agg_take_r rfl (by first | assumption | omega) | (refine sub_agg_take rfl ?_; (first | ((try rw [dbs_length]); assumption) | ((try rw [dbs_length]); omega))) | refine sub_agg ?_ | (refine sub_val ?_ ?_ <;> (first | omega | (simp [pb, List.map_take, List.map_drop, List.take_take]; done) | (simp [pb, List.map_take, List.map_drop]; omega) | (simp [pb, List.take_of_length_le]; done))) | (refine or_val ?_ ?_ <;> (first | omega | (simp [pb, List.map_take, List.map_drop, List.take_take]; done) | (simp [pb, List.map_take, List.map_drop]; omega) | (simp [pb, List.take_of_length_le]; done))) | refine And.intro ?_ ?_)); done)); (focus (first | exact rfl | exact hp_eq rfl (dbs_app _ _ _ rfl) | exact hp_eq rfl (dbs_appo _ _ _ _ rfl rfl) | (refine hp_eq rfl ?_; (simp only [bob, ← List.length_append, dbs_appo', dbs_app', bsz]; done)) | (refine hp_eq rfl ?_; (simp [dbs, pb]; done)))); (conv => whnf)) | (apply call_obj (m2) (fun F => by first | exact rfl | exact bob_ren F _ | exact ob_ren F _ _) (fun F => by first | exact rfl | exact bob_ren F _ | exact ob_ren F _ _); (focus ((repeat' (first | exact trivial | exact Sub.refl _ | exact sub_nil | exact Or.inl rfl | exact Or.inr ⟨rfl, rfl⟩ | (refine sub_ref ?_; (first | omega | (simp; done) | (simp; omega))) | (refine sub_int ?_; (first | omega | rfl | (simp [bsz]; done))) | refine sub_tup ?_ | exact sub_agg_dbs_r | exact sub_agg_take_r rfl (by first | assumption | omega) | (refine sub_agg_take rfl ?_; (first | ((try rw [dbs_length]); assumption) | ((try rw [dbs_length]); omega))) | refine sub_agg ?_ | (refine sub_val ?_ ?_ <;> (first | omega | (simp [pb, List.map_take, List.map_drop, List.take_take]; done) | (simp [pb, List.map_take, List.map_drop]; omega) | (simp [pb, List.take_of_length_le]; done))) | (refine or_val ?_ ?_ <;> (first | omega | (simp [pb, List.map_take, List.map_drop, List.take_take]; done) | (simp [pb, List.map_take, List.map_drop]; omega) | (simp [pb, List.take_of_length_le]; done))) | refine And.intro ?_ ?_)); done)); (focus (first | exact rfl | exact hp_eq rfl (dbs_app _ _ _ rfl) | exact hp_eq rfl (dbs_appo _ _ _ _ rfl rfl) | (refine hp_eq rfl ?_; (simp only [bob, ← List.length_append, dbs_appo', dbs_app', bsz]; done)) | (refine hp_eq rfl ?_; (simp [dbs, pb]; done)))); (conv => whnf)) | fail)
      all_goals (refine ret_obj rfl ?_ rfl ?_ (fun F => by first | exact rfl | (simp only [TV.rens, TV.ren, dbs_ren]; rfl) | (simp [TV.rens, TV.ren, dbs_ren, map_ren_p]; done)) (fun F => by first | exact rfl | exact bob_ren F _ | exact ob_ren F _ _); (focus ((repeat' (first | exact trivial | exact Sub.refl _ | exact sub_nil | exact Or.inl rfl | exact Or.inr ⟨rfl, rfl⟩ | (refine sub_ref ?_; (first | omega | (simp; done) | (simp; omega))) | (refine sub_int ?_; (first | omega | rfl | (simp [bsz]; done))) | refine sub_tup ?_ | exact sub_agg_dbs_r | exact sub_agg_take_r rfl (by first | assumption | omega) | (refine sub_agg_take rfl ?_; (first | ((try rw [dbs_length]); assumption) | ((try rw [dbs_length]); omega))) | refine sub_agg ?_ | (refine sub_val ?_ ?_ <;> (first | omega | (simp [pb, List.map_take, List.map_drop, List.take_take]; done) | (simp [pb, List.map_take, List.map_drop]; omega) | (simp [pb, List.take_of_length_le]; done))) | (refine or_val ?_ ?_ <;> (first | omega | (simp [pb, List.map_take, List.map_drop, List.take_take]; done) | (simp [pb, List.map_take, List.map_drop]; omega) | (simp [pb, List.take_of_length_le]; done))) | refine And.intro ?_ ?_)); done)); (first | rfl | (refine ob2_eq ?_ ?_ <;> (first | rfl | assumption | (simp only [*]; done) | (refine dv_val ?_ ?_ <;> (first | rfl | omega | (simp [pb, List.map_take, List.map_drop, List.take_of_length_le]; done) | (simp [pb, List.map_take, List.map_drop]; omega)))))))
  · rw [if_neg hc]
    by_cases he : t.e = 0
    · rw [if_pos he]
      refine fits_codec_source_count.meets rfl (by simp) fun Q hQ => ?_
      (conv => whnf); repeat' (first | (refine And.intro ?_ ?_; (focus (first | omega | (dsimp only; omega) | (simp only [List.length_append]; omega) | (simp [pb]; done) | (simp [pb]; omega) | (simp [zeros_u8, pb]; done) | (simp [zeros_u8, pb]; omega) | (simp [ByteArray.size]; omega) | exact Nat.le_of_ble_eq_true rfl | exact u64_nonneg _ | (show chkDraw _ _ = true; kernel_rfl) | (decide; done))); (conv => whnf)) | (refine onB_intro (fun hb => ?_) (fun hb => ?_) <;> (try simp only [decide_eq_true_eq, decide_eq_false_iff_not, Bool.not_eq_true', Bool.not_eq_false', Bool.and_eq_true, Bool.and_eq_false_iff, Int.not_le, Int.not_lt, bsz, ByteArray.toList_eq, beq_iff_eq, beq_eq_false_iff_ne, ne_eq] at hb) <;> (try (exfalso; omega)) <;> (try (exfalso; first | contradiction | (simp [ByteArray.toList_eq] at hb; done))) <;> (conv => whnf)) | (refine (hQ _ _ _ ?_).1; (conv => whnf)) | (refine ⟨_, rfl, ?_⟩; (conv => whnf)) | (refine ⟨_, mp_cut _ _ _, ?_⟩; (conv => whnf)) | (refine ⟨_, dbs_cut _ _ _, ?_⟩; (conv => whnf)) | (refine ⟨[_], rfl, ?_⟩; (conv => whnf)) | (refine ⟨[_, _], rfl, ?_⟩; (conv => whnf)) | (refine ⟨[_, _, _], rfl, ?_⟩; (conv => whnf)) | (refine ⟨[_, _, _, _], rfl, ?_⟩; (conv => whnf)) | (apply call_obj (m1) (fun F => by first | exact rfl | exact bob_ren F _ | exact ob_ren F _ _) (fun F => by first | exact rfl | exact bob_ren F _ | exact ob_ren F _ _); (focus ((repeat' (first | exact trivial | exact Sub.refl _ | exact sub_nil | exact Or.inl rfl | exact Or.inr ⟨rfl, rfl⟩ | (refine sub_ref ?_; (first | omega | (simp; done) | (simp; omega))) | (refine sub_int ?_; (first | omega | rfl | (simp [bsz]; done))) | refine sub_tup ?_ | exact sub_agg_dbs_r | exact sub_agg_take_r rfl (by first | assumption | omega) | (refine sub_agg_take rfl ?_; (first | ((try rw [dbs_length]); assumption) | ((try rw [dbs_length]); omega))) | refine sub_agg ?_ | (refine sub_val ?_ ?_ <;> (first | omega | (simp [pb, List.map_take, List.map_drop, List.take_take]; done) | (simp [pb, List.map_take, List.map_drop]; omega) | (simp [pb, List.take_of_length_le]; done))) | (refine or_val ?_ ?_ <;> (first | omega | (simp [pb, List.map_take, List.map_drop, List.take_take]; done) | (simp [pb, List.map_take, List.map_drop]; omega) | (simp [pb, List.take_of_length_le]; done))) | refine And.intro ?_ ?_)); done)); (focus (first | exact rfl | exact hp_eq rfl (dbs_app _ _ _ rfl) | exact hp_eq rfl (dbs_appo _ _ _ _ rfl rfl) | (refine hp_eq rfl ?_; (simp only [bob, ← List.length_append, dbs_appo', dbs_app', bsz]; done)) | (refine hp_eq rfl ?_; (simp [dbs, pb]; done)))); (conv => whnf)) | fail)
      all_goals (refine ret_obj rfl ?_ rfl ?_ (fun F => by first | exact rfl | (simp only [TV.rens, TV.ren, dbs_ren]; rfl) | (simp [TV.rens, TV.ren, dbs_ren, map_ren_p]; done)) (fun F => by first | exact rfl | exact bob_ren F _ | exact ob_ren F _ _); (focus ((repeat' (first | exact trivial | exact Sub.refl _ | exact sub_nil | exact Or.inl rfl | exact Or.inr ⟨rfl, rfl⟩ | (refine sub_ref ?_; (first | omega | (simp; done) | (simp; omega))) | (refine sub_int ?_; (first | omega | rfl | (simp [bsz]; done))) | refine sub_tup ?_ | exact sub_agg_dbs_r | exact sub_agg_take_r rfl (by first | assumption | omega) | (refine sub_agg_take rfl ?_; (first | ((try rw [dbs_length]); assumption) | ((try rw [dbs_length]); omega))) | refine sub_agg ?_ | (refine sub_val ?_ ?_ <;> (first | omega | (simp [pb, List.map_take, List.map_drop, List.take_take]; done) | (simp [pb, List.map_take, List.map_drop]; omega) | (simp [pb, List.take_of_length_le]; done))) | (refine or_val ?_ ?_ <;> (first | omega | (simp [pb, List.map_take, List.map_drop, List.take_take]; done) | (simp [pb, List.map_take, List.map_drop]; omega) | (simp [pb, List.take_of_length_le]; done))) | refine And.intro ?_ ?_)); done)); (first | rfl | (refine ob2_eq ?_ ?_ <;> (first | rfl | assumption | (simp only [*]; done) | (refine dv_val ?_ ?_ <;> (first | rfl | omega | (simp [pb, List.map_take, List.map_drop, List.take_of_length_le]; done) | (simp [pb, List.map_take, List.map_drop]; omega)))))))
    · rw [if_neg he]
      refine fits_codec_source_count.meets rfl (by simp) fun Q hQ => ?_
      (conv => whnf); repeat' (first | (refine And.intro ?_ ?_; (focus (first | omega | (dsimp only; omega) | (simp only [List.length_append]; omega) | (simp [pb]; done) | (simp [pb]; omega) | (simp [zeros_u8, pb]; done) | (simp [zeros_u8, pb]; omega) | (simp [ByteArray.size]; omega) | exact Nat.le_of_ble_eq_true rfl | exact u64_nonneg _ | (show chkDraw _ _ = true; kernel_rfl) | (decide; done))); (conv => whnf)) | (refine onB_intro (fun hb => ?_) (fun hb => ?_) <;> (try simp only [decide_eq_true_eq, decide_eq_false_iff_not, Bool.not_eq_true', Bool.not_eq_false', Bool.and_eq_true, Bool.and_eq_false_iff, Int.not_le, Int.not_lt, bsz, ByteArray.toList_eq, beq_iff_eq, beq_eq_false_iff_ne, ne_eq] at hb) <;> (try (exfalso; omega)) <;> (try (exfalso; first | contradiction | (simp [ByteArray.toList_eq] at hb; done))) <;> (conv => whnf)) | (refine (hQ _ _ _ ?_).1; (conv => whnf)) | (refine ⟨_, rfl, ?_⟩; (conv => whnf)) | (refine ⟨_, mp_cut _ _ _, ?_⟩; (conv => whnf)) | (refine ⟨_, dbs_cut _ _ _, ?_⟩; (conv => whnf)) | (refine ⟨[_], rfl, ?_⟩; (conv => whnf)) | (refine ⟨[_, _], rfl, ?_⟩; (conv => whnf)) | (refine ⟨[_, _, _], rfl, ?_⟩; (conv => whnf)) | (refine ⟨[_, _, _, _], rfl, ?_⟩; (conv => whnf)) | (apply call_obj (m1) (fun F => by first | exact rfl | exact bob_ren F _ | exact ob_ren F _ _) (fun F => by first | exact rfl | exact bob_ren F _ | exact ob_ren F _ _); (focus ((repeat' (first | exact trivial | exact Sub.refl _ | exact sub_nil | exact Or.inl rfl | exact Or.inr ⟨rfl, rfl⟩ | (refine sub_ref ?_; (first | omega | (simp; done) | (simp; omega))) | (refine sub_int ?_; (first | omega | rfl | (simp [bsz]; done))) | refine sub_tup ?_ | exact sub_agg_dbs_r | exact sub_agg_take_r rfl (by first | assumption | omega) | (refine sub_agg_take rfl ?_; (first | ((try rw [dbs_length]); assumption) | ((try rw [dbs_length]); omega))) | refine sub_agg ?_ | (refine sub_val ?_ ?_ <;> (first | omega | (simp [pb, List.map_take, List.map_drop, List.take_take]; done) | (simp [pb, List.map_take, List.map_drop]; omega) | (simp [pb, List.take_of_length_le]; done))) | (refine or_val ?_ ?_ <;> (first | omega | (simp [pb, List.map_take, List.map_drop, List.take_take]; done) | (simp [pb, List.map_take, List.map_drop]; omega) | (simp [pb, List.take_of_length_le]; done))) | refine And.intro ?_ ?_)); done)); (focus (first | exact rfl | exact hp_eq rfl (dbs_app _ _ _ rfl) | exact hp_eq rfl (dbs_appo _ _ _ _ rfl rfl) | (refine hp_eq rfl ?_; (simp only [bob, ← List.length_append, dbs_appo', dbs_app', bsz]; done)) | (refine hp_eq rfl ?_; (simp [dbs, pb]; done)))); (conv => whnf)) | fail)
      all_goals (refine ret_obj rfl ?_ rfl ?_ (fun F => by first | exact rfl | (simp only [TV.rens, TV.ren, dbs_ren]; rfl) | (simp [TV.rens, TV.ren, dbs_ren, map_ren_p]; done)) (fun F => by first | exact rfl | exact bob_ren F _ | exact ob_ren F _ _); (focus ((repeat' (first | exact trivial | exact Sub.refl _ | exact sub_nil | exact Or.inl rfl | exact Or.inr ⟨rfl, rfl⟩ | (refine sub_ref ?_; (first | omega | (simp; done) | (simp; omega))) | (refine sub_int ?_; (first | omega | rfl | (simp [bsz]; done))) | refine sub_tup ?_ | exact sub_agg_dbs_r | exact sub_agg_take_r rfl (by first | assumption | omega) | (refine sub_agg_take rfl ?_; (first | ((try rw [dbs_length]); assumption) | ((try rw [dbs_length]); omega))) | refine sub_agg ?_ | (refine sub_val ?_ ?_ <;> (first | omega | (simp [pb, List.map_take, List.map_drop, List.take_take]; done) | (simp [pb, List.map_take, List.map_drop]; omega) | (simp [pb, List.take_of_length_le]; done))) | (refine or_val ?_ ?_ <;> (first | omega | (simp [pb, List.map_take, List.map_drop, List.take_take]; done) | (simp [pb, List.map_take, List.map_drop]; omega) | (simp [pb, List.take_of_length_le]; done))) | refine And.intro ?_ ?_)); done)); (first | rfl | (refine ob2_eq ?_ ?_ <;> (first | rfl | assumption | (simp only [*]; done) | (refine dv_val ?_ ?_ <;> (first | rfl | omega | (simp [pb, List.map_take, List.map_drop, List.take_of_length_le]; done) | (simp [pb, List.map_take, List.map_drop]; omega)))))))
/-- codec.source.take -/
theorem take_meets (n : Nat) (s : Sr) (hs : s.ok) : Meets Try.prog F_codec_source_take ⟨[.c (.ptr 0 0), vi n], [(0, sob s)], 1, .c (bs (s.take n).1), [(0, sob (s.take n).2)], 1⟩ := by
  have hs : s.b.length ≤ 4611686018427387904 := hs
  unfold Sr.take
  by_cases he : s.e = 0
  · rw [if_pos he]
    by_cases hn : s.b.length < n
    · rw [if_pos hn]
      have m2 := fail_meets' s 100
      have : s.fail 100 = ⟨s.b, 100⟩ := by unfold Sr.fail; rw [if_pos he]
      rw [this] at m2
      refine fits_codec_source_take.meets rfl (by simp) fun Q hQ => ?_
      (conv => whnf); repeat' (first | (refine And.intro ?_ ?_; (focus (first | omega | (dsimp only; omega) | (simp only [List.length_append]; omega) | (simp [pb]; done) | (simp [pb]; omega) | (simp [zeros_u8, pb]; done) | (simp [zeros_u8, pb]; omega) | (simp [ByteArray.size]; omega) | exact Nat.le_of_ble_eq_true rfl | exact u64_nonneg _ | (show chkDraw _ _ = true; kernel_rfl) | (decide; done))); (conv => whnf)) | (refine onB_intro (fun hb => ?_) (fun hb => ?_) <;> (try simp only [decide_eq_true_eq, decide_eq_false_iff_not, Bool.not_eq_true', Bool.not_eq_false', Bool.and_eq_true, Bool.and_eq_false_iff, Int.not_le, Int.not_lt, bsz, ByteArray.toList_eq, beq_iff_eq, beq_eq_false_iff_ne, ne_eq] at hb) <;> (try (exfalso; omega)) <;> (try (exfalso; first | contradiction | (simp [ByteArray.toList_eq] at hb; done))) <;> (conv => whnf)) | (refine (hQ _ _ _ ?_).1; (conv => whnf)) | (refine ⟨_, rfl, ?_⟩; (conv => whnf)) | (refine ⟨_, mp_cut _ _ _, ?_⟩; (conv => whnf)) | (refine ⟨_, dbs_cut _ _ _, ?_⟩; (conv => whnf)) | (refine ⟨[_], rfl, ?_⟩; (conv => whnf)) | (refine ⟨[_, _], rfl, ?_⟩; (conv => whnf)) | (refine ⟨[_, _, _], rfl, ?_⟩; (conv => whnf)) | (refine ⟨[_, _, _, _], rfl, ?_⟩; (conv => whnf)) | (apply call_obj (m2) (fun F => by first | exact rfl | exact bob_ren F _ | exact ob_ren F _ _) (fun F => by first | exact rfl | exact bob_ren F _ | exact ob_ren F _ _); (focus ((repeat' (first | exact trivial | exact Sub.refl _ | exact sub_nil | exact Or.inl rfl | exact Or.inr ⟨rfl, rfl⟩ | (refine sub_ref ?_; (first | omega | (simp; done) | (simp; omega))) | (refine sub_int ?_; (first | omega | rfl | (simp [bsz]; done))) | refine sub_tup ?_ | exact sub_agg_dbs_r | exact sub_agg_take_r rfl (by first | assumption | omega) | (refine sub_agg_take rfl ?_; (first | ((try rw [dbs_length]); assumption) | ((try rw [dbs_length]); omega))) | refine sub_agg ?_ | (refine sub_val ?_ ?_ <;> (first | omega | (simp [pb, List.map_take, List.map_drop, List.take_take]; done) | (simp [pb, List.map_take, List.map_drop]; omega) | (simp [pb, List.take_of_length_le]; done))) | (refine or_val ?_ ?_ <;> (first | omega | (simp [pb, List.map_take, List.map_drop, List.take_take]; done) | (simp [pb, List.map_take, List.map_drop]; omega) | (simp [pb, List.take_of_length_le]; done))) | refine And.intro ?_ ?_)); done)); (focus (first | exact rfl | exact hp_eq rfl (dbs_app _ _ _ rfl) | exact hp_eq rfl (dbs_appo _ _ _ _ rfl rfl) | (refine hp_eq rfl ?_; (simp only [bob, ← List.length_append, dbs_appo', dbs_app', bsz]; done)) | (refine hp_eq rfl ?_; (simp [dbs, pb]; done)))); (conv => whnf)) | fail)
      all_goals (refine ret_obj rfl ?_ rfl ?_ (fun F => by first | exact rfl | (simp only [TV.rens, TV.ren, dbs_ren]; rfl) | (simp [TV.rens, TV.ren, dbs_ren, map_ren_p]; done)) (fun F => by first | exact rfl | exact bob_ren F _ | exact ob_ren F _ _); (focus ((repeat' (first | exact trivial | exact Sub.refl _ | exact sub_nil | exact Or.inl rfl | exact Or.inr ⟨rfl, rfl⟩ | (refine sub_ref ?_; (first | omega | (simp; done) | (simp; omega))) | (refine sub_int ?_; (first | omega | rfl | (simp [bsz]; done))) | refine sub_tup ?_ | exact sub_agg_dbs_r | exact sub_agg_take_r rfl (by first | assumption | omega) | (refine sub_agg_take rfl ?_; (first | ((try rw [dbs_length]); assumption) | ((try rw [dbs_length]); omega))) | refine sub_agg ?_ | (refine sub_val ?_ ?_ <;> (first | omega | (simp [pb, List.map_take, List.map_drop, List.take_take]; done) | (simp [pb, List.map_take, List.map_drop]; omega) | (simp [pb, List.take_of_length_le]; done))) | (refine or_val ?_ ?_ <;> (first | omega | (simp [pb, List.map_take, List.map_drop, List.take_take]; done) | (simp [pb, List.map_take, List.map_drop]; omega) | (simp [pb, List.take_of_length_le]; done))) | refine And.intro ?_ ?_)); done)); (first | rfl | (refine ob2_eq ?_ ?_ <;> (first | rfl | assumption | (simp only [*]; done) | (refine dv_val ?_ ?_ <;> (first | rfl | omega | (simp [pb, List.map_take, List.map_drop, List.take_of_length_le]; done) | (simp [pb, List.map_take, List.map_drop]; omega)))))))
    · rw [if_neg hn]
      refine fits_codec_source_take.meets rfl (by simp) fun Q hQ => ?_
      (conv => whnf); repeat' (first | (refine And.intro ?_ ?_; (focus (first | omega | (dsimp only; omega) | (simp only [List.length_append]; omega) | (simp [pb]; done) | (simp [pb]; omega) | (simp [zeros_u8, pb]; done) | (simp [zeros_u8, pb]; omega) | (simp [ByteArray.size]; omega) | exact Nat.le_of_ble_eq_true rfl | exact u64_nonneg _ | (show chkDraw _ _ = true; kernel_rfl) | (decide; done))); (conv => whnf)) | (refine onB_intro (fun hb => ?_) (fun hb => ?_) <;> (try simp only [decide_eq_true_eq, decide_eq_false_iff_not, Bool.not_eq_true', Bool.not_eq_false', Bool.and_eq_true, Bool.and_eq_false_iff, Int.not_le, Int.not_lt, bsz, ByteArray.toList_eq, beq_iff_eq, beq_eq_false_iff_ne, ne_eq] at hb) <;> (try (exfalso; omega)) <;> (try (exfalso; first | contradiction | (simp [ByteArray.toList_eq] at hb; done))) <;> (conv => whnf)) | (refine (hQ _ _ _ ?_).1; (conv => whnf)) | (refine ⟨_, rfl, ?_⟩; (conv => whnf)) | (refine ⟨_, mp_cut _ _ _, ?_⟩; (conv => whnf)) | (refine ⟨_, dbs_cut _ _ _, ?_⟩; (conv => whnf)) | (refine ⟨[_], rfl, ?_⟩; (conv => whnf)) | (refine ⟨[_, _], rfl, ?_⟩; (conv => whnf)) | (refine ⟨[_, _, _], rfl, ?_⟩; (conv => whnf)) | (refine ⟨[_, _, _, _], rfl, ?_⟩; (conv => whnf)) | fail)
      all_goals (refine ret_obj rfl ?_ rfl ?_ (fun F => by first | exact rfl | (simp only [TV.rens, TV.ren, dbs_ren]; rfl) | (simp [TV.rens, TV.ren, dbs_ren, map_ren_p]; done)) (fun F => by first | exact rfl | exact bob_ren F _ | exact ob_ren F _ _); (focus ((repeat' (first | exact trivial | exact Sub.refl _ | exact sub_nil | exact Or.inl rfl | exact Or.inr ⟨rfl, rfl⟩ | (refine sub_ref ?_; (first | omega | (simp; done) | (simp; omega))) | (refine sub_int ?_; (first | omega | rfl | (simp [bsz]; done))) | refine sub_tup ?_ | exact sub_agg_dbs_r | exact sub_agg_take_r rfl (by first | assumption | omega) | (refine sub_agg_take rfl ?_; (first | ((try rw [dbs_length]); assumption) | ((try rw [dbs_length]); omega))) | refine sub_agg ?_ | (refine sub_val ?_ ?_ <;> (first | omega | (simp [pb, List.map_take, List.map_drop, List.take_take]; done) | (simp [pb, List.map_take, List.map_drop]; omega) | (simp [pb, List.take_of_length_le]; done))) | (refine or_val ?_ ?_ <;> (first | omega | (simp [pb, List.map_take, List.map_drop, List.take_take]; done) | (simp [pb, List.map_take, List.map_drop]; omega) | (simp [pb, List.take_of_length_le]; done))) | refine And.intro ?_ ?_)); done)); (first | rfl | (refine ob2_eq ?_ ?_ <;> (first | rfl | assumption | (simp only [*]; done) | (refine dv_val ?_ ?_ <;> (first | rfl | omega | (simp [pb, List.map_take, List.map_drop, List.take_of_length_le]; done) | (simp [pb, List.map_take, List.map_drop]; omega)))))))
  · rw [if_neg he]
    refine fits_codec_source_take.meets rfl (by simp) fun Q hQ => ?_
    (conv => whnf); repeat' (first | (refine And.intro ?_ ?_; (focus (first | omega | (dsimp only; omega) | (simp only [List.length_append]; omega) | (simp [pb]; done) | (simp [pb]; omega) | (simp [zeros_u8, pb]; done) | (simp [zeros_u8, pb]; omega) | (simp [ByteArray.size]; omega) | exact Nat.le_of_ble_eq_true rfl | exact u64_nonneg _ | (show chkDraw _ _ = true; kernel_rfl) | (decide; done))); (conv => whnf)) | (refine onB_intro (fun hb => ?_) (fun hb => ?_) <;> (try simp only [decide_eq_true_eq, decide_eq_false_iff_not, Bool.not_eq_true', Bool.not_eq_false', Bool.and_eq_true, Bool.and_eq_false_iff, Int.not_le, Int.not_lt, bsz, ByteArray.toList_eq, beq_iff_eq, beq_eq_false_iff_ne, ne_eq] at hb) <;> (try (exfalso; omega)) <;> (try (exfalso; first | contradiction | (simp [ByteArray.toList_eq] at hb; done))) <;> (conv => whnf)) | (refine (hQ _ _ _ ?_).1; (conv => whnf)) | (refine ⟨_, rfl, ?_⟩; (conv => whnf)) | (refine ⟨_, mp_cut _ _ _, ?_⟩; (conv => whnf)) | (refine ⟨_, dbs_cut _ _ _, ?_⟩; (conv => whnf)) | (refine ⟨[_], rfl, ?_⟩; (conv => whnf)) | (refine ⟨[_, _], rfl, ?_⟩; (conv => whnf)) | (refine ⟨[_, _, _], rfl, ?_⟩; (conv => whnf)) | (refine ⟨[_, _, _, _], rfl, ?_⟩; (conv => whnf)) | fail)
    all_goals (refine ret_obj rfl ?_ rfl ?_ (fun F => by first | exact rfl | (simp only [TV.rens, TV.ren, dbs_ren]; rfl) | (simp [TV.rens, TV.ren, dbs_ren, map_ren_p]; done)) (fun F => by first | exact rfl | exact bob_ren F _ | exact ob_ren F _ _); (focus ((repeat' (first | exact trivial | exact Sub.refl _ | exact sub_nil | exact Or.inl rfl | exact Or.inr ⟨rfl, rfl⟩ | (refine sub_ref ?_; (first | omega | (simp; done) | (simp; omega))) | (refine sub_int ?_; (first | omega | rfl | (simp [bsz]; done))) | refine sub_tup ?_ | exact sub_agg_dbs_r | exact sub_agg_take_r rfl (by first | assumption | omega) | (refine sub_agg_take rfl ?_; (first | ((try rw [dbs_length]); assumption) | ((try rw [dbs_length]); omega))) | refine sub_agg ?_ | (refine sub_val ?_ ?_ <;> (first | omega | (simp [pb, List.map_take, List.map_drop, List.take_take]; done) | (simp [pb, List.map_take, List.map_drop]; omega) | (simp [pb, List.take_of_length_le]; done))) | (refine or_val ?_ ?_ <;> (first | omega | (simp [pb, List.map_take, List.map_drop, List.take_take]; done) | (simp [pb, List.map_take, List.map_drop]; omega) | (simp [pb, List.take_of_length_le]; done))) | refine And.intro ?_ ?_)); done)); (first | rfl | (refine ob2_eq ?_ ?_ <;> (first | rfl | assumption | (simp only [*]; done) | (refine dv_val ?_ ?_ <;> (first | rfl | omega | (simp [pb, List.map_take, List.map_drop, List.take_of_length_le]; done) | (simp [pb, List.map_take, List.map_drop]; omega)))))))
/-- codec.source.text -/
theorem text_meets (m : Int) (s : Sr) (hs : s.ok) : Meets Try.prog F_codec_source_text ⟨[.c (.ptr 0 0), vi m], [(0, sob s)], 1, tst (s.text m).1, [(0, sob (s.text m).2)], 1⟩ := by
  have h1 := s.count_len m
  have h2 := s.count_nonneg m
  have hs' : s.b.length ≤ 4611686018427387904 := hs
  unfold Sr.text
  dsimp only
  have m1 := count_meets m s hs
  generalize s.count m = x at m1 h1 h2 ⊢
  obtain ⟨n, t⟩ := x
  dsimp only at m1 h1 h2 ⊢
  obtain ⟨k, rfl⟩ := Int.eq_ofNat_of_zero_le h2
  have m2 := take_meets k t (by show t.b.length ≤ _; omega)
  rw [Int.toNat_natCast]
  generalize t.take k = y at m2 ⊢
  obtain ⟨l, u⟩ := y
  dsimp only at m2 ⊢
  refine fits_codec_source_text.meets rfl (by simp) fun Q hQ => ?_
  (conv => whnf); repeat' (first | (refine And.intro ?_ ?_; (focus (first | omega | (dsimp only; omega) | (simp only [List.length_append]; omega) | (simp [pb]; done) | (simp [pb]; omega) | (simp [zeros_u8, pb]; done) | (simp [zeros_u8, pb]; omega) | (simp [ByteArray.size]; omega) | exact Nat.le_of_ble_eq_true rfl | exact u64_nonneg _ | (show chkDraw _ _ = true; kernel_rfl) | (decide; done))); (conv => whnf)) | (refine onB_intro (fun hb => ?_) (fun hb => ?_) <;> (try simp only [decide_eq_true_eq, decide_eq_false_iff_not, Bool.not_eq_true', Bool.not_eq_false', Bool.and_eq_true, Bool.and_eq_false_iff, Int.not_le, Int.not_lt, bsz, ByteArray.toList_eq, beq_iff_eq, beq_eq_false_iff_ne, ne_eq] at hb) <;> (try (exfalso; omega)) <;> (try (exfalso; first | contradiction | (simp [ByteArray.toList_eq] at hb; done))) <;> (conv => whnf)) | (refine (hQ _ _ _ ?_).1; (conv => whnf)) | (refine ⟨_, rfl, ?_⟩; (conv => whnf)) | (refine ⟨_, mp_cut _ _ _, ?_⟩; (conv => whnf)) | (refine ⟨_, dbs_cut _ _ _, ?_⟩; (conv => whnf)) | (refine ⟨[_], rfl, ?_⟩; (conv => whnf)) | (refine ⟨[_, _], rfl, ?_⟩; (conv => whnf)) | (refine ⟨[_, _, _], rfl, ?_⟩; (conv => whnf)) | (refine ⟨[_, _, _, _], rfl, ?_⟩; (conv => whnf)) | (apply call_obj (m1) (fun F => by first | exact rfl | exact bob_ren F _ | exact ob_ren F _ _) (fun F => by first | exact rfl | exact bob_ren F _ | exact ob_ren F _ _); (focus ((repeat' (first | exact trivial | exact Sub.refl _ | exact sub_nil | exact Or.inl rfl | exact Or.inr ⟨rfl, rfl⟩ | (refine sub_ref ?_; (first | omega | (simp; done) | (simp; omega))) | (refine sub_int ?_; (first | omega | rfl | (simp [bsz]; done))) | refine sub_tup ?_ | exact sub_agg_dbs_r | exact sub_agg_take_r rfl (by first | assumption | omega) | (refine sub_agg_take rfl ?_; (first | ((try rw [dbs_length]); assumption) | ((try rw [dbs_length]); omega))) | refine sub_agg ?_ | (refine sub_val ?_ ?_ <;> (first | omega | (simp [pb, List.map_take, List.map_drop, List.take_take]; done) | (simp [pb, List.map_take, List.map_drop]; omega) | (simp [pb, List.take_of_length_le]; done))) | (refine or_val ?_ ?_ <;> (first | omega | (simp [pb, List.map_take, List.map_drop, List.take_take]; done) | (simp [pb, List.map_take, List.map_drop]; omega) | (simp [pb, List.take_of_length_le]; done))) | refine And.intro ?_ ?_)); done)); (focus (first | exact rfl | exact hp_eq rfl (dbs_app _ _ _ rfl) | exact hp_eq rfl (dbs_appo _ _ _ _ rfl rfl) | (refine hp_eq rfl ?_; (simp only [bob, ← List.length_append, dbs_appo', dbs_app', bsz]; done)) | (refine hp_eq rfl ?_; (simp [dbs, pb]; done)))); (conv => whnf)) | (apply call_obj (m2) (fun F => by first | exact rfl | exact bob_ren F _ | exact ob_ren F _ _) (fun F => by first | exact rfl | exact bob_ren F _ | exact ob_ren F _ _); (focus ((repeat' (first | exact trivial | exact Sub.refl _ | exact sub_nil | exact Or.inl rfl | exact Or.inr ⟨rfl, rfl⟩ | (refine sub_ref ?_; (first | omega | (simp; done) | (simp; omega))) | (refine sub_int ?_; (first | omega | rfl | (simp [bsz]; done))) | refine sub_tup ?_ | exact sub_agg_dbs_r | exact sub_agg_take_r rfl (by first | assumption | omega) | (refine sub_agg_take rfl ?_; (first | ((try rw [dbs_length]); assumption) | ((try rw [dbs_length]); omega))) | refine sub_agg ?_ | (refine sub_val ?_ ?_ <;> (first | omega | (simp [pb, List.map_take, List.map_drop, List.take_take]; done) | (simp [pb, List.map_take, List.map_drop]; omega) | (simp [pb, List.take_of_length_le]; done))) | (refine or_val ?_ ?_ <;> (first | omega | (simp [pb, List.map_take, List.map_drop, List.take_take]; done) | (simp [pb, List.map_take, List.map_drop]; omega) | (simp [pb, List.take_of_length_le]; done))) | refine And.intro ?_ ?_)); done)); (focus (first | exact rfl | exact hp_eq rfl (dbs_app _ _ _ rfl) | exact hp_eq rfl (dbs_appo _ _ _ _ rfl rfl) | (refine hp_eq rfl ?_; (simp only [bob, ← List.length_append, dbs_appo', dbs_app', bsz]; done)) | (refine hp_eq rfl ?_; (simp [dbs, pb]; done)))); (conv => whnf)) | fail)
  all_goals (refine ret_obj rfl ?_ rfl ?_ (fun F => by first | exact rfl | (simp only [TV.rens, TV.ren, dbs_ren]; rfl) | (simp [TV.rens, TV.ren, dbs_ren, map_ren_p]; done)) (fun F => by first | exact rfl | exact bob_ren F _ | exact ob_ren F _ _); (focus ((repeat' (first | exact trivial | exact Sub.refl _ | exact sub_nil | exact Or.inl rfl | exact Or.inr ⟨rfl, rfl⟩ | (refine sub_ref ?_; (first | omega | (simp; done) | (simp; omega))) | (refine sub_int ?_; (first | omega | rfl | (simp [bsz]; done))) | refine sub_tup ?_ | exact sub_agg_dbs_r | exact sub_agg_take_r rfl (by first | assumption | omega) | (refine sub_agg_take rfl ?_; (first | ((try rw [dbs_length]); assumption) | ((try rw [dbs_length]); omega))) | refine sub_agg ?_ | (refine sub_val ?_ ?_ <;> (first | omega | (simp [pb, List.map_take, List.map_drop, List.take_take]; done) | (simp [pb, List.map_take, List.map_drop]; omega) | (simp [pb, List.take_of_length_le]; done))) | (refine or_val ?_ ?_ <;> (first | omega | (simp [pb, List.map_take, List.map_drop, List.take_take]; done) | (simp [pb, List.map_take, List.map_drop]; omega) | (simp [pb, List.take_of_length_le]; done))) | refine And.intro ?_ ?_)); done)); (first | rfl | (refine ob2_eq ?_ ?_ <;> (first | rfl | assumption | (simp only [*]; done) | (refine dv_val ?_ ?_ <;> (first | rfl | omega | (simp [pb, List.map_take, List.map_drop, List.take_of_length_le]; done) | (simp [pb, List.map_take, List.map_drop]; omega)))))))
/-- codec.source.value -/
theorem value_meets (s : Sr) (hs : s.ok) : Meets Try.prog F_codec_source_value ⟨[.c (.ptr 0 0)], [(0, sob s)], 1, .agg s.value.1.enc, [(0, sob s.value.2)], 1⟩ := by
  have hs' : s.b.length ≤ 4611686018427387904 := hs
  unfold Sr.value
  dsimp only
  have m1 := count_meets 2 s hs
  have l1 := s.count_len 2
  generalize s.count 2 = x at m1 l1 ⊢
  obtain ⟨n, t⟩ := x
  dsimp only at m1 l1 ⊢
  have ht : t.ok := by show t.b.length ≤ _; omega
  by_cases h1 : n = 1
  · subst h1
    rw [if_pos rfl]
    have m2 := integer_meets t ht
    have l2 := t.int_len
    generalize t.int = x at m2 l2 ⊢
    obtain ⟨v, u⟩ := x
    dsimp only at m2 l2 ⊢
    by_cases hv : v < -4294967296 ∨ 4294967296 < v
    · rw [if_pos hv]
      have m3 := fail_meets' u 1
      generalize u.fail 1 = w at m3 ⊢
      refine fits_codec_source_value.meets rfl (by simp) fun Q hQ => ?_
      (conv => whnf); repeat' (first | (refine And.intro ?_ ?_; (focus (first | omega | (dsimp only; omega) | (simp only [List.length_append]; omega) | (simp [pb]; done) | (simp [pb]; omega) | (simp [zeros_u8, pb]; done) | (simp [zeros_u8, pb]; omega) | (simp [ByteArray.size]; omega) | exact Nat.le_of_ble_eq_true rfl | exact u64_nonneg _ | (show chkDraw _ _ = true; kernel_rfl) | (decide; done))); (conv => whnf)) | (refine onB_intro (fun hb => ?_) (fun hb => ?_) <;> (try simp only [decide_eq_true_eq, decide_eq_false_iff_not, Bool.not_eq_true', Bool.not_eq_false', Bool.and_eq_true, Bool.and_eq_false_iff, Int.not_le, Int.not_lt, bsz, ByteArray.toList_eq, beq_iff_eq, beq_eq_false_iff_ne, ne_eq] at hb) <;> (try (exfalso; omega)) <;> (try (exfalso; first | contradiction | (simp [ByteArray.toList_eq] at hb; done))) <;> (conv => whnf)) | (refine (hQ _ _ _ ?_).1; (conv => whnf)) | (refine ⟨_, rfl, ?_⟩; (conv => whnf)) | (refine ⟨_, mp_cut _ _ _, ?_⟩; (conv => whnf)) | (refine ⟨_, dbs_cut _ _ _, ?_⟩; (conv => whnf)) | (refine ⟨[_], rfl, ?_⟩; (conv => whnf)) | (refine ⟨[_, _], rfl, ?_⟩; (conv => whnf)) | (refine ⟨[_, _, _], rfl, ?_⟩; (conv => whnf)) | (refine ⟨[_, _, _, _], rfl, ?_⟩; (conv => whnf)) | (apply call_obj (m1) (fun F => by first | exact rfl | exact bob_ren F _ | exact ob_ren F _ _) (fun F => by first | exact rfl | exact bob_ren F _ | exact ob_ren F _ _); (focus ((repeat' (first | exact trivial | exact Sub.refl _ | exact sub_nil | exact Or.inl rfl | exact Or.inr ⟨rfl, rfl⟩ | (refine sub_ref ?_; (first | omega | (simp; done) | (simp; omega))) | (refine sub_int ?_; (first | omega | rfl | (simp [bsz]; done))) | refine sub_tup ?_ | exact sub_agg_dbs_r | exact sub_agg_take_r rfl (by first | assumption | omega) | (refine sub_agg_take rfl ?_; (first | ((try rw [dbs_length]); assumption) | ((try rw [dbs_length]); omega))) | refine sub_agg ?_ | (refine sub_val ?_ ?_ <;> (first | omega | (simp [pb, List.map_take, List.map_drop, List.take_take]; done) | (simp [pb, List.map_take, List.map_drop]; omega) | (simp [pb, List.take_of_length_le]; done))) | (refine or_val ?_ ?_ <;> (first | omega | (simp [pb, List.map_take, List.map_drop, List.take_take]; done) | (simp [pb, List.map_take, List.map_drop]; omega) | (simp [pb, List.take_of_length_le]; done))) | refine And.intro ?_ ?_)); done)); (focus (first | exact rfl | exact hp_eq rfl (dbs_app _ _ _ rfl) | exact hp_eq rfl (dbs_appo _ _ _ _ rfl rfl) | (refine hp_eq rfl ?_; (simp only [bob, ← List.length_append, dbs_appo', dbs_app', bsz]; done)) | (refine hp_eq rfl ?_; (simp [dbs, pb]; done)))); (conv => whnf)) | (apply call_obj (m2) (fun F => by first | exact rfl | exact bob_ren F _ | exact ob_ren F _ _) (fun F => by first | exact rfl | exact bob_ren F _ | exact ob_ren F _ _); (focus ((repeat' (first | exact trivial | exact Sub.refl _ | exact sub_nil | exact Or.inl rfl | exact Or.inr ⟨rfl, rfl⟩ | (refine sub_ref ?_; (first | omega | (simp; done) | (simp; omega))) | (refine sub_int ?_; (first | omega | rfl | (simp [bsz]; done))) | refine sub_tup ?_ | exact sub_agg_dbs_r | exact sub_agg_take_r rfl (by first | assumption | omega) | (refine sub_agg_take rfl ?_; (first | ((try rw [dbs_length]); assumption) | ((try rw [dbs_length]); omega))) | refine sub_agg ?_ | (refine sub_val ?_ ?_ <;> (first | omega | (simp [pb, List.map_take, List.map_drop, List.take_take]; done) | (simp [pb, List.map_take, List.map_drop]; omega) | (simp [pb, List.take_of_length_le]; done))) | (refine or_val ?_ ?_ <;> (first | omega | (simp [pb, List.map_take, List.map_drop, List.take_take]; done) | (simp [pb, List.map_take, List.map_drop]; omega) | (simp [pb, List.take_of_length_le]; done))) | refine And.intro ?_ ?_)); done)); (focus (first | exact rfl | exact hp_eq rfl (dbs_app _ _ _ rfl) | exact hp_eq rfl (dbs_appo _ _ _ _ rfl rfl) | (refine hp_eq rfl ?_; (simp only [bob, ← List.length_append, dbs_appo', dbs_app', bsz]; done)) | (refine hp_eq rfl ?_; (simp [dbs, pb]; done)))); (conv => whnf)) | (apply call_obj (m3) (fun F => by first | exact rfl | exact bob_ren F _ | exact ob_ren F _ _) (fun F => by first | exact rfl | exact bob_ren F _ | exact ob_ren F _ _); (focus ((repeat' (first | exact trivial | exact Sub.refl _ | exact sub_nil | exact Or.inl rfl | exact Or.inr ⟨rfl, rfl⟩ | (refine sub_ref ?_; (first | omega | (simp; done) | (simp; omega))) | (refine sub_int ?_; (first | omega | rfl | (simp [bsz]; done))) | refine sub_tup ?_ | exact sub_agg_dbs_r | exact sub_agg_take_r rfl (by first | assumption | omega) | (refine sub_agg_take rfl ?_; (first | ((try rw [dbs_length]); assumption) | ((try rw [dbs_length]); omega))) | refine sub_agg ?_ | (refine sub_val ?_ ?_ <;> (first | omega | (simp [pb, List.map_take, List.map_drop, List.take_take]; done) | (simp [pb, List.map_take, List.map_drop]; omega) | (simp [pb, List.take_of_length_le]; done))) | (refine or_val ?_ ?_ <;> (first | omega | (simp [pb, List.map_take, List.map_drop, List.take_take]; done) | (simp [pb, List.map_take, List.map_drop]; omega) | (simp [pb, List.take_of_length_le]; done))) | refine And.intro ?_ ?_)); done)); (focus (first | exact rfl | exact hp_eq rfl (dbs_app _ _ _ rfl) | exact hp_eq rfl (dbs_appo _ _ _ _ rfl rfl) | (refine hp_eq rfl ?_; (simp only [bob, ← List.length_append, dbs_appo', dbs_app', bsz]; done)) | (refine hp_eq rfl ?_; (simp [dbs, pb]; done)))); (conv => whnf)) | fail)
      all_goals (refine ret_obj rfl ?_ rfl ?_ (fun F => by first | exact rfl | (simp only [TV.rens, TV.ren, dbs_ren]; rfl) | (simp [TV.rens, TV.ren, dbs_ren, map_ren_p]; done)) (fun F => by first | exact rfl | exact bob_ren F _ | exact ob_ren F _ _); (focus ((repeat' (first | exact trivial | exact Sub.refl _ | exact sub_nil | exact Or.inl rfl | exact Or.inr ⟨rfl, rfl⟩ | (refine sub_ref ?_; (first | omega | (simp; done) | (simp; omega))) | (refine sub_int ?_; (first | omega | rfl | (simp [bsz]; done))) | refine sub_tup ?_ | exact sub_agg_dbs_r | exact sub_agg_take_r rfl (by first | assumption | omega) | (refine sub_agg_take rfl ?_; (first | ((try rw [dbs_length]); assumption) | ((try rw [dbs_length]); omega))) | refine sub_agg ?_ | (refine sub_val ?_ ?_ <;> (first | omega | (simp [pb, List.map_take, List.map_drop, List.take_take]; done) | (simp [pb, List.map_take, List.map_drop]; omega) | (simp [pb, List.take_of_length_le]; done))) | (refine or_val ?_ ?_ <;> (first | omega | (simp [pb, List.map_take, List.map_drop, List.take_take]; done) | (simp [pb, List.map_take, List.map_drop]; omega) | (simp [pb, List.take_of_length_le]; done))) | refine And.intro ?_ ?_)); done)); (first | rfl | (refine ob2_eq ?_ ?_ <;> (first | rfl | assumption | (simp only [*]; done) | (refine dv_val ?_ ?_ <;> (first | rfl | omega | (simp [pb, List.map_take, List.map_drop, List.take_of_length_le]; done) | (simp [pb, List.map_take, List.map_drop]; omega)))))))
    · rw [if_neg hv]
      refine fits_codec_source_value.meets rfl (by simp) fun Q hQ => ?_
      (conv => whnf); repeat' (first | (refine And.intro ?_ ?_; (focus (first | omega | (dsimp only; omega) | (simp only [List.length_append]; omega) | (simp [pb]; done) | (simp [pb]; omega) | (simp [zeros_u8, pb]; done) | (simp [zeros_u8, pb]; omega) | (simp [ByteArray.size]; omega) | exact Nat.le_of_ble_eq_true rfl | exact u64_nonneg _ | (show chkDraw _ _ = true; kernel_rfl) | (decide; done))); (conv => whnf)) | (refine onB_intro (fun hb => ?_) (fun hb => ?_) <;> (try simp only [decide_eq_true_eq, decide_eq_false_iff_not, Bool.not_eq_true', Bool.not_eq_false', Bool.and_eq_true, Bool.and_eq_false_iff, Int.not_le, Int.not_lt, bsz, ByteArray.toList_eq, beq_iff_eq, beq_eq_false_iff_ne, ne_eq] at hb) <;> (try (exfalso; omega)) <;> (try (exfalso; first | contradiction | (simp [ByteArray.toList_eq] at hb; done))) <;> (conv => whnf)) | (refine (hQ _ _ _ ?_).1; (conv => whnf)) | (refine ⟨_, rfl, ?_⟩; (conv => whnf)) | (refine ⟨_, mp_cut _ _ _, ?_⟩; (conv => whnf)) | (refine ⟨_, dbs_cut _ _ _, ?_⟩; (conv => whnf)) | (refine ⟨[_], rfl, ?_⟩; (conv => whnf)) | (refine ⟨[_, _], rfl, ?_⟩; (conv => whnf)) | (refine ⟨[_, _, _], rfl, ?_⟩; (conv => whnf)) | (refine ⟨[_, _, _, _], rfl, ?_⟩; (conv => whnf)) | (apply call_obj (m1) (fun F => by first | exact rfl | exact bob_ren F _ | exact ob_ren F _ _) (fun F => by first | exact rfl | exact bob_ren F _ | exact ob_ren F _ _); (focus ((repeat' (first | exact trivial | exact Sub.refl _ | exact sub_nil | exact Or.inl rfl | exact Or.inr ⟨rfl, rfl⟩ | (refine sub_ref ?_; (first | omega | (simp; done) | (simp; omega))) | (refine sub_int ?_; (first | omega | rfl | (simp [bsz]; done))) | refine sub_tup ?_ | exact sub_agg_dbs_r | exact sub_agg_take_r rfl (by first | assumption | omega) | (refine sub_agg_take rfl ?_; (first | ((try rw [dbs_length]); assumption) | ((try rw [dbs_length]); omega))) | refine sub_agg ?_ | (refine sub_val ?_ ?_ <;> (first | omega | (simp [pb, List.map_take, List.map_drop, List.take_take]; done) | (simp [pb, List.map_take, List.map_drop]; omega) | (simp [pb, List.take_of_length_le]; done))) | (refine or_val ?_ ?_ <;> (first | omega | (simp [pb, List.map_take, List.map_drop, List.take_take]; done) | (simp [pb, List.map_take, List.map_drop]; omega) | (simp [pb, List.take_of_length_le]; done))) | refine And.intro ?_ ?_)); done)); (focus (first | exact rfl | exact hp_eq rfl (dbs_app _ _ _ rfl) | exact hp_eq rfl (dbs_appo _ _ _ _ rfl rfl) | (refine hp_eq rfl ?_; (simp only [bob, ← List.length_append, dbs_appo', dbs_app', bsz]; done)) | (refine hp_eq rfl ?_; (simp [dbs, pb]; done)))); (conv => whnf)) | (apply call_obj (m2) (fun F => by first | exact rfl | exact bob_ren F _ | exact ob_ren F _ _) (fun F => by first | exact rfl | exact bob_ren F _ | exact ob_ren F _ _); (focus ((repeat' (first | exact trivial | exact Sub.refl _ | exact sub_nil | exact Or.inl rfl | exact Or.inr ⟨rfl, rfl⟩ | (refine sub_ref ?_; (first | omega | (simp; done) | (simp; omega))) | (refine sub_int ?_; (first | omega | rfl | (simp [bsz]; done))) | refine sub_tup ?_ | exact sub_agg_dbs_r | exact sub_agg_take_r rfl (by first | assumption | omega) | (refine sub_agg_take rfl ?_; (first | ((try rw [dbs_length]); assumption) | ((try rw [dbs_length]); omega))) | refine sub_agg ?_ | (refine sub_val ?_ ?_ <;> (first | omega | (simp [pb, List.map_take, List.map_drop, List.take_take]; done) | (simp [pb, List.map_take, List.map_drop]; omega) | (simp [pb, List.take_of_length_le]; done))) | (refine or_val ?_ ?_ <;> (first | omega | (simp [pb, List.map_take, List.map_drop, List.take_take]; done) | (simp [pb, List.map_take, List.map_drop]; omega) | (simp [pb, List.take_of_length_le]; done))) | refine And.intro ?_ ?_)); done)); (focus (first | exact rfl | exact hp_eq rfl (dbs_app _ _ _ rfl) | exact hp_eq rfl (dbs_appo _ _ _ _ rfl rfl) | (refine hp_eq rfl ?_; (simp only [bob, ← List.length_append, dbs_appo', dbs_app', bsz]; done)) | (refine hp_eq rfl ?_; (simp [dbs, pb]; done)))); (conv => whnf)) | fail)
      all_goals (refine ret_obj rfl ?_ rfl ?_ (fun F => by first | exact rfl | (simp only [TV.rens, TV.ren, dbs_ren]; rfl) | (simp [TV.rens, TV.ren, dbs_ren, map_ren_p]; done)) (fun F => by first | exact rfl | exact bob_ren F _ | exact ob_ren F _ _); (focus ((repeat' (first | exact trivial | exact Sub.refl _ | exact sub_nil | exact Or.inl rfl | exact Or.inr ⟨rfl, rfl⟩ | (refine sub_ref ?_; (first | omega | (simp; done) | (simp; omega))) | (refine sub_int ?_; (first | omega | rfl | (simp [bsz]; done))) | refine sub_tup ?_ | exact sub_agg_dbs_r | exact sub_agg_take_r rfl (by first | assumption | omega) | (refine sub_agg_take rfl ?_; (first | ((try rw [dbs_length]); assumption) | ((try rw [dbs_length]); omega))) | refine sub_agg ?_ | (refine sub_val ?_ ?_ <;> (first | omega | (simp [pb, List.map_take, List.map_drop, List.take_take]; done) | (simp [pb, List.map_take, List.map_drop]; omega) | (simp [pb, List.take_of_length_le]; done))) | (refine or_val ?_ ?_ <;> (first | omega | (simp [pb, List.map_take, List.map_drop, List.take_take]; done) | (simp [pb, List.map_take, List.map_drop]; omega) | (simp [pb, List.take_of_length_le]; done))) | refine And.intro ?_ ?_)); done)); (first | rfl | (refine ob2_eq ?_ ?_ <;> (first | rfl | assumption | (simp only [*]; done) | (refine dv_val ?_ ?_ <;> (first | rfl | omega | (simp [pb, List.map_take, List.map_drop, List.take_of_length_le]; done) | (simp [pb, List.map_take, List.map_drop]; omega)))))))
  · rw [if_neg h1]
    by_cases h2 : n = 2
    · subst h2
      rw [if_pos rfl]
      have m2 := text_meets 32 t ht
      have l2 := t.text_len 32
      generalize t.text 32 = x at m2 l2 ⊢
      obtain ⟨v, u⟩ := x
      dsimp only at m2 l2 ⊢
      refine fits_codec_source_value.meets rfl (by simp) fun Q hQ => ?_
      (conv => whnf); repeat' (first | (refine And.intro ?_ ?_; (focus (first | omega | (dsimp only; omega) | (simp only [List.length_append]; omega) | (simp [pb]; done) | (simp [pb]; omega) | (simp [zeros_u8, pb]; done) | (simp [zeros_u8, pb]; omega) | (simp [ByteArray.size]; omega) | exact Nat.le_of_ble_eq_true rfl | exact u64_nonneg _ | (show chkDraw _ _ = true; kernel_rfl) | (decide; done))); (conv => whnf)) | (refine onB_intro (fun hb => ?_) (fun hb => ?_) <;> (try simp only [decide_eq_true_eq, decide_eq_false_iff_not, Bool.not_eq_true', Bool.not_eq_false', Bool.and_eq_true, Bool.and_eq_false_iff, Int.not_le, Int.not_lt, bsz, ByteArray.toList_eq, beq_iff_eq, beq_eq_false_iff_ne, ne_eq] at hb) <;> (try (exfalso; omega)) <;> (try (exfalso; first | contradiction | (simp [ByteArray.toList_eq] at hb; done))) <;> (conv => whnf)) | (refine (hQ _ _ _ ?_).1; (conv => whnf)) | (refine ⟨_, rfl, ?_⟩; (conv => whnf)) | (refine ⟨_, mp_cut _ _ _, ?_⟩; (conv => whnf)) | (refine ⟨_, dbs_cut _ _ _, ?_⟩; (conv => whnf)) | (refine ⟨[_], rfl, ?_⟩; (conv => whnf)) | (refine ⟨[_, _], rfl, ?_⟩; (conv => whnf)) | (refine ⟨[_, _, _], rfl, ?_⟩; (conv => whnf)) | (refine ⟨[_, _, _, _], rfl, ?_⟩; (conv => whnf)) | (apply call_obj (m1) (fun F => by first | exact rfl | exact bob_ren F _ | exact ob_ren F _ _) (fun F => by first | exact rfl | exact bob_ren F _ | exact ob_ren F _ _); (focus ((repeat' (first | exact trivial | exact Sub.refl _ | exact sub_nil | exact Or.inl rfl | exact Or.inr ⟨rfl, rfl⟩ | (refine sub_ref ?_; (first | omega | (simp; done) | (simp; omega))) | (refine sub_int ?_; (first | omega | rfl | (simp [bsz]; done))) | refine sub_tup ?_ | exact sub_agg_dbs_r | exact sub_agg_take_r rfl (by first | assumption | omega) | (refine sub_agg_take rfl ?_; (first | ((try rw [dbs_length]); assumption) | ((try rw [dbs_length]); omega))) | refine sub_agg ?_ | (refine sub_val ?_ ?_ <;> (first | omega | (simp [pb, List.map_take, List.map_drop, List.take_take]; done) | (simp [pb, List.map_take, List.map_drop]; omega) | (simp [pb, List.take_of_length_le]; done))) | (refine or_val ?_ ?_ <;> (first | omega | (simp [pb, List.map_take, List.map_drop, List.take_take]; done) | (simp [pb, List.map_take, List.map_drop]; omega) | (simp [pb, List.take_of_length_le]; done))) | refine And.intro ?_ ?_)); done)); (focus (first | exact rfl | exact hp_eq rfl (dbs_app _ _ _ rfl) | exact hp_eq rfl (dbs_appo _ _ _ _ rfl rfl) | (refine hp_eq rfl ?_; (simp only [bob, ← List.length_append, dbs_appo', dbs_app', bsz]; done)) | (refine hp_eq rfl ?_; (simp [dbs, pb]; done)))); (conv => whnf)) | (apply call_obj (m2) (fun F => by first | exact rfl | exact bob_ren F _ | exact ob_ren F _ _) (fun F => by first | exact rfl | exact bob_ren F _ | exact ob_ren F _ _); (focus ((repeat' (first | exact trivial | exact Sub.refl _ | exact sub_nil | exact Or.inl rfl | exact Or.inr ⟨rfl, rfl⟩ | (refine sub_ref ?_; (first | omega | (simp; done) | (simp; omega))) | (refine sub_int ?_; (first | omega | rfl | (simp [bsz]; done))) | refine sub_tup ?_ | exact sub_agg_dbs_r | exact sub_agg_take_r rfl (by first | assumption | omega) | (refine sub_agg_take rfl ?_; (first | ((try rw [dbs_length]); assumption) | ((try rw [dbs_length]); omega))) | refine sub_agg ?_ | (refine sub_val ?_ ?_ <;> (first | omega | (simp [pb, List.map_take, List.map_drop, List.take_take]; done) | (simp [pb, List.map_take, List.map_drop]; omega) | (simp [pb, List.take_of_length_le]; done))) | (refine or_val ?_ ?_ <;> (first | omega | (simp [pb, List.map_take, List.map_drop, List.take_take]; done) | (simp [pb, List.map_take, List.map_drop]; omega) | (simp [pb, List.take_of_length_le]; done))) | refine And.intro ?_ ?_)); done)); (focus (first | exact rfl | exact hp_eq rfl (dbs_app _ _ _ rfl) | exact hp_eq rfl (dbs_appo _ _ _ _ rfl rfl) | (refine hp_eq rfl ?_; (simp only [bob, ← List.length_append, dbs_appo', dbs_app', bsz]; done)) | (refine hp_eq rfl ?_; (simp [dbs, pb]; done)))); (conv => whnf)) | fail)
      all_goals (refine ret_obj rfl ?_ rfl ?_ (fun F => by first | exact rfl | (simp only [TV.rens, TV.ren, dbs_ren]; rfl) | (simp [TV.rens, TV.ren, dbs_ren, map_ren_p]; done)) (fun F => by first | exact rfl | exact bob_ren F _ | exact ob_ren F _ _); (focus ((repeat' (first | exact trivial | exact Sub.refl _ | exact sub_nil | exact Or.inl rfl | exact Or.inr ⟨rfl, rfl⟩ | (refine sub_ref ?_; (first | omega | (simp; done) | (simp; omega))) | (refine sub_int ?_; (first | omega | rfl | (simp [bsz]; done))) | refine sub_tup ?_ | exact sub_agg_dbs_r | exact sub_agg_take_r rfl (by first | assumption | omega) | (refine sub_agg_take rfl ?_; (first | ((try rw [dbs_length]); assumption) | ((try rw [dbs_length]); omega))) | refine sub_agg ?_ | (refine sub_val ?_ ?_ <;> (first | omega | (simp [pb, List.map_take, List.map_drop, List.take_take]; done) | (simp [pb, List.map_take, List.map_drop]; omega) | (simp [pb, List.take_of_length_le]; done))) | (refine or_val ?_ ?_ <;> (first | omega | (simp [pb, List.map_take, List.map_drop, List.take_take]; done) | (simp [pb, List.map_take, List.map_drop]; omega) | (simp [pb, List.take_of_length_le]; done))) | refine And.intro ?_ ?_)); done)); (first | rfl | (refine ob2_eq ?_ ?_ <;> (first | rfl | assumption | (simp only [*]; done) | (refine dv_val ?_ ?_ <;> (first | rfl | omega | (simp [pb, List.map_take, List.map_drop, List.take_of_length_le]; done) | (simp [pb, List.map_take, List.map_drop]; omega)))))))
    · rw [if_neg h2]
      refine fits_codec_source_value.meets rfl (by simp) fun Q hQ => ?_
      (conv => whnf); repeat' (first | (refine And.intro ?_ ?_; (focus (first | omega | (dsimp only; omega) | (simp only [List.length_append]; omega) | (simp [pb]; done) | (simp [pb]; omega) | (simp [zeros_u8, pb]; done) | (simp [zeros_u8, pb]; omega) | (simp [ByteArray.size]; omega) | exact Nat.le_of_ble_eq_true rfl | exact u64_nonneg _ | (show chkDraw _ _ = true; kernel_rfl) | (decide; done))); (conv => whnf)) | (refine onB_intro (fun hb => ?_) (fun hb => ?_) <;> (try simp only [decide_eq_true_eq, decide_eq_false_iff_not, Bool.not_eq_true', Bool.not_eq_false', Bool.and_eq_true, Bool.and_eq_false_iff, Int.not_le, Int.not_lt, bsz, ByteArray.toList_eq, beq_iff_eq, beq_eq_false_iff_ne, ne_eq] at hb) <;> (try (exfalso; omega)) <;> (try (exfalso; first | contradiction | (simp [ByteArray.toList_eq] at hb; done))) <;> (conv => whnf)) | (refine (hQ _ _ _ ?_).1; (conv => whnf)) | (refine ⟨_, rfl, ?_⟩; (conv => whnf)) | (refine ⟨_, mp_cut _ _ _, ?_⟩; (conv => whnf)) | (refine ⟨_, dbs_cut _ _ _, ?_⟩; (conv => whnf)) | (refine ⟨[_], rfl, ?_⟩; (conv => whnf)) | (refine ⟨[_, _], rfl, ?_⟩; (conv => whnf)) | (refine ⟨[_, _, _], rfl, ?_⟩; (conv => whnf)) | (refine ⟨[_, _, _, _], rfl, ?_⟩; (conv => whnf)) | (apply call_obj (m1) (fun F => by first | exact rfl | exact bob_ren F _ | exact ob_ren F _ _) (fun F => by first | exact rfl | exact bob_ren F _ | exact ob_ren F _ _); (focus ((repeat' (first | exact trivial | exact Sub.refl _ | exact sub_nil | exact Or.inl rfl | exact Or.inr ⟨rfl, rfl⟩ | (refine sub_ref ?_; (first | omega | (simp; done) | (simp; omega))) | (refine sub_int ?_; (first | omega | rfl | (simp [bsz]; done))) | refine sub_tup ?_ | exact sub_agg_dbs_r | exact sub_agg_take_r rfl (by first | assumption | omega) | (refine sub_agg_take rfl ?_; (first | ((try rw [dbs_length]); assumption) | ((try rw [dbs_length]); omega))) | refine sub_agg ?_ | (refine sub_val ?_ ?_ <;> (first | omega | (simp [pb, List.map_take, List.map_drop, List.take_take]; done) | (simp [pb, List.map_take, List.map_drop]; omega) | (simp [pb, List.take_of_length_le]; done))) | (refine or_val ?_ ?_ <;> (first | omega | (simp [pb, List.map_take, List.map_drop, List.take_take]; done) | (simp [pb, List.map_take, List.map_drop]; omega) | (simp [pb, List.take_of_length_le]; done))) | refine And.intro ?_ ?_)); done)); (focus (first | exact rfl | exact hp_eq rfl (dbs_app _ _ _ rfl) | exact hp_eq rfl (dbs_appo _ _ _ _ rfl rfl) | (refine hp_eq rfl ?_; (simp only [bob, ← List.length_append, dbs_appo', dbs_app', bsz]; done)) | (refine hp_eq rfl ?_; (simp [dbs, pb]; done)))); (conv => whnf)) | fail)
      all_goals (refine ret_obj rfl ?_ rfl ?_ (fun F => by first | exact rfl | (simp only [TV.rens, TV.ren, dbs_ren]; rfl) | (simp [TV.rens, TV.ren, dbs_ren, map_ren_p]; done)) (fun F => by first | exact rfl | exact bob_ren F _ | exact ob_ren F _ _); (focus ((repeat' (first | exact trivial | exact Sub.refl _ | exact sub_nil | exact Or.inl rfl | exact Or.inr ⟨rfl, rfl⟩ | (refine sub_ref ?_; (first | omega | (simp; done) | (simp; omega))) | (refine sub_int ?_; (first | omega | rfl | (simp [bsz]; done))) | refine sub_tup ?_ | exact sub_agg_dbs_r | exact sub_agg_take_r rfl (by first | assumption | omega) | (refine sub_agg_take rfl ?_; (first | ((try rw [dbs_length]); assumption) | ((try rw [dbs_length]); omega))) | refine sub_agg ?_ | (refine sub_val ?_ ?_ <;> (first | omega | (simp [pb, List.map_take, List.map_drop, List.take_take]; done) | (simp [pb, List.map_take, List.map_drop]; omega) | (simp [pb, List.take_of_length_le]; done))) | (refine or_val ?_ ?_ <;> (first | omega | (simp [pb, List.map_take, List.map_drop, List.take_take]; done) | (simp [pb, List.map_take, List.map_drop]; omega) | (simp [pb, List.take_of_length_le]; done))) | refine And.intro ?_ ?_)); done)); (first | rfl | (refine ob2_eq ?_ ?_ <;> (first | rfl | assumption | (simp only [*]; done) | (refine dv_val ?_ ?_ <;> (first | rfl | omega | (simp [pb, List.map_take, List.map_drop, List.take_of_length_le]; done) | (simp [pb, List.map_take, List.map_drop]; omega)))))))
end Go.Proofs.Ytjieenfbfckafaa.Am
namespace Go.Proofs.Ytjieenfbfckafaa.Am
open Go
set_option linter.unusedVariables false
set_option linter.unusedSimpArgs false
set_option maxRecDepth 100000
set_option maxHeartbeats 1000000
theorem ver_eq (s : Sr) : Sr.ver s = (⟨s.int.1, s.int.2.int.2.int.1, s.int.2.int.1⟩, s.int.2.int.2.int.2) := rfl
theorem sou_eq (s : Sr) : Sr.sou s = (⟨s.int.1, s.int.2.int.1⟩, s.int.2.int.2) := rfl
/-- F_codec_source_versions -/
theorem versions_meets (s : Sr) (hs : s.b.length ≤ 70368744177664) : Meets Try.prog F_codec_source_versions ⟨[.c (.ptr 0 0)], [(0, sob s)], 1, .c (dvers s.vers.1), [(0, sob s.vers.2)], 1⟩ := by
  have hr := s.count_range 512 (by omega)
  unfold Sr.vers Sr.list
  dsimp only
  have m1 := count_meets 512 s (by show s.b.length ≤ _; omega)
  have l1 := s.count_len 512
  generalize s.count 512 = x at m1 l1 hr ⊢
  obtain ⟨c, t⟩ := x
  dsimp only at m1 l1 hr ⊢
  obtain ⟨n, rfl⟩ := Int.eq_ofNat_of_zero_le hr.1
  rw [Int.toNat_natCast]
  refine fits_codec_source_versions.meets rfl (by simp) fun Q hQ => ?_
  (conv => whnf); repeat' (first | (refine And.intro ?_ ?_; (focus (first | omega | (dsimp only; omega) | (simp only [List.length_append]; omega) | (simp [pb]; done) | (simp [pb]; omega) | (simp [zeros_u8, pb]; done) | (simp [zeros_u8, pb]; omega) | (simp [ByteArray.size]; omega) | exact Nat.le_of_ble_eq_true rfl | exact u64_nonneg _ | (show chkDraw _ _ = true; kernel_rfl) | (decide; done))); (conv => whnf)) | (refine onB_intro (fun hb => ?_) (fun hb => ?_) <;> (try simp only [decide_eq_true_eq, decide_eq_false_iff_not, Bool.not_eq_true', Bool.not_eq_false', Bool.and_eq_true, Bool.and_eq_false_iff, Int.not_le, Int.not_lt, bsz, ByteArray.toList_eq, beq_iff_eq, beq_eq_false_iff_ne, ne_eq] at hb) <;> (try (exfalso; omega)) <;> (try (exfalso; first | contradiction | (simp [ByteArray.toList_eq] at hb; done))) <;> (conv => whnf)) | (refine (hQ _ _ _ ?_).1; (conv => whnf)) | (refine ⟨_, rfl, ?_⟩; (conv => whnf)) | (refine ⟨_, mp_cut _ _ _, ?_⟩; (conv => whnf)) | (refine ⟨_, dbs_cut _ _ _, ?_⟩; (conv => whnf)) | (refine ⟨[_], rfl, ?_⟩; (conv => whnf)) | (refine ⟨[_, _], rfl, ?_⟩; (conv => whnf)) | (refine ⟨[_, _, _], rfl, ?_⟩; (conv => whnf)) | (refine ⟨[_, _, _, _], rfl, ?_⟩; (conv => whnf)) | (apply call_obj (m1) (fun F => by first | exact rfl | exact bob_ren F _ | exact ob_ren F _ _) (fun F => by first | exact rfl | exact bob_ren F _ | exact ob_ren F _ _); (focus ((repeat' (first | exact trivial | exact Sub.refl _ | exact sub_nil | exact Or.inl rfl | exact Or.inr ⟨rfl, rfl⟩ | (refine sub_ref ?_; (first | omega | (simp; done) | (simp; omega))) | (refine sub_int ?_; (first | omega | rfl | (simp [bsz]; done))) | refine sub_tup ?_ | exact sub_agg_dbs_r | exact sub_agg_take_r rfl (by first | assumption | omega) | (refine sub_agg_take rfl ?_; (first | ((try rw [dbs_length]); assumption) | ((try rw [dbs_length]); omega))) | refine sub_agg ?_ | (refine sub_val ?_ ?_ <;> (first | omega | (simp [pb, List.map_take, List.map_drop, List.take_take]; done) | (simp [pb, List.map_take, List.map_drop]; omega) | (simp [pb, List.take_of_length_le]; done))) | (refine or_val ?_ ?_ <;> (first | omega | (simp [pb, List.map_take, List.map_drop, List.take_take]; done) | (simp [pb, List.map_take, List.map_drop]; omega) | (simp [pb, List.take_of_length_le]; done))) | refine And.intro ?_ ?_)); done)); (focus (first | exact rfl | exact hp_eq rfl (dbs_app _ _ _ rfl) | exact hp_eq rfl (dbs_appo _ _ _ _ rfl rfl) | (refine hp_eq rfl ?_; (simp only [bob, ← List.length_append, dbs_appo', dbs_app', bsz]; done)) | (refine hp_eq rfl ?_; (simp [dbs, pb]; done)))); (conv => whnf)) | fail)
  refine loop_fam (fun i : Nat × List Ver × Sr => ⟨[(0, .c (.ptr 0 0)), (3, vi n), (4, .c (.ref 1 0 i.2.1.length 3)), (5, vi i.1)], [(0, sob i.2.2), (1, ⟨T_api_Version, (i.2.1.flatMap Ver.pv).map DV.p⟩)], 2⟩) (fun i => n - i.1)
    (fun i => i.1 ≤ n ∧ i.2.2.b.length ≤ t.b.length ∧ i.2.1.length = i.1 ∧ (i.2.1 ++ (many Sr.ver (n - i.1) i.2.2).1, (many Sr.ver (n - i.1) i.2.2).2) = many Sr.ver n t) (0, [], t)
    ((Wk.adopt 4 3 T_api_Version rfl).trans (wkn [(1, 2)] rfl rfl (by repeat' (first | exact trivial | exact Sub.refl _ | refine And.intro ?_ ?_)) ⟨rfl, hp_pure rfl rfl, trivial⟩)) ⟨Nat.zero_le _, Nat.le_refl _, rfl, by simp⟩ ?_
  rintro ⟨k, acc, s⟩ ⟨hk, hsl, hal, hmany⟩ K hK
  dsimp only at hk hsl hal hmany
  by_cases hgo : k < n ∧ s.e = 0
  · obtain ⟨hkn, hse⟩ := hgo
    have hsok : s.ok := by show s.b.length ≤ _; omega
    have hxl : ((acc.flatMap Ver.pv).map DV.p).length = acc.length * 3 := by rw [List.length_map, flat_len Ver.len]
    have hm1 : many Sr.ver (n - k) s = ((Sr.ver s).1 :: (many Sr.ver (n - (k + 1)) (Sr.ver s).2).1, (many Sr.ver (n - (k + 1)) (Sr.ver s).2).2) := by
      rw [show n - k = (n - (k + 1)) + 1 by omega, many, if_pos hse]
    rw [hm1] at hmany
    have hfl := Sr.ver_len s
    rw [ver_eq s] at hmany hfl; dsimp only at hmany hfl; have m0 := number_meets s hsok; have g0 := s.int_len; generalize s.int = x0 at m0 g0 hmany hfl; obtain ⟨v0, u0⟩ := x0; dsimp only at m0 g0 hmany hfl; have m1 := number_meets u0 (by show u0.b.length ≤ _; omega); have g1 := u0.int_len; generalize u0.int = x1 at m1 g1 hmany hfl; obtain ⟨v1, u1⟩ := x1; dsimp only at m1 g1 hmany hfl; have m2 := number_meets u1 (by show u1.b.length ≤ _; omega); have g2 := u1.int_len; generalize u1.int = x2 at m2 g2 hmany hfl; obtain ⟨v2, u2⟩ := x2; dsimp only at m2 g2 hmany hfl
    (conv => whnf); repeat' (first | (refine And.intro ?_ ?_; (focus (first | omega | (dsimp only; omega) | (simp only [List.length_append]; omega) | (simp [pb]; done) | (simp [pb]; omega) | (simp [zeros_u8, pb]; done) | (simp [zeros_u8, pb]; omega) | (simp [ByteArray.size]; omega) | exact Nat.le_of_ble_eq_true rfl | exact u64_nonneg _ | (show chkDraw _ _ = true; kernel_rfl) | (decide; done))); (conv => whnf)) | (refine onB_intro (fun hb => ?_) (fun hb => ?_) <;> (try simp only [decide_eq_true_eq, decide_eq_false_iff_not, Bool.not_eq_true', Bool.not_eq_false', Bool.and_eq_true, Bool.and_eq_false_iff, Int.not_le, Int.not_lt, bsz, ByteArray.toList_eq, beq_iff_eq, beq_eq_false_iff_ne, ne_eq] at hb) <;> (try (exfalso; omega)) <;> (try (exfalso; first | contradiction | (simp [ByteArray.toList_eq] at hb; done))) <;> (conv => whnf)) | (refine (hQ _ _ _ ?_).1; (conv => whnf)) | (refine ⟨_, rfl, ?_⟩; (conv => whnf)) | (refine ⟨_, mp_cut _ _ _, ?_⟩; (conv => whnf)) | (refine ⟨_, dbs_cut _ _ _, ?_⟩; (conv => whnf)) | (refine ⟨[_], rfl, ?_⟩; (conv => whnf)) | (refine ⟨[_, _], rfl, ?_⟩; (conv => whnf)) | (refine ⟨[_, _, _], rfl, ?_⟩; (conv => whnf)) | (refine ⟨[_, _, _, _], rfl, ?_⟩; (conv => whnf)) | (apply call_obj (m0) (fun F => by first | exact rfl | exact bob_ren F _ | exact ob_ren F _ _) (fun F => by first | exact rfl | exact bob_ren F _ | exact ob_ren F _ _); (focus ((repeat' (first | exact trivial | exact Sub.refl _ | exact sub_nil | exact Or.inl rfl | exact Or.inr ⟨rfl, rfl⟩ | (refine sub_ref ?_; (first | omega | (simp; done) | (simp; omega))) | (refine sub_int ?_; (first | omega | rfl | (simp [bsz]; done))) | refine sub_tup ?_ | exact sub_agg_dbs_r | exact sub_agg_take_r rfl (by first | assumption | omega) | (refine sub_agg_take rfl ?_; (first | ((try rw [dbs_length]); assumption) | ((try rw [dbs_length]); omega))) | refine sub_agg ?_ | (refine sub_val ?_ ?_ <;> (first | omega | (simp [pb, List.map_take, List.map_drop, List.take_take]; done) | (simp [pb, List.map_take, List.map_drop]; omega) | (simp [pb, List.take_of_length_le]; done))) | (refine or_val ?_ ?_ <;> (first | omega | (simp [pb, List.map_take, List.map_drop, List.take_take]; done) | (simp [pb, List.map_take, List.map_drop]; omega) | (simp [pb, List.take_of_length_le]; done))) | refine And.intro ?_ ?_)); done)); (focus (first | exact rfl | exact hp_eq rfl (dbs_app _ _ _ rfl) | exact hp_eq rfl (dbs_appo _ _ _ _ rfl rfl) | (refine hp_eq rfl ?_; (simp only [bob, ← List.length_append, dbs_appo', dbs_app', bsz]; done)) | (refine hp_eq rfl ?_; (simp [dbs, pb]; done)))); (conv => whnf)) | (apply call_obj (m1) (fun F => by first | exact rfl | exact bob_ren F _ | exact ob_ren F _ _) (fun F => by first | exact rfl | exact bob_ren F _ | exact ob_ren F _ _); (focus ((repeat' (first | exact trivial | exact Sub.refl _ | exact sub_nil | exact Or.inl rfl | exact Or.inr ⟨rfl, rfl⟩ | (refine sub_ref ?_; (first | omega | (simp; done) | (simp; omega))) | (refine sub_int ?_; (first | omega | rfl | (simp [bsz]; done))) | refine sub_tup ?_ | exact sub_agg_dbs_r | exact sub_agg_take_r rfl (by first | assumption | omega) | (refine sub_agg_take rfl ?_; (first | ((try rw [dbs_length]); assumption) | ((try rw [dbs_length]); omega))) | refine sub_agg ?_ | (refine sub_val ?_ ?_ <;> (first | omega | (simp [pb, List.map_take, List.map_drop, List.take_take]; done) | (simp [pb, List.map_take, List.map_drop]; omega) | (simp [pb, List.take_of_length_le]; done))) | (refine or_val ?_ ?_ <;> (first | omega | (simp [pb, List.map_take, List.map_drop, List.take_take]; done) | (simp [pb, List.map_take, List.map_drop]; omega) | (simp [pb, List.take_of_length_le]; done))) | refine And.intro ?_ ?_)); done)); (focus (first | exact rfl | exact hp_eq rfl (dbs_app _ _ _ rfl) | exact hp_eq rfl (dbs_appo _ _ _ _ rfl rfl) | (refine hp_eq rfl ?_; (simp only [bob, ← List.length_append, dbs_appo', dbs_app', bsz]; done)) | (refine hp_eq rfl ?_; (simp [dbs, pb]; done)))); (conv => whnf)) | (apply call_obj (m2) (fun F => by first | exact rfl | exact bob_ren F _ | exact ob_ren F _ _) (fun F => by first | exact rfl | exact bob_ren F _ | exact ob_ren F _ _); (focus ((repeat' (first | exact trivial | exact Sub.refl _ | exact sub_nil | exact Or.inl rfl | exact Or.inr ⟨rfl, rfl⟩ | (refine sub_ref ?_; (first | omega | (simp; done) | (simp; omega))) | (refine sub_int ?_; (first | omega | rfl | (simp [bsz]; done))) | refine sub_tup ?_ | exact sub_agg_dbs_r | exact sub_agg_take_r rfl (by first | assumption | omega) | (refine sub_agg_take rfl ?_; (first | ((try rw [dbs_length]); assumption) | ((try rw [dbs_length]); omega))) | refine sub_agg ?_ | (refine sub_val ?_ ?_ <;> (first | omega | (simp [pb, List.map_take, List.map_drop, List.take_take]; done) | (simp [pb, List.map_take, List.map_drop]; omega) | (simp [pb, List.take_of_length_le]; done))) | (refine or_val ?_ ?_ <;> (first | omega | (simp [pb, List.map_take, List.map_drop, List.take_take]; done) | (simp [pb, List.map_take, List.map_drop]; omega) | (simp [pb, List.take_of_length_le]; done))) | refine And.intro ?_ ?_)); done)); (focus (first | exact rfl | exact hp_eq rfl (dbs_app _ _ _ rfl) | exact hp_eq rfl (dbs_appo _ _ _ _ rfl rfl) | (refine hp_eq rfl ?_; (simp only [bob, ← List.length_append, dbs_appo', dbs_app', bsz]; done)) | (refine hp_eq rfl ?_; (simp [dbs, pb]; done)))); (conv => whnf)) | fail)
    refine hK _ _ _ (k + 1, acc ++ [(⟨v0, v2, v1⟩ : Ver)], u2) ⟨by dsimp only; omega, by dsimp only; omega, by simp [hal], by dsimp only; rw [← hmany, List.append_assoc]; rfl⟩ (by dsimp only; omega) (wkn [(1, 6)] rfl rfl (by repeat' (first | exact trivial | exact Sub.refl _ | exact sub_ref (by simp) | exact sub_int (by dsimp only; omega) | refine And.intro ?_ ?_)) ⟨rfl, hp_pure rfl (cells_snoc Ver.len acc (⟨v0, v2, v1⟩ : Ver)), trivial⟩)
  · have hm1 : many Sr.ver (n - k) s = ([], s) := by
      cases hq : n - k with
      | zero => rfl
      | succ q => rw [many, if_neg (fun h => hgo ⟨by omega, h⟩)]
    rw [hm1] at hmany
    have hmany : (acc, s) = many Sr.ver n t := by rw [← hmany]; simp
    rw [← hmany] at hQ
    rcases Nat.lt_or_ge k n with hkn | hkn
    · have hse : ¬ s.e = 0 := fun h => hgo ⟨hkn, h⟩
      (conv => whnf); repeat' (first | (refine And.intro ?_ ?_; (focus (first | omega | (dsimp only; omega) | (simp only [List.length_append]; omega) | (simp [pb]; done) | (simp [pb]; omega) | (simp [zeros_u8, pb]; done) | (simp [zeros_u8, pb]; omega) | (simp [ByteArray.size]; omega) | exact Nat.le_of_ble_eq_true rfl | exact u64_nonneg _ | (show chkDraw _ _ = true; kernel_rfl) | (decide; done))); (conv => whnf)) | (refine onB_intro (fun hb => ?_) (fun hb => ?_) <;> (try simp only [decide_eq_true_eq, decide_eq_false_iff_not, Bool.not_eq_true', Bool.not_eq_false', Bool.and_eq_true, Bool.and_eq_false_iff, Int.not_le, Int.not_lt, bsz, ByteArray.toList_eq, beq_iff_eq, beq_eq_false_iff_ne, ne_eq] at hb) <;> (try (exfalso; omega)) <;> (try (exfalso; first | contradiction | (simp [ByteArray.toList_eq] at hb; done))) <;> (conv => whnf)) | (refine (hQ _ _ _ ?_).1; (conv => whnf)) | (refine ⟨_, rfl, ?_⟩; (conv => whnf)) | (refine ⟨_, mp_cut _ _ _, ?_⟩; (conv => whnf)) | (refine ⟨_, dbs_cut _ _ _, ?_⟩; (conv => whnf)) | (refine ⟨[_], rfl, ?_⟩; (conv => whnf)) | (refine ⟨[_, _], rfl, ?_⟩; (conv => whnf)) | (refine ⟨[_, _, _], rfl, ?_⟩; (conv => whnf)) | (refine ⟨[_, _, _, _], rfl, ?_⟩; (conv => whnf)) | fail)
      exact ret_objz (cs := acc.flatMap Ver.pv) rfl rfl rfl rfl rfl (sub_slice Ver.len acc) rfl (fun F => rfl) (fun F => rfl) (fun id cs => rfl)
    · (conv => whnf); repeat' (first | (refine And.intro ?_ ?_; (focus (first | omega | (dsimp only; omega) | (simp only [List.length_append]; omega) | (simp [pb]; done) | (simp [pb]; omega) | (simp [zeros_u8, pb]; done) | (simp [zeros_u8, pb]; omega) | (simp [ByteArray.size]; omega) | exact Nat.le_of_ble_eq_true rfl | exact u64_nonneg _ | (show chkDraw _ _ = true; kernel_rfl) | (decide; done))); (conv => whnf)) | (refine onB_intro (fun hb => ?_) (fun hb => ?_) <;> (try simp only [decide_eq_true_eq, decide_eq_false_iff_not, Bool.not_eq_true', Bool.not_eq_false', Bool.and_eq_true, Bool.and_eq_false_iff, Int.not_le, Int.not_lt, bsz, ByteArray.toList_eq, beq_iff_eq, beq_eq_false_iff_ne, ne_eq] at hb) <;> (try (exfalso; omega)) <;> (try (exfalso; first | contradiction | (simp [ByteArray.toList_eq] at hb; done))) <;> (conv => whnf)) | (refine (hQ _ _ _ ?_).1; (conv => whnf)) | (refine ⟨_, rfl, ?_⟩; (conv => whnf)) | (refine ⟨_, mp_cut _ _ _, ?_⟩; (conv => whnf)) | (refine ⟨_, dbs_cut _ _ _, ?_⟩; (conv => whnf)) | (refine ⟨[_], rfl, ?_⟩; (conv => whnf)) | (refine ⟨[_, _], rfl, ?_⟩; (conv => whnf)) | (refine ⟨[_, _, _], rfl, ?_⟩; (conv => whnf)) | (refine ⟨[_, _, _, _], rfl, ?_⟩; (conv => whnf)) | fail)
      exact ret_objz (cs := acc.flatMap Ver.pv) rfl rfl rfl rfl rfl (sub_slice Ver.len acc) rfl (fun F => rfl) (fun F => rfl) (fun id cs => rfl)
/-- F_codec_source_sources -/
theorem sources_meets (s : Sr) (hs : s.b.length ≤ 70368744177664) : Meets Try.prog F_codec_source_sources ⟨[.c (.ptr 0 0)], [(0, sob s)], 1, .c (dsous s.sous.1), [(0, sob s.sous.2)], 1⟩ := by
  have hr := s.count_range 512 (by omega)
  unfold Sr.sous Sr.list
  dsimp only
  have m1 := count_meets 512 s (by show s.b.length ≤ _; omega)
  have l1 := s.count_len 512
  generalize s.count 512 = x at m1 l1 hr ⊢
  obtain ⟨c, t⟩ := x
  dsimp only at m1 l1 hr ⊢
  obtain ⟨n, rfl⟩ := Int.eq_ofNat_of_zero_le hr.1
  rw [Int.toNat_natCast]
  refine fits_codec_source_sources.meets rfl (by simp) fun Q hQ => ?_
  (conv => whnf); repeat' (first | (refine And.intro ?_ ?_; (focus (first | omega | (dsimp only; omega) | (simp only [List.length_append]; omega) | (simp [pb]; done) | (simp [pb]; omega) | (simp [zeros_u8, pb]; done) | (simp [zeros_u8, pb]; omega) | (simp [ByteArray.size]; omega) | exact Nat.le_of_ble_eq_true rfl | exact u64_nonneg _ | (show chkDraw _ _ = true; kernel_rfl) | (decide; done))); (conv => whnf)) | (refine onB_intro (fun hb => ?_) (fun hb => ?_) <;> (try simp only [decide_eq_true_eq, decide_eq_false_iff_not, Bool.not_eq_true', Bool.not_eq_false', Bool.and_eq_true, Bool.and_eq_false_iff, Int.not_le, Int.not_lt, bsz, ByteArray.toList_eq, beq_iff_eq, beq_eq_false_iff_ne, ne_eq] at hb) <;> (try (exfalso; omega)) <;> (try (exfalso; first | contradiction | (simp [ByteArray.toList_eq] at hb; done))) <;> (conv => whnf)) | (refine (hQ _ _ _ ?_).1; (conv => whnf)) | (refine ⟨_, rfl, ?_⟩; (conv => whnf)) | (refine ⟨_, mp_cut _ _ _, ?_⟩; (conv => whnf)) | (refine ⟨_, dbs_cut _ _ _, ?_⟩; (conv => whnf)) | (refine ⟨[_], rfl, ?_⟩; (conv => whnf)) | (refine ⟨[_, _], rfl, ?_⟩; (conv => whnf)) | (refine ⟨[_, _, _], rfl, ?_⟩; (conv => whnf)) | (refine ⟨[_, _, _, _], rfl, ?_⟩; (conv => whnf)) | (apply call_obj (m1) (fun F => by first | exact rfl | exact bob_ren F _ | exact ob_ren F _ _) (fun F => by first | exact rfl | exact bob_ren F _ | exact ob_ren F _ _); (focus ((repeat' (first | exact trivial | exact Sub.refl _ | exact sub_nil | exact Or.inl rfl | exact Or.inr ⟨rfl, rfl⟩ | (refine sub_ref ?_; (first | omega | (simp; done) | (simp; omega))) | (refine sub_int ?_; (first | omega | rfl | (simp [bsz]; done))) | refine sub_tup ?_ | exact sub_agg_dbs_r | exact sub_agg_take_r rfl (by first | assumption | omega) | (refine sub_agg_take rfl ?_; (first | ((try rw [dbs_length]); assumption) | ((try rw [dbs_length]); omega))) | refine sub_agg ?_ | (refine sub_val ?_ ?_ <;> (first | omega | (simp [pb, List.map_take, List.map_drop, List.take_take]; done) | (simp [pb, List.map_take, List.map_drop]; omega) | (simp [pb, List.take_of_length_le]; done))) | (refine or_val ?_ ?_ <;> (first | omega | (simp [pb, List.map_take, List.map_drop, List.take_take]; done) | (simp [pb, List.map_take, List.map_drop]; omega) | (simp [pb, List.take_of_length_le]; done))) | refine And.intro ?_ ?_)); done)); (focus (first | exact rfl | exact hp_eq rfl (dbs_app _ _ _ rfl) | exact hp_eq rfl (dbs_appo _ _ _ _ rfl rfl) | (refine hp_eq rfl ?_; (simp only [bob, ← List.length_append, dbs_appo', dbs_app', bsz]; done)) | (refine hp_eq rfl ?_; (simp [dbs, pb]; done)))); (conv => whnf)) | fail)
  refine loop_fam (fun i : Nat × List Sou × Sr => ⟨[(0, .c (.ptr 0 0)), (3, vi n), (4, .c (.ref 1 0 i.2.1.length 2)), (5, vi i.1)], [(0, sob i.2.2), (1, ⟨T_api_Source, (i.2.1.flatMap Sou.pv).map DV.p⟩)], 2⟩) (fun i => n - i.1)
    (fun i => i.1 ≤ n ∧ i.2.2.b.length ≤ t.b.length ∧ i.2.1.length = i.1 ∧ (i.2.1 ++ (many Sr.sou (n - i.1) i.2.2).1, (many Sr.sou (n - i.1) i.2.2).2) = many Sr.sou n t) (0, [], t)
    ((Wk.adopt 4 2 T_api_Source rfl).trans (wkn [(1, 2)] rfl rfl (by repeat' (first | exact trivial | exact Sub.refl _ | refine And.intro ?_ ?_)) ⟨rfl, hp_pure rfl rfl, trivial⟩)) ⟨Nat.zero_le _, Nat.le_refl _, rfl, by simp⟩ ?_
  rintro ⟨k, acc, s⟩ ⟨hk, hsl, hal, hmany⟩ K hK
  dsimp only at hk hsl hal hmany
  by_cases hgo : k < n ∧ s.e = 0
  · obtain ⟨hkn, hse⟩ := hgo
    have hsok : s.ok := by show s.b.length ≤ _; omega
    have hxl : ((acc.flatMap Sou.pv).map DV.p).length = acc.length * 2 := by rw [List.length_map, flat_len Sou.len]
    have hm1 : many Sr.sou (n - k) s = ((Sr.sou s).1 :: (many Sr.sou (n - (k + 1)) (Sr.sou s).2).1, (many Sr.sou (n - (k + 1)) (Sr.sou s).2).2) := by
      rw [show n - k = (n - (k + 1)) + 1 by omega, many, if_pos hse]
    rw [hm1] at hmany
    have hfl := Sr.sou_len s
    rw [sou_eq s] at hmany hfl; dsimp only at hmany hfl; have m0 := number_meets s hsok; have g0 := s.int_len; generalize s.int = x0 at m0 g0 hmany hfl; obtain ⟨v0, u0⟩ := x0; dsimp only at m0 g0 hmany hfl; have m1 := number_meets u0 (by show u0.b.length ≤ _; omega); have g1 := u0.int_len; generalize u0.int = x1 at m1 g1 hmany hfl; obtain ⟨v1, u1⟩ := x1; dsimp only at m1 g1 hmany hfl
    (conv => whnf); repeat' (first | (refine And.intro ?_ ?_; (focus (first | omega | (dsimp only; omega) | (simp only [List.length_append]; omega) | (simp [pb]; done) | (simp [pb]; omega) | (simp [zeros_u8, pb]; done) | (simp [zeros_u8, pb]; omega) | (simp [ByteArray.size]; omega) | exact Nat.le_of_ble_eq_true rfl | exact u64_nonneg _ | (show chkDraw _ _ = true; kernel_rfl) | (decide; done))); (conv => whnf)) | (refine onB_intro (fun hb => ?_) (fun hb => ?_) <;> (try simp only [decide_eq_true_eq, decide_eq_false_iff_not, Bool.not_eq_true', Bool.not_eq_false', Bool.and_eq_true, Bool.and_eq_false_iff, Int.not_le, Int.not_lt, bsz, ByteArray.toList_eq, beq_iff_eq, beq_eq_false_iff_ne, ne_eq] at hb) <;> (try (exfalso; omega)) <;> (try (exfalso; first | contradiction | (simp [ByteArray.toList_eq] at hb; done))) <;> (conv => whnf)) | (refine (hQ _ _ _ ?_).1; (conv => whnf)) | (refine ⟨_, rfl, ?_⟩; (conv => whnf)) | (refine ⟨_, mp_cut _ _ _, ?_⟩; (conv => whnf)) | (refine ⟨_, dbs_cut _ _ _, ?_⟩; (conv => whnf)) | (refine ⟨[_], rfl, ?_⟩; (conv => whnf)) | (refine ⟨[_, _], rfl, ?_⟩; (conv => whnf)) | (refine ⟨[_, _, _], rfl, ?_⟩; (conv => whnf)) | (refine ⟨[_, _, _, _], rfl, ?_⟩; (conv => whnf)) | (apply call_obj (m0) (fun F => by first | exact rfl | exact bob_ren F _ | exact ob_ren F _ _) (fun F => by first | exact rfl | exact bob_ren F _ | exact ob_ren F _ _); (focus ((repeat' (first | exact trivial | exact Sub.refl _ | exact sub_nil | exact Or.inl rfl | exact Or.inr ⟨rfl, rfl⟩ | (refine sub_ref ?_; (first | omega | (simp; done) | (simp; omega))) | (refine sub_int ?_; (first | omega | rfl | (simp [bsz]; done))) | refine sub_tup ?_ | exact sub_agg_dbs_r | exact sub_agg_take_r rfl (by first | assumption | omega) | (refine sub_agg_take rfl ?_; (first | ((try rw [dbs_length]); assumption) | ((try rw [dbs_length]); omega))) | refine sub_agg ?_ | (refine sub_val ?_ ?_ <;> (first | omega | (simp [pb, List.map_take, List.map_drop, List.take_take]; done) | (simp [pb, List.map_take, List.map_drop]; omega) | (simp [pb, List.take_of_length_le]; done))) | (refine or_val ?_ ?_ <;> (first | omega | (simp [pb, List.map_take, List.map_drop, List.take_take]; done) | (simp [pb, List.map_take, List.map_drop]; omega) | (simp [pb, List.take_of_length_le]; done))) | refine And.intro ?_ ?_)); done)); (focus (first | exact rfl | exact hp_eq rfl (dbs_app _ _ _ rfl) | exact hp_eq rfl (dbs_appo _ _ _ _ rfl rfl) | (refine hp_eq rfl ?_; (simp only [bob, ← List.length_append, dbs_appo', dbs_app', bsz]; done)) | (refine hp_eq rfl ?_; (simp [dbs, pb]; done)))); (conv => whnf)) | (apply call_obj (m1) (fun F => by first | exact rfl | exact bob_ren F _ | exact ob_ren F _ _) (fun F => by first | exact rfl | exact bob_ren F _ | exact ob_ren F _ _); (focus ((repeat' (first | exact trivial | exact Sub.refl _ | exact sub_nil | exact Or.inl rfl | exact Or.inr ⟨rfl, rfl⟩ | (refine sub_ref ?_; (first | omega | (simp; done) | (simp; omega))) | (refine sub_int ?_; (first | omega | rfl | (simp [bsz]; done))) | refine sub_tup ?_ | exact sub_agg_dbs_r | exact sub_agg_take_r rfl (by first | assumption | omega) | (refine sub_agg_take rfl ?_; (first | ((try rw [dbs_length]); assumption) | ((try rw [dbs_length]); omega))) | refine sub_agg ?_ | (refine sub_val ?_ ?_ <;> (first | omega | (simp [pb, List.map_take, List.map_drop, List.take_take]; done) | (simp [pb, List.map_take, List.map_drop]; omega) | (simp [pb, List.take_of_length_le]; done))) | (refine or_val ?_ ?_ <;> (first | omega | (simp [pb, List.map_take, List.map_drop, List.take_take]; done) | (simp [pb, List.map_take, List.map_drop]; omega) | (simp [pb, List.take_of_length_le]; done))) | refine And.intro ?_ ?_)); done)); (focus (first | exact rfl | exact hp_eq rfl (dbs_app _ _ _ rfl) | exact hp_eq rfl (dbs_appo _ _ _ _ rfl rfl) | (refine hp_eq rfl ?_; (simp only [bob, ← List.length_append, dbs_appo', dbs_app', bsz]; done)) | (refine hp_eq rfl ?_; (simp [dbs, pb]; done)))); (conv => whnf)) | fail)
    refine hK _ _ _ (k + 1, acc ++ [(⟨v0, v1⟩ : Sou)], u1) ⟨by dsimp only; omega, by dsimp only; omega, by simp [hal], by dsimp only; rw [← hmany, List.append_assoc]; rfl⟩ (by dsimp only; omega) (wkn [(1, 5)] rfl rfl (by repeat' (first | exact trivial | exact Sub.refl _ | exact sub_ref (by simp) | exact sub_int (by dsimp only; omega) | refine And.intro ?_ ?_)) ⟨rfl, hp_pure rfl (cells_snoc Sou.len acc (⟨v0, v1⟩ : Sou)), trivial⟩)
  · have hm1 : many Sr.sou (n - k) s = ([], s) := by
      cases hq : n - k with
      | zero => rfl
      | succ q => rw [many, if_neg (fun h => hgo ⟨by omega, h⟩)]
    rw [hm1] at hmany
    have hmany : (acc, s) = many Sr.sou n t := by rw [← hmany]; simp
    rw [← hmany] at hQ
    rcases Nat.lt_or_ge k n with hkn | hkn
    · have hse : ¬ s.e = 0 := fun h => hgo ⟨hkn, h⟩
      (conv => whnf); repeat' (first | (refine And.intro ?_ ?_; (focus (first | omega | (dsimp only; omega) | (simp only [List.length_append]; omega) | (simp [pb]; done) | (simp [pb]; omega) | (simp [zeros_u8, pb]; done) | (simp [zeros_u8, pb]; omega) | (simp [ByteArray.size]; omega) | exact Nat.le_of_ble_eq_true rfl | exact u64_nonneg _ | (show chkDraw _ _ = true; kernel_rfl) | (decide; done))); (conv => whnf)) | (refine onB_intro (fun hb => ?_) (fun hb => ?_) <;> (try simp only [decide_eq_true_eq, decide_eq_false_iff_not, Bool.not_eq_true', Bool.not_eq_false', Bool.and_eq_true, Bool.and_eq_false_iff, Int.not_le, Int.not_lt, bsz, ByteArray.toList_eq, beq_iff_eq, beq_eq_false_iff_ne, ne_eq] at hb) <;> (try (exfalso; omega)) <;> (try (exfalso; first | contradiction | (simp [ByteArray.toList_eq] at hb; done))) <;> (conv => whnf)) | (refine (hQ _ _ _ ?_).1; (conv => whnf)) | (refine ⟨_, rfl, ?_⟩; (conv => whnf)) | (refine ⟨_, mp_cut _ _ _, ?_⟩; (conv => whnf)) | (refine ⟨_, dbs_cut _ _ _, ?_⟩; (conv => whnf)) | (refine ⟨[_], rfl, ?_⟩; (conv => whnf)) | (refine ⟨[_, _], rfl, ?_⟩; (conv => whnf)) | (refine ⟨[_, _, _], rfl, ?_⟩; (conv => whnf)) | (refine ⟨[_, _, _, _], rfl, ?_⟩; (conv => whnf)) | fail)
      exact ret_objz (cs := acc.flatMap Sou.pv) rfl rfl rfl rfl rfl (sub_slice Sou.len acc) rfl (fun F => rfl) (fun F => rfl) (fun id cs => rfl)
    · (conv => whnf); repeat' (first | (refine And.intro ?_ ?_; (focus (first | omega | (dsimp only; omega) | (simp only [List.length_append]; omega) | (simp [pb]; done) | (simp [pb]; omega) | (simp [zeros_u8, pb]; done) | (simp [zeros_u8, pb]; omega) | (simp [ByteArray.size]; omega) | exact Nat.le_of_ble_eq_true rfl | exact u64_nonneg _ | (show chkDraw _ _ = true; kernel_rfl) | (decide; done))); (conv => whnf)) | (refine onB_intro (fun hb => ?_) (fun hb => ?_) <;> (try simp only [decide_eq_true_eq, decide_eq_false_iff_not, Bool.not_eq_true', Bool.not_eq_false', Bool.and_eq_true, Bool.and_eq_false_iff, Int.not_le, Int.not_lt, bsz, ByteArray.toList_eq, beq_iff_eq, beq_eq_false_iff_ne, ne_eq] at hb) <;> (try (exfalso; omega)) <;> (try (exfalso; first | contradiction | (simp [ByteArray.toList_eq] at hb; done))) <;> (conv => whnf)) | (refine (hQ _ _ _ ?_).1; (conv => whnf)) | (refine ⟨_, rfl, ?_⟩; (conv => whnf)) | (refine ⟨_, mp_cut _ _ _, ?_⟩; (conv => whnf)) | (refine ⟨_, dbs_cut _ _ _, ?_⟩; (conv => whnf)) | (refine ⟨[_], rfl, ?_⟩; (conv => whnf)) | (refine ⟨[_, _], rfl, ?_⟩; (conv => whnf)) | (refine ⟨[_, _, _], rfl, ?_⟩; (conv => whnf)) | (refine ⟨[_, _, _, _], rfl, ?_⟩; (conv => whnf)) | fail)
      exact ret_objz (cs := acc.flatMap Sou.pv) rfl rfl rfl rfl rfl (sub_slice Sou.len acc) rfl (fun F => rfl) (fun F => rfl) (fun id cs => rfl)
/-- F_codec_source_identifier -/
theorem identifier_meets (s : Sr) (hs : s.b.length ≤ 70368744177664) : Meets Try.prog F_codec_source_identifier ⟨[.c (.ptr 0 0)], [(0, sob s)], 1, .agg (s.ident.1).enc, [(0, sob s.ident.2)], 1⟩ := by
  unfold Sr.ident
  dsimp only
  have m0 := text_meets 16 s (by first | omega | (show s.b.length ≤ _; omega))
  have l0 := s.text_len 16
  generalize s.text 16 = x at m0 l0 ⊢
  obtain ⟨v0, u0⟩ := x
  dsimp only at m0 l0 ⊢
  have m1 := value_meets u0 (by first | omega | (show u0.b.length ≤ _; omega))
  have l1 := u0.value_len
  generalize u0.value = x at m1 l1 ⊢
  obtain ⟨v1, u1⟩ := x
  dsimp only at m1 l1 ⊢
  refine fits_codec_source_identifier.meets rfl (by simp) fun Q hQ => ?_
  (conv => whnf); repeat' (first | (refine And.intro ?_ ?_; (focus (first | omega | (dsimp only; omega) | (simp only [List.length_append]; omega) | (simp [pb]; done) | (simp [pb]; omega) | (simp [zeros_u8, pb]; done) | (simp [zeros_u8, pb]; omega) | (simp [ByteArray.size]; omega) | exact Nat.le_of_ble_eq_true rfl | exact u64_nonneg _ | (show chkDraw _ _ = true; kernel_rfl) | (decide; done))); (conv => whnf)) | (refine onB_intro (fun hb => ?_) (fun hb => ?_) <;> (try simp only [decide_eq_true_eq, decide_eq_false_iff_not, Bool.not_eq_true', Bool.not_eq_false', Bool.and_eq_true, Bool.and_eq_false_iff, Int.not_le, Int.not_lt, bsz, ByteArray.toList_eq, beq_iff_eq, beq_eq_false_iff_ne, ne_eq] at hb) <;> (try (exfalso; omega)) <;> (try (exfalso; first | contradiction | (simp [ByteArray.toList_eq] at hb; done))) <;> (conv => whnf)) | (refine (hQ _ _ _ ?_).1; (conv => whnf)) | (refine ⟨_, rfl, ?_⟩; (conv => whnf)) | (refine ⟨_, mp_cut _ _ _, ?_⟩; (conv => whnf)) | (refine ⟨_, dbs_cut _ _ _, ?_⟩; (conv => whnf)) | (refine ⟨[_], rfl, ?_⟩; (conv => whnf)) | (refine ⟨[_, _], rfl, ?_⟩; (conv => whnf)) | (refine ⟨[_, _, _], rfl, ?_⟩; (conv => whnf)) | (refine ⟨[_, _, _, _], rfl, ?_⟩; (conv => whnf)) | (apply call_obj (m0) (fun F => by first | exact rfl | exact bob_ren F _ | exact ob_ren F _ _) (fun F => by first | exact rfl | exact bob_ren F _ | exact ob_ren F _ _); (focus ((repeat' (first | exact trivial | exact Sub.refl _ | exact sub_nil | exact Or.inl rfl | exact Or.inr ⟨rfl, rfl⟩ | (refine sub_ref ?_; (first | omega | (simp; done) | (simp; omega))) | (refine sub_int ?_; (first | omega | rfl | (simp [bsz]; done))) | refine sub_tup ?_ | exact sub_agg_dbs_r | exact sub_agg_take_r rfl (by first | assumption | omega) | (refine sub_agg_take rfl ?_; (first | ((try rw [dbs_length]); assumption) | ((try rw [dbs_length]); omega))) | refine sub_agg ?_ | (refine sub_val ?_ ?_ <;> (first | omega | (simp [pb, List.map_take, List.map_drop, List.take_take]; done) | (simp [pb, List.map_take, List.map_drop]; omega) | (simp [pb, List.take_of_length_le]; done))) | (refine or_val ?_ ?_ <;> (first | omega | (simp [pb, List.map_take, List.map_drop, List.take_take]; done) | (simp [pb, List.map_take, List.map_drop]; omega) | (simp [pb, List.take_of_length_le]; done))) | refine And.intro ?_ ?_)); done)); (focus (first | exact rfl | exact hp_eq rfl (dbs_app _ _ _ rfl) | exact hp_eq rfl (dbs_appo _ _ _ _ rfl rfl) | (refine hp_eq rfl ?_; (simp only [bob, ← List.length_append, dbs_appo', dbs_app', bsz]; done)) | (refine hp_eq rfl ?_; (simp [dbs, pb]; done)))); (conv => whnf)) | (apply call_obj (m1) (fun F => by first | exact rfl | exact bob_ren F _ | exact ob_ren F _ _) (fun F => by first | exact rfl | exact bob_ren F _ | exact ob_ren F _ _); (focus ((repeat' (first | exact trivial | exact Sub.refl _ | exact sub_nil | exact Or.inl rfl | exact Or.inr ⟨rfl, rfl⟩ | (refine sub_ref ?_; (first | omega | (simp; done) | (simp; omega))) | (refine sub_int ?_; (first | omega | rfl | (simp [bsz]; done))) | refine sub_tup ?_ | exact sub_agg_dbs_r | exact sub_agg_take_r rfl (by first | assumption | omega) | (refine sub_agg_take rfl ?_; (first | ((try rw [dbs_length]); assumption) | ((try rw [dbs_length]); omega))) | refine sub_agg ?_ | (refine sub_val ?_ ?_ <;> (first | omega | (simp [pb, List.map_take, List.map_drop, List.take_take]; done) | (simp [pb, List.map_take, List.map_drop]; omega) | (simp [pb, List.take_of_length_le]; done))) | (refine or_val ?_ ?_ <;> (first | omega | (simp [pb, List.map_take, List.map_drop, List.take_take]; done) | (simp [pb, List.map_take, List.map_drop]; omega) | (simp [pb, List.take_of_length_le]; done))) | refine And.intro ?_ ?_)); done)); (focus (first | exact rfl | exact hp_eq rfl (dbs_app _ _ _ rfl) | exact hp_eq rfl (dbs_appo _ _ _ _ rfl rfl) | (refine hp_eq rfl ?_; (simp only [bob, ← List.length_append, dbs_appo', dbs_app', bsz]; done)) | (refine hp_eq rfl ?_; (simp [dbs, pb]; done)))); (conv => whnf)) | fail)
  all_goals (refine ret_obj rfl ?_ rfl ?_ (fun F => by first | exact rfl | (simp only [TV.rens, TV.ren, dbs_ren]; rfl) | (simp [TV.rens, TV.ren, dbs_ren, map_ren_p]; done)) (fun F => by first | exact rfl | exact bob_ren F _ | exact ob_ren F _ _); (focus ((repeat' (first | exact trivial | exact Sub.refl _ | exact sub_nil | exact Or.inl rfl | exact Or.inr ⟨rfl, rfl⟩ | (refine sub_ref ?_; (first | omega | (simp; done) | (simp; omega))) | (refine sub_int ?_; (first | omega | rfl | (simp [bsz]; done))) | refine sub_tup ?_ | exact sub_agg_dbs_r | exact sub_agg_take_r rfl (by first | assumption | omega) | (refine sub_agg_take rfl ?_; (first | ((try rw [dbs_length]); assumption) | ((try rw [dbs_length]); omega))) | refine sub_agg ?_ | (refine sub_val ?_ ?_ <;> (first | omega | (simp [pb, List.map_take, List.map_drop, List.take_take]; done) | (simp [pb, List.map_take, List.map_drop]; omega) | (simp [pb, List.take_of_length_le]; done))) | (refine or_val ?_ ?_ <;> (first | omega | (simp [pb, List.map_take, List.map_drop, List.take_take]; done) | (simp [pb, List.map_take, List.map_drop]; omega) | (simp [pb, List.take_of_length_le]; done))) | refine And.intro ?_ ?_)); done)); (first | rfl | (refine ob2_eq ?_ ?_ <;> (first | rfl | assumption | (simp only [*]; done) | (refine dv_val ?_ ?_ <;> (first | rfl | omega | (simp [pb, List.map_take, List.map_drop, List.take_of_length_le]; done) | (simp [pb, List.map_take, List.map_drop]; omega)))))))
/-- F_codec_source_link -/
theorem link_meets (s : Sr) (hs : s.b.length ≤ 70368744177664) : Meets Try.prog F_codec_source_link ⟨[.c (.ptr 0 0)], [(0, sob s)], 1, .agg (s.link.1).enc, [(0, sob s.link.2)], 1⟩ := by
  unfold Sr.link
  dsimp only
  have m0 := identifier_meets s (by first | omega | (show s.b.length ≤ _; omega))
  have l0 := s.ident_len
  generalize s.ident = x at m0 l0 ⊢
  obtain ⟨v0, u0⟩ := x
  dsimp only at m0 l0 ⊢
  have m1 := identifier_meets u0 (by first | omega | (show u0.b.length ≤ _; omega))
  have l1 := u0.ident_len
  generalize u0.ident = x at m1 l1 ⊢
  obtain ⟨v1, u1⟩ := x
  dsimp only at m1 l1 ⊢
  have m2 := number_meets u1 (by first | omega | (show u1.b.length ≤ _; omega))
  have l2 := u1.int_len
  generalize u1.int = x at m2 l2 ⊢
  obtain ⟨v2, u2⟩ := x
  dsimp only at m2 l2 ⊢
  have m3 := count_meets 1 u2 (by first | omega | (show u2.b.length ≤ _; omega))
  have l3 := u2.count_len 1
  generalize u2.count 1 = x at m3 l3 ⊢
  obtain ⟨v3, u3⟩ := x
  dsimp only at m3 l3 ⊢
  refine fits_codec_source_link.meets rfl (by simp) fun Q hQ => ?_
  (conv => whnf); repeat' (first | (refine And.intro ?_ ?_; (focus (first | omega | (dsimp only; omega) | (simp only [List.length_append]; omega) | (simp [pb]; done) | (simp [pb]; omega) | (simp [zeros_u8, pb]; done) | (simp [zeros_u8, pb]; omega) | (simp [ByteArray.size]; omega) | exact Nat.le_of_ble_eq_true rfl | exact u64_nonneg _ | (show chkDraw _ _ = true; kernel_rfl) | (decide; done))); (conv => whnf)) | (refine onB_intro (fun hb => ?_) (fun hb => ?_) <;> (try simp only [decide_eq_true_eq, decide_eq_false_iff_not, Bool.not_eq_true', Bool.not_eq_false', Bool.and_eq_true, Bool.and_eq_false_iff, Int.not_le, Int.not_lt, bsz, ByteArray.toList_eq, beq_iff_eq, beq_eq_false_iff_ne, ne_eq] at hb) <;> (try (exfalso; omega)) <;> (try (exfalso; first | contradiction | (simp [ByteArray.toList_eq] at hb; done))) <;> (conv => whnf)) | (refine (hQ _ _ _ ?_).1; (conv => whnf)) | (refine ⟨_, rfl, ?_⟩; (conv => whnf)) | (refine ⟨_, mp_cut _ _ _, ?_⟩; (conv => whnf)) | (refine ⟨_, dbs_cut _ _ _, ?_⟩; (conv => whnf)) | (refine ⟨[_], rfl, ?_⟩; (conv => whnf)) | (refine ⟨[_, _], rfl, ?_⟩; (conv => whnf)) | (refine ⟨[_, _, _], rfl, ?_⟩; (conv => whnf)) | (refine ⟨[_, _, _, _], rfl, ?_⟩; (conv => whnf)) | (apply call_obj (m0) (fun F => by first | exact rfl | exact bob_ren F _ | exact ob_ren F _ _) (fun F => by first | exact rfl | exact bob_ren F _ | exact ob_ren F _ _); (focus ((repeat' (first | exact trivial | exact Sub.refl _ | exact sub_nil | exact Or.inl rfl | exact Or.inr ⟨rfl, rfl⟩ | (refine sub_ref ?_; (first | omega | (simp; done) | (simp; omega))) | (refine sub_int ?_; (first | omega | rfl | (simp [bsz]; done))) | refine sub_tup ?_ | exact sub_agg_dbs_r | exact sub_agg_take_r rfl (by first | assumption | omega) | (refine sub_agg_take rfl ?_; (first | ((try rw [dbs_length]); assumption) | ((try rw [dbs_length]); omega))) | refine sub_agg ?_ | (refine sub_val ?_ ?_ <;> (first | omega | (simp [pb, List.map_take, List.map_drop, List.take_take]; done) | (simp [pb, List.map_take, List.map_drop]; omega) | (simp [pb, List.take_of_length_le]; done))) | (refine or_val ?_ ?_ <;> (first | omega | (simp [pb, List.map_take, List.map_drop, List.take_take]; done) | (simp [pb, List.map_take, List.map_drop]; omega) | (simp [pb, List.take_of_length_le]; done))) | refine And.intro ?_ ?_)); done)); (focus (first | exact rfl | exact hp_eq rfl (dbs_app _ _ _ rfl) | exact hp_eq rfl (dbs_appo _ _ _ _ rfl rfl) | (refine hp_eq rfl ?_; (simp only [bob, ← List.length_append, dbs_appo', dbs_app', bsz]; done)) | (refine hp_eq rfl ?_; (simp [dbs, pb]; done)))); (conv => whnf)) | (apply call_obj (m1) (fun F => by first | exact rfl | exact bob_ren F _ | exact ob_ren F _ _) (fun F => by first | exact rfl | exact bob_ren F _ | exact ob_ren F _ _); (focus ((repeat' (first | exact trivial | exact Sub.refl _ | exact sub_nil | exact Or.inl rfl | exact Or.inr ⟨rfl, rfl⟩ | (refine sub_ref ?_; (first | omega | (simp; done) | (simp; omega))) | (refine sub_int ?_; (first | omega | rfl | (simp [bsz]; done))) | refine sub_tup ?_ | exact sub_agg_dbs_r | exact sub_agg_take_r rfl (by first | assumption | omega) | (refine sub_agg_take rfl ?_; (first | ((try rw [dbs_length]); assumption) | ((try rw [dbs_length]); omega))) | refine sub_agg ?_ | (refine sub_val ?_ ?_ <;> (first | omega | (simp [pb, List.map_take, List.map_drop, List.take_take]; done) | (simp [pb, List.map_take, List.map_drop]; omega) | (simp [pb, List.take_of_length_le]; done))) | (refine or_val ?_ ?_ <;> (first | omega | (simp [pb, List.map_take, List.map_drop, List.take_take]; done) | (simp [pb, List.map_take, List.map_drop]; omega) | (simp [pb, List.take_of_length_le]; done))) | refine And.intro ?_ ?_)); done)); (focus (first | exact rfl | exact hp_eq rfl (dbs_app _ _ _ rfl) | exact hp_eq rfl (dbs_appo _ _ _ _ rfl rfl) | (refine hp_eq rfl ?_; (simp only [bob, ← List.length_append, dbs_appo', dbs_app', bsz]; done)) | (refine hp_eq rfl ?_; (simp [dbs, pb]; done)))); (conv => whnf)) | (apply call_obj (m2) (fun F => by first | exact rfl | exact bob_ren F _ | exact ob_ren F _ _) (fun F => by first | exact rfl | exact bob_ren F _ | exact ob_ren F _ _); (focus ((repeat' (first | exact trivial | exact Sub.refl _ | exact sub_nil | exact Or.inl rfl | exact Or.inr ⟨rfl, rfl⟩ | (refine sub_ref ?_; (first | omega | (simp; done) | (simp; omega))) | (refine sub_int ?_; (first | omega | rfl | (simp [bsz]; done))) | refine sub_tup ?_ | exact sub_agg_dbs_r | exact sub_agg_take_r rfl (by first | assumption | omega) | (refine sub_agg_take rfl ?_; (first | ((try rw [dbs_length]); assumption) | ((try rw [dbs_length]); omega))) | refine sub_agg ?_ | (refine sub_val ?_ ?_ <;> (first | omega | (simp [pb, List.map_take, List.map_drop, List.take_take]; done) | (simp [pb, List.map_take, List.map_drop]; omega) | (simp [pb, List.take_of_length_le]; done))) | (refine or_val ?_ ?_ <;> (first | omega | (simp [pb, List.map_take, List.map_drop, List.take_take]; done) | (simp [pb, List.map_take, List.map_drop]; omega) | (simp [pb, List.take_of_length_le]; done))) | refine And.intro ?_ ?_)); done)); (focus (first | exact rfl | exact hp_eq rfl (dbs_app _ _ _ rfl) | exact hp_eq rfl (dbs_appo _ _ _ _ rfl rfl) | (refine hp_eq rfl ?_; (simp only [bob, ← List.length_append, dbs_appo', dbs_app', bsz]; done)) | (refine hp_eq rfl ?_; (simp [dbs, pb]; done)))); (conv => whnf)) | (apply call_obj (m3) (fun F => by first | exact rfl | exact bob_ren F _ | exact ob_ren F _ _) (fun F => by first | exact rfl | exact bob_ren F _ | exact ob_ren F _ _); (focus ((repeat' (first | exact trivial | exact Sub.refl _ | exact sub_nil | exact Or.inl rfl | exact Or.inr ⟨rfl, rfl⟩ | (refine sub_ref ?_; (first | omega | (simp; done) | (simp; omega))) | (refine sub_int ?_; (first | omega | rfl | (simp [bsz]; done))) | refine sub_tup ?_ | exact sub_agg_dbs_r | exact sub_agg_take_r rfl (by first | assumption | omega) | (refine sub_agg_take rfl ?_; (first | ((try rw [dbs_length]); assumption) | ((try rw [dbs_length]); omega))) | refine sub_agg ?_ | (refine sub_val ?_ ?_ <;> (first | omega | (simp [pb, List.map_take, List.map_drop, List.take_take]; done) | (simp [pb, List.map_take, List.map_drop]; omega) | (simp [pb, List.take_of_length_le]; done))) | (refine or_val ?_ ?_ <;> (first | omega | (simp [pb, List.map_take, List.map_drop, List.take_take]; done) | (simp [pb, List.map_take, List.map_drop]; omega) | (simp [pb, List.take_of_length_le]; done))) | refine And.intro ?_ ?_)); done)); (focus (first | exact rfl | exact hp_eq rfl (dbs_app _ _ _ rfl) | exact hp_eq rfl (dbs_appo _ _ _ _ rfl rfl) | (refine hp_eq rfl ?_; (simp only [bob, ← List.length_append, dbs_appo', dbs_app', bsz]; done)) | (refine hp_eq rfl ?_; (simp [dbs, pb]; done)))); (conv => whnf)) | fail)
  all_goals (refine ret_obj rfl ?_ rfl ?_ (fun F => by first | exact rfl | (simp only [TV.rens, TV.ren, dbs_ren]; rfl) | (simp [TV.rens, TV.ren, dbs_ren, map_ren_p]; done)) (fun F => by first | exact rfl | exact bob_ren F _ | exact ob_ren F _ _); (focus ((repeat' (first | exact trivial | exact Sub.refl _ | exact sub_nil | exact Or.inl rfl | exact Or.inr ⟨rfl, rfl⟩ | (refine sub_ref ?_; (first | omega | (simp; done) | (simp; omega))) | (refine sub_int ?_; (first | omega | rfl | (simp [bsz]; done))) | refine sub_tup ?_ | exact sub_agg_dbs_r | exact sub_agg_take_r rfl (by first | assumption | omega) | (refine sub_agg_take rfl ?_; (first | ((try rw [dbs_length]); assumption) | ((try rw [dbs_length]); omega))) | refine sub_agg ?_ | (refine sub_val ?_ ?_ <;> (first | omega | (simp [pb, List.map_take, List.map_drop, List.take_take]; done) | (simp [pb, List.map_take, List.map_drop]; omega) | (simp [pb, List.take_of_length_le]; done))) | (refine or_val ?_ ?_ <;> (first | omega | (simp [pb, List.map_take, List.map_drop, List.take_take]; done) | (simp [pb, List.map_take, List.map_drop]; omega) | (simp [pb, List.take_of_length_le]; done))) | refine And.intro ?_ ?_)); done)); (first | rfl | (refine ob2_eq ?_ ?_ <;> (first | rfl | assumption | (simp only [*]; done) | (refine dv_val ?_ ?_ <;> (first | rfl | omega | (simp [pb, List.map_take, List.map_drop, List.take_of_length_le]; done) | (simp [pb, List.map_take, List.map_drop]; omega)))))))
/-- F_codec_source_hold -/
theorem hold_meets (s : Sr) (hs : s.b.length ≤ 70368744177664) : Meets Try.prog F_codec_source_hold ⟨[.c (.ptr 0 0)], [(0, sob s)], 1, .agg (s.hold.1).enc, [(0, sob s.hold.2)], 1⟩ := by
  unfold Sr.hold
  dsimp only
  have m0 := number_meets s (by first | omega | (show s.b.length ≤ _; omega))
  have l0 := s.int_len
  generalize s.int = x at m0 l0 ⊢
  obtain ⟨v0, u0⟩ := x
  dsimp only at m0 l0 ⊢
  have m1 := number_meets u0 (by first | omega | (show u0.b.length ≤ _; omega))
  have l1 := u0.int_len
  generalize u0.int = x at m1 l1 ⊢
  obtain ⟨v1, u1⟩ := x
  dsimp only at m1 l1 ⊢
  have m2 := identifier_meets u1 (by first | omega | (show u1.b.length ≤ _; omega))
  have l2 := u1.ident_len
  generalize u1.ident = x at m2 l2 ⊢
  obtain ⟨v2, u2⟩ := x
  dsimp only at m2 l2 ⊢
  have m3 := number_meets u2 (by first | omega | (show u2.b.length ≤ _; omega))
  have l3 := u2.int_len
  generalize u2.int = x at m3 l3 ⊢
  obtain ⟨v3, u3⟩ := x
  dsimp only at m3 l3 ⊢
  have m4 := number_meets u3 (by first | omega | (show u3.b.length ≤ _; omega))
  have l4 := u3.int_len
  generalize u3.int = x at m4 l4 ⊢
  obtain ⟨v4, u4⟩ := x
  dsimp only at m4 l4 ⊢
  have m5 := number_meets u4 (by first | omega | (show u4.b.length ≤ _; omega))
  have l5 := u4.int_len
  generalize u4.int = x at m5 l5 ⊢
  obtain ⟨v5, u5⟩ := x
  dsimp only at m5 l5 ⊢
  refine fits_codec_source_hold.meets rfl (by simp) fun Q hQ => ?_
  (conv => whnf); repeat' (first | (refine And.intro ?_ ?_; (focus (first | omega | (dsimp only; omega) | (simp only [List.length_append]; omega) | (simp [pb]; done) | (simp [pb]; omega) | (simp [zeros_u8, pb]; done) | (simp [zeros_u8, pb]; omega) | (simp [ByteArray.size]; omega) | exact Nat.le_of_ble_eq_true rfl | exact u64_nonneg _ | (show chkDraw _ _ = true; kernel_rfl) | (decide; done))); (conv => whnf)) | (refine onB_intro (fun hb => ?_) (fun hb => ?_) <;> (try simp only [decide_eq_true_eq, decide_eq_false_iff_not, Bool.not_eq_true', Bool.not_eq_false', Bool.and_eq_true, Bool.and_eq_false_iff, Int.not_le, Int.not_lt, bsz, ByteArray.toList_eq, beq_iff_eq, beq_eq_false_iff_ne, ne_eq] at hb) <;> (try (exfalso; omega)) <;> (try (exfalso; first | contradiction | (simp [ByteArray.toList_eq] at hb; done))) <;> (conv => whnf)) | (refine (hQ _ _ _ ?_).1; (conv => whnf)) | (refine ⟨_, rfl, ?_⟩; (conv => whnf)) | (refine ⟨_, mp_cut _ _ _, ?_⟩; (conv => whnf)) | (refine ⟨_, dbs_cut _ _ _, ?_⟩; (conv => whnf)) | (refine ⟨[_], rfl, ?_⟩; (conv => whnf)) | (refine ⟨[_, _], rfl, ?_⟩; (conv => whnf)) | (refine ⟨[_, _, _], rfl, ?_⟩; (conv => whnf)) | (refine ⟨[_, _, _, _], rfl, ?_⟩; (conv => whnf)) | (apply call_obj (m0) (fun F => by first | exact rfl | exact bob_ren F _ | exact ob_ren F _ _) (fun F => by first | exact rfl | exact bob_ren F _ | exact ob_ren F _ _); (focus ((repeat' (first | exact trivial | exact Sub.refl _ | exact sub_nil | exact Or.inl rfl | exact Or.inr ⟨rfl, rfl⟩ | (refine sub_ref ?_; (first | omega | (simp; done) | (simp; omega))) | (refine sub_int ?_; (first | omega | rfl | (simp [bsz]; done))) | refine sub_tup ?_ | exact sub_agg_dbs_r | exact sub_agg_take_r rfl (by first | assumption | omega) | (refine sub_agg_take rfl ?_; (first | ((try rw [dbs_length]); assumption) | ((try rw [dbs_length]); omega))) | refine sub_agg ?_ | (refine sub_val ?_ ?_ <;> (first | omega | (simp [pb, List.map_take, List.map_drop, List.take_take]; done) | (simp [pb, List.map_take, List.map_drop]; omega) | (simp [pb, List.take_of_length_le]; done))) | (refine or_val ?_ ?_ <;> (first | omega | (simp [pb, List.map_take, List.map_drop, List.take_take]; done) | (simp [pb, List.map_take, List.map_drop]; omega) | (simp [pb, List.take_of_length_le]; done))) | refine And.intro ?_ ?_)); done)); (focus (first | exact rfl | exact hp_eq rfl (dbs_app _ _ _ rfl) | exact hp_eq rfl (dbs_appo _ _ _ _ rfl rfl) | (refine hp_eq rfl ?_; (simp only [bob, ← List.length_append, dbs_appo', dbs_app', bsz]; done)) | (refine hp_eq rfl ?_; (simp [dbs, pb]; done)))); (conv => whnf)) | (apply call_obj (m1) (fun F => by first | exact rfl | exact bob_ren F _ | exact ob_ren F _ _) (fun F => by first | exact rfl | exact bob_ren F _ | exact ob_ren F _ _); (focus ((repeat' (first | exact trivial | exact Sub.refl _ | exact sub_nil | exact Or.inl rfl | exact Or.inr ⟨rfl, rfl⟩ | (refine sub_ref ?_; (first | omega | (simp; done) | (simp; omega))) | (refine sub_int ?_; (first | omega | rfl | (simp [bsz]; done))) | refine sub_tup ?_ | exact sub_agg_dbs_r | exact sub_agg_take_r rfl (by first | assumption | omega) | (refine sub_agg_take rfl ?_; (first | ((try rw [dbs_length]); assumption) | ((try rw [dbs_length]); omega))) | refine sub_agg ?_ | (refine sub_val ?_ ?_ <;> (first | omega | (simp [pb, List.map_take, List.map_drop, List.take_take]; done) | (simp [pb, List.map_take, List.map_drop]; omega) | (simp [pb, List.take_of_length_le]; done))) | (refine or_val ?_ ?_ <;> (first | omega | (simp [pb, List.map_take, List.map_drop, List.take_take]; done) | (simp [pb, List.map_take, List.map_drop]; omega) | (simp [pb, List.take_of_length_le]; done))) | refine And.intro ?_ ?_)); done)); (focus (first | exact rfl | exact hp_eq rfl (dbs_app _ _ _ rfl) | exact hp_eq rfl (dbs_appo _ _ _ _ rfl rfl) | (refine hp_eq rfl ?_; (simp only [bob, ← List.length_append, dbs_appo', dbs_app', bsz]; done)) | (refine hp_eq rfl ?_; (simp [dbs, pb]; done)))); (conv => whnf)) | (apply call_obj (m2) (fun F => by first | exact rfl | exact bob_ren F _ | exact ob_ren F _ _) (fun F => by first | exact rfl | exact bob_ren F _ | exact ob_ren F _ _); (focus ((repeat' (first | exact trivial | exact Sub.refl _ | exact sub_nil | exact Or.inl rfl | exact Or.inr ⟨rfl, rfl⟩ | (refine sub_ref ?_; (first | omega | (simp; done) | (simp; omega))) | (refine sub_int ?_; (first | omega | rfl | (simp [bsz]; done))) | refine sub_tup ?_ | exact sub_agg_dbs_r | exact sub_agg_take_r rfl (by first | assumption | omega) | (refine sub_agg_take rfl ?_; (first | ((try rw [dbs_length]); assumption) | ((try rw [dbs_length]); omega))) | refine sub_agg ?_ | (refine sub_val ?_ ?_ <;> (first | omega | (simp [pb, List.map_take, List.map_drop, List.take_take]; done) | (simp [pb, List.map_take, List.map_drop]; omega) | (simp [pb, List.take_of_length_le]; done))) | (refine or_val ?_ ?_ <;> (first | omega | (simp [pb, List.map_take, List.map_drop, List.take_take]; done) | (simp [pb, List.map_take, List.map_drop]; omega) | (simp [pb, List.take_of_length_le]; done))) | refine And.intro ?_ ?_)); done)); (focus (first | exact rfl | exact hp_eq rfl (dbs_app _ _ _ rfl) | exact hp_eq rfl (dbs_appo _ _ _ _ rfl rfl) | (refine hp_eq rfl ?_; (simp only [bob, ← List.length_append, dbs_appo', dbs_app', bsz]; done)) | (refine hp_eq rfl ?_; (simp [dbs, pb]; done)))); (conv => whnf)) | (apply call_obj (m3) (fun F => by first | exact rfl | exact bob_ren F _ | exact ob_ren F _ _) (fun F => by first | exact rfl | exact bob_ren F _ | exact ob_ren F _ _); (focus ((repeat' (first | exact trivial | exact Sub.refl _ | exact sub_nil | exact Or.inl rfl | exact Or.inr ⟨rfl, rfl⟩ | (refine sub_ref ?_; (first | omega | (simp; done) | (simp; omega))) | (refine sub_int ?_; (first | omega | rfl | (simp [bsz]; done))) | refine sub_tup ?_ | exact sub_agg_dbs_r | exact sub_agg_take_r rfl (by first | assumption | omega) | (refine sub_agg_take rfl ?_; (first | ((try rw [dbs_length]); assumption) | ((try rw [dbs_length]); omega))) | refine sub_agg ?_ | (refine sub_val ?_ ?_ <;> (first | omega | (simp [pb, List.map_take, List.map_drop, List.take_take]; done) | (simp [pb, List.map_take, List.map_drop]; omega) | (simp [pb, List.take_of_length_le]; done))) | (refine or_val ?_ ?_ <;> (first | omega | (simp [pb, List.map_take, List.map_drop, List.take_take]; done) | (simp [pb, List.map_take, List.map_drop]; omega) | (simp [pb, List.take_of_length_le]; done))) | refine And.intro ?_ ?_)); done)); (focus (first | exact rfl | exact hp_eq rfl (dbs_app _ _ _ rfl) | exact hp_eq rfl (dbs_appo _ _ _ _ rfl rfl) | (refine hp_eq rfl ?_; (simp only [bob, ← List.length_append, dbs_appo', dbs_app', bsz]; done)) | (refine hp_eq rfl ?_; (simp [dbs, pb]; done)))); (conv => whnf)) | (apply call_obj (m4) (fun F => by first | exact rfl | exact bob_ren F _ | exact ob_ren F _ _) (fun F => by first | exact rfl | exact bob_ren F _ | exact ob_ren F _ _); (focus ((repeat' (first | exact trivial | exact Sub.refl _ | exact sub_nil | exact Or.inl rfl | exact Or.inr ⟨rfl, rfl⟩ | (refine sub_ref ?_; (first | omega | (simp; done) | (simp; omega))) | (refine sub_int ?_; (first | omega | rfl | (simp [bsz]; done))) | refine sub_tup ?_ | exact sub_agg_dbs_r | exact sub_agg_take_r rfl (by first | assumption | omega) | (refine sub_agg_take rfl ?_; (first | ((try rw [dbs_length]); assumption) | ((try rw [dbs_length]); omega))) | refine sub_agg ?_ | (refine sub_val ?_ ?_ <;> (first | omega | (simp [pb, List.map_take, List.map_drop, List.take_take]; done) | (simp [pb, List.map_take, List.map_drop]; omega) | (simp [pb, List.take_of_length_le]; done))) | (refine or_val ?_ ?_ <;> (first | omega | (simp [pb, List.map_take, List.map_drop, List.take_take]; done) | (simp [pb, List.map_take, List.map_drop]; omega) | (simp [pb, List.take_of_length_le]; done))) | refine And.intro ?_ ?_)); done)); (focus (first | exact rfl | exact hp_eq rfl (dbs_app _ _ _ rfl) | exact hp_eq rfl (dbs_appo _ _ _ _ rfl rfl) | (refine hp_eq rfl ?_; (simp only [bob, ← List.length_append, dbs_appo', dbs_app', bsz]; done)) | (refine hp_eq rfl ?_; (simp [dbs, pb]; done)))); (conv => whnf)) | (apply call_obj (m5) (fun F => by first | exact rfl | exact bob_ren F _ | exact ob_ren F _ _) (fun F => by first | exact rfl | exact bob_ren F _ | exact ob_ren F _ _); (focus ((repeat' (first | exact trivial | exact Sub.refl _ | exact sub_nil | exact Or.inl rfl | exact Or.inr ⟨rfl, rfl⟩ | (refine sub_ref ?_; (first | omega | (simp; done) | (simp; omega))) | (refine sub_int ?_; (first | omega | rfl | (simp [bsz]; done))) | refine sub_tup ?_ | exact sub_agg_dbs_r | exact sub_agg_take_r rfl (by first | assumption | omega) | (refine sub_agg_take rfl ?_; (first | ((try rw [dbs_length]); assumption) | ((try rw [dbs_length]); omega))) | refine sub_agg ?_ | (refine sub_val ?_ ?_ <;> (first | omega | (simp [pb, List.map_take, List.map_drop, List.take_take]; done) | (simp [pb, List.map_take, List.map_drop]; omega) | (simp [pb, List.take_of_length_le]; done))) | (refine or_val ?_ ?_ <;> (first | omega | (simp [pb, List.map_take, List.map_drop, List.take_take]; done) | (simp [pb, List.map_take, List.map_drop]; omega) | (simp [pb, List.take_of_length_le]; done))) | refine And.intro ?_ ?_)); done)); (focus (first | exact rfl | exact hp_eq rfl (dbs_app _ _ _ rfl) | exact hp_eq rfl (dbs_appo _ _ _ _ rfl rfl) | (refine hp_eq rfl ?_; (simp only [bob, ← List.length_append, dbs_appo', dbs_app', bsz]; done)) | (refine hp_eq rfl ?_; (simp [dbs, pb]; done)))); (conv => whnf)) | fail)
  all_goals (refine ret_obj rfl ?_ rfl ?_ (fun F => by first | exact rfl | (simp only [TV.rens, TV.ren, dbs_ren]; rfl) | (simp [TV.rens, TV.ren, dbs_ren, map_ren_p]; done)) (fun F => by first | exact rfl | exact bob_ren F _ | exact ob_ren F _ _); (focus ((repeat' (first | exact trivial | exact Sub.refl _ | exact sub_nil | exact Or.inl rfl | exact Or.inr ⟨rfl, rfl⟩ | (refine sub_ref ?_; (first | omega | (simp; done) | (simp; omega))) | (refine sub_int ?_; (first | omega | rfl | (simp [bsz]; done))) | refine sub_tup ?_ | exact sub_agg_dbs_r | exact sub_agg_take_r rfl (by first | assumption | omega) | (refine sub_agg_take rfl ?_; (first | ((try rw [dbs_length]); assumption) | ((try rw [dbs_length]); omega))) | refine sub_agg ?_ | (refine sub_val ?_ ?_ <;> (first | omega | (simp [pb, List.map_take, List.map_drop, List.take_take]; done) | (simp [pb, List.map_take, List.map_drop]; omega) | (simp [pb, List.take_of_length_le]; done))) | (refine or_val ?_ ?_ <;> (first | omega | (simp [pb, List.map_take, List.map_drop, List.take_take]; done) | (simp [pb, List.map_take, List.map_drop]; omega) | (simp [pb, List.take_of_length_le]; done))) | refine And.intro ?_ ?_)); done)); (first | rfl | (refine ob2_eq ?_ ?_ <;> (first | rfl | assumption | (simp only [*]; done) | (refine dv_val ?_ ?_ <;> (first | rfl | omega | (simp [pb, List.map_take, List.map_drop, List.take_of_length_le]; done) | (simp [pb, List.map_take, List.map_drop]; omega)))))))
/-- F_codec_source_request -/
theorem request_meets (s : Sr) (hs : s.b.length ≤ 70368744177664) : Meets Try.prog F_codec_source_request ⟨[.c (.ptr 0 0)], [(0, sob s)], 1, .agg (s.req.1).enc, [(0, sob s.req.2)], 1⟩ := by
  unfold Sr.req
  dsimp only
  have m0 := number_meets s (by first | omega | (show s.b.length ≤ _; omega))
  have l0 := s.int_len
  generalize s.int = x at m0 l0 ⊢
  obtain ⟨v0, u0⟩ := x
  dsimp only at m0 l0 ⊢
  have m1 := identifier_meets u0 (by first | omega | (show u0.b.length ≤ _; omega))
  have l1 := u0.ident_len
  generalize u0.ident = x at m1 l1 ⊢
  obtain ⟨v1, u1⟩ := x
  dsimp only at m1 l1 ⊢
  have m2 := number_meets u1 (by first | omega | (show u1.b.length ≤ _; omega))
  have l2 := u1.int_len
  generalize u1.int = x at m2 l2 ⊢
  obtain ⟨v2, u2⟩ := x
  dsimp only at m2 l2 ⊢
  have m3 := number_meets u2 (by first | omega | (show u2.b.length ≤ _; omega))
  have l3 := u2.int_len
  generalize u2.int = x at m3 l3 ⊢
  obtain ⟨v3, u3⟩ := x
  dsimp only at m3 l3 ⊢
  have m4 := number_meets u3 (by first | omega | (show u3.b.length ≤ _; omega))
  have l4 := u3.int_len
  generalize u3.int = x at m4 l4 ⊢
  obtain ⟨v4, u4⟩ := x
  dsimp only at m4 l4 ⊢
  refine fits_codec_source_request.meets rfl (by simp) fun Q hQ => ?_
  (conv => whnf); repeat' (first | (refine And.intro ?_ ?_; (focus (first | omega | (dsimp only; omega) | (simp only [List.length_append]; omega) | (simp [pb]; done) | (simp [pb]; omega) | (simp [zeros_u8, pb]; done) | (simp [zeros_u8, pb]; omega) | (simp [ByteArray.size]; omega) | exact Nat.le_of_ble_eq_true rfl | exact u64_nonneg _ | (show chkDraw _ _ = true; kernel_rfl) | (decide; done))); (conv => whnf)) | (refine onB_intro (fun hb => ?_) (fun hb => ?_) <;> (try simp only [decide_eq_true_eq, decide_eq_false_iff_not, Bool.not_eq_true', Bool.not_eq_false', Bool.and_eq_true, Bool.and_eq_false_iff, Int.not_le, Int.not_lt, bsz, ByteArray.toList_eq, beq_iff_eq, beq_eq_false_iff_ne, ne_eq] at hb) <;> (try (exfalso; omega)) <;> (try (exfalso; first | contradiction | (simp [ByteArray.toList_eq] at hb; done))) <;> (conv => whnf)) | (refine (hQ _ _ _ ?_).1; (conv => whnf)) | (refine ⟨_, rfl, ?_⟩; (conv => whnf)) | (refine ⟨_, mp_cut _ _ _, ?_⟩; (conv => whnf)) | (refine ⟨_, dbs_cut _ _ _, ?_⟩; (conv => whnf)) | (refine ⟨[_], rfl, ?_⟩; (conv => whnf)) | (refine ⟨[_, _], rfl, ?_⟩; (conv => whnf)) | (refine ⟨[_, _, _], rfl, ?_⟩; (conv => whnf)) | (refine ⟨[_, _, _, _], rfl, ?_⟩; (conv => whnf)) | (apply call_obj (m0) (fun F => by first | exact rfl | exact bob_ren F _ | exact ob_ren F _ _) (fun F => by first | exact rfl | exact bob_ren F _ | exact ob_ren F _ _); (focus ((repeat' (first | exact trivial | exact Sub.refl _ | exact sub_nil | exact Or.inl rfl | exact Or.inr ⟨rfl, rfl⟩ | (refine sub_ref ?_; (first | omega | (simp; done) | (simp; omega))) | (refine sub_int ?_; (first | omega | rfl | (simp [bsz]; done))) | refine sub_tup ?_ | exact sub_agg_dbs_r | exact sub_agg_take_r rfl (by first | assumption | omega) | (refine sub_agg_take rfl ?_; (first | ((try rw [dbs_length]); assumption) | ((try rw [dbs_length]); omega))) | refine sub_agg ?_ | (refine sub_val ?_ ?_ <;> (first | omega | (simp [pb, List.map_take, List.map_drop, List.take_take]; done) | (simp [pb, List.map_take, List.map_drop]; omega) | (simp [pb, List.take_of_length_le]; done))) | (refine or_val ?_ ?_ <;> (first | omega | (simp [pb, List.map_take, List.map_drop, List.take_take]; done) | (simp [pb, List.map_take, List.map_drop]; omega) | (simp [pb, List.take_of_length_le]; done))) | refine And.intro ?_ ?_)); done)); (focus (first | exact rfl | exact hp_eq rfl (dbs_app _ _ _ rfl) | exact hp_eq rfl (dbs_appo _ _ _ _ rfl rfl) | (refine hp_eq rfl ?_; (simp only [bob, ← List.length_append, dbs_appo', dbs_app', bsz]; done)) | (refine hp_eq rfl ?_; (simp [dbs, pb]; done)))); (conv => whnf)) | (apply call_obj (m1) (fun F => by first | exact rfl | exact bob_ren F _ | exact ob_ren F _ _) (fun F => by first | exact rfl | exact bob_ren F _ | exact ob_ren F _ _); (focus ((repeat' (first | exact trivial | exact Sub.refl _ | exact sub_nil | exact Or.inl rfl | exact Or.inr ⟨rfl, rfl⟩ | (refine sub_ref ?_; (first | omega | (simp; done) | (simp; omega))) | (refine sub_int ?_; (first | omega | rfl | (simp [bsz]; done))) | refine sub_tup ?_ | exact sub_agg_dbs_r | exact sub_agg_take_r rfl (by first | assumption | omega) | (refine sub_agg_take rfl ?_; (first | ((try rw [dbs_length]); assumption) | ((try rw [dbs_length]); omega))) | refine sub_agg ?_ | (refine sub_val ?_ ?_ <;> (first | omega | (simp [pb, List.map_take, List.map_drop, List.take_take]; done) | (simp [pb, List.map_take, List.map_drop]; omega) | (simp [pb, List.take_of_length_le]; done))) | (refine or_val ?_ ?_ <;> (first | omega | (simp [pb, List.map_take, List.map_drop, List.take_take]; done) | (simp [pb, List.map_take, List.map_drop]; omega) | (simp [pb, List.take_of_length_le]; done))) | refine And.intro ?_ ?_)); done)); (focus (first | exact rfl | exact hp_eq rfl (dbs_app _ _ _ rfl) | exact hp_eq rfl (dbs_appo _ _ _ _ rfl rfl) | (refine hp_eq rfl ?_; (simp only [bob, ← List.length_append, dbs_appo', dbs_app', bsz]; done)) | (refine hp_eq rfl ?_; (simp [dbs, pb]; done)))); (conv => whnf)) | (apply call_obj (m2) (fun F => by first | exact rfl | exact bob_ren F _ | exact ob_ren F _ _) (fun F => by first | exact rfl | exact bob_ren F _ | exact ob_ren F _ _); (focus ((repeat' (first | exact trivial | exact Sub.refl _ | exact sub_nil | exact Or.inl rfl | exact Or.inr ⟨rfl, rfl⟩ | (refine sub_ref ?_; (first | omega | (simp; done) | (simp; omega))) | (refine sub_int ?_; (first | omega | rfl | (simp [bsz]; done))) | refine sub_tup ?_ | exact sub_agg_dbs_r | exact sub_agg_take_r rfl (by first | assumption | omega) | (refine sub_agg_take rfl ?_; (first | ((try rw [dbs_length]); assumption) | ((try rw [dbs_length]); omega))) | refine sub_agg ?_ | (refine sub_val ?_ ?_ <;> (first | omega | (simp [pb, List.map_take, List.map_drop, List.take_take]; done) | (simp [pb, List.map_take, List.map_drop]; omega) | (simp [pb, List.take_of_length_le]; done))) | (refine or_val ?_ ?_ <;> (first | omega | (simp [pb, List.map_take, List.map_drop, List.take_take]; done) | (simp [pb, List.map_take, List.map_drop]; omega) | (simp [pb, List.take_of_length_le]; done))) | refine And.intro ?_ ?_)); done)); (focus (first | exact rfl | exact hp_eq rfl (dbs_app _ _ _ rfl) | exact hp_eq rfl (dbs_appo _ _ _ _ rfl rfl) | (refine hp_eq rfl ?_; (simp only [bob, ← List.length_append, dbs_appo', dbs_app', bsz]; done)) | (refine hp_eq rfl ?_; (simp [dbs, pb]; done)))); (conv => whnf)) | (apply call_obj (m3) (fun F => by first | exact rfl | exact bob_ren F _ | exact ob_ren F _ _) (fun F => by first | exact rfl | exact bob_ren F _ | exact ob_ren F _ _); (focus ((repeat' (first | exact trivial | exact Sub.refl _ | exact sub_nil | exact Or.inl rfl | exact Or.inr ⟨rfl, rfl⟩ | (refine sub_ref ?_; (first | omega | (simp; done) | (simp; omega))) | (refine sub_int ?_; (first | omega | rfl | (simp [bsz]; done))) | refine sub_tup ?_ | exact sub_agg_dbs_r | exact sub_agg_take_r rfl (by first | assumption | omega) | (refine sub_agg_take rfl ?_; (first | ((try rw [dbs_length]); assumption) | ((try rw [dbs_length]); omega))) | refine sub_agg ?_ | (refine sub_val ?_ ?_ <;> (first | omega | (simp [pb, List.map_take, List.map_drop, List.take_take]; done) | (simp [pb, List.map_take, List.map_drop]; omega) | (simp [pb, List.take_of_length_le]; done))) | (refine or_val ?_ ?_ <;> (first | omega | (simp [pb, List.map_take, List.map_drop, List.take_take]; done) | (simp [pb, List.map_take, List.map_drop]; omega) | (simp [pb, List.take_of_length_le]; done))) | refine And.intro ?_ ?_)); done)); (focus (first | exact rfl | exact hp_eq rfl (dbs_app _ _ _ rfl) | exact hp_eq rfl (dbs_appo _ _ _ _ rfl rfl) | (refine hp_eq rfl ?_; (simp only [bob, ← List.length_append, dbs_appo', dbs_app', bsz]; done)) | (refine hp_eq rfl ?_; (simp [dbs, pb]; done)))); (conv => whnf)) | (apply call_obj (m4) (fun F => by first | exact rfl | exact bob_ren F _ | exact ob_ren F _ _) (fun F => by first | exact rfl | exact bob_ren F _ | exact ob_ren F _ _); (focus ((repeat' (first | exact trivial | exact Sub.refl _ | exact sub_nil | exact Or.inl rfl | exact Or.inr ⟨rfl, rfl⟩ | (refine sub_ref ?_; (first | omega | (simp; done) | (simp; omega))) | (refine sub_int ?_; (first | omega | rfl | (simp [bsz]; done))) | refine sub_tup ?_ | exact sub_agg_dbs_r | exact sub_agg_take_r rfl (by first | assumption | omega) | (refine sub_agg_take rfl ?_; (first | ((try rw [dbs_length]); assumption) | ((try rw [dbs_length]); omega))) | refine sub_agg ?_ | (refine sub_val ?_ ?_ <;> (first | omega | (simp [pb, List.map_take, List.map_drop, List.take_take]; done) | (simp [pb, List.map_take, List.map_drop]; omega) | (simp [pb, List.take_of_length_le]; done))) | (refine or_val ?_ ?_ <;> (first | omega | (simp [pb, List.map_take, List.map_drop, List.take_take]; done) | (simp [pb, List.map_take, List.map_drop]; omega) | (simp [pb, List.take_of_length_le]; done))) | refine And.intro ?_ ?_)); done)); (focus (first | exact rfl | exact hp_eq rfl (dbs_app _ _ _ rfl) | exact hp_eq rfl (dbs_appo _ _ _ _ rfl rfl) | (refine hp_eq rfl ?_; (simp only [bob, ← List.length_append, dbs_appo', dbs_app', bsz]; done)) | (refine hp_eq rfl ?_; (simp [dbs, pb]; done)))); (conv => whnf)) | fail)
  all_goals (refine ret_obj rfl ?_ rfl ?_ (fun F => by first | exact rfl | (simp only [TV.rens, TV.ren, dbs_ren]; rfl) | (simp [TV.rens, TV.ren, dbs_ren, map_ren_p]; done)) (fun F => by first | exact rfl | exact bob_ren F _ | exact ob_ren F _ _); (focus ((repeat' (first | exact trivial | exact Sub.refl _ | exact sub_nil | exact Or.inl rfl | exact Or.inr ⟨rfl, rfl⟩ | (refine sub_ref ?_; (first | omega | (simp; done) | (simp; omega))) | (refine sub_int ?_; (first | omega | rfl | (simp [bsz]; done))) | refine sub_tup ?_ | exact sub_agg_dbs_r | exact sub_agg_take_r rfl (by first | assumption | omega) | (refine sub_agg_take rfl ?_; (first | ((try rw [dbs_length]); assumption) | ((try rw [dbs_length]); omega))) | refine sub_agg ?_ | (refine sub_val ?_ ?_ <;> (first | omega | (simp [pb, List.map_take, List.map_drop, List.take_take]; done) | (simp [pb, List.map_take, List.map_drop]; omega) | (simp [pb, List.take_of_length_le]; done))) | (refine or_val ?_ ?_ <;> (first | omega | (simp [pb, List.map_take, List.map_drop, List.take_take]; done) | (simp [pb, List.map_take, List.map_drop]; omega) | (simp [pb, List.take_of_length_le]; done))) | refine And.intro ?_ ?_)); done)); (first | rfl | (refine ob2_eq ?_ ?_ <;> (first | rfl | assumption | (simp only [*]; done) | (refine dv_val ?_ ?_ <;> (first | rfl | omega | (simp [pb, List.map_take, List.map_drop, List.take_of_length_le]; done) | (simp [pb, List.map_take, List.map_drop]; omega)))))))
end Go.Proofs.Ytjieenfbfckafaa.Am
namespace Go.Proofs.Ytjieenfbfckafaa.Am
open Go
set_option linter.unusedVariables false
set_option linter.unusedSimpArgs false
set_option maxRecDepth 100000
set_option maxHeartbeats 1000000
theorem sub_agg_eq {ds es : List DV} (h : ds = es) : Sub (.agg ds) (.agg es) := by subst h; exact Sub.refl _
theorem agg_ren (F : Nat → Nat) (l : List UInt8) : (TV.agg (dbs l)).ren F = .agg (dbs l) := by
  show TV.agg ((dbs l).map (DV.ren F)) = _
  rw [dbs_ren]
theorem take32 (s : Sr) : ((s.take 32).2.e = 0 ∧ (s.take 32).1.length = 32) ∨ ((s.take 32).2.e ≠ 0 ∧ (s.take 32).1 = []) := by
  unfold Sr.take
  split
  · split
    · exact .inr ⟨by simp, rfl⟩
    · exact .inl ⟨rfl, by simp; omega⟩
  · exact .inr ⟨by assumption, rfl⟩
/-- codec.source.digest -/
theorem digest_meets (s : Sr) (hs : s.b.length ≤ 70368744177664) : Meets Try.prog F_codec_source_digest ⟨[.c (.ptr 0 0)], [(0, sob s)], 1, .agg (dbs s.digest.1), [(0, sob s.digest.2)], 1⟩ := by
  unfold Sr.digest
  dsimp only
  have h := take32 s
  have m1 := take_meets 32 s (by show s.b.length ≤ _; omega)
  generalize s.take 32 = x at m1 h ⊢
  obtain ⟨l, t⟩ := x
  dsimp only at m1 h ⊢
  rcases h with ⟨he, hl⟩ | ⟨he, hl⟩
  · rw [if_pos he]
    refine fits_codec_source_digest.meets rfl (by simp) fun Q hQ => ?_
    (conv => whnf); repeat' (first | (refine And.intro ?_ ?_; (focus (first | omega | (dsimp only; omega) | (simp only [List.length_append]; omega) | (simp [pb]; done) | (simp [pb]; omega) | (simp [zeros_u8, pb]; done) | (simp [zeros_u8, pb]; omega) | (simp [ByteArray.size]; omega) | exact Nat.le_of_ble_eq_true rfl | exact u64_nonneg _ | (show chkDraw _ _ = true; kernel_rfl) | (decide; done))); (conv => whnf)) | (refine onB_intro (fun hb => ?_) (fun hb => ?_) <;> (try simp only [decide_eq_true_eq, decide_eq_false_iff_not, Bool.not_eq_true', Bool.not_eq_false', Bool.and_eq_true, Bool.and_eq_false_iff, Int.not_le, Int.not_lt, bsz, ByteArray.toList_eq, beq_iff_eq, beq_eq_false_iff_ne, ne_eq] at hb) <;> (try (exfalso; omega)) <;> (try (exfalso; first | contradiction | (simp [ByteArray.toList_eq] at hb; done))) <;> (conv => whnf)) | (refine (hQ _ _ _ ?_).1; (conv => whnf)) | (refine ⟨_, rfl, ?_⟩; (conv => whnf)) | (refine ⟨_, mp_cut _ _ _, ?_⟩; (conv => whnf)) | (refine ⟨_, dbs_cut _ _ _, ?_⟩; (conv => whnf)) | (refine ⟨[_], rfl, ?_⟩; (conv => whnf)) | (refine ⟨[_, _], rfl, ?_⟩; (conv => whnf)) | (refine ⟨[_, _, _], rfl, ?_⟩; (conv => whnf)) | (refine ⟨[_, _, _, _], rfl, ?_⟩; (conv => whnf)) | (apply call_obj (m1) (fun F => by first | exact rfl | exact bob_ren F _ | exact ob_ren F _ _) (fun F => by first | exact rfl | exact bob_ren F _ | exact ob_ren F _ _); (focus ((repeat' (first | exact trivial | exact Sub.refl _ | exact sub_nil | exact Or.inl rfl | exact Or.inr ⟨rfl, rfl⟩ | (refine sub_ref ?_; (first | omega | (simp; done) | (simp; omega))) | (refine sub_int ?_; (first | omega | rfl | (simp [bsz]; done))) | refine sub_tup ?_ | exact sub_agg_dbs_r | exact sub_agg_take_r rfl (by first | assumption | omega) | (refine sub_agg_take rfl ?_; (first | ((try rw [dbs_length]); assumption) | ((try rw [dbs_length]); omega))) | refine sub_agg ?_ | (refine sub_val ?_ ?_ <;> (first | omega | (simp [pb, List.map_take, List.map_drop, List.take_take]; done) | (simp [pb, List.map_take, List.map_drop]; omega) | (simp [pb, List.take_of_length_le]; done))) | (refine or_val ?_ ?_ <;> (first | omega | (simp [pb, List.map_take, List.map_drop, List.take_take]; done) | (simp [pb, List.map_take, List.map_drop]; omega) | (simp [pb, List.take_of_length_le]; done))) | refine And.intro ?_ ?_)); done)); (focus (first | exact rfl | exact hp_eq rfl (dbs_app _ _ _ rfl) | exact hp_eq rfl (dbs_appo _ _ _ _ rfl rfl) | (refine hp_eq rfl ?_; (simp only [bob, ← List.length_append, dbs_appo', dbs_app', bsz]; done)) | (refine hp_eq rfl ?_; (simp [dbs, pb]; done)))); (conv => whnf)) | (simp only [hl]; (conv => whnf)) | fail)
    refine ret_obj rfl (sub_agg_eq ?_) rfl rfl (fun F => agg_ren F _) (fun F => rfl)
    simp [hl, dbs, pb, List.take_of_length_le]
  · subst hl
    rw [if_neg he]
    refine fits_codec_source_digest.meets rfl (by simp) fun Q hQ => ?_
    (conv => whnf); repeat' (first | (refine And.intro ?_ ?_; (focus (first | omega | (dsimp only; omega) | (simp only [List.length_append]; omega) | (simp [pb]; done) | (simp [pb]; omega) | (simp [zeros_u8, pb]; done) | (simp [zeros_u8, pb]; omega) | (simp [ByteArray.size]; omega) | exact Nat.le_of_ble_eq_true rfl | exact u64_nonneg _ | (show chkDraw _ _ = true; kernel_rfl) | (decide; done))); (conv => whnf)) | (refine onB_intro (fun hb => ?_) (fun hb => ?_) <;> (try simp only [decide_eq_true_eq, decide_eq_false_iff_not, Bool.not_eq_true', Bool.not_eq_false', Bool.and_eq_true, Bool.and_eq_false_iff, Int.not_le, Int.not_lt, bsz, ByteArray.toList_eq, beq_iff_eq, beq_eq_false_iff_ne, ne_eq] at hb) <;> (try (exfalso; omega)) <;> (try (exfalso; first | contradiction | (simp [ByteArray.toList_eq] at hb; done))) <;> (conv => whnf)) | (refine (hQ _ _ _ ?_).1; (conv => whnf)) | (refine ⟨_, rfl, ?_⟩; (conv => whnf)) | (refine ⟨_, mp_cut _ _ _, ?_⟩; (conv => whnf)) | (refine ⟨_, dbs_cut _ _ _, ?_⟩; (conv => whnf)) | (refine ⟨[_], rfl, ?_⟩; (conv => whnf)) | (refine ⟨[_, _], rfl, ?_⟩; (conv => whnf)) | (refine ⟨[_, _, _], rfl, ?_⟩; (conv => whnf)) | (refine ⟨[_, _, _, _], rfl, ?_⟩; (conv => whnf)) | (apply call_obj (m1) (fun F => by first | exact rfl | exact bob_ren F _ | exact ob_ren F _ _) (fun F => by first | exact rfl | exact bob_ren F _ | exact ob_ren F _ _); (focus ((repeat' (first | exact trivial | exact Sub.refl _ | exact sub_nil | exact Or.inl rfl | exact Or.inr ⟨rfl, rfl⟩ | (refine sub_ref ?_; (first | omega | (simp; done) | (simp; omega))) | (refine sub_int ?_; (first | omega | rfl | (simp [bsz]; done))) | refine sub_tup ?_ | exact sub_agg_dbs_r | exact sub_agg_take_r rfl (by first | assumption | omega) | (refine sub_agg_take rfl ?_; (first | ((try rw [dbs_length]); assumption) | ((try rw [dbs_length]); omega))) | refine sub_agg ?_ | (refine sub_val ?_ ?_ <;> (first | omega | (simp [pb, List.map_take, List.map_drop, List.take_take]; done) | (simp [pb, List.map_take, List.map_drop]; omega) | (simp [pb, List.take_of_length_le]; done))) | (refine or_val ?_ ?_ <;> (first | omega | (simp [pb, List.map_take, List.map_drop, List.take_take]; done) | (simp [pb, List.map_take, List.map_drop]; omega) | (simp [pb, List.take_of_length_le]; done))) | refine And.intro ?_ ?_)); done)); (focus (first | exact rfl | exact hp_eq rfl (dbs_app _ _ _ rfl) | exact hp_eq rfl (dbs_appo _ _ _ _ rfl rfl) | (refine hp_eq rfl ?_; (simp only [bob, ← List.length_append, dbs_appo', dbs_app', bsz]; done)) | (refine hp_eq rfl ?_; (simp [dbs, pb]; done)))); (conv => whnf)) | fail)
    exact ret_obj rfl (sub_agg_eq rfl) rfl rfl (fun F => agg_ren F _) (fun F => rfl)
end Go.Proofs.Ytjieenfbfckafaa.Am
namespace Go.Proofs.Ytjieenfbfckafaa.Am
open Go
set_option linter.unusedVariables false
set_option linter.unusedSimpArgs false
set_option maxRecDepth 100000
set_option maxHeartbeats 1000000
/-- A datum, the bytes behind it and OK; or an error. -/
def readR {α : Type} (f : Sr → α × Sr) (z : α) (b : List UInt8) : α × List UInt8 × Int := if (f ⟨b, 0⟩).2.e = 0 then ((f ⟨b, 0⟩).1, (f ⟨b, 0⟩).2.b, 0) else (z, [], (f ⟨b, 0⟩).2.e)
def Ident.zero : Ident := ⟨[], Val.null⟩
def Link.zero : Link := ⟨Ident.zero, Ident.zero, 0, false⟩
def Hold.zero : Hold := ⟨0, 0, Ident.zero, 0, 0, 0⟩
def Req.zero : Req := ⟨0, Ident.zero, 0, 0, 0⟩
theorem Sr.digest32 (s : Sr) : s.digest.1.length = 32 := by
  unfold Sr.digest
  dsimp only
  have h := take32 s
  split
  · rcases h with h | h
    · exact h.2
    · exact absurd (by assumption) h.1
  · rfl
end Go.Proofs.Ytjieenfbfckafaa.Am
namespace Go.Proofs.Ytjieenfbfckafaa.Am
open Go
set_option linter.unusedVariables false
set_option linter.unusedSimpArgs false
set_option maxRecDepth 100000
set_option maxHeartbeats 1000000
theorem Val.ext {a b : Val} (h1 : a.k = b.k) (h2 : a.i = b.i) (h3 : a.t = b.t) : a = b := by cases a; cases b; simp_all
theorem Val.enc_eq (a b : Val) : (a.enc = b.enc) ↔ a = b := by
  constructor
  · intro h; simp at h; exact Val.ext h.1 h.2.1 h.2.2
  · rintro rfl; rfl
theorem Ver.enc_eq (a b : Ver) : (a.enc = b.enc) ↔ a = b := by
  constructor
  · intro h; simp at h; cases a; cases b; simp_all
  · rintro rfl; rfl
theorem Sou.enc_eq (a b : Sou) : (a.enc = b.enc) ↔ a = b := by
  constructor
  · intro h; simp at h; cases a; cases b; simp_all
  · rintro rfl; rfl
instance : DecidableEq Val := fun a b => decidable_of_iff (a.k = b.k ∧ a.i = b.i ∧ a.t = b.t) ⟨fun h => Val.ext h.1 h.2.1 h.2.2, fun h => by subst h; exact ⟨rfl, rfl, rfl⟩⟩
instance : DecidableEq Ver := fun a b => decidable_of_iff (a.t = b.t ∧ a.c = b.c ∧ a.s = b.s) ⟨fun h => by cases a; cases b; simp_all, fun h => by subst h; exact ⟨rfl, rfl, rfl⟩⟩
instance : DecidableEq Sou := fun a b => decidable_of_iff (a.t = b.t ∧ a.s = b.s) ⟨fun h => by cases a; cases b; simp_all, fun h => by subst h; exact ⟨rfl, rfl⟩⟩
theorem take_ext {α : Type} {a b : List α} {k : Nat} (h : a.take k = b.take k) {x y : α} (ha : a[k]? = some x) (hb : b[k]? = some y) (e : x = y) : a.take (k + 1) = b.take (k + 1) := by
  rw [List.take_add_one, List.take_add_one, h, ha, hb, e]
theorem ne_of_get {α : Type} {a b : List α} {k : Nat} {x y : α} (ha : a[k]? = some x) (hb : b[k]? = some y) (h : x ≠ y) : a ≠ b := by
  rintro rfl; rw [ha] at hb; exact h (Option.some.inj hb)
/-- erasureref22.SameVersions -/
theorem same22Versions_meets (a b : List Ver) (hl : a.length ≤ 4611686018427387904) (hl' : b.length ≤ 4611686018427387904) : Meets Try.prog F_erasureref22SameVersions ⟨[.c (dvers a), .c (dvers b)], [], 0, vb (decide (a = b)), [], 0⟩ := by
  refine fits_erasureref22SameVersions.meets rfl (by simp) fun Q hQ => ?_
  by_cases hlen : a.length = b.length
  · (conv => whnf); repeat' (first | (refine And.intro ?_ ?_; (focus (first | omega | (dsimp only; omega) | (simp only [List.length_append]; omega) | (simp [pb]; done) | (simp [pb]; omega) | (simp [zeros_u8, pb]; done) | (simp [zeros_u8, pb]; omega) | (simp [ByteArray.size]; omega) | exact Nat.le_of_ble_eq_true rfl | exact u64_nonneg _ | (show chkDraw _ _ = true; kernel_rfl) | (decide; done))); (conv => whnf)) | (refine onB_intro (fun hb => ?_) (fun hb => ?_) <;> (try simp only [decide_eq_true_eq, decide_eq_false_iff_not, Bool.not_eq_true', Bool.not_eq_false', Bool.and_eq_true, Bool.and_eq_false_iff, Int.not_le, Int.not_lt, bsz, ByteArray.toList_eq, beq_iff_eq, beq_eq_false_iff_ne, ne_eq] at hb) <;> (try (exfalso; omega)) <;> (try (exfalso; first | contradiction | (simp [ByteArray.toList_eq] at hb; done))) <;> (conv => whnf)) | (refine (hQ _ _ _ ?_).1; (conv => whnf)) | (refine ⟨_, rfl, ?_⟩; (conv => whnf)) | (refine ⟨_, mp_cut _ _ _, ?_⟩; (conv => whnf)) | (refine ⟨_, dbs_cut _ _ _, ?_⟩; (conv => whnf)) | (refine ⟨[_], rfl, ?_⟩; (conv => whnf)) | (refine ⟨[_, _], rfl, ?_⟩; (conv => whnf)) | (refine ⟨[_, _, _], rfl, ?_⟩; (conv => whnf)) | (refine ⟨[_, _, _, _], rfl, ?_⟩; (conv => whnf)) | fail)
    refine loop_fam (fun k : Nat => ⟨[(0, .c (dvers a)), (1, .c (dvers b)), (5, vi k)], [], 0⟩) (fun k => a.length - k) (fun k => k ≤ a.length ∧ a.take k = b.take k) 0 (wkn [] rfl rfl ⟨Sub.refl _, Sub.refl _, Sub.refl _, trivial⟩ trivial) ⟨Nat.zero_le _, rfl⟩ ?_
    rintro k ⟨hk, heq⟩ K hK
    rcases Nat.lt_or_ge k a.length with hlt | hge
    · obtain ⟨x, hx⟩ : ∃ x, a[k]? = some x := ⟨_, List.getElem?_eq_getElem hlt⟩
      obtain ⟨y, hy⟩ : ∃ y, b[k]? = some y := ⟨_, List.getElem?_eq_getElem (by omega)⟩
      (conv => whnf); repeat' (first | (refine And.intro ?_ ?_; (focus (first | omega | (dsimp only; omega) | (simp only [List.length_append]; omega) | (simp [pb]; done) | (simp [pb]; omega) | (simp [zeros_u8, pb]; done) | (simp [zeros_u8, pb]; omega) | (simp [ByteArray.size]; omega) | exact Nat.le_of_ble_eq_true rfl | exact u64_nonneg _ | (show chkDraw _ _ = true; kernel_rfl) | (decide; done))); (conv => whnf)) | (refine onB_intro (fun hb => ?_) (fun hb => ?_) <;> (try simp only [decide_eq_true_eq, decide_eq_false_iff_not, Bool.not_eq_true', Bool.not_eq_false', Bool.and_eq_true, Bool.and_eq_false_iff, Int.not_le, Int.not_lt, bsz, ByteArray.toList_eq, beq_iff_eq, beq_eq_false_iff_ne, ne_eq] at hb) <;> (try (exfalso; omega)) <;> (try (exfalso; first | contradiction | (simp [ByteArray.toList_eq] at hb; done))) <;> (conv => whnf)) | (refine (hQ _ _ _ ?_).1; (conv => whnf)) | (refine ⟨_, rfl, ?_⟩; (conv => whnf)) | (refine ⟨_, mp_cut _ _ _, ?_⟩; (conv => whnf)) | (refine ⟨_, dbs_cut _ _ _, ?_⟩; (conv => whnf)) | (refine ⟨[_], rfl, ?_⟩; (conv => whnf)) | (refine ⟨[_, _], rfl, ?_⟩; (conv => whnf)) | (refine ⟨[_, _, _], rfl, ?_⟩; (conv => whnf)) | (refine ⟨[_, _, _, _], rfl, ?_⟩; (conv => whnf)) | (simp only [elem_at' Ver.len hx, elem_at' Ver.len hy]; (conv => whnf)) | fail)
      refine ⟨by simp [fitCKs, fitCK], by simp [fitCKs, fitCK], ?_⟩
      intro q hq
      have hq : q = true ↔ x = y := hq.trans (Ver.enc_eq x y)
      (conv => whnf); repeat' (first | (refine And.intro ?_ ?_; (focus (first | omega | (dsimp only; omega) | (simp only [List.length_append]; omega) | (simp [pb]; done) | (simp [pb]; omega) | (simp [zeros_u8, pb]; done) | (simp [zeros_u8, pb]; omega) | (simp [ByteArray.size]; omega) | exact Nat.le_of_ble_eq_true rfl | exact u64_nonneg _ | (show chkDraw _ _ = true; kernel_rfl) | (decide; done))); (conv => whnf)) | (refine onB_intro (fun hb => ?_) (fun hb => ?_) <;> (try simp only [decide_eq_true_eq, decide_eq_false_iff_not, Bool.not_eq_true', Bool.not_eq_false', Bool.and_eq_true, Bool.and_eq_false_iff, Int.not_le, Int.not_lt, bsz, ByteArray.toList_eq, beq_iff_eq, beq_eq_false_iff_ne, ne_eq] at hb) <;> (try (exfalso; omega)) <;> (try (exfalso; first | contradiction | (simp [ByteArray.toList_eq] at hb; done))) <;> (conv => whnf)) | (refine (hQ _ _ _ ?_).1; (conv => whnf)) | (refine ⟨_, rfl, ?_⟩; (conv => whnf)) | (refine ⟨_, mp_cut _ _ _, ?_⟩; (conv => whnf)) | (refine ⟨_, dbs_cut _ _ _, ?_⟩; (conv => whnf)) | (refine ⟨[_], rfl, ?_⟩; (conv => whnf)) | (refine ⟨[_, _], rfl, ?_⟩; (conv => whnf)) | (refine ⟨[_, _, _], rfl, ?_⟩; (conv => whnf)) | (refine ⟨[_, _, _, _], rfl, ?_⟩; (conv => whnf)) | fail)
      · have hne : x ≠ y := fun e => by have := hq.2 e; simp_all
        refine RetOk.pure' (fun f => rfl) (sub_bool ?_)
        simp [ne_of_get hx hy hne]
      · have he : x = y := hq.1 (by simp_all)
        exact hK _ _ _ (k + 1) ⟨by omega, take_ext heq hx hy he⟩ (by omega) (wkn [] rfl rfl ⟨Sub.refl _, Sub.refl _, sub_int (by omega), trivial⟩ trivial)
    · have : k = a.length := by omega
      subst this
      have he : a = b := by rwa [List.take_length, hlen, List.take_length] at heq
      (conv => whnf); repeat' (first | (refine And.intro ?_ ?_; (focus (first | omega | (dsimp only; omega) | (simp only [List.length_append]; omega) | (simp [pb]; done) | (simp [pb]; omega) | (simp [zeros_u8, pb]; done) | (simp [zeros_u8, pb]; omega) | (simp [ByteArray.size]; omega) | exact Nat.le_of_ble_eq_true rfl | exact u64_nonneg _ | (show chkDraw _ _ = true; kernel_rfl) | (decide; done))); (conv => whnf)) | (refine onB_intro (fun hb => ?_) (fun hb => ?_) <;> (try simp only [decide_eq_true_eq, decide_eq_false_iff_not, Bool.not_eq_true', Bool.not_eq_false', Bool.and_eq_true, Bool.and_eq_false_iff, Int.not_le, Int.not_lt, bsz, ByteArray.toList_eq, beq_iff_eq, beq_eq_false_iff_ne, ne_eq] at hb) <;> (try (exfalso; omega)) <;> (try (exfalso; first | contradiction | (simp [ByteArray.toList_eq] at hb; done))) <;> (conv => whnf)) | (refine (hQ _ _ _ ?_).1; (conv => whnf)) | (refine ⟨_, rfl, ?_⟩; (conv => whnf)) | (refine ⟨_, mp_cut _ _ _, ?_⟩; (conv => whnf)) | (refine ⟨_, dbs_cut _ _ _, ?_⟩; (conv => whnf)) | (refine ⟨[_], rfl, ?_⟩; (conv => whnf)) | (refine ⟨[_, _], rfl, ?_⟩; (conv => whnf)) | (refine ⟨[_, _, _], rfl, ?_⟩; (conv => whnf)) | (refine ⟨[_, _, _, _], rfl, ?_⟩; (conv => whnf)) | fail)
      refine RetOk.pure' (fun f => rfl) (sub_bool ?_)
      simp [he]
  · have hne : a ≠ b := fun e => hlen (by rw [e])
    (conv => whnf); repeat' (first | (refine And.intro ?_ ?_; (focus (first | omega | (dsimp only; omega) | (simp only [List.length_append]; omega) | (simp [pb]; done) | (simp [pb]; omega) | (simp [zeros_u8, pb]; done) | (simp [zeros_u8, pb]; omega) | (simp [ByteArray.size]; omega) | exact Nat.le_of_ble_eq_true rfl | exact u64_nonneg _ | (show chkDraw _ _ = true; kernel_rfl) | (decide; done))); (conv => whnf)) | (refine onB_intro (fun hb => ?_) (fun hb => ?_) <;> (try simp only [decide_eq_true_eq, decide_eq_false_iff_not, Bool.not_eq_true', Bool.not_eq_false', Bool.and_eq_true, Bool.and_eq_false_iff, Int.not_le, Int.not_lt, bsz, ByteArray.toList_eq, beq_iff_eq, beq_eq_false_iff_ne, ne_eq] at hb) <;> (try (exfalso; omega)) <;> (try (exfalso; first | contradiction | (simp [ByteArray.toList_eq] at hb; done))) <;> (conv => whnf)) | (refine (hQ _ _ _ ?_).1; (conv => whnf)) | (refine ⟨_, rfl, ?_⟩; (conv => whnf)) | (refine ⟨_, mp_cut _ _ _, ?_⟩; (conv => whnf)) | (refine ⟨_, dbs_cut _ _ _, ?_⟩; (conv => whnf)) | (refine ⟨[_], rfl, ?_⟩; (conv => whnf)) | (refine ⟨[_, _], rfl, ?_⟩; (conv => whnf)) | (refine ⟨[_, _, _], rfl, ?_⟩; (conv => whnf)) | (refine ⟨[_, _, _, _], rfl, ?_⟩; (conv => whnf)) | fail)
    refine RetOk.pure' (fun f => rfl) (sub_bool ?_)
    simp [hne]
/-- erasureref26.SameVersions -/
theorem sameVersions_meets (a b : List Ver) (hl : a.length ≤ 4611686018427387904) (hl' : b.length ≤ 4611686018427387904) : Meets Try.prog F_erasureref26SameVersions ⟨[.c (dvers a), .c (dvers b)], [], 0, vb (decide (a = b)), [], 0⟩ := by
  refine fits_erasureref26SameVersions.meets rfl (by simp) fun Q hQ => ?_
  (conv => whnf); repeat' (first | (refine And.intro ?_ ?_; (focus (first | omega | (dsimp only; omega) | (simp only [List.length_append]; omega) | (simp [pb]; done) | (simp [pb]; omega) | (simp [zeros_u8, pb]; done) | (simp [zeros_u8, pb]; omega) | (simp [ByteArray.size]; omega) | exact Nat.le_of_ble_eq_true rfl | exact u64_nonneg _ | (show chkDraw _ _ = true; kernel_rfl) | (decide; done))); (conv => whnf)) | (refine onB_intro (fun hb => ?_) (fun hb => ?_) <;> (try simp only [decide_eq_true_eq, decide_eq_false_iff_not, Bool.not_eq_true', Bool.not_eq_false', Bool.and_eq_true, Bool.and_eq_false_iff, Int.not_le, Int.not_lt, bsz, ByteArray.toList_eq, beq_iff_eq, beq_eq_false_iff_ne, ne_eq] at hb) <;> (try (exfalso; omega)) <;> (try (exfalso; first | contradiction | (simp [ByteArray.toList_eq] at hb; done))) <;> (conv => whnf)) | (refine (hQ _ _ _ ?_).1; (conv => whnf)) | (refine ⟨_, rfl, ?_⟩; (conv => whnf)) | (refine ⟨_, mp_cut _ _ _, ?_⟩; (conv => whnf)) | (refine ⟨_, dbs_cut _ _ _, ?_⟩; (conv => whnf)) | (refine ⟨[_], rfl, ?_⟩; (conv => whnf)) | (refine ⟨[_, _], rfl, ?_⟩; (conv => whnf)) | (refine ⟨[_, _, _], rfl, ?_⟩; (conv => whnf)) | (refine ⟨[_, _, _, _], rfl, ?_⟩; (conv => whnf)) | (refine call_pure (same22Versions_meets a b hl hl') (fun F => by first | exact rfl | (simp only [TV.rens, TV.ren, dbs_ren]; rfl) | (simp [TV.rens, TV.ren, dbs_ren, map_ren_p]; done)) (fun F => by first | exact rfl | (simp only [TV.rens, TV.ren, dbs_ren]; rfl) | (simp [TV.rens, TV.ren, dbs_ren, map_ren_p]; done)) ?_ ?_; (focus ((repeat' (first | exact trivial | exact Sub.refl _ | exact sub_nil | exact Or.inl rfl | exact Or.inr ⟨rfl, rfl⟩ | (refine sub_ref ?_; (first | omega | (simp; done) | (simp; omega))) | (refine sub_int ?_; (first | omega | rfl | (simp [bsz]; done))) | refine sub_tup ?_ | exact sub_agg_dbs_r | exact sub_agg_take_r rfl (by first | assumption | omega) | (refine sub_agg_take rfl ?_; (first | ((try rw [dbs_length]); assumption) | ((try rw [dbs_length]); omega))) | refine sub_agg ?_ | (refine sub_val ?_ ?_ <;> (first | omega | (simp [pb, List.map_take, List.map_drop, List.take_take]; done) | (simp [pb, List.map_take, List.map_drop]; omega) | (simp [pb, List.take_of_length_le]; done))) | (refine or_val ?_ ?_ <;> (first | omega | (simp [pb, List.map_take, List.map_drop, List.take_take]; done) | (simp [pb, List.map_take, List.map_drop]; omega) | (simp [pb, List.take_of_length_le]; done))) | refine And.intro ?_ ?_)); done)); (conv => whnf)) | fail)
  exact RetOk.pure' (fun f => rfl) (Sub.refl _)
/-- erasureref22.SameSources -/
theorem same22Sources_meets (a b : List Sou) (hl : a.length ≤ 4611686018427387904) (hl' : b.length ≤ 4611686018427387904) : Meets Try.prog F_erasureref22SameSources ⟨[.c (dsous a), .c (dsous b)], [], 0, vb (decide (a = b)), [], 0⟩ := by
  refine fits_erasureref22SameSources.meets rfl (by simp) fun Q hQ => ?_
  by_cases hlen : a.length = b.length
  · (conv => whnf); repeat' (first | (refine And.intro ?_ ?_; (focus (first | omega | (dsimp only; omega) | (simp only [List.length_append]; omega) | (simp [pb]; done) | (simp [pb]; omega) | (simp [zeros_u8, pb]; done) | (simp [zeros_u8, pb]; omega) | (simp [ByteArray.size]; omega) | exact Nat.le_of_ble_eq_true rfl | exact u64_nonneg _ | (show chkDraw _ _ = true; kernel_rfl) | (decide; done))); (conv => whnf)) | (refine onB_intro (fun hb => ?_) (fun hb => ?_) <;> (try simp only [decide_eq_true_eq, decide_eq_false_iff_not, Bool.not_eq_true', Bool.not_eq_false', Bool.and_eq_true, Bool.and_eq_false_iff, Int.not_le, Int.not_lt, bsz, ByteArray.toList_eq, beq_iff_eq, beq_eq_false_iff_ne, ne_eq] at hb) <;> (try (exfalso; omega)) <;> (try (exfalso; first | contradiction | (simp [ByteArray.toList_eq] at hb; done))) <;> (conv => whnf)) | (refine (hQ _ _ _ ?_).1; (conv => whnf)) | (refine ⟨_, rfl, ?_⟩; (conv => whnf)) | (refine ⟨_, mp_cut _ _ _, ?_⟩; (conv => whnf)) | (refine ⟨_, dbs_cut _ _ _, ?_⟩; (conv => whnf)) | (refine ⟨[_], rfl, ?_⟩; (conv => whnf)) | (refine ⟨[_, _], rfl, ?_⟩; (conv => whnf)) | (refine ⟨[_, _, _], rfl, ?_⟩; (conv => whnf)) | (refine ⟨[_, _, _, _], rfl, ?_⟩; (conv => whnf)) | fail)
    refine loop_fam (fun k : Nat => ⟨[(0, .c (dsous a)), (1, .c (dsous b)), (5, vi k)], [], 0⟩) (fun k => a.length - k) (fun k => k ≤ a.length ∧ a.take k = b.take k) 0 (wkn [] rfl rfl ⟨Sub.refl _, Sub.refl _, Sub.refl _, trivial⟩ trivial) ⟨Nat.zero_le _, rfl⟩ ?_
    rintro k ⟨hk, heq⟩ K hK
    rcases Nat.lt_or_ge k a.length with hlt | hge
    · obtain ⟨x, hx⟩ : ∃ x, a[k]? = some x := ⟨_, List.getElem?_eq_getElem hlt⟩
      obtain ⟨y, hy⟩ : ∃ y, b[k]? = some y := ⟨_, List.getElem?_eq_getElem (by omega)⟩
      (conv => whnf); repeat' (first | (refine And.intro ?_ ?_; (focus (first | omega | (dsimp only; omega) | (simp only [List.length_append]; omega) | (simp [pb]; done) | (simp [pb]; omega) | (simp [zeros_u8, pb]; done) | (simp [zeros_u8, pb]; omega) | (simp [ByteArray.size]; omega) | exact Nat.le_of_ble_eq_true rfl | exact u64_nonneg _ | (show chkDraw _ _ = true; kernel_rfl) | (decide; done))); (conv => whnf)) | (refine onB_intro (fun hb => ?_) (fun hb => ?_) <;> (try simp only [decide_eq_true_eq, decide_eq_false_iff_not, Bool.not_eq_true', Bool.not_eq_false', Bool.and_eq_true, Bool.and_eq_false_iff, Int.not_le, Int.not_lt, bsz, ByteArray.toList_eq, beq_iff_eq, beq_eq_false_iff_ne, ne_eq] at hb) <;> (try (exfalso; omega)) <;> (try (exfalso; first | contradiction | (simp [ByteArray.toList_eq] at hb; done))) <;> (conv => whnf)) | (refine (hQ _ _ _ ?_).1; (conv => whnf)) | (refine ⟨_, rfl, ?_⟩; (conv => whnf)) | (refine ⟨_, mp_cut _ _ _, ?_⟩; (conv => whnf)) | (refine ⟨_, dbs_cut _ _ _, ?_⟩; (conv => whnf)) | (refine ⟨[_], rfl, ?_⟩; (conv => whnf)) | (refine ⟨[_, _], rfl, ?_⟩; (conv => whnf)) | (refine ⟨[_, _, _], rfl, ?_⟩; (conv => whnf)) | (refine ⟨[_, _, _, _], rfl, ?_⟩; (conv => whnf)) | (simp only [elem_at' Sou.len hx, elem_at' Sou.len hy]; (conv => whnf)) | fail)
      refine ⟨by simp [fitCKs, fitCK], by simp [fitCKs, fitCK], ?_⟩
      intro q hq
      have hq : q = true ↔ x = y := hq.trans (Sou.enc_eq x y)
      (conv => whnf); repeat' (first | (refine And.intro ?_ ?_; (focus (first | omega | (dsimp only; omega) | (simp only [List.length_append]; omega) | (simp [pb]; done) | (simp [pb]; omega) | (simp [zeros_u8, pb]; done) | (simp [zeros_u8, pb]; omega) | (simp [ByteArray.size]; omega) | exact Nat.le_of_ble_eq_true rfl | exact u64_nonneg _ | (show chkDraw _ _ = true; kernel_rfl) | (decide; done))); (conv => whnf)) | (refine onB_intro (fun hb => ?_) (fun hb => ?_) <;> (try simp only [decide_eq_true_eq, decide_eq_false_iff_not, Bool.not_eq_true', Bool.not_eq_false', Bool.and_eq_true, Bool.and_eq_false_iff, Int.not_le, Int.not_lt, bsz, ByteArray.toList_eq, beq_iff_eq, beq_eq_false_iff_ne, ne_eq] at hb) <;> (try (exfalso; omega)) <;> (try (exfalso; first | contradiction | (simp [ByteArray.toList_eq] at hb; done))) <;> (conv => whnf)) | (refine (hQ _ _ _ ?_).1; (conv => whnf)) | (refine ⟨_, rfl, ?_⟩; (conv => whnf)) | (refine ⟨_, mp_cut _ _ _, ?_⟩; (conv => whnf)) | (refine ⟨_, dbs_cut _ _ _, ?_⟩; (conv => whnf)) | (refine ⟨[_], rfl, ?_⟩; (conv => whnf)) | (refine ⟨[_, _], rfl, ?_⟩; (conv => whnf)) | (refine ⟨[_, _, _], rfl, ?_⟩; (conv => whnf)) | (refine ⟨[_, _, _, _], rfl, ?_⟩; (conv => whnf)) | fail)
      · have hne : x ≠ y := fun e => by have := hq.2 e; simp_all
        refine RetOk.pure' (fun f => rfl) (sub_bool ?_)
        simp [ne_of_get hx hy hne]
      · have he : x = y := hq.1 (by simp_all)
        exact hK _ _ _ (k + 1) ⟨by omega, take_ext heq hx hy he⟩ (by omega) (wkn [] rfl rfl ⟨Sub.refl _, Sub.refl _, sub_int (by omega), trivial⟩ trivial)
    · have : k = a.length := by omega
      subst this
      have he : a = b := by rwa [List.take_length, hlen, List.take_length] at heq
      (conv => whnf); repeat' (first | (refine And.intro ?_ ?_; (focus (first | omega | (dsimp only; omega) | (simp only [List.length_append]; omega) | (simp [pb]; done) | (simp [pb]; omega) | (simp [zeros_u8, pb]; done) | (simp [zeros_u8, pb]; omega) | (simp [ByteArray.size]; omega) | exact Nat.le_of_ble_eq_true rfl | exact u64_nonneg _ | (show chkDraw _ _ = true; kernel_rfl) | (decide; done))); (conv => whnf)) | (refine onB_intro (fun hb => ?_) (fun hb => ?_) <;> (try simp only [decide_eq_true_eq, decide_eq_false_iff_not, Bool.not_eq_true', Bool.not_eq_false', Bool.and_eq_true, Bool.and_eq_false_iff, Int.not_le, Int.not_lt, bsz, ByteArray.toList_eq, beq_iff_eq, beq_eq_false_iff_ne, ne_eq] at hb) <;> (try (exfalso; omega)) <;> (try (exfalso; first | contradiction | (simp [ByteArray.toList_eq] at hb; done))) <;> (conv => whnf)) | (refine (hQ _ _ _ ?_).1; (conv => whnf)) | (refine ⟨_, rfl, ?_⟩; (conv => whnf)) | (refine ⟨_, mp_cut _ _ _, ?_⟩; (conv => whnf)) | (refine ⟨_, dbs_cut _ _ _, ?_⟩; (conv => whnf)) | (refine ⟨[_], rfl, ?_⟩; (conv => whnf)) | (refine ⟨[_, _], rfl, ?_⟩; (conv => whnf)) | (refine ⟨[_, _, _], rfl, ?_⟩; (conv => whnf)) | (refine ⟨[_, _, _, _], rfl, ?_⟩; (conv => whnf)) | fail)
      refine RetOk.pure' (fun f => rfl) (sub_bool ?_)
      simp [he]
  · have hne : a ≠ b := fun e => hlen (by rw [e])
    (conv => whnf); repeat' (first | (refine And.intro ?_ ?_; (focus (first | omega | (dsimp only; omega) | (simp only [List.length_append]; omega) | (simp [pb]; done) | (simp [pb]; omega) | (simp [zeros_u8, pb]; done) | (simp [zeros_u8, pb]; omega) | (simp [ByteArray.size]; omega) | exact Nat.le_of_ble_eq_true rfl | exact u64_nonneg _ | (show chkDraw _ _ = true; kernel_rfl) | (decide; done))); (conv => whnf)) | (refine onB_intro (fun hb => ?_) (fun hb => ?_) <;> (try simp only [decide_eq_true_eq, decide_eq_false_iff_not, Bool.not_eq_true', Bool.not_eq_false', Bool.and_eq_true, Bool.and_eq_false_iff, Int.not_le, Int.not_lt, bsz, ByteArray.toList_eq, beq_iff_eq, beq_eq_false_iff_ne, ne_eq] at hb) <;> (try (exfalso; omega)) <;> (try (exfalso; first | contradiction | (simp [ByteArray.toList_eq] at hb; done))) <;> (conv => whnf)) | (refine (hQ _ _ _ ?_).1; (conv => whnf)) | (refine ⟨_, rfl, ?_⟩; (conv => whnf)) | (refine ⟨_, mp_cut _ _ _, ?_⟩; (conv => whnf)) | (refine ⟨_, dbs_cut _ _ _, ?_⟩; (conv => whnf)) | (refine ⟨[_], rfl, ?_⟩; (conv => whnf)) | (refine ⟨[_, _], rfl, ?_⟩; (conv => whnf)) | (refine ⟨[_, _, _], rfl, ?_⟩; (conv => whnf)) | (refine ⟨[_, _, _, _], rfl, ?_⟩; (conv => whnf)) | fail)
    refine RetOk.pure' (fun f => rfl) (sub_bool ?_)
    simp [hne]
/-- erasureref26.SameSources -/
theorem sameSources_meets (a b : List Sou) (hl : a.length ≤ 4611686018427387904) (hl' : b.length ≤ 4611686018427387904) : Meets Try.prog F_erasureref26SameSources ⟨[.c (dsous a), .c (dsous b)], [], 0, vb (decide (a = b)), [], 0⟩ := by
  refine fits_erasureref26SameSources.meets rfl (by simp) fun Q hQ => ?_
  (conv => whnf); repeat' (first | (refine And.intro ?_ ?_; (focus (first | omega | (dsimp only; omega) | (simp only [List.length_append]; omega) | (simp [pb]; done) | (simp [pb]; omega) | (simp [zeros_u8, pb]; done) | (simp [zeros_u8, pb]; omega) | (simp [ByteArray.size]; omega) | exact Nat.le_of_ble_eq_true rfl | exact u64_nonneg _ | (show chkDraw _ _ = true; kernel_rfl) | (decide; done))); (conv => whnf)) | (refine onB_intro (fun hb => ?_) (fun hb => ?_) <;> (try simp only [decide_eq_true_eq, decide_eq_false_iff_not, Bool.not_eq_true', Bool.not_eq_false', Bool.and_eq_true, Bool.and_eq_false_iff, Int.not_le, Int.not_lt, bsz, ByteArray.toList_eq, beq_iff_eq, beq_eq_false_iff_ne, ne_eq] at hb) <;> (try (exfalso; omega)) <;> (try (exfalso; first | contradiction | (simp [ByteArray.toList_eq] at hb; done))) <;> (conv => whnf)) | (refine (hQ _ _ _ ?_).1; (conv => whnf)) | (refine ⟨_, rfl, ?_⟩; (conv => whnf)) | (refine ⟨_, mp_cut _ _ _, ?_⟩; (conv => whnf)) | (refine ⟨_, dbs_cut _ _ _, ?_⟩; (conv => whnf)) | (refine ⟨[_], rfl, ?_⟩; (conv => whnf)) | (refine ⟨[_, _], rfl, ?_⟩; (conv => whnf)) | (refine ⟨[_, _, _], rfl, ?_⟩; (conv => whnf)) | (refine ⟨[_, _, _, _], rfl, ?_⟩; (conv => whnf)) | (refine call_pure (same22Sources_meets a b hl hl') (fun F => by first | exact rfl | (simp only [TV.rens, TV.ren, dbs_ren]; rfl) | (simp [TV.rens, TV.ren, dbs_ren, map_ren_p]; done)) (fun F => by first | exact rfl | (simp only [TV.rens, TV.ren, dbs_ren]; rfl) | (simp [TV.rens, TV.ren, dbs_ren, map_ren_p]; done)) ?_ ?_; (focus ((repeat' (first | exact trivial | exact Sub.refl _ | exact sub_nil | exact Or.inl rfl | exact Or.inr ⟨rfl, rfl⟩ | (refine sub_ref ?_; (first | omega | (simp; done) | (simp; omega))) | (refine sub_int ?_; (first | omega | rfl | (simp [bsz]; done))) | refine sub_tup ?_ | exact sub_agg_dbs_r | exact sub_agg_take_r rfl (by first | assumption | omega) | (refine sub_agg_take rfl ?_; (first | ((try rw [dbs_length]); assumption) | ((try rw [dbs_length]); omega))) | refine sub_agg ?_ | (refine sub_val ?_ ?_ <;> (first | omega | (simp [pb, List.map_take, List.map_drop, List.take_take]; done) | (simp [pb, List.map_take, List.map_drop]; omega) | (simp [pb, List.take_of_length_le]; done))) | (refine or_val ?_ ?_ <;> (first | omega | (simp [pb, List.map_take, List.map_drop, List.take_take]; done) | (simp [pb, List.map_take, List.map_drop]; omega) | (simp [pb, List.take_of_length_le]; done))) | refine And.intro ?_ ?_)); done)); (conv => whnf)) | fail)
  exact RetOk.pure' (fun f => rfl) (Sub.refl _)
end Go.Proofs.Ytjieenfbfckafaa.Am
namespace Go.Proofs.Ytjieenfbfckafaa.Am
open Go
set_option linter.unusedVariables false
set_option linter.unusedSimpArgs false
set_option maxRecDepth 100000
set_option maxHeartbeats 1000000
/-- erasurelaw26.awake -/
theorem awake26_meets : Meets Try.prog F_erasurelaw26awake ⟨[], [], 0, vb true, [], 0⟩ := by
  have m1 := readInt_meets [128, 0] (by decide)
  rw [rd1] at m1
  have m2 := readInt_meets [128] (by decide)
  rw [rd2] at m2
  have m3 := readInt_meets [128, 1, 7] (by decide)
  rw [rd3] at m3
  have m4 := aAppendInt_meets [] (-1) (by simp [inI64]) (by decide)
  obtain ⟨l, hl⟩ : ∃ l, l = [] ++ encInt (-1) := ⟨_, rfl⟩
  rw [← hl] at m4
  rw [encInt_m1] at hl
  have hl : l = [1] := hl
  dsimp only at m1 m2 m3
  refine fits_erasurelaw26awake.meets rfl (by simp) fun Q hQ => ?_
  (conv => whnf); repeat' (first | (refine And.intro ?_ ?_; (focus (first | omega | (dsimp only; omega) | (simp only [List.length_append]; omega) | (simp [pb]; done) | (simp [pb]; omega) | (simp [zeros_u8, pb]; done) | (simp [zeros_u8, pb]; omega) | (simp [ByteArray.size]; omega) | exact Nat.le_of_ble_eq_true rfl | exact u64_nonneg _ | (show chkDraw _ _ = true; kernel_rfl) | (decide; done))); (conv => whnf)) | (refine onB_intro (fun hb => ?_) (fun hb => ?_) <;> (try simp only [decide_eq_true_eq, decide_eq_false_iff_not, Bool.not_eq_true', Bool.not_eq_false', Bool.and_eq_true, Bool.and_eq_false_iff, Int.not_le, Int.not_lt, bsz, ByteArray.toList_eq, beq_iff_eq, beq_eq_false_iff_ne, ne_eq] at hb) <;> (try (exfalso; omega)) <;> (try (exfalso; first | contradiction | (simp [ByteArray.toList_eq] at hb; done))) <;> (conv => whnf)) | (refine (hQ _ _ _ ?_).1; (conv => whnf)) | (refine ⟨_, rfl, ?_⟩; (conv => whnf)) | (refine ⟨_, mp_cut _ _ _, ?_⟩; (conv => whnf)) | (refine ⟨_, dbs_cut _ _ _, ?_⟩; (conv => whnf)) | (refine ⟨[_], rfl, ?_⟩; (conv => whnf)) | (refine ⟨[_, _], rfl, ?_⟩; (conv => whnf)) | (refine ⟨[_, _, _], rfl, ?_⟩; (conv => whnf)) | (refine ⟨[_, _, _, _], rfl, ?_⟩; (conv => whnf)) | (refine call_pure (m1) (fun F => by first | exact rfl | (simp only [TV.rens, TV.ren, dbs_ren]; rfl) | (simp [TV.rens, TV.ren, dbs_ren, map_ren_p]; done)) (fun F => by first | exact rfl | (simp only [TV.rens, TV.ren, dbs_ren]; rfl) | (simp [TV.rens, TV.ren, dbs_ren, map_ren_p]; done)) ?_ ?_; (focus ((repeat' (first | exact trivial | exact Sub.refl _ | exact sub_nil | exact Or.inl rfl | exact Or.inr ⟨rfl, rfl⟩ | (refine sub_ref ?_; (first | omega | (simp; done) | (simp; omega))) | (refine sub_int ?_; (first | omega | rfl | (simp [bsz]; done))) | refine sub_tup ?_ | exact sub_agg_dbs_r | exact sub_agg_take_r rfl (by first | assumption | omega) | (refine sub_agg_take rfl ?_; (first | ((try rw [dbs_length]); assumption) | ((try rw [dbs_length]); omega))) | refine sub_agg ?_ | (refine sub_val ?_ ?_ <;> (first | omega | (simp [pb, List.map_take, List.map_drop, List.take_take]; done) | (simp [pb, List.map_take, List.map_drop]; omega) | (simp [pb, List.take_of_length_le]; done))) | (refine or_val ?_ ?_ <;> (first | omega | (simp [pb, List.map_take, List.map_drop, List.take_take]; done) | (simp [pb, List.map_take, List.map_drop]; omega) | (simp [pb, List.take_of_length_le]; done))) | refine And.intro ?_ ?_)); done)); (conv => whnf)) | (refine call_pure (m2) (fun F => by first | exact rfl | (simp only [TV.rens, TV.ren, dbs_ren]; rfl) | (simp [TV.rens, TV.ren, dbs_ren, map_ren_p]; done)) (fun F => by first | exact rfl | (simp only [TV.rens, TV.ren, dbs_ren]; rfl) | (simp [TV.rens, TV.ren, dbs_ren, map_ren_p]; done)) ?_ ?_; (focus ((repeat' (first | exact trivial | exact Sub.refl _ | exact sub_nil | exact Or.inl rfl | exact Or.inr ⟨rfl, rfl⟩ | (refine sub_ref ?_; (first | omega | (simp; done) | (simp; omega))) | (refine sub_int ?_; (first | omega | rfl | (simp [bsz]; done))) | refine sub_tup ?_ | exact sub_agg_dbs_r | exact sub_agg_take_r rfl (by first | assumption | omega) | (refine sub_agg_take rfl ?_; (first | ((try rw [dbs_length]); assumption) | ((try rw [dbs_length]); omega))) | refine sub_agg ?_ | (refine sub_val ?_ ?_ <;> (first | omega | (simp [pb, List.map_take, List.map_drop, List.take_take]; done) | (simp [pb, List.map_take, List.map_drop]; omega) | (simp [pb, List.take_of_length_le]; done))) | (refine or_val ?_ ?_ <;> (first | omega | (simp [pb, List.map_take, List.map_drop, List.take_take]; done) | (simp [pb, List.map_take, List.map_drop]; omega) | (simp [pb, List.take_of_length_le]; done))) | refine And.intro ?_ ?_)); done)); (conv => whnf)) | (refine call_pure (m3) (fun F => by first | exact rfl | (simp only [TV.rens, TV.ren, dbs_ren]; rfl) | (simp [TV.rens, TV.ren, dbs_ren, map_ren_p]; done)) (fun F => by first | exact rfl | (simp only [TV.rens, TV.ren, dbs_ren]; rfl) | (simp [TV.rens, TV.ren, dbs_ren, map_ren_p]; done)) ?_ ?_; (focus ((repeat' (first | exact trivial | exact Sub.refl _ | exact sub_nil | exact Or.inl rfl | exact Or.inr ⟨rfl, rfl⟩ | (refine sub_ref ?_; (first | omega | (simp; done) | (simp; omega))) | (refine sub_int ?_; (first | omega | rfl | (simp [bsz]; done))) | refine sub_tup ?_ | exact sub_agg_dbs_r | exact sub_agg_take_r rfl (by first | assumption | omega) | (refine sub_agg_take rfl ?_; (first | ((try rw [dbs_length]); assumption) | ((try rw [dbs_length]); omega))) | refine sub_agg ?_ | (refine sub_val ?_ ?_ <;> (first | omega | (simp [pb, List.map_take, List.map_drop, List.take_take]; done) | (simp [pb, List.map_take, List.map_drop]; omega) | (simp [pb, List.take_of_length_le]; done))) | (refine or_val ?_ ?_ <;> (first | omega | (simp [pb, List.map_take, List.map_drop, List.take_take]; done) | (simp [pb, List.map_take, List.map_drop]; omega) | (simp [pb, List.take_of_length_le]; done))) | refine And.intro ?_ ?_)); done)); (conv => whnf)) | (refine call_pure (m4) (fun F => by first | exact rfl | (simp only [TV.rens, TV.ren, dbs_ren]; rfl) | (simp [TV.rens, TV.ren, dbs_ren, map_ren_p]; done)) (fun F => by first | exact rfl | (simp only [TV.rens, TV.ren, dbs_ren]; rfl) | (simp [TV.rens, TV.ren, dbs_ren, map_ren_p]; done)) ?_ ?_; (focus ((repeat' (first | exact trivial | exact Sub.refl _ | exact sub_nil | exact Or.inl rfl | exact Or.inr ⟨rfl, rfl⟩ | (refine sub_ref ?_; (first | omega | (simp; done) | (simp; omega))) | (refine sub_int ?_; (first | omega | rfl | (simp [bsz]; done))) | refine sub_tup ?_ | exact sub_agg_dbs_r | exact sub_agg_take_r rfl (by first | assumption | omega) | (refine sub_agg_take rfl ?_; (first | ((try rw [dbs_length]); assumption) | ((try rw [dbs_length]); omega))) | refine sub_agg ?_ | (refine sub_val ?_ ?_ <;> (first | omega | (simp [pb, List.map_take, List.map_drop, List.take_take]; done) | (simp [pb, List.map_take, List.map_drop]; omega) | (simp [pb, List.take_of_length_le]; done))) | (refine or_val ?_ ?_ <;> (first | omega | (simp [pb, List.map_take, List.map_drop, List.take_take]; done) | (simp [pb, List.map_take, List.map_drop]; omega) | (simp [pb, List.take_of_length_le]; done))) | refine And.intro ?_ ?_)); done)); (conv => whnf)) | fail)
  exact RetOk.pure' (fun f => rfl) (sub_bool (by simp))
theorem decU_enc : ∀ (v i u : Nat) (rest : List UInt8), i ≤ 9 → v * 2 ^ (7 * i) < 2 ^ 64 → (0 < i → 0 < v) → decU i u (encU v ++ rest) = .ok (u + v * 2 ^ (7 * i), rest) := by
  intro v
  induction v using Nat.strongRecOn with
  | _ v ih =>
    intro i u rest hi hv h0
    by_cases h : v < 128
    · rw [encU_lt h]
      have hc : (UInt8.ofNat v).toNat = v := by simp; omega
      have h9 : ¬(i = 9 ∧ 1 < v) := by
        rintro ⟨rfl, h1⟩
        have : 2 * 2 ^ (7 * 9) ≤ v * 2 ^ (7 * 9) := Nat.mul_le_mul_right _ h1
        have : (2 : Nat) * 2 ^ (7 * 9) = 2 ^ 64 := by decide
        omega
      show decU i u (UInt8.ofNat v :: rest) = _
      rw [decU_last (by rw [hc]; omega) (by rw [hc]; exact h), hc, Nat.mod_eq_of_lt h]
    · rw [encU_ge h]
      have hc : (UInt8.ofNat (v % 128 + 128)).toNat = v % 128 + 128 := by simp; omega
      have h9 : i ≠ 9 := by
        rintro rfl
        have : 128 * 2 ^ (7 * 9) ≤ v * 2 ^ (7 * 9) := Nat.mul_le_mul_right _ (by omega)
        have : (2 : Nat) * 2 ^ (7 * 9) = 2 ^ 64 := by decide
        omega
      show decU i u (UInt8.ofNat (v % 128 + 128) :: (encU (v / 128) ++ rest)) = _
      rw [decU_step (by rw [hc]; omega) (by rw [hc]; omega), hc]
      have e : 2 ^ (7 * (i + 1)) = 128 * 2 ^ (7 * i) := by rw [Nat.mul_add, Nat.mul_one, Nat.pow_add]; omega
      have hm : v / 128 * 128 ≤ v := Nat.div_mul_le_self v 128
      have hm2 : v / 128 * 128 * 2 ^ (7 * i) ≤ v * 2 ^ (7 * i) := Nat.mul_le_mul_right _ hm
      rw [ih (v / 128) (by omega) (i + 1) _ rest (by omega) (by rw [e, ← Nat.mul_assoc]; omega) (fun _ => by omega), e]
      have e2 : v = v / 128 * 128 + v % 128 := by omega
      have e3 : v * 2 ^ (7 * i) = v / 128 * 128 * 2 ^ (7 * i) + v % 128 * 2 ^ (7 * i) := by rw [← Nat.add_mul, ← e2]
      rw [e3, show (v % 128 + 128) % 128 = v % 128 by omega, ← Nat.mul_assoc, Nat.add_assoc, Nat.add_comm (v % 128 * _)]
theorem unzz_zz (n : Int) : unzz (zz n) = n := by
  unfold unzz zz
  split <;> split <;> omega
/-- An integer comes back. -/
theorem int_enc {n : Int} (hn : inI64 n) (rest : List UInt8) : Sr.int ⟨encInt n ++ rest, 0⟩ = (n, ⟨rest, 0⟩) := by
  have h := decU_enc (zz n) 0 0 rest (by omega) (by simpa using zz_lt hn) (fun h => by omega)
  rw [Sr.int_ok rfl (s := ⟨encInt n ++ rest, 0⟩) h]
  simp [unzz_zz]
end Go.Proofs.Ytjieenfbfckafaa.Am
namespace Go.Proofs.Ytjieenfbfckafaa.Am
open Go
set_option linter.unusedVariables false
set_option linter.unusedSimpArgs false
theorem readR_of {α : Type} {f : Sr → α × Sr} {z x : α} {b rest : List UInt8} (h : f ⟨b, 0⟩ = (x, ⟨rest, 0⟩)) : readR f z b = (x, rest, 0) := by
  unfold readR; rw [h]; simp
theorem count_enc {n m : Int} (hn : inI64 n) (h0 : 0 ≤ n) (hm : n ≤ m) (rest : List UInt8) : Sr.count m ⟨encInt n ++ rest, 0⟩ = (n, ⟨rest, 0⟩) := by
  unfold Sr.count
  rw [int_enc hn]
  dsimp only
  have hc : ¬(n < 0 ∨ m < n) := by omega
  simp only [if_neg hc]
  simp
theorem take_enc (t rest : List UInt8) : Sr.take t.length ⟨t ++ rest, 0⟩ = (t, ⟨rest, 0⟩) := by
  unfold Sr.take
  simp
theorem text_enc {t : List UInt8} {m : Int} (ht : t.length ≤ 4611686018427387904) (hm : (t.length : Int) ≤ m) (rest : List UInt8) : Sr.text m ⟨encText t ++ rest, 0⟩ = (t, ⟨rest, 0⟩) := by
  unfold Sr.text encText
  rw [List.append_assoc, count_enc ⟨by omega, by omega⟩ (by omega) hm]
  dsimp only
  rw [Int.toNat_natCast, take_enc]
theorem value_enc' {v : Val} (h : v.valid = true) (rest : List UInt8) : Sr.value ⟨encVal' v ++ rest, 0⟩ = (v, ⟨rest, 0⟩) := by
  have hc := Val.clean_fit h
  unfold Sr.value encVal'
  rw [List.append_assoc, count_enc ⟨by omega, by omega⟩ (by omega) (by omega)]
  dsimp only
  rcases hc with ⟨h1, h2, h3⟩ | ⟨h1, h2, h2', h3⟩ | ⟨h1, h2, h3⟩
  · rw [h1, if_neg (show ¬(0 : Int) = 1 by decide), if_neg (show ¬(0 : Int) = 1 by decide), if_neg (show ¬(0 : Int) = 2 by decide), if_neg (show ¬(0 : Int) = 2 by decide), List.nil_append]
    rw [show Val.null = v from Val.ext h1.symm h2.symm h3.symm]
  · rw [h1, if_pos (rfl : (1 : Int) = 1), if_pos (rfl : (1 : Int) = 1), int_enc ⟨by omega, by omega⟩]
    dsimp only
    rw [if_neg (by omega), show (⟨1, v.i, []⟩ : Val) = v from Val.ext h1.symm rfl h3.symm]
  · rw [h1, if_neg (show ¬(2 : Int) = 1 by decide), if_neg (show ¬(2 : Int) = 1 by decide), if_pos (rfl : (2 : Int) = 2), if_pos (rfl : (2 : Int) = 2), text_enc (by omega) (by omega)]
    dsimp only
    rw [show (⟨2, 0, v.t⟩ : Val) = v from Val.ext h1.symm h2.symm rfl]
theorem value_enc (v : Val) (rest : List UInt8) : Sr.value ⟨encVal v ++ rest, 0⟩ = (v.clean, ⟨rest, 0⟩) := value_enc' v.clean_valid rest
theorem many_enc {α β : Type} {f : Sr → β × Sr} {enc : α → List UInt8} {dec : α → β} : ∀ {l : List α}, (∀ a ∈ l, ∀ rest, f ⟨enc a ++ rest, 0⟩ = (dec a, ⟨rest, 0⟩)) → ∀ rest, many f l.length ⟨l.flatMap enc ++ rest, 0⟩ = (l.map dec, ⟨rest, 0⟩)
  | [], _, rest => rfl
  | a :: l, h, rest => by
    rw [List.length_cons, many, if_pos rfl, List.flatMap_cons, List.append_assoc, h a (by simp)]
    dsimp only
    rw [many_enc (fun b hb => h b (by simp [hb])) rest]
    rfl
theorem list_enc {α β : Type} {f : Sr → β × Sr} {enc : α → List UInt8} {dec : α → β} {l : List α} {m : Int} (hl : (l.length : Int) ≤ m) (hm : m ≤ 1000000) (h : ∀ a ∈ l, ∀ rest, f ⟨enc a ++ rest, 0⟩ = (dec a, ⟨rest, 0⟩)) (rest : List UInt8) :
    Sr.list f m ⟨encInt l.length ++ l.flatMap enc ++ rest, 0⟩ = (l.map dec, ⟨rest, 0⟩) := by
  unfold Sr.list
  rw [List.append_assoc, count_enc ⟨by omega, by omega⟩ (by omega) hl]
  dsimp only
  rw [Int.toNat_natCast, many_enc h]
theorem ints2_enc {a b : Int} (rest : List UInt8) : encInts [a, b] ++ rest = encInt a ++ (encInt b ++ rest) := by simp [encInts]
theorem ints3_enc {a b c : Int} (rest : List UInt8) : encInts [a, b, c] ++ rest = encInt a ++ (encInt b ++ (encInt c ++ rest)) := by simp [encInts]
theorem ints1_enc {a : Int} (rest : List UInt8) : encInts [a] ++ rest = encInt a ++ rest := by simp [encInts]
theorem ints4_enc {a b c d : Int} (rest : List UInt8) : encInts [a, b, c, d] ++ rest = encInt a ++ (encInt b ++ (encInt c ++ (encInt d ++ rest))) := by simp [encInts]
theorem ver_enc {v : Ver} (h : v.ok) (rest : List UInt8) : Sr.ver ⟨encVer v ++ rest, 0⟩ = (v, ⟨rest, 0⟩) := by
  obtain ⟨h1, h2, h3⟩ := h
  unfold Sr.ver encVer
  rw [ints3_enc, int_enc h1]; dsimp only
  rw [int_enc h3]; dsimp only
  rw [int_enc h2]
theorem sou_enc {v : Sou} (h : v.ok) (rest : List UInt8) : Sr.sou ⟨encSou v ++ rest, 0⟩ = (v, ⟨rest, 0⟩) := by
  obtain ⟨h1, h2⟩ := h
  unfold Sr.sou encSou
  rw [ints2_enc, int_enc h1]; dsimp only
  rw [int_enc h2]
theorem vers_enc {l : List Ver} (h : ∀ v ∈ l, v.ok) (hl : l.length ≤ 512) (rest : List UInt8) : Sr.vers ⟨encVers l ++ rest, 0⟩ = (l, ⟨rest, 0⟩) := by
  have := list_enc (f := Sr.ver) (dec := fun v => v) (m := 512) (by omega) (by omega) (fun a ha rest => ver_enc (h a ha) rest) rest
  rw [List.map_id'] at this
  exact this
theorem sous_enc {l : List Sou} (h : ∀ v ∈ l, v.ok) (hl : l.length ≤ 512) (rest : List UInt8) : Sr.sous ⟨encSous l ++ rest, 0⟩ = (l, ⟨rest, 0⟩) := by
  have := list_enc (f := Sr.sou) (dec := fun v => v) (m := 512) (by omega) (by omega) (fun a ha rest => sou_enc (h a ha) rest) rest
  rw [List.map_id'] at this
  exact this
def Ident.clean (i : Ident) : Ident := ⟨i.ns, i.v.clean⟩
theorem ident_enc {i : Ident} (h : i.ns.length ≤ 16) (rest : List UInt8) : Sr.ident ⟨encIdent i ++ rest, 0⟩ = (i.clean, ⟨rest, 0⟩) := by
  unfold Sr.ident encIdent
  rw [List.append_assoc, text_enc (by omega) (by omega)]; dsimp only
  rw [value_enc]; rfl
def Link.clean (l : Link) : Link := ⟨l.a.clean, l.b.clean, l.seq, l.rev⟩
def Hold.clean (h : Hold) : Hold := ⟨h.t, h.c, h.who.clean, h.seq, h.fr, h.to⟩
def Req.clean (q : Req) : Req := ⟨q.k, q.who.clean, q.seq, q.day, q.dl⟩
theorem link_enc {l : Link} (h : l.ok) (ha : l.a.ns.length ≤ 16) (hb : l.b.ns.length ≤ 16) (rest : List UInt8) : Sr.link ⟨encLink l ++ rest, 0⟩ = (l.clean, ⟨rest, 0⟩) := by
  unfold Sr.link encLink
  rw [List.append_assoc, List.append_assoc, ident_enc ha]; dsimp only
  rw [ident_enc hb]; dsimp only
  rw [ints2_enc, int_enc h.2]; dsimp only
  rw [count_enc in01 (by split <;> omega) (by split <;> omega)]
  unfold Link.clean
  cases l.rev <;> simp
theorem hold_enc {q : Hold} (h : q.ok) (ha : q.who.ns.length ≤ 16) (rest : List UInt8) : Sr.hold ⟨encHold q ++ rest, 0⟩ = (q.clean, ⟨rest, 0⟩) := by
  obtain ⟨_, h1, h2, h3, h4, h5⟩ := h
  unfold Sr.hold encHold
  rw [List.append_assoc, List.append_assoc, ints2_enc, int_enc h1]; dsimp only
  rw [int_enc h2]; dsimp only
  rw [ident_enc ha]; dsimp only
  rw [ints3_enc, int_enc h3]; dsimp only
  rw [int_enc h4]; dsimp only
  rw [int_enc h5]; rfl
theorem req_enc {q : Req} (h : q.ok) (ha : q.who.ns.length ≤ 16) (rest : List UInt8) : Sr.req ⟨encReq q ++ rest, 0⟩ = (q.clean, ⟨rest, 0⟩) := by
  obtain ⟨_, h1, h3, h4, h5⟩ := h
  unfold Sr.req encReq
  rw [List.append_assoc, List.append_assoc, ints1_enc, int_enc h1]; dsimp only
  rw [ident_enc ha]; dsimp only
  rw [ints3_enc, int_enc h3]; dsimp only
  rw [int_enc h4]; dsimp only
  rw [int_enc h5]; rfl
theorem digest_enc {d : List UInt8} (h : d.length = 32) (rest : List UInt8) : Sr.digest ⟨d ++ rest, 0⟩ = (d, ⟨rest, 0⟩) := by
  have := take_enc d rest
  rw [h] at this
  unfold Sr.digest
  rw [this]; simp
end Go.Proofs.Ytjieenfbfckafaa.Am
namespace Go.Proofs.Ytjieenfbfckafaa.Am
open Go
set_option linter.unusedVariables false
set_option linter.unusedSimpArgs false
set_option maxRecDepth 100000
set_option maxHeartbeats 1000000
theorem is_text {cs : List PV} (h : RT.Is .str cs) : ∃ t : List UInt8, cs = [pst t] ∧ t.length ≤ 9223372036854775807 := by
  obtain ⟨s, rfl, hs⟩ := is_str h
  refine ⟨s.data.toList, ?_, hs⟩
  show [PV.v (.string s)] = [PV.v (.string ⟨s.data.toList.toArray⟩)]
  rw [Array.toArray_toList]
theorem chunks_bytes' {n : Nat} {cs : List PV} (h : RT.Is (.arr n rByte) cs) : ∃ d : List UInt8, d.length = n ∧ cs = pb d := chunks_bytes h
end Go.Proofs.Ytjieenfbfckafaa.Am
namespace Go.Proofs.Ytjieenfbfckafaa.Am
open Go
set_option linter.unusedVariables false
set_option linter.unusedSimpArgs false
set_option maxRecDepth 100000
set_option maxHeartbeats 1000000
/-- erasurelaw26.named -/
theorem named_meets (i : Ident) (hi : i.ns.length ≤ 9223372036854775807) : Meets Try.prog F_erasurelaw26named ⟨[.agg i.enc], [], 0, vb (decide (i.ns.length ≤ 16)), [], 0⟩ := by
  refine fits_erasurelaw26named.meets rfl (by simp) fun Q hQ => ?_
  (conv => whnf); repeat' (first | (refine And.intro ?_ ?_; (focus (first | omega | (dsimp only; omega) | (simp only [List.length_append]; omega) | (simp [pb]; done) | (simp [pb]; omega) | (simp [zeros_u8, pb]; done) | (simp [zeros_u8, pb]; omega) | (simp [ByteArray.size]; omega) | exact Nat.le_of_ble_eq_true rfl | exact u64_nonneg _ | (show chkDraw _ _ = true; kernel_rfl) | (decide; done))); (conv => whnf)) | (refine onB_intro (fun hb => ?_) (fun hb => ?_) <;> (try simp only [decide_eq_true_eq, decide_eq_false_iff_not, Bool.not_eq_true', Bool.not_eq_false', Bool.and_eq_true, Bool.and_eq_false_iff, Int.not_le, Int.not_lt, bsz, ByteArray.toList_eq, beq_iff_eq, beq_eq_false_iff_ne, ne_eq] at hb) <;> (try (exfalso; omega)) <;> (try (exfalso; first | contradiction | (simp [ByteArray.toList_eq] at hb; done))) <;> (conv => whnf)) | (refine (hQ _ _ _ ?_).1; (conv => whnf)) | (refine ⟨_, rfl, ?_⟩; (conv => whnf)) | (refine ⟨_, mp_cut _ _ _, ?_⟩; (conv => whnf)) | (refine ⟨_, dbs_cut _ _ _, ?_⟩; (conv => whnf)) | (refine ⟨[_], rfl, ?_⟩; (conv => whnf)) | (refine ⟨[_, _], rfl, ?_⟩; (conv => whnf)) | (refine ⟨[_, _, _], rfl, ?_⟩; (conv => whnf)) | (refine ⟨[_, _, _, _], rfl, ?_⟩; (conv => whnf)) | fail)
  all_goals (refine RetOk.pure' (fun f => rfl) (sub_bool ?_); (first | (simp_all [bsz, ByteArray.toList_eq]; done) | (simp_all [bsz, ByteArray.toList_eq]; omega) | (simp_all [bsz, ByteArray.toList_eq]; intros; omega)))
/-- erasurelaw26.clean -/
theorem lclean_meets (i : Ident) : Meets Try.prog F_erasurelaw26clean ⟨[.agg i.enc], [], 0, .agg i.clean.enc, [], 0⟩ := by
  have m := rvclean_meets i.v
  unfold Ident.clean
  refine fits_erasurelaw26clean.meets rfl (by simp) fun Q hQ => ?_
  (conv => whnf); repeat' (first | (refine And.intro ?_ ?_; (focus (first | omega | (dsimp only; omega) | (simp only [List.length_append]; omega) | (simp [pb]; done) | (simp [pb]; omega) | (simp [zeros_u8, pb]; done) | (simp [zeros_u8, pb]; omega) | (simp [ByteArray.size]; omega) | exact Nat.le_of_ble_eq_true rfl | exact u64_nonneg _ | (show chkDraw _ _ = true; kernel_rfl) | (decide; done))); (conv => whnf)) | (refine onB_intro (fun hb => ?_) (fun hb => ?_) <;> (try simp only [decide_eq_true_eq, decide_eq_false_iff_not, Bool.not_eq_true', Bool.not_eq_false', Bool.and_eq_true, Bool.and_eq_false_iff, Int.not_le, Int.not_lt, bsz, ByteArray.toList_eq, beq_iff_eq, beq_eq_false_iff_ne, ne_eq] at hb) <;> (try (exfalso; omega)) <;> (try (exfalso; first | contradiction | (simp [ByteArray.toList_eq] at hb; done))) <;> (conv => whnf)) | (refine (hQ _ _ _ ?_).1; (conv => whnf)) | (refine ⟨_, rfl, ?_⟩; (conv => whnf)) | (refine ⟨_, mp_cut _ _ _, ?_⟩; (conv => whnf)) | (refine ⟨_, dbs_cut _ _ _, ?_⟩; (conv => whnf)) | (refine ⟨[_], rfl, ?_⟩; (conv => whnf)) | (refine ⟨[_, _], rfl, ?_⟩; (conv => whnf)) | (refine ⟨[_, _, _], rfl, ?_⟩; (conv => whnf)) | (refine ⟨[_, _, _, _], rfl, ?_⟩; (conv => whnf)) | (refine call_pure (m) (fun F => by first | exact rfl | (simp only [TV.rens, TV.ren, dbs_ren]; rfl) | (simp [TV.rens, TV.ren, dbs_ren, map_ren_p]; done)) (fun F => by first | exact rfl | (simp only [TV.rens, TV.ren, dbs_ren]; rfl) | (simp [TV.rens, TV.ren, dbs_ren, map_ren_p]; done)) ?_ ?_; (focus ((repeat' (first | exact trivial | exact Sub.refl _ | exact sub_nil | exact Or.inl rfl | exact Or.inr ⟨rfl, rfl⟩ | (refine sub_ref ?_; (first | omega | (simp; done) | (simp; omega))) | (refine sub_int ?_; (first | omega | rfl | (simp [bsz]; done))) | refine sub_tup ?_ | exact sub_agg_dbs_r | exact sub_agg_take_r rfl (by first | assumption | omega) | (refine sub_agg_take rfl ?_; (first | ((try rw [dbs_length]); assumption) | ((try rw [dbs_length]); omega))) | refine sub_agg ?_ | (refine sub_val ?_ ?_ <;> (first | omega | (simp [pb, List.map_take, List.map_drop, List.take_take]; done) | (simp [pb, List.map_take, List.map_drop]; omega) | (simp [pb, List.take_of_length_le]; done))) | (refine or_val ?_ ?_ <;> (first | omega | (simp [pb, List.map_take, List.map_drop, List.take_take]; done) | (simp [pb, List.map_take, List.map_drop]; omega) | (simp [pb, List.take_of_length_le]; done))) | refine And.intro ?_ ?_)); done)); (conv => whnf)) | fail)
  all_goals exact RetOk.pure' (fun f => rfl) (Sub.refl _)
theorem eqa_same {cks : List (Nat × CK)} {X Y Z : List DV} (hf : fitCKs cks Z) (hX : X = Z) (hY : Y = Z) {R : Bool → Prop} (h : R true) :
    fitCKs cks X ∧ fitCKs cks Y ∧ ∀ b : Bool, (b = true ↔ X = Y) → R b := by
  subst hX; subst hY
  refine ⟨hf, hf, fun b hb => ?_⟩
  rw [hb.2 rfl]
  exact h
theorem fit_req (q : Req) : fitCKs [(1, .ti .i64), (1, .ts), (2, .ti .i64), (1, .ts), (3, .ti .i64)] q.enc := by simp [fitCKs, fitCK]
theorem fit_link (q : Link) : fitCKs [(1, .ts), (2, .ti .i64), (2, .ts), (2, .ti .i64), (1, .ts), (1, .ti .i64), (1, .tb)] q.enc := by simp [fitCKs, fitCK]
theorem fit_hold (q : Hold) : fitCKs [(2, .ti .i64), (1, .ts), (2, .ti .i64), (1, .ts), (3, .ti .i64)] q.enc := by simp [fitCKs, fitCK]
theorem encIdent_short {i : Ident} (h : i.ns.length ≤ 16) : (encIdent i).length ≤ 100 := by
  have := encText_len (t := i.ns) (by omega)
  have := encVal_len i.v
  simp only [encIdent, List.length_append]; omega
theorem encReq_short {q : Req} (h : q.ok) (g : q.who.ns.length ≤ 16) : (encReq q).length ≤ 1000 := by
  have h1 := encIdent_short g
  have h2 := len1 h.2.1
  have h3 := len3 h.2.2.1 h.2.2.2.1 h.2.2.2.2
  simp only [encReq, List.length_append]; omega
theorem encLink_short {l : Link} (h : l.ok) (g : l.a.ns.length ≤ 16) (g' : l.b.ns.length ≤ 16) : (encLink l).length ≤ 1000 := by
  have h1 := encIdent_short g
  have h2 := encIdent_short g'
  have h3 := len2 h.2 (in01 (b := l.rev))
  simp only [encLink, List.length_append]; omega
theorem encHold_short {q : Hold} (h : q.ok) (g : q.who.ns.length ≤ 16) : (encHold q).length ≤ 1000 := by
  have h1 := encIdent_short g
  have h2 := len2 h.2.1 h.2.2.1
  have h3 := len3 h.2.2.2.1 h.2.2.2.2.1 h.2.2.2.2.2
  simp only [encHold, List.length_append]; omega
abbrev rVal : RT := .st (.cons rInt (.cons rInt (.cons .str .nil)))
abbrev rIdent : RT := .st (.cons .str (.cons rVal .nil))
abbrev rReq : RT := .st (.cons rInt (.cons rIdent (.cons rInt (.cons rInt (.cons rInt .nil)))))
abbrev rLink : RT := .st (.cons rIdent (.cons rIdent (.cons rInt (.cons .bool .nil))))
abbrev rHold : RT := .st (.cons rInt (.cons rInt (.cons rIdent (.cons rInt (.cons rInt (.cons rInt .nil))))))
theorem is_val {cs : List PV} (h : RT.Is rVal cs) : ∃ a : Val, cs = a.pv ∧ a.t.length ≤ 9223372036854775807 := by
  obtain ⟨_, _, rfl, hx, _, _, rfl, hy, _, _, rfl, hz, rfl⟩ := h
  obtain ⟨a, rfl, ha⟩ := is_int hx
  obtain ⟨b, rfl, hb⟩ := is_int hy
  obtain ⟨t, rfl, ht⟩ := is_text hz
  exact ⟨⟨a, b, t⟩, rfl, ht⟩
theorem is_ident {cs : List PV} (h : RT.Is rIdent cs) : ∃ a : Ident, cs = a.pv ∧ a.ns.length ≤ 9223372036854775807 := by
  obtain ⟨_, _, rfl, hx, _, _, rfl, hy, rfl⟩ := h
  obtain ⟨a, rfl, ha⟩ := is_text hx
  obtain ⟨b, rfl, hb⟩ := is_val hy
  exact ⟨⟨a, b⟩, rfl, ha⟩
theorem is_req {cs : List PV} (h : RT.Is rReq cs) : ∃ q : Req, cs = q.pv ∧ q.who.ns.length ≤ 9223372036854775807 ∧ inI64 q.k ∧ inI64 q.seq ∧ inI64 q.day ∧ inI64 q.dl := by
  obtain ⟨_, _, rfl, hx, _, _, rfl, hy, _, _, rfl, hz, _, _, rfl, hu, _, _, rfl, hv, rfl⟩ := h
  obtain ⟨a, rfl, ha⟩ := is_int hx
  obtain ⟨b, rfl, hb⟩ := is_ident hy
  obtain ⟨c, rfl, hc⟩ := is_int hz
  obtain ⟨d, rfl, hd⟩ := is_int hu
  obtain ⟨e, rfl, he⟩ := is_int hv
  exact ⟨⟨a, b, c, d, e⟩, rfl, hb, ha, hc, hd, he⟩
theorem is_link {cs : List PV} (h : RT.Is rLink cs) : ∃ l : Link, cs = l.pv ∧ l.a.ns.length ≤ 9223372036854775807 ∧ l.b.ns.length ≤ 9223372036854775807 ∧ inI64 l.seq := by
  obtain ⟨_, _, rfl, hx, _, _, rfl, hy, _, _, rfl, hz, _, _, rfl, ⟨t, rfl⟩, rfl⟩ := h
  obtain ⟨a, rfl, ha⟩ := is_ident hx
  obtain ⟨b, rfl, hb⟩ := is_ident hy
  obtain ⟨c, rfl, hc⟩ := is_int hz
  exact ⟨⟨a, b, c, t⟩, rfl, ha, hb, hc⟩
theorem is_hold {cs : List PV} (h : RT.Is rHold cs) : ∃ q : Hold, cs = q.pv ∧ q.who.ns.length ≤ 9223372036854775807 ∧ inI64 q.t ∧ inI64 q.c ∧ inI64 q.seq ∧ inI64 q.fr ∧ inI64 q.to := by
  obtain ⟨_, _, rfl, hx, _, _, rfl, hy, _, _, rfl, hz, _, _, rfl, hu, _, _, rfl, hv, _, _, rfl, hw, rfl⟩ := h
  obtain ⟨a, rfl, ha⟩ := is_int hx
  obtain ⟨b, rfl, hb⟩ := is_int hy
  obtain ⟨c, rfl, hc⟩ := is_ident hz
  obtain ⟨d, rfl, hd⟩ := is_int hu
  obtain ⟨e, rfl, he⟩ := is_int hv
  obtain ⟨f, rfl, hf⟩ := is_int hw
  exact ⟨⟨a, b, c, d, e, f⟩, rfl, hc, ha, hb, hd, he, hf⟩
end Go.Proofs.Ytjieenfbfckafaa.Am
namespace Go.Proofs.Ytjieenfbfckafaa.Am
open Go
set_option linter.unusedVariables false
set_option linter.unusedSimpArgs false
set_option maxRecDepth 100000
set_option maxHeartbeats 1000000
def Chg.zero : Chg := ⟨0, 0, 0, 0, [], Val.null, 0, Val.null⟩
def Chg.clean (c : Chg) : Chg := ⟨c.k, c.seq, c.day, c.t, c.row.map Val.clean, c.key.clean, c.col, c.val.clean⟩
end Go.Proofs.Ytjieenfbfckafaa.Am
namespace Go.Proofs.Ytjieenfbfckafaa.Am
open Go
set_option linter.unusedVariables false
set_option linter.unusedSimpArgs false
set_option maxRecDepth 100000
set_option maxHeartbeats 1000000
def Chg.same (a b : Chg) : Prop := a.k = b.k ∧ a.seq = b.seq ∧ a.day = b.day ∧ a.t = b.t ∧ a.row = b.row ∧ a.key = b.key ∧ a.col = b.col ∧ a.val = b.val
instance : DecidableRel Chg.same := fun a b => by unfold Chg.same; exact inferInstance
end Go.Proofs.Ytjieenfbfckafaa.Am
namespace Go.Proofs.Ytjieenfbfckafaa.Am
open Go
set_option linter.unusedVariables false
set_option linter.unusedSimpArgs false
set_option maxRecDepth 100000
set_option maxHeartbeats 1000000
def Ent.clean (e : Ent) : Ent := ⟨e.row.map Val.clean, e.cnt⟩
end Go.Proofs.Ytjieenfbfckafaa.Am
namespace Go.Proofs.Ytjieenfbfckafaa.Am
open Go
set_option linter.unusedVariables false
set_option linter.unusedSimpArgs false
def Recd.zero : Recd := ⟨[], [], 0⟩
def LE.zero : LE := ⟨0, 0, 0, 0, Req.zero, Link.zero, Hold.zero, [], [], zero32⟩
def LE.at (k d p s : Int) : LE := ⟨k, d, p, s, Req.zero, Link.zero, Hold.zero, [], [], zero32⟩
def Sr.kind (s : Sr) : Int × Sr :=
  let a := s.int
  (a.1, if a.1 < 1 ∨ 7 < a.1 then a.2.fail 1 else a.2)
def Sr.body (k d p t : Int) (s : Sr) : LE × Sr :=
  if k = 1 then ({ LE.at k d p t with req := s.req.1 }, s.req.2)
  else if k = 2 then ({ LE.at k d p t with vers := s.vers.1, sous := s.vers.2.sous.1 }, s.vers.2.sous.2)
  else if k = 4 then ({ LE.at k d p t with root := s.digest.1 }, s.digest.2)
  else if k = 6 then ({ LE.at k d p t with link := s.link.1 }, s.link.2)
  else if k = 7 then ({ LE.at k d p t with hold := s.hold.1 }, s.hold.2)
  else (LE.at k d p t, s)
def Sr.le (s : Sr) : LE × Sr :=
  let a := s.kind
  let b := a.2.int
  let c := b.2.int
  let d := c.2.int
  d.2.body a.1 b.1 c.1 d.1
theorem Sr.kind_len (s : Sr) : s.kind.2.b.length ≤ s.b.length := by
  have h := s.int_len
  unfold Sr.kind
  dsimp only
  split
  · rw [Sr.fail_b]; exact h
  · exact h
theorem Sr.body_len (k d p t : Int) (s : Sr) : (s.body k d p t).2.b.length ≤ s.b.length := by
  unfold Sr.body
  (repeat' split)
  · exact s.req_len
  · exact Nat.le_trans (Sr.sous_len _) (Sr.vers_len _)
  · exact s.digest_len
  · exact s.link_len
  · exact s.hold_len
  · exact Nat.le_refl _
theorem Sr.le_len (s : Sr) : s.le.2.b.length ≤ s.b.length := Nat.le_trans (Sr.body_len _ _ _ _ _) (Nat.le_trans (Sr.int_len _) (Nat.le_trans (Sr.int_len _) (Nat.le_trans (Sr.int_len _) (Sr.kind_len _))))
structure Stream {α : Type} (f : Sr → α × Sr) : Prop where
  stick : ∀ s, s.e ≠ 0 → (f s).2.e = s.e
  more : ∀ b r, (f ⟨b, 0⟩).2.e = 0 → f ⟨b ++ r, 0⟩ = ((f ⟨b, 0⟩).1, ⟨(f ⟨b, 0⟩).2.b ++ r, 0⟩)
  bad : ∀ b r, (f ⟨b, 0⟩).2.e ≠ 0 → (f ⟨b, 0⟩).2.e ≠ 100 → (f ⟨b ++ r, 0⟩).2.e = (f ⟨b, 0⟩).2.e
theorem Sr.eta0 {s : Sr} (h : s.e = 0) : s = ⟨s.b, 0⟩ := by cases s; cases h; rfl
theorem Stream.bind {α β : Type} {f : Sr → α × Sr} {g : α → Sr → β × Sr} (hf : Stream f) (hg : ∀ x, Stream (g x)) : Stream (fun s => g (f s).1 (f s).2) := by
  refine ⟨fun s hs => ?_, fun b r h => ?_, fun b r h h' => ?_⟩
  · have h1 := hf.stick s hs
    have h2 := (hg (f s).1).stick (f s).2 (by rw [h1]; exact hs)
    rw [h2, h1]
  · (try dsimp only at h ⊢)
    by_cases he : (f ⟨b, 0⟩).2.e = 0
    · have h1 := hf.more b r he
      rw [h1]
      (try dsimp only)
      rw [Sr.eta0 he] at h ⊢
      exact (hg _).more _ _ h
    · have h2 := (hg (f ⟨b, 0⟩).1).stick _ he
      rw [h2] at h; exact absurd h he
  · (try dsimp only at h h' ⊢)
    by_cases he : (f ⟨b, 0⟩).2.e = 0
    · have h1 := hf.more b r he
      rw [h1]
      (try dsimp only)
      rw [Sr.eta0 he] at h h' ⊢
      exact (hg _).bad _ _ h h'
    · have h2 := (hg (f ⟨b, 0⟩).1).stick _ he
      rw [h2] at h' ⊢
      have h3 := hf.bad b r he h'
      rw [(hg _).stick _ (by rw [h3]; exact he), h3]
theorem Stream.ret {α : Type} (x : α) : Stream (fun s => (x, s)) := ⟨fun s h => rfl, fun b r h => rfl, fun b r h h' => rfl⟩
theorem Stream.map {α β : Type} {f : Sr → α × Sr} (g : α → β) (hf : Stream f) : Stream (fun s => (g (f s).1, (f s).2)) := hf.bind fun x => Stream.ret (g x)
theorem Stream.check {α : Type} (x : α) (p : Prop) [Decidable p] : Stream (fun s => (x, if p then s.fail 1 else s)) := by
  by_cases hp : p
  · simp only [if_pos hp]
    refine ⟨fun s hs => ?_, fun b r h => ?_, fun b r h h' => ?_⟩
    · simp only [Sr.fail, if_neg hs]
    · simp [Sr.fail] at h
    · simp [Sr.fail]
  · simp only [if_neg hp]; exact Stream.ret x
theorem Stream.ite {α : Type} {f g : Sr → α × Sr} (p : Prop) [Decidable p] (hf : Stream f) (hg : Stream g) : Stream (fun s => if p then f s else g s) := by
  by_cases hp : p
  · simp only [if_pos hp]; exact hf
  · simp only [if_neg hp]; exact hg
theorem Stream.same {α : Type} {f g : Sr → α × Sr} (hf : Stream f) (h2 : ∀ s, (g s).2 = (f s).2) (h1 : ∀ s, (f s).2.e = 0 → (g s).1 = (f s).1) : Stream g := by
  refine ⟨fun s hs => by rw [h2]; exact hf.stick s hs, fun b r h => ?_, fun b r h h' => ?_⟩
  · rw [h2] at h
    have h3 := hf.more b r h
    have h4 := h2 ⟨b ++ r, 0⟩
    have h5 := h1 ⟨b ++ r, 0⟩ (by rw [h3])
    rw [h3] at h4 h5
    rw [h2 ⟨b, 0⟩, h1 _ h]
    exact Prod.ext h5 h4
  · rw [h2] at h h' ⊢
    rw [h2]
    exact hf.bad b r h h'
theorem decU_more : ∀ (b r : List UInt8) (i u : Nat), (∀ v q, decU i u b = .ok (v, q) → decU i u (b ++ r) = .ok (v, q ++ r)) ∧ (∀ x, decU i u b = .error x → x ≠ 100 → decU i u (b ++ r) = .error x)
  | [], r, i, u => by
    constructor
    · intro v q h; simp [decU] at h
    · intro x h hx; simp [decU] at h; exact absurd h.symm hx
  | c :: b, r, i, u => by
    rw [List.cons_append]
    by_cases h1 : (i = 9 ∧ 1 < c.toNat) ∨ (0 < i ∧ c.toNat = 0)
    · rw [decU_bad h1, decU_bad h1]
      exact ⟨fun v q h => by simp at h, fun x h _ => h⟩
    · by_cases h2 : c.toNat < 128
      · rw [decU_last h1 h2, decU_last h1 h2]
        refine ⟨fun v q h => ?_, fun x h => by simp at h⟩
        simp only [Except.ok.injEq, Prod.mk.injEq] at h ⊢
        exact ⟨h.1, by rw [h.2]⟩
      · rw [decU_step h1 h2, decU_step h1 h2]
        exact decU_more b r _ _
theorem Stream.int : Stream Sr.int := by
  refine ⟨fun s hs => by unfold Sr.int; rw [if_neg hs], fun b r h => ?_, fun b r h h' => ?_⟩
  · obtain ⟨m1, m2⟩ := decU_more b r 0 0
    unfold Sr.int at h ⊢
    rw [if_pos rfl] at h
    rw [if_pos rfl, if_pos rfl]
    cases hd : decU 0 0 b with
    | error x =>
      rw [hd] at h
      dsimp only at h
      subst h
      have := m2 0 hd (by decide)
      dsimp only
      rw [this]
    | ok p =>
      obtain ⟨v, q⟩ := p
      have := m1 v q hd
      dsimp only
      rw [this]
  · obtain ⟨m1, m2⟩ := decU_more b r 0 0
    unfold Sr.int at h h' ⊢
    rw [if_pos rfl] at h h' ⊢
    rw [if_pos rfl]
    cases hd : decU 0 0 b with
    | error x =>
      rw [hd] at h'
      have := m2 x hd h'
      dsimp only
      rw [this]
    | ok p => rw [hd] at h; exact absurd rfl h
theorem Stream.count (m : Int) : Stream (Sr.count m) := by
  refine Stream.same (Stream.bind Stream.int fun n => Stream.check n (n < 0 ∨ m < n)) (fun s => ?_) (fun s h => ?_)
  · unfold Sr.count; dsimp only; split <;> split <;> rfl
  · dsimp only at h; unfold Sr.count; dsimp only; rw [if_pos h]
theorem Stream.take (n : Nat) : Stream (Sr.take n) := by
  refine ⟨fun s hs => by unfold Sr.take; rw [if_neg hs], fun b r h => ?_, fun b r h h' => ?_⟩
  · unfold Sr.take at h ⊢
    rw [if_pos rfl] at h
    rw [if_pos rfl, if_pos rfl]
    dsimp only at h ⊢
    split at h
    · simp at h
    · rename_i hn
      have hn : n ≤ b.length := by omega
      rw [if_neg (by simp; omega), if_neg (by omega)]
      rw [List.take_append_of_le_length hn, List.drop_append_of_le_length hn]
  · unfold Sr.take at h h' ⊢
    rw [if_pos rfl] at h h'
    split at h
    · rename_i hn; rw [if_pos hn] at h'; simp at h'
    · simp at h
theorem Stream.text (m : Int) : Stream (Sr.text m) := (Stream.count m).bind fun n => Stream.take n.toNat
theorem Stream.value : Stream Sr.value := by
  refine (Stream.count 2).bind (g := fun n s => if n = 1 then ((⟨1, s.int.1, []⟩ : Val), if s.int.1 < -4294967296 ∨ 4294967296 < s.int.1 then s.int.2.fail 1 else s.int.2) else if n = 2 then ((⟨2, 0, (s.text 32).1⟩ : Val), (s.text 32).2) else (Val.null, s)) fun n => ?_
  refine Stream.ite _ (Stream.int.bind fun v => Stream.check (⟨1, v, []⟩ : Val) (v < -4294967296 ∨ 4294967296 < v)) (Stream.ite _ ((Stream.text 32).map fun t => (⟨2, 0, t⟩ : Val)) (Stream.ret _))
theorem Stream.many {α : Type} {f : Sr → α × Sr} (hf : Stream f) : ∀ n, Stream (many f n)
  | 0 => Stream.ret []
  | n + 1 => by
    have h := hf.bind fun x => (Stream.many hf n).map fun l => x :: l
    refine ⟨fun s hs => by rw [Am.many, if_neg hs], fun b r hh => ?_, fun b r hh hh' => ?_⟩
    · rw [Am.many, if_pos rfl] at hh
      rw [Am.many, if_pos rfl, Am.many, if_pos rfl]
      exact h.more b r hh
    · rw [Am.many, if_pos rfl] at hh hh'
      rw [Am.many, if_pos rfl, Am.many, if_pos rfl]
      exact h.bad b r hh hh'
theorem Stream.list {α : Type} {f : Sr → α × Sr} (hf : Stream f) (m : Int) : Stream (Sr.list f m) := (Stream.count m).bind fun n => Stream.many hf n.toNat
theorem Stream.row : Stream Sr.row := Stream.list Stream.value 16
theorem Stream.ident : Stream Sr.ident := (Stream.text 16).bind fun t => Stream.value.map fun v => (⟨t, v⟩ : Ident)
theorem Stream.ver : Stream Sr.ver := Stream.int.bind fun x => Stream.int.bind fun y => Stream.int.map fun z => (⟨x, z, y⟩ : Ver)
theorem Stream.sou : Stream Sr.sou := Stream.int.bind fun x => Stream.int.map fun y => (⟨x, y⟩ : Sou)
theorem Stream.vers : Stream Sr.vers := Stream.list Stream.ver 512
theorem Stream.sous : Stream Sr.sous := Stream.list Stream.sou 512
theorem Stream.link : Stream Sr.link := Stream.ident.bind fun a => Stream.ident.bind fun b => Stream.int.bind fun x => (Stream.count 1).map fun y => (⟨a, b, x, decide (y = 1)⟩ : Link)
theorem Stream.hold : Stream Sr.hold := Stream.int.bind fun a => Stream.int.bind fun b => Stream.ident.bind fun c => Stream.int.bind fun d => Stream.int.bind fun e => Stream.int.map fun f => (⟨a, b, c, d, e, f⟩ : Hold)
theorem Stream.req : Stream Sr.req := Stream.int.bind fun a => Stream.ident.bind fun c => Stream.int.bind fun d => Stream.int.bind fun e => Stream.int.map fun f => (⟨a, c, d, e, f⟩ : Req)
theorem Stream.digest : Stream Sr.digest := Stream.same (Stream.take 32) (fun s => rfl) fun s h => by unfold Sr.digest; dsimp only; rw [if_pos h]
theorem Stream.kind : Stream Sr.kind := Stream.int.bind fun n => Stream.check n (n < 1 ∨ 7 < n)
end Go.Proofs.Ytjieenfbfckafaa.Am

/- What ReadInt and the laws' example return, and that CodecInts, CodecIntReads and CodecOwn return true. -/
import Derived.Test.YtjieenfbfckafaaCodecRead2
import Derived.Test.YtjieenfbfckafaaCErasurelaw26
namespace Go.Proofs.Ytjieenfbfckafaa.Am
open Go
set_option linter.unusedVariables false
set_option linter.unusedSimpArgs false
set_option maxRecDepth 100000
set_option maxHeartbeats 1000000

/-- codec.source.rest -/
theorem rest_meets (s : Sr) (hs : s.b.length ≤ 70368744177664) : Meets Try.prog F_codec_source_rest ⟨[.c (.ptr 0 0)], [(0, sob s)], 1, .c (bs s.b), [(0, sob s)], 1⟩ := by
  refine fits_codec_source_rest.meets rfl (by simp) fun Q hQ => ?_
  (conv => whnf); repeat' (first | (refine And.intro (by first | omega | (simp only [List.length_append]; omega) | (simp [pb]; done) | (simp [pb]; omega) | (simp [zeros_u8, pb]; done) | (simp [zeros_u8, pb]; omega) | (simp [ByteArray.size]; omega) | exact Nat.le_of_ble_eq_true rfl | exact u64_nonneg _ | kernel_rfl) ?_; (conv => whnf)) | (refine onB_intro (fun hb => ?_) (fun hb => ?_) <;> (try simp only [decide_eq_true_eq, decide_eq_false_iff_not, Bool.not_eq_true', Bool.not_eq_false', Bool.and_eq_true, Bool.and_eq_false_iff, Int.not_le, Int.not_lt, bsz, ByteArray.toList_eq, beq_iff_eq, beq_eq_false_iff_ne, ne_eq] at hb) <;> (try (exfalso; omega)) <;> (try (exfalso; first | contradiction | (simp [ByteArray.toList_eq] at hb; done))) <;> (conv => whnf)) | (refine (hQ _ _ _ ?_).1; (conv => whnf)) | (refine ⟨_, rfl, ?_⟩; (conv => whnf)) | (refine ⟨_, mp_cut _ _ _, ?_⟩; (conv => whnf)) | (refine ⟨_, dbs_cut _ _ _, ?_⟩; (conv => whnf)) | (refine ⟨[_], rfl, ?_⟩; (conv => whnf)) | (refine ⟨[_, _], rfl, ?_⟩; (conv => whnf)) | (refine ⟨[_, _, _], rfl, ?_⟩; (conv => whnf)) | (refine ⟨[_, _, _, _], rfl, ?_⟩; (conv => whnf)) | fail)
  refine RetOk.freeze 1 T_u8 (pb s.b) rfl ?_
  exact ret_obj rfl (sub_val rfl (by rw [List.drop_zero, List.take_of_length_le (by simp [pb])])) rfl rfl (fun F => rfl) (fun F => rfl)
def readInt (b : List UInt8) : Int × List UInt8 × Int := if (Sr.int ⟨b, 0⟩).2.e = 0 then ((Sr.int ⟨b, 0⟩).1, (Sr.int ⟨b, 0⟩).2.b, 0) else (0, [], (Sr.int ⟨b, 0⟩).2.e)
theorem decU_len : ∀ (b : List UInt8) (i u : Nat) {v : Nat} {r : List UInt8}, decU i u b = .ok (v, r) → r.length ≤ b.length
  | [], i, u, v, r, h => by simp [decU] at h
  | c :: l, i, u, v, r, h => by
    rw [decU] at h
    split at h
    · cases h
    · split at h
      · cases h; simp
      · have := decU_len l _ _ h; simp; omega
theorem Sr.int_len (s : Sr) : s.int.2.b.length ≤ s.b.length := by
  unfold Sr.int
  split
  · split
    · exact Nat.le_refl _
    · rename_i h; exact decU_len _ _ _ h
  · exact Nat.le_refl _
/-- codec.ReadInt -/
theorem readInt_meets (b : List UInt8) (hb : b.length ≤ 70368744177664) : Meets Try.prog F_codec_ReadInt ⟨[.c (bs b)], [], 0, .tup [vi (readInt b).1, .c (bs (readInt b).2.1), vi (readInt b).2.2], [], 0⟩ := by
  have hl := Sr.int_len ⟨b, 0⟩
  have m := integer_meets ⟨b, 0⟩ (by show b.length ≤ _; omega)
  unfold readInt
  generalize Sr.int ⟨b, 0⟩ = x at m hl ⊢
  obtain ⟨n, s⟩ := x
  simp only at hl m ⊢
  refine fits_codec_ReadInt.meets rfl (by simp) fun Q hQ => ?_
  (conv => whnf); repeat' (first | (refine And.intro (by first | omega | (simp only [List.length_append]; omega) | (simp [pb]; done) | (simp [pb]; omega) | (simp [zeros_u8, pb]; done) | (simp [zeros_u8, pb]; omega) | (simp [ByteArray.size]; omega) | exact Nat.le_of_ble_eq_true rfl | exact u64_nonneg _ | kernel_rfl) ?_; (conv => whnf)) | (refine onB_intro (fun hb => ?_) (fun hb => ?_) <;> (try simp only [decide_eq_true_eq, decide_eq_false_iff_not, Bool.not_eq_true', Bool.not_eq_false', Bool.and_eq_true, Bool.and_eq_false_iff, Int.not_le, Int.not_lt, bsz, ByteArray.toList_eq, beq_iff_eq, beq_eq_false_iff_ne, ne_eq] at hb) <;> (try (exfalso; omega)) <;> (try (exfalso; first | contradiction | (simp [ByteArray.toList_eq] at hb; done))) <;> (conv => whnf)) | (refine (hQ _ _ _ ?_).1; (conv => whnf)) | (refine ⟨_, rfl, ?_⟩; (conv => whnf)) | (refine ⟨_, mp_cut _ _ _, ?_⟩; (conv => whnf)) | (refine ⟨_, dbs_cut _ _ _, ?_⟩; (conv => whnf)) | (refine ⟨[_], rfl, ?_⟩; (conv => whnf)) | (refine ⟨[_, _], rfl, ?_⟩; (conv => whnf)) | (refine ⟨[_, _, _], rfl, ?_⟩; (conv => whnf)) | (refine ⟨[_, _, _, _], rfl, ?_⟩; (conv => whnf)) | (apply call_obj (m) (fun F => by first | exact rfl | exact bob_ren F _ | exact ob_ren F _ _) (fun F => by first | exact rfl | exact bob_ren F _ | exact ob_ren F _ _); (focus ((repeat' (first | exact trivial | exact Sub.refl _ | exact sub_nil | exact Or.inl rfl | exact Or.inr ⟨rfl, rfl⟩ | (refine sub_ref ?_; (first | omega | (simp; done) | (simp; omega))) | (refine sub_int ?_; (first | omega | rfl | (simp [bsz]; done))) | refine sub_tup ?_ | exact sub_agg_dbs_r | exact sub_agg_take_r rfl (by first | assumption | omega) | (refine sub_agg_take rfl ?_; (first | ((try rw [dbs_length]); assumption) | ((try rw [dbs_length]); omega))) | refine sub_agg ?_ | (refine sub_val ?_ ?_ <;> (first | omega | (simp [pb, List.map_take, List.map_drop]; done) | (simp [pb, List.map_take, List.map_drop]; omega) | (simp [pb, List.take_of_length_le]; done))) | (refine or_val ?_ ?_ <;> (first | omega | (simp [pb, List.map_take, List.map_drop]; done) | (simp [pb, List.map_take, List.map_drop]; omega) | (simp [pb, List.take_of_length_le]; done))) | refine And.intro ?_ ?_)); done)); (focus (first | exact rfl | exact hp_eq rfl (dbs_app _ _ _ rfl) | exact hp_eq rfl (dbs_appo _ _ _ _ rfl rfl) | exact hp_eq rfl (by simp only [bob, ← List.length_append, dbs_appo', dbs_app', bsz]) | exact hp_eq rfl (by simp [dbs, pb]))); (conv => whnf)) | (apply call_obj (rest_meets s (by omega)) (fun F => by first | exact rfl | exact bob_ren F _ | exact ob_ren F _ _) (fun F => by first | exact rfl | exact bob_ren F _ | exact ob_ren F _ _); (focus ((repeat' (first | exact trivial | exact Sub.refl _ | exact sub_nil | exact Or.inl rfl | exact Or.inr ⟨rfl, rfl⟩ | (refine sub_ref ?_; (first | omega | (simp; done) | (simp; omega))) | (refine sub_int ?_; (first | omega | rfl | (simp [bsz]; done))) | refine sub_tup ?_ | exact sub_agg_dbs_r | exact sub_agg_take_r rfl (by first | assumption | omega) | (refine sub_agg_take rfl ?_; (first | ((try rw [dbs_length]); assumption) | ((try rw [dbs_length]); omega))) | refine sub_agg ?_ | (refine sub_val ?_ ?_ <;> (first | omega | (simp [pb, List.map_take, List.map_drop]; done) | (simp [pb, List.map_take, List.map_drop]; omega) | (simp [pb, List.take_of_length_le]; done))) | (refine or_val ?_ ?_ <;> (first | omega | (simp [pb, List.map_take, List.map_drop]; done) | (simp [pb, List.map_take, List.map_drop]; omega) | (simp [pb, List.take_of_length_le]; done))) | refine And.intro ?_ ?_)); done)); (focus (first | exact rfl | exact hp_eq rfl (dbs_app _ _ _ rfl) | exact hp_eq rfl (dbs_appo _ _ _ _ rfl rfl) | exact hp_eq rfl (by simp only [bob, ← List.length_append, dbs_appo', dbs_app', bsz]) | exact hp_eq rfl (by simp [dbs, pb]))); (conv => whnf)) | fail)
  all_goals
    refine RetOk.pure' (fun f => rfl) ?_
    first
      | (rw [if_pos hb]; ((repeat' (first | exact trivial | exact Sub.refl _ | exact sub_nil | exact Or.inl rfl | exact Or.inr ⟨rfl, rfl⟩ | (refine sub_ref ?_; (first | omega | (simp; done) | (simp; omega))) | (refine sub_int ?_; (first | omega | rfl | (simp [bsz]; done))) | refine sub_tup ?_ | exact sub_agg_dbs_r | exact sub_agg_take_r rfl (by first | assumption | omega) | (refine sub_agg_take rfl ?_; (first | ((try rw [dbs_length]); assumption) | ((try rw [dbs_length]); omega))) | refine sub_agg ?_ | (refine sub_val ?_ ?_ <;> (first | omega | (simp [pb, List.map_take, List.map_drop]; done) | (simp [pb, List.map_take, List.map_drop]; omega) | (simp [pb, List.take_of_length_le]; done))) | (refine or_val ?_ ?_ <;> (first | omega | (simp [pb, List.map_take, List.map_drop]; done) | (simp [pb, List.map_take, List.map_drop]; omega) | (simp [pb, List.take_of_length_le]; done))) | refine And.intro ?_ ?_)); done))
      | (rw [if_neg hb]; ((repeat' (first | exact trivial | exact Sub.refl _ | exact sub_nil | exact Or.inl rfl | exact Or.inr ⟨rfl, rfl⟩ | (refine sub_ref ?_; (first | omega | (simp; done) | (simp; omega))) | (refine sub_int ?_; (first | omega | rfl | (simp [bsz]; done))) | refine sub_tup ?_ | exact sub_agg_dbs_r | exact sub_agg_take_r rfl (by first | assumption | omega) | (refine sub_agg_take rfl ?_; (first | ((try rw [dbs_length]); assumption) | ((try rw [dbs_length]); omega))) | refine sub_agg ?_ | (refine sub_val ?_ ?_ <;> (first | omega | (simp [pb, List.map_take, List.map_drop]; done) | (simp [pb, List.map_take, List.map_drop]; omega) | (simp [pb, List.take_of_length_le]; done))) | (refine or_val ?_ ?_ <;> (first | omega | (simp [pb, List.map_take, List.map_drop]; done) | (simp [pb, List.map_take, List.map_drop]; omega) | (simp [pb, List.take_of_length_le]; done))) | refine And.intro ?_ ?_)); done))

/-! ### The laws' helpers -/
/-- erasurelaw26.join -/
theorem join_meets (a b : List UInt8) (ha : a.length ≤ 35184372088832) (hb : b.length ≤ 35184372088832) : Meets Try.prog F_erasurelaw26join ⟨[.c (bs a), .c (bs b)], [], 0, .c (bs (a ++ b)), [], 0⟩ := by
  refine Meets.frozenB ?_
  refine fits_erasurelaw26join.meets rfl (by simp) fun Q hQ => ?_
  (conv => whnf); repeat' (first | (refine And.intro (by first | omega | (simp only [List.length_append]; omega) | (simp [pb]; done) | (simp [pb]; omega) | (simp [zeros_u8, pb]; done) | (simp [zeros_u8, pb]; omega) | (simp [ByteArray.size]; omega) | exact Nat.le_of_ble_eq_true rfl | exact u64_nonneg _ | kernel_rfl) ?_; (conv => whnf)) | (refine onB_intro (fun hb => ?_) (fun hb => ?_) <;> (try simp only [decide_eq_true_eq, decide_eq_false_iff_not, Bool.not_eq_true', Bool.not_eq_false', Bool.and_eq_true, Bool.and_eq_false_iff, Int.not_le, Int.not_lt, bsz, ByteArray.toList_eq, beq_iff_eq, beq_eq_false_iff_ne, ne_eq] at hb) <;> (try (exfalso; omega)) <;> (try (exfalso; first | contradiction | (simp [ByteArray.toList_eq] at hb; done))) <;> (conv => whnf)) | (refine (hQ _ _ _ ?_).1; (conv => whnf)) | (refine ⟨_, rfl, ?_⟩; (conv => whnf)) | (refine ⟨_, mp_cut _ _ _, ?_⟩; (conv => whnf)) | (refine ⟨_, dbs_cut _ _ _, ?_⟩; (conv => whnf)) | (refine ⟨[_], rfl, ?_⟩; (conv => whnf)) | (refine ⟨[_, _], rfl, ?_⟩; (conv => whnf)) | (refine ⟨[_, _, _], rfl, ?_⟩; (conv => whnf)) | (refine ⟨[_, _, _, _], rfl, ?_⟩; (conv => whnf)) | fail)
  exact ret_new rfl rfl (by simp) (by simp only [Nat.zero_mul, Nat.zero_add, List.take_zero, List.nil_append]; exact dbs_app' _ _)
theorem encInt_m1 : encInt (-1) = [1] := by rw [encInt, show zz (-1) = 1 by decide, encU_lt (by decide)]; rfl
theorem rd1 : readInt [128, 0] = (0, [], 1) := by simp [readInt, Sr.int, decU]
theorem rd2 : readInt [128] = (0, [], 100) := by simp [readInt, Sr.int, decU]
theorem rd3 : readInt [128, 1, 7] = (64, [7], 0) := by simp [readInt, Sr.int, decU, unzz]
end Go.Proofs.Ytjieenfbfckafaa.Am

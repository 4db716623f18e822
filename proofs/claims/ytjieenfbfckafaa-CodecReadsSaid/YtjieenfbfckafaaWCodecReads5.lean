/- What the claim of CodecReads reaches, part 5. -/
import Derived.Test.YtjieenfbfckafaaWCodecReads4
namespace Go.Proofs.Ytjieenfbfckafaa.Am
open Go
set_option linter.unusedVariables false
set_option linter.unusedSimpArgs false
set_option maxRecDepth 100000
set_option maxHeartbeats 2000000
theorem cE_6 {b : List UInt8} {t0 u0 u1 u2 u3 z : Sr} {k v1 v2 v3 : Int} {q : Link} (hk : k = 6) (m0 : numC ⟨b, 0⟩ k t0) (h0e : t0.e = 0) (hu : t0 = u0) (m1 : numC u0 v1 u1) (m2 : numC u1 v2 u2) (m3 : numC u2 v3 u3) (mq : Meets Try.prog F_codec_source_link ⟨[.c (.ptr 0 0)], [(0, sob u3)], 1, .agg q.enc, [(0, sob z)], 1⟩) (hz : z.b.length ≤ 70368744177664) : REC b ({ LE.at k v1 v2 v3 with link := q }) z := by
  refine fits_codec_ReadEntry.meets rfl (by simp) fun Q hQ => ?_
  subst hk
  subst hu
  unfold readX at hQ
  by_cases he : z.e = 0
  · rw [if_pos he] at hQ
    dsimp only at hQ
    (conv => whnf); repeat' (first | (refine And.intro ?_ ?_; (focus (exact zq3)); (conv => whnf)) | (refine onB_intro (fun hb => ?_) (fun hb => ?_) <;> (try simp only [decide_eq_true_eq, decide_eq_false_iff_not, Bool.not_eq_true', Bool.not_eq_false', Bool.and_eq_true, Bool.and_eq_false_iff, Int.not_le, Int.not_lt, bsz, ByteArray.toList_eq, beq_iff_eq, beq_eq_false_iff_ne, ne_eq] at hb) <;> (try (exfalso; omega)) <;> (try (exfalso; first | contradiction | (simp [ByteArray.toList_eq] at hb; done))) <;> (conv => whnf)) | (refine (hQ _ _ _ ?_).1; (conv => whnf)) | (refine ⟨_, rfl, ?_⟩; (conv => whnf)) | (refine ⟨_, mp_cut _ _ _, ?_⟩; (conv => whnf)) | (refine ⟨_, dbs_cut _ _ _, ?_⟩; (conv => whnf)) | (refine ⟨[_], rfl, ?_⟩; (conv => whnf)) | (refine ⟨[_, _], rfl, ?_⟩; (conv => whnf)) | (refine ⟨[_, _, _], rfl, ?_⟩; (conv => whnf)) | (refine ⟨[_, _, _, _], rfl, ?_⟩; (conv => whnf)) | (apply call_obj (m0) (fun F => by first | exact rfl | exact bob_ren F _ | exact ob_ren F _ _) (fun F => by first | exact rfl | exact bob_ren F _ | exact ob_ren F _ _); (focus (exact zq1)); (focus (exact zq2)); (conv => whnf)) | (apply call_obj (m1) (fun F => by first | exact rfl | exact bob_ren F _ | exact ob_ren F _ _) (fun F => by first | exact rfl | exact bob_ren F _ | exact ob_ren F _ _); (focus (exact zq1)); (focus (exact zq2)); (conv => whnf)) | (apply call_obj (m2) (fun F => by first | exact rfl | exact bob_ren F _ | exact ob_ren F _ _) (fun F => by first | exact rfl | exact bob_ren F _ | exact ob_ren F _ _); (focus (exact zq1)); (focus (exact zq2)); (conv => whnf)) | (apply call_obj (m3) (fun F => by first | exact rfl | exact bob_ren F _ | exact ob_ren F _ _) (fun F => by first | exact rfl | exact bob_ren F _ | exact ob_ren F _ _); (focus (exact zq1)); (focus (exact zq2)); (conv => whnf)) | (apply call_obj (mq) (fun F => by first | exact rfl | exact bob_ren F _ | exact ob_ren F _ _) (fun F => by first | exact rfl | exact bob_ren F _ | exact ob_ren F _ _); (focus (exact zq1)); (focus (exact zq2)); (conv => whnf)) | (apply call_obj (rest_meets z hz) (fun F => by first | exact rfl | exact bob_ren F _ | exact ob_ren F _ _) (fun F => by first | exact rfl | exact bob_ren F _ | exact ob_ren F _ _); (focus (exact zq1)); (focus (exact zq2)); (conv => whnf)) | fail)
    all_goals
      first
        | (refine RetOk.pure' (fun F => by first | rfl | simp [TV.rens, TV.ren, dbs_ren, agg_ren]) ?_; (exact zq1))
        | (refine RetOk.pure' (fun F => by first | rfl | simp [TV.rens, TV.ren, dbs_ren, agg_ren]) ?_; refine sub_tup ⟨sub_agg_eq ?_, Sub.refl _, Sub.refl _, trivial⟩; first | rfl | (simp [dbs, pb, List.take_of_length_le, LE.at, dbs_ren, he]; done))
  · rw [if_neg he] at hQ
    dsimp only at hQ
    (conv => whnf); repeat' (first | (refine And.intro ?_ ?_; (focus (exact zq3)); (conv => whnf)) | (refine onB_intro (fun hb => ?_) (fun hb => ?_) <;> (try simp only [decide_eq_true_eq, decide_eq_false_iff_not, Bool.not_eq_true', Bool.not_eq_false', Bool.and_eq_true, Bool.and_eq_false_iff, Int.not_le, Int.not_lt, bsz, ByteArray.toList_eq, beq_iff_eq, beq_eq_false_iff_ne, ne_eq] at hb) <;> (try (exfalso; omega)) <;> (try (exfalso; first | contradiction | (simp [ByteArray.toList_eq] at hb; done))) <;> (conv => whnf)) | (refine (hQ _ _ _ ?_).1; (conv => whnf)) | (refine ⟨_, rfl, ?_⟩; (conv => whnf)) | (refine ⟨_, mp_cut _ _ _, ?_⟩; (conv => whnf)) | (refine ⟨_, dbs_cut _ _ _, ?_⟩; (conv => whnf)) | (refine ⟨[_], rfl, ?_⟩; (conv => whnf)) | (refine ⟨[_, _], rfl, ?_⟩; (conv => whnf)) | (refine ⟨[_, _, _], rfl, ?_⟩; (conv => whnf)) | (refine ⟨[_, _, _, _], rfl, ?_⟩; (conv => whnf)) | (apply call_obj (m0) (fun F => by first | exact rfl | exact bob_ren F _ | exact ob_ren F _ _) (fun F => by first | exact rfl | exact bob_ren F _ | exact ob_ren F _ _); (focus (exact zq1)); (focus (exact zq2)); (conv => whnf)) | (apply call_obj (m1) (fun F => by first | exact rfl | exact bob_ren F _ | exact ob_ren F _ _) (fun F => by first | exact rfl | exact bob_ren F _ | exact ob_ren F _ _); (focus (exact zq1)); (focus (exact zq2)); (conv => whnf)) | (apply call_obj (m2) (fun F => by first | exact rfl | exact bob_ren F _ | exact ob_ren F _ _) (fun F => by first | exact rfl | exact bob_ren F _ | exact ob_ren F _ _); (focus (exact zq1)); (focus (exact zq2)); (conv => whnf)) | (apply call_obj (m3) (fun F => by first | exact rfl | exact bob_ren F _ | exact ob_ren F _ _) (fun F => by first | exact rfl | exact bob_ren F _ | exact ob_ren F _ _); (focus (exact zq1)); (focus (exact zq2)); (conv => whnf)) | (apply call_obj (mq) (fun F => by first | exact rfl | exact bob_ren F _ | exact ob_ren F _ _) (fun F => by first | exact rfl | exact bob_ren F _ | exact ob_ren F _ _); (focus (exact zq1)); (focus (exact zq2)); (conv => whnf)) | fail)
    all_goals
      first
        | (refine RetOk.pure' (fun F => by first | rfl | simp [TV.rens, TV.ren, dbs_ren, agg_ren]) ?_; (exact zq1))
        | (refine RetOk.pure' (fun F => by first | rfl | simp [TV.rens, TV.ren, dbs_ren, agg_ren]) ?_; refine sub_tup ⟨sub_agg_eq ?_, Sub.refl _, Sub.refl _, trivial⟩; first | rfl | (simp [dbs, pb, List.take_of_length_le, LE.at, dbs_ren, he]; done))
end Go.Proofs.Ytjieenfbfckafaa.Am
namespace Go.Proofs.Ytjieenfbfckafaa.Am
open Go
set_option linter.unusedVariables false
set_option linter.unusedSimpArgs false
set_option maxRecDepth 100000
set_option maxHeartbeats 2000000
theorem cE_7 {b : List UInt8} {t0 u0 u1 u2 u3 z : Sr} {k v1 v2 v3 : Int} {q : Hold} (hk : k = 7) (m0 : numC ⟨b, 0⟩ k t0) (h0e : t0.e = 0) (hu : t0 = u0) (m1 : numC u0 v1 u1) (m2 : numC u1 v2 u2) (m3 : numC u2 v3 u3) (mq : Meets Try.prog F_codec_source_hold ⟨[.c (.ptr 0 0)], [(0, sob u3)], 1, .agg q.enc, [(0, sob z)], 1⟩) (hz : z.b.length ≤ 70368744177664) : REC b ({ LE.at k v1 v2 v3 with hold := q }) z := by
  refine fits_codec_ReadEntry.meets rfl (by simp) fun Q hQ => ?_
  subst hk
  subst hu
  unfold readX at hQ
  by_cases he : z.e = 0
  · rw [if_pos he] at hQ
    dsimp only at hQ
    (conv => whnf); repeat' (first | (refine And.intro ?_ ?_; (focus (exact zq3)); (conv => whnf)) | (refine onB_intro (fun hb => ?_) (fun hb => ?_) <;> (try simp only [decide_eq_true_eq, decide_eq_false_iff_not, Bool.not_eq_true', Bool.not_eq_false', Bool.and_eq_true, Bool.and_eq_false_iff, Int.not_le, Int.not_lt, bsz, ByteArray.toList_eq, beq_iff_eq, beq_eq_false_iff_ne, ne_eq] at hb) <;> (try (exfalso; omega)) <;> (try (exfalso; first | contradiction | (simp [ByteArray.toList_eq] at hb; done))) <;> (conv => whnf)) | (refine (hQ _ _ _ ?_).1; (conv => whnf)) | (refine ⟨_, rfl, ?_⟩; (conv => whnf)) | (refine ⟨_, mp_cut _ _ _, ?_⟩; (conv => whnf)) | (refine ⟨_, dbs_cut _ _ _, ?_⟩; (conv => whnf)) | (refine ⟨[_], rfl, ?_⟩; (conv => whnf)) | (refine ⟨[_, _], rfl, ?_⟩; (conv => whnf)) | (refine ⟨[_, _, _], rfl, ?_⟩; (conv => whnf)) | (refine ⟨[_, _, _, _], rfl, ?_⟩; (conv => whnf)) | (apply call_obj (m0) (fun F => by first | exact rfl | exact bob_ren F _ | exact ob_ren F _ _) (fun F => by first | exact rfl | exact bob_ren F _ | exact ob_ren F _ _); (focus (exact zq1)); (focus (exact zq2)); (conv => whnf)) | (apply call_obj (m1) (fun F => by first | exact rfl | exact bob_ren F _ | exact ob_ren F _ _) (fun F => by first | exact rfl | exact bob_ren F _ | exact ob_ren F _ _); (focus (exact zq1)); (focus (exact zq2)); (conv => whnf)) | (apply call_obj (m2) (fun F => by first | exact rfl | exact bob_ren F _ | exact ob_ren F _ _) (fun F => by first | exact rfl | exact bob_ren F _ | exact ob_ren F _ _); (focus (exact zq1)); (focus (exact zq2)); (conv => whnf)) | (apply call_obj (m3) (fun F => by first | exact rfl | exact bob_ren F _ | exact ob_ren F _ _) (fun F => by first | exact rfl | exact bob_ren F _ | exact ob_ren F _ _); (focus (exact zq1)); (focus (exact zq2)); (conv => whnf)) | (apply call_obj (mq) (fun F => by first | exact rfl | exact bob_ren F _ | exact ob_ren F _ _) (fun F => by first | exact rfl | exact bob_ren F _ | exact ob_ren F _ _); (focus (exact zq1)); (focus (exact zq2)); (conv => whnf)) | (apply call_obj (rest_meets z hz) (fun F => by first | exact rfl | exact bob_ren F _ | exact ob_ren F _ _) (fun F => by first | exact rfl | exact bob_ren F _ | exact ob_ren F _ _); (focus (exact zq1)); (focus (exact zq2)); (conv => whnf)) | fail)
    all_goals
      first
        | (refine RetOk.pure' (fun F => by first | rfl | simp [TV.rens, TV.ren, dbs_ren, agg_ren]) ?_; (exact zq1))
        | (refine RetOk.pure' (fun F => by first | rfl | simp [TV.rens, TV.ren, dbs_ren, agg_ren]) ?_; refine sub_tup ⟨sub_agg_eq ?_, Sub.refl _, Sub.refl _, trivial⟩; first | rfl | (simp [dbs, pb, List.take_of_length_le, LE.at, dbs_ren, he]; done))
  · rw [if_neg he] at hQ
    dsimp only at hQ
    (conv => whnf); repeat' (first | (refine And.intro ?_ ?_; (focus (exact zq3)); (conv => whnf)) | (refine onB_intro (fun hb => ?_) (fun hb => ?_) <;> (try simp only [decide_eq_true_eq, decide_eq_false_iff_not, Bool.not_eq_true', Bool.not_eq_false', Bool.and_eq_true, Bool.and_eq_false_iff, Int.not_le, Int.not_lt, bsz, ByteArray.toList_eq, beq_iff_eq, beq_eq_false_iff_ne, ne_eq] at hb) <;> (try (exfalso; omega)) <;> (try (exfalso; first | contradiction | (simp [ByteArray.toList_eq] at hb; done))) <;> (conv => whnf)) | (refine (hQ _ _ _ ?_).1; (conv => whnf)) | (refine ⟨_, rfl, ?_⟩; (conv => whnf)) | (refine ⟨_, mp_cut _ _ _, ?_⟩; (conv => whnf)) | (refine ⟨_, dbs_cut _ _ _, ?_⟩; (conv => whnf)) | (refine ⟨[_], rfl, ?_⟩; (conv => whnf)) | (refine ⟨[_, _], rfl, ?_⟩; (conv => whnf)) | (refine ⟨[_, _, _], rfl, ?_⟩; (conv => whnf)) | (refine ⟨[_, _, _, _], rfl, ?_⟩; (conv => whnf)) | (apply call_obj (m0) (fun F => by first | exact rfl | exact bob_ren F _ | exact ob_ren F _ _) (fun F => by first | exact rfl | exact bob_ren F _ | exact ob_ren F _ _); (focus (exact zq1)); (focus (exact zq2)); (conv => whnf)) | (apply call_obj (m1) (fun F => by first | exact rfl | exact bob_ren F _ | exact ob_ren F _ _) (fun F => by first | exact rfl | exact bob_ren F _ | exact ob_ren F _ _); (focus (exact zq1)); (focus (exact zq2)); (conv => whnf)) | (apply call_obj (m2) (fun F => by first | exact rfl | exact bob_ren F _ | exact ob_ren F _ _) (fun F => by first | exact rfl | exact bob_ren F _ | exact ob_ren F _ _); (focus (exact zq1)); (focus (exact zq2)); (conv => whnf)) | (apply call_obj (m3) (fun F => by first | exact rfl | exact bob_ren F _ | exact ob_ren F _ _) (fun F => by first | exact rfl | exact bob_ren F _ | exact ob_ren F _ _); (focus (exact zq1)); (focus (exact zq2)); (conv => whnf)) | (apply call_obj (mq) (fun F => by first | exact rfl | exact bob_ren F _ | exact ob_ren F _ _) (fun F => by first | exact rfl | exact bob_ren F _ | exact ob_ren F _ _); (focus (exact zq1)); (focus (exact zq2)); (conv => whnf)) | fail)
    all_goals
      first
        | (refine RetOk.pure' (fun F => by first | rfl | simp [TV.rens, TV.ren, dbs_ren, agg_ren]) ?_; (exact zq1))
        | (refine RetOk.pure' (fun F => by first | rfl | simp [TV.rens, TV.ren, dbs_ren, agg_ren]) ?_; refine sub_tup ⟨sub_agg_eq ?_, Sub.refl _, Sub.refl _, trivial⟩; first | rfl | (simp [dbs, pb, List.take_of_length_le, LE.at, dbs_ren, he]; done))
theorem rE_bad {s t0 u0 u1 u2 u3 z : Sr} {k v1 v2 v3 : Int}  (hk : (k < 1 ∨ 7 < k)) (m0 : numR s k t0) (hz3 : z = u3) (m1 : numR u0 v1 u1) (m2 : numR u1 v2 u2) (m3 : numR u2 v3 u3)  (mf : Meets Try.prog F_erasureref26Reader_fail ⟨[.c (.ptr 0 0), vi 1], [(0, rob t0)], 1, .tup [], [(0, rob u0)], 1⟩) : RER s (LE.at k v1 v2 v3) z := by
  refine fits_erasureref26Reader_Entry.meets rfl (by simp) fun Q hQ => ?_
  subst hz3
  (conv => whnf); repeat' (first | (refine And.intro ?_ ?_; (focus (exact zq3)); (conv => whnf)) | (refine onB_intro (fun hb => ?_) (fun hb => ?_) <;> (try simp only [decide_eq_true_eq, decide_eq_false_iff_not, Bool.not_eq_true', Bool.not_eq_false', Bool.and_eq_true, Bool.and_eq_false_iff, Int.not_le, Int.not_lt, bsz, ByteArray.toList_eq, beq_iff_eq, beq_eq_false_iff_ne, ne_eq] at hb) <;> (try (exfalso; omega)) <;> (try (exfalso; first | contradiction | (simp [ByteArray.toList_eq] at hb; done))) <;> (conv => whnf)) | (refine (hQ _ _ _ ?_).1; (conv => whnf)) | (refine ⟨_, rfl, ?_⟩; (conv => whnf)) | (refine ⟨_, mp_cut _ _ _, ?_⟩; (conv => whnf)) | (refine ⟨_, dbs_cut _ _ _, ?_⟩; (conv => whnf)) | (refine ⟨[_], rfl, ?_⟩; (conv => whnf)) | (refine ⟨[_, _], rfl, ?_⟩; (conv => whnf)) | (refine ⟨[_, _, _], rfl, ?_⟩; (conv => whnf)) | (refine ⟨[_, _, _, _], rfl, ?_⟩; (conv => whnf)) | (apply call_obj (m0) (fun F => by first | exact rfl | exact bob_ren F _ | exact ob_ren F _ _) (fun F => by first | exact rfl | exact bob_ren F _ | exact ob_ren F _ _); (focus (exact zq1)); (focus (exact zq2)); (conv => whnf)) | (apply call_obj (m1) (fun F => by first | exact rfl | exact bob_ren F _ | exact ob_ren F _ _) (fun F => by first | exact rfl | exact bob_ren F _ | exact ob_ren F _ _); (focus (exact zq1)); (focus (exact zq2)); (conv => whnf)) | (apply call_obj (m2) (fun F => by first | exact rfl | exact bob_ren F _ | exact ob_ren F _ _) (fun F => by first | exact rfl | exact bob_ren F _ | exact ob_ren F _ _); (focus (exact zq1)); (focus (exact zq2)); (conv => whnf)) | (apply call_obj (m3) (fun F => by first | exact rfl | exact bob_ren F _ | exact ob_ren F _ _) (fun F => by first | exact rfl | exact bob_ren F _ | exact ob_ren F _ _); (focus (exact zq1)); (focus (exact zq2)); (conv => whnf)) | (apply call_obj (mf) (fun F => by first | exact rfl | exact bob_ren F _ | exact ob_ren F _ _) (fun F => by first | exact rfl | exact bob_ren F _ | exact ob_ren F _ _); (focus (exact zq1)); (focus (exact zq2)); (conv => whnf)) | fail)
  all_goals (first | (all_goals (refine ret_obj rfl ?_ rfl ?_ (fun F => by first | exact rfl | (simp only [TV.rens, TV.ren, dbs_ren]; rfl) | (simp only [TV.rens, TV.ren, List.map_cons, List.map_nil, List.map_append, DV.ren, dbs_ren, map_ren_p]; done)) (fun F => by first | exact rfl | exact bob_ren F _ | exact ob_ren F _ _); (focus (exact zq1)); (first | rfl | (refine ob2_eq ?_ ?_ <;> (first | rfl | assumption | (simp only [*]; done) | (refine dv_val ?_ ?_ <;> (first | rfl | omega | (simp [pb, List.map_take, List.map_drop, List.take_of_length_le]; done) | (simp [pb, List.map_take, List.map_drop]; omega)))))))) | (refine ret_obj rfl (sub_agg_eq ?_) rfl rfl (fun F => by first | rfl | simp [TV.ren, dbs_ren]) (fun F => rfl); simp [dbs, pb, List.take_of_length_le, LE.at, dbs_ren]; done))
theorem rE_oth {s t0 u0 u1 u2 u3 z : Sr} {k v1 v2 v3 : Int}  (hk : k = 3 ∨ k = 5) (m0 : numR s k t0) (h0e : t0.e = 0) (hu : t0 = u0) (hz3 : z = u3) (m1 : numR u0 v1 u1) (m2 : numR u1 v2 u2) (m3 : numR u2 v3 u3)  : RER s (LE.at k v1 v2 v3) z := by
  refine fits_erasureref26Reader_Entry.meets rfl (by simp) fun Q hQ => ?_
  have hk3 : ¬ k = 1 ∧ ¬ k = 2 ∧ ¬ k = 4 ∧ ¬ k = 6 ∧ ¬ k = 7 := by omega
  subst hu
  subst hz3
  (conv => whnf); repeat' (first | (refine And.intro ?_ ?_; (focus (exact zq3)); (conv => whnf)) | (refine onB_intro (fun hb => ?_) (fun hb => ?_) <;> (try simp only [decide_eq_true_eq, decide_eq_false_iff_not, Bool.not_eq_true', Bool.not_eq_false', Bool.and_eq_true, Bool.and_eq_false_iff, Int.not_le, Int.not_lt, bsz, ByteArray.toList_eq, beq_iff_eq, beq_eq_false_iff_ne, ne_eq] at hb) <;> (try (exfalso; omega)) <;> (try (exfalso; first | contradiction | (simp [ByteArray.toList_eq] at hb; done))) <;> (conv => whnf)) | (refine (hQ _ _ _ ?_).1; (conv => whnf)) | (refine ⟨_, rfl, ?_⟩; (conv => whnf)) | (refine ⟨_, mp_cut _ _ _, ?_⟩; (conv => whnf)) | (refine ⟨_, dbs_cut _ _ _, ?_⟩; (conv => whnf)) | (refine ⟨[_], rfl, ?_⟩; (conv => whnf)) | (refine ⟨[_, _], rfl, ?_⟩; (conv => whnf)) | (refine ⟨[_, _, _], rfl, ?_⟩; (conv => whnf)) | (refine ⟨[_, _, _, _], rfl, ?_⟩; (conv => whnf)) | (apply call_obj (m0) (fun F => by first | exact rfl | exact bob_ren F _ | exact ob_ren F _ _) (fun F => by first | exact rfl | exact bob_ren F _ | exact ob_ren F _ _); (focus (exact zq1)); (focus (exact zq2)); (conv => whnf)) | (apply call_obj (m1) (fun F => by first | exact rfl | exact bob_ren F _ | exact ob_ren F _ _) (fun F => by first | exact rfl | exact bob_ren F _ | exact ob_ren F _ _); (focus (exact zq1)); (focus (exact zq2)); (conv => whnf)) | (apply call_obj (m2) (fun F => by first | exact rfl | exact bob_ren F _ | exact ob_ren F _ _) (fun F => by first | exact rfl | exact bob_ren F _ | exact ob_ren F _ _); (focus (exact zq1)); (focus (exact zq2)); (conv => whnf)) | (apply call_obj (m3) (fun F => by first | exact rfl | exact bob_ren F _ | exact ob_ren F _ _) (fun F => by first | exact rfl | exact bob_ren F _ | exact ob_ren F _ _); (focus (exact zq1)); (focus (exact zq2)); (conv => whnf)) | fail)
  all_goals (first | (all_goals (refine ret_obj rfl ?_ rfl ?_ (fun F => by first | exact rfl | (simp only [TV.rens, TV.ren, dbs_ren]; rfl) | (simp only [TV.rens, TV.ren, List.map_cons, List.map_nil, List.map_append, DV.ren, dbs_ren, map_ren_p]; done)) (fun F => by first | exact rfl | exact bob_ren F _ | exact ob_ren F _ _); (focus (exact zq1)); (first | rfl | (refine ob2_eq ?_ ?_ <;> (first | rfl | assumption | (simp only [*]; done) | (refine dv_val ?_ ?_ <;> (first | rfl | omega | (simp [pb, List.map_take, List.map_drop, List.take_of_length_le]; done) | (simp [pb, List.map_take, List.map_drop]; omega)))))))) | (refine ret_obj rfl (sub_agg_eq ?_) rfl rfl (fun F => by first | rfl | simp [TV.ren, dbs_ren]) (fun F => rfl); simp [dbs, pb, List.take_of_length_le, LE.at, dbs_ren]; done))
end Go.Proofs.Ytjieenfbfckafaa.Am
namespace Go.Proofs.Ytjieenfbfckafaa.Am
open Go
set_option linter.unusedVariables false
set_option linter.unusedSimpArgs false
set_option maxRecDepth 100000
set_option maxHeartbeats 2000000
theorem rE_1 {s t0 u0 u1 u2 u3 z : Sr} {k v1 v2 v3 : Int} {q : Req} (hk : k = 1) (m0 : numR s k t0) (h0e : t0.e = 0) (hu : t0 = u0) (m1 : numR u0 v1 u1) (m2 : numR u1 v2 u2) (m3 : numR u2 v3 u3) (mq : Meets Try.prog F_erasureref26Reader_Request ⟨[.c (.ptr 0 0)], [(0, rob u3)], 1, .agg q.enc, [(0, rob z)], 1⟩) : RER s ({ LE.at k v1 v2 v3 with req := q }) z := by
  refine fits_erasureref26Reader_Entry.meets rfl (by simp) fun Q hQ => ?_
  subst hk
  subst hu
  (conv => whnf); repeat' (first | (refine And.intro ?_ ?_; (focus (exact zq3)); (conv => whnf)) | (refine onB_intro (fun hb => ?_) (fun hb => ?_) <;> (try simp only [decide_eq_true_eq, decide_eq_false_iff_not, Bool.not_eq_true', Bool.not_eq_false', Bool.and_eq_true, Bool.and_eq_false_iff, Int.not_le, Int.not_lt, bsz, ByteArray.toList_eq, beq_iff_eq, beq_eq_false_iff_ne, ne_eq] at hb) <;> (try (exfalso; omega)) <;> (try (exfalso; first | contradiction | (simp [ByteArray.toList_eq] at hb; done))) <;> (conv => whnf)) | (refine (hQ _ _ _ ?_).1; (conv => whnf)) | (refine ⟨_, rfl, ?_⟩; (conv => whnf)) | (refine ⟨_, mp_cut _ _ _, ?_⟩; (conv => whnf)) | (refine ⟨_, dbs_cut _ _ _, ?_⟩; (conv => whnf)) | (refine ⟨[_], rfl, ?_⟩; (conv => whnf)) | (refine ⟨[_, _], rfl, ?_⟩; (conv => whnf)) | (refine ⟨[_, _, _], rfl, ?_⟩; (conv => whnf)) | (refine ⟨[_, _, _, _], rfl, ?_⟩; (conv => whnf)) | (apply call_obj (m0) (fun F => by first | exact rfl | exact bob_ren F _ | exact ob_ren F _ _) (fun F => by first | exact rfl | exact bob_ren F _ | exact ob_ren F _ _); (focus (exact zq1)); (focus (exact zq2)); (conv => whnf)) | (apply call_obj (m1) (fun F => by first | exact rfl | exact bob_ren F _ | exact ob_ren F _ _) (fun F => by first | exact rfl | exact bob_ren F _ | exact ob_ren F _ _); (focus (exact zq1)); (focus (exact zq2)); (conv => whnf)) | (apply call_obj (m2) (fun F => by first | exact rfl | exact bob_ren F _ | exact ob_ren F _ _) (fun F => by first | exact rfl | exact bob_ren F _ | exact ob_ren F _ _); (focus (exact zq1)); (focus (exact zq2)); (conv => whnf)) | (apply call_obj (m3) (fun F => by first | exact rfl | exact bob_ren F _ | exact ob_ren F _ _) (fun F => by first | exact rfl | exact bob_ren F _ | exact ob_ren F _ _); (focus (exact zq1)); (focus (exact zq2)); (conv => whnf)) | (apply call_obj (mq) (fun F => by first | exact rfl | exact bob_ren F _ | exact ob_ren F _ _) (fun F => by first | exact rfl | exact bob_ren F _ | exact ob_ren F _ _); (focus (exact zq1)); (focus (exact zq2)); (conv => whnf)) | fail)
  all_goals (first | (all_goals (refine ret_obj rfl ?_ rfl ?_ (fun F => by first | exact rfl | (simp only [TV.rens, TV.ren, dbs_ren]; rfl) | (simp only [TV.rens, TV.ren, List.map_cons, List.map_nil, List.map_append, DV.ren, dbs_ren, map_ren_p]; done)) (fun F => by first | exact rfl | exact bob_ren F _ | exact ob_ren F _ _); (focus (exact zq1)); (first | rfl | (refine ob2_eq ?_ ?_ <;> (first | rfl | assumption | (simp only [*]; done) | (refine dv_val ?_ ?_ <;> (first | rfl | omega | (simp [pb, List.map_take, List.map_drop, List.take_of_length_le]; done) | (simp [pb, List.map_take, List.map_drop]; omega)))))))) | (refine ret_obj rfl (sub_agg_eq ?_) rfl rfl (fun F => by first | rfl | simp [TV.ren, dbs_ren]) (fun F => rfl); simp [dbs, pb, List.take_of_length_le, LE.at, dbs_ren]; done))
theorem rE_2 {s t0 u0 u1 u2 u3 z : Sr} {k v1 v2 v3 : Int} {q : List Ver} {q2 : List Sou} {u4 : Sr} (hk : k = 2) (m0 : numR s k t0) (h0e : t0.e = 0) (hu : t0 = u0) (m1 : numR u0 v1 u1) (m2 : numR u1 v2 u2) (m3 : numR u2 v3 u3) (mq : Meets Try.prog F_erasureref26Reader_Versions ⟨[.c (.ptr 0 0)], [(0, rob u3)], 1, .c (dvers q), [(0, rob u4)], 1⟩) (mq2 : Meets Try.prog F_erasureref26Reader_Sources ⟨[.c (.ptr 0 0)], [(0, rob u4)], 1, .c (dsous q2), [(0, rob z)], 1⟩) : RER s ({ LE.at k v1 v2 v3 with vers := q, sous := q2 }) z := by
  refine fits_erasureref26Reader_Entry.meets rfl (by simp) fun Q hQ => ?_
  subst hk
  subst hu
  (conv => whnf); repeat' (first | (refine And.intro ?_ ?_; (focus (exact zq3)); (conv => whnf)) | (refine onB_intro (fun hb => ?_) (fun hb => ?_) <;> (try simp only [decide_eq_true_eq, decide_eq_false_iff_not, Bool.not_eq_true', Bool.not_eq_false', Bool.and_eq_true, Bool.and_eq_false_iff, Int.not_le, Int.not_lt, bsz, ByteArray.toList_eq, beq_iff_eq, beq_eq_false_iff_ne, ne_eq] at hb) <;> (try (exfalso; omega)) <;> (try (exfalso; first | contradiction | (simp [ByteArray.toList_eq] at hb; done))) <;> (conv => whnf)) | (refine (hQ _ _ _ ?_).1; (conv => whnf)) | (refine ⟨_, rfl, ?_⟩; (conv => whnf)) | (refine ⟨_, mp_cut _ _ _, ?_⟩; (conv => whnf)) | (refine ⟨_, dbs_cut _ _ _, ?_⟩; (conv => whnf)) | (refine ⟨[_], rfl, ?_⟩; (conv => whnf)) | (refine ⟨[_, _], rfl, ?_⟩; (conv => whnf)) | (refine ⟨[_, _, _], rfl, ?_⟩; (conv => whnf)) | (refine ⟨[_, _, _, _], rfl, ?_⟩; (conv => whnf)) | (apply call_obj (m0) (fun F => by first | exact rfl | exact bob_ren F _ | exact ob_ren F _ _) (fun F => by first | exact rfl | exact bob_ren F _ | exact ob_ren F _ _); (focus (exact zq1)); (focus (exact zq2)); (conv => whnf)) | (apply call_obj (m1) (fun F => by first | exact rfl | exact bob_ren F _ | exact ob_ren F _ _) (fun F => by first | exact rfl | exact bob_ren F _ | exact ob_ren F _ _); (focus (exact zq1)); (focus (exact zq2)); (conv => whnf)) | (apply call_obj (m2) (fun F => by first | exact rfl | exact bob_ren F _ | exact ob_ren F _ _) (fun F => by first | exact rfl | exact bob_ren F _ | exact ob_ren F _ _); (focus (exact zq1)); (focus (exact zq2)); (conv => whnf)) | (apply call_obj (m3) (fun F => by first | exact rfl | exact bob_ren F _ | exact ob_ren F _ _) (fun F => by first | exact rfl | exact bob_ren F _ | exact ob_ren F _ _); (focus (exact zq1)); (focus (exact zq2)); (conv => whnf)) | (apply call_obj (mq) (fun F => by first | exact rfl | exact bob_ren F _ | exact ob_ren F _ _) (fun F => by first | exact rfl | exact bob_ren F _ | exact ob_ren F _ _); (focus (exact zq1)); (focus (exact zq2)); (conv => whnf)) | (apply call_obj (mq2) (fun F => by first | exact rfl | exact bob_ren F _ | exact ob_ren F _ _) (fun F => by first | exact rfl | exact bob_ren F _ | exact ob_ren F _ _); (focus (exact zq1)); (focus (exact zq2)); (conv => whnf)) | fail)
  all_goals (first | (all_goals (refine ret_obj rfl ?_ rfl ?_ (fun F => by first | exact rfl | (simp only [TV.rens, TV.ren, dbs_ren]; rfl) | (simp only [TV.rens, TV.ren, List.map_cons, List.map_nil, List.map_append, DV.ren, dbs_ren, map_ren_p]; done)) (fun F => by first | exact rfl | exact bob_ren F _ | exact ob_ren F _ _); (focus (exact zq1)); (first | rfl | (refine ob2_eq ?_ ?_ <;> (first | rfl | assumption | (simp only [*]; done) | (refine dv_val ?_ ?_ <;> (first | rfl | omega | (simp [pb, List.map_take, List.map_drop, List.take_of_length_le]; done) | (simp [pb, List.map_take, List.map_drop]; omega)))))))) | (refine ret_obj rfl (sub_agg_eq ?_) rfl rfl (fun F => by first | rfl | simp [TV.ren, dbs_ren]) (fun F => rfl); simp [dbs, pb, List.take_of_length_le, LE.at, dbs_ren]; done))
theorem rE_4 {s t0 u0 u1 u2 u3 z : Sr} {k v1 v2 v3 : Int} {q : List UInt8} (hk : k = 4) (m0 : numR s k t0) (h0e : t0.e = 0) (hu : t0 = u0) (m1 : numR u0 v1 u1) (m2 : numR u1 v2 u2) (m3 : numR u2 v3 u3) (hq : q.length = 32) (mq : Meets Try.prog F_erasureref26Reader_Digest ⟨[.c (.ptr 0 0)], [(0, rob u3)], 1, .agg (dbs q), [(0, rob z)], 1⟩) : RER s ({ LE.at k v1 v2 v3 with root := q }) z := by
  refine fits_erasureref26Reader_Entry.meets rfl (by simp) fun Q hQ => ?_
  subst hk
  subst hu
  (conv => whnf); repeat' (first | (refine And.intro ?_ ?_; (focus (exact zq3)); (conv => whnf)) | (refine onB_intro (fun hb => ?_) (fun hb => ?_) <;> (try simp only [decide_eq_true_eq, decide_eq_false_iff_not, Bool.not_eq_true', Bool.not_eq_false', Bool.and_eq_true, Bool.and_eq_false_iff, Int.not_le, Int.not_lt, bsz, ByteArray.toList_eq, beq_iff_eq, beq_eq_false_iff_ne, ne_eq] at hb) <;> (try (exfalso; omega)) <;> (try (exfalso; first | contradiction | (simp [ByteArray.toList_eq] at hb; done))) <;> (conv => whnf)) | (refine (hQ _ _ _ ?_).1; (conv => whnf)) | (refine ⟨_, rfl, ?_⟩; (conv => whnf)) | (refine ⟨_, mp_cut _ _ _, ?_⟩; (conv => whnf)) | (refine ⟨_, dbs_cut _ _ _, ?_⟩; (conv => whnf)) | (refine ⟨[_], rfl, ?_⟩; (conv => whnf)) | (refine ⟨[_, _], rfl, ?_⟩; (conv => whnf)) | (refine ⟨[_, _, _], rfl, ?_⟩; (conv => whnf)) | (refine ⟨[_, _, _, _], rfl, ?_⟩; (conv => whnf)) | (apply call_obj (m0) (fun F => by first | exact rfl | exact bob_ren F _ | exact ob_ren F _ _) (fun F => by first | exact rfl | exact bob_ren F _ | exact ob_ren F _ _); (focus (exact zq1)); (focus (exact zq2)); (conv => whnf)) | (apply call_obj (m1) (fun F => by first | exact rfl | exact bob_ren F _ | exact ob_ren F _ _) (fun F => by first | exact rfl | exact bob_ren F _ | exact ob_ren F _ _); (focus (exact zq1)); (focus (exact zq2)); (conv => whnf)) | (apply call_obj (m2) (fun F => by first | exact rfl | exact bob_ren F _ | exact ob_ren F _ _) (fun F => by first | exact rfl | exact bob_ren F _ | exact ob_ren F _ _); (focus (exact zq1)); (focus (exact zq2)); (conv => whnf)) | (apply call_obj (m3) (fun F => by first | exact rfl | exact bob_ren F _ | exact ob_ren F _ _) (fun F => by first | exact rfl | exact bob_ren F _ | exact ob_ren F _ _); (focus (exact zq1)); (focus (exact zq2)); (conv => whnf)) | (apply call_obj (mq) (fun F => by first | exact rfl | exact bob_ren F _ | exact ob_ren F _ _) (fun F => by first | exact rfl | exact bob_ren F _ | exact ob_ren F _ _); (focus (exact zq1)); (focus (exact zq2)); (conv => whnf)) | fail)
  all_goals (clear hQ mq; obtain ⟨a0, a1, a2, a3, a4, a5, a6, a7, a8, a9, a10, a11, a12, a13, a14, a15, a16, a17, a18, a19, a20, a21, a22, a23, a24, a25, a26, a27, a28, a29, a30, a31, rfl⟩ := list32 hq; refine ret_obj rfl ?_ rfl rfl (fun F => LE.enc_ren F _) (fun F => rfl); (exact zq1))
theorem rE_6 {s t0 u0 u1 u2 u3 z : Sr} {k v1 v2 v3 : Int} {q : Link} (hk : k = 6) (m0 : numR s k t0) (h0e : t0.e = 0) (hu : t0 = u0) (m1 : numR u0 v1 u1) (m2 : numR u1 v2 u2) (m3 : numR u2 v3 u3) (mq : Meets Try.prog F_erasureref26Reader_Link ⟨[.c (.ptr 0 0)], [(0, rob u3)], 1, .agg q.enc, [(0, rob z)], 1⟩) : RER s ({ LE.at k v1 v2 v3 with link := q }) z := by
  refine fits_erasureref26Reader_Entry.meets rfl (by simp) fun Q hQ => ?_
  subst hk
  subst hu
  (conv => whnf); repeat' (first | (refine And.intro ?_ ?_; (focus (exact zq3)); (conv => whnf)) | (refine onB_intro (fun hb => ?_) (fun hb => ?_) <;> (try simp only [decide_eq_true_eq, decide_eq_false_iff_not, Bool.not_eq_true', Bool.not_eq_false', Bool.and_eq_true, Bool.and_eq_false_iff, Int.not_le, Int.not_lt, bsz, ByteArray.toList_eq, beq_iff_eq, beq_eq_false_iff_ne, ne_eq] at hb) <;> (try (exfalso; omega)) <;> (try (exfalso; first | contradiction | (simp [ByteArray.toList_eq] at hb; done))) <;> (conv => whnf)) | (refine (hQ _ _ _ ?_).1; (conv => whnf)) | (refine ⟨_, rfl, ?_⟩; (conv => whnf)) | (refine ⟨_, mp_cut _ _ _, ?_⟩; (conv => whnf)) | (refine ⟨_, dbs_cut _ _ _, ?_⟩; (conv => whnf)) | (refine ⟨[_], rfl, ?_⟩; (conv => whnf)) | (refine ⟨[_, _], rfl, ?_⟩; (conv => whnf)) | (refine ⟨[_, _, _], rfl, ?_⟩; (conv => whnf)) | (refine ⟨[_, _, _, _], rfl, ?_⟩; (conv => whnf)) | (apply call_obj (m0) (fun F => by first | exact rfl | exact bob_ren F _ | exact ob_ren F _ _) (fun F => by first | exact rfl | exact bob_ren F _ | exact ob_ren F _ _); (focus (exact zq1)); (focus (exact zq2)); (conv => whnf)) | (apply call_obj (m1) (fun F => by first | exact rfl | exact bob_ren F _ | exact ob_ren F _ _) (fun F => by first | exact rfl | exact bob_ren F _ | exact ob_ren F _ _); (focus (exact zq1)); (focus (exact zq2)); (conv => whnf)) | (apply call_obj (m2) (fun F => by first | exact rfl | exact bob_ren F _ | exact ob_ren F _ _) (fun F => by first | exact rfl | exact bob_ren F _ | exact ob_ren F _ _); (focus (exact zq1)); (focus (exact zq2)); (conv => whnf)) | (apply call_obj (m3) (fun F => by first | exact rfl | exact bob_ren F _ | exact ob_ren F _ _) (fun F => by first | exact rfl | exact bob_ren F _ | exact ob_ren F _ _); (focus (exact zq1)); (focus (exact zq2)); (conv => whnf)) | (apply call_obj (mq) (fun F => by first | exact rfl | exact bob_ren F _ | exact ob_ren F _ _) (fun F => by first | exact rfl | exact bob_ren F _ | exact ob_ren F _ _); (focus (exact zq1)); (focus (exact zq2)); (conv => whnf)) | fail)
  all_goals (first | (all_goals (refine ret_obj rfl ?_ rfl ?_ (fun F => by first | exact rfl | (simp only [TV.rens, TV.ren, dbs_ren]; rfl) | (simp only [TV.rens, TV.ren, List.map_cons, List.map_nil, List.map_append, DV.ren, dbs_ren, map_ren_p]; done)) (fun F => by first | exact rfl | exact bob_ren F _ | exact ob_ren F _ _); (focus (exact zq1)); (first | rfl | (refine ob2_eq ?_ ?_ <;> (first | rfl | assumption | (simp only [*]; done) | (refine dv_val ?_ ?_ <;> (first | rfl | omega | (simp [pb, List.map_take, List.map_drop, List.take_of_length_le]; done) | (simp [pb, List.map_take, List.map_drop]; omega)))))))) | (refine ret_obj rfl (sub_agg_eq ?_) rfl rfl (fun F => by first | rfl | simp [TV.ren, dbs_ren]) (fun F => rfl); simp [dbs, pb, List.take_of_length_le, LE.at, dbs_ren]; done))
theorem rE_7 {s t0 u0 u1 u2 u3 z : Sr} {k v1 v2 v3 : Int} {q : Hold} (hk : k = 7) (m0 : numR s k t0) (h0e : t0.e = 0) (hu : t0 = u0) (m1 : numR u0 v1 u1) (m2 : numR u1 v2 u2) (m3 : numR u2 v3 u3) (mq : Meets Try.prog F_erasureref26Reader_Hold ⟨[.c (.ptr 0 0)], [(0, rob u3)], 1, .agg q.enc, [(0, rob z)], 1⟩) : RER s ({ LE.at k v1 v2 v3 with hold := q }) z := by
  refine fits_erasureref26Reader_Entry.meets rfl (by simp) fun Q hQ => ?_
  subst hk
  subst hu
  (conv => whnf); repeat' (first | (refine And.intro ?_ ?_; (focus (exact zq3)); (conv => whnf)) | (refine onB_intro (fun hb => ?_) (fun hb => ?_) <;> (try simp only [decide_eq_true_eq, decide_eq_false_iff_not, Bool.not_eq_true', Bool.not_eq_false', Bool.and_eq_true, Bool.and_eq_false_iff, Int.not_le, Int.not_lt, bsz, ByteArray.toList_eq, beq_iff_eq, beq_eq_false_iff_ne, ne_eq] at hb) <;> (try (exfalso; omega)) <;> (try (exfalso; first | contradiction | (simp [ByteArray.toList_eq] at hb; done))) <;> (conv => whnf)) | (refine (hQ _ _ _ ?_).1; (conv => whnf)) | (refine ⟨_, rfl, ?_⟩; (conv => whnf)) | (refine ⟨_, mp_cut _ _ _, ?_⟩; (conv => whnf)) | (refine ⟨_, dbs_cut _ _ _, ?_⟩; (conv => whnf)) | (refine ⟨[_], rfl, ?_⟩; (conv => whnf)) | (refine ⟨[_, _], rfl, ?_⟩; (conv => whnf)) | (refine ⟨[_, _, _], rfl, ?_⟩; (conv => whnf)) | (refine ⟨[_, _, _, _], rfl, ?_⟩; (conv => whnf)) | (apply call_obj (m0) (fun F => by first | exact rfl | exact bob_ren F _ | exact ob_ren F _ _) (fun F => by first | exact rfl | exact bob_ren F _ | exact ob_ren F _ _); (focus (exact zq1)); (focus (exact zq2)); (conv => whnf)) | (apply call_obj (m1) (fun F => by first | exact rfl | exact bob_ren F _ | exact ob_ren F _ _) (fun F => by first | exact rfl | exact bob_ren F _ | exact ob_ren F _ _); (focus (exact zq1)); (focus (exact zq2)); (conv => whnf)) | (apply call_obj (m2) (fun F => by first | exact rfl | exact bob_ren F _ | exact ob_ren F _ _) (fun F => by first | exact rfl | exact bob_ren F _ | exact ob_ren F _ _); (focus (exact zq1)); (focus (exact zq2)); (conv => whnf)) | (apply call_obj (m3) (fun F => by first | exact rfl | exact bob_ren F _ | exact ob_ren F _ _) (fun F => by first | exact rfl | exact bob_ren F _ | exact ob_ren F _ _); (focus (exact zq1)); (focus (exact zq2)); (conv => whnf)) | (apply call_obj (mq) (fun F => by first | exact rfl | exact bob_ren F _ | exact ob_ren F _ _) (fun F => by first | exact rfl | exact bob_ren F _ | exact ob_ren F _ _); (focus (exact zq1)); (focus (exact zq2)); (conv => whnf)) | fail)
  all_goals (first | (all_goals (refine ret_obj rfl ?_ rfl ?_ (fun F => by first | exact rfl | (simp only [TV.rens, TV.ren, dbs_ren]; rfl) | (simp only [TV.rens, TV.ren, List.map_cons, List.map_nil, List.map_append, DV.ren, dbs_ren, map_ren_p]; done)) (fun F => by first | exact rfl | exact bob_ren F _ | exact ob_ren F _ _); (focus (exact zq1)); (first | rfl | (refine ob2_eq ?_ ?_ <;> (first | rfl | assumption | (simp only [*]; done) | (refine dv_val ?_ ?_ <;> (first | rfl | omega | (simp [pb, List.map_take, List.map_drop, List.take_of_length_le]; done) | (simp [pb, List.map_take, List.map_drop]; omega)))))))) | (refine ret_obj rfl (sub_agg_eq ?_) rfl rfl (fun F => by first | rfl | simp [TV.ren, dbs_ren]) (fun F => rfl); simp [dbs, pb, List.take_of_length_le, LE.at, dbs_ren]; done))
end Go.Proofs.Ytjieenfbfckafaa.Am
namespace Go.Proofs.Ytjieenfbfckafaa.Am
open Go
set_option linter.unusedVariables false
set_option linter.unusedSimpArgs false
set_option maxRecDepth 100000
set_option maxHeartbeats 2000000
/-- The first number of an entry: what the code does behind it. -/
theorem kind_cases (s : Sr) : (s.int.2.e = 0 ∧ (s.int.1 < 1 ∨ 7 < s.int.1) ∧ s.kind = (s.int.1, s.int.2.fail 1)) ∨ (s.int.2.e ≠ 0 ∧ s.int.1 = 0 ∧ s.kind = (s.int.1, s.int.2.fail 1) ∧ s.kind = (s.int.1, s.int.2)) ∨ (s.int.2.e = 0 ∧ ¬(s.int.1 < 1 ∨ 7 < s.int.1) ∧ s.kind = (s.int.1, s.int.2)) := by
  have h0 := s.int_err0
  have hk : s.kind = (s.int.1, if s.int.1 < 1 ∨ 7 < s.int.1 then s.int.2.fail 1 else s.int.2) := rfl
  by_cases hB : s.int.1 < 1 ∨ 7 < s.int.1
  · rw [if_pos hB] at hk
    by_cases hA : s.int.2.e = 0
    · exact .inl ⟨hA, hB, hk⟩
    · exact .inr (.inl ⟨hA, h0 hA, hk, by rw [hk, fail_off hA]⟩)
  · rw [if_neg hB] at hk
    refine .inr (.inr ⟨?_, hB, hk⟩)
    by_cases hA : s.int.2.e = 0
    · exact hA
    · exact absurd (h0 hA) (by omega)
/-- codec.ReadEntry -/
theorem readEntry_meets (b : List UInt8) (hb : b.length ≤ 70368744177664) : Meets Try.prog F_codec_ReadEntry ⟨[.c (bs b)], [], 0, .tup [.agg (readR Sr.le LE.zero b).1.enc, .c (bs (readR Sr.le LE.zero b).2.1), vi (readR Sr.le LE.zero b).2.2], [], 0⟩ := by
  have hlen := Sr.le_len ⟨b, 0⟩
  have goal : REC b (Sr.le ⟨b, 0⟩).1 (Sr.le ⟨b, 0⟩).2 → Meets Try.prog F_codec_ReadEntry ⟨[.c (bs b)], [], 0, .tup [.agg (readR Sr.le LE.zero b).1.enc, .c (bs (readR Sr.le LE.zero b).2.1), vi (readR Sr.le LE.zero b).2.2], [], 0⟩ := fun h => h
  refine goal ?_
  clear goal
  have hz : (Sr.le ⟨b, 0⟩).2.b.length ≤ 70368744177664 := by have : (Sr.le ⟨b, 0⟩).2.b.length ≤ b.length := hlen; omega
  have hc := kind_cases ⟨b, 0⟩
  have hkl := Sr.kind_len ⟨b, 0⟩
  have m0 := number_meets ⟨b, 0⟩ (by show b.length ≤ _; omega)
  have hkl : (Sr.kind ⟨b, 0⟩).2.b.length ≤ b.length := hkl
  unfold Sr.le at hz ⊢
  dsimp only at hz ⊢
  have n1 := number_meets (Sr.kind ⟨b, 0⟩).2 (by show _ ≤ _; omega)
  have g1 := (Sr.kind ⟨b, 0⟩).2.int_len
  have n2 := number_meets (Sr.kind ⟨b, 0⟩).2.int.2 (by show _ ≤ _; omega)
  have g2 := (Sr.kind ⟨b, 0⟩).2.int.2.int_len
  have n3 := number_meets (Sr.kind ⟨b, 0⟩).2.int.2.int.2 (by show _ ≤ _; omega)
  have g3 := (Sr.kind ⟨b, 0⟩).2.int.2.int.2.int_len
  generalize hu3 : (Sr.kind ⟨b, 0⟩).2.int.2.int.2.int = x3 at n3 g3 hz ⊢
  obtain ⟨v3, u3⟩ := x3
  generalize hu2 : (Sr.kind ⟨b, 0⟩).2.int.2.int = x2 at n2 g2 n3 g3 hz ⊢
  obtain ⟨v2, u2⟩ := x2
  generalize hu1 : (Sr.kind ⟨b, 0⟩).2.int = x1 at n1 g1 n2 g2 hz ⊢
  obtain ⟨v1, u1⟩ := x1
  dsimp only at n1 g1 n2 g2 n3 g3 hz ⊢
  clear hu1 hu2 hu3
  have hu3 : u3.b.length ≤ 70368744177664 := by omega
  rcases hc with ⟨hA, hB, hk⟩ | ⟨hA, hB, _, hk⟩ | ⟨hA, hB, hk⟩
  · rw [hk] at n1 hz ⊢
    dsimp only at n1 hz ⊢
    unfold Sr.body at hz ⊢
    rw [if_neg (by omega), if_neg (by omega), if_neg (by omega), if_neg (by omega), if_neg (by omega)] at hz ⊢
    exact cE_bad ⟨hB, hA⟩ m0 rfl n1 n2 n3 (fail_meets' _ 1) hz
  · rw [hk] at n1 hz ⊢
    dsimp only at n1 hz ⊢
    unfold Sr.body at hz ⊢
    rw [if_neg (by omega), if_neg (by omega), if_neg (by omega), if_neg (by omega), if_neg (by omega)] at hz ⊢
    exact cE_err ⟨hB, hA⟩ m0 rfl rfl n1 n2 n3 hz
  · rw [hk] at n1 hz ⊢
    dsimp only at n1 hz ⊢
    generalize (Sr.int ⟨b, 0⟩).1 = k at *
    generalize (Sr.int ⟨b, 0⟩).2 = t0 at *
    unfold Sr.body at hz ⊢
    by_cases h1 : k = 1
    · rw [if_pos h1] at hz ⊢
      exact cE_1 h1 m0 hA rfl n1 n2 n3 (request_meets u3 hu3) hz
    rw [if_neg h1] at hz ⊢
    by_cases h2 : k = 2
    · rw [if_pos h2] at hz ⊢
      have hv := u3.vers_len
      exact cE_2 h2 m0 hA rfl n1 n2 n3 (versions_meets u3 hu3) (sources_meets u3.vers.2 (by omega)) hz
    rw [if_neg h2] at hz ⊢
    by_cases h4 : k = 4
    · rw [if_pos h4] at hz ⊢
      exact cE_4 h4 m0 hA rfl n1 n2 n3 u3.digest32 (digest_meets u3 hu3) hz
    rw [if_neg h4] at hz ⊢
    by_cases h6 : k = 6
    · rw [if_pos h6] at hz ⊢
      exact cE_6 h6 m0 hA rfl n1 n2 n3 (link_meets u3 hu3) hz
    rw [if_neg h6] at hz ⊢
    by_cases h7 : k = 7
    · rw [if_pos h7] at hz ⊢
      exact cE_7 h7 m0 hA rfl n1 n2 n3 (hold_meets u3 hu3) hz
    rw [if_neg h7] at hz ⊢
    exact cE_oth (by omega) m0 hA rfl rfl n1 n2 n3 hz
/-- erasureref26.Reader.Entry -/
theorem rEntry_meets (s : Sr) (hs : s.b.length ≤ 70368744177664) : Meets Try.prog F_erasureref26Reader_Entry ⟨[.c (.ptr 0 0)], [(0, rob s)], 1, .agg s.le.1.enc, [(0, rob s.le.2)], 1⟩ := by
  have hc := kind_cases s
  have hkl := Sr.kind_len s
  have m0 := rInt_meets s (by show s.b.length ≤ _; omega)
  unfold Sr.le
  dsimp only
  have n1 := rInt_meets s.kind.2 (by show _ ≤ _; omega)
  have g1 := s.kind.2.int_len
  have n2 := rInt_meets s.kind.2.int.2 (by show _ ≤ _; omega)
  have g2 := s.kind.2.int.2.int_len
  have n3 := rInt_meets s.kind.2.int.2.int.2 (by show _ ≤ _; omega)
  have g3 := s.kind.2.int.2.int.2.int_len
  generalize hu3 : s.kind.2.int.2.int.2.int = x3 at n3 g3 ⊢
  obtain ⟨v3, u3⟩ := x3
  generalize hu2 : s.kind.2.int.2.int = x2 at n2 g2 n3 g3 ⊢
  obtain ⟨v2, u2⟩ := x2
  generalize hu1 : s.kind.2.int = x1 at n1 g1 n2 g2 ⊢
  obtain ⟨v1, u1⟩ := x1
  dsimp only at n1 g1 n2 g2 n3 g3 ⊢
  clear hu1 hu2 hu3
  have hu3 : u3.b.length ≤ 70368744177664 := by omega
  rcases hc with ⟨hA, hB, hk⟩ | ⟨hA, hB, hk, _⟩ | ⟨hA, hB, hk⟩
  · rw [hk] at n1 ⊢
    dsimp only at n1 ⊢
    unfold Sr.body
    rw [if_neg (by omega), if_neg (by omega), if_neg (by omega), if_neg (by omega), if_neg (by omega)]
    exact rE_bad hB m0 rfl n1 n2 n3 (rfail_meets' _ 1)
  · rw [hk] at n1 ⊢
    dsimp only at n1 ⊢
    unfold Sr.body
    rw [if_neg (by omega), if_neg (by omega), if_neg (by omega), if_neg (by omega), if_neg (by omega)]
    exact rE_bad (by omega) m0 rfl n1 n2 n3 (rfail_meets' _ 1)
  · rw [hk] at n1 ⊢
    dsimp only at n1 ⊢
    generalize s.int.1 = k at *
    generalize s.int.2 = t0 at *
    unfold Sr.body
    by_cases h1 : k = 1
    · rw [if_pos h1]
      exact rE_1 h1 m0 hA rfl n1 n2 n3 (rRequest_meets u3 hu3)
    rw [if_neg h1]
    by_cases h2 : k = 2
    · rw [if_pos h2]
      have hv := u3.vers_len
      exact rE_2 h2 m0 hA rfl n1 n2 n3 (rVersions_meets u3 hu3) (rSources_meets u3.vers.2 (by omega))
    rw [if_neg h2]
    by_cases h4 : k = 4
    · rw [if_pos h4]
      exact rE_4 h4 m0 hA rfl n1 n2 n3 u3.digest32 (rDigest_meets u3 hu3)
    rw [if_neg h4]
    by_cases h6 : k = 6
    · rw [if_pos h6]
      exact rE_6 h6 m0 hA rfl n1 n2 n3 (rLink_meets u3 hu3)
    rw [if_neg h6]
    by_cases h7 : k = 7
    · rw [if_pos h7]
      exact rE_7 h7 m0 hA rfl n1 n2 n3 (rHold_meets u3 hu3)
    rw [if_neg h7]
    exact rE_oth (by omega) m0 hA rfl rfl n1 n2 n3
end Go.Proofs.Ytjieenfbfckafaa.Am
namespace Go.Proofs.Ytjieenfbfckafaa.Am
open Go
set_option linter.unusedVariables false
set_option linter.unusedSimpArgs false
/-- A reader accepts nothing but encodings. -/
def Only {α : Type} (f : Sr → α × Sr) (enc : α → List UInt8) (R : α → Prop) : Prop := ∀ s, (f s).2.e = 0 → s.e = 0 ∧ s.b = enc (f s).1 ++ (f s).2.b ∧ R (f s).1
theorem decU_only : ∀ (b : List UInt8) (i u v : Nat) (r : List UInt8), i ≤ 9 → u < 2 ^ (7 * i) → decU i u b = .ok (v, r) → ∃ w, v = u + w * 2 ^ (7 * i) ∧ b = encU w ++ r ∧ (0 < i → 0 < w) ∧ v < 2 ^ 64
  | [], i, u, v, r, hi, hu, h => by simp [decU] at h
  | c :: b, i, u, v, r, hi, hu, h => by
    have hc : c.toNat < 256 := c.toNat_lt
    by_cases h1 : (i = 9 ∧ 1 < c.toNat) ∨ (0 < i ∧ c.toNat = 0)
    · rw [decU_bad h1] at h; simp at h
    · obtain ⟨n1, n2, n3⟩ := next_bound (c := c) hi (by omega) hu
      by_cases h2 : c.toNat < 128
      · rw [decU_last h1 h2] at h
        simp only [Except.ok.injEq, Prod.mk.injEq] at h
        obtain ⟨rfl, rfl⟩ := h
        refine ⟨c.toNat, by rw [Nat.mod_eq_of_lt h2], ?_, fun hi0 => by omega, n2⟩
        rw [encU_lt h2]
        simp
      · rw [decU_step h1 h2] at h
        have h9 : i ≠ 9 := by omega
        obtain ⟨w, e1, e2, e3, e4⟩ := decU_only b (i + 1) _ v r (by omega) (n3 (by omega)) h
        have hw := e3 (by omega)
        refine ⟨c.toNat % 128 + 128 * w, ?_, ?_, fun _ => by omega, e4⟩
        · rw [e1, Nat.add_mul, Nat.add_assoc, Nat.mul_add 7 i 1, Nat.pow_add]
          congr 2
          rw [show (2 : Nat) ^ (7 * 1) = 128 from rfl, Nat.mul_comm (2 ^ (7 * i)) 128, ← Nat.mul_assoc, Nat.mul_comm w 128]
        · rw [encU_ge (by omega), e2]
          have q1 : (c.toNat % 128 + 128 * w) % 128 + 128 = c.toNat := by omega
          have q2 : (c.toNat % 128 + 128 * w) / 128 = w := by omega
          rw [q1, q2]
          simp
theorem zz_unzz {u : Nat} : zz (unzz u) = u := by
  unfold unzz zz
  split <;> split <;> omega
theorem unzz_in {u : Nat} (h : u < 2 ^ 64) : inI64 (unzz u) := by
  have h : u < 18446744073709551616 := h
  unfold unzz inI64
  split <;> omega
theorem Only.int : Only Sr.int encInt inI64 := by
  intro s h
  by_cases he : s.e = 0
  · refine ⟨he, ?_⟩
    cases hd : decU 0 0 s.b with
    | error x => 
      exfalso
      rw [Sr.int_err he hd] at h
      dsimp only at h
      subst h
      have key : ∀ (b : List UInt8) (i u : Nat), decU i u b ≠ .error 0 := by
        intro b
        induction b with
        | nil => intro i u; simp [decU]
        | cons c b ih => intro i u; unfold decU; split <;> (try split) <;> first | exact ih _ _ | (simp; done)
      exact key _ _ _ hd
    | ok p =>
      obtain ⟨u, r⟩ := p
      rw [Sr.int_ok he hd]
      dsimp only
      obtain ⟨w, e1, e2, _, e4⟩ := decU_only s.b 0 0 u r (by omega) (by simp) hd
      have e1 : u = w := by simpa using e1
      subst e1
      refine ⟨?_, unzz_in e4⟩
      rw [encInt, zz_unzz]
      exact e2
  · exfalso
    unfold Sr.int at h
    rw [if_neg he] at h
    exact he h
theorem fail1_ne {s : Sr} : (s.fail 1).e ≠ 0 := by
  unfold Sr.fail
  split
  · simp
  · assumption
theorem Only.count (m : Int) : Only (Sr.count m) encInt (fun n => inI64 n ∧ 0 ≤ n ∧ n ≤ m) := by
  intro s h
  unfold Sr.count at h ⊢
  dsimp only at h ⊢
  by_cases hc : s.int.1 < 0 ∨ m < s.int.1
  · exfalso
    rw [if_pos hc, if_neg fail1_ne] at h
    exact fail1_ne h
  · rw [if_neg hc] at h ⊢
    by_cases he : s.int.2.e = 0
    · rw [if_pos he] at h ⊢
      obtain ⟨h1, h2, h3⟩ := Only.int s he
      exact ⟨h1, h2, h3, by dsimp only; omega, by dsimp only; omega⟩
    · rw [if_neg he] at h; exact absurd h he
theorem Sr.take_only (n : Nat) (s : Sr) (h : (s.take n).2.e = 0) : s.e = 0 ∧ s.b = (s.take n).1 ++ (s.take n).2.b ∧ (s.take n).1.length = n := by
  unfold Sr.take at h ⊢
  by_cases he : s.e = 0
  · rw [if_pos he] at h ⊢
    by_cases hn : s.b.length < n
    · rw [if_pos hn] at h; simp at h
    · rw [if_neg hn] at h ⊢
      refine ⟨he, by simp, by simp; omega⟩
  · rw [if_neg he] at h; exact absurd h he
theorem Only.text (m : Int) : Only (Sr.text m) encText (fun t => (t.length : Int) ≤ m) := by
  intro s h
  unfold Sr.text at h ⊢
  dsimp only at h ⊢
  obtain ⟨h1, h2, h3⟩ := Sr.take_only _ _ h
  obtain ⟨h4, h5, h6, h7, h8⟩ := Only.count m s h1
  refine ⟨h4, ?_, by rw [h3]; omega⟩
  rw [h5, h2, encText, h3, Int.toNat_of_nonneg h7, List.append_assoc]
theorem encVal_valid {v : Val} (h : v.valid = true) : encVal v = encVal' v := by rw [encVal, Val.clean, if_pos h]
theorem Only.value : Only Sr.value encVal (fun v => v.valid = true) := by
  have key : ∀ s, (Sr.value s).2.e = 0 → s.e = 0 ∧ s.b = encVal' (Sr.value s).1 ++ (Sr.value s).2.b ∧ (Sr.value s).1.valid = true := by
    intro s h
    unfold Sr.value at h ⊢
    dsimp only at h ⊢
    by_cases h1 : (s.count 2).1 = 1
    · rw [if_pos h1] at h ⊢
      dsimp only at h ⊢
      by_cases hv : (s.count 2).2.int.1 < -4294967296 ∨ 4294967296 < (s.count 2).2.int.1
      · rw [if_pos hv] at h; exact absurd h fail1_ne
      · rw [if_neg hv] at h ⊢
        obtain ⟨g1, g2, g3⟩ := Only.int _ h
        obtain ⟨g4, g5, g6⟩ := Only.count 2 s g1
        refine ⟨g4, ?_, ?_⟩
        · rw [g5, g2, h1, encVal', ← g2]; simp; exact g2
        · simp [Val.valid]; omega
    · rw [if_neg h1] at h ⊢
      by_cases h2 : (s.count 2).1 = 2
      · rw [if_pos h2] at h ⊢
        dsimp only at h ⊢
        obtain ⟨g1, g2, g3⟩ := Only.text 32 _ h
        obtain ⟨g4, g5, g6⟩ := Only.count 2 s g1
        refine ⟨g4, ?_, ?_⟩
        · rw [g5, h2, encVal']; simp; exact g2
        · simp [Val.valid]; omega
      · rw [if_neg h2] at h ⊢
        dsimp only at h ⊢
        obtain ⟨g4, g5, g6, g7, g8⟩ := Only.count 2 s h
        have h0 : (s.count 2).1 = 0 := by omega
        refine ⟨g4, ?_, by decide⟩
        rw [h0] at g5
        rw [show encVal' Val.null = encInt 0 by simp [encVal', Val.null]]
        exact g5
  intro s h
  obtain ⟨h1, h2, h3⟩ := key s h
  exact ⟨h1, by rw [encVal_valid h3]; exact h2, h3⟩
theorem Only.many {α : Type} {f : Sr → α × Sr} {enc : α → List UInt8} {R : α → Prop} (hf : Only f enc R) : ∀ (n : Nat) (s : Sr), (many f n s).2.e = 0 → s.e = 0 ∧ s.b = (many f n s).1.flatMap enc ++ (many f n s).2.b ∧ (many f n s).1.length = n ∧ ∀ a ∈ (many f n s).1, R a
  | 0, s, h => ⟨h, by simp [Am.many], rfl, fun a ha => by simp [Am.many] at ha⟩
  | n + 1, s, h => by
    by_cases he : s.e = 0
    · rw [Am.many, if_pos he] at h ⊢
      dsimp only at h ⊢
      obtain ⟨h1, h2, h3, h4⟩ := Only.many hf n (f s).2 h
      obtain ⟨h5, h6, h7⟩ := hf s h1
      refine ⟨he, ?_, by simp [h3], ?_⟩
      · rw [List.flatMap_cons, List.append_assoc, ← h2]; exact h6
      · intro a ha
        rcases List.mem_cons.1 ha with rfl | ha
        · exact h7
        · exact h4 a ha
    · rw [Am.many, if_neg he] at h
      exact absurd h he
theorem Only.list {α : Type} {f : Sr → α × Sr} {enc : α → List UInt8} {R : α → Prop} (hf : Only f enc R) (m : Int) : Only (Sr.list f m) (fun l => encInt l.length ++ l.flatMap enc) (fun l => (l.length : Int) ≤ m ∧ ∀ a ∈ l, R a) := by
  intro s h
  unfold Sr.list at h ⊢
  dsimp only at h ⊢
  obtain ⟨h1, h2, h3, h4⟩ := Only.many hf _ _ h
  obtain ⟨h5, h6, h7, h8, h9⟩ := Only.count m s h1
  refine ⟨h5, ?_, by rw [h3]; omega, h4⟩
  rw [h3, Int.toNat_of_nonneg h8, List.append_assoc, ← h2]
  exact h6
theorem Only.row : Only Sr.row encRow (fun r => (r.length : Int) ≤ 16 ∧ ∀ v ∈ r, v.valid = true) := Only.list Only.value 16
theorem Only.ident : Only Sr.ident encIdent (fun i => (i.ns.length : Int) ≤ 16 ∧ i.v.valid = true) := by
  intro s h
  unfold Sr.ident at h ⊢
  dsimp only at h ⊢
  obtain ⟨h1, h2, h3⟩ := Only.value _ h
  obtain ⟨h4, h5, h6⟩ := Only.text 16 _ h1
  exact ⟨h4, by rw [encIdent, List.append_assoc, ← h2]; exact h5, h6, h3⟩
theorem Only.ver : Only Sr.ver encVer Ver.ok := by
  intro s h
  unfold Sr.ver at h ⊢
  dsimp only at h ⊢
  obtain ⟨h1, h2, h3⟩ := Only.int _ h
  obtain ⟨h4, h5, h6⟩ := Only.int _ h1
  obtain ⟨h7, h8, h9⟩ := Only.int _ h4
  exact ⟨h7, by rw [encVer, ints3_enc, ← h2, ← h5]; exact h8, h9, h3, h6⟩
theorem Only.sou : Only Sr.sou encSou Sou.ok := by
  intro s h
  unfold Sr.sou at h ⊢
  dsimp only at h ⊢
  obtain ⟨h4, h5, h6⟩ := Only.int _ h
  obtain ⟨h7, h8, h9⟩ := Only.int _ h4
  exact ⟨h7, by rw [encSou, ints2_enc, ← h5]; exact h8, h9, h6⟩
theorem Only.vers : Only Sr.vers encVers (fun l => (l.length : Int) ≤ 512 ∧ ∀ v ∈ l, v.ok) := Only.list Only.ver 512
theorem Only.sous : Only Sr.sous encSous (fun l => (l.length : Int) ≤ 512 ∧ ∀ v ∈ l, v.ok) := Only.list Only.sou 512
theorem Only.link : Only Sr.link encLink (fun l => ((l.a.ns.length : Int) ≤ 16 ∧ l.a.v.valid = true) ∧ ((l.b.ns.length : Int) ≤ 16 ∧ l.b.v.valid = true) ∧ inI64 l.seq) := by
  intro s h
  unfold Sr.link at h ⊢
  dsimp only at h ⊢
  obtain ⟨a1, a2, a3, a4, a5⟩ := Only.count 1 _ h
  obtain ⟨b1, b2, b3⟩ := Only.int _ a1
  obtain ⟨c1, c2, c3⟩ := Only.ident _ b1
  obtain ⟨d1, d2, d3⟩ := Only.ident _ c1
  refine ⟨d1, ?_, d3, c3, b3⟩
  rw [encLink]; dsimp only
  rw [List.append_assoc, List.append_assoc, ints2_enc]
  have : (if decide ((s.ident.2.ident.2.int.2.count 1).1 = 1) = true then (1 : Int) else 0) = (s.ident.2.ident.2.int.2.count 1).1 := by
    by_cases hq : (s.ident.2.ident.2.int.2.count 1).1 = 1
    · simp [hq]
    · simp [hq]; omega
  rw [this, ← a2, ← b2, ← c2]
  exact d2
theorem Only.hold : Only Sr.hold encHold (fun q => ((q.who.ns.length : Int) ≤ 16 ∧ q.who.v.valid = true) ∧ inI64 q.t ∧ inI64 q.c ∧ inI64 q.seq ∧ inI64 q.fr ∧ inI64 q.to) := by
  intro s h
  unfold Sr.hold at h ⊢
  dsimp only at h ⊢
  obtain ⟨a1, a2, a3⟩ := Only.int _ h
  obtain ⟨b1, b2, b3⟩ := Only.int _ a1
  obtain ⟨c1, c2, c3⟩ := Only.int _ b1
  obtain ⟨d1, d2, d3⟩ := Only.ident _ c1
  obtain ⟨e1, e2, e3⟩ := Only.int _ d1
  obtain ⟨f1, f2, f3⟩ := Only.int _ e1
  refine ⟨f1, ?_, d3, f3, e3, c3, b3, a3⟩
  rw [encHold, List.append_assoc, List.append_assoc, ints2_enc, ints3_enc, ← a2, ← b2, ← c2, ← d2, ← e2]
  exact f2
theorem Only.req : Only Sr.req encReq (fun q => ((q.who.ns.length : Int) ≤ 16 ∧ q.who.v.valid = true) ∧ inI64 q.k ∧ inI64 q.seq ∧ inI64 q.day ∧ inI64 q.dl) := by
  intro s h
  unfold Sr.req at h ⊢
  dsimp only at h ⊢
  obtain ⟨a1, a2, a3⟩ := Only.int _ h
  obtain ⟨b1, b2, b3⟩ := Only.int _ a1
  obtain ⟨c1, c2, c3⟩ := Only.int _ b1
  obtain ⟨d1, d2, d3⟩ := Only.ident _ c1
  obtain ⟨e1, e2, e3⟩ := Only.int _ d1
  refine ⟨e1, ?_, d3, e3, c3, b3, a3⟩
  rw [encReq, List.append_assoc, List.append_assoc, ints1_enc, ints3_enc, ← a2, ← b2, ← c2, ← d2]
  exact e2
theorem Only.digest : Only Sr.digest (fun d => d) (fun d => d.length = 32) := by
  intro s h
  have h' : (s.take 32).2.e = 0 := h
  obtain ⟨a1, a2, a3⟩ := Sr.take_only 32 s h'
  unfold Sr.digest
  dsimp only
  rw [if_pos h']
  exact ⟨a1, a2, a3⟩
theorem Only.kind : Only Sr.kind encInt (fun n => inI64 n ∧ 1 ≤ n ∧ n ≤ 7) := by
  intro s h
  unfold Sr.kind at h ⊢
  dsimp only at h ⊢
  by_cases hc : s.int.1 < 1 ∨ 7 < s.int.1
  · rw [if_pos hc] at h; exact absurd h fail1_ne
  · rw [if_neg hc] at h ⊢
    obtain ⟨a1, a2, a3⟩ := Only.int _ h
    exact ⟨a1, a2, a3, by omega, by omega⟩
theorem in0 : inI64 0 := ⟨by omega, by omega⟩
theorem LE.at_ok {k d p t : Int} (hk : inI64 k) (hd : inI64 d) (hp : inI64 p) (ht : inI64 t) : (LE.at k d p t).ok :=
  ⟨hk, hd, hp, ht, ⟨Nat.zero_le _, in0, in0, in0, in0⟩, ⟨⟨Nat.zero_le _, Nat.zero_le _⟩, in0⟩, ⟨Nat.zero_le _, in0, in0, in0, in0, in0⟩, by simp [LE.at], by simp [LE.at], by simp [LE.at], by simp [LE.at], rfl⟩
theorem encLE_mk (k d p t : Int) (q : Req) (l : Link) (h : Hold) (v : List Ver) (w : List Sou) (r : List UInt8) : encLE ⟨k, d, p, t, q, l, h, v, w, r⟩ = encInts [k, d, p, t] ++
    (if k = 1 then encReq q else if k = 2 then encVers v ++ encSous w else if k = 4 then r else if k = 6 then encLink l else if k = 7 then encHold h else []) := rfl
theorem Only.body {k d p t : Int} (hk : inI64 k) (hd : inI64 d) (hp : inI64 p) (ht : inI64 t) (s : Sr) (h : (s.body k d p t).2.e = 0) : s.e = 0 ∧ (s.body k d p t).1.ok ∧ encInts [k, d, p, t] ++ s.b = encLE (s.body k d p t).1 ++ (s.body k d p t).2.b := by
  have ok := LE.at_ok hk hd hp ht
  unfold Sr.body at h ⊢
  by_cases h1 : k = 1
  · rw [if_pos h1] at h ⊢
    obtain ⟨a1, a2, a3, a4⟩ := Only.req _ h
    refine ⟨a1, { ok with req := ⟨by dsimp only; omega, a4⟩ }, ?_⟩
    show encInts [k, d, p, t] ++ s.b = encLE ⟨k, d, p, t, s.req.1, Link.zero, Hold.zero, [], [], zero32⟩ ++ s.req.2.b
    rw [encLE_mk, if_pos h1, List.append_assoc, ← a2]
  · rw [if_neg h1] at h ⊢
    by_cases h2 : k = 2
    · rw [if_pos h2] at h ⊢
      obtain ⟨a1, a2, a3, a4⟩ := Only.sous _ h
      obtain ⟨b1, b2, b3, b4⟩ := Only.vers _ a1
      refine ⟨b1, { ok with vers := b4, sous := a4, vl := by dsimp only; omega, sl := by dsimp only; omega }, ?_⟩
      show encInts [k, d, p, t] ++ s.b = encLE ⟨k, d, p, t, Req.zero, Link.zero, Hold.zero, s.vers.1, s.vers.2.sous.1, zero32⟩ ++ s.vers.2.sous.2.b
      rw [encLE_mk, if_neg h1, if_pos h2, List.append_assoc, List.append_assoc, ← a2, ← b2]
    · rw [if_neg h2] at h ⊢
      by_cases h4 : k = 4
      · rw [if_pos h4] at h ⊢
        obtain ⟨a1, a2, a3⟩ := Only.digest _ h
        refine ⟨a1, { ok with root := a3 }, ?_⟩
        show encInts [k, d, p, t] ++ s.b = encLE ⟨k, d, p, t, Req.zero, Link.zero, Hold.zero, [], [], s.digest.1⟩ ++ s.digest.2.b
        rw [encLE_mk, if_neg h1, if_neg h2, if_pos h4, List.append_assoc, ← a2]
      · rw [if_neg h4] at h ⊢
        by_cases h6 : k = 6
        · rw [if_pos h6] at h ⊢
          obtain ⟨a1, a2, a3, a4, a5⟩ := Only.link _ h
          refine ⟨a1, { ok with link := ⟨⟨by dsimp only; omega, by dsimp only; omega⟩, a5⟩ }, ?_⟩
          show encInts [k, d, p, t] ++ s.b = encLE ⟨k, d, p, t, Req.zero, s.link.1, Hold.zero, [], [], zero32⟩ ++ s.link.2.b
          rw [encLE_mk, if_neg h1, if_neg h2, if_neg h4, if_pos h6, List.append_assoc, ← a2]
        · rw [if_neg h6] at h ⊢
          by_cases h7 : k = 7
          · rw [if_pos h7] at h ⊢
            obtain ⟨a1, a2, a3, a4⟩ := Only.hold _ h
            refine ⟨a1, { ok with hold := ⟨by dsimp only; omega, a4⟩ }, ?_⟩
            show encInts [k, d, p, t] ++ s.b = encLE ⟨k, d, p, t, Req.zero, Link.zero, s.hold.1, [], [], zero32⟩ ++ s.hold.2.b
            rw [encLE_mk, if_neg h1, if_neg h2, if_neg h4, if_neg h6, if_pos h7, List.append_assoc, ← a2]
          · rw [if_neg h7] at h ⊢
            refine ⟨h, ok, ?_⟩
            show encInts [k, d, p, t] ++ s.b = encLE ⟨k, d, p, t, Req.zero, Link.zero, Hold.zero, [], [], zero32⟩ ++ s.b
            rw [encLE_mk, if_neg h1, if_neg h2, if_neg h4, if_neg h6, if_neg h7, List.append_nil]
theorem Only.le : Only Sr.le encLE LE.ok := by
  intro s h
  unfold Sr.le at h ⊢
  dsimp only at h ⊢
  by_cases g3 : s.kind.2.int.2.int.2.int.2.e = 0
  · obtain ⟨d1, d2, d3⟩ := Only.int _ g3
    obtain ⟨c1, c2, c3⟩ := Only.int _ d1
    obtain ⟨b1, b2, b3⟩ := Only.int _ c1
    obtain ⟨a1, a2, a3⟩ := Only.kind _ b1
    obtain ⟨e1, e2, e3⟩ := Only.body a3.1 b3 c3 d3 _ h
    refine ⟨a1, ?_, e2⟩
    rw [← e3, ints4_enc, ← d2, ← c2, ← b2]
    exact a2
  · rw [(Stream.body _ _ _ _).stick _ g3] at h
    exact absurd h g3
end Go.Proofs.Ytjieenfbfckafaa.Am
namespace Go.Proofs.Ytjieenfbfckafaa.Am
open Go
set_option linter.unusedVariables false
set_option linter.unusedSimpArgs false
set_option maxRecDepth 100000
set_option maxHeartbeats 1000000
theorem fit_dbs {d : List UInt8} {n : Nat} (hd : d.length = n) : fitCKs [(n, .ti .u8)] (dbs d) := by
  refine ⟨by simp [dbs, pb, hd], ?_, ?_⟩
  · intro x hx
    have hx := List.mem_of_mem_take hx
    simp only [dbs, pb, List.mem_map] at hx
    obtain ⟨y, ⟨z, _, rfl⟩, rfl⟩ := hx
    rfl
  · exact List.drop_of_length_le (by simp [dbs, pb, hd])
theorem eqa_dig {n : Nat} {X Y : List DV} {d : List UInt8} (hd : d.length = n) (hX : X = dbs d) (hY : Y = dbs d) {R : Bool → Prop} (h : R true) :
    fitCKs [(n, .ti .u8)] X ∧ fitCKs [(n, .ti .u8)] Y ∧ ∀ b : Bool, (b = true ↔ X = Y) → R b := by
  subst hX; subst hY
  refine ⟨fit_dbs hd, fit_dbs hd, fun b hb => ?_⟩
  rw [hb.2 rfl]
  exact h
end Go.Proofs.Ytjieenfbfckafaa.Am
namespace Go.Proofs.Ytjieenfbfckafaa.Am
open Go
set_option linter.unusedVariables false
set_option linter.unusedSimpArgs false
set_option maxRecDepth 100000
set_option maxHeartbeats 2000000
/-- erasureref26.SameEntry of a thing with itself -/
theorem sameEntry_self (a : LE) (hv : a.vers.length ≤ 1000) (hs : a.sous.length ≤ 1000) (hr : a.root.length = 32) : Meets Try.prog F_erasureref26SameEntry ⟨[.agg a.enc, .agg a.enc], [], 0, vb true, [], 0⟩ := by
  have s1 := sameVersions_meets a.vers a.vers (by omega) (by omega)
  simp only [decide_true] at s1
  have s2 := sameSources_meets a.sous a.sous (by omega) (by omega)
  simp only [decide_true] at s2
  have hX : List.take 32 (List.drop (0 + 33) (Ob.mk T_api_LedgerEntry a.enc).xs) = dbs a.root := by
    have h1 : List.drop 33 a.enc = dbs a.root := rfl
    show List.take 32 (List.drop 33 a.enc) = _
    rw [h1, List.take_of_length_le (by rw [dbs_length]; omega)]
  refine fits_erasureref26SameEntry.meets rfl (by simp) fun Q hQ => ?_
  (conv => whnf); repeat' (first | (refine And.intro ?_ ?_; (focus (exact zq3)); (conv => whnf)) | (refine onB_intro (fun hb => ?_) (fun hb => ?_) <;> (try simp only [decide_eq_true_eq, decide_eq_false_iff_not, Bool.not_eq_true', Bool.not_eq_false', Bool.and_eq_true, Bool.and_eq_false_iff, Int.not_le, Int.not_lt, bsz, ByteArray.toList_eq, beq_iff_eq, beq_eq_false_iff_ne, ne_eq] at hb) <;> (try (exfalso; omega)) <;> (try (exfalso; first | contradiction | (simp [ByteArray.toList_eq] at hb; done))) <;> (conv => whnf)) | (refine (hQ _ _ _ ?_).1; (conv => whnf)) | (refine ⟨_, rfl, ?_⟩; (conv => whnf)) | (refine ⟨_, mp_cut _ _ _, ?_⟩; (conv => whnf)) | (refine ⟨_, dbs_cut _ _ _, ?_⟩; (conv => whnf)) | (refine ⟨[_], rfl, ?_⟩; (conv => whnf)) | (refine ⟨[_, _], rfl, ?_⟩; (conv => whnf)) | (refine ⟨[_, _, _], rfl, ?_⟩; (conv => whnf)) | (refine ⟨[_, _, _, _], rfl, ?_⟩; (conv => whnf)) | (refine call_pure (s1) (fun F => by first | exact rfl | (simp only [TV.rens, TV.ren, dbs_ren]; rfl) | (simp only [TV.rens, TV.ren, List.map_cons, List.map_nil, List.map_append, DV.ren, dbs_ren, map_ren_p]; done)) (fun F => by first | exact rfl | (simp only [TV.rens, TV.ren, dbs_ren]; rfl) | (simp only [TV.rens, TV.ren, List.map_cons, List.map_nil, List.map_append, DV.ren, dbs_ren, map_ren_p]; done)) ?_ ?_; (focus (exact zq1)); (conv => whnf)) | (refine call_pure (s2) (fun F => by first | exact rfl | (simp only [TV.rens, TV.ren, dbs_ren]; rfl) | (simp only [TV.rens, TV.ren, List.map_cons, List.map_nil, List.map_append, DV.ren, dbs_ren, map_ren_p]; done)) (fun F => by first | exact rfl | (simp only [TV.rens, TV.ren, dbs_ren]; rfl) | (simp only [TV.rens, TV.ren, List.map_cons, List.map_nil, List.map_append, DV.ren, dbs_ren, map_ren_p]; done)) ?_ ?_; (focus (exact zq1)); (conv => whnf)) | (refine eqa_same (fit_req a.req) rfl rfl ?_; (conv => whnf)) | (refine eqa_same (fit_link a.link) rfl rfl ?_; (conv => whnf)) | (refine eqa_same (fit_hold a.hold) rfl rfl ?_; (conv => whnf)) | (refine eqa_dig hr hX hX ?_; (conv => whnf)) | fail)
  all_goals exact RetOk.pure' (fun f => rfl) (Sub.refl _)
end Go.Proofs.Ytjieenfbfckafaa.Am
namespace Go.Proofs.Ytjieenfbfckafaa.Am
open Go
set_option linter.unusedVariables false
set_option linter.unusedSimpArgs false
set_option maxRecDepth 100000
set_option maxHeartbeats 2000000
theorem LE.enc_len {e : LE} (h : e.root.length = 32) : e.enc.length = 65 := by simp [pb, h]
theorem LE.zero_self : Meets Try.prog F_erasureref26SameEntry ⟨[.agg LE.zero.enc, .agg LE.zero.enc], [], 0, vb true, [], 0⟩ := sameEntry_self LE.zero (Nat.zero_le _) (Nat.zero_le _) rfl
end Go.Proofs.Ytjieenfbfckafaa.Am
namespace Go.Proofs.Ytjieenfbfckafaa.Am
open Go
set_option linter.unusedVariables false
set_option linter.unusedSimpArgs false
set_option maxRecDepth 100000
set_option maxHeartbeats 2000000
theorem Sr.recd_count (s : Sr) : s.recd.1.row.length ≤ 1000 ∧ s.recd.1.seq.length ≤ 1000 := by
  have h1 := s.row_count
  have h2 := many_count (f := Sr.int) s.row.1.length s.row.2
  exact ⟨Nat.le_trans h1 (by omega), Nat.le_trans h2 (by omega)⟩
theorem many_all {α : Type} {f : Sr → α × Sr} {R : α → Prop} (hf : ∀ s, R (f s).1) : ∀ (n : Nat) (s : Sr), ∀ a ∈ (many f n s).1, R a
  | 0, s, a, ha => by simp [many] at ha
  | n + 1, s, a, ha => by
    unfold many at ha
    split at ha
    · rcases List.mem_cons.1 ha with rfl | ha
      · exact hf s
      · exact many_all hf n _ a ha
    · simp at ha
theorem Sr.list_count {α : Type} (f : Sr → α × Sr) (m : Int) (hm : 0 ≤ m) (s : Sr) : ((s.list f m).1.length : Int) ≤ m := by
  have h := s.count_range m hm
  have h2 := many_count (f := f) (s.count m).1.toNat (s.count m).2
  show ((many f (s.count m).1.toNat (s.count m).2).1.length : Int) ≤ m
  omega
theorem Sr.bag_count (s : Sr) : s.bag.1.length ≤ 1000000 ∧ ∀ e ∈ s.bag.1, e.row.length ≤ 1000 := by
  have h := Sr.list_count Sr.ent 4096 (by omega) s
  refine ⟨?_, many_all (R := fun e : Ent => e.row.length ≤ 1000) (fun s => Nat.le_trans s.row_count (by omega)) _ _⟩
  have h : ((s.bag).1.length : Int) ≤ 4096 := h
  omega
theorem Sr.chg_count (s : Sr) : s.chg.1.row.length ≤ 1000 := Nat.le_trans (Sr.row_count _) (by omega)
theorem Sr.chg_len (s : Sr) : s.chg.2.b.length ≤ s.b.length := Nat.le_trans (Sr.value_len _) (Nat.le_trans (Sr.int_len _) (Nat.le_trans (Sr.value_len _) (Nat.le_trans (Sr.row_len _) (Nat.le_trans (Sr.int_len _) (Nat.le_trans (Sr.int_len _) (Nat.le_trans (Sr.int_len _) (Sr.int_len _)))))))
theorem Sr.vers_count (s : Sr) : s.vers.1.length ≤ 1000 := by
  have h := Sr.list_count Sr.ver 512 (by omega) s
  have h : ((s.vers).1.length : Int) ≤ 512 := h
  omega
theorem Sr.sous_count (s : Sr) : s.sous.1.length ≤ 1000 := by
  have h := Sr.list_count Sr.sou 512 (by omega) s
  have h : ((s.sous).1.length : Int) ≤ 512 := h
  omega
theorem Sr.body_count (k d p t : Int) (s : Sr) : (s.body k d p t).1.vers.length ≤ 1000 ∧ (s.body k d p t).1.sous.length ≤ 1000 ∧ (s.body k d p t).1.root.length = 32 := by
  have h1 := s.vers_count
  have h2 := s.vers.2.sous_count
  have h3 := s.digest32
  have hz : zero32.length = 32 := rfl
  unfold Sr.body
  (repeat' split) <;> (simp only [LE.at, List.length_nil]; refine ⟨?_, ?_, ?_⟩ <;> first | omega | assumption)
theorem Sr.le_count (s : Sr) : s.le.1.vers.length ≤ 1000 ∧ s.le.1.sous.length ≤ 1000 ∧ s.le.1.root.length = 32 := Sr.body_count _ _ _ _ _
theorem rd_0 (b : List UInt8) (kind : Int) (hb : b.length ≤ 200) (hK : bits .and .i64 kind 7 = 0) : Meets Try.prog F_erasurelaw26CodecReads ⟨[.c (bs b), vi kind], [], 0, vb true, [], 0⟩ := by
  have hl := Sr.value_len ⟨b, 0⟩
  have r1 := readValue_meets b (by omega)
  have m1 := rValue_meets ⟨b, 0⟩ (by show b.length ≤ _; omega)
  unfold readR at r1
  generalize Sr.value ⟨b, 0⟩ = x at r1 m1 hl
  obtain ⟨v, s⟩ := x
  dsimp only at r1 m1 hl
  by_cases he : s.e = 0
  · rw [if_pos he] at r1
    dsimp only at r1
    refine fits_erasurelaw26CodecReads.meets rfl (by simp) fun Q hQ => ?_
    (conv => whnf); repeat' (first | (refine And.intro ?_ ?_; (focus (exact zq3)); (conv => whnf)) | (refine onB_intro (fun hb => ?_) (fun hb => ?_) <;> (try simp only [decide_eq_true_eq, decide_eq_false_iff_not, Bool.not_eq_true', Bool.not_eq_false', Bool.and_eq_true, Bool.and_eq_false_iff, Int.not_le, Int.not_lt, bsz, ByteArray.toList_eq, beq_iff_eq, beq_eq_false_iff_ne, ne_eq] at hb) <;> (try (exfalso; omega)) <;> (try (exfalso; first | contradiction | (simp [ByteArray.toList_eq] at hb; done))) <;> (conv => whnf)) | (refine (hQ _ _ _ ?_).1; (conv => whnf)) | (refine ⟨_, rfl, ?_⟩; (conv => whnf)) | (refine ⟨_, mp_cut _ _ _, ?_⟩; (conv => whnf)) | (refine ⟨_, dbs_cut _ _ _, ?_⟩; (conv => whnf)) | (refine ⟨[_], rfl, ?_⟩; (conv => whnf)) | (refine ⟨[_, _], rfl, ?_⟩; (conv => whnf)) | (refine ⟨[_, _, _], rfl, ?_⟩; (conv => whnf)) | (refine ⟨[_, _, _, _], rfl, ?_⟩; (conv => whnf)) | (refine call_pure (r1) (fun F => by first | exact rfl | (simp only [TV.rens, TV.ren, dbs_ren]; rfl) | (simp only [TV.rens, TV.ren, List.map_cons, List.map_nil, List.map_append, DV.ren, dbs_ren, map_ren_p]; done)) (fun F => by first | exact rfl | (simp only [TV.rens, TV.ren, dbs_ren]; rfl) | (simp only [TV.rens, TV.ren, List.map_cons, List.map_nil, List.map_append, DV.ren, dbs_ren, map_ren_p]; done)) ?_ ?_; (focus (exact zq1)); (conv => whnf)) | (apply call_obj (m1) (fun F => by first | exact rfl | exact bob_ren F _ | exact ob_ren F _ _) (fun F => by first | exact rfl | exact bob_ren F _ | exact ob_ren F _ _); (focus (exact zq1)); (focus (exact zq2)); (conv => whnf)) | (refine eqa_same (fit_val v) rfl rfl ?_; (conv => whnf)) | (refine call_pure (awake26_meets) (fun F => by first | exact rfl | (simp only [TV.rens, TV.ren, dbs_ren]; rfl) | (simp only [TV.rens, TV.ren, List.map_cons, List.map_nil, List.map_append, DV.ren, dbs_ren, map_ren_p]; done)) (fun F => by first | exact rfl | (simp only [TV.rens, TV.ren, dbs_ren]; rfl) | (simp only [TV.rens, TV.ren, List.map_cons, List.map_nil, List.map_append, DV.ren, dbs_ren, map_ren_p]; done)) ?_ ?_; (focus (exact zq1)); (conv => whnf)) | fail)
    all_goals (first | exact RetOk.pure' (fun f => rfl) (Sub.refl _) | (trace_state; fail))
  · rw [if_neg he] at r1
    dsimp only at r1
    refine fits_erasurelaw26CodecReads.meets rfl (by simp) fun Q hQ => ?_
    (conv => whnf); repeat' (first | (refine And.intro ?_ ?_; (focus (exact zq3)); (conv => whnf)) | (refine onB_intro (fun hb => ?_) (fun hb => ?_) <;> (try simp only [decide_eq_true_eq, decide_eq_false_iff_not, Bool.not_eq_true', Bool.not_eq_false', Bool.and_eq_true, Bool.and_eq_false_iff, Int.not_le, Int.not_lt, bsz, ByteArray.toList_eq, beq_iff_eq, beq_eq_false_iff_ne, ne_eq] at hb) <;> (try (exfalso; omega)) <;> (try (exfalso; first | contradiction | (simp [ByteArray.toList_eq] at hb; done))) <;> (conv => whnf)) | (refine (hQ _ _ _ ?_).1; (conv => whnf)) | (refine ⟨_, rfl, ?_⟩; (conv => whnf)) | (refine ⟨_, mp_cut _ _ _, ?_⟩; (conv => whnf)) | (refine ⟨_, dbs_cut _ _ _, ?_⟩; (conv => whnf)) | (refine ⟨[_], rfl, ?_⟩; (conv => whnf)) | (refine ⟨[_, _], rfl, ?_⟩; (conv => whnf)) | (refine ⟨[_, _, _], rfl, ?_⟩; (conv => whnf)) | (refine ⟨[_, _, _, _], rfl, ?_⟩; (conv => whnf)) | (refine call_pure (r1) (fun F => by first | exact rfl | (simp only [TV.rens, TV.ren, dbs_ren]; rfl) | (simp only [TV.rens, TV.ren, List.map_cons, List.map_nil, List.map_append, DV.ren, dbs_ren, map_ren_p]; done)) (fun F => by first | exact rfl | (simp only [TV.rens, TV.ren, dbs_ren]; rfl) | (simp only [TV.rens, TV.ren, List.map_cons, List.map_nil, List.map_append, DV.ren, dbs_ren, map_ren_p]; done)) ?_ ?_; (focus (exact zq1)); (conv => whnf)) | (apply call_obj (m1) (fun F => by first | exact rfl | exact bob_ren F _ | exact ob_ren F _ _) (fun F => by first | exact rfl | exact bob_ren F _ | exact ob_ren F _ _); (focus (exact zq1)); (focus (exact zq2)); (conv => whnf)) | (refine eqa_same (fit_val Val.null) rfl rfl ?_; (conv => whnf)) | (refine call_pure (awake26_meets) (fun F => by first | exact rfl | (simp only [TV.rens, TV.ren, dbs_ren]; rfl) | (simp only [TV.rens, TV.ren, List.map_cons, List.map_nil, List.map_append, DV.ren, dbs_ren, map_ren_p]; done)) (fun F => by first | exact rfl | (simp only [TV.rens, TV.ren, dbs_ren]; rfl) | (simp only [TV.rens, TV.ren, List.map_cons, List.map_nil, List.map_append, DV.ren, dbs_ren, map_ren_p]; done)) ?_ ?_; (focus (exact zq1)); (conv => whnf)) | fail)
    all_goals (first | exact RetOk.pure' (fun f => rfl) (Sub.refl _) | (trace_state; fail))
theorem rd_1 (b : List UInt8) (kind : Int) (hb : b.length ≤ 200) (hK : bits .and .i64 kind 7 = 1) : Meets Try.prog F_erasurelaw26CodecReads ⟨[.c (bs b), vi kind], [], 0, vb true, [], 0⟩ := by
  have hl := Sr.row_len ⟨b, 0⟩
  have r1 := readRow_meets b (by omega)
  have m1 := rRow_meets ⟨b, 0⟩ (by show b.length ≤ _; omega)
  have hcn := Sr.row_count ⟨b, 0⟩
  unfold readR at r1
  generalize Sr.row ⟨b, 0⟩ = x at r1 m1 hl hcn
  obtain ⟨v, s⟩ := x
  dsimp only at r1 m1 hl hcn
  have s1 := sameRow_meets v v (by omega) (by omega)
  simp only [decide_true] at s1
  by_cases he : s.e = 0
  · rw [if_pos he] at r1
    dsimp only at r1
    refine fits_erasurelaw26CodecReads.meets rfl (by simp) fun Q hQ => ?_
    (conv => whnf); repeat' (first | (refine And.intro ?_ ?_; (focus (exact zq3)); (conv => whnf)) | (refine onB_intro (fun hb => ?_) (fun hb => ?_) <;> (try simp only [decide_eq_true_eq, decide_eq_false_iff_not, Bool.not_eq_true', Bool.not_eq_false', Bool.and_eq_true, Bool.and_eq_false_iff, Int.not_le, Int.not_lt, bsz, ByteArray.toList_eq, beq_iff_eq, beq_eq_false_iff_ne, ne_eq] at hb) <;> (try (exfalso; omega)) <;> (try (exfalso; first | contradiction | (simp [ByteArray.toList_eq] at hb; done))) <;> (conv => whnf)) | (refine (hQ _ _ _ ?_).1; (conv => whnf)) | (refine ⟨_, rfl, ?_⟩; (conv => whnf)) | (refine ⟨_, mp_cut _ _ _, ?_⟩; (conv => whnf)) | (refine ⟨_, dbs_cut _ _ _, ?_⟩; (conv => whnf)) | (refine ⟨[_], rfl, ?_⟩; (conv => whnf)) | (refine ⟨[_, _], rfl, ?_⟩; (conv => whnf)) | (refine ⟨[_, _, _], rfl, ?_⟩; (conv => whnf)) | (refine ⟨[_, _, _, _], rfl, ?_⟩; (conv => whnf)) | (refine call_pure (r1) (fun F => by first | exact rfl | (simp only [TV.rens, TV.ren, dbs_ren]; rfl) | (simp only [TV.rens, TV.ren, List.map_cons, List.map_nil, List.map_append, DV.ren, dbs_ren, map_ren_p]; done)) (fun F => by first | exact rfl | (simp only [TV.rens, TV.ren, dbs_ren]; rfl) | (simp only [TV.rens, TV.ren, List.map_cons, List.map_nil, List.map_append, DV.ren, dbs_ren, map_ren_p]; done)) ?_ ?_; (focus (exact zq1)); (conv => whnf)) | (apply call_obj (m1) (fun F => by first | exact rfl | exact bob_ren F _ | exact ob_ren F _ _) (fun F => by first | exact rfl | exact bob_ren F _ | exact ob_ren F _ _); (focus (exact zq1)); (focus (exact zq2)); (conv => whnf)) | (refine call_pure (s1) (fun F => by first | exact rfl | (simp only [TV.rens, TV.ren, dbs_ren]; rfl) | (simp only [TV.rens, TV.ren, List.map_cons, List.map_nil, List.map_append, DV.ren, dbs_ren, map_ren_p]; done)) (fun F => by first | exact rfl | (simp only [TV.rens, TV.ren, dbs_ren]; rfl) | (simp only [TV.rens, TV.ren, List.map_cons, List.map_nil, List.map_append, DV.ren, dbs_ren, map_ren_p]; done)) ?_ ?_; (focus (exact zq1)); (conv => whnf)) | (refine call_pure (awake26_meets) (fun F => by first | exact rfl | (simp only [TV.rens, TV.ren, dbs_ren]; rfl) | (simp only [TV.rens, TV.ren, List.map_cons, List.map_nil, List.map_append, DV.ren, dbs_ren, map_ren_p]; done)) (fun F => by first | exact rfl | (simp only [TV.rens, TV.ren, dbs_ren]; rfl) | (simp only [TV.rens, TV.ren, List.map_cons, List.map_nil, List.map_append, DV.ren, dbs_ren, map_ren_p]; done)) ?_ ?_; (focus (exact zq1)); (conv => whnf)) | fail)
    all_goals (first | exact RetOk.pure' (fun f => rfl) (Sub.refl _) | (trace_state; fail))
  · rw [if_neg he] at r1
    dsimp only at r1
    refine fits_erasurelaw26CodecReads.meets rfl (by simp) fun Q hQ => ?_
    (conv => whnf); repeat' (first | (refine And.intro ?_ ?_; (focus (exact zq3)); (conv => whnf)) | (refine onB_intro (fun hb => ?_) (fun hb => ?_) <;> (try simp only [decide_eq_true_eq, decide_eq_false_iff_not, Bool.not_eq_true', Bool.not_eq_false', Bool.and_eq_true, Bool.and_eq_false_iff, Int.not_le, Int.not_lt, bsz, ByteArray.toList_eq, beq_iff_eq, beq_eq_false_iff_ne, ne_eq] at hb) <;> (try (exfalso; omega)) <;> (try (exfalso; first | contradiction | (simp [ByteArray.toList_eq] at hb; done))) <;> (conv => whnf)) | (refine (hQ _ _ _ ?_).1; (conv => whnf)) | (refine ⟨_, rfl, ?_⟩; (conv => whnf)) | (refine ⟨_, mp_cut _ _ _, ?_⟩; (conv => whnf)) | (refine ⟨_, dbs_cut _ _ _, ?_⟩; (conv => whnf)) | (refine ⟨[_], rfl, ?_⟩; (conv => whnf)) | (refine ⟨[_, _], rfl, ?_⟩; (conv => whnf)) | (refine ⟨[_, _, _], rfl, ?_⟩; (conv => whnf)) | (refine ⟨[_, _, _, _], rfl, ?_⟩; (conv => whnf)) | (refine call_pure (r1) (fun F => by first | exact rfl | (simp only [TV.rens, TV.ren, dbs_ren]; rfl) | (simp only [TV.rens, TV.ren, List.map_cons, List.map_nil, List.map_append, DV.ren, dbs_ren, map_ren_p]; done)) (fun F => by first | exact rfl | (simp only [TV.rens, TV.ren, dbs_ren]; rfl) | (simp only [TV.rens, TV.ren, List.map_cons, List.map_nil, List.map_append, DV.ren, dbs_ren, map_ren_p]; done)) ?_ ?_; (focus (exact zq1)); (conv => whnf)) | (apply call_obj (m1) (fun F => by first | exact rfl | exact bob_ren F _ | exact ob_ren F _ _) (fun F => by first | exact rfl | exact bob_ren F _ | exact ob_ren F _ _); (focus (exact zq1)); (focus (exact zq2)); (conv => whnf)) | (refine call_pure (awake26_meets) (fun F => by first | exact rfl | (simp only [TV.rens, TV.ren, dbs_ren]; rfl) | (simp only [TV.rens, TV.ren, List.map_cons, List.map_nil, List.map_append, DV.ren, dbs_ren, map_ren_p]; done)) (fun F => by first | exact rfl | (simp only [TV.rens, TV.ren, dbs_ren]; rfl) | (simp only [TV.rens, TV.ren, List.map_cons, List.map_nil, List.map_append, DV.ren, dbs_ren, map_ren_p]; done)) ?_ ?_; (focus (exact zq1)); (conv => whnf)) | fail)
    all_goals (first | exact RetOk.pure' (fun f => rfl) (Sub.refl _) | (trace_state; fail))
end Go.Proofs.Ytjieenfbfckafaa.Am

/- What the claim of CodecReads reaches, part 3. -/
import Derived.Test.YtjieenfbfckafaaWCodecReads2
namespace Go.Proofs.Ytjieenfbfckafaa.Am
open Go
set_option linter.unusedVariables false
set_option linter.unusedSimpArgs false
set_option maxRecDepth 100000
set_option maxHeartbeats 1000000
/-- codec.ReadValue -/
theorem readValue_meets (b : List UInt8) (hb : b.length ≤ 70368744177664) : Meets Try.prog F_codec_ReadValue ⟨[.c (bs b)], [], 0, .tup [.agg (readR Sr.value Val.null b).1.enc, .c (bs (readR Sr.value Val.null b).2.1), vi (readR Sr.value Val.null b).2.2], [], 0⟩ := by
  have hl := Sr.value_len ⟨b, 0⟩
  have m := value_meets ⟨b, 0⟩ (by first | exact hb | (show b.length ≤ _; omega))
  unfold readR
  generalize Sr.value ⟨b, 0⟩ = x at m hl ⊢
  obtain ⟨n, s⟩ := x
  dsimp only at hl m ⊢
  by_cases he : s.e = 0
  · rw [if_pos he]
    dsimp only
    refine fits_codec_ReadValue.meets rfl (by simp) fun Q hQ => ?_
    (conv => whnf); repeat' (first | (refine And.intro ?_ ?_; (focus (exact zq3)); (conv => whnf)) | (refine onB_intro (fun hb => ?_) (fun hb => ?_) <;> (try simp only [decide_eq_true_eq, decide_eq_false_iff_not, Bool.not_eq_true', Bool.not_eq_false', Bool.and_eq_true, Bool.and_eq_false_iff, Int.not_le, Int.not_lt, bsz, ByteArray.toList_eq, beq_iff_eq, beq_eq_false_iff_ne, ne_eq] at hb) <;> (try (exfalso; omega)) <;> (try (exfalso; first | contradiction | (simp [ByteArray.toList_eq] at hb; done))) <;> (conv => whnf)) | (refine (hQ _ _ _ ?_).1; (conv => whnf)) | (refine ⟨_, rfl, ?_⟩; (conv => whnf)) | (refine ⟨_, mp_cut _ _ _, ?_⟩; (conv => whnf)) | (refine ⟨_, dbs_cut _ _ _, ?_⟩; (conv => whnf)) | (refine ⟨[_], rfl, ?_⟩; (conv => whnf)) | (refine ⟨[_, _], rfl, ?_⟩; (conv => whnf)) | (refine ⟨[_, _, _], rfl, ?_⟩; (conv => whnf)) | (refine ⟨[_, _, _, _], rfl, ?_⟩; (conv => whnf)) | (apply call_obj (m) (fun F => by first | exact rfl | exact bob_ren F _ | exact ob_ren F _ _) (fun F => by first | exact rfl | exact bob_ren F _ | exact ob_ren F _ _); (focus (exact zq0)); (focus (exact zq2)); (conv => whnf)) | (apply call_obj (rest_meets s (by omega)) (fun F => by first | exact rfl | exact bob_ren F _ | exact ob_ren F _ _) (fun F => by first | exact rfl | exact bob_ren F _ | exact ob_ren F _ _); (focus (exact zq0)); (focus (exact zq2)); (conv => whnf)) | fail)
    all_goals (refine RetOk.pure' (fun F => by first | rfl | simp [TV.rens, TV.ren, dbs_ren, agg_ren]) ?_; (exact zq0))
  · rw [if_neg he]
    dsimp only
    refine fits_codec_ReadValue.meets rfl (by simp) fun Q hQ => ?_
    (conv => whnf); repeat' (first | (refine And.intro ?_ ?_; (focus (exact zq3)); (conv => whnf)) | (refine onB_intro (fun hb => ?_) (fun hb => ?_) <;> (try simp only [decide_eq_true_eq, decide_eq_false_iff_not, Bool.not_eq_true', Bool.not_eq_false', Bool.and_eq_true, Bool.and_eq_false_iff, Int.not_le, Int.not_lt, bsz, ByteArray.toList_eq, beq_iff_eq, beq_eq_false_iff_ne, ne_eq] at hb) <;> (try (exfalso; omega)) <;> (try (exfalso; first | contradiction | (simp [ByteArray.toList_eq] at hb; done))) <;> (conv => whnf)) | (refine (hQ _ _ _ ?_).1; (conv => whnf)) | (refine ⟨_, rfl, ?_⟩; (conv => whnf)) | (refine ⟨_, mp_cut _ _ _, ?_⟩; (conv => whnf)) | (refine ⟨_, dbs_cut _ _ _, ?_⟩; (conv => whnf)) | (refine ⟨[_], rfl, ?_⟩; (conv => whnf)) | (refine ⟨[_, _], rfl, ?_⟩; (conv => whnf)) | (refine ⟨[_, _, _], rfl, ?_⟩; (conv => whnf)) | (refine ⟨[_, _, _, _], rfl, ?_⟩; (conv => whnf)) | (apply call_obj (m) (fun F => by first | exact rfl | exact bob_ren F _ | exact ob_ren F _ _) (fun F => by first | exact rfl | exact bob_ren F _ | exact ob_ren F _ _); (focus (exact zq0)); (focus (exact zq2)); (conv => whnf)) | fail)
    all_goals (refine RetOk.pure' (fun F => by first | rfl | simp [TV.rens, TV.ren, dbs_ren, agg_ren]) ?_; (exact zq0))
/-- codec.ReadRow -/
theorem readRow_meets (b : List UInt8) (hb : b.length ≤ 70368744177664) : Meets Try.prog F_codec_ReadRow ⟨[.c (bs b)], [], 0, .tup [.c (dvals (readR Sr.row [] b).1), .c (bs (readR Sr.row [] b).2.1), vi (readR Sr.row [] b).2.2], [], 0⟩ := by
  have hl := Sr.row_len ⟨b, 0⟩
  have m := row_meets ⟨b, 0⟩ (by first | exact hb | (show b.length ≤ _; omega))
  unfold readR
  generalize Sr.row ⟨b, 0⟩ = x at m hl ⊢
  obtain ⟨n, s⟩ := x
  dsimp only at hl m ⊢
  by_cases he : s.e = 0
  · rw [if_pos he]
    dsimp only
    refine fits_codec_ReadRow.meets rfl (by simp) fun Q hQ => ?_
    (conv => whnf); repeat' (first | (refine And.intro ?_ ?_; (focus (exact zq3)); (conv => whnf)) | (refine onB_intro (fun hb => ?_) (fun hb => ?_) <;> (try simp only [decide_eq_true_eq, decide_eq_false_iff_not, Bool.not_eq_true', Bool.not_eq_false', Bool.and_eq_true, Bool.and_eq_false_iff, Int.not_le, Int.not_lt, bsz, ByteArray.toList_eq, beq_iff_eq, beq_eq_false_iff_ne, ne_eq] at hb) <;> (try (exfalso; omega)) <;> (try (exfalso; first | contradiction | (simp [ByteArray.toList_eq] at hb; done))) <;> (conv => whnf)) | (refine (hQ _ _ _ ?_).1; (conv => whnf)) | (refine ⟨_, rfl, ?_⟩; (conv => whnf)) | (refine ⟨_, mp_cut _ _ _, ?_⟩; (conv => whnf)) | (refine ⟨_, dbs_cut _ _ _, ?_⟩; (conv => whnf)) | (refine ⟨[_], rfl, ?_⟩; (conv => whnf)) | (refine ⟨[_, _], rfl, ?_⟩; (conv => whnf)) | (refine ⟨[_, _, _], rfl, ?_⟩; (conv => whnf)) | (refine ⟨[_, _, _, _], rfl, ?_⟩; (conv => whnf)) | (apply call_obj (m) (fun F => by first | exact rfl | exact bob_ren F _ | exact ob_ren F _ _) (fun F => by first | exact rfl | exact bob_ren F _ | exact ob_ren F _ _); (focus (exact zq0)); (focus (exact zq2)); (conv => whnf)) | (apply call_obj (rest_meets s (by omega)) (fun F => by first | exact rfl | exact bob_ren F _ | exact ob_ren F _ _) (fun F => by first | exact rfl | exact bob_ren F _ | exact ob_ren F _ _); (focus (exact zq0)); (focus (exact zq2)); (conv => whnf)) | fail)
    all_goals (refine RetOk.pure' (fun F => by first | rfl | simp [TV.rens, TV.ren, dbs_ren, agg_ren]) ?_; (exact zq0))
  · rw [if_neg he]
    dsimp only
    refine fits_codec_ReadRow.meets rfl (by simp) fun Q hQ => ?_
    (conv => whnf); repeat' (first | (refine And.intro ?_ ?_; (focus (exact zq3)); (conv => whnf)) | (refine onB_intro (fun hb => ?_) (fun hb => ?_) <;> (try simp only [decide_eq_true_eq, decide_eq_false_iff_not, Bool.not_eq_true', Bool.not_eq_false', Bool.and_eq_true, Bool.and_eq_false_iff, Int.not_le, Int.not_lt, bsz, ByteArray.toList_eq, beq_iff_eq, beq_eq_false_iff_ne, ne_eq] at hb) <;> (try (exfalso; omega)) <;> (try (exfalso; first | contradiction | (simp [ByteArray.toList_eq] at hb; done))) <;> (conv => whnf)) | (refine (hQ _ _ _ ?_).1; (conv => whnf)) | (refine ⟨_, rfl, ?_⟩; (conv => whnf)) | (refine ⟨_, mp_cut _ _ _, ?_⟩; (conv => whnf)) | (refine ⟨_, dbs_cut _ _ _, ?_⟩; (conv => whnf)) | (refine ⟨[_], rfl, ?_⟩; (conv => whnf)) | (refine ⟨[_, _], rfl, ?_⟩; (conv => whnf)) | (refine ⟨[_, _, _], rfl, ?_⟩; (conv => whnf)) | (refine ⟨[_, _, _, _], rfl, ?_⟩; (conv => whnf)) | (apply call_obj (m) (fun F => by first | exact rfl | exact bob_ren F _ | exact ob_ren F _ _) (fun F => by first | exact rfl | exact bob_ren F _ | exact ob_ren F _ _); (focus (exact zq0)); (focus (exact zq2)); (conv => whnf)) | fail)
    all_goals (refine RetOk.pure' (fun F => by first | rfl | simp [TV.rens, TV.ren, dbs_ren, agg_ren]) ?_; (exact zq0))
/-- codec.ReadVersions -/
theorem readVersions_meets (b : List UInt8) (hb : b.length ≤ 70368744177664) : Meets Try.prog F_codec_ReadVersions ⟨[.c (bs b)], [], 0, .tup [.c (dvers (readR Sr.vers [] b).1), .c (bs (readR Sr.vers [] b).2.1), vi (readR Sr.vers [] b).2.2], [], 0⟩ := by
  have hl := Sr.vers_len ⟨b, 0⟩
  have m := versions_meets ⟨b, 0⟩ (by first | exact hb | (show b.length ≤ _; omega))
  unfold readR
  generalize Sr.vers ⟨b, 0⟩ = x at m hl ⊢
  obtain ⟨n, s⟩ := x
  dsimp only at hl m ⊢
  by_cases he : s.e = 0
  · rw [if_pos he]
    dsimp only
    refine fits_codec_ReadVersions.meets rfl (by simp) fun Q hQ => ?_
    (conv => whnf); repeat' (first | (refine And.intro ?_ ?_; (focus (exact zq3)); (conv => whnf)) | (refine onB_intro (fun hb => ?_) (fun hb => ?_) <;> (try simp only [decide_eq_true_eq, decide_eq_false_iff_not, Bool.not_eq_true', Bool.not_eq_false', Bool.and_eq_true, Bool.and_eq_false_iff, Int.not_le, Int.not_lt, bsz, ByteArray.toList_eq, beq_iff_eq, beq_eq_false_iff_ne, ne_eq] at hb) <;> (try (exfalso; omega)) <;> (try (exfalso; first | contradiction | (simp [ByteArray.toList_eq] at hb; done))) <;> (conv => whnf)) | (refine (hQ _ _ _ ?_).1; (conv => whnf)) | (refine ⟨_, rfl, ?_⟩; (conv => whnf)) | (refine ⟨_, mp_cut _ _ _, ?_⟩; (conv => whnf)) | (refine ⟨_, dbs_cut _ _ _, ?_⟩; (conv => whnf)) | (refine ⟨[_], rfl, ?_⟩; (conv => whnf)) | (refine ⟨[_, _], rfl, ?_⟩; (conv => whnf)) | (refine ⟨[_, _, _], rfl, ?_⟩; (conv => whnf)) | (refine ⟨[_, _, _, _], rfl, ?_⟩; (conv => whnf)) | (apply call_obj (m) (fun F => by first | exact rfl | exact bob_ren F _ | exact ob_ren F _ _) (fun F => by first | exact rfl | exact bob_ren F _ | exact ob_ren F _ _); (focus (exact zq0)); (focus (exact zq2)); (conv => whnf)) | (apply call_obj (rest_meets s (by omega)) (fun F => by first | exact rfl | exact bob_ren F _ | exact ob_ren F _ _) (fun F => by first | exact rfl | exact bob_ren F _ | exact ob_ren F _ _); (focus (exact zq0)); (focus (exact zq2)); (conv => whnf)) | fail)
    all_goals (refine RetOk.pure' (fun F => by first | rfl | simp [TV.rens, TV.ren, dbs_ren, agg_ren]) ?_; (exact zq0))
  · rw [if_neg he]
    dsimp only
    refine fits_codec_ReadVersions.meets rfl (by simp) fun Q hQ => ?_
    (conv => whnf); repeat' (first | (refine And.intro ?_ ?_; (focus (exact zq3)); (conv => whnf)) | (refine onB_intro (fun hb => ?_) (fun hb => ?_) <;> (try simp only [decide_eq_true_eq, decide_eq_false_iff_not, Bool.not_eq_true', Bool.not_eq_false', Bool.and_eq_true, Bool.and_eq_false_iff, Int.not_le, Int.not_lt, bsz, ByteArray.toList_eq, beq_iff_eq, beq_eq_false_iff_ne, ne_eq] at hb) <;> (try (exfalso; omega)) <;> (try (exfalso; first | contradiction | (simp [ByteArray.toList_eq] at hb; done))) <;> (conv => whnf)) | (refine (hQ _ _ _ ?_).1; (conv => whnf)) | (refine ⟨_, rfl, ?_⟩; (conv => whnf)) | (refine ⟨_, mp_cut _ _ _, ?_⟩; (conv => whnf)) | (refine ⟨_, dbs_cut _ _ _, ?_⟩; (conv => whnf)) | (refine ⟨[_], rfl, ?_⟩; (conv => whnf)) | (refine ⟨[_, _], rfl, ?_⟩; (conv => whnf)) | (refine ⟨[_, _, _], rfl, ?_⟩; (conv => whnf)) | (refine ⟨[_, _, _, _], rfl, ?_⟩; (conv => whnf)) | (apply call_obj (m) (fun F => by first | exact rfl | exact bob_ren F _ | exact ob_ren F _ _) (fun F => by first | exact rfl | exact bob_ren F _ | exact ob_ren F _ _); (focus (exact zq0)); (focus (exact zq2)); (conv => whnf)) | fail)
    all_goals (refine RetOk.pure' (fun F => by first | rfl | simp [TV.rens, TV.ren, dbs_ren, agg_ren]) ?_; (exact zq0))
/-- codec.ReadSources -/
theorem readSources_meets (b : List UInt8) (hb : b.length ≤ 70368744177664) : Meets Try.prog F_codec_ReadSources ⟨[.c (bs b)], [], 0, .tup [.c (dsous (readR Sr.sous [] b).1), .c (bs (readR Sr.sous [] b).2.1), vi (readR Sr.sous [] b).2.2], [], 0⟩ := by
  have hl := Sr.sous_len ⟨b, 0⟩
  have m := sources_meets ⟨b, 0⟩ (by first | exact hb | (show b.length ≤ _; omega))
  unfold readR
  generalize Sr.sous ⟨b, 0⟩ = x at m hl ⊢
  obtain ⟨n, s⟩ := x
  dsimp only at hl m ⊢
  by_cases he : s.e = 0
  · rw [if_pos he]
    dsimp only
    refine fits_codec_ReadSources.meets rfl (by simp) fun Q hQ => ?_
    (conv => whnf); repeat' (first | (refine And.intro ?_ ?_; (focus (exact zq3)); (conv => whnf)) | (refine onB_intro (fun hb => ?_) (fun hb => ?_) <;> (try simp only [decide_eq_true_eq, decide_eq_false_iff_not, Bool.not_eq_true', Bool.not_eq_false', Bool.and_eq_true, Bool.and_eq_false_iff, Int.not_le, Int.not_lt, bsz, ByteArray.toList_eq, beq_iff_eq, beq_eq_false_iff_ne, ne_eq] at hb) <;> (try (exfalso; omega)) <;> (try (exfalso; first | contradiction | (simp [ByteArray.toList_eq] at hb; done))) <;> (conv => whnf)) | (refine (hQ _ _ _ ?_).1; (conv => whnf)) | (refine ⟨_, rfl, ?_⟩; (conv => whnf)) | (refine ⟨_, mp_cut _ _ _, ?_⟩; (conv => whnf)) | (refine ⟨_, dbs_cut _ _ _, ?_⟩; (conv => whnf)) | (refine ⟨[_], rfl, ?_⟩; (conv => whnf)) | (refine ⟨[_, _], rfl, ?_⟩; (conv => whnf)) | (refine ⟨[_, _, _], rfl, ?_⟩; (conv => whnf)) | (refine ⟨[_, _, _, _], rfl, ?_⟩; (conv => whnf)) | (apply call_obj (m) (fun F => by first | exact rfl | exact bob_ren F _ | exact ob_ren F _ _) (fun F => by first | exact rfl | exact bob_ren F _ | exact ob_ren F _ _); (focus (exact zq0)); (focus (exact zq2)); (conv => whnf)) | (apply call_obj (rest_meets s (by omega)) (fun F => by first | exact rfl | exact bob_ren F _ | exact ob_ren F _ _) (fun F => by first | exact rfl | exact bob_ren F _ | exact ob_ren F _ _); (focus (exact zq0)); (focus (exact zq2)); (conv => whnf)) | fail)
    all_goals (refine RetOk.pure' (fun F => by first | rfl | simp [TV.rens, TV.ren, dbs_ren, agg_ren]) ?_; (exact zq0))
  · rw [if_neg he]
    dsimp only
    refine fits_codec_ReadSources.meets rfl (by simp) fun Q hQ => ?_
    (conv => whnf); repeat' (first | (refine And.intro ?_ ?_; (focus (exact zq3)); (conv => whnf)) | (refine onB_intro (fun hb => ?_) (fun hb => ?_) <;> (try simp only [decide_eq_true_eq, decide_eq_false_iff_not, Bool.not_eq_true', Bool.not_eq_false', Bool.and_eq_true, Bool.and_eq_false_iff, Int.not_le, Int.not_lt, bsz, ByteArray.toList_eq, beq_iff_eq, beq_eq_false_iff_ne, ne_eq] at hb) <;> (try (exfalso; omega)) <;> (try (exfalso; first | contradiction | (simp [ByteArray.toList_eq] at hb; done))) <;> (conv => whnf)) | (refine (hQ _ _ _ ?_).1; (conv => whnf)) | (refine ⟨_, rfl, ?_⟩; (conv => whnf)) | (refine ⟨_, mp_cut _ _ _, ?_⟩; (conv => whnf)) | (refine ⟨_, dbs_cut _ _ _, ?_⟩; (conv => whnf)) | (refine ⟨[_], rfl, ?_⟩; (conv => whnf)) | (refine ⟨[_, _], rfl, ?_⟩; (conv => whnf)) | (refine ⟨[_, _, _], rfl, ?_⟩; (conv => whnf)) | (refine ⟨[_, _, _, _], rfl, ?_⟩; (conv => whnf)) | (apply call_obj (m) (fun F => by first | exact rfl | exact bob_ren F _ | exact ob_ren F _ _) (fun F => by first | exact rfl | exact bob_ren F _ | exact ob_ren F _ _); (focus (exact zq0)); (focus (exact zq2)); (conv => whnf)) | fail)
    all_goals (refine RetOk.pure' (fun F => by first | rfl | simp [TV.rens, TV.ren, dbs_ren, agg_ren]) ?_; (exact zq0))
/-- codec.ReadHold -/
theorem readHold_meets (b : List UInt8) (hb : b.length ≤ 70368744177664) : Meets Try.prog F_codec_ReadHold ⟨[.c (bs b)], [], 0, .tup [.agg (readR Sr.hold Hold.zero b).1.enc, .c (bs (readR Sr.hold Hold.zero b).2.1), vi (readR Sr.hold Hold.zero b).2.2], [], 0⟩ := by
  have hl := Sr.hold_len ⟨b, 0⟩
  have m := hold_meets ⟨b, 0⟩ (by first | exact hb | (show b.length ≤ _; omega))
  unfold readR
  generalize Sr.hold ⟨b, 0⟩ = x at m hl ⊢
  obtain ⟨n, s⟩ := x
  dsimp only at hl m ⊢
  by_cases he : s.e = 0
  · rw [if_pos he]
    dsimp only
    refine fits_codec_ReadHold.meets rfl (by simp) fun Q hQ => ?_
    (conv => whnf); repeat' (first | (refine And.intro ?_ ?_; (focus (exact zq3)); (conv => whnf)) | (refine onB_intro (fun hb => ?_) (fun hb => ?_) <;> (try simp only [decide_eq_true_eq, decide_eq_false_iff_not, Bool.not_eq_true', Bool.not_eq_false', Bool.and_eq_true, Bool.and_eq_false_iff, Int.not_le, Int.not_lt, bsz, ByteArray.toList_eq, beq_iff_eq, beq_eq_false_iff_ne, ne_eq] at hb) <;> (try (exfalso; omega)) <;> (try (exfalso; first | contradiction | (simp [ByteArray.toList_eq] at hb; done))) <;> (conv => whnf)) | (refine (hQ _ _ _ ?_).1; (conv => whnf)) | (refine ⟨_, rfl, ?_⟩; (conv => whnf)) | (refine ⟨_, mp_cut _ _ _, ?_⟩; (conv => whnf)) | (refine ⟨_, dbs_cut _ _ _, ?_⟩; (conv => whnf)) | (refine ⟨[_], rfl, ?_⟩; (conv => whnf)) | (refine ⟨[_, _], rfl, ?_⟩; (conv => whnf)) | (refine ⟨[_, _, _], rfl, ?_⟩; (conv => whnf)) | (refine ⟨[_, _, _, _], rfl, ?_⟩; (conv => whnf)) | (apply call_obj (m) (fun F => by first | exact rfl | exact bob_ren F _ | exact ob_ren F _ _) (fun F => by first | exact rfl | exact bob_ren F _ | exact ob_ren F _ _); (focus (exact zq0)); (focus (exact zq2)); (conv => whnf)) | (apply call_obj (rest_meets s (by omega)) (fun F => by first | exact rfl | exact bob_ren F _ | exact ob_ren F _ _) (fun F => by first | exact rfl | exact bob_ren F _ | exact ob_ren F _ _); (focus (exact zq0)); (focus (exact zq2)); (conv => whnf)) | fail)
    all_goals (refine RetOk.pure' (fun F => by first | rfl | simp [TV.rens, TV.ren, dbs_ren, agg_ren]) ?_; (exact zq0))
  · rw [if_neg he]
    dsimp only
    refine fits_codec_ReadHold.meets rfl (by simp) fun Q hQ => ?_
    (conv => whnf); repeat' (first | (refine And.intro ?_ ?_; (focus (exact zq3)); (conv => whnf)) | (refine onB_intro (fun hb => ?_) (fun hb => ?_) <;> (try simp only [decide_eq_true_eq, decide_eq_false_iff_not, Bool.not_eq_true', Bool.not_eq_false', Bool.and_eq_true, Bool.and_eq_false_iff, Int.not_le, Int.not_lt, bsz, ByteArray.toList_eq, beq_iff_eq, beq_eq_false_iff_ne, ne_eq] at hb) <;> (try (exfalso; omega)) <;> (try (exfalso; first | contradiction | (simp [ByteArray.toList_eq] at hb; done))) <;> (conv => whnf)) | (refine (hQ _ _ _ ?_).1; (conv => whnf)) | (refine ⟨_, rfl, ?_⟩; (conv => whnf)) | (refine ⟨_, mp_cut _ _ _, ?_⟩; (conv => whnf)) | (refine ⟨_, dbs_cut _ _ _, ?_⟩; (conv => whnf)) | (refine ⟨[_], rfl, ?_⟩; (conv => whnf)) | (refine ⟨[_, _], rfl, ?_⟩; (conv => whnf)) | (refine ⟨[_, _, _], rfl, ?_⟩; (conv => whnf)) | (refine ⟨[_, _, _, _], rfl, ?_⟩; (conv => whnf)) | (apply call_obj (m) (fun F => by first | exact rfl | exact bob_ren F _ | exact ob_ren F _ _) (fun F => by first | exact rfl | exact bob_ren F _ | exact ob_ren F _ _); (focus (exact zq0)); (focus (exact zq2)); (conv => whnf)) | fail)
    all_goals (refine RetOk.pure' (fun F => by first | rfl | simp [TV.rens, TV.ren, dbs_ren, agg_ren]) ?_; (exact zq0))
theorem Sr.digest32 (s : Sr) : s.digest.1.length = 32 := by
  unfold Sr.digest
  dsimp only
  have h := take32 s
  split
  · rcases h with h | h
    · exact h.2
    · exact absurd (by assumption) h.1
  · rfl
end Go.Proofs.Ytjieenfbfckafaa.Am
namespace Go.Proofs.Ytjieenfbfckafaa.Am
open Go
set_option linter.unusedVariables false
set_option linter.unusedSimpArgs false
set_option maxRecDepth 100000
set_option maxHeartbeats 1000000
theorem Val.ext {a b : Val} (h1 : a.k = b.k) (h2 : a.i = b.i) (h3 : a.t = b.t) : a = b := by cases a; cases b; simp_all
theorem Val.enc_eq (a b : Val) : (a.enc = b.enc) ↔ a = b := by
  constructor
  · intro h; simp at h; exact Val.ext h.1 h.2.1 h.2.2
  · rintro rfl; rfl
theorem Ver.enc_eq (a b : Ver) : (a.enc = b.enc) ↔ a = b := by
  constructor
  · intro h; simp at h; cases a; cases b; simp_all
  · rintro rfl; rfl
theorem Sou.enc_eq (a b : Sou) : (a.enc = b.enc) ↔ a = b := by
  constructor
  · intro h; simp at h; cases a; cases b; simp_all
  · rintro rfl; rfl
instance : DecidableEq Val := fun a b => decidable_of_iff (a.k = b.k ∧ a.i = b.i ∧ a.t = b.t) ⟨fun h => Val.ext h.1 h.2.1 h.2.2, fun h => by subst h; exact ⟨rfl, rfl, rfl⟩⟩
instance : DecidableEq Ver := fun a b => decidable_of_iff (a.t = b.t ∧ a.c = b.c ∧ a.s = b.s) ⟨fun h => by cases a; cases b; simp_all, fun h => by subst h; exact ⟨rfl, rfl, rfl⟩⟩
instance : DecidableEq Sou := fun a b => decidable_of_iff (a.t = b.t ∧ a.s = b.s) ⟨fun h => by cases a; cases b; simp_all, fun h => by subst h; exact ⟨rfl, rfl⟩⟩
theorem take_ext {α : Type} {a b : List α} {k : Nat} (h : a.take k = b.take k) {x y : α} (ha : a[k]? = some x) (hb : b[k]? = some y) (e : x = y) : a.take (k + 1) = b.take (k + 1) := by
  rw [List.take_add_one, List.take_add_one, h, ha, hb, e]
theorem ne_of_get {α : Type} {a b : List α} {k : Nat} {x y : α} (ha : a[k]? = some x) (hb : b[k]? = some y) (h : x ≠ y) : a ≠ b := by
  rintro rfl; rw [ha] at hb; exact h (Option.some.inj hb)
/-- erasureref22.SameVersions -/
theorem same22Versions_meets (a b : List Ver) (hl : a.length ≤ 4611686018427387904) (hl' : b.length ≤ 4611686018427387904) : Meets Try.prog F_erasureref22SameVersions ⟨[.c (dvers a), .c (dvers b)], [], 0, vb (decide (a = b)), [], 0⟩ := by
  refine fits_erasureref22SameVersions.meets rfl (by simp) fun Q hQ => ?_
  by_cases hlen : a.length = b.length
  · (conv => whnf); repeat' (first | (refine And.intro ?_ ?_; (focus (exact zq3)); (conv => whnf)) | (refine onB_intro (fun hb => ?_) (fun hb => ?_) <;> (try simp only [decide_eq_true_eq, decide_eq_false_iff_not, Bool.not_eq_true', Bool.not_eq_false', Bool.and_eq_true, Bool.and_eq_false_iff, Int.not_le, Int.not_lt, bsz, ByteArray.toList_eq, beq_iff_eq, beq_eq_false_iff_ne, ne_eq] at hb) <;> (try (exfalso; omega)) <;> (try (exfalso; first | contradiction | (simp [ByteArray.toList_eq] at hb; done))) <;> (conv => whnf)) | (refine (hQ _ _ _ ?_).1; (conv => whnf)) | (refine ⟨_, rfl, ?_⟩; (conv => whnf)) | (refine ⟨_, mp_cut _ _ _, ?_⟩; (conv => whnf)) | (refine ⟨_, dbs_cut _ _ _, ?_⟩; (conv => whnf)) | (refine ⟨[_], rfl, ?_⟩; (conv => whnf)) | (refine ⟨[_, _], rfl, ?_⟩; (conv => whnf)) | (refine ⟨[_, _, _], rfl, ?_⟩; (conv => whnf)) | (refine ⟨[_, _, _, _], rfl, ?_⟩; (conv => whnf)) | fail)
    refine loop_fam (fun k : Nat => ⟨[(0, .c (dvers a)), (1, .c (dvers b)), (5, vi k)], [], 0⟩) (fun k => a.length - k) (fun k => k ≤ a.length ∧ a.take k = b.take k) 0 (wkn [] rfl rfl ⟨Sub.refl _, Sub.refl _, Sub.refl _, trivial⟩ trivial) ⟨Nat.zero_le _, rfl⟩ ?_
    rintro k ⟨hk, heq⟩ K hK
    rcases Nat.lt_or_ge k a.length with hlt | hge
    · obtain ⟨x, hx⟩ : ∃ x, a[k]? = some x := ⟨_, List.getElem?_eq_getElem hlt⟩
      obtain ⟨y, hy⟩ : ∃ y, b[k]? = some y := ⟨_, List.getElem?_eq_getElem (by omega)⟩
      (conv => whnf); repeat' (first | (refine And.intro ?_ ?_; (focus (exact zq3)); (conv => whnf)) | (refine onB_intro (fun hb => ?_) (fun hb => ?_) <;> (try simp only [decide_eq_true_eq, decide_eq_false_iff_not, Bool.not_eq_true', Bool.not_eq_false', Bool.and_eq_true, Bool.and_eq_false_iff, Int.not_le, Int.not_lt, bsz, ByteArray.toList_eq, beq_iff_eq, beq_eq_false_iff_ne, ne_eq] at hb) <;> (try (exfalso; omega)) <;> (try (exfalso; first | contradiction | (simp [ByteArray.toList_eq] at hb; done))) <;> (conv => whnf)) | (refine (hQ _ _ _ ?_).1; (conv => whnf)) | (refine ⟨_, rfl, ?_⟩; (conv => whnf)) | (refine ⟨_, mp_cut _ _ _, ?_⟩; (conv => whnf)) | (refine ⟨_, dbs_cut _ _ _, ?_⟩; (conv => whnf)) | (refine ⟨[_], rfl, ?_⟩; (conv => whnf)) | (refine ⟨[_, _], rfl, ?_⟩; (conv => whnf)) | (refine ⟨[_, _, _], rfl, ?_⟩; (conv => whnf)) | (refine ⟨[_, _, _, _], rfl, ?_⟩; (conv => whnf)) | (simp only [elem_at' Ver.len hx, elem_at' Ver.len hy]; (conv => whnf)) | fail)
      refine ⟨by simp [fitCKs, fitCK], by simp [fitCKs, fitCK], ?_⟩
      intro q hq
      have hq : q = true ↔ x = y := hq.trans (Ver.enc_eq x y)
      (conv => whnf); repeat' (first | (refine And.intro ?_ ?_; (focus (exact zq3)); (conv => whnf)) | (refine onB_intro (fun hb => ?_) (fun hb => ?_) <;> (try simp only [decide_eq_true_eq, decide_eq_false_iff_not, Bool.not_eq_true', Bool.not_eq_false', Bool.and_eq_true, Bool.and_eq_false_iff, Int.not_le, Int.not_lt, bsz, ByteArray.toList_eq, beq_iff_eq, beq_eq_false_iff_ne, ne_eq] at hb) <;> (try (exfalso; omega)) <;> (try (exfalso; first | contradiction | (simp [ByteArray.toList_eq] at hb; done))) <;> (conv => whnf)) | (refine (hQ _ _ _ ?_).1; (conv => whnf)) | (refine ⟨_, rfl, ?_⟩; (conv => whnf)) | (refine ⟨_, mp_cut _ _ _, ?_⟩; (conv => whnf)) | (refine ⟨_, dbs_cut _ _ _, ?_⟩; (conv => whnf)) | (refine ⟨[_], rfl, ?_⟩; (conv => whnf)) | (refine ⟨[_, _], rfl, ?_⟩; (conv => whnf)) | (refine ⟨[_, _, _], rfl, ?_⟩; (conv => whnf)) | (refine ⟨[_, _, _, _], rfl, ?_⟩; (conv => whnf)) | fail)
      · have hne : x ≠ y := fun e => by have := hq.2 e; simp_all
        refine RetOk.pure' (fun f => rfl) (sub_bool ?_)
        simp [ne_of_get hx hy hne]
      · have he : x = y := hq.1 (by simp_all)
        exact hK _ _ _ (k + 1) ⟨by omega, take_ext heq hx hy he⟩ (by omega) (wkn [] rfl rfl ⟨Sub.refl _, Sub.refl _, sub_int (by omega), trivial⟩ trivial)
    · have : k = a.length := by omega
      subst this
      have he : a = b := by rwa [List.take_length, hlen, List.take_length] at heq
      (conv => whnf); repeat' (first | (refine And.intro ?_ ?_; (focus (exact zq3)); (conv => whnf)) | (refine onB_intro (fun hb => ?_) (fun hb => ?_) <;> (try simp only [decide_eq_true_eq, decide_eq_false_iff_not, Bool.not_eq_true', Bool.not_eq_false', Bool.and_eq_true, Bool.and_eq_false_iff, Int.not_le, Int.not_lt, bsz, ByteArray.toList_eq, beq_iff_eq, beq_eq_false_iff_ne, ne_eq] at hb) <;> (try (exfalso; omega)) <;> (try (exfalso; first | contradiction | (simp [ByteArray.toList_eq] at hb; done))) <;> (conv => whnf)) | (refine (hQ _ _ _ ?_).1; (conv => whnf)) | (refine ⟨_, rfl, ?_⟩; (conv => whnf)) | (refine ⟨_, mp_cut _ _ _, ?_⟩; (conv => whnf)) | (refine ⟨_, dbs_cut _ _ _, ?_⟩; (conv => whnf)) | (refine ⟨[_], rfl, ?_⟩; (conv => whnf)) | (refine ⟨[_, _], rfl, ?_⟩; (conv => whnf)) | (refine ⟨[_, _, _], rfl, ?_⟩; (conv => whnf)) | (refine ⟨[_, _, _, _], rfl, ?_⟩; (conv => whnf)) | fail)
      refine RetOk.pure' (fun f => rfl) (sub_bool ?_)
      simp [he]
  · have hne : a ≠ b := fun e => hlen (by rw [e])
    (conv => whnf); repeat' (first | (refine And.intro ?_ ?_; (focus (exact zq3)); (conv => whnf)) | (refine onB_intro (fun hb => ?_) (fun hb => ?_) <;> (try simp only [decide_eq_true_eq, decide_eq_false_iff_not, Bool.not_eq_true', Bool.not_eq_false', Bool.and_eq_true, Bool.and_eq_false_iff, Int.not_le, Int.not_lt, bsz, ByteArray.toList_eq, beq_iff_eq, beq_eq_false_iff_ne, ne_eq] at hb) <;> (try (exfalso; omega)) <;> (try (exfalso; first | contradiction | (simp [ByteArray.toList_eq] at hb; done))) <;> (conv => whnf)) | (refine (hQ _ _ _ ?_).1; (conv => whnf)) | (refine ⟨_, rfl, ?_⟩; (conv => whnf)) | (refine ⟨_, mp_cut _ _ _, ?_⟩; (conv => whnf)) | (refine ⟨_, dbs_cut _ _ _, ?_⟩; (conv => whnf)) | (refine ⟨[_], rfl, ?_⟩; (conv => whnf)) | (refine ⟨[_, _], rfl, ?_⟩; (conv => whnf)) | (refine ⟨[_, _, _], rfl, ?_⟩; (conv => whnf)) | (refine ⟨[_, _, _, _], rfl, ?_⟩; (conv => whnf)) | fail)
    refine RetOk.pure' (fun f => rfl) (sub_bool ?_)
    simp [hne]
/-- erasureref26.SameVersions -/
theorem sameVersions_meets (a b : List Ver) (hl : a.length ≤ 4611686018427387904) (hl' : b.length ≤ 4611686018427387904) : Meets Try.prog F_erasureref26SameVersions ⟨[.c (dvers a), .c (dvers b)], [], 0, vb (decide (a = b)), [], 0⟩ := by
  refine fits_erasureref26SameVersions.meets rfl (by simp) fun Q hQ => ?_
  (conv => whnf); repeat' (first | (refine And.intro ?_ ?_; (focus (exact zq3)); (conv => whnf)) | (refine onB_intro (fun hb => ?_) (fun hb => ?_) <;> (try simp only [decide_eq_true_eq, decide_eq_false_iff_not, Bool.not_eq_true', Bool.not_eq_false', Bool.and_eq_true, Bool.and_eq_false_iff, Int.not_le, Int.not_lt, bsz, ByteArray.toList_eq, beq_iff_eq, beq_eq_false_iff_ne, ne_eq] at hb) <;> (try (exfalso; omega)) <;> (try (exfalso; first | contradiction | (simp [ByteArray.toList_eq] at hb; done))) <;> (conv => whnf)) | (refine (hQ _ _ _ ?_).1; (conv => whnf)) | (refine ⟨_, rfl, ?_⟩; (conv => whnf)) | (refine ⟨_, mp_cut _ _ _, ?_⟩; (conv => whnf)) | (refine ⟨_, dbs_cut _ _ _, ?_⟩; (conv => whnf)) | (refine ⟨[_], rfl, ?_⟩; (conv => whnf)) | (refine ⟨[_, _], rfl, ?_⟩; (conv => whnf)) | (refine ⟨[_, _, _], rfl, ?_⟩; (conv => whnf)) | (refine ⟨[_, _, _, _], rfl, ?_⟩; (conv => whnf)) | (refine call_pure (same22Versions_meets a b hl hl') (fun F => by first | exact rfl | (simp only [TV.rens, TV.ren, dbs_ren]; rfl) | (simp [TV.rens, TV.ren, dbs_ren, map_ren_p]; done)) (fun F => by first | exact rfl | (simp only [TV.rens, TV.ren, dbs_ren]; rfl) | (simp [TV.rens, TV.ren, dbs_ren, map_ren_p]; done)) ?_ ?_; (focus (exact zq0)); (conv => whnf)) | fail)
  exact RetOk.pure' (fun f => rfl) (Sub.refl _)
/-- erasureref22.SameSources -/
theorem same22Sources_meets (a b : List Sou) (hl : a.length ≤ 4611686018427387904) (hl' : b.length ≤ 4611686018427387904) : Meets Try.prog F_erasureref22SameSources ⟨[.c (dsous a), .c (dsous b)], [], 0, vb (decide (a = b)), [], 0⟩ := by
  refine fits_erasureref22SameSources.meets rfl (by simp) fun Q hQ => ?_
  by_cases hlen : a.length = b.length
  · (conv => whnf); repeat' (first | (refine And.intro ?_ ?_; (focus (exact zq3)); (conv => whnf)) | (refine onB_intro (fun hb => ?_) (fun hb => ?_) <;> (try simp only [decide_eq_true_eq, decide_eq_false_iff_not, Bool.not_eq_true', Bool.not_eq_false', Bool.and_eq_true, Bool.and_eq_false_iff, Int.not_le, Int.not_lt, bsz, ByteArray.toList_eq, beq_iff_eq, beq_eq_false_iff_ne, ne_eq] at hb) <;> (try (exfalso; omega)) <;> (try (exfalso; first | contradiction | (simp [ByteArray.toList_eq] at hb; done))) <;> (conv => whnf)) | (refine (hQ _ _ _ ?_).1; (conv => whnf)) | (refine ⟨_, rfl, ?_⟩; (conv => whnf)) | (refine ⟨_, mp_cut _ _ _, ?_⟩; (conv => whnf)) | (refine ⟨_, dbs_cut _ _ _, ?_⟩; (conv => whnf)) | (refine ⟨[_], rfl, ?_⟩; (conv => whnf)) | (refine ⟨[_, _], rfl, ?_⟩; (conv => whnf)) | (refine ⟨[_, _, _], rfl, ?_⟩; (conv => whnf)) | (refine ⟨[_, _, _, _], rfl, ?_⟩; (conv => whnf)) | fail)
    refine loop_fam (fun k : Nat => ⟨[(0, .c (dsous a)), (1, .c (dsous b)), (5, vi k)], [], 0⟩) (fun k => a.length - k) (fun k => k ≤ a.length ∧ a.take k = b.take k) 0 (wkn [] rfl rfl ⟨Sub.refl _, Sub.refl _, Sub.refl _, trivial⟩ trivial) ⟨Nat.zero_le _, rfl⟩ ?_
    rintro k ⟨hk, heq⟩ K hK
    rcases Nat.lt_or_ge k a.length with hlt | hge
    · obtain ⟨x, hx⟩ : ∃ x, a[k]? = some x := ⟨_, List.getElem?_eq_getElem hlt⟩
      obtain ⟨y, hy⟩ : ∃ y, b[k]? = some y := ⟨_, List.getElem?_eq_getElem (by omega)⟩
      (conv => whnf); repeat' (first | (refine And.intro ?_ ?_; (focus (exact zq3)); (conv => whnf)) | (refine onB_intro (fun hb => ?_) (fun hb => ?_) <;> (try simp only [decide_eq_true_eq, decide_eq_false_iff_not, Bool.not_eq_true', Bool.not_eq_false', Bool.and_eq_true, Bool.and_eq_false_iff, Int.not_le, Int.not_lt, bsz, ByteArray.toList_eq, beq_iff_eq, beq_eq_false_iff_ne, ne_eq] at hb) <;> (try (exfalso; omega)) <;> (try (exfalso; first | contradiction | (simp [ByteArray.toList_eq] at hb; done))) <;> (conv => whnf)) | (refine (hQ _ _ _ ?_).1; (conv => whnf)) | (refine ⟨_, rfl, ?_⟩; (conv => whnf)) | (refine ⟨_, mp_cut _ _ _, ?_⟩; (conv => whnf)) | (refine ⟨_, dbs_cut _ _ _, ?_⟩; (conv => whnf)) | (refine ⟨[_], rfl, ?_⟩; (conv => whnf)) | (refine ⟨[_, _], rfl, ?_⟩; (conv => whnf)) | (refine ⟨[_, _, _], rfl, ?_⟩; (conv => whnf)) | (refine ⟨[_, _, _, _], rfl, ?_⟩; (conv => whnf)) | (simp only [elem_at' Sou.len hx, elem_at' Sou.len hy]; (conv => whnf)) | fail)
      refine ⟨by simp [fitCKs, fitCK], by simp [fitCKs, fitCK], ?_⟩
      intro q hq
      have hq : q = true ↔ x = y := hq.trans (Sou.enc_eq x y)
      (conv => whnf); repeat' (first | (refine And.intro ?_ ?_; (focus (exact zq3)); (conv => whnf)) | (refine onB_intro (fun hb => ?_) (fun hb => ?_) <;> (try simp only [decide_eq_true_eq, decide_eq_false_iff_not, Bool.not_eq_true', Bool.not_eq_false', Bool.and_eq_true, Bool.and_eq_false_iff, Int.not_le, Int.not_lt, bsz, ByteArray.toList_eq, beq_iff_eq, beq_eq_false_iff_ne, ne_eq] at hb) <;> (try (exfalso; omega)) <;> (try (exfalso; first | contradiction | (simp [ByteArray.toList_eq] at hb; done))) <;> (conv => whnf)) | (refine (hQ _ _ _ ?_).1; (conv => whnf)) | (refine ⟨_, rfl, ?_⟩; (conv => whnf)) | (refine ⟨_, mp_cut _ _ _, ?_⟩; (conv => whnf)) | (refine ⟨_, dbs_cut _ _ _, ?_⟩; (conv => whnf)) | (refine ⟨[_], rfl, ?_⟩; (conv => whnf)) | (refine ⟨[_, _], rfl, ?_⟩; (conv => whnf)) | (refine ⟨[_, _, _], rfl, ?_⟩; (conv => whnf)) | (refine ⟨[_, _, _, _], rfl, ?_⟩; (conv => whnf)) | fail)
      · have hne : x ≠ y := fun e => by have := hq.2 e; simp_all
        refine RetOk.pure' (fun f => rfl) (sub_bool ?_)
        simp [ne_of_get hx hy hne]
      · have he : x = y := hq.1 (by simp_all)
        exact hK _ _ _ (k + 1) ⟨by omega, take_ext heq hx hy he⟩ (by omega) (wkn [] rfl rfl ⟨Sub.refl _, Sub.refl _, sub_int (by omega), trivial⟩ trivial)
    · have : k = a.length := by omega
      subst this
      have he : a = b := by rwa [List.take_length, hlen, List.take_length] at heq
      (conv => whnf); repeat' (first | (refine And.intro ?_ ?_; (focus (exact zq3)); (conv => whnf)) | (refine onB_intro (fun hb => ?_) (fun hb => ?_) <;> (try simp only [decide_eq_true_eq, decide_eq_false_iff_not, Bool.not_eq_true', Bool.not_eq_false', Bool.and_eq_true, Bool.and_eq_false_iff, Int.not_le, Int.not_lt, bsz, ByteArray.toList_eq, beq_iff_eq, beq_eq_false_iff_ne, ne_eq] at hb) <;> (try (exfalso; omega)) <;> (try (exfalso; first | contradiction | (simp [ByteArray.toList_eq] at hb; done))) <;> (conv => whnf)) | (refine (hQ _ _ _ ?_).1; (conv => whnf)) | (refine ⟨_, rfl, ?_⟩; (conv => whnf)) | (refine ⟨_, mp_cut _ _ _, ?_⟩; (conv => whnf)) | (refine ⟨_, dbs_cut _ _ _, ?_⟩; (conv => whnf)) | (refine ⟨[_], rfl, ?_⟩; (conv => whnf)) | (refine ⟨[_, _], rfl, ?_⟩; (conv => whnf)) | (refine ⟨[_, _, _], rfl, ?_⟩; (conv => whnf)) | (refine ⟨[_, _, _, _], rfl, ?_⟩; (conv => whnf)) | fail)
      refine RetOk.pure' (fun f => rfl) (sub_bool ?_)
      simp [he]
  · have hne : a ≠ b := fun e => hlen (by rw [e])
    (conv => whnf); repeat' (first | (refine And.intro ?_ ?_; (focus (exact zq3)); (conv => whnf)) | (refine onB_intro (fun hb => ?_) (fun hb => ?_) <;> (try simp only [decide_eq_true_eq, decide_eq_false_iff_not, Bool.not_eq_true', Bool.not_eq_false', Bool.and_eq_true, Bool.and_eq_false_iff, Int.not_le, Int.not_lt, bsz, ByteArray.toList_eq, beq_iff_eq, beq_eq_false_iff_ne, ne_eq] at hb) <;> (try (exfalso; omega)) <;> (try (exfalso; first | contradiction | (simp [ByteArray.toList_eq] at hb; done))) <;> (conv => whnf)) | (refine (hQ _ _ _ ?_).1; (conv => whnf)) | (refine ⟨_, rfl, ?_⟩; (conv => whnf)) | (refine ⟨_, mp_cut _ _ _, ?_⟩; (conv => whnf)) | (refine ⟨_, dbs_cut _ _ _, ?_⟩; (conv => whnf)) | (refine ⟨[_], rfl, ?_⟩; (conv => whnf)) | (refine ⟨[_, _], rfl, ?_⟩; (conv => whnf)) | (refine ⟨[_, _, _], rfl, ?_⟩; (conv => whnf)) | (refine ⟨[_, _, _, _], rfl, ?_⟩; (conv => whnf)) | fail)
    refine RetOk.pure' (fun f => rfl) (sub_bool ?_)
    simp [hne]
/-- erasureref26.SameSources -/
theorem sameSources_meets (a b : List Sou) (hl : a.length ≤ 4611686018427387904) (hl' : b.length ≤ 4611686018427387904) : Meets Try.prog F_erasureref26SameSources ⟨[.c (dsous a), .c (dsous b)], [], 0, vb (decide (a = b)), [], 0⟩ := by
  refine fits_erasureref26SameSources.meets rfl (by simp) fun Q hQ => ?_
  (conv => whnf); repeat' (first | (refine And.intro ?_ ?_; (focus (exact zq3)); (conv => whnf)) | (refine onB_intro (fun hb => ?_) (fun hb => ?_) <;> (try simp only [decide_eq_true_eq, decide_eq_false_iff_not, Bool.not_eq_true', Bool.not_eq_false', Bool.and_eq_true, Bool.and_eq_false_iff, Int.not_le, Int.not_lt, bsz, ByteArray.toList_eq, beq_iff_eq, beq_eq_false_iff_ne, ne_eq] at hb) <;> (try (exfalso; omega)) <;> (try (exfalso; first | contradiction | (simp [ByteArray.toList_eq] at hb; done))) <;> (conv => whnf)) | (refine (hQ _ _ _ ?_).1; (conv => whnf)) | (refine ⟨_, rfl, ?_⟩; (conv => whnf)) | (refine ⟨_, mp_cut _ _ _, ?_⟩; (conv => whnf)) | (refine ⟨_, dbs_cut _ _ _, ?_⟩; (conv => whnf)) | (refine ⟨[_], rfl, ?_⟩; (conv => whnf)) | (refine ⟨[_, _], rfl, ?_⟩; (conv => whnf)) | (refine ⟨[_, _, _], rfl, ?_⟩; (conv => whnf)) | (refine ⟨[_, _, _, _], rfl, ?_⟩; (conv => whnf)) | (refine call_pure (same22Sources_meets a b hl hl') (fun F => by first | exact rfl | (simp only [TV.rens, TV.ren, dbs_ren]; rfl) | (simp [TV.rens, TV.ren, dbs_ren, map_ren_p]; done)) (fun F => by first | exact rfl | (simp only [TV.rens, TV.ren, dbs_ren]; rfl) | (simp [TV.rens, TV.ren, dbs_ren, map_ren_p]; done)) ?_ ?_; (focus (exact zq0)); (conv => whnf)) | fail)
  exact RetOk.pure' (fun f => rfl) (Sub.refl _)
/-- erasureref22.SameRow -/
theorem same22Row_meets (a b : List Val) (hl : a.length ≤ 4611686018427387904) (hl' : b.length ≤ 4611686018427387904) : Meets Try.prog F_erasureref22SameRow ⟨[.c (dvals a), .c (dvals b)], [], 0, vb (decide (a = b)), [], 0⟩ := by
  refine fits_erasureref22SameRow.meets rfl (by simp) fun Q hQ => ?_
  by_cases hlen : a.length = b.length
  · (conv => whnf); repeat' (first | (refine And.intro ?_ ?_; (focus (exact zq3)); (conv => whnf)) | (refine onB_intro (fun hb => ?_) (fun hb => ?_) <;> (try simp only [decide_eq_true_eq, decide_eq_false_iff_not, Bool.not_eq_true', Bool.not_eq_false', Bool.and_eq_true, Bool.and_eq_false_iff, Int.not_le, Int.not_lt, bsz, ByteArray.toList_eq, beq_iff_eq, beq_eq_false_iff_ne, ne_eq] at hb) <;> (try (exfalso; omega)) <;> (try (exfalso; first | contradiction | (simp [ByteArray.toList_eq] at hb; done))) <;> (conv => whnf)) | (refine (hQ _ _ _ ?_).1; (conv => whnf)) | (refine ⟨_, rfl, ?_⟩; (conv => whnf)) | (refine ⟨_, mp_cut _ _ _, ?_⟩; (conv => whnf)) | (refine ⟨_, dbs_cut _ _ _, ?_⟩; (conv => whnf)) | (refine ⟨[_], rfl, ?_⟩; (conv => whnf)) | (refine ⟨[_, _], rfl, ?_⟩; (conv => whnf)) | (refine ⟨[_, _, _], rfl, ?_⟩; (conv => whnf)) | (refine ⟨[_, _, _, _], rfl, ?_⟩; (conv => whnf)) | fail)
    refine loop_fam (fun k : Nat => ⟨[(0, .c (dvals a)), (1, .c (dvals b)), (5, vi k)], [], 0⟩) (fun k => a.length - k) (fun k => k ≤ a.length ∧ a.take k = b.take k) 0 (wkn [] rfl rfl ⟨Sub.refl _, Sub.refl _, Sub.refl _, trivial⟩ trivial) ⟨Nat.zero_le _, rfl⟩ ?_
    rintro k ⟨hk, heq⟩ K hK
    rcases Nat.lt_or_ge k a.length with hlt | hge
    · obtain ⟨x, hx⟩ : ∃ x, a[k]? = some x := ⟨_, List.getElem?_eq_getElem hlt⟩
      obtain ⟨y, hy⟩ : ∃ y, b[k]? = some y := ⟨_, List.getElem?_eq_getElem (by omega)⟩
      (conv => whnf); repeat' (first | (refine And.intro ?_ ?_; (focus (exact zq3)); (conv => whnf)) | (refine onB_intro (fun hb => ?_) (fun hb => ?_) <;> (try simp only [decide_eq_true_eq, decide_eq_false_iff_not, Bool.not_eq_true', Bool.not_eq_false', Bool.and_eq_true, Bool.and_eq_false_iff, Int.not_le, Int.not_lt, bsz, ByteArray.toList_eq, beq_iff_eq, beq_eq_false_iff_ne, ne_eq] at hb) <;> (try (exfalso; omega)) <;> (try (exfalso; first | contradiction | (simp [ByteArray.toList_eq] at hb; done))) <;> (conv => whnf)) | (refine (hQ _ _ _ ?_).1; (conv => whnf)) | (refine ⟨_, rfl, ?_⟩; (conv => whnf)) | (refine ⟨_, mp_cut _ _ _, ?_⟩; (conv => whnf)) | (refine ⟨_, dbs_cut _ _ _, ?_⟩; (conv => whnf)) | (refine ⟨[_], rfl, ?_⟩; (conv => whnf)) | (refine ⟨[_, _], rfl, ?_⟩; (conv => whnf)) | (refine ⟨[_, _, _], rfl, ?_⟩; (conv => whnf)) | (refine ⟨[_, _, _, _], rfl, ?_⟩; (conv => whnf)) | (simp only [elem_at' Val.len hx, elem_at' Val.len hy]; (conv => whnf)) | fail)
      refine ⟨by simp [fitCKs, fitCK], by simp [fitCKs, fitCK], ?_⟩
      intro q hq
      have hq : q = true ↔ x = y := hq.trans (Val.enc_eq x y)
      (conv => whnf); repeat' (first | (refine And.intro ?_ ?_; (focus (exact zq3)); (conv => whnf)) | (refine onB_intro (fun hb => ?_) (fun hb => ?_) <;> (try simp only [decide_eq_true_eq, decide_eq_false_iff_not, Bool.not_eq_true', Bool.not_eq_false', Bool.and_eq_true, Bool.and_eq_false_iff, Int.not_le, Int.not_lt, bsz, ByteArray.toList_eq, beq_iff_eq, beq_eq_false_iff_ne, ne_eq] at hb) <;> (try (exfalso; omega)) <;> (try (exfalso; first | contradiction | (simp [ByteArray.toList_eq] at hb; done))) <;> (conv => whnf)) | (refine (hQ _ _ _ ?_).1; (conv => whnf)) | (refine ⟨_, rfl, ?_⟩; (conv => whnf)) | (refine ⟨_, mp_cut _ _ _, ?_⟩; (conv => whnf)) | (refine ⟨_, dbs_cut _ _ _, ?_⟩; (conv => whnf)) | (refine ⟨[_], rfl, ?_⟩; (conv => whnf)) | (refine ⟨[_, _], rfl, ?_⟩; (conv => whnf)) | (refine ⟨[_, _, _], rfl, ?_⟩; (conv => whnf)) | (refine ⟨[_, _, _, _], rfl, ?_⟩; (conv => whnf)) | fail)
      · have hne : x ≠ y := fun e => by have := hq.2 e; simp_all
        refine RetOk.pure' (fun f => rfl) (sub_bool ?_)
        simp [ne_of_get hx hy hne]
      · have he : x = y := hq.1 (by simp_all)
        exact hK _ _ _ (k + 1) ⟨by omega, take_ext heq hx hy he⟩ (by omega) (wkn [] rfl rfl ⟨Sub.refl _, Sub.refl _, sub_int (by omega), trivial⟩ trivial)
    · have : k = a.length := by omega
      subst this
      have he : a = b := by rwa [List.take_length, hlen, List.take_length] at heq
      (conv => whnf); repeat' (first | (refine And.intro ?_ ?_; (focus (exact zq3)); (conv => whnf)) | (refine onB_intro (fun hb => ?_) (fun hb => ?_) <;> (try simp only [decide_eq_true_eq, decide_eq_false_iff_not, Bool.not_eq_true', Bool.not_eq_false', Bool.and_eq_true, Bool.and_eq_false_iff, Int.not_le, Int.not_lt, bsz, ByteArray.toList_eq, beq_iff_eq, beq_eq_false_iff_ne, ne_eq] at hb) <;> (try (exfalso; omega)) <;> (try (exfalso; first | contradiction | (simp [ByteArray.toList_eq] at hb; done))) <;> (conv => whnf)) | (refine (hQ _ _ _ ?_).1; (conv => whnf)) | (refine ⟨_, rfl, ?_⟩; (conv => whnf)) | (refine ⟨_, mp_cut _ _ _, ?_⟩; (conv => whnf)) | (refine ⟨_, dbs_cut _ _ _, ?_⟩; (conv => whnf)) | (refine ⟨[_], rfl, ?_⟩; (conv => whnf)) | (refine ⟨[_, _], rfl, ?_⟩; (conv => whnf)) | (refine ⟨[_, _, _], rfl, ?_⟩; (conv => whnf)) | (refine ⟨[_, _, _, _], rfl, ?_⟩; (conv => whnf)) | fail)
      refine RetOk.pure' (fun f => rfl) (sub_bool ?_)
      simp [he]
  · have hne : a ≠ b := fun e => hlen (by rw [e])
    (conv => whnf); repeat' (first | (refine And.intro ?_ ?_; (focus (exact zq3)); (conv => whnf)) | (refine onB_intro (fun hb => ?_) (fun hb => ?_) <;> (try simp only [decide_eq_true_eq, decide_eq_false_iff_not, Bool.not_eq_true', Bool.not_eq_false', Bool.and_eq_true, Bool.and_eq_false_iff, Int.not_le, Int.not_lt, bsz, ByteArray.toList_eq, beq_iff_eq, beq_eq_false_iff_ne, ne_eq] at hb) <;> (try (exfalso; omega)) <;> (try (exfalso; first | contradiction | (simp [ByteArray.toList_eq] at hb; done))) <;> (conv => whnf)) | (refine (hQ _ _ _ ?_).1; (conv => whnf)) | (refine ⟨_, rfl, ?_⟩; (conv => whnf)) | (refine ⟨_, mp_cut _ _ _, ?_⟩; (conv => whnf)) | (refine ⟨_, dbs_cut _ _ _, ?_⟩; (conv => whnf)) | (refine ⟨[_], rfl, ?_⟩; (conv => whnf)) | (refine ⟨[_, _], rfl, ?_⟩; (conv => whnf)) | (refine ⟨[_, _, _], rfl, ?_⟩; (conv => whnf)) | (refine ⟨[_, _, _, _], rfl, ?_⟩; (conv => whnf)) | fail)
    refine RetOk.pure' (fun f => rfl) (sub_bool ?_)
    simp [hne]
/-- erasureref26.SameRow -/
theorem sameRow_meets (a b : List Val) (hl : a.length ≤ 4611686018427387904) (hl' : b.length ≤ 4611686018427387904) : Meets Try.prog F_erasureref26SameRow ⟨[.c (dvals a), .c (dvals b)], [], 0, vb (decide (a = b)), [], 0⟩ := by
  refine fits_erasureref26SameRow.meets rfl (by simp) fun Q hQ => ?_
  (conv => whnf); repeat' (first | (refine And.intro ?_ ?_; (focus (exact zq3)); (conv => whnf)) | (refine onB_intro (fun hb => ?_) (fun hb => ?_) <;> (try simp only [decide_eq_true_eq, decide_eq_false_iff_not, Bool.not_eq_true', Bool.not_eq_false', Bool.and_eq_true, Bool.and_eq_false_iff, Int.not_le, Int.not_lt, bsz, ByteArray.toList_eq, beq_iff_eq, beq_eq_false_iff_ne, ne_eq] at hb) <;> (try (exfalso; omega)) <;> (try (exfalso; first | contradiction | (simp [ByteArray.toList_eq] at hb; done))) <;> (conv => whnf)) | (refine (hQ _ _ _ ?_).1; (conv => whnf)) | (refine ⟨_, rfl, ?_⟩; (conv => whnf)) | (refine ⟨_, mp_cut _ _ _, ?_⟩; (conv => whnf)) | (refine ⟨_, dbs_cut _ _ _, ?_⟩; (conv => whnf)) | (refine ⟨[_], rfl, ?_⟩; (conv => whnf)) | (refine ⟨[_, _], rfl, ?_⟩; (conv => whnf)) | (refine ⟨[_, _, _], rfl, ?_⟩; (conv => whnf)) | (refine ⟨[_, _, _, _], rfl, ?_⟩; (conv => whnf)) | (refine call_pure (same22Row_meets a b hl hl') (fun F => by first | exact rfl | (simp only [TV.rens, TV.ren, dbs_ren]; rfl) | (simp [TV.rens, TV.ren, dbs_ren, map_ren_p]; done)) (fun F => by first | exact rfl | (simp only [TV.rens, TV.ren, dbs_ren]; rfl) | (simp [TV.rens, TV.ren, dbs_ren, map_ren_p]; done)) ?_ ?_; (focus (exact zq0)); (conv => whnf)) | fail)
  exact RetOk.pure' (fun f => rfl) (Sub.refl _)
/-- erasureref22.SameInts -/
theorem same22Ints_meets (a b : List Int) (hl : a.length ≤ 4611686018427387904) (hl' : b.length ≤ 4611686018427387904) : Meets Try.prog F_erasureref22SameInts ⟨[.c (dints a), .c (dints b)], [], 0, vb (decide (a = b)), [], 0⟩ := by
  refine fits_erasureref22SameInts.meets rfl (by simp) fun Q hQ => ?_
  by_cases hlen : a.length = b.length
  · (conv => whnf); repeat' (first | (refine And.intro ?_ ?_; (focus (exact zq3)); (conv => whnf)) | (refine onB_intro (fun hb => ?_) (fun hb => ?_) <;> (try simp only [decide_eq_true_eq, decide_eq_false_iff_not, Bool.not_eq_true', Bool.not_eq_false', Bool.and_eq_true, Bool.and_eq_false_iff, Int.not_le, Int.not_lt, bsz, ByteArray.toList_eq, beq_iff_eq, beq_eq_false_iff_ne, ne_eq] at hb) <;> (try (exfalso; omega)) <;> (try (exfalso; first | contradiction | (simp [ByteArray.toList_eq] at hb; done))) <;> (conv => whnf)) | (refine (hQ _ _ _ ?_).1; (conv => whnf)) | (refine ⟨_, rfl, ?_⟩; (conv => whnf)) | (refine ⟨_, mp_cut _ _ _, ?_⟩; (conv => whnf)) | (refine ⟨_, dbs_cut _ _ _, ?_⟩; (conv => whnf)) | (refine ⟨[_], rfl, ?_⟩; (conv => whnf)) | (refine ⟨[_, _], rfl, ?_⟩; (conv => whnf)) | (refine ⟨[_, _, _], rfl, ?_⟩; (conv => whnf)) | (refine ⟨[_, _, _, _], rfl, ?_⟩; (conv => whnf)) | fail)
    refine loop_fam (fun k : Nat => ⟨[(0, .c (dints a)), (1, .c (dints b)), (5, vi k)], [], 0⟩) (fun k => a.length - k) (fun k => k ≤ a.length ∧ a.take k = b.take k) 0 (wkn [] rfl rfl ⟨Sub.refl _, Sub.refl _, Sub.refl _, trivial⟩ trivial) ⟨Nat.zero_le _, rfl⟩ ?_
    rintro k ⟨hk, heq⟩ K hK
    rcases Nat.lt_or_ge k a.length with hlt | hge
    · obtain ⟨x, hx⟩ : ∃ x, a[k]? = some x := ⟨_, List.getElem?_eq_getElem hlt⟩
      obtain ⟨y, hy⟩ : ∃ y, b[k]? = some y := ⟨_, List.getElem?_eq_getElem (by omega)⟩
      (conv => whnf); repeat' (first | (refine And.intro ?_ ?_; (focus (exact zq3)); (conv => whnf)) | (refine onB_intro (fun hb => ?_) (fun hb => ?_) <;> (try simp only [decide_eq_true_eq, decide_eq_false_iff_not, Bool.not_eq_true', Bool.not_eq_false', Bool.and_eq_true, Bool.and_eq_false_iff, Int.not_le, Int.not_lt, bsz, ByteArray.toList_eq, beq_iff_eq, beq_eq_false_iff_ne, ne_eq] at hb) <;> (try (exfalso; omega)) <;> (try (exfalso; first | contradiction | (simp [ByteArray.toList_eq] at hb; done))) <;> (conv => whnf)) | (refine (hQ _ _ _ ?_).1; (conv => whnf)) | (refine ⟨_, rfl, ?_⟩; (conv => whnf)) | (refine ⟨_, mp_cut _ _ _, ?_⟩; (conv => whnf)) | (refine ⟨_, dbs_cut _ _ _, ?_⟩; (conv => whnf)) | (refine ⟨[_], rfl, ?_⟩; (conv => whnf)) | (refine ⟨[_, _], rfl, ?_⟩; (conv => whnf)) | (refine ⟨[_, _, _], rfl, ?_⟩; (conv => whnf)) | (refine ⟨[_, _, _, _], rfl, ?_⟩; (conv => whnf)) | (simp only [elem_map hx, elem_map hy]; (conv => whnf)) | fail)
      · have hne : x ≠ y := by simp_all
        refine RetOk.pure' (fun f => rfl) (sub_bool ?_)
        simp [ne_of_get hx hy hne]
      · have he : x = y := by simp_all
        exact hK _ _ _ (k + 1) ⟨by omega, take_ext heq hx hy he⟩ (by omega) (wkn [] rfl rfl ⟨Sub.refl _, Sub.refl _, sub_int (by omega), trivial⟩ trivial)
    · have : k = a.length := by omega
      subst this
      have he : a = b := by rwa [List.take_length, hlen, List.take_length] at heq
      (conv => whnf); repeat' (first | (refine And.intro ?_ ?_; (focus (exact zq3)); (conv => whnf)) | (refine onB_intro (fun hb => ?_) (fun hb => ?_) <;> (try simp only [decide_eq_true_eq, decide_eq_false_iff_not, Bool.not_eq_true', Bool.not_eq_false', Bool.and_eq_true, Bool.and_eq_false_iff, Int.not_le, Int.not_lt, bsz, ByteArray.toList_eq, beq_iff_eq, beq_eq_false_iff_ne, ne_eq] at hb) <;> (try (exfalso; omega)) <;> (try (exfalso; first | contradiction | (simp [ByteArray.toList_eq] at hb; done))) <;> (conv => whnf)) | (refine (hQ _ _ _ ?_).1; (conv => whnf)) | (refine ⟨_, rfl, ?_⟩; (conv => whnf)) | (refine ⟨_, mp_cut _ _ _, ?_⟩; (conv => whnf)) | (refine ⟨_, dbs_cut _ _ _, ?_⟩; (conv => whnf)) | (refine ⟨[_], rfl, ?_⟩; (conv => whnf)) | (refine ⟨[_, _], rfl, ?_⟩; (conv => whnf)) | (refine ⟨[_, _, _], rfl, ?_⟩; (conv => whnf)) | (refine ⟨[_, _, _, _], rfl, ?_⟩; (conv => whnf)) | fail)
      refine RetOk.pure' (fun f => rfl) (sub_bool ?_)
      simp [he]
  · have hne : a ≠ b := fun e => hlen (by rw [e])
    (conv => whnf); repeat' (first | (refine And.intro ?_ ?_; (focus (exact zq3)); (conv => whnf)) | (refine onB_intro (fun hb => ?_) (fun hb => ?_) <;> (try simp only [decide_eq_true_eq, decide_eq_false_iff_not, Bool.not_eq_true', Bool.not_eq_false', Bool.and_eq_true, Bool.and_eq_false_iff, Int.not_le, Int.not_lt, bsz, ByteArray.toList_eq, beq_iff_eq, beq_eq_false_iff_ne, ne_eq] at hb) <;> (try (exfalso; omega)) <;> (try (exfalso; first | contradiction | (simp [ByteArray.toList_eq] at hb; done))) <;> (conv => whnf)) | (refine (hQ _ _ _ ?_).1; (conv => whnf)) | (refine ⟨_, rfl, ?_⟩; (conv => whnf)) | (refine ⟨_, mp_cut _ _ _, ?_⟩; (conv => whnf)) | (refine ⟨_, dbs_cut _ _ _, ?_⟩; (conv => whnf)) | (refine ⟨[_], rfl, ?_⟩; (conv => whnf)) | (refine ⟨[_, _], rfl, ?_⟩; (conv => whnf)) | (refine ⟨[_, _, _], rfl, ?_⟩; (conv => whnf)) | (refine ⟨[_, _, _, _], rfl, ?_⟩; (conv => whnf)) | fail)
    refine RetOk.pure' (fun f => rfl) (sub_bool ?_)
    simp [hne]
end Go.Proofs.Ytjieenfbfckafaa.Am
namespace Go.Proofs.Ytjieenfbfckafaa.Am
open Go
set_option linter.unusedVariables false
set_option linter.unusedSimpArgs false
set_option maxRecDepth 100000
set_option maxHeartbeats 1000000
/-- erasurelaw26.awake -/
theorem awake26_meets : Meets Try.prog F_erasurelaw26awake ⟨[], [], 0, vb true, [], 0⟩ := by
  have m1 := readInt_meets [128, 0] (by decide)
  rw [rd1] at m1
  have m2 := readInt_meets [128] (by decide)
  rw [rd2] at m2
  have m3 := readInt_meets [128, 1, 7] (by decide)
  rw [rd3] at m3
  have m4 := aAppendInt_meets [] (-1) (by simp [inI64]) (by decide)
  obtain ⟨l, hl⟩ : ∃ l, l = [] ++ encInt (-1) := ⟨_, rfl⟩
  rw [← hl] at m4
  rw [encInt_m1] at hl
  have hl : l = [1] := hl
  dsimp only at m1 m2 m3
  refine fits_erasurelaw26awake.meets rfl (by simp) fun Q hQ => ?_
  (conv => whnf); repeat' (first | (refine And.intro ?_ ?_; (focus (exact zq3)); (conv => whnf)) | (refine onB_intro (fun hb => ?_) (fun hb => ?_) <;> (try simp only [decide_eq_true_eq, decide_eq_false_iff_not, Bool.not_eq_true', Bool.not_eq_false', Bool.and_eq_true, Bool.and_eq_false_iff, Int.not_le, Int.not_lt, bsz, ByteArray.toList_eq, beq_iff_eq, beq_eq_false_iff_ne, ne_eq] at hb) <;> (try (exfalso; omega)) <;> (try (exfalso; first | contradiction | (simp [ByteArray.toList_eq] at hb; done))) <;> (conv => whnf)) | (refine (hQ _ _ _ ?_).1; (conv => whnf)) | (refine ⟨_, rfl, ?_⟩; (conv => whnf)) | (refine ⟨_, mp_cut _ _ _, ?_⟩; (conv => whnf)) | (refine ⟨_, dbs_cut _ _ _, ?_⟩; (conv => whnf)) | (refine ⟨[_], rfl, ?_⟩; (conv => whnf)) | (refine ⟨[_, _], rfl, ?_⟩; (conv => whnf)) | (refine ⟨[_, _, _], rfl, ?_⟩; (conv => whnf)) | (refine ⟨[_, _, _, _], rfl, ?_⟩; (conv => whnf)) | (refine call_pure (m1) (fun F => by first | exact rfl | (simp only [TV.rens, TV.ren, dbs_ren]; rfl) | (simp [TV.rens, TV.ren, dbs_ren, map_ren_p]; done)) (fun F => by first | exact rfl | (simp only [TV.rens, TV.ren, dbs_ren]; rfl) | (simp [TV.rens, TV.ren, dbs_ren, map_ren_p]; done)) ?_ ?_; (focus (exact zq0)); (conv => whnf)) | (refine call_pure (m2) (fun F => by first | exact rfl | (simp only [TV.rens, TV.ren, dbs_ren]; rfl) | (simp [TV.rens, TV.ren, dbs_ren, map_ren_p]; done)) (fun F => by first | exact rfl | (simp only [TV.rens, TV.ren, dbs_ren]; rfl) | (simp [TV.rens, TV.ren, dbs_ren, map_ren_p]; done)) ?_ ?_; (focus (exact zq0)); (conv => whnf)) | (refine call_pure (m3) (fun F => by first | exact rfl | (simp only [TV.rens, TV.ren, dbs_ren]; rfl) | (simp [TV.rens, TV.ren, dbs_ren, map_ren_p]; done)) (fun F => by first | exact rfl | (simp only [TV.rens, TV.ren, dbs_ren]; rfl) | (simp [TV.rens, TV.ren, dbs_ren, map_ren_p]; done)) ?_ ?_; (focus (exact zq0)); (conv => whnf)) | (refine call_pure (m4) (fun F => by first | exact rfl | (simp only [TV.rens, TV.ren, dbs_ren]; rfl) | (simp [TV.rens, TV.ren, dbs_ren, map_ren_p]; done)) (fun F => by first | exact rfl | (simp only [TV.rens, TV.ren, dbs_ren]; rfl) | (simp [TV.rens, TV.ren, dbs_ren, map_ren_p]; done)) ?_ ?_; (focus (exact zq0)); (conv => whnf)) | fail)
  exact RetOk.pure' (fun f => rfl) (sub_bool (by simp))
end Go.Proofs.Ytjieenfbfckafaa.Am
namespace Go.Proofs.Ytjieenfbfckafaa.Am
open Go
set_option linter.unusedVariables false
set_option linter.unusedSimpArgs false
theorem ints2_enc {a b : Int} (rest : List UInt8) : encInts [a, b] ++ rest = encInt a ++ (encInt b ++ rest) := by simp [encInts]
theorem ints3_enc {a b c : Int} (rest : List UInt8) : encInts [a, b, c] ++ rest = encInt a ++ (encInt b ++ (encInt c ++ rest)) := by simp [encInts]
theorem ints1_enc {a : Int} (rest : List UInt8) : encInts [a] ++ rest = encInt a ++ rest := by simp [encInts]
theorem ints4_enc {a b c d : Int} (rest : List UInt8) : encInts [a, b, c, d] ++ rest = encInt a ++ (encInt b ++ (encInt c ++ (encInt d ++ rest))) := by simp [encInts]
def Ident.clean (i : Ident) : Ident := ⟨i.ns, i.v.clean⟩
def Link.clean (l : Link) : Link := ⟨l.a.clean, l.b.clean, l.seq, l.rev⟩
def Hold.clean (h : Hold) : Hold := ⟨h.t, h.c, h.who.clean, h.seq, h.fr, h.to⟩
def Req.clean (q : Req) : Req := ⟨q.k, q.who.clean, q.seq, q.day, q.dl⟩
end Go.Proofs.Ytjieenfbfckafaa.Am
namespace Go.Proofs.Ytjieenfbfckafaa.Am
open Go
set_option linter.unusedVariables false
set_option linter.unusedSimpArgs false
set_option maxRecDepth 100000
set_option maxHeartbeats 1000000
theorem eqa_same {cks : List (Nat × CK)} {X Y Z : List DV} (hf : fitCKs cks Z) (hX : X = Z) (hY : Y = Z) {R : Bool → Prop} (h : R true) :
    fitCKs cks X ∧ fitCKs cks Y ∧ ∀ b : Bool, (b = true ↔ X = Y) → R b := by
  subst hX; subst hY
  refine ⟨hf, hf, fun b hb => ?_⟩
  rw [hb.2 rfl]
  exact h
theorem fit_req (q : Req) : fitCKs [(1, .ti .i64), (1, .ts), (2, .ti .i64), (1, .ts), (3, .ti .i64)] q.enc := by simp [fitCKs, fitCK]
theorem fit_link (q : Link) : fitCKs [(1, .ts), (2, .ti .i64), (2, .ts), (2, .ti .i64), (1, .ts), (1, .ti .i64), (1, .tb)] q.enc := by simp [fitCKs, fitCK]
theorem fit_hold (q : Hold) : fitCKs [(2, .ti .i64), (1, .ts), (2, .ti .i64), (1, .ts), (3, .ti .i64)] q.enc := by simp [fitCKs, fitCK]
end Go.Proofs.Ytjieenfbfckafaa.Am
namespace Go.Proofs.Ytjieenfbfckafaa.Am
open Go
set_option linter.unusedVariables false
set_option linter.unusedSimpArgs false
set_option maxRecDepth 100000
set_option maxHeartbeats 1000000
theorem fit_val (q : Val) : fitCKs [(2, .ti .i64), (1, .ts)] q.enc := by simp [fitCKs, fitCK]
end Go.Proofs.Ytjieenfbfckafaa.Am
namespace Go.Proofs.Ytjieenfbfckafaa.Am
open Go
set_option linter.unusedVariables false
set_option linter.unusedSimpArgs false
set_option maxRecDepth 100000
set_option maxHeartbeats 1000000
def Chg.zero : Chg := ⟨0, 0, 0, 0, [], Val.null, 0, Val.null⟩
def Chg.clean (c : Chg) : Chg := ⟨c.k, c.seq, c.day, c.t, c.row.map Val.clean, c.key.clean, c.col, c.val.clean⟩
def Sr.chg (s : Sr) : Chg × Sr :=
  let a := s.int
  let b := a.2.int
  let c := b.2.int
  let d := c.2.int
  let r := d.2.row
  let k := r.2.value
  let n := k.2.int
  let v := n.2.value
  (⟨a.1, b.1, c.1, d.1, r.1, k.1, n.1, v.1⟩, v.2)
/-- codec.ReadChange -/
theorem readChange_meets (b : List UInt8) (hb : b.length ≤ 70368744177664) : Meets Try.prog F_codec_ReadChange ⟨[.c (bs b)], [], 0, .tup [.agg (readR Sr.chg Chg.zero b).1.enc, .c (bs (readR Sr.chg Chg.zero b).2.1), vi (readR Sr.chg Chg.zero b).2.2], [], 0⟩ := by
  unfold readR
  generalize hx : Sr.chg ⟨b, 0⟩ = x
  obtain ⟨n, s⟩ := x
  dsimp only
  revert hx
  unfold Sr.chg
  dsimp only
  have hs : (Sr.mk b 0).b.length ≤ 70368744177664 := hb
  have m0 := number_meets (Sr.mk b 0) (by first | omega | (show (Sr.mk b 0).b.length ≤ _; omega))
  have l0 := (Sr.mk b 0).int_len
  generalize (Sr.mk b 0).int = x at m0 l0 ⊢
  obtain ⟨v0, u0⟩ := x
  dsimp only at m0 l0 ⊢
  have m1 := number_meets u0 (by first | omega | (show u0.b.length ≤ _; omega))
  have l1 := u0.int_len
  generalize u0.int = x at m1 l1 ⊢
  obtain ⟨v1, u1⟩ := x
  dsimp only at m1 l1 ⊢
  have m2 := number_meets u1 (by first | omega | (show u1.b.length ≤ _; omega))
  have l2 := u1.int_len
  generalize u1.int = x at m2 l2 ⊢
  obtain ⟨v2, u2⟩ := x
  dsimp only at m2 l2 ⊢
  have m3 := number_meets u2 (by first | omega | (show u2.b.length ≤ _; omega))
  have l3 := u2.int_len
  generalize u2.int = x at m3 l3 ⊢
  obtain ⟨v3, u3⟩ := x
  dsimp only at m3 l3 ⊢
  have m4 := row_meets u3 (by first | omega | (show u3.b.length ≤ _; omega))
  have l4 := u3.row_len
  generalize u3.row = x at m4 l4 ⊢
  obtain ⟨v4, u4⟩ := x
  dsimp only at m4 l4 ⊢
  have m5 := value_meets u4 (by first | omega | (show u4.b.length ≤ _; omega))
  have l5 := u4.value_len
  generalize u4.value = x at m5 l5 ⊢
  obtain ⟨v5, u5⟩ := x
  dsimp only at m5 l5 ⊢
  have m6 := number_meets u5 (by first | omega | (show u5.b.length ≤ _; omega))
  have l6 := u5.int_len
  generalize u5.int = x at m6 l6 ⊢
  obtain ⟨v6, u6⟩ := x
  dsimp only at m6 l6 ⊢
  have m7 := value_meets u6 (by first | omega | (show u6.b.length ≤ _; omega))
  have l7 := u6.value_len
  generalize u6.value = x at m7 l7 ⊢
  obtain ⟨v7, u7⟩ := x
  dsimp only at m7 l7 ⊢
  intro hx
  cases hx
  by_cases he : s.e = 0
  · rw [if_pos he]
    dsimp only
    refine fits_codec_ReadChange.meets rfl (by simp) fun Q hQ => ?_
    (conv => whnf); repeat' (first | (refine And.intro ?_ ?_; (focus (exact zq3)); (conv => whnf)) | (refine onB_intro (fun hb => ?_) (fun hb => ?_) <;> (try simp only [decide_eq_true_eq, decide_eq_false_iff_not, Bool.not_eq_true', Bool.not_eq_false', Bool.and_eq_true, Bool.and_eq_false_iff, Int.not_le, Int.not_lt, bsz, ByteArray.toList_eq, beq_iff_eq, beq_eq_false_iff_ne, ne_eq] at hb) <;> (try (exfalso; omega)) <;> (try (exfalso; first | contradiction | (simp [ByteArray.toList_eq] at hb; done))) <;> (conv => whnf)) | (refine (hQ _ _ _ ?_).1; (conv => whnf)) | (refine ⟨_, rfl, ?_⟩; (conv => whnf)) | (refine ⟨_, mp_cut _ _ _, ?_⟩; (conv => whnf)) | (refine ⟨_, dbs_cut _ _ _, ?_⟩; (conv => whnf)) | (refine ⟨[_], rfl, ?_⟩; (conv => whnf)) | (refine ⟨[_, _], rfl, ?_⟩; (conv => whnf)) | (refine ⟨[_, _, _], rfl, ?_⟩; (conv => whnf)) | (refine ⟨[_, _, _, _], rfl, ?_⟩; (conv => whnf)) | (apply call_obj (m0) (fun F => by first | exact rfl | exact bob_ren F _ | exact ob_ren F _ _) (fun F => by first | exact rfl | exact bob_ren F _ | exact ob_ren F _ _); (focus (exact zq0)); (focus (exact zq2)); (conv => whnf)) | (apply call_obj (m1) (fun F => by first | exact rfl | exact bob_ren F _ | exact ob_ren F _ _) (fun F => by first | exact rfl | exact bob_ren F _ | exact ob_ren F _ _); (focus (exact zq0)); (focus (exact zq2)); (conv => whnf)) | (apply call_obj (m2) (fun F => by first | exact rfl | exact bob_ren F _ | exact ob_ren F _ _) (fun F => by first | exact rfl | exact bob_ren F _ | exact ob_ren F _ _); (focus (exact zq0)); (focus (exact zq2)); (conv => whnf)) | (apply call_obj (m3) (fun F => by first | exact rfl | exact bob_ren F _ | exact ob_ren F _ _) (fun F => by first | exact rfl | exact bob_ren F _ | exact ob_ren F _ _); (focus (exact zq0)); (focus (exact zq2)); (conv => whnf)) | (apply call_obj (m4) (fun F => by first | exact rfl | exact bob_ren F _ | exact ob_ren F _ _) (fun F => by first | exact rfl | exact bob_ren F _ | exact ob_ren F _ _); (focus (exact zq0)); (focus (exact zq2)); (conv => whnf)) | (apply call_obj (m5) (fun F => by first | exact rfl | exact bob_ren F _ | exact ob_ren F _ _) (fun F => by first | exact rfl | exact bob_ren F _ | exact ob_ren F _ _); (focus (exact zq0)); (focus (exact zq2)); (conv => whnf)) | (apply call_obj (m6) (fun F => by first | exact rfl | exact bob_ren F _ | exact ob_ren F _ _) (fun F => by first | exact rfl | exact bob_ren F _ | exact ob_ren F _ _); (focus (exact zq0)); (focus (exact zq2)); (conv => whnf)) | (apply call_obj (m7) (fun F => by first | exact rfl | exact bob_ren F _ | exact ob_ren F _ _) (fun F => by first | exact rfl | exact bob_ren F _ | exact ob_ren F _ _); (focus (exact zq0)); (focus (exact zq2)); (conv => whnf)) | (apply call_obj (rest_meets s (by omega)) (fun F => by first | exact rfl | exact bob_ren F _ | exact ob_ren F _ _) (fun F => by first | exact rfl | exact bob_ren F _ | exact ob_ren F _ _); (focus (exact zq0)); (focus (exact zq2)); (conv => whnf)) | fail)
    all_goals (refine RetOk.pure' (fun F => by first | rfl | simp [TV.rens, TV.ren, dbs_ren, agg_ren]) ?_; (exact zq0))
  · rw [if_neg he]
    dsimp only
    refine fits_codec_ReadChange.meets rfl (by simp) fun Q hQ => ?_
    (conv => whnf); repeat' (first | (refine And.intro ?_ ?_; (focus (exact zq3)); (conv => whnf)) | (refine onB_intro (fun hb => ?_) (fun hb => ?_) <;> (try simp only [decide_eq_true_eq, decide_eq_false_iff_not, Bool.not_eq_true', Bool.not_eq_false', Bool.and_eq_true, Bool.and_eq_false_iff, Int.not_le, Int.not_lt, bsz, ByteArray.toList_eq, beq_iff_eq, beq_eq_false_iff_ne, ne_eq] at hb) <;> (try (exfalso; omega)) <;> (try (exfalso; first | contradiction | (simp [ByteArray.toList_eq] at hb; done))) <;> (conv => whnf)) | (refine (hQ _ _ _ ?_).1; (conv => whnf)) | (refine ⟨_, rfl, ?_⟩; (conv => whnf)) | (refine ⟨_, mp_cut _ _ _, ?_⟩; (conv => whnf)) | (refine ⟨_, dbs_cut _ _ _, ?_⟩; (conv => whnf)) | (refine ⟨[_], rfl, ?_⟩; (conv => whnf)) | (refine ⟨[_, _], rfl, ?_⟩; (conv => whnf)) | (refine ⟨[_, _, _], rfl, ?_⟩; (conv => whnf)) | (refine ⟨[_, _, _, _], rfl, ?_⟩; (conv => whnf)) | (apply call_obj (m0) (fun F => by first | exact rfl | exact bob_ren F _ | exact ob_ren F _ _) (fun F => by first | exact rfl | exact bob_ren F _ | exact ob_ren F _ _); (focus (exact zq0)); (focus (exact zq2)); (conv => whnf)) | (apply call_obj (m1) (fun F => by first | exact rfl | exact bob_ren F _ | exact ob_ren F _ _) (fun F => by first | exact rfl | exact bob_ren F _ | exact ob_ren F _ _); (focus (exact zq0)); (focus (exact zq2)); (conv => whnf)) | (apply call_obj (m2) (fun F => by first | exact rfl | exact bob_ren F _ | exact ob_ren F _ _) (fun F => by first | exact rfl | exact bob_ren F _ | exact ob_ren F _ _); (focus (exact zq0)); (focus (exact zq2)); (conv => whnf)) | (apply call_obj (m3) (fun F => by first | exact rfl | exact bob_ren F _ | exact ob_ren F _ _) (fun F => by first | exact rfl | exact bob_ren F _ | exact ob_ren F _ _); (focus (exact zq0)); (focus (exact zq2)); (conv => whnf)) | (apply call_obj (m4) (fun F => by first | exact rfl | exact bob_ren F _ | exact ob_ren F _ _) (fun F => by first | exact rfl | exact bob_ren F _ | exact ob_ren F _ _); (focus (exact zq0)); (focus (exact zq2)); (conv => whnf)) | (apply call_obj (m5) (fun F => by first | exact rfl | exact bob_ren F _ | exact ob_ren F _ _) (fun F => by first | exact rfl | exact bob_ren F _ | exact ob_ren F _ _); (focus (exact zq0)); (focus (exact zq2)); (conv => whnf)) | (apply call_obj (m6) (fun F => by first | exact rfl | exact bob_ren F _ | exact ob_ren F _ _) (fun F => by first | exact rfl | exact bob_ren F _ | exact ob_ren F _ _); (focus (exact zq0)); (focus (exact zq2)); (conv => whnf)) | (apply call_obj (m7) (fun F => by first | exact rfl | exact bob_ren F _ | exact ob_ren F _ _) (fun F => by first | exact rfl | exact bob_ren F _ | exact ob_ren F _ _); (focus (exact zq0)); (focus (exact zq2)); (conv => whnf)) | fail)
    all_goals (refine RetOk.pure' (fun F => by first | rfl | simp [TV.rens, TV.ren, dbs_ren, agg_ren]) ?_; (exact zq0))
/-- erasureref26.SameChange of a thing with itself -/
theorem sameChange_self (a : Chg) (ha : a.row.length ≤ 1000) : Meets Try.prog F_erasureref26SameChange ⟨[.agg a.enc, .agg a.enc], [], 0, vb true, [], 0⟩ := by
  have s1 := sameRow_meets a.row a.row (by omega) (by omega)
  simp only [decide_true] at s1
  refine fits_erasureref26SameChange.meets rfl (by simp) fun Q hQ => ?_
  (conv => whnf); repeat' (first | (refine And.intro ?_ ?_; (focus (exact zq3)); (conv => whnf)) | (refine onB_intro (fun hb => ?_) (fun hb => ?_) <;> (try simp only [decide_eq_true_eq, decide_eq_false_iff_not, Bool.not_eq_true', Bool.not_eq_false', Bool.and_eq_true, Bool.and_eq_false_iff, Int.not_le, Int.not_lt, bsz, ByteArray.toList_eq, beq_iff_eq, beq_eq_false_iff_ne, ne_eq] at hb) <;> (try (exfalso; omega)) <;> (try (exfalso; first | contradiction | (simp [ByteArray.toList_eq] at hb; done))) <;> (conv => whnf)) | (refine (hQ _ _ _ ?_).1; (conv => whnf)) | (refine ⟨_, rfl, ?_⟩; (conv => whnf)) | (refine ⟨_, mp_cut _ _ _, ?_⟩; (conv => whnf)) | (refine ⟨_, dbs_cut _ _ _, ?_⟩; (conv => whnf)) | (refine ⟨[_], rfl, ?_⟩; (conv => whnf)) | (refine ⟨[_, _], rfl, ?_⟩; (conv => whnf)) | (refine ⟨[_, _, _], rfl, ?_⟩; (conv => whnf)) | (refine ⟨[_, _, _, _], rfl, ?_⟩; (conv => whnf)) | (refine call_pure (s1) (fun F => by first | exact rfl | (simp only [TV.rens, TV.ren, dbs_ren]; rfl) | (simp [TV.rens, TV.ren, dbs_ren, map_ren_p]; done)) (fun F => by first | exact rfl | (simp only [TV.rens, TV.ren, dbs_ren]; rfl) | (simp [TV.rens, TV.ren, dbs_ren, map_ren_p]; done)) ?_ ?_; (focus (exact zq0)); (conv => whnf)) | (refine eqa_same (fit_val a.key) rfl rfl ?_; (conv => whnf)) | (refine eqa_same (fit_val a.val) rfl rfl ?_; (conv => whnf)) | fail)
  all_goals exact RetOk.pure' (fun f => rfl) (Sub.refl _)
end Go.Proofs.Ytjieenfbfckafaa.Am
namespace Go.Proofs.Ytjieenfbfckafaa.Am
open Go
set_option linter.unusedVariables false
set_option linter.unusedSimpArgs false
set_option maxRecDepth 100000
set_option maxHeartbeats 1000000
def Chg.same (a b : Chg) : Prop := a.k = b.k ∧ a.seq = b.seq ∧ a.day = b.day ∧ a.t = b.t ∧ a.row = b.row ∧ a.key = b.key ∧ a.col = b.col ∧ a.val = b.val
instance : DecidableRel Chg.same := fun a b => by unfold Chg.same; exact inferInstance
end Go.Proofs.Ytjieenfbfckafaa.Am
namespace Go.Proofs.Ytjieenfbfckafaa.Am
open Go
set_option linter.unusedVariables false
set_option linter.unusedSimpArgs false
set_option maxRecDepth 100000
set_option maxHeartbeats 1000000
/-- erasureref22.SameBag of a bag with itself -/
theorem same22Bag_self (l : List Ent) (hl : l.length ≤ 1000000) (hr : ∀ e ∈ l, e.row.length ≤ 1000) : Meets Try.prog F_erasureref22SameBag ⟨[.c (dents l), .c (dents l)], [], 0, vb true, [], 0⟩ := by
  refine fits_erasureref22SameBag.meets rfl (by simp) fun Q hQ => ?_
  (conv => whnf); repeat' (first | (refine And.intro ?_ ?_; (focus (exact zq3)); (conv => whnf)) | (refine onB_intro (fun hb => ?_) (fun hb => ?_) <;> (try simp only [decide_eq_true_eq, decide_eq_false_iff_not, Bool.not_eq_true', Bool.not_eq_false', Bool.and_eq_true, Bool.and_eq_false_iff, Int.not_le, Int.not_lt, bsz, ByteArray.toList_eq, beq_iff_eq, beq_eq_false_iff_ne, ne_eq] at hb) <;> (try (exfalso; omega)) <;> (try (exfalso; first | contradiction | (simp [ByteArray.toList_eq] at hb; done))) <;> (conv => whnf)) | (refine (hQ _ _ _ ?_).1; (conv => whnf)) | (refine ⟨_, rfl, ?_⟩; (conv => whnf)) | (refine ⟨_, mp_cut _ _ _, ?_⟩; (conv => whnf)) | (refine ⟨_, dbs_cut _ _ _, ?_⟩; (conv => whnf)) | (refine ⟨[_], rfl, ?_⟩; (conv => whnf)) | (refine ⟨[_, _], rfl, ?_⟩; (conv => whnf)) | (refine ⟨[_, _, _], rfl, ?_⟩; (conv => whnf)) | (refine ⟨[_, _, _, _], rfl, ?_⟩; (conv => whnf)) | fail)
  refine loop_fam (fun k : Nat => ⟨[(0, .c (dents l)), (1, .c (dents l)), (5, vi k)], [], 0⟩) (fun k => l.length - k) (fun k => k ≤ l.length) 0 (wkn [] rfl rfl ⟨Sub.refl _, Sub.refl _, Sub.refl _, trivial⟩ trivial) (Nat.zero_le _) ?_
  intro k hk K hK
  cases ha : l[k]? with
  | none =>
    have hkr : k = l.length := by have := List.getElem?_eq_none_iff.1 ha; omega
    subst hkr
    (conv => whnf); repeat' (first | (refine And.intro ?_ ?_; (focus (exact zq3)); (conv => whnf)) | (refine onB_intro (fun hb => ?_) (fun hb => ?_) <;> (try simp only [decide_eq_true_eq, decide_eq_false_iff_not, Bool.not_eq_true', Bool.not_eq_false', Bool.and_eq_true, Bool.and_eq_false_iff, Int.not_le, Int.not_lt, bsz, ByteArray.toList_eq, beq_iff_eq, beq_eq_false_iff_ne, ne_eq] at hb) <;> (try (exfalso; omega)) <;> (try (exfalso; first | contradiction | (simp [ByteArray.toList_eq] at hb; done))) <;> (conv => whnf)) | (refine (hQ _ _ _ ?_).1; (conv => whnf)) | (refine ⟨_, rfl, ?_⟩; (conv => whnf)) | (refine ⟨_, mp_cut _ _ _, ?_⟩; (conv => whnf)) | (refine ⟨_, dbs_cut _ _ _, ?_⟩; (conv => whnf)) | (refine ⟨[_], rfl, ?_⟩; (conv => whnf)) | (refine ⟨[_, _], rfl, ?_⟩; (conv => whnf)) | (refine ⟨[_, _, _], rfl, ?_⟩; (conv => whnf)) | (refine ⟨[_, _, _, _], rfl, ?_⟩; (conv => whnf)) | fail)
    all_goals exact RetOk.pure' (fun f => rfl) (Sub.refl _)
  | some a =>
    have hlt : k < l.length := (List.getElem?_eq_some_iff.1 ha).1
    have hra := hr a (List.mem_of_getElem? ha)
    have s1 := same22Row_meets a.row a.row (by omega) (by omega)
    simp only [decide_true] at s1
    (conv => whnf); repeat' (first | (refine And.intro ?_ ?_; (focus (exact zq3)); (conv => whnf)) | (refine onB_intro (fun hb => ?_) (fun hb => ?_) <;> (try simp only [decide_eq_true_eq, decide_eq_false_iff_not, Bool.not_eq_true', Bool.not_eq_false', Bool.and_eq_true, Bool.and_eq_false_iff, Int.not_le, Int.not_lt, bsz, ByteArray.toList_eq, beq_iff_eq, beq_eq_false_iff_ne, ne_eq] at hb) <;> (try (exfalso; omega)) <;> (try (exfalso; first | contradiction | (simp [ByteArray.toList_eq] at hb; done))) <;> (conv => whnf)) | (refine (hQ _ _ _ ?_).1; (conv => whnf)) | (refine ⟨_, rfl, ?_⟩; (conv => whnf)) | (refine ⟨_, mp_cut _ _ _, ?_⟩; (conv => whnf)) | (refine ⟨_, dbs_cut _ _ _, ?_⟩; (conv => whnf)) | (refine ⟨[_], rfl, ?_⟩; (conv => whnf)) | (refine ⟨[_, _], rfl, ?_⟩; (conv => whnf)) | (refine ⟨[_, _, _], rfl, ?_⟩; (conv => whnf)) | (refine ⟨[_, _, _, _], rfl, ?_⟩; (conv => whnf)) | (refine call_pure (s1) (fun F => by first | exact rfl | (simp only [TV.rens, TV.ren, dbs_ren]; rfl) | (simp [TV.rens, TV.ren, dbs_ren, map_ren_p]; done)) (fun F => by first | exact rfl | (simp only [TV.rens, TV.ren, dbs_ren]; rfl) | (simp [TV.rens, TV.ren, dbs_ren, map_ren_p]; done)) ?_ ?_; (focus (exact zq0)); (conv => whnf)) | (simp only [elem_at' Ent.len ha]; (conv => whnf)) | fail)
    all_goals refine hK _ _ _ (k + 1) (by omega) (by omega) (wkn [] rfl rfl ⟨Sub.refl _, Sub.refl _, sub_int (by omega), trivial⟩ trivial)
theorem sameBag_self (l : List Ent) (hl : l.length ≤ 1000000) (hr : ∀ e ∈ l, e.row.length ≤ 1000) : Meets Try.prog F_erasureref26SameBag ⟨[.c (dents l), .c (dents l)], [], 0, vb true, [], 0⟩ := by
  refine fits_erasureref26SameBag.meets rfl (by simp) fun Q hQ => ?_
  (conv => whnf); repeat' (first | (refine And.intro ?_ ?_; (focus (exact zq3)); (conv => whnf)) | (refine onB_intro (fun hb => ?_) (fun hb => ?_) <;> (try simp only [decide_eq_true_eq, decide_eq_false_iff_not, Bool.not_eq_true', Bool.not_eq_false', Bool.and_eq_true, Bool.and_eq_false_iff, Int.not_le, Int.not_lt, bsz, ByteArray.toList_eq, beq_iff_eq, beq_eq_false_iff_ne, ne_eq] at hb) <;> (try (exfalso; omega)) <;> (try (exfalso; first | contradiction | (simp [ByteArray.toList_eq] at hb; done))) <;> (conv => whnf)) | (refine (hQ _ _ _ ?_).1; (conv => whnf)) | (refine ⟨_, rfl, ?_⟩; (conv => whnf)) | (refine ⟨_, mp_cut _ _ _, ?_⟩; (conv => whnf)) | (refine ⟨_, dbs_cut _ _ _, ?_⟩; (conv => whnf)) | (refine ⟨[_], rfl, ?_⟩; (conv => whnf)) | (refine ⟨[_, _], rfl, ?_⟩; (conv => whnf)) | (refine ⟨[_, _, _], rfl, ?_⟩; (conv => whnf)) | (refine ⟨[_, _, _, _], rfl, ?_⟩; (conv => whnf)) | (refine call_pure (same22Bag_self l hl hr) (fun F => by first | exact rfl | (simp only [TV.rens, TV.ren, dbs_ren]; rfl) | (simp [TV.rens, TV.ren, dbs_ren, map_ren_p]; done)) (fun F => by first | exact rfl | (simp only [TV.rens, TV.ren, dbs_ren]; rfl) | (simp [TV.rens, TV.ren, dbs_ren, map_ren_p]; done)) ?_ ?_; (focus (exact zq0)); (conv => whnf)) | fail)
  exact RetOk.pure' (fun f => rfl) (Sub.refl _)
def Ent.clean (e : Ent) : Ent := ⟨e.row.map Val.clean, e.cnt⟩
def Sr.ent (s : Sr) : Ent × Sr :=
  let r := s.row
  let c := r.2.int
  (⟨r.1, c.1⟩, c.2)
def Sr.bag (s : Sr) : List Ent × Sr := s.list Sr.ent 4096
theorem Sr.ent_len (s : Sr) : s.ent.2.b.length ≤ s.b.length := Nat.le_trans (Sr.int_len _) (Sr.row_len _)
theorem Sr.bag_len (s : Sr) : s.bag.2.b.length ≤ s.b.length := s.list_len Sr.ent_len 4096
end Go.Proofs.Ytjieenfbfckafaa.Am
namespace Go.Proofs.Ytjieenfbfckafaa.Am
open Go
set_option linter.unusedVariables false
set_option linter.unusedSimpArgs false
def Sr.recd (s : Sr) : Recd × Sr :=
  let r := s.row
  let q := many Sr.int r.1.length r.2
  let d := q.2.int
  (⟨r.1, q.1, d.1⟩, d.2)
def Recd.zero : Recd := ⟨[], [], 0⟩
def LE.zero : LE := ⟨0, 0, 0, 0, Req.zero, Link.zero, Hold.zero, [], [], zero32⟩
def LE.at (k d p s : Int) : LE := ⟨k, d, p, s, Req.zero, Link.zero, Hold.zero, [], [], zero32⟩
def Sr.kind (s : Sr) : Int × Sr :=
  let a := s.int
  (a.1, if a.1 < 1 ∨ 7 < a.1 then a.2.fail 1 else a.2)
def Sr.body (k d p t : Int) (s : Sr) : LE × Sr :=
  if k = 1 then ({ LE.at k d p t with req := s.req.1 }, s.req.2)
  else if k = 2 then ({ LE.at k d p t with vers := s.vers.1, sous := s.vers.2.sous.1 }, s.vers.2.sous.2)
  else if k = 4 then ({ LE.at k d p t with root := s.digest.1 }, s.digest.2)
  else if k = 6 then ({ LE.at k d p t with link := s.link.1 }, s.link.2)
  else if k = 7 then ({ LE.at k d p t with hold := s.hold.1 }, s.hold.2)
  else (LE.at k d p t, s)
def Sr.le (s : Sr) : LE × Sr :=
  let a := s.kind
  let b := a.2.int
  let c := b.2.int
  let d := c.2.int
  d.2.body a.1 b.1 c.1 d.1
theorem Sr.kind_len (s : Sr) : s.kind.2.b.length ≤ s.b.length := by
  have h := s.int_len
  unfold Sr.kind
  dsimp only
  split
  · rw [Sr.fail_b]; exact h
  · exact h
theorem Sr.body_len (k d p t : Int) (s : Sr) : (s.body k d p t).2.b.length ≤ s.b.length := by
  unfold Sr.body
  (repeat' split)
  · exact s.req_len
  · exact Nat.le_trans (Sr.sous_len _) (Sr.vers_len _)
  · exact s.digest_len
  · exact s.link_len
  · exact s.hold_len
  · exact Nat.le_refl _
theorem Sr.le_len (s : Sr) : s.le.2.b.length ≤ s.b.length := Nat.le_trans (Sr.body_len _ _ _ _ _) (Nat.le_trans (Sr.int_len _) (Nat.le_trans (Sr.int_len _) (Nat.le_trans (Sr.int_len _) (Sr.kind_len _))))
theorem Sr.recd_len (s : Sr) : s.recd.2.b.length ≤ s.b.length := Nat.le_trans (Sr.int_len _) (Nat.le_trans (many_len Sr.int_len _ _) (Sr.row_len _))
structure Stream {α : Type} (f : Sr → α × Sr) : Prop where
  stick : ∀ s, s.e ≠ 0 → (f s).2.e = s.e
  more : ∀ b r, (f ⟨b, 0⟩).2.e = 0 → f ⟨b ++ r, 0⟩ = ((f ⟨b, 0⟩).1, ⟨(f ⟨b, 0⟩).2.b ++ r, 0⟩)
  bad : ∀ b r, (f ⟨b, 0⟩).2.e ≠ 0 → (f ⟨b, 0⟩).2.e ≠ 100 → (f ⟨b ++ r, 0⟩).2.e = (f ⟨b, 0⟩).2.e
theorem Sr.eta0 {s : Sr} (h : s.e = 0) : s = ⟨s.b, 0⟩ := by cases s; cases h; rfl
theorem Stream.bind {α β : Type} {f : Sr → α × Sr} {g : α → Sr → β × Sr} (hf : Stream f) (hg : ∀ x, Stream (g x)) : Stream (fun s => g (f s).1 (f s).2) := by
  refine ⟨fun s hs => ?_, fun b r h => ?_, fun b r h h' => ?_⟩
  · have h1 := hf.stick s hs
    have h2 := (hg (f s).1).stick (f s).2 (by rw [h1]; exact hs)
    rw [h2, h1]
  · (try dsimp only at h ⊢)
    by_cases he : (f ⟨b, 0⟩).2.e = 0
    · have h1 := hf.more b r he
      rw [h1]
      (try dsimp only)
      rw [Sr.eta0 he] at h ⊢
      exact (hg _).more _ _ h
    · have h2 := (hg (f ⟨b, 0⟩).1).stick _ he
      rw [h2] at h; exact absurd h he
  · (try dsimp only at h h' ⊢)
    by_cases he : (f ⟨b, 0⟩).2.e = 0
    · have h1 := hf.more b r he
      rw [h1]
      (try dsimp only)
      rw [Sr.eta0 he] at h h' ⊢
      exact (hg _).bad _ _ h h'
    · have h2 := (hg (f ⟨b, 0⟩).1).stick _ he
      rw [h2] at h' ⊢
      have h3 := hf.bad b r he h'
      rw [(hg _).stick _ (by rw [h3]; exact he), h3]
theorem Stream.ret {α : Type} (x : α) : Stream (fun s => (x, s)) := ⟨fun s h => rfl, fun b r h => rfl, fun b r h h' => rfl⟩
theorem Stream.map {α β : Type} {f : Sr → α × Sr} (g : α → β) (hf : Stream f) : Stream (fun s => (g (f s).1, (f s).2)) := hf.bind fun x => Stream.ret (g x)
theorem Stream.check {α : Type} (x : α) (p : Prop) [Decidable p] : Stream (fun s => (x, if p then s.fail 1 else s)) := by
  by_cases hp : p
  · simp only [if_pos hp]
    refine ⟨fun s hs => ?_, fun b r h => ?_, fun b r h h' => ?_⟩
    · simp only [Sr.fail, if_neg hs]
    · simp [Sr.fail] at h
    · simp [Sr.fail]
  · simp only [if_neg hp]; exact Stream.ret x
theorem Stream.ite {α : Type} {f g : Sr → α × Sr} (p : Prop) [Decidable p] (hf : Stream f) (hg : Stream g) : Stream (fun s => if p then f s else g s) := by
  by_cases hp : p
  · simp only [if_pos hp]; exact hf
  · simp only [if_neg hp]; exact hg
theorem Stream.same {α : Type} {f g : Sr → α × Sr} (hf : Stream f) (h2 : ∀ s, (g s).2 = (f s).2) (h1 : ∀ s, (f s).2.e = 0 → (g s).1 = (f s).1) : Stream g := by
  refine ⟨fun s hs => by rw [h2]; exact hf.stick s hs, fun b r h => ?_, fun b r h h' => ?_⟩
  · rw [h2] at h
    have h3 := hf.more b r h
    have h4 := h2 ⟨b ++ r, 0⟩
    have h5 := h1 ⟨b ++ r, 0⟩ (by rw [h3])
    rw [h3] at h4 h5
    rw [h2 ⟨b, 0⟩, h1 _ h]
    exact Prod.ext h5 h4
  · rw [h2] at h h' ⊢
    rw [h2]
    exact hf.bad b r h h'
theorem decU_more : ∀ (b r : List UInt8) (i u : Nat), (∀ v q, decU i u b = .ok (v, q) → decU i u (b ++ r) = .ok (v, q ++ r)) ∧ (∀ x, decU i u b = .error x → x ≠ 100 → decU i u (b ++ r) = .error x)
  | [], r, i, u => by
    constructor
    · intro v q h; simp [decU] at h
    · intro x h hx; simp [decU] at h; exact absurd h.symm hx
  | c :: b, r, i, u => by
    rw [List.cons_append]
    by_cases h1 : (i = 9 ∧ 1 < c.toNat) ∨ (0 < i ∧ c.toNat = 0)
    · rw [decU_bad h1, decU_bad h1]
      exact ⟨fun v q h => by simp at h, fun x h _ => h⟩
    · by_cases h2 : c.toNat < 128
      · rw [decU_last h1 h2, decU_last h1 h2]
        refine ⟨fun v q h => ?_, fun x h => by simp at h⟩
        simp only [Except.ok.injEq, Prod.mk.injEq] at h ⊢
        exact ⟨h.1, by rw [h.2]⟩
      · rw [decU_step h1 h2, decU_step h1 h2]
        exact decU_more b r _ _
theorem Stream.int : Stream Sr.int := by
  refine ⟨fun s hs => by unfold Sr.int; rw [if_neg hs], fun b r h => ?_, fun b r h h' => ?_⟩
  · obtain ⟨m1, m2⟩ := decU_more b r 0 0
    unfold Sr.int at h ⊢
    rw [if_pos rfl] at h
    rw [if_pos rfl, if_pos rfl]
    cases hd : decU 0 0 b with
    | error x =>
      rw [hd] at h
      dsimp only at h
      subst h
      have := m2 0 hd (by decide)
      dsimp only
      rw [this]
    | ok p =>
      obtain ⟨v, q⟩ := p
      have := m1 v q hd
      dsimp only
      rw [this]
  · obtain ⟨m1, m2⟩ := decU_more b r 0 0
    unfold Sr.int at h h' ⊢
    rw [if_pos rfl] at h h' ⊢
    rw [if_pos rfl]
    cases hd : decU 0 0 b with
    | error x =>
      rw [hd] at h'
      have := m2 x hd h'
      dsimp only
      rw [this]
    | ok p => rw [hd] at h; exact absurd rfl h
theorem Stream.count (m : Int) : Stream (Sr.count m) := by
  refine Stream.same (Stream.bind Stream.int fun n => Stream.check n (n < 0 ∨ m < n)) (fun s => ?_) (fun s h => ?_)
  · unfold Sr.count; dsimp only; split <;> split <;> rfl
  · dsimp only at h; unfold Sr.count; dsimp only; rw [if_pos h]
theorem Stream.take (n : Nat) : Stream (Sr.take n) := by
  refine ⟨fun s hs => by unfold Sr.take; rw [if_neg hs], fun b r h => ?_, fun b r h h' => ?_⟩
  · unfold Sr.take at h ⊢
    rw [if_pos rfl] at h
    rw [if_pos rfl, if_pos rfl]
    dsimp only at h ⊢
    split at h
    · simp at h
    · rename_i hn
      have hn : n ≤ b.length := by omega
      rw [if_neg (by simp; omega), if_neg (by omega)]
      rw [List.take_append_of_le_length hn, List.drop_append_of_le_length hn]
  · unfold Sr.take at h h' ⊢
    rw [if_pos rfl] at h h'
    split at h
    · rename_i hn; rw [if_pos hn] at h'; simp at h'
    · simp at h
theorem Stream.text (m : Int) : Stream (Sr.text m) := (Stream.count m).bind fun n => Stream.take n.toNat
theorem Stream.value : Stream Sr.value := by
  refine (Stream.count 2).bind (g := fun n s => if n = 1 then ((⟨1, s.int.1, []⟩ : Val), if s.int.1 < -4294967296 ∨ 4294967296 < s.int.1 then s.int.2.fail 1 else s.int.2) else if n = 2 then ((⟨2, 0, (s.text 32).1⟩ : Val), (s.text 32).2) else (Val.null, s)) fun n => ?_
  refine Stream.ite _ (Stream.int.bind fun v => Stream.check (⟨1, v, []⟩ : Val) (v < -4294967296 ∨ 4294967296 < v)) (Stream.ite _ ((Stream.text 32).map fun t => (⟨2, 0, t⟩ : Val)) (Stream.ret _))
theorem Stream.many {α : Type} {f : Sr → α × Sr} (hf : Stream f) : ∀ n, Stream (many f n)
  | 0 => Stream.ret []
  | n + 1 => by
    have h := hf.bind fun x => (Stream.many hf n).map fun l => x :: l
    refine ⟨fun s hs => by rw [Am.many, if_neg hs], fun b r hh => ?_, fun b r hh hh' => ?_⟩
    · rw [Am.many, if_pos rfl] at hh
      rw [Am.many, if_pos rfl, Am.many, if_pos rfl]
      exact h.more b r hh
    · rw [Am.many, if_pos rfl] at hh hh'
      rw [Am.many, if_pos rfl, Am.many, if_pos rfl]
      exact h.bad b r hh hh'
theorem Stream.list {α : Type} {f : Sr → α × Sr} (hf : Stream f) (m : Int) : Stream (Sr.list f m) := (Stream.count m).bind fun n => Stream.many hf n.toNat
theorem Stream.row : Stream Sr.row := Stream.list Stream.value 16
theorem Stream.ident : Stream Sr.ident := (Stream.text 16).bind fun t => Stream.value.map fun v => (⟨t, v⟩ : Ident)
theorem Stream.ver : Stream Sr.ver := Stream.int.bind fun x => Stream.int.bind fun y => Stream.int.map fun z => (⟨x, z, y⟩ : Ver)
theorem Stream.sou : Stream Sr.sou := Stream.int.bind fun x => Stream.int.map fun y => (⟨x, y⟩ : Sou)
theorem Stream.vers : Stream Sr.vers := Stream.list Stream.ver 512
theorem Stream.sous : Stream Sr.sous := Stream.list Stream.sou 512
theorem Stream.link : Stream Sr.link := Stream.ident.bind fun a => Stream.ident.bind fun b => Stream.int.bind fun x => (Stream.count 1).map fun y => (⟨a, b, x, decide (y = 1)⟩ : Link)
theorem Stream.hold : Stream Sr.hold := Stream.int.bind fun a => Stream.int.bind fun b => Stream.ident.bind fun c => Stream.int.bind fun d => Stream.int.bind fun e => Stream.int.map fun f => (⟨a, b, c, d, e, f⟩ : Hold)
theorem Stream.req : Stream Sr.req := Stream.int.bind fun a => Stream.ident.bind fun c => Stream.int.bind fun d => Stream.int.bind fun e => Stream.int.map fun f => (⟨a, c, d, e, f⟩ : Req)
theorem Stream.digest : Stream Sr.digest := Stream.same (Stream.take 32) (fun s => rfl) fun s h => by unfold Sr.digest; dsimp only; rw [if_pos h]
theorem Stream.kind : Stream Sr.kind := Stream.int.bind fun n => Stream.check n (n < 1 ∨ 7 < n)
theorem Stream.body (k d p t : Int) : Stream (Sr.body k d p t) := by
  refine Stream.ite _ (Stream.req.map fun q => { LE.at k d p t with req := q }) (Stream.ite _ (Stream.vers.bind fun v => Stream.sous.map fun w => { LE.at k d p t with vers := v, sous := w }) (Stream.ite _ (Stream.digest.map fun q => { LE.at k d p t with root := q }) (Stream.ite _ (Stream.link.map fun q => { LE.at k d p t with link := q }) (Stream.ite _ (Stream.hold.map fun q => { LE.at k d p t with hold := q }) (Stream.ret _)))))
theorem Stream.le : Stream Sr.le := Stream.kind.bind fun a => Stream.int.bind fun b => Stream.int.bind fun c => Stream.int.bind fun d => Stream.body a b c d
end Go.Proofs.Ytjieenfbfckafaa.Am
namespace Go.Proofs.Ytjieenfbfckafaa.Am
open Go
set_option linter.unusedVariables false
set_option linter.unusedSimpArgs false
set_option maxRecDepth 100000
set_option maxHeartbeats 1000000
theorem ent_eq (s : Sr) : Sr.ent s = (⟨s.row.1, s.row.2.int.1⟩, s.row.2.int.2) := rfl
/-- codec.ReadBag -/
theorem readBag_meets (b : List UInt8) (hb : b.length ≤ 70368744177664) : Meets Try.prog F_codec_ReadBag ⟨[.c (bs b)], [], 0, .tup [.c (dents (readR Sr.bag [] b).1), .c (bs (readR Sr.bag [] b).2.1), vi (readR Sr.bag [] b).2.2], [], 0⟩ := by
  have hr := (Sr.mk b 0).count_range 4096 (by omega)
  have e : (Sr.bag ⟨b, 0⟩) = many Sr.ent ((Sr.mk b 0).count 4096).1.toNat ((Sr.mk b 0).count 4096).2 := rfl
  unfold readR
  rw [e]
  clear e
  have m1 := count_meets 4096 ⟨b, 0⟩ (by show b.length ≤ _; omega)
  have l1 := (Sr.mk b 0).count_len 4096
  generalize (Sr.mk b 0).count 4096 = x at m1 l1 hr ⊢
  obtain ⟨c, t⟩ := x
  dsimp only at m1 l1 hr ⊢
  obtain ⟨n, rfl⟩ := Int.eq_ofNat_of_zero_le hr.1
  rw [Int.toNat_natCast]
  refine fits_codec_ReadBag.meets rfl (by simp) fun Q hQ => ?_
  (conv => whnf); repeat' (first | (refine And.intro ?_ ?_; (focus (exact zq3)); (conv => whnf)) | (refine onB_intro (fun hb => ?_) (fun hb => ?_) <;> (try simp only [decide_eq_true_eq, decide_eq_false_iff_not, Bool.not_eq_true', Bool.not_eq_false', Bool.and_eq_true, Bool.and_eq_false_iff, Int.not_le, Int.not_lt, bsz, ByteArray.toList_eq, beq_iff_eq, beq_eq_false_iff_ne, ne_eq] at hb) <;> (try (exfalso; omega)) <;> (try (exfalso; first | contradiction | (simp [ByteArray.toList_eq] at hb; done))) <;> (conv => whnf)) | (refine (hQ _ _ _ ?_).1; (conv => whnf)) | (refine ⟨_, rfl, ?_⟩; (conv => whnf)) | (refine ⟨_, mp_cut _ _ _, ?_⟩; (conv => whnf)) | (refine ⟨_, dbs_cut _ _ _, ?_⟩; (conv => whnf)) | (refine ⟨[_], rfl, ?_⟩; (conv => whnf)) | (refine ⟨[_, _], rfl, ?_⟩; (conv => whnf)) | (refine ⟨[_, _, _], rfl, ?_⟩; (conv => whnf)) | (refine ⟨[_, _, _, _], rfl, ?_⟩; (conv => whnf)) | (apply call_obj (m1) (fun F => by first | exact rfl | exact bob_ren F _ | exact ob_ren F _ _) (fun F => by first | exact rfl | exact bob_ren F _ | exact ob_ren F _ _); (focus (exact zq0)); (focus (exact zq2)); (conv => whnf)) | fail)
  refine loop_fam (fun i : Nat × List Ent × Sr => ⟨[(5, .c (.ptr 0 0)), (6, vi n), (7, .c (.ref 1 0 i.2.1.length 2)), (8, vi i.1)], [(0, sob i.2.2), (1, ⟨T_api_Entry, (i.2.1.flatMap Ent.pv).map DV.p⟩)], 2⟩) (fun i => n - i.1)
    (fun i => i.1 ≤ n ∧ i.2.2.b.length ≤ t.b.length ∧ i.2.1.length = i.1 ∧ (i.2.1 ++ (many Sr.ent (n - i.1) i.2.2).1, (many Sr.ent (n - i.1) i.2.2).2) = many Sr.ent n t) (0, [], t)
    ((Wk.adopt 7 2 T_api_Entry rfl).trans (wkn [(0, 0), (1, 2)] rfl rfl (by repeat' (first | exact trivial | exact Sub.refl _ | refine And.intro ?_ ?_)) ⟨rfl, hp_pure rfl rfl, trivial⟩)) ⟨Nat.zero_le _, Nat.le_refl _, rfl, by simp⟩ ?_
  rintro ⟨k, acc, s⟩ ⟨hk, hsl, hal, hmany⟩ K hK
  dsimp only at hk hsl hal hmany
  have hl1 : t.b.length ≤ b.length := l1
  by_cases hgo : k < n ∧ s.e = 0
  · obtain ⟨hkn, hse⟩ := hgo
    have hm1 : many Sr.ent (n - k) s = ((Sr.ent s).1 :: (many Sr.ent (n - (k + 1)) (Sr.ent s).2).1, (many Sr.ent (n - (k + 1)) (Sr.ent s).2).2) := by
      rw [show n - k = (n - (k + 1)) + 1 by omega, many, if_pos hse]
    rw [hm1] at hmany
    have hfl := Sr.ent_len s
    have hxl : ((acc.flatMap Ent.pv).map DV.p).length = acc.length * 2 := by rw [List.length_map, flat_len Ent.len]
    rw [ent_eq s] at hmany hfl
    dsimp only at hmany hfl
    have m0 := row_meets s (by omega)
    have g0 := s.row_len
    generalize s.row = x0 at m0 g0 hmany hfl
    obtain ⟨v0, u0⟩ := x0
    dsimp only at m0 g0 hmany hfl
    have m1 := integer_meets u0 (by show u0.b.length ≤ _; omega)
    have g1 := u0.int_len
    generalize u0.int = x1 at m1 g1 hmany hfl
    obtain ⟨v1, u1⟩ := x1
    dsimp only at m1 g1 hmany hfl
    (conv => whnf); repeat' (first | (refine And.intro ?_ ?_; (focus (exact zq3)); (conv => whnf)) | (refine onB_intro (fun hb => ?_) (fun hb => ?_) <;> (try simp only [decide_eq_true_eq, decide_eq_false_iff_not, Bool.not_eq_true', Bool.not_eq_false', Bool.and_eq_true, Bool.and_eq_false_iff, Int.not_le, Int.not_lt, bsz, ByteArray.toList_eq, beq_iff_eq, beq_eq_false_iff_ne, ne_eq] at hb) <;> (try (exfalso; omega)) <;> (try (exfalso; first | contradiction | (simp [ByteArray.toList_eq] at hb; done))) <;> (conv => whnf)) | (refine (hQ _ _ _ ?_).1; (conv => whnf)) | (refine ⟨_, rfl, ?_⟩; (conv => whnf)) | (refine ⟨_, mp_cut _ _ _, ?_⟩; (conv => whnf)) | (refine ⟨_, dbs_cut _ _ _, ?_⟩; (conv => whnf)) | (refine ⟨[_], rfl, ?_⟩; (conv => whnf)) | (refine ⟨[_, _], rfl, ?_⟩; (conv => whnf)) | (refine ⟨[_, _, _], rfl, ?_⟩; (conv => whnf)) | (refine ⟨[_, _, _, _], rfl, ?_⟩; (conv => whnf)) | (apply call_obj (m0) (fun F => by first | exact rfl | exact bob_ren F _ | exact ob_ren F _ _) (fun F => by first | exact rfl | exact bob_ren F _ | exact ob_ren F _ _); (focus (exact zq0)); (focus (exact zq2)); (conv => whnf)) | (apply call_obj (m1) (fun F => by first | exact rfl | exact bob_ren F _ | exact ob_ren F _ _) (fun F => by first | exact rfl | exact bob_ren F _ | exact ob_ren F _ _); (focus (exact zq0)); (focus (exact zq2)); (conv => whnf)) | fail)
    refine hK _ _ _ (k + 1, acc ++ [⟨v0, v1⟩], u1) ⟨by dsimp only; omega, by dsimp only; omega, by simp [hal], by dsimp only; rw [← hmany, List.append_assoc]; rfl⟩ (by dsimp only; omega) (wkn [(0, 0), (1, 5)] rfl rfl (by repeat' (first | exact trivial | exact Sub.refl _ | exact sub_ref (by simp) | exact sub_int (by dsimp only; omega) | refine And.intro ?_ ?_)) ⟨rfl, hp_pure rfl (cells_snoc Ent.len acc ⟨v0, v1⟩), trivial⟩)
  · have hm1 : many Sr.ent (n - k) s = ([], s) := by
      cases hq : n - k with
      | zero => rfl
      | succ q => rw [many, if_neg (fun h => hgo ⟨by omega, h⟩)]
    rw [hm1] at hmany
    have hmany : (acc, s) = many Sr.ent n t := by rw [← hmany]; simp
    rw [← hmany] at hQ
    dsimp only at hQ
    by_cases he : s.e = 0
    · have hkn : ¬ k < n := fun h => hgo ⟨h, he⟩
      rw [if_pos he] at hQ
      dsimp only at hQ
      (conv => whnf); repeat' (first | (refine And.intro ?_ ?_; (focus (exact zq3)); (conv => whnf)) | (refine onB_intro (fun hb => ?_) (fun hb => ?_) <;> (try simp only [decide_eq_true_eq, decide_eq_false_iff_not, Bool.not_eq_true', Bool.not_eq_false', Bool.and_eq_true, Bool.and_eq_false_iff, Int.not_le, Int.not_lt, bsz, ByteArray.toList_eq, beq_iff_eq, beq_eq_false_iff_ne, ne_eq] at hb) <;> (try (exfalso; omega)) <;> (try (exfalso; first | contradiction | (simp [ByteArray.toList_eq] at hb; done))) <;> (conv => whnf)) | (refine (hQ _ _ _ ?_).1; (conv => whnf)) | (refine ⟨_, rfl, ?_⟩; (conv => whnf)) | (refine ⟨_, mp_cut _ _ _, ?_⟩; (conv => whnf)) | (refine ⟨_, dbs_cut _ _ _, ?_⟩; (conv => whnf)) | (refine ⟨[_], rfl, ?_⟩; (conv => whnf)) | (refine ⟨[_, _], rfl, ?_⟩; (conv => whnf)) | (refine ⟨[_, _, _], rfl, ?_⟩; (conv => whnf)) | (refine ⟨[_, _, _, _], rfl, ?_⟩; (conv => whnf)) | (apply call_obj (rest_meets s (by omega)) (fun F => by first | exact rfl | exact bob_ren F _ | exact ob_ren F _ _) (fun F => by first | exact rfl | exact bob_ren F _ | exact ob_ren F _ _); (focus (exact zq0)); (focus (exact zq2)); (conv => whnf)) | fail)
      all_goals (refine RetOk.freeze 1 T_api_Entry (acc.flatMap Ent.pv) (hp_eq rfl rfl) (RetOk.pure' (fun f => rfl) ?_); exact sub_tup ⟨sub_slice Ent.len acc, Sub.refl _, Sub.refl _, trivial⟩)
    · rw [if_neg he] at hQ
      dsimp only at hQ
      rcases Nat.lt_or_ge k n with hkn | hkn
      · (conv => whnf); repeat' (first | (refine And.intro ?_ ?_; (focus (exact zq3)); (conv => whnf)) | (refine onB_intro (fun hb => ?_) (fun hb => ?_) <;> (try simp only [decide_eq_true_eq, decide_eq_false_iff_not, Bool.not_eq_true', Bool.not_eq_false', Bool.and_eq_true, Bool.and_eq_false_iff, Int.not_le, Int.not_lt, bsz, ByteArray.toList_eq, beq_iff_eq, beq_eq_false_iff_ne, ne_eq] at hb) <;> (try (exfalso; omega)) <;> (try (exfalso; first | contradiction | (simp [ByteArray.toList_eq] at hb; done))) <;> (conv => whnf)) | (refine (hQ _ _ _ ?_).1; (conv => whnf)) | (refine ⟨_, rfl, ?_⟩; (conv => whnf)) | (refine ⟨_, mp_cut _ _ _, ?_⟩; (conv => whnf)) | (refine ⟨_, dbs_cut _ _ _, ?_⟩; (conv => whnf)) | (refine ⟨[_], rfl, ?_⟩; (conv => whnf)) | (refine ⟨[_, _], rfl, ?_⟩; (conv => whnf)) | (refine ⟨[_, _, _], rfl, ?_⟩; (conv => whnf)) | (refine ⟨[_, _, _, _], rfl, ?_⟩; (conv => whnf)) | fail)
        all_goals (refine RetOk.pure' (fun F => rfl) ?_; (exact zq0))
      · (conv => whnf); repeat' (first | (refine And.intro ?_ ?_; (focus (exact zq3)); (conv => whnf)) | (refine onB_intro (fun hb => ?_) (fun hb => ?_) <;> (try simp only [decide_eq_true_eq, decide_eq_false_iff_not, Bool.not_eq_true', Bool.not_eq_false', Bool.and_eq_true, Bool.and_eq_false_iff, Int.not_le, Int.not_lt, bsz, ByteArray.toList_eq, beq_iff_eq, beq_eq_false_iff_ne, ne_eq] at hb) <;> (try (exfalso; omega)) <;> (try (exfalso; first | contradiction | (simp [ByteArray.toList_eq] at hb; done))) <;> (conv => whnf)) | (refine (hQ _ _ _ ?_).1; (conv => whnf)) | (refine ⟨_, rfl, ?_⟩; (conv => whnf)) | (refine ⟨_, mp_cut _ _ _, ?_⟩; (conv => whnf)) | (refine ⟨_, dbs_cut _ _ _, ?_⟩; (conv => whnf)) | (refine ⟨[_], rfl, ?_⟩; (conv => whnf)) | (refine ⟨[_, _], rfl, ?_⟩; (conv => whnf)) | (refine ⟨[_, _, _], rfl, ?_⟩; (conv => whnf)) | (refine ⟨[_, _, _, _], rfl, ?_⟩; (conv => whnf)) | fail)
        all_goals (refine RetOk.pure' (fun F => rfl) ?_; (exact zq0))
end Go.Proofs.Ytjieenfbfckafaa.Am
namespace Go.Proofs.Ytjieenfbfckafaa.Am
open Go
set_option linter.unusedVariables false
set_option linter.unusedSimpArgs false
set_option maxRecDepth 100000
set_option maxHeartbeats 1000000
theorem map_pi_snoc (acc : List Int) (v : Int) : ((acc.map pi).map DV.p).take (acc.length * 1) ++ [DV.p (pi v)] = ((acc ++ [v]).map pi).map DV.p := by
  rw [List.take_of_length_le (by simp)]; simp
theorem sub_ints (l : List Int) : DV.p (.val l.length (((l.map pi).drop 0).take (l.length * 1))) = dints l := by
  rw [List.drop_zero, List.take_of_length_le (by simp)]
theorem Sr.row_count (s : Sr) : s.row.1.length ≤ 16 := by
  have h := s.count_range 16 (by omega)
  have h2 := many_count (f := Sr.value) (s.count 16).1.toNat (s.count 16).2
  show (many Sr.value (s.count 16).1.toNat (s.count 16).2).1.length ≤ 16
  omega
/-- codec.ReadRecord -/
theorem readRecord_meets (b : List UInt8) (hb : b.length ≤ 70368744177664) : Meets Try.prog F_codec_ReadRecord ⟨[.c (bs b)], [], 0, .tup [.agg (readR Sr.recd Recd.zero b).1.enc, .c (bs (readR Sr.recd Recd.zero b).2.1), vi (readR Sr.recd Recd.zero b).2.2], [], 0⟩ := by
  unfold readR
  generalize hx : Sr.recd ⟨b, 0⟩ = x
  obtain ⟨R, z⟩ := x
  dsimp only
  revert hx
  unfold Sr.recd
  dsimp only
  have hs : (Sr.mk b 0).b.length ≤ 70368744177664 := hb
  have hrc := (Sr.mk b 0).row_count
  have m0 := row_meets (Sr.mk b 0) hs
  have l0 := (Sr.mk b 0).row_len
  generalize (Sr.mk b 0).row = x at m0 l0 hrc ⊢
  obtain ⟨v0, t⟩ := x
  dsimp only at m0 l0 hrc ⊢
  intro hx
  have hrc : v0.length ≤ 16 := hrc
  refine fits_codec_ReadRecord.meets rfl (by simp) fun Q hQ => ?_
  (conv => whnf); repeat' (first | (refine And.intro ?_ ?_; (focus (exact zq3)); (conv => whnf)) | (refine onB_intro (fun hb => ?_) (fun hb => ?_) <;> (try simp only [decide_eq_true_eq, decide_eq_false_iff_not, Bool.not_eq_true', Bool.not_eq_false', Bool.and_eq_true, Bool.and_eq_false_iff, Int.not_le, Int.not_lt, bsz, ByteArray.toList_eq, beq_iff_eq, beq_eq_false_iff_ne, ne_eq] at hb) <;> (try (exfalso; omega)) <;> (try (exfalso; first | contradiction | (simp [ByteArray.toList_eq] at hb; done))) <;> (conv => whnf)) | (refine (hQ _ _ _ ?_).1; (conv => whnf)) | (refine ⟨_, rfl, ?_⟩; (conv => whnf)) | (refine ⟨_, mp_cut _ _ _, ?_⟩; (conv => whnf)) | (refine ⟨_, dbs_cut _ _ _, ?_⟩; (conv => whnf)) | (refine ⟨[_], rfl, ?_⟩; (conv => whnf)) | (refine ⟨[_, _], rfl, ?_⟩; (conv => whnf)) | (refine ⟨[_, _, _], rfl, ?_⟩; (conv => whnf)) | (refine ⟨[_, _, _, _], rfl, ?_⟩; (conv => whnf)) | (apply call_obj (m0) (fun F => by first | exact rfl | exact bob_ren F _ | exact ob_ren F _ _) (fun F => by first | exact rfl | exact bob_ren F _ | exact ob_ren F _ _); (focus (exact zq0)); (focus (exact zq2)); (conv => whnf)) | fail)
  refine loop_fam (fun i : Nat × List Int × Sr => ⟨[(2, .c (.ptr 0 0)), (5, .c (.ptr 1 0)), (6, .c (.ptr 2 0)), (7, vi i.1)], [(0, ⟨T_api_Record, [PV.v (.slice none 0 0), .v (.slice none 0 0), pi 0].map DV.p⟩), (1, sob i.2.2), (2, ⟨T_api_Record, [dvals v0, .ref 3 0 i.2.1.length 1, di 0]⟩), (3, ⟨3, (i.2.1.map pi).map DV.p⟩)], 4⟩) (fun i => v0.length - i.1)
    (fun i => i.1 ≤ v0.length ∧ i.2.2.b.length ≤ t.b.length ∧ i.2.1.length = i.1 ∧ (i.2.1 ++ (many Sr.int (v0.length - i.1) i.2.2).1, (many Sr.int (v0.length - i.1) i.2.2).2) = many Sr.int v0.length t) (0, [], t)
    ((Wk.adoptIn 3 1 1 3 (o := ⟨T_api_Record, [dvals v0, .p (.v (.slice none 0 0)), di 0]⟩) rfl rfl).trans (wkn [(0, 0), (1, 1), (2, 3), (3, 4)] rfl rfl (by repeat' (first | exact trivial | exact Sub.refl _ | refine And.intro ?_ ?_)) ⟨rfl, rfl, rfl, rfl, trivial⟩)) ⟨Nat.zero_le _, Nat.le_refl _, rfl, by simp⟩ ?_
  rintro ⟨k, acc, s⟩ ⟨hk, hsl, hal, hmany⟩ K hK
  dsimp only at hk hsl hal hmany
  have hl1 : t.b.length ≤ b.length := l0
  have hxl : ((acc.map pi).map DV.p).length = acc.length * 1 := by simp
  have m1 := number_meets s (by show s.b.length ≤ _; omega)
  have g1 := s.int_len
  by_cases hgo : k < v0.length ∧ s.e = 0
  · obtain ⟨hkn, hse⟩ := hgo
    have hm1 : many Sr.int (v0.length - k) s = ((Sr.int s).1 :: (many Sr.int (v0.length - (k + 1)) (Sr.int s).2).1, (many Sr.int (v0.length - (k + 1)) (Sr.int s).2).2) := by
      rw [show v0.length - k = (v0.length - (k + 1)) + 1 by omega, many, if_pos hse]
    rw [hm1] at hmany
    generalize s.int = x1 at m1 g1 hmany
    obtain ⟨v1, u1⟩ := x1
    dsimp only at m1 g1 hmany
    (conv => whnf); repeat' (first | (refine And.intro ?_ ?_; (focus (exact zq3)); (conv => whnf)) | (refine onB_intro (fun hb => ?_) (fun hb => ?_) <;> (try simp only [decide_eq_true_eq, decide_eq_false_iff_not, Bool.not_eq_true', Bool.not_eq_false', Bool.and_eq_true, Bool.and_eq_false_iff, Int.not_le, Int.not_lt, bsz, ByteArray.toList_eq, beq_iff_eq, beq_eq_false_iff_ne, ne_eq] at hb) <;> (try (exfalso; omega)) <;> (try (exfalso; first | contradiction | (simp [ByteArray.toList_eq] at hb; done))) <;> (conv => whnf)) | (refine (hQ _ _ _ ?_).1; (conv => whnf)) | (refine ⟨_, rfl, ?_⟩; (conv => whnf)) | (refine ⟨_, mp_cut _ _ _, ?_⟩; (conv => whnf)) | (refine ⟨_, dbs_cut _ _ _, ?_⟩; (conv => whnf)) | (refine ⟨[_], rfl, ?_⟩; (conv => whnf)) | (refine ⟨[_, _], rfl, ?_⟩; (conv => whnf)) | (refine ⟨[_, _, _], rfl, ?_⟩; (conv => whnf)) | (refine ⟨[_, _, _, _], rfl, ?_⟩; (conv => whnf)) | (apply call_obj (m1) (fun F => by first | exact rfl | exact bob_ren F _ | exact ob_ren F _ _) (fun F => by first | exact rfl | exact bob_ren F _ | exact ob_ren F _ _); (focus (exact zq0)); (focus (exact zq2)); (conv => whnf)) | fail)
    refine hK _ _ _ (k + 1, acc ++ [v1], u1) ⟨by dsimp only; omega, by dsimp only; omega, by simp [hal], by dsimp only; rw [← hmany, List.append_assoc]; rfl⟩ (by dsimp only; omega) (wkn [(0, 0), (1, 1), (2, 2), (3, 5)] rfl rfl (by repeat' (first | exact trivial | exact Sub.refl _ | exact sub_int (by dsimp only; omega) | refine And.intro ?_ ?_)) ⟨rfl, rfl, ?_, hp_pure rfl (map_pi_snoc acc v1), trivial⟩)
    show some (Ob.mk T_api_Record [dvals v0, .ref 5 0 (acc.length + 1) 1, di 0]) = some (Ob.mk T_api_Record [dvals v0, .ref 5 0 (acc ++ [v1]).length 1, di 0])
    rw [List.length_append]; rfl
  · have hm1 : many Sr.int (v0.length - k) s = ([], s) := by
      cases hq : v0.length - k with
      | zero => rfl
      | succ q => rw [many, if_neg (fun h => hgo ⟨by omega, h⟩)]
    rw [hm1] at hmany
    have hmany : (acc, s) = many Sr.int v0.length t := by rw [← hmany]; simp
    rw [← hmany] at hx
    dsimp only at hx
    generalize s.int = x1 at m1 g1 hx
    obtain ⟨v1, u1⟩ := x1
    dsimp only at m1 g1 hx
    cases hx
    by_cases he : z.e = 0
    · rw [if_pos he] at hQ
      dsimp only at hQ
      rcases Nat.lt_or_ge k v0.length with hkn | hkn
      · have hse : ¬ s.e = 0 := fun h => hgo ⟨hkn, h⟩
        (conv => whnf); repeat' (first | (refine And.intro ?_ ?_; (focus (exact zq3)); (conv => whnf)) | (refine onB_intro (fun hb => ?_) (fun hb => ?_) <;> (try simp only [decide_eq_true_eq, decide_eq_false_iff_not, Bool.not_eq_true', Bool.not_eq_false', Bool.and_eq_true, Bool.and_eq_false_iff, Int.not_le, Int.not_lt, bsz, ByteArray.toList_eq, beq_iff_eq, beq_eq_false_iff_ne, ne_eq] at hb) <;> (try (exfalso; omega)) <;> (try (exfalso; first | contradiction | (simp [ByteArray.toList_eq] at hb; done))) <;> (conv => whnf)) | (refine (hQ _ _ _ ?_).1; (conv => whnf)) | (refine ⟨_, rfl, ?_⟩; (conv => whnf)) | (refine ⟨_, mp_cut _ _ _, ?_⟩; (conv => whnf)) | (refine ⟨_, dbs_cut _ _ _, ?_⟩; (conv => whnf)) | (refine ⟨[_], rfl, ?_⟩; (conv => whnf)) | (refine ⟨[_, _], rfl, ?_⟩; (conv => whnf)) | (refine ⟨[_, _, _], rfl, ?_⟩; (conv => whnf)) | (refine ⟨[_, _, _, _], rfl, ?_⟩; (conv => whnf)) | (apply call_obj (m1) (fun F => by first | exact rfl | exact bob_ren F _ | exact ob_ren F _ _) (fun F => by first | exact rfl | exact bob_ren F _ | exact ob_ren F _ _); (focus (exact zq0)); (focus (exact zq2)); (conv => whnf)) | (apply call_obj (rest_meets z (by omega)) (fun F => by first | exact rfl | exact bob_ren F _ | exact ob_ren F _ _) (fun F => by first | exact rfl | exact bob_ren F _ | exact ob_ren F _ _); (focus (exact zq0)); (focus (exact zq2)); (conv => whnf)) | fail)
        all_goals (refine RetOk.freeze 3 3 (acc.map pi) (hp_eq rfl rfl) (RetOk.pure' (fun f => rfl) ?_); refine sub_tup ⟨sub_agg_eq ?_, Sub.refl _, Sub.refl _, trivial⟩; exact (congrArg (fun x => [dvals v0, x, di v1]) (sub_ints acc)))
      · (conv => whnf); repeat' (first | (refine And.intro ?_ ?_; (focus (exact zq3)); (conv => whnf)) | (refine onB_intro (fun hb => ?_) (fun hb => ?_) <;> (try simp only [decide_eq_true_eq, decide_eq_false_iff_not, Bool.not_eq_true', Bool.not_eq_false', Bool.and_eq_true, Bool.and_eq_false_iff, Int.not_le, Int.not_lt, bsz, ByteArray.toList_eq, beq_iff_eq, beq_eq_false_iff_ne, ne_eq] at hb) <;> (try (exfalso; omega)) <;> (try (exfalso; first | contradiction | (simp [ByteArray.toList_eq] at hb; done))) <;> (conv => whnf)) | (refine (hQ _ _ _ ?_).1; (conv => whnf)) | (refine ⟨_, rfl, ?_⟩; (conv => whnf)) | (refine ⟨_, mp_cut _ _ _, ?_⟩; (conv => whnf)) | (refine ⟨_, dbs_cut _ _ _, ?_⟩; (conv => whnf)) | (refine ⟨[_], rfl, ?_⟩; (conv => whnf)) | (refine ⟨[_, _], rfl, ?_⟩; (conv => whnf)) | (refine ⟨[_, _, _], rfl, ?_⟩; (conv => whnf)) | (refine ⟨[_, _, _, _], rfl, ?_⟩; (conv => whnf)) | (apply call_obj (m1) (fun F => by first | exact rfl | exact bob_ren F _ | exact ob_ren F _ _) (fun F => by first | exact rfl | exact bob_ren F _ | exact ob_ren F _ _); (focus (exact zq0)); (focus (exact zq2)); (conv => whnf)) | (apply call_obj (rest_meets z (by omega)) (fun F => by first | exact rfl | exact bob_ren F _ | exact ob_ren F _ _) (fun F => by first | exact rfl | exact bob_ren F _ | exact ob_ren F _ _); (focus (exact zq0)); (focus (exact zq2)); (conv => whnf)) | fail)
        all_goals (refine RetOk.freeze 3 3 (acc.map pi) (hp_eq rfl rfl) (RetOk.pure' (fun f => rfl) ?_); refine sub_tup ⟨sub_agg_eq ?_, Sub.refl _, Sub.refl _, trivial⟩; exact (congrArg (fun x => [dvals v0, x, di v1]) (sub_ints acc)))
    · rw [if_neg he] at hQ
      dsimp only at hQ
      rcases Nat.lt_or_ge k v0.length with hkn | hkn
      · have hse : ¬ s.e = 0 := fun h => hgo ⟨hkn, h⟩
        (conv => whnf); repeat' (first | (refine And.intro ?_ ?_; (focus (exact zq3)); (conv => whnf)) | (refine onB_intro (fun hb => ?_) (fun hb => ?_) <;> (try simp only [decide_eq_true_eq, decide_eq_false_iff_not, Bool.not_eq_true', Bool.not_eq_false', Bool.and_eq_true, Bool.and_eq_false_iff, Int.not_le, Int.not_lt, bsz, ByteArray.toList_eq, beq_iff_eq, beq_eq_false_iff_ne, ne_eq] at hb) <;> (try (exfalso; omega)) <;> (try (exfalso; first | contradiction | (simp [ByteArray.toList_eq] at hb; done))) <;> (conv => whnf)) | (refine (hQ _ _ _ ?_).1; (conv => whnf)) | (refine ⟨_, rfl, ?_⟩; (conv => whnf)) | (refine ⟨_, mp_cut _ _ _, ?_⟩; (conv => whnf)) | (refine ⟨_, dbs_cut _ _ _, ?_⟩; (conv => whnf)) | (refine ⟨[_], rfl, ?_⟩; (conv => whnf)) | (refine ⟨[_, _], rfl, ?_⟩; (conv => whnf)) | (refine ⟨[_, _, _], rfl, ?_⟩; (conv => whnf)) | (refine ⟨[_, _, _, _], rfl, ?_⟩; (conv => whnf)) | (apply call_obj (m1) (fun F => by first | exact rfl | exact bob_ren F _ | exact ob_ren F _ _) (fun F => by first | exact rfl | exact bob_ren F _ | exact ob_ren F _ _); (focus (exact zq0)); (focus (exact zq2)); (conv => whnf)) | fail)
        all_goals (refine RetOk.pure' (fun f => rfl) ?_; (exact zq0))
      · (conv => whnf); repeat' (first | (refine And.intro ?_ ?_; (focus (exact zq3)); (conv => whnf)) | (refine onB_intro (fun hb => ?_) (fun hb => ?_) <;> (try simp only [decide_eq_true_eq, decide_eq_false_iff_not, Bool.not_eq_true', Bool.not_eq_false', Bool.and_eq_true, Bool.and_eq_false_iff, Int.not_le, Int.not_lt, bsz, ByteArray.toList_eq, beq_iff_eq, beq_eq_false_iff_ne, ne_eq] at hb) <;> (try (exfalso; omega)) <;> (try (exfalso; first | contradiction | (simp [ByteArray.toList_eq] at hb; done))) <;> (conv => whnf)) | (refine (hQ _ _ _ ?_).1; (conv => whnf)) | (refine ⟨_, rfl, ?_⟩; (conv => whnf)) | (refine ⟨_, mp_cut _ _ _, ?_⟩; (conv => whnf)) | (refine ⟨_, dbs_cut _ _ _, ?_⟩; (conv => whnf)) | (refine ⟨[_], rfl, ?_⟩; (conv => whnf)) | (refine ⟨[_, _], rfl, ?_⟩; (conv => whnf)) | (refine ⟨[_, _, _], rfl, ?_⟩; (conv => whnf)) | (refine ⟨[_, _, _, _], rfl, ?_⟩; (conv => whnf)) | (apply call_obj (m1) (fun F => by first | exact rfl | exact bob_ren F _ | exact ob_ren F _ _) (fun F => by first | exact rfl | exact bob_ren F _ | exact ob_ren F _ _); (focus (exact zq0)); (focus (exact zq2)); (conv => whnf)) | fail)
        all_goals (refine RetOk.pure' (fun f => rfl) ?_; (exact zq0))
end Go.Proofs.Ytjieenfbfckafaa.Am

/- What the claim of CodecReads reaches, part 2. -/
import Derived.Test.YtjieenfbfckafaaWCodecReads1
namespace Go.Proofs.Ytjieenfbfckafaa.Am
open Go
set_option linter.unusedVariables false
set_option linter.unusedSimpArgs false
set_option maxRecDepth 100000
set_option maxHeartbeats 1000000
/-- erasureref26.Reader.Value -/
theorem rValue_meets (s : Sr) (hs : s.b.length ≤ 70368744177664) : Meets Try.prog F_erasureref26Reader_Value ⟨[.c (.ptr 0 0)], [(0, rob s)], 1, .agg s.value.1.enc, [(0, rob s.value.2)], 1⟩ := by
  have hr := s.count_range 2 (by omega)
  unfold Sr.value
  dsimp only
  have m1 := rcount_meets 2 s (by show s.b.length ≤ _; omega)
  have l1 := s.count_len 2
  generalize s.count 2 = x at m1 l1 hr ⊢
  obtain ⟨n, t⟩ := x
  dsimp only at m1 l1 hr ⊢
  have ht : t.ok := by show t.b.length ≤ _; omega
  by_cases h1 : n = 1
  · subst h1
    rw [if_pos rfl]
    have m2 := rInt_meets t ht
    have l2 := t.int_len
    generalize t.int = x at m2 l2 ⊢
    obtain ⟨v, u⟩ := x
    dsimp only at m2 l2 ⊢
    by_cases hv : v < -4294967296 ∨ 4294967296 < v
    · rw [if_pos hv]
      have m3 := rfail_meets' u 1
      generalize u.fail 1 = w at m3 ⊢
      refine fits_erasureref26Reader_Value.meets rfl (by simp) fun Q hQ => ?_
      (conv => whnf); repeat' (first | (refine And.intro ?_ ?_; (focus (exact zq3)); (conv => whnf)) | (refine onB_intro (fun hb => ?_) (fun hb => ?_) <;> (try simp only [decide_eq_true_eq, decide_eq_false_iff_not, Bool.not_eq_true', Bool.not_eq_false', Bool.and_eq_true, Bool.and_eq_false_iff, Int.not_le, Int.not_lt, bsz, ByteArray.toList_eq, beq_iff_eq, beq_eq_false_iff_ne, ne_eq] at hb) <;> (try (exfalso; omega)) <;> (try (exfalso; first | contradiction | (simp [ByteArray.toList_eq] at hb; done))) <;> (conv => whnf)) | (refine (hQ _ _ _ ?_).1; (conv => whnf)) | (refine ⟨_, rfl, ?_⟩; (conv => whnf)) | (refine ⟨_, mp_cut _ _ _, ?_⟩; (conv => whnf)) | (refine ⟨_, dbs_cut _ _ _, ?_⟩; (conv => whnf)) | (refine ⟨[_], rfl, ?_⟩; (conv => whnf)) | (refine ⟨[_, _], rfl, ?_⟩; (conv => whnf)) | (refine ⟨[_, _, _], rfl, ?_⟩; (conv => whnf)) | (refine ⟨[_, _, _, _], rfl, ?_⟩; (conv => whnf)) | (apply call_obj (m1) (fun F => by first | exact rfl | exact bob_ren F _ | exact ob_ren F _ _) (fun F => by first | exact rfl | exact bob_ren F _ | exact ob_ren F _ _); (focus (exact zq0)); (focus (exact zq2)); (conv => whnf)) | (apply call_obj (m2) (fun F => by first | exact rfl | exact bob_ren F _ | exact ob_ren F _ _) (fun F => by first | exact rfl | exact bob_ren F _ | exact ob_ren F _ _); (focus (exact zq0)); (focus (exact zq2)); (conv => whnf)) | (apply call_obj (m3) (fun F => by first | exact rfl | exact bob_ren F _ | exact ob_ren F _ _) (fun F => by first | exact rfl | exact bob_ren F _ | exact ob_ren F _ _); (focus (exact zq0)); (focus (exact zq2)); (conv => whnf)) | fail)
      all_goals (refine ret_obj rfl ?_ rfl ?_ (fun F => by first | exact rfl | (simp only [TV.rens, TV.ren, dbs_ren]; rfl) | (simp [TV.rens, TV.ren, dbs_ren, map_ren_p]; done)) (fun F => by first | exact rfl | exact bob_ren F _ | exact ob_ren F _ _); (focus (exact zq0)); (first | rfl | (refine ob2_eq ?_ ?_ <;> (first | rfl | assumption | (simp only [*]; done) | (refine dv_val ?_ ?_ <;> (first | rfl | omega | (simp [pb, List.map_take, List.map_drop, List.take_of_length_le]; done) | (simp [pb, List.map_take, List.map_drop]; omega)))))))
    · rw [if_neg hv]
      refine fits_erasureref26Reader_Value.meets rfl (by simp) fun Q hQ => ?_
      (conv => whnf); repeat' (first | (refine And.intro ?_ ?_; (focus (exact zq3)); (conv => whnf)) | (refine onB_intro (fun hb => ?_) (fun hb => ?_) <;> (try simp only [decide_eq_true_eq, decide_eq_false_iff_not, Bool.not_eq_true', Bool.not_eq_false', Bool.and_eq_true, Bool.and_eq_false_iff, Int.not_le, Int.not_lt, bsz, ByteArray.toList_eq, beq_iff_eq, beq_eq_false_iff_ne, ne_eq] at hb) <;> (try (exfalso; omega)) <;> (try (exfalso; first | contradiction | (simp [ByteArray.toList_eq] at hb; done))) <;> (conv => whnf)) | (refine (hQ _ _ _ ?_).1; (conv => whnf)) | (refine ⟨_, rfl, ?_⟩; (conv => whnf)) | (refine ⟨_, mp_cut _ _ _, ?_⟩; (conv => whnf)) | (refine ⟨_, dbs_cut _ _ _, ?_⟩; (conv => whnf)) | (refine ⟨[_], rfl, ?_⟩; (conv => whnf)) | (refine ⟨[_, _], rfl, ?_⟩; (conv => whnf)) | (refine ⟨[_, _, _], rfl, ?_⟩; (conv => whnf)) | (refine ⟨[_, _, _, _], rfl, ?_⟩; (conv => whnf)) | (apply call_obj (m1) (fun F => by first | exact rfl | exact bob_ren F _ | exact ob_ren F _ _) (fun F => by first | exact rfl | exact bob_ren F _ | exact ob_ren F _ _); (focus (exact zq0)); (focus (exact zq2)); (conv => whnf)) | (apply call_obj (m2) (fun F => by first | exact rfl | exact bob_ren F _ | exact ob_ren F _ _) (fun F => by first | exact rfl | exact bob_ren F _ | exact ob_ren F _ _); (focus (exact zq0)); (focus (exact zq2)); (conv => whnf)) | fail)
      all_goals (refine ret_obj rfl ?_ rfl ?_ (fun F => by first | exact rfl | (simp only [TV.rens, TV.ren, dbs_ren]; rfl) | (simp [TV.rens, TV.ren, dbs_ren, map_ren_p]; done)) (fun F => by first | exact rfl | exact bob_ren F _ | exact ob_ren F _ _); (focus (exact zq0)); (first | rfl | (refine ob2_eq ?_ ?_ <;> (first | rfl | assumption | (simp only [*]; done) | (refine dv_val ?_ ?_ <;> (first | rfl | omega | (simp [pb, List.map_take, List.map_drop, List.take_of_length_le]; done) | (simp [pb, List.map_take, List.map_drop]; omega)))))))
  · rw [if_neg h1]
    by_cases h2 : n = 2
    · subst h2
      rw [if_pos rfl]
      have m2 := rText_meets 32 t (by omega)
      have l2 := t.text_len 32
      generalize t.text 32 = x at m2 l2 ⊢
      obtain ⟨v, u⟩ := x
      dsimp only at m2 l2 ⊢
      refine fits_erasureref26Reader_Value.meets rfl (by simp) fun Q hQ => ?_
      (conv => whnf); repeat' (first | (refine And.intro ?_ ?_; (focus (exact zq3)); (conv => whnf)) | (refine onB_intro (fun hb => ?_) (fun hb => ?_) <;> (try simp only [decide_eq_true_eq, decide_eq_false_iff_not, Bool.not_eq_true', Bool.not_eq_false', Bool.and_eq_true, Bool.and_eq_false_iff, Int.not_le, Int.not_lt, bsz, ByteArray.toList_eq, beq_iff_eq, beq_eq_false_iff_ne, ne_eq] at hb) <;> (try (exfalso; omega)) <;> (try (exfalso; first | contradiction | (simp [ByteArray.toList_eq] at hb; done))) <;> (conv => whnf)) | (refine (hQ _ _ _ ?_).1; (conv => whnf)) | (refine ⟨_, rfl, ?_⟩; (conv => whnf)) | (refine ⟨_, mp_cut _ _ _, ?_⟩; (conv => whnf)) | (refine ⟨_, dbs_cut _ _ _, ?_⟩; (conv => whnf)) | (refine ⟨[_], rfl, ?_⟩; (conv => whnf)) | (refine ⟨[_, _], rfl, ?_⟩; (conv => whnf)) | (refine ⟨[_, _, _], rfl, ?_⟩; (conv => whnf)) | (refine ⟨[_, _, _, _], rfl, ?_⟩; (conv => whnf)) | (apply call_obj (m1) (fun F => by first | exact rfl | exact bob_ren F _ | exact ob_ren F _ _) (fun F => by first | exact rfl | exact bob_ren F _ | exact ob_ren F _ _); (focus (exact zq0)); (focus (exact zq2)); (conv => whnf)) | (apply call_obj (m2) (fun F => by first | exact rfl | exact bob_ren F _ | exact ob_ren F _ _) (fun F => by first | exact rfl | exact bob_ren F _ | exact ob_ren F _ _); (focus (exact zq0)); (focus (exact zq2)); (conv => whnf)) | fail)
      all_goals (refine ret_obj rfl ?_ rfl ?_ (fun F => by first | exact rfl | (simp only [TV.rens, TV.ren, dbs_ren]; rfl) | (simp [TV.rens, TV.ren, dbs_ren, map_ren_p]; done)) (fun F => by first | exact rfl | exact bob_ren F _ | exact ob_ren F _ _); (focus (exact zq0)); (first | rfl | (refine ob2_eq ?_ ?_ <;> (first | rfl | assumption | (simp only [*]; done) | (refine dv_val ?_ ?_ <;> (first | rfl | omega | (simp [pb, List.map_take, List.map_drop, List.take_of_length_le]; done) | (simp [pb, List.map_take, List.map_drop]; omega)))))))
    · rw [if_neg h2]
      have h0 : n = 0 := by omega
      subst h0
      refine fits_erasureref26Reader_Value.meets rfl (by simp) fun Q hQ => ?_
      (conv => whnf); repeat' (first | (refine And.intro ?_ ?_; (focus (exact zq3)); (conv => whnf)) | (refine onB_intro (fun hb => ?_) (fun hb => ?_) <;> (try simp only [decide_eq_true_eq, decide_eq_false_iff_not, Bool.not_eq_true', Bool.not_eq_false', Bool.and_eq_true, Bool.and_eq_false_iff, Int.not_le, Int.not_lt, bsz, ByteArray.toList_eq, beq_iff_eq, beq_eq_false_iff_ne, ne_eq] at hb) <;> (try (exfalso; omega)) <;> (try (exfalso; first | contradiction | (simp [ByteArray.toList_eq] at hb; done))) <;> (conv => whnf)) | (refine (hQ _ _ _ ?_).1; (conv => whnf)) | (refine ⟨_, rfl, ?_⟩; (conv => whnf)) | (refine ⟨_, mp_cut _ _ _, ?_⟩; (conv => whnf)) | (refine ⟨_, dbs_cut _ _ _, ?_⟩; (conv => whnf)) | (refine ⟨[_], rfl, ?_⟩; (conv => whnf)) | (refine ⟨[_, _], rfl, ?_⟩; (conv => whnf)) | (refine ⟨[_, _, _], rfl, ?_⟩; (conv => whnf)) | (refine ⟨[_, _, _, _], rfl, ?_⟩; (conv => whnf)) | (apply call_obj (m1) (fun F => by first | exact rfl | exact bob_ren F _ | exact ob_ren F _ _) (fun F => by first | exact rfl | exact bob_ren F _ | exact ob_ren F _ _); (focus (exact zq0)); (focus (exact zq2)); (conv => whnf)) | fail)
      all_goals (refine ret_obj rfl ?_ rfl ?_ (fun F => by first | exact rfl | (simp only [TV.rens, TV.ren, dbs_ren]; rfl) | (simp [TV.rens, TV.ren, dbs_ren, map_ren_p]; done)) (fun F => by first | exact rfl | exact bob_ren F _ | exact ob_ren F _ _); (focus (exact zq0)); (first | rfl | (refine ob2_eq ?_ ?_ <;> (first | rfl | assumption | (simp only [*]; done) | (refine dv_val ?_ ?_ <;> (first | rfl | omega | (simp [pb, List.map_take, List.map_drop, List.take_of_length_le]; done) | (simp [pb, List.map_take, List.map_drop]; omega)))))))
/-- codec.source.row -/
theorem row_meets (s : Sr) (hs : s.b.length ≤ 70368744177664) : Meets Try.prog F_codec_source_row ⟨[.c (.ptr 0 0)], [(0, sob s)], 1, .c (dvals s.row.1), [(0, sob s.row.2)], 1⟩ := by
  have hr := s.count_range 16 (by omega)
  unfold Sr.row Sr.list
  dsimp only
  have m1 := count_meets 16 s (by show s.b.length ≤ _; omega)
  have l1 := s.count_len 16
  generalize s.count 16 = x at m1 l1 hr ⊢
  obtain ⟨c, t⟩ := x
  dsimp only at m1 l1 hr ⊢
  obtain ⟨n, rfl⟩ := Int.eq_ofNat_of_zero_le hr.1
  rw [Int.toNat_natCast]
  refine fits_codec_source_row.meets rfl (by simp) fun Q hQ => ?_
  (conv => whnf); repeat' (first | (refine And.intro ?_ ?_; (focus (exact zq3)); (conv => whnf)) | (refine onB_intro (fun hb => ?_) (fun hb => ?_) <;> (try simp only [decide_eq_true_eq, decide_eq_false_iff_not, Bool.not_eq_true', Bool.not_eq_false', Bool.and_eq_true, Bool.and_eq_false_iff, Int.not_le, Int.not_lt, bsz, ByteArray.toList_eq, beq_iff_eq, beq_eq_false_iff_ne, ne_eq] at hb) <;> (try (exfalso; omega)) <;> (try (exfalso; first | contradiction | (simp [ByteArray.toList_eq] at hb; done))) <;> (conv => whnf)) | (refine (hQ _ _ _ ?_).1; (conv => whnf)) | (refine ⟨_, rfl, ?_⟩; (conv => whnf)) | (refine ⟨_, mp_cut _ _ _, ?_⟩; (conv => whnf)) | (refine ⟨_, dbs_cut _ _ _, ?_⟩; (conv => whnf)) | (refine ⟨[_], rfl, ?_⟩; (conv => whnf)) | (refine ⟨[_, _], rfl, ?_⟩; (conv => whnf)) | (refine ⟨[_, _, _], rfl, ?_⟩; (conv => whnf)) | (refine ⟨[_, _, _, _], rfl, ?_⟩; (conv => whnf)) | (apply call_obj (m1) (fun F => by first | exact rfl | exact bob_ren F _ | exact ob_ren F _ _) (fun F => by first | exact rfl | exact bob_ren F _ | exact ob_ren F _ _); (focus (exact zq0)); (focus (exact zq2)); (conv => whnf)) | fail)
  refine loop_fam (fun i : Nat × List Val × Sr => ⟨[(0, .c (.ptr 0 0)), (3, vi n), (4, .c (.ref 1 0 i.2.1.length 3)), (5, vi i.1)], [(0, sob i.2.2), (1, ⟨T_api_Value, (i.2.1.flatMap Val.pv).map DV.p⟩)], 2⟩) (fun i => n - i.1)
    (fun i => i.1 ≤ n ∧ i.2.2.b.length ≤ t.b.length ∧ i.2.1.length = i.1 ∧ (i.2.1 ++ (many Sr.value (n - i.1) i.2.2).1, (many Sr.value (n - i.1) i.2.2).2) = many Sr.value n t) (0, [], t)
    ((Wk.adopt 4 3 T_api_Value rfl).trans (wkn [(1, 2)] rfl rfl (by repeat' (first | exact trivial | exact Sub.refl _ | refine And.intro ?_ ?_)) ⟨rfl, hp_pure rfl rfl, trivial⟩)) ⟨Nat.zero_le _, Nat.le_refl _, rfl, by simp⟩ ?_
  rintro ⟨k, acc, s⟩ ⟨hk, hsl, hal, hmany⟩ K hK
  dsimp only at hk hsl hal hmany
  by_cases hgo : k < n ∧ s.e = 0
  · obtain ⟨hkn, hse⟩ := hgo
    have hsok : s.ok := by show s.b.length ≤ _; omega
    have hxl : ((acc.flatMap Val.pv).map DV.p).length = acc.length * 3 := by rw [List.length_map, flat_len Val.len]
    have hm1 : many Sr.value (n - k) s = ((Sr.value s).1 :: (many Sr.value (n - (k + 1)) (Sr.value s).2).1, (many Sr.value (n - (k + 1)) (Sr.value s).2).2) := by
      rw [show n - k = (n - (k + 1)) + 1 by omega, many, if_pos hse]
    rw [hm1] at hmany
    have hfl := Sr.value_len s
    have m := value_meets s hsok; generalize Sr.value s = x at m hmany hfl; obtain ⟨v, u⟩ := x; dsimp only at m hmany hfl
    (conv => whnf); repeat' (first | (refine And.intro ?_ ?_; (focus (exact zq3)); (conv => whnf)) | (refine onB_intro (fun hb => ?_) (fun hb => ?_) <;> (try simp only [decide_eq_true_eq, decide_eq_false_iff_not, Bool.not_eq_true', Bool.not_eq_false', Bool.and_eq_true, Bool.and_eq_false_iff, Int.not_le, Int.not_lt, bsz, ByteArray.toList_eq, beq_iff_eq, beq_eq_false_iff_ne, ne_eq] at hb) <;> (try (exfalso; omega)) <;> (try (exfalso; first | contradiction | (simp [ByteArray.toList_eq] at hb; done))) <;> (conv => whnf)) | (refine (hQ _ _ _ ?_).1; (conv => whnf)) | (refine ⟨_, rfl, ?_⟩; (conv => whnf)) | (refine ⟨_, mp_cut _ _ _, ?_⟩; (conv => whnf)) | (refine ⟨_, dbs_cut _ _ _, ?_⟩; (conv => whnf)) | (refine ⟨[_], rfl, ?_⟩; (conv => whnf)) | (refine ⟨[_, _], rfl, ?_⟩; (conv => whnf)) | (refine ⟨[_, _, _], rfl, ?_⟩; (conv => whnf)) | (refine ⟨[_, _, _, _], rfl, ?_⟩; (conv => whnf)) | (apply call_obj (m) (fun F => by first | exact rfl | exact bob_ren F _ | exact ob_ren F _ _) (fun F => by first | exact rfl | exact bob_ren F _ | exact ob_ren F _ _); (focus (exact zq0)); (focus (exact zq2)); (conv => whnf)) | fail)
    refine hK _ _ _ (k + 1, acc ++ [v], u) ⟨by dsimp only; omega, by dsimp only; omega, by simp [hal], by dsimp only; rw [← hmany, List.append_assoc]; rfl⟩ (by dsimp only; omega) (wkn [(1, 3)] rfl rfl (by repeat' (first | exact trivial | exact Sub.refl _ | exact sub_ref (by simp) | exact sub_int (by dsimp only; omega) | refine And.intro ?_ ?_)) ⟨rfl, hp_pure rfl (cells_snoc Val.len acc v), trivial⟩)
  · have hm1 : many Sr.value (n - k) s = ([], s) := by
      cases hq : n - k with
      | zero => rfl
      | succ q => rw [many, if_neg (fun h => hgo ⟨by omega, h⟩)]
    rw [hm1] at hmany
    have hmany : (acc, s) = many Sr.value n t := by rw [← hmany]; simp
    rw [← hmany] at hQ
    rcases Nat.lt_or_ge k n with hkn | hkn
    · have hse : ¬ s.e = 0 := fun h => hgo ⟨hkn, h⟩
      (conv => whnf); repeat' (first | (refine And.intro ?_ ?_; (focus (exact zq3)); (conv => whnf)) | (refine onB_intro (fun hb => ?_) (fun hb => ?_) <;> (try simp only [decide_eq_true_eq, decide_eq_false_iff_not, Bool.not_eq_true', Bool.not_eq_false', Bool.and_eq_true, Bool.and_eq_false_iff, Int.not_le, Int.not_lt, bsz, ByteArray.toList_eq, beq_iff_eq, beq_eq_false_iff_ne, ne_eq] at hb) <;> (try (exfalso; omega)) <;> (try (exfalso; first | contradiction | (simp [ByteArray.toList_eq] at hb; done))) <;> (conv => whnf)) | (refine (hQ _ _ _ ?_).1; (conv => whnf)) | (refine ⟨_, rfl, ?_⟩; (conv => whnf)) | (refine ⟨_, mp_cut _ _ _, ?_⟩; (conv => whnf)) | (refine ⟨_, dbs_cut _ _ _, ?_⟩; (conv => whnf)) | (refine ⟨[_], rfl, ?_⟩; (conv => whnf)) | (refine ⟨[_, _], rfl, ?_⟩; (conv => whnf)) | (refine ⟨[_, _, _], rfl, ?_⟩; (conv => whnf)) | (refine ⟨[_, _, _, _], rfl, ?_⟩; (conv => whnf)) | fail)
      exact ret_objz (cs := acc.flatMap Val.pv) rfl rfl rfl rfl rfl (sub_slice Val.len acc) rfl (fun F => rfl) (fun F => rfl) (fun id cs => rfl)
    · (conv => whnf); repeat' (first | (refine And.intro ?_ ?_; (focus (exact zq3)); (conv => whnf)) | (refine onB_intro (fun hb => ?_) (fun hb => ?_) <;> (try simp only [decide_eq_true_eq, decide_eq_false_iff_not, Bool.not_eq_true', Bool.not_eq_false', Bool.and_eq_true, Bool.and_eq_false_iff, Int.not_le, Int.not_lt, bsz, ByteArray.toList_eq, beq_iff_eq, beq_eq_false_iff_ne, ne_eq] at hb) <;> (try (exfalso; omega)) <;> (try (exfalso; first | contradiction | (simp [ByteArray.toList_eq] at hb; done))) <;> (conv => whnf)) | (refine (hQ _ _ _ ?_).1; (conv => whnf)) | (refine ⟨_, rfl, ?_⟩; (conv => whnf)) | (refine ⟨_, mp_cut _ _ _, ?_⟩; (conv => whnf)) | (refine ⟨_, dbs_cut _ _ _, ?_⟩; (conv => whnf)) | (refine ⟨[_], rfl, ?_⟩; (conv => whnf)) | (refine ⟨[_, _], rfl, ?_⟩; (conv => whnf)) | (refine ⟨[_, _, _], rfl, ?_⟩; (conv => whnf)) | (refine ⟨[_, _, _, _], rfl, ?_⟩; (conv => whnf)) | fail)
      exact ret_objz (cs := acc.flatMap Val.pv) rfl rfl rfl rfl rfl (sub_slice Val.len acc) rfl (fun F => rfl) (fun F => rfl) (fun id cs => rfl)
/-- erasureref26.Reader.Row -/
theorem rRow_meets (s : Sr) (hs : s.b.length ≤ 70368744177664) : Meets Try.prog F_erasureref26Reader_Row ⟨[.c (.ptr 0 0)], [(0, rob s)], 1, .c (dvals s.row.1), [(0, rob s.row.2)], 1⟩ := by
  have hr := s.count_range 16 (by omega)
  unfold Sr.row Sr.list
  dsimp only
  have m1 := rcount_meets 16 s (by show s.b.length ≤ _; omega)
  have l1 := s.count_len 16
  generalize s.count 16 = x at m1 l1 hr ⊢
  obtain ⟨c, t⟩ := x
  dsimp only at m1 l1 hr ⊢
  obtain ⟨n, rfl⟩ := Int.eq_ofNat_of_zero_le hr.1
  rw [Int.toNat_natCast]
  refine fits_erasureref26Reader_Row.meets rfl (by simp) fun Q hQ => ?_
  (conv => whnf); repeat' (first | (refine And.intro ?_ ?_; (focus (exact zq3)); (conv => whnf)) | (refine onB_intro (fun hb => ?_) (fun hb => ?_) <;> (try simp only [decide_eq_true_eq, decide_eq_false_iff_not, Bool.not_eq_true', Bool.not_eq_false', Bool.and_eq_true, Bool.and_eq_false_iff, Int.not_le, Int.not_lt, bsz, ByteArray.toList_eq, beq_iff_eq, beq_eq_false_iff_ne, ne_eq] at hb) <;> (try (exfalso; omega)) <;> (try (exfalso; first | contradiction | (simp [ByteArray.toList_eq] at hb; done))) <;> (conv => whnf)) | (refine (hQ _ _ _ ?_).1; (conv => whnf)) | (refine ⟨_, rfl, ?_⟩; (conv => whnf)) | (refine ⟨_, mp_cut _ _ _, ?_⟩; (conv => whnf)) | (refine ⟨_, dbs_cut _ _ _, ?_⟩; (conv => whnf)) | (refine ⟨[_], rfl, ?_⟩; (conv => whnf)) | (refine ⟨[_, _], rfl, ?_⟩; (conv => whnf)) | (refine ⟨[_, _, _], rfl, ?_⟩; (conv => whnf)) | (refine ⟨[_, _, _, _], rfl, ?_⟩; (conv => whnf)) | (apply call_obj (m1) (fun F => by first | exact rfl | exact bob_ren F _ | exact ob_ren F _ _) (fun F => by first | exact rfl | exact bob_ren F _ | exact ob_ren F _ _); (focus (exact zq0)); (focus (exact zq2)); (conv => whnf)) | fail)
  refine loop_fam (fun i : Nat × List Val × Sr => ⟨[(0, .c (.ptr 0 0)), (3, .c (.ref 1 0 i.2.1.length 3)), (4, vi n), (5, vi i.1)], [(0, rob i.2.2), (1, ⟨T_api_Value, (i.2.1.flatMap Val.pv).map DV.p⟩)], 2⟩) (fun i => n - i.1)
    (fun i => i.1 ≤ n ∧ i.2.2.b.length ≤ t.b.length ∧ i.2.1.length = i.1 ∧ (i.2.1 ++ (many Sr.value (n - i.1) i.2.2).1, (many Sr.value (n - i.1) i.2.2).2) = many Sr.value n t) (0, [], t)
    ((Wk.adopt 3 3 T_api_Value rfl).trans (wkn [(1, 2)] rfl rfl (by repeat' (first | exact trivial | exact Sub.refl _ | refine And.intro ?_ ?_)) ⟨rfl, hp_pure rfl rfl, trivial⟩)) ⟨Nat.zero_le _, Nat.le_refl _, rfl, by simp⟩ ?_
  rintro ⟨k, acc, s⟩ ⟨hk, hsl, hal, hmany⟩ K hK
  dsimp only at hk hsl hal hmany
  by_cases hgo : k < n ∧ s.e = 0
  · obtain ⟨hkn, hse⟩ := hgo
    have hsok : s.ok := by show s.b.length ≤ _; omega
    have hxl : ((acc.flatMap Val.pv).map DV.p).length = acc.length * 3 := by rw [List.length_map, flat_len Val.len]
    have hm1 : many Sr.value (n - k) s = ((Sr.value s).1 :: (many Sr.value (n - (k + 1)) (Sr.value s).2).1, (many Sr.value (n - (k + 1)) (Sr.value s).2).2) := by
      rw [show n - k = (n - (k + 1)) + 1 by omega, many, if_pos hse]
    rw [hm1] at hmany
    have hfl := Sr.value_len s
    have m := rValue_meets s (by omega); generalize Sr.value s = x at m hmany hfl; obtain ⟨v, u⟩ := x; dsimp only at m hmany hfl
    (conv => whnf); repeat' (first | (refine And.intro ?_ ?_; (focus (exact zq3)); (conv => whnf)) | (refine onB_intro (fun hb => ?_) (fun hb => ?_) <;> (try simp only [decide_eq_true_eq, decide_eq_false_iff_not, Bool.not_eq_true', Bool.not_eq_false', Bool.and_eq_true, Bool.and_eq_false_iff, Int.not_le, Int.not_lt, bsz, ByteArray.toList_eq, beq_iff_eq, beq_eq_false_iff_ne, ne_eq] at hb) <;> (try (exfalso; omega)) <;> (try (exfalso; first | contradiction | (simp [ByteArray.toList_eq] at hb; done))) <;> (conv => whnf)) | (refine (hQ _ _ _ ?_).1; (conv => whnf)) | (refine ⟨_, rfl, ?_⟩; (conv => whnf)) | (refine ⟨_, mp_cut _ _ _, ?_⟩; (conv => whnf)) | (refine ⟨_, dbs_cut _ _ _, ?_⟩; (conv => whnf)) | (refine ⟨[_], rfl, ?_⟩; (conv => whnf)) | (refine ⟨[_, _], rfl, ?_⟩; (conv => whnf)) | (refine ⟨[_, _, _], rfl, ?_⟩; (conv => whnf)) | (refine ⟨[_, _, _, _], rfl, ?_⟩; (conv => whnf)) | (apply call_obj (m) (fun F => by first | exact rfl | exact bob_ren F _ | exact ob_ren F _ _) (fun F => by first | exact rfl | exact bob_ren F _ | exact ob_ren F _ _); (focus (exact zq0)); (focus (exact zq2)); (conv => whnf)) | fail)
    refine hK _ _ _ (k + 1, acc ++ [v], u) ⟨by dsimp only; omega, by dsimp only; omega, by simp [hal], by dsimp only; rw [← hmany, List.append_assoc]; rfl⟩ (by dsimp only; omega) (wkn [(1, 3)] rfl rfl (by repeat' (first | exact trivial | exact Sub.refl _ | exact sub_ref (by simp) | exact sub_int (by dsimp only; omega) | refine And.intro ?_ ?_)) ⟨rfl, hp_pure rfl (cells_snoc Val.len acc v), trivial⟩)
  · have hm1 : many Sr.value (n - k) s = ([], s) := by
      cases hq : n - k with
      | zero => rfl
      | succ q => rw [many, if_neg (fun h => hgo ⟨by omega, h⟩)]
    rw [hm1] at hmany
    have hmany : (acc, s) = many Sr.value n t := by rw [← hmany]; simp
    rw [← hmany] at hQ
    rcases Nat.lt_or_ge k n with hkn | hkn
    · have hse : ¬ s.e = 0 := fun h => hgo ⟨hkn, h⟩
      (conv => whnf); repeat' (first | (refine And.intro ?_ ?_; (focus (exact zq3)); (conv => whnf)) | (refine onB_intro (fun hb => ?_) (fun hb => ?_) <;> (try simp only [decide_eq_true_eq, decide_eq_false_iff_not, Bool.not_eq_true', Bool.not_eq_false', Bool.and_eq_true, Bool.and_eq_false_iff, Int.not_le, Int.not_lt, bsz, ByteArray.toList_eq, beq_iff_eq, beq_eq_false_iff_ne, ne_eq] at hb) <;> (try (exfalso; omega)) <;> (try (exfalso; first | contradiction | (simp [ByteArray.toList_eq] at hb; done))) <;> (conv => whnf)) | (refine (hQ _ _ _ ?_).1; (conv => whnf)) | (refine ⟨_, rfl, ?_⟩; (conv => whnf)) | (refine ⟨_, mp_cut _ _ _, ?_⟩; (conv => whnf)) | (refine ⟨_, dbs_cut _ _ _, ?_⟩; (conv => whnf)) | (refine ⟨[_], rfl, ?_⟩; (conv => whnf)) | (refine ⟨[_, _], rfl, ?_⟩; (conv => whnf)) | (refine ⟨[_, _, _], rfl, ?_⟩; (conv => whnf)) | (refine ⟨[_, _, _, _], rfl, ?_⟩; (conv => whnf)) | fail)
      exact ret_objz (cs := acc.flatMap Val.pv) rfl rfl rfl rfl rfl (sub_slice Val.len acc) rfl (fun F => rfl) (fun F => rfl) (fun id cs => rfl)
    · (conv => whnf); repeat' (first | (refine And.intro ?_ ?_; (focus (exact zq3)); (conv => whnf)) | (refine onB_intro (fun hb => ?_) (fun hb => ?_) <;> (try simp only [decide_eq_true_eq, decide_eq_false_iff_not, Bool.not_eq_true', Bool.not_eq_false', Bool.and_eq_true, Bool.and_eq_false_iff, Int.not_le, Int.not_lt, bsz, ByteArray.toList_eq, beq_iff_eq, beq_eq_false_iff_ne, ne_eq] at hb) <;> (try (exfalso; omega)) <;> (try (exfalso; first | contradiction | (simp [ByteArray.toList_eq] at hb; done))) <;> (conv => whnf)) | (refine (hQ _ _ _ ?_).1; (conv => whnf)) | (refine ⟨_, rfl, ?_⟩; (conv => whnf)) | (refine ⟨_, mp_cut _ _ _, ?_⟩; (conv => whnf)) | (refine ⟨_, dbs_cut _ _ _, ?_⟩; (conv => whnf)) | (refine ⟨[_], rfl, ?_⟩; (conv => whnf)) | (refine ⟨[_, _], rfl, ?_⟩; (conv => whnf)) | (refine ⟨[_, _, _], rfl, ?_⟩; (conv => whnf)) | (refine ⟨[_, _, _, _], rfl, ?_⟩; (conv => whnf)) | fail)
      exact ret_objz (cs := acc.flatMap Val.pv) rfl rfl rfl rfl rfl (sub_slice Val.len acc) rfl (fun F => rfl) (fun F => rfl) (fun id cs => rfl)
end Go.Proofs.Ytjieenfbfckafaa.Am
namespace Go.Proofs.Ytjieenfbfckafaa.Am
open Go
set_option linter.unusedVariables false
set_option linter.unusedSimpArgs false
set_option maxRecDepth 100000
set_option maxHeartbeats 1000000
theorem ver_eq (s : Sr) : Sr.ver s = (⟨s.int.1, s.int.2.int.2.int.1, s.int.2.int.1⟩, s.int.2.int.2.int.2) := rfl
theorem sou_eq (s : Sr) : Sr.sou s = (⟨s.int.1, s.int.2.int.1⟩, s.int.2.int.2) := rfl
/-- F_codec_source_versions -/
theorem versions_meets (s : Sr) (hs : s.b.length ≤ 70368744177664) : Meets Try.prog F_codec_source_versions ⟨[.c (.ptr 0 0)], [(0, sob s)], 1, .c (dvers s.vers.1), [(0, sob s.vers.2)], 1⟩ := by
  have hr := s.count_range 512 (by omega)
  unfold Sr.vers Sr.list
  dsimp only
  have m1 := count_meets 512 s (by show s.b.length ≤ _; omega)
  have l1 := s.count_len 512
  generalize s.count 512 = x at m1 l1 hr ⊢
  obtain ⟨c, t⟩ := x
  dsimp only at m1 l1 hr ⊢
  obtain ⟨n, rfl⟩ := Int.eq_ofNat_of_zero_le hr.1
  rw [Int.toNat_natCast]
  refine fits_codec_source_versions.meets rfl (by simp) fun Q hQ => ?_
  (conv => whnf); repeat' (first | (refine And.intro ?_ ?_; (focus (exact zq3)); (conv => whnf)) | (refine onB_intro (fun hb => ?_) (fun hb => ?_) <;> (try simp only [decide_eq_true_eq, decide_eq_false_iff_not, Bool.not_eq_true', Bool.not_eq_false', Bool.and_eq_true, Bool.and_eq_false_iff, Int.not_le, Int.not_lt, bsz, ByteArray.toList_eq, beq_iff_eq, beq_eq_false_iff_ne, ne_eq] at hb) <;> (try (exfalso; omega)) <;> (try (exfalso; first | contradiction | (simp [ByteArray.toList_eq] at hb; done))) <;> (conv => whnf)) | (refine (hQ _ _ _ ?_).1; (conv => whnf)) | (refine ⟨_, rfl, ?_⟩; (conv => whnf)) | (refine ⟨_, mp_cut _ _ _, ?_⟩; (conv => whnf)) | (refine ⟨_, dbs_cut _ _ _, ?_⟩; (conv => whnf)) | (refine ⟨[_], rfl, ?_⟩; (conv => whnf)) | (refine ⟨[_, _], rfl, ?_⟩; (conv => whnf)) | (refine ⟨[_, _, _], rfl, ?_⟩; (conv => whnf)) | (refine ⟨[_, _, _, _], rfl, ?_⟩; (conv => whnf)) | (apply call_obj (m1) (fun F => by first | exact rfl | exact bob_ren F _ | exact ob_ren F _ _) (fun F => by first | exact rfl | exact bob_ren F _ | exact ob_ren F _ _); (focus (exact zq0)); (focus (exact zq2)); (conv => whnf)) | fail)
  refine loop_fam (fun i : Nat × List Ver × Sr => ⟨[(0, .c (.ptr 0 0)), (3, vi n), (4, .c (.ref 1 0 i.2.1.length 3)), (5, vi i.1)], [(0, sob i.2.2), (1, ⟨T_api_Version, (i.2.1.flatMap Ver.pv).map DV.p⟩)], 2⟩) (fun i => n - i.1)
    (fun i => i.1 ≤ n ∧ i.2.2.b.length ≤ t.b.length ∧ i.2.1.length = i.1 ∧ (i.2.1 ++ (many Sr.ver (n - i.1) i.2.2).1, (many Sr.ver (n - i.1) i.2.2).2) = many Sr.ver n t) (0, [], t)
    ((Wk.adopt 4 3 T_api_Version rfl).trans (wkn [(1, 2)] rfl rfl (by repeat' (first | exact trivial | exact Sub.refl _ | refine And.intro ?_ ?_)) ⟨rfl, hp_pure rfl rfl, trivial⟩)) ⟨Nat.zero_le _, Nat.le_refl _, rfl, by simp⟩ ?_
  rintro ⟨k, acc, s⟩ ⟨hk, hsl, hal, hmany⟩ K hK
  dsimp only at hk hsl hal hmany
  by_cases hgo : k < n ∧ s.e = 0
  · obtain ⟨hkn, hse⟩ := hgo
    have hsok : s.ok := by show s.b.length ≤ _; omega
    have hxl : ((acc.flatMap Ver.pv).map DV.p).length = acc.length * 3 := by rw [List.length_map, flat_len Ver.len]
    have hm1 : many Sr.ver (n - k) s = ((Sr.ver s).1 :: (many Sr.ver (n - (k + 1)) (Sr.ver s).2).1, (many Sr.ver (n - (k + 1)) (Sr.ver s).2).2) := by
      rw [show n - k = (n - (k + 1)) + 1 by omega, many, if_pos hse]
    rw [hm1] at hmany
    have hfl := Sr.ver_len s
    rw [ver_eq s] at hmany hfl; dsimp only at hmany hfl; have m0 := number_meets s hsok; have g0 := s.int_len; generalize s.int = x0 at m0 g0 hmany hfl; obtain ⟨v0, u0⟩ := x0; dsimp only at m0 g0 hmany hfl; have m1 := number_meets u0 (by show u0.b.length ≤ _; omega); have g1 := u0.int_len; generalize u0.int = x1 at m1 g1 hmany hfl; obtain ⟨v1, u1⟩ := x1; dsimp only at m1 g1 hmany hfl; have m2 := number_meets u1 (by show u1.b.length ≤ _; omega); have g2 := u1.int_len; generalize u1.int = x2 at m2 g2 hmany hfl; obtain ⟨v2, u2⟩ := x2; dsimp only at m2 g2 hmany hfl
    (conv => whnf); repeat' (first | (refine And.intro ?_ ?_; (focus (exact zq3)); (conv => whnf)) | (refine onB_intro (fun hb => ?_) (fun hb => ?_) <;> (try simp only [decide_eq_true_eq, decide_eq_false_iff_not, Bool.not_eq_true', Bool.not_eq_false', Bool.and_eq_true, Bool.and_eq_false_iff, Int.not_le, Int.not_lt, bsz, ByteArray.toList_eq, beq_iff_eq, beq_eq_false_iff_ne, ne_eq] at hb) <;> (try (exfalso; omega)) <;> (try (exfalso; first | contradiction | (simp [ByteArray.toList_eq] at hb; done))) <;> (conv => whnf)) | (refine (hQ _ _ _ ?_).1; (conv => whnf)) | (refine ⟨_, rfl, ?_⟩; (conv => whnf)) | (refine ⟨_, mp_cut _ _ _, ?_⟩; (conv => whnf)) | (refine ⟨_, dbs_cut _ _ _, ?_⟩; (conv => whnf)) | (refine ⟨[_], rfl, ?_⟩; (conv => whnf)) | (refine ⟨[_, _], rfl, ?_⟩; (conv => whnf)) | (refine ⟨[_, _, _], rfl, ?_⟩; (conv => whnf)) | (refine ⟨[_, _, _, _], rfl, ?_⟩; (conv => whnf)) | (apply call_obj (m0) (fun F => by first | exact rfl | exact bob_ren F _ | exact ob_ren F _ _) (fun F => by first | exact rfl | exact bob_ren F _ | exact ob_ren F _ _); (focus (exact zq0)); (focus (exact zq2)); (conv => whnf)) | (apply call_obj (m1) (fun F => by first | exact rfl | exact bob_ren F _ | exact ob_ren F _ _) (fun F => by first | exact rfl | exact bob_ren F _ | exact ob_ren F _ _); (focus (exact zq0)); (focus (exact zq2)); (conv => whnf)) | (apply call_obj (m2) (fun F => by first | exact rfl | exact bob_ren F _ | exact ob_ren F _ _) (fun F => by first | exact rfl | exact bob_ren F _ | exact ob_ren F _ _); (focus (exact zq0)); (focus (exact zq2)); (conv => whnf)) | fail)
    refine hK _ _ _ (k + 1, acc ++ [(⟨v0, v2, v1⟩ : Ver)], u2) ⟨by dsimp only; omega, by dsimp only; omega, by simp [hal], by dsimp only; rw [← hmany, List.append_assoc]; rfl⟩ (by dsimp only; omega) (wkn [(1, 6)] rfl rfl (by repeat' (first | exact trivial | exact Sub.refl _ | exact sub_ref (by simp) | exact sub_int (by dsimp only; omega) | refine And.intro ?_ ?_)) ⟨rfl, hp_pure rfl (cells_snoc Ver.len acc (⟨v0, v2, v1⟩ : Ver)), trivial⟩)
  · have hm1 : many Sr.ver (n - k) s = ([], s) := by
      cases hq : n - k with
      | zero => rfl
      | succ q => rw [many, if_neg (fun h => hgo ⟨by omega, h⟩)]
    rw [hm1] at hmany
    have hmany : (acc, s) = many Sr.ver n t := by rw [← hmany]; simp
    rw [← hmany] at hQ
    rcases Nat.lt_or_ge k n with hkn | hkn
    · have hse : ¬ s.e = 0 := fun h => hgo ⟨hkn, h⟩
      (conv => whnf); repeat' (first | (refine And.intro ?_ ?_; (focus (exact zq3)); (conv => whnf)) | (refine onB_intro (fun hb => ?_) (fun hb => ?_) <;> (try simp only [decide_eq_true_eq, decide_eq_false_iff_not, Bool.not_eq_true', Bool.not_eq_false', Bool.and_eq_true, Bool.and_eq_false_iff, Int.not_le, Int.not_lt, bsz, ByteArray.toList_eq, beq_iff_eq, beq_eq_false_iff_ne, ne_eq] at hb) <;> (try (exfalso; omega)) <;> (try (exfalso; first | contradiction | (simp [ByteArray.toList_eq] at hb; done))) <;> (conv => whnf)) | (refine (hQ _ _ _ ?_).1; (conv => whnf)) | (refine ⟨_, rfl, ?_⟩; (conv => whnf)) | (refine ⟨_, mp_cut _ _ _, ?_⟩; (conv => whnf)) | (refine ⟨_, dbs_cut _ _ _, ?_⟩; (conv => whnf)) | (refine ⟨[_], rfl, ?_⟩; (conv => whnf)) | (refine ⟨[_, _], rfl, ?_⟩; (conv => whnf)) | (refine ⟨[_, _, _], rfl, ?_⟩; (conv => whnf)) | (refine ⟨[_, _, _, _], rfl, ?_⟩; (conv => whnf)) | fail)
      exact ret_objz (cs := acc.flatMap Ver.pv) rfl rfl rfl rfl rfl (sub_slice Ver.len acc) rfl (fun F => rfl) (fun F => rfl) (fun id cs => rfl)
    · (conv => whnf); repeat' (first | (refine And.intro ?_ ?_; (focus (exact zq3)); (conv => whnf)) | (refine onB_intro (fun hb => ?_) (fun hb => ?_) <;> (try simp only [decide_eq_true_eq, decide_eq_false_iff_not, Bool.not_eq_true', Bool.not_eq_false', Bool.and_eq_true, Bool.and_eq_false_iff, Int.not_le, Int.not_lt, bsz, ByteArray.toList_eq, beq_iff_eq, beq_eq_false_iff_ne, ne_eq] at hb) <;> (try (exfalso; omega)) <;> (try (exfalso; first | contradiction | (simp [ByteArray.toList_eq] at hb; done))) <;> (conv => whnf)) | (refine (hQ _ _ _ ?_).1; (conv => whnf)) | (refine ⟨_, rfl, ?_⟩; (conv => whnf)) | (refine ⟨_, mp_cut _ _ _, ?_⟩; (conv => whnf)) | (refine ⟨_, dbs_cut _ _ _, ?_⟩; (conv => whnf)) | (refine ⟨[_], rfl, ?_⟩; (conv => whnf)) | (refine ⟨[_, _], rfl, ?_⟩; (conv => whnf)) | (refine ⟨[_, _, _], rfl, ?_⟩; (conv => whnf)) | (refine ⟨[_, _, _, _], rfl, ?_⟩; (conv => whnf)) | fail)
      exact ret_objz (cs := acc.flatMap Ver.pv) rfl rfl rfl rfl rfl (sub_slice Ver.len acc) rfl (fun F => rfl) (fun F => rfl) (fun id cs => rfl)
/-- F_erasureref26Reader_Versions -/
theorem rVersions_meets (s : Sr) (hs : s.b.length ≤ 70368744177664) : Meets Try.prog F_erasureref26Reader_Versions ⟨[.c (.ptr 0 0)], [(0, rob s)], 1, .c (dvers s.vers.1), [(0, rob s.vers.2)], 1⟩ := by
  have hr := s.count_range 512 (by omega)
  unfold Sr.vers Sr.list
  dsimp only
  have m1 := rcount_meets 512 s (by show s.b.length ≤ _; omega)
  have l1 := s.count_len 512
  generalize s.count 512 = x at m1 l1 hr ⊢
  obtain ⟨c, t⟩ := x
  dsimp only at m1 l1 hr ⊢
  obtain ⟨n, rfl⟩ := Int.eq_ofNat_of_zero_le hr.1
  rw [Int.toNat_natCast]
  refine fits_erasureref26Reader_Versions.meets rfl (by simp) fun Q hQ => ?_
  (conv => whnf); repeat' (first | (refine And.intro ?_ ?_; (focus (exact zq3)); (conv => whnf)) | (refine onB_intro (fun hb => ?_) (fun hb => ?_) <;> (try simp only [decide_eq_true_eq, decide_eq_false_iff_not, Bool.not_eq_true', Bool.not_eq_false', Bool.and_eq_true, Bool.and_eq_false_iff, Int.not_le, Int.not_lt, bsz, ByteArray.toList_eq, beq_iff_eq, beq_eq_false_iff_ne, ne_eq] at hb) <;> (try (exfalso; omega)) <;> (try (exfalso; first | contradiction | (simp [ByteArray.toList_eq] at hb; done))) <;> (conv => whnf)) | (refine (hQ _ _ _ ?_).1; (conv => whnf)) | (refine ⟨_, rfl, ?_⟩; (conv => whnf)) | (refine ⟨_, mp_cut _ _ _, ?_⟩; (conv => whnf)) | (refine ⟨_, dbs_cut _ _ _, ?_⟩; (conv => whnf)) | (refine ⟨[_], rfl, ?_⟩; (conv => whnf)) | (refine ⟨[_, _], rfl, ?_⟩; (conv => whnf)) | (refine ⟨[_, _, _], rfl, ?_⟩; (conv => whnf)) | (refine ⟨[_, _, _, _], rfl, ?_⟩; (conv => whnf)) | (apply call_obj (m1) (fun F => by first | exact rfl | exact bob_ren F _ | exact ob_ren F _ _) (fun F => by first | exact rfl | exact bob_ren F _ | exact ob_ren F _ _); (focus (exact zq0)); (focus (exact zq2)); (conv => whnf)) | fail)
  refine loop_fam (fun i : Nat × List Ver × Sr => ⟨[(0, .c (.ptr 0 0)), (3, .c (.ref 1 0 i.2.1.length 3)), (4, vi n), (5, vi i.1)], [(0, rob i.2.2), (1, ⟨T_api_Version, (i.2.1.flatMap Ver.pv).map DV.p⟩)], 2⟩) (fun i => n - i.1)
    (fun i => i.1 ≤ n ∧ i.2.2.b.length ≤ t.b.length ∧ i.2.1.length = i.1 ∧ (i.2.1 ++ (many Sr.ver (n - i.1) i.2.2).1, (many Sr.ver (n - i.1) i.2.2).2) = many Sr.ver n t) (0, [], t)
    ((Wk.adopt 3 3 T_api_Version rfl).trans (wkn [(1, 2)] rfl rfl (by repeat' (first | exact trivial | exact Sub.refl _ | refine And.intro ?_ ?_)) ⟨rfl, hp_pure rfl rfl, trivial⟩)) ⟨Nat.zero_le _, Nat.le_refl _, rfl, by simp⟩ ?_
  rintro ⟨k, acc, s⟩ ⟨hk, hsl, hal, hmany⟩ K hK
  dsimp only at hk hsl hal hmany
  by_cases hgo : k < n ∧ s.e = 0
  · obtain ⟨hkn, hse⟩ := hgo
    have hsok : s.ok := by show s.b.length ≤ _; omega
    have hxl : ((acc.flatMap Ver.pv).map DV.p).length = acc.length * 3 := by rw [List.length_map, flat_len Ver.len]
    have hm1 : many Sr.ver (n - k) s = ((Sr.ver s).1 :: (many Sr.ver (n - (k + 1)) (Sr.ver s).2).1, (many Sr.ver (n - (k + 1)) (Sr.ver s).2).2) := by
      rw [show n - k = (n - (k + 1)) + 1 by omega, many, if_pos hse]
    rw [hm1] at hmany
    have hfl := Sr.ver_len s
    rw [ver_eq s] at hmany hfl; dsimp only at hmany hfl; have m0 := rInt_meets s hsok; have g0 := s.int_len; generalize s.int = x0 at m0 g0 hmany hfl; obtain ⟨v0, u0⟩ := x0; dsimp only at m0 g0 hmany hfl; have m1 := rInt_meets u0 (by show u0.b.length ≤ _; omega); have g1 := u0.int_len; generalize u0.int = x1 at m1 g1 hmany hfl; obtain ⟨v1, u1⟩ := x1; dsimp only at m1 g1 hmany hfl; have m2 := rInt_meets u1 (by show u1.b.length ≤ _; omega); have g2 := u1.int_len; generalize u1.int = x2 at m2 g2 hmany hfl; obtain ⟨v2, u2⟩ := x2; dsimp only at m2 g2 hmany hfl
    (conv => whnf); repeat' (first | (refine And.intro ?_ ?_; (focus (exact zq3)); (conv => whnf)) | (refine onB_intro (fun hb => ?_) (fun hb => ?_) <;> (try simp only [decide_eq_true_eq, decide_eq_false_iff_not, Bool.not_eq_true', Bool.not_eq_false', Bool.and_eq_true, Bool.and_eq_false_iff, Int.not_le, Int.not_lt, bsz, ByteArray.toList_eq, beq_iff_eq, beq_eq_false_iff_ne, ne_eq] at hb) <;> (try (exfalso; omega)) <;> (try (exfalso; first | contradiction | (simp [ByteArray.toList_eq] at hb; done))) <;> (conv => whnf)) | (refine (hQ _ _ _ ?_).1; (conv => whnf)) | (refine ⟨_, rfl, ?_⟩; (conv => whnf)) | (refine ⟨_, mp_cut _ _ _, ?_⟩; (conv => whnf)) | (refine ⟨_, dbs_cut _ _ _, ?_⟩; (conv => whnf)) | (refine ⟨[_], rfl, ?_⟩; (conv => whnf)) | (refine ⟨[_, _], rfl, ?_⟩; (conv => whnf)) | (refine ⟨[_, _, _], rfl, ?_⟩; (conv => whnf)) | (refine ⟨[_, _, _, _], rfl, ?_⟩; (conv => whnf)) | (apply call_obj (m0) (fun F => by first | exact rfl | exact bob_ren F _ | exact ob_ren F _ _) (fun F => by first | exact rfl | exact bob_ren F _ | exact ob_ren F _ _); (focus (exact zq0)); (focus (exact zq2)); (conv => whnf)) | (apply call_obj (m1) (fun F => by first | exact rfl | exact bob_ren F _ | exact ob_ren F _ _) (fun F => by first | exact rfl | exact bob_ren F _ | exact ob_ren F _ _); (focus (exact zq0)); (focus (exact zq2)); (conv => whnf)) | (apply call_obj (m2) (fun F => by first | exact rfl | exact bob_ren F _ | exact ob_ren F _ _) (fun F => by first | exact rfl | exact bob_ren F _ | exact ob_ren F _ _); (focus (exact zq0)); (focus (exact zq2)); (conv => whnf)) | fail)
    refine hK _ _ _ (k + 1, acc ++ [(⟨v0, v2, v1⟩ : Ver)], u2) ⟨by dsimp only; omega, by dsimp only; omega, by simp [hal], by dsimp only; rw [← hmany, List.append_assoc]; rfl⟩ (by dsimp only; omega) (wkn [(1, 6)] rfl rfl (by repeat' (first | exact trivial | exact Sub.refl _ | exact sub_ref (by simp) | exact sub_int (by dsimp only; omega) | refine And.intro ?_ ?_)) ⟨rfl, hp_pure rfl (cells_snoc Ver.len acc (⟨v0, v2, v1⟩ : Ver)), trivial⟩)
  · have hm1 : many Sr.ver (n - k) s = ([], s) := by
      cases hq : n - k with
      | zero => rfl
      | succ q => rw [many, if_neg (fun h => hgo ⟨by omega, h⟩)]
    rw [hm1] at hmany
    have hmany : (acc, s) = many Sr.ver n t := by rw [← hmany]; simp
    rw [← hmany] at hQ
    rcases Nat.lt_or_ge k n with hkn | hkn
    · have hse : ¬ s.e = 0 := fun h => hgo ⟨hkn, h⟩
      (conv => whnf); repeat' (first | (refine And.intro ?_ ?_; (focus (exact zq3)); (conv => whnf)) | (refine onB_intro (fun hb => ?_) (fun hb => ?_) <;> (try simp only [decide_eq_true_eq, decide_eq_false_iff_not, Bool.not_eq_true', Bool.not_eq_false', Bool.and_eq_true, Bool.and_eq_false_iff, Int.not_le, Int.not_lt, bsz, ByteArray.toList_eq, beq_iff_eq, beq_eq_false_iff_ne, ne_eq] at hb) <;> (try (exfalso; omega)) <;> (try (exfalso; first | contradiction | (simp [ByteArray.toList_eq] at hb; done))) <;> (conv => whnf)) | (refine (hQ _ _ _ ?_).1; (conv => whnf)) | (refine ⟨_, rfl, ?_⟩; (conv => whnf)) | (refine ⟨_, mp_cut _ _ _, ?_⟩; (conv => whnf)) | (refine ⟨_, dbs_cut _ _ _, ?_⟩; (conv => whnf)) | (refine ⟨[_], rfl, ?_⟩; (conv => whnf)) | (refine ⟨[_, _], rfl, ?_⟩; (conv => whnf)) | (refine ⟨[_, _, _], rfl, ?_⟩; (conv => whnf)) | (refine ⟨[_, _, _, _], rfl, ?_⟩; (conv => whnf)) | fail)
      exact ret_objz (cs := acc.flatMap Ver.pv) rfl rfl rfl rfl rfl (sub_slice Ver.len acc) rfl (fun F => rfl) (fun F => rfl) (fun id cs => rfl)
    · (conv => whnf); repeat' (first | (refine And.intro ?_ ?_; (focus (exact zq3)); (conv => whnf)) | (refine onB_intro (fun hb => ?_) (fun hb => ?_) <;> (try simp only [decide_eq_true_eq, decide_eq_false_iff_not, Bool.not_eq_true', Bool.not_eq_false', Bool.and_eq_true, Bool.and_eq_false_iff, Int.not_le, Int.not_lt, bsz, ByteArray.toList_eq, beq_iff_eq, beq_eq_false_iff_ne, ne_eq] at hb) <;> (try (exfalso; omega)) <;> (try (exfalso; first | contradiction | (simp [ByteArray.toList_eq] at hb; done))) <;> (conv => whnf)) | (refine (hQ _ _ _ ?_).1; (conv => whnf)) | (refine ⟨_, rfl, ?_⟩; (conv => whnf)) | (refine ⟨_, mp_cut _ _ _, ?_⟩; (conv => whnf)) | (refine ⟨_, dbs_cut _ _ _, ?_⟩; (conv => whnf)) | (refine ⟨[_], rfl, ?_⟩; (conv => whnf)) | (refine ⟨[_, _], rfl, ?_⟩; (conv => whnf)) | (refine ⟨[_, _, _], rfl, ?_⟩; (conv => whnf)) | (refine ⟨[_, _, _, _], rfl, ?_⟩; (conv => whnf)) | fail)
      exact ret_objz (cs := acc.flatMap Ver.pv) rfl rfl rfl rfl rfl (sub_slice Ver.len acc) rfl (fun F => rfl) (fun F => rfl) (fun id cs => rfl)
/-- F_codec_source_sources -/
theorem sources_meets (s : Sr) (hs : s.b.length ≤ 70368744177664) : Meets Try.prog F_codec_source_sources ⟨[.c (.ptr 0 0)], [(0, sob s)], 1, .c (dsous s.sous.1), [(0, sob s.sous.2)], 1⟩ := by
  have hr := s.count_range 512 (by omega)
  unfold Sr.sous Sr.list
  dsimp only
  have m1 := count_meets 512 s (by show s.b.length ≤ _; omega)
  have l1 := s.count_len 512
  generalize s.count 512 = x at m1 l1 hr ⊢
  obtain ⟨c, t⟩ := x
  dsimp only at m1 l1 hr ⊢
  obtain ⟨n, rfl⟩ := Int.eq_ofNat_of_zero_le hr.1
  rw [Int.toNat_natCast]
  refine fits_codec_source_sources.meets rfl (by simp) fun Q hQ => ?_
  (conv => whnf); repeat' (first | (refine And.intro ?_ ?_; (focus (exact zq3)); (conv => whnf)) | (refine onB_intro (fun hb => ?_) (fun hb => ?_) <;> (try simp only [decide_eq_true_eq, decide_eq_false_iff_not, Bool.not_eq_true', Bool.not_eq_false', Bool.and_eq_true, Bool.and_eq_false_iff, Int.not_le, Int.not_lt, bsz, ByteArray.toList_eq, beq_iff_eq, beq_eq_false_iff_ne, ne_eq] at hb) <;> (try (exfalso; omega)) <;> (try (exfalso; first | contradiction | (simp [ByteArray.toList_eq] at hb; done))) <;> (conv => whnf)) | (refine (hQ _ _ _ ?_).1; (conv => whnf)) | (refine ⟨_, rfl, ?_⟩; (conv => whnf)) | (refine ⟨_, mp_cut _ _ _, ?_⟩; (conv => whnf)) | (refine ⟨_, dbs_cut _ _ _, ?_⟩; (conv => whnf)) | (refine ⟨[_], rfl, ?_⟩; (conv => whnf)) | (refine ⟨[_, _], rfl, ?_⟩; (conv => whnf)) | (refine ⟨[_, _, _], rfl, ?_⟩; (conv => whnf)) | (refine ⟨[_, _, _, _], rfl, ?_⟩; (conv => whnf)) | (apply call_obj (m1) (fun F => by first | exact rfl | exact bob_ren F _ | exact ob_ren F _ _) (fun F => by first | exact rfl | exact bob_ren F _ | exact ob_ren F _ _); (focus (exact zq0)); (focus (exact zq2)); (conv => whnf)) | fail)
  refine loop_fam (fun i : Nat × List Sou × Sr => ⟨[(0, .c (.ptr 0 0)), (3, vi n), (4, .c (.ref 1 0 i.2.1.length 2)), (5, vi i.1)], [(0, sob i.2.2), (1, ⟨T_api_Source, (i.2.1.flatMap Sou.pv).map DV.p⟩)], 2⟩) (fun i => n - i.1)
    (fun i => i.1 ≤ n ∧ i.2.2.b.length ≤ t.b.length ∧ i.2.1.length = i.1 ∧ (i.2.1 ++ (many Sr.sou (n - i.1) i.2.2).1, (many Sr.sou (n - i.1) i.2.2).2) = many Sr.sou n t) (0, [], t)
    ((Wk.adopt 4 2 T_api_Source rfl).trans (wkn [(1, 2)] rfl rfl (by repeat' (first | exact trivial | exact Sub.refl _ | refine And.intro ?_ ?_)) ⟨rfl, hp_pure rfl rfl, trivial⟩)) ⟨Nat.zero_le _, Nat.le_refl _, rfl, by simp⟩ ?_
  rintro ⟨k, acc, s⟩ ⟨hk, hsl, hal, hmany⟩ K hK
  dsimp only at hk hsl hal hmany
  by_cases hgo : k < n ∧ s.e = 0
  · obtain ⟨hkn, hse⟩ := hgo
    have hsok : s.ok := by show s.b.length ≤ _; omega
    have hxl : ((acc.flatMap Sou.pv).map DV.p).length = acc.length * 2 := by rw [List.length_map, flat_len Sou.len]
    have hm1 : many Sr.sou (n - k) s = ((Sr.sou s).1 :: (many Sr.sou (n - (k + 1)) (Sr.sou s).2).1, (many Sr.sou (n - (k + 1)) (Sr.sou s).2).2) := by
      rw [show n - k = (n - (k + 1)) + 1 by omega, many, if_pos hse]
    rw [hm1] at hmany
    have hfl := Sr.sou_len s
    rw [sou_eq s] at hmany hfl; dsimp only at hmany hfl; have m0 := number_meets s hsok; have g0 := s.int_len; generalize s.int = x0 at m0 g0 hmany hfl; obtain ⟨v0, u0⟩ := x0; dsimp only at m0 g0 hmany hfl; have m1 := number_meets u0 (by show u0.b.length ≤ _; omega); have g1 := u0.int_len; generalize u0.int = x1 at m1 g1 hmany hfl; obtain ⟨v1, u1⟩ := x1; dsimp only at m1 g1 hmany hfl
    (conv => whnf); repeat' (first | (refine And.intro ?_ ?_; (focus (exact zq3)); (conv => whnf)) | (refine onB_intro (fun hb => ?_) (fun hb => ?_) <;> (try simp only [decide_eq_true_eq, decide_eq_false_iff_not, Bool.not_eq_true', Bool.not_eq_false', Bool.and_eq_true, Bool.and_eq_false_iff, Int.not_le, Int.not_lt, bsz, ByteArray.toList_eq, beq_iff_eq, beq_eq_false_iff_ne, ne_eq] at hb) <;> (try (exfalso; omega)) <;> (try (exfalso; first | contradiction | (simp [ByteArray.toList_eq] at hb; done))) <;> (conv => whnf)) | (refine (hQ _ _ _ ?_).1; (conv => whnf)) | (refine ⟨_, rfl, ?_⟩; (conv => whnf)) | (refine ⟨_, mp_cut _ _ _, ?_⟩; (conv => whnf)) | (refine ⟨_, dbs_cut _ _ _, ?_⟩; (conv => whnf)) | (refine ⟨[_], rfl, ?_⟩; (conv => whnf)) | (refine ⟨[_, _], rfl, ?_⟩; (conv => whnf)) | (refine ⟨[_, _, _], rfl, ?_⟩; (conv => whnf)) | (refine ⟨[_, _, _, _], rfl, ?_⟩; (conv => whnf)) | (apply call_obj (m0) (fun F => by first | exact rfl | exact bob_ren F _ | exact ob_ren F _ _) (fun F => by first | exact rfl | exact bob_ren F _ | exact ob_ren F _ _); (focus (exact zq0)); (focus (exact zq2)); (conv => whnf)) | (apply call_obj (m1) (fun F => by first | exact rfl | exact bob_ren F _ | exact ob_ren F _ _) (fun F => by first | exact rfl | exact bob_ren F _ | exact ob_ren F _ _); (focus (exact zq0)); (focus (exact zq2)); (conv => whnf)) | fail)
    refine hK _ _ _ (k + 1, acc ++ [(⟨v0, v1⟩ : Sou)], u1) ⟨by dsimp only; omega, by dsimp only; omega, by simp [hal], by dsimp only; rw [← hmany, List.append_assoc]; rfl⟩ (by dsimp only; omega) (wkn [(1, 5)] rfl rfl (by repeat' (first | exact trivial | exact Sub.refl _ | exact sub_ref (by simp) | exact sub_int (by dsimp only; omega) | refine And.intro ?_ ?_)) ⟨rfl, hp_pure rfl (cells_snoc Sou.len acc (⟨v0, v1⟩ : Sou)), trivial⟩)
  · have hm1 : many Sr.sou (n - k) s = ([], s) := by
      cases hq : n - k with
      | zero => rfl
      | succ q => rw [many, if_neg (fun h => hgo ⟨by omega, h⟩)]
    rw [hm1] at hmany
    have hmany : (acc, s) = many Sr.sou n t := by rw [← hmany]; simp
    rw [← hmany] at hQ
    rcases Nat.lt_or_ge k n with hkn | hkn
    · have hse : ¬ s.e = 0 := fun h => hgo ⟨hkn, h⟩
      (conv => whnf); repeat' (first | (refine And.intro ?_ ?_; (focus (exact zq3)); (conv => whnf)) | (refine onB_intro (fun hb => ?_) (fun hb => ?_) <;> (try simp only [decide_eq_true_eq, decide_eq_false_iff_not, Bool.not_eq_true', Bool.not_eq_false', Bool.and_eq_true, Bool.and_eq_false_iff, Int.not_le, Int.not_lt, bsz, ByteArray.toList_eq, beq_iff_eq, beq_eq_false_iff_ne, ne_eq] at hb) <;> (try (exfalso; omega)) <;> (try (exfalso; first | contradiction | (simp [ByteArray.toList_eq] at hb; done))) <;> (conv => whnf)) | (refine (hQ _ _ _ ?_).1; (conv => whnf)) | (refine ⟨_, rfl, ?_⟩; (conv => whnf)) | (refine ⟨_, mp_cut _ _ _, ?_⟩; (conv => whnf)) | (refine ⟨_, dbs_cut _ _ _, ?_⟩; (conv => whnf)) | (refine ⟨[_], rfl, ?_⟩; (conv => whnf)) | (refine ⟨[_, _], rfl, ?_⟩; (conv => whnf)) | (refine ⟨[_, _, _], rfl, ?_⟩; (conv => whnf)) | (refine ⟨[_, _, _, _], rfl, ?_⟩; (conv => whnf)) | fail)
      exact ret_objz (cs := acc.flatMap Sou.pv) rfl rfl rfl rfl rfl (sub_slice Sou.len acc) rfl (fun F => rfl) (fun F => rfl) (fun id cs => rfl)
    · (conv => whnf); repeat' (first | (refine And.intro ?_ ?_; (focus (exact zq3)); (conv => whnf)) | (refine onB_intro (fun hb => ?_) (fun hb => ?_) <;> (try simp only [decide_eq_true_eq, decide_eq_false_iff_not, Bool.not_eq_true', Bool.not_eq_false', Bool.and_eq_true, Bool.and_eq_false_iff, Int.not_le, Int.not_lt, bsz, ByteArray.toList_eq, beq_iff_eq, beq_eq_false_iff_ne, ne_eq] at hb) <;> (try (exfalso; omega)) <;> (try (exfalso; first | contradiction | (simp [ByteArray.toList_eq] at hb; done))) <;> (conv => whnf)) | (refine (hQ _ _ _ ?_).1; (conv => whnf)) | (refine ⟨_, rfl, ?_⟩; (conv => whnf)) | (refine ⟨_, mp_cut _ _ _, ?_⟩; (conv => whnf)) | (refine ⟨_, dbs_cut _ _ _, ?_⟩; (conv => whnf)) | (refine ⟨[_], rfl, ?_⟩; (conv => whnf)) | (refine ⟨[_, _], rfl, ?_⟩; (conv => whnf)) | (refine ⟨[_, _, _], rfl, ?_⟩; (conv => whnf)) | (refine ⟨[_, _, _, _], rfl, ?_⟩; (conv => whnf)) | fail)
      exact ret_objz (cs := acc.flatMap Sou.pv) rfl rfl rfl rfl rfl (sub_slice Sou.len acc) rfl (fun F => rfl) (fun F => rfl) (fun id cs => rfl)
/-- F_erasureref26Reader_Sources -/
theorem rSources_meets (s : Sr) (hs : s.b.length ≤ 70368744177664) : Meets Try.prog F_erasureref26Reader_Sources ⟨[.c (.ptr 0 0)], [(0, rob s)], 1, .c (dsous s.sous.1), [(0, rob s.sous.2)], 1⟩ := by
  have hr := s.count_range 512 (by omega)
  unfold Sr.sous Sr.list
  dsimp only
  have m1 := rcount_meets 512 s (by show s.b.length ≤ _; omega)
  have l1 := s.count_len 512
  generalize s.count 512 = x at m1 l1 hr ⊢
  obtain ⟨c, t⟩ := x
  dsimp only at m1 l1 hr ⊢
  obtain ⟨n, rfl⟩ := Int.eq_ofNat_of_zero_le hr.1
  rw [Int.toNat_natCast]
  refine fits_erasureref26Reader_Sources.meets rfl (by simp) fun Q hQ => ?_
  (conv => whnf); repeat' (first | (refine And.intro ?_ ?_; (focus (exact zq3)); (conv => whnf)) | (refine onB_intro (fun hb => ?_) (fun hb => ?_) <;> (try simp only [decide_eq_true_eq, decide_eq_false_iff_not, Bool.not_eq_true', Bool.not_eq_false', Bool.and_eq_true, Bool.and_eq_false_iff, Int.not_le, Int.not_lt, bsz, ByteArray.toList_eq, beq_iff_eq, beq_eq_false_iff_ne, ne_eq] at hb) <;> (try (exfalso; omega)) <;> (try (exfalso; first | contradiction | (simp [ByteArray.toList_eq] at hb; done))) <;> (conv => whnf)) | (refine (hQ _ _ _ ?_).1; (conv => whnf)) | (refine ⟨_, rfl, ?_⟩; (conv => whnf)) | (refine ⟨_, mp_cut _ _ _, ?_⟩; (conv => whnf)) | (refine ⟨_, dbs_cut _ _ _, ?_⟩; (conv => whnf)) | (refine ⟨[_], rfl, ?_⟩; (conv => whnf)) | (refine ⟨[_, _], rfl, ?_⟩; (conv => whnf)) | (refine ⟨[_, _, _], rfl, ?_⟩; (conv => whnf)) | (refine ⟨[_, _, _, _], rfl, ?_⟩; (conv => whnf)) | (apply call_obj (m1) (fun F => by first | exact rfl | exact bob_ren F _ | exact ob_ren F _ _) (fun F => by first | exact rfl | exact bob_ren F _ | exact ob_ren F _ _); (focus (exact zq0)); (focus (exact zq2)); (conv => whnf)) | fail)
  refine loop_fam (fun i : Nat × List Sou × Sr => ⟨[(0, .c (.ptr 0 0)), (3, .c (.ref 1 0 i.2.1.length 2)), (4, vi n), (5, vi i.1)], [(0, rob i.2.2), (1, ⟨T_api_Source, (i.2.1.flatMap Sou.pv).map DV.p⟩)], 2⟩) (fun i => n - i.1)
    (fun i => i.1 ≤ n ∧ i.2.2.b.length ≤ t.b.length ∧ i.2.1.length = i.1 ∧ (i.2.1 ++ (many Sr.sou (n - i.1) i.2.2).1, (many Sr.sou (n - i.1) i.2.2).2) = many Sr.sou n t) (0, [], t)
    ((Wk.adopt 3 2 T_api_Source rfl).trans (wkn [(1, 2)] rfl rfl (by repeat' (first | exact trivial | exact Sub.refl _ | refine And.intro ?_ ?_)) ⟨rfl, hp_pure rfl rfl, trivial⟩)) ⟨Nat.zero_le _, Nat.le_refl _, rfl, by simp⟩ ?_
  rintro ⟨k, acc, s⟩ ⟨hk, hsl, hal, hmany⟩ K hK
  dsimp only at hk hsl hal hmany
  by_cases hgo : k < n ∧ s.e = 0
  · obtain ⟨hkn, hse⟩ := hgo
    have hsok : s.ok := by show s.b.length ≤ _; omega
    have hxl : ((acc.flatMap Sou.pv).map DV.p).length = acc.length * 2 := by rw [List.length_map, flat_len Sou.len]
    have hm1 : many Sr.sou (n - k) s = ((Sr.sou s).1 :: (many Sr.sou (n - (k + 1)) (Sr.sou s).2).1, (many Sr.sou (n - (k + 1)) (Sr.sou s).2).2) := by
      rw [show n - k = (n - (k + 1)) + 1 by omega, many, if_pos hse]
    rw [hm1] at hmany
    have hfl := Sr.sou_len s
    rw [sou_eq s] at hmany hfl; dsimp only at hmany hfl; have m0 := rInt_meets s hsok; have g0 := s.int_len; generalize s.int = x0 at m0 g0 hmany hfl; obtain ⟨v0, u0⟩ := x0; dsimp only at m0 g0 hmany hfl; have m1 := rInt_meets u0 (by show u0.b.length ≤ _; omega); have g1 := u0.int_len; generalize u0.int = x1 at m1 g1 hmany hfl; obtain ⟨v1, u1⟩ := x1; dsimp only at m1 g1 hmany hfl
    (conv => whnf); repeat' (first | (refine And.intro ?_ ?_; (focus (exact zq3)); (conv => whnf)) | (refine onB_intro (fun hb => ?_) (fun hb => ?_) <;> (try simp only [decide_eq_true_eq, decide_eq_false_iff_not, Bool.not_eq_true', Bool.not_eq_false', Bool.and_eq_true, Bool.and_eq_false_iff, Int.not_le, Int.not_lt, bsz, ByteArray.toList_eq, beq_iff_eq, beq_eq_false_iff_ne, ne_eq] at hb) <;> (try (exfalso; omega)) <;> (try (exfalso; first | contradiction | (simp [ByteArray.toList_eq] at hb; done))) <;> (conv => whnf)) | (refine (hQ _ _ _ ?_).1; (conv => whnf)) | (refine ⟨_, rfl, ?_⟩; (conv => whnf)) | (refine ⟨_, mp_cut _ _ _, ?_⟩; (conv => whnf)) | (refine ⟨_, dbs_cut _ _ _, ?_⟩; (conv => whnf)) | (refine ⟨[_], rfl, ?_⟩; (conv => whnf)) | (refine ⟨[_, _], rfl, ?_⟩; (conv => whnf)) | (refine ⟨[_, _, _], rfl, ?_⟩; (conv => whnf)) | (refine ⟨[_, _, _, _], rfl, ?_⟩; (conv => whnf)) | (apply call_obj (m0) (fun F => by first | exact rfl | exact bob_ren F _ | exact ob_ren F _ _) (fun F => by first | exact rfl | exact bob_ren F _ | exact ob_ren F _ _); (focus (exact zq0)); (focus (exact zq2)); (conv => whnf)) | (apply call_obj (m1) (fun F => by first | exact rfl | exact bob_ren F _ | exact ob_ren F _ _) (fun F => by first | exact rfl | exact bob_ren F _ | exact ob_ren F _ _); (focus (exact zq0)); (focus (exact zq2)); (conv => whnf)) | fail)
    refine hK _ _ _ (k + 1, acc ++ [(⟨v0, v1⟩ : Sou)], u1) ⟨by dsimp only; omega, by dsimp only; omega, by simp [hal], by dsimp only; rw [← hmany, List.append_assoc]; rfl⟩ (by dsimp only; omega) (wkn [(1, 5)] rfl rfl (by repeat' (first | exact trivial | exact Sub.refl _ | exact sub_ref (by simp) | exact sub_int (by dsimp only; omega) | refine And.intro ?_ ?_)) ⟨rfl, hp_pure rfl (cells_snoc Sou.len acc (⟨v0, v1⟩ : Sou)), trivial⟩)
  · have hm1 : many Sr.sou (n - k) s = ([], s) := by
      cases hq : n - k with
      | zero => rfl
      | succ q => rw [many, if_neg (fun h => hgo ⟨by omega, h⟩)]
    rw [hm1] at hmany
    have hmany : (acc, s) = many Sr.sou n t := by rw [← hmany]; simp
    rw [← hmany] at hQ
    rcases Nat.lt_or_ge k n with hkn | hkn
    · have hse : ¬ s.e = 0 := fun h => hgo ⟨hkn, h⟩
      (conv => whnf); repeat' (first | (refine And.intro ?_ ?_; (focus (exact zq3)); (conv => whnf)) | (refine onB_intro (fun hb => ?_) (fun hb => ?_) <;> (try simp only [decide_eq_true_eq, decide_eq_false_iff_not, Bool.not_eq_true', Bool.not_eq_false', Bool.and_eq_true, Bool.and_eq_false_iff, Int.not_le, Int.not_lt, bsz, ByteArray.toList_eq, beq_iff_eq, beq_eq_false_iff_ne, ne_eq] at hb) <;> (try (exfalso; omega)) <;> (try (exfalso; first | contradiction | (simp [ByteArray.toList_eq] at hb; done))) <;> (conv => whnf)) | (refine (hQ _ _ _ ?_).1; (conv => whnf)) | (refine ⟨_, rfl, ?_⟩; (conv => whnf)) | (refine ⟨_, mp_cut _ _ _, ?_⟩; (conv => whnf)) | (refine ⟨_, dbs_cut _ _ _, ?_⟩; (conv => whnf)) | (refine ⟨[_], rfl, ?_⟩; (conv => whnf)) | (refine ⟨[_, _], rfl, ?_⟩; (conv => whnf)) | (refine ⟨[_, _, _], rfl, ?_⟩; (conv => whnf)) | (refine ⟨[_, _, _, _], rfl, ?_⟩; (conv => whnf)) | fail)
      exact ret_objz (cs := acc.flatMap Sou.pv) rfl rfl rfl rfl rfl (sub_slice Sou.len acc) rfl (fun F => rfl) (fun F => rfl) (fun id cs => rfl)
    · (conv => whnf); repeat' (first | (refine And.intro ?_ ?_; (focus (exact zq3)); (conv => whnf)) | (refine onB_intro (fun hb => ?_) (fun hb => ?_) <;> (try simp only [decide_eq_true_eq, decide_eq_false_iff_not, Bool.not_eq_true', Bool.not_eq_false', Bool.and_eq_true, Bool.and_eq_false_iff, Int.not_le, Int.not_lt, bsz, ByteArray.toList_eq, beq_iff_eq, beq_eq_false_iff_ne, ne_eq] at hb) <;> (try (exfalso; omega)) <;> (try (exfalso; first | contradiction | (simp [ByteArray.toList_eq] at hb; done))) <;> (conv => whnf)) | (refine (hQ _ _ _ ?_).1; (conv => whnf)) | (refine ⟨_, rfl, ?_⟩; (conv => whnf)) | (refine ⟨_, mp_cut _ _ _, ?_⟩; (conv => whnf)) | (refine ⟨_, dbs_cut _ _ _, ?_⟩; (conv => whnf)) | (refine ⟨[_], rfl, ?_⟩; (conv => whnf)) | (refine ⟨[_, _], rfl, ?_⟩; (conv => whnf)) | (refine ⟨[_, _, _], rfl, ?_⟩; (conv => whnf)) | (refine ⟨[_, _, _, _], rfl, ?_⟩; (conv => whnf)) | fail)
      exact ret_objz (cs := acc.flatMap Sou.pv) rfl rfl rfl rfl rfl (sub_slice Sou.len acc) rfl (fun F => rfl) (fun F => rfl) (fun id cs => rfl)
/-- F_codec_source_identifier -/
theorem identifier_meets (s : Sr) (hs : s.b.length ≤ 70368744177664) : Meets Try.prog F_codec_source_identifier ⟨[.c (.ptr 0 0)], [(0, sob s)], 1, .agg (s.ident.1).enc, [(0, sob s.ident.2)], 1⟩ := by
  unfold Sr.ident
  dsimp only
  have m0 := text_meets 16 s (by first | omega | (show s.b.length ≤ _; omega))
  have l0 := s.text_len 16
  generalize s.text 16 = x at m0 l0 ⊢
  obtain ⟨v0, u0⟩ := x
  dsimp only at m0 l0 ⊢
  have m1 := value_meets u0 (by first | omega | (show u0.b.length ≤ _; omega))
  have l1 := u0.value_len
  generalize u0.value = x at m1 l1 ⊢
  obtain ⟨v1, u1⟩ := x
  dsimp only at m1 l1 ⊢
  refine fits_codec_source_identifier.meets rfl (by simp) fun Q hQ => ?_
  (conv => whnf); repeat' (first | (refine And.intro ?_ ?_; (focus (exact zq3)); (conv => whnf)) | (refine onB_intro (fun hb => ?_) (fun hb => ?_) <;> (try simp only [decide_eq_true_eq, decide_eq_false_iff_not, Bool.not_eq_true', Bool.not_eq_false', Bool.and_eq_true, Bool.and_eq_false_iff, Int.not_le, Int.not_lt, bsz, ByteArray.toList_eq, beq_iff_eq, beq_eq_false_iff_ne, ne_eq] at hb) <;> (try (exfalso; omega)) <;> (try (exfalso; first | contradiction | (simp [ByteArray.toList_eq] at hb; done))) <;> (conv => whnf)) | (refine (hQ _ _ _ ?_).1; (conv => whnf)) | (refine ⟨_, rfl, ?_⟩; (conv => whnf)) | (refine ⟨_, mp_cut _ _ _, ?_⟩; (conv => whnf)) | (refine ⟨_, dbs_cut _ _ _, ?_⟩; (conv => whnf)) | (refine ⟨[_], rfl, ?_⟩; (conv => whnf)) | (refine ⟨[_, _], rfl, ?_⟩; (conv => whnf)) | (refine ⟨[_, _, _], rfl, ?_⟩; (conv => whnf)) | (refine ⟨[_, _, _, _], rfl, ?_⟩; (conv => whnf)) | (apply call_obj (m0) (fun F => by first | exact rfl | exact bob_ren F _ | exact ob_ren F _ _) (fun F => by first | exact rfl | exact bob_ren F _ | exact ob_ren F _ _); (focus (exact zq0)); (focus (exact zq2)); (conv => whnf)) | (apply call_obj (m1) (fun F => by first | exact rfl | exact bob_ren F _ | exact ob_ren F _ _) (fun F => by first | exact rfl | exact bob_ren F _ | exact ob_ren F _ _); (focus (exact zq0)); (focus (exact zq2)); (conv => whnf)) | fail)
  all_goals (refine ret_obj rfl ?_ rfl ?_ (fun F => by first | exact rfl | (simp only [TV.rens, TV.ren, dbs_ren]; rfl) | (simp [TV.rens, TV.ren, dbs_ren, map_ren_p]; done)) (fun F => by first | exact rfl | exact bob_ren F _ | exact ob_ren F _ _); (focus (exact zq0)); (first | rfl | (refine ob2_eq ?_ ?_ <;> (first | rfl | assumption | (simp only [*]; done) | (refine dv_val ?_ ?_ <;> (first | rfl | omega | (simp [pb, List.map_take, List.map_drop, List.take_of_length_le]; done) | (simp [pb, List.map_take, List.map_drop]; omega)))))))
/-- F_codec_source_link -/
theorem link_meets (s : Sr) (hs : s.b.length ≤ 70368744177664) : Meets Try.prog F_codec_source_link ⟨[.c (.ptr 0 0)], [(0, sob s)], 1, .agg (s.link.1).enc, [(0, sob s.link.2)], 1⟩ := by
  unfold Sr.link
  dsimp only
  have m0 := identifier_meets s (by first | omega | (show s.b.length ≤ _; omega))
  have l0 := s.ident_len
  generalize s.ident = x at m0 l0 ⊢
  obtain ⟨v0, u0⟩ := x
  dsimp only at m0 l0 ⊢
  have m1 := identifier_meets u0 (by first | omega | (show u0.b.length ≤ _; omega))
  have l1 := u0.ident_len
  generalize u0.ident = x at m1 l1 ⊢
  obtain ⟨v1, u1⟩ := x
  dsimp only at m1 l1 ⊢
  have m2 := number_meets u1 (by first | omega | (show u1.b.length ≤ _; omega))
  have l2 := u1.int_len
  generalize u1.int = x at m2 l2 ⊢
  obtain ⟨v2, u2⟩ := x
  dsimp only at m2 l2 ⊢
  have m3 := count_meets 1 u2 (by first | omega | (show u2.b.length ≤ _; omega))
  have l3 := u2.count_len 1
  generalize u2.count 1 = x at m3 l3 ⊢
  obtain ⟨v3, u3⟩ := x
  dsimp only at m3 l3 ⊢
  refine fits_codec_source_link.meets rfl (by simp) fun Q hQ => ?_
  (conv => whnf); repeat' (first | (refine And.intro ?_ ?_; (focus (exact zq3)); (conv => whnf)) | (refine onB_intro (fun hb => ?_) (fun hb => ?_) <;> (try simp only [decide_eq_true_eq, decide_eq_false_iff_not, Bool.not_eq_true', Bool.not_eq_false', Bool.and_eq_true, Bool.and_eq_false_iff, Int.not_le, Int.not_lt, bsz, ByteArray.toList_eq, beq_iff_eq, beq_eq_false_iff_ne, ne_eq] at hb) <;> (try (exfalso; omega)) <;> (try (exfalso; first | contradiction | (simp [ByteArray.toList_eq] at hb; done))) <;> (conv => whnf)) | (refine (hQ _ _ _ ?_).1; (conv => whnf)) | (refine ⟨_, rfl, ?_⟩; (conv => whnf)) | (refine ⟨_, mp_cut _ _ _, ?_⟩; (conv => whnf)) | (refine ⟨_, dbs_cut _ _ _, ?_⟩; (conv => whnf)) | (refine ⟨[_], rfl, ?_⟩; (conv => whnf)) | (refine ⟨[_, _], rfl, ?_⟩; (conv => whnf)) | (refine ⟨[_, _, _], rfl, ?_⟩; (conv => whnf)) | (refine ⟨[_, _, _, _], rfl, ?_⟩; (conv => whnf)) | (apply call_obj (m0) (fun F => by first | exact rfl | exact bob_ren F _ | exact ob_ren F _ _) (fun F => by first | exact rfl | exact bob_ren F _ | exact ob_ren F _ _); (focus (exact zq0)); (focus (exact zq2)); (conv => whnf)) | (apply call_obj (m1) (fun F => by first | exact rfl | exact bob_ren F _ | exact ob_ren F _ _) (fun F => by first | exact rfl | exact bob_ren F _ | exact ob_ren F _ _); (focus (exact zq0)); (focus (exact zq2)); (conv => whnf)) | (apply call_obj (m2) (fun F => by first | exact rfl | exact bob_ren F _ | exact ob_ren F _ _) (fun F => by first | exact rfl | exact bob_ren F _ | exact ob_ren F _ _); (focus (exact zq0)); (focus (exact zq2)); (conv => whnf)) | (apply call_obj (m3) (fun F => by first | exact rfl | exact bob_ren F _ | exact ob_ren F _ _) (fun F => by first | exact rfl | exact bob_ren F _ | exact ob_ren F _ _); (focus (exact zq0)); (focus (exact zq2)); (conv => whnf)) | fail)
  all_goals (refine ret_obj rfl ?_ rfl ?_ (fun F => by first | exact rfl | (simp only [TV.rens, TV.ren, dbs_ren]; rfl) | (simp [TV.rens, TV.ren, dbs_ren, map_ren_p]; done)) (fun F => by first | exact rfl | exact bob_ren F _ | exact ob_ren F _ _); (focus (exact zq0)); (first | rfl | (refine ob2_eq ?_ ?_ <;> (first | rfl | assumption | (simp only [*]; done) | (refine dv_val ?_ ?_ <;> (first | rfl | omega | (simp [pb, List.map_take, List.map_drop, List.take_of_length_le]; done) | (simp [pb, List.map_take, List.map_drop]; omega)))))))
/-- F_codec_source_hold -/
theorem hold_meets (s : Sr) (hs : s.b.length ≤ 70368744177664) : Meets Try.prog F_codec_source_hold ⟨[.c (.ptr 0 0)], [(0, sob s)], 1, .agg (s.hold.1).enc, [(0, sob s.hold.2)], 1⟩ := by
  unfold Sr.hold
  dsimp only
  have m0 := number_meets s (by first | omega | (show s.b.length ≤ _; omega))
  have l0 := s.int_len
  generalize s.int = x at m0 l0 ⊢
  obtain ⟨v0, u0⟩ := x
  dsimp only at m0 l0 ⊢
  have m1 := number_meets u0 (by first | omega | (show u0.b.length ≤ _; omega))
  have l1 := u0.int_len
  generalize u0.int = x at m1 l1 ⊢
  obtain ⟨v1, u1⟩ := x
  dsimp only at m1 l1 ⊢
  have m2 := identifier_meets u1 (by first | omega | (show u1.b.length ≤ _; omega))
  have l2 := u1.ident_len
  generalize u1.ident = x at m2 l2 ⊢
  obtain ⟨v2, u2⟩ := x
  dsimp only at m2 l2 ⊢
  have m3 := number_meets u2 (by first | omega | (show u2.b.length ≤ _; omega))
  have l3 := u2.int_len
  generalize u2.int = x at m3 l3 ⊢
  obtain ⟨v3, u3⟩ := x
  dsimp only at m3 l3 ⊢
  have m4 := number_meets u3 (by first | omega | (show u3.b.length ≤ _; omega))
  have l4 := u3.int_len
  generalize u3.int = x at m4 l4 ⊢
  obtain ⟨v4, u4⟩ := x
  dsimp only at m4 l4 ⊢
  have m5 := number_meets u4 (by first | omega | (show u4.b.length ≤ _; omega))
  have l5 := u4.int_len
  generalize u4.int = x at m5 l5 ⊢
  obtain ⟨v5, u5⟩ := x
  dsimp only at m5 l5 ⊢
  refine fits_codec_source_hold.meets rfl (by simp) fun Q hQ => ?_
  (conv => whnf); repeat' (first | (refine And.intro ?_ ?_; (focus (exact zq3)); (conv => whnf)) | (refine onB_intro (fun hb => ?_) (fun hb => ?_) <;> (try simp only [decide_eq_true_eq, decide_eq_false_iff_not, Bool.not_eq_true', Bool.not_eq_false', Bool.and_eq_true, Bool.and_eq_false_iff, Int.not_le, Int.not_lt, bsz, ByteArray.toList_eq, beq_iff_eq, beq_eq_false_iff_ne, ne_eq] at hb) <;> (try (exfalso; omega)) <;> (try (exfalso; first | contradiction | (simp [ByteArray.toList_eq] at hb; done))) <;> (conv => whnf)) | (refine (hQ _ _ _ ?_).1; (conv => whnf)) | (refine ⟨_, rfl, ?_⟩; (conv => whnf)) | (refine ⟨_, mp_cut _ _ _, ?_⟩; (conv => whnf)) | (refine ⟨_, dbs_cut _ _ _, ?_⟩; (conv => whnf)) | (refine ⟨[_], rfl, ?_⟩; (conv => whnf)) | (refine ⟨[_, _], rfl, ?_⟩; (conv => whnf)) | (refine ⟨[_, _, _], rfl, ?_⟩; (conv => whnf)) | (refine ⟨[_, _, _, _], rfl, ?_⟩; (conv => whnf)) | (apply call_obj (m0) (fun F => by first | exact rfl | exact bob_ren F _ | exact ob_ren F _ _) (fun F => by first | exact rfl | exact bob_ren F _ | exact ob_ren F _ _); (focus (exact zq0)); (focus (exact zq2)); (conv => whnf)) | (apply call_obj (m1) (fun F => by first | exact rfl | exact bob_ren F _ | exact ob_ren F _ _) (fun F => by first | exact rfl | exact bob_ren F _ | exact ob_ren F _ _); (focus (exact zq0)); (focus (exact zq2)); (conv => whnf)) | (apply call_obj (m2) (fun F => by first | exact rfl | exact bob_ren F _ | exact ob_ren F _ _) (fun F => by first | exact rfl | exact bob_ren F _ | exact ob_ren F _ _); (focus (exact zq0)); (focus (exact zq2)); (conv => whnf)) | (apply call_obj (m3) (fun F => by first | exact rfl | exact bob_ren F _ | exact ob_ren F _ _) (fun F => by first | exact rfl | exact bob_ren F _ | exact ob_ren F _ _); (focus (exact zq0)); (focus (exact zq2)); (conv => whnf)) | (apply call_obj (m4) (fun F => by first | exact rfl | exact bob_ren F _ | exact ob_ren F _ _) (fun F => by first | exact rfl | exact bob_ren F _ | exact ob_ren F _ _); (focus (exact zq0)); (focus (exact zq2)); (conv => whnf)) | (apply call_obj (m5) (fun F => by first | exact rfl | exact bob_ren F _ | exact ob_ren F _ _) (fun F => by first | exact rfl | exact bob_ren F _ | exact ob_ren F _ _); (focus (exact zq0)); (focus (exact zq2)); (conv => whnf)) | fail)
  all_goals (refine ret_obj rfl ?_ rfl ?_ (fun F => by first | exact rfl | (simp only [TV.rens, TV.ren, dbs_ren]; rfl) | (simp [TV.rens, TV.ren, dbs_ren, map_ren_p]; done)) (fun F => by first | exact rfl | exact bob_ren F _ | exact ob_ren F _ _); (focus (exact zq0)); (first | rfl | (refine ob2_eq ?_ ?_ <;> (first | rfl | assumption | (simp only [*]; done) | (refine dv_val ?_ ?_ <;> (first | rfl | omega | (simp [pb, List.map_take, List.map_drop, List.take_of_length_le]; done) | (simp [pb, List.map_take, List.map_drop]; omega)))))))
/-- F_codec_source_request -/
theorem request_meets (s : Sr) (hs : s.b.length ≤ 70368744177664) : Meets Try.prog F_codec_source_request ⟨[.c (.ptr 0 0)], [(0, sob s)], 1, .agg (s.req.1).enc, [(0, sob s.req.2)], 1⟩ := by
  unfold Sr.req
  dsimp only
  have m0 := number_meets s (by first | omega | (show s.b.length ≤ _; omega))
  have l0 := s.int_len
  generalize s.int = x at m0 l0 ⊢
  obtain ⟨v0, u0⟩ := x
  dsimp only at m0 l0 ⊢
  have m1 := identifier_meets u0 (by first | omega | (show u0.b.length ≤ _; omega))
  have l1 := u0.ident_len
  generalize u0.ident = x at m1 l1 ⊢
  obtain ⟨v1, u1⟩ := x
  dsimp only at m1 l1 ⊢
  have m2 := number_meets u1 (by first | omega | (show u1.b.length ≤ _; omega))
  have l2 := u1.int_len
  generalize u1.int = x at m2 l2 ⊢
  obtain ⟨v2, u2⟩ := x
  dsimp only at m2 l2 ⊢
  have m3 := number_meets u2 (by first | omega | (show u2.b.length ≤ _; omega))
  have l3 := u2.int_len
  generalize u2.int = x at m3 l3 ⊢
  obtain ⟨v3, u3⟩ := x
  dsimp only at m3 l3 ⊢
  have m4 := number_meets u3 (by first | omega | (show u3.b.length ≤ _; omega))
  have l4 := u3.int_len
  generalize u3.int = x at m4 l4 ⊢
  obtain ⟨v4, u4⟩ := x
  dsimp only at m4 l4 ⊢
  refine fits_codec_source_request.meets rfl (by simp) fun Q hQ => ?_
  (conv => whnf); repeat' (first | (refine And.intro ?_ ?_; (focus (exact zq3)); (conv => whnf)) | (refine onB_intro (fun hb => ?_) (fun hb => ?_) <;> (try simp only [decide_eq_true_eq, decide_eq_false_iff_not, Bool.not_eq_true', Bool.not_eq_false', Bool.and_eq_true, Bool.and_eq_false_iff, Int.not_le, Int.not_lt, bsz, ByteArray.toList_eq, beq_iff_eq, beq_eq_false_iff_ne, ne_eq] at hb) <;> (try (exfalso; omega)) <;> (try (exfalso; first | contradiction | (simp [ByteArray.toList_eq] at hb; done))) <;> (conv => whnf)) | (refine (hQ _ _ _ ?_).1; (conv => whnf)) | (refine ⟨_, rfl, ?_⟩; (conv => whnf)) | (refine ⟨_, mp_cut _ _ _, ?_⟩; (conv => whnf)) | (refine ⟨_, dbs_cut _ _ _, ?_⟩; (conv => whnf)) | (refine ⟨[_], rfl, ?_⟩; (conv => whnf)) | (refine ⟨[_, _], rfl, ?_⟩; (conv => whnf)) | (refine ⟨[_, _, _], rfl, ?_⟩; (conv => whnf)) | (refine ⟨[_, _, _, _], rfl, ?_⟩; (conv => whnf)) | (apply call_obj (m0) (fun F => by first | exact rfl | exact bob_ren F _ | exact ob_ren F _ _) (fun F => by first | exact rfl | exact bob_ren F _ | exact ob_ren F _ _); (focus (exact zq0)); (focus (exact zq2)); (conv => whnf)) | (apply call_obj (m1) (fun F => by first | exact rfl | exact bob_ren F _ | exact ob_ren F _ _) (fun F => by first | exact rfl | exact bob_ren F _ | exact ob_ren F _ _); (focus (exact zq0)); (focus (exact zq2)); (conv => whnf)) | (apply call_obj (m2) (fun F => by first | exact rfl | exact bob_ren F _ | exact ob_ren F _ _) (fun F => by first | exact rfl | exact bob_ren F _ | exact ob_ren F _ _); (focus (exact zq0)); (focus (exact zq2)); (conv => whnf)) | (apply call_obj (m3) (fun F => by first | exact rfl | exact bob_ren F _ | exact ob_ren F _ _) (fun F => by first | exact rfl | exact bob_ren F _ | exact ob_ren F _ _); (focus (exact zq0)); (focus (exact zq2)); (conv => whnf)) | (apply call_obj (m4) (fun F => by first | exact rfl | exact bob_ren F _ | exact ob_ren F _ _) (fun F => by first | exact rfl | exact bob_ren F _ | exact ob_ren F _ _); (focus (exact zq0)); (focus (exact zq2)); (conv => whnf)) | fail)
  all_goals (refine ret_obj rfl ?_ rfl ?_ (fun F => by first | exact rfl | (simp only [TV.rens, TV.ren, dbs_ren]; rfl) | (simp [TV.rens, TV.ren, dbs_ren, map_ren_p]; done)) (fun F => by first | exact rfl | exact bob_ren F _ | exact ob_ren F _ _); (focus (exact zq0)); (first | rfl | (refine ob2_eq ?_ ?_ <;> (first | rfl | assumption | (simp only [*]; done) | (refine dv_val ?_ ?_ <;> (first | rfl | omega | (simp [pb, List.map_take, List.map_drop, List.take_of_length_le]; done) | (simp [pb, List.map_take, List.map_drop]; omega)))))))
/-- F_erasureref26Reader_Identifier -/
theorem rIdentifier_meets (s : Sr) (hs : s.b.length ≤ 70368744177664) : Meets Try.prog F_erasureref26Reader_Identifier ⟨[.c (.ptr 0 0)], [(0, rob s)], 1, .agg (s.ident.1).enc, [(0, rob s.ident.2)], 1⟩ := by
  unfold Sr.ident
  dsimp only
  have m0 := rText_meets 16 s (by first | omega | (show s.b.length ≤ _; omega))
  have l0 := s.text_len 16
  generalize s.text 16 = x at m0 l0 ⊢
  obtain ⟨v0, u0⟩ := x
  dsimp only at m0 l0 ⊢
  have m1 := rValue_meets u0 (by first | omega | (show u0.b.length ≤ _; omega))
  have l1 := u0.value_len
  generalize u0.value = x at m1 l1 ⊢
  obtain ⟨v1, u1⟩ := x
  dsimp only at m1 l1 ⊢
  refine fits_erasureref26Reader_Identifier.meets rfl (by simp) fun Q hQ => ?_
  (conv => whnf); repeat' (first | (refine And.intro ?_ ?_; (focus (exact zq3)); (conv => whnf)) | (refine onB_intro (fun hb => ?_) (fun hb => ?_) <;> (try simp only [decide_eq_true_eq, decide_eq_false_iff_not, Bool.not_eq_true', Bool.not_eq_false', Bool.and_eq_true, Bool.and_eq_false_iff, Int.not_le, Int.not_lt, bsz, ByteArray.toList_eq, beq_iff_eq, beq_eq_false_iff_ne, ne_eq] at hb) <;> (try (exfalso; omega)) <;> (try (exfalso; first | contradiction | (simp [ByteArray.toList_eq] at hb; done))) <;> (conv => whnf)) | (refine (hQ _ _ _ ?_).1; (conv => whnf)) | (refine ⟨_, rfl, ?_⟩; (conv => whnf)) | (refine ⟨_, mp_cut _ _ _, ?_⟩; (conv => whnf)) | (refine ⟨_, dbs_cut _ _ _, ?_⟩; (conv => whnf)) | (refine ⟨[_], rfl, ?_⟩; (conv => whnf)) | (refine ⟨[_, _], rfl, ?_⟩; (conv => whnf)) | (refine ⟨[_, _, _], rfl, ?_⟩; (conv => whnf)) | (refine ⟨[_, _, _, _], rfl, ?_⟩; (conv => whnf)) | (apply call_obj (m0) (fun F => by first | exact rfl | exact bob_ren F _ | exact ob_ren F _ _) (fun F => by first | exact rfl | exact bob_ren F _ | exact ob_ren F _ _); (focus (exact zq0)); (focus (exact zq2)); (conv => whnf)) | (apply call_obj (m1) (fun F => by first | exact rfl | exact bob_ren F _ | exact ob_ren F _ _) (fun F => by first | exact rfl | exact bob_ren F _ | exact ob_ren F _ _); (focus (exact zq0)); (focus (exact zq2)); (conv => whnf)) | fail)
  all_goals (refine ret_obj rfl ?_ rfl ?_ (fun F => by first | exact rfl | (simp only [TV.rens, TV.ren, dbs_ren]; rfl) | (simp [TV.rens, TV.ren, dbs_ren, map_ren_p]; done)) (fun F => by first | exact rfl | exact bob_ren F _ | exact ob_ren F _ _); (focus (exact zq0)); (first | rfl | (refine ob2_eq ?_ ?_ <;> (first | rfl | assumption | (simp only [*]; done) | (refine dv_val ?_ ?_ <;> (first | rfl | omega | (simp [pb, List.map_take, List.map_drop, List.take_of_length_le]; done) | (simp [pb, List.map_take, List.map_drop]; omega)))))))
/-- F_erasureref26Reader_Link -/
theorem rLink_meets (s : Sr) (hs : s.b.length ≤ 70368744177664) : Meets Try.prog F_erasureref26Reader_Link ⟨[.c (.ptr 0 0)], [(0, rob s)], 1, .agg (s.link.1).enc, [(0, rob s.link.2)], 1⟩ := by
  unfold Sr.link
  dsimp only
  have m0 := rIdentifier_meets s (by first | omega | (show s.b.length ≤ _; omega))
  have l0 := s.ident_len
  generalize s.ident = x at m0 l0 ⊢
  obtain ⟨v0, u0⟩ := x
  dsimp only at m0 l0 ⊢
  have m1 := rIdentifier_meets u0 (by first | omega | (show u0.b.length ≤ _; omega))
  have l1 := u0.ident_len
  generalize u0.ident = x at m1 l1 ⊢
  obtain ⟨v1, u1⟩ := x
  dsimp only at m1 l1 ⊢
  have m2 := rInt_meets u1 (by first | omega | (show u1.b.length ≤ _; omega))
  have l2 := u1.int_len
  generalize u1.int = x at m2 l2 ⊢
  obtain ⟨v2, u2⟩ := x
  dsimp only at m2 l2 ⊢
  have m3 := rcount_meets 1 u2 (by first | omega | (show u2.b.length ≤ _; omega))
  have l3 := u2.count_len 1
  generalize u2.count 1 = x at m3 l3 ⊢
  obtain ⟨v3, u3⟩ := x
  dsimp only at m3 l3 ⊢
  refine fits_erasureref26Reader_Link.meets rfl (by simp) fun Q hQ => ?_
  (conv => whnf); repeat' (first | (refine And.intro ?_ ?_; (focus (exact zq3)); (conv => whnf)) | (refine onB_intro (fun hb => ?_) (fun hb => ?_) <;> (try simp only [decide_eq_true_eq, decide_eq_false_iff_not, Bool.not_eq_true', Bool.not_eq_false', Bool.and_eq_true, Bool.and_eq_false_iff, Int.not_le, Int.not_lt, bsz, ByteArray.toList_eq, beq_iff_eq, beq_eq_false_iff_ne, ne_eq] at hb) <;> (try (exfalso; omega)) <;> (try (exfalso; first | contradiction | (simp [ByteArray.toList_eq] at hb; done))) <;> (conv => whnf)) | (refine (hQ _ _ _ ?_).1; (conv => whnf)) | (refine ⟨_, rfl, ?_⟩; (conv => whnf)) | (refine ⟨_, mp_cut _ _ _, ?_⟩; (conv => whnf)) | (refine ⟨_, dbs_cut _ _ _, ?_⟩; (conv => whnf)) | (refine ⟨[_], rfl, ?_⟩; (conv => whnf)) | (refine ⟨[_, _], rfl, ?_⟩; (conv => whnf)) | (refine ⟨[_, _, _], rfl, ?_⟩; (conv => whnf)) | (refine ⟨[_, _, _, _], rfl, ?_⟩; (conv => whnf)) | (apply call_obj (m0) (fun F => by first | exact rfl | exact bob_ren F _ | exact ob_ren F _ _) (fun F => by first | exact rfl | exact bob_ren F _ | exact ob_ren F _ _); (focus (exact zq0)); (focus (exact zq2)); (conv => whnf)) | (apply call_obj (m1) (fun F => by first | exact rfl | exact bob_ren F _ | exact ob_ren F _ _) (fun F => by first | exact rfl | exact bob_ren F _ | exact ob_ren F _ _); (focus (exact zq0)); (focus (exact zq2)); (conv => whnf)) | (apply call_obj (m2) (fun F => by first | exact rfl | exact bob_ren F _ | exact ob_ren F _ _) (fun F => by first | exact rfl | exact bob_ren F _ | exact ob_ren F _ _); (focus (exact zq0)); (focus (exact zq2)); (conv => whnf)) | (apply call_obj (m3) (fun F => by first | exact rfl | exact bob_ren F _ | exact ob_ren F _ _) (fun F => by first | exact rfl | exact bob_ren F _ | exact ob_ren F _ _); (focus (exact zq0)); (focus (exact zq2)); (conv => whnf)) | fail)
  all_goals (refine ret_obj rfl ?_ rfl ?_ (fun F => by first | exact rfl | (simp only [TV.rens, TV.ren, dbs_ren]; rfl) | (simp [TV.rens, TV.ren, dbs_ren, map_ren_p]; done)) (fun F => by first | exact rfl | exact bob_ren F _ | exact ob_ren F _ _); (focus (exact zq0)); (first | rfl | (refine ob2_eq ?_ ?_ <;> (first | rfl | assumption | (simp only [*]; done) | (refine dv_val ?_ ?_ <;> (first | rfl | omega | (simp [pb, List.map_take, List.map_drop, List.take_of_length_le]; done) | (simp [pb, List.map_take, List.map_drop]; omega)))))))
/-- F_erasureref26Reader_Hold -/
theorem rHold_meets (s : Sr) (hs : s.b.length ≤ 70368744177664) : Meets Try.prog F_erasureref26Reader_Hold ⟨[.c (.ptr 0 0)], [(0, rob s)], 1, .agg (s.hold.1).enc, [(0, rob s.hold.2)], 1⟩ := by
  unfold Sr.hold
  dsimp only
  have m0 := rInt_meets s (by first | omega | (show s.b.length ≤ _; omega))
  have l0 := s.int_len
  generalize s.int = x at m0 l0 ⊢
  obtain ⟨v0, u0⟩ := x
  dsimp only at m0 l0 ⊢
  have m1 := rInt_meets u0 (by first | omega | (show u0.b.length ≤ _; omega))
  have l1 := u0.int_len
  generalize u0.int = x at m1 l1 ⊢
  obtain ⟨v1, u1⟩ := x
  dsimp only at m1 l1 ⊢
  have m2 := rIdentifier_meets u1 (by first | omega | (show u1.b.length ≤ _; omega))
  have l2 := u1.ident_len
  generalize u1.ident = x at m2 l2 ⊢
  obtain ⟨v2, u2⟩ := x
  dsimp only at m2 l2 ⊢
  have m3 := rInt_meets u2 (by first | omega | (show u2.b.length ≤ _; omega))
  have l3 := u2.int_len
  generalize u2.int = x at m3 l3 ⊢
  obtain ⟨v3, u3⟩ := x
  dsimp only at m3 l3 ⊢
  have m4 := rInt_meets u3 (by first | omega | (show u3.b.length ≤ _; omega))
  have l4 := u3.int_len
  generalize u3.int = x at m4 l4 ⊢
  obtain ⟨v4, u4⟩ := x
  dsimp only at m4 l4 ⊢
  have m5 := rInt_meets u4 (by first | omega | (show u4.b.length ≤ _; omega))
  have l5 := u4.int_len
  generalize u4.int = x at m5 l5 ⊢
  obtain ⟨v5, u5⟩ := x
  dsimp only at m5 l5 ⊢
  refine fits_erasureref26Reader_Hold.meets rfl (by simp) fun Q hQ => ?_
  (conv => whnf); repeat' (first | (refine And.intro ?_ ?_; (focus (exact zq3)); (conv => whnf)) | (refine onB_intro (fun hb => ?_) (fun hb => ?_) <;> (try simp only [decide_eq_true_eq, decide_eq_false_iff_not, Bool.not_eq_true', Bool.not_eq_false', Bool.and_eq_true, Bool.and_eq_false_iff, Int.not_le, Int.not_lt, bsz, ByteArray.toList_eq, beq_iff_eq, beq_eq_false_iff_ne, ne_eq] at hb) <;> (try (exfalso; omega)) <;> (try (exfalso; first | contradiction | (simp [ByteArray.toList_eq] at hb; done))) <;> (conv => whnf)) | (refine (hQ _ _ _ ?_).1; (conv => whnf)) | (refine ⟨_, rfl, ?_⟩; (conv => whnf)) | (refine ⟨_, mp_cut _ _ _, ?_⟩; (conv => whnf)) | (refine ⟨_, dbs_cut _ _ _, ?_⟩; (conv => whnf)) | (refine ⟨[_], rfl, ?_⟩; (conv => whnf)) | (refine ⟨[_, _], rfl, ?_⟩; (conv => whnf)) | (refine ⟨[_, _, _], rfl, ?_⟩; (conv => whnf)) | (refine ⟨[_, _, _, _], rfl, ?_⟩; (conv => whnf)) | (apply call_obj (m0) (fun F => by first | exact rfl | exact bob_ren F _ | exact ob_ren F _ _) (fun F => by first | exact rfl | exact bob_ren F _ | exact ob_ren F _ _); (focus (exact zq0)); (focus (exact zq2)); (conv => whnf)) | (apply call_obj (m1) (fun F => by first | exact rfl | exact bob_ren F _ | exact ob_ren F _ _) (fun F => by first | exact rfl | exact bob_ren F _ | exact ob_ren F _ _); (focus (exact zq0)); (focus (exact zq2)); (conv => whnf)) | (apply call_obj (m2) (fun F => by first | exact rfl | exact bob_ren F _ | exact ob_ren F _ _) (fun F => by first | exact rfl | exact bob_ren F _ | exact ob_ren F _ _); (focus (exact zq0)); (focus (exact zq2)); (conv => whnf)) | (apply call_obj (m3) (fun F => by first | exact rfl | exact bob_ren F _ | exact ob_ren F _ _) (fun F => by first | exact rfl | exact bob_ren F _ | exact ob_ren F _ _); (focus (exact zq0)); (focus (exact zq2)); (conv => whnf)) | (apply call_obj (m4) (fun F => by first | exact rfl | exact bob_ren F _ | exact ob_ren F _ _) (fun F => by first | exact rfl | exact bob_ren F _ | exact ob_ren F _ _); (focus (exact zq0)); (focus (exact zq2)); (conv => whnf)) | (apply call_obj (m5) (fun F => by first | exact rfl | exact bob_ren F _ | exact ob_ren F _ _) (fun F => by first | exact rfl | exact bob_ren F _ | exact ob_ren F _ _); (focus (exact zq0)); (focus (exact zq2)); (conv => whnf)) | fail)
  all_goals (refine ret_obj rfl ?_ rfl ?_ (fun F => by first | exact rfl | (simp only [TV.rens, TV.ren, dbs_ren]; rfl) | (simp [TV.rens, TV.ren, dbs_ren, map_ren_p]; done)) (fun F => by first | exact rfl | exact bob_ren F _ | exact ob_ren F _ _); (focus (exact zq0)); (first | rfl | (refine ob2_eq ?_ ?_ <;> (first | rfl | assumption | (simp only [*]; done) | (refine dv_val ?_ ?_ <;> (first | rfl | omega | (simp [pb, List.map_take, List.map_drop, List.take_of_length_le]; done) | (simp [pb, List.map_take, List.map_drop]; omega)))))))
/-- F_erasureref26Reader_Request -/
theorem rRequest_meets (s : Sr) (hs : s.b.length ≤ 70368744177664) : Meets Try.prog F_erasureref26Reader_Request ⟨[.c (.ptr 0 0)], [(0, rob s)], 1, .agg (s.req.1).enc, [(0, rob s.req.2)], 1⟩ := by
  unfold Sr.req
  dsimp only
  have m0 := rInt_meets s (by first | omega | (show s.b.length ≤ _; omega))
  have l0 := s.int_len
  generalize s.int = x at m0 l0 ⊢
  obtain ⟨v0, u0⟩ := x
  dsimp only at m0 l0 ⊢
  have m1 := rIdentifier_meets u0 (by first | omega | (show u0.b.length ≤ _; omega))
  have l1 := u0.ident_len
  generalize u0.ident = x at m1 l1 ⊢
  obtain ⟨v1, u1⟩ := x
  dsimp only at m1 l1 ⊢
  have m2 := rInt_meets u1 (by first | omega | (show u1.b.length ≤ _; omega))
  have l2 := u1.int_len
  generalize u1.int = x at m2 l2 ⊢
  obtain ⟨v2, u2⟩ := x
  dsimp only at m2 l2 ⊢
  have m3 := rInt_meets u2 (by first | omega | (show u2.b.length ≤ _; omega))
  have l3 := u2.int_len
  generalize u2.int = x at m3 l3 ⊢
  obtain ⟨v3, u3⟩ := x
  dsimp only at m3 l3 ⊢
  have m4 := rInt_meets u3 (by first | omega | (show u3.b.length ≤ _; omega))
  have l4 := u3.int_len
  generalize u3.int = x at m4 l4 ⊢
  obtain ⟨v4, u4⟩ := x
  dsimp only at m4 l4 ⊢
  refine fits_erasureref26Reader_Request.meets rfl (by simp) fun Q hQ => ?_
  (conv => whnf); repeat' (first | (refine And.intro ?_ ?_; (focus (exact zq3)); (conv => whnf)) | (refine onB_intro (fun hb => ?_) (fun hb => ?_) <;> (try simp only [decide_eq_true_eq, decide_eq_false_iff_not, Bool.not_eq_true', Bool.not_eq_false', Bool.and_eq_true, Bool.and_eq_false_iff, Int.not_le, Int.not_lt, bsz, ByteArray.toList_eq, beq_iff_eq, beq_eq_false_iff_ne, ne_eq] at hb) <;> (try (exfalso; omega)) <;> (try (exfalso; first | contradiction | (simp [ByteArray.toList_eq] at hb; done))) <;> (conv => whnf)) | (refine (hQ _ _ _ ?_).1; (conv => whnf)) | (refine ⟨_, rfl, ?_⟩; (conv => whnf)) | (refine ⟨_, mp_cut _ _ _, ?_⟩; (conv => whnf)) | (refine ⟨_, dbs_cut _ _ _, ?_⟩; (conv => whnf)) | (refine ⟨[_], rfl, ?_⟩; (conv => whnf)) | (refine ⟨[_, _], rfl, ?_⟩; (conv => whnf)) | (refine ⟨[_, _, _], rfl, ?_⟩; (conv => whnf)) | (refine ⟨[_, _, _, _], rfl, ?_⟩; (conv => whnf)) | (apply call_obj (m0) (fun F => by first | exact rfl | exact bob_ren F _ | exact ob_ren F _ _) (fun F => by first | exact rfl | exact bob_ren F _ | exact ob_ren F _ _); (focus (exact zq0)); (focus (exact zq2)); (conv => whnf)) | (apply call_obj (m1) (fun F => by first | exact rfl | exact bob_ren F _ | exact ob_ren F _ _) (fun F => by first | exact rfl | exact bob_ren F _ | exact ob_ren F _ _); (focus (exact zq0)); (focus (exact zq2)); (conv => whnf)) | (apply call_obj (m2) (fun F => by first | exact rfl | exact bob_ren F _ | exact ob_ren F _ _) (fun F => by first | exact rfl | exact bob_ren F _ | exact ob_ren F _ _); (focus (exact zq0)); (focus (exact zq2)); (conv => whnf)) | (apply call_obj (m3) (fun F => by first | exact rfl | exact bob_ren F _ | exact ob_ren F _ _) (fun F => by first | exact rfl | exact bob_ren F _ | exact ob_ren F _ _); (focus (exact zq0)); (focus (exact zq2)); (conv => whnf)) | (apply call_obj (m4) (fun F => by first | exact rfl | exact bob_ren F _ | exact ob_ren F _ _) (fun F => by first | exact rfl | exact bob_ren F _ | exact ob_ren F _ _); (focus (exact zq0)); (focus (exact zq2)); (conv => whnf)) | fail)
  all_goals (refine ret_obj rfl ?_ rfl ?_ (fun F => by first | exact rfl | (simp only [TV.rens, TV.ren, dbs_ren]; rfl) | (simp [TV.rens, TV.ren, dbs_ren, map_ren_p]; done)) (fun F => by first | exact rfl | exact bob_ren F _ | exact ob_ren F _ _); (focus (exact zq0)); (first | rfl | (refine ob2_eq ?_ ?_ <;> (first | rfl | assumption | (simp only [*]; done) | (refine dv_val ?_ ?_ <;> (first | rfl | omega | (simp [pb, List.map_take, List.map_drop, List.take_of_length_le]; done) | (simp [pb, List.map_take, List.map_drop]; omega)))))))
end Go.Proofs.Ytjieenfbfckafaa.Am
namespace Go.Proofs.Ytjieenfbfckafaa.Am
open Go
set_option linter.unusedVariables false
set_option linter.unusedSimpArgs false
set_option maxRecDepth 100000
set_option maxHeartbeats 1000000
theorem sub_agg_eq {ds es : List DV} (h : ds = es) : Sub (.agg ds) (.agg es) := by subst h; exact Sub.refl _
theorem agg_ren (F : Nat → Nat) (l : List UInt8) : (TV.agg (dbs l)).ren F = .agg (dbs l) := by
  show TV.agg ((dbs l).map (DV.ren F)) = _
  rw [dbs_ren]
theorem dbs_take (w : List UInt8) (n : Nat) : (dbs w).take n = dbs (w.take n) := by simp [dbs, pb, List.map_take]
theorem dbs_drop (w : List UInt8) (n : Nat) : (dbs w).drop n = dbs (w.drop n) := by simp [dbs, pb, List.map_drop]
theorem store_eq {l z : List UInt8} {k : Nat} {c : UInt8} (hc : l[k]? = some c) :
    List.take (0 + Int.toNat (k : Int) * 1) (dbs (l.take k ++ z.drop k)) ++ [.p (pb1 c)] ++ List.drop (0 + Int.toNat (k : Int) * 1 + 1) (dbs (l.take k ++ z.drop k)) = dbs (l.take (k + 1) ++ z.drop (k + 1)) := by
  have hk : k < l.length := (List.getElem?_eq_some_iff.1 hc).1
  have hl : (l.take k).length = k := by simp; omega
  rw [show 0 + Int.toNat (k : Int) * 1 = k by omega, dbs_take, dbs_drop, List.take_append_of_le_length (by omega), List.take_take, Nat.min_self, List.drop_append, List.drop_eq_nil_of_le (by omega), List.nil_append, hl, List.drop_drop, take_snoc hc]
  rw [show k + (k + 1 - k) = k + 1 by omega]
  simp [dbs, pb]
theorem take32 (s : Sr) : ((s.take 32).2.e = 0 ∧ (s.take 32).1.length = 32) ∨ ((s.take 32).2.e ≠ 0 ∧ (s.take 32).1 = []) := by
  unfold Sr.take
  split
  · split
    · exact .inr ⟨by simp, rfl⟩
    · exact .inl ⟨rfl, by simp; omega⟩
  · exact .inr ⟨by assumption, rfl⟩
/-- codec.source.digest -/
theorem digest_meets (s : Sr) (hs : s.b.length ≤ 70368744177664) : Meets Try.prog F_codec_source_digest ⟨[.c (.ptr 0 0)], [(0, sob s)], 1, .agg (dbs s.digest.1), [(0, sob s.digest.2)], 1⟩ := by
  unfold Sr.digest
  dsimp only
  have h := take32 s
  have m1 := take_meets 32 s (by show s.b.length ≤ _; omega)
  generalize s.take 32 = x at m1 h ⊢
  obtain ⟨l, t⟩ := x
  dsimp only at m1 h ⊢
  rcases h with ⟨he, hl⟩ | ⟨he, hl⟩
  · rw [if_pos he]
    refine fits_codec_source_digest.meets rfl (by simp) fun Q hQ => ?_
    (conv => whnf); repeat' (first | (refine And.intro ?_ ?_; (focus (exact zq3)); (conv => whnf)) | (refine onB_intro (fun hb => ?_) (fun hb => ?_) <;> (try simp only [decide_eq_true_eq, decide_eq_false_iff_not, Bool.not_eq_true', Bool.not_eq_false', Bool.and_eq_true, Bool.and_eq_false_iff, Int.not_le, Int.not_lt, bsz, ByteArray.toList_eq, beq_iff_eq, beq_eq_false_iff_ne, ne_eq] at hb) <;> (try (exfalso; omega)) <;> (try (exfalso; first | contradiction | (simp [ByteArray.toList_eq] at hb; done))) <;> (conv => whnf)) | (refine (hQ _ _ _ ?_).1; (conv => whnf)) | (refine ⟨_, rfl, ?_⟩; (conv => whnf)) | (refine ⟨_, mp_cut _ _ _, ?_⟩; (conv => whnf)) | (refine ⟨_, dbs_cut _ _ _, ?_⟩; (conv => whnf)) | (refine ⟨[_], rfl, ?_⟩; (conv => whnf)) | (refine ⟨[_, _], rfl, ?_⟩; (conv => whnf)) | (refine ⟨[_, _, _], rfl, ?_⟩; (conv => whnf)) | (refine ⟨[_, _, _, _], rfl, ?_⟩; (conv => whnf)) | (apply call_obj (m1) (fun F => by first | exact rfl | exact bob_ren F _ | exact ob_ren F _ _) (fun F => by first | exact rfl | exact bob_ren F _ | exact ob_ren F _ _); (focus (exact zq0)); (focus (exact zq2)); (conv => whnf)) | (simp only [hl]; (conv => whnf)) | fail)
    refine ret_obj rfl (sub_agg_eq ?_) rfl rfl (fun F => agg_ren F _) (fun F => rfl)
    simp [hl, dbs, pb, List.take_of_length_le]
  · subst hl
    rw [if_neg he]
    refine fits_codec_source_digest.meets rfl (by simp) fun Q hQ => ?_
    (conv => whnf); repeat' (first | (refine And.intro ?_ ?_; (focus (exact zq3)); (conv => whnf)) | (refine onB_intro (fun hb => ?_) (fun hb => ?_) <;> (try simp only [decide_eq_true_eq, decide_eq_false_iff_not, Bool.not_eq_true', Bool.not_eq_false', Bool.and_eq_true, Bool.and_eq_false_iff, Int.not_le, Int.not_lt, bsz, ByteArray.toList_eq, beq_iff_eq, beq_eq_false_iff_ne, ne_eq] at hb) <;> (try (exfalso; omega)) <;> (try (exfalso; first | contradiction | (simp [ByteArray.toList_eq] at hb; done))) <;> (conv => whnf)) | (refine (hQ _ _ _ ?_).1; (conv => whnf)) | (refine ⟨_, rfl, ?_⟩; (conv => whnf)) | (refine ⟨_, mp_cut _ _ _, ?_⟩; (conv => whnf)) | (refine ⟨_, dbs_cut _ _ _, ?_⟩; (conv => whnf)) | (refine ⟨[_], rfl, ?_⟩; (conv => whnf)) | (refine ⟨[_, _], rfl, ?_⟩; (conv => whnf)) | (refine ⟨[_, _, _], rfl, ?_⟩; (conv => whnf)) | (refine ⟨[_, _, _, _], rfl, ?_⟩; (conv => whnf)) | (apply call_obj (m1) (fun F => by first | exact rfl | exact bob_ren F _ | exact ob_ren F _ _) (fun F => by first | exact rfl | exact bob_ren F _ | exact ob_ren F _ _); (focus (exact zq0)); (focus (exact zq2)); (conv => whnf)) | fail)
    exact ret_obj rfl (sub_agg_eq rfl) rfl rfl (fun F => agg_ren F _) (fun F => rfl)
/-- erasureref26.Reader.Digest -/
theorem rDigest_meets (s : Sr) (hs : s.b.length ≤ 70368744177664) : Meets Try.prog F_erasureref26Reader_Digest ⟨[.c (.ptr 0 0)], [(0, rob s)], 1, .agg (dbs s.digest.1), [(0, rob s.digest.2)], 1⟩ := by
  unfold Sr.digest
  dsimp only
  have h := take32 s
  have m1 := rtake_meets 32 s (by omega)
  generalize s.take 32 = x at m1 h ⊢
  obtain ⟨l, t⟩ := x
  dsimp only at m1 h ⊢
  have hlen : l.length ≤ 32 := by rcases h with h | h <;> simp [h.2]
  refine fits_erasureref26Reader_Digest.meets rfl (by simp) fun Q hQ => ?_
  (conv => whnf); repeat' (first | (refine And.intro ?_ ?_; (focus (exact zq3)); (conv => whnf)) | (refine onB_intro (fun hb => ?_) (fun hb => ?_) <;> (try simp only [decide_eq_true_eq, decide_eq_false_iff_not, Bool.not_eq_true', Bool.not_eq_false', Bool.and_eq_true, Bool.and_eq_false_iff, Int.not_le, Int.not_lt, bsz, ByteArray.toList_eq, beq_iff_eq, beq_eq_false_iff_ne, ne_eq] at hb) <;> (try (exfalso; omega)) <;> (try (exfalso; first | contradiction | (simp [ByteArray.toList_eq] at hb; done))) <;> (conv => whnf)) | (refine (hQ _ _ _ ?_).1; (conv => whnf)) | (refine ⟨_, rfl, ?_⟩; (conv => whnf)) | (refine ⟨_, mp_cut _ _ _, ?_⟩; (conv => whnf)) | (refine ⟨_, dbs_cut _ _ _, ?_⟩; (conv => whnf)) | (refine ⟨[_], rfl, ?_⟩; (conv => whnf)) | (refine ⟨[_, _], rfl, ?_⟩; (conv => whnf)) | (refine ⟨[_, _, _], rfl, ?_⟩; (conv => whnf)) | (refine ⟨[_, _, _, _], rfl, ?_⟩; (conv => whnf)) | (apply call_obj (m1) (fun F => by first | exact rfl | exact bob_ren F _ | exact ob_ren F _ _) (fun F => by first | exact rfl | exact bob_ren F _ | exact ob_ren F _ _); (focus (exact zq0)); (focus (exact zq2)); (conv => whnf)) | fail)
  refine loop_fam (fun k : Nat => ⟨[(2, .c (.ptr 1 0)), (3, .c (.ptr 2 0)), (4, .c (bs l)), (5, vi k)], [(0, rob t), (1, ⟨T_api_Digest, dbs zero32⟩), (2, ⟨T_api_Digest, dbs (l.take k ++ zero32.drop k)⟩)], 3⟩) (fun k => l.length - k) (fun k => k ≤ l.length) 0
    (wkn [(1, 1), (2, 2)] rfl rfl ⟨Sub.refl _, Sub.refl _, Sub.refl _, Sub.refl _, trivial⟩ ⟨rfl, hp_pure rfl rfl, hp_pure rfl rfl, trivial⟩) (Nat.zero_le _) ?_
  intro k hk K hK
  have hz : zero32.length = 32 := rfl
  have hw : (l.take k ++ zero32.drop k).length = 32 := by simp [hz]; omega
  rcases Nat.lt_or_ge k l.length with hlt | hge
  · obtain ⟨c, hc⟩ : ∃ c, l[k]? = some c := ⟨_, List.getElem?_eq_getElem hlt⟩
    have hd : (dbs (l.take k ++ zero32.drop k)).length = 32 := by rw [dbs_length, hw]
    (conv => whnf); repeat' (first | (refine And.intro ?_ ?_; (focus (exact zq3)); (conv => whnf)) | (refine onB_intro (fun hb => ?_) (fun hb => ?_) <;> (try simp only [decide_eq_true_eq, decide_eq_false_iff_not, Bool.not_eq_true', Bool.not_eq_false', Bool.and_eq_true, Bool.and_eq_false_iff, Int.not_le, Int.not_lt, bsz, ByteArray.toList_eq, beq_iff_eq, beq_eq_false_iff_ne, ne_eq] at hb) <;> (try (exfalso; omega)) <;> (try (exfalso; first | contradiction | (simp [ByteArray.toList_eq] at hb; done))) <;> (conv => whnf)) | (refine (hQ _ _ _ ?_).1; (conv => whnf)) | (refine ⟨_, rfl, ?_⟩; (conv => whnf)) | (refine ⟨_, mp_cut _ _ _, ?_⟩; (conv => whnf)) | (refine ⟨_, dbs_cut _ _ _, ?_⟩; (conv => whnf)) | (refine ⟨[_], rfl, ?_⟩; (conv => whnf)) | (refine ⟨[_, _], rfl, ?_⟩; (conv => whnf)) | (refine ⟨[_, _, _], rfl, ?_⟩; (conv => whnf)) | (refine ⟨[_, _, _, _], rfl, ?_⟩; (conv => whnf)) | (simp only [elem_pb hc]; (conv => whnf)) | fail)
    exact hK _ _ _ (k + 1) (by omega) (by omega) (wkn [(1, 1), (2, 2)] rfl rfl ⟨Sub.refl _, Sub.refl _, Sub.refl _, sub_int (by omega), trivial⟩ ⟨rfl, hp_pure rfl rfl, hp_pure rfl (store_eq hc), trivial⟩)
  · have : k = l.length := by omega
    subst this
    (conv => whnf); repeat' (first | (refine And.intro ?_ ?_; (focus (exact zq3)); (conv => whnf)) | (refine onB_intro (fun hb => ?_) (fun hb => ?_) <;> (try simp only [decide_eq_true_eq, decide_eq_false_iff_not, Bool.not_eq_true', Bool.not_eq_false', Bool.and_eq_true, Bool.and_eq_false_iff, Int.not_le, Int.not_lt, bsz, ByteArray.toList_eq, beq_iff_eq, beq_eq_false_iff_ne, ne_eq] at hb) <;> (try (exfalso; omega)) <;> (try (exfalso; first | contradiction | (simp [ByteArray.toList_eq] at hb; done))) <;> (conv => whnf)) | (refine (hQ _ _ _ ?_).1; (conv => whnf)) | (refine ⟨_, rfl, ?_⟩; (conv => whnf)) | (refine ⟨_, mp_cut _ _ _, ?_⟩; (conv => whnf)) | (refine ⟨_, dbs_cut _ _ _, ?_⟩; (conv => whnf)) | (refine ⟨[_], rfl, ?_⟩; (conv => whnf)) | (refine ⟨[_, _], rfl, ?_⟩; (conv => whnf)) | (refine ⟨[_, _, _], rfl, ?_⟩; (conv => whnf)) | (refine ⟨[_, _, _, _], rfl, ?_⟩; (conv => whnf)) | fail)
    refine ret_obj rfl (sub_agg_eq ?_) rfl rfl (fun F => agg_ren F _) (fun F => rfl)
    rcases h with ⟨he, hl⟩ | ⟨he, hl⟩
    · rw [if_pos he]
      simp [hl, dbs, pb, List.take_of_length_le, zero32]
    · subst hl
      rw [if_neg he]
      rfl
end Go.Proofs.Ytjieenfbfckafaa.Am
namespace Go.Proofs.Ytjieenfbfckafaa.Am
open Go
set_option linter.unusedVariables false
set_option linter.unusedSimpArgs false
set_option maxRecDepth 100000
set_option maxHeartbeats 1000000
/-- A datum, the bytes behind it and OK; or an error. -/
def readR {α : Type} (f : Sr → α × Sr) (z : α) (b : List UInt8) : α × List UInt8 × Int := if (f ⟨b, 0⟩).2.e = 0 then ((f ⟨b, 0⟩).1, (f ⟨b, 0⟩).2.b, 0) else (z, [], (f ⟨b, 0⟩).2.e)
def Ident.zero : Ident := ⟨[], Val.null⟩
def Link.zero : Link := ⟨Ident.zero, Ident.zero, 0, false⟩
def Hold.zero : Hold := ⟨0, 0, Ident.zero, 0, 0, 0⟩
def Req.zero : Req := ⟨0, Ident.zero, 0, 0, 0⟩
end Go.Proofs.Ytjieenfbfckafaa.Am

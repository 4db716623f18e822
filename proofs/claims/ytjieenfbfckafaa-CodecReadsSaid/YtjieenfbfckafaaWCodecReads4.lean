/- What the claim of CodecReads reaches, part 4. -/
import Derived.Test.YtjieenfbfckafaaWCodecReads3
namespace Go.Proofs.Ytjieenfbfckafaa.Am
open Go
set_option linter.unusedVariables false
set_option linter.unusedSimpArgs false
set_option maxRecDepth 100000
set_option maxHeartbeats 1000000
/-- erasureref26.Reader.Record -/
theorem rRecord_meets (s : Sr) (hs : s.b.length ≤ 70368744177664) : Meets Try.prog F_erasureref26Reader_Record ⟨[.c (.ptr 0 0)], [(0, rob s)], 1, .agg s.recd.1.enc, [(0, rob s.recd.2)], 1⟩ := by
  generalize hx : Sr.recd s = x
  obtain ⟨R, z⟩ := x
  dsimp only
  revert hx
  unfold Sr.recd
  dsimp only
  have hrc := s.row_count
  have m0 := rRow_meets s hs
  have l0 := s.row_len
  generalize s.row = x at m0 l0 hrc ⊢
  obtain ⟨v0, t⟩ := x
  dsimp only at m0 l0 hrc ⊢
  intro hx
  refine fits_erasureref26Reader_Record.meets rfl (by simp) fun Q hQ => ?_
  (conv => whnf); repeat' (first | (refine And.intro ?_ ?_; (focus (exact zq3)); (conv => whnf)) | (refine onB_intro (fun hb => ?_) (fun hb => ?_) <;> (try simp only [decide_eq_true_eq, decide_eq_false_iff_not, Bool.not_eq_true', Bool.not_eq_false', Bool.and_eq_true, Bool.and_eq_false_iff, Int.not_le, Int.not_lt, bsz, ByteArray.toList_eq, beq_iff_eq, beq_eq_false_iff_ne, ne_eq] at hb) <;> (try (exfalso; omega)) <;> (try (exfalso; first | contradiction | (simp [ByteArray.toList_eq] at hb; done))) <;> (conv => whnf)) | (refine (hQ _ _ _ ?_).1; (conv => whnf)) | (refine ⟨_, rfl, ?_⟩; (conv => whnf)) | (refine ⟨_, mp_cut _ _ _, ?_⟩; (conv => whnf)) | (refine ⟨_, dbs_cut _ _ _, ?_⟩; (conv => whnf)) | (refine ⟨[_], rfl, ?_⟩; (conv => whnf)) | (refine ⟨[_, _], rfl, ?_⟩; (conv => whnf)) | (refine ⟨[_, _, _], rfl, ?_⟩; (conv => whnf)) | (refine ⟨[_, _, _, _], rfl, ?_⟩; (conv => whnf)) | (apply call_obj (m0) (fun F => by first | exact rfl | exact bob_ren F _ | exact ob_ren F _ _) (fun F => by first | exact rfl | exact bob_ren F _ | exact ob_ren F _ _); (focus (exact zq0)); (focus (exact zq2)); (conv => whnf)) | fail)
  refine loop_fam (fun i : Nat × List Int × Sr => ⟨[(0, .c (.ptr 0 0)), (2, .c (.ptr 1 0)), (3, .c (.ptr 2 0)), (4, vi i.1)], [(0, rob i.2.2), (1, ⟨T_api_Record, [PV.v (.slice none 0 0), .v (.slice none 0 0), pi 0].map DV.p⟩), (2, ⟨T_api_Record, [dvals v0, .ref 3 0 i.2.1.length 1, di 0]⟩), (3, ⟨3, (i.2.1.map pi).map DV.p⟩)], 4⟩) (fun i => v0.length - i.1)
    (fun i => i.1 ≤ v0.length ∧ i.2.2.b.length ≤ t.b.length ∧ i.2.1.length = i.1 ∧ (i.2.1 ++ (many Sr.int (v0.length - i.1) i.2.2).1, (many Sr.int (v0.length - i.1) i.2.2).2) = many Sr.int v0.length t) (0, [], t)
    ((Wk.adoptIn 3 1 1 3 (o := ⟨T_api_Record, [dvals v0, .p (.v (.slice none 0 0)), di 0]⟩) rfl rfl).trans (wkn [(1, 1), (2, 3), (3, 4)] rfl rfl (by repeat' (first | exact trivial | exact Sub.refl _ | refine And.intro ?_ ?_)) ⟨rfl, rfl, rfl, rfl, trivial⟩)) ⟨Nat.zero_le _, Nat.le_refl _, rfl, by simp⟩ ?_
  rintro ⟨k, acc, s⟩ ⟨hk, hsl, hal, hmany⟩ K hK
  dsimp only at hk hsl hal hmany
  have hxl : ((acc.map pi).map DV.p).length = acc.length * 1 := by simp
  have m1 := rInt_meets s (by show s.b.length ≤ _; omega)
  have g1 := s.int_len
  by_cases hgo : k < v0.length ∧ s.e = 0
  · obtain ⟨hkn, hse⟩ := hgo
    have hm1 : many Sr.int (v0.length - k) s = ((Sr.int s).1 :: (many Sr.int (v0.length - (k + 1)) (Sr.int s).2).1, (many Sr.int (v0.length - (k + 1)) (Sr.int s).2).2) := by
      rw [show v0.length - k = (v0.length - (k + 1)) + 1 by omega, many, if_pos hse]
    rw [hm1] at hmany
    generalize s.int = x1 at m1 g1 hmany
    obtain ⟨v1, u1⟩ := x1
    dsimp only at m1 g1 hmany
    (conv => whnf); repeat' (first | (refine And.intro ?_ ?_; (focus (exact zq3)); (conv => whnf)) | (refine onB_intro (fun hb => ?_) (fun hb => ?_) <;> (try simp only [decide_eq_true_eq, decide_eq_false_iff_not, Bool.not_eq_true', Bool.not_eq_false', Bool.and_eq_true, Bool.and_eq_false_iff, Int.not_le, Int.not_lt, bsz, ByteArray.toList_eq, beq_iff_eq, beq_eq_false_iff_ne, ne_eq] at hb) <;> (try (exfalso; omega)) <;> (try (exfalso; first | contradiction | (simp [ByteArray.toList_eq] at hb; done))) <;> (conv => whnf)) | (refine (hQ _ _ _ ?_).1; (conv => whnf)) | (refine ⟨_, rfl, ?_⟩; (conv => whnf)) | (refine ⟨_, mp_cut _ _ _, ?_⟩; (conv => whnf)) | (refine ⟨_, dbs_cut _ _ _, ?_⟩; (conv => whnf)) | (refine ⟨[_], rfl, ?_⟩; (conv => whnf)) | (refine ⟨[_, _], rfl, ?_⟩; (conv => whnf)) | (refine ⟨[_, _, _], rfl, ?_⟩; (conv => whnf)) | (refine ⟨[_, _, _, _], rfl, ?_⟩; (conv => whnf)) | (apply call_obj (m1) (fun F => by first | exact rfl | exact bob_ren F _ | exact ob_ren F _ _) (fun F => by first | exact rfl | exact bob_ren F _ | exact ob_ren F _ _); (focus (exact zq0)); (focus (exact zq2)); (conv => whnf)) | fail)
    refine hK _ _ _ (k + 1, acc ++ [v1], u1) ⟨by dsimp only; omega, by dsimp only; omega, by simp [hal], by dsimp only; rw [← hmany, List.append_assoc]; rfl⟩ (by dsimp only; omega) (wkn [(1, 1), (2, 2), (3, 5)] rfl rfl (by repeat' (first | exact trivial | exact Sub.refl _ | exact sub_int (by dsimp only; omega) | refine And.intro ?_ ?_)) ⟨rfl, rfl, ?_, hp_pure rfl (map_pi_snoc acc v1), trivial⟩)
    show some (Ob.mk T_api_Record [dvals v0, .ref 5 0 (acc.length + 1) 1, di 0]) = some (Ob.mk T_api_Record [dvals v0, .ref 5 0 (acc ++ [v1]).length 1, di 0])
    rw [List.length_append]; rfl
  · have hm1 : many Sr.int (v0.length - k) s = ([], s) := by
      cases hq : v0.length - k with
      | zero => rfl
      | succ q => rw [many, if_neg (fun h => hgo ⟨by omega, h⟩)]
    rw [hm1] at hmany
    have hmany : (acc, s) = many Sr.int v0.length t := by rw [← hmany]; simp
    rw [← hmany] at hx
    dsimp only at hx
    generalize s.int = x1 at m1 g1 hx
    obtain ⟨v1, u1⟩ := x1
    dsimp only at m1 g1 hx
    cases hx
    rcases Nat.lt_or_ge k v0.length with hkn | hkn
    · have hse : ¬ s.e = 0 := fun h => hgo ⟨hkn, h⟩
      (conv => whnf); repeat' (first | (refine And.intro ?_ ?_; (focus (exact zq3)); (conv => whnf)) | (refine onB_intro (fun hb => ?_) (fun hb => ?_) <;> (try simp only [decide_eq_true_eq, decide_eq_false_iff_not, Bool.not_eq_true', Bool.not_eq_false', Bool.and_eq_true, Bool.and_eq_false_iff, Int.not_le, Int.not_lt, bsz, ByteArray.toList_eq, beq_iff_eq, beq_eq_false_iff_ne, ne_eq] at hb) <;> (try (exfalso; omega)) <;> (try (exfalso; first | contradiction | (simp [ByteArray.toList_eq] at hb; done))) <;> (conv => whnf)) | (refine (hQ _ _ _ ?_).1; (conv => whnf)) | (refine ⟨_, rfl, ?_⟩; (conv => whnf)) | (refine ⟨_, mp_cut _ _ _, ?_⟩; (conv => whnf)) | (refine ⟨_, dbs_cut _ _ _, ?_⟩; (conv => whnf)) | (refine ⟨[_], rfl, ?_⟩; (conv => whnf)) | (refine ⟨[_, _], rfl, ?_⟩; (conv => whnf)) | (refine ⟨[_, _, _], rfl, ?_⟩; (conv => whnf)) | (refine ⟨[_, _, _, _], rfl, ?_⟩; (conv => whnf)) | (apply call_obj (m1) (fun F => by first | exact rfl | exact bob_ren F _ | exact ob_ren F _ _) (fun F => by first | exact rfl | exact bob_ren F _ | exact ob_ren F _ _); (focus (exact zq0)); (focus (exact zq2)); (conv => whnf)) | fail)
      all_goals (refine RetOk.freeze 3 3 (acc.map pi) (hp_eq rfl rfl) ?_; refine ret_obj rfl (sub_agg_eq ?_) rfl rfl (fun F => rfl) (fun F => rfl); exact (congrArg (fun x => [dvals v0, x, di v1]) (sub_ints acc)))
    · (conv => whnf); repeat' (first | (refine And.intro ?_ ?_; (focus (exact zq3)); (conv => whnf)) | (refine onB_intro (fun hb => ?_) (fun hb => ?_) <;> (try simp only [decide_eq_true_eq, decide_eq_false_iff_not, Bool.not_eq_true', Bool.not_eq_false', Bool.and_eq_true, Bool.and_eq_false_iff, Int.not_le, Int.not_lt, bsz, ByteArray.toList_eq, beq_iff_eq, beq_eq_false_iff_ne, ne_eq] at hb) <;> (try (exfalso; omega)) <;> (try (exfalso; first | contradiction | (simp [ByteArray.toList_eq] at hb; done))) <;> (conv => whnf)) | (refine (hQ _ _ _ ?_).1; (conv => whnf)) | (refine ⟨_, rfl, ?_⟩; (conv => whnf)) | (refine ⟨_, mp_cut _ _ _, ?_⟩; (conv => whnf)) | (refine ⟨_, dbs_cut _ _ _, ?_⟩; (conv => whnf)) | (refine ⟨[_], rfl, ?_⟩; (conv => whnf)) | (refine ⟨[_, _], rfl, ?_⟩; (conv => whnf)) | (refine ⟨[_, _, _], rfl, ?_⟩; (conv => whnf)) | (refine ⟨[_, _, _, _], rfl, ?_⟩; (conv => whnf)) | (apply call_obj (m1) (fun F => by first | exact rfl | exact bob_ren F _ | exact ob_ren F _ _) (fun F => by first | exact rfl | exact bob_ren F _ | exact ob_ren F _ _); (focus (exact zq0)); (focus (exact zq2)); (conv => whnf)) | fail)
      all_goals (refine RetOk.freeze 3 3 (acc.map pi) (hp_eq rfl rfl) ?_; refine ret_obj rfl (sub_agg_eq ?_) rfl rfl (fun F => rfl) (fun F => rfl); exact (congrArg (fun x => [dvals v0, x, di v1]) (sub_ints acc)))
/-- erasureref26.Reader.Bag -/
theorem rBag_meets (s : Sr) (hs : s.b.length ≤ 70368744177664) : Meets Try.prog F_erasureref26Reader_Bag ⟨[.c (.ptr 0 0)], [(0, rob s)], 1, .c (dents s.bag.1), [(0, rob s.bag.2)], 1⟩ := by
  have hr := s.count_range 4096 (by omega)
  unfold Sr.bag Sr.list
  dsimp only
  have m1 := rcount_meets 4096 s (by show s.b.length ≤ _; omega)
  have l1 := s.count_len 4096
  generalize s.count 4096 = x at m1 l1 hr ⊢
  obtain ⟨c, t⟩ := x
  dsimp only at m1 l1 hr ⊢
  obtain ⟨n, rfl⟩ := Int.eq_ofNat_of_zero_le hr.1
  rw [Int.toNat_natCast]
  refine fits_erasureref26Reader_Bag.meets rfl (by simp) fun Q hQ => ?_
  (conv => whnf); repeat' (first | (refine And.intro ?_ ?_; (focus (exact zq3)); (conv => whnf)) | (refine onB_intro (fun hb => ?_) (fun hb => ?_) <;> (try simp only [decide_eq_true_eq, decide_eq_false_iff_not, Bool.not_eq_true', Bool.not_eq_false', Bool.and_eq_true, Bool.and_eq_false_iff, Int.not_le, Int.not_lt, bsz, ByteArray.toList_eq, beq_iff_eq, beq_eq_false_iff_ne, ne_eq] at hb) <;> (try (exfalso; omega)) <;> (try (exfalso; first | contradiction | (simp [ByteArray.toList_eq] at hb; done))) <;> (conv => whnf)) | (refine (hQ _ _ _ ?_).1; (conv => whnf)) | (refine ⟨_, rfl, ?_⟩; (conv => whnf)) | (refine ⟨_, mp_cut _ _ _, ?_⟩; (conv => whnf)) | (refine ⟨_, dbs_cut _ _ _, ?_⟩; (conv => whnf)) | (refine ⟨[_], rfl, ?_⟩; (conv => whnf)) | (refine ⟨[_, _], rfl, ?_⟩; (conv => whnf)) | (refine ⟨[_, _, _], rfl, ?_⟩; (conv => whnf)) | (refine ⟨[_, _, _, _], rfl, ?_⟩; (conv => whnf)) | (apply call_obj (m1) (fun F => by first | exact rfl | exact bob_ren F _ | exact ob_ren F _ _) (fun F => by first | exact rfl | exact bob_ren F _ | exact ob_ren F _ _); (focus (exact zq0)); (focus (exact zq2)); (conv => whnf)) | fail)
  refine loop_fam (fun i : Nat × List Ent × Sr => ⟨[(0, .c (.ptr 0 0)), (3, .c (.ref 1 0 i.2.1.length 2)), (4, vi n), (5, vi i.1)], [(0, rob i.2.2), (1, ⟨T_api_Entry, (i.2.1.flatMap Ent.pv).map DV.p⟩)], 2⟩) (fun i => n - i.1)
    (fun i => i.1 ≤ n ∧ i.2.2.b.length ≤ t.b.length ∧ i.2.1.length = i.1 ∧ (i.2.1 ++ (many Sr.ent (n - i.1) i.2.2).1, (many Sr.ent (n - i.1) i.2.2).2) = many Sr.ent n t) (0, [], t)
    ((Wk.adopt 3 2 T_api_Entry rfl).trans (wkn [(1, 2)] rfl rfl (by repeat' (first | exact trivial | exact Sub.refl _ | refine And.intro ?_ ?_)) ⟨rfl, hp_pure rfl rfl, trivial⟩)) ⟨Nat.zero_le _, Nat.le_refl _, rfl, by simp⟩ ?_
  rintro ⟨k, acc, s⟩ ⟨hk, hsl, hal, hmany⟩ K hK
  dsimp only at hk hsl hal hmany
  by_cases hgo : k < n ∧ s.e = 0
  · obtain ⟨hkn, hse⟩ := hgo
    have hsok : s.ok := by show s.b.length ≤ _; omega
    have hxl : ((acc.flatMap Ent.pv).map DV.p).length = acc.length * 2 := by rw [List.length_map, flat_len Ent.len]
    have hm1 : many Sr.ent (n - k) s = ((Sr.ent s).1 :: (many Sr.ent (n - (k + 1)) (Sr.ent s).2).1, (many Sr.ent (n - (k + 1)) (Sr.ent s).2).2) := by
      rw [show n - k = (n - (k + 1)) + 1 by omega, many, if_pos hse]
    rw [hm1] at hmany
    have hfl := Sr.ent_len s
    rw [ent_eq s] at hmany hfl; dsimp only at hmany hfl; have m0 := rRow_meets s (by omega); have g0 := s.row_len; generalize s.row = x0 at m0 g0 hmany hfl; obtain ⟨v0, u0⟩ := x0; dsimp only at m0 g0 hmany hfl; have m1 := rInt_meets u0 (by show u0.b.length ≤ _; omega); have g1 := u0.int_len; generalize u0.int = x1 at m1 g1 hmany hfl; obtain ⟨v1, u1⟩ := x1; dsimp only at m1 g1 hmany hfl
    (conv => whnf); repeat' (first | (refine And.intro ?_ ?_; (focus (exact zq3)); (conv => whnf)) | (refine onB_intro (fun hb => ?_) (fun hb => ?_) <;> (try simp only [decide_eq_true_eq, decide_eq_false_iff_not, Bool.not_eq_true', Bool.not_eq_false', Bool.and_eq_true, Bool.and_eq_false_iff, Int.not_le, Int.not_lt, bsz, ByteArray.toList_eq, beq_iff_eq, beq_eq_false_iff_ne, ne_eq] at hb) <;> (try (exfalso; omega)) <;> (try (exfalso; first | contradiction | (simp [ByteArray.toList_eq] at hb; done))) <;> (conv => whnf)) | (refine (hQ _ _ _ ?_).1; (conv => whnf)) | (refine ⟨_, rfl, ?_⟩; (conv => whnf)) | (refine ⟨_, mp_cut _ _ _, ?_⟩; (conv => whnf)) | (refine ⟨_, dbs_cut _ _ _, ?_⟩; (conv => whnf)) | (refine ⟨[_], rfl, ?_⟩; (conv => whnf)) | (refine ⟨[_, _], rfl, ?_⟩; (conv => whnf)) | (refine ⟨[_, _, _], rfl, ?_⟩; (conv => whnf)) | (refine ⟨[_, _, _, _], rfl, ?_⟩; (conv => whnf)) | (apply call_obj (m0) (fun F => by first | exact rfl | exact bob_ren F _ | exact ob_ren F _ _) (fun F => by first | exact rfl | exact bob_ren F _ | exact ob_ren F _ _); (focus (exact zq0)); (focus (exact zq2)); (conv => whnf)) | (apply call_obj (m1) (fun F => by first | exact rfl | exact bob_ren F _ | exact ob_ren F _ _) (fun F => by first | exact rfl | exact bob_ren F _ | exact ob_ren F _ _); (focus (exact zq0)); (focus (exact zq2)); (conv => whnf)) | fail)
    refine hK _ _ _ (k + 1, acc ++ [(⟨v0, v1⟩ : Ent)], u1) ⟨by dsimp only; omega, by dsimp only; omega, by simp [hal], by dsimp only; rw [← hmany, List.append_assoc]; rfl⟩ (by dsimp only; omega) (wkn [(1, 4)] rfl rfl (by repeat' (first | exact trivial | exact Sub.refl _ | exact sub_ref (by simp) | exact sub_int (by dsimp only; omega) | refine And.intro ?_ ?_)) ⟨rfl, hp_pure rfl (cells_snoc Ent.len acc (⟨v0, v1⟩ : Ent)), trivial⟩)
  · have hm1 : many Sr.ent (n - k) s = ([], s) := by
      cases hq : n - k with
      | zero => rfl
      | succ q => rw [many, if_neg (fun h => hgo ⟨by omega, h⟩)]
    rw [hm1] at hmany
    have hmany : (acc, s) = many Sr.ent n t := by rw [← hmany]; simp
    rw [← hmany] at hQ
    rcases Nat.lt_or_ge k n with hkn | hkn
    · have hse : ¬ s.e = 0 := fun h => hgo ⟨hkn, h⟩
      (conv => whnf); repeat' (first | (refine And.intro ?_ ?_; (focus (exact zq3)); (conv => whnf)) | (refine onB_intro (fun hb => ?_) (fun hb => ?_) <;> (try simp only [decide_eq_true_eq, decide_eq_false_iff_not, Bool.not_eq_true', Bool.not_eq_false', Bool.and_eq_true, Bool.and_eq_false_iff, Int.not_le, Int.not_lt, bsz, ByteArray.toList_eq, beq_iff_eq, beq_eq_false_iff_ne, ne_eq] at hb) <;> (try (exfalso; omega)) <;> (try (exfalso; first | contradiction | (simp [ByteArray.toList_eq] at hb; done))) <;> (conv => whnf)) | (refine (hQ _ _ _ ?_).1; (conv => whnf)) | (refine ⟨_, rfl, ?_⟩; (conv => whnf)) | (refine ⟨_, mp_cut _ _ _, ?_⟩; (conv => whnf)) | (refine ⟨_, dbs_cut _ _ _, ?_⟩; (conv => whnf)) | (refine ⟨[_], rfl, ?_⟩; (conv => whnf)) | (refine ⟨[_, _], rfl, ?_⟩; (conv => whnf)) | (refine ⟨[_, _, _], rfl, ?_⟩; (conv => whnf)) | (refine ⟨[_, _, _, _], rfl, ?_⟩; (conv => whnf)) | fail)
      exact ret_objz (cs := acc.flatMap Ent.pv) rfl rfl rfl rfl rfl (sub_slice Ent.len acc) rfl (fun F => rfl) (fun F => rfl) (fun id cs => rfl)
    · (conv => whnf); repeat' (first | (refine And.intro ?_ ?_; (focus (exact zq3)); (conv => whnf)) | (refine onB_intro (fun hb => ?_) (fun hb => ?_) <;> (try simp only [decide_eq_true_eq, decide_eq_false_iff_not, Bool.not_eq_true', Bool.not_eq_false', Bool.and_eq_true, Bool.and_eq_false_iff, Int.not_le, Int.not_lt, bsz, ByteArray.toList_eq, beq_iff_eq, beq_eq_false_iff_ne, ne_eq] at hb) <;> (try (exfalso; omega)) <;> (try (exfalso; first | contradiction | (simp [ByteArray.toList_eq] at hb; done))) <;> (conv => whnf)) | (refine (hQ _ _ _ ?_).1; (conv => whnf)) | (refine ⟨_, rfl, ?_⟩; (conv => whnf)) | (refine ⟨_, mp_cut _ _ _, ?_⟩; (conv => whnf)) | (refine ⟨_, dbs_cut _ _ _, ?_⟩; (conv => whnf)) | (refine ⟨[_], rfl, ?_⟩; (conv => whnf)) | (refine ⟨[_, _], rfl, ?_⟩; (conv => whnf)) | (refine ⟨[_, _, _], rfl, ?_⟩; (conv => whnf)) | (refine ⟨[_, _, _, _], rfl, ?_⟩; (conv => whnf)) | fail)
      exact ret_objz (cs := acc.flatMap Ent.pv) rfl rfl rfl rfl rfl (sub_slice Ent.len acc) rfl (fun F => rfl) (fun F => rfl) (fun id cs => rfl)
/-- erasureref26.Reader.Change -/
theorem rChange_meets (s : Sr) (hs : s.b.length ≤ 70368744177664) : Meets Try.prog F_erasureref26Reader_Change ⟨[.c (.ptr 0 0)], [(0, rob s)], 1, .agg s.chg.1.enc, [(0, rob s.chg.2)], 1⟩ := by
  unfold Sr.chg
  dsimp only
  have m0 := rInt_meets s (by first | omega | (show s.b.length ≤ _; omega))
  have l0 := s.int_len
  generalize s.int = x at m0 l0 ⊢
  obtain ⟨v0, u0⟩ := x
  dsimp only at m0 l0 ⊢
  have m1 := rInt_meets u0 (by first | omega | (show u0.b.length ≤ _; omega))
  have l1 := u0.int_len
  generalize u0.int = x at m1 l1 ⊢
  obtain ⟨v1, u1⟩ := x
  dsimp only at m1 l1 ⊢
  have m2 := rInt_meets u1 (by first | omega | (show u1.b.length ≤ _; omega))
  have l2 := u1.int_len
  generalize u1.int = x at m2 l2 ⊢
  obtain ⟨v2, u2⟩ := x
  dsimp only at m2 l2 ⊢
  have m3 := rInt_meets u2 (by first | omega | (show u2.b.length ≤ _; omega))
  have l3 := u2.int_len
  generalize u2.int = x at m3 l3 ⊢
  obtain ⟨v3, u3⟩ := x
  dsimp only at m3 l3 ⊢
  have m4 := rRow_meets u3 (by first | omega | (show u3.b.length ≤ _; omega))
  have l4 := u3.row_len
  generalize u3.row = x at m4 l4 ⊢
  obtain ⟨v4, u4⟩ := x
  dsimp only at m4 l4 ⊢
  have m5 := rValue_meets u4 (by first | omega | (show u4.b.length ≤ _; omega))
  have l5 := u4.value_len
  generalize u4.value = x at m5 l5 ⊢
  obtain ⟨v5, u5⟩ := x
  dsimp only at m5 l5 ⊢
  have m6 := rInt_meets u5 (by first | omega | (show u5.b.length ≤ _; omega))
  have l6 := u5.int_len
  generalize u5.int = x at m6 l6 ⊢
  obtain ⟨v6, u6⟩ := x
  dsimp only at m6 l6 ⊢
  have m7 := rValue_meets u6 (by first | omega | (show u6.b.length ≤ _; omega))
  have l7 := u6.value_len
  generalize u6.value = x at m7 l7 ⊢
  obtain ⟨v7, u7⟩ := x
  dsimp only at m7 l7 ⊢
  refine fits_erasureref26Reader_Change.meets rfl (by simp) fun Q hQ => ?_
  (conv => whnf); repeat' (first | (refine And.intro ?_ ?_; (focus (exact zq3)); (conv => whnf)) | (refine onB_intro (fun hb => ?_) (fun hb => ?_) <;> (try simp only [decide_eq_true_eq, decide_eq_false_iff_not, Bool.not_eq_true', Bool.not_eq_false', Bool.and_eq_true, Bool.and_eq_false_iff, Int.not_le, Int.not_lt, bsz, ByteArray.toList_eq, beq_iff_eq, beq_eq_false_iff_ne, ne_eq] at hb) <;> (try (exfalso; omega)) <;> (try (exfalso; first | contradiction | (simp [ByteArray.toList_eq] at hb; done))) <;> (conv => whnf)) | (refine (hQ _ _ _ ?_).1; (conv => whnf)) | (refine ⟨_, rfl, ?_⟩; (conv => whnf)) | (refine ⟨_, mp_cut _ _ _, ?_⟩; (conv => whnf)) | (refine ⟨_, dbs_cut _ _ _, ?_⟩; (conv => whnf)) | (refine ⟨[_], rfl, ?_⟩; (conv => whnf)) | (refine ⟨[_, _], rfl, ?_⟩; (conv => whnf)) | (refine ⟨[_, _, _], rfl, ?_⟩; (conv => whnf)) | (refine ⟨[_, _, _, _], rfl, ?_⟩; (conv => whnf)) | (apply call_obj (m0) (fun F => by first | exact rfl | exact bob_ren F _ | exact ob_ren F _ _) (fun F => by first | exact rfl | exact bob_ren F _ | exact ob_ren F _ _); (focus (exact zq0)); (focus (exact zq2)); (conv => whnf)) | (apply call_obj (m1) (fun F => by first | exact rfl | exact bob_ren F _ | exact ob_ren F _ _) (fun F => by first | exact rfl | exact bob_ren F _ | exact ob_ren F _ _); (focus (exact zq0)); (focus (exact zq2)); (conv => whnf)) | (apply call_obj (m2) (fun F => by first | exact rfl | exact bob_ren F _ | exact ob_ren F _ _) (fun F => by first | exact rfl | exact bob_ren F _ | exact ob_ren F _ _); (focus (exact zq0)); (focus (exact zq2)); (conv => whnf)) | (apply call_obj (m3) (fun F => by first | exact rfl | exact bob_ren F _ | exact ob_ren F _ _) (fun F => by first | exact rfl | exact bob_ren F _ | exact ob_ren F _ _); (focus (exact zq0)); (focus (exact zq2)); (conv => whnf)) | (apply call_obj (m4) (fun F => by first | exact rfl | exact bob_ren F _ | exact ob_ren F _ _) (fun F => by first | exact rfl | exact bob_ren F _ | exact ob_ren F _ _); (focus (exact zq0)); (focus (exact zq2)); (conv => whnf)) | (apply call_obj (m5) (fun F => by first | exact rfl | exact bob_ren F _ | exact ob_ren F _ _) (fun F => by first | exact rfl | exact bob_ren F _ | exact ob_ren F _ _); (focus (exact zq0)); (focus (exact zq2)); (conv => whnf)) | (apply call_obj (m6) (fun F => by first | exact rfl | exact bob_ren F _ | exact ob_ren F _ _) (fun F => by first | exact rfl | exact bob_ren F _ | exact ob_ren F _ _); (focus (exact zq0)); (focus (exact zq2)); (conv => whnf)) | (apply call_obj (m7) (fun F => by first | exact rfl | exact bob_ren F _ | exact ob_ren F _ _) (fun F => by first | exact rfl | exact bob_ren F _ | exact ob_ren F _ _); (focus (exact zq0)); (focus (exact zq2)); (conv => whnf)) | fail)
  all_goals (refine ret_obj rfl ?_ rfl ?_ (fun F => by first | exact rfl | (simp only [TV.rens, TV.ren, dbs_ren]; rfl) | (simp [TV.rens, TV.ren, dbs_ren, map_ren_p]; done)) (fun F => by first | exact rfl | exact bob_ren F _ | exact ob_ren F _ _); (focus (exact zq0)); (first | rfl | (refine ob2_eq ?_ ?_ <;> (first | rfl | assumption | (simp only [*]; done) | (refine dv_val ?_ ?_ <;> (first | rfl | omega | (simp [pb, List.map_take, List.map_drop, List.take_of_length_le]; done) | (simp [pb, List.map_take, List.map_drop]; omega)))))))
/-- erasureref22.SameRecord of a thing with itself -/
theorem same22Record_self (a : Recd) (ha : a.row.length ≤ 1000) (hb' : a.seq.length ≤ 1000) : Meets Try.prog F_erasureref22SameRecord ⟨[.agg a.enc, .agg a.enc], [], 0, vb true, [], 0⟩ := by
  have s1 := same22Row_meets a.row a.row (by omega) (by omega)
  simp only [decide_true] at s1
  have s2 := same22Ints_meets a.seq a.seq (by omega) (by omega)
  simp only [decide_true] at s2
  refine fits_erasureref22SameRecord.meets rfl (by simp) fun Q hQ => ?_
  (conv => whnf); repeat' (first | (refine And.intro ?_ ?_; (focus (exact zq3)); (conv => whnf)) | (refine onB_intro (fun hb => ?_) (fun hb => ?_) <;> (try simp only [decide_eq_true_eq, decide_eq_false_iff_not, Bool.not_eq_true', Bool.not_eq_false', Bool.and_eq_true, Bool.and_eq_false_iff, Int.not_le, Int.not_lt, bsz, ByteArray.toList_eq, beq_iff_eq, beq_eq_false_iff_ne, ne_eq] at hb) <;> (try (exfalso; omega)) <;> (try (exfalso; first | contradiction | (simp [ByteArray.toList_eq] at hb; done))) <;> (conv => whnf)) | (refine (hQ _ _ _ ?_).1; (conv => whnf)) | (refine ⟨_, rfl, ?_⟩; (conv => whnf)) | (refine ⟨_, mp_cut _ _ _, ?_⟩; (conv => whnf)) | (refine ⟨_, dbs_cut _ _ _, ?_⟩; (conv => whnf)) | (refine ⟨[_], rfl, ?_⟩; (conv => whnf)) | (refine ⟨[_, _], rfl, ?_⟩; (conv => whnf)) | (refine ⟨[_, _, _], rfl, ?_⟩; (conv => whnf)) | (refine ⟨[_, _, _, _], rfl, ?_⟩; (conv => whnf)) | (refine call_pure (s1) (fun F => by first | exact rfl | (simp only [TV.rens, TV.ren, dbs_ren]; rfl) | (simp [TV.rens, TV.ren, dbs_ren, map_ren_p]; done)) (fun F => by first | exact rfl | (simp only [TV.rens, TV.ren, dbs_ren]; rfl) | (simp [TV.rens, TV.ren, dbs_ren, map_ren_p]; done)) ?_ ?_; (focus (exact zq0)); (conv => whnf)) | (refine call_pure (s2) (fun F => by first | exact rfl | (simp only [TV.rens, TV.ren, dbs_ren]; rfl) | (simp [TV.rens, TV.ren, dbs_ren, map_ren_p]; done)) (fun F => by first | exact rfl | (simp only [TV.rens, TV.ren, dbs_ren]; rfl) | (simp [TV.rens, TV.ren, dbs_ren, map_ren_p]; done)) ?_ ?_; (focus (exact zq0)); (conv => whnf)) | fail)
  all_goals (refine RetOk.pure' (fun f => rfl) (sub_bool ?_); (first | (simp_all [bsz, ByteArray.toList_eq]; done) | (simp_all [bsz, ByteArray.toList_eq]; omega) | (simp_all [bsz, ByteArray.toList_eq]; intros; omega)))
theorem sameRecord_self (a : Recd) (ha : a.row.length ≤ 1000) (hb' : a.seq.length ≤ 1000) : Meets Try.prog F_erasureref26SameRecord ⟨[.agg a.enc, .agg a.enc], [], 0, vb true, [], 0⟩ := by
  refine fits_erasureref26SameRecord.meets rfl (by simp) fun Q hQ => ?_
  (conv => whnf); repeat' (first | (refine And.intro ?_ ?_; (focus (exact zq3)); (conv => whnf)) | (refine onB_intro (fun hb => ?_) (fun hb => ?_) <;> (try simp only [decide_eq_true_eq, decide_eq_false_iff_not, Bool.not_eq_true', Bool.not_eq_false', Bool.and_eq_true, Bool.and_eq_false_iff, Int.not_le, Int.not_lt, bsz, ByteArray.toList_eq, beq_iff_eq, beq_eq_false_iff_ne, ne_eq] at hb) <;> (try (exfalso; omega)) <;> (try (exfalso; first | contradiction | (simp [ByteArray.toList_eq] at hb; done))) <;> (conv => whnf)) | (refine (hQ _ _ _ ?_).1; (conv => whnf)) | (refine ⟨_, rfl, ?_⟩; (conv => whnf)) | (refine ⟨_, mp_cut _ _ _, ?_⟩; (conv => whnf)) | (refine ⟨_, dbs_cut _ _ _, ?_⟩; (conv => whnf)) | (refine ⟨[_], rfl, ?_⟩; (conv => whnf)) | (refine ⟨[_, _], rfl, ?_⟩; (conv => whnf)) | (refine ⟨[_, _, _], rfl, ?_⟩; (conv => whnf)) | (refine ⟨[_, _, _, _], rfl, ?_⟩; (conv => whnf)) | (refine call_pure (same22Record_self a ha hb') (fun F => by first | exact rfl | (simp only [TV.rens, TV.ren, dbs_ren]; rfl) | (simp [TV.rens, TV.ren, dbs_ren, map_ren_p]; done)) (fun F => by first | exact rfl | (simp only [TV.rens, TV.ren, dbs_ren]; rfl) | (simp [TV.rens, TV.ren, dbs_ren, map_ren_p]; done)) ?_ ?_; (focus (exact zq0)); (conv => whnf)) | fail)
  all_goals exact RetOk.pure' (fun f => rfl) (Sub.refl _)
end Go.Proofs.Ytjieenfbfckafaa.Am
namespace Go.Proofs.Ytjieenfbfckafaa.Am
open Go
set_option linter.unusedVariables false
set_option linter.unusedSimpArgs false
set_option maxRecDepth 100000
set_option maxHeartbeats 2000000
theorem LE.enc_map (F : Nat → Nat) (e : LE) : e.enc.map (DV.ren F) = e.enc := by
  simp only [LE.enc, List.map_cons, dbs_ren, DV.ren]
theorem LE.enc_ren (F : Nat → Nat) (e : LE) : (TV.agg e.enc).ren F = .agg e.enc := by
  show TV.agg (e.enc.map (DV.ren F)) = _
  rw [LE.enc_map]
theorem LE.enc_ren3 (F : Nat → Nat) (e : LE) (b : List UInt8) (n : Int) : (TV.tup [.agg e.enc, .c (bs b), vi n]).ren F = .tup [.agg e.enc, .c (bs b), vi n] := by
  show TV.tup [.agg (e.enc.map (DV.ren F)), _, _] = _
  rw [LE.enc_map]; rfl
theorem list32 {α : Type} {q : List α} (h : q.length = 32) : ∃ a0 a1 a2 a3 a4 a5 a6 a7 a8 a9 a10 a11 a12 a13 a14 a15 a16 a17 a18 a19 a20 a21 a22 a23 a24 a25 a26 a27 a28 a29 a30 a31, q = [a0, a1, a2, a3, a4, a5, a6, a7, a8, a9, a10, a11, a12, a13, a14, a15, a16, a17, a18, a19, a20, a21, a22, a23, a24, a25, a26, a27, a28, a29, a30, a31] := by
  match q, h with
  | [a0, a1, a2, a3, a4, a5, a6, a7, a8, a9, a10, a11, a12, a13, a14, a15, a16, a17, a18, a19, a20, a21, a22, a23, a24, a25, a26, a27, a28, a29, a30, a31], _ => exact ⟨a0, a1, a2, a3, a4, a5, a6, a7, a8, a9, a10, a11, a12, a13, a14, a15, a16, a17, a18, a19, a20, a21, a22, a23, a24, a25, a26, a27, a28, a29, a30, a31, rfl⟩
theorem fail_off {s : Sr} (h : s.e ≠ 0) : s.fail 1 = s := by unfold Sr.fail; rw [if_neg h]
abbrev numC (s : Sr) (n : Int) (t : Sr) : Prop := Meets Try.prog F_codec_source_number ⟨[.c (.ptr 0 0)], [(0, sob s)], 1, vi n, [(0, sob t)], 1⟩
abbrev numR (s : Sr) (n : Int) (t : Sr) : Prop := Meets Try.prog F_erasureref26Reader_Int ⟨[.c (.ptr 0 0)], [(0, rob s)], 1, vi n, [(0, rob t)], 1⟩
def readX (R : LE) (z : Sr) : LE × List UInt8 × Int := if z.e = 0 then (R, z.b, 0) else (LE.zero, [], z.e)
abbrev REC (b : List UInt8) (R : LE) (z : Sr) : Prop := Meets Try.prog F_codec_ReadEntry ⟨[.c (bs b)], [], 0, .tup [.agg (readX R z).1.enc, .c (bs (readX R z).2.1), vi (readX R z).2.2], [], 0⟩
abbrev RER (s : Sr) (R : LE) (z : Sr) : Prop := Meets Try.prog F_erasureref26Reader_Entry ⟨[.c (.ptr 0 0)], [(0, rob s)], 1, .agg R.enc, [(0, rob z)], 1⟩
theorem cE_bad {b : List UInt8} {t0 u0 u1 u2 u3 z : Sr} {k v1 v2 v3 : Int}  (hk : (k < 1 ∨ 7 < k) ∧ t0.e = 0) (m0 : numC ⟨b, 0⟩ k t0) (hz3 : z = u3) (m1 : numC u0 v1 u1) (m2 : numC u1 v2 u2) (m3 : numC u2 v3 u3)  (mf : Meets Try.prog F_codec_source_fail ⟨[.c (.ptr 0 0), vi 1], [(0, sob t0)], 1, .tup [], [(0, sob u0)], 1⟩) (hz : z.b.length ≤ 70368744177664) : REC b (LE.at k v1 v2 v3) z := by
  refine fits_codec_ReadEntry.meets rfl (by simp) fun Q hQ => ?_
  obtain ⟨hk, h0e⟩ := hk
  subst hz3
  unfold readX at hQ
  by_cases he : z.e = 0
  · rw [if_pos he] at hQ
    dsimp only at hQ
    (conv => whnf); repeat' (first | (refine And.intro ?_ ?_; (focus (exact zq3)); (conv => whnf)) | (refine onB_intro (fun hb => ?_) (fun hb => ?_) <;> (try simp only [decide_eq_true_eq, decide_eq_false_iff_not, Bool.not_eq_true', Bool.not_eq_false', Bool.and_eq_true, Bool.and_eq_false_iff, Int.not_le, Int.not_lt, bsz, ByteArray.toList_eq, beq_iff_eq, beq_eq_false_iff_ne, ne_eq] at hb) <;> (try (exfalso; omega)) <;> (try (exfalso; first | contradiction | (simp [ByteArray.toList_eq] at hb; done))) <;> (conv => whnf)) | (refine (hQ _ _ _ ?_).1; (conv => whnf)) | (refine ⟨_, rfl, ?_⟩; (conv => whnf)) | (refine ⟨_, mp_cut _ _ _, ?_⟩; (conv => whnf)) | (refine ⟨_, dbs_cut _ _ _, ?_⟩; (conv => whnf)) | (refine ⟨[_], rfl, ?_⟩; (conv => whnf)) | (refine ⟨[_, _], rfl, ?_⟩; (conv => whnf)) | (refine ⟨[_, _, _], rfl, ?_⟩; (conv => whnf)) | (refine ⟨[_, _, _, _], rfl, ?_⟩; (conv => whnf)) | (apply call_obj (m0) (fun F => by first | exact rfl | exact bob_ren F _ | exact ob_ren F _ _) (fun F => by first | exact rfl | exact bob_ren F _ | exact ob_ren F _ _); (focus (exact zq1)); (focus (exact zq2)); (conv => whnf)) | (apply call_obj (m1) (fun F => by first | exact rfl | exact bob_ren F _ | exact ob_ren F _ _) (fun F => by first | exact rfl | exact bob_ren F _ | exact ob_ren F _ _); (focus (exact zq1)); (focus (exact zq2)); (conv => whnf)) | (apply call_obj (m2) (fun F => by first | exact rfl | exact bob_ren F _ | exact ob_ren F _ _) (fun F => by first | exact rfl | exact bob_ren F _ | exact ob_ren F _ _); (focus (exact zq1)); (focus (exact zq2)); (conv => whnf)) | (apply call_obj (m3) (fun F => by first | exact rfl | exact bob_ren F _ | exact ob_ren F _ _) (fun F => by first | exact rfl | exact bob_ren F _ | exact ob_ren F _ _); (focus (exact zq1)); (focus (exact zq2)); (conv => whnf)) | (apply call_obj (mf) (fun F => by first | exact rfl | exact bob_ren F _ | exact ob_ren F _ _) (fun F => by first | exact rfl | exact bob_ren F _ | exact ob_ren F _ _); (focus (exact zq1)); (focus (exact zq2)); (conv => whnf)) | (apply call_obj (rest_meets z hz) (fun F => by first | exact rfl | exact bob_ren F _ | exact ob_ren F _ _) (fun F => by first | exact rfl | exact bob_ren F _ | exact ob_ren F _ _); (focus (exact zq1)); (focus (exact zq2)); (conv => whnf)) | fail)
    all_goals
      first
        | (refine RetOk.pure' (fun F => by first | rfl | simp [TV.rens, TV.ren, dbs_ren, agg_ren]) ?_; (exact zq1))
        | (refine RetOk.pure' (fun F => by first | rfl | simp [TV.rens, TV.ren, dbs_ren, agg_ren]) ?_; refine sub_tup ⟨sub_agg_eq ?_, Sub.refl _, Sub.refl _, trivial⟩; first | rfl | (simp [dbs, pb, List.take_of_length_le, LE.at, dbs_ren, he]; done))
  · rw [if_neg he] at hQ
    dsimp only at hQ
    (conv => whnf); repeat' (first | (refine And.intro ?_ ?_; (focus (exact zq3)); (conv => whnf)) | (refine onB_intro (fun hb => ?_) (fun hb => ?_) <;> (try simp only [decide_eq_true_eq, decide_eq_false_iff_not, Bool.not_eq_true', Bool.not_eq_false', Bool.and_eq_true, Bool.and_eq_false_iff, Int.not_le, Int.not_lt, bsz, ByteArray.toList_eq, beq_iff_eq, beq_eq_false_iff_ne, ne_eq] at hb) <;> (try (exfalso; omega)) <;> (try (exfalso; first | contradiction | (simp [ByteArray.toList_eq] at hb; done))) <;> (conv => whnf)) | (refine (hQ _ _ _ ?_).1; (conv => whnf)) | (refine ⟨_, rfl, ?_⟩; (conv => whnf)) | (refine ⟨_, mp_cut _ _ _, ?_⟩; (conv => whnf)) | (refine ⟨_, dbs_cut _ _ _, ?_⟩; (conv => whnf)) | (refine ⟨[_], rfl, ?_⟩; (conv => whnf)) | (refine ⟨[_, _], rfl, ?_⟩; (conv => whnf)) | (refine ⟨[_, _, _], rfl, ?_⟩; (conv => whnf)) | (refine ⟨[_, _, _, _], rfl, ?_⟩; (conv => whnf)) | (apply call_obj (m0) (fun F => by first | exact rfl | exact bob_ren F _ | exact ob_ren F _ _) (fun F => by first | exact rfl | exact bob_ren F _ | exact ob_ren F _ _); (focus (exact zq1)); (focus (exact zq2)); (conv => whnf)) | (apply call_obj (m1) (fun F => by first | exact rfl | exact bob_ren F _ | exact ob_ren F _ _) (fun F => by first | exact rfl | exact bob_ren F _ | exact ob_ren F _ _); (focus (exact zq1)); (focus (exact zq2)); (conv => whnf)) | (apply call_obj (m2) (fun F => by first | exact rfl | exact bob_ren F _ | exact ob_ren F _ _) (fun F => by first | exact rfl | exact bob_ren F _ | exact ob_ren F _ _); (focus (exact zq1)); (focus (exact zq2)); (conv => whnf)) | (apply call_obj (m3) (fun F => by first | exact rfl | exact bob_ren F _ | exact ob_ren F _ _) (fun F => by first | exact rfl | exact bob_ren F _ | exact ob_ren F _ _); (focus (exact zq1)); (focus (exact zq2)); (conv => whnf)) | (apply call_obj (mf) (fun F => by first | exact rfl | exact bob_ren F _ | exact ob_ren F _ _) (fun F => by first | exact rfl | exact bob_ren F _ | exact ob_ren F _ _); (focus (exact zq1)); (focus (exact zq2)); (conv => whnf)) | fail)
    all_goals
      first
        | (refine RetOk.pure' (fun F => by first | rfl | simp [TV.rens, TV.ren, dbs_ren, agg_ren]) ?_; (exact zq1))
        | (refine RetOk.pure' (fun F => by first | rfl | simp [TV.rens, TV.ren, dbs_ren, agg_ren]) ?_; refine sub_tup ⟨sub_agg_eq ?_, Sub.refl _, Sub.refl _, trivial⟩; first | rfl | (simp [dbs, pb, List.take_of_length_le, LE.at, dbs_ren, he]; done))
theorem cE_err {b : List UInt8} {t0 u0 u1 u2 u3 z : Sr} {k v1 v2 v3 : Int}  (hk : k = 0 ∧ t0.e ≠ 0) (m0 : numC ⟨b, 0⟩ k t0) (hu : t0 = u0) (hz3 : z = u3) (m1 : numC u0 v1 u1) (m2 : numC u1 v2 u2) (m3 : numC u2 v3 u3)  (hz : z.b.length ≤ 70368744177664) : REC b (LE.at k v1 v2 v3) z := by
  refine fits_codec_ReadEntry.meets rfl (by simp) fun Q hQ => ?_
  obtain ⟨rfl, h0e⟩ := hk
  subst hu
  subst hz3
  unfold readX at hQ
  by_cases he : z.e = 0
  · rw [if_pos he] at hQ
    dsimp only at hQ
    (conv => whnf); repeat' (first | (refine And.intro ?_ ?_; (focus (exact zq3)); (conv => whnf)) | (refine onB_intro (fun hb => ?_) (fun hb => ?_) <;> (try simp only [decide_eq_true_eq, decide_eq_false_iff_not, Bool.not_eq_true', Bool.not_eq_false', Bool.and_eq_true, Bool.and_eq_false_iff, Int.not_le, Int.not_lt, bsz, ByteArray.toList_eq, beq_iff_eq, beq_eq_false_iff_ne, ne_eq] at hb) <;> (try (exfalso; omega)) <;> (try (exfalso; first | contradiction | (simp [ByteArray.toList_eq] at hb; done))) <;> (conv => whnf)) | (refine (hQ _ _ _ ?_).1; (conv => whnf)) | (refine ⟨_, rfl, ?_⟩; (conv => whnf)) | (refine ⟨_, mp_cut _ _ _, ?_⟩; (conv => whnf)) | (refine ⟨_, dbs_cut _ _ _, ?_⟩; (conv => whnf)) | (refine ⟨[_], rfl, ?_⟩; (conv => whnf)) | (refine ⟨[_, _], rfl, ?_⟩; (conv => whnf)) | (refine ⟨[_, _, _], rfl, ?_⟩; (conv => whnf)) | (refine ⟨[_, _, _, _], rfl, ?_⟩; (conv => whnf)) | (apply call_obj (m0) (fun F => by first | exact rfl | exact bob_ren F _ | exact ob_ren F _ _) (fun F => by first | exact rfl | exact bob_ren F _ | exact ob_ren F _ _); (focus (exact zq1)); (focus (exact zq2)); (conv => whnf)) | (apply call_obj (m1) (fun F => by first | exact rfl | exact bob_ren F _ | exact ob_ren F _ _) (fun F => by first | exact rfl | exact bob_ren F _ | exact ob_ren F _ _); (focus (exact zq1)); (focus (exact zq2)); (conv => whnf)) | (apply call_obj (m2) (fun F => by first | exact rfl | exact bob_ren F _ | exact ob_ren F _ _) (fun F => by first | exact rfl | exact bob_ren F _ | exact ob_ren F _ _); (focus (exact zq1)); (focus (exact zq2)); (conv => whnf)) | (apply call_obj (m3) (fun F => by first | exact rfl | exact bob_ren F _ | exact ob_ren F _ _) (fun F => by first | exact rfl | exact bob_ren F _ | exact ob_ren F _ _); (focus (exact zq1)); (focus (exact zq2)); (conv => whnf)) | (apply call_obj (rest_meets z hz) (fun F => by first | exact rfl | exact bob_ren F _ | exact ob_ren F _ _) (fun F => by first | exact rfl | exact bob_ren F _ | exact ob_ren F _ _); (focus (exact zq1)); (focus (exact zq2)); (conv => whnf)) | fail)
    all_goals
      first
        | (refine RetOk.pure' (fun F => by first | rfl | simp [TV.rens, TV.ren, dbs_ren, agg_ren]) ?_; (exact zq1))
        | (refine RetOk.pure' (fun F => by first | rfl | simp [TV.rens, TV.ren, dbs_ren, agg_ren]) ?_; refine sub_tup ⟨sub_agg_eq ?_, Sub.refl _, Sub.refl _, trivial⟩; first | rfl | (simp [dbs, pb, List.take_of_length_le, LE.at, dbs_ren, he]; done))
  · rw [if_neg he] at hQ
    dsimp only at hQ
    (conv => whnf); repeat' (first | (refine And.intro ?_ ?_; (focus (exact zq3)); (conv => whnf)) | (refine onB_intro (fun hb => ?_) (fun hb => ?_) <;> (try simp only [decide_eq_true_eq, decide_eq_false_iff_not, Bool.not_eq_true', Bool.not_eq_false', Bool.and_eq_true, Bool.and_eq_false_iff, Int.not_le, Int.not_lt, bsz, ByteArray.toList_eq, beq_iff_eq, beq_eq_false_iff_ne, ne_eq] at hb) <;> (try (exfalso; omega)) <;> (try (exfalso; first | contradiction | (simp [ByteArray.toList_eq] at hb; done))) <;> (conv => whnf)) | (refine (hQ _ _ _ ?_).1; (conv => whnf)) | (refine ⟨_, rfl, ?_⟩; (conv => whnf)) | (refine ⟨_, mp_cut _ _ _, ?_⟩; (conv => whnf)) | (refine ⟨_, dbs_cut _ _ _, ?_⟩; (conv => whnf)) | (refine ⟨[_], rfl, ?_⟩; (conv => whnf)) | (refine ⟨[_, _], rfl, ?_⟩; (conv => whnf)) | (refine ⟨[_, _, _], rfl, ?_⟩; (conv => whnf)) | (refine ⟨[_, _, _, _], rfl, ?_⟩; (conv => whnf)) | (apply call_obj (m0) (fun F => by first | exact rfl | exact bob_ren F _ | exact ob_ren F _ _) (fun F => by first | exact rfl | exact bob_ren F _ | exact ob_ren F _ _); (focus (exact zq1)); (focus (exact zq2)); (conv => whnf)) | (apply call_obj (m1) (fun F => by first | exact rfl | exact bob_ren F _ | exact ob_ren F _ _) (fun F => by first | exact rfl | exact bob_ren F _ | exact ob_ren F _ _); (focus (exact zq1)); (focus (exact zq2)); (conv => whnf)) | (apply call_obj (m2) (fun F => by first | exact rfl | exact bob_ren F _ | exact ob_ren F _ _) (fun F => by first | exact rfl | exact bob_ren F _ | exact ob_ren F _ _); (focus (exact zq1)); (focus (exact zq2)); (conv => whnf)) | (apply call_obj (m3) (fun F => by first | exact rfl | exact bob_ren F _ | exact ob_ren F _ _) (fun F => by first | exact rfl | exact bob_ren F _ | exact ob_ren F _ _); (focus (exact zq1)); (focus (exact zq2)); (conv => whnf)) | fail)
    all_goals
      first
        | (refine RetOk.pure' (fun F => by first | rfl | simp [TV.rens, TV.ren, dbs_ren, agg_ren]) ?_; (exact zq1))
        | (refine RetOk.pure' (fun F => by first | rfl | simp [TV.rens, TV.ren, dbs_ren, agg_ren]) ?_; refine sub_tup ⟨sub_agg_eq ?_, Sub.refl _, Sub.refl _, trivial⟩; first | rfl | (simp [dbs, pb, List.take_of_length_le, LE.at, dbs_ren, he]; done))
theorem cE_oth {b : List UInt8} {t0 u0 u1 u2 u3 z : Sr} {k v1 v2 v3 : Int}  (hk : k = 3 ∨ k = 5) (m0 : numC ⟨b, 0⟩ k t0) (h0e : t0.e = 0) (hu : t0 = u0) (hz3 : z = u3) (m1 : numC u0 v1 u1) (m2 : numC u1 v2 u2) (m3 : numC u2 v3 u3)  (hz : z.b.length ≤ 70368744177664) : REC b (LE.at k v1 v2 v3) z := by
  refine fits_codec_ReadEntry.meets rfl (by simp) fun Q hQ => ?_
  have hk3 : ¬ k = 1 ∧ ¬ k = 2 ∧ ¬ k = 4 ∧ ¬ k = 6 ∧ ¬ k = 7 := by omega
  subst hu
  subst hz3
  unfold readX at hQ
  by_cases he : z.e = 0
  · rw [if_pos he] at hQ
    dsimp only at hQ
    (conv => whnf); repeat' (first | (refine And.intro ?_ ?_; (focus (exact zq3)); (conv => whnf)) | (refine onB_intro (fun hb => ?_) (fun hb => ?_) <;> (try simp only [decide_eq_true_eq, decide_eq_false_iff_not, Bool.not_eq_true', Bool.not_eq_false', Bool.and_eq_true, Bool.and_eq_false_iff, Int.not_le, Int.not_lt, bsz, ByteArray.toList_eq, beq_iff_eq, beq_eq_false_iff_ne, ne_eq] at hb) <;> (try (exfalso; omega)) <;> (try (exfalso; first | contradiction | (simp [ByteArray.toList_eq] at hb; done))) <;> (conv => whnf)) | (refine (hQ _ _ _ ?_).1; (conv => whnf)) | (refine ⟨_, rfl, ?_⟩; (conv => whnf)) | (refine ⟨_, mp_cut _ _ _, ?_⟩; (conv => whnf)) | (refine ⟨_, dbs_cut _ _ _, ?_⟩; (conv => whnf)) | (refine ⟨[_], rfl, ?_⟩; (conv => whnf)) | (refine ⟨[_, _], rfl, ?_⟩; (conv => whnf)) | (refine ⟨[_, _, _], rfl, ?_⟩; (conv => whnf)) | (refine ⟨[_, _, _, _], rfl, ?_⟩; (conv => whnf)) | (apply call_obj (m0) (fun F => by first | exact rfl | exact bob_ren F _ | exact ob_ren F _ _) (fun F => by first | exact rfl | exact bob_ren F _ | exact ob_ren F _ _); (focus (exact zq1)); (focus (exact zq2)); (conv => whnf)) | (apply call_obj (m1) (fun F => by first | exact rfl | exact bob_ren F _ | exact ob_ren F _ _) (fun F => by first | exact rfl | exact bob_ren F _ | exact ob_ren F _ _); (focus (exact zq1)); (focus (exact zq2)); (conv => whnf)) | (apply call_obj (m2) (fun F => by first | exact rfl | exact bob_ren F _ | exact ob_ren F _ _) (fun F => by first | exact rfl | exact bob_ren F _ | exact ob_ren F _ _); (focus (exact zq1)); (focus (exact zq2)); (conv => whnf)) | (apply call_obj (m3) (fun F => by first | exact rfl | exact bob_ren F _ | exact ob_ren F _ _) (fun F => by first | exact rfl | exact bob_ren F _ | exact ob_ren F _ _); (focus (exact zq1)); (focus (exact zq2)); (conv => whnf)) | (apply call_obj (rest_meets z hz) (fun F => by first | exact rfl | exact bob_ren F _ | exact ob_ren F _ _) (fun F => by first | exact rfl | exact bob_ren F _ | exact ob_ren F _ _); (focus (exact zq1)); (focus (exact zq2)); (conv => whnf)) | fail)
    all_goals
      first
        | (refine RetOk.pure' (fun F => by first | rfl | simp [TV.rens, TV.ren, dbs_ren, agg_ren]) ?_; (exact zq1))
        | (refine RetOk.pure' (fun F => by first | rfl | simp [TV.rens, TV.ren, dbs_ren, agg_ren]) ?_; refine sub_tup ⟨sub_agg_eq ?_, Sub.refl _, Sub.refl _, trivial⟩; first | rfl | (simp [dbs, pb, List.take_of_length_le, LE.at, dbs_ren, he]; done))
  · rw [if_neg he] at hQ
    dsimp only at hQ
    (conv => whnf); repeat' (first | (refine And.intro ?_ ?_; (focus (exact zq3)); (conv => whnf)) | (refine onB_intro (fun hb => ?_) (fun hb => ?_) <;> (try simp only [decide_eq_true_eq, decide_eq_false_iff_not, Bool.not_eq_true', Bool.not_eq_false', Bool.and_eq_true, Bool.and_eq_false_iff, Int.not_le, Int.not_lt, bsz, ByteArray.toList_eq, beq_iff_eq, beq_eq_false_iff_ne, ne_eq] at hb) <;> (try (exfalso; omega)) <;> (try (exfalso; first | contradiction | (simp [ByteArray.toList_eq] at hb; done))) <;> (conv => whnf)) | (refine (hQ _ _ _ ?_).1; (conv => whnf)) | (refine ⟨_, rfl, ?_⟩; (conv => whnf)) | (refine ⟨_, mp_cut _ _ _, ?_⟩; (conv => whnf)) | (refine ⟨_, dbs_cut _ _ _, ?_⟩; (conv => whnf)) | (refine ⟨[_], rfl, ?_⟩; (conv => whnf)) | (refine ⟨[_, _], rfl, ?_⟩; (conv => whnf)) | (refine ⟨[_, _, _], rfl, ?_⟩; (conv => whnf)) | (refine ⟨[_, _, _, _], rfl, ?_⟩; (conv => whnf)) | (apply call_obj (m0) (fun F => by first | exact rfl | exact bob_ren F _ | exact ob_ren F _ _) (fun F => by first | exact rfl | exact bob_ren F _ | exact ob_ren F _ _); (focus (exact zq1)); (focus (exact zq2)); (conv => whnf)) | (apply call_obj (m1) (fun F => by first | exact rfl | exact bob_ren F _ | exact ob_ren F _ _) (fun F => by first | exact rfl | exact bob_ren F _ | exact ob_ren F _ _); (focus (exact zq1)); (focus (exact zq2)); (conv => whnf)) | (apply call_obj (m2) (fun F => by first | exact rfl | exact bob_ren F _ | exact ob_ren F _ _) (fun F => by first | exact rfl | exact bob_ren F _ | exact ob_ren F _ _); (focus (exact zq1)); (focus (exact zq2)); (conv => whnf)) | (apply call_obj (m3) (fun F => by first | exact rfl | exact bob_ren F _ | exact ob_ren F _ _) (fun F => by first | exact rfl | exact bob_ren F _ | exact ob_ren F _ _); (focus (exact zq1)); (focus (exact zq2)); (conv => whnf)) | fail)
    all_goals
      first
        | (refine RetOk.pure' (fun F => by first | rfl | simp [TV.rens, TV.ren, dbs_ren, agg_ren]) ?_; (exact zq1))
        | (refine RetOk.pure' (fun F => by first | rfl | simp [TV.rens, TV.ren, dbs_ren, agg_ren]) ?_; refine sub_tup ⟨sub_agg_eq ?_, Sub.refl _, Sub.refl _, trivial⟩; first | rfl | (simp [dbs, pb, List.take_of_length_le, LE.at, dbs_ren, he]; done))
end Go.Proofs.Ytjieenfbfckafaa.Am
namespace Go.Proofs.Ytjieenfbfckafaa.Am
open Go
set_option linter.unusedVariables false
set_option linter.unusedSimpArgs false
set_option maxRecDepth 100000
set_option maxHeartbeats 2000000
theorem cE_1 {b : List UInt8} {t0 u0 u1 u2 u3 z : Sr} {k v1 v2 v3 : Int} {q : Req} (hk : k = 1) (m0 : numC ⟨b, 0⟩ k t0) (h0e : t0.e = 0) (hu : t0 = u0) (m1 : numC u0 v1 u1) (m2 : numC u1 v2 u2) (m3 : numC u2 v3 u3) (mq : Meets Try.prog F_codec_source_request ⟨[.c (.ptr 0 0)], [(0, sob u3)], 1, .agg q.enc, [(0, sob z)], 1⟩) (hz : z.b.length ≤ 70368744177664) : REC b ({ LE.at k v1 v2 v3 with req := q }) z := by
  refine fits_codec_ReadEntry.meets rfl (by simp) fun Q hQ => ?_
  subst hk
  subst hu
  unfold readX at hQ
  by_cases he : z.e = 0
  · rw [if_pos he] at hQ
    dsimp only at hQ
    (conv => whnf); repeat' (first | (refine And.intro ?_ ?_; (focus (exact zq3)); (conv => whnf)) | (refine onB_intro (fun hb => ?_) (fun hb => ?_) <;> (try simp only [decide_eq_true_eq, decide_eq_false_iff_not, Bool.not_eq_true', Bool.not_eq_false', Bool.and_eq_true, Bool.and_eq_false_iff, Int.not_le, Int.not_lt, bsz, ByteArray.toList_eq, beq_iff_eq, beq_eq_false_iff_ne, ne_eq] at hb) <;> (try (exfalso; omega)) <;> (try (exfalso; first | contradiction | (simp [ByteArray.toList_eq] at hb; done))) <;> (conv => whnf)) | (refine (hQ _ _ _ ?_).1; (conv => whnf)) | (refine ⟨_, rfl, ?_⟩; (conv => whnf)) | (refine ⟨_, mp_cut _ _ _, ?_⟩; (conv => whnf)) | (refine ⟨_, dbs_cut _ _ _, ?_⟩; (conv => whnf)) | (refine ⟨[_], rfl, ?_⟩; (conv => whnf)) | (refine ⟨[_, _], rfl, ?_⟩; (conv => whnf)) | (refine ⟨[_, _, _], rfl, ?_⟩; (conv => whnf)) | (refine ⟨[_, _, _, _], rfl, ?_⟩; (conv => whnf)) | (apply call_obj (m0) (fun F => by first | exact rfl | exact bob_ren F _ | exact ob_ren F _ _) (fun F => by first | exact rfl | exact bob_ren F _ | exact ob_ren F _ _); (focus (exact zq1)); (focus (exact zq2)); (conv => whnf)) | (apply call_obj (m1) (fun F => by first | exact rfl | exact bob_ren F _ | exact ob_ren F _ _) (fun F => by first | exact rfl | exact bob_ren F _ | exact ob_ren F _ _); (focus (exact zq1)); (focus (exact zq2)); (conv => whnf)) | (apply call_obj (m2) (fun F => by first | exact rfl | exact bob_ren F _ | exact ob_ren F _ _) (fun F => by first | exact rfl | exact bob_ren F _ | exact ob_ren F _ _); (focus (exact zq1)); (focus (exact zq2)); (conv => whnf)) | (apply call_obj (m3) (fun F => by first | exact rfl | exact bob_ren F _ | exact ob_ren F _ _) (fun F => by first | exact rfl | exact bob_ren F _ | exact ob_ren F _ _); (focus (exact zq1)); (focus (exact zq2)); (conv => whnf)) | (apply call_obj (mq) (fun F => by first | exact rfl | exact bob_ren F _ | exact ob_ren F _ _) (fun F => by first | exact rfl | exact bob_ren F _ | exact ob_ren F _ _); (focus (exact zq1)); (focus (exact zq2)); (conv => whnf)) | (apply call_obj (rest_meets z hz) (fun F => by first | exact rfl | exact bob_ren F _ | exact ob_ren F _ _) (fun F => by first | exact rfl | exact bob_ren F _ | exact ob_ren F _ _); (focus (exact zq1)); (focus (exact zq2)); (conv => whnf)) | fail)
    all_goals
      first
        | (refine RetOk.pure' (fun F => by first | rfl | simp [TV.rens, TV.ren, dbs_ren, agg_ren]) ?_; (exact zq1))
        | (refine RetOk.pure' (fun F => by first | rfl | simp [TV.rens, TV.ren, dbs_ren, agg_ren]) ?_; refine sub_tup ⟨sub_agg_eq ?_, Sub.refl _, Sub.refl _, trivial⟩; first | rfl | (simp [dbs, pb, List.take_of_length_le, LE.at, dbs_ren, he]; done))
  · rw [if_neg he] at hQ
    dsimp only at hQ
    (conv => whnf); repeat' (first | (refine And.intro ?_ ?_; (focus (exact zq3)); (conv => whnf)) | (refine onB_intro (fun hb => ?_) (fun hb => ?_) <;> (try simp only [decide_eq_true_eq, decide_eq_false_iff_not, Bool.not_eq_true', Bool.not_eq_false', Bool.and_eq_true, Bool.and_eq_false_iff, Int.not_le, Int.not_lt, bsz, ByteArray.toList_eq, beq_iff_eq, beq_eq_false_iff_ne, ne_eq] at hb) <;> (try (exfalso; omega)) <;> (try (exfalso; first | contradiction | (simp [ByteArray.toList_eq] at hb; done))) <;> (conv => whnf)) | (refine (hQ _ _ _ ?_).1; (conv => whnf)) | (refine ⟨_, rfl, ?_⟩; (conv => whnf)) | (refine ⟨_, mp_cut _ _ _, ?_⟩; (conv => whnf)) | (refine ⟨_, dbs_cut _ _ _, ?_⟩; (conv => whnf)) | (refine ⟨[_], rfl, ?_⟩; (conv => whnf)) | (refine ⟨[_, _], rfl, ?_⟩; (conv => whnf)) | (refine ⟨[_, _, _], rfl, ?_⟩; (conv => whnf)) | (refine ⟨[_, _, _, _], rfl, ?_⟩; (conv => whnf)) | (apply call_obj (m0) (fun F => by first | exact rfl | exact bob_ren F _ | exact ob_ren F _ _) (fun F => by first | exact rfl | exact bob_ren F _ | exact ob_ren F _ _); (focus (exact zq1)); (focus (exact zq2)); (conv => whnf)) | (apply call_obj (m1) (fun F => by first | exact rfl | exact bob_ren F _ | exact ob_ren F _ _) (fun F => by first | exact rfl | exact bob_ren F _ | exact ob_ren F _ _); (focus (exact zq1)); (focus (exact zq2)); (conv => whnf)) | (apply call_obj (m2) (fun F => by first | exact rfl | exact bob_ren F _ | exact ob_ren F _ _) (fun F => by first | exact rfl | exact bob_ren F _ | exact ob_ren F _ _); (focus (exact zq1)); (focus (exact zq2)); (conv => whnf)) | (apply call_obj (m3) (fun F => by first | exact rfl | exact bob_ren F _ | exact ob_ren F _ _) (fun F => by first | exact rfl | exact bob_ren F _ | exact ob_ren F _ _); (focus (exact zq1)); (focus (exact zq2)); (conv => whnf)) | (apply call_obj (mq) (fun F => by first | exact rfl | exact bob_ren F _ | exact ob_ren F _ _) (fun F => by first | exact rfl | exact bob_ren F _ | exact ob_ren F _ _); (focus (exact zq1)); (focus (exact zq2)); (conv => whnf)) | fail)
    all_goals
      first
        | (refine RetOk.pure' (fun F => by first | rfl | simp [TV.rens, TV.ren, dbs_ren, agg_ren]) ?_; (exact zq1))
        | (refine RetOk.pure' (fun F => by first | rfl | simp [TV.rens, TV.ren, dbs_ren, agg_ren]) ?_; refine sub_tup ⟨sub_agg_eq ?_, Sub.refl _, Sub.refl _, trivial⟩; first | rfl | (simp [dbs, pb, List.take_of_length_le, LE.at, dbs_ren, he]; done))
theorem cE_2 {b : List UInt8} {t0 u0 u1 u2 u3 z : Sr} {k v1 v2 v3 : Int} {q : List Ver} {q2 : List Sou} {u4 : Sr} (hk : k = 2) (m0 : numC ⟨b, 0⟩ k t0) (h0e : t0.e = 0) (hu : t0 = u0) (m1 : numC u0 v1 u1) (m2 : numC u1 v2 u2) (m3 : numC u2 v3 u3) (mq : Meets Try.prog F_codec_source_versions ⟨[.c (.ptr 0 0)], [(0, sob u3)], 1, .c (dvers q), [(0, sob u4)], 1⟩) (mq2 : Meets Try.prog F_codec_source_sources ⟨[.c (.ptr 0 0)], [(0, sob u4)], 1, .c (dsous q2), [(0, sob z)], 1⟩) (hz : z.b.length ≤ 70368744177664) : REC b ({ LE.at k v1 v2 v3 with vers := q, sous := q2 }) z := by
  refine fits_codec_ReadEntry.meets rfl (by simp) fun Q hQ => ?_
  subst hk
  subst hu
  unfold readX at hQ
  by_cases he : z.e = 0
  · rw [if_pos he] at hQ
    dsimp only at hQ
    (conv => whnf); repeat' (first | (refine And.intro ?_ ?_; (focus (exact zq3)); (conv => whnf)) | (refine onB_intro (fun hb => ?_) (fun hb => ?_) <;> (try simp only [decide_eq_true_eq, decide_eq_false_iff_not, Bool.not_eq_true', Bool.not_eq_false', Bool.and_eq_true, Bool.and_eq_false_iff, Int.not_le, Int.not_lt, bsz, ByteArray.toList_eq, beq_iff_eq, beq_eq_false_iff_ne, ne_eq] at hb) <;> (try (exfalso; omega)) <;> (try (exfalso; first | contradiction | (simp [ByteArray.toList_eq] at hb; done))) <;> (conv => whnf)) | (refine (hQ _ _ _ ?_).1; (conv => whnf)) | (refine ⟨_, rfl, ?_⟩; (conv => whnf)) | (refine ⟨_, mp_cut _ _ _, ?_⟩; (conv => whnf)) | (refine ⟨_, dbs_cut _ _ _, ?_⟩; (conv => whnf)) | (refine ⟨[_], rfl, ?_⟩; (conv => whnf)) | (refine ⟨[_, _], rfl, ?_⟩; (conv => whnf)) | (refine ⟨[_, _, _], rfl, ?_⟩; (conv => whnf)) | (refine ⟨[_, _, _, _], rfl, ?_⟩; (conv => whnf)) | (apply call_obj (m0) (fun F => by first | exact rfl | exact bob_ren F _ | exact ob_ren F _ _) (fun F => by first | exact rfl | exact bob_ren F _ | exact ob_ren F _ _); (focus (exact zq1)); (focus (exact zq2)); (conv => whnf)) | (apply call_obj (m1) (fun F => by first | exact rfl | exact bob_ren F _ | exact ob_ren F _ _) (fun F => by first | exact rfl | exact bob_ren F _ | exact ob_ren F _ _); (focus (exact zq1)); (focus (exact zq2)); (conv => whnf)) | (apply call_obj (m2) (fun F => by first | exact rfl | exact bob_ren F _ | exact ob_ren F _ _) (fun F => by first | exact rfl | exact bob_ren F _ | exact ob_ren F _ _); (focus (exact zq1)); (focus (exact zq2)); (conv => whnf)) | (apply call_obj (m3) (fun F => by first | exact rfl | exact bob_ren F _ | exact ob_ren F _ _) (fun F => by first | exact rfl | exact bob_ren F _ | exact ob_ren F _ _); (focus (exact zq1)); (focus (exact zq2)); (conv => whnf)) | (apply call_obj (mq) (fun F => by first | exact rfl | exact bob_ren F _ | exact ob_ren F _ _) (fun F => by first | exact rfl | exact bob_ren F _ | exact ob_ren F _ _); (focus (exact zq1)); (focus (exact zq2)); (conv => whnf)) | (apply call_obj (mq2) (fun F => by first | exact rfl | exact bob_ren F _ | exact ob_ren F _ _) (fun F => by first | exact rfl | exact bob_ren F _ | exact ob_ren F _ _); (focus (exact zq1)); (focus (exact zq2)); (conv => whnf)) | (apply call_obj (rest_meets z hz) (fun F => by first | exact rfl | exact bob_ren F _ | exact ob_ren F _ _) (fun F => by first | exact rfl | exact bob_ren F _ | exact ob_ren F _ _); (focus (exact zq1)); (focus (exact zq2)); (conv => whnf)) | fail)
    all_goals
      first
        | (refine RetOk.pure' (fun F => by first | rfl | simp [TV.rens, TV.ren, dbs_ren, agg_ren]) ?_; (exact zq1))
        | (refine RetOk.pure' (fun F => by first | rfl | simp [TV.rens, TV.ren, dbs_ren, agg_ren]) ?_; refine sub_tup ⟨sub_agg_eq ?_, Sub.refl _, Sub.refl _, trivial⟩; first | rfl | (simp [dbs, pb, List.take_of_length_le, LE.at, dbs_ren, he]; done))
  · rw [if_neg he] at hQ
    dsimp only at hQ
    (conv => whnf); repeat' (first | (refine And.intro ?_ ?_; (focus (exact zq3)); (conv => whnf)) | (refine onB_intro (fun hb => ?_) (fun hb => ?_) <;> (try simp only [decide_eq_true_eq, decide_eq_false_iff_not, Bool.not_eq_true', Bool.not_eq_false', Bool.and_eq_true, Bool.and_eq_false_iff, Int.not_le, Int.not_lt, bsz, ByteArray.toList_eq, beq_iff_eq, beq_eq_false_iff_ne, ne_eq] at hb) <;> (try (exfalso; omega)) <;> (try (exfalso; first | contradiction | (simp [ByteArray.toList_eq] at hb; done))) <;> (conv => whnf)) | (refine (hQ _ _ _ ?_).1; (conv => whnf)) | (refine ⟨_, rfl, ?_⟩; (conv => whnf)) | (refine ⟨_, mp_cut _ _ _, ?_⟩; (conv => whnf)) | (refine ⟨_, dbs_cut _ _ _, ?_⟩; (conv => whnf)) | (refine ⟨[_], rfl, ?_⟩; (conv => whnf)) | (refine ⟨[_, _], rfl, ?_⟩; (conv => whnf)) | (refine ⟨[_, _, _], rfl, ?_⟩; (conv => whnf)) | (refine ⟨[_, _, _, _], rfl, ?_⟩; (conv => whnf)) | (apply call_obj (m0) (fun F => by first | exact rfl | exact bob_ren F _ | exact ob_ren F _ _) (fun F => by first | exact rfl | exact bob_ren F _ | exact ob_ren F _ _); (focus (exact zq1)); (focus (exact zq2)); (conv => whnf)) | (apply call_obj (m1) (fun F => by first | exact rfl | exact bob_ren F _ | exact ob_ren F _ _) (fun F => by first | exact rfl | exact bob_ren F _ | exact ob_ren F _ _); (focus (exact zq1)); (focus (exact zq2)); (conv => whnf)) | (apply call_obj (m2) (fun F => by first | exact rfl | exact bob_ren F _ | exact ob_ren F _ _) (fun F => by first | exact rfl | exact bob_ren F _ | exact ob_ren F _ _); (focus (exact zq1)); (focus (exact zq2)); (conv => whnf)) | (apply call_obj (m3) (fun F => by first | exact rfl | exact bob_ren F _ | exact ob_ren F _ _) (fun F => by first | exact rfl | exact bob_ren F _ | exact ob_ren F _ _); (focus (exact zq1)); (focus (exact zq2)); (conv => whnf)) | (apply call_obj (mq) (fun F => by first | exact rfl | exact bob_ren F _ | exact ob_ren F _ _) (fun F => by first | exact rfl | exact bob_ren F _ | exact ob_ren F _ _); (focus (exact zq1)); (focus (exact zq2)); (conv => whnf)) | (apply call_obj (mq2) (fun F => by first | exact rfl | exact bob_ren F _ | exact ob_ren F _ _) (fun F => by first | exact rfl | exact bob_ren F _ | exact ob_ren F _ _); (focus (exact zq1)); (focus (exact zq2)); (conv => whnf)) | fail)
    all_goals
      first
        | (refine RetOk.pure' (fun F => by first | rfl | simp [TV.rens, TV.ren, dbs_ren, agg_ren]) ?_; (exact zq1))
        | (refine RetOk.pure' (fun F => by first | rfl | simp [TV.rens, TV.ren, dbs_ren, agg_ren]) ?_; refine sub_tup ⟨sub_agg_eq ?_, Sub.refl _, Sub.refl _, trivial⟩; first | rfl | (simp [dbs, pb, List.take_of_length_le, LE.at, dbs_ren, he]; done))
end Go.Proofs.Ytjieenfbfckafaa.Am
namespace Go.Proofs.Ytjieenfbfckafaa.Am
open Go
set_option linter.unusedVariables false
set_option linter.unusedSimpArgs false
set_option maxRecDepth 100000
set_option maxHeartbeats 2000000
theorem cE_4 {b : List UInt8} {t0 u0 u1 u2 u3 z : Sr} {k v1 v2 v3 : Int} {q : List UInt8} (hk : k = 4) (m0 : numC ⟨b, 0⟩ k t0) (h0e : t0.e = 0) (hu : t0 = u0) (m1 : numC u0 v1 u1) (m2 : numC u1 v2 u2) (m3 : numC u2 v3 u3) (hq : q.length = 32) (mq : Meets Try.prog F_codec_source_digest ⟨[.c (.ptr 0 0)], [(0, sob u3)], 1, .agg (dbs q), [(0, sob z)], 1⟩) (hz : z.b.length ≤ 70368744177664) : REC b ({ LE.at k v1 v2 v3 with root := q }) z := by
  refine fits_codec_ReadEntry.meets rfl (by simp) fun Q hQ => ?_
  subst hk
  subst hu
  unfold readX at hQ
  by_cases he : z.e = 0
  · rw [if_pos he] at hQ
    dsimp only at hQ
    (conv => whnf); repeat' (first | (refine And.intro ?_ ?_; (focus (exact zq3)); (conv => whnf)) | (refine onB_intro (fun hb => ?_) (fun hb => ?_) <;> (try simp only [decide_eq_true_eq, decide_eq_false_iff_not, Bool.not_eq_true', Bool.not_eq_false', Bool.and_eq_true, Bool.and_eq_false_iff, Int.not_le, Int.not_lt, bsz, ByteArray.toList_eq, beq_iff_eq, beq_eq_false_iff_ne, ne_eq] at hb) <;> (try (exfalso; omega)) <;> (try (exfalso; first | contradiction | (simp [ByteArray.toList_eq] at hb; done))) <;> (conv => whnf)) | (refine (hQ _ _ _ ?_).1; (conv => whnf)) | (refine ⟨_, rfl, ?_⟩; (conv => whnf)) | (refine ⟨_, mp_cut _ _ _, ?_⟩; (conv => whnf)) | (refine ⟨_, dbs_cut _ _ _, ?_⟩; (conv => whnf)) | (refine ⟨[_], rfl, ?_⟩; (conv => whnf)) | (refine ⟨[_, _], rfl, ?_⟩; (conv => whnf)) | (refine ⟨[_, _, _], rfl, ?_⟩; (conv => whnf)) | (refine ⟨[_, _, _, _], rfl, ?_⟩; (conv => whnf)) | (apply call_obj (m0) (fun F => by first | exact rfl | exact bob_ren F _ | exact ob_ren F _ _) (fun F => by first | exact rfl | exact bob_ren F _ | exact ob_ren F _ _); (focus (exact zq1)); (focus (exact zq2)); (conv => whnf)) | (apply call_obj (m1) (fun F => by first | exact rfl | exact bob_ren F _ | exact ob_ren F _ _) (fun F => by first | exact rfl | exact bob_ren F _ | exact ob_ren F _ _); (focus (exact zq1)); (focus (exact zq2)); (conv => whnf)) | (apply call_obj (m2) (fun F => by first | exact rfl | exact bob_ren F _ | exact ob_ren F _ _) (fun F => by first | exact rfl | exact bob_ren F _ | exact ob_ren F _ _); (focus (exact zq1)); (focus (exact zq2)); (conv => whnf)) | (apply call_obj (m3) (fun F => by first | exact rfl | exact bob_ren F _ | exact ob_ren F _ _) (fun F => by first | exact rfl | exact bob_ren F _ | exact ob_ren F _ _); (focus (exact zq1)); (focus (exact zq2)); (conv => whnf)) | (apply call_obj (mq) (fun F => by first | exact rfl | exact bob_ren F _ | exact ob_ren F _ _) (fun F => by first | exact rfl | exact bob_ren F _ | exact ob_ren F _ _); (focus (exact zq1)); (focus (exact zq2)); (conv => whnf)) | (apply call_obj (rest_meets z hz) (fun F => by first | exact rfl | exact bob_ren F _ | exact ob_ren F _ _) (fun F => by first | exact rfl | exact bob_ren F _ | exact ob_ren F _ _); (focus (exact zq1)); (focus (exact zq2)); (conv => whnf)) | fail)
    all_goals
      clear hQ mq
      refine RetOk.pure' (fun F => LE.enc_ren3 F _ _ _) ?_
      refine sub_tup ⟨Sub.trans (sub_agg_eq (store_all ?_ rfl)) ?_, Sub.refl _, Sub.refl _, trivial⟩
      focus (simp [hq, pb]; done)
      focus (obtain ⟨a0, a1, a2, a3, a4, a5, a6, a7, a8, a9, a10, a11, a12, a13, a14, a15, a16, a17, a18, a19, a20, a21, a22, a23, a24, a25, a26, a27, a28, a29, a30, a31, rfl⟩ := list32 hq; (exact zq1))
  · rw [if_neg he] at hQ
    dsimp only at hQ
    (conv => whnf); repeat' (first | (refine And.intro ?_ ?_; (focus (exact zq3)); (conv => whnf)) | (refine onB_intro (fun hb => ?_) (fun hb => ?_) <;> (try simp only [decide_eq_true_eq, decide_eq_false_iff_not, Bool.not_eq_true', Bool.not_eq_false', Bool.and_eq_true, Bool.and_eq_false_iff, Int.not_le, Int.not_lt, bsz, ByteArray.toList_eq, beq_iff_eq, beq_eq_false_iff_ne, ne_eq] at hb) <;> (try (exfalso; omega)) <;> (try (exfalso; first | contradiction | (simp [ByteArray.toList_eq] at hb; done))) <;> (conv => whnf)) | (refine (hQ _ _ _ ?_).1; (conv => whnf)) | (refine ⟨_, rfl, ?_⟩; (conv => whnf)) | (refine ⟨_, mp_cut _ _ _, ?_⟩; (conv => whnf)) | (refine ⟨_, dbs_cut _ _ _, ?_⟩; (conv => whnf)) | (refine ⟨[_], rfl, ?_⟩; (conv => whnf)) | (refine ⟨[_, _], rfl, ?_⟩; (conv => whnf)) | (refine ⟨[_, _, _], rfl, ?_⟩; (conv => whnf)) | (refine ⟨[_, _, _, _], rfl, ?_⟩; (conv => whnf)) | (apply call_obj (m0) (fun F => by first | exact rfl | exact bob_ren F _ | exact ob_ren F _ _) (fun F => by first | exact rfl | exact bob_ren F _ | exact ob_ren F _ _); (focus (exact zq1)); (focus (exact zq2)); (conv => whnf)) | (apply call_obj (m1) (fun F => by first | exact rfl | exact bob_ren F _ | exact ob_ren F _ _) (fun F => by first | exact rfl | exact bob_ren F _ | exact ob_ren F _ _); (focus (exact zq1)); (focus (exact zq2)); (conv => whnf)) | (apply call_obj (m2) (fun F => by first | exact rfl | exact bob_ren F _ | exact ob_ren F _ _) (fun F => by first | exact rfl | exact bob_ren F _ | exact ob_ren F _ _); (focus (exact zq1)); (focus (exact zq2)); (conv => whnf)) | (apply call_obj (m3) (fun F => by first | exact rfl | exact bob_ren F _ | exact ob_ren F _ _) (fun F => by first | exact rfl | exact bob_ren F _ | exact ob_ren F _ _); (focus (exact zq1)); (focus (exact zq2)); (conv => whnf)) | (apply call_obj (mq) (fun F => by first | exact rfl | exact bob_ren F _ | exact ob_ren F _ _) (fun F => by first | exact rfl | exact bob_ren F _ | exact ob_ren F _ _); (focus (exact zq1)); (focus (exact zq2)); (conv => whnf)) | fail)
    all_goals
      clear hQ mq
      obtain ⟨a0, a1, a2, a3, a4, a5, a6, a7, a8, a9, a10, a11, a12, a13, a14, a15, a16, a17, a18, a19, a20, a21, a22, a23, a24, a25, a26, a27, a28, a29, a30, a31, rfl⟩ := list32 hq
      refine RetOk.pure' (fun F => LE.enc_ren3 F _ _ _) ?_
      (exact zq1)
end Go.Proofs.Ytjieenfbfckafaa.Am

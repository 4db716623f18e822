/- What DiskDown returns: true, for all bytes and every number. -/
import Derived.Test.YtilbfoijfiebdaaDiskLaw3
namespace Go.Proofs.Ytilbfoijfiebdaa.Am
open Go
set_option linter.unusedVariables false
set_option linter.unusedSimpArgs false
set_option maxRecDepth 100000

/-- DiskDown -/
theorem down_meets (a b : List UInt8) (k : Int) : Meets Try.prog F_erasurelaw32DiskDown ⟨[.c (bs a), .c (bs b), vi k], [], 0, vb true, [], 0⟩ := by
  refine fits_erasurelaw32DiskDown.meets rfl (by simp) fun Q hQ => ?_
  rcases Nat.lt_or_ge 100 a.length with h1 | h1
  · (conv => whnf); repeat' (first | (refine And.intro (by first | omega | (simp [pb]; done) | (simp [pb]; omega) | (simp [ByteArray.size]; omega) | exact Nat.le_of_ble_eq_true rfl | kernel_rfl) ?_; (conv => whnf)) | (refine onB_intro (fun hb => ?_) (fun hb => ?_) <;> (try simp only [decide_eq_true_eq, decide_eq_false_iff_not, Bool.not_eq_true', Bool.not_eq_false', Bool.and_eq_true, Bool.and_eq_false_iff, Int.not_le, Int.not_lt, ByteArray.toList_eq, beq_iff_eq, beq_eq_false_iff_ne, ne_eq] at hb) <;> (try (exfalso; omega)) <;> (try (exfalso; first | contradiction | (simp [ByteArray.toList_eq] at hb; done))) <;> (conv => whnf)) | (refine (hQ _ _ _ ?_).1; (conv => whnf)) | (refine ⟨_, rfl, ?_⟩; (conv => whnf)) | (refine ⟨_, mp_cut _ _ _, ?_⟩; (conv => whnf)) | (refine ⟨_, dbs_cut _ _ _, ?_⟩; (conv => whnf)) | (refine call_pure (awake_meets) (fun f => rfl) (fun f => rfl) ?_ ?_; (focus ((repeat' (first | exact trivial | exact Sub.refl _ | exact sub_nil | exact Or.inl rfl | exact Or.inr ⟨rfl, rfl⟩ | refine sub_tup ?_ | refine sub_agg ?_ | (refine sub_val ?_ ?_ <;> (first | omega | (simp [pb, List.map_take, List.map_drop]; done) | (simp [pb, List.map_take, List.map_drop]; omega))) | (refine or_val ?_ ?_ <;> (first | omega | (simp [pb, List.map_take, List.map_drop]; done) | (simp [pb, List.map_take, List.map_drop]; omega))) | refine And.intro ?_ ?_)); done)); (conv => whnf)))
    all_goals exact RetOk.pure' (fun f => rfl) (Sub.refl _)
  rcases Nat.lt_or_ge 100 b.length with h2 | h2
  · (conv => whnf); repeat' (first | (refine And.intro (by first | omega | (simp [pb]; done) | (simp [pb]; omega) | (simp [ByteArray.size]; omega) | exact Nat.le_of_ble_eq_true rfl | kernel_rfl) ?_; (conv => whnf)) | (refine onB_intro (fun hb => ?_) (fun hb => ?_) <;> (try simp only [decide_eq_true_eq, decide_eq_false_iff_not, Bool.not_eq_true', Bool.not_eq_false', Bool.and_eq_true, Bool.and_eq_false_iff, Int.not_le, Int.not_lt, ByteArray.toList_eq, beq_iff_eq, beq_eq_false_iff_ne, ne_eq] at hb) <;> (try (exfalso; omega)) <;> (try (exfalso; first | contradiction | (simp [ByteArray.toList_eq] at hb; done))) <;> (conv => whnf)) | (refine (hQ _ _ _ ?_).1; (conv => whnf)) | (refine ⟨_, rfl, ?_⟩; (conv => whnf)) | (refine ⟨_, mp_cut _ _ _, ?_⟩; (conv => whnf)) | (refine ⟨_, dbs_cut _ _ _, ?_⟩; (conv => whnf)) | (refine call_pure (awake_meets) (fun f => rfl) (fun f => rfl) ?_ ?_; (focus ((repeat' (first | exact trivial | exact Sub.refl _ | exact sub_nil | exact Or.inl rfl | exact Or.inr ⟨rfl, rfl⟩ | refine sub_tup ?_ | refine sub_agg ?_ | (refine sub_val ?_ ?_ <;> (first | omega | (simp [pb, List.map_take, List.map_drop]; done) | (simp [pb, List.map_take, List.map_drop]; omega))) | (refine or_val ?_ ?_ <;> (first | omega | (simp [pb, List.map_take, List.map_drop]; done) | (simp [pb, List.map_take, List.map_drop]; omega))) | refine And.intro ?_ ?_)); done)); (conv => whnf)))
    all_goals exact RetOk.pure' (fun f => rfl) (Sub.refl _)
  rcases Nat.eq_zero_or_pos b.length with h3 | h3
  · (conv => whnf); repeat' (first | (refine And.intro (by first | omega | (simp [pb]; done) | (simp [pb]; omega) | (simp [ByteArray.size]; omega) | exact Nat.le_of_ble_eq_true rfl | kernel_rfl) ?_; (conv => whnf)) | (refine onB_intro (fun hb => ?_) (fun hb => ?_) <;> (try simp only [decide_eq_true_eq, decide_eq_false_iff_not, Bool.not_eq_true', Bool.not_eq_false', Bool.and_eq_true, Bool.and_eq_false_iff, Int.not_le, Int.not_lt, ByteArray.toList_eq, beq_iff_eq, beq_eq_false_iff_ne, ne_eq] at hb) <;> (try (exfalso; omega)) <;> (try (exfalso; first | contradiction | (simp [ByteArray.toList_eq] at hb; done))) <;> (conv => whnf)) | (refine (hQ _ _ _ ?_).1; (conv => whnf)) | (refine ⟨_, rfl, ?_⟩; (conv => whnf)) | (refine ⟨_, mp_cut _ _ _, ?_⟩; (conv => whnf)) | (refine ⟨_, dbs_cut _ _ _, ?_⟩; (conv => whnf)) | (refine call_pure (awake_meets) (fun f => rfl) (fun f => rfl) ?_ ?_; (focus ((repeat' (first | exact trivial | exact Sub.refl _ | exact sub_nil | exact Or.inl rfl | exact Or.inr ⟨rfl, rfl⟩ | refine sub_tup ?_ | refine sub_agg ?_ | (refine sub_val ?_ ?_ <;> (first | omega | (simp [pb, List.map_take, List.map_drop]; done) | (simp [pb, List.map_take, List.map_drop]; omega))) | (refine or_val ?_ ?_ <;> (first | omega | (simp [pb, List.map_take, List.map_drop]; done) | (simp [pb, List.map_take, List.map_drop]; omega))) | refine And.intro ?_ ?_)); done)); (conv => whnf)))
    all_goals exact RetOk.pure' (fun f => rfl) (Sub.refl _)
  have m1 := append_meets D.new a ⟨by decide, by decide⟩ (by omega)
  rw [show D.new.append a = (⟨[], a, -1, false⟩, 0) by simp [D.append, D.valid, D.new]; omega] at m1
  have m2 := sync_meets ⟨[], a, -1, false⟩ (ok_of (by simp) (by omega) (by omega))
  rw [show (D.mk [] a (-1) false).sync = (⟨a, [], -1, false⟩, 0) by
    unfold D.sync
    rw [if_neg (by simp [D.valid]; omega), if_neg (by simp), if_neg (by simp)]
    rfl] at m2
  have m3 := fail_meets ⟨a, [], -1, false⟩ 0 (ok_of (by omega) (by simp) (by omega))
  rw [show (D.mk a [] (-1) false).fail 0 = (⟨a, [], 0, false⟩, 0) by
    unfold D.fail
    rw [if_neg (by simp [D.valid]; omega), if_neg (by omega)]] at m3
  have m4 := append_meets ⟨a, [], 0, false⟩ b (ok_of (by omega) (by simp) (by omega)) (by omega)
  rw [show (D.mk a [] 0 false).append b = (⟨a, [], 0, true⟩, 104) by
    unfold D.append
    rw [if_neg (by simp [D.valid]; omega), if_neg (by simp), if_neg (by simp; omega), if_pos (by simp; omega)]
    simp] at m4
  have okd : (D.mk a [] 0 true).ok := ok_of (by omega) (by simp) (by omega)
  have hv : (D.mk a [] 0 true).valid = true := by simp [D.valid]; omega
  have m5 := append_meets ⟨a, [], 0, true⟩ [] okd (by simp)
  rw [show (D.mk a [] 0 true).append [] = (⟨a, [], 0, true⟩, 104) by
    unfold D.append
    rw [if_neg (by rw [hv]; simp), if_pos rfl]] at m5
  have m6 := sync_meets ⟨a, [], 0, true⟩ okd
  rw [show (D.mk a [] 0 true).sync = (⟨a, [], 0, true⟩, 104) by
    unfold D.sync
    rw [if_neg (by rw [hv]; simp), if_pos rfl]] at m6
  have m7 := cut_meets ⟨a, [], 0, true⟩ 0 okd
  rw [show (D.mk a [] 0 true).cut 0 = (⟨a, [], 0, true⟩, 104) by
    unfold D.cut
    rw [if_neg (by rw [hv]; simp), if_neg (by omega), if_neg (by first | omega | (simp; done) | (simp; omega)), if_pos rfl]] at m7
  have m8 := read_meets ⟨a, [], 0, true⟩ okd
  rw [show (D.mk a [] 0 true).read = ([], 104) by
    unfold D.read
    rw [if_neg (by rw [hv]; simp), if_pos rfl]] at m8
  have m9 := crash_meets ⟨a, [], 0, true⟩ k okd
  rw [show (D.mk a [] 0 true).crash k = (⟨a, [], -1, false⟩, 0) by
    unfold D.crash
    rw [if_neg (by rw [hv]; simp)]
    simp] at m9
  have m10 := read_meets ⟨a, [], -1, false⟩ (ok_of (by omega) (by simp) (by omega))
  rw [show (D.mk a [] (-1) false).read = (a, 0) by
    unfold D.read
    rw [if_neg (by simp [D.valid]; omega), if_neg (by simp)]
    simp] at m10
  have m11 := same_meets ⟨a, [], 0, true⟩ ⟨a, [], 0, true⟩
  rw [D.same_self] at m11
  (conv => whnf); repeat' (first | (refine And.intro (by first | omega | (simp [pb]; done) | (simp [pb]; omega) | (simp [ByteArray.size]; omega) | exact Nat.le_of_ble_eq_true rfl | kernel_rfl) ?_; (conv => whnf)) | (refine onB_intro (fun hb => ?_) (fun hb => ?_) <;> (try simp only [decide_eq_true_eq, decide_eq_false_iff_not, Bool.not_eq_true', Bool.not_eq_false', Bool.and_eq_true, Bool.and_eq_false_iff, Int.not_le, Int.not_lt, ByteArray.toList_eq, beq_iff_eq, beq_eq_false_iff_ne, ne_eq] at hb) <;> (try (exfalso; omega)) <;> (try (exfalso; first | contradiction | (simp [ByteArray.toList_eq] at hb; done))) <;> (conv => whnf)) | (refine (hQ _ _ _ ?_).1; (conv => whnf)) | (refine ⟨_, rfl, ?_⟩; (conv => whnf)) | (refine ⟨_, mp_cut _ _ _, ?_⟩; (conv => whnf)) | (refine ⟨_, dbs_cut _ _ _, ?_⟩; (conv => whnf)) | (refine call_pure (new_meets) (fun f => rfl) (fun f => rfl) ?_ ?_; (focus ((repeat' (first | exact trivial | exact Sub.refl _ | exact sub_nil | exact Or.inl rfl | exact Or.inr ⟨rfl, rfl⟩ | refine sub_tup ?_ | refine sub_agg ?_ | (refine sub_val ?_ ?_ <;> (first | omega | (simp [pb, List.map_take, List.map_drop]; done) | (simp [pb, List.map_take, List.map_drop]; omega))) | (refine or_val ?_ ?_ <;> (first | omega | (simp [pb, List.map_take, List.map_drop]; done) | (simp [pb, List.map_take, List.map_drop]; omega))) | refine And.intro ?_ ?_)); done)); (conv => whnf)) | (refine call_pure (m1) (fun f => rfl) (fun f => rfl) ?_ ?_; (focus ((repeat' (first | exact trivial | exact Sub.refl _ | exact sub_nil | exact Or.inl rfl | exact Or.inr ⟨rfl, rfl⟩ | refine sub_tup ?_ | refine sub_agg ?_ | (refine sub_val ?_ ?_ <;> (first | omega | (simp [pb, List.map_take, List.map_drop]; done) | (simp [pb, List.map_take, List.map_drop]; omega))) | (refine or_val ?_ ?_ <;> (first | omega | (simp [pb, List.map_take, List.map_drop]; done) | (simp [pb, List.map_take, List.map_drop]; omega))) | refine And.intro ?_ ?_)); done)); (conv => whnf)) | (refine call_pure (m2) (fun f => rfl) (fun f => rfl) ?_ ?_; (focus ((repeat' (first | exact trivial | exact Sub.refl _ | exact sub_nil | exact Or.inl rfl | exact Or.inr ⟨rfl, rfl⟩ | refine sub_tup ?_ | refine sub_agg ?_ | (refine sub_val ?_ ?_ <;> (first | omega | (simp [pb, List.map_take, List.map_drop]; done) | (simp [pb, List.map_take, List.map_drop]; omega))) | (refine or_val ?_ ?_ <;> (first | omega | (simp [pb, List.map_take, List.map_drop]; done) | (simp [pb, List.map_take, List.map_drop]; omega))) | refine And.intro ?_ ?_)); done)); (conv => whnf)) | (refine call_pure (m3) (fun f => rfl) (fun f => rfl) ?_ ?_; (focus ((repeat' (first | exact trivial | exact Sub.refl _ | exact sub_nil | exact Or.inl rfl | exact Or.inr ⟨rfl, rfl⟩ | refine sub_tup ?_ | refine sub_agg ?_ | (refine sub_val ?_ ?_ <;> (first | omega | (simp [pb, List.map_take, List.map_drop]; done) | (simp [pb, List.map_take, List.map_drop]; omega))) | (refine or_val ?_ ?_ <;> (first | omega | (simp [pb, List.map_take, List.map_drop]; done) | (simp [pb, List.map_take, List.map_drop]; omega))) | refine And.intro ?_ ?_)); done)); (conv => whnf)) | (refine call_pure (m4) (fun f => rfl) (fun f => rfl) ?_ ?_; (focus ((repeat' (first | exact trivial | exact Sub.refl _ | exact sub_nil | exact Or.inl rfl | exact Or.inr ⟨rfl, rfl⟩ | refine sub_tup ?_ | refine sub_agg ?_ | (refine sub_val ?_ ?_ <;> (first | omega | (simp [pb, List.map_take, List.map_drop]; done) | (simp [pb, List.map_take, List.map_drop]; omega))) | (refine or_val ?_ ?_ <;> (first | omega | (simp [pb, List.map_take, List.map_drop]; done) | (simp [pb, List.map_take, List.map_drop]; omega))) | refine And.intro ?_ ?_)); done)); (conv => whnf)) | (refine call_pure (m5) (fun f => rfl) (fun f => rfl) ?_ ?_; (focus ((repeat' (first | exact trivial | exact Sub.refl _ | exact sub_nil | exact Or.inl rfl | exact Or.inr ⟨rfl, rfl⟩ | refine sub_tup ?_ | refine sub_agg ?_ | (refine sub_val ?_ ?_ <;> (first | omega | (simp [pb, List.map_take, List.map_drop]; done) | (simp [pb, List.map_take, List.map_drop]; omega))) | (refine or_val ?_ ?_ <;> (first | omega | (simp [pb, List.map_take, List.map_drop]; done) | (simp [pb, List.map_take, List.map_drop]; omega))) | refine And.intro ?_ ?_)); done)); (conv => whnf)) | (refine call_pure (m6) (fun f => rfl) (fun f => rfl) ?_ ?_; (focus ((repeat' (first | exact trivial | exact Sub.refl _ | exact sub_nil | exact Or.inl rfl | exact Or.inr ⟨rfl, rfl⟩ | refine sub_tup ?_ | refine sub_agg ?_ | (refine sub_val ?_ ?_ <;> (first | omega | (simp [pb, List.map_take, List.map_drop]; done) | (simp [pb, List.map_take, List.map_drop]; omega))) | (refine or_val ?_ ?_ <;> (first | omega | (simp [pb, List.map_take, List.map_drop]; done) | (simp [pb, List.map_take, List.map_drop]; omega))) | refine And.intro ?_ ?_)); done)); (conv => whnf)) | (refine call_pure (m7) (fun f => rfl) (fun f => rfl) ?_ ?_; (focus ((repeat' (first | exact trivial | exact Sub.refl _ | exact sub_nil | exact Or.inl rfl | exact Or.inr ⟨rfl, rfl⟩ | refine sub_tup ?_ | refine sub_agg ?_ | (refine sub_val ?_ ?_ <;> (first | omega | (simp [pb, List.map_take, List.map_drop]; done) | (simp [pb, List.map_take, List.map_drop]; omega))) | (refine or_val ?_ ?_ <;> (first | omega | (simp [pb, List.map_take, List.map_drop]; done) | (simp [pb, List.map_take, List.map_drop]; omega))) | refine And.intro ?_ ?_)); done)); (conv => whnf)) | (refine call_pure (m8) (fun f => rfl) (fun f => rfl) ?_ ?_; (focus ((repeat' (first | exact trivial | exact Sub.refl _ | exact sub_nil | exact Or.inl rfl | exact Or.inr ⟨rfl, rfl⟩ | refine sub_tup ?_ | refine sub_agg ?_ | (refine sub_val ?_ ?_ <;> (first | omega | (simp [pb, List.map_take, List.map_drop]; done) | (simp [pb, List.map_take, List.map_drop]; omega))) | (refine or_val ?_ ?_ <;> (first | omega | (simp [pb, List.map_take, List.map_drop]; done) | (simp [pb, List.map_take, List.map_drop]; omega))) | refine And.intro ?_ ?_)); done)); (conv => whnf)) | (refine call_pure (m9) (fun f => rfl) (fun f => rfl) ?_ ?_; (focus ((repeat' (first | exact trivial | exact Sub.refl _ | exact sub_nil | exact Or.inl rfl | exact Or.inr ⟨rfl, rfl⟩ | refine sub_tup ?_ | refine sub_agg ?_ | (refine sub_val ?_ ?_ <;> (first | omega | (simp [pb, List.map_take, List.map_drop]; done) | (simp [pb, List.map_take, List.map_drop]; omega))) | (refine or_val ?_ ?_ <;> (first | omega | (simp [pb, List.map_take, List.map_drop]; done) | (simp [pb, List.map_take, List.map_drop]; omega))) | refine And.intro ?_ ?_)); done)); (conv => whnf)) | (refine call_pure (m10) (fun f => rfl) (fun f => rfl) ?_ ?_; (focus ((repeat' (first | exact trivial | exact Sub.refl _ | exact sub_nil | exact Or.inl rfl | exact Or.inr ⟨rfl, rfl⟩ | refine sub_tup ?_ | refine sub_agg ?_ | (refine sub_val ?_ ?_ <;> (first | omega | (simp [pb, List.map_take, List.map_drop]; done) | (simp [pb, List.map_take, List.map_drop]; omega))) | (refine or_val ?_ ?_ <;> (first | omega | (simp [pb, List.map_take, List.map_drop]; done) | (simp [pb, List.map_take, List.map_drop]; omega))) | refine And.intro ?_ ?_)); done)); (conv => whnf)) | (refine call_pure (m11) (fun f => rfl) (fun f => rfl) ?_ ?_; (focus ((repeat' (first | exact trivial | exact Sub.refl _ | exact sub_nil | exact Or.inl rfl | exact Or.inr ⟨rfl, rfl⟩ | refine sub_tup ?_ | refine sub_agg ?_ | (refine sub_val ?_ ?_ <;> (first | omega | (simp [pb, List.map_take, List.map_drop]; done) | (simp [pb, List.map_take, List.map_drop]; omega))) | (refine or_val ?_ ?_ <;> (first | omega | (simp [pb, List.map_take, List.map_drop]; done) | (simp [pb, List.map_take, List.map_drop]; omega))) | refine And.intro ?_ ?_)); done)); (conv => whnf)) | (refine call_pure (awake_meets) (fun f => rfl) (fun f => rfl) ?_ ?_; (focus ((repeat' (first | exact trivial | exact Sub.refl _ | exact sub_nil | exact Or.inl rfl | exact Or.inr ⟨rfl, rfl⟩ | refine sub_tup ?_ | refine sub_agg ?_ | (refine sub_val ?_ ?_ <;> (first | omega | (simp [pb, List.map_take, List.map_drop]; done) | (simp [pb, List.map_take, List.map_drop]; omega))) | (refine or_val ?_ ?_ <;> (first | omega | (simp [pb, List.map_take, List.map_drop]; done) | (simp [pb, List.map_take, List.map_drop]; omega))) | refine And.intro ?_ ?_)); done)); (conv => whnf)))
  all_goals first
    | exact RetOk.pure' (fun f => rfl) (Sub.refl _)
    | (refine RetOk.pure' (fun f => rfl) (sub_bool ?_); simp_all [ByteArray.toList_eq]; done)
    | (exfalso; simp_all [ByteArray.toList_eq]; done)

theorem down_law (pss : List (List PV)) (h : IsAll [rBytes, rBytes, rInt] pss) : Meets Try.prog F_erasurelaw32DiskDown ⟨tvs [rBytes, rBytes, rInt] pss, [], 0, vb true, [], 0⟩ := by
  obtain ⟨x, _, rfl, hx, h⟩ := isAll_cons h
  obtain ⟨y, _, rfl, hy, h⟩ := isAll_cons h
  obtain ⟨z, _, rfl, hz, h⟩ := isAll_cons h
  obtain rfl := isAll_nil h
  obtain ⟨a, rfl, ha⟩ := is_bytes hx
  obtain ⟨b, rfl, hb⟩ := is_bytes hy
  obtain ⟨n, rfl, hn⟩ := is_int hz
  exact down_meets a b n
end Go.Proofs.Ytilbfoijfiebdaa.Am

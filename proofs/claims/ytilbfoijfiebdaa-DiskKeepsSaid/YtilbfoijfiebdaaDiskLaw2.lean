/- What DiskWhole returns: true, for all bytes and every number. -/
import Derived.Test.YtilbfoijfiebdaaDiskLaw1
namespace Go.Proofs.Ytilbfoijfiebdaa.Am
open Go
set_option linter.unusedVariables false
set_option linter.unusedSimpArgs false
set_option maxRecDepth 100000

/-- DiskWhole -/
theorem whole_meets (a b : List UInt8) (n : Int) (hla : a.length ≤ 9223372036854775807) (hlb : b.length ≤ 9223372036854775807) : Meets Try.prog F_erasurelaw32DiskWhole ⟨[.c (bs a), .c (bs b), vi n], [], 0, vb true, [], 0⟩ := by
  obtain ⟨r, hr, hlt⟩ := room n 130 (by omega) (by omega)
  have hr : IntKind.i64.wrap ((IntKind.u64.wrap n).tmod 130) = (r : Int) := hr
  refine fits_erasurelaw32DiskWhole.meets rfl (by simp) fun Q hQ => ?_
  by_cases hs : a.length ≤ 100 ∧ b.length ≤ 100
  · obtain ⟨ha, hb'⟩ := hs
    have m1 := append_meets D.new a ⟨by decide, by decide⟩ (by omega)
    have e1 : D.new.append a = (⟨[], a, -1, false⟩, 0) := by
      unfold D.append
      rw [if_neg (by simp [D.valid, D.new]), if_neg (by simp [D.new]), if_neg (by simp [D.new]; omega), if_neg (by simp [D.new])]
      rfl
    rw [e1] at m1
    have m2 := fail_meets ⟨[], a, -1, false⟩ r (ok_of (by simp) (by omega) (by omega))
    have e2 : (D.mk [] a (-1) false).fail r = (⟨[], a, r, false⟩, 0) := by
      unfold D.fail
      rw [if_neg (by simp [D.valid]; omega), if_neg (by omega)]
    rw [e2] at m2
    have m3 := append_meets ⟨[], a, r, false⟩ b (ok_of (by simp) (by omega) (by omega)) (by omega)
    (conv => whnf); repeat' (first | (refine And.intro (by first | omega | (simp [pb]; done) | (simp [pb]; omega) | (simp [ByteArray.size]; omega) | exact Nat.le_of_ble_eq_true rfl | kernel_rfl) ?_; (conv => whnf)) | (refine onB_intro (fun hb => ?_) (fun hb => ?_) <;> (try simp only [decide_eq_true_eq, decide_eq_false_iff_not, Bool.not_eq_true', Bool.not_eq_false', Bool.and_eq_true, Bool.and_eq_false_iff, Int.not_le, Int.not_lt, ByteArray.toList_eq, beq_iff_eq, beq_eq_false_iff_ne, ne_eq] at hb) <;> (try (exfalso; omega)) <;> (try (exfalso; first | contradiction | (simp [ByteArray.toList_eq] at hb; done))) <;> (conv => whnf)) | (refine (hQ _ _ _ ?_).1; (conv => whnf)) | (refine ⟨_, rfl, ?_⟩; (conv => whnf)) | (refine ⟨_, mp_cut _ _ _, ?_⟩; (conv => whnf)) | (refine ⟨_, dbs_cut _ _ _, ?_⟩; (conv => whnf)) | (refine call_pure (awake_meets) (fun f => rfl) (fun f => rfl) ?_ ?_; (focus ((repeat' (first | exact trivial | exact Sub.refl _ | exact sub_nil | exact Or.inl rfl | exact Or.inr ⟨rfl, rfl⟩ | refine sub_tup ?_ | refine sub_agg ?_ | (refine sub_val ?_ ?_ <;> (first | omega | (simp [pb, List.map_take, List.map_drop]; done) | (simp [pb, List.map_take, List.map_drop]; omega))) | (refine or_val ?_ ?_ <;> (first | omega | (simp [pb, List.map_take, List.map_drop]; done) | (simp [pb, List.map_take, List.map_drop]; omega))) | refine And.intro ?_ ?_)); done)); (conv => whnf)) | (refine call_pure (new_meets) (fun f => rfl) (fun f => rfl) ?_ ?_; (focus ((repeat' (first | exact trivial | exact Sub.refl _ | exact sub_nil | exact Or.inl rfl | exact Or.inr ⟨rfl, rfl⟩ | refine sub_tup ?_ | refine sub_agg ?_ | (refine sub_val ?_ ?_ <;> (first | omega | (simp [pb, List.map_take, List.map_drop]; done) | (simp [pb, List.map_take, List.map_drop]; omega))) | (refine or_val ?_ ?_ <;> (first | omega | (simp [pb, List.map_take, List.map_drop]; done) | (simp [pb, List.map_take, List.map_drop]; omega))) | refine And.intro ?_ ?_)); done)); (conv => whnf)) | (refine call_pure (m1) (fun f => rfl) (fun f => rfl) ?_ ?_; (focus ((repeat' (first | exact trivial | exact Sub.refl _ | exact sub_nil | exact Or.inl rfl | exact Or.inr ⟨rfl, rfl⟩ | refine sub_tup ?_ | refine sub_agg ?_ | (refine sub_val ?_ ?_ <;> (first | omega | (simp [pb, List.map_take, List.map_drop]; done) | (simp [pb, List.map_take, List.map_drop]; omega))) | (refine or_val ?_ ?_ <;> (first | omega | (simp [pb, List.map_take, List.map_drop]; done) | (simp [pb, List.map_take, List.map_drop]; omega))) | refine And.intro ?_ ?_)); done)); (conv => whnf)))
    simp only [hr]
    rcases Nat.lt_or_ge r b.length with h | h
    · have e3 : (D.mk [] a r false).append b = (⟨[], a ++ b.take r, 0, true⟩, 104) := by
        unfold D.append
        rw [if_neg (by simp [D.valid]; omega), if_neg (by simp), if_neg (by simp; omega), if_pos (by simp; omega)]
        simp
      rw [e3] at m3
      (conv => whnf); repeat' (first | (refine And.intro (by first | omega | (simp [pb]; done) | (simp [pb]; omega) | (simp [ByteArray.size]; omega) | exact Nat.le_of_ble_eq_true rfl | kernel_rfl) ?_; (conv => whnf)) | (refine onB_intro (fun hb => ?_) (fun hb => ?_) <;> (try simp only [decide_eq_true_eq, decide_eq_false_iff_not, Bool.not_eq_true', Bool.not_eq_false', Bool.and_eq_true, Bool.and_eq_false_iff, Int.not_le, Int.not_lt, ByteArray.toList_eq, beq_iff_eq, beq_eq_false_iff_ne, ne_eq] at hb) <;> (try (exfalso; omega)) <;> (try (exfalso; first | contradiction | (simp [ByteArray.toList_eq] at hb; done))) <;> (conv => whnf)) | (refine (hQ _ _ _ ?_).1; (conv => whnf)) | (refine ⟨_, rfl, ?_⟩; (conv => whnf)) | (refine ⟨_, mp_cut _ _ _, ?_⟩; (conv => whnf)) | (refine ⟨_, dbs_cut _ _ _, ?_⟩; (conv => whnf)) | (refine call_pure (m2) (fun f => rfl) (fun f => rfl) ?_ ?_; (focus ((repeat' (first | exact trivial | exact Sub.refl _ | exact sub_nil | exact Or.inl rfl | exact Or.inr ⟨rfl, rfl⟩ | refine sub_tup ?_ | refine sub_agg ?_ | (refine sub_val ?_ ?_ <;> (first | omega | (simp [pb, List.map_take, List.map_drop]; done) | (simp [pb, List.map_take, List.map_drop]; omega))) | (refine or_val ?_ ?_ <;> (first | omega | (simp [pb, List.map_take, List.map_drop]; done) | (simp [pb, List.map_take, List.map_drop]; omega))) | refine And.intro ?_ ?_)); done)); (conv => whnf)) | (refine call_pure (m3) (fun f => rfl) (fun f => rfl) ?_ ?_; (focus ((repeat' (first | exact trivial | exact Sub.refl _ | exact sub_nil | exact Or.inl rfl | exact Or.inr ⟨rfl, rfl⟩ | refine sub_tup ?_ | refine sub_agg ?_ | (refine sub_val ?_ ?_ <;> (first | omega | (simp [pb, List.map_take, List.map_drop]; done) | (simp [pb, List.map_take, List.map_drop]; omega))) | (refine or_val ?_ ?_ <;> (first | omega | (simp [pb, List.map_take, List.map_drop]; done) | (simp [pb, List.map_take, List.map_drop]; omega))) | refine And.intro ?_ ?_)); done)); (conv => whnf)) | (refine call_pure (awake_meets) (fun f => rfl) (fun f => rfl) ?_ ?_; (focus ((repeat' (first | exact trivial | exact Sub.refl _ | exact sub_nil | exact Or.inl rfl | exact Or.inr ⟨rfl, rfl⟩ | refine sub_tup ?_ | refine sub_agg ?_ | (refine sub_val ?_ ?_ <;> (first | omega | (simp [pb, List.map_take, List.map_drop]; done) | (simp [pb, List.map_take, List.map_drop]; omega))) | (refine or_val ?_ ?_ <;> (first | omega | (simp [pb, List.map_take, List.map_drop]; done) | (simp [pb, List.map_take, List.map_drop]; omega))) | refine And.intro ?_ ?_)); done)); (conv => whnf)))
      all_goals first
        | exact RetOk.pure' (fun f => rfl) (Sub.refl _)
        | (refine RetOk.pure' (fun f => rfl) (sub_bool ?_); simp_all [ByteArray.toList_eq])
        | (exfalso; simp_all [ByteArray.toList_eq]; done)
    · have e3 : (D.mk [] a r false).append b = (⟨[], a ++ b, r - b.length, false⟩, 0) := by
        unfold D.append
        rw [if_neg (by simp [D.valid]; omega), if_neg (by simp), if_neg (by simp; omega), if_neg (by simp; omega), if_pos (by simp)]
      rw [e3] at m3
      have m4 := read_meets ⟨[], a ++ b, r - b.length, false⟩ (ok_of (by simp) (by simp; omega) (by omega))
      rw [show (D.mk [] (a ++ b) (r - b.length) false).read = (a ++ b, 0) by
        unfold D.read
        rw [if_neg (by simp [D.valid]; omega), if_neg (by simp)]
        rfl] at m4
      (conv => whnf); repeat' (first | (refine And.intro (by first | omega | (simp [pb]; done) | (simp [pb]; omega) | (simp [ByteArray.size]; omega) | exact Nat.le_of_ble_eq_true rfl | kernel_rfl) ?_; (conv => whnf)) | (refine onB_intro (fun hb => ?_) (fun hb => ?_) <;> (try simp only [decide_eq_true_eq, decide_eq_false_iff_not, Bool.not_eq_true', Bool.not_eq_false', Bool.and_eq_true, Bool.and_eq_false_iff, Int.not_le, Int.not_lt, ByteArray.toList_eq, beq_iff_eq, beq_eq_false_iff_ne, ne_eq] at hb) <;> (try (exfalso; omega)) <;> (try (exfalso; first | contradiction | (simp [ByteArray.toList_eq] at hb; done))) <;> (conv => whnf)) | (refine (hQ _ _ _ ?_).1; (conv => whnf)) | (refine ⟨_, rfl, ?_⟩; (conv => whnf)) | (refine ⟨_, mp_cut _ _ _, ?_⟩; (conv => whnf)) | (refine ⟨_, dbs_cut _ _ _, ?_⟩; (conv => whnf)) | (refine call_pure (m2) (fun f => rfl) (fun f => rfl) ?_ ?_; (focus ((repeat' (first | exact trivial | exact Sub.refl _ | exact sub_nil | exact Or.inl rfl | exact Or.inr ⟨rfl, rfl⟩ | refine sub_tup ?_ | refine sub_agg ?_ | (refine sub_val ?_ ?_ <;> (first | omega | (simp [pb, List.map_take, List.map_drop]; done) | (simp [pb, List.map_take, List.map_drop]; omega))) | (refine or_val ?_ ?_ <;> (first | omega | (simp [pb, List.map_take, List.map_drop]; done) | (simp [pb, List.map_take, List.map_drop]; omega))) | refine And.intro ?_ ?_)); done)); (conv => whnf)) | (refine call_pure (m3) (fun f => rfl) (fun f => rfl) ?_ ?_; (focus ((repeat' (first | exact trivial | exact Sub.refl _ | exact sub_nil | exact Or.inl rfl | exact Or.inr ⟨rfl, rfl⟩ | refine sub_tup ?_ | refine sub_agg ?_ | (refine sub_val ?_ ?_ <;> (first | omega | (simp [pb, List.map_take, List.map_drop]; done) | (simp [pb, List.map_take, List.map_drop]; omega))) | (refine or_val ?_ ?_ <;> (first | omega | (simp [pb, List.map_take, List.map_drop]; done) | (simp [pb, List.map_take, List.map_drop]; omega))) | refine And.intro ?_ ?_)); done)); (conv => whnf)) | (refine call_pure (m4) (fun f => rfl) (fun f => rfl) ?_ ?_; (focus ((repeat' (first | exact trivial | exact Sub.refl _ | exact sub_nil | exact Or.inl rfl | exact Or.inr ⟨rfl, rfl⟩ | refine sub_tup ?_ | refine sub_agg ?_ | (refine sub_val ?_ ?_ <;> (first | omega | (simp [pb, List.map_take, List.map_drop]; done) | (simp [pb, List.map_take, List.map_drop]; omega))) | (refine or_val ?_ ?_ <;> (first | omega | (simp [pb, List.map_take, List.map_drop]; done) | (simp [pb, List.map_take, List.map_drop]; omega))) | refine And.intro ?_ ?_)); done)); (conv => whnf)) | (refine call_pure (awake_meets) (fun f => rfl) (fun f => rfl) ?_ ?_; (focus ((repeat' (first | exact trivial | exact Sub.refl _ | exact sub_nil | exact Or.inl rfl | exact Or.inr ⟨rfl, rfl⟩ | refine sub_tup ?_ | refine sub_agg ?_ | (refine sub_val ?_ ?_ <;> (first | omega | (simp [pb, List.map_take, List.map_drop]; done) | (simp [pb, List.map_take, List.map_drop]; omega))) | (refine or_val ?_ ?_ <;> (first | omega | (simp [pb, List.map_take, List.map_drop]; done) | (simp [pb, List.map_take, List.map_drop]; omega))) | refine And.intro ?_ ?_)); done)); (conv => whnf)))
      all_goals first
        | exact RetOk.pure' (fun f => rfl) (Sub.refl _)
        | (refine RetOk.pure' (fun f => rfl) (sub_bool ?_); simp_all [ByteArray.toList_eq])
        | (exfalso; simp_all [ByteArray.toList_eq]; done)
  · (conv => whnf); repeat' (first | (refine And.intro (by first | omega | (simp [pb]; done) | (simp [pb]; omega) | (simp [ByteArray.size]; omega) | exact Nat.le_of_ble_eq_true rfl | kernel_rfl) ?_; (conv => whnf)) | (refine onB_intro (fun hb => ?_) (fun hb => ?_) <;> (try simp only [decide_eq_true_eq, decide_eq_false_iff_not, Bool.not_eq_true', Bool.not_eq_false', Bool.and_eq_true, Bool.and_eq_false_iff, Int.not_le, Int.not_lt, ByteArray.toList_eq, beq_iff_eq, beq_eq_false_iff_ne, ne_eq] at hb) <;> (try (exfalso; omega)) <;> (try (exfalso; first | contradiction | (simp [ByteArray.toList_eq] at hb; done))) <;> (conv => whnf)) | (refine (hQ _ _ _ ?_).1; (conv => whnf)) | (refine ⟨_, rfl, ?_⟩; (conv => whnf)) | (refine ⟨_, mp_cut _ _ _, ?_⟩; (conv => whnf)) | (refine ⟨_, dbs_cut _ _ _, ?_⟩; (conv => whnf)) | (refine call_pure (awake_meets) (fun f => rfl) (fun f => rfl) ?_ ?_; (focus ((repeat' (first | exact trivial | exact Sub.refl _ | exact sub_nil | exact Or.inl rfl | exact Or.inr ⟨rfl, rfl⟩ | refine sub_tup ?_ | refine sub_agg ?_ | (refine sub_val ?_ ?_ <;> (first | omega | (simp [pb, List.map_take, List.map_drop]; done) | (simp [pb, List.map_take, List.map_drop]; omega))) | (refine or_val ?_ ?_ <;> (first | omega | (simp [pb, List.map_take, List.map_drop]; done) | (simp [pb, List.map_take, List.map_drop]; omega))) | refine And.intro ?_ ?_)); done)); (conv => whnf)))
    all_goals exact RetOk.pure' (fun f => rfl) (Sub.refl _)

theorem whole_law (pss : List (List PV)) (h : IsAll [rBytes, rBytes, rInt] pss) : Meets Try.prog F_erasurelaw32DiskWhole ⟨tvs [rBytes, rBytes, rInt] pss, [], 0, vb true, [], 0⟩ := by
  obtain ⟨x, _, rfl, hx, h⟩ := isAll_cons h
  obtain ⟨y, _, rfl, hy, h⟩ := isAll_cons h
  obtain ⟨z, _, rfl, hz, h⟩ := isAll_cons h
  obtain rfl := isAll_nil h
  obtain ⟨a, rfl, ha⟩ := is_bytes hx
  obtain ⟨b, rfl, hb⟩ := is_bytes hy
  obtain ⟨n, rfl, hn⟩ := is_int hz
  exact whole_meets a b n ha hb
end Go.Proofs.Ytilbfoijfiebdaa.Am

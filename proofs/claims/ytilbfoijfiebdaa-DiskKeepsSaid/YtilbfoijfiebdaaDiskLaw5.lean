/- What DiskPlays and DiskKeeps return: true, for all lists of operations. -/
import Derived.Test.YtilbfoijfiebdaaDiskLaw4
namespace Go.Proofs.Ytilbfoijfiebdaa.Am
open Go
set_option linter.unusedVariables false
set_option linter.unusedSimpArgs false
set_option maxRecDepth 100000

abbrev Act.pv (a : Act) : List PV := [pi a.k, pi a.n, pbs a.b]
theorem Act.len (a : Act) : a.pv.length = 3 := rfl
abbrev acts (l : List Act) : DV := .p (.val l.length (l.flatMap Act.pv))
def shortB (l : List Act) : Bool := l.all (fun a => decide (a.b.length ≤ 60)) && decide (l.length ≤ 30)

/-- erasurelaw32.short -/
theorem short_meets (l : List Act) (hl : l.length ≤ 9223372036854775807) : Meets Try.prog F_erasurelaw32short ⟨[.c (acts l)], [], 0, vb (shortB l), [], 0⟩ := by
  refine fits_erasurelaw32short.meets rfl (by simp) fun Q hQ => ?_
  (conv => whnf); repeat' (first | (refine And.intro (by first | omega | (simp [pb]; done) | (simp [pb]; omega) | (simp [ByteArray.size]; omega) | exact Nat.le_of_ble_eq_true rfl | kernel_rfl) ?_; (conv => whnf)) | (refine onB_intro (fun hb => ?_) (fun hb => ?_) <;> (try simp only [decide_eq_true_eq, decide_eq_false_iff_not, Bool.not_eq_true', Bool.not_eq_false', Bool.and_eq_true, Bool.and_eq_false_iff, Int.not_le, Int.not_lt, ByteArray.toList_eq, beq_iff_eq, beq_eq_false_iff_ne, ne_eq] at hb) <;> (try (exfalso; omega)) <;> (try (exfalso; first | contradiction | (simp [ByteArray.toList_eq] at hb; done))) <;> (conv => whnf)) | (refine (hQ _ _ _ ?_).1; (conv => whnf)) | (refine ⟨_, rfl, ?_⟩; (conv => whnf)) | (refine ⟨_, mp_cut _ _ _, ?_⟩; (conv => whnf)) | (refine ⟨_, dbs_cut _ _ _, ?_⟩; (conv => whnf)))
  refine loop_fam (fun k : Nat => ⟨[(0, .c (acts l)), (3, vi k)], [], 0⟩) (fun k => l.length - k) (fun k => k ≤ l.length ∧ ∀ a ∈ l.take k, a.b.length ≤ 60) 0 (wk_env (by omega) ⟨Sub.refl _, Sub.refl _, trivial⟩) (by simp) ?_
  rintro k ⟨hk, hall⟩ K hK
  cases ha : l[k]? with
  | none =>
    have : k = l.length := by have := List.getElem?_eq_none_iff.1 ha; omega
    subst this
    (conv => whnf); repeat' (first | (refine And.intro (by first | omega | (simp [pb]; done) | (simp [pb]; omega) | (simp [ByteArray.size]; omega) | exact Nat.le_of_ble_eq_true rfl | kernel_rfl) ?_; (conv => whnf)) | (refine onB_intro (fun hb => ?_) (fun hb => ?_) <;> (try simp only [decide_eq_true_eq, decide_eq_false_iff_not, Bool.not_eq_true', Bool.not_eq_false', Bool.and_eq_true, Bool.and_eq_false_iff, Int.not_le, Int.not_lt, ByteArray.toList_eq, beq_iff_eq, beq_eq_false_iff_ne, ne_eq] at hb) <;> (try (exfalso; omega)) <;> (try (exfalso; first | contradiction | (simp [ByteArray.toList_eq] at hb; done))) <;> (conv => whnf)) | (refine (hQ _ _ _ ?_).1; (conv => whnf)) | (refine ⟨_, rfl, ?_⟩; (conv => whnf)) | (refine ⟨_, mp_cut _ _ _, ?_⟩; (conv => whnf)) | (refine ⟨_, dbs_cut _ _ _, ?_⟩; (conv => whnf)))
    refine RetOk.pure' (fun f => rfl) (sub_bool ?_)
    simp at hall
    simp [shortB]; exact ⟨fun h => ⟨hall, by omega⟩, fun h => by omega⟩
  | some a =>
    have hlt : k < l.length := (List.getElem?_eq_some_iff.1 ha).1
    (conv => whnf); repeat' (first | (refine And.intro (by first | omega | (simp [pb]; done) | (simp [pb]; omega) | (simp [ByteArray.size]; omega) | exact Nat.le_of_ble_eq_true rfl | kernel_rfl) ?_; (conv => whnf)) | (refine onB_intro (fun hb => ?_) (fun hb => ?_) <;> (try simp only [decide_eq_true_eq, decide_eq_false_iff_not, Bool.not_eq_true', Bool.not_eq_false', Bool.and_eq_true, Bool.and_eq_false_iff, Int.not_le, Int.not_lt, ByteArray.toList_eq, beq_iff_eq, beq_eq_false_iff_ne, ne_eq] at hb) <;> (try (exfalso; omega)) <;> (try (exfalso; first | contradiction | (simp [ByteArray.toList_eq] at hb; done))) <;> (conv => whnf)) | (refine (hQ _ _ _ ?_).1; (conv => whnf)) | (refine ⟨_, rfl, ?_⟩; (conv => whnf)) | (refine ⟨_, mp_cut _ _ _, ?_⟩; (conv => whnf)) | (refine ⟨_, dbs_cut _ _ _, ?_⟩; (conv => whnf)) | (simp only [elem_at' Act.len ha]; (conv => whnf)))
    · refine RetOk.pure' (fun f => rfl) (sub_bool ?_)
      simp [shortB]; intro h
      have := h a (List.mem_of_getElem? ha)
      omega
    · refine hK _ _ _ (k + 1) ⟨by omega, ?_⟩ (by omega) (wk_env (by omega) ⟨Sub.refl _, sub_int (by omega), trivial⟩)
      intro b hb
      rw [List.take_add_one, ha] at hb
      simp at hb
      rcases hb with hb | rfl
      · exact hall b hb
      · omega

theorem D.ok_of_valid {d : D} (h : d.valid = true) (hf : d.f ≤ 9223372036854775807) : d.ok := by
  obtain ⟨h1, h2, h3⟩ := D.valid_iff.1 h
  exact ⟨⟨by omega, by omega⟩, by omega, hf⟩
/-- What an operation leaves is a disk. -/
theorem D.act_valid {d : D} {a : Act} (h : d.valid = true) (hf : d.f ≤ 9223372036854775807) (hn : inI64 a.n) (he : (d.act a).2 = 0 ∨ (d.act a).2 = 104) : (d.act a).1.valid = true ∧ (d.act a).1.f ≤ 9223372036854775807 := by
  obtain ⟨h1, h2, h3⟩ := D.valid_iff.1 h
  obtain ⟨h4, h5⟩ := hn
  generalize hx : d.act a = x at he ⊢
  unfold D.act D.append D.sync D.fail D.crash D.cut at hx
  rw [h] at hx
  rw [D.valid_iff]
  repeat' split at hx
  all_goals first
    | (subst hx; simp at he; done)
    | (subst hx; simp [D.zero] at *; omega)
    | (subst hx; refine ⟨⟨?_, ?_, ?_⟩, ?_⟩ <;> simp [D.zero] at * <;> omega)
    | (subst hx; exact ⟨⟨h1, h2, h3⟩, hf⟩)

/-- DiskPlays -/
theorem plays_meets (l : List Act) (hl : l.length ≤ 9223372036854775807) (hn : ∀ a ∈ l, inI64 a.n) : Meets Try.prog F_erasurelaw32DiskPlays ⟨[.c (acts l)], [], 0, vb true, [], 0⟩ := by
  refine fits_erasurelaw32DiskPlays.meets rfl (by simp) fun Q hQ => ?_
  have m0 := short_meets l hl
  cases hs : shortB l with
  | false =>
    rw [hs] at m0
    (conv => whnf); repeat' (first | (refine And.intro (by first | omega | (simp [pb]; done) | (simp [pb]; omega) | (simp [ByteArray.size]; omega) | exact Nat.le_of_ble_eq_true rfl | kernel_rfl) ?_; (conv => whnf)) | (refine onB_intro (fun hb => ?_) (fun hb => ?_) <;> (try simp only [decide_eq_true_eq, decide_eq_false_iff_not, Bool.not_eq_true', Bool.not_eq_false', Bool.and_eq_true, Bool.and_eq_false_iff, Int.not_le, Int.not_lt, ByteArray.toList_eq, beq_iff_eq, beq_eq_false_iff_ne, ne_eq] at hb) <;> (try (exfalso; omega)) <;> (try (exfalso; first | contradiction | (simp [ByteArray.toList_eq] at hb; done))) <;> (conv => whnf)) | (refine (hQ _ _ _ ?_).1; (conv => whnf)) | (refine ⟨_, rfl, ?_⟩; (conv => whnf)) | (refine ⟨_, mp_cut _ _ _, ?_⟩; (conv => whnf)) | (refine ⟨_, dbs_cut _ _ _, ?_⟩; (conv => whnf)) | (refine call_pure (m0) (fun f => rfl) (fun f => rfl) ?_ ?_; (focus ((repeat' (first | exact trivial | exact Sub.refl _ | exact sub_nil | exact Or.inl rfl | exact Or.inr ⟨rfl, rfl⟩ | refine sub_tup ?_ | refine sub_agg ?_ | (refine sub_val ?_ ?_ <;> (first | omega | (simp [pb, List.map_take, List.map_drop]; done) | (simp [pb, List.map_take, List.map_drop]; omega))) | (refine or_val ?_ ?_ <;> (first | omega | (simp [pb, List.map_take, List.map_drop]; done) | (simp [pb, List.map_take, List.map_drop]; omega))) | refine And.intro ?_ ?_)); done)); (conv => whnf)) | (refine call_pure (awake_meets) (fun f => rfl) (fun f => rfl) ?_ ?_; (focus ((repeat' (first | exact trivial | exact Sub.refl _ | exact sub_nil | exact Or.inl rfl | exact Or.inr ⟨rfl, rfl⟩ | refine sub_tup ?_ | refine sub_agg ?_ | (refine sub_val ?_ ?_ <;> (first | omega | (simp [pb, List.map_take, List.map_drop]; done) | (simp [pb, List.map_take, List.map_drop]; omega))) | (refine or_val ?_ ?_ <;> (first | omega | (simp [pb, List.map_take, List.map_drop]; done) | (simp [pb, List.map_take, List.map_drop]; omega))) | refine And.intro ?_ ?_)); done)); (conv => whnf)))
    all_goals exact RetOk.pure' (fun f => rfl) (Sub.refl _)
  | true =>
    rw [hs] at m0
    (conv => whnf); repeat' (first | (refine And.intro (by first | omega | (simp [pb]; done) | (simp [pb]; omega) | (simp [ByteArray.size]; omega) | exact Nat.le_of_ble_eq_true rfl | kernel_rfl) ?_; (conv => whnf)) | (refine onB_intro (fun hb => ?_) (fun hb => ?_) <;> (try simp only [decide_eq_true_eq, decide_eq_false_iff_not, Bool.not_eq_true', Bool.not_eq_false', Bool.and_eq_true, Bool.and_eq_false_iff, Int.not_le, Int.not_lt, ByteArray.toList_eq, beq_iff_eq, beq_eq_false_iff_ne, ne_eq] at hb) <;> (try (exfalso; omega)) <;> (try (exfalso; first | contradiction | (simp [ByteArray.toList_eq] at hb; done))) <;> (conv => whnf)) | (refine (hQ _ _ _ ?_).1; (conv => whnf)) | (refine ⟨_, rfl, ?_⟩; (conv => whnf)) | (refine ⟨_, mp_cut _ _ _, ?_⟩; (conv => whnf)) | (refine ⟨_, dbs_cut _ _ _, ?_⟩; (conv => whnf)) | (refine call_pure (m0) (fun f => rfl) (fun f => rfl) ?_ ?_; (focus ((repeat' (first | exact trivial | exact Sub.refl _ | exact sub_nil | exact Or.inl rfl | exact Or.inr ⟨rfl, rfl⟩ | refine sub_tup ?_ | refine sub_agg ?_ | (refine sub_val ?_ ?_ <;> (first | omega | (simp [pb, List.map_take, List.map_drop]; done) | (simp [pb, List.map_take, List.map_drop]; omega))) | (refine or_val ?_ ?_ <;> (first | omega | (simp [pb, List.map_take, List.map_drop]; done) | (simp [pb, List.map_take, List.map_drop]; omega))) | refine And.intro ?_ ?_)); done)); (conv => whnf)) | (refine call_pure (awake_meets) (fun f => rfl) (fun f => rfl) ?_ ?_; (focus ((repeat' (first | exact trivial | exact Sub.refl _ | exact sub_nil | exact Or.inl rfl | exact Or.inr ⟨rfl, rfl⟩ | refine sub_tup ?_ | refine sub_agg ?_ | (refine sub_val ?_ ?_ <;> (first | omega | (simp [pb, List.map_take, List.map_drop]; done) | (simp [pb, List.map_take, List.map_drop]; omega))) | (refine or_val ?_ ?_ <;> (first | omega | (simp [pb, List.map_take, List.map_drop]; done) | (simp [pb, List.map_take, List.map_drop]; omega))) | refine And.intro ?_ ?_)); done)); (conv => whnf)) | (refine call_pure (new_meets) (fun f => rfl) (fun f => rfl) ?_ ?_; (focus ((repeat' (first | exact trivial | exact Sub.refl _ | exact sub_nil | exact Or.inl rfl | exact Or.inr ⟨rfl, rfl⟩ | refine sub_tup ?_ | refine sub_agg ?_ | (refine sub_val ?_ ?_ <;> (first | omega | (simp [pb, List.map_take, List.map_drop]; done) | (simp [pb, List.map_take, List.map_drop]; omega))) | (refine or_val ?_ ?_ <;> (first | omega | (simp [pb, List.map_take, List.map_drop]; done) | (simp [pb, List.map_take, List.map_drop]; omega))) | refine And.intro ?_ ?_)); done)); (conv => whnf)) | (refine call_pure (rnew_meets) (fun f => rfl) (fun f => rfl) ?_ ?_; (focus ((repeat' (first | exact trivial | exact Sub.refl _ | exact sub_nil | exact Or.inl rfl | exact Or.inr ⟨rfl, rfl⟩ | refine sub_tup ?_ | refine sub_agg ?_ | (refine sub_val ?_ ?_ <;> (first | omega | (simp [pb, List.map_take, List.map_drop]; done) | (simp [pb, List.map_take, List.map_drop]; omega))) | (refine or_val ?_ ?_ <;> (first | omega | (simp [pb, List.map_take, List.map_drop]; done) | (simp [pb, List.map_take, List.map_drop]; omega))) | refine And.intro ?_ ?_)); done)); (conv => whnf)))
    refine loop_fam (ι := Nat × D) (fun i => ⟨[(0, .c (acts l)), (3, .c (.ptr 3 0)), (4, .c (.ptr 4 0)), (5, vi i.1)], [(3, ⟨T_api_Disk, i.2.enc⟩), (4, ⟨T_api_Disk, i.2.enc⟩)], 5⟩) (fun i => l.length - i.1)
      (fun i => i.1 ≤ l.length ∧ i.2.valid = true ∧ i.2.f ≤ 9223372036854775807) (0, D.new) (Wk.names [(3, 3), (4, 4)] rfl (Nat.zero_le _) ⟨Sub.refl _, Sub.refl _, Sub.refl _, Sub.refl _, trivial⟩ ⟨rfl, rfl, trivial⟩) (by simp [D.new, D.valid]) ?_
    rintro ⟨k, d⟩ ⟨hk, hv, hf⟩ K hK
    simp only at hk hv hf
    have hd := D.ok_of_valid hv hf
    cases ha : l[k]? with
    | none =>
      have : k = l.length := by have := List.getElem?_eq_none_iff.1 ha; omega
      subst this
      (conv => whnf); repeat' (first | (refine And.intro (by first | omega | (simp [pb]; done) | (simp [pb]; omega) | (simp [ByteArray.size]; omega) | exact Nat.le_of_ble_eq_true rfl | kernel_rfl) ?_; (conv => whnf)) | (refine onB_intro (fun hb => ?_) (fun hb => ?_) <;> (try simp only [decide_eq_true_eq, decide_eq_false_iff_not, Bool.not_eq_true', Bool.not_eq_false', Bool.and_eq_true, Bool.and_eq_false_iff, Int.not_le, Int.not_lt, ByteArray.toList_eq, beq_iff_eq, beq_eq_false_iff_ne, ne_eq] at hb) <;> (try (exfalso; omega)) <;> (try (exfalso; first | contradiction | (simp [ByteArray.toList_eq] at hb; done))) <;> (conv => whnf)) | (refine (hQ _ _ _ ?_).1; (conv => whnf)) | (refine ⟨_, rfl, ?_⟩; (conv => whnf)) | (refine ⟨_, mp_cut _ _ _, ?_⟩; (conv => whnf)) | (refine ⟨_, dbs_cut _ _ _, ?_⟩; (conv => whnf)) | (refine call_pure (awake_meets) (fun f => rfl) (fun f => rfl) ?_ ?_; (focus ((repeat' (first | exact trivial | exact Sub.refl _ | exact sub_nil | exact Or.inl rfl | exact Or.inr ⟨rfl, rfl⟩ | refine sub_tup ?_ | refine sub_agg ?_ | (refine sub_val ?_ ?_ <;> (first | omega | (simp [pb, List.map_take, List.map_drop]; done) | (simp [pb, List.map_take, List.map_drop]; omega))) | (refine or_val ?_ ?_ <;> (first | omega | (simp [pb, List.map_take, List.map_drop]; done) | (simp [pb, List.map_take, List.map_drop]; omega))) | refine And.intro ?_ ?_)); done)); (conv => whnf)))
      exact RetOk.pure' (fun f => rfl) (Sub.refl _)
    | some a =>
      have hlt : k < l.length := (List.getElem?_eq_some_iff.1 ha).1
      have hm := List.mem_of_getElem? ha
      have hsb : a.b.length ≤ 60 := by simp [shortB] at hs; exact hs.1 a hm
      have m1 := same_meets (d.act a).1 (d.act a).1
      rw [D.same_self] at m1
      by_cases he : (d.act a).2 = 0 ∨ (d.act a).2 = 104
      · obtain ⟨hv', hf'⟩ := D.act_valid hv hf (hn a hm) he
        have hd' := D.ok_of_valid hv' hf'
        have m2 := lsame_meets (d.act a).1 (d.act a).1 hd' hd'
        rw [D.same2_self] at m2
        have m3 := valid_meets (d.act a).1 hd'
        rw [hv'] at m3
        (conv => whnf); repeat' (first | (refine And.intro (by first | omega | (simp [pb]; done) | (simp [pb]; omega) | (simp [ByteArray.size]; omega) | exact Nat.le_of_ble_eq_true rfl | kernel_rfl) ?_; (conv => whnf)) | (refine onB_intro (fun hb => ?_) (fun hb => ?_) <;> (try simp only [decide_eq_true_eq, decide_eq_false_iff_not, Bool.not_eq_true', Bool.not_eq_false', Bool.and_eq_true, Bool.and_eq_false_iff, Int.not_le, Int.not_lt, ByteArray.toList_eq, beq_iff_eq, beq_eq_false_iff_ne, ne_eq] at hb) <;> (try (exfalso; omega)) <;> (try (exfalso; first | contradiction | (simp [ByteArray.toList_eq] at hb; done))) <;> (conv => whnf)) | (refine (hQ _ _ _ ?_).1; (conv => whnf)) | (refine ⟨_, rfl, ?_⟩; (conv => whnf)) | (refine ⟨_, mp_cut _ _ _, ?_⟩; (conv => whnf)) | (refine ⟨_, dbs_cut _ _ _, ?_⟩; (conv => whnf)) | (refine call_pure (do_meets d a hd (by omega)) (fun f => rfl) (fun f => rfl) ?_ ?_; (focus ((repeat' (first | exact trivial | exact Sub.refl _ | exact sub_nil | exact Or.inl rfl | exact Or.inr ⟨rfl, rfl⟩ | refine sub_tup ?_ | refine sub_agg ?_ | (refine sub_val ?_ ?_ <;> (first | omega | (simp [pb, List.map_take, List.map_drop]; done) | (simp [pb, List.map_take, List.map_drop]; omega))) | (refine or_val ?_ ?_ <;> (first | omega | (simp [pb, List.map_take, List.map_drop]; done) | (simp [pb, List.map_take, List.map_drop]; omega))) | refine And.intro ?_ ?_)); done)); (conv => whnf)) | (refine call_pure (model_meets d a hd (by omega)) (fun f => rfl) (fun f => rfl) ?_ ?_; (focus ((repeat' (first | exact trivial | exact Sub.refl _ | exact sub_nil | exact Or.inl rfl | exact Or.inr ⟨rfl, rfl⟩ | refine sub_tup ?_ | refine sub_agg ?_ | (refine sub_val ?_ ?_ <;> (first | omega | (simp [pb, List.map_take, List.map_drop]; done) | (simp [pb, List.map_take, List.map_drop]; omega))) | (refine or_val ?_ ?_ <;> (first | omega | (simp [pb, List.map_take, List.map_drop]; done) | (simp [pb, List.map_take, List.map_drop]; omega))) | refine And.intro ?_ ?_)); done)); (conv => whnf)) | (refine call_pure (m1) (fun f => rfl) (fun f => rfl) ?_ ?_; (focus ((repeat' (first | exact trivial | exact Sub.refl _ | exact sub_nil | exact Or.inl rfl | exact Or.inr ⟨rfl, rfl⟩ | refine sub_tup ?_ | refine sub_agg ?_ | (refine sub_val ?_ ?_ <;> (first | omega | (simp [pb, List.map_take, List.map_drop]; done) | (simp [pb, List.map_take, List.map_drop]; omega))) | (refine or_val ?_ ?_ <;> (first | omega | (simp [pb, List.map_take, List.map_drop]; done) | (simp [pb, List.map_take, List.map_drop]; omega))) | refine And.intro ?_ ?_)); done)); (conv => whnf)) | (refine call_pure (m2) (fun f => rfl) (fun f => rfl) ?_ ?_; (focus ((repeat' (first | exact trivial | exact Sub.refl _ | exact sub_nil | exact Or.inl rfl | exact Or.inr ⟨rfl, rfl⟩ | refine sub_tup ?_ | refine sub_agg ?_ | (refine sub_val ?_ ?_ <;> (first | omega | (simp [pb, List.map_take, List.map_drop]; done) | (simp [pb, List.map_take, List.map_drop]; omega))) | (refine or_val ?_ ?_ <;> (first | omega | (simp [pb, List.map_take, List.map_drop]; done) | (simp [pb, List.map_take, List.map_drop]; omega))) | refine And.intro ?_ ?_)); done)); (conv => whnf)) | (refine call_pure (m3) (fun f => rfl) (fun f => rfl) ?_ ?_; (focus ((repeat' (first | exact trivial | exact Sub.refl _ | exact sub_nil | exact Or.inl rfl | exact Or.inr ⟨rfl, rfl⟩ | refine sub_tup ?_ | refine sub_agg ?_ | (refine sub_val ?_ ?_ <;> (first | omega | (simp [pb, List.map_take, List.map_drop]; done) | (simp [pb, List.map_take, List.map_drop]; omega))) | (refine or_val ?_ ?_ <;> (first | omega | (simp [pb, List.map_take, List.map_drop]; done) | (simp [pb, List.map_take, List.map_drop]; omega))) | refine And.intro ?_ ?_)); done)); (conv => whnf)) | (simp only [elem_at' Act.len ha]; (conv => whnf)))
        all_goals refine hK _ _ _ (k + 1, (d.act a).1) ⟨by show k + 1 ≤ _; omega, hv', hf'⟩ (by show _ - (k + 1) < _ - k; omega) (Wk.names [(3, 3), (4, 4)] rfl (Nat.zero_le _) ⟨Sub.refl _, Sub.refl _, Sub.refl _, sub_int (by show (k : Int) + 1 = ((k + 1 : Nat) : Int); omega), trivial⟩ ⟨rfl, rfl, trivial⟩)
      · have m2 := lsame_meets d d hd hd
        rw [D.same2_self] at m2
        have m3 := valid_meets d hd
        rw [hv] at m3
        (conv => whnf); repeat' (first | (refine And.intro (by first | omega | (simp [pb]; done) | (simp [pb]; omega) | (simp [ByteArray.size]; omega) | exact Nat.le_of_ble_eq_true rfl | kernel_rfl) ?_; (conv => whnf)) | (refine onB_intro (fun hb => ?_) (fun hb => ?_) <;> (try simp only [decide_eq_true_eq, decide_eq_false_iff_not, Bool.not_eq_true', Bool.not_eq_false', Bool.and_eq_true, Bool.and_eq_false_iff, Int.not_le, Int.not_lt, ByteArray.toList_eq, beq_iff_eq, beq_eq_false_iff_ne, ne_eq] at hb) <;> (try (exfalso; omega)) <;> (try (exfalso; first | contradiction | (simp [ByteArray.toList_eq] at hb; done))) <;> (conv => whnf)) | (refine (hQ _ _ _ ?_).1; (conv => whnf)) | (refine ⟨_, rfl, ?_⟩; (conv => whnf)) | (refine ⟨_, mp_cut _ _ _, ?_⟩; (conv => whnf)) | (refine ⟨_, dbs_cut _ _ _, ?_⟩; (conv => whnf)) | (refine call_pure (do_meets d a hd (by omega)) (fun f => rfl) (fun f => rfl) ?_ ?_; (focus ((repeat' (first | exact trivial | exact Sub.refl _ | exact sub_nil | exact Or.inl rfl | exact Or.inr ⟨rfl, rfl⟩ | refine sub_tup ?_ | refine sub_agg ?_ | (refine sub_val ?_ ?_ <;> (first | omega | (simp [pb, List.map_take, List.map_drop]; done) | (simp [pb, List.map_take, List.map_drop]; omega))) | (refine or_val ?_ ?_ <;> (first | omega | (simp [pb, List.map_take, List.map_drop]; done) | (simp [pb, List.map_take, List.map_drop]; omega))) | refine And.intro ?_ ?_)); done)); (conv => whnf)) | (refine call_pure (model_meets d a hd (by omega)) (fun f => rfl) (fun f => rfl) ?_ ?_; (focus ((repeat' (first | exact trivial | exact Sub.refl _ | exact sub_nil | exact Or.inl rfl | exact Or.inr ⟨rfl, rfl⟩ | refine sub_tup ?_ | refine sub_agg ?_ | (refine sub_val ?_ ?_ <;> (first | omega | (simp [pb, List.map_take, List.map_drop]; done) | (simp [pb, List.map_take, List.map_drop]; omega))) | (refine or_val ?_ ?_ <;> (first | omega | (simp [pb, List.map_take, List.map_drop]; done) | (simp [pb, List.map_take, List.map_drop]; omega))) | refine And.intro ?_ ?_)); done)); (conv => whnf)) | (refine call_pure (m1) (fun f => rfl) (fun f => rfl) ?_ ?_; (focus ((repeat' (first | exact trivial | exact Sub.refl _ | exact sub_nil | exact Or.inl rfl | exact Or.inr ⟨rfl, rfl⟩ | refine sub_tup ?_ | refine sub_agg ?_ | (refine sub_val ?_ ?_ <;> (first | omega | (simp [pb, List.map_take, List.map_drop]; done) | (simp [pb, List.map_take, List.map_drop]; omega))) | (refine or_val ?_ ?_ <;> (first | omega | (simp [pb, List.map_take, List.map_drop]; done) | (simp [pb, List.map_take, List.map_drop]; omega))) | refine And.intro ?_ ?_)); done)); (conv => whnf)) | (refine call_pure (m2) (fun f => rfl) (fun f => rfl) ?_ ?_; (focus ((repeat' (first | exact trivial | exact Sub.refl _ | exact sub_nil | exact Or.inl rfl | exact Or.inr ⟨rfl, rfl⟩ | refine sub_tup ?_ | refine sub_agg ?_ | (refine sub_val ?_ ?_ <;> (first | omega | (simp [pb, List.map_take, List.map_drop]; done) | (simp [pb, List.map_take, List.map_drop]; omega))) | (refine or_val ?_ ?_ <;> (first | omega | (simp [pb, List.map_take, List.map_drop]; done) | (simp [pb, List.map_take, List.map_drop]; omega))) | refine And.intro ?_ ?_)); done)); (conv => whnf)) | (refine call_pure (m3) (fun f => rfl) (fun f => rfl) ?_ ?_; (focus ((repeat' (first | exact trivial | exact Sub.refl _ | exact sub_nil | exact Or.inl rfl | exact Or.inr ⟨rfl, rfl⟩ | refine sub_tup ?_ | refine sub_agg ?_ | (refine sub_val ?_ ?_ <;> (first | omega | (simp [pb, List.map_take, List.map_drop]; done) | (simp [pb, List.map_take, List.map_drop]; omega))) | (refine or_val ?_ ?_ <;> (first | omega | (simp [pb, List.map_take, List.map_drop]; done) | (simp [pb, List.map_take, List.map_drop]; omega))) | refine And.intro ?_ ?_)); done)); (conv => whnf)) | (simp only [elem_at' Act.len ha]; (conv => whnf)))
        all_goals refine hK _ _ _ (k + 1, d) ⟨by show k + 1 ≤ _; omega, hv, hf⟩ (by show _ - (k + 1) < _ - k; omega) (Wk.names [(3, 3), (4, 4)] rfl (Nat.zero_le _) ⟨Sub.refl _, Sub.refl _, Sub.refl _, sub_int (by show (k : Int) + 1 = ((k + 1 : Nat) : Int); omega), trivial⟩ ⟨rfl, rfl, trivial⟩)

abbrev rActs : RT := .slice rAct
theorem is_acts {cs : List PV} (h : RT.Is rActs cs) : ∃ l : List Act, cs = [.val l.length (l.flatMap Act.pv)] ∧ l.length ≤ 9223372036854775807 ∧ ∀ a ∈ l, inI64 a.k ∧ inI64 a.n ∧ a.b.length ≤ 9223372036854775807 := by
  obtain ⟨n, xs, rfl, hn, hc⟩ := h
  obtain ⟨l, rfl, rfl, hr⟩ := chunks_list (f := Act.pv) (fun cs h => is_act h) hc
  exact ⟨l, rfl, by simpa [maxLen] using hn, hr⟩
theorem plays_law (pss : List (List PV)) (h : IsAll [rActs] pss) : Meets Try.prog F_erasurelaw32DiskPlays ⟨tvs [rActs] pss, [], 0, vb true, [], 0⟩ := by
  obtain ⟨x, _, rfl, hx, h⟩ := isAll_cons h
  obtain rfl := isAll_nil h
  obtain ⟨l, rfl, hl, hr⟩ := is_acts hx
  exact plays_meets l hl fun a ha => (hr a ha).2.1
end Go.Proofs.Ytilbfoijfiebdaa.Am

/- What DiskKeeps returns: true, for all lists of operations. -/
import Derived.Test.YtilbfoijfiebdaaDiskLaw5
namespace Go.Proofs.Ytilbfoijfiebdaa.Am
open Go
set_option linter.unusedVariables false
set_option linter.unusedSimpArgs false
set_option maxRecDepth 100000
set_option maxHeartbeats 1000000

def D.after (d : D) (n : Int) : List UInt8 := d.s ++ d.p.take (min (max n 0) d.p.length).toNat
theorem D.crash_eq {d : D} (h : d.valid = true) (n : Int) : d.crash n = (⟨d.after n, [], -1, false⟩, 0) := by
  unfold D.crash; rw [if_neg (by rw [h]; simp)]; rfl
theorem D.after_len {d : D} (n : Int) : d.s.length ≤ (d.after n).length ∧ (d.after n).length ≤ d.s.length + d.p.length := by
  simp [D.after]; omega
theorem D.after_valid {d : D} (h : d.valid = true) (n : Int) : (D.mk (d.after n) [] (-1) false).valid = true := by
  obtain ⟨h1, h2, h3⟩ := D.valid_iff.1 h
  have := D.after_len (d := d) n
  rw [D.valid_iff]; simp; omega
theorem D.read_after {d : D} (h : d.valid = true) (n : Int) : (D.mk (d.after n) [] (-1) false).read = (d.after n, 0) := by
  unfold D.read; rw [if_neg (by rw [D.after_valid h]; simp), if_neg (by simp)]; simp
theorem D.after_pre {d : D} {all : List UInt8} (h : d.s ++ d.p <+: all) (n : Int) : all.take (d.after n).length = d.after n := by
  have h1 : d.after n <+: all := by
    refine List.IsPrefix.trans ?_ h
    unfold D.after
    exact (List.prefix_append_right_inj _).2 (List.take_prefix _ _)
  exact (List.prefix_iff_eq_take.1 h1).symm

/-- What holds behind the loop. -/
structure Kept (d : D) (all : List UInt8) (sy : Nat) : Prop where
  v : d.valid = true
  f : d.f ≤ 9223372036854775807
  pre : d.s ++ d.p <+: all
  sy : sy ≤ d.s.length
  len : all.length ≤ 1800
/-- What holds in the loop. -/
structure Keep (d : D) (all : List UInt8) (sy k : Nat) : Prop extends Kept d all sy where
  eq : d.s ++ d.p = all
  dn : d.dn = false
  le : all.length ≤ 60 * k

theorem append_cases (d : D) (b : List UInt8) (h : d.valid = true) (hd : d.dn = false) : (d.append b = (D.zero, 8)) ∨ (∃ f, d.append b = (⟨d.s, d.p ++ b.take d.f.toNat, 0, true⟩, 104) ∧ (d.append b).1.valid = true ∧ f = d.f) ∨
    (∃ f : Int, d.append b = (⟨d.s, d.p ++ b, f, false⟩, 0) ∧ (d.append b).1.valid = true ∧ f ≤ d.f) := by
  obtain ⟨h1, h2, h3⟩ := D.valid_iff.1 h
  unfold D.append
  rw [if_neg (by rw [h]; simp), if_neg (by rw [hd]; simp)]
  split
  · exact .inl rfl
  · split
    · refine .inr (.inl ⟨d.f, rfl, ?_, rfl⟩)
      rw [D.valid_iff]; simp; omega
    · refine .inr (.inr ⟨_, by rw [hd], ?_, ?_⟩)
      · rw [D.valid_iff]; simp; split <;> omega
      · split <;> omega

theorem keeps_meets (l : List Act) (c : Int) (hl : l.length ≤ 9223372036854775807) (hn : ∀ a ∈ l, inI64 a.n) : Meets Try.prog F_erasurelaw32DiskKeeps ⟨[.c (acts l), vi c], [], 0, vb true, [], 0⟩ := by
  refine fits_erasurelaw32DiskKeeps.meets rfl (by simp) fun Q hQ => ?_
  have m0 := short_meets l hl
  cases hs : shortB l with
  | false =>
    rw [hs] at m0
    (conv => whnf); repeat' (first | (refine And.intro (by first | omega | (simp [pb]; done) | (simp [pb]; omega) | (simp [ByteArray.size]; omega) | exact Nat.le_of_ble_eq_true rfl | kernel_rfl) ?_; (conv => whnf)) | (refine onB_intro (fun hb => ?_) (fun hb => ?_) <;> (try simp only [decide_eq_true_eq, decide_eq_false_iff_not, Bool.not_eq_true', Bool.not_eq_false', Bool.and_eq_true, Bool.and_eq_false_iff, Int.not_le, Int.not_lt, ByteArray.toList_eq, beq_iff_eq, beq_eq_false_iff_ne, ne_eq] at hb) <;> (try (exfalso; omega)) <;> (try (exfalso; first | contradiction | (simp [ByteArray.toList_eq] at hb; done))) <;> (conv => whnf)) | (refine (hQ _ _ _ ?_).1; (conv => whnf)) | (refine ⟨_, rfl, ?_⟩; (conv => whnf)) | (refine ⟨_, mp_cut _ _ _, ?_⟩; (conv => whnf)) | (refine ⟨_, dbs_cut _ _ _, ?_⟩; (conv => whnf)) | (refine call_pure (m0) (fun f => rfl) (fun f => rfl) ?_ ?_; (focus ((repeat' (first | exact trivial | exact Sub.refl _ | exact sub_nil | exact Or.inl rfl | exact Or.inr ⟨rfl, rfl⟩ | refine sub_tup ?_ | refine sub_agg ?_ | (refine sub_val ?_ ?_ <;> (first | omega | (simp [pb, List.map_take, List.map_drop]; done) | (simp [pb, List.map_take, List.map_drop]; omega))) | (refine or_val ?_ ?_ <;> (first | omega | (simp [pb, List.map_take, List.map_drop]; done) | (simp [pb, List.map_take, List.map_drop]; omega))) | refine And.intro ?_ ?_)); done)); (conv => whnf)) | (refine call_pure (awake_meets) (fun f => rfl) (fun f => rfl) ?_ ?_; (focus ((repeat' (first | exact trivial | exact Sub.refl _ | exact sub_nil | exact Or.inl rfl | exact Or.inr ⟨rfl, rfl⟩ | refine sub_tup ?_ | refine sub_agg ?_ | (refine sub_val ?_ ?_ <;> (first | omega | (simp [pb, List.map_take, List.map_drop]; done) | (simp [pb, List.map_take, List.map_drop]; omega))) | (refine or_val ?_ ?_ <;> (first | omega | (simp [pb, List.map_take, List.map_drop]; done) | (simp [pb, List.map_take, List.map_drop]; omega))) | refine And.intro ?_ ?_)); done)); (conv => whnf)))
    all_goals exact RetOk.pure' (fun f => rfl) (Sub.refl _)
  | true =>
    rw [hs] at m0
    have hlen : l.length ≤ 30 := by simp [shortB] at hs; exact hs.2
    (conv => whnf); repeat' (first | (refine And.intro (by first | omega | (simp [pb]; done) | (simp [pb]; omega) | (simp [ByteArray.size]; omega) | exact Nat.le_of_ble_eq_true rfl | kernel_rfl) ?_; (conv => whnf)) | (refine onB_intro (fun hb => ?_) (fun hb => ?_) <;> (try simp only [decide_eq_true_eq, decide_eq_false_iff_not, Bool.not_eq_true', Bool.not_eq_false', Bool.and_eq_true, Bool.and_eq_false_iff, Int.not_le, Int.not_lt, ByteArray.toList_eq, beq_iff_eq, beq_eq_false_iff_ne, ne_eq] at hb) <;> (try (exfalso; omega)) <;> (try (exfalso; first | contradiction | (simp [ByteArray.toList_eq] at hb; done))) <;> (conv => whnf)) | (refine (hQ _ _ _ ?_).1; (conv => whnf)) | (refine ⟨_, rfl, ?_⟩; (conv => whnf)) | (refine ⟨_, mp_cut _ _ _, ?_⟩; (conv => whnf)) | (refine ⟨_, dbs_cut _ _ _, ?_⟩; (conv => whnf)) | (refine call_pure (m0) (fun f => rfl) (fun f => rfl) ?_ ?_; (focus ((repeat' (first | exact trivial | exact Sub.refl _ | exact sub_nil | exact Or.inl rfl | exact Or.inr ⟨rfl, rfl⟩ | refine sub_tup ?_ | refine sub_agg ?_ | (refine sub_val ?_ ?_ <;> (first | omega | (simp [pb, List.map_take, List.map_drop]; done) | (simp [pb, List.map_take, List.map_drop]; omega))) | (refine or_val ?_ ?_ <;> (first | omega | (simp [pb, List.map_take, List.map_drop]; done) | (simp [pb, List.map_take, List.map_drop]; omega))) | refine And.intro ?_ ?_)); done)); (conv => whnf)) | (refine call_pure (awake_meets) (fun f => rfl) (fun f => rfl) ?_ ?_; (focus ((repeat' (first | exact trivial | exact Sub.refl _ | exact sub_nil | exact Or.inl rfl | exact Or.inr ⟨rfl, rfl⟩ | refine sub_tup ?_ | refine sub_agg ?_ | (refine sub_val ?_ ?_ <;> (first | omega | (simp [pb, List.map_take, List.map_drop]; done) | (simp [pb, List.map_take, List.map_drop]; omega))) | (refine or_val ?_ ?_ <;> (first | omega | (simp [pb, List.map_take, List.map_drop]; done) | (simp [pb, List.map_take, List.map_drop]; omega))) | refine And.intro ?_ ?_)); done)); (conv => whnf)) | (refine call_pure (new_meets) (fun f => rfl) (fun f => rfl) ?_ ?_; (focus ((repeat' (first | exact trivial | exact Sub.refl _ | exact sub_nil | exact Or.inl rfl | exact Or.inr ⟨rfl, rfl⟩ | refine sub_tup ?_ | refine sub_agg ?_ | (refine sub_val ?_ ?_ <;> (first | omega | (simp [pb, List.map_take, List.map_drop]; done) | (simp [pb, List.map_take, List.map_drop]; omega))) | (refine or_val ?_ ?_ <;> (first | omega | (simp [pb, List.map_take, List.map_drop]; done) | (simp [pb, List.map_take, List.map_drop]; omega))) | refine And.intro ?_ ?_)); done)); (conv => whnf)) | (refine call_pure (rnew_meets) (fun f => rfl) (fun f => rfl) ?_ ?_; (focus ((repeat' (first | exact trivial | exact Sub.refl _ | exact sub_nil | exact Or.inl rfl | exact Or.inr ⟨rfl, rfl⟩ | refine sub_tup ?_ | refine sub_agg ?_ | (refine sub_val ?_ ?_ <;> (first | omega | (simp [pb, List.map_take, List.map_drop]; done) | (simp [pb, List.map_take, List.map_drop]; omega))) | (refine or_val ?_ ?_ <;> (first | omega | (simp [pb, List.map_take, List.map_drop]; done) | (simp [pb, List.map_take, List.map_drop]; omega))) | refine And.intro ?_ ?_)); done)); (conv => whnf)))
    refine loop_fam (ι := Nat × D × List UInt8 × Nat) (fun i => ⟨[(0, .c (acts l)), (1, vi c), (5, .c (.ptr 2 0)), (6, .c (.ref 3 0 i.2.2.1.length 1)), (7, vi i.2.2.2), (8, vi i.1)], [(2, ⟨T_api_Disk, i.2.1.enc⟩), (3, ⟨T_u8, dbs i.2.2.1⟩)], 4⟩) (fun i => l.length - i.1)
      (fun i => i.1 ≤ l.length ∧ Keep i.2.1 i.2.2.1 i.2.2.2 i.1) (0, D.new, [], 0) (Wk.names [(2, 2), (3, 3)] rfl (Nat.zero_le _) ⟨Sub.refl _, Sub.refl _, Sub.refl _, Sub.refl _, Sub.refl _, Sub.refl _, trivial⟩ ⟨rfl, rfl, trivial⟩)
      ⟨by simp, ⟨⟨by decide, by decide, by decide, by decide, by decide⟩, by decide, by decide, by decide⟩⟩ ?_
    rintro ⟨k, d, all, sy⟩ ⟨hk, hi⟩ K hK
    simp only at hk hi
    obtain ⟨⟨hv, hf, hpre, hsy, hal⟩, heq, hdn, hle⟩ := hi
    have hd := D.ok_of_valid hv hf
    cases ha : l[k]? with
    | none =>
      have : k = l.length := by have := List.getElem?_eq_none_iff.1 ha; omega
      subst this
      have h0 : Kept d all sy := ⟨hv, hf, hpre, hsy, hal⟩
      generalize hd0 : d = d0 at h0 hv hd hdn heq ⊢
      have h8 : (d0.after c).length ≤ all.length := by have := D.after_len (d := d0) c; rw [← heq]; simp; omega
      have m5 := crash_meets d0 c hd
      rw [D.crash_eq hv] at m5
      have m6 := read_meets ⟨d0.after c, [], -1, false⟩ (D.ok_of_valid (D.after_valid hv c) (by simp))
      rw [D.read_after hv] at m6
      have h6 := D.after_len (d := d0) c
      have h7 := D.after_pre h0.pre c
      have h9 := h0.sy
      (conv => whnf); repeat' (first | (refine And.intro (by first | omega | (simp [pb]; done) | (simp [pb]; omega) | (simp [ByteArray.size]; omega) | exact Nat.le_of_ble_eq_true rfl | kernel_rfl) ?_; (conv => whnf)) | (refine onB_intro (fun hb => ?_) (fun hb => ?_) <;> (try simp only [decide_eq_true_eq, decide_eq_false_iff_not, Bool.not_eq_true', Bool.not_eq_false', Bool.and_eq_true, Bool.and_eq_false_iff, Int.not_le, Int.not_lt, ByteArray.toList_eq, beq_iff_eq, beq_eq_false_iff_ne, ne_eq] at hb) <;> (try (exfalso; omega)) <;> (try (exfalso; first | contradiction | (simp [ByteArray.toList_eq] at hb; done))) <;> (conv => whnf)) | (refine (hQ _ _ _ ?_).1; (conv => whnf)) | (refine ⟨_, rfl, ?_⟩; (conv => whnf)) | (refine ⟨_, mp_cut _ _ _, ?_⟩; (conv => whnf)) | (refine ⟨_, dbs_cut _ _ _, ?_⟩; (conv => whnf)) | (refine call_pure (awake_meets) (fun f => rfl) (fun f => rfl) ?_ ?_; (focus ((repeat' (first | exact trivial | exact Sub.refl _ | exact sub_nil | exact Or.inl rfl | exact Or.inr ⟨rfl, rfl⟩ | refine sub_tup ?_ | refine sub_agg ?_ | (refine sub_val ?_ ?_ <;> (first | omega | (simp [pb, List.map_take, List.map_drop]; done) | (simp [pb, List.map_take, List.map_drop]; omega))) | (refine or_val ?_ ?_ <;> (first | omega | (simp [pb, List.map_take, List.map_drop]; done) | (simp [pb, List.map_take, List.map_drop]; omega))) | refine And.intro ?_ ?_)); done)); (conv => whnf)) | (refine call_pure (m5) (fun f => rfl) (fun f => rfl) ?_ ?_; (focus ((repeat' (first | exact trivial | exact Sub.refl _ | exact sub_nil | exact Or.inl rfl | exact Or.inr ⟨rfl, rfl⟩ | refine sub_tup ?_ | refine sub_agg ?_ | (refine sub_val ?_ ?_ <;> (first | omega | (simp [pb, List.map_take, List.map_drop]; done) | (simp [pb, List.map_take, List.map_drop]; omega))) | (refine or_val ?_ ?_ <;> (first | omega | (simp [pb, List.map_take, List.map_drop]; done) | (simp [pb, List.map_take, List.map_drop]; omega))) | refine And.intro ?_ ?_)); done)); (conv => whnf)) | (refine call_pure (m6) (fun f => rfl) (fun f => rfl) ?_ ?_; (focus ((repeat' (first | exact trivial | exact Sub.refl _ | exact sub_nil | exact Or.inl rfl | exact Or.inr ⟨rfl, rfl⟩ | refine sub_tup ?_ | refine sub_agg ?_ | (refine sub_val ?_ ?_ <;> (first | omega | (simp [pb, List.map_take, List.map_drop]; done) | (simp [pb, List.map_take, List.map_drop]; omega))) | (refine or_val ?_ ?_ <;> (first | omega | (simp [pb, List.map_take, List.map_drop]; done) | (simp [pb, List.map_take, List.map_drop]; omega))) | refine And.intro ?_ ?_)); done)); (conv => whnf)))
      all_goals first
        | exact RetOk.pure' (fun f => rfl) (Sub.refl _)
        | (exfalso; omega)
        | (exfalso; apply hb; simp; exact h7.symm)
    | some a =>
      have hlt : k < l.length := (List.getElem?_eq_some_iff.1 ha).1
      have hm := List.mem_of_getElem? ha
      have hsb : a.b.length ≤ 60 := by simp [shortB] at hs; exact hs.1 a hm
      have mdo := do_meets d a hd (by omega)
      by_cases hsk : 2 < a.k.tmod 5 ∨ a.k < 0
      · (conv => whnf); repeat' (first | (refine And.intro (by first | omega | (simp [pb]; done) | (simp [pb]; omega) | (simp [ByteArray.size]; omega) | exact Nat.le_of_ble_eq_true rfl | kernel_rfl) ?_; (conv => whnf)) | (refine onB_intro (fun hb => ?_) (fun hb => ?_) <;> (try simp only [decide_eq_true_eq, decide_eq_false_iff_not, Bool.not_eq_true', Bool.not_eq_false', Bool.and_eq_true, Bool.and_eq_false_iff, Int.not_le, Int.not_lt, ByteArray.toList_eq, beq_iff_eq, beq_eq_false_iff_ne, ne_eq] at hb) <;> (try (exfalso; omega)) <;> (try (exfalso; first | contradiction | (simp [ByteArray.toList_eq] at hb; done))) <;> (conv => whnf)) | (refine (hQ _ _ _ ?_).1; (conv => whnf)) | (refine ⟨_, rfl, ?_⟩; (conv => whnf)) | (refine ⟨_, mp_cut _ _ _, ?_⟩; (conv => whnf)) | (refine ⟨_, dbs_cut _ _ _, ?_⟩; (conv => whnf)) | (simp only [elem_at' Act.len ha]; (conv => whnf)))
        all_goals refine hK _ _ _ (k + 1, d, all, sy) ⟨by dsimp only; omega, ⟨hv, hf, hpre, hsy, hal⟩, heq, hdn, by dsimp only; omega⟩ (by dsimp only; omega) (Wk.names [(2, 2), (3, 3)] rfl (Nat.zero_le _) ⟨Sub.refl _, Sub.refl _, Sub.refl _, Sub.refl _, Sub.refl _, sub_int (by dsimp only; omega), trivial⟩ ⟨rfl, hp_pure rfl rfl, trivial⟩)
      · have hin := hn a hm
        have htm : 0 ≤ a.k.tmod 5 := Int.tmod_nonneg 5 (by omega)
        rcases (show a.k.tmod 5 = 0 ∨ a.k.tmod 5 = 1 ∨ a.k.tmod 5 = 2 by omega) with h0 | h0 | h0
        · have hact : d.act a = d.append a.b := by simp [D.act, h0]
          rw [hact] at mdo
          rcases append_cases d a.b hv hdn with hx | ⟨f, hx, hxv, hxf⟩ | ⟨f, hx, hxv, hxf⟩
          · rw [hx] at mdo
            (conv => whnf); repeat' (first | (refine And.intro (by first | omega | (simp [pb]; done) | (simp [pb]; omega) | (simp [ByteArray.size]; omega) | exact Nat.le_of_ble_eq_true rfl | kernel_rfl) ?_; (conv => whnf)) | (refine onB_intro (fun hb => ?_) (fun hb => ?_) <;> (try simp only [decide_eq_true_eq, decide_eq_false_iff_not, Bool.not_eq_true', Bool.not_eq_false', Bool.and_eq_true, Bool.and_eq_false_iff, Int.not_le, Int.not_lt, ByteArray.toList_eq, beq_iff_eq, beq_eq_false_iff_ne, ne_eq] at hb) <;> (try (exfalso; omega)) <;> (try (exfalso; first | contradiction | (simp [ByteArray.toList_eq] at hb; done))) <;> (conv => whnf)) | (refine (hQ _ _ _ ?_).1; (conv => whnf)) | (refine ⟨_, rfl, ?_⟩; (conv => whnf)) | (refine ⟨_, mp_cut _ _ _, ?_⟩; (conv => whnf)) | (refine ⟨_, dbs_cut _ _ _, ?_⟩; (conv => whnf)) | (refine call_pure (mdo) (fun f => rfl) (fun f => rfl) ?_ ?_; (focus ((repeat' (first | exact trivial | exact Sub.refl _ | exact sub_nil | exact Or.inl rfl | exact Or.inr ⟨rfl, rfl⟩ | refine sub_tup ?_ | refine sub_agg ?_ | (refine sub_val ?_ ?_ <;> (first | omega | (simp [pb, List.map_take, List.map_drop]; done) | (simp [pb, List.map_take, List.map_drop]; omega))) | (refine or_val ?_ ?_ <;> (first | omega | (simp [pb, List.map_take, List.map_drop]; done) | (simp [pb, List.map_take, List.map_drop]; omega))) | refine And.intro ?_ ?_)); done)); (conv => whnf)) | (simp only [elem_at' Act.len ha]; (conv => whnf)))
            all_goals refine hK _ _ _ (k + 1, d, all, sy) ⟨by dsimp only; omega, ⟨hv, hf, hpre, hsy, hal⟩, heq, hdn, by dsimp only; omega⟩ (by dsimp only; omega) (Wk.names [(2, 2), (3, 3)] rfl (Nat.zero_le _) ⟨Sub.refl _, Sub.refl _, Sub.refl _, Sub.refl _, Sub.refl _, sub_int (by dsimp only; omega), trivial⟩ ⟨rfl, hp_pure rfl rfl, trivial⟩)
          · rw [hx] at mdo hxv
            simp only at mdo hxv
            have h0 : Kept ⟨d.s, d.p ++ a.b.take d.f.toNat, 0, true⟩ (all ++ a.b) sy := ⟨hxv, by simp, by dsimp only; rw [← heq, List.append_assoc]; exact (List.prefix_append_right_inj _).2 ((List.prefix_append_right_inj _).2 (List.take_prefix _ _)), hsy, by simp; omega⟩
            have hd := D.ok_of_valid hxv (by simp)
            have hv := hxv
            generalize hd0 : (⟨d.s, d.p ++ a.b.take d.f.toNat, 0, true⟩ : D) = d0 at mdo h0 hv hd
            have h8 : (d0.after c).length ≤ (all ++ a.b).length := by have := D.after_len (d := d0) c; rw [← hd0] at this ⊢; rw [← heq]; simp at this ⊢; omega
            have m5 := crash_meets d0 c hd
            rw [D.crash_eq hv] at m5
            have m6 := read_meets ⟨d0.after c, [], -1, false⟩ (D.ok_of_valid (D.after_valid hv c) (by simp))
            rw [D.read_after hv] at m6
            have h6 := D.after_len (d := d0) c
            have h7 := D.after_pre h0.pre c
            have h9 := h0.sy
            have h8' : (d0.after c).length ≤ all.length + a.b.length := by simpa using h8
            (conv => whnf); repeat' (first | (refine And.intro (by first | omega | (simp [pb]; done) | (simp [pb]; omega) | (simp [ByteArray.size]; omega) | exact Nat.le_of_ble_eq_true rfl | kernel_rfl) ?_; (conv => whnf)) | (refine onB_intro (fun hb => ?_) (fun hb => ?_) <;> (try simp only [decide_eq_true_eq, decide_eq_false_iff_not, Bool.not_eq_true', Bool.not_eq_false', Bool.and_eq_true, Bool.and_eq_false_iff, Int.not_le, Int.not_lt, ByteArray.toList_eq, beq_iff_eq, beq_eq_false_iff_ne, ne_eq] at hb) <;> (try (exfalso; omega)) <;> (try (exfalso; first | contradiction | (simp [ByteArray.toList_eq] at hb; done))) <;> (conv => whnf)) | (refine (hQ _ _ _ ?_).1; (conv => whnf)) | (refine ⟨_, rfl, ?_⟩; (conv => whnf)) | (refine ⟨_, mp_cut _ _ _, ?_⟩; (conv => whnf)) | (refine ⟨_, dbs_cut _ _ _, ?_⟩; (conv => whnf)) | (refine call_pure (mdo) (fun f => rfl) (fun f => rfl) ?_ ?_; (focus ((repeat' (first | exact trivial | exact Sub.refl _ | exact sub_nil | exact Or.inl rfl | exact Or.inr ⟨rfl, rfl⟩ | refine sub_tup ?_ | refine sub_agg ?_ | (refine sub_val ?_ ?_ <;> (first | omega | (simp [pb, List.map_take, List.map_drop]; done) | (simp [pb, List.map_take, List.map_drop]; omega))) | (refine or_val ?_ ?_ <;> (first | omega | (simp [pb, List.map_take, List.map_drop]; done) | (simp [pb, List.map_take, List.map_drop]; omega))) | refine And.intro ?_ ?_)); done)); (conv => whnf)) | (refine call_pure (m5) (fun f => rfl) (fun f => rfl) ?_ ?_; (focus ((repeat' (first | exact trivial | exact Sub.refl _ | exact sub_nil | exact Or.inl rfl | exact Or.inr ⟨rfl, rfl⟩ | refine sub_tup ?_ | refine sub_agg ?_ | (refine sub_val ?_ ?_ <;> (first | omega | (simp [pb, List.map_take, List.map_drop]; done) | (simp [pb, List.map_take, List.map_drop]; omega))) | (refine or_val ?_ ?_ <;> (first | omega | (simp [pb, List.map_take, List.map_drop]; done) | (simp [pb, List.map_take, List.map_drop]; omega))) | refine And.intro ?_ ?_)); done)); (conv => whnf)) | (refine call_pure (m6) (fun f => rfl) (fun f => rfl) ?_ ?_; (focus ((repeat' (first | exact trivial | exact Sub.refl _ | exact sub_nil | exact Or.inl rfl | exact Or.inr ⟨rfl, rfl⟩ | refine sub_tup ?_ | refine sub_agg ?_ | (refine sub_val ?_ ?_ <;> (first | omega | (simp [pb, List.map_take, List.map_drop]; done) | (simp [pb, List.map_take, List.map_drop]; omega))) | (refine or_val ?_ ?_ <;> (first | omega | (simp [pb, List.map_take, List.map_drop]; done) | (simp [pb, List.map_take, List.map_drop]; omega))) | refine And.intro ?_ ?_)); done)); (conv => whnf)) | (refine call_pure (awake_meets) (fun f => rfl) (fun f => rfl) ?_ ?_; (focus ((repeat' (first | exact trivial | exact Sub.refl _ | exact sub_nil | exact Or.inl rfl | exact Or.inr ⟨rfl, rfl⟩ | refine sub_tup ?_ | refine sub_agg ?_ | (refine sub_val ?_ ?_ <;> (first | omega | (simp [pb, List.map_take, List.map_drop]; done) | (simp [pb, List.map_take, List.map_drop]; omega))) | (refine or_val ?_ ?_ <;> (first | omega | (simp [pb, List.map_take, List.map_drop]; done) | (simp [pb, List.map_take, List.map_drop]; omega))) | refine And.intro ?_ ?_)); done)); (conv => whnf)) | (simp only [elem_at' Act.len ha, dbs_app _ _ _ rfl]; (conv => whnf)))
            all_goals first
              | exact RetOk.pure' (fun f => rfl) (Sub.refl _)
              | (exfalso; omega)
              | (exfalso; apply hb; simp; exact h7.symm)
          · rw [hx] at mdo hxv
            simp only at mdo hxv
            (conv => whnf); repeat' (first | (refine And.intro (by first | omega | (simp [pb]; done) | (simp [pb]; omega) | (simp [ByteArray.size]; omega) | exact Nat.le_of_ble_eq_true rfl | kernel_rfl) ?_; (conv => whnf)) | (refine onB_intro (fun hb => ?_) (fun hb => ?_) <;> (try simp only [decide_eq_true_eq, decide_eq_false_iff_not, Bool.not_eq_true', Bool.not_eq_false', Bool.and_eq_true, Bool.and_eq_false_iff, Int.not_le, Int.not_lt, ByteArray.toList_eq, beq_iff_eq, beq_eq_false_iff_ne, ne_eq] at hb) <;> (try (exfalso; omega)) <;> (try (exfalso; first | contradiction | (simp [ByteArray.toList_eq] at hb; done))) <;> (conv => whnf)) | (refine (hQ _ _ _ ?_).1; (conv => whnf)) | (refine ⟨_, rfl, ?_⟩; (conv => whnf)) | (refine ⟨_, mp_cut _ _ _, ?_⟩; (conv => whnf)) | (refine ⟨_, dbs_cut _ _ _, ?_⟩; (conv => whnf)) | (refine call_pure (mdo) (fun f => rfl) (fun f => rfl) ?_ ?_; (focus ((repeat' (first | exact trivial | exact Sub.refl _ | exact sub_nil | exact Or.inl rfl | exact Or.inr ⟨rfl, rfl⟩ | refine sub_tup ?_ | refine sub_agg ?_ | (refine sub_val ?_ ?_ <;> (first | omega | (simp [pb, List.map_take, List.map_drop]; done) | (simp [pb, List.map_take, List.map_drop]; omega))) | (refine or_val ?_ ?_ <;> (first | omega | (simp [pb, List.map_take, List.map_drop]; done) | (simp [pb, List.map_take, List.map_drop]; omega))) | refine And.intro ?_ ?_)); done)); (conv => whnf)) | (simp only [elem_at' Act.len ha]; (conv => whnf)))
            all_goals refine hK _ _ _ (k + 1, ⟨d.s, d.p ++ a.b, f, false⟩, all ++ a.b, sy) ⟨by dsimp only; omega, ⟨hxv, by dsimp only; omega, by dsimp only; rw [← heq, List.append_assoc]; exact List.prefix_refl _, hsy, by simp; omega⟩, by dsimp only; rw [← heq, List.append_assoc], rfl, by simp; omega⟩ (by dsimp only; omega) (Wk.names [(2, 2), (3, 6)] rfl (Nat.zero_le _) ⟨Sub.refl _, Sub.refl _, Sub.refl _, sub_ref (by simp), Sub.refl _, sub_int (by dsimp only; omega), trivial⟩ ⟨rfl, hp_pure rfl (dbs_app _ _ _ rfl), trivial⟩)
        · have hact : d.act a = d.sync := by simp [D.act, h0]
          have hsync : d.sync = if d.f = 0 ∧ 0 < d.p.length then (⟨d.s, d.p, d.f, true⟩, 104) else (⟨d.s ++ d.p, [], d.f, d.dn⟩, 0) := by
            unfold D.sync; rw [if_neg (by rw [hv]; simp), if_neg (by rw [hdn]; simp)]
          rw [hact, hsync] at mdo
          by_cases hc : d.f = 0 ∧ 0 < d.p.length
          · rw [if_pos hc] at mdo
            have hv : (D.mk d.s d.p d.f true).valid = true := hv
            have h0 : Kept ⟨d.s, d.p, d.f, true⟩ all sy := ⟨hv, hf, hpre, hsy, hal⟩
            have hd := D.ok_of_valid hv hf
            generalize hd0 : (⟨d.s, d.p, d.f, true⟩ : D) = d0 at mdo h0 hv hd
            have h8 : (d0.after c).length ≤ all.length := by have := D.after_len (d := d0) c; rw [← hd0] at this ⊢; rw [← heq]; simp at this ⊢; omega
            have m5 := crash_meets d0 c hd
            rw [D.crash_eq hv] at m5
            have m6 := read_meets ⟨d0.after c, [], -1, false⟩ (D.ok_of_valid (D.after_valid hv c) (by simp))
            rw [D.read_after hv] at m6
            have h6 := D.after_len (d := d0) c
            have h7 := D.after_pre h0.pre c
            have h9 := h0.sy
            (conv => whnf); repeat' (first | (refine And.intro (by first | omega | (simp [pb]; done) | (simp [pb]; omega) | (simp [ByteArray.size]; omega) | exact Nat.le_of_ble_eq_true rfl | kernel_rfl) ?_; (conv => whnf)) | (refine onB_intro (fun hb => ?_) (fun hb => ?_) <;> (try simp only [decide_eq_true_eq, decide_eq_false_iff_not, Bool.not_eq_true', Bool.not_eq_false', Bool.and_eq_true, Bool.and_eq_false_iff, Int.not_le, Int.not_lt, ByteArray.toList_eq, beq_iff_eq, beq_eq_false_iff_ne, ne_eq] at hb) <;> (try (exfalso; omega)) <;> (try (exfalso; first | contradiction | (simp [ByteArray.toList_eq] at hb; done))) <;> (conv => whnf)) | (refine (hQ _ _ _ ?_).1; (conv => whnf)) | (refine ⟨_, rfl, ?_⟩; (conv => whnf)) | (refine ⟨_, mp_cut _ _ _, ?_⟩; (conv => whnf)) | (refine ⟨_, dbs_cut _ _ _, ?_⟩; (conv => whnf)) | (refine call_pure (mdo) (fun f => rfl) (fun f => rfl) ?_ ?_; (focus ((repeat' (first | exact trivial | exact Sub.refl _ | exact sub_nil | exact Or.inl rfl | exact Or.inr ⟨rfl, rfl⟩ | refine sub_tup ?_ | refine sub_agg ?_ | (refine sub_val ?_ ?_ <;> (first | omega | (simp [pb, List.map_take, List.map_drop]; done) | (simp [pb, List.map_take, List.map_drop]; omega))) | (refine or_val ?_ ?_ <;> (first | omega | (simp [pb, List.map_take, List.map_drop]; done) | (simp [pb, List.map_take, List.map_drop]; omega))) | refine And.intro ?_ ?_)); done)); (conv => whnf)) | (refine call_pure (m5) (fun f => rfl) (fun f => rfl) ?_ ?_; (focus ((repeat' (first | exact trivial | exact Sub.refl _ | exact sub_nil | exact Or.inl rfl | exact Or.inr ⟨rfl, rfl⟩ | refine sub_tup ?_ | refine sub_agg ?_ | (refine sub_val ?_ ?_ <;> (first | omega | (simp [pb, List.map_take, List.map_drop]; done) | (simp [pb, List.map_take, List.map_drop]; omega))) | (refine or_val ?_ ?_ <;> (first | omega | (simp [pb, List.map_take, List.map_drop]; done) | (simp [pb, List.map_take, List.map_drop]; omega))) | refine And.intro ?_ ?_)); done)); (conv => whnf)) | (refine call_pure (m6) (fun f => rfl) (fun f => rfl) ?_ ?_; (focus ((repeat' (first | exact trivial | exact Sub.refl _ | exact sub_nil | exact Or.inl rfl | exact Or.inr ⟨rfl, rfl⟩ | refine sub_tup ?_ | refine sub_agg ?_ | (refine sub_val ?_ ?_ <;> (first | omega | (simp [pb, List.map_take, List.map_drop]; done) | (simp [pb, List.map_take, List.map_drop]; omega))) | (refine or_val ?_ ?_ <;> (first | omega | (simp [pb, List.map_take, List.map_drop]; done) | (simp [pb, List.map_take, List.map_drop]; omega))) | refine And.intro ?_ ?_)); done)); (conv => whnf)) | (refine call_pure (awake_meets) (fun f => rfl) (fun f => rfl) ?_ ?_; (focus ((repeat' (first | exact trivial | exact Sub.refl _ | exact sub_nil | exact Or.inl rfl | exact Or.inr ⟨rfl, rfl⟩ | refine sub_tup ?_ | refine sub_agg ?_ | (refine sub_val ?_ ?_ <;> (first | omega | (simp [pb, List.map_take, List.map_drop]; done) | (simp [pb, List.map_take, List.map_drop]; omega))) | (refine or_val ?_ ?_ <;> (first | omega | (simp [pb, List.map_take, List.map_drop]; done) | (simp [pb, List.map_take, List.map_drop]; omega))) | refine And.intro ?_ ?_)); done)); (conv => whnf)) | (simp only [elem_at' Act.len ha]; (conv => whnf)))
            all_goals first
              | exact RetOk.pure' (fun f => rfl) (Sub.refl _)
              | (exfalso; omega)
              | (exfalso; apply hb; simp; exact h7.symm)
          · rw [if_neg hc] at mdo
            have hv' : (D.mk (d.s ++ d.p) [] d.f d.dn).valid = true := by
              rw [D.valid_iff] at hv ⊢; simp; omega
            (conv => whnf); repeat' (first | (refine And.intro (by first | omega | (simp [pb]; done) | (simp [pb]; omega) | (simp [ByteArray.size]; omega) | exact Nat.le_of_ble_eq_true rfl | kernel_rfl) ?_; (conv => whnf)) | (refine onB_intro (fun hb => ?_) (fun hb => ?_) <;> (try simp only [decide_eq_true_eq, decide_eq_false_iff_not, Bool.not_eq_true', Bool.not_eq_false', Bool.and_eq_true, Bool.and_eq_false_iff, Int.not_le, Int.not_lt, ByteArray.toList_eq, beq_iff_eq, beq_eq_false_iff_ne, ne_eq] at hb) <;> (try (exfalso; omega)) <;> (try (exfalso; first | contradiction | (simp [ByteArray.toList_eq] at hb; done))) <;> (conv => whnf)) | (refine (hQ _ _ _ ?_).1; (conv => whnf)) | (refine ⟨_, rfl, ?_⟩; (conv => whnf)) | (refine ⟨_, mp_cut _ _ _, ?_⟩; (conv => whnf)) | (refine ⟨_, dbs_cut _ _ _, ?_⟩; (conv => whnf)) | (refine call_pure (mdo) (fun f => rfl) (fun f => rfl) ?_ ?_; (focus ((repeat' (first | exact trivial | exact Sub.refl _ | exact sub_nil | exact Or.inl rfl | exact Or.inr ⟨rfl, rfl⟩ | refine sub_tup ?_ | refine sub_agg ?_ | (refine sub_val ?_ ?_ <;> (first | omega | (simp [pb, List.map_take, List.map_drop]; done) | (simp [pb, List.map_take, List.map_drop]; omega))) | (refine or_val ?_ ?_ <;> (first | omega | (simp [pb, List.map_take, List.map_drop]; done) | (simp [pb, List.map_take, List.map_drop]; omega))) | refine And.intro ?_ ?_)); done)); (conv => whnf)) | (simp only [elem_at' Act.len ha]; (conv => whnf)))
            all_goals refine hK _ _ _ (k + 1, ⟨d.s ++ d.p, [], d.f, d.dn⟩, all, all.length) ⟨by dsimp only; omega, ⟨hv', hf, by rw [← heq]; simp, by rw [← heq]; exact Nat.le_refl _, hal⟩, by simpa using heq, hdn, by dsimp only; omega⟩ (by dsimp only; omega) (Wk.names [(2, 2), (3, 3)] rfl (Nat.zero_le _) ⟨Sub.refl _, Sub.refl _, Sub.refl _, Sub.refl _, Sub.refl _, sub_int (by dsimp only; omega), trivial⟩ ⟨rfl, hp_pure rfl rfl, trivial⟩)
        · have hact : d.act a = d.fail a.n := by simp [D.act, h0]
          by_cases hc : a.n < -1
          · have hx : d.fail a.n = (D.zero, 1) := by unfold D.fail; rw [if_neg (by rw [hv]; simp), if_pos hc]
            rw [hact, hx] at mdo
            (conv => whnf); repeat' (first | (refine And.intro (by first | omega | (simp [pb]; done) | (simp [pb]; omega) | (simp [ByteArray.size]; omega) | exact Nat.le_of_ble_eq_true rfl | kernel_rfl) ?_; (conv => whnf)) | (refine onB_intro (fun hb => ?_) (fun hb => ?_) <;> (try simp only [decide_eq_true_eq, decide_eq_false_iff_not, Bool.not_eq_true', Bool.not_eq_false', Bool.and_eq_true, Bool.and_eq_false_iff, Int.not_le, Int.not_lt, ByteArray.toList_eq, beq_iff_eq, beq_eq_false_iff_ne, ne_eq] at hb) <;> (try (exfalso; omega)) <;> (try (exfalso; first | contradiction | (simp [ByteArray.toList_eq] at hb; done))) <;> (conv => whnf)) | (refine (hQ _ _ _ ?_).1; (conv => whnf)) | (refine ⟨_, rfl, ?_⟩; (conv => whnf)) | (refine ⟨_, mp_cut _ _ _, ?_⟩; (conv => whnf)) | (refine ⟨_, dbs_cut _ _ _, ?_⟩; (conv => whnf)) | (refine call_pure (mdo) (fun f => rfl) (fun f => rfl) ?_ ?_; (focus ((repeat' (first | exact trivial | exact Sub.refl _ | exact sub_nil | exact Or.inl rfl | exact Or.inr ⟨rfl, rfl⟩ | refine sub_tup ?_ | refine sub_agg ?_ | (refine sub_val ?_ ?_ <;> (first | omega | (simp [pb, List.map_take, List.map_drop]; done) | (simp [pb, List.map_take, List.map_drop]; omega))) | (refine or_val ?_ ?_ <;> (first | omega | (simp [pb, List.map_take, List.map_drop]; done) | (simp [pb, List.map_take, List.map_drop]; omega))) | refine And.intro ?_ ?_)); done)); (conv => whnf)) | (simp only [elem_at' Act.len ha]; (conv => whnf)))
            all_goals refine hK _ _ _ (k + 1, d, all, sy) ⟨by dsimp only; omega, ⟨hv, hf, hpre, hsy, hal⟩, heq, hdn, by dsimp only; omega⟩ (by dsimp only; omega) (Wk.names [(2, 2), (3, 3)] rfl (Nat.zero_le _) ⟨Sub.refl _, Sub.refl _, Sub.refl _, Sub.refl _, Sub.refl _, sub_int (by dsimp only; omega), trivial⟩ ⟨rfl, hp_pure rfl rfl, trivial⟩)
          · have hx : d.fail a.n = (⟨d.s, d.p, a.n, d.dn⟩, 0) := by unfold D.fail; rw [if_neg (by rw [hv]; simp), if_neg hc]
            rw [hact, hx] at mdo
            have hv' : (D.mk d.s d.p a.n d.dn).valid = true := by
              rw [D.valid_iff] at hv ⊢; simp; omega
            (conv => whnf); repeat' (first | (refine And.intro (by first | omega | (simp [pb]; done) | (simp [pb]; omega) | (simp [ByteArray.size]; omega) | exact Nat.le_of_ble_eq_true rfl | kernel_rfl) ?_; (conv => whnf)) | (refine onB_intro (fun hb => ?_) (fun hb => ?_) <;> (try simp only [decide_eq_true_eq, decide_eq_false_iff_not, Bool.not_eq_true', Bool.not_eq_false', Bool.and_eq_true, Bool.and_eq_false_iff, Int.not_le, Int.not_lt, ByteArray.toList_eq, beq_iff_eq, beq_eq_false_iff_ne, ne_eq] at hb) <;> (try (exfalso; omega)) <;> (try (exfalso; first | contradiction | (simp [ByteArray.toList_eq] at hb; done))) <;> (conv => whnf)) | (refine (hQ _ _ _ ?_).1; (conv => whnf)) | (refine ⟨_, rfl, ?_⟩; (conv => whnf)) | (refine ⟨_, mp_cut _ _ _, ?_⟩; (conv => whnf)) | (refine ⟨_, dbs_cut _ _ _, ?_⟩; (conv => whnf)) | (refine call_pure (mdo) (fun f => rfl) (fun f => rfl) ?_ ?_; (focus ((repeat' (first | exact trivial | exact Sub.refl _ | exact sub_nil | exact Or.inl rfl | exact Or.inr ⟨rfl, rfl⟩ | refine sub_tup ?_ | refine sub_agg ?_ | (refine sub_val ?_ ?_ <;> (first | omega | (simp [pb, List.map_take, List.map_drop]; done) | (simp [pb, List.map_take, List.map_drop]; omega))) | (refine or_val ?_ ?_ <;> (first | omega | (simp [pb, List.map_take, List.map_drop]; done) | (simp [pb, List.map_take, List.map_drop]; omega))) | refine And.intro ?_ ?_)); done)); (conv => whnf)) | (simp only [elem_at' Act.len ha]; (conv => whnf)))
            all_goals refine hK _ _ _ (k + 1, ⟨d.s, d.p, a.n, d.dn⟩, all, sy) ⟨by dsimp only; omega, ⟨hv', hin.2, hpre, hsy, hal⟩, heq, hdn, by dsimp only; omega⟩ (by dsimp only; omega) (Wk.names [(2, 2), (3, 3)] rfl (Nat.zero_le _) ⟨Sub.refl _, Sub.refl _, Sub.refl _, Sub.refl _, Sub.refl _, sub_int (by dsimp only; omega), trivial⟩ ⟨rfl, hp_pure rfl rfl, trivial⟩)

theorem keeps_law (pss : List (List PV)) (h : IsAll [rActs, rInt] pss) : Meets Try.prog F_erasurelaw32DiskKeeps ⟨tvs [rActs, rInt] pss, [], 0, vb true, [], 0⟩ := by
  obtain ⟨x, _, rfl, hx, h⟩ := isAll_cons h
  obtain ⟨y, _, rfl, hy, h⟩ := isAll_cons h
  obtain rfl := isAll_nil h
  obtain ⟨l, rfl, hl, hr⟩ := is_acts hx
  obtain ⟨c, rfl, hc⟩ := is_int hy
  exact keeps_meets l c hl fun a ha => (hr a ha).2.1
end Go.Proofs.Ytilbfoijfiebdaa.Am

/- The operations' effects are the model's: slices made, cut, turned into strings. -/
import Derived.Test.YtjieenfbfckafaaAmSound3
import Derived.Laws.BytesArg
import Derived.Lib.ConvBytes
import Derived.Laws.Slices
namespace Go.Proofs.Ytjieenfbfckafaa.Am
open Go
set_option linter.unusedVariables false
set_option linter.unusedSimpArgs false

section
variable {P : Program} {o : Oper} {s : S} {K : Eff → Prop}

theorem addr_zero (b : Nat) : (⟨b, 0, none⟩ : Addr) = ⟨b, 0, none⟩ := rfl

/-- An immutable row in a new block. -/
theorem Does.stay {ls : List Nat} {r : TV}
    (h : ∀ (X : Ctx) (w : World) (a : Act), (∀ t ∈ ls, ∀ d, look s.env t = some d → TVR w X d (a.tmps.getD t undef)) →
      ∃ (ob : Obj) (v : Value), (execOp a.eval o).run P w = .ok (.value v) (w.alloc ob) ∧
        ∀ X' w', w'.heap[w.heap.size]? = some ob → X'.I w.heap.size → Keeps X w X' w' → TVR w' X' r v) :
    Does P o ls s (.of r) := by
  intro X w a h0 K Q he ok hacc hfr hk
  obtain ⟨ob, v, hr, hv⟩ := h X w a he
  obtain ⟨h1, h2⟩ := ok.newStay ob
  exact wp_value hr (hk v _ _ (hv (X.stay w.heap.size) _ (heap_alloc_new w _) (Or.inr rfl) (h2.keeps ok)) h1 h2 fun id hid => .inl hid)

theorem VRds.pure_at {w w' : World} {X X' : Ctx} {cs : List PV} {us : List Value} (h : VRds w X (cs.map DV.p) us) (k : Keeps X w X' w') {b : Nat} {c : Array Value} {e : TypeId} {fr : Nat × Nat} (hb : w'.heap[b]? = some (.cells c e fr))
    (hc : ∀ (j : Nat) u, us[j]? = some u → c[j]? = some u) : VRc w' X'.I b 0 cs := by
  rw [VRc_get]
  intro j d hd
  have hlt : j < us.length := by rw [← h.1]; simp; exact (List.getElem?_eq_some_iff.1 hd).1
  refine ⟨us[j], ?_, ?_⟩
  · rw [cell_of_row w' b (0 + j) c e fr hb, Nat.zero_add]; exact hc j _ (List.getElem?_eq_getElem hlt)
  · have := (h.2 j (.p d) us[j] (by simp [hd]) (List.getElem?_eq_getElem hlt)).mono k
    exact this

theorem snd_lit {e sz ln : Nat} {zero : List Value} {ps : List (Nat × Opd)} {own : Bool} {t : TypeId} {qs : Array (Nat × Operand)} (ho : o.op = .buildSlice t ln qs) (hf : litFits P t e sz ln zero ps qs.toList = true) (h : (AOp.lit e sz ln zero ps own).eff P s K) :
    ∃ f, Does P o (listLooks (ps.map (·.2))) s f ∧ K f := by
  simp only [AOp.eff, AOp.effN] at h
  obtain ⟨xs, hxs, hK⟩ := lay_run h
  simp only [litFits, Bool.and_eq_true, decide_eq_true_eq] at hf
  obtain ⟨⟨⟨⟨⟨⟨ht, hz⟩, hsz⟩, hzl⟩, hpos⟩, hbig⟩, hps⟩ := hf
  have ht := sliceOf_some ht
  obtain ⟨i, z, hi, hz', hzz, h1⟩ := zeroFits_some hz
  have hisz : i.size = sz := by simpa [hi] using hsz
  have hlooks : listLooks (ps.map (·.2)) = listLooks ((ps.map fun p => (p.1 * sz, sz, p.2)).map (·.2.2)) := by simp only [List.map_map]; rfl
  have run : ∀ (X : Ctx) (w : World) (a : Act), (∀ t ∈ listLooks (ps.map (·.2)), ∀ d, look s.env t = some d → TVR w X d (a.tmps.getD t undef)) →
      ∃ c : Array Value, (execOp a.eval o).run P w = .ok (.value (.slice (some ⟨w.heap.size, 0, none⟩) ln ln)) (w.alloc (.cells c e)) ∧ VRds w X xs c.toList ∧ xs.length = ln * sz := by
    intro X w a he
    have hc0 : VRds w X (zeros zero ln) (madeCells z.cells (ln * sz)).toList := by
      have hz2 : z.cells = zero.toArray := by rw [← hzz]
      rw [hz2, ← hzl, madeCells_zeros, zeros_flatten]
      exact VRds_pure (oneCell_flatten h1 ln)
    obtain ⟨xs', carr, hfill, hv, rfl⟩ := fill_sound hps (by rw [← hlooks]; exact he) hc0 hxs
    have hlen : xs'.length = ln * sz := by
      have hl0 : ∀ (ps : List (Nat × Nat × Opd)) (cells : List DV), lay s cells ps (· = xs') → xs'.length = cells.length := by
        intro ps
        induction ps with
        | nil => intro cells h; simp only [lay] at h; rw [h]
        | cons p ps ih =>
          obtain ⟨off, n, x⟩ := p
          intro cells h
          obtain ⟨d, hd, h⟩ := asD_some h
          obtain ⟨ds, hds, hl, hle, h⟩ := someL_some h
          rw [ih _ h]
          simp; omega
      rw [hl0 _ _ hxs, hc0.1]
      simp [madeCells]
    refine ⟨carr, ?_, hv, hlen⟩
    have hmap : (qs.map fun x => (x.1, a.eval x.2)).toList = qs.toList.map fun q => (q.1, a.eval q.2) := by simp
    have hfill' : Instr.fill (fun i => some (i * sz, sz)) (madeCells z.cells (ln * sz)) (qs.map fun x => (x.1, a.eval x.2)).toList = some carr := by rw [hmap]; exact hfill
    have hbig' : ¬ (16777216 < ln * sz) := by omega
    have hs : (sizeOf e).run P w = .ok sz w := run_sizeOf' hsz w
    have hzv : (zeroValue e).run P w = .ok z w := by simp [zeroValue, typeInfo, hi, hz']
    by_cases hn : ln = 0
    · subst hn
      have hm : madeCells z.cells (0 * sz) = #[] := by simp [madeCells]
      rw [hm, hmap] at hfill'
      simp [execOp, ho, Instr.buildSlice, run_underlying ht, hs, newRow, Array.range_zero', hfill']
    · have hfill2 : Instr.fill (fun i => some (i * sz, sz)) (Array.map (fun x => z.cells[x % z.cells.size]!) (Array.range (ln * sz))) (qs.toList.map fun x => (x.1, a.eval x.2)) = some carr := by rw [← hmap]; exact hfill'
      have hn2 : ¬ (ln * sz = 0) := by
        have := Nat.mul_pos (Nat.pos_of_ne_zero hn) hpos
        omega
      have hn3 : ¬ sz = 0 := by omega
      simp only [execOp, ho, Instr.buildSlice, run_underlying ht, hs, hbig', if_neg hn2, newRow, hzv, Sem.run_bind, Result.andThen_ok, Sem.run_pure, gt_iff_lt, Nat.reducePow, if_false]
      simp [hn2, hzv, hmap, hfill2]
  cases own with
  | true =>
    simp only [onB] at hK
    refine ⟨_, Does.new fun X w a he => ?_, hK⟩
    obtain ⟨c, hr, hv, hlen⟩ := run X w a he
    have hcs : c.size = ln * sz := by have := hv.1; simp at this; omega
    refine ⟨c, _, hr, by omega, ?_, ?_⟩
    · rw [List.take_of_length_le (by rw [hv.1]; exact Nat.le_refl _)]; exact hv
    · intro X' w' hd hm hcc
      refine ⟨hd, .inr ⟨w.heap.size, 0, ln, hm, rfl, Nat.le_refl _, ?_, .inr rfl, by rw [hcc, hcs]; omega⟩⟩
      simp only [maxLen]
      have : ln ≤ ln * sz := Nat.le_mul_of_pos_right _ hpos
      omega
  | false =>
    simp only [onB] at hK
    obtain ⟨cs, rfl, hK⟩ := hK
    refine ⟨_, Does.stay fun X w a he => ?_, hK⟩
    obtain ⟨c, hr, hv, hlen⟩ := run X w a he
    refine ⟨_, _, hr, fun X' w' hb hI k => ⟨_, ln, rfl, Nat.le_refl _, ?_⟩⟩
    rcases Nat.eq_zero_or_pos ln with h0 | h0
    · left
      subst h0
      simp at hlen
      exact ⟨rfl, hlen⟩
    · right
      exact ⟨w.heap.size, 0, rfl, hI, hv.pure_at k hb fun j u hu => by simpa using hu⟩
end
end Go.Proofs.Ytjieenfbfckafaa.Am

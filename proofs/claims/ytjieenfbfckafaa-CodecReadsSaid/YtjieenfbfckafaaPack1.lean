/- The abstract machine, part 1. -/
import Derived.ChangeKeysEq
import Derived.Laws.BytesArg
import Derived.Laws.Slices
import Derived.Laws.StructEq
import Derived.Lib.AppendStr
import Derived.Lib.ConvBytes
import Derived.Test.YtjieenfbfckafaaPack0
/- The operations' effects are the model's: slices made, cut, turned into strings. -/
namespace Go.Proofs.Ytjieenfbfckafaa.Am
open Go
set_option linter.unusedVariables false
set_option linter.unusedSimpArgs false

section
variable {P : Program} {o : Oper} {s : S} {K : Eff → Prop}

theorem addr_zero (b : Nat) : (⟨b, 0, none⟩ : Addr) = ⟨b, 0, none⟩ := rfl

/-- An immutable row in a new block. -/
theorem Does.stay {ls : List Nat} {r : TV}
    (h : ∀ (X : Ctx) (w : World) (a : Act), (∀ t ∈ ls, ∀ d, look s.env t = some d → TVR w X d (a.tmps.getD t undef)) →
      ∃ (ob : Obj) (v : Value), (execOp a.eval o).run P w = .ok (.value v) (w.alloc ob) ∧
        ∀ X' w', w'.heap[w.heap.size]? = some ob → X'.I w.heap.size → Keeps X w X' w' → TVR w' X' r v) :
    Does P o ls s (.of r) := by
  intro X w a h0 K Q he ok hacc hfr hk
  obtain ⟨ob, v, hr, hv⟩ := h X w a he
  obtain ⟨h1, h2⟩ := ok.newStay ob
  exact wp_value hr (hk v _ _ (hv (X.stay w.heap.size) _ (heap_alloc_new w _) (Or.inr rfl) (h2.keeps ok)) h1 h2 fun id hid => .inl hid)

theorem VRds.pure_at {w w' : World} {X X' : Ctx} {cs : List PV} {us : List Value} (h : VRds w X (cs.map DV.p) us) (k : Keeps X w X' w') {b : Nat} {c : Array Value} {e : TypeId} {fr : Nat × Nat} (hb : w'.heap[b]? = some (.cells c e fr))
    (hc : ∀ (j : Nat) u, us[j]? = some u → c[j]? = some u) : VRc w' X'.I b 0 cs := by
  rw [VRc_get]
  intro j d hd
  have hlt : j < us.length := by rw [← h.1]; simp; exact (List.getElem?_eq_some_iff.1 hd).1
  refine ⟨us[j], ?_, ?_⟩
  · rw [cell_of_row w' b (0 + j) c e fr hb, Nat.zero_add]; exact hc j _ (List.getElem?_eq_getElem hlt)
  · have := (h.2 j (.p d) us[j] (by simp [hd]) (List.getElem?_eq_getElem hlt)).mono k
    exact this

theorem snd_lit {e sz ln : Nat} {zero : List Value} {ps : List (Nat × Opd)} {own : Bool} {t : TypeId} {qs : Array (Nat × Operand)} (ho : o.op = .buildSlice t ln qs) (hf : litFits P t e sz ln zero ps qs.toList = true) (h : (AOp.lit e sz ln zero ps own).eff P s K) :
    ∃ f, Does P o (listLooks (ps.map (·.2))) s f ∧ K f := by
  simp only [AOp.eff, AOp.effN] at h
  obtain ⟨xs, hxs, hK⟩ := lay_run h
  simp only [litFits, Bool.and_eq_true, decide_eq_true_eq] at hf
  obtain ⟨⟨⟨⟨⟨⟨ht, hz⟩, hsz⟩, hzl⟩, hpos⟩, hbig⟩, hps⟩ := hf
  have ht := sliceOf_some ht
  obtain ⟨i, z, hi, hz', hzz, h1⟩ := zeroFits_some hz
  have hisz : i.size = sz := by simpa [hi] using hsz
  have hlooks : listLooks (ps.map (·.2)) = listLooks ((ps.map fun p => (p.1 * sz, sz, p.2)).map (·.2.2)) := by simp only [List.map_map]; rfl
  have run : ∀ (X : Ctx) (w : World) (a : Act), (∀ t ∈ listLooks (ps.map (·.2)), ∀ d, look s.env t = some d → TVR w X d (a.tmps.getD t undef)) →
      ∃ c : Array Value, (execOp a.eval o).run P w = .ok (.value (.slice (some ⟨w.heap.size, 0, none⟩) ln ln)) (w.alloc (.cells c e)) ∧ VRds w X xs c.toList ∧ xs.length = ln * sz := by
    intro X w a he
    have hc0 : VRds w X (zeros zero ln) (madeCells z.cells (ln * sz)).toList := by
      have hz2 : z.cells = zero.toArray := by rw [← hzz]
      rw [hz2, ← hzl, madeCells_zeros, zeros_flatten]
      exact VRds_pure (oneCell_flatten h1 ln)
    obtain ⟨xs', carr, hfill, hv, rfl⟩ := fill_sound hps (by rw [← hlooks]; exact he) hc0 hxs
    have hlen : xs'.length = ln * sz := by
      have hl0 : ∀ (ps : List (Nat × Nat × Opd)) (cells : List DV), lay s cells ps (· = xs') → xs'.length = cells.length := by
        intro ps
        induction ps with
        | nil => intro cells h; simp only [lay] at h; rw [h]
        | cons p ps ih =>
          obtain ⟨off, n, x⟩ := p
          intro cells h
          obtain ⟨d, hd, h⟩ := asD_some h
          obtain ⟨ds, hds, hl, hle, h⟩ := someL_some h
          rw [ih _ h]
          simp; omega
      rw [hl0 _ _ hxs, hc0.1]
      simp [madeCells]
    refine ⟨carr, ?_, hv, hlen⟩
    have hmap : (qs.map fun x => (x.1, a.eval x.2)).toList = qs.toList.map fun q => (q.1, a.eval q.2) := by simp
    have hfill' : Instr.fill (fun i => some (i * sz, sz)) (madeCells z.cells (ln * sz)) (qs.map fun x => (x.1, a.eval x.2)).toList = some carr := by rw [hmap]; exact hfill
    have hbig' : ¬ (16777216 < ln * sz) := by omega
    have hs : (sizeOf e).run P w = .ok sz w := run_sizeOf' hsz w
    have hzv : (zeroValue e).run P w = .ok z w := by simp [zeroValue, typeInfo, hi, hz']
    by_cases hn : ln = 0
    · subst hn
      have hm : madeCells z.cells (0 * sz) = #[] := by simp [madeCells]
      rw [hm, hmap] at hfill'
      simp [execOp, ho, Instr.buildSlice, run_underlying ht, hs, newRow, Array.range_zero', hfill']
    · have hfill2 : Instr.fill (fun i => some (i * sz, sz)) (Array.map (fun x => z.cells[x % z.cells.size]!) (Array.range (ln * sz))) (qs.toList.map fun x => (x.1, a.eval x.2)) = some carr := by rw [← hmap]; exact hfill'
      have hn2 : ¬ (ln * sz = 0) := by
        have := Nat.mul_pos (Nat.pos_of_ne_zero hn) hpos
        omega
      have hn3 : ¬ sz = 0 := by omega
      simp only [execOp, ho, Instr.buildSlice, run_underlying ht, hs, hbig', if_neg hn2, newRow, hzv, Sem.run_bind, Result.andThen_ok, Sem.run_pure, gt_iff_lt, Nat.reducePow, if_false]
      simp [hn2, hzv, hmap, hfill2]
  cases own with
  | true =>
    simp only [onB] at hK
    refine ⟨_, Does.new fun X w a he => ?_, hK⟩
    obtain ⟨c, hr, hv, hlen⟩ := run X w a he
    have hcs : c.size = ln * sz := by have := hv.1; simp at this; omega
    refine ⟨c, _, hr, by omega, ?_, ?_⟩
    · rw [List.take_of_length_le (by rw [hv.1]; exact Nat.le_refl _)]; exact hv
    · intro X' w' hd hm hcc
      refine ⟨hd, .inr ⟨w.heap.size, 0, ln, hm, rfl, Nat.le_refl _, ?_, .inr rfl, by rw [hcc, hcs]; omega⟩⟩
      simp only [maxLen]
      have : ln ≤ ln * sz := Nat.le_mul_of_pos_right _ hpos
      omega
  | false =>
    simp only [onB] at hK
    obtain ⟨cs, rfl, hK⟩ := hK
    refine ⟨_, Does.stay fun X w a he => ?_, hK⟩
    obtain ⟨c, hr, hv, hlen⟩ := run X w a he
    refine ⟨_, _, hr, fun X' w' hb hI k => ⟨_, ln, rfl, Nat.le_refl _, ?_⟩⟩
    rcases Nat.eq_zero_or_pos ln with h0 | h0
    · left
      subst h0
      simp at hlen
      exact ⟨rfl, hlen⟩
    · right
      exact ⟨w.heap.size, 0, rfl, hI, hv.pure_at k hb fun j u hu => by simpa using hu⟩
end
end Go.Proofs.Ytjieenfbfckafaa.Am
/- The operations' effects are the model's: make, cuts, strings and bytes. -/
namespace Go.Proofs.Ytjieenfbfckafaa.Am
open Go
set_option linter.unusedVariables false
set_option linter.unusedSimpArgs false

section
variable {P : Program} {o : Oper} {s : S} {K : Eff → Prop}

def makeFits (P : Program) (t : TypeId) (e sz bytes : Nat) (zero : List Value) : Bool :=
  sliceOf P t e && zeroFits P e zero && decide ((P.info? e).map (·.size) = some sz) && decide ((P.info? e).map (·.bytes) = some bytes) && decide (zero.length = sz) && decide (0 < sz)

theorem zeros_length (z : List Value) : ∀ n, (zeros z n).length = n * z.length
  | 0 => by simp [zeros]
  | n + 1 => by simp [zeros, zeros_length z n, Nat.succ_mul, Nat.add_comm]

theorem zeros_P (z : List Value) : ∀ n, zeros z n = (zerosP z n).map DV.p
  | 0 => rfl
  | n + 1 => by simp [zeros, zerosP, zeros_P z n]

theorem snd_make {e sz bytes : Nat} {zero : List Value} {x y : Opd} {own : Bool} {x' y' : Operand} {t : TypeId} (ho : o.op = .makeSlice t x' y') (hx : x.fits x' = true) (hy : y.fits y' = true) (hf : makeFits P t e sz bytes zero = true) (h : (AOp.make e sz bytes zero x y own).eff P s K) :
    ∃ f, Does P o (x.looks ++ y.looks) s f ∧ K f := by
  obtain ⟨k1, n, hn, h⟩ := asI_some h
  obtain ⟨k2, c, hc, h⟩ := asI_some h
  obtain ⟨⟨h0, h1, h2, h3⟩, hK⟩ := h
  simp only [makeFits, Bool.and_eq_true, decide_eq_true_eq] at hf
  obtain ⟨⟨⟨⟨⟨ht, hz⟩, hsz⟩, hby⟩, hzl⟩, hpos⟩ := hf
  have ht := sliceOf_some ht
  obtain ⟨i, z, hi, hz', hzz, h4⟩ := zeroFits_some hz
  have hisz : i.size = sz := by simpa [hi] using hsz
  have hiby : i.bytes = bytes := by simpa [hi] using hby
  have hz2 : z.cells = zero.toArray := by rw [← hzz]
  have hcells : madeCells z.cells (c.toNat * sz) = ((List.replicate c.toNat zero).flatten).toArray := by rw [hz2, ← hzl, madeCells_zeros]
  have hflen : ((List.replicate c.toNat zero).flatten).length = c.toNat * sz := by simp [List.length_flatten, hzl]
  have hle : n.toNat * sz ≤ c.toNat * sz := Nat.mul_le_mul_right _ (by omega)
  have hh : (((List.replicate c.toNat zero).flatten).toArray).toList.take (zeros zero n.toNat).length = (List.replicate n.toNat zero).flatten := by
    rw [zeros_length]
    have e1 : c.toNat = n.toNat + (c.toNat - n.toNat) := by omega
    have e2 : (List.replicate c.toNat zero).flatten = (List.replicate n.toNat zero).flatten ++ (List.replicate (c.toNat - n.toNat) zero).flatten := by
      rw [← List.flatten_append, List.replicate_append_replicate, ← e1]
    simp only [e2]
    exact List.take_left' (by simp [List.length_flatten])
  have run : ∀ (X : Ctx) (w : World) (a : Act), (∀ t ∈ x.looks ++ y.looks, ∀ d, look s.env t = some d → TVR w X d (a.tmps.getD t undef)) →
      (execOp a.eval o).run P w = .ok (.value (.slice (some ⟨w.heap.size, 0, none⟩) n.toNat c.toNat)) (w.alloc (.cells ((List.replicate c.toNat zero).flatten).toArray e)) := by
    intro X w a he
    have hp := tvr_v (ev_sound (w := w) (X := X) (a := a) hx (fun t ht => he t (by simp [ht])) hn)
    have hq := tvr_v (ev_sound (w := w) (X := X) (a := a) hy (fun t ht => he t (by simp [ht])) hc)
    have hr := run_make (P := P) w t e i z ht hi hz' k1 k2 n c h0 h1 (by rw [hiby, Int.mul_comm]; exact h2) (by omega)
    rw [hisz, hcells] at hr
    simp only [execOp, ho, Sem.run_bind, hp, hq, hr, Result.andThen_ok, Sem.run_pure]
  cases own with
  | true =>
    simp only [onB] at hK
    refine ⟨_, Does.new fun X w a he => ?_, hK⟩
    refine ⟨_, _, run X w a he, ?_, ?_, ?_⟩
    · rw [zeros_length, hzl]; simp only [List.size_toArray, hflen]; exact hle
    · rw [hh, zeros_flatten]
      exact VRds_pure (oneCell_flatten h4 _)
    · intro X' w' hd hm hcc
      refine ⟨hd, .inr ⟨w.heap.size, 0, c.toNat, hm, rfl, by omega, by simp only [maxLen]; omega, .inr rfl, ?_⟩⟩
      rw [hcc]; simp only [List.size_toArray, hflen]; omega
  | false =>
    simp only [onB] at hK
    refine ⟨_, Does.stay fun X w a he => ?_, hK⟩
    refine ⟨_, _, run X w a he, fun X' w' hb hI k => ⟨_, c.toNat, rfl, by omega, .inr ⟨w.heap.size, 0, rfl, hI, ?_⟩⟩⟩
    have hv : VRds w X ((zerosP zero n.toNat).map DV.p) ((List.replicate n.toNat zero).flatten) := by
      rw [← zeros_P, zeros_flatten]
      exact VRds_pure (oneCell_flatten h4 _)
    refine hv.pure_at k hb fun j u hu => ?_
    rw [← hh, List.getElem?_take] at hu
    split at hu
    · simpa using hu
    · cases hu

/-! ### Cuts -/
def optFits : Option Opd → Option Operand → Bool
  | some x, some y => x.fits y
  | none, none => true
  | _, _ => false

theorem optI_some {x : Option Opd} {d : Int} {G : Int → Prop} (h : optI s x d G) : ∃ n : Int, G n ∧ ∀ (w : World) (X : Ctx) (a : Act) (y : Option Operand), optFits x y = true →
    (∀ t ∈ optLooks x, ∀ d, look s.env t = some d → TVR w X d (a.tmps.getD t undef)) → (x = none ∧ y = none ∧ n = d) ∨ ∃ k z, y = some z ∧ a.eval z = .int k n := by
  cases x with
  | none =>
    refine ⟨d, h, fun w X a y hf he => ?_⟩
    cases y <;> simp [optFits] at hf
    exact .inl ⟨rfl, rfl, rfl⟩
  | some x =>
    obtain ⟨k, n, hn, h⟩ := asI_some h
    refine ⟨n, h, fun w X a y hf he => ?_⟩
    cases y with
    | none => simp [optFits] at hf
    | some z => exact .inr ⟨k, z, rfl, tvr_v (ev_sound (w := w) (X := X) (a := a) hf he hn)⟩

/-- The bounds of a cut whose numbers are right. -/
theorem run_sliceBounds {w : World} {a : Act} (isS : Bool) (len cap : Nat) (lo hi mx : Option Operand) (l h m : Int)
    (hlo : (lo = none ∧ l = 0) ∨ ∃ k z, lo = some z ∧ a.eval z = .int k l) (hhi : (hi = none ∧ h = len ∧ mx = none) ∨ ∃ k z, hi = some z ∧ a.eval z = .int k h)
    (hmx : (mx = none ∧ m = cap) ∨ ∃ k z, mx = some z ∧ a.eval z = .int k m) (h0 : 0 ≤ l) (h1 : l ≤ h) (h2 : h ≤ m) (h3 : m ≤ cap) :
    (Instr.sliceBounds isS len cap (lo.map a.eval) (hi.map a.eval) (mx.map a.eval)).run P w = .ok (l.toNat, h.toNat, m.toNat) w := by
  have hm0 : 0 ≤ m := by omega
  have hh0 : 0 ≤ h := by omega
  have sb : ∀ (k : IntKind) (i : Int) (y : Nat) (c : BoundsCode), 0 ≤ i → i ≤ y → (Instr.sliceBound (.int k i) y c).run P w = .ok i.toNat w := fun k i y c e1 e2 => run_sliceBound (P := P) (w := w) k i y c e1 e2
  have hmn : h ≤ (m.toNat : Int) := by omega
  have hhn : l ≤ (h.toNat : Int) := by omega
  rcases hmx with ⟨rfl, rfl⟩ | ⟨km, zm, rfl, hm⟩ <;> rcases hhi with ⟨rfl, rfl, hx⟩ | ⟨kh, zh, rfl, hh⟩ <;> rcases hlo with ⟨rfl, rfl⟩ | ⟨kl, zl, rfl, hl⟩
  all_goals first
    | (cases hx; done)
    | (simp only [Instr.sliceBounds, Option.map_some, Option.map_none, Sem.run_bind, Sem.run_pure, Result.andThen_ok]
       simp_all [sb])

theorem run_slice_slice {t e : TypeId} {sz : Nat} (hu : P.underlying t = some (.slice e)) (hs : (P.info? e).map (·.size) = some sz) {w : World} (A : Option Addr) (n cap : Nat) (lo hi mx : Option Value) (l h m : Nat)
    (hb : (Instr.sliceBounds true n cap lo hi mx).run P w = .ok (l, h, m) w) :
    (Instr.sliceAt t (.slice A n cap) lo hi mx).run P w = .ok (.slice (if m = l then A else A.map (·.add (l * sz))) (h - l) (m - l)) w := by
  simp [Instr.sliceAt, Instr.slice, run_underlying hu, hb, run_sizeOf' hs]

theorem snd_sl {sz : Nat} {x : Opd} {lo hi mx : Option Opd} {x' : Operand} {lo' hi' mx' : Option Operand} {t : TypeId} (ho : o.op = .slice t x' lo' hi' mx') (hx : x.fits x' = true) (hlo : optFits lo lo' = true) (hhi : optFits hi hi' = true) (hmx : optFits mx mx' = true)
    (hmh : mx'.isSome → hi'.isSome) (hf : idxaFits P t sz = true) (h : (AOp.sl sz x lo hi mx).eff P s K) :
    ∃ e, Does P o (x.looks ++ optLooks lo ++ optLooks hi ++ optLooks mx) s e ∧ K e := by
  obtain ⟨e, hu, hsz⟩ := idxaFits_some hf
  obtain ⟨d, hd, h⟩ := asC_some h
  -- the bounds as the run has them
  have bounds : ∀ (X : Ctx) (w : World) (a : Act) (n cap : Nat) (l q m : Int),
      (∀ t ∈ x.looks ++ optLooks lo ++ optLooks hi ++ optLooks mx, ∀ d, look s.env t = some d → TVR w X d (a.tmps.getD t undef)) → n ≤ cap →
      (∀ (w : World) (X : Ctx) (a : Act) (y : Option Operand), optFits lo y = true → (∀ t ∈ optLooks lo, ∀ d, look s.env t = some d → TVR w X d (a.tmps.getD t undef)) → (lo = none ∧ y = none ∧ l = 0) ∨ ∃ k z, y = some z ∧ a.eval z = .int k l) →
      (∀ (w : World) (X : Ctx) (a : Act) (y : Option Operand), optFits hi y = true → (∀ t ∈ optLooks hi, ∀ d, look s.env t = some d → TVR w X d (a.tmps.getD t undef)) → (hi = none ∧ y = none ∧ q = n) ∨ ∃ k z, y = some z ∧ a.eval z = .int k q) →
      (∀ (w : World) (X : Ctx) (a : Act) (y : Option Operand), optFits mx y = true → (∀ t ∈ optLooks mx, ∀ d, look s.env t = some d → TVR w X d (a.tmps.getD t undef)) → (mx = none ∧ y = none ∧ m = n) ∨ ∃ k z, y = some z ∧ a.eval z = .int k m) →
      0 ≤ l ∧ l ≤ q ∧ q ≤ m ∧ m ≤ n →
      ∃ m' : Nat, q.toNat ≤ m' ∧ m' ≤ cap ∧ (Instr.sliceBounds true n cap (lo'.map a.eval) (hi'.map a.eval) (mx'.map a.eval)).run P w = .ok (l.toNat, q.toNat, m') w := by
    intro X w a n cap l q m he hn hl hq hm ⟨h0, h1, h2, h3⟩
    have el := hl w X a lo' hlo (fun t ht => he t (by simp [ht]))
    have eq := hq w X a hi' hhi (fun t ht => he t (by simp [ht]))
    have em := hm w X a mx' hmx (fun t ht => he t (by simp [ht]))
    rcases em with ⟨_, rfl, rfl⟩ | ⟨k, z, rfl, hz⟩
    · refine ⟨cap, by omega, Nat.le_refl _, ?_⟩
      exact run_sliceBounds (P := P) true n cap lo' hi' none l q cap (el.imp (fun ⟨_, h4, h5⟩ => ⟨h4, h5⟩) id) (eq.imp (fun ⟨_, h4, h5⟩ => ⟨h4, h5, rfl⟩) id) (.inl ⟨rfl, rfl⟩) h0 h1 (by omega) (by omega)
    · refine ⟨m.toNat, by omega, by omega, ?_⟩
      refine run_sliceBounds (P := P) true n cap lo' hi' (some z) l q m (el.imp (fun ⟨_, h4, h5⟩ => ⟨h4, h5⟩) id) (eq.elim (fun ⟨_, h4, _⟩ => absurd (hmh rfl) (by rw [h4]; simp)) .inr) (.inr ⟨k, z, rfl, hz⟩) h0 h1 h2 (by omega)
  cases d with
  | ref id off n z =>
    have h := andN_iff.1 h
    obtain ⟨rfl, h⟩ := h
    obtain ⟨l, h, hl⟩ := optI_some h
    obtain ⟨q, h, hq⟩ := optI_some h
    obtain ⟨m, ⟨hc, h⟩, hm⟩ := optI_some h
    refine ⟨_, Does.pure fun X w a he => ?_, h⟩
    obtain ⟨hdm, h2⟩ := ev_sound (w := w) (X := X) (a := a) hx (fun t ht => he t (by simp [ht])) hd
    obtain ⟨h0, h1, h2', h3⟩ := hc
    rcases h2 with ⟨hmu, rfl, hp⟩ | ⟨b, off', cap, hmu, hp, hn, hcm, hoff, hcc⟩
    · obtain ⟨m', e1, e2, hb⟩ := bounds X w a 0 0 l q m he (Nat.le_refl _) hl hq hm ⟨h0, h1, h2', h3⟩
      have hr := run_slice_slice (P := P) hu hsz none 0 0 _ _ _ _ _ _ hb
      have e3 : l.toNat = 0 := by omega
      have e4 : q.toNat = 0 := by omega
      have e5 : m' = 0 := by omega
      rw [e3, e4, e5] at hr
      refine ⟨_, by simp only [execOp, ho, hp, Sem.run_bind, hr, Result.andThen_ok, Sem.run_pure]; rfl, hdm, .inl ⟨hmu, by omega, rfl⟩⟩
    · obtain ⟨m', e1, e2, hb⟩ := bounds X w a n cap l q m he hn hl hq hm ⟨h0, h1, h2', h3⟩
      have hr := run_slice_slice (P := P) hu hsz (some ⟨b, off', none⟩) n cap _ _ _ _ _ _ hb
      have e3 : (q - l).toNat = q.toNat - l.toNat := by omega
      by_cases hml : m' = l.toNat
      · rw [if_pos hml] at hr
        refine ⟨_, by simp only [execOp, ho, hp, Sem.run_bind, hr, Result.andThen_ok, Sem.run_pure]; rfl, hdm, .inr ⟨b, off', m' - l.toNat, hmu, by rw [e3], by omega, by simp only [maxLen] at hcm ⊢; omega, .inl (by omega), ?_⟩⟩
        have : m' - l.toNat = 0 := by omega
        rw [this]; omega
      · rw [if_neg hml] at hr
        have hoff' : off' = off := by rcases hoff with h4 | h4 <;> omega
        subst hoff'
        refine ⟨_, by simp only [execOp, ho, hp, Sem.run_bind, hr, Result.andThen_ok, Sem.run_pure, Option.map_some, Addr.add_lit]; rfl, hdm, .inr ⟨b, off' + l.toNat * z, m' - l.toNat, hmu, by rw [e3], by omega, by simp only [maxLen] at hcm ⊢; omega, .inr rfl, ?_⟩⟩
        have : l.toNat * z + (m' - l.toNat) * z = m' * z := by rw [← Nat.add_mul]; congr 1; omega
        have : m' * z ≤ cap * z := Nat.mul_le_mul_right _ e2
        omega
  | p x0 =>
    cases x0 with
    | val n cs =>
      obtain ⟨l, h, hl⟩ := optI_some h
      obtain ⟨q, h, hq⟩ := optI_some h
      obtain ⟨m, ⟨hc, h⟩, hm⟩ := optI_some h
      refine ⟨_, Does.pure fun X w a he => ?_, h⟩
      obtain ⟨A, cap, hp, hn, h2⟩ := ev_sound (w := w) (X := X) (a := a) hx (fun t ht => he t (by simp [ht])) hd
      obtain ⟨h0, h1, h2', h3⟩ := hc
      obtain ⟨m', e1, e2, hb⟩ := bounds X w a n cap l q m he hn hl hq hm ⟨h0, h1, h2', h3⟩
      have hr := run_slice_slice (P := P) hu hsz A n cap _ _ _ _ _ _ hb
      have e3 : (q - l).toNat = q.toNat - l.toNat := by omega
      refine ⟨_, by simp only [execOp, ho, hp, Sem.run_bind, hr, Result.andThen_ok, Sem.run_pure]; rfl, _, m' - l.toNat, by rw [e3], by omega, ?_⟩
      by_cases hz : (q - l).toNat = 0
      · left; exact ⟨hz, by rw [hz]; simp⟩
      · right
        have hml : ¬ m' = l.toNat := by omega
        rcases h2 with ⟨h4, _⟩ | ⟨b, of, rfl, hI, hcs⟩
        · omega
        · refine ⟨b, of + l.toNat * sz, by rw [if_neg hml]; simp [Addr.add_lit], hI, hcs.sub _ _⟩
    | v v =>
      cases v with
      | slice A n c =>
        cases A with
        | none =>
          cases n with
          | zero =>
            cases c with
            | zero =>
              obtain ⟨l, h, hl⟩ := optI_some h
              obtain ⟨q, h, hq⟩ := optI_some h
              obtain ⟨m, ⟨⟨e1, e2, e3⟩, hK⟩, hm⟩ := optI_some h
              subst e1 e2 e3
              refine ⟨_, Does.pure fun X w a he => ?_, hK⟩
              have hp := tvr_v (ev_sound (w := w) (X := X) (a := a) hx (fun t ht => he t (by simp [ht])) hd)
              obtain ⟨m', e1, e2, hb⟩ := bounds X w a 0 0 0 0 0 he (Nat.le_refl _) hl hq hm ⟨by omega, by omega, by omega, by omega⟩
              have hr := run_slice_slice (P := P) hu hsz none 0 0 _ _ _ _ _ _ hb
              have e5 : m' = 0 := by omega
              rw [e5] at hr
              exact ⟨_, by simp only [execOp, ho, hp, Sem.run_bind, hr, Result.andThen_ok, Sem.run_pure]; rfl, rfl, rfl⟩
            | succ => exact h.elim
          | succ => exact h.elim
        | some => exact h.elim
      | _ => exact h.elim
    | _ => exact h.elim
  | ptr => exact h.elim

theorem snd_sls {x : Opd} {lo hi : Option Opd} {x' : Operand} {lo' hi' : Option Operand} {t : TypeId} (ho : o.op = .slice t x' lo' hi' none) (hx : x.fits x' = true) (hlo : optFits lo lo' = true) (hhi : optFits hi hi' = true)
    (hu : P.underlying t = some .string) (h : (AOp.sls x lo hi).eff P s K) :
    ∃ e, Does P o (x.looks ++ optLooks lo ++ optLooks hi) s e ∧ K e := by
  obtain ⟨b, hd, h⟩ := asS_some h
  obtain ⟨l, h, hl⟩ := optI_some h
  obtain ⟨q, ⟨⟨h0, h1, h2⟩, h⟩, hq⟩ := optI_some h
  refine pure_v rfl h (fun X w a he => ?_) |>.imp fun e h => ⟨h.1, h.2.2⟩
  have hp := tvr_v (ev_sound (w := w) (X := X) (a := a) hx (fun t ht => he t (by simp [ht])) hd)
  have el := hl w X a lo' hlo (fun t ht => he t (by simp [ht]))
  have eq := hq w X a hi' hhi (fun t ht => he t (by simp [ht]))
  have hb := run_sliceBounds (P := P) (w := w) (a := a) false b.size b.size lo' hi' none l q b.size (el.imp (fun ⟨_, h4, h5⟩ => ⟨h4, h5⟩) id) (eq.imp (fun ⟨_, h4, h5⟩ => ⟨h4, h5, rfl⟩) id) (.inl ⟨rfl, rfl⟩) h0 h1 h2 (Int.le_refl _)
  simp only [Option.map_none] at hb
  simp [execOp, ho, hp, Instr.sliceAt, Instr.slice, run_underlying hu, hb]
end
end Go.Proofs.Ytjieenfbfckafaa.Am
/- The operations' effects are the model's: cuts of arrays, bytes and strings, aggregates held against one another, copy. -/
namespace Go.Proofs.Ytjieenfbfckafaa.Am
open Go
set_option linter.unusedVariables false
set_option linter.unusedSimpArgs false

section
variable {P : Program} {o : Oper} {s : S} {K : Eff → Prop}

def slrFits (P : Program) (t : TypeId) (ln sz : Nat) : Bool :=
  match P.underlying t with
  | some (.array m e) => decide (m = ln) && decide ((P.info? e).map (·.size) = some sz)
  | some (.pointer u) => match P.underlying u with
    | some (.array m e) => decide (m = ln) && decide ((P.info? e).map (·.size) = some sz)
    | _ => false
  | _ => false

theorem run_slice_ptr {t : TypeId} {ln sz : Nat} (hf : slrFits P t ln sz = true) {w : World} (b off : Nat) (lo hi mx : Option Value) (l h m : Nat)
    (hb : (Instr.sliceBounds false ln ln lo hi mx).run P w = .ok (l, h, m) w) :
    (Instr.sliceAt t (.pointer (some ⟨b, off, none⟩)) lo hi mx).run P w = .ok (.slice (some (if m = l then ⟨b, off, none⟩ else ⟨b, off + l * sz, none⟩)) (h - l) (m - l)) w := by
  unfold slrFits at hf
  split at hf
  · rename_i k e hu
    simp only [Bool.and_eq_true, decide_eq_true_eq] at hf
    obtain ⟨rfl, hs⟩ := hf
    simp [Instr.sliceAt, run_underlying hu, Instr.sureAddr, hb, run_sizeOf' hs, Addr.add_lit]
  · rename_i u hu
    split at hf
    · rename_i k e hu2
      simp only [Bool.and_eq_true, decide_eq_true_eq] at hf
      obtain ⟨rfl, hs⟩ := hf
      simp [Instr.sliceAt, Instr.slice, run_underlying hu, run_underlying hu2, asAddr, hb, run_sizeOf' hs, Addr.add_lit]
    · cases hf
  · cases hf

theorem snd_slr {ln sz : Nat} {x : Opd} {lo hi mx : Option Opd} {x' : Operand} {lo' hi' mx' : Option Operand} {t : TypeId} (ho : o.op = .slice t x' lo' hi' mx') (hx : x.fits x' = true) (hlo : optFits lo lo' = true) (hhi : optFits hi hi' = true) (hmx : optFits mx mx' = true)
    (hmh : mx'.isSome → hi'.isSome) (hln : ln ≤ 281474976710656) (hf : slrFits P t ln sz = true) (wf : s.wf) (h : (AOp.slr ln sz x lo hi mx).eff P s K) :
    ∃ e, Does P o (x.looks ++ optLooks lo ++ optLooks hi ++ optLooks mx) s e ∧ K e := by
  obtain ⟨d, hd, h⟩ := asC_some h
  have bounds : ∀ (X : Ctx) (w : World) (a : Act) (l q m : Int),
      (∀ t ∈ x.looks ++ optLooks lo ++ optLooks hi ++ optLooks mx, ∀ d, look s.env t = some d → TVR w X d (a.tmps.getD t undef)) →
      (∀ (w : World) (X : Ctx) (a : Act) (y : Option Operand), optFits lo y = true → (∀ t ∈ optLooks lo, ∀ d, look s.env t = some d → TVR w X d (a.tmps.getD t undef)) → (lo = none ∧ y = none ∧ l = 0) ∨ ∃ k z, y = some z ∧ a.eval z = .int k l) →
      (∀ (w : World) (X : Ctx) (a : Act) (y : Option Operand), optFits hi y = true → (∀ t ∈ optLooks hi, ∀ d, look s.env t = some d → TVR w X d (a.tmps.getD t undef)) → (hi = none ∧ y = none ∧ q = ln) ∨ ∃ k z, y = some z ∧ a.eval z = .int k q) →
      (∀ (w : World) (X : Ctx) (a : Act) (y : Option Operand), optFits mx y = true → (∀ t ∈ optLooks mx, ∀ d, look s.env t = some d → TVR w X d (a.tmps.getD t undef)) → (mx = none ∧ y = none ∧ m = ln) ∨ ∃ k z, y = some z ∧ a.eval z = .int k m) →
      0 ≤ l ∧ l ≤ q ∧ q ≤ m ∧ m ≤ ln →
      (Instr.sliceBounds false ln ln (lo'.map a.eval) (hi'.map a.eval) (mx'.map a.eval)).run P w = .ok (l.toNat, q.toNat, m.toNat) w := by
    intro X w a l q m he hl hq hm ⟨h0, h1, h2, h3⟩
    have el := hl w X a lo' hlo (fun t ht => he t (by simp [ht]))
    have eq := hq w X a hi' hhi (fun t ht => he t (by simp [ht]))
    have em := hm w X a mx' hmx (fun t ht => he t (by simp [ht]))
    rcases em with ⟨_, rfl, rfl⟩ | ⟨k, z, rfl, hz⟩
    · exact run_sliceBounds (P := P) false ln ln lo' hi' none l q ln (el.imp (fun ⟨_, h4, h5⟩ => ⟨h4, h5⟩) id) (eq.imp (fun ⟨_, h4, h5⟩ => ⟨h4, h5, rfl⟩) id) (.inl ⟨rfl, rfl⟩) h0 h1 h2 h3
    · exact run_sliceBounds (P := P) false ln ln lo' hi' (some z) l q m (el.imp (fun ⟨_, h4, h5⟩ => ⟨h4, h5⟩) id) (eq.elim (fun ⟨_, h4, _⟩ => absurd (hmh rfl) (by rw [h4]; simp)) .inr) (.inr ⟨k, z, rfl, hz⟩) h0 h1 h2 h3
  cases d with
  | ptr id off =>
    obtain ⟨l, h, hl⟩ := optI_some h
    obtain ⟨q, h, hq⟩ := optI_some h
    obtain ⟨m, ⟨hc, h⟩, hm⟩ := optI_some h
    obtain ⟨ob, hob, hle, hK⟩ := someL_some h
    refine ⟨_, Does.reads fun X w a hh he ok hacc => ?_, hK⟩
    obtain ⟨hdm, b, hmu, hp⟩ := ev_sound (w := w) (X := X) (a := a) hx (fun t ht => he t (by simp [ht])) hd
    have hid : hh id = some ob := by rw [hacc id (by simp) (wf id ob hob)]; exact hob
    obtain ⟨c, hcb, hcl, _⟩ := (ok.obj id ob hid).row hmu
    have hb := bounds X w a l q m he hl hq hm hc
    obtain ⟨h0, h1, h2', h3⟩ := hc
    have hr := run_slice_ptr (P := P) hf b off _ _ _ _ _ _ hb
    have hcc : cellCount w b = c.size := cellCount_of hcb
    have e3 : (q - l).toNat = q.toNat - l.toNat := by omega
    by_cases hml : m.toNat = l.toNat
    · rw [if_pos hml] at hr
      refine ⟨_, by simp only [execOp, ho, hp, Sem.run_bind, hr, Result.andThen_ok, Sem.run_pure]; rfl, hdm, .inr ⟨b, off, m.toNat - l.toNat, hmu, by rw [e3], by omega, by simp only [maxLen]; omega, .inl (by omega), ?_⟩⟩
      have : m.toNat - l.toNat = 0 := by omega
      rw [this, hcc]; omega
    · rw [if_neg hml] at hr
      refine ⟨_, by simp only [execOp, ho, hp, Sem.run_bind, hr, Result.andThen_ok, Sem.run_pure]; rfl, hdm, .inr ⟨b, off + l.toNat * sz, m.toNat - l.toNat, hmu, by rw [e3], by omega, by simp only [maxLen]; omega, .inr rfl, ?_⟩⟩
      have e4 : l.toNat * sz + (m.toNat - l.toNat) * sz = m.toNat * sz := by rw [← Nat.add_mul]; congr 1; omega
      have e5 : m.toNat * sz ≤ ln * sz := Nat.mul_le_mul_right _ (by omega)
      rw [hcc]; omega
  | p x0 =>
    cases x0 with
    | vptr cs =>
      obtain ⟨l, h, hl⟩ := optI_some h
      obtain ⟨q, h, hq⟩ := optI_some h
      obtain ⟨m, ⟨hc, h⟩, hm⟩ := optI_some h
      refine ⟨_, Does.pure fun X w a he => ?_, h⟩
      obtain ⟨b, off, hp, hI, hcs⟩ := ev_sound (w := w) (X := X) (a := a) hx (fun t ht => he t (by simp [ht])) hd
      have hb := bounds X w a l q m he hl hq hm hc
      obtain ⟨h0, h1, h2', h3⟩ := hc
      have hr := run_slice_ptr (P := P) hf b off _ _ _ _ _ _ hb
      have e3 : (q - l).toNat = q.toNat - l.toNat := by omega
      refine ⟨_, by simp only [execOp, ho, hp, Sem.run_bind, hr, Result.andThen_ok, Sem.run_pure]; rfl, _, m.toNat - l.toNat, by rw [e3], by omega, ?_⟩
      by_cases hz : (q - l).toNat = 0
      · left; exact ⟨hz, by rw [hz]; simp⟩
      · right
        have hml : ¬ m.toNat = l.toNat := by omega
        exact ⟨b, off + l.toNat * sz, by rw [if_neg hml], hI, hcs.sub _ _⟩
    | _ => exact h.elim
  | ref => exact h.elim

/-! ### The cells behind a slice -/
theorem cellsOf_some {sz : Nat} {d : DV} {G : Nat → List DV → List Nat → Prop} (wf : s.wf) (h : cellsOf s sz d G) : ∃ n cs rd, G n cs rd ∧ cs.length = n * sz ∧ (∀ id ∈ rd, id < s.nx) ∧
    ∀ (X : Ctx) (w : World) (h : Hp) (u : Value), HeapOk w X h → (∀ id ∈ rd, id < s.nx → h id = look s.hp id) → TVR w X (.c d) u →
      ∃ A cap, u = .slice A n cap ∧ n ≤ cap ∧ ((A = none ∧ n = 0) ∨ (n = 0 ∧ cs = []) ∨ ∃ b off, A = some ⟨b, off, none⟩ ∧ CellsAt w X b off cs) := by
  unfold cellsOf at h
  simp only [andN_iff] at h
  split at h
  · rename_i n cs
    obtain ⟨hl, h⟩ := h
    refine ⟨n, _, _, h, by simpa using hl, by simp, fun X w hh u ok _ hv => ?_⟩
    obtain ⟨A, cap, rfl, hn, h2⟩ := hv
    refine ⟨A, cap, rfl, hn, ?_⟩
    rcases h2 with ⟨h3, h4⟩ | ⟨b, off, rfl, hI, hc⟩
    · exact .inr (.inl ⟨h3, by simp [h4]⟩)
    · exact .inr (.inr ⟨b, off, rfl, VRc.cellsAt (X := X) hc⟩)
  · refine ⟨0, [], [], h, by simp, by simp, fun X w hh u ok _ hv => ?_⟩
    obtain ⟨rfl, _⟩ := hv
    exact ⟨none, 0, rfl, Nat.le_refl _, .inl ⟨rfl, rfl⟩⟩
  · rename_i id off n z
    obtain ⟨rfl, h⟩ := h
    obtain ⟨ob, hob, hle, h⟩ := someL_some h
    refine ⟨n, _, _, h, by simp; omega, by simp; exact wf id ob hob, fun X w hh u ok hacc hv => ?_⟩
    obtain ⟨hdm, h2⟩ := hv
    rcases h2 with ⟨hmu, rfl, rfl⟩ | ⟨b, off', cap, hmu, rfl, hn, hcm, hoff, hcc⟩
    · exact ⟨none, 0, rfl, Nat.le_refl _, .inl ⟨rfl, rfl⟩⟩
    · refine ⟨_, cap, rfl, hn, ?_⟩
      rcases Nat.eq_zero_or_pos n with h0 | h0
      · exact .inr (.inl ⟨h0, by rw [h0]; simp⟩)
      · have hoff' : off' = off := by rcases hoff with h4 | h4 <;> omega
        subst hoff'
        have hid : hh id = some ob := by rw [hacc id (by simp) (wf id ob hob)]; exact hob
        exact .inr (.inr ⟨b, off', rfl, ((ok.obj id ob hid).cellsAt hmu off').takeN _⟩)
  · exact h.elim

theorem snd_tostr {x : Opd} {x' : Operand} {t u : TypeId} (ho : o.op = .convert t u x') (hx : x.fits x' = true) (ht : (match P.underlying t with | some (.slice e) => (match P.underlying e with | some (.int .u8) => true | _ => false) | _ => false) = true)
    (hu : P.underlying u = some .string) (wf : s.wf) (h : (AOp.tostr x).eff P s K) : ∃ e, Does P o x.looks s e ∧ K e := by
  obtain ⟨d, hd, h⟩ := asC_some h
  obtain ⟨n, cs, rd, ⟨bs, hbs, hK⟩, hl, _, hsrc⟩ := cellsOf_some wf h
  refine ⟨_, Does.reads fun X w a hh he ok hacc => ?_, hK⟩
  have hv := ev_sound (w := w) (X := X) (a := a) hx he hd
  obtain ⟨A, cap, hp, hn, hA⟩ := hsrc X w hh _ ok hacc hv
  split at ht
  · rename_i e hte
    split at ht
    · rename_i hue
      have hlen : bs.length = n := by have := hl; rw [hbs] at this; simpa [pb] using this
      have hz : n = 0 → bs = [] := fun h => List.eq_nil_of_length_eq_zero (by omega)
      have nil : n = 0 → ∃ v, (execOp a.eval o).run P w = .ok (.value v) w ∧ TVR w X (.c (.p (.v (.string ⟨bs.toArray⟩)))) v := by
        intro h0
        have hbs0 := hz h0
        subst hbs0
        subst h0
        cases A with
        | none =>
          have hr := run_convert_bytes_nil (P := P) w t e hte hue 0 cap u hu
          exact ⟨_, by simp only [execOp, ho, hp, Sem.run_bind, hr, Result.andThen_ok, Sem.run_pure]; rfl, rfl, rfl⟩
        | some ad =>
          obtain ⟨b, off, sp⟩ := ad
          have hload : (loadCells ⟨b, off, sp⟩ 0).run P w = .ok #[] w := rfl
          have hr : (convert t u (.slice (some ⟨b, off, sp⟩) 0 cap)).run P w = .ok (.string ⟨#[]⟩) w := by
            rw [run_convert_bytes_string w t u e _ 0 cap hte hue hu, run_bytesToString w _ 0 cap [] (by simpa using hload)]
            rfl
          exact ⟨.string ⟨#[]⟩, by simp only [execOp, ho, hp, Sem.run_bind, hr, Result.andThen_ok, Sem.run_pure], rfl, rfl⟩
      rcases hA with ⟨_, h0⟩ | ⟨h0, _⟩ | ⟨b, off, rfl, hc⟩
      · exact nil h0
      · exact nil h0
      · have hr := run_convert_bytes_arg (P := P) w t e hte hue b off n cap (bs.map fun b => (b.toNat : Int)) (by simpa using hlen) (fun i hi => by
          have hib : i < bs.length := by omega
          obtain ⟨u, hu1, hu2⟩ := hc i (.p (pb1 bs[i])) (by rw [hbs]; simp [pb, hib])
          rw [hu1]
          obtain ⟨rfl, _⟩ := hu2
          simp [hib, List.getD_eq_getElem?_getD]) u hu
        refine ⟨_, by simp only [execOp, ho, hp, Sem.run_bind, hr, Result.andThen_ok, Sem.run_pure]; rfl, ?_, rfl⟩
        have : strOfNums (bs.map fun b => (b.toNat : Int)) = ⟨bs.toArray⟩ := by
          have h1 := strOfNums_data (bs.map fun b => (b.toNat : Int))
          have h2 : (strOfNums (bs.map fun b => (b.toNat : Int))).data = bs.toArray := by
            apply Array.ext'
            rw [h1, List.map_map]
            have : ((fun n : Int => UInt8.ofNat n.toNat) ∘ fun b : UInt8 => (b.toNat : Int)) = id := by funext b; simp
            rw [this, List.map_id]
          rw [← h2]
        rw [this]
    · cases ht
  · cases ht

theorem snd_tobytes {x : Opd} {x' : Operand} {t u : TypeId} {e : TypeId} (ho : o.op = .convert t u x') (hx : x.fits x' = true) (ht : (P.underlying t).isSome = true) (hu : sliceOf P u e = true)
    (he : (match P.underlying e with | some (.int .u8) => true | _ => false) = true) (h : (AOp.tobytes e x).eff P s K) : ∃ e, Does P o x.looks s e ∧ K e := by
  obtain ⟨b, hd, _, hK⟩ := asS_some h
  obtain ⟨dt, hdt⟩ := Option.isSome_iff_exists.1 ht
  have hu := sliceOf_some hu
  have hue : P.underlying e = some (.int .u8) := by split at he <;> simp_all
  refine ⟨_, ?_, hK⟩
  intro X w a h0 K Q hev ok hacc hfr hk
  have hp := tvr_v (ev_sound (w := w) (X := X) (a := a) hx hev hd)
  have hr := Lib.run_convert_string_bytes (P := P) w t u e b hdt hu hue
  -- the new row as a block that stays
  have hsz := Lib.bytesWorld_size w e b
  have hold : ∀ k, k < w.heap.size → (Lib.bytesWorld w e b).heap[k]? = w.heap[k]? := fun k hk => Lib.bytesWorld_at_old w e b k hk
  have hnew := Lib.bytesWorld_at_new w e b
  have hlt : ∀ i ob b', h0 i = some ob → X.mu i = some b' → b' < w.heap.size := fun i ob b' ho' hm => by
    have := (ok.obj i ob ho').2
    rw [hm] at this
    obtain ⟨c, h1, _⟩ := this
    exact cellCount_lt h1
  have hK2 : Keeps X w (X.stay w.heap.size) (Lib.bytesWorld w e b) :=
    ⟨fun _ hb => .inl hb, fun k hk => hold k (ok.ilt k hk), fun i hi => ⟨hi, rfl⟩, fun k hk => cellCount_congr (hold k hk)⟩
  have hok : HeapOk (Lib.bytesWorld w e b) (X.stay w.heap.size) h0 := by
    refine ⟨fun i ob hob => (ok.obj i ob hob).mono hK2 fun k hk => hold k (hlt i ob k hob hk), ok.inj, ?_, ?_⟩
    · intro i ob k hob hm hI
      rcases hI with hI | rfl
      · exact ok.notI i ob k hob hm hI
      · have := hlt i ob _ hob hm; omega
    · intro k hk
      rcases hk with hk | rfl
      · have := ok.ilt k hk; omega
      · omega
  have hE : Evol X w h0 (X.stay w.heap.size) (Lib.bytesWorld w e b) h0 := by
    refine ⟨rfl, rfl, rfl, by omega, fun k hk _ => hold k hk, hK2.cnt, hK2.dm, hK2.imm, ?_, fun i ob k hob hm => .inr ⟨i, ob, hob, hm⟩⟩
    intro k hk
    rcases hk with hk | rfl
    · exact .inl hk
    · exact .inr (.inl (Nat.le_refl _))
  refine wp_value (w' := Lib.bytesWorld w e b) (v := .slice (some ⟨w.heap.size, 0, none⟩) b.size (grownCap w b.size 0 e)) (by simp only [execOp, ho, hp, Sem.run_bind, hr, Result.andThen_ok, Sem.run_pure]) (hk _ _ _ ?_ hok hE fun id hid => .inl hid)
  refine ⟨_, _, rfl, grownCap_ge w b.size 0 e, ?_⟩
  refine .inr ⟨w.heap.size, 0, rfl, .inr rfl, VRc_get.2 fun j d hj => ?_⟩
  have hjl : j < b.size := by
    have := (List.getElem?_eq_some_iff.1 hj).1
    simpa [pb] using this
  have hcell := Lib.bytesWorld_cell w e b j hjl
  rw [Nat.zero_add]
  refine ⟨_, hcell, ?_⟩
  have hjl' : j < b.data.toList.length := by simpa using hjl
  simp only [pb, List.getElem?_map, List.getElem?_eq_getElem hjl', Option.map_some, Option.some.injEq] at hj
  subst hj
  refine ⟨?_, rfl⟩
  simp [List.getD_eq_getElem?_getD, List.getElem?_eq_getElem hjl']

/-! ### copy -/
theorem snd_copy {sz : Nat} {x y : Opd} {x' y' : Operand} {t u : TypeId} (ho : o.op = .call { callee := .builtin .copy, args := #[x', y'], argTypes := #[t, u] }) (hx : x.fits x' = true) (hy : y.fits y' = true) (hf : idxaFits P t sz = true) (wf : s.wf)
    (h : (AOp.copy sz x y).eff P s K) : ∃ e, Does P o (x.looks ++ y.looks) s e ∧ K e := by
  obtain ⟨e, hu, hsz⟩ := idxaFits_some hf
  obtain ⟨d, hd, h⟩ := asC_some h
  obtain ⟨v, hvv, h⟩ := asC_some h
  obtain ⟨m, cs, rd, h, hl, hrd, hsrc⟩ := cellsOf_some wf h
  cases d with
  | ref id off n z =>
    have h := andN_iff.1 h
    obtain ⟨rfl, h⟩ := h
    obtain ⟨ob, hob, hle, hK⟩ := someL_some h
    refine ⟨_, ?_, hK⟩
    intro X w a h0 K Q he ok hacc hfr hk
    have hdv := ev_sound (w := w) (X := X) (a := a) hx (fun t ht => he t (by simp [ht])) hd
    have hsv := ev_sound (w := w) (X := X) (a := a) hy (fun t ht => he t (by simp [ht])) hvv
    obtain ⟨A, cap, hp, hn, hA⟩ := hsrc X w h0 _ ok (fun i hi hlt => hacc i (by simp [Eff.acc, hi]) hlt) hsv
    have hid : h0 id = some ob := by rw [hacc id (by simp [Eff.acc]) (wf id ob hob)]; exact hob
    obtain ⟨hdm, hdv⟩ := hdv
    have hmin : Nat.min m n = min m n := rfl
    -- nothing is copied
    have none_ : min m n = 0 → ∀ D dc, a.eval x' = .slice D n dc → (∀ ad, D = some ad → ad.spot = none) →
        (execOp a.eval o).run P w = .ok (.value (.int .i64 (0 : Nat))) w := by
      intro h0' D dc hdp hsp
      have hfc : (Builtin.firstCells z 0 (a.eval y')).run P w = .ok #[] w := by
        rw [hp]
        cases A with
        | none => rfl
        | some ad => simp [Builtin.firstCells, loadCells, loadCellsFrom]
      have hlen : (Builtin.lenOf (a.eval y')).run P w = .ok m w := by rw [hp]; rfl
      cases D with
      | none => simp [execOp, ho, resolve, invoke, builtin, hdp, Builtin.copy_, run_underlying hu, hlen, run_sizeOf' hsz, hmin, h0', hfc, goInt]
      | some ad => simp [execOp, ho, resolve, invoke, builtin, hdp, Builtin.copy_, run_underlying hu, hlen, run_sizeOf' hsz, hmin, h0', hfc, goInt, storeCells]
    have same : min m n = 0 → (h0.upd [(id, some ⟨ob.e, ob.xs.take off ++ cs.take (min m n * z) ++ ob.xs.drop (off + min m n * z)⟩)]) = h0 := by
      intro h0'
      funext i
      simp only [Hp.upd, Hp.set, h0']
      split
      · rename_i hi; subst hi; rw [hid]; simp
      · rfl
    rcases hdv with ⟨hmu, rfl, hdp⟩ | ⟨b, off', dcap, hmu, hdp, hdn, hdcm, hoff, hcc⟩
    · have hm0 : min m 0 = 0 := by omega
      have hr := none_ hm0 _ _ hdp (by simp)
      refine wp_value hr (hk _ _ X ⟨by rw [hm0], rfl⟩ ?_ ?_ fun i hi => .inl hi)
      · rw [same hm0]; exact ok
      · rw [same hm0]; exact Evol.refl _ _ _
    · rcases Nat.eq_zero_or_pos (min m n) with hm0 | hm0
      · have hr := none_ hm0 _ _ hdp (by simp)
        refine wp_value hr (hk _ _ X ⟨by rw [hm0], rfl⟩ ?_ ?_ fun i hi => .inl hi)
        · rw [same hm0]; exact ok
        · rw [same hm0]; exact Evol.refl _ _ _
      · have hoff' : off' = off := by rcases hoff with h4 | h4 <;> omega
        subst hoff'
        obtain ⟨b2, q, rfl, hc⟩ : ∃ b q, A = some ⟨b, q, none⟩ ∧ CellsAt w X b q cs := by
          rcases hA with ⟨_, h5⟩ | ⟨h5, _⟩ | h5
          · omega
          · omega
          · exact h5
        obtain ⟨us, hul, huc, huv⟩ := (hc.takeN (min m n * z)).vals
        have hk1 : min m n * z ≤ m * z := Nat.mul_le_mul_right _ (by omega)
        have hk2 : min m n * z ≤ n * z := Nat.mul_le_mul_right _ (by omega)
        have hlen : us.length = min m n * z := by rw [hul, List.length_take, hl]; omega
        have hload := run_loadCells_list (P := P) w ⟨b2, q, none⟩ us fun j v hj => by rw [Addr.add_lit]; exact huc j v hj
        rw [hlen] at hload
        obtain ⟨c, hcb, hcl, hcv⟩ := (ok.obj id ob hid).row hmu
        have hst := run_storeCells_at P b off' ob.e us 0 c w hcb (by rw [hlen]; omega) huv.one
        simp only [Nat.add_zero, hlen] at hst
        have hlen2 : ((c.toList.take off' ++ us ++ c.toList.drop (off' + min m n * z)).toArray).size = c.size := by simp; omega
        obtain ⟨h1, h2⟩ := ok.write hid hmu hcb hlen2 (xs := ob.xs.take off' ++ cs.take (min m n * z) ++ ob.xs.drop (off' + min m n * z)) (by rw [hlen2]; simp; omega) (by
          have e1 : (ob.xs.take off' ++ cs.take (min m n * z) ++ ob.xs.drop (off' + min m n * z)).length = ob.xs.length := by simp; omega
          rw [e1]
          have e2 : (c.toList.take off' ++ us ++ c.toList.drop (off' + min m n * z)).take ob.xs.length = (c.toList.take ob.xs.length).take off' ++ us ++ (c.toList.take ob.xs.length).drop (off' + min m n * z) := by
            rw [List.take_append, List.take_append, List.take_take, List.drop_take]
            have e4 : (c.toList.take off').length = off' := by simp; omega
            congr 1
            · congr 1
              · rw [List.take_take, Nat.min_comm]
              · rw [List.take_of_length_le]; omega
            · congr 1; simp only [List.length_append, hlen, e4]
          simp only []
          rw [e2]
          exact ((hcv.takeN off').append huv).append (hcv.dropN _))
        have hlenS : (Builtin.lenOf (a.eval y')).run P w = .ok m w := by rw [hp]; rfl
        have hfc : (Builtin.firstCells z (min m n) (a.eval y')).run P w = .ok us.toArray w := by rw [hp]; simp [Builtin.firstCells, hload]
        refine wp_value (v := .int .i64 (min m n : Nat)) (w' := w.setRow b (c.toList.take off' ++ us ++ c.toList.drop (off' + min m n * z)).toArray) ?_ (hk _ _ X ⟨rfl, rfl⟩ h1 h2 fun i hi => .inl hi)
        simp [execOp, ho, resolve, invoke, builtin, hdp, Builtin.copy_, run_underlying hu, hlenS, run_sizeOf' hsz, hmin, hfc, goInt, hst]
  | p => exact h.elim
  | ptr => exact h.elim

end
end Go.Proofs.Ytjieenfbfckafaa.Am
/- The operations' effects are the model's: aggregates held against one another cell by cell. -/
namespace Go.Proofs.Ytjieenfbfckafaa.Am
open Go
set_option linter.unusedVariables false
set_option linter.unusedSimpArgs false

theorem toList_inj (x y : ByteArray) : (x.toList == y.toList) = true ↔ x = y := by
  rw [ByteArray.toList_eq, ByteArray.toList_eq, beq_iff_eq]
  constructor
  · intro h
    obtain ⟨x⟩ := x
    obtain ⟨y⟩ := y
    have : x = y := Array.toList_inj.1 h
    rw [this]
  · rintro rfl; rfl

def fitV : CK → Value → Prop
  | .tb, .bool _ => True
  | .ti k, .int k' _ => k' = k
  | .ts, .string _ => True
  | _, _ => False
def fitVs : List CK → List Value → Prop
  | [], [] => True
  | c :: cs, u :: us => fitV c u ∧ fitVs cs us
  | _, _ => False
theorem fitVs.length : ∀ {cs : List CK} {us : List Value}, fitVs cs us → us.length = cs.length
  | [], [], _ => rfl
  | _ :: _, _ :: _, h => by simp [fitVs.length h.2]
  | [], _ :: _, h => h.elim
  | _ :: _, [], h => h.elim
theorem fitVs.split : ∀ {a b : List CK} {us : List Value}, fitVs (a ++ b) us → fitVs a (us.take a.length) ∧ fitVs b (us.drop a.length)
  | [], b, us, h => by simpa [fitVs] using h
  | c :: a, b, u :: us, h => by
    obtain ⟨h1, h2⟩ := fitVs.split (a := a) (b := b) (us := us) h.2
    exact ⟨⟨h.1, by simpa using h1⟩, by simpa using h2⟩
  | c :: a, b, [], h => h.elim

section
variable {P : Program}

mutual
/-- The kinds of a type's cells, where '==' compares them one by one. -/
def flatCK (P : Program) : Nat → TypeId → Option (List CK)
  | 0, _ => none
  | d + 1, t =>
    match P.underlying t with
    | some .bool => some [.tb]
    | some (.int k) => some [.ti k]
    | some .string => some [.ts]
    | some (.struct fs) => if P.stoodInHeld t then none else flatFs P d 0 fs.toList
    | some (.array n e) =>
      match flatCK P d e with
      | some l => if (P.info? e).map (·.size) = some l.length then some ((List.replicate n l).flatten) else none
      | none => none
    | _ => none
def flatFs (P : Program) : Nat → Nat → List Field → Option (List CK)
  | _, _, [] => some []
  | 0, _, _ :: _ => none
  | d + 1, off, f :: fs =>
    match flatCK P d f.type, flatFs P d (off + ((flatCK P d f.type).getD []).length) fs with
    | some l, some r => if f.name ≠ "_" ∧ f.offset = off ∧ (P.info? f.type).map (·.size) = some l.length then some (l ++ r) else none
    | _, _ => none
end

/-- A value as the cells of its type. -/
def AtT (P : Program) (t : TypeId) (a : Value) (us : List Value) : Prop := (aggOf P t = true ∧ a = .agg us.toArray) ∨ (aggOf P t = false ∧ us = [a])

theorem part_flat {t : TypeId} {l : List CK} {w : World} {xs : Array Value} {off : Nat} (hu : (P.underlying t).isSome = true) (hs : (P.info? t).map (·.size) = some l.length) (h1 : aggOf P t = false → l.length = 1)
    (hf : fitVs l ((xs.toList.drop off).take l.length)) : ∃ a, (part t xs off).run P w = .ok a w ∧ AtT P t a ((xs.toList.drop off).take l.length) := by
  cases ha : aggOf P t with
  | true =>
    have hsz : szFits P t (some l.length) = true := by simp [szFits, ha, hs]
    refine ⟨.agg (xs.extract off (off + l.length)), ?_, .inl ⟨ha, ?_⟩⟩
    · simp [part, run_isAgg' hsz, run_sizeOf' hs]
    · congr 1
      apply Array.ext'
      simp [Array.toList_extract, List.extract_eq_take_drop]
  | false =>
    have hsz : szFits P t none = true := by simp [szFits, ha, hu]
    have hl := h1 ha
    have hlen := hf.length
    rw [hl] at hlen hf ⊢
    have hlt : off < xs.toList.length := by simp at hlen ⊢; omega
    have hcs : xs[off]? = some xs.toList[off] := by simp at hlt; simp [hlt]
    refine ⟨xs.toList[off], ?_, .inr ⟨ha, ?_⟩⟩
    · simp only [part, Sem.run_bind, run_isAgg' hsz, Result.andThen_ok, Option.isSome_none, Bool.false_eq_true, if_false, hcs, Sem.run_pure]
    · rw [List.drop_eq_getElem_cons hlt]
      rfl

theorem flatCK_under {d : Nat} {t : TypeId} {l : List CK} (h : flatCK P d t = some l) : (P.underlying t).isSome = true ∧ (aggOf P t = false → l.length = 1) := by
  cases d with
  | zero => simp [flatCK] at h
  | succ d =>
    unfold flatCK at h
    split at h
    · rename_i hu; simp only [Option.some.injEq] at h; subst h; simp [hu]
    · rename_i k hu; simp only [Option.some.injEq] at h; subst h; simp [hu]
    · rename_i hu; simp only [Option.some.injEq] at h; subst h; simp [hu]
    · rename_i fs hu; simp [hu, aggOf]
    · rename_i n e hu; simp [hu, aggOf]
    · cases h

theorem eq_take_drop {a b : List Value} {n : Nat} (h : a.length = b.length) : a = b ↔ a.take n = b.take n ∧ a.drop n = b.drop n := by
  constructor
  · rintro rfl; exact ⟨rfl, rfl⟩
  · rintro ⟨h1, h2⟩
    rw [← List.take_append_drop n a, ← List.take_append_drop n b, h1, h2]

/-- '==' on a type of this kind. -/
def EqFlat (P : Program) (D : Nat) (t : TypeId) (l : List CK) : Prop :=
  ∀ (w : World) (a b : Value) (us vs : List Value), AtT P t a us → AtT P t b vs → fitVs l us → fitVs l vs → ∃ r : Bool, (Op.equalIn D t a b).run P w = .ok r w ∧ (r = true ↔ us = vs)

theorem eqItems_flat {D : Nat} {e : TypeId} {l : List CK} (IH : EqFlat P D e l) (hu : (P.underlying e).isSome = true) (hs : (P.info? e).map (·.size) = some l.length) (h1 : aggOf P e = false → l.length = 1) (w : World) (xs ys : Array Value) :
    ∀ (n k : Nat), fitVs ((List.replicate n l).flatten) (xs.toList.drop (k * l.length)) → fitVs ((List.replicate n l).flatten) (ys.toList.drop (k * l.length)) →
      ∃ r : Bool, (Op.eqItems D e l.length xs ys (List.range' k n)).run P w = .ok r w ∧ (r = true ↔ xs.toList.drop (k * l.length) = ys.toList.drop (k * l.length))
  | 0, k, hx, hy => by
    have ex := hx.length
    have ey := hy.length
    simp only [List.replicate_zero, List.flatten_nil, List.length_nil] at ex ey
    refine ⟨true, by simp [Op.eqItems], ?_⟩
    simp [List.eq_nil_of_length_eq_zero ex, List.eq_nil_of_length_eq_zero ey]
  | n + 1, k, hx, hy => by
    rw [List.replicate_succ, List.flatten_cons] at hx hy
    have ex := hx.length
    have ey := hy.length
    obtain ⟨x1, x2⟩ := hx.split
    obtain ⟨y1, y2⟩ := hy.split
    obtain ⟨a, p1, q1⟩ := part_flat (w := w) hu hs h1 x1
    obtain ⟨b, p2, q2⟩ := part_flat (w := w) hu hs h1 y1
    obtain ⟨r, hr, hiff⟩ := IH w a b _ _ q1 q2 x1 y1
    rw [List.drop_drop, ← Nat.succ_mul] at x2 y2
    obtain ⟨r', hr', hiff'⟩ := eqItems_flat IH hu hs h1 w xs ys n (k + 1) x2 y2
    have hsplit := eq_take_drop (n := l.length) (a := xs.toList.drop (k * l.length)) (b := ys.toList.drop (k * l.length)) (by rw [ex, ey])
    rw [List.drop_drop, List.drop_drop, ← Nat.succ_mul] at hsplit
    rw [List.range'_succ]
    simp only [Op.eqItems, Sem.run_bind, p1, p2, hr, Result.andThen_ok]
    cases r
    · refine ⟨false, by simp, ?_⟩
      rw [hsplit, ← hiff]; simp
    · refine ⟨r', by simpa using hr', ?_⟩
      rw [hsplit, ← hiff, hiff']; simp

theorem eqFields_flat {D : Nat} (w : World) (xs ys : Array Value) : ∀ (d off : Nat) (fs : List Field) (l : List CK), flatFs P d off fs = some l →
    (∀ d' t l, d' < d → flatCK P d' t = some l → EqFlat P D t l) → fitVs l (xs.toList.drop off) → fitVs l (ys.toList.drop off) →
      ∃ r : Bool, (Op.eqFields D xs ys fs).run P w = .ok r w ∧ (r = true ↔ xs.toList.drop off = ys.toList.drop off)
  | d, off, [], l, h, IH, hx, hy => by
    have hl : l = [] := by cases d <;> simp [flatFs] at h <;> exact h
    subst hl
    have ex := hx.length
    have ey := hy.length
    refine ⟨true, by simp [Op.eqFields], ?_⟩
    simp [List.eq_nil_of_length_eq_zero ex, List.eq_nil_of_length_eq_zero ey]
  | 0, off, f :: fs, l, h, IH, hx, hy => by simp [flatFs] at h
  | d + 1, off, f :: fs, l, h, IH, hx, hy => by
    unfold flatFs at h
    split at h
    · rename_i l1 l2 hl1 hl2
      split at h
      · rename_i hc
        obtain ⟨hn, hoff, hs⟩ := hc
        simp only [Option.some.injEq] at h
        subst h
        rw [hl1] at hl2
        simp only [Option.getD_some] at hl2
        have ex := hx.length
        have ey := hy.length
        obtain ⟨x1, x2⟩ := hx.split
        obtain ⟨y1, y2⟩ := hy.split
        obtain ⟨hu, h1⟩ := flatCK_under hl1
        subst hoff
        obtain ⟨a, p1, q1⟩ := part_flat (w := w) hu hs h1 x1
        obtain ⟨b, p2, q2⟩ := part_flat (w := w) hu hs h1 y1
        obtain ⟨r, hr, hiff⟩ := IH d f.type l1 (Nat.lt_succ_self d) hl1 w a b _ _ q1 q2 x1 y1
        rw [List.drop_drop] at x2 y2
        obtain ⟨r', hr', hiff'⟩ := eqFields_flat w xs ys d _ fs l2 hl2 (fun d' t l hd hl => IH d' t l (Nat.lt_succ_of_lt hd) hl) x2 y2
        have hsplit := eq_take_drop (n := l1.length) (a := xs.toList.drop f.offset) (b := ys.toList.drop f.offset) (by rw [ex, ey])
        rw [List.drop_drop, List.drop_drop] at hsplit
        simp only [Op.eqFields, hn, ne_eq, not_false_eq_true, if_true, Sem.run_bind, p1, p2, hr, Result.andThen_ok]
        cases r
        · refine ⟨false, by simp, ?_⟩
          rw [hsplit, ← hiff]; simp
        · refine ⟨r', by simpa using hr', ?_⟩
          rw [hsplit, ← hiff, hiff']; simp
      · cases h
    · cases h

theorem eqFlat : ∀ (d D : Nat) (t : TypeId) (l : List CK), flatCK P d t = some l → EqFlat P (D + d) t l
  | 0, D, t, l, h => by simp [flatCK] at h
  | d + 1, D, t, l, h => by
    intro w a b us vs ha hb hx hy
    unfold flatCK at h
    split at h
    · rename_i hu
      have hag : aggOf P t = false := by simp [aggOf, hu]
      simp only [Option.some.injEq] at h; subst h
      rcases ha with ⟨h1, _⟩ | ⟨_, rfl⟩
      · rw [hag] at h1; cases h1
      rcases hb with ⟨h1, _⟩ | ⟨_, rfl⟩
      · rw [hag] at h1; cases h1
      cases a <;> simp [fitVs, fitV] at hx
      cases b <;> simp [fitVs, fitV] at hy
      rename_i x y
      exact ⟨x == y, run_equalIn_bool' w (D + d) t x y hu, by simp⟩
    · rename_i k hu
      have hag : aggOf P t = false := by simp [aggOf, hu]
      simp only [Option.some.injEq] at h; subst h
      rcases ha with ⟨h1, _⟩ | ⟨_, rfl⟩
      · rw [hag] at h1; cases h1
      rcases hb with ⟨h1, _⟩ | ⟨_, rfl⟩
      · rw [hag] at h1; cases h1
      cases a <;> simp [fitVs, fitV] at hx
      cases b <;> simp [fitVs, fitV] at hy
      rename_i k1 x k2 y
      subst hx; subst hy
      exact ⟨x == y, run_equalIn_int w (D + d) t _ _ x y hu, by simp⟩
    · rename_i hu
      have hag : aggOf P t = false := by simp [aggOf, hu]
      simp only [Option.some.injEq] at h; subst h
      rcases ha with ⟨h1, _⟩ | ⟨_, rfl⟩
      · rw [hag] at h1; cases h1
      rcases hb with ⟨h1, _⟩ | ⟨_, rfl⟩
      · rw [hag] at h1; cases h1
      cases a <;> simp [fitVs, fitV] at hx
      cases b <;> simp [fitVs, fitV] at hy
      rename_i x y
      refine ⟨x.toList == y.toList, run_equalIn_string w (D + d) t x y hu, ?_⟩
      rw [toList_inj x y]; simp
    · rename_i fs hu
      split at h
      · cases h
      · rename_i hp
        have hag : aggOf P t = true := by simp [aggOf, hu]
        rcases ha with ⟨_, rfl⟩ | ⟨h1, _⟩
        rotate_left
        · rw [hag] at h1; cases h1
        rcases hb with ⟨_, rfl⟩ | ⟨h1, _⟩
        rotate_left
        · rw [hag] at h1; cases h1
        have hfs : P.fieldsOf t = fs := by simp [Program.fieldsOf, hu]
        have hp : P.stoodInHeld t = false := by simpa using hp
        obtain ⟨r, hr, hiff⟩ := eqFields_flat (P := P) (D := D + d) w us.toArray vs.toArray d 0 fs.toList l h (fun d' t' l' hd hl => by
          have e : D + d = (D + (d - d')) + d' := by omega
          rw [e]
          exact eqFlat d' (D + (d - d')) t' l' hl) (by simpa using hx) (by simpa using hy)
        refine ⟨r, ?_, by simpa using hiff⟩
        rw [← Nat.add_assoc, run_equalIn_struct w (D + d) t _ _ (by rw [hfs]; exact hu) hp, hfs]
        exact hr
    · rename_i n e hu
      split at h
      · rename_i l1 hl1
        split at h
        · rename_i hs
          simp only [Option.some.injEq] at h
          subst h
          have hag : aggOf P t = true := by simp [aggOf, hu]
          rcases ha with ⟨_, rfl⟩ | ⟨h1, _⟩
          rotate_left
          · rw [hag] at h1; cases h1
          rcases hb with ⟨_, rfl⟩ | ⟨h1, _⟩
          rotate_left
          · rw [hag] at h1; cases h1
          obtain ⟨i, hi, his⟩ := Option.map_eq_some_iff.1 hs
          have hc : P.cellsOf e = l1.length := by simp [Program.cellsOf, hi, his]
          obtain ⟨hu1, h1⟩ := flatCK_under hl1
          obtain ⟨r, hr, hiff⟩ := eqItems_flat (eqFlat d D e l1 hl1) hu1 hs h1 w us.toArray vs.toArray n 0 (by simpa using hx) (by simpa using hy)
          refine ⟨r, ?_, by simpa using hiff⟩
          rw [← Nat.add_assoc, run_equalIn_array w (D + d) _ _ hu hi, hc, List.range_eq_range']
          exact hr
        · cases h
      · cases h
    · cases h

variable {o : Oper} {s : S} {K : Eff → Prop}

def expand : List (Nat × CK) → List CK
  | [] => []
  | (n, c) :: r => List.replicate n c ++ expand r

theorem fit_one {w : World} {X : Ctx} {c : CK} {d : DV} {u : Value} (h : fitCK c d) (hv : VRd w X d u) : fitV c u ∧ d = .p (.v u) := by
  cases d with
  | p x =>
    cases x with
    | v v =>
      obtain ⟨rfl, _⟩ := hv
      refine ⟨?_, rfl⟩
      cases c <;> cases u <;> simp_all [fitCK, fitV]
    | _ => cases c <;> exact h.elim
  | _ => cases c <;> exact h.elim

theorem fit_all {w : World} {X : Ctx} : ∀ (cks : List (Nat × CK)) (ds : List DV) (us : List Value), fitCKs cks ds → VRds w X ds us → fitVs (expand cks) us ∧ ds = us.map fun u => .p (.v u)
  | [], ds, us, h, hv => by
    have h : ds = [] := h
    subst h
    have := hv.1
    have hu : us = [] := List.eq_nil_of_length_eq_zero (by simpa using this.symm)
    subst hu
    exact ⟨trivial, rfl⟩
  | (n, c) :: r, ds, us, ⟨h1, h2, h3⟩, hv => by
    obtain ⟨h4, h5⟩ := fit_all r (ds.drop n) (us.drop n) h3 (hv.dropN n)
    have key : ∀ (n : Nat) (as : List DV) (bs : List Value), as.length = n → (∀ d ∈ as, fitCK c d) → VRds w X as bs → fitVs (List.replicate n c) bs ∧ as = bs.map fun u => .p (.v u) := by
      intro n
      induction n with
      | zero =>
        intro as bs hl _ hv
        have ha : as = [] := List.eq_nil_of_length_eq_zero hl
        subst ha
        have hb : bs = [] := List.eq_nil_of_length_eq_zero (by simpa using hv.1.symm)
        subst hb
        exact ⟨trivial, rfl⟩
      | succ n ih =>
        intro as bs hl hfit hv
        cases as with
        | nil => simp at hl
        | cons a as =>
          cases bs with
          | nil => have := hv.1; simp at this
          | cons b bs =>
            obtain ⟨e1, e2⟩ := fit_one (hfit a (by simp)) (hv.2 0 a b rfl rfl)
            obtain ⟨e3, e4⟩ := ih as bs (by simpa using hl) (fun d hd => hfit d (by simp [hd])) ⟨by simpa using hv.1, fun j d u hd hu => hv.2 (j + 1) d u (by simpa using hd) (by simpa using hu)⟩
            exact ⟨⟨e1, e3⟩, by rw [List.map_cons, ← e4, ← e2]⟩
    obtain ⟨h6, h7⟩ := key n (ds.take n) (us.take n) (by simp; omega) h2 (hv.takeN n)
    constructor
    · have hjoin : ∀ (a b : List CK) (x y : List Value), fitVs a x → fitVs b y → fitVs (a ++ b) (x ++ y) := by
        intro a
        induction a with
        | nil => intro b x y hx hy; cases x with
                  | nil => simpa using hy
                  | cons => exact hx.elim
        | cons c a ih => intro b x y hx hy; cases x with
                  | nil => exact hx.elim
                  | cons u x => exact ⟨hx.1, ih b x y hx.2 hy⟩
      have := hjoin _ _ _ _ h6 h4
      rwa [List.take_append_drop] at this
    · conv => lhs; rw [← List.take_append_drop n ds, h7, h5]
      rw [← List.map_append, List.take_append_drop]

def eqaFits (P : Program) (t : TypeId) (cks : List (Nat × CK)) : Bool :=
  (match flatCK P 60 t with | some l => sameCKs l (expand cks) | none => false) && aggOf P t && !P.eqGuardType P.depth t
where
  sameCK : CK → CK → Bool
    | .tb, .tb => true
    | .ti k, .ti k' => decide (k = k')
    | .ts, .ts => true
    | _, _ => false
  sameCKs : List CK → List CK → Bool
    | [], [] => true
    | a :: as, b :: bs => sameCK a b && sameCKs as bs
    | _, _ => false
theorem sameCKs_eq : ∀ {a b : List CK}, eqaFits.sameCKs a b = true → a = b
  | [], [], _ => rfl
  | x :: a, y :: b, h => by
    simp only [eqaFits.sameCKs, Bool.and_eq_true] at h
    rw [sameCKs_eq h.2]
    congr 1
    cases x <;> cases y <;> simp_all [eqaFits.sameCK]
  | [], _ :: _, h => by simp [eqaFits.sameCKs] at h
  | _ :: _, [], h => by simp [eqaFits.sameCKs] at h

theorem snd_eqa {neq : Bool} {cks : List (Nat × CK)} {x y : Opd} {x' y' : Operand} {t u : TypeId} (ho : o.op = .binOp (if neq then .neq else .eql) t x' y' u) (hf : eqaFits P t cks = true) (hx : x.fits x' = true) (hy : y.fits y' = true)
    (h : (AOp.eqa neq cks x y).eff P s K) : ∃ e, Does P o (x.looks ++ y.looks) s e ∧ K e := by
  classical
  obtain ⟨xs, hxs, h⟩ := asA_some h
  obtain ⟨ys, hys, h1, h2, h⟩ := asA_some h
  have h := h (decide (xs = ys)) (by simp)
  refine pure_v rfl h (fun X w a he => ?_) |>.imp fun e h => ⟨h.1, h.2.2⟩
  obtain ⟨us, hp, hus⟩ := ev_sound (w := w) (X := X) (a := a) hx (fun t ht => he t (by simp [ht])) hxs
  obtain ⟨vs, hq, hvs⟩ := ev_sound (w := w) (X := X) (a := a) hy (fun t ht => he t (by simp [ht])) hys
  simp only [eqaFits, Bool.and_eq_true, Bool.not_eq_true'] at hf
  obtain ⟨⟨hl, hag⟩, hg⟩ := hf
  split at hl
  · rename_i l hflat
    have hl := sameCKs_eq hl
    subst hl
    obtain ⟨f1, g1⟩ := fit_all cks xs us.toList h1 hus
    obtain ⟨f2, g2⟩ := fit_all cks ys vs.toList h2 hvs
    obtain ⟨r, hr, hiff⟩ := eqFlat (P := P) 60 9940 t (expand cks) hflat w (.agg us) (.agg vs) us.toList vs.toList (.inl ⟨hag, by simp⟩) (.inl ⟨hag, by simp⟩) f1 f2
    have hrd : r = decide (xs = ys) := by
      rw [Bool.eq_iff_iff, hiff, decide_eq_true_eq]
      constructor
      · intro e; rw [g1, g2, e]
      · intro e
        rw [g1, g2] at e
        have hinj : ∀ (a b : List Value), a.map (fun u => DV.p (.v u)) = b.map (fun u => DV.p (.v u)) → a = b := fun a b h => by
          have := congrArg (List.map fun d => match d with | DV.p (.v u) => u | _ => undef) h
          simpa [List.map_map, Function.comp_def] using this
        exact hinj _ _ e
    rw [← hrd]
    have hgu := run_eqGuard_agg (P := P) w (if neq = true then .neq else .eql) t x' y' us vs hg
    cases neq
    · simp only [Bool.false_eq_true, if_false] at ho hgu ⊢
      simp only [execOp, ho, hp, hq, Sem.run_bind, hgu, Result.andThen_ok, run_eql_struct, hr, Sem.run_pure]
    · simp only [if_true] at ho hgu ⊢
      simp only [execOp, ho, hp, hq, Sem.run_bind, hgu, Result.andThen_ok, run_neq_struct, hr, Sem.run_pure]
  · cases hl

end
end Go.Proofs.Ytjieenfbfckafaa.Am
/- The operations' effects are the model's: append. -/
namespace Go.Proofs.Ytjieenfbfckafaa.Am
open Go
set_option linter.unusedVariables false
set_option linter.unusedSimpArgs false

section
variable {P : Program} {o : Oper} {s : S} {K : Eff → Prop}

/-- An object of which less is known. -/
theorem HeapOk.less {w : World} {X : Ctx} {h : Hp} (ok : HeapOk w X h) {id : Nat} {ob : Ob} (ho : h id = some ob) (k : Nat) : HeapOk w X (h.set id ⟨ob.e, ob.xs.take k⟩) ∧ Evol X w h X w (h.set id ⟨ob.e, ob.xs.take k⟩) := by
  have hh : ∀ i x, h.set id ⟨ob.e, ob.xs.take k⟩ i = some x → ∃ y, h i = some y := by
    intro i x hx
    rcases Hp.set_some hx with ⟨rfl, rfl⟩ | ⟨hi, hx⟩
    · exact ⟨_, ho⟩
    · exact ⟨_, hx⟩
  refine ⟨⟨?_, ?_, ?_, ok.ilt⟩, ⟨rfl, rfl, rfl, Nat.le_refl _, fun _ _ _ => rfl, fun _ _ => rfl, fun _ hd => ⟨hd, rfl⟩, fun _ hb => hb, fun _ hb => .inl hb, ?_⟩⟩
  · intro i x hx
    rcases Hp.set_some hx with ⟨rfl, rfl⟩ | ⟨hi, hx⟩
    · obtain ⟨h1, h2⟩ := ok.obj _ _ ho
      refine ⟨h1, ?_⟩
      cases hm : X.mu i with
      | none => rw [hm] at h2; simp [h2]
      | some b =>
        rw [hm] at h2
        obtain ⟨c, h3, h4, h5⟩ := h2
        refine ⟨c, h3, by simp; omega, fun j d u hd hu => ?_⟩
        simp only [List.getElem?_take] at hd
        split at hd
        · exact h5 j d u hd hu
        · cases hd
    · exact ok.obj i x hx
  · intro i j x y b hi hj
    obtain ⟨x', hi⟩ := hh i x hi
    obtain ⟨y', hj⟩ := hh j y hj
    exact ok.inj i j x' y' b hi hj
  · intro i x b hi
    obtain ⟨x', hi⟩ := hh i x hi
    exact ok.notI i x' b hi
  · intro i x b hi hm
    obtain ⟨x', hi⟩ := hh i x hi
    exact .inr ⟨i, x', hi, hm⟩

theorem Hp.del_set (h : Hp) (id : Nat) (o : Ob) : (h.set id o).del id = h.del id := by
  funext i
  simp only [Hp.del, Hp.set]
  split <;> rfl

/-- A new row behind a draw. -/
theorem HeapOk.grow {w : World} {X : Ctx} {h : Hp} (ok : HeapOk w X h) {id : Nat} (hid : ¬ X.dm id) {c : Array Value} {e : TypeId} {xs : List DV} (hc : VRds w X xs (c.toList.take xs.length)) (hle : xs.length ≤ c.size) :
    HeapOk (w.drew.alloc (.cells c e)) (X.name id (some w.heap.size)) (h.set id ⟨e, xs⟩) ∧ Evol X w h (X.name id (some w.heap.size)) (w.drew.alloc (.cells c e)) (h.set id ⟨e, xs⟩) := by
  have h1 := ok.drew
  have hc' : VRds w.drew X xs (c.toList.take xs.length) := VRds.mono (w := w) (X := X) (v := w.drew) (Y := X) ⟨fun _ h => h, fun _ _ => rfl, fun _ h => ⟨h, rfl⟩, fun _ _ => rfl⟩ hc
  obtain ⟨h2, h3⟩ := h1.new hid (e := e) hc' hle
  exact ⟨h2, (Evol.drew X w h).trans h3⟩

def appFits (P : Program) (t : TypeId) (e sz bytes : Nat) : Bool :=
  sliceOf P t e && (match P.info? e with
    | some i => decide (i.size = sz) && decide (i.bytes = bytes) && (match i.zero with | some z => decide (z.cells.size = sz) | none => false)
    | none => false) && decide (0 < sz)
theorem appFits_some {t : TypeId} {e sz bytes : Nat} (h : appFits P t e sz bytes = true) : P.underlying t = some (.slice e) ∧ 0 < sz ∧ ∃ i z, P.info? e = some i ∧ i.zero = some z ∧ i.size = sz ∧ i.bytes = bytes ∧ z.cells.size = sz := by
  simp only [appFits, Bool.and_eq_true, decide_eq_true_eq] at h
  obtain ⟨⟨h1, h2⟩, h3⟩ := h
  refine ⟨sliceOf_some h1, h3, ?_⟩
  split at h2
  · rename_i i hi
    simp only [Bool.and_eq_true, decide_eq_true_eq] at h2
    obtain ⟨⟨h4, h5⟩, h6⟩ := h2
    split at h6
    · rename_i z hz
      exact ⟨i, z, hi, hz, h4, h5, by simpa using h6⟩
    · cases h6
  · cases h2

/-- What an append does, to nil and to an object of the call's own. -/
def AppDone (P : Program) (w : World) (X : Ctx) (h0 : Hp) (t u : TypeId) (ty : TypeId) (e sz bytes nw : Nat) (src : Value) (m : Nat) (cs : List DV) : Prop :=
    (m * bytes ≤ 140737488355328 → m ≤ 140737488355328 → ∃ v' w' X', (Builtin.append_ #[t, u] ty #[.slice none 0 0, src]).run P w = .ok v' w' ∧ TVR w' X' (.c (.ref nw 0 m sz)) v' ∧ HeapOk w' X' (h0.set nw ⟨e, cs⟩) ∧ Evol X w h0 X' w' (h0.set nw ⟨e, cs⟩) ∧ ∀ i, X'.dm i → X.dm i ∨ i = nw) ∧
    (∀ id n ob, h0 id = some ob → n * sz ≤ ob.xs.length → ob.e = e → (n + m) * bytes ≤ 140737488355328 → n + m ≤ 140737488355328 → ∀ v, VRd w X (.ref id 0 n sz) v →
      ∃ v' w' X', (Builtin.append_ #[t, u] ty #[v, src]).run P w = .ok v' w' ∧ TVR w' X' (.c (.ref nw 0 (n + m) sz)) v' ∧ HeapOk w' X' ((h0.del id).set nw ⟨e, ob.xs.take (n * sz) ++ cs⟩) ∧ Evol X w h0 X' w' ((h0.del id).set nw ⟨e, ob.xs.take (n * sz) ++ cs⟩) ∧ ∀ i, X'.dm i → X.dm i ∨ i = nw)

/-- What an append does: of the row that is appended to only the cells in use are asked; the source's cells as they are read. -/
theorem append_core {w : World} {X : Ctx} {h0 : Hp} (ok : HeapOk w X h0) {t u e sz bytes : Nat} {ty : TypeId} {nw : Nat} (hid : ¬ X.dm nw) (hf : appFits P t e sz bytes = true)
    (src : Value) (m : Nat) (us : List Value) (cs : List DV) (hlen : us.length = m * sz) (hcs : VRds w X cs us)
    (runNil : 0 < m → m * bytes ≤ 140737488355328 → m ≤ 140737488355328 → ∃ z : Value, z.cells.size = sz ∧ (Builtin.append_ #[t, u] ty #[.slice none 0 0, src]).run P w =
      .ok (.slice (some ⟨w.heap.size, 0, none⟩) m (grownCap w m 0 e)) (w.drew.alloc (.cells (us.toArray ++ Builtin.zeroCells z.cells (grownCap w m 0 e - m)) e)))
    (runSame : m = 0 → ∀ A n cap, n ≤ cap → (∀ ad, A = some ad → True) → (Builtin.append_ #[t, u] ty #[.slice A n cap, src]).run P w = .ok (.slice A n cap) w)
    (runRoom : ∀ g n cap cur, 0 < m → w.heap[g]? = some (.cells cur e (0, 0)) → n + m ≤ cap → n * sz + m * sz ≤ cur.size → (Builtin.append_ #[t, u] ty #[.slice (some ⟨g, 0, none⟩) n cap, src]).run P w =
      .ok (.slice (some ⟨g, 0, none⟩) (n + m) cap) (w.setRow g (cur.toList.take (n * sz) ++ us ++ cur.toList.drop (n * sz + m * sz)).toArray))
    (runGrow : ∀ (b : Addr) n cap (olds : List Value), 0 < m → olds.length = n * sz → (∀ (j : Nat) v, olds[j]? = some v → w.cell? (b.add j) = some v) → cap < n + m → (n + m) * bytes ≤ 140737488355328 → n + m ≤ 140737488355328 → ∃ z : Value, z.cells.size = sz ∧
      (Builtin.append_ #[t, u] ty #[.slice (some b) n cap, src]).run P w =
        .ok (.slice (some ⟨w.heap.size, 0, none⟩) (n + m) (grownCap w (n + m) cap e)) (w.drew.alloc (.cells (olds.toArray ++ us.toArray ++ Builtin.zeroCells z.cells (grownCap w (n + m) cap e - (n + m))) e))) :
    AppDone P w X h0 t u ty e sz bytes nw src m cs := by
  obtain ⟨ht, hsz, _⟩ := appFits_some hf
  have nilCase : ∀ (h1 : Hp), HeapOk w X h1 → Evol X w h0 X w h1 → m * bytes ≤ 140737488355328 → m ≤ 140737488355328 →
      ∃ v' w' X', (Builtin.append_ #[t, u] ty #[.slice none 0 0, src]).run P w = .ok v' w' ∧ TVR w' X' (.c (.ref nw 0 m sz)) v' ∧ HeapOk w' X' (h1.set nw ⟨e, cs⟩) ∧ Evol X w h0 X' w' (h1.set nw ⟨e, cs⟩) ∧ ∀ i, X'.dm i → X.dm i ∨ i = nw := by
    intro h1 ok1 ev1 hb hm
    rcases Nat.eq_zero_or_pos m with h0m | h0m
    · have hr := runSame h0m none 0 0 (Nat.le_refl _) (by simp)
      have hcs0 : cs = [] := List.eq_nil_of_length_eq_zero (by rw [hcs.1, hlen, h0m]; simp)
      subst hcs0
      obtain ⟨h2, h3⟩ := ok1.nil hid e
      refine ⟨_, _, X.name nw none, hr, ⟨Or.inr rfl, Or.inl ⟨Ctx.name_mu_same _ _ _, h0m, rfl⟩⟩, h2, ev1.trans h3, fun i hi => hi⟩
    · obtain ⟨z, hz, hr⟩ := runNil h0m hb hm
      have hge := grownCap_ge w m 0 e
      have hmx := grownCap_le_maxLen w m 0 e (by simp only [maxLen]; omega)
      have hsize : (us.toArray ++ Builtin.zeroCells z.cells (grownCap w m 0 e - m)).size = grownCap w m 0 e * sz := by
        simp only [Array.size_append, List.size_toArray, size_zeroCells, hz, hlen, ← Nat.add_mul]
        congr 1; omega
      have hcl : cs.length = us.length := hcs.1
      have hmul : m * sz ≤ grownCap w m 0 e * sz := Nat.mul_le_mul_right _ hge
      obtain ⟨h2, h3⟩ := ok1.grow hid (c := us.toArray ++ Builtin.zeroCells z.cells (grownCap w m 0 e - m)) (e := e) (xs := cs) (by
        rw [Array.toList_append, hcl]
        simp only [List.take_left]
        exact hcs) (by rw [hsize]; omega)
      refine ⟨_, _, X.name nw (some w.heap.size), hr, ⟨Or.inr rfl, Or.inr ⟨w.heap.size, 0, _, Ctx.name_mu_same _ _ _, rfl, hge, hmx, .inr rfl, ?_⟩⟩, h2, ev1.trans h3, fun i hi => hi⟩
      have hcn := cellCount_of (heap_alloc_new w.drew (.cells (us.toArray ++ Builtin.zeroCells z.cells (grownCap w m 0 e - m)) e))
      simp only [World.size_drew] at hcn
      rw [hcn, hsize]; omega
  refine ⟨fun hb hm => nilCase h0 ok (Evol.refl _ _ _) hb hm, ?_⟩
  intro id n ob hob hn hoe hb hm v hv
  obtain ⟨hdm, hv⟩ := hv
  have hne : id ≠ nw := fun e => hid (e ▸ hdm)
  rcases hv with ⟨hmu, rfl, rfl⟩ | ⟨b, off', cap, hmu, rfl, hncap, hcm, hoff, hcc⟩
  · obtain ⟨hd1, hd2⟩ := ok.del id
    have := nilCase (h0.del id) hd1 hd2 (by simpa using hb) (by simpa using hm)
    simpa using this
  · obtain ⟨c, hcb, hcl, hcv⟩ := (ok.obj id ob hob).row hmu
    have hcnt : cellCount w b = c.size := cellCount_of hcb
    rcases Nat.eq_zero_or_pos m with h0m | h0m
    · have hr := runSame h0m (some ⟨b, off', none⟩) n cap hncap (by simp)
      have hcs0 : cs = [] := List.eq_nil_of_length_eq_zero (by rw [hcs.1, hlen, h0m]; simp)
      subst hcs0
      obtain ⟨h1, h2⟩ := ok.less hob (n * sz)
      obtain ⟨h3, h4⟩ := h1.move (id := id) (id' := nw) (o := ⟨ob.e, ob.xs.take (n * sz)⟩) (by simp [Hp.set]) hid
      rw [Hp.del_set] at h3 h4
      refine ⟨_, _, X.name nw (X.mu id), hr, ⟨Or.inr rfl, Or.inr ⟨b, off', cap, by rw [Ctx.name_mu_same]; exact hmu, by rw [h0m, Nat.add_zero], by omega, hcm, hoff, by omega⟩⟩, ?_, ?_, fun i hi => hi⟩
      · rw [List.append_nil, ← hoe]; exact h3
      · rw [List.append_nil, ← hoe]; exact h2.trans h4
    · have hcap0 : n = 0 ∨ 0 < cap := by omega
      by_cases hroom : n + m ≤ cap
      · have hoff0 : off' = 0 := by rcases hoff with h4 | h4 <;> omega
        subst hoff0
        have hmulcap : (n + m) * sz ≤ cap * sz := Nat.mul_le_mul_right _ hroom
        rw [Nat.add_mul] at hmulcap
        have hfit : n * sz + m * sz ≤ c.size := by omega
        have hr := runRoom b n cap c h0m (by rw [← hoe]; exact hcb) hroom hfit
        have hlen2 : ((c.toList.take (n * sz) ++ us ++ c.toList.drop (n * sz + m * sz)).toArray).size = c.size := by simp; omega
        have hxl : (ob.xs.take (n * sz) ++ cs).length = n * sz + m * sz := by simp [hcs.1, hlen]; omega
        obtain ⟨h1, h2⟩ := ok.write hob hmu hcb hlen2 (xs := ob.xs.take (n * sz) ++ cs) (by rw [hlen2, hxl]; exact hfit) (by
          rw [hxl]
          simp only []
          have e2 : (c.toList.take (n * sz) ++ us ++ c.toList.drop (n * sz + m * sz)).take (n * sz + m * sz) = (c.toList.take ob.xs.length).take (n * sz) ++ us := by
            have e4 : (c.toList.take (n * sz) ++ us).length = n * sz + m * sz := by simp [hlen]; omega
            rw [List.take_left' e4, List.take_take, Nat.min_eq_left hn]
          rw [e2]
          exact (hcv.takeN _).append hcs)
        obtain ⟨h3, h4⟩ := h1.move (id := id) (id' := nw) (o := ⟨ob.e, ob.xs.take (n * sz) ++ cs⟩) (by simp [Hp.set]) hid
        rw [Hp.del_set] at h3 h4
        refine ⟨_, _, X.name nw (X.mu id), hr, ⟨Or.inr rfl, Or.inr ⟨b, 0, cap, by rw [Ctx.name_mu_same]; exact hmu, rfl, hroom, hcm, .inr rfl, ?_⟩⟩, by rw [← hoe]; exact h3, by rw [← hoe]; exact h2.trans h4, fun i hi => hi⟩
        have : cellCount (w.setRow b (c.toList.take (n * sz) ++ us ++ c.toList.drop (n * sz + m * sz)).toArray) b = c.size := by
          rw [cellCount_of (setRow_heap w b c _ ob.e _ hcb), hlen2]
        rw [this]; omega
      · have holds : ∃ olds : List Value, olds.length = n * sz ∧ (∀ (j : Nat) v, olds[j]? = some v → w.cell? ((⟨b, off', none⟩ : Addr).add j) = some v) ∧ VRds w X (ob.xs.take (n * sz)) olds := by
          rcases Nat.eq_zero_or_pos n with hn0 | hn0
          · refine ⟨[], by simp [hn0], by simp, by simp [hn0], by simp⟩
          · have hoff0 : off' = 0 := by rcases hoff with h4 | h4 <;> omega
            subst hoff0
            have hca := (((ok.obj id ob hob).cellsAt hmu 0).takeN (n * sz))
            simp only [List.drop_zero] at hca
            obtain ⟨us', h1, h2, h3⟩ := hca.vals
            exact ⟨us', by rw [h1]; simp; omega, fun j v hj => by rw [Addr.add_lit]; exact h2 j v hj, h3⟩
        obtain ⟨olds, ho1, ho2, ho3⟩ := holds
        obtain ⟨z, hz, hr⟩ := runGrow ⟨b, off', none⟩ n cap olds h0m ho1 ho2 (by omega) hb hm
        have hge := grownCap_ge w (n + m) cap e
        have hmx := grownCap_le_maxLen w (n + m) cap e (by simp only [maxLen]; omega)
        have hsize : (olds.toArray ++ us.toArray ++ Builtin.zeroCells z.cells (grownCap w (n + m) cap e - (n + m))).size = grownCap w (n + m) cap e * sz := by
          simp only [Array.size_append, List.size_toArray, size_zeroCells, hz, ho1, hlen, ← Nat.add_mul]
          congr 1; omega
        have hmulg : (n + m) * sz ≤ grownCap w (n + m) cap e * sz := Nat.mul_le_mul_right _ hge
        have hxl : (ob.xs.take (n * sz) ++ cs).length = (n + m) * sz := by rw [Nat.add_mul]; simp [hcs.1, hlen]; omega
        obtain ⟨hd1, hd2⟩ := ok.del id
        obtain ⟨h2, h3⟩ := hd1.grow hid (c := olds.toArray ++ us.toArray ++ Builtin.zeroCells z.cells (grownCap w (n + m) cap e - (n + m))) (e := e) (xs := ob.xs.take (n * sz) ++ cs) (by
          have e4 : (olds ++ us).length = (n + m) * sz := by rw [Nat.add_mul]; simp [ho1, hlen]
          rw [hxl, Array.toList_append, Array.toList_append]
          rw [List.take_left' (by simpa using e4)]
          simpa using ho3.append hcs) (by rw [hsize, hxl]; exact hmulg)
        refine ⟨_, _, X.name nw (some w.heap.size), hr, ⟨Or.inr rfl, Or.inr ⟨w.heap.size, 0, _, Ctx.name_mu_same _ _ _, rfl, hge, hmx, .inr rfl, ?_⟩⟩, h2, hd2.trans h3, fun i hi => hi⟩
        have hcn := cellCount_of (heap_alloc_new w.drew (.cells (olds.toArray ++ us.toArray ++ Builtin.zeroCells z.cells (grownCap w (n + m) cap e - (n + m))) e))
        simp only [World.size_drew] at hcn
        rw [hcn, hsize]; omega

theorem run_append_same {w : World} {t u e : TypeId} {ty : TypeId} {sz : Nat} (ht : P.underlying t = some (.slice e)) (hs : (P.info? e).map (·.size) = some sz) (huu : (∃ e', P.underlying u = some (.slice e')) ∨ P.underlying u = some .string)
    {src : Value} (hl : ∀ w, (Builtin.lenOf src).run P w = .ok 0 w) (hfc : ∀ w, (Builtin.firstCells sz 0 src).run P w = .ok #[] w) (A : Option Addr) (n cap : Nat) (hn : n ≤ cap) :
    (Builtin.append_ #[t, u] ty #[.slice A n cap, src]).run P w = .ok (.slice A n cap) w := by
  rcases huu with ⟨e', hd⟩ | hd <;> cases A <;> simp [Builtin.append_, run_underlying ht, run_underlying hd, run_sizeOf' hs, hl, hfc, hn, storeCells]

end
end Go.Proofs.Ytjieenfbfckafaa.Am
/- The operations' effects are the model's: append of a slice, of a string; calls. -/
namespace Go.Proofs.Ytjieenfbfckafaa.Am
open Go Go.Lib
set_option linter.unusedVariables false
set_option linter.unusedSimpArgs false

section
variable {P : Program} {o : Oper} {s : S} {K : Eff → Prop}

theorem run_append_call {a : Act} {w w' : World} {x' y' : Operand} {t u : TypeId} {v : Value} (ho : o.op = .call { callee := .builtin .append, args := #[x', y'], argTypes := #[t, u] })
    (hr : (Builtin.append_ #[t, u] o.type #[a.eval x', a.eval y']).run P w = .ok v w') : (execOp a.eval o).run P w = .ok (.value v) w' := by
  simp [execOp, ho, resolve, invoke, builtin, hr]

/-- The effects of an append. -/
theorem snd_append {ls : List Nat} {e sz bytes m : Nat} {cs : List DV} {rd : List Nat} {x : Opd} {x' y' : Operand} {t u : TypeId} {d : DV} (ho : o.op = .call { callee := .builtin .append, args := #[x', y'], argTypes := #[t, u] }) (hx : x.fits x' = true) (hxl : ∀ t ∈ x.looks, t ∈ ls)
    (wf : s.wf) (hd : ev s x = some (.c d))
    (core : ∀ (X : Ctx) (w : World) (a : Act) (h0 : Hp), (∀ t ∈ ls, ∀ d, look s.env t = some d → TVR w X d (a.tmps.getD t undef)) → HeapOk w X h0 → (∀ id ∈ rd, id < s.nx → h0 id = look s.hp id) → ¬ X.dm s.nx →
      AppDone P w X h0 t u o.type e sz bytes s.nx (a.eval y') m cs)
    (h : appK s s.nx e sz bytes m cs rd K d) : ∃ f, Does P o ls s f ∧ K f := by
  cases d with
  | ref id off n z =>
    have h := andN_iff.1 h
    obtain ⟨rfl, h⟩ := h
    have h := andN_iff.1 h
    obtain ⟨rfl, h⟩ := h
    obtain ⟨ob, hob, h⟩ := someL_some h
    obtain ⟨hoe, hle, hb1, hb2, hK⟩ := andN_iff.1 h
    refine ⟨_, ?_, hK⟩
    intro X w a h0 K Q he ok hacc hfr hk
    have hid : ¬ X.dm s.nx := hfr s.nx (Nat.le_refl _) (by simp)
    have C := core X w a h0 he ok (fun i hi hlt => hacc i (by simp [Eff.acc, hi]) hlt) hid
    have hv := ev_sound (w := w) (X := X) (a := a) hx (fun t ht => he t (hxl t ht)) hd
    have hob' : h0 id = some ob := by rw [hacc id (by simp [Eff.acc]) (wf id ob hob)]; exact hob
    obtain ⟨v', w', X', hr, h1, h2, h3, h4⟩ := C.2 id n ob hob' hle hoe hb1 hb2 _ hv
    refine wp_value (run_append_call ho hr) (hk v' w' X' h1 h2 h3 fun i hi => ?_)
    rcases h4 i hi with h5 | rfl
    · exact .inl h5
    · exact .inr ⟨Nat.le_refl _, by simp⟩
  | p x0 =>
    cases x0 with
    | v v =>
      cases v with
      | slice A n c =>
        cases A with
        | none =>
          cases n with
          | zero =>
            cases c with
            | zero =>
              obtain ⟨hb1, hb2, hK⟩ := h
              refine ⟨_, ?_, hK⟩
              intro X w a h0 K Q he ok hacc hfr hk
              have hid : ¬ X.dm s.nx := hfr s.nx (Nat.le_refl _) (by simp)
              have C := core X w a h0 he ok (fun i hi hlt => hacc i (by simp [Eff.acc, hi]) hlt) hid
              have hv := tvr_v (ev_sound (w := w) (X := X) (a := a) hx (fun t ht => he t (hxl t ht)) hd)
              obtain ⟨v', w', X', hr, h1, h2, h3, h4⟩ := C.1 hb1 hb2
              rw [← hv] at hr
              refine wp_value (run_append_call ho hr) (hk v' w' X' h1 h2 h3 fun i hi => ?_)
              rcases h4 i hi with h5 | rfl
              · exact .inl h5
              · exact .inr ⟨Nat.le_refl _, by simp⟩
            | succ => exact h.elim
          | succ => exact h.elim
        | some => exact h.elim
      | _ => exact h.elim
    | _ => exact h.elim
  | ptr => exact h.elim

theorem snd_app {e sz bytes : Nat} {x y : Opd} {x' y' : Operand} {t : TypeId} (ho : o.op = .call { callee := .builtin .append, args := #[x', y'], argTypes := #[t, t] }) (hx : x.fits x' = true) (hy : y.fits y' = true) (hf : appFits P t e sz bytes = true) (wf : s.wf)
    (h : (AOp.app e sz bytes x y).eff P s K) : ∃ f, Does P o (x.looks ++ y.looks) s f ∧ K f := by
  obtain ⟨ht, hpos, i, z, hi, hz, hisz, hiby, hzs⟩ := appFits_some hf
  have hs1 : (P.info? e).map (·.size) = some sz := by simp [hi, hisz]
  obtain ⟨d, hd, h⟩ := asC_some h
  obtain ⟨v, hvv, h⟩ := asC_some h
  obtain ⟨m, cs, rd, h, hl, hrd, hsrc⟩ := cellsOf_some wf h
  refine snd_append (m := m) (cs := cs) (rd := rd) ho hx (fun t ht => by simp [ht]) wf hd (fun X w a h0 he ok hacc hid => ?_) h
  have hsv := ev_sound (w := w) (X := X) (a := a) hy (fun t ht => he t (by simp [ht])) hvv
  obtain ⟨A, cap, hp, hn, hA⟩ := hsrc X w h0 _ ok hacc hsv
  have hus : ∃ us : List Value, us.length = m * sz ∧ VRds w X cs us ∧ (m = 0 ∨ ∃ ad : Addr, A = some ad ∧ ∀ (j : Nat) u, us[j]? = some u → w.cell? (ad.add j) = some u) := by
    rcases Nat.eq_zero_or_pos m with h0 | h0
    · have : cs = [] := List.eq_nil_of_length_eq_zero (by rw [hl, h0]; simp)
      subst this
      exact ⟨[], by simp [h0], ⟨rfl, by simp⟩, .inl h0⟩
    · obtain ⟨b2, q, rfl, hc⟩ : ∃ b q, A = some ⟨b, q, none⟩ ∧ CellsAt w X b q cs := by
        rcases hA with ⟨_, h5⟩ | ⟨h5, _⟩ | h5
        · omega
        · omega
        · exact h5
      obtain ⟨us, hul, huc, huv⟩ := hc.vals
      exact ⟨us, by rw [hul, hl], huv, .inr ⟨_, rfl, fun j u hj => by rw [Addr.add_lit]; exact huc j u hj⟩⟩
  obtain ⟨us, hlen, huv, hcell⟩ := hus
  refine append_core (P := P) ok hid hf (a.eval y') m us cs hlen huv ?_ ?_ ?_ ?_
  · intro h0m hb hm
    rcases hcell with h0 | ⟨ad, rfl, hc⟩
    · omega
    · refine ⟨z, hzs, ?_⟩
      rw [hp]
      exact run_append_nil (P := P) w t o.type e i z ht hi hz ad m cap us (by rw [hisz]; exact hlen) hc h0m (by omega) (by rw [hiby]; omega)
  · intro h0m A' n' cap' hn' _
    refine run_append_same (P := P) ht hs1 (.inl ⟨e, ht⟩) (fun w => by rw [hp, h0m]; rfl) (fun w => ?_) A' n' cap' hn'
    rw [hp]
    cases A <;> simp [Builtin.firstCells, loadCells, loadCellsFrom]
  · intro g n cap' cur h0m hg hroom hfit
    rcases hcell with h0 | ⟨ad, rfl, hc⟩
    · omega
    · rw [hp]
      have := run_append_room (P := P) w t o.type e i ht hi g n cap' cur hg ad m cap us (by rw [hisz]; exact hlen) hc huv.one hroom (by rw [hisz, hlen]; exact hfit)
      rw [hisz, hlen] at this
      exact this
  · intro b n cap' olds h0m hol holds hgr hb hm
    rcases hcell with h0 | ⟨ad, rfl, hc⟩
    · omega
    · refine ⟨z, hzs, ?_⟩
      rw [hp]
      exact run_append_grow (P := P) w t o.type e i z ht hi hz b n cap' olds (by rw [hisz]; exact hol) holds ad m cap us (by rw [hisz]; exact hlen) hc hgr (by omega) (by rw [hiby]; exact growslice_fits (by omega) hb)

theorem strCells_pb (b : ByteArray) (w : World) (X : Ctx) : VRds w X ((pb b.data.toList).map DV.p) (strCells b) := by
  have : strCells b = b.data.toList.map fun c => Value.int .u8 c.toNat := by simp [strCells]
  rw [this]
  refine ⟨by simp [pb], fun j d u hd hu => ?_⟩
  simp only [pb, List.map_map, List.getElem?_map] at hd hu
  cases hj : b.data.toList[j]? with
  | none => rw [hj] at hu; simp at hu
  | some c =>
    rw [hj] at hd hu
    simp only [Option.map_some, Function.comp, Option.some.injEq] at hd hu
    subst hd; subst hu
    exact ⟨rfl, rfl⟩

theorem snd_apps {e : Nat} {x y : Opd} {x' y' : Operand} {t u : TypeId} (ho : o.op = .call { callee := .builtin .append, args := #[x', y'], argTypes := #[t, u] }) (hx : x.fits x' = true) (hy : y.fits y' = true) (hf : appFits P t e 1 1 = true) (hu : P.underlying u = some .string) (wf : s.wf)
    (h : (AOp.apps e x y).eff P s K) : ∃ f, Does P o (x.looks ++ y.looks) s f ∧ K f := by
  obtain ⟨ht, hpos, i, z, hi, hz, hisz, hiby, hzs⟩ := appFits_some hf
  have hs1 : (P.info? e).map (·.size) = some 1 := by simp [hi, hisz]
  obtain ⟨d, hd, h⟩ := asC_some h
  obtain ⟨b, hb, h⟩ := asS_some h
  have hbl : b.data.toList.length = b.size := by simp
  refine snd_append (m := b.size) (cs := (pb b.data.toList).map DV.p) (rd := []) (sz := 1) (bytes := 1) (e := e) ho hx (fun t ht => by simp [ht]) wf hd (fun X w a h0 he ok hacc hid => ?_) h
  · have hp := tvr_v (ev_sound (w := w) (X := X) (a := a) hy (fun t ht => he t (by simp [ht])) hb)
    refine append_core (P := P) ok hid hf (a.eval y') b.size (strCells b) _ (by rw [strCells_length]; simp) (strCells_pb b w X) ?_ ?_ ?_ ?_
    · intro h0m hb1 hm
      refine ⟨z, hzs, ?_⟩
      rw [hp]
      have := run_append_nil_string (P := P) w t u o.type e i z ht hu hi hz b h0m (by omega) (by rw [hiby]; omega)
      rw [this]
      congr 4
      apply Array.ext'
      simp [strCells]
    · intro h0m A' n' cap' hn' _
      refine run_append_same (P := P) ht hs1 (.inr hu) (fun w => by rw [hp, ← h0m]; rfl) (fun w => ?_) A' n' cap' hn'
      rw [hp]
      simp [Builtin.firstCells]
    · intro g n cap' cur h0m hg hroom hfit
      rw [hp]
      have := run_append_room_string (P := P) w t u o.type e i ht hu hi hisz g n cap' cur hg b hroom (by omega)
      rw [Nat.mul_one, Nat.mul_one]
      exact this
    · intro q n cap' olds h0m hol holds hgr hb1 hm
      refine ⟨z, hzs, ?_⟩
      rw [hp]
      exact run_append_grow_string (P := P) w t u o.type e i z ht hu hi hz q n cap' olds (by rw [hisz]; exact hol) holds b hgr (by omega) (by rw [hiby]; exact growslice_fits (by omega) hb1)
end
end Go.Proofs.Ytjieenfbfckafaa.Am

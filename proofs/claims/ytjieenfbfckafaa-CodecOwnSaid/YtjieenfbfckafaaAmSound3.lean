/- The operations' effects are the model's: new variables, stores, literals. -/
import Derived.Test.YtjieenfbfckafaaAmSound2
import Derived.Laws.MakeOwn
namespace Go.Proofs.Ytjieenfbfckafaa.Am
open Go
set_option linter.unusedVariables false
set_option linter.unusedSimpArgs false

theorem cellsT_sound {w : World} {X : Ctx} {d : TV} {ds : List DV} {u : Value} (h : TVR w X d u) (hd : cellsT d = some ds) : VRds w X ds u.cells.toList := by
  cases d with
  | c d =>
    simp only [cellsT, Option.some.injEq] at hd
    subst hd
    have h1 : VRd w X d u := h
    have h2 := h1.one
    have hc : u.cells = #[u] := by cases u <;> first | rfl | (simp [Value.oneCell'] at h2)
    rw [hc]
    refine ⟨rfl, fun j x v hx hv => ?_⟩
    cases j with
    | zero => simp at hx hv; subst hx; subst hv; exact h1
    | succ j => simp at hx
  | agg xs =>
    simp only [cellsT, Option.some.injEq] at hd
    subst hd
    obtain ⟨cs, rfl, h1⟩ := h
    exact h1
  | tup ts => simp [cellsT] at hd

theorem VRds.append {w : World} {X : Ctx} {a b : List DV} {u v : List Value} (h : VRds w X a u) (k : VRds w X b v) : VRds w X (a ++ b) (u ++ v) := by
  refine ⟨by simp [h.1, k.1], fun j d x hd hx => ?_⟩
  rw [List.getElem?_append] at hd hx
  rw [← h.1] at hx
  split at hd
  · rename_i hj; rw [if_pos hj] at hx; exact h.2 j d x hd hx
  · rename_i hj; rw [if_neg hj] at hx; exact k.2 _ d x hd hx
theorem VRds.takeN {w : World} {X : Ctx} {a : List DV} {u : List Value} (h : VRds w X a u) (n : Nat) : VRds w X (a.take n) (u.take n) := by
  have := h.sub 0 n
  simpa using this
theorem VRds.dropN {w : World} {X : Ctx} {a : List DV} {u : List Value} (h : VRds w X a u) (n : Nat) : VRds w X (a.drop n) (u.drop n) := by
  have := h.sub n (max a.length u.length)
  rwa [List.take_of_length_le (by simp; omega), List.take_of_length_le (by simp; omega)] at this

/-- An object's cells as far as they are known. -/
theorem ObjR.row {w : World} {X : Ctx} {id b : Nat} {o : Ob} (h : ObjR w X id o) (hm : X.mu id = some b) :
    ∃ c, w.heap[b]? = some (.cells c o.e (0, 0)) ∧ o.xs.length ≤ c.size ∧ VRds w X o.xs (c.toList.take o.xs.length) := by
  have h := h.2
  rw [hm] at h
  obtain ⟨c, h1, h2, h3⟩ := h
  refine ⟨c, h1, h2, by simp; omega, fun j d u hd hu => h3 j d u hd ?_⟩
  rw [List.getElem?_take] at hu
  split at hu
  · simpa using hu
  · cases hu

theorem nameDm {X : Ctx} {n : Nat} {b : Option Nat} : ∀ id, (X.name n b).dm id → X.dm id ∨ (n ≤ id ∧ id < n + 1) := by
  intro id h
  rcases h with h | rfl
  · exact .inl h
  · exact .inr (by omega)

section
variable {P : Program} {o : Oper} {s : S} {K : Eff → Prop}

/-- A new variable. -/
theorem Does.new {ls : List Nat} {e : TypeId} {xs : List DV} {r : TV}
    (h : ∀ (X : Ctx) (w : World) (a : Act), (∀ t ∈ ls, ∀ d, look s.env t = some d → TVR w X d (a.tmps.getD t undef)) →
      ∃ (c : Array Value) (v : Value), (execOp a.eval o).run P w = .ok (.value v) (w.alloc (.cells c e)) ∧ xs.length ≤ c.size ∧ VRds w X xs (c.toList.take xs.length) ∧
        ∀ X' w', X'.dm s.nx → X'.mu s.nx = some w.heap.size → cellCount w' w.heap.size = c.size → TVR w' X' r v) :
    Does P o ls s ⟨r, [], [(s.nx, some ⟨e, xs⟩)], 1⟩ := by
  intro X w a h0 K Q he ok hacc hfr hk
  obtain ⟨c, v, hr, hle, hc, hv⟩ := h X w a he
  have hid : ¬ X.dm s.nx := hfr s.nx (Nat.le_refl _) (by simp)
  obtain ⟨h1, h2⟩ := ok.new hid (c := c) (e := e) hc hle
  refine wp_value hr (hk v _ _ (hv (X.name s.nx (some w.heap.size)) _ (Or.inr rfl) (Ctx.name_mu_same _ _ _) ?_) h1 h2 nameDm)
  exact cellCount_of (heap_alloc_new w _)

theorem snd_box {e : Nat} {x : Opd} {x' : Operand} (ho : o.op = .box e x') (hx : x.fits x' = true) (h : (AOp.box e x).eff P s K) : ∃ f, Does P o x.looks s f ∧ K f := by
  obtain ⟨d, hd, h⟩ := asD_some h
  obtain ⟨ds, hds, h⟩ := someL_some h
  refine ⟨_, Does.new fun X w a he => ?_, h⟩
  have hv := cellsT_sound (ev_sound (w := w) (X := X) (a := a) hx he hd) hds
  refine ⟨(a.eval x').cells, .pointer (some ⟨w.heap.size, 0, none⟩), ?_, ?_, ?_, fun X' w' h1 h2 _ => ⟨h1, _, h2, rfl⟩⟩
  · simp [execOp, ho, Instr.box, newVar, newRow]
  · have := hv.1; simp at this; omega
  · rw [List.take_of_length_le (by rw [hv.1]; exact Nat.le_refl _)]; exact hv

def zeroFits (P : Program) (t : TypeId) (zero : List Value) : Bool :=
  match P.info? t with
  | some i => match i.zero with
    | some z => sameVs zero z.cells.toList
    | none => false
  | none => false
theorem zeroFits_some {t : TypeId} {zero : List Value} (h : zeroFits P t zero = true) : ∃ i z, P.info? t = some i ∧ i.zero = some z ∧ z.cells.toList = zero ∧ ∀ u ∈ zero, u.oneCell' = true := by
  unfold zeroFits at h
  split at h
  · rename_i i hi
    split at h
    · rename_i z hz
      obtain ⟨e, h1⟩ := sameVs_eq h
      exact ⟨i, z, hi, hz, e.symm, h1⟩
    · cases h
  · cases h

theorem snd_alloc {e : Nat} {zero : List Value} (ho : o.op = .alloc e) (hz : zeroFits P e zero = true) (h : (AOp.alloc e zero).eff P s K) : ∃ f, Does P o [] s f ∧ K f := by
  obtain ⟨i, z, hi, hz', hzz, h1⟩ := zeroFits_some hz
  simp only [AOp.eff, AOp.effN] at h
  refine ⟨_, Does.new fun X w a he => ?_, h⟩
  refine ⟨z.cells, .pointer (some ⟨w.heap.size, 0, none⟩), ?_, ?_, ?_, fun X' w' h1 h2 _ => ⟨h1, _, h2, rfl⟩⟩
  · simp [execOp, ho, Instr.alloc, zeroValue, typeInfo, hi, hz', newVar, newRow]
  · subst hzz; simp
  · subst hzz
    have := VRds_pure (w := w) (X := X) h1
    rw [List.take_of_length_le (by simp)]
    exact this

theorem snd_store {n : Nat} {x y : Opd} {x' y' : Operand} {t : TypeId} (ho : o.op = .store t x' y') (hx : x.fits x' = true) (hy : y.fits y' = true) (hn : (P.info? t).map (·.size) = some n) (wf : s.wf) (h : (AOp.store n x y).eff P s K) :
    ∃ e, Does P o (x.looks ++ y.looks) s e ∧ K e := by
  obtain ⟨d, hd, h⟩ := asC_some h
  obtain ⟨u, hu, h⟩ := asD_some h
  obtain ⟨ds, hds, h⟩ := someL_some h
  cases d with
  | ptr id off =>
    obtain ⟨ob, hob, hlen, hle, hK⟩ := someL_some h
    refine ⟨_, ?_, hK⟩
    intro X w a h0 K Q he ok hacc hfr hk
    obtain ⟨_, b, hm, hp⟩ := ev_sound (w := w) (X := X) (a := a) hx (fun t ht => he t (by simp [ht])) hd
    have hv := cellsT_sound (ev_sound (w := w) (X := X) (a := a) hy (fun t ht => he t (by simp [ht])) hu) hds
    have hid : h0 id = some ob := by rw [hacc id (by simp [Eff.acc]) (wf id ob hob)]; exact hob
    obtain ⟨c, hc, hcl, hcv⟩ := (ok.obj id ob hid).row hm
    have hsz : (a.eval y').cells.size = n := by have := hv.1; simp at this; omega
    have hst := run_storeCells_at P b off ob.e (a.eval y').cells.toList 0 c w hc (by simp; omega) hv.one
    simp only [Nat.add_zero, Array.length_toList, hsz] at hst
    have hlen2 : ((c.toList.take off ++ (a.eval y').cells.toList ++ c.toList.drop (off + n)).toArray).size = c.size := by simp; omega
    obtain ⟨h1, h2⟩ := ok.write hid hm hc hlen2 (xs := ob.xs.take off ++ ds ++ ob.xs.drop (off + n)) (by rw [hlen2]; simp; omega) (by
      have e1 : (ob.xs.take off ++ ds ++ ob.xs.drop (off + n)).length = ob.xs.length := by simp; omega
      rw [e1]
      have e2 : (c.toList.take off ++ (a.eval y').cells.toList ++ c.toList.drop (off + n)).take ob.xs.length = (c.toList.take ob.xs.length).take off ++ (a.eval y').cells.toList ++ (c.toList.take ob.xs.length).drop (off + n) := by
        rw [List.take_append, List.take_append, List.take_take, List.drop_take]
        have e3 : (a.eval y').cells.toList.length = n := by simpa using hsz
        have e4 : (c.toList.take off).length = off := by simp; omega
        congr 1
        · congr 1
          · rw [List.take_take, Nat.min_comm]
          · rw [List.take_of_length_le]; omega
        · congr 1; simp only [List.length_append, e3, e4]
      simp only []
      rw [e2]
      exact ((hcv.takeN off).append hv).append (hcv.dropN (off + n)))
    refine wp_skip' (w' := w.setRow b (c.toList.take off ++ (a.eval y').cells.toList ++ c.toList.drop (off + n)).toArray) ?_ (hk undef _ X ⟨#[], rfl, rfl⟩ h1 h2 fun id hid => .inl hid)
    simp [execOp, ho, hp, Instr.storeAt, Instr.sureAddr, storeVar, run_sizeOf' hn, hsz, hst]
  | p => exact h.elim
  | ref => exact h.elim

/-! ### Parts laid over cells -/
theorem foldl_seg (off : Nat) : ∀ (vs : List Value) (k : Nat) (cells : Array Value), off + k + vs.length ≤ cells.size →
    ((vs.zipIdx k).foldl (fun cs x => cs.setIfInBounds (off + x.2) x.1) cells).toList = cells.toList.take (off + k) ++ vs ++ cells.toList.drop (off + k + vs.length)
  | [], k, cells, _ => by simp
  | v :: vs, k, cells, h => by
    simp only [List.length_cons] at h
    rw [List.zipIdx_cons, List.foldl_cons, foldl_seg off vs (k + 1) _ (by simp; omega)]
    have := list_seg_step cells.toList (off + k) v vs (by simp; omega)
    rw [Array.toList_setIfInBounds]
    simp only [List.length_cons]
    have e1 : off + (k + 1) = off + k + 1 := by omega
    have e2 : off + k + (vs.length + 1) = off + k + vs.length + 1 := by omega
    rw [e1, this]

theorem fill_step {place : Nat → Option (Nat × Nat)} {cells : Array Value} {i : Nat} {v : Value} {rest : List (Nat × Value)} {off n : Nat} (hp : place i = some (off, n)) (hn : v.cells.size = n) (hle : off + n ≤ cells.size) :
    ∃ cells' : Array Value, Instr.fill place cells ((i, v) :: rest) = Instr.fill place cells' rest ∧ cells'.toList = cells.toList.take off ++ v.cells.toList ++ cells.toList.drop (off + n) := by
  have h1 : ¬ cells.size < off + v.cells.size := by omega
  refine ⟨_, by simp only [Instr.fill, hp]; rw [if_neg (by simp [hn]; omega)], ?_⟩
  have := foldl_seg off v.cells.toList 0 cells (by simp; omega)
  simp only [Nat.add_zero, Array.length_toList, hn] at this
  rw [← this]
  congr 1
  rw [← Array.foldl_toList, Array.toList_zipIdx]

/-- The parts of an abstract literal and those of the code. -/
def partsFit (place : Nat → Option (Nat × Nat)) : List (Nat × Nat × Opd) → List (Nat × Operand) → Bool
  | [], [] => true
  | (off, n, x) :: r, (i, y) :: q => x.fits y && decide (place i = some (off, n)) && partsFit place r q
  | _, _ => false

theorem fill_sound {place : Nat → Option (Nat × Nat)} {w : World} {X : Ctx} {a : Act} : ∀ {ps : List (Nat × Nat × Opd)} {qs : List (Nat × Operand)} {cells : List DV} {carr : Array Value} {G : List DV → Prop},
    partsFit place ps qs = true → (∀ t ∈ listLooks (ps.map (·.2.2)), ∀ d, look s.env t = some d → TVR w X d (a.tmps.getD t undef)) → VRds w X cells carr.toList → lay s cells ps G →
    ∃ xs carr', Instr.fill place carr (qs.map fun q => (q.1, a.eval q.2)) = some carr' ∧ VRds w X xs carr'.toList ∧ G xs
  | [], [], cells, carr, G, _, _, hc, h => ⟨cells, carr, rfl, hc, h⟩
  | (off, n, x) :: r, (i, y) :: q, cells, carr, G, hf, he, hc, h => by
    simp only [partsFit, Bool.and_eq_true, decide_eq_true_eq] at hf
    obtain ⟨⟨hx, hp⟩, hr⟩ := hf
    obtain ⟨d, hd, h⟩ := asD_some h
    obtain ⟨ds, hds, hlen, hle, h⟩ := someL_some h
    have hv := cellsT_sound (ev_sound (w := w) (X := X) (a := a) hx (fun t ht => he t (by simp [listLooks, ht])) hd) hds
    have hsz : (a.eval y).cells.size = n := by have := hv.1; simp at this; omega
    have hcl := hc.1
    obtain ⟨c2, h1, h2⟩ := fill_step (cells := carr) (v := a.eval y) (rest := q.map fun q => (q.1, a.eval q.2)) hp hsz (by simp at hcl; omega)
    have hc2 : VRds w X (cells.take off ++ ds ++ cells.drop (off + n)) c2.toList := by
      rw [h2]
      exact ((hc.takeN off).append hv).append (hc.dropN (off + n))
    obtain ⟨xs, c3, h3, h4, h5⟩ := fill_sound (ps := r) (qs := q) hr (fun t ht => he t (by simp [listLooks, ht])) hc2 h
    exact ⟨xs, c3, by rw [List.map_cons, h1]; exact h3, h4, h5⟩
  | [], _ :: _, _, _, _, hf, _, _, _ => by simp [partsFit] at hf
  | _ :: _, [], _, _, _, hf, _, _, _ => by simp [partsFit] at hf

/-- What is laid does not hang on the world. -/
theorem lay_run : ∀ {ps : List (Nat × Nat × Opd)} {cells : List DV} {G : List DV → Prop}, lay s cells ps G → ∃ xs, lay s cells ps (· = xs) ∧ G xs
  | [], cells, G, h => ⟨cells, rfl, h⟩
  | (off, n, x) :: r, cells, G, h => by
    obtain ⟨d, hd, h⟩ := asD_some h
    obtain ⟨ds, hds, hlen, hle, h⟩ := someL_some h
    obtain ⟨xs, h1, h2⟩ := lay_run h
    refine ⟨xs, ?_, h2⟩
    simp only [lay, hd, asD, hds, someL]
    exact ⟨hlen, hle, h1⟩

def buildFits (P : Program) (t : TypeId) (zero : List Value) (ps : List (Nat × Nat × Opd)) (qs : List (Nat × Operand)) : Bool :=
  zeroFits P t zero && match P.underlying t with
    | some (.struct fs) => fs.toList.all (fun (f : Field) => (P.info? f.type).isSome) && partsFit (fun i => (fs[i]?).map fun (f : Field) => (f.offset, ((P.info? f.type).map (·.size)).getD 0)) ps qs
    | some (.array _ e) => (P.info? e).isSome && partsFit (fun i => some (i * ((P.info? e).map (·.size)).getD 0, ((P.info? e).map (·.size)).getD 0)) ps qs
    | _ => false

theorem run_places {w : World} (fs : Array Field) (h : fs.toList.all (fun (f : Field) => (P.info? f.type).isSome) = true) :
    (fs.mapM fun (f : Field) => do pure (f.offset, ← sizeOf f.type) : Sem (Array (Nat × Nat))).run P w = .ok (fs.map fun (f : Field) => (f.offset, ((P.info? f.type).map (·.size)).getD 0)) w := by
  have key : ∀ (l : List Field), l.all (fun (f : Field) => (P.info? f.type).isSome) = true → (l.mapM fun (f : Field) => do pure (f.offset, ← sizeOf f.type) : Sem (List (Nat × Nat))).run P w = .ok (l.map fun (f : Field) => (f.offset, ((P.info? f.type).map (·.size)).getD 0)) w := by
    intro l
    induction l with
    | nil => intro _; rfl
    | cons f l ih =>
      intro hl
      simp only [List.all_cons, Bool.and_eq_true] at hl
      obtain ⟨i, hi⟩ := Option.isSome_iff_exists.1 hl.1
      have hs : (sizeOf f.type).run P w = .ok i.size w := run_sizeOf' (by simp [hi]) w
      simp only [List.mapM_cons, Sem.run_bind, hs, Result.andThen_ok, Sem.run_pure, ih hl.2, List.map_cons, hi, Option.map_some, Option.getD_some]
  have h2 := key fs.toList h
  rw [Array.mapM_eq_mapM_toList]
  simp only [Sem.run_map, h2, Result.andThen_ok]
  congr 1
  apply Array.ext'
  simp

theorem snd_build {zero : List Value} {ps : List (Nat × Nat × Opd)} {t : TypeId} {qs : Array (Nat × Operand)} (ho : o.op = .build t qs) (hf : buildFits P t zero ps qs.toList = true) (h : (AOp.build zero ps).eff P s K) :
    ∃ e, Does P o (listLooks (ps.map (·.2.2))) s e ∧ K e := by
  simp only [AOp.eff, AOp.effN] at h
  obtain ⟨xs, hxs, hK⟩ := lay_run h
  refine ⟨_, Does.pure fun X w a he => ?_, hK⟩
  simp only [buildFits, Bool.and_eq_true] at hf
  obtain ⟨hz, hf⟩ := hf
  obtain ⟨i, z, hi, hz', hzz, h1⟩ := zeroFits_some hz
  have hzero : (zeroValue t).run P w = .ok z w := by simp [zeroValue, typeInfo, hi, hz']
  have hc0 : VRds w X (zero.map fun x => .p (.v x)) z.cells.toList := by rw [hzz]; exact VRds_pure h1
  have hmap : (qs.map fun x => (x.1, a.eval x.2)).toList = qs.toList.map fun q => (q.1, a.eval q.2) := by simp
  split at hf
  · rename_i fs hu
    simp only [Bool.and_eq_true] at hf
    obtain ⟨xs', carr, hfill, hv, rfl⟩ := fill_sound hf.2 he hc0 hxs
    refine ⟨.agg carr, ?_, carr, rfl, hv⟩
    have hplace : (fun (i : Nat) => (fs.map fun (f : Field) => (f.offset, ((P.info? f.type).map (·.size)).getD 0))[i]?) = fun (i : Nat) => (fs[i]?).map fun (f : Field) => (f.offset, ((P.info? f.type).map (·.size)).getD 0) := by
      funext i; simp
    have hfill' : Instr.fill (fun (i : Nat) => (fs.map fun (f : Field) => (f.offset, ((P.info? f.type).map (·.size)).getD 0))[i]?) z.cells (qs.map fun x => (x.1, a.eval x.2)).toList = some carr := by rw [hplace, hmap]; exact hfill
    simp only [execOp, ho, Instr.build, Sem.run_bind, hzero, Result.andThen_ok, run_underlying hu, run_places fs hf.1, hfill', Sem.run_pure]
  · rename_i m e hu
    simp only [Bool.and_eq_true] at hf
    obtain ⟨j, hj⟩ := Option.isSome_iff_exists.1 hf.1
    obtain ⟨xs', carr, hfill, hv, rfl⟩ := fill_sound hf.2 he hc0 hxs
    refine ⟨.agg carr, ?_, carr, rfl, hv⟩
    have hs : (sizeOf e).run P w = .ok j.size w := run_sizeOf' (by simp [hj]) w
    simp only [hj, Option.map_some, Option.getD_some] at hfill
    have hfill' : Instr.fill (fun i => some (i * j.size, j.size)) z.cells (qs.map fun x => (x.1, a.eval x.2)).toList = some carr := by rw [hmap]; exact hfill
    simp only [execOp, ho, Instr.build, Sem.run_bind, hzero, Result.andThen_ok, run_underlying hu, hs, hfill', Sem.run_pure]
  · cases hf

/-- Zero cells. -/
theorem madeCells_zeros (z : List Value) (n : Nat) : madeCells z.toArray (n * z.length) = ((List.replicate n z).flatten).toArray := by
  apply Array.ext_getElem?
  intro j
  simp only [madeCells]
  rcases Nat.lt_or_ge j (n * z.length) with hj | hj
  · have hz : 0 < z.length := by rcases Nat.eq_zero_or_pos z.length with h0 | h0; · rw [h0] at hj; simp at hj
                                 · exact h0
    have h1 : (Array.map (fun x => z.toArray[x % z.toArray.size]!) (Array.range (n * z.length)))[j]? = some (z[j % z.length]'(Nat.mod_lt _ hz)) := by
      simp [hj, Nat.mod_lt _ hz]
    rw [h1]
    symm
    induction n generalizing j with
    | zero => simp at hj
    | succ n ih =>
      rw [List.replicate_succ, List.flatten_cons]
      simp only [List.getElem?_toArray]
      rw [List.getElem?_append]
      split
      · rename_i hlt
        simp [List.getElem?_eq_getElem hlt, Nat.mod_eq_of_lt hlt]
      · rename_i hge
        have hj' : j - z.length < n * z.length := by rw [Nat.succ_mul] at hj; omega
        have := ih (j - z.length) hj' (by simp [hj', Nat.mod_lt _ hz])
        simp only [List.getElem?_toArray] at this
        rw [this]
        congr 2
        exact (Nat.mod_eq_sub_mod (by omega)).symm
  · rw [Array.getElem?_eq_none (by simpa using hj), Array.getElem?_eq_none (by simpa [List.length_flatten] using hj)]

theorem zeros_flatten (z : List Value) : ∀ n, zeros z n = ((List.replicate n z).flatten).map fun x => DV.p (.v x)
  | 0 => rfl
  | n + 1 => by simp [zeros, zeros_flatten z n, List.replicate_succ]

theorem oneCell_flatten {z : List Value} (h : ∀ u ∈ z, u.oneCell' = true) (n : Nat) : ∀ u ∈ (List.replicate n z).flatten, u.oneCell' = true := by
  intro u hu
  obtain ⟨l, hl, hu⟩ := List.mem_flatten.1 hu
  rw [List.mem_replicate] at hl
  rw [hl.2] at hu
  exact h u hu

def sliceOf (P : Program) (t : TypeId) (e : TypeId) : Bool :=
  match P.underlying t with
  | some (.slice e') => decide (e' = e)
  | _ => false
theorem sliceOf_some {t e : TypeId} (h : sliceOf P t e = true) : P.underlying t = some (.slice e) := by
  unfold sliceOf at h
  split at h
  · rename_i e' hu; simp at h; subst h; exact hu
  · cases h

def litFits (P : Program) (t : TypeId) (e sz ln : Nat) (zero : List Value) (ps : List (Nat × Opd)) (qs : List (Nat × Operand)) : Bool :=
  sliceOf P t e && zeroFits P e zero && decide ((P.info? e).map (·.size) = some sz) && decide (zero.length = sz) && decide (0 < sz) && decide (ln * sz ≤ 16777216) &&
    partsFit (fun i => some (i * sz, sz)) (ps.map fun p => (p.1 * sz, sz, p.2)) qs

end
end Go.Proofs.Ytjieenfbfckafaa.Am

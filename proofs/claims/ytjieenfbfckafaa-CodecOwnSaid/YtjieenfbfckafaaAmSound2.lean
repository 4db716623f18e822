/- The operations' effects are the model's: reading and addressing memory. -/
import Derived.Test.YtjieenfbfckafaaAmSound1
namespace Go.Proofs.Ytjieenfbfckafaa.Am
open Go
set_option linter.unusedVariables false
set_option linter.unusedSimpArgs false

/-! ### Cells -/
def CellsAt (w : World) (X : Ctx) (b o : Nat) (xs : List DV) : Prop := ∀ (j : Nat) d, xs[j]? = some d → ∃ u, w.cell? ⟨b, o + j, none⟩ = some u ∧ VRd w X d u

theorem CellsAt.vals {w : World} {X : Ctx} {b : Nat} : ∀ {xs : List DV} {o : Nat}, CellsAt w X b o xs →
    ∃ us : List Value, us.length = xs.length ∧ (∀ (j : Nat) u, us[j]? = some u → w.cell? ⟨b, o + j, none⟩ = some u) ∧ VRds w X xs us
  | [], o, _ => ⟨[], rfl, fun j u h => by simp at h, rfl, fun j d u h => by simp at h⟩
  | x :: xs, o, h => by
    obtain ⟨u, hu, hx⟩ := h 0 x rfl
    obtain ⟨us, h1, h2, h3⟩ := CellsAt.vals (xs := xs) (o := o + 1) fun j d hd => by
      obtain ⟨v, hv, hd'⟩ := h (j + 1) d (by simpa using hd)
      exact ⟨v, by simpa [Nat.add_assoc, Nat.add_comm 1 j] using hv, hd'⟩
    refine ⟨u :: us, by simp [h1], ?_, by simp [h3.1], ?_⟩
    · intro j v hv
      cases j with
      | zero => simp at hv; subst hv; simpa using hu
      | succ j => have := h2 j v (by simpa using hv); simpa [Nat.add_assoc, Nat.add_comm 1 j] using this
    · intro j d v hd hv
      cases j with
      | zero => simp at hd hv; subst hd; subst hv; exact hx
      | succ j => exact h3.2 j d v (by simpa using hd) (by simpa using hv)

theorem VRc.cellsAt {w : World} {X : Ctx} {b o : Nat} {cs : List PV} (h : VRc w X.I b o cs) : CellsAt w X b o (cs.map DV.p) := by
  intro j d hd
  rw [List.getElem?_map] at hd
  obtain ⟨x, hx, rfl⟩ := Option.map_eq_some_iff.1 hd
  exact VRc_get.1 h j x hx

theorem ObjR.cellsAt {w : World} {X : Ctx} {id b : Nat} {o : Ob} (h : ObjR w X id o) (hm : X.mu id = some b) (off : Nat) : CellsAt w X b off (o.xs.drop off) := by
  have h := h.2
  rw [hm] at h
  obtain ⟨c, h1, h2, h3⟩ := h
  intro j d hd
  rw [List.getElem?_drop] at hd
  have hlt : off + j < c.size := Nat.lt_of_lt_of_le (List.getElem?_eq_some_iff.1 hd).1 h2
  refine ⟨c[off + j], ?_, h3 (off + j) d _ hd (by simp [hlt])⟩
  rw [cell_of_row w b (off + j) c o.e (0, 0) h1]
  simp [hlt]

theorem CellsAt.sub {w : World} {X : Ctx} {b o : Nat} {xs : List DV} (h : CellsAt w X b o xs) (k n : Nat) : CellsAt w X b (o + k) ((xs.drop k).take n) := by
  intro j d hd
  rw [List.getElem?_take] at hd
  split at hd
  · rw [List.getElem?_drop] at hd
    obtain ⟨u, hu, hd'⟩ := h (k + j) d hd
    exact ⟨u, by rw [Nat.add_assoc]; exact hu, hd'⟩
  · cases hd
theorem CellsAt.dropN {w : World} {X : Ctx} {b o : Nat} {xs : List DV} (h : CellsAt w X b o xs) (k : Nat) : CellsAt w X b (o + k) (xs.drop k) := by
  intro j d hd
  rw [List.getElem?_drop] at hd
  obtain ⟨u, hu, hd'⟩ := h (k + j) d hd
  exact ⟨u, by rw [Nat.add_assoc]; exact hu, hd'⟩
theorem CellsAt.takeN {w : World} {X : Ctx} {b o : Nat} {xs : List DV} (h : CellsAt w X b o xs) (n : Nat) : CellsAt w X b o (xs.take n) := by
  have := h.sub 0 n
  simpa using this
theorem VRc.sub {w : World} {I : Nat → Prop} {b o : Nat} {cs : List PV} (h : VRc w I b o cs) (k n : Nat) : VRc w I b (o + k) ((cs.drop k).take n) := by
  rw [VRc_get] at h ⊢
  intro j d hd
  rw [List.getElem?_take] at hd
  split at hd
  · rw [List.getElem?_drop] at hd
    obtain ⟨u, hu, hd'⟩ := h (k + j) d hd
    exact ⟨u, by rw [Nat.add_assoc]; exact hu, hd'⟩
  · cases hd
theorem VRc.dropN {w : World} {I : Nat → Prop} {b o : Nat} {cs : List PV} (h : VRc w I b o cs) (k : Nat) : VRc w I b (o + k) (cs.drop k) := by
  have := h.sub k cs.length
  rwa [List.take_of_length_le (by simp)] at this

theorem VRds.sub {w : World} {X : Ctx} {ds : List DV} {us : List Value} (h : VRds w X ds us) (k n : Nat) : VRds w X ((ds.drop k).take n) ((us.drop k).take n) := by
  refine ⟨by simp [h.1], fun j d u hd hu => ?_⟩
  rw [List.getElem?_take] at hd hu
  split at hd
  · rename_i hj
    rw [if_pos hj, List.getElem?_drop] at hu
    rw [List.getElem?_drop] at hd
    exact h.2 (k + j) d u hd hu
  · cases hd

/-! ### Sizes -/
def aggOf (P : Program) (t : TypeId) : Bool :=
  match P.underlying t with
  | some (.struct _) | some (.array _ _) => true
  | _ => false
def szFits (P : Program) (t : TypeId) (n : Option Nat) : Bool :=
  match n with
  | some m => aggOf P t && decide ((P.info? t).map (·.size) = some m)
  | none => (P.underlying t).isSome && !aggOf P t

section
variable {P : Program} {o : Oper} {s : S} {K : Eff → Prop}

theorem run_isAgg' {t : TypeId} {n : Option Nat} (h : szFits P t n = true) (w : World) : (isAgg t).run P w = .ok n.isSome w := by
  cases n with
  | some m =>
    simp only [szFits, Bool.and_eq_true] at h
    have h1 := h.1
    unfold aggOf at h1
    split at h1
    · rename_i fs hu; simp [isAgg, run_underlying hu]
    · rename_i k e hu; simp [isAgg, run_underlying hu]
    · cases h1
  | none =>
    simp only [szFits, Bool.and_eq_true, Bool.not_eq_true'] at h
    obtain ⟨d, hd⟩ := Option.isSome_iff_exists.1 h.1
    have h2 := h.2
    unfold aggOf at h2
    rw [hd] at h2
    unfold isAgg
    simp only [Sem.run_bind, run_underlying hd, Result.andThen_ok]
    split at h2 <;> first
      | (cases h2; done)
      | (split <;> first | rfl | simp_all)

theorem run_sizeOf' {t : TypeId} {m : Nat} (h : (P.info? t).map (·.size) = some m) (w : World) : (sizeOf t).run P w = .ok m w := by
  obtain ⟨i, hi, rfl⟩ := Option.map_eq_some_iff.1 h
  simp [sizeOf, typeInfo, hi]
theorem szFits_size {t : TypeId} {m : Nat} (h : szFits P t (some m) = true) : (P.info? t).map (·.size) = some m := by
  simp only [szFits, Bool.and_eq_true, decide_eq_true_eq] at h
  exact h.2

def Took (n : Option Nat) (xs : List DV) (r : TV) : Prop :=
  match n with
  | some m => m ≤ xs.length ∧ r = .agg (xs.take m)
  | none => ∃ x, xs[0]? = some x ∧ r = .c x

/-- Reading a variable. -/
theorem run_loadVar' {w : World} {X : Ctx} {t : TypeId} {n : Option Nat} (hf : szFits P t n = true) {b off : Nat} {xs : List DV} (h : CellsAt w X b off xs) {r : TV}
    (hr : Took n xs r) :
    ∃ v, (loadVar t ⟨b, off, none⟩).run P w = .ok v w ∧ TVR w X r v := by
  cases n with
  | some m =>
    obtain ⟨h1, rfl⟩ := hr
    obtain ⟨us, hl, hc, hv⟩ := (h.takeN m).vals
    have hlen : us.length = m := by rw [hl, List.length_take]; omega
    have hrun := run_loadCells_list (P := P) w ⟨b, off, none⟩ us fun j v hj => by rw [Addr.add_lit]; exact hc j v hj
    rw [hlen] at hrun
    refine ⟨.agg us.toArray, ?_, us.toArray, rfl, hv⟩
    simp [loadVar, run_isAgg' hf, run_sizeOf' (szFits_size hf), hrun]
  | none =>
    obtain ⟨x, hx, rfl⟩ := hr
    obtain ⟨u, hu, hd⟩ := h 0 x hx
    refine ⟨u, ?_, hd⟩
    simp only [Nat.add_zero] at hu
    simp [loadVar, run_isAgg' hf, hu]

theorem oneOr_some {n : Option Nat} {xs : List DV} (h : oneOr n xs K) : ∃ r, Took n xs r ∧ K (.of r) := by
  cases n with
  | some m => exact ⟨_, ⟨h.1, rfl⟩, h.2⟩
  | none =>
    cases xs with
    | nil => exact h.elim
    | cons x xs => exact ⟨_, ⟨x, rfl, rfl⟩, h⟩
theorem oneOrI_some {n : Option Nat} {id : Nat} {xs : List DV} (h : oneOrI n id xs K) : ∃ r, Took n xs r ∧ K ⟨r, [id], [], 0⟩ := by
  cases n with
  | some m => exact ⟨_, ⟨h.1, rfl⟩, h.2⟩
  | none =>
    cases xs with
    | nil => exact h.elim
    | cons x xs => exact ⟨_, ⟨x, rfl, rfl⟩, h⟩

/-- An effect that writes nothing. -/
theorem Does.reads {ls : List Nat} {r : TV} {rd : List Nat}
    (h : ∀ (X : Ctx) (w : World) (a : Act) (h : Hp), (∀ t ∈ ls, ∀ d, look s.env t = some d → TVR w X d (a.tmps.getD t undef)) → HeapOk w X h → (∀ id ∈ rd, id < s.nx → h id = look s.hp id) →
      ∃ v, (execOp a.eval o).run P w = .ok (.value v) w ∧ TVR w X r v) : Does P o ls s ⟨r, rd, [], 0⟩ := by
  intro X w a h0 K Q he ok hacc _ hk
  obtain ⟨v, hr, hv⟩ := h X w a h0 he ok (fun id hid hlt => hacc id (by simp [Eff.acc, hid]) hlt)
  exact wp_value hr (hk v w X hv ok (Evol.refl _ _ _) fun id hid => .inl hid)

/-- Every object that the state knows has a name below the next. -/
def S.wf (s : S) : Prop := ∀ id o, look s.hp id = some o → id < s.nx

theorem snd_load {n : Option Nat} {x : Opd} {x' : Operand} {t : TypeId} (ho : o.op = .load t x') (hx : x.fits x' = true) (hf : szFits P t n = true) (wf : s.wf) (h : (AOp.load n x).eff P s K) :
    ∃ e, Does P o x.looks s e ∧ K e := by
  obtain ⟨d, hd, h⟩ := asC_some h
  cases d with
  | ptr id off =>
    obtain ⟨ob, hob, h⟩ := someL_some h
    obtain ⟨r, hr, hK⟩ := oneOrI_some h
    refine ⟨_, Does.reads fun X w a h he ok hacc => ?_, hK⟩
    obtain ⟨_, b, hm, hp⟩ := ev_sound (w := w) (X := X) (a := a) hx he hd
    have hid : h id = some ob := by rw [hacc id (by simp) (wf id ob hob)]; exact hob
    obtain ⟨v, hv, hv'⟩ := run_loadVar' (P := P) hf ((ok.obj id ob hid).cellsAt hm off) hr
    exact ⟨v, by simp [execOp, ho, hp, Instr.loadAt, Instr.sureAddr, hv], hv'⟩
  | p x0 =>
    cases x0 with
    | vptr cs =>
      obtain ⟨r, hr, hK⟩ := oneOr_some h
      refine ⟨_, Does.pure fun X w a he => ?_, hK⟩
      obtain ⟨b, off, hp, hI, hc⟩ := ev_sound (w := w) (X := X) (a := a) hx he hd
      obtain ⟨v, hv, hv'⟩ := run_loadVar' (P := P) hf (VRc.cellsAt (X := X) hc) hr
      exact ⟨v, by simp [execOp, ho, hp, Instr.loadAt, Instr.sureAddr, hv], hv'⟩
    | _ => exact h.elim
  | ref => exact h.elim

theorem snd_nilck {x : Opd} {x' : Operand} (ho : o.op = .nilCheck x') (hx : x.fits x' = true) (h : (AOp.nilck x).eff P s K) :
    ∃ e, Does P o x.looks s e ∧ K e := by
  obtain ⟨d, hd, h⟩ := asC_some h
  cases d with
  | ptr id off =>
    refine ⟨_, Does.pure fun X w a he => ?_, h⟩
    have hv := ev_sound (w := w) (X := X) (a := a) hx he hd
    have hv2 := hv
    obtain ⟨_, b, hm, hp⟩ := hv2
    exact ⟨_, by simp [execOp, ho, hp], hp ▸ hv⟩
  | p x0 =>
    cases x0 with
    | vptr cs =>
      refine ⟨_, Does.pure fun X w a he => ?_, h⟩
      have hv := ev_sound (w := w) (X := X) (a := a) hx he hd
      have hv2 := hv
      obtain ⟨b, off, hp, hI, hc⟩ := hv2
      exact ⟨_, by simp [execOp, ho, hp], hp ▸ hv⟩
    | _ => exact h.elim
  | ref => exact h.elim

def fldFits (P : Program) (t : TypeId) (f off : Nat) : Bool :=
  match P.underlying t with
  | some (.struct fs) => match fs[f]? with
    | some fd => decide (fd.offset = off) && (match P.info? fd.type with | some i => decide (i.size ≠ 0) | none => false)
    | none => false
  | _ => false
theorem fldFits_some {t : TypeId} {f off : Nat} (h : fldFits P t f off = true) : ∃ fs fd i, P.underlying t = some (.struct fs) ∧ fs[f]? = some fd ∧ fd.offset = off ∧ P.info? fd.type = some i ∧ i.size ≠ 0 := by
  unfold fldFits at h
  split at h
  · rename_i fs hu
    split at h
    · rename_i fd hfd
      simp only [Bool.and_eq_true, decide_eq_true_eq] at h
      split at h
      · rename_i i hi
        exact ⟨fs, fd, i, hu, hfd, h.1, hi, by simpa using h.2⟩
      · cases h.2
    · cases h
  · cases h

theorem run_fieldAt {t : TypeId} {f off : Nat} (h : fldFits P t f off = true) (b q : Nat) (w : World) : (Instr.fieldAt t (.pointer (some ⟨b, q, none⟩)) f).run P w = .ok (.pointer (some ⟨b, q + off, none⟩)) w := by
  obtain ⟨fs, fd, i, h1, h2, h3, h4, h5⟩ := fldFits_some h
  have hs : (sizeOf fd.type).run P w = .ok i.size w := run_sizeOf' (by simp [h4]) w
  simp [Instr.fieldAt, run_underlying h1, h2, Instr.sureAddr, fieldPlace, hs, h5, h3, Addr.add_lit]

theorem snd_fld {off : Nat} {x : Opd} {x' : Operand} {t : TypeId} {f : Nat} (ho : o.op = .fieldAddr t x' f) (hx : x.fits x' = true) (hf : fldFits P t f off = true) (h : (AOp.fld off x).eff P s K) :
    ∃ e, Does P o x.looks s e ∧ K e := by
  obtain ⟨d, hd, h⟩ := asC_some h
  cases d with
  | ptr id q =>
    refine ⟨_, Does.pure fun X w a he => ?_, h⟩
    obtain ⟨hdm, b, hm, hp⟩ := ev_sound (w := w) (X := X) (a := a) hx he hd
    exact ⟨_, by simp [execOp, ho, hp, run_fieldAt hf], hdm, b, hm, rfl⟩
  | p x0 =>
    cases x0 with
    | vptr cs =>
      refine ⟨_, Does.pure fun X w a he => ?_, h⟩
      obtain ⟨b, q, hp, hI, hc⟩ := ev_sound (w := w) (X := X) (a := a) hx he hd
      exact ⟨_, by simp [execOp, ho, hp, run_fieldAt hf], b, q + off, rfl, hI, hc.dropN off⟩
    | _ => exact h.elim
  | ref => exact h.elim

/-- Parts of aggregates. -/
theorem run_part' {w : World} {X : Ctx} {t : TypeId} {n : Option Nat} (hf : szFits P t n = true) {cs : Array Value} {off : Nat} {xs : List DV} (h : VRds w X xs cs.toList) {r : TV}
    (hr : Took n (xs.drop off) r) :
    ∃ v, (part t cs off).run P w = .ok v w ∧ TVR w X r v := by
  cases n with
  | some m =>
    obtain ⟨h1, rfl⟩ := hr
    refine ⟨.agg (cs.extract off (off + m)), ?_, _, rfl, ?_⟩
    · simp [part, run_isAgg' hf, run_sizeOf' (szFits_size hf)]
    · have := h.sub off m
      simpa [Array.toList_extract, List.extract_eq_take_drop] using this
  | none =>
    obtain ⟨x, hx, rfl⟩ := hr
    rw [List.getElem?_drop, Nat.add_zero] at hx
    have hlt : off < cs.toList.length := by rw [← h.1]; exact (List.getElem?_eq_some_iff.1 hx).1
    have hcs : cs[off]? = some cs.toList[off] := by simp at hlt; simp [hlt]
    refine ⟨cs.toList[off], ?_, h.2 off x _ hx (List.getElem?_eq_getElem hlt)⟩
    simp only [part, Sem.run_bind, run_isAgg' hf, Result.andThen_ok, Option.isSome_none, Bool.false_eq_true, if_false, hcs, Sem.run_pure]

def getFits (P : Program) (t : TypeId) (f off : Nat) (n : Option Nat) : Bool :=
  match P.underlying t with
  | some (.struct fs) => match fs[f]? with
    | some fd => decide (fd.offset = off) && szFits P fd.type n
    | none => false
  | _ => false

theorem snd_get {off : Nat} {n : Option Nat} {x : Opd} {x' : Operand} {t : TypeId} {f : Nat} (ho : o.op = .field t x' f) (hx : x.fits x' = true) (hf : getFits P t f off n = true) (h : (AOp.get off n x).eff P s K) :
    ∃ e, Does P o x.looks s e ∧ K e := by
  obtain ⟨xs, hd, h⟩ := asA_some h
  obtain ⟨r, hr, hK⟩ := oneOr_some h
  refine ⟨_, Does.pure fun X w a he => ?_, hK⟩
  obtain ⟨cs, hp, hv⟩ := ev_sound (w := w) (X := X) (a := a) hx he hd
  unfold getFits at hf
  split at hf
  · rename_i fs hu
    split at hf
    · rename_i fd hfd
      simp only [Bool.and_eq_true, decide_eq_true_eq] at hf
      obtain ⟨hoff, hsz⟩ := hf
      subst hoff
      obtain ⟨v, hrun, hv'⟩ := run_part' (P := P) hsz hv hr
      exact ⟨v, by simp [execOp, ho, hp, Instr.field, run_underlying hu, hfd, asAgg, hrun], hv'⟩
    · cases hf
  · cases hf

def idxvFits (P : Program) (t : TypeId) (ln sz : Nat) (n : Option Nat) : Bool :=
  match P.underlying t with
  | some (.array m e) => decide (m = ln) && decide ((P.info? e).map (·.size) = some sz) && szFits P e n
  | _ => false

theorem snd_idxv {ln sz : Nat} {n : Option Nat} {x y : Opd} {x' y' : Operand} {t : TypeId} (ho : o.op = .index t x' y') (hx : x.fits x' = true) (hy : y.fits y' = true) (hf : idxvFits P t ln sz n = true) (h : (AOp.idxv ln sz n x y).eff P s K) :
    ∃ e, Does P o (x.looks ++ y.looks) s e ∧ K e := by
  obtain ⟨xs, hd, h⟩ := asA_some h
  obtain ⟨k, i, hi, h⟩ := asI_some h
  obtain ⟨⟨h0, h1⟩, h⟩ := h
  obtain ⟨r, hr, hK⟩ := oneOr_some h
  refine ⟨_, Does.pure fun X w a he => ?_, hK⟩
  obtain ⟨cs, hp, hv⟩ := ev_sound (w := w) (X := X) (a := a) hx (fun t ht => he t (by simp [ht])) hd
  have hq := tvr_v (ev_sound (w := w) (X := X) (a := a) hy (fun t ht => he t (by simp [ht])) hi)
  unfold idxvFits at hf
  split at hf
  · rename_i m e hu
    simp only [Bool.and_eq_true, decide_eq_true_eq] at hf
    obtain ⟨⟨rfl, hsz⟩, hn⟩ := hf
    obtain ⟨v, hrun, hv'⟩ := run_part' (P := P) hn hv hr
    exact ⟨v, by simp [execOp, ho, hp, hq, Instr.index, asIntOf, run_underlying hu, h0, h1, run_sizeOf' hsz, hrun], hv'⟩
  · cases hf

def idxaFits (P : Program) (t : TypeId) (sz : Nat) : Bool :=
  match P.underlying t with
  | some (.slice e) => decide ((P.info? e).map (·.size) = some sz)
  | _ => false
theorem idxaFits_some {t : TypeId} {sz : Nat} (h : idxaFits P t sz = true) : ∃ e, P.underlying t = some (.slice e) ∧ (P.info? e).map (·.size) = some sz := by
  unfold idxaFits at h
  split at h
  · rename_i e hu; exact ⟨e, hu, by simpa using h⟩
  · cases h

theorem run_indexAt' {t : TypeId} {sz : Nat} (h : idxaFits P t sz = true) (b q n cap : Nat) (k : IntKind) (i : Int) (h0 : 0 ≤ i) (h1 : i < n) (w : World) :
    (Instr.indexAt t (.slice (some ⟨b, q, none⟩) n cap) (.int k i)).run P w = .ok (.pointer (some ⟨b, q + i.toNat * sz, none⟩)) w := by
  obtain ⟨e, hu, hs⟩ := idxaFits_some h
  simp [Instr.indexAt, asIntOf, run_underlying hu, h0, h1, run_sizeOf' hs, Addr.add_lit]

theorem snd_idxa {sz : Nat} {x y : Opd} {x' y' : Operand} {t : TypeId} (ho : o.op = .indexAddr t x' y') (hx : x.fits x' = true) (hy : y.fits y' = true) (hf : idxaFits P t sz = true) (h : (AOp.idxa sz x y).eff P s K) :
    ∃ e, Does P o (x.looks ++ y.looks) s e ∧ K e := by
  obtain ⟨d, hd, h⟩ := asC_some h
  obtain ⟨k, i, hi, h⟩ := asI_some h
  cases d with
  | ref id off n z =>
    obtain ⟨⟨h0, h1⟩, h⟩ := h
    refine ⟨_, Does.pure fun X w a he => ?_, h⟩
    obtain ⟨hdm, h2⟩ := ev_sound (w := w) (X := X) (a := a) hx (fun t ht => he t (by simp [ht])) hd
    have hq := tvr_v (ev_sound (w := w) (X := X) (a := a) hy (fun t ht => he t (by simp [ht])) hi)
    rcases h2 with ⟨_, h2, _⟩ | ⟨b, off', cap, hm, hp, hn, _, hoff, hc⟩
    · omega
    · have : off' = off := by rcases hoff with h3 | h3 <;> omega
      subst this
      exact ⟨_, by simp [execOp, ho, hp, hq, run_indexAt' hf _ _ _ _ _ _ h0 h1], hdm, b, hm, rfl⟩
  | p x0 =>
    cases x0 with
    | val n cs =>
      obtain ⟨⟨h0, h1⟩, h⟩ := h
      refine ⟨_, Does.pure fun X w a he => ?_, h⟩
      obtain ⟨A, cap, hp, hn, h2⟩ := ev_sound (w := w) (X := X) (a := a) hx (fun t ht => he t (by simp [ht])) hd
      have hq := tvr_v (ev_sound (w := w) (X := X) (a := a) hy (fun t ht => he t (by simp [ht])) hi)
      rcases h2 with ⟨h2, _⟩ | ⟨b, q, rfl, hI, hc⟩
      · omega
      · exact ⟨_, by simp [execOp, ho, hp, hq, run_indexAt' hf _ _ _ _ _ _ h0 h1], b, q + i.toNat * sz, rfl, hI, hc.sub _ _⟩
    | _ => exact h.elim
  | ptr => exact h.elim

def idxrFits (P : Program) (t : TypeId) (ln sz : Nat) : Bool :=
  match P.underlying t with
  | some (.array m e) => decide (m = ln) && decide ((P.info? e).map (·.size) = some sz)
  | _ => false

theorem run_indexAtR {t : TypeId} {ln sz : Nat} (h : idxrFits P t ln sz = true) (b q : Nat) (k : IntKind) (i : Int) (h0 : 0 ≤ i) (h1 : i < ln) (w : World) :
    (Instr.indexAt t (.pointer (some ⟨b, q, none⟩)) (.int k i)).run P w = .ok (.pointer (some ⟨b, q + i.toNat * sz, none⟩)) w := by
  unfold idxrFits at h
  split at h
  · rename_i m e hu
    simp only [Bool.and_eq_true, decide_eq_true_eq] at h
    obtain ⟨rfl, hs⟩ := h
    simp [Instr.indexAt, asIntOf, run_underlying hu, h0, h1, run_sizeOf' hs, Addr.add_lit, Instr.sureAddr]
  · cases h

theorem snd_idxr {ln sz : Nat} {x y : Opd} {x' y' : Operand} {t : TypeId} (ho : o.op = .indexAddr t x' y') (hx : x.fits x' = true) (hy : y.fits y' = true) (hf : idxrFits P t ln sz = true) (h : (AOp.idxr ln sz x y).eff P s K) :
    ∃ e, Does P o (x.looks ++ y.looks) s e ∧ K e := by
  obtain ⟨d, hd, h⟩ := asC_some h
  obtain ⟨k, i, hi, ⟨⟨h0, h1⟩, h⟩⟩ := asI_some h
  cases d with
  | ptr id off =>
    refine ⟨_, Does.pure fun X w a he => ?_, h⟩
    obtain ⟨hdm, b, hm, hp⟩ := ev_sound (w := w) (X := X) (a := a) hx (fun t ht => he t (by simp [ht])) hd
    have hq := tvr_v (ev_sound (w := w) (X := X) (a := a) hy (fun t ht => he t (by simp [ht])) hi)
    exact ⟨_, by simp [execOp, ho, hp, hq, run_indexAtR hf _ _ _ _ h0 h1], hdm, b, hm, rfl⟩
  | p x0 =>
    cases x0 with
    | vptr cs =>
      refine ⟨_, Does.pure fun X w a he => ?_, h⟩
      obtain ⟨b, q, hp, hI, hc⟩ := ev_sound (w := w) (X := X) (a := a) hx (fun t ht => he t (by simp [ht])) hd
      have hq := tvr_v (ev_sound (w := w) (X := X) (a := a) hy (fun t ht => he t (by simp [ht])) hi)
      exact ⟨_, by simp [execOp, ho, hp, hq, run_indexAtR hf _ _ _ _ h0 h1], b, q + i.toNat * sz, rfl, hI, hc.dropN _⟩
    | _ => exact h.elim
  | ref => exact h.elim

theorem snd_ext {i : Nat} {x : Opd} {x' : Operand} (ho : o.op = .extract x' i) (hx : x.fits x' = true) (h : (AOp.ext i x).eff P s K) :
    ∃ e, Does P o x.looks s e ∧ K e := by
  simp only [AOp.eff, AOp.effN] at h
  split at h
  · rename_i ts hd
    obtain ⟨d, hdi, hK⟩ := someL_some h
    refine ⟨_, Does.pure fun X w a he => ?_, hK⟩
    obtain ⟨vs, hp, hv⟩ := ev_sound (w := w) (X := X) (a := a) hx he hd
    have key : ∀ (ts : List TV) (us : List Value) (i : Nat), TVRs w X ts us → ts[i]? = some d → ∃ u, us[i]? = some u ∧ TVR w X d u := by
      intro ts
      induction ts with
      | nil => intro us i _ h; simp at h
      | cons t ts ih =>
        rintro us i ⟨u, r, rfl, h1, h2⟩ h
        cases i with
        | zero => simp at h; subst h; exact ⟨u, rfl, h1⟩
        | succ i => simpa using ih r i h2 (by simpa using h)
    obtain ⟨u, hu, hv'⟩ := key ts vs.toList i hv hdi
    have hu' : vs[i]? = some u := by simpa using hu
    exact ⟨u, by simp [execOp, ho, hp, Instr.extract, hu'], hv'⟩
  · exact h.elim

theorem snd_len {x : Opd} {x' : Operand} {t e : TypeId} (ho : o.op = .call { callee := .builtin .len, args := #[x'], argTypes := #[t] })
    (hu : P.underlying t = some (.slice e)) (hx : x.fits x' = true) (h : (AOp.len x).eff P s K) :
    ∃ e, Does P o x.looks s e ∧ K e := by
  simp only [AOp.eff, AOp.effN] at h
  split at h
  · rename_i n cs hd
    refine pure_v rfl h (fun X w a he => ?_) |>.imp fun e h => ⟨h.1, h.2.2⟩
    obtain ⟨A, cap, hp, _⟩ := ev_sound (w := w) (X := X) (a := a) hx he hd
    simp [execOp, ho, resolve, invoke, builtin, hp, Builtin.len_, run_underlying hu, goInt]
  · rename_i id off n z hd
    refine pure_v rfl h (fun X w a he => ?_) |>.imp fun e h => ⟨h.1, h.2.2⟩
    obtain ⟨_, ⟨_, h2, hp⟩ | ⟨b, off', cap, _, hp, _⟩⟩ := ev_sound (w := w) (X := X) (a := a) hx he hd
    · subst h2; simp [execOp, ho, resolve, invoke, builtin, hp, Builtin.len_, run_underlying hu, goInt]
    · simp [execOp, ho, resolve, invoke, builtin, hp, Builtin.len_, run_underlying hu, goInt]
  · rename_i hd
    refine pure_v rfl h (fun X w a he => ?_) |>.imp fun e h => ⟨h.1, h.2.2⟩
    have hp := tvr_v (ev_sound (w := w) (X := X) (a := a) hx he hd)
    simp [execOp, ho, resolve, invoke, builtin, hp, Builtin.len_, run_underlying hu, goInt]
  · exact h.elim

theorem snd_lens {x : Opd} {x' : Operand} {t : TypeId} (ho : o.op = .call { callee := .builtin .len, args := #[x'], argTypes := #[t] })
    (hu : P.underlying t = some .string) (hx : x.fits x' = true) (h : (AOp.lens x).eff P s K) :
    ∃ e, Does P o x.looks s e ∧ K e := by
  obtain ⟨b, hd, h⟩ := asS_some h
  refine pure_v rfl h (fun X w a he => ?_) |>.imp fun e h => ⟨h.1, h.2.2⟩
  have hp := tvr_v (ev_sound (w := w) (X := X) (a := a) hx he hd)
  simp [execOp, ho, resolve, invoke, builtin, hp, Builtin.len_, run_underlying hu, goInt]

end
end Go.Proofs.Ytjieenfbfckafaa.Am

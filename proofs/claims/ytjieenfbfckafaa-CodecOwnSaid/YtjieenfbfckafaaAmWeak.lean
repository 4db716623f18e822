/- Other views of a state: fewer temporaries, other names, objects that stay as they are from now on, nil slices as objects. -/
import Derived.Test.YtjieenfbfckafaaAmCode
namespace Go.Proofs.Ytjieenfbfckafaa.Am
open Go
set_option linter.unusedVariables false
set_option linter.unusedSimpArgs false

/-! ### Other names -/
/-- The old name of a new one. -/
def oldOf (p nx : Nat) (g : List (Nat × Nat)) (id : Nat) : Nat := if id < p then id else (look g id).getD nx
def SubO (a : Option TV) (b : TV) : Prop :=
  match a with
  | some a => Sub a b
  | none => False
theorem SubO.of {a : Option TV} {b : TV} (h : a = some b) : SubO a b := by subst h; exact Sub.refl b
theorem SubO.of_sub {a : TV} {b : TV} (h : Sub a b) : SubO (some a) b := h
def EnvRen (f : Nat → Nat) (env : List (Nat × TV)) : List (Nat × TV) → Prop
  | [] => True
  | (t, d) :: r => SubO (look env t) (d.ren f) ∧ EnvRen f env r
def HpRen (f : Nat → Nat) (hp : List (Nat × Ob)) : List (Nat × Ob) → Prop
  | [] => True
  | (i, o) :: r => look hp (f i) = some (o.ren f) ∧ HpRen f hp r
def namesOk (p nx : Nat) : List (Nat × Nat) → Bool
  | [] => true
  | (a, b) :: r => decide (p ≤ a) && decide (a < nx) && decide (p ≤ b) && (r.all fun q => !(q.2 == b) && !(q.1 == a)) && namesOk p nx r
theorem EnvRen.get {f : Nat → Nat} {env : List (Nat × TV)} : ∀ {l : List (Nat × TV)}, EnvRen f env l → ∀ {t : Nat} {d : TV}, look l t = some d → SubO (look env t) (d.ren f)
  | [], _, t, d, h => by cases h
  | (k, v) :: r, hh, t, d, h => by
    simp only [look_cons, look_nil] at h
    split at h
    · rename_i e; cases h; subst e; exact hh.1
    · exact hh.2.get h
theorem HpRen.get {f : Nat → Nat} {hp : List (Nat × Ob)} : ∀ {l : List (Nat × Ob)}, HpRen f hp l → ∀ {i : Nat} {o : Ob}, look l i = some o → look hp (f i) = some (o.ren f)
  | [], _, t, d, h => by cases h
  | (k, v) :: r, hh, t, d, h => by
    simp only [look_cons, look_nil] at h
    split at h
    · rename_i e; cases h; subst e; exact hh.1
    · exact hh.2.get h
theorem namesOk_mem {p nx : Nat} : ∀ {g : List (Nat × Nat)}, namesOk p nx g = true → ∀ a b, (a, b) ∈ g → p ≤ a ∧ a < nx ∧ p ≤ b
  | [], _, a, b, h => by cases h
  | (a0, b0) :: r, hh, a, b, h => by
    simp only [namesOk, Bool.and_eq_true, decide_eq_true_eq] at hh
    rcases List.mem_cons.1 h with h | h
    · cases h; exact ⟨hh.1.1.1.1, hh.1.1.1.2, hh.1.1.2⟩
    · exact namesOk_mem hh.2 a b h
theorem look_has {α : Type} : ∀ {l : List (Nat × α)} {i : Nat} {x : α}, look l i = some x → (i, x) ∈ l
  | (k, v) :: r, i, x, h => by
    simp only [look_cons, look_nil] at h
    split at h
    · rename_i e; cases h; subst e; simp
    · exact List.mem_cons_of_mem _ (look_has h)
theorem namesOk_inj {p nx : Nat} : ∀ {g : List (Nat × Nat)}, namesOk p nx g = true → ∀ i j b, look g i = some b → look g j = some b → i = j
  | [], _, i, j, b, h, _ => by cases h
  | (a0, b0) :: r, hh, i, j, b, hi, hj => by
    simp only [namesOk, Bool.and_eq_true, decide_eq_true_eq, List.all_eq_true, Bool.not_eq_true', beq_eq_false_iff_ne] at hh
    simp only [look_cons, look_nil] at hi hj
    by_cases h1 : i = a0 <;> by_cases h2 : j = a0
    · rw [h1, h2]
    · rw [if_pos h1] at hi; rw [if_neg h2] at hj
      cases hi
      exact absurd rfl (hh.1.2 _ (look_has hj)).1
    · rw [if_neg h1] at hi; rw [if_pos h2] at hj
      cases hj
      exact absurd rfl (hh.1.2 _ (look_has hi)).1
    · rw [if_neg h1] at hi; rw [if_neg h2] at hj
      exact namesOk_inj hh.2 i j b hi hj

section
variable {p nx : Nat} {g : List (Nat × Nat)} {X X' : Ctx} {w : World} {f : Nat → Nat}

theorem VRd.names (hI : X'.I = X.I) (hd : ∀ id, X.dm (f id) → X'.dm id ∧ X'.mu id = X.mu (f id)) {d : DV} {u : Value} (h : VRd w X (d.ren f) u) : VRd w X' d u := by
  cases d with
  | p x => show VRp w X'.I x u; rw [hI]; exact h
  | ptr id off =>
    obtain ⟨h1, b, h2, h3⟩ := h
    obtain ⟨h4, h5⟩ := hd id h1
    exact ⟨h4, b, h5.trans h2, h3⟩
  | ref id off n sz =>
    obtain ⟨h1, h⟩ := h
    obtain ⟨h4, h5⟩ := hd id h1
    exact ⟨h4, by rw [h5]; exact h⟩
theorem VRds.names (hI : X'.I = X.I) (hd : ∀ id, X.dm (f id) → X'.dm id ∧ X'.mu id = X.mu (f id)) {ds : List DV} {us : List Value} (h : VRds w X (ds.map (DV.ren f)) us) : VRds w X' ds us := by
  refine ⟨by simpa using h.1, fun j d u hj hu => (h.2 j (d.ren f) u (by rw [List.getElem?_map, hj]; rfl) hu).names hI hd⟩
mutual
theorem TVR.names (hI : X'.I = X.I) (hd : ∀ id, X.dm (f id) → X'.dm id ∧ X'.mu id = X.mu (f id)) : ∀ (t : TV) (u : Value), TVR w X (t.ren f) u → TVR w X' t u
  | .c d, u, h => VRd.names (d := d) hI hd h
  | .agg ds, u, ⟨cs, h1, h2⟩ => ⟨cs, h1, h2.names hI hd⟩
  | .tup ts, u, ⟨vs, h1, h2⟩ => ⟨vs, h1, TVRs.names hI hd ts vs.toList h2⟩
theorem TVRs.names (hI : X'.I = X.I) (hd : ∀ id, X.dm (f id) → X'.dm id ∧ X'.mu id = X.mu (f id)) : ∀ (ts : List TV) (us : List Value), TVRs w X (TV.rens f ts) us → TVRs w X' ts us
  | [], us, h => h
  | t :: ts, us, ⟨u, r, h1, h2, h3⟩ => ⟨u, r, h1, TVR.names hI hd t u h2, TVRs.names hI hd ts r h3⟩
end
end

/-- The same under other names; g: new name, old name. Those that bear none are let go. -/
theorem Wk.names {p : Nat} {s s' : S} (g : List (Nat × Nat)) (hg : namesOk p s'.nx g = true) (hp : p ≤ s'.nx) (henv : EnvRen (oldOf p s.nx g) s.env s'.env) (hhp : HpRen (oldOf p s.nx g) s.hp s'.hp) : Wk p s s' := by
  intro N X a w r
  have dmx : ∀ id, X.dm (oldOf p s.nx g id) → (id < p ∧ oldOf p s.nx g id = id) ∨ (p ≤ id ∧ look g id = some (oldOf p s.nx g id)) := by
    intro id hid
    unfold oldOf at hid ⊢
    by_cases h1 : id < p
    · rw [if_pos h1]; exact .inl ⟨h1, rfl⟩
    · rw [if_neg h1] at hid ⊢
      cases h2 : look g id with
      | none => rw [h2] at hid; have := r.dm _ hid; simp at this
      | some b => exact .inr ⟨by omega, by rfl⟩
  let X' : Ctx := ⟨X.I, fun id => X.dm (oldOf p s.nx g id), fun id => X.mu (oldOf p s.nx g id)⟩
  have hd : ∀ id, X.dm (oldOf p s.nx g id) → X'.dm id ∧ X'.mu id = X.mu (oldOf p s.nx g id) := fun id h => ⟨h, rfl⟩
  have inj : ∀ i j, X.dm (oldOf p s.nx g i) → X.dm (oldOf p s.nx g j) → oldOf p s.nx g i = oldOf p s.nx g j → i = j := by
    intro i j hi hj e
    rcases dmx i hi with ⟨h1, h2⟩ | ⟨h1, h2⟩ <;> rcases dmx j hj with ⟨h3, h4⟩ | ⟨h3, h4⟩
    · rw [← h2, ← h4, e]
    · have := (namesOk_mem hg _ _ (look_has h4)).2.2; omega
    · have := (namesOk_mem hg _ _ (look_has h2)).2.2; omega
    · exact namesOk_inj hg i j _ h2 (by rw [e]; exact h4)
  have ob : ∀ id o, look s'.hp id = some o → look s.hp (oldOf p s.nx g id) = some (o.ren (oldOf p s.nx g)) := fun id o h => hhp.get h
  have dmlt : ∀ id, X'.dm id → id < s'.nx := by
    intro id hid
    rcases dmx id hid with ⟨h1, _⟩ | ⟨_, h2⟩
    · omega
    · exact (namesOk_mem hg _ _ (look_has h2)).2.1
  refine ⟨X', ⟨r.df, r.sz, ?_, ⟨?_, ?_, ?_, r.ok.ilt⟩, ?_, dmlt⟩, ⟨rfl, rfl, rfl, Nat.le_refl _, fun _ _ _ => rfl, fun _ _ => rfl, ?_, fun _ h => h, fun b hb => .inl hb, ?_⟩⟩
  · intro t d ht
    have := henv.get ht
    cases hl : look s.env t with
    | none => rw [hl] at this; exact this.elim
    | some d0 =>
      rw [hl] at this
      obtain ⟨h1, h2⟩ := r.env t d0 hl
      exact ⟨h1, TVR.names (X := X) (X' := X') rfl hd d _ (this w X _ h2)⟩
  · intro id o ho
    have h0 := ob id o ho
    obtain ⟨h1, h2⟩ := r.ok.obj _ _ h0
    refine ⟨h1, ?_⟩
    show match X.mu (oldOf p s.nx g id) with | none => _ | some b => _
    cases hm : X.mu (oldOf p s.nx g id) with
    | none => rw [hm] at h2; simpa [Ob.ren] using h2
    | some b =>
      rw [hm] at h2
      obtain ⟨c, h3, h4, h5⟩ := h2
      refine ⟨c, h3, by simpa [Ob.ren] using h4, fun j d u hj hu => VRd.names (X := X) (X' := X') rfl hd (h5 j (d.ren _) u ?_ hu)⟩
      show (o.xs.map _)[j]? = _
      rw [List.getElem?_map, hj]; rfl
  · intro i j x y b hi hj hmi hmj
    have hi := ob i x hi
    have hj := ob j y hj
    exact inj i j (r.ok.obj _ _ hi).1 (r.ok.obj _ _ hj).1 (r.ok.inj _ _ _ _ b hi hj hmi hmj)
  · intro i x b hi hm
    exact r.ok.notI _ _ b (ob i x hi) hm
  · intro id o ho
    exact dmlt id (r.ok.obj _ _ (ob id o ho)).1
  · intro id hid hdm
    have e : oldOf p s.nx g id = id := by unfold oldOf; rw [if_pos hid]
    show X.dm (oldOf p s.nx g id) ∧ X.mu (oldOf p s.nx g id) = X.mu id
    rw [e]
    exact ⟨hdm, rfl⟩
  · intro id o b ho hm
    exact .inr ⟨_, _, ob id o ho, hm⟩

/-! ### An object that stays as it is from now on -/
def DV.frz (id : Nat) (cs : List PV) : DV → DV
  | .p x => .p x
  | .ptr i off => if i = id then .p (.vptr (cs.drop off)) else .ptr i off
  | .ref i off n sz => if i = id then .p (.val n ((cs.drop off).take (n * sz))) else .ref i off n sz
mutual
def TV.frz (id : Nat) (cs : List PV) : TV → TV
  | .c d => .c (d.frz id cs)
  | .agg ds => .agg (ds.map (DV.frz id cs))
  | .tup ts => .tup (TV.frzs id cs ts)
def TV.frzs (id : Nat) (cs : List PV) : List TV → List TV
  | [] => []
  | t :: ts => t.frz id cs :: TV.frzs id cs ts
end
def frzE (id : Nat) (cs : List PV) : List (Nat × TV) → List (Nat × TV)
  | [] => []
  | (t, d) :: r => (t, d.frz id cs) :: frzE id cs r
def frzH (id : Nat) (cs : List PV) : List (Nat × Ob) → List (Nat × Ob)
  | [] => []
  | (i, o) :: r => if i = id then frzH id cs r else (i, ⟨o.e, o.xs.map (DV.frz id cs)⟩) :: frzH id cs r
def S.frz (id : Nat) (cs : List PV) (s : S) : S := ⟨frzE id cs s.env, frzH id cs s.hp, s.nx⟩
theorem look_frzE {id : Nat} {cs : List PV} {t : Nat} {d : TV} : ∀ {l : List (Nat × TV)}, look (frzE id cs l) t = some d → ∃ d0, look l t = some d0 ∧ d = d0.frz id cs
  | [], h => by cases h
  | (k, v) :: r, h => by
    simp only [frzE, look_cons, look_nil] at h ⊢
    split at h
    · rename_i e; cases h; exact ⟨v, by rw [if_pos e], rfl⟩
    · rename_i e; rw [if_neg e]; exact look_frzE h
theorem look_frzH {id : Nat} {cs : List PV} {t : Nat} {o : Ob} : ∀ {l : List (Nat × Ob)}, look (frzH id cs l) t = some o → ∃ o0, t ≠ id ∧ look l t = some o0 ∧ o = ⟨o0.e, o0.xs.map (DV.frz id cs)⟩
  | [], h => by cases h
  | (k, v) :: r, h => by
    simp only [frzH] at h
    simp only [look_cons, look_nil]
    by_cases hk : k = id
    · rw [if_pos hk] at h
      obtain ⟨o0, h1, h2, h3⟩ := look_frzH h
      exact ⟨o0, h1, by rw [if_neg (by omega)]; exact h2, h3⟩
    · rw [if_neg hk] at h
      simp only [look_cons, look_nil] at h
      split at h
      · rename_i e; cases h; exact ⟨v, by rw [e]; exact hk, by rw [if_pos e], rfl⟩
      · rename_i e
        rw [if_neg e]
        exact look_frzH h

section
variable {id : Nat} {cs : List PV} {X X' : Ctx} {w : World}
/-- What the object's block holds. -/
def Froz (w : World) (X X' : Ctx) (id : Nat) (cs : List PV) : Prop :=
  (∀ b, X.I b → X'.I b) ∧ X'.dm = X.dm ∧ X'.mu = X.mu ∧ ∀ b, X.mu id = some b → X'.I b ∧ ∀ o, VRc w X'.I b o (cs.drop o)
theorem VRc_drop {w : World} {I : Nat → Prop} {b o : Nat} {cs : List PV} (h : VRc w I b o cs) (k : Nat) : VRc w I b (o + k) (cs.drop k) := by
  rw [VRc_get] at h ⊢
  intro j d hj
  rw [List.getElem?_drop] at hj
  have := h (k + j) d hj
  rwa [← Nat.add_assoc] at this
theorem VRc_take {w : World} {I : Nat → Prop} {b o : Nat} {cs : List PV} (h : VRc w I b o cs) (k : Nat) : VRc w I b o (cs.take k) := by
  rw [VRc_get] at h ⊢
  intro j d hj
  rw [List.getElem?_take] at hj
  split at hj
  · exact h j d hj
  · cases hj
theorem VRd.frz (hf : Froz w X X' id cs) {d : DV} {u : Value} (h : VRd w X d u) : VRd w X' (d.frz id cs) u := by
  obtain ⟨hI, hdm, hmu, hc⟩ := hf
  cases d with
  | p x => exact VRp.mono (w := w) (w' := w) hI (fun _ _ => rfl) x u h
  | ptr i off =>
    obtain ⟨h1, b, h2, h3⟩ := h
    simp only [DV.frz]
    split
    · rename_i e; subst e
      obtain ⟨h4, h5⟩ := hc b h2
      exact ⟨b, off, h3, h4, h5 off⟩
    · exact ⟨by rw [hdm]; exact h1, b, by rw [hmu]; exact h2, h3⟩
  | ref i off n sz =>
    obtain ⟨h1, h⟩ := h
    simp only [DV.frz]
    split
    · rename_i e; subst e
      rcases h with ⟨h2, rfl, rfl⟩ | ⟨b, off', cap, h2, rfl, h3, h4, h5, h6⟩
      · exact ⟨none, 0, rfl, Nat.le_refl _, .inl ⟨rfl, by simp⟩⟩
      · refine ⟨_, cap, rfl, h3, ?_⟩
        rcases h5 with rfl | rfl
        · have : n = 0 := by omega
          subst this
          exact .inl ⟨rfl, by simp⟩
        · obtain ⟨h7, h8⟩ := hc b h2
          exact .inr ⟨b, off', rfl, h7, VRc_take (h8 off') _⟩
    · refine ⟨by rw [hdm]; exact h1, ?_⟩
      rw [hmu]
      exact h
theorem VRds.frz (hf : Froz w X X' id cs) {ds : List DV} {us : List Value} (h : VRds w X ds us) : VRds w X' (ds.map (DV.frz id cs)) us := by
  refine ⟨by simpa using h.1, fun j d u hj hu => ?_⟩
  rw [List.getElem?_map] at hj
  cases hx : ds[j]? with
  | none => rw [hx] at hj; cases hj
  | some d0 =>
    rw [hx] at hj
    cases hj
    exact (h.2 j d0 u hx hu).frz hf
mutual
theorem TVR.frz (hf : Froz w X X' id cs) : ∀ (t : TV) (u : Value), TVR w X t u → TVR w X' (t.frz id cs) u
  | .c d, u, h => VRd.frz hf (d := d) h
  | .agg ds, u, ⟨c, h1, h2⟩ => ⟨c, h1, h2.frz hf⟩
  | .tup ts, u, ⟨vs, h1, h2⟩ => ⟨vs, h1, TVRs.frz hf ts vs.toList h2⟩
theorem TVRs.frz (hf : Froz w X X' id cs) : ∀ (ts : List TV) (us : List Value), TVRs w X ts us → TVRs w X' (TV.frzs id cs ts) us
  | [], us, h => h
  | t :: ts, us, ⟨u, r, h1, h2, h3⟩ => ⟨u, r, h1, TVR.frz hf t u h2, TVRs.frz hf ts r h3⟩
end
end

theorem Wk.freeze {p : Nat} {s : S} (id : Nat) (e : TypeId) (cs : List PV) (h : look s.hp id = some ⟨e, cs.map DV.p⟩) : Wk p s (s.frz id cs) := by
  intro N X a w r
  -- the other objects, in the view X'
  have fin : ∀ X', Froz w X X' id cs → HeapOk w X' (Hp.del (look s.hp) id) → Evol X w (look s.hp) X' w (Hp.del (look s.hp) id) → ∃ X', Rel N X' (s.frz id cs) a w ∧ EvolP p X w (look s.hp) X' w (look (s.frz id cs).hp) := by
    intro X' hf ok ev
    have hob : ∀ i o, look (frzH id cs s.hp) i = some o → ∃ o0, i ≠ id ∧ look s.hp i = some o0 ∧ o = ⟨o0.e, o0.xs.map (DV.frz id cs)⟩ := fun i o ho => look_frzH ho
    have hdel : ∀ i o, i ≠ id → look s.hp i = some o → Hp.del (look s.hp) id i = some o := fun i o hi ho => by unfold Hp.del; rw [if_neg hi]; exact ho
    refine ⟨X', ⟨r.df, r.sz, ?_, ⟨?_, ?_, ?_, ok.ilt⟩, ?_, ?_⟩, ⟨rfl, rfl, rfl, Nat.le_refl _, fun _ _ _ => rfl, fun _ _ => rfl, fun i _ hi => ev.dm i hi, ev.imm, ev.newI, ?_⟩⟩
    · intro t d ht
      obtain ⟨d0, h1, rfl⟩ := look_frzE ht
      obtain ⟨h2, h3⟩ := r.env t d0 h1
      exact ⟨h2, TVR.frz hf d0 _ h3⟩
    · intro i o ho
      obtain ⟨o0, h1, h2, rfl⟩ := hob i o ho
      obtain ⟨h3, h4⟩ := r.ok.obj i o0 h2
      refine ⟨by rw [hf.2.1]; exact h3, ?_⟩
      rw [hf.2.2.1]
      cases hm : X.mu i with
      | none => rw [hm] at h4; simp only at h4 ⊢; rw [h4]; rfl
      | some b =>
        rw [hm] at h4
        obtain ⟨c, h5, h6, h7⟩ := h4
        refine ⟨c, h5, by simpa using h6, fun j d u hj hu => ?_⟩
        rw [List.getElem?_map] at hj
        cases hx : o0.xs[j]? with
        | none => rw [hx] at hj; cases hj
        | some d0 =>
          rw [hx] at hj
          cases hj
          exact (h7 j d0 u hx hu).frz hf
    · intro i j x y b hi hj hmi hmj
      obtain ⟨x0, h1, h2, _⟩ := hob i x hi
      obtain ⟨y0, h3, h4, _⟩ := hob j y hj
      exact ok.inj i j x0 y0 b (hdel i x0 h1 h2) (hdel j y0 h3 h4) hmi hmj
    · intro i x b hi hm
      obtain ⟨x0, h1, h2, _⟩ := hob i x hi
      exact ok.notI i x0 b (hdel i x0 h1 h2) hm
    · intro i o ho
      obtain ⟨o0, h1, h2, _⟩ := hob i o ho
      exact r.wf i o0 h2
    · intro i hi
      rw [hf.2.1] at hi
      exact r.dm i hi
    · intro i o b ho hm
      obtain ⟨o0, h1, h2, _⟩ := hob i o ho
      exact ev.live i o0 b (hdel i o0 h1 h2) hm
  have h0 := (r.ok.obj id _ h).2
  cases hm : X.mu id with
  | none =>
    obtain ⟨ok, ev⟩ := r.ok.del id
    exact fin X ⟨fun _ h => h, rfl, rfl, fun b hb => by rw [hm] at hb; cases hb⟩ ok ev
  | some b =>
    rw [hm] at h0
    obtain ⟨c, h1, h2, h3⟩ := h0
    obtain ⟨ok, ev⟩ := r.ok.freeze h hm
    refine fin (X.stay b) ⟨fun _ h => .inl h, rfl, rfl, fun b' hb' => ?_⟩ ok ev
    rw [hm] at hb'
    cases hb'
    refine ⟨.inr rfl, fun o => ?_⟩
    have hall : VRc w (X.stay b).I b 0 cs := by
      rw [VRc_get]
      intro j d hj
      have hjl : j < cs.length := (List.getElem?_eq_some_iff.1 hj).1
      simp only [List.length_map] at h2
      have hjc : c[j]? = some (c[j]'(by omega)) := Array.getElem?_eq_getElem (by omega)
      refine ⟨c[j]'(by omega), ?_, ?_⟩
      · rw [Nat.zero_add]
        simp only [World.cell?, h1]
        simp
      · have := h3 j (.p d) _ (by rw [List.getElem?_map, hj]; rfl) hjc
        exact VRp.mono (w := w) (w' := w) (fun _ h => .inl h) (fun _ _ => rfl) d _ this
    have := VRc_drop hall o
    rwa [Nat.zero_add] at this

/-! ### A nil slice as an object of its own -/
theorem Wk.adopt {p : Nat} {s : S} (t sz : Nat) (e : TypeId) (h : look s.env t = some (.c (.p (.v (.slice none 0 0))))) : Wk p s ⟨put s.env t (.c (.ref s.nx 0 0 sz)), put s.hp s.nx ⟨e, []⟩, s.nx + 1⟩ := by
  intro N X a w r
  have hid : ¬ X.dm s.nx := fun hd => by have := r.dm _ hd; omega
  obtain ⟨ok, ev⟩ := r.ok.nil hid e
  have hl : look (put s.hp s.nx ⟨e, []⟩) = Hp.set (look s.hp) s.nx ⟨e, []⟩ := by
    funext j; rw [look_put]; rfl
  refine ⟨X.name s.nx none, ⟨r.df, r.sz, ?_, by rw [show (⟨_, put s.hp s.nx ⟨e, []⟩, _⟩ : S).hp = put s.hp s.nx ⟨e, []⟩ from rfl, hl]; exact ok, ?_, ?_⟩, by rw [show (⟨_, put s.hp s.nx ⟨e, []⟩, _⟩ : S).hp = put s.hp s.nx ⟨e, []⟩ from rfl, hl]; exact ev.toP p⟩
  · intro t' d hd
    have hd : look (put s.env t (.c (.ref s.nx 0 0 sz))) t' = some d := hd
    rw [look_put] at hd
    split at hd
    · rename_i ht
      cases hd
      subst ht
      obtain ⟨h1, h2⟩ := r.env t' _ h
      obtain ⟨h3, _⟩ := h2
      exact ⟨h1, .inr rfl, .inl ⟨Ctx.name_mu_same _ _ _, rfl, h3⟩⟩
    · obtain ⟨h1, h2⟩ := r.env t' d hd
      exact ⟨h1, TVR.mono (ev.keeps r.ok) d _ h2⟩
  · intro id o ho
    have ho : look (put s.hp s.nx ⟨e, []⟩) id = some o := ho
    rw [look_put] at ho
    show id < s.nx + 1
    split at ho
    · omega
    · have := r.wf id o ho; omega
  · intro id hid
    show id < s.nx + 1
    rcases hid with h1 | h1
    · have := r.dm id h1; omega
    · omega

end Go.Proofs.Ytjieenfbfckafaa.Am

/- The operations' effects are the model's: a call by its contract. -/
import Derived.Test.YtjieenfbfckafaaAmSound9
namespace Go.Proofs.Ytjieenfbfckafaa.Am
open Go
set_option linter.unusedVariables false
set_option linter.unusedSimpArgs false

/-- The names seen through other names. -/
def Ctx.via (X : Ctx) (f : Nat → Nat) : Ctx := { I := X.I, dm := fun j => X.dm (f j), mu := fun j => X.mu (f j) }

theorem VRd.via {w : World} {X : Ctx} {f : Nat → Nat} {d : DV} {u : Value} : VRd w (X.via f) d u ↔ VRd w X (d.ren f) u := by
  cases d <;> exact Iff.rfl
theorem VRds.via {w : World} {X : Ctx} {f : Nat → Nat} {ds : List DV} {us : List Value} : VRds w (X.via f) ds us ↔ VRds w X (ds.map (DV.ren f)) us := by
  constructor
  · rintro ⟨h1, h2⟩
    refine ⟨by simpa using h1, fun j d u hd hu => ?_⟩
    rw [List.getElem?_map] at hd
    obtain ⟨e, he, rfl⟩ := Option.map_eq_some_iff.1 hd
    exact VRd.via.1 (h2 j e u he hu)
  · rintro ⟨h1, h2⟩
    refine ⟨by simpa using h1, fun j d u hd hu => VRd.via.2 (h2 j (d.ren f) u (by rw [List.getElem?_map, hd]; rfl) hu)⟩
mutual
theorem TVR.via {w : World} {X : Ctx} {f : Nat → Nat} : ∀ (t : TV) (u : Value), TVR w (X.via f) t u ↔ TVR w X (t.ren f) u
  | .c d, u => VRd.via
  | .agg ds, u => by
    constructor
    · rintro ⟨cs, h1, h2⟩; exact ⟨cs, h1, VRds.via.1 h2⟩
    · rintro ⟨cs, h1, h2⟩; exact ⟨cs, h1, VRds.via.2 h2⟩
  | .tup ts, u => by
    constructor
    · rintro ⟨vs, h1, h2⟩; exact ⟨vs, h1, (TVRs.via ts _).1 h2⟩
    · rintro ⟨vs, h1, h2⟩; exact ⟨vs, h1, (TVRs.via ts _).2 h2⟩
theorem TVRs.via {w : World} {X : Ctx} {f : Nat → Nat} : ∀ (ts : List TV) (us : List Value), TVRs w (X.via f) ts us ↔ TVRs w X (TV.rens f ts) us
  | [], us => Iff.rfl
  | t :: ts, us => by
    constructor
    · rintro ⟨u, r, h1, h2, h3⟩; exact ⟨u, r, h1, (TVR.via t u).1 h2, (TVRs.via ts r).1 h3⟩
    · rintro ⟨u, r, h1, h2, h3⟩; exact ⟨u, r, h1, (TVR.via t u).2 h2, (TVRs.via ts r).2 h3⟩
end
theorem ObjR.via {w : World} {X : Ctx} {f : Nat → Nat} {j : Nat} {o : Ob} : ObjR w (X.via f) j o ↔ ObjR w X (f j) (o.ren f) := by
  unfold ObjR
  show (X.dm (f j) ∧ _) ↔ (X.dm (f j) ∧ _)
  refine and_congr Iff.rfl ?_
  show (match X.mu (f j) with | none => _ | some b => _) ↔ _
  cases X.mu (f j) with
  | none => simp [Ob.ren]
  | some b =>
    constructor
    · rintro ⟨c, h1, h2, h3⟩
      refine ⟨c, h1, by simpa [Ob.ren] using h2, fun j d u hd hu => ?_⟩
      simp only [Ob.ren, List.getElem?_map] at hd
      obtain ⟨e, he, rfl⟩ := Option.map_eq_some_iff.1 hd
      exact VRd.via.1 (h3 j e u he hu)
    · rintro ⟨c, h1, h2, h3⟩
      refine ⟨c, h1, by simpa [Ob.ren] using h2, fun j d u hd hu => VRd.via.2 (h3 j (d.ren f) u (by simp [Ob.ren, hd]) hu)⟩

theorem Subs.tvrs {w : World} {X : Ctx} : ∀ {as bs : List TV} {us : List Value}, Subs as bs → TVRs w X as us → TVRs w X bs us
  | [], [], us, _, h => h
  | a :: as, b :: bs, us, ⟨h1, h2⟩, ⟨u, r, e, h3, h4⟩ => ⟨u, r, e, h1 w X u h3, Subs.tvrs h2 h4⟩
  | [], _ :: _, _, h, _ => h.elim
  | _ :: _, [], _, h, _ => h.elim

theorem upd_dels (h : Hp) : ∀ (sg : List Nat) (r : List (Nat × Option Ob)), h.upd (sg.map (fun i => (i, none)) ++ r) = Hp.upd (fun i => if i ∈ sg then none else h i) r
  | [], r => by simp
  | i :: sg, r => by
    simp only [List.map_cons, List.cons_append, Hp.upd]
    rw [upd_dels (h.del i) sg r]
    congr 1
    funext j
    simp only [Hp.del, List.mem_cons]
    by_cases h1 : j ∈ sg
    · simp [h1]
    · by_cases h2 : j = i <;> simp [h1, h2]

theorem upd_sets (g : Nat → Nat) (m : Ob → Ob) : ∀ (l : List (Nat × Ob)) (h : Hp), (∀ p ∈ l, ∀ q ∈ l, g p.1 = g q.1 → p.1 = q.1) →
    (∀ i x, h.upd (l.map fun p => (g p.1, some (m p.2))) i = some x → (∃ j o, (j, o) ∈ l ∧ g j = i ∧ x = m o ∧ True) ∨ ((∀ p ∈ l, g p.1 ≠ i) ∧ h i = some x))
  | [], h, _, i, x, hx => .inr ⟨by simp, hx⟩
  | p :: l, h, hg, i, x, hx => by
    simp only [List.map_cons, Hp.upd] at hx
    rcases upd_sets g m l (h.set (g p.1) (m p.2)) (fun a ha b hb => hg a (by simp [ha]) b (by simp [hb])) i x hx with ⟨j, o, h1, h2, h3, _⟩ | ⟨h1, h2⟩
    · exact .inl ⟨j, o, by simp [h1], h2, h3, trivial⟩
    · rcases Hp.set_some h2 with ⟨rfl, rfl⟩ | ⟨h3, h4⟩
      · exact .inl ⟨p.1, p.2, by simp, rfl, rfl, trivial⟩
      · exact .inr ⟨fun q hq => by
          rcases List.mem_cons.1 hq with rfl | hq
          · exact fun e => h3 e.symm
          · exact h1 q hq, h4⟩

theorem look_mem {α : Type} : ∀ {l : List (Nat × α)} {j : Nat} {o : α}, (l.map (·.1)).Nodup → (j, o) ∈ l → look l j = some o
  | (k, v) :: l, j, o, hn, h => by
    simp only [List.map_cons, List.nodup_cons] at hn
    rcases List.mem_cons.1 h with e | g
    · cases e; simp [look_cons, look_nil]
    · have : j ≠ k := fun e => hn.1 (List.mem_map.2 ⟨(j, o), g, e⟩)
      simp [look_cons, look_nil, this, look_mem hn.2 g]
theorem look_in {α : Type} : ∀ {l : List (Nat × α)} {j : Nat} {o : α}, look l j = some o → (j, o) ∈ l
  | [], j, o, h => by simp [look_cons, look_nil] at h
  | (k, v) :: l, j, o, h => by
    rw [look_cons] at h
    split at h
    · rename_i e; subst e; cases h; simp
    · simp [look_in h]

theorem nameOf_lt {sg : List Nat} {nx new j : Nat} (h : j < sg.length) : nameOf sg nx new j = sg.getD j 0 := by simp [nameOf, h]
theorem nameOf_ge {sg : List Nat} {nx new j : Nat} (h : sg.length ≤ j) : nx ≤ nameOf sg nx new j ∧ nameOf sg nx new j ≤ nx + new := by
  have : ¬ j < sg.length := by omega
  simp only [nameOf, this, if_false]
  omega
theorem nameOf_new {sg : List Nat} {nx new j : Nat} (h : sg.length ≤ j) (h2 : j < sg.length + new) : nameOf sg nx new j = nx + (j - sg.length) := by
  have : ¬ j < sg.length := by omega
  simp only [nameOf, this, if_false]
  omega

mutual
theorem tvr_ren {w : World} {Y Z : Ctx} {F : Nat → Nat} (vrd : ∀ d u, VRd w Y d u → VRd w Z (d.ren F) u) : ∀ (t : TV) (u : Value), TVR w Y t u → TVR w Z (t.ren F) u
  | .c d, u, h => vrd d u h
  | .agg ds, u, ⟨cs, h1, h2⟩ => ⟨cs, h1, by simpa using h2.1, fun j d u hd hu => by
      rw [List.getElem?_map] at hd
      obtain ⟨e, he, rfl⟩ := Option.map_eq_some_iff.1 hd
      exact vrd e u (h2.2 j e u he hu)⟩
  | .tup ts, u, ⟨vs, h1, h2⟩ => ⟨vs, h1, tvrs_ren vrd ts _ h2⟩
theorem tvrs_ren {w : World} {Y Z : Ctx} {F : Nat → Nat} (vrd : ∀ d u, VRd w Y d u → VRd w Z (d.ren F) u) : ∀ (ts : List TV) (us : List Value), TVRs w Y ts us → TVRs w Z (TV.rens F ts) us
  | [], us, h => h
  | t :: ts, us, ⟨u, r, h1, h2, h3⟩ => ⟨u, r, h1, tvr_ren vrd t u h2, tvrs_ren vrd ts r h3⟩
end

section
variable {P : Program} {o : Oper} {s : S} {K : Eff → Prop}

def callFits (P : Program) (f : FuncId) : Bool :=
  match P.funcs[f]? with
  | some fn => fn.body.isSome && fn.name != "runtime.NumGoroutine"
  | none => false
def listFits : List Opd → List Operand → Bool
  | [], [] => true
  | x :: xs, y :: ys => x.fits y && listFits xs ys
  | _, _ => false

theorem evs_sound {w : World} {X : Ctx} {a : Act} : ∀ {xs : List Opd} {ys : List Operand} {ds : List TV}, listFits xs ys = true → (∀ t ∈ listLooks xs, ∀ d, look s.env t = some d → TVR w X d (a.tmps.getD t undef)) → evs s xs = some ds →
    TVRs w X ds (ys.map a.eval)
  | [], [], ds, _, _, h => by simp only [evs, Option.some.injEq] at h; subst h; rfl
  | x :: xs, y :: ys, ds, hf, he, h => by
    simp only [listFits, Bool.and_eq_true] at hf
    simp only [evs] at h
    split at h
    · rename_i d ds' h1 h2
      simp only [Option.some.injEq] at h
      subst h
      exact ⟨a.eval y, ys.map a.eval, rfl, ev_sound hf.1 (fun t ht => he t (by simp [listLooks, ht])) h1, evs_sound hf.2 (fun t ht => he t (by simp [listLooks, ht])) h2⟩
    · cases h
  | [], _ :: _, _, hf, _, _ => by simp [listFits] at hf
  | _ :: _, [], _, hf, _, _ => by simp [listFits] at hf

theorem call_enter {a : Act} {w : World} {f : FuncId} {args' : Array Operand} {ts : Array TypeId} (ho : o.op = .call { callee := .value (.func f), args := args', argTypes := ts }) (hf : callFits P f = true) {L : Act → World → Prop} {Q : Exit → Act → World → Prop}
    (h : Calls P f (args'.toList.map a.eval).toArray w fun
      | .returned v, w'' => L (a.put o.dst v) w''
      | .panicked chain, w'' => Q (.panic chain) a w''
      | .outgrown, _ => LetsOut Q) : o.wp P a w L Q := by
  unfold callFits at hf
  split at hf
  · rename_i fn hfn
    simp only [Bool.and_eq_true, bne_iff_ne, ne_eq] at hf
    have hrun : (execOp a.eval o).run P w = .ok (.enter f (args'.toList.map a.eval).toArray) w := by
      have hb : ¬ fn.body = none := by
        intro e
        rw [e] at hf
        simp at hf
      simp [execOp, ho, resolve, Deferred.ofValue, Act.eval, invoke, callFunc, hfn, hb, hf.2]
      apply Array.ext'
      simp
    unfold Oper.wp
    rw [hrun]
    exact h
  · cases hf

theorem snd_call {f : FuncId} {args : List Opd} {args' : Array Operand} {ts : Array TypeId} (ho : o.op = .call { callee := .value (.func f), args := args', argTypes := ts }) (hf : callFits P f = true) (ha : listFits args args'.toList = true) (wf : s.wf)
    (h : (AOp.call f args).eff P s K) : ∃ e, Does P o (listLooks args) s e ∧ K e := by
  obtain ⟨ds, hds, ⟨sp, sg, hM, hk, hnd, hkk, hp1, hp2, hpn, hsub, hobj, hK⟩⟩ := someL_some h
  refine ⟨_, ?_, hK⟩
  intro X w a h0 G Q he ok hacc hfr hcont
  refine call_enter (P := P) ho hf ?_
  let F := nameOf sg s.nx (sp.k' - sp.k)
  let N := sp.k' - sp.k
  have hFlt : ∀ j, j < sp.k → F j = sg.getD j 0 := fun j hj => nameOf_lt (by omega)
  have hFge : ∀ j, sp.k ≤ j → s.nx ≤ F j ∧ F j ≤ s.nx + N := fun j hj => nameOf_ge (by omega)
  have hFnew : ∀ j, sp.k ≤ j → j < sp.k' → F j = s.nx + (j - sp.k) := fun j h1 h2 => by
    have := nameOf_new (sg := sg) (nx := s.nx) (new := sp.k' - sp.k) (j := j) (by omega) (by omega)
    rw [hk]; exact this
  have hmem : ∀ j, j < sp.k → sg.getD j 0 ∈ sg := fun j hj => by
    rw [List.getD_eq_getElem?_getD, List.getElem?_eq_getElem (by omega)]; exact List.getElem_mem _
  -- the callee's objects as the caller has them
  have hsgob : ∀ j, j < sp.k → ∃ ob, look sp.hp j = some ob ∧ h0 (sg.getD j 0) = some (ob.ren F) := by
    intro j hj
    obtain ⟨h1, h2⟩ := hobj j hj
    obtain ⟨ob, hob⟩ := Option.isSome_iff_exists.1 h2
    rw [hob] at h1
    have h3 := hacc (sg.getD j 0) (by simp [Eff.acc]; exact .inl (hmem j hj)) (wf _ _ h1)
    exact ⟨ob, hob, by rw [h3, h1]; rfl⟩
  have hsglt : ∀ j, j < sp.k → sg.getD j 0 < s.nx := fun j hj => by
    obtain ⟨h1, h2⟩ := hobj j hj
    obtain ⟨ob, hob⟩ := Option.isSome_iff_exists.1 h2
    rw [hob] at h1
    exact wf _ _ h1
  have hsgdm : ∀ j, j < sp.k → X.dm (sg.getD j 0) := fun j hj => by
    obtain ⟨ob, _, h2⟩ := hsgob j hj
    exact (ok.obj _ _ h2).1
  have hsginj : ∀ i j, i < sp.k → j < sp.k → sg.getD i 0 = sg.getD j 0 → i = j := by
    intro i j hi hj hij
    rw [List.getD_eq_getElem?_getD, List.getD_eq_getElem?_getD, List.getElem?_eq_getElem (by omega), List.getElem?_eq_getElem (by omega)] at hij
    exact (List.getElem_inj hnd).1 (by simpa using hij)
  have hsgmem : ∀ i, i ∈ sg → ∃ j, j < sp.k ∧ sg.getD j 0 = i := by
    intro i hi
    obtain ⟨j, hj, rfl⟩ := List.getElem_of_mem hi
    exact ⟨j, by omega, by rw [List.getD_eq_getElem?_getD, List.getElem?_eq_getElem hj]; rfl⟩
  have hlookk : ∀ j ob, look sp.hp j = some ob → j < sp.k := fun j ob hj => hp1 _ (look_in hj)
  have hfresh : ∀ j, sp.k ≤ j → ¬ X.dm (F j) := fun j hj => by
    obtain ⟨h1, h2⟩ := hFge j hj
    exact hfr _ h1 (by simp only []; omega)
  -- the callee's context
  have okc : HeapOk w (X.via F) (look sp.hp) := by
    refine ⟨?_, ?_, ?_, ok.ilt⟩
    · intro j ob hj
      have hjk := hlookk j ob hj
      obtain ⟨ob', h1, h2⟩ := hsgob j hjk
      rw [hj] at h1; cases h1
      exact ObjR.via.2 (by rw [hFlt j hjk]; exact ok.obj _ _ h2)
    · intro i j x y b hi hj hmi hmj
      have hik := hlookk i x hi
      have hjk := hlookk j y hj
      obtain ⟨x', _, h1⟩ := hsgob i hik
      obtain ⟨y', _, h2⟩ := hsgob j hjk
      simp only [Ctx.via] at hmi hmj
      rw [hFlt i hik] at hmi
      rw [hFlt j hjk] at hmj
      exact hsginj i j hik hjk (ok.inj _ _ _ _ b h1 h2 hmi hmj)
    · intro i x b hi hm
      have hik := hlookk i x hi
      obtain ⟨x', _, h1⟩ := hsgob i hik
      simp only [Ctx.via] at hm
      rw [hFlt i hik] at hm
      exact ok.notI _ _ b h1 hm
  have hargs : TVRs w (X.via F) sp.args (args'.toList.map a.eval) := (TVRs.via _ _).2 (Subs.tvrs hsub (evs_sound ha he hds))
  refine (hM (X.via F) w _ okc (fun id hid => ?_) hargs).mono ?_
  · rcases Nat.lt_or_ge id sp.k with h1 | h1
    · exact h1
    · exact absurd hid (hfresh id h1)
  rintro e w' ⟨v, Y, rfl, hv, okY, ev, hdm⟩
  -- the caller's context behind the call
  have hYmu : ∀ j, j < sp.k → Y.dm j ∧ Y.mu j = X.mu (sg.getD j 0) := fun j hj => by
    have := ev.dm j hj (by show X.dm (F j); rw [hFlt j hj]; exact hsgdm j hj)
    refine ⟨this.1, this.2.trans ?_⟩
    show X.mu (F j) = _
    rw [hFlt j hj]
  let Z : Ctx := { I := Y.I, dm := fun id => X.dm id ∨ (s.nx ≤ id ∧ id < s.nx + N ∧ Y.dm (id - s.nx + sp.k)), mu := fun id => if s.nx ≤ id ∧ id < s.nx + N then Y.mu (id - s.nx + sp.k) else X.mu id }
  have hZold : ∀ id, ¬ (s.nx ≤ id ∧ id < s.nx + N) → Z.mu id = X.mu id := fun id h => by show (if _ then _ else _) = _; rw [if_neg h]
  have hZdm : ∀ id, X.dm id → Z.mu id = X.mu id := fun id hid => hZold id fun hr => hfr id hr.1 (by have := hr.2; simp only []; omega) hid
  have hYZ : ∀ j, Y.dm j → Z.dm (F j) ∧ Z.mu (F j) = Y.mu j := by
    intro j hj
    have hjk' := hdm j hj
    rcases Nat.lt_or_ge j sp.k with h1 | h1
    · rw [hFlt j h1]
      refine ⟨.inl (hsgdm j h1), ?_⟩
      rw [hZdm _ (hsgdm j h1), (hYmu j h1).2]
    · rw [hFnew j h1 hjk']
      have e1 : s.nx + (j - sp.k) - s.nx + sp.k = j := by omega
      refine ⟨.inr ⟨by omega, by omega, by rw [e1]; exact hj⟩, ?_⟩
      show (if _ then _ else _) = _
      rw [if_pos ⟨by omega, by omega⟩, e1]
  have vrd : ∀ d u, VRd w' Y d u → VRd w' Z (d.ren F) u := by
    intro d u hd
    cases d with
    | p x => exact hd
    | ptr id off =>
      obtain ⟨h1, b, h2, h3⟩ := hd
      obtain ⟨h4, h5⟩ := hYZ id h1
      exact ⟨h4, b, h5.trans h2, h3⟩
    | ref id off n z =>
      obtain ⟨h1, h2⟩ := hd
      obtain ⟨h4, h5⟩ := hYZ id h1
      refine ⟨h4, ?_⟩
      rw [h5]; exact h2
  have tvr : ∀ t u, TVR w' Y t u → TVR w' Z (t.ren F) u := fun t u h => tvr_ren vrd t u h
  have objR : ∀ j ob, ObjR w' Y j ob → ObjR w' Z (F j) (ob.ren F) := by
    intro j ob hj
    obtain ⟨h1, h2⟩ := hj
    obtain ⟨h3, h4⟩ := hYZ j h1
    refine ⟨h3, ?_⟩
    rw [h4]
    cases hm : Y.mu j with
    | none => rw [hm] at h2; simp [Ob.ren, h2]
    | some b =>
      rw [hm] at h2
      obtain ⟨c, h5, h6, h7⟩ := h2
      refine ⟨c, h5, by simpa [Ob.ren] using h6, fun i d u hd hu => ?_⟩
      simp only [Ob.ren, List.getElem?_map] at hd
      obtain ⟨e, he, rfl⟩ := Option.map_eq_some_iff.1 hd
      exact vrd e u (h7 i e u he hu)
  -- blocks of the caller's other objects
  have hother : ∀ i x b, i ∉ sg → h0 i = some x → X.mu i = some b → b < w.heap.size ∧ (∀ id o, look sp.hp id = some o → (X.via F).mu id ≠ some b) := by
    intro i x b hi hx hm
    refine ⟨?_, ?_⟩
    · have := (ok.obj i x hx).2
      rw [hm] at this
      obtain ⟨c, h1, _⟩ := this
      exact cellCount_lt h1
    · intro j ob hj hmj
      have hjk := hlookk j ob hj
      obtain ⟨ob', _, h2⟩ := hsgob j hjk
      simp only [Ctx.via] at hmj
      rw [hFlt j hjk] at hmj
      have := ok.inj _ _ _ _ b h2 hx hmj hm
      exact hi (this ▸ hmem j hjk)
  have kc := Keeps.mk (X := X) (w := w) (X' := Z) (w' := w') ev.imm (fun b hb => ev.frame b (ok.ilt b hb) fun id ob hid hm => okc.notI id ob b hid hm hb) (fun id hid => ⟨.inl hid, hZdm id hid⟩) ev.cnt
  -- what lies in the caller's memory
  have hnew : ∀ i x, h0.upd (sg.map (fun i => (i, none)) ++ sp.hp'.map fun p => (F p.1, some (p.2.ren F))) i = some x →
      (∃ j ob, look sp.hp' j = some ob ∧ F j = i ∧ x = ob.ren F) ∨ (i ∉ sg ∧ h0 i = some x) := by
    intro i x hx
    rw [upd_dels] at hx
    have hFinj : ∀ p ∈ sp.hp', ∀ q ∈ sp.hp', F p.1 = F q.1 → p.1 = q.1 := by
      intro p hp q hq e
      have h1 := hp2 p hp
      have h2 := hp2 q hq
      rcases Nat.lt_or_ge p.1 sp.k with h3 | h3 <;> rcases Nat.lt_or_ge q.1 sp.k with h4 | h4
      · rw [hFlt _ h3, hFlt _ h4] at e; exact hsginj _ _ h3 h4 e
      · rw [hFlt _ h3] at e
        have := hsglt _ h3
        have := (hFge _ h4).1
        omega
      · rw [hFlt _ h4] at e
        have := hsglt _ h4
        have := (hFge _ h3).1
        omega
      · rw [hFnew _ h3 h1, hFnew _ h4 h2] at e; omega
    rcases upd_sets F (Ob.ren F) sp.hp' _ hFinj i x hx with ⟨j, ob, h1, h2, h3, _⟩ | ⟨_, h2⟩
    · exact .inl ⟨j, ob, look_mem hpn h1, h2, h3⟩
    · split at h2
      · cases h2
      · rename_i hi; exact .inr ⟨hi, h2⟩
  have okZ : HeapOk w' Z (h0.upd (sg.map (fun i => (i, none)) ++ sp.hp'.map fun p => (F p.1, some (p.2.ren F)))) := by
    refine ⟨?_, ?_, ?_, okY.ilt⟩
    · intro i x hx
      rcases hnew i x hx with ⟨j, ob, h1, rfl, rfl⟩ | ⟨h1, h2⟩
      · exact objR j ob (okY.obj j ob h1)
      · refine (ok.obj i x h2).mono kc fun b hb => ?_
        obtain ⟨h3, h4⟩ := hother i x b h1 h2 hb
        exact ev.frame b h3 h4
    · intro i i' x x' b hx hx' hm hm'
      rcases hnew i x hx with ⟨j, ob, h1, e1, e2⟩ | ⟨h1, h2⟩ <;> rcases hnew i' x' hx' with ⟨j', ob', h3, e3, e4⟩ | ⟨h3, h4⟩
      · rw [← e1, (hYZ j (okY.obj j ob h1).1).2] at hm
        rw [← e3, (hYZ j' (okY.obj j' ob' h3).1).2] at hm'
        rw [← e1, ← e3, okY.inj j j' ob ob' b h1 h3 hm hm']
      · rw [← e1, (hYZ j (okY.obj j ob h1).1).2] at hm
        rw [hZdm _ (ok.obj i' x' h4).1] at hm'
        obtain ⟨h5, h6⟩ := hother i' x' b h3 h4 hm'
        rcases ev.live j ob b h1 hm with h7 | ⟨i0, o0, h7, h8⟩
        · omega
        · exact absurd h8 (h6 i0 o0 h7)
      · rw [← e3, (hYZ j' (okY.obj j' ob' h3).1).2] at hm'
        rw [hZdm _ (ok.obj i x h2).1] at hm
        obtain ⟨h5, h6⟩ := hother i x b h1 h2 hm
        rcases ev.live j' ob' b h3 hm' with h7 | ⟨i0, o0, h7, h8⟩
        · omega
        · exact absurd h8 (h6 i0 o0 h7)
      · rw [hZdm _ (ok.obj i x h2).1] at hm
        rw [hZdm _ (ok.obj i' x' h4).1] at hm'
        exact ok.inj i i' x x' b h2 h4 hm hm'
    · intro i x b hx hm hI
      rcases hnew i x hx with ⟨j, ob, h1, e1, e2⟩ | ⟨h1, h2⟩
      · rw [← e1, (hYZ j (okY.obj j ob h1).1).2] at hm
        exact okY.notI j ob b h1 hm hI
      · rw [hZdm _ (ok.obj i x h2).1] at hm
        obtain ⟨h5, h6⟩ := hother i x b h1 h2 hm
        rcases ev.newI b hI with h7 | h7 | ⟨i0, o0, h7, h8⟩
        · exact ok.notI i x b h2 hm h7
        · omega
        · exact h6 i0 o0 h7 h8
  refine hcont v w' Z (tvr _ _ hv) okZ ?_ ?_
  · refine ⟨ev.os, ev.tape, ev.output, ev.size, ?_, ev.cnt, fun id hid => ⟨.inl hid, hZdm id hid⟩, ev.imm, ?_, ?_⟩
    · intro b hb hn
      refine ev.frame b hb fun j ob hj hm => ?_
      have hjk := hlookk j ob hj
      obtain ⟨ob', _, h2⟩ := hsgob j hjk
      simp only [Ctx.via] at hm
      rw [hFlt j hjk] at hm
      exact hn _ _ h2 hm
    · intro b hb
      rcases ev.newI b hb with h1 | h1 | ⟨j, ob, hj, hm⟩
      · exact .inl h1
      · exact .inr (.inl h1)
      · have hjk := hlookk j ob hj
        obtain ⟨ob', _, h2⟩ := hsgob j hjk
        simp only [Ctx.via] at hm
        rw [hFlt j hjk] at hm
        exact .inr (.inr ⟨_, _, h2, hm⟩)
    · intro i x b hx hm
      rcases hnew i x hx with ⟨j, ob, h1, e1, e2⟩ | ⟨h1, h2⟩
      · rw [← e1, (hYZ j (okY.obj j ob h1).1).2] at hm
        rcases ev.live j ob b h1 hm with h3 | ⟨i0, o0, h3, h4⟩
        · exact .inl h3
        · have hjk := hlookk i0 o0 h3
          obtain ⟨ob', _, h5⟩ := hsgob i0 hjk
          simp only [Ctx.via] at h4
          rw [hFlt i0 hjk] at h4
          exact .inr ⟨_, _, h5, h4⟩
      · rw [hZdm _ (ok.obj i x h2).1] at hm
        exact .inr ⟨i, x, h2, hm⟩
  · intro id hid
    rcases hid with h1 | ⟨h1, h2, _⟩
    · exact .inl h1
    · exact .inr ⟨h1, by simp only []; omega⟩
end
end Go.Proofs.Ytjieenfbfckafaa.Am

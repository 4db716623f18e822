/- The abstract machine, part 2. -/
import Derived.Orders
import Derived.Test.YtjieenfbfckafaaPack1
/- The operations' effects are the model's: a call by its contract. -/
namespace Go.Proofs.Ytjieenfbfckafaa.Am
open Go
set_option linter.unusedVariables false
set_option linter.unusedSimpArgs false

/-- The names seen through other names. -/
def Ctx.via (X : Ctx) (f : Nat → Nat) : Ctx := { I := X.I, dm := fun j => X.dm (f j), mu := fun j => X.mu (f j) }

theorem VRd.via {w : World} {X : Ctx} {f : Nat → Nat} {d : DV} {u : Value} : VRd w (X.via f) d u ↔ VRd w X (d.ren f) u := by
  cases d <;> exact Iff.rfl
theorem VRds.via {w : World} {X : Ctx} {f : Nat → Nat} {ds : List DV} {us : List Value} : VRds w (X.via f) ds us ↔ VRds w X (ds.map (DV.ren f)) us := by
  constructor
  · rintro ⟨h1, h2⟩
    refine ⟨by simpa using h1, fun j d u hd hu => ?_⟩
    rw [List.getElem?_map] at hd
    obtain ⟨e, he, rfl⟩ := Option.map_eq_some_iff.1 hd
    exact VRd.via.1 (h2 j e u he hu)
  · rintro ⟨h1, h2⟩
    refine ⟨by simpa using h1, fun j d u hd hu => VRd.via.2 (h2 j (d.ren f) u (by rw [List.getElem?_map, hd]; rfl) hu)⟩
mutual
theorem TVR.via {w : World} {X : Ctx} {f : Nat → Nat} : ∀ (t : TV) (u : Value), TVR w (X.via f) t u ↔ TVR w X (t.ren f) u
  | .c d, u => VRd.via
  | .agg ds, u => by
    constructor
    · rintro ⟨cs, h1, h2⟩; exact ⟨cs, h1, VRds.via.1 h2⟩
    · rintro ⟨cs, h1, h2⟩; exact ⟨cs, h1, VRds.via.2 h2⟩
  | .tup ts, u => by
    constructor
    · rintro ⟨vs, h1, h2⟩; exact ⟨vs, h1, (TVRs.via ts _).1 h2⟩
    · rintro ⟨vs, h1, h2⟩; exact ⟨vs, h1, (TVRs.via ts _).2 h2⟩
theorem TVRs.via {w : World} {X : Ctx} {f : Nat → Nat} : ∀ (ts : List TV) (us : List Value), TVRs w (X.via f) ts us ↔ TVRs w X (TV.rens f ts) us
  | [], us => Iff.rfl
  | t :: ts, us => by
    constructor
    · rintro ⟨u, r, h1, h2, h3⟩; exact ⟨u, r, h1, (TVR.via t u).1 h2, (TVRs.via ts r).1 h3⟩
    · rintro ⟨u, r, h1, h2, h3⟩; exact ⟨u, r, h1, (TVR.via t u).2 h2, (TVRs.via ts r).2 h3⟩
end
theorem ObjR.via {w : World} {X : Ctx} {f : Nat → Nat} {j : Nat} {o : Ob} : ObjR w (X.via f) j o ↔ ObjR w X (f j) (o.ren f) := by
  unfold ObjR
  show (X.dm (f j) ∧ _) ↔ (X.dm (f j) ∧ _)
  refine and_congr Iff.rfl ?_
  show (match X.mu (f j) with | none => _ | some b => _) ↔ _
  cases X.mu (f j) with
  | none => simp [Ob.ren]
  | some b =>
    constructor
    · rintro ⟨c, h1, h2, h3⟩
      refine ⟨c, h1, by simpa [Ob.ren] using h2, fun j d u hd hu => ?_⟩
      simp only [Ob.ren, List.getElem?_map] at hd
      obtain ⟨e, he, rfl⟩ := Option.map_eq_some_iff.1 hd
      exact VRd.via.1 (h3 j e u he hu)
    · rintro ⟨c, h1, h2, h3⟩
      refine ⟨c, h1, by simpa [Ob.ren] using h2, fun j d u hd hu => VRd.via.2 (h3 j (d.ren f) u (by simp [Ob.ren, hd]) hu)⟩

theorem Subs.tvrs {w : World} {X : Ctx} : ∀ {as bs : List TV} {us : List Value}, Subs as bs → TVRs w X as us → TVRs w X bs us
  | [], [], us, _, h => h
  | a :: as, b :: bs, us, ⟨h1, h2⟩, ⟨u, r, e, h3, h4⟩ => ⟨u, r, e, h1 w X u h3, Subs.tvrs h2 h4⟩
  | [], _ :: _, _, h, _ => h.elim
  | _ :: _, [], _, h, _ => h.elim

theorem upd_dels (h : Hp) : ∀ (sg : List Nat) (r : List (Nat × Option Ob)), h.upd (sg.map (fun i => (i, none)) ++ r) = Hp.upd (fun i => if i ∈ sg then none else h i) r
  | [], r => by simp
  | i :: sg, r => by
    simp only [List.map_cons, List.cons_append, Hp.upd]
    rw [upd_dels (h.del i) sg r]
    congr 1
    funext j
    simp only [Hp.del, List.mem_cons]
    by_cases h1 : j ∈ sg
    · simp [h1]
    · by_cases h2 : j = i <;> simp [h1, h2]

theorem upd_sets (g : Nat → Nat) (m : Ob → Ob) : ∀ (l : List (Nat × Ob)) (h : Hp), (∀ p ∈ l, ∀ q ∈ l, g p.1 = g q.1 → p.1 = q.1) →
    (∀ i x, h.upd (l.map fun p => (g p.1, some (m p.2))) i = some x → (∃ j o, (j, o) ∈ l ∧ g j = i ∧ x = m o ∧ True) ∨ ((∀ p ∈ l, g p.1 ≠ i) ∧ h i = some x))
  | [], h, _, i, x, hx => .inr ⟨by simp, hx⟩
  | p :: l, h, hg, i, x, hx => by
    simp only [List.map_cons, Hp.upd] at hx
    rcases upd_sets g m l (h.set (g p.1) (m p.2)) (fun a ha b hb => hg a (by simp [ha]) b (by simp [hb])) i x hx with ⟨j, o, h1, h2, h3, _⟩ | ⟨h1, h2⟩
    · exact .inl ⟨j, o, by simp [h1], h2, h3, trivial⟩
    · rcases Hp.set_some h2 with ⟨rfl, rfl⟩ | ⟨h3, h4⟩
      · exact .inl ⟨p.1, p.2, by simp, rfl, rfl, trivial⟩
      · exact .inr ⟨fun q hq => by
          rcases List.mem_cons.1 hq with rfl | hq
          · exact fun e => h3 e.symm
          · exact h1 q hq, h4⟩

theorem look_mem {α : Type} : ∀ {l : List (Nat × α)} {j : Nat} {o : α}, (l.map (·.1)).Nodup → (j, o) ∈ l → look l j = some o
  | (k, v) :: l, j, o, hn, h => by
    simp only [List.map_cons, List.nodup_cons] at hn
    rcases List.mem_cons.1 h with e | g
    · cases e; simp [look_cons, look_nil]
    · have : j ≠ k := fun e => hn.1 (List.mem_map.2 ⟨(j, o), g, e⟩)
      simp [look_cons, look_nil, this, look_mem hn.2 g]
theorem look_in {α : Type} : ∀ {l : List (Nat × α)} {j : Nat} {o : α}, look l j = some o → (j, o) ∈ l
  | [], j, o, h => by simp [look_cons, look_nil] at h
  | (k, v) :: l, j, o, h => by
    rw [look_cons] at h
    split at h
    · rename_i e; subst e; cases h; simp
    · simp [look_in h]

theorem nameOf_lt {sg : List Nat} {nx new j : Nat} (h : j < sg.length) : nameOf sg nx new j = sg.getD j 0 := by simp [nameOf, h]
theorem nameOf_ge {sg : List Nat} {nx new j : Nat} (h : sg.length ≤ j) : nx ≤ nameOf sg nx new j ∧ nameOf sg nx new j ≤ nx + new := by
  have : ¬ j < sg.length := by omega
  simp only [nameOf, this, if_false]
  omega
theorem nameOf_new {sg : List Nat} {nx new j : Nat} (h : sg.length ≤ j) (h2 : j < sg.length + new) : nameOf sg nx new j = nx + (j - sg.length) := by
  have : ¬ j < sg.length := by omega
  simp only [nameOf, this, if_false]
  omega

mutual
theorem tvr_ren {w : World} {Y Z : Ctx} {F : Nat → Nat} (vrd : ∀ d u, VRd w Y d u → VRd w Z (d.ren F) u) : ∀ (t : TV) (u : Value), TVR w Y t u → TVR w Z (t.ren F) u
  | .c d, u, h => vrd d u h
  | .agg ds, u, ⟨cs, h1, h2⟩ => ⟨cs, h1, by simpa using h2.1, fun j d u hd hu => by
      rw [List.getElem?_map] at hd
      obtain ⟨e, he, rfl⟩ := Option.map_eq_some_iff.1 hd
      exact vrd e u (h2.2 j e u he hu)⟩
  | .tup ts, u, ⟨vs, h1, h2⟩ => ⟨vs, h1, tvrs_ren vrd ts _ h2⟩
theorem tvrs_ren {w : World} {Y Z : Ctx} {F : Nat → Nat} (vrd : ∀ d u, VRd w Y d u → VRd w Z (d.ren F) u) : ∀ (ts : List TV) (us : List Value), TVRs w Y ts us → TVRs w Z (TV.rens F ts) us
  | [], us, h => h
  | t :: ts, us, ⟨u, r, h1, h2, h3⟩ => ⟨u, r, h1, tvr_ren vrd t u h2, tvrs_ren vrd ts r h3⟩
end

section
variable {P : Program} {o : Oper} {s : S} {K : Eff → Prop}

def callFits (P : Program) (f : FuncId) : Bool :=
  match P.funcs[f]? with
  | some fn => fn.body.isSome && fn.name != "runtime.NumGoroutine"
  | none => false
def listFits : List Opd → List Operand → Bool
  | [], [] => true
  | x :: xs, y :: ys => x.fits y && listFits xs ys
  | _, _ => false

theorem evs_sound {w : World} {X : Ctx} {a : Act} : ∀ {xs : List Opd} {ys : List Operand} {ds : List TV}, listFits xs ys = true → (∀ t ∈ listLooks xs, ∀ d, look s.env t = some d → TVR w X d (a.tmps.getD t undef)) → evs s xs = some ds →
    TVRs w X ds (ys.map a.eval)
  | [], [], ds, _, _, h => by simp only [evs, Option.some.injEq] at h; subst h; rfl
  | x :: xs, y :: ys, ds, hf, he, h => by
    simp only [listFits, Bool.and_eq_true] at hf
    simp only [evs] at h
    split at h
    · rename_i d ds' h1 h2
      simp only [Option.some.injEq] at h
      subst h
      exact ⟨a.eval y, ys.map a.eval, rfl, ev_sound hf.1 (fun t ht => he t (by simp [listLooks, ht])) h1, evs_sound hf.2 (fun t ht => he t (by simp [listLooks, ht])) h2⟩
    · cases h
  | [], _ :: _, _, hf, _, _ => by simp [listFits] at hf
  | _ :: _, [], _, hf, _, _ => by simp [listFits] at hf

theorem call_enter {a : Act} {w : World} {f : FuncId} {args' : Array Operand} {ts : Array TypeId} (ho : o.op = .call { callee := .value (.func f), args := args', argTypes := ts }) (hf : callFits P f = true) {L : Act → World → Prop} {Q : Exit → Act → World → Prop}
    (h : Calls P f (args'.toList.map a.eval).toArray w fun
      | .returned v, w'' => L (a.put o.dst v) w''
      | .panicked chain, w'' => Q (.panic chain) a w''
      | .outgrown, _ => LetsOut Q) : o.wp P a w L Q := by
  unfold callFits at hf
  split at hf
  · rename_i fn hfn
    simp only [Bool.and_eq_true, bne_iff_ne, ne_eq] at hf
    have hrun : (execOp a.eval o).run P w = .ok (.enter f (args'.toList.map a.eval).toArray) w := by
      have hb : ¬ fn.body = none := by
        intro e
        rw [e] at hf
        simp at hf
      simp [execOp, ho, resolve, Deferred.ofValue, Act.eval, invoke, callFunc, hfn, hb, hf.2]
      apply Array.ext'
      simp
    unfold Oper.wp
    rw [hrun]
    exact h
  · cases hf

theorem snd_call {f : FuncId} {args : List Opd} {args' : Array Operand} {ts : Array TypeId} (ho : o.op = .call { callee := .value (.func f), args := args', argTypes := ts }) (hf : callFits P f = true) (ha : listFits args args'.toList = true) (wf : s.wf)
    (h : (AOp.call f args).eff P s K) : ∃ e, Does P o (listLooks args) s e ∧ K e := by
  obtain ⟨ds, hds, ⟨sp, sg, hM, hk, hnd, hkk, hp1, hp2, hpn, hsub, hobj, hK⟩⟩ := someL_some h
  refine ⟨_, ?_, hK⟩
  intro X w a h0 G Q he ok hacc hfr hcont
  refine call_enter (P := P) ho hf ?_
  let F := nameOf sg s.nx (sp.k' - sp.k)
  let N := sp.k' - sp.k
  have hFlt : ∀ j, j < sp.k → F j = sg.getD j 0 := fun j hj => nameOf_lt (by omega)
  have hFge : ∀ j, sp.k ≤ j → s.nx ≤ F j ∧ F j ≤ s.nx + N := fun j hj => nameOf_ge (by omega)
  have hFnew : ∀ j, sp.k ≤ j → j < sp.k' → F j = s.nx + (j - sp.k) := fun j h1 h2 => by
    have := nameOf_new (sg := sg) (nx := s.nx) (new := sp.k' - sp.k) (j := j) (by omega) (by omega)
    rw [hk]; exact this
  have hmem : ∀ j, j < sp.k → sg.getD j 0 ∈ sg := fun j hj => by
    rw [List.getD_eq_getElem?_getD, List.getElem?_eq_getElem (by omega)]; exact List.getElem_mem _
  -- the callee's objects as the caller has them
  have hsgob : ∀ j, j < sp.k → ∃ ob, look sp.hp j = some ob ∧ h0 (sg.getD j 0) = some (ob.ren F) := by
    intro j hj
    obtain ⟨h1, h2⟩ := hobj j hj
    obtain ⟨ob, hob⟩ := Option.isSome_iff_exists.1 h2
    rw [hob] at h1
    have h3 := hacc (sg.getD j 0) (by simp [Eff.acc]; exact .inl (hmem j hj)) (wf _ _ h1)
    exact ⟨ob, hob, by rw [h3, h1]; rfl⟩
  have hsglt : ∀ j, j < sp.k → sg.getD j 0 < s.nx := fun j hj => by
    obtain ⟨h1, h2⟩ := hobj j hj
    obtain ⟨ob, hob⟩ := Option.isSome_iff_exists.1 h2
    rw [hob] at h1
    exact wf _ _ h1
  have hsgdm : ∀ j, j < sp.k → X.dm (sg.getD j 0) := fun j hj => by
    obtain ⟨ob, _, h2⟩ := hsgob j hj
    exact (ok.obj _ _ h2).1
  have hsginj : ∀ i j, i < sp.k → j < sp.k → sg.getD i 0 = sg.getD j 0 → i = j := by
    intro i j hi hj hij
    rw [List.getD_eq_getElem?_getD, List.getD_eq_getElem?_getD, List.getElem?_eq_getElem (by omega), List.getElem?_eq_getElem (by omega)] at hij
    exact (List.getElem_inj hnd).1 (by simpa using hij)
  have hsgmem : ∀ i, i ∈ sg → ∃ j, j < sp.k ∧ sg.getD j 0 = i := by
    intro i hi
    obtain ⟨j, hj, rfl⟩ := List.getElem_of_mem hi
    exact ⟨j, by omega, by rw [List.getD_eq_getElem?_getD, List.getElem?_eq_getElem hj]; rfl⟩
  have hlookk : ∀ j ob, look sp.hp j = some ob → j < sp.k := fun j ob hj => hp1 _ (look_in hj)
  have hfresh : ∀ j, sp.k ≤ j → ¬ X.dm (F j) := fun j hj => by
    obtain ⟨h1, h2⟩ := hFge j hj
    exact hfr _ h1 (by simp only []; omega)
  -- the callee's context
  have okc : HeapOk w (X.via F) (look sp.hp) := by
    refine ⟨?_, ?_, ?_, ok.ilt⟩
    · intro j ob hj
      have hjk := hlookk j ob hj
      obtain ⟨ob', h1, h2⟩ := hsgob j hjk
      rw [hj] at h1; cases h1
      exact ObjR.via.2 (by rw [hFlt j hjk]; exact ok.obj _ _ h2)
    · intro i j x y b hi hj hmi hmj
      have hik := hlookk i x hi
      have hjk := hlookk j y hj
      obtain ⟨x', _, h1⟩ := hsgob i hik
      obtain ⟨y', _, h2⟩ := hsgob j hjk
      simp only [Ctx.via] at hmi hmj
      rw [hFlt i hik] at hmi
      rw [hFlt j hjk] at hmj
      exact hsginj i j hik hjk (ok.inj _ _ _ _ b h1 h2 hmi hmj)
    · intro i x b hi hm
      have hik := hlookk i x hi
      obtain ⟨x', _, h1⟩ := hsgob i hik
      simp only [Ctx.via] at hm
      rw [hFlt i hik] at hm
      exact ok.notI _ _ b h1 hm
  have hargs : TVRs w (X.via F) sp.args (args'.toList.map a.eval) := (TVRs.via _ _).2 (Subs.tvrs hsub (evs_sound ha he hds))
  refine (hM (X.via F) w _ okc (fun id hid => ?_) hargs).mono ?_
  · rcases Nat.lt_or_ge id sp.k with h1 | h1
    · exact h1
    · exact absurd hid (hfresh id h1)
  rintro e w' ⟨v, Y, rfl, hv, okY, ev, hdm⟩
  -- the caller's context behind the call
  have hYmu : ∀ j, j < sp.k → Y.dm j ∧ Y.mu j = X.mu (sg.getD j 0) := fun j hj => by
    have := ev.dm j hj (by show X.dm (F j); rw [hFlt j hj]; exact hsgdm j hj)
    refine ⟨this.1, this.2.trans ?_⟩
    show X.mu (F j) = _
    rw [hFlt j hj]
  let Z : Ctx := { I := Y.I, dm := fun id => X.dm id ∨ (s.nx ≤ id ∧ id < s.nx + N ∧ Y.dm (id - s.nx + sp.k)), mu := fun id => if s.nx ≤ id ∧ id < s.nx + N then Y.mu (id - s.nx + sp.k) else X.mu id }
  have hZold : ∀ id, ¬ (s.nx ≤ id ∧ id < s.nx + N) → Z.mu id = X.mu id := fun id h => by show (if _ then _ else _) = _; rw [if_neg h]
  have hZdm : ∀ id, X.dm id → Z.mu id = X.mu id := fun id hid => hZold id fun hr => hfr id hr.1 (by have := hr.2; simp only []; omega) hid
  have hYZ : ∀ j, Y.dm j → Z.dm (F j) ∧ Z.mu (F j) = Y.mu j := by
    intro j hj
    have hjk' := hdm j hj
    rcases Nat.lt_or_ge j sp.k with h1 | h1
    · rw [hFlt j h1]
      refine ⟨.inl (hsgdm j h1), ?_⟩
      rw [hZdm _ (hsgdm j h1), (hYmu j h1).2]
    · rw [hFnew j h1 hjk']
      have e1 : s.nx + (j - sp.k) - s.nx + sp.k = j := by omega
      refine ⟨.inr ⟨by omega, by omega, by rw [e1]; exact hj⟩, ?_⟩
      show (if _ then _ else _) = _
      rw [if_pos ⟨by omega, by omega⟩, e1]
  have vrd : ∀ d u, VRd w' Y d u → VRd w' Z (d.ren F) u := by
    intro d u hd
    cases d with
    | p x => exact hd
    | ptr id off =>
      obtain ⟨h1, b, h2, h3⟩ := hd
      obtain ⟨h4, h5⟩ := hYZ id h1
      exact ⟨h4, b, h5.trans h2, h3⟩
    | ref id off n z =>
      obtain ⟨h1, h2⟩ := hd
      obtain ⟨h4, h5⟩ := hYZ id h1
      refine ⟨h4, ?_⟩
      rw [h5]; exact h2
  have tvr : ∀ t u, TVR w' Y t u → TVR w' Z (t.ren F) u := fun t u h => tvr_ren vrd t u h
  have objR : ∀ j ob, ObjR w' Y j ob → ObjR w' Z (F j) (ob.ren F) := by
    intro j ob hj
    obtain ⟨h1, h2⟩ := hj
    obtain ⟨h3, h4⟩ := hYZ j h1
    refine ⟨h3, ?_⟩
    rw [h4]
    cases hm : Y.mu j with
    | none => rw [hm] at h2; simp [Ob.ren, h2]
    | some b =>
      rw [hm] at h2
      obtain ⟨c, h5, h6, h7⟩ := h2
      refine ⟨c, h5, by simpa [Ob.ren] using h6, fun i d u hd hu => ?_⟩
      simp only [Ob.ren, List.getElem?_map] at hd
      obtain ⟨e, he, rfl⟩ := Option.map_eq_some_iff.1 hd
      exact vrd e u (h7 i e u he hu)
  -- blocks of the caller's other objects
  have hother : ∀ i x b, i ∉ sg → h0 i = some x → X.mu i = some b → b < w.heap.size ∧ (∀ id o, look sp.hp id = some o → (X.via F).mu id ≠ some b) := by
    intro i x b hi hx hm
    refine ⟨?_, ?_⟩
    · have := (ok.obj i x hx).2
      rw [hm] at this
      obtain ⟨c, h1, _⟩ := this
      exact cellCount_lt h1
    · intro j ob hj hmj
      have hjk := hlookk j ob hj
      obtain ⟨ob', _, h2⟩ := hsgob j hjk
      simp only [Ctx.via] at hmj
      rw [hFlt j hjk] at hmj
      have := ok.inj _ _ _ _ b h2 hx hmj hm
      exact hi (this ▸ hmem j hjk)
  have kc := Keeps.mk (X := X) (w := w) (X' := Z) (w' := w') ev.imm (fun b hb => ev.frame b (ok.ilt b hb) fun id ob hid hm => okc.notI id ob b hid hm hb) (fun id hid => ⟨.inl hid, hZdm id hid⟩) ev.cnt
  -- what lies in the caller's memory
  have hnew : ∀ i x, h0.upd (sg.map (fun i => (i, none)) ++ sp.hp'.map fun p => (F p.1, some (p.2.ren F))) i = some x →
      (∃ j ob, look sp.hp' j = some ob ∧ F j = i ∧ x = ob.ren F) ∨ (i ∉ sg ∧ h0 i = some x) := by
    intro i x hx
    rw [upd_dels] at hx
    have hFinj : ∀ p ∈ sp.hp', ∀ q ∈ sp.hp', F p.1 = F q.1 → p.1 = q.1 := by
      intro p hp q hq e
      have h1 := hp2 p hp
      have h2 := hp2 q hq
      rcases Nat.lt_or_ge p.1 sp.k with h3 | h3 <;> rcases Nat.lt_or_ge q.1 sp.k with h4 | h4
      · rw [hFlt _ h3, hFlt _ h4] at e; exact hsginj _ _ h3 h4 e
      · rw [hFlt _ h3] at e
        have := hsglt _ h3
        have := (hFge _ h4).1
        omega
      · rw [hFlt _ h4] at e
        have := hsglt _ h4
        have := (hFge _ h3).1
        omega
      · rw [hFnew _ h3 h1, hFnew _ h4 h2] at e; omega
    rcases upd_sets F (Ob.ren F) sp.hp' _ hFinj i x hx with ⟨j, ob, h1, h2, h3, _⟩ | ⟨_, h2⟩
    · exact .inl ⟨j, ob, look_mem hpn h1, h2, h3⟩
    · split at h2
      · cases h2
      · rename_i hi; exact .inr ⟨hi, h2⟩
  have okZ : HeapOk w' Z (h0.upd (sg.map (fun i => (i, none)) ++ sp.hp'.map fun p => (F p.1, some (p.2.ren F)))) := by
    refine ⟨?_, ?_, ?_, okY.ilt⟩
    · intro i x hx
      rcases hnew i x hx with ⟨j, ob, h1, rfl, rfl⟩ | ⟨h1, h2⟩
      · exact objR j ob (okY.obj j ob h1)
      · refine (ok.obj i x h2).mono kc fun b hb => ?_
        obtain ⟨h3, h4⟩ := hother i x b h1 h2 hb
        exact ev.frame b h3 h4
    · intro i i' x x' b hx hx' hm hm'
      rcases hnew i x hx with ⟨j, ob, h1, e1, e2⟩ | ⟨h1, h2⟩ <;> rcases hnew i' x' hx' with ⟨j', ob', h3, e3, e4⟩ | ⟨h3, h4⟩
      · rw [← e1, (hYZ j (okY.obj j ob h1).1).2] at hm
        rw [← e3, (hYZ j' (okY.obj j' ob' h3).1).2] at hm'
        rw [← e1, ← e3, okY.inj j j' ob ob' b h1 h3 hm hm']
      · rw [← e1, (hYZ j (okY.obj j ob h1).1).2] at hm
        rw [hZdm _ (ok.obj i' x' h4).1] at hm'
        obtain ⟨h5, h6⟩ := hother i' x' b h3 h4 hm'
        rcases ev.live j ob b h1 hm with h7 | ⟨i0, o0, h7, h8⟩
        · omega
        · exact absurd h8 (h6 i0 o0 h7)
      · rw [← e3, (hYZ j' (okY.obj j' ob' h3).1).2] at hm'
        rw [hZdm _ (ok.obj i x h2).1] at hm
        obtain ⟨h5, h6⟩ := hother i x b h1 h2 hm
        rcases ev.live j' ob' b h3 hm' with h7 | ⟨i0, o0, h7, h8⟩
        · omega
        · exact absurd h8 (h6 i0 o0 h7)
      · rw [hZdm _ (ok.obj i x h2).1] at hm
        rw [hZdm _ (ok.obj i' x' h4).1] at hm'
        exact ok.inj i i' x x' b h2 h4 hm hm'
    · intro i x b hx hm hI
      rcases hnew i x hx with ⟨j, ob, h1, e1, e2⟩ | ⟨h1, h2⟩
      · rw [← e1, (hYZ j (okY.obj j ob h1).1).2] at hm
        exact okY.notI j ob b h1 hm hI
      · rw [hZdm _ (ok.obj i x h2).1] at hm
        obtain ⟨h5, h6⟩ := hother i x b h1 h2 hm
        rcases ev.newI b hI with h7 | h7 | ⟨i0, o0, h7, h8⟩
        · exact ok.notI i x b h2 hm h7
        · omega
        · exact h6 i0 o0 h7 h8
  refine hcont v w' Z (tvr _ _ hv) okZ ?_ ?_
  · refine ⟨ev.os, ev.tape, ev.output, ev.size, ?_, ev.cnt, fun id hid => ⟨.inl hid, hZdm id hid⟩, ev.imm, ?_, ?_⟩
    · intro b hb hn
      refine ev.frame b hb fun j ob hj hm => ?_
      have hjk := hlookk j ob hj
      obtain ⟨ob', _, h2⟩ := hsgob j hjk
      simp only [Ctx.via] at hm
      rw [hFlt j hjk] at hm
      exact hn _ _ h2 hm
    · intro b hb
      rcases ev.newI b hb with h1 | h1 | ⟨j, ob, hj, hm⟩
      · exact .inl h1
      · exact .inr (.inl h1)
      · have hjk := hlookk j ob hj
        obtain ⟨ob', _, h2⟩ := hsgob j hjk
        simp only [Ctx.via] at hm
        rw [hFlt j hjk] at hm
        exact .inr (.inr ⟨_, _, h2, hm⟩)
    · intro i x b hx hm
      rcases hnew i x hx with ⟨j, ob, h1, e1, e2⟩ | ⟨h1, h2⟩
      · rw [← e1, (hYZ j (okY.obj j ob h1).1).2] at hm
        rcases ev.live j ob b h1 hm with h3 | ⟨i0, o0, h3, h4⟩
        · exact .inl h3
        · have hjk := hlookk i0 o0 h3
          obtain ⟨ob', _, h5⟩ := hsgob i0 hjk
          simp only [Ctx.via] at h4
          rw [hFlt i0 hjk] at h4
          exact .inr ⟨_, _, h5, h4⟩
      · rw [hZdm _ (ok.obj i x h2).1] at hm
        exact .inr ⟨i, x, h2, hm⟩
  · intro id hid
    rcases hid with h1 | ⟨h1, h2, _⟩
    · exact .inl h1
    · exact .inr ⟨h1, by simp only []; omega⟩
end
end Go.Proofs.Ytjieenfbfckafaa.Am
/- The operations' effects are the model's: bytes of a constant string, the greater and the smaller of two. -/
namespace Go.Proofs.Ytjieenfbfckafaa.Am
open Go
set_option linter.unusedVariables false
set_option linter.unusedSimpArgs false

theorem freeze_other (w : World) (b n k m : Nat) (h : k ≠ b) : (w.freeze ⟨b, n, none⟩ m).heap[k]? = w.heap[k]? := by
  unfold World.freeze
  split
  · rfl
  · simp only [Array.getElem?_modify]
    rw [if_neg (fun e => h e.symm)]
theorem freeze_at (w : World) (b n : Nat) {c : Array Value} {e : TypeId} (h : w.heap[b]? = some (.cells c e (0, 0))) : (w.freeze ⟨b, n, none⟩ 1).heap[b]? = some (.cells c e (n, n + 1)) := by
  unfold World.freeze
  rw [if_neg (by decide)]
  simp only [Array.getElem?_modify, if_true, h]
  rfl
theorem freeze_size (w : World) (b n m : Nat) : (w.freeze ⟨b, n, none⟩ m).heap.size = w.heap.size := by
  unfold World.freeze
  split <;> simp
theorem freeze_rest (w : World) (b n m : Nat) : (w.freeze ⟨b, n, none⟩ m).os = w.os ∧ (w.freeze ⟨b, n, none⟩ m).tape = w.tape ∧ (w.freeze ⟨b, n, none⟩ m).output = w.output := by
  unfold World.freeze
  split <;> exact ⟨rfl, rfl, rfl⟩

/-- An object that is marked stays as it is. -/
theorem HeapOk.mark {w : World} {X : Ctx} {h : Hp} (ok : HeapOk w X h) {id b n : Nat} {o : Ob} {c : Array Value} (ho : h id = some o) (hm : X.mu id = some b) (hb : w.heap[b]? = some (.cells c o.e (0, 0))) :
    Keeps X w (X.stay b) (w.freeze ⟨b, n, none⟩ 1) ∧ HeapOk (w.freeze ⟨b, n, none⟩ 1) (X.stay b) (h.del id) ∧ Evol X w h (X.stay b) (w.freeze ⟨b, n, none⟩ 1) (h.del id) := by
  have hother : ∀ k, k ≠ b → (w.freeze ⟨b, n, none⟩ 1).heap[k]? = w.heap[k]? := fun k hk => freeze_other w b n k 1 hk
  have hsame := freeze_at w b n hb
  have hcnt : ∀ k, cellCount (w.freeze ⟨b, n, none⟩ 1) k = cellCount w k := fun k => by
    by_cases hk : k = b
    · subst hk; rw [cellCount_of hsame, cellCount_of hb]
    · exact cellCount_congr (hother k hk)
  have hnI : ¬ X.I b := ok.notI id o b ho hm
  have K : Keeps X w (X.stay b) (w.freeze ⟨b, n, none⟩ 1) := ⟨fun _ h => .inl h, fun k hk => hother k (fun e => hnI (e ▸ hk)), fun _ h => ⟨h, rfl⟩, fun k _ => hcnt k⟩
  have hbs : b < w.heap.size := cellCount_lt hb
  obtain ⟨r1, r2, r3⟩ := freeze_rest w b n 1
  refine ⟨K, ⟨?_, fun i j x y k hi hj => ok.inj i j x y k (Hp.del_some hi).2 (Hp.del_some hj).2, ?_, ?_⟩,
    ⟨r1, r2, r3, by rw [freeze_size]; exact Nat.le_refl _, ?_, fun k _ => hcnt k, K.dm, K.imm, ?_, fun i x k hx hmi => .inr ⟨i, x, (Hp.del_some hx).2, hmi⟩⟩⟩
  · intro i x hx
    obtain ⟨hne, hx⟩ := Hp.del_some hx
    exact (ok.obj i x hx).mono K fun k hk => hother k fun e => by
      subst e
      exact hne (ok.inj i id x o k hx ho hk hm)
  · intro i x k hi hmi hI
    obtain ⟨hne, hi⟩ := Hp.del_some hi
    rcases hI with hI | rfl
    · exact ok.notI i x k hi hmi hI
    · exact hne (ok.inj i id x o _ hi ho hmi hm)
  · intro k hk
    rw [freeze_size]
    rcases hk with hk | rfl
    · exact ok.ilt k hk
    · exact hbs
  · intro k hk hn
    exact hother k fun e => by subst e; exact hn id o ho hm
  · intro k hk
    rcases hk with hk | rfl
    · exact .inl hk
    · exact .inr (.inr ⟨id, o, ho, hm⟩)

section
variable {P : Program} {o : Oper} {s : S} {K : Eff → Prop}

theorem run_bconv (w : World) {t e : TypeId} {b off n c : Nat} {C : Array Value} (ht : P.underlying t = some (.slice e)) (he : P.underlying e = some (.int .u8)) {e' : TypeId} (hb : w.heap[b]? = some (.cells C e' (0, 0))) :
    (convert t t (.slice (some ⟨b, off, none⟩) n c)).run P w = .ok (.slice (some ⟨b, off, none⟩) n c) (w.freeze ⟨b, C.size, none⟩ 1) := by
  have hsh : w.shape? b = some (e', C.size) := by simp [World.shape?, hb]
  simp [convert, run_underlying ht, run_underlying he, markStringish, hsh]

theorem snd_bconv {x : Opd} {x' : Operand} {t e : TypeId} (ho : o.op = .convert t t x') (ht : P.underlying t = some (.slice e)) (he : P.underlying e = some (.int .u8)) (hx : x.fits x' = true) (wf : s.wf) (h : (AOp.bconv x).eff P s K) :
    ∃ f, Does P o x.looks s f ∧ K f := by
  obtain ⟨d, hd, h⟩ := asC_some h
  cases d with
  | ref id off n z =>
    have h := andN_iff.1 h
    obtain ⟨rfl, h⟩ := h
    obtain ⟨ob, hob, cs, hcs, hpos, hK⟩ := someL_some h
    refine ⟨_, ?_, hK⟩
    intro X w a h0 K Q hev ok hacc hfr hk
    obtain ⟨hdm, hv⟩ := ev_sound (w := w) (X := X) (a := a) hx hev hd
    have hid : h0 id = some ob := by rw [hacc id (by simp [Eff.acc]) (wf id ob hob)]; exact hob
    rcases hv with ⟨_, h2, _⟩ | ⟨b, off', cap, hm, hp, hn, _, hoff, _⟩
    · omega
    · have hob2 := (ok.obj id ob hid).2
      rw [hm] at hob2
      obtain ⟨c, hc, hle, hcell⟩ := hob2
      have hr := run_bconv (P := P) w ht he (off := off') (n := n) (c := cap) hc
      obtain ⟨k1, ok1, ev1⟩ := ok.mark (n := c.size) hid hm hc
      have hoff : off' = off := by
        rcases hoff with h3 | h3
        · omega
        · exact h3
      subst hoff
      refine wp_value (w' := w.freeze ⟨b, c.size, none⟩ 1) (v := .slice (some ⟨b, off', none⟩) n cap) (by simp [execOp, ho, hp, hr]) (hk _ _ (X.stay b) ?_ ok1 ev1 fun i hi => .inl hi)
      refine ⟨_, cap, rfl, hn, .inr ⟨b, off', rfl, .inr rfl, ?_⟩⟩
      rw [VRc_get]
      intro j d hj
      rw [List.getElem?_take] at hj
      split at hj
      · rw [List.getElem?_drop] at hj
        have hjl : off' + j < cs.length := (List.getElem?_eq_some_iff.1 hj).1
        have hlen : cs.length ≤ c.size := by rw [hcs] at hle; simpa using hle
        have hjc : c[off' + j]? = some (c[off' + j]'(by omega)) := Array.getElem?_eq_getElem (by omega)
        refine ⟨c[off' + j]'(by omega), ?_, ?_⟩
        · rw [cell_of_row _ b (off' + j) c ob.e _ (freeze_at w b c.size hc)]; exact hjc
        · have := (hcell (off' + j) (.p d) _ (by rw [hcs, List.getElem?_map, hj]; rfl) hjc).mono k1
          exact this
      · cases hj
  | p x => exact h.elim
  | ptr => exact h.elim

theorem snd_mm {m : Bool} {x y : Opd} {x' y' : Operand} {ts : Array TypeId} (ho : o.op = .call { callee := .builtin (if m then .max else .min), args := #[x', y'], argTypes := ts }) (hx : x.fits x' = true) (hy : y.fits y' = true) (h : (AOp.mm m x y).eff P s K) :
    ∃ f, Does P o (x.looks ++ y.looks) s f ∧ K f := by
  obtain ⟨k, a, ha, h⟩ := asI_some h
  obtain ⟨k', b, hb, h⟩ := asI_some h
  refine pure_v rfl h (fun X w ac he => ?_) |>.imp fun e h => ⟨h.1, h.2.2⟩
  have h1 := tvr_v (ev_sound (w := w) (X := X) (a := ac) hx (fun t ht => he t (by simp [ht])) ha)
  have h2 := tvr_v (ev_sound (w := w) (X := X) (a := ac) hy (fun t ht => he t (by simp [ht])) hb)
  cases m with
  | true =>
    have e : (if b > a then b else a) = max a b := by split <;> omega
    simp [execOp, ho, resolve, invoke, builtin, h1, h2, Builtin.max_, Builtin.max2, e]
  | false =>
    have e : (if b < a then b else a) = min a b := by split <;> omega
    simp [execOp, ho, resolve, invoke, builtin, h1, h2, Builtin.min_, Builtin.min2, e]
end
end Go.Proofs.Ytjieenfbfckafaa.Am
/- Which abstract operation stands for which of the model's; all of them in one statement. -/
namespace Go.Proofs.Ytjieenfbfckafaa.Am
open Go
set_option linter.unusedVariables false
set_option linter.unusedSimpArgs false

def kindIs (P : Program) (t : TypeId) (k : IntKind) : Bool :=
  match P.underlying t with
  | some (.int k') => decide (k' = k)
  | _ => false
def stringIs (P : Program) (t : TypeId) : Bool :=
  match P.underlying t with
  | some .string => true
  | _ => false
def boolIs (P : Program) (t : TypeId) : Bool :=
  match P.underlying t with
  | some .bool => true
  | _ => false
def bytesIs (P : Program) (t : TypeId) : Bool :=
  match P.underlying t with
  | some (.slice e) => (match P.underlying e with | some (.int .u8) => true | _ => false)
  | _ => false
def u8Is (P : Program) (e : TypeId) : Bool :=
  match P.underlying e with
  | some (.int .u8) => true
  | _ => false
theorem kindIs_some {P : Program} {t : TypeId} {k : IntKind} (h : kindIs P t k = true) : P.underlying t = some (.int k) := by
  unfold kindIs at h
  split at h
  · rename_i k' hu; simp at h; subst h; exact hu
  · cases h
theorem stringIs_some {P : Program} {t : TypeId} (h : stringIs P t = true) : P.underlying t = some .string := by
  unfold stringIs at h
  split at h
  · assumption
  · cases h
theorem boolIs_some {P : Program} {t : TypeId} (h : boolIs P t = true) : P.underlying t = some .bool := by
  unfold boolIs at h
  split at h
  · assumption
  · cases h
theorem u8Is_some {P : Program} {t : TypeId} (h : u8Is P t = true) : P.underlying t = some (.int .u8) := by
  unfold u8Is at h
  split at h
  · assumption
  · cases h
def opIs (neq : Bool) (op : BinOp) : Bool :=
  match neq, op with
  | true, .neq => true
  | false, .eql => true
  | _, _ => false
theorem opIs_eq {neq : Bool} {op : BinOp} (h : opIs neq op = true) : op = if neq then .neq else .eql := by
  cases neq <;> cases op <;> simp_all [opIs]

def AOp.fits (P : Program) : AOp → Op → Bool
  | .mov x, .move y => x.fits y
  | .mov x, .assign y => x.fits y
  | .pick c a b, .pick c' a' b' => c.fits c' && a.fits a' && b.fits b'
  | .bin op x y, .binOp op' _ x' y' _ => decide (op = op') && x.fits x' && y.fits y'
  | .binw op x y, .binOp op' _ x' y' _ => decide (op = op') && x.fits x' && y.fits y'
  | .eqb n x y, .binOp op t x' y' _ => opIs n op && boolIs P t && x.fits x' && y.fits y'
  | .eqa n cks x y, .binOp op t x' y' _ => opIs n op && eqaFits P t cks && x.fits x' && y.fits y'
  | .un op x, .unOp op' _ x' => decide (op = op') && x.fits x'
  | .conv k x, .convert t u x' => (P.underlying t).isSome && kindIs P u k && x.fits x'
  | .same x, .convert t u x' => (P.underlying t).isSome && stringIs P u && x.fits x'
  | .tostr x, .convert t u x' => bytesIs P t && stringIs P u && x.fits x'
  | .tobytes e x, .convert t u x' => (P.underlying t).isSome && sliceOf P u e && u8Is P e && x.fits x'
  | .build z ps, .build t qs => buildFits P t z ps qs.toList
  | .lit e sz ln z ps _, .buildSlice t ln' qs => decide (ln = ln') && litFits P t e sz ln z ps qs.toList
  | .box e x, .box e' x' => decide (e = e') && x.fits x'
  | .alloc e z, .alloc e' => decide (e = e') && zeroFits P e z
  | .load n x, .load t x' => szFits P t n && x.fits x'
  | .store n x y, .store t x' y' => decide ((P.info? t).map (·.size) = some n) && x.fits x' && y.fits y'
  | .nilck x, .nilCheck x' => x.fits x'
  | .fld off x, .fieldAddr t x' f => fldFits P t f off && x.fits x'
  | .get off n x, .field t x' f => getFits P t f off n && x.fits x'
  | .idxa sz x i, .indexAddr t x' i' => idxaFits P t sz && x.fits x' && i.fits i'
  | .idxr l sz x i, .indexAddr t x' i' => idxrFits P t l sz && x.fits x' && i.fits i'
  | .idxv l sz n x i, .index t x' i' => idxvFits P t l sz n && x.fits x' && i.fits i'
  | .idxs x i, .index t x' i' => stringIs P t && x.fits x' && i.fits i'
  | .sl sz x l h m, .slice t x' l' h' m' => idxaFits P t sz && x.fits x' && optFits l l' && optFits h h' && optFits m m' && (!m'.isSome || h'.isSome)
  | .sls x l h, .slice t x' l' h' m' => stringIs P t && x.fits x' && optFits l l' && optFits h h' && m'.isNone
  | .slr n sz x l h m, .slice t x' l' h' m' => slrFits P t n sz && decide (n ≤ 281474976710656) && x.fits x' && optFits l l' && optFits h h' && optFits m m' && (!m'.isSome || h'.isSome)
  | .make e sz b z n c _, .makeSlice t n' c' => makeFits P t e sz b z && n.fits n' && c.fits c'
  | .ext i x, .extract x' i' => decide (i = i') && x.fits x'
  | .call f args, .call { callee := .value (.func f'), args := args', .. } => decide (f = f') && callFits P f && listFits args args'.toList
  | .app e sz b x y, .call { callee := .builtin .append, args := ⟨[x', y']⟩, argTypes := ⟨[t, u]⟩ } => decide (t = u) && appFits P t e sz b && x.fits x' && y.fits y'
  | .apps e x y, .call { callee := .builtin .append, args := ⟨[x', y']⟩, argTypes := ⟨[t, u]⟩ } => appFits P t e 1 1 && stringIs P u && x.fits x' && y.fits y'
  | .copy sz x y, .call { callee := .builtin .copy, args := ⟨[x', y']⟩, argTypes := ⟨[t, _]⟩ } => idxaFits P t sz && x.fits x' && y.fits y'
  | .len x, .call { callee := .builtin .len, args := ⟨[x']⟩, argTypes := ⟨[t]⟩ } => (match P.underlying t with | some (.slice _) => true | _ => false) && x.fits x'
  | .lens x, .call { callee := .builtin .len, args := ⟨[x']⟩, argTypes := ⟨[t]⟩ } => stringIs P t && x.fits x'
  | .bconv x, .convert t u x' => decide (t = u) && (match P.underlying t with | some (.slice e) => u8Is P e | _ => false) && x.fits x'
  | .mm m x y, .call { callee := .builtin b, args := ⟨[x', y']⟩, .. } => (match m, b with | true, .max => true | false, .min => true | _, _ => false) && x.fits x' && y.fits y'
  | _, _ => false

theorem eff_sound {P : Program} {ao : AOp} {o : Oper} {s : S} {K : Eff → Prop} (hf : ao.fits P o.op = true) (wf : s.wf) (h : ao.eff P s K) : ∃ e, Does P o ao.looks s e ∧ K e := by
  have drop : ∀ {ls : List Nat}, (∃ e, Does P o ls s e ∧ e.nw = 0 ∧ K e) → ∃ e, Does P o ls s e ∧ K e := fun ⟨e, h1, _, h2⟩ => ⟨e, h1, h2⟩
  generalize hop : o.op = op at hf
  unfold AOp.fits at hf
  split at hf
  · exact drop (snd_mov (.inl hop) hf h)
  · exact drop (snd_mov (.inr hop) hf h)
  · simp only [Bool.and_eq_true] at hf
    exact drop (snd_pick hop hf.1.1 hf.1.2 hf.2 h)
  · simp only [Bool.and_eq_true, decide_eq_true_eq] at hf
    obtain ⟨⟨rfl, h1⟩, h2⟩ := hf
    exact drop (snd_bin hop h1 h2 h)
  · simp only [Bool.and_eq_true, decide_eq_true_eq] at hf
    obtain ⟨⟨rfl, h1⟩, h2⟩ := hf
    exact drop (snd_binw hop h1 h2 h)
  · simp only [Bool.and_eq_true] at hf
    rw [opIs_eq hf.1.1.1] at hop
    exact drop (snd_eqb hop (boolIs_some hf.1.1.2) hf.1.2 hf.2 h)
  · simp only [Bool.and_eq_true] at hf
    rw [opIs_eq hf.1.1.1] at hop
    exact snd_eqa hop hf.1.1.2 hf.1.2 hf.2 h
  · simp only [Bool.and_eq_true, decide_eq_true_eq] at hf
    obtain ⟨rfl, h1⟩ := hf
    exact drop (snd_un hop h1 h)
  · simp only [Bool.and_eq_true] at hf
    exact drop (snd_conv hop hf.1.1 (kindIs_some hf.1.2) hf.2 h)
  · simp only [Bool.and_eq_true] at hf
    exact drop (snd_same hop hf.1.1 (stringIs_some hf.1.2) hf.2 h)
  · simp only [Bool.and_eq_true] at hf
    exact snd_tostr hop hf.2 hf.1.1 (stringIs_some hf.1.2) wf h
  · simp only [Bool.and_eq_true] at hf
    exact snd_tobytes hop hf.2 hf.1.1.1 hf.1.1.2 hf.1.2 h
  · exact snd_build hop hf h
  · simp only [Bool.and_eq_true, decide_eq_true_eq] at hf
    obtain ⟨rfl, h1⟩ := hf
    exact snd_lit hop h1 h
  · simp only [Bool.and_eq_true, decide_eq_true_eq] at hf
    obtain ⟨rfl, h1⟩ := hf
    exact snd_box hop h1 h
  · simp only [Bool.and_eq_true, decide_eq_true_eq] at hf
    obtain ⟨rfl, h1⟩ := hf
    exact snd_alloc hop h1 h
  · simp only [Bool.and_eq_true] at hf
    exact snd_load hop hf.2 hf.1 wf h
  · simp only [Bool.and_eq_true, decide_eq_true_eq] at hf
    exact snd_store hop hf.1.2 hf.2 hf.1.1 wf h
  · exact snd_nilck hop hf h
  · simp only [Bool.and_eq_true] at hf
    exact snd_fld hop hf.2 hf.1 h
  · simp only [Bool.and_eq_true] at hf
    exact snd_get hop hf.2 hf.1 h
  · simp only [Bool.and_eq_true] at hf
    exact snd_idxa hop hf.1.2 hf.2 hf.1.1 h
  · simp only [Bool.and_eq_true] at hf
    exact snd_idxr hop hf.1.2 hf.2 hf.1.1 h
  · simp only [Bool.and_eq_true] at hf
    exact snd_idxv hop hf.1.2 hf.2 hf.1.1 h
  · simp only [Bool.and_eq_true] at hf
    exact drop (snd_idxs hop (stringIs_some hf.1.1) hf.1.2 hf.2 h)
  · simp only [Bool.and_eq_true, Bool.or_eq_true, Bool.not_eq_true'] at hf
    obtain ⟨⟨⟨⟨⟨h1, h2⟩, h3⟩, h4⟩, h5⟩, h6⟩ := hf
    exact snd_sl hop h2 h3 h4 h5 (fun hm => h6.elim (fun e => by rw [e] at hm; cases hm) id) h1 h
  · simp only [Bool.and_eq_true, Option.isNone_iff_eq_none] at hf
    obtain ⟨⟨⟨⟨h1, h2⟩, h3⟩, h4⟩, rfl⟩ := hf
    exact snd_sls hop h2 h3 h4 (stringIs_some h1) h
  · simp only [Bool.and_eq_true, Bool.or_eq_true, Bool.not_eq_true', decide_eq_true_eq] at hf
    obtain ⟨⟨⟨⟨⟨⟨h1, h0⟩, h2⟩, h3⟩, h4⟩, h5⟩, h6⟩ := hf
    exact snd_slr hop h2 h3 h4 h5 (fun hm => h6.elim (fun e => by rw [e] at hm; cases hm) id) h0 h1 wf h
  · simp only [Bool.and_eq_true] at hf
    exact snd_make hop hf.1.2 hf.2 hf.1.1 h
  · simp only [Bool.and_eq_true, decide_eq_true_eq] at hf
    obtain ⟨rfl, h1⟩ := hf
    exact snd_ext hop h1 h
  · simp only [Bool.and_eq_true, decide_eq_true_eq] at hf
    obtain ⟨⟨rfl, h1⟩, h2⟩ := hf
    exact snd_call hop h1 h2 wf h
  · simp only [Bool.and_eq_true, decide_eq_true_eq] at hf
    obtain ⟨⟨⟨rfl, h1⟩, h2⟩, h3⟩ := hf
    exact snd_app hop h2 h3 h1 wf h
  · simp only [Bool.and_eq_true] at hf
    exact snd_apps hop hf.1.2 hf.2 hf.1.1.1 (stringIs_some hf.1.1.2) wf h
  · simp only [Bool.and_eq_true] at hf
    exact snd_copy hop hf.1.2 hf.2 hf.1.1 wf h
  · simp only [Bool.and_eq_true] at hf
    split at hf
    · rename_i e hu; exact snd_len hop hu hf.2 h
    · cases hf.1
  · simp only [Bool.and_eq_true] at hf
    exact snd_lens hop (stringIs_some hf.1) hf.2 h
  · simp only [Bool.and_eq_true, decide_eq_true_eq] at hf
    obtain ⟨⟨rfl, h1⟩, h2⟩ := hf
    split at h1
    · rename_i e hu
      exact snd_bconv hop hu (u8Is_some h1) h2 wf h
    · cases h1
  · simp only [Bool.and_eq_true] at hf
    obtain ⟨⟨h1, h2⟩, h3⟩ := hf
    split at h1
    · exact snd_mm (m := true) hop h2 h3 h
    · exact snd_mm (m := false) hop h2 h3 h
    · cases h1
  · cases hf

end Go.Proofs.Ytjieenfbfckafaa.Am
/- Regions: operations one after the other, and in whatever order their edges allow. -/
namespace Go.Proofs.Ytjieenfbfckafaa.Am
open Go
set_option linter.unusedVariables false
set_option linter.unusedSimpArgs false

/-- How many temporaries there are, and what is deferred. -/
structure NN where
  n : Nat
  ds : List Deferred
/-- An abstract state is that of a frame and a world. -/
structure Rel (N : NN) (X : Ctx) (s : S) (a : Act) (w : World) : Prop where
  df : a.defers = N.ds
  sz : a.tmps.size = N.n
  env : ∀ t d, look s.env t = some d → t < N.n ∧ TVR w X d (a.tmps.getD t undef)
  ok : HeapOk w X (look s.hp)
  wf : s.wf
  dm : ∀ id, X.dm id → id < s.nx

theorem getD_put_same {a : Act} {d : Nat} {v : Value} (h : d < a.tmps.size) : (a.put (some d) v).tmps.getD d undef = v := by
  simp [Act.put, h]
theorem getD_put_ne {a : Act} {d t : Nat} {v : Value} (h : t ≠ d) : (a.put (some d) v).tmps.getD t undef = a.tmps.getD t undef := by
  simp [Act.put, Array.getElem?_setIfInBounds_ne (Ne.symm h)]
theorem size_put {a : Act} {dst : Option Nat} {v : Value} : (a.put dst v).tmps.size = a.tmps.size := by cases dst <;> simp [Act.put]
theorem defers_put {a : Act} {dst : Option Nat} {v : Value} : (a.put dst v).defers = a.defers := by cases dst <;> rfl

theorem upd_dom {h : Hp} : ∀ {wr : List (Nat × Option Ob)} {i : Nat} {o : Ob}, h.upd wr i = some o → i ∈ wr.map (·.1) ∨ h i = some o
  | [], i, o, hx => .inr hx
  | (k, none) :: r, i, o, hx => by
    rcases upd_dom (wr := r) hx with h1 | h1
    · exact .inl (by simp [h1])
    · exact .inr (Hp.del_some h1).2
  | (k, some x) :: r, i, o, hx => by
    rcases upd_dom (wr := r) hx with h1 | h1
    · exact .inl (by simp [h1])
    · rcases Hp.set_some h1 with ⟨rfl, _⟩ | ⟨_, h2⟩
      · exact .inl (by simp)
      · exact .inr h2

/-- Behind an effect the state is the effect's. -/
theorem Rel.app {N : NN} {X X' : Ctx} {s : S} {a : Act} {w w' : World} {e : Eff} {dst : Option Nat} {v : Value} (r : Rel N X s a w) (hd : ∀ d, dst = some d → d < N.n) (hv : TVR w' X' e.r v) (ok' : HeapOk w' X' (Hp.upd (look s.hp) e.wr))
    (ev : Evol X w (look s.hp) X' w' (Hp.upd (look s.hp) e.wr)) (hdm : ∀ id, X'.dm id → X.dm id ∨ (s.nx ≤ id ∧ id < s.nx + e.nw)) : Rel N X' (s.app dst e) (a.put dst v) w' := by
  have k := ev.keeps r.ok
  have hdm' : ∀ id, X'.dm id → id < s.nx + e.nw := fun id hid => by
    rcases hdm id hid with h | h
    · have := r.dm id h; omega
    · exact h.2
  refine ⟨by rw [defers_put]; exact r.df, by rw [size_put]; exact r.sz, ?_, by rw [show (s.app dst e).hp = upds s.hp e.wr from rfl, look_upds]; exact ok', ?_, hdm'⟩
  · intro t d ht
    cases dst with
    | none =>
      obtain ⟨h1, h2⟩ := r.env t d ht
      exact ⟨h1, TVR.mono k d _ h2⟩
    | some q =>
      simp only [S.app, setT, look_put] at ht
      split at ht
      · rename_i htq
        cases ht
        subst htq
        have hq := hd t rfl
        exact ⟨hq, by rw [getD_put_same (by rw [r.sz]; exact hq)]; exact hv⟩
      · rename_i htq
        obtain ⟨h1, h2⟩ := r.env t d ht
        exact ⟨h1, by rw [getD_put_ne htq]; exact TVR.mono k d _ h2⟩
  · intro id ob hob
    have hob : look (upds s.hp e.wr) id = some ob := hob
    rw [look_upds] at hob
    exact hdm' id (ok'.obj id ob hob).1

theorem Rel.skip {N : NN} {X : Ctx} {s : S} {a : Act} {w : World} {dst : Option Nat} (hd : ∀ d, dst = some d → d < N.n) (r : Rel N X s a w) : Rel N X (s.skip dst) (a.put dst undef) w := by
  refine ⟨by rw [defers_put]; exact r.df, by rw [size_put]; exact r.sz, ?_, r.ok, r.wf, r.dm⟩
  intro t d ht
  cases dst with
  | none => exact r.env t d ht
  | some q =>
    simp only [S.skip, unT, look_put] at ht
    split at ht
    · rename_i htq
      cases ht
      subst htq
      have hq := hd t rfl
      refine ⟨hq, ?_⟩
      rw [getD_put_same (by rw [r.sz]; exact hq)]
      exact ⟨#[], rfl, rfl⟩
    · rename_i htq
      obtain ⟨h1, h2⟩ := r.env t d ht
      exact ⟨h1, by rw [getD_put_ne htq]; exact h2⟩

theorem known_env {s : S} {t : Nat} {b : Bool} (h : look s.env t = some (.c (.p (.v (.bool b))))) : look (s.known t b).env = look s.env := by
  funext i
  simp only [S.known, look_put]
  split
  · rename_i hi; subst hi; exact h.symm
  · rfl

theorem Rel.known {N : NN} {X : Ctx} {s : S} {a : Act} {w : World} {t : Nat} {b : Bool} (r : Rel N X s a w) (h : look s.env t = some (.c (.p (.v (.bool b))))) : Rel N X (s.known t b) a w :=
  ⟨r.df, r.sz, fun i d hi => by rw [known_env h] at hi; exact r.env i d hi, r.ok, r.wf, r.dm⟩

/-- An abstract operation in its place and the model's. -/
def gfit (P : Program) (N : Nat) (ops : Array Oper) (g : GOp) (o : Oper) : Bool :=
  decide (g.dst = o.dst) && (match g.dst with | some d => decide (d < N) | none => true) && g.op.fits P o.op &&
    match g.g, o.guard with
    | none, none => true
    | some (t, b), some (j, b') => (b == b') && decide ((ops[j]?).bind (·.dst) = some t)
    | _, _ => false
def gfits (P : Program) (N : Nat) (ops : Array Oper) : List GOp → List Oper → Bool
  | [], [] => true
  | g :: gs, o :: os => gfit P N ops g o && gfits P N ops gs os
  | _, _ => false

theorem gfit_parts {P : Program} {N : Nat} {ops : Array Oper} {g : GOp} {o : Oper} (h : gfit P N ops g o = true) :
    g.dst = o.dst ∧ (∀ d, o.dst = some d → d < N) ∧ g.op.fits P o.op = true ∧ ((g.g = none ∧ o.guard = none) ∨ ∃ t b j, g.g = some (t, b) ∧ o.guard = some (j, b) ∧ (ops[j]?).bind (·.dst) = some t) := by
  simp only [gfit, Bool.and_eq_true, decide_eq_true_eq] at h
  obtain ⟨⟨⟨h1, h2⟩, h3⟩, h4⟩ := h
  refine ⟨h1, ?_, h3, ?_⟩
  · intro d hd
    rw [h1, hd] at h2
    simpa using h2
  · split at h4
    · rename_i e1 e2; exact .inl ⟨e1, e2⟩
    · rename_i t b j b' e1 e2
      simp only [Bool.and_eq_true, beq_iff_eq, decide_eq_true_eq] at h4
      obtain ⟨rfl, h5⟩ := h4
      exact .inr ⟨t, b, j, e1, e2, h5⟩
    · cases h4

/-- A guard's answer. -/
theorem wanted_of {ops : Array Oper} {o : Oper} {tmps : Array Value} {t j : Nat} {want b : Bool} (hg : o.guard = some (j, want)) (ht : (ops[j]?).bind (·.dst) = some t) (hlt : t < tmps.size) (hv : tmps.getD t undef = .bool b) :
    Region.wanted o (yielded ops tmps) = (b == want) := by
  have h1 : tmps[t]? = some (.bool b) := by
    rw [Array.getD_eq_getD_getElem?, Array.getElem?_eq_getElem hlt] at hv
    rw [Array.getElem?_eq_getElem hlt]
    simpa using hv
  have h2 : yielded ops tmps j = some b := by
    unfold yielded
    rw [ht]
    simp [h1]
  simp only [Region.wanted, hg, h2]
  cases b <;> cases want <;> rfl
/-- A guard that was not asked. -/
theorem wanted_tup {ops : Array Oper} {o : Oper} {tmps : Array Value} {t j : Nat} {want : Bool} (hg : o.guard = some (j, want)) (ht : (ops[j]?).bind (·.dst) = some t) (hlt : t < tmps.size) (hv : tmps.getD t undef = .tuple #[]) :
    Region.wanted o (yielded ops tmps) = false := by
  have h1 : tmps[t]? = some (.tuple #[]) := by
    rw [Array.getD_eq_getD_getElem?, Array.getElem?_eq_getElem hlt] at hv
    rw [Array.getElem?_eq_getElem hlt]
    simpa using hv
  have h2 : yielded ops tmps j = none := by
    unfold yielded
    rw [ht]
    simp [h1]
  simp only [Region.wanted, hg, h2]
  cases want <;> rfl
theorem tvr_tup {w : World} {X : Ctx} {u : Value} (h : TVR w X (.tup []) u) : u = .tuple #[] := by
  obtain ⟨vs, rfl, h⟩ := h
  have h : vs.toList = [] := h
  simp at h
  rw [h]
theorem wanted_none {ops : Array Oper} {o : Oper} {tmps : Array Value} (hg : o.guard = none) : Region.wanted o (yielded ops tmps) = true := by simp [Region.wanted, hg]

section
variable {P : Program} {N : NN} {ops : Array Oper} {Q : Exit → Act → World → Prop}

theorem run_seq : ∀ (gs : List GOp) (l : List Oper) (s : S) (fp : List (List Nat × List Nat)) (K : S → List (List Nat × List Nat) → Prop) (X : Ctx) (a : Act) (w : World), gfits P N.n ops gs l = true → run P gs s fp K → Rel N X s a w →
    (∀ s' fp' X' a' w', K s' fp' → Rel N X' s' a' w' → Evol X w (look s.hp) X' w' (look s'.hp) → Q .normal a' w') → wpList P ops Q l a w
  | [], [], s, fp, K, X, a, w, _, h, r, hk => hk s fp X a w h r (Evol.refl _ _ _)
  | g :: gs, o :: l, s, fp, K, X, a, w, hf, h, r, hk => by
    simp only [gfits, Bool.and_eq_true] at hf
    obtain ⟨hf1, hf2⟩ := hf
    obtain ⟨hdst, hdN, hop, hg⟩ := gfit_parts hf1
    -- one operation that is carried out
    have exec : ∀ (s0 : S), Rel N X s0 a w → look s0.hp = look s.hp → (g.op.eff P s0 fun e => run P gs (s0.app g.dst e) ((e.acc, e.wrs) :: fp) K) → o.wp P a w (wpList P ops Q l) Q := by
      intro s0 r0 hhp h0
      obtain ⟨e, hdoes, hrun⟩ := eff_sound hop r0.wf h0
      refine hdoes X w a (look s0.hp) _ _ (fun t _ d ht => (r0.env t d ht).2) r0.ok (fun id _ _ => rfl) (fun id h1 _ hid => by have := r0.dm id hid; omega) ?_
      intro v w' X' hv ok' ev hdm
      have r1 := r0.app (dst := g.dst) (by rw [hdst]; exact hdN) hv ok' ev hdm
      rw [hdst] at r1 hrun
      refine run_seq gs l _ _ K X' _ w' hf2 hrun r1 fun s' fp' X'' a' w'' hK r' ev' => hk s' fp' X'' a' w'' hK r' ?_
      have e1 : look (s0.app o.dst e).hp = Hp.upd (look s0.hp) e.wr := by rw [show (s0.app o.dst e).hp = upds s0.hp e.wr from rfl, look_upds]
      rw [e1] at ev'
      rw [← hhp]
      exact ev.trans ev'
    rcases hg with ⟨hg, hog⟩ | ⟨t, want, j, hg, hog, htj⟩
    · unfold wpList
      rw [if_pos (wanted_none hog)]
      simp only [run, hg] at h
      exact .inl (exec s r rfl h)
    · simp only [run, hg] at h
      rcases asG_some h with ⟨b, hb, h0⟩ | ⟨hb, h0⟩
      rotate_left
      · obtain ⟨htN, htv⟩ := r.env t _ hb
        have hw := wanted_tup (ops := ops) hog htj (by rw [r.sz]; exact htN) (tvr_tup htv)
        unfold wpList
        rw [if_neg (by rw [hw]; simp)]
        rw [hdst] at h0
        exact run_seq gs l _ _ K X _ w hf2 h0 (r.skip hdN) fun s' fp' X'' a' w'' hK r' ev' => hk s' fp' X'' a' w'' hK r' ev'
      obtain ⟨h1, h2⟩ := onW_iff.1 h0
      clear h0
      obtain ⟨htN, htv⟩ := r.env t _ hb
      have htv := tvr_v htv
      have hw := wanted_of (ops := ops) hog htj (by rw [r.sz]; exact htN) htv
      unfold wpList
      by_cases hbw : b = want
      · subst hbw
        rw [if_pos (by rw [hw]; simp)]
        exact .inl (exec (s.known t b) (r.known hb) rfl (h1 rfl))
      · have hbw' : b = !want := by cases b <;> cases want <;> simp_all
        rw [if_neg (by rw [hw]; simpa using hbw)]
        have h3 := h2 hbw'
        clear h2 h1
        subst hbw'
        rw [hdst] at h3
        exact run_seq gs l _ _ K X _ w hf2 h3 ((r.known hb).skip hdN) fun s' fp' X'' a' w'' hK r' ev' => hk s' fp' X'' a' w'' hK r' ev'
  | [], _ :: _, _, _, _, _, _, _, hf, _, _, _ => by simp [gfits] at hf
  | _ :: _, [], _, _, _, _, _, _, hf, _, _, _ => by simp [gfits] at hf

end
end Go.Proofs.Ytjieenfbfckafaa.Am
/- A region that draws its order comes to the end that the order of the text comes to, where operations that no edge orders keep apart. -/
namespace Go.Proofs.Ytjieenfbfckafaa.Am
open Go
set_option linter.unusedVariables false
set_option linter.unusedSimpArgs false

/-! ### Writes one after the other, by those in a set -/
def st {L C : Type} (w : Nat → L → Option C) (S : Nat → Bool) (s0 : L → C) : Nat → L → C
  | 0, l => s0 l
  | k + 1, l => if S k then (w k l).getD (st w S s0 k l) else st w S s0 k l

theorem st_congr {L C : Type} {w w' : Nat → L → Option C} {S S' : Nat → Bool} {s0 : L → C} {l : L} : ∀ k, (∀ j, j < k → (if S j then w j l else none) = (if S' j then w' j l else none)) → st w S s0 k l = st w' S' s0 k l
  | 0, _ => rfl
  | k + 1, h => by
    have ih := st_congr (s0 := s0) k fun j hj => h j (by omega)
    have hk := h k (by omega)
    simp only [st, ih]
    clear h ih
    cases h1 : S k <;> cases h2 : S' k <;> simp_all <;> rw [← hk] <;> rfl

/-- What a ready operation meets is what it meets in the text's order. -/
theorem st_meets {L C : Type} {w : Nat → L → Option C} {S : Nat → Bool} {s0 : L → C} {n k : Nat} {l : L} (hkn : k < n) (hk : S k = false) (hA : ∀ j, j < k → (w j l).isSome → S j = true) (hB : ∀ j, k < j → j < n → (w j l).isSome → S j = false) :
    st w S s0 n l = st w (fun _ => true) s0 k l := by
  have h1 : ∀ m, k ≤ m → m ≤ n → st w S s0 m l = st w S s0 k l := by
    intro m
    induction m with
    | zero => intro h _; have : k = 0 := by omega
              subst this; rfl
    | succ m ih =>
      intro h hm
      rcases Nat.lt_or_ge m k with h1 | h1
      · have : k = m + 1 := by omega
        rw [this]
      · simp only [st]
        rw [ih h1 (by omega)]
        by_cases hs : S m = true
        · rw [if_pos hs]
          rcases Nat.lt_or_ge k m with h2 | h2
          · have : (w m l).isSome = false := by
              cases hw : (w m l).isSome with
              | false => rfl
              | true => have := hB m h2 (by omega) hw; rw [hs] at this; cases this
            rw [Option.isSome_eq_false_iff, Option.isNone_iff_eq_none] at this
            rw [this]; rfl
          · have : m = k := by omega
            subst this
            rw [hk] at hs; cases hs
        · rw [if_neg hs]
  rw [h1 n (by omega) (Nat.le_refl _)]
  refine st_congr k fun j hj => ?_
  cases hw : w j l with
  | none => simp
  | some c => rw [hA j hj (by rw [hw]; rfl)]

/-- One operation more. -/
theorem st_more {L C : Type} {w : Nat → L → Option C} {S : Nat → Bool} {s0 : L → C} {n k : Nat} {l : L} (hkn : k < n) (hk : S k = false) (hB : (w k l).isSome → ∀ j, k < j → j < n → (w j l).isSome → S j = false) :
    st w (fun j => S j || j == k) s0 n l = (w k l).getD (st w S s0 n l) := by
  cases hw : w k l with
  | none =>
    refine st_congr n fun j hj => ?_
    by_cases hjk : j = k
    · subst hjk; simp [hw]
    · have : (j == k) = false := by simpa using hjk
      simp only [this, Bool.or_false]
  | some c =>
    have hB := hB (by rw [hw]; rfl)
    have h1 : ∀ m, k < m → m ≤ n → st w (fun j => S j || j == k) s0 m l = c := by
      intro m
      induction m with
      | zero => intro h _; omega
      | succ m ih =>
        intro h hm
        simp only [st]
        rcases Nat.lt_or_ge k m with h2 | h2
        · rw [ih h2 (by omega)]
          have hmk : (m == k) = false := by simp; omega
          simp only [hmk, Bool.or_false]
          split
          · rename_i hs
            have : (w m l).isSome = false := by
              cases hw' : (w m l).isSome with
              | false => rfl
              | true => have := hB m h2 (by omega) hw'; rw [hs] at this; cases this
            rw [Option.isSome_eq_false_iff, Option.isNone_iff_eq_none] at this
            rw [this]; rfl
          · rfl
        · have : m = k := by omega
          subst this
          simp [hw]
    rw [h1 n (by omega) (Nat.le_refl _)]
    rfl

/-! ### What a region's operations did in the text's order -/
structure Rec where
  s : S
  e : Option Eff

def lastW : List (Nat × Option Ob) → Nat → Option (Option Ob)
  | [], _ => none
  | (k, x) :: r, i => match lastW r i with
    | some y => some y
    | none => if i = k then some x else none
theorem upd_lastW : ∀ (wr : List (Nat × Option Ob)) (h : Hp) (i : Nat), h.upd wr i = (lastW wr i).getD (h i)
  | [], h, i => rfl
  | (k, none) :: r, h, i => by
    simp only [Hp.upd, lastW, upd_lastW r]
    cases lastW r i with
    | some y => rfl
    | none =>
      simp only [Option.getD_none, Hp.del]
      split <;> simp
  | (k, some x) :: r, h, i => by
    simp only [Hp.upd, lastW, upd_lastW r]
    cases lastW r i with
    | some y => rfl
    | none =>
      simp only [Option.getD_none, Hp.set]
      split <;> simp
theorem lastW_mem : ∀ {wr : List (Nat × Option Ob)} {i : Nat}, (lastW wr i).isSome → i ∈ wr.map (·.1)
  | [], i, h => by simp [lastW] at h
  | (k, x) :: r, i, h => by
    simp only [lastW] at h
    cases hr : lastW r i with
    | some y => simp [lastW_mem (wr := r) (i := i) (by rw [hr]; rfl)]
    | none =>
      rw [hr] at h
      simp only [] at h
      split at h
      · rename_i e; simp [e]
      · cases h

def wT (gs : List GOp) (R : Nat → Rec) (j : Nat) (t : Nat) : Option (Option TV) :=
  match (gs[j]?).bind (·.dst) with
  | some d => if t = d then some (some (match (R j).e with | some e => e.r | none => .tup [])) else none
  | none => none
def wH (R : Nat → Rec) (j : Nat) (id : Nat) : Option (Option Ob) :=
  match (R j).e with
  | some e => lastW e.wr id
  | none => none
def nxAt (nx0 : Nat) (R : Nat → Rec) : Nat → Nat
  | 0 => nx0
  | k + 1 => nxAt nx0 R k + ((R k).e.map (·.nw)).getD 0
def fpOf (r : Rec) : List Nat × List Nat :=
  match r.e with
  | some e => (e.acc, e.wrs)
  | none => ([], [])

abbrev eAt (gs : List GOp) (s0 : S) (R : Nat → Rec) (Sl : Nat → Bool) (k : Nat) : Env := st (wT gs R) Sl (look s0.env) k
abbrev hAt (s0 : S) (R : Nat → Rec) (Sl : Nat → Bool) (k : Nat) : Hp := st (wH R) Sl (look s0.hp) k

/-- The k-th operation in the text's order. -/
def StepOk (P : Program) (gs : List GOp) (ops : Array Oper) (s0 : S) (R : Nat → Rec) (k : Nat) : Prop :=
  ∃ g o, gs[k]? = some g ∧ ops[k]? = some o ∧ look (R k).s.env = eAt gs s0 R (fun _ => true) k ∧ look (R k).s.hp = hAt s0 R (fun _ => true) k ∧ (R k).s.nx = nxAt s0.nx R k ∧
    match (R k).e with
    | some e => Does P o g.op.looks (R k).s e ∧ ∀ t b, g.g = some (t, b) → look (R k).s.env t = some (.c (.p (.v (.bool b))))
    | none => ∃ t b, g.g = some (t, b) ∧ (look (R k).s.env t = some (.c (.p (.v (.bool !b)))) ∨ look (R k).s.env t = some (.tup []))

theorem nxAt_congr {nx0 : Nat} {R R' : Nat → Rec} : ∀ k, (∀ j, j < k → R j = R' j) → nxAt nx0 R k = nxAt nx0 R' k
  | 0, _ => rfl
  | k + 1, h => by simp only [nxAt, nxAt_congr k fun j hj => h j (by omega), h k (by omega)]
theorem eAt_congr {gs : List GOp} {s0 : S} {R R' : Nat → Rec} {Sl : Nat → Bool} (k : Nat) (h : ∀ j, j < k → R j = R' j) : eAt gs s0 R Sl k = eAt gs s0 R' Sl k := by
  funext t
  exact st_congr k fun j hj => by simp only [wT, h j hj]
theorem hAt_congr {s0 : S} {R R' : Nat → Rec} {Sl : Nat → Bool} (k : Nat) (h : ∀ j, j < k → R j = R' j) : hAt s0 R Sl k = hAt s0 R' Sl k := by
  funext t
  exact st_congr k fun j hj => by simp only [wH, h j hj]
theorem StepOk.congr {P : Program} {gs : List GOp} {ops : Array Oper} {s0 : S} {R R' : Nat → Rec} {k : Nat} (h : ∀ j, j ≤ k → R j = R' j) (hs : StepOk P gs ops s0 R k) : StepOk P gs ops s0 R' k := by
  obtain ⟨g, o, h1, h2, h3, h4, h5, h6⟩ := hs
  have hk := h k (Nat.le_refl _)
  refine ⟨g, o, h1, h2, ?_, ?_, ?_, ?_⟩
  · rw [← hk, h3]; exact eAt_congr k fun j hj => h j (by omega)
  · rw [← hk, h4]; exact hAt_congr k fun j hj => h j (by omega)
  · rw [← hk, h5]; exact nxAt_congr k fun j hj => h j (by omega)
  · rw [← hk]; exact h6

/-- A fact that an operation's run hands on whatever comes. -/
theorem wp_const {P : Program} {o : Oper} {a : Act} {w : World} {p : Prop} (h : o.wp P a w (fun _ _ => p) (fun _ _ _ => False)) : p := by
  unfold Oper.wp at h
  generalize (execOp a.eval o).run P w = r at h
  cases r with
  | ok n w' =>
    cases n <;> simp only [Oper.upon] at h
    all_goals first
      | exact h
      | exact h.elim
      | (obtain ⟨e, w', fr, hR, _⟩ := h []
         cases e with
         | returned v => exact hR
         | panicked c => exact hR.elim
         | outgrown => obtain ⟨_, _, h⟩ := hR; exact h.elim)
      | (obtain ⟨v, w', hR, _⟩ := h default []
         exact hR)
  | halt x w' => cases x <;> simp only [Oper.upon] at h

section
variable {P : Program} {N : NN} {ops : Array Oper}

/-- The text's order, operation by operation. -/
theorem run_steps {gs : List GOp} {s0 : S} {K : S → List (List Nat × List Nat) → Prop} {X : Ctx} {a : Act} {w : World} (hf : gfits P N.n ops gs ops.toList = true) (hrun : run P gs s0 [] K) (r0 : Rel N X s0 a w) :
    ∀ n, n ≤ gs.length → ∃ (R : Nat → Rec) (s : S), (∀ k, k < n → StepOk P gs ops s0 R k) ∧ look s.env = eAt gs s0 R (fun _ => true) n ∧ look s.hp = hAt s0 R (fun _ => true) n ∧ s.nx = nxAt s0.nx R n ∧
      run P (gs.drop n) s (((List.range n).map fun k => fpOf (R k)).reverse) K ∧ ∃ X' a' w', Rel N X' s a' w'
  | 0, _ => ⟨fun _ => ⟨s0, none⟩, s0, fun k hk => by omega, rfl, rfl, rfl, by simpa using hrun, X, a, w, r0⟩
  | n + 1, hn => by
    obtain ⟨R, s, h1, h2, h3, h4, h5, X1, a1, w1, r1⟩ := run_steps hf hrun r0 n (by omega)
    have hgs : gs.length = ops.size := by
      have key : ∀ (gs : List GOp) (os : List Oper), gfits P N.n ops gs os = true → gs.length = os.length := by
        intro gs
        induction gs with
        | nil => intro os h; cases os <;> simp_all [gfits]
        | cons g gs ih => intro os h; cases os with
                          | nil => simp [gfits] at h
                          | cons o os => simp only [gfits, Bool.and_eq_true] at h; simp [ih os h.2]
      have := key gs ops.toList hf
      simpa using this
    have hlt : n < gs.length := by omega
    have hlt' : n < ops.size := by omega
    have hfit : gfit P N.n ops gs[n] ops[n] = true := by
      have key : ∀ (gs : List GOp) (os : List Oper), gfits P N.n ops gs os = true → ∀ (n : Nat) (h1 : n < gs.length) (h2 : n < os.length), gfit P N.n ops gs[n] os[n] = true := by
        intro gs
        induction gs with
        | nil => intro os h n h1; simp at h1
        | cons g gs ih => intro os h n h1 h2; cases os with
                          | nil => simp at h2
                          | cons o os =>
                            simp only [gfits, Bool.and_eq_true] at h
                            cases n with
                            | zero => exact h.1
                            | succ n => exact ih os h.2 n (by simpa using h1) (by simpa using h2)
      have := key gs ops.toList hf n hlt (by simpa using hlt')
      simpa using this
    obtain ⟨hdst, hdN, hop, hg⟩ := gfit_parts hfit
    have hgn : gs[n]? = some gs[n] := List.getElem?_eq_getElem hlt
    have hon : ops[n]? = some ops[n] := Array.getElem?_eq_getElem hlt'
    rw [List.drop_eq_getElem_cons hlt] at h5
    -- the record laid at n
    have lay : ∀ (q : Rec), (∀ k, k < n → StepOk P gs ops s0 (fun j => if j = n then q else R j) k) ∧ eAt gs s0 (fun j => if j = n then q else R j) (fun _ => true) n = eAt gs s0 R (fun _ => true) n ∧
        hAt s0 (fun j => if j = n then q else R j) (fun _ => true) n = hAt s0 R (fun _ => true) n ∧ nxAt s0.nx (fun j => if j = n then q else R j) n = nxAt s0.nx R n ∧
        (List.range n).map (fun k => fpOf ((fun j => if j = n then q else R j) k)) = (List.range n).map fun k => fpOf (R k) := by
      intro q
      have hc : ∀ j, j < n → R j = (fun j => if j = n then q else R j) j := fun j hj => by simp; omega
      refine ⟨fun k hk => (h1 k hk).congr fun j hj => hc j (by omega), (eAt_congr n hc).symm, (hAt_congr n hc).symm, (nxAt_congr n hc).symm, ?_⟩
      apply List.map_congr_left
      intro k hk
      rw [List.mem_range] at hk
      simp only []
      rw [if_neg (by omega)]
    -- carried out
    have exec : ∀ (s1 : S), Rel N X1 s1 a1 w1 → look s1.env = look s.env → s1.hp = s.hp → s1.nx = s.nx → (∀ t b, gs[n].g = some (t, b) → look s1.env t = some (.c (.p (.v (.bool b))))) →
        (gs[n].op.eff P s1 fun e => run P (gs.drop (n + 1)) (s1.app gs[n].dst e) ((e.acc, e.wrs) :: ((List.range n).map fun k => fpOf (R k)).reverse) K) →
        ∃ (R : Nat → Rec) (s : S), (∀ k, k < n + 1 → StepOk P gs ops s0 R k) ∧ look s.env = eAt gs s0 R (fun _ => true) (n + 1) ∧ look s.hp = hAt s0 R (fun _ => true) (n + 1) ∧ s.nx = nxAt s0.nx R (n + 1) ∧
          run P (gs.drop (n + 1)) s (((List.range (n + 1)).map fun k => fpOf (R k)).reverse) K ∧ ∃ X' a' w', Rel N X' s a' w' := by
      intro s1 r1' e1 e2 e3 hgt h0
      obtain ⟨e, hdoes, hr⟩ := eff_sound hop r1'.wf h0
      obtain ⟨l1, l2, l3, l4, l5⟩ := lay ⟨s1, some e⟩
      have hn0 : (fun j => if j = n then (⟨s1, some e⟩ : Rec) else R j) n = ⟨s1, some e⟩ := if_pos rfl
      refine ⟨fun j => if j = n then ⟨s1, some e⟩ else R j, s1.app gs[n].dst e, ?_, ?_, ?_, ?_, ?_, ?_⟩
      · intro k hk
        rcases Nat.lt_or_ge k n with h | h
        · exact l1 k h
        · have : k = n := by omega
          subst this
          refine ⟨_, _, hgn, hon, ?_, ?_, ?_, ?_⟩
          · rw [hn0, l2, ← h2]; exact e1
          · rw [hn0, l3, ← h3]; show look s1.hp = _; rw [e2]
          · rw [hn0, l4, ← h4]; exact e3
          · rw [hn0]; exact ⟨hdoes, hgt⟩
      · funext t
        show look (setT s1.env gs[n].dst e.r) t = _
        simp only [eAt, st, if_true]
        rw [show st (wT gs fun j => if j = n then (⟨s1, some e⟩ : Rec) else R j) (fun _ => true) (look s0.env) n = eAt gs s0 R (fun _ => true) n from l2, ← h2, ← e1]
        simp only [wT, hn0, hgn, Option.bind_some]
        cases gs[n].dst with
        | none => rfl
        | some d =>
          simp only [setT, look_put]
          split <;> rfl
      · rw [show (s1.app gs[n].dst e).hp = upds s1.hp e.wr from rfl, look_upds]
        funext i
        simp only [hAt, st, if_true]
        rw [show st (wH fun j => if j = n then (⟨s1, some e⟩ : Rec) else R j) (fun _ => true) (look s0.hp) n = hAt s0 R (fun _ => true) n from l3, ← h3, upd_lastW]
        simp only [wH, if_true]
        rw [e2]
      · show s1.nx + e.nw = _
        simp only [nxAt, l4, ← h4, hn0, e3]
        rfl
      · rw [List.range_succ, List.map_append, l5, List.reverse_append]
        simp only [List.map_cons, List.map_nil, hn0, List.reverse_cons, List.reverse_nil, List.nil_append, List.singleton_append]
        exact hr
      · have hw := hdoes X1 w1 a1 (look s1.hp) (fun _ _ => ∃ X' a' w', Rel N X' (s1.app gs[n].dst e) a' w') (fun _ _ _ => False) (fun t _ d ht => (r1'.env t d ht).2) r1'.ok (fun id _ _ => rfl) (fun id q1 _ hid => by have := r1'.dm id hid; omega)
          (fun v w' X' hv ok' ev hdm => ⟨X', _, w', r1'.app (dst := gs[n].dst) (by rw [hdst]; exact hdN) hv ok' ev hdm⟩)
        exact wp_const hw
    rcases hg with ⟨hg, hog⟩ | ⟨t, want, j, hg, hog, htj⟩
    · simp only [run, hg] at h5
      exact exec s r1 rfl rfl rfl (fun t b h => by rw [hg] at h; cases h) h5
    · simp only [run, hg] at h5
      -- passed by
      have pass : ∀ (s1 : S), Rel N X1 s1 a1 w1 → look s1.env = look s.env → s1.hp = s.hp → s1.nx = s.nx → (look s1.env t = some (.c (.p (.v (.bool !want)))) ∨ look s1.env t = some (.tup [])) →
          run P (gs.drop (n + 1)) (s1.skip gs[n].dst) (([], []) :: ((List.range n).map fun k => fpOf (R k)).reverse) K →
          ∃ (R : Nat → Rec) (s : S), (∀ k, k < n + 1 → StepOk P gs ops s0 R k) ∧ look s.env = eAt gs s0 R (fun _ => true) (n + 1) ∧ look s.hp = hAt s0 R (fun _ => true) (n + 1) ∧ s.nx = nxAt s0.nx R (n + 1) ∧
            run P (gs.drop (n + 1)) s (((List.range (n + 1)).map fun k => fpOf (R k)).reverse) K ∧ ∃ X' a' w', Rel N X' s a' w' := by
        intro s1 r1' e1 e2 e3 hgt hno
        obtain ⟨l1, l2, l3, l4, l5⟩ := lay ⟨s1, none⟩
        have hn0 : (fun j => if j = n then (⟨s1, none⟩ : Rec) else R j) n = ⟨s1, none⟩ := if_pos rfl
        refine ⟨fun j => if j = n then ⟨s1, none⟩ else R j, s1.skip gs[n].dst, ?_, ?_, ?_, ?_, ?_, ?_⟩
        · intro k hk
          rcases Nat.lt_or_ge k n with h | h
          · exact l1 k h
          · have : k = n := by omega
            subst this
            refine ⟨_, _, hgn, hon, ?_, ?_, ?_, ?_⟩
            · rw [hn0, l2, ← h2]; exact e1
            · rw [hn0, l3, ← h3]; show look s1.hp = _; rw [e2]
            · rw [hn0, l4, ← h4]; exact e3
            · rw [hn0]; exact ⟨t, want, hg, hgt⟩
        · funext i
          show look (unT s1.env gs[n].dst) i = _
          simp only [eAt, st, if_true]
          rw [show st (wT gs fun j => if j = n then (⟨s1, none⟩ : Rec) else R j) (fun _ => true) (look s0.env) n = eAt gs s0 R (fun _ => true) n from l2, ← h2, ← e1]
          simp only [wT, hn0, hgn, Option.bind_some]
          cases gs[n].dst with
          | none => rfl
          | some d =>
            simp only [unT, look_put]
            split <;> rfl
        · funext i
          simp only [hAt, st, if_true]
          rw [show st (wH fun j => if j = n then (⟨s1, none⟩ : Rec) else R j) (fun _ => true) (look s0.hp) n = hAt s0 R (fun _ => true) n from l3, ← h3]
          simp only [wH, hn0]
          show look s1.hp i = _
          rw [e2]; rfl
        · show s1.nx = _
          simp only [nxAt, l4, ← h4, hn0, e3]
          rfl
        · rw [List.range_succ, List.map_append, l5, List.reverse_append]
          simp only [List.map_cons, List.map_nil, hn0, List.reverse_cons, List.reverse_nil, List.nil_append, List.singleton_append]
          exact hno
        · exact ⟨X1, _, w1, r1'.skip (by rw [hdst]; exact hdN)⟩
      rcases asG_some h5 with ⟨b, hb, h0⟩ | ⟨hb, h0⟩
      rotate_left
      · exact pass s r1 rfl rfl rfl (.inr hb) h0
      obtain ⟨hyes, hno⟩ := onW_iff.1 h0
      clear h0
      by_cases hbw : b = want
      · subst hbw
        refine exec (s.known t b) (r1.known hb) (known_env hb) rfl rfl (fun t' b' h => ?_) (hyes rfl)
        rw [hg] at h
        simp only [Option.some.injEq, Prod.mk.injEq] at h
        obtain ⟨rfl, rfl⟩ := h
        rw [known_env hb]; exact hb
      · have hbw' : b = !want := by cases b <;> cases want <;> simp_all
        have hno := hno hbw'
        rw [hbw'] at hb
        exact pass (s.known t !want) (r1.known hb) (known_env hb) rfl rfl (.inl (by rw [known_env hb]; exact hb)) hno
end
end Go.Proofs.Ytjieenfbfckafaa.Am
/- Regions in whatever order their edges allow: the whole of it. -/
namespace Go.Proofs.Ytjieenfbfckafaa.Am
open Go
set_option linter.unusedVariables false
set_option linter.unusedSimpArgs false

def disj (a b : List Nat) : Bool := a.all fun x => b.all fun y => !(x == y)
theorem disj_spec {a b : List Nat} (h : disj a b = true) {x : Nat} (hx : x ∈ a) : x ∉ b := by
  intro hb
  simp only [disj, List.all_eq_true] at h
  simpa using h x hx x hb

/-- All pairs of numbers below n, the smaller first. -/
def pairs (n : Nat) (f : Nat → Nat → Bool) : Bool := (List.range n).all fun j => (List.range j).all fun i => f i j
theorem pairs_spec {n : Nat} {f : Nat → Nat → Bool} (h : pairs n f = true) {i j : Nat} (hij : i < j) (hj : j < n) : f i j = true := by
  simp only [pairs, List.all_eq_true, List.mem_range] at h
  exact h j hj i hij

def ord (bits : List Nat) (i j : Nat) : Bool := (bits.getD j 0).testBit i
/-- What no edge orders keeps apart in memory. -/
def chkDraw (bits : List Nat) (fps : List (List Nat × List Nat)) : Bool :=
  pairs fps.length fun i j => (disj (fps.getD i ([], [])).2 (fps.getD j ([], [])).1 && disj (fps.getD i ([], [])).1 (fps.getD j ([], [])).2) || ord bits i j

def GOp.looks (g : GOp) : List Nat := (match g.g with | some (t, _) => [t] | none => []) ++ g.op.looks
def GOp.apart (x y : GOp) : Bool :=
  (match x.dst with | some d => !(y.looks.contains d) && (match y.dst with | some e => !(d == e) | none => true) | none => true) &&
  (match y.dst with | some d => !(x.looks.contains d) | none => true)
def edgesOk (bits : List Nat) (k : Nat) (o : Oper) : Bool :=
  (o.after.toList.all fun e => !Region.binds .any e || decide (e.on < k)) &&
  (bits.getD k 0 == o.after.toList.foldl (fun s e => if Region.binds .any e then s ||| 2 ^ e.on ||| bits.getD e.on 0 else s) 0)
def edgesAll (bits : List Nat) : Nat → List Oper → Bool
  | _, [] => true
  | k, o :: os => edgesOk bits k o && edgesAll bits (k + 1) os
/-- What no edge orders keeps apart in the frame. -/
def drawFits (bits : List Nat) (gs : List GOp) (ops : Array Oper) : Bool :=
  edgesAll bits 0 ops.toList && pairs gs.length fun i j => ord bits i j || (match gs[i]?, gs[j]? with | some x, some y => x.apart y | _, _ => false)

theorem edgesAll_spec {bits : List Nat} : ∀ {os : List Oper} {k : Nat}, edgesAll bits k os = true → ∀ j o, os[j]? = some o → edgesOk bits (k + j) o = true
  | [], k, _, j, o, h => by simp at h
  | x :: os, k, hh, j, o, h => by
    simp only [edgesAll, Bool.and_eq_true] at hh
    cases j with
    | zero => simp at h; subst h; exact hh.1
    | succ j =>
      have := edgesAll_spec hh.2 j o (by simpa using h)
      rwa [show k + 1 + j = k + (j + 1) by omega] at this

theorem testBit_pow {i j : Nat} (h : (2 ^ i).testBit j = true) : j = i := by
  rw [Nat.testBit_two_pow] at h
  exact (of_decide_eq_true h).symm

theorem fold_bits {bits : List Nat} {i : Nat} : ∀ {es : List Edge} {s : Nat},
    (es.foldl (fun s e => if Region.binds .any e then s ||| 2 ^ e.on ||| bits.getD e.on 0 else s) s).testBit i = true →
    s.testBit i = true ∨ ∃ e ∈ es, Region.binds .any e = true ∧ (i = e.on ∨ ord bits i e.on = true)
  | [], s, h => .inl h
  | e :: es, s, h => by
    rw [List.foldl_cons] at h
    rcases fold_bits h with h1 | ⟨e', h1, h2⟩
    · by_cases hb : Region.binds .any e = true
      · rw [if_pos hb, Nat.testBit_or, Nat.testBit_or, Bool.or_eq_true, Bool.or_eq_true] at h1
        rcases h1 with (h1 | h1) | h1
        · exact .inl h1
        · exact .inr ⟨e, by simp, hb, .inl (testBit_pow h1)⟩
        · exact .inr ⟨e, by simp, hb, .inr h1⟩
      · rw [if_neg hb] at h1
        exact .inl h1
    · exact .inr ⟨e', by simp [h1], h2⟩

/-- How many are not listed. -/
def cnt (l : Array Bool) : Nat → Nat
  | 0 => 0
  | k + 1 => cnt l k + if l.getD k true then 0 else 1
theorem getD_set_ne {l : Array Bool} {i j : Nat} {b : Bool} (h : j ≠ i) : (l.setIfInBounds i true).getD j b = l.getD j b := by
  simp [Array.getD_eq_getD_getElem?, Array.getElem?_setIfInBounds_ne (Ne.symm h)]
theorem getD_set_same {l : Array Bool} {i : Nat} {b : Bool} (h : i < l.size) : (l.setIfInBounds i true).getD i b = true := by
  simp [Array.getD_eq_getD_getElem?, Array.getElem?_setIfInBounds_self_of_lt h]
theorem cnt_set {l : Array Bool} {i : Nat} (hi : i < l.size) (hl : l.getD i true = false) : ∀ k, cnt (l.setIfInBounds i true) k + (if i < k then 1 else 0) = cnt l k
  | 0 => by simp [cnt]
  | k + 1 => by
    have ih := cnt_set hi hl k
    simp only [cnt]
    by_cases h : k = i
    · subst h
      rw [getD_set_same hi, hl]
      simp at ih ⊢
      omega
    · rw [getD_set_ne h]
      by_cases h2 : i < k
      · have h3 : i < k + 1 := by omega
        rw [if_pos h2] at ih; rw [if_pos h3]; omega
      · have h3 : ¬ i < k + 1 := by omega
        rw [if_neg h2] at ih; rw [if_neg h3]; omega
theorem cnt_zero {l : Array Bool} : ∀ {k : Nat}, cnt l k = 0 → ∀ j, j < k → l.getD j true = true
  | 0, _, j, hj => by omega
  | k + 1, h, j, hj => by
    simp only [cnt] at h
    by_cases hk : j = k
    · subst hk
      cases hx : l.getD j true with
      | true => rfl
      | false => rw [hx] at h; simp at h
    · exact cnt_zero (k := k) (by omega) j (by omega)
theorem cnt_fresh : ∀ (n k : Nat), k ≤ n → cnt (Array.replicate n false) k = k
  | n, 0, _ => rfl
  | n, k + 1, h => by
    simp only [cnt, cnt_fresh n k (by omega)]
    have h1 : k < n := by omega
    rw [Array.getD_eq_getD_getElem?, Array.getElem?_replicate, if_pos h1]
    rfl

theorem nxAt_mono {nx0 : Nat} {R : Nat → Rec} : ∀ {i j : Nat}, i ≤ j → nxAt nx0 R i ≤ nxAt nx0 R j := by
  intro i j h
  induction j with
  | zero => have : i = 0 := by omega
            subst this; exact Nat.le_refl _
  | succ j ih =>
    rcases Nat.lt_or_ge i (j + 1) with h1 | h1
    · exact Nat.le_trans (ih (by omega)) (by simp [nxAt])
    · have : i = j + 1 := by omega
      subst this; exact Nat.le_refl _

section
variable {P : Program} {N : NN} {ops : Array Oper} {Q : Exit → Act → World → Prop}

/-- What holds when the listed ones have run. -/
structure Inv (P : Program) (N : NN) (gs : List GOp) (s0 : S) (R : Nat → Rec) (n : Nat) (X0 : Ctx) (w0 : World) (Sl : Nat → Bool) (X : Ctx) (a : Act) (w : World) : Prop where
  df : a.defers = N.ds
  sz : a.tmps.size = N.n
  env : ∀ t d, eAt gs s0 R Sl n t = some d → t < N.n ∧ TVR w X d (a.tmps.getD t undef)
  ok : HeapOk w X (hAt s0 R Sl n)
  ev : Evol X0 w0 (look s0.hp) X w (hAt s0 R Sl n)
  dm : ∀ id, X.dm id → id < s0.nx ∨ ∃ j, j < n ∧ Sl j = true ∧ nxAt s0.nx R j ≤ id ∧ id < nxAt s0.nx R (j + 1)

/-- One more of them. -/
theorem Inv.step {gs : List GOp} {s0 : S} {R : Nat → Rec} {n k : Nat} {X0 : Ctx} {w0 : World} {Sl : Nat → Bool} {X : Ctx} {a : Act} {w : World} {bits : List Nat} {K : Act → World → Prop}
    (hf : gfits P N.n ops gs ops.toList = true) (hn : gs.length = n) (hn' : ops.size = n) (hR : ∀ k, k < n → StepOk P gs ops s0 R k)
    (hap : ∀ i j, i < j → j < n → ord bits i j = true ∨ ∃ x y, gs[i]? = some x ∧ gs[j]? = some y ∧ x.apart y = true)
    (hch : ∀ i j, i < j → j < n → ord bits i j = true ∨ (disj (fpOf (R i)).2 (fpOf (R j)).1 = true ∧ disj (fpOf (R i)).1 (fpOf (R j)).2 = true))
    (hcl : ∀ j, Sl j = true → ∀ i, ord bits i j = true → Sl i = true)
    (hk : k < n) (hkS : Sl k = false) (hkr : ∀ i, ord bits i k = true → Sl i = true)
    (inv : Inv P N gs s0 R n X0 w0 Sl X a w)
    (hK : ∀ X' a' w', Inv P N gs s0 R n X0 w0 (fun j => Sl j || j == k) X' a' w' → K a' w') : wpOp P ops Q k K a w := by
  obtain ⟨g, o, hg, ho, he, hh, hx, hm⟩ := hR k hk
  have hfit : gfit P N.n ops g o = true := by
    have key : ∀ (gs : List GOp) (os : List Oper), gfits P N.n ops gs os = true → ∀ (n : Nat) x y, gs[n]? = some x → os[n]? = some y → gfit P N.n ops x y = true := by
      intro gs
      induction gs with
      | nil => intro os h n x y h1; simp at h1
      | cons g gs ih => intro os h n x y h1 h2; cases os with
                        | nil => simp at h2
                        | cons o os =>
                          simp only [gfits, Bool.and_eq_true] at h
                          cases n with
                          | zero => simp at h1 h2; subst h1; subst h2; exact h.1
                          | succ n => exact ih os h.2 n x y (by simpa using h1) (by simpa using h2)
    exact key gs ops.toList hf k g o hg (by simpa using ho)
  obtain ⟨hdst, hdN, hop, hgg⟩ := gfit_parts hfit
  -- temporaries that it looks at
  have tl : ∀ t, t ∈ g.looks → eAt gs s0 R Sl n t = look (R k).s.env t := by
    intro t ht
    rw [he]
    refine st_meets hk hkS (fun j hj hs => ?_) (fun j hj hjn hs => ?_)
    · rcases hap j k hj hk with h | ⟨x, y, h1, h2, h3⟩
      · exact hkr j h
      · rw [hg] at h2; cases h2
        simp only [wT, h1, Option.bind_some] at hs
        cases hd : x.dst with
        | none => rw [hd] at hs; simp at hs
        | some d =>
          rw [hd] at hs
          simp only at hs
          split at hs
          · rename_i e; subst e
            simp only [GOp.apart, hd, Bool.and_eq_true, Bool.not_eq_true', List.contains_eq_mem, decide_eq_false_iff_not] at h3
            exact absurd ht h3.1.1
          · simp at hs
    · cases hsj : Sl j with
      | false => rfl
      | true =>
        rcases hap k j hj hjn with h | ⟨x, y, h1, h2, h3⟩
        · have := hcl j hsj k h; rw [hkS] at this; cases this
        · rw [hg] at h1; cases h1
          simp only [wT, h2, Option.bind_some] at hs
          cases hd : y.dst with
          | none => rw [hd] at hs; simp at hs
          | some d =>
            rw [hd] at hs
            simp only at hs
            split at hs
            · rename_i e; subst e
              simp only [GOp.apart, hd, Bool.and_eq_true, Bool.not_eq_true', List.contains_eq_mem, decide_eq_false_iff_not] at h3
              exact absurd ht h3.2
            · simp at hs
  -- what it writes to a temporary
  have tw : ∀ t, eAt gs s0 R (fun j => Sl j || j == k) n t = (wT gs R k t).getD (eAt gs s0 R Sl n t) := by
    intro t
    refine st_more hk hkS fun hs j hj hjn hs' => ?_
    cases hsj : Sl j with
    | false => rfl
    | true =>
      rcases hap k j hj hjn with h | ⟨x, y, h1, h2, h3⟩
      · have := hcl j hsj k h; rw [hkS] at this; cases this
      · simp only [wT, h1, h2, Option.bind_some] at hs hs'
        cases hd : x.dst with
        | none => rw [hd] at hs; simp at hs
        | some d =>
          cases hd' : y.dst with
          | none => rw [hd'] at hs'; simp at hs'
          | some d' =>
            rw [hd] at hs
            rw [hd'] at hs'
            simp only at hs hs'
            split at hs
            · split at hs'
              · rename_i e e'
                subst e
                subst e'
                simp only [GOp.apart, hd, hd', Bool.and_eq_true] at h3
                simp at h3
              · simp at hs'
            · simp at hs
  have wTk : ∀ t, wT gs R k t = match o.dst with | some d => if t = d then some (some (match (R k).e with | some e => e.r | none => .tup [])) else none | none => none := by
    intro t
    rw [← hdst]
    simp only [wT, hg, Option.bind_some]
    cases g.dst <;> rfl
  have guard : ∀ t b, g.g = some (t, b) → ∀ c, look (R k).s.env t = some (.c (.p (.v (.bool c)))) → t < a.tmps.size ∧ a.tmps.getD t undef = .bool c := by
    intro t b hgt c hc
    have := tl t (by simp [GOp.looks, hgt])
    rw [hc] at this
    obtain ⟨h1, h2⟩ := inv.env t _ this
    exact ⟨by rw [inv.sz]; exact h1, tvr_v h2⟩
  unfold wpOp
  simp only [ho]
  cases hre : (R k).e with
  | none =>
    rw [hre] at hm
    obtain ⟨t, b, hgt, htb⟩ := hm
    rcases hgg with ⟨h1, _⟩ | ⟨t', b', j, h1, h2, h3⟩
    · rw [h1] at hgt; cases hgt
    · rw [h1] at hgt; cases hgt
      have hnw : Region.wanted o (yielded ops a.tmps) = false := by
        rcases htb with htb | htb
        · obtain ⟨h4, h5⟩ := guard t b h1 _ htb
          rw [wanted_of h2 h3 h4 h5]
          cases b <;> rfl
        · have := tl t (by simp [GOp.looks, h1])
          rw [htb] at this
          obtain ⟨h4, h5⟩ := inv.env t _ this
          exact wanted_tup h2 h3 (by rw [inv.sz]; exact h4) (tvr_tup h5)
      rw [hnw, if_neg (by simp)]
      have hw0 : ∀ i, wH R k i = none := fun i => by simp only [wH, hre]
      have hA : hAt s0 R (fun j => Sl j || j == k) n = hAt s0 R Sl n := by
        funext i
        refine (st_more hk hkS fun hs => ?_).trans ?_
        · rw [hw0] at hs; cases hs
        · rw [hw0]; rfl
      refine hK X _ w ⟨by rw [defers_put]; exact inv.df, by rw [size_put]; exact inv.sz, ?_, by rw [hA]; exact inv.ok, by rw [hA]; exact inv.ev, ?_⟩
      · intro t' d hd
        rw [tw, wTk, hre] at hd
        cases hdo : o.dst with
        | none => rw [hdo] at hd; exact inv.env t' d hd
        | some q =>
          rw [hdo] at hd
          simp only at hd
          by_cases htq : t' = q
          · rw [if_pos htq] at hd
            simp only [Option.getD_some, Option.some.injEq] at hd
            subst hd
            subst htq
            have hq := hdN t' hdo
            refine ⟨hq, ?_⟩
            rw [getD_put_same (by rw [inv.sz]; exact hq)]
            exact ⟨#[], rfl, rfl⟩
          · rw [if_neg htq] at hd
            obtain ⟨h6, h7⟩ := inv.env t' d hd
            exact ⟨h6, by rw [getD_put_ne htq]; exact h7⟩
      · intro id hid
        rcases inv.dm id hid with h | ⟨j, h6, h7, h8⟩
        · exact .inl h
        · exact .inr ⟨j, h6, by rw [h7]; rfl, h8⟩
  | some e =>
    rw [hre] at hm
    obtain ⟨hdoes, hgt⟩ := hm
    have hwant : Region.wanted o (yielded ops a.tmps) = true := by
      rcases hgg with ⟨_, h2⟩ | ⟨t, b, j, h1, h2, h3⟩
      · exact wanted_none h2
      · obtain ⟨h4, h5⟩ := guard t b h1 _ (hgt t b h1)
        rw [wanted_of h2 h3 h4 h5]
        simp
    rw [if_pos hwant]
    refine .inl (hdoes X w a (hAt s0 R Sl n) K Q (fun t ht d hd => (inv.env t d (by rw [tl t (by simp [GOp.looks, ht]), hd])).2) inv.ok ?_ ?_ ?_)
    · intro id hid hlt
      rw [hh]
      refine st_meets hk hkS (fun j hj hs => ?_) (fun j hj hjn hs => ?_)
      · rcases hch j k hj hk with h | ⟨h1, h2⟩
        · exact hkr j h
        · simp only [wH] at hs
          cases hj' : (R j).e with
          | none => rw [hj'] at hs; simp at hs
          | some e' =>
            rw [hj'] at hs
            have hw := lastW_mem hs
            simp only [fpOf, hj', hre] at h1
            exact absurd hid (disj_spec h1 hw)
      · cases hsj : Sl j with
        | false => rfl
        | true =>
          rcases hch k j hj hjn with h | ⟨h1, h2⟩
          · have := hcl j hsj k h; rw [hkS] at this; cases this
          · simp only [wH] at hs
            cases hj' : (R j).e with
            | none => rw [hj'] at hs; simp at hs
            | some e' =>
              rw [hj'] at hs
              have hw := lastW_mem hs
              simp only [fpOf, hj', hre] at h2
              exact absurd hw (disj_spec h2 hid)
    · intro id h1 h2 hd
      rw [hx] at h1 h2
      have h0 : s0.nx ≤ nxAt s0.nx R k := nxAt_mono (i := 0) (by omega)
      have hk1 : nxAt s0.nx R (k + 1) = nxAt s0.nx R k + e.nw := by simp only [nxAt, hre]; rfl
      rcases inv.dm id hd with h | ⟨j, h6, h7, h8, h9⟩
      · omega
      · rcases Nat.lt_trichotomy j k with h | h | h
        · have := nxAt_mono (nx0 := s0.nx) (R := R) (i := j + 1) (j := k) (by omega); omega
        · subst h; rw [hkS] at h7; cases h7
        · have := nxAt_mono (nx0 := s0.nx) (R := R) (i := k + 1) (j := j) (by omega); omega
    · intro v w' X' hv ok' ev' hdm
      have hA : hAt s0 R (fun j => Sl j || j == k) n = (hAt s0 R Sl n).upd e.wr := by
        funext i
        rw [upd_lastW]
        refine (st_more hk hkS fun hs j hj hjn hs' => ?_).trans ?_
        · cases hsj : Sl j with
          | false => rfl
          | true =>
            rcases hch k j hj hjn with h | ⟨h1, h2⟩
            · have := hcl j hsj k h; rw [hkS] at this; cases this
            · simp only [wH, hre] at hs
              simp only [wH] at hs'
              cases hj' : (R j).e with
              | none => rw [hj'] at hs'; simp at hs'
              | some e' =>
                rw [hj'] at hs'
                simp only [fpOf, hj', hre] at h1
                exact absurd (List.mem_append_right _ (lastW_mem hs')) (disj_spec h1 (lastW_mem hs))
        · simp only [wH, hre]
      have kp := ev'.keeps inv.ok
      refine hK X' _ w' ⟨by rw [defers_put]; exact inv.df, by rw [size_put]; exact inv.sz, ?_, by rw [hA]; exact ok', by rw [hA]; exact inv.ev.trans ev', ?_⟩
      · intro t' d hd
        rw [tw, wTk, hre] at hd
        cases hdo : o.dst with
        | none =>
          rw [hdo] at hd
          obtain ⟨h6, h7⟩ := inv.env t' d hd
          exact ⟨h6, TVR.mono kp d _ h7⟩
        | some q =>
          rw [hdo] at hd
          simp only at hd
          by_cases htq : t' = q
          · rw [if_pos htq] at hd
            simp at hd
            subst hd
            have hq := hdN q hdo
            exact ⟨by rw [htq]; exact hq, by rw [htq, getD_put_same (by rw [inv.sz]; exact hq)]; exact hv⟩
          · rw [if_neg htq] at hd
            obtain ⟨h6, h7⟩ := inv.env t' d hd
            exact ⟨h6, by rw [getD_put_ne htq]; exact TVR.mono kp d _ h7⟩
      · intro id hid
        rcases hdm id hid with h | ⟨h1, h2⟩
        · rcases inv.dm id h with h | ⟨j, h6, h7, h8⟩
          · exact .inl h
          · exact .inr ⟨j, h6, by rw [h7]; rfl, h8⟩
        · rw [hx] at h1 h2
          exact .inr ⟨k, hk, by simp, h1, by simp only [nxAt, hre]; exact h2⟩

theorem any_of_inv {gs : List GOp} {s0 : S} {R : Nat → Rec} {n : Nat} {X0 : Ctx} {w0 : World} {bits : List Nat}
    (hf : gfits P N.n ops gs ops.toList = true) (hn : gs.length = n) (hn' : ops.size = n) (hR : ∀ k, k < n → StepOk P gs ops s0 R k)
    (hed : ∀ k o, ops[k]? = some o → edgesOk bits k o = true)
    (hap : ∀ i j, i < j → j < n → ord bits i j = true ∨ ∃ x y, gs[i]? = some x ∧ gs[j]? = some y ∧ x.apart y = true)
    (hch : ∀ i j, i < j → j < n → ord bits i j = true ∨ (disj (fpOf (R i)).2 (fpOf (R j)).1 = true ∧ disj (fpOf (R i)).1 (fpOf (R j)).2 = true))
    (hQ : ∀ X a w, Inv P N gs s0 R n X0 w0 (fun _ => true) X a w → Q .normal a w) :
    ∀ (fuel : Nat) (listed : Array Bool) (X : Ctx) (a : Act) (w : World), listed.size = n → cnt listed n ≤ fuel →
      (∀ j, listed.getD j false = true → ∀ i, ord bits i j = true → listed.getD i false = true) →
      Inv P N gs s0 R n X0 w0 (fun j => listed.getD j false) X a w → wpAny P .any ops Q fuel listed a w := by
  have hdone : ∀ (listed : Array Bool) (X : Ctx) (a : Act) (w : World), listed.size = n → (∀ j, j < n → listed.getD j true = true) → Inv P N gs s0 R n X0 w0 (fun j => listed.getD j false) X a w → Q .normal a w := by
    intro listed X a w hsz hall inv
    have same : ∀ j, j < n → listed.getD j false = true := fun j hj => by
      have := hall j hj
      rw [Array.getD_eq_getD_getElem?, Array.getElem?_eq_getElem (by omega)] at this ⊢
      exact this
    have hE : eAt gs s0 R (fun j => listed.getD j false) n = eAt gs s0 R (fun _ => true) n := by
      funext t
      exact st_congr n fun j hj => by simp only [same j hj]
    have hH : hAt s0 R (fun j => listed.getD j false) n = hAt s0 R (fun _ => true) n := by
      funext t
      exact st_congr n fun j hj => by simp only [same j hj]
    exact hQ X a w ⟨inv.df, inv.sz, by rw [← hE]; exact inv.env, by rw [← hH]; exact inv.ok, by rw [← hH]; exact inv.ev, fun id hid => by
      rcases inv.dm id hid with h | ⟨j, h6, h7, h8⟩
      · exact .inl h
      · exact .inr ⟨j, h6, rfl, h8⟩⟩
  intro fuel
  induction fuel with
  | zero =>
    intro listed X a w hsz hc hcl inv
    have hall := cnt_zero (l := listed) (k := n) (by omega)
    refine ⟨?_, hdone listed X a w hsz hall inv⟩
    unfold Region.ready
    rw [List.filter_eq_nil_iff]
    intro i hi
    rw [List.mem_range, hn'] at hi
    rw [hall i hi]
    simp
  | succ fuel ih =>
    intro listed X a w hsz hc hcl inv
    refine ⟨fun hr => hdone listed X a w hsz ?_ inv, fun k hk => ?_⟩
    · -- nothing is ready: everything is listed
      intro j
      induction j using Nat.strongRecOn with
      | ind j ihj =>
        intro hj
        cases hl : listed.getD j true with
        | true => rfl
        | false =>
          exfalso
          unfold Region.ready at hr
          rw [List.filter_eq_nil_iff] at hr
          have hjo : ops[j]? = some (ops[j]'(by omega)) := Array.getElem?_eq_getElem (by omega)
          refine hr j (List.mem_range.2 (by omega)) ?_
          rw [hl, hjo]
          simp only [Bool.not_false, Option.map_some, Option.getD_some, Bool.true_and]
          rw [Array.all_eq_true_iff_forall_mem]
          intro e he
          have h1 := hed j _ hjo
          simp only [edgesOk, Bool.and_eq_true, List.all_eq_true, Bool.or_eq_true, decide_eq_true_eq, Bool.not_eq_true'] at h1
          rcases h1.1 e (by simpa using he) with h2 | h2
          · rw [h2]; rfl
          · have := ihj e.on h2 (by omega)
            rw [Array.getD_eq_getD_getElem?, Array.getElem?_eq_getElem (by omega)] at this
            rw [Bool.or_eq_true]
            refine .inr ?_
            rw [Array.getD_eq_getD_getElem?, Array.getElem?_eq_getElem (by omega)]
            exact this
    · unfold Region.ready at hk
      rw [List.mem_filter, List.mem_range, Bool.and_eq_true, Bool.not_eq_true'] at hk
      obtain ⟨hkn, hkl, hka⟩ := hk
      have hko : ops[k]? = some (ops[k]'(by omega)) := Array.getElem?_eq_getElem (by omega)
      rw [hko] at hka
      simp only [Option.map_some, Option.getD_some] at hka
      rw [Array.all_eq_true_iff_forall_mem] at hka
      have hkl' : listed.getD k false = false := by
        rw [Array.getD_eq_getD_getElem?, Array.getElem?_eq_getElem (by omega)] at hkl ⊢
        exact hkl
      have hkr : ∀ i, ord bits i k = true → listed.getD i false = true := by
        intro i hi
        have h1 := hed k _ hko
        simp only [edgesOk, Bool.and_eq_true, beq_iff_eq] at h1
        unfold ord at hi
        rw [h1.2] at hi
        rcases fold_bits hi with h2 | ⟨e, h2, h3, h4⟩
        · simp at h2
        · have := hka e (by simpa using h2)
          rw [h3] at this
          simp only [Bool.not_true, Bool.false_or] at this
          rcases h4 with rfl | h4
          · exact this
          · exact hcl e.on this i h4
      have hset : ∀ j, (listed.setIfInBounds k true).getD j false = (listed.getD j false || j == k) := by
        intro j
        by_cases hj : j = k
        · subst hj; rw [getD_set_same (by omega)]; simp
        · rw [getD_set_ne hj]
          have : (j == k) = false := by simpa using hj
          rw [this, Bool.or_false]
      refine Inv.step (X := X) hf hn hn' hR hap hch hcl (by omega) hkl' hkr inv fun X' a' w' inv' => ?_
      refine ih _ X' a' w' (by simpa using hsz) ?_ ?_ (by rw [show (fun j => (listed.setIfInBounds k true).getD j false) = fun j => listed.getD j false || j == k from funext hset]; exact inv')
      · have := cnt_set (l := listed) (i := k) (by omega) hkl n
        rw [if_pos (by omega)] at this
        omega
      · intro j hj i hi
        rw [hset] at hj ⊢
        rw [Bool.or_eq_true] at hj ⊢
        rcases hj with hj | hj
        · exact .inl (hcl j hj i hi)
        · have : j = k := by simpa using hj
          subst this
          exact .inl (hkr i hi)

/-- A region in whatever order. -/
theorem run_any {gs : List GOp} {s : S} {K : S → List (List Nat × List Nat) → Prop} {X : Ctx} {a : Act} {w : World} {bits : List Nat} {id : Nat} (hm : P.follows .mixedOrders = true)
    (hf : gfits P N.n ops gs ops.toList = true) (hd : drawFits bits gs ops = true) (hrun : run P gs s [] fun s' fp => chkDraw bits fp.reverse = true ∧ K s' fp) (r : Rel N X s a w)
    (hk : ∀ s' fp' X' a' w', K s' fp' → Rel N X' s' a' w' → Evol X w (look s.hp) X' w' (look s'.hp) → Q .normal a' w') : (Code.region id ops true).wp P Q a w := by
  have hlen : gs.length = ops.size := by
    have key : ∀ (gs : List GOp) (os : List Oper), gfits P N.n ops gs os = true → gs.length = os.length := by
      intro gs
      induction gs with
      | nil => intro os h; cases os <;> simp_all [gfits]
      | cons g gs ih => intro os h; cases os with
                        | nil => simp [gfits] at h
                        | cons o os => simp only [gfits, Bool.and_eq_true] at h; simp [ih os h.2]
    have := key gs ops.toList hf
    simpa using this
  obtain ⟨R, s', hR, h2, h3, h4, h5, _⟩ := run_steps hf hrun r gs.length (Nat.le_refl _)
  rw [List.drop_length] at h5
  simp only [run, List.reverse_reverse] at h5
  obtain ⟨hch, hK⟩ := h5
  simp only [drawFits, Bool.and_eq_true] at hd
  refine wp_region_any hm ?_
  have r0 : Evol X w (look s.hp) X w.drew (look s.hp) := Evol.drew X w _
  refine any_of_inv (X := X) (X0 := X) (w0 := w) (bits := bits) hf rfl hlen.symm hR (fun k o hko => ?_) (fun i j hij hj => ?_) (fun i j hij hj => ?_) ?_ ops.size (Array.replicate ops.size false) a w.drew ?_ ?_ ?_ ?_
  · have := edgesAll_spec hd.1 k o (by simpa using hko)
    simpa using this
  · have := pairs_spec hd.2 hij hj
    rw [Bool.or_eq_true] at this
    rcases this with h | h
    · exact .inl h
    · split at h
      · rename_i x y e1 e2; exact .inr ⟨x, y, e1, e2, h⟩
      · cases h
  · have := pairs_spec hch hij (by simpa using hj)
    rw [Bool.or_eq_true] at this
    have hg : ∀ i, i < gs.length → ((List.range gs.length).map fun k => fpOf (R k)).getD i ([], []) = fpOf (R i) := by
      intro i hi
      rw [List.getD_eq_getElem?_getD, List.getElem?_map, List.getElem?_range hi]
      rfl
    rw [hg i (by omega), hg j hj] at this
    rcases this with h | h
    · rw [Bool.and_eq_true] at h; exact .inr h
    · exact .inl h
  · intro X' a' w' inv
    refine hk s' _ X' a' w' hK ⟨inv.df, inv.sz, by rw [h2]; exact inv.env, by rw [h3]; exact inv.ok, ?_, ?_⟩ (by rw [h3]; exact inv.ev)
    · intro id o ho
      rw [h3] at ho
      have := (inv.ok.obj id o ho).1
      rcases inv.dm id this with h | ⟨j, h6, h7, h8, h9⟩
      · rw [h4]; exact Nat.lt_of_lt_of_le h (nxAt_mono (i := 0) (by omega))
      · rw [h4]; exact Nat.lt_of_lt_of_le h9 (nxAt_mono (by omega))
    · intro id hid
      rcases inv.dm id hid with h | ⟨j, h6, h7, h8, h9⟩
      · rw [h4]; exact Nat.lt_of_lt_of_le h (nxAt_mono (i := 0) (by omega))
      · rw [h4]; exact Nat.lt_of_lt_of_le h9 (nxAt_mono (by omega))
  · simpa using hlen.symm
  · rw [cnt_fresh _ _ (by omega)]; omega
  · intro j hj
    exfalso
    rw [Array.getD_eq_getD_getElem?, Array.getElem?_replicate] at hj
    split at hj <;> simp at hj
  · have hno : ∀ j, (Array.replicate ops.size false).getD j false = false := by
      intro j
      rw [Array.getD_eq_getD_getElem?, Array.getElem?_replicate]
      split <;> rfl
    have hE : ∀ k, eAt gs s R (fun j => (Array.replicate ops.size false).getD j false) k = look s.env := by
      intro k
      induction k with
      | zero => rfl
      | succ k ih =>
        funext t
        have := congrFun ih t
        simp only [eAt, st, hno] at this ⊢
        simpa using this
    have hH : ∀ k, hAt s R (fun j => (Array.replicate ops.size false).getD j false) k = look s.hp := by
      intro k
      induction k with
      | zero => rfl
      | succ k ih =>
        funext t
        have := congrFun ih t
        simp only [hAt, st, hno] at this ⊢
        simpa using this
    refine ⟨r.df, r.sz, ?_, by rw [hH]; exact r.ok.drew, by rw [hH]; exact r0, fun id hid => .inl (r.dm id hid)⟩
    rw [hE]
    intro t d ht
    obtain ⟨h6, h7⟩ := r.env t d ht
    exact ⟨h6, TVR.mono (r0.keeps r.ok) d _ h7⟩

end
end Go.Proofs.Ytjieenfbfckafaa.Am

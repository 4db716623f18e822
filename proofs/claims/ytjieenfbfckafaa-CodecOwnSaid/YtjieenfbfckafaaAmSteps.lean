/- What single changes of the world do to the relation: new blocks, writes, names given, taken and made to stay. -/
import Derived.Test.YtjieenfbfckafaaAmBase
import Derived.Below
namespace Go.Proofs.Ytjieenfbfckafaa.Am
open Go
set_option linter.unusedVariables false

def Hp.set (h : Hp) (id : Nat) (o : Ob) : Hp := fun i => if i = id then some o else h i
def Hp.del (h : Hp) (id : Nat) : Hp := fun i => if i = id then none else h i

theorem Hp.set_some {h : Hp} {id : Nat} {o : Ob} {i : Nat} {x : Ob} (hx : h.set id o i = some x) : (i = id ∧ x = o) ∨ (i ≠ id ∧ h i = some x) := by
  unfold Hp.set at hx
  by_cases hi : i = id
  · rw [if_pos hi] at hx; exact .inl ⟨hi, (Option.some.inj hx).symm⟩
  · rw [if_neg hi] at hx; exact .inr ⟨hi, hx⟩
theorem Hp.del_some {h : Hp} {id : Nat} {i : Nat} {x : Ob} (hx : h.del id i = some x) : i ≠ id ∧ h i = some x := by
  unfold Hp.del at hx
  by_cases hi : i = id
  · rw [if_pos hi] at hx; cases hx
  · rw [if_neg hi] at hx; exact ⟨hi, hx⟩

theorem hao (w : World) (o : Obj) (b : Nat) (h : b < w.heap.size) : (w.alloc o).heap[b]? = w.heap[b]? := Go.RowKit.Below.heap_alloc w o b h

/-- A name for a block. -/
def Ctx.name (X : Ctx) (id : Nat) (b : Option Nat) : Ctx := { I := X.I, dm := fun i => X.dm i ∨ i = id, mu := fun i => if i = id then b else X.mu i }
/-- A block that stays. -/
def Ctx.stay (X : Ctx) (b : Nat) : Ctx := { I := fun i => X.I i ∨ i = b, dm := X.dm, mu := X.mu }

theorem Ctx.name_mu_same (X : Ctx) (id : Nat) (b : Option Nat) : (X.name id b).mu id = b := by simp [Ctx.name]
theorem Ctx.name_mu_ne (X : Ctx) (id : Nat) (b : Option Nat) {i : Nat} (h : i ≠ id) : (X.name id b).mu i = X.mu i := by simp [Ctx.name, h]

theorem cellCount_lt {w : World} {b : Nat} {c : Array Value} {e : TypeId} {fr : Nat × Nat} (h : w.heap[b]? = some (.cells c e fr)) : b < w.heap.size := (Array.getElem?_eq_some_iff.1 h).1
theorem cellCount_of {w : World} {b : Nat} {c : Array Value} {e : TypeId} {fr : Nat × Nat} (h : w.heap[b]? = some (.cells c e fr)) : cellCount w b = c.size := by simp [cellCount, h]
theorem cellCount_congr {w w' : World} {b : Nat} (h : w'.heap[b]? = w.heap[b]?) : cellCount w' b = cellCount w b := by simp [cellCount, h]

theorem Evol.drew (X : Ctx) (w : World) (h : Hp) : Evol X w h X w.drew h :=
  ⟨rfl, rfl, rfl, Nat.le_refl _, fun _ _ _ => rfl, fun _ _ => rfl, fun _ hd => ⟨hd, rfl⟩, fun _ hb => hb, fun _ hb => .inl hb, fun id o b ho hm => .inr ⟨id, o, ho, hm⟩⟩
theorem HeapOk.drew {w : World} {X : Ctx} {h : Hp} (ok : HeapOk w X h) : HeapOk w.drew X h :=
  ⟨fun id o ho => ObjR.mono (w := w) (X := X) (v := w.drew) (Y := X) ⟨fun _ h => h, fun _ _ => rfl, fun _ h => ⟨h, rfl⟩, fun _ _ => rfl⟩ (fun _ _ => rfl) (ok.obj id o ho), ok.inj, ok.notI, ok.ilt⟩

theorem HeapOk.alloc_keeps {w : World} {X : Ctx} {h : Hp} (ok : HeapOk w X h) (o : Obj) {id : Nat} (hid : ¬ X.dm id) (b : Option Nat) : Keeps X w (X.name id b) (w.alloc o) :=
  ⟨fun _ hb => hb, fun b hb => hao w o b (ok.ilt b hb), fun i hi => ⟨.inl hi, X.name_mu_ne id _ (fun e => hid (e ▸ hi))⟩, fun b hb => cellCount_congr (hao w o b hb)⟩

/-- A new object of the call's own. -/
theorem HeapOk.new {w : World} {X : Ctx} {h : Hp} (ok : HeapOk w X h) {id : Nat} (hid : ¬ X.dm id) {c : Array Value} {e : TypeId} {xs : List DV} (hc : VRds w X xs (c.toList.take xs.length)) (hle : xs.length ≤ c.size) :
    HeapOk (w.alloc (.cells c e)) (X.name id (some w.heap.size)) (h.set id ⟨e, xs⟩) ∧ Evol X w h (X.name id (some w.heap.size)) (w.alloc (.cells c e)) (h.set id ⟨e, xs⟩) := by
  have K := ok.alloc_keeps (.cells c e) hid (some w.heap.size)
  have hlt : ∀ i o b, h i = some o → X.mu i = some b → b < w.heap.size := fun i o b ho hm => by
    have := (ok.obj i o ho).2
    rw [hm] at this
    obtain ⟨c, h1, _⟩ := this
    exact cellCount_lt h1
  have hne : ∀ i o, h i = some o → i ≠ id := fun i o ho e => hid (e ▸ (ok.obj i o ho).1)
  refine ⟨⟨?_, ?_, ?_, ?_⟩, ⟨rfl, rfl, rfl, by simp, fun b hb _ => hao w _ b hb, K.cnt, K.dm, K.imm, fun b hb => .inl hb, ?_⟩⟩
  · intro i o ho
    rcases Hp.set_some ho with ⟨rfl, rfl⟩ | ⟨hi, ho⟩
    · refine ⟨.inr rfl, ?_⟩
      rw [Ctx.name_mu_same]
      refine ⟨c, heap_alloc_new w _, hle, fun j d u hj hu => (hc.2 j d u hj ?_).mono K⟩
      have hjl : j < xs.length := (List.getElem?_eq_some_iff.1 hj).1
      rw [List.getElem?_take, if_pos hjl]
      simpa using hu
    · exact (ok.obj i o ho).mono K fun b hb => hao w _ b (hlt i o b ho hb)
  · intro i j x y b hi hj hmi hmj
    rcases Hp.set_some hi with ⟨ei, _⟩ | ⟨ei, gi⟩ <;> rcases Hp.set_some hj with ⟨ej, _⟩ | ⟨ej, gj⟩
    · rw [ei, ej]
    · rw [ei, Ctx.name_mu_same] at hmi
      rw [Ctx.name_mu_ne _ _ _ ej] at hmj
      have := hlt j y b gj hmj
      cases hmi
      omega
    · rw [ej, Ctx.name_mu_same] at hmj
      rw [Ctx.name_mu_ne _ _ _ ei] at hmi
      have := hlt i x b gi hmi
      cases hmj
      omega
    · rw [Ctx.name_mu_ne _ _ _ ei] at hmi
      rw [Ctx.name_mu_ne _ _ _ ej] at hmj
      exact ok.inj i j x y b gi gj hmi hmj
  · intro i x b hi hm hI
    rcases Hp.set_some hi with ⟨rfl, rfl⟩ | ⟨hi', hi⟩
    · rw [Ctx.name_mu_same] at hm
      cases hm
      have := ok.ilt _ hI
      omega
    · rw [Ctx.name_mu_ne _ _ _ hi'] at hm
      exact ok.notI i x b hi hm hI
  · intro b hb
    have := ok.ilt b hb
    simp
    omega
  · intro i o b ho hm
    rcases Hp.set_some ho with ⟨rfl, rfl⟩ | ⟨hi, ho⟩
    · rw [Ctx.name_mu_same] at hm
      cases hm
      exact .inl (Nat.le_refl _)
    · rw [Ctx.name_mu_ne _ _ _ hi] at hm
      exact .inr ⟨i, o, ho, hm⟩

/-- A new block that stays. -/
theorem HeapOk.newStay {w : World} {X : Ctx} {h : Hp} (ok : HeapOk w X h) (o : Obj) :
    HeapOk (w.alloc o) (X.stay w.heap.size) h ∧ Evol X w h (X.stay w.heap.size) (w.alloc o) h := by
  have K : Keeps X w (X.stay w.heap.size) (w.alloc o) :=
    ⟨fun _ hb => .inl hb, fun b hb => hao w o b (ok.ilt b hb), fun i hi => ⟨hi, rfl⟩, fun b hb => cellCount_congr (hao w o b hb)⟩
  have hlt : ∀ i o b, h i = some o → X.mu i = some b → b < w.heap.size := fun i o b ho hm => by
    have := (ok.obj i o ho).2
    rw [hm] at this
    obtain ⟨c, h1, _⟩ := this
    exact cellCount_lt h1
  refine ⟨⟨fun i x hx => (ok.obj i x hx).mono K fun b hb => hao w _ b (hlt i x b hx hb), ok.inj, ?_, ?_⟩, ⟨rfl, rfl, rfl, by simp, fun b hb _ => hao w _ b hb, K.cnt, K.dm, K.imm, ?_, ?_⟩⟩
  · intro i x b hi hm hI
    rcases hI with hI | rfl
    · exact ok.notI i x b hi hm hI
    · have := hlt i x _ hi hm; omega
  · intro b hb
    rcases hb with hb | rfl
    · have := ok.ilt b hb; simp; omega
    · simp
  · intro b hb
    rcases hb with hb | rfl
    · exact .inl hb
    · exact .inr (.inl (Nat.le_refl _))
  · intro i x b hx hm
    exact .inr ⟨i, x, hx, hm⟩

/-- A write into an object. -/
theorem HeapOk.write {w : World} {X : Ctx} {h : Hp} (ok : HeapOk w X h) {id b : Nat} {o : Ob} {c c' : Array Value} (ho : h id = some o) (hm : X.mu id = some b)
    (hb : w.heap[b]? = some (.cells c o.e (0, 0))) (hs : c'.size = c.size) {xs : List DV} (hle : xs.length ≤ c'.size) (hc : VRds w X xs (c'.toList.take xs.length)) :
    HeapOk (w.setRow b c') X (h.set id ⟨o.e, xs⟩) ∧ Evol X w h X (w.setRow b c') (h.set id ⟨o.e, xs⟩) := by
  have hother : ∀ k, k ≠ b → (w.setRow b c').heap[k]? = w.heap[k]? := fun k hk => setRow_other w b k _ hk
  have hsame : (w.setRow b c').heap[b]? = some (.cells c' o.e (0, 0)) := setRow_heap w b c c' o.e _ hb
  have hcnt : ∀ k, cellCount (w.setRow b c') k = cellCount w k := fun k => by
    by_cases hk : k = b
    · subst hk; rw [cellCount_of hsame, cellCount_of hb, hs]
    · exact cellCount_congr (hother k hk)
  have hnI : ¬ X.I b := ok.notI id o b ho hm
  have K : Keeps X w X (w.setRow b c') := ⟨fun _ h => h, fun k hk => hother k (fun e => hnI (e ▸ hk)), fun _ h => ⟨h, rfl⟩, fun k _ => hcnt k⟩
  refine ⟨⟨?_, ?_, ?_, ?_⟩, ⟨rfl, rfl, rfl, by simp, ?_, fun k _ => hcnt k, K.dm, K.imm, fun k hk => .inl hk, ?_⟩⟩
  · intro i x hx
    rcases Hp.set_some hx with ⟨rfl, rfl⟩ | ⟨hi, hx⟩
    · refine ⟨(ok.obj _ _ ho).1, ?_⟩
      rw [hm]
      refine ⟨c', hsame, hle, fun j d u hj hu => (hc.2 j d u hj ?_).mono K⟩
      have hjl : j < xs.length := (List.getElem?_eq_some_iff.1 hj).1
      rw [List.getElem?_take, if_pos hjl]
      simpa using hu
    · refine (ok.obj i x hx).mono K fun k hk => hother k fun e => ?_
      subst e
      exact hi (ok.inj i id x o k hx ho hk hm)
  · intro i j x y k hi hj hmi hmj
    have hi' : ∃ x, h i = some x := by
      rcases Hp.set_some hi with ⟨rfl, rfl⟩ | ⟨_, hi⟩
      · exact ⟨_, ho⟩
      · exact ⟨_, hi⟩
    have hj' : ∃ x, h j = some x := by
      rcases Hp.set_some hj with ⟨rfl, rfl⟩ | ⟨_, hj⟩
      · exact ⟨_, ho⟩
      · exact ⟨_, hj⟩
    obtain ⟨x', hi'⟩ := hi'
    obtain ⟨y', hj'⟩ := hj'
    exact ok.inj i j x' y' k hi' hj' hmi hmj
  · intro i x k hi hmi
    rcases Hp.set_some hi with ⟨rfl, rfl⟩ | ⟨_, hi⟩
    · exact ok.notI _ _ k ho hmi
    · exact ok.notI _ _ k hi hmi
  · intro k hk
    simpa using ok.ilt k hk
  · intro k hk hn
    exact hother k fun e => by subst e; exact hn id o ho hm
  · intro i x k hx hmi
    rcases Hp.set_some hx with ⟨rfl, rfl⟩ | ⟨_, hx⟩
    · exact .inr ⟨_, _, ho, hmi⟩
    · exact .inr ⟨_, _, hx, hmi⟩

theorem HeapOk.del {w : World} {X : Ctx} {h : Hp} (ok : HeapOk w X h) (id : Nat) : HeapOk w X (h.del id) ∧ Evol X w h X w (h.del id) := by
  refine ⟨⟨fun i x hx => ok.obj i x (Hp.del_some hx).2, fun i j x y b hi hj => ok.inj i j x y b (Hp.del_some hi).2 (Hp.del_some hj).2, fun i x b hi => ok.notI i x b (Hp.del_some hi).2, ok.ilt⟩,
    ⟨rfl, rfl, rfl, Nat.le_refl _, fun _ _ _ => rfl, fun _ _ => rfl, fun _ hd => ⟨hd, rfl⟩, fun _ hb => hb, fun _ hb => .inl hb, fun i o b ho hm => .inr ⟨i, o, (Hp.del_some ho).2, hm⟩⟩⟩

/-- An object of pure cells is made to stay. -/
theorem HeapOk.freeze {w : World} {X : Ctx} {h : Hp} (ok : HeapOk w X h) {id b : Nat} {o : Ob} (ho : h id = some o) (hm : X.mu id = some b) :
    HeapOk w (X.stay b) (h.del id) ∧ Evol X w h (X.stay b) w (h.del id) := by
  have K : Keeps X w (X.stay b) w := ⟨fun _ h => .inl h, fun _ _ => rfl, fun _ h => ⟨h, rfl⟩, fun _ _ => rfl⟩
  have hb : b < w.heap.size := by
    have := (ok.obj id o ho).2
    rw [hm] at this
    obtain ⟨c, h1, _⟩ := this
    exact cellCount_lt h1
  refine ⟨⟨fun i x hx => (ok.obj i x (Hp.del_some hx).2).mono K fun _ _ => rfl, fun i j x y b hi hj => ok.inj i j x y b (Hp.del_some hi).2 (Hp.del_some hj).2, ?_, ?_⟩,
    ⟨rfl, rfl, rfl, Nat.le_refl _, fun _ _ _ => rfl, fun _ _ => rfl, K.dm, K.imm, ?_, fun i o b ho hm => .inr ⟨i, o, (Hp.del_some ho).2, hm⟩⟩⟩
  · intro i x k hi hmi hI
    obtain ⟨hne, hi⟩ := Hp.del_some hi
    rcases hI with hI | rfl
    · exact ok.notI i x k hi hmi hI
    · exact hne (ok.inj i id x o _ hi ho hmi hm)
  · intro k hk
    rcases hk with hk | rfl
    · exact ok.ilt k hk
    · exact hb
  · intro k hk
    rcases hk with hk | rfl
    · exact .inl hk
    · exact .inr (.inr ⟨id, o, ho, hm⟩)

/-- A name for a nil slice. -/
theorem HeapOk.nil {w : World} {X : Ctx} {h : Hp} (ok : HeapOk w X h) {id : Nat} (hid : ¬ X.dm id) (e : TypeId) :
    HeapOk w (X.name id none) (h.set id ⟨e, []⟩) ∧ Evol X w h (X.name id none) w (h.set id ⟨e, []⟩) := by
  have K : Keeps X w (X.name id none) w := ⟨fun _ hb => hb, fun _ _ => rfl, fun i hi => ⟨.inl hi, X.name_mu_ne id _ (fun e => hid (e ▸ hi))⟩, fun _ _ => rfl⟩
  refine ⟨⟨?_, ?_, ?_, ok.ilt⟩, ⟨rfl, rfl, rfl, Nat.le_refl _, fun _ _ _ => rfl, K.cnt, K.dm, K.imm, fun b hb => .inl hb, ?_⟩⟩
  · intro i o ho
    rcases Hp.set_some ho with ⟨rfl, rfl⟩ | ⟨hi, ho⟩
    · exact ⟨.inr rfl, by rw [Ctx.name_mu_same]⟩
    · exact (ok.obj i o ho).mono K fun _ _ => rfl
  · intro i j x y b hi hj hmi hmj
    rcases Hp.set_some hi with ⟨rfl, rfl⟩ | ⟨hi', hi⟩
    · rw [Ctx.name_mu_same] at hmi; cases hmi
    · rcases Hp.set_some hj with ⟨rfl, rfl⟩ | ⟨hj', hj⟩
      · rw [Ctx.name_mu_same] at hmj; cases hmj
      · rw [Ctx.name_mu_ne _ _ _ hi'] at hmi
        rw [Ctx.name_mu_ne _ _ _ hj'] at hmj
        exact ok.inj i j x y b hi hj hmi hmj
  · intro i x b hi hm hI
    rcases Hp.set_some hi with ⟨rfl, rfl⟩ | ⟨hi', hi⟩
    · rw [Ctx.name_mu_same] at hm; cases hm
    · rw [Ctx.name_mu_ne _ _ _ hi'] at hm
      exact ok.notI i x b hi hm hI
  · intro i o b ho hm
    rcases Hp.set_some ho with ⟨rfl, rfl⟩ | ⟨hi, ho⟩
    · rw [Ctx.name_mu_same] at hm; cases hm
    · rw [Ctx.name_mu_ne _ _ _ hi] at hm
      exact .inr ⟨i, o, ho, hm⟩

/-- An object under another name. -/
theorem HeapOk.move {w : World} {X : Ctx} {h : Hp} (ok : HeapOk w X h) {id id' : Nat} {o : Ob} (ho : h id = some o) (hid : ¬ X.dm id') :
    HeapOk w (X.name id' (X.mu id)) ((h.del id).set id' o) ∧ Evol X w h (X.name id' (X.mu id)) w ((h.del id).set id' o) := by
  have K : Keeps X w (X.name id' (X.mu id)) w := ⟨fun _ hb => hb, fun _ _ => rfl, fun i hi => ⟨.inl hi, X.name_mu_ne id' _ (fun e => hid (e ▸ hi))⟩, fun _ _ => rfl⟩
  refine ⟨⟨?_, ?_, ?_, ok.ilt⟩, ⟨rfl, rfl, rfl, Nat.le_refl _, fun _ _ _ => rfl, K.cnt, K.dm, K.imm, fun b hb => .inl hb, ?_⟩⟩
  · intro i x hx
    rcases Hp.set_some hx with ⟨rfl, rfl⟩ | ⟨hi, hx⟩
    · refine ⟨.inr rfl, ?_⟩
      have hd := (ok.obj id _ ho).1
      have h1 := ((ok.obj id _ ho).mono K (fun _ _ => rfl)).2
      rw [Ctx.name_mu_same]
      rw [Ctx.name_mu_ne _ _ _ (show id ≠ i from fun e => hid (by rw [← e]; exact hd))] at h1
      exact h1
    · exact (ok.obj i x (Hp.del_some hx).2).mono K fun _ _ => rfl
  · intro i j x y b hi hj hmi hmj
    rcases Hp.set_some hi with ⟨ei, _⟩ | ⟨ei, gi⟩ <;> rcases Hp.set_some hj with ⟨ej, _⟩ | ⟨ej, gj⟩
    · rw [ei, ej]
    · rw [ei, Ctx.name_mu_same] at hmi
      rw [Ctx.name_mu_ne _ _ _ ej] at hmj
      obtain ⟨hj2, gj⟩ := Hp.del_some gj
      exact absurd (ok.inj id j _ y b ho gj hmi hmj) (Ne.symm hj2)
    · rw [ej, Ctx.name_mu_same] at hmj
      rw [Ctx.name_mu_ne _ _ _ ei] at hmi
      obtain ⟨hi2, gi⟩ := Hp.del_some gi
      exact absurd (ok.inj i id x _ b gi ho hmi hmj) hi2
    · rw [Ctx.name_mu_ne _ _ _ ei] at hmi
      rw [Ctx.name_mu_ne _ _ _ ej] at hmj
      exact ok.inj i j x y b (Hp.del_some gi).2 (Hp.del_some gj).2 hmi hmj
  · intro i x b hi hm hI
    rcases Hp.set_some hi with ⟨rfl, rfl⟩ | ⟨hi', hi⟩
    · rw [Ctx.name_mu_same] at hm
      exact ok.notI id _ b ho hm hI
    · rw [Ctx.name_mu_ne _ _ _ hi'] at hm
      exact ok.notI i x b (Hp.del_some hi).2 hm hI
  · intro i x b hx hm
    rcases Hp.set_some hx with ⟨rfl, rfl⟩ | ⟨hi, hx⟩
    · rw [Ctx.name_mu_same] at hm
      exact .inr ⟨id, _, ho, hm⟩
    · rw [Ctx.name_mu_ne _ _ _ hi] at hm
      exact .inr ⟨i, x, (Hp.del_some hx).2, hm⟩

end Go.Proofs.Ytjieenfbfckafaa.Am

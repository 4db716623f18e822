/- The abstract machine, part 0. -/
import Derived.Below
import Derived.Deep.LoopGhost
import Derived.Laws.AppendOwn
import Derived.Laws.CopyRow
import Derived.Laws.MakeOwn
import Derived.Laws.Rows
import Derived.OwnWalk
import Derived.WalkKit
/- The abstract machine's values, memory and their relation to the model's worlds: definitions and the laws by which the relation is kept. -/
namespace Go.Proofs.Ytjieenfbfckafaa.Am
open Go
set_option linter.unusedVariables false

/-- Pure values of one cell: they name no object of the call's own. 'val': a slice whose cells stay as they are; 'vptr': an address of cells that stay as they are. -/
inductive PV where
  | v (x : Value)
  | val (n : Nat) (cells : List PV)
  | vptr (cells : List PV)

/-- Values of one cell. 'ptr', 'ref': an address in, a slice of, an object of the call's own. -/
inductive DV where
  | p (x : PV)
  | ptr (id off : Nat)
  | ref (id off n sz : Nat)

/-- What a temporary holds. -/
inductive TV where
  | c (x : DV)
  | agg (xs : List DV)
  | tup (xs : List TV)

structure Ob where
  e : TypeId
  xs : List DV

/-- How the abstract names lie in the world: blocks that stay; names that are given; where they lie (none: nowhere, a nil slice). -/
structure Ctx where
  I : Nat → Prop
  dm : Nat → Prop
  mu : Nat → Option Nat

mutual
def VRp (w : World) (I : Nat → Prop) : PV → Value → Prop
  | .v x, u => u = x ∧ x.oneCell' = true
  | .val n cs, u => ∃ A cap, u = .slice A n cap ∧ n ≤ cap ∧ ((n = 0 ∧ cs = []) ∨ ∃ b o, A = some ⟨b, o, none⟩ ∧ I b ∧ VRc w I b o cs)
  | .vptr cs, u => ∃ b o, u = .pointer (some ⟨b, o, none⟩) ∧ I b ∧ VRc w I b o cs
def VRc (w : World) (I : Nat → Prop) (b : Nat) : Nat → List PV → Prop
  | _, [] => True
  | o, d :: ds => (∃ u, w.cell? ⟨b, o, none⟩ = some u ∧ VRp w I d u) ∧ VRc w I b (o + 1) ds
end

theorem VRc_get {w : World} {I : Nat → Prop} {b : Nat} : ∀ {cs : List PV} {o : Nat}, VRc w I b o cs ↔ ∀ j d, cs[j]? = some d → ∃ u, w.cell? ⟨b, o + j, none⟩ = some u ∧ VRp w I d u
  | [], o => by simp [VRc]
  | d :: ds, o => by
    simp only [VRc]
    rw [VRc_get (cs := ds)]
    constructor
    · rintro ⟨h0, h⟩ j e he
      cases j with
      | zero => simp at he; subst he; simpa using h0
      | succ j => have := h j e (by simpa using he); simpa [Nat.add_assoc, Nat.add_comm 1 j] using this
    · intro h
      refine ⟨by simpa using h 0 d rfl, fun j e he => ?_⟩
      have := h (j + 1) e (by simpa using he)
      simpa [Nat.add_assoc, Nat.add_comm 1 j] using this

theorem cell_congr {w w' : World} {b o : Nat} (h : w'.heap[b]? = w.heap[b]?) : w'.cell? ⟨b, o, none⟩ = w.cell? ⟨b, o, none⟩ := World.cell?_of_block (a := ⟨b, o, none⟩) h

mutual
theorem VRp.mono {w w' : World} {I I' : Nat → Prop} (hI : ∀ b, I b → I' b) (hw : ∀ b, I b → w'.heap[b]? = w.heap[b]?) : ∀ (d : PV) (u : Value), VRp w I d u → VRp w' I' d u
  | .v x, u, h => h
  | .val n cs, u, h => by
    obtain ⟨A, cap, h1, h2, h3⟩ := h
    refine ⟨A, cap, h1, h2, ?_⟩
    rcases h3 with h3 | ⟨b, o, h4, h5, h6⟩
    · exact .inl h3
    · exact .inr ⟨b, o, h4, hI b h5, VRc.mono hI hw cs b o h5 h6⟩
  | .vptr cs, u, h => by
    obtain ⟨b, o, h4, h5, h6⟩ := h
    exact ⟨b, o, h4, hI b h5, VRc.mono hI hw cs b o h5 h6⟩
theorem VRc.mono {w w' : World} {I I' : Nat → Prop} (hI : ∀ b, I b → I' b) (hw : ∀ b, I b → w'.heap[b]? = w.heap[b]?) : ∀ (cs : List PV) (b o : Nat), I b → VRc w I b o cs → VRc w' I' b o cs
  | [], b, o, _, _ => trivial
  | d :: ds, b, o, hb, h => by
    obtain ⟨⟨u, hu, hd⟩, h⟩ := h
    exact ⟨⟨u, by rw [cell_congr (hw b hb)]; exact hu, VRp.mono hI hw d u hd⟩, VRc.mono hI hw ds b (o + 1) hb h⟩
end

theorem VRp.one {w : World} {I : Nat → Prop} {d : PV} {u : Value} (h : VRp w I d u) : u.oneCell' = true := by
  cases d with
  | v x => obtain ⟨rfl, h⟩ := h; exact h
  | val n cs => obtain ⟨A, cap, rfl, _⟩ := h; rfl
  | vptr cs => obtain ⟨b, o, rfl, _⟩ := h; rfl

def cellCount (w : World) (b : Nat) : Nat :=
  match w.heap[b]? with
  | some (.cells c _ _) => c.size
  | _ => 0

def VRd (w : World) (X : Ctx) : DV → Value → Prop
  | .p x, u => VRp w X.I x u
  | .ptr id off, u => X.dm id ∧ ∃ b, X.mu id = some b ∧ u = .pointer (some ⟨b, off, none⟩)
  | .ref id off n sz, u => X.dm id ∧ ((X.mu id = none ∧ n = 0 ∧ u = .slice none 0 0) ∨
      ∃ b off' cap, X.mu id = some b ∧ u = .slice (some ⟨b, off', none⟩) n cap ∧ n ≤ cap ∧ cap ≤ maxLen ∧ (cap = 0 ∨ off' = off) ∧ off' + cap * sz ≤ cellCount w b)

def VRds (w : World) (X : Ctx) (ds : List DV) (us : List Value) : Prop := ds.length = us.length ∧ ∀ (j : Nat) d u, ds[j]? = some d → us[j]? = some u → VRd w X d u

mutual
def TVR (w : World) (X : Ctx) : TV → Value → Prop
  | .c d, u => VRd w X d u
  | .agg ds, u => ∃ cs : Array Value, u = .agg cs ∧ VRds w X ds cs.toList
  | .tup ts, u => ∃ vs : Array Value, u = .tuple vs ∧ TVRs w X ts vs.toList
def TVRs (w : World) (X : Ctx) : List TV → List Value → Prop
  | [], us => us = []
  | t :: ts, us => ∃ u r, us = u :: r ∧ TVR w X t u ∧ TVRs w X ts r
end

def ObjR (w : World) (X : Ctx) (id : Nat) (o : Ob) : Prop :=
  X.dm id ∧ match X.mu id with
    | none => o.xs = []
    | some b => ∃ c, w.heap[b]? = some (.cells c o.e (0, 0)) ∧ o.xs.length ≤ c.size ∧ ∀ (j : Nat) d u, o.xs[j]? = some d → c[j]? = some u → VRd w X d u

abbrev Hp := Nat → Option Ob
abbrev Env := Nat → Option TV

structure HeapOk (w : World) (X : Ctx) (h : Hp) : Prop where
  obj : ∀ id o, h id = some o → ObjR w X id o
  inj : ∀ i j x y b, h i = some x → h j = some y → X.mu i = some b → X.mu j = some b → i = j
  notI : ∀ i x b, h i = some x → X.mu i = some b → ¬ X.I b
  ilt : ∀ b, X.I b → b < w.heap.size

/-- What a step may do. -/
structure Evol (X : Ctx) (w : World) (h : Hp) (X' : Ctx) (w' : World) (h' : Hp) : Prop where
  os : w'.os = w.os
  tape : w'.tape = w.tape
  output : w'.output = w.output
  size : w.heap.size ≤ w'.heap.size
  frame : ∀ b, b < w.heap.size → (∀ id o, h id = some o → X.mu id ≠ some b) → w'.heap[b]? = w.heap[b]?
  cnt : ∀ b, b < w.heap.size → cellCount w' b = cellCount w b
  dm : ∀ id, X.dm id → X'.dm id ∧ X'.mu id = X.mu id
  imm : ∀ b, X.I b → X'.I b
  newI : ∀ b, X'.I b → X.I b ∨ w.heap.size ≤ b ∨ ∃ id o, h id = some o ∧ X.mu id = some b
  live : ∀ id o b, h' id = some o → X'.mu id = some b → w.heap.size ≤ b ∨ ∃ id0 o0, h id0 = some o0 ∧ X.mu id0 = some b

theorem Evol.refl (X : Ctx) (w : World) (h : Hp) : Evol X w h X w h :=
  ⟨rfl, rfl, rfl, Nat.le_refl _, fun _ _ _ => rfl, fun _ _ => rfl, fun _ hd => ⟨hd, rfl⟩, fun _ hb => hb, fun _ hb => .inl hb, fun id o b ho hm => .inr ⟨id, o, ho, hm⟩⟩

theorem Evol.trans {X Y Z : Ctx} {u v w : World} {h k l : Hp} (e : Evol X u h Y v k) (f : Evol Y v k Z w l) : Evol X u h Z w l := by
  refine ⟨f.os.trans e.os, f.tape.trans e.tape, f.output.trans e.output, Nat.le_trans e.size f.size, ?_, ?_, ?_, fun b hb => f.imm b (e.imm b hb), ?_, ?_⟩
  · intro b hb hn
    refine (f.frame b (Nat.lt_of_lt_of_le hb e.size) fun id o ho hm => ?_).trans (e.frame b hb hn)
    rcases e.live id o b ho hm with h1 | ⟨i0, o0, h1, h2⟩
    · omega
    · exact hn i0 o0 h1 h2
  · intro b hb
    exact (f.cnt b (Nat.lt_of_lt_of_le hb e.size)).trans (e.cnt b hb)
  · intro id hd
    obtain ⟨h1, h2⟩ := e.dm id hd
    obtain ⟨h3, h4⟩ := f.dm id h1
    exact ⟨h3, h4.trans h2⟩
  · intro b hb
    rcases f.newI b hb with h1 | h1 | ⟨id, o, h1, h2⟩
    · exact e.newI b h1
    · exact .inr (.inl (Nat.le_trans e.size h1))
    · rcases e.live id o b h1 h2 with h3 | h3
      · exact .inr (.inl h3)
      · exact .inr (.inr h3)
  · intro id o b ho hm
    rcases f.live id o b ho hm with h1 | ⟨i0, o0, h1, h2⟩
    · exact .inl (Nat.le_trans e.size h1)
    · exact e.live i0 o0 b h1 h2

/-- What a call, or a piece of code, may do: of the names that were given before, those below p stay. -/
structure EvolP (p : Nat) (X : Ctx) (w : World) (h : Hp) (X' : Ctx) (w' : World) (h' : Hp) : Prop where
  os : w'.os = w.os
  tape : w'.tape = w.tape
  output : w'.output = w.output
  size : w.heap.size ≤ w'.heap.size
  frame : ∀ b, b < w.heap.size → (∀ id o, h id = some o → X.mu id ≠ some b) → w'.heap[b]? = w.heap[b]?
  cnt : ∀ b, b < w.heap.size → cellCount w' b = cellCount w b
  dm : ∀ id, id < p → X.dm id → X'.dm id ∧ X'.mu id = X.mu id
  imm : ∀ b, X.I b → X'.I b
  newI : ∀ b, X'.I b → X.I b ∨ w.heap.size ≤ b ∨ ∃ id o, h id = some o ∧ X.mu id = some b
  live : ∀ id o b, h' id = some o → X'.mu id = some b → w.heap.size ≤ b ∨ ∃ id0 o0, h id0 = some o0 ∧ X.mu id0 = some b

theorem Evol.toP {X X' : Ctx} {w w' : World} {h h' : Hp} (e : Evol X w h X' w' h') (p : Nat) : EvolP p X w h X' w' h' :=
  ⟨e.os, e.tape, e.output, e.size, e.frame, e.cnt, fun id _ => e.dm id, e.imm, e.newI, e.live⟩

theorem EvolP.trans {p : Nat} {X Y Z : Ctx} {u v w : World} {h k l : Hp} (e : EvolP p X u h Y v k) (f : EvolP p Y v k Z w l) : EvolP p X u h Z w l := by
  refine ⟨f.os.trans e.os, f.tape.trans e.tape, f.output.trans e.output, Nat.le_trans e.size f.size, ?_, ?_, ?_, fun b hb => f.imm b (e.imm b hb), ?_, ?_⟩
  · intro b hb hn
    refine (f.frame b (Nat.lt_of_lt_of_le hb e.size) fun id o ho hm => ?_).trans (e.frame b hb hn)
    rcases e.live id o b ho hm with h1 | ⟨i0, o0, h1, h2⟩
    · omega
    · exact hn i0 o0 h1 h2
  · intro b hb
    exact (f.cnt b (Nat.lt_of_lt_of_le hb e.size)).trans (e.cnt b hb)
  · intro id hp hd
    obtain ⟨h1, h2⟩ := e.dm id hp hd
    obtain ⟨h3, h4⟩ := f.dm id hp h1
    exact ⟨h3, h4.trans h2⟩
  · intro b hb
    rcases f.newI b hb with h1 | h1 | ⟨id, o, h1, h2⟩
    · exact e.newI b h1
    · exact .inr (.inl (Nat.le_trans e.size h1))
    · rcases e.live id o b h1 h2 with h3 | h3
      · exact .inr (.inl h3)
      · exact .inr (.inr h3)
  · intro id o b ho hm
    rcases f.live id o b ho hm with h1 | ⟨i0, o0, h1, h2⟩
    · exact .inl (Nat.le_trans e.size h1)
    · exact e.live i0 o0 b h1 h2

/-- The relation is kept by a step. -/
structure Keeps (X : Ctx) (w : World) (X' : Ctx) (w' : World) : Prop where
  imm : ∀ b, X.I b → X'.I b
  same : ∀ b, X.I b → w'.heap[b]? = w.heap[b]?
  dm : ∀ id, X.dm id → X'.dm id ∧ X'.mu id = X.mu id
  cnt : ∀ b, b < w.heap.size → cellCount w' b = cellCount w b

theorem Evol.keeps {X Y : Ctx} {w v : World} {h k : Hp} (e : Evol X w h Y v k) (ok : HeapOk w X h) : Keeps X w Y v :=
  ⟨e.imm, fun b hb => e.frame b (ok.ilt b hb) fun id o ho hm => ok.notI id o b ho hm hb, e.dm, e.cnt⟩

theorem Keeps.refl (X : Ctx) (w : World) : Keeps X w X w := ⟨fun _ h => h, fun _ _ => rfl, fun _ h => ⟨h, rfl⟩, fun _ _ => rfl⟩

theorem VRd.mono {X Y : Ctx} {w v : World} (k : Keeps X w Y v) {d : DV} {u : Value} (h : VRd w X d u) : VRd v Y d u := by
  cases d with
  | p x => exact VRp.mono k.imm k.same x u h
  | ptr id off =>
    obtain ⟨hd, b, h1, h2⟩ := h
    obtain ⟨h3, h4⟩ := k.dm id hd
    exact ⟨h3, b, h4.trans h1, h2⟩
  | ref id off n sz =>
    obtain ⟨hd, h⟩ := h
    obtain ⟨h3, h4⟩ := k.dm id hd
    refine ⟨h3, ?_⟩
    rcases h with ⟨h1, h2⟩ | ⟨b, off', cap, h1, h2, h5, h5', h6, h7⟩
    · exact .inl ⟨h4.trans h1, h2⟩
    · refine .inr ⟨b, off', cap, h4.trans h1, h2, h5, h5', h6, ?_⟩
      rcases Nat.lt_or_ge b w.heap.size with hb | hb
      · rw [k.cnt b hb]; exact h7
      · have : cellCount w b = 0 := by simp [cellCount, Array.getElem?_eq_none hb]
        omega

theorem VRd.one {w : World} {X : Ctx} {d : DV} {u : Value} (h : VRd w X d u) : u.oneCell' = true := by
  cases d with
  | p x => exact VRp.one h
  | ptr id off => obtain ⟨_, b, _, rfl⟩ := h; rfl
  | ref id off n sz => obtain ⟨_, ⟨_, _, rfl⟩ | ⟨b, off', cap, _, rfl, _⟩⟩ := h <;> rfl

theorem VRds.mono {X Y : Ctx} {w v : World} (k : Keeps X w Y v) {ds : List DV} {us : List Value} (h : VRds w X ds us) : VRds v Y ds us :=
  ⟨h.1, fun j d u hd hu => (h.2 j d u hd hu).mono k⟩

theorem VRds.one {X : Ctx} {w : World} {ds : List DV} {us : List Value} (h : VRds w X ds us) : ∀ u ∈ us, u.oneCell' = true := by
  intro u hu
  obtain ⟨j, hj, rfl⟩ := List.getElem_of_mem hu
  have hj' : j < ds.length := by rw [h.1]; exact hj
  exact (h.2 j ds[j] us[j] (List.getElem?_eq_getElem hj') (List.getElem?_eq_getElem hj)).one

mutual
theorem TVR.mono {X Y : Ctx} {w v : World} (k : Keeps X w Y v) : ∀ (t : TV) (u : Value), TVR w X t u → TVR v Y t u
  | .c d, u, h => VRd.mono k h
  | .agg ds, u, ⟨cs, h1, h2⟩ => ⟨cs, h1, h2.mono k⟩
  | .tup ts, u, ⟨vs, h1, h2⟩ => ⟨vs, h1, TVRs.mono k ts vs.toList h2⟩
theorem TVRs.mono {X Y : Ctx} {w v : World} (k : Keeps X w Y v) : ∀ (ts : List TV) (us : List Value), TVRs w X ts us → TVRs v Y ts us
  | [], us, h => h
  | t :: ts, us, ⟨u, r, h1, h2, h3⟩ => ⟨u, r, h1, TVR.mono k t u h2, TVRs.mono k ts r h3⟩
end

theorem ObjR.mono {X Y : Ctx} {w v : World} (k : Keeps X w Y v) {id : Nat} {o : Ob} (hb : ∀ b, X.mu id = some b → v.heap[b]? = w.heap[b]?) (h : ObjR w X id o) : ObjR v Y id o := by
  obtain ⟨hd, h⟩ := h
  obtain ⟨h3, h4⟩ := k.dm id hd
  refine ⟨h3, ?_⟩
  rw [h4]
  cases hm : X.mu id with
  | none => rw [hm] at h; exact h
  | some b =>
    rw [hm] at h
    obtain ⟨c, h5, h6, h7⟩ := h
    exact ⟨c, (hb b hm).trans h5, h6, fun j d u hdj huj => (h7 j d u hdj huj).mono k⟩

end Go.Proofs.Ytjieenfbfckafaa.Am
/- What single changes of the world do to the relation: new blocks, writes, names given, taken and made to stay. -/
namespace Go.Proofs.Ytjieenfbfckafaa.Am
open Go
set_option linter.unusedVariables false

def Hp.set (h : Hp) (id : Nat) (o : Ob) : Hp := fun i => if i = id then some o else h i
def Hp.del (h : Hp) (id : Nat) : Hp := fun i => if i = id then none else h i

theorem Hp.set_some {h : Hp} {id : Nat} {o : Ob} {i : Nat} {x : Ob} (hx : h.set id o i = some x) : (i = id ∧ x = o) ∨ (i ≠ id ∧ h i = some x) := by
  unfold Hp.set at hx
  by_cases hi : i = id
  · rw [if_pos hi] at hx; exact .inl ⟨hi, (Option.some.inj hx).symm⟩
  · rw [if_neg hi] at hx; exact .inr ⟨hi, hx⟩
theorem Hp.del_some {h : Hp} {id : Nat} {i : Nat} {x : Ob} (hx : h.del id i = some x) : i ≠ id ∧ h i = some x := by
  unfold Hp.del at hx
  by_cases hi : i = id
  · rw [if_pos hi] at hx; cases hx
  · rw [if_neg hi] at hx; exact ⟨hi, hx⟩

theorem hao (w : World) (o : Obj) (b : Nat) (h : b < w.heap.size) : (w.alloc o).heap[b]? = w.heap[b]? := Go.RowKit.Below.heap_alloc w o b h

/-- A name for a block. -/
def Ctx.name (X : Ctx) (id : Nat) (b : Option Nat) : Ctx := { I := X.I, dm := fun i => X.dm i ∨ i = id, mu := fun i => if i = id then b else X.mu i }
/-- A block that stays. -/
def Ctx.stay (X : Ctx) (b : Nat) : Ctx := { I := fun i => X.I i ∨ i = b, dm := X.dm, mu := X.mu }

theorem Ctx.name_mu_same (X : Ctx) (id : Nat) (b : Option Nat) : (X.name id b).mu id = b := by simp [Ctx.name]
theorem Ctx.name_mu_ne (X : Ctx) (id : Nat) (b : Option Nat) {i : Nat} (h : i ≠ id) : (X.name id b).mu i = X.mu i := by simp [Ctx.name, h]

theorem cellCount_lt {w : World} {b : Nat} {c : Array Value} {e : TypeId} {fr : Nat × Nat} (h : w.heap[b]? = some (.cells c e fr)) : b < w.heap.size := (Array.getElem?_eq_some_iff.1 h).1
theorem cellCount_of {w : World} {b : Nat} {c : Array Value} {e : TypeId} {fr : Nat × Nat} (h : w.heap[b]? = some (.cells c e fr)) : cellCount w b = c.size := by simp [cellCount, h]
theorem cellCount_congr {w w' : World} {b : Nat} (h : w'.heap[b]? = w.heap[b]?) : cellCount w' b = cellCount w b := by simp [cellCount, h]

theorem Evol.drew (X : Ctx) (w : World) (h : Hp) : Evol X w h X w.drew h :=
  ⟨rfl, rfl, rfl, Nat.le_refl _, fun _ _ _ => rfl, fun _ _ => rfl, fun _ hd => ⟨hd, rfl⟩, fun _ hb => hb, fun _ hb => .inl hb, fun id o b ho hm => .inr ⟨id, o, ho, hm⟩⟩
theorem HeapOk.drew {w : World} {X : Ctx} {h : Hp} (ok : HeapOk w X h) : HeapOk w.drew X h :=
  ⟨fun id o ho => ObjR.mono (w := w) (X := X) (v := w.drew) (Y := X) ⟨fun _ h => h, fun _ _ => rfl, fun _ h => ⟨h, rfl⟩, fun _ _ => rfl⟩ (fun _ _ => rfl) (ok.obj id o ho), ok.inj, ok.notI, ok.ilt⟩

theorem HeapOk.alloc_keeps {w : World} {X : Ctx} {h : Hp} (ok : HeapOk w X h) (o : Obj) {id : Nat} (hid : ¬ X.dm id) (b : Option Nat) : Keeps X w (X.name id b) (w.alloc o) :=
  ⟨fun _ hb => hb, fun b hb => hao w o b (ok.ilt b hb), fun i hi => ⟨.inl hi, X.name_mu_ne id _ (fun e => hid (e ▸ hi))⟩, fun b hb => cellCount_congr (hao w o b hb)⟩

/-- A new object of the call's own. -/
theorem HeapOk.new {w : World} {X : Ctx} {h : Hp} (ok : HeapOk w X h) {id : Nat} (hid : ¬ X.dm id) {c : Array Value} {e : TypeId} {xs : List DV} (hc : VRds w X xs (c.toList.take xs.length)) (hle : xs.length ≤ c.size) :
    HeapOk (w.alloc (.cells c e)) (X.name id (some w.heap.size)) (h.set id ⟨e, xs⟩) ∧ Evol X w h (X.name id (some w.heap.size)) (w.alloc (.cells c e)) (h.set id ⟨e, xs⟩) := by
  have K := ok.alloc_keeps (.cells c e) hid (some w.heap.size)
  have hlt : ∀ i o b, h i = some o → X.mu i = some b → b < w.heap.size := fun i o b ho hm => by
    have := (ok.obj i o ho).2
    rw [hm] at this
    obtain ⟨c, h1, _⟩ := this
    exact cellCount_lt h1
  have hne : ∀ i o, h i = some o → i ≠ id := fun i o ho e => hid (e ▸ (ok.obj i o ho).1)
  refine ⟨⟨?_, ?_, ?_, ?_⟩, ⟨rfl, rfl, rfl, by simp, fun b hb _ => hao w _ b hb, K.cnt, K.dm, K.imm, fun b hb => .inl hb, ?_⟩⟩
  · intro i o ho
    rcases Hp.set_some ho with ⟨rfl, rfl⟩ | ⟨hi, ho⟩
    · refine ⟨.inr rfl, ?_⟩
      rw [Ctx.name_mu_same]
      refine ⟨c, heap_alloc_new w _, hle, fun j d u hj hu => (hc.2 j d u hj ?_).mono K⟩
      have hjl : j < xs.length := (List.getElem?_eq_some_iff.1 hj).1
      rw [List.getElem?_take, if_pos hjl]
      simpa using hu
    · exact (ok.obj i o ho).mono K fun b hb => hao w _ b (hlt i o b ho hb)
  · intro i j x y b hi hj hmi hmj
    rcases Hp.set_some hi with ⟨ei, _⟩ | ⟨ei, gi⟩ <;> rcases Hp.set_some hj with ⟨ej, _⟩ | ⟨ej, gj⟩
    · rw [ei, ej]
    · rw [ei, Ctx.name_mu_same] at hmi
      rw [Ctx.name_mu_ne _ _ _ ej] at hmj
      have := hlt j y b gj hmj
      cases hmi
      omega
    · rw [ej, Ctx.name_mu_same] at hmj
      rw [Ctx.name_mu_ne _ _ _ ei] at hmi
      have := hlt i x b gi hmi
      cases hmj
      omega
    · rw [Ctx.name_mu_ne _ _ _ ei] at hmi
      rw [Ctx.name_mu_ne _ _ _ ej] at hmj
      exact ok.inj i j x y b gi gj hmi hmj
  · intro i x b hi hm hI
    rcases Hp.set_some hi with ⟨rfl, rfl⟩ | ⟨hi', hi⟩
    · rw [Ctx.name_mu_same] at hm
      cases hm
      have := ok.ilt _ hI
      omega
    · rw [Ctx.name_mu_ne _ _ _ hi'] at hm
      exact ok.notI i x b hi hm hI
  · intro b hb
    have := ok.ilt b hb
    simp
    omega
  · intro i o b ho hm
    rcases Hp.set_some ho with ⟨rfl, rfl⟩ | ⟨hi, ho⟩
    · rw [Ctx.name_mu_same] at hm
      cases hm
      exact .inl (Nat.le_refl _)
    · rw [Ctx.name_mu_ne _ _ _ hi] at hm
      exact .inr ⟨i, o, ho, hm⟩

/-- A new block that stays. -/
theorem HeapOk.newStay {w : World} {X : Ctx} {h : Hp} (ok : HeapOk w X h) (o : Obj) :
    HeapOk (w.alloc o) (X.stay w.heap.size) h ∧ Evol X w h (X.stay w.heap.size) (w.alloc o) h := by
  have K : Keeps X w (X.stay w.heap.size) (w.alloc o) :=
    ⟨fun _ hb => .inl hb, fun b hb => hao w o b (ok.ilt b hb), fun i hi => ⟨hi, rfl⟩, fun b hb => cellCount_congr (hao w o b hb)⟩
  have hlt : ∀ i o b, h i = some o → X.mu i = some b → b < w.heap.size := fun i o b ho hm => by
    have := (ok.obj i o ho).2
    rw [hm] at this
    obtain ⟨c, h1, _⟩ := this
    exact cellCount_lt h1
  refine ⟨⟨fun i x hx => (ok.obj i x hx).mono K fun b hb => hao w _ b (hlt i x b hx hb), ok.inj, ?_, ?_⟩, ⟨rfl, rfl, rfl, by simp, fun b hb _ => hao w _ b hb, K.cnt, K.dm, K.imm, ?_, ?_⟩⟩
  · intro i x b hi hm hI
    rcases hI with hI | rfl
    · exact ok.notI i x b hi hm hI
    · have := hlt i x _ hi hm; omega
  · intro b hb
    rcases hb with hb | rfl
    · have := ok.ilt b hb; simp; omega
    · simp
  · intro b hb
    rcases hb with hb | rfl
    · exact .inl hb
    · exact .inr (.inl (Nat.le_refl _))
  · intro i x b hx hm
    exact .inr ⟨i, x, hx, hm⟩

/-- A write into an object. -/
theorem HeapOk.write {w : World} {X : Ctx} {h : Hp} (ok : HeapOk w X h) {id b : Nat} {o : Ob} {c c' : Array Value} (ho : h id = some o) (hm : X.mu id = some b)
    (hb : w.heap[b]? = some (.cells c o.e (0, 0))) (hs : c'.size = c.size) {xs : List DV} (hle : xs.length ≤ c'.size) (hc : VRds w X xs (c'.toList.take xs.length)) :
    HeapOk (w.setRow b c') X (h.set id ⟨o.e, xs⟩) ∧ Evol X w h X (w.setRow b c') (h.set id ⟨o.e, xs⟩) := by
  have hother : ∀ k, k ≠ b → (w.setRow b c').heap[k]? = w.heap[k]? := fun k hk => setRow_other w b k _ hk
  have hsame : (w.setRow b c').heap[b]? = some (.cells c' o.e (0, 0)) := setRow_heap w b c c' o.e _ hb
  have hcnt : ∀ k, cellCount (w.setRow b c') k = cellCount w k := fun k => by
    by_cases hk : k = b
    · subst hk; rw [cellCount_of hsame, cellCount_of hb, hs]
    · exact cellCount_congr (hother k hk)
  have hnI : ¬ X.I b := ok.notI id o b ho hm
  have K : Keeps X w X (w.setRow b c') := ⟨fun _ h => h, fun k hk => hother k (fun e => hnI (e ▸ hk)), fun _ h => ⟨h, rfl⟩, fun k _ => hcnt k⟩
  refine ⟨⟨?_, ?_, ?_, ?_⟩, ⟨rfl, rfl, rfl, by simp, ?_, fun k _ => hcnt k, K.dm, K.imm, fun k hk => .inl hk, ?_⟩⟩
  · intro i x hx
    rcases Hp.set_some hx with ⟨rfl, rfl⟩ | ⟨hi, hx⟩
    · refine ⟨(ok.obj _ _ ho).1, ?_⟩
      rw [hm]
      refine ⟨c', hsame, hle, fun j d u hj hu => (hc.2 j d u hj ?_).mono K⟩
      have hjl : j < xs.length := (List.getElem?_eq_some_iff.1 hj).1
      rw [List.getElem?_take, if_pos hjl]
      simpa using hu
    · refine (ok.obj i x hx).mono K fun k hk => hother k fun e => ?_
      subst e
      exact hi (ok.inj i id x o k hx ho hk hm)
  · intro i j x y k hi hj hmi hmj
    have hi' : ∃ x, h i = some x := by
      rcases Hp.set_some hi with ⟨rfl, rfl⟩ | ⟨_, hi⟩
      · exact ⟨_, ho⟩
      · exact ⟨_, hi⟩
    have hj' : ∃ x, h j = some x := by
      rcases Hp.set_some hj with ⟨rfl, rfl⟩ | ⟨_, hj⟩
      · exact ⟨_, ho⟩
      · exact ⟨_, hj⟩
    obtain ⟨x', hi'⟩ := hi'
    obtain ⟨y', hj'⟩ := hj'
    exact ok.inj i j x' y' k hi' hj' hmi hmj
  · intro i x k hi hmi
    rcases Hp.set_some hi with ⟨rfl, rfl⟩ | ⟨_, hi⟩
    · exact ok.notI _ _ k ho hmi
    · exact ok.notI _ _ k hi hmi
  · intro k hk
    simpa using ok.ilt k hk
  · intro k hk hn
    exact hother k fun e => by subst e; exact hn id o ho hm
  · intro i x k hx hmi
    rcases Hp.set_some hx with ⟨rfl, rfl⟩ | ⟨_, hx⟩
    · exact .inr ⟨_, _, ho, hmi⟩
    · exact .inr ⟨_, _, hx, hmi⟩

theorem HeapOk.del {w : World} {X : Ctx} {h : Hp} (ok : HeapOk w X h) (id : Nat) : HeapOk w X (h.del id) ∧ Evol X w h X w (h.del id) := by
  refine ⟨⟨fun i x hx => ok.obj i x (Hp.del_some hx).2, fun i j x y b hi hj => ok.inj i j x y b (Hp.del_some hi).2 (Hp.del_some hj).2, fun i x b hi => ok.notI i x b (Hp.del_some hi).2, ok.ilt⟩,
    ⟨rfl, rfl, rfl, Nat.le_refl _, fun _ _ _ => rfl, fun _ _ => rfl, fun _ hd => ⟨hd, rfl⟩, fun _ hb => hb, fun _ hb => .inl hb, fun i o b ho hm => .inr ⟨i, o, (Hp.del_some ho).2, hm⟩⟩⟩

/-- An object of pure cells is made to stay. -/
theorem HeapOk.freeze {w : World} {X : Ctx} {h : Hp} (ok : HeapOk w X h) {id b : Nat} {o : Ob} (ho : h id = some o) (hm : X.mu id = some b) :
    HeapOk w (X.stay b) (h.del id) ∧ Evol X w h (X.stay b) w (h.del id) := by
  have K : Keeps X w (X.stay b) w := ⟨fun _ h => .inl h, fun _ _ => rfl, fun _ h => ⟨h, rfl⟩, fun _ _ => rfl⟩
  have hb : b < w.heap.size := by
    have := (ok.obj id o ho).2
    rw [hm] at this
    obtain ⟨c, h1, _⟩ := this
    exact cellCount_lt h1
  refine ⟨⟨fun i x hx => (ok.obj i x (Hp.del_some hx).2).mono K fun _ _ => rfl, fun i j x y b hi hj => ok.inj i j x y b (Hp.del_some hi).2 (Hp.del_some hj).2, ?_, ?_⟩,
    ⟨rfl, rfl, rfl, Nat.le_refl _, fun _ _ _ => rfl, fun _ _ => rfl, K.dm, K.imm, ?_, fun i o b ho hm => .inr ⟨i, o, (Hp.del_some ho).2, hm⟩⟩⟩
  · intro i x k hi hmi hI
    obtain ⟨hne, hi⟩ := Hp.del_some hi
    rcases hI with hI | rfl
    · exact ok.notI i x k hi hmi hI
    · exact hne (ok.inj i id x o _ hi ho hmi hm)
  · intro k hk
    rcases hk with hk | rfl
    · exact ok.ilt k hk
    · exact hb
  · intro k hk
    rcases hk with hk | rfl
    · exact .inl hk
    · exact .inr (.inr ⟨id, o, ho, hm⟩)

/-- A name for a nil slice. -/
theorem HeapOk.nil {w : World} {X : Ctx} {h : Hp} (ok : HeapOk w X h) {id : Nat} (hid : ¬ X.dm id) (e : TypeId) :
    HeapOk w (X.name id none) (h.set id ⟨e, []⟩) ∧ Evol X w h (X.name id none) w (h.set id ⟨e, []⟩) := by
  have K : Keeps X w (X.name id none) w := ⟨fun _ hb => hb, fun _ _ => rfl, fun i hi => ⟨.inl hi, X.name_mu_ne id _ (fun e => hid (e ▸ hi))⟩, fun _ _ => rfl⟩
  refine ⟨⟨?_, ?_, ?_, ok.ilt⟩, ⟨rfl, rfl, rfl, Nat.le_refl _, fun _ _ _ => rfl, K.cnt, K.dm, K.imm, fun b hb => .inl hb, ?_⟩⟩
  · intro i o ho
    rcases Hp.set_some ho with ⟨rfl, rfl⟩ | ⟨hi, ho⟩
    · exact ⟨.inr rfl, by rw [Ctx.name_mu_same]⟩
    · exact (ok.obj i o ho).mono K fun _ _ => rfl
  · intro i j x y b hi hj hmi hmj
    rcases Hp.set_some hi with ⟨rfl, rfl⟩ | ⟨hi', hi⟩
    · rw [Ctx.name_mu_same] at hmi; cases hmi
    · rcases Hp.set_some hj with ⟨rfl, rfl⟩ | ⟨hj', hj⟩
      · rw [Ctx.name_mu_same] at hmj; cases hmj
      · rw [Ctx.name_mu_ne _ _ _ hi'] at hmi
        rw [Ctx.name_mu_ne _ _ _ hj'] at hmj
        exact ok.inj i j x y b hi hj hmi hmj
  · intro i x b hi hm hI
    rcases Hp.set_some hi with ⟨rfl, rfl⟩ | ⟨hi', hi⟩
    · rw [Ctx.name_mu_same] at hm; cases hm
    · rw [Ctx.name_mu_ne _ _ _ hi'] at hm
      exact ok.notI i x b hi hm hI
  · intro i o b ho hm
    rcases Hp.set_some ho with ⟨rfl, rfl⟩ | ⟨hi, ho⟩
    · rw [Ctx.name_mu_same] at hm; cases hm
    · rw [Ctx.name_mu_ne _ _ _ hi] at hm
      exact .inr ⟨i, o, ho, hm⟩

/-- An object under another name. -/
theorem HeapOk.move {w : World} {X : Ctx} {h : Hp} (ok : HeapOk w X h) {id id' : Nat} {o : Ob} (ho : h id = some o) (hid : ¬ X.dm id') :
    HeapOk w (X.name id' (X.mu id)) ((h.del id).set id' o) ∧ Evol X w h (X.name id' (X.mu id)) w ((h.del id).set id' o) := by
  have K : Keeps X w (X.name id' (X.mu id)) w := ⟨fun _ hb => hb, fun _ _ => rfl, fun i hi => ⟨.inl hi, X.name_mu_ne id' _ (fun e => hid (e ▸ hi))⟩, fun _ _ => rfl⟩
  refine ⟨⟨?_, ?_, ?_, ok.ilt⟩, ⟨rfl, rfl, rfl, Nat.le_refl _, fun _ _ _ => rfl, K.cnt, K.dm, K.imm, fun b hb => .inl hb, ?_⟩⟩
  · intro i x hx
    rcases Hp.set_some hx with ⟨rfl, rfl⟩ | ⟨hi, hx⟩
    · refine ⟨.inr rfl, ?_⟩
      have hd := (ok.obj id _ ho).1
      have h1 := ((ok.obj id _ ho).mono K (fun _ _ => rfl)).2
      rw [Ctx.name_mu_same]
      rw [Ctx.name_mu_ne _ _ _ (show id ≠ i from fun e => hid (by rw [← e]; exact hd))] at h1
      exact h1
    · exact (ok.obj i x (Hp.del_some hx).2).mono K fun _ _ => rfl
  · intro i j x y b hi hj hmi hmj
    rcases Hp.set_some hi with ⟨ei, _⟩ | ⟨ei, gi⟩ <;> rcases Hp.set_some hj with ⟨ej, _⟩ | ⟨ej, gj⟩
    · rw [ei, ej]
    · rw [ei, Ctx.name_mu_same] at hmi
      rw [Ctx.name_mu_ne _ _ _ ej] at hmj
      obtain ⟨hj2, gj⟩ := Hp.del_some gj
      exact absurd (ok.inj id j _ y b ho gj hmi hmj) (Ne.symm hj2)
    · rw [ej, Ctx.name_mu_same] at hmj
      rw [Ctx.name_mu_ne _ _ _ ei] at hmi
      obtain ⟨hi2, gi⟩ := Hp.del_some gi
      exact absurd (ok.inj i id x _ b gi ho hmi hmj) hi2
    · rw [Ctx.name_mu_ne _ _ _ ei] at hmi
      rw [Ctx.name_mu_ne _ _ _ ej] at hmj
      exact ok.inj i j x y b (Hp.del_some gi).2 (Hp.del_some gj).2 hmi hmj
  · intro i x b hi hm hI
    rcases Hp.set_some hi with ⟨rfl, rfl⟩ | ⟨hi', hi⟩
    · rw [Ctx.name_mu_same] at hm
      exact ok.notI id _ b ho hm hI
    · rw [Ctx.name_mu_ne _ _ _ hi'] at hm
      exact ok.notI i x b (Hp.del_some hi).2 hm hI
  · intro i x b hx hm
    rcases Hp.set_some hx with ⟨rfl, rfl⟩ | ⟨hi, hx⟩
    · rw [Ctx.name_mu_same] at hm
      exact .inr ⟨id, _, ho, hm⟩
    · rw [Ctx.name_mu_ne _ _ _ hi] at hm
      exact .inr ⟨i, x, (Hp.del_some hx).2, hm⟩

end Go.Proofs.Ytjieenfbfckafaa.Am
/- The abstract machine's code: operations with their types' sizes laid in, their effects, and the run of a list of them. -/
namespace Go.Proofs.Ytjieenfbfckafaa.Am
open Go
set_option linter.unusedVariables false
set_option linter.unusedSimpArgs false

/-! ### Lists of pairs -/
def look {α : Type} : List (Nat × α) → Nat → Option α
  | [], _ => none
  | (k, v) :: r, i => match Nat.beq i k with
    | true => some v
    | false => look r i
theorem look_nil {α : Type} (i : Nat) : look ([] : List (Nat × α)) i = none := rfl
theorem look_cons {α : Type} (k : Nat) (v : α) (r : List (Nat × α)) (i : Nat) : look ((k, v) :: r) i = if i = k then some v else look r i := by
  show (match Nat.beq i k with | true => some v | false => look r i) = _
  cases h : Nat.beq i k with
  | true => rw [if_pos (Nat.eq_of_beq_eq_true h)]
  | false => rw [if_neg (Nat.ne_of_beq_eq_false h)]
def put {α : Type} : List (Nat × α) → Nat → α → List (Nat × α)
  | [], i, x => [(i, x)]
  | (k, v) :: r, i, x => if i = k then (i, x) :: r else (k, v) :: put r i x
def del {α : Type} : List (Nat × α) → Nat → List (Nat × α)
  | [], _ => []
  | (k, v) :: r, i => if i = k then del r i else (k, v) :: del r i
theorem look_put {α : Type} (i : Nat) (x : α) (j : Nat) : ∀ l : List (Nat × α), look (put l i x) j = if j = i then some x else look l j
  | [] => by simp [put, look_cons, look_nil]
  | (k, v) :: r => by
    by_cases h : i = k
    · subst h; by_cases hj : j = i <;> simp [put, look_cons, look_nil, hj]
    · by_cases hj : j = k
      · subst hj
        have : ¬ j = i := fun e => h e.symm
        simp [put, look_cons, look_nil, h, this]
      · simp [put, look_cons, look_nil, h, hj, look_put i x j r]
theorem look_del {α : Type} (i j : Nat) : ∀ l : List (Nat × α), look (del l i) j = if j = i then none else look l j
  | [] => by simp [del, look_cons, look_nil]
  | (k, v) :: r => by
    by_cases h : i = k
    · subst h
      by_cases hj : j = i
      · subst hj; simp [del, look_del j j r]
      · simp [del, look_cons, look_nil, hj, look_del i j r]
    · by_cases hj : j = k
      · subst hj
        have : ¬ j = i := fun e => h e.symm
        simp [del, look_cons, look_nil, h, this]
      · simp [del, look_cons, look_nil, h, hj, look_del i j r]

/-! ### Other names -/
def DV.ren (f : Nat → Nat) : DV → DV
  | .p x => .p x
  | .ptr id off => .ptr (f id) off
  | .ref id off n sz => .ref (f id) off n sz
mutual
def TV.ren (f : Nat → Nat) : TV → TV
  | .c d => .c (d.ren f)
  | .agg ds => .agg (ds.map (DV.ren f))
  | .tup ts => .tup (TV.rens f ts)
def TV.rens (f : Nat → Nat) : List TV → List TV
  | [] => []
  | t :: ts => t.ren f :: TV.rens f ts
end
def Ob.ren (f : Nat → Nat) (o : Ob) : Ob := ⟨o.e, o.xs.map (DV.ren f)⟩

/-! ### States -/
structure S where
  env : List (Nat × TV)
  hp : List (Nat × Ob)
  nx : Nat

/-- An operation's effect: what it yields; the objects that it looks at; those that it writes, makes and takes away; the names that it gives. -/
structure Eff where
  r : TV
  rd : List Nat
  wr : List (Nat × Option Ob)
  nw : Nat

def Eff.of (r : TV) : Eff := ⟨r, [], [], 0⟩

def upds : List (Nat × Ob) → List (Nat × Option Ob) → List (Nat × Ob)
  | h, [] => h
  | h, (i, some o) :: r => upds (put h i o) r
  | h, (i, none) :: r => upds (del h i) r

def setT (env : List (Nat × TV)) (dst : Option Nat) (r : TV) : List (Nat × TV) :=
  match dst with
  | some d => put env d r
  | none => env
def unT (env : List (Nat × TV)) (dst : Option Nat) : List (Nat × TV) :=
  match dst with
  | some d => put env d (.tup [])
  | none => env
def S.app (s : S) (dst : Option Nat) (e : Eff) : S := ⟨setT s.env dst e.r, upds s.hp e.wr, s.nx + e.nw⟩
def S.skip (s : S) (dst : Option Nat) : S := ⟨unT s.env dst, s.hp, s.nx⟩
def S.known (s : S) (t : Nat) (b : Bool) : S := ⟨put s.env t (.c (.p (.v (.bool b)))), s.hp, s.nx⟩

/-! ### Operands -/
inductive Opd where
  | t (n : Nat)
  | k (v : Value)
  | ka (cs : List Value)
  | f (n : Nat)

def ev (s : S) : Opd → Option TV
  | .t n => look s.env n
  | .k v => some (.c (.p (.v v)))
  | .ka cs => some (.agg (cs.map fun x => .p (.v x)))
  | .f n => some (.c (.p (.v (.func (.func n) #[] #[]))))

/-! ### A contract of a function -/
/-- The arguments and the objects that they lead to (named 0, 1, ..), the result, the objects behind the call. -/
structure Spec where
  args : List TV
  hp : List (Nat × Ob)
  k : Nat
  r : TV
  hp' : List (Nat × Ob)
  k' : Nat

def Meets (P : Program) (f : FuncId) (sp : Spec) : Prop :=
  ∀ (X : Ctx) (w : World) (vs : List Value), HeapOk w X (look sp.hp) → (∀ id, X.dm id → id < sp.k) → TVRs w X sp.args vs →
    Calls P f vs.toArray w fun e w' => ∃ v X', e = .returned v ∧ TVR w' X' sp.r v ∧ HeapOk w' X' (look sp.hp') ∧ EvolP sp.k X w (look sp.hp) X' w' (look sp.hp') ∧ ∀ id, X'.dm id → id < sp.k'

/-- The caller's names of the callee's: those that it was handed, those that it has made, and one that nothing bears. -/
def nameOf (sg : List Nat) (nx new : Nat) (j : Nat) : Nat := if j < sg.length then sg.getD j 0 else nx + min (j - sg.length) new

/-- What is of one value is of the other. -/
def Sub (a b : TV) : Prop := ∀ w X u, TVR w X a u → TVR w X b u
def Subs : List TV → List TV → Prop
  | [], [] => True
  | a :: as, b :: bs => Sub a b ∧ Subs as bs
  | _, _ => False
theorem Sub.refl (a : TV) : Sub a a := fun _ _ _ h => h
theorem Subs.refl : ∀ l, Subs l l
  | [] => trivial
  | _ :: l => ⟨Sub.refl _, Subs.refl l⟩

def evs (s : S) : List Opd → Option (List TV)
  | [] => some []
  | x :: r => match ev s x, evs s r with
    | some d, some ds => some (d :: ds)
    | _, _ => none

/-- The kinds of the cells of a type that '==' compares cell by cell. -/
inductive CK where
  | tb | ti (k : IntKind) | ts
def fitCK : CK → DV → Prop
  | .tb, .p (.v (.bool _)) => True
  | .ti k, .p (.v (.int k' _)) => k' = k
  | .ts, .p (.v (.string _)) => True
  | _, _ => False
/-- So many cells of a kind, so many of another, and so on. -/
def fitCKs : List (Nat × CK) → List DV → Prop
  | [], ds => ds = []
  | (n, c) :: r, ds => n ≤ ds.length ∧ (∀ d ∈ ds.take n, fitCK c d) ∧ fitCKs r (ds.drop n)

/-! ### Operations -/
inductive AOp where
  | mov (x : Opd)
  | pick (c a b : Opd)
  | bin (op : BinOp) (x y : Opd)
  | binw (op : BinOp) (x y : Opd)
  | eqb (neq : Bool) (x y : Opd)
  | eqa (neq : Bool) (cks : List (Nat × CK)) (x y : Opd)
  | un (op : UnOp) (x : Opd)
  | conv (k : IntKind) (x : Opd)
  | same (x : Opd)
  | tostr (x : Opd)
  | tobytes (e : TypeId) (x : Opd)
  | build (zero : List Value) (parts : List (Nat × Nat × Opd))
  | lit (e sz len : Nat) (zero : List Value) (parts : List (Nat × Opd)) (own : Bool)
  | box (e : Nat) (x : Opd)
  | alloc (e : Nat) (zero : List Value)
  | load (n : Option Nat) (x : Opd)
  | store (n : Nat) (x y : Opd)
  | nilck (x : Opd)
  | fld (off : Nat) (x : Opd)
  | get (off : Nat) (n : Option Nat) (x : Opd)
  | idxa (sz : Nat) (x i : Opd)
  | idxr (len sz : Nat) (x i : Opd)
  | idxv (len sz : Nat) (n : Option Nat) (x i : Opd)
  | idxs (x i : Opd)
  | sl (sz : Nat) (x : Opd) (lo hi mx : Option Opd)
  | sls (x : Opd) (lo hi : Option Opd)
  | slr (len sz : Nat) (x : Opd) (lo hi mx : Option Opd)
  | make (e sz bytes : Nat) (zero : List Value) (n c : Opd) (own : Bool)
  | ext (i : Nat) (x : Opd)
  | call (f : Nat) (args : List Opd)
  | app (e sz bytes : Nat) (x y : Opd)
  | apps (e : Nat) (x y : Opd)
  | copy (sz : Nat) (x y : Opd)
  | len (x : Opd)
  | lens (x : Opd)
  | bconv (x : Opd)
  | mm (mx : Bool) (x y : Opd)

/-- What must be the same, asked in a form that works itself out. -/
def andN (x y : Nat) (p : Prop) : Prop :=
  match Nat.beq x y with
  | true => p
  | false => False
def andK (k k' : IntKind) (p : Prop) : Prop :=
  match decide (k = k') with
  | true => p
  | false => False
theorem andN_iff {x y : Nat} {p : Prop} : andN x y p ↔ x = y ∧ p := by
  unfold andN
  cases h : Nat.beq x y with
  | true => simp [Nat.eq_of_beq_eq_true h]
  | false => simp [Nat.ne_of_beq_eq_false h]
theorem andK_iff {k k' : IntKind} {p : Prop} : andK k k' p ↔ k = k' ∧ p := by
  unfold andK
  by_cases h : k = k'
  · simp [h]
  · simp [h]

/-- By cases, in a form that works itself out where the answer is known. -/
def onB (b : Bool) (A B : Prop) : Prop :=
  match b with
  | true => A
  | false => B
def onW (want b : Bool) (A B : Prop) : Prop :=
  match want with
  | true => onB b A B
  | false => onB b B A
theorem onB_intro {b : Bool} {A B : Prop} (h1 : b = true → A) (h2 : b = false → B) : onB b A B := by cases b <;> simp_all [onB]
theorem onB_iff {b : Bool} {A B : Prop} : onB b A B ↔ (b = true → A) ∧ (b = false → B) := by cases b <;> simp [onB]
theorem onW_iff {want b : Bool} {A B : Prop} : onW want b A B ↔ (b = want → A) ∧ (b = !want → B) := by cases want <;> cases b <;> simp [onW, onB]

/-! Values that are asked for. -/
def asI (d : Option TV) (K : IntKind → Int → Prop) : Prop :=
  match d with
  | some (.c (.p (.v (.int k n)))) => K k n
  | _ => False
def asB (d : Option TV) (K : Bool → Prop) : Prop :=
  match d with
  | some (.c (.p (.v (.bool b)))) => K b
  | _ => False
/-- A guard: its answer, or that it was not asked. -/
def asG (d : Option TV) (K : Bool → Prop) (Z : Prop) : Prop :=
  match d with
  | some (.c (.p (.v (.bool b)))) => K b
  | some (.tup []) => Z
  | _ => False
def asS (d : Option TV) (K : ByteArray → Prop) : Prop :=
  match d with
  | some (.c (.p (.v (.string s)))) => K s
  | _ => False
def asV (d : Option TV) (K : Value → Prop) : Prop :=
  match d with
  | some (.c (.p (.v v))) => K v
  | _ => False
def asA (d : Option TV) (K : List DV → Prop) : Prop :=
  match d with
  | some (.agg xs) => K xs
  | _ => False
def asD (d : Option TV) (K : TV → Prop) : Prop :=
  match d with
  | some d => K d
  | none => False
def asC (d : Option TV) (K : DV → Prop) : Prop :=
  match d with
  | some (.c d) => K d
  | _ => False

def retV (v : Value) (K : Eff → Prop) : Prop := K (.of (.c (.p (.v v))))
def retB (b : Bool) (K : Eff → Prop) : Prop := K (.of (.c (.p (.v (.bool b)))))

def binI (op : BinOp) (k : IntKind) (a b : Int) (K : Eff → Prop) : Prop :=
  match op with
  | .add => retV (.int k (k.wrap (a + b))) K
  | .sub => retV (.int k (k.wrap (a - b))) K
  | .mul => retV (.int k (k.wrap (a * b))) K
  | .quo => b ≠ 0 ∧ retV (.int k (k.wrap (a.tdiv b))) K
  | .rem => b ≠ 0 ∧ retV (.int k (a.tmod b)) K
  | .and => retV (.int k (bits .and k a b)) K
  | .or => retV (.int k (bits .or k a b)) K
  | .xor => retV (.int k (bits .xor k a b)) K
  | .andNot => retV (.int k (bits .andNot k a b)) K
  | .eql => retB (decide (a = b)) K
  | .neq => retB (!decide (a = b)) K
  | .lss => retB (decide (a < b)) K
  | .leq => retB (decide (a ≤ b)) K
  | .gtr => retB (decide (b < a)) K
  | .geq => retB (decide (b ≤ a)) K
  | _ => False
def binS (op : BinOp) (a b : ByteArray) (K : Eff → Prop) : Prop :=
  match op with
  | .add => ((a.size + b.size : Nat) : Int) ≤ 9223372036854775807 ∧ retV (.string (a ++ b)) K
  | .eql => retB (a.toList == b.toList) K
  | .neq => retB (!(a.toList == b.toList)) K
  | .lss => retB (Op.bytesLess a.toList b.toList) K
  | .leq => retB (Op.bytesLess a.toList b.toList || a.toList == b.toList) K
  | .gtr => retB (!(Op.bytesLess a.toList b.toList || a.toList == b.toList)) K
  | .geq => retB (!Op.bytesLess a.toList b.toList) K
  | _ => False
def shI (op : BinOp) (k : IntKind) (a b : Int) (K : Eff → Prop) : Prop :=
  0 ≤ b ∧ match op with
  | .shl => retV (.int k (k.wrap (a * 2 ^ min b.toNat k.bits))) K
  | .shr => retV (.int k (a.fdiv (2 ^ min b.toNat k.bits))) K
  | _ => False
def binV (op : BinOp) (x y : Value) (K : Eff → Prop) : Prop :=
  match x, y with
  | .int k a, .int k' b => match op with
    | .shl => shI .shl k a b K
    | .shr => shI .shr k a b K
    | op => andK k k' (binI op k a b K)
  | .string a, .string b => binS op a b K
  | _, _ => False
/-- The same, where sums, differences and products of 64 bits with a sign are asked to fit. -/
def exI (n : Int) (K : Eff → Prop) : Prop := (-9223372036854775808 ≤ n ∧ n ≤ 9223372036854775807) ∧ retV (.int .i64 n) K
def binE (op : BinOp) (x y : Value) (K : Eff → Prop) : Prop :=
  match op with
  | .add => match x, y with
    | .int .i64 a, .int .i64 b => exI (a + b) K
    | x, y => binV .add x y K
  | .sub => match x, y with
    | .int .i64 a, .int .i64 b => exI (a - b) K
    | x, y => binV .sub x y K
  | .mul => match x, y with
    | .int .i64 a, .int .i64 b => exI (a * b) K
    | x, y => binV .mul x y K
  | op => binV op x y K
def unV (op : UnOp) (x : Value) (K : Eff → Prop) : Prop :=
  match op, x with
  | .neg, .int k n => retV (.int k (k.wrap (0 - n))) K
  | .xor, .int k n => retV (.int k (bits .xor k (if k.signed then -1 else k.max) n)) K
  | .not, .bool b => retB (!b) K
  | _, _ => False

def oneOr (n : Option Nat) (xs : List DV) (K : Eff → Prop) : Prop :=
  match n with
  | some m => m ≤ xs.length ∧ K (.of (.agg (xs.take m)))
  | none => match xs with
    | x :: _ => K (.of (.c x))
    | [] => False
def oneOrI (n : Option Nat) (id : Nat) (xs : List DV) (K : Eff → Prop) : Prop :=
  match n with
  | some m => m ≤ xs.length ∧ K ⟨.agg (xs.take m), [id], [], 0⟩
  | none => match xs with
    | x :: _ => K ⟨.c x, [id], [], 0⟩
    | [] => False

def pb1 (b : UInt8) : PV := .v (.int .u8 (b.toNat : Int))
def pb (l : List UInt8) : List PV := l.map pb1

def cellsT : TV → Option (List DV)
  | .c d => some [d]
  | .agg xs => some xs
  | .tup _ => none

def someL {α : Type} (x : Option α) (K : α → Prop) : Prop :=
  match x with
  | some a => K a
  | none => False

/-- Parts laid over cells. -/
def lay (s : S) (cells : List DV) (ps : List (Nat × Nat × Opd)) (K : List DV → Prop) : Prop :=
  match ps with
  | [] => K cells
  | (off, n, x) :: r => asD (ev s x) fun d => someL (cellsT d) fun ds => ds.length = n ∧ off + n ≤ cells.length ∧ lay s (cells.take off ++ ds ++ cells.drop (off + n)) r K
def zeros (z : List Value) : Nat → List DV
  | 0 => []
  | n + 1 => z.map (fun x => DV.p (.v x)) ++ zeros z n
def zerosP (z : List Value) : Nat → List PV
  | 0 => []
  | n + 1 => z.map PV.v ++ zerosP z n

/-- The pure cells behind a slice that is read: of one that stays, or of the call's own. -/
def cellsOf (s : S) (sz : Nat) (d : DV) (K : Nat → List DV → List Nat → Prop) : Prop :=
  match d with
  | .p (.val n cs) => cs.length = n * sz ∧ K n (cs.map DV.p) []
  | .p (.v (.slice none 0 0)) => K 0 [] []
  | .ref id off n z => andN z sz (someL (look s.hp id) fun o => off + n * sz ≤ o.xs.length ∧ K n ((o.xs.drop off).take (n * sz)) [id])
  | _ => False

def optI (s : S) (x : Option Opd) (dflt : Int) (K : Int → Prop) : Prop :=
  match x with
  | none => K dflt
  | some x => asI (ev s x) fun _ n => K n

/-- An append to an object of the call's own, or to nil. -/
def appK (s : S) (nx e sz bytes m : Nat) (cs : List DV) (rd : List Nat) (K : Eff → Prop) (d : DV) : Prop :=
  match d with
  | .ref id off n z => andN z sz (andN off 0 (someL (look s.hp id) fun o => andN o.e e (n * sz ≤ o.xs.length ∧ (n + m) * bytes ≤ 140737488355328 ∧ n + m ≤ 140737488355328 ∧
      K ⟨.c (.ref nx 0 (n + m) sz), id :: rd, [(id, none), (nx, some ⟨e, o.xs.take (n * sz) ++ cs⟩)], 1⟩)))
  | .p (.v (.slice none 0 0)) => m * bytes ≤ 140737488355328 ∧ m ≤ 140737488355328 ∧ K ⟨.c (.ref nx 0 m sz), rd, [(nx, some ⟨e, cs⟩)], 1⟩
  | _ => False

/-- What a call asks for. -/
structure CallOk (P : Program) (s : S) (nx f : Nat) (ds : List TV) (K : Eff → Prop) : Prop where
  ex : ∃ (sp : Spec) (sg : List Nat), Meets P f sp ∧ sp.k = sg.length ∧ sg.Nodup ∧ sp.k ≤ sp.k' ∧
      (∀ p ∈ sp.hp, p.1 < sp.k) ∧ (∀ p ∈ sp.hp', p.1 < sp.k') ∧ (sp.hp'.map (·.1)).Nodup ∧
      Subs ds (TV.rens (nameOf sg nx (sp.k' - sp.k)) sp.args) ∧ (∀ j, j < sp.k → look s.hp (sg.getD j 0) = (look sp.hp j).map (Ob.ren (nameOf sg nx (sp.k' - sp.k))) ∧ (look sp.hp j).isSome) ∧
      K ⟨sp.r.ren (nameOf sg nx (sp.k' - sp.k)), sg, sg.map (fun i => (i, none)) ++ sp.hp'.map (fun p => (nameOf sg nx (sp.k' - sp.k) p.1, some (p.2.ren (nameOf sg nx (sp.k' - sp.k))))), sp.k' - sp.k + 1⟩

def AOp.effN (P : Program) (o : AOp) (s : S) (nx : Nat) (K : Eff → Prop) : Prop :=
  match o with
  | .mov x => asD (ev s x) fun d => K (.of d)
  | .pick c a b => asB (ev s c) fun c => onB c (asD (ev s a) fun d => K (.of d)) (asD (ev s b) fun d => K (.of d))
  | .bin op x y => asV (ev s x) fun x => asV (ev s y) fun y => binE op x y K
  | .binw op x y => asV (ev s x) fun x => asV (ev s y) fun y => binV op x y K
  | .eqb neq x y => asB (ev s x) fun x => asB (ev s y) fun y => retB (if neq then !(x == y) else x == y) K
  | .eqa neq cks x y => asA (ev s x) fun xs => asA (ev s y) fun ys => fitCKs cks xs ∧ fitCKs cks ys ∧ ∀ b : Bool, (b = true ↔ xs = ys) → retB (if neq then !b else b) K
  | .un op x => asV (ev s x) fun x => unV op x K
  | .conv k x => asI (ev s x) fun _ n => retV (.int k (k.wrap n)) K
  | .same x => asS (ev s x) fun b => retV (.string b) K
  | .tostr x => asC (ev s x) fun d => cellsOf s 1 d fun _ cs rd => ∃ bs : List UInt8, cs = (pb bs).map DV.p ∧ K ⟨.c (.p (.v (.string ⟨bs.toArray⟩))), rd, [], 0⟩
  | .tobytes e x => asS (ev s x) fun b => b.size ≤ 140737488355328 ∧ K (.of (.c (.p (.val b.size (pb b.data.toList)))))
  | .build zero parts => lay s (zero.map fun x => .p (.v x)) parts fun xs => K (.of (.agg xs))
  | .lit e sz ln zero parts own => lay s (zeros zero ln) (parts.map fun p => (p.1 * sz, sz, p.2)) fun xs =>
      onB own (K ⟨.c (.ref nx 0 ln sz), [], [(nx, some ⟨e, xs⟩)], 1⟩) (∃ cs : List PV, xs = cs.map DV.p ∧ K (.of (.c (.p (.val ln cs)))))
  | .box e x => asD (ev s x) fun d => someL (cellsT d) fun ds => K ⟨.c (.ptr nx 0), [], [(nx, some ⟨e, ds⟩)], 1⟩
  | .alloc e zero => K ⟨.c (.ptr nx 0), [], [(nx, some ⟨e, zero.map fun x => .p (.v x)⟩)], 1⟩
  | .load n x => asC (ev s x) fun d => match d with
    | .ptr id off => someL (look s.hp id) fun o => oneOrI n id (o.xs.drop off) K
    | .p (.vptr cs) => oneOr n (cs.map DV.p) K
    | _ => False
  | .store n x y => asC (ev s x) fun d => asD (ev s y) fun u => someL (cellsT u) fun ds => match d with
    | .ptr id off => someL (look s.hp id) fun o => ds.length = n ∧ off + n ≤ o.xs.length ∧
        K ⟨.tup [], [id], [(id, some ⟨o.e, o.xs.take off ++ ds ++ o.xs.drop (off + n)⟩)], 0⟩
    | _ => False
  | .nilck x => asC (ev s x) fun d => match d with
    | .ptr id off => K (.of (.c d))
    | .p (.vptr cs) => K (.of (.c d))
    | _ => False
  | .fld off x => asC (ev s x) fun d => match d with
    | .ptr id o => K (.of (.c (.ptr id (o + off))))
    | .p (.vptr cs) => K (.of (.c (.p (.vptr (cs.drop off)))))
    | _ => False
  | .get off n x => asA (ev s x) fun xs => oneOr n (xs.drop off) K
  | .idxa sz x i => asC (ev s x) fun d => asI (ev s i) fun _ i => match d with
    | .p (.val n cs) => (0 ≤ i ∧ i < n) ∧ K (.of (.c (.p (.vptr ((cs.drop (i.toNat * sz)).take sz)))))
    | .ref id off n z => (0 ≤ i ∧ i < n) ∧ K (.of (.c (.ptr id (off + i.toNat * sz))))
    | _ => False
  | .idxr ln sz x i => asC (ev s x) fun d => asI (ev s i) fun _ i => (0 ≤ i ∧ i < ln) ∧ match d with
    | .ptr id off => K (.of (.c (.ptr id (off + i.toNat * sz))))
    | .p (.vptr cs) => K (.of (.c (.p (.vptr (cs.drop (i.toNat * sz))))))
    | _ => False
  | .idxv ln sz n x i => asA (ev s x) fun xs => asI (ev s i) fun _ i => (0 ≤ i ∧ i < ln) ∧ oneOr n (xs.drop (i.toNat * sz)) K
  | .idxs x i => asS (ev s x) fun b => asI (ev s i) fun _ i => ∃ h : 0 ≤ i ∧ i < b.size, retV (.int .u8 ((b[i.toNat]'(by omega)).toNat : Int)) K
  | .sl sz x lo hi mx => asC (ev s x) fun d => match d with
    | .p (.val n cs) => optI s lo 0 fun l => optI s hi n fun h => optI s mx n fun m => (0 ≤ l ∧ l ≤ h ∧ h ≤ m ∧ m ≤ n) ∧ K (.of (.c (.p (.val (h - l).toNat ((cs.drop (l.toNat * sz)).take ((h - l).toNat * sz))))))
    | .ref id off n z => andN z sz (optI s lo 0 fun l => optI s hi n fun h => optI s mx n fun m => (0 ≤ l ∧ l ≤ h ∧ h ≤ m ∧ m ≤ n) ∧ K (.of (.c (.ref id (off + l.toNat * sz) (h - l).toNat sz))))
    | .p (.v (.slice none 0 0)) => optI s lo 0 fun l => optI s hi 0 fun h => optI s mx 0 fun m => (l = 0 ∧ h = 0 ∧ m = 0) ∧ K (.of (.c d))
    | _ => False
  | .sls x lo hi => asS (ev s x) fun b => optI s lo 0 fun l => optI s hi b.size fun h => (0 ≤ l ∧ l ≤ h ∧ h ≤ b.size) ∧ retV (.string (b.extract l.toNat h.toNat)) K
  | .slr ln sz x lo hi mx => asC (ev s x) fun d => match d with
    | .ptr id off => optI s lo 0 fun l => optI s hi ln fun h => optI s mx ln fun m => (0 ≤ l ∧ l ≤ h ∧ h ≤ m ∧ m ≤ ln) ∧
        someL (look s.hp id) fun o => off + ln * sz ≤ o.xs.length ∧ K ⟨.c (.ref id (off + l.toNat * sz) (h - l).toNat sz), [id], [], 0⟩
    | .p (.vptr cs) => optI s lo 0 fun l => optI s hi ln fun h => optI s mx ln fun m => (0 ≤ l ∧ l ≤ h ∧ h ≤ m ∧ m ≤ ln) ∧ K (.of (.c (.p (.val (h - l).toNat ((cs.drop (l.toNat * sz)).take ((h - l).toNat * sz))))))
    | _ => False
  | .make e sz bytes zero n c own => asI (ev s n) fun _ n => asI (ev s c) fun _ c => (0 ≤ n ∧ n ≤ c ∧ c * bytes ≤ 281474976710656 ∧ c ≤ 281474976710656) ∧
      onB own (K ⟨.c (.ref nx 0 n.toNat sz), [], [(nx, some ⟨e, zeros zero n.toNat⟩)], 1⟩) (K (.of (.c (.p (.val n.toNat (zerosP zero n.toNat))))))
  | .ext i x => match ev s x with
    | some (.tup ts) => someL ts[i]? fun d => K (.of d)
    | _ => False
  | .call f args => someL (evs s args) fun ds => CallOk P s nx f ds K
  | .app e sz bytes x y => asC (ev s x) fun d => asC (ev s y) fun u => cellsOf s sz u fun m cs rd => appK s nx e sz bytes m cs rd K d
  | .apps e x y => asC (ev s x) fun d => asS (ev s y) fun b => appK s nx e 1 1 b.size ((pb b.data.toList).map DV.p) [] K d
  | .copy sz x y => asC (ev s x) fun d => asC (ev s y) fun u => cellsOf s sz u fun m cs rd => match d with
    | .ref id off n z => andN z sz (someL (look s.hp id) fun o => off + n * sz ≤ o.xs.length ∧
        K ⟨.c (.p (.v (.int .i64 (min m n : Nat)))), id :: rd, [(id, some ⟨o.e, o.xs.take off ++ cs.take (min m n * sz) ++ o.xs.drop (off + min m n * sz)⟩)], 0⟩)
    | _ => False
  | .len x => match ev s x with
    | some (.c (.p (.val n cs))) => retV (.int .i64 n) K
    | some (.c (.ref id off n z)) => retV (.int .i64 n) K
    | some (.c (.p (.v (.slice none 0 0)))) => retV (.int .i64 0) K
    | _ => False
  | .lens x => asS (ev s x) fun b => retV (.int .i64 b.size) K
  | .bconv x => asC (ev s x) fun d => match d with
    | .ref id off n z => andN z 1 (someL (look s.hp id) fun o => ∃ cs : List PV, o.xs = cs.map DV.p ∧ 0 < n ∧ K ⟨.c (.p (.val n ((cs.drop off).take (n * 1)))), [id], [(id, none)], 0⟩)
    | _ => False
  | .mm mx x y => asI (ev s x) fun k a => asI (ev s y) fun k' b => retV (.int k (if mx then max a b else min a b)) K
abbrev AOp.eff (P : Program) (o : AOp) (s : S) (K : Eff → Prop) : Prop := o.effN P s s.nx K

/-- An operation in its place: where it writes, under which guard (the guard's temporary and the answer that is wanted). -/
structure GOp where
  dst : Option Nat
  g : Option (Nat × Bool)
  op : AOp

def Eff.acc (e : Eff) : List Nat := e.rd ++ e.wr.map (·.1)
def Eff.wrs (e : Eff) : List Nat := e.wr.map (·.1)

/-- The run of operations in the order of the text; what each looked at and wrote is noted, the last first. -/
def run (P : Program) : List GOp → S → List (List Nat × List Nat) → (S → List (List Nat × List Nat) → Prop) → Prop
  | [], s, fp, K => K s fp
  | o :: os, s, fp, K => match o.g with
    | none => o.op.eff P s fun e => run P os (s.app o.dst e) ((e.acc, e.wrs) :: fp) K
    | some (t, want) => asG (look s.env t) (fun b => onW want b
        (o.op.eff P (s.known t want) fun e => run P os ((s.known t want).app o.dst e) ((e.acc, e.wrs) :: fp) K)
        (run P os ((s.known t !want).skip o.dst) (([], []) :: fp) K)) (run P os (s.skip o.dst) (([], []) :: fp) K)

end Go.Proofs.Ytjieenfbfckafaa.Am
/- The operations' effects are the model's: what an effect promises, operands, and the operations that touch no memory. -/
namespace Go.Proofs.Ytjieenfbfckafaa.Am
open Go
set_option linter.unusedVariables false
set_option linter.unusedSimpArgs false

def Opd.looks : Opd → List Nat
  | .t n => [n]
  | _ => []
def optLooks : Option Opd → List Nat
  | some x => x.looks
  | none => []
def listLooks : List Opd → List Nat
  | [] => []
  | x :: r => x.looks ++ listLooks r

def AOp.looks : AOp → List Nat
  | .mov x | .un _ x | .conv _ x | .same x | .tostr x | .tobytes _ x | .box _ x | .load _ x | .nilck x | .fld _ x | .get _ _ x | .ext _ x | .len x | .lens x | .bconv x => x.looks
  | .pick c a b => c.looks ++ a.looks ++ b.looks
  | .bin _ x y | .binw _ x y | .eqb _ x y | .eqa _ _ x y | .store _ x y | .idxa _ x y | .idxr _ _ x y | .idxv _ _ _ x y | .idxs x y | .make _ _ _ _ x y _ | .app _ _ _ x y | .apps _ x y | .copy _ x y | .mm _ x y => x.looks ++ y.looks
  | .build _ parts => listLooks (parts.map (·.2.2))
  | .lit _ _ _ _ parts _ => listLooks (parts.map (·.2))
  | .alloc _ _ => []
  | .sl _ x l h m => x.looks ++ optLooks l ++ optLooks h ++ optLooks m
  | .sls x l h => x.looks ++ optLooks l ++ optLooks h
  | .slr _ _ x l h m => x.looks ++ optLooks l ++ optLooks h ++ optLooks m
  | .call _ args => listLooks args

def Hp.upd (h : Hp) : List (Nat × Option Ob) → Hp
  | [] => h
  | (i, some o) :: r => (h.set i o).upd r
  | (i, none) :: r => (h.del i).upd r

theorem look_upds (l : List (Nat × Ob)) (wr : List (Nat × Option Ob)) : look (upds l wr) = Hp.upd (look l) wr := by
  induction wr generalizing l with
  | nil => rfl
  | cons x r ih =>
    obtain ⟨i, o⟩ := x
    cases o with
    | none =>
      simp only [upds, Hp.upd, ih]
      congr 1
      funext j
      rw [look_del]
      rfl
    | some o =>
      simp only [upds, Hp.upd, ih]
      congr 1
      funext j
      rw [look_put]
      rfl

/-- What an effect promises: whatever the rest of the frame and of the memory holds. -/
def Does (P : Program) (o : Oper) (ls : List Nat) (s : S) (e : Eff) : Prop :=
  ∀ (X : Ctx) (w : World) (a : Act) (h : Hp) (K : Act → World → Prop) (Q : Exit → Act → World → Prop),
    (∀ t ∈ ls, ∀ d, look s.env t = some d → TVR w X d (a.tmps.getD t undef)) → HeapOk w X h → (∀ id ∈ e.acc, id < s.nx → h id = look s.hp id) →
    (∀ id, s.nx ≤ id → id < s.nx + e.nw → ¬ X.dm id) →
    (∀ v w' X', TVR w' X' e.r v → HeapOk w' X' (h.upd e.wr) → Evol X w h X' w' (h.upd e.wr) → (∀ id, X'.dm id → X.dm id ∨ (s.nx ≤ id ∧ id < s.nx + e.nw)) → K (a.put o.dst v) w') →
    o.wp P a w K Q

theorem wp_value {P : Program} {o : Oper} {a : Act} {w w' : World} {K : Act → World → Prop} {Q : Exit → Act → World → Prop} {v : Value}
    (h : (execOp a.eval o).run P w = .ok (.value v) w') (hk : K (a.put o.dst v) w') : o.wp P a w K Q := by
  unfold Oper.wp
  rw [h]
  exact hk
theorem wp_skip' {P : Program} {o : Oper} {a : Act} {w w' : World} {K : Act → World → Prop} {Q : Exit → Act → World → Prop}
    (h : (execOp a.eval o).run P w = .ok .skip w') (hk : K (a.put o.dst undef) w') : o.wp P a w K Q := by
  unfold Oper.wp
  rw [h]
  exact hk

def sameV : Value → Value → Bool
  | .bool a, .bool b => a == b
  | .int k a, .int k' b => decide (k = k') && decide (a = b)
  | .string a, .string b => a.data.toList == b.data.toList
  | .slice none n c, .slice none n' c' => decide (n = n') && decide (c = c')
  | .pointer none, .pointer none => true
  | .map none, .map none => true
  | .nilFunc, .nilFunc => true
  | .nilIface, .nilIface => true
  | _, _ => false
theorem sameV_eq {a b : Value} (h : sameV a b = true) : a = b ∧ a.oneCell' = true := by
  unfold sameV at h
  split at h <;> simp_all [Value.oneCell']
  rename_i a b
  cases a; cases b
  simp_all [Array.toList_inj]
def sameVs : List Value → List Value → Bool
  | [], [] => true
  | a :: as, b :: bs => sameV a b && sameVs as bs
  | _, _ => false
theorem sameVs_eq : ∀ {as bs : List Value}, sameVs as bs = true → as = bs ∧ ∀ a ∈ as, a.oneCell' = true
  | [], [], _ => ⟨rfl, by simp⟩
  | a :: as, b :: bs, h => by
    simp only [sameVs, Bool.and_eq_true] at h
    obtain ⟨rfl, h1⟩ := sameV_eq h.1
    obtain ⟨rfl, h2⟩ := sameVs_eq h.2
    exact ⟨rfl, by simp; exact ⟨h1, h2⟩⟩
  | [], _ :: _, h => by simp [sameVs] at h
  | _ :: _, [], h => by simp [sameVs] at h

def Opd.fits : Opd → Operand → Bool
  | .t n, .tmp m => decide (n = m)
  | .k v, .const u => sameV v u
  | .ka cs, .const (.agg us) => sameVs cs us.toList
  | .f n, .func m => decide (n = m)
  | _, _ => false

theorem VRds_pure {w : World} {X : Ctx} {us : List Value} (h : ∀ u ∈ us, u.oneCell' = true) : VRds w X (us.map fun x => .p (.v x)) us := by
  refine ⟨by simp, fun j d u hd hu => ?_⟩
  rw [List.getElem?_map, hu] at hd
  simp only [Option.map_some, Option.some.injEq] at hd
  subst hd
  exact ⟨rfl, h u (List.mem_of_getElem? hu)⟩

theorem ev_sound {w : World} {X : Ctx} {a : Act} {s : S} {x : Opd} {y : Operand} {d : TV} (hf : x.fits y = true) (he : ∀ t ∈ x.looks, ∀ d, look s.env t = some d → TVR w X d (a.tmps.getD t undef)) (hx : ev s x = some d) : TVR w X d (a.eval y) := by
  cases x with
  | t n =>
    cases y <;> simp [Opd.fits] at hf
    subst hf
    exact he n (by simp [Opd.looks]) d hx
  | k v =>
    cases y <;> simp [Opd.fits] at hf
    obtain ⟨rfl, h1⟩ := sameV_eq hf
    simp only [ev, Option.some.injEq] at hx
    subst hx
    exact ⟨rfl, h1⟩
  | ka cs =>
    cases y with
    | const u =>
      cases u <;> simp [Opd.fits] at hf
      rename_i us
      obtain ⟨e, h1⟩ := sameVs_eq hf
      simp only [ev, Option.some.injEq] at hx
      subst hx
      subst e
      exact ⟨us, rfl, VRds_pure h1⟩
    | _ => simp [Opd.fits] at hf
  | f n =>
    cases y <;> simp [Opd.fits] at hf
    subst hf
    simp only [ev, Option.some.injEq] at hx
    subst hx
    exact ⟨rfl, rfl⟩

/-! What is asked for is there. -/
theorem asI_some {d : Option TV} {K : IntKind → Int → Prop} (h : asI d K) : ∃ k n, d = some (.c (.p (.v (.int k n)))) ∧ K k n := by
  unfold asI at h; split at h
  · exact ⟨_, _, rfl, h⟩
  · exact h.elim
theorem asB_some {d : Option TV} {K : Bool → Prop} (h : asB d K) : ∃ b, d = some (.c (.p (.v (.bool b)))) ∧ K b := by
  unfold asB at h; split at h
  · exact ⟨_, rfl, h⟩
  · exact h.elim
theorem asG_some {d : Option TV} {K : Bool → Prop} {Z : Prop} (h : asG d K Z) : (∃ b, d = some (.c (.p (.v (.bool b)))) ∧ K b) ∨ (d = some (.tup []) ∧ Z) := by
  unfold asG at h; split at h
  · exact .inl ⟨_, rfl, h⟩
  · exact .inr ⟨rfl, h⟩
  · exact h.elim
theorem asS_some {d : Option TV} {K : ByteArray → Prop} (h : asS d K) : ∃ b, d = some (.c (.p (.v (.string b)))) ∧ K b := by
  unfold asS at h; split at h
  · exact ⟨_, rfl, h⟩
  · exact h.elim
theorem asV_some {d : Option TV} {K : Value → Prop} (h : asV d K) : ∃ b, d = some (.c (.p (.v b))) ∧ K b := by
  unfold asV at h; split at h
  · exact ⟨_, rfl, h⟩
  · exact h.elim
theorem asA_some {d : Option TV} {K : List DV → Prop} (h : asA d K) : ∃ b, d = some (.agg b) ∧ K b := by
  unfold asA at h; split at h
  · exact ⟨_, rfl, h⟩
  · exact h.elim
theorem asD_some {d : Option TV} {K : TV → Prop} (h : asD d K) : ∃ b, d = some b ∧ K b := by
  unfold asD at h; split at h
  · exact ⟨_, rfl, h⟩
  · exact h.elim
theorem asC_some {d : Option TV} {K : DV → Prop} (h : asC d K) : ∃ b, d = some (.c b) ∧ K b := by
  unfold asC at h; split at h
  · exact ⟨_, rfl, h⟩
  · exact h.elim
theorem someL_some {α : Type} {x : Option α} {K : α → Prop} (h : someL x K) : ∃ a, x = some a ∧ K a := by
  unfold someL at h; split at h
  · exact ⟨_, rfl, h⟩
  · exact h.elim

/-- An operation that touches no memory, and of which every run yields the same. -/
theorem Does.pure {P : Program} {o : Oper} {ls : List Nat} {s : S} {r : TV}
    (h : ∀ (X : Ctx) (w : World) (a : Act), (∀ t ∈ ls, ∀ d, look s.env t = some d → TVR w X d (a.tmps.getD t undef)) → ∃ v, (execOp a.eval o).run P w = .ok (.value v) w ∧ TVR w X r v) : Does P o ls s (.of r) := by
  intro X w a h0 K Q he ok _ _ hk
  obtain ⟨v, hr, hv⟩ := h X w a he
  exact wp_value hr (hk v w X hv ok (Evol.refl _ _ _) fun id hid => .inl hid)

theorem tvr_v {w : World} {X : Ctx} {x u : Value} (h : TVR w X (.c (.p (.v x))) u) : u = x := h.1
theorem tvr_mk {w : World} {X : Ctx} {x : Value} (h : x.oneCell' = true) : TVR w X (.c (.p (.v x))) x := ⟨rfl, h⟩

section
variable {P : Program} {o : Oper} {s : S} {K : Eff → Prop}

theorem snd_mov {x : Opd} {y : Operand} (ho : o.op = .move y ∨ o.op = .assign y) (hf : x.fits y = true) (h : (AOp.mov x).eff P s K) : ∃ e, Does P o x.looks s e ∧ e.nw = 0 ∧ K e := by
  obtain ⟨d, hd, hK⟩ := asD_some h
  refine ⟨_, Does.pure fun X w a he => ⟨a.eval y, ?_, ev_sound hf he hd⟩, rfl, hK⟩
  rcases ho with ho | ho <;> simp [execOp, ho]

theorem snd_pick {c x y : Opd} {c' x' y' : Operand} (ho : o.op = .pick c' x' y') (hc : c.fits c' = true) (hx : x.fits x' = true) (hy : y.fits y' = true) (h : (AOp.pick c x y).eff P s K) : ∃ e, Does P o (c.looks ++ x.looks ++ y.looks) s e ∧ e.nw = 0 ∧ K e := by
  obtain ⟨b, hb, h⟩ := asB_some h
  cases b with
  | true =>
    obtain ⟨d, hd, hK⟩ := asD_some h
    refine ⟨_, Does.pure fun X w a he => ⟨a.eval x', ?_, ev_sound hx (fun t ht => he t (by simp [ht])) hd⟩, rfl, hK⟩
    have := tvr_v (ev_sound (w := w) (X := X) (a := a) hc (fun t ht => he t (by simp [ht])) hb)
    simp [execOp, ho, this, asBool]
  | false =>
    obtain ⟨d, hd, hK⟩ := asD_some h
    refine ⟨_, Does.pure fun X w a he => ⟨a.eval y', ?_, ev_sound hy (fun t ht => he t (by simp [ht])) hd⟩, rfl, hK⟩
    have := tvr_v (ev_sound (w := w) (X := X) (a := a) hc (fun t ht => he t (by simp [ht])) hb)
    simp [execOp, ho, this, asBool]

theorem pure_v {v : Value} (h1 : v.oneCell' = true) (hK : retV v K) {ls : List Nat} (hrun : ∀ (X : Ctx) (w : World) (a : Act), (∀ t ∈ ls, ∀ d, look s.env t = some d → TVR w X d (a.tmps.getD t undef)) → (execOp a.eval o).run P w = .ok (.value v) w) :
    ∃ e, Does P o ls s e ∧ e.nw = 0 ∧ K e :=
  ⟨_, Does.pure fun X w a he => ⟨v, hrun X w a he, tvr_mk h1⟩, rfl, hK⟩

theorem binI_sound {op : BinOp} {k : IntKind} {x y : Int} (h : binI op k x y K) : ∃ v : Value, v.oneCell' = true ∧ retV v K ∧ (op ≠ .shl → op ≠ .shr → ∀ (t : TypeId) (w : World), (binOp op t (.int k x) (.int k y)).run P w = .ok v w) := by
  cases op <;> simp only [binI] at h <;> first
    | exact h.elim
    | exact ⟨_, rfl, h, fun _ _ t w => by simp [binOp, Op.intArith, Op.intBits, Op.intCmp, bits, bne, BEq.beq]⟩
    | exact ⟨_, rfl, h.2, fun _ _ t w => by simp [binOp, Op.intDiv, h.1]⟩

theorem binS_sound {op : BinOp} {x y : ByteArray} (h : binS op x y K) : ∃ v : Value, v.oneCell' = true ∧ retV v K ∧ (∀ (t : TypeId) (w : World), (binOp op t (.string x) (.string y)).run P w = .ok v w) := by
  cases op <;> simp only [binS] at h <;> first
    | exact h.elim
    | exact ⟨_, rfl, h, fun t w => by simp [binOp, Op.stringOp]⟩
    | exact ⟨_, rfl, h.2, fun t w => by
        have h1 := h.1
        simp only [binOp, Op.stringOp, IntKind.max_i64]
        rw [if_neg (by omega)]
        rfl⟩

theorem binV_sound {op : BinOp} {x y : Value} (h : binV op x y K) : ∃ v : Value, v.oneCell' = true ∧ retV v K ∧ (∀ (t : TypeId) (w : World), (binOp op t x y).run P w = .ok v w) ∧ ∀ (t : TypeId) (p q : Operand), eqGuard op t p q x y = pure () := by
  unfold binV at h
  split at h
  · rename_i k a k' b
    split at h
    · obtain ⟨h0, h⟩ := h
      exact ⟨_, rfl, h, fun t w => by simp [binOp, Op.shift, show ¬ b < 0 by omega], fun t p q => rfl⟩
    · obtain ⟨h0, h⟩ := h
      exact ⟨_, rfl, h, fun t w => by simp [binOp, Op.shift, show ¬ b < 0 by omega], fun t p q => rfl⟩
    · rename_i h1 h2
      obtain ⟨e, h'⟩ := andK_iff.1 h
      subst e
      obtain ⟨v, hv, hK, hr⟩ := binI_sound (P := P) h'
      exact ⟨v, hv, hK, fun t w => hr h1 h2 t w, fun t p q => by cases op <;> rfl⟩
  · obtain ⟨v, hv, hK, hr⟩ := binS_sound (P := P) h
    exact ⟨v, hv, hK, hr, fun t p q => by cases op <;> rfl⟩
  · exact h.elim

theorem wrap64 {n : Int} (h : -9223372036854775808 ≤ n ∧ n ≤ 9223372036854775807) : IntKind.i64.wrap n = n := by
  have e : IntKind.i64.wrap n = if (decide (n % 18446744073709551616 ≥ 9223372036854775808)) = true then n % 18446744073709551616 - 18446744073709551616 else n % 18446744073709551616 := rfl
  rw [e]
  simp only [decide_eq_true_eq]
  split <;> omega
theorem exI_wrap {n : Int} (h : exI n K) : retV (.int .i64 (IntKind.i64.wrap n)) K := by rw [wrap64 h.1]; exact h.2
theorem binE_V {op : BinOp} {x y : Value} (h : binE op x y K) : binV op x y K := by
  unfold binE at h
  split at h
  · split at h
    · unfold binV
      exact andK_iff.2 ⟨rfl, exI_wrap h⟩
    · exact h
  · split at h
    · unfold binV
      exact andK_iff.2 ⟨rfl, exI_wrap h⟩
    · exact h
  · split at h
    · unfold binV
      exact andK_iff.2 ⟨rfl, exI_wrap h⟩
    · exact h
  · exact h

theorem snd_bin {op : BinOp} {x y : Opd} {x' y' : Operand} {t u : TypeId} (ho : o.op = .binOp op t x' y' u) (hx : x.fits x' = true) (hy : y.fits y' = true) (h : (AOp.bin op x y).eff P s K) : ∃ e, Does P o (x.looks ++ y.looks) s e ∧ e.nw = 0 ∧ K e := by
  obtain ⟨xv, hxv, h⟩ := asV_some h
  obtain ⟨yv, hyv, h⟩ := asV_some h
  obtain ⟨v, hv, hK, hr, hg⟩ := binV_sound (P := P) (binE_V h)
  refine pure_v hv hK fun X w a he => ?_
  have h1 := tvr_v (ev_sound (w := w) (X := X) (a := a) hx (fun t ht => he t (by simp [ht])) hxv)
  have h2 := tvr_v (ev_sound (w := w) (X := X) (a := a) hy (fun t ht => he t (by simp [ht])) hyv)
  simp [execOp, ho, h1, h2, hg, hr]

theorem snd_binw {op : BinOp} {x y : Opd} {x' y' : Operand} {t u : TypeId} (ho : o.op = .binOp op t x' y' u) (hx : x.fits x' = true) (hy : y.fits y' = true) (h : (AOp.binw op x y).eff P s K) : ∃ e, Does P o (x.looks ++ y.looks) s e ∧ e.nw = 0 ∧ K e := by
  obtain ⟨xv, hxv, h⟩ := asV_some h
  obtain ⟨yv, hyv, h⟩ := asV_some h
  obtain ⟨v, hv, hK, hr, hg⟩ := binV_sound (P := P) h
  refine pure_v hv hK fun X w a he => ?_
  have h1 := tvr_v (ev_sound (w := w) (X := X) (a := a) hx (fun t ht => he t (by simp [ht])) hxv)
  have h2 := tvr_v (ev_sound (w := w) (X := X) (a := a) hy (fun t ht => he t (by simp [ht])) hyv)
  simp [execOp, ho, h1, h2, hg, hr]

theorem unV_sound {op : UnOp} {x : Value} (h : unV op x K) : ∃ v : Value, v.oneCell' = true ∧ retV v K ∧ (∀ (w : World), (Op.unary op x).run P w = .ok v w) := by
  unfold unV at h
  split at h
  · exact ⟨_, rfl, h, fun w => by simp [Op.unary, Op.intArith]⟩
  · exact ⟨_, rfl, h, fun w => by simp [Op.unary, Op.intBits, bits]⟩
  · exact ⟨_, rfl, h, fun w => by simp [Op.unary]⟩
  · exact h.elim

theorem snd_un {op : UnOp} {x : Opd} {x' : Operand} {t : TypeId} (ho : o.op = .unOp op t x') (hx : x.fits x' = true) (h : (AOp.un op x).eff P s K) : ∃ e, Does P o x.looks s e ∧ e.nw = 0 ∧ K e := by
  obtain ⟨xv, hxv, h⟩ := asV_some h
  obtain ⟨v, hv, hK, hr⟩ := unV_sound (P := P) h
  refine pure_v hv hK fun X w a he => ?_
  have h1 := tvr_v (ev_sound (w := w) (X := X) (a := a) hx he hxv)
  simp [execOp, ho, h1, hr]

theorem maxDepth_succ : ∃ d, Op.maxDepth = d + 1 := ⟨9999, rfl⟩
theorem run_equal_bool {t : TypeId} (ht : P.underlying t = some .bool) (x y : Bool) (w : World) : (Op.equal t (.bool x) (.bool y)).run P w = .ok (x == y) w := by
  obtain ⟨d, hd⟩ := maxDepth_succ
  unfold Op.equal
  rw [hd]
  simp only [Op.equalIn, Sem.run_bind, run_underlying ht, Result.andThen_ok, Sem.run_pure]

theorem snd_eqb {neq : Bool} {x y : Opd} {x' y' : Operand} {t u : TypeId} (ho : o.op = .binOp (if neq then .neq else .eql) t x' y' u) (ht : P.underlying t = some .bool) (hx : x.fits x' = true) (hy : y.fits y' = true) (h : (AOp.eqb neq x y).eff P s K) :
    ∃ e, Does P o (x.looks ++ y.looks) s e ∧ e.nw = 0 ∧ K e := by
  obtain ⟨xv, hxv, h⟩ := asB_some h
  obtain ⟨yv, hyv, h⟩ := asB_some h
  refine pure_v (v := .bool _) rfl h fun X w a he => ?_
  have h1 := tvr_v (ev_sound (w := w) (X := X) (a := a) hx (fun t ht => he t (by simp [ht])) hxv)
  have h2 := tvr_v (ev_sound (w := w) (X := X) (a := a) hy (fun t ht => he t (by simp [ht])) hyv)
  have hg : ∀ op, eqGuard op t x' y' (.bool xv) (.bool yv) = pure () := fun op => by cases op <;> rfl
  have hb1 : binOp .eql t (.bool xv) (.bool yv) = (do pure (.bool (← Op.equal t (.bool xv) (.bool yv)))) := rfl
  have hb2 : binOp .neq t (.bool xv) (.bool yv) = (do pure (.bool (!(← Op.equal t (.bool xv) (.bool yv))))) := rfl
  cases neq
  · simp only [Bool.false_eq_true, if_false] at ho
    simp only [execOp, ho, h1, h2, hg, hb1, Sem.run_bind, Sem.run_pure, Result.andThen_ok, run_equal_bool ht, Bool.false_eq_true, if_false]
  · simp only [if_true] at ho
    simp only [execOp, ho, h1, h2, hg, hb2, Sem.run_bind, Sem.run_pure, Result.andThen_ok, run_equal_bool ht, if_true]

theorem snd_conv {k : IntKind} {x : Opd} {x' : Operand} {t u : TypeId} (ho : o.op = .convert t u x') (hs : (P.underlying t).isSome = true) (hu : P.underlying u = some (.int k)) (hx : x.fits x' = true) (h : (AOp.conv k x).eff P s K) :
    ∃ e, Does P o x.looks s e ∧ e.nw = 0 ∧ K e := by
  obtain ⟨q, n, hxv, h⟩ := asI_some h
  refine pure_v rfl h fun X w a he => ?_
  have h1 := tvr_v (ev_sound (w := w) (X := X) (a := a) hx he hxv)
  obtain ⟨d, hd⟩ := Option.isSome_iff_exists.1 hs
  simp [execOp, ho, h1, convert, run_underlying hd, run_underlying hu, Conv.intToInt]

theorem snd_same {x : Opd} {x' : Operand} {t u : TypeId} (ho : o.op = .convert t u x') (hs : (P.underlying t).isSome = true) (hu : P.underlying u = some .string) (hx : x.fits x' = true) (h : (AOp.same x).eff P s K) :
    ∃ e, Does P o x.looks s e ∧ e.nw = 0 ∧ K e := by
  obtain ⟨b, hxv, h⟩ := asS_some h
  refine pure_v rfl h fun X w a he => ?_
  have h1 := tvr_v (ev_sound (w := w) (X := X) (a := a) hx he hxv)
  obtain ⟨d, hd⟩ := Option.isSome_iff_exists.1 hs
  simp [execOp, ho, h1, convert, run_underlying hd, run_underlying hu]

theorem snd_idxs {x y : Opd} {x' y' : Operand} {t : TypeId} (ho : o.op = .index t x' y') (ht : P.underlying t = some .string) (hx : x.fits x' = true) (hy : y.fits y' = true) (h : (AOp.idxs x y).eff P s K) :
    ∃ e, Does P o (x.looks ++ y.looks) s e ∧ e.nw = 0 ∧ K e := by
  obtain ⟨b, hxv, h⟩ := asS_some h
  obtain ⟨q, n, hyv, h⟩ := asI_some h
  obtain ⟨⟨h0, h3⟩, h⟩ := h
  refine pure_v rfl h fun X w a he => ?_
  have h1 := tvr_v (ev_sound (w := w) (X := X) (a := a) hx (fun t ht => he t (by simp [ht])) hxv)
  have h2 := tvr_v (ev_sound (w := w) (X := X) (a := a) hy (fun t ht => he t (by simp [ht])) hyv)
  have h4 : n.toNat < b.size := by omega
  have h5 : b[n.toNat]? = some b[n.toNat] := by simp [h4]
  simp [execOp, ho, h1, h2, Instr.index, asIntOf, run_underlying ht, h0, h5]

end
end Go.Proofs.Ytjieenfbfckafaa.Am
/- The operations' effects are the model's: reading and addressing memory. -/
namespace Go.Proofs.Ytjieenfbfckafaa.Am
open Go
set_option linter.unusedVariables false
set_option linter.unusedSimpArgs false

/-! ### Cells -/
def CellsAt (w : World) (X : Ctx) (b o : Nat) (xs : List DV) : Prop := ∀ (j : Nat) d, xs[j]? = some d → ∃ u, w.cell? ⟨b, o + j, none⟩ = some u ∧ VRd w X d u

theorem CellsAt.vals {w : World} {X : Ctx} {b : Nat} : ∀ {xs : List DV} {o : Nat}, CellsAt w X b o xs →
    ∃ us : List Value, us.length = xs.length ∧ (∀ (j : Nat) u, us[j]? = some u → w.cell? ⟨b, o + j, none⟩ = some u) ∧ VRds w X xs us
  | [], o, _ => ⟨[], rfl, fun j u h => by simp at h, rfl, fun j d u h => by simp at h⟩
  | x :: xs, o, h => by
    obtain ⟨u, hu, hx⟩ := h 0 x rfl
    obtain ⟨us, h1, h2, h3⟩ := CellsAt.vals (xs := xs) (o := o + 1) fun j d hd => by
      obtain ⟨v, hv, hd'⟩ := h (j + 1) d (by simpa using hd)
      exact ⟨v, by simpa [Nat.add_assoc, Nat.add_comm 1 j] using hv, hd'⟩
    refine ⟨u :: us, by simp [h1], ?_, by simp [h3.1], ?_⟩
    · intro j v hv
      cases j with
      | zero => simp at hv; subst hv; simpa using hu
      | succ j => have := h2 j v (by simpa using hv); simpa [Nat.add_assoc, Nat.add_comm 1 j] using this
    · intro j d v hd hv
      cases j with
      | zero => simp at hd hv; subst hd; subst hv; exact hx
      | succ j => exact h3.2 j d v (by simpa using hd) (by simpa using hv)

theorem VRc.cellsAt {w : World} {X : Ctx} {b o : Nat} {cs : List PV} (h : VRc w X.I b o cs) : CellsAt w X b o (cs.map DV.p) := by
  intro j d hd
  rw [List.getElem?_map] at hd
  obtain ⟨x, hx, rfl⟩ := Option.map_eq_some_iff.1 hd
  exact VRc_get.1 h j x hx

theorem ObjR.cellsAt {w : World} {X : Ctx} {id b : Nat} {o : Ob} (h : ObjR w X id o) (hm : X.mu id = some b) (off : Nat) : CellsAt w X b off (o.xs.drop off) := by
  have h := h.2
  rw [hm] at h
  obtain ⟨c, h1, h2, h3⟩ := h
  intro j d hd
  rw [List.getElem?_drop] at hd
  have hlt : off + j < c.size := Nat.lt_of_lt_of_le (List.getElem?_eq_some_iff.1 hd).1 h2
  refine ⟨c[off + j], ?_, h3 (off + j) d _ hd (by simp [hlt])⟩
  rw [cell_of_row w b (off + j) c o.e (0, 0) h1]
  simp [hlt]

theorem CellsAt.sub {w : World} {X : Ctx} {b o : Nat} {xs : List DV} (h : CellsAt w X b o xs) (k n : Nat) : CellsAt w X b (o + k) ((xs.drop k).take n) := by
  intro j d hd
  rw [List.getElem?_take] at hd
  split at hd
  · rw [List.getElem?_drop] at hd
    obtain ⟨u, hu, hd'⟩ := h (k + j) d hd
    exact ⟨u, by rw [Nat.add_assoc]; exact hu, hd'⟩
  · cases hd
theorem CellsAt.dropN {w : World} {X : Ctx} {b o : Nat} {xs : List DV} (h : CellsAt w X b o xs) (k : Nat) : CellsAt w X b (o + k) (xs.drop k) := by
  intro j d hd
  rw [List.getElem?_drop] at hd
  obtain ⟨u, hu, hd'⟩ := h (k + j) d hd
  exact ⟨u, by rw [Nat.add_assoc]; exact hu, hd'⟩
theorem CellsAt.takeN {w : World} {X : Ctx} {b o : Nat} {xs : List DV} (h : CellsAt w X b o xs) (n : Nat) : CellsAt w X b o (xs.take n) := by
  have := h.sub 0 n
  simpa using this
theorem VRc.sub {w : World} {I : Nat → Prop} {b o : Nat} {cs : List PV} (h : VRc w I b o cs) (k n : Nat) : VRc w I b (o + k) ((cs.drop k).take n) := by
  rw [VRc_get] at h ⊢
  intro j d hd
  rw [List.getElem?_take] at hd
  split at hd
  · rw [List.getElem?_drop] at hd
    obtain ⟨u, hu, hd'⟩ := h (k + j) d hd
    exact ⟨u, by rw [Nat.add_assoc]; exact hu, hd'⟩
  · cases hd
theorem VRc.dropN {w : World} {I : Nat → Prop} {b o : Nat} {cs : List PV} (h : VRc w I b o cs) (k : Nat) : VRc w I b (o + k) (cs.drop k) := by
  have := h.sub k cs.length
  rwa [List.take_of_length_le (by simp)] at this

theorem VRds.sub {w : World} {X : Ctx} {ds : List DV} {us : List Value} (h : VRds w X ds us) (k n : Nat) : VRds w X ((ds.drop k).take n) ((us.drop k).take n) := by
  refine ⟨by simp [h.1], fun j d u hd hu => ?_⟩
  rw [List.getElem?_take] at hd hu
  split at hd
  · rename_i hj
    rw [if_pos hj, List.getElem?_drop] at hu
    rw [List.getElem?_drop] at hd
    exact h.2 (k + j) d u hd hu
  · cases hd

/-! ### Sizes -/
def aggOf (P : Program) (t : TypeId) : Bool :=
  match P.underlying t with
  | some (.struct _) | some (.array _ _) => true
  | _ => false
def szFits (P : Program) (t : TypeId) (n : Option Nat) : Bool :=
  match n with
  | some m => aggOf P t && decide ((P.info? t).map (·.size) = some m)
  | none => (P.underlying t).isSome && !aggOf P t

section
variable {P : Program} {o : Oper} {s : S} {K : Eff → Prop}

theorem run_isAgg' {t : TypeId} {n : Option Nat} (h : szFits P t n = true) (w : World) : (isAgg t).run P w = .ok n.isSome w := by
  cases n with
  | some m =>
    simp only [szFits, Bool.and_eq_true] at h
    have h1 := h.1
    unfold aggOf at h1
    split at h1
    · rename_i fs hu; simp [isAgg, run_underlying hu]
    · rename_i k e hu; simp [isAgg, run_underlying hu]
    · cases h1
  | none =>
    simp only [szFits, Bool.and_eq_true, Bool.not_eq_true'] at h
    obtain ⟨d, hd⟩ := Option.isSome_iff_exists.1 h.1
    have h2 := h.2
    unfold aggOf at h2
    rw [hd] at h2
    unfold isAgg
    simp only [Sem.run_bind, run_underlying hd, Result.andThen_ok]
    split at h2 <;> first
      | (cases h2; done)
      | (split <;> first | rfl | simp_all)

theorem run_sizeOf' {t : TypeId} {m : Nat} (h : (P.info? t).map (·.size) = some m) (w : World) : (sizeOf t).run P w = .ok m w := by
  obtain ⟨i, hi, rfl⟩ := Option.map_eq_some_iff.1 h
  simp [sizeOf, typeInfo, hi]
theorem szFits_size {t : TypeId} {m : Nat} (h : szFits P t (some m) = true) : (P.info? t).map (·.size) = some m := by
  simp only [szFits, Bool.and_eq_true, decide_eq_true_eq] at h
  exact h.2

def Took (n : Option Nat) (xs : List DV) (r : TV) : Prop :=
  match n with
  | some m => m ≤ xs.length ∧ r = .agg (xs.take m)
  | none => ∃ x, xs[0]? = some x ∧ r = .c x

/-- Reading a variable. -/
theorem run_loadVar' {w : World} {X : Ctx} {t : TypeId} {n : Option Nat} (hf : szFits P t n = true) {b off : Nat} {xs : List DV} (h : CellsAt w X b off xs) {r : TV}
    (hr : Took n xs r) :
    ∃ v, (loadVar t ⟨b, off, none⟩).run P w = .ok v w ∧ TVR w X r v := by
  cases n with
  | some m =>
    obtain ⟨h1, rfl⟩ := hr
    obtain ⟨us, hl, hc, hv⟩ := (h.takeN m).vals
    have hlen : us.length = m := by rw [hl, List.length_take]; omega
    have hrun := run_loadCells_list (P := P) w ⟨b, off, none⟩ us fun j v hj => by rw [Addr.add_lit]; exact hc j v hj
    rw [hlen] at hrun
    refine ⟨.agg us.toArray, ?_, us.toArray, rfl, hv⟩
    simp [loadVar, run_isAgg' hf, run_sizeOf' (szFits_size hf), hrun]
  | none =>
    obtain ⟨x, hx, rfl⟩ := hr
    obtain ⟨u, hu, hd⟩ := h 0 x hx
    refine ⟨u, ?_, hd⟩
    simp only [Nat.add_zero] at hu
    simp [loadVar, run_isAgg' hf, hu]

theorem oneOr_some {n : Option Nat} {xs : List DV} (h : oneOr n xs K) : ∃ r, Took n xs r ∧ K (.of r) := by
  cases n with
  | some m => exact ⟨_, ⟨h.1, rfl⟩, h.2⟩
  | none =>
    cases xs with
    | nil => exact h.elim
    | cons x xs => exact ⟨_, ⟨x, rfl, rfl⟩, h⟩
theorem oneOrI_some {n : Option Nat} {id : Nat} {xs : List DV} (h : oneOrI n id xs K) : ∃ r, Took n xs r ∧ K ⟨r, [id], [], 0⟩ := by
  cases n with
  | some m => exact ⟨_, ⟨h.1, rfl⟩, h.2⟩
  | none =>
    cases xs with
    | nil => exact h.elim
    | cons x xs => exact ⟨_, ⟨x, rfl, rfl⟩, h⟩

/-- An effect that writes nothing. -/
theorem Does.reads {ls : List Nat} {r : TV} {rd : List Nat}
    (h : ∀ (X : Ctx) (w : World) (a : Act) (h : Hp), (∀ t ∈ ls, ∀ d, look s.env t = some d → TVR w X d (a.tmps.getD t undef)) → HeapOk w X h → (∀ id ∈ rd, id < s.nx → h id = look s.hp id) →
      ∃ v, (execOp a.eval o).run P w = .ok (.value v) w ∧ TVR w X r v) : Does P o ls s ⟨r, rd, [], 0⟩ := by
  intro X w a h0 K Q he ok hacc _ hk
  obtain ⟨v, hr, hv⟩ := h X w a h0 he ok (fun id hid hlt => hacc id (by simp [Eff.acc, hid]) hlt)
  exact wp_value hr (hk v w X hv ok (Evol.refl _ _ _) fun id hid => .inl hid)

/-- Every object that the state knows has a name below the next. -/
def S.wf (s : S) : Prop := ∀ id o, look s.hp id = some o → id < s.nx

theorem snd_load {n : Option Nat} {x : Opd} {x' : Operand} {t : TypeId} (ho : o.op = .load t x') (hx : x.fits x' = true) (hf : szFits P t n = true) (wf : s.wf) (h : (AOp.load n x).eff P s K) :
    ∃ e, Does P o x.looks s e ∧ K e := by
  obtain ⟨d, hd, h⟩ := asC_some h
  cases d with
  | ptr id off =>
    obtain ⟨ob, hob, h⟩ := someL_some h
    obtain ⟨r, hr, hK⟩ := oneOrI_some h
    refine ⟨_, Does.reads fun X w a h he ok hacc => ?_, hK⟩
    obtain ⟨_, b, hm, hp⟩ := ev_sound (w := w) (X := X) (a := a) hx he hd
    have hid : h id = some ob := by rw [hacc id (by simp) (wf id ob hob)]; exact hob
    obtain ⟨v, hv, hv'⟩ := run_loadVar' (P := P) hf ((ok.obj id ob hid).cellsAt hm off) hr
    exact ⟨v, by simp [execOp, ho, hp, Instr.loadAt, Instr.sureAddr, hv], hv'⟩
  | p x0 =>
    cases x0 with
    | vptr cs =>
      obtain ⟨r, hr, hK⟩ := oneOr_some h
      refine ⟨_, Does.pure fun X w a he => ?_, hK⟩
      obtain ⟨b, off, hp, hI, hc⟩ := ev_sound (w := w) (X := X) (a := a) hx he hd
      obtain ⟨v, hv, hv'⟩ := run_loadVar' (P := P) hf (VRc.cellsAt (X := X) hc) hr
      exact ⟨v, by simp [execOp, ho, hp, Instr.loadAt, Instr.sureAddr, hv], hv'⟩
    | _ => exact h.elim
  | ref => exact h.elim

theorem snd_nilck {x : Opd} {x' : Operand} (ho : o.op = .nilCheck x') (hx : x.fits x' = true) (h : (AOp.nilck x).eff P s K) :
    ∃ e, Does P o x.looks s e ∧ K e := by
  obtain ⟨d, hd, h⟩ := asC_some h
  cases d with
  | ptr id off =>
    refine ⟨_, Does.pure fun X w a he => ?_, h⟩
    have hv := ev_sound (w := w) (X := X) (a := a) hx he hd
    have hv2 := hv
    obtain ⟨_, b, hm, hp⟩ := hv2
    exact ⟨_, by simp [execOp, ho, hp], hp ▸ hv⟩
  | p x0 =>
    cases x0 with
    | vptr cs =>
      refine ⟨_, Does.pure fun X w a he => ?_, h⟩
      have hv := ev_sound (w := w) (X := X) (a := a) hx he hd
      have hv2 := hv
      obtain ⟨b, off, hp, hI, hc⟩ := hv2
      exact ⟨_, by simp [execOp, ho, hp], hp ▸ hv⟩
    | _ => exact h.elim
  | ref => exact h.elim

def fldFits (P : Program) (t : TypeId) (f off : Nat) : Bool :=
  match P.underlying t with
  | some (.struct fs) => match fs[f]? with
    | some fd => decide (fd.offset = off) && (match P.info? fd.type with | some i => decide (i.size ≠ 0) | none => false)
    | none => false
  | _ => false
theorem fldFits_some {t : TypeId} {f off : Nat} (h : fldFits P t f off = true) : ∃ fs fd i, P.underlying t = some (.struct fs) ∧ fs[f]? = some fd ∧ fd.offset = off ∧ P.info? fd.type = some i ∧ i.size ≠ 0 := by
  unfold fldFits at h
  split at h
  · rename_i fs hu
    split at h
    · rename_i fd hfd
      simp only [Bool.and_eq_true, decide_eq_true_eq] at h
      split at h
      · rename_i i hi
        exact ⟨fs, fd, i, hu, hfd, h.1, hi, by simpa using h.2⟩
      · cases h.2
    · cases h
  · cases h

theorem run_fieldAt {t : TypeId} {f off : Nat} (h : fldFits P t f off = true) (b q : Nat) (w : World) : (Instr.fieldAt t (.pointer (some ⟨b, q, none⟩)) f).run P w = .ok (.pointer (some ⟨b, q + off, none⟩)) w := by
  obtain ⟨fs, fd, i, h1, h2, h3, h4, h5⟩ := fldFits_some h
  have hs : (sizeOf fd.type).run P w = .ok i.size w := run_sizeOf' (by simp [h4]) w
  simp [Instr.fieldAt, run_underlying h1, h2, Instr.sureAddr, fieldPlace, hs, h5, h3, Addr.add_lit]

theorem snd_fld {off : Nat} {x : Opd} {x' : Operand} {t : TypeId} {f : Nat} (ho : o.op = .fieldAddr t x' f) (hx : x.fits x' = true) (hf : fldFits P t f off = true) (h : (AOp.fld off x).eff P s K) :
    ∃ e, Does P o x.looks s e ∧ K e := by
  obtain ⟨d, hd, h⟩ := asC_some h
  cases d with
  | ptr id q =>
    refine ⟨_, Does.pure fun X w a he => ?_, h⟩
    obtain ⟨hdm, b, hm, hp⟩ := ev_sound (w := w) (X := X) (a := a) hx he hd
    exact ⟨_, by simp [execOp, ho, hp, run_fieldAt hf], hdm, b, hm, rfl⟩
  | p x0 =>
    cases x0 with
    | vptr cs =>
      refine ⟨_, Does.pure fun X w a he => ?_, h⟩
      obtain ⟨b, q, hp, hI, hc⟩ := ev_sound (w := w) (X := X) (a := a) hx he hd
      exact ⟨_, by simp [execOp, ho, hp, run_fieldAt hf], b, q + off, rfl, hI, hc.dropN off⟩
    | _ => exact h.elim
  | ref => exact h.elim

/-- Parts of aggregates. -/
theorem run_part' {w : World} {X : Ctx} {t : TypeId} {n : Option Nat} (hf : szFits P t n = true) {cs : Array Value} {off : Nat} {xs : List DV} (h : VRds w X xs cs.toList) {r : TV}
    (hr : Took n (xs.drop off) r) :
    ∃ v, (part t cs off).run P w = .ok v w ∧ TVR w X r v := by
  cases n with
  | some m =>
    obtain ⟨h1, rfl⟩ := hr
    refine ⟨.agg (cs.extract off (off + m)), ?_, _, rfl, ?_⟩
    · simp [part, run_isAgg' hf, run_sizeOf' (szFits_size hf)]
    · have := h.sub off m
      simpa [Array.toList_extract, List.extract_eq_take_drop] using this
  | none =>
    obtain ⟨x, hx, rfl⟩ := hr
    rw [List.getElem?_drop, Nat.add_zero] at hx
    have hlt : off < cs.toList.length := by rw [← h.1]; exact (List.getElem?_eq_some_iff.1 hx).1
    have hcs : cs[off]? = some cs.toList[off] := by simp at hlt; simp [hlt]
    refine ⟨cs.toList[off], ?_, h.2 off x _ hx (List.getElem?_eq_getElem hlt)⟩
    simp only [part, Sem.run_bind, run_isAgg' hf, Result.andThen_ok, Option.isSome_none, Bool.false_eq_true, if_false, hcs, Sem.run_pure]

def getFits (P : Program) (t : TypeId) (f off : Nat) (n : Option Nat) : Bool :=
  match P.underlying t with
  | some (.struct fs) => match fs[f]? with
    | some fd => decide (fd.offset = off) && szFits P fd.type n
    | none => false
  | _ => false

theorem snd_get {off : Nat} {n : Option Nat} {x : Opd} {x' : Operand} {t : TypeId} {f : Nat} (ho : o.op = .field t x' f) (hx : x.fits x' = true) (hf : getFits P t f off n = true) (h : (AOp.get off n x).eff P s K) :
    ∃ e, Does P o x.looks s e ∧ K e := by
  obtain ⟨xs, hd, h⟩ := asA_some h
  obtain ⟨r, hr, hK⟩ := oneOr_some h
  refine ⟨_, Does.pure fun X w a he => ?_, hK⟩
  obtain ⟨cs, hp, hv⟩ := ev_sound (w := w) (X := X) (a := a) hx he hd
  unfold getFits at hf
  split at hf
  · rename_i fs hu
    split at hf
    · rename_i fd hfd
      simp only [Bool.and_eq_true, decide_eq_true_eq] at hf
      obtain ⟨hoff, hsz⟩ := hf
      subst hoff
      obtain ⟨v, hrun, hv'⟩ := run_part' (P := P) hsz hv hr
      exact ⟨v, by simp [execOp, ho, hp, Instr.field, run_underlying hu, hfd, asAgg, hrun], hv'⟩
    · cases hf
  · cases hf

def idxvFits (P : Program) (t : TypeId) (ln sz : Nat) (n : Option Nat) : Bool :=
  match P.underlying t with
  | some (.array m e) => decide (m = ln) && decide ((P.info? e).map (·.size) = some sz) && szFits P e n
  | _ => false

theorem snd_idxv {ln sz : Nat} {n : Option Nat} {x y : Opd} {x' y' : Operand} {t : TypeId} (ho : o.op = .index t x' y') (hx : x.fits x' = true) (hy : y.fits y' = true) (hf : idxvFits P t ln sz n = true) (h : (AOp.idxv ln sz n x y).eff P s K) :
    ∃ e, Does P o (x.looks ++ y.looks) s e ∧ K e := by
  obtain ⟨xs, hd, h⟩ := asA_some h
  obtain ⟨k, i, hi, h⟩ := asI_some h
  obtain ⟨⟨h0, h1⟩, h⟩ := h
  obtain ⟨r, hr, hK⟩ := oneOr_some h
  refine ⟨_, Does.pure fun X w a he => ?_, hK⟩
  obtain ⟨cs, hp, hv⟩ := ev_sound (w := w) (X := X) (a := a) hx (fun t ht => he t (by simp [ht])) hd
  have hq := tvr_v (ev_sound (w := w) (X := X) (a := a) hy (fun t ht => he t (by simp [ht])) hi)
  unfold idxvFits at hf
  split at hf
  · rename_i m e hu
    simp only [Bool.and_eq_true, decide_eq_true_eq] at hf
    obtain ⟨⟨rfl, hsz⟩, hn⟩ := hf
    obtain ⟨v, hrun, hv'⟩ := run_part' (P := P) hn hv hr
    exact ⟨v, by simp [execOp, ho, hp, hq, Instr.index, asIntOf, run_underlying hu, h0, h1, run_sizeOf' hsz, hrun], hv'⟩
  · cases hf

def idxaFits (P : Program) (t : TypeId) (sz : Nat) : Bool :=
  match P.underlying t with
  | some (.slice e) => decide ((P.info? e).map (·.size) = some sz)
  | _ => false
theorem idxaFits_some {t : TypeId} {sz : Nat} (h : idxaFits P t sz = true) : ∃ e, P.underlying t = some (.slice e) ∧ (P.info? e).map (·.size) = some sz := by
  unfold idxaFits at h
  split at h
  · rename_i e hu; exact ⟨e, hu, by simpa using h⟩
  · cases h

theorem run_indexAt' {t : TypeId} {sz : Nat} (h : idxaFits P t sz = true) (b q n cap : Nat) (k : IntKind) (i : Int) (h0 : 0 ≤ i) (h1 : i < n) (w : World) :
    (Instr.indexAt t (.slice (some ⟨b, q, none⟩) n cap) (.int k i)).run P w = .ok (.pointer (some ⟨b, q + i.toNat * sz, none⟩)) w := by
  obtain ⟨e, hu, hs⟩ := idxaFits_some h
  simp [Instr.indexAt, asIntOf, run_underlying hu, h0, h1, run_sizeOf' hs, Addr.add_lit]

theorem snd_idxa {sz : Nat} {x y : Opd} {x' y' : Operand} {t : TypeId} (ho : o.op = .indexAddr t x' y') (hx : x.fits x' = true) (hy : y.fits y' = true) (hf : idxaFits P t sz = true) (h : (AOp.idxa sz x y).eff P s K) :
    ∃ e, Does P o (x.looks ++ y.looks) s e ∧ K e := by
  obtain ⟨d, hd, h⟩ := asC_some h
  obtain ⟨k, i, hi, h⟩ := asI_some h
  cases d with
  | ref id off n z =>
    obtain ⟨⟨h0, h1⟩, h⟩ := h
    refine ⟨_, Does.pure fun X w a he => ?_, h⟩
    obtain ⟨hdm, h2⟩ := ev_sound (w := w) (X := X) (a := a) hx (fun t ht => he t (by simp [ht])) hd
    have hq := tvr_v (ev_sound (w := w) (X := X) (a := a) hy (fun t ht => he t (by simp [ht])) hi)
    rcases h2 with ⟨_, h2, _⟩ | ⟨b, off', cap, hm, hp, hn, _, hoff, hc⟩
    · omega
    · have : off' = off := by rcases hoff with h3 | h3 <;> omega
      subst this
      exact ⟨_, by simp [execOp, ho, hp, hq, run_indexAt' hf _ _ _ _ _ _ h0 h1], hdm, b, hm, rfl⟩
  | p x0 =>
    cases x0 with
    | val n cs =>
      obtain ⟨⟨h0, h1⟩, h⟩ := h
      refine ⟨_, Does.pure fun X w a he => ?_, h⟩
      obtain ⟨A, cap, hp, hn, h2⟩ := ev_sound (w := w) (X := X) (a := a) hx (fun t ht => he t (by simp [ht])) hd
      have hq := tvr_v (ev_sound (w := w) (X := X) (a := a) hy (fun t ht => he t (by simp [ht])) hi)
      rcases h2 with ⟨h2, _⟩ | ⟨b, q, rfl, hI, hc⟩
      · omega
      · exact ⟨_, by simp [execOp, ho, hp, hq, run_indexAt' hf _ _ _ _ _ _ h0 h1], b, q + i.toNat * sz, rfl, hI, hc.sub _ _⟩
    | _ => exact h.elim
  | ptr => exact h.elim

def idxrFits (P : Program) (t : TypeId) (ln sz : Nat) : Bool :=
  match P.underlying t with
  | some (.array m e) => decide (m = ln) && decide ((P.info? e).map (·.size) = some sz)
  | _ => false

theorem run_indexAtR {t : TypeId} {ln sz : Nat} (h : idxrFits P t ln sz = true) (b q : Nat) (k : IntKind) (i : Int) (h0 : 0 ≤ i) (h1 : i < ln) (w : World) :
    (Instr.indexAt t (.pointer (some ⟨b, q, none⟩)) (.int k i)).run P w = .ok (.pointer (some ⟨b, q + i.toNat * sz, none⟩)) w := by
  unfold idxrFits at h
  split at h
  · rename_i m e hu
    simp only [Bool.and_eq_true, decide_eq_true_eq] at h
    obtain ⟨rfl, hs⟩ := h
    simp [Instr.indexAt, asIntOf, run_underlying hu, h0, h1, run_sizeOf' hs, Addr.add_lit, Instr.sureAddr]
  · cases h

theorem snd_idxr {ln sz : Nat} {x y : Opd} {x' y' : Operand} {t : TypeId} (ho : o.op = .indexAddr t x' y') (hx : x.fits x' = true) (hy : y.fits y' = true) (hf : idxrFits P t ln sz = true) (h : (AOp.idxr ln sz x y).eff P s K) :
    ∃ e, Does P o (x.looks ++ y.looks) s e ∧ K e := by
  obtain ⟨d, hd, h⟩ := asC_some h
  obtain ⟨k, i, hi, ⟨⟨h0, h1⟩, h⟩⟩ := asI_some h
  cases d with
  | ptr id off =>
    refine ⟨_, Does.pure fun X w a he => ?_, h⟩
    obtain ⟨hdm, b, hm, hp⟩ := ev_sound (w := w) (X := X) (a := a) hx (fun t ht => he t (by simp [ht])) hd
    have hq := tvr_v (ev_sound (w := w) (X := X) (a := a) hy (fun t ht => he t (by simp [ht])) hi)
    exact ⟨_, by simp [execOp, ho, hp, hq, run_indexAtR hf _ _ _ _ h0 h1], hdm, b, hm, rfl⟩
  | p x0 =>
    cases x0 with
    | vptr cs =>
      refine ⟨_, Does.pure fun X w a he => ?_, h⟩
      obtain ⟨b, q, hp, hI, hc⟩ := ev_sound (w := w) (X := X) (a := a) hx (fun t ht => he t (by simp [ht])) hd
      have hq := tvr_v (ev_sound (w := w) (X := X) (a := a) hy (fun t ht => he t (by simp [ht])) hi)
      exact ⟨_, by simp [execOp, ho, hp, hq, run_indexAtR hf _ _ _ _ h0 h1], b, q + i.toNat * sz, rfl, hI, hc.dropN _⟩
    | _ => exact h.elim
  | ref => exact h.elim

theorem snd_ext {i : Nat} {x : Opd} {x' : Operand} (ho : o.op = .extract x' i) (hx : x.fits x' = true) (h : (AOp.ext i x).eff P s K) :
    ∃ e, Does P o x.looks s e ∧ K e := by
  simp only [AOp.eff, AOp.effN] at h
  split at h
  · rename_i ts hd
    obtain ⟨d, hdi, hK⟩ := someL_some h
    refine ⟨_, Does.pure fun X w a he => ?_, hK⟩
    obtain ⟨vs, hp, hv⟩ := ev_sound (w := w) (X := X) (a := a) hx he hd
    have key : ∀ (ts : List TV) (us : List Value) (i : Nat), TVRs w X ts us → ts[i]? = some d → ∃ u, us[i]? = some u ∧ TVR w X d u := by
      intro ts
      induction ts with
      | nil => intro us i _ h; simp at h
      | cons t ts ih =>
        rintro us i ⟨u, r, rfl, h1, h2⟩ h
        cases i with
        | zero => simp at h; subst h; exact ⟨u, rfl, h1⟩
        | succ i => simpa using ih r i h2 (by simpa using h)
    obtain ⟨u, hu, hv'⟩ := key ts vs.toList i hv hdi
    have hu' : vs[i]? = some u := by simpa using hu
    exact ⟨u, by simp [execOp, ho, hp, Instr.extract, hu'], hv'⟩
  · exact h.elim

theorem snd_len {x : Opd} {x' : Operand} {t e : TypeId} (ho : o.op = .call { callee := .builtin .len, args := #[x'], argTypes := #[t] })
    (hu : P.underlying t = some (.slice e)) (hx : x.fits x' = true) (h : (AOp.len x).eff P s K) :
    ∃ e, Does P o x.looks s e ∧ K e := by
  simp only [AOp.eff, AOp.effN] at h
  split at h
  · rename_i n cs hd
    refine pure_v rfl h (fun X w a he => ?_) |>.imp fun e h => ⟨h.1, h.2.2⟩
    obtain ⟨A, cap, hp, _⟩ := ev_sound (w := w) (X := X) (a := a) hx he hd
    simp [execOp, ho, resolve, invoke, builtin, hp, Builtin.len_, run_underlying hu, goInt]
  · rename_i id off n z hd
    refine pure_v rfl h (fun X w a he => ?_) |>.imp fun e h => ⟨h.1, h.2.2⟩
    obtain ⟨_, ⟨_, h2, hp⟩ | ⟨b, off', cap, _, hp, _⟩⟩ := ev_sound (w := w) (X := X) (a := a) hx he hd
    · subst h2; simp [execOp, ho, resolve, invoke, builtin, hp, Builtin.len_, run_underlying hu, goInt]
    · simp [execOp, ho, resolve, invoke, builtin, hp, Builtin.len_, run_underlying hu, goInt]
  · rename_i hd
    refine pure_v rfl h (fun X w a he => ?_) |>.imp fun e h => ⟨h.1, h.2.2⟩
    have hp := tvr_v (ev_sound (w := w) (X := X) (a := a) hx he hd)
    simp [execOp, ho, resolve, invoke, builtin, hp, Builtin.len_, run_underlying hu, goInt]
  · exact h.elim

theorem snd_lens {x : Opd} {x' : Operand} {t : TypeId} (ho : o.op = .call { callee := .builtin .len, args := #[x'], argTypes := #[t] })
    (hu : P.underlying t = some .string) (hx : x.fits x' = true) (h : (AOp.lens x).eff P s K) :
    ∃ e, Does P o x.looks s e ∧ K e := by
  obtain ⟨b, hd, h⟩ := asS_some h
  refine pure_v rfl h (fun X w a he => ?_) |>.imp fun e h => ⟨h.1, h.2.2⟩
  have hp := tvr_v (ev_sound (w := w) (X := X) (a := a) hx he hd)
  simp [execOp, ho, resolve, invoke, builtin, hp, Builtin.len_, run_underlying hu, goInt]

end
end Go.Proofs.Ytjieenfbfckafaa.Am
/- The operations' effects are the model's: new variables, stores, literals. -/
namespace Go.Proofs.Ytjieenfbfckafaa.Am
open Go
set_option linter.unusedVariables false
set_option linter.unusedSimpArgs false

theorem cellsT_sound {w : World} {X : Ctx} {d : TV} {ds : List DV} {u : Value} (h : TVR w X d u) (hd : cellsT d = some ds) : VRds w X ds u.cells.toList := by
  cases d with
  | c d =>
    simp only [cellsT, Option.some.injEq] at hd
    subst hd
    have h1 : VRd w X d u := h
    have h2 := h1.one
    have hc : u.cells = #[u] := by cases u <;> first | rfl | (simp [Value.oneCell'] at h2)
    rw [hc]
    refine ⟨rfl, fun j x v hx hv => ?_⟩
    cases j with
    | zero => simp at hx hv; subst hx; subst hv; exact h1
    | succ j => simp at hx
  | agg xs =>
    simp only [cellsT, Option.some.injEq] at hd
    subst hd
    obtain ⟨cs, rfl, h1⟩ := h
    exact h1
  | tup ts => simp [cellsT] at hd

theorem VRds.append {w : World} {X : Ctx} {a b : List DV} {u v : List Value} (h : VRds w X a u) (k : VRds w X b v) : VRds w X (a ++ b) (u ++ v) := by
  refine ⟨by simp [h.1, k.1], fun j d x hd hx => ?_⟩
  rw [List.getElem?_append] at hd hx
  rw [← h.1] at hx
  split at hd
  · rename_i hj; rw [if_pos hj] at hx; exact h.2 j d x hd hx
  · rename_i hj; rw [if_neg hj] at hx; exact k.2 _ d x hd hx
theorem VRds.takeN {w : World} {X : Ctx} {a : List DV} {u : List Value} (h : VRds w X a u) (n : Nat) : VRds w X (a.take n) (u.take n) := by
  have := h.sub 0 n
  simpa using this
theorem VRds.dropN {w : World} {X : Ctx} {a : List DV} {u : List Value} (h : VRds w X a u) (n : Nat) : VRds w X (a.drop n) (u.drop n) := by
  have := h.sub n (max a.length u.length)
  rwa [List.take_of_length_le (by simp; omega), List.take_of_length_le (by simp; omega)] at this

/-- An object's cells as far as they are known. -/
theorem ObjR.row {w : World} {X : Ctx} {id b : Nat} {o : Ob} (h : ObjR w X id o) (hm : X.mu id = some b) :
    ∃ c, w.heap[b]? = some (.cells c o.e (0, 0)) ∧ o.xs.length ≤ c.size ∧ VRds w X o.xs (c.toList.take o.xs.length) := by
  have h := h.2
  rw [hm] at h
  obtain ⟨c, h1, h2, h3⟩ := h
  refine ⟨c, h1, h2, by simp; omega, fun j d u hd hu => h3 j d u hd ?_⟩
  rw [List.getElem?_take] at hu
  split at hu
  · simpa using hu
  · cases hu

theorem nameDm {X : Ctx} {n : Nat} {b : Option Nat} : ∀ id, (X.name n b).dm id → X.dm id ∨ (n ≤ id ∧ id < n + 1) := by
  intro id h
  rcases h with h | rfl
  · exact .inl h
  · exact .inr (by omega)

section
variable {P : Program} {o : Oper} {s : S} {K : Eff → Prop}

/-- A new variable. -/
theorem Does.new {ls : List Nat} {e : TypeId} {xs : List DV} {r : TV}
    (h : ∀ (X : Ctx) (w : World) (a : Act), (∀ t ∈ ls, ∀ d, look s.env t = some d → TVR w X d (a.tmps.getD t undef)) →
      ∃ (c : Array Value) (v : Value), (execOp a.eval o).run P w = .ok (.value v) (w.alloc (.cells c e)) ∧ xs.length ≤ c.size ∧ VRds w X xs (c.toList.take xs.length) ∧
        ∀ X' w', X'.dm s.nx → X'.mu s.nx = some w.heap.size → cellCount w' w.heap.size = c.size → TVR w' X' r v) :
    Does P o ls s ⟨r, [], [(s.nx, some ⟨e, xs⟩)], 1⟩ := by
  intro X w a h0 K Q he ok hacc hfr hk
  obtain ⟨c, v, hr, hle, hc, hv⟩ := h X w a he
  have hid : ¬ X.dm s.nx := hfr s.nx (Nat.le_refl _) (by simp)
  obtain ⟨h1, h2⟩ := ok.new hid (c := c) (e := e) hc hle
  refine wp_value hr (hk v _ _ (hv (X.name s.nx (some w.heap.size)) _ (Or.inr rfl) (Ctx.name_mu_same _ _ _) ?_) h1 h2 nameDm)
  exact cellCount_of (heap_alloc_new w _)

theorem snd_box {e : Nat} {x : Opd} {x' : Operand} (ho : o.op = .box e x') (hx : x.fits x' = true) (h : (AOp.box e x).eff P s K) : ∃ f, Does P o x.looks s f ∧ K f := by
  obtain ⟨d, hd, h⟩ := asD_some h
  obtain ⟨ds, hds, h⟩ := someL_some h
  refine ⟨_, Does.new fun X w a he => ?_, h⟩
  have hv := cellsT_sound (ev_sound (w := w) (X := X) (a := a) hx he hd) hds
  refine ⟨(a.eval x').cells, .pointer (some ⟨w.heap.size, 0, none⟩), ?_, ?_, ?_, fun X' w' h1 h2 _ => ⟨h1, _, h2, rfl⟩⟩
  · simp [execOp, ho, Instr.box, newVar, newRow]
  · have := hv.1; simp at this; omega
  · rw [List.take_of_length_le (by rw [hv.1]; exact Nat.le_refl _)]; exact hv

def zeroFits (P : Program) (t : TypeId) (zero : List Value) : Bool :=
  match P.info? t with
  | some i => match i.zero with
    | some z => sameVs zero z.cells.toList
    | none => false
  | none => false
theorem zeroFits_some {t : TypeId} {zero : List Value} (h : zeroFits P t zero = true) : ∃ i z, P.info? t = some i ∧ i.zero = some z ∧ z.cells.toList = zero ∧ ∀ u ∈ zero, u.oneCell' = true := by
  unfold zeroFits at h
  split at h
  · rename_i i hi
    split at h
    · rename_i z hz
      obtain ⟨e, h1⟩ := sameVs_eq h
      exact ⟨i, z, hi, hz, e.symm, h1⟩
    · cases h
  · cases h

theorem snd_alloc {e : Nat} {zero : List Value} (ho : o.op = .alloc e) (hz : zeroFits P e zero = true) (h : (AOp.alloc e zero).eff P s K) : ∃ f, Does P o [] s f ∧ K f := by
  obtain ⟨i, z, hi, hz', hzz, h1⟩ := zeroFits_some hz
  simp only [AOp.eff, AOp.effN] at h
  refine ⟨_, Does.new fun X w a he => ?_, h⟩
  refine ⟨z.cells, .pointer (some ⟨w.heap.size, 0, none⟩), ?_, ?_, ?_, fun X' w' h1 h2 _ => ⟨h1, _, h2, rfl⟩⟩
  · simp [execOp, ho, Instr.alloc, zeroValue, typeInfo, hi, hz', newVar, newRow]
  · subst hzz; simp
  · subst hzz
    have := VRds_pure (w := w) (X := X) h1
    rw [List.take_of_length_le (by simp)]
    exact this

theorem snd_store {n : Nat} {x y : Opd} {x' y' : Operand} {t : TypeId} (ho : o.op = .store t x' y') (hx : x.fits x' = true) (hy : y.fits y' = true) (hn : (P.info? t).map (·.size) = some n) (wf : s.wf) (h : (AOp.store n x y).eff P s K) :
    ∃ e, Does P o (x.looks ++ y.looks) s e ∧ K e := by
  obtain ⟨d, hd, h⟩ := asC_some h
  obtain ⟨u, hu, h⟩ := asD_some h
  obtain ⟨ds, hds, h⟩ := someL_some h
  cases d with
  | ptr id off =>
    obtain ⟨ob, hob, hlen, hle, hK⟩ := someL_some h
    refine ⟨_, ?_, hK⟩
    intro X w a h0 K Q he ok hacc hfr hk
    obtain ⟨_, b, hm, hp⟩ := ev_sound (w := w) (X := X) (a := a) hx (fun t ht => he t (by simp [ht])) hd
    have hv := cellsT_sound (ev_sound (w := w) (X := X) (a := a) hy (fun t ht => he t (by simp [ht])) hu) hds
    have hid : h0 id = some ob := by rw [hacc id (by simp [Eff.acc]) (wf id ob hob)]; exact hob
    obtain ⟨c, hc, hcl, hcv⟩ := (ok.obj id ob hid).row hm
    have hsz : (a.eval y').cells.size = n := by have := hv.1; simp at this; omega
    have hst := run_storeCells_at P b off ob.e (a.eval y').cells.toList 0 c w hc (by simp; omega) hv.one
    simp only [Nat.add_zero, Array.length_toList, hsz] at hst
    have hlen2 : ((c.toList.take off ++ (a.eval y').cells.toList ++ c.toList.drop (off + n)).toArray).size = c.size := by simp; omega
    obtain ⟨h1, h2⟩ := ok.write hid hm hc hlen2 (xs := ob.xs.take off ++ ds ++ ob.xs.drop (off + n)) (by rw [hlen2]; simp; omega) (by
      have e1 : (ob.xs.take off ++ ds ++ ob.xs.drop (off + n)).length = ob.xs.length := by simp; omega
      rw [e1]
      have e2 : (c.toList.take off ++ (a.eval y').cells.toList ++ c.toList.drop (off + n)).take ob.xs.length = (c.toList.take ob.xs.length).take off ++ (a.eval y').cells.toList ++ (c.toList.take ob.xs.length).drop (off + n) := by
        rw [List.take_append, List.take_append, List.take_take, List.drop_take]
        have e3 : (a.eval y').cells.toList.length = n := by simpa using hsz
        have e4 : (c.toList.take off).length = off := by simp; omega
        congr 1
        · congr 1
          · rw [List.take_take, Nat.min_comm]
          · rw [List.take_of_length_le]; omega
        · congr 1; simp only [List.length_append, e3, e4]
      simp only []
      rw [e2]
      exact ((hcv.takeN off).append hv).append (hcv.dropN (off + n)))
    refine wp_skip' (w' := w.setRow b (c.toList.take off ++ (a.eval y').cells.toList ++ c.toList.drop (off + n)).toArray) ?_ (hk undef _ X ⟨#[], rfl, rfl⟩ h1 h2 fun id hid => .inl hid)
    simp [execOp, ho, hp, Instr.storeAt, Instr.sureAddr, storeVar, run_sizeOf' hn, hsz, hst]
  | p => exact h.elim
  | ref => exact h.elim

/-! ### Parts laid over cells -/
theorem foldl_seg (off : Nat) : ∀ (vs : List Value) (k : Nat) (cells : Array Value), off + k + vs.length ≤ cells.size →
    ((vs.zipIdx k).foldl (fun cs x => cs.setIfInBounds (off + x.2) x.1) cells).toList = cells.toList.take (off + k) ++ vs ++ cells.toList.drop (off + k + vs.length)
  | [], k, cells, _ => by simp
  | v :: vs, k, cells, h => by
    simp only [List.length_cons] at h
    rw [List.zipIdx_cons, List.foldl_cons, foldl_seg off vs (k + 1) _ (by simp; omega)]
    have := list_seg_step cells.toList (off + k) v vs (by simp; omega)
    rw [Array.toList_setIfInBounds]
    simp only [List.length_cons]
    have e1 : off + (k + 1) = off + k + 1 := by omega
    have e2 : off + k + (vs.length + 1) = off + k + vs.length + 1 := by omega
    rw [e1, this]

theorem fill_step {place : Nat → Option (Nat × Nat)} {cells : Array Value} {i : Nat} {v : Value} {rest : List (Nat × Value)} {off n : Nat} (hp : place i = some (off, n)) (hn : v.cells.size = n) (hle : off + n ≤ cells.size) :
    ∃ cells' : Array Value, Instr.fill place cells ((i, v) :: rest) = Instr.fill place cells' rest ∧ cells'.toList = cells.toList.take off ++ v.cells.toList ++ cells.toList.drop (off + n) := by
  have h1 : ¬ cells.size < off + v.cells.size := by omega
  refine ⟨_, by simp only [Instr.fill, hp]; rw [if_neg (by simp [hn]; omega)], ?_⟩
  have := foldl_seg off v.cells.toList 0 cells (by simp; omega)
  simp only [Nat.add_zero, Array.length_toList, hn] at this
  rw [← this]
  congr 1
  rw [← Array.foldl_toList, Array.toList_zipIdx]

/-- The parts of an abstract literal and those of the code. -/
def partsFit (place : Nat → Option (Nat × Nat)) : List (Nat × Nat × Opd) → List (Nat × Operand) → Bool
  | [], [] => true
  | (off, n, x) :: r, (i, y) :: q => x.fits y && decide (place i = some (off, n)) && partsFit place r q
  | _, _ => false

theorem fill_sound {place : Nat → Option (Nat × Nat)} {w : World} {X : Ctx} {a : Act} : ∀ {ps : List (Nat × Nat × Opd)} {qs : List (Nat × Operand)} {cells : List DV} {carr : Array Value} {G : List DV → Prop},
    partsFit place ps qs = true → (∀ t ∈ listLooks (ps.map (·.2.2)), ∀ d, look s.env t = some d → TVR w X d (a.tmps.getD t undef)) → VRds w X cells carr.toList → lay s cells ps G →
    ∃ xs carr', Instr.fill place carr (qs.map fun q => (q.1, a.eval q.2)) = some carr' ∧ VRds w X xs carr'.toList ∧ G xs
  | [], [], cells, carr, G, _, _, hc, h => ⟨cells, carr, rfl, hc, h⟩
  | (off, n, x) :: r, (i, y) :: q, cells, carr, G, hf, he, hc, h => by
    simp only [partsFit, Bool.and_eq_true, decide_eq_true_eq] at hf
    obtain ⟨⟨hx, hp⟩, hr⟩ := hf
    obtain ⟨d, hd, h⟩ := asD_some h
    obtain ⟨ds, hds, hlen, hle, h⟩ := someL_some h
    have hv := cellsT_sound (ev_sound (w := w) (X := X) (a := a) hx (fun t ht => he t (by simp [listLooks, ht])) hd) hds
    have hsz : (a.eval y).cells.size = n := by have := hv.1; simp at this; omega
    have hcl := hc.1
    obtain ⟨c2, h1, h2⟩ := fill_step (cells := carr) (v := a.eval y) (rest := q.map fun q => (q.1, a.eval q.2)) hp hsz (by simp at hcl; omega)
    have hc2 : VRds w X (cells.take off ++ ds ++ cells.drop (off + n)) c2.toList := by
      rw [h2]
      exact ((hc.takeN off).append hv).append (hc.dropN (off + n))
    obtain ⟨xs, c3, h3, h4, h5⟩ := fill_sound (ps := r) (qs := q) hr (fun t ht => he t (by simp [listLooks, ht])) hc2 h
    exact ⟨xs, c3, by rw [List.map_cons, h1]; exact h3, h4, h5⟩
  | [], _ :: _, _, _, _, hf, _, _, _ => by simp [partsFit] at hf
  | _ :: _, [], _, _, _, hf, _, _, _ => by simp [partsFit] at hf

/-- What is laid does not hang on the world. -/
theorem lay_run : ∀ {ps : List (Nat × Nat × Opd)} {cells : List DV} {G : List DV → Prop}, lay s cells ps G → ∃ xs, lay s cells ps (· = xs) ∧ G xs
  | [], cells, G, h => ⟨cells, rfl, h⟩
  | (off, n, x) :: r, cells, G, h => by
    obtain ⟨d, hd, h⟩ := asD_some h
    obtain ⟨ds, hds, hlen, hle, h⟩ := someL_some h
    obtain ⟨xs, h1, h2⟩ := lay_run h
    refine ⟨xs, ?_, h2⟩
    simp only [lay, hd, asD, hds, someL]
    exact ⟨hlen, hle, h1⟩

def buildFits (P : Program) (t : TypeId) (zero : List Value) (ps : List (Nat × Nat × Opd)) (qs : List (Nat × Operand)) : Bool :=
  zeroFits P t zero && match P.underlying t with
    | some (.struct fs) => fs.toList.all (fun (f : Field) => (P.info? f.type).isSome) && partsFit (fun i => (fs[i]?).map fun (f : Field) => (f.offset, ((P.info? f.type).map (·.size)).getD 0)) ps qs
    | some (.array _ e) => (P.info? e).isSome && partsFit (fun i => some (i * ((P.info? e).map (·.size)).getD 0, ((P.info? e).map (·.size)).getD 0)) ps qs
    | _ => false

theorem run_places {w : World} (fs : Array Field) (h : fs.toList.all (fun (f : Field) => (P.info? f.type).isSome) = true) :
    (fs.mapM fun (f : Field) => do pure (f.offset, ← sizeOf f.type) : Sem (Array (Nat × Nat))).run P w = .ok (fs.map fun (f : Field) => (f.offset, ((P.info? f.type).map (·.size)).getD 0)) w := by
  have key : ∀ (l : List Field), l.all (fun (f : Field) => (P.info? f.type).isSome) = true → (l.mapM fun (f : Field) => do pure (f.offset, ← sizeOf f.type) : Sem (List (Nat × Nat))).run P w = .ok (l.map fun (f : Field) => (f.offset, ((P.info? f.type).map (·.size)).getD 0)) w := by
    intro l
    induction l with
    | nil => intro _; rfl
    | cons f l ih =>
      intro hl
      simp only [List.all_cons, Bool.and_eq_true] at hl
      obtain ⟨i, hi⟩ := Option.isSome_iff_exists.1 hl.1
      have hs : (sizeOf f.type).run P w = .ok i.size w := run_sizeOf' (by simp [hi]) w
      simp only [List.mapM_cons, Sem.run_bind, hs, Result.andThen_ok, Sem.run_pure, ih hl.2, List.map_cons, hi, Option.map_some, Option.getD_some]
  have h2 := key fs.toList h
  rw [Array.mapM_eq_mapM_toList]
  simp only [Sem.run_map, h2, Result.andThen_ok]
  congr 1
  apply Array.ext'
  simp

theorem snd_build {zero : List Value} {ps : List (Nat × Nat × Opd)} {t : TypeId} {qs : Array (Nat × Operand)} (ho : o.op = .build t qs) (hf : buildFits P t zero ps qs.toList = true) (h : (AOp.build zero ps).eff P s K) :
    ∃ e, Does P o (listLooks (ps.map (·.2.2))) s e ∧ K e := by
  simp only [AOp.eff, AOp.effN] at h
  obtain ⟨xs, hxs, hK⟩ := lay_run h
  refine ⟨_, Does.pure fun X w a he => ?_, hK⟩
  simp only [buildFits, Bool.and_eq_true] at hf
  obtain ⟨hz, hf⟩ := hf
  obtain ⟨i, z, hi, hz', hzz, h1⟩ := zeroFits_some hz
  have hzero : (zeroValue t).run P w = .ok z w := by simp [zeroValue, typeInfo, hi, hz']
  have hc0 : VRds w X (zero.map fun x => .p (.v x)) z.cells.toList := by rw [hzz]; exact VRds_pure h1
  have hmap : (qs.map fun x => (x.1, a.eval x.2)).toList = qs.toList.map fun q => (q.1, a.eval q.2) := by simp
  split at hf
  · rename_i fs hu
    simp only [Bool.and_eq_true] at hf
    obtain ⟨xs', carr, hfill, hv, rfl⟩ := fill_sound hf.2 he hc0 hxs
    refine ⟨.agg carr, ?_, carr, rfl, hv⟩
    have hplace : (fun (i : Nat) => (fs.map fun (f : Field) => (f.offset, ((P.info? f.type).map (·.size)).getD 0))[i]?) = fun (i : Nat) => (fs[i]?).map fun (f : Field) => (f.offset, ((P.info? f.type).map (·.size)).getD 0) := by
      funext i; simp
    have hfill' : Instr.fill (fun (i : Nat) => (fs.map fun (f : Field) => (f.offset, ((P.info? f.type).map (·.size)).getD 0))[i]?) z.cells (qs.map fun x => (x.1, a.eval x.2)).toList = some carr := by rw [hplace, hmap]; exact hfill
    simp only [execOp, ho, Instr.build, Sem.run_bind, hzero, Result.andThen_ok, run_underlying hu, run_places fs hf.1, hfill', Sem.run_pure]
  · rename_i m e hu
    simp only [Bool.and_eq_true] at hf
    obtain ⟨j, hj⟩ := Option.isSome_iff_exists.1 hf.1
    obtain ⟨xs', carr, hfill, hv, rfl⟩ := fill_sound hf.2 he hc0 hxs
    refine ⟨.agg carr, ?_, carr, rfl, hv⟩
    have hs : (sizeOf e).run P w = .ok j.size w := run_sizeOf' (by simp [hj]) w
    simp only [hj, Option.map_some, Option.getD_some] at hfill
    have hfill' : Instr.fill (fun i => some (i * j.size, j.size)) z.cells (qs.map fun x => (x.1, a.eval x.2)).toList = some carr := by rw [hmap]; exact hfill
    simp only [execOp, ho, Instr.build, Sem.run_bind, hzero, Result.andThen_ok, run_underlying hu, hs, hfill', Sem.run_pure]
  · cases hf

/-- Zero cells. -/
theorem madeCells_zeros (z : List Value) (n : Nat) : madeCells z.toArray (n * z.length) = ((List.replicate n z).flatten).toArray := by
  apply Array.ext_getElem?
  intro j
  simp only [madeCells]
  rcases Nat.lt_or_ge j (n * z.length) with hj | hj
  · have hz : 0 < z.length := by rcases Nat.eq_zero_or_pos z.length with h0 | h0; · rw [h0] at hj; simp at hj
                                 · exact h0
    have h1 : (Array.map (fun x => z.toArray[x % z.toArray.size]!) (Array.range (n * z.length)))[j]? = some (z[j % z.length]'(Nat.mod_lt _ hz)) := by
      simp [hj, Nat.mod_lt _ hz]
    rw [h1]
    symm
    induction n generalizing j with
    | zero => simp at hj
    | succ n ih =>
      rw [List.replicate_succ, List.flatten_cons]
      simp only [List.getElem?_toArray]
      rw [List.getElem?_append]
      split
      · rename_i hlt
        simp [List.getElem?_eq_getElem hlt, Nat.mod_eq_of_lt hlt]
      · rename_i hge
        have hj' : j - z.length < n * z.length := by rw [Nat.succ_mul] at hj; omega
        have := ih (j - z.length) hj' (by simp [hj', Nat.mod_lt _ hz])
        simp only [List.getElem?_toArray] at this
        rw [this]
        congr 2
        exact (Nat.mod_eq_sub_mod (by omega)).symm
  · rw [Array.getElem?_eq_none (by simpa using hj), Array.getElem?_eq_none (by simpa [List.length_flatten] using hj)]

theorem zeros_flatten (z : List Value) : ∀ n, zeros z n = ((List.replicate n z).flatten).map fun x => DV.p (.v x)
  | 0 => rfl
  | n + 1 => by simp [zeros, zeros_flatten z n, List.replicate_succ]

theorem oneCell_flatten {z : List Value} (h : ∀ u ∈ z, u.oneCell' = true) (n : Nat) : ∀ u ∈ (List.replicate n z).flatten, u.oneCell' = true := by
  intro u hu
  obtain ⟨l, hl, hu⟩ := List.mem_flatten.1 hu
  rw [List.mem_replicate] at hl
  rw [hl.2] at hu
  exact h u hu

def sliceOf (P : Program) (t : TypeId) (e : TypeId) : Bool :=
  match P.underlying t with
  | some (.slice e') => decide (e' = e)
  | _ => false
theorem sliceOf_some {t e : TypeId} (h : sliceOf P t e = true) : P.underlying t = some (.slice e) := by
  unfold sliceOf at h
  split at h
  · rename_i e' hu; simp at h; subst h; exact hu
  · cases h

def litFits (P : Program) (t : TypeId) (e sz ln : Nat) (zero : List Value) (ps : List (Nat × Opd)) (qs : List (Nat × Operand)) : Bool :=
  sliceOf P t e && zeroFits P e zero && decide ((P.info? e).map (·.size) = some sz) && decide (zero.length = sz) && decide (0 < sz) && decide (ln * sz ≤ 16777216) &&
    partsFit (fun i => some (i * sz, sz)) (ps.map fun p => (p.1 * sz, sz, p.2)) qs

end
end Go.Proofs.Ytjieenfbfckafaa.Am

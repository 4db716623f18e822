/- The abstract machine's values, memory and their relation to the model's worlds: definitions and the laws by which the relation is kept. -/
import Derived.Deep.LoopGhost
import Derived.WalkKit
import Derived.Laws.Rows
import Derived.Laws.CopyRow
import Derived.Laws.AppendOwn
import Derived.OwnWalk
namespace Go.Proofs.Ytjieenfbfckafaa.Am
open Go
set_option linter.unusedVariables false

/-- Pure values of one cell: they name no object of the call's own. 'val': a slice whose cells stay as they are; 'vptr': an address of cells that stay as they are. -/
inductive PV where
  | v (x : Value)
  | val (n : Nat) (cells : List PV)
  | vptr (cells : List PV)

/-- Values of one cell. 'ptr', 'ref': an address in, a slice of, an object of the call's own. -/
inductive DV where
  | p (x : PV)
  | ptr (id off : Nat)
  | ref (id off n sz : Nat)

/-- What a temporary holds. -/
inductive TV where
  | c (x : DV)
  | agg (xs : List DV)
  | tup (xs : List TV)

structure Ob where
  e : TypeId
  xs : List DV

/-- How the abstract names lie in the world: blocks that stay; names that are given; where they lie (none: nowhere, a nil slice). -/
structure Ctx where
  I : Nat → Prop
  dm : Nat → Prop
  mu : Nat → Option Nat

mutual
def VRp (w : World) (I : Nat → Prop) : PV → Value → Prop
  | .v x, u => u = x ∧ x.oneCell' = true
  | .val n cs, u => ∃ A cap, u = .slice A n cap ∧ n ≤ cap ∧ ((n = 0 ∧ cs = []) ∨ ∃ b o, A = some ⟨b, o, none⟩ ∧ I b ∧ VRc w I b o cs)
  | .vptr cs, u => ∃ b o, u = .pointer (some ⟨b, o, none⟩) ∧ I b ∧ VRc w I b o cs
def VRc (w : World) (I : Nat → Prop) (b : Nat) : Nat → List PV → Prop
  | _, [] => True
  | o, d :: ds => (∃ u, w.cell? ⟨b, o, none⟩ = some u ∧ VRp w I d u) ∧ VRc w I b (o + 1) ds
end

theorem VRc_get {w : World} {I : Nat → Prop} {b : Nat} : ∀ {cs : List PV} {o : Nat}, VRc w I b o cs ↔ ∀ j d, cs[j]? = some d → ∃ u, w.cell? ⟨b, o + j, none⟩ = some u ∧ VRp w I d u
  | [], o => by simp [VRc]
  | d :: ds, o => by
    simp only [VRc]
    rw [VRc_get (cs := ds)]
    constructor
    · rintro ⟨h0, h⟩ j e he
      cases j with
      | zero => simp at he; subst he; simpa using h0
      | succ j => have := h j e (by simpa using he); simpa [Nat.add_assoc, Nat.add_comm 1 j] using this
    · intro h
      refine ⟨by simpa using h 0 d rfl, fun j e he => ?_⟩
      have := h (j + 1) e (by simpa using he)
      simpa [Nat.add_assoc, Nat.add_comm 1 j] using this

theorem cell_congr {w w' : World} {b o : Nat} (h : w'.heap[b]? = w.heap[b]?) : w'.cell? ⟨b, o, none⟩ = w.cell? ⟨b, o, none⟩ := World.cell?_of_block (a := ⟨b, o, none⟩) h

mutual
theorem VRp.mono {w w' : World} {I I' : Nat → Prop} (hI : ∀ b, I b → I' b) (hw : ∀ b, I b → w'.heap[b]? = w.heap[b]?) : ∀ (d : PV) (u : Value), VRp w I d u → VRp w' I' d u
  | .v x, u, h => h
  | .val n cs, u, h => by
    obtain ⟨A, cap, h1, h2, h3⟩ := h
    refine ⟨A, cap, h1, h2, ?_⟩
    rcases h3 with h3 | ⟨b, o, h4, h5, h6⟩
    · exact .inl h3
    · exact .inr ⟨b, o, h4, hI b h5, VRc.mono hI hw cs b o h5 h6⟩
  | .vptr cs, u, h => by
    obtain ⟨b, o, h4, h5, h6⟩ := h
    exact ⟨b, o, h4, hI b h5, VRc.mono hI hw cs b o h5 h6⟩
theorem VRc.mono {w w' : World} {I I' : Nat → Prop} (hI : ∀ b, I b → I' b) (hw : ∀ b, I b → w'.heap[b]? = w.heap[b]?) : ∀ (cs : List PV) (b o : Nat), I b → VRc w I b o cs → VRc w' I' b o cs
  | [], b, o, _, _ => trivial
  | d :: ds, b, o, hb, h => by
    obtain ⟨⟨u, hu, hd⟩, h⟩ := h
    exact ⟨⟨u, by rw [cell_congr (hw b hb)]; exact hu, VRp.mono hI hw d u hd⟩, VRc.mono hI hw ds b (o + 1) hb h⟩
end

theorem VRp.one {w : World} {I : Nat → Prop} {d : PV} {u : Value} (h : VRp w I d u) : u.oneCell' = true := by
  cases d with
  | v x => obtain ⟨rfl, h⟩ := h; exact h
  | val n cs => obtain ⟨A, cap, rfl, _⟩ := h; rfl
  | vptr cs => obtain ⟨b, o, rfl, _⟩ := h; rfl

def cellCount (w : World) (b : Nat) : Nat :=
  match w.heap[b]? with
  | some (.cells c _ _) => c.size
  | _ => 0

def VRd (w : World) (X : Ctx) : DV → Value → Prop
  | .p x, u => VRp w X.I x u
  | .ptr id off, u => X.dm id ∧ ∃ b, X.mu id = some b ∧ u = .pointer (some ⟨b, off, none⟩)
  | .ref id off n sz, u => X.dm id ∧ ((X.mu id = none ∧ n = 0 ∧ u = .slice none 0 0) ∨
      ∃ b off' cap, X.mu id = some b ∧ u = .slice (some ⟨b, off', none⟩) n cap ∧ n ≤ cap ∧ cap ≤ maxLen ∧ (cap = 0 ∨ off' = off) ∧ off' + cap * sz ≤ cellCount w b)

def VRds (w : World) (X : Ctx) (ds : List DV) (us : List Value) : Prop := ds.length = us.length ∧ ∀ (j : Nat) d u, ds[j]? = some d → us[j]? = some u → VRd w X d u

mutual
def TVR (w : World) (X : Ctx) : TV → Value → Prop
  | .c d, u => VRd w X d u
  | .agg ds, u => ∃ cs : Array Value, u = .agg cs ∧ VRds w X ds cs.toList
  | .tup ts, u => ∃ vs : Array Value, u = .tuple vs ∧ TVRs w X ts vs.toList
def TVRs (w : World) (X : Ctx) : List TV → List Value → Prop
  | [], us => us = []
  | t :: ts, us => ∃ u r, us = u :: r ∧ TVR w X t u ∧ TVRs w X ts r
end

def ObjR (w : World) (X : Ctx) (id : Nat) (o : Ob) : Prop :=
  X.dm id ∧ match X.mu id with
    | none => o.xs = []
    | some b => ∃ c, w.heap[b]? = some (.cells c o.e (0, 0)) ∧ o.xs.length ≤ c.size ∧ ∀ (j : Nat) d u, o.xs[j]? = some d → c[j]? = some u → VRd w X d u

abbrev Hp := Nat → Option Ob
abbrev Env := Nat → Option TV

structure HeapOk (w : World) (X : Ctx) (h : Hp) : Prop where
  obj : ∀ id o, h id = some o → ObjR w X id o
  inj : ∀ i j x y b, h i = some x → h j = some y → X.mu i = some b → X.mu j = some b → i = j
  notI : ∀ i x b, h i = some x → X.mu i = some b → ¬ X.I b
  ilt : ∀ b, X.I b → b < w.heap.size

/-- What a step may do. -/
structure Evol (X : Ctx) (w : World) (h : Hp) (X' : Ctx) (w' : World) (h' : Hp) : Prop where
  os : w'.os = w.os
  tape : w'.tape = w.tape
  output : w'.output = w.output
  size : w.heap.size ≤ w'.heap.size
  frame : ∀ b, b < w.heap.size → (∀ id o, h id = some o → X.mu id ≠ some b) → w'.heap[b]? = w.heap[b]?
  cnt : ∀ b, b < w.heap.size → cellCount w' b = cellCount w b
  dm : ∀ id, X.dm id → X'.dm id ∧ X'.mu id = X.mu id
  imm : ∀ b, X.I b → X'.I b
  newI : ∀ b, X'.I b → X.I b ∨ w.heap.size ≤ b ∨ ∃ id o, h id = some o ∧ X.mu id = some b
  live : ∀ id o b, h' id = some o → X'.mu id = some b → w.heap.size ≤ b ∨ ∃ id0 o0, h id0 = some o0 ∧ X.mu id0 = some b

theorem Evol.refl (X : Ctx) (w : World) (h : Hp) : Evol X w h X w h :=
  ⟨rfl, rfl, rfl, Nat.le_refl _, fun _ _ _ => rfl, fun _ _ => rfl, fun _ hd => ⟨hd, rfl⟩, fun _ hb => hb, fun _ hb => .inl hb, fun id o b ho hm => .inr ⟨id, o, ho, hm⟩⟩

theorem Evol.trans {X Y Z : Ctx} {u v w : World} {h k l : Hp} (e : Evol X u h Y v k) (f : Evol Y v k Z w l) : Evol X u h Z w l := by
  refine ⟨f.os.trans e.os, f.tape.trans e.tape, f.output.trans e.output, Nat.le_trans e.size f.size, ?_, ?_, ?_, fun b hb => f.imm b (e.imm b hb), ?_, ?_⟩
  · intro b hb hn
    refine (f.frame b (Nat.lt_of_lt_of_le hb e.size) fun id o ho hm => ?_).trans (e.frame b hb hn)
    rcases e.live id o b ho hm with h1 | ⟨i0, o0, h1, h2⟩
    · omega
    · exact hn i0 o0 h1 h2
  · intro b hb
    exact (f.cnt b (Nat.lt_of_lt_of_le hb e.size)).trans (e.cnt b hb)
  · intro id hd
    obtain ⟨h1, h2⟩ := e.dm id hd
    obtain ⟨h3, h4⟩ := f.dm id h1
    exact ⟨h3, h4.trans h2⟩
  · intro b hb
    rcases f.newI b hb with h1 | h1 | ⟨id, o, h1, h2⟩
    · exact e.newI b h1
    · exact .inr (.inl (Nat.le_trans e.size h1))
    · rcases e.live id o b h1 h2 with h3 | h3
      · exact .inr (.inl h3)
      · exact .inr (.inr h3)
  · intro id o b ho hm
    rcases f.live id o b ho hm with h1 | ⟨i0, o0, h1, h2⟩
    · exact .inl (Nat.le_trans e.size h1)
    · exact e.live i0 o0 b h1 h2

/-- What a call, or a piece of code, may do: of the names that were given before, those below p stay. -/
structure EvolP (p : Nat) (X : Ctx) (w : World) (h : Hp) (X' : Ctx) (w' : World) (h' : Hp) : Prop where
  os : w'.os = w.os
  tape : w'.tape = w.tape
  output : w'.output = w.output
  size : w.heap.size ≤ w'.heap.size
  frame : ∀ b, b < w.heap.size → (∀ id o, h id = some o → X.mu id ≠ some b) → w'.heap[b]? = w.heap[b]?
  cnt : ∀ b, b < w.heap.size → cellCount w' b = cellCount w b
  dm : ∀ id, id < p → X.dm id → X'.dm id ∧ X'.mu id = X.mu id
  imm : ∀ b, X.I b → X'.I b
  newI : ∀ b, X'.I b → X.I b ∨ w.heap.size ≤ b ∨ ∃ id o, h id = some o ∧ X.mu id = some b
  live : ∀ id o b, h' id = some o → X'.mu id = some b → w.heap.size ≤ b ∨ ∃ id0 o0, h id0 = some o0 ∧ X.mu id0 = some b

theorem Evol.toP {X X' : Ctx} {w w' : World} {h h' : Hp} (e : Evol X w h X' w' h') (p : Nat) : EvolP p X w h X' w' h' :=
  ⟨e.os, e.tape, e.output, e.size, e.frame, e.cnt, fun id _ => e.dm id, e.imm, e.newI, e.live⟩

theorem EvolP.trans {p : Nat} {X Y Z : Ctx} {u v w : World} {h k l : Hp} (e : EvolP p X u h Y v k) (f : EvolP p Y v k Z w l) : EvolP p X u h Z w l := by
  refine ⟨f.os.trans e.os, f.tape.trans e.tape, f.output.trans e.output, Nat.le_trans e.size f.size, ?_, ?_, ?_, fun b hb => f.imm b (e.imm b hb), ?_, ?_⟩
  · intro b hb hn
    refine (f.frame b (Nat.lt_of_lt_of_le hb e.size) fun id o ho hm => ?_).trans (e.frame b hb hn)
    rcases e.live id o b ho hm with h1 | ⟨i0, o0, h1, h2⟩
    · omega
    · exact hn i0 o0 h1 h2
  · intro b hb
    exact (f.cnt b (Nat.lt_of_lt_of_le hb e.size)).trans (e.cnt b hb)
  · intro id hp hd
    obtain ⟨h1, h2⟩ := e.dm id hp hd
    obtain ⟨h3, h4⟩ := f.dm id hp h1
    exact ⟨h3, h4.trans h2⟩
  · intro b hb
    rcases f.newI b hb with h1 | h1 | ⟨id, o, h1, h2⟩
    · exact e.newI b h1
    · exact .inr (.inl (Nat.le_trans e.size h1))
    · rcases e.live id o b h1 h2 with h3 | h3
      · exact .inr (.inl h3)
      · exact .inr (.inr h3)
  · intro id o b ho hm
    rcases f.live id o b ho hm with h1 | ⟨i0, o0, h1, h2⟩
    · exact .inl (Nat.le_trans e.size h1)
    · exact e.live i0 o0 b h1 h2

/-- The relation is kept by a step. -/
structure Keeps (X : Ctx) (w : World) (X' : Ctx) (w' : World) : Prop where
  imm : ∀ b, X.I b → X'.I b
  same : ∀ b, X.I b → w'.heap[b]? = w.heap[b]?
  dm : ∀ id, X.dm id → X'.dm id ∧ X'.mu id = X.mu id
  cnt : ∀ b, b < w.heap.size → cellCount w' b = cellCount w b

theorem Evol.keeps {X Y : Ctx} {w v : World} {h k : Hp} (e : Evol X w h Y v k) (ok : HeapOk w X h) : Keeps X w Y v :=
  ⟨e.imm, fun b hb => e.frame b (ok.ilt b hb) fun id o ho hm => ok.notI id o b ho hm hb, e.dm, e.cnt⟩

theorem Keeps.refl (X : Ctx) (w : World) : Keeps X w X w := ⟨fun _ h => h, fun _ _ => rfl, fun _ h => ⟨h, rfl⟩, fun _ _ => rfl⟩

theorem VRd.mono {X Y : Ctx} {w v : World} (k : Keeps X w Y v) {d : DV} {u : Value} (h : VRd w X d u) : VRd v Y d u := by
  cases d with
  | p x => exact VRp.mono k.imm k.same x u h
  | ptr id off =>
    obtain ⟨hd, b, h1, h2⟩ := h
    obtain ⟨h3, h4⟩ := k.dm id hd
    exact ⟨h3, b, h4.trans h1, h2⟩
  | ref id off n sz =>
    obtain ⟨hd, h⟩ := h
    obtain ⟨h3, h4⟩ := k.dm id hd
    refine ⟨h3, ?_⟩
    rcases h with ⟨h1, h2⟩ | ⟨b, off', cap, h1, h2, h5, h5', h6, h7⟩
    · exact .inl ⟨h4.trans h1, h2⟩
    · refine .inr ⟨b, off', cap, h4.trans h1, h2, h5, h5', h6, ?_⟩
      rcases Nat.lt_or_ge b w.heap.size with hb | hb
      · rw [k.cnt b hb]; exact h7
      · have : cellCount w b = 0 := by simp [cellCount, Array.getElem?_eq_none hb]
        omega

theorem VRd.one {w : World} {X : Ctx} {d : DV} {u : Value} (h : VRd w X d u) : u.oneCell' = true := by
  cases d with
  | p x => exact VRp.one h
  | ptr id off => obtain ⟨_, b, _, rfl⟩ := h; rfl
  | ref id off n sz => obtain ⟨_, ⟨_, _, rfl⟩ | ⟨b, off', cap, _, rfl, _⟩⟩ := h <;> rfl

theorem VRds.mono {X Y : Ctx} {w v : World} (k : Keeps X w Y v) {ds : List DV} {us : List Value} (h : VRds w X ds us) : VRds v Y ds us :=
  ⟨h.1, fun j d u hd hu => (h.2 j d u hd hu).mono k⟩

theorem VRds.one {X : Ctx} {w : World} {ds : List DV} {us : List Value} (h : VRds w X ds us) : ∀ u ∈ us, u.oneCell' = true := by
  intro u hu
  obtain ⟨j, hj, rfl⟩ := List.getElem_of_mem hu
  have hj' : j < ds.length := by rw [h.1]; exact hj
  exact (h.2 j ds[j] us[j] (List.getElem?_eq_getElem hj') (List.getElem?_eq_getElem hj)).one

mutual
theorem TVR.mono {X Y : Ctx} {w v : World} (k : Keeps X w Y v) : ∀ (t : TV) (u : Value), TVR w X t u → TVR v Y t u
  | .c d, u, h => VRd.mono k h
  | .agg ds, u, ⟨cs, h1, h2⟩ => ⟨cs, h1, h2.mono k⟩
  | .tup ts, u, ⟨vs, h1, h2⟩ => ⟨vs, h1, TVRs.mono k ts vs.toList h2⟩
theorem TVRs.mono {X Y : Ctx} {w v : World} (k : Keeps X w Y v) : ∀ (ts : List TV) (us : List Value), TVRs w X ts us → TVRs v Y ts us
  | [], us, h => h
  | t :: ts, us, ⟨u, r, h1, h2, h3⟩ => ⟨u, r, h1, TVR.mono k t u h2, TVRs.mono k ts r h3⟩
end

theorem ObjR.mono {X Y : Ctx} {w v : World} (k : Keeps X w Y v) {id : Nat} {o : Ob} (hb : ∀ b, X.mu id = some b → v.heap[b]? = w.heap[b]?) (h : ObjR w X id o) : ObjR v Y id o := by
  obtain ⟨hd, h⟩ := h
  obtain ⟨h3, h4⟩ := k.dm id hd
  refine ⟨h3, ?_⟩
  rw [h4]
  cases hm : X.mu id with
  | none => rw [hm] at h; exact h
  | some b =>
    rw [hm] at h
    obtain ⟨c, h5, h6, h7⟩ := h
    exact ⟨c, (hb b hm).trans h5, h6, fun j d u hdj huj => (h7 j d u hdj huj).mono k⟩

end Go.Proofs.Ytjieenfbfckafaa.Am

/- The run in a form that works its state out as it goes. -/
import Derived.Test.YtjieenfbfckafaaAmAny
namespace Go.Proofs.Ytjieenfbfckafaa.Am
open Go
set_option linter.unusedVariables false
set_option linter.unusedSimpArgs false

def putK {α : Type} : List (Nat × α) → Nat → α → (List (Nat × α) → Prop) → Prop
  | [], i, x, K => K [(i, x)]
  | (k, v) :: r, i, x, K => match Nat.beq i k with
    | true => K ((i, x) :: r)
    | false => putK r i x fun r' => K ((k, v) :: r')
def delK {α : Type} : List (Nat × α) → Nat → (List (Nat × α) → Prop) → Prop
  | [], i, K => K []
  | (k, v) :: r, i, K => match Nat.beq i k with
    | true => delK r i K
    | false => delK r i fun r' => K ((k, v) :: r')
theorem putK_iff {α : Type} {i : Nat} {x : α} : ∀ {l : List (Nat × α)} {K : List (Nat × α) → Prop}, putK l i x K ↔ K (put l i x)
  | [], K => Iff.rfl
  | (k, v) :: r, K => by
    show (match Nat.beq i k with | true => K ((i, x) :: r) | false => putK r i x fun r' => K ((k, v) :: r')) ↔ K (if i = k then (i, x) :: r else (k, v) :: put r i x)
    cases h : Nat.beq i k with
    | true => rw [if_pos (Nat.eq_of_beq_eq_true h)]
    | false => rw [if_neg (Nat.ne_of_beq_eq_false h)]; exact putK_iff (l := r)
theorem delK_iff {α : Type} {i : Nat} : ∀ {l : List (Nat × α)} {K : List (Nat × α) → Prop}, delK l i K ↔ K (del l i)
  | [], K => Iff.rfl
  | (k, v) :: r, K => by
    show (match Nat.beq i k with | true => delK r i K | false => delK r i fun r' => K ((k, v) :: r')) ↔ K (if i = k then del r i else (k, v) :: del r i)
    cases h : Nat.beq i k with
    | true => rw [if_pos (Nat.eq_of_beq_eq_true h)]; exact delK_iff (l := r)
    | false => rw [if_neg (Nat.ne_of_beq_eq_false h)]; exact delK_iff (l := r)
def updsK : List (Nat × Ob) → List (Nat × Option Ob) → (List (Nat × Ob) → Prop) → Prop
  | h, [], K => K h
  | h, (i, some o) :: r, K => putK h i o fun h' => updsK h' r K
  | h, (i, none) :: r, K => delK h i fun h' => updsK h' r K
theorem updsK_iff : ∀ {wr : List (Nat × Option Ob)} {h : List (Nat × Ob)} {K : List (Nat × Ob) → Prop}, updsK h wr K ↔ K (upds h wr)
  | [], h, K => Iff.rfl
  | (i, some o) :: r, h, K => (putK_iff (K := fun h' => updsK h' r K)).trans (updsK_iff (wr := r))
  | (i, none) :: r, h, K => (delK_iff (K := fun h' => updsK h' r K)).trans (updsK_iff (wr := r))
def setK (env : List (Nat × TV)) (dst : Option Nat) (r : TV) (K : List (Nat × TV) → Prop) : Prop :=
  match dst with
  | some d => putK env d r K
  | none => K env
theorem setK_iff {env : List (Nat × TV)} {dst : Option Nat} {r : TV} {K : List (Nat × TV) → Prop} : setK env dst r K ↔ K (setT env dst r) := by
  cases dst with
  | none => exact Iff.rfl
  | some d => exact putK_iff
def addK (nx nw : Nat) (K : Nat → Prop) : Prop :=
  match nw with
  | 0 => K nx
  | 1 => K (nx + 1)
  | n => K (nx + n)
theorem addK_iff {nx nw : Nat} {K : Nat → Prop} : addK nx nw K ↔ K (nx + nw) := by
  unfold addK
  split <;> exact Iff.rfl
def S.appK (s : S) (dst : Option Nat) (e : Eff) (K : S → Prop) : Prop :=
  match s, e with
  | ⟨env, hp, nx⟩, ⟨r, rd, wr, nw⟩ => setK env dst r fun env' => updsK hp wr fun hp' => addK nx nw fun nx' => K ⟨env', hp', nx'⟩
theorem S.appK_iff {s : S} {dst : Option Nat} {e : Eff} {K : S → Prop} : s.appK dst e K ↔ K (s.app dst e) := by
  obtain ⟨env, hp, nx⟩ := s
  obtain ⟨r, rd, wr, nw⟩ := e
  unfold S.appK
  exact setK_iff.trans (updsK_iff.trans addK_iff)
def S.knownK (s : S) (t : Nat) (b : Bool) (K : S → Prop) : Prop :=
  match s with
  | ⟨env, hp, nx⟩ => putK env t (.c (.p (.v (.bool b)))) fun env' => K ⟨env', hp, nx⟩
theorem S.knownK_iff {s : S} {t : Nat} {b : Bool} {K : S → Prop} : s.knownK t b K ↔ K (s.known t b) := by
  obtain ⟨env, hp, nx⟩ := s
  exact putK_iff
def S.skipK (s : S) (dst : Option Nat) (K : S → Prop) : Prop :=
  match s, dst with
  | ⟨env, hp, nx⟩, some d => putK env d (.tup []) fun env' => K ⟨env', hp, nx⟩
  | s, none => K s
theorem S.skipK_iff {s : S} {dst : Option Nat} {K : S → Prop} : s.skipK dst K ↔ K (s.skip dst) := by
  obtain ⟨env, hp, nx⟩ := s
  cases dst with
  | none => exact Iff.rfl
  | some d => exact putK_iff

def runE (P : Program) : List GOp → S → List (List Nat × List Nat) → (S → List (List Nat × List Nat) → Prop) → Prop
  | [], s, fp, K => K s fp
  | ⟨dst, none, op⟩ :: os, ⟨env, hp, nx⟩, fp, K => op.effN P ⟨env, hp, nx⟩ nx fun e => S.appK ⟨env, hp, nx⟩ dst e fun s' => runE P os s' ((e.acc, e.wrs) :: fp) K
  | ⟨dst, some (t, want), op⟩ :: os, s, fp, K => asG (look s.env t) (fun b => onW want b
      (s.knownK t want fun s' => match s' with | ⟨env, hp, nx⟩ => op.effN P ⟨env, hp, nx⟩ nx fun e => S.appK ⟨env, hp, nx⟩ dst e fun s' => runE P os s' ((e.acc, e.wrs) :: fp) K)
      (s.knownK t (!want) fun s => s.skipK dst fun s' => runE P os s' (([], []) :: fp) K)) (s.skipK dst fun s' => runE P os s' (([], []) :: fp) K)

theorem runE_iff {P : Program} : ∀ {os : List GOp} {s : S} {fp : List (List Nat × List Nat)} {K : S → List (List Nat × List Nat) → Prop}, runE P os s fp K ↔ run P os s fp K
  | [], s, fp, K => Iff.rfl
  | ⟨dst, none, op⟩ :: os, ⟨env, hp, nx⟩, fp, K => by
    have e : ∀ e : Eff, (S.appK ⟨env, hp, nx⟩ dst e fun s' => runE P os s' ((e.acc, e.wrs) :: fp) K) = run P os (S.app ⟨env, hp, nx⟩ dst e) ((e.acc, e.wrs) :: fp) K := fun e => propext (S.appK_iff.trans runE_iff)
    unfold runE run
    simp only [e]
  | ⟨dst, some (t, want), op⟩ :: os, ⟨env, hp, nx⟩, fp, K => by
    have e : ∀ (s : S) (e : Eff), (s.appK dst e fun s' => runE P os s' ((e.acc, e.wrs) :: fp) K) = run P os (s.app dst e) ((e.acc, e.wrs) :: fp) K := fun s e => propext (S.appK_iff.trans runE_iff)
    have e2 : ∀ (s : S), (s.skipK dst fun s' => runE P os s' (([], []) :: fp) K) = run P os (s.skip dst) (([], []) :: fp) K := fun s => propext (S.skipK_iff.trans runE_iff)
    unfold runE run
    simp only [S.knownK_iff, e, e2]
/-- The same of a region in the text's order: nothing is noted. -/
def runN (P : Program) : List GOp → S → (S → Prop) → Prop
  | [], s, K => K s
  | ⟨dst, none, op⟩ :: os, ⟨env, hp, nx⟩, K => op.effN P ⟨env, hp, nx⟩ nx fun e => S.appK ⟨env, hp, nx⟩ dst e fun s' => runN P os s' K
  | ⟨dst, some (t, want), op⟩ :: os, s, K => asG (look s.env t) (fun b => onW want b
      (s.knownK t want fun s' => match s' with | ⟨env, hp, nx⟩ => op.effN P ⟨env, hp, nx⟩ nx fun e => S.appK ⟨env, hp, nx⟩ dst e fun s' => runN P os s' K)
      (s.knownK t (!want) fun s => s.skipK dst fun s' => runN P os s' K)) (s.skipK dst fun s' => runN P os s' K)
theorem runN_iff {P : Program} : ∀ {os : List GOp} {s : S} {fp : List (List Nat × List Nat)} {K : S → Prop}, runN P os s K ↔ run P os s fp fun s' _ => K s'
  | [], s, fp, K => Iff.rfl
  | ⟨dst, none, op⟩ :: os, ⟨env, hp, nx⟩, fp, K => by
    have e : ∀ e : Eff, (S.appK ⟨env, hp, nx⟩ dst e fun s' => runN P os s' K) = run P os (S.app ⟨env, hp, nx⟩ dst e) ((e.acc, e.wrs) :: fp) fun s' _ => K s' := fun e => propext (S.appK_iff.trans runN_iff)
    unfold runN run
    simp only [e]
  | ⟨dst, some (t, want), op⟩ :: os, ⟨env, hp, nx⟩, fp, K => by
    have e : ∀ (s : S) (e : Eff), (s.appK dst e fun s' => runN P os s' K) = run P os (s.app dst e) ((e.acc, e.wrs) :: fp) fun s' _ => K s' := fun s e => propext (S.appK_iff.trans runN_iff)
    have e2 : ∀ (s : S), (s.skipK dst fun s' => runN P os s' K) = run P os (s.skip dst) (([], []) :: fp) fun s' _ => K s' := fun s => propext (S.skipK_iff.trans runN_iff)
    unfold runN run
    simp only [S.knownK_iff, e, e2]
end Go.Proofs.Ytjieenfbfckafaa.Am

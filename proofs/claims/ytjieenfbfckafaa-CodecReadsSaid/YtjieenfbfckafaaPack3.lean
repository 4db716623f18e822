/- The abstract machine, part 3. -/
import Derived.Carry
import Derived.ChangeSame
import Derived.Deep.Slices
import Derived.JoinedCond
import Derived.OpenShut
import Derived.ProofKit
import Derived.WideKeyArgs
import Derived.Test.YtjieenfbfckafaaPack2
/- The run in a form that works its state out as it goes. -/
namespace Go.Proofs.Ytjieenfbfckafaa.Am
open Go
set_option linter.unusedVariables false
set_option linter.unusedSimpArgs false

def putK {α : Type} : List (Nat × α) → Nat → α → (List (Nat × α) → Prop) → Prop
  | [], i, x, K => K [(i, x)]
  | (k, v) :: r, i, x, K => match Nat.beq i k with
    | true => K ((i, x) :: r)
    | false => putK r i x fun r' => K ((k, v) :: r')
def delK {α : Type} : List (Nat × α) → Nat → (List (Nat × α) → Prop) → Prop
  | [], i, K => K []
  | (k, v) :: r, i, K => match Nat.beq i k with
    | true => delK r i K
    | false => delK r i fun r' => K ((k, v) :: r')
theorem putK_iff {α : Type} {i : Nat} {x : α} : ∀ {l : List (Nat × α)} {K : List (Nat × α) → Prop}, putK l i x K ↔ K (put l i x)
  | [], K => Iff.rfl
  | (k, v) :: r, K => by
    show (match Nat.beq i k with | true => K ((i, x) :: r) | false => putK r i x fun r' => K ((k, v) :: r')) ↔ K (if i = k then (i, x) :: r else (k, v) :: put r i x)
    cases h : Nat.beq i k with
    | true => rw [if_pos (Nat.eq_of_beq_eq_true h)]
    | false => rw [if_neg (Nat.ne_of_beq_eq_false h)]; exact putK_iff (l := r)
theorem delK_iff {α : Type} {i : Nat} : ∀ {l : List (Nat × α)} {K : List (Nat × α) → Prop}, delK l i K ↔ K (del l i)
  | [], K => Iff.rfl
  | (k, v) :: r, K => by
    show (match Nat.beq i k with | true => delK r i K | false => delK r i fun r' => K ((k, v) :: r')) ↔ K (if i = k then del r i else (k, v) :: del r i)
    cases h : Nat.beq i k with
    | true => rw [if_pos (Nat.eq_of_beq_eq_true h)]; exact delK_iff (l := r)
    | false => rw [if_neg (Nat.ne_of_beq_eq_false h)]; exact delK_iff (l := r)
def updsK : List (Nat × Ob) → List (Nat × Option Ob) → (List (Nat × Ob) → Prop) → Prop
  | h, [], K => K h
  | h, (i, some o) :: r, K => putK h i o fun h' => updsK h' r K
  | h, (i, none) :: r, K => delK h i fun h' => updsK h' r K
theorem updsK_iff : ∀ {wr : List (Nat × Option Ob)} {h : List (Nat × Ob)} {K : List (Nat × Ob) → Prop}, updsK h wr K ↔ K (upds h wr)
  | [], h, K => Iff.rfl
  | (i, some o) :: r, h, K => (putK_iff (K := fun h' => updsK h' r K)).trans (updsK_iff (wr := r))
  | (i, none) :: r, h, K => (delK_iff (K := fun h' => updsK h' r K)).trans (updsK_iff (wr := r))
def setK (env : List (Nat × TV)) (dst : Option Nat) (r : TV) (K : List (Nat × TV) → Prop) : Prop :=
  match dst with
  | some d => putK env d r K
  | none => K env
theorem setK_iff {env : List (Nat × TV)} {dst : Option Nat} {r : TV} {K : List (Nat × TV) → Prop} : setK env dst r K ↔ K (setT env dst r) := by
  cases dst with
  | none => exact Iff.rfl
  | some d => exact putK_iff
def addK (nx nw : Nat) (K : Nat → Prop) : Prop :=
  match nw with
  | 0 => K nx
  | 1 => K (nx + 1)
  | n => K (nx + n)
theorem addK_iff {nx nw : Nat} {K : Nat → Prop} : addK nx nw K ↔ K (nx + nw) := by
  unfold addK
  split <;> exact Iff.rfl
def S.appK (s : S) (dst : Option Nat) (e : Eff) (K : S → Prop) : Prop :=
  match s, e with
  | ⟨env, hp, nx⟩, ⟨r, rd, wr, nw⟩ => setK env dst r fun env' => updsK hp wr fun hp' => addK nx nw fun nx' => K ⟨env', hp', nx'⟩
theorem S.appK_iff {s : S} {dst : Option Nat} {e : Eff} {K : S → Prop} : s.appK dst e K ↔ K (s.app dst e) := by
  obtain ⟨env, hp, nx⟩ := s
  obtain ⟨r, rd, wr, nw⟩ := e
  unfold S.appK
  exact setK_iff.trans (updsK_iff.trans addK_iff)
def S.knownK (s : S) (t : Nat) (b : Bool) (K : S → Prop) : Prop :=
  match s with
  | ⟨env, hp, nx⟩ => putK env t (.c (.p (.v (.bool b)))) fun env' => K ⟨env', hp, nx⟩
theorem S.knownK_iff {s : S} {t : Nat} {b : Bool} {K : S → Prop} : s.knownK t b K ↔ K (s.known t b) := by
  obtain ⟨env, hp, nx⟩ := s
  exact putK_iff
def S.skipK (s : S) (dst : Option Nat) (K : S → Prop) : Prop :=
  match s, dst with
  | ⟨env, hp, nx⟩, some d => putK env d (.tup []) fun env' => K ⟨env', hp, nx⟩
  | s, none => K s
theorem S.skipK_iff {s : S} {dst : Option Nat} {K : S → Prop} : s.skipK dst K ↔ K (s.skip dst) := by
  obtain ⟨env, hp, nx⟩ := s
  cases dst with
  | none => exact Iff.rfl
  | some d => exact putK_iff

/-- One operation, then what R says of the rest. The recursion below is List.rec itself, so that whnf and the kernel meet the same terms (a stop with many guards ahead of it is else exponential). -/
def stepE (P : Program) (g : GOp) (R : S → List (List Nat × List Nat) → (S → List (List Nat × List Nat) → Prop) → Prop) (s : S) (fp : List (List Nat × List Nat)) (K : S → List (List Nat × List Nat) → Prop) : Prop :=
  match g, s with
  | ⟨dst, none, op⟩, ⟨env, hp, nx⟩ => op.effN P ⟨env, hp, nx⟩ nx fun e => S.appK ⟨env, hp, nx⟩ dst e fun s' => R s' ((e.acc, e.wrs) :: fp) K
  | ⟨dst, some (t, want), op⟩, s => asG (look s.env t) (fun b => onW want b
      (s.knownK t want fun s' => match s' with | ⟨env, hp, nx⟩ => op.effN P ⟨env, hp, nx⟩ nx fun e => S.appK ⟨env, hp, nx⟩ dst e fun s' => R s' ((e.acc, e.wrs) :: fp) K)
      (s.knownK t (!want) fun s => s.skipK dst fun s' => R s' (([], []) :: fp) K)) (s.skipK dst fun s' => R s' (([], []) :: fp) K)
def runE (P : Program) (os : List GOp) : S → List (List Nat × List Nat) → (S → List (List Nat × List Nat) → Prop) → Prop :=
  @List.rec GOp (fun _ => S → List (List Nat × List Nat) → (S → List (List Nat × List Nat) → Prop) → Prop) (fun s fp K => K s fp) (fun g _ R s fp K => stepE P g R s fp K) os
theorem runE_cons {P : Program} {g : GOp} {os : List GOp} {s : S} {fp : List (List Nat × List Nat)} {K : S → List (List Nat × List Nat) → Prop} : runE P (g :: os) s fp K = stepE P g (runE P os) s fp K := rfl

theorem runE_iff {P : Program} : ∀ {os : List GOp} {s : S} {fp : List (List Nat × List Nat)} {K : S → List (List Nat × List Nat) → Prop}, runE P os s fp K ↔ run P os s fp K
  | [], s, fp, K => Iff.rfl
  | ⟨dst, none, op⟩ :: os, ⟨env, hp, nx⟩, fp, K => by
    have e : ∀ e : Eff, (S.appK ⟨env, hp, nx⟩ dst e fun s' => runE P os s' ((e.acc, e.wrs) :: fp) K) = run P os (S.app ⟨env, hp, nx⟩ dst e) ((e.acc, e.wrs) :: fp) K := fun e => propext (S.appK_iff.trans runE_iff)
    rw [runE_cons]
    unfold stepE run
    simp only [e]
  | ⟨dst, some (t, want), op⟩ :: os, ⟨env, hp, nx⟩, fp, K => by
    have e : ∀ (s : S) (e : Eff), (s.appK dst e fun s' => runE P os s' ((e.acc, e.wrs) :: fp) K) = run P os (s.app dst e) ((e.acc, e.wrs) :: fp) K := fun s e => propext (S.appK_iff.trans runE_iff)
    have e2 : ∀ (s : S), (s.skipK dst fun s' => runE P os s' (([], []) :: fp) K) = run P os (s.skip dst) (([], []) :: fp) K := fun s => propext (S.skipK_iff.trans runE_iff)
    rw [runE_cons]
    unfold stepE run
    simp only [S.knownK_iff, e, e2]
/-- The same of a region in the text's order: nothing is noted. -/
def stepN (P : Program) (g : GOp) (R : S → (S → Prop) → Prop) (s : S) (K : S → Prop) : Prop :=
  match g, s with
  | ⟨dst, none, op⟩, ⟨env, hp, nx⟩ => op.effN P ⟨env, hp, nx⟩ nx fun e => S.appK ⟨env, hp, nx⟩ dst e fun s' => R s' K
  | ⟨dst, some (t, want), op⟩, s => asG (look s.env t) (fun b => onW want b
      (s.knownK t want fun s' => match s' with | ⟨env, hp, nx⟩ => op.effN P ⟨env, hp, nx⟩ nx fun e => S.appK ⟨env, hp, nx⟩ dst e fun s' => R s' K)
      (s.knownK t (!want) fun s => s.skipK dst fun s' => R s' K)) (s.skipK dst fun s' => R s' K)
def runN (P : Program) (os : List GOp) : S → (S → Prop) → Prop :=
  @List.rec GOp (fun _ => S → (S → Prop) → Prop) (fun s K => K s) (fun g _ R s K => stepN P g R s K) os
theorem runN_cons {P : Program} {g : GOp} {os : List GOp} {s : S} {K : S → Prop} : runN P (g :: os) s K = stepN P g (runN P os) s K := rfl
theorem runN_iff {P : Program} : ∀ {os : List GOp} {s : S} {fp : List (List Nat × List Nat)} {K : S → Prop}, runN P os s K ↔ run P os s fp fun s' _ => K s'
  | [], s, fp, K => Iff.rfl
  | ⟨dst, none, op⟩ :: os, ⟨env, hp, nx⟩, fp, K => by
    have e : ∀ e : Eff, (S.appK ⟨env, hp, nx⟩ dst e fun s' => runN P os s' K) = run P os (S.app ⟨env, hp, nx⟩ dst e) ((e.acc, e.wrs) :: fp) fun s' _ => K s' := fun e => propext (S.appK_iff.trans runN_iff)
    rw [runN_cons]
    unfold stepN run
    simp only [e]
  | ⟨dst, some (t, want), op⟩ :: os, ⟨env, hp, nx⟩, fp, K => by
    have e : ∀ (s : S) (e : Eff), (s.appK dst e fun s' => runN P os s' K) = run P os (s.app dst e) ((e.acc, e.wrs) :: fp) fun s' _ => K s' := fun s e => propext (S.appK_iff.trans runN_iff)
    have e2 : ∀ (s : S), (s.skipK dst fun s' => runN P os s' K) = run P os (s.skip dst) (([], []) :: fp) fun s' _ => K s' := fun s => propext (S.skipK_iff.trans runN_iff)
    rw [runN_cons]
    unfold stepN run
    simp only [S.knownK_iff, e, e2]
end Go.Proofs.Ytjieenfbfckafaa.Am
/- The abstract machine's code: what it asks for of the state ahead of it, and that it is right. -/
namespace Go.Proofs.Ytjieenfbfckafaa.Am
open Go
set_option linter.unusedVariables false
set_option linter.unusedSimpArgs false

/-- Another view of the same: names below p stay. -/
def Wk (p : Nat) (s s' : S) : Prop := ∀ N X a w, Rel N X s a w → ∃ X', Rel N X' s' a w ∧ EvolP p X w (look s.hp) X' w (look s'.hp)
theorem Wk.refl (p : Nat) (s : S) : Wk p s s := fun N X a w r => ⟨X, r, (Evol.refl _ _ _).toP p⟩
theorem Wk.trans {p : Nat} {s s' s'' : S} (h : Wk p s s') (h' : Wk p s' s'') : Wk p s s'' := fun N X a w r => by
  obtain ⟨X1, r1, e1⟩ := h N X a w r
  obtain ⟨X2, r2, e2⟩ := h' N X1 a w r1
  exact ⟨X2, r2, e1.trans e2⟩

/-- The temporaries that are still looked at, in this order. -/
def keepT : List Nat → List (Nat × TV) → List (Nat × TV)
  | [], _ => []
  | k :: ks, env => match look env k with
    | some v => (k, v) :: keepT ks env
    | none => keepT ks env
def S.keep (ks : List Nat) (s : S) : S := ⟨keepT ks s.env, s.hp, s.nx⟩
theorem look_keepT {env : List (Nat × TV)} {t : Nat} {d : TV} : ∀ {ks : List Nat}, look (keepT ks env) t = some d → look env t = some d
  | [], h => by cases h
  | k :: ks, h => by
    unfold keepT at h
    split at h
    · rename_i v hv
      simp only [look_cons, look_nil] at h
      split at h
      · rename_i e; cases h; rw [e]; exact hv
      · exact look_keepT h
    · exact look_keepT h
def keepTK : List Nat → List (Nat × TV) → (List (Nat × TV) → Prop) → Prop
  | [], _, K => K []
  | k :: ks, env, K => match look env k with
    | some v => keepTK ks env fun r => K ((k, v) :: r)
    | none => keepTK ks env K
theorem keepTK_iff {env : List (Nat × TV)} : ∀ {ks : List Nat} {K : List (Nat × TV) → Prop}, keepTK ks env K ↔ K (keepT ks env)
  | [], K => Iff.rfl
  | k :: ks, K => by
    unfold keepTK keepT
    split <;> exact keepTK_iff
def S.keepK (ks : List Nat) (s : S) (K : S → Prop) : Prop :=
  match s with
  | ⟨env, hp, nx⟩ => keepTK ks env fun env' => K ⟨env', hp, nx⟩
theorem S.keepK_iff {ks : List Nat} {s : S} {K : S → Prop} : s.keepK ks K ↔ K (s.keep ks) := by
  obtain ⟨env, hp, nx⟩ := s
  exact keepTK_iff
theorem Rel.keep {N : NN} {X : Ctx} {s : S} {a : Act} {w : World} (ks : List Nat) (r : Rel N X s a w) : Rel N X (s.keep ks) a w :=
  ⟨r.df, r.sz, fun t d h => r.env t d (look_keepT h), r.ok, r.wf, r.dm⟩

inductive ACode where
  | skip
  | reg (gs : List GOp) (bits : Option (List Nat)) (ks : List Nat)
  | seq (a b : ACode)
  | cut (a b : ACode)
  | ghost (a : ACode)
  | cond (c : Opd) (a b : ACode)
  | block (id : Nat) (a : ACode)
  | loop (a : ACode)
  | exit (id : Nat)
  | ret

def ACode.fits (P : Program) (N : Nat) : ACode → Code → Bool
  | .skip, .skip => true
  | .reg gs none _, .region _ ops false => gfits P N ops gs ops.toList
  | .reg gs (some bits) _, .region _ ops true => gfits P N ops gs ops.toList && drawFits bits gs ops
  | .seq a b, .seq x y => a.fits P N x && b.fits P N y
  | .cut a b, .seq x y => a.fits P N x && b.fits P N y
  | .ghost a, x => a.fits P N x
  | .cond c a b, .cond c' x y => c.fits c' && a.fits P N x && b.fits P N y
  | .block id a, .block id' x => decide (id = id') && a.fits P N x
  | .loop a, .loop x => a.fits P N x
  | .exit id, .exit id' => decide (id = id')
  | .ret, .ret => true
  | _, _ => false

def thenA (K : S → Prop) (Q : Exit → S → Prop) : Exit → S → Prop
  | .normal, s => K s
  | e, s => Q e s
def inA (id : Nat) (Q : Exit → S → Prop) : Exit → S → Prop
  | .exit id', s => match Nat.beq id' id with
    | true => Q .normal s
    | false => Q (.exit id') s
  | e, s => Q e s
theorem inA_exit {id id' : Nat} {Q : Exit → S → Prop} {s : S} : inA id Q (.exit id') s ↔ (id' = id → Q .normal s) ∧ (id' ≠ id → Q (.exit id') s) := by
  show (match Nat.beq id' id with | true => _ | false => _) ↔ _
  cases h : Nat.beq id' id with
  | true => simp [Nat.eq_of_beq_eq_true h]
  | false => simp [Nat.ne_of_beq_eq_false h]

def aw (P : Program) (p : Nat) : ACode → (Exit → S → Prop) → S → Prop
  | .skip, Q, s => Q .normal s
  | .reg gs none ks, Q, s => runN P gs s fun s' => s'.keepK ks (Q .normal)
  | .reg gs (some bits) ks, Q, s => runE P gs s [] fun s' fp => chkDraw bits fp.reverse = true ∧ s'.keepK ks (Q .normal)
  | .seq a b, Q, s => aw P p a (thenA (aw P p b Q) Q) s
  | .cut a b, Q, s => ∃ J : S → Prop, aw P p a (thenA J Q) s ∧ ∀ s', J s' → aw P p b Q s'
  | .ghost a, Q, s => ∃ s', Wk p s s' ∧ aw P p a Q s'
  | .cond c a b, Q, s => asB (ev s c) fun v => onB v (aw P p a Q s) (aw P p b Q s)
  | .block id a, Q, s => aw P p a (inA id Q) s
  | .loop a, Q, s => ∃ (I : Nat → S → Prop) (n : Nat) (s0 : S), Wk p s s0 ∧ I n s0 ∧ ∀ n s, I n s → aw P p a (thenA (fun s' => ∃ n' s'', n' < n ∧ Wk p s' s'' ∧ I n' s'') Q) s
  | .exit id, Q, s => Q (.exit id) s
  | .ret, Q, s => Q .ret s

/-- Code does what is asked for. -/
def AWp (P : Program) (N : NN) (p : Nat) (c : Code) (Q : Exit → S → Prop) (s : S) : Prop :=
  ∀ X a w, Rel N X s a w → c.wp P (fun e a' w' => ∃ s' X', Q e s' ∧ Rel N X' s' a' w' ∧ EvolP p X w (look s.hp) X' w' (look s'.hp)) a w

theorem aw_sound {P : Program} {N : NN} {p : Nat} (hm : P.follows .mixedOrders = true) : ∀ (ac : ACode) (c : Code) (Q : Exit → S → Prop) (s : S), ac.fits P N.n c = true → aw P p ac Q s → AWp P N p c Q s := by
  intro ac
  induction ac with
  | skip =>
    intro c Q s hf h X a w r
    cases c <;> simp only [ACode.fits] at hf <;> try cases hf
    exact wp_skip ⟨s, X, h, r, (Evol.refl _ _ _).toP p⟩
  | reg gs bits ks =>
    intro c Q s hf h X a w r
    cases c <;> (try (cases bits <;> simp [ACode.fits] at hf; done))
    rename_i id ops draw
    cases bits with
    | none =>
      cases draw <;> simp [ACode.fits] at hf
      have h : runN P gs s fun s' => s'.keepK ks (Q .normal) := h
      rw [runN_iff (fp := [])] at h
      simp only [S.keepK_iff] at h
      refine wp_region_list (run_seq gs ops.toList s [] _ X a w hf h r fun s' fp' X' a' w' hk r' ev => ?_)
      exact ⟨_, X', hk, r'.keep ks, ev.toP p⟩
    | some bits =>
      cases draw <;> simp [ACode.fits] at hf
      have h : runE P gs s [] fun s' fp => chkDraw bits fp.reverse = true ∧ s'.keepK ks (Q .normal) := h
      simp only [runE_iff, S.keepK_iff] at h
      refine run_any hm hf.1 hf.2 h r fun s' fp' X' a' w' hk r' ev => ?_
      exact ⟨_, X', hk, r'.keep ks, ev.toP p⟩
  | seq x y ihx ihy =>
    intro c Q s hf h X a w r
    cases c <;> simp only [ACode.fits] at hf <;> try cases hf
    rename_i cx cy
    rw [Bool.and_eq_true] at hf
    refine wp_seq (wp_mono (ihx cx _ s hf.1 h X a w r) ?_)
    rintro e a' w' ⟨s', X', hq, r', ev⟩
    cases e
    case normal =>
      refine wp_mono (ihy cy Q s' hf.2 hq X' a' w' r') ?_
      rintro e a'' w'' ⟨s'', X'', hq', r'', ev'⟩
      exact ⟨s'', X'', hq', r'', ev.trans ev'⟩
    all_goals exact ⟨s', X', hq, r', ev⟩
  | cut x y ihx ihy =>
    intro c Q s hf h X a w r
    cases c <;> simp only [ACode.fits] at hf <;> try cases hf
    rename_i cx cy
    rw [Bool.and_eq_true] at hf
    obtain ⟨J, h1, h2⟩ := h
    refine wp_seq (wp_mono (ihx cx _ s hf.1 h1 X a w r) ?_)
    rintro e a' w' ⟨s', X', hq, r', ev⟩
    cases e
    case normal =>
      refine wp_mono (ihy cy Q s' hf.2 (h2 s' hq) X' a' w' r') ?_
      rintro e a'' w'' ⟨s'', X'', hq', r'', ev'⟩
      exact ⟨s'', X'', hq', r'', ev.trans ev'⟩
    all_goals exact ⟨s', X', hq, r', ev⟩
  | ghost x ih =>
    intro c Q s hf h X a w r
    obtain ⟨s1, hwk, h⟩ := h
    obtain ⟨X1, r1, e1⟩ := hwk N X a w r
    have hf : x.fits P N.n c = true := by
      rw [ACode.fits] at hf
      exact hf
    refine wp_mono (ih c Q s1 hf h X1 a w r1) ?_
    rintro e a' w' ⟨s', X', hq, r', ev⟩
    exact ⟨s', X', hq, r', e1.trans ev⟩
  | cond c0 x y ihx ihy =>
    intro c Q s hf h X a w r
    cases c <;> simp only [ACode.fits] at hf <;> try cases hf
    rename_i c' cx cy
    rw [Bool.and_eq_true, Bool.and_eq_true] at hf
    obtain ⟨v, hv, h0⟩ := asB_some h
    obtain ⟨h1, h2⟩ := onB_iff.1 h0
    clear h0
    have hc := ev_sound (w := w) (X := X) (a := a) hf.1.1 (fun t _ d ht => (r.env t d ht).2) hv
    have hc := tvr_v hc
    cases v with
    | true => exact wp_cond_true hc (ihx cx Q s hf.1.2 (h1 rfl) X a w r)
    | false => exact wp_cond_false hc (ihy cy Q s hf.2 (h2 rfl) X a w r)
  | block id x ih =>
    intro c Q s hf h X a w r
    cases c <;> simp only [ACode.fits] at hf <;> try cases hf
    rename_i id' cx
    rw [Bool.and_eq_true, decide_eq_true_eq] at hf
    obtain ⟨rfl, hf⟩ := hf
    refine wp_block (wp_mono (ih cx _ s hf h X a w r) ?_)
    rintro e a' w' ⟨s', X', hq, r', ev⟩
    cases e
    case exit id' =>
      show if id' = id then _ else _
      split
      · rename_i e; exact ⟨s', X', (inA_exit.1 hq).1 e, r', ev⟩
      · rename_i e; exact ⟨s', X', (inA_exit.1 hq).2 e, r', ev⟩
    all_goals exact ⟨s', X', hq, r', ev⟩
  | loop x ih =>
    intro c Q s hf h X a w r
    cases c <;> simp only [ACode.fits] at hf <;> try cases hf
    rename_i cx
    obtain ⟨I, n, s0, hwk, hI, hround⟩ := h
    obtain ⟨X0, r0, e0⟩ := hwk N X a w r
    refine wp_loop_ghost (fun n a' w' => ∃ s' X', I n s' ∧ Rel N X' s' a' w' ∧ EvolP p X w (look s.hp) X' w' (look s'.hp)) n ⟨s0, X0, hI, r0, e0⟩ ?_
    rintro n a1 w1 ⟨s1, X1, hI1, r1, e1⟩
    refine wp_mono (ih cx _ s1 hf (hround n s1 hI1) X1 a1 w1 r1) ?_
    rintro e a' w' ⟨s', X', hq, r', ev⟩
    cases e
    case normal =>
      obtain ⟨n', s'', hlt, hwk', hI'⟩ := hq
      obtain ⟨X'', r'', e''⟩ := hwk' N X' a' w' r'
      exact ⟨n', hlt, s'', X'', hI', r'', (e1.trans ev).trans e''⟩
    all_goals exact ⟨s', X', hq, r', e1.trans ev⟩
  | exit id =>
    intro c Q s hf h X a w r
    cases c <;> simp only [ACode.fits] at hf <;> try cases hf
    simp only [decide_eq_true_eq] at hf
    subst hf
    exact wp_exit ⟨s, X, h, r, (Evol.refl _ _ _).toP p⟩
  | ret =>
    intro c Q s hf h X a w r
    cases c <;> simp only [ACode.fits] at hf <;> try cases hf
    exact wp_ret ⟨s, X, h, r, (Evol.refl _ _ _).toP p⟩

/-! ### The walk's steps: what comes behind stands in a variable -/
section
variable {P : Program} {p : Nat}
theorem aw_seq {x y : ACode} {Q : Exit → S → Prop} {s : S} (h : ∀ K : S → Prop, (∀ s, aw P p y Q s → K s) → aw P p x (thenA K Q) s) : aw P p (.seq x y) Q s := h _ fun _ h => h
theorem aw_cut {x y : ACode} {Q : Exit → S → Prop} {s : S} (J : S → Prop) (h : ∀ K : S → Prop, (∀ s, J s → K s) → aw P p x (thenA K Q) s) (h' : ∀ s', J s' → aw P p y Q s') : aw P p (.cut x y) Q s := ⟨J, h J fun _ h => h, h'⟩
theorem aw_ghost {x : ACode} {Q : Exit → S → Prop} {s : S} (s' : S) (h : Wk p s s') (h' : aw P p x Q s') : aw P p (.ghost x) Q s := ⟨s', h, h'⟩
theorem aw_loop {x : ACode} {Q : Exit → S → Prop} {s : S} (I : Nat → S → Prop) (n : Nat) (s0 : S) (h0 : Wk p s s0) (hI : I n s0)
    (round : ∀ n s, I n s → ∀ K : S → Prop, (∀ s' n' s'', n' < n → Wk p s' s'' → I n' s'' → K s') → aw P p x (thenA K Q) s) : aw P p (.loop x) Q s :=
  ⟨I, n, s0, h0, hI, fun n s h => round n s h _ fun s' n' s'' h1 h2 h3 => ⟨n', s'', h1, h2, h3⟩⟩
end
end Go.Proofs.Ytjieenfbfckafaa.Am
/- Other views of a state: fewer temporaries, other names, objects that stay as they are from now on, nil slices as objects. -/
namespace Go.Proofs.Ytjieenfbfckafaa.Am
open Go
set_option linter.unusedVariables false
set_option linter.unusedSimpArgs false

/-! ### Other names -/
/-- The old name of a new one. -/
def oldOf (p nx : Nat) (g : List (Nat × Nat)) (id : Nat) : Nat := if id < p then id else (look g id).getD nx
def SubO (a : Option TV) (b : TV) : Prop :=
  match a with
  | some a => Sub a b
  | none => False
theorem SubO.of {a : Option TV} {b : TV} (h : a = some b) : SubO a b := by subst h; exact Sub.refl b
theorem SubO.of_sub {a : TV} {b : TV} (h : Sub a b) : SubO (some a) b := h
def EnvRen (f : Nat → Nat) (env : List (Nat × TV)) : List (Nat × TV) → Prop
  | [] => True
  | (t, d) :: r => SubO (look env t) (d.ren f) ∧ EnvRen f env r
def HpRen (f : Nat → Nat) (hp : List (Nat × Ob)) : List (Nat × Ob) → Prop
  | [] => True
  | (i, o) :: r => look hp (f i) = some (o.ren f) ∧ HpRen f hp r
def namesOk (p nx : Nat) : List (Nat × Nat) → Bool
  | [] => true
  | (a, b) :: r => decide (p ≤ a) && decide (a < nx) && decide (p ≤ b) && (r.all fun q => !(q.2 == b) && !(q.1 == a)) && namesOk p nx r
theorem EnvRen.get {f : Nat → Nat} {env : List (Nat × TV)} : ∀ {l : List (Nat × TV)}, EnvRen f env l → ∀ {t : Nat} {d : TV}, look l t = some d → SubO (look env t) (d.ren f)
  | [], _, t, d, h => by cases h
  | (k, v) :: r, hh, t, d, h => by
    simp only [look_cons, look_nil] at h
    split at h
    · rename_i e; cases h; subst e; exact hh.1
    · exact hh.2.get h
theorem HpRen.get {f : Nat → Nat} {hp : List (Nat × Ob)} : ∀ {l : List (Nat × Ob)}, HpRen f hp l → ∀ {i : Nat} {o : Ob}, look l i = some o → look hp (f i) = some (o.ren f)
  | [], _, t, d, h => by cases h
  | (k, v) :: r, hh, t, d, h => by
    simp only [look_cons, look_nil] at h
    split at h
    · rename_i e; cases h; subst e; exact hh.1
    · exact hh.2.get h
theorem namesOk_mem {p nx : Nat} : ∀ {g : List (Nat × Nat)}, namesOk p nx g = true → ∀ a b, (a, b) ∈ g → p ≤ a ∧ a < nx ∧ p ≤ b
  | [], _, a, b, h => by cases h
  | (a0, b0) :: r, hh, a, b, h => by
    simp only [namesOk, Bool.and_eq_true, decide_eq_true_eq] at hh
    rcases List.mem_cons.1 h with h | h
    · cases h; exact ⟨hh.1.1.1.1, hh.1.1.1.2, hh.1.1.2⟩
    · exact namesOk_mem hh.2 a b h
theorem look_has {α : Type} : ∀ {l : List (Nat × α)} {i : Nat} {x : α}, look l i = some x → (i, x) ∈ l
  | (k, v) :: r, i, x, h => by
    simp only [look_cons, look_nil] at h
    split at h
    · rename_i e; cases h; subst e; simp
    · exact List.mem_cons_of_mem _ (look_has h)
theorem namesOk_inj {p nx : Nat} : ∀ {g : List (Nat × Nat)}, namesOk p nx g = true → ∀ i j b, look g i = some b → look g j = some b → i = j
  | [], _, i, j, b, h, _ => by cases h
  | (a0, b0) :: r, hh, i, j, b, hi, hj => by
    simp only [namesOk, Bool.and_eq_true, decide_eq_true_eq, List.all_eq_true, Bool.not_eq_true', beq_eq_false_iff_ne] at hh
    simp only [look_cons, look_nil] at hi hj
    by_cases h1 : i = a0 <;> by_cases h2 : j = a0
    · rw [h1, h2]
    · rw [if_pos h1] at hi; rw [if_neg h2] at hj
      cases hi
      exact absurd rfl (hh.1.2 _ (look_has hj)).1
    · rw [if_neg h1] at hi; rw [if_pos h2] at hj
      cases hj
      exact absurd rfl (hh.1.2 _ (look_has hi)).1
    · rw [if_neg h1] at hi; rw [if_neg h2] at hj
      exact namesOk_inj hh.2 i j b hi hj

section
variable {p nx : Nat} {g : List (Nat × Nat)} {X X' : Ctx} {w : World} {f : Nat → Nat}

theorem VRd.names (hI : X'.I = X.I) (hd : ∀ id, X.dm (f id) → X'.dm id ∧ X'.mu id = X.mu (f id)) {d : DV} {u : Value} (h : VRd w X (d.ren f) u) : VRd w X' d u := by
  cases d with
  | p x => show VRp w X'.I x u; rw [hI]; exact h
  | ptr id off =>
    obtain ⟨h1, b, h2, h3⟩ := h
    obtain ⟨h4, h5⟩ := hd id h1
    exact ⟨h4, b, h5.trans h2, h3⟩
  | ref id off n sz =>
    obtain ⟨h1, h⟩ := h
    obtain ⟨h4, h5⟩ := hd id h1
    exact ⟨h4, by rw [h5]; exact h⟩
theorem VRds.names (hI : X'.I = X.I) (hd : ∀ id, X.dm (f id) → X'.dm id ∧ X'.mu id = X.mu (f id)) {ds : List DV} {us : List Value} (h : VRds w X (ds.map (DV.ren f)) us) : VRds w X' ds us := by
  refine ⟨by simpa using h.1, fun j d u hj hu => (h.2 j (d.ren f) u (by rw [List.getElem?_map, hj]; rfl) hu).names hI hd⟩
mutual
theorem TVR.names (hI : X'.I = X.I) (hd : ∀ id, X.dm (f id) → X'.dm id ∧ X'.mu id = X.mu (f id)) : ∀ (t : TV) (u : Value), TVR w X (t.ren f) u → TVR w X' t u
  | .c d, u, h => VRd.names (d := d) hI hd h
  | .agg ds, u, ⟨cs, h1, h2⟩ => ⟨cs, h1, h2.names hI hd⟩
  | .tup ts, u, ⟨vs, h1, h2⟩ => ⟨vs, h1, TVRs.names hI hd ts vs.toList h2⟩
theorem TVRs.names (hI : X'.I = X.I) (hd : ∀ id, X.dm (f id) → X'.dm id ∧ X'.mu id = X.mu (f id)) : ∀ (ts : List TV) (us : List Value), TVRs w X (TV.rens f ts) us → TVRs w X' ts us
  | [], us, h => h
  | t :: ts, us, ⟨u, r, h1, h2, h3⟩ => ⟨u, r, h1, TVR.names hI hd t u h2, TVRs.names hI hd ts r h3⟩
end
end

/-- The same under other names; g: new name, old name. Those that bear none are let go. -/
theorem Wk.names {p : Nat} {s s' : S} (g : List (Nat × Nat)) (hg : namesOk p s'.nx g = true) (hp : p ≤ s'.nx) (henv : EnvRen (oldOf p s.nx g) s.env s'.env) (hhp : HpRen (oldOf p s.nx g) s.hp s'.hp) : Wk p s s' := by
  intro N X a w r
  have dmx : ∀ id, X.dm (oldOf p s.nx g id) → (id < p ∧ oldOf p s.nx g id = id) ∨ (p ≤ id ∧ look g id = some (oldOf p s.nx g id)) := by
    intro id hid
    unfold oldOf at hid ⊢
    by_cases h1 : id < p
    · rw [if_pos h1]; exact .inl ⟨h1, rfl⟩
    · rw [if_neg h1] at hid ⊢
      cases h2 : look g id with
      | none => rw [h2] at hid; have := r.dm _ hid; simp at this
      | some b => exact .inr ⟨by omega, by rfl⟩
  let X' : Ctx := ⟨X.I, fun id => X.dm (oldOf p s.nx g id), fun id => X.mu (oldOf p s.nx g id)⟩
  have hd : ∀ id, X.dm (oldOf p s.nx g id) → X'.dm id ∧ X'.mu id = X.mu (oldOf p s.nx g id) := fun id h => ⟨h, rfl⟩
  have inj : ∀ i j, X.dm (oldOf p s.nx g i) → X.dm (oldOf p s.nx g j) → oldOf p s.nx g i = oldOf p s.nx g j → i = j := by
    intro i j hi hj e
    rcases dmx i hi with ⟨h1, h2⟩ | ⟨h1, h2⟩ <;> rcases dmx j hj with ⟨h3, h4⟩ | ⟨h3, h4⟩
    · rw [← h2, ← h4, e]
    · have := (namesOk_mem hg _ _ (look_has h4)).2.2; omega
    · have := (namesOk_mem hg _ _ (look_has h2)).2.2; omega
    · exact namesOk_inj hg i j _ h2 (by rw [e]; exact h4)
  have ob : ∀ id o, look s'.hp id = some o → look s.hp (oldOf p s.nx g id) = some (o.ren (oldOf p s.nx g)) := fun id o h => hhp.get h
  have dmlt : ∀ id, X'.dm id → id < s'.nx := by
    intro id hid
    rcases dmx id hid with ⟨h1, _⟩ | ⟨_, h2⟩
    · omega
    · exact (namesOk_mem hg _ _ (look_has h2)).2.1
  refine ⟨X', ⟨r.df, r.sz, ?_, ⟨?_, ?_, ?_, r.ok.ilt⟩, ?_, dmlt⟩, ⟨rfl, rfl, rfl, Nat.le_refl _, fun _ _ _ => rfl, fun _ _ => rfl, ?_, fun _ h => h, fun b hb => .inl hb, ?_⟩⟩
  · intro t d ht
    have := henv.get ht
    cases hl : look s.env t with
    | none => rw [hl] at this; exact this.elim
    | some d0 =>
      rw [hl] at this
      obtain ⟨h1, h2⟩ := r.env t d0 hl
      exact ⟨h1, TVR.names (X := X) (X' := X') rfl hd d _ (this w X _ h2)⟩
  · intro id o ho
    have h0 := ob id o ho
    obtain ⟨h1, h2⟩ := r.ok.obj _ _ h0
    refine ⟨h1, ?_⟩
    show match X.mu (oldOf p s.nx g id) with | none => _ | some b => _
    cases hm : X.mu (oldOf p s.nx g id) with
    | none => rw [hm] at h2; simpa [Ob.ren] using h2
    | some b =>
      rw [hm] at h2
      obtain ⟨c, h3, h4, h5⟩ := h2
      refine ⟨c, h3, by simpa [Ob.ren] using h4, fun j d u hj hu => VRd.names (X := X) (X' := X') rfl hd (h5 j (d.ren _) u ?_ hu)⟩
      show (o.xs.map _)[j]? = _
      rw [List.getElem?_map, hj]; rfl
  · intro i j x y b hi hj hmi hmj
    have hi := ob i x hi
    have hj := ob j y hj
    exact inj i j (r.ok.obj _ _ hi).1 (r.ok.obj _ _ hj).1 (r.ok.inj _ _ _ _ b hi hj hmi hmj)
  · intro i x b hi hm
    exact r.ok.notI _ _ b (ob i x hi) hm
  · intro id o ho
    exact dmlt id (r.ok.obj _ _ (ob id o ho)).1
  · intro id hid hdm
    have e : oldOf p s.nx g id = id := by unfold oldOf; rw [if_pos hid]
    show X.dm (oldOf p s.nx g id) ∧ X.mu (oldOf p s.nx g id) = X.mu id
    rw [e]
    exact ⟨hdm, rfl⟩
  · intro id o b ho hm
    exact .inr ⟨_, _, ob id o ho, hm⟩

/-! ### An object that stays as it is from now on -/
def DV.frz (id : Nat) (cs : List PV) : DV → DV
  | .p x => .p x
  | .ptr i off => if i = id then .p (.vptr (cs.drop off)) else .ptr i off
  | .ref i off n sz => if i = id then .p (.val n ((cs.drop off).take (n * sz))) else .ref i off n sz
mutual
def TV.frz (id : Nat) (cs : List PV) : TV → TV
  | .c d => .c (d.frz id cs)
  | .agg ds => .agg (ds.map (DV.frz id cs))
  | .tup ts => .tup (TV.frzs id cs ts)
def TV.frzs (id : Nat) (cs : List PV) : List TV → List TV
  | [] => []
  | t :: ts => t.frz id cs :: TV.frzs id cs ts
end
def frzE (id : Nat) (cs : List PV) : List (Nat × TV) → List (Nat × TV)
  | [] => []
  | (t, d) :: r => (t, d.frz id cs) :: frzE id cs r
def frzH (id : Nat) (cs : List PV) : List (Nat × Ob) → List (Nat × Ob)
  | [] => []
  | (i, o) :: r => if i = id then frzH id cs r else (i, ⟨o.e, o.xs.map (DV.frz id cs)⟩) :: frzH id cs r
def S.frz (id : Nat) (cs : List PV) (s : S) : S := ⟨frzE id cs s.env, frzH id cs s.hp, s.nx⟩
theorem look_frzE {id : Nat} {cs : List PV} {t : Nat} {d : TV} : ∀ {l : List (Nat × TV)}, look (frzE id cs l) t = some d → ∃ d0, look l t = some d0 ∧ d = d0.frz id cs
  | [], h => by cases h
  | (k, v) :: r, h => by
    simp only [frzE, look_cons, look_nil] at h ⊢
    split at h
    · rename_i e; cases h; exact ⟨v, by rw [if_pos e], rfl⟩
    · rename_i e; rw [if_neg e]; exact look_frzE h
theorem look_frzH {id : Nat} {cs : List PV} {t : Nat} {o : Ob} : ∀ {l : List (Nat × Ob)}, look (frzH id cs l) t = some o → ∃ o0, t ≠ id ∧ look l t = some o0 ∧ o = ⟨o0.e, o0.xs.map (DV.frz id cs)⟩
  | [], h => by cases h
  | (k, v) :: r, h => by
    simp only [frzH] at h
    simp only [look_cons, look_nil]
    by_cases hk : k = id
    · rw [if_pos hk] at h
      obtain ⟨o0, h1, h2, h3⟩ := look_frzH h
      exact ⟨o0, h1, by rw [if_neg (by omega)]; exact h2, h3⟩
    · rw [if_neg hk] at h
      simp only [look_cons, look_nil] at h
      split at h
      · rename_i e; cases h; exact ⟨v, by rw [e]; exact hk, by rw [if_pos e], rfl⟩
      · rename_i e
        rw [if_neg e]
        exact look_frzH h

section
variable {id : Nat} {cs : List PV} {X X' : Ctx} {w : World}
/-- What the object's block holds. -/
def Froz (w : World) (X X' : Ctx) (id : Nat) (cs : List PV) : Prop :=
  (∀ b, X.I b → X'.I b) ∧ X'.dm = X.dm ∧ X'.mu = X.mu ∧ ∀ b, X.mu id = some b → X'.I b ∧ ∀ o, VRc w X'.I b o (cs.drop o)
theorem VRc_drop {w : World} {I : Nat → Prop} {b o : Nat} {cs : List PV} (h : VRc w I b o cs) (k : Nat) : VRc w I b (o + k) (cs.drop k) := by
  rw [VRc_get] at h ⊢
  intro j d hj
  rw [List.getElem?_drop] at hj
  have := h (k + j) d hj
  rwa [← Nat.add_assoc] at this
theorem VRc_take {w : World} {I : Nat → Prop} {b o : Nat} {cs : List PV} (h : VRc w I b o cs) (k : Nat) : VRc w I b o (cs.take k) := by
  rw [VRc_get] at h ⊢
  intro j d hj
  rw [List.getElem?_take] at hj
  split at hj
  · exact h j d hj
  · cases hj
theorem VRd.frz (hf : Froz w X X' id cs) {d : DV} {u : Value} (h : VRd w X d u) : VRd w X' (d.frz id cs) u := by
  obtain ⟨hI, hdm, hmu, hc⟩ := hf
  cases d with
  | p x => exact VRp.mono (w := w) (w' := w) hI (fun _ _ => rfl) x u h
  | ptr i off =>
    obtain ⟨h1, b, h2, h3⟩ := h
    simp only [DV.frz]
    split
    · rename_i e; subst e
      obtain ⟨h4, h5⟩ := hc b h2
      exact ⟨b, off, h3, h4, h5 off⟩
    · exact ⟨by rw [hdm]; exact h1, b, by rw [hmu]; exact h2, h3⟩
  | ref i off n sz =>
    obtain ⟨h1, h⟩ := h
    simp only [DV.frz]
    split
    · rename_i e; subst e
      rcases h with ⟨h2, rfl, rfl⟩ | ⟨b, off', cap, h2, rfl, h3, h4, h5, h6⟩
      · exact ⟨none, 0, rfl, Nat.le_refl _, .inl ⟨rfl, by simp⟩⟩
      · refine ⟨_, cap, rfl, h3, ?_⟩
        rcases h5 with rfl | rfl
        · have : n = 0 := by omega
          subst this
          exact .inl ⟨rfl, by simp⟩
        · obtain ⟨h7, h8⟩ := hc b h2
          exact .inr ⟨b, off', rfl, h7, VRc_take (h8 off') _⟩
    · refine ⟨by rw [hdm]; exact h1, ?_⟩
      rw [hmu]
      exact h
theorem VRds.frz (hf : Froz w X X' id cs) {ds : List DV} {us : List Value} (h : VRds w X ds us) : VRds w X' (ds.map (DV.frz id cs)) us := by
  refine ⟨by simpa using h.1, fun j d u hj hu => ?_⟩
  rw [List.getElem?_map] at hj
  cases hx : ds[j]? with
  | none => rw [hx] at hj; cases hj
  | some d0 =>
    rw [hx] at hj
    cases hj
    exact (h.2 j d0 u hx hu).frz hf
mutual
theorem TVR.frz (hf : Froz w X X' id cs) : ∀ (t : TV) (u : Value), TVR w X t u → TVR w X' (t.frz id cs) u
  | .c d, u, h => VRd.frz hf (d := d) h
  | .agg ds, u, ⟨c, h1, h2⟩ => ⟨c, h1, h2.frz hf⟩
  | .tup ts, u, ⟨vs, h1, h2⟩ => ⟨vs, h1, TVRs.frz hf ts vs.toList h2⟩
theorem TVRs.frz (hf : Froz w X X' id cs) : ∀ (ts : List TV) (us : List Value), TVRs w X ts us → TVRs w X' (TV.frzs id cs ts) us
  | [], us, h => h
  | t :: ts, us, ⟨u, r, h1, h2, h3⟩ => ⟨u, r, h1, TVR.frz hf t u h2, TVRs.frz hf ts r h3⟩
end
end

theorem Wk.freeze {p : Nat} {s : S} (id : Nat) (e : TypeId) (cs : List PV) (h : look s.hp id = some ⟨e, cs.map DV.p⟩) : Wk p s (s.frz id cs) := by
  intro N X a w r
  -- the other objects, in the view X'
  have fin : ∀ X', Froz w X X' id cs → HeapOk w X' (Hp.del (look s.hp) id) → Evol X w (look s.hp) X' w (Hp.del (look s.hp) id) → ∃ X', Rel N X' (s.frz id cs) a w ∧ EvolP p X w (look s.hp) X' w (look (s.frz id cs).hp) := by
    intro X' hf ok ev
    have hob : ∀ i o, look (frzH id cs s.hp) i = some o → ∃ o0, i ≠ id ∧ look s.hp i = some o0 ∧ o = ⟨o0.e, o0.xs.map (DV.frz id cs)⟩ := fun i o ho => look_frzH ho
    have hdel : ∀ i o, i ≠ id → look s.hp i = some o → Hp.del (look s.hp) id i = some o := fun i o hi ho => by unfold Hp.del; rw [if_neg hi]; exact ho
    refine ⟨X', ⟨r.df, r.sz, ?_, ⟨?_, ?_, ?_, ok.ilt⟩, ?_, ?_⟩, ⟨rfl, rfl, rfl, Nat.le_refl _, fun _ _ _ => rfl, fun _ _ => rfl, fun i _ hi => ev.dm i hi, ev.imm, ev.newI, ?_⟩⟩
    · intro t d ht
      obtain ⟨d0, h1, rfl⟩ := look_frzE ht
      obtain ⟨h2, h3⟩ := r.env t d0 h1
      exact ⟨h2, TVR.frz hf d0 _ h3⟩
    · intro i o ho
      obtain ⟨o0, h1, h2, rfl⟩ := hob i o ho
      obtain ⟨h3, h4⟩ := r.ok.obj i o0 h2
      refine ⟨by rw [hf.2.1]; exact h3, ?_⟩
      rw [hf.2.2.1]
      cases hm : X.mu i with
      | none => rw [hm] at h4; simp only at h4 ⊢; rw [h4]; rfl
      | some b =>
        rw [hm] at h4
        obtain ⟨c, h5, h6, h7⟩ := h4
        refine ⟨c, h5, by simpa using h6, fun j d u hj hu => ?_⟩
        rw [List.getElem?_map] at hj
        cases hx : o0.xs[j]? with
        | none => rw [hx] at hj; cases hj
        | some d0 =>
          rw [hx] at hj
          cases hj
          exact (h7 j d0 u hx hu).frz hf
    · intro i j x y b hi hj hmi hmj
      obtain ⟨x0, h1, h2, _⟩ := hob i x hi
      obtain ⟨y0, h3, h4, _⟩ := hob j y hj
      exact ok.inj i j x0 y0 b (hdel i x0 h1 h2) (hdel j y0 h3 h4) hmi hmj
    · intro i x b hi hm
      obtain ⟨x0, h1, h2, _⟩ := hob i x hi
      exact ok.notI i x0 b (hdel i x0 h1 h2) hm
    · intro i o ho
      obtain ⟨o0, h1, h2, _⟩ := hob i o ho
      exact r.wf i o0 h2
    · intro i hi
      rw [hf.2.1] at hi
      exact r.dm i hi
    · intro i o b ho hm
      obtain ⟨o0, h1, h2, _⟩ := hob i o ho
      exact ev.live i o0 b (hdel i o0 h1 h2) hm
  have h0 := (r.ok.obj id _ h).2
  cases hm : X.mu id with
  | none =>
    obtain ⟨ok, ev⟩ := r.ok.del id
    exact fin X ⟨fun _ h => h, rfl, rfl, fun b hb => by rw [hm] at hb; cases hb⟩ ok ev
  | some b =>
    rw [hm] at h0
    obtain ⟨c, h1, h2, h3⟩ := h0
    obtain ⟨ok, ev⟩ := r.ok.freeze h hm
    refine fin (X.stay b) ⟨fun _ h => .inl h, rfl, rfl, fun b' hb' => ?_⟩ ok ev
    rw [hm] at hb'
    cases hb'
    refine ⟨.inr rfl, fun o => ?_⟩
    have hall : VRc w (X.stay b).I b 0 cs := by
      rw [VRc_get]
      intro j d hj
      have hjl : j < cs.length := (List.getElem?_eq_some_iff.1 hj).1
      simp only [List.length_map] at h2
      have hjc : c[j]? = some (c[j]'(by omega)) := Array.getElem?_eq_getElem (by omega)
      refine ⟨c[j]'(by omega), ?_, ?_⟩
      · rw [Nat.zero_add]
        simp only [World.cell?, h1]
        simp
      · have := h3 j (.p d) _ (by rw [List.getElem?_map, hj]; rfl) hjc
        exact VRp.mono (w := w) (w' := w) (fun _ h => .inl h) (fun _ _ => rfl) d _ this
    have := VRc_drop hall o
    rwa [Nat.zero_add] at this

/-! ### A nil slice as an object of its own -/
theorem Wk.adopt {p : Nat} {s : S} (t sz : Nat) (e : TypeId) (h : look s.env t = some (.c (.p (.v (.slice none 0 0))))) : Wk p s ⟨put s.env t (.c (.ref s.nx 0 0 sz)), put s.hp s.nx ⟨e, []⟩, s.nx + 1⟩ := by
  intro N X a w r
  have hid : ¬ X.dm s.nx := fun hd => by have := r.dm _ hd; omega
  obtain ⟨ok, ev⟩ := r.ok.nil hid e
  have hl : look (put s.hp s.nx ⟨e, []⟩) = Hp.set (look s.hp) s.nx ⟨e, []⟩ := by
    funext j; rw [look_put]; rfl
  refine ⟨X.name s.nx none, ⟨r.df, r.sz, ?_, by rw [show (⟨_, put s.hp s.nx ⟨e, []⟩, _⟩ : S).hp = put s.hp s.nx ⟨e, []⟩ from rfl, hl]; exact ok, ?_, ?_⟩, by rw [show (⟨_, put s.hp s.nx ⟨e, []⟩, _⟩ : S).hp = put s.hp s.nx ⟨e, []⟩ from rfl, hl]; exact ev.toP p⟩
  · intro t' d hd
    have hd : look (put s.env t (.c (.ref s.nx 0 0 sz))) t' = some d := hd
    rw [look_put] at hd
    split at hd
    · rename_i ht
      cases hd
      subst ht
      obtain ⟨h1, h2⟩ := r.env t' _ h
      obtain ⟨h3, _⟩ := h2
      exact ⟨h1, .inr rfl, .inl ⟨Ctx.name_mu_same _ _ _, rfl, h3⟩⟩
    · obtain ⟨h1, h2⟩ := r.env t' d hd
      exact ⟨h1, TVR.mono (ev.keeps r.ok) d _ h2⟩
  · intro id o ho
    have ho : look (put s.hp s.nx ⟨e, []⟩) id = some o := ho
    rw [look_put] at ho
    show id < s.nx + 1
    split at ho
    · omega
    · have := r.wf id o ho; omega
  · intro id hid
    show id < s.nx + 1
    rcases hid with h1 | h1
    · have := r.dm id h1; omega
    · omega

end Go.Proofs.Ytjieenfbfckafaa.Am
/- A function's contract from its code. -/
namespace Go.Proofs.Ytjieenfbfckafaa.Am
open Go
set_option linter.unusedVariables false
set_option linter.unusedSimpArgs false

/-- Where a result lies. -/
inductive RV where
  | t (n : Nat)
  | c (n : Nat) (z : Option Nat)
def RV.fits (P : Program) : RV → ResultVar → Bool
  | .t n, .tmp m => decide (n = m)
  | .c n z, .cell m ty => decide (n = m) && szFits P ty z
  | _, _ => false
def rvsFit (P : Program) : List RV → List ResultVar → Bool
  | [], [] => true
  | a :: as, b :: bs => a.fits P b && rvsFit P as bs
  | _, _ => false

def RV.get (s : S) (rv : RV) (K : TV → Prop) : Prop :=
  match rv with
  | .t n => asD (look s.env n) K
  | .c n z => asC (look s.env n) fun d => match d with
    | .ptr id off => someL (look s.hp id) fun o => match z with
      | some m => m ≤ (o.xs.drop off).length ∧ K (.agg ((o.xs.drop off).take m))
      | none => match o.xs.drop off with
        | x :: _ => K (.c x)
        | [] => False
    | _ => False
def rvsGet (s : S) : List RV → (List TV → Prop) → Prop
  | [], K => K []
  | a :: as, K => a.get s fun r => rvsGet s as fun rs => K (r :: rs)
def resGet (s : S) (rvs : List RV) (K : TV → Prop) : Prop :=
  match rvs with
  | [a] => a.get s K
  | rvs => rvsGet s rvs fun rs => K (.tup rs)

def rvRun (tmps : Array Value) : ResultVar → Sem Value
  | .tmp t => pure (tmps.getD t undef)
  | .cell a t => do loadVar t (← asAddr (tmps.getD a undef))

theorem rv_sound {P : Program} {N : NN} {X : Ctx} {s : S} {a : Act} {w : World} {rv : RV} {v : ResultVar} {K : TV → Prop} (hf : rv.fits P v = true) (rel : Rel N X s a w) (h : rv.get s K) :
    ∃ u r, (rvRun a.tmps v).run P w = .ok u w ∧ TVR w X r u ∧ K r := by
  cases rv with
  | t n =>
    cases v with
    | tmp m =>
      simp only [RV.fits, decide_eq_true_eq] at hf
      subst hf
      obtain ⟨d, hl, hK⟩ := asD_some h
      exact ⟨_, d, rfl, (rel.env n d hl).2, hK⟩
    | cell m t => simp [RV.fits] at hf
  | c n z =>
    cases v with
    | tmp m => simp [RV.fits] at hf
    | cell m t =>
      simp only [RV.fits, Bool.and_eq_true, decide_eq_true_eq] at hf
      obtain ⟨rfl, hz⟩ := hf
      obtain ⟨d, hd, h⟩ := asC_some h
      cases d with
      | ptr id off =>
        obtain ⟨ob, hob, h⟩ := someL_some h
        have : ∃ q, Took z (ob.xs.drop off) q ∧ K q := by
          cases z with
          | some m => exact ⟨_, ⟨h.1, rfl⟩, h.2⟩
          | none =>
            cases hx : ob.xs.drop off with
            | nil => rw [hx] at h; exact h.elim
            | cons x r => rw [hx] at h; exact ⟨_, ⟨x, rfl, rfl⟩, h⟩
        obtain ⟨q, hq, hK⟩ := this
        obtain ⟨_, _, b, hm, hp⟩ := rel.env n _ hd
        obtain ⟨v, hv, hv'⟩ := run_loadVar' (P := P) hz ((rel.ok.obj id ob hob).cellsAt hm off) hq
        refine ⟨v, q, ?_, hv', hK⟩
        simp [rvRun, hp, asAddr, hv]
      | p x => exact h.elim
      | ref => exact h.elim

theorem results_rv (fn : Func) (tmps : Array Value) : results fn tmps = (do let vs ← fn.results.mapM (rvRun tmps); pure (if h : vs.size = 1 then vs[0] else .tuple vs)) := by
  unfold results
  congr 1

theorem rvs_sound {P : Program} {N : NN} {X : Ctx} {s : S} {a : Act} {w : World} (rel : Rel N X s a w) : ∀ {rvs : List RV} {l : List ResultVar} {K : List TV → Prop}, rvsFit P rvs l = true → rvsGet s rvs K →
    ∃ (us : List Value) (rs : List TV), us.length = l.length ∧ (∀ (j : Nat) v, l[j]? = some v → ∃ u, us[j]? = some u ∧ (rvRun a.tmps v).run P w = .ok u w) ∧ TVRs w X rs us ∧ K rs
  | [], [], K, _, h => ⟨[], [], rfl, fun j v h => by simp at h, rfl, h⟩
  | x :: rvs, y :: l, K, hf, h => by
    simp only [rvsFit, Bool.and_eq_true] at hf
    obtain ⟨u, r, h1, h2, h⟩ := rv_sound hf.1 rel h
    obtain ⟨us, rs, h3, h4, h5, hK⟩ := rvs_sound rel hf.2 h
    refine ⟨u :: us, r :: rs, by simp [h3], fun j v hj => ?_, ⟨u, us, rfl, h2, h5⟩, hK⟩
    cases j with
    | zero => simp at hj; subst hj; exact ⟨u, rfl, h1⟩
    | succ j => simpa using h4 j v (by simpa using hj)
  | [], _ :: _, _, hf, _ => by simp [rvsFit] at hf
  | _ :: _, [], _, hf, _ => by simp [rvsFit] at hf

theorem mapM_run {P : Program} {w : World} {tmps : Array Value} {l : List ResultVar} {us : List Value} (hlen : us.length = l.length) (h4 : l.length ≤ 4) (h : ∀ (j : Nat) v, l[j]? = some v → ∃ u, us[j]? = some u ∧ (rvRun tmps v).run P w = .ok u w) :
    ((⟨l⟩ : Array ResultVar).mapM (rvRun tmps)).run P w = .ok ⟨us⟩ w := by
  match l, us, hlen with
  | [], [], _ => simp
  | [a], [u], _ =>
    obtain ⟨x, h1, h2⟩ := h 0 a rfl
    simp at h1; subst h1
    simp [h2]
  | [a, b], [u, v], _ =>
    obtain ⟨x, h1, h2⟩ := h 0 a rfl
    obtain ⟨y, h3, h5⟩ := h 1 b rfl
    simp at h1 h3; subst h1; subst h3
    simp [h2, h5]
  | [a, b, c], [u, v, t], _ =>
    obtain ⟨x, h1, h2⟩ := h 0 a rfl
    obtain ⟨y, h3, h5⟩ := h 1 b rfl
    obtain ⟨z, h6, h7⟩ := h 2 c rfl
    simp at h1 h3 h6; subst h1; subst h3; subst h6
    simp [h2, h5, h7]
  | [a, b, c, d], [u, v, t, q], _ =>
    obtain ⟨x, h1, h2⟩ := h 0 a rfl
    obtain ⟨y, h3, h5⟩ := h 1 b rfl
    obtain ⟨z, h6, h7⟩ := h 2 c rfl
    obtain ⟨z', h8, h9⟩ := h 3 d rfl
    simp at h1 h3 h6 h8; subst h1; subst h3; subst h6; subst h8
    simp [h2, h5, h7, h9]
  | _ :: _ :: _ :: _ :: _ :: _, _, _ => simp at h4

theorem res_sound {P : Program} {N : NN} {X : Ctx} {s : S} {a : Act} {w : World} {rvs : List RV} {fn : Func} {K : TV → Prop} {l : List ResultVar} (hl : fn.results = ⟨l⟩) (hlen : l.length ≤ 4) (hf : rvsFit P rvs l = true) (rel : Rel N X s a w) (h : resGet s rvs K) :
    ∃ u r, (results fn a.tmps).run P w = .ok u w ∧ TVR w X r u ∧ K r := by
  rw [results_rv, hl]
  unfold resGet at h
  split at h
  · rename_i x
    match l, hf with
    | [], hf => simp [rvsFit] at hf
    | _ :: _ :: _, hf => simp [rvsFit] at hf
    | [y], hf =>
      simp only [rvsFit, Bool.and_eq_true] at hf
      obtain ⟨u, r, h1, h2, hK⟩ := rv_sound hf.1 rel h
      refine ⟨u, r, ?_, h2, hK⟩
      have := mapM_run (P := P) (w := w) (tmps := a.tmps) (l := [y]) (us := [u]) rfl (by simp) fun j v hj => by
        cases j with
        | zero => simp at hj; subst hj; exact ⟨u, rfl, h1⟩
        | succ j => simp at hj
      simp only [Sem.run_bind, this]
      simp
  · rename_i hne
    obtain ⟨us, rs, h1, h3, h4, hK⟩ := rvs_sound rel hf h
    have := mapM_run (P := P) (w := w) (tmps := a.tmps) h1 hlen h3
    refine ⟨.tuple ⟨us⟩, .tup rs, ?_, ⟨_, rfl, h4⟩, hK⟩
    have hone : ¬ us.length = 1 := by
      intro e
      match rvs, l, hf, (h1 ▸ e : l.length = 1), hne with
      | [q], _, _, _, hne => exact hne q rfl
      | [], [_], hf, _, _ => simp [rvsFit] at hf
      | _ :: _ :: _, [_], hf, _, _ => simp [rvsFit] at hf
    simp only [Sem.run_bind, this]
    simp [hone]

/-- A value, with what it leads to, as the contract has it. -/
structure RetOk (p : Nat) (s : S) (r : TV) (hp' : List (Nat × Ob)) (k' : Nat) : Prop where
  ex : ∃ s', Wk p s s' ∧ SubO (look s'.env 0) r ∧ look s'.hp = look hp' ∧ s'.nx ≤ k'

/-- What a body must come to. -/
def retQ (rvs : List RV) (sp : Spec) : Exit → S → Prop
  | .ret, s | .normal, s => resGet s rvs fun r => RetOk sp.k ⟨[(0, r)], s.hp, s.nx⟩ sp.r sp.hp' sp.k'
  | _, _ => False

theorem RetOk.freeze {p : Nat} {s : S} {r : TV} {hp' : List (Nat × Ob)} {k' : Nat} (id : Nat) (e : TypeId) (cs : List PV) (h : look s.hp id = some ⟨e, cs.map DV.p⟩) (hr : RetOk p (s.frz id cs) r hp' k') : RetOk p s r hp' k' := by
  obtain ⟨s', h1, h2⟩ := hr
  exact ⟨⟨s', (Wk.freeze id e cs h).trans h1, h2⟩⟩
theorem RetOk.names {p : Nat} {s : S} {r : TV} {hp' : List (Nat × Ob)} {k' : Nat} (g : List (Nat × Nat)) (hg : namesOk p k' g = true) (hp : p ≤ k') (hv : SubO (look s.env 0) (r.ren (oldOf p s.nx g))) (hhp : HpRen (oldOf p s.nx g) s.hp hp') : RetOk p s r hp' k' :=
  ⟨⟨⟨[(0, r)], hp', k'⟩, Wk.names g hg hp ⟨hv, trivial⟩ hhp, SubO.of rfl, rfl, Nat.le_refl _⟩⟩
/-- A value of no object of the call's own. -/
theorem RetOk.pure {p : Nat} {s : S} {r : TV} (hv : SubO (look s.env 0) (r.ren (oldOf p s.nx []))) : RetOk p s r [] p := RetOk.names [] rfl (Nat.le_refl _) hv trivial

def enum {α : Type} : Nat → List α → List (Nat × α)
  | _, [] => []
  | n, x :: r => (n, x) :: enum (n + 1) r
theorem look_enum {α : Type} : ∀ {l : List α} {n t : Nat} {x : α}, look (enum n l) t = some x → n ≤ t ∧ l[t - n]? = some x
  | y :: r, n, t, x, h => by
    simp only [enum, look_cons, look_nil] at h
    split at h
    · rename_i e; cases h; subst e; simp
    · obtain ⟨h1, h2⟩ := look_enum h
      refine ⟨by omega, ?_⟩
      rw [show t - n = (t - (n + 1)) + 1 by omega]
      simpa using h2

theorem TVRs_get {w : World} {X : Ctx} : ∀ {ts : List TV} {vs : List Value}, TVRs w X ts vs → ts.length = vs.length ∧ ∀ (j : Nat) d, ts[j]? = some d → ∃ v, vs[j]? = some v ∧ TVR w X d v
  | [], vs, h => by cases h; exact ⟨rfl, fun j d hj => by simp at hj⟩
  | t :: ts, vs, ⟨u, r, h1, h2, h3⟩ => by
    subst h1
    obtain ⟨h4, h5⟩ := TVRs_get h3
    refine ⟨by simp [h4], fun j d hj => ?_⟩
    cases j with
    | zero => simp at hj; subst hj; exact ⟨u, rfl, h2⟩
    | succ j => simpa using h5 j d (by simpa using hj)

def hpBelow (k : Nat) : List (Nat × Ob) → Bool
  | [] => true
  | (i, _) :: r => decide (i < k) && hpBelow k r
theorem hpBelow_get {k : Nat} : ∀ {l : List (Nat × Ob)}, hpBelow k l = true → ∀ i o, look l i = some o → i < k
  | [], _, i, o, h => by cases h
  | (j, x) :: r, hh, i, o, h => by
    simp only [hpBelow, Bool.and_eq_true, decide_eq_true_eq] at hh
    simp only [look_cons, look_nil] at h
    split at h
    · rename_i e; rw [e]; exact hh.1
    · exact hpBelow_get hh.2 i o h

/-- A function whose body fits code of the abstract machine. -/
structure Fits (P : Program) (f : FuncId) (N : Nat) (ac : ACode) (rvs : List RV) : Prop where
  fit : ∃ fn c l, P.funcs[f]? = some fn ∧ fn.body = some c ∧ fn.ntmps = N ∧ fn.results = ⟨l⟩ ∧ l.length ≤ 4 ∧ rvsFit P rvs l = true ∧ ac.fits P N c = true
  mixed : P.follows .mixedOrders = true

theorem Fits.meets' {P : Program} {f : FuncId} {N : Nat} {ac : ACode} {rvs : List RV} {sp : Spec} (ft : Fits P f N ac rvs) (hk : hpBelow sp.k sp.hp = true) (hN : sp.args.length ≤ N)
    (h : ∀ Q : Exit → S → Prop, (∀ e s, retQ rvs sp e s → Q e s) → aw P sp.k ac Q ⟨enum 0 sp.args, sp.hp, sp.k⟩) : Meets P f sp := by
  intro X w vs ok hdm hargs
  obtain ⟨⟨fn, c, l, h1, h2, h3, h4, h5, h6, h7⟩, hm⟩ := ft
  refine calls_of_wp h1 h2 ?_
  obtain ⟨hlen, hget⟩ := TVRs_get hargs
  have rel : Rel ⟨N, []⟩ X ⟨enum 0 sp.args, sp.hp, sp.k⟩ { tmps := vs.toArray ++ Array.replicate (fn.ntmps - vs.toArray.size) undef, defers := [] } w := by
    refine ⟨rfl, by simp; omega, ?_, ok, fun id o ho => hpBelow_get hk id o ho, hdm⟩
    intro t d ht
    obtain ⟨_, h8⟩ := look_enum ht
    rw [Nat.sub_zero] at h8
    obtain ⟨v, h9, h10⟩ := hget t d h8
    have hlt : t < vs.length := (List.getElem?_eq_some_iff.1 h9).1
    refine ⟨by show t < N; omega, ?_⟩
    have : (vs.toArray ++ Array.replicate (fn.ntmps - vs.toArray.size) undef).getD t undef = v := by
      rw [Array.getD_eq_getD_getElem?, Array.getElem?_append_left (by simpa using hlt)]
      simp [h9]
    rw [this]
    exact h10
  have hret : ∀ (e : Exit) (a' : Act) (w' : World), (e = .ret ∨ e = .normal) → (∃ s' X', retQ rvs sp e s' ∧ Rel ⟨N, []⟩ X' s' a' w' ∧ EvolP sp.k X w (look sp.hp) X' w' (look s'.hp)) →
      a'.defers = [] ∧ ∃ v, (results fn a'.tmps).run P w' = .ok v w' ∧ ∃ u X', Ending.returned v = .returned u ∧ TVR w' X' sp.r u ∧ HeapOk w' X' (look sp.hp') ∧ EvolP sp.k X w (look sp.hp) X' w' (look sp.hp') ∧ ∀ id, X'.dm id → id < sp.k' := by
    rintro e a' w' he ⟨s', X', hq, r', ev⟩
    have hq : resGet s' rvs fun r => RetOk sp.k ⟨[(0, r)], s'.hp, s'.nx⟩ sp.r sp.hp' sp.k' := by rcases he with rfl | rfl <;> exact hq
    obtain ⟨u, r, hu, hv, ⟨s'', hwk, hsub, hhp, hnx⟩⟩ := res_sound h4 h5 h6 r' hq
    obtain ⟨X'', r'', ev'⟩ := hwk ⟨1, []⟩ X' ⟨#[u], []⟩ w' ⟨rfl, rfl, fun t d ht => by
      simp only [look_cons, look_nil] at ht
      split at ht
      · rename_i e; cases ht; subst e; exact ⟨Nat.zero_lt_one, hv⟩
      · simp at ht, r'.ok, r'.wf, r'.dm⟩
    have hfin : TVR w' X'' sp.r u := by
      cases hl : look s''.env 0 with
      | none => rw [hl] at hsub; exact hsub.elim
      | some d =>
        rw [hl] at hsub
        exact hsub w' X'' _ (r''.env 0 d hl).2
    exact ⟨r'.df, u, hu, u, X'', rfl, hfin, by rw [← hhp]; exact r''.ok, by rw [← hhp]; exact ev.trans ev', fun id hid => Nat.lt_of_lt_of_le (r''.dm id hid) hnx⟩
  refine wp_mono (aw_sound (N := ⟨N, []⟩) hm ac c _ _ h7 (h _ fun _ _ h => h) X _ w rel) ?_
  intro e a' w' hh
  cases e with
  | normal => exact hret _ a' w' (.inr rfl) hh
  | ret => exact hret _ a' w' (.inl rfl) hh
  | _ => obtain ⟨_, _, h, _⟩ := hh; exact h.elim

theorem Fits.meets {P : Program} {f : FuncId} {N : Nat} {ac : ACode} {rvs : List RV} {args : List TV} {hp : List (Nat × Ob)} {k : Nat} {r : TV} {hp' : List (Nat × Ob)} {k' : Nat} (ft : Fits P f N ac rvs) (hk : hpBelow k hp = true) (hN : args.length ≤ N)
    (h : ∀ Q : Exit → S → Prop, (∀ env hq nx, (resGet ⟨env, hq, nx⟩ rvs fun q => RetOk k ⟨[(0, q)], hq, nx⟩ r hp' k') → Q .ret ⟨env, hq, nx⟩ ∧ Q .normal ⟨env, hq, nx⟩) → aw P k ac Q ⟨enum 0 args, hp, k⟩) : Meets P f ⟨args, hp, k, r, hp', k'⟩ :=
  ft.meets' hk hN fun Q hQ => h Q fun env hq nx hs => ⟨hQ .ret ⟨env, hq, nx⟩ hs, hQ .normal ⟨env, hq, nx⟩ hs⟩
end Go.Proofs.Ytjieenfbfckafaa.Am
/- What a walk of the abstract machine uses: calls, bytes. -/
namespace Go.Proofs.Ytjieenfbfckafaa.Am
open Go
set_option linter.unusedVariables false
set_option linter.unusedSimpArgs false

/-- A call that hands over no object and gives none back. -/
theorem call_pure {P : Program} {s : S} {nx f : Nat} {ds args : List TV} {r : TV} {K : Eff → Prop} (hm : Meets P f ⟨args, [], 0, r, [], 0⟩) (ha : ∀ f, TV.rens f args = args) (hr : ∀ f, r.ren f = r) (hs : Subs ds args) (k : K ⟨r, [], [], 1⟩) : CallOk P s nx f ds K := by
  refine ⟨⟨_, [], hm, rfl, List.nodup_nil, Nat.le_refl _, fun p hp => by simp at hp, fun p hp => by simp at hp, List.nodup_nil, ?_, fun j hj => by simp at hj, ?_⟩⟩
  · rw [ha]; exact hs
  · rw [hr]; exact k

def keysBelow (k : Nat) : List (Nat × Ob) → Bool
  | [] => true
  | (i, _) :: r => Nat.blt i k && (r.all fun p => !(Nat.beq p.1 i)) && keysBelow k r
theorem keysBelow_spec {k : Nat} : ∀ {l : List (Nat × Ob)}, keysBelow k l = true → (∀ p ∈ l, p.1 < k) ∧ (l.map (·.1)).Nodup
  | [], _ => ⟨fun p hp => by simp at hp, List.nodup_nil⟩
  | (i, o) :: r, h => by
    simp only [keysBelow, Bool.and_eq_true, List.all_eq_true, Bool.not_eq_true'] at h
    obtain ⟨⟨h1, h2⟩, h3⟩ := h
    obtain ⟨h4, h5⟩ := keysBelow_spec h3
    have h1 : i < k := by simpa [Nat.blt_eq] using h1
    refine ⟨fun p hp => ?_, ?_⟩
    · rcases List.mem_cons.1 hp with rfl | hp
      · exact h1
      · exact h4 p hp
    · rw [List.map_cons, List.nodup_cons]
      refine ⟨fun hm => ?_, h5⟩
      obtain ⟨q, hq, e⟩ := List.mem_map.1 hm
      have := Nat.ne_of_beq_eq_false (h2 q hq)
      exact this e
def distinct : List Nat → Bool
  | [] => true
  | i :: r => (r.all fun j => !(Nat.beq j i)) && distinct r
theorem distinct_spec : ∀ {l : List Nat}, distinct l = true → l.Nodup
  | [], _ => List.nodup_nil
  | i :: r, h => by
    simp only [distinct, Bool.and_eq_true, List.all_eq_true, Bool.not_eq_true'] at h
    refine List.nodup_cons.2 ⟨fun hm => ?_, distinct_spec h.2⟩
    exact Nat.ne_of_beq_eq_false (h.1 i hm) rfl
/-- The objects that are handed over. -/
def Handed (s : S) (F : Nat → Nat) (hp : List (Nat × Ob)) : Nat → List Nat → Prop
  | _, [] => True
  | j, i :: sg => (∃ o, look hp j = some o ∧ look s.hp i = some (o.ren F)) ∧ Handed s F hp (j + 1) sg
theorem Handed.spec {s : S} {F : Nat → Nat} {hp : List (Nat × Ob)} : ∀ {sg : List Nat} {n : Nat}, Handed s F hp n sg → ∀ j, j < sg.length → look s.hp (sg.getD j 0) = (look hp (n + j)).map (Ob.ren F) ∧ (look hp (n + j)).isSome
  | [], n, _, j, hj => by simp at hj
  | i :: sg, n, h, j, hj => by
    obtain ⟨⟨o, h1, h2⟩, h3⟩ := h
    cases j with
    | zero => simp [h1, h2]
    | succ j =>
      have := h3.spec j (by simpa using hj)
      rw [show n + 1 + j = n + (j + 1) by omega] at this
      simpa using this
/-- A call in general. -/
theorem call_ok {P : Program} {s : S} {nx f : Nat} {ds args : List TV} {hp : List (Nat × Ob)} {k : Nat} {r : TV} {hp' : List (Nat × Ob)} {k' : Nat} {K : Eff → Prop} (sg : List Nat) (hm : Meets P f ⟨args, hp, k, r, hp', k'⟩)
    (hc : (Nat.beq k sg.length && Nat.ble k k' && distinct sg && keysBelow k hp && keysBelow k' hp') = true)
    (hs : Subs ds (TV.rens (nameOf sg nx (k' - k)) args)) (hh : Handed s (nameOf sg nx (k' - k)) hp 0 sg)
    (hK : K ⟨r.ren (nameOf sg nx (k' - k)), sg, sg.map (fun i => (i, none)) ++ hp'.map (fun p => (nameOf sg nx (k' - k) p.1, some (p.2.ren (nameOf sg nx (k' - k))))), k' - k + 1⟩) : CallOk P s nx f ds K := by
  simp only [Bool.and_eq_true] at hc
  obtain ⟨⟨⟨⟨h1, h2⟩, h3⟩, h4⟩, h5⟩ := hc
  have h1 : k = sg.length := Nat.eq_of_beq_eq_true h1
  refine ⟨⟨_, sg, hm, h1, distinct_spec h3, Nat.le_of_ble_eq_true h2, (keysBelow_spec h4).1, (keysBelow_spec h5).1, (keysBelow_spec h5).2, hs, fun j hj => ?_, hK⟩⟩
  have hj : j < k := hj
  have := hh.spec j (by omega)
  rwa [Nat.zero_add] at this

/-! ### Bytes -/
theorem pb_length (l : List UInt8) : (pb l).length = l.length := by simp [pb]
theorem pb_append (a b : List UInt8) : pb (a ++ b) = pb a ++ pb b := by simp [pb]
theorem pb_take (l : List UInt8) (n : Nat) : (pb l).take n = pb (l.take n) := by simp [pb, List.map_take]
theorem pb_drop (l : List UInt8) (n : Nat) : (pb l).drop n = pb (l.drop n) := by simp [pb, List.map_drop]
theorem map_ren_p (f : Nat → Nat) (cs : List PV) : (cs.map DV.p).map (DV.ren f) = cs.map DV.p := by simp [DV.ren]
theorem map_frz_p (id : Nat) (xs cs : List PV) : (cs.map DV.p).map (DV.frz id xs) = cs.map DV.p := by simp [DV.frz]
theorem zerosP_u8 : ∀ n, zerosP [.int .u8 0] n = pb (List.replicate n 0)
  | 0 => rfl
  | n + 1 => by simp [zerosP, zerosP_u8 n, pb, List.replicate_succ, pb1]
theorem pb_inj : ∀ {a b : List UInt8}, pb a = pb b → a = b
  | [], [], _ => rfl
  | x :: a, y :: b, h => by
    simp only [pb, List.map_cons, List.cons.injEq, pb1, PV.v.injEq, Value.int.injEq, true_and, Int.natCast_inj] at h
    rw [UInt8.toNat_inj.1 h.1, pb_inj h.2]
  | [], _ :: _, h => by simp [pb] at h
  | _ :: _, [], h => by simp [pb] at h
theorem map_p_inj : ∀ {a b : List PV}, a.map DV.p = b.map DV.p → a = b
  | [], [], _ => rfl
  | x :: a, y :: b, h => by simp only [List.map_cons, List.cons.injEq, DV.p.injEq] at h; rw [h.1, map_p_inj h.2]
  | [], _ :: _, h => by simp at h
  | _ :: _, [], h => by simp at h
theorem mp_append (x y : List UInt8) : (pb x).map DV.p ++ (pb y).map DV.p = (pb (x ++ y)).map DV.p := by simp [pb]
theorem mp_take (x : List UInt8) (n : Nat) : ((pb x).map DV.p).take n = (pb (x.take n)).map DV.p := by simp [pb, List.map_take]
theorem mp_drop (x : List UInt8) (n : Nat) : ((pb x).map DV.p).drop n = (pb (x.drop n)).map DV.p := by simp [pb, List.map_drop]
theorem mp_cut (x : List UInt8) (m n : Nat) : ((((pb x).drop m).take n)).map DV.p = (pb ((x.drop m).take n)).map DV.p := by simp [pb, List.map_take, List.map_drop]
theorem mp_length (x : List UInt8) : ((pb x).map DV.p).length = x.length := by simp [pb]
theorem zeros_u8 (n : Nat) : zeros [.int .u8 0] n = (pb (List.replicate n 0)).map DV.p := by rw [zeros_P, zerosP_u8]
theorem toNat_add' (a b : Nat) : ((a : Int) + (b : Int)).toNat = a + b := by omega
theorem toNat_sub' (a b : Nat) : ((a : Int) - (b : Int)).toNat = a - b := by omega
/-- A nil slice is an empty one. -/
theorem nil_val (w : World) (X : Ctx) (u : Value) (h : VRp w X.I (.v (.slice none 0 0)) u) : VRp w X.I (.val 0 []) u := by
  obtain ⟨rfl, _⟩ := h
  exact ⟨none, 0, rfl, Nat.le_refl _, .inl ⟨rfl, rfl⟩⟩
theorem RetOk.pure' {p nx : Nat} {hp : List (Nat × Ob)} {q r : TV} (hr : ∀ f, r.ren f = r) (h : Sub q r) : RetOk p ⟨[(0, q)], hp, nx⟩ r [] p := RetOk.pure (by rw [hr]; exact h)
/-- Cell by cell the same, or nil where an empty slice is asked for. -/
def cellSub : List DV → List DV → Prop
  | [], [] => True
  | a :: as, b :: bs => (a = b ∨ (a = .p (.v (.slice none 0 0)) ∧ b = .p (.val 0 []))) ∧ cellSub as bs
  | _, _ => False
theorem cellSub.get {w : World} {X : Ctx} : ∀ {as bs : List DV} {us : List Value}, cellSub as bs → VRds w X as us → VRds w X bs us
  | [], [], us, _, h => h
  | a :: as, b :: bs, us, hs, h => by
    obtain ⟨hl, hh⟩ := h
    match us, hl with
    | u :: us, hl =>
      have h0 := hh 0 a u rfl rfl
      have hr : VRds w X as us := ⟨by simpa using hl, fun j d v hd hv => hh (j + 1) d v (by simpa using hd) (by simpa using hv)⟩
      obtain ⟨h1, h2⟩ := cellSub.get hs.2 hr
      refine ⟨by simp [h1], fun j d v hd hv => ?_⟩
      cases j with
      | zero =>
        simp only [List.getElem?_cons_zero, Option.some.injEq] at hd hv
        subst hd; subst hv
        rcases hs.1 with rfl | ⟨rfl, rfl⟩
        · exact h0
        · exact nil_val w X u h0
      | succ j => exact h2 j d v (by simpa using hd) (by simpa using hv)
  | [], _ :: _, _, hs, _ => hs.elim
  | _ :: _, [], _, hs, _ => hs.elim
theorem sub_agg {as bs : List DV} (h : cellSub as bs) : Sub (.agg as) (.agg bs) := fun w X u ⟨cs, h1, h2⟩ => ⟨cs, h1, h.get h2⟩
theorem sub_val {n m : Nat} {x y : List PV} (h : n = m) (h' : x = y) : Sub (.c (.p (.val n x))) (.c (.p (.val m y))) := by subst h; subst h'; exact Sub.refl _
theorem or_val {n m : Nat} {x y : List PV} {q : Prop} (h : n = m) (h' : x = y) : DV.p (.val n x) = DV.p (.val m y) ∨ q := by subst h; subst h'; exact .inl rfl
theorem sub_bool {a b : Bool} (h : a = true ↔ b = true) : Sub (.c (.p (.v (.bool a)))) (.c (.p (.v (.bool b)))) := by rw [Bool.eq_iff_iff.2 h]; exact Sub.refl _
theorem sub_nil : Sub (.c (.p (.v (.slice none 0 0)))) (.c (.p (.val 0 []))) := fun w X u h => nil_val w X u h
theorem sub_tup : ∀ {as bs : List TV}, Subs as bs → Sub (.tup as) (.tup bs) := fun {as bs} h w X u ⟨vs, h1, h2⟩ => by
  have key : ∀ (as bs : List TV) (us : List Value), Subs as bs → TVRs w X as us → TVRs w X bs us := by
    intro as
    induction as with
    | nil => intro bs us hs h; cases bs with
             | nil => exact h
             | cons => exact hs.elim
    | cons a as ih => intro bs us hs h; cases bs with
                      | nil => exact hs.elim
                      | cons b bs =>
                        obtain ⟨u, r, e, h3, h4⟩ := h
                        exact ⟨u, r, e, hs.1 w X u h3, ih bs r hs.2 h4⟩
  exact ⟨vs, h1, key as bs vs.toList h h2⟩
end Go.Proofs.Ytjieenfbfckafaa.Am
/- From a law's contract to what its row asks for. -/
namespace Go.Proofs.Ytjieenfbfckafaa.Am
open Go Go.ChangeShapes Go.WideShapes Go.ChangeAt Go.RowKit Go.Deep
set_option linter.unusedVariables false
set_option linter.unusedSimpArgs false

/-- All memory that is there when a law is called stays as it is. -/
def Ctx.old (W : World) : Ctx := ⟨fun b => b < W.heap.size, fun _ => False, fun _ => none⟩
theorem HeapOk.old (W : World) : HeapOk W (Ctx.old W) (look []) := ⟨fun id o h => by simp [look_nil] at h, fun i j x y b h => by simp [look_nil] at h, fun i x b h => by simp [look_nil] at h, fun b h => h⟩

section
variable {H : Type} {enc : TypeId × Value → H} {P : Program}

theorem trodAll_same (hl : laidOutB P = true) {W W' : World} {sp : Nat → Bool} : ∀ {ts : List TypeId} {vs : List Value} {ds : List (DataW H)} {ps : List MemPlace}, (∀ t ∈ ts, P.readableRec t = true ∧ t < P.types.size) →
    DataW.TrodAll enc P W 0 (fun _ => true) true ts vs ds ps → (∀ p ∈ ps, W.sameAt W' p) → (∀ p ∈ ps, sp p.block = true) → DataW.TrodAll enc P W' 0 sp true ts vs ds ps
  | [], [], [], ps, _, h, _, _ => h
  | t :: ts, v :: vs, d :: ds, ps, hr, ⟨p, q, h1, h2, e⟩, hs, hp => by
    subst e
    refine ⟨p, q, WideElems.Trod_stays hl (hr t (by simp)).1 (hr t (by simp)).2 h1 (fun x hx => hs x (by simp [hx])) (fun x hx => hp x (by simp [hx])), ?_, rfl⟩
    exact trodAll_same hl (fun t ht => hr t (by simp [ht])) h2 (fun x hx => hs x (by simp [hx])) (fun x hx => hp x (by simp [hx]))
  | [], [], _ :: _, _, _, h, _, _ => h.elim
  | [], _ :: _, _, _, _, h, _, _ => h.elim
  | _ :: _, [], _, _, _, h, _, _ => h.elim
  | _ :: _, _ :: _, [], _, _, h, _, _ => h.elim

theorem vrp_byte {W : World} {I : Nat → Prop} {n : Int} (h : 0 ≤ n ∧ n ≤ 255) : VRp W I (pb1 (UInt8.ofNat n.toNat)) (.int .u8 n) := by
  refine ⟨?_, rfl⟩
  rw [UInt8.toNat_ofNat_of_lt' (by show n.toNat < 256; omega)]
  congr 1
  omega

/-- An argument of bytes. -/
theorem open_bytes {t e : TypeId} {W : World} {v : Value} {d : DataW H} {ps : List MemPlace} (ht : P.underlying t = some (.slice e)) (he : P.underlying e = some (.int .u8)) (hc : P.cellsOf e = 1)
    (hval : Value.okWide P W .any 0 t v) (h : DataW.Trod enc P W 0 (fun _ => true) true t v d ps) : ∃ l : List UInt8, VRp W (Ctx.old W).I (.val l.length (pb l)) v ∧ l.length ≤ maxLen := by
  obtain ⟨A, n, c, rfl⟩ := okWide_slice ht hval
  obtain ⟨fuel, hf⟩ := h
  rcases open_slice1 ht hc hf with ⟨h0, _⟩ | ⟨a, len, cap, m, k, V, D, Pl, hcs, _, hl, hm, hmm, _, hx⟩
  · simp [Value.cells] at h0
    obtain ⟨rfl, rfl, rfl⟩ := h0
    exact ⟨[], ⟨none, 0, rfl, Nat.le_refl _, .inl ⟨rfl, rfl⟩⟩, Nat.zero_le _⟩
  · simp [Value.cells] at hcs
    obtain ⟨rfl, rfl, rfl⟩ := hcs
    have hmn : n ≤ m := by rw [hmm]; simpa using hl
    have hV : ∀ i, i < n → ∃ q : Int, V i = .int .u8 q ∧ 0 ≤ q ∧ q ≤ 255 := fun i hi => by
      obtain ⟨q, hq, _, hw⟩ := DataW.trod_int he (hx i (by omega)).2
      simp at hq
      refine ⟨q, hq, by simpa [Lit.wf, IntKind.min, IntKind.max, IntKind.signed, IntKind.bits] using hw⟩
    let f : Nat → UInt8 := fun i => match V i with | .int _ q => UInt8.ofNat q.toNat | _ => 0
    refine ⟨(List.range n).map f, ⟨some a, c, by simp, by simpa using hl, ?_⟩, by simp; omega⟩
    rcases Nat.eq_zero_or_pos n with h0 | h0
    · left; subst h0; exact ⟨by simp, by simp [pb]⟩
    · right
      have h1 := (hx 0 (by omega)).1
      obtain ⟨b, o, sp⟩ := a
      have hsp : sp = none := by
        cases sp with
        | none => rfl
        | some q =>
          exfalso
          simp only [World.cell?, Addr.add] at h1
          split at h1 <;> simp at h1
      subst hsp
      refine ⟨b, o, rfl, ?_, ?_⟩
      · show b < W.heap.size
        rcases Nat.lt_or_ge b W.heap.size with h2 | h2
        · exact h2
        · simp [World.cell?, Addr.add, Array.getElem?_eq_none h2] at h1
      · rw [VRc_get]
        intro j d hj
        have hjn : j < n := by
          have := (List.getElem?_eq_some_iff.1 hj).1
          simpa [pb] using this
        obtain ⟨q, hq, hq0⟩ := hV j hjn
        refine ⟨V j, (by have h3 := (hx j (by omega)).1; rwa [Addr.add_lit] at h3), ?_⟩
        simp only [pb, List.getElem?_map, List.getElem?_range hjn, Option.map_some, Option.some.injEq] at hj
        subst hj
        rw [hq]
        have : f j = UInt8.ofNat q.toNat := by simp only [f, hq]
        rw [this]
        exact vrp_byte hq0

/-- The row's post of a law: true, and what was there is there. -/
theorem law_post {f : Func} {s : ChangeSpec} {tb : TypeId} {W W' : World} {args : Array Value} {ds gs : List (DataW H)} {before : List MemPlace} (hl : laidOutB P = true) (hr : ∀ t ∈ f.params.toList, P.readableRec t = true ∧ t < P.types.size)
    (hres : f.resultTypes = #[tb]) (hb : P.underlying tb = some .bool) (hv : s.vars = []) (hsp : (s.fn H (ds ++ gs)).results = [.lit (.bool true)] ∧ (s.fn H (ds ++ gs)).args = ds ∧ (s.fn H (ds ++ gs)).vars = [])
    (hW : DataW.Whole enc P f.params.toList s.vars false W args.toList ds gs before) (hbl : Below W.heap.size W W') : s.post enc P f false true false false W args (.bool true) W' := by
  have hlt := hW.lt
  have hW' := hW
  obtain ⟨p, q, hA, hV, hpq, hz, hn⟩ := hW
  rw [hv] at hV
  obtain ⟨hgs, hq⟩ := trodVars_none hV
  rw [hq, List.append_nil] at hpq
  subst hpq
  have hold : ∀ x ∈ before, (fun b => decide (b < W.heap.size)) x.block = true := fun x hx => by simpa using hlt x hx
  have hsame : ∀ x ∈ before, W.sameAt W' x := fun x hx => hbl.same (hlt x hx)
  have hargs : ∀ sp : Nat → Bool, (∀ x ∈ before, sp x.block = true) → DataW.TrodAll enc P W' 0 sp true f.params.toList args.toList (s.fn H (ds ++ gs)).args before := fun sp hsp' => by
    rw [hsp.2.1]; exact trodAll_same hl hr hA hsame hsp'
  have hres' : ∀ (b : Nat) (sp : Nat → Bool) (hd : Bool), DataW.TrodAll enc P W' b sp hd f.resultTypes.toList ((Value.bool true).resultList f.resultTypes.size) (s.fn H (ds ++ gs)).results [] := fun b sp hd => by
    rw [hsp.1, hres]
    exact trodAll_cons_mk (shut_bool hb _) trodAll_mk0
  have hvars : ∀ sp : Nat → Bool, DataW.TrodVars enc P W' sp s.vars (s.fn H (ds ++ gs)).vars [] := fun sp => by rw [hv, hsp.2.2]; rfl
  refine ⟨ds, gs, before, [], before, [], hW', hres' _ _ _, hargs _ hold, hvars _, World.keptBut_mono (fun x hx => ⟨hx, ?_⟩) (hbl.frame (· ∈ before)), fun _ => ?_⟩
  · exact Or.inr (.inl hx)
  · refine ⟨ok_one hres rfl (okWide_bool_mk hb _), _, _, ([] ++ before) ++ [], ⟨[] ++ before, [], trodAll_append (hargs _ (fun _ _ => rfl)) (hres' _ _ _), hvars _, rfl, ?_, ?_⟩, ?_⟩
    · intro b off hp
      have hp' : MemPlace.cell b off ∈ before := by simpa using hp
      rw [hbl.frozen (hlt _ hp')]
      exact hz b off hp'
    · intro ha
      cases ha
    · intro x hx _
      simpa using hx

/-- A law's contract. -/
theorem law_contract {fid : FuncId} {f : Func} {s : ChangeSpec} {tb : TypeId} {W : World} {args : Array Value} {ds gs : List (DataW H)} {before : List MemPlace} {targs : List TV} (hl : laidOutB P = true) (hr : ∀ t ∈ f.params.toList, P.readableRec t = true ∧ t < P.types.size)
    (hres : f.resultTypes = #[tb]) (hb : P.underlying tb = some .bool) (hv : s.vars = []) (hsp : (s.fn H (ds ++ gs)).results = [.lit (.bool true)] ∧ (s.fn H (ds ++ gs)).args = ds ∧ (s.fn H (ds ++ gs)).vars = [])
    (hW : DataW.Whole enc P f.params.toList s.vars false W args.toList ds gs before) (hm : Meets P fid ⟨targs, [], 0, .c (.p (.v (.bool true))), [], 0⟩) (ht : TVRs W (Ctx.old W) targs args.toList) :
    Calls P fid args W fun e W' => ∃ v, e = .returned v ∧ s.post enc P f false true false false W args v W' := by
  have h := hm (Ctx.old W) W args.toList (HeapOk.old W) (fun id h => h.elim) ht
  refine Calls.mono h fun e W' ⟨v, X', he, hv', ok, ev, _⟩ => ?_
  obtain ⟨rfl, _⟩ := hv'
  exact ⟨_, he, law_post hl hr hres hb hv hsp hW ⟨ev.os, ev.tape, ev.output, ev.size, fun k hk => ev.frame k hk fun id o ho => by cases ho⟩⟩
end
end Go.Proofs.Ytjieenfbfckafaa.Am
/- The arguments of a law, read by the shapes of their types. -/
namespace Go.Proofs.Ytjieenfbfckafaa.Am
open Go Go.ChangeShapes Go.WideShapes Go.ChangeAt Go.RowKit Go.Deep
set_option linter.unusedVariables false
set_option linter.unusedSimpArgs false

/-- The shape of a type: 'st' a struct of the types of a list ('nil', 'cons'). -/
inductive RT where
  | int (k : IntKind)
  | bool
  | str
  | slice (e : RT)
  | arr (n : Nat) (e : RT)
  | st (fs : RT)
  | nil
  | cons (a r : RT)
def RT.size : RT → Nat
  | .int _ => 1
  | .bool => 1
  | .str => 1
  | .slice _ => 1
  | .arr n e => n * e.size
  | .st fs => fs.size
  | .nil => 0
  | .cons a r => a.size + r.size
/-- So many pieces, one behind the other. -/
def Chunks (Q : List PV → Prop) : Nat → List PV → Prop
  | 0, cs => cs = []
  | n + 1, cs => ∃ a r, cs = a ++ r ∧ Q a ∧ Chunks Q n r
def RT.Is : RT → List PV → Prop
  | .int k, cs => ∃ n, cs = [.v (.int k n)] ∧ k.min ≤ n ∧ n ≤ k.max
  | .bool, cs => ∃ b, cs = [.v (.bool b)]
  | .str, cs => ∃ s : ByteArray, cs = [.v (.string s)] ∧ s.size ≤ maxLen
  | .slice e, cs => ∃ n xs, cs = [.val n xs] ∧ n ≤ maxLen ∧ Chunks e.Is n xs
  | .arr n e, cs => Chunks e.Is n cs
  | .st fs, cs => fs.Is cs
  | .nil, cs => cs = []
  | .cons a r, cs => ∃ x y, cs = x ++ y ∧ a.Is x ∧ r.Is y

mutual
def RT.fit (P : Program) : RT → TypeId → Bool
  | .int k, t => match P.underlying t with
    | some (.int k') => decide (k = k')
    | _ => false
  | .bool, t => match P.underlying t with
    | some .bool => true
    | _ => false
  | .str, t => match P.underlying t with
    | some .string => true
    | _ => false
  | .slice e, t => match P.underlying t with
    | some (.slice u) => decide (P.cellsOf u = e.size) && decide (0 < e.size) && e.fit P u
    | _ => false
  | .arr n e, t => match P.underlying t with
    | some (.array m u) => decide (m = n) && decide (P.cellsOf u = e.size) && decide (P.cellsOf t = n * e.size) && e.fit P u
    | _ => false
  | .st fs, t => match P.underlying t with
    | some (.struct l) => fs.fitF P l.toList 0 && decide (P.cellsOf t = fs.size)
    | _ => false
  | .nil, _ => false
  | .cons _ _, _ => false
def RT.fitF (P : Program) : RT → List Field → Nat → Bool
  | .nil, [], _ => true
  | .cons a r, f :: l, off => decide (f.offset = off) && decide (P.cellsOf f.type = a.size) && a.fit P f.type && r.fitF P l (off + a.size)
  | .int _, _, _ => false
  | .bool, _, _ => false
  | .str, _, _ => false
  | .slice _, _, _ => false
  | .arr _ _, _, _ => false
  | .st _, _, _ => false
  | .nil, _ :: _, _ => false
  | .cons _ _, [], _ => false
end

def VRps (w : World) (I : Nat → Prop) (ps : List PV) (vs : List Value) : Prop := ps.length = vs.length ∧ ∀ (j : Nat) p v, ps[j]? = some p → vs[j]? = some v → VRp w I p v
theorem VRps.one {w : World} {I : Nat → Prop} {p : PV} {v : Value} (h : VRp w I p v) : VRps w I [p] [v] := by
  refine ⟨rfl, fun j q u hq hu => ?_⟩
  cases j with
  | zero => simp at hq hu; subst hq; subst hu; exact h
  | succ j => simp at hq
theorem VRps.nil {w : World} {I : Nat → Prop} : VRps w I [] [] := ⟨rfl, fun j q u hq => by simp at hq⟩
theorem VRps.append {w : World} {I : Nat → Prop} {a b : List PV} {u v : List Value} (h : VRps w I a u) (h' : VRps w I b v) : VRps w I (a ++ b) (u ++ v) := by
  refine ⟨by simp [h.1, h'.1], fun j p x hp hx => ?_⟩
  rcases Nat.lt_or_ge j a.length with hj | hj
  · rw [List.getElem?_append_left hj] at hp
    rw [List.getElem?_append_left (by rw [← h.1]; exact hj)] at hx
    exact h.2 j p x hp hx
  · rw [List.getElem?_append_right hj] at hp
    rw [List.getElem?_append_right (by rw [← h.1]; exact hj), ← h.1] at hx
    exact h'.2 _ p x hp hx

def cat (f : Nat → List PV) : Nat → Nat → List PV
  | _, 0 => []
  | k, n + 1 => f k ++ cat f (k + 1) n
theorem Chunks.cat {Q : List PV → Prop} {f : Nat → List PV} : ∀ {n k : Nat}, (∀ i, k ≤ i → i < k + n → Q (f i)) → Chunks Q n (cat f k n)
  | 0, _, _ => rfl
  | n + 1, k, h => ⟨_, _, rfl, h k (Nat.le_refl _) (by omega), Chunks.cat fun i h1 h2 => h i (by omega) (by omega)⟩
theorem VRps.cat {w : World} {I : Nat → Prop} {f : Nat → List PV} {cs : List Value} {sz : Nat} : ∀ {n k : Nat}, (∀ i, k ≤ i → i < k + n → VRps w I (f i) ((cs.drop (i * sz)).take sz)) → VRps w I (Am.cat f k n) ((cs.drop (k * sz)).take (n * sz))
  | 0, k, _ => by simp [Am.cat]; exact VRps.nil
  | n + 1, k, h => by
    have h1 := VRps.cat (cs := cs) (n := n) (k := k + 1) fun i h1 h2 => h i (by omega) (by omega)
    rw [show (n + 1) * sz = sz + n * sz by rw [Nat.add_mul]; omega, List.take_add, List.drop_drop, show k * sz + sz = (k + 1) * sz by rw [Nat.add_mul]; omega]
    exact (h k (Nat.le_refl _) (by omega)).append h1
theorem VRc_append {w : World} {I : Nat → Prop} {b : Nat} : ∀ {x y : List PV} {o : Nat}, VRc w I b o x → VRc w I b (o + x.length) y → VRc w I b o (x ++ y)
  | [], y, o, _, h => h
  | d :: x, y, o, ⟨h0, h1⟩, h => ⟨h0, VRc_append h1 (by rw [show o + 1 + x.length = o + (d :: x).length by simp; omega]; exact h)⟩
theorem VRc.cat {w : World} {I : Nat → Prop} {b o : Nat} {f : Nat → List PV} {sz : Nat} : ∀ {n k : Nat}, (∀ i, k ≤ i → i < k + n → (f i).length = sz ∧ VRc w I b (o + i * sz) (f i)) → VRc w I b (o + k * sz) (Am.cat f k n)
  | 0, k, _ => trivial
  | n + 1, k, h => by
    obtain ⟨h1, h2⟩ := h k (Nat.le_refl _) (by omega)
    refine VRc_append h2 ?_
    rw [h1, show o + k * sz + sz = o + (k + 1) * sz by rw [Nat.add_mul]; omega]
    exact VRc.cat fun i h1 h2 => h i (by omega) (by omega)

section
variable {H : Type} {enc : TypeId × Value → H} {P : Program} {W : World} {sp : Nat → Bool} {held : Bool}
theorem choose_lists {n : Nat} {Q : Nat → List PV → Prop} (h : ∀ i, i < n → ∃ l, Q i l) : ∃ f : Nat → List PV, ∀ i, i < n → Q i (f i) := by
  classical
  refine ⟨fun i => if hi : i < n then (h i hi).choose else [], fun i hi => ?_⟩
  simp only [hi, dif_pos]
  exact (h i hi).choose_spec

theorem open_rt : ∀ rt : RT, (∀ t fuel (cs : List Value) x, rt.fit P t = true → DataW.trod enc P W 0 sp held fuel t cs = some x → cs.length = rt.size ∧ ∃ ps, rt.Is ps ∧ VRps W (Ctx.old W).I ps cs) ∧
    (∀ l off fuel (cs : List Value), rt.fitF P l off = true → (∀ f ∈ l, ∃ x, DataW.trod enc P W 0 sp held fuel f.type ((cs.drop f.offset).take (P.cellsOf f.type)) = some x) → ∃ ps, rt.Is ps ∧ VRps W (Ctx.old W).I ps ((cs.drop off).take rt.size)) := by
  intro rt
  induction rt with
  | int k =>
    refine ⟨fun t fuel cs x hf h => ?_, fun l off fuel cs hf => by simp [RT.fitF] at hf⟩
    rw [RT.fit] at hf
    split at hf
    · rename_i k' hu
      have : k = k' := by simpa using hf
      subst this
      obtain ⟨n, rfl, _, hw⟩ := DataW.trod_int hu h
      refine ⟨rfl, _, ⟨n, rfl, ?_⟩, VRps.one ⟨rfl, rfl⟩⟩
      simpa [Lit.wf] using hw
    · cases hf
  | bool =>
    refine ⟨fun t fuel cs x hf h => ?_, fun l off fuel cs hf => by simp [RT.fitF] at hf⟩
    rw [RT.fit] at hf
    split at hf
    · rename_i hu
      obtain ⟨b, rfl, _⟩ := DataW.trod_bool hu h
      exact ⟨rfl, _, ⟨b, rfl⟩, VRps.one ⟨rfl, rfl⟩⟩
    · cases hf
  | str =>
    refine ⟨fun t fuel cs x hf h => ?_, fun l off fuel cs hf => by simp [RT.fitF] at hf⟩
    rw [RT.fit] at hf
    split at hf
    · rename_i hu
      obtain ⟨s, rfl, _, hs⟩ := DataW.trod_string hu h
      exact ⟨rfl, _, ⟨s, rfl, hs⟩, VRps.one ⟨rfl, rfl⟩⟩
    · cases hf
  | slice e ih =>
    refine ⟨fun t fuel cs x hf h => ?_, fun l off fuel cs hf => by simp [RT.fitF] at hf⟩
    rw [RT.fit] at hf
    split at hf
    · rename_i u hu
      simp only [Bool.and_eq_true, decide_eq_true_eq] at hf
      obtain ⟨⟨hsz, hpos⟩, hfit⟩ := hf
      rcases open_slice hu h with ⟨rfl, _⟩ | ⟨a, len, cap, m, k, D, Pl, rfl, _, hl, hm, hmm, _, hx⟩
      · exact ⟨rfl, _, ⟨0, [], rfl, Nat.zero_le _, rfl⟩, VRps.one ⟨none, 0, rfl, Nat.le_refl _, .inl ⟨rfl, rfl⟩⟩⟩
      · have hmn : len ≤ m := by rw [hmm]; split <;> omega
        obtain ⟨f, hfs⟩ := choose_lists (n := len) (Q := fun i l => e.Is l ∧ l.length = e.size ∧ ∀ (j : Nat) p, l[j]? = some p → ∃ v, W.cell? ((a.add (i * e.size)).add j) = some v ∧ VRp W (Ctx.old W).I p v) fun i hi => by
          obtain ⟨cs', h1, h2⟩ := hx i (by omega)
          rw [hsz] at h1
          obtain ⟨hlen, ps, h3, h4⟩ := ih.1 u k cs' _ hfit h2
          obtain ⟨_, h5, h6⟩ := World.cells?_some h1
          refine ⟨ps, h3, by rw [h4.1, hlen], fun j p hp => ?_⟩
          have hj : j < e.size := by
            have := (List.getElem?_eq_some_iff.1 hp).1
            rw [h4.1, hlen] at this
            exact this
          have hv : cs'[j]? = some (cs'[j]'(by omega)) := List.getElem?_eq_getElem (by omega)
          exact ⟨_, (h6 j hj).trans hv, h4.2 j p _ hp hv⟩
        refine ⟨rfl, _, ⟨len, cat f 0 len, rfl, by omega, Chunks.cat fun i _ hi => (hfs i (by omega)).1⟩, VRps.one ⟨some a, cap, rfl, hl, ?_⟩⟩
        rcases Nat.eq_zero_or_pos len with h0 | h0
        · left; subst h0; exact ⟨rfl, rfl⟩
        · right
          obtain ⟨_, h8, h9⟩ := hfs 0 h0
          obtain ⟨v, h1, _⟩ := h9 0 _ (List.getElem?_eq_getElem (by omega))
          rw [Nat.zero_mul, Addr.add_zero', Addr.add_zero'] at h1
          obtain ⟨b, o, spt⟩ := a
          have hsp : spt = none := by
            cases spt with
            | none => rfl
            | some q =>
              exfalso
              simp only [World.cell?] at h1
              split at h1 <;> simp at h1
          subst hsp
          refine ⟨b, o, rfl, ?_, ?_⟩
          · show b < W.heap.size
            rcases Nat.lt_or_ge b W.heap.size with h2 | h2
            · exact h2
            · simp [World.cell?, Array.getElem?_eq_none h2] at h1
          · have := VRc.cat (w := W) (I := (Ctx.old W).I) (b := b) (o := o) (f := f) (sz := e.size) (n := len) (k := 0) fun i _ hi => by
              obtain ⟨_, h4, h5⟩ := hfs i (by omega)
              refine ⟨h4, ?_⟩
              rw [VRc_get]
              intro j d hj
              obtain ⟨v, h6, h7⟩ := h5 j d hj
              rw [Addr.add_lit, Addr.add_lit] at h6
              exact ⟨v, h6, h7⟩
            simpa using this
    · cases hf
  | arr n e ih =>
    refine ⟨fun t fuel cs x hf h => ?_, fun l off fuel cs hf => by simp [RT.fitF] at hf⟩
    rw [RT.fit] at hf
    split at hf
    · rename_i m u hu
      simp only [Bool.and_eq_true, decide_eq_true_eq] at hf
      obtain ⟨⟨⟨rfl, hsz⟩, hct⟩, hfit⟩ := hf
      obtain ⟨xs, k, _, _, hlen, hxl, hx⟩ := DataW.trod_array hu h
      obtain ⟨f, hfs⟩ := choose_lists (n := m) (Q := fun i l => e.Is l ∧ VRps W (Ctx.old W).I l ((cs.drop (i * e.size)).take e.size)) fun i hi => by
        have h1 := hx i hi
        rw [hsz, List.getElem?_eq_getElem (by omega)] at h1
        obtain ⟨_, ps, h3, h4⟩ := ih.1 u k _ _ hfit h1
        exact ⟨ps, h3, h4⟩
      have hlen : cs.length = m * e.size := hlen.trans hct
      refine ⟨hlen, cat f 0 m, Chunks.cat fun i _ hi => (hfs i (by omega)).1, ?_⟩
      have := VRps.cat (cs := cs) (sz := e.size) (n := m) (k := 0) (f := f) fun i _ hi => (hfs i (by omega)).2
      rwa [Nat.zero_mul, List.drop_zero, List.take_of_length_le (by omega)] at this
    · cases hf
  | st fs ih =>
    refine ⟨fun t fuel cs x hf h => ?_, fun l off fuel cs hf => by simp [RT.fitF] at hf⟩
    rw [RT.fit] at hf
    split at hf
    · rename_i l hu
      simp only [Bool.and_eq_true, decide_eq_true_eq] at hf
      obtain ⟨hfit, hct⟩ := hf
      obtain ⟨xs, k, _, _, hlen, hxl, hx⟩ := DataW.trod_struct hu h
      have hlen : cs.length = fs.size := hlen.trans hct
      obtain ⟨ps, h1, h2⟩ := ih.2 l.toList 0 k cs hfit fun f hf => by
        obtain ⟨i, hi, rfl⟩ := List.getElem_of_mem hf
        have hi' : i < l.size := by simpa using hi
        have := hx i l[i] (Array.getElem?_eq_getElem hi')
        rw [List.getElem?_eq_getElem (by omega)] at this
        exact ⟨_, by simpa using this⟩
      rw [List.drop_zero, List.take_of_length_le (by omega)] at h2
      exact ⟨hlen, ps, h1, h2⟩
    · cases hf
  | nil =>
    refine ⟨fun t fuel cs x hf h => by simp [RT.fit] at hf, fun l off fuel cs hf h => ?_⟩
    refine ⟨[], rfl, ?_⟩
    show VRps W _ [] ((cs.drop off).take 0)
    rw [List.take_zero]
    exact VRps.nil
  | cons a r iha ihr =>
    refine ⟨fun t fuel cs x hf h => by simp [RT.fit] at hf, fun l off fuel cs hf h => ?_⟩
    cases l with
    | nil => simp [RT.fitF] at hf
    | cons f l =>
      rw [RT.fitF] at hf
      simp only [Bool.and_eq_true, decide_eq_true_eq] at hf
      obtain ⟨⟨⟨ho, hsz⟩, hfa⟩, hfr⟩ := hf
      obtain ⟨x, hx⟩ := h f (by simp)
      rw [ho, hsz] at hx
      obtain ⟨_, ps, h1, h2⟩ := iha.1 f.type fuel _ _ hfa hx
      obtain ⟨qs, h3, h4⟩ := ihr.2 l (off + a.size) fuel cs hfr fun g hg => h g (by simp [hg])
      refine ⟨ps ++ qs, ⟨ps, qs, rfl, h1, h3⟩, ?_⟩
      show VRps W _ (ps ++ qs) ((cs.drop off).take (a.size + r.size))
      rw [List.take_add, List.drop_drop]
      exact h2.append h4

def headTV : List PV → TV
  | p :: _ => .c (.p p)
  | [] => .tup []
/-- What an argument is to the abstract machine. -/
def RT.tv (rt : RT) (ps : List PV) : TV :=
  match rt with
  | .st _ => .agg (ps.map .p)
  | .arr _ _ => .agg (ps.map .p)
  | _ => headTV ps

theorem VRps.ds {I : Ctx} {ps : List PV} {vs : List Value} (h : VRps W I.I ps vs) : VRds W I (ps.map .p) vs := by
  refine ⟨by simpa using h.1, fun j d u hd hu => ?_⟩
  rw [List.getElem?_map] at hd
  cases hp : ps[j]? with
  | none => rw [hp] at hd; cases hd
  | some p => rw [hp] at hd; cases hd; exact h.2 j p u hp hu

theorem open_arg {rt : RT} {t : TypeId} {base : Nat} {v : Value} {d : DataW H} {ps : List MemPlace} (hf : rt.fit P t = true) (hval : Value.okWide P W .any base t v) (h : DataW.Trod enc P W 0 sp held t v d ps) :
    ∃ cs, rt.Is cs ∧ TVR W (Ctx.old W) (rt.tv cs) v := by
  obtain ⟨fuel, h⟩ := h
  obtain ⟨hlen, cs, h1, h2⟩ := (open_rt rt).1 t fuel _ _ hf h
  refine ⟨cs, h1, ?_⟩
  have one : ∀ u, v = u → u.cells = #[u] → cs.length = 1 → TVR W (Ctx.old W) (headTV cs) v := by
    rintro u rfl hu hl
    match cs, hl with
    | [p], _ =>
      rw [hu] at h2
      exact h2.2 0 p _ rfl rfl
  have hl := h2.1.trans hlen
  cases rt with
  | int k =>
    rw [RT.fit] at hf
    split at hf
    · rename_i k' hu
      obtain ⟨n, rfl⟩ := okWide_int hu hval
      exact one _ rfl rfl hl
    · cases hf
  | bool =>
    rw [RT.fit] at hf
    split at hf
    · rename_i hu
      obtain ⟨n, rfl⟩ := okWide_bool hu hval
      exact one _ rfl rfl hl
    · cases hf
  | str =>
    rw [RT.fit] at hf
    split at hf
    · rename_i hu
      obtain ⟨n, rfl⟩ := okWide_string hu hval
      exact one _ rfl rfl hl
    · cases hf
  | slice e =>
    rw [RT.fit] at hf
    split at hf
    · rename_i u hu
      obtain ⟨a, n, c, rfl⟩ := okWide_slice hu hval
      exact one _ rfl rfl hl
    · cases hf
  | arr n e =>
    rw [RT.fit] at hf
    split at hf
    · rename_i m u hu
      unfold Value.okWide at hval
      rw [hu] at hval
      obtain ⟨xs, rfl, _⟩ := hval
      exact ⟨xs, rfl, h2.ds⟩
    · cases hf
  | st fs =>
    rw [RT.fit] at hf
    split at hf
    · rename_i l hu
      obtain ⟨xs, rfl, _⟩ := okWide_struct hu hval
      exact ⟨xs, rfl, h2.ds⟩
    · cases hf
  | nil => simp [RT.fit] at hf
  | cons a r => simp [RT.fit] at hf

def fitAll (P : Program) : List RT → List TypeId → Bool
  | [], [] => true
  | r :: rs, t :: ts => r.fit P t && fitAll P rs ts
  | _, _ => false
def IsAll : List RT → List (List PV) → Prop
  | [], [] => True
  | r :: rs, p :: ps => r.Is p ∧ IsAll rs ps
  | _, _ => False
def tvs : List RT → List (List PV) → List TV
  | r :: rs, p :: ps => r.tv p :: tvs rs ps
  | _, _ => []

theorem open_args {base : Nat} : ∀ {rts : List RT} {ts : List TypeId} {vs : List Value} {ds : List (DataW H)} {ps : List MemPlace}, fitAll P rts ts = true → (∀ (j : Nat) t v, ts[j]? = some t → vs[j]? = some v → Value.okWide P W .any base t v) →
    DataW.TrodAll enc P W 0 sp held ts vs ds ps → ds.length = ts.length ∧ ∃ pss, IsAll rts pss ∧ TVRs W (Ctx.old W) (tvs rts pss) vs
  | [], [], vs, ds, ps, _, _, h => by
    match vs, ds, h with
    | [], [], _ => exact ⟨rfl, [], trivial, rfl⟩
  | r :: rs, t :: ts, vs, ds, ps, hf, hv, h => by
    match vs, ds, h with
    | v :: vs, d :: ds, ⟨p, q, h1, h2, _⟩ =>
      simp only [fitAll, Bool.and_eq_true] at hf
      obtain ⟨cs, h3, h4⟩ := open_arg hf.1 (hv 0 t v rfl rfl) h1
      obtain ⟨hl, pss, h5, h6⟩ := open_args hf.2 (fun j t v ht hv' => hv (j + 1) t v ht hv') h2
      exact ⟨by simp [hl], cs :: pss, ⟨h3, h5⟩, v, vs, rfl, h4, h6⟩
  | [], _ :: _, _, _, _, hf, _, _ => by simp [fitAll] at hf
  | _ :: _, [], _, _, _, hf, _, _ => by simp [fitAll] at hf

/-- A law that is true for all arguments of its types does what its row says. -/
theorem law_row {fid : FuncId} {f : Func} {s : ChangeSpec} {tb : TypeId} {rts : List RT} {base : Nat} {args : Array Value} {ds gs : List (DataW H)} {before : List MemPlace} (hl : laidOutB P = true) (hr : ∀ t ∈ f.params.toList, P.readableRec t = true ∧ t < P.types.size)
    (hres : f.resultTypes = #[tb]) (hb : P.underlying tb = some .bool) (hv : s.vars = []) (hsp : ∀ ds : List (DataW H), ds.length = f.params.toList.length → (s.fn H ds).results = [.lit (.bool true)] ∧ (s.fn H ds).args = ds ∧ (s.fn H ds).vars = [])
    (hfit : fitAll P rts f.params.toList = true) (hm : ∀ pss, IsAll rts pss → Meets P fid ⟨tvs rts pss, [], 0, .c (.p (.v (.bool true))), [], 0⟩)
    (hval : ∀ (j : Nat) t v, f.params[j]? = some t → args[j]? = some v → Value.okWide P W .any base t v)
    (hW : DataW.Whole enc P f.params.toList s.vars false W args.toList ds gs before) : Calls P fid args W fun e W' => ∃ v, e = .returned v ∧ s.post enc P f false true false false W args v W' := by
  have hW' := hW
  obtain ⟨p, q, hA, hV, hpq, hfz, hnd⟩ := hW
  rw [hv] at hV
  obtain ⟨rfl, rfl⟩ := trodVars_none hV
  obtain ⟨hlen, pss, h1, h2⟩ := open_args (W := W) hfit (fun j t v ht hv => hval j t v (by simpa using ht) (by simpa using hv)) hA
  exact law_contract hl hr hres hb hv (by rw [List.append_nil]; exact hsp ds hlen) hW' (hm pss h1) h2
end
end Go.Proofs.Ytjieenfbfckafaa.Am

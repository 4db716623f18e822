/- The abstract machine's code: what it asks for of the state ahead of it, and that it is right. -/
import Derived.Test.YtjieenfbfckafaaAmEager
namespace Go.Proofs.Ytjieenfbfckafaa.Am
open Go
set_option linter.unusedVariables false
set_option linter.unusedSimpArgs false

/-- Another view of the same: names below p stay. -/
def Wk (p : Nat) (s s' : S) : Prop := ∀ N X a w, Rel N X s a w → ∃ X', Rel N X' s' a w ∧ EvolP p X w (look s.hp) X' w (look s'.hp)
theorem Wk.refl (p : Nat) (s : S) : Wk p s s := fun N X a w r => ⟨X, r, (Evol.refl _ _ _).toP p⟩
theorem Wk.trans {p : Nat} {s s' s'' : S} (h : Wk p s s') (h' : Wk p s' s'') : Wk p s s'' := fun N X a w r => by
  obtain ⟨X1, r1, e1⟩ := h N X a w r
  obtain ⟨X2, r2, e2⟩ := h' N X1 a w r1
  exact ⟨X2, r2, e1.trans e2⟩

/-- The temporaries that are still looked at, in this order. -/
def keepT : List Nat → List (Nat × TV) → List (Nat × TV)
  | [], _ => []
  | k :: ks, env => match look env k with
    | some v => (k, v) :: keepT ks env
    | none => keepT ks env
def S.keep (ks : List Nat) (s : S) : S := ⟨keepT ks s.env, s.hp, s.nx⟩
theorem look_keepT {env : List (Nat × TV)} {t : Nat} {d : TV} : ∀ {ks : List Nat}, look (keepT ks env) t = some d → look env t = some d
  | [], h => by cases h
  | k :: ks, h => by
    unfold keepT at h
    split at h
    · rename_i v hv
      simp only [look_cons, look_nil] at h
      split at h
      · rename_i e; cases h; rw [e]; exact hv
      · exact look_keepT h
    · exact look_keepT h
def keepTK : List Nat → List (Nat × TV) → (List (Nat × TV) → Prop) → Prop
  | [], _, K => K []
  | k :: ks, env, K => match look env k with
    | some v => keepTK ks env fun r => K ((k, v) :: r)
    | none => keepTK ks env K
theorem keepTK_iff {env : List (Nat × TV)} : ∀ {ks : List Nat} {K : List (Nat × TV) → Prop}, keepTK ks env K ↔ K (keepT ks env)
  | [], K => Iff.rfl
  | k :: ks, K => by
    unfold keepTK keepT
    split <;> exact keepTK_iff
def S.keepK (ks : List Nat) (s : S) (K : S → Prop) : Prop :=
  match s with
  | ⟨env, hp, nx⟩ => keepTK ks env fun env' => K ⟨env', hp, nx⟩
theorem S.keepK_iff {ks : List Nat} {s : S} {K : S → Prop} : s.keepK ks K ↔ K (s.keep ks) := by
  obtain ⟨env, hp, nx⟩ := s
  exact keepTK_iff
theorem Rel.keep {N : Nat} {X : Ctx} {s : S} {a : Act} {w : World} (ks : List Nat) (r : Rel N X s a w) : Rel N X (s.keep ks) a w :=
  ⟨r.df, r.sz, fun t d h => r.env t d (look_keepT h), r.ok, r.wf, r.dm⟩

inductive ACode where
  | skip
  | reg (gs : List GOp) (bits : Option (List Nat)) (ks : List Nat)
  | seq (a b : ACode)
  | cut (a b : ACode)
  | ghost (a : ACode)
  | cond (c : Opd) (a b : ACode)
  | block (id : Nat) (a : ACode)
  | loop (a : ACode)
  | exit (id : Nat)
  | ret

def ACode.fits (P : Program) (N : Nat) : ACode → Code → Bool
  | .skip, .skip => true
  | .reg gs none _, .region _ ops false => gfits P N ops gs ops.toList
  | .reg gs (some bits) _, .region _ ops true => gfits P N ops gs ops.toList && drawFits bits gs ops
  | .seq a b, .seq x y => a.fits P N x && b.fits P N y
  | .cut a b, .seq x y => a.fits P N x && b.fits P N y
  | .ghost a, x => a.fits P N x
  | .cond c a b, .cond c' x y => c.fits c' && a.fits P N x && b.fits P N y
  | .block id a, .block id' x => decide (id = id') && a.fits P N x
  | .loop a, .loop x => a.fits P N x
  | .exit id, .exit id' => decide (id = id')
  | .ret, .ret => true
  | _, _ => false

def thenA (K : S → Prop) (Q : Exit → S → Prop) : Exit → S → Prop
  | .normal, s => K s
  | e, s => Q e s
def inA (id : Nat) (Q : Exit → S → Prop) : Exit → S → Prop
  | .exit id', s => match Nat.beq id' id with
    | true => Q .normal s
    | false => Q (.exit id') s
  | e, s => Q e s
theorem inA_exit {id id' : Nat} {Q : Exit → S → Prop} {s : S} : inA id Q (.exit id') s ↔ (id' = id → Q .normal s) ∧ (id' ≠ id → Q (.exit id') s) := by
  show (match Nat.beq id' id with | true => _ | false => _) ↔ _
  cases h : Nat.beq id' id with
  | true => simp [Nat.eq_of_beq_eq_true h]
  | false => simp [Nat.ne_of_beq_eq_false h]

def aw (P : Program) (p : Nat) : ACode → (Exit → S → Prop) → S → Prop
  | .skip, Q, s => Q .normal s
  | .reg gs none ks, Q, s => runN P gs s fun s' => s'.keepK ks (Q .normal)
  | .reg gs (some bits) ks, Q, s => runE P gs s [] fun s' fp => chkDraw bits fp.reverse = true ∧ s'.keepK ks (Q .normal)
  | .seq a b, Q, s => aw P p a (thenA (aw P p b Q) Q) s
  | .cut a b, Q, s => ∃ J : S → Prop, aw P p a (thenA J Q) s ∧ ∀ s', J s' → aw P p b Q s'
  | .ghost a, Q, s => ∃ s', Wk p s s' ∧ aw P p a Q s'
  | .cond c a b, Q, s => asB (ev s c) fun v => onB v (aw P p a Q s) (aw P p b Q s)
  | .block id a, Q, s => aw P p a (inA id Q) s
  | .loop a, Q, s => ∃ (I : Nat → S → Prop) (n : Nat) (s0 : S), Wk p s s0 ∧ I n s0 ∧ ∀ n s, I n s → aw P p a (thenA (fun s' => ∃ n' s'', n' < n ∧ Wk p s' s'' ∧ I n' s'') Q) s
  | .exit id, Q, s => Q (.exit id) s
  | .ret, Q, s => Q .ret s

/-- Code does what is asked for. -/
def AWp (P : Program) (N p : Nat) (c : Code) (Q : Exit → S → Prop) (s : S) : Prop :=
  ∀ X a w, Rel N X s a w → c.wp P (fun e a' w' => ∃ s' X', Q e s' ∧ Rel N X' s' a' w' ∧ EvolP p X w (look s.hp) X' w' (look s'.hp)) a w

theorem aw_sound {P : Program} {N p : Nat} (hm : P.follows .mixedOrders = true) : ∀ (ac : ACode) (c : Code) (Q : Exit → S → Prop) (s : S), ac.fits P N c = true → aw P p ac Q s → AWp P N p c Q s := by
  intro ac
  induction ac with
  | skip =>
    intro c Q s hf h X a w r
    cases c <;> simp only [ACode.fits] at hf <;> try cases hf
    exact wp_skip ⟨s, X, h, r, (Evol.refl _ _ _).toP p⟩
  | reg gs bits ks =>
    intro c Q s hf h X a w r
    cases c <;> (try (cases bits <;> simp [ACode.fits] at hf; done))
    rename_i id ops draw
    cases bits with
    | none =>
      cases draw <;> simp [ACode.fits] at hf
      have h : runN P gs s fun s' => s'.keepK ks (Q .normal) := h
      rw [runN_iff (fp := [])] at h
      simp only [S.keepK_iff] at h
      refine wp_region_list (run_seq gs ops.toList s [] _ X a w hf h r fun s' fp' X' a' w' hk r' ev => ?_)
      exact ⟨_, X', hk, r'.keep ks, ev.toP p⟩
    | some bits =>
      cases draw <;> simp [ACode.fits] at hf
      have h : runE P gs s [] fun s' fp => chkDraw bits fp.reverse = true ∧ s'.keepK ks (Q .normal) := h
      simp only [runE_iff, S.keepK_iff] at h
      refine run_any hm hf.1 hf.2 h r fun s' fp' X' a' w' hk r' ev => ?_
      exact ⟨_, X', hk, r'.keep ks, ev.toP p⟩
  | seq x y ihx ihy =>
    intro c Q s hf h X a w r
    cases c <;> simp only [ACode.fits] at hf <;> try cases hf
    rename_i cx cy
    rw [Bool.and_eq_true] at hf
    refine wp_seq (wp_mono (ihx cx _ s hf.1 h X a w r) ?_)
    rintro e a' w' ⟨s', X', hq, r', ev⟩
    cases e
    case normal =>
      refine wp_mono (ihy cy Q s' hf.2 hq X' a' w' r') ?_
      rintro e a'' w'' ⟨s'', X'', hq', r'', ev'⟩
      exact ⟨s'', X'', hq', r'', ev.trans ev'⟩
    all_goals exact ⟨s', X', hq, r', ev⟩
  | cut x y ihx ihy =>
    intro c Q s hf h X a w r
    cases c <;> simp only [ACode.fits] at hf <;> try cases hf
    rename_i cx cy
    rw [Bool.and_eq_true] at hf
    obtain ⟨J, h1, h2⟩ := h
    refine wp_seq (wp_mono (ihx cx _ s hf.1 h1 X a w r) ?_)
    rintro e a' w' ⟨s', X', hq, r', ev⟩
    cases e
    case normal =>
      refine wp_mono (ihy cy Q s' hf.2 (h2 s' hq) X' a' w' r') ?_
      rintro e a'' w'' ⟨s'', X'', hq', r'', ev'⟩
      exact ⟨s'', X'', hq', r'', ev.trans ev'⟩
    all_goals exact ⟨s', X', hq, r', ev⟩
  | ghost x ih =>
    intro c Q s hf h X a w r
    obtain ⟨s1, hwk, h⟩ := h
    obtain ⟨X1, r1, e1⟩ := hwk N X a w r
    have hf : x.fits P N c = true := by
      rw [ACode.fits] at hf
      exact hf
    refine wp_mono (ih c Q s1 hf h X1 a w r1) ?_
    rintro e a' w' ⟨s', X', hq, r', ev⟩
    exact ⟨s', X', hq, r', e1.trans ev⟩
  | cond c0 x y ihx ihy =>
    intro c Q s hf h X a w r
    cases c <;> simp only [ACode.fits] at hf <;> try cases hf
    rename_i c' cx cy
    rw [Bool.and_eq_true, Bool.and_eq_true] at hf
    obtain ⟨v, hv, h0⟩ := asB_some h
    obtain ⟨h1, h2⟩ := onB_iff.1 h0
    clear h0
    have hc := ev_sound (w := w) (X := X) (a := a) hf.1.1 (fun t _ d ht => (r.env t d ht).2) hv
    have hc := tvr_v hc
    cases v with
    | true => exact wp_cond_true hc (ihx cx Q s hf.1.2 (h1 rfl) X a w r)
    | false => exact wp_cond_false hc (ihy cy Q s hf.2 (h2 rfl) X a w r)
  | block id x ih =>
    intro c Q s hf h X a w r
    cases c <;> simp only [ACode.fits] at hf <;> try cases hf
    rename_i id' cx
    rw [Bool.and_eq_true, decide_eq_true_eq] at hf
    obtain ⟨rfl, hf⟩ := hf
    refine wp_block (wp_mono (ih cx _ s hf h X a w r) ?_)
    rintro e a' w' ⟨s', X', hq, r', ev⟩
    cases e
    case exit id' =>
      show if id' = id then _ else _
      split
      · rename_i e; exact ⟨s', X', (inA_exit.1 hq).1 e, r', ev⟩
      · rename_i e; exact ⟨s', X', (inA_exit.1 hq).2 e, r', ev⟩
    all_goals exact ⟨s', X', hq, r', ev⟩
  | loop x ih =>
    intro c Q s hf h X a w r
    cases c <;> simp only [ACode.fits] at hf <;> try cases hf
    rename_i cx
    obtain ⟨I, n, s0, hwk, hI, hround⟩ := h
    obtain ⟨X0, r0, e0⟩ := hwk N X a w r
    refine wp_loop_ghost (fun n a' w' => ∃ s' X', I n s' ∧ Rel N X' s' a' w' ∧ EvolP p X w (look s.hp) X' w' (look s'.hp)) n ⟨s0, X0, hI, r0, e0⟩ ?_
    rintro n a1 w1 ⟨s1, X1, hI1, r1, e1⟩
    refine wp_mono (ih cx _ s1 hf (hround n s1 hI1) X1 a1 w1 r1) ?_
    rintro e a' w' ⟨s', X', hq, r', ev⟩
    cases e
    case normal =>
      obtain ⟨n', s'', hlt, hwk', hI'⟩ := hq
      obtain ⟨X'', r'', e''⟩ := hwk' N X' a' w' r'
      exact ⟨n', hlt, s'', X'', hI', r'', (e1.trans ev).trans e''⟩
    all_goals exact ⟨s', X', hq, r', e1.trans ev⟩
  | exit id =>
    intro c Q s hf h X a w r
    cases c <;> simp only [ACode.fits] at hf <;> try cases hf
    simp only [decide_eq_true_eq] at hf
    subst hf
    exact wp_exit ⟨s, X, h, r, (Evol.refl _ _ _).toP p⟩
  | ret =>
    intro c Q s hf h X a w r
    cases c <;> simp only [ACode.fits] at hf <;> try cases hf
    exact wp_ret ⟨s, X, h, r, (Evol.refl _ _ _).toP p⟩

/-! ### The walk's steps: what comes behind stands in a variable -/
section
variable {P : Program} {p : Nat}
theorem aw_seq {x y : ACode} {Q : Exit → S → Prop} {s : S} (h : ∀ K : S → Prop, (∀ s, aw P p y Q s → K s) → aw P p x (thenA K Q) s) : aw P p (.seq x y) Q s := h _ fun _ h => h
theorem aw_cut {x y : ACode} {Q : Exit → S → Prop} {s : S} (J : S → Prop) (h : ∀ K : S → Prop, (∀ s, J s → K s) → aw P p x (thenA K Q) s) (h' : ∀ s', J s' → aw P p y Q s') : aw P p (.cut x y) Q s := ⟨J, h J fun _ h => h, h'⟩
theorem aw_ghost {x : ACode} {Q : Exit → S → Prop} {s : S} (s' : S) (h : Wk p s s') (h' : aw P p x Q s') : aw P p (.ghost x) Q s := ⟨s', h, h'⟩
theorem aw_loop {x : ACode} {Q : Exit → S → Prop} {s : S} (I : Nat → S → Prop) (n : Nat) (s0 : S) (h0 : Wk p s s0) (hI : I n s0)
    (round : ∀ n s, I n s → ∀ K : S → Prop, (∀ s' n' s'', n' < n → Wk p s' s'' → I n' s'' → K s') → aw P p x (thenA K Q) s) : aw P p (.loop x) Q s :=
  ⟨I, n, s0, h0, hI, fun n s h => round n s h _ fun s' n' s'' h1 h2 h3 => ⟨n', s'', h1, h2, h3⟩⟩
end
end Go.Proofs.Ytjieenfbfckafaa.Am

/- A region that draws its order comes to the end that the order of the text comes to, where operations that no edge orders keep apart. -/
import Derived.Test.YtjieenfbfckafaaAmRegion
namespace Go.Proofs.Ytjieenfbfckafaa.Am
open Go
set_option linter.unusedVariables false
set_option linter.unusedSimpArgs false

/-! ### Writes one after the other, by those in a set -/
def st {L C : Type} (w : Nat → L → Option C) (S : Nat → Bool) (s0 : L → C) : Nat → L → C
  | 0, l => s0 l
  | k + 1, l => if S k then (w k l).getD (st w S s0 k l) else st w S s0 k l

theorem st_congr {L C : Type} {w w' : Nat → L → Option C} {S S' : Nat → Bool} {s0 : L → C} {l : L} : ∀ k, (∀ j, j < k → (if S j then w j l else none) = (if S' j then w' j l else none)) → st w S s0 k l = st w' S' s0 k l
  | 0, _ => rfl
  | k + 1, h => by
    have ih := st_congr (s0 := s0) k fun j hj => h j (by omega)
    have hk := h k (by omega)
    simp only [st, ih]
    clear h ih
    cases h1 : S k <;> cases h2 : S' k <;> simp_all <;> rw [← hk] <;> rfl

/-- What a ready operation meets is what it meets in the text's order. -/
theorem st_meets {L C : Type} {w : Nat → L → Option C} {S : Nat → Bool} {s0 : L → C} {n k : Nat} {l : L} (hkn : k < n) (hk : S k = false) (hA : ∀ j, j < k → (w j l).isSome → S j = true) (hB : ∀ j, k < j → j < n → (w j l).isSome → S j = false) :
    st w S s0 n l = st w (fun _ => true) s0 k l := by
  have h1 : ∀ m, k ≤ m → m ≤ n → st w S s0 m l = st w S s0 k l := by
    intro m
    induction m with
    | zero => intro h _; have : k = 0 := by omega
              subst this; rfl
    | succ m ih =>
      intro h hm
      rcases Nat.lt_or_ge m k with h1 | h1
      · have : k = m + 1 := by omega
        rw [this]
      · simp only [st]
        rw [ih h1 (by omega)]
        by_cases hs : S m = true
        · rw [if_pos hs]
          rcases Nat.lt_or_ge k m with h2 | h2
          · have : (w m l).isSome = false := by
              cases hw : (w m l).isSome with
              | false => rfl
              | true => have := hB m h2 (by omega) hw; rw [hs] at this; cases this
            rw [Option.isSome_eq_false_iff, Option.isNone_iff_eq_none] at this
            rw [this]; rfl
          · have : m = k := by omega
            subst this
            rw [hk] at hs; cases hs
        · rw [if_neg hs]
  rw [h1 n (by omega) (Nat.le_refl _)]
  refine st_congr k fun j hj => ?_
  cases hw : w j l with
  | none => simp
  | some c => rw [hA j hj (by rw [hw]; rfl)]

/-- One operation more. -/
theorem st_more {L C : Type} {w : Nat → L → Option C} {S : Nat → Bool} {s0 : L → C} {n k : Nat} {l : L} (hkn : k < n) (hk : S k = false) (hB : (w k l).isSome → ∀ j, k < j → j < n → (w j l).isSome → S j = false) :
    st w (fun j => S j || j == k) s0 n l = (w k l).getD (st w S s0 n l) := by
  cases hw : w k l with
  | none =>
    refine st_congr n fun j hj => ?_
    by_cases hjk : j = k
    · subst hjk; simp [hw]
    · have : (j == k) = false := by simpa using hjk
      simp only [this, Bool.or_false]
  | some c =>
    have hB := hB (by rw [hw]; rfl)
    have h1 : ∀ m, k < m → m ≤ n → st w (fun j => S j || j == k) s0 m l = c := by
      intro m
      induction m with
      | zero => intro h _; omega
      | succ m ih =>
        intro h hm
        simp only [st]
        rcases Nat.lt_or_ge k m with h2 | h2
        · rw [ih h2 (by omega)]
          have hmk : (m == k) = false := by simp; omega
          simp only [hmk, Bool.or_false]
          split
          · rename_i hs
            have : (w m l).isSome = false := by
              cases hw' : (w m l).isSome with
              | false => rfl
              | true => have := hB m h2 (by omega) hw'; rw [hs] at this; cases this
            rw [Option.isSome_eq_false_iff, Option.isNone_iff_eq_none] at this
            rw [this]; rfl
          · rfl
        · have : m = k := by omega
          subst this
          simp [hw]
    rw [h1 n (by omega) (Nat.le_refl _)]
    rfl

/-! ### What a region's operations did in the text's order -/
structure Rec where
  s : S
  e : Option Eff

def lastW : List (Nat × Option Ob) → Nat → Option (Option Ob)
  | [], _ => none
  | (k, x) :: r, i => match lastW r i with
    | some y => some y
    | none => if i = k then some x else none
theorem upd_lastW : ∀ (wr : List (Nat × Option Ob)) (h : Hp) (i : Nat), h.upd wr i = (lastW wr i).getD (h i)
  | [], h, i => rfl
  | (k, none) :: r, h, i => by
    simp only [Hp.upd, lastW, upd_lastW r]
    cases lastW r i with
    | some y => rfl
    | none =>
      simp only [Option.getD_none, Hp.del]
      split <;> simp
  | (k, some x) :: r, h, i => by
    simp only [Hp.upd, lastW, upd_lastW r]
    cases lastW r i with
    | some y => rfl
    | none =>
      simp only [Option.getD_none, Hp.set]
      split <;> simp
theorem lastW_mem : ∀ {wr : List (Nat × Option Ob)} {i : Nat}, (lastW wr i).isSome → i ∈ wr.map (·.1)
  | [], i, h => by simp [lastW] at h
  | (k, x) :: r, i, h => by
    simp only [lastW] at h
    cases hr : lastW r i with
    | some y => simp [lastW_mem (wr := r) (i := i) (by rw [hr]; rfl)]
    | none =>
      rw [hr] at h
      simp only [] at h
      split at h
      · rename_i e; simp [e]
      · cases h

def wT (gs : List GOp) (R : Nat → Rec) (j : Nat) (t : Nat) : Option (Option TV) :=
  match (gs[j]?).bind (·.dst) with
  | some d => if t = d then some (some (match (R j).e with | some e => e.r | none => .tup [])) else none
  | none => none
def wH (R : Nat → Rec) (j : Nat) (id : Nat) : Option (Option Ob) :=
  match (R j).e with
  | some e => lastW e.wr id
  | none => none
def nxAt (nx0 : Nat) (R : Nat → Rec) : Nat → Nat
  | 0 => nx0
  | k + 1 => nxAt nx0 R k + ((R k).e.map (·.nw)).getD 0
def fpOf (r : Rec) : List Nat × List Nat :=
  match r.e with
  | some e => (e.acc, e.wrs)
  | none => ([], [])

abbrev eAt (gs : List GOp) (s0 : S) (R : Nat → Rec) (Sl : Nat → Bool) (k : Nat) : Env := st (wT gs R) Sl (look s0.env) k
abbrev hAt (s0 : S) (R : Nat → Rec) (Sl : Nat → Bool) (k : Nat) : Hp := st (wH R) Sl (look s0.hp) k

/-- The k-th operation in the text's order. -/
def StepOk (P : Program) (gs : List GOp) (ops : Array Oper) (s0 : S) (R : Nat → Rec) (k : Nat) : Prop :=
  ∃ g o, gs[k]? = some g ∧ ops[k]? = some o ∧ look (R k).s.env = eAt gs s0 R (fun _ => true) k ∧ look (R k).s.hp = hAt s0 R (fun _ => true) k ∧ (R k).s.nx = nxAt s0.nx R k ∧
    match (R k).e with
    | some e => Does P o g.op.looks (R k).s e ∧ ∀ t b, g.g = some (t, b) → look (R k).s.env t = some (.c (.p (.v (.bool b))))
    | none => ∃ t b, g.g = some (t, b) ∧ (look (R k).s.env t = some (.c (.p (.v (.bool !b)))) ∨ look (R k).s.env t = some (.tup []))

theorem nxAt_congr {nx0 : Nat} {R R' : Nat → Rec} : ∀ k, (∀ j, j < k → R j = R' j) → nxAt nx0 R k = nxAt nx0 R' k
  | 0, _ => rfl
  | k + 1, h => by simp only [nxAt, nxAt_congr k fun j hj => h j (by omega), h k (by omega)]
theorem eAt_congr {gs : List GOp} {s0 : S} {R R' : Nat → Rec} {Sl : Nat → Bool} (k : Nat) (h : ∀ j, j < k → R j = R' j) : eAt gs s0 R Sl k = eAt gs s0 R' Sl k := by
  funext t
  exact st_congr k fun j hj => by simp only [wT, h j hj]
theorem hAt_congr {s0 : S} {R R' : Nat → Rec} {Sl : Nat → Bool} (k : Nat) (h : ∀ j, j < k → R j = R' j) : hAt s0 R Sl k = hAt s0 R' Sl k := by
  funext t
  exact st_congr k fun j hj => by simp only [wH, h j hj]
theorem StepOk.congr {P : Program} {gs : List GOp} {ops : Array Oper} {s0 : S} {R R' : Nat → Rec} {k : Nat} (h : ∀ j, j ≤ k → R j = R' j) (hs : StepOk P gs ops s0 R k) : StepOk P gs ops s0 R' k := by
  obtain ⟨g, o, h1, h2, h3, h4, h5, h6⟩ := hs
  have hk := h k (Nat.le_refl _)
  refine ⟨g, o, h1, h2, ?_, ?_, ?_, ?_⟩
  · rw [← hk, h3]; exact eAt_congr k fun j hj => h j (by omega)
  · rw [← hk, h4]; exact hAt_congr k fun j hj => h j (by omega)
  · rw [← hk, h5]; exact nxAt_congr k fun j hj => h j (by omega)
  · rw [← hk]; exact h6

/-- A fact that an operation's run hands on whatever comes. -/
theorem wp_const {P : Program} {o : Oper} {a : Act} {w : World} {p : Prop} (h : o.wp P a w (fun _ _ => p) (fun _ _ _ => False)) : p := by
  unfold Oper.wp at h
  generalize (execOp a.eval o).run P w = r at h
  cases r with
  | ok n w' =>
    cases n <;> simp only [Oper.upon] at h
    all_goals first
      | exact h
      | exact h.elim
      | (obtain ⟨e, w', fr, hR, _⟩ := h []
         cases e with
         | returned v => exact hR
         | panicked c => exact hR.elim
         | outgrown => obtain ⟨_, _, h⟩ := hR; exact h.elim)
      | (obtain ⟨v, w', hR, _⟩ := h default []
         exact hR)
  | halt x w' => cases x <;> simp only [Oper.upon] at h

section
variable {P : Program} {N : Nat} {ops : Array Oper}

/-- The text's order, operation by operation. -/
theorem run_steps {gs : List GOp} {s0 : S} {K : S → List (List Nat × List Nat) → Prop} {X : Ctx} {a : Act} {w : World} (hf : gfits P N ops gs ops.toList = true) (hrun : run P gs s0 [] K) (r0 : Rel N X s0 a w) :
    ∀ n, n ≤ gs.length → ∃ (R : Nat → Rec) (s : S), (∀ k, k < n → StepOk P gs ops s0 R k) ∧ look s.env = eAt gs s0 R (fun _ => true) n ∧ look s.hp = hAt s0 R (fun _ => true) n ∧ s.nx = nxAt s0.nx R n ∧
      run P (gs.drop n) s (((List.range n).map fun k => fpOf (R k)).reverse) K ∧ ∃ X' a' w', Rel N X' s a' w'
  | 0, _ => ⟨fun _ => ⟨s0, none⟩, s0, fun k hk => by omega, rfl, rfl, rfl, by simpa using hrun, X, a, w, r0⟩
  | n + 1, hn => by
    obtain ⟨R, s, h1, h2, h3, h4, h5, X1, a1, w1, r1⟩ := run_steps hf hrun r0 n (by omega)
    have hgs : gs.length = ops.size := by
      have key : ∀ (gs : List GOp) (os : List Oper), gfits P N ops gs os = true → gs.length = os.length := by
        intro gs
        induction gs with
        | nil => intro os h; cases os <;> simp_all [gfits]
        | cons g gs ih => intro os h; cases os with
                          | nil => simp [gfits] at h
                          | cons o os => simp only [gfits, Bool.and_eq_true] at h; simp [ih os h.2]
      have := key gs ops.toList hf
      simpa using this
    have hlt : n < gs.length := by omega
    have hlt' : n < ops.size := by omega
    have hfit : gfit P N ops gs[n] ops[n] = true := by
      have key : ∀ (gs : List GOp) (os : List Oper), gfits P N ops gs os = true → ∀ (n : Nat) (h1 : n < gs.length) (h2 : n < os.length), gfit P N ops gs[n] os[n] = true := by
        intro gs
        induction gs with
        | nil => intro os h n h1; simp at h1
        | cons g gs ih => intro os h n h1 h2; cases os with
                          | nil => simp at h2
                          | cons o os =>
                            simp only [gfits, Bool.and_eq_true] at h
                            cases n with
                            | zero => exact h.1
                            | succ n => exact ih os h.2 n (by simpa using h1) (by simpa using h2)
      have := key gs ops.toList hf n hlt (by simpa using hlt')
      simpa using this
    obtain ⟨hdst, hdN, hop, hg⟩ := gfit_parts hfit
    have hgn : gs[n]? = some gs[n] := List.getElem?_eq_getElem hlt
    have hon : ops[n]? = some ops[n] := Array.getElem?_eq_getElem hlt'
    rw [List.drop_eq_getElem_cons hlt] at h5
    -- the record laid at n
    have lay : ∀ (q : Rec), (∀ k, k < n → StepOk P gs ops s0 (fun j => if j = n then q else R j) k) ∧ eAt gs s0 (fun j => if j = n then q else R j) (fun _ => true) n = eAt gs s0 R (fun _ => true) n ∧
        hAt s0 (fun j => if j = n then q else R j) (fun _ => true) n = hAt s0 R (fun _ => true) n ∧ nxAt s0.nx (fun j => if j = n then q else R j) n = nxAt s0.nx R n ∧
        (List.range n).map (fun k => fpOf ((fun j => if j = n then q else R j) k)) = (List.range n).map fun k => fpOf (R k) := by
      intro q
      have hc : ∀ j, j < n → R j = (fun j => if j = n then q else R j) j := fun j hj => by simp; omega
      refine ⟨fun k hk => (h1 k hk).congr fun j hj => hc j (by omega), (eAt_congr n hc).symm, (hAt_congr n hc).symm, (nxAt_congr n hc).symm, ?_⟩
      apply List.map_congr_left
      intro k hk
      rw [List.mem_range] at hk
      simp only []
      rw [if_neg (by omega)]
    -- carried out
    have exec : ∀ (s1 : S), Rel N X1 s1 a1 w1 → look s1.env = look s.env → s1.hp = s.hp → s1.nx = s.nx → (∀ t b, gs[n].g = some (t, b) → look s1.env t = some (.c (.p (.v (.bool b))))) →
        (gs[n].op.eff P s1 fun e => run P (gs.drop (n + 1)) (s1.app gs[n].dst e) ((e.acc, e.wrs) :: ((List.range n).map fun k => fpOf (R k)).reverse) K) →
        ∃ (R : Nat → Rec) (s : S), (∀ k, k < n + 1 → StepOk P gs ops s0 R k) ∧ look s.env = eAt gs s0 R (fun _ => true) (n + 1) ∧ look s.hp = hAt s0 R (fun _ => true) (n + 1) ∧ s.nx = nxAt s0.nx R (n + 1) ∧
          run P (gs.drop (n + 1)) s (((List.range (n + 1)).map fun k => fpOf (R k)).reverse) K ∧ ∃ X' a' w', Rel N X' s a' w' := by
      intro s1 r1' e1 e2 e3 hgt h0
      obtain ⟨e, hdoes, hr⟩ := eff_sound hop r1'.wf h0
      obtain ⟨l1, l2, l3, l4, l5⟩ := lay ⟨s1, some e⟩
      have hn0 : (fun j => if j = n then (⟨s1, some e⟩ : Rec) else R j) n = ⟨s1, some e⟩ := if_pos rfl
      refine ⟨fun j => if j = n then ⟨s1, some e⟩ else R j, s1.app gs[n].dst e, ?_, ?_, ?_, ?_, ?_, ?_⟩
      · intro k hk
        rcases Nat.lt_or_ge k n with h | h
        · exact l1 k h
        · have : k = n := by omega
          subst this
          refine ⟨_, _, hgn, hon, ?_, ?_, ?_, ?_⟩
          · rw [hn0, l2, ← h2]; exact e1
          · rw [hn0, l3, ← h3]; show look s1.hp = _; rw [e2]
          · rw [hn0, l4, ← h4]; exact e3
          · rw [hn0]; exact ⟨hdoes, hgt⟩
      · funext t
        show look (setT s1.env gs[n].dst e.r) t = _
        simp only [eAt, st, if_true]
        rw [show st (wT gs fun j => if j = n then (⟨s1, some e⟩ : Rec) else R j) (fun _ => true) (look s0.env) n = eAt gs s0 R (fun _ => true) n from l2, ← h2, ← e1]
        simp only [wT, hn0, hgn, Option.bind_some]
        cases gs[n].dst with
        | none => rfl
        | some d =>
          simp only [setT, look_put]
          split <;> rfl
      · rw [show (s1.app gs[n].dst e).hp = upds s1.hp e.wr from rfl, look_upds]
        funext i
        simp only [hAt, st, if_true]
        rw [show st (wH fun j => if j = n then (⟨s1, some e⟩ : Rec) else R j) (fun _ => true) (look s0.hp) n = hAt s0 R (fun _ => true) n from l3, ← h3, upd_lastW]
        simp only [wH, if_true]
        rw [e2]
      · show s1.nx + e.nw = _
        simp only [nxAt, l4, ← h4, hn0, e3]
        rfl
      · rw [List.range_succ, List.map_append, l5, List.reverse_append]
        simp only [List.map_cons, List.map_nil, hn0, List.reverse_cons, List.reverse_nil, List.nil_append, List.singleton_append]
        exact hr
      · have hw := hdoes X1 w1 a1 (look s1.hp) (fun _ _ => ∃ X' a' w', Rel N X' (s1.app gs[n].dst e) a' w') (fun _ _ _ => False) (fun t _ d ht => (r1'.env t d ht).2) r1'.ok (fun id _ _ => rfl) (fun id q1 _ hid => by have := r1'.dm id hid; omega)
          (fun v w' X' hv ok' ev hdm => ⟨X', _, w', r1'.app (dst := gs[n].dst) (by rw [hdst]; exact hdN) hv ok' ev hdm⟩)
        exact wp_const hw
    rcases hg with ⟨hg, hog⟩ | ⟨t, want, j, hg, hog, htj⟩
    · simp only [run, hg] at h5
      exact exec s r1 rfl rfl rfl (fun t b h => by rw [hg] at h; cases h) h5
    · simp only [run, hg] at h5
      -- passed by
      have pass : ∀ (s1 : S), Rel N X1 s1 a1 w1 → look s1.env = look s.env → s1.hp = s.hp → s1.nx = s.nx → (look s1.env t = some (.c (.p (.v (.bool !want)))) ∨ look s1.env t = some (.tup [])) →
          run P (gs.drop (n + 1)) (s1.skip gs[n].dst) (([], []) :: ((List.range n).map fun k => fpOf (R k)).reverse) K →
          ∃ (R : Nat → Rec) (s : S), (∀ k, k < n + 1 → StepOk P gs ops s0 R k) ∧ look s.env = eAt gs s0 R (fun _ => true) (n + 1) ∧ look s.hp = hAt s0 R (fun _ => true) (n + 1) ∧ s.nx = nxAt s0.nx R (n + 1) ∧
            run P (gs.drop (n + 1)) s (((List.range (n + 1)).map fun k => fpOf (R k)).reverse) K ∧ ∃ X' a' w', Rel N X' s a' w' := by
        intro s1 r1' e1 e2 e3 hgt hno
        obtain ⟨l1, l2, l3, l4, l5⟩ := lay ⟨s1, none⟩
        have hn0 : (fun j => if j = n then (⟨s1, none⟩ : Rec) else R j) n = ⟨s1, none⟩ := if_pos rfl
        refine ⟨fun j => if j = n then ⟨s1, none⟩ else R j, s1.skip gs[n].dst, ?_, ?_, ?_, ?_, ?_, ?_⟩
        · intro k hk
          rcases Nat.lt_or_ge k n with h | h
          · exact l1 k h
          · have : k = n := by omega
            subst this
            refine ⟨_, _, hgn, hon, ?_, ?_, ?_, ?_⟩
            · rw [hn0, l2, ← h2]; exact e1
            · rw [hn0, l3, ← h3]; show look s1.hp = _; rw [e2]
            · rw [hn0, l4, ← h4]; exact e3
            · rw [hn0]; exact ⟨t, want, hg, hgt⟩
        · funext i
          show look (unT s1.env gs[n].dst) i = _
          simp only [eAt, st, if_true]
          rw [show st (wT gs fun j => if j = n then (⟨s1, none⟩ : Rec) else R j) (fun _ => true) (look s0.env) n = eAt gs s0 R (fun _ => true) n from l2, ← h2, ← e1]
          simp only [wT, hn0, hgn, Option.bind_some]
          cases gs[n].dst with
          | none => rfl
          | some d =>
            simp only [unT, look_put]
            split <;> rfl
        · funext i
          simp only [hAt, st, if_true]
          rw [show st (wH fun j => if j = n then (⟨s1, none⟩ : Rec) else R j) (fun _ => true) (look s0.hp) n = hAt s0 R (fun _ => true) n from l3, ← h3]
          simp only [wH, hn0]
          show look s1.hp i = _
          rw [e2]; rfl
        · show s1.nx = _
          simp only [nxAt, l4, ← h4, hn0, e3]
          rfl
        · rw [List.range_succ, List.map_append, l5, List.reverse_append]
          simp only [List.map_cons, List.map_nil, hn0, List.reverse_cons, List.reverse_nil, List.nil_append, List.singleton_append]
          exact hno
        · exact ⟨X1, _, w1, r1'.skip (by rw [hdst]; exact hdN)⟩
      rcases asG_some h5 with ⟨b, hb, h0⟩ | ⟨hb, h0⟩
      rotate_left
      · exact pass s r1 rfl rfl rfl (.inr hb) h0
      obtain ⟨hyes, hno⟩ := onW_iff.1 h0
      clear h0
      by_cases hbw : b = want
      · subst hbw
        refine exec (s.known t b) (r1.known hb) (known_env hb) rfl rfl (fun t' b' h => ?_) (hyes rfl)
        rw [hg] at h
        simp only [Option.some.injEq, Prod.mk.injEq] at h
        obtain ⟨rfl, rfl⟩ := h
        rw [known_env hb]; exact hb
      · have hbw' : b = !want := by cases b <;> cases want <;> simp_all
        have hno := hno hbw'
        rw [hbw'] at hb
        exact pass (s.known t !want) (r1.known hb) (known_env hb) rfl rfl (.inl (by rw [known_env hb]; exact hb)) hno
end
end Go.Proofs.Ytjieenfbfckafaa.Am

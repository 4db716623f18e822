/- Regions: operations one after the other, and in whatever order their edges allow. -/
import Derived.Test.YtjieenfbfckafaaAmFits
import Derived.Orders
namespace Go.Proofs.Ytjieenfbfckafaa.Am
open Go
set_option linter.unusedVariables false
set_option linter.unusedSimpArgs false

/-- An abstract state is that of a frame and a world. -/
structure Rel (N : Nat) (X : Ctx) (s : S) (a : Act) (w : World) : Prop where
  df : a.defers = []
  sz : a.tmps.size = N
  env : ∀ t d, look s.env t = some d → t < N ∧ TVR w X d (a.tmps.getD t undef)
  ok : HeapOk w X (look s.hp)
  wf : s.wf
  dm : ∀ id, X.dm id → id < s.nx

theorem getD_put_same {a : Act} {d : Nat} {v : Value} (h : d < a.tmps.size) : (a.put (some d) v).tmps.getD d undef = v := by
  simp [Act.put, h]
theorem getD_put_ne {a : Act} {d t : Nat} {v : Value} (h : t ≠ d) : (a.put (some d) v).tmps.getD t undef = a.tmps.getD t undef := by
  simp [Act.put, Array.getElem?_setIfInBounds_ne (Ne.symm h)]
theorem size_put {a : Act} {dst : Option Nat} {v : Value} : (a.put dst v).tmps.size = a.tmps.size := by cases dst <;> simp [Act.put]
theorem defers_put {a : Act} {dst : Option Nat} {v : Value} : (a.put dst v).defers = a.defers := by cases dst <;> rfl

theorem upd_dom {h : Hp} : ∀ {wr : List (Nat × Option Ob)} {i : Nat} {o : Ob}, h.upd wr i = some o → i ∈ wr.map (·.1) ∨ h i = some o
  | [], i, o, hx => .inr hx
  | (k, none) :: r, i, o, hx => by
    rcases upd_dom (wr := r) hx with h1 | h1
    · exact .inl (by simp [h1])
    · exact .inr (Hp.del_some h1).2
  | (k, some x) :: r, i, o, hx => by
    rcases upd_dom (wr := r) hx with h1 | h1
    · exact .inl (by simp [h1])
    · rcases Hp.set_some h1 with ⟨rfl, _⟩ | ⟨_, h2⟩
      · exact .inl (by simp)
      · exact .inr h2

/-- Behind an effect the state is the effect's. -/
theorem Rel.app {N : Nat} {X X' : Ctx} {s : S} {a : Act} {w w' : World} {e : Eff} {dst : Option Nat} {v : Value} (r : Rel N X s a w) (hd : ∀ d, dst = some d → d < N) (hv : TVR w' X' e.r v) (ok' : HeapOk w' X' (Hp.upd (look s.hp) e.wr))
    (ev : Evol X w (look s.hp) X' w' (Hp.upd (look s.hp) e.wr)) (hdm : ∀ id, X'.dm id → X.dm id ∨ (s.nx ≤ id ∧ id < s.nx + e.nw)) : Rel N X' (s.app dst e) (a.put dst v) w' := by
  have k := ev.keeps r.ok
  have hdm' : ∀ id, X'.dm id → id < s.nx + e.nw := fun id hid => by
    rcases hdm id hid with h | h
    · have := r.dm id h; omega
    · exact h.2
  refine ⟨by rw [defers_put]; exact r.df, by rw [size_put]; exact r.sz, ?_, by rw [show (s.app dst e).hp = upds s.hp e.wr from rfl, look_upds]; exact ok', ?_, hdm'⟩
  · intro t d ht
    cases dst with
    | none =>
      obtain ⟨h1, h2⟩ := r.env t d ht
      exact ⟨h1, TVR.mono k d _ h2⟩
    | some q =>
      simp only [S.app, setT, look_put] at ht
      split at ht
      · rename_i htq
        cases ht
        subst htq
        have hq := hd t rfl
        exact ⟨hq, by rw [getD_put_same (by rw [r.sz]; exact hq)]; exact hv⟩
      · rename_i htq
        obtain ⟨h1, h2⟩ := r.env t d ht
        exact ⟨h1, by rw [getD_put_ne htq]; exact TVR.mono k d _ h2⟩
  · intro id ob hob
    have hob : look (upds s.hp e.wr) id = some ob := hob
    rw [look_upds] at hob
    exact hdm' id (ok'.obj id ob hob).1

theorem Rel.skip {N : Nat} {X : Ctx} {s : S} {a : Act} {w : World} {dst : Option Nat} (hd : ∀ d, dst = some d → d < N) (r : Rel N X s a w) : Rel N X (s.skip dst) (a.put dst undef) w := by
  refine ⟨by rw [defers_put]; exact r.df, by rw [size_put]; exact r.sz, ?_, r.ok, r.wf, r.dm⟩
  intro t d ht
  cases dst with
  | none => exact r.env t d ht
  | some q =>
    simp only [S.skip, unT, look_put] at ht
    split at ht
    · rename_i htq
      cases ht
      subst htq
      have hq := hd t rfl
      refine ⟨hq, ?_⟩
      rw [getD_put_same (by rw [r.sz]; exact hq)]
      exact ⟨#[], rfl, rfl⟩
    · rename_i htq
      obtain ⟨h1, h2⟩ := r.env t d ht
      exact ⟨h1, by rw [getD_put_ne htq]; exact h2⟩

theorem known_env {s : S} {t : Nat} {b : Bool} (h : look s.env t = some (.c (.p (.v (.bool b))))) : look (s.known t b).env = look s.env := by
  funext i
  simp only [S.known, look_put]
  split
  · rename_i hi; subst hi; exact h.symm
  · rfl

theorem Rel.known {N : Nat} {X : Ctx} {s : S} {a : Act} {w : World} {t : Nat} {b : Bool} (r : Rel N X s a w) (h : look s.env t = some (.c (.p (.v (.bool b))))) : Rel N X (s.known t b) a w :=
  ⟨r.df, r.sz, fun i d hi => by rw [known_env h] at hi; exact r.env i d hi, r.ok, r.wf, r.dm⟩

/-- An abstract operation in its place and the model's. -/
def gfit (P : Program) (N : Nat) (ops : Array Oper) (g : GOp) (o : Oper) : Bool :=
  decide (g.dst = o.dst) && (match g.dst with | some d => decide (d < N) | none => true) && g.op.fits P o.op &&
    match g.g, o.guard with
    | none, none => true
    | some (t, b), some (j, b') => (b == b') && decide ((ops[j]?).bind (·.dst) = some t)
    | _, _ => false
def gfits (P : Program) (N : Nat) (ops : Array Oper) : List GOp → List Oper → Bool
  | [], [] => true
  | g :: gs, o :: os => gfit P N ops g o && gfits P N ops gs os
  | _, _ => false

theorem gfit_parts {P : Program} {N : Nat} {ops : Array Oper} {g : GOp} {o : Oper} (h : gfit P N ops g o = true) :
    g.dst = o.dst ∧ (∀ d, o.dst = some d → d < N) ∧ g.op.fits P o.op = true ∧ ((g.g = none ∧ o.guard = none) ∨ ∃ t b j, g.g = some (t, b) ∧ o.guard = some (j, b) ∧ (ops[j]?).bind (·.dst) = some t) := by
  simp only [gfit, Bool.and_eq_true, decide_eq_true_eq] at h
  obtain ⟨⟨⟨h1, h2⟩, h3⟩, h4⟩ := h
  refine ⟨h1, ?_, h3, ?_⟩
  · intro d hd
    rw [h1, hd] at h2
    simpa using h2
  · split at h4
    · rename_i e1 e2; exact .inl ⟨e1, e2⟩
    · rename_i t b j b' e1 e2
      simp only [Bool.and_eq_true, beq_iff_eq, decide_eq_true_eq] at h4
      obtain ⟨rfl, h5⟩ := h4
      exact .inr ⟨t, b, j, e1, e2, h5⟩
    · cases h4

/-- A guard's answer. -/
theorem wanted_of {ops : Array Oper} {o : Oper} {tmps : Array Value} {t j : Nat} {want b : Bool} (hg : o.guard = some (j, want)) (ht : (ops[j]?).bind (·.dst) = some t) (hlt : t < tmps.size) (hv : tmps.getD t undef = .bool b) :
    Region.wanted o (yielded ops tmps) = (b == want) := by
  have h1 : tmps[t]? = some (.bool b) := by
    rw [Array.getD_eq_getD_getElem?, Array.getElem?_eq_getElem hlt] at hv
    rw [Array.getElem?_eq_getElem hlt]
    simpa using hv
  have h2 : yielded ops tmps j = some b := by
    unfold yielded
    rw [ht]
    simp [h1]
  simp only [Region.wanted, hg, h2]
  cases b <;> cases want <;> rfl
/-- A guard that was not asked. -/
theorem wanted_tup {ops : Array Oper} {o : Oper} {tmps : Array Value} {t j : Nat} {want : Bool} (hg : o.guard = some (j, want)) (ht : (ops[j]?).bind (·.dst) = some t) (hlt : t < tmps.size) (hv : tmps.getD t undef = .tuple #[]) :
    Region.wanted o (yielded ops tmps) = false := by
  have h1 : tmps[t]? = some (.tuple #[]) := by
    rw [Array.getD_eq_getD_getElem?, Array.getElem?_eq_getElem hlt] at hv
    rw [Array.getElem?_eq_getElem hlt]
    simpa using hv
  have h2 : yielded ops tmps j = none := by
    unfold yielded
    rw [ht]
    simp [h1]
  simp only [Region.wanted, hg, h2]
  cases want <;> rfl
theorem tvr_tup {w : World} {X : Ctx} {u : Value} (h : TVR w X (.tup []) u) : u = .tuple #[] := by
  obtain ⟨vs, rfl, h⟩ := h
  have h : vs.toList = [] := h
  simp at h
  rw [h]
theorem wanted_none {ops : Array Oper} {o : Oper} {tmps : Array Value} (hg : o.guard = none) : Region.wanted o (yielded ops tmps) = true := by simp [Region.wanted, hg]

section
variable {P : Program} {N : Nat} {ops : Array Oper} {Q : Exit → Act → World → Prop}

theorem run_seq : ∀ (gs : List GOp) (l : List Oper) (s : S) (fp : List (List Nat × List Nat)) (K : S → List (List Nat × List Nat) → Prop) (X : Ctx) (a : Act) (w : World), gfits P N ops gs l = true → run P gs s fp K → Rel N X s a w →
    (∀ s' fp' X' a' w', K s' fp' → Rel N X' s' a' w' → Evol X w (look s.hp) X' w' (look s'.hp) → Q .normal a' w') → wpList P ops Q l a w
  | [], [], s, fp, K, X, a, w, _, h, r, hk => hk s fp X a w h r (Evol.refl _ _ _)
  | g :: gs, o :: l, s, fp, K, X, a, w, hf, h, r, hk => by
    simp only [gfits, Bool.and_eq_true] at hf
    obtain ⟨hf1, hf2⟩ := hf
    obtain ⟨hdst, hdN, hop, hg⟩ := gfit_parts hf1
    -- one operation that is carried out
    have exec : ∀ (s0 : S), Rel N X s0 a w → look s0.hp = look s.hp → (g.op.eff P s0 fun e => run P gs (s0.app g.dst e) ((e.acc, e.wrs) :: fp) K) → o.wp P a w (wpList P ops Q l) Q := by
      intro s0 r0 hhp h0
      obtain ⟨e, hdoes, hrun⟩ := eff_sound hop r0.wf h0
      refine hdoes X w a (look s0.hp) _ _ (fun t _ d ht => (r0.env t d ht).2) r0.ok (fun id _ _ => rfl) (fun id h1 _ hid => by have := r0.dm id hid; omega) ?_
      intro v w' X' hv ok' ev hdm
      have r1 := r0.app (dst := g.dst) (by rw [hdst]; exact hdN) hv ok' ev hdm
      rw [hdst] at r1 hrun
      refine run_seq gs l _ _ K X' _ w' hf2 hrun r1 fun s' fp' X'' a' w'' hK r' ev' => hk s' fp' X'' a' w'' hK r' ?_
      have e1 : look (s0.app o.dst e).hp = Hp.upd (look s0.hp) e.wr := by rw [show (s0.app o.dst e).hp = upds s0.hp e.wr from rfl, look_upds]
      rw [e1] at ev'
      rw [← hhp]
      exact ev.trans ev'
    rcases hg with ⟨hg, hog⟩ | ⟨t, want, j, hg, hog, htj⟩
    · unfold wpList
      rw [if_pos (wanted_none hog)]
      simp only [run, hg] at h
      exact .inl (exec s r rfl h)
    · simp only [run, hg] at h
      rcases asG_some h with ⟨b, hb, h0⟩ | ⟨hb, h0⟩
      rotate_left
      · obtain ⟨htN, htv⟩ := r.env t _ hb
        have hw := wanted_tup (ops := ops) hog htj (by rw [r.sz]; exact htN) (tvr_tup htv)
        unfold wpList
        rw [if_neg (by rw [hw]; simp)]
        rw [hdst] at h0
        exact run_seq gs l _ _ K X _ w hf2 h0 (r.skip hdN) fun s' fp' X'' a' w'' hK r' ev' => hk s' fp' X'' a' w'' hK r' ev'
      obtain ⟨h1, h2⟩ := onW_iff.1 h0
      clear h0
      obtain ⟨htN, htv⟩ := r.env t _ hb
      have htv := tvr_v htv
      have hw := wanted_of (ops := ops) hog htj (by rw [r.sz]; exact htN) htv
      unfold wpList
      by_cases hbw : b = want
      · subst hbw
        rw [if_pos (by rw [hw]; simp)]
        exact .inl (exec (s.known t b) (r.known hb) rfl (h1 rfl))
      · have hbw' : b = !want := by cases b <;> cases want <;> simp_all
        rw [if_neg (by rw [hw]; simpa using hbw)]
        have h3 := h2 hbw'
        clear h2 h1
        subst hbw'
        rw [hdst] at h3
        exact run_seq gs l _ _ K X _ w hf2 h3 ((r.known hb).skip hdN) fun s' fp' X'' a' w'' hK r' ev' => hk s' fp' X'' a' w'' hK r' ev'
  | [], _ :: _, _, _, _, _, _, _, hf, _, _, _ => by simp [gfits] at hf
  | _ :: _, [], _, _, _, _, _, _, hf, _, _, _ => by simp [gfits] at hf

end
end Go.Proofs.Ytjieenfbfckafaa.Am

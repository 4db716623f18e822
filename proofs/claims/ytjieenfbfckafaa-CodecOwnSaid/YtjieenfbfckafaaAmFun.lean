/- A function's contract from its code. -/
import Derived.Test.YtjieenfbfckafaaAmWeak
namespace Go.Proofs.Ytjieenfbfckafaa.Am
open Go
set_option linter.unusedVariables false
set_option linter.unusedSimpArgs false

/-- Where a result lies. -/
inductive RV where
  | t (n : Nat)
  | c (n : Nat) (z : Option Nat)
def RV.fits (P : Program) : RV → ResultVar → Bool
  | .t n, .tmp m => decide (n = m)
  | .c n z, .cell m ty => decide (n = m) && szFits P ty z
  | _, _ => false
def rvsFit (P : Program) : List RV → List ResultVar → Bool
  | [], [] => true
  | a :: as, b :: bs => a.fits P b && rvsFit P as bs
  | _, _ => false

def RV.get (s : S) (rv : RV) (K : TV → Prop) : Prop :=
  match rv with
  | .t n => asD (look s.env n) K
  | .c n z => asC (look s.env n) fun d => match d with
    | .ptr id off => someL (look s.hp id) fun o => match z with
      | some m => m ≤ (o.xs.drop off).length ∧ K (.agg ((o.xs.drop off).take m))
      | none => match o.xs.drop off with
        | x :: _ => K (.c x)
        | [] => False
    | _ => False
def rvsGet (s : S) : List RV → (List TV → Prop) → Prop
  | [], K => K []
  | a :: as, K => a.get s fun r => rvsGet s as fun rs => K (r :: rs)
def resGet (s : S) (rvs : List RV) (K : TV → Prop) : Prop :=
  match rvs with
  | [a] => a.get s K
  | rvs => rvsGet s rvs fun rs => K (.tup rs)

def rvRun (tmps : Array Value) : ResultVar → Sem Value
  | .tmp t => pure (tmps.getD t undef)
  | .cell a t => do loadVar t (← asAddr (tmps.getD a undef))

theorem rv_sound {P : Program} {N : Nat} {X : Ctx} {s : S} {a : Act} {w : World} {rv : RV} {v : ResultVar} {K : TV → Prop} (hf : rv.fits P v = true) (rel : Rel N X s a w) (h : rv.get s K) :
    ∃ u r, (rvRun a.tmps v).run P w = .ok u w ∧ TVR w X r u ∧ K r := by
  cases rv with
  | t n =>
    cases v with
    | tmp m =>
      simp only [RV.fits, decide_eq_true_eq] at hf
      subst hf
      obtain ⟨d, hl, hK⟩ := asD_some h
      exact ⟨_, d, rfl, (rel.env n d hl).2, hK⟩
    | cell m t => simp [RV.fits] at hf
  | c n z =>
    cases v with
    | tmp m => simp [RV.fits] at hf
    | cell m t =>
      simp only [RV.fits, Bool.and_eq_true, decide_eq_true_eq] at hf
      obtain ⟨rfl, hz⟩ := hf
      obtain ⟨d, hd, h⟩ := asC_some h
      cases d with
      | ptr id off =>
        obtain ⟨ob, hob, h⟩ := someL_some h
        have : ∃ q, Took z (ob.xs.drop off) q ∧ K q := by
          cases z with
          | some m => exact ⟨_, ⟨h.1, rfl⟩, h.2⟩
          | none =>
            cases hx : ob.xs.drop off with
            | nil => rw [hx] at h; exact h.elim
            | cons x r => rw [hx] at h; exact ⟨_, ⟨x, rfl, rfl⟩, h⟩
        obtain ⟨q, hq, hK⟩ := this
        obtain ⟨_, _, b, hm, hp⟩ := rel.env n _ hd
        obtain ⟨v, hv, hv'⟩ := run_loadVar' (P := P) hz ((rel.ok.obj id ob hob).cellsAt hm off) hq
        refine ⟨v, q, ?_, hv', hK⟩
        simp [rvRun, hp, asAddr, hv]
      | p x => exact h.elim
      | ref => exact h.elim

theorem results_rv (fn : Func) (tmps : Array Value) : results fn tmps = (do let vs ← fn.results.mapM (rvRun tmps); pure (if h : vs.size = 1 then vs[0] else .tuple vs)) := by
  unfold results
  congr 1

theorem rvs_sound {P : Program} {N : Nat} {X : Ctx} {s : S} {a : Act} {w : World} (rel : Rel N X s a w) : ∀ {rvs : List RV} {l : List ResultVar} {K : List TV → Prop}, rvsFit P rvs l = true → rvsGet s rvs K →
    ∃ (us : List Value) (rs : List TV), us.length = l.length ∧ (∀ (j : Nat) v, l[j]? = some v → ∃ u, us[j]? = some u ∧ (rvRun a.tmps v).run P w = .ok u w) ∧ TVRs w X rs us ∧ K rs
  | [], [], K, _, h => ⟨[], [], rfl, fun j v h => by simp at h, rfl, h⟩
  | x :: rvs, y :: l, K, hf, h => by
    simp only [rvsFit, Bool.and_eq_true] at hf
    obtain ⟨u, r, h1, h2, h⟩ := rv_sound hf.1 rel h
    obtain ⟨us, rs, h3, h4, h5, hK⟩ := rvs_sound rel hf.2 h
    refine ⟨u :: us, r :: rs, by simp [h3], fun j v hj => ?_, ⟨u, us, rfl, h2, h5⟩, hK⟩
    cases j with
    | zero => simp at hj; subst hj; exact ⟨u, rfl, h1⟩
    | succ j => simpa using h4 j v (by simpa using hj)
  | [], _ :: _, _, hf, _ => by simp [rvsFit] at hf
  | _ :: _, [], _, hf, _ => by simp [rvsFit] at hf

theorem mapM_run {P : Program} {w : World} {tmps : Array Value} {l : List ResultVar} {us : List Value} (hlen : us.length = l.length) (h4 : l.length ≤ 4) (h : ∀ (j : Nat) v, l[j]? = some v → ∃ u, us[j]? = some u ∧ (rvRun tmps v).run P w = .ok u w) :
    ((⟨l⟩ : Array ResultVar).mapM (rvRun tmps)).run P w = .ok ⟨us⟩ w := by
  match l, us, hlen with
  | [], [], _ => simp
  | [a], [u], _ =>
    obtain ⟨x, h1, h2⟩ := h 0 a rfl
    simp at h1; subst h1
    simp [h2]
  | [a, b], [u, v], _ =>
    obtain ⟨x, h1, h2⟩ := h 0 a rfl
    obtain ⟨y, h3, h5⟩ := h 1 b rfl
    simp at h1 h3; subst h1; subst h3
    simp [h2, h5]
  | [a, b, c], [u, v, t], _ =>
    obtain ⟨x, h1, h2⟩ := h 0 a rfl
    obtain ⟨y, h3, h5⟩ := h 1 b rfl
    obtain ⟨z, h6, h7⟩ := h 2 c rfl
    simp at h1 h3 h6; subst h1; subst h3; subst h6
    simp [h2, h5, h7]
  | [a, b, c, d], [u, v, t, q], _ =>
    obtain ⟨x, h1, h2⟩ := h 0 a rfl
    obtain ⟨y, h3, h5⟩ := h 1 b rfl
    obtain ⟨z, h6, h7⟩ := h 2 c rfl
    obtain ⟨z', h8, h9⟩ := h 3 d rfl
    simp at h1 h3 h6 h8; subst h1; subst h3; subst h6; subst h8
    simp [h2, h5, h7, h9]
  | _ :: _ :: _ :: _ :: _ :: _, _, _ => simp at h4

theorem res_sound {P : Program} {N : Nat} {X : Ctx} {s : S} {a : Act} {w : World} {rvs : List RV} {fn : Func} {K : TV → Prop} {l : List ResultVar} (hl : fn.results = ⟨l⟩) (hlen : l.length ≤ 4) (hf : rvsFit P rvs l = true) (rel : Rel N X s a w) (h : resGet s rvs K) :
    ∃ u r, (results fn a.tmps).run P w = .ok u w ∧ TVR w X r u ∧ K r := by
  rw [results_rv, hl]
  unfold resGet at h
  split at h
  · rename_i x
    match l, hf with
    | [], hf => simp [rvsFit] at hf
    | _ :: _ :: _, hf => simp [rvsFit] at hf
    | [y], hf =>
      simp only [rvsFit, Bool.and_eq_true] at hf
      obtain ⟨u, r, h1, h2, hK⟩ := rv_sound hf.1 rel h
      refine ⟨u, r, ?_, h2, hK⟩
      have := mapM_run (P := P) (w := w) (tmps := a.tmps) (l := [y]) (us := [u]) rfl (by simp) fun j v hj => by
        cases j with
        | zero => simp at hj; subst hj; exact ⟨u, rfl, h1⟩
        | succ j => simp at hj
      simp only [Sem.run_bind, this]
      simp
  · rename_i hne
    obtain ⟨us, rs, h1, h3, h4, hK⟩ := rvs_sound rel hf h
    have := mapM_run (P := P) (w := w) (tmps := a.tmps) h1 hlen h3
    refine ⟨.tuple ⟨us⟩, .tup rs, ?_, ⟨_, rfl, h4⟩, hK⟩
    have hone : ¬ us.length = 1 := by
      intro e
      match rvs, l, hf, (h1 ▸ e : l.length = 1), hne with
      | [q], _, _, _, hne => exact hne q rfl
      | [], [_], hf, _, _ => simp [rvsFit] at hf
      | _ :: _ :: _, [_], hf, _, _ => simp [rvsFit] at hf
    simp only [Sem.run_bind, this]
    simp [hone]

/-- A value, with what it leads to, as the contract has it. -/
structure RetOk (p : Nat) (s : S) (r : TV) (hp' : List (Nat × Ob)) (k' : Nat) : Prop where
  ex : ∃ s', Wk p s s' ∧ SubO (look s'.env 0) r ∧ look s'.hp = look hp' ∧ s'.nx ≤ k'

/-- What a body must come to. -/
def retQ (rvs : List RV) (sp : Spec) : Exit → S → Prop
  | .ret, s | .normal, s => resGet s rvs fun r => RetOk sp.k ⟨[(0, r)], s.hp, s.nx⟩ sp.r sp.hp' sp.k'
  | _, _ => False

theorem RetOk.freeze {p : Nat} {s : S} {r : TV} {hp' : List (Nat × Ob)} {k' : Nat} (id : Nat) (e : TypeId) (cs : List PV) (h : look s.hp id = some ⟨e, cs.map DV.p⟩) (hr : RetOk p (s.frz id cs) r hp' k') : RetOk p s r hp' k' := by
  obtain ⟨s', h1, h2⟩ := hr
  exact ⟨⟨s', (Wk.freeze id e cs h).trans h1, h2⟩⟩
theorem RetOk.names {p : Nat} {s : S} {r : TV} {hp' : List (Nat × Ob)} {k' : Nat} (g : List (Nat × Nat)) (hg : namesOk p k' g = true) (hp : p ≤ k') (hv : SubO (look s.env 0) (r.ren (oldOf p s.nx g))) (hhp : HpRen (oldOf p s.nx g) s.hp hp') : RetOk p s r hp' k' :=
  ⟨⟨⟨[(0, r)], hp', k'⟩, Wk.names g hg hp ⟨hv, trivial⟩ hhp, SubO.of rfl, rfl, Nat.le_refl _⟩⟩
/-- A value of no object of the call's own. -/
theorem RetOk.pure {p : Nat} {s : S} {r : TV} (hv : SubO (look s.env 0) (r.ren (oldOf p s.nx []))) : RetOk p s r [] p := RetOk.names [] rfl (Nat.le_refl _) hv trivial

def enum {α : Type} : Nat → List α → List (Nat × α)
  | _, [] => []
  | n, x :: r => (n, x) :: enum (n + 1) r
theorem look_enum {α : Type} : ∀ {l : List α} {n t : Nat} {x : α}, look (enum n l) t = some x → n ≤ t ∧ l[t - n]? = some x
  | y :: r, n, t, x, h => by
    simp only [enum, look_cons, look_nil] at h
    split at h
    · rename_i e; cases h; subst e; simp
    · obtain ⟨h1, h2⟩ := look_enum h
      refine ⟨by omega, ?_⟩
      rw [show t - n = (t - (n + 1)) + 1 by omega]
      simpa using h2

theorem TVRs_get {w : World} {X : Ctx} : ∀ {ts : List TV} {vs : List Value}, TVRs w X ts vs → ts.length = vs.length ∧ ∀ (j : Nat) d, ts[j]? = some d → ∃ v, vs[j]? = some v ∧ TVR w X d v
  | [], vs, h => by cases h; exact ⟨rfl, fun j d hj => by simp at hj⟩
  | t :: ts, vs, ⟨u, r, h1, h2, h3⟩ => by
    subst h1
    obtain ⟨h4, h5⟩ := TVRs_get h3
    refine ⟨by simp [h4], fun j d hj => ?_⟩
    cases j with
    | zero => simp at hj; subst hj; exact ⟨u, rfl, h2⟩
    | succ j => simpa using h5 j d (by simpa using hj)

def hpBelow (k : Nat) : List (Nat × Ob) → Bool
  | [] => true
  | (i, _) :: r => decide (i < k) && hpBelow k r
theorem hpBelow_get {k : Nat} : ∀ {l : List (Nat × Ob)}, hpBelow k l = true → ∀ i o, look l i = some o → i < k
  | [], _, i, o, h => by cases h
  | (j, x) :: r, hh, i, o, h => by
    simp only [hpBelow, Bool.and_eq_true, decide_eq_true_eq] at hh
    simp only [look_cons, look_nil] at h
    split at h
    · rename_i e; rw [e]; exact hh.1
    · exact hpBelow_get hh.2 i o h

/-- A function whose body fits code of the abstract machine. -/
structure Fits (P : Program) (f : FuncId) (N : Nat) (ac : ACode) (rvs : List RV) : Prop where
  fit : ∃ fn c l, P.funcs[f]? = some fn ∧ fn.body = some c ∧ fn.ntmps = N ∧ fn.results = ⟨l⟩ ∧ l.length ≤ 4 ∧ rvsFit P rvs l = true ∧ ac.fits P N c = true
  mixed : P.follows .mixedOrders = true

theorem Fits.meets' {P : Program} {f : FuncId} {N : Nat} {ac : ACode} {rvs : List RV} {sp : Spec} (ft : Fits P f N ac rvs) (hk : hpBelow sp.k sp.hp = true) (hN : sp.args.length ≤ N)
    (h : ∀ Q : Exit → S → Prop, (∀ e s, retQ rvs sp e s → Q e s) → aw P sp.k ac Q ⟨enum 0 sp.args, sp.hp, sp.k⟩) : Meets P f sp := by
  intro X w vs ok hdm hargs
  obtain ⟨⟨fn, c, l, h1, h2, h3, h4, h5, h6, h7⟩, hm⟩ := ft
  refine calls_of_wp h1 h2 ?_
  obtain ⟨hlen, hget⟩ := TVRs_get hargs
  have rel : Rel N X ⟨enum 0 sp.args, sp.hp, sp.k⟩ { tmps := vs.toArray ++ Array.replicate (fn.ntmps - vs.toArray.size) undef, defers := [] } w := by
    refine ⟨rfl, by simp; omega, ?_, ok, fun id o ho => hpBelow_get hk id o ho, hdm⟩
    intro t d ht
    obtain ⟨_, h8⟩ := look_enum ht
    rw [Nat.sub_zero] at h8
    obtain ⟨v, h9, h10⟩ := hget t d h8
    have hlt : t < vs.length := (List.getElem?_eq_some_iff.1 h9).1
    refine ⟨by omega, ?_⟩
    have : (vs.toArray ++ Array.replicate (fn.ntmps - vs.toArray.size) undef).getD t undef = v := by
      rw [Array.getD_eq_getD_getElem?, Array.getElem?_append_left (by simpa using hlt)]
      simp [h9]
    rw [this]
    exact h10
  have hret : ∀ (e : Exit) (a' : Act) (w' : World), (e = .ret ∨ e = .normal) → (∃ s' X', retQ rvs sp e s' ∧ Rel N X' s' a' w' ∧ EvolP sp.k X w (look sp.hp) X' w' (look s'.hp)) →
      a'.defers = [] ∧ ∃ v, (results fn a'.tmps).run P w' = .ok v w' ∧ ∃ u X', Ending.returned v = .returned u ∧ TVR w' X' sp.r u ∧ HeapOk w' X' (look sp.hp') ∧ EvolP sp.k X w (look sp.hp) X' w' (look sp.hp') ∧ ∀ id, X'.dm id → id < sp.k' := by
    rintro e a' w' he ⟨s', X', hq, r', ev⟩
    have hq : resGet s' rvs fun r => RetOk sp.k ⟨[(0, r)], s'.hp, s'.nx⟩ sp.r sp.hp' sp.k' := by rcases he with rfl | rfl <;> exact hq
    obtain ⟨u, r, hu, hv, ⟨s'', hwk, hsub, hhp, hnx⟩⟩ := res_sound h4 h5 h6 r' hq
    obtain ⟨X'', r'', ev'⟩ := hwk 1 X' ⟨#[u], []⟩ w' ⟨rfl, rfl, fun t d ht => by
      simp only [look_cons, look_nil] at ht
      split at ht
      · rename_i e; cases ht; subst e; exact ⟨by omega, hv⟩
      · simp at ht, r'.ok, r'.wf, r'.dm⟩
    have hfin : TVR w' X'' sp.r u := by
      cases hl : look s''.env 0 with
      | none => rw [hl] at hsub; exact hsub.elim
      | some d =>
        rw [hl] at hsub
        exact hsub w' X'' _ (r''.env 0 d hl).2
    exact ⟨r'.df, u, hu, u, X'', rfl, hfin, by rw [← hhp]; exact r''.ok, by rw [← hhp]; exact ev.trans ev', fun id hid => Nat.lt_of_lt_of_le (r''.dm id hid) hnx⟩
  refine wp_mono (aw_sound hm ac c _ _ h7 (h _ fun _ _ h => h) X _ w rel) ?_
  intro e a' w' hh
  cases e with
  | normal => exact hret _ a' w' (.inr rfl) hh
  | ret => exact hret _ a' w' (.inl rfl) hh
  | _ => obtain ⟨_, _, h, _⟩ := hh; exact h.elim

theorem Fits.meets {P : Program} {f : FuncId} {N : Nat} {ac : ACode} {rvs : List RV} {args : List TV} {hp : List (Nat × Ob)} {k : Nat} {r : TV} {hp' : List (Nat × Ob)} {k' : Nat} (ft : Fits P f N ac rvs) (hk : hpBelow k hp = true) (hN : args.length ≤ N)
    (h : ∀ Q : Exit → S → Prop, (∀ env hq nx, (resGet ⟨env, hq, nx⟩ rvs fun q => RetOk k ⟨[(0, q)], hq, nx⟩ r hp' k') → Q .ret ⟨env, hq, nx⟩ ∧ Q .normal ⟨env, hq, nx⟩) → aw P k ac Q ⟨enum 0 args, hp, k⟩) : Meets P f ⟨args, hp, k, r, hp', k'⟩ :=
  ft.meets' hk hN fun Q hQ => h Q fun env hq nx hs => ⟨hQ .ret ⟨env, hq, nx⟩ hs, hQ .normal ⟨env, hq, nx⟩ hs⟩
end Go.Proofs.Ytjieenfbfckafaa.Am

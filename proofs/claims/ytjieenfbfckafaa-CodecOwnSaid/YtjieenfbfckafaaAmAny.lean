/- Regions in whatever order their edges allow: the whole of it. -/
import Derived.Test.YtjieenfbfckafaaAmDraw
namespace Go.Proofs.Ytjieenfbfckafaa.Am
open Go
set_option linter.unusedVariables false
set_option linter.unusedSimpArgs false

def disj (a b : List Nat) : Bool := a.all fun x => b.all fun y => !(x == y)
theorem disj_spec {a b : List Nat} (h : disj a b = true) {x : Nat} (hx : x ∈ a) : x ∉ b := by
  intro hb
  simp only [disj, List.all_eq_true] at h
  simpa using h x hx x hb

/-- All pairs of numbers below n, the smaller first. -/
def pairs (n : Nat) (f : Nat → Nat → Bool) : Bool := (List.range n).all fun j => (List.range j).all fun i => f i j
theorem pairs_spec {n : Nat} {f : Nat → Nat → Bool} (h : pairs n f = true) {i j : Nat} (hij : i < j) (hj : j < n) : f i j = true := by
  simp only [pairs, List.all_eq_true, List.mem_range] at h
  exact h j hj i hij

def ord (bits : List Nat) (i j : Nat) : Bool := (bits.getD j 0).testBit i
/-- What no edge orders keeps apart in memory. -/
def chkDraw (bits : List Nat) (fps : List (List Nat × List Nat)) : Bool :=
  pairs fps.length fun i j => (disj (fps.getD i ([], [])).2 (fps.getD j ([], [])).1 && disj (fps.getD i ([], [])).1 (fps.getD j ([], [])).2) || ord bits i j

def GOp.looks (g : GOp) : List Nat := (match g.g with | some (t, _) => [t] | none => []) ++ g.op.looks
def GOp.apart (x y : GOp) : Bool :=
  (match x.dst with | some d => !(y.looks.contains d) && (match y.dst with | some e => !(d == e) | none => true) | none => true) &&
  (match y.dst with | some d => !(x.looks.contains d) | none => true)
def edgesOk (bits : List Nat) (k : Nat) (o : Oper) : Bool :=
  (o.after.toList.all fun e => !Region.binds .any e || decide (e.on < k)) &&
  (bits.getD k 0 == o.after.toList.foldl (fun s e => if Region.binds .any e then s ||| 2 ^ e.on ||| bits.getD e.on 0 else s) 0)
def edgesAll (bits : List Nat) : Nat → List Oper → Bool
  | _, [] => true
  | k, o :: os => edgesOk bits k o && edgesAll bits (k + 1) os
/-- What no edge orders keeps apart in the frame. -/
def drawFits (bits : List Nat) (gs : List GOp) (ops : Array Oper) : Bool :=
  edgesAll bits 0 ops.toList && pairs gs.length fun i j => ord bits i j || (match gs[i]?, gs[j]? with | some x, some y => x.apart y | _, _ => false)

theorem edgesAll_spec {bits : List Nat} : ∀ {os : List Oper} {k : Nat}, edgesAll bits k os = true → ∀ j o, os[j]? = some o → edgesOk bits (k + j) o = true
  | [], k, _, j, o, h => by simp at h
  | x :: os, k, hh, j, o, h => by
    simp only [edgesAll, Bool.and_eq_true] at hh
    cases j with
    | zero => simp at h; subst h; exact hh.1
    | succ j =>
      have := edgesAll_spec hh.2 j o (by simpa using h)
      rwa [show k + 1 + j = k + (j + 1) by omega] at this

theorem testBit_pow {i j : Nat} (h : (2 ^ i).testBit j = true) : j = i := by
  rw [Nat.testBit_two_pow] at h
  exact (of_decide_eq_true h).symm

theorem fold_bits {bits : List Nat} {i : Nat} : ∀ {es : List Edge} {s : Nat},
    (es.foldl (fun s e => if Region.binds .any e then s ||| 2 ^ e.on ||| bits.getD e.on 0 else s) s).testBit i = true →
    s.testBit i = true ∨ ∃ e ∈ es, Region.binds .any e = true ∧ (i = e.on ∨ ord bits i e.on = true)
  | [], s, h => .inl h
  | e :: es, s, h => by
    rw [List.foldl_cons] at h
    rcases fold_bits h with h1 | ⟨e', h1, h2⟩
    · by_cases hb : Region.binds .any e = true
      · rw [if_pos hb, Nat.testBit_or, Nat.testBit_or, Bool.or_eq_true, Bool.or_eq_true] at h1
        rcases h1 with (h1 | h1) | h1
        · exact .inl h1
        · exact .inr ⟨e, by simp, hb, .inl (testBit_pow h1)⟩
        · exact .inr ⟨e, by simp, hb, .inr h1⟩
      · rw [if_neg hb] at h1
        exact .inl h1
    · exact .inr ⟨e', by simp [h1], h2⟩

/-- How many are not listed. -/
def cnt (l : Array Bool) : Nat → Nat
  | 0 => 0
  | k + 1 => cnt l k + if l.getD k true then 0 else 1
theorem getD_set_ne {l : Array Bool} {i j : Nat} {b : Bool} (h : j ≠ i) : (l.setIfInBounds i true).getD j b = l.getD j b := by
  simp [Array.getD_eq_getD_getElem?, Array.getElem?_setIfInBounds_ne (Ne.symm h)]
theorem getD_set_same {l : Array Bool} {i : Nat} {b : Bool} (h : i < l.size) : (l.setIfInBounds i true).getD i b = true := by
  simp [Array.getD_eq_getD_getElem?, Array.getElem?_setIfInBounds_self_of_lt h]
theorem cnt_set {l : Array Bool} {i : Nat} (hi : i < l.size) (hl : l.getD i true = false) : ∀ k, cnt (l.setIfInBounds i true) k + (if i < k then 1 else 0) = cnt l k
  | 0 => by simp [cnt]
  | k + 1 => by
    have ih := cnt_set hi hl k
    simp only [cnt]
    by_cases h : k = i
    · subst h
      rw [getD_set_same hi, hl]
      simp at ih ⊢
      omega
    · rw [getD_set_ne h]
      by_cases h2 : i < k
      · have h3 : i < k + 1 := by omega
        rw [if_pos h2] at ih; rw [if_pos h3]; omega
      · have h3 : ¬ i < k + 1 := by omega
        rw [if_neg h2] at ih; rw [if_neg h3]; omega
theorem cnt_zero {l : Array Bool} : ∀ {k : Nat}, cnt l k = 0 → ∀ j, j < k → l.getD j true = true
  | 0, _, j, hj => by omega
  | k + 1, h, j, hj => by
    simp only [cnt] at h
    by_cases hk : j = k
    · subst hk
      cases hx : l.getD j true with
      | true => rfl
      | false => rw [hx] at h; simp at h
    · exact cnt_zero (k := k) (by omega) j (by omega)
theorem cnt_fresh : ∀ (n k : Nat), k ≤ n → cnt (Array.replicate n false) k = k
  | n, 0, _ => rfl
  | n, k + 1, h => by
    simp only [cnt, cnt_fresh n k (by omega)]
    have h1 : k < n := by omega
    rw [Array.getD_eq_getD_getElem?, Array.getElem?_replicate, if_pos h1]
    rfl

theorem nxAt_mono {nx0 : Nat} {R : Nat → Rec} : ∀ {i j : Nat}, i ≤ j → nxAt nx0 R i ≤ nxAt nx0 R j := by
  intro i j h
  induction j with
  | zero => have : i = 0 := by omega
            subst this; exact Nat.le_refl _
  | succ j ih =>
    rcases Nat.lt_or_ge i (j + 1) with h1 | h1
    · exact Nat.le_trans (ih (by omega)) (by simp [nxAt])
    · have : i = j + 1 := by omega
      subst this; exact Nat.le_refl _

section
variable {P : Program} {N : Nat} {ops : Array Oper} {Q : Exit → Act → World → Prop}

/-- What holds when the listed ones have run. -/
structure Inv (P : Program) (N : Nat) (gs : List GOp) (s0 : S) (R : Nat → Rec) (n : Nat) (X0 : Ctx) (w0 : World) (Sl : Nat → Bool) (X : Ctx) (a : Act) (w : World) : Prop where
  df : a.defers = []
  sz : a.tmps.size = N
  env : ∀ t d, eAt gs s0 R Sl n t = some d → t < N ∧ TVR w X d (a.tmps.getD t undef)
  ok : HeapOk w X (hAt s0 R Sl n)
  ev : Evol X0 w0 (look s0.hp) X w (hAt s0 R Sl n)
  dm : ∀ id, X.dm id → id < s0.nx ∨ ∃ j, j < n ∧ Sl j = true ∧ nxAt s0.nx R j ≤ id ∧ id < nxAt s0.nx R (j + 1)

/-- One more of them. -/
theorem Inv.step {gs : List GOp} {s0 : S} {R : Nat → Rec} {n k : Nat} {X0 : Ctx} {w0 : World} {Sl : Nat → Bool} {X : Ctx} {a : Act} {w : World} {bits : List Nat} {K : Act → World → Prop}
    (hf : gfits P N ops gs ops.toList = true) (hn : gs.length = n) (hn' : ops.size = n) (hR : ∀ k, k < n → StepOk P gs ops s0 R k)
    (hap : ∀ i j, i < j → j < n → ord bits i j = true ∨ ∃ x y, gs[i]? = some x ∧ gs[j]? = some y ∧ x.apart y = true)
    (hch : ∀ i j, i < j → j < n → ord bits i j = true ∨ (disj (fpOf (R i)).2 (fpOf (R j)).1 = true ∧ disj (fpOf (R i)).1 (fpOf (R j)).2 = true))
    (hcl : ∀ j, Sl j = true → ∀ i, ord bits i j = true → Sl i = true)
    (hk : k < n) (hkS : Sl k = false) (hkr : ∀ i, ord bits i k = true → Sl i = true)
    (inv : Inv P N gs s0 R n X0 w0 Sl X a w)
    (hK : ∀ X' a' w', Inv P N gs s0 R n X0 w0 (fun j => Sl j || j == k) X' a' w' → K a' w') : wpOp P ops Q k K a w := by
  obtain ⟨g, o, hg, ho, he, hh, hx, hm⟩ := hR k hk
  have hfit : gfit P N ops g o = true := by
    have key : ∀ (gs : List GOp) (os : List Oper), gfits P N ops gs os = true → ∀ (n : Nat) x y, gs[n]? = some x → os[n]? = some y → gfit P N ops x y = true := by
      intro gs
      induction gs with
      | nil => intro os h n x y h1; simp at h1
      | cons g gs ih => intro os h n x y h1 h2; cases os with
                        | nil => simp at h2
                        | cons o os =>
                          simp only [gfits, Bool.and_eq_true] at h
                          cases n with
                          | zero => simp at h1 h2; subst h1; subst h2; exact h.1
                          | succ n => exact ih os h.2 n x y (by simpa using h1) (by simpa using h2)
    exact key gs ops.toList hf k g o hg (by simpa using ho)
  obtain ⟨hdst, hdN, hop, hgg⟩ := gfit_parts hfit
  -- temporaries that it looks at
  have tl : ∀ t, t ∈ g.looks → eAt gs s0 R Sl n t = look (R k).s.env t := by
    intro t ht
    rw [he]
    refine st_meets hk hkS (fun j hj hs => ?_) (fun j hj hjn hs => ?_)
    · rcases hap j k hj hk with h | ⟨x, y, h1, h2, h3⟩
      · exact hkr j h
      · rw [hg] at h2; cases h2
        simp only [wT, h1, Option.bind_some] at hs
        cases hd : x.dst with
        | none => rw [hd] at hs; simp at hs
        | some d =>
          rw [hd] at hs
          simp only at hs
          split at hs
          · rename_i e; subst e
            simp only [GOp.apart, hd, Bool.and_eq_true, Bool.not_eq_true', List.contains_eq_mem, decide_eq_false_iff_not] at h3
            exact absurd ht h3.1.1
          · simp at hs
    · cases hsj : Sl j with
      | false => rfl
      | true =>
        rcases hap k j hj hjn with h | ⟨x, y, h1, h2, h3⟩
        · have := hcl j hsj k h; rw [hkS] at this; cases this
        · rw [hg] at h1; cases h1
          simp only [wT, h2, Option.bind_some] at hs
          cases hd : y.dst with
          | none => rw [hd] at hs; simp at hs
          | some d =>
            rw [hd] at hs
            simp only at hs
            split at hs
            · rename_i e; subst e
              simp only [GOp.apart, hd, Bool.and_eq_true, Bool.not_eq_true', List.contains_eq_mem, decide_eq_false_iff_not] at h3
              exact absurd ht h3.2
            · simp at hs
  -- what it writes to a temporary
  have tw : ∀ t, eAt gs s0 R (fun j => Sl j || j == k) n t = (wT gs R k t).getD (eAt gs s0 R Sl n t) := by
    intro t
    refine st_more hk hkS fun hs j hj hjn hs' => ?_
    cases hsj : Sl j with
    | false => rfl
    | true =>
      rcases hap k j hj hjn with h | ⟨x, y, h1, h2, h3⟩
      · have := hcl j hsj k h; rw [hkS] at this; cases this
      · simp only [wT, h1, h2, Option.bind_some] at hs hs'
        cases hd : x.dst with
        | none => rw [hd] at hs; simp at hs
        | some d =>
          cases hd' : y.dst with
          | none => rw [hd'] at hs'; simp at hs'
          | some d' =>
            rw [hd] at hs
            rw [hd'] at hs'
            simp only at hs hs'
            split at hs
            · split at hs'
              · rename_i e e'
                subst e
                subst e'
                simp only [GOp.apart, hd, hd', Bool.and_eq_true] at h3
                simp at h3
              · simp at hs'
            · simp at hs
  have wTk : ∀ t, wT gs R k t = match o.dst with | some d => if t = d then some (some (match (R k).e with | some e => e.r | none => .tup [])) else none | none => none := by
    intro t
    rw [← hdst]
    simp only [wT, hg, Option.bind_some]
    cases g.dst <;> rfl
  have guard : ∀ t b, g.g = some (t, b) → ∀ c, look (R k).s.env t = some (.c (.p (.v (.bool c)))) → t < a.tmps.size ∧ a.tmps.getD t undef = .bool c := by
    intro t b hgt c hc
    have := tl t (by simp [GOp.looks, hgt])
    rw [hc] at this
    obtain ⟨h1, h2⟩ := inv.env t _ this
    exact ⟨by rw [inv.sz]; exact h1, tvr_v h2⟩
  unfold wpOp
  simp only [ho]
  cases hre : (R k).e with
  | none =>
    rw [hre] at hm
    obtain ⟨t, b, hgt, htb⟩ := hm
    rcases hgg with ⟨h1, _⟩ | ⟨t', b', j, h1, h2, h3⟩
    · rw [h1] at hgt; cases hgt
    · rw [h1] at hgt; cases hgt
      have hnw : Region.wanted o (yielded ops a.tmps) = false := by
        rcases htb with htb | htb
        · obtain ⟨h4, h5⟩ := guard t b h1 _ htb
          rw [wanted_of h2 h3 h4 h5]
          cases b <;> rfl
        · have := tl t (by simp [GOp.looks, h1])
          rw [htb] at this
          obtain ⟨h4, h5⟩ := inv.env t _ this
          exact wanted_tup h2 h3 (by rw [inv.sz]; exact h4) (tvr_tup h5)
      rw [hnw, if_neg (by simp)]
      have hw0 : ∀ i, wH R k i = none := fun i => by simp only [wH, hre]
      have hA : hAt s0 R (fun j => Sl j || j == k) n = hAt s0 R Sl n := by
        funext i
        refine (st_more hk hkS fun hs => ?_).trans ?_
        · rw [hw0] at hs; cases hs
        · rw [hw0]; rfl
      refine hK X _ w ⟨by rw [defers_put]; exact inv.df, by rw [size_put]; exact inv.sz, ?_, by rw [hA]; exact inv.ok, by rw [hA]; exact inv.ev, ?_⟩
      · intro t' d hd
        rw [tw, wTk, hre] at hd
        cases hdo : o.dst with
        | none => rw [hdo] at hd; exact inv.env t' d hd
        | some q =>
          rw [hdo] at hd
          simp only at hd
          by_cases htq : t' = q
          · rw [if_pos htq] at hd
            simp only [Option.getD_some, Option.some.injEq] at hd
            subst hd
            subst htq
            have hq := hdN t' hdo
            refine ⟨hq, ?_⟩
            rw [getD_put_same (by rw [inv.sz]; exact hq)]
            exact ⟨#[], rfl, rfl⟩
          · rw [if_neg htq] at hd
            obtain ⟨h6, h7⟩ := inv.env t' d hd
            exact ⟨h6, by rw [getD_put_ne htq]; exact h7⟩
      · intro id hid
        rcases inv.dm id hid with h | ⟨j, h6, h7, h8⟩
        · exact .inl h
        · exact .inr ⟨j, h6, by rw [h7]; rfl, h8⟩
  | some e =>
    rw [hre] at hm
    obtain ⟨hdoes, hgt⟩ := hm
    have hwant : Region.wanted o (yielded ops a.tmps) = true := by
      rcases hgg with ⟨_, h2⟩ | ⟨t, b, j, h1, h2, h3⟩
      · exact wanted_none h2
      · obtain ⟨h4, h5⟩ := guard t b h1 _ (hgt t b h1)
        rw [wanted_of h2 h3 h4 h5]
        simp
    rw [if_pos hwant]
    refine .inl (hdoes X w a (hAt s0 R Sl n) K Q (fun t ht d hd => (inv.env t d (by rw [tl t (by simp [GOp.looks, ht]), hd])).2) inv.ok ?_ ?_ ?_)
    · intro id hid hlt
      rw [hh]
      refine st_meets hk hkS (fun j hj hs => ?_) (fun j hj hjn hs => ?_)
      · rcases hch j k hj hk with h | ⟨h1, h2⟩
        · exact hkr j h
        · simp only [wH] at hs
          cases hj' : (R j).e with
          | none => rw [hj'] at hs; simp at hs
          | some e' =>
            rw [hj'] at hs
            have hw := lastW_mem hs
            simp only [fpOf, hj', hre] at h1
            exact absurd hid (disj_spec h1 hw)
      · cases hsj : Sl j with
        | false => rfl
        | true =>
          rcases hch k j hj hjn with h | ⟨h1, h2⟩
          · have := hcl j hsj k h; rw [hkS] at this; cases this
          · simp only [wH] at hs
            cases hj' : (R j).e with
            | none => rw [hj'] at hs; simp at hs
            | some e' =>
              rw [hj'] at hs
              have hw := lastW_mem hs
              simp only [fpOf, hj', hre] at h2
              exact absurd hw (disj_spec h2 hid)
    · intro id h1 h2 hd
      rw [hx] at h1 h2
      have h0 : s0.nx ≤ nxAt s0.nx R k := nxAt_mono (i := 0) (by omega)
      have hk1 : nxAt s0.nx R (k + 1) = nxAt s0.nx R k + e.nw := by simp only [nxAt, hre]; rfl
      rcases inv.dm id hd with h | ⟨j, h6, h7, h8, h9⟩
      · omega
      · rcases Nat.lt_trichotomy j k with h | h | h
        · have := nxAt_mono (nx0 := s0.nx) (R := R) (i := j + 1) (j := k) (by omega); omega
        · subst h; rw [hkS] at h7; cases h7
        · have := nxAt_mono (nx0 := s0.nx) (R := R) (i := k + 1) (j := j) (by omega); omega
    · intro v w' X' hv ok' ev' hdm
      have hA : hAt s0 R (fun j => Sl j || j == k) n = (hAt s0 R Sl n).upd e.wr := by
        funext i
        rw [upd_lastW]
        refine (st_more hk hkS fun hs j hj hjn hs' => ?_).trans ?_
        · cases hsj : Sl j with
          | false => rfl
          | true =>
            rcases hch k j hj hjn with h | ⟨h1, h2⟩
            · have := hcl j hsj k h; rw [hkS] at this; cases this
            · simp only [wH, hre] at hs
              simp only [wH] at hs'
              cases hj' : (R j).e with
              | none => rw [hj'] at hs'; simp at hs'
              | some e' =>
                rw [hj'] at hs'
                simp only [fpOf, hj', hre] at h1
                exact absurd (List.mem_append_right _ (lastW_mem hs')) (disj_spec h1 (lastW_mem hs))
        · simp only [wH, hre]
      have kp := ev'.keeps inv.ok
      refine hK X' _ w' ⟨by rw [defers_put]; exact inv.df, by rw [size_put]; exact inv.sz, ?_, by rw [hA]; exact ok', by rw [hA]; exact inv.ev.trans ev', ?_⟩
      · intro t' d hd
        rw [tw, wTk, hre] at hd
        cases hdo : o.dst with
        | none =>
          rw [hdo] at hd
          obtain ⟨h6, h7⟩ := inv.env t' d hd
          exact ⟨h6, TVR.mono kp d _ h7⟩
        | some q =>
          rw [hdo] at hd
          simp only at hd
          by_cases htq : t' = q
          · rw [if_pos htq] at hd
            simp at hd
            subst hd
            have hq := hdN q hdo
            exact ⟨by rw [htq]; exact hq, by rw [htq, getD_put_same (by rw [inv.sz]; exact hq)]; exact hv⟩
          · rw [if_neg htq] at hd
            obtain ⟨h6, h7⟩ := inv.env t' d hd
            exact ⟨h6, by rw [getD_put_ne htq]; exact TVR.mono kp d _ h7⟩
      · intro id hid
        rcases hdm id hid with h | ⟨h1, h2⟩
        · rcases inv.dm id h with h | ⟨j, h6, h7, h8⟩
          · exact .inl h
          · exact .inr ⟨j, h6, by rw [h7]; rfl, h8⟩
        · rw [hx] at h1 h2
          exact .inr ⟨k, hk, by simp, h1, by simp only [nxAt, hre]; exact h2⟩

theorem any_of_inv {gs : List GOp} {s0 : S} {R : Nat → Rec} {n : Nat} {X0 : Ctx} {w0 : World} {bits : List Nat}
    (hf : gfits P N ops gs ops.toList = true) (hn : gs.length = n) (hn' : ops.size = n) (hR : ∀ k, k < n → StepOk P gs ops s0 R k)
    (hed : ∀ k o, ops[k]? = some o → edgesOk bits k o = true)
    (hap : ∀ i j, i < j → j < n → ord bits i j = true ∨ ∃ x y, gs[i]? = some x ∧ gs[j]? = some y ∧ x.apart y = true)
    (hch : ∀ i j, i < j → j < n → ord bits i j = true ∨ (disj (fpOf (R i)).2 (fpOf (R j)).1 = true ∧ disj (fpOf (R i)).1 (fpOf (R j)).2 = true))
    (hQ : ∀ X a w, Inv P N gs s0 R n X0 w0 (fun _ => true) X a w → Q .normal a w) :
    ∀ (fuel : Nat) (listed : Array Bool) (X : Ctx) (a : Act) (w : World), listed.size = n → cnt listed n ≤ fuel →
      (∀ j, listed.getD j false = true → ∀ i, ord bits i j = true → listed.getD i false = true) →
      Inv P N gs s0 R n X0 w0 (fun j => listed.getD j false) X a w → wpAny P .any ops Q fuel listed a w := by
  have hdone : ∀ (listed : Array Bool) (X : Ctx) (a : Act) (w : World), listed.size = n → (∀ j, j < n → listed.getD j true = true) → Inv P N gs s0 R n X0 w0 (fun j => listed.getD j false) X a w → Q .normal a w := by
    intro listed X a w hsz hall inv
    have same : ∀ j, j < n → listed.getD j false = true := fun j hj => by
      have := hall j hj
      rw [Array.getD_eq_getD_getElem?, Array.getElem?_eq_getElem (by omega)] at this ⊢
      exact this
    have hE : eAt gs s0 R (fun j => listed.getD j false) n = eAt gs s0 R (fun _ => true) n := by
      funext t
      exact st_congr n fun j hj => by simp only [same j hj]
    have hH : hAt s0 R (fun j => listed.getD j false) n = hAt s0 R (fun _ => true) n := by
      funext t
      exact st_congr n fun j hj => by simp only [same j hj]
    exact hQ X a w ⟨inv.df, inv.sz, by rw [← hE]; exact inv.env, by rw [← hH]; exact inv.ok, by rw [← hH]; exact inv.ev, fun id hid => by
      rcases inv.dm id hid with h | ⟨j, h6, h7, h8⟩
      · exact .inl h
      · exact .inr ⟨j, h6, rfl, h8⟩⟩
  intro fuel
  induction fuel with
  | zero =>
    intro listed X a w hsz hc hcl inv
    have hall := cnt_zero (l := listed) (k := n) (by omega)
    refine ⟨?_, hdone listed X a w hsz hall inv⟩
    unfold Region.ready
    rw [List.filter_eq_nil_iff]
    intro i hi
    rw [List.mem_range, hn'] at hi
    rw [hall i hi]
    simp
  | succ fuel ih =>
    intro listed X a w hsz hc hcl inv
    refine ⟨fun hr => hdone listed X a w hsz ?_ inv, fun k hk => ?_⟩
    · -- nothing is ready: everything is listed
      intro j
      induction j using Nat.strongRecOn with
      | ind j ihj =>
        intro hj
        cases hl : listed.getD j true with
        | true => rfl
        | false =>
          exfalso
          unfold Region.ready at hr
          rw [List.filter_eq_nil_iff] at hr
          have hjo : ops[j]? = some (ops[j]'(by omega)) := Array.getElem?_eq_getElem (by omega)
          refine hr j (List.mem_range.2 (by omega)) ?_
          rw [hl, hjo]
          simp only [Bool.not_false, Option.map_some, Option.getD_some, Bool.true_and]
          rw [Array.all_eq_true_iff_forall_mem]
          intro e he
          have h1 := hed j _ hjo
          simp only [edgesOk, Bool.and_eq_true, List.all_eq_true, Bool.or_eq_true, decide_eq_true_eq, Bool.not_eq_true'] at h1
          rcases h1.1 e (by simpa using he) with h2 | h2
          · rw [h2]; rfl
          · have := ihj e.on h2 (by omega)
            rw [Array.getD_eq_getD_getElem?, Array.getElem?_eq_getElem (by omega)] at this
            rw [Bool.or_eq_true]
            refine .inr ?_
            rw [Array.getD_eq_getD_getElem?, Array.getElem?_eq_getElem (by omega)]
            exact this
    · unfold Region.ready at hk
      rw [List.mem_filter, List.mem_range, Bool.and_eq_true, Bool.not_eq_true'] at hk
      obtain ⟨hkn, hkl, hka⟩ := hk
      have hko : ops[k]? = some (ops[k]'(by omega)) := Array.getElem?_eq_getElem (by omega)
      rw [hko] at hka
      simp only [Option.map_some, Option.getD_some] at hka
      rw [Array.all_eq_true_iff_forall_mem] at hka
      have hkl' : listed.getD k false = false := by
        rw [Array.getD_eq_getD_getElem?, Array.getElem?_eq_getElem (by omega)] at hkl ⊢
        exact hkl
      have hkr : ∀ i, ord bits i k = true → listed.getD i false = true := by
        intro i hi
        have h1 := hed k _ hko
        simp only [edgesOk, Bool.and_eq_true, beq_iff_eq] at h1
        unfold ord at hi
        rw [h1.2] at hi
        rcases fold_bits hi with h2 | ⟨e, h2, h3, h4⟩
        · simp at h2
        · have := hka e (by simpa using h2)
          rw [h3] at this
          simp only [Bool.not_true, Bool.false_or] at this
          rcases h4 with rfl | h4
          · exact this
          · exact hcl e.on this i h4
      have hset : ∀ j, (listed.setIfInBounds k true).getD j false = (listed.getD j false || j == k) := by
        intro j
        by_cases hj : j = k
        · subst hj; rw [getD_set_same (by omega)]; simp
        · rw [getD_set_ne hj]
          have : (j == k) = false := by simpa using hj
          rw [this, Bool.or_false]
      refine Inv.step (X := X) hf hn hn' hR hap hch hcl (by omega) hkl' hkr inv fun X' a' w' inv' => ?_
      refine ih _ X' a' w' (by simpa using hsz) ?_ ?_ (by rw [show (fun j => (listed.setIfInBounds k true).getD j false) = fun j => listed.getD j false || j == k from funext hset]; exact inv')
      · have := cnt_set (l := listed) (i := k) (by omega) hkl n
        rw [if_pos (by omega)] at this
        omega
      · intro j hj i hi
        rw [hset] at hj ⊢
        rw [Bool.or_eq_true] at hj ⊢
        rcases hj with hj | hj
        · exact .inl (hcl j hj i hi)
        · have : j = k := by simpa using hj
          subst this
          exact .inl (hkr i hi)

/-- A region in whatever order. -/
theorem run_any {gs : List GOp} {s : S} {K : S → List (List Nat × List Nat) → Prop} {X : Ctx} {a : Act} {w : World} {bits : List Nat} {id : Nat} (hm : P.follows .mixedOrders = true)
    (hf : gfits P N ops gs ops.toList = true) (hd : drawFits bits gs ops = true) (hrun : run P gs s [] fun s' fp => chkDraw bits fp.reverse = true ∧ K s' fp) (r : Rel N X s a w)
    (hk : ∀ s' fp' X' a' w', K s' fp' → Rel N X' s' a' w' → Evol X w (look s.hp) X' w' (look s'.hp) → Q .normal a' w') : (Code.region id ops true).wp P Q a w := by
  have hlen : gs.length = ops.size := by
    have key : ∀ (gs : List GOp) (os : List Oper), gfits P N ops gs os = true → gs.length = os.length := by
      intro gs
      induction gs with
      | nil => intro os h; cases os <;> simp_all [gfits]
      | cons g gs ih => intro os h; cases os with
                        | nil => simp [gfits] at h
                        | cons o os => simp only [gfits, Bool.and_eq_true] at h; simp [ih os h.2]
    have := key gs ops.toList hf
    simpa using this
  obtain ⟨R, s', hR, h2, h3, h4, h5, _⟩ := run_steps hf hrun r gs.length (Nat.le_refl _)
  rw [List.drop_length] at h5
  simp only [run, List.reverse_reverse] at h5
  obtain ⟨hch, hK⟩ := h5
  simp only [drawFits, Bool.and_eq_true] at hd
  refine wp_region_any hm ?_
  have r0 : Evol X w (look s.hp) X w.drew (look s.hp) := Evol.drew X w _
  refine any_of_inv (X := X) (X0 := X) (w0 := w) (bits := bits) hf rfl hlen.symm hR (fun k o hko => ?_) (fun i j hij hj => ?_) (fun i j hij hj => ?_) ?_ ops.size (Array.replicate ops.size false) a w.drew ?_ ?_ ?_ ?_
  · have := edgesAll_spec hd.1 k o (by simpa using hko)
    simpa using this
  · have := pairs_spec hd.2 hij hj
    rw [Bool.or_eq_true] at this
    rcases this with h | h
    · exact .inl h
    · split at h
      · rename_i x y e1 e2; exact .inr ⟨x, y, e1, e2, h⟩
      · cases h
  · have := pairs_spec hch hij (by simpa using hj)
    rw [Bool.or_eq_true] at this
    have hg : ∀ i, i < gs.length → ((List.range gs.length).map fun k => fpOf (R k)).getD i ([], []) = fpOf (R i) := by
      intro i hi
      rw [List.getD_eq_getElem?_getD, List.getElem?_map, List.getElem?_range hi]
      rfl
    rw [hg i (by omega), hg j hj] at this
    rcases this with h | h
    · rw [Bool.and_eq_true] at h; exact .inr h
    · exact .inl h
  · intro X' a' w' inv
    refine hk s' _ X' a' w' hK ⟨inv.df, inv.sz, by rw [h2]; exact inv.env, by rw [h3]; exact inv.ok, ?_, ?_⟩ (by rw [h3]; exact inv.ev)
    · intro id o ho
      rw [h3] at ho
      have := (inv.ok.obj id o ho).1
      rcases inv.dm id this with h | ⟨j, h6, h7, h8, h9⟩
      · rw [h4]; exact Nat.lt_of_lt_of_le h (nxAt_mono (i := 0) (by omega))
      · rw [h4]; exact Nat.lt_of_lt_of_le h9 (nxAt_mono (by omega))
    · intro id hid
      rcases inv.dm id hid with h | ⟨j, h6, h7, h8, h9⟩
      · rw [h4]; exact Nat.lt_of_lt_of_le h (nxAt_mono (i := 0) (by omega))
      · rw [h4]; exact Nat.lt_of_lt_of_le h9 (nxAt_mono (by omega))
  · simpa using hlen.symm
  · rw [cnt_fresh _ _ (by omega)]; omega
  · intro j hj
    exfalso
    rw [Array.getD_eq_getD_getElem?, Array.getElem?_replicate] at hj
    split at hj <;> simp at hj
  · have hno : ∀ j, (Array.replicate ops.size false).getD j false = false := by
      intro j
      rw [Array.getD_eq_getD_getElem?, Array.getElem?_replicate]
      split <;> rfl
    have hE : ∀ k, eAt gs s R (fun j => (Array.replicate ops.size false).getD j false) k = look s.env := by
      intro k
      induction k with
      | zero => rfl
      | succ k ih =>
        funext t
        have := congrFun ih t
        simp only [eAt, st, hno] at this ⊢
        simpa using this
    have hH : ∀ k, hAt s R (fun j => (Array.replicate ops.size false).getD j false) k = look s.hp := by
      intro k
      induction k with
      | zero => rfl
      | succ k ih =>
        funext t
        have := congrFun ih t
        simp only [hAt, st, hno] at this ⊢
        simpa using this
    refine ⟨r.df, r.sz, ?_, by rw [hH]; exact r.ok.drew, by rw [hH]; exact r0, fun id hid => .inl (r.dm id hid)⟩
    rw [hE]
    intro t d ht
    obtain ⟨h6, h7⟩ := r.env t d ht
    exact ⟨h6, TVR.mono (r0.keeps r.ok) d _ h7⟩

end
end Go.Proofs.Ytjieenfbfckafaa.Am

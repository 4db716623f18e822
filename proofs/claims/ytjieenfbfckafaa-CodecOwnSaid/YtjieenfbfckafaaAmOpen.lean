/- The arguments of a law, read by the shapes of their types. -/
import Derived.Test.YtjieenfbfckafaaAmRow
namespace Go.Proofs.Ytjieenfbfckafaa.Am
open Go Go.ChangeShapes Go.WideShapes Go.ChangeAt Go.RowKit Go.Deep
set_option linter.unusedVariables false
set_option linter.unusedSimpArgs false

/-- The shape of a type: 'st' a struct of the types of a list ('nil', 'cons'). -/
inductive RT where
  | int (k : IntKind)
  | bool
  | str
  | slice (e : RT)
  | arr (n : Nat) (e : RT)
  | st (fs : RT)
  | nil
  | cons (a r : RT)
def RT.size : RT → Nat
  | .int _ => 1
  | .bool => 1
  | .str => 1
  | .slice _ => 1
  | .arr n e => n * e.size
  | .st fs => fs.size
  | .nil => 0
  | .cons a r => a.size + r.size
/-- So many pieces, one behind the other. -/
def Chunks (Q : List PV → Prop) : Nat → List PV → Prop
  | 0, cs => cs = []
  | n + 1, cs => ∃ a r, cs = a ++ r ∧ Q a ∧ Chunks Q n r
def RT.Is : RT → List PV → Prop
  | .int k, cs => ∃ n, cs = [.v (.int k n)] ∧ k.min ≤ n ∧ n ≤ k.max
  | .bool, cs => ∃ b, cs = [.v (.bool b)]
  | .str, cs => ∃ s : ByteArray, cs = [.v (.string s)] ∧ s.size ≤ maxLen
  | .slice e, cs => ∃ n xs, cs = [.val n xs] ∧ n ≤ maxLen ∧ Chunks e.Is n xs
  | .arr n e, cs => Chunks e.Is n cs
  | .st fs, cs => fs.Is cs
  | .nil, cs => cs = []
  | .cons a r, cs => ∃ x y, cs = x ++ y ∧ a.Is x ∧ r.Is y

mutual
def RT.fit (P : Program) : RT → TypeId → Bool
  | .int k, t => match P.underlying t with
    | some (.int k') => decide (k = k')
    | _ => false
  | .bool, t => match P.underlying t with
    | some .bool => true
    | _ => false
  | .str, t => match P.underlying t with
    | some .string => true
    | _ => false
  | .slice e, t => match P.underlying t with
    | some (.slice u) => decide (P.cellsOf u = e.size) && decide (0 < e.size) && e.fit P u
    | _ => false
  | .arr n e, t => match P.underlying t with
    | some (.array m u) => decide (m = n) && decide (P.cellsOf u = e.size) && decide (P.cellsOf t = n * e.size) && e.fit P u
    | _ => false
  | .st fs, t => match P.underlying t with
    | some (.struct l) => fs.fitF P l.toList 0 && decide (P.cellsOf t = fs.size)
    | _ => false
  | .nil, _ => false
  | .cons _ _, _ => false
def RT.fitF (P : Program) : RT → List Field → Nat → Bool
  | .nil, [], _ => true
  | .cons a r, f :: l, off => decide (f.offset = off) && decide (P.cellsOf f.type = a.size) && a.fit P f.type && r.fitF P l (off + a.size)
  | .int _, _, _ => false
  | .bool, _, _ => false
  | .str, _, _ => false
  | .slice _, _, _ => false
  | .arr _ _, _, _ => false
  | .st _, _, _ => false
  | .nil, _ :: _, _ => false
  | .cons _ _, [], _ => false
end

def VRps (w : World) (I : Nat → Prop) (ps : List PV) (vs : List Value) : Prop := ps.length = vs.length ∧ ∀ (j : Nat) p v, ps[j]? = some p → vs[j]? = some v → VRp w I p v
theorem VRps.one {w : World} {I : Nat → Prop} {p : PV} {v : Value} (h : VRp w I p v) : VRps w I [p] [v] := by
  refine ⟨rfl, fun j q u hq hu => ?_⟩
  cases j with
  | zero => simp at hq hu; subst hq; subst hu; exact h
  | succ j => simp at hq
theorem VRps.nil {w : World} {I : Nat → Prop} : VRps w I [] [] := ⟨rfl, fun j q u hq => by simp at hq⟩
theorem VRps.append {w : World} {I : Nat → Prop} {a b : List PV} {u v : List Value} (h : VRps w I a u) (h' : VRps w I b v) : VRps w I (a ++ b) (u ++ v) := by
  refine ⟨by simp [h.1, h'.1], fun j p x hp hx => ?_⟩
  rcases Nat.lt_or_ge j a.length with hj | hj
  · rw [List.getElem?_append_left hj] at hp
    rw [List.getElem?_append_left (by rw [← h.1]; exact hj)] at hx
    exact h.2 j p x hp hx
  · rw [List.getElem?_append_right hj] at hp
    rw [List.getElem?_append_right (by rw [← h.1]; exact hj), ← h.1] at hx
    exact h'.2 _ p x hp hx

def cat (f : Nat → List PV) : Nat → Nat → List PV
  | _, 0 => []
  | k, n + 1 => f k ++ cat f (k + 1) n
theorem Chunks.cat {Q : List PV → Prop} {f : Nat → List PV} : ∀ {n k : Nat}, (∀ i, k ≤ i → i < k + n → Q (f i)) → Chunks Q n (cat f k n)
  | 0, _, _ => rfl
  | n + 1, k, h => ⟨_, _, rfl, h k (Nat.le_refl _) (by omega), Chunks.cat fun i h1 h2 => h i (by omega) (by omega)⟩
theorem VRps.cat {w : World} {I : Nat → Prop} {f : Nat → List PV} {cs : List Value} {sz : Nat} : ∀ {n k : Nat}, (∀ i, k ≤ i → i < k + n → VRps w I (f i) ((cs.drop (i * sz)).take sz)) → VRps w I (Am.cat f k n) ((cs.drop (k * sz)).take (n * sz))
  | 0, k, _ => by simp [Am.cat]; exact VRps.nil
  | n + 1, k, h => by
    have h1 := VRps.cat (cs := cs) (n := n) (k := k + 1) fun i h1 h2 => h i (by omega) (by omega)
    rw [show (n + 1) * sz = sz + n * sz by rw [Nat.add_mul]; omega, List.take_add, List.drop_drop, show k * sz + sz = (k + 1) * sz by rw [Nat.add_mul]; omega]
    exact (h k (Nat.le_refl _) (by omega)).append h1
theorem VRc_append {w : World} {I : Nat → Prop} {b : Nat} : ∀ {x y : List PV} {o : Nat}, VRc w I b o x → VRc w I b (o + x.length) y → VRc w I b o (x ++ y)
  | [], y, o, _, h => h
  | d :: x, y, o, ⟨h0, h1⟩, h => ⟨h0, VRc_append h1 (by rw [show o + 1 + x.length = o + (d :: x).length by simp; omega]; exact h)⟩
theorem VRc.cat {w : World} {I : Nat → Prop} {b o : Nat} {f : Nat → List PV} {sz : Nat} : ∀ {n k : Nat}, (∀ i, k ≤ i → i < k + n → (f i).length = sz ∧ VRc w I b (o + i * sz) (f i)) → VRc w I b (o + k * sz) (Am.cat f k n)
  | 0, k, _ => trivial
  | n + 1, k, h => by
    obtain ⟨h1, h2⟩ := h k (Nat.le_refl _) (by omega)
    refine VRc_append h2 ?_
    rw [h1, show o + k * sz + sz = o + (k + 1) * sz by rw [Nat.add_mul]; omega]
    exact VRc.cat fun i h1 h2 => h i (by omega) (by omega)

section
variable {H : Type} {enc : TypeId × Value → H} {P : Program} {W : World} {sp : Nat → Bool} {held : Bool}
theorem choose_lists {n : Nat} {Q : Nat → List PV → Prop} (h : ∀ i, i < n → ∃ l, Q i l) : ∃ f : Nat → List PV, ∀ i, i < n → Q i (f i) := by
  classical
  refine ⟨fun i => if hi : i < n then (h i hi).choose else [], fun i hi => ?_⟩
  simp only [hi, dif_pos]
  exact (h i hi).choose_spec

theorem open_rt : ∀ rt : RT, (∀ t fuel (cs : List Value) x, rt.fit P t = true → DataW.trod enc P W 0 sp held fuel t cs = some x → cs.length = rt.size ∧ ∃ ps, rt.Is ps ∧ VRps W (Ctx.old W).I ps cs) ∧
    (∀ l off fuel (cs : List Value), rt.fitF P l off = true → (∀ f ∈ l, ∃ x, DataW.trod enc P W 0 sp held fuel f.type ((cs.drop f.offset).take (P.cellsOf f.type)) = some x) → ∃ ps, rt.Is ps ∧ VRps W (Ctx.old W).I ps ((cs.drop off).take rt.size)) := by
  intro rt
  induction rt with
  | int k =>
    refine ⟨fun t fuel cs x hf h => ?_, fun l off fuel cs hf => by simp [RT.fitF] at hf⟩
    rw [RT.fit] at hf
    split at hf
    · rename_i k' hu
      have : k = k' := by simpa using hf
      subst this
      obtain ⟨n, rfl, _, hw⟩ := DataW.trod_int hu h
      refine ⟨rfl, _, ⟨n, rfl, ?_⟩, VRps.one ⟨rfl, rfl⟩⟩
      simpa [Lit.wf] using hw
    · cases hf
  | bool =>
    refine ⟨fun t fuel cs x hf h => ?_, fun l off fuel cs hf => by simp [RT.fitF] at hf⟩
    rw [RT.fit] at hf
    split at hf
    · rename_i hu
      obtain ⟨b, rfl, _⟩ := DataW.trod_bool hu h
      exact ⟨rfl, _, ⟨b, rfl⟩, VRps.one ⟨rfl, rfl⟩⟩
    · cases hf
  | str =>
    refine ⟨fun t fuel cs x hf h => ?_, fun l off fuel cs hf => by simp [RT.fitF] at hf⟩
    rw [RT.fit] at hf
    split at hf
    · rename_i hu
      obtain ⟨s, rfl, _, hs⟩ := DataW.trod_string hu h
      exact ⟨rfl, _, ⟨s, rfl, hs⟩, VRps.one ⟨rfl, rfl⟩⟩
    · cases hf
  | slice e ih =>
    refine ⟨fun t fuel cs x hf h => ?_, fun l off fuel cs hf => by simp [RT.fitF] at hf⟩
    rw [RT.fit] at hf
    split at hf
    · rename_i u hu
      simp only [Bool.and_eq_true, decide_eq_true_eq] at hf
      obtain ⟨⟨hsz, hpos⟩, hfit⟩ := hf
      rcases open_slice hu h with ⟨rfl, _⟩ | ⟨a, len, cap, m, k, D, Pl, rfl, _, hl, hm, hmm, _, hx⟩
      · exact ⟨rfl, _, ⟨0, [], rfl, Nat.zero_le _, rfl⟩, VRps.one ⟨none, 0, rfl, Nat.le_refl _, .inl ⟨rfl, rfl⟩⟩⟩
      · have hmn : len ≤ m := by rw [hmm]; split <;> omega
        obtain ⟨f, hfs⟩ := choose_lists (n := len) (Q := fun i l => e.Is l ∧ l.length = e.size ∧ ∀ (j : Nat) p, l[j]? = some p → ∃ v, W.cell? ((a.add (i * e.size)).add j) = some v ∧ VRp W (Ctx.old W).I p v) fun i hi => by
          obtain ⟨cs', h1, h2⟩ := hx i (by omega)
          rw [hsz] at h1
          obtain ⟨hlen, ps, h3, h4⟩ := ih.1 u k cs' _ hfit h2
          obtain ⟨_, h5, h6⟩ := World.cells?_some h1
          refine ⟨ps, h3, by rw [h4.1, hlen], fun j p hp => ?_⟩
          have hj : j < e.size := by
            have := (List.getElem?_eq_some_iff.1 hp).1
            rw [h4.1, hlen] at this
            exact this
          have hv : cs'[j]? = some (cs'[j]'(by omega)) := List.getElem?_eq_getElem (by omega)
          exact ⟨_, (h6 j hj).trans hv, h4.2 j p _ hp hv⟩
        refine ⟨rfl, _, ⟨len, cat f 0 len, rfl, by omega, Chunks.cat fun i _ hi => (hfs i (by omega)).1⟩, VRps.one ⟨some a, cap, rfl, hl, ?_⟩⟩
        rcases Nat.eq_zero_or_pos len with h0 | h0
        · left; subst h0; exact ⟨rfl, rfl⟩
        · right
          obtain ⟨_, h8, h9⟩ := hfs 0 h0
          obtain ⟨v, h1, _⟩ := h9 0 _ (List.getElem?_eq_getElem (by omega))
          rw [Nat.zero_mul, Addr.add_zero', Addr.add_zero'] at h1
          obtain ⟨b, o, spt⟩ := a
          have hsp : spt = none := by
            cases spt with
            | none => rfl
            | some q =>
              exfalso
              simp only [World.cell?] at h1
              split at h1 <;> simp at h1
          subst hsp
          refine ⟨b, o, rfl, ?_, ?_⟩
          · show b < W.heap.size
            rcases Nat.lt_or_ge b W.heap.size with h2 | h2
            · exact h2
            · simp [World.cell?, Array.getElem?_eq_none h2] at h1
          · have := VRc.cat (w := W) (I := (Ctx.old W).I) (b := b) (o := o) (f := f) (sz := e.size) (n := len) (k := 0) fun i _ hi => by
              obtain ⟨_, h4, h5⟩ := hfs i (by omega)
              refine ⟨h4, ?_⟩
              rw [VRc_get]
              intro j d hj
              obtain ⟨v, h6, h7⟩ := h5 j d hj
              rw [Addr.add_lit, Addr.add_lit] at h6
              exact ⟨v, h6, h7⟩
            simpa using this
    · cases hf
  | arr n e ih =>
    refine ⟨fun t fuel cs x hf h => ?_, fun l off fuel cs hf => by simp [RT.fitF] at hf⟩
    rw [RT.fit] at hf
    split at hf
    · rename_i m u hu
      simp only [Bool.and_eq_true, decide_eq_true_eq] at hf
      obtain ⟨⟨⟨rfl, hsz⟩, hct⟩, hfit⟩ := hf
      obtain ⟨xs, k, _, _, hlen, hxl, hx⟩ := DataW.trod_array hu h
      obtain ⟨f, hfs⟩ := choose_lists (n := m) (Q := fun i l => e.Is l ∧ VRps W (Ctx.old W).I l ((cs.drop (i * e.size)).take e.size)) fun i hi => by
        have h1 := hx i hi
        rw [hsz, List.getElem?_eq_getElem (by omega)] at h1
        obtain ⟨_, ps, h3, h4⟩ := ih.1 u k _ _ hfit h1
        exact ⟨ps, h3, h4⟩
      have hlen : cs.length = m * e.size := hlen.trans hct
      refine ⟨hlen, cat f 0 m, Chunks.cat fun i _ hi => (hfs i (by omega)).1, ?_⟩
      have := VRps.cat (cs := cs) (sz := e.size) (n := m) (k := 0) (f := f) fun i _ hi => (hfs i (by omega)).2
      rwa [Nat.zero_mul, List.drop_zero, List.take_of_length_le (by omega)] at this
    · cases hf
  | st fs ih =>
    refine ⟨fun t fuel cs x hf h => ?_, fun l off fuel cs hf => by simp [RT.fitF] at hf⟩
    rw [RT.fit] at hf
    split at hf
    · rename_i l hu
      simp only [Bool.and_eq_true, decide_eq_true_eq] at hf
      obtain ⟨hfit, hct⟩ := hf
      obtain ⟨xs, k, _, _, hlen, hxl, hx⟩ := DataW.trod_struct hu h
      have hlen : cs.length = fs.size := hlen.trans hct
      obtain ⟨ps, h1, h2⟩ := ih.2 l.toList 0 k cs hfit fun f hf => by
        obtain ⟨i, hi, rfl⟩ := List.getElem_of_mem hf
        have hi' : i < l.size := by simpa using hi
        have := hx i l[i] (Array.getElem?_eq_getElem hi')
        rw [List.getElem?_eq_getElem (by omega)] at this
        exact ⟨_, by simpa using this⟩
      rw [List.drop_zero, List.take_of_length_le (by omega)] at h2
      exact ⟨hlen, ps, h1, h2⟩
    · cases hf
  | nil =>
    refine ⟨fun t fuel cs x hf h => by simp [RT.fit] at hf, fun l off fuel cs hf h => ?_⟩
    refine ⟨[], rfl, ?_⟩
    show VRps W _ [] ((cs.drop off).take 0)
    rw [List.take_zero]
    exact VRps.nil
  | cons a r iha ihr =>
    refine ⟨fun t fuel cs x hf h => by simp [RT.fit] at hf, fun l off fuel cs hf h => ?_⟩
    cases l with
    | nil => simp [RT.fitF] at hf
    | cons f l =>
      rw [RT.fitF] at hf
      simp only [Bool.and_eq_true, decide_eq_true_eq] at hf
      obtain ⟨⟨⟨ho, hsz⟩, hfa⟩, hfr⟩ := hf
      obtain ⟨x, hx⟩ := h f (by simp)
      rw [ho, hsz] at hx
      obtain ⟨_, ps, h1, h2⟩ := iha.1 f.type fuel _ _ hfa hx
      obtain ⟨qs, h3, h4⟩ := ihr.2 l (off + a.size) fuel cs hfr fun g hg => h g (by simp [hg])
      refine ⟨ps ++ qs, ⟨ps, qs, rfl, h1, h3⟩, ?_⟩
      show VRps W _ (ps ++ qs) ((cs.drop off).take (a.size + r.size))
      rw [List.take_add, List.drop_drop]
      exact h2.append h4

def headTV : List PV → TV
  | p :: _ => .c (.p p)
  | [] => .tup []
/-- What an argument is to the abstract machine. -/
def RT.tv (rt : RT) (ps : List PV) : TV :=
  match rt with
  | .st _ => .agg (ps.map .p)
  | .arr _ _ => .agg (ps.map .p)
  | _ => headTV ps

theorem VRps.ds {I : Ctx} {ps : List PV} {vs : List Value} (h : VRps W I.I ps vs) : VRds W I (ps.map .p) vs := by
  refine ⟨by simpa using h.1, fun j d u hd hu => ?_⟩
  rw [List.getElem?_map] at hd
  cases hp : ps[j]? with
  | none => rw [hp] at hd; cases hd
  | some p => rw [hp] at hd; cases hd; exact h.2 j p u hp hu

theorem open_arg {rt : RT} {t : TypeId} {base : Nat} {v : Value} {d : DataW H} {ps : List MemPlace} (hf : rt.fit P t = true) (hval : Value.okWide P W .any base t v) (h : DataW.Trod enc P W 0 sp held t v d ps) :
    ∃ cs, rt.Is cs ∧ TVR W (Ctx.old W) (rt.tv cs) v := by
  obtain ⟨fuel, h⟩ := h
  obtain ⟨hlen, cs, h1, h2⟩ := (open_rt rt).1 t fuel _ _ hf h
  refine ⟨cs, h1, ?_⟩
  have one : ∀ u, v = u → u.cells = #[u] → cs.length = 1 → TVR W (Ctx.old W) (headTV cs) v := by
    rintro u rfl hu hl
    match cs, hl with
    | [p], _ =>
      rw [hu] at h2
      exact h2.2 0 p _ rfl rfl
  have hl := h2.1.trans hlen
  cases rt with
  | int k =>
    rw [RT.fit] at hf
    split at hf
    · rename_i k' hu
      obtain ⟨n, rfl⟩ := okWide_int hu hval
      exact one _ rfl rfl hl
    · cases hf
  | bool =>
    rw [RT.fit] at hf
    split at hf
    · rename_i hu
      obtain ⟨n, rfl⟩ := okWide_bool hu hval
      exact one _ rfl rfl hl
    · cases hf
  | str =>
    rw [RT.fit] at hf
    split at hf
    · rename_i hu
      obtain ⟨n, rfl⟩ := okWide_string hu hval
      exact one _ rfl rfl hl
    · cases hf
  | slice e =>
    rw [RT.fit] at hf
    split at hf
    · rename_i u hu
      obtain ⟨a, n, c, rfl⟩ := okWide_slice hu hval
      exact one _ rfl rfl hl
    · cases hf
  | arr n e =>
    rw [RT.fit] at hf
    split at hf
    · rename_i m u hu
      unfold Value.okWide at hval
      rw [hu] at hval
      obtain ⟨xs, rfl, _⟩ := hval
      exact ⟨xs, rfl, h2.ds⟩
    · cases hf
  | st fs =>
    rw [RT.fit] at hf
    split at hf
    · rename_i l hu
      obtain ⟨xs, rfl, _⟩ := okWide_struct hu hval
      exact ⟨xs, rfl, h2.ds⟩
    · cases hf
  | nil => simp [RT.fit] at hf
  | cons a r => simp [RT.fit] at hf

def fitAll (P : Program) : List RT → List TypeId → Bool
  | [], [] => true
  | r :: rs, t :: ts => r.fit P t && fitAll P rs ts
  | _, _ => false
def IsAll : List RT → List (List PV) → Prop
  | [], [] => True
  | r :: rs, p :: ps => r.Is p ∧ IsAll rs ps
  | _, _ => False
def tvs : List RT → List (List PV) → List TV
  | r :: rs, p :: ps => r.tv p :: tvs rs ps
  | _, _ => []

theorem open_args {base : Nat} : ∀ {rts : List RT} {ts : List TypeId} {vs : List Value} {ds : List (DataW H)} {ps : List MemPlace}, fitAll P rts ts = true → (∀ (j : Nat) t v, ts[j]? = some t → vs[j]? = some v → Value.okWide P W .any base t v) →
    DataW.TrodAll enc P W 0 sp held ts vs ds ps → ds.length = ts.length ∧ ∃ pss, IsAll rts pss ∧ TVRs W (Ctx.old W) (tvs rts pss) vs
  | [], [], vs, ds, ps, _, _, h => by
    match vs, ds, h with
    | [], [], _ => exact ⟨rfl, [], trivial, rfl⟩
  | r :: rs, t :: ts, vs, ds, ps, hf, hv, h => by
    match vs, ds, h with
    | v :: vs, d :: ds, ⟨p, q, h1, h2, _⟩ =>
      simp only [fitAll, Bool.and_eq_true] at hf
      obtain ⟨cs, h3, h4⟩ := open_arg hf.1 (hv 0 t v rfl rfl) h1
      obtain ⟨hl, pss, h5, h6⟩ := open_args hf.2 (fun j t v ht hv' => hv (j + 1) t v ht hv') h2
      exact ⟨by simp [hl], cs :: pss, ⟨h3, h5⟩, v, vs, rfl, h4, h6⟩
  | [], _ :: _, _, _, _, hf, _, _ => by simp [fitAll] at hf
  | _ :: _, [], _, _, _, hf, _, _ => by simp [fitAll] at hf

/-- A law that is true for all arguments of its types does what its row says. -/
theorem law_row {fid : FuncId} {f : Func} {s : ChangeSpec} {tb : TypeId} {rts : List RT} {base : Nat} {args : Array Value} {ds gs : List (DataW H)} {before : List MemPlace} (hl : laidOutB P = true) (hr : ∀ t ∈ f.params.toList, P.readableRec t = true ∧ t < P.types.size)
    (hres : f.resultTypes = #[tb]) (hb : P.underlying tb = some .bool) (hv : s.vars = []) (hsp : ∀ ds : List (DataW H), ds.length = f.params.toList.length → (s.fn H ds).results = [.lit (.bool true)] ∧ (s.fn H ds).args = ds ∧ (s.fn H ds).vars = [])
    (hfit : fitAll P rts f.params.toList = true) (hm : ∀ pss, IsAll rts pss → Meets P fid ⟨tvs rts pss, [], 0, .c (.p (.v (.bool true))), [], 0⟩)
    (hval : ∀ (j : Nat) t v, f.params[j]? = some t → args[j]? = some v → Value.okWide P W .any base t v)
    (hW : DataW.Whole enc P f.params.toList s.vars false W args.toList ds gs before) : Calls P fid args W fun e W' => ∃ v, e = .returned v ∧ s.post enc P f false true false false W args v W' := by
  have hW' := hW
  obtain ⟨p, q, hA, hV, hpq, hfz, hnd⟩ := hW
  rw [hv] at hV
  obtain ⟨rfl, rfl⟩ := trodVars_none hV
  obtain ⟨hlen, pss, h1, h2⟩ := open_args (W := W) hfit (fun j t v ht hv => hval j t v (by simpa using ht) (by simpa using hv)) hA
  exact law_contract hl hr hres hb hv (by rw [List.append_nil]; exact hsp ds hlen) hW' (hm pss h1) h2
end
end Go.Proofs.Ytjieenfbfckafaa.Am

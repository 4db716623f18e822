/- The operations' effects are the model's: aggregates held against one another cell by cell. -/
import Derived.Test.YtjieenfbfckafaaAmSound6
import Derived.Laws.StructEq
import Derived.ChangeKeysEq
namespace Go.Proofs.Ytjieenfbfckafaa.Am
open Go
set_option linter.unusedVariables false
set_option linter.unusedSimpArgs false

theorem toList_inj (x y : ByteArray) : (x.toList == y.toList) = true ↔ x = y := by
  rw [ByteArray.toList_eq, ByteArray.toList_eq, beq_iff_eq]
  constructor
  · intro h
    obtain ⟨x⟩ := x
    obtain ⟨y⟩ := y
    have : x = y := Array.toList_inj.1 h
    rw [this]
  · rintro rfl; rfl

def fitV : CK → Value → Prop
  | .tb, .bool _ => True
  | .ti k, .int k' _ => k' = k
  | .ts, .string _ => True
  | _, _ => False
def fitVs : List CK → List Value → Prop
  | [], [] => True
  | c :: cs, u :: us => fitV c u ∧ fitVs cs us
  | _, _ => False
theorem fitVs.length : ∀ {cs : List CK} {us : List Value}, fitVs cs us → us.length = cs.length
  | [], [], _ => rfl
  | _ :: _, _ :: _, h => by simp [fitVs.length h.2]
  | [], _ :: _, h => h.elim
  | _ :: _, [], h => h.elim
theorem fitVs.split : ∀ {a b : List CK} {us : List Value}, fitVs (a ++ b) us → fitVs a (us.take a.length) ∧ fitVs b (us.drop a.length)
  | [], b, us, h => by simpa [fitVs] using h
  | c :: a, b, u :: us, h => by
    obtain ⟨h1, h2⟩ := fitVs.split (a := a) (b := b) (us := us) h.2
    exact ⟨⟨h.1, by simpa using h1⟩, by simpa using h2⟩
  | c :: a, b, [], h => h.elim

section
variable {P : Program}

mutual
/-- The kinds of a type's cells, where '==' compares them one by one. -/
def flatCK (P : Program) : Nat → TypeId → Option (List CK)
  | 0, _ => none
  | d + 1, t =>
    match P.underlying t with
    | some .bool => some [.tb]
    | some (.int k) => some [.ti k]
    | some .string => some [.ts]
    | some (.struct fs) => if P.stoodInHeld t then none else flatFs P d 0 fs.toList
    | some (.array n e) =>
      match flatCK P d e with
      | some l => if (P.info? e).map (·.size) = some l.length then some ((List.replicate n l).flatten) else none
      | none => none
    | _ => none
def flatFs (P : Program) : Nat → Nat → List Field → Option (List CK)
  | _, _, [] => some []
  | 0, _, _ :: _ => none
  | d + 1, off, f :: fs =>
    match flatCK P d f.type, flatFs P d (off + ((flatCK P d f.type).getD []).length) fs with
    | some l, some r => if f.name ≠ "_" ∧ f.offset = off ∧ (P.info? f.type).map (·.size) = some l.length then some (l ++ r) else none
    | _, _ => none
end

/-- A value as the cells of its type. -/
def AtT (P : Program) (t : TypeId) (a : Value) (us : List Value) : Prop := (aggOf P t = true ∧ a = .agg us.toArray) ∨ (aggOf P t = false ∧ us = [a])

theorem part_flat {t : TypeId} {l : List CK} {w : World} {xs : Array Value} {off : Nat} (hu : (P.underlying t).isSome = true) (hs : (P.info? t).map (·.size) = some l.length) (h1 : aggOf P t = false → l.length = 1)
    (hf : fitVs l ((xs.toList.drop off).take l.length)) : ∃ a, (part t xs off).run P w = .ok a w ∧ AtT P t a ((xs.toList.drop off).take l.length) := by
  cases ha : aggOf P t with
  | true =>
    have hsz : szFits P t (some l.length) = true := by simp [szFits, ha, hs]
    refine ⟨.agg (xs.extract off (off + l.length)), ?_, .inl ⟨ha, ?_⟩⟩
    · simp [part, run_isAgg' hsz, run_sizeOf' hs]
    · congr 1
      apply Array.ext'
      simp [Array.toList_extract, List.extract_eq_take_drop]
  | false =>
    have hsz : szFits P t none = true := by simp [szFits, ha, hu]
    have hl := h1 ha
    have hlen := hf.length
    rw [hl] at hlen hf ⊢
    have hlt : off < xs.toList.length := by simp at hlen ⊢; omega
    have hcs : xs[off]? = some xs.toList[off] := by simp at hlt; simp [hlt]
    refine ⟨xs.toList[off], ?_, .inr ⟨ha, ?_⟩⟩
    · simp only [part, Sem.run_bind, run_isAgg' hsz, Result.andThen_ok, Option.isSome_none, Bool.false_eq_true, if_false, hcs, Sem.run_pure]
    · rw [List.drop_eq_getElem_cons hlt]
      rfl

theorem flatCK_under {d : Nat} {t : TypeId} {l : List CK} (h : flatCK P d t = some l) : (P.underlying t).isSome = true ∧ (aggOf P t = false → l.length = 1) := by
  cases d with
  | zero => simp [flatCK] at h
  | succ d =>
    unfold flatCK at h
    split at h
    · rename_i hu; simp only [Option.some.injEq] at h; subst h; simp [hu]
    · rename_i k hu; simp only [Option.some.injEq] at h; subst h; simp [hu]
    · rename_i hu; simp only [Option.some.injEq] at h; subst h; simp [hu]
    · rename_i fs hu; simp [hu, aggOf]
    · rename_i n e hu; simp [hu, aggOf]
    · cases h

theorem eq_take_drop {a b : List Value} {n : Nat} (h : a.length = b.length) : a = b ↔ a.take n = b.take n ∧ a.drop n = b.drop n := by
  constructor
  · rintro rfl; exact ⟨rfl, rfl⟩
  · rintro ⟨h1, h2⟩
    rw [← List.take_append_drop n a, ← List.take_append_drop n b, h1, h2]

/-- '==' on a type of this kind. -/
def EqFlat (P : Program) (D : Nat) (t : TypeId) (l : List CK) : Prop :=
  ∀ (w : World) (a b : Value) (us vs : List Value), AtT P t a us → AtT P t b vs → fitVs l us → fitVs l vs → ∃ r : Bool, (Op.equalIn D t a b).run P w = .ok r w ∧ (r = true ↔ us = vs)

theorem eqItems_flat {D : Nat} {e : TypeId} {l : List CK} (IH : EqFlat P D e l) (hu : (P.underlying e).isSome = true) (hs : (P.info? e).map (·.size) = some l.length) (h1 : aggOf P e = false → l.length = 1) (w : World) (xs ys : Array Value) :
    ∀ (n k : Nat), fitVs ((List.replicate n l).flatten) (xs.toList.drop (k * l.length)) → fitVs ((List.replicate n l).flatten) (ys.toList.drop (k * l.length)) →
      ∃ r : Bool, (Op.eqItems D e l.length xs ys (List.range' k n)).run P w = .ok r w ∧ (r = true ↔ xs.toList.drop (k * l.length) = ys.toList.drop (k * l.length))
  | 0, k, hx, hy => by
    have ex := hx.length
    have ey := hy.length
    simp only [List.replicate_zero, List.flatten_nil, List.length_nil] at ex ey
    refine ⟨true, by simp [Op.eqItems], ?_⟩
    simp [List.eq_nil_of_length_eq_zero ex, List.eq_nil_of_length_eq_zero ey]
  | n + 1, k, hx, hy => by
    rw [List.replicate_succ, List.flatten_cons] at hx hy
    have ex := hx.length
    have ey := hy.length
    obtain ⟨x1, x2⟩ := hx.split
    obtain ⟨y1, y2⟩ := hy.split
    obtain ⟨a, p1, q1⟩ := part_flat (w := w) hu hs h1 x1
    obtain ⟨b, p2, q2⟩ := part_flat (w := w) hu hs h1 y1
    obtain ⟨r, hr, hiff⟩ := IH w a b _ _ q1 q2 x1 y1
    rw [List.drop_drop, ← Nat.succ_mul] at x2 y2
    obtain ⟨r', hr', hiff'⟩ := eqItems_flat IH hu hs h1 w xs ys n (k + 1) x2 y2
    have hsplit := eq_take_drop (n := l.length) (a := xs.toList.drop (k * l.length)) (b := ys.toList.drop (k * l.length)) (by rw [ex, ey])
    rw [List.drop_drop, List.drop_drop, ← Nat.succ_mul] at hsplit
    rw [List.range'_succ]
    simp only [Op.eqItems, Sem.run_bind, p1, p2, hr, Result.andThen_ok]
    cases r
    · refine ⟨false, by simp, ?_⟩
      rw [hsplit, ← hiff]; simp
    · refine ⟨r', by simpa using hr', ?_⟩
      rw [hsplit, ← hiff, hiff']; simp

theorem eqFields_flat {D : Nat} (w : World) (xs ys : Array Value) : ∀ (d off : Nat) (fs : List Field) (l : List CK), flatFs P d off fs = some l →
    (∀ d' t l, d' < d → flatCK P d' t = some l → EqFlat P D t l) → fitVs l (xs.toList.drop off) → fitVs l (ys.toList.drop off) →
      ∃ r : Bool, (Op.eqFields D xs ys fs).run P w = .ok r w ∧ (r = true ↔ xs.toList.drop off = ys.toList.drop off)
  | d, off, [], l, h, IH, hx, hy => by
    have hl : l = [] := by cases d <;> simp [flatFs] at h <;> exact h
    subst hl
    have ex := hx.length
    have ey := hy.length
    refine ⟨true, by simp [Op.eqFields], ?_⟩
    simp [List.eq_nil_of_length_eq_zero ex, List.eq_nil_of_length_eq_zero ey]
  | 0, off, f :: fs, l, h, IH, hx, hy => by simp [flatFs] at h
  | d + 1, off, f :: fs, l, h, IH, hx, hy => by
    unfold flatFs at h
    split at h
    · rename_i l1 l2 hl1 hl2
      split at h
      · rename_i hc
        obtain ⟨hn, hoff, hs⟩ := hc
        simp only [Option.some.injEq] at h
        subst h
        rw [hl1] at hl2
        simp only [Option.getD_some] at hl2
        have ex := hx.length
        have ey := hy.length
        obtain ⟨x1, x2⟩ := hx.split
        obtain ⟨y1, y2⟩ := hy.split
        obtain ⟨hu, h1⟩ := flatCK_under hl1
        subst hoff
        obtain ⟨a, p1, q1⟩ := part_flat (w := w) hu hs h1 x1
        obtain ⟨b, p2, q2⟩ := part_flat (w := w) hu hs h1 y1
        obtain ⟨r, hr, hiff⟩ := IH d f.type l1 (Nat.lt_succ_self d) hl1 w a b _ _ q1 q2 x1 y1
        rw [List.drop_drop] at x2 y2
        obtain ⟨r', hr', hiff'⟩ := eqFields_flat w xs ys d _ fs l2 hl2 (fun d' t l hd hl => IH d' t l (Nat.lt_succ_of_lt hd) hl) x2 y2
        have hsplit := eq_take_drop (n := l1.length) (a := xs.toList.drop f.offset) (b := ys.toList.drop f.offset) (by rw [ex, ey])
        rw [List.drop_drop, List.drop_drop] at hsplit
        simp only [Op.eqFields, hn, ne_eq, not_false_eq_true, if_true, Sem.run_bind, p1, p2, hr, Result.andThen_ok]
        cases r
        · refine ⟨false, by simp, ?_⟩
          rw [hsplit, ← hiff]; simp
        · refine ⟨r', by simpa using hr', ?_⟩
          rw [hsplit, ← hiff, hiff']; simp
      · cases h
    · cases h

theorem eqFlat : ∀ (d D : Nat) (t : TypeId) (l : List CK), flatCK P d t = some l → EqFlat P (D + d) t l
  | 0, D, t, l, h => by simp [flatCK] at h
  | d + 1, D, t, l, h => by
    intro w a b us vs ha hb hx hy
    unfold flatCK at h
    split at h
    · rename_i hu
      have hag : aggOf P t = false := by simp [aggOf, hu]
      simp only [Option.some.injEq] at h; subst h
      rcases ha with ⟨h1, _⟩ | ⟨_, rfl⟩
      · rw [hag] at h1; cases h1
      rcases hb with ⟨h1, _⟩ | ⟨_, rfl⟩
      · rw [hag] at h1; cases h1
      cases a <;> simp [fitVs, fitV] at hx
      cases b <;> simp [fitVs, fitV] at hy
      rename_i x y
      exact ⟨x == y, run_equalIn_bool' w (D + d) t x y hu, by simp⟩
    · rename_i k hu
      have hag : aggOf P t = false := by simp [aggOf, hu]
      simp only [Option.some.injEq] at h; subst h
      rcases ha with ⟨h1, _⟩ | ⟨_, rfl⟩
      · rw [hag] at h1; cases h1
      rcases hb with ⟨h1, _⟩ | ⟨_, rfl⟩
      · rw [hag] at h1; cases h1
      cases a <;> simp [fitVs, fitV] at hx
      cases b <;> simp [fitVs, fitV] at hy
      rename_i k1 x k2 y
      subst hx; subst hy
      exact ⟨x == y, run_equalIn_int w (D + d) t _ _ x y hu, by simp⟩
    · rename_i hu
      have hag : aggOf P t = false := by simp [aggOf, hu]
      simp only [Option.some.injEq] at h; subst h
      rcases ha with ⟨h1, _⟩ | ⟨_, rfl⟩
      · rw [hag] at h1; cases h1
      rcases hb with ⟨h1, _⟩ | ⟨_, rfl⟩
      · rw [hag] at h1; cases h1
      cases a <;> simp [fitVs, fitV] at hx
      cases b <;> simp [fitVs, fitV] at hy
      rename_i x y
      refine ⟨x.toList == y.toList, run_equalIn_string w (D + d) t x y hu, ?_⟩
      rw [toList_inj x y]; simp
    · rename_i fs hu
      split at h
      · cases h
      · rename_i hp
        have hag : aggOf P t = true := by simp [aggOf, hu]
        rcases ha with ⟨_, rfl⟩ | ⟨h1, _⟩
        rotate_left
        · rw [hag] at h1; cases h1
        rcases hb with ⟨_, rfl⟩ | ⟨h1, _⟩
        rotate_left
        · rw [hag] at h1; cases h1
        have hfs : P.fieldsOf t = fs := by simp [Program.fieldsOf, hu]
        have hp : P.stoodInHeld t = false := by simpa using hp
        obtain ⟨r, hr, hiff⟩ := eqFields_flat (P := P) (D := D + d) w us.toArray vs.toArray d 0 fs.toList l h (fun d' t' l' hd hl => by
          have e : D + d = (D + (d - d')) + d' := by omega
          rw [e]
          exact eqFlat d' (D + (d - d')) t' l' hl) (by simpa using hx) (by simpa using hy)
        refine ⟨r, ?_, by simpa using hiff⟩
        rw [← Nat.add_assoc, run_equalIn_struct w (D + d) t _ _ (by rw [hfs]; exact hu) hp, hfs]
        exact hr
    · rename_i n e hu
      split at h
      · rename_i l1 hl1
        split at h
        · rename_i hs
          simp only [Option.some.injEq] at h
          subst h
          have hag : aggOf P t = true := by simp [aggOf, hu]
          rcases ha with ⟨_, rfl⟩ | ⟨h1, _⟩
          rotate_left
          · rw [hag] at h1; cases h1
          rcases hb with ⟨_, rfl⟩ | ⟨h1, _⟩
          rotate_left
          · rw [hag] at h1; cases h1
          obtain ⟨i, hi, his⟩ := Option.map_eq_some_iff.1 hs
          have hc : P.cellsOf e = l1.length := by simp [Program.cellsOf, hi, his]
          obtain ⟨hu1, h1⟩ := flatCK_under hl1
          obtain ⟨r, hr, hiff⟩ := eqItems_flat (eqFlat d D e l1 hl1) hu1 hs h1 w us.toArray vs.toArray n 0 (by simpa using hx) (by simpa using hy)
          refine ⟨r, ?_, by simpa using hiff⟩
          rw [← Nat.add_assoc, run_equalIn_array w (D + d) _ _ hu hi, hc, List.range_eq_range']
          exact hr
        · cases h
      · cases h
    · cases h

variable {o : Oper} {s : S} {K : Eff → Prop}

def expand : List (Nat × CK) → List CK
  | [] => []
  | (n, c) :: r => List.replicate n c ++ expand r

theorem fit_one {w : World} {X : Ctx} {c : CK} {d : DV} {u : Value} (h : fitCK c d) (hv : VRd w X d u) : fitV c u ∧ d = .p (.v u) := by
  cases d with
  | p x =>
    cases x with
    | v v =>
      obtain ⟨rfl, _⟩ := hv
      refine ⟨?_, rfl⟩
      cases c <;> cases u <;> simp_all [fitCK, fitV]
    | _ => cases c <;> exact h.elim
  | _ => cases c <;> exact h.elim

theorem fit_all {w : World} {X : Ctx} : ∀ (cks : List (Nat × CK)) (ds : List DV) (us : List Value), fitCKs cks ds → VRds w X ds us → fitVs (expand cks) us ∧ ds = us.map fun u => .p (.v u)
  | [], ds, us, h, hv => by
    have h : ds = [] := h
    subst h
    have := hv.1
    have hu : us = [] := List.eq_nil_of_length_eq_zero (by simpa using this.symm)
    subst hu
    exact ⟨trivial, rfl⟩
  | (n, c) :: r, ds, us, ⟨h1, h2, h3⟩, hv => by
    obtain ⟨h4, h5⟩ := fit_all r (ds.drop n) (us.drop n) h3 (hv.dropN n)
    have key : ∀ (n : Nat) (as : List DV) (bs : List Value), as.length = n → (∀ d ∈ as, fitCK c d) → VRds w X as bs → fitVs (List.replicate n c) bs ∧ as = bs.map fun u => .p (.v u) := by
      intro n
      induction n with
      | zero =>
        intro as bs hl _ hv
        have ha : as = [] := List.eq_nil_of_length_eq_zero hl
        subst ha
        have hb : bs = [] := List.eq_nil_of_length_eq_zero (by simpa using hv.1.symm)
        subst hb
        exact ⟨trivial, rfl⟩
      | succ n ih =>
        intro as bs hl hfit hv
        cases as with
        | nil => simp at hl
        | cons a as =>
          cases bs with
          | nil => have := hv.1; simp at this
          | cons b bs =>
            obtain ⟨e1, e2⟩ := fit_one (hfit a (by simp)) (hv.2 0 a b rfl rfl)
            obtain ⟨e3, e4⟩ := ih as bs (by simpa using hl) (fun d hd => hfit d (by simp [hd])) ⟨by simpa using hv.1, fun j d u hd hu => hv.2 (j + 1) d u (by simpa using hd) (by simpa using hu)⟩
            exact ⟨⟨e1, e3⟩, by rw [List.map_cons, ← e4, ← e2]⟩
    obtain ⟨h6, h7⟩ := key n (ds.take n) (us.take n) (by simp; omega) h2 (hv.takeN n)
    constructor
    · have hjoin : ∀ (a b : List CK) (x y : List Value), fitVs a x → fitVs b y → fitVs (a ++ b) (x ++ y) := by
        intro a
        induction a with
        | nil => intro b x y hx hy; cases x with
                  | nil => simpa using hy
                  | cons => exact hx.elim
        | cons c a ih => intro b x y hx hy; cases x with
                  | nil => exact hx.elim
                  | cons u x => exact ⟨hx.1, ih b x y hx.2 hy⟩
      have := hjoin _ _ _ _ h6 h4
      rwa [List.take_append_drop] at this
    · conv => lhs; rw [← List.take_append_drop n ds, h7, h5]
      rw [← List.map_append, List.take_append_drop]

def eqaFits (P : Program) (t : TypeId) (cks : List (Nat × CK)) : Bool :=
  (match flatCK P 60 t with | some l => sameCKs l (expand cks) | none => false) && aggOf P t && !P.eqGuardType P.depth t
where
  sameCK : CK → CK → Bool
    | .tb, .tb => true
    | .ti k, .ti k' => decide (k = k')
    | .ts, .ts => true
    | _, _ => false
  sameCKs : List CK → List CK → Bool
    | [], [] => true
    | a :: as, b :: bs => sameCK a b && sameCKs as bs
    | _, _ => false
theorem sameCKs_eq : ∀ {a b : List CK}, eqaFits.sameCKs a b = true → a = b
  | [], [], _ => rfl
  | x :: a, y :: b, h => by
    simp only [eqaFits.sameCKs, Bool.and_eq_true] at h
    rw [sameCKs_eq h.2]
    congr 1
    cases x <;> cases y <;> simp_all [eqaFits.sameCK]
  | [], _ :: _, h => by simp [eqaFits.sameCKs] at h
  | _ :: _, [], h => by simp [eqaFits.sameCKs] at h

theorem snd_eqa {neq : Bool} {cks : List (Nat × CK)} {x y : Opd} {x' y' : Operand} {t u : TypeId} (ho : o.op = .binOp (if neq then .neq else .eql) t x' y' u) (hf : eqaFits P t cks = true) (hx : x.fits x' = true) (hy : y.fits y' = true)
    (h : (AOp.eqa neq cks x y).eff P s K) : ∃ e, Does P o (x.looks ++ y.looks) s e ∧ K e := by
  classical
  obtain ⟨xs, hxs, h⟩ := asA_some h
  obtain ⟨ys, hys, h1, h2, h⟩ := asA_some h
  have h := h (decide (xs = ys)) (by simp)
  refine pure_v rfl h (fun X w a he => ?_) |>.imp fun e h => ⟨h.1, h.2.2⟩
  obtain ⟨us, hp, hus⟩ := ev_sound (w := w) (X := X) (a := a) hx (fun t ht => he t (by simp [ht])) hxs
  obtain ⟨vs, hq, hvs⟩ := ev_sound (w := w) (X := X) (a := a) hy (fun t ht => he t (by simp [ht])) hys
  simp only [eqaFits, Bool.and_eq_true, Bool.not_eq_true'] at hf
  obtain ⟨⟨hl, hag⟩, hg⟩ := hf
  split at hl
  · rename_i l hflat
    have hl := sameCKs_eq hl
    subst hl
    obtain ⟨f1, g1⟩ := fit_all cks xs us.toList h1 hus
    obtain ⟨f2, g2⟩ := fit_all cks ys vs.toList h2 hvs
    obtain ⟨r, hr, hiff⟩ := eqFlat (P := P) 60 9940 t (expand cks) hflat w (.agg us) (.agg vs) us.toList vs.toList (.inl ⟨hag, by simp⟩) (.inl ⟨hag, by simp⟩) f1 f2
    have hrd : r = decide (xs = ys) := by
      rw [Bool.eq_iff_iff, hiff, decide_eq_true_eq]
      constructor
      · intro e; rw [g1, g2, e]
      · intro e
        rw [g1, g2] at e
        have hinj : ∀ (a b : List Value), a.map (fun u => DV.p (.v u)) = b.map (fun u => DV.p (.v u)) → a = b := fun a b h => by
          have := congrArg (List.map fun d => match d with | DV.p (.v u) => u | _ => undef) h
          simpa [List.map_map, Function.comp_def] using this
        exact hinj _ _ e
    rw [← hrd]
    have hgu := run_eqGuard_agg (P := P) w (if neq = true then .neq else .eql) t x' y' us vs hg
    cases neq
    · simp only [Bool.false_eq_true, if_false] at ho hgu ⊢
      simp only [execOp, ho, hp, hq, Sem.run_bind, hgu, Result.andThen_ok, run_eql_struct, hr, Sem.run_pure]
    · simp only [if_true] at ho hgu ⊢
      simp only [execOp, ho, hp, hq, Sem.run_bind, hgu, Result.andThen_ok, run_neq_struct, hr, Sem.run_pure]
  · cases hl

end
end Go.Proofs.Ytjieenfbfckafaa.Am

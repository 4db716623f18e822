/- The operations' effects are the model's: make, cuts, strings and bytes. -/
import Derived.Test.YtjieenfbfckafaaAmSound4
namespace Go.Proofs.Ytjieenfbfckafaa.Am
open Go
set_option linter.unusedVariables false
set_option linter.unusedSimpArgs false

section
variable {P : Program} {o : Oper} {s : S} {K : Eff → Prop}

def makeFits (P : Program) (t : TypeId) (e sz bytes : Nat) (zero : List Value) : Bool :=
  sliceOf P t e && zeroFits P e zero && decide ((P.info? e).map (·.size) = some sz) && decide ((P.info? e).map (·.bytes) = some bytes) && decide (zero.length = sz) && decide (0 < sz)

theorem zeros_length (z : List Value) : ∀ n, (zeros z n).length = n * z.length
  | 0 => by simp [zeros]
  | n + 1 => by simp [zeros, zeros_length z n, Nat.succ_mul, Nat.add_comm]

theorem zeros_P (z : List Value) : ∀ n, zeros z n = (zerosP z n).map DV.p
  | 0 => rfl
  | n + 1 => by simp [zeros, zerosP, zeros_P z n]

theorem snd_make {e sz bytes : Nat} {zero : List Value} {x y : Opd} {own : Bool} {x' y' : Operand} {t : TypeId} (ho : o.op = .makeSlice t x' y') (hx : x.fits x' = true) (hy : y.fits y' = true) (hf : makeFits P t e sz bytes zero = true) (h : (AOp.make e sz bytes zero x y own).eff P s K) :
    ∃ f, Does P o (x.looks ++ y.looks) s f ∧ K f := by
  obtain ⟨k1, n, hn, h⟩ := asI_some h
  obtain ⟨k2, c, hc, h⟩ := asI_some h
  obtain ⟨⟨h0, h1, h2, h3⟩, hK⟩ := h
  simp only [makeFits, Bool.and_eq_true, decide_eq_true_eq] at hf
  obtain ⟨⟨⟨⟨⟨ht, hz⟩, hsz⟩, hby⟩, hzl⟩, hpos⟩ := hf
  have ht := sliceOf_some ht
  obtain ⟨i, z, hi, hz', hzz, h4⟩ := zeroFits_some hz
  have hisz : i.size = sz := by simpa [hi] using hsz
  have hiby : i.bytes = bytes := by simpa [hi] using hby
  have hz2 : z.cells = zero.toArray := by rw [← hzz]
  have hcells : madeCells z.cells (c.toNat * sz) = ((List.replicate c.toNat zero).flatten).toArray := by rw [hz2, ← hzl, madeCells_zeros]
  have hflen : ((List.replicate c.toNat zero).flatten).length = c.toNat * sz := by simp [List.length_flatten, hzl]
  have hle : n.toNat * sz ≤ c.toNat * sz := Nat.mul_le_mul_right _ (by omega)
  have hh : (((List.replicate c.toNat zero).flatten).toArray).toList.take (zeros zero n.toNat).length = (List.replicate n.toNat zero).flatten := by
    rw [zeros_length]
    have e1 : c.toNat = n.toNat + (c.toNat - n.toNat) := by omega
    have e2 : (List.replicate c.toNat zero).flatten = (List.replicate n.toNat zero).flatten ++ (List.replicate (c.toNat - n.toNat) zero).flatten := by
      rw [← List.flatten_append, List.replicate_append_replicate, ← e1]
    simp only [e2]
    exact List.take_left' (by simp [List.length_flatten])
  have run : ∀ (X : Ctx) (w : World) (a : Act), (∀ t ∈ x.looks ++ y.looks, ∀ d, look s.env t = some d → TVR w X d (a.tmps.getD t undef)) →
      (execOp a.eval o).run P w = .ok (.value (.slice (some ⟨w.heap.size, 0, none⟩) n.toNat c.toNat)) (w.alloc (.cells ((List.replicate c.toNat zero).flatten).toArray e)) := by
    intro X w a he
    have hp := tvr_v (ev_sound (w := w) (X := X) (a := a) hx (fun t ht => he t (by simp [ht])) hn)
    have hq := tvr_v (ev_sound (w := w) (X := X) (a := a) hy (fun t ht => he t (by simp [ht])) hc)
    have hr := run_make (P := P) w t e i z ht hi hz' k1 k2 n c h0 h1 (by rw [hiby, Int.mul_comm]; exact h2) (by omega)
    rw [hisz, hcells] at hr
    simp only [execOp, ho, Sem.run_bind, hp, hq, hr, Result.andThen_ok, Sem.run_pure]
  cases own with
  | true =>
    simp only [onB] at hK
    refine ⟨_, Does.new fun X w a he => ?_, hK⟩
    refine ⟨_, _, run X w a he, ?_, ?_, ?_⟩
    · rw [zeros_length, hzl]; simp only [List.size_toArray, hflen]; exact hle
    · rw [hh, zeros_flatten]
      exact VRds_pure (oneCell_flatten h4 _)
    · intro X' w' hd hm hcc
      refine ⟨hd, .inr ⟨w.heap.size, 0, c.toNat, hm, rfl, by omega, by simp only [maxLen]; omega, .inr rfl, ?_⟩⟩
      rw [hcc]; simp only [List.size_toArray, hflen]; omega
  | false =>
    simp only [onB] at hK
    refine ⟨_, Does.stay fun X w a he => ?_, hK⟩
    refine ⟨_, _, run X w a he, fun X' w' hb hI k => ⟨_, c.toNat, rfl, by omega, .inr ⟨w.heap.size, 0, rfl, hI, ?_⟩⟩⟩
    have hv : VRds w X ((zerosP zero n.toNat).map DV.p) ((List.replicate n.toNat zero).flatten) := by
      rw [← zeros_P, zeros_flatten]
      exact VRds_pure (oneCell_flatten h4 _)
    refine hv.pure_at k hb fun j u hu => ?_
    rw [← hh, List.getElem?_take] at hu
    split at hu
    · simpa using hu
    · cases hu

/-! ### Cuts -/
def optFits : Option Opd → Option Operand → Bool
  | some x, some y => x.fits y
  | none, none => true
  | _, _ => false

theorem optI_some {x : Option Opd} {d : Int} {G : Int → Prop} (h : optI s x d G) : ∃ n : Int, G n ∧ ∀ (w : World) (X : Ctx) (a : Act) (y : Option Operand), optFits x y = true →
    (∀ t ∈ optLooks x, ∀ d, look s.env t = some d → TVR w X d (a.tmps.getD t undef)) → (x = none ∧ y = none ∧ n = d) ∨ ∃ k z, y = some z ∧ a.eval z = .int k n := by
  cases x with
  | none =>
    refine ⟨d, h, fun w X a y hf he => ?_⟩
    cases y <;> simp [optFits] at hf
    exact .inl ⟨rfl, rfl, rfl⟩
  | some x =>
    obtain ⟨k, n, hn, h⟩ := asI_some h
    refine ⟨n, h, fun w X a y hf he => ?_⟩
    cases y with
    | none => simp [optFits] at hf
    | some z => exact .inr ⟨k, z, rfl, tvr_v (ev_sound (w := w) (X := X) (a := a) hf he hn)⟩

/-- The bounds of a cut whose numbers are right. -/
theorem run_sliceBounds {w : World} {a : Act} (isS : Bool) (len cap : Nat) (lo hi mx : Option Operand) (l h m : Int)
    (hlo : (lo = none ∧ l = 0) ∨ ∃ k z, lo = some z ∧ a.eval z = .int k l) (hhi : (hi = none ∧ h = len ∧ mx = none) ∨ ∃ k z, hi = some z ∧ a.eval z = .int k h)
    (hmx : (mx = none ∧ m = cap) ∨ ∃ k z, mx = some z ∧ a.eval z = .int k m) (h0 : 0 ≤ l) (h1 : l ≤ h) (h2 : h ≤ m) (h3 : m ≤ cap) :
    (Instr.sliceBounds isS len cap (lo.map a.eval) (hi.map a.eval) (mx.map a.eval)).run P w = .ok (l.toNat, h.toNat, m.toNat) w := by
  have hm0 : 0 ≤ m := by omega
  have hh0 : 0 ≤ h := by omega
  have sb : ∀ (k : IntKind) (i : Int) (y : Nat) (c : BoundsCode), 0 ≤ i → i ≤ y → (Instr.sliceBound (.int k i) y c).run P w = .ok i.toNat w := fun k i y c e1 e2 => run_sliceBound (P := P) (w := w) k i y c e1 e2
  have hmn : h ≤ (m.toNat : Int) := by omega
  have hhn : l ≤ (h.toNat : Int) := by omega
  rcases hmx with ⟨rfl, rfl⟩ | ⟨km, zm, rfl, hm⟩ <;> rcases hhi with ⟨rfl, rfl, hx⟩ | ⟨kh, zh, rfl, hh⟩ <;> rcases hlo with ⟨rfl, rfl⟩ | ⟨kl, zl, rfl, hl⟩
  all_goals first
    | (cases hx; done)
    | (simp only [Instr.sliceBounds, Option.map_some, Option.map_none, Sem.run_bind, Sem.run_pure, Result.andThen_ok]
       simp_all [sb])

theorem run_slice_slice {t e : TypeId} {sz : Nat} (hu : P.underlying t = some (.slice e)) (hs : (P.info? e).map (·.size) = some sz) {w : World} (A : Option Addr) (n cap : Nat) (lo hi mx : Option Value) (l h m : Nat)
    (hb : (Instr.sliceBounds true n cap lo hi mx).run P w = .ok (l, h, m) w) :
    (Instr.sliceAt t (.slice A n cap) lo hi mx).run P w = .ok (.slice (if m = l then A else A.map (·.add (l * sz))) (h - l) (m - l)) w := by
  simp [Instr.sliceAt, Instr.slice, run_underlying hu, hb, run_sizeOf' hs]

theorem snd_sl {sz : Nat} {x : Opd} {lo hi mx : Option Opd} {x' : Operand} {lo' hi' mx' : Option Operand} {t : TypeId} (ho : o.op = .slice t x' lo' hi' mx') (hx : x.fits x' = true) (hlo : optFits lo lo' = true) (hhi : optFits hi hi' = true) (hmx : optFits mx mx' = true)
    (hmh : mx'.isSome → hi'.isSome) (hf : idxaFits P t sz = true) (h : (AOp.sl sz x lo hi mx).eff P s K) :
    ∃ e, Does P o (x.looks ++ optLooks lo ++ optLooks hi ++ optLooks mx) s e ∧ K e := by
  obtain ⟨e, hu, hsz⟩ := idxaFits_some hf
  obtain ⟨d, hd, h⟩ := asC_some h
  -- the bounds as the run has them
  have bounds : ∀ (X : Ctx) (w : World) (a : Act) (n cap : Nat) (l q m : Int),
      (∀ t ∈ x.looks ++ optLooks lo ++ optLooks hi ++ optLooks mx, ∀ d, look s.env t = some d → TVR w X d (a.tmps.getD t undef)) → n ≤ cap →
      (∀ (w : World) (X : Ctx) (a : Act) (y : Option Operand), optFits lo y = true → (∀ t ∈ optLooks lo, ∀ d, look s.env t = some d → TVR w X d (a.tmps.getD t undef)) → (lo = none ∧ y = none ∧ l = 0) ∨ ∃ k z, y = some z ∧ a.eval z = .int k l) →
      (∀ (w : World) (X : Ctx) (a : Act) (y : Option Operand), optFits hi y = true → (∀ t ∈ optLooks hi, ∀ d, look s.env t = some d → TVR w X d (a.tmps.getD t undef)) → (hi = none ∧ y = none ∧ q = n) ∨ ∃ k z, y = some z ∧ a.eval z = .int k q) →
      (∀ (w : World) (X : Ctx) (a : Act) (y : Option Operand), optFits mx y = true → (∀ t ∈ optLooks mx, ∀ d, look s.env t = some d → TVR w X d (a.tmps.getD t undef)) → (mx = none ∧ y = none ∧ m = n) ∨ ∃ k z, y = some z ∧ a.eval z = .int k m) →
      0 ≤ l ∧ l ≤ q ∧ q ≤ m ∧ m ≤ n →
      ∃ m' : Nat, q.toNat ≤ m' ∧ m' ≤ cap ∧ (Instr.sliceBounds true n cap (lo'.map a.eval) (hi'.map a.eval) (mx'.map a.eval)).run P w = .ok (l.toNat, q.toNat, m') w := by
    intro X w a n cap l q m he hn hl hq hm ⟨h0, h1, h2, h3⟩
    have el := hl w X a lo' hlo (fun t ht => he t (by simp [ht]))
    have eq := hq w X a hi' hhi (fun t ht => he t (by simp [ht]))
    have em := hm w X a mx' hmx (fun t ht => he t (by simp [ht]))
    rcases em with ⟨_, rfl, rfl⟩ | ⟨k, z, rfl, hz⟩
    · refine ⟨cap, by omega, Nat.le_refl _, ?_⟩
      exact run_sliceBounds (P := P) true n cap lo' hi' none l q cap (el.imp (fun ⟨_, h4, h5⟩ => ⟨h4, h5⟩) id) (eq.imp (fun ⟨_, h4, h5⟩ => ⟨h4, h5, rfl⟩) id) (.inl ⟨rfl, rfl⟩) h0 h1 (by omega) (by omega)
    · refine ⟨m.toNat, by omega, by omega, ?_⟩
      refine run_sliceBounds (P := P) true n cap lo' hi' (some z) l q m (el.imp (fun ⟨_, h4, h5⟩ => ⟨h4, h5⟩) id) (eq.elim (fun ⟨_, h4, _⟩ => absurd (hmh rfl) (by rw [h4]; simp)) .inr) (.inr ⟨k, z, rfl, hz⟩) h0 h1 h2 (by omega)
  cases d with
  | ref id off n z =>
    have h := andN_iff.1 h
    obtain ⟨rfl, h⟩ := h
    obtain ⟨l, h, hl⟩ := optI_some h
    obtain ⟨q, h, hq⟩ := optI_some h
    obtain ⟨m, ⟨hc, h⟩, hm⟩ := optI_some h
    refine ⟨_, Does.pure fun X w a he => ?_, h⟩
    obtain ⟨hdm, h2⟩ := ev_sound (w := w) (X := X) (a := a) hx (fun t ht => he t (by simp [ht])) hd
    obtain ⟨h0, h1, h2', h3⟩ := hc
    rcases h2 with ⟨hmu, rfl, hp⟩ | ⟨b, off', cap, hmu, hp, hn, hcm, hoff, hcc⟩
    · obtain ⟨m', e1, e2, hb⟩ := bounds X w a 0 0 l q m he (Nat.le_refl _) hl hq hm ⟨h0, h1, h2', h3⟩
      have hr := run_slice_slice (P := P) hu hsz none 0 0 _ _ _ _ _ _ hb
      have e3 : l.toNat = 0 := by omega
      have e4 : q.toNat = 0 := by omega
      have e5 : m' = 0 := by omega
      rw [e3, e4, e5] at hr
      refine ⟨_, by simp only [execOp, ho, hp, Sem.run_bind, hr, Result.andThen_ok, Sem.run_pure]; rfl, hdm, .inl ⟨hmu, by omega, rfl⟩⟩
    · obtain ⟨m', e1, e2, hb⟩ := bounds X w a n cap l q m he hn hl hq hm ⟨h0, h1, h2', h3⟩
      have hr := run_slice_slice (P := P) hu hsz (some ⟨b, off', none⟩) n cap _ _ _ _ _ _ hb
      have e3 : (q - l).toNat = q.toNat - l.toNat := by omega
      by_cases hml : m' = l.toNat
      · rw [if_pos hml] at hr
        refine ⟨_, by simp only [execOp, ho, hp, Sem.run_bind, hr, Result.andThen_ok, Sem.run_pure]; rfl, hdm, .inr ⟨b, off', m' - l.toNat, hmu, by rw [e3], by omega, by simp only [maxLen] at hcm ⊢; omega, .inl (by omega), ?_⟩⟩
        have : m' - l.toNat = 0 := by omega
        rw [this]; omega
      · rw [if_neg hml] at hr
        have hoff' : off' = off := by rcases hoff with h4 | h4 <;> omega
        subst hoff'
        refine ⟨_, by simp only [execOp, ho, hp, Sem.run_bind, hr, Result.andThen_ok, Sem.run_pure, Option.map_some, Addr.add_lit]; rfl, hdm, .inr ⟨b, off' + l.toNat * z, m' - l.toNat, hmu, by rw [e3], by omega, by simp only [maxLen] at hcm ⊢; omega, .inr rfl, ?_⟩⟩
        have : l.toNat * z + (m' - l.toNat) * z = m' * z := by rw [← Nat.add_mul]; congr 1; omega
        have : m' * z ≤ cap * z := Nat.mul_le_mul_right _ e2
        omega
  | p x0 =>
    cases x0 with
    | val n cs =>
      obtain ⟨l, h, hl⟩ := optI_some h
      obtain ⟨q, h, hq⟩ := optI_some h
      obtain ⟨m, ⟨hc, h⟩, hm⟩ := optI_some h
      refine ⟨_, Does.pure fun X w a he => ?_, h⟩
      obtain ⟨A, cap, hp, hn, h2⟩ := ev_sound (w := w) (X := X) (a := a) hx (fun t ht => he t (by simp [ht])) hd
      obtain ⟨h0, h1, h2', h3⟩ := hc
      obtain ⟨m', e1, e2, hb⟩ := bounds X w a n cap l q m he hn hl hq hm ⟨h0, h1, h2', h3⟩
      have hr := run_slice_slice (P := P) hu hsz A n cap _ _ _ _ _ _ hb
      have e3 : (q - l).toNat = q.toNat - l.toNat := by omega
      refine ⟨_, by simp only [execOp, ho, hp, Sem.run_bind, hr, Result.andThen_ok, Sem.run_pure]; rfl, _, m' - l.toNat, by rw [e3], by omega, ?_⟩
      by_cases hz : (q - l).toNat = 0
      · left; exact ⟨hz, by rw [hz]; simp⟩
      · right
        have hml : ¬ m' = l.toNat := by omega
        rcases h2 with ⟨h4, _⟩ | ⟨b, of, rfl, hI, hcs⟩
        · omega
        · refine ⟨b, of + l.toNat * sz, by rw [if_neg hml]; simp [Addr.add_lit], hI, hcs.sub _ _⟩
    | v v =>
      cases v with
      | slice A n c =>
        cases A with
        | none =>
          cases n with
          | zero =>
            cases c with
            | zero =>
              obtain ⟨l, h, hl⟩ := optI_some h
              obtain ⟨q, h, hq⟩ := optI_some h
              obtain ⟨m, ⟨⟨e1, e2, e3⟩, hK⟩, hm⟩ := optI_some h
              subst e1 e2 e3
              refine ⟨_, Does.pure fun X w a he => ?_, hK⟩
              have hp := tvr_v (ev_sound (w := w) (X := X) (a := a) hx (fun t ht => he t (by simp [ht])) hd)
              obtain ⟨m', e1, e2, hb⟩ := bounds X w a 0 0 0 0 0 he (Nat.le_refl _) hl hq hm ⟨by omega, by omega, by omega, by omega⟩
              have hr := run_slice_slice (P := P) hu hsz none 0 0 _ _ _ _ _ _ hb
              have e5 : m' = 0 := by omega
              rw [e5] at hr
              exact ⟨_, by simp only [execOp, ho, hp, Sem.run_bind, hr, Result.andThen_ok, Sem.run_pure]; rfl, rfl, rfl⟩
            | succ => exact h.elim
          | succ => exact h.elim
        | some => exact h.elim
      | _ => exact h.elim
    | _ => exact h.elim
  | ptr => exact h.elim

theorem snd_sls {x : Opd} {lo hi : Option Opd} {x' : Operand} {lo' hi' : Option Operand} {t : TypeId} (ho : o.op = .slice t x' lo' hi' none) (hx : x.fits x' = true) (hlo : optFits lo lo' = true) (hhi : optFits hi hi' = true)
    (hu : P.underlying t = some .string) (h : (AOp.sls x lo hi).eff P s K) :
    ∃ e, Does P o (x.looks ++ optLooks lo ++ optLooks hi) s e ∧ K e := by
  obtain ⟨b, hd, h⟩ := asS_some h
  obtain ⟨l, h, hl⟩ := optI_some h
  obtain ⟨q, ⟨⟨h0, h1, h2⟩, h⟩, hq⟩ := optI_some h
  refine pure_v rfl h (fun X w a he => ?_) |>.imp fun e h => ⟨h.1, h.2.2⟩
  have hp := tvr_v (ev_sound (w := w) (X := X) (a := a) hx (fun t ht => he t (by simp [ht])) hd)
  have el := hl w X a lo' hlo (fun t ht => he t (by simp [ht]))
  have eq := hq w X a hi' hhi (fun t ht => he t (by simp [ht]))
  have hb := run_sliceBounds (P := P) (w := w) (a := a) false b.size b.size lo' hi' none l q b.size (el.imp (fun ⟨_, h4, h5⟩ => ⟨h4, h5⟩) id) (eq.imp (fun ⟨_, h4, h5⟩ => ⟨h4, h5, rfl⟩) id) (.inl ⟨rfl, rfl⟩) h0 h1 h2 (Int.le_refl _)
  simp only [Option.map_none] at hb
  simp [execOp, ho, hp, Instr.sliceAt, Instr.slice, run_underlying hu, hb]
end
end Go.Proofs.Ytjieenfbfckafaa.Am

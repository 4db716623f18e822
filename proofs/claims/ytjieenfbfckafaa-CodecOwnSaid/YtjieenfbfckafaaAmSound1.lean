/- The operations' effects are the model's: what an effect promises, operands, and the operations that touch no memory. -/
import Derived.Test.YtjieenfbfckafaaAmOps
namespace Go.Proofs.Ytjieenfbfckafaa.Am
open Go
set_option linter.unusedVariables false
set_option linter.unusedSimpArgs false

def Opd.looks : Opd → List Nat
  | .t n => [n]
  | _ => []
def optLooks : Option Opd → List Nat
  | some x => x.looks
  | none => []
def listLooks : List Opd → List Nat
  | [] => []
  | x :: r => x.looks ++ listLooks r

def AOp.looks : AOp → List Nat
  | .mov x | .un _ x | .conv _ x | .same x | .tostr x | .tobytes _ x | .box _ x | .load _ x | .nilck x | .fld _ x | .get _ _ x | .ext _ x | .len x | .lens x | .bconv x => x.looks
  | .pick c a b => c.looks ++ a.looks ++ b.looks
  | .bin _ x y | .binw _ x y | .eqb _ x y | .eqa _ _ x y | .store _ x y | .idxa _ x y | .idxr _ _ x y | .idxv _ _ _ x y | .idxs x y | .make _ _ _ _ x y _ | .app _ _ _ x y | .apps _ x y | .copy _ x y | .mm _ x y => x.looks ++ y.looks
  | .build _ parts => listLooks (parts.map (·.2.2))
  | .lit _ _ _ _ parts _ => listLooks (parts.map (·.2))
  | .alloc _ _ => []
  | .sl _ x l h m => x.looks ++ optLooks l ++ optLooks h ++ optLooks m
  | .sls x l h => x.looks ++ optLooks l ++ optLooks h
  | .slr _ _ x l h m => x.looks ++ optLooks l ++ optLooks h ++ optLooks m
  | .call _ args => listLooks args

def Hp.upd (h : Hp) : List (Nat × Option Ob) → Hp
  | [] => h
  | (i, some o) :: r => (h.set i o).upd r
  | (i, none) :: r => (h.del i).upd r

theorem look_upds (l : List (Nat × Ob)) (wr : List (Nat × Option Ob)) : look (upds l wr) = Hp.upd (look l) wr := by
  induction wr generalizing l with
  | nil => rfl
  | cons x r ih =>
    obtain ⟨i, o⟩ := x
    cases o with
    | none =>
      simp only [upds, Hp.upd, ih]
      congr 1
      funext j
      rw [look_del]
      rfl
    | some o =>
      simp only [upds, Hp.upd, ih]
      congr 1
      funext j
      rw [look_put]
      rfl

/-- What an effect promises: whatever the rest of the frame and of the memory holds. -/
def Does (P : Program) (o : Oper) (ls : List Nat) (s : S) (e : Eff) : Prop :=
  ∀ (X : Ctx) (w : World) (a : Act) (h : Hp) (K : Act → World → Prop) (Q : Exit → Act → World → Prop),
    (∀ t ∈ ls, ∀ d, look s.env t = some d → TVR w X d (a.tmps.getD t undef)) → HeapOk w X h → (∀ id ∈ e.acc, id < s.nx → h id = look s.hp id) →
    (∀ id, s.nx ≤ id → id < s.nx + e.nw → ¬ X.dm id) →
    (∀ v w' X', TVR w' X' e.r v → HeapOk w' X' (h.upd e.wr) → Evol X w h X' w' (h.upd e.wr) → (∀ id, X'.dm id → X.dm id ∨ (s.nx ≤ id ∧ id < s.nx + e.nw)) → K (a.put o.dst v) w') →
    o.wp P a w K Q

theorem wp_value {P : Program} {o : Oper} {a : Act} {w w' : World} {K : Act → World → Prop} {Q : Exit → Act → World → Prop} {v : Value}
    (h : (execOp a.eval o).run P w = .ok (.value v) w') (hk : K (a.put o.dst v) w') : o.wp P a w K Q := by
  unfold Oper.wp
  rw [h]
  exact hk
theorem wp_skip' {P : Program} {o : Oper} {a : Act} {w w' : World} {K : Act → World → Prop} {Q : Exit → Act → World → Prop}
    (h : (execOp a.eval o).run P w = .ok .skip w') (hk : K (a.put o.dst undef) w') : o.wp P a w K Q := by
  unfold Oper.wp
  rw [h]
  exact hk

def sameV : Value → Value → Bool
  | .bool a, .bool b => a == b
  | .int k a, .int k' b => decide (k = k') && decide (a = b)
  | .string a, .string b => a.data.toList == b.data.toList
  | .slice none n c, .slice none n' c' => decide (n = n') && decide (c = c')
  | .pointer none, .pointer none => true
  | .map none, .map none => true
  | .nilFunc, .nilFunc => true
  | .nilIface, .nilIface => true
  | _, _ => false
theorem sameV_eq {a b : Value} (h : sameV a b = true) : a = b ∧ a.oneCell' = true := by
  unfold sameV at h
  split at h <;> simp_all [Value.oneCell']
  rename_i a b
  cases a; cases b
  simp_all [Array.toList_inj]
def sameVs : List Value → List Value → Bool
  | [], [] => true
  | a :: as, b :: bs => sameV a b && sameVs as bs
  | _, _ => false
theorem sameVs_eq : ∀ {as bs : List Value}, sameVs as bs = true → as = bs ∧ ∀ a ∈ as, a.oneCell' = true
  | [], [], _ => ⟨rfl, by simp⟩
  | a :: as, b :: bs, h => by
    simp only [sameVs, Bool.and_eq_true] at h
    obtain ⟨rfl, h1⟩ := sameV_eq h.1
    obtain ⟨rfl, h2⟩ := sameVs_eq h.2
    exact ⟨rfl, by simp; exact ⟨h1, h2⟩⟩
  | [], _ :: _, h => by simp [sameVs] at h
  | _ :: _, [], h => by simp [sameVs] at h

def Opd.fits : Opd → Operand → Bool
  | .t n, .tmp m => decide (n = m)
  | .k v, .const u => sameV v u
  | .ka cs, .const (.agg us) => sameVs cs us.toList
  | .f n, .func m => decide (n = m)
  | _, _ => false

theorem VRds_pure {w : World} {X : Ctx} {us : List Value} (h : ∀ u ∈ us, u.oneCell' = true) : VRds w X (us.map fun x => .p (.v x)) us := by
  refine ⟨by simp, fun j d u hd hu => ?_⟩
  rw [List.getElem?_map, hu] at hd
  simp only [Option.map_some, Option.some.injEq] at hd
  subst hd
  exact ⟨rfl, h u (List.mem_of_getElem? hu)⟩

theorem ev_sound {w : World} {X : Ctx} {a : Act} {s : S} {x : Opd} {y : Operand} {d : TV} (hf : x.fits y = true) (he : ∀ t ∈ x.looks, ∀ d, look s.env t = some d → TVR w X d (a.tmps.getD t undef)) (hx : ev s x = some d) : TVR w X d (a.eval y) := by
  cases x with
  | t n =>
    cases y <;> simp [Opd.fits] at hf
    subst hf
    exact he n (by simp [Opd.looks]) d hx
  | k v =>
    cases y <;> simp [Opd.fits] at hf
    obtain ⟨rfl, h1⟩ := sameV_eq hf
    simp only [ev, Option.some.injEq] at hx
    subst hx
    exact ⟨rfl, h1⟩
  | ka cs =>
    cases y with
    | const u =>
      cases u <;> simp [Opd.fits] at hf
      rename_i us
      obtain ⟨e, h1⟩ := sameVs_eq hf
      simp only [ev, Option.some.injEq] at hx
      subst hx
      subst e
      exact ⟨us, rfl, VRds_pure h1⟩
    | _ => simp [Opd.fits] at hf
  | f n =>
    cases y <;> simp [Opd.fits] at hf
    subst hf
    simp only [ev, Option.some.injEq] at hx
    subst hx
    exact ⟨rfl, rfl⟩

/-! What is asked for is there. -/
theorem asI_some {d : Option TV} {K : IntKind → Int → Prop} (h : asI d K) : ∃ k n, d = some (.c (.p (.v (.int k n)))) ∧ K k n := by
  unfold asI at h; split at h
  · exact ⟨_, _, rfl, h⟩
  · exact h.elim
theorem asB_some {d : Option TV} {K : Bool → Prop} (h : asB d K) : ∃ b, d = some (.c (.p (.v (.bool b)))) ∧ K b := by
  unfold asB at h; split at h
  · exact ⟨_, rfl, h⟩
  · exact h.elim
theorem asG_some {d : Option TV} {K : Bool → Prop} {Z : Prop} (h : asG d K Z) : (∃ b, d = some (.c (.p (.v (.bool b)))) ∧ K b) ∨ (d = some (.tup []) ∧ Z) := by
  unfold asG at h; split at h
  · exact .inl ⟨_, rfl, h⟩
  · exact .inr ⟨rfl, h⟩
  · exact h.elim
theorem asS_some {d : Option TV} {K : ByteArray → Prop} (h : asS d K) : ∃ b, d = some (.c (.p (.v (.string b)))) ∧ K b := by
  unfold asS at h; split at h
  · exact ⟨_, rfl, h⟩
  · exact h.elim
theorem asV_some {d : Option TV} {K : Value → Prop} (h : asV d K) : ∃ b, d = some (.c (.p (.v b))) ∧ K b := by
  unfold asV at h; split at h
  · exact ⟨_, rfl, h⟩
  · exact h.elim
theorem asA_some {d : Option TV} {K : List DV → Prop} (h : asA d K) : ∃ b, d = some (.agg b) ∧ K b := by
  unfold asA at h; split at h
  · exact ⟨_, rfl, h⟩
  · exact h.elim
theorem asD_some {d : Option TV} {K : TV → Prop} (h : asD d K) : ∃ b, d = some b ∧ K b := by
  unfold asD at h; split at h
  · exact ⟨_, rfl, h⟩
  · exact h.elim
theorem asC_some {d : Option TV} {K : DV → Prop} (h : asC d K) : ∃ b, d = some (.c b) ∧ K b := by
  unfold asC at h; split at h
  · exact ⟨_, rfl, h⟩
  · exact h.elim
theorem someL_some {α : Type} {x : Option α} {K : α → Prop} (h : someL x K) : ∃ a, x = some a ∧ K a := by
  unfold someL at h; split at h
  · exact ⟨_, rfl, h⟩
  · exact h.elim

/-- An operation that touches no memory, and of which every run yields the same. -/
theorem Does.pure {P : Program} {o : Oper} {ls : List Nat} {s : S} {r : TV}
    (h : ∀ (X : Ctx) (w : World) (a : Act), (∀ t ∈ ls, ∀ d, look s.env t = some d → TVR w X d (a.tmps.getD t undef)) → ∃ v, (execOp a.eval o).run P w = .ok (.value v) w ∧ TVR w X r v) : Does P o ls s (.of r) := by
  intro X w a h0 K Q he ok _ _ hk
  obtain ⟨v, hr, hv⟩ := h X w a he
  exact wp_value hr (hk v w X hv ok (Evol.refl _ _ _) fun id hid => .inl hid)

theorem tvr_v {w : World} {X : Ctx} {x u : Value} (h : TVR w X (.c (.p (.v x))) u) : u = x := h.1
theorem tvr_mk {w : World} {X : Ctx} {x : Value} (h : x.oneCell' = true) : TVR w X (.c (.p (.v x))) x := ⟨rfl, h⟩

section
variable {P : Program} {o : Oper} {s : S} {K : Eff → Prop}

theorem snd_mov {x : Opd} {y : Operand} (ho : o.op = .move y ∨ o.op = .assign y) (hf : x.fits y = true) (h : (AOp.mov x).eff P s K) : ∃ e, Does P o x.looks s e ∧ e.nw = 0 ∧ K e := by
  obtain ⟨d, hd, hK⟩ := asD_some h
  refine ⟨_, Does.pure fun X w a he => ⟨a.eval y, ?_, ev_sound hf he hd⟩, rfl, hK⟩
  rcases ho with ho | ho <;> simp [execOp, ho]

theorem snd_pick {c x y : Opd} {c' x' y' : Operand} (ho : o.op = .pick c' x' y') (hc : c.fits c' = true) (hx : x.fits x' = true) (hy : y.fits y' = true) (h : (AOp.pick c x y).eff P s K) : ∃ e, Does P o (c.looks ++ x.looks ++ y.looks) s e ∧ e.nw = 0 ∧ K e := by
  obtain ⟨b, hb, h⟩ := asB_some h
  cases b with
  | true =>
    obtain ⟨d, hd, hK⟩ := asD_some h
    refine ⟨_, Does.pure fun X w a he => ⟨a.eval x', ?_, ev_sound hx (fun t ht => he t (by simp [ht])) hd⟩, rfl, hK⟩
    have := tvr_v (ev_sound (w := w) (X := X) (a := a) hc (fun t ht => he t (by simp [ht])) hb)
    simp [execOp, ho, this, asBool]
  | false =>
    obtain ⟨d, hd, hK⟩ := asD_some h
    refine ⟨_, Does.pure fun X w a he => ⟨a.eval y', ?_, ev_sound hy (fun t ht => he t (by simp [ht])) hd⟩, rfl, hK⟩
    have := tvr_v (ev_sound (w := w) (X := X) (a := a) hc (fun t ht => he t (by simp [ht])) hb)
    simp [execOp, ho, this, asBool]

theorem pure_v {v : Value} (h1 : v.oneCell' = true) (hK : retV v K) {ls : List Nat} (hrun : ∀ (X : Ctx) (w : World) (a : Act), (∀ t ∈ ls, ∀ d, look s.env t = some d → TVR w X d (a.tmps.getD t undef)) → (execOp a.eval o).run P w = .ok (.value v) w) :
    ∃ e, Does P o ls s e ∧ e.nw = 0 ∧ K e :=
  ⟨_, Does.pure fun X w a he => ⟨v, hrun X w a he, tvr_mk h1⟩, rfl, hK⟩

theorem binI_sound {op : BinOp} {k : IntKind} {x y : Int} (h : binI op k x y K) : ∃ v : Value, v.oneCell' = true ∧ retV v K ∧ (op ≠ .shl → op ≠ .shr → ∀ (t : TypeId) (w : World), (binOp op t (.int k x) (.int k y)).run P w = .ok v w) := by
  cases op <;> simp only [binI] at h <;> first
    | exact h.elim
    | exact ⟨_, rfl, h, fun _ _ t w => by simp [binOp, Op.intArith, Op.intBits, Op.intCmp, bits, bne, BEq.beq]⟩
    | exact ⟨_, rfl, h.2, fun _ _ t w => by simp [binOp, Op.intDiv, h.1]⟩

theorem binS_sound {op : BinOp} {x y : ByteArray} (h : binS op x y K) : ∃ v : Value, v.oneCell' = true ∧ retV v K ∧ (∀ (t : TypeId) (w : World), (binOp op t (.string x) (.string y)).run P w = .ok v w) := by
  cases op <;> simp only [binS] at h <;> first
    | exact h.elim
    | exact ⟨_, rfl, h, fun t w => by simp [binOp, Op.stringOp]⟩
    | exact ⟨_, rfl, h.2, fun t w => by
        have h1 := h.1
        simp only [binOp, Op.stringOp, IntKind.max_i64]
        rw [if_neg (by omega)]
        rfl⟩

theorem binV_sound {op : BinOp} {x y : Value} (h : binV op x y K) : ∃ v : Value, v.oneCell' = true ∧ retV v K ∧ (∀ (t : TypeId) (w : World), (binOp op t x y).run P w = .ok v w) ∧ ∀ (t : TypeId) (p q : Operand), eqGuard op t p q x y = pure () := by
  unfold binV at h
  split at h
  · rename_i k a k' b
    split at h
    · obtain ⟨h0, h⟩ := h
      exact ⟨_, rfl, h, fun t w => by simp [binOp, Op.shift, show ¬ b < 0 by omega], fun t p q => rfl⟩
    · obtain ⟨h0, h⟩ := h
      exact ⟨_, rfl, h, fun t w => by simp [binOp, Op.shift, show ¬ b < 0 by omega], fun t p q => rfl⟩
    · rename_i h1 h2
      obtain ⟨e, h'⟩ := andK_iff.1 h
      subst e
      obtain ⟨v, hv, hK, hr⟩ := binI_sound (P := P) h'
      exact ⟨v, hv, hK, fun t w => hr h1 h2 t w, fun t p q => by cases op <;> rfl⟩
  · obtain ⟨v, hv, hK, hr⟩ := binS_sound (P := P) h
    exact ⟨v, hv, hK, hr, fun t p q => by cases op <;> rfl⟩
  · exact h.elim

theorem wrap64 {n : Int} (h : -9223372036854775808 ≤ n ∧ n ≤ 9223372036854775807) : IntKind.i64.wrap n = n := by
  have e : IntKind.i64.wrap n = if (decide (n % 18446744073709551616 ≥ 9223372036854775808)) = true then n % 18446744073709551616 - 18446744073709551616 else n % 18446744073709551616 := rfl
  rw [e]
  simp only [decide_eq_true_eq]
  split <;> omega
theorem exI_wrap {n : Int} (h : exI n K) : retV (.int .i64 (IntKind.i64.wrap n)) K := by rw [wrap64 h.1]; exact h.2
theorem binE_V {op : BinOp} {x y : Value} (h : binE op x y K) : binV op x y K := by
  unfold binE at h
  split at h
  · split at h
    · unfold binV
      exact andK_iff.2 ⟨rfl, exI_wrap h⟩
    · exact h
  · split at h
    · unfold binV
      exact andK_iff.2 ⟨rfl, exI_wrap h⟩
    · exact h
  · split at h
    · unfold binV
      exact andK_iff.2 ⟨rfl, exI_wrap h⟩
    · exact h
  · exact h

theorem snd_bin {op : BinOp} {x y : Opd} {x' y' : Operand} {t u : TypeId} (ho : o.op = .binOp op t x' y' u) (hx : x.fits x' = true) (hy : y.fits y' = true) (h : (AOp.bin op x y).eff P s K) : ∃ e, Does P o (x.looks ++ y.looks) s e ∧ e.nw = 0 ∧ K e := by
  obtain ⟨xv, hxv, h⟩ := asV_some h
  obtain ⟨yv, hyv, h⟩ := asV_some h
  obtain ⟨v, hv, hK, hr, hg⟩ := binV_sound (P := P) (binE_V h)
  refine pure_v hv hK fun X w a he => ?_
  have h1 := tvr_v (ev_sound (w := w) (X := X) (a := a) hx (fun t ht => he t (by simp [ht])) hxv)
  have h2 := tvr_v (ev_sound (w := w) (X := X) (a := a) hy (fun t ht => he t (by simp [ht])) hyv)
  simp [execOp, ho, h1, h2, hg, hr]

theorem snd_binw {op : BinOp} {x y : Opd} {x' y' : Operand} {t u : TypeId} (ho : o.op = .binOp op t x' y' u) (hx : x.fits x' = true) (hy : y.fits y' = true) (h : (AOp.binw op x y).eff P s K) : ∃ e, Does P o (x.looks ++ y.looks) s e ∧ e.nw = 0 ∧ K e := by
  obtain ⟨xv, hxv, h⟩ := asV_some h
  obtain ⟨yv, hyv, h⟩ := asV_some h
  obtain ⟨v, hv, hK, hr, hg⟩ := binV_sound (P := P) h
  refine pure_v hv hK fun X w a he => ?_
  have h1 := tvr_v (ev_sound (w := w) (X := X) (a := a) hx (fun t ht => he t (by simp [ht])) hxv)
  have h2 := tvr_v (ev_sound (w := w) (X := X) (a := a) hy (fun t ht => he t (by simp [ht])) hyv)
  simp [execOp, ho, h1, h2, hg, hr]

theorem unV_sound {op : UnOp} {x : Value} (h : unV op x K) : ∃ v : Value, v.oneCell' = true ∧ retV v K ∧ (∀ (w : World), (Op.unary op x).run P w = .ok v w) := by
  unfold unV at h
  split at h
  · exact ⟨_, rfl, h, fun w => by simp [Op.unary, Op.intArith]⟩
  · exact ⟨_, rfl, h, fun w => by simp [Op.unary, Op.intBits, bits]⟩
  · exact ⟨_, rfl, h, fun w => by simp [Op.unary]⟩
  · exact h.elim

theorem snd_un {op : UnOp} {x : Opd} {x' : Operand} {t : TypeId} (ho : o.op = .unOp op t x') (hx : x.fits x' = true) (h : (AOp.un op x).eff P s K) : ∃ e, Does P o x.looks s e ∧ e.nw = 0 ∧ K e := by
  obtain ⟨xv, hxv, h⟩ := asV_some h
  obtain ⟨v, hv, hK, hr⟩ := unV_sound (P := P) h
  refine pure_v hv hK fun X w a he => ?_
  have h1 := tvr_v (ev_sound (w := w) (X := X) (a := a) hx he hxv)
  simp [execOp, ho, h1, hr]

theorem maxDepth_succ : ∃ d, Op.maxDepth = d + 1 := ⟨9999, rfl⟩
theorem run_equal_bool {t : TypeId} (ht : P.underlying t = some .bool) (x y : Bool) (w : World) : (Op.equal t (.bool x) (.bool y)).run P w = .ok (x == y) w := by
  obtain ⟨d, hd⟩ := maxDepth_succ
  unfold Op.equal
  rw [hd]
  simp only [Op.equalIn, Sem.run_bind, run_underlying ht, Result.andThen_ok, Sem.run_pure]

theorem snd_eqb {neq : Bool} {x y : Opd} {x' y' : Operand} {t u : TypeId} (ho : o.op = .binOp (if neq then .neq else .eql) t x' y' u) (ht : P.underlying t = some .bool) (hx : x.fits x' = true) (hy : y.fits y' = true) (h : (AOp.eqb neq x y).eff P s K) :
    ∃ e, Does P o (x.looks ++ y.looks) s e ∧ e.nw = 0 ∧ K e := by
  obtain ⟨xv, hxv, h⟩ := asB_some h
  obtain ⟨yv, hyv, h⟩ := asB_some h
  refine pure_v (v := .bool _) rfl h fun X w a he => ?_
  have h1 := tvr_v (ev_sound (w := w) (X := X) (a := a) hx (fun t ht => he t (by simp [ht])) hxv)
  have h2 := tvr_v (ev_sound (w := w) (X := X) (a := a) hy (fun t ht => he t (by simp [ht])) hyv)
  have hg : ∀ op, eqGuard op t x' y' (.bool xv) (.bool yv) = pure () := fun op => by cases op <;> rfl
  have hb1 : binOp .eql t (.bool xv) (.bool yv) = (do pure (.bool (← Op.equal t (.bool xv) (.bool yv)))) := rfl
  have hb2 : binOp .neq t (.bool xv) (.bool yv) = (do pure (.bool (!(← Op.equal t (.bool xv) (.bool yv))))) := rfl
  cases neq
  · simp only [Bool.false_eq_true, if_false] at ho
    simp only [execOp, ho, h1, h2, hg, hb1, Sem.run_bind, Sem.run_pure, Result.andThen_ok, run_equal_bool ht, Bool.false_eq_true, if_false]
  · simp only [if_true] at ho
    simp only [execOp, ho, h1, h2, hg, hb2, Sem.run_bind, Sem.run_pure, Result.andThen_ok, run_equal_bool ht, if_true]

theorem snd_conv {k : IntKind} {x : Opd} {x' : Operand} {t u : TypeId} (ho : o.op = .convert t u x') (hs : (P.underlying t).isSome = true) (hu : P.underlying u = some (.int k)) (hx : x.fits x' = true) (h : (AOp.conv k x).eff P s K) :
    ∃ e, Does P o x.looks s e ∧ e.nw = 0 ∧ K e := by
  obtain ⟨q, n, hxv, h⟩ := asI_some h
  refine pure_v rfl h fun X w a he => ?_
  have h1 := tvr_v (ev_sound (w := w) (X := X) (a := a) hx he hxv)
  obtain ⟨d, hd⟩ := Option.isSome_iff_exists.1 hs
  simp [execOp, ho, h1, convert, run_underlying hd, run_underlying hu, Conv.intToInt]

theorem snd_same {x : Opd} {x' : Operand} {t u : TypeId} (ho : o.op = .convert t u x') (hs : (P.underlying t).isSome = true) (hu : P.underlying u = some .string) (hx : x.fits x' = true) (h : (AOp.same x).eff P s K) :
    ∃ e, Does P o x.looks s e ∧ e.nw = 0 ∧ K e := by
  obtain ⟨b, hxv, h⟩ := asS_some h
  refine pure_v rfl h fun X w a he => ?_
  have h1 := tvr_v (ev_sound (w := w) (X := X) (a := a) hx he hxv)
  obtain ⟨d, hd⟩ := Option.isSome_iff_exists.1 hs
  simp [execOp, ho, h1, convert, run_underlying hd, run_underlying hu]

theorem snd_idxs {x y : Opd} {x' y' : Operand} {t : TypeId} (ho : o.op = .index t x' y') (ht : P.underlying t = some .string) (hx : x.fits x' = true) (hy : y.fits y' = true) (h : (AOp.idxs x y).eff P s K) :
    ∃ e, Does P o (x.looks ++ y.looks) s e ∧ e.nw = 0 ∧ K e := by
  obtain ⟨b, hxv, h⟩ := asS_some h
  obtain ⟨q, n, hyv, h⟩ := asI_some h
  obtain ⟨⟨h0, h3⟩, h⟩ := h
  refine pure_v rfl h fun X w a he => ?_
  have h1 := tvr_v (ev_sound (w := w) (X := X) (a := a) hx (fun t ht => he t (by simp [ht])) hxv)
  have h2 := tvr_v (ev_sound (w := w) (X := X) (a := a) hy (fun t ht => he t (by simp [ht])) hyv)
  have h4 : n.toNat < b.size := by omega
  have h5 : b[n.toNat]? = some b[n.toNat] := by simp [h4]
  simp [execOp, ho, h1, h2, Instr.index, asIntOf, run_underlying ht, h0, h5]

end
end Go.Proofs.Ytjieenfbfckafaa.Am

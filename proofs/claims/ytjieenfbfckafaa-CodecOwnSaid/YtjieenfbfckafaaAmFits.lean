/- Which abstract operation stands for which of the model's; all of them in one statement. -/
import Derived.Test.YtjieenfbfckafaaAmSound11
namespace Go.Proofs.Ytjieenfbfckafaa.Am
open Go
set_option linter.unusedVariables false
set_option linter.unusedSimpArgs false

def kindIs (P : Program) (t : TypeId) (k : IntKind) : Bool :=
  match P.underlying t with
  | some (.int k') => decide (k' = k)
  | _ => false
def stringIs (P : Program) (t : TypeId) : Bool :=
  match P.underlying t with
  | some .string => true
  | _ => false
def boolIs (P : Program) (t : TypeId) : Bool :=
  match P.underlying t with
  | some .bool => true
  | _ => false
def bytesIs (P : Program) (t : TypeId) : Bool :=
  match P.underlying t with
  | some (.slice e) => (match P.underlying e with | some (.int .u8) => true | _ => false)
  | _ => false
def u8Is (P : Program) (e : TypeId) : Bool :=
  match P.underlying e with
  | some (.int .u8) => true
  | _ => false
theorem kindIs_some {P : Program} {t : TypeId} {k : IntKind} (h : kindIs P t k = true) : P.underlying t = some (.int k) := by
  unfold kindIs at h
  split at h
  · rename_i k' hu; simp at h; subst h; exact hu
  · cases h
theorem stringIs_some {P : Program} {t : TypeId} (h : stringIs P t = true) : P.underlying t = some .string := by
  unfold stringIs at h
  split at h
  · assumption
  · cases h
theorem boolIs_some {P : Program} {t : TypeId} (h : boolIs P t = true) : P.underlying t = some .bool := by
  unfold boolIs at h
  split at h
  · assumption
  · cases h
theorem u8Is_some {P : Program} {t : TypeId} (h : u8Is P t = true) : P.underlying t = some (.int .u8) := by
  unfold u8Is at h
  split at h
  · assumption
  · cases h
def opIs (neq : Bool) (op : BinOp) : Bool :=
  match neq, op with
  | true, .neq => true
  | false, .eql => true
  | _, _ => false
theorem opIs_eq {neq : Bool} {op : BinOp} (h : opIs neq op = true) : op = if neq then .neq else .eql := by
  cases neq <;> cases op <;> simp_all [opIs]

def AOp.fits (P : Program) : AOp → Op → Bool
  | .mov x, .move y => x.fits y
  | .mov x, .assign y => x.fits y
  | .pick c a b, .pick c' a' b' => c.fits c' && a.fits a' && b.fits b'
  | .bin op x y, .binOp op' _ x' y' _ => decide (op = op') && x.fits x' && y.fits y'
  | .binw op x y, .binOp op' _ x' y' _ => decide (op = op') && x.fits x' && y.fits y'
  | .eqb n x y, .binOp op t x' y' _ => opIs n op && boolIs P t && x.fits x' && y.fits y'
  | .eqa n cks x y, .binOp op t x' y' _ => opIs n op && eqaFits P t cks && x.fits x' && y.fits y'
  | .un op x, .unOp op' _ x' => decide (op = op') && x.fits x'
  | .conv k x, .convert t u x' => (P.underlying t).isSome && kindIs P u k && x.fits x'
  | .same x, .convert t u x' => (P.underlying t).isSome && stringIs P u && x.fits x'
  | .tostr x, .convert t u x' => bytesIs P t && stringIs P u && x.fits x'
  | .tobytes e x, .convert t u x' => (P.underlying t).isSome && sliceOf P u e && u8Is P e && x.fits x'
  | .build z ps, .build t qs => buildFits P t z ps qs.toList
  | .lit e sz ln z ps _, .buildSlice t ln' qs => decide (ln = ln') && litFits P t e sz ln z ps qs.toList
  | .box e x, .box e' x' => decide (e = e') && x.fits x'
  | .alloc e z, .alloc e' => decide (e = e') && zeroFits P e z
  | .load n x, .load t x' => szFits P t n && x.fits x'
  | .store n x y, .store t x' y' => decide ((P.info? t).map (·.size) = some n) && x.fits x' && y.fits y'
  | .nilck x, .nilCheck x' => x.fits x'
  | .fld off x, .fieldAddr t x' f => fldFits P t f off && x.fits x'
  | .get off n x, .field t x' f => getFits P t f off n && x.fits x'
  | .idxa sz x i, .indexAddr t x' i' => idxaFits P t sz && x.fits x' && i.fits i'
  | .idxr l sz x i, .indexAddr t x' i' => idxrFits P t l sz && x.fits x' && i.fits i'
  | .idxv l sz n x i, .index t x' i' => idxvFits P t l sz n && x.fits x' && i.fits i'
  | .idxs x i, .index t x' i' => stringIs P t && x.fits x' && i.fits i'
  | .sl sz x l h m, .slice t x' l' h' m' => idxaFits P t sz && x.fits x' && optFits l l' && optFits h h' && optFits m m' && (!m'.isSome || h'.isSome)
  | .sls x l h, .slice t x' l' h' m' => stringIs P t && x.fits x' && optFits l l' && optFits h h' && m'.isNone
  | .slr n sz x l h m, .slice t x' l' h' m' => slrFits P t n sz && decide (n ≤ 281474976710656) && x.fits x' && optFits l l' && optFits h h' && optFits m m' && (!m'.isSome || h'.isSome)
  | .make e sz b z n c _, .makeSlice t n' c' => makeFits P t e sz b z && n.fits n' && c.fits c'
  | .ext i x, .extract x' i' => decide (i = i') && x.fits x'
  | .call f args, .call { callee := .value (.func f'), args := args', .. } => decide (f = f') && callFits P f && listFits args args'.toList
  | .app e sz b x y, .call { callee := .builtin .append, args := ⟨[x', y']⟩, argTypes := ⟨[t, u]⟩ } => decide (t = u) && appFits P t e sz b && x.fits x' && y.fits y'
  | .apps e x y, .call { callee := .builtin .append, args := ⟨[x', y']⟩, argTypes := ⟨[t, u]⟩ } => appFits P t e 1 1 && stringIs P u && x.fits x' && y.fits y'
  | .copy sz x y, .call { callee := .builtin .copy, args := ⟨[x', y']⟩, argTypes := ⟨[t, _]⟩ } => idxaFits P t sz && x.fits x' && y.fits y'
  | .len x, .call { callee := .builtin .len, args := ⟨[x']⟩, argTypes := ⟨[t]⟩ } => (match P.underlying t with | some (.slice _) => true | _ => false) && x.fits x'
  | .lens x, .call { callee := .builtin .len, args := ⟨[x']⟩, argTypes := ⟨[t]⟩ } => stringIs P t && x.fits x'
  | .bconv x, .convert t u x' => decide (t = u) && (match P.underlying t with | some (.slice e) => u8Is P e | _ => false) && x.fits x'
  | .mm m x y, .call { callee := .builtin b, args := ⟨[x', y']⟩, .. } => (match m, b with | true, .max => true | false, .min => true | _, _ => false) && x.fits x' && y.fits y'
  | _, _ => false

theorem eff_sound {P : Program} {ao : AOp} {o : Oper} {s : S} {K : Eff → Prop} (hf : ao.fits P o.op = true) (wf : s.wf) (h : ao.eff P s K) : ∃ e, Does P o ao.looks s e ∧ K e := by
  have drop : ∀ {ls : List Nat}, (∃ e, Does P o ls s e ∧ e.nw = 0 ∧ K e) → ∃ e, Does P o ls s e ∧ K e := fun ⟨e, h1, _, h2⟩ => ⟨e, h1, h2⟩
  generalize hop : o.op = op at hf
  unfold AOp.fits at hf
  split at hf
  · exact drop (snd_mov (.inl hop) hf h)
  · exact drop (snd_mov (.inr hop) hf h)
  · simp only [Bool.and_eq_true] at hf
    exact drop (snd_pick hop hf.1.1 hf.1.2 hf.2 h)
  · simp only [Bool.and_eq_true, decide_eq_true_eq] at hf
    obtain ⟨⟨rfl, h1⟩, h2⟩ := hf
    exact drop (snd_bin hop h1 h2 h)
  · simp only [Bool.and_eq_true, decide_eq_true_eq] at hf
    obtain ⟨⟨rfl, h1⟩, h2⟩ := hf
    exact drop (snd_binw hop h1 h2 h)
  · simp only [Bool.and_eq_true] at hf
    rw [opIs_eq hf.1.1.1] at hop
    exact drop (snd_eqb hop (boolIs_some hf.1.1.2) hf.1.2 hf.2 h)
  · simp only [Bool.and_eq_true] at hf
    rw [opIs_eq hf.1.1.1] at hop
    exact snd_eqa hop hf.1.1.2 hf.1.2 hf.2 h
  · simp only [Bool.and_eq_true, decide_eq_true_eq] at hf
    obtain ⟨rfl, h1⟩ := hf
    exact drop (snd_un hop h1 h)
  · simp only [Bool.and_eq_true] at hf
    exact drop (snd_conv hop hf.1.1 (kindIs_some hf.1.2) hf.2 h)
  · simp only [Bool.and_eq_true] at hf
    exact drop (snd_same hop hf.1.1 (stringIs_some hf.1.2) hf.2 h)
  · simp only [Bool.and_eq_true] at hf
    exact snd_tostr hop hf.2 hf.1.1 (stringIs_some hf.1.2) wf h
  · simp only [Bool.and_eq_true] at hf
    exact snd_tobytes hop hf.2 hf.1.1.1 hf.1.1.2 hf.1.2 h
  · exact snd_build hop hf h
  · simp only [Bool.and_eq_true, decide_eq_true_eq] at hf
    obtain ⟨rfl, h1⟩ := hf
    exact snd_lit hop h1 h
  · simp only [Bool.and_eq_true, decide_eq_true_eq] at hf
    obtain ⟨rfl, h1⟩ := hf
    exact snd_box hop h1 h
  · simp only [Bool.and_eq_true, decide_eq_true_eq] at hf
    obtain ⟨rfl, h1⟩ := hf
    exact snd_alloc hop h1 h
  · simp only [Bool.and_eq_true] at hf
    exact snd_load hop hf.2 hf.1 wf h
  · simp only [Bool.and_eq_true, decide_eq_true_eq] at hf
    exact snd_store hop hf.1.2 hf.2 hf.1.1 wf h
  · exact snd_nilck hop hf h
  · simp only [Bool.and_eq_true] at hf
    exact snd_fld hop hf.2 hf.1 h
  · simp only [Bool.and_eq_true] at hf
    exact snd_get hop hf.2 hf.1 h
  · simp only [Bool.and_eq_true] at hf
    exact snd_idxa hop hf.1.2 hf.2 hf.1.1 h
  · simp only [Bool.and_eq_true] at hf
    exact snd_idxr hop hf.1.2 hf.2 hf.1.1 h
  · simp only [Bool.and_eq_true] at hf
    exact snd_idxv hop hf.1.2 hf.2 hf.1.1 h
  · simp only [Bool.and_eq_true] at hf
    exact drop (snd_idxs hop (stringIs_some hf.1.1) hf.1.2 hf.2 h)
  · simp only [Bool.and_eq_true, Bool.or_eq_true, Bool.not_eq_true'] at hf
    obtain ⟨⟨⟨⟨⟨h1, h2⟩, h3⟩, h4⟩, h5⟩, h6⟩ := hf
    exact snd_sl hop h2 h3 h4 h5 (fun hm => h6.elim (fun e => by rw [e] at hm; cases hm) id) h1 h
  · simp only [Bool.and_eq_true, Option.isNone_iff_eq_none] at hf
    obtain ⟨⟨⟨⟨h1, h2⟩, h3⟩, h4⟩, rfl⟩ := hf
    exact snd_sls hop h2 h3 h4 (stringIs_some h1) h
  · simp only [Bool.and_eq_true, Bool.or_eq_true, Bool.not_eq_true', decide_eq_true_eq] at hf
    obtain ⟨⟨⟨⟨⟨⟨h1, h0⟩, h2⟩, h3⟩, h4⟩, h5⟩, h6⟩ := hf
    exact snd_slr hop h2 h3 h4 h5 (fun hm => h6.elim (fun e => by rw [e] at hm; cases hm) id) h0 h1 wf h
  · simp only [Bool.and_eq_true] at hf
    exact snd_make hop hf.1.2 hf.2 hf.1.1 h
  · simp only [Bool.and_eq_true, decide_eq_true_eq] at hf
    obtain ⟨rfl, h1⟩ := hf
    exact snd_ext hop h1 h
  · simp only [Bool.and_eq_true, decide_eq_true_eq] at hf
    obtain ⟨⟨rfl, h1⟩, h2⟩ := hf
    exact snd_call hop h1 h2 wf h
  · simp only [Bool.and_eq_true, decide_eq_true_eq] at hf
    obtain ⟨⟨⟨rfl, h1⟩, h2⟩, h3⟩ := hf
    exact snd_app hop h2 h3 h1 wf h
  · simp only [Bool.and_eq_true] at hf
    exact snd_apps hop hf.1.2 hf.2 hf.1.1.1 (stringIs_some hf.1.1.2) wf h
  · simp only [Bool.and_eq_true] at hf
    exact snd_copy hop hf.1.2 hf.2 hf.1.1 wf h
  · simp only [Bool.and_eq_true] at hf
    split at hf
    · rename_i e hu; exact snd_len hop hu hf.2 h
    · cases hf.1
  · simp only [Bool.and_eq_true] at hf
    exact snd_lens hop (stringIs_some hf.1) hf.2 h
  · simp only [Bool.and_eq_true, decide_eq_true_eq] at hf
    obtain ⟨⟨rfl, h1⟩, h2⟩ := hf
    split at h1
    · rename_i e hu
      exact snd_bconv hop hu (u8Is_some h1) h2 wf h
    · cases h1
  · simp only [Bool.and_eq_true] at hf
    obtain ⟨⟨h1, h2⟩, h3⟩ := hf
    split at h1
    · exact snd_mm (m := true) hop h2 h3 h
    · exact snd_mm (m := false) hop h2 h3 h
    · cases h1
  · cases hf

end Go.Proofs.Ytjieenfbfckafaa.Am

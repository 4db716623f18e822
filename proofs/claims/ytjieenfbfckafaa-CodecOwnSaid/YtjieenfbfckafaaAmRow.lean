/- From a law's contract to what its row asks for. -/
import Derived.Test.YtjieenfbfckafaaAmWalk
import Derived.Carry
import Derived.ProofKit
import Derived.OpenShut
import Derived.JoinedCond
import Derived.ChangeSame
import Derived.Deep.Slices
import Derived.WideKeyArgs
namespace Go.Proofs.Ytjieenfbfckafaa.Am
open Go Go.ChangeShapes Go.WideShapes Go.ChangeAt Go.RowKit Go.Deep
set_option linter.unusedVariables false
set_option linter.unusedSimpArgs false

/-- All memory that is there when a law is called stays as it is. -/
def Ctx.old (W : World) : Ctx := ⟨fun b => b < W.heap.size, fun _ => False, fun _ => none⟩
theorem HeapOk.old (W : World) : HeapOk W (Ctx.old W) (look []) := ⟨fun id o h => by simp [look_nil] at h, fun i j x y b h => by simp [look_nil] at h, fun i x b h => by simp [look_nil] at h, fun b h => h⟩

section
variable {H : Type} {enc : TypeId × Value → H} {P : Program}

theorem trodAll_same (hl : laidOutB P = true) {W W' : World} {sp : Nat → Bool} : ∀ {ts : List TypeId} {vs : List Value} {ds : List (DataW H)} {ps : List MemPlace}, (∀ t ∈ ts, P.readableRec t = true ∧ t < P.types.size) →
    DataW.TrodAll enc P W 0 (fun _ => true) true ts vs ds ps → (∀ p ∈ ps, W.sameAt W' p) → (∀ p ∈ ps, sp p.block = true) → DataW.TrodAll enc P W' 0 sp true ts vs ds ps
  | [], [], [], ps, _, h, _, _ => h
  | t :: ts, v :: vs, d :: ds, ps, hr, ⟨p, q, h1, h2, e⟩, hs, hp => by
    subst e
    refine ⟨p, q, WideElems.Trod_stays hl (hr t (by simp)).1 (hr t (by simp)).2 h1 (fun x hx => hs x (by simp [hx])) (fun x hx => hp x (by simp [hx])), ?_, rfl⟩
    exact trodAll_same hl (fun t ht => hr t (by simp [ht])) h2 (fun x hx => hs x (by simp [hx])) (fun x hx => hp x (by simp [hx]))
  | [], [], _ :: _, _, _, h, _, _ => h.elim
  | [], _ :: _, _, _, _, h, _, _ => h.elim
  | _ :: _, [], _, _, _, h, _, _ => h.elim
  | _ :: _, _ :: _, [], _, _, h, _, _ => h.elim

theorem vrp_byte {W : World} {I : Nat → Prop} {n : Int} (h : 0 ≤ n ∧ n ≤ 255) : VRp W I (pb1 (UInt8.ofNat n.toNat)) (.int .u8 n) := by
  refine ⟨?_, rfl⟩
  rw [UInt8.toNat_ofNat_of_lt' (by show n.toNat < 256; omega)]
  congr 1
  omega

/-- An argument of bytes. -/
theorem open_bytes {t e : TypeId} {W : World} {v : Value} {d : DataW H} {ps : List MemPlace} (ht : P.underlying t = some (.slice e)) (he : P.underlying e = some (.int .u8)) (hc : P.cellsOf e = 1)
    (hval : Value.okWide P W .any 0 t v) (h : DataW.Trod enc P W 0 (fun _ => true) true t v d ps) : ∃ l : List UInt8, VRp W (Ctx.old W).I (.val l.length (pb l)) v ∧ l.length ≤ maxLen := by
  obtain ⟨A, n, c, rfl⟩ := okWide_slice ht hval
  obtain ⟨fuel, hf⟩ := h
  rcases open_slice1 ht hc hf with ⟨h0, _⟩ | ⟨a, len, cap, m, k, V, D, Pl, hcs, _, hl, hm, hmm, _, hx⟩
  · simp [Value.cells] at h0
    obtain ⟨rfl, rfl, rfl⟩ := h0
    exact ⟨[], ⟨none, 0, rfl, Nat.le_refl _, .inl ⟨rfl, rfl⟩⟩, Nat.zero_le _⟩
  · simp [Value.cells] at hcs
    obtain ⟨rfl, rfl, rfl⟩ := hcs
    have hmn : n ≤ m := by rw [hmm]; simpa using hl
    have hV : ∀ i, i < n → ∃ q : Int, V i = .int .u8 q ∧ 0 ≤ q ∧ q ≤ 255 := fun i hi => by
      obtain ⟨q, hq, _, hw⟩ := DataW.trod_int he (hx i (by omega)).2
      simp at hq
      refine ⟨q, hq, by simpa [Lit.wf, IntKind.min, IntKind.max, IntKind.signed, IntKind.bits] using hw⟩
    let f : Nat → UInt8 := fun i => match V i with | .int _ q => UInt8.ofNat q.toNat | _ => 0
    refine ⟨(List.range n).map f, ⟨some a, c, by simp, by simpa using hl, ?_⟩, by simp; omega⟩
    rcases Nat.eq_zero_or_pos n with h0 | h0
    · left; subst h0; exact ⟨by simp, by simp [pb]⟩
    · right
      have h1 := (hx 0 (by omega)).1
      obtain ⟨b, o, sp⟩ := a
      have hsp : sp = none := by
        cases sp with
        | none => rfl
        | some q =>
          exfalso
          simp only [World.cell?, Addr.add] at h1
          split at h1 <;> simp at h1
      subst hsp
      refine ⟨b, o, rfl, ?_, ?_⟩
      · show b < W.heap.size
        rcases Nat.lt_or_ge b W.heap.size with h2 | h2
        · exact h2
        · simp [World.cell?, Addr.add, Array.getElem?_eq_none h2] at h1
      · rw [VRc_get]
        intro j d hj
        have hjn : j < n := by
          have := (List.getElem?_eq_some_iff.1 hj).1
          simpa [pb] using this
        obtain ⟨q, hq, hq0⟩ := hV j hjn
        refine ⟨V j, (by have h3 := (hx j (by omega)).1; rwa [Addr.add_lit] at h3), ?_⟩
        simp only [pb, List.getElem?_map, List.getElem?_range hjn, Option.map_some, Option.some.injEq] at hj
        subst hj
        rw [hq]
        have : f j = UInt8.ofNat q.toNat := by simp only [f, hq]
        rw [this]
        exact vrp_byte hq0

/-- The row's post of a law: true, and what was there is there. -/
theorem law_post {f : Func} {s : ChangeSpec} {tb : TypeId} {W W' : World} {args : Array Value} {ds gs : List (DataW H)} {before : List MemPlace} (hl : laidOutB P = true) (hr : ∀ t ∈ f.params.toList, P.readableRec t = true ∧ t < P.types.size)
    (hres : f.resultTypes = #[tb]) (hb : P.underlying tb = some .bool) (hv : s.vars = []) (hsp : (s.fn H (ds ++ gs)).results = [.lit (.bool true)] ∧ (s.fn H (ds ++ gs)).args = ds ∧ (s.fn H (ds ++ gs)).vars = [])
    (hW : DataW.Whole enc P f.params.toList s.vars false W args.toList ds gs before) (hbl : Below W.heap.size W W') : s.post enc P f false true false false W args (.bool true) W' := by
  have hlt := hW.lt
  have hW' := hW
  obtain ⟨p, q, hA, hV, hpq, hz, hn⟩ := hW
  rw [hv] at hV
  obtain ⟨hgs, hq⟩ := trodVars_none hV
  rw [hq, List.append_nil] at hpq
  subst hpq
  have hold : ∀ x ∈ before, (fun b => decide (b < W.heap.size)) x.block = true := fun x hx => by simpa using hlt x hx
  have hsame : ∀ x ∈ before, W.sameAt W' x := fun x hx => hbl.same (hlt x hx)
  have hargs : ∀ sp : Nat → Bool, (∀ x ∈ before, sp x.block = true) → DataW.TrodAll enc P W' 0 sp true f.params.toList args.toList (s.fn H (ds ++ gs)).args before := fun sp hsp' => by
    rw [hsp.2.1]; exact trodAll_same hl hr hA hsame hsp'
  have hres' : ∀ (b : Nat) (sp : Nat → Bool) (hd : Bool), DataW.TrodAll enc P W' b sp hd f.resultTypes.toList ((Value.bool true).resultList f.resultTypes.size) (s.fn H (ds ++ gs)).results [] := fun b sp hd => by
    rw [hsp.1, hres]
    exact trodAll_cons_mk (shut_bool hb _) trodAll_mk0
  have hvars : ∀ sp : Nat → Bool, DataW.TrodVars enc P W' sp s.vars (s.fn H (ds ++ gs)).vars [] := fun sp => by rw [hv, hsp.2.2]; rfl
  refine ⟨ds, gs, before, [], before, [], hW', hres' _ _ _, hargs _ hold, hvars _, World.keptBut_mono (fun x hx => ⟨hx, ?_⟩) (hbl.frame (· ∈ before)), fun _ => ?_⟩
  · exact Or.inr (.inl hx)
  · refine ⟨ok_one hres rfl (okWide_bool_mk hb _), _, _, ([] ++ before) ++ [], ⟨[] ++ before, [], trodAll_append (hargs _ (fun _ _ => rfl)) (hres' _ _ _), hvars _, rfl, ?_, ?_⟩, ?_⟩
    · intro b off hp
      have hp' : MemPlace.cell b off ∈ before := by simpa using hp
      rw [hbl.frozen (hlt _ hp')]
      exact hz b off hp'
    · intro ha
      cases ha
    · intro x hx _
      simpa using hx

/-- A law's contract. -/
theorem law_contract {fid : FuncId} {f : Func} {s : ChangeSpec} {tb : TypeId} {W : World} {args : Array Value} {ds gs : List (DataW H)} {before : List MemPlace} {targs : List TV} (hl : laidOutB P = true) (hr : ∀ t ∈ f.params.toList, P.readableRec t = true ∧ t < P.types.size)
    (hres : f.resultTypes = #[tb]) (hb : P.underlying tb = some .bool) (hv : s.vars = []) (hsp : (s.fn H (ds ++ gs)).results = [.lit (.bool true)] ∧ (s.fn H (ds ++ gs)).args = ds ∧ (s.fn H (ds ++ gs)).vars = [])
    (hW : DataW.Whole enc P f.params.toList s.vars false W args.toList ds gs before) (hm : Meets P fid ⟨targs, [], 0, .c (.p (.v (.bool true))), [], 0⟩) (ht : TVRs W (Ctx.old W) targs args.toList) :
    Calls P fid args W fun e W' => ∃ v, e = .returned v ∧ s.post enc P f false true false false W args v W' := by
  have h := hm (Ctx.old W) W args.toList (HeapOk.old W) (fun id h => h.elim) ht
  refine Calls.mono h fun e W' ⟨v, X', he, hv', ok, ev, _⟩ => ?_
  obtain ⟨rfl, _⟩ := hv'
  exact ⟨_, he, law_post hl hr hres hb hv hsp hW ⟨ev.os, ev.tape, ev.output, ev.size, fun k hk => ev.frame k hk fun id o ho => by cases ho⟩⟩
end
end Go.Proofs.Ytjieenfbfckafaa.Am

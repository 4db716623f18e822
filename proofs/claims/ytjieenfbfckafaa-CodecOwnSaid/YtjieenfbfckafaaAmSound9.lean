/- The operations' effects are the model's: append of a slice, of a string; calls. -/
import Derived.Test.YtjieenfbfckafaaAmSound8
namespace Go.Proofs.Ytjieenfbfckafaa.Am
open Go Go.Lib
set_option linter.unusedVariables false
set_option linter.unusedSimpArgs false

section
variable {P : Program} {o : Oper} {s : S} {K : Eff → Prop}

theorem run_append_call {a : Act} {w w' : World} {x' y' : Operand} {t u : TypeId} {v : Value} (ho : o.op = .call { callee := .builtin .append, args := #[x', y'], argTypes := #[t, u] })
    (hr : (Builtin.append_ #[t, u] o.type #[a.eval x', a.eval y']).run P w = .ok v w') : (execOp a.eval o).run P w = .ok (.value v) w' := by
  simp [execOp, ho, resolve, invoke, builtin, hr]

/-- The effects of an append. -/
theorem snd_append {ls : List Nat} {e sz bytes m : Nat} {cs : List DV} {rd : List Nat} {x : Opd} {x' y' : Operand} {t u : TypeId} {d : DV} (ho : o.op = .call { callee := .builtin .append, args := #[x', y'], argTypes := #[t, u] }) (hx : x.fits x' = true) (hxl : ∀ t ∈ x.looks, t ∈ ls)
    (wf : s.wf) (hd : ev s x = some (.c d))
    (core : ∀ (X : Ctx) (w : World) (a : Act) (h0 : Hp), (∀ t ∈ ls, ∀ d, look s.env t = some d → TVR w X d (a.tmps.getD t undef)) → HeapOk w X h0 → (∀ id ∈ rd, id < s.nx → h0 id = look s.hp id) → ¬ X.dm s.nx →
      AppDone P w X h0 t u o.type e sz bytes s.nx (a.eval y') m cs)
    (h : appK s s.nx e sz bytes m cs rd K d) : ∃ f, Does P o ls s f ∧ K f := by
  cases d with
  | ref id off n z =>
    have h := andN_iff.1 h
    obtain ⟨rfl, h⟩ := h
    have h := andN_iff.1 h
    obtain ⟨rfl, h⟩ := h
    obtain ⟨ob, hob, h⟩ := someL_some h
    obtain ⟨hoe, hle, hb1, hb2, hK⟩ := andN_iff.1 h
    refine ⟨_, ?_, hK⟩
    intro X w a h0 K Q he ok hacc hfr hk
    have hid : ¬ X.dm s.nx := hfr s.nx (Nat.le_refl _) (by simp)
    have C := core X w a h0 he ok (fun i hi hlt => hacc i (by simp [Eff.acc, hi]) hlt) hid
    have hv := ev_sound (w := w) (X := X) (a := a) hx (fun t ht => he t (hxl t ht)) hd
    have hob' : h0 id = some ob := by rw [hacc id (by simp [Eff.acc]) (wf id ob hob)]; exact hob
    obtain ⟨v', w', X', hr, h1, h2, h3, h4⟩ := C.2 id n ob hob' hle hoe hb1 hb2 _ hv
    refine wp_value (run_append_call ho hr) (hk v' w' X' h1 h2 h3 fun i hi => ?_)
    rcases h4 i hi with h5 | rfl
    · exact .inl h5
    · exact .inr ⟨Nat.le_refl _, by simp⟩
  | p x0 =>
    cases x0 with
    | v v =>
      cases v with
      | slice A n c =>
        cases A with
        | none =>
          cases n with
          | zero =>
            cases c with
            | zero =>
              obtain ⟨hb1, hb2, hK⟩ := h
              refine ⟨_, ?_, hK⟩
              intro X w a h0 K Q he ok hacc hfr hk
              have hid : ¬ X.dm s.nx := hfr s.nx (Nat.le_refl _) (by simp)
              have C := core X w a h0 he ok (fun i hi hlt => hacc i (by simp [Eff.acc, hi]) hlt) hid
              have hv := tvr_v (ev_sound (w := w) (X := X) (a := a) hx (fun t ht => he t (hxl t ht)) hd)
              obtain ⟨v', w', X', hr, h1, h2, h3, h4⟩ := C.1 hb1 hb2
              rw [← hv] at hr
              refine wp_value (run_append_call ho hr) (hk v' w' X' h1 h2 h3 fun i hi => ?_)
              rcases h4 i hi with h5 | rfl
              · exact .inl h5
              · exact .inr ⟨Nat.le_refl _, by simp⟩
            | succ => exact h.elim
          | succ => exact h.elim
        | some => exact h.elim
      | _ => exact h.elim
    | _ => exact h.elim
  | ptr => exact h.elim

theorem snd_app {e sz bytes : Nat} {x y : Opd} {x' y' : Operand} {t : TypeId} (ho : o.op = .call { callee := .builtin .append, args := #[x', y'], argTypes := #[t, t] }) (hx : x.fits x' = true) (hy : y.fits y' = true) (hf : appFits P t e sz bytes = true) (wf : s.wf)
    (h : (AOp.app e sz bytes x y).eff P s K) : ∃ f, Does P o (x.looks ++ y.looks) s f ∧ K f := by
  obtain ⟨ht, hpos, i, z, hi, hz, hisz, hiby, hzs⟩ := appFits_some hf
  have hs1 : (P.info? e).map (·.size) = some sz := by simp [hi, hisz]
  obtain ⟨d, hd, h⟩ := asC_some h
  obtain ⟨v, hvv, h⟩ := asC_some h
  obtain ⟨m, cs, rd, h, hl, hrd, hsrc⟩ := cellsOf_some wf h
  refine snd_append (m := m) (cs := cs) (rd := rd) ho hx (fun t ht => by simp [ht]) wf hd (fun X w a h0 he ok hacc hid => ?_) h
  have hsv := ev_sound (w := w) (X := X) (a := a) hy (fun t ht => he t (by simp [ht])) hvv
  obtain ⟨A, cap, hp, hn, hA⟩ := hsrc X w h0 _ ok hacc hsv
  have hus : ∃ us : List Value, us.length = m * sz ∧ VRds w X cs us ∧ (m = 0 ∨ ∃ ad : Addr, A = some ad ∧ ∀ (j : Nat) u, us[j]? = some u → w.cell? (ad.add j) = some u) := by
    rcases Nat.eq_zero_or_pos m with h0 | h0
    · have : cs = [] := List.eq_nil_of_length_eq_zero (by rw [hl, h0]; simp)
      subst this
      exact ⟨[], by simp [h0], ⟨rfl, by simp⟩, .inl h0⟩
    · obtain ⟨b2, q, rfl, hc⟩ : ∃ b q, A = some ⟨b, q, none⟩ ∧ CellsAt w X b q cs := by
        rcases hA with ⟨_, h5⟩ | ⟨h5, _⟩ | h5
        · omega
        · omega
        · exact h5
      obtain ⟨us, hul, huc, huv⟩ := hc.vals
      exact ⟨us, by rw [hul, hl], huv, .inr ⟨_, rfl, fun j u hj => by rw [Addr.add_lit]; exact huc j u hj⟩⟩
  obtain ⟨us, hlen, huv, hcell⟩ := hus
  refine append_core (P := P) ok hid hf (a.eval y') m us cs hlen huv ?_ ?_ ?_ ?_
  · intro h0m hb hm
    rcases hcell with h0 | ⟨ad, rfl, hc⟩
    · omega
    · refine ⟨z, hzs, ?_⟩
      rw [hp]
      exact run_append_nil (P := P) w t o.type e i z ht hi hz ad m cap us (by rw [hisz]; exact hlen) hc h0m (by omega) (by rw [hiby]; omega)
  · intro h0m A' n' cap' hn' _
    refine run_append_same (P := P) ht hs1 (.inl ⟨e, ht⟩) (fun w => by rw [hp, h0m]; rfl) (fun w => ?_) A' n' cap' hn'
    rw [hp]
    cases A <;> simp [Builtin.firstCells, loadCells, loadCellsFrom]
  · intro g n cap' cur h0m hg hroom hfit
    rcases hcell with h0 | ⟨ad, rfl, hc⟩
    · omega
    · rw [hp]
      have := run_append_room (P := P) w t o.type e i ht hi g n cap' cur hg ad m cap us (by rw [hisz]; exact hlen) hc huv.one hroom (by rw [hisz, hlen]; exact hfit)
      rw [hisz, hlen] at this
      exact this
  · intro b n cap' olds h0m hol holds hgr hb hm
    rcases hcell with h0 | ⟨ad, rfl, hc⟩
    · omega
    · refine ⟨z, hzs, ?_⟩
      rw [hp]
      exact run_append_grow (P := P) w t o.type e i z ht hi hz b n cap' olds (by rw [hisz]; exact hol) holds ad m cap us (by rw [hisz]; exact hlen) hc hgr (by omega) (by rw [hiby]; exact growslice_fits (by omega) hb)

theorem strCells_pb (b : ByteArray) (w : World) (X : Ctx) : VRds w X ((pb b.data.toList).map DV.p) (strCells b) := by
  have : strCells b = b.data.toList.map fun c => Value.int .u8 c.toNat := by simp [strCells]
  rw [this]
  refine ⟨by simp [pb], fun j d u hd hu => ?_⟩
  simp only [pb, List.map_map, List.getElem?_map] at hd hu
  cases hj : b.data.toList[j]? with
  | none => rw [hj] at hu; simp at hu
  | some c =>
    rw [hj] at hd hu
    simp only [Option.map_some, Function.comp, Option.some.injEq] at hd hu
    subst hd; subst hu
    exact ⟨rfl, rfl⟩

theorem snd_apps {e : Nat} {x y : Opd} {x' y' : Operand} {t u : TypeId} (ho : o.op = .call { callee := .builtin .append, args := #[x', y'], argTypes := #[t, u] }) (hx : x.fits x' = true) (hy : y.fits y' = true) (hf : appFits P t e 1 1 = true) (hu : P.underlying u = some .string) (wf : s.wf)
    (h : (AOp.apps e x y).eff P s K) : ∃ f, Does P o (x.looks ++ y.looks) s f ∧ K f := by
  obtain ⟨ht, hpos, i, z, hi, hz, hisz, hiby, hzs⟩ := appFits_some hf
  have hs1 : (P.info? e).map (·.size) = some 1 := by simp [hi, hisz]
  obtain ⟨d, hd, h⟩ := asC_some h
  obtain ⟨b, hb, h⟩ := asS_some h
  have hbl : b.data.toList.length = b.size := by simp
  refine snd_append (m := b.size) (cs := (pb b.data.toList).map DV.p) (rd := []) (sz := 1) (bytes := 1) (e := e) ho hx (fun t ht => by simp [ht]) wf hd (fun X w a h0 he ok hacc hid => ?_) h
  · have hp := tvr_v (ev_sound (w := w) (X := X) (a := a) hy (fun t ht => he t (by simp [ht])) hb)
    refine append_core (P := P) ok hid hf (a.eval y') b.size (strCells b) _ (by rw [strCells_length]; simp) (strCells_pb b w X) ?_ ?_ ?_ ?_
    · intro h0m hb1 hm
      refine ⟨z, hzs, ?_⟩
      rw [hp]
      have := run_append_nil_string (P := P) w t u o.type e i z ht hu hi hz b h0m (by omega) (by rw [hiby]; omega)
      rw [this]
      congr 4
      apply Array.ext'
      simp [strCells]
    · intro h0m A' n' cap' hn' _
      refine run_append_same (P := P) ht hs1 (.inr hu) (fun w => by rw [hp, ← h0m]; rfl) (fun w => ?_) A' n' cap' hn'
      rw [hp]
      simp [Builtin.firstCells]
    · intro g n cap' cur h0m hg hroom hfit
      rw [hp]
      have := run_append_room_string (P := P) w t u o.type e i ht hu hi hisz g n cap' cur hg b hroom (by omega)
      rw [Nat.mul_one, Nat.mul_one]
      exact this
    · intro q n cap' olds h0m hol holds hgr hb1 hm
      refine ⟨z, hzs, ?_⟩
      rw [hp]
      exact run_append_grow_string (P := P) w t u o.type e i z ht hu hi hz q n cap' olds (by rw [hisz]; exact hol) holds b hgr (by omega) (by rw [hiby]; exact growslice_fits (by omega) hb1)
end
end Go.Proofs.Ytjieenfbfckafaa.Am

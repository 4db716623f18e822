/- The operations' effects are the model's: cuts of arrays, bytes and strings, aggregates held against one another, copy. -/
import Derived.Test.YtjieenfbfckafaaAmSound5
namespace Go.Proofs.Ytjieenfbfckafaa.Am
open Go
set_option linter.unusedVariables false
set_option linter.unusedSimpArgs false

section
variable {P : Program} {o : Oper} {s : S} {K : Eff → Prop}

def slrFits (P : Program) (t : TypeId) (ln sz : Nat) : Bool :=
  match P.underlying t with
  | some (.array m e) => decide (m = ln) && decide ((P.info? e).map (·.size) = some sz)
  | some (.pointer u) => match P.underlying u with
    | some (.array m e) => decide (m = ln) && decide ((P.info? e).map (·.size) = some sz)
    | _ => false
  | _ => false

theorem run_slice_ptr {t : TypeId} {ln sz : Nat} (hf : slrFits P t ln sz = true) {w : World} (b off : Nat) (lo hi mx : Option Value) (l h m : Nat)
    (hb : (Instr.sliceBounds false ln ln lo hi mx).run P w = .ok (l, h, m) w) :
    (Instr.sliceAt t (.pointer (some ⟨b, off, none⟩)) lo hi mx).run P w = .ok (.slice (some (if m = l then ⟨b, off, none⟩ else ⟨b, off + l * sz, none⟩)) (h - l) (m - l)) w := by
  unfold slrFits at hf
  split at hf
  · rename_i k e hu
    simp only [Bool.and_eq_true, decide_eq_true_eq] at hf
    obtain ⟨rfl, hs⟩ := hf
    simp [Instr.sliceAt, run_underlying hu, Instr.sureAddr, hb, run_sizeOf' hs, Addr.add_lit]
  · rename_i u hu
    split at hf
    · rename_i k e hu2
      simp only [Bool.and_eq_true, decide_eq_true_eq] at hf
      obtain ⟨rfl, hs⟩ := hf
      simp [Instr.sliceAt, Instr.slice, run_underlying hu, run_underlying hu2, asAddr, hb, run_sizeOf' hs, Addr.add_lit]
    · cases hf
  · cases hf

theorem snd_slr {ln sz : Nat} {x : Opd} {lo hi mx : Option Opd} {x' : Operand} {lo' hi' mx' : Option Operand} {t : TypeId} (ho : o.op = .slice t x' lo' hi' mx') (hx : x.fits x' = true) (hlo : optFits lo lo' = true) (hhi : optFits hi hi' = true) (hmx : optFits mx mx' = true)
    (hmh : mx'.isSome → hi'.isSome) (hln : ln ≤ 281474976710656) (hf : slrFits P t ln sz = true) (wf : s.wf) (h : (AOp.slr ln sz x lo hi mx).eff P s K) :
    ∃ e, Does P o (x.looks ++ optLooks lo ++ optLooks hi ++ optLooks mx) s e ∧ K e := by
  obtain ⟨d, hd, h⟩ := asC_some h
  have bounds : ∀ (X : Ctx) (w : World) (a : Act) (l q m : Int),
      (∀ t ∈ x.looks ++ optLooks lo ++ optLooks hi ++ optLooks mx, ∀ d, look s.env t = some d → TVR w X d (a.tmps.getD t undef)) →
      (∀ (w : World) (X : Ctx) (a : Act) (y : Option Operand), optFits lo y = true → (∀ t ∈ optLooks lo, ∀ d, look s.env t = some d → TVR w X d (a.tmps.getD t undef)) → (lo = none ∧ y = none ∧ l = 0) ∨ ∃ k z, y = some z ∧ a.eval z = .int k l) →
      (∀ (w : World) (X : Ctx) (a : Act) (y : Option Operand), optFits hi y = true → (∀ t ∈ optLooks hi, ∀ d, look s.env t = some d → TVR w X d (a.tmps.getD t undef)) → (hi = none ∧ y = none ∧ q = ln) ∨ ∃ k z, y = some z ∧ a.eval z = .int k q) →
      (∀ (w : World) (X : Ctx) (a : Act) (y : Option Operand), optFits mx y = true → (∀ t ∈ optLooks mx, ∀ d, look s.env t = some d → TVR w X d (a.tmps.getD t undef)) → (mx = none ∧ y = none ∧ m = ln) ∨ ∃ k z, y = some z ∧ a.eval z = .int k m) →
      0 ≤ l ∧ l ≤ q ∧ q ≤ m ∧ m ≤ ln →
      (Instr.sliceBounds false ln ln (lo'.map a.eval) (hi'.map a.eval) (mx'.map a.eval)).run P w = .ok (l.toNat, q.toNat, m.toNat) w := by
    intro X w a l q m he hl hq hm ⟨h0, h1, h2, h3⟩
    have el := hl w X a lo' hlo (fun t ht => he t (by simp [ht]))
    have eq := hq w X a hi' hhi (fun t ht => he t (by simp [ht]))
    have em := hm w X a mx' hmx (fun t ht => he t (by simp [ht]))
    rcases em with ⟨_, rfl, rfl⟩ | ⟨k, z, rfl, hz⟩
    · exact run_sliceBounds (P := P) false ln ln lo' hi' none l q ln (el.imp (fun ⟨_, h4, h5⟩ => ⟨h4, h5⟩) id) (eq.imp (fun ⟨_, h4, h5⟩ => ⟨h4, h5, rfl⟩) id) (.inl ⟨rfl, rfl⟩) h0 h1 h2 h3
    · exact run_sliceBounds (P := P) false ln ln lo' hi' (some z) l q m (el.imp (fun ⟨_, h4, h5⟩ => ⟨h4, h5⟩) id) (eq.elim (fun ⟨_, h4, _⟩ => absurd (hmh rfl) (by rw [h4]; simp)) .inr) (.inr ⟨k, z, rfl, hz⟩) h0 h1 h2 h3
  cases d with
  | ptr id off =>
    obtain ⟨l, h, hl⟩ := optI_some h
    obtain ⟨q, h, hq⟩ := optI_some h
    obtain ⟨m, ⟨hc, h⟩, hm⟩ := optI_some h
    obtain ⟨ob, hob, hle, hK⟩ := someL_some h
    refine ⟨_, Does.reads fun X w a hh he ok hacc => ?_, hK⟩
    obtain ⟨hdm, b, hmu, hp⟩ := ev_sound (w := w) (X := X) (a := a) hx (fun t ht => he t (by simp [ht])) hd
    have hid : hh id = some ob := by rw [hacc id (by simp) (wf id ob hob)]; exact hob
    obtain ⟨c, hcb, hcl, _⟩ := (ok.obj id ob hid).row hmu
    have hb := bounds X w a l q m he hl hq hm hc
    obtain ⟨h0, h1, h2', h3⟩ := hc
    have hr := run_slice_ptr (P := P) hf b off _ _ _ _ _ _ hb
    have hcc : cellCount w b = c.size := cellCount_of hcb
    have e3 : (q - l).toNat = q.toNat - l.toNat := by omega
    by_cases hml : m.toNat = l.toNat
    · rw [if_pos hml] at hr
      refine ⟨_, by simp only [execOp, ho, hp, Sem.run_bind, hr, Result.andThen_ok, Sem.run_pure]; rfl, hdm, .inr ⟨b, off, m.toNat - l.toNat, hmu, by rw [e3], by omega, by simp only [maxLen]; omega, .inl (by omega), ?_⟩⟩
      have : m.toNat - l.toNat = 0 := by omega
      rw [this, hcc]; omega
    · rw [if_neg hml] at hr
      refine ⟨_, by simp only [execOp, ho, hp, Sem.run_bind, hr, Result.andThen_ok, Sem.run_pure]; rfl, hdm, .inr ⟨b, off + l.toNat * sz, m.toNat - l.toNat, hmu, by rw [e3], by omega, by simp only [maxLen]; omega, .inr rfl, ?_⟩⟩
      have e4 : l.toNat * sz + (m.toNat - l.toNat) * sz = m.toNat * sz := by rw [← Nat.add_mul]; congr 1; omega
      have e5 : m.toNat * sz ≤ ln * sz := Nat.mul_le_mul_right _ (by omega)
      rw [hcc]; omega
  | p x0 =>
    cases x0 with
    | vptr cs =>
      obtain ⟨l, h, hl⟩ := optI_some h
      obtain ⟨q, h, hq⟩ := optI_some h
      obtain ⟨m, ⟨hc, h⟩, hm⟩ := optI_some h
      refine ⟨_, Does.pure fun X w a he => ?_, h⟩
      obtain ⟨b, off, hp, hI, hcs⟩ := ev_sound (w := w) (X := X) (a := a) hx (fun t ht => he t (by simp [ht])) hd
      have hb := bounds X w a l q m he hl hq hm hc
      obtain ⟨h0, h1, h2', h3⟩ := hc
      have hr := run_slice_ptr (P := P) hf b off _ _ _ _ _ _ hb
      have e3 : (q - l).toNat = q.toNat - l.toNat := by omega
      refine ⟨_, by simp only [execOp, ho, hp, Sem.run_bind, hr, Result.andThen_ok, Sem.run_pure]; rfl, _, m.toNat - l.toNat, by rw [e3], by omega, ?_⟩
      by_cases hz : (q - l).toNat = 0
      · left; exact ⟨hz, by rw [hz]; simp⟩
      · right
        have hml : ¬ m.toNat = l.toNat := by omega
        exact ⟨b, off + l.toNat * sz, by rw [if_neg hml], hI, hcs.sub _ _⟩
    | _ => exact h.elim
  | ref => exact h.elim

/-! ### The cells behind a slice -/
theorem cellsOf_some {sz : Nat} {d : DV} {G : Nat → List DV → List Nat → Prop} (wf : s.wf) (h : cellsOf s sz d G) : ∃ n cs rd, G n cs rd ∧ cs.length = n * sz ∧ (∀ id ∈ rd, id < s.nx) ∧
    ∀ (X : Ctx) (w : World) (h : Hp) (u : Value), HeapOk w X h → (∀ id ∈ rd, id < s.nx → h id = look s.hp id) → TVR w X (.c d) u →
      ∃ A cap, u = .slice A n cap ∧ n ≤ cap ∧ ((A = none ∧ n = 0) ∨ (n = 0 ∧ cs = []) ∨ ∃ b off, A = some ⟨b, off, none⟩ ∧ CellsAt w X b off cs) := by
  unfold cellsOf at h
  simp only [andN_iff] at h
  split at h
  · rename_i n cs
    obtain ⟨hl, h⟩ := h
    refine ⟨n, _, _, h, by simpa using hl, by simp, fun X w hh u ok _ hv => ?_⟩
    obtain ⟨A, cap, rfl, hn, h2⟩ := hv
    refine ⟨A, cap, rfl, hn, ?_⟩
    rcases h2 with ⟨h3, h4⟩ | ⟨b, off, rfl, hI, hc⟩
    · exact .inr (.inl ⟨h3, by simp [h4]⟩)
    · exact .inr (.inr ⟨b, off, rfl, VRc.cellsAt (X := X) hc⟩)
  · refine ⟨0, [], [], h, by simp, by simp, fun X w hh u ok _ hv => ?_⟩
    obtain ⟨rfl, _⟩ := hv
    exact ⟨none, 0, rfl, Nat.le_refl _, .inl ⟨rfl, rfl⟩⟩
  · rename_i id off n z
    obtain ⟨rfl, h⟩ := h
    obtain ⟨ob, hob, hle, h⟩ := someL_some h
    refine ⟨n, _, _, h, by simp; omega, by simp; exact wf id ob hob, fun X w hh u ok hacc hv => ?_⟩
    obtain ⟨hdm, h2⟩ := hv
    rcases h2 with ⟨hmu, rfl, rfl⟩ | ⟨b, off', cap, hmu, rfl, hn, hcm, hoff, hcc⟩
    · exact ⟨none, 0, rfl, Nat.le_refl _, .inl ⟨rfl, rfl⟩⟩
    · refine ⟨_, cap, rfl, hn, ?_⟩
      rcases Nat.eq_zero_or_pos n with h0 | h0
      · exact .inr (.inl ⟨h0, by rw [h0]; simp⟩)
      · have hoff' : off' = off := by rcases hoff with h4 | h4 <;> omega
        subst hoff'
        have hid : hh id = some ob := by rw [hacc id (by simp) (wf id ob hob)]; exact hob
        exact .inr (.inr ⟨b, off', rfl, ((ok.obj id ob hid).cellsAt hmu off').takeN _⟩)
  · exact h.elim

theorem snd_tostr {x : Opd} {x' : Operand} {t u : TypeId} (ho : o.op = .convert t u x') (hx : x.fits x' = true) (ht : (match P.underlying t with | some (.slice e) => (match P.underlying e with | some (.int .u8) => true | _ => false) | _ => false) = true)
    (hu : P.underlying u = some .string) (wf : s.wf) (h : (AOp.tostr x).eff P s K) : ∃ e, Does P o x.looks s e ∧ K e := by
  obtain ⟨d, hd, h⟩ := asC_some h
  obtain ⟨n, cs, rd, ⟨bs, hbs, hK⟩, hl, _, hsrc⟩ := cellsOf_some wf h
  refine ⟨_, Does.reads fun X w a hh he ok hacc => ?_, hK⟩
  have hv := ev_sound (w := w) (X := X) (a := a) hx he hd
  obtain ⟨A, cap, hp, hn, hA⟩ := hsrc X w hh _ ok hacc hv
  split at ht
  · rename_i e hte
    split at ht
    · rename_i hue
      have hlen : bs.length = n := by have := hl; rw [hbs] at this; simpa [pb] using this
      have hz : n = 0 → bs = [] := fun h => List.eq_nil_of_length_eq_zero (by omega)
      have nil : n = 0 → ∃ v, (execOp a.eval o).run P w = .ok (.value v) w ∧ TVR w X (.c (.p (.v (.string ⟨bs.toArray⟩)))) v := by
        intro h0
        have hbs0 := hz h0
        subst hbs0
        subst h0
        cases A with
        | none =>
          have hr := run_convert_bytes_nil (P := P) w t e hte hue 0 cap u hu
          exact ⟨_, by simp only [execOp, ho, hp, Sem.run_bind, hr, Result.andThen_ok, Sem.run_pure]; rfl, rfl, rfl⟩
        | some ad =>
          obtain ⟨b, off, sp⟩ := ad
          have hload : (loadCells ⟨b, off, sp⟩ 0).run P w = .ok #[] w := rfl
          have hr : (convert t u (.slice (some ⟨b, off, sp⟩) 0 cap)).run P w = .ok (.string ⟨#[]⟩) w := by
            rw [run_convert_bytes_string w t u e _ 0 cap hte hue hu, run_bytesToString w _ 0 cap [] (by simpa using hload)]
            rfl
          exact ⟨.string ⟨#[]⟩, by simp only [execOp, ho, hp, Sem.run_bind, hr, Result.andThen_ok, Sem.run_pure], rfl, rfl⟩
      rcases hA with ⟨_, h0⟩ | ⟨h0, _⟩ | ⟨b, off, rfl, hc⟩
      · exact nil h0
      · exact nil h0
      · have hr := run_convert_bytes_arg (P := P) w t e hte hue b off n cap (bs.map fun b => (b.toNat : Int)) (by simpa using hlen) (fun i hi => by
          have hib : i < bs.length := by omega
          obtain ⟨u, hu1, hu2⟩ := hc i (.p (pb1 bs[i])) (by rw [hbs]; simp [pb, hib])
          rw [hu1]
          obtain ⟨rfl, _⟩ := hu2
          simp [hib, List.getD_eq_getElem?_getD]) u hu
        refine ⟨_, by simp only [execOp, ho, hp, Sem.run_bind, hr, Result.andThen_ok, Sem.run_pure]; rfl, ?_, rfl⟩
        have : strOfNums (bs.map fun b => (b.toNat : Int)) = ⟨bs.toArray⟩ := by
          have h1 := strOfNums_data (bs.map fun b => (b.toNat : Int))
          have h2 : (strOfNums (bs.map fun b => (b.toNat : Int))).data = bs.toArray := by
            apply Array.ext'
            rw [h1, List.map_map]
            have : ((fun n : Int => UInt8.ofNat n.toNat) ∘ fun b : UInt8 => (b.toNat : Int)) = id := by funext b; simp
            rw [this, List.map_id]
          rw [← h2]
        rw [this]
    · cases ht
  · cases ht

theorem snd_tobytes {x : Opd} {x' : Operand} {t u : TypeId} {e : TypeId} (ho : o.op = .convert t u x') (hx : x.fits x' = true) (ht : (P.underlying t).isSome = true) (hu : sliceOf P u e = true)
    (he : (match P.underlying e with | some (.int .u8) => true | _ => false) = true) (h : (AOp.tobytes e x).eff P s K) : ∃ e, Does P o x.looks s e ∧ K e := by
  obtain ⟨b, hd, _, hK⟩ := asS_some h
  obtain ⟨dt, hdt⟩ := Option.isSome_iff_exists.1 ht
  have hu := sliceOf_some hu
  have hue : P.underlying e = some (.int .u8) := by split at he <;> simp_all
  refine ⟨_, ?_, hK⟩
  intro X w a h0 K Q hev ok hacc hfr hk
  have hp := tvr_v (ev_sound (w := w) (X := X) (a := a) hx hev hd)
  have hr := Lib.run_convert_string_bytes (P := P) w t u e b hdt hu hue
  -- the new row as a block that stays
  have hsz := Lib.bytesWorld_size w e b
  have hold : ∀ k, k < w.heap.size → (Lib.bytesWorld w e b).heap[k]? = w.heap[k]? := fun k hk => Lib.bytesWorld_at_old w e b k hk
  have hnew := Lib.bytesWorld_at_new w e b
  have hlt : ∀ i ob b', h0 i = some ob → X.mu i = some b' → b' < w.heap.size := fun i ob b' ho' hm => by
    have := (ok.obj i ob ho').2
    rw [hm] at this
    obtain ⟨c, h1, _⟩ := this
    exact cellCount_lt h1
  have hK2 : Keeps X w (X.stay w.heap.size) (Lib.bytesWorld w e b) :=
    ⟨fun _ hb => .inl hb, fun k hk => hold k (ok.ilt k hk), fun i hi => ⟨hi, rfl⟩, fun k hk => cellCount_congr (hold k hk)⟩
  have hok : HeapOk (Lib.bytesWorld w e b) (X.stay w.heap.size) h0 := by
    refine ⟨fun i ob hob => (ok.obj i ob hob).mono hK2 fun k hk => hold k (hlt i ob k hob hk), ok.inj, ?_, ?_⟩
    · intro i ob k hob hm hI
      rcases hI with hI | rfl
      · exact ok.notI i ob k hob hm hI
      · have := hlt i ob _ hob hm; omega
    · intro k hk
      rcases hk with hk | rfl
      · have := ok.ilt k hk; omega
      · omega
  have hE : Evol X w h0 (X.stay w.heap.size) (Lib.bytesWorld w e b) h0 := by
    refine ⟨rfl, rfl, rfl, by omega, fun k hk _ => hold k hk, hK2.cnt, hK2.dm, hK2.imm, ?_, fun i ob k hob hm => .inr ⟨i, ob, hob, hm⟩⟩
    intro k hk
    rcases hk with hk | rfl
    · exact .inl hk
    · exact .inr (.inl (Nat.le_refl _))
  refine wp_value (w' := Lib.bytesWorld w e b) (v := .slice (some ⟨w.heap.size, 0, none⟩) b.size (grownCap w b.size 0 e)) (by simp only [execOp, ho, hp, Sem.run_bind, hr, Result.andThen_ok, Sem.run_pure]) (hk _ _ _ ?_ hok hE fun id hid => .inl hid)
  refine ⟨_, _, rfl, grownCap_ge w b.size 0 e, ?_⟩
  refine .inr ⟨w.heap.size, 0, rfl, .inr rfl, VRc_get.2 fun j d hj => ?_⟩
  have hjl : j < b.size := by
    have := (List.getElem?_eq_some_iff.1 hj).1
    simpa [pb] using this
  have hcell := Lib.bytesWorld_cell w e b j hjl
  rw [Nat.zero_add]
  refine ⟨_, hcell, ?_⟩
  have hjl' : j < b.data.toList.length := by simpa using hjl
  simp only [pb, List.getElem?_map, List.getElem?_eq_getElem hjl', Option.map_some, Option.some.injEq] at hj
  subst hj
  refine ⟨?_, rfl⟩
  simp [List.getD_eq_getElem?_getD, List.getElem?_eq_getElem hjl']

/-! ### copy -/
theorem snd_copy {sz : Nat} {x y : Opd} {x' y' : Operand} {t u : TypeId} (ho : o.op = .call { callee := .builtin .copy, args := #[x', y'], argTypes := #[t, u] }) (hx : x.fits x' = true) (hy : y.fits y' = true) (hf : idxaFits P t sz = true) (wf : s.wf)
    (h : (AOp.copy sz x y).eff P s K) : ∃ e, Does P o (x.looks ++ y.looks) s e ∧ K e := by
  obtain ⟨e, hu, hsz⟩ := idxaFits_some hf
  obtain ⟨d, hd, h⟩ := asC_some h
  obtain ⟨v, hvv, h⟩ := asC_some h
  obtain ⟨m, cs, rd, h, hl, hrd, hsrc⟩ := cellsOf_some wf h
  cases d with
  | ref id off n z =>
    have h := andN_iff.1 h
    obtain ⟨rfl, h⟩ := h
    obtain ⟨ob, hob, hle, hK⟩ := someL_some h
    refine ⟨_, ?_, hK⟩
    intro X w a h0 K Q he ok hacc hfr hk
    have hdv := ev_sound (w := w) (X := X) (a := a) hx (fun t ht => he t (by simp [ht])) hd
    have hsv := ev_sound (w := w) (X := X) (a := a) hy (fun t ht => he t (by simp [ht])) hvv
    obtain ⟨A, cap, hp, hn, hA⟩ := hsrc X w h0 _ ok (fun i hi hlt => hacc i (by simp [Eff.acc, hi]) hlt) hsv
    have hid : h0 id = some ob := by rw [hacc id (by simp [Eff.acc]) (wf id ob hob)]; exact hob
    obtain ⟨hdm, hdv⟩ := hdv
    have hmin : Nat.min m n = min m n := rfl
    -- nothing is copied
    have none_ : min m n = 0 → ∀ D dc, a.eval x' = .slice D n dc → (∀ ad, D = some ad → ad.spot = none) →
        (execOp a.eval o).run P w = .ok (.value (.int .i64 (0 : Nat))) w := by
      intro h0' D dc hdp hsp
      have hfc : (Builtin.firstCells z 0 (a.eval y')).run P w = .ok #[] w := by
        rw [hp]
        cases A with
        | none => rfl
        | some ad => simp [Builtin.firstCells, loadCells, loadCellsFrom]
      have hlen : (Builtin.lenOf (a.eval y')).run P w = .ok m w := by rw [hp]; rfl
      cases D with
      | none => simp [execOp, ho, resolve, invoke, builtin, hdp, Builtin.copy_, run_underlying hu, hlen, run_sizeOf' hsz, hmin, h0', hfc, goInt]
      | some ad => simp [execOp, ho, resolve, invoke, builtin, hdp, Builtin.copy_, run_underlying hu, hlen, run_sizeOf' hsz, hmin, h0', hfc, goInt, storeCells]
    have same : min m n = 0 → (h0.upd [(id, some ⟨ob.e, ob.xs.take off ++ cs.take (min m n * z) ++ ob.xs.drop (off + min m n * z)⟩)]) = h0 := by
      intro h0'
      funext i
      simp only [Hp.upd, Hp.set, h0']
      split
      · rename_i hi; subst hi; rw [hid]; simp
      · rfl
    rcases hdv with ⟨hmu, rfl, hdp⟩ | ⟨b, off', dcap, hmu, hdp, hdn, hdcm, hoff, hcc⟩
    · have hm0 : min m 0 = 0 := by omega
      have hr := none_ hm0 _ _ hdp (by simp)
      refine wp_value hr (hk _ _ X ⟨by rw [hm0], rfl⟩ ?_ ?_ fun i hi => .inl hi)
      · rw [same hm0]; exact ok
      · rw [same hm0]; exact Evol.refl _ _ _
    · rcases Nat.eq_zero_or_pos (min m n) with hm0 | hm0
      · have hr := none_ hm0 _ _ hdp (by simp)
        refine wp_value hr (hk _ _ X ⟨by rw [hm0], rfl⟩ ?_ ?_ fun i hi => .inl hi)
        · rw [same hm0]; exact ok
        · rw [same hm0]; exact Evol.refl _ _ _
      · have hoff' : off' = off := by rcases hoff with h4 | h4 <;> omega
        subst hoff'
        obtain ⟨b2, q, rfl, hc⟩ : ∃ b q, A = some ⟨b, q, none⟩ ∧ CellsAt w X b q cs := by
          rcases hA with ⟨_, h5⟩ | ⟨h5, _⟩ | h5
          · omega
          · omega
          · exact h5
        obtain ⟨us, hul, huc, huv⟩ := (hc.takeN (min m n * z)).vals
        have hk1 : min m n * z ≤ m * z := Nat.mul_le_mul_right _ (by omega)
        have hk2 : min m n * z ≤ n * z := Nat.mul_le_mul_right _ (by omega)
        have hlen : us.length = min m n * z := by rw [hul, List.length_take, hl]; omega
        have hload := run_loadCells_list (P := P) w ⟨b2, q, none⟩ us fun j v hj => by rw [Addr.add_lit]; exact huc j v hj
        rw [hlen] at hload
        obtain ⟨c, hcb, hcl, hcv⟩ := (ok.obj id ob hid).row hmu
        have hst := run_storeCells_at P b off' ob.e us 0 c w hcb (by rw [hlen]; omega) huv.one
        simp only [Nat.add_zero, hlen] at hst
        have hlen2 : ((c.toList.take off' ++ us ++ c.toList.drop (off' + min m n * z)).toArray).size = c.size := by simp; omega
        obtain ⟨h1, h2⟩ := ok.write hid hmu hcb hlen2 (xs := ob.xs.take off' ++ cs.take (min m n * z) ++ ob.xs.drop (off' + min m n * z)) (by rw [hlen2]; simp; omega) (by
          have e1 : (ob.xs.take off' ++ cs.take (min m n * z) ++ ob.xs.drop (off' + min m n * z)).length = ob.xs.length := by simp; omega
          rw [e1]
          have e2 : (c.toList.take off' ++ us ++ c.toList.drop (off' + min m n * z)).take ob.xs.length = (c.toList.take ob.xs.length).take off' ++ us ++ (c.toList.take ob.xs.length).drop (off' + min m n * z) := by
            rw [List.take_append, List.take_append, List.take_take, List.drop_take]
            have e4 : (c.toList.take off').length = off' := by simp; omega
            congr 1
            · congr 1
              · rw [List.take_take, Nat.min_comm]
              · rw [List.take_of_length_le]; omega
            · congr 1; simp only [List.length_append, hlen, e4]
          simp only []
          rw [e2]
          exact ((hcv.takeN off').append huv).append (hcv.dropN _))
        have hlenS : (Builtin.lenOf (a.eval y')).run P w = .ok m w := by rw [hp]; rfl
        have hfc : (Builtin.firstCells z (min m n) (a.eval y')).run P w = .ok us.toArray w := by rw [hp]; simp [Builtin.firstCells, hload]
        refine wp_value (v := .int .i64 (min m n : Nat)) (w' := w.setRow b (c.toList.take off' ++ us ++ c.toList.drop (off' + min m n * z)).toArray) ?_ (hk _ _ X ⟨rfl, rfl⟩ h1 h2 fun i hi => .inl hi)
        simp [execOp, ho, resolve, invoke, builtin, hdp, Builtin.copy_, run_underlying hu, hlenS, run_sizeOf' hsz, hmin, hfc, goInt, hst]
  | p => exact h.elim
  | ptr => exact h.elim

end
end Go.Proofs.Ytjieenfbfckafaa.Am

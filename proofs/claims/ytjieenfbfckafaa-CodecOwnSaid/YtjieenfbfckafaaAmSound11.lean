/- The operations' effects are the model's: bytes of a constant string, the greater and the smaller of two. -/
import Derived.Test.YtjieenfbfckafaaAmSound10
namespace Go.Proofs.Ytjieenfbfckafaa.Am
open Go
set_option linter.unusedVariables false
set_option linter.unusedSimpArgs false

theorem freeze_other (w : World) (b n k m : Nat) (h : k ≠ b) : (w.freeze ⟨b, n, none⟩ m).heap[k]? = w.heap[k]? := by
  unfold World.freeze
  split
  · rfl
  · simp only [Array.getElem?_modify]
    rw [if_neg (fun e => h e.symm)]
theorem freeze_at (w : World) (b n : Nat) {c : Array Value} {e : TypeId} (h : w.heap[b]? = some (.cells c e (0, 0))) : (w.freeze ⟨b, n, none⟩ 1).heap[b]? = some (.cells c e (n, n + 1)) := by
  unfold World.freeze
  rw [if_neg (by decide)]
  simp only [Array.getElem?_modify, if_true, h]
  rfl
theorem freeze_size (w : World) (b n m : Nat) : (w.freeze ⟨b, n, none⟩ m).heap.size = w.heap.size := by
  unfold World.freeze
  split <;> simp
theorem freeze_rest (w : World) (b n m : Nat) : (w.freeze ⟨b, n, none⟩ m).os = w.os ∧ (w.freeze ⟨b, n, none⟩ m).tape = w.tape ∧ (w.freeze ⟨b, n, none⟩ m).output = w.output := by
  unfold World.freeze
  split <;> exact ⟨rfl, rfl, rfl⟩

/-- An object that is marked stays as it is. -/
theorem HeapOk.mark {w : World} {X : Ctx} {h : Hp} (ok : HeapOk w X h) {id b n : Nat} {o : Ob} {c : Array Value} (ho : h id = some o) (hm : X.mu id = some b) (hb : w.heap[b]? = some (.cells c o.e (0, 0))) :
    Keeps X w (X.stay b) (w.freeze ⟨b, n, none⟩ 1) ∧ HeapOk (w.freeze ⟨b, n, none⟩ 1) (X.stay b) (h.del id) ∧ Evol X w h (X.stay b) (w.freeze ⟨b, n, none⟩ 1) (h.del id) := by
  have hother : ∀ k, k ≠ b → (w.freeze ⟨b, n, none⟩ 1).heap[k]? = w.heap[k]? := fun k hk => freeze_other w b n k 1 hk
  have hsame := freeze_at w b n hb
  have hcnt : ∀ k, cellCount (w.freeze ⟨b, n, none⟩ 1) k = cellCount w k := fun k => by
    by_cases hk : k = b
    · subst hk; rw [cellCount_of hsame, cellCount_of hb]
    · exact cellCount_congr (hother k hk)
  have hnI : ¬ X.I b := ok.notI id o b ho hm
  have K : Keeps X w (X.stay b) (w.freeze ⟨b, n, none⟩ 1) := ⟨fun _ h => .inl h, fun k hk => hother k (fun e => hnI (e ▸ hk)), fun _ h => ⟨h, rfl⟩, fun k _ => hcnt k⟩
  have hbs : b < w.heap.size := cellCount_lt hb
  obtain ⟨r1, r2, r3⟩ := freeze_rest w b n 1
  refine ⟨K, ⟨?_, fun i j x y k hi hj => ok.inj i j x y k (Hp.del_some hi).2 (Hp.del_some hj).2, ?_, ?_⟩,
    ⟨r1, r2, r3, by rw [freeze_size]; exact Nat.le_refl _, ?_, fun k _ => hcnt k, K.dm, K.imm, ?_, fun i x k hx hmi => .inr ⟨i, x, (Hp.del_some hx).2, hmi⟩⟩⟩
  · intro i x hx
    obtain ⟨hne, hx⟩ := Hp.del_some hx
    exact (ok.obj i x hx).mono K fun k hk => hother k fun e => by
      subst e
      exact hne (ok.inj i id x o k hx ho hk hm)
  · intro i x k hi hmi hI
    obtain ⟨hne, hi⟩ := Hp.del_some hi
    rcases hI with hI | rfl
    · exact ok.notI i x k hi hmi hI
    · exact hne (ok.inj i id x o _ hi ho hmi hm)
  · intro k hk
    rw [freeze_size]
    rcases hk with hk | rfl
    · exact ok.ilt k hk
    · exact hbs
  · intro k hk hn
    exact hother k fun e => by subst e; exact hn id o ho hm
  · intro k hk
    rcases hk with hk | rfl
    · exact .inl hk
    · exact .inr (.inr ⟨id, o, ho, hm⟩)

section
variable {P : Program} {o : Oper} {s : S} {K : Eff → Prop}

theorem run_bconv (w : World) {t e : TypeId} {b off n c : Nat} {C : Array Value} (ht : P.underlying t = some (.slice e)) (he : P.underlying e = some (.int .u8)) {e' : TypeId} (hb : w.heap[b]? = some (.cells C e' (0, 0))) :
    (convert t t (.slice (some ⟨b, off, none⟩) n c)).run P w = .ok (.slice (some ⟨b, off, none⟩) n c) (w.freeze ⟨b, C.size, none⟩ 1) := by
  have hsh : w.shape? b = some (e', C.size) := by simp [World.shape?, hb]
  simp [convert, run_underlying ht, run_underlying he, markStringish, hsh]

theorem snd_bconv {x : Opd} {x' : Operand} {t e : TypeId} (ho : o.op = .convert t t x') (ht : P.underlying t = some (.slice e)) (he : P.underlying e = some (.int .u8)) (hx : x.fits x' = true) (wf : s.wf) (h : (AOp.bconv x).eff P s K) :
    ∃ f, Does P o x.looks s f ∧ K f := by
  obtain ⟨d, hd, h⟩ := asC_some h
  cases d with
  | ref id off n z =>
    have h := andN_iff.1 h
    obtain ⟨rfl, h⟩ := h
    obtain ⟨ob, hob, cs, hcs, hpos, hK⟩ := someL_some h
    refine ⟨_, ?_, hK⟩
    intro X w a h0 K Q hev ok hacc hfr hk
    obtain ⟨hdm, hv⟩ := ev_sound (w := w) (X := X) (a := a) hx hev hd
    have hid : h0 id = some ob := by rw [hacc id (by simp [Eff.acc]) (wf id ob hob)]; exact hob
    rcases hv with ⟨_, h2, _⟩ | ⟨b, off', cap, hm, hp, hn, _, hoff, _⟩
    · omega
    · have hob2 := (ok.obj id ob hid).2
      rw [hm] at hob2
      obtain ⟨c, hc, hle, hcell⟩ := hob2
      have hr := run_bconv (P := P) w ht he (off := off') (n := n) (c := cap) hc
      obtain ⟨k1, ok1, ev1⟩ := ok.mark (n := c.size) hid hm hc
      have hoff : off' = off := by
        rcases hoff with h3 | h3
        · omega
        · exact h3
      subst hoff
      refine wp_value (w' := w.freeze ⟨b, c.size, none⟩ 1) (v := .slice (some ⟨b, off', none⟩) n cap) (by simp [execOp, ho, hp, hr]) (hk _ _ (X.stay b) ?_ ok1 ev1 fun i hi => .inl hi)
      refine ⟨_, cap, rfl, hn, .inr ⟨b, off', rfl, .inr rfl, ?_⟩⟩
      rw [VRc_get]
      intro j d hj
      rw [List.getElem?_take] at hj
      split at hj
      · rw [List.getElem?_drop] at hj
        have hjl : off' + j < cs.length := (List.getElem?_eq_some_iff.1 hj).1
        have hlen : cs.length ≤ c.size := by rw [hcs] at hle; simpa using hle
        have hjc : c[off' + j]? = some (c[off' + j]'(by omega)) := Array.getElem?_eq_getElem (by omega)
        refine ⟨c[off' + j]'(by omega), ?_, ?_⟩
        · rw [cell_of_row _ b (off' + j) c ob.e _ (freeze_at w b c.size hc)]; exact hjc
        · have := (hcell (off' + j) (.p d) _ (by rw [hcs, List.getElem?_map, hj]; rfl) hjc).mono k1
          exact this
      · cases hj
  | p x => exact h.elim
  | ptr => exact h.elim

theorem snd_mm {m : Bool} {x y : Opd} {x' y' : Operand} {ts : Array TypeId} (ho : o.op = .call { callee := .builtin (if m then .max else .min), args := #[x', y'], argTypes := ts }) (hx : x.fits x' = true) (hy : y.fits y' = true) (h : (AOp.mm m x y).eff P s K) :
    ∃ f, Does P o (x.looks ++ y.looks) s f ∧ K f := by
  obtain ⟨k, a, ha, h⟩ := asI_some h
  obtain ⟨k', b, hb, h⟩ := asI_some h
  refine pure_v rfl h (fun X w ac he => ?_) |>.imp fun e h => ⟨h.1, h.2.2⟩
  have h1 := tvr_v (ev_sound (w := w) (X := X) (a := ac) hx (fun t ht => he t (by simp [ht])) ha)
  have h2 := tvr_v (ev_sound (w := w) (X := X) (a := ac) hy (fun t ht => he t (by simp [ht])) hb)
  cases m with
  | true =>
    have e : (if b > a then b else a) = max a b := by split <;> omega
    simp [execOp, ho, resolve, invoke, builtin, h1, h2, Builtin.max_, Builtin.max2, e]
  | false =>
    have e : (if b < a then b else a) = min a b := by split <;> omega
    simp [execOp, ho, resolve, invoke, builtin, h1, h2, Builtin.min_, Builtin.min2, e]
end
end Go.Proofs.Ytjieenfbfckafaa.Am

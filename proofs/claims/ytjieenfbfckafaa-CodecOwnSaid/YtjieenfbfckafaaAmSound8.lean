/- The operations' effects are the model's: append. -/
import Derived.Test.YtjieenfbfckafaaAmSound7
import Derived.Lib.AppendStr
namespace Go.Proofs.Ytjieenfbfckafaa.Am
open Go
set_option linter.unusedVariables false
set_option linter.unusedSimpArgs false

section
variable {P : Program} {o : Oper} {s : S} {K : Eff → Prop}

/-- An object of which less is known. -/
theorem HeapOk.less {w : World} {X : Ctx} {h : Hp} (ok : HeapOk w X h) {id : Nat} {ob : Ob} (ho : h id = some ob) (k : Nat) : HeapOk w X (h.set id ⟨ob.e, ob.xs.take k⟩) ∧ Evol X w h X w (h.set id ⟨ob.e, ob.xs.take k⟩) := by
  have hh : ∀ i x, h.set id ⟨ob.e, ob.xs.take k⟩ i = some x → ∃ y, h i = some y := by
    intro i x hx
    rcases Hp.set_some hx with ⟨rfl, rfl⟩ | ⟨hi, hx⟩
    · exact ⟨_, ho⟩
    · exact ⟨_, hx⟩
  refine ⟨⟨?_, ?_, ?_, ok.ilt⟩, ⟨rfl, rfl, rfl, Nat.le_refl _, fun _ _ _ => rfl, fun _ _ => rfl, fun _ hd => ⟨hd, rfl⟩, fun _ hb => hb, fun _ hb => .inl hb, ?_⟩⟩
  · intro i x hx
    rcases Hp.set_some hx with ⟨rfl, rfl⟩ | ⟨hi, hx⟩
    · obtain ⟨h1, h2⟩ := ok.obj _ _ ho
      refine ⟨h1, ?_⟩
      cases hm : X.mu i with
      | none => rw [hm] at h2; simp [h2]
      | some b =>
        rw [hm] at h2
        obtain ⟨c, h3, h4, h5⟩ := h2
        refine ⟨c, h3, by simp; omega, fun j d u hd hu => ?_⟩
        simp only [List.getElem?_take] at hd
        split at hd
        · exact h5 j d u hd hu
        · cases hd
    · exact ok.obj i x hx
  · intro i j x y b hi hj
    obtain ⟨x', hi⟩ := hh i x hi
    obtain ⟨y', hj⟩ := hh j y hj
    exact ok.inj i j x' y' b hi hj
  · intro i x b hi
    obtain ⟨x', hi⟩ := hh i x hi
    exact ok.notI i x' b hi
  · intro i x b hi hm
    obtain ⟨x', hi⟩ := hh i x hi
    exact .inr ⟨i, x', hi, hm⟩

theorem Hp.del_set (h : Hp) (id : Nat) (o : Ob) : (h.set id o).del id = h.del id := by
  funext i
  simp only [Hp.del, Hp.set]
  split <;> rfl

/-- A new row behind a draw. -/
theorem HeapOk.grow {w : World} {X : Ctx} {h : Hp} (ok : HeapOk w X h) {id : Nat} (hid : ¬ X.dm id) {c : Array Value} {e : TypeId} {xs : List DV} (hc : VRds w X xs (c.toList.take xs.length)) (hle : xs.length ≤ c.size) :
    HeapOk (w.drew.alloc (.cells c e)) (X.name id (some w.heap.size)) (h.set id ⟨e, xs⟩) ∧ Evol X w h (X.name id (some w.heap.size)) (w.drew.alloc (.cells c e)) (h.set id ⟨e, xs⟩) := by
  have h1 := ok.drew
  have hc' : VRds w.drew X xs (c.toList.take xs.length) := VRds.mono (w := w) (X := X) (v := w.drew) (Y := X) ⟨fun _ h => h, fun _ _ => rfl, fun _ h => ⟨h, rfl⟩, fun _ _ => rfl⟩ hc
  obtain ⟨h2, h3⟩ := h1.new hid (e := e) hc' hle
  exact ⟨h2, (Evol.drew X w h).trans h3⟩

def appFits (P : Program) (t : TypeId) (e sz bytes : Nat) : Bool :=
  sliceOf P t e && (match P.info? e with
    | some i => decide (i.size = sz) && decide (i.bytes = bytes) && (match i.zero with | some z => decide (z.cells.size = sz) | none => false)
    | none => false) && decide (0 < sz)
theorem appFits_some {t : TypeId} {e sz bytes : Nat} (h : appFits P t e sz bytes = true) : P.underlying t = some (.slice e) ∧ 0 < sz ∧ ∃ i z, P.info? e = some i ∧ i.zero = some z ∧ i.size = sz ∧ i.bytes = bytes ∧ z.cells.size = sz := by
  simp only [appFits, Bool.and_eq_true, decide_eq_true_eq] at h
  obtain ⟨⟨h1, h2⟩, h3⟩ := h
  refine ⟨sliceOf_some h1, h3, ?_⟩
  split at h2
  · rename_i i hi
    simp only [Bool.and_eq_true, decide_eq_true_eq] at h2
    obtain ⟨⟨h4, h5⟩, h6⟩ := h2
    split at h6
    · rename_i z hz
      exact ⟨i, z, hi, hz, h4, h5, by simpa using h6⟩
    · cases h6
  · cases h2

/-- What an append does, to nil and to an object of the call's own. -/
def AppDone (P : Program) (w : World) (X : Ctx) (h0 : Hp) (t u : TypeId) (ty : TypeId) (e sz bytes nw : Nat) (src : Value) (m : Nat) (cs : List DV) : Prop :=
    (m * bytes ≤ 140737488355328 → m ≤ 140737488355328 → ∃ v' w' X', (Builtin.append_ #[t, u] ty #[.slice none 0 0, src]).run P w = .ok v' w' ∧ TVR w' X' (.c (.ref nw 0 m sz)) v' ∧ HeapOk w' X' (h0.set nw ⟨e, cs⟩) ∧ Evol X w h0 X' w' (h0.set nw ⟨e, cs⟩) ∧ ∀ i, X'.dm i → X.dm i ∨ i = nw) ∧
    (∀ id n ob, h0 id = some ob → n * sz ≤ ob.xs.length → ob.e = e → (n + m) * bytes ≤ 140737488355328 → n + m ≤ 140737488355328 → ∀ v, VRd w X (.ref id 0 n sz) v →
      ∃ v' w' X', (Builtin.append_ #[t, u] ty #[v, src]).run P w = .ok v' w' ∧ TVR w' X' (.c (.ref nw 0 (n + m) sz)) v' ∧ HeapOk w' X' ((h0.del id).set nw ⟨e, ob.xs.take (n * sz) ++ cs⟩) ∧ Evol X w h0 X' w' ((h0.del id).set nw ⟨e, ob.xs.take (n * sz) ++ cs⟩) ∧ ∀ i, X'.dm i → X.dm i ∨ i = nw)

/-- What an append does: of the row that is appended to only the cells in use are asked; the source's cells as they are read. -/
theorem append_core {w : World} {X : Ctx} {h0 : Hp} (ok : HeapOk w X h0) {t u e sz bytes : Nat} {ty : TypeId} {nw : Nat} (hid : ¬ X.dm nw) (hf : appFits P t e sz bytes = true)
    (src : Value) (m : Nat) (us : List Value) (cs : List DV) (hlen : us.length = m * sz) (hcs : VRds w X cs us)
    (runNil : 0 < m → m * bytes ≤ 140737488355328 → m ≤ 140737488355328 → ∃ z : Value, z.cells.size = sz ∧ (Builtin.append_ #[t, u] ty #[.slice none 0 0, src]).run P w =
      .ok (.slice (some ⟨w.heap.size, 0, none⟩) m (grownCap w m 0 e)) (w.drew.alloc (.cells (us.toArray ++ Builtin.zeroCells z.cells (grownCap w m 0 e - m)) e)))
    (runSame : m = 0 → ∀ A n cap, n ≤ cap → (∀ ad, A = some ad → True) → (Builtin.append_ #[t, u] ty #[.slice A n cap, src]).run P w = .ok (.slice A n cap) w)
    (runRoom : ∀ g n cap cur, 0 < m → w.heap[g]? = some (.cells cur e (0, 0)) → n + m ≤ cap → n * sz + m * sz ≤ cur.size → (Builtin.append_ #[t, u] ty #[.slice (some ⟨g, 0, none⟩) n cap, src]).run P w =
      .ok (.slice (some ⟨g, 0, none⟩) (n + m) cap) (w.setRow g (cur.toList.take (n * sz) ++ us ++ cur.toList.drop (n * sz + m * sz)).toArray))
    (runGrow : ∀ (b : Addr) n cap (olds : List Value), 0 < m → olds.length = n * sz → (∀ (j : Nat) v, olds[j]? = some v → w.cell? (b.add j) = some v) → cap < n + m → (n + m) * bytes ≤ 140737488355328 → n + m ≤ 140737488355328 → ∃ z : Value, z.cells.size = sz ∧
      (Builtin.append_ #[t, u] ty #[.slice (some b) n cap, src]).run P w =
        .ok (.slice (some ⟨w.heap.size, 0, none⟩) (n + m) (grownCap w (n + m) cap e)) (w.drew.alloc (.cells (olds.toArray ++ us.toArray ++ Builtin.zeroCells z.cells (grownCap w (n + m) cap e - (n + m))) e))) :
    AppDone P w X h0 t u ty e sz bytes nw src m cs := by
  obtain ⟨ht, hsz, _⟩ := appFits_some hf
  have nilCase : ∀ (h1 : Hp), HeapOk w X h1 → Evol X w h0 X w h1 → m * bytes ≤ 140737488355328 → m ≤ 140737488355328 →
      ∃ v' w' X', (Builtin.append_ #[t, u] ty #[.slice none 0 0, src]).run P w = .ok v' w' ∧ TVR w' X' (.c (.ref nw 0 m sz)) v' ∧ HeapOk w' X' (h1.set nw ⟨e, cs⟩) ∧ Evol X w h0 X' w' (h1.set nw ⟨e, cs⟩) ∧ ∀ i, X'.dm i → X.dm i ∨ i = nw := by
    intro h1 ok1 ev1 hb hm
    rcases Nat.eq_zero_or_pos m with h0m | h0m
    · have hr := runSame h0m none 0 0 (Nat.le_refl _) (by simp)
      have hcs0 : cs = [] := List.eq_nil_of_length_eq_zero (by rw [hcs.1, hlen, h0m]; simp)
      subst hcs0
      obtain ⟨h2, h3⟩ := ok1.nil hid e
      refine ⟨_, _, X.name nw none, hr, ⟨Or.inr rfl, Or.inl ⟨Ctx.name_mu_same _ _ _, h0m, rfl⟩⟩, h2, ev1.trans h3, fun i hi => hi⟩
    · obtain ⟨z, hz, hr⟩ := runNil h0m hb hm
      have hge := grownCap_ge w m 0 e
      have hmx := grownCap_le_maxLen w m 0 e (by simp only [maxLen]; omega)
      have hsize : (us.toArray ++ Builtin.zeroCells z.cells (grownCap w m 0 e - m)).size = grownCap w m 0 e * sz := by
        simp only [Array.size_append, List.size_toArray, size_zeroCells, hz, hlen, ← Nat.add_mul]
        congr 1; omega
      have hcl : cs.length = us.length := hcs.1
      have hmul : m * sz ≤ grownCap w m 0 e * sz := Nat.mul_le_mul_right _ hge
      obtain ⟨h2, h3⟩ := ok1.grow hid (c := us.toArray ++ Builtin.zeroCells z.cells (grownCap w m 0 e - m)) (e := e) (xs := cs) (by
        rw [Array.toList_append, hcl]
        simp only [List.take_left]
        exact hcs) (by rw [hsize]; omega)
      refine ⟨_, _, X.name nw (some w.heap.size), hr, ⟨Or.inr rfl, Or.inr ⟨w.heap.size, 0, _, Ctx.name_mu_same _ _ _, rfl, hge, hmx, .inr rfl, ?_⟩⟩, h2, ev1.trans h3, fun i hi => hi⟩
      have hcn := cellCount_of (heap_alloc_new w.drew (.cells (us.toArray ++ Builtin.zeroCells z.cells (grownCap w m 0 e - m)) e))
      simp only [World.size_drew] at hcn
      rw [hcn, hsize]; omega
  refine ⟨fun hb hm => nilCase h0 ok (Evol.refl _ _ _) hb hm, ?_⟩
  intro id n ob hob hn hoe hb hm v hv
  obtain ⟨hdm, hv⟩ := hv
  have hne : id ≠ nw := fun e => hid (e ▸ hdm)
  rcases hv with ⟨hmu, rfl, rfl⟩ | ⟨b, off', cap, hmu, rfl, hncap, hcm, hoff, hcc⟩
  · obtain ⟨hd1, hd2⟩ := ok.del id
    have := nilCase (h0.del id) hd1 hd2 (by simpa using hb) (by simpa using hm)
    simpa using this
  · obtain ⟨c, hcb, hcl, hcv⟩ := (ok.obj id ob hob).row hmu
    have hcnt : cellCount w b = c.size := cellCount_of hcb
    rcases Nat.eq_zero_or_pos m with h0m | h0m
    · have hr := runSame h0m (some ⟨b, off', none⟩) n cap hncap (by simp)
      have hcs0 : cs = [] := List.eq_nil_of_length_eq_zero (by rw [hcs.1, hlen, h0m]; simp)
      subst hcs0
      obtain ⟨h1, h2⟩ := ok.less hob (n * sz)
      obtain ⟨h3, h4⟩ := h1.move (id := id) (id' := nw) (o := ⟨ob.e, ob.xs.take (n * sz)⟩) (by simp [Hp.set]) hid
      rw [Hp.del_set] at h3 h4
      refine ⟨_, _, X.name nw (X.mu id), hr, ⟨Or.inr rfl, Or.inr ⟨b, off', cap, by rw [Ctx.name_mu_same]; exact hmu, by rw [h0m, Nat.add_zero], by omega, hcm, hoff, by omega⟩⟩, ?_, ?_, fun i hi => hi⟩
      · rw [List.append_nil, ← hoe]; exact h3
      · rw [List.append_nil, ← hoe]; exact h2.trans h4
    · have hcap0 : n = 0 ∨ 0 < cap := by omega
      by_cases hroom : n + m ≤ cap
      · have hoff0 : off' = 0 := by rcases hoff with h4 | h4 <;> omega
        subst hoff0
        have hmulcap : (n + m) * sz ≤ cap * sz := Nat.mul_le_mul_right _ hroom
        rw [Nat.add_mul] at hmulcap
        have hfit : n * sz + m * sz ≤ c.size := by omega
        have hr := runRoom b n cap c h0m (by rw [← hoe]; exact hcb) hroom hfit
        have hlen2 : ((c.toList.take (n * sz) ++ us ++ c.toList.drop (n * sz + m * sz)).toArray).size = c.size := by simp; omega
        have hxl : (ob.xs.take (n * sz) ++ cs).length = n * sz + m * sz := by simp [hcs.1, hlen]; omega
        obtain ⟨h1, h2⟩ := ok.write hob hmu hcb hlen2 (xs := ob.xs.take (n * sz) ++ cs) (by rw [hlen2, hxl]; exact hfit) (by
          rw [hxl]
          simp only []
          have e2 : (c.toList.take (n * sz) ++ us ++ c.toList.drop (n * sz + m * sz)).take (n * sz + m * sz) = (c.toList.take ob.xs.length).take (n * sz) ++ us := by
            have e4 : (c.toList.take (n * sz) ++ us).length = n * sz + m * sz := by simp [hlen]; omega
            rw [List.take_left' e4, List.take_take, Nat.min_eq_left hn]
          rw [e2]
          exact (hcv.takeN _).append hcs)
        obtain ⟨h3, h4⟩ := h1.move (id := id) (id' := nw) (o := ⟨ob.e, ob.xs.take (n * sz) ++ cs⟩) (by simp [Hp.set]) hid
        rw [Hp.del_set] at h3 h4
        refine ⟨_, _, X.name nw (X.mu id), hr, ⟨Or.inr rfl, Or.inr ⟨b, 0, cap, by rw [Ctx.name_mu_same]; exact hmu, rfl, hroom, hcm, .inr rfl, ?_⟩⟩, by rw [← hoe]; exact h3, by rw [← hoe]; exact h2.trans h4, fun i hi => hi⟩
        have : cellCount (w.setRow b (c.toList.take (n * sz) ++ us ++ c.toList.drop (n * sz + m * sz)).toArray) b = c.size := by
          rw [cellCount_of (setRow_heap w b c _ ob.e _ hcb), hlen2]
        rw [this]; omega
      · have holds : ∃ olds : List Value, olds.length = n * sz ∧ (∀ (j : Nat) v, olds[j]? = some v → w.cell? ((⟨b, off', none⟩ : Addr).add j) = some v) ∧ VRds w X (ob.xs.take (n * sz)) olds := by
          rcases Nat.eq_zero_or_pos n with hn0 | hn0
          · refine ⟨[], by simp [hn0], by simp, by simp [hn0], by simp⟩
          · have hoff0 : off' = 0 := by rcases hoff with h4 | h4 <;> omega
            subst hoff0
            have hca := (((ok.obj id ob hob).cellsAt hmu 0).takeN (n * sz))
            simp only [List.drop_zero] at hca
            obtain ⟨us', h1, h2, h3⟩ := hca.vals
            exact ⟨us', by rw [h1]; simp; omega, fun j v hj => by rw [Addr.add_lit]; exact h2 j v hj, h3⟩
        obtain ⟨olds, ho1, ho2, ho3⟩ := holds
        obtain ⟨z, hz, hr⟩ := runGrow ⟨b, off', none⟩ n cap olds h0m ho1 ho2 (by omega) hb hm
        have hge := grownCap_ge w (n + m) cap e
        have hmx := grownCap_le_maxLen w (n + m) cap e (by simp only [maxLen]; omega)
        have hsize : (olds.toArray ++ us.toArray ++ Builtin.zeroCells z.cells (grownCap w (n + m) cap e - (n + m))).size = grownCap w (n + m) cap e * sz := by
          simp only [Array.size_append, List.size_toArray, size_zeroCells, hz, ho1, hlen, ← Nat.add_mul]
          congr 1; omega
        have hmulg : (n + m) * sz ≤ grownCap w (n + m) cap e * sz := Nat.mul_le_mul_right _ hge
        have hxl : (ob.xs.take (n * sz) ++ cs).length = (n + m) * sz := by rw [Nat.add_mul]; simp [hcs.1, hlen]; omega
        obtain ⟨hd1, hd2⟩ := ok.del id
        obtain ⟨h2, h3⟩ := hd1.grow hid (c := olds.toArray ++ us.toArray ++ Builtin.zeroCells z.cells (grownCap w (n + m) cap e - (n + m))) (e := e) (xs := ob.xs.take (n * sz) ++ cs) (by
          have e4 : (olds ++ us).length = (n + m) * sz := by rw [Nat.add_mul]; simp [ho1, hlen]
          rw [hxl, Array.toList_append, Array.toList_append]
          rw [List.take_left' (by simpa using e4)]
          simpa using ho3.append hcs) (by rw [hsize, hxl]; exact hmulg)
        refine ⟨_, _, X.name nw (some w.heap.size), hr, ⟨Or.inr rfl, Or.inr ⟨w.heap.size, 0, _, Ctx.name_mu_same _ _ _, rfl, hge, hmx, .inr rfl, ?_⟩⟩, h2, hd2.trans h3, fun i hi => hi⟩
        have hcn := cellCount_of (heap_alloc_new w.drew (.cells (olds.toArray ++ us.toArray ++ Builtin.zeroCells z.cells (grownCap w (n + m) cap e - (n + m))) e))
        simp only [World.size_drew] at hcn
        rw [hcn, hsize]; omega

theorem run_append_same {w : World} {t u e : TypeId} {ty : TypeId} {sz : Nat} (ht : P.underlying t = some (.slice e)) (hs : (P.info? e).map (·.size) = some sz) (huu : (∃ e', P.underlying u = some (.slice e')) ∨ P.underlying u = some .string)
    {src : Value} (hl : ∀ w, (Builtin.lenOf src).run P w = .ok 0 w) (hfc : ∀ w, (Builtin.firstCells sz 0 src).run P w = .ok #[] w) (A : Option Addr) (n cap : Nat) (hn : n ≤ cap) :
    (Builtin.append_ #[t, u] ty #[.slice A n cap, src]).run P w = .ok (.slice A n cap) w := by
  rcases huu with ⟨e', hd⟩ | hd <;> cases A <;> simp [Builtin.append_, run_underlying ht, run_underlying hd, run_sizeOf' hs, hl, hfc, hn, storeCells]

end
end Go.Proofs.Ytjieenfbfckafaa.Am

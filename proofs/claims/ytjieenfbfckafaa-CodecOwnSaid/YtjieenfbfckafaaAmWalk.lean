/- What a walk of the abstract machine uses: calls, bytes. -/
import Derived.Test.YtjieenfbfckafaaAmFun
namespace Go.Proofs.Ytjieenfbfckafaa.Am
open Go
set_option linter.unusedVariables false
set_option linter.unusedSimpArgs false

/-- A call that hands over no object and gives none back. -/
theorem call_pure {P : Program} {s : S} {nx f : Nat} {ds args : List TV} {r : TV} {K : Eff → Prop} (hm : Meets P f ⟨args, [], 0, r, [], 0⟩) (ha : ∀ f, TV.rens f args = args) (hr : ∀ f, r.ren f = r) (hs : Subs ds args) (k : K ⟨r, [], [], 1⟩) : CallOk P s nx f ds K := by
  refine ⟨⟨_, [], hm, rfl, List.nodup_nil, Nat.le_refl _, fun p hp => by simp at hp, fun p hp => by simp at hp, List.nodup_nil, ?_, fun j hj => by simp at hj, ?_⟩⟩
  · rw [ha]; exact hs
  · rw [hr]; exact k

def keysBelow (k : Nat) : List (Nat × Ob) → Bool
  | [] => true
  | (i, _) :: r => Nat.blt i k && (r.all fun p => !(Nat.beq p.1 i)) && keysBelow k r
theorem keysBelow_spec {k : Nat} : ∀ {l : List (Nat × Ob)}, keysBelow k l = true → (∀ p ∈ l, p.1 < k) ∧ (l.map (·.1)).Nodup
  | [], _ => ⟨fun p hp => by simp at hp, List.nodup_nil⟩
  | (i, o) :: r, h => by
    simp only [keysBelow, Bool.and_eq_true, List.all_eq_true, Bool.not_eq_true'] at h
    obtain ⟨⟨h1, h2⟩, h3⟩ := h
    obtain ⟨h4, h5⟩ := keysBelow_spec h3
    have h1 : i < k := by simpa [Nat.blt_eq] using h1
    refine ⟨fun p hp => ?_, ?_⟩
    · rcases List.mem_cons.1 hp with rfl | hp
      · exact h1
      · exact h4 p hp
    · rw [List.map_cons, List.nodup_cons]
      refine ⟨fun hm => ?_, h5⟩
      obtain ⟨q, hq, e⟩ := List.mem_map.1 hm
      have := Nat.ne_of_beq_eq_false (h2 q hq)
      exact this e
def distinct : List Nat → Bool
  | [] => true
  | i :: r => (r.all fun j => !(Nat.beq j i)) && distinct r
theorem distinct_spec : ∀ {l : List Nat}, distinct l = true → l.Nodup
  | [], _ => List.nodup_nil
  | i :: r, h => by
    simp only [distinct, Bool.and_eq_true, List.all_eq_true, Bool.not_eq_true'] at h
    refine List.nodup_cons.2 ⟨fun hm => ?_, distinct_spec h.2⟩
    exact Nat.ne_of_beq_eq_false (h.1 i hm) rfl
/-- The objects that are handed over. -/
def Handed (s : S) (F : Nat → Nat) (hp : List (Nat × Ob)) : Nat → List Nat → Prop
  | _, [] => True
  | j, i :: sg => (∃ o, look hp j = some o ∧ look s.hp i = some (o.ren F)) ∧ Handed s F hp (j + 1) sg
theorem Handed.spec {s : S} {F : Nat → Nat} {hp : List (Nat × Ob)} : ∀ {sg : List Nat} {n : Nat}, Handed s F hp n sg → ∀ j, j < sg.length → look s.hp (sg.getD j 0) = (look hp (n + j)).map (Ob.ren F) ∧ (look hp (n + j)).isSome
  | [], n, _, j, hj => by simp at hj
  | i :: sg, n, h, j, hj => by
    obtain ⟨⟨o, h1, h2⟩, h3⟩ := h
    cases j with
    | zero => simp [h1, h2]
    | succ j =>
      have := h3.spec j (by simpa using hj)
      rw [show n + 1 + j = n + (j + 1) by omega] at this
      simpa using this
/-- A call in general. -/
theorem call_ok {P : Program} {s : S} {nx f : Nat} {ds args : List TV} {hp : List (Nat × Ob)} {k : Nat} {r : TV} {hp' : List (Nat × Ob)} {k' : Nat} {K : Eff → Prop} (sg : List Nat) (hm : Meets P f ⟨args, hp, k, r, hp', k'⟩)
    (hc : (Nat.beq k sg.length && Nat.ble k k' && distinct sg && keysBelow k hp && keysBelow k' hp') = true)
    (hs : Subs ds (TV.rens (nameOf sg nx (k' - k)) args)) (hh : Handed s (nameOf sg nx (k' - k)) hp 0 sg)
    (hK : K ⟨r.ren (nameOf sg nx (k' - k)), sg, sg.map (fun i => (i, none)) ++ hp'.map (fun p => (nameOf sg nx (k' - k) p.1, some (p.2.ren (nameOf sg nx (k' - k))))), k' - k + 1⟩) : CallOk P s nx f ds K := by
  simp only [Bool.and_eq_true] at hc
  obtain ⟨⟨⟨⟨h1, h2⟩, h3⟩, h4⟩, h5⟩ := hc
  have h1 : k = sg.length := Nat.eq_of_beq_eq_true h1
  refine ⟨⟨_, sg, hm, h1, distinct_spec h3, Nat.le_of_ble_eq_true h2, (keysBelow_spec h4).1, (keysBelow_spec h5).1, (keysBelow_spec h5).2, hs, fun j hj => ?_, hK⟩⟩
  have hj : j < k := hj
  have := hh.spec j (by omega)
  rwa [Nat.zero_add] at this

/-! ### Bytes -/
theorem pb_length (l : List UInt8) : (pb l).length = l.length := by simp [pb]
theorem pb_append (a b : List UInt8) : pb (a ++ b) = pb a ++ pb b := by simp [pb]
theorem pb_take (l : List UInt8) (n : Nat) : (pb l).take n = pb (l.take n) := by simp [pb, List.map_take]
theorem pb_drop (l : List UInt8) (n : Nat) : (pb l).drop n = pb (l.drop n) := by simp [pb, List.map_drop]
theorem map_ren_p (f : Nat → Nat) (cs : List PV) : (cs.map DV.p).map (DV.ren f) = cs.map DV.p := by simp [DV.ren]
theorem map_frz_p (id : Nat) (xs cs : List PV) : (cs.map DV.p).map (DV.frz id xs) = cs.map DV.p := by simp [DV.frz]
theorem zerosP_u8 : ∀ n, zerosP [.int .u8 0] n = pb (List.replicate n 0)
  | 0 => rfl
  | n + 1 => by simp [zerosP, zerosP_u8 n, pb, List.replicate_succ, pb1]
theorem pb_inj : ∀ {a b : List UInt8}, pb a = pb b → a = b
  | [], [], _ => rfl
  | x :: a, y :: b, h => by
    simp only [pb, List.map_cons, List.cons.injEq, pb1, PV.v.injEq, Value.int.injEq, true_and, Int.natCast_inj] at h
    rw [UInt8.toNat_inj.1 h.1, pb_inj h.2]
  | [], _ :: _, h => by simp [pb] at h
  | _ :: _, [], h => by simp [pb] at h
theorem map_p_inj : ∀ {a b : List PV}, a.map DV.p = b.map DV.p → a = b
  | [], [], _ => rfl
  | x :: a, y :: b, h => by simp only [List.map_cons, List.cons.injEq, DV.p.injEq] at h; rw [h.1, map_p_inj h.2]
  | [], _ :: _, h => by simp at h
  | _ :: _, [], h => by simp at h
theorem mp_append (x y : List UInt8) : (pb x).map DV.p ++ (pb y).map DV.p = (pb (x ++ y)).map DV.p := by simp [pb]
theorem mp_take (x : List UInt8) (n : Nat) : ((pb x).map DV.p).take n = (pb (x.take n)).map DV.p := by simp [pb, List.map_take]
theorem mp_drop (x : List UInt8) (n : Nat) : ((pb x).map DV.p).drop n = (pb (x.drop n)).map DV.p := by simp [pb, List.map_drop]
theorem mp_cut (x : List UInt8) (m n : Nat) : ((((pb x).drop m).take n)).map DV.p = (pb ((x.drop m).take n)).map DV.p := by simp [pb, List.map_take, List.map_drop]
theorem mp_length (x : List UInt8) : ((pb x).map DV.p).length = x.length := by simp [pb]
theorem zeros_u8 (n : Nat) : zeros [.int .u8 0] n = (pb (List.replicate n 0)).map DV.p := by rw [zeros_P, zerosP_u8]
theorem toNat_add' (a b : Nat) : ((a : Int) + (b : Int)).toNat = a + b := by omega
theorem toNat_sub' (a b : Nat) : ((a : Int) - (b : Int)).toNat = a - b := by omega
/-- A nil slice is an empty one. -/
theorem nil_val (w : World) (X : Ctx) (u : Value) (h : VRp w X.I (.v (.slice none 0 0)) u) : VRp w X.I (.val 0 []) u := by
  obtain ⟨rfl, _⟩ := h
  exact ⟨none, 0, rfl, Nat.le_refl _, .inl ⟨rfl, rfl⟩⟩
theorem RetOk.pure' {p nx : Nat} {hp : List (Nat × Ob)} {q r : TV} (hr : ∀ f, r.ren f = r) (h : Sub q r) : RetOk p ⟨[(0, q)], hp, nx⟩ r [] p := RetOk.pure (by rw [hr]; exact h)
/-- Cell by cell the same, or nil where an empty slice is asked for. -/
def cellSub : List DV → List DV → Prop
  | [], [] => True
  | a :: as, b :: bs => (a = b ∨ (a = .p (.v (.slice none 0 0)) ∧ b = .p (.val 0 []))) ∧ cellSub as bs
  | _, _ => False
theorem cellSub.get {w : World} {X : Ctx} : ∀ {as bs : List DV} {us : List Value}, cellSub as bs → VRds w X as us → VRds w X bs us
  | [], [], us, _, h => h
  | a :: as, b :: bs, us, hs, h => by
    obtain ⟨hl, hh⟩ := h
    match us, hl with
    | u :: us, hl =>
      have h0 := hh 0 a u rfl rfl
      have hr : VRds w X as us := ⟨by simpa using hl, fun j d v hd hv => hh (j + 1) d v (by simpa using hd) (by simpa using hv)⟩
      obtain ⟨h1, h2⟩ := cellSub.get hs.2 hr
      refine ⟨by simp [h1], fun j d v hd hv => ?_⟩
      cases j with
      | zero =>
        simp only [List.getElem?_cons_zero, Option.some.injEq] at hd hv
        subst hd; subst hv
        rcases hs.1 with rfl | ⟨rfl, rfl⟩
        · exact h0
        · exact nil_val w X u h0
      | succ j => exact h2 j d v (by simpa using hd) (by simpa using hv)
  | [], _ :: _, _, hs, _ => hs.elim
  | _ :: _, [], _, hs, _ => hs.elim
theorem sub_agg {as bs : List DV} (h : cellSub as bs) : Sub (.agg as) (.agg bs) := fun w X u ⟨cs, h1, h2⟩ => ⟨cs, h1, h.get h2⟩
theorem sub_val {n m : Nat} {x y : List PV} (h : n = m) (h' : x = y) : Sub (.c (.p (.val n x))) (.c (.p (.val m y))) := by subst h; subst h'; exact Sub.refl _
theorem or_val {n m : Nat} {x y : List PV} {q : Prop} (h : n = m) (h' : x = y) : DV.p (.val n x) = DV.p (.val m y) ∨ q := by subst h; subst h'; exact .inl rfl
theorem sub_bool {a b : Bool} (h : a = true ↔ b = true) : Sub (.c (.p (.v (.bool a)))) (.c (.p (.v (.bool b)))) := by rw [Bool.eq_iff_iff.2 h]; exact Sub.refl _
theorem sub_nil : Sub (.c (.p (.v (.slice none 0 0)))) (.c (.p (.val 0 []))) := fun w X u h => nil_val w X u h
theorem sub_tup : ∀ {as bs : List TV}, Subs as bs → Sub (.tup as) (.tup bs) := fun {as bs} h w X u ⟨vs, h1, h2⟩ => by
  have key : ∀ (as bs : List TV) (us : List Value), Subs as bs → TVRs w X as us → TVRs w X bs us := by
    intro as
    induction as with
    | nil => intro bs us hs h; cases bs with
             | nil => exact h
             | cons => exact hs.elim
    | cons a as ih => intro bs us hs h; cases bs with
                      | nil => exact hs.elim
                      | cons b bs =>
                        obtain ⟨u, r, e, h3, h4⟩ := h
                        exact ⟨u, r, e, hs.1 w X u h3, ih bs r hs.2 h4⟩
  exact ⟨vs, h1, key as bs vs.toList h h2⟩
end Go.Proofs.Ytjieenfbfckafaa.Am

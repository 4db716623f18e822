/- Words for values, and how arguments of a law are opened. -/
import Derived.Test.YtjieenfbfckafaaAmOpen
namespace Go.Proofs.Ytjieenfbfckafaa.Am
open Go
set_option linter.unusedVariables false
set_option linter.unusedSimpArgs false

abbrev bs (s : List UInt8) : DV := .p (.val s.length (pb s))
abbrev vb (b : Bool) : TV := .c (.p (.v (.bool b)))
abbrev vi (n : Int) : TV := .c (.p (.v (.int .i64 n)))
abbrev pi (n : Int) : PV := .v (.int .i64 n)
abbrev di (n : Int) : DV := .p (.v (.int .i64 n))
abbrev ps (s : ByteArray) : PV := .v (.string s)
abbrev pbs (s : List UInt8) : PV := .val s.length (pb s)

abbrev rInt : RT := .int .i64
abbrev rByte : RT := .int .u8
abbrev rBytes : RT := .slice (.int .u8)
def inI64 (n : Int) : Prop := -9223372036854775808 ≤ n ∧ n ≤ 9223372036854775807

theorem isAll_cons {r : RT} {rs : List RT} {pss : List (List PV)} (h : IsAll (r :: rs) pss) : ∃ p qs, pss = p :: qs ∧ r.Is p ∧ IsAll rs qs := by
  match pss, h with
  | p :: qs, h => exact ⟨p, qs, rfl, h.1, h.2⟩
theorem isAll_nil {pss : List (List PV)} (h : IsAll [] pss) : pss = [] := by
  match pss, h with
  | [], _ => rfl
theorem is_int {cs : List PV} (h : RT.Is rInt cs) : ∃ n, cs = [pi n] ∧ inI64 n := by
  obtain ⟨n, rfl, h⟩ := h
  exact ⟨n, rfl, by simpa [inI64, IntKind.min, IntKind.max, IntKind.signed, IntKind.bits] using h⟩
theorem is_byte {cs : List PV} (h : RT.Is rByte cs) : ∃ b : UInt8, cs = [pb1 b] := by
  obtain ⟨n, rfl, h1, h2⟩ := h
  have h1 : 0 ≤ n := by simpa [IntKind.min, IntKind.signed] using h1
  have h2 : n ≤ 255 := by simpa [IntKind.max, IntKind.signed, IntKind.bits] using h2
  refine ⟨UInt8.ofNat n.toNat, ?_⟩
  unfold pb1
  rw [UInt8.toNat_ofNat_of_lt' (by show n.toNat < 256; omega)]
  congr 3
  omega
theorem chunks_bytes : ∀ {n : Nat} {xs : List PV}, Chunks rByte.Is n xs → ∃ l : List UInt8, l.length = n ∧ xs = pb l
  | 0, xs, h => ⟨[], rfl, h⟩
  | n + 1, xs, ⟨a, r, h1, h2, h3⟩ => by
    obtain ⟨b, rfl⟩ := is_byte h2
    obtain ⟨l, hl, rfl⟩ := chunks_bytes h3
    exact ⟨b :: l, by simp [hl], by rw [h1]; rfl⟩
theorem is_bytes {cs : List PV} (h : RT.Is rBytes cs) : ∃ l : List UInt8, cs = [pbs l] ∧ l.length ≤ 9223372036854775807 := by
  obtain ⟨n, xs, rfl, hn, hc⟩ := h
  obtain ⟨l, rfl, rfl⟩ := chunks_bytes hc
  exact ⟨l, rfl, by simpa [maxLen] using hn⟩
theorem is_str {cs : List PV} (h : RT.Is .str cs) : ∃ s : ByteArray, cs = [ps s] ∧ s.size ≤ 9223372036854775807 := by
  obtain ⟨s, rfl, h⟩ := h
  exact ⟨s, rfl, by simpa [maxLen] using h⟩
/-- A list of things, each of which is laid in so many cells. -/
theorem chunks_list {α : Type} {Q : List PV → Prop} {f : α → List PV} {R : α → Prop} (h : ∀ cs, Q cs → ∃ a, cs = f a ∧ R a) : ∀ {n : Nat} {xs : List PV}, Chunks Q n xs → ∃ l : List α, l.length = n ∧ xs = l.flatMap f ∧ ∀ a ∈ l, R a
  | 0, xs, h' => ⟨[], rfl, h', fun a ha => by simp at ha⟩
  | n + 1, xs, ⟨x, r, h1, h2, h3⟩ => by
    obtain ⟨a, rfl, ha⟩ := h x h2
    obtain ⟨l, hl, rfl, hr⟩ := chunks_list h h3
    refine ⟨a :: l, by simp [hl], by rw [h1]; rfl, fun b hb => ?_⟩
    rcases List.mem_cons.1 hb with rfl | hb
    · exact ha
    · exact hr b hb

/-! ### Loops -/
/-- A loop through states of a family, with a measure. -/
theorem loop_fam {P : Program} {p : Nat} {x : ACode} {Q : Exit → S → Prop} {s : S} {ι : Type} (σ : ι → S) (μ : ι → Nat) (inv : ι → Prop) (i0 : ι) (h0 : Wk p s (σ i0)) (hi : inv i0)
    (round : ∀ i, inv i → ∀ K : S → Prop, (∀ env hp nx j, inv j → μ j < μ i → Wk p ⟨env, hp, nx⟩ (σ j) → K ⟨env, hp, nx⟩) → aw P p x (thenA K Q) (σ i)) :
    ∃ (I : Nat → S → Prop) (n : Nat) (s0 : S), Wk p s s0 ∧ I n s0 ∧ ∀ n s, I n s → aw P p x (thenA (fun s' => ∃ n' s'', n' < n ∧ Wk p s' s'' ∧ I n' s'') Q) s := by
  refine ⟨fun n s => ∃ i, inv i ∧ μ i = n ∧ s = σ i, μ i0, σ i0, h0, ⟨i0, hi, rfl, rfl⟩, ?_⟩
  rintro n s ⟨i, hi, rfl, rfl⟩
  exact round i hi _ fun env hp nx j hij hj hw => ⟨μ j, σ j, hj, hw, j, hij, rfl, rfl⟩
/-- The state as it is, less what is not looked at any more: no objects. -/
theorem wk_env {p : Nat} {env env' : List (Nat × TV)} {hp : List (Nat × Ob)} {nx nx' : Nat} (hp' : p ≤ nx') (h : EnvRen (oldOf p nx []) env env') : Wk p ⟨env, hp, nx⟩ ⟨env', [], nx'⟩ :=
  Wk.names (s := ⟨env, hp, nx⟩) (s' := ⟨env', [], nx'⟩) [] rfl hp' h trivial
theorem envRen_cons {f : Nat → Nat} {env r : List (Nat × TV)} {t : Nat} {d : TV} (h : SubO (look env t) (d.ren f)) (h' : EnvRen f env r) : EnvRen f env ((t, d) :: r) := ⟨h, h'⟩
theorem sub_int {k : IntKind} {a b : Int} (h : a = b) : Sub (.c (.p (.v (.int k a)))) (.c (.p (.v (.int k b)))) := by subst h; exact Sub.refl _
theorem elem_at {α : Type} {f : α → List PV} {sz : Nat} (hf : ∀ a, (f a).length = sz) {l : List α} {k : Nat} {a : α} (h : l[k]? = some a) : ((l.flatMap f).drop (k * sz)).take sz = f a := by
  induction l generalizing k with
  | nil => simp at h
  | cons x l ih =>
    cases k with
    | zero =>
      simp at h; subst h
      rw [List.flatMap_cons, Nat.zero_mul, List.drop_zero, List.take_append_of_le_length (by rw [hf]; exact Nat.le_refl _), List.take_of_length_le (by rw [hf]; exact Nat.le_refl _)]
    | succ k =>
      have := ih (k := k) (by simpa using h)
      rw [List.flatMap_cons, Nat.add_mul, Nat.one_mul, Nat.add_comm (k * sz) sz, ← List.drop_drop, show (f x ++ List.flatMap f l).drop sz = l.flatMap f by rw [List.drop_append_of_le_length (by rw [hf]; exact Nat.le_refl _), List.drop_eq_nil_of_le (by rw [hf]; exact Nat.le_refl _), List.nil_append]]
      exact this
theorem elem_at' {α : Type} {f : α → List PV} {sz : Nat} (hf : ∀ a, (f a).length = sz) {l : List α} {k : Nat} {a : α} (h : l[k]? = some a) : ((l.flatMap f).drop (Int.toNat (k : Int) * sz)).take sz = f a := elem_at hf h

/-! ### Bytes of an own object -/
abbrev dbs (l : List UInt8) : List DV := (pb l).map DV.p
theorem dbs_cut (x : List UInt8) (m n : Nat) : ((dbs x).drop m).take n = (pb ((x.drop m).take n)).map DV.p := by simp [dbs, pb, List.map_take, List.map_drop]
theorem dbs_app (a b : List UInt8) (n : Nat) (h : a.length = n) : (dbs a).take (n * 1) ++ (pb b).map DV.p = dbs (a ++ b) := by
  subst h
  rw [Nat.mul_one, List.take_of_length_le (by simp [pb])]
  simp [dbs, pb]
theorem dbs_ren (f : Nat → Nat) (l : List UInt8) : (dbs l).map (DV.ren f) = dbs l := map_ren_p f _
theorem hp_pure {f : Nat → Nat} {hp : List (Nat × Ob)} {i : Nat} {e : TypeId} {ys : List DV} {cs : List PV} (h : look hp (f i) = some ⟨e, ys⟩) (hy : ys = cs.map DV.p) : look hp (f i) = some ((⟨e, cs.map DV.p⟩ : Ob).ren f) := by
  rw [h, hy]
  show some (Ob.mk _ _) = some (Ob.mk _ _)
  rw [map_ren_p]
theorem sub_ref {i o n m z : Nat} (h : n = m) : Sub (.c (.ref i o n z)) (.c (.ref i o m z)) := by subst h; exact Sub.refl _
theorem dbs_snoc {a : List UInt8} {x : UInt8} {v : Int} (hv : v = (x.toNat : Int)) : (dbs a).take (a.length * 1) ++ List.map DV.p [.v (.int .u8 v)] = dbs (a ++ [x]) := by
  subst hv
  exact dbs_app a [x] _ rfl
theorem wkn {p : Nat} {s s' : S} (g : List (Nat × Nat)) (hg : namesOk p s'.nx g = true) (hp : Nat.ble p s'.nx = true) (henv : EnvRen (oldOf p s.nx g) s.env s'.env) (hhp : HpRen (oldOf p s.nx g) s.hp s'.hp) : Wk p s s' := Wk.names g hg (Nat.le_of_ble_eq_true hp) henv hhp
theorem retn {p : Nat} {s : S} {r : TV} {hp' : List (Nat × Ob)} {k' : Nat} (g : List (Nat × Nat)) (hg : namesOk p k' g = true) (hp : Nat.ble p k' = true) (hv : SubO (look s.env 0) (r.ren (oldOf p s.nx g))) (hhp : HpRen (oldOf p s.nx g) s.hp hp') : RetOk p s r hp' k' := RetOk.names g hg (Nat.le_of_ble_eq_true hp) hv hhp
theorem bsz (t : List UInt8) : (⟨t.toArray⟩ : ByteArray).size = t.length := rfl
theorem dbs_appo (a b : List UInt8) (n m : Nat) (h : a.length = n) (h' : b.length = m) : (dbs a).take (n * 1) ++ ((dbs b).drop 0).take (m * 1) = dbs (a ++ b) := by
  subst h; subst h'
  rw [Nat.mul_one, Nat.mul_one, List.drop_zero, List.take_of_length_le (by simp [pb]), List.take_of_length_le (by simp [pb])]
  simp [dbs, pb]
theorem dbs_appo' (a b : List UInt8) : (dbs a).take (a.length * 1) ++ ((dbs b).drop 0).take (b.length * 1) = dbs (a ++ b) := dbs_appo a b _ _ rfl rfl
theorem dbs_app' (a b : List UInt8) : (dbs a).take (a.length * 1) ++ (pb b).map DV.p = dbs (a ++ b) := dbs_app a b _ rfl
theorem dbs_at {d : List UInt8} {k : Nat} {c : UInt8} (h : d[k]? = some c) : (dbs d).drop (0 + Int.toNat (k : Int) * 1) = .p (pb1 c) :: (dbs d).drop (k + 1) := by
  obtain ⟨hk, rfl⟩ := List.getElem?_eq_some_iff.1 h
  rw [Nat.zero_add, Int.toNat_natCast, Nat.mul_one, List.drop_eq_getElem_cons (by simpa [dbs, pb] using hk)]
  simp [dbs, pb]
theorem sub_agg_take {n : Nat} {ds es : List DV} (h : ds = es) (hl : es.length = n) : Sub (.agg (ds.take n)) (.agg es) := by
  subst h; rw [List.take_of_length_le (by omega)]; exact Sub.refl _
theorem dbs_length (l : List UInt8) : (dbs l).length = l.length := by simp [dbs, pb]
theorem sub_agg_take_r {n : Nat} {ds : List DV} {l : List UInt8} {f : Nat → Nat} (h : ds = dbs l) (hl : l.length = n) : Sub (.agg (ds.take n)) (TV.ren f (.agg (dbs l))) := by
  show Sub _ (.agg ((dbs l).map (DV.ren f)))
  rw [dbs_ren]
  exact sub_agg_take h (by rw [dbs_length, hl])
theorem sub_agg_dbs_r {l : List UInt8} {f : Nat → Nat} : Sub (.agg (dbs l)) (TV.ren f (.agg (dbs l))) := by
  show Sub _ (.agg ((dbs l).map (DV.ren f)))
  rw [dbs_ren]
  exact Sub.refl _
theorem u64_nonneg (n : Int) : 0 ≤ IntKind.u64.wrap n := by simp [IntKind.wrap, IntKind.bits, IntKind.signed]; omega
theorem dv_val {n m : Nat} {x y : List PV} (h : n = m) (h' : x = y) : DV.p (.val n x) = DV.p (.val m y) := by subst h; subst h'; rfl
theorem ob2_eq {e : TypeId} {a b c d : DV} (h1 : a = c) (h2 : b = d) : (⟨e, [a, b]⟩ : Ob) = ⟨e, [c, d]⟩ := by subst h1; subst h2; rfl
end Go.Proofs.Ytjieenfbfckafaa.Am

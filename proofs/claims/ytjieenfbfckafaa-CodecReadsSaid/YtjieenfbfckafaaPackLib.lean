/- Words for the walks. -/
import Derived.Laws.BitsLemmas
import Derived.Test.YtjieenfbfckafaaChecked
import Derived.Test.YtjieenfbfckafaaProg
import Derived.Test.YtjieenfbfckafaaPack3
/- Words for values, and how arguments of a law are opened. -/
namespace Go.Proofs.Ytjieenfbfckafaa.Am
open Go
set_option linter.unusedVariables false
set_option linter.unusedSimpArgs false

abbrev bs (s : List UInt8) : DV := .p (.val s.length (pb s))
abbrev vb (b : Bool) : TV := .c (.p (.v (.bool b)))
abbrev vi (n : Int) : TV := .c (.p (.v (.int .i64 n)))
abbrev pi (n : Int) : PV := .v (.int .i64 n)
abbrev di (n : Int) : DV := .p (.v (.int .i64 n))
abbrev ps (s : ByteArray) : PV := .v (.string s)
abbrev pbs (s : List UInt8) : PV := .val s.length (pb s)

abbrev rInt : RT := .int .i64
abbrev rByte : RT := .int .u8
abbrev rBytes : RT := .slice (.int .u8)
def inI64 (n : Int) : Prop := -9223372036854775808 ≤ n ∧ n ≤ 9223372036854775807

theorem isAll_cons {r : RT} {rs : List RT} {pss : List (List PV)} (h : IsAll (r :: rs) pss) : ∃ p qs, pss = p :: qs ∧ r.Is p ∧ IsAll rs qs := by
  match pss, h with
  | p :: qs, h => exact ⟨p, qs, rfl, h.1, h.2⟩
theorem isAll_nil {pss : List (List PV)} (h : IsAll [] pss) : pss = [] := by
  match pss, h with
  | [], _ => rfl
theorem is_int {cs : List PV} (h : RT.Is rInt cs) : ∃ n, cs = [pi n] ∧ inI64 n := by
  obtain ⟨n, rfl, h⟩ := h
  exact ⟨n, rfl, by simpa [inI64, IntKind.min, IntKind.max, IntKind.signed, IntKind.bits] using h⟩
theorem is_byte {cs : List PV} (h : RT.Is rByte cs) : ∃ b : UInt8, cs = [pb1 b] := by
  obtain ⟨n, rfl, h1, h2⟩ := h
  have h1 : 0 ≤ n := by simpa [IntKind.min, IntKind.signed] using h1
  have h2 : n ≤ 255 := by simpa [IntKind.max, IntKind.signed, IntKind.bits] using h2
  refine ⟨UInt8.ofNat n.toNat, ?_⟩
  unfold pb1
  rw [UInt8.toNat_ofNat_of_lt' (by show n.toNat < 256; omega)]
  congr 3
  omega
theorem chunks_bytes : ∀ {n : Nat} {xs : List PV}, Chunks rByte.Is n xs → ∃ l : List UInt8, l.length = n ∧ xs = pb l
  | 0, xs, h => ⟨[], rfl, h⟩
  | n + 1, xs, ⟨a, r, h1, h2, h3⟩ => by
    obtain ⟨b, rfl⟩ := is_byte h2
    obtain ⟨l, hl, rfl⟩ := chunks_bytes h3
    exact ⟨b :: l, by simp [hl], by rw [h1]; rfl⟩
theorem is_bytes {cs : List PV} (h : RT.Is rBytes cs) : ∃ l : List UInt8, cs = [pbs l] ∧ l.length ≤ 9223372036854775807 := by
  obtain ⟨n, xs, rfl, hn, hc⟩ := h
  obtain ⟨l, rfl, rfl⟩ := chunks_bytes hc
  exact ⟨l, rfl, by simpa [maxLen] using hn⟩
theorem is_str {cs : List PV} (h : RT.Is .str cs) : ∃ s : ByteArray, cs = [ps s] ∧ s.size ≤ 9223372036854775807 := by
  obtain ⟨s, rfl, h⟩ := h
  exact ⟨s, rfl, by simpa [maxLen] using h⟩
/-- A list of things, each of which is laid in so many cells. -/
theorem chunks_list {α : Type} {Q : List PV → Prop} {f : α → List PV} {R : α → Prop} (h : ∀ cs, Q cs → ∃ a, cs = f a ∧ R a) : ∀ {n : Nat} {xs : List PV}, Chunks Q n xs → ∃ l : List α, l.length = n ∧ xs = l.flatMap f ∧ ∀ a ∈ l, R a
  | 0, xs, h' => ⟨[], rfl, h', fun a ha => by simp at ha⟩
  | n + 1, xs, ⟨x, r, h1, h2, h3⟩ => by
    obtain ⟨a, rfl, ha⟩ := h x h2
    obtain ⟨l, hl, rfl, hr⟩ := chunks_list h h3
    refine ⟨a :: l, by simp [hl], by rw [h1]; rfl, fun b hb => ?_⟩
    rcases List.mem_cons.1 hb with rfl | hb
    · exact ha
    · exact hr b hb

/-! ### Loops -/
/-- A loop through states of a family, with a measure. -/
theorem loop_fam {P : Program} {p : Nat} {x : ACode} {Q : Exit → S → Prop} {s : S} {ι : Type} (σ : ι → S) (μ : ι → Nat) (inv : ι → Prop) (i0 : ι) (h0 : Wk p s (σ i0)) (hi : inv i0)
    (round : ∀ i, inv i → ∀ K : S → Prop, (∀ env hp nx j, inv j → μ j < μ i → Wk p ⟨env, hp, nx⟩ (σ j) → K ⟨env, hp, nx⟩) → aw P p x (thenA K Q) (σ i)) :
    ∃ (I : Nat → S → Prop) (n : Nat) (s0 : S), Wk p s s0 ∧ I n s0 ∧ ∀ n s, I n s → aw P p x (thenA (fun s' => ∃ n' s'', n' < n ∧ Wk p s' s'' ∧ I n' s'') Q) s := by
  refine ⟨fun n s => ∃ i, inv i ∧ μ i = n ∧ s = σ i, μ i0, σ i0, h0, ⟨i0, hi, rfl, rfl⟩, ?_⟩
  rintro n s ⟨i, hi, rfl, rfl⟩
  exact round i hi _ fun env hp nx j hij hj hw => ⟨μ j, σ j, hj, hw, j, hij, rfl, rfl⟩
/-- The state as it is, less what is not looked at any more: no objects. -/
theorem wk_env {p : Nat} {env env' : List (Nat × TV)} {hp : List (Nat × Ob)} {nx nx' : Nat} (hp' : p ≤ nx') (h : EnvRen (oldOf p nx []) env env') : Wk p ⟨env, hp, nx⟩ ⟨env', [], nx'⟩ :=
  Wk.names (s := ⟨env, hp, nx⟩) (s' := ⟨env', [], nx'⟩) [] rfl hp' h trivial
theorem envRen_cons {f : Nat → Nat} {env r : List (Nat × TV)} {t : Nat} {d : TV} (h : SubO (look env t) (d.ren f)) (h' : EnvRen f env r) : EnvRen f env ((t, d) :: r) := ⟨h, h'⟩
theorem sub_int {k : IntKind} {a b : Int} (h : a = b) : Sub (.c (.p (.v (.int k a)))) (.c (.p (.v (.int k b)))) := by subst h; exact Sub.refl _
theorem elem_at {α : Type} {f : α → List PV} {sz : Nat} (hf : ∀ a, (f a).length = sz) {l : List α} {k : Nat} {a : α} (h : l[k]? = some a) : ((l.flatMap f).drop (k * sz)).take sz = f a := by
  induction l generalizing k with
  | nil => simp at h
  | cons x l ih =>
    cases k with
    | zero =>
      simp at h; subst h
      rw [List.flatMap_cons, Nat.zero_mul, List.drop_zero, List.take_append_of_le_length (by rw [hf]; exact Nat.le_refl _), List.take_of_length_le (by rw [hf]; exact Nat.le_refl _)]
    | succ k =>
      have := ih (k := k) (by simpa using h)
      rw [List.flatMap_cons, Nat.add_mul, Nat.one_mul, Nat.add_comm (k * sz) sz, ← List.drop_drop, show (f x ++ List.flatMap f l).drop sz = l.flatMap f by rw [List.drop_append_of_le_length (by rw [hf]; exact Nat.le_refl _), List.drop_eq_nil_of_le (by rw [hf]; exact Nat.le_refl _), List.nil_append]]
      exact this
theorem elem_at' {α : Type} {f : α → List PV} {sz : Nat} (hf : ∀ a, (f a).length = sz) {l : List α} {k : Nat} {a : α} (h : l[k]? = some a) : ((l.flatMap f).drop (Int.toNat (k : Int) * sz)).take sz = f a := elem_at hf h

/-! ### Bytes of an own object -/
abbrev dbs (l : List UInt8) : List DV := (pb l).map DV.p
theorem dbs_cut (x : List UInt8) (m n : Nat) : ((dbs x).drop m).take n = (pb ((x.drop m).take n)).map DV.p := by simp [dbs, pb, List.map_take, List.map_drop]
theorem dbs_app (a b : List UInt8) (n : Nat) (h : a.length = n) : (dbs a).take (n * 1) ++ (pb b).map DV.p = dbs (a ++ b) := by
  subst h
  rw [Nat.mul_one, List.take_of_length_le (by simp [pb])]
  simp [dbs, pb]
theorem dbs_ren (f : Nat → Nat) (l : List UInt8) : (dbs l).map (DV.ren f) = dbs l := map_ren_p f _
theorem hp_pure {f : Nat → Nat} {hp : List (Nat × Ob)} {i : Nat} {e : TypeId} {ys : List DV} {cs : List PV} (h : look hp (f i) = some ⟨e, ys⟩) (hy : ys = cs.map DV.p) : look hp (f i) = some ((⟨e, cs.map DV.p⟩ : Ob).ren f) := by
  rw [h, hy]
  show some (Ob.mk _ _) = some (Ob.mk _ _)
  rw [map_ren_p]
theorem sub_ref {i o n m z : Nat} (h : n = m) : Sub (.c (.ref i o n z)) (.c (.ref i o m z)) := by subst h; exact Sub.refl _
theorem dbs_snoc {a : List UInt8} {x : UInt8} {v : Int} (hv : v = (x.toNat : Int)) : (dbs a).take (a.length * 1) ++ List.map DV.p [.v (.int .u8 v)] = dbs (a ++ [x]) := by
  subst hv
  exact dbs_app a [x] _ rfl
theorem wkn {p : Nat} {s s' : S} (g : List (Nat × Nat)) (hg : namesOk p s'.nx g = true) (hp : Nat.ble p s'.nx = true) (henv : EnvRen (oldOf p s.nx g) s.env s'.env) (hhp : HpRen (oldOf p s.nx g) s.hp s'.hp) : Wk p s s' := Wk.names g hg (Nat.le_of_ble_eq_true hp) henv hhp
theorem retn {p : Nat} {s : S} {r : TV} {hp' : List (Nat × Ob)} {k' : Nat} (g : List (Nat × Nat)) (hg : namesOk p k' g = true) (hp : Nat.ble p k' = true) (hv : SubO (look s.env 0) (r.ren (oldOf p s.nx g))) (hhp : HpRen (oldOf p s.nx g) s.hp hp') : RetOk p s r hp' k' := RetOk.names g hg (Nat.le_of_ble_eq_true hp) hv hhp
theorem bsz (t : List UInt8) : (⟨t.toArray⟩ : ByteArray).size = t.length := rfl
theorem dbs_appo (a b : List UInt8) (n m : Nat) (h : a.length = n) (h' : b.length = m) : (dbs a).take (n * 1) ++ ((dbs b).drop 0).take (m * 1) = dbs (a ++ b) := by
  subst h; subst h'
  rw [Nat.mul_one, Nat.mul_one, List.drop_zero, List.take_of_length_le (by simp [pb]), List.take_of_length_le (by simp [pb])]
  simp [dbs, pb]
theorem dbs_appo' (a b : List UInt8) : (dbs a).take (a.length * 1) ++ ((dbs b).drop 0).take (b.length * 1) = dbs (a ++ b) := dbs_appo a b _ _ rfl rfl
theorem dbs_app' (a b : List UInt8) : (dbs a).take (a.length * 1) ++ (pb b).map DV.p = dbs (a ++ b) := dbs_app a b _ rfl
theorem dbs_at {d : List UInt8} {k : Nat} {c : UInt8} (h : d[k]? = some c) : (dbs d).drop (0 + Int.toNat (k : Int) * 1) = .p (pb1 c) :: (dbs d).drop (k + 1) := by
  obtain ⟨hk, rfl⟩ := List.getElem?_eq_some_iff.1 h
  rw [Nat.zero_add, Int.toNat_natCast, Nat.mul_one, List.drop_eq_getElem_cons (by simpa [dbs, pb] using hk)]
  simp [dbs, pb]
theorem sub_agg_take {n : Nat} {ds es : List DV} (h : ds = es) (hl : es.length = n) : Sub (.agg (ds.take n)) (.agg es) := by
  subst h; rw [List.take_of_length_le (by omega)]; exact Sub.refl _
theorem dbs_length (l : List UInt8) : (dbs l).length = l.length := by simp [dbs, pb]
theorem sub_agg_take_r {n : Nat} {ds : List DV} {l : List UInt8} {f : Nat → Nat} (h : ds = dbs l) (hl : l.length = n) : Sub (.agg (ds.take n)) (TV.ren f (.agg (dbs l))) := by
  show Sub _ (.agg ((dbs l).map (DV.ren f)))
  rw [dbs_ren]
  exact sub_agg_take h (by rw [dbs_length, hl])
theorem sub_agg_dbs_r {l : List UInt8} {f : Nat → Nat} : Sub (.agg (dbs l)) (TV.ren f (.agg (dbs l))) := by
  show Sub _ (.agg ((dbs l).map (DV.ren f)))
  rw [dbs_ren]
  exact Sub.refl _
theorem u64_nonneg (n : Int) : 0 ≤ IntKind.u64.wrap n := by simp [IntKind.wrap, IntKind.bits, IntKind.signed]; omega
theorem dv_val {n m : Nat} {x y : List PV} (h : n = m) (h' : x = y) : DV.p (.val n x) = DV.p (.val m y) := by subst h; subst h'; rfl
theorem ob2_eq {e : TypeId} {a b c d : DV} (h1 : a = c) (h2 : b = d) : (⟨e, [a, b]⟩ : Ob) = ⟨e, [c, d]⟩ := by subst h1; subst h2; rfl
theorem flat_len {α : Type} {f : α → List PV} {sz : Nat} (hf : ∀ a, (f a).length = sz) (l : List α) : (l.flatMap f).length = l.length * sz := by
  induction l with
  | nil => simp
  | cons a l ih => rw [List.flatMap_cons, List.length_append, ih, hf, List.length_cons, Nat.add_mul, Nat.one_mul, Nat.add_comm]
theorem cells_snoc {α : Type} {f : α → List PV} {sz : Nat} (hf : ∀ a, (f a).length = sz) (acc : List α) (v : α) : ((acc.flatMap f).map DV.p).take (acc.length * sz) ++ (f v).map DV.p = ((acc ++ [v]).flatMap f).map DV.p := by
  rw [List.take_of_length_le (by rw [List.length_map, flat_len hf]; exact Nat.le_refl _)]
  simp
theorem sub_slice {α : Type} {f : α → List PV} {sz : Nat} (hf : ∀ a, (f a).length = sz) (l : List α) : Sub (.c (.p (.val l.length (((l.flatMap f).drop 0).take (l.length * sz))))) (.c (.p (.val l.length (l.flatMap f)))) := by
  rw [List.drop_zero, List.take_of_length_le (by rw [flat_len hf]; exact Nat.le_refl _)]
  exact Sub.refl _
end Go.Proofs.Ytjieenfbfckafaa.Am
/- An object under a new name, though its old name is one of the caller's. -/
namespace Go.Proofs.Ytjieenfbfckafaa.Am
open Go
set_option linter.unusedVariables false
set_option linter.unusedSimpArgs false

def mvf (id nx : Nat) (i : Nat) : Nat := if i = id then nx else i
def renEnv (f : Nat → Nat) : List (Nat × TV) → List (Nat × TV)
  | [] => []
  | (t, d) :: r => (t, d.ren f) :: renEnv f r
theorem look_renEnv {f : Nat → Nat} {t : Nat} {d : TV} : ∀ {env : List (Nat × TV)}, look (renEnv f env) t = some d → ∃ d0, look env t = some d0 ∧ d = d0.ren f
  | [], h => by cases h
  | (k, v) :: r, h => by
    simp only [renEnv, look_cons] at h ⊢
    split at h
    · rename_i e; cases h; exact ⟨v, by simp [e], rfl⟩
    · rename_i e
      obtain ⟨d0, h1, h2⟩ := look_renEnv h
      exact ⟨d0, by simp [e, h1], h2⟩

section
variable {X X' : Ctx} {w : World} {f : Nat → Nat}
theorem VRd.move (hI : X'.I = X.I) (hd : ∀ id, X.dm id → X'.dm (f id) ∧ X'.mu (f id) = X.mu id) {d : DV} {u : Value} (h : VRd w X d u) : VRd w X' (d.ren f) u := by
  cases d with
  | p x => show VRp w X'.I x u; rw [hI]; exact h
  | ptr id off =>
    obtain ⟨h1, b, h2, h3⟩ := h
    obtain ⟨h4, h5⟩ := hd id h1
    exact ⟨h4, b, h5.trans h2, h3⟩
  | ref id off n sz =>
    obtain ⟨h1, h⟩ := h
    obtain ⟨h4, h5⟩ := hd id h1
    exact ⟨h4, by rw [h5]; exact h⟩
theorem VRds.move (hI : X'.I = X.I) (hd : ∀ id, X.dm id → X'.dm (f id) ∧ X'.mu (f id) = X.mu id) {ds : List DV} {us : List Value} (h : VRds w X ds us) : VRds w X' (ds.map (DV.ren f)) us := by
  refine ⟨by simpa using h.1, fun j d u hj hu => ?_⟩
  rw [List.getElem?_map] at hj
  cases hp : ds[j]? with
  | none => rw [hp] at hj; cases hj
  | some p => rw [hp] at hj; cases hj; exact (h.2 j p u hp hu).move hI hd
mutual
theorem TVR.move (hI : X'.I = X.I) (hd : ∀ id, X.dm id → X'.dm (f id) ∧ X'.mu (f id) = X.mu id) : ∀ (t : TV) (u : Value), TVR w X t u → TVR w X' (t.ren f) u
  | .c d, u, h => VRd.move (d := d) hI hd h
  | .agg ds, u, ⟨cs, h1, h2⟩ => ⟨cs, h1, h2.move hI hd⟩
  | .tup ts, u, ⟨vs, h1, h2⟩ => ⟨vs, h1, TVRs.move hI hd ts vs.toList h2⟩
theorem TVRs.move (hI : X'.I = X.I) (hd : ∀ id, X.dm id → X'.dm (f id) ∧ X'.mu (f id) = X.mu id) : ∀ (ts : List TV) (us : List Value), TVRs w X ts us → TVRs w X' (TV.rens f ts) us
  | [], us, h => h
  | t :: ts, us, ⟨u, r, h1, h2, h3⟩ => ⟨u, r, h1, TVR.move hI hd t u h2, TVRs.move hI hd ts r h3⟩
end
end

/-- The object of a name is given the next one; what the temporaries have of it goes along. -/
theorem Wk.move {p : Nat} {env : List (Nat × TV)} {hp : List (Nat × Ob)} {nx : Nat} (id : Nat) (o : Ob) (ho : look hp id = some o) : Wk p ⟨env, hp, nx⟩ ⟨renEnv (mvf id nx) env, put (del hp id) nx o, nx + 1⟩ := by
  intro N X a w r
  have hid : ¬ X.dm nx := fun h => Nat.lt_irrefl _ (r.dm nx h)
  obtain ⟨ok, ev⟩ := r.ok.move (id := id) (id' := nx) ho hid
  have hd : ∀ i, X.dm i → (X.name nx (X.mu id)).dm (mvf id nx i) ∧ (X.name nx (X.mu id)).mu (mvf id nx i) = X.mu i := by
    intro i hi
    unfold mvf
    by_cases h : i = id
    · rw [if_pos h]; subst h; exact ⟨.inr rfl, Ctx.name_mu_same _ _ _⟩
    · rw [if_neg h]
      exact ⟨.inl hi, Ctx.name_mu_ne _ _ _ (fun e => hid (e ▸ hi))⟩
  have hlook : look (put (del hp id) nx o) = Hp.set (Hp.del (look hp) id) nx o := by
    funext i
    rw [look_put, look_del]
    rfl
  refine ⟨_, ⟨r.df, r.sz, ?_, by rw [hlook]; exact ok, ?_, ?_⟩, by rw [hlook]; exact ev.toP p⟩
  · intro t d ht
    obtain ⟨d0, h1, rfl⟩ := look_renEnv ht
    obtain ⟨h2, h3⟩ := r.env t d0 h1
    exact ⟨h2, TVR.move (X := X) (X' := X.name nx (X.mu id)) (f := mvf id nx) rfl hd d0 _ h3⟩
  · intro i x hx
    show i < nx + 1
    have hx : look (put (del hp id) nx o) i = some x := hx
    rw [look_put] at hx
    split at hx
    · omega
    · rw [look_del] at hx
      split at hx
      · cases hx
      · have := r.wf i x hx
        have : i < nx := this
        omega
  · rintro i (hi | rfl)
    · have : i < nx := r.dm i hi
      show i < nx + 1
      omega
    · show i < i + 1
      omega
end Go.Proofs.Ytjieenfbfckafaa.Am
/- Shifts and bits of words, in plain numbers. -/
namespace Go.Proofs.Ytjieenfbfckafaa.Am
open Go
set_option linter.unusedVariables false
set_option linter.unusedSimpArgs false

theorem wrap_u64 (n : Int) : IntKind.u64.wrap n = n % 18446744073709551616 := by simp [IntKind.wrap, IntKind.bits, IntKind.signed]
theorem wrap_u64_of {n : Int} (h : 0 ≤ n) (h' : n < 18446744073709551616) : IntKind.u64.wrap n = n := by rw [wrap_u64]; omega
theorem wrap_u8_of {n : Int} (h : 0 ≤ n) (h' : n < 256) : IntKind.u8.wrap n = n := by rw [IntKind.wrap_u8]; omega
theorem wrap_i64_of {n : Int} (h : -9223372036854775808 ≤ n) (h' : n < 9223372036854775808) : IntKind.i64.wrap n = n := by rw [IntKind.wrap_i64]; omega
theorem wraps_u64 (n : Int) (h₀ : 0 ≤ n) (h₁ : n < 2 ^ 64) : IntKind.u64.wrap n = n := wrap_u64_of h₀ (by simpa using h₁)
theorem or_128 {x : Int} (h : 0 ≤ x) (h' : x < 256) : bits .or .u8 x 128 = x % 128 + 128 := by
  obtain ⟨a, rfl⟩ := Int.eq_ofNat_of_zero_le h
  have ha : a < 256 := by omega
  rw [show (128 : Int) = ((128 : Nat) : Int) from rfl, (bits_nat .u8 8 (by decide) wraps_u8 a 128 ha (by decide)).2]
  have : ∀ a, a < 256 → (a ||| 128) = a % 128 + 128 := by decide +kernel
  rw [this a ha]
  omega
theorem and_127 {x : Int} (h : 0 ≤ x) (h' : x < 256) : bits .and .u8 x 127 = x % 128 := bits_mask .u8 8 (by decide) wraps_u8 7 (by decide) x h h'
theorem and_1 {x : Int} (h : 0 ≤ x) (h' : x < 18446744073709551616) : bits .and .u64 x 1 = x % 2 := by
  have := bits_mask .u64 64 (by decide) wraps_u64 1 (by decide) x h (by simpa using h')
  simpa using this
theorem xor_u64 {x : Int} (h : 0 ≤ x) (h' : x < 18446744073709551616) : bits .xor .u64 18446744073709551615 x = 18446744073709551615 - x := by
  obtain ⟨a, rfl⟩ := Int.eq_ofNat_of_zero_le h
  have ha : a < 18446744073709551616 := by omega
  have e : (BitVec.ofInt 64 18446744073709551615) = BitVec.allOnes 64 := by decide
  have : bits .xor .u64 18446744073709551615 (a : Int) = IntKind.u64.wrap ((BitVec.ofInt 64 18446744073709551615 ^^^ BitVec.ofInt 64 (a : Int)).toNat : Int) := rfl
  rw [this, e, BitVec.ofInt_natCast, BitVec.allOnes_xor, BitVec.toNat_not, BitVec.toNat_ofNat, wrap_u64_of (by omega) (by omega)]
  omega
theorem xor_i64 {x : Int} (h : -9223372036854775808 ≤ x) (h' : x < 9223372036854775808) : bits .xor .i64 (-1) x = -1 - x := by
  have e : (BitVec.ofInt 64 (-1)) = BitVec.allOnes 64 := by decide
  have : bits .xor .i64 (-1) x = IntKind.i64.wrap ((BitVec.ofInt 64 (-1) ^^^ BitVec.ofInt 64 x).toNat : Int) := rfl
  rw [this, e, BitVec.allOnes_xor, BitVec.toNat_not, BitVec.toNat_ofInt, IntKind.wrap_i64]
  omega
/-- Bits that lie above are added. -/
theorem or_above {u c : Nat} {i : Nat} (hi : i < 64) (hu : u < 2 ^ i) (h : c * 2 ^ i < 2 ^ 64) : bits .or .u64 (u : Int) ((c * 2 ^ i : Nat) : Int) = ((u + c * 2 ^ i : Nat) : Int) := by
  have hu' : u < 2 ^ 64 := Nat.lt_of_lt_of_le hu (Nat.pow_le_pow_right (by decide) (by omega))
  rw [(bits_nat .u64 64 (by decide) wraps_u64 u _ hu' h).2, Nat.or_comm, Nat.mul_comm c, ← Nat.two_pow_add_eq_or_of_lt hu c, Nat.add_comm]
end Go.Proofs.Ytjieenfbfckafaa.Am
/- Numbers of functions and types. -/
namespace Go.Proofs.Ytjieenfbfckafaa.Am
open Go
set_option linter.unusedVariables false
set_option linter.unusedSimpArgs false
set_option maxRecDepth 100000
abbrev F_erasurelaw26CodecInts : Nat := 3
abbrev F_erasurelaw26CodecIntReads : Nat := 4
abbrev F_erasurelaw26CodecOwn : Nat := 5
abbrev F_erasurelaw26CodecTexts : Nat := 6
abbrev F_erasurelaw26CodecVersions : Nat := 7
abbrev F_erasurelaw26CodecRows : Nat := 8
abbrev F_erasurelaw26CodecBags : Nat := 9
abbrev F_erasurelaw26CodecChanges : Nat := 10
abbrev F_erasurelaw26CodecApart : Nat := 11
abbrev F_erasurelaw26CodecRecords : Nat := 12
abbrev F_erasurelaw26CodecCuts : Nat := 13
abbrev F_erasurelaw26CodecRequests : Nat := 14
abbrev F_erasurelaw26CodecEntries : Nat := 15
abbrev F_erasurelaw26CodecOnly : Nat := 16
abbrev F_erasurelaw26CodecReads : Nat := 17
abbrev F_erasurelaw26awake : Nat := 18
abbrev F_codec_AppendInt : Nat := 19
abbrev F_codec_ReadInt : Nat := 20
abbrev F_erasurelaw26join : Nat := 21
abbrev F_erasureref26Int : Nat := 22
abbrev F_erasureref26Reader_Int : Nat := 23
abbrev F_codec_AppendText : Nat := 24
abbrev F_codec_ReadText : Nat := 25
abbrev F_erasureref26Text : Nat := 26
abbrev F_codec_AppendSources : Nat := 27
abbrev F_codec_AppendDigest : Nat := 28
abbrev F_codec_AppendVersions : Nat := 29
abbrev F_codec_ReadVersions : Nat := 30
abbrev F_codec_ReadDigest : Nat := 31
abbrev F_codec_ReadSources : Nat := 32
abbrev F_erasureref26Versions : Nat := 33
abbrev F_erasureref26Sources : Nat := 34
abbrev F_erasureref26SameVersions : Nat := 35
abbrev F_erasureref26SameSources : Nat := 36
abbrev F_erasurelaw26short : Nat := 37
abbrev F_codec_AppendRow : Nat := 38
abbrev F_codec_ReadRow : Nat := 39
abbrev F_codec_AppendValue : Nat := 40
abbrev F_codec_ReadValue : Nat := 41
abbrev F_erasureref26Value : Nat := 42
abbrev F_erasureref01Clean : Nat := 43
abbrev F_erasureref26Row : Nat := 44
abbrev F_erasureref26SameRow : Nat := 45
abbrev F_erasureref26CleanRow : Nat := 46
abbrev F_codec_AppendBag : Nat := 47
abbrev F_codec_ReadBag : Nat := 48
abbrev F_erasureref26Bag : Nat := 49
abbrev F_erasureref26SameBag : Nat := 50
abbrev F_codec_AppendChange : Nat := 51
abbrev F_codec_ReadChange : Nat := 52
abbrev F_erasureref26Change : Nat := 53
abbrev F_erasureref26SameChange : Nat := 54
abbrev F_codec_AppendRecord : Nat := 55
abbrev F_codec_ReadRecord : Nat := 56
abbrev F_erasureref26Record : Nat := 57
abbrev F_erasureref26SameRecord : Nat := 58
abbrev F_erasurelaw26fits : Nat := 59
abbrev F_erasureref26Entry : Nat := 60
abbrev F_codec_ReadEntry : Nat := 61
abbrev F_erasureref26SameEntry : Nat := 62
abbrev F_erasurelaw26named : Nat := 63
abbrev F_codec_AppendRequest : Nat := 64
abbrev F_codec_AppendLink : Nat := 65
abbrev F_codec_AppendHold : Nat := 66
abbrev F_erasureref26Request : Nat := 67
abbrev F_erasureref26Link : Nat := 68
abbrev F_erasureref26Hold : Nat := 69
abbrev F_codec_ReadRequest : Nat := 70
abbrev F_codec_ReadLink : Nat := 71
abbrev F_codec_ReadHold : Nat := 72
abbrev F_codec_ReadIdentifier : Nat := 73
abbrev F_codec_AppendIdentifier : Nat := 74
abbrev F_erasurelaw26clean : Nat := 75
abbrev F_codec_AppendEntry : Nat := 76
abbrev F_erasurelaw26normal : Nat := 77
abbrev F_erasureref26Reader_Value : Nat := 78
abbrev F_erasureref26Reader_Row : Nat := 79
abbrev F_erasureref26Reader_Record : Nat := 80
abbrev F_erasureref26Reader_Bag : Nat := 81
abbrev F_erasureref26Reader_Change : Nat := 82
abbrev F_erasureref26Reader_Versions : Nat := 83
abbrev F_erasureref26Reader_Sources : Nat := 84
abbrev F_erasureref26Reader_Entry : Nat := 85
abbrev F_erasureref26Reader_Hold : Nat := 86
abbrev F_codec_putInt : Nat := 87
abbrev F_codec_cloned : Nat := 88
abbrev F_codec_source_integer : Nat := 89
abbrev F_codec_source_rest : Nat := 90
abbrev F_erasureref26Reader_fail : Nat := 91
abbrev F_codec_putText : Nat := 92
abbrev F_codec_source_text : Nat := 93
abbrev F_codec_putSources : Nat := 94
abbrev F_codec_putVersions : Nat := 95
abbrev F_codec_source_versions : Nat := 96
abbrev F_codec_source_digest : Nat := 97
abbrev F_codec_source_sources : Nat := 98
abbrev F_erasureref26ints : Nat := 99
abbrev F_erasureref22SameVersions : Nat := 100
abbrev F_erasureref22SameSources : Nat := 101
abbrev F_codec_putRow : Nat := 102
abbrev F_codec_source_row : Nat := 103
abbrev F_codec_putValue : Nat := 104
abbrev F_codec_source_value : Nat := 105
abbrev F_erasureref01Valid : Nat := 106
abbrev F_erasureref22SameRow : Nat := 107
abbrev F_codec_source_count : Nat := 108
abbrev F_erasureref22SameBag : Nat := 109
abbrev F_codec_putInts : Nat := 110
abbrev F_codec_source_number : Nat := 111
abbrev F_erasureref22SameRecord : Nat := 112
abbrev F_erasureref25Bytes : Nat := 113
abbrev F_codec_source_fail : Nat := 114
abbrev F_codec_source_request : Nat := 115
abbrev F_codec_source_link : Nat := 116
abbrev F_codec_source_hold : Nat := 117
abbrev F_codec_putRequest : Nat := 118
abbrev F_codec_putLink : Nat := 119
abbrev F_codec_putHold : Nat := 120
abbrev F_erasureref26Identifier : Nat := 121
abbrev F_codec_source_identifier : Nat := 122
abbrev F_codec_putIdentifier : Nat := 123
abbrev F_erasureref26Reader_Count : Nat := 124
abbrev F_erasureref26Reader_Text : Nat := 125
abbrev F_erasureref26Reader_Request : Nat := 126
abbrev F_erasureref26Reader_Digest : Nat := 127
abbrev F_erasureref26Reader_Link : Nat := 128
abbrev F_erasureref26Reader_Identifier : Nat := 129
abbrev F_codec_source_take : Nat := 130
abbrev F_value_Clean : Nat := 131
abbrev F_erasureref22SameInts : Nat := 132
abbrev F_erasureref26Reader_Take : Nat := 133
abbrev F_value_Valid : Nat := 134
abbrev F_value_inRange : Nat := 135
abbrev T_i64 : TypeId := 2
abbrev T_bool : TypeId := 4
abbrev T_u8 : TypeId := 5
abbrev T_internal_abi_BoundsErrorCode : TypeId := 6
abbrev T_runtime_boundsError : TypeId := 8
abbrev T_string : TypeId := 9
abbrev T_runtime_errorString : TypeId := 10
abbrev T_runtime_plainError : TypeId := 11
abbrev T_u64 : TypeId := 12
abbrev T_runtime_errorAddressString : TypeId := 14
abbrev T_ptr_runtime_TypeAssertionError : TypeId := 15
abbrev T_ptr_runtime_PanicNilError : TypeId := 16
abbrev T_ptr_internal_abi_Type : TypeId := 17
abbrev T_internal_runtime_maps_unhashableTypeError : TypeId := 19
abbrev T_i32 : TypeId := 21
abbrev T_sl_u8 : TypeId := 22
abbrev T_api_Errno : TypeId := 25
abbrev T_ptr_erasureref26Reader : TypeId := 31
abbrev T_erasureref26Reader : TypeId := 33
abbrev T_sl_api_Version : TypeId := 42
abbrev T_sl_api_Source : TypeId := 43
abbrev T_arr32u8 : TypeId := 44
abbrev T_api_Digest : TypeId := 45
abbrev T_sl_api_Value : TypeId := 60
abbrev T_api_Value : TypeId := 67
abbrev T_sl_api_Entry : TypeId := 76
abbrev T_api_Entry : TypeId := 78
abbrev T_api_Change : TypeId := 86
abbrev T_sl_i64 : TypeId := 93
abbrev T_api_Record : TypeId := 95
abbrev T_api_Identifier : TypeId := 103
abbrev T_api_Request : TypeId := 105
abbrev T_api_Link : TypeId := 107
abbrev T_api_Hold : TypeId := 109
abbrev T_api_LedgerEntry : TypeId := 111
abbrev T_codec_source : TypeId := 152
abbrev T_api_Version : TypeId := 161
abbrev T_api_Source : TypeId := 163
abbrev T_ptr_codec_source : TypeId := 173
abbrev T_runtime_TypeAssertionError : TypeId := 179
abbrev T_arr0ptr_runtime_PanicNilError : TypeId := 180
abbrev T_runtime_PanicNilError : TypeId := 182
abbrev T_u32 : TypeId := 183
abbrev T_internal_abi_TFlag : TypeId := 184
abbrev T_internal_abi_Kind : TypeId := 185
abbrev T_ptr_u8 : TypeId := 187
abbrev T_internal_abi_NameOff : TypeId := 188
abbrev T_internal_abi_TypeOff : TypeId := 189
abbrev T_internal_abi_Type : TypeId := 191
end Go.Proofs.Ytjieenfbfckafaa.Am
/- Calls that hand over an object, or give one back. -/
namespace Go.Proofs.Ytjieenfbfckafaa.Am
open Go
set_option linter.unusedVariables false
set_option linter.unusedSimpArgs false

/-- A buffer of the call's own. -/
abbrev buf (i : Nat) (b : List UInt8) : TV := .c (.ref i 0 b.length 1)
abbrev bob (b : List UInt8) : Ob := ⟨T_u8, dbs b⟩
theorem bob_ren (F : Nat → Nat) (b : List UInt8) : (bob b).ren F = bob b := by
  show Ob.mk _ _ = Ob.mk _ _
  rw [dbs_ren]
theorem ob_ren (F : Nat → Nat) (e : TypeId) (cs : List PV) : (⟨e, cs.map DV.p⟩ : Ob).ren F = ⟨e, cs.map DV.p⟩ := by
  show Ob.mk _ _ = Ob.mk _ _
  rw [map_ren_p]
theorem hp_eq {hp : List (Nat × Ob)} {i : Nat} {e : TypeId} {xs ys : List DV} (h : look hp i = some ⟨e, ys⟩) (hy : ys = xs) : look hp i = some ⟨e, xs⟩ := by rw [h, hy]

section
variable {P : Program} {s : S} {nx f : Nat} {ds args : List TV} {r : TV} {o o' : Ob} {K : Eff → Prop} {i : Nat}
/-- An object goes in, another one comes out. -/
theorem call_buf (hm : Meets P f ⟨args, [(0, o)], 1, r, [(1, o')], 2⟩) (ho : ∀ F, o.ren F = o) (ho' : ∀ F, o'.ren F = o') (hs : Subs ds (TV.rens (nameOf [i] nx 1) args)) (hh : look s.hp i = some o)
    (hK : K ⟨r.ren (nameOf [i] nx 1), [i], [(i, none), (nx, some o')], 2⟩) : CallOk P s nx f ds K := by
  refine call_ok [i] hm rfl hs ⟨⟨o, rfl, by rw [ho]; exact hh⟩, trivial⟩ ?_
  show K ⟨_, _, [(i, none), (nx, some (o'.ren (nameOf [i] nx 1)))], 2⟩
  rw [ho']
  exact hK
/-- An object is changed. -/
theorem call_obj (hm : Meets P f ⟨args, [(0, o)], 1, r, [(0, o')], 1⟩) (ho : ∀ F, o.ren F = o) (ho' : ∀ F, o'.ren F = o') (hs : Subs ds (TV.rens (nameOf [i] nx 0) args)) (hh : look s.hp i = some o)
    (hK : K ⟨r.ren (nameOf [i] nx 0), [i], [(i, none), (i, some o')], 1⟩) : CallOk P s nx f ds K := by
  refine call_ok [i] hm rfl hs ⟨⟨o, rfl, by rw [ho]; exact hh⟩, trivial⟩ ?_
  show K ⟨_, _, [(i, none), (i, some (o'.ren (nameOf [i] nx 0)))], 1⟩
  rw [ho']
  exact hK
/-- An object comes out. -/
theorem call_new (hm : Meets P f ⟨args, [], 0, r, [(0, o')], 1⟩) (ho' : ∀ F, o'.ren F = o') (hs : Subs ds (TV.rens (nameOf [] nx 1) args))
    (hK : K ⟨r.ren (nameOf [] nx 1), [], [(nx, some o')], 2⟩) : CallOk P s nx f ds K := by
  refine call_ok [] hm rfl hs trivial ?_
  show K ⟨_, _, [(nx, some (o'.ren (nameOf [] nx 1)))], 2⟩
  rw [ho']
  exact hK
end
/-- The buffer that is given back. -/
theorem ret_buf {env : List (Nat × TV)} {hp : List (Nat × Ob)} {nx j n : Nat} {ys : List DV} {X : List UInt8} (h1 : look env 0 = some (.c (.ref j 0 n 1))) (h2 : look hp j = some ⟨T_u8, ys⟩) (hj : Nat.ble 1 j = true) (hn : n = X.length) (hy : ys = dbs X) :
    RetOk 1 ⟨env, hp, nx⟩ (buf 1 X) [(1, bob X)] 2 := by
  subst hn; subst hy
  have hj := Nat.le_of_ble_eq_true hj
  have ho : oldOf 1 nx [(1, j)] 1 = j := rfl
  refine retn [(1, j)] (by simp [namesOk, hj]) rfl ?_ ⟨?_, trivial⟩
  · show SubO (look env 0) _
    rw [h1]
    exact Sub.refl _
  · show look hp (oldOf 1 nx [(1, j)] 1) = some ((bob X).ren _)
    rw [ho, h2, bob_ren]
/-- A new buffer that is given back. -/
theorem ret_new {env : List (Nat × TV)} {hp : List (Nat × Ob)} {nx j n : Nat} {ys : List DV} {X : List UInt8} (h1 : look env 0 = some (.c (.ref j 0 n 1))) (h2 : look hp j = some ⟨T_u8, ys⟩) (hn : n = X.length) (hy : ys = dbs X) :
    RetOk 0 ⟨env, hp, nx⟩ (buf 0 X) [(0, bob X)] 1 := by
  subst hn; subst hy
  have ho : oldOf 0 nx [(0, j)] 0 = j := rfl
  refine retn [(0, j)] (by simp [namesOk]) rfl ?_ ⟨?_, trivial⟩
  · show SubO (look env 0) _
    rw [h1]
    exact Sub.refl _
  · show look hp (oldOf 0 nx [(0, j)] 0) = some ((bob X).ren _)
    rw [ho, h2, bob_ren]
end Go.Proofs.Ytjieenfbfckafaa.Am
/- Contracts whose result, or whose argument, stays as it is from now on. -/
namespace Go.Proofs.Ytjieenfbfckafaa.Am
open Go
set_option linter.unusedVariables false
set_option linter.unusedSimpArgs false

/-- A contract with a weaker end. -/
theorem Meets.post {P : Program} {f : FuncId} {args : List TV} {hp : List (Nat × Ob)} {k : Nat} {r : TV} {hp' : List (Nat × Ob)} {k' : Nat} {r2 : TV} {hp2 : List (Nat × Ob)} {k2 : Nat} (h : Meets P f ⟨args, hp, k, r, hp', k'⟩)
    (hb : hpBelow k' hp' = true) (hr : RetOk k ⟨[(0, r)], hp', k'⟩ r2 hp2 k2) : Meets P f ⟨args, hp, k, r2, hp2, k2⟩ := by
  intro X w vs ok hdm hargs
  refine Calls.mono (h X w vs ok hdm hargs) ?_
  rintro e w' ⟨v, X', he, hv, ok', ev, hk⟩
  obtain ⟨s'', hwk, hsub, hhp, hnx⟩ := hr
  obtain ⟨X'', r'', ev'⟩ := hwk ⟨1, []⟩ X' ⟨#[v], []⟩ w' ⟨rfl, rfl, fun t d ht => by
    simp only [look_cons, look_nil] at ht
    split at ht
    · rename_i e; cases ht; subst e; exact ⟨Nat.zero_lt_one, hv⟩
    · simp at ht, ok', fun id o ho => hpBelow_get hb id o ho, hk⟩
  refine ⟨v, X'', he, ?_, by show HeapOk w' X'' (look hp2); rw [← hhp]; exact r''.ok, by show EvolP k X w (look hp) X'' w' (look hp2); rw [← hhp]; exact ev.trans ev', fun id hid => Nat.lt_of_lt_of_le (r''.dm id hid) hnx⟩
  cases hl : look s''.env 0 with
  | none => rw [hl] at hsub; exact hsub.elim
  | some d =>
    rw [hl] at hsub
    exact hsub w' X'' _ (r''.env 0 d hl).2

/-- The result's cells stay as they are. -/
theorem Meets.frozen {P : Program} {f : FuncId} {args : List TV} {n sz : Nat} {e : TypeId} {cs : List PV} (h : Meets P f ⟨args, [], 0, .c (.ref 0 0 n sz), [(0, ⟨e, cs.map DV.p⟩)], 1⟩) (hl : cs.length = n * sz) : Meets P f ⟨args, [], 0, .c (.p (.val n cs)), [], 0⟩ := by
  refine h.post rfl (RetOk.freeze 0 e cs rfl (RetOk.pure' (fun f => rfl) ?_))
  refine sub_val rfl ?_
  rw [List.drop_zero, List.take_of_length_le (by omega)]
theorem Meets.frozenB {P : Program} {f : FuncId} {args : List TV} {b : List UInt8} (h : Meets P f ⟨args, [], 0, buf 0 b, [(0, bob b)], 1⟩) : Meets P f ⟨args, [], 0, .c (bs b), [], 0⟩ :=
  h.frozen (by simp [pb])

/-- Values that name no object. -/
def TV.isP : TV → Bool
  | .c (.p _) => true
  | .c _ => false
  | .agg ds => ds.all fun d => match d with | .p _ => true | _ => false
  | .tup _ => false
def isPs : List TV → Bool
  | [] => true
  | t :: ts => t.isP && isPs ts
theorem VRd.anyCtx {w : World} {X Y : Ctx} (hI : Y.I = X.I) {x : PV} {u : Value} (h : VRd w X (.p x) u) : VRd w Y (.p x) u := by
  show VRp w Y.I x u
  rw [hI]; exact h
theorem TVR.anyCtx {w : World} {X Y : Ctx} (hI : Y.I = X.I) : ∀ {t : TV} {u : Value}, t.isP = true → TVR w X t u → TVR w Y t u
  | .c (.p x), u, _, h => VRd.anyCtx hI h
  | .agg ds, u, hp, ⟨cs, h1, h2⟩ => by
    refine ⟨cs, h1, h2.1, fun j d v hd hv => ?_⟩
    have hm := List.all_eq_true.1 hp d (List.mem_of_getElem? hd)
    cases d with
    | p x => exact VRd.anyCtx hI (h2.2 j _ v hd hv)
    | ptr => cases hm
    | ref => cases hm
theorem TVRs.anyCtx {w : World} {X Y : Ctx} (hI : Y.I = X.I) : ∀ {ts : List TV} {us : List Value}, isPs ts = true → TVRs w X ts us → TVRs w Y ts us
  | [], us, _, h => h
  | t :: ts, us, hp, ⟨u, r, h1, h2, h3⟩ => by
    simp only [isPs, Bool.and_eq_true] at hp
    exact ⟨u, r, h1, h2.anyCtx hI hp.1, h3.anyCtx hI hp.2⟩

/-- A contract of pure arguments and a pure result, where names are given. -/
theorem Meets.more {P : Program} {f : FuncId} {args : List TV} {r : TV} (k : Nat) (hp : isPs args = true) (hr : ∀ (w : World) (X Y : Ctx) u, Y.I = X.I → TVR w X r u → TVR w Y r u) (h : Meets P f ⟨args, [], 0, r, [], 0⟩) : Meets P f ⟨args, [], k, r, [], k⟩ := by
  intro X w vs ok hdm hargs
  have h0 := h ⟨X.I, fun _ => False, fun _ => none⟩ w vs ⟨fun id o h => by simp [look_nil] at h, fun i j x y b h => by simp [look_nil] at h, fun i x b h => by simp [look_nil] at h, ok.ilt⟩ (fun id h => h.elim) (TVRs.anyCtx (X := X) (Y := ⟨X.I, fun _ => False, fun _ => none⟩) rfl hp hargs)
  refine Calls.mono h0 ?_
  rintro e w' ⟨v, X', he, hv, ok', ev, hk⟩
  refine ⟨v, ⟨X'.I, X.dm, X.mu⟩, he, hr w' X' _ v rfl hv, ⟨fun id o h => by simp [look_nil] at h, fun i j x y b h => by simp [look_nil] at h, fun i x b h => by simp [look_nil] at h, ok'.ilt⟩,
    ⟨ev.os, ev.tape, ev.output, ev.size, fun b hb _ => ev.frame b hb (fun id o ho => by simp [look_nil] at ho), ev.cnt, fun id _ hd => ⟨hd, rfl⟩, ev.imm, fun b hb => by
      rcases ev.newI b hb with h1 | h1 | ⟨id, o, h1, _⟩
      · exact .inl h1
      · exact .inr (.inl h1)
      · simp [look_nil] at h1, fun id o b ho => by simp [look_nil] at ho⟩, hdm⟩

/-- An argument of the call's own is handed over for good. -/
theorem Meets.eat {P : Program} {f : FuncId} {args : List TV} {r : TV} {e : TypeId} {cs : List PV} (hp : isPs (TV.frzs 0 cs args) = true) (hr : ∀ (w : World) (X Y : Ctx) u, Y.I = X.I → TVR w X r u → TVR w Y r u)
    (h : Meets P f ⟨TV.frzs 0 cs args, [], 0, r, [], 0⟩) : Meets P f ⟨args, [(0, ⟨e, cs.map DV.p⟩)], 1, r, [], 1⟩ := by
  intro X w vs ok hdm hargs
  have hw := Wk.freeze (p := 1) (s := ⟨enum 0 args, [(0, ⟨e, cs.map DV.p⟩)], 1⟩) 0 e cs rfl
  obtain ⟨hlen, hget⟩ := TVRs_get hargs
  obtain ⟨X1, r1, e1⟩ := hw ⟨vs.length, []⟩ X ⟨vs.toArray, []⟩ w ⟨rfl, by simp, fun t d ht => by
    obtain ⟨_, h8⟩ := look_enum ht
    rw [Nat.sub_zero] at h8
    obtain ⟨v, h9, h10⟩ := hget t d h8
    have hlt : t < vs.length := (List.getElem?_eq_some_iff.1 h9).1
    refine ⟨hlt, ?_⟩
    rw [Array.getD_eq_getD_getElem?]
    simp [h9, h10], ok, (fun id o ho => by
      simp only [look_cons, look_nil] at ho
      split at ho
      · rename_i e; rw [e]; exact Nat.lt_succ_self 0
      · simp at ho), hdm⟩
  have hargs' : TVRs w X1 (TV.frzs 0 cs args) vs := by
    have key : ∀ (args : List TV) (n : Nat) (us : List Value), args.length = us.length → (∀ (j : Nat) (d : TV), (TV.frzs 0 cs args)[j]? = some d → ∃ v, us[j]? = some v ∧ TVR w X1 d v) → TVRs w X1 (TV.frzs 0 cs args) us := by
      intro args
      induction args with
      | nil => intro n us hl _; cases us with
               | nil => rfl
               | cons => simp at hl
      | cons a args ih => intro n us hl hg; cases us with
                          | nil => simp at hl
                          | cons u us =>
                            obtain ⟨v, h1, h2⟩ := hg 0 _ rfl
                            simp at h1; subst h1
                            exact ⟨_, us, rfl, h2, ih n us (by simpa using hl) fun j d hj => by simpa using hg (j + 1) d (by simpa [TV.frzs] using hj)⟩
    refine key args 0 vs hlen fun j d hj => ?_
    have hfr : ∀ (l : List TV) (n j : Nat) (d : TV), (TV.frzs 0 cs l)[j]? = some d → look (frzE 0 cs (enum n l)) (n + j) = some d := by
      intro l
      induction l with
      | nil => intro n j d h; simp [TV.frzs] at h
      | cons a l ih =>
        intro n j d h
        cases j with
        | zero => simp [TV.frzs] at h; simp [enum, frzE, look_cons, h]
        | succ j =>
          have := ih (n + 1) j d (by simpa [TV.frzs] using h)
          simp only [enum, frzE, look_cons]
          rw [if_neg (by omega), show n + (j + 1) = n + 1 + j by omega]
          exact this
    have h5 := hfr args 0 j d hj
    rw [Nat.zero_add] at h5
    obtain ⟨h6, h7⟩ := r1.env j d h5
    have hjl : j < vs.length := by
      have := r1.sz
      simp at this
      have h8 := (List.getElem?_eq_some_iff.1 hj).1
      have h9 : ∀ l : List TV, (TV.frzs 0 cs l).length = l.length := fun l => by
        induction l with
        | nil => rfl
        | cons a l ih => simp [TV.frzs, ih]
      have h9 := h9 args
      have hlen : args.length = vs.length := hlen
      omega
    refine ⟨vs[j], List.getElem?_eq_getElem hjl, ?_⟩
    have h7' : TVR w X1 d (vs.toArray.getD j undef) := h7
    rw [Array.getD_eq_getD_getElem?] at h7'
    simpa [hjl] using h7'
  have h1 := Meets.more 1 hp hr h X1 w vs r1.ok (fun id hid => r1.dm id hid) hargs'
  refine Calls.mono h1 ?_
  rintro e w' ⟨v, X', he, hv, ok', ev, hk⟩
  exact ⟨v, X', he, hv, ok', e1.trans ev, hk⟩

section
variable {P : Program} {s : S} {nx f : Nat} {ds args : List TV} {r : TV} {o : Ob} {K : Eff → Prop} {i : Nat}
/-- An object goes in for good. -/
theorem call_eat (hm : Meets P f ⟨args, [(0, o)], 1, r, [], 1⟩) (ho : ∀ F, o.ren F = o) (hs : Subs ds (TV.rens (nameOf [i] nx 0) args)) (hh : look s.hp i = some o)
    (hK : K ⟨r.ren (nameOf [i] nx 0), [i], [(i, none)], 1⟩) : CallOk P s nx f ds K :=
  call_ok [i] hm rfl hs ⟨⟨o, rfl, by rw [ho]; exact hh⟩, trivial⟩ hK
end
end Go.Proofs.Ytjieenfbfckafaa.Am
/- A drawn region's check with the order looked up first: far cheaper for long regions. -/
namespace Go.Proofs.Ytjieenfbfckafaa.Am
open Go
def chkOrd (bits : List Nat) (fps : List (List Nat × List Nat)) : Bool :=
  pairs fps.length fun i j => ord bits i j || (disj (fps.getD i ([], [])).2 (fps.getD j ([], [])).1 && disj (fps.getD i ([], [])).1 (fps.getD j ([], [])).2)
theorem chkDraw_ord {bits : List Nat} {fps : List (List Nat × List Nat)} (h : chkOrd bits fps = true) : chkDraw bits fps = true := by
  have e : chkDraw bits fps = chkOrd bits fps := by
    unfold chkDraw chkOrd
    congr 1
    funext i j
    exact Bool.or_comm _ _
  rw [e]; exact h
end Go.Proofs.Ytjieenfbfckafaa.Am
/- A nil slice in a cell of an object of the call's own, taken as an object of its own. -/
namespace Go.Proofs.Ytjieenfbfckafaa.Am
open Go
set_option linter.unusedVariables false
set_option linter.unusedSimpArgs false

theorem HeapOk.change {w : World} {X : Ctx} {h : Hp} (ok : HeapOk w X h) {id : Nat} {o o' : Ob} (ho : h id = some o) (ho' : ObjR w X id o') : HeapOk w X (h.set id o') ∧ Evol X w h X w (h.set id o') := by
  refine ⟨⟨?_, ?_, ?_, ok.ilt⟩, ⟨rfl, rfl, rfl, Nat.le_refl _, fun _ _ _ => rfl, fun _ _ => rfl, fun _ hd => ⟨hd, rfl⟩, fun _ hb => hb, fun b hb => .inl hb, ?_⟩⟩
  · intro i x hx
    rcases Hp.set_some hx with ⟨rfl, rfl⟩ | ⟨hi, hx⟩
    · exact ho'
    · exact ok.obj i x hx
  · intro i j x y b hi hj hmi hmj
    have key : ∀ i x, h.set id o' i = some x → ∃ x', h i = some x' := by
      intro i x hx
      rcases Hp.set_some hx with ⟨e1, e2⟩ | ⟨e1, e2⟩
      · exact ⟨o, by rw [e1]; exact ho⟩
      · exact ⟨x, e2⟩
    obtain ⟨x', hx'⟩ := key i x hi
    obtain ⟨y', hy'⟩ := key j y hj
    exact ok.inj i j x' y' b hx' hy' hmi hmj
  · intro i x b hi hm hI
    rcases Hp.set_some hi with ⟨e1, e2⟩ | ⟨e1, e2⟩
    · exact ok.notI i o b (by rw [e1]; exact ho) hm hI
    · exact ok.notI i x b e2 hm hI
  · intro i x b hi hm
    rcases Hp.set_some hi with ⟨e1, e2⟩ | ⟨e1, e2⟩
    · exact .inr ⟨i, o, by rw [e1]; exact ho, hm⟩
    · exact .inr ⟨i, x, e2, hm⟩

/-- A nil slice in cell j of object id. -/
theorem Wk.adoptIn {p : Nat} {s : S} (id j sz : Nat) (e : TypeId) {o : Ob} (ho : look s.hp id = some o) (hj : o.xs[j]? = some (.p (.v (.slice none 0 0)))) :
    Wk p s ⟨s.env, put (put s.hp s.nx ⟨e, []⟩) id ⟨o.e, o.xs.set j (.ref s.nx 0 0 sz)⟩, s.nx + 1⟩ := by
  intro N X a w r
  have hid : ¬ X.dm s.nx := fun hd => by have := r.dm _ hd; omega
  have hne : id ≠ s.nx := fun h => by have := r.wf id o ho; omega
  obtain ⟨ok, ev⟩ := r.ok.nil hid e
  have ho1 : Hp.set (look s.hp) s.nx ⟨e, []⟩ id = some o := by unfold Hp.set; rw [if_neg hne]; exact ho
  obtain ⟨hd, hm⟩ := ok.obj id o ho1
  have ho' : ObjR w (X.name s.nx none) id ⟨o.e, o.xs.set j (.ref s.nx 0 0 sz)⟩ := by
    refine ⟨hd, ?_⟩
    cases hmu : (X.name s.nx none).mu id with
    | none =>
      rw [hmu] at hm
      dsimp only at hm ⊢
      rw [hm] at hj
      simp at hj
    | some b =>
      rw [hmu] at hm
      dsimp only at hm ⊢
      obtain ⟨c, h1, h2, h3⟩ := hm
      refine ⟨c, h1, by simpa using h2, fun i d u hi hu => ?_⟩
      by_cases hij : i = j
      · subst hij
        have hlt : i < o.xs.length := (List.getElem?_eq_some_iff.1 hj).1
        rw [List.getElem?_set_self hlt] at hi
        cases hi
        obtain ⟨h4, _⟩ := h3 i _ u hj hu
        exact ⟨.inr rfl, .inl ⟨Ctx.name_mu_same _ _ _, rfl, h4⟩⟩
      · rw [List.getElem?_set_ne (fun h => hij h.symm)] at hi
        exact h3 i d u hi hu
  obtain ⟨ok2, ev2⟩ := ok.change ho1 ho'
  have hl : look (put (put s.hp s.nx ⟨e, []⟩) id ⟨o.e, o.xs.set j (.ref s.nx 0 0 sz)⟩) = Hp.set (Hp.set (look s.hp) s.nx ⟨e, []⟩) id ⟨o.e, o.xs.set j (.ref s.nx 0 0 sz)⟩ := by
    funext i; rw [look_put, look_put]; rfl
  refine ⟨X.name s.nx none, ⟨r.df, r.sz, ?_, by rw [hl]; exact ok2, ?_, ?_⟩, by rw [hl]; exact (ev.trans ev2).toP p⟩
  · intro t' d hd
    obtain ⟨h1, h2⟩ := r.env t' d hd
    exact ⟨h1, TVR.mono (ev.keeps r.ok) d _ h2⟩
  · intro i x hx
    have hx : look (put (put s.hp s.nx ⟨e, []⟩) id ⟨o.e, o.xs.set j (.ref s.nx 0 0 sz)⟩) i = some x := hx
    rw [look_put, look_put] at hx
    show i < s.nx + 1
    split at hx
    · rename_i h; rw [h]; have := r.wf id o ho; omega
    · split at hx
      · omega
      · have := r.wf i x hx; omega
  · intro i hi
    show i < s.nx + 1
    rcases hi with h1 | h1
    · have := r.dm i h1; omega
    · omega
end Go.Proofs.Ytjieenfbfckafaa.Am
/- Cell by cell the same: in a form that works itself out once. -/
namespace Go.Proofs.Ytjieenfbfckafaa.Am
open Go
set_option linter.unusedVariables false
set_option linter.unusedSimpArgs false

def cellSub2 (us : List DV) : List DV → Prop :=
  List.rec (motive := fun _ => List DV → Prop) (fun bs => match bs with
    | [] => True
    | _ :: _ => False) (fun a _ ih bs => match bs with
    | b :: bs => (a = b ∨ (a = .p (.v (.slice none 0 0)) ∧ b = .p (.val 0 []))) ∧ ih bs
    | [] => False) us
theorem cellSub2_iff : ∀ {us bs : List DV}, cellSub2 us bs → cellSub us bs
  | [], [], h => trivial
  | [], _ :: _, h => h
  | a :: us, b :: bs, h => ⟨h.1, cellSub2_iff (us := us) (bs := bs) h.2⟩
  | _ :: _, [], h => h
theorem sub_agg2 {us bs : List DV} (h : cellSub2 us bs) : Sub (.agg us) (.agg bs) := sub_agg (cellSub2_iff h)
theorem Sub.trans {a b c : TV} (h : Sub a b) (h' : Sub b c) : Sub a c := fun w X u q => h' w X u (h w X u q)
theorem store_all {A B Y : List DV} {n : Nat} (hY : Y.length = n) (hB : B.length = n) : List.take n (List.drop 0 (List.take 0 A ++ Y ++ List.drop (0 + n) B)) = Y := by
  rw [List.drop_zero, List.take_zero, List.nil_append, List.drop_of_length_le (by omega), List.append_nil, List.take_of_length_le (by omega)]
/-- An object comes out; the arguments name none. -/
theorem call_newp {P : Program} {s : S} {nx f : Nat} {ds args : List TV} {r : TV} {o' : Ob} {K : Eff → Prop} (hm : Meets P f ⟨args, [], 0, r, [(0, o')], 1⟩) (ha : ∀ f, TV.rens f args = args) (ho' : ∀ F, o'.ren F = o') (hs : Subs ds args)
    (hK : K ⟨r.ren (nameOf [] nx 1), [], [(nx, some o')], 2⟩) : CallOk P s nx f ds K := call_new hm ho' (by rw [ha]; exact hs) hK
theorem sub_store {A B Y : List DV} {n : Nat} (hY : Y.length = n) (hB : B.length = n) : Sub (.agg (List.take n (List.drop 0 (List.take 0 A ++ Y ++ List.drop (0 + n) B)))) (.agg Y) := by
  rw [store_all hY hB]; exact Sub.refl _
end Go.Proofs.Ytjieenfbfckafaa.Am

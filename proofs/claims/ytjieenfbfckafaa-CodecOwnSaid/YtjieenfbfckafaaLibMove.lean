/- An object under a new name, though its old name is one of the caller's. -/
import Derived.Test.YtjieenfbfckafaaLibWords
namespace Go.Proofs.Ytjieenfbfckafaa.Am
open Go
set_option linter.unusedVariables false
set_option linter.unusedSimpArgs false

def mvf (id nx : Nat) (i : Nat) : Nat := if i = id then nx else i
def renEnv (f : Nat → Nat) : List (Nat × TV) → List (Nat × TV)
  | [] => []
  | (t, d) :: r => (t, d.ren f) :: renEnv f r
theorem look_renEnv {f : Nat → Nat} {t : Nat} {d : TV} : ∀ {env : List (Nat × TV)}, look (renEnv f env) t = some d → ∃ d0, look env t = some d0 ∧ d = d0.ren f
  | [], h => by cases h
  | (k, v) :: r, h => by
    simp only [renEnv, look_cons] at h ⊢
    split at h
    · rename_i e; cases h; exact ⟨v, by simp [e], rfl⟩
    · rename_i e
      obtain ⟨d0, h1, h2⟩ := look_renEnv h
      exact ⟨d0, by simp [e, h1], h2⟩

section
variable {X X' : Ctx} {w : World} {f : Nat → Nat}
theorem VRd.move (hI : X'.I = X.I) (hd : ∀ id, X.dm id → X'.dm (f id) ∧ X'.mu (f id) = X.mu id) {d : DV} {u : Value} (h : VRd w X d u) : VRd w X' (d.ren f) u := by
  cases d with
  | p x => show VRp w X'.I x u; rw [hI]; exact h
  | ptr id off =>
    obtain ⟨h1, b, h2, h3⟩ := h
    obtain ⟨h4, h5⟩ := hd id h1
    exact ⟨h4, b, h5.trans h2, h3⟩
  | ref id off n sz =>
    obtain ⟨h1, h⟩ := h
    obtain ⟨h4, h5⟩ := hd id h1
    exact ⟨h4, by rw [h5]; exact h⟩
theorem VRds.move (hI : X'.I = X.I) (hd : ∀ id, X.dm id → X'.dm (f id) ∧ X'.mu (f id) = X.mu id) {ds : List DV} {us : List Value} (h : VRds w X ds us) : VRds w X' (ds.map (DV.ren f)) us := by
  refine ⟨by simpa using h.1, fun j d u hj hu => ?_⟩
  rw [List.getElem?_map] at hj
  cases hp : ds[j]? with
  | none => rw [hp] at hj; cases hj
  | some p => rw [hp] at hj; cases hj; exact (h.2 j p u hp hu).move hI hd
mutual
theorem TVR.move (hI : X'.I = X.I) (hd : ∀ id, X.dm id → X'.dm (f id) ∧ X'.mu (f id) = X.mu id) : ∀ (t : TV) (u : Value), TVR w X t u → TVR w X' (t.ren f) u
  | .c d, u, h => VRd.move (d := d) hI hd h
  | .agg ds, u, ⟨cs, h1, h2⟩ => ⟨cs, h1, h2.move hI hd⟩
  | .tup ts, u, ⟨vs, h1, h2⟩ => ⟨vs, h1, TVRs.move hI hd ts vs.toList h2⟩
theorem TVRs.move (hI : X'.I = X.I) (hd : ∀ id, X.dm id → X'.dm (f id) ∧ X'.mu (f id) = X.mu id) : ∀ (ts : List TV) (us : List Value), TVRs w X ts us → TVRs w X' (TV.rens f ts) us
  | [], us, h => h
  | t :: ts, us, ⟨u, r, h1, h2, h3⟩ => ⟨u, r, h1, TVR.move hI hd t u h2, TVRs.move hI hd ts r h3⟩
end
end

/-- The object of a name is given the next one; what the temporaries have of it goes along. -/
theorem Wk.move {p : Nat} {env : List (Nat × TV)} {hp : List (Nat × Ob)} {nx : Nat} (id : Nat) (o : Ob) (ho : look hp id = some o) : Wk p ⟨env, hp, nx⟩ ⟨renEnv (mvf id nx) env, put (del hp id) nx o, nx + 1⟩ := by
  intro N X a w r
  have hid : ¬ X.dm nx := fun h => Nat.lt_irrefl _ (r.dm nx h)
  obtain ⟨ok, ev⟩ := r.ok.move (id := id) (id' := nx) ho hid
  have hd : ∀ i, X.dm i → (X.name nx (X.mu id)).dm (mvf id nx i) ∧ (X.name nx (X.mu id)).mu (mvf id nx i) = X.mu i := by
    intro i hi
    unfold mvf
    by_cases h : i = id
    · rw [if_pos h]; subst h; exact ⟨.inr rfl, Ctx.name_mu_same _ _ _⟩
    · rw [if_neg h]
      exact ⟨.inl hi, Ctx.name_mu_ne _ _ _ (fun e => hid (e ▸ hi))⟩
  have hlook : look (put (del hp id) nx o) = Hp.set (Hp.del (look hp) id) nx o := by
    funext i
    rw [look_put, look_del]
    rfl
  refine ⟨_, ⟨r.df, r.sz, ?_, by rw [hlook]; exact ok, ?_, ?_⟩, by rw [hlook]; exact ev.toP p⟩
  · intro t d ht
    obtain ⟨d0, h1, rfl⟩ := look_renEnv ht
    obtain ⟨h2, h3⟩ := r.env t d0 h1
    exact ⟨h2, TVR.move (X := X) (X' := X.name nx (X.mu id)) (f := mvf id nx) rfl hd d0 _ h3⟩
  · intro i x hx
    show i < nx + 1
    have hx : look (put (del hp id) nx o) i = some x := hx
    rw [look_put] at hx
    split at hx
    · omega
    · rw [look_del] at hx
      split at hx
      · cases hx
      · have := r.wf i x hx
        have : i < nx := this
        omega
  · rintro i (hi | rfl)
    · have : i < nx := r.dm i hi
      show i < nx + 1
      omega
    · show i < i + 1
      omega
end Go.Proofs.Ytjieenfbfckafaa.Am

/- Calls that hand over an object, or give one back. -/
import Derived.Test.YtjieenfbfckafaaLibWords
import Derived.Test.YtjieenfbfckafaaCNames
namespace Go.Proofs.Ytjieenfbfckafaa.Am
open Go
set_option linter.unusedVariables false
set_option linter.unusedSimpArgs false

/-- A buffer of the call's own. -/
abbrev buf (i : Nat) (b : List UInt8) : TV := .c (.ref i 0 b.length 1)
abbrev bob (b : List UInt8) : Ob := ⟨T_u8, dbs b⟩
theorem bob_ren (F : Nat → Nat) (b : List UInt8) : (bob b).ren F = bob b := by
  show Ob.mk _ _ = Ob.mk _ _
  rw [dbs_ren]
theorem ob_ren (F : Nat → Nat) (e : TypeId) (cs : List PV) : (⟨e, cs.map DV.p⟩ : Ob).ren F = ⟨e, cs.map DV.p⟩ := by
  show Ob.mk _ _ = Ob.mk _ _
  rw [map_ren_p]
theorem hp_eq {hp : List (Nat × Ob)} {i : Nat} {e : TypeId} {xs ys : List DV} (h : look hp i = some ⟨e, ys⟩) (hy : ys = xs) : look hp i = some ⟨e, xs⟩ := by rw [h, hy]

section
variable {P : Program} {s : S} {nx f : Nat} {ds args : List TV} {r : TV} {o o' : Ob} {K : Eff → Prop} {i : Nat}
/-- An object goes in, another one comes out. -/
theorem call_buf (hm : Meets P f ⟨args, [(0, o)], 1, r, [(1, o')], 2⟩) (ho : ∀ F, o.ren F = o) (ho' : ∀ F, o'.ren F = o') (hs : Subs ds (TV.rens (nameOf [i] nx 1) args)) (hh : look s.hp i = some o)
    (hK : K ⟨r.ren (nameOf [i] nx 1), [i], [(i, none), (nx, some o')], 2⟩) : CallOk P s nx f ds K := by
  refine call_ok [i] hm rfl hs ⟨⟨o, rfl, by rw [ho]; exact hh⟩, trivial⟩ ?_
  show K ⟨_, _, [(i, none), (nx, some (o'.ren (nameOf [i] nx 1)))], 2⟩
  rw [ho']
  exact hK
/-- An object is changed. -/
theorem call_obj (hm : Meets P f ⟨args, [(0, o)], 1, r, [(0, o')], 1⟩) (ho : ∀ F, o.ren F = o) (ho' : ∀ F, o'.ren F = o') (hs : Subs ds (TV.rens (nameOf [i] nx 0) args)) (hh : look s.hp i = some o)
    (hK : K ⟨r.ren (nameOf [i] nx 0), [i], [(i, none), (i, some o')], 1⟩) : CallOk P s nx f ds K := by
  refine call_ok [i] hm rfl hs ⟨⟨o, rfl, by rw [ho]; exact hh⟩, trivial⟩ ?_
  show K ⟨_, _, [(i, none), (i, some (o'.ren (nameOf [i] nx 0)))], 1⟩
  rw [ho']
  exact hK
/-- An object comes out. -/
theorem call_new (hm : Meets P f ⟨args, [], 0, r, [(0, o')], 1⟩) (ho' : ∀ F, o'.ren F = o') (hs : Subs ds (TV.rens (nameOf [] nx 1) args))
    (hK : K ⟨r.ren (nameOf [] nx 1), [], [(nx, some o')], 2⟩) : CallOk P s nx f ds K := by
  refine call_ok [] hm rfl hs trivial ?_
  show K ⟨_, _, [(nx, some (o'.ren (nameOf [] nx 1)))], 2⟩
  rw [ho']
  exact hK
end
/-- The buffer that is given back. -/
theorem ret_buf {env : List (Nat × TV)} {hp : List (Nat × Ob)} {nx j n : Nat} {ys : List DV} {X : List UInt8} (h1 : look env 0 = some (.c (.ref j 0 n 1))) (h2 : look hp j = some ⟨T_u8, ys⟩) (hj : Nat.ble 1 j = true) (hn : n = X.length) (hy : ys = dbs X) :
    RetOk 1 ⟨env, hp, nx⟩ (buf 1 X) [(1, bob X)] 2 := by
  subst hn; subst hy
  have hj := Nat.le_of_ble_eq_true hj
  have ho : oldOf 1 nx [(1, j)] 1 = j := rfl
  refine retn [(1, j)] (by simp [namesOk, hj]) rfl ?_ ⟨?_, trivial⟩
  · show SubO (look env 0) _
    rw [h1]
    exact Sub.refl _
  · show look hp (oldOf 1 nx [(1, j)] 1) = some ((bob X).ren _)
    rw [ho, h2, bob_ren]
/-- A new buffer that is given back. -/
theorem ret_new {env : List (Nat × TV)} {hp : List (Nat × Ob)} {nx j n : Nat} {ys : List DV} {X : List UInt8} (h1 : look env 0 = some (.c (.ref j 0 n 1))) (h2 : look hp j = some ⟨T_u8, ys⟩) (hn : n = X.length) (hy : ys = dbs X) :
    RetOk 0 ⟨env, hp, nx⟩ (buf 0 X) [(0, bob X)] 1 := by
  subst hn; subst hy
  have ho : oldOf 0 nx [(0, j)] 0 = j := rfl
  refine retn [(0, j)] (by simp [namesOk]) rfl ?_ ⟨?_, trivial⟩
  · show SubO (look env 0) _
    rw [h1]
    exact Sub.refl _
  · show look hp (oldOf 0 nx [(0, j)] 0) = some ((bob X).ren _)
    rw [ho, h2, bob_ren]
end Go.Proofs.Ytjieenfbfckafaa.Am

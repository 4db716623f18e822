/- Contracts whose result, or whose argument, stays as it is from now on. -/
import Derived.Test.YtjieenfbfckafaaLibCalls
namespace Go.Proofs.Ytjieenfbfckafaa.Am
open Go
set_option linter.unusedVariables false
set_option linter.unusedSimpArgs false

/-- A contract with a weaker end. -/
theorem Meets.post {P : Program} {f : FuncId} {args : List TV} {hp : List (Nat × Ob)} {k : Nat} {r : TV} {hp' : List (Nat × Ob)} {k' : Nat} {r2 : TV} {hp2 : List (Nat × Ob)} {k2 : Nat} (h : Meets P f ⟨args, hp, k, r, hp', k'⟩)
    (hb : hpBelow k' hp' = true) (hr : RetOk k ⟨[(0, r)], hp', k'⟩ r2 hp2 k2) : Meets P f ⟨args, hp, k, r2, hp2, k2⟩ := by
  intro X w vs ok hdm hargs
  refine Calls.mono (h X w vs ok hdm hargs) ?_
  rintro e w' ⟨v, X', he, hv, ok', ev, hk⟩
  obtain ⟨s'', hwk, hsub, hhp, hnx⟩ := hr
  obtain ⟨X'', r'', ev'⟩ := hwk 1 X' ⟨#[v], []⟩ w' ⟨rfl, rfl, fun t d ht => by
    simp only [look_cons, look_nil] at ht
    split at ht
    · rename_i e; cases ht; subst e; exact ⟨by omega, hv⟩
    · simp at ht, ok', fun id o ho => hpBelow_get hb id o ho, hk⟩
  refine ⟨v, X'', he, ?_, by show HeapOk w' X'' (look hp2); rw [← hhp]; exact r''.ok, by show EvolP k X w (look hp) X'' w' (look hp2); rw [← hhp]; exact ev.trans ev', fun id hid => Nat.lt_of_lt_of_le (r''.dm id hid) hnx⟩
  cases hl : look s''.env 0 with
  | none => rw [hl] at hsub; exact hsub.elim
  | some d =>
    rw [hl] at hsub
    exact hsub w' X'' _ (r''.env 0 d hl).2

/-- The result's cells stay as they are. -/
theorem Meets.frozen {P : Program} {f : FuncId} {args : List TV} {n sz : Nat} {e : TypeId} {cs : List PV} (h : Meets P f ⟨args, [], 0, .c (.ref 0 0 n sz), [(0, ⟨e, cs.map DV.p⟩)], 1⟩) (hl : cs.length = n * sz) : Meets P f ⟨args, [], 0, .c (.p (.val n cs)), [], 0⟩ := by
  refine h.post rfl (RetOk.freeze 0 e cs rfl (RetOk.pure' (fun f => rfl) ?_))
  refine sub_val rfl ?_
  rw [List.drop_zero, List.take_of_length_le (by omega)]
theorem Meets.frozenB {P : Program} {f : FuncId} {args : List TV} {b : List UInt8} (h : Meets P f ⟨args, [], 0, buf 0 b, [(0, bob b)], 1⟩) : Meets P f ⟨args, [], 0, .c (bs b), [], 0⟩ :=
  h.frozen (by simp [pb])

/-- Values that name no object. -/
def TV.isP : TV → Bool
  | .c (.p _) => true
  | .c _ => false
  | .agg ds => ds.all fun d => match d with | .p _ => true | _ => false
  | .tup _ => false
def isPs : List TV → Bool
  | [] => true
  | t :: ts => t.isP && isPs ts
theorem VRd.anyCtx {w : World} {X Y : Ctx} (hI : Y.I = X.I) {x : PV} {u : Value} (h : VRd w X (.p x) u) : VRd w Y (.p x) u := by
  show VRp w Y.I x u
  rw [hI]; exact h
theorem TVR.anyCtx {w : World} {X Y : Ctx} (hI : Y.I = X.I) : ∀ {t : TV} {u : Value}, t.isP = true → TVR w X t u → TVR w Y t u
  | .c (.p x), u, _, h => VRd.anyCtx hI h
  | .agg ds, u, hp, ⟨cs, h1, h2⟩ => by
    refine ⟨cs, h1, h2.1, fun j d v hd hv => ?_⟩
    have hm := List.all_eq_true.1 hp d (List.mem_of_getElem? hd)
    cases d with
    | p x => exact VRd.anyCtx hI (h2.2 j _ v hd hv)
    | ptr => cases hm
    | ref => cases hm
theorem TVRs.anyCtx {w : World} {X Y : Ctx} (hI : Y.I = X.I) : ∀ {ts : List TV} {us : List Value}, isPs ts = true → TVRs w X ts us → TVRs w Y ts us
  | [], us, _, h => h
  | t :: ts, us, hp, ⟨u, r, h1, h2, h3⟩ => by
    simp only [isPs, Bool.and_eq_true] at hp
    exact ⟨u, r, h1, h2.anyCtx hI hp.1, h3.anyCtx hI hp.2⟩

/-- A contract of pure arguments and a pure result, where names are given. -/
theorem Meets.more {P : Program} {f : FuncId} {args : List TV} {r : TV} (k : Nat) (hp : isPs args = true) (hr : ∀ (w : World) (X Y : Ctx) u, Y.I = X.I → TVR w X r u → TVR w Y r u) (h : Meets P f ⟨args, [], 0, r, [], 0⟩) : Meets P f ⟨args, [], k, r, [], k⟩ := by
  intro X w vs ok hdm hargs
  have h0 := h ⟨X.I, fun _ => False, fun _ => none⟩ w vs ⟨fun id o h => by simp [look_nil] at h, fun i j x y b h => by simp [look_nil] at h, fun i x b h => by simp [look_nil] at h, ok.ilt⟩ (fun id h => h.elim) (TVRs.anyCtx (X := X) (Y := ⟨X.I, fun _ => False, fun _ => none⟩) rfl hp hargs)
  refine Calls.mono h0 ?_
  rintro e w' ⟨v, X', he, hv, ok', ev, hk⟩
  refine ⟨v, ⟨X'.I, X.dm, X.mu⟩, he, hr w' X' _ v rfl hv, ⟨fun id o h => by simp [look_nil] at h, fun i j x y b h => by simp [look_nil] at h, fun i x b h => by simp [look_nil] at h, ok'.ilt⟩,
    ⟨ev.os, ev.tape, ev.output, ev.size, fun b hb _ => ev.frame b hb (fun id o ho => by simp [look_nil] at ho), ev.cnt, fun id _ hd => ⟨hd, rfl⟩, ev.imm, fun b hb => by
      rcases ev.newI b hb with h1 | h1 | ⟨id, o, h1, _⟩
      · exact .inl h1
      · exact .inr (.inl h1)
      · simp [look_nil] at h1, fun id o b ho => by simp [look_nil] at ho⟩, hdm⟩

/-- An argument of the call's own is handed over for good. -/
theorem Meets.eat {P : Program} {f : FuncId} {args : List TV} {r : TV} {e : TypeId} {cs : List PV} (hp : isPs (TV.frzs 0 cs args) = true) (hr : ∀ (w : World) (X Y : Ctx) u, Y.I = X.I → TVR w X r u → TVR w Y r u)
    (h : Meets P f ⟨TV.frzs 0 cs args, [], 0, r, [], 0⟩) : Meets P f ⟨args, [(0, ⟨e, cs.map DV.p⟩)], 1, r, [], 1⟩ := by
  intro X w vs ok hdm hargs
  have hw := Wk.freeze (p := 1) (s := ⟨enum 0 args, [(0, ⟨e, cs.map DV.p⟩)], 1⟩) 0 e cs rfl
  obtain ⟨hlen, hget⟩ := TVRs_get hargs
  obtain ⟨X1, r1, e1⟩ := hw vs.length X ⟨vs.toArray, []⟩ w ⟨rfl, by simp, fun t d ht => by
    obtain ⟨_, h8⟩ := look_enum ht
    rw [Nat.sub_zero] at h8
    obtain ⟨v, h9, h10⟩ := hget t d h8
    have hlt : t < vs.length := (List.getElem?_eq_some_iff.1 h9).1
    refine ⟨hlt, ?_⟩
    rw [Array.getD_eq_getD_getElem?]
    simp [h9, h10], ok, (fun id o ho => by
      simp only [look_cons, look_nil] at ho
      split at ho
      · rename_i e; rw [e]; exact Nat.lt_succ_self 0
      · simp at ho), hdm⟩
  have hargs' : TVRs w X1 (TV.frzs 0 cs args) vs := by
    have key : ∀ (args : List TV) (n : Nat) (us : List Value), args.length = us.length → (∀ (j : Nat) (d : TV), (TV.frzs 0 cs args)[j]? = some d → ∃ v, us[j]? = some v ∧ TVR w X1 d v) → TVRs w X1 (TV.frzs 0 cs args) us := by
      intro args
      induction args with
      | nil => intro n us hl _; cases us with
               | nil => rfl
               | cons => simp at hl
      | cons a args ih => intro n us hl hg; cases us with
                          | nil => simp at hl
                          | cons u us =>
                            obtain ⟨v, h1, h2⟩ := hg 0 _ rfl
                            simp at h1; subst h1
                            exact ⟨_, us, rfl, h2, ih n us (by simpa using hl) fun j d hj => by simpa using hg (j + 1) d (by simpa [TV.frzs] using hj)⟩
    refine key args 0 vs hlen fun j d hj => ?_
    have hfr : ∀ (l : List TV) (n j : Nat) (d : TV), (TV.frzs 0 cs l)[j]? = some d → look (frzE 0 cs (enum n l)) (n + j) = some d := by
      intro l
      induction l with
      | nil => intro n j d h; simp [TV.frzs] at h
      | cons a l ih =>
        intro n j d h
        cases j with
        | zero => simp [TV.frzs] at h; simp [enum, frzE, look_cons, h]
        | succ j =>
          have := ih (n + 1) j d (by simpa [TV.frzs] using h)
          simp only [enum, frzE, look_cons]
          rw [if_neg (by omega), show n + (j + 1) = n + 1 + j by omega]
          exact this
    have h5 := hfr args 0 j d hj
    rw [Nat.zero_add] at h5
    obtain ⟨h6, h7⟩ := r1.env j d h5
    have hjl : j < vs.length := by
      have := r1.sz
      simp at this
      have h8 := (List.getElem?_eq_some_iff.1 hj).1
      have h9 : ∀ l : List TV, (TV.frzs 0 cs l).length = l.length := fun l => by
        induction l with
        | nil => rfl
        | cons a l ih => simp [TV.frzs, ih]
      have h9 := h9 args
      have hlen : args.length = vs.length := hlen
      omega
    refine ⟨vs[j], List.getElem?_eq_getElem hjl, ?_⟩
    have h7' : TVR w X1 d (vs.toArray.getD j undef) := h7
    rw [Array.getD_eq_getD_getElem?] at h7'
    simpa [hjl] using h7'
  have h1 := Meets.more 1 hp hr h X1 w vs r1.ok (fun id hid => r1.dm id hid) hargs'
  refine Calls.mono h1 ?_
  rintro e w' ⟨v, X', he, hv, ok', ev, hk⟩
  exact ⟨v, X', he, hv, ok', e1.trans ev, hk⟩

section
variable {P : Program} {s : S} {nx f : Nat} {ds args : List TV} {r : TV} {o : Ob} {K : Eff → Prop} {i : Nat}
/-- An object goes in for good. -/
theorem call_eat (hm : Meets P f ⟨args, [(0, o)], 1, r, [], 1⟩) (ho : ∀ F, o.ren F = o) (hs : Subs ds (TV.rens (nameOf [i] nx 0) args)) (hh : look s.hp i = some o)
    (hK : K ⟨r.ren (nameOf [i] nx 0), [i], [(i, none)], 1⟩) : CallOk P s nx f ds K :=
  call_ok [i] hm rfl hs ⟨⟨o, rfl, by rw [ho]; exact hh⟩, trivial⟩ hK
end
end Go.Proofs.Ytjieenfbfckafaa.Am

/- What the claim of CodecOnly reaches, part 4. -/
import Derived.Test.YtjieenfbfckafaaWCodecOnly3
namespace Go.Proofs.Ytjieenfbfckafaa.Am
open Go
set_option linter.unusedVariables false
set_option linter.unusedSimpArgs false
theorem Only.count (m : Int) : Only (Sr.count m) encInt (fun n => inI64 n ∧ 0 ≤ n ∧ n ≤ m) := by
  intro s h
  unfold Sr.count at h ⊢
  dsimp only at h ⊢
  by_cases hc : s.int.1 < 0 ∨ m < s.int.1
  · exfalso
    rw [if_pos hc, if_neg fail1_ne] at h
    exact fail1_ne h
  · rw [if_neg hc] at h ⊢
    by_cases he : s.int.2.e = 0
    · rw [if_pos he] at h ⊢
      obtain ⟨h1, h2, h3⟩ := Only.int s he
      exact ⟨h1, h2, h3, by dsimp only; omega, by dsimp only; omega⟩
    · rw [if_neg he] at h; exact absurd h he
theorem Sr.take_only (n : Nat) (s : Sr) (h : (s.take n).2.e = 0) : s.e = 0 ∧ s.b = (s.take n).1 ++ (s.take n).2.b ∧ (s.take n).1.length = n := by
  unfold Sr.take at h ⊢
  by_cases he : s.e = 0
  · rw [if_pos he] at h ⊢
    by_cases hn : s.b.length < n
    · rw [if_pos hn] at h; simp at h
    · rw [if_neg hn] at h ⊢
      refine ⟨he, by simp, by simp; omega⟩
  · rw [if_neg he] at h; exact absurd h he
theorem Only.text (m : Int) : Only (Sr.text m) encText (fun t => (t.length : Int) ≤ m) := by
  intro s h
  unfold Sr.text at h ⊢
  dsimp only at h ⊢
  obtain ⟨h1, h2, h3⟩ := Sr.take_only _ _ h
  obtain ⟨h4, h5, h6, h7, h8⟩ := Only.count m s h1
  refine ⟨h4, ?_, by rw [h3]; omega⟩
  rw [h5, h2, encText, h3, Int.toNat_of_nonneg h7, List.append_assoc]
theorem encVal_valid {v : Val} (h : v.valid = true) : encVal v = encVal' v := by rw [encVal, Val.clean, if_pos h]
theorem Only.value : Only Sr.value encVal (fun v => v.valid = true) := by
  have key : ∀ s, (Sr.value s).2.e = 0 → s.e = 0 ∧ s.b = encVal' (Sr.value s).1 ++ (Sr.value s).2.b ∧ (Sr.value s).1.valid = true := by
    intro s h
    unfold Sr.value at h ⊢
    dsimp only at h ⊢
    by_cases h1 : (s.count 2).1 = 1
    · rw [if_pos h1] at h ⊢
      dsimp only at h ⊢
      by_cases hv : (s.count 2).2.int.1 < -4294967296 ∨ 4294967296 < (s.count 2).2.int.1
      · rw [if_pos hv] at h; exact absurd h fail1_ne
      · rw [if_neg hv] at h ⊢
        obtain ⟨g1, g2, g3⟩ := Only.int _ h
        obtain ⟨g4, g5, g6⟩ := Only.count 2 s g1
        refine ⟨g4, ?_, ?_⟩
        · rw [g5, g2, h1, encVal', ← g2]; simp; exact g2
        · simp [Val.valid]; omega
    · rw [if_neg h1] at h ⊢
      by_cases h2 : (s.count 2).1 = 2
      · rw [if_pos h2] at h ⊢
        dsimp only at h ⊢
        obtain ⟨g1, g2, g3⟩ := Only.text 32 _ h
        obtain ⟨g4, g5, g6⟩ := Only.count 2 s g1
        refine ⟨g4, ?_, ?_⟩
        · rw [g5, h2, encVal']; simp; exact g2
        · simp [Val.valid]; omega
      · rw [if_neg h2] at h ⊢
        dsimp only at h ⊢
        obtain ⟨g4, g5, g6, g7, g8⟩ := Only.count 2 s h
        have h0 : (s.count 2).1 = 0 := by omega
        refine ⟨g4, ?_, by decide⟩
        rw [h0] at g5
        rw [show encVal' Val.null = encInt 0 by simp [encVal', Val.null]]
        exact g5
  intro s h
  obtain ⟨h1, h2, h3⟩ := key s h
  exact ⟨h1, by rw [encVal_valid h3]; exact h2, h3⟩
theorem Only.many {α : Type} {f : Sr → α × Sr} {enc : α → List UInt8} {R : α → Prop} (hf : Only f enc R) : ∀ (n : Nat) (s : Sr), (many f n s).2.e = 0 → s.e = 0 ∧ s.b = (many f n s).1.flatMap enc ++ (many f n s).2.b ∧ (many f n s).1.length = n ∧ ∀ a ∈ (many f n s).1, R a
  | 0, s, h => ⟨h, by simp [Am.many], rfl, fun a ha => by simp [Am.many] at ha⟩
  | n + 1, s, h => by
    by_cases he : s.e = 0
    · rw [Am.many, if_pos he] at h ⊢
      dsimp only at h ⊢
      obtain ⟨h1, h2, h3, h4⟩ := Only.many hf n (f s).2 h
      obtain ⟨h5, h6, h7⟩ := hf s h1
      refine ⟨he, ?_, by simp [h3], ?_⟩
      · rw [List.flatMap_cons, List.append_assoc, ← h2]; exact h6
      · intro a ha
        rcases List.mem_cons.1 ha with rfl | ha
        · exact h7
        · exact h4 a ha
    · rw [Am.many, if_neg he] at h
      exact absurd h he
theorem Only.list {α : Type} {f : Sr → α × Sr} {enc : α → List UInt8} {R : α → Prop} (hf : Only f enc R) (m : Int) : Only (Sr.list f m) (fun l => encInt l.length ++ l.flatMap enc) (fun l => (l.length : Int) ≤ m ∧ ∀ a ∈ l, R a) := by
  intro s h
  unfold Sr.list at h ⊢
  dsimp only at h ⊢
  obtain ⟨h1, h2, h3, h4⟩ := Only.many hf _ _ h
  obtain ⟨h5, h6, h7, h8, h9⟩ := Only.count m s h1
  refine ⟨h5, ?_, by rw [h3]; omega, h4⟩
  rw [h3, Int.toNat_of_nonneg h8, List.append_assoc, ← h2]
  exact h6
theorem Only.row : Only Sr.row encRow (fun r => (r.length : Int) ≤ 16 ∧ ∀ v ∈ r, v.valid = true) := Only.list Only.value 16
theorem Only.ident : Only Sr.ident encIdent (fun i => (i.ns.length : Int) ≤ 16 ∧ i.v.valid = true) := by
  intro s h
  unfold Sr.ident at h ⊢
  dsimp only at h ⊢
  obtain ⟨h1, h2, h3⟩ := Only.value _ h
  obtain ⟨h4, h5, h6⟩ := Only.text 16 _ h1
  exact ⟨h4, by rw [encIdent, List.append_assoc, ← h2]; exact h5, h6, h3⟩
theorem Only.ver : Only Sr.ver encVer Ver.ok := by
  intro s h
  unfold Sr.ver at h ⊢
  dsimp only at h ⊢
  obtain ⟨h1, h2, h3⟩ := Only.int _ h
  obtain ⟨h4, h5, h6⟩ := Only.int _ h1
  obtain ⟨h7, h8, h9⟩ := Only.int _ h4
  exact ⟨h7, by rw [encVer, ints3_enc, ← h2, ← h5]; exact h8, h9, h3, h6⟩
theorem Only.sou : Only Sr.sou encSou Sou.ok := by
  intro s h
  unfold Sr.sou at h ⊢
  dsimp only at h ⊢
  obtain ⟨h4, h5, h6⟩ := Only.int _ h
  obtain ⟨h7, h8, h9⟩ := Only.int _ h4
  exact ⟨h7, by rw [encSou, ints2_enc, ← h5]; exact h8, h9, h6⟩
theorem Only.vers : Only Sr.vers encVers (fun l => (l.length : Int) ≤ 512 ∧ ∀ v ∈ l, v.ok) := Only.list Only.ver 512
theorem Only.sous : Only Sr.sous encSous (fun l => (l.length : Int) ≤ 512 ∧ ∀ v ∈ l, v.ok) := Only.list Only.sou 512
theorem Only.link : Only Sr.link encLink (fun l => ((l.a.ns.length : Int) ≤ 16 ∧ l.a.v.valid = true) ∧ ((l.b.ns.length : Int) ≤ 16 ∧ l.b.v.valid = true) ∧ inI64 l.seq) := by
  intro s h
  unfold Sr.link at h ⊢
  dsimp only at h ⊢
  obtain ⟨a1, a2, a3, a4, a5⟩ := Only.count 1 _ h
  obtain ⟨b1, b2, b3⟩ := Only.int _ a1
  obtain ⟨c1, c2, c3⟩ := Only.ident _ b1
  obtain ⟨d1, d2, d3⟩ := Only.ident _ c1
  refine ⟨d1, ?_, d3, c3, b3⟩
  rw [encLink]; dsimp only
  rw [List.append_assoc, List.append_assoc, ints2_enc]
  have : (if decide ((s.ident.2.ident.2.int.2.count 1).1 = 1) = true then (1 : Int) else 0) = (s.ident.2.ident.2.int.2.count 1).1 := by
    by_cases hq : (s.ident.2.ident.2.int.2.count 1).1 = 1
    · simp [hq]
    · simp [hq]; omega
  rw [this, ← a2, ← b2, ← c2]
  exact d2
theorem Only.hold : Only Sr.hold encHold (fun q => ((q.who.ns.length : Int) ≤ 16 ∧ q.who.v.valid = true) ∧ inI64 q.t ∧ inI64 q.c ∧ inI64 q.seq ∧ inI64 q.fr ∧ inI64 q.to) := by
  intro s h
  unfold Sr.hold at h ⊢
  dsimp only at h ⊢
  obtain ⟨a1, a2, a3⟩ := Only.int _ h
  obtain ⟨b1, b2, b3⟩ := Only.int _ a1
  obtain ⟨c1, c2, c3⟩ := Only.int _ b1
  obtain ⟨d1, d2, d3⟩ := Only.ident _ c1
  obtain ⟨e1, e2, e3⟩ := Only.int _ d1
  obtain ⟨f1, f2, f3⟩ := Only.int _ e1
  refine ⟨f1, ?_, d3, f3, e3, c3, b3, a3⟩
  rw [encHold, List.append_assoc, List.append_assoc, ints2_enc, ints3_enc, ← a2, ← b2, ← c2, ← d2, ← e2]
  exact f2
theorem Only.req : Only Sr.req encReq (fun q => ((q.who.ns.length : Int) ≤ 16 ∧ q.who.v.valid = true) ∧ inI64 q.k ∧ inI64 q.seq ∧ inI64 q.day ∧ inI64 q.dl) := by
  intro s h
  unfold Sr.req at h ⊢
  dsimp only at h ⊢
  obtain ⟨a1, a2, a3⟩ := Only.int _ h
  obtain ⟨b1, b2, b3⟩ := Only.int _ a1
  obtain ⟨c1, c2, c3⟩ := Only.int _ b1
  obtain ⟨d1, d2, d3⟩ := Only.ident _ c1
  obtain ⟨e1, e2, e3⟩ := Only.int _ d1
  refine ⟨e1, ?_, d3, e3, c3, b3, a3⟩
  rw [encReq, List.append_assoc, List.append_assoc, ints1_enc, ints3_enc, ← a2, ← b2, ← c2, ← d2]
  exact e2
theorem Only.digest : Only Sr.digest (fun d => d) (fun d => d.length = 32) := by
  intro s h
  have h' : (s.take 32).2.e = 0 := h
  obtain ⟨a1, a2, a3⟩ := Sr.take_only 32 s h'
  unfold Sr.digest
  dsimp only
  rw [if_pos h']
  exact ⟨a1, a2, a3⟩
theorem Only.kind : Only Sr.kind encInt (fun n => inI64 n ∧ 1 ≤ n ∧ n ≤ 7) := by
  intro s h
  unfold Sr.kind at h ⊢
  dsimp only at h ⊢
  by_cases hc : s.int.1 < 1 ∨ 7 < s.int.1
  · rw [if_pos hc] at h; exact absurd h fail1_ne
  · rw [if_neg hc] at h ⊢
    obtain ⟨a1, a2, a3⟩ := Only.int _ h
    exact ⟨a1, a2, a3, by omega, by omega⟩
theorem in0 : inI64 0 := ⟨by omega, by omega⟩
theorem LE.at_ok {k d p t : Int} (hk : inI64 k) (hd : inI64 d) (hp : inI64 p) (ht : inI64 t) : (LE.at k d p t).ok :=
  ⟨hk, hd, hp, ht, ⟨Nat.zero_le _, in0, in0, in0, in0⟩, ⟨⟨Nat.zero_le _, Nat.zero_le _⟩, in0⟩, ⟨Nat.zero_le _, in0, in0, in0, in0, in0⟩, by simp [LE.at], by simp [LE.at], by simp [LE.at], by simp [LE.at], rfl⟩
theorem encLE_mk (k d p t : Int) (q : Req) (l : Link) (h : Hold) (v : List Ver) (w : List Sou) (r : List UInt8) : encLE ⟨k, d, p, t, q, l, h, v, w, r⟩ = encInts [k, d, p, t] ++
    (if k = 1 then encReq q else if k = 2 then encVers v ++ encSous w else if k = 4 then r else if k = 6 then encLink l else if k = 7 then encHold h else []) := rfl
theorem Only.body {k d p t : Int} (hk : inI64 k) (hd : inI64 d) (hp : inI64 p) (ht : inI64 t) (s : Sr) (h : (s.body k d p t).2.e = 0) : s.e = 0 ∧ (s.body k d p t).1.ok ∧ encInts [k, d, p, t] ++ s.b = encLE (s.body k d p t).1 ++ (s.body k d p t).2.b := by
  have ok := LE.at_ok hk hd hp ht
  unfold Sr.body at h ⊢
  by_cases h1 : k = 1
  · rw [if_pos h1] at h ⊢
    obtain ⟨a1, a2, a3, a4⟩ := Only.req _ h
    refine ⟨a1, { ok with req := ⟨by dsimp only; omega, a4⟩ }, ?_⟩
    show encInts [k, d, p, t] ++ s.b = encLE ⟨k, d, p, t, s.req.1, Link.zero, Hold.zero, [], [], zero32⟩ ++ s.req.2.b
    rw [encLE_mk, if_pos h1, List.append_assoc, ← a2]
  · rw [if_neg h1] at h ⊢
    by_cases h2 : k = 2
    · rw [if_pos h2] at h ⊢
      obtain ⟨a1, a2, a3, a4⟩ := Only.sous _ h
      obtain ⟨b1, b2, b3, b4⟩ := Only.vers _ a1
      refine ⟨b1, { ok with vers := b4, sous := a4, vl := by dsimp only; omega, sl := by dsimp only; omega }, ?_⟩
      show encInts [k, d, p, t] ++ s.b = encLE ⟨k, d, p, t, Req.zero, Link.zero, Hold.zero, s.vers.1, s.vers.2.sous.1, zero32⟩ ++ s.vers.2.sous.2.b
      rw [encLE_mk, if_neg h1, if_pos h2, List.append_assoc, List.append_assoc, ← a2, ← b2]
    · rw [if_neg h2] at h ⊢
      by_cases h4 : k = 4
      · rw [if_pos h4] at h ⊢
        obtain ⟨a1, a2, a3⟩ := Only.digest _ h
        refine ⟨a1, { ok with root := a3 }, ?_⟩
        show encInts [k, d, p, t] ++ s.b = encLE ⟨k, d, p, t, Req.zero, Link.zero, Hold.zero, [], [], s.digest.1⟩ ++ s.digest.2.b
        rw [encLE_mk, if_neg h1, if_neg h2, if_pos h4, List.append_assoc, ← a2]
      · rw [if_neg h4] at h ⊢
        by_cases h6 : k = 6
        · rw [if_pos h6] at h ⊢
          obtain ⟨a1, a2, a3, a4, a5⟩ := Only.link _ h
          refine ⟨a1, { ok with link := ⟨⟨by dsimp only; omega, by dsimp only; omega⟩, a5⟩ }, ?_⟩
          show encInts [k, d, p, t] ++ s.b = encLE ⟨k, d, p, t, Req.zero, s.link.1, Hold.zero, [], [], zero32⟩ ++ s.link.2.b
          rw [encLE_mk, if_neg h1, if_neg h2, if_neg h4, if_pos h6, List.append_assoc, ← a2]
        · rw [if_neg h6] at h ⊢
          by_cases h7 : k = 7
          · rw [if_pos h7] at h ⊢
            obtain ⟨a1, a2, a3, a4⟩ := Only.hold _ h
            refine ⟨a1, { ok with hold := ⟨by dsimp only; omega, a4⟩ }, ?_⟩
            show encInts [k, d, p, t] ++ s.b = encLE ⟨k, d, p, t, Req.zero, Link.zero, s.hold.1, [], [], zero32⟩ ++ s.hold.2.b
            rw [encLE_mk, if_neg h1, if_neg h2, if_neg h4, if_neg h6, if_pos h7, List.append_assoc, ← a2]
          · rw [if_neg h7] at h ⊢
            refine ⟨h, ok, ?_⟩
            show encInts [k, d, p, t] ++ s.b = encLE ⟨k, d, p, t, Req.zero, Link.zero, Hold.zero, [], [], zero32⟩ ++ s.b
            rw [encLE_mk, if_neg h1, if_neg h2, if_neg h4, if_neg h6, if_neg h7, List.append_nil]
theorem Only.le : Only Sr.le encLE LE.ok := by
  intro s h
  unfold Sr.le at h ⊢
  dsimp only at h ⊢
  by_cases g3 : s.kind.2.int.2.int.2.int.2.e = 0
  · obtain ⟨d1, d2, d3⟩ := Only.int _ g3
    obtain ⟨c1, c2, c3⟩ := Only.int _ d1
    obtain ⟨b1, b2, b3⟩ := Only.int _ c1
    obtain ⟨a1, a2, a3⟩ := Only.kind _ b1
    obtain ⟨e1, e2, e3⟩ := Only.body a3.1 b3 c3 d3 _ h
    refine ⟨a1, ?_, e2⟩
    rw [← e3, ints4_enc, ← d2, ← c2, ← b2]
    exact a2
  · rw [(Stream.body _ _ _ _).stick _ g3] at h
    exact absurd h g3
theorem encU_pos (u : Nat) : 0 < (encU u).length := by
  by_cases h : u < 128
  · rw [encU_lt h]; simp
  · rw [encU_ge h]; simp
theorem encLE_pos (e : LE) : 0 < (encLE e).length := by
  have := encU_pos (zz e.k)
  simp only [encLE, encInts, encInt, List.length_append, List.flatMap_cons]
  omega
end Go.Proofs.Ytjieenfbfckafaa.Am
namespace Go.Proofs.Ytjieenfbfckafaa.Am
open Go
set_option linter.unusedVariables false
set_option linter.unusedSimpArgs false
set_option maxRecDepth 100000
set_option maxHeartbeats 1000000
theorem fit_dbs {d : List UInt8} {n : Nat} (hd : d.length = n) : fitCKs [(n, .ti .u8)] (dbs d) := by
  refine ⟨by simp [dbs, pb, hd], ?_, ?_⟩
  · intro x hx
    have hx := List.mem_of_mem_take hx
    simp only [dbs, pb, List.mem_map] at hx
    obtain ⟨y, ⟨z, _, rfl⟩, rfl⟩ := hx
    rfl
  · exact List.drop_of_length_le (by simp [dbs, pb, hd])
theorem eqa_dig {n : Nat} {X Y : List DV} {d : List UInt8} (hd : d.length = n) (hX : X = dbs d) (hY : Y = dbs d) {R : Bool → Prop} (h : R true) :
    fitCKs [(n, .ti .u8)] X ∧ fitCKs [(n, .ti .u8)] Y ∧ ∀ b : Bool, (b = true ↔ X = Y) → R b := by
  subst hX; subst hY
  refine ⟨fit_dbs hd, fit_dbs hd, fun b hb => ?_⟩
  rw [hb.2 rfl]
  exact h
end Go.Proofs.Ytjieenfbfckafaa.Am
namespace Go.Proofs.Ytjieenfbfckafaa.Am
open Go
set_option linter.unusedVariables false
set_option linter.unusedSimpArgs false
set_option maxRecDepth 100000
set_option maxHeartbeats 2000000
/-- erasureref26.SameEntry of a thing with itself -/
theorem sameEntry_self (a : LE) (hv : a.vers.length ≤ 1000) (hs : a.sous.length ≤ 1000) (hr : a.root.length = 32) : Meets Try.prog F_erasureref26SameEntry ⟨[.agg a.enc, .agg a.enc], [], 0, vb true, [], 0⟩ := by
  have s1 := sameVersions_meets a.vers a.vers (by omega) (by omega)
  simp only [decide_true] at s1
  have s2 := sameSources_meets a.sous a.sous (by omega) (by omega)
  simp only [decide_true] at s2
  have hX : List.take 32 (List.drop (0 + 33) (Ob.mk T_api_LedgerEntry a.enc).xs) = dbs a.root := by
    have h1 : List.drop 33 a.enc = dbs a.root := rfl
    show List.take 32 (List.drop 33 a.enc) = _
    rw [h1, List.take_of_length_le (by rw [dbs_length]; omega)]
  refine fits_erasureref26SameEntry.meets rfl (by simp) fun Q hQ => ?_
  (conv => whnf); repeat' (first | (refine And.intro ?_ ?_; (focus (first | omega | (dsimp only; omega) | (simp only [List.length_append]; omega) | (simp [pb]; done) | (simp [pb]; omega) | (simp [zeros_u8, pb]; done) | (simp [zeros_u8, pb]; omega) | (simp [ByteArray.size]; omega) | exact Nat.le_of_ble_eq_true rfl | exact u64_nonneg _ | (show chkDraw _ _ = true; kernel_rfl) | (decide; done))); (conv => whnf)) | (refine onB_intro (fun hb => ?_) (fun hb => ?_) <;> (try simp only [decide_eq_true_eq, decide_eq_false_iff_not, Bool.not_eq_true', Bool.not_eq_false', Bool.and_eq_true, Bool.and_eq_false_iff, Int.not_le, Int.not_lt, bsz, ByteArray.toList_eq, beq_iff_eq, beq_eq_false_iff_ne, ne_eq] at hb) <;> (try (exfalso; omega)) <;> (try (exfalso; first | contradiction | (simp [ByteArray.toList_eq] at hb; done))) <;> (conv => whnf)) | (refine (hQ _ _ _ ?_).1; (conv => whnf)) | (refine ⟨_, rfl, ?_⟩; (conv => whnf)) | (refine ⟨_, mp_cut _ _ _, ?_⟩; (conv => whnf)) | (refine ⟨_, dbs_cut _ _ _, ?_⟩; (conv => whnf)) | (refine ⟨[_], rfl, ?_⟩; (conv => whnf)) | (refine ⟨[_, _], rfl, ?_⟩; (conv => whnf)) | (refine ⟨[_, _, _], rfl, ?_⟩; (conv => whnf)) | (refine ⟨[_, _, _, _], rfl, ?_⟩; (conv => whnf)) | (refine call_pure (s1) (fun F => by first | exact rfl | (simp only [TV.rens, TV.ren, dbs_ren]; rfl) | (simp only [TV.rens, TV.ren, List.map_cons, List.map_nil, List.map_append, DV.ren, dbs_ren, map_ren_p]; done)) (fun F => by first | exact rfl | (simp only [TV.rens, TV.ren, dbs_ren]; rfl) | (simp only [TV.rens, TV.ren, List.map_cons, List.map_nil, List.map_append, DV.ren, dbs_ren, map_ren_p]; done)) ?_ ?_; (focus ((repeat' (first | exact trivial | (refine sub_store ?_ rfl; assumption) | (refine sub_agg2 ?_; ((conv => whnf); (repeat (refine And.intro ?_ ?_; (focus (first | exact Or.inl rfl | exact Or.inr ⟨rfl, rfl⟩)); (conv => whnf))); exact trivial)) | (refine sub_agg_take rfl ?_; assumption) | exact Sub.refl _ | exact sub_nil | exact Or.inl rfl | exact Or.inr ⟨rfl, rfl⟩ | (refine sub_ref ?_; (first | omega | (simp; done) | (simp; omega))) | (refine sub_int ?_; (first | omega | rfl | (simp [bsz]; done))) | refine sub_tup ?_ | exact sub_agg_dbs_r | exact sub_agg_take_r rfl (by first | assumption | omega) | (refine sub_agg_take rfl ?_; (first | ((try rw [dbs_length]); assumption) | ((try rw [dbs_length]); omega))) | refine sub_agg ?_ | (refine sub_val ?_ ?_ <;> (first | omega | (simp [pb, List.map_take, List.map_drop, List.take_take]; done) | (simp [pb, List.map_take, List.map_drop]; omega) | (simp [pb, List.take_of_length_le]; done))) | (refine or_val ?_ ?_ <;> (first | omega | (simp [pb, List.map_take, List.map_drop, List.take_take]; done) | (simp [pb, List.map_take, List.map_drop]; omega) | (simp [pb, List.take_of_length_le]; done))) | refine And.intro ?_ ?_)); done)); (conv => whnf)) | (refine call_pure (s2) (fun F => by first | exact rfl | (simp only [TV.rens, TV.ren, dbs_ren]; rfl) | (simp only [TV.rens, TV.ren, List.map_cons, List.map_nil, List.map_append, DV.ren, dbs_ren, map_ren_p]; done)) (fun F => by first | exact rfl | (simp only [TV.rens, TV.ren, dbs_ren]; rfl) | (simp only [TV.rens, TV.ren, List.map_cons, List.map_nil, List.map_append, DV.ren, dbs_ren, map_ren_p]; done)) ?_ ?_; (focus ((repeat' (first | exact trivial | (refine sub_store ?_ rfl; assumption) | (refine sub_agg2 ?_; ((conv => whnf); (repeat (refine And.intro ?_ ?_; (focus (first | exact Or.inl rfl | exact Or.inr ⟨rfl, rfl⟩)); (conv => whnf))); exact trivial)) | (refine sub_agg_take rfl ?_; assumption) | exact Sub.refl _ | exact sub_nil | exact Or.inl rfl | exact Or.inr ⟨rfl, rfl⟩ | (refine sub_ref ?_; (first | omega | (simp; done) | (simp; omega))) | (refine sub_int ?_; (first | omega | rfl | (simp [bsz]; done))) | refine sub_tup ?_ | exact sub_agg_dbs_r | exact sub_agg_take_r rfl (by first | assumption | omega) | (refine sub_agg_take rfl ?_; (first | ((try rw [dbs_length]); assumption) | ((try rw [dbs_length]); omega))) | refine sub_agg ?_ | (refine sub_val ?_ ?_ <;> (first | omega | (simp [pb, List.map_take, List.map_drop, List.take_take]; done) | (simp [pb, List.map_take, List.map_drop]; omega) | (simp [pb, List.take_of_length_le]; done))) | (refine or_val ?_ ?_ <;> (first | omega | (simp [pb, List.map_take, List.map_drop, List.take_take]; done) | (simp [pb, List.map_take, List.map_drop]; omega) | (simp [pb, List.take_of_length_le]; done))) | refine And.intro ?_ ?_)); done)); (conv => whnf)) | (refine eqa_same (fit_req a.req) rfl rfl ?_; (conv => whnf)) | (refine eqa_same (fit_link a.link) rfl rfl ?_; (conv => whnf)) | (refine eqa_same (fit_hold a.hold) rfl rfl ?_; (conv => whnf)) | (refine eqa_dig hr hX hX ?_; (conv => whnf)) | fail)
  all_goals exact RetOk.pure' (fun f => rfl) (Sub.refl _)
def LE.fitsB (e : LE) : Bool := decide (e.vers.length ≤ 40) && decide (e.sous.length ≤ 40) && decide (e.req.who.ns.length ≤ 16) && decide (e.link.a.ns.length ≤ 16) && decide (e.link.b.ns.length ≤ 16) && decide (e.hold.who.ns.length ≤ 16)
theorem LE.fitsB_iff {e : LE} (h : e.fitsB = true) : e.fits := by
  simp only [LE.fitsB, Bool.and_eq_true, decide_eq_true_eq] at h
  obtain ⟨⟨⟨⟨⟨h1, h2⟩, h3⟩, h4⟩, h5⟩, h6⟩ := h
  exact ⟨h1, h2, h3, h4, h5, h6⟩
/-- What an argument of the laws is. -/
structure LE.arg (e : LE) : Prop where
  k : inI64 e.k
  day : inI64 e.day
  plan : inI64 e.plan
  step : inI64 e.step
  req : inI64 e.req.k ∧ inI64 e.req.seq ∧ inI64 e.req.day ∧ inI64 e.req.dl
  link : inI64 e.link.seq
  hold : inI64 e.hold.t ∧ inI64 e.hold.c ∧ inI64 e.hold.seq ∧ inI64 e.hold.fr ∧ inI64 e.hold.to
  vers : ∀ v ∈ e.vers, v.ok
  sous : ∀ v ∈ e.sous, v.ok
  root : e.root.length = 32
  vl : e.vers.length ≤ 9223372036854775807
  sl : e.sous.length ≤ 9223372036854775807
  rn : e.req.who.ns.length ≤ 9223372036854775807
  an : e.link.a.ns.length ≤ 9223372036854775807
  bn : e.link.b.ns.length ≤ 9223372036854775807
  hn : e.hold.who.ns.length ≤ 9223372036854775807
theorem LE.arg_ok {e : LE} (h : e.arg) (f : e.fits) : e.ok := by
  obtain ⟨f1, f2, f3, f4, f5, f6⟩ := f
  exact ⟨h.k, h.day, h.plan, h.step, ⟨by omega, h.req⟩, ⟨⟨by omega, by omega⟩, h.link⟩, ⟨by omega, h.hold⟩, h.vers, h.sous, by omega, by omega, h.root⟩
/-- erasurelaw26.fits -/
theorem fits_meets (e : LE) (h : e.arg) : Meets Try.prog F_erasurelaw26fits ⟨[.agg e.enc], [], 0, vb e.fitsB, [], 0⟩ := by
  have n1 := named_meets e.req.who h.rn
  have n2 := named_meets e.link.a h.an
  have n3 := named_meets e.link.b h.bn
  have n4 := named_meets e.hold.who h.hn
  have h1 := h.vl
  have h2 := h.sl
  refine fits_erasurelaw26fits.meets rfl (by simp) fun Q hQ => ?_
  (conv => whnf); repeat' (first | (refine And.intro ?_ ?_; (focus (first | omega | (dsimp only; omega) | (simp only [List.length_append]; omega) | (simp [pb]; done) | (simp [pb]; omega) | (simp [zeros_u8, pb]; done) | (simp [zeros_u8, pb]; omega) | (simp [ByteArray.size]; omega) | exact Nat.le_of_ble_eq_true rfl | exact u64_nonneg _ | (show chkDraw _ _ = true; kernel_rfl) | (decide; done))); (conv => whnf)) | (refine onB_intro (fun hb => ?_) (fun hb => ?_) <;> (try simp only [decide_eq_true_eq, decide_eq_false_iff_not, Bool.not_eq_true', Bool.not_eq_false', Bool.and_eq_true, Bool.and_eq_false_iff, Int.not_le, Int.not_lt, bsz, ByteArray.toList_eq, beq_iff_eq, beq_eq_false_iff_ne, ne_eq] at hb) <;> (try (exfalso; omega)) <;> (try (exfalso; first | contradiction | (simp [ByteArray.toList_eq] at hb; done))) <;> (conv => whnf)) | (refine (hQ _ _ _ ?_).1; (conv => whnf)) | (refine ⟨_, rfl, ?_⟩; (conv => whnf)) | (refine ⟨_, mp_cut _ _ _, ?_⟩; (conv => whnf)) | (refine ⟨_, dbs_cut _ _ _, ?_⟩; (conv => whnf)) | (refine ⟨[_], rfl, ?_⟩; (conv => whnf)) | (refine ⟨[_, _], rfl, ?_⟩; (conv => whnf)) | (refine ⟨[_, _, _], rfl, ?_⟩; (conv => whnf)) | (refine ⟨[_, _, _, _], rfl, ?_⟩; (conv => whnf)) | (refine call_pure (n1) (fun F => by first | exact rfl | (simp only [TV.rens, TV.ren, dbs_ren]; rfl) | (simp only [TV.rens, TV.ren, List.map_cons, List.map_nil, List.map_append, DV.ren, dbs_ren, map_ren_p]; done)) (fun F => by first | exact rfl | (simp only [TV.rens, TV.ren, dbs_ren]; rfl) | (simp only [TV.rens, TV.ren, List.map_cons, List.map_nil, List.map_append, DV.ren, dbs_ren, map_ren_p]; done)) ?_ ?_; (focus ((repeat' (first | exact trivial | (refine sub_store ?_ rfl; assumption) | (refine sub_agg2 ?_; ((conv => whnf); (repeat (refine And.intro ?_ ?_; (focus (first | exact Or.inl rfl | exact Or.inr ⟨rfl, rfl⟩)); (conv => whnf))); exact trivial)) | (refine sub_agg_take rfl ?_; assumption) | exact Sub.refl _ | exact sub_nil | exact Or.inl rfl | exact Or.inr ⟨rfl, rfl⟩ | (refine sub_ref ?_; (first | omega | (simp; done) | (simp; omega))) | (refine sub_int ?_; (first | omega | rfl | (simp [bsz]; done))) | refine sub_tup ?_ | exact sub_agg_dbs_r | exact sub_agg_take_r rfl (by first | assumption | omega) | (refine sub_agg_take rfl ?_; (first | ((try rw [dbs_length]); assumption) | ((try rw [dbs_length]); omega))) | refine sub_agg ?_ | (refine sub_val ?_ ?_ <;> (first | omega | (simp [pb, List.map_take, List.map_drop, List.take_take]; done) | (simp [pb, List.map_take, List.map_drop]; omega) | (simp [pb, List.take_of_length_le]; done))) | (refine or_val ?_ ?_ <;> (first | omega | (simp [pb, List.map_take, List.map_drop, List.take_take]; done) | (simp [pb, List.map_take, List.map_drop]; omega) | (simp [pb, List.take_of_length_le]; done))) | refine And.intro ?_ ?_)); done)); (conv => whnf)) | (refine call_pure (n2) (fun F => by first | exact rfl | (simp only [TV.rens, TV.ren, dbs_ren]; rfl) | (simp only [TV.rens, TV.ren, List.map_cons, List.map_nil, List.map_append, DV.ren, dbs_ren, map_ren_p]; done)) (fun F => by first | exact rfl | (simp only [TV.rens, TV.ren, dbs_ren]; rfl) | (simp only [TV.rens, TV.ren, List.map_cons, List.map_nil, List.map_append, DV.ren, dbs_ren, map_ren_p]; done)) ?_ ?_; (focus ((repeat' (first | exact trivial | (refine sub_store ?_ rfl; assumption) | (refine sub_agg2 ?_; ((conv => whnf); (repeat (refine And.intro ?_ ?_; (focus (first | exact Or.inl rfl | exact Or.inr ⟨rfl, rfl⟩)); (conv => whnf))); exact trivial)) | (refine sub_agg_take rfl ?_; assumption) | exact Sub.refl _ | exact sub_nil | exact Or.inl rfl | exact Or.inr ⟨rfl, rfl⟩ | (refine sub_ref ?_; (first | omega | (simp; done) | (simp; omega))) | (refine sub_int ?_; (first | omega | rfl | (simp [bsz]; done))) | refine sub_tup ?_ | exact sub_agg_dbs_r | exact sub_agg_take_r rfl (by first | assumption | omega) | (refine sub_agg_take rfl ?_; (first | ((try rw [dbs_length]); assumption) | ((try rw [dbs_length]); omega))) | refine sub_agg ?_ | (refine sub_val ?_ ?_ <;> (first | omega | (simp [pb, List.map_take, List.map_drop, List.take_take]; done) | (simp [pb, List.map_take, List.map_drop]; omega) | (simp [pb, List.take_of_length_le]; done))) | (refine or_val ?_ ?_ <;> (first | omega | (simp [pb, List.map_take, List.map_drop, List.take_take]; done) | (simp [pb, List.map_take, List.map_drop]; omega) | (simp [pb, List.take_of_length_le]; done))) | refine And.intro ?_ ?_)); done)); (conv => whnf)) | (refine call_pure (n3) (fun F => by first | exact rfl | (simp only [TV.rens, TV.ren, dbs_ren]; rfl) | (simp only [TV.rens, TV.ren, List.map_cons, List.map_nil, List.map_append, DV.ren, dbs_ren, map_ren_p]; done)) (fun F => by first | exact rfl | (simp only [TV.rens, TV.ren, dbs_ren]; rfl) | (simp only [TV.rens, TV.ren, List.map_cons, List.map_nil, List.map_append, DV.ren, dbs_ren, map_ren_p]; done)) ?_ ?_; (focus ((repeat' (first | exact trivial | (refine sub_store ?_ rfl; assumption) | (refine sub_agg2 ?_; ((conv => whnf); (repeat (refine And.intro ?_ ?_; (focus (first | exact Or.inl rfl | exact Or.inr ⟨rfl, rfl⟩)); (conv => whnf))); exact trivial)) | (refine sub_agg_take rfl ?_; assumption) | exact Sub.refl _ | exact sub_nil | exact Or.inl rfl | exact Or.inr ⟨rfl, rfl⟩ | (refine sub_ref ?_; (first | omega | (simp; done) | (simp; omega))) | (refine sub_int ?_; (first | omega | rfl | (simp [bsz]; done))) | refine sub_tup ?_ | exact sub_agg_dbs_r | exact sub_agg_take_r rfl (by first | assumption | omega) | (refine sub_agg_take rfl ?_; (first | ((try rw [dbs_length]); assumption) | ((try rw [dbs_length]); omega))) | refine sub_agg ?_ | (refine sub_val ?_ ?_ <;> (first | omega | (simp [pb, List.map_take, List.map_drop, List.take_take]; done) | (simp [pb, List.map_take, List.map_drop]; omega) | (simp [pb, List.take_of_length_le]; done))) | (refine or_val ?_ ?_ <;> (first | omega | (simp [pb, List.map_take, List.map_drop, List.take_take]; done) | (simp [pb, List.map_take, List.map_drop]; omega) | (simp [pb, List.take_of_length_le]; done))) | refine And.intro ?_ ?_)); done)); (conv => whnf)) | (refine call_pure (n4) (fun F => by first | exact rfl | (simp only [TV.rens, TV.ren, dbs_ren]; rfl) | (simp only [TV.rens, TV.ren, List.map_cons, List.map_nil, List.map_append, DV.ren, dbs_ren, map_ren_p]; done)) (fun F => by first | exact rfl | (simp only [TV.rens, TV.ren, dbs_ren]; rfl) | (simp only [TV.rens, TV.ren, List.map_cons, List.map_nil, List.map_append, DV.ren, dbs_ren, map_ren_p]; done)) ?_ ?_; (focus ((repeat' (first | exact trivial | (refine sub_store ?_ rfl; assumption) | (refine sub_agg2 ?_; ((conv => whnf); (repeat (refine And.intro ?_ ?_; (focus (first | exact Or.inl rfl | exact Or.inr ⟨rfl, rfl⟩)); (conv => whnf))); exact trivial)) | (refine sub_agg_take rfl ?_; assumption) | exact Sub.refl _ | exact sub_nil | exact Or.inl rfl | exact Or.inr ⟨rfl, rfl⟩ | (refine sub_ref ?_; (first | omega | (simp; done) | (simp; omega))) | (refine sub_int ?_; (first | omega | rfl | (simp [bsz]; done))) | refine sub_tup ?_ | exact sub_agg_dbs_r | exact sub_agg_take_r rfl (by first | assumption | omega) | (refine sub_agg_take rfl ?_; (first | ((try rw [dbs_length]); assumption) | ((try rw [dbs_length]); omega))) | refine sub_agg ?_ | (refine sub_val ?_ ?_ <;> (first | omega | (simp [pb, List.map_take, List.map_drop, List.take_take]; done) | (simp [pb, List.map_take, List.map_drop]; omega) | (simp [pb, List.take_of_length_le]; done))) | (refine or_val ?_ ?_ <;> (first | omega | (simp [pb, List.map_take, List.map_drop, List.take_take]; done) | (simp [pb, List.map_take, List.map_drop]; omega) | (simp [pb, List.take_of_length_le]; done))) | refine And.intro ?_ ?_)); done)); (conv => whnf)) | fail)
  all_goals (refine RetOk.pure' (fun f => rfl) (sub_bool ?_); (first | (simp_all [LE.fitsB, bsz, ByteArray.toList_eq]; done) | (simp_all [LE.fitsB, bsz, ByteArray.toList_eq]; omega) | (simp_all [LE.fitsB, bsz, ByteArray.toList_eq]; intros; omega)))
end Go.Proofs.Ytjieenfbfckafaa.Am
namespace Go.Proofs.Ytjieenfbfckafaa.Am
open Go
set_option linter.unusedVariables false
set_option linter.unusedSimpArgs false
set_option maxRecDepth 100000
set_option maxHeartbeats 2000000
theorem encVers_short {l : List Ver} (h : ∀ v ∈ l, v.ok) (hr : l.length ≤ 40) : (encVers l).length ≤ 10000 := by
  have h1 := encInt_len (n := l.length) ⟨by omega, by omega⟩
  have h2 := flatMap_len (f := encVer) (l := l) 30 (fun a ha => encVer_len (h a ha))
  simp only [encVers, List.length_append]; omega
theorem encSous_short {l : List Sou} (h : ∀ v ∈ l, v.ok) (hr : l.length ≤ 40) : (encSous l).length ≤ 10000 := by
  have h1 := encInt_len (n := l.length) ⟨by omega, by omega⟩
  have h2 := flatMap_len (f := encSou) (l := l) 20 (fun a ha => encSou_len (h a ha))
  simp only [encSous, List.length_append]; omega
theorem encLE_short {e : LE} (ok : e.ok) (ft : e.fits) : (encLE e).length ≤ 100000 := by
  have l1 := len4 ok.k ok.day ok.plan ok.step
  have l2 := encVers_short ok.vers ft.vl
  have l3 := encSous_short ok.sous ft.sl
  have l4 := encReq_short ok.req ft.rn
  have l5 := encLink_short ok.link ft.an ft.bn
  have l6 := encHold_short ok.hold ft.hn
  have l7 := ok.root
  simp only [encLE, List.length_append]
  (repeat' split) <;> first | omega | (simp only [List.length_append, List.length_nil]; omega)
theorem LE.enc_len {e : LE} (h : e.root.length = 32) : e.enc.length = 65 := by simp [pb, h]
theorem LE.zero_self : Meets Try.prog F_erasureref26SameEntry ⟨[.agg LE.zero.enc, .agg LE.zero.enc], [], 0, vb true, [], 0⟩ := sameEntry_self LE.zero (Nat.zero_le _) (Nat.zero_le _) rfl
abbrev rVer : RT := .st (.cons rInt (.cons rInt (.cons rInt .nil)))
abbrev rSou : RT := .st (.cons rInt (.cons rInt .nil))
theorem is_ver0 {cs : List PV} (h : RT.Is rVer cs) : ∃ a : Ver, cs = a.pv ∧ a.ok := by
  obtain ⟨_, _, rfl, h1, _, _, rfl, h2, _, _, rfl, h3, rfl⟩ := h
  obtain ⟨a1, rfl, i1⟩ := is_int h1
  obtain ⟨a2, rfl, i2⟩ := is_int h2
  obtain ⟨a3, rfl, i3⟩ := is_int h3
  exact ⟨⟨a1, a2, a3⟩, rfl, i1, i2, i3⟩
theorem is_sou0 {cs : List PV} (h : RT.Is rSou cs) : ∃ a : Sou, cs = a.pv ∧ a.ok := by
  obtain ⟨_, _, rfl, h1, _, _, rfl, h2, rfl⟩ := h
  obtain ⟨a1, rfl, i1⟩ := is_int h1
  obtain ⟨a2, rfl, i2⟩ := is_int h2
  exact ⟨⟨a1, a2⟩, rfl, i1, i2⟩
abbrev rLE : RT := .st (.cons rInt (.cons rInt (.cons rInt (.cons rInt (.cons rReq (.cons rLink (.cons rHold (.cons (.slice rVer) (.cons (.slice rSou) (.cons (.arr 32 rByte) .nil))))))))))
theorem is_le {cs : List PV} (h : RT.Is rLE cs) : ∃ e : LE, cs = e.pv ∧ e.arg := by
  obtain ⟨_, _, rfl, h1, _, _, rfl, h2, _, _, rfl, h3, _, _, rfl, h4, _, _, rfl, h5, _, _, rfl, h6, _, _, rfl, h7, _, _, rfl, h8, _, _, rfl, h9, _, _, rfl, h10, rfl⟩ := h
  obtain ⟨a1, rfl, i1⟩ := is_int h1
  obtain ⟨a2, rfl, i2⟩ := is_int h2
  obtain ⟨a3, rfl, i3⟩ := is_int h3
  obtain ⟨a4, rfl, i4⟩ := is_int h4
  obtain ⟨a5, rfl, i5, j5⟩ := is_req h5
  obtain ⟨a6, rfl, i6, j6, k6⟩ := is_link h6
  obtain ⟨a7, rfl, i7, j7⟩ := is_hold h7
  obtain ⟨a8, rfl, i8, j8⟩ := is_list (fun cs => is_ver0) h8
  obtain ⟨a9, rfl, i9, j9⟩ := is_list (fun cs => is_sou0) h9
  obtain ⟨a10, i10, rfl⟩ := chunks_bytes' h10
  refine ⟨⟨a1, a2, a3, a4, a5, a6, a7, a8, a9, a10⟩, ?_, ⟨i1, i2, i3, i4, j5, k6, j7, j8, j9, i10, i8, i9, i5, i6, j6, i7⟩⟩
  simp
end Go.Proofs.Ytjieenfbfckafaa.Am
namespace Go.Proofs.Ytjieenfbfckafaa.Am
open Go
set_option linter.unusedVariables false
set_option linter.unusedSimpArgs false
set_option maxRecDepth 100000
set_option maxHeartbeats 2000000
def cg_erasurelaw26CodecOnly : ACode :=
  (.seq r_erasurelaw26CodecOnly_0
  (.seq (.seq r_erasurelaw26CodecOnly_1
    (.cond (.t 17)
     (.seq r_erasurelaw26CodecOnly_2
      .ret)
     .skip))
   (.seq r_erasurelaw26CodecOnly_3
    (.seq r_erasurelaw26CodecOnly_4
     (.seq (.ghost r_erasurelaw26CodecOnly_5)
      (.seq (.seq r_erasurelaw26CodecOnly_6
        (.cond (.t 38)
         (.seq r_erasurelaw26CodecOnly_7
          .ret)
         .skip))
       (.seq r_erasurelaw26CodecOnly_8
        .ret)))))))
theorem fitsg_erasurelaw26CodecOnly : Fits Try.prog 16 69 cg_erasurelaw26CodecOnly [.t 6] := ⟨⟨Try.f16, _, _, Try.func16, rfl, rfl, rfl, by decide, by kernel_rfl, by kernel_rfl⟩, Try.checked.mixed⟩
theorem xor_u8 (a c : UInt8) : bits .xor .u8 (a.toNat : Int) (c.toNat : Int) = ((a ^^^ c).toNat : Int) := by
  have h : bits .xor .u8 (a.toNat : Int) (c.toNat : Int) = IntKind.u8.wrap ((BitVec.ofInt 8 (a.toNat : Int) ^^^ BitVec.ofInt 8 (c.toNat : Int)).toNat : Int) := rfl
  have ha : a.toNat < 256 := a.toNat_lt
  have hc : c.toNat < 256 := c.toNat_lt
  rw [h, BitVec.ofInt_natCast, BitVec.ofInt_natCast, BitVec.toNat_xor, BitVec.toNat_ofNat, BitVec.toNat_ofNat, Nat.mod_eq_of_lt (by omega), Nat.mod_eq_of_lt (by omega), UInt8.toNat_xor]
  have : (a.toNat ^^^ c.toNat) < 256 := Nat.xor_lt_two_pow (n := 8) (by omega) (by omega)
  exact wrap_u8_of (by omega) (by omega)
theorem dbs_set {w : List UInt8} {m : Nat} {v : Int} {y : UInt8} (hm : m < w.length) (hv : v = (y.toNat : Int)) :
    List.take (0 + Int.toNat (m : Int) * 1) (dbs w) ++ [.p (.v (.int .u8 v))] ++ List.drop (0 + Int.toNat (m : Int) * 1 + 1) (dbs w) = dbs (w.set m y) := by
  subst hv
  rw [show 0 + Int.toNat (m : Int) * 1 = m by omega, dbs_take, dbs_drop, List.set_eq_take_append_cons_drop, if_pos hm]
  simp [dbs, pb, pb1]
/-- CodecOnly -/
theorem only_meets (e : LE) (c : Int) (y : UInt8) (ha : e.arg) (hc : inI64 c) : Meets Try.prog F_erasurelaw26CodecOnly ⟨[.agg e.enc, vi c, .c (.p (pb1 y))], [], 0, vb true, [], 0⟩ := by
  have mf := fits_meets e ha
  have hr := ha.root
  have hlen := LE.enc_len hr
  cases hf : e.fitsB with
  | false =>
    rw [hf] at mf
    refine fits_erasurelaw26CodecOnly.meets rfl (by simp) fun Q hQ => ?_
    (conv => whnf); repeat' (first | (refine And.intro ?_ ?_; (focus (first | omega | (dsimp only; omega) | (simp only [List.length_append]; omega) | (simp [pb]; done) | (simp [pb]; omega) | (simp [zeros_u8, pb]; done) | (simp [zeros_u8, pb]; omega) | (simp [ByteArray.size]; omega) | exact Nat.le_of_ble_eq_true rfl | exact u64_nonneg _ | (show chkDraw _ _ = true; kernel_rfl) | (decide; done))); (conv => whnf)) | (refine onB_intro (fun hb => ?_) (fun hb => ?_) <;> (try simp only [decide_eq_true_eq, decide_eq_false_iff_not, Bool.not_eq_true', Bool.not_eq_false', Bool.and_eq_true, Bool.and_eq_false_iff, Int.not_le, Int.not_lt, bsz, ByteArray.toList_eq, beq_iff_eq, beq_eq_false_iff_ne, ne_eq] at hb) <;> (try (exfalso; omega)) <;> (try (exfalso; first | contradiction | (simp [ByteArray.toList_eq] at hb; done))) <;> (conv => whnf)) | (refine (hQ _ _ _ ?_).1; (conv => whnf)) | (refine ⟨_, rfl, ?_⟩; (conv => whnf)) | (refine ⟨_, mp_cut _ _ _, ?_⟩; (conv => whnf)) | (refine ⟨_, dbs_cut _ _ _, ?_⟩; (conv => whnf)) | (refine ⟨[_], rfl, ?_⟩; (conv => whnf)) | (refine ⟨[_, _], rfl, ?_⟩; (conv => whnf)) | (refine ⟨[_, _, _], rfl, ?_⟩; (conv => whnf)) | (refine ⟨[_, _, _, _], rfl, ?_⟩; (conv => whnf)) | (refine call_pure (mf) (fun F => by first | exact rfl | (simp only [TV.rens, TV.ren, dbs_ren]; rfl) | (simp only [TV.rens, TV.ren, List.map_cons, List.map_nil, List.map_append, DV.ren, dbs_ren, map_ren_p]; done)) (fun F => by first | exact rfl | (simp only [TV.rens, TV.ren, dbs_ren]; rfl) | (simp only [TV.rens, TV.ren, List.map_cons, List.map_nil, List.map_append, DV.ren, dbs_ren, map_ren_p]; done)) ?_ ?_; (focus ((repeat' (first | exact trivial | (refine sub_store ?_ rfl; assumption) | (refine sub_agg2 ?_; ((conv => whnf); (repeat (refine And.intro ?_ ?_; (focus (first | exact Or.inl rfl | exact Or.inr ⟨rfl, rfl⟩)); (conv => whnf))); exact trivial)) | (refine sub_agg_take rfl ?_; assumption) | exact Sub.refl _ | exact sub_nil | exact Or.inl rfl | exact Or.inr ⟨rfl, rfl⟩ | (refine sub_ref ?_; (first | omega | (simp; done) | (simp; omega))) | (refine sub_int ?_; (first | omega | rfl | (simp [bsz]; done))) | refine sub_tup ?_ | exact sub_agg_dbs_r | exact sub_agg_take_r rfl (by first | assumption | omega) | (refine sub_agg_take rfl ?_; (first | ((try rw [dbs_length]); assumption) | ((try rw [dbs_length]); omega))) | refine sub_agg ?_ | (refine sub_val ?_ ?_ <;> (first | omega | (simp [pb, List.map_take, List.map_drop, List.take_take]; done) | (simp [pb, List.map_take, List.map_drop]; omega) | (simp [pb, List.take_of_length_le]; done))) | (refine or_val ?_ ?_ <;> (first | omega | (simp [pb, List.map_take, List.map_drop, List.take_take]; done) | (simp [pb, List.map_take, List.map_drop]; omega) | (simp [pb, List.take_of_length_le]; done))) | refine And.intro ?_ ?_)); done)); (conv => whnf)) | (refine call_pure (awake26_meets) (fun F => by first | exact rfl | (simp only [TV.rens, TV.ren, dbs_ren]; rfl) | (simp only [TV.rens, TV.ren, List.map_cons, List.map_nil, List.map_append, DV.ren, dbs_ren, map_ren_p]; done)) (fun F => by first | exact rfl | (simp only [TV.rens, TV.ren, dbs_ren]; rfl) | (simp only [TV.rens, TV.ren, List.map_cons, List.map_nil, List.map_append, DV.ren, dbs_ren, map_ren_p]; done)) ?_ ?_; (focus ((repeat' (first | exact trivial | (refine sub_store ?_ rfl; assumption) | (refine sub_agg2 ?_; ((conv => whnf); (repeat (refine And.intro ?_ ?_; (focus (first | exact Or.inl rfl | exact Or.inr ⟨rfl, rfl⟩)); (conv => whnf))); exact trivial)) | (refine sub_agg_take rfl ?_; assumption) | exact Sub.refl _ | exact sub_nil | exact Or.inl rfl | exact Or.inr ⟨rfl, rfl⟩ | (refine sub_ref ?_; (first | omega | (simp; done) | (simp; omega))) | (refine sub_int ?_; (first | omega | rfl | (simp [bsz]; done))) | refine sub_tup ?_ | exact sub_agg_dbs_r | exact sub_agg_take_r rfl (by first | assumption | omega) | (refine sub_agg_take rfl ?_; (first | ((try rw [dbs_length]); assumption) | ((try rw [dbs_length]); omega))) | refine sub_agg ?_ | (refine sub_val ?_ ?_ <;> (first | omega | (simp [pb, List.map_take, List.map_drop, List.take_take]; done) | (simp [pb, List.map_take, List.map_drop]; omega) | (simp [pb, List.take_of_length_le]; done))) | (refine or_val ?_ ?_ <;> (first | omega | (simp [pb, List.map_take, List.map_drop, List.take_take]; done) | (simp [pb, List.map_take, List.map_drop]; omega) | (simp [pb, List.take_of_length_le]; done))) | refine And.intro ?_ ?_)); done)); (conv => whnf)) | fail)
    all_goals exact RetOk.pure' (fun f => rfl) (Sub.refl _)
  | true =>
    rw [hf] at mf
    rcases Int.lt_or_le c 0 with hneg | hc0
    · refine fits_erasurelaw26CodecOnly.meets rfl (by simp) fun Q hQ => ?_
      (conv => whnf); repeat' (first | (refine And.intro ?_ ?_; (focus (first | omega | (dsimp only; omega) | (simp only [List.length_append]; omega) | (simp [pb]; done) | (simp [pb]; omega) | (simp [zeros_u8, pb]; done) | (simp [zeros_u8, pb]; omega) | (simp [ByteArray.size]; omega) | exact Nat.le_of_ble_eq_true rfl | exact u64_nonneg _ | (show chkDraw _ _ = true; kernel_rfl) | (decide; done))); (conv => whnf)) | (refine onB_intro (fun hb => ?_) (fun hb => ?_) <;> (try simp only [decide_eq_true_eq, decide_eq_false_iff_not, Bool.not_eq_true', Bool.not_eq_false', Bool.and_eq_true, Bool.and_eq_false_iff, Int.not_le, Int.not_lt, bsz, ByteArray.toList_eq, beq_iff_eq, beq_eq_false_iff_ne, ne_eq] at hb) <;> (try (exfalso; omega)) <;> (try (exfalso; first | contradiction | (simp [ByteArray.toList_eq] at hb; done))) <;> (conv => whnf)) | (refine (hQ _ _ _ ?_).1; (conv => whnf)) | (refine ⟨_, rfl, ?_⟩; (conv => whnf)) | (refine ⟨_, mp_cut _ _ _, ?_⟩; (conv => whnf)) | (refine ⟨_, dbs_cut _ _ _, ?_⟩; (conv => whnf)) | (refine ⟨[_], rfl, ?_⟩; (conv => whnf)) | (refine ⟨[_, _], rfl, ?_⟩; (conv => whnf)) | (refine ⟨[_, _, _], rfl, ?_⟩; (conv => whnf)) | (refine ⟨[_, _, _, _], rfl, ?_⟩; (conv => whnf)) | (refine call_pure (mf) (fun F => by first | exact rfl | (simp only [TV.rens, TV.ren, dbs_ren]; rfl) | (simp only [TV.rens, TV.ren, List.map_cons, List.map_nil, List.map_append, DV.ren, dbs_ren, map_ren_p]; done)) (fun F => by first | exact rfl | (simp only [TV.rens, TV.ren, dbs_ren]; rfl) | (simp only [TV.rens, TV.ren, List.map_cons, List.map_nil, List.map_append, DV.ren, dbs_ren, map_ren_p]; done)) ?_ ?_; (focus ((repeat' (first | exact trivial | (refine sub_store ?_ rfl; assumption) | (refine sub_agg2 ?_; ((conv => whnf); (repeat (refine And.intro ?_ ?_; (focus (first | exact Or.inl rfl | exact Or.inr ⟨rfl, rfl⟩)); (conv => whnf))); exact trivial)) | (refine sub_agg_take rfl ?_; assumption) | exact Sub.refl _ | exact sub_nil | exact Or.inl rfl | exact Or.inr ⟨rfl, rfl⟩ | (refine sub_ref ?_; (first | omega | (simp; done) | (simp; omega))) | (refine sub_int ?_; (first | omega | rfl | (simp [bsz]; done))) | refine sub_tup ?_ | exact sub_agg_dbs_r | exact sub_agg_take_r rfl (by first | assumption | omega) | (refine sub_agg_take rfl ?_; (first | ((try rw [dbs_length]); assumption) | ((try rw [dbs_length]); omega))) | refine sub_agg ?_ | (refine sub_val ?_ ?_ <;> (first | omega | (simp [pb, List.map_take, List.map_drop, List.take_take]; done) | (simp [pb, List.map_take, List.map_drop]; omega) | (simp [pb, List.take_of_length_le]; done))) | (refine or_val ?_ ?_ <;> (first | omega | (simp [pb, List.map_take, List.map_drop, List.take_take]; done) | (simp [pb, List.map_take, List.map_drop]; omega) | (simp [pb, List.take_of_length_le]; done))) | refine And.intro ?_ ?_)); done)); (conv => whnf)) | (refine call_pure (awake26_meets) (fun F => by first | exact rfl | (simp only [TV.rens, TV.ren, dbs_ren]; rfl) | (simp only [TV.rens, TV.ren, List.map_cons, List.map_nil, List.map_append, DV.ren, dbs_ren, map_ren_p]; done)) (fun F => by first | exact rfl | (simp only [TV.rens, TV.ren, dbs_ren]; rfl) | (simp only [TV.rens, TV.ren, List.map_cons, List.map_nil, List.map_append, DV.ren, dbs_ren, map_ren_p]; done)) ?_ ?_; (focus ((repeat' (first | exact trivial | (refine sub_store ?_ rfl; assumption) | (refine sub_agg2 ?_; ((conv => whnf); (repeat (refine And.intro ?_ ?_; (focus (first | exact Or.inl rfl | exact Or.inr ⟨rfl, rfl⟩)); (conv => whnf))); exact trivial)) | (refine sub_agg_take rfl ?_; assumption) | exact Sub.refl _ | exact sub_nil | exact Or.inl rfl | exact Or.inr ⟨rfl, rfl⟩ | (refine sub_ref ?_; (first | omega | (simp; done) | (simp; omega))) | (refine sub_int ?_; (first | omega | rfl | (simp [bsz]; done))) | refine sub_tup ?_ | exact sub_agg_dbs_r | exact sub_agg_take_r rfl (by first | assumption | omega) | (refine sub_agg_take rfl ?_; (first | ((try rw [dbs_length]); assumption) | ((try rw [dbs_length]); omega))) | refine sub_agg ?_ | (refine sub_val ?_ ?_ <;> (first | omega | (simp [pb, List.map_take, List.map_drop, List.take_take]; done) | (simp [pb, List.map_take, List.map_drop]; omega) | (simp [pb, List.take_of_length_le]; done))) | (refine or_val ?_ ?_ <;> (first | omega | (simp [pb, List.map_take, List.map_drop, List.take_take]; done) | (simp [pb, List.map_take, List.map_drop]; omega) | (simp [pb, List.take_of_length_le]; done))) | refine And.intro ?_ ?_)); done)); (conv => whnf)) | fail)
      all_goals (first | exact RetOk.pure' (fun f => rfl) (Sub.refl _) | (trace_state; fail))
    have ft := LE.fitsB_iff hf
    have ok := LE.arg_ok ha ft
    have e1 := encLE_short ok ft
    have ep := encLE_pos e
    have m1 := rentry_meets e ok
    generalize encLE e = w at e1 ep m1
    obtain ⟨n, rfl⟩ := Int.eq_ofNat_of_zero_le hc0
    have ht : Int.tmod (n : Int) (w.length : Int) = ((n % w.length : Nat) : Int) := by
      rw [Int.tmod_eq_emod_of_nonneg (by omega)]; rfl
    have hlt : n % w.length < w.length := Nat.mod_lt _ ep
    generalize n % w.length = m at ht hlt
    obtain ⟨a, hat⟩ : ∃ a, w[m]? = some a := ⟨_, List.getElem?_eq_getElem hlt⟩
    have hs := dbs_set hlt (xor_u8 a y)
    have hwl : (w.set m (a ^^^ y)).length = w.length := List.length_set
    have r1 := readEntry_meets (w.set m (a ^^^ y)) (by omega)
    have hOnly := Only.le ⟨w.set m (a ^^^ y), 0⟩
    have hsm := Sr.le_len ⟨w.set m (a ^^^ y), 0⟩
    unfold readR at r1
    generalize w.set m (a ^^^ y) = w2 at *
    generalize Sr.le ⟨w2, 0⟩ = x at r1 hOnly hsm
    obtain ⟨R, z⟩ := x
    dsimp only at r1 hOnly hsm
    have hd := dbs_length w
    have hcut : Sub (.c (.p (.val w.length (((pb w2).drop 0).take (w.length * 1))))) (.c (bs w2)) := sub_val hwl.symm (by rw [List.drop_zero, List.take_of_length_le (by simp [pb]; omega)])
    by_cases he : z.e = 0
    · rw [if_pos he] at r1
      dsimp only at r1
      obtain ⟨_, hb2, okR⟩ := hOnly he
      have hRp := encLE_pos R
      have hlenR := LE.enc_len okR.root
      have hRr := okR.root
      have hl2 := congrArg List.length hb2
      rw [List.length_append] at hl2
      have a1 := aAppendEntry_meets [] R okR (by simp)
      rw [List.nil_append] at a1
      refine fitsg_erasurelaw26CodecOnly.meets rfl (by simp) fun Q hQ => ?_
      (conv => whnf); repeat' (first | (refine And.intro ?_ ?_; (focus (first | omega | (dsimp only; omega) | (simp only [List.length_append]; omega) | (simp [pb]; done) | (simp [pb]; omega) | (simp [zeros_u8, pb]; done) | (simp [zeros_u8, pb]; omega) | (simp [ByteArray.size]; omega) | exact Nat.le_of_ble_eq_true rfl | exact u64_nonneg _ | (show chkDraw _ _ = true; kernel_rfl) | (decide; done))); (conv => whnf)) | (refine onB_intro (fun hb => ?_) (fun hb => ?_) <;> (try simp only [decide_eq_true_eq, decide_eq_false_iff_not, Bool.not_eq_true', Bool.not_eq_false', Bool.and_eq_true, Bool.and_eq_false_iff, Int.not_le, Int.not_lt, bsz, ByteArray.toList_eq, beq_iff_eq, beq_eq_false_iff_ne, ne_eq] at hb) <;> (try (exfalso; omega)) <;> (try (exfalso; first | contradiction | (simp [ByteArray.toList_eq] at hb; done))) <;> (conv => whnf)) | (refine (hQ _ _ _ ?_).1; (conv => whnf)) | (refine ⟨_, rfl, ?_⟩; (conv => whnf)) | (refine ⟨_, mp_cut _ _ _, ?_⟩; (conv => whnf)) | (refine ⟨_, dbs_cut _ _ _, ?_⟩; (conv => whnf)) | (refine ⟨[_], rfl, ?_⟩; (conv => whnf)) | (refine ⟨[_, _], rfl, ?_⟩; (conv => whnf)) | (refine ⟨[_, _, _], rfl, ?_⟩; (conv => whnf)) | (refine ⟨[_, _, _, _], rfl, ?_⟩; (conv => whnf)) | (refine call_pure (mf) (fun F => by first | exact rfl | (simp only [TV.rens, TV.ren, dbs_ren]; rfl) | (simp only [TV.rens, TV.ren, List.map_cons, List.map_nil, List.map_append, DV.ren, dbs_ren, map_ren_p]; done)) (fun F => by first | exact rfl | (simp only [TV.rens, TV.ren, dbs_ren]; rfl) | (simp only [TV.rens, TV.ren, List.map_cons, List.map_nil, List.map_append, DV.ren, dbs_ren, map_ren_p]; done)) ?_ ?_; (focus ((repeat' (first | exact trivial | (refine sub_store ?_ rfl; assumption) | (refine sub_agg2 ?_; ((conv => whnf); (repeat (refine And.intro ?_ ?_; (focus (first | exact Or.inl rfl | exact Or.inr ⟨rfl, rfl⟩)); (conv => whnf))); exact trivial)) | (refine sub_agg_take rfl ?_; assumption) | exact Sub.refl _ | exact sub_nil | exact Or.inl rfl | exact Or.inr ⟨rfl, rfl⟩ | (refine sub_ref ?_; (first | omega | (simp; done) | (simp; omega))) | (refine sub_int ?_; (first | omega | rfl | (simp [bsz]; done))) | refine sub_tup ?_ | exact sub_agg_dbs_r | exact sub_agg_take_r rfl (by first | assumption | omega) | (refine sub_agg_take rfl ?_; (first | ((try rw [dbs_length]); assumption) | ((try rw [dbs_length]); omega))) | refine sub_agg ?_ | (refine sub_val ?_ ?_ <;> (first | omega | (simp [pb, List.map_take, List.map_drop, List.take_take]; done) | (simp [pb, List.map_take, List.map_drop]; omega) | (simp [pb, List.take_of_length_le]; done))) | (refine or_val ?_ ?_ <;> (first | omega | (simp [pb, List.map_take, List.map_drop, List.take_take]; done) | (simp [pb, List.map_take, List.map_drop]; omega) | (simp [pb, List.take_of_length_le]; done))) | refine And.intro ?_ ?_)); done)); (conv => whnf)) | (refine call_newp (m1) (fun F => by first | exact rfl | (simp only [TV.rens, TV.ren, List.map_cons, List.map_nil, List.map_append, DV.ren, dbs_ren, map_ren_p]; done)) (fun F => by first | exact rfl | exact bob_ren F _ | exact ob_ren F _ _) ?_ ?_; (focus ((repeat' (first | exact trivial | (refine sub_store ?_ rfl; assumption) | (refine sub_agg2 ?_; ((conv => whnf); (repeat (refine And.intro ?_ ?_; (focus (first | exact Or.inl rfl | exact Or.inr ⟨rfl, rfl⟩)); (conv => whnf))); exact trivial)) | (refine sub_agg_take rfl ?_; assumption) | exact Sub.refl _ | exact sub_nil | exact Or.inl rfl | exact Or.inr ⟨rfl, rfl⟩ | (refine sub_ref ?_; (first | omega | (simp; done) | (simp; omega))) | (refine sub_int ?_; (first | omega | rfl | (simp [bsz]; done))) | refine sub_tup ?_ | exact sub_agg_dbs_r | exact sub_agg_take_r rfl (by first | assumption | omega) | (refine sub_agg_take rfl ?_; (first | ((try rw [dbs_length]); assumption) | ((try rw [dbs_length]); omega))) | refine sub_agg ?_ | (refine sub_val ?_ ?_ <;> (first | omega | (simp [pb, List.map_take, List.map_drop, List.take_take]; done) | (simp [pb, List.map_take, List.map_drop]; omega) | (simp [pb, List.take_of_length_le]; done))) | (refine or_val ?_ ?_ <;> (first | omega | (simp [pb, List.map_take, List.map_drop, List.take_take]; done) | (simp [pb, List.map_take, List.map_drop]; omega) | (simp [pb, List.take_of_length_le]; done))) | refine And.intro ?_ ?_)); done)); (conv => whnf)) | (simp only [ht, dbs_at hat]; (conv => whnf)) | fail)
      refine ⟨⟨[(7, .c (bs w2))], [], 4⟩, (Wk.freeze 2 T_u8 (pb w2) (hp_eq rfl hs)).trans (wkn [] rfl rfl ⟨hcut, trivial⟩ trivial), ?_⟩
      (conv => whnf); repeat' (first | (simp only [ba_app, ← hb2]; (conv => whnf)) | (refine And.intro ?_ ?_; (focus (first | omega | (dsimp only; omega) | (simp only [List.length_append]; omega) | (simp [pb]; done) | (simp [pb]; omega) | (simp [zeros_u8, pb]; done) | (simp [zeros_u8, pb]; omega) | (simp [ByteArray.size]; omega) | exact Nat.le_of_ble_eq_true rfl | exact u64_nonneg _ | (show chkDraw _ _ = true; kernel_rfl) | (decide; done))); (conv => whnf)) | (refine onB_intro (fun hb => ?_) (fun hb => ?_) <;> (try simp only [decide_eq_true_eq, decide_eq_false_iff_not, Bool.not_eq_true', Bool.not_eq_false', Bool.and_eq_true, Bool.and_eq_false_iff, Int.not_le, Int.not_lt, bsz, ByteArray.toList_eq, beq_iff_eq, beq_eq_false_iff_ne, ne_eq] at hb) <;> (try (exfalso; omega)) <;> (try (exfalso; first | contradiction | (simp [ByteArray.toList_eq] at hb; done))) <;> (conv => whnf)) | (refine (hQ _ _ _ ?_).1; (conv => whnf)) | (refine ⟨_, rfl, ?_⟩; (conv => whnf)) | (refine ⟨_, mp_cut _ _ _, ?_⟩; (conv => whnf)) | (refine ⟨_, dbs_cut _ _ _, ?_⟩; (conv => whnf)) | (refine ⟨[_], rfl, ?_⟩; (conv => whnf)) | (refine ⟨[_, _], rfl, ?_⟩; (conv => whnf)) | (refine ⟨[_, _, _], rfl, ?_⟩; (conv => whnf)) | (refine ⟨[_, _, _, _], rfl, ?_⟩; (conv => whnf)) | (refine call_pure (r1) (fun F => by first | exact rfl | (simp only [TV.rens, TV.ren, dbs_ren]; rfl) | (simp only [TV.rens, TV.ren, List.map_cons, List.map_nil, List.map_append, DV.ren, dbs_ren, map_ren_p]; done)) (fun F => by first | exact rfl | (simp only [TV.rens, TV.ren, dbs_ren]; rfl) | (simp only [TV.rens, TV.ren, List.map_cons, List.map_nil, List.map_append, DV.ren, dbs_ren, map_ren_p]; done)) ?_ ?_; (focus ((repeat' (first | exact trivial | (refine sub_store ?_ rfl; assumption) | (refine sub_agg2 ?_; ((conv => whnf); (repeat (refine And.intro ?_ ?_; (focus (first | exact Or.inl rfl | exact Or.inr ⟨rfl, rfl⟩)); (conv => whnf))); exact trivial)) | (refine sub_agg_take rfl ?_; assumption) | exact Sub.refl _ | exact sub_nil | exact Or.inl rfl | exact Or.inr ⟨rfl, rfl⟩ | (refine sub_ref ?_; (first | omega | (simp; done) | (simp; omega))) | (refine sub_int ?_; (first | omega | rfl | (simp [bsz]; done))) | refine sub_tup ?_ | exact sub_agg_dbs_r | exact sub_agg_take_r rfl (by first | assumption | omega) | (refine sub_agg_take rfl ?_; (first | ((try rw [dbs_length]); assumption) | ((try rw [dbs_length]); omega))) | refine sub_agg ?_ | (refine sub_val ?_ ?_ <;> (first | omega | (simp [pb, List.map_take, List.map_drop, List.take_take]; done) | (simp [pb, List.map_take, List.map_drop]; omega) | (simp [pb, List.take_of_length_le]; done))) | (refine or_val ?_ ?_ <;> (first | omega | (simp [pb, List.map_take, List.map_drop, List.take_take]; done) | (simp [pb, List.map_take, List.map_drop]; omega) | (simp [pb, List.take_of_length_le]; done))) | refine And.intro ?_ ?_)); done)); (conv => whnf)) | (refine call_pure (a1) (fun F => by first | exact rfl | (simp only [TV.rens, TV.ren, dbs_ren]; rfl) | (simp only [TV.rens, TV.ren, List.map_cons, List.map_nil, List.map_append, DV.ren, dbs_ren, map_ren_p]; done)) (fun F => by first | exact rfl | (simp only [TV.rens, TV.ren, dbs_ren]; rfl) | (simp only [TV.rens, TV.ren, List.map_cons, List.map_nil, List.map_append, DV.ren, dbs_ren, map_ren_p]; done)) ?_ ?_; (focus ((repeat' (first | exact trivial | (refine sub_store ?_ rfl; assumption) | (refine sub_agg2 ?_; ((conv => whnf); (repeat (refine And.intro ?_ ?_; (focus (first | exact Or.inl rfl | exact Or.inr ⟨rfl, rfl⟩)); (conv => whnf))); exact trivial)) | (refine sub_agg_take rfl ?_; assumption) | exact Sub.refl _ | exact sub_nil | exact Or.inl rfl | exact Or.inr ⟨rfl, rfl⟩ | (refine sub_ref ?_; (first | omega | (simp; done) | (simp; omega))) | (refine sub_int ?_; (first | omega | rfl | (simp [bsz]; done))) | refine sub_tup ?_ | exact sub_agg_dbs_r | exact sub_agg_take_r rfl (by first | assumption | omega) | (refine sub_agg_take rfl ?_; (first | ((try rw [dbs_length]); assumption) | ((try rw [dbs_length]); omega))) | refine sub_agg ?_ | (refine sub_val ?_ ?_ <;> (first | omega | (simp [pb, List.map_take, List.map_drop, List.take_take]; done) | (simp [pb, List.map_take, List.map_drop]; omega) | (simp [pb, List.take_of_length_le]; done))) | (refine or_val ?_ ?_ <;> (first | omega | (simp [pb, List.map_take, List.map_drop, List.take_take]; done) | (simp [pb, List.map_take, List.map_drop]; omega) | (simp [pb, List.take_of_length_le]; done))) | refine And.intro ?_ ?_)); done)); (conv => whnf)) | (refine call_pure (awake26_meets) (fun F => by first | exact rfl | (simp only [TV.rens, TV.ren, dbs_ren]; rfl) | (simp only [TV.rens, TV.ren, List.map_cons, List.map_nil, List.map_append, DV.ren, dbs_ren, map_ren_p]; done)) (fun F => by first | exact rfl | (simp only [TV.rens, TV.ren, dbs_ren]; rfl) | (simp only [TV.rens, TV.ren, List.map_cons, List.map_nil, List.map_append, DV.ren, dbs_ren, map_ren_p]; done)) ?_ ?_; (focus ((repeat' (first | exact trivial | (refine sub_store ?_ rfl; assumption) | (refine sub_agg2 ?_; ((conv => whnf); (repeat (refine And.intro ?_ ?_; (focus (first | exact Or.inl rfl | exact Or.inr ⟨rfl, rfl⟩)); (conv => whnf))); exact trivial)) | (refine sub_agg_take rfl ?_; assumption) | exact Sub.refl _ | exact sub_nil | exact Or.inl rfl | exact Or.inr ⟨rfl, rfl⟩ | (refine sub_ref ?_; (first | omega | (simp; done) | (simp; omega))) | (refine sub_int ?_; (first | omega | rfl | (simp [bsz]; done))) | refine sub_tup ?_ | exact sub_agg_dbs_r | exact sub_agg_take_r rfl (by first | assumption | omega) | (refine sub_agg_take rfl ?_; (first | ((try rw [dbs_length]); assumption) | ((try rw [dbs_length]); omega))) | refine sub_agg ?_ | (refine sub_val ?_ ?_ <;> (first | omega | (simp [pb, List.map_take, List.map_drop, List.take_take]; done) | (simp [pb, List.map_take, List.map_drop]; omega) | (simp [pb, List.take_of_length_le]; done))) | (refine or_val ?_ ?_ <;> (first | omega | (simp [pb, List.map_take, List.map_drop, List.take_take]; done) | (simp [pb, List.map_take, List.map_drop]; omega) | (simp [pb, List.take_of_length_le]; done))) | refine And.intro ?_ ?_)); done)); (conv => whnf)) | fail)
      all_goals (first | exact RetOk.pure' (fun f => rfl) (Sub.refl _) | (trace_state; fail))
    · rw [if_neg he] at r1
      dsimp only at r1
      refine fitsg_erasurelaw26CodecOnly.meets rfl (by simp) fun Q hQ => ?_
      (conv => whnf); repeat' (first | (refine And.intro ?_ ?_; (focus (first | omega | (dsimp only; omega) | (simp only [List.length_append]; omega) | (simp [pb]; done) | (simp [pb]; omega) | (simp [zeros_u8, pb]; done) | (simp [zeros_u8, pb]; omega) | (simp [ByteArray.size]; omega) | exact Nat.le_of_ble_eq_true rfl | exact u64_nonneg _ | (show chkDraw _ _ = true; kernel_rfl) | (decide; done))); (conv => whnf)) | (refine onB_intro (fun hb => ?_) (fun hb => ?_) <;> (try simp only [decide_eq_true_eq, decide_eq_false_iff_not, Bool.not_eq_true', Bool.not_eq_false', Bool.and_eq_true, Bool.and_eq_false_iff, Int.not_le, Int.not_lt, bsz, ByteArray.toList_eq, beq_iff_eq, beq_eq_false_iff_ne, ne_eq] at hb) <;> (try (exfalso; omega)) <;> (try (exfalso; first | contradiction | (simp [ByteArray.toList_eq] at hb; done))) <;> (conv => whnf)) | (refine (hQ _ _ _ ?_).1; (conv => whnf)) | (refine ⟨_, rfl, ?_⟩; (conv => whnf)) | (refine ⟨_, mp_cut _ _ _, ?_⟩; (conv => whnf)) | (refine ⟨_, dbs_cut _ _ _, ?_⟩; (conv => whnf)) | (refine ⟨[_], rfl, ?_⟩; (conv => whnf)) | (refine ⟨[_, _], rfl, ?_⟩; (conv => whnf)) | (refine ⟨[_, _, _], rfl, ?_⟩; (conv => whnf)) | (refine ⟨[_, _, _, _], rfl, ?_⟩; (conv => whnf)) | (refine call_pure (mf) (fun F => by first | exact rfl | (simp only [TV.rens, TV.ren, dbs_ren]; rfl) | (simp only [TV.rens, TV.ren, List.map_cons, List.map_nil, List.map_append, DV.ren, dbs_ren, map_ren_p]; done)) (fun F => by first | exact rfl | (simp only [TV.rens, TV.ren, dbs_ren]; rfl) | (simp only [TV.rens, TV.ren, List.map_cons, List.map_nil, List.map_append, DV.ren, dbs_ren, map_ren_p]; done)) ?_ ?_; (focus ((repeat' (first | exact trivial | (refine sub_store ?_ rfl; assumption) | (refine sub_agg2 ?_; ((conv => whnf); (repeat (refine And.intro ?_ ?_; (focus (first | exact Or.inl rfl | exact Or.inr ⟨rfl, rfl⟩)); (conv => whnf))); exact trivial)) | (refine sub_agg_take rfl ?_; assumption) | exact Sub.refl _ | exact sub_nil | exact Or.inl rfl | exact Or.inr ⟨rfl, rfl⟩ | (refine sub_ref ?_; (first | omega | (simp; done) | (simp; omega))) | (refine sub_int ?_; (first | omega | rfl | (simp [bsz]; done))) | refine sub_tup ?_ | exact sub_agg_dbs_r | exact sub_agg_take_r rfl (by first | assumption | omega) | (refine sub_agg_take rfl ?_; (first | ((try rw [dbs_length]); assumption) | ((try rw [dbs_length]); omega))) | refine sub_agg ?_ | (refine sub_val ?_ ?_ <;> (first | omega | (simp [pb, List.map_take, List.map_drop, List.take_take]; done) | (simp [pb, List.map_take, List.map_drop]; omega) | (simp [pb, List.take_of_length_le]; done))) | (refine or_val ?_ ?_ <;> (first | omega | (simp [pb, List.map_take, List.map_drop, List.take_take]; done) | (simp [pb, List.map_take, List.map_drop]; omega) | (simp [pb, List.take_of_length_le]; done))) | refine And.intro ?_ ?_)); done)); (conv => whnf)) | (refine call_newp (m1) (fun F => by first | exact rfl | (simp only [TV.rens, TV.ren, List.map_cons, List.map_nil, List.map_append, DV.ren, dbs_ren, map_ren_p]; done)) (fun F => by first | exact rfl | exact bob_ren F _ | exact ob_ren F _ _) ?_ ?_; (focus ((repeat' (first | exact trivial | (refine sub_store ?_ rfl; assumption) | (refine sub_agg2 ?_; ((conv => whnf); (repeat (refine And.intro ?_ ?_; (focus (first | exact Or.inl rfl | exact Or.inr ⟨rfl, rfl⟩)); (conv => whnf))); exact trivial)) | (refine sub_agg_take rfl ?_; assumption) | exact Sub.refl _ | exact sub_nil | exact Or.inl rfl | exact Or.inr ⟨rfl, rfl⟩ | (refine sub_ref ?_; (first | omega | (simp; done) | (simp; omega))) | (refine sub_int ?_; (first | omega | rfl | (simp [bsz]; done))) | refine sub_tup ?_ | exact sub_agg_dbs_r | exact sub_agg_take_r rfl (by first | assumption | omega) | (refine sub_agg_take rfl ?_; (first | ((try rw [dbs_length]); assumption) | ((try rw [dbs_length]); omega))) | refine sub_agg ?_ | (refine sub_val ?_ ?_ <;> (first | omega | (simp [pb, List.map_take, List.map_drop, List.take_take]; done) | (simp [pb, List.map_take, List.map_drop]; omega) | (simp [pb, List.take_of_length_le]; done))) | (refine or_val ?_ ?_ <;> (first | omega | (simp [pb, List.map_take, List.map_drop, List.take_take]; done) | (simp [pb, List.map_take, List.map_drop]; omega) | (simp [pb, List.take_of_length_le]; done))) | refine And.intro ?_ ?_)); done)); (conv => whnf)) | (simp only [ht, dbs_at hat]; (conv => whnf)) | fail)
      refine ⟨⟨[(7, .c (bs w2))], [], 4⟩, (Wk.freeze 2 T_u8 (pb w2) (hp_eq rfl hs)).trans (wkn [] rfl rfl ⟨hcut, trivial⟩ trivial), ?_⟩
      (conv => whnf); repeat' (first | (refine And.intro ?_ ?_; (focus (first | omega | (dsimp only; omega) | (simp only [List.length_append]; omega) | (simp [pb]; done) | (simp [pb]; omega) | (simp [zeros_u8, pb]; done) | (simp [zeros_u8, pb]; omega) | (simp [ByteArray.size]; omega) | exact Nat.le_of_ble_eq_true rfl | exact u64_nonneg _ | (show chkDraw _ _ = true; kernel_rfl) | (decide; done))); (conv => whnf)) | (refine onB_intro (fun hb => ?_) (fun hb => ?_) <;> (try simp only [decide_eq_true_eq, decide_eq_false_iff_not, Bool.not_eq_true', Bool.not_eq_false', Bool.and_eq_true, Bool.and_eq_false_iff, Int.not_le, Int.not_lt, bsz, ByteArray.toList_eq, beq_iff_eq, beq_eq_false_iff_ne, ne_eq] at hb) <;> (try (exfalso; omega)) <;> (try (exfalso; first | contradiction | (simp [ByteArray.toList_eq] at hb; done))) <;> (conv => whnf)) | (refine (hQ _ _ _ ?_).1; (conv => whnf)) | (refine ⟨_, rfl, ?_⟩; (conv => whnf)) | (refine ⟨_, mp_cut _ _ _, ?_⟩; (conv => whnf)) | (refine ⟨_, dbs_cut _ _ _, ?_⟩; (conv => whnf)) | (refine ⟨[_], rfl, ?_⟩; (conv => whnf)) | (refine ⟨[_, _], rfl, ?_⟩; (conv => whnf)) | (refine ⟨[_, _, _], rfl, ?_⟩; (conv => whnf)) | (refine ⟨[_, _, _, _], rfl, ?_⟩; (conv => whnf)) | (refine call_pure (r1) (fun F => by first | exact rfl | (simp only [TV.rens, TV.ren, dbs_ren]; rfl) | (simp only [TV.rens, TV.ren, List.map_cons, List.map_nil, List.map_append, DV.ren, dbs_ren, map_ren_p]; done)) (fun F => by first | exact rfl | (simp only [TV.rens, TV.ren, dbs_ren]; rfl) | (simp only [TV.rens, TV.ren, List.map_cons, List.map_nil, List.map_append, DV.ren, dbs_ren, map_ren_p]; done)) ?_ ?_; (focus ((repeat' (first | exact trivial | (refine sub_store ?_ rfl; assumption) | (refine sub_agg2 ?_; ((conv => whnf); (repeat (refine And.intro ?_ ?_; (focus (first | exact Or.inl rfl | exact Or.inr ⟨rfl, rfl⟩)); (conv => whnf))); exact trivial)) | (refine sub_agg_take rfl ?_; assumption) | exact Sub.refl _ | exact sub_nil | exact Or.inl rfl | exact Or.inr ⟨rfl, rfl⟩ | (refine sub_ref ?_; (first | omega | (simp; done) | (simp; omega))) | (refine sub_int ?_; (first | omega | rfl | (simp [bsz]; done))) | refine sub_tup ?_ | exact sub_agg_dbs_r | exact sub_agg_take_r rfl (by first | assumption | omega) | (refine sub_agg_take rfl ?_; (first | ((try rw [dbs_length]); assumption) | ((try rw [dbs_length]); omega))) | refine sub_agg ?_ | (refine sub_val ?_ ?_ <;> (first | omega | (simp [pb, List.map_take, List.map_drop, List.take_take]; done) | (simp [pb, List.map_take, List.map_drop]; omega) | (simp [pb, List.take_of_length_le]; done))) | (refine or_val ?_ ?_ <;> (first | omega | (simp [pb, List.map_take, List.map_drop, List.take_take]; done) | (simp [pb, List.map_take, List.map_drop]; omega) | (simp [pb, List.take_of_length_le]; done))) | refine And.intro ?_ ?_)); done)); (conv => whnf)) | (refine call_pure (LE.zero_self) (fun F => by first | exact rfl | (simp only [TV.rens, TV.ren, dbs_ren]; rfl) | (simp only [TV.rens, TV.ren, List.map_cons, List.map_nil, List.map_append, DV.ren, dbs_ren, map_ren_p]; done)) (fun F => by first | exact rfl | (simp only [TV.rens, TV.ren, dbs_ren]; rfl) | (simp only [TV.rens, TV.ren, List.map_cons, List.map_nil, List.map_append, DV.ren, dbs_ren, map_ren_p]; done)) ?_ ?_; (focus ((repeat' (first | exact trivial | (refine sub_store ?_ rfl; assumption) | (refine sub_agg2 ?_; ((conv => whnf); (repeat (refine And.intro ?_ ?_; (focus (first | exact Or.inl rfl | exact Or.inr ⟨rfl, rfl⟩)); (conv => whnf))); exact trivial)) | (refine sub_agg_take rfl ?_; assumption) | exact Sub.refl _ | exact sub_nil | exact Or.inl rfl | exact Or.inr ⟨rfl, rfl⟩ | (refine sub_ref ?_; (first | omega | (simp; done) | (simp; omega))) | (refine sub_int ?_; (first | omega | rfl | (simp [bsz]; done))) | refine sub_tup ?_ | exact sub_agg_dbs_r | exact sub_agg_take_r rfl (by first | assumption | omega) | (refine sub_agg_take rfl ?_; (first | ((try rw [dbs_length]); assumption) | ((try rw [dbs_length]); omega))) | refine sub_agg ?_ | (refine sub_val ?_ ?_ <;> (first | omega | (simp [pb, List.map_take, List.map_drop, List.take_take]; done) | (simp [pb, List.map_take, List.map_drop]; omega) | (simp [pb, List.take_of_length_le]; done))) | (refine or_val ?_ ?_ <;> (first | omega | (simp [pb, List.map_take, List.map_drop, List.take_take]; done) | (simp [pb, List.map_take, List.map_drop]; omega) | (simp [pb, List.take_of_length_le]; done))) | refine And.intro ?_ ?_)); done)); (conv => whnf)) | (refine call_pure (awake26_meets) (fun F => by first | exact rfl | (simp only [TV.rens, TV.ren, dbs_ren]; rfl) | (simp only [TV.rens, TV.ren, List.map_cons, List.map_nil, List.map_append, DV.ren, dbs_ren, map_ren_p]; done)) (fun F => by first | exact rfl | (simp only [TV.rens, TV.ren, dbs_ren]; rfl) | (simp only [TV.rens, TV.ren, List.map_cons, List.map_nil, List.map_append, DV.ren, dbs_ren, map_ren_p]; done)) ?_ ?_; (focus ((repeat' (first | exact trivial | (refine sub_store ?_ rfl; assumption) | (refine sub_agg2 ?_; ((conv => whnf); (repeat (refine And.intro ?_ ?_; (focus (first | exact Or.inl rfl | exact Or.inr ⟨rfl, rfl⟩)); (conv => whnf))); exact trivial)) | (refine sub_agg_take rfl ?_; assumption) | exact Sub.refl _ | exact sub_nil | exact Or.inl rfl | exact Or.inr ⟨rfl, rfl⟩ | (refine sub_ref ?_; (first | omega | (simp; done) | (simp; omega))) | (refine sub_int ?_; (first | omega | rfl | (simp [bsz]; done))) | refine sub_tup ?_ | exact sub_agg_dbs_r | exact sub_agg_take_r rfl (by first | assumption | omega) | (refine sub_agg_take rfl ?_; (first | ((try rw [dbs_length]); assumption) | ((try rw [dbs_length]); omega))) | refine sub_agg ?_ | (refine sub_val ?_ ?_ <;> (first | omega | (simp [pb, List.map_take, List.map_drop, List.take_take]; done) | (simp [pb, List.map_take, List.map_drop]; omega) | (simp [pb, List.take_of_length_le]; done))) | (refine or_val ?_ ?_ <;> (first | omega | (simp [pb, List.map_take, List.map_drop, List.take_take]; done) | (simp [pb, List.map_take, List.map_drop]; omega) | (simp [pb, List.take_of_length_le]; done))) | refine And.intro ?_ ?_)); done)); (conv => whnf)) | fail)
      all_goals (first | exact RetOk.pure' (fun f => rfl) (Sub.refl _) | (trace_state; fail))
theorem only_law (pss : List (List PV)) (h : IsAll [rLE, rInt, rByte] pss) : Meets Try.prog F_erasurelaw26CodecOnly ⟨tvs [rLE, rInt, rByte] pss, [], 0, vb true, [], 0⟩ := by
  obtain ⟨x, _, rfl, hx, h⟩ := isAll_cons h
  obtain ⟨y, _, rfl, hy, h⟩ := isAll_cons h
  obtain ⟨z, _, rfl, hz, h⟩ := isAll_cons h
  obtain rfl := isAll_nil h
  obtain ⟨e, rfl, he⟩ := is_le hx
  obtain ⟨c, rfl, hc⟩ := is_int hy
  obtain ⟨b, rfl⟩ := is_byte hz
  exact only_meets e c b he hc
end Go.Proofs.Ytjieenfbfckafaa.Am

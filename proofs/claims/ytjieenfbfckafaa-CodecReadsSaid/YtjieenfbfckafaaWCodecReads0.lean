/- What the claim of CodecReads reaches, part 0. -/
import Derived.Test.YtjieenfbfckafaaPackLib
namespace Go.Proofs.Ytjieenfbfckafaa.Am
open Go
set_option maxRecDepth 100000
set_option maxHeartbeats 1000000
theorem zq0 {p : Prop} (h : p := by first | ((repeat' (first | exact trivial | exact Sub.refl _ | exact sub_nil | exact Or.inl rfl | exact Or.inr ⟨rfl, rfl⟩ | (refine sub_ref ?_; (first | omega | (simp; done) | (simp; omega))) | (refine sub_int ?_; (first | omega | rfl | (simp [bsz]; done))) | refine sub_tup ?_ | exact sub_agg_dbs_r | exact sub_agg_take_r rfl (by first | assumption | omega) | (refine sub_agg_take rfl ?_; (first | ((try rw [dbs_length]); assumption) | ((try rw [dbs_length]); omega))) | refine sub_agg ?_ | (refine sub_val ?_ ?_ <;> (first | omega | (simp [pb, List.map_take, List.map_drop, List.take_take]; done) | (simp [pb, List.map_take, List.map_drop]; omega) | (simp [pb, List.take_of_length_le]; done))) | (refine or_val ?_ ?_ <;> (first | omega | (simp [pb, List.map_take, List.map_drop, List.take_take]; done) | (simp [pb, List.map_take, List.map_drop]; omega) | (simp [pb, List.take_of_length_le]; done))) | refine And.intro ?_ ?_)); done) | fail) : p := h
theorem zq1 {p : Prop} (h : p := by first | ((repeat' (first | exact trivial | (refine sub_store ?_ rfl; assumption) | (refine sub_agg2 ?_; ((conv => whnf); (repeat (refine And.intro ?_ ?_; (focus (first | exact Or.inl rfl | exact Or.inr ⟨rfl, rfl⟩)); (conv => whnf))); exact trivial)) | (refine sub_agg_take rfl ?_; assumption) | exact Sub.refl _ | exact sub_nil | exact Or.inl rfl | exact Or.inr ⟨rfl, rfl⟩ | (refine sub_ref ?_; (first | omega | (simp; done) | (simp; omega))) | (refine sub_int ?_; (first | omega | rfl | (simp [bsz]; done))) | refine sub_tup ?_ | exact sub_agg_dbs_r | exact sub_agg_take_r rfl (by first | assumption | omega) | (refine sub_agg_take rfl ?_; (first | ((try rw [dbs_length]); assumption) | ((try rw [dbs_length]); omega))) | refine sub_agg ?_ | (refine sub_val ?_ ?_ <;> (first | omega | (simp [pb, List.map_take, List.map_drop, List.take_take]; done) | (simp [pb, List.map_take, List.map_drop]; omega) | (simp [pb, List.take_of_length_le]; done))) | (refine or_val ?_ ?_ <;> (first | omega | (simp [pb, List.map_take, List.map_drop, List.take_take]; done) | (simp [pb, List.map_take, List.map_drop]; omega) | (simp [pb, List.take_of_length_le]; done))) | refine And.intro ?_ ?_)); done) | fail) : p := h
theorem zq2 {p : Prop} (h : p := by first | (first | exact rfl | exact hp_eq rfl (dbs_app _ _ _ rfl) | exact hp_eq rfl (dbs_appo _ _ _ _ rfl rfl) | (refine hp_eq rfl ?_; (simp only [bob, ← List.length_append, dbs_appo', dbs_app', bsz]; done)) | (refine hp_eq rfl ?_; (simp [dbs, pb]; done))) | fail) : p := h
theorem zq3 {p : Prop} (h : p := by first | (first | omega | (dsimp only; omega) | (simp only [List.length_append]; omega) | (simp [pb]; done) | (simp [pb]; omega) | (simp [zeros_u8, pb]; done) | (simp [zeros_u8, pb]; omega) | (simp [ByteArray.size]; omega) | exact Nat.le_of_ble_eq_true rfl | exact u64_nonneg _ | (show chkDraw _ _ = true; kernel_rfl) | (decide; done)) | fail) : p := h
theorem zq4 {p : Prop} (h : p := by first | (first | omega | (dsimp only; omega) | (simp only [List.length_append]; omega) | (simp [pb]; done) | (simp [pb]; omega) | (simp [zeros_u8, pb]; done) | (simp [zeros_u8, pb]; omega) | (simp [ByteArray.size]; omega) | exact Nat.le_of_ble_eq_true rfl | exact u64_nonneg _ | (refine chkDraw_ord ?_; kernel_rfl) | (decide; done)) | fail) : p := h
end Go.Proofs.Ytjieenfbfckafaa.Am
namespace Go.Proofs.Ytjieenfbfckafaa.Am
open Go
set_option linter.unusedVariables false
set_option linter.unusedSimpArgs false
def zz (n : Int) : Nat := if n < 0 then (-(2 * n) - 1).toNat else (2 * n).toNat
def encU (u : Nat) : List UInt8 := if u < 128 then [UInt8.ofNat u] else UInt8.ofNat (u % 128 + 128) :: encU (u / 128)
termination_by u
decreasing_by omega
def encInt (n : Int) : List UInt8 := encU (zz n)
theorem encU_lt {u : Nat} (h : u < 128) : encU u = [UInt8.ofNat u] := by rw [encU]; simp [h]
theorem encU_ge {u : Nat} (h : ¬ u < 128) : encU u = UInt8.ofNat (u % 128 + 128) :: encU (u / 128) := by rw [encU]; simp [h]
theorem zz_lt {n : Int} (h : inI64 n) : zz n < 18446744073709551616 := by
  obtain ⟨h1, h2⟩ := h
  unfold zz; split <;> omega
theorem encU_len : ∀ (k u : Nat), u < 128 ^ (k + 1) → (encU u).length ≤ k + 1 := by
  intro k
  induction k with
  | zero => intro u h; rw [encU_lt (by omega)]; simp
  | succ k ih =>
    intro u h
    by_cases hu : u < 128
    · rw [encU_lt hu]; simp
    · rw [encU_ge hu]
      have := ih (u / 128) (by rw [Nat.pow_succ] at h; exact Nat.div_lt_of_lt_mul (by rw [Nat.mul_comm]; exact h))
      simp; exact this
theorem encInt_len {n : Int} (h : inI64 n) : (encInt n).length ≤ 10 := encU_len 9 _ (Nat.lt_trans (zz_lt h) (by decide))
abbrev sval (t : List UInt8) : Value := .string ⟨t.toArray⟩
abbrev pst (t : List UInt8) : PV := .v (sval t)
abbrev tst (t : List UInt8) : TV := .c (.p (pst t))
structure Val where
  k : Int
  i : Int
  t : List UInt8
def Val.null : Val := ⟨0, 0, []⟩
abbrev Val.pv (v : Val) : List PV := [pi v.k, pi v.i, pst v.t]
abbrev Val.enc (v : Val) : List DV := [di v.k, di v.i, .p (pst v.t)]
def Val.valid (v : Val) : Bool :=
  if v.k = 0 then decide (v.i = 0) && decide (v.t = []) else if v.k = 1 then (decide (-4294967296 ≤ v.i) && decide (v.i ≤ 4294967296)) && decide (v.t = []) else if v.k = 2 then decide (v.i = 0) && decide (v.t.length ≤ 32) else false
def Val.clean (v : Val) : Val := if v.valid then v else Val.null
def encText (t : List UInt8) : List UInt8 := encInt t.length ++ t
def encVal' (v : Val) : List UInt8 := encInt v.k ++ (if v.k = 1 then encInt v.i else if v.k = 2 then encText v.t else [])
def encVal (v : Val) : List UInt8 := encVal' v.clean
def encRow (r : List Val) : List UInt8 := encInt r.length ++ r.flatMap encVal
end Go.Proofs.Ytjieenfbfckafaa.Am
namespace Go.Proofs.Ytjieenfbfckafaa.Am
open Go
set_option linter.unusedVariables false
set_option linter.unusedSimpArgs false
set_option maxRecDepth 100000
def r_codec_AppendInt_0 : ACode := .reg [
    ⟨some 4, none, .mov (.k (.slice none 0 0))⟩] none [0, 1]
def r_codec_AppendInt_1 : ACode := .reg [
    ⟨some 5, none, .mov (.t 0)⟩,
    ⟨some 6, none, .call 88 [(.t 5)]⟩,
    ⟨some 7, none, .mov (.t 1)⟩,
    ⟨some 8, none, .call 87 [(.t 6), (.t 7)]⟩,
    ⟨some 4, none, .mov (.t 8)⟩] none [4]
def c_codec_AppendInt : ACode :=
  (.seq r_codec_AppendInt_0
  (.seq r_codec_AppendInt_1
   .ret))
theorem fits_codec_AppendInt : Fits Try.prog 19 9 c_codec_AppendInt [.t 4] := ⟨⟨Try.f19, _, _, Try.func19, rfl, rfl, rfl, by decide, by kernel_rfl, by kernel_rfl⟩, Try.checked.mixed⟩
def r_codec_ReadInt_0 : ACode := .reg [
    ⟨some 2, none, .mov (.k (.int .i64 (0)))⟩,
    ⟨some 3, none, .mov (.k (.slice none 0 0))⟩,
    ⟨some 4, none, .mov (.k (.int .i64 (0)))⟩] none [0]
def r_codec_ReadInt_1 : ACode := .reg [
    ⟨some 7, none, .mov (.t 0)⟩,
    ⟨some 8, none, .build [.slice none 0 0, .int .i64 0] [(0, 1, (.t 7))]⟩,
    ⟨some 5, none, .alloc 152 [.slice none 0 0, .int .i64 0]⟩,
    ⟨none, none, .store 2 (.t 5) (.t 8)⟩] none [5]
def r_codec_ReadInt_2 : ACode := .reg [
    ⟨some 9, none, .call 89 [(.t 5)]⟩,
    ⟨some 6, none, .mov (.t 9)⟩] none [5, 6]
def r_codec_ReadInt_3 : ACode := .reg [
    ⟨some 10, none, .fld 1 (.t 5)⟩,
    ⟨some 11, none, .load none (.t 10)⟩,
    ⟨some 12, none, .bin .neq (.t 11) (.k (.int .i64 (0)))⟩] none [5, 6, 12]
def r_codec_ReadInt_4 : ACode := .reg [
    ⟨some 13, none, .fld 1 (.t 5)⟩,
    ⟨some 14, none, .load none (.t 13)⟩,
    ⟨some 2, none, .mov (.k (.int .i64 (0)))⟩,
    ⟨some 3, none, .mov (.k (.slice none 0 0))⟩,
    ⟨some 4, none, .mov (.t 14)⟩] (some [0, 1, 0, 4, 15]) [2, 3, 4]
def r_codec_ReadInt_5 : ACode := .reg [
    ⟨some 15, none, .mov (.t 6)⟩,
    ⟨some 16, none, .call 90 [(.t 5)]⟩,
    ⟨some 2, none, .mov (.t 15)⟩,
    ⟨some 3, none, .mov (.t 16)⟩,
    ⟨some 4, none, .mov (.k (.int .i64 (0)))⟩] none [2, 3, 4]
def c_codec_ReadInt : ACode :=
  (.seq r_codec_ReadInt_0
  (.seq r_codec_ReadInt_1
   (.seq r_codec_ReadInt_2
    (.seq (.seq r_codec_ReadInt_3
      (.cond (.t 12)
       (.seq r_codec_ReadInt_4
        .ret)
       .skip))
     (.seq r_codec_ReadInt_5
      .ret)))))
theorem fits_codec_ReadInt : Fits Try.prog 20 17 c_codec_ReadInt [.t 2, .t 3, .t 4] := ⟨⟨Try.f20, _, _, Try.func20, rfl, rfl, rfl, by decide, by kernel_rfl, by kernel_rfl⟩, Try.checked.mixed⟩
def r_codec_ReadVersions_0 : ACode := .reg [
    ⟨some 2, none, .mov (.k (.slice none 0 0))⟩,
    ⟨some 3, none, .mov (.k (.slice none 0 0))⟩,
    ⟨some 4, none, .mov (.k (.int .i64 (0)))⟩] none [0]
def r_codec_ReadVersions_1 : ACode := .reg [
    ⟨some 7, none, .mov (.t 0)⟩,
    ⟨some 8, none, .build [.slice none 0 0, .int .i64 0] [(0, 1, (.t 7))]⟩,
    ⟨some 5, none, .alloc 152 [.slice none 0 0, .int .i64 0]⟩,
    ⟨none, none, .store 2 (.t 5) (.t 8)⟩] none [5]
def r_codec_ReadVersions_2 : ACode := .reg [
    ⟨some 9, none, .call 96 [(.t 5)]⟩,
    ⟨some 6, none, .mov (.t 9)⟩] none [5, 6]
def r_codec_ReadVersions_3 : ACode := .reg [
    ⟨some 10, none, .fld 1 (.t 5)⟩,
    ⟨some 11, none, .load none (.t 10)⟩,
    ⟨some 12, none, .bin .neq (.t 11) (.k (.int .i64 (0)))⟩] none [5, 6, 12]
def r_codec_ReadVersions_4 : ACode := .reg [
    ⟨some 13, none, .fld 1 (.t 5)⟩,
    ⟨some 14, none, .load none (.t 13)⟩,
    ⟨some 2, none, .mov (.k (.slice none 0 0))⟩,
    ⟨some 3, none, .mov (.k (.slice none 0 0))⟩,
    ⟨some 4, none, .mov (.t 14)⟩] (some [0, 1, 0, 4, 15]) [2, 3, 4]
def r_codec_ReadVersions_5 : ACode := .reg [
    ⟨some 15, none, .mov (.t 6)⟩,
    ⟨some 16, none, .call 90 [(.t 5)]⟩,
    ⟨some 2, none, .mov (.t 15)⟩,
    ⟨some 3, none, .mov (.t 16)⟩,
    ⟨some 4, none, .mov (.k (.int .i64 (0)))⟩] none [2, 3, 4]
def c_codec_ReadVersions : ACode :=
  (.seq r_codec_ReadVersions_0
  (.seq r_codec_ReadVersions_1
   (.seq r_codec_ReadVersions_2
    (.seq (.seq r_codec_ReadVersions_3
      (.cond (.t 12)
       (.seq r_codec_ReadVersions_4
        .ret)
       .skip))
     (.seq r_codec_ReadVersions_5
      .ret)))))
theorem fits_codec_ReadVersions : Fits Try.prog 30 17 c_codec_ReadVersions [.t 2, .t 3, .t 4] := ⟨⟨Try.f30, _, _, Try.func30, rfl, rfl, rfl, by decide, by kernel_rfl, by kernel_rfl⟩, Try.checked.mixed⟩
def r_codec_ReadSources_0 : ACode := .reg [
    ⟨some 2, none, .mov (.k (.slice none 0 0))⟩,
    ⟨some 3, none, .mov (.k (.slice none 0 0))⟩,
    ⟨some 4, none, .mov (.k (.int .i64 (0)))⟩] none [0]
def r_codec_ReadSources_1 : ACode := .reg [
    ⟨some 7, none, .mov (.t 0)⟩,
    ⟨some 8, none, .build [.slice none 0 0, .int .i64 0] [(0, 1, (.t 7))]⟩,
    ⟨some 5, none, .alloc 152 [.slice none 0 0, .int .i64 0]⟩,
    ⟨none, none, .store 2 (.t 5) (.t 8)⟩] none [5]
def r_codec_ReadSources_2 : ACode := .reg [
    ⟨some 9, none, .call 98 [(.t 5)]⟩,
    ⟨some 6, none, .mov (.t 9)⟩] none [5, 6]
def r_codec_ReadSources_3 : ACode := .reg [
    ⟨some 10, none, .fld 1 (.t 5)⟩,
    ⟨some 11, none, .load none (.t 10)⟩,
    ⟨some 12, none, .bin .neq (.t 11) (.k (.int .i64 (0)))⟩] none [5, 6, 12]
def r_codec_ReadSources_4 : ACode := .reg [
    ⟨some 13, none, .fld 1 (.t 5)⟩,
    ⟨some 14, none, .load none (.t 13)⟩,
    ⟨some 2, none, .mov (.k (.slice none 0 0))⟩,
    ⟨some 3, none, .mov (.k (.slice none 0 0))⟩,
    ⟨some 4, none, .mov (.t 14)⟩] (some [0, 1, 0, 4, 15]) [2, 3, 4]
def r_codec_ReadSources_5 : ACode := .reg [
    ⟨some 15, none, .mov (.t 6)⟩,
    ⟨some 16, none, .call 90 [(.t 5)]⟩,
    ⟨some 2, none, .mov (.t 15)⟩,
    ⟨some 3, none, .mov (.t 16)⟩,
    ⟨some 4, none, .mov (.k (.int .i64 (0)))⟩] none [2, 3, 4]
def c_codec_ReadSources : ACode :=
  (.seq r_codec_ReadSources_0
  (.seq r_codec_ReadSources_1
   (.seq r_codec_ReadSources_2
    (.seq (.seq r_codec_ReadSources_3
      (.cond (.t 12)
       (.seq r_codec_ReadSources_4
        .ret)
       .skip))
     (.seq r_codec_ReadSources_5
      .ret)))))
theorem fits_codec_ReadSources : Fits Try.prog 32 17 c_codec_ReadSources [.t 2, .t 3, .t 4] := ⟨⟨Try.f32, _, _, Try.func32, rfl, rfl, rfl, by decide, by kernel_rfl, by kernel_rfl⟩, Try.checked.mixed⟩
def r_codec_ReadRow_0 : ACode := .reg [
    ⟨some 2, none, .mov (.k (.slice none 0 0))⟩,
    ⟨some 3, none, .mov (.k (.slice none 0 0))⟩,
    ⟨some 4, none, .mov (.k (.int .i64 (0)))⟩] none [0]
def r_codec_ReadRow_1 : ACode := .reg [
    ⟨some 7, none, .mov (.t 0)⟩,
    ⟨some 8, none, .build [.slice none 0 0, .int .i64 0] [(0, 1, (.t 7))]⟩,
    ⟨some 5, none, .alloc 152 [.slice none 0 0, .int .i64 0]⟩,
    ⟨none, none, .store 2 (.t 5) (.t 8)⟩] none [5]
def r_codec_ReadRow_2 : ACode := .reg [
    ⟨some 9, none, .call 103 [(.t 5)]⟩,
    ⟨some 6, none, .mov (.t 9)⟩] none [5, 6]
def r_codec_ReadRow_3 : ACode := .reg [
    ⟨some 10, none, .fld 1 (.t 5)⟩,
    ⟨some 11, none, .load none (.t 10)⟩,
    ⟨some 12, none, .bin .neq (.t 11) (.k (.int .i64 (0)))⟩] none [5, 6, 12]
def r_codec_ReadRow_4 : ACode := .reg [
    ⟨some 13, none, .fld 1 (.t 5)⟩,
    ⟨some 14, none, .load none (.t 13)⟩,
    ⟨some 2, none, .mov (.k (.slice none 0 0))⟩,
    ⟨some 3, none, .mov (.k (.slice none 0 0))⟩,
    ⟨some 4, none, .mov (.t 14)⟩] (some [0, 1, 0, 4, 15]) [2, 3, 4]
def r_codec_ReadRow_5 : ACode := .reg [
    ⟨some 15, none, .mov (.t 6)⟩,
    ⟨some 16, none, .call 90 [(.t 5)]⟩,
    ⟨some 2, none, .mov (.t 15)⟩,
    ⟨some 3, none, .mov (.t 16)⟩,
    ⟨some 4, none, .mov (.k (.int .i64 (0)))⟩] none [2, 3, 4]
def c_codec_ReadRow : ACode :=
  (.seq r_codec_ReadRow_0
  (.seq r_codec_ReadRow_1
   (.seq r_codec_ReadRow_2
    (.seq (.seq r_codec_ReadRow_3
      (.cond (.t 12)
       (.seq r_codec_ReadRow_4
        .ret)
       .skip))
     (.seq r_codec_ReadRow_5
      .ret)))))
theorem fits_codec_ReadRow : Fits Try.prog 39 17 c_codec_ReadRow [.t 2, .t 3, .t 4] := ⟨⟨Try.f39, _, _, Try.func39, rfl, rfl, rfl, by decide, by kernel_rfl, by kernel_rfl⟩, Try.checked.mixed⟩
def r_codec_ReadValue_0 : ACode := .reg [
    ⟨some 2, none, .alloc 67 [.int .i64 0, .int .i64 0, .string ⟨#[]⟩]⟩,
    ⟨some 3, none, .mov (.k (.slice none 0 0))⟩,
    ⟨some 4, none, .mov (.k (.int .i64 (0)))⟩] none [0, 2]
def r_codec_ReadValue_1 : ACode := .reg [
    ⟨some 7, none, .mov (.t 0)⟩,
    ⟨some 8, none, .build [.slice none 0 0, .int .i64 0] [(0, 1, (.t 7))]⟩,
    ⟨some 5, none, .alloc 152 [.slice none 0 0, .int .i64 0]⟩,
    ⟨none, none, .store 2 (.t 5) (.t 8)⟩] none [2, 5]
def r_codec_ReadValue_2 : ACode := .reg [
    ⟨some 9, none, .call 105 [(.t 5)]⟩,
    ⟨some 6, none, .alloc 67 [.int .i64 0, .int .i64 0, .string ⟨#[]⟩]⟩,
    ⟨none, none, .store 3 (.t 6) (.t 9)⟩] none [2, 5, 6]
def r_codec_ReadValue_3 : ACode := .reg [
    ⟨some 10, none, .fld 1 (.t 5)⟩,
    ⟨some 11, none, .load none (.t 10)⟩,
    ⟨some 12, none, .bin .neq (.t 11) (.k (.int .i64 (0)))⟩] none [2, 5, 6, 12]
def r_codec_ReadValue_4 : ACode := .reg [
    ⟨some 13, none, .build [.int .i64 0, .int .i64 0, .string ⟨#[]⟩] []⟩,
    ⟨some 14, none, .fld 1 (.t 5)⟩,
    ⟨some 15, none, .load none (.t 14)⟩,
    ⟨none, none, .store 3 (.t 2) (.t 13)⟩,
    ⟨some 3, none, .mov (.k (.slice none 0 0))⟩,
    ⟨some 4, none, .mov (.t 15)⟩] (some [0, 0, 2, 1, 9, 31]) [2, 3, 4]
def r_codec_ReadValue_5 : ACode := .reg [
    ⟨some 16, none, .load (some 3) (.t 6)⟩,
    ⟨some 17, none, .call 90 [(.t 5)]⟩,
    ⟨none, none, .store 3 (.t 2) (.t 16)⟩,
    ⟨some 3, none, .mov (.t 17)⟩,
    ⟨some 4, none, .mov (.k (.int .i64 (0)))⟩] (some [0, 0, 3, 7, 15]) [2, 3, 4]
def c_codec_ReadValue : ACode :=
  (.seq r_codec_ReadValue_0
  (.seq r_codec_ReadValue_1
   (.seq r_codec_ReadValue_2
    (.seq (.seq r_codec_ReadValue_3
      (.cond (.t 12)
       (.seq r_codec_ReadValue_4
        .ret)
       .skip))
     (.seq r_codec_ReadValue_5
      .ret)))))
theorem fits_codec_ReadValue : Fits Try.prog 41 18 c_codec_ReadValue [.c 2 (some 3), .t 3, .t 4] := ⟨⟨Try.f41, _, _, Try.func41, rfl, rfl, rfl, by decide, by kernel_rfl, by kernel_rfl⟩, Try.checked.mixed⟩
def r_codec_ReadBag_0 : ACode := .reg [
    ⟨some 2, none, .mov (.k (.slice none 0 0))⟩,
    ⟨some 3, none, .mov (.k (.slice none 0 0))⟩,
    ⟨some 4, none, .mov (.k (.int .i64 (0)))⟩] none [0]
def r_codec_ReadBag_1 : ACode := .reg [
    ⟨some 10, none, .mov (.t 0)⟩,
    ⟨some 11, none, .build [.slice none 0 0, .int .i64 0] [(0, 1, (.t 10))]⟩,
    ⟨some 5, none, .alloc 152 [.slice none 0 0, .int .i64 0]⟩,
    ⟨none, none, .store 2 (.t 5) (.t 11)⟩] none [5]
def r_codec_ReadBag_2 : ACode := .reg [
    ⟨some 12, none, .call 108 [(.t 5), (.k (.int .i64 (4096)))]⟩,
    ⟨some 6, none, .mov (.t 12)⟩] none [5, 6]
def r_codec_ReadBag_3 : ACode := .reg [
    ⟨some 7, none, .mov (.k (.slice none 0 0))⟩] none [5, 6, 7]
def r_codec_ReadBag_4 : ACode := .reg [
    ⟨some 8, none, .mov (.k (.int .i64 (0)))⟩] none [5, 6, 7, 8]
def r_codec_ReadBag_5 : ACode := .reg [
    ⟨some 13, none, .mov (.t 8)⟩,
    ⟨some 14, none, .mov (.t 6)⟩,
    ⟨some 15, none, .bin .lss (.t 13) (.t 14)⟩,
    ⟨some 16, none, .mov (.t 15)⟩,
    ⟨some 17, (some (16, true)), .fld 1 (.t 5)⟩,
    ⟨some 18, (some (16, true)), .load none (.t 17)⟩,
    ⟨some 19, (some (16, true)), .bin .eql (.t 18) (.k (.int .i64 (0)))⟩,
    ⟨some 20, none, .pick (.t 16) (.t 19) (.k (.bool false))⟩] none [5, 6, 7, 8, 20]
def r_codec_ReadBag_6 : ACode := .reg [
    ⟨some 23, none, .call 103 [(.t 5)]⟩,
    ⟨some 24, none, .build [.slice none 0 0, .int .i64 0] [(0, 1, (.t 23))]⟩,
    ⟨some 9, none, .alloc 78 [.slice none 0 0, .int .i64 0]⟩,
    ⟨none, none, .store 2 (.t 9) (.t 24)⟩] none [5, 6, 7, 8, 9]
def r_codec_ReadBag_7 : ACode := .reg [
    ⟨some 25, none, .call 89 [(.t 5)]⟩,
    ⟨some 26, none, .fld 1 (.t 9)⟩,
    ⟨none, none, .store 1 (.t 26) (.t 25)⟩] none [5, 6, 7, 8, 9]
def r_codec_ReadBag_8 : ACode := .reg [
    ⟨some 27, none, .mov (.t 7)⟩,
    ⟨some 28, none, .load (some 2) (.t 9)⟩,
    ⟨some 29, none, .lit 78 2 1 [.slice none 0 0, .int .i64 0] [(0, (.t 28))] false⟩,
    ⟨some 30, none, .app 78 2 32 (.t 27) (.t 29)⟩,
    ⟨some 7, none, .mov (.t 30)⟩] none [5, 6, 7, 8]
def r_codec_ReadBag_9 : ACode := .reg [
    ⟨some 21, none, .mov (.t 8)⟩,
    ⟨some 22, none, .bin .add (.t 21) (.k (.int .i64 (1)))⟩,
    ⟨some 8, none, .mov (.t 22)⟩] none [5, 6, 7, 8]
def r_codec_ReadBag_10 : ACode := .reg [
    ⟨some 31, none, .fld 1 (.t 5)⟩,
    ⟨some 32, none, .load none (.t 31)⟩,
    ⟨some 33, none, .bin .neq (.t 32) (.k (.int .i64 (0)))⟩] none [5, 7, 33]
def r_codec_ReadBag_11 : ACode := .reg [
    ⟨some 34, none, .fld 1 (.t 5)⟩,
    ⟨some 35, none, .load none (.t 34)⟩,
    ⟨some 2, none, .mov (.k (.slice none 0 0))⟩,
    ⟨some 3, none, .mov (.k (.slice none 0 0))⟩,
    ⟨some 4, none, .mov (.t 35)⟩] (some [0, 1, 0, 4, 15]) [2, 3, 4]
def r_codec_ReadBag_12 : ACode := .reg [
    ⟨some 36, none, .mov (.t 7)⟩,
    ⟨some 37, none, .call 90 [(.t 5)]⟩,
    ⟨some 2, none, .mov (.t 36)⟩,
    ⟨some 3, none, .mov (.t 37)⟩,
    ⟨some 4, none, .mov (.k (.int .i64 (0)))⟩] none [2, 3, 4]
def c_codec_ReadBag : ACode :=
  (.seq r_codec_ReadBag_0
  (.seq r_codec_ReadBag_1
   (.seq r_codec_ReadBag_2
    (.seq r_codec_ReadBag_3
     (.seq (.seq r_codec_ReadBag_4
       (.block 0 (.loop (.seq (.seq r_codec_ReadBag_5
           (.cond (.t 20)
            .skip
            (.exit 0)))
          (.seq (.block 1 (.seq r_codec_ReadBag_6
             (.seq r_codec_ReadBag_7
              r_codec_ReadBag_8)))
           r_codec_ReadBag_9)))))
      (.seq (.seq r_codec_ReadBag_10
        (.cond (.t 33)
         (.seq r_codec_ReadBag_11
          .ret)
         .skip))
       (.seq r_codec_ReadBag_12
        .ret)))))))
theorem fits_codec_ReadBag : Fits Try.prog 48 38 c_codec_ReadBag [.t 2, .t 3, .t 4] := ⟨⟨Try.f48, _, _, Try.func48, rfl, rfl, rfl, by decide, by kernel_rfl, by kernel_rfl⟩, Try.checked.mixed⟩
def r_codec_ReadChange_0 : ACode := .reg [
    ⟨some 2, none, .alloc 86 [.int .i64 0, .int .i64 0, .int .i64 0, .int .i64 0, .slice none 0 0, .int .i64 0, .int .i64 0, .string ⟨#[]⟩, .int .i64 0, .int .i64 0, .int .i64 0, .string ⟨#[]⟩]⟩,
    ⟨some 3, none, .mov (.k (.slice none 0 0))⟩,
    ⟨some 4, none, .mov (.k (.int .i64 (0)))⟩] none [0, 2]
def r_codec_ReadChange_1 : ACode := .reg [
    ⟨some 7, none, .mov (.t 0)⟩,
    ⟨some 8, none, .build [.slice none 0 0, .int .i64 0] [(0, 1, (.t 7))]⟩,
    ⟨some 5, none, .alloc 152 [.slice none 0 0, .int .i64 0]⟩,
    ⟨none, none, .store 2 (.t 5) (.t 8)⟩] none [2, 5]
def r_codec_ReadChange_2 : ACode := .reg [
    ⟨some 9, none, .call 111 [(.t 5)]⟩,
    ⟨some 10, none, .build [.int .i64 0, .int .i64 0, .int .i64 0, .int .i64 0, .slice none 0 0, .int .i64 0, .int .i64 0, .string ⟨#[]⟩, .int .i64 0, .int .i64 0, .int .i64 0, .string ⟨#[]⟩] [(0, 1, (.t 9))]⟩,
    ⟨some 6, none, .alloc 86 [.int .i64 0, .int .i64 0, .int .i64 0, .int .i64 0, .slice none 0 0, .int .i64 0, .int .i64 0, .string ⟨#[]⟩, .int .i64 0, .int .i64 0, .int .i64 0, .string ⟨#[]⟩]⟩,
    ⟨none, none, .store 12 (.t 6) (.t 10)⟩] none [2, 5, 6]
def r_codec_ReadChange_3 : ACode := .reg [
    ⟨some 11, none, .call 111 [(.t 5)]⟩,
    ⟨some 12, none, .fld 1 (.t 6)⟩,
    ⟨none, none, .store 1 (.t 12) (.t 11)⟩] none [2, 5, 6]
def r_codec_ReadChange_4 : ACode := .reg [
    ⟨some 13, none, .call 111 [(.t 5)]⟩,
    ⟨some 14, none, .fld 2 (.t 6)⟩,
    ⟨none, none, .store 1 (.t 14) (.t 13)⟩] none [2, 5, 6]
def r_codec_ReadChange_5 : ACode := .reg [
    ⟨some 15, none, .call 111 [(.t 5)]⟩,
    ⟨some 16, none, .fld 3 (.t 6)⟩,
    ⟨none, none, .store 1 (.t 16) (.t 15)⟩] none [2, 5, 6]
def r_codec_ReadChange_6 : ACode := .reg [
    ⟨some 17, none, .call 103 [(.t 5)]⟩,
    ⟨some 18, none, .fld 4 (.t 6)⟩,
    ⟨none, none, .store 1 (.t 18) (.t 17)⟩] none [2, 5, 6]
def r_codec_ReadChange_7 : ACode := .reg [
    ⟨some 19, none, .call 105 [(.t 5)]⟩,
    ⟨some 20, none, .fld 5 (.t 6)⟩,
    ⟨none, none, .store 3 (.t 20) (.t 19)⟩] none [2, 5, 6]
def r_codec_ReadChange_8 : ACode := .reg [
    ⟨some 21, none, .call 111 [(.t 5)]⟩,
    ⟨some 22, none, .fld 8 (.t 6)⟩,
    ⟨none, none, .store 1 (.t 22) (.t 21)⟩] none [2, 5, 6]
def r_codec_ReadChange_9 : ACode := .reg [
    ⟨some 23, none, .call 105 [(.t 5)]⟩,
    ⟨some 24, none, .fld 9 (.t 6)⟩,
    ⟨none, none, .store 3 (.t 24) (.t 23)⟩] none [2, 5, 6]
def r_codec_ReadChange_10 : ACode := .reg [
    ⟨some 25, none, .fld 1 (.t 5)⟩,
    ⟨some 26, none, .load none (.t 25)⟩,
    ⟨some 27, none, .bin .neq (.t 26) (.k (.int .i64 (0)))⟩] none [2, 5, 6, 27]
def r_codec_ReadChange_11 : ACode := .reg [
    ⟨some 28, none, .build [.int .i64 0, .int .i64 0, .int .i64 0, .int .i64 0, .slice none 0 0, .int .i64 0, .int .i64 0, .string ⟨#[]⟩, .int .i64 0, .int .i64 0, .int .i64 0, .string ⟨#[]⟩] []⟩,
    ⟨some 29, none, .fld 1 (.t 5)⟩,
    ⟨some 30, none, .load none (.t 29)⟩,
    ⟨none, none, .store 12 (.t 2) (.t 28)⟩,
    ⟨some 3, none, .mov (.k (.slice none 0 0))⟩,
    ⟨some 4, none, .mov (.t 30)⟩] (some [0, 0, 2, 1, 9, 31]) [2, 3, 4]
def r_codec_ReadChange_12 : ACode := .reg [
    ⟨some 31, none, .load (some 12) (.t 6)⟩,
    ⟨some 32, none, .call 90 [(.t 5)]⟩,
    ⟨none, none, .store 12 (.t 2) (.t 31)⟩,
    ⟨some 3, none, .mov (.t 32)⟩,
    ⟨some 4, none, .mov (.k (.int .i64 (0)))⟩] (some [0, 0, 3, 7, 15]) [2, 3, 4]
def c_codec_ReadChange : ACode :=
  (.seq r_codec_ReadChange_0
  (.seq r_codec_ReadChange_1
   (.seq r_codec_ReadChange_2
    (.seq r_codec_ReadChange_3
     (.seq r_codec_ReadChange_4
      (.seq r_codec_ReadChange_5
       (.seq r_codec_ReadChange_6
        (.seq r_codec_ReadChange_7
         (.seq r_codec_ReadChange_8
          (.seq r_codec_ReadChange_9
           (.seq (.seq r_codec_ReadChange_10
             (.cond (.t 27)
              (.seq r_codec_ReadChange_11
               .ret)
              .skip))
            (.seq r_codec_ReadChange_12
             .ret))))))))))))
theorem fits_codec_ReadChange : Fits Try.prog 52 33 c_codec_ReadChange [.c 2 (some 12), .t 3, .t 4] := ⟨⟨Try.f52, _, _, Try.func52, rfl, rfl, rfl, by decide, by kernel_rfl, by kernel_rfl⟩, Try.checked.mixed⟩
def r_codec_ReadRecord_0 : ACode := .reg [
    ⟨some 2, none, .alloc 95 [.slice none 0 0, .slice none 0 0, .int .i64 0]⟩,
    ⟨some 3, none, .mov (.k (.slice none 0 0))⟩,
    ⟨some 4, none, .mov (.k (.int .i64 (0)))⟩] none [0, 2]
def r_codec_ReadRecord_1 : ACode := .reg [
    ⟨some 8, none, .mov (.t 0)⟩,
    ⟨some 9, none, .build [.slice none 0 0, .int .i64 0] [(0, 1, (.t 8))]⟩,
    ⟨some 5, none, .alloc 152 [.slice none 0 0, .int .i64 0]⟩,
    ⟨none, none, .store 2 (.t 5) (.t 9)⟩] none [2, 5]
def r_codec_ReadRecord_2 : ACode := .reg [
    ⟨some 10, none, .call 103 [(.t 5)]⟩,
    ⟨some 11, none, .build [.slice none 0 0, .slice none 0 0, .int .i64 0] [(0, 1, (.t 10))]⟩,
    ⟨some 6, none, .alloc 95 [.slice none 0 0, .slice none 0 0, .int .i64 0]⟩,
    ⟨none, none, .store 3 (.t 6) (.t 11)⟩] none [2, 5, 6]
def r_codec_ReadRecord_3 : ACode := .reg [
    ⟨some 7, none, .mov (.k (.int .i64 (0)))⟩] none [2, 5, 6, 7]
def r_codec_ReadRecord_4 : ACode := .reg [
    ⟨some 12, none, .mov (.t 7)⟩,
    ⟨some 13, none, .fld 0 (.t 6)⟩,
    ⟨some 14, none, .load none (.t 13)⟩,
    ⟨some 15, none, .len (.t 14)⟩,
    ⟨some 16, none, .bin .lss (.t 12) (.t 15)⟩,
    ⟨some 17, none, .mov (.t 16)⟩,
    ⟨some 18, (some (17, true)), .fld 1 (.t 5)⟩,
    ⟨some 19, (some (17, true)), .load none (.t 18)⟩,
    ⟨some 20, (some (17, true)), .bin .eql (.t 19) (.k (.int .i64 (0)))⟩,
    ⟨some 21, none, .pick (.t 17) (.t 20) (.k (.bool false))⟩] none [2, 5, 6, 7, 21]
def r_codec_ReadRecord_5 : ACode := .reg [
    ⟨some 24, none, .fld 1 (.t 6)⟩,
    ⟨some 25, none, .load none (.t 24)⟩,
    ⟨some 26, none, .call 111 [(.t 5)]⟩,
    ⟨some 27, none, .lit 3 1 1 [.int .i64 0] [(0, (.t 26))] false⟩,
    ⟨some 28, none, .app 3 1 8 (.t 25) (.t 27)⟩,
    ⟨some 29, none, .fld 1 (.t 6)⟩,
    ⟨none, none, .store 1 (.t 29) (.t 28)⟩] (some [0, 1, 0, 4, 15, 31, 63]) [2, 5, 6, 7]
def r_codec_ReadRecord_6 : ACode := .reg [
    ⟨some 22, none, .mov (.t 7)⟩,
    ⟨some 23, none, .bin .add (.t 22) (.k (.int .i64 (1)))⟩,
    ⟨some 7, none, .mov (.t 23)⟩] none [2, 5, 6, 7]
def r_codec_ReadRecord_7 : ACode := .reg [
    ⟨some 30, none, .call 111 [(.t 5)]⟩,
    ⟨some 31, none, .fld 2 (.t 6)⟩,
    ⟨none, none, .store 1 (.t 31) (.t 30)⟩] none [2, 5, 6]
def r_codec_ReadRecord_8 : ACode := .reg [
    ⟨some 32, none, .fld 1 (.t 5)⟩,
    ⟨some 33, none, .load none (.t 32)⟩,
    ⟨some 34, none, .bin .neq (.t 33) (.k (.int .i64 (0)))⟩] none [2, 5, 6, 34]
def r_codec_ReadRecord_9 : ACode := .reg [
    ⟨some 35, none, .build [.slice none 0 0, .slice none 0 0, .int .i64 0] []⟩,
    ⟨some 36, none, .fld 1 (.t 5)⟩,
    ⟨some 37, none, .load none (.t 36)⟩,
    ⟨none, none, .store 3 (.t 2) (.t 35)⟩,
    ⟨some 3, none, .mov (.k (.slice none 0 0))⟩,
    ⟨some 4, none, .mov (.t 37)⟩] (some [0, 0, 2, 1, 9, 31]) [2, 3, 4]
def r_codec_ReadRecord_10 : ACode := .reg [
    ⟨some 38, none, .load (some 3) (.t 6)⟩,
    ⟨some 39, none, .call 90 [(.t 5)]⟩,
    ⟨none, none, .store 3 (.t 2) (.t 38)⟩,
    ⟨some 3, none, .mov (.t 39)⟩,
    ⟨some 4, none, .mov (.k (.int .i64 (0)))⟩] (some [0, 0, 3, 7, 15]) [2, 3, 4]
def c_codec_ReadRecord : ACode :=
  (.seq r_codec_ReadRecord_0
  (.seq r_codec_ReadRecord_1
   (.seq r_codec_ReadRecord_2
    (.seq (.seq r_codec_ReadRecord_3
      (.block 0 (.loop (.seq (.seq r_codec_ReadRecord_4
          (.cond (.t 21)
           .skip
           (.exit 0)))
         (.seq (.block 1 r_codec_ReadRecord_5)
          r_codec_ReadRecord_6)))))
     (.seq r_codec_ReadRecord_7
      (.seq (.seq r_codec_ReadRecord_8
        (.cond (.t 34)
         (.seq r_codec_ReadRecord_9
          .ret)
         .skip))
       (.seq r_codec_ReadRecord_10
        .ret)))))))
theorem fits_codec_ReadRecord : Fits Try.prog 56 40 c_codec_ReadRecord [.c 2 (some 3), .t 3, .t 4] := ⟨⟨Try.f56, _, _, Try.func56, rfl, rfl, rfl, by decide, by kernel_rfl, by kernel_rfl⟩, Try.checked.mixed⟩
def r_codec_ReadEntry_0 : ACode := .reg [
    ⟨some 2, none, .alloc 111 [.int .i64 0, .int .i64 0, .int .i64 0, .int .i64 0, .int .i64 0, .string ⟨#[]⟩, .int .i64 0, .int .i64 0, .string ⟨#[]⟩, .int .i64 0, .int .i64 0, .int .i64 0, .string ⟨#[]⟩, .int .i64 0, .int .i64 0, .string ⟨#[]⟩, .string ⟨#[]⟩, .int .i64 0, .int .i64 0, .string ⟨#[]⟩, .int .i64 0, .bool false, .int .i64 0, .int .i64 0, .string ⟨#[]⟩, .int .i64 0, .int .i64 0, .string ⟨#[]⟩, .int .i64 0, .int .i64 0, .int .i64 0, .slice none 0 0, .slice none 0 0, .int .u8 0, .int .u8 0, .int .u8 0, .int .u8 0, .int .u8 0, .int .u8 0, .int .u8 0, .int .u8 0, .int .u8 0, .int .u8 0, .int .u8 0, .int .u8 0, .int .u8 0, .int .u8 0, .int .u8 0, .int .u8 0, .int .u8 0, .int .u8 0, .int .u8 0, .int .u8 0, .int .u8 0, .int .u8 0, .int .u8 0, .int .u8 0, .int .u8 0, .int .u8 0, .int .u8 0, .int .u8 0, .int .u8 0, .int .u8 0, .int .u8 0, .int .u8 0]⟩,
    ⟨some 3, none, .mov (.k (.slice none 0 0))⟩,
    ⟨some 4, none, .mov (.k (.int .i64 (0)))⟩] none [0, 2]
def r_codec_ReadEntry_1 : ACode := .reg [
    ⟨some 7, none, .mov (.t 0)⟩,
    ⟨some 8, none, .build [.slice none 0 0, .int .i64 0] [(0, 1, (.t 7))]⟩,
    ⟨some 5, none, .alloc 152 [.slice none 0 0, .int .i64 0]⟩,
    ⟨none, none, .store 2 (.t 5) (.t 8)⟩] none [2, 5]
def r_codec_ReadEntry_2 : ACode := .reg [
    ⟨some 9, none, .call 111 [(.t 5)]⟩,
    ⟨some 10, none, .build [.int .i64 0, .int .i64 0, .int .i64 0, .int .i64 0, .int .i64 0, .string ⟨#[]⟩, .int .i64 0, .int .i64 0, .string ⟨#[]⟩, .int .i64 0, .int .i64 0, .int .i64 0, .string ⟨#[]⟩, .int .i64 0, .int .i64 0, .string ⟨#[]⟩, .string ⟨#[]⟩, .int .i64 0, .int .i64 0, .string ⟨#[]⟩, .int .i64 0, .bool false, .int .i64 0, .int .i64 0, .string ⟨#[]⟩, .int .i64 0, .int .i64 0, .string ⟨#[]⟩, .int .i64 0, .int .i64 0, .int .i64 0, .slice none 0 0, .slice none 0 0, .int .u8 0, .int .u8 0, .int .u8 0, .int .u8 0, .int .u8 0, .int .u8 0, .int .u8 0, .int .u8 0, .int .u8 0, .int .u8 0, .int .u8 0, .int .u8 0, .int .u8 0, .int .u8 0, .int .u8 0, .int .u8 0, .int .u8 0, .int .u8 0, .int .u8 0, .int .u8 0, .int .u8 0, .int .u8 0, .int .u8 0, .int .u8 0, .int .u8 0, .int .u8 0, .int .u8 0, .int .u8 0, .int .u8 0, .int .u8 0, .int .u8 0, .int .u8 0] [(0, 1, (.t 9))]⟩,
    ⟨some 6, none, .alloc 111 [.int .i64 0, .int .i64 0, .int .i64 0, .int .i64 0, .int .i64 0, .string ⟨#[]⟩, .int .i64 0, .int .i64 0, .string ⟨#[]⟩, .int .i64 0, .int .i64 0, .int .i64 0, .string ⟨#[]⟩, .int .i64 0, .int .i64 0, .string ⟨#[]⟩, .string ⟨#[]⟩, .int .i64 0, .int .i64 0, .string ⟨#[]⟩, .int .i64 0, .bool false, .int .i64 0, .int .i64 0, .string ⟨#[]⟩, .int .i64 0, .int .i64 0, .string ⟨#[]⟩, .int .i64 0, .int .i64 0, .int .i64 0, .slice none 0 0, .slice none 0 0, .int .u8 0, .int .u8 0, .int .u8 0, .int .u8 0, .int .u8 0, .int .u8 0, .int .u8 0, .int .u8 0, .int .u8 0, .int .u8 0, .int .u8 0, .int .u8 0, .int .u8 0, .int .u8 0, .int .u8 0, .int .u8 0, .int .u8 0, .int .u8 0, .int .u8 0, .int .u8 0, .int .u8 0, .int .u8 0, .int .u8 0, .int .u8 0, .int .u8 0, .int .u8 0, .int .u8 0, .int .u8 0, .int .u8 0, .int .u8 0, .int .u8 0, .int .u8 0]⟩,
    ⟨none, none, .store 65 (.t 6) (.t 10)⟩] none [2, 5, 6]
def r_codec_ReadEntry_3 : ACode := .reg [
    ⟨some 11, none, .fld 1 (.t 5)⟩,
    ⟨some 12, none, .load none (.t 11)⟩,
    ⟨some 13, none, .bin .eql (.t 12) (.k (.int .i64 (0)))⟩,
    ⟨some 14, none, .mov (.t 13)⟩,
    ⟨some 15, (some (14, true)), .fld 0 (.t 6)⟩,
    ⟨some 16, (some (14, true)), .load none (.t 15)⟩,
    ⟨some 17, (some (14, true)), .bin .lss (.t 16) (.k (.int .i64 (1)))⟩,
    ⟨some 18, (some (14, true)), .mov (.t 17)⟩,
    ⟨some 19, (some (18, false)), .fld 0 (.t 6)⟩,
    ⟨some 20, (some (18, false)), .load none (.t 19)⟩,
    ⟨some 21, (some (18, false)), .bin .gtr (.t 20) (.k (.int .i64 (7)))⟩,
    ⟨some 22, (some (14, true)), .pick (.t 18) (.k (.bool true)) (.t 21)⟩,
    ⟨some 23, none, .pick (.t 14) (.t 22) (.k (.bool false))⟩] none [2, 5, 6, 23]
def r_codec_ReadEntry_4 : ACode := .reg [
    ⟨some 24, none, .call 114 [(.t 5), (.k (.int .i64 (1)))]⟩] none [2, 5, 6]
def r_codec_ReadEntry_5 : ACode := .reg [
    ⟨some 25, none, .call 111 [(.t 5)]⟩,
    ⟨some 26, none, .fld 1 (.t 6)⟩,
    ⟨none, none, .store 1 (.t 26) (.t 25)⟩] none [2, 5, 6]
def r_codec_ReadEntry_6 : ACode := .reg [
    ⟨some 27, none, .call 111 [(.t 5)]⟩,
    ⟨some 28, none, .fld 2 (.t 6)⟩,
    ⟨none, none, .store 1 (.t 28) (.t 27)⟩] none [2, 5, 6]
def r_codec_ReadEntry_7 : ACode := .reg [
    ⟨some 29, none, .call 111 [(.t 5)]⟩,
    ⟨some 30, none, .fld 3 (.t 6)⟩,
    ⟨none, none, .store 1 (.t 30) (.t 29)⟩] none [2, 5, 6]
def r_codec_ReadEntry_8 : ACode := .reg [
    ⟨some 31, none, .fld 0 (.t 6)⟩,
    ⟨some 32, none, .load none (.t 31)⟩] none [2, 5, 6, 32]
def r_codec_ReadEntry_9 : ACode := .reg [
    ⟨some 34, none, .bin .eql (.t 32) (.k (.int .i64 (1)))⟩,
    ⟨some 33, none, .mov (.t 34)⟩] none [2, 5, 6, 32, 33]
def r_codec_ReadEntry_10 : ACode := .reg [
    ⟨some 35, none, .call 115 [(.t 5)]⟩,
    ⟨some 36, none, .fld 4 (.t 6)⟩,
    ⟨none, none, .store 8 (.t 36) (.t 35)⟩] none [2, 5, 6]
def r_codec_ReadEntry_11 : ACode := .reg [
    ⟨some 38, none, .bin .eql (.t 32) (.k (.int .i64 (2)))⟩,
    ⟨some 37, none, .mov (.t 38)⟩] none [2, 5, 6, 32, 37]
def r_codec_ReadEntry_12 : ACode := .reg [
    ⟨some 39, none, .call 96 [(.t 5)]⟩,
    ⟨some 40, none, .fld 31 (.t 6)⟩,
    ⟨none, none, .store 1 (.t 40) (.t 39)⟩] none [2, 5, 6]
def r_codec_ReadEntry_13 : ACode := .reg [
    ⟨some 41, none, .call 98 [(.t 5)]⟩,
    ⟨some 42, none, .fld 32 (.t 6)⟩,
    ⟨none, none, .store 1 (.t 42) (.t 41)⟩] none [2, 5, 6]
def r_codec_ReadEntry_14 : ACode := .reg [
    ⟨some 44, none, .bin .eql (.t 32) (.k (.int .i64 (4)))⟩,
    ⟨some 43, none, .mov (.t 44)⟩] none [2, 5, 6, 32, 43]
def r_codec_ReadEntry_15 : ACode := .reg [
    ⟨some 45, none, .call 97 [(.t 5)]⟩,
    ⟨some 46, none, .fld 33 (.t 6)⟩,
    ⟨none, none, .store 32 (.t 46) (.t 45)⟩] none [2, 5, 6]
def r_codec_ReadEntry_16 : ACode := .reg [
    ⟨some 48, none, .bin .eql (.t 32) (.k (.int .i64 (6)))⟩,
    ⟨some 47, none, .mov (.t 48)⟩] none [2, 5, 6, 32, 47]
def r_codec_ReadEntry_17 : ACode := .reg [
    ⟨some 49, none, .call 116 [(.t 5)]⟩,
    ⟨some 50, none, .fld 12 (.t 6)⟩,
    ⟨none, none, .store 10 (.t 50) (.t 49)⟩] none [2, 5, 6]
def r_codec_ReadEntry_18 : ACode := .reg [
    ⟨some 52, none, .bin .eql (.t 32) (.k (.int .i64 (7)))⟩,
    ⟨some 51, none, .mov (.t 52)⟩] none [2, 5, 6, 51]
def r_codec_ReadEntry_19 : ACode := .reg [
    ⟨some 53, none, .call 117 [(.t 5)]⟩,
    ⟨some 54, none, .fld 22 (.t 6)⟩,
    ⟨none, none, .store 9 (.t 54) (.t 53)⟩] none [2, 5, 6]
def r_codec_ReadEntry_20 : ACode := .reg [
    ⟨some 55, none, .fld 1 (.t 5)⟩,
    ⟨some 56, none, .load none (.t 55)⟩,
    ⟨some 57, none, .bin .neq (.t 56) (.k (.int .i64 (0)))⟩] none [2, 5, 6, 57]
def r_codec_ReadEntry_21 : ACode := .reg [
    ⟨some 58, none, .build [.int .i64 0, .int .i64 0, .int .i64 0, .int .i64 0, .int .i64 0, .string ⟨#[]⟩, .int .i64 0, .int .i64 0, .string ⟨#[]⟩, .int .i64 0, .int .i64 0, .int .i64 0, .string ⟨#[]⟩, .int .i64 0, .int .i64 0, .string ⟨#[]⟩, .string ⟨#[]⟩, .int .i64 0, .int .i64 0, .string ⟨#[]⟩, .int .i64 0, .bool false, .int .i64 0, .int .i64 0, .string ⟨#[]⟩, .int .i64 0, .int .i64 0, .string ⟨#[]⟩, .int .i64 0, .int .i64 0, .int .i64 0, .slice none 0 0, .slice none 0 0, .int .u8 0, .int .u8 0, .int .u8 0, .int .u8 0, .int .u8 0, .int .u8 0, .int .u8 0, .int .u8 0, .int .u8 0, .int .u8 0, .int .u8 0, .int .u8 0, .int .u8 0, .int .u8 0, .int .u8 0, .int .u8 0, .int .u8 0, .int .u8 0, .int .u8 0, .int .u8 0, .int .u8 0, .int .u8 0, .int .u8 0, .int .u8 0, .int .u8 0, .int .u8 0, .int .u8 0, .int .u8 0, .int .u8 0, .int .u8 0, .int .u8 0, .int .u8 0] []⟩,
    ⟨some 59, none, .fld 1 (.t 5)⟩,
    ⟨some 60, none, .load none (.t 59)⟩,
    ⟨none, none, .store 65 (.t 2) (.t 58)⟩,
    ⟨some 3, none, .mov (.k (.slice none 0 0))⟩,
    ⟨some 4, none, .mov (.t 60)⟩] (some [0, 0, 2, 1, 9, 31]) [2, 3, 4]
def r_codec_ReadEntry_22 : ACode := .reg [
    ⟨some 61, none, .load (some 65) (.t 6)⟩,
    ⟨some 62, none, .call 90 [(.t 5)]⟩,
    ⟨none, none, .store 65 (.t 2) (.t 61)⟩,
    ⟨some 3, none, .mov (.t 62)⟩,
    ⟨some 4, none, .mov (.k (.int .i64 (0)))⟩] (some [0, 0, 3, 7, 15]) [2, 3, 4]
def c_codec_ReadEntry : ACode :=
  (.seq r_codec_ReadEntry_0
  (.seq r_codec_ReadEntry_1
   (.seq r_codec_ReadEntry_2
    (.seq (.seq r_codec_ReadEntry_3
      (.cond (.t 23)
       r_codec_ReadEntry_4
       .skip))
     (.seq r_codec_ReadEntry_5
      (.seq r_codec_ReadEntry_6
       (.seq r_codec_ReadEntry_7
        (.seq (.seq r_codec_ReadEntry_8
          (.block 0 (.seq r_codec_ReadEntry_9
            (.cond (.t 33)
             r_codec_ReadEntry_10
             (.seq r_codec_ReadEntry_11
              (.cond (.t 37)
               (.seq r_codec_ReadEntry_12
                r_codec_ReadEntry_13)
               (.seq r_codec_ReadEntry_14
                (.cond (.t 43)
                 r_codec_ReadEntry_15
                 (.seq r_codec_ReadEntry_16
                  (.cond (.t 47)
                   r_codec_ReadEntry_17
                   (.seq r_codec_ReadEntry_18
                    (.cond (.t 51)
                     r_codec_ReadEntry_19
                     .skip))))))))))))
         (.seq (.seq r_codec_ReadEntry_20
           (.cond (.t 57)
            (.seq r_codec_ReadEntry_21
             .ret)
            .skip))
          (.seq r_codec_ReadEntry_22
           .ret))))))))))
theorem fits_codec_ReadEntry : Fits Try.prog 61 63 c_codec_ReadEntry [.c 2 (some 65), .t 3, .t 4] := ⟨⟨Try.f61, _, _, Try.func61, rfl, rfl, rfl, by decide, by kernel_rfl, by kernel_rfl⟩, Try.checked.mixed⟩
def r_codec_ReadHold_0 : ACode := .reg [
    ⟨some 2, none, .alloc 109 [.int .i64 0, .int .i64 0, .string ⟨#[]⟩, .int .i64 0, .int .i64 0, .string ⟨#[]⟩, .int .i64 0, .int .i64 0, .int .i64 0]⟩,
    ⟨some 3, none, .mov (.k (.slice none 0 0))⟩,
    ⟨some 4, none, .mov (.k (.int .i64 (0)))⟩] none [0, 2]
def r_codec_ReadHold_1 : ACode := .reg [
    ⟨some 7, none, .mov (.t 0)⟩,
    ⟨some 8, none, .build [.slice none 0 0, .int .i64 0] [(0, 1, (.t 7))]⟩,
    ⟨some 5, none, .alloc 152 [.slice none 0 0, .int .i64 0]⟩,
    ⟨none, none, .store 2 (.t 5) (.t 8)⟩] none [2, 5]
def r_codec_ReadHold_2 : ACode := .reg [
    ⟨some 9, none, .call 117 [(.t 5)]⟩,
    ⟨some 6, none, .alloc 109 [.int .i64 0, .int .i64 0, .string ⟨#[]⟩, .int .i64 0, .int .i64 0, .string ⟨#[]⟩, .int .i64 0, .int .i64 0, .int .i64 0]⟩,
    ⟨none, none, .store 9 (.t 6) (.t 9)⟩] none [2, 5, 6]
def r_codec_ReadHold_3 : ACode := .reg [
    ⟨some 10, none, .fld 1 (.t 5)⟩,
    ⟨some 11, none, .load none (.t 10)⟩,
    ⟨some 12, none, .bin .neq (.t 11) (.k (.int .i64 (0)))⟩] none [2, 5, 6, 12]
def r_codec_ReadHold_4 : ACode := .reg [
    ⟨some 13, none, .build [.int .i64 0, .int .i64 0, .string ⟨#[]⟩, .int .i64 0, .int .i64 0, .string ⟨#[]⟩, .int .i64 0, .int .i64 0, .int .i64 0] []⟩,
    ⟨some 14, none, .fld 1 (.t 5)⟩,
    ⟨some 15, none, .load none (.t 14)⟩,
    ⟨none, none, .store 9 (.t 2) (.t 13)⟩,
    ⟨some 3, none, .mov (.k (.slice none 0 0))⟩,
    ⟨some 4, none, .mov (.t 15)⟩] (some [0, 0, 2, 1, 9, 31]) [2, 3, 4]
def r_codec_ReadHold_5 : ACode := .reg [
    ⟨some 16, none, .load (some 9) (.t 6)⟩,
    ⟨some 17, none, .call 90 [(.t 5)]⟩,
    ⟨none, none, .store 9 (.t 2) (.t 16)⟩,
    ⟨some 3, none, .mov (.t 17)⟩,
    ⟨some 4, none, .mov (.k (.int .i64 (0)))⟩] (some [0, 0, 3, 7, 15]) [2, 3, 4]
def c_codec_ReadHold : ACode :=
  (.seq r_codec_ReadHold_0
  (.seq r_codec_ReadHold_1
   (.seq r_codec_ReadHold_2
    (.seq (.seq r_codec_ReadHold_3
      (.cond (.t 12)
       (.seq r_codec_ReadHold_4
        .ret)
       .skip))
     (.seq r_codec_ReadHold_5
      .ret)))))
theorem fits_codec_ReadHold : Fits Try.prog 72 18 c_codec_ReadHold [.c 2 (some 9), .t 3, .t 4] := ⟨⟨Try.f72, _, _, Try.func72, rfl, rfl, rfl, by decide, by kernel_rfl, by kernel_rfl⟩, Try.checked.mixed⟩
def r_codec_putInt_0 : ACode := .reg [
    ⟨some 4, none, .mov (.k (.slice none 0 0))⟩] none [0, 1]
def r_codec_putInt_1 : ACode := .reg [
    ⟨some 6, none, .mov (.t 1)⟩,
    ⟨some 7, none, .conv .u64 (.t 6)⟩,
    ⟨some 8, none, .bin .shl (.t 7) (.k (.int .u64 (1)))⟩,
    ⟨some 5, none, .mov (.t 8)⟩] none [0, 1, 5]
def r_codec_putInt_2 : ACode := .reg [
    ⟨some 9, none, .mov (.t 1)⟩,
    ⟨some 10, none, .bin .lss (.t 9) (.k (.int .i64 (0)))⟩] none [0, 5, 10]
def r_codec_putInt_3 : ACode := .reg [
    ⟨some 11, none, .mov (.t 5)⟩,
    ⟨some 12, none, .un .xor (.t 11)⟩,
    ⟨some 5, none, .mov (.t 12)⟩] none [0, 5]
def r_codec_putInt_4 : ACode := .reg [
    ⟨some 13, none, .mov (.t 5)⟩,
    ⟨some 14, none, .bin .geq (.t 13) (.k (.int .u64 (128)))⟩] none [0, 5, 14]
def r_codec_putInt_5 : ACode := .reg [
    ⟨some 15, none, .mov (.t 0)⟩,
    ⟨some 16, none, .mov (.t 5)⟩,
    ⟨some 17, none, .conv .u8 (.t 16)⟩,
    ⟨some 18, none, .bin .or (.t 17) (.k (.int .u8 (128)))⟩,
    ⟨some 19, none, .lit 5 1 1 [.int .u8 0] [(0, (.t 18))] false⟩,
    ⟨some 20, none, .app 5 1 1 (.t 15) (.t 19)⟩,
    ⟨some 0, none, .mov (.t 20)⟩] none [0, 5]
def r_codec_putInt_6 : ACode := .reg [
    ⟨some 21, none, .mov (.t 5)⟩,
    ⟨some 22, none, .bin .shr (.t 21) (.k (.int .u64 (7)))⟩,
    ⟨some 5, none, .mov (.t 22)⟩] none [0, 5]
def r_codec_putInt_7 : ACode := .reg [
    ⟨some 23, none, .mov (.t 0)⟩,
    ⟨some 24, none, .mov (.t 5)⟩,
    ⟨some 25, none, .conv .u8 (.t 24)⟩,
    ⟨some 26, none, .lit 5 1 1 [.int .u8 0] [(0, (.t 25))] false⟩,
    ⟨some 27, none, .app 5 1 1 (.t 23) (.t 26)⟩,
    ⟨some 4, none, .mov (.t 27)⟩] none [4]
def c_codec_putInt : ACode :=
  (.seq r_codec_putInt_0
  (.seq r_codec_putInt_1
   (.seq (.seq r_codec_putInt_2
     (.cond (.t 10)
      r_codec_putInt_3
      .skip))
    (.seq (.block 0 (.loop (.seq (.seq r_codec_putInt_4
         (.cond (.t 14)
          .skip
          (.exit 0)))
        (.block 1 (.seq r_codec_putInt_5
          r_codec_putInt_6)))))
     (.seq r_codec_putInt_7
      .ret)))))
theorem fits_codec_putInt : Fits Try.prog 87 28 c_codec_putInt [.t 4] := ⟨⟨Try.f87, _, _, Try.func87, rfl, rfl, rfl, by decide, by kernel_rfl, by kernel_rfl⟩, Try.checked.mixed⟩
def r_codec_cloned_0 : ACode := .reg [
    ⟨some 2, none, .mov (.k (.slice none 0 0))⟩] none [0]
def r_codec_cloned_1 : ACode := .reg [
    ⟨some 3, none, .mov (.t 0)⟩,
    ⟨some 4, none, .len (.t 3)⟩,
    ⟨some 5, none, .bin .add (.t 4) (.k (.int .i64 (32)))⟩,
    ⟨some 6, none, .make 5 1 1 [.int .u8 0] (.k (.int .i64 (0))) (.t 5) true⟩,
    ⟨some 7, none, .mov (.t 0)⟩,
    ⟨some 8, none, .app 5 1 1 (.t 6) (.t 7)⟩,
    ⟨some 2, none, .mov (.t 8)⟩] none [2]
def c_codec_cloned : ACode :=
  (.seq r_codec_cloned_0
  (.seq r_codec_cloned_1
   .ret))
theorem fits_codec_cloned : Fits Try.prog 88 9 c_codec_cloned [.t 2] := ⟨⟨Try.f88, _, _, Try.func88, rfl, rfl, rfl, by decide, by kernel_rfl, by kernel_rfl⟩, Try.checked.mixed⟩
def r_codec_source_integer_0 : ACode := .reg [
    ⟨some 2, none, .mov (.k (.int .i64 (0)))⟩] none [0]
def r_codec_source_integer_1 : ACode := .reg [
    ⟨some 3, none, .mov (.k (.int .u64 (0)))⟩] none [0, 3]
def r_codec_source_integer_2 : ACode := .reg [
    ⟨some 4, none, .mov (.k (.int .i64 (0)))⟩] none [0, 3, 4]
def r_codec_source_integer_3 : ACode := .reg [
    ⟨some 7, none, .mov (.t 0)⟩,
    ⟨some 8, none, .nilck (.t 7)⟩,
    ⟨some 9, none, .fld 1 (.t 8)⟩,
    ⟨some 10, none, .load none (.t 9)⟩,
    ⟨some 11, none, .bin .eql (.t 10) (.k (.int .i64 (0)))⟩] none [0, 3, 4, 11]
def r_codec_source_integer_4 : ACode := .reg [
    ⟨some 14, none, .mov (.t 4)⟩,
    ⟨some 15, none, .mov (.t 0)⟩,
    ⟨some 16, none, .nilck (.t 15)⟩,
    ⟨some 17, none, .fld 0 (.t 16)⟩,
    ⟨some 18, none, .load none (.t 17)⟩,
    ⟨some 19, none, .len (.t 18)⟩,
    ⟨some 20, none, .bin .geq (.t 14) (.t 19)⟩] none [0, 3, 4, 20]
def r_codec_source_integer_5 : ACode := .reg [
    ⟨some 21, none, .mov (.t 0)⟩,
    ⟨some 22, none, .call 114 [(.t 21), (.k (.int .i64 (100)))]⟩] none []
def r_codec_source_integer_6 : ACode := .reg [
    ⟨some 23, none, .mov (.t 0)⟩,
    ⟨some 24, none, .nilck (.t 23)⟩,
    ⟨some 25, none, .fld 0 (.t 24)⟩,
    ⟨some 26, none, .load none (.t 25)⟩,
    ⟨some 27, none, .mov (.t 4)⟩,
    ⟨some 28, none, .idxa 1 (.t 26) (.t 27)⟩,
    ⟨some 29, none, .load none (.t 28)⟩,
    ⟨some 5, none, .mov (.t 29)⟩] none [0, 3, 4, 5]
def r_codec_source_integer_7 : ACode := .reg [
    ⟨some 30, none, .mov (.t 4)⟩,
    ⟨some 31, none, .bin .eql (.t 30) (.k (.int .i64 (9)))⟩,
    ⟨some 32, none, .mov (.t 31)⟩,
    ⟨some 33, (some (32, true)), .mov (.t 5)⟩,
    ⟨some 34, (some (32, true)), .bin .gtr (.t 33) (.k (.int .u8 (1)))⟩,
    ⟨some 35, none, .pick (.t 32) (.t 34) (.k (.bool false))⟩,
    ⟨some 36, none, .mov (.t 35)⟩,
    ⟨some 37, (some (36, false)), .mov (.t 4)⟩,
    ⟨some 38, (some (36, false)), .bin .gtr (.t 37) (.k (.int .i64 (0)))⟩,
    ⟨some 39, (some (36, false)), .mov (.t 38)⟩,
    ⟨some 40, (some (39, true)), .mov (.t 5)⟩,
    ⟨some 41, (some (39, true)), .bin .eql (.t 40) (.k (.int .u8 (0)))⟩,
    ⟨some 42, (some (36, false)), .pick (.t 39) (.t 41) (.k (.bool false))⟩,
    ⟨some 43, none, .pick (.t 36) (.k (.bool true)) (.t 42)⟩] none [0, 3, 4, 5, 43]
def r_codec_source_integer_8 : ACode := .reg [
    ⟨some 44, none, .mov (.t 0)⟩,
    ⟨some 45, none, .call 114 [(.t 44), (.k (.int .i64 (1)))]⟩] none []
def r_codec_source_integer_9 : ACode := .reg [
    ⟨some 46, none, .mov (.t 3)⟩,
    ⟨some 47, none, .mov (.t 5)⟩,
    ⟨some 48, none, .bin .and (.t 47) (.k (.int .u8 (127)))⟩,
    ⟨some 49, none, .conv .u64 (.t 48)⟩,
    ⟨some 50, none, .mov (.t 4)⟩,
    ⟨some 51, none, .conv .u64 (.t 50)⟩,
    ⟨some 52, none, .bin .mul (.k (.int .u64 (7))) (.t 51)⟩,
    ⟨some 53, none, .bin .shl (.t 49) (.t 52)⟩,
    ⟨some 54, none, .bin .or (.t 46) (.t 53)⟩,
    ⟨some 3, none, .mov (.t 54)⟩] none [0, 3, 4, 5]
def r_codec_source_integer_10 : ACode := .reg [
    ⟨some 55, none, .mov (.t 5)⟩,
    ⟨some 56, none, .bin .lss (.t 55) (.k (.int .u8 (128)))⟩] none [0, 3, 4, 56]
def r_codec_source_integer_11 : ACode := .reg [
    ⟨some 57, none, .mov (.t 0)⟩,
    ⟨some 58, none, .mov (.t 0)⟩,
    ⟨some 59, none, .nilck (.t 58)⟩,
    ⟨some 60, none, .fld 0 (.t 59)⟩,
    ⟨some 61, none, .load none (.t 60)⟩,
    ⟨some 62, none, .mov (.t 4)⟩,
    ⟨some 63, none, .bin .add (.t 62) (.k (.int .i64 (1)))⟩,
    ⟨some 64, none, .mov (.t 0)⟩,
    ⟨some 65, none, .nilck (.t 64)⟩,
    ⟨some 66, none, .fld 0 (.t 65)⟩,
    ⟨some 67, none, .load none (.t 66)⟩,
    ⟨some 68, none, .len (.t 67)⟩,
    ⟨some 69, none, .mov (.t 0)⟩,
    ⟨some 70, none, .nilck (.t 69)⟩,
    ⟨some 71, none, .fld 0 (.t 70)⟩,
    ⟨some 72, none, .load none (.t 71)⟩,
    ⟨some 73, none, .len (.t 72)⟩,
    ⟨some 74, none, .sl 1 (.t 61) (some (.t 63)) (some (.t 68)) (some (.t 73))⟩,
    ⟨some 75, none, .nilck (.t 57)⟩,
    ⟨some 76, none, .fld 0 (.t 75)⟩,
    ⟨none, none, .store 1 (.t 76) (.t 74)⟩] (some [0, 0, 2, 6, 14, 0, 32, 0, 128, 384, 896, 1920, 0, 4096, 12288, 28672, 61440, 131070, 262143, 524287, 1048575]) [3]
def r_codec_source_integer_12 : ACode := .reg [
    ⟨some 77, none, .mov (.t 3)⟩,
    ⟨some 78, none, .bin .shr (.t 77) (.k (.int .u64 (1)))⟩,
    ⟨some 79, none, .conv .i64 (.t 78)⟩,
    ⟨some 6, none, .mov (.t 79)⟩] none [3, 6]
def r_codec_source_integer_13 : ACode := .reg [
    ⟨some 80, none, .mov (.t 3)⟩,
    ⟨some 81, none, .bin .and (.t 80) (.k (.int .u64 (1)))⟩,
    ⟨some 82, none, .bin .eql (.t 81) (.k (.int .u64 (1)))⟩] none [6, 82]
def r_codec_source_integer_14 : ACode := .reg [
    ⟨some 83, none, .mov (.t 6)⟩,
    ⟨some 84, none, .un .xor (.t 83)⟩,
    ⟨some 6, none, .mov (.t 84)⟩] none [6]
def r_codec_source_integer_15 : ACode := .reg [
    ⟨some 85, none, .mov (.t 6)⟩,
    ⟨some 2, none, .mov (.t 85)⟩] none [2]
def r_codec_source_integer_16 : ACode := .reg [
    ⟨some 12, none, .mov (.t 4)⟩,
    ⟨some 13, none, .bin .add (.t 12) (.k (.int .i64 (1)))⟩,
    ⟨some 4, none, .mov (.t 13)⟩] none [0, 3, 4]
def r_codec_source_integer_17 : ACode := .reg [
    ⟨some 2, none, .mov (.k (.int .i64 (0)))⟩] none [2]
def c_codec_source_integer : ACode :=
  (.seq r_codec_source_integer_0
  (.seq r_codec_source_integer_1
   (.seq (.seq r_codec_source_integer_2
     (.block 0 (.loop (.seq (.seq r_codec_source_integer_3
         (.cond (.t 11)
          .skip
          (.exit 0)))
        (.seq (.block 1 (.seq (.seq r_codec_source_integer_4
            (.cond (.t 20)
             (.seq r_codec_source_integer_5
              (.exit 0))
             .skip))
           (.seq r_codec_source_integer_6
            (.seq (.seq r_codec_source_integer_7
              (.cond (.t 43)
               (.seq r_codec_source_integer_8
                (.exit 0))
               .skip))
             (.seq r_codec_source_integer_9
              (.seq r_codec_source_integer_10
               (.cond (.t 56)
                (.seq r_codec_source_integer_11
                 (.seq r_codec_source_integer_12
                  (.seq (.seq r_codec_source_integer_13
                    (.cond (.t 82)
                     r_codec_source_integer_14
                     .skip))
                   (.seq r_codec_source_integer_15
                    .ret))))
                .skip)))))))
         r_codec_source_integer_16)))))
    (.seq r_codec_source_integer_17
     .ret))))
theorem fits_codec_source_integer : Fits Try.prog 89 86 c_codec_source_integer [.t 2] := ⟨⟨Try.f89, _, _, Try.func89, rfl, rfl, rfl, by decide, by kernel_rfl, by kernel_rfl⟩, Try.checked.mixed⟩
def r_codec_source_rest_0 : ACode := .reg [
    ⟨some 2, none, .mov (.k (.slice none 0 0))⟩] none [0]
def r_codec_source_rest_1 : ACode := .reg [
    ⟨some 3, none, .mov (.t 0)⟩,
    ⟨some 4, none, .nilck (.t 3)⟩,
    ⟨some 5, none, .fld 0 (.t 4)⟩,
    ⟨some 6, none, .load none (.t 5)⟩,
    ⟨some 7, none, .app 5 1 1 (.k (.slice none 0 0)) (.t 6)⟩,
    ⟨some 2, none, .mov (.t 7)⟩] none [2]
def c_codec_source_rest : ACode :=
  (.seq r_codec_source_rest_0
  (.seq r_codec_source_rest_1
   .ret))
theorem fits_codec_source_rest : Fits Try.prog 90 8 c_codec_source_rest [.t 2] := ⟨⟨Try.f90, _, _, Try.func90, rfl, rfl, rfl, by decide, by kernel_rfl, by kernel_rfl⟩, Try.checked.mixed⟩
def r_codec_source_text_0 : ACode := .reg [
    ⟨some 4, none, .mov (.k (.string { data := #[] }))⟩] none [0, 1]
def r_codec_source_text_1 : ACode := .reg [
    ⟨some 5, none, .mov (.t 0)⟩,
    ⟨some 6, none, .mov (.t 0)⟩,
    ⟨some 7, none, .mov (.t 1)⟩,
    ⟨some 8, none, .call 108 [(.t 6), (.t 7)]⟩,
    ⟨some 9, none, .call 130 [(.t 5), (.t 8)]⟩,
    ⟨some 10, none, .tostr (.t 9)⟩,
    ⟨some 4, none, .mov (.t 10)⟩] none [4]
def c_codec_source_text : ACode :=
  (.seq r_codec_source_text_0
  (.seq r_codec_source_text_1
   .ret))
theorem fits_codec_source_text : Fits Try.prog 93 11 c_codec_source_text [.t 4] := ⟨⟨Try.f93, _, _, Try.func93, rfl, rfl, rfl, by decide, by kernel_rfl, by kernel_rfl⟩, Try.checked.mixed⟩
def r_codec_source_versions_0 : ACode := .reg [
    ⟨some 2, none, .mov (.k (.slice none 0 0))⟩] none [0]
def r_codec_source_versions_1 : ACode := .reg [
    ⟨some 7, none, .mov (.t 0)⟩,
    ⟨some 8, none, .call 108 [(.t 7), (.k (.int .i64 (512)))]⟩,
    ⟨some 3, none, .mov (.t 8)⟩] none [0, 3]
def r_codec_source_versions_2 : ACode := .reg [
    ⟨some 4, none, .mov (.k (.slice none 0 0))⟩] none [0, 3, 4]
def r_codec_source_versions_3 : ACode := .reg [
    ⟨some 5, none, .mov (.k (.int .i64 (0)))⟩] none [0, 3, 4, 5]
def r_codec_source_versions_4 : ACode := .reg [
    ⟨some 9, none, .mov (.t 5)⟩,
    ⟨some 10, none, .mov (.t 3)⟩,
    ⟨some 11, none, .bin .lss (.t 9) (.t 10)⟩,
    ⟨some 12, none, .mov (.t 11)⟩,
    ⟨some 13, (some (12, true)), .mov (.t 0)⟩,
    ⟨some 14, (some (12, true)), .nilck (.t 13)⟩,
    ⟨some 15, (some (12, true)), .fld 1 (.t 14)⟩,
    ⟨some 16, (some (12, true)), .load none (.t 15)⟩,
    ⟨some 17, (some (12, true)), .bin .eql (.t 16) (.k (.int .i64 (0)))⟩,
    ⟨some 18, none, .pick (.t 12) (.t 17) (.k (.bool false))⟩] none [0, 3, 4, 5, 18]
def r_codec_source_versions_5 : ACode := .reg [
    ⟨some 21, none, .mov (.t 0)⟩,
    ⟨some 22, none, .call 111 [(.t 21)]⟩,
    ⟨some 23, none, .build [.int .i64 0, .int .i64 0, .int .i64 0] [(0, 1, (.t 22))]⟩,
    ⟨some 6, none, .alloc 161 [.int .i64 0, .int .i64 0, .int .i64 0]⟩,
    ⟨none, none, .store 3 (.t 6) (.t 23)⟩] none [0, 3, 4, 5, 6]
def r_codec_source_versions_6 : ACode := .reg [
    ⟨some 24, none, .mov (.t 0)⟩,
    ⟨some 25, none, .call 111 [(.t 24)]⟩,
    ⟨some 26, none, .fld 2 (.t 6)⟩,
    ⟨none, none, .store 1 (.t 26) (.t 25)⟩] none [0, 3, 4, 5, 6]
def r_codec_source_versions_7 : ACode := .reg [
    ⟨some 27, none, .mov (.t 0)⟩,
    ⟨some 28, none, .call 111 [(.t 27)]⟩,
    ⟨some 29, none, .fld 1 (.t 6)⟩,
    ⟨none, none, .store 1 (.t 29) (.t 28)⟩] none [0, 3, 4, 5, 6]
def r_codec_source_versions_8 : ACode := .reg [
    ⟨some 30, none, .mov (.t 4)⟩,
    ⟨some 31, none, .load (some 3) (.t 6)⟩,
    ⟨some 32, none, .lit 161 3 1 [.int .i64 0, .int .i64 0, .int .i64 0] [(0, (.t 31))] false⟩,
    ⟨some 33, none, .app 161 3 24 (.t 30) (.t 32)⟩,
    ⟨some 4, none, .mov (.t 33)⟩] none [0, 3, 4, 5]
def r_codec_source_versions_9 : ACode := .reg [
    ⟨some 19, none, .mov (.t 5)⟩,
    ⟨some 20, none, .bin .add (.t 19) (.k (.int .i64 (1)))⟩,
    ⟨some 5, none, .mov (.t 20)⟩] none [0, 3, 4, 5]
def r_codec_source_versions_10 : ACode := .reg [
    ⟨some 34, none, .mov (.t 4)⟩,
    ⟨some 2, none, .mov (.t 34)⟩] none [2]
def c_codec_source_versions : ACode :=
  (.seq r_codec_source_versions_0
  (.seq r_codec_source_versions_1
   (.seq r_codec_source_versions_2
    (.seq (.seq r_codec_source_versions_3
      (.block 0 (.loop (.seq (.seq r_codec_source_versions_4
          (.cond (.t 18)
           .skip
           (.exit 0)))
         (.seq (.block 1 (.seq r_codec_source_versions_5
            (.seq r_codec_source_versions_6
             (.seq r_codec_source_versions_7
              r_codec_source_versions_8))))
          r_codec_source_versions_9)))))
     (.seq r_codec_source_versions_10
      .ret)))))
theorem fits_codec_source_versions : Fits Try.prog 96 35 c_codec_source_versions [.t 2] := ⟨⟨Try.f96, _, _, Try.func96, rfl, rfl, rfl, by decide, by kernel_rfl, by kernel_rfl⟩, Try.checked.mixed⟩
def r_codec_source_digest_0 : ACode := .reg [
    ⟨some 2, none, .alloc 45 [.int .u8 0, .int .u8 0, .int .u8 0, .int .u8 0, .int .u8 0, .int .u8 0, .int .u8 0, .int .u8 0, .int .u8 0, .int .u8 0, .int .u8 0, .int .u8 0, .int .u8 0, .int .u8 0, .int .u8 0, .int .u8 0, .int .u8 0, .int .u8 0, .int .u8 0, .int .u8 0, .int .u8 0, .int .u8 0, .int .u8 0, .int .u8 0, .int .u8 0, .int .u8 0, .int .u8 0, .int .u8 0, .int .u8 0, .int .u8 0, .int .u8 0, .int .u8 0]⟩] none [0, 2]
def r_codec_source_digest_1 : ACode := .reg [
    ⟨some 3, none, .alloc 45 [.int .u8 0, .int .u8 0, .int .u8 0, .int .u8 0, .int .u8 0, .int .u8 0, .int .u8 0, .int .u8 0, .int .u8 0, .int .u8 0, .int .u8 0, .int .u8 0, .int .u8 0, .int .u8 0, .int .u8 0, .int .u8 0, .int .u8 0, .int .u8 0, .int .u8 0, .int .u8 0, .int .u8 0, .int .u8 0, .int .u8 0, .int .u8 0, .int .u8 0, .int .u8 0, .int .u8 0, .int .u8 0, .int .u8 0, .int .u8 0, .int .u8 0, .int .u8 0]⟩] none [0, 2, 3]
def r_codec_source_digest_2 : ACode := .reg [
    ⟨some 4, none, .slr 32 1 (.t 3) none none none⟩,
    ⟨some 5, none, .mov (.t 0)⟩,
    ⟨some 6, none, .call 130 [(.t 5), (.k (.int .i64 (32)))]⟩,
    ⟨some 7, none, .copy 1 (.t 4) (.t 6)⟩] (some [0, 0, 2, 7]) [2, 3]
def r_codec_source_digest_3 : ACode := .reg [
    ⟨some 8, none, .load (some 32) (.t 3)⟩,
    ⟨none, none, .store 32 (.t 2) (.t 8)⟩] none [2]
def c_codec_source_digest : ACode :=
  (.seq r_codec_source_digest_0
  (.seq r_codec_source_digest_1
   (.seq r_codec_source_digest_2
    (.seq r_codec_source_digest_3
     .ret))))
theorem fits_codec_source_digest : Fits Try.prog 97 9 c_codec_source_digest [.c 2 (some 32)] := ⟨⟨Try.f97, _, _, Try.func97, rfl, rfl, rfl, by decide, by kernel_rfl, by kernel_rfl⟩, Try.checked.mixed⟩
def r_codec_source_sources_0 : ACode := .reg [
    ⟨some 2, none, .mov (.k (.slice none 0 0))⟩] none [0]
def r_codec_source_sources_1 : ACode := .reg [
    ⟨some 7, none, .mov (.t 0)⟩,
    ⟨some 8, none, .call 108 [(.t 7), (.k (.int .i64 (512)))]⟩,
    ⟨some 3, none, .mov (.t 8)⟩] none [0, 3]
def r_codec_source_sources_2 : ACode := .reg [
    ⟨some 4, none, .mov (.k (.slice none 0 0))⟩] none [0, 3, 4]
def r_codec_source_sources_3 : ACode := .reg [
    ⟨some 5, none, .mov (.k (.int .i64 (0)))⟩] none [0, 3, 4, 5]
def r_codec_source_sources_4 : ACode := .reg [
    ⟨some 9, none, .mov (.t 5)⟩,
    ⟨some 10, none, .mov (.t 3)⟩,
    ⟨some 11, none, .bin .lss (.t 9) (.t 10)⟩,
    ⟨some 12, none, .mov (.t 11)⟩,
    ⟨some 13, (some (12, true)), .mov (.t 0)⟩,
    ⟨some 14, (some (12, true)), .nilck (.t 13)⟩,
    ⟨some 15, (some (12, true)), .fld 1 (.t 14)⟩,
    ⟨some 16, (some (12, true)), .load none (.t 15)⟩,
    ⟨some 17, (some (12, true)), .bin .eql (.t 16) (.k (.int .i64 (0)))⟩,
    ⟨some 18, none, .pick (.t 12) (.t 17) (.k (.bool false))⟩] none [0, 3, 4, 5, 18]
def r_codec_source_sources_5 : ACode := .reg [
    ⟨some 21, none, .mov (.t 0)⟩,
    ⟨some 22, none, .call 111 [(.t 21)]⟩,
    ⟨some 23, none, .build [.int .i64 0, .int .i64 0] [(0, 1, (.t 22))]⟩,
    ⟨some 6, none, .alloc 163 [.int .i64 0, .int .i64 0]⟩,
    ⟨none, none, .store 2 (.t 6) (.t 23)⟩] none [0, 3, 4, 5, 6]
def r_codec_source_sources_6 : ACode := .reg [
    ⟨some 24, none, .mov (.t 0)⟩,
    ⟨some 25, none, .call 111 [(.t 24)]⟩,
    ⟨some 26, none, .fld 1 (.t 6)⟩,
    ⟨none, none, .store 1 (.t 26) (.t 25)⟩] none [0, 3, 4, 5, 6]
def r_codec_source_sources_7 : ACode := .reg [
    ⟨some 27, none, .mov (.t 4)⟩,
    ⟨some 28, none, .load (some 2) (.t 6)⟩,
    ⟨some 29, none, .lit 163 2 1 [.int .i64 0, .int .i64 0] [(0, (.t 28))] false⟩,
    ⟨some 30, none, .app 163 2 16 (.t 27) (.t 29)⟩,
    ⟨some 4, none, .mov (.t 30)⟩] none [0, 3, 4, 5]
def r_codec_source_sources_8 : ACode := .reg [
    ⟨some 19, none, .mov (.t 5)⟩,
    ⟨some 20, none, .bin .add (.t 19) (.k (.int .i64 (1)))⟩,
    ⟨some 5, none, .mov (.t 20)⟩] none [0, 3, 4, 5]
def r_codec_source_sources_9 : ACode := .reg [
    ⟨some 31, none, .mov (.t 4)⟩,
    ⟨some 2, none, .mov (.t 31)⟩] none [2]
def c_codec_source_sources : ACode :=
  (.seq r_codec_source_sources_0
  (.seq r_codec_source_sources_1
   (.seq r_codec_source_sources_2
    (.seq (.seq r_codec_source_sources_3
      (.block 0 (.loop (.seq (.seq r_codec_source_sources_4
          (.cond (.t 18)
           .skip
           (.exit 0)))
         (.seq (.block 1 (.seq r_codec_source_sources_5
            (.seq r_codec_source_sources_6
             r_codec_source_sources_7)))
          r_codec_source_sources_8)))))
     (.seq r_codec_source_sources_9
      .ret)))))
theorem fits_codec_source_sources : Fits Try.prog 98 32 c_codec_source_sources [.t 2] := ⟨⟨Try.f98, _, _, Try.func98, rfl, rfl, rfl, by decide, by kernel_rfl, by kernel_rfl⟩, Try.checked.mixed⟩
def r_codec_source_row_0 : ACode := .reg [
    ⟨some 2, none, .mov (.k (.slice none 0 0))⟩] none [0]
def r_codec_source_row_1 : ACode := .reg [
    ⟨some 6, none, .mov (.t 0)⟩,
    ⟨some 7, none, .call 108 [(.t 6), (.k (.int .i64 (16)))]⟩,
    ⟨some 3, none, .mov (.t 7)⟩] none [0, 3]
def r_codec_source_row_2 : ACode := .reg [
    ⟨some 4, none, .mov (.k (.slice none 0 0))⟩] none [0, 3, 4]
def r_codec_source_row_3 : ACode := .reg [
    ⟨some 5, none, .mov (.k (.int .i64 (0)))⟩] none [0, 3, 4, 5]
def r_codec_source_row_4 : ACode := .reg [
    ⟨some 8, none, .mov (.t 5)⟩,
    ⟨some 9, none, .mov (.t 3)⟩,
    ⟨some 10, none, .bin .lss (.t 8) (.t 9)⟩,
    ⟨some 11, none, .mov (.t 10)⟩,
    ⟨some 12, (some (11, true)), .mov (.t 0)⟩,
    ⟨some 13, (some (11, true)), .nilck (.t 12)⟩,
    ⟨some 14, (some (11, true)), .fld 1 (.t 13)⟩,
    ⟨some 15, (some (11, true)), .load none (.t 14)⟩,
    ⟨some 16, (some (11, true)), .bin .eql (.t 15) (.k (.int .i64 (0)))⟩,
    ⟨some 17, none, .pick (.t 11) (.t 16) (.k (.bool false))⟩] none [0, 3, 4, 5, 17]
def r_codec_source_row_5 : ACode := .reg [
    ⟨some 20, none, .mov (.t 4)⟩,
    ⟨some 21, none, .mov (.t 0)⟩,
    ⟨some 22, none, .call 105 [(.t 21)]⟩,
    ⟨some 23, none, .lit 67 3 1 [.int .i64 0, .int .i64 0, .string ⟨#[]⟩] [(0, (.t 22))] false⟩,
    ⟨some 24, none, .app 67 3 32 (.t 20) (.t 23)⟩,
    ⟨some 4, none, .mov (.t 24)⟩] none [0, 3, 4, 5]
def r_codec_source_row_6 : ACode := .reg [
    ⟨some 18, none, .mov (.t 5)⟩,
    ⟨some 19, none, .bin .add (.t 18) (.k (.int .i64 (1)))⟩,
    ⟨some 5, none, .mov (.t 19)⟩] none [0, 3, 4, 5]
def r_codec_source_row_7 : ACode := .reg [
    ⟨some 25, none, .mov (.t 4)⟩,
    ⟨some 2, none, .mov (.t 25)⟩] none [2]
def c_codec_source_row : ACode :=
  (.seq r_codec_source_row_0
  (.seq r_codec_source_row_1
   (.seq r_codec_source_row_2
    (.seq (.seq r_codec_source_row_3
      (.block 0 (.loop (.seq (.seq r_codec_source_row_4
          (.cond (.t 17)
           .skip
           (.exit 0)))
         (.seq (.block 1 r_codec_source_row_5)
          r_codec_source_row_6)))))
     (.seq r_codec_source_row_7
      .ret)))))
theorem fits_codec_source_row : Fits Try.prog 103 26 c_codec_source_row [.t 2] := ⟨⟨Try.f103, _, _, Try.func103, rfl, rfl, rfl, by decide, by kernel_rfl, by kernel_rfl⟩, Try.checked.mixed⟩
def r_codec_source_value_0 : ACode := .reg [
    ⟨some 2, none, .alloc 67 [.int .i64 0, .int .i64 0, .string ⟨#[]⟩]⟩] none [0, 2]
def r_codec_source_value_1 : ACode := .reg [
    ⟨some 4, none, .mov (.t 0)⟩,
    ⟨some 5, none, .call 108 [(.t 4), (.k (.int .i64 (2)))]⟩] none [0, 2, 5]
def r_codec_source_value_2 : ACode := .reg [
    ⟨some 7, none, .bin .eql (.t 5) (.k (.int .i64 (1)))⟩,
    ⟨some 6, none, .mov (.t 7)⟩] none [0, 2, 5, 6]
def r_codec_source_value_3 : ACode := .reg [
    ⟨some 8, none, .mov (.t 0)⟩,
    ⟨some 9, none, .call 89 [(.t 8)]⟩,
    ⟨some 3, none, .mov (.t 9)⟩] none [0, 2, 3]
def r_codec_source_value_4 : ACode := .reg [
    ⟨some 10, none, .mov (.t 3)⟩,
    ⟨some 11, none, .bin .lss (.t 10) (.k (.int .i64 (-4294967296)))⟩,
    ⟨some 12, none, .mov (.t 11)⟩,
    ⟨some 13, (some (12, false)), .mov (.t 3)⟩,
    ⟨some 14, (some (12, false)), .bin .gtr (.t 13) (.k (.int .i64 (4294967296)))⟩,
    ⟨some 15, none, .pick (.t 12) (.k (.bool true)) (.t 14)⟩] none [0, 2, 3, 15]
def r_codec_source_value_5 : ACode := .reg [
    ⟨some 16, none, .mov (.t 0)⟩,
    ⟨some 17, none, .call 114 [(.t 16), (.k (.int .i64 (1)))]⟩] none [2, 3]
def r_codec_source_value_6 : ACode := .reg [
    ⟨some 18, none, .mov (.t 3)⟩,
    ⟨some 19, none, .build [.int .i64 0, .int .i64 0, .string ⟨#[]⟩] [(0, 1, (.k (.int .i64 (1)))), (1, 1, (.t 18))]⟩,
    ⟨none, none, .store 3 (.t 2) (.t 19)⟩] none [2]
def r_codec_source_value_7 : ACode := .reg [
    ⟨some 21, none, .bin .eql (.t 5) (.k (.int .i64 (2)))⟩,
    ⟨some 20, none, .mov (.t 21)⟩] none [0, 2, 20]
def r_codec_source_value_8 : ACode := .reg [
    ⟨some 22, none, .mov (.t 0)⟩,
    ⟨some 23, none, .call 93 [(.t 22), (.k (.int .i64 (32)))]⟩,
    ⟨some 24, none, .build [.int .i64 0, .int .i64 0, .string ⟨#[]⟩] [(0, 1, (.k (.int .i64 (2)))), (2, 1, (.t 23))]⟩,
    ⟨none, none, .store 3 (.t 2) (.t 24)⟩] none [2]
def r_codec_source_value_9 : ACode := .reg [
    ⟨some 25, none, .build [.int .i64 0, .int .i64 0, .string ⟨#[]⟩] []⟩,
    ⟨none, none, .store 3 (.t 2) (.t 25)⟩] none [2]
def c_codec_source_value : ACode :=
  (.seq r_codec_source_value_0
  (.seq (.seq r_codec_source_value_1
    (.block 0 (.seq r_codec_source_value_2
      (.cond (.t 6)
       (.seq r_codec_source_value_3
        (.seq (.seq r_codec_source_value_4
          (.cond (.t 15)
           r_codec_source_value_5
           .skip))
         (.seq r_codec_source_value_6
          .ret)))
       (.seq r_codec_source_value_7
        (.cond (.t 20)
         (.seq r_codec_source_value_8
          .ret)
         .skip))))))
   (.seq r_codec_source_value_9
    .ret)))
theorem fits_codec_source_value : Fits Try.prog 105 26 c_codec_source_value [.c 2 (some 3)] := ⟨⟨Try.f105, _, _, Try.func105, rfl, rfl, rfl, by decide, by kernel_rfl, by kernel_rfl⟩, Try.checked.mixed⟩
def r_codec_source_count_0 : ACode := .reg [
    ⟨some 4, none, .mov (.k (.int .i64 (0)))⟩] none [0, 1]
def r_codec_source_count_1 : ACode := .reg [
    ⟨some 6, none, .mov (.t 0)⟩,
    ⟨some 7, none, .call 89 [(.t 6)]⟩,
    ⟨some 5, none, .mov (.t 7)⟩] none [0, 1, 5]
def r_codec_source_count_2 : ACode := .reg [
    ⟨some 8, none, .mov (.t 5)⟩,
    ⟨some 9, none, .bin .lss (.t 8) (.k (.int .i64 (0)))⟩,
    ⟨some 10, none, .mov (.t 9)⟩,
    ⟨some 11, (some (10, false)), .mov (.t 5)⟩,
    ⟨some 12, (some (10, false)), .mov (.t 1)⟩,
    ⟨some 13, (some (10, false)), .bin .gtr (.t 11) (.t 12)⟩,
    ⟨some 14, none, .pick (.t 10) (.k (.bool true)) (.t 13)⟩] none [0, 5, 14]
def r_codec_source_count_3 : ACode := .reg [
    ⟨some 15, none, .mov (.t 0)⟩,
    ⟨some 16, none, .call 114 [(.t 15), (.k (.int .i64 (1)))]⟩] none [0, 5]
def r_codec_source_count_4 : ACode := .reg [
    ⟨some 17, none, .mov (.t 0)⟩,
    ⟨some 18, none, .nilck (.t 17)⟩,
    ⟨some 19, none, .fld 1 (.t 18)⟩,
    ⟨some 20, none, .load none (.t 19)⟩,
    ⟨some 21, none, .bin .neq (.t 20) (.k (.int .i64 (0)))⟩] none [5, 21]
def r_codec_source_count_5 : ACode := .reg [
    ⟨some 4, none, .mov (.k (.int .i64 (0)))⟩] none [4]
def r_codec_source_count_6 : ACode := .reg [
    ⟨some 22, none, .mov (.t 5)⟩,
    ⟨some 4, none, .mov (.t 22)⟩] none [4]
def c_codec_source_count : ACode :=
  (.seq r_codec_source_count_0
  (.seq r_codec_source_count_1
   (.seq (.seq r_codec_source_count_2
     (.cond (.t 14)
      r_codec_source_count_3
      .skip))
    (.seq (.seq r_codec_source_count_4
      (.cond (.t 21)
       (.seq r_codec_source_count_5
        .ret)
       .skip))
     (.seq r_codec_source_count_6
      .ret)))))
theorem fits_codec_source_count : Fits Try.prog 108 23 c_codec_source_count [.t 4] := ⟨⟨Try.f108, _, _, Try.func108, rfl, rfl, rfl, by decide, by kernel_rfl, by kernel_rfl⟩, Try.checked.mixed⟩
def r_codec_source_number_0 : ACode := .reg [
    ⟨some 2, none, .mov (.k (.int .i64 (0)))⟩] none [0]
def r_codec_source_number_1 : ACode := .reg [
    ⟨some 3, none, .mov (.t 0)⟩,
    ⟨some 4, none, .call 89 [(.t 3)]⟩,
    ⟨some 2, none, .mov (.t 4)⟩] none [2]
def c_codec_source_number : ACode :=
  (.seq r_codec_source_number_0
  (.seq r_codec_source_number_1
   .ret))
theorem fits_codec_source_number : Fits Try.prog 111 5 c_codec_source_number [.t 2] := ⟨⟨Try.f111, _, _, Try.func111, rfl, rfl, rfl, by decide, by kernel_rfl, by kernel_rfl⟩, Try.checked.mixed⟩
def r_codec_source_fail_0 : ACode := .reg [
    ⟨some 4, none, .mov (.t 0)⟩,
    ⟨some 5, none, .nilck (.t 4)⟩,
    ⟨some 6, none, .fld 1 (.t 5)⟩,
    ⟨some 7, none, .load none (.t 6)⟩,
    ⟨some 8, none, .bin .eql (.t 7) (.k (.int .i64 (0)))⟩] none [0, 1, 8]
def r_codec_source_fail_1 : ACode := .reg [
    ⟨some 9, none, .mov (.t 0)⟩,
    ⟨some 10, none, .mov (.t 1)⟩,
    ⟨some 11, none, .nilck (.t 9)⟩,
    ⟨some 12, none, .fld 1 (.t 11)⟩,
    ⟨none, none, .store 1 (.t 12) (.t 10)⟩] none []
def c_codec_source_fail : ACode :=
  (.seq r_codec_source_fail_0
  (.cond (.t 8)
   r_codec_source_fail_1
   .skip))
theorem fits_codec_source_fail : Fits Try.prog 114 13 c_codec_source_fail [] := ⟨⟨Try.f114, _, _, Try.func114, rfl, rfl, rfl, by decide, by kernel_rfl, by kernel_rfl⟩, Try.checked.mixed⟩
def r_codec_source_request_0 : ACode := .reg [
    ⟨some 2, none, .alloc 105 [.int .i64 0, .string ⟨#[]⟩, .int .i64 0, .int .i64 0, .string ⟨#[]⟩, .int .i64 0, .int .i64 0, .int .i64 0]⟩] none [0, 2]
def r_codec_source_request_1 : ACode := .reg [
    ⟨some 4, none, .mov (.t 0)⟩,
    ⟨some 5, none, .call 111 [(.t 4)]⟩,
    ⟨some 6, none, .build [.int .i64 0, .string ⟨#[]⟩, .int .i64 0, .int .i64 0, .string ⟨#[]⟩, .int .i64 0, .int .i64 0, .int .i64 0] [(0, 1, (.t 5))]⟩,
    ⟨some 3, none, .alloc 105 [.int .i64 0, .string ⟨#[]⟩, .int .i64 0, .int .i64 0, .string ⟨#[]⟩, .int .i64 0, .int .i64 0, .int .i64 0]⟩,
    ⟨none, none, .store 8 (.t 3) (.t 6)⟩] none [0, 2, 3]
def r_codec_source_request_2 : ACode := .reg [
    ⟨some 7, none, .mov (.t 0)⟩,
    ⟨some 8, none, .call 122 [(.t 7)]⟩,
    ⟨some 9, none, .fld 1 (.t 3)⟩,
    ⟨none, none, .store 4 (.t 9) (.t 8)⟩] none [0, 2, 3]
def r_codec_source_request_3 : ACode := .reg [
    ⟨some 10, none, .mov (.t 0)⟩,
    ⟨some 11, none, .call 111 [(.t 10)]⟩,
    ⟨some 12, none, .fld 5 (.t 3)⟩,
    ⟨none, none, .store 1 (.t 12) (.t 11)⟩] none [0, 2, 3]
def r_codec_source_request_4 : ACode := .reg [
    ⟨some 13, none, .mov (.t 0)⟩,
    ⟨some 14, none, .call 111 [(.t 13)]⟩,
    ⟨some 15, none, .fld 6 (.t 3)⟩,
    ⟨none, none, .store 1 (.t 15) (.t 14)⟩] none [0, 2, 3]
def r_codec_source_request_5 : ACode := .reg [
    ⟨some 16, none, .mov (.t 0)⟩,
    ⟨some 17, none, .call 111 [(.t 16)]⟩,
    ⟨some 18, none, .fld 7 (.t 3)⟩,
    ⟨none, none, .store 1 (.t 18) (.t 17)⟩] none [2, 3]
def r_codec_source_request_6 : ACode := .reg [
    ⟨some 19, none, .load (some 8) (.t 3)⟩,
    ⟨none, none, .store 8 (.t 2) (.t 19)⟩] none [2]
def c_codec_source_request : ACode :=
  (.seq r_codec_source_request_0
  (.seq r_codec_source_request_1
   (.seq r_codec_source_request_2
    (.seq r_codec_source_request_3
     (.seq r_codec_source_request_4
      (.seq r_codec_source_request_5
       (.seq r_codec_source_request_6
        .ret)))))))
theorem fits_codec_source_request : Fits Try.prog 115 20 c_codec_source_request [.c 2 (some 8)] := ⟨⟨Try.f115, _, _, Try.func115, rfl, rfl, rfl, by decide, by kernel_rfl, by kernel_rfl⟩, Try.checked.mixed⟩
def r_codec_source_link_0 : ACode := .reg [
    ⟨some 2, none, .alloc 107 [.string ⟨#[]⟩, .int .i64 0, .int .i64 0, .string ⟨#[]⟩, .string ⟨#[]⟩, .int .i64 0, .int .i64 0, .string ⟨#[]⟩, .int .i64 0, .bool false]⟩] none [0, 2]
def r_codec_source_link_1 : ACode := .reg [
    ⟨some 4, none, .mov (.t 0)⟩,
    ⟨some 5, none, .call 122 [(.t 4)]⟩,
    ⟨some 6, none, .build [.string ⟨#[]⟩, .int .i64 0, .int .i64 0, .string ⟨#[]⟩, .string ⟨#[]⟩, .int .i64 0, .int .i64 0, .string ⟨#[]⟩, .int .i64 0, .bool false] [(0, 4, (.t 5))]⟩,
    ⟨some 3, none, .alloc 107 [.string ⟨#[]⟩, .int .i64 0, .int .i64 0, .string ⟨#[]⟩, .string ⟨#[]⟩, .int .i64 0, .int .i64 0, .string ⟨#[]⟩, .int .i64 0, .bool false]⟩,
    ⟨none, none, .store 10 (.t 3) (.t 6)⟩] none [0, 2, 3]
def r_codec_source_link_2 : ACode := .reg [
    ⟨some 7, none, .mov (.t 0)⟩,
    ⟨some 8, none, .call 122 [(.t 7)]⟩,
    ⟨some 9, none, .fld 4 (.t 3)⟩,
    ⟨none, none, .store 4 (.t 9) (.t 8)⟩] none [0, 2, 3]
def r_codec_source_link_3 : ACode := .reg [
    ⟨some 10, none, .mov (.t 0)⟩,
    ⟨some 11, none, .call 111 [(.t 10)]⟩,
    ⟨some 12, none, .fld 8 (.t 3)⟩,
    ⟨none, none, .store 1 (.t 12) (.t 11)⟩] none [0, 2, 3]
def r_codec_source_link_4 : ACode := .reg [
    ⟨some 13, none, .mov (.t 0)⟩,
    ⟨some 14, none, .call 108 [(.t 13), (.k (.int .i64 (1)))]⟩,
    ⟨some 15, none, .bin .eql (.t 14) (.k (.int .i64 (1)))⟩,
    ⟨some 16, none, .fld 9 (.t 3)⟩,
    ⟨none, none, .store 1 (.t 16) (.t 15)⟩] none [2, 3]
def r_codec_source_link_5 : ACode := .reg [
    ⟨some 17, none, .load (some 10) (.t 3)⟩,
    ⟨none, none, .store 10 (.t 2) (.t 17)⟩] none [2]
def c_codec_source_link : ACode :=
  (.seq r_codec_source_link_0
  (.seq r_codec_source_link_1
   (.seq r_codec_source_link_2
    (.seq r_codec_source_link_3
     (.seq r_codec_source_link_4
      (.seq r_codec_source_link_5
       .ret))))))
theorem fits_codec_source_link : Fits Try.prog 116 18 c_codec_source_link [.c 2 (some 10)] := ⟨⟨Try.f116, _, _, Try.func116, rfl, rfl, rfl, by decide, by kernel_rfl, by kernel_rfl⟩, Try.checked.mixed⟩
def r_codec_source_hold_0 : ACode := .reg [
    ⟨some 2, none, .alloc 109 [.int .i64 0, .int .i64 0, .string ⟨#[]⟩, .int .i64 0, .int .i64 0, .string ⟨#[]⟩, .int .i64 0, .int .i64 0, .int .i64 0]⟩] none [0, 2]
def r_codec_source_hold_1 : ACode := .reg [
    ⟨some 4, none, .mov (.t 0)⟩,
    ⟨some 5, none, .call 111 [(.t 4)]⟩,
    ⟨some 6, none, .build [.int .i64 0, .int .i64 0, .string ⟨#[]⟩, .int .i64 0, .int .i64 0, .string ⟨#[]⟩, .int .i64 0, .int .i64 0, .int .i64 0] [(0, 1, (.t 5))]⟩,
    ⟨some 3, none, .alloc 109 [.int .i64 0, .int .i64 0, .string ⟨#[]⟩, .int .i64 0, .int .i64 0, .string ⟨#[]⟩, .int .i64 0, .int .i64 0, .int .i64 0]⟩,
    ⟨none, none, .store 9 (.t 3) (.t 6)⟩] none [0, 2, 3]
def r_codec_source_hold_2 : ACode := .reg [
    ⟨some 7, none, .mov (.t 0)⟩,
    ⟨some 8, none, .call 111 [(.t 7)]⟩,
    ⟨some 9, none, .fld 1 (.t 3)⟩,
    ⟨none, none, .store 1 (.t 9) (.t 8)⟩] none [0, 2, 3]
def r_codec_source_hold_3 : ACode := .reg [
    ⟨some 10, none, .mov (.t 0)⟩,
    ⟨some 11, none, .call 122 [(.t 10)]⟩,
    ⟨some 12, none, .fld 2 (.t 3)⟩,
    ⟨none, none, .store 4 (.t 12) (.t 11)⟩] none [0, 2, 3]
def r_codec_source_hold_4 : ACode := .reg [
    ⟨some 13, none, .mov (.t 0)⟩,
    ⟨some 14, none, .call 111 [(.t 13)]⟩,
    ⟨some 15, none, .fld 6 (.t 3)⟩,
    ⟨none, none, .store 1 (.t 15) (.t 14)⟩] none [0, 2, 3]
def r_codec_source_hold_5 : ACode := .reg [
    ⟨some 16, none, .mov (.t 0)⟩,
    ⟨some 17, none, .call 111 [(.t 16)]⟩,
    ⟨some 18, none, .fld 7 (.t 3)⟩,
    ⟨none, none, .store 1 (.t 18) (.t 17)⟩] none [0, 2, 3]
def r_codec_source_hold_6 : ACode := .reg [
    ⟨some 19, none, .mov (.t 0)⟩,
    ⟨some 20, none, .call 111 [(.t 19)]⟩,
    ⟨some 21, none, .fld 8 (.t 3)⟩,
    ⟨none, none, .store 1 (.t 21) (.t 20)⟩] none [2, 3]
def r_codec_source_hold_7 : ACode := .reg [
    ⟨some 22, none, .load (some 9) (.t 3)⟩,
    ⟨none, none, .store 9 (.t 2) (.t 22)⟩] none [2]
def c_codec_source_hold : ACode :=
  (.seq r_codec_source_hold_0
  (.seq r_codec_source_hold_1
   (.seq r_codec_source_hold_2
    (.seq r_codec_source_hold_3
     (.seq r_codec_source_hold_4
      (.seq r_codec_source_hold_5
       (.seq r_codec_source_hold_6
        (.seq r_codec_source_hold_7
         .ret))))))))
theorem fits_codec_source_hold : Fits Try.prog 117 23 c_codec_source_hold [.c 2 (some 9)] := ⟨⟨Try.f117, _, _, Try.func117, rfl, rfl, rfl, by decide, by kernel_rfl, by kernel_rfl⟩, Try.checked.mixed⟩
def r_codec_source_identifier_0 : ACode := .reg [
    ⟨some 2, none, .alloc 103 [.string ⟨#[]⟩, .int .i64 0, .int .i64 0, .string ⟨#[]⟩]⟩] none [0, 2]
def r_codec_source_identifier_1 : ACode := .reg [
    ⟨some 4, none, .mov (.t 0)⟩,
    ⟨some 5, none, .call 93 [(.t 4), (.k (.int .i64 (16)))]⟩,
    ⟨some 3, none, .mov (.t 5)⟩] none [0, 2, 3]
def r_codec_source_identifier_2 : ACode := .reg [
    ⟨some 6, none, .mov (.t 3)⟩,
    ⟨some 7, none, .mov (.t 0)⟩,
    ⟨some 8, none, .call 105 [(.t 7)]⟩,
    ⟨some 9, none, .build [.string ⟨#[]⟩, .int .i64 0, .int .i64 0, .string ⟨#[]⟩] [(0, 1, (.t 6)), (1, 3, (.t 8))]⟩,
    ⟨none, none, .store 4 (.t 2) (.t 9)⟩] none [2]
def c_codec_source_identifier : ACode :=
  (.seq r_codec_source_identifier_0
  (.seq r_codec_source_identifier_1
   (.seq r_codec_source_identifier_2
    .ret)))
theorem fits_codec_source_identifier : Fits Try.prog 122 10 c_codec_source_identifier [.c 2 (some 4)] := ⟨⟨Try.f122, _, _, Try.func122, rfl, rfl, rfl, by decide, by kernel_rfl, by kernel_rfl⟩, Try.checked.mixed⟩
def r_codec_source_take_0 : ACode := .reg [
    ⟨some 4, none, .mov (.k (.slice none 0 0))⟩] none [0, 1]
def r_codec_source_take_1 : ACode := .reg [
    ⟨some 6, none, .mov (.t 0)⟩,
    ⟨some 7, none, .nilck (.t 6)⟩,
    ⟨some 8, none, .fld 1 (.t 7)⟩,
    ⟨some 9, none, .load none (.t 8)⟩,
    ⟨some 10, none, .bin .eql (.t 9) (.k (.int .i64 (0)))⟩,
    ⟨some 11, none, .mov (.t 10)⟩,
    ⟨some 12, (some (11, true)), .mov (.t 1)⟩,
    ⟨some 13, (some (11, true)), .mov (.t 0)⟩,
    ⟨some 14, (some (11, true)), .nilck (.t 13)⟩,
    ⟨some 15, (some (11, true)), .fld 0 (.t 14)⟩,
    ⟨some 16, (some (11, true)), .load none (.t 15)⟩,
    ⟨some 17, (some (11, true)), .len (.t 16)⟩,
    ⟨some 18, (some (11, true)), .bin .gtr (.t 12) (.t 17)⟩,
    ⟨some 19, none, .pick (.t 11) (.t 18) (.k (.bool false))⟩] none [0, 1, 19]
def r_codec_source_take_2 : ACode := .reg [
    ⟨some 20, none, .mov (.t 0)⟩,
    ⟨some 21, none, .call 114 [(.t 20), (.k (.int .i64 (100)))]⟩] none [0, 1]
def r_codec_source_take_3 : ACode := .reg [
    ⟨some 22, none, .mov (.t 0)⟩,
    ⟨some 23, none, .nilck (.t 22)⟩,
    ⟨some 24, none, .fld 1 (.t 23)⟩,
    ⟨some 25, none, .load none (.t 24)⟩,
    ⟨some 26, none, .bin .neq (.t 25) (.k (.int .i64 (0)))⟩] none [0, 1, 26]
def r_codec_source_take_4 : ACode := .reg [
    ⟨some 4, none, .mov (.k (.slice none 0 0))⟩] none [4]
def r_codec_source_take_5 : ACode := .reg [
    ⟨some 27, none, .mov (.t 0)⟩,
    ⟨some 28, none, .nilck (.t 27)⟩,
    ⟨some 29, none, .fld 0 (.t 28)⟩,
    ⟨some 30, none, .load none (.t 29)⟩,
    ⟨some 31, none, .mov (.t 1)⟩,
    ⟨some 32, none, .mov (.t 1)⟩,
    ⟨some 33, none, .sl 1 (.t 30) none (some (.t 31)) (some (.t 32))⟩,
    ⟨some 5, none, .mov (.t 33)⟩] none [0, 1, 5]
def r_codec_source_take_6 : ACode := .reg [
    ⟨some 34, none, .mov (.t 0)⟩,
    ⟨some 35, none, .mov (.t 0)⟩,
    ⟨some 36, none, .nilck (.t 35)⟩,
    ⟨some 37, none, .fld 0 (.t 36)⟩,
    ⟨some 38, none, .load none (.t 37)⟩,
    ⟨some 39, none, .mov (.t 1)⟩,
    ⟨some 40, none, .mov (.t 0)⟩,
    ⟨some 41, none, .nilck (.t 40)⟩,
    ⟨some 42, none, .fld 0 (.t 41)⟩,
    ⟨some 43, none, .load none (.t 42)⟩,
    ⟨some 44, none, .len (.t 43)⟩,
    ⟨some 45, none, .mov (.t 0)⟩,
    ⟨some 46, none, .nilck (.t 45)⟩,
    ⟨some 47, none, .fld 0 (.t 46)⟩,
    ⟨some 48, none, .load none (.t 47)⟩,
    ⟨some 49, none, .len (.t 48)⟩,
    ⟨some 50, none, .sl 1 (.t 38) (some (.t 39)) (some (.t 44)) (some (.t 49))⟩,
    ⟨some 51, none, .nilck (.t 34)⟩,
    ⟨some 52, none, .fld 0 (.t 51)⟩,
    ⟨none, none, .store 1 (.t 52) (.t 50)⟩] (some [0, 0, 2, 6, 14, 0, 0, 64, 192, 448, 960, 0, 2048, 6144, 14336, 30720, 65534, 131071, 262143, 524287]) [5]
def r_codec_source_take_7 : ACode := .reg [
    ⟨some 53, none, .mov (.t 5)⟩,
    ⟨some 4, none, .mov (.t 53)⟩] none [4]
def c_codec_source_take : ACode :=
  (.seq r_codec_source_take_0
  (.seq (.seq r_codec_source_take_1
    (.cond (.t 19)
     r_codec_source_take_2
     .skip))
   (.seq (.seq r_codec_source_take_3
     (.cond (.t 26)
      (.seq r_codec_source_take_4
       .ret)
      .skip))
    (.seq r_codec_source_take_5
     (.seq r_codec_source_take_6
      (.seq r_codec_source_take_7
       .ret))))))
theorem fits_codec_source_take : Fits Try.prog 130 54 c_codec_source_take [.t 4] := ⟨⟨Try.f130, _, _, Try.func130, rfl, rfl, rfl, by decide, by kernel_rfl, by kernel_rfl⟩, Try.checked.mixed⟩
end Go.Proofs.Ytjieenfbfckafaa.Am
namespace Go.Proofs.Ytjieenfbfckafaa.Am
open Go
set_option linter.unusedVariables false
set_option linter.unusedSimpArgs false
set_option maxRecDepth 100000
def r_erasureref26Reader_Int_0 : ACode := .reg [
    ⟨some 2, none, .mov (.k (.int .i64 (0)))⟩] none [0]
def r_erasureref26Reader_Int_1 : ACode := .reg [
    ⟨some 3, none, .mov (.k (.int .u64 (0)))⟩] none [0, 3]
def r_erasureref26Reader_Int_2 : ACode := .reg [
    ⟨some 4, none, .mov (.k (.int .i64 (0)))⟩] none [0, 3, 4]
def r_erasureref26Reader_Int_3 : ACode := .reg [
    ⟨some 6, none, .mov (.t 0)⟩,
    ⟨some 7, none, .nilck (.t 6)⟩,
    ⟨some 8, none, .fld 1 (.t 7)⟩,
    ⟨some 9, none, .load none (.t 8)⟩,
    ⟨some 10, none, .bin .eql (.t 9) (.k (.int .i64 (0)))⟩] none [0, 3, 4, 10]
def r_erasureref26Reader_Int_4 : ACode := .reg [
    ⟨some 13, none, .mov (.t 4)⟩,
    ⟨some 14, none, .mov (.t 0)⟩,
    ⟨some 15, none, .nilck (.t 14)⟩,
    ⟨some 16, none, .fld 0 (.t 15)⟩,
    ⟨some 17, none, .load none (.t 16)⟩,
    ⟨some 18, none, .len (.t 17)⟩,
    ⟨some 19, none, .bin .geq (.t 13) (.t 18)⟩] none [0, 3, 4, 19]
def r_erasureref26Reader_Int_5 : ACode := .reg [
    ⟨some 20, none, .mov (.t 0)⟩,
    ⟨some 21, none, .call 91 [(.t 20), (.k (.int .i64 (100)))]⟩] none [0, 3]
def r_erasureref26Reader_Int_6 : ACode := .reg [
    ⟨some 22, none, .mov (.t 0)⟩,
    ⟨some 23, none, .nilck (.t 22)⟩,
    ⟨some 24, none, .fld 0 (.t 23)⟩,
    ⟨some 25, none, .load none (.t 24)⟩,
    ⟨some 26, none, .mov (.t 4)⟩,
    ⟨some 27, none, .idxa 1 (.t 25) (.t 26)⟩,
    ⟨some 28, none, .load none (.t 27)⟩,
    ⟨some 5, none, .mov (.t 28)⟩] none [0, 3, 4, 5]
def r_erasureref26Reader_Int_7 : ACode := .reg [
    ⟨some 29, none, .mov (.t 4)⟩,
    ⟨some 30, none, .bin .eql (.t 29) (.k (.int .i64 (9)))⟩,
    ⟨some 31, none, .mov (.t 30)⟩,
    ⟨some 32, (some (31, true)), .mov (.t 5)⟩,
    ⟨some 33, (some (31, true)), .bin .gtr (.t 32) (.k (.int .u8 (1)))⟩,
    ⟨some 34, none, .pick (.t 31) (.t 33) (.k (.bool false))⟩,
    ⟨some 35, none, .mov (.t 34)⟩,
    ⟨some 36, (some (35, false)), .mov (.t 4)⟩,
    ⟨some 37, (some (35, false)), .bin .gtr (.t 36) (.k (.int .i64 (0)))⟩,
    ⟨some 38, (some (35, false)), .mov (.t 37)⟩,
    ⟨some 39, (some (38, true)), .mov (.t 5)⟩,
    ⟨some 40, (some (38, true)), .bin .eql (.t 39) (.k (.int .u8 (0)))⟩,
    ⟨some 41, (some (35, false)), .pick (.t 38) (.t 40) (.k (.bool false))⟩,
    ⟨some 42, none, .pick (.t 35) (.k (.bool true)) (.t 41)⟩] none [0, 3, 4, 5, 42]
def r_erasureref26Reader_Int_8 : ACode := .reg [
    ⟨some 43, none, .mov (.t 0)⟩,
    ⟨some 44, none, .call 91 [(.t 43), (.k (.int .i64 (1)))]⟩] none [0, 3]
def r_erasureref26Reader_Int_9 : ACode := .reg [
    ⟨some 45, none, .mov (.t 3)⟩,
    ⟨some 46, none, .mov (.t 5)⟩,
    ⟨some 47, none, .bin .rem (.t 46) (.k (.int .u8 (128)))⟩,
    ⟨some 48, none, .conv .u64 (.t 47)⟩,
    ⟨some 49, none, .mov (.t 4)⟩,
    ⟨some 50, none, .bin .mul (.k (.int .i64 (7))) (.t 49)⟩,
    ⟨some 51, none, .bin .shl (.t 48) (.t 50)⟩,
    ⟨some 52, none, .bin .or (.t 45) (.t 51)⟩,
    ⟨some 3, none, .mov (.t 52)⟩] none [0, 3, 4, 5]
def r_erasureref26Reader_Int_10 : ACode := .reg [
    ⟨some 53, none, .mov (.t 5)⟩,
    ⟨some 54, none, .bin .lss (.t 53) (.k (.int .u8 (128)))⟩] none [0, 3, 4, 54]
def r_erasureref26Reader_Int_11 : ACode := .reg [
    ⟨some 55, none, .mov (.t 0)⟩,
    ⟨some 56, none, .mov (.t 0)⟩,
    ⟨some 57, none, .nilck (.t 56)⟩,
    ⟨some 58, none, .fld 0 (.t 57)⟩,
    ⟨some 59, none, .load none (.t 58)⟩,
    ⟨some 60, none, .mov (.t 4)⟩,
    ⟨some 61, none, .bin .add (.t 60) (.k (.int .i64 (1)))⟩,
    ⟨some 62, none, .sl 1 (.t 59) (some (.t 61)) none none⟩,
    ⟨some 63, none, .nilck (.t 55)⟩,
    ⟨some 64, none, .fld 0 (.t 63)⟩,
    ⟨none, none, .store 1 (.t 64) (.t 62)⟩] none [0, 3]
def r_erasureref26Reader_Int_12 : ACode := .reg [
    ⟨some 11, none, .mov (.t 4)⟩,
    ⟨some 12, none, .bin .add (.t 11) (.k (.int .i64 (1)))⟩,
    ⟨some 4, none, .mov (.t 12)⟩] none [0, 3, 4]
def r_erasureref26Reader_Int_13 : ACode := .reg [
    ⟨some 65, none, .mov (.t 0)⟩,
    ⟨some 66, none, .nilck (.t 65)⟩,
    ⟨some 67, none, .fld 1 (.t 66)⟩,
    ⟨some 68, none, .load none (.t 67)⟩,
    ⟨some 69, none, .bin .neq (.t 68) (.k (.int .i64 (0)))⟩] none [3, 69]
def r_erasureref26Reader_Int_14 : ACode := .reg [
    ⟨some 2, none, .mov (.k (.int .i64 (0)))⟩] none [2]
def r_erasureref26Reader_Int_15 : ACode := .reg [
    ⟨some 70, none, .mov (.t 3)⟩,
    ⟨some 71, none, .bin .rem (.t 70) (.k (.int .u64 (2)))⟩,
    ⟨some 72, none, .bin .eql (.t 71) (.k (.int .u64 (1)))⟩] none [3, 72]
def r_erasureref26Reader_Int_16 : ACode := .reg [
    ⟨some 73, none, .mov (.t 3)⟩,
    ⟨some 74, none, .bin .shr (.t 73) (.k (.int .u64 (1)))⟩,
    ⟨some 75, none, .un .xor (.t 74)⟩,
    ⟨some 76, none, .conv .i64 (.t 75)⟩,
    ⟨some 2, none, .mov (.t 76)⟩] none [2]
def r_erasureref26Reader_Int_17 : ACode := .reg [
    ⟨some 77, none, .mov (.t 3)⟩,
    ⟨some 78, none, .bin .shr (.t 77) (.k (.int .u64 (1)))⟩,
    ⟨some 79, none, .conv .i64 (.t 78)⟩,
    ⟨some 2, none, .mov (.t 79)⟩] none [2]
def c_erasureref26Reader_Int : ACode :=
  (.seq r_erasureref26Reader_Int_0
  (.seq r_erasureref26Reader_Int_1
   (.seq (.seq r_erasureref26Reader_Int_2
     (.block 0 (.loop (.seq (.seq r_erasureref26Reader_Int_3
         (.cond (.t 10)
          .skip
          (.exit 0)))
        (.seq (.block 1 (.seq (.seq r_erasureref26Reader_Int_4
            (.cond (.t 19)
             (.seq r_erasureref26Reader_Int_5
              (.exit 0))
             .skip))
           (.seq r_erasureref26Reader_Int_6
            (.seq (.seq r_erasureref26Reader_Int_7
              (.cond (.t 42)
               (.seq r_erasureref26Reader_Int_8
                (.exit 0))
               .skip))
             (.seq r_erasureref26Reader_Int_9
              (.seq r_erasureref26Reader_Int_10
               (.cond (.t 54)
                (.seq r_erasureref26Reader_Int_11
                 (.exit 0))
                .skip)))))))
         r_erasureref26Reader_Int_12)))))
    (.seq (.seq r_erasureref26Reader_Int_13
      (.cond (.t 69)
       (.seq r_erasureref26Reader_Int_14
        .ret)
       .skip))
     (.seq (.seq r_erasureref26Reader_Int_15
       (.cond (.t 72)
        (.seq r_erasureref26Reader_Int_16
         .ret)
        .skip))
      (.seq r_erasureref26Reader_Int_17
       .ret))))))
theorem fits_erasureref26Reader_Int : Fits Try.prog 23 80 c_erasureref26Reader_Int [.t 2] := ⟨⟨Try.f23, _, _, Try.func23, rfl, rfl, rfl, by decide, by kernel_rfl, by kernel_rfl⟩, Try.checked.mixed⟩
def r_erasureref26SameVersions_0 : ACode := .reg [
    ⟨some 4, none, .mov (.k (.bool false))⟩] none [0, 1]
def r_erasureref26SameVersions_1 : ACode := .reg [
    ⟨some 5, none, .mov (.t 0)⟩,
    ⟨some 6, none, .mov (.t 1)⟩,
    ⟨some 7, none, .call 100 [(.t 5), (.t 6)]⟩,
    ⟨some 4, none, .mov (.t 7)⟩] none [4]
def c_erasureref26SameVersions : ACode :=
  (.seq r_erasureref26SameVersions_0
  (.seq r_erasureref26SameVersions_1
   .ret))
theorem fits_erasureref26SameVersions : Fits Try.prog 35 8 c_erasureref26SameVersions [.t 4] := ⟨⟨Try.f35, _, _, Try.func35, rfl, rfl, rfl, by decide, by kernel_rfl, by kernel_rfl⟩, Try.checked.mixed⟩
def r_erasureref26SameSources_0 : ACode := .reg [
    ⟨some 4, none, .mov (.k (.bool false))⟩] none [0, 1]
def r_erasureref26SameSources_1 : ACode := .reg [
    ⟨some 5, none, .mov (.t 0)⟩,
    ⟨some 6, none, .mov (.t 1)⟩,
    ⟨some 7, none, .call 101 [(.t 5), (.t 6)]⟩,
    ⟨some 4, none, .mov (.t 7)⟩] none [4]
def c_erasureref26SameSources : ACode :=
  (.seq r_erasureref26SameSources_0
  (.seq r_erasureref26SameSources_1
   .ret))
theorem fits_erasureref26SameSources : Fits Try.prog 36 8 c_erasureref26SameSources [.t 4] := ⟨⟨Try.f36, _, _, Try.func36, rfl, rfl, rfl, by decide, by kernel_rfl, by kernel_rfl⟩, Try.checked.mixed⟩
def r_erasureref26SameRow_0 : ACode := .reg [
    ⟨some 4, none, .mov (.k (.bool false))⟩] none [0, 1]
def r_erasureref26SameRow_1 : ACode := .reg [
    ⟨some 5, none, .mov (.t 0)⟩,
    ⟨some 6, none, .mov (.t 1)⟩,
    ⟨some 7, none, .call 107 [(.t 5), (.t 6)]⟩,
    ⟨some 4, none, .mov (.t 7)⟩] none [4]
def c_erasureref26SameRow : ACode :=
  (.seq r_erasureref26SameRow_0
  (.seq r_erasureref26SameRow_1
   .ret))
theorem fits_erasureref26SameRow : Fits Try.prog 45 8 c_erasureref26SameRow [.t 4] := ⟨⟨Try.f45, _, _, Try.func45, rfl, rfl, rfl, by decide, by kernel_rfl, by kernel_rfl⟩, Try.checked.mixed⟩
def r_erasureref26SameBag_0 : ACode := .reg [
    ⟨some 4, none, .mov (.k (.bool false))⟩] none [0, 1]
def r_erasureref26SameBag_1 : ACode := .reg [
    ⟨some 5, none, .mov (.t 0)⟩,
    ⟨some 6, none, .mov (.t 1)⟩,
    ⟨some 7, none, .call 109 [(.t 5), (.t 6)]⟩,
    ⟨some 4, none, .mov (.t 7)⟩] none [4]
def c_erasureref26SameBag : ACode :=
  (.seq r_erasureref26SameBag_0
  (.seq r_erasureref26SameBag_1
   .ret))
theorem fits_erasureref26SameBag : Fits Try.prog 50 8 c_erasureref26SameBag [.t 4] := ⟨⟨Try.f50, _, _, Try.func50, rfl, rfl, rfl, by decide, by kernel_rfl, by kernel_rfl⟩, Try.checked.mixed⟩
def r_erasureref26SameChange_0 : ACode := .reg [
    ⟨some 2, none, .box 86 (.t 0)⟩,
    ⟨some 3, none, .box 86 (.t 1)⟩,
    ⟨some 4, none, .mov (.k (.bool false))⟩] none [2, 3]
def r_erasureref26SameChange_1 : ACode := .reg [
    ⟨some 5, none, .fld 0 (.t 2)⟩,
    ⟨some 6, none, .load none (.t 5)⟩,
    ⟨some 7, none, .fld 0 (.t 3)⟩,
    ⟨some 8, none, .load none (.t 7)⟩,
    ⟨some 9, none, .bin .eql (.t 6) (.t 8)⟩,
    ⟨some 10, none, .mov (.t 9)⟩,
    ⟨some 11, (some (10, true)), .fld 1 (.t 2)⟩,
    ⟨some 12, (some (10, true)), .load none (.t 11)⟩,
    ⟨some 13, (some (10, true)), .fld 1 (.t 3)⟩,
    ⟨some 14, (some (10, true)), .load none (.t 13)⟩,
    ⟨some 15, (some (10, true)), .bin .eql (.t 12) (.t 14)⟩,
    ⟨some 16, none, .pick (.t 10) (.t 15) (.k (.bool false))⟩,
    ⟨some 17, none, .mov (.t 16)⟩,
    ⟨some 18, (some (17, true)), .fld 2 (.t 2)⟩,
    ⟨some 19, (some (17, true)), .load none (.t 18)⟩,
    ⟨some 20, (some (17, true)), .fld 2 (.t 3)⟩,
    ⟨some 21, (some (17, true)), .load none (.t 20)⟩,
    ⟨some 22, (some (17, true)), .bin .eql (.t 19) (.t 21)⟩,
    ⟨some 23, none, .pick (.t 17) (.t 22) (.k (.bool false))⟩,
    ⟨some 24, none, .mov (.t 23)⟩,
    ⟨some 25, (some (24, true)), .fld 3 (.t 2)⟩,
    ⟨some 26, (some (24, true)), .load none (.t 25)⟩,
    ⟨some 27, (some (24, true)), .fld 3 (.t 3)⟩,
    ⟨some 28, (some (24, true)), .load none (.t 27)⟩,
    ⟨some 29, (some (24, true)), .bin .eql (.t 26) (.t 28)⟩,
    ⟨some 30, none, .pick (.t 24) (.t 29) (.k (.bool false))⟩,
    ⟨some 31, none, .mov (.t 30)⟩,
    ⟨some 32, (some (31, true)), .fld 4 (.t 2)⟩,
    ⟨some 33, (some (31, true)), .load none (.t 32)⟩,
    ⟨some 34, (some (31, true)), .fld 4 (.t 3)⟩,
    ⟨some 35, (some (31, true)), .load none (.t 34)⟩,
    ⟨some 36, (some (31, true)), .call 45 [(.t 33), (.t 35)]⟩,
    ⟨some 37, none, .pick (.t 31) (.t 36) (.k (.bool false))⟩,
    ⟨some 38, none, .mov (.t 37)⟩,
    ⟨some 39, (some (38, true)), .fld 5 (.t 2)⟩,
    ⟨some 40, (some (38, true)), .load (some 3) (.t 39)⟩,
    ⟨some 41, (some (38, true)), .fld 5 (.t 3)⟩,
    ⟨some 42, (some (38, true)), .load (some 3) (.t 41)⟩,
    ⟨some 43, (some (38, true)), .eqa false [(2, .ti .i64), (1, .ts)] (.t 40) (.t 42)⟩,
    ⟨some 44, none, .pick (.t 38) (.t 43) (.k (.bool false))⟩,
    ⟨some 45, none, .mov (.t 44)⟩,
    ⟨some 46, (some (45, true)), .fld 8 (.t 2)⟩,
    ⟨some 47, (some (45, true)), .load none (.t 46)⟩,
    ⟨some 48, (some (45, true)), .fld 8 (.t 3)⟩,
    ⟨some 49, (some (45, true)), .load none (.t 48)⟩,
    ⟨some 50, (some (45, true)), .bin .eql (.t 47) (.t 49)⟩,
    ⟨some 51, none, .pick (.t 45) (.t 50) (.k (.bool false))⟩,
    ⟨some 52, none, .mov (.t 51)⟩,
    ⟨some 53, (some (52, true)), .fld 9 (.t 2)⟩,
    ⟨some 54, (some (52, true)), .load (some 3) (.t 53)⟩,
    ⟨some 55, (some (52, true)), .fld 9 (.t 3)⟩,
    ⟨some 56, (some (52, true)), .load (some 3) (.t 55)⟩,
    ⟨some 57, (some (52, true)), .eqa false [(2, .ti .i64), (1, .ts)] (.t 54) (.t 56)⟩,
    ⟨some 58, none, .pick (.t 52) (.t 57) (.k (.bool false))⟩,
    ⟨some 4, none, .mov (.t 58)⟩] none [4]
def c_erasureref26SameChange : ACode :=
  (.seq r_erasureref26SameChange_0
  (.seq r_erasureref26SameChange_1
   .ret))
theorem fits_erasureref26SameChange : Fits Try.prog 54 59 c_erasureref26SameChange [.t 4] := ⟨⟨Try.f54, _, _, Try.func54, rfl, rfl, rfl, by decide, by kernel_rfl, by kernel_rfl⟩, Try.checked.mixed⟩
def r_erasureref26SameRecord_0 : ACode := .reg [
    ⟨some 2, none, .box 95 (.t 0)⟩,
    ⟨some 3, none, .box 95 (.t 1)⟩,
    ⟨some 4, none, .mov (.k (.bool false))⟩] none [2, 3]
def r_erasureref26SameRecord_1 : ACode := .reg [
    ⟨some 5, none, .load (some 3) (.t 2)⟩,
    ⟨some 6, none, .load (some 3) (.t 3)⟩,
    ⟨some 7, none, .call 112 [(.t 5), (.t 6)]⟩,
    ⟨some 4, none, .mov (.t 7)⟩] none [4]
def c_erasureref26SameRecord : ACode :=
  (.seq r_erasureref26SameRecord_0
  (.seq r_erasureref26SameRecord_1
   .ret))
theorem fits_erasureref26SameRecord : Fits Try.prog 58 8 c_erasureref26SameRecord [.t 4] := ⟨⟨Try.f58, _, _, Try.func58, rfl, rfl, rfl, by decide, by kernel_rfl, by kernel_rfl⟩, Try.checked.mixed⟩
def r_erasureref26SameEntry_0 : ACode := .reg [
    ⟨some 2, none, .box 111 (.t 0)⟩,
    ⟨some 3, none, .box 111 (.t 1)⟩,
    ⟨some 4, none, .mov (.k (.bool false))⟩] none [2, 3]
def r_erasureref26SameEntry_1 : ACode := .reg [
    ⟨some 5, none, .fld 0 (.t 2)⟩,
    ⟨some 6, none, .load none (.t 5)⟩,
    ⟨some 7, none, .fld 0 (.t 3)⟩,
    ⟨some 8, none, .load none (.t 7)⟩,
    ⟨some 9, none, .bin .eql (.t 6) (.t 8)⟩,
    ⟨some 10, none, .mov (.t 9)⟩,
    ⟨some 11, (some (10, true)), .fld 1 (.t 2)⟩,
    ⟨some 12, (some (10, true)), .load none (.t 11)⟩,
    ⟨some 13, (some (10, true)), .fld 1 (.t 3)⟩,
    ⟨some 14, (some (10, true)), .load none (.t 13)⟩,
    ⟨some 15, (some (10, true)), .bin .eql (.t 12) (.t 14)⟩,
    ⟨some 16, none, .pick (.t 10) (.t 15) (.k (.bool false))⟩,
    ⟨some 17, none, .mov (.t 16)⟩,
    ⟨some 18, (some (17, true)), .fld 2 (.t 2)⟩,
    ⟨some 19, (some (17, true)), .load none (.t 18)⟩,
    ⟨some 20, (some (17, true)), .fld 2 (.t 3)⟩,
    ⟨some 21, (some (17, true)), .load none (.t 20)⟩,
    ⟨some 22, (some (17, true)), .bin .eql (.t 19) (.t 21)⟩,
    ⟨some 23, none, .pick (.t 17) (.t 22) (.k (.bool false))⟩,
    ⟨some 24, none, .mov (.t 23)⟩,
    ⟨some 25, (some (24, true)), .fld 3 (.t 2)⟩,
    ⟨some 26, (some (24, true)), .load none (.t 25)⟩,
    ⟨some 27, (some (24, true)), .fld 3 (.t 3)⟩,
    ⟨some 28, (some (24, true)), .load none (.t 27)⟩,
    ⟨some 29, (some (24, true)), .bin .eql (.t 26) (.t 28)⟩,
    ⟨some 30, none, .pick (.t 24) (.t 29) (.k (.bool false))⟩,
    ⟨some 31, none, .mov (.t 30)⟩,
    ⟨some 32, (some (31, true)), .fld 4 (.t 2)⟩,
    ⟨some 33, (some (31, true)), .load (some 8) (.t 32)⟩,
    ⟨some 34, (some (31, true)), .fld 4 (.t 3)⟩,
    ⟨some 35, (some (31, true)), .load (some 8) (.t 34)⟩,
    ⟨some 36, (some (31, true)), .eqa false [(1, .ti .i64), (1, .ts), (2, .ti .i64), (1, .ts), (3, .ti .i64)] (.t 33) (.t 35)⟩,
    ⟨some 37, none, .pick (.t 31) (.t 36) (.k (.bool false))⟩,
    ⟨some 38, none, .mov (.t 37)⟩,
    ⟨some 39, (some (38, true)), .fld 12 (.t 2)⟩,
    ⟨some 40, (some (38, true)), .load (some 10) (.t 39)⟩,
    ⟨some 41, (some (38, true)), .fld 12 (.t 3)⟩,
    ⟨some 42, (some (38, true)), .load (some 10) (.t 41)⟩,
    ⟨some 43, (some (38, true)), .eqa false [(1, .ts), (2, .ti .i64), (2, .ts), (2, .ti .i64), (1, .ts), (1, .ti .i64), (1, .tb)] (.t 40) (.t 42)⟩,
    ⟨some 44, none, .pick (.t 38) (.t 43) (.k (.bool false))⟩,
    ⟨some 45, none, .mov (.t 44)⟩,
    ⟨some 46, (some (45, true)), .fld 22 (.t 2)⟩,
    ⟨some 47, (some (45, true)), .load (some 9) (.t 46)⟩,
    ⟨some 48, (some (45, true)), .fld 22 (.t 3)⟩,
    ⟨some 49, (some (45, true)), .load (some 9) (.t 48)⟩,
    ⟨some 50, (some (45, true)), .eqa false [(2, .ti .i64), (1, .ts), (2, .ti .i64), (1, .ts), (3, .ti .i64)] (.t 47) (.t 49)⟩,
    ⟨some 51, none, .pick (.t 45) (.t 50) (.k (.bool false))⟩,
    ⟨some 52, none, .mov (.t 51)⟩,
    ⟨some 53, (some (52, true)), .fld 31 (.t 2)⟩,
    ⟨some 54, (some (52, true)), .load none (.t 53)⟩,
    ⟨some 55, (some (52, true)), .fld 31 (.t 3)⟩,
    ⟨some 56, (some (52, true)), .load none (.t 55)⟩,
    ⟨some 57, (some (52, true)), .call 35 [(.t 54), (.t 56)]⟩,
    ⟨some 58, none, .pick (.t 52) (.t 57) (.k (.bool false))⟩,
    ⟨some 59, none, .mov (.t 58)⟩,
    ⟨some 60, (some (59, true)), .fld 32 (.t 2)⟩,
    ⟨some 61, (some (59, true)), .load none (.t 60)⟩,
    ⟨some 62, (some (59, true)), .fld 32 (.t 3)⟩,
    ⟨some 63, (some (59, true)), .load none (.t 62)⟩,
    ⟨some 64, (some (59, true)), .call 36 [(.t 61), (.t 63)]⟩,
    ⟨some 65, none, .pick (.t 59) (.t 64) (.k (.bool false))⟩,
    ⟨some 66, none, .mov (.t 65)⟩,
    ⟨some 67, (some (66, true)), .fld 33 (.t 2)⟩,
    ⟨some 68, (some (66, true)), .load (some 32) (.t 67)⟩,
    ⟨some 69, (some (66, true)), .fld 33 (.t 3)⟩,
    ⟨some 70, (some (66, true)), .load (some 32) (.t 69)⟩,
    ⟨some 71, (some (66, true)), .eqa false [(32, .ti .u8)] (.t 68) (.t 70)⟩,
    ⟨some 72, none, .pick (.t 66) (.t 71) (.k (.bool false))⟩,
    ⟨some 4, none, .mov (.t 72)⟩] none [4]
def c_erasureref26SameEntry : ACode :=
  (.seq r_erasureref26SameEntry_0
  (.seq r_erasureref26SameEntry_1
   .ret))
theorem fits_erasureref26SameEntry : Fits Try.prog 62 73 c_erasureref26SameEntry [.t 4] := ⟨⟨Try.f62, _, _, Try.func62, rfl, rfl, rfl, by decide, by kernel_rfl, by kernel_rfl⟩, Try.checked.mixed⟩
def r_erasureref26Reader_Value_0 : ACode := .reg [
    ⟨some 2, none, .alloc 67 [.int .i64 0, .int .i64 0, .string ⟨#[]⟩]⟩] none [0, 2]
def r_erasureref26Reader_Value_1 : ACode := .reg [
    ⟨some 5, none, .mov (.t 0)⟩,
    ⟨some 6, none, .call 124 [(.t 5), (.k (.int .i64 (2)))]⟩,
    ⟨some 3, none, .mov (.t 6)⟩] none [0, 2, 3]
def r_erasureref26Reader_Value_2 : ACode := .reg [
    ⟨some 7, none, .mov (.t 3)⟩,
    ⟨some 8, none, .build [.int .i64 0, .int .i64 0, .string ⟨#[]⟩] [(0, 1, (.t 7))]⟩,
    ⟨some 4, none, .alloc 67 [.int .i64 0, .int .i64 0, .string ⟨#[]⟩]⟩,
    ⟨none, none, .store 3 (.t 4) (.t 8)⟩] none [0, 2, 3, 4]
def r_erasureref26Reader_Value_3 : ACode := .reg [
    ⟨some 9, none, .mov (.t 3)⟩,
    ⟨some 10, none, .bin .eql (.t 9) (.k (.int .i64 (1)))⟩] none [0, 2, 3, 4, 10]
def r_erasureref26Reader_Value_4 : ACode := .reg [
    ⟨some 11, none, .mov (.t 0)⟩,
    ⟨some 12, none, .call 23 [(.t 11)]⟩,
    ⟨some 13, none, .fld 1 (.t 4)⟩,
    ⟨none, none, .store 1 (.t 13) (.t 12)⟩] none [0, 2, 3, 4]
def r_erasureref26Reader_Value_5 : ACode := .reg [
    ⟨some 14, none, .fld 1 (.t 4)⟩,
    ⟨some 15, none, .load none (.t 14)⟩,
    ⟨some 16, none, .bin .lss (.t 15) (.k (.int .i64 (-4294967296)))⟩,
    ⟨some 17, none, .mov (.t 16)⟩,
    ⟨some 18, (some (17, false)), .fld 1 (.t 4)⟩,
    ⟨some 19, (some (17, false)), .load none (.t 18)⟩,
    ⟨some 20, (some (17, false)), .bin .gtr (.t 19) (.k (.int .i64 (4294967296)))⟩,
    ⟨some 21, none, .pick (.t 17) (.k (.bool true)) (.t 20)⟩] none [0, 2, 3, 4, 21]
def r_erasureref26Reader_Value_6 : ACode := .reg [
    ⟨some 22, none, .mov (.t 0)⟩,
    ⟨some 23, none, .call 91 [(.t 22), (.k (.int .i64 (1)))]⟩] none [0, 2, 3, 4]
def r_erasureref26Reader_Value_7 : ACode := .reg [
    ⟨some 24, none, .mov (.t 3)⟩,
    ⟨some 25, none, .bin .eql (.t 24) (.k (.int .i64 (2)))⟩] none [0, 2, 4, 25]
def r_erasureref26Reader_Value_8 : ACode := .reg [
    ⟨some 26, none, .mov (.t 0)⟩,
    ⟨some 27, none, .call 125 [(.t 26), (.k (.int .i64 (32)))]⟩,
    ⟨some 28, none, .fld 2 (.t 4)⟩,
    ⟨none, none, .store 1 (.t 28) (.t 27)⟩] none [2, 4]
def r_erasureref26Reader_Value_9 : ACode := .reg [
    ⟨some 29, none, .load (some 3) (.t 4)⟩,
    ⟨none, none, .store 3 (.t 2) (.t 29)⟩] none [2]
def c_erasureref26Reader_Value : ACode :=
  (.seq r_erasureref26Reader_Value_0
  (.seq r_erasureref26Reader_Value_1
   (.seq r_erasureref26Reader_Value_2
    (.seq (.seq r_erasureref26Reader_Value_3
      (.cond (.t 10)
       (.seq r_erasureref26Reader_Value_4
        (.seq r_erasureref26Reader_Value_5
         (.cond (.t 21)
          r_erasureref26Reader_Value_6
          .skip)))
       .skip))
     (.seq (.seq r_erasureref26Reader_Value_7
       (.cond (.t 25)
        r_erasureref26Reader_Value_8
        .skip))
      (.seq r_erasureref26Reader_Value_9
       .ret))))))
theorem fits_erasureref26Reader_Value : Fits Try.prog 78 30 c_erasureref26Reader_Value [.c 2 (some 3)] := ⟨⟨Try.f78, _, _, Try.func78, rfl, rfl, rfl, by decide, by kernel_rfl, by kernel_rfl⟩, Try.checked.mixed⟩
def r_erasureref26Reader_Row_0 : ACode := .reg [
    ⟨some 2, none, .mov (.k (.slice none 0 0))⟩] none [0]
def r_erasureref26Reader_Row_1 : ACode := .reg [
    ⟨some 3, none, .mov (.k (.slice none 0 0))⟩] none [0, 3]
def r_erasureref26Reader_Row_2 : ACode := .reg [
    ⟨some 6, none, .mov (.t 0)⟩,
    ⟨some 7, none, .call 124 [(.t 6), (.k (.int .i64 (16)))]⟩,
    ⟨some 4, none, .mov (.t 7)⟩] none [0, 3, 4]
def r_erasureref26Reader_Row_3 : ACode := .reg [
    ⟨some 5, none, .mov (.k (.int .i64 (0)))⟩] none [0, 3, 4, 5]
def r_erasureref26Reader_Row_4 : ACode := .reg [
    ⟨some 8, none, .mov (.t 5)⟩,
    ⟨some 9, none, .mov (.t 4)⟩,
    ⟨some 10, none, .bin .lss (.t 8) (.t 9)⟩,
    ⟨some 11, none, .mov (.t 10)⟩,
    ⟨some 12, (some (11, true)), .mov (.t 0)⟩,
    ⟨some 13, (some (11, true)), .nilck (.t 12)⟩,
    ⟨some 14, (some (11, true)), .fld 1 (.t 13)⟩,
    ⟨some 15, (some (11, true)), .load none (.t 14)⟩,
    ⟨some 16, (some (11, true)), .bin .eql (.t 15) (.k (.int .i64 (0)))⟩,
    ⟨some 17, none, .pick (.t 11) (.t 16) (.k (.bool false))⟩] none [0, 3, 4, 5, 17]
def r_erasureref26Reader_Row_5 : ACode := .reg [
    ⟨some 20, none, .mov (.t 3)⟩,
    ⟨some 21, none, .mov (.t 0)⟩,
    ⟨some 22, none, .call 78 [(.t 21)]⟩,
    ⟨some 23, none, .lit 67 3 1 [.int .i64 0, .int .i64 0, .string ⟨#[]⟩] [(0, (.t 22))] false⟩,
    ⟨some 24, none, .app 67 3 32 (.t 20) (.t 23)⟩,
    ⟨some 3, none, .mov (.t 24)⟩] none [0, 3, 4, 5]
def r_erasureref26Reader_Row_6 : ACode := .reg [
    ⟨some 18, none, .mov (.t 5)⟩,
    ⟨some 19, none, .bin .add (.t 18) (.k (.int .i64 (1)))⟩,
    ⟨some 5, none, .mov (.t 19)⟩] none [0, 3, 4, 5]
def r_erasureref26Reader_Row_7 : ACode := .reg [
    ⟨some 25, none, .mov (.t 3)⟩,
    ⟨some 2, none, .mov (.t 25)⟩] none [2]
def c_erasureref26Reader_Row : ACode :=
  (.seq r_erasureref26Reader_Row_0
  (.seq r_erasureref26Reader_Row_1
   (.seq r_erasureref26Reader_Row_2
    (.seq (.seq r_erasureref26Reader_Row_3
      (.block 0 (.loop (.seq (.seq r_erasureref26Reader_Row_4
          (.cond (.t 17)
           .skip
           (.exit 0)))
         (.seq (.block 1 r_erasureref26Reader_Row_5)
          r_erasureref26Reader_Row_6)))))
     (.seq r_erasureref26Reader_Row_7
      .ret)))))
theorem fits_erasureref26Reader_Row : Fits Try.prog 79 26 c_erasureref26Reader_Row [.t 2] := ⟨⟨Try.f79, _, _, Try.func79, rfl, rfl, rfl, by decide, by kernel_rfl, by kernel_rfl⟩, Try.checked.mixed⟩
def r_erasureref26Reader_Record_0 : ACode := .reg [
    ⟨some 2, none, .alloc 95 [.slice none 0 0, .slice none 0 0, .int .i64 0]⟩] none [0, 2]
def r_erasureref26Reader_Record_1 : ACode := .reg [
    ⟨some 5, none, .mov (.t 0)⟩,
    ⟨some 6, none, .call 79 [(.t 5)]⟩,
    ⟨some 7, none, .build [.slice none 0 0, .slice none 0 0, .int .i64 0] [(0, 1, (.t 6))]⟩,
    ⟨some 3, none, .alloc 95 [.slice none 0 0, .slice none 0 0, .int .i64 0]⟩,
    ⟨none, none, .store 3 (.t 3) (.t 7)⟩] none [0, 2, 3]
def r_erasureref26Reader_Record_2 : ACode := .reg [
    ⟨some 4, none, .mov (.k (.int .i64 (0)))⟩] none [0, 2, 3, 4]
def r_erasureref26Reader_Record_3 : ACode := .reg [
    ⟨some 8, none, .mov (.t 4)⟩,
    ⟨some 9, none, .fld 0 (.t 3)⟩,
    ⟨some 10, none, .load none (.t 9)⟩,
    ⟨some 11, none, .len (.t 10)⟩,
    ⟨some 12, none, .bin .lss (.t 8) (.t 11)⟩,
    ⟨some 13, none, .mov (.t 12)⟩,
    ⟨some 14, (some (13, true)), .mov (.t 0)⟩,
    ⟨some 15, (some (13, true)), .nilck (.t 14)⟩,
    ⟨some 16, (some (13, true)), .fld 1 (.t 15)⟩,
    ⟨some 17, (some (13, true)), .load none (.t 16)⟩,
    ⟨some 18, (some (13, true)), .bin .eql (.t 17) (.k (.int .i64 (0)))⟩,
    ⟨some 19, none, .pick (.t 13) (.t 18) (.k (.bool false))⟩] none [0, 2, 3, 4, 19]
def r_erasureref26Reader_Record_4 : ACode := .reg [
    ⟨some 22, none, .fld 1 (.t 3)⟩,
    ⟨some 23, none, .load none (.t 22)⟩,
    ⟨some 24, none, .mov (.t 0)⟩,
    ⟨some 25, none, .call 23 [(.t 24)]⟩,
    ⟨some 26, none, .lit 3 1 1 [.int .i64 0] [(0, (.t 25))] false⟩,
    ⟨some 27, none, .app 3 1 8 (.t 23) (.t 26)⟩,
    ⟨some 28, none, .fld 1 (.t 3)⟩,
    ⟨none, none, .store 1 (.t 28) (.t 27)⟩] (some [0, 1, 0, 4, 12, 31, 63, 127]) [0, 2, 3, 4]
def r_erasureref26Reader_Record_5 : ACode := .reg [
    ⟨some 20, none, .mov (.t 4)⟩,
    ⟨some 21, none, .bin .add (.t 20) (.k (.int .i64 (1)))⟩,
    ⟨some 4, none, .mov (.t 21)⟩] none [0, 2, 3, 4]
def r_erasureref26Reader_Record_6 : ACode := .reg [
    ⟨some 29, none, .mov (.t 0)⟩,
    ⟨some 30, none, .call 23 [(.t 29)]⟩,
    ⟨some 31, none, .fld 2 (.t 3)⟩,
    ⟨none, none, .store 1 (.t 31) (.t 30)⟩] none [2, 3]
def r_erasureref26Reader_Record_7 : ACode := .reg [
    ⟨some 32, none, .load (some 3) (.t 3)⟩,
    ⟨none, none, .store 3 (.t 2) (.t 32)⟩] none [2]
def c_erasureref26Reader_Record : ACode :=
  (.seq r_erasureref26Reader_Record_0
  (.seq r_erasureref26Reader_Record_1
   (.seq (.seq r_erasureref26Reader_Record_2
     (.block 0 (.loop (.seq (.seq r_erasureref26Reader_Record_3
         (.cond (.t 19)
          .skip
          (.exit 0)))
        (.seq (.block 1 r_erasureref26Reader_Record_4)
         r_erasureref26Reader_Record_5)))))
    (.seq r_erasureref26Reader_Record_6
     (.seq r_erasureref26Reader_Record_7
      .ret)))))
theorem fits_erasureref26Reader_Record : Fits Try.prog 80 33 c_erasureref26Reader_Record [.c 2 (some 3)] := ⟨⟨Try.f80, _, _, Try.func80, rfl, rfl, rfl, by decide, by kernel_rfl, by kernel_rfl⟩, Try.checked.mixed⟩
def r_erasureref26Reader_Bag_0 : ACode := .reg [
    ⟨some 2, none, .mov (.k (.slice none 0 0))⟩] none [0]
def r_erasureref26Reader_Bag_1 : ACode := .reg [
    ⟨some 3, none, .mov (.k (.slice none 0 0))⟩] none [0, 3]
def r_erasureref26Reader_Bag_2 : ACode := .reg [
    ⟨some 7, none, .mov (.t 0)⟩,
    ⟨some 8, none, .call 124 [(.t 7), (.k (.int .i64 (4096)))]⟩,
    ⟨some 4, none, .mov (.t 8)⟩] none [0, 3, 4]
def r_erasureref26Reader_Bag_3 : ACode := .reg [
    ⟨some 5, none, .mov (.k (.int .i64 (0)))⟩] none [0, 3, 4, 5]
def r_erasureref26Reader_Bag_4 : ACode := .reg [
    ⟨some 9, none, .mov (.t 5)⟩,
    ⟨some 10, none, .mov (.t 4)⟩,
    ⟨some 11, none, .bin .lss (.t 9) (.t 10)⟩,
    ⟨some 12, none, .mov (.t 11)⟩,
    ⟨some 13, (some (12, true)), .mov (.t 0)⟩,
    ⟨some 14, (some (12, true)), .nilck (.t 13)⟩,
    ⟨some 15, (some (12, true)), .fld 1 (.t 14)⟩,
    ⟨some 16, (some (12, true)), .load none (.t 15)⟩,
    ⟨some 17, (some (12, true)), .bin .eql (.t 16) (.k (.int .i64 (0)))⟩,
    ⟨some 18, none, .pick (.t 12) (.t 17) (.k (.bool false))⟩] none [0, 3, 4, 5, 18]
def r_erasureref26Reader_Bag_5 : ACode := .reg [
    ⟨some 21, none, .mov (.t 0)⟩,
    ⟨some 22, none, .call 79 [(.t 21)]⟩,
    ⟨some 6, none, .mov (.t 22)⟩] none [0, 3, 4, 5, 6]
def r_erasureref26Reader_Bag_6 : ACode := .reg [
    ⟨some 23, none, .mov (.t 3)⟩,
    ⟨some 24, none, .mov (.t 6)⟩,
    ⟨some 25, none, .mov (.t 0)⟩,
    ⟨some 26, none, .call 23 [(.t 25)]⟩,
    ⟨some 27, none, .build [.slice none 0 0, .int .i64 0] [(0, 1, (.t 24)), (1, 1, (.t 26))]⟩,
    ⟨some 28, none, .lit 78 2 1 [.slice none 0 0, .int .i64 0] [(0, (.t 27))] false⟩,
    ⟨some 29, none, .app 78 2 32 (.t 23) (.t 28)⟩,
    ⟨some 3, none, .mov (.t 29)⟩] none [0, 3, 4, 5]
def r_erasureref26Reader_Bag_7 : ACode := .reg [
    ⟨some 19, none, .mov (.t 5)⟩,
    ⟨some 20, none, .bin .add (.t 19) (.k (.int .i64 (1)))⟩,
    ⟨some 5, none, .mov (.t 20)⟩] none [0, 3, 4, 5]
def r_erasureref26Reader_Bag_8 : ACode := .reg [
    ⟨some 30, none, .mov (.t 3)⟩,
    ⟨some 2, none, .mov (.t 30)⟩] none [2]
def c_erasureref26Reader_Bag : ACode :=
  (.seq r_erasureref26Reader_Bag_0
  (.seq r_erasureref26Reader_Bag_1
   (.seq r_erasureref26Reader_Bag_2
    (.seq (.seq r_erasureref26Reader_Bag_3
      (.block 0 (.loop (.seq (.seq r_erasureref26Reader_Bag_4
          (.cond (.t 18)
           .skip
           (.exit 0)))
         (.seq (.block 1 (.seq r_erasureref26Reader_Bag_5
            r_erasureref26Reader_Bag_6))
          r_erasureref26Reader_Bag_7)))))
     (.seq r_erasureref26Reader_Bag_8
      .ret)))))
theorem fits_erasureref26Reader_Bag : Fits Try.prog 81 31 c_erasureref26Reader_Bag [.t 2] := ⟨⟨Try.f81, _, _, Try.func81, rfl, rfl, rfl, by decide, by kernel_rfl, by kernel_rfl⟩, Try.checked.mixed⟩
def r_erasureref26Reader_Change_0 : ACode := .reg [
    ⟨some 2, none, .alloc 86 [.int .i64 0, .int .i64 0, .int .i64 0, .int .i64 0, .slice none 0 0, .int .i64 0, .int .i64 0, .string ⟨#[]⟩, .int .i64 0, .int .i64 0, .int .i64 0, .string ⟨#[]⟩]⟩] none [0, 2]
def r_erasureref26Reader_Change_1 : ACode := .reg [
    ⟨some 4, none, .mov (.t 0)⟩,
    ⟨some 5, none, .call 23 [(.t 4)]⟩,
    ⟨some 6, none, .build [.int .i64 0, .int .i64 0, .int .i64 0, .int .i64 0, .slice none 0 0, .int .i64 0, .int .i64 0, .string ⟨#[]⟩, .int .i64 0, .int .i64 0, .int .i64 0, .string ⟨#[]⟩] [(0, 1, (.t 5))]⟩,
    ⟨some 3, none, .alloc 86 [.int .i64 0, .int .i64 0, .int .i64 0, .int .i64 0, .slice none 0 0, .int .i64 0, .int .i64 0, .string ⟨#[]⟩, .int .i64 0, .int .i64 0, .int .i64 0, .string ⟨#[]⟩]⟩,
    ⟨none, none, .store 12 (.t 3) (.t 6)⟩] none [0, 2, 3]
def r_erasureref26Reader_Change_2 : ACode := .reg [
    ⟨some 7, none, .mov (.t 0)⟩,
    ⟨some 8, none, .call 23 [(.t 7)]⟩,
    ⟨some 9, none, .fld 1 (.t 3)⟩,
    ⟨none, none, .store 1 (.t 9) (.t 8)⟩] none [0, 2, 3]
def r_erasureref26Reader_Change_3 : ACode := .reg [
    ⟨some 10, none, .mov (.t 0)⟩,
    ⟨some 11, none, .call 23 [(.t 10)]⟩,
    ⟨some 12, none, .fld 2 (.t 3)⟩,
    ⟨none, none, .store 1 (.t 12) (.t 11)⟩] none [0, 2, 3]
def r_erasureref26Reader_Change_4 : ACode := .reg [
    ⟨some 13, none, .mov (.t 0)⟩,
    ⟨some 14, none, .call 23 [(.t 13)]⟩,
    ⟨some 15, none, .fld 3 (.t 3)⟩,
    ⟨none, none, .store 1 (.t 15) (.t 14)⟩] none [0, 2, 3]
def r_erasureref26Reader_Change_5 : ACode := .reg [
    ⟨some 16, none, .mov (.t 0)⟩,
    ⟨some 17, none, .call 79 [(.t 16)]⟩,
    ⟨some 18, none, .fld 4 (.t 3)⟩,
    ⟨none, none, .store 1 (.t 18) (.t 17)⟩] none [0, 2, 3]
def r_erasureref26Reader_Change_6 : ACode := .reg [
    ⟨some 19, none, .mov (.t 0)⟩,
    ⟨some 20, none, .call 78 [(.t 19)]⟩,
    ⟨some 21, none, .fld 5 (.t 3)⟩,
    ⟨none, none, .store 3 (.t 21) (.t 20)⟩] none [0, 2, 3]
def r_erasureref26Reader_Change_7 : ACode := .reg [
    ⟨some 22, none, .mov (.t 0)⟩,
    ⟨some 23, none, .call 23 [(.t 22)]⟩,
    ⟨some 24, none, .fld 8 (.t 3)⟩,
    ⟨none, none, .store 1 (.t 24) (.t 23)⟩] none [0, 2, 3]
def r_erasureref26Reader_Change_8 : ACode := .reg [
    ⟨some 25, none, .mov (.t 0)⟩,
    ⟨some 26, none, .call 78 [(.t 25)]⟩,
    ⟨some 27, none, .fld 9 (.t 3)⟩,
    ⟨none, none, .store 3 (.t 27) (.t 26)⟩] none [2, 3]
def r_erasureref26Reader_Change_9 : ACode := .reg [
    ⟨some 28, none, .load (some 12) (.t 3)⟩,
    ⟨none, none, .store 12 (.t 2) (.t 28)⟩] none [2]
def c_erasureref26Reader_Change : ACode :=
  (.seq r_erasureref26Reader_Change_0
  (.seq r_erasureref26Reader_Change_1
   (.seq r_erasureref26Reader_Change_2
    (.seq r_erasureref26Reader_Change_3
     (.seq r_erasureref26Reader_Change_4
      (.seq r_erasureref26Reader_Change_5
       (.seq r_erasureref26Reader_Change_6
        (.seq r_erasureref26Reader_Change_7
         (.seq r_erasureref26Reader_Change_8
          (.seq r_erasureref26Reader_Change_9
           .ret))))))))))
theorem fits_erasureref26Reader_Change : Fits Try.prog 82 29 c_erasureref26Reader_Change [.c 2 (some 12)] := ⟨⟨Try.f82, _, _, Try.func82, rfl, rfl, rfl, by decide, by kernel_rfl, by kernel_rfl⟩, Try.checked.mixed⟩
def r_erasureref26Reader_Versions_0 : ACode := .reg [
    ⟨some 2, none, .mov (.k (.slice none 0 0))⟩] none [0]
def r_erasureref26Reader_Versions_1 : ACode := .reg [
    ⟨some 3, none, .mov (.k (.slice none 0 0))⟩] none [0, 3]
def r_erasureref26Reader_Versions_2 : ACode := .reg [
    ⟨some 7, none, .mov (.t 0)⟩,
    ⟨some 8, none, .call 124 [(.t 7), (.k (.int .i64 (512)))]⟩,
    ⟨some 4, none, .mov (.t 8)⟩] none [0, 3, 4]
def r_erasureref26Reader_Versions_3 : ACode := .reg [
    ⟨some 5, none, .mov (.k (.int .i64 (0)))⟩] none [0, 3, 4, 5]
def r_erasureref26Reader_Versions_4 : ACode := .reg [
    ⟨some 9, none, .mov (.t 5)⟩,
    ⟨some 10, none, .mov (.t 4)⟩,
    ⟨some 11, none, .bin .lss (.t 9) (.t 10)⟩,
    ⟨some 12, none, .mov (.t 11)⟩,
    ⟨some 13, (some (12, true)), .mov (.t 0)⟩,
    ⟨some 14, (some (12, true)), .nilck (.t 13)⟩,
    ⟨some 15, (some (12, true)), .fld 1 (.t 14)⟩,
    ⟨some 16, (some (12, true)), .load none (.t 15)⟩,
    ⟨some 17, (some (12, true)), .bin .eql (.t 16) (.k (.int .i64 (0)))⟩,
    ⟨some 18, none, .pick (.t 12) (.t 17) (.k (.bool false))⟩] none [0, 3, 4, 5, 18]
def r_erasureref26Reader_Versions_5 : ACode := .reg [
    ⟨some 21, none, .mov (.t 0)⟩,
    ⟨some 22, none, .call 23 [(.t 21)]⟩,
    ⟨some 23, none, .build [.int .i64 0, .int .i64 0, .int .i64 0] [(0, 1, (.t 22))]⟩,
    ⟨some 6, none, .alloc 161 [.int .i64 0, .int .i64 0, .int .i64 0]⟩,
    ⟨none, none, .store 3 (.t 6) (.t 23)⟩] none [0, 3, 4, 5, 6]
def r_erasureref26Reader_Versions_6 : ACode := .reg [
    ⟨some 24, none, .mov (.t 0)⟩,
    ⟨some 25, none, .call 23 [(.t 24)]⟩,
    ⟨some 26, none, .fld 2 (.t 6)⟩,
    ⟨none, none, .store 1 (.t 26) (.t 25)⟩] none [0, 3, 4, 5, 6]
def r_erasureref26Reader_Versions_7 : ACode := .reg [
    ⟨some 27, none, .mov (.t 0)⟩,
    ⟨some 28, none, .call 23 [(.t 27)]⟩,
    ⟨some 29, none, .fld 1 (.t 6)⟩,
    ⟨none, none, .store 1 (.t 29) (.t 28)⟩] none [0, 3, 4, 5, 6]
def r_erasureref26Reader_Versions_8 : ACode := .reg [
    ⟨some 30, none, .mov (.t 3)⟩,
    ⟨some 31, none, .load (some 3) (.t 6)⟩,
    ⟨some 32, none, .lit 161 3 1 [.int .i64 0, .int .i64 0, .int .i64 0] [(0, (.t 31))] false⟩,
    ⟨some 33, none, .app 161 3 24 (.t 30) (.t 32)⟩,
    ⟨some 3, none, .mov (.t 33)⟩] none [0, 3, 4, 5]
def r_erasureref26Reader_Versions_9 : ACode := .reg [
    ⟨some 19, none, .mov (.t 5)⟩,
    ⟨some 20, none, .bin .add (.t 19) (.k (.int .i64 (1)))⟩,
    ⟨some 5, none, .mov (.t 20)⟩] none [0, 3, 4, 5]
def r_erasureref26Reader_Versions_10 : ACode := .reg [
    ⟨some 34, none, .mov (.t 3)⟩,
    ⟨some 2, none, .mov (.t 34)⟩] none [2]
def c_erasureref26Reader_Versions : ACode :=
  (.seq r_erasureref26Reader_Versions_0
  (.seq r_erasureref26Reader_Versions_1
   (.seq r_erasureref26Reader_Versions_2
    (.seq (.seq r_erasureref26Reader_Versions_3
      (.block 0 (.loop (.seq (.seq r_erasureref26Reader_Versions_4
          (.cond (.t 18)
           .skip
           (.exit 0)))
         (.seq (.block 1 (.seq r_erasureref26Reader_Versions_5
            (.seq r_erasureref26Reader_Versions_6
             (.seq r_erasureref26Reader_Versions_7
              r_erasureref26Reader_Versions_8))))
          r_erasureref26Reader_Versions_9)))))
     (.seq r_erasureref26Reader_Versions_10
      .ret)))))
theorem fits_erasureref26Reader_Versions : Fits Try.prog 83 35 c_erasureref26Reader_Versions [.t 2] := ⟨⟨Try.f83, _, _, Try.func83, rfl, rfl, rfl, by decide, by kernel_rfl, by kernel_rfl⟩, Try.checked.mixed⟩
def r_erasureref26Reader_Sources_0 : ACode := .reg [
    ⟨some 2, none, .mov (.k (.slice none 0 0))⟩] none [0]
def r_erasureref26Reader_Sources_1 : ACode := .reg [
    ⟨some 3, none, .mov (.k (.slice none 0 0))⟩] none [0, 3]
def r_erasureref26Reader_Sources_2 : ACode := .reg [
    ⟨some 7, none, .mov (.t 0)⟩,
    ⟨some 8, none, .call 124 [(.t 7), (.k (.int .i64 (512)))]⟩,
    ⟨some 4, none, .mov (.t 8)⟩] none [0, 3, 4]
def r_erasureref26Reader_Sources_3 : ACode := .reg [
    ⟨some 5, none, .mov (.k (.int .i64 (0)))⟩] none [0, 3, 4, 5]
def r_erasureref26Reader_Sources_4 : ACode := .reg [
    ⟨some 9, none, .mov (.t 5)⟩,
    ⟨some 10, none, .mov (.t 4)⟩,
    ⟨some 11, none, .bin .lss (.t 9) (.t 10)⟩,
    ⟨some 12, none, .mov (.t 11)⟩,
    ⟨some 13, (some (12, true)), .mov (.t 0)⟩,
    ⟨some 14, (some (12, true)), .nilck (.t 13)⟩,
    ⟨some 15, (some (12, true)), .fld 1 (.t 14)⟩,
    ⟨some 16, (some (12, true)), .load none (.t 15)⟩,
    ⟨some 17, (some (12, true)), .bin .eql (.t 16) (.k (.int .i64 (0)))⟩,
    ⟨some 18, none, .pick (.t 12) (.t 17) (.k (.bool false))⟩] none [0, 3, 4, 5, 18]
def r_erasureref26Reader_Sources_5 : ACode := .reg [
    ⟨some 21, none, .mov (.t 0)⟩,
    ⟨some 22, none, .call 23 [(.t 21)]⟩,
    ⟨some 23, none, .build [.int .i64 0, .int .i64 0] [(0, 1, (.t 22))]⟩,
    ⟨some 6, none, .alloc 163 [.int .i64 0, .int .i64 0]⟩,
    ⟨none, none, .store 2 (.t 6) (.t 23)⟩] none [0, 3, 4, 5, 6]
def r_erasureref26Reader_Sources_6 : ACode := .reg [
    ⟨some 24, none, .mov (.t 0)⟩,
    ⟨some 25, none, .call 23 [(.t 24)]⟩,
    ⟨some 26, none, .fld 1 (.t 6)⟩,
    ⟨none, none, .store 1 (.t 26) (.t 25)⟩] none [0, 3, 4, 5, 6]
def r_erasureref26Reader_Sources_7 : ACode := .reg [
    ⟨some 27, none, .mov (.t 3)⟩,
    ⟨some 28, none, .load (some 2) (.t 6)⟩,
    ⟨some 29, none, .lit 163 2 1 [.int .i64 0, .int .i64 0] [(0, (.t 28))] false⟩,
    ⟨some 30, none, .app 163 2 16 (.t 27) (.t 29)⟩,
    ⟨some 3, none, .mov (.t 30)⟩] none [0, 3, 4, 5]
def r_erasureref26Reader_Sources_8 : ACode := .reg [
    ⟨some 19, none, .mov (.t 5)⟩,
    ⟨some 20, none, .bin .add (.t 19) (.k (.int .i64 (1)))⟩,
    ⟨some 5, none, .mov (.t 20)⟩] none [0, 3, 4, 5]
def r_erasureref26Reader_Sources_9 : ACode := .reg [
    ⟨some 31, none, .mov (.t 3)⟩,
    ⟨some 2, none, .mov (.t 31)⟩] none [2]
def c_erasureref26Reader_Sources : ACode :=
  (.seq r_erasureref26Reader_Sources_0
  (.seq r_erasureref26Reader_Sources_1
   (.seq r_erasureref26Reader_Sources_2
    (.seq (.seq r_erasureref26Reader_Sources_3
      (.block 0 (.loop (.seq (.seq r_erasureref26Reader_Sources_4
          (.cond (.t 18)
           .skip
           (.exit 0)))
         (.seq (.block 1 (.seq r_erasureref26Reader_Sources_5
            (.seq r_erasureref26Reader_Sources_6
             r_erasureref26Reader_Sources_7)))
          r_erasureref26Reader_Sources_8)))))
     (.seq r_erasureref26Reader_Sources_9
      .ret)))))
theorem fits_erasureref26Reader_Sources : Fits Try.prog 84 32 c_erasureref26Reader_Sources [.t 2] := ⟨⟨Try.f84, _, _, Try.func84, rfl, rfl, rfl, by decide, by kernel_rfl, by kernel_rfl⟩, Try.checked.mixed⟩
def r_erasureref26Reader_Entry_0 : ACode := .reg [
    ⟨some 2, none, .alloc 111 [.int .i64 0, .int .i64 0, .int .i64 0, .int .i64 0, .int .i64 0, .string ⟨#[]⟩, .int .i64 0, .int .i64 0, .string ⟨#[]⟩, .int .i64 0, .int .i64 0, .int .i64 0, .string ⟨#[]⟩, .int .i64 0, .int .i64 0, .string ⟨#[]⟩, .string ⟨#[]⟩, .int .i64 0, .int .i64 0, .string ⟨#[]⟩, .int .i64 0, .bool false, .int .i64 0, .int .i64 0, .string ⟨#[]⟩, .int .i64 0, .int .i64 0, .string ⟨#[]⟩, .int .i64 0, .int .i64 0, .int .i64 0, .slice none 0 0, .slice none 0 0, .int .u8 0, .int .u8 0, .int .u8 0, .int .u8 0, .int .u8 0, .int .u8 0, .int .u8 0, .int .u8 0, .int .u8 0, .int .u8 0, .int .u8 0, .int .u8 0, .int .u8 0, .int .u8 0, .int .u8 0, .int .u8 0, .int .u8 0, .int .u8 0, .int .u8 0, .int .u8 0, .int .u8 0, .int .u8 0, .int .u8 0, .int .u8 0, .int .u8 0, .int .u8 0, .int .u8 0, .int .u8 0, .int .u8 0, .int .u8 0, .int .u8 0, .int .u8 0]⟩] none [0, 2]
def r_erasureref26Reader_Entry_1 : ACode := .reg [
    ⟨some 5, none, .mov (.t 0)⟩,
    ⟨some 6, none, .call 23 [(.t 5)]⟩,
    ⟨some 3, none, .mov (.t 6)⟩] none [0, 2, 3]
def r_erasureref26Reader_Entry_2 : ACode := .reg [
    ⟨some 7, none, .mov (.t 3)⟩,
    ⟨some 8, none, .bin .lss (.t 7) (.k (.int .i64 (1)))⟩,
    ⟨some 9, none, .mov (.t 8)⟩,
    ⟨some 10, (some (9, false)), .mov (.t 3)⟩,
    ⟨some 11, (some (9, false)), .bin .gtr (.t 10) (.k (.int .i64 (7)))⟩,
    ⟨some 12, none, .pick (.t 9) (.k (.bool true)) (.t 11)⟩] none [0, 2, 3, 12]
def r_erasureref26Reader_Entry_3 : ACode := .reg [
    ⟨some 13, none, .mov (.t 0)⟩,
    ⟨some 14, none, .call 91 [(.t 13), (.k (.int .i64 (1)))]⟩] none [0, 2, 3]
def r_erasureref26Reader_Entry_4 : ACode := .reg [
    ⟨some 15, none, .mov (.t 3)⟩,
    ⟨some 16, none, .build [.int .i64 0, .int .i64 0, .int .i64 0, .int .i64 0, .int .i64 0, .string ⟨#[]⟩, .int .i64 0, .int .i64 0, .string ⟨#[]⟩, .int .i64 0, .int .i64 0, .int .i64 0, .string ⟨#[]⟩, .int .i64 0, .int .i64 0, .string ⟨#[]⟩, .string ⟨#[]⟩, .int .i64 0, .int .i64 0, .string ⟨#[]⟩, .int .i64 0, .bool false, .int .i64 0, .int .i64 0, .string ⟨#[]⟩, .int .i64 0, .int .i64 0, .string ⟨#[]⟩, .int .i64 0, .int .i64 0, .int .i64 0, .slice none 0 0, .slice none 0 0, .int .u8 0, .int .u8 0, .int .u8 0, .int .u8 0, .int .u8 0, .int .u8 0, .int .u8 0, .int .u8 0, .int .u8 0, .int .u8 0, .int .u8 0, .int .u8 0, .int .u8 0, .int .u8 0, .int .u8 0, .int .u8 0, .int .u8 0, .int .u8 0, .int .u8 0, .int .u8 0, .int .u8 0, .int .u8 0, .int .u8 0, .int .u8 0, .int .u8 0, .int .u8 0, .int .u8 0, .int .u8 0, .int .u8 0, .int .u8 0, .int .u8 0, .int .u8 0] [(0, 1, (.t 15))]⟩,
    ⟨some 4, none, .alloc 111 [.int .i64 0, .int .i64 0, .int .i64 0, .int .i64 0, .int .i64 0, .string ⟨#[]⟩, .int .i64 0, .int .i64 0, .string ⟨#[]⟩, .int .i64 0, .int .i64 0, .int .i64 0, .string ⟨#[]⟩, .int .i64 0, .int .i64 0, .string ⟨#[]⟩, .string ⟨#[]⟩, .int .i64 0, .int .i64 0, .string ⟨#[]⟩, .int .i64 0, .bool false, .int .i64 0, .int .i64 0, .string ⟨#[]⟩, .int .i64 0, .int .i64 0, .string ⟨#[]⟩, .int .i64 0, .int .i64 0, .int .i64 0, .slice none 0 0, .slice none 0 0, .int .u8 0, .int .u8 0, .int .u8 0, .int .u8 0, .int .u8 0, .int .u8 0, .int .u8 0, .int .u8 0, .int .u8 0, .int .u8 0, .int .u8 0, .int .u8 0, .int .u8 0, .int .u8 0, .int .u8 0, .int .u8 0, .int .u8 0, .int .u8 0, .int .u8 0, .int .u8 0, .int .u8 0, .int .u8 0, .int .u8 0, .int .u8 0, .int .u8 0, .int .u8 0, .int .u8 0, .int .u8 0, .int .u8 0, .int .u8 0, .int .u8 0, .int .u8 0]⟩,
    ⟨none, none, .store 65 (.t 4) (.t 16)⟩] none [0, 2, 4]
def r_erasureref26Reader_Entry_5 : ACode := .reg [
    ⟨some 17, none, .mov (.t 0)⟩,
    ⟨some 18, none, .call 23 [(.t 17)]⟩,
    ⟨some 19, none, .fld 1 (.t 4)⟩,
    ⟨none, none, .store 1 (.t 19) (.t 18)⟩] none [0, 2, 4]
def r_erasureref26Reader_Entry_6 : ACode := .reg [
    ⟨some 20, none, .mov (.t 0)⟩,
    ⟨some 21, none, .call 23 [(.t 20)]⟩,
    ⟨some 22, none, .fld 2 (.t 4)⟩,
    ⟨none, none, .store 1 (.t 22) (.t 21)⟩] none [0, 2, 4]
def r_erasureref26Reader_Entry_7 : ACode := .reg [
    ⟨some 23, none, .mov (.t 0)⟩,
    ⟨some 24, none, .call 23 [(.t 23)]⟩,
    ⟨some 25, none, .fld 3 (.t 4)⟩,
    ⟨none, none, .store 1 (.t 25) (.t 24)⟩] none [0, 2, 4]
def r_erasureref26Reader_Entry_8 : ACode := .reg [
    ⟨some 26, none, .fld 0 (.t 4)⟩,
    ⟨some 27, none, .load none (.t 26)⟩] none [0, 2, 4, 27]
def r_erasureref26Reader_Entry_9 : ACode := .reg [
    ⟨some 29, none, .bin .eql (.t 27) (.k (.int .i64 (1)))⟩,
    ⟨some 28, none, .mov (.t 29)⟩] none [0, 2, 4, 27, 28]
def r_erasureref26Reader_Entry_10 : ACode := .reg [
    ⟨some 30, none, .mov (.t 0)⟩,
    ⟨some 31, none, .call 126 [(.t 30)]⟩,
    ⟨some 32, none, .fld 4 (.t 4)⟩,
    ⟨none, none, .store 8 (.t 32) (.t 31)⟩] none [2, 4]
def r_erasureref26Reader_Entry_11 : ACode := .reg [
    ⟨some 34, none, .bin .eql (.t 27) (.k (.int .i64 (2)))⟩,
    ⟨some 33, none, .mov (.t 34)⟩] none [0, 2, 4, 27, 33]
def r_erasureref26Reader_Entry_12 : ACode := .reg [
    ⟨some 35, none, .mov (.t 0)⟩,
    ⟨some 36, none, .call 83 [(.t 35)]⟩,
    ⟨some 37, none, .fld 31 (.t 4)⟩,
    ⟨none, none, .store 1 (.t 37) (.t 36)⟩] none [0, 2, 4]
def r_erasureref26Reader_Entry_13 : ACode := .reg [
    ⟨some 38, none, .mov (.t 0)⟩,
    ⟨some 39, none, .call 84 [(.t 38)]⟩,
    ⟨some 40, none, .fld 32 (.t 4)⟩,
    ⟨none, none, .store 1 (.t 40) (.t 39)⟩] none [2, 4]
def r_erasureref26Reader_Entry_14 : ACode := .reg [
    ⟨some 42, none, .bin .eql (.t 27) (.k (.int .i64 (4)))⟩,
    ⟨some 41, none, .mov (.t 42)⟩] none [0, 2, 4, 27, 41]
def r_erasureref26Reader_Entry_15 : ACode := .reg [
    ⟨some 43, none, .mov (.t 0)⟩,
    ⟨some 44, none, .call 127 [(.t 43)]⟩,
    ⟨some 45, none, .fld 33 (.t 4)⟩,
    ⟨none, none, .store 32 (.t 45) (.t 44)⟩] none [2, 4]
def r_erasureref26Reader_Entry_16 : ACode := .reg [
    ⟨some 47, none, .bin .eql (.t 27) (.k (.int .i64 (6)))⟩,
    ⟨some 46, none, .mov (.t 47)⟩] none [0, 2, 4, 27, 46]
def r_erasureref26Reader_Entry_17 : ACode := .reg [
    ⟨some 48, none, .mov (.t 0)⟩,
    ⟨some 49, none, .call 128 [(.t 48)]⟩,
    ⟨some 50, none, .fld 12 (.t 4)⟩,
    ⟨none, none, .store 10 (.t 50) (.t 49)⟩] none [2, 4]
def r_erasureref26Reader_Entry_18 : ACode := .reg [
    ⟨some 52, none, .bin .eql (.t 27) (.k (.int .i64 (7)))⟩,
    ⟨some 51, none, .mov (.t 52)⟩] none [0, 2, 4, 51]
def r_erasureref26Reader_Entry_19 : ACode := .reg [
    ⟨some 53, none, .mov (.t 0)⟩,
    ⟨some 54, none, .call 86 [(.t 53)]⟩,
    ⟨some 55, none, .fld 22 (.t 4)⟩,
    ⟨none, none, .store 9 (.t 55) (.t 54)⟩] none [2, 4]
def r_erasureref26Reader_Entry_20 : ACode := .reg [
    ⟨some 56, none, .load (some 65) (.t 4)⟩,
    ⟨none, none, .store 65 (.t 2) (.t 56)⟩] none [2]
def c_erasureref26Reader_Entry : ACode :=
  (.seq r_erasureref26Reader_Entry_0
  (.seq r_erasureref26Reader_Entry_1
   (.seq (.seq r_erasureref26Reader_Entry_2
     (.cond (.t 12)
      r_erasureref26Reader_Entry_3
      .skip))
    (.seq r_erasureref26Reader_Entry_4
     (.seq r_erasureref26Reader_Entry_5
      (.seq r_erasureref26Reader_Entry_6
       (.seq r_erasureref26Reader_Entry_7
        (.seq (.seq r_erasureref26Reader_Entry_8
          (.block 0 (.seq r_erasureref26Reader_Entry_9
            (.cond (.t 28)
             r_erasureref26Reader_Entry_10
             (.seq r_erasureref26Reader_Entry_11
              (.cond (.t 33)
               (.seq r_erasureref26Reader_Entry_12
                r_erasureref26Reader_Entry_13)
               (.seq r_erasureref26Reader_Entry_14
                (.cond (.t 41)
                 r_erasureref26Reader_Entry_15
                 (.seq r_erasureref26Reader_Entry_16
                  (.cond (.t 46)
                   r_erasureref26Reader_Entry_17
                   (.seq r_erasureref26Reader_Entry_18
                    (.cond (.t 51)
                     r_erasureref26Reader_Entry_19
                     .skip))))))))))))
         (.seq r_erasureref26Reader_Entry_20
          .ret)))))))))
theorem fits_erasureref26Reader_Entry : Fits Try.prog 85 57 c_erasureref26Reader_Entry [.c 2 (some 65)] := ⟨⟨Try.f85, _, _, Try.func85, rfl, rfl, rfl, by decide, by kernel_rfl, by kernel_rfl⟩, Try.checked.mixed⟩
def r_erasureref26Reader_Hold_0 : ACode := .reg [
    ⟨some 2, none, .alloc 109 [.int .i64 0, .int .i64 0, .string ⟨#[]⟩, .int .i64 0, .int .i64 0, .string ⟨#[]⟩, .int .i64 0, .int .i64 0, .int .i64 0]⟩] none [0, 2]
def r_erasureref26Reader_Hold_1 : ACode := .reg [
    ⟨some 4, none, .mov (.t 0)⟩,
    ⟨some 5, none, .call 23 [(.t 4)]⟩,
    ⟨some 6, none, .build [.int .i64 0, .int .i64 0, .string ⟨#[]⟩, .int .i64 0, .int .i64 0, .string ⟨#[]⟩, .int .i64 0, .int .i64 0, .int .i64 0] [(0, 1, (.t 5))]⟩,
    ⟨some 3, none, .alloc 109 [.int .i64 0, .int .i64 0, .string ⟨#[]⟩, .int .i64 0, .int .i64 0, .string ⟨#[]⟩, .int .i64 0, .int .i64 0, .int .i64 0]⟩,
    ⟨none, none, .store 9 (.t 3) (.t 6)⟩] none [0, 2, 3]
def r_erasureref26Reader_Hold_2 : ACode := .reg [
    ⟨some 7, none, .mov (.t 0)⟩,
    ⟨some 8, none, .call 23 [(.t 7)]⟩,
    ⟨some 9, none, .fld 1 (.t 3)⟩,
    ⟨none, none, .store 1 (.t 9) (.t 8)⟩] none [0, 2, 3]
def r_erasureref26Reader_Hold_3 : ACode := .reg [
    ⟨some 10, none, .mov (.t 0)⟩,
    ⟨some 11, none, .call 129 [(.t 10)]⟩,
    ⟨some 12, none, .fld 2 (.t 3)⟩,
    ⟨none, none, .store 4 (.t 12) (.t 11)⟩] none [0, 2, 3]
def r_erasureref26Reader_Hold_4 : ACode := .reg [
    ⟨some 13, none, .mov (.t 0)⟩,
    ⟨some 14, none, .call 23 [(.t 13)]⟩,
    ⟨some 15, none, .fld 6 (.t 3)⟩,
    ⟨none, none, .store 1 (.t 15) (.t 14)⟩] none [0, 2, 3]
def r_erasureref26Reader_Hold_5 : ACode := .reg [
    ⟨some 16, none, .mov (.t 0)⟩,
    ⟨some 17, none, .call 23 [(.t 16)]⟩,
    ⟨some 18, none, .fld 7 (.t 3)⟩,
    ⟨none, none, .store 1 (.t 18) (.t 17)⟩] none [0, 2, 3]
def r_erasureref26Reader_Hold_6 : ACode := .reg [
    ⟨some 19, none, .mov (.t 0)⟩,
    ⟨some 20, none, .call 23 [(.t 19)]⟩,
    ⟨some 21, none, .fld 8 (.t 3)⟩,
    ⟨none, none, .store 1 (.t 21) (.t 20)⟩] none [2, 3]
def r_erasureref26Reader_Hold_7 : ACode := .reg [
    ⟨some 22, none, .load (some 9) (.t 3)⟩,
    ⟨none, none, .store 9 (.t 2) (.t 22)⟩] none [2]
def c_erasureref26Reader_Hold : ACode :=
  (.seq r_erasureref26Reader_Hold_0
  (.seq r_erasureref26Reader_Hold_1
   (.seq r_erasureref26Reader_Hold_2
    (.seq r_erasureref26Reader_Hold_3
     (.seq r_erasureref26Reader_Hold_4
      (.seq r_erasureref26Reader_Hold_5
       (.seq r_erasureref26Reader_Hold_6
        (.seq r_erasureref26Reader_Hold_7
         .ret))))))))
theorem fits_erasureref26Reader_Hold : Fits Try.prog 86 23 c_erasureref26Reader_Hold [.c 2 (some 9)] := ⟨⟨Try.f86, _, _, Try.func86, rfl, rfl, rfl, by decide, by kernel_rfl, by kernel_rfl⟩, Try.checked.mixed⟩
def r_erasureref26Reader_fail_0 : ACode := .reg [
    ⟨some 4, none, .mov (.t 0)⟩,
    ⟨some 5, none, .nilck (.t 4)⟩,
    ⟨some 6, none, .fld 1 (.t 5)⟩,
    ⟨some 7, none, .load none (.t 6)⟩,
    ⟨some 8, none, .bin .eql (.t 7) (.k (.int .i64 (0)))⟩] none [0, 1, 8]
def r_erasureref26Reader_fail_1 : ACode := .reg [
    ⟨some 9, none, .mov (.t 0)⟩,
    ⟨some 10, none, .mov (.t 1)⟩,
    ⟨some 11, none, .nilck (.t 9)⟩,
    ⟨some 12, none, .fld 1 (.t 11)⟩,
    ⟨none, none, .store 1 (.t 12) (.t 10)⟩] none []
def c_erasureref26Reader_fail : ACode :=
  (.seq r_erasureref26Reader_fail_0
  (.cond (.t 8)
   r_erasureref26Reader_fail_1
   .skip))
theorem fits_erasureref26Reader_fail : Fits Try.prog 91 13 c_erasureref26Reader_fail [] := ⟨⟨Try.f91, _, _, Try.func91, rfl, rfl, rfl, by decide, by kernel_rfl, by kernel_rfl⟩, Try.checked.mixed⟩
def r_erasureref26Reader_Count_0 : ACode := .reg [
    ⟨some 4, none, .mov (.k (.int .i64 (0)))⟩] none [0, 1]
def r_erasureref26Reader_Count_1 : ACode := .reg [
    ⟨some 6, none, .mov (.t 0)⟩,
    ⟨some 7, none, .call 23 [(.t 6)]⟩,
    ⟨some 5, none, .mov (.t 7)⟩] none [0, 1, 5]
def r_erasureref26Reader_Count_2 : ACode := .reg [
    ⟨some 8, none, .mov (.t 5)⟩,
    ⟨some 9, none, .bin .lss (.t 8) (.k (.int .i64 (0)))⟩,
    ⟨some 10, none, .mov (.t 9)⟩,
    ⟨some 11, (some (10, false)), .mov (.t 5)⟩,
    ⟨some 12, (some (10, false)), .mov (.t 1)⟩,
    ⟨some 13, (some (10, false)), .bin .gtr (.t 11) (.t 12)⟩,
    ⟨some 14, none, .pick (.t 10) (.k (.bool true)) (.t 13)⟩] none [0, 5, 14]
def r_erasureref26Reader_Count_3 : ACode := .reg [
    ⟨some 15, none, .mov (.t 0)⟩,
    ⟨some 16, none, .call 91 [(.t 15), (.k (.int .i64 (1)))]⟩] none []
def r_erasureref26Reader_Count_4 : ACode := .reg [
    ⟨some 4, none, .mov (.k (.int .i64 (0)))⟩] none [4]
def r_erasureref26Reader_Count_5 : ACode := .reg [
    ⟨some 17, none, .mov (.t 5)⟩,
    ⟨some 4, none, .mov (.t 17)⟩] none [4]
def c_erasureref26Reader_Count : ACode :=
  (.seq r_erasureref26Reader_Count_0
  (.seq r_erasureref26Reader_Count_1
   (.seq (.seq r_erasureref26Reader_Count_2
     (.cond (.t 14)
      (.seq r_erasureref26Reader_Count_3
       (.seq r_erasureref26Reader_Count_4
        .ret))
      .skip))
    (.seq r_erasureref26Reader_Count_5
     .ret))))
theorem fits_erasureref26Reader_Count : Fits Try.prog 124 18 c_erasureref26Reader_Count [.t 4] := ⟨⟨Try.f124, _, _, Try.func124, rfl, rfl, rfl, by decide, by kernel_rfl, by kernel_rfl⟩, Try.checked.mixed⟩
def r_erasureref26Reader_Text_0 : ACode := .reg [
    ⟨some 4, none, .mov (.k (.string { data := #[] }))⟩] none [0, 1]
def r_erasureref26Reader_Text_1 : ACode := .reg [
    ⟨some 6, none, .mov (.t 0)⟩,
    ⟨some 7, none, .call 23 [(.t 6)]⟩,
    ⟨some 5, none, .mov (.t 7)⟩] none [0, 1, 5]
def r_erasureref26Reader_Text_2 : ACode := .reg [
    ⟨some 8, none, .mov (.t 5)⟩,
    ⟨some 9, none, .bin .lss (.t 8) (.k (.int .i64 (0)))⟩,
    ⟨some 10, none, .mov (.t 9)⟩,
    ⟨some 11, (some (10, false)), .mov (.t 5)⟩,
    ⟨some 12, (some (10, false)), .mov (.t 1)⟩,
    ⟨some 13, (some (10, false)), .bin .gtr (.t 11) (.t 12)⟩,
    ⟨some 14, none, .pick (.t 10) (.k (.bool true)) (.t 13)⟩] none [0, 5, 14]
def r_erasureref26Reader_Text_3 : ACode := .reg [
    ⟨some 15, none, .mov (.t 0)⟩,
    ⟨some 16, none, .call 91 [(.t 15), (.k (.int .i64 (1)))]⟩] none []
def r_erasureref26Reader_Text_4 : ACode := .reg [
    ⟨some 4, none, .mov (.k (.string { data := #[] }))⟩] none [4]
def r_erasureref26Reader_Text_5 : ACode := .reg [
    ⟨some 17, none, .mov (.t 0)⟩,
    ⟨some 18, none, .mov (.t 5)⟩,
    ⟨some 19, none, .call 133 [(.t 17), (.t 18)]⟩,
    ⟨some 20, none, .tostr (.t 19)⟩,
    ⟨some 4, none, .mov (.t 20)⟩] none [4]
def c_erasureref26Reader_Text : ACode :=
  (.seq r_erasureref26Reader_Text_0
  (.seq r_erasureref26Reader_Text_1
   (.seq (.seq r_erasureref26Reader_Text_2
     (.cond (.t 14)
      (.seq r_erasureref26Reader_Text_3
       (.seq r_erasureref26Reader_Text_4
        .ret))
      .skip))
    (.seq r_erasureref26Reader_Text_5
     .ret))))
theorem fits_erasureref26Reader_Text : Fits Try.prog 125 21 c_erasureref26Reader_Text [.t 4] := ⟨⟨Try.f125, _, _, Try.func125, rfl, rfl, rfl, by decide, by kernel_rfl, by kernel_rfl⟩, Try.checked.mixed⟩
def r_erasureref26Reader_Request_0 : ACode := .reg [
    ⟨some 2, none, .alloc 105 [.int .i64 0, .string ⟨#[]⟩, .int .i64 0, .int .i64 0, .string ⟨#[]⟩, .int .i64 0, .int .i64 0, .int .i64 0]⟩] none [0, 2]
def r_erasureref26Reader_Request_1 : ACode := .reg [
    ⟨some 4, none, .mov (.t 0)⟩,
    ⟨some 5, none, .call 23 [(.t 4)]⟩,
    ⟨some 6, none, .build [.int .i64 0, .string ⟨#[]⟩, .int .i64 0, .int .i64 0, .string ⟨#[]⟩, .int .i64 0, .int .i64 0, .int .i64 0] [(0, 1, (.t 5))]⟩,
    ⟨some 3, none, .alloc 105 [.int .i64 0, .string ⟨#[]⟩, .int .i64 0, .int .i64 0, .string ⟨#[]⟩, .int .i64 0, .int .i64 0, .int .i64 0]⟩,
    ⟨none, none, .store 8 (.t 3) (.t 6)⟩] none [0, 2, 3]
def r_erasureref26Reader_Request_2 : ACode := .reg [
    ⟨some 7, none, .mov (.t 0)⟩,
    ⟨some 8, none, .call 129 [(.t 7)]⟩,
    ⟨some 9, none, .fld 1 (.t 3)⟩,
    ⟨none, none, .store 4 (.t 9) (.t 8)⟩] none [0, 2, 3]
def r_erasureref26Reader_Request_3 : ACode := .reg [
    ⟨some 10, none, .mov (.t 0)⟩,
    ⟨some 11, none, .call 23 [(.t 10)]⟩,
    ⟨some 12, none, .fld 5 (.t 3)⟩,
    ⟨none, none, .store 1 (.t 12) (.t 11)⟩] none [0, 2, 3]
def r_erasureref26Reader_Request_4 : ACode := .reg [
    ⟨some 13, none, .mov (.t 0)⟩,
    ⟨some 14, none, .call 23 [(.t 13)]⟩,
    ⟨some 15, none, .fld 6 (.t 3)⟩,
    ⟨none, none, .store 1 (.t 15) (.t 14)⟩] none [0, 2, 3]
def r_erasureref26Reader_Request_5 : ACode := .reg [
    ⟨some 16, none, .mov (.t 0)⟩,
    ⟨some 17, none, .call 23 [(.t 16)]⟩,
    ⟨some 18, none, .fld 7 (.t 3)⟩,
    ⟨none, none, .store 1 (.t 18) (.t 17)⟩] none [2, 3]
def r_erasureref26Reader_Request_6 : ACode := .reg [
    ⟨some 19, none, .load (some 8) (.t 3)⟩,
    ⟨none, none, .store 8 (.t 2) (.t 19)⟩] none [2]
def c_erasureref26Reader_Request : ACode :=
  (.seq r_erasureref26Reader_Request_0
  (.seq r_erasureref26Reader_Request_1
   (.seq r_erasureref26Reader_Request_2
    (.seq r_erasureref26Reader_Request_3
     (.seq r_erasureref26Reader_Request_4
      (.seq r_erasureref26Reader_Request_5
       (.seq r_erasureref26Reader_Request_6
        .ret)))))))
theorem fits_erasureref26Reader_Request : Fits Try.prog 126 20 c_erasureref26Reader_Request [.c 2 (some 8)] := ⟨⟨Try.f126, _, _, Try.func126, rfl, rfl, rfl, by decide, by kernel_rfl, by kernel_rfl⟩, Try.checked.mixed⟩
def r_erasureref26Reader_Digest_0 : ACode := .reg [
    ⟨some 2, none, .alloc 45 [.int .u8 0, .int .u8 0, .int .u8 0, .int .u8 0, .int .u8 0, .int .u8 0, .int .u8 0, .int .u8 0, .int .u8 0, .int .u8 0, .int .u8 0, .int .u8 0, .int .u8 0, .int .u8 0, .int .u8 0, .int .u8 0, .int .u8 0, .int .u8 0, .int .u8 0, .int .u8 0, .int .u8 0, .int .u8 0, .int .u8 0, .int .u8 0, .int .u8 0, .int .u8 0, .int .u8 0, .int .u8 0, .int .u8 0, .int .u8 0, .int .u8 0, .int .u8 0]⟩] none [0, 2]
def r_erasureref26Reader_Digest_1 : ACode := .reg [
    ⟨some 3, none, .alloc 45 [.int .u8 0, .int .u8 0, .int .u8 0, .int .u8 0, .int .u8 0, .int .u8 0, .int .u8 0, .int .u8 0, .int .u8 0, .int .u8 0, .int .u8 0, .int .u8 0, .int .u8 0, .int .u8 0, .int .u8 0, .int .u8 0, .int .u8 0, .int .u8 0, .int .u8 0, .int .u8 0, .int .u8 0, .int .u8 0, .int .u8 0, .int .u8 0, .int .u8 0, .int .u8 0, .int .u8 0, .int .u8 0, .int .u8 0, .int .u8 0, .int .u8 0, .int .u8 0]⟩] none [0, 2, 3]
def r_erasureref26Reader_Digest_2 : ACode := .reg [
    ⟨some 6, none, .mov (.t 0)⟩,
    ⟨some 7, none, .call 133 [(.t 6), (.k (.int .i64 (32)))]⟩,
    ⟨some 4, none, .mov (.t 7)⟩] none [2, 3, 4]
def r_erasureref26Reader_Digest_3 : ACode := .reg [
    ⟨some 5, none, .mov (.k (.int .i64 (0)))⟩] none [2, 3, 4, 5]
def r_erasureref26Reader_Digest_4 : ACode := .reg [
    ⟨some 8, none, .mov (.t 5)⟩,
    ⟨some 9, none, .mov (.t 4)⟩,
    ⟨some 10, none, .len (.t 9)⟩,
    ⟨some 11, none, .bin .lss (.t 8) (.t 10)⟩] none [2, 3, 4, 5, 11]
def r_erasureref26Reader_Digest_5 : ACode := .reg [
    ⟨some 14, none, .mov (.t 5)⟩,
    ⟨some 15, none, .mov (.t 4)⟩,
    ⟨some 16, none, .mov (.t 5)⟩,
    ⟨some 17, none, .idxa 1 (.t 15) (.t 16)⟩,
    ⟨some 18, none, .load none (.t 17)⟩,
    ⟨some 19, none, .idxr 32 1 (.t 3) (.t 14)⟩,
    ⟨none, none, .store 1 (.t 19) (.t 18)⟩] none [2, 3, 4, 5]
def r_erasureref26Reader_Digest_6 : ACode := .reg [
    ⟨some 12, none, .mov (.t 5)⟩,
    ⟨some 13, none, .bin .add (.t 12) (.k (.int .i64 (1)))⟩,
    ⟨some 5, none, .mov (.t 13)⟩] none [2, 3, 4, 5]
def r_erasureref26Reader_Digest_7 : ACode := .reg [
    ⟨some 20, none, .load (some 32) (.t 3)⟩,
    ⟨none, none, .store 32 (.t 2) (.t 20)⟩] none [2]
def c_erasureref26Reader_Digest : ACode :=
  (.seq r_erasureref26Reader_Digest_0
  (.seq r_erasureref26Reader_Digest_1
   (.seq r_erasureref26Reader_Digest_2
    (.seq (.seq r_erasureref26Reader_Digest_3
      (.block 0 (.loop (.seq (.seq r_erasureref26Reader_Digest_4
          (.cond (.t 11)
           .skip
           (.exit 0)))
         (.seq (.block 1 r_erasureref26Reader_Digest_5)
          r_erasureref26Reader_Digest_6)))))
     (.seq r_erasureref26Reader_Digest_7
      .ret)))))
theorem fits_erasureref26Reader_Digest : Fits Try.prog 127 21 c_erasureref26Reader_Digest [.c 2 (some 32)] := ⟨⟨Try.f127, _, _, Try.func127, rfl, rfl, rfl, by decide, by kernel_rfl, by kernel_rfl⟩, Try.checked.mixed⟩
def r_erasureref26Reader_Link_0 : ACode := .reg [
    ⟨some 2, none, .alloc 107 [.string ⟨#[]⟩, .int .i64 0, .int .i64 0, .string ⟨#[]⟩, .string ⟨#[]⟩, .int .i64 0, .int .i64 0, .string ⟨#[]⟩, .int .i64 0, .bool false]⟩] none [0, 2]
def r_erasureref26Reader_Link_1 : ACode := .reg [
    ⟨some 4, none, .mov (.t 0)⟩,
    ⟨some 5, none, .call 129 [(.t 4)]⟩,
    ⟨some 6, none, .build [.string ⟨#[]⟩, .int .i64 0, .int .i64 0, .string ⟨#[]⟩, .string ⟨#[]⟩, .int .i64 0, .int .i64 0, .string ⟨#[]⟩, .int .i64 0, .bool false] [(0, 4, (.t 5))]⟩,
    ⟨some 3, none, .alloc 107 [.string ⟨#[]⟩, .int .i64 0, .int .i64 0, .string ⟨#[]⟩, .string ⟨#[]⟩, .int .i64 0, .int .i64 0, .string ⟨#[]⟩, .int .i64 0, .bool false]⟩,
    ⟨none, none, .store 10 (.t 3) (.t 6)⟩] none [0, 2, 3]
def r_erasureref26Reader_Link_2 : ACode := .reg [
    ⟨some 7, none, .mov (.t 0)⟩,
    ⟨some 8, none, .call 129 [(.t 7)]⟩,
    ⟨some 9, none, .fld 4 (.t 3)⟩,
    ⟨none, none, .store 4 (.t 9) (.t 8)⟩] none [0, 2, 3]
def r_erasureref26Reader_Link_3 : ACode := .reg [
    ⟨some 10, none, .mov (.t 0)⟩,
    ⟨some 11, none, .call 23 [(.t 10)]⟩,
    ⟨some 12, none, .fld 8 (.t 3)⟩,
    ⟨none, none, .store 1 (.t 12) (.t 11)⟩] none [0, 2, 3]
def r_erasureref26Reader_Link_4 : ACode := .reg [
    ⟨some 13, none, .mov (.t 0)⟩,
    ⟨some 14, none, .call 124 [(.t 13), (.k (.int .i64 (1)))]⟩,
    ⟨some 15, none, .bin .eql (.t 14) (.k (.int .i64 (1)))⟩,
    ⟨some 16, none, .fld 9 (.t 3)⟩,
    ⟨none, none, .store 1 (.t 16) (.t 15)⟩] none [2, 3]
def r_erasureref26Reader_Link_5 : ACode := .reg [
    ⟨some 17, none, .load (some 10) (.t 3)⟩,
    ⟨none, none, .store 10 (.t 2) (.t 17)⟩] none [2]
def c_erasureref26Reader_Link : ACode :=
  (.seq r_erasureref26Reader_Link_0
  (.seq r_erasureref26Reader_Link_1
   (.seq r_erasureref26Reader_Link_2
    (.seq r_erasureref26Reader_Link_3
     (.seq r_erasureref26Reader_Link_4
      (.seq r_erasureref26Reader_Link_5
       .ret))))))
theorem fits_erasureref26Reader_Link : Fits Try.prog 128 18 c_erasureref26Reader_Link [.c 2 (some 10)] := ⟨⟨Try.f128, _, _, Try.func128, rfl, rfl, rfl, by decide, by kernel_rfl, by kernel_rfl⟩, Try.checked.mixed⟩
def r_erasureref26Reader_Identifier_0 : ACode := .reg [
    ⟨some 2, none, .alloc 103 [.string ⟨#[]⟩, .int .i64 0, .int .i64 0, .string ⟨#[]⟩]⟩] none [0, 2]
def r_erasureref26Reader_Identifier_1 : ACode := .reg [
    ⟨some 4, none, .mov (.t 0)⟩,
    ⟨some 5, none, .call 125 [(.t 4), (.k (.int .i64 (16)))]⟩,
    ⟨some 6, none, .build [.string ⟨#[]⟩, .int .i64 0, .int .i64 0, .string ⟨#[]⟩] [(0, 1, (.t 5))]⟩,
    ⟨some 3, none, .alloc 103 [.string ⟨#[]⟩, .int .i64 0, .int .i64 0, .string ⟨#[]⟩]⟩,
    ⟨none, none, .store 4 (.t 3) (.t 6)⟩] none [0, 2, 3]
def r_erasureref26Reader_Identifier_2 : ACode := .reg [
    ⟨some 7, none, .mov (.t 0)⟩,
    ⟨some 8, none, .call 78 [(.t 7)]⟩,
    ⟨some 9, none, .fld 1 (.t 3)⟩,
    ⟨none, none, .store 3 (.t 9) (.t 8)⟩] none [2, 3]
def r_erasureref26Reader_Identifier_3 : ACode := .reg [
    ⟨some 10, none, .load (some 4) (.t 3)⟩,
    ⟨none, none, .store 4 (.t 2) (.t 10)⟩] none [2]
def c_erasureref26Reader_Identifier : ACode :=
  (.seq r_erasureref26Reader_Identifier_0
  (.seq r_erasureref26Reader_Identifier_1
   (.seq r_erasureref26Reader_Identifier_2
    (.seq r_erasureref26Reader_Identifier_3
     .ret))))
theorem fits_erasureref26Reader_Identifier : Fits Try.prog 129 11 c_erasureref26Reader_Identifier [.c 2 (some 4)] := ⟨⟨Try.f129, _, _, Try.func129, rfl, rfl, rfl, by decide, by kernel_rfl, by kernel_rfl⟩, Try.checked.mixed⟩
def r_erasureref26Reader_Take_0 : ACode := .reg [
    ⟨some 4, none, .mov (.k (.slice none 0 0))⟩] none [0, 1]
def r_erasureref26Reader_Take_1 : ACode := .reg [
    ⟨some 6, none, .mov (.t 0)⟩,
    ⟨some 7, none, .nilck (.t 6)⟩,
    ⟨some 8, none, .fld 1 (.t 7)⟩,
    ⟨some 9, none, .load none (.t 8)⟩,
    ⟨some 10, none, .bin .eql (.t 9) (.k (.int .i64 (0)))⟩,
    ⟨some 11, none, .mov (.t 10)⟩,
    ⟨some 12, (some (11, true)), .mov (.t 1)⟩,
    ⟨some 13, (some (11, true)), .mov (.t 0)⟩,
    ⟨some 14, (some (11, true)), .nilck (.t 13)⟩,
    ⟨some 15, (some (11, true)), .fld 0 (.t 14)⟩,
    ⟨some 16, (some (11, true)), .load none (.t 15)⟩,
    ⟨some 17, (some (11, true)), .len (.t 16)⟩,
    ⟨some 18, (some (11, true)), .bin .gtr (.t 12) (.t 17)⟩,
    ⟨some 19, none, .pick (.t 11) (.t 18) (.k (.bool false))⟩] none [0, 1, 19]
def r_erasureref26Reader_Take_2 : ACode := .reg [
    ⟨some 20, none, .mov (.t 0)⟩,
    ⟨some 21, none, .call 91 [(.t 20), (.k (.int .i64 (100)))]⟩] none [0, 1]
def r_erasureref26Reader_Take_3 : ACode := .reg [
    ⟨some 22, none, .mov (.t 0)⟩,
    ⟨some 23, none, .nilck (.t 22)⟩,
    ⟨some 24, none, .fld 1 (.t 23)⟩,
    ⟨some 25, none, .load none (.t 24)⟩,
    ⟨some 26, none, .bin .neq (.t 25) (.k (.int .i64 (0)))⟩] none [0, 1, 26]
def r_erasureref26Reader_Take_4 : ACode := .reg [
    ⟨some 4, none, .mov (.k (.slice none 0 0))⟩] none [4]
def r_erasureref26Reader_Take_5 : ACode := .reg [
    ⟨some 27, none, .lit 5 1 0 [.int .u8 0] [] true⟩,
    ⟨some 28, none, .mov (.t 0)⟩,
    ⟨some 29, none, .nilck (.t 28)⟩,
    ⟨some 30, none, .fld 0 (.t 29)⟩,
    ⟨some 31, none, .load none (.t 30)⟩,
    ⟨some 32, none, .mov (.t 1)⟩,
    ⟨some 33, none, .sl 1 (.t 31) none (some (.t 32)) none⟩,
    ⟨some 34, none, .app 5 1 1 (.t 27) (.t 33)⟩,
    ⟨some 5, none, .mov (.t 34)⟩] none [0, 1, 5]
def r_erasureref26Reader_Take_6 : ACode := .reg [
    ⟨some 35, none, .mov (.t 0)⟩,
    ⟨some 36, none, .mov (.t 0)⟩,
    ⟨some 37, none, .nilck (.t 36)⟩,
    ⟨some 38, none, .fld 0 (.t 37)⟩,
    ⟨some 39, none, .load none (.t 38)⟩,
    ⟨some 40, none, .mov (.t 1)⟩,
    ⟨some 41, none, .sl 1 (.t 39) (some (.t 40)) none none⟩,
    ⟨some 42, none, .nilck (.t 35)⟩,
    ⟨some 43, none, .fld 0 (.t 42)⟩,
    ⟨none, none, .store 1 (.t 43) (.t 41)⟩] none [5]
def r_erasureref26Reader_Take_7 : ACode := .reg [
    ⟨some 44, none, .mov (.t 5)⟩,
    ⟨some 4, none, .mov (.t 44)⟩] none [4]
def c_erasureref26Reader_Take : ACode :=
  (.seq r_erasureref26Reader_Take_0
  (.seq (.seq r_erasureref26Reader_Take_1
    (.cond (.t 19)
     r_erasureref26Reader_Take_2
     .skip))
   (.seq (.seq r_erasureref26Reader_Take_3
     (.cond (.t 26)
      (.seq r_erasureref26Reader_Take_4
       .ret)
      .skip))
    (.seq r_erasureref26Reader_Take_5
     (.seq r_erasureref26Reader_Take_6
      (.seq r_erasureref26Reader_Take_7
       .ret))))))
theorem fits_erasureref26Reader_Take : Fits Try.prog 133 45 c_erasureref26Reader_Take [.t 4] := ⟨⟨Try.f133, _, _, Try.func133, rfl, rfl, rfl, by decide, by kernel_rfl, by kernel_rfl⟩, Try.checked.mixed⟩
end Go.Proofs.Ytjieenfbfckafaa.Am
namespace Go.Proofs.Ytjieenfbfckafaa.Am
open Go
set_option linter.unusedVariables false
set_option linter.unusedSimpArgs false
set_option maxRecDepth 100000
def r_erasureref22SameVersions_0 : ACode := .reg [
    ⟨some 4, none, .mov (.k (.bool false))⟩] none [0, 1]
def r_erasureref22SameVersions_1 : ACode := .reg [
    ⟨some 6, none, .mov (.t 0)⟩,
    ⟨some 7, none, .len (.t 6)⟩,
    ⟨some 8, none, .mov (.t 1)⟩,
    ⟨some 9, none, .len (.t 8)⟩,
    ⟨some 10, none, .bin .neq (.t 7) (.t 9)⟩] none [0, 1, 10]
def r_erasureref22SameVersions_2 : ACode := .reg [
    ⟨some 4, none, .mov (.k (.bool false))⟩] none [4]
def r_erasureref22SameVersions_3 : ACode := .reg [
    ⟨some 5, none, .mov (.k (.int .i64 (0)))⟩] none [0, 1, 5]
def r_erasureref22SameVersions_4 : ACode := .reg [
    ⟨some 11, none, .mov (.t 5)⟩,
    ⟨some 12, none, .mov (.t 0)⟩,
    ⟨some 13, none, .len (.t 12)⟩,
    ⟨some 14, none, .bin .lss (.t 11) (.t 13)⟩] none [0, 1, 5, 14]
def r_erasureref22SameVersions_5 : ACode := .reg [
    ⟨some 17, none, .mov (.t 0)⟩,
    ⟨some 18, none, .mov (.t 5)⟩,
    ⟨some 19, none, .idxa 3 (.t 17) (.t 18)⟩,
    ⟨some 20, none, .load (some 3) (.t 19)⟩,
    ⟨some 21, none, .mov (.t 1)⟩,
    ⟨some 22, none, .mov (.t 5)⟩,
    ⟨some 23, none, .idxa 3 (.t 21) (.t 22)⟩,
    ⟨some 24, none, .load (some 3) (.t 23)⟩,
    ⟨some 25, none, .eqa true [(3, .ti .i64)] (.t 20) (.t 24)⟩] (some [0, 0, 3, 7, 0, 0, 48, 112, 255]) [0, 1, 5, 25]
def r_erasureref22SameVersions_6 : ACode := .reg [
    ⟨some 4, none, .mov (.k (.bool false))⟩] none [4]
def r_erasureref22SameVersions_7 : ACode := .reg [
    ⟨some 15, none, .mov (.t 5)⟩,
    ⟨some 16, none, .bin .add (.t 15) (.k (.int .i64 (1)))⟩,
    ⟨some 5, none, .mov (.t 16)⟩] none [0, 1, 5]
def r_erasureref22SameVersions_8 : ACode := .reg [
    ⟨some 4, none, .mov (.k (.bool true))⟩] none [4]
def c_erasureref22SameVersions : ACode :=
  (.seq r_erasureref22SameVersions_0
  (.seq (.seq r_erasureref22SameVersions_1
    (.cond (.t 10)
     (.seq r_erasureref22SameVersions_2
      .ret)
     .skip))
   (.seq (.seq r_erasureref22SameVersions_3
     (.block 0 (.loop (.seq (.seq r_erasureref22SameVersions_4
         (.cond (.t 14)
          .skip
          (.exit 0)))
        (.seq (.block 1 (.seq r_erasureref22SameVersions_5
           (.cond (.t 25)
            (.seq r_erasureref22SameVersions_6
             .ret)
            .skip)))
         r_erasureref22SameVersions_7)))))
    (.seq r_erasureref22SameVersions_8
     .ret))))
theorem fits_erasureref22SameVersions : Fits Try.prog 100 26 c_erasureref22SameVersions [.t 4] := ⟨⟨Try.f100, _, _, Try.func100, rfl, rfl, rfl, by decide, by kernel_rfl, by kernel_rfl⟩, Try.checked.mixed⟩
def r_erasureref22SameSources_0 : ACode := .reg [
    ⟨some 4, none, .mov (.k (.bool false))⟩] none [0, 1]
def r_erasureref22SameSources_1 : ACode := .reg [
    ⟨some 6, none, .mov (.t 0)⟩,
    ⟨some 7, none, .len (.t 6)⟩,
    ⟨some 8, none, .mov (.t 1)⟩,
    ⟨some 9, none, .len (.t 8)⟩,
    ⟨some 10, none, .bin .neq (.t 7) (.t 9)⟩] none [0, 1, 10]
def r_erasureref22SameSources_2 : ACode := .reg [
    ⟨some 4, none, .mov (.k (.bool false))⟩] none [4]
def r_erasureref22SameSources_3 : ACode := .reg [
    ⟨some 5, none, .mov (.k (.int .i64 (0)))⟩] none [0, 1, 5]
def r_erasureref22SameSources_4 : ACode := .reg [
    ⟨some 11, none, .mov (.t 5)⟩,
    ⟨some 12, none, .mov (.t 0)⟩,
    ⟨some 13, none, .len (.t 12)⟩,
    ⟨some 14, none, .bin .lss (.t 11) (.t 13)⟩] none [0, 1, 5, 14]
def r_erasureref22SameSources_5 : ACode := .reg [
    ⟨some 17, none, .mov (.t 0)⟩,
    ⟨some 18, none, .mov (.t 5)⟩,
    ⟨some 19, none, .idxa 2 (.t 17) (.t 18)⟩,
    ⟨some 20, none, .load (some 2) (.t 19)⟩,
    ⟨some 21, none, .mov (.t 1)⟩,
    ⟨some 22, none, .mov (.t 5)⟩,
    ⟨some 23, none, .idxa 2 (.t 21) (.t 22)⟩,
    ⟨some 24, none, .load (some 2) (.t 23)⟩,
    ⟨some 25, none, .eqa true [(2, .ti .i64)] (.t 20) (.t 24)⟩] (some [0, 0, 3, 7, 0, 0, 48, 112, 255]) [0, 1, 5, 25]
def r_erasureref22SameSources_6 : ACode := .reg [
    ⟨some 4, none, .mov (.k (.bool false))⟩] none [4]
def r_erasureref22SameSources_7 : ACode := .reg [
    ⟨some 15, none, .mov (.t 5)⟩,
    ⟨some 16, none, .bin .add (.t 15) (.k (.int .i64 (1)))⟩,
    ⟨some 5, none, .mov (.t 16)⟩] none [0, 1, 5]
def r_erasureref22SameSources_8 : ACode := .reg [
    ⟨some 4, none, .mov (.k (.bool true))⟩] none [4]
def c_erasureref22SameSources : ACode :=
  (.seq r_erasureref22SameSources_0
  (.seq (.seq r_erasureref22SameSources_1
    (.cond (.t 10)
     (.seq r_erasureref22SameSources_2
      .ret)
     .skip))
   (.seq (.seq r_erasureref22SameSources_3
     (.block 0 (.loop (.seq (.seq r_erasureref22SameSources_4
         (.cond (.t 14)
          .skip
          (.exit 0)))
        (.seq (.block 1 (.seq r_erasureref22SameSources_5
           (.cond (.t 25)
            (.seq r_erasureref22SameSources_6
             .ret)
            .skip)))
         r_erasureref22SameSources_7)))))
    (.seq r_erasureref22SameSources_8
     .ret))))
theorem fits_erasureref22SameSources : Fits Try.prog 101 26 c_erasureref22SameSources [.t 4] := ⟨⟨Try.f101, _, _, Try.func101, rfl, rfl, rfl, by decide, by kernel_rfl, by kernel_rfl⟩, Try.checked.mixed⟩
def r_erasureref22SameRow_0 : ACode := .reg [
    ⟨some 4, none, .mov (.k (.bool false))⟩] none [0, 1]
def r_erasureref22SameRow_1 : ACode := .reg [
    ⟨some 6, none, .mov (.t 0)⟩,
    ⟨some 7, none, .len (.t 6)⟩,
    ⟨some 8, none, .mov (.t 1)⟩,
    ⟨some 9, none, .len (.t 8)⟩,
    ⟨some 10, none, .bin .neq (.t 7) (.t 9)⟩] none [0, 1, 10]
def r_erasureref22SameRow_2 : ACode := .reg [
    ⟨some 4, none, .mov (.k (.bool false))⟩] none [4]
def r_erasureref22SameRow_3 : ACode := .reg [
    ⟨some 5, none, .mov (.k (.int .i64 (0)))⟩] none [0, 1, 5]
def r_erasureref22SameRow_4 : ACode := .reg [
    ⟨some 11, none, .mov (.t 5)⟩,
    ⟨some 12, none, .mov (.t 0)⟩,
    ⟨some 13, none, .len (.t 12)⟩,
    ⟨some 14, none, .bin .lss (.t 11) (.t 13)⟩] none [0, 1, 5, 14]
def r_erasureref22SameRow_5 : ACode := .reg [
    ⟨some 17, none, .mov (.t 0)⟩,
    ⟨some 18, none, .mov (.t 5)⟩,
    ⟨some 19, none, .idxa 3 (.t 17) (.t 18)⟩,
    ⟨some 20, none, .load (some 3) (.t 19)⟩,
    ⟨some 21, none, .mov (.t 1)⟩,
    ⟨some 22, none, .mov (.t 5)⟩,
    ⟨some 23, none, .idxa 3 (.t 21) (.t 22)⟩,
    ⟨some 24, none, .load (some 3) (.t 23)⟩,
    ⟨some 25, none, .eqa true [(2, .ti .i64), (1, .ts)] (.t 20) (.t 24)⟩] (some [0, 0, 3, 7, 0, 0, 48, 112, 255]) [0, 1, 5, 25]
def r_erasureref22SameRow_6 : ACode := .reg [
    ⟨some 4, none, .mov (.k (.bool false))⟩] none [4]
def r_erasureref22SameRow_7 : ACode := .reg [
    ⟨some 15, none, .mov (.t 5)⟩,
    ⟨some 16, none, .bin .add (.t 15) (.k (.int .i64 (1)))⟩,
    ⟨some 5, none, .mov (.t 16)⟩] none [0, 1, 5]
def r_erasureref22SameRow_8 : ACode := .reg [
    ⟨some 4, none, .mov (.k (.bool true))⟩] none [4]
def c_erasureref22SameRow : ACode :=
  (.seq r_erasureref22SameRow_0
  (.seq (.seq r_erasureref22SameRow_1
    (.cond (.t 10)
     (.seq r_erasureref22SameRow_2
      .ret)
     .skip))
   (.seq (.seq r_erasureref22SameRow_3
     (.block 0 (.loop (.seq (.seq r_erasureref22SameRow_4
         (.cond (.t 14)
          .skip
          (.exit 0)))
        (.seq (.block 1 (.seq r_erasureref22SameRow_5
           (.cond (.t 25)
            (.seq r_erasureref22SameRow_6
             .ret)
            .skip)))
         r_erasureref22SameRow_7)))))
    (.seq r_erasureref22SameRow_8
     .ret))))
theorem fits_erasureref22SameRow : Fits Try.prog 107 26 c_erasureref22SameRow [.t 4] := ⟨⟨Try.f107, _, _, Try.func107, rfl, rfl, rfl, by decide, by kernel_rfl, by kernel_rfl⟩, Try.checked.mixed⟩
def r_erasureref22SameBag_0 : ACode := .reg [
    ⟨some 4, none, .mov (.k (.bool false))⟩] none [0, 1]
def r_erasureref22SameBag_1 : ACode := .reg [
    ⟨some 6, none, .mov (.t 0)⟩,
    ⟨some 7, none, .len (.t 6)⟩,
    ⟨some 8, none, .mov (.t 1)⟩,
    ⟨some 9, none, .len (.t 8)⟩,
    ⟨some 10, none, .bin .neq (.t 7) (.t 9)⟩] none [0, 1, 10]
def r_erasureref22SameBag_2 : ACode := .reg [
    ⟨some 4, none, .mov (.k (.bool false))⟩] none [4]
def r_erasureref22SameBag_3 : ACode := .reg [
    ⟨some 5, none, .mov (.k (.int .i64 (0)))⟩] none [0, 1, 5]
def r_erasureref22SameBag_4 : ACode := .reg [
    ⟨some 11, none, .mov (.t 5)⟩,
    ⟨some 12, none, .mov (.t 0)⟩,
    ⟨some 13, none, .len (.t 12)⟩,
    ⟨some 14, none, .bin .lss (.t 11) (.t 13)⟩] none [0, 1, 5, 14]
def r_erasureref22SameBag_5 : ACode := .reg [
    ⟨some 17, none, .mov (.t 0)⟩,
    ⟨some 18, none, .mov (.t 5)⟩,
    ⟨some 19, none, .idxa 2 (.t 17) (.t 18)⟩,
    ⟨some 20, none, .fld 0 (.t 19)⟩,
    ⟨some 21, none, .load none (.t 20)⟩,
    ⟨some 22, none, .mov (.t 1)⟩,
    ⟨some 23, none, .mov (.t 5)⟩,
    ⟨some 24, none, .idxa 2 (.t 22) (.t 23)⟩,
    ⟨some 25, none, .fld 0 (.t 24)⟩,
    ⟨some 26, none, .load none (.t 25)⟩,
    ⟨some 27, none, .call 107 [(.t 21), (.t 26)]⟩,
    ⟨some 28, none, .un .not (.t 27)⟩,
    ⟨some 29, none, .mov (.t 28)⟩,
    ⟨some 30, (some (29, false)), .mov (.t 0)⟩,
    ⟨some 31, (some (29, false)), .mov (.t 5)⟩,
    ⟨some 32, (some (29, false)), .idxa 2 (.t 30) (.t 31)⟩,
    ⟨some 33, (some (29, false)), .fld 1 (.t 32)⟩,
    ⟨some 34, (some (29, false)), .load none (.t 33)⟩,
    ⟨some 35, (some (29, false)), .mov (.t 1)⟩,
    ⟨some 36, (some (29, false)), .mov (.t 5)⟩,
    ⟨some 37, (some (29, false)), .idxa 2 (.t 35) (.t 36)⟩,
    ⟨some 38, (some (29, false)), .fld 1 (.t 37)⟩,
    ⟨some 39, (some (29, false)), .load none (.t 38)⟩,
    ⟨some 40, (some (29, false)), .bin .neq (.t 34) (.t 39)⟩,
    ⟨some 41, none, .pick (.t 29) (.k (.bool true)) (.t 40)⟩] (some [0, 0, 3, 7, 15, 0, 0, 96, 224, 480, 1023, 2047, 4095, 8191, 8191, 32767, 65535, 131071, 8191, 8191, 794623, 1843199, 3940351, 8388607, 16777215]) [0, 1, 5, 41]
def r_erasureref22SameBag_6 : ACode := .reg [
    ⟨some 4, none, .mov (.k (.bool false))⟩] none [4]
def r_erasureref22SameBag_7 : ACode := .reg [
    ⟨some 15, none, .mov (.t 5)⟩,
    ⟨some 16, none, .bin .add (.t 15) (.k (.int .i64 (1)))⟩,
    ⟨some 5, none, .mov (.t 16)⟩] none [0, 1, 5]
def r_erasureref22SameBag_8 : ACode := .reg [
    ⟨some 4, none, .mov (.k (.bool true))⟩] none [4]
def c_erasureref22SameBag : ACode :=
  (.seq r_erasureref22SameBag_0
  (.seq (.seq r_erasureref22SameBag_1
    (.cond (.t 10)
     (.seq r_erasureref22SameBag_2
      .ret)
     .skip))
   (.seq (.seq r_erasureref22SameBag_3
     (.block 0 (.loop (.seq (.seq r_erasureref22SameBag_4
         (.cond (.t 14)
          .skip
          (.exit 0)))
        (.seq (.block 1 (.seq r_erasureref22SameBag_5
           (.cond (.t 41)
            (.seq r_erasureref22SameBag_6
             .ret)
            .skip)))
         r_erasureref22SameBag_7)))))
    (.seq r_erasureref22SameBag_8
     .ret))))
theorem fits_erasureref22SameBag : Fits Try.prog 109 42 c_erasureref22SameBag [.t 4] := ⟨⟨Try.f109, _, _, Try.func109, rfl, rfl, rfl, by decide, by kernel_rfl, by kernel_rfl⟩, Try.checked.mixed⟩
def r_erasureref22SameRecord_0 : ACode := .reg [
    ⟨some 2, none, .box 95 (.t 0)⟩,
    ⟨some 3, none, .box 95 (.t 1)⟩,
    ⟨some 4, none, .mov (.k (.bool false))⟩] none [2, 3]
def r_erasureref22SameRecord_1 : ACode := .reg [
    ⟨some 5, none, .fld 0 (.t 2)⟩,
    ⟨some 6, none, .load none (.t 5)⟩,
    ⟨some 7, none, .fld 0 (.t 3)⟩,
    ⟨some 8, none, .load none (.t 7)⟩,
    ⟨some 9, none, .call 107 [(.t 6), (.t 8)]⟩,
    ⟨some 10, none, .mov (.t 9)⟩,
    ⟨some 11, (some (10, true)), .fld 1 (.t 2)⟩,
    ⟨some 12, (some (10, true)), .load none (.t 11)⟩,
    ⟨some 13, (some (10, true)), .fld 1 (.t 3)⟩,
    ⟨some 14, (some (10, true)), .load none (.t 13)⟩,
    ⟨some 15, (some (10, true)), .call 132 [(.t 12), (.t 14)]⟩,
    ⟨some 16, none, .pick (.t 10) (.t 15) (.k (.bool false))⟩,
    ⟨some 17, none, .mov (.t 16)⟩,
    ⟨some 18, (some (17, true)), .fld 2 (.t 2)⟩,
    ⟨some 19, (some (17, true)), .load none (.t 18)⟩,
    ⟨some 20, (some (17, true)), .fld 2 (.t 3)⟩,
    ⟨some 21, (some (17, true)), .load none (.t 20)⟩,
    ⟨some 22, (some (17, true)), .bin .eql (.t 19) (.t 21)⟩,
    ⟨some 23, none, .pick (.t 17) (.t 22) (.k (.bool false))⟩,
    ⟨some 4, none, .mov (.t 23)⟩] none [4]
def c_erasureref22SameRecord : ACode :=
  (.seq r_erasureref22SameRecord_0
  (.seq r_erasureref22SameRecord_1
   .ret))
theorem fits_erasureref22SameRecord : Fits Try.prog 112 24 c_erasureref22SameRecord [.t 4] := ⟨⟨Try.f112, _, _, Try.func112, rfl, rfl, rfl, by decide, by kernel_rfl, by kernel_rfl⟩, Try.checked.mixed⟩
def r_erasureref22SameInts_0 : ACode := .reg [
    ⟨some 4, none, .mov (.k (.bool false))⟩] none [0, 1]
def r_erasureref22SameInts_1 : ACode := .reg [
    ⟨some 6, none, .mov (.t 0)⟩,
    ⟨some 7, none, .len (.t 6)⟩,
    ⟨some 8, none, .mov (.t 1)⟩,
    ⟨some 9, none, .len (.t 8)⟩,
    ⟨some 10, none, .bin .neq (.t 7) (.t 9)⟩] none [0, 1, 10]
def r_erasureref22SameInts_2 : ACode := .reg [
    ⟨some 4, none, .mov (.k (.bool false))⟩] none [4]
def r_erasureref22SameInts_3 : ACode := .reg [
    ⟨some 5, none, .mov (.k (.int .i64 (0)))⟩] none [0, 1, 5]
def r_erasureref22SameInts_4 : ACode := .reg [
    ⟨some 11, none, .mov (.t 5)⟩,
    ⟨some 12, none, .mov (.t 0)⟩,
    ⟨some 13, none, .len (.t 12)⟩,
    ⟨some 14, none, .bin .lss (.t 11) (.t 13)⟩] none [0, 1, 5, 14]
def r_erasureref22SameInts_5 : ACode := .reg [
    ⟨some 17, none, .mov (.t 0)⟩,
    ⟨some 18, none, .mov (.t 5)⟩,
    ⟨some 19, none, .idxa 1 (.t 17) (.t 18)⟩,
    ⟨some 20, none, .load none (.t 19)⟩,
    ⟨some 21, none, .mov (.t 1)⟩,
    ⟨some 22, none, .mov (.t 5)⟩,
    ⟨some 23, none, .idxa 1 (.t 21) (.t 22)⟩,
    ⟨some 24, none, .load none (.t 23)⟩,
    ⟨some 25, none, .bin .neq (.t 20) (.t 24)⟩] (some [0, 0, 3, 7, 0, 0, 48, 112, 255]) [0, 1, 5, 25]
def r_erasureref22SameInts_6 : ACode := .reg [
    ⟨some 4, none, .mov (.k (.bool false))⟩] none [4]
def r_erasureref22SameInts_7 : ACode := .reg [
    ⟨some 15, none, .mov (.t 5)⟩,
    ⟨some 16, none, .bin .add (.t 15) (.k (.int .i64 (1)))⟩,
    ⟨some 5, none, .mov (.t 16)⟩] none [0, 1, 5]
def r_erasureref22SameInts_8 : ACode := .reg [
    ⟨some 4, none, .mov (.k (.bool true))⟩] none [4]
def c_erasureref22SameInts : ACode :=
  (.seq r_erasureref22SameInts_0
  (.seq (.seq r_erasureref22SameInts_1
    (.cond (.t 10)
     (.seq r_erasureref22SameInts_2
      .ret)
     .skip))
   (.seq (.seq r_erasureref22SameInts_3
     (.block 0 (.loop (.seq (.seq r_erasureref22SameInts_4
         (.cond (.t 14)
          .skip
          (.exit 0)))
        (.seq (.block 1 (.seq r_erasureref22SameInts_5
           (.cond (.t 25)
            (.seq r_erasureref22SameInts_6
             .ret)
            .skip)))
         r_erasureref22SameInts_7)))))
    (.seq r_erasureref22SameInts_8
     .ret))))
theorem fits_erasureref22SameInts : Fits Try.prog 132 26 c_erasureref22SameInts [.t 4] := ⟨⟨Try.f132, _, _, Try.func132, rfl, rfl, rfl, by decide, by kernel_rfl, by kernel_rfl⟩, Try.checked.mixed⟩
end Go.Proofs.Ytjieenfbfckafaa.Am
namespace Go.Proofs.Ytjieenfbfckafaa.Am
open Go
set_option linter.unusedVariables false
set_option linter.unusedSimpArgs false
set_option maxRecDepth 100000
set_option maxHeartbeats 1000000
/-- codec.cloned -/
theorem cloned_meets (b : List UInt8) (h : b.length ≤ 70368744177664) : Meets Try.prog F_codec_cloned ⟨[.c (bs b)], [], 0, buf 0 b, [(0, bob b)], 1⟩ := by
  refine fits_codec_cloned.meets rfl (by simp) fun Q hQ => ?_
  (conv => whnf); repeat' (first | (refine And.intro ?_ ?_; (focus (exact zq3)); (conv => whnf)) | (refine onB_intro (fun hb => ?_) (fun hb => ?_) <;> (try simp only [decide_eq_true_eq, decide_eq_false_iff_not, Bool.not_eq_true', Bool.not_eq_false', Bool.and_eq_true, Bool.and_eq_false_iff, Int.not_le, Int.not_lt, bsz, ByteArray.toList_eq, beq_iff_eq, beq_eq_false_iff_ne, ne_eq] at hb) <;> (try (exfalso; omega)) <;> (try (exfalso; first | contradiction | (simp [ByteArray.toList_eq] at hb; done))) <;> (conv => whnf)) | (refine (hQ _ _ _ ?_).1; (conv => whnf)) | (refine ⟨_, rfl, ?_⟩; (conv => whnf)) | (refine ⟨_, mp_cut _ _ _, ?_⟩; (conv => whnf)) | (refine ⟨_, dbs_cut _ _ _, ?_⟩; (conv => whnf)) | (refine ⟨[_], rfl, ?_⟩; (conv => whnf)) | (refine ⟨[_, _], rfl, ?_⟩; (conv => whnf)) | (refine ⟨[_, _, _], rfl, ?_⟩; (conv => whnf)) | (refine ⟨[_, _, _, _], rfl, ?_⟩; (conv => whnf)) | fail)
  exact retn [(0, 1)] rfl rfl (sub_ref (by simp)) ⟨hp_pure rfl (by simp), trivial⟩
theorem zz_neg {n : Int} (hn : inI64 n) (h : n < 0) : bits .xor .u64 (if IntKind.u64.signed = true then -1 else IntKind.u64.max) (IntKind.u64.wrap (IntKind.u64.wrap n * 2 ^ min (Int.toNat 1) IntKind.u64.bits)) = (zz n : Int) := by
  obtain ⟨h1, h2⟩ := hn
  have e : (if IntKind.u64.signed = true then -1 else IntKind.u64.max) = (18446744073709551615 : Int) := by decide
  have e2 : IntKind.u64.wrap (IntKind.u64.wrap n * 2 ^ min (Int.toNat 1) IntKind.u64.bits) = 2 * n + 18446744073709551616 := by
    rw [show min (Int.toNat 1) IntKind.u64.bits = 1 by decide, wrap_u64, wrap_u64]; omega
  rw [e, e2, xor_u64 (by omega) (by omega)]
  unfold zz; rw [if_pos h]; omega
theorem zz_pos {n : Int} (hn : inI64 n) (h : 0 ≤ n) : IntKind.u64.wrap (IntKind.u64.wrap n * 2 ^ min (Int.toNat 1) IntKind.u64.bits) = (zz n : Int) := by
  obtain ⟨h1, h2⟩ := hn
  rw [show min (Int.toNat 1) IntKind.u64.bits = 1 by decide, wrap_u64, wrap_u64]
  unfold zz; rw [if_neg (by omega)]; omega
theorem byte_more {u : Nat} : bits .or .u8 (IntKind.u8.wrap (u : Int)) 128 = ((UInt8.ofNat (u % 128 + 128)).toNat : Int) := by
  rw [IntKind.wrap_u8, or_128 (by omega) (by omega)]
  simp; omega
theorem byte_last {u : Nat} (h : u < 128) : IntKind.u8.wrap (u : Int) = ((UInt8.ofNat u).toNat : Int) := by
  rw [IntKind.wrap_u8]; simp
theorem shr_7 {u : Nat} : Int.fdiv (u : Int) (2 ^ min (Int.toNat 7) IntKind.u64.bits) = ((u / 128 : Nat) : Int) := by
  rw [show (2 : Int) ^ min (Int.toNat 7) IntKind.u64.bits = 128 by decide, Int.fdiv_eq_ediv_of_nonneg _ (by decide)]; omega
/-- codec.putInt -/
theorem putInt_meets (b : List UInt8) (n : Int) (hn : inI64 n) (h : b.length ≤ 70368744177664) : Meets Try.prog F_codec_putInt ⟨[buf 0 b, vi n], [(0, bob b)], 1, buf 1 (b ++ encInt n), [(1, bob (b ++ encInt n))], 2⟩ := by
  refine fits_codec_putInt.meets rfl (by simp) fun Q hQ => ?_
  have hlen := encInt_len hn
  have hlt := zz_lt hn
  (conv => whnf); repeat' (first | (refine And.intro ?_ ?_; (focus (exact zq3)); (conv => whnf)) | (refine onB_intro (fun hb => ?_) (fun hb => ?_) <;> (try simp only [decide_eq_true_eq, decide_eq_false_iff_not, Bool.not_eq_true', Bool.not_eq_false', Bool.and_eq_true, Bool.and_eq_false_iff, Int.not_le, Int.not_lt, bsz, ByteArray.toList_eq, beq_iff_eq, beq_eq_false_iff_ne, ne_eq] at hb) <;> (try (exfalso; omega)) <;> (try (exfalso; first | contradiction | (simp [ByteArray.toList_eq] at hb; done))) <;> (conv => whnf)) | (refine (hQ _ _ _ ?_).1; (conv => whnf)) | (refine ⟨_, rfl, ?_⟩; (conv => whnf)) | (refine ⟨_, mp_cut _ _ _, ?_⟩; (conv => whnf)) | (refine ⟨_, dbs_cut _ _ _, ?_⟩; (conv => whnf)) | (refine ⟨[_], rfl, ?_⟩; (conv => whnf)) | (refine ⟨[_, _], rfl, ?_⟩; (conv => whnf)) | (refine ⟨[_, _, _], rfl, ?_⟩; (conv => whnf)) | (refine ⟨[_, _, _, _], rfl, ?_⟩; (conv => whnf)) | fail)
  all_goals
    refine loop_fam (ι := Nat × List UInt8) (fun i => ⟨[(0, buf 1 i.2), (5, .c (.p (.v (.int .u64 i.1))))], [(1, bob i.2)], 2⟩) (fun i => i.1) (fun i => i.1 < 18446744073709551616 ∧ i.2 ++ encU i.1 = b ++ encInt n) (zz n, b)
      ((Wk.move 0 _ rfl).trans (wkn [(1, 1)] rfl rfl ⟨Sub.refl _, sub_int (by first | exact zz_neg hn hb | exact zz_pos hn hb), trivial⟩ ⟨hp_pure rfl rfl, trivial⟩)) ⟨hlt, rfl⟩ ?_
  all_goals
    clear hb
    rintro ⟨u, bb⟩ ⟨hu, he⟩ K hK
    simp only at hu he
    have hl2 : bb.length + (encU u).length = b.length + (encInt n).length := by rw [← List.length_append, he, List.length_append]
    rcases Nat.lt_or_ge u 128 with hc | hc
    · (conv => whnf); repeat' (first | (refine And.intro ?_ ?_; (focus (exact zq3)); (conv => whnf)) | (refine onB_intro (fun hb => ?_) (fun hb => ?_) <;> (try simp only [decide_eq_true_eq, decide_eq_false_iff_not, Bool.not_eq_true', Bool.not_eq_false', Bool.and_eq_true, Bool.and_eq_false_iff, Int.not_le, Int.not_lt, bsz, ByteArray.toList_eq, beq_iff_eq, beq_eq_false_iff_ne, ne_eq] at hb) <;> (try (exfalso; omega)) <;> (try (exfalso; first | contradiction | (simp [ByteArray.toList_eq] at hb; done))) <;> (conv => whnf)) | (refine (hQ _ _ _ ?_).1; (conv => whnf)) | (refine ⟨_, rfl, ?_⟩; (conv => whnf)) | (refine ⟨_, mp_cut _ _ _, ?_⟩; (conv => whnf)) | (refine ⟨_, dbs_cut _ _ _, ?_⟩; (conv => whnf)) | (refine ⟨[_], rfl, ?_⟩; (conv => whnf)) | (refine ⟨[_, _], rfl, ?_⟩; (conv => whnf)) | (refine ⟨[_, _, _], rfl, ?_⟩; (conv => whnf)) | (refine ⟨[_, _, _, _], rfl, ?_⟩; (conv => whnf)) | fail)
      rw [encU_lt hc] at he
      exact retn [(1, 2)] rfl rfl (sub_ref (by rw [← he]; simp)) ⟨hp_pure rfl (by rw [← he]; exact dbs_snoc (byte_last hc)), trivial⟩
    · (conv => whnf); repeat' (first | (refine And.intro ?_ ?_; (focus (exact zq3)); (conv => whnf)) | (refine onB_intro (fun hb => ?_) (fun hb => ?_) <;> (try simp only [decide_eq_true_eq, decide_eq_false_iff_not, Bool.not_eq_true', Bool.not_eq_false', Bool.and_eq_true, Bool.and_eq_false_iff, Int.not_le, Int.not_lt, bsz, ByteArray.toList_eq, beq_iff_eq, beq_eq_false_iff_ne, ne_eq] at hb) <;> (try (exfalso; omega)) <;> (try (exfalso; first | contradiction | (simp [ByteArray.toList_eq] at hb; done))) <;> (conv => whnf)) | (refine (hQ _ _ _ ?_).1; (conv => whnf)) | (refine ⟨_, rfl, ?_⟩; (conv => whnf)) | (refine ⟨_, mp_cut _ _ _, ?_⟩; (conv => whnf)) | (refine ⟨_, dbs_cut _ _ _, ?_⟩; (conv => whnf)) | (refine ⟨[_], rfl, ?_⟩; (conv => whnf)) | (refine ⟨[_, _], rfl, ?_⟩; (conv => whnf)) | (refine ⟨[_, _, _], rfl, ?_⟩; (conv => whnf)) | (refine ⟨[_, _, _, _], rfl, ?_⟩; (conv => whnf)) | fail)
      rw [encU_ge (by omega)] at he
      refine hK _ _ _ (u / 128, bb ++ [UInt8.ofNat (u % 128 + 128)]) ⟨by dsimp only; omega, by dsimp only; rw [List.append_assoc]; exact he⟩ (by dsimp only; omega) (wkn [(1, 2)] rfl rfl ⟨sub_ref (by simp), sub_int shr_7, trivial⟩ ⟨hp_pure rfl (dbs_snoc byte_more), trivial⟩)
abbrev pvals (l : List Val) : List PV := l.flatMap Val.pv
abbrev dvals (l : List Val) : DV := .p (.val l.length (pvals l))
theorem Val.len (v : Val) : v.pv.length = 3 := rfl
end Go.Proofs.Ytjieenfbfckafaa.Am
namespace Go.Proofs.Ytjieenfbfckafaa.Am
open Go
set_option linter.unusedVariables false
set_option linter.unusedSimpArgs false
set_option maxRecDepth 100000
set_option maxHeartbeats 1000000
abbrev dints (l : List Int) : DV := .p (.val l.length (l.map pi))
def encInts (l : List Int) : List UInt8 := l.flatMap encInt
theorem elem_map {α : Type} {f : α → PV} {l : List α} {k : Nat} {a : α} (h : l[k]? = some a) : ((l.map f).drop (Int.toNat (k : Int) * 1)).take 1 = [f a] := by
  rw [Int.toNat_natCast, Nat.mul_one]
  have hk := (List.getElem?_eq_some_iff.1 h)
  obtain ⟨hk, rfl⟩ := hk
  rw [List.drop_eq_getElem_cons (by simpa using hk)]
  simp
structure Ver where
  t : Int
  c : Int
  s : Int
abbrev Ver.pv (v : Ver) : List PV := [pi v.t, pi v.c, pi v.s]
abbrev Ver.enc (v : Ver) : List DV := [di v.t, di v.c, di v.s]
theorem Ver.len (v : Ver) : v.pv.length = 3 := rfl
def Ver.ok (v : Ver) : Prop := inI64 v.t ∧ inI64 v.c ∧ inI64 v.s
abbrev dvers (l : List Ver) : DV := .p (.val l.length (l.flatMap Ver.pv))
def encVer (v : Ver) : List UInt8 := encInts [v.t, v.s, v.c]
def encVers (l : List Ver) : List UInt8 := encInt l.length ++ l.flatMap encVer
structure Sou where
  t : Int
  s : Int
abbrev Sou.pv (v : Sou) : List PV := [pi v.t, pi v.s]
abbrev Sou.enc (v : Sou) : List DV := [di v.t, di v.s]
theorem Sou.len (v : Sou) : v.pv.length = 2 := rfl
def Sou.ok (v : Sou) : Prop := inI64 v.t ∧ inI64 v.s
abbrev dsous (l : List Sou) : DV := .p (.val l.length (l.flatMap Sou.pv))
def encSou (v : Sou) : List UInt8 := encInts [v.t, v.s]
def encSous (l : List Sou) : List UInt8 := encInt l.length ++ l.flatMap encSou
structure Ident where
  ns : List UInt8
  v : Val
abbrev Ident.pv (i : Ident) : List PV := [pst i.ns, pi i.v.k, pi i.v.i, pst i.v.t]
abbrev Ident.enc (i : Ident) : List DV := [.p (pst i.ns), di i.v.k, di i.v.i, .p (pst i.v.t)]
def encIdent (i : Ident) : List UInt8 := encText i.ns ++ encVal i.v
structure Link where
  a : Ident
  b : Ident
  seq : Int
  rev : Bool
abbrev Link.pv (l : Link) : List PV := [pst l.a.ns, pi l.a.v.k, pi l.a.v.i, pst l.a.v.t, pst l.b.ns, pi l.b.v.k, pi l.b.v.i, pst l.b.v.t, pi l.seq, .v (.bool l.rev)]
abbrev Link.enc (l : Link) : List DV := [.p (pst l.a.ns), di l.a.v.k, di l.a.v.i, .p (pst l.a.v.t), .p (pst l.b.ns), di l.b.v.k, di l.b.v.i, .p (pst l.b.v.t), di l.seq, .p (.v (.bool l.rev))]
def encLink (l : Link) : List UInt8 := encIdent l.a ++ encIdent l.b ++ encInts [l.seq, if l.rev then 1 else 0]
structure Hold where
  t : Int
  c : Int
  who : Ident
  seq : Int
  fr : Int
  to : Int
abbrev Hold.pv (h : Hold) : List PV := [pi h.t, pi h.c, pst h.who.ns, pi h.who.v.k, pi h.who.v.i, pst h.who.v.t, pi h.seq, pi h.fr, pi h.to]
abbrev Hold.enc (h : Hold) : List DV := [di h.t, di h.c, .p (pst h.who.ns), di h.who.v.k, di h.who.v.i, .p (pst h.who.v.t), di h.seq, di h.fr, di h.to]
def encHold (h : Hold) : List UInt8 := encInts [h.t, h.c] ++ encIdent h.who ++ encInts [h.seq, h.fr, h.to]
structure Req where
  k : Int
  who : Ident
  seq : Int
  day : Int
  dl : Int
abbrev Req.pv (q : Req) : List PV := [pi q.k, pst q.who.ns, pi q.who.v.k, pi q.who.v.i, pst q.who.v.t, pi q.seq, pi q.day, pi q.dl]
abbrev Req.enc (q : Req) : List DV := [di q.k, .p (pst q.who.ns), di q.who.v.k, di q.who.v.i, .p (pst q.who.v.t), di q.seq, di q.day, di q.dl]
def encReq (q : Req) : List UInt8 := encInts [q.k] ++ encIdent q.who ++ encInts [q.seq, q.day, q.dl]
def Link.ok (l : Link) : Prop := (l.a.ns.length ≤ 10000000000 ∧ l.b.ns.length ≤ 10000000000) ∧ inI64 l.seq
def Hold.ok (h : Hold) : Prop := h.who.ns.length ≤ 10000000000 ∧ inI64 h.t ∧ inI64 h.c ∧ inI64 h.seq ∧ inI64 h.fr ∧ inI64 h.to
def Req.ok (q : Req) : Prop := q.who.ns.length ≤ 10000000000 ∧ inI64 q.k ∧ inI64 q.seq ∧ inI64 q.day ∧ inI64 q.dl
end Go.Proofs.Ytjieenfbfckafaa.Am
namespace Go.Proofs.Ytjieenfbfckafaa.Am
open Go
set_option linter.unusedVariables false
set_option linter.unusedSimpArgs false
set_option maxRecDepth 100000
set_option maxHeartbeats 1000000
/-- codec.AppendInt -/
theorem aAppendInt_meets (b : List UInt8) (n : Int) (hn : inI64 n) (h : b.length ≤ 10000000000) : Meets Try.prog F_codec_AppendInt ⟨[.c (bs b), vi n], [], 0, .c (bs (b ++ encInt n)), [], 0⟩ := by
  refine Meets.frozenB ?_
  refine fits_codec_AppendInt.meets rfl (by simp) fun Q hQ => ?_
  (conv => whnf); repeat' (first | (refine And.intro ?_ ?_; (focus (exact zq3)); (conv => whnf)) | (refine onB_intro (fun hb => ?_) (fun hb => ?_) <;> (try simp only [decide_eq_true_eq, decide_eq_false_iff_not, Bool.not_eq_true', Bool.not_eq_false', Bool.and_eq_true, Bool.and_eq_false_iff, Int.not_le, Int.not_lt, bsz, ByteArray.toList_eq, beq_iff_eq, beq_eq_false_iff_ne, ne_eq] at hb) <;> (try (exfalso; omega)) <;> (try (exfalso; first | contradiction | (simp [ByteArray.toList_eq] at hb; done))) <;> (conv => whnf)) | (refine (hQ _ _ _ ?_).1; (conv => whnf)) | (refine ⟨_, rfl, ?_⟩; (conv => whnf)) | (refine ⟨_, mp_cut _ _ _, ?_⟩; (conv => whnf)) | (refine ⟨_, dbs_cut _ _ _, ?_⟩; (conv => whnf)) | (refine ⟨[_], rfl, ?_⟩; (conv => whnf)) | (refine ⟨[_, _], rfl, ?_⟩; (conv => whnf)) | (refine ⟨[_, _, _], rfl, ?_⟩; (conv => whnf)) | (refine ⟨[_, _, _, _], rfl, ?_⟩; (conv => whnf)) | (refine call_new (cloned_meets b (by omega)) (fun F => by first | exact rfl | exact bob_ren F _ | exact ob_ren F _ _) ?_ ?_; (focus (exact zq0)); (conv => whnf)) | (apply call_buf (putInt_meets b n hn (by omega)) (fun F => by first | exact rfl | exact bob_ren F _ | exact ob_ren F _ _) (fun F => by first | exact rfl | exact bob_ren F _ | exact ob_ren F _ _); (focus (exact zq0)); (focus (exact zq2)); (conv => whnf)) | fail)
  all_goals (exact ret_new rfl rfl (by first | rfl | exact congrArg List.length (by (first | rfl | (simp_all [encInt]; done) | (simp [encInt]; done))) | (simp [bsz, encInt]; omega) | (simp_all [bsz, encInt]; done) | (simp_all [bsz, encInt]; omega)) (by first | rfl | exact congrArg dbs (by (first | rfl | (simp_all [encInt]; done) | (simp [encInt]; done))) | exact (dbs_app _ _ _ rfl).trans (congrArg dbs (by (first | rfl | (simp_all [encInt]; done) | (simp [encInt]; done)))) | exact (dbs_appo _ _ _ _ rfl rfl).trans (congrArg dbs (by (first | rfl | (simp_all [encInt]; done) | (simp [encInt]; done)))) | (simp only [bob, ← List.length_append, dbs_appo', dbs_app', bsz]; exact congrArg dbs (by (first | rfl | (simp_all [encInt]; done) | (simp [encInt]; done))))))
structure Ent where
  row : List Val
  cnt : Int
abbrev Ent.pv (e : Ent) : List PV := [.val e.row.length (pvals e.row), pi e.cnt]
abbrev dents (l : List Ent) : DV := .p (.val l.length (l.flatMap Ent.pv))
theorem Ent.len (e : Ent) : e.pv.length = 2 := rfl
def Ent.ok (e : Ent) : Prop := e.row.length ≤ 1000 ∧ inI64 e.cnt
structure Chg where
  k : Int
  seq : Int
  day : Int
  t : Int
  row : List Val
  key : Val
  col : Int
  val : Val
abbrev Chg.pv (c : Chg) : List PV := [pi c.k, pi c.seq, pi c.day, pi c.t, .val c.row.length (pvals c.row), pi c.key.k, pi c.key.i, pst c.key.t, pi c.col, pi c.val.k, pi c.val.i, pst c.val.t]
abbrev Chg.enc (c : Chg) : List DV := [di c.k, di c.seq, di c.day, di c.t, dvals c.row, di c.key.k, di c.key.i, .p (pst c.key.t), di c.col, di c.val.k, di c.val.i, .p (pst c.val.t)]
def Chg.ok (c : Chg) : Prop := c.row.length ≤ 1000 ∧ inI64 c.k ∧ inI64 c.seq ∧ inI64 c.day ∧ inI64 c.t ∧ inI64 c.col
structure Recd where
  row : List Val
  seq : List Int
  day : Int
abbrev Recd.pv (r : Recd) : List PV := [.val r.row.length (pvals r.row), .val r.seq.length (r.seq.map pi), pi r.day]
abbrev Recd.enc (r : Recd) : List DV := [dvals r.row, dints r.seq, di r.day]
def Recd.ok (r : Recd) : Prop := (r.row.length ≤ 1000 ∧ r.seq.length ≤ 1000) ∧ inI64 r.day ∧ ∀ n ∈ r.seq, inI64 n
structure LE where
  k : Int
  day : Int
  plan : Int
  step : Int
  req : Req
  link : Link
  hold : Hold
  vers : List Ver
  sous : List Sou
  root : List UInt8
abbrev LE.pv (e : LE) : List PV := pi e.k :: pi e.day :: pi e.plan :: pi e.step :: pi e.req.k :: pst e.req.who.ns :: pi e.req.who.v.k :: pi e.req.who.v.i :: pst e.req.who.v.t :: pi e.req.seq :: pi e.req.day :: pi e.req.dl :: pst e.link.a.ns :: pi e.link.a.v.k :: pi e.link.a.v.i :: pst e.link.a.v.t :: pst e.link.b.ns :: pi e.link.b.v.k :: pi e.link.b.v.i :: pst e.link.b.v.t :: pi e.link.seq :: .v (.bool e.link.rev) :: pi e.hold.t :: pi e.hold.c :: pst e.hold.who.ns :: pi e.hold.who.v.k :: pi e.hold.who.v.i :: pst e.hold.who.v.t :: pi e.hold.seq :: pi e.hold.fr :: pi e.hold.to :: .val e.vers.length (e.vers.flatMap Ver.pv) :: .val e.sous.length (e.sous.flatMap Sou.pv) :: pb e.root
abbrev LE.enc (e : LE) : List DV := di e.k :: di e.day :: di e.plan :: di e.step :: di e.req.k :: .p (pst e.req.who.ns) :: di e.req.who.v.k :: di e.req.who.v.i :: .p (pst e.req.who.v.t) :: di e.req.seq :: di e.req.day :: di e.req.dl :: .p (pst e.link.a.ns) :: di e.link.a.v.k :: di e.link.a.v.i :: .p (pst e.link.a.v.t) :: .p (pst e.link.b.ns) :: di e.link.b.v.k :: di e.link.b.v.i :: .p (pst e.link.b.v.t) :: di e.link.seq :: .p (.v (.bool e.link.rev)) :: di e.hold.t :: di e.hold.c :: .p (pst e.hold.who.ns) :: di e.hold.who.v.k :: di e.hold.who.v.i :: .p (pst e.hold.who.v.t) :: di e.hold.seq :: di e.hold.fr :: di e.hold.to :: dvers e.vers :: dsous e.sous :: dbs e.root
structure LE.ok (e : LE) : Prop where
  k : inI64 e.k
  day : inI64 e.day
  plan : inI64 e.plan
  step : inI64 e.step
  req : e.req.ok
  link : e.link.ok
  hold : e.hold.ok
  vers : ∀ v ∈ e.vers, v.ok
  sous : ∀ v ∈ e.sous, v.ok
  vl : e.vers.length ≤ 1000
  sl : e.sous.length ≤ 1000
  root : e.root.length = 32
def encLE (e : LE) : List UInt8 := encInts [e.k, e.day, e.plan, e.step] ++
  (if e.k = 1 then encReq e.req else if e.k = 2 then encVers e.vers ++ encSous e.sous else if e.k = 4 then e.root else if e.k = 6 then encLink e.link else if e.k = 7 then encHold e.hold else [])
theorem take_snoc {d : List UInt8} {k : Nat} {c : UInt8} (h : d[k]? = some c) : d.take (k + 1) = d.take k ++ [c] := by rw [List.take_add_one, h]; rfl
end Go.Proofs.Ytjieenfbfckafaa.Am
namespace Go.Proofs.Ytjieenfbfckafaa.Am
open Go
set_option linter.unusedVariables false
set_option linter.unusedSimpArgs false
set_option maxRecDepth 100000
set_option maxHeartbeats 1000000
/-- What is left to be read, and the first error. -/
structure Sr where
  b : List UInt8
  e : Int
def Sr.ok (s : Sr) : Prop := s.b.length ≤ 4611686018427387904
def Sr.fail (s : Sr) (x : Int) : Sr := if s.e = 0 then ⟨s.b, x⟩ else s
def decU (i u : Nat) : List UInt8 → Except Int (Nat × List UInt8)
  | [] => .error 100
  | c :: r => if (i = 9 ∧ 1 < c.toNat) ∨ (0 < i ∧ c.toNat = 0) then .error 1 else if c.toNat < 128 then .ok (u + c.toNat % 128 * 2 ^ (7 * i), r) else decU (i + 1) (u + c.toNat % 128 * 2 ^ (7 * i)) r
def unzz (u : Nat) : Int := if u % 2 = 1 then -1 - ((u / 2 : Nat) : Int) else ((u / 2 : Nat) : Int)
def Sr.int (s : Sr) : Int × Sr := if s.e = 0 then (match decU 0 0 s.b with
  | .error x => (0, ⟨s.b, x⟩)
  | .ok (u, r) => (unzz u, ⟨r, 0⟩)) else (0, s)
theorem Sr.int_err {s : Sr} (he : s.e = 0) {x : Int} (h : decU 0 0 s.b = .error x) : s.int = (0, ⟨s.b, x⟩) := by unfold Sr.int; rw [if_pos he, h]
theorem Sr.int_ok {s : Sr} (he : s.e = 0) {u : Nat} {r : List UInt8} (h : decU 0 0 s.b = .ok (u, r)) : s.int = (unzz u, ⟨r, 0⟩) := by unfold Sr.int; rw [if_pos he, h]
abbrev sob (s : Sr) : Ob := ⟨T_codec_source, [bs s.b, di s.e]⟩
abbrev rob (s : Sr) : Ob := ⟨T_erasureref26Reader, [bs s.b, di s.e]⟩
theorem ret_obj {env : List (Nat × TV)} {hp : List (Nat × Ob)} {nx : Nat} {d r : TV} {o o' : Ob} (h1 : look env 0 = some d) (hs : Sub d r) (h2 : look hp 0 = some o) (ho : o = o') (hr : ∀ F, r.ren F = r) (ho' : ∀ F, o'.ren F = o') :
    RetOk 1 ⟨env, hp, nx⟩ r [(0, o')] 1 := by
  subst ho
  refine retn [] rfl rfl ?_ ⟨?_, trivial⟩
  · show SubO (look env 0) _
    rw [h1, hr]
    exact hs
  · show look hp (oldOf 1 nx [] 0) = some (o.ren _)
    rw [ho']
    exact h2
theorem frzE_look {id : Nat} {cs : List PV} {t : Nat} {d : TV} : ∀ {l : List (Nat × TV)}, look l t = some d → look (frzE id cs l) t = some (d.frz id cs)
  | [], h => by cases h
  | (k, v) :: r, h => by
    simp only [frzE, look_cons] at h ⊢
    split at h
    · rename_i e; cases h; rw [if_pos e]
    · rename_i e; rw [if_neg e]; exact frzE_look h
theorem frzH_look {id : Nat} {cs : List PV} {t : Nat} {o : Ob} (ht : t ≠ id) : ∀ {l : List (Nat × Ob)}, look l t = some o → look (frzH id cs l) t = some ⟨o.e, o.xs.map (DV.frz id cs)⟩
  | [], h => by cases h
  | (k, v) :: r, h => by
    rw [look_cons] at h
    by_cases hk : k = id
    · simp only [frzH, if_pos hk]
      rw [if_neg (by omega)] at h
      exact frzH_look ht h
    · simp only [frzH, if_neg hk, look_cons]
      split at h
      · rename_i e; cases h; rw [if_pos e]
      · rename_i e; rw [if_neg e]; exact frzH_look ht h
/-- A slice of the call's own that stays as it is from now on, beside an object that was handed in. -/
theorem ret_objz {env : List (Nat × TV)} {hp : List (Nat × Ob)} {nx j off n sz : Nat} {e : TypeId} {ys : List DV} {cs : List PV} {r : TV} {o o' : Ob} (h1 : look env 0 = some (.c (.ref j off n sz))) (h2 : look hp j = some ⟨e, ys⟩) (h0 : look hp 0 = some o) (hj : Nat.beq j 0 = false) (hy : ys = cs.map DV.p)
    (hs : Sub (.c (.p (.val n ((cs.drop off).take (n * sz))))) r) (ho : o = o') (hr : ∀ F, r.ren F = r) (ho' : ∀ F, o'.ren F = o') (hoz : ∀ id cs, (⟨o'.e, o'.xs.map (DV.frz id cs)⟩ : Ob) = o') : RetOk 1 ⟨env, hp, nx⟩ r [(0, o')] 1 := by
  subst ho
  have hj : 0 ≠ j := fun h => Nat.ne_of_beq_eq_false hj h.symm
  refine RetOk.freeze j e cs (hp_eq h2 hy) ?_
  refine ret_obj (frzE_look h1) ?_ (frzH_look hj h0) (hoz j cs) hr ho'
  have : (TV.c (.ref j off n sz)).frz j cs = .c (.p (.val n ((cs.drop off).take (n * sz)))) := by simp [TV.frz, DV.frz]
  rw [this]
  exact hs
/-- codec.source.fail -/
theorem fail_meets' (s : Sr) (x : Int) : Meets Try.prog F_codec_source_fail ⟨[.c (.ptr 0 0), vi x], [(0, sob s)], 1, .tup [], [(0, sob (s.fail x))], 1⟩ := by
  unfold Sr.fail
  by_cases h : s.e = 0
  · rw [if_pos h]
    refine fits_codec_source_fail.meets rfl (by simp) fun Q hQ => ?_
    (conv => whnf); repeat' (first | (refine And.intro ?_ ?_; (focus (exact zq3)); (conv => whnf)) | (refine onB_intro (fun hb => ?_) (fun hb => ?_) <;> (try simp only [decide_eq_true_eq, decide_eq_false_iff_not, Bool.not_eq_true', Bool.not_eq_false', Bool.and_eq_true, Bool.and_eq_false_iff, Int.not_le, Int.not_lt, bsz, ByteArray.toList_eq, beq_iff_eq, beq_eq_false_iff_ne, ne_eq] at hb) <;> (try (exfalso; omega)) <;> (try (exfalso; first | contradiction | (simp [ByteArray.toList_eq] at hb; done))) <;> (conv => whnf)) | (refine (hQ _ _ _ ?_).1; (conv => whnf)) | (refine ⟨_, rfl, ?_⟩; (conv => whnf)) | (refine ⟨_, mp_cut _ _ _, ?_⟩; (conv => whnf)) | (refine ⟨_, dbs_cut _ _ _, ?_⟩; (conv => whnf)) | (refine ⟨[_], rfl, ?_⟩; (conv => whnf)) | (refine ⟨[_, _], rfl, ?_⟩; (conv => whnf)) | (refine ⟨[_, _, _], rfl, ?_⟩; (conv => whnf)) | (refine ⟨[_, _, _, _], rfl, ?_⟩; (conv => whnf)) | fail)
    refine (hQ _ _ _ ?_).2
    conv => whnf
    exact ret_obj rfl (Sub.refl _) rfl rfl (fun F => rfl) (fun F => rfl)
  · rw [if_neg h]
    refine fits_codec_source_fail.meets rfl (by simp) fun Q hQ => ?_
    (conv => whnf); repeat' (first | (refine And.intro ?_ ?_; (focus (exact zq3)); (conv => whnf)) | (refine onB_intro (fun hb => ?_) (fun hb => ?_) <;> (try simp only [decide_eq_true_eq, decide_eq_false_iff_not, Bool.not_eq_true', Bool.not_eq_false', Bool.and_eq_true, Bool.and_eq_false_iff, Int.not_le, Int.not_lt, bsz, ByteArray.toList_eq, beq_iff_eq, beq_eq_false_iff_ne, ne_eq] at hb) <;> (try (exfalso; omega)) <;> (try (exfalso; first | contradiction | (simp [ByteArray.toList_eq] at hb; done))) <;> (conv => whnf)) | (refine (hQ _ _ _ ?_).1; (conv => whnf)) | (refine ⟨_, rfl, ?_⟩; (conv => whnf)) | (refine ⟨_, mp_cut _ _ _, ?_⟩; (conv => whnf)) | (refine ⟨_, dbs_cut _ _ _, ?_⟩; (conv => whnf)) | (refine ⟨[_], rfl, ?_⟩; (conv => whnf)) | (refine ⟨[_, _], rfl, ?_⟩; (conv => whnf)) | (refine ⟨[_, _, _], rfl, ?_⟩; (conv => whnf)) | (refine ⟨[_, _, _, _], rfl, ?_⟩; (conv => whnf)) | fail)
    refine (hQ _ _ _ ?_).2
    conv => whnf
    exact ret_obj rfl (Sub.refl _) rfl rfl (fun F => rfl) (fun F => rfl)
/-- erasureref26.Reader.fail -/
theorem rfail_meets' (s : Sr) (x : Int) : Meets Try.prog F_erasureref26Reader_fail ⟨[.c (.ptr 0 0), vi x], [(0, rob s)], 1, .tup [], [(0, rob (s.fail x))], 1⟩ := by
  unfold Sr.fail
  by_cases h : s.e = 0
  · rw [if_pos h]
    refine fits_erasureref26Reader_fail.meets rfl (by simp) fun Q hQ => ?_
    (conv => whnf); repeat' (first | (refine And.intro ?_ ?_; (focus (exact zq3)); (conv => whnf)) | (refine onB_intro (fun hb => ?_) (fun hb => ?_) <;> (try simp only [decide_eq_true_eq, decide_eq_false_iff_not, Bool.not_eq_true', Bool.not_eq_false', Bool.and_eq_true, Bool.and_eq_false_iff, Int.not_le, Int.not_lt, bsz, ByteArray.toList_eq, beq_iff_eq, beq_eq_false_iff_ne, ne_eq] at hb) <;> (try (exfalso; omega)) <;> (try (exfalso; first | contradiction | (simp [ByteArray.toList_eq] at hb; done))) <;> (conv => whnf)) | (refine (hQ _ _ _ ?_).1; (conv => whnf)) | (refine ⟨_, rfl, ?_⟩; (conv => whnf)) | (refine ⟨_, mp_cut _ _ _, ?_⟩; (conv => whnf)) | (refine ⟨_, dbs_cut _ _ _, ?_⟩; (conv => whnf)) | (refine ⟨[_], rfl, ?_⟩; (conv => whnf)) | (refine ⟨[_, _], rfl, ?_⟩; (conv => whnf)) | (refine ⟨[_, _, _], rfl, ?_⟩; (conv => whnf)) | (refine ⟨[_, _, _, _], rfl, ?_⟩; (conv => whnf)) | fail)
    refine (hQ _ _ _ ?_).2
    conv => whnf
    exact ret_obj rfl (Sub.refl _) rfl rfl (fun F => rfl) (fun F => rfl)
  · rw [if_neg h]
    refine fits_erasureref26Reader_fail.meets rfl (by simp) fun Q hQ => ?_
    (conv => whnf); repeat' (first | (refine And.intro ?_ ?_; (focus (exact zq3)); (conv => whnf)) | (refine onB_intro (fun hb => ?_) (fun hb => ?_) <;> (try simp only [decide_eq_true_eq, decide_eq_false_iff_not, Bool.not_eq_true', Bool.not_eq_false', Bool.and_eq_true, Bool.and_eq_false_iff, Int.not_le, Int.not_lt, bsz, ByteArray.toList_eq, beq_iff_eq, beq_eq_false_iff_ne, ne_eq] at hb) <;> (try (exfalso; omega)) <;> (try (exfalso; first | contradiction | (simp [ByteArray.toList_eq] at hb; done))) <;> (conv => whnf)) | (refine (hQ _ _ _ ?_).1; (conv => whnf)) | (refine ⟨_, rfl, ?_⟩; (conv => whnf)) | (refine ⟨_, mp_cut _ _ _, ?_⟩; (conv => whnf)) | (refine ⟨_, dbs_cut _ _ _, ?_⟩; (conv => whnf)) | (refine ⟨[_], rfl, ?_⟩; (conv => whnf)) | (refine ⟨[_, _], rfl, ?_⟩; (conv => whnf)) | (refine ⟨[_, _, _], rfl, ?_⟩; (conv => whnf)) | (refine ⟨[_, _, _, _], rfl, ?_⟩; (conv => whnf)) | fail)
    refine (hQ _ _ _ ?_).2
    conv => whnf
    exact ret_obj rfl (Sub.refl _) rfl rfl (fun F => rfl) (fun F => rfl)
theorem elem_pb {l : List UInt8} {k : Nat} {c : UInt8} (h : l[k]? = some c) : ((pb l).drop (Int.toNat (k : Int) * 1)).take 1 = [pb1 c] := elem_map h
theorem pb_rest (l : List UInt8) (k : Nat) (n m : Nat) (hn : n = (k + 1) * 1) (hm : l.length ≤ n + m) : ((pb l).drop n).take m = pb (l.drop (k + 1)) := by
  subst hn
  rw [Nat.mul_one, List.take_of_length_le (by simp [pb]; omega), pb_drop]
theorem decU_step {k u : Nat} {c : UInt8} {r : List UInt8} (h1 : ¬((k = 9 ∧ 1 < c.toNat) ∨ (0 < k ∧ c.toNat = 0))) (h2 : ¬c.toNat < 128) : decU k u (c :: r) = decU (k + 1) (u + c.toNat % 128 * 2 ^ (7 * k)) r := by
  rw [decU, if_neg h1, if_neg h2]
theorem decU_last {k u : Nat} {c : UInt8} {r : List UInt8} (h1 : ¬((k = 9 ∧ 1 < c.toNat) ∨ (0 < k ∧ c.toNat = 0))) (h2 : c.toNat < 128) : decU k u (c :: r) = .ok (u + c.toNat % 128 * 2 ^ (7 * k), r) := by
  rw [decU, if_neg h1, if_pos h2]
theorem decU_bad {k u : Nat} {c : UInt8} {r : List UInt8} (h1 : (k = 9 ∧ 1 < c.toNat) ∨ (0 < k ∧ c.toNat = 0)) : decU k u (c :: r) = .error 1 := by
  rw [decU, if_pos h1]
/-- The next seven bits. -/
theorem next_bound {k u : Nat} {c : UInt8} (hk : k ≤ 9) (h9 : k = 9 → c.toNat ≤ 1) (hu : u < 2 ^ (7 * k)) : c.toNat % 128 * 2 ^ (7 * k) < 2 ^ 64 ∧ u + c.toNat % 128 * 2 ^ (7 * k) < 2 ^ 64 ∧ (k < 9 → u + c.toNat % 128 * 2 ^ (7 * k) < 2 ^ (7 * (k + 1))) := by
  have hc : c.toNat % 128 < 128 := Nat.mod_lt _ (by decide)
  have e : 2 ^ (7 * (k + 1)) = 128 * 2 ^ (7 * k) := by rw [Nat.mul_add, Nat.mul_one, Nat.pow_add]; omega
  have h1 : u + c.toNat % 128 * 2 ^ (7 * k) < 2 ^ (7 * (k + 1)) := by
    rw [e]
    have : c.toNat % 128 * 2 ^ (7 * k) ≤ 127 * 2 ^ (7 * k) := Nat.mul_le_mul_right _ (by omega)
    omega
  rcases Nat.lt_or_ge k 9 with h | h
  · have h2 : (2 : Nat) ^ (7 * (k + 1)) ≤ 2 ^ 64 := Nat.pow_le_pow_right (by decide) (by omega)
    exact ⟨by omega, by omega, fun _ => h1⟩
  · have : k = 9 := by omega
    subst this
    have h3 := h9 rfl
    have h4 : c.toNat % 128 ≤ 1 := by omega
    have h5 : c.toNat % 128 * 2 ^ (7 * 9) ≤ 1 * 2 ^ (7 * 9) := Nat.mul_le_mul_right _ h4
    have h6 : (2 : Nat) ^ (7 * 9) + 2 ^ (7 * 9) = 2 ^ 64 := by decide
    exact ⟨by omega, by omega, fun h => by omega⟩
theorem next_u {k u : Nat} {c : UInt8} (hk : k ≤ 9) (h9 : k = 9 → c.toNat ≤ 1) (hu : u < 2 ^ (7 * k)) :
    bits .or .u64 (u : Int) (IntKind.u64.wrap (IntKind.u64.wrap (bits .and .u8 (c.toNat : Int) 127) * 2 ^ min (Int.toNat (IntKind.u64.wrap (7 * IntKind.u64.wrap (k : Int)))) IntKind.u64.bits)) = ((u + c.toNat % 128 * 2 ^ (7 * k) : Nat) : Int) := by
  have hc : c.toNat < 256 := c.toNat_lt
  obtain ⟨h1, h2, _⟩ := next_bound hk h9 hu
  have e1 : min (Int.toNat (IntKind.u64.wrap (7 * IntKind.u64.wrap (k : Int)))) IntKind.u64.bits = 7 * k := by
    rw [wrap_u64_of (n := (k : Int)) (by omega) (by omega), wrap_u64_of (by omega) (by omega)]
    show min _ 64 = _
    omega
  rw [and_127 (by omega) (by omega), e1, wrap_u64_of (n := (c.toNat : Int) % 128) (by omega) (by omega)]
  have e2 : ((c.toNat : Int) % 128) * 2 ^ (7 * k) = ((c.toNat % 128 * 2 ^ (7 * k) : Nat) : Int) := by
    rw [Int.natCast_mul, Int.natCast_pow]; rfl
  have h1' : ((c.toNat % 128 * 2 ^ (7 * k) : Nat) : Int) < 18446744073709551616 := by
    have h := Int.ofNat_lt.2 h1
    rwa [show ((2 ^ 64 : Nat) : Int) = 18446744073709551616 from rfl] at h
  rw [e2, wrap_u64_of (Int.natCast_nonneg _) h1']
  exact or_above (by omega) hu h1
theorem unzz_pos {u : Nat} (hu : u < 2 ^ 64) (h : u % 2 ≠ 1) : IntKind.i64.wrap (Int.fdiv (u : Int) (2 ^ min (Int.toNat 1) IntKind.u64.bits)) = unzz u := by
  rw [show (2 : Int) ^ min (Int.toNat 1) IntKind.u64.bits = 2 by decide, Int.fdiv_eq_ediv_of_nonneg _ (by decide), wrap_i64_of (by omega) (by omega)]
  unfold unzz; rw [if_neg h]; omega
theorem unzz_neg {u : Nat} (hu : u < 2 ^ 64) (h : u % 2 = 1) : bits .xor .i64 (if IntKind.i64.signed = true then -1 else IntKind.i64.max) (IntKind.i64.wrap (Int.fdiv (u : Int) (2 ^ min (Int.toNat 1) IntKind.u64.bits))) = unzz u := by
  rw [show (if IntKind.i64.signed = true then -1 else IntKind.i64.max) = (-1 : Int) by decide, show (2 : Int) ^ min (Int.toNat 1) IntKind.u64.bits = 2 by decide, Int.fdiv_eq_ediv_of_nonneg _ (by decide), wrap_i64_of (by omega) (by omega), xor_i64 (by omega) (by omega)]
  unfold unzz; rw [if_pos h]; omega
end Go.Proofs.Ytjieenfbfckafaa.Am

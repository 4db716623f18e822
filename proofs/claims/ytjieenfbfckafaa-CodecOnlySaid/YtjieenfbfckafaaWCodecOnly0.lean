/- What the claim of CodecOnly reaches, part 0. -/
import Derived.Test.YtjieenfbfckafaaPackLib
namespace Go.Proofs.Ytjieenfbfckafaa.Am
open Go
set_option linter.unusedVariables false
set_option linter.unusedSimpArgs false
def zz (n : Int) : Nat := if n < 0 then (-(2 * n) - 1).toNat else (2 * n).toNat
def encU (u : Nat) : List UInt8 := if u < 128 then [UInt8.ofNat u] else UInt8.ofNat (u % 128 + 128) :: encU (u / 128)
termination_by u
decreasing_by omega
def encInt (n : Int) : List UInt8 := encU (zz n)
theorem encU_lt {u : Nat} (h : u < 128) : encU u = [UInt8.ofNat u] := by rw [encU]; simp [h]
theorem encU_ge {u : Nat} (h : ¬ u < 128) : encU u = UInt8.ofNat (u % 128 + 128) :: encU (u / 128) := by rw [encU]; simp [h]
theorem zz_lt {n : Int} (h : inI64 n) : zz n < 18446744073709551616 := by
  obtain ⟨h1, h2⟩ := h
  unfold zz; split <;> omega
theorem encU_len : ∀ (k u : Nat), u < 128 ^ (k + 1) → (encU u).length ≤ k + 1 := by
  intro k
  induction k with
  | zero => intro u h; rw [encU_lt (by omega)]; simp
  | succ k ih =>
    intro u h
    by_cases hu : u < 128
    · rw [encU_lt hu]; simp
    · rw [encU_ge hu]
      have := ih (u / 128) (by rw [Nat.pow_succ] at h; exact Nat.div_lt_of_lt_mul (by rw [Nat.mul_comm]; exact h))
      simp; exact this
theorem encInt_len {n : Int} (h : inI64 n) : (encInt n).length ≤ 10 := encU_len 9 _ (Nat.lt_trans (zz_lt h) (by decide))
abbrev sval (t : List UInt8) : Value := .string ⟨t.toArray⟩
abbrev pst (t : List UInt8) : PV := .v (sval t)
abbrev tst (t : List UInt8) : TV := .c (.p (pst t))
structure Val where
  k : Int
  i : Int
  t : List UInt8
def Val.null : Val := ⟨0, 0, []⟩
abbrev Val.pv (v : Val) : List PV := [pi v.k, pi v.i, pst v.t]
abbrev Val.enc (v : Val) : List DV := [di v.k, di v.i, .p (pst v.t)]
def Val.valid (v : Val) : Bool :=
  if v.k = 0 then decide (v.i = 0) && decide (v.t = []) else if v.k = 1 then (decide (-4294967296 ≤ v.i) && decide (v.i ≤ 4294967296)) && decide (v.t = []) else if v.k = 2 then decide (v.i = 0) && decide (v.t.length ≤ 32) else false
def Val.clean (v : Val) : Val := if v.valid then v else Val.null
def encText (t : List UInt8) : List UInt8 := encInt t.length ++ t
def encVal' (v : Val) : List UInt8 := encInt v.k ++ (if v.k = 1 then encInt v.i else if v.k = 2 then encText v.t else [])
def encVal (v : Val) : List UInt8 := encVal' v.clean
def encRow (r : List Val) : List UInt8 := encInt r.length ++ r.flatMap encVal
end Go.Proofs.Ytjieenfbfckafaa.Am
namespace Go.Proofs.Ytjieenfbfckafaa.Am
open Go
set_option linter.unusedVariables false
set_option linter.unusedSimpArgs false
set_option maxRecDepth 100000
def r_codec_AppendInt_0 : ACode := .reg [
    ⟨some 4, none, .mov (.k (.slice none 0 0))⟩] none [0, 1]
def r_codec_AppendInt_1 : ACode := .reg [
    ⟨some 5, none, .mov (.t 0)⟩,
    ⟨some 6, none, .call 88 [(.t 5)]⟩,
    ⟨some 7, none, .mov (.t 1)⟩,
    ⟨some 8, none, .call 87 [(.t 6), (.t 7)]⟩,
    ⟨some 4, none, .mov (.t 8)⟩] none [4]
def c_codec_AppendInt : ACode :=
  (.seq r_codec_AppendInt_0
  (.seq r_codec_AppendInt_1
   .ret))
theorem fits_codec_AppendInt : Fits Try.prog 19 9 c_codec_AppendInt [.t 4] := ⟨⟨Try.f19, _, _, Try.func19, rfl, rfl, rfl, by decide, by kernel_rfl, by kernel_rfl⟩, Try.checked.mixed⟩
def r_codec_ReadInt_0 : ACode := .reg [
    ⟨some 2, none, .mov (.k (.int .i64 (0)))⟩,
    ⟨some 3, none, .mov (.k (.slice none 0 0))⟩,
    ⟨some 4, none, .mov (.k (.int .i64 (0)))⟩] none [0]
def r_codec_ReadInt_1 : ACode := .reg [
    ⟨some 7, none, .mov (.t 0)⟩,
    ⟨some 8, none, .build [.slice none 0 0, .int .i64 0] [(0, 1, (.t 7))]⟩,
    ⟨some 5, none, .alloc 152 [.slice none 0 0, .int .i64 0]⟩,
    ⟨none, none, .store 2 (.t 5) (.t 8)⟩] none [5]
def r_codec_ReadInt_2 : ACode := .reg [
    ⟨some 9, none, .call 89 [(.t 5)]⟩,
    ⟨some 6, none, .mov (.t 9)⟩] none [5, 6]
def r_codec_ReadInt_3 : ACode := .reg [
    ⟨some 10, none, .fld 1 (.t 5)⟩,
    ⟨some 11, none, .load none (.t 10)⟩,
    ⟨some 12, none, .bin .neq (.t 11) (.k (.int .i64 (0)))⟩] none [5, 6, 12]
def r_codec_ReadInt_4 : ACode := .reg [
    ⟨some 13, none, .fld 1 (.t 5)⟩,
    ⟨some 14, none, .load none (.t 13)⟩,
    ⟨some 2, none, .mov (.k (.int .i64 (0)))⟩,
    ⟨some 3, none, .mov (.k (.slice none 0 0))⟩,
    ⟨some 4, none, .mov (.t 14)⟩] (some [0, 1, 0, 4, 15]) [2, 3, 4]
def r_codec_ReadInt_5 : ACode := .reg [
    ⟨some 15, none, .mov (.t 6)⟩,
    ⟨some 16, none, .call 90 [(.t 5)]⟩,
    ⟨some 2, none, .mov (.t 15)⟩,
    ⟨some 3, none, .mov (.t 16)⟩,
    ⟨some 4, none, .mov (.k (.int .i64 (0)))⟩] none [2, 3, 4]
def c_codec_ReadInt : ACode :=
  (.seq r_codec_ReadInt_0
  (.seq r_codec_ReadInt_1
   (.seq r_codec_ReadInt_2
    (.seq (.seq r_codec_ReadInt_3
      (.cond (.t 12)
       (.seq r_codec_ReadInt_4
        .ret)
       .skip))
     (.seq r_codec_ReadInt_5
      .ret)))))
theorem fits_codec_ReadInt : Fits Try.prog 20 17 c_codec_ReadInt [.t 2, .t 3, .t 4] := ⟨⟨Try.f20, _, _, Try.func20, rfl, rfl, rfl, by decide, by kernel_rfl, by kernel_rfl⟩, Try.checked.mixed⟩
def r_codec_ReadEntry_0 : ACode := .reg [
    ⟨some 2, none, .alloc 111 [.int .i64 0, .int .i64 0, .int .i64 0, .int .i64 0, .int .i64 0, .string ⟨#[]⟩, .int .i64 0, .int .i64 0, .string ⟨#[]⟩, .int .i64 0, .int .i64 0, .int .i64 0, .string ⟨#[]⟩, .int .i64 0, .int .i64 0, .string ⟨#[]⟩, .string ⟨#[]⟩, .int .i64 0, .int .i64 0, .string ⟨#[]⟩, .int .i64 0, .bool false, .int .i64 0, .int .i64 0, .string ⟨#[]⟩, .int .i64 0, .int .i64 0, .string ⟨#[]⟩, .int .i64 0, .int .i64 0, .int .i64 0, .slice none 0 0, .slice none 0 0, .int .u8 0, .int .u8 0, .int .u8 0, .int .u8 0, .int .u8 0, .int .u8 0, .int .u8 0, .int .u8 0, .int .u8 0, .int .u8 0, .int .u8 0, .int .u8 0, .int .u8 0, .int .u8 0, .int .u8 0, .int .u8 0, .int .u8 0, .int .u8 0, .int .u8 0, .int .u8 0, .int .u8 0, .int .u8 0, .int .u8 0, .int .u8 0, .int .u8 0, .int .u8 0, .int .u8 0, .int .u8 0, .int .u8 0, .int .u8 0, .int .u8 0, .int .u8 0]⟩,
    ⟨some 3, none, .mov (.k (.slice none 0 0))⟩,
    ⟨some 4, none, .mov (.k (.int .i64 (0)))⟩] none [0, 2]
def r_codec_ReadEntry_1 : ACode := .reg [
    ⟨some 7, none, .mov (.t 0)⟩,
    ⟨some 8, none, .build [.slice none 0 0, .int .i64 0] [(0, 1, (.t 7))]⟩,
    ⟨some 5, none, .alloc 152 [.slice none 0 0, .int .i64 0]⟩,
    ⟨none, none, .store 2 (.t 5) (.t 8)⟩] none [2, 5]
def r_codec_ReadEntry_2 : ACode := .reg [
    ⟨some 9, none, .call 111 [(.t 5)]⟩,
    ⟨some 10, none, .build [.int .i64 0, .int .i64 0, .int .i64 0, .int .i64 0, .int .i64 0, .string ⟨#[]⟩, .int .i64 0, .int .i64 0, .string ⟨#[]⟩, .int .i64 0, .int .i64 0, .int .i64 0, .string ⟨#[]⟩, .int .i64 0, .int .i64 0, .string ⟨#[]⟩, .string ⟨#[]⟩, .int .i64 0, .int .i64 0, .string ⟨#[]⟩, .int .i64 0, .bool false, .int .i64 0, .int .i64 0, .string ⟨#[]⟩, .int .i64 0, .int .i64 0, .string ⟨#[]⟩, .int .i64 0, .int .i64 0, .int .i64 0, .slice none 0 0, .slice none 0 0, .int .u8 0, .int .u8 0, .int .u8 0, .int .u8 0, .int .u8 0, .int .u8 0, .int .u8 0, .int .u8 0, .int .u8 0, .int .u8 0, .int .u8 0, .int .u8 0, .int .u8 0, .int .u8 0, .int .u8 0, .int .u8 0, .int .u8 0, .int .u8 0, .int .u8 0, .int .u8 0, .int .u8 0, .int .u8 0, .int .u8 0, .int .u8 0, .int .u8 0, .int .u8 0, .int .u8 0, .int .u8 0, .int .u8 0, .int .u8 0, .int .u8 0, .int .u8 0] [(0, 1, (.t 9))]⟩,
    ⟨some 6, none, .alloc 111 [.int .i64 0, .int .i64 0, .int .i64 0, .int .i64 0, .int .i64 0, .string ⟨#[]⟩, .int .i64 0, .int .i64 0, .string ⟨#[]⟩, .int .i64 0, .int .i64 0, .int .i64 0, .string ⟨#[]⟩, .int .i64 0, .int .i64 0, .string ⟨#[]⟩, .string ⟨#[]⟩, .int .i64 0, .int .i64 0, .string ⟨#[]⟩, .int .i64 0, .bool false, .int .i64 0, .int .i64 0, .string ⟨#[]⟩, .int .i64 0, .int .i64 0, .string ⟨#[]⟩, .int .i64 0, .int .i64 0, .int .i64 0, .slice none 0 0, .slice none 0 0, .int .u8 0, .int .u8 0, .int .u8 0, .int .u8 0, .int .u8 0, .int .u8 0, .int .u8 0, .int .u8 0, .int .u8 0, .int .u8 0, .int .u8 0, .int .u8 0, .int .u8 0, .int .u8 0, .int .u8 0, .int .u8 0, .int .u8 0, .int .u8 0, .int .u8 0, .int .u8 0, .int .u8 0, .int .u8 0, .int .u8 0, .int .u8 0, .int .u8 0, .int .u8 0, .int .u8 0, .int .u8 0, .int .u8 0, .int .u8 0, .int .u8 0, .int .u8 0]⟩,
    ⟨none, none, .store 65 (.t 6) (.t 10)⟩] none [2, 5, 6]
def r_codec_ReadEntry_3 : ACode := .reg [
    ⟨some 11, none, .fld 1 (.t 5)⟩,
    ⟨some 12, none, .load none (.t 11)⟩,
    ⟨some 13, none, .bin .eql (.t 12) (.k (.int .i64 (0)))⟩,
    ⟨some 14, none, .mov (.t 13)⟩,
    ⟨some 15, (some (14, true)), .fld 0 (.t 6)⟩,
    ⟨some 16, (some (14, true)), .load none (.t 15)⟩,
    ⟨some 17, (some (14, true)), .bin .lss (.t 16) (.k (.int .i64 (1)))⟩,
    ⟨some 18, (some (14, true)), .mov (.t 17)⟩,
    ⟨some 19, (some (18, false)), .fld 0 (.t 6)⟩,
    ⟨some 20, (some (18, false)), .load none (.t 19)⟩,
    ⟨some 21, (some (18, false)), .bin .gtr (.t 20) (.k (.int .i64 (7)))⟩,
    ⟨some 22, (some (14, true)), .pick (.t 18) (.k (.bool true)) (.t 21)⟩,
    ⟨some 23, none, .pick (.t 14) (.t 22) (.k (.bool false))⟩] none [2, 5, 6, 23]
def r_codec_ReadEntry_4 : ACode := .reg [
    ⟨some 24, none, .call 114 [(.t 5), (.k (.int .i64 (1)))]⟩] none [2, 5, 6]
def r_codec_ReadEntry_5 : ACode := .reg [
    ⟨some 25, none, .call 111 [(.t 5)]⟩,
    ⟨some 26, none, .fld 1 (.t 6)⟩,
    ⟨none, none, .store 1 (.t 26) (.t 25)⟩] none [2, 5, 6]
def r_codec_ReadEntry_6 : ACode := .reg [
    ⟨some 27, none, .call 111 [(.t 5)]⟩,
    ⟨some 28, none, .fld 2 (.t 6)⟩,
    ⟨none, none, .store 1 (.t 28) (.t 27)⟩] none [2, 5, 6]
def r_codec_ReadEntry_7 : ACode := .reg [
    ⟨some 29, none, .call 111 [(.t 5)]⟩,
    ⟨some 30, none, .fld 3 (.t 6)⟩,
    ⟨none, none, .store 1 (.t 30) (.t 29)⟩] none [2, 5, 6]
def r_codec_ReadEntry_8 : ACode := .reg [
    ⟨some 31, none, .fld 0 (.t 6)⟩,
    ⟨some 32, none, .load none (.t 31)⟩] none [2, 5, 6, 32]
def r_codec_ReadEntry_9 : ACode := .reg [
    ⟨some 34, none, .bin .eql (.t 32) (.k (.int .i64 (1)))⟩,
    ⟨some 33, none, .mov (.t 34)⟩] none [2, 5, 6, 32, 33]
def r_codec_ReadEntry_10 : ACode := .reg [
    ⟨some 35, none, .call 115 [(.t 5)]⟩,
    ⟨some 36, none, .fld 4 (.t 6)⟩,
    ⟨none, none, .store 8 (.t 36) (.t 35)⟩] none [2, 5, 6]
def r_codec_ReadEntry_11 : ACode := .reg [
    ⟨some 38, none, .bin .eql (.t 32) (.k (.int .i64 (2)))⟩,
    ⟨some 37, none, .mov (.t 38)⟩] none [2, 5, 6, 32, 37]
def r_codec_ReadEntry_12 : ACode := .reg [
    ⟨some 39, none, .call 96 [(.t 5)]⟩,
    ⟨some 40, none, .fld 31 (.t 6)⟩,
    ⟨none, none, .store 1 (.t 40) (.t 39)⟩] none [2, 5, 6]
def r_codec_ReadEntry_13 : ACode := .reg [
    ⟨some 41, none, .call 98 [(.t 5)]⟩,
    ⟨some 42, none, .fld 32 (.t 6)⟩,
    ⟨none, none, .store 1 (.t 42) (.t 41)⟩] none [2, 5, 6]
def r_codec_ReadEntry_14 : ACode := .reg [
    ⟨some 44, none, .bin .eql (.t 32) (.k (.int .i64 (4)))⟩,
    ⟨some 43, none, .mov (.t 44)⟩] none [2, 5, 6, 32, 43]
def r_codec_ReadEntry_15 : ACode := .reg [
    ⟨some 45, none, .call 97 [(.t 5)]⟩,
    ⟨some 46, none, .fld 33 (.t 6)⟩,
    ⟨none, none, .store 32 (.t 46) (.t 45)⟩] none [2, 5, 6]
def r_codec_ReadEntry_16 : ACode := .reg [
    ⟨some 48, none, .bin .eql (.t 32) (.k (.int .i64 (6)))⟩,
    ⟨some 47, none, .mov (.t 48)⟩] none [2, 5, 6, 32, 47]
def r_codec_ReadEntry_17 : ACode := .reg [
    ⟨some 49, none, .call 116 [(.t 5)]⟩,
    ⟨some 50, none, .fld 12 (.t 6)⟩,
    ⟨none, none, .store 10 (.t 50) (.t 49)⟩] none [2, 5, 6]
def r_codec_ReadEntry_18 : ACode := .reg [
    ⟨some 52, none, .bin .eql (.t 32) (.k (.int .i64 (7)))⟩,
    ⟨some 51, none, .mov (.t 52)⟩] none [2, 5, 6, 51]
def r_codec_ReadEntry_19 : ACode := .reg [
    ⟨some 53, none, .call 117 [(.t 5)]⟩,
    ⟨some 54, none, .fld 22 (.t 6)⟩,
    ⟨none, none, .store 9 (.t 54) (.t 53)⟩] none [2, 5, 6]
def r_codec_ReadEntry_20 : ACode := .reg [
    ⟨some 55, none, .fld 1 (.t 5)⟩,
    ⟨some 56, none, .load none (.t 55)⟩,
    ⟨some 57, none, .bin .neq (.t 56) (.k (.int .i64 (0)))⟩] none [2, 5, 6, 57]
def r_codec_ReadEntry_21 : ACode := .reg [
    ⟨some 58, none, .build [.int .i64 0, .int .i64 0, .int .i64 0, .int .i64 0, .int .i64 0, .string ⟨#[]⟩, .int .i64 0, .int .i64 0, .string ⟨#[]⟩, .int .i64 0, .int .i64 0, .int .i64 0, .string ⟨#[]⟩, .int .i64 0, .int .i64 0, .string ⟨#[]⟩, .string ⟨#[]⟩, .int .i64 0, .int .i64 0, .string ⟨#[]⟩, .int .i64 0, .bool false, .int .i64 0, .int .i64 0, .string ⟨#[]⟩, .int .i64 0, .int .i64 0, .string ⟨#[]⟩, .int .i64 0, .int .i64 0, .int .i64 0, .slice none 0 0, .slice none 0 0, .int .u8 0, .int .u8 0, .int .u8 0, .int .u8 0, .int .u8 0, .int .u8 0, .int .u8 0, .int .u8 0, .int .u8 0, .int .u8 0, .int .u8 0, .int .u8 0, .int .u8 0, .int .u8 0, .int .u8 0, .int .u8 0, .int .u8 0, .int .u8 0, .int .u8 0, .int .u8 0, .int .u8 0, .int .u8 0, .int .u8 0, .int .u8 0, .int .u8 0, .int .u8 0, .int .u8 0, .int .u8 0, .int .u8 0, .int .u8 0, .int .u8 0, .int .u8 0] []⟩,
    ⟨some 59, none, .fld 1 (.t 5)⟩,
    ⟨some 60, none, .load none (.t 59)⟩,
    ⟨none, none, .store 65 (.t 2) (.t 58)⟩,
    ⟨some 3, none, .mov (.k (.slice none 0 0))⟩,
    ⟨some 4, none, .mov (.t 60)⟩] (some [0, 0, 2, 1, 9, 31]) [2, 3, 4]
def r_codec_ReadEntry_22 : ACode := .reg [
    ⟨some 61, none, .load (some 65) (.t 6)⟩,
    ⟨some 62, none, .call 90 [(.t 5)]⟩,
    ⟨none, none, .store 65 (.t 2) (.t 61)⟩,
    ⟨some 3, none, .mov (.t 62)⟩,
    ⟨some 4, none, .mov (.k (.int .i64 (0)))⟩] (some [0, 0, 3, 7, 15]) [2, 3, 4]
def c_codec_ReadEntry : ACode :=
  (.seq r_codec_ReadEntry_0
  (.seq r_codec_ReadEntry_1
   (.seq r_codec_ReadEntry_2
    (.seq (.seq r_codec_ReadEntry_3
      (.cond (.t 23)
       r_codec_ReadEntry_4
       .skip))
     (.seq r_codec_ReadEntry_5
      (.seq r_codec_ReadEntry_6
       (.seq r_codec_ReadEntry_7
        (.seq (.seq r_codec_ReadEntry_8
          (.block 0 (.seq r_codec_ReadEntry_9
            (.cond (.t 33)
             r_codec_ReadEntry_10
             (.seq r_codec_ReadEntry_11
              (.cond (.t 37)
               (.seq r_codec_ReadEntry_12
                r_codec_ReadEntry_13)
               (.seq r_codec_ReadEntry_14
                (.cond (.t 43)
                 r_codec_ReadEntry_15
                 (.seq r_codec_ReadEntry_16
                  (.cond (.t 47)
                   r_codec_ReadEntry_17
                   (.seq r_codec_ReadEntry_18
                    (.cond (.t 51)
                     r_codec_ReadEntry_19
                     .skip))))))))))))
         (.seq (.seq r_codec_ReadEntry_20
           (.cond (.t 57)
            (.seq r_codec_ReadEntry_21
             .ret)
            .skip))
          (.seq r_codec_ReadEntry_22
           .ret))))))))))
theorem fits_codec_ReadEntry : Fits Try.prog 61 63 c_codec_ReadEntry [.c 2 (some 65), .t 3, .t 4] := ⟨⟨Try.f61, _, _, Try.func61, rfl, rfl, rfl, by decide, by kernel_rfl, by kernel_rfl⟩, Try.checked.mixed⟩
def r_codec_AppendEntry_0 : ACode := .reg [
    ⟨some 3, none, .box 111 (.t 1)⟩,
    ⟨some 4, none, .mov (.k (.slice none 0 0))⟩] none [0, 3]
def r_codec_AppendEntry_1 : ACode := .reg [
    ⟨some 6, none, .mov (.t 0)⟩,
    ⟨some 7, none, .call 88 [(.t 6)]⟩,
    ⟨some 8, none, .fld 0 (.t 3)⟩,
    ⟨some 9, none, .load none (.t 8)⟩,
    ⟨some 10, none, .fld 1 (.t 3)⟩,
    ⟨some 11, none, .load none (.t 10)⟩,
    ⟨some 12, none, .fld 2 (.t 3)⟩,
    ⟨some 13, none, .load none (.t 12)⟩,
    ⟨some 14, none, .fld 3 (.t 3)⟩,
    ⟨some 15, none, .load none (.t 14)⟩,
    ⟨some 16, none, .lit 3 1 4 [.int .i64 0] [(0, (.t 9)), (1, (.t 11)), (2, (.t 13)), (3, (.t 15))] false⟩,
    ⟨some 17, none, .call 110 [(.t 7), (.t 16)]⟩,
    ⟨some 5, none, .mov (.t 17)⟩] (some [0, 1, 0, 4, 0, 16, 0, 64, 0, 256, 1020, 2047, 4095]) [3, 5]
def r_codec_AppendEntry_2 : ACode := .reg [
    ⟨some 18, none, .fld 0 (.t 3)⟩,
    ⟨some 19, none, .load none (.t 18)⟩] none [3, 5, 19]
def r_codec_AppendEntry_3 : ACode := .reg [
    ⟨some 21, none, .bin .eql (.t 19) (.k (.int .i64 (1)))⟩,
    ⟨some 20, none, .mov (.t 21)⟩] none [3, 5, 19, 20]
def r_codec_AppendEntry_4 : ACode := .reg [
    ⟨some 22, none, .mov (.t 5)⟩,
    ⟨some 23, none, .fld 4 (.t 3)⟩,
    ⟨some 24, none, .load (some 8) (.t 23)⟩,
    ⟨some 25, none, .call 118 [(.t 22), (.t 24)]⟩,
    ⟨some 4, none, .mov (.t 25)⟩] none [4]
def r_codec_AppendEntry_5 : ACode := .reg [
    ⟨some 27, none, .bin .eql (.t 19) (.k (.int .i64 (2)))⟩,
    ⟨some 26, none, .mov (.t 27)⟩] none [3, 5, 19, 26]
def r_codec_AppendEntry_6 : ACode := .reg [
    ⟨some 28, none, .mov (.t 5)⟩,
    ⟨some 29, none, .fld 31 (.t 3)⟩,
    ⟨some 30, none, .load none (.t 29)⟩,
    ⟨some 31, none, .call 95 [(.t 28), (.t 30)]⟩,
    ⟨some 32, none, .fld 32 (.t 3)⟩,
    ⟨some 33, none, .load none (.t 32)⟩,
    ⟨some 34, none, .call 94 [(.t 31), (.t 33)]⟩,
    ⟨some 4, none, .mov (.t 34)⟩] (some [0, 0, 2, 7, 0, 16, 63, 127]) [4]
def r_codec_AppendEntry_7 : ACode := .reg [
    ⟨some 36, none, .bin .eql (.t 19) (.k (.int .i64 (4)))⟩,
    ⟨some 35, none, .mov (.t 36)⟩] none [3, 5, 19, 35]
def r_codec_AppendEntry_8 : ACode := .reg [
    ⟨some 37, none, .mov (.t 5)⟩,
    ⟨some 38, none, .fld 33 (.t 3)⟩,
    ⟨some 39, none, .slr 32 1 (.t 38) none none none⟩,
    ⟨some 40, none, .app 5 1 1 (.t 37) (.t 39)⟩,
    ⟨some 4, none, .mov (.t 40)⟩] none [4]
def r_codec_AppendEntry_9 : ACode := .reg [
    ⟨some 42, none, .bin .eql (.t 19) (.k (.int .i64 (6)))⟩,
    ⟨some 41, none, .mov (.t 42)⟩] none [3, 5, 19, 41]
def r_codec_AppendEntry_10 : ACode := .reg [
    ⟨some 43, none, .mov (.t 5)⟩,
    ⟨some 44, none, .fld 12 (.t 3)⟩,
    ⟨some 45, none, .load (some 10) (.t 44)⟩,
    ⟨some 46, none, .call 119 [(.t 43), (.t 45)]⟩,
    ⟨some 4, none, .mov (.t 46)⟩] none [4]
def r_codec_AppendEntry_11 : ACode := .reg [
    ⟨some 48, none, .bin .eql (.t 19) (.k (.int .i64 (7)))⟩,
    ⟨some 47, none, .mov (.t 48)⟩] none [3, 5, 47]
def r_codec_AppendEntry_12 : ACode := .reg [
    ⟨some 49, none, .mov (.t 5)⟩,
    ⟨some 50, none, .fld 22 (.t 3)⟩,
    ⟨some 51, none, .load (some 9) (.t 50)⟩,
    ⟨some 52, none, .call 120 [(.t 49), (.t 51)]⟩,
    ⟨some 4, none, .mov (.t 52)⟩] none [4]
def r_codec_AppendEntry_13 : ACode := .reg [
    ⟨some 53, none, .mov (.t 5)⟩,
    ⟨some 4, none, .mov (.t 53)⟩] none [4]
def c_codec_AppendEntry : ACode :=
  (.seq r_codec_AppendEntry_0
  (.seq r_codec_AppendEntry_1
   (.seq (.seq r_codec_AppendEntry_2
     (.block 0 (.seq r_codec_AppendEntry_3
       (.cond (.t 20)
        (.seq r_codec_AppendEntry_4
         .ret)
        (.seq r_codec_AppendEntry_5
         (.cond (.t 26)
          (.seq r_codec_AppendEntry_6
           .ret)
          (.seq r_codec_AppendEntry_7
           (.cond (.t 35)
            (.seq r_codec_AppendEntry_8
             .ret)
            (.seq r_codec_AppendEntry_9
             (.cond (.t 41)
              (.seq r_codec_AppendEntry_10
               .ret)
              (.seq r_codec_AppendEntry_11
               (.cond (.t 47)
                (.seq r_codec_AppendEntry_12
                 .ret)
                .skip))))))))))))
    (.seq r_codec_AppendEntry_13
     .ret))))
theorem fits_codec_AppendEntry : Fits Try.prog 76 54 c_codec_AppendEntry [.t 4] := ⟨⟨Try.f76, _, _, Try.func76, rfl, rfl, rfl, by decide, by kernel_rfl, by kernel_rfl⟩, Try.checked.mixed⟩
def r_codec_putInt_0 : ACode := .reg [
    ⟨some 4, none, .mov (.k (.slice none 0 0))⟩] none [0, 1]
def r_codec_putInt_1 : ACode := .reg [
    ⟨some 6, none, .mov (.t 1)⟩,
    ⟨some 7, none, .conv .u64 (.t 6)⟩,
    ⟨some 8, none, .bin .shl (.t 7) (.k (.int .u64 (1)))⟩,
    ⟨some 5, none, .mov (.t 8)⟩] none [0, 1, 5]
def r_codec_putInt_2 : ACode := .reg [
    ⟨some 9, none, .mov (.t 1)⟩,
    ⟨some 10, none, .bin .lss (.t 9) (.k (.int .i64 (0)))⟩] none [0, 5, 10]
def r_codec_putInt_3 : ACode := .reg [
    ⟨some 11, none, .mov (.t 5)⟩,
    ⟨some 12, none, .un .xor (.t 11)⟩,
    ⟨some 5, none, .mov (.t 12)⟩] none [0, 5]
def r_codec_putInt_4 : ACode := .reg [
    ⟨some 13, none, .mov (.t 5)⟩,
    ⟨some 14, none, .bin .geq (.t 13) (.k (.int .u64 (128)))⟩] none [0, 5, 14]
def r_codec_putInt_5 : ACode := .reg [
    ⟨some 15, none, .mov (.t 0)⟩,
    ⟨some 16, none, .mov (.t 5)⟩,
    ⟨some 17, none, .conv .u8 (.t 16)⟩,
    ⟨some 18, none, .bin .or (.t 17) (.k (.int .u8 (128)))⟩,
    ⟨some 19, none, .lit 5 1 1 [.int .u8 0] [(0, (.t 18))] false⟩,
    ⟨some 20, none, .app 5 1 1 (.t 15) (.t 19)⟩,
    ⟨some 0, none, .mov (.t 20)⟩] none [0, 5]
def r_codec_putInt_6 : ACode := .reg [
    ⟨some 21, none, .mov (.t 5)⟩,
    ⟨some 22, none, .bin .shr (.t 21) (.k (.int .u64 (7)))⟩,
    ⟨some 5, none, .mov (.t 22)⟩] none [0, 5]
def r_codec_putInt_7 : ACode := .reg [
    ⟨some 23, none, .mov (.t 0)⟩,
    ⟨some 24, none, .mov (.t 5)⟩,
    ⟨some 25, none, .conv .u8 (.t 24)⟩,
    ⟨some 26, none, .lit 5 1 1 [.int .u8 0] [(0, (.t 25))] false⟩,
    ⟨some 27, none, .app 5 1 1 (.t 23) (.t 26)⟩,
    ⟨some 4, none, .mov (.t 27)⟩] none [4]
def c_codec_putInt : ACode :=
  (.seq r_codec_putInt_0
  (.seq r_codec_putInt_1
   (.seq (.seq r_codec_putInt_2
     (.cond (.t 10)
      r_codec_putInt_3
      .skip))
    (.seq (.block 0 (.loop (.seq (.seq r_codec_putInt_4
         (.cond (.t 14)
          .skip
          (.exit 0)))
        (.block 1 (.seq r_codec_putInt_5
          r_codec_putInt_6)))))
     (.seq r_codec_putInt_7
      .ret)))))
theorem fits_codec_putInt : Fits Try.prog 87 28 c_codec_putInt [.t 4] := ⟨⟨Try.f87, _, _, Try.func87, rfl, rfl, rfl, by decide, by kernel_rfl, by kernel_rfl⟩, Try.checked.mixed⟩
def r_codec_cloned_0 : ACode := .reg [
    ⟨some 2, none, .mov (.k (.slice none 0 0))⟩] none [0]
def r_codec_cloned_1 : ACode := .reg [
    ⟨some 3, none, .mov (.t 0)⟩,
    ⟨some 4, none, .len (.t 3)⟩,
    ⟨some 5, none, .bin .add (.t 4) (.k (.int .i64 (32)))⟩,
    ⟨some 6, none, .make 5 1 1 [.int .u8 0] (.k (.int .i64 (0))) (.t 5) true⟩,
    ⟨some 7, none, .mov (.t 0)⟩,
    ⟨some 8, none, .app 5 1 1 (.t 6) (.t 7)⟩,
    ⟨some 2, none, .mov (.t 8)⟩] none [2]
def c_codec_cloned : ACode :=
  (.seq r_codec_cloned_0
  (.seq r_codec_cloned_1
   .ret))
theorem fits_codec_cloned : Fits Try.prog 88 9 c_codec_cloned [.t 2] := ⟨⟨Try.f88, _, _, Try.func88, rfl, rfl, rfl, by decide, by kernel_rfl, by kernel_rfl⟩, Try.checked.mixed⟩
def r_codec_source_integer_0 : ACode := .reg [
    ⟨some 2, none, .mov (.k (.int .i64 (0)))⟩] none [0]
def r_codec_source_integer_1 : ACode := .reg [
    ⟨some 3, none, .mov (.k (.int .u64 (0)))⟩] none [0, 3]
def r_codec_source_integer_2 : ACode := .reg [
    ⟨some 4, none, .mov (.k (.int .i64 (0)))⟩] none [0, 3, 4]
def r_codec_source_integer_3 : ACode := .reg [
    ⟨some 7, none, .mov (.t 0)⟩,
    ⟨some 8, none, .nilck (.t 7)⟩,
    ⟨some 9, none, .fld 1 (.t 8)⟩,
    ⟨some 10, none, .load none (.t 9)⟩,
    ⟨some 11, none, .bin .eql (.t 10) (.k (.int .i64 (0)))⟩] none [0, 3, 4, 11]
def r_codec_source_integer_4 : ACode := .reg [
    ⟨some 14, none, .mov (.t 4)⟩,
    ⟨some 15, none, .mov (.t 0)⟩,
    ⟨some 16, none, .nilck (.t 15)⟩,
    ⟨some 17, none, .fld 0 (.t 16)⟩,
    ⟨some 18, none, .load none (.t 17)⟩,
    ⟨some 19, none, .len (.t 18)⟩,
    ⟨some 20, none, .bin .geq (.t 14) (.t 19)⟩] none [0, 3, 4, 20]
def r_codec_source_integer_5 : ACode := .reg [
    ⟨some 21, none, .mov (.t 0)⟩,
    ⟨some 22, none, .call 114 [(.t 21), (.k (.int .i64 (100)))]⟩] none []
def r_codec_source_integer_6 : ACode := .reg [
    ⟨some 23, none, .mov (.t 0)⟩,
    ⟨some 24, none, .nilck (.t 23)⟩,
    ⟨some 25, none, .fld 0 (.t 24)⟩,
    ⟨some 26, none, .load none (.t 25)⟩,
    ⟨some 27, none, .mov (.t 4)⟩,
    ⟨some 28, none, .idxa 1 (.t 26) (.t 27)⟩,
    ⟨some 29, none, .load none (.t 28)⟩,
    ⟨some 5, none, .mov (.t 29)⟩] none [0, 3, 4, 5]
def r_codec_source_integer_7 : ACode := .reg [
    ⟨some 30, none, .mov (.t 4)⟩,
    ⟨some 31, none, .bin .eql (.t 30) (.k (.int .i64 (9)))⟩,
    ⟨some 32, none, .mov (.t 31)⟩,
    ⟨some 33, (some (32, true)), .mov (.t 5)⟩,
    ⟨some 34, (some (32, true)), .bin .gtr (.t 33) (.k (.int .u8 (1)))⟩,
    ⟨some 35, none, .pick (.t 32) (.t 34) (.k (.bool false))⟩,
    ⟨some 36, none, .mov (.t 35)⟩,
    ⟨some 37, (some (36, false)), .mov (.t 4)⟩,
    ⟨some 38, (some (36, false)), .bin .gtr (.t 37) (.k (.int .i64 (0)))⟩,
    ⟨some 39, (some (36, false)), .mov (.t 38)⟩,
    ⟨some 40, (some (39, true)), .mov (.t 5)⟩,
    ⟨some 41, (some (39, true)), .bin .eql (.t 40) (.k (.int .u8 (0)))⟩,
    ⟨some 42, (some (36, false)), .pick (.t 39) (.t 41) (.k (.bool false))⟩,
    ⟨some 43, none, .pick (.t 36) (.k (.bool true)) (.t 42)⟩] none [0, 3, 4, 5, 43]
def r_codec_source_integer_8 : ACode := .reg [
    ⟨some 44, none, .mov (.t 0)⟩,
    ⟨some 45, none, .call 114 [(.t 44), (.k (.int .i64 (1)))]⟩] none []
def r_codec_source_integer_9 : ACode := .reg [
    ⟨some 46, none, .mov (.t 3)⟩,
    ⟨some 47, none, .mov (.t 5)⟩,
    ⟨some 48, none, .bin .and (.t 47) (.k (.int .u8 (127)))⟩,
    ⟨some 49, none, .conv .u64 (.t 48)⟩,
    ⟨some 50, none, .mov (.t 4)⟩,
    ⟨some 51, none, .conv .u64 (.t 50)⟩,
    ⟨some 52, none, .bin .mul (.k (.int .u64 (7))) (.t 51)⟩,
    ⟨some 53, none, .bin .shl (.t 49) (.t 52)⟩,
    ⟨some 54, none, .bin .or (.t 46) (.t 53)⟩,
    ⟨some 3, none, .mov (.t 54)⟩] none [0, 3, 4, 5]
def r_codec_source_integer_10 : ACode := .reg [
    ⟨some 55, none, .mov (.t 5)⟩,
    ⟨some 56, none, .bin .lss (.t 55) (.k (.int .u8 (128)))⟩] none [0, 3, 4, 56]
def r_codec_source_integer_11 : ACode := .reg [
    ⟨some 57, none, .mov (.t 0)⟩,
    ⟨some 58, none, .mov (.t 0)⟩,
    ⟨some 59, none, .nilck (.t 58)⟩,
    ⟨some 60, none, .fld 0 (.t 59)⟩,
    ⟨some 61, none, .load none (.t 60)⟩,
    ⟨some 62, none, .mov (.t 4)⟩,
    ⟨some 63, none, .bin .add (.t 62) (.k (.int .i64 (1)))⟩,
    ⟨some 64, none, .mov (.t 0)⟩,
    ⟨some 65, none, .nilck (.t 64)⟩,
    ⟨some 66, none, .fld 0 (.t 65)⟩,
    ⟨some 67, none, .load none (.t 66)⟩,
    ⟨some 68, none, .len (.t 67)⟩,
    ⟨some 69, none, .mov (.t 0)⟩,
    ⟨some 70, none, .nilck (.t 69)⟩,
    ⟨some 71, none, .fld 0 (.t 70)⟩,
    ⟨some 72, none, .load none (.t 71)⟩,
    ⟨some 73, none, .len (.t 72)⟩,
    ⟨some 74, none, .sl 1 (.t 61) (some (.t 63)) (some (.t 68)) (some (.t 73))⟩,
    ⟨some 75, none, .nilck (.t 57)⟩,
    ⟨some 76, none, .fld 0 (.t 75)⟩,
    ⟨none, none, .store 1 (.t 76) (.t 74)⟩] (some [0, 0, 2, 6, 14, 0, 32, 0, 128, 384, 896, 1920, 0, 4096, 12288, 28672, 61440, 131070, 262143, 524287, 1048575]) [3]
def r_codec_source_integer_12 : ACode := .reg [
    ⟨some 77, none, .mov (.t 3)⟩,
    ⟨some 78, none, .bin .shr (.t 77) (.k (.int .u64 (1)))⟩,
    ⟨some 79, none, .conv .i64 (.t 78)⟩,
    ⟨some 6, none, .mov (.t 79)⟩] none [3, 6]
def r_codec_source_integer_13 : ACode := .reg [
    ⟨some 80, none, .mov (.t 3)⟩,
    ⟨some 81, none, .bin .and (.t 80) (.k (.int .u64 (1)))⟩,
    ⟨some 82, none, .bin .eql (.t 81) (.k (.int .u64 (1)))⟩] none [6, 82]
def r_codec_source_integer_14 : ACode := .reg [
    ⟨some 83, none, .mov (.t 6)⟩,
    ⟨some 84, none, .un .xor (.t 83)⟩,
    ⟨some 6, none, .mov (.t 84)⟩] none [6]
def r_codec_source_integer_15 : ACode := .reg [
    ⟨some 85, none, .mov (.t 6)⟩,
    ⟨some 2, none, .mov (.t 85)⟩] none [2]
def r_codec_source_integer_16 : ACode := .reg [
    ⟨some 12, none, .mov (.t 4)⟩,
    ⟨some 13, none, .bin .add (.t 12) (.k (.int .i64 (1)))⟩,
    ⟨some 4, none, .mov (.t 13)⟩] none [0, 3, 4]
def r_codec_source_integer_17 : ACode := .reg [
    ⟨some 2, none, .mov (.k (.int .i64 (0)))⟩] none [2]
def c_codec_source_integer : ACode :=
  (.seq r_codec_source_integer_0
  (.seq r_codec_source_integer_1
   (.seq (.seq r_codec_source_integer_2
     (.block 0 (.loop (.seq (.seq r_codec_source_integer_3
         (.cond (.t 11)
          .skip
          (.exit 0)))
        (.seq (.block 1 (.seq (.seq r_codec_source_integer_4
            (.cond (.t 20)
             (.seq r_codec_source_integer_5
              (.exit 0))
             .skip))
           (.seq r_codec_source_integer_6
            (.seq (.seq r_codec_source_integer_7
              (.cond (.t 43)
               (.seq r_codec_source_integer_8
                (.exit 0))
               .skip))
             (.seq r_codec_source_integer_9
              (.seq r_codec_source_integer_10
               (.cond (.t 56)
                (.seq r_codec_source_integer_11
                 (.seq r_codec_source_integer_12
                  (.seq (.seq r_codec_source_integer_13
                    (.cond (.t 82)
                     r_codec_source_integer_14
                     .skip))
                   (.seq r_codec_source_integer_15
                    .ret))))
                .skip)))))))
         r_codec_source_integer_16)))))
    (.seq r_codec_source_integer_17
     .ret))))
theorem fits_codec_source_integer : Fits Try.prog 89 86 c_codec_source_integer [.t 2] := ⟨⟨Try.f89, _, _, Try.func89, rfl, rfl, rfl, by decide, by kernel_rfl, by kernel_rfl⟩, Try.checked.mixed⟩
def r_codec_source_rest_0 : ACode := .reg [
    ⟨some 2, none, .mov (.k (.slice none 0 0))⟩] none [0]
def r_codec_source_rest_1 : ACode := .reg [
    ⟨some 3, none, .mov (.t 0)⟩,
    ⟨some 4, none, .nilck (.t 3)⟩,
    ⟨some 5, none, .fld 0 (.t 4)⟩,
    ⟨some 6, none, .load none (.t 5)⟩,
    ⟨some 7, none, .app 5 1 1 (.k (.slice none 0 0)) (.t 6)⟩,
    ⟨some 2, none, .mov (.t 7)⟩] none [2]
def c_codec_source_rest : ACode :=
  (.seq r_codec_source_rest_0
  (.seq r_codec_source_rest_1
   .ret))
theorem fits_codec_source_rest : Fits Try.prog 90 8 c_codec_source_rest [.t 2] := ⟨⟨Try.f90, _, _, Try.func90, rfl, rfl, rfl, by decide, by kernel_rfl, by kernel_rfl⟩, Try.checked.mixed⟩
def r_codec_putText_0 : ACode := .reg [
    ⟨some 4, none, .mov (.k (.slice none 0 0))⟩] none [0, 1]
def r_codec_putText_1 : ACode := .reg [
    ⟨some 5, none, .mov (.t 0)⟩,
    ⟨some 6, none, .mov (.t 1)⟩,
    ⟨some 7, none, .lens (.t 6)⟩,
    ⟨some 8, none, .call 87 [(.t 5), (.t 7)]⟩,
    ⟨some 9, none, .mov (.t 1)⟩,
    ⟨some 10, none, .apps 5 (.t 8) (.t 9)⟩,
    ⟨some 4, none, .mov (.t 10)⟩] none [4]
def c_codec_putText : ACode :=
  (.seq r_codec_putText_0
  (.seq r_codec_putText_1
   .ret))
theorem fits_codec_putText : Fits Try.prog 92 11 c_codec_putText [.t 4] := ⟨⟨Try.f92, _, _, Try.func92, rfl, rfl, rfl, by decide, by kernel_rfl, by kernel_rfl⟩, Try.checked.mixed⟩
def r_codec_source_text_0 : ACode := .reg [
    ⟨some 4, none, .mov (.k (.string { data := #[] }))⟩] none [0, 1]
def r_codec_source_text_1 : ACode := .reg [
    ⟨some 5, none, .mov (.t 0)⟩,
    ⟨some 6, none, .mov (.t 0)⟩,
    ⟨some 7, none, .mov (.t 1)⟩,
    ⟨some 8, none, .call 108 [(.t 6), (.t 7)]⟩,
    ⟨some 9, none, .call 130 [(.t 5), (.t 8)]⟩,
    ⟨some 10, none, .tostr (.t 9)⟩,
    ⟨some 4, none, .mov (.t 10)⟩] none [4]
def c_codec_source_text : ACode :=
  (.seq r_codec_source_text_0
  (.seq r_codec_source_text_1
   .ret))
theorem fits_codec_source_text : Fits Try.prog 93 11 c_codec_source_text [.t 4] := ⟨⟨Try.f93, _, _, Try.func93, rfl, rfl, rfl, by decide, by kernel_rfl, by kernel_rfl⟩, Try.checked.mixed⟩
def r_codec_putSources_0 : ACode := .reg [
    ⟨some 4, none, .mov (.k (.slice none 0 0))⟩] none [0, 1]
def r_codec_putSources_1 : ACode := .reg [
    ⟨some 6, none, .mov (.t 0)⟩,
    ⟨some 7, none, .mov (.t 1)⟩,
    ⟨some 8, none, .len (.t 7)⟩,
    ⟨some 9, none, .call 87 [(.t 6), (.t 8)]⟩,
    ⟨some 0, none, .mov (.t 9)⟩] none [0, 1]
def r_codec_putSources_2 : ACode := .reg [
    ⟨some 5, none, .mov (.k (.int .i64 (0)))⟩] none [0, 1, 5]
def r_codec_putSources_3 : ACode := .reg [
    ⟨some 10, none, .mov (.t 5)⟩,
    ⟨some 11, none, .mov (.t 1)⟩,
    ⟨some 12, none, .len (.t 11)⟩,
    ⟨some 13, none, .bin .lss (.t 10) (.t 12)⟩] none [0, 1, 5, 13]
def r_codec_putSources_4 : ACode := .reg [
    ⟨some 16, none, .mov (.t 0)⟩,
    ⟨some 17, none, .mov (.t 1)⟩,
    ⟨some 18, none, .mov (.t 5)⟩,
    ⟨some 19, none, .idxa 2 (.t 17) (.t 18)⟩,
    ⟨some 20, none, .fld 0 (.t 19)⟩,
    ⟨some 21, none, .load none (.t 20)⟩,
    ⟨some 22, none, .mov (.t 1)⟩,
    ⟨some 23, none, .mov (.t 5)⟩,
    ⟨some 24, none, .idxa 2 (.t 22) (.t 23)⟩,
    ⟨some 25, none, .fld 1 (.t 24)⟩,
    ⟨some 26, none, .load none (.t 25)⟩,
    ⟨some 27, none, .lit 3 1 2 [.int .i64 0] [(0, (.t 21)), (1, (.t 26))] false⟩,
    ⟨some 28, none, .call 110 [(.t 16), (.t 27)]⟩,
    ⟨some 0, none, .mov (.t 28)⟩] (some [0, 0, 0, 6, 14, 30, 0, 0, 192, 448, 960, 2046, 4095, 8191]) [0, 1, 5]
def r_codec_putSources_5 : ACode := .reg [
    ⟨some 14, none, .mov (.t 5)⟩,
    ⟨some 15, none, .bin .add (.t 14) (.k (.int .i64 (1)))⟩,
    ⟨some 5, none, .mov (.t 15)⟩] none [0, 1, 5]
def r_codec_putSources_6 : ACode := .reg [
    ⟨some 29, none, .mov (.t 0)⟩,
    ⟨some 4, none, .mov (.t 29)⟩] none [4]
def c_codec_putSources : ACode :=
  (.seq r_codec_putSources_0
  (.seq r_codec_putSources_1
   (.seq (.seq r_codec_putSources_2
     (.block 0 (.loop (.seq (.seq r_codec_putSources_3
         (.cond (.t 13)
          .skip
          (.exit 0)))
        (.seq (.block 1 r_codec_putSources_4)
         r_codec_putSources_5)))))
    (.seq r_codec_putSources_6
     .ret))))
theorem fits_codec_putSources : Fits Try.prog 94 30 c_codec_putSources [.t 4] := ⟨⟨Try.f94, _, _, Try.func94, rfl, rfl, rfl, by decide, by kernel_rfl, by kernel_rfl⟩, Try.checked.mixed⟩
def r_codec_putVersions_0 : ACode := .reg [
    ⟨some 4, none, .mov (.k (.slice none 0 0))⟩] none [0, 1]
def r_codec_putVersions_1 : ACode := .reg [
    ⟨some 6, none, .mov (.t 0)⟩,
    ⟨some 7, none, .mov (.t 1)⟩,
    ⟨some 8, none, .len (.t 7)⟩,
    ⟨some 9, none, .call 87 [(.t 6), (.t 8)]⟩,
    ⟨some 0, none, .mov (.t 9)⟩] none [0, 1]
def r_codec_putVersions_2 : ACode := .reg [
    ⟨some 5, none, .mov (.k (.int .i64 (0)))⟩] none [0, 1, 5]
def r_codec_putVersions_3 : ACode := .reg [
    ⟨some 10, none, .mov (.t 5)⟩,
    ⟨some 11, none, .mov (.t 1)⟩,
    ⟨some 12, none, .len (.t 11)⟩,
    ⟨some 13, none, .bin .lss (.t 10) (.t 12)⟩] none [0, 1, 5, 13]
def r_codec_putVersions_4 : ACode := .reg [
    ⟨some 16, none, .mov (.t 0)⟩,
    ⟨some 17, none, .mov (.t 1)⟩,
    ⟨some 18, none, .mov (.t 5)⟩,
    ⟨some 19, none, .idxa 3 (.t 17) (.t 18)⟩,
    ⟨some 20, none, .fld 0 (.t 19)⟩,
    ⟨some 21, none, .load none (.t 20)⟩,
    ⟨some 22, none, .mov (.t 1)⟩,
    ⟨some 23, none, .mov (.t 5)⟩,
    ⟨some 24, none, .idxa 3 (.t 22) (.t 23)⟩,
    ⟨some 25, none, .fld 2 (.t 24)⟩,
    ⟨some 26, none, .load none (.t 25)⟩,
    ⟨some 27, none, .mov (.t 1)⟩,
    ⟨some 28, none, .mov (.t 5)⟩,
    ⟨some 29, none, .idxa 3 (.t 27) (.t 28)⟩,
    ⟨some 30, none, .fld 1 (.t 29)⟩,
    ⟨some 31, none, .load none (.t 30)⟩,
    ⟨some 32, none, .lit 3 1 3 [.int .i64 0] [(0, (.t 21)), (1, (.t 26)), (2, (.t 31))] false⟩,
    ⟨some 33, none, .call 110 [(.t 16), (.t 32)]⟩,
    ⟨some 0, none, .mov (.t 33)⟩] (some [0, 0, 0, 6, 14, 30, 0, 0, 192, 448, 960, 0, 0, 6144, 14336, 30720, 65534, 131071, 262143]) [0, 1, 5]
def r_codec_putVersions_5 : ACode := .reg [
    ⟨some 14, none, .mov (.t 5)⟩,
    ⟨some 15, none, .bin .add (.t 14) (.k (.int .i64 (1)))⟩,
    ⟨some 5, none, .mov (.t 15)⟩] none [0, 1, 5]
def r_codec_putVersions_6 : ACode := .reg [
    ⟨some 34, none, .mov (.t 0)⟩,
    ⟨some 4, none, .mov (.t 34)⟩] none [4]
def c_codec_putVersions : ACode :=
  (.seq r_codec_putVersions_0
  (.seq r_codec_putVersions_1
   (.seq (.seq r_codec_putVersions_2
     (.block 0 (.loop (.seq (.seq r_codec_putVersions_3
         (.cond (.t 13)
          .skip
          (.exit 0)))
        (.seq (.block 1 r_codec_putVersions_4)
         r_codec_putVersions_5)))))
    (.seq r_codec_putVersions_6
     .ret))))
theorem fits_codec_putVersions : Fits Try.prog 95 35 c_codec_putVersions [.t 4] := ⟨⟨Try.f95, _, _, Try.func95, rfl, rfl, rfl, by decide, by kernel_rfl, by kernel_rfl⟩, Try.checked.mixed⟩
def r_codec_source_versions_0 : ACode := .reg [
    ⟨some 2, none, .mov (.k (.slice none 0 0))⟩] none [0]
def r_codec_source_versions_1 : ACode := .reg [
    ⟨some 7, none, .mov (.t 0)⟩,
    ⟨some 8, none, .call 108 [(.t 7), (.k (.int .i64 (512)))]⟩,
    ⟨some 3, none, .mov (.t 8)⟩] none [0, 3]
def r_codec_source_versions_2 : ACode := .reg [
    ⟨some 4, none, .mov (.k (.slice none 0 0))⟩] none [0, 3, 4]
def r_codec_source_versions_3 : ACode := .reg [
    ⟨some 5, none, .mov (.k (.int .i64 (0)))⟩] none [0, 3, 4, 5]
def r_codec_source_versions_4 : ACode := .reg [
    ⟨some 9, none, .mov (.t 5)⟩,
    ⟨some 10, none, .mov (.t 3)⟩,
    ⟨some 11, none, .bin .lss (.t 9) (.t 10)⟩,
    ⟨some 12, none, .mov (.t 11)⟩,
    ⟨some 13, (some (12, true)), .mov (.t 0)⟩,
    ⟨some 14, (some (12, true)), .nilck (.t 13)⟩,
    ⟨some 15, (some (12, true)), .fld 1 (.t 14)⟩,
    ⟨some 16, (some (12, true)), .load none (.t 15)⟩,
    ⟨some 17, (some (12, true)), .bin .eql (.t 16) (.k (.int .i64 (0)))⟩,
    ⟨some 18, none, .pick (.t 12) (.t 17) (.k (.bool false))⟩] none [0, 3, 4, 5, 18]
def r_codec_source_versions_5 : ACode := .reg [
    ⟨some 21, none, .mov (.t 0)⟩,
    ⟨some 22, none, .call 111 [(.t 21)]⟩,
    ⟨some 23, none, .build [.int .i64 0, .int .i64 0, .int .i64 0] [(0, 1, (.t 22))]⟩,
    ⟨some 6, none, .alloc 161 [.int .i64 0, .int .i64 0, .int .i64 0]⟩,
    ⟨none, none, .store 3 (.t 6) (.t 23)⟩] none [0, 3, 4, 5, 6]
def r_codec_source_versions_6 : ACode := .reg [
    ⟨some 24, none, .mov (.t 0)⟩,
    ⟨some 25, none, .call 111 [(.t 24)]⟩,
    ⟨some 26, none, .fld 2 (.t 6)⟩,
    ⟨none, none, .store 1 (.t 26) (.t 25)⟩] none [0, 3, 4, 5, 6]
def r_codec_source_versions_7 : ACode := .reg [
    ⟨some 27, none, .mov (.t 0)⟩,
    ⟨some 28, none, .call 111 [(.t 27)]⟩,
    ⟨some 29, none, .fld 1 (.t 6)⟩,
    ⟨none, none, .store 1 (.t 29) (.t 28)⟩] none [0, 3, 4, 5, 6]
def r_codec_source_versions_8 : ACode := .reg [
    ⟨some 30, none, .mov (.t 4)⟩,
    ⟨some 31, none, .load (some 3) (.t 6)⟩,
    ⟨some 32, none, .lit 161 3 1 [.int .i64 0, .int .i64 0, .int .i64 0] [(0, (.t 31))] false⟩,
    ⟨some 33, none, .app 161 3 24 (.t 30) (.t 32)⟩,
    ⟨some 4, none, .mov (.t 33)⟩] none [0, 3, 4, 5]
def r_codec_source_versions_9 : ACode := .reg [
    ⟨some 19, none, .mov (.t 5)⟩,
    ⟨some 20, none, .bin .add (.t 19) (.k (.int .i64 (1)))⟩,
    ⟨some 5, none, .mov (.t 20)⟩] none [0, 3, 4, 5]
def r_codec_source_versions_10 : ACode := .reg [
    ⟨some 34, none, .mov (.t 4)⟩,
    ⟨some 2, none, .mov (.t 34)⟩] none [2]
def c_codec_source_versions : ACode :=
  (.seq r_codec_source_versions_0
  (.seq r_codec_source_versions_1
   (.seq r_codec_source_versions_2
    (.seq (.seq r_codec_source_versions_3
      (.block 0 (.loop (.seq (.seq r_codec_source_versions_4
          (.cond (.t 18)
           .skip
           (.exit 0)))
         (.seq (.block 1 (.seq r_codec_source_versions_5
            (.seq r_codec_source_versions_6
             (.seq r_codec_source_versions_7
              r_codec_source_versions_8))))
          r_codec_source_versions_9)))))
     (.seq r_codec_source_versions_10
      .ret)))))
theorem fits_codec_source_versions : Fits Try.prog 96 35 c_codec_source_versions [.t 2] := ⟨⟨Try.f96, _, _, Try.func96, rfl, rfl, rfl, by decide, by kernel_rfl, by kernel_rfl⟩, Try.checked.mixed⟩
def r_codec_source_digest_0 : ACode := .reg [
    ⟨some 2, none, .alloc 45 [.int .u8 0, .int .u8 0, .int .u8 0, .int .u8 0, .int .u8 0, .int .u8 0, .int .u8 0, .int .u8 0, .int .u8 0, .int .u8 0, .int .u8 0, .int .u8 0, .int .u8 0, .int .u8 0, .int .u8 0, .int .u8 0, .int .u8 0, .int .u8 0, .int .u8 0, .int .u8 0, .int .u8 0, .int .u8 0, .int .u8 0, .int .u8 0, .int .u8 0, .int .u8 0, .int .u8 0, .int .u8 0, .int .u8 0, .int .u8 0, .int .u8 0, .int .u8 0]⟩] none [0, 2]
def r_codec_source_digest_1 : ACode := .reg [
    ⟨some 3, none, .alloc 45 [.int .u8 0, .int .u8 0, .int .u8 0, .int .u8 0, .int .u8 0, .int .u8 0, .int .u8 0, .int .u8 0, .int .u8 0, .int .u8 0, .int .u8 0, .int .u8 0, .int .u8 0, .int .u8 0, .int .u8 0, .int .u8 0, .int .u8 0, .int .u8 0, .int .u8 0, .int .u8 0, .int .u8 0, .int .u8 0, .int .u8 0, .int .u8 0, .int .u8 0, .int .u8 0, .int .u8 0, .int .u8 0, .int .u8 0, .int .u8 0, .int .u8 0, .int .u8 0]⟩] none [0, 2, 3]
def r_codec_source_digest_2 : ACode := .reg [
    ⟨some 4, none, .slr 32 1 (.t 3) none none none⟩,
    ⟨some 5, none, .mov (.t 0)⟩,
    ⟨some 6, none, .call 130 [(.t 5), (.k (.int .i64 (32)))]⟩,
    ⟨some 7, none, .copy 1 (.t 4) (.t 6)⟩] (some [0, 0, 2, 7]) [2, 3]
def r_codec_source_digest_3 : ACode := .reg [
    ⟨some 8, none, .load (some 32) (.t 3)⟩,
    ⟨none, none, .store 32 (.t 2) (.t 8)⟩] none [2]
def c_codec_source_digest : ACode :=
  (.seq r_codec_source_digest_0
  (.seq r_codec_source_digest_1
   (.seq r_codec_source_digest_2
    (.seq r_codec_source_digest_3
     .ret))))
theorem fits_codec_source_digest : Fits Try.prog 97 9 c_codec_source_digest [.c 2 (some 32)] := ⟨⟨Try.f97, _, _, Try.func97, rfl, rfl, rfl, by decide, by kernel_rfl, by kernel_rfl⟩, Try.checked.mixed⟩
def r_codec_source_sources_0 : ACode := .reg [
    ⟨some 2, none, .mov (.k (.slice none 0 0))⟩] none [0]
def r_codec_source_sources_1 : ACode := .reg [
    ⟨some 7, none, .mov (.t 0)⟩,
    ⟨some 8, none, .call 108 [(.t 7), (.k (.int .i64 (512)))]⟩,
    ⟨some 3, none, .mov (.t 8)⟩] none [0, 3]
def r_codec_source_sources_2 : ACode := .reg [
    ⟨some 4, none, .mov (.k (.slice none 0 0))⟩] none [0, 3, 4]
def r_codec_source_sources_3 : ACode := .reg [
    ⟨some 5, none, .mov (.k (.int .i64 (0)))⟩] none [0, 3, 4, 5]
def r_codec_source_sources_4 : ACode := .reg [
    ⟨some 9, none, .mov (.t 5)⟩,
    ⟨some 10, none, .mov (.t 3)⟩,
    ⟨some 11, none, .bin .lss (.t 9) (.t 10)⟩,
    ⟨some 12, none, .mov (.t 11)⟩,
    ⟨some 13, (some (12, true)), .mov (.t 0)⟩,
    ⟨some 14, (some (12, true)), .nilck (.t 13)⟩,
    ⟨some 15, (some (12, true)), .fld 1 (.t 14)⟩,
    ⟨some 16, (some (12, true)), .load none (.t 15)⟩,
    ⟨some 17, (some (12, true)), .bin .eql (.t 16) (.k (.int .i64 (0)))⟩,
    ⟨some 18, none, .pick (.t 12) (.t 17) (.k (.bool false))⟩] none [0, 3, 4, 5, 18]
def r_codec_source_sources_5 : ACode := .reg [
    ⟨some 21, none, .mov (.t 0)⟩,
    ⟨some 22, none, .call 111 [(.t 21)]⟩,
    ⟨some 23, none, .build [.int .i64 0, .int .i64 0] [(0, 1, (.t 22))]⟩,
    ⟨some 6, none, .alloc 163 [.int .i64 0, .int .i64 0]⟩,
    ⟨none, none, .store 2 (.t 6) (.t 23)⟩] none [0, 3, 4, 5, 6]
def r_codec_source_sources_6 : ACode := .reg [
    ⟨some 24, none, .mov (.t 0)⟩,
    ⟨some 25, none, .call 111 [(.t 24)]⟩,
    ⟨some 26, none, .fld 1 (.t 6)⟩,
    ⟨none, none, .store 1 (.t 26) (.t 25)⟩] none [0, 3, 4, 5, 6]
def r_codec_source_sources_7 : ACode := .reg [
    ⟨some 27, none, .mov (.t 4)⟩,
    ⟨some 28, none, .load (some 2) (.t 6)⟩,
    ⟨some 29, none, .lit 163 2 1 [.int .i64 0, .int .i64 0] [(0, (.t 28))] false⟩,
    ⟨some 30, none, .app 163 2 16 (.t 27) (.t 29)⟩,
    ⟨some 4, none, .mov (.t 30)⟩] none [0, 3, 4, 5]
def r_codec_source_sources_8 : ACode := .reg [
    ⟨some 19, none, .mov (.t 5)⟩,
    ⟨some 20, none, .bin .add (.t 19) (.k (.int .i64 (1)))⟩,
    ⟨some 5, none, .mov (.t 20)⟩] none [0, 3, 4, 5]
def r_codec_source_sources_9 : ACode := .reg [
    ⟨some 31, none, .mov (.t 4)⟩,
    ⟨some 2, none, .mov (.t 31)⟩] none [2]
def c_codec_source_sources : ACode :=
  (.seq r_codec_source_sources_0
  (.seq r_codec_source_sources_1
   (.seq r_codec_source_sources_2
    (.seq (.seq r_codec_source_sources_3
      (.block 0 (.loop (.seq (.seq r_codec_source_sources_4
          (.cond (.t 18)
           .skip
           (.exit 0)))
         (.seq (.block 1 (.seq r_codec_source_sources_5
            (.seq r_codec_source_sources_6
             r_codec_source_sources_7)))
          r_codec_source_sources_8)))))
     (.seq r_codec_source_sources_9
      .ret)))))
theorem fits_codec_source_sources : Fits Try.prog 98 32 c_codec_source_sources [.t 2] := ⟨⟨Try.f98, _, _, Try.func98, rfl, rfl, rfl, by decide, by kernel_rfl, by kernel_rfl⟩, Try.checked.mixed⟩
def r_codec_putValue_0 : ACode := .reg [
    ⟨some 3, none, .box 67 (.t 1)⟩,
    ⟨some 4, none, .mov (.k (.slice none 0 0))⟩] none [0, 3]
def r_codec_putValue_1 : ACode := .reg [
    ⟨some 5, none, .load (some 3) (.t 3)⟩,
    ⟨some 6, none, .call 131 [(.t 5)]⟩,
    ⟨none, none, .store 3 (.t 3) (.t 6)⟩] none [0, 3]
def r_codec_putValue_2 : ACode := .reg [
    ⟨some 7, none, .mov (.t 0)⟩,
    ⟨some 8, none, .fld 0 (.t 3)⟩,
    ⟨some 9, none, .load none (.t 8)⟩,
    ⟨some 10, none, .call 87 [(.t 7), (.t 9)]⟩,
    ⟨some 0, none, .mov (.t 10)⟩] none [0, 3]
def r_codec_putValue_3 : ACode := .reg [
    ⟨some 11, none, .fld 0 (.t 3)⟩,
    ⟨some 12, none, .load none (.t 11)⟩] none [0, 3, 12]
def r_codec_putValue_4 : ACode := .reg [
    ⟨some 14, none, .bin .eql (.t 12) (.k (.int .i64 (1)))⟩,
    ⟨some 13, none, .mov (.t 14)⟩] none [0, 3, 12, 13]
def r_codec_putValue_5 : ACode := .reg [
    ⟨some 15, none, .mov (.t 0)⟩,
    ⟨some 16, none, .fld 1 (.t 3)⟩,
    ⟨some 17, none, .load none (.t 16)⟩,
    ⟨some 18, none, .call 87 [(.t 15), (.t 17)]⟩,
    ⟨some 4, none, .mov (.t 18)⟩] none [4]
def r_codec_putValue_6 : ACode := .reg [
    ⟨some 20, none, .bin .eql (.t 12) (.k (.int .i64 (2)))⟩,
    ⟨some 19, none, .mov (.t 20)⟩] none [0, 3, 19]
def r_codec_putValue_7 : ACode := .reg [
    ⟨some 21, none, .mov (.t 0)⟩,
    ⟨some 22, none, .fld 2 (.t 3)⟩,
    ⟨some 23, none, .load none (.t 22)⟩,
    ⟨some 24, none, .call 92 [(.t 21), (.t 23)]⟩,
    ⟨some 4, none, .mov (.t 24)⟩] none [4]
def r_codec_putValue_8 : ACode := .reg [
    ⟨some 25, none, .mov (.t 0)⟩,
    ⟨some 4, none, .mov (.t 25)⟩] none [4]
def c_codec_putValue : ACode :=
  (.seq r_codec_putValue_0
  (.seq r_codec_putValue_1
   (.seq r_codec_putValue_2
    (.seq (.seq r_codec_putValue_3
      (.block 0 (.seq r_codec_putValue_4
        (.cond (.t 13)
         (.seq r_codec_putValue_5
          .ret)
         (.seq r_codec_putValue_6
          (.cond (.t 19)
           (.seq r_codec_putValue_7
            .ret)
           .skip))))))
     (.seq r_codec_putValue_8
      .ret)))))
theorem fits_codec_putValue : Fits Try.prog 104 26 c_codec_putValue [.t 4] := ⟨⟨Try.f104, _, _, Try.func104, rfl, rfl, rfl, by decide, by kernel_rfl, by kernel_rfl⟩, Try.checked.mixed⟩
def r_codec_source_value_0 : ACode := .reg [
    ⟨some 2, none, .alloc 67 [.int .i64 0, .int .i64 0, .string ⟨#[]⟩]⟩] none [0, 2]
def r_codec_source_value_1 : ACode := .reg [
    ⟨some 4, none, .mov (.t 0)⟩,
    ⟨some 5, none, .call 108 [(.t 4), (.k (.int .i64 (2)))]⟩] none [0, 2, 5]
def r_codec_source_value_2 : ACode := .reg [
    ⟨some 7, none, .bin .eql (.t 5) (.k (.int .i64 (1)))⟩,
    ⟨some 6, none, .mov (.t 7)⟩] none [0, 2, 5, 6]
def r_codec_source_value_3 : ACode := .reg [
    ⟨some 8, none, .mov (.t 0)⟩,
    ⟨some 9, none, .call 89 [(.t 8)]⟩,
    ⟨some 3, none, .mov (.t 9)⟩] none [0, 2, 3]
def r_codec_source_value_4 : ACode := .reg [
    ⟨some 10, none, .mov (.t 3)⟩,
    ⟨some 11, none, .bin .lss (.t 10) (.k (.int .i64 (-4294967296)))⟩,
    ⟨some 12, none, .mov (.t 11)⟩,
    ⟨some 13, (some (12, false)), .mov (.t 3)⟩,
    ⟨some 14, (some (12, false)), .bin .gtr (.t 13) (.k (.int .i64 (4294967296)))⟩,
    ⟨some 15, none, .pick (.t 12) (.k (.bool true)) (.t 14)⟩] none [0, 2, 3, 15]
def r_codec_source_value_5 : ACode := .reg [
    ⟨some 16, none, .mov (.t 0)⟩,
    ⟨some 17, none, .call 114 [(.t 16), (.k (.int .i64 (1)))]⟩] none [2, 3]
def r_codec_source_value_6 : ACode := .reg [
    ⟨some 18, none, .mov (.t 3)⟩,
    ⟨some 19, none, .build [.int .i64 0, .int .i64 0, .string ⟨#[]⟩] [(0, 1, (.k (.int .i64 (1)))), (1, 1, (.t 18))]⟩,
    ⟨none, none, .store 3 (.t 2) (.t 19)⟩] none [2]
def r_codec_source_value_7 : ACode := .reg [
    ⟨some 21, none, .bin .eql (.t 5) (.k (.int .i64 (2)))⟩,
    ⟨some 20, none, .mov (.t 21)⟩] none [0, 2, 20]
def r_codec_source_value_8 : ACode := .reg [
    ⟨some 22, none, .mov (.t 0)⟩,
    ⟨some 23, none, .call 93 [(.t 22), (.k (.int .i64 (32)))]⟩,
    ⟨some 24, none, .build [.int .i64 0, .int .i64 0, .string ⟨#[]⟩] [(0, 1, (.k (.int .i64 (2)))), (2, 1, (.t 23))]⟩,
    ⟨none, none, .store 3 (.t 2) (.t 24)⟩] none [2]
def r_codec_source_value_9 : ACode := .reg [
    ⟨some 25, none, .build [.int .i64 0, .int .i64 0, .string ⟨#[]⟩] []⟩,
    ⟨none, none, .store 3 (.t 2) (.t 25)⟩] none [2]
def c_codec_source_value : ACode :=
  (.seq r_codec_source_value_0
  (.seq (.seq r_codec_source_value_1
    (.block 0 (.seq r_codec_source_value_2
      (.cond (.t 6)
       (.seq r_codec_source_value_3
        (.seq (.seq r_codec_source_value_4
          (.cond (.t 15)
           r_codec_source_value_5
           .skip))
         (.seq r_codec_source_value_6
          .ret)))
       (.seq r_codec_source_value_7
        (.cond (.t 20)
         (.seq r_codec_source_value_8
          .ret)
         .skip))))))
   (.seq r_codec_source_value_9
    .ret)))
theorem fits_codec_source_value : Fits Try.prog 105 26 c_codec_source_value [.c 2 (some 3)] := ⟨⟨Try.f105, _, _, Try.func105, rfl, rfl, rfl, by decide, by kernel_rfl, by kernel_rfl⟩, Try.checked.mixed⟩
def r_codec_source_count_0 : ACode := .reg [
    ⟨some 4, none, .mov (.k (.int .i64 (0)))⟩] none [0, 1]
def r_codec_source_count_1 : ACode := .reg [
    ⟨some 6, none, .mov (.t 0)⟩,
    ⟨some 7, none, .call 89 [(.t 6)]⟩,
    ⟨some 5, none, .mov (.t 7)⟩] none [0, 1, 5]
def r_codec_source_count_2 : ACode := .reg [
    ⟨some 8, none, .mov (.t 5)⟩,
    ⟨some 9, none, .bin .lss (.t 8) (.k (.int .i64 (0)))⟩,
    ⟨some 10, none, .mov (.t 9)⟩,
    ⟨some 11, (some (10, false)), .mov (.t 5)⟩,
    ⟨some 12, (some (10, false)), .mov (.t 1)⟩,
    ⟨some 13, (some (10, false)), .bin .gtr (.t 11) (.t 12)⟩,
    ⟨some 14, none, .pick (.t 10) (.k (.bool true)) (.t 13)⟩] none [0, 5, 14]
def r_codec_source_count_3 : ACode := .reg [
    ⟨some 15, none, .mov (.t 0)⟩,
    ⟨some 16, none, .call 114 [(.t 15), (.k (.int .i64 (1)))]⟩] none [0, 5]
def r_codec_source_count_4 : ACode := .reg [
    ⟨some 17, none, .mov (.t 0)⟩,
    ⟨some 18, none, .nilck (.t 17)⟩,
    ⟨some 19, none, .fld 1 (.t 18)⟩,
    ⟨some 20, none, .load none (.t 19)⟩,
    ⟨some 21, none, .bin .neq (.t 20) (.k (.int .i64 (0)))⟩] none [5, 21]
def r_codec_source_count_5 : ACode := .reg [
    ⟨some 4, none, .mov (.k (.int .i64 (0)))⟩] none [4]
def r_codec_source_count_6 : ACode := .reg [
    ⟨some 22, none, .mov (.t 5)⟩,
    ⟨some 4, none, .mov (.t 22)⟩] none [4]
def c_codec_source_count : ACode :=
  (.seq r_codec_source_count_0
  (.seq r_codec_source_count_1
   (.seq (.seq r_codec_source_count_2
     (.cond (.t 14)
      r_codec_source_count_3
      .skip))
    (.seq (.seq r_codec_source_count_4
      (.cond (.t 21)
       (.seq r_codec_source_count_5
        .ret)
       .skip))
     (.seq r_codec_source_count_6
      .ret)))))
theorem fits_codec_source_count : Fits Try.prog 108 23 c_codec_source_count [.t 4] := ⟨⟨Try.f108, _, _, Try.func108, rfl, rfl, rfl, by decide, by kernel_rfl, by kernel_rfl⟩, Try.checked.mixed⟩
def r_codec_putInts_0 : ACode := .reg [
    ⟨some 4, none, .mov (.k (.slice none 0 0))⟩] none [0, 1]
def r_codec_putInts_1 : ACode := .reg [
    ⟨some 5, none, .mov (.k (.int .i64 (0)))⟩] none [0, 1, 5]
def r_codec_putInts_2 : ACode := .reg [
    ⟨some 6, none, .mov (.t 5)⟩,
    ⟨some 7, none, .mov (.t 1)⟩,
    ⟨some 8, none, .len (.t 7)⟩,
    ⟨some 9, none, .bin .lss (.t 6) (.t 8)⟩] none [0, 1, 5, 9]
def r_codec_putInts_3 : ACode := .reg [
    ⟨some 12, none, .mov (.t 0)⟩,
    ⟨some 13, none, .mov (.t 1)⟩,
    ⟨some 14, none, .mov (.t 5)⟩,
    ⟨some 15, none, .idxa 1 (.t 13) (.t 14)⟩,
    ⟨some 16, none, .load none (.t 15)⟩,
    ⟨some 17, none, .call 87 [(.t 12), (.t 16)]⟩,
    ⟨some 0, none, .mov (.t 17)⟩] none [0, 1, 5]
def r_codec_putInts_4 : ACode := .reg [
    ⟨some 10, none, .mov (.t 5)⟩,
    ⟨some 11, none, .bin .add (.t 10) (.k (.int .i64 (1)))⟩,
    ⟨some 5, none, .mov (.t 11)⟩] none [0, 1, 5]
def r_codec_putInts_5 : ACode := .reg [
    ⟨some 18, none, .mov (.t 0)⟩,
    ⟨some 4, none, .mov (.t 18)⟩] none [4]
def c_codec_putInts : ACode :=
  (.seq r_codec_putInts_0
  (.seq (.seq r_codec_putInts_1
    (.block 0 (.loop (.seq (.seq r_codec_putInts_2
        (.cond (.t 9)
         .skip
         (.exit 0)))
       (.seq (.block 1 r_codec_putInts_3)
        r_codec_putInts_4)))))
   (.seq r_codec_putInts_5
    .ret)))
theorem fits_codec_putInts : Fits Try.prog 110 19 c_codec_putInts [.t 4] := ⟨⟨Try.f110, _, _, Try.func110, rfl, rfl, rfl, by decide, by kernel_rfl, by kernel_rfl⟩, Try.checked.mixed⟩
def r_codec_source_number_0 : ACode := .reg [
    ⟨some 2, none, .mov (.k (.int .i64 (0)))⟩] none [0]
def r_codec_source_number_1 : ACode := .reg [
    ⟨some 3, none, .mov (.t 0)⟩,
    ⟨some 4, none, .call 89 [(.t 3)]⟩,
    ⟨some 2, none, .mov (.t 4)⟩] none [2]
def c_codec_source_number : ACode :=
  (.seq r_codec_source_number_0
  (.seq r_codec_source_number_1
   .ret))
theorem fits_codec_source_number : Fits Try.prog 111 5 c_codec_source_number [.t 2] := ⟨⟨Try.f111, _, _, Try.func111, rfl, rfl, rfl, by decide, by kernel_rfl, by kernel_rfl⟩, Try.checked.mixed⟩
def r_codec_source_fail_0 : ACode := .reg [
    ⟨some 4, none, .mov (.t 0)⟩,
    ⟨some 5, none, .nilck (.t 4)⟩,
    ⟨some 6, none, .fld 1 (.t 5)⟩,
    ⟨some 7, none, .load none (.t 6)⟩,
    ⟨some 8, none, .bin .eql (.t 7) (.k (.int .i64 (0)))⟩] none [0, 1, 8]
def r_codec_source_fail_1 : ACode := .reg [
    ⟨some 9, none, .mov (.t 0)⟩,
    ⟨some 10, none, .mov (.t 1)⟩,
    ⟨some 11, none, .nilck (.t 9)⟩,
    ⟨some 12, none, .fld 1 (.t 11)⟩,
    ⟨none, none, .store 1 (.t 12) (.t 10)⟩] none []
def c_codec_source_fail : ACode :=
  (.seq r_codec_source_fail_0
  (.cond (.t 8)
   r_codec_source_fail_1
   .skip))
theorem fits_codec_source_fail : Fits Try.prog 114 13 c_codec_source_fail [] := ⟨⟨Try.f114, _, _, Try.func114, rfl, rfl, rfl, by decide, by kernel_rfl, by kernel_rfl⟩, Try.checked.mixed⟩
def r_codec_source_request_0 : ACode := .reg [
    ⟨some 2, none, .alloc 105 [.int .i64 0, .string ⟨#[]⟩, .int .i64 0, .int .i64 0, .string ⟨#[]⟩, .int .i64 0, .int .i64 0, .int .i64 0]⟩] none [0, 2]
def r_codec_source_request_1 : ACode := .reg [
    ⟨some 4, none, .mov (.t 0)⟩,
    ⟨some 5, none, .call 111 [(.t 4)]⟩,
    ⟨some 6, none, .build [.int .i64 0, .string ⟨#[]⟩, .int .i64 0, .int .i64 0, .string ⟨#[]⟩, .int .i64 0, .int .i64 0, .int .i64 0] [(0, 1, (.t 5))]⟩,
    ⟨some 3, none, .alloc 105 [.int .i64 0, .string ⟨#[]⟩, .int .i64 0, .int .i64 0, .string ⟨#[]⟩, .int .i64 0, .int .i64 0, .int .i64 0]⟩,
    ⟨none, none, .store 8 (.t 3) (.t 6)⟩] none [0, 2, 3]
def r_codec_source_request_2 : ACode := .reg [
    ⟨some 7, none, .mov (.t 0)⟩,
    ⟨some 8, none, .call 122 [(.t 7)]⟩,
    ⟨some 9, none, .fld 1 (.t 3)⟩,
    ⟨none, none, .store 4 (.t 9) (.t 8)⟩] none [0, 2, 3]
def r_codec_source_request_3 : ACode := .reg [
    ⟨some 10, none, .mov (.t 0)⟩,
    ⟨some 11, none, .call 111 [(.t 10)]⟩,
    ⟨some 12, none, .fld 5 (.t 3)⟩,
    ⟨none, none, .store 1 (.t 12) (.t 11)⟩] none [0, 2, 3]
def r_codec_source_request_4 : ACode := .reg [
    ⟨some 13, none, .mov (.t 0)⟩,
    ⟨some 14, none, .call 111 [(.t 13)]⟩,
    ⟨some 15, none, .fld 6 (.t 3)⟩,
    ⟨none, none, .store 1 (.t 15) (.t 14)⟩] none [0, 2, 3]
def r_codec_source_request_5 : ACode := .reg [
    ⟨some 16, none, .mov (.t 0)⟩,
    ⟨some 17, none, .call 111 [(.t 16)]⟩,
    ⟨some 18, none, .fld 7 (.t 3)⟩,
    ⟨none, none, .store 1 (.t 18) (.t 17)⟩] none [2, 3]
def r_codec_source_request_6 : ACode := .reg [
    ⟨some 19, none, .load (some 8) (.t 3)⟩,
    ⟨none, none, .store 8 (.t 2) (.t 19)⟩] none [2]
def c_codec_source_request : ACode :=
  (.seq r_codec_source_request_0
  (.seq r_codec_source_request_1
   (.seq r_codec_source_request_2
    (.seq r_codec_source_request_3
     (.seq r_codec_source_request_4
      (.seq r_codec_source_request_5
       (.seq r_codec_source_request_6
        .ret)))))))
theorem fits_codec_source_request : Fits Try.prog 115 20 c_codec_source_request [.c 2 (some 8)] := ⟨⟨Try.f115, _, _, Try.func115, rfl, rfl, rfl, by decide, by kernel_rfl, by kernel_rfl⟩, Try.checked.mixed⟩
def r_codec_source_link_0 : ACode := .reg [
    ⟨some 2, none, .alloc 107 [.string ⟨#[]⟩, .int .i64 0, .int .i64 0, .string ⟨#[]⟩, .string ⟨#[]⟩, .int .i64 0, .int .i64 0, .string ⟨#[]⟩, .int .i64 0, .bool false]⟩] none [0, 2]
def r_codec_source_link_1 : ACode := .reg [
    ⟨some 4, none, .mov (.t 0)⟩,
    ⟨some 5, none, .call 122 [(.t 4)]⟩,
    ⟨some 6, none, .build [.string ⟨#[]⟩, .int .i64 0, .int .i64 0, .string ⟨#[]⟩, .string ⟨#[]⟩, .int .i64 0, .int .i64 0, .string ⟨#[]⟩, .int .i64 0, .bool false] [(0, 4, (.t 5))]⟩,
    ⟨some 3, none, .alloc 107 [.string ⟨#[]⟩, .int .i64 0, .int .i64 0, .string ⟨#[]⟩, .string ⟨#[]⟩, .int .i64 0, .int .i64 0, .string ⟨#[]⟩, .int .i64 0, .bool false]⟩,
    ⟨none, none, .store 10 (.t 3) (.t 6)⟩] none [0, 2, 3]
def r_codec_source_link_2 : ACode := .reg [
    ⟨some 7, none, .mov (.t 0)⟩,
    ⟨some 8, none, .call 122 [(.t 7)]⟩,
    ⟨some 9, none, .fld 4 (.t 3)⟩,
    ⟨none, none, .store 4 (.t 9) (.t 8)⟩] none [0, 2, 3]
def r_codec_source_link_3 : ACode := .reg [
    ⟨some 10, none, .mov (.t 0)⟩,
    ⟨some 11, none, .call 111 [(.t 10)]⟩,
    ⟨some 12, none, .fld 8 (.t 3)⟩,
    ⟨none, none, .store 1 (.t 12) (.t 11)⟩] none [0, 2, 3]
def r_codec_source_link_4 : ACode := .reg [
    ⟨some 13, none, .mov (.t 0)⟩,
    ⟨some 14, none, .call 108 [(.t 13), (.k (.int .i64 (1)))]⟩,
    ⟨some 15, none, .bin .eql (.t 14) (.k (.int .i64 (1)))⟩,
    ⟨some 16, none, .fld 9 (.t 3)⟩,
    ⟨none, none, .store 1 (.t 16) (.t 15)⟩] none [2, 3]
def r_codec_source_link_5 : ACode := .reg [
    ⟨some 17, none, .load (some 10) (.t 3)⟩,
    ⟨none, none, .store 10 (.t 2) (.t 17)⟩] none [2]
def c_codec_source_link : ACode :=
  (.seq r_codec_source_link_0
  (.seq r_codec_source_link_1
   (.seq r_codec_source_link_2
    (.seq r_codec_source_link_3
     (.seq r_codec_source_link_4
      (.seq r_codec_source_link_5
       .ret))))))
theorem fits_codec_source_link : Fits Try.prog 116 18 c_codec_source_link [.c 2 (some 10)] := ⟨⟨Try.f116, _, _, Try.func116, rfl, rfl, rfl, by decide, by kernel_rfl, by kernel_rfl⟩, Try.checked.mixed⟩
def r_codec_source_hold_0 : ACode := .reg [
    ⟨some 2, none, .alloc 109 [.int .i64 0, .int .i64 0, .string ⟨#[]⟩, .int .i64 0, .int .i64 0, .string ⟨#[]⟩, .int .i64 0, .int .i64 0, .int .i64 0]⟩] none [0, 2]
def r_codec_source_hold_1 : ACode := .reg [
    ⟨some 4, none, .mov (.t 0)⟩,
    ⟨some 5, none, .call 111 [(.t 4)]⟩,
    ⟨some 6, none, .build [.int .i64 0, .int .i64 0, .string ⟨#[]⟩, .int .i64 0, .int .i64 0, .string ⟨#[]⟩, .int .i64 0, .int .i64 0, .int .i64 0] [(0, 1, (.t 5))]⟩,
    ⟨some 3, none, .alloc 109 [.int .i64 0, .int .i64 0, .string ⟨#[]⟩, .int .i64 0, .int .i64 0, .string ⟨#[]⟩, .int .i64 0, .int .i64 0, .int .i64 0]⟩,
    ⟨none, none, .store 9 (.t 3) (.t 6)⟩] none [0, 2, 3]
def r_codec_source_hold_2 : ACode := .reg [
    ⟨some 7, none, .mov (.t 0)⟩,
    ⟨some 8, none, .call 111 [(.t 7)]⟩,
    ⟨some 9, none, .fld 1 (.t 3)⟩,
    ⟨none, none, .store 1 (.t 9) (.t 8)⟩] none [0, 2, 3]
def r_codec_source_hold_3 : ACode := .reg [
    ⟨some 10, none, .mov (.t 0)⟩,
    ⟨some 11, none, .call 122 [(.t 10)]⟩,
    ⟨some 12, none, .fld 2 (.t 3)⟩,
    ⟨none, none, .store 4 (.t 12) (.t 11)⟩] none [0, 2, 3]
def r_codec_source_hold_4 : ACode := .reg [
    ⟨some 13, none, .mov (.t 0)⟩,
    ⟨some 14, none, .call 111 [(.t 13)]⟩,
    ⟨some 15, none, .fld 6 (.t 3)⟩,
    ⟨none, none, .store 1 (.t 15) (.t 14)⟩] none [0, 2, 3]
def r_codec_source_hold_5 : ACode := .reg [
    ⟨some 16, none, .mov (.t 0)⟩,
    ⟨some 17, none, .call 111 [(.t 16)]⟩,
    ⟨some 18, none, .fld 7 (.t 3)⟩,
    ⟨none, none, .store 1 (.t 18) (.t 17)⟩] none [0, 2, 3]
def r_codec_source_hold_6 : ACode := .reg [
    ⟨some 19, none, .mov (.t 0)⟩,
    ⟨some 20, none, .call 111 [(.t 19)]⟩,
    ⟨some 21, none, .fld 8 (.t 3)⟩,
    ⟨none, none, .store 1 (.t 21) (.t 20)⟩] none [2, 3]
def r_codec_source_hold_7 : ACode := .reg [
    ⟨some 22, none, .load (some 9) (.t 3)⟩,
    ⟨none, none, .store 9 (.t 2) (.t 22)⟩] none [2]
def c_codec_source_hold : ACode :=
  (.seq r_codec_source_hold_0
  (.seq r_codec_source_hold_1
   (.seq r_codec_source_hold_2
    (.seq r_codec_source_hold_3
     (.seq r_codec_source_hold_4
      (.seq r_codec_source_hold_5
       (.seq r_codec_source_hold_6
        (.seq r_codec_source_hold_7
         .ret))))))))
theorem fits_codec_source_hold : Fits Try.prog 117 23 c_codec_source_hold [.c 2 (some 9)] := ⟨⟨Try.f117, _, _, Try.func117, rfl, rfl, rfl, by decide, by kernel_rfl, by kernel_rfl⟩, Try.checked.mixed⟩
def r_codec_putRequest_0 : ACode := .reg [
    ⟨some 3, none, .box 105 (.t 1)⟩,
    ⟨some 4, none, .mov (.k (.slice none 0 0))⟩] none [0, 3]
def r_codec_putRequest_1 : ACode := .reg [
    ⟨some 5, none, .mov (.t 0)⟩,
    ⟨some 6, none, .fld 0 (.t 3)⟩,
    ⟨some 7, none, .load none (.t 6)⟩,
    ⟨some 8, none, .lit 3 1 1 [.int .i64 0] [(0, (.t 7))] false⟩,
    ⟨some 9, none, .call 110 [(.t 5), (.t 8)]⟩,
    ⟨some 10, none, .fld 1 (.t 3)⟩,
    ⟨some 11, none, .load (some 4) (.t 10)⟩,
    ⟨some 12, none, .call 123 [(.t 9), (.t 11)]⟩,
    ⟨some 13, none, .fld 5 (.t 3)⟩,
    ⟨some 14, none, .load none (.t 13)⟩,
    ⟨some 15, none, .fld 6 (.t 3)⟩,
    ⟨some 16, none, .load none (.t 15)⟩,
    ⟨some 17, none, .fld 7 (.t 3)⟩,
    ⟨some 18, none, .load none (.t 17)⟩,
    ⟨some 19, none, .lit 3 1 3 [.int .i64 0] [(0, (.t 14)), (1, (.t 16)), (2, (.t 18))] false⟩,
    ⟨some 20, none, .call 110 [(.t 12), (.t 19)]⟩,
    ⟨some 4, none, .mov (.t 20)⟩] (some [0, 0, 2, 6, 15, 0, 32, 127, 0, 256, 0, 1024, 0, 4096, 16128, 32767, 65535]) [4]
def c_codec_putRequest : ACode :=
  (.seq r_codec_putRequest_0
  (.seq r_codec_putRequest_1
   .ret))
theorem fits_codec_putRequest : Fits Try.prog 118 21 c_codec_putRequest [.t 4] := ⟨⟨Try.f118, _, _, Try.func118, rfl, rfl, rfl, by decide, by kernel_rfl, by kernel_rfl⟩, Try.checked.mixed⟩
def r_codec_putLink_0 : ACode := .reg [
    ⟨some 3, none, .box 107 (.t 1)⟩,
    ⟨some 4, none, .mov (.k (.slice none 0 0))⟩] none [0, 3]
def r_codec_putLink_1 : ACode := .reg [
    ⟨some 5, none, .mov (.t 0)⟩,
    ⟨some 6, none, .fld 0 (.t 3)⟩,
    ⟨some 7, none, .load (some 4) (.t 6)⟩,
    ⟨some 8, none, .call 123 [(.t 5), (.t 7)]⟩,
    ⟨some 9, none, .fld 4 (.t 3)⟩,
    ⟨some 10, none, .load (some 4) (.t 9)⟩,
    ⟨some 11, none, .call 123 [(.t 8), (.t 10)]⟩,
    ⟨some 12, none, .fld 8 (.t 3)⟩,
    ⟨some 13, none, .load none (.t 12)⟩,
    ⟨some 14, none, .lit 3 1 1 [.int .i64 0] [(0, (.t 13))] false⟩,
    ⟨some 15, none, .call 110 [(.t 11), (.t 14)]⟩,
    ⟨some 0, none, .mov (.t 15)⟩] (some [0, 0, 2, 7, 0, 16, 63, 0, 128, 384, 1023, 2047]) [0, 3]
def r_codec_putLink_2 : ACode := .reg [
    ⟨some 16, none, .fld 9 (.t 3)⟩,
    ⟨some 17, none, .load none (.t 16)⟩] none [0, 17]
def r_codec_putLink_3 : ACode := .reg [
    ⟨some 18, none, .mov (.t 0)⟩,
    ⟨some 19, none, .call 87 [(.t 18), (.k (.int .i64 (1)))]⟩,
    ⟨some 4, none, .mov (.t 19)⟩] none [4]
def r_codec_putLink_4 : ACode := .reg [
    ⟨some 20, none, .mov (.t 0)⟩,
    ⟨some 21, none, .call 87 [(.t 20), (.k (.int .i64 (0)))]⟩,
    ⟨some 4, none, .mov (.t 21)⟩] none [4]
def c_codec_putLink : ACode :=
  (.seq r_codec_putLink_0
  (.seq r_codec_putLink_1
   (.seq (.seq r_codec_putLink_2
     (.cond (.t 17)
      (.seq r_codec_putLink_3
       .ret)
      .skip))
    (.seq r_codec_putLink_4
     .ret))))
theorem fits_codec_putLink : Fits Try.prog 119 22 c_codec_putLink [.t 4] := ⟨⟨Try.f119, _, _, Try.func119, rfl, rfl, rfl, by decide, by kernel_rfl, by kernel_rfl⟩, Try.checked.mixed⟩
def r_codec_putHold_0 : ACode := .reg [
    ⟨some 3, none, .box 109 (.t 1)⟩,
    ⟨some 4, none, .mov (.k (.slice none 0 0))⟩] none [0, 3]
def r_codec_putHold_1 : ACode := .reg [
    ⟨some 5, none, .mov (.t 0)⟩,
    ⟨some 6, none, .fld 0 (.t 3)⟩,
    ⟨some 7, none, .load none (.t 6)⟩,
    ⟨some 8, none, .fld 1 (.t 3)⟩,
    ⟨some 9, none, .load none (.t 8)⟩,
    ⟨some 10, none, .lit 3 1 2 [.int .i64 0] [(0, (.t 7)), (1, (.t 9))] false⟩,
    ⟨some 11, none, .call 110 [(.t 5), (.t 10)]⟩,
    ⟨some 12, none, .fld 2 (.t 3)⟩,
    ⟨some 13, none, .load (some 4) (.t 12)⟩,
    ⟨some 14, none, .call 123 [(.t 11), (.t 13)]⟩,
    ⟨some 15, none, .fld 6 (.t 3)⟩,
    ⟨some 16, none, .load none (.t 15)⟩,
    ⟨some 17, none, .fld 7 (.t 3)⟩,
    ⟨some 18, none, .load none (.t 17)⟩,
    ⟨some 19, none, .fld 8 (.t 3)⟩,
    ⟨some 20, none, .load none (.t 19)⟩,
    ⟨some 21, none, .lit 3 1 3 [.int .i64 0] [(0, (.t 16)), (1, (.t 18)), (2, (.t 20))] false⟩,
    ⟨some 22, none, .call 110 [(.t 14), (.t 21)]⟩,
    ⟨some 4, none, .mov (.t 22)⟩] (some [0, 0, 2, 0, 8, 30, 63, 0, 128, 511, 0, 1024, 0, 4096, 0, 16384, 64512, 131071, 262143]) [4]
def c_codec_putHold : ACode :=
  (.seq r_codec_putHold_0
  (.seq r_codec_putHold_1
   .ret))
theorem fits_codec_putHold : Fits Try.prog 120 23 c_codec_putHold [.t 4] := ⟨⟨Try.f120, _, _, Try.func120, rfl, rfl, rfl, by decide, by kernel_rfl, by kernel_rfl⟩, Try.checked.mixed⟩
def r_codec_source_identifier_0 : ACode := .reg [
    ⟨some 2, none, .alloc 103 [.string ⟨#[]⟩, .int .i64 0, .int .i64 0, .string ⟨#[]⟩]⟩] none [0, 2]
def r_codec_source_identifier_1 : ACode := .reg [
    ⟨some 4, none, .mov (.t 0)⟩,
    ⟨some 5, none, .call 93 [(.t 4), (.k (.int .i64 (16)))]⟩,
    ⟨some 3, none, .mov (.t 5)⟩] none [0, 2, 3]
def r_codec_source_identifier_2 : ACode := .reg [
    ⟨some 6, none, .mov (.t 3)⟩,
    ⟨some 7, none, .mov (.t 0)⟩,
    ⟨some 8, none, .call 105 [(.t 7)]⟩,
    ⟨some 9, none, .build [.string ⟨#[]⟩, .int .i64 0, .int .i64 0, .string ⟨#[]⟩] [(0, 1, (.t 6)), (1, 3, (.t 8))]⟩,
    ⟨none, none, .store 4 (.t 2) (.t 9)⟩] none [2]
def c_codec_source_identifier : ACode :=
  (.seq r_codec_source_identifier_0
  (.seq r_codec_source_identifier_1
   (.seq r_codec_source_identifier_2
    .ret)))
theorem fits_codec_source_identifier : Fits Try.prog 122 10 c_codec_source_identifier [.c 2 (some 4)] := ⟨⟨Try.f122, _, _, Try.func122, rfl, rfl, rfl, by decide, by kernel_rfl, by kernel_rfl⟩, Try.checked.mixed⟩
def r_codec_putIdentifier_0 : ACode := .reg [
    ⟨some 3, none, .box 103 (.t 1)⟩,
    ⟨some 4, none, .mov (.k (.slice none 0 0))⟩] none [0, 3]
def r_codec_putIdentifier_1 : ACode := .reg [
    ⟨some 5, none, .mov (.t 0)⟩,
    ⟨some 6, none, .fld 0 (.t 3)⟩,
    ⟨some 7, none, .load none (.t 6)⟩,
    ⟨some 8, none, .call 92 [(.t 5), (.t 7)]⟩,
    ⟨some 9, none, .fld 1 (.t 3)⟩,
    ⟨some 10, none, .load (some 3) (.t 9)⟩,
    ⟨some 11, none, .call 104 [(.t 8), (.t 10)]⟩,
    ⟨some 4, none, .mov (.t 11)⟩] (some [0, 0, 2, 7, 0, 16, 63, 127]) [4]
def c_codec_putIdentifier : ACode :=
  (.seq r_codec_putIdentifier_0
  (.seq r_codec_putIdentifier_1
   .ret))
theorem fits_codec_putIdentifier : Fits Try.prog 123 12 c_codec_putIdentifier [.t 4] := ⟨⟨Try.f123, _, _, Try.func123, rfl, rfl, rfl, by decide, by kernel_rfl, by kernel_rfl⟩, Try.checked.mixed⟩
def r_codec_source_take_0 : ACode := .reg [
    ⟨some 4, none, .mov (.k (.slice none 0 0))⟩] none [0, 1]
def r_codec_source_take_1 : ACode := .reg [
    ⟨some 6, none, .mov (.t 0)⟩,
    ⟨some 7, none, .nilck (.t 6)⟩,
    ⟨some 8, none, .fld 1 (.t 7)⟩,
    ⟨some 9, none, .load none (.t 8)⟩,
    ⟨some 10, none, .bin .eql (.t 9) (.k (.int .i64 (0)))⟩,
    ⟨some 11, none, .mov (.t 10)⟩,
    ⟨some 12, (some (11, true)), .mov (.t 1)⟩,
    ⟨some 13, (some (11, true)), .mov (.t 0)⟩,
    ⟨some 14, (some (11, true)), .nilck (.t 13)⟩,
    ⟨some 15, (some (11, true)), .fld 0 (.t 14)⟩,
    ⟨some 16, (some (11, true)), .load none (.t 15)⟩,
    ⟨some 17, (some (11, true)), .len (.t 16)⟩,
    ⟨some 18, (some (11, true)), .bin .gtr (.t 12) (.t 17)⟩,
    ⟨some 19, none, .pick (.t 11) (.t 18) (.k (.bool false))⟩] none [0, 1, 19]
def r_codec_source_take_2 : ACode := .reg [
    ⟨some 20, none, .mov (.t 0)⟩,
    ⟨some 21, none, .call 114 [(.t 20), (.k (.int .i64 (100)))]⟩] none [0, 1]
def r_codec_source_take_3 : ACode := .reg [
    ⟨some 22, none, .mov (.t 0)⟩,
    ⟨some 23, none, .nilck (.t 22)⟩,
    ⟨some 24, none, .fld 1 (.t 23)⟩,
    ⟨some 25, none, .load none (.t 24)⟩,
    ⟨some 26, none, .bin .neq (.t 25) (.k (.int .i64 (0)))⟩] none [0, 1, 26]
def r_codec_source_take_4 : ACode := .reg [
    ⟨some 4, none, .mov (.k (.slice none 0 0))⟩] none [4]
def r_codec_source_take_5 : ACode := .reg [
    ⟨some 27, none, .mov (.t 0)⟩,
    ⟨some 28, none, .nilck (.t 27)⟩,
    ⟨some 29, none, .fld 0 (.t 28)⟩,
    ⟨some 30, none, .load none (.t 29)⟩,
    ⟨some 31, none, .mov (.t 1)⟩,
    ⟨some 32, none, .mov (.t 1)⟩,
    ⟨some 33, none, .sl 1 (.t 30) none (some (.t 31)) (some (.t 32))⟩,
    ⟨some 5, none, .mov (.t 33)⟩] none [0, 1, 5]
def r_codec_source_take_6 : ACode := .reg [
    ⟨some 34, none, .mov (.t 0)⟩,
    ⟨some 35, none, .mov (.t 0)⟩,
    ⟨some 36, none, .nilck (.t 35)⟩,
    ⟨some 37, none, .fld 0 (.t 36)⟩,
    ⟨some 38, none, .load none (.t 37)⟩,
    ⟨some 39, none, .mov (.t 1)⟩,
    ⟨some 40, none, .mov (.t 0)⟩,
    ⟨some 41, none, .nilck (.t 40)⟩,
    ⟨some 42, none, .fld 0 (.t 41)⟩,
    ⟨some 43, none, .load none (.t 42)⟩,
    ⟨some 44, none, .len (.t 43)⟩,
    ⟨some 45, none, .mov (.t 0)⟩,
    ⟨some 46, none, .nilck (.t 45)⟩,
    ⟨some 47, none, .fld 0 (.t 46)⟩,
    ⟨some 48, none, .load none (.t 47)⟩,
    ⟨some 49, none, .len (.t 48)⟩,
    ⟨some 50, none, .sl 1 (.t 38) (some (.t 39)) (some (.t 44)) (some (.t 49))⟩,
    ⟨some 51, none, .nilck (.t 34)⟩,
    ⟨some 52, none, .fld 0 (.t 51)⟩,
    ⟨none, none, .store 1 (.t 52) (.t 50)⟩] (some [0, 0, 2, 6, 14, 0, 0, 64, 192, 448, 960, 0, 2048, 6144, 14336, 30720, 65534, 131071, 262143, 524287]) [5]
def r_codec_source_take_7 : ACode := .reg [
    ⟨some 53, none, .mov (.t 5)⟩,
    ⟨some 4, none, .mov (.t 53)⟩] none [4]
def c_codec_source_take : ACode :=
  (.seq r_codec_source_take_0
  (.seq (.seq r_codec_source_take_1
    (.cond (.t 19)
     r_codec_source_take_2
     .skip))
   (.seq (.seq r_codec_source_take_3
     (.cond (.t 26)
      (.seq r_codec_source_take_4
       .ret)
      .skip))
    (.seq r_codec_source_take_5
     (.seq r_codec_source_take_6
      (.seq r_codec_source_take_7
       .ret))))))
theorem fits_codec_source_take : Fits Try.prog 130 54 c_codec_source_take [.t 4] := ⟨⟨Try.f130, _, _, Try.func130, rfl, rfl, rfl, by decide, by kernel_rfl, by kernel_rfl⟩, Try.checked.mixed⟩
end Go.Proofs.Ytjieenfbfckafaa.Am
namespace Go.Proofs.Ytjieenfbfckafaa.Am
open Go
set_option linter.unusedVariables false
set_option linter.unusedSimpArgs false
set_option maxRecDepth 100000
def r_erasureref26Int_0 : ACode := .reg [
    ⟨some 2, none, .mov (.k (.slice none 0 0))⟩] none [0]
def r_erasureref26Int_1 : ACode := .reg [
    ⟨some 5, none, .mov (.t 0)⟩,
    ⟨some 6, none, .conv .u64 (.t 5)⟩,
    ⟨some 7, none, .bin .shl (.t 6) (.k (.int .u64 (1)))⟩,
    ⟨some 3, none, .mov (.t 7)⟩] none [0, 3]
def r_erasureref26Int_2 : ACode := .reg [
    ⟨some 8, none, .mov (.t 0)⟩,
    ⟨some 9, none, .bin .lss (.t 8) (.k (.int .i64 (0)))⟩] none [3, 9]
def r_erasureref26Int_3 : ACode := .reg [
    ⟨some 10, none, .mov (.t 3)⟩,
    ⟨some 11, none, .un .xor (.t 10)⟩,
    ⟨some 3, none, .mov (.t 11)⟩] none [3]
def r_erasureref26Int_4 : ACode := .reg [
    ⟨some 12, none, .lit 5 1 0 [.int .u8 0] [] true⟩,
    ⟨some 4, none, .mov (.t 12)⟩] none [3, 4]
def r_erasureref26Int_5 : ACode := .reg [
    ⟨some 13, none, .mov (.t 3)⟩,
    ⟨some 14, none, .bin .geq (.t 13) (.k (.int .u64 (128)))⟩] none [3, 4, 14]
def r_erasureref26Int_6 : ACode := .reg [
    ⟨some 15, none, .mov (.t 4)⟩,
    ⟨some 16, none, .mov (.t 3)⟩,
    ⟨some 17, none, .bin .rem (.t 16) (.k (.int .u64 (128)))⟩,
    ⟨some 18, none, .conv .u8 (.t 17)⟩,
    ⟨some 19, none, .bin .add (.t 18) (.k (.int .u8 (128)))⟩,
    ⟨some 20, none, .lit 5 1 1 [.int .u8 0] [(0, (.t 19))] false⟩,
    ⟨some 21, none, .app 5 1 1 (.t 15) (.t 20)⟩,
    ⟨some 4, none, .mov (.t 21)⟩] none [3, 4]
def r_erasureref26Int_7 : ACode := .reg [
    ⟨some 22, none, .mov (.t 3)⟩,
    ⟨some 23, none, .bin .quo (.t 22) (.k (.int .u64 (128)))⟩,
    ⟨some 3, none, .mov (.t 23)⟩] none [3, 4]
def r_erasureref26Int_8 : ACode := .reg [
    ⟨some 24, none, .mov (.t 4)⟩,
    ⟨some 25, none, .mov (.t 3)⟩,
    ⟨some 26, none, .conv .u8 (.t 25)⟩,
    ⟨some 27, none, .lit 5 1 1 [.int .u8 0] [(0, (.t 26))] false⟩,
    ⟨some 28, none, .app 5 1 1 (.t 24) (.t 27)⟩,
    ⟨some 2, none, .mov (.t 28)⟩] none [2]
def c_erasureref26Int : ACode :=
  (.seq r_erasureref26Int_0
  (.seq r_erasureref26Int_1
   (.seq (.seq r_erasureref26Int_2
     (.cond (.t 9)
      r_erasureref26Int_3
      .skip))
    (.seq r_erasureref26Int_4
     (.seq (.block 0 (.loop (.seq (.seq r_erasureref26Int_5
          (.cond (.t 14)
           .skip
           (.exit 0)))
         (.block 1 (.seq r_erasureref26Int_6
           r_erasureref26Int_7)))))
      (.seq r_erasureref26Int_8
       .ret))))))
theorem fits_erasureref26Int : Fits Try.prog 22 29 c_erasureref26Int [.t 2] := ⟨⟨Try.f22, _, _, Try.func22, rfl, rfl, rfl, by decide, by kernel_rfl, by kernel_rfl⟩, Try.checked.mixed⟩
def r_erasureref26Text_0 : ACode := .reg [
    ⟨some 2, none, .mov (.k (.slice none 0 0))⟩] none [0]
def r_erasureref26Text_1 : ACode := .reg [
    ⟨some 3, none, .mov (.t 0)⟩,
    ⟨some 4, none, .lens (.t 3)⟩,
    ⟨some 5, none, .call 22 [(.t 4)]⟩,
    ⟨some 6, none, .mov (.t 0)⟩,
    ⟨some 7, none, .apps 5 (.t 5) (.t 6)⟩,
    ⟨some 2, none, .mov (.t 7)⟩] none [2]
def c_erasureref26Text : ACode :=
  (.seq r_erasureref26Text_0
  (.seq r_erasureref26Text_1
   .ret))
theorem fits_erasureref26Text : Fits Try.prog 26 8 c_erasureref26Text [.t 2] := ⟨⟨Try.f26, _, _, Try.func26, rfl, rfl, rfl, by decide, by kernel_rfl, by kernel_rfl⟩, Try.checked.mixed⟩
def r_erasureref26Versions_0 : ACode := .reg [
    ⟨some 2, none, .mov (.k (.slice none 0 0))⟩] none [0]
def r_erasureref26Versions_1 : ACode := .reg [
    ⟨some 5, none, .mov (.t 0)⟩,
    ⟨some 6, none, .len (.t 5)⟩,
    ⟨some 7, none, .call 22 [(.t 6)]⟩,
    ⟨some 3, none, .mov (.t 7)⟩] none [0, 3]
def r_erasureref26Versions_2 : ACode := .reg [
    ⟨some 4, none, .mov (.k (.int .i64 (0)))⟩] none [0, 3, 4]
def r_erasureref26Versions_3 : ACode := .reg [
    ⟨some 8, none, .mov (.t 4)⟩,
    ⟨some 9, none, .mov (.t 0)⟩,
    ⟨some 10, none, .len (.t 9)⟩,
    ⟨some 11, none, .bin .lss (.t 8) (.t 10)⟩] none [0, 3, 4, 11]
def r_erasureref26Versions_4 : ACode := .reg [
    ⟨some 14, none, .mov (.t 3)⟩,
    ⟨some 15, none, .mov (.t 0)⟩,
    ⟨some 16, none, .mov (.t 4)⟩,
    ⟨some 17, none, .idxa 3 (.t 15) (.t 16)⟩,
    ⟨some 18, none, .fld 0 (.t 17)⟩,
    ⟨some 19, none, .load none (.t 18)⟩,
    ⟨some 20, none, .mov (.t 0)⟩,
    ⟨some 21, none, .mov (.t 4)⟩,
    ⟨some 22, none, .idxa 3 (.t 20) (.t 21)⟩,
    ⟨some 23, none, .fld 2 (.t 22)⟩,
    ⟨some 24, none, .load none (.t 23)⟩,
    ⟨some 25, none, .mov (.t 0)⟩,
    ⟨some 26, none, .mov (.t 4)⟩,
    ⟨some 27, none, .idxa 3 (.t 25) (.t 26)⟩,
    ⟨some 28, none, .fld 1 (.t 27)⟩,
    ⟨some 29, none, .load none (.t 28)⟩,
    ⟨some 30, none, .lit 3 1 3 [.int .i64 0] [(0, (.t 19)), (1, (.t 24)), (2, (.t 29))] false⟩,
    ⟨some 31, none, .call 99 [(.t 30)]⟩,
    ⟨some 32, none, .app 5 1 1 (.t 14) (.t 31)⟩,
    ⟨some 3, none, .mov (.t 32)⟩] (some [0, 0, 0, 6, 14, 30, 0, 0, 192, 448, 960, 0, 0, 6144, 14336, 30720, 65534, 131070, 262143, 524287]) [0, 3, 4]
def r_erasureref26Versions_5 : ACode := .reg [
    ⟨some 12, none, .mov (.t 4)⟩,
    ⟨some 13, none, .bin .add (.t 12) (.k (.int .i64 (1)))⟩,
    ⟨some 4, none, .mov (.t 13)⟩] none [0, 3, 4]
def r_erasureref26Versions_6 : ACode := .reg [
    ⟨some 33, none, .mov (.t 3)⟩,
    ⟨some 2, none, .mov (.t 33)⟩] none [2]
def c_erasureref26Versions : ACode :=
  (.seq r_erasureref26Versions_0
  (.seq r_erasureref26Versions_1
   (.seq (.seq r_erasureref26Versions_2
     (.block 0 (.loop (.seq (.seq r_erasureref26Versions_3
         (.cond (.t 11)
          .skip
          (.exit 0)))
        (.seq (.block 1 r_erasureref26Versions_4)
         r_erasureref26Versions_5)))))
    (.seq r_erasureref26Versions_6
     .ret))))
theorem fits_erasureref26Versions : Fits Try.prog 33 34 c_erasureref26Versions [.t 2] := ⟨⟨Try.f33, _, _, Try.func33, rfl, rfl, rfl, by decide, by kernel_rfl, by kernel_rfl⟩, Try.checked.mixed⟩
def r_erasureref26Sources_0 : ACode := .reg [
    ⟨some 2, none, .mov (.k (.slice none 0 0))⟩] none [0]
def r_erasureref26Sources_1 : ACode := .reg [
    ⟨some 5, none, .mov (.t 0)⟩,
    ⟨some 6, none, .len (.t 5)⟩,
    ⟨some 7, none, .call 22 [(.t 6)]⟩,
    ⟨some 3, none, .mov (.t 7)⟩] none [0, 3]
def r_erasureref26Sources_2 : ACode := .reg [
    ⟨some 4, none, .mov (.k (.int .i64 (0)))⟩] none [0, 3, 4]
def r_erasureref26Sources_3 : ACode := .reg [
    ⟨some 8, none, .mov (.t 4)⟩,
    ⟨some 9, none, .mov (.t 0)⟩,
    ⟨some 10, none, .len (.t 9)⟩,
    ⟨some 11, none, .bin .lss (.t 8) (.t 10)⟩] none [0, 3, 4, 11]
def r_erasureref26Sources_4 : ACode := .reg [
    ⟨some 14, none, .mov (.t 3)⟩,
    ⟨some 15, none, .mov (.t 0)⟩,
    ⟨some 16, none, .mov (.t 4)⟩,
    ⟨some 17, none, .idxa 2 (.t 15) (.t 16)⟩,
    ⟨some 18, none, .fld 0 (.t 17)⟩,
    ⟨some 19, none, .load none (.t 18)⟩,
    ⟨some 20, none, .mov (.t 0)⟩,
    ⟨some 21, none, .mov (.t 4)⟩,
    ⟨some 22, none, .idxa 2 (.t 20) (.t 21)⟩,
    ⟨some 23, none, .fld 1 (.t 22)⟩,
    ⟨some 24, none, .load none (.t 23)⟩,
    ⟨some 25, none, .lit 3 1 2 [.int .i64 0] [(0, (.t 19)), (1, (.t 24))] false⟩,
    ⟨some 26, none, .call 99 [(.t 25)]⟩,
    ⟨some 27, none, .app 5 1 1 (.t 14) (.t 26)⟩,
    ⟨some 3, none, .mov (.t 27)⟩] (some [0, 0, 0, 6, 14, 30, 0, 0, 192, 448, 960, 2046, 4094, 8191, 16383]) [0, 3, 4]
def r_erasureref26Sources_5 : ACode := .reg [
    ⟨some 12, none, .mov (.t 4)⟩,
    ⟨some 13, none, .bin .add (.t 12) (.k (.int .i64 (1)))⟩,
    ⟨some 4, none, .mov (.t 13)⟩] none [0, 3, 4]
def r_erasureref26Sources_6 : ACode := .reg [
    ⟨some 28, none, .mov (.t 3)⟩,
    ⟨some 2, none, .mov (.t 28)⟩] none [2]
def c_erasureref26Sources : ACode :=
  (.seq r_erasureref26Sources_0
  (.seq r_erasureref26Sources_1
   (.seq (.seq r_erasureref26Sources_2
     (.block 0 (.loop (.seq (.seq r_erasureref26Sources_3
         (.cond (.t 11)
          .skip
          (.exit 0)))
        (.seq (.block 1 r_erasureref26Sources_4)
         r_erasureref26Sources_5)))))
    (.seq r_erasureref26Sources_6
     .ret))))
theorem fits_erasureref26Sources : Fits Try.prog 34 29 c_erasureref26Sources [.t 2] := ⟨⟨Try.f34, _, _, Try.func34, rfl, rfl, rfl, by decide, by kernel_rfl, by kernel_rfl⟩, Try.checked.mixed⟩
def r_erasureref26SameVersions_0 : ACode := .reg [
    ⟨some 4, none, .mov (.k (.bool false))⟩] none [0, 1]
def r_erasureref26SameVersions_1 : ACode := .reg [
    ⟨some 5, none, .mov (.t 0)⟩,
    ⟨some 6, none, .mov (.t 1)⟩,
    ⟨some 7, none, .call 100 [(.t 5), (.t 6)]⟩,
    ⟨some 4, none, .mov (.t 7)⟩] none [4]
def c_erasureref26SameVersions : ACode :=
  (.seq r_erasureref26SameVersions_0
  (.seq r_erasureref26SameVersions_1
   .ret))
theorem fits_erasureref26SameVersions : Fits Try.prog 35 8 c_erasureref26SameVersions [.t 4] := ⟨⟨Try.f35, _, _, Try.func35, rfl, rfl, rfl, by decide, by kernel_rfl, by kernel_rfl⟩, Try.checked.mixed⟩
def r_erasureref26SameSources_0 : ACode := .reg [
    ⟨some 4, none, .mov (.k (.bool false))⟩] none [0, 1]
def r_erasureref26SameSources_1 : ACode := .reg [
    ⟨some 5, none, .mov (.t 0)⟩,
    ⟨some 6, none, .mov (.t 1)⟩,
    ⟨some 7, none, .call 101 [(.t 5), (.t 6)]⟩,
    ⟨some 4, none, .mov (.t 7)⟩] none [4]
def c_erasureref26SameSources : ACode :=
  (.seq r_erasureref26SameSources_0
  (.seq r_erasureref26SameSources_1
   .ret))
theorem fits_erasureref26SameSources : Fits Try.prog 36 8 c_erasureref26SameSources [.t 4] := ⟨⟨Try.f36, _, _, Try.func36, rfl, rfl, rfl, by decide, by kernel_rfl, by kernel_rfl⟩, Try.checked.mixed⟩
def r_erasureref26Value_0 : ACode := .reg [
    ⟨some 1, none, .box 67 (.t 0)⟩,
    ⟨some 2, none, .mov (.k (.slice none 0 0))⟩] none [1]
def r_erasureref26Value_1 : ACode := .reg [
    ⟨some 4, none, .load (some 3) (.t 1)⟩,
    ⟨some 5, none, .call 43 [(.t 4)]⟩,
    ⟨none, none, .store 3 (.t 1) (.t 5)⟩] none [1]
def r_erasureref26Value_2 : ACode := .reg [
    ⟨some 6, none, .fld 0 (.t 1)⟩,
    ⟨some 7, none, .load none (.t 6)⟩,
    ⟨some 8, none, .call 22 [(.t 7)]⟩,
    ⟨some 3, none, .mov (.t 8)⟩] none [1, 3]
def r_erasureref26Value_3 : ACode := .reg [
    ⟨some 9, none, .fld 0 (.t 1)⟩,
    ⟨some 10, none, .load none (.t 9)⟩,
    ⟨some 11, none, .bin .eql (.t 10) (.k (.int .i64 (1)))⟩] none [1, 3, 11]
def r_erasureref26Value_4 : ACode := .reg [
    ⟨some 12, none, .mov (.t 3)⟩,
    ⟨some 13, none, .fld 1 (.t 1)⟩,
    ⟨some 14, none, .load none (.t 13)⟩,
    ⟨some 15, none, .call 22 [(.t 14)]⟩,
    ⟨some 16, none, .app 5 1 1 (.t 12) (.t 15)⟩,
    ⟨some 3, none, .mov (.t 16)⟩] none [1, 3]
def r_erasureref26Value_5 : ACode := .reg [
    ⟨some 17, none, .fld 0 (.t 1)⟩,
    ⟨some 18, none, .load none (.t 17)⟩,
    ⟨some 19, none, .bin .eql (.t 18) (.k (.int .i64 (2)))⟩] none [1, 3, 19]
def r_erasureref26Value_6 : ACode := .reg [
    ⟨some 20, none, .mov (.t 3)⟩,
    ⟨some 21, none, .fld 2 (.t 1)⟩,
    ⟨some 22, none, .load none (.t 21)⟩,
    ⟨some 23, none, .call 26 [(.t 22)]⟩,
    ⟨some 24, none, .app 5 1 1 (.t 20) (.t 23)⟩,
    ⟨some 3, none, .mov (.t 24)⟩] none [3]
def r_erasureref26Value_7 : ACode := .reg [
    ⟨some 25, none, .mov (.t 3)⟩,
    ⟨some 2, none, .mov (.t 25)⟩] none [2]
def c_erasureref26Value : ACode :=
  (.seq r_erasureref26Value_0
  (.seq r_erasureref26Value_1
   (.seq r_erasureref26Value_2
    (.seq (.seq r_erasureref26Value_3
      (.cond (.t 11)
       r_erasureref26Value_4
       .skip))
     (.seq (.seq r_erasureref26Value_5
       (.cond (.t 19)
        r_erasureref26Value_6
        .skip))
      (.seq r_erasureref26Value_7
       .ret))))))
theorem fits_erasureref26Value : Fits Try.prog 42 26 c_erasureref26Value [.t 2] := ⟨⟨Try.f42, _, _, Try.func42, rfl, rfl, rfl, by decide, by kernel_rfl, by kernel_rfl⟩, Try.checked.mixed⟩
def r_erasureref26Entry_0 : ACode := .reg [
    ⟨some 1, none, .box 111 (.t 0)⟩,
    ⟨some 2, none, .mov (.k (.slice none 0 0))⟩] none [1]
def r_erasureref26Entry_1 : ACode := .reg [
    ⟨some 4, none, .fld 0 (.t 1)⟩,
    ⟨some 5, none, .load none (.t 4)⟩,
    ⟨some 6, none, .fld 1 (.t 1)⟩,
    ⟨some 7, none, .load none (.t 6)⟩,
    ⟨some 8, none, .fld 2 (.t 1)⟩,
    ⟨some 9, none, .load none (.t 8)⟩,
    ⟨some 10, none, .fld 3 (.t 1)⟩,
    ⟨some 11, none, .load none (.t 10)⟩,
    ⟨some 12, none, .lit 3 1 4 [.int .i64 0] [(0, (.t 5)), (1, (.t 7)), (2, (.t 9)), (3, (.t 11))] false⟩,
    ⟨some 13, none, .call 99 [(.t 12)]⟩,
    ⟨some 3, none, .mov (.t 13)⟩] none [1, 3]
def r_erasureref26Entry_2 : ACode := .reg [
    ⟨some 14, none, .fld 0 (.t 1)⟩,
    ⟨some 15, none, .load none (.t 14)⟩] none [1, 3, 15]
def r_erasureref26Entry_3 : ACode := .reg [
    ⟨some 17, none, .bin .eql (.t 15) (.k (.int .i64 (1)))⟩,
    ⟨some 16, none, .mov (.t 17)⟩] none [1, 3, 15, 16]
def r_erasureref26Entry_4 : ACode := .reg [
    ⟨some 18, none, .mov (.t 3)⟩,
    ⟨some 19, none, .fld 4 (.t 1)⟩,
    ⟨some 20, none, .load (some 8) (.t 19)⟩,
    ⟨some 21, none, .call 67 [(.t 20)]⟩,
    ⟨some 22, none, .app 5 1 1 (.t 18) (.t 21)⟩,
    ⟨some 3, none, .mov (.t 22)⟩] none [3]
def r_erasureref26Entry_5 : ACode := .reg [
    ⟨some 24, none, .bin .eql (.t 15) (.k (.int .i64 (2)))⟩,
    ⟨some 23, none, .mov (.t 24)⟩] none [1, 3, 15, 23]
def r_erasureref26Entry_6 : ACode := .reg [
    ⟨some 25, none, .mov (.t 3)⟩,
    ⟨some 26, none, .fld 31 (.t 1)⟩,
    ⟨some 27, none, .load none (.t 26)⟩,
    ⟨some 28, none, .call 33 [(.t 27)]⟩,
    ⟨some 29, none, .app 5 1 1 (.t 25) (.t 28)⟩,
    ⟨some 30, none, .fld 32 (.t 1)⟩,
    ⟨some 31, none, .load none (.t 30)⟩,
    ⟨some 32, none, .call 34 [(.t 31)]⟩,
    ⟨some 33, none, .app 5 1 1 (.t 29) (.t 32)⟩,
    ⟨some 3, none, .mov (.t 33)⟩] (some [0, 0, 2, 6, 15, 0, 32, 127, 255, 511]) [3]
def r_erasureref26Entry_7 : ACode := .reg [
    ⟨some 35, none, .bin .eql (.t 15) (.k (.int .i64 (4)))⟩,
    ⟨some 34, none, .mov (.t 35)⟩] none [1, 3, 15, 34]
def r_erasureref26Entry_8 : ACode := .reg [
    ⟨some 36, none, .mov (.t 3)⟩,
    ⟨some 37, none, .fld 33 (.t 1)⟩,
    ⟨some 38, none, .load (some 32) (.t 37)⟩,
    ⟨some 39, none, .call 113 [(.t 38)]⟩,
    ⟨some 40, none, .app 5 1 1 (.t 36) (.t 39)⟩,
    ⟨some 3, none, .mov (.t 40)⟩] none [3]
def r_erasureref26Entry_9 : ACode := .reg [
    ⟨some 42, none, .bin .eql (.t 15) (.k (.int .i64 (6)))⟩,
    ⟨some 41, none, .mov (.t 42)⟩] none [1, 3, 15, 41]
def r_erasureref26Entry_10 : ACode := .reg [
    ⟨some 43, none, .mov (.t 3)⟩,
    ⟨some 44, none, .fld 12 (.t 1)⟩,
    ⟨some 45, none, .load (some 10) (.t 44)⟩,
    ⟨some 46, none, .call 68 [(.t 45)]⟩,
    ⟨some 47, none, .app 5 1 1 (.t 43) (.t 46)⟩,
    ⟨some 3, none, .mov (.t 47)⟩] none [3]
def r_erasureref26Entry_11 : ACode := .reg [
    ⟨some 49, none, .bin .eql (.t 15) (.k (.int .i64 (7)))⟩,
    ⟨some 48, none, .mov (.t 49)⟩] none [1, 3, 48]
def r_erasureref26Entry_12 : ACode := .reg [
    ⟨some 50, none, .mov (.t 3)⟩,
    ⟨some 51, none, .fld 22 (.t 1)⟩,
    ⟨some 52, none, .load (some 9) (.t 51)⟩,
    ⟨some 53, none, .call 69 [(.t 52)]⟩,
    ⟨some 54, none, .app 5 1 1 (.t 50) (.t 53)⟩,
    ⟨some 3, none, .mov (.t 54)⟩] none [3]
def r_erasureref26Entry_13 : ACode := .reg [
    ⟨some 55, none, .mov (.t 3)⟩,
    ⟨some 2, none, .mov (.t 55)⟩] none [2]
def c_erasureref26Entry : ACode :=
  (.seq r_erasureref26Entry_0
  (.seq r_erasureref26Entry_1
   (.seq (.seq r_erasureref26Entry_2
     (.block 0 (.seq r_erasureref26Entry_3
       (.cond (.t 16)
        r_erasureref26Entry_4
        (.seq r_erasureref26Entry_5
         (.cond (.t 23)
          r_erasureref26Entry_6
          (.seq r_erasureref26Entry_7
           (.cond (.t 34)
            r_erasureref26Entry_8
            (.seq r_erasureref26Entry_9
             (.cond (.t 41)
              r_erasureref26Entry_10
              (.seq r_erasureref26Entry_11
               (.cond (.t 48)
                r_erasureref26Entry_12
                .skip))))))))))))
    (.seq r_erasureref26Entry_13
     .ret))))
theorem fits_erasureref26Entry : Fits Try.prog 60 56 c_erasureref26Entry [.t 2] := ⟨⟨Try.f60, _, _, Try.func60, rfl, rfl, rfl, by decide, by kernel_rfl, by kernel_rfl⟩, Try.checked.mixed⟩
def r_erasureref26SameEntry_0 : ACode := .reg [
    ⟨some 2, none, .box 111 (.t 0)⟩,
    ⟨some 3, none, .box 111 (.t 1)⟩,
    ⟨some 4, none, .mov (.k (.bool false))⟩] none [2, 3]
def r_erasureref26SameEntry_1 : ACode := .reg [
    ⟨some 5, none, .fld 0 (.t 2)⟩,
    ⟨some 6, none, .load none (.t 5)⟩,
    ⟨some 7, none, .fld 0 (.t 3)⟩,
    ⟨some 8, none, .load none (.t 7)⟩,
    ⟨some 9, none, .bin .eql (.t 6) (.t 8)⟩,
    ⟨some 10, none, .mov (.t 9)⟩,
    ⟨some 11, (some (10, true)), .fld 1 (.t 2)⟩,
    ⟨some 12, (some (10, true)), .load none (.t 11)⟩,
    ⟨some 13, (some (10, true)), .fld 1 (.t 3)⟩,
    ⟨some 14, (some (10, true)), .load none (.t 13)⟩,
    ⟨some 15, (some (10, true)), .bin .eql (.t 12) (.t 14)⟩,
    ⟨some 16, none, .pick (.t 10) (.t 15) (.k (.bool false))⟩,
    ⟨some 17, none, .mov (.t 16)⟩,
    ⟨some 18, (some (17, true)), .fld 2 (.t 2)⟩,
    ⟨some 19, (some (17, true)), .load none (.t 18)⟩,
    ⟨some 20, (some (17, true)), .fld 2 (.t 3)⟩,
    ⟨some 21, (some (17, true)), .load none (.t 20)⟩,
    ⟨some 22, (some (17, true)), .bin .eql (.t 19) (.t 21)⟩,
    ⟨some 23, none, .pick (.t 17) (.t 22) (.k (.bool false))⟩,
    ⟨some 24, none, .mov (.t 23)⟩,
    ⟨some 25, (some (24, true)), .fld 3 (.t 2)⟩,
    ⟨some 26, (some (24, true)), .load none (.t 25)⟩,
    ⟨some 27, (some (24, true)), .fld 3 (.t 3)⟩,
    ⟨some 28, (some (24, true)), .load none (.t 27)⟩,
    ⟨some 29, (some (24, true)), .bin .eql (.t 26) (.t 28)⟩,
    ⟨some 30, none, .pick (.t 24) (.t 29) (.k (.bool false))⟩,
    ⟨some 31, none, .mov (.t 30)⟩,
    ⟨some 32, (some (31, true)), .fld 4 (.t 2)⟩,
    ⟨some 33, (some (31, true)), .load (some 8) (.t 32)⟩,
    ⟨some 34, (some (31, true)), .fld 4 (.t 3)⟩,
    ⟨some 35, (some (31, true)), .load (some 8) (.t 34)⟩,
    ⟨some 36, (some (31, true)), .eqa false [(1, .ti .i64), (1, .ts), (2, .ti .i64), (1, .ts), (3, .ti .i64)] (.t 33) (.t 35)⟩,
    ⟨some 37, none, .pick (.t 31) (.t 36) (.k (.bool false))⟩,
    ⟨some 38, none, .mov (.t 37)⟩,
    ⟨some 39, (some (38, true)), .fld 12 (.t 2)⟩,
    ⟨some 40, (some (38, true)), .load (some 10) (.t 39)⟩,
    ⟨some 41, (some (38, true)), .fld 12 (.t 3)⟩,
    ⟨some 42, (some (38, true)), .load (some 10) (.t 41)⟩,
    ⟨some 43, (some (38, true)), .eqa false [(1, .ts), (2, .ti .i64), (2, .ts), (2, .ti .i64), (1, .ts), (1, .ti .i64), (1, .tb)] (.t 40) (.t 42)⟩,
    ⟨some 44, none, .pick (.t 38) (.t 43) (.k (.bool false))⟩,
    ⟨some 45, none, .mov (.t 44)⟩,
    ⟨some 46, (some (45, true)), .fld 22 (.t 2)⟩,
    ⟨some 47, (some (45, true)), .load (some 9) (.t 46)⟩,
    ⟨some 48, (some (45, true)), .fld 22 (.t 3)⟩,
    ⟨some 49, (some (45, true)), .load (some 9) (.t 48)⟩,
    ⟨some 50, (some (45, true)), .eqa false [(2, .ti .i64), (1, .ts), (2, .ti .i64), (1, .ts), (3, .ti .i64)] (.t 47) (.t 49)⟩,
    ⟨some 51, none, .pick (.t 45) (.t 50) (.k (.bool false))⟩,
    ⟨some 52, none, .mov (.t 51)⟩,
    ⟨some 53, (some (52, true)), .fld 31 (.t 2)⟩,
    ⟨some 54, (some (52, true)), .load none (.t 53)⟩,
    ⟨some 55, (some (52, true)), .fld 31 (.t 3)⟩,
    ⟨some 56, (some (52, true)), .load none (.t 55)⟩,
    ⟨some 57, (some (52, true)), .call 35 [(.t 54), (.t 56)]⟩,
    ⟨some 58, none, .pick (.t 52) (.t 57) (.k (.bool false))⟩,
    ⟨some 59, none, .mov (.t 58)⟩,
    ⟨some 60, (some (59, true)), .fld 32 (.t 2)⟩,
    ⟨some 61, (some (59, true)), .load none (.t 60)⟩,
    ⟨some 62, (some (59, true)), .fld 32 (.t 3)⟩,
    ⟨some 63, (some (59, true)), .load none (.t 62)⟩,
    ⟨some 64, (some (59, true)), .call 36 [(.t 61), (.t 63)]⟩,
    ⟨some 65, none, .pick (.t 59) (.t 64) (.k (.bool false))⟩,
    ⟨some 66, none, .mov (.t 65)⟩,
    ⟨some 67, (some (66, true)), .fld 33 (.t 2)⟩,
    ⟨some 68, (some (66, true)), .load (some 32) (.t 67)⟩,
    ⟨some 69, (some (66, true)), .fld 33 (.t 3)⟩,
    ⟨some 70, (some (66, true)), .load (some 32) (.t 69)⟩,
    ⟨some 71, (some (66, true)), .eqa false [(32, .ti .u8)] (.t 68) (.t 70)⟩,
    ⟨some 72, none, .pick (.t 66) (.t 71) (.k (.bool false))⟩,
    ⟨some 4, none, .mov (.t 72)⟩] none [4]
def c_erasureref26SameEntry : ACode :=
  (.seq r_erasureref26SameEntry_0
  (.seq r_erasureref26SameEntry_1
   .ret))
theorem fits_erasureref26SameEntry : Fits Try.prog 62 73 c_erasureref26SameEntry [.t 4] := ⟨⟨Try.f62, _, _, Try.func62, rfl, rfl, rfl, by decide, by kernel_rfl, by kernel_rfl⟩, Try.checked.mixed⟩
def r_erasureref26Request_0 : ACode := .reg [
    ⟨some 1, none, .box 105 (.t 0)⟩,
    ⟨some 2, none, .mov (.k (.slice none 0 0))⟩] none [1]
def r_erasureref26Request_1 : ACode := .reg [
    ⟨some 3, none, .fld 0 (.t 1)⟩,
    ⟨some 4, none, .load none (.t 3)⟩,
    ⟨some 5, none, .lit 3 1 1 [.int .i64 0] [(0, (.t 4))] false⟩,
    ⟨some 6, none, .call 99 [(.t 5)]⟩,
    ⟨some 7, none, .fld 1 (.t 1)⟩,
    ⟨some 8, none, .load (some 4) (.t 7)⟩,
    ⟨some 9, none, .call 121 [(.t 8)]⟩,
    ⟨some 10, none, .app 5 1 1 (.t 6) (.t 9)⟩,
    ⟨some 11, none, .fld 5 (.t 1)⟩,
    ⟨some 12, none, .load none (.t 11)⟩,
    ⟨some 13, none, .fld 6 (.t 1)⟩,
    ⟨some 14, none, .load none (.t 13)⟩,
    ⟨some 15, none, .fld 7 (.t 1)⟩,
    ⟨some 16, none, .load none (.t 15)⟩,
    ⟨some 17, none, .lit 3 1 3 [.int .i64 0] [(0, (.t 12)), (1, (.t 14)), (2, (.t 16))] false⟩,
    ⟨some 18, none, .call 99 [(.t 17)]⟩,
    ⟨some 19, none, .app 5 1 1 (.t 10) (.t 18)⟩,
    ⟨some 2, none, .mov (.t 19)⟩] (some [0, 1, 3, 7, 0, 16, 63, 127, 0, 256, 0, 1024, 0, 4096, 16128, 32767, 65535, 131071]) [2]
def c_erasureref26Request : ACode :=
  (.seq r_erasureref26Request_0
  (.seq r_erasureref26Request_1
   .ret))
theorem fits_erasureref26Request : Fits Try.prog 67 20 c_erasureref26Request [.t 2] := ⟨⟨Try.f67, _, _, Try.func67, rfl, rfl, rfl, by decide, by kernel_rfl, by kernel_rfl⟩, Try.checked.mixed⟩
def r_erasureref26Link_0 : ACode := .reg [
    ⟨some 1, none, .box 107 (.t 0)⟩,
    ⟨some 2, none, .mov (.k (.slice none 0 0))⟩] none [1]
def r_erasureref26Link_1 : ACode := .reg [
    ⟨some 3, none, .mov (.k (.int .i64 (0)))⟩] none [1, 3]
def r_erasureref26Link_2 : ACode := .reg [
    ⟨some 4, none, .fld 9 (.t 1)⟩,
    ⟨some 5, none, .load none (.t 4)⟩] none [1, 3, 5]
def r_erasureref26Link_3 : ACode := .reg [
    ⟨some 3, none, .mov (.k (.int .i64 (1)))⟩] none [1, 3]
def r_erasureref26Link_4 : ACode := .reg [
    ⟨some 6, none, .fld 0 (.t 1)⟩,
    ⟨some 7, none, .load (some 4) (.t 6)⟩,
    ⟨some 8, none, .call 121 [(.t 7)]⟩,
    ⟨some 9, none, .fld 4 (.t 1)⟩,
    ⟨some 10, none, .load (some 4) (.t 9)⟩,
    ⟨some 11, none, .call 121 [(.t 10)]⟩,
    ⟨some 12, none, .app 5 1 1 (.t 8) (.t 11)⟩,
    ⟨some 13, none, .fld 8 (.t 1)⟩,
    ⟨some 14, none, .load none (.t 13)⟩,
    ⟨some 15, none, .mov (.t 3)⟩,
    ⟨some 16, none, .lit 3 1 2 [.int .i64 0] [(0, (.t 14)), (1, (.t 15))] false⟩,
    ⟨some 17, none, .call 99 [(.t 16)]⟩,
    ⟨some 18, none, .app 5 1 1 (.t 12) (.t 17)⟩,
    ⟨some 2, none, .mov (.t 18)⟩] (some [0, 1, 3, 0, 8, 31, 63, 0, 128, 0, 896, 2047, 4095, 8191]) [2]
def c_erasureref26Link : ACode :=
  (.seq r_erasureref26Link_0
  (.seq r_erasureref26Link_1
   (.seq (.seq r_erasureref26Link_2
     (.cond (.t 5)
      r_erasureref26Link_3
      .skip))
    (.seq r_erasureref26Link_4
     .ret))))
theorem fits_erasureref26Link : Fits Try.prog 68 19 c_erasureref26Link [.t 2] := ⟨⟨Try.f68, _, _, Try.func68, rfl, rfl, rfl, by decide, by kernel_rfl, by kernel_rfl⟩, Try.checked.mixed⟩
def r_erasureref26Hold_0 : ACode := .reg [
    ⟨some 1, none, .box 109 (.t 0)⟩,
    ⟨some 2, none, .mov (.k (.slice none 0 0))⟩] none [1]
def r_erasureref26Hold_1 : ACode := .reg [
    ⟨some 3, none, .fld 0 (.t 1)⟩,
    ⟨some 4, none, .load none (.t 3)⟩,
    ⟨some 5, none, .fld 1 (.t 1)⟩,
    ⟨some 6, none, .load none (.t 5)⟩,
    ⟨some 7, none, .lit 3 1 2 [.int .i64 0] [(0, (.t 4)), (1, (.t 6))] false⟩,
    ⟨some 8, none, .call 99 [(.t 7)]⟩,
    ⟨some 9, none, .fld 2 (.t 1)⟩,
    ⟨some 10, none, .load (some 4) (.t 9)⟩,
    ⟨some 11, none, .call 121 [(.t 10)]⟩,
    ⟨some 12, none, .app 5 1 1 (.t 8) (.t 11)⟩,
    ⟨some 13, none, .fld 6 (.t 1)⟩,
    ⟨some 14, none, .load none (.t 13)⟩,
    ⟨some 15, none, .fld 7 (.t 1)⟩,
    ⟨some 16, none, .load none (.t 15)⟩,
    ⟨some 17, none, .fld 8 (.t 1)⟩,
    ⟨some 18, none, .load none (.t 17)⟩,
    ⟨some 19, none, .lit 3 1 3 [.int .i64 0] [(0, (.t 14)), (1, (.t 16)), (2, (.t 18))] false⟩,
    ⟨some 20, none, .call 99 [(.t 19)]⟩,
    ⟨some 21, none, .app 5 1 1 (.t 12) (.t 20)⟩,
    ⟨some 2, none, .mov (.t 21)⟩] (some [0, 1, 0, 4, 15, 31, 0, 64, 255, 511, 0, 1024, 0, 4096, 0, 16384, 64512, 131071, 262143, 524287]) [2]
def c_erasureref26Hold : ACode :=
  (.seq r_erasureref26Hold_0
  (.seq r_erasureref26Hold_1
   .ret))
theorem fits_erasureref26Hold : Fits Try.prog 69 22 c_erasureref26Hold [.t 2] := ⟨⟨Try.f69, _, _, Try.func69, rfl, rfl, rfl, by decide, by kernel_rfl, by kernel_rfl⟩, Try.checked.mixed⟩
def r_erasureref26ints_0 : ACode := .reg [
    ⟨some 2, none, .mov (.k (.slice none 0 0))⟩] none [0]
def r_erasureref26ints_1 : ACode := .reg [
    ⟨some 5, none, .lit 5 1 0 [.int .u8 0] [] true⟩,
    ⟨some 3, none, .mov (.t 5)⟩] none [0, 3]
def r_erasureref26ints_2 : ACode := .reg [
    ⟨some 4, none, .mov (.k (.int .i64 (0)))⟩] none [0, 3, 4]
def r_erasureref26ints_3 : ACode := .reg [
    ⟨some 6, none, .mov (.t 4)⟩,
    ⟨some 7, none, .mov (.t 0)⟩,
    ⟨some 8, none, .len (.t 7)⟩,
    ⟨some 9, none, .bin .lss (.t 6) (.t 8)⟩] none [0, 3, 4, 9]
def r_erasureref26ints_4 : ACode := .reg [
    ⟨some 12, none, .mov (.t 3)⟩,
    ⟨some 13, none, .mov (.t 0)⟩,
    ⟨some 14, none, .mov (.t 4)⟩,
    ⟨some 15, none, .idxa 1 (.t 13) (.t 14)⟩,
    ⟨some 16, none, .load none (.t 15)⟩,
    ⟨some 17, none, .call 22 [(.t 16)]⟩,
    ⟨some 18, none, .app 5 1 1 (.t 12) (.t 17)⟩,
    ⟨some 3, none, .mov (.t 18)⟩] none [0, 3, 4]
def r_erasureref26ints_5 : ACode := .reg [
    ⟨some 10, none, .mov (.t 4)⟩,
    ⟨some 11, none, .bin .add (.t 10) (.k (.int .i64 (1)))⟩,
    ⟨some 4, none, .mov (.t 11)⟩] none [0, 3, 4]
def r_erasureref26ints_6 : ACode := .reg [
    ⟨some 19, none, .mov (.t 3)⟩,
    ⟨some 2, none, .mov (.t 19)⟩] none [2]
def c_erasureref26ints : ACode :=
  (.seq r_erasureref26ints_0
  (.seq r_erasureref26ints_1
   (.seq (.seq r_erasureref26ints_2
     (.block 0 (.loop (.seq (.seq r_erasureref26ints_3
         (.cond (.t 9)
          .skip
          (.exit 0)))
        (.seq (.block 1 r_erasureref26ints_4)
         r_erasureref26ints_5)))))
    (.seq r_erasureref26ints_6
     .ret))))
theorem fits_erasureref26ints : Fits Try.prog 99 20 c_erasureref26ints [.t 2] := ⟨⟨Try.f99, _, _, Try.func99, rfl, rfl, rfl, by decide, by kernel_rfl, by kernel_rfl⟩, Try.checked.mixed⟩
def r_erasureref26Identifier_0 : ACode := .reg [
    ⟨some 1, none, .box 103 (.t 0)⟩,
    ⟨some 2, none, .mov (.k (.slice none 0 0))⟩] none [1]
def r_erasureref26Identifier_1 : ACode := .reg [
    ⟨some 3, none, .fld 0 (.t 1)⟩,
    ⟨some 4, none, .load none (.t 3)⟩,
    ⟨some 5, none, .call 26 [(.t 4)]⟩,
    ⟨some 6, none, .fld 1 (.t 1)⟩,
    ⟨some 7, none, .load (some 3) (.t 6)⟩,
    ⟨some 8, none, .call 42 [(.t 7)]⟩,
    ⟨some 9, none, .app 5 1 1 (.t 5) (.t 8)⟩,
    ⟨some 2, none, .mov (.t 9)⟩] (some [0, 1, 3, 0, 8, 31, 63, 127]) [2]
def c_erasureref26Identifier : ACode :=
  (.seq r_erasureref26Identifier_0
  (.seq r_erasureref26Identifier_1
   .ret))
theorem fits_erasureref26Identifier : Fits Try.prog 121 10 c_erasureref26Identifier [.t 2] := ⟨⟨Try.f121, _, _, Try.func121, rfl, rfl, rfl, by decide, by kernel_rfl, by kernel_rfl⟩, Try.checked.mixed⟩
end Go.Proofs.Ytjieenfbfckafaa.Am
namespace Go.Proofs.Ytjieenfbfckafaa.Am
open Go
set_option linter.unusedVariables false
set_option linter.unusedSimpArgs false
set_option maxRecDepth 100000
def r_erasureref01Clean_0 : ACode := .reg [
    ⟨some 1, none, .box 67 (.t 0)⟩,
    ⟨some 2, none, .alloc 67 [.int .i64 0, .int .i64 0, .string ⟨#[]⟩]⟩] none [1, 2]
def r_erasureref01Clean_1 : ACode := .reg [
    ⟨some 3, none, .load (some 3) (.t 1)⟩,
    ⟨some 4, none, .call 106 [(.t 3)]⟩] none [1, 2, 4]
def r_erasureref01Clean_2 : ACode := .reg [
    ⟨some 5, none, .load (some 3) (.t 1)⟩,
    ⟨none, none, .store 3 (.t 2) (.t 5)⟩] none [2]
def r_erasureref01Clean_3 : ACode := .reg [
    ⟨some 6, none, .build [.int .i64 0, .int .i64 0, .string ⟨#[]⟩] []⟩,
    ⟨none, none, .store 3 (.t 2) (.t 6)⟩] none [2]
def c_erasureref01Clean : ACode :=
  (.seq r_erasureref01Clean_0
  (.seq (.seq r_erasureref01Clean_1
    (.cond (.t 4)
     (.seq r_erasureref01Clean_2
      .ret)
     .skip))
   (.seq r_erasureref01Clean_3
    .ret)))
theorem fits_erasureref01Clean : Fits Try.prog 43 7 c_erasureref01Clean [.c 2 (some 3)] := ⟨⟨Try.f43, _, _, Try.func43, rfl, rfl, rfl, by decide, by kernel_rfl, by kernel_rfl⟩, Try.checked.mixed⟩
def r_erasureref01Valid_0 : ACode := .reg [
    ⟨some 1, none, .box 67 (.t 0)⟩,
    ⟨some 2, none, .mov (.k (.bool false))⟩] none [1]
def r_erasureref01Valid_1 : ACode := .reg [
    ⟨some 3, none, .fld 0 (.t 1)⟩,
    ⟨some 4, none, .load none (.t 3)⟩] none [1, 4]
def r_erasureref01Valid_2 : ACode := .reg [
    ⟨some 6, none, .bin .eql (.t 4) (.k (.int .i64 (0)))⟩,
    ⟨some 5, none, .mov (.t 6)⟩] none [1, 4, 5]
def r_erasureref01Valid_3 : ACode := .reg [
    ⟨some 7, none, .fld 1 (.t 1)⟩,
    ⟨some 8, none, .load none (.t 7)⟩,
    ⟨some 9, none, .bin .eql (.t 8) (.k (.int .i64 (0)))⟩,
    ⟨some 10, none, .mov (.t 9)⟩,
    ⟨some 11, (some (10, true)), .fld 2 (.t 1)⟩,
    ⟨some 12, (some (10, true)), .load none (.t 11)⟩,
    ⟨some 13, (some (10, true)), .bin .eql (.t 12) (.k (.string { data := #[] }))⟩,
    ⟨some 14, none, .pick (.t 10) (.t 13) (.k (.bool false))⟩,
    ⟨some 2, none, .mov (.t 14)⟩] none [2]
def r_erasureref01Valid_4 : ACode := .reg [
    ⟨some 16, none, .bin .eql (.t 4) (.k (.int .i64 (1)))⟩,
    ⟨some 15, none, .mov (.t 16)⟩] none [1, 4, 15]
def r_erasureref01Valid_5 : ACode := .reg [
    ⟨some 17, none, .fld 1 (.t 1)⟩,
    ⟨some 18, none, .load none (.t 17)⟩,
    ⟨some 19, none, .bin .geq (.t 18) (.k (.int .i64 (-4294967296)))⟩,
    ⟨some 20, none, .mov (.t 19)⟩,
    ⟨some 21, (some (20, true)), .fld 1 (.t 1)⟩,
    ⟨some 22, (some (20, true)), .load none (.t 21)⟩,
    ⟨some 23, (some (20, true)), .bin .leq (.t 22) (.k (.int .i64 (4294967296)))⟩,
    ⟨some 24, none, .pick (.t 20) (.t 23) (.k (.bool false))⟩,
    ⟨some 25, none, .mov (.t 24)⟩,
    ⟨some 26, (some (25, true)), .fld 2 (.t 1)⟩,
    ⟨some 27, (some (25, true)), .load none (.t 26)⟩,
    ⟨some 28, (some (25, true)), .bin .eql (.t 27) (.k (.string { data := #[] }))⟩,
    ⟨some 29, none, .pick (.t 25) (.t 28) (.k (.bool false))⟩,
    ⟨some 2, none, .mov (.t 29)⟩] none [2]
def r_erasureref01Valid_6 : ACode := .reg [
    ⟨some 31, none, .bin .eql (.t 4) (.k (.int .i64 (2)))⟩,
    ⟨some 30, none, .mov (.t 31)⟩] none [1, 30]
def r_erasureref01Valid_7 : ACode := .reg [
    ⟨some 32, none, .fld 1 (.t 1)⟩,
    ⟨some 33, none, .load none (.t 32)⟩,
    ⟨some 34, none, .bin .eql (.t 33) (.k (.int .i64 (0)))⟩,
    ⟨some 35, none, .mov (.t 34)⟩,
    ⟨some 36, (some (35, true)), .fld 2 (.t 1)⟩,
    ⟨some 37, (some (35, true)), .load none (.t 36)⟩,
    ⟨some 38, (some (35, true)), .lens (.t 37)⟩,
    ⟨some 39, (some (35, true)), .bin .leq (.t 38) (.k (.int .i64 (32)))⟩,
    ⟨some 40, none, .pick (.t 35) (.t 39) (.k (.bool false))⟩,
    ⟨some 2, none, .mov (.t 40)⟩] none [2]
def r_erasureref01Valid_8 : ACode := .reg [
    ⟨some 2, none, .mov (.k (.bool false))⟩] none [2]
def c_erasureref01Valid : ACode :=
  (.seq r_erasureref01Valid_0
  (.seq (.seq r_erasureref01Valid_1
    (.block 0 (.seq r_erasureref01Valid_2
      (.cond (.t 5)
       (.seq r_erasureref01Valid_3
        .ret)
       (.seq r_erasureref01Valid_4
        (.cond (.t 15)
         (.seq r_erasureref01Valid_5
          .ret)
         (.seq r_erasureref01Valid_6
          (.cond (.t 30)
           (.seq r_erasureref01Valid_7
            .ret)
           .skip))))))))
   (.seq r_erasureref01Valid_8
    .ret)))
theorem fits_erasureref01Valid : Fits Try.prog 106 41 c_erasureref01Valid [.t 2] := ⟨⟨Try.f106, _, _, Try.func106, rfl, rfl, rfl, by decide, by kernel_rfl, by kernel_rfl⟩, Try.checked.mixed⟩
end Go.Proofs.Ytjieenfbfckafaa.Am
namespace Go.Proofs.Ytjieenfbfckafaa.Am
open Go
set_option linter.unusedVariables false
set_option linter.unusedSimpArgs false
set_option maxRecDepth 100000
def r_erasureref22SameVersions_0 : ACode := .reg [
    ⟨some 4, none, .mov (.k (.bool false))⟩] none [0, 1]
def r_erasureref22SameVersions_1 : ACode := .reg [
    ⟨some 6, none, .mov (.t 0)⟩,
    ⟨some 7, none, .len (.t 6)⟩,
    ⟨some 8, none, .mov (.t 1)⟩,
    ⟨some 9, none, .len (.t 8)⟩,
    ⟨some 10, none, .bin .neq (.t 7) (.t 9)⟩] none [0, 1, 10]
def r_erasureref22SameVersions_2 : ACode := .reg [
    ⟨some 4, none, .mov (.k (.bool false))⟩] none [4]
def r_erasureref22SameVersions_3 : ACode := .reg [
    ⟨some 5, none, .mov (.k (.int .i64 (0)))⟩] none [0, 1, 5]
def r_erasureref22SameVersions_4 : ACode := .reg [
    ⟨some 11, none, .mov (.t 5)⟩,
    ⟨some 12, none, .mov (.t 0)⟩,
    ⟨some 13, none, .len (.t 12)⟩,
    ⟨some 14, none, .bin .lss (.t 11) (.t 13)⟩] none [0, 1, 5, 14]
def r_erasureref22SameVersions_5 : ACode := .reg [
    ⟨some 17, none, .mov (.t 0)⟩,
    ⟨some 18, none, .mov (.t 5)⟩,
    ⟨some 19, none, .idxa 3 (.t 17) (.t 18)⟩,
    ⟨some 20, none, .load (some 3) (.t 19)⟩,
    ⟨some 21, none, .mov (.t 1)⟩,
    ⟨some 22, none, .mov (.t 5)⟩,
    ⟨some 23, none, .idxa 3 (.t 21) (.t 22)⟩,
    ⟨some 24, none, .load (some 3) (.t 23)⟩,
    ⟨some 25, none, .eqa true [(3, .ti .i64)] (.t 20) (.t 24)⟩] (some [0, 0, 3, 7, 0, 0, 48, 112, 255]) [0, 1, 5, 25]
def r_erasureref22SameVersions_6 : ACode := .reg [
    ⟨some 4, none, .mov (.k (.bool false))⟩] none [4]
def r_erasureref22SameVersions_7 : ACode := .reg [
    ⟨some 15, none, .mov (.t 5)⟩,
    ⟨some 16, none, .bin .add (.t 15) (.k (.int .i64 (1)))⟩,
    ⟨some 5, none, .mov (.t 16)⟩] none [0, 1, 5]
def r_erasureref22SameVersions_8 : ACode := .reg [
    ⟨some 4, none, .mov (.k (.bool true))⟩] none [4]
def c_erasureref22SameVersions : ACode :=
  (.seq r_erasureref22SameVersions_0
  (.seq (.seq r_erasureref22SameVersions_1
    (.cond (.t 10)
     (.seq r_erasureref22SameVersions_2
      .ret)
     .skip))
   (.seq (.seq r_erasureref22SameVersions_3
     (.block 0 (.loop (.seq (.seq r_erasureref22SameVersions_4
         (.cond (.t 14)
          .skip
          (.exit 0)))
        (.seq (.block 1 (.seq r_erasureref22SameVersions_5
           (.cond (.t 25)
            (.seq r_erasureref22SameVersions_6
             .ret)
            .skip)))
         r_erasureref22SameVersions_7)))))
    (.seq r_erasureref22SameVersions_8
     .ret))))
theorem fits_erasureref22SameVersions : Fits Try.prog 100 26 c_erasureref22SameVersions [.t 4] := ⟨⟨Try.f100, _, _, Try.func100, rfl, rfl, rfl, by decide, by kernel_rfl, by kernel_rfl⟩, Try.checked.mixed⟩
def r_erasureref22SameSources_0 : ACode := .reg [
    ⟨some 4, none, .mov (.k (.bool false))⟩] none [0, 1]
def r_erasureref22SameSources_1 : ACode := .reg [
    ⟨some 6, none, .mov (.t 0)⟩,
    ⟨some 7, none, .len (.t 6)⟩,
    ⟨some 8, none, .mov (.t 1)⟩,
    ⟨some 9, none, .len (.t 8)⟩,
    ⟨some 10, none, .bin .neq (.t 7) (.t 9)⟩] none [0, 1, 10]
def r_erasureref22SameSources_2 : ACode := .reg [
    ⟨some 4, none, .mov (.k (.bool false))⟩] none [4]
def r_erasureref22SameSources_3 : ACode := .reg [
    ⟨some 5, none, .mov (.k (.int .i64 (0)))⟩] none [0, 1, 5]
def r_erasureref22SameSources_4 : ACode := .reg [
    ⟨some 11, none, .mov (.t 5)⟩,
    ⟨some 12, none, .mov (.t 0)⟩,
    ⟨some 13, none, .len (.t 12)⟩,
    ⟨some 14, none, .bin .lss (.t 11) (.t 13)⟩] none [0, 1, 5, 14]
def r_erasureref22SameSources_5 : ACode := .reg [
    ⟨some 17, none, .mov (.t 0)⟩,
    ⟨some 18, none, .mov (.t 5)⟩,
    ⟨some 19, none, .idxa 2 (.t 17) (.t 18)⟩,
    ⟨some 20, none, .load (some 2) (.t 19)⟩,
    ⟨some 21, none, .mov (.t 1)⟩,
    ⟨some 22, none, .mov (.t 5)⟩,
    ⟨some 23, none, .idxa 2 (.t 21) (.t 22)⟩,
    ⟨some 24, none, .load (some 2) (.t 23)⟩,
    ⟨some 25, none, .eqa true [(2, .ti .i64)] (.t 20) (.t 24)⟩] (some [0, 0, 3, 7, 0, 0, 48, 112, 255]) [0, 1, 5, 25]
def r_erasureref22SameSources_6 : ACode := .reg [
    ⟨some 4, none, .mov (.k (.bool false))⟩] none [4]
def r_erasureref22SameSources_7 : ACode := .reg [
    ⟨some 15, none, .mov (.t 5)⟩,
    ⟨some 16, none, .bin .add (.t 15) (.k (.int .i64 (1)))⟩,
    ⟨some 5, none, .mov (.t 16)⟩] none [0, 1, 5]
def r_erasureref22SameSources_8 : ACode := .reg [
    ⟨some 4, none, .mov (.k (.bool true))⟩] none [4]
def c_erasureref22SameSources : ACode :=
  (.seq r_erasureref22SameSources_0
  (.seq (.seq r_erasureref22SameSources_1
    (.cond (.t 10)
     (.seq r_erasureref22SameSources_2
      .ret)
     .skip))
   (.seq (.seq r_erasureref22SameSources_3
     (.block 0 (.loop (.seq (.seq r_erasureref22SameSources_4
         (.cond (.t 14)
          .skip
          (.exit 0)))
        (.seq (.block 1 (.seq r_erasureref22SameSources_5
           (.cond (.t 25)
            (.seq r_erasureref22SameSources_6
             .ret)
            .skip)))
         r_erasureref22SameSources_7)))))
    (.seq r_erasureref22SameSources_8
     .ret))))
theorem fits_erasureref22SameSources : Fits Try.prog 101 26 c_erasureref22SameSources [.t 4] := ⟨⟨Try.f101, _, _, Try.func101, rfl, rfl, rfl, by decide, by kernel_rfl, by kernel_rfl⟩, Try.checked.mixed⟩
end Go.Proofs.Ytjieenfbfckafaa.Am
namespace Go.Proofs.Ytjieenfbfckafaa.Am
open Go
set_option linter.unusedVariables false
set_option linter.unusedSimpArgs false
set_option maxRecDepth 100000
def r_erasureref25Bytes_0 : ACode := .reg [
    ⟨some 1, none, .box 45 (.t 0)⟩,
    ⟨some 2, none, .mov (.k (.slice none 0 0))⟩] none [1]
def r_erasureref25Bytes_1 : ACode := .reg [
    ⟨some 5, none, .lit 5 1 0 [.int .u8 0] [] true⟩,
    ⟨some 3, none, .mov (.t 5)⟩] none [1, 3]
def r_erasureref25Bytes_2 : ACode := .reg [
    ⟨some 4, none, .mov (.k (.int .i64 (0)))⟩] none [1, 3, 4]
def r_erasureref25Bytes_3 : ACode := .reg [
    ⟨some 6, none, .mov (.t 4)⟩,
    ⟨some 7, none, .bin .lss (.t 6) (.k (.int .i64 (32)))⟩] none [1, 3, 4, 7]
def r_erasureref25Bytes_4 : ACode := .reg [
    ⟨some 10, none, .mov (.t 3)⟩,
    ⟨some 11, none, .mov (.t 4)⟩,
    ⟨some 12, none, .idxr 32 1 (.t 1) (.t 11)⟩,
    ⟨some 13, none, .load none (.t 12)⟩,
    ⟨some 14, none, .lit 5 1 1 [.int .u8 0] [(0, (.t 13))] false⟩,
    ⟨some 15, none, .app 5 1 1 (.t 10) (.t 14)⟩,
    ⟨some 3, none, .mov (.t 15)⟩] none [1, 3, 4]
def r_erasureref25Bytes_5 : ACode := .reg [
    ⟨some 8, none, .mov (.t 4)⟩,
    ⟨some 9, none, .bin .add (.t 8) (.k (.int .i64 (1)))⟩,
    ⟨some 4, none, .mov (.t 9)⟩] none [1, 3, 4]
def r_erasureref25Bytes_6 : ACode := .reg [
    ⟨some 16, none, .mov (.t 3)⟩,
    ⟨some 2, none, .mov (.t 16)⟩] none [2]
def c_erasureref25Bytes : ACode :=
  (.seq r_erasureref25Bytes_0
  (.seq r_erasureref25Bytes_1
   (.seq (.seq r_erasureref25Bytes_2
     (.block 0 (.loop (.seq (.seq r_erasureref25Bytes_3
         (.cond (.t 7)
          .skip
          (.exit 0)))
        (.seq (.block 1 r_erasureref25Bytes_4)
         r_erasureref25Bytes_5)))))
    (.seq r_erasureref25Bytes_6
     .ret))))
theorem fits_erasureref25Bytes : Fits Try.prog 113 17 c_erasureref25Bytes [.t 2] := ⟨⟨Try.f113, _, _, Try.func113, rfl, rfl, rfl, by decide, by kernel_rfl, by kernel_rfl⟩, Try.checked.mixed⟩
end Go.Proofs.Ytjieenfbfckafaa.Am
namespace Go.Proofs.Ytjieenfbfckafaa.Am
open Go
set_option linter.unusedVariables false
set_option linter.unusedSimpArgs false
set_option maxRecDepth 100000
def r_value_Clean_0 : ACode := .reg [
    ⟨some 1, none, .box 67 (.t 0)⟩,
    ⟨some 2, none, .alloc 67 [.int .i64 0, .int .i64 0, .string ⟨#[]⟩]⟩] none [1, 2]
def r_value_Clean_1 : ACode := .reg [
    ⟨some 3, none, .load (some 3) (.t 1)⟩,
    ⟨some 4, none, .call 134 [(.t 3)]⟩] none [1, 2, 4]
def r_value_Clean_2 : ACode := .reg [
    ⟨some 5, none, .load (some 3) (.t 1)⟩,
    ⟨none, none, .store 3 (.t 2) (.t 5)⟩] none [2]
def r_value_Clean_3 : ACode := .reg [
    ⟨some 6, none, .build [.int .i64 0, .int .i64 0, .string ⟨#[]⟩] []⟩,
    ⟨none, none, .store 3 (.t 2) (.t 6)⟩] none [2]
def c_value_Clean : ACode :=
  (.seq r_value_Clean_0
  (.seq (.seq r_value_Clean_1
    (.cond (.t 4)
     (.seq r_value_Clean_2
      .ret)
     .skip))
   (.seq r_value_Clean_3
    .ret)))
theorem fits_value_Clean : Fits Try.prog 131 7 c_value_Clean [.c 2 (some 3)] := ⟨⟨Try.f131, _, _, Try.func131, rfl, rfl, rfl, by decide, by kernel_rfl, by kernel_rfl⟩, Try.checked.mixed⟩
def r_value_Valid_0 : ACode := .reg [
    ⟨some 1, none, .box 67 (.t 0)⟩,
    ⟨some 2, none, .mov (.k (.bool false))⟩] none [1]
def r_value_Valid_1 : ACode := .reg [
    ⟨some 3, none, .fld 0 (.t 1)⟩,
    ⟨some 4, none, .load none (.t 3)⟩] none [1, 4]
def r_value_Valid_2 : ACode := .reg [
    ⟨some 6, none, .bin .eql (.t 4) (.k (.int .i64 (0)))⟩,
    ⟨some 5, none, .mov (.t 6)⟩] none [1, 4, 5]
def r_value_Valid_3 : ACode := .reg [
    ⟨some 7, none, .fld 1 (.t 1)⟩,
    ⟨some 8, none, .load none (.t 7)⟩,
    ⟨some 9, none, .bin .eql (.t 8) (.k (.int .i64 (0)))⟩,
    ⟨some 10, none, .mov (.t 9)⟩,
    ⟨some 11, (some (10, true)), .fld 2 (.t 1)⟩,
    ⟨some 12, (some (10, true)), .load none (.t 11)⟩,
    ⟨some 13, (some (10, true)), .bin .eql (.t 12) (.k (.string { data := #[] }))⟩,
    ⟨some 14, none, .pick (.t 10) (.t 13) (.k (.bool false))⟩,
    ⟨some 2, none, .mov (.t 14)⟩] none [2]
def r_value_Valid_4 : ACode := .reg [
    ⟨some 16, none, .bin .eql (.t 4) (.k (.int .i64 (1)))⟩,
    ⟨some 15, none, .mov (.t 16)⟩] none [1, 4, 15]
def r_value_Valid_5 : ACode := .reg [
    ⟨some 17, none, .fld 1 (.t 1)⟩,
    ⟨some 18, none, .load none (.t 17)⟩,
    ⟨some 19, none, .call 135 [(.t 18)]⟩,
    ⟨some 20, none, .mov (.t 19)⟩,
    ⟨some 21, (some (20, true)), .fld 2 (.t 1)⟩,
    ⟨some 22, (some (20, true)), .load none (.t 21)⟩,
    ⟨some 23, (some (20, true)), .bin .eql (.t 22) (.k (.string { data := #[] }))⟩,
    ⟨some 24, none, .pick (.t 20) (.t 23) (.k (.bool false))⟩,
    ⟨some 2, none, .mov (.t 24)⟩] none [2]
def r_value_Valid_6 : ACode := .reg [
    ⟨some 26, none, .bin .eql (.t 4) (.k (.int .i64 (2)))⟩,
    ⟨some 25, none, .mov (.t 26)⟩] none [1, 25]
def r_value_Valid_7 : ACode := .reg [
    ⟨some 27, none, .fld 1 (.t 1)⟩,
    ⟨some 28, none, .load none (.t 27)⟩,
    ⟨some 29, none, .bin .eql (.t 28) (.k (.int .i64 (0)))⟩,
    ⟨some 30, none, .mov (.t 29)⟩,
    ⟨some 31, (some (30, true)), .fld 2 (.t 1)⟩,
    ⟨some 32, (some (30, true)), .load none (.t 31)⟩,
    ⟨some 33, (some (30, true)), .lens (.t 32)⟩,
    ⟨some 34, (some (30, true)), .bin .leq (.t 33) (.k (.int .i64 (32)))⟩,
    ⟨some 35, none, .pick (.t 30) (.t 34) (.k (.bool false))⟩,
    ⟨some 2, none, .mov (.t 35)⟩] none [2]
def r_value_Valid_8 : ACode := .reg [
    ⟨some 2, none, .mov (.k (.bool false))⟩] none [2]
def c_value_Valid : ACode :=
  (.seq r_value_Valid_0
  (.seq (.seq r_value_Valid_1
    (.block 0 (.seq r_value_Valid_2
      (.cond (.t 5)
       (.seq r_value_Valid_3
        .ret)
       (.seq r_value_Valid_4
        (.cond (.t 15)
         (.seq r_value_Valid_5
          .ret)
         (.seq r_value_Valid_6
          (.cond (.t 25)
           (.seq r_value_Valid_7
            .ret)
           .skip))))))))
   (.seq r_value_Valid_8
    .ret)))
theorem fits_value_Valid : Fits Try.prog 134 36 c_value_Valid [.t 2] := ⟨⟨Try.f134, _, _, Try.func134, rfl, rfl, rfl, by decide, by kernel_rfl, by kernel_rfl⟩, Try.checked.mixed⟩
def r_value_inRange_0 : ACode := .reg [
    ⟨some 2, none, .mov (.k (.bool false))⟩] none [0]
def r_value_inRange_1 : ACode := .reg [
    ⟨some 3, none, .mov (.t 0)⟩,
    ⟨some 4, none, .bin .geq (.t 3) (.k (.int .i64 (-4294967296)))⟩,
    ⟨some 5, none, .mov (.t 4)⟩,
    ⟨some 6, (some (5, true)), .mov (.t 0)⟩,
    ⟨some 7, (some (5, true)), .bin .leq (.t 6) (.k (.int .i64 (4294967296)))⟩,
    ⟨some 8, none, .pick (.t 5) (.t 7) (.k (.bool false))⟩,
    ⟨some 2, none, .mov (.t 8)⟩] none [2]
def c_value_inRange : ACode :=
  (.seq r_value_inRange_0
  (.seq r_value_inRange_1
   .ret))
theorem fits_value_inRange : Fits Try.prog 135 9 c_value_inRange [.t 2] := ⟨⟨Try.f135, _, _, Try.func135, rfl, rfl, rfl, by decide, by kernel_rfl, by kernel_rfl⟩, Try.checked.mixed⟩
end Go.Proofs.Ytjieenfbfckafaa.Am
namespace Go.Proofs.Ytjieenfbfckafaa.Am
open Go
set_option linter.unusedVariables false
set_option linter.unusedSimpArgs false
set_option maxRecDepth 100000
set_option maxHeartbeats 1000000
/-- codec.cloned -/
theorem cloned_meets (b : List UInt8) (h : b.length ≤ 70368744177664) : Meets Try.prog F_codec_cloned ⟨[.c (bs b)], [], 0, buf 0 b, [(0, bob b)], 1⟩ := by
  refine fits_codec_cloned.meets rfl (by simp) fun Q hQ => ?_
  (conv => whnf); repeat' (first | (refine And.intro ?_ ?_; (focus (first | omega | (dsimp only; omega) | (simp only [List.length_append]; omega) | (simp [pb]; done) | (simp [pb]; omega) | (simp [zeros_u8, pb]; done) | (simp [zeros_u8, pb]; omega) | (simp [ByteArray.size]; omega) | exact Nat.le_of_ble_eq_true rfl | exact u64_nonneg _ | (show chkDraw _ _ = true; kernel_rfl) | (decide; done))); (conv => whnf)) | (refine onB_intro (fun hb => ?_) (fun hb => ?_) <;> (try simp only [decide_eq_true_eq, decide_eq_false_iff_not, Bool.not_eq_true', Bool.not_eq_false', Bool.and_eq_true, Bool.and_eq_false_iff, Int.not_le, Int.not_lt, bsz, ByteArray.toList_eq, beq_iff_eq, beq_eq_false_iff_ne, ne_eq] at hb) <;> (try (exfalso; omega)) <;> (try (exfalso; first | contradiction | (simp [ByteArray.toList_eq] at hb; done))) <;> (conv => whnf)) | (refine (hQ _ _ _ ?_).1; (conv => whnf)) | (refine ⟨_, rfl, ?_⟩; (conv => whnf)) | (refine ⟨_, mp_cut _ _ _, ?_⟩; (conv => whnf)) | (refine ⟨_, dbs_cut _ _ _, ?_⟩; (conv => whnf)) | (refine ⟨[_], rfl, ?_⟩; (conv => whnf)) | (refine ⟨[_, _], rfl, ?_⟩; (conv => whnf)) | (refine ⟨[_, _, _], rfl, ?_⟩; (conv => whnf)) | (refine ⟨[_, _, _, _], rfl, ?_⟩; (conv => whnf)) | fail)
  exact retn [(0, 1)] rfl rfl (sub_ref (by simp)) ⟨hp_pure rfl (by simp), trivial⟩
theorem zz_neg {n : Int} (hn : inI64 n) (h : n < 0) : bits .xor .u64 (if IntKind.u64.signed = true then -1 else IntKind.u64.max) (IntKind.u64.wrap (IntKind.u64.wrap n * 2 ^ min (Int.toNat 1) IntKind.u64.bits)) = (zz n : Int) := by
  obtain ⟨h1, h2⟩ := hn
  have e : (if IntKind.u64.signed = true then -1 else IntKind.u64.max) = (18446744073709551615 : Int) := by decide
  have e2 : IntKind.u64.wrap (IntKind.u64.wrap n * 2 ^ min (Int.toNat 1) IntKind.u64.bits) = 2 * n + 18446744073709551616 := by
    rw [show min (Int.toNat 1) IntKind.u64.bits = 1 by decide, wrap_u64, wrap_u64]; omega
  rw [e, e2, xor_u64 (by omega) (by omega)]
  unfold zz; rw [if_pos h]; omega
theorem zz_pos {n : Int} (hn : inI64 n) (h : 0 ≤ n) : IntKind.u64.wrap (IntKind.u64.wrap n * 2 ^ min (Int.toNat 1) IntKind.u64.bits) = (zz n : Int) := by
  obtain ⟨h1, h2⟩ := hn
  rw [show min (Int.toNat 1) IntKind.u64.bits = 1 by decide, wrap_u64, wrap_u64]
  unfold zz; rw [if_neg (by omega)]; omega
theorem byte_more {u : Nat} : bits .or .u8 (IntKind.u8.wrap (u : Int)) 128 = ((UInt8.ofNat (u % 128 + 128)).toNat : Int) := by
  rw [IntKind.wrap_u8, or_128 (by omega) (by omega)]
  simp; omega
theorem byte_last {u : Nat} (h : u < 128) : IntKind.u8.wrap (u : Int) = ((UInt8.ofNat u).toNat : Int) := by
  rw [IntKind.wrap_u8]; simp
theorem shr_7 {u : Nat} : Int.fdiv (u : Int) (2 ^ min (Int.toNat 7) IntKind.u64.bits) = ((u / 128 : Nat) : Int) := by
  rw [show (2 : Int) ^ min (Int.toNat 7) IntKind.u64.bits = 128 by decide, Int.fdiv_eq_ediv_of_nonneg _ (by decide)]; omega
/-- codec.putInt -/
theorem putInt_meets (b : List UInt8) (n : Int) (hn : inI64 n) (h : b.length ≤ 70368744177664) : Meets Try.prog F_codec_putInt ⟨[buf 0 b, vi n], [(0, bob b)], 1, buf 1 (b ++ encInt n), [(1, bob (b ++ encInt n))], 2⟩ := by
  refine fits_codec_putInt.meets rfl (by simp) fun Q hQ => ?_
  have hlen := encInt_len hn
  have hlt := zz_lt hn
  (conv => whnf); repeat' (first | (refine And.intro ?_ ?_; (focus (first | omega | (dsimp only; omega) | (simp only [List.length_append]; omega) | (simp [pb]; done) | (simp [pb]; omega) | (simp [zeros_u8, pb]; done) | (simp [zeros_u8, pb]; omega) | (simp [ByteArray.size]; omega) | exact Nat.le_of_ble_eq_true rfl | exact u64_nonneg _ | (show chkDraw _ _ = true; kernel_rfl) | (decide; done))); (conv => whnf)) | (refine onB_intro (fun hb => ?_) (fun hb => ?_) <;> (try simp only [decide_eq_true_eq, decide_eq_false_iff_not, Bool.not_eq_true', Bool.not_eq_false', Bool.and_eq_true, Bool.and_eq_false_iff, Int.not_le, Int.not_lt, bsz, ByteArray.toList_eq, beq_iff_eq, beq_eq_false_iff_ne, ne_eq] at hb) <;> (try (exfalso; omega)) <;> (try (exfalso; first | contradiction | (simp [ByteArray.toList_eq] at hb; done))) <;> (conv => whnf)) | (refine (hQ _ _ _ ?_).1; (conv => whnf)) | (refine ⟨_, rfl, ?_⟩; (conv => whnf)) | (refine ⟨_, mp_cut _ _ _, ?_⟩; (conv => whnf)) | (refine ⟨_, dbs_cut _ _ _, ?_⟩; (conv => whnf)) | (refine ⟨[_], rfl, ?_⟩; (conv => whnf)) | (refine ⟨[_, _], rfl, ?_⟩; (conv => whnf)) | (refine ⟨[_, _, _], rfl, ?_⟩; (conv => whnf)) | (refine ⟨[_, _, _, _], rfl, ?_⟩; (conv => whnf)) | fail)
  all_goals
    refine loop_fam (ι := Nat × List UInt8) (fun i => ⟨[(0, buf 1 i.2), (5, .c (.p (.v (.int .u64 i.1))))], [(1, bob i.2)], 2⟩) (fun i => i.1) (fun i => i.1 < 18446744073709551616 ∧ i.2 ++ encU i.1 = b ++ encInt n) (zz n, b)
      ((Wk.move 0 _ rfl).trans (wkn [(1, 1)] rfl rfl ⟨Sub.refl _, sub_int (by first | exact zz_neg hn hb | exact zz_pos hn hb), trivial⟩ ⟨hp_pure rfl rfl, trivial⟩)) ⟨hlt, rfl⟩ ?_
  all_goals
    clear hb
    rintro ⟨u, bb⟩ ⟨hu, he⟩ K hK
    simp only at hu he
    have hl2 : bb.length + (encU u).length = b.length + (encInt n).length := by rw [← List.length_append, he, List.length_append]
    rcases Nat.lt_or_ge u 128 with hc | hc
    · (conv => whnf); repeat' (first | (refine And.intro ?_ ?_; (focus (first | omega | (dsimp only; omega) | (simp only [List.length_append]; omega) | (simp [pb]; done) | (simp [pb]; omega) | (simp [zeros_u8, pb]; done) | (simp [zeros_u8, pb]; omega) | (simp [ByteArray.size]; omega) | exact Nat.le_of_ble_eq_true rfl | exact u64_nonneg _ | (show chkDraw _ _ = true; kernel_rfl) | (decide; done))); (conv => whnf)) | (refine onB_intro (fun hb => ?_) (fun hb => ?_) <;> (try simp only [decide_eq_true_eq, decide_eq_false_iff_not, Bool.not_eq_true', Bool.not_eq_false', Bool.and_eq_true, Bool.and_eq_false_iff, Int.not_le, Int.not_lt, bsz, ByteArray.toList_eq, beq_iff_eq, beq_eq_false_iff_ne, ne_eq] at hb) <;> (try (exfalso; omega)) <;> (try (exfalso; first | contradiction | (simp [ByteArray.toList_eq] at hb; done))) <;> (conv => whnf)) | (refine (hQ _ _ _ ?_).1; (conv => whnf)) | (refine ⟨_, rfl, ?_⟩; (conv => whnf)) | (refine ⟨_, mp_cut _ _ _, ?_⟩; (conv => whnf)) | (refine ⟨_, dbs_cut _ _ _, ?_⟩; (conv => whnf)) | (refine ⟨[_], rfl, ?_⟩; (conv => whnf)) | (refine ⟨[_, _], rfl, ?_⟩; (conv => whnf)) | (refine ⟨[_, _, _], rfl, ?_⟩; (conv => whnf)) | (refine ⟨[_, _, _, _], rfl, ?_⟩; (conv => whnf)) | fail)
      rw [encU_lt hc] at he
      exact retn [(1, 2)] rfl rfl (sub_ref (by rw [← he]; simp)) ⟨hp_pure rfl (by rw [← he]; exact dbs_snoc (byte_last hc)), trivial⟩
    · (conv => whnf); repeat' (first | (refine And.intro ?_ ?_; (focus (first | omega | (dsimp only; omega) | (simp only [List.length_append]; omega) | (simp [pb]; done) | (simp [pb]; omega) | (simp [zeros_u8, pb]; done) | (simp [zeros_u8, pb]; omega) | (simp [ByteArray.size]; omega) | exact Nat.le_of_ble_eq_true rfl | exact u64_nonneg _ | (show chkDraw _ _ = true; kernel_rfl) | (decide; done))); (conv => whnf)) | (refine onB_intro (fun hb => ?_) (fun hb => ?_) <;> (try simp only [decide_eq_true_eq, decide_eq_false_iff_not, Bool.not_eq_true', Bool.not_eq_false', Bool.and_eq_true, Bool.and_eq_false_iff, Int.not_le, Int.not_lt, bsz, ByteArray.toList_eq, beq_iff_eq, beq_eq_false_iff_ne, ne_eq] at hb) <;> (try (exfalso; omega)) <;> (try (exfalso; first | contradiction | (simp [ByteArray.toList_eq] at hb; done))) <;> (conv => whnf)) | (refine (hQ _ _ _ ?_).1; (conv => whnf)) | (refine ⟨_, rfl, ?_⟩; (conv => whnf)) | (refine ⟨_, mp_cut _ _ _, ?_⟩; (conv => whnf)) | (refine ⟨_, dbs_cut _ _ _, ?_⟩; (conv => whnf)) | (refine ⟨[_], rfl, ?_⟩; (conv => whnf)) | (refine ⟨[_, _], rfl, ?_⟩; (conv => whnf)) | (refine ⟨[_, _, _], rfl, ?_⟩; (conv => whnf)) | (refine ⟨[_, _, _, _], rfl, ?_⟩; (conv => whnf)) | fail)
      rw [encU_ge (by omega)] at he
      refine hK _ _ _ (u / 128, bb ++ [UInt8.ofNat (u % 128 + 128)]) ⟨by dsimp only; omega, by dsimp only; rw [List.append_assoc]; exact he⟩ (by dsimp only; omega) (wkn [(1, 2)] rfl rfl ⟨sub_ref (by simp), sub_int shr_7, trivial⟩ ⟨hp_pure rfl (dbs_snoc byte_more), trivial⟩)
/-- codec.putText -/
theorem putText_meets (b t : List UInt8) (ht : t.length ≤ 35184372088832) (h : b.length ≤ 35184372088832) : Meets Try.prog F_codec_putText ⟨[buf 0 b, tst t], [(0, bob b)], 1, buf 1 (b ++ encText t), [(1, bob (b ++ encText t))], 2⟩ := by
  refine fits_codec_putText.meets rfl (by simp) fun Q hQ => ?_
  have h1 := encInt_len (n := t.length) ⟨by omega, by omega⟩
  have m := putInt_meets b t.length ⟨by omega, by omega⟩ (by omega)
  (conv => whnf); repeat' (first | (refine And.intro ?_ ?_; (focus (first | omega | (dsimp only; omega) | (simp only [List.length_append]; omega) | (simp [pb]; done) | (simp [pb]; omega) | (simp [zeros_u8, pb]; done) | (simp [zeros_u8, pb]; omega) | (simp [ByteArray.size]; omega) | exact Nat.le_of_ble_eq_true rfl | exact u64_nonneg _ | (show chkDraw _ _ = true; kernel_rfl) | (decide; done))); (conv => whnf)) | (refine onB_intro (fun hb => ?_) (fun hb => ?_) <;> (try simp only [decide_eq_true_eq, decide_eq_false_iff_not, Bool.not_eq_true', Bool.not_eq_false', Bool.and_eq_true, Bool.and_eq_false_iff, Int.not_le, Int.not_lt, bsz, ByteArray.toList_eq, beq_iff_eq, beq_eq_false_iff_ne, ne_eq] at hb) <;> (try (exfalso; omega)) <;> (try (exfalso; first | contradiction | (simp [ByteArray.toList_eq] at hb; done))) <;> (conv => whnf)) | (refine (hQ _ _ _ ?_).1; (conv => whnf)) | (refine ⟨_, rfl, ?_⟩; (conv => whnf)) | (refine ⟨_, mp_cut _ _ _, ?_⟩; (conv => whnf)) | (refine ⟨_, dbs_cut _ _ _, ?_⟩; (conv => whnf)) | (refine ⟨[_], rfl, ?_⟩; (conv => whnf)) | (refine ⟨[_, _], rfl, ?_⟩; (conv => whnf)) | (refine ⟨[_, _, _], rfl, ?_⟩; (conv => whnf)) | (refine ⟨[_, _, _, _], rfl, ?_⟩; (conv => whnf)) | (apply call_buf (m) (fun F => by first | exact rfl | exact bob_ren F _ | exact ob_ren F _ _) (fun F => by first | exact rfl | exact bob_ren F _ | exact ob_ren F _ _); (focus ((repeat' (first | exact trivial | exact Sub.refl _ | exact sub_nil | exact Or.inl rfl | exact Or.inr ⟨rfl, rfl⟩ | (refine sub_ref ?_; (first | omega | (simp; done) | (simp; omega))) | (refine sub_int ?_; (first | omega | rfl | (simp [bsz]; done))) | refine sub_tup ?_ | exact sub_agg_dbs_r | exact sub_agg_take_r rfl (by first | assumption | omega) | (refine sub_agg_take rfl ?_; (first | ((try rw [dbs_length]); assumption) | ((try rw [dbs_length]); omega))) | refine sub_agg ?_ | (refine sub_val ?_ ?_ <;> (first | omega | (simp [pb, List.map_take, List.map_drop, List.take_take]; done) | (simp [pb, List.map_take, List.map_drop]; omega) | (simp [pb, List.take_of_length_le]; done))) | (refine or_val ?_ ?_ <;> (first | omega | (simp [pb, List.map_take, List.map_drop, List.take_take]; done) | (simp [pb, List.map_take, List.map_drop]; omega) | (simp [pb, List.take_of_length_le]; done))) | refine And.intro ?_ ?_)); done)); (focus (first | exact rfl | exact hp_eq rfl (dbs_app _ _ _ rfl) | exact hp_eq rfl (dbs_appo _ _ _ _ rfl rfl) | (refine hp_eq rfl ?_; (simp only [bob, ← List.length_append, dbs_appo', dbs_app', bsz]; done)) | (refine hp_eq rfl ?_; (simp [dbs, pb]; done)))); (conv => whnf)) | fail)
  all_goals (exact ret_buf rfl rfl rfl (by first | rfl | exact congrArg List.length (by (first | rfl | (simp_all [encText]; done) | (simp [encText]; done))) | (simp [bsz, encText]; omega) | (simp_all [bsz, encText]; done) | (simp_all [bsz, encText]; omega)) (by first | rfl | exact congrArg dbs (by (first | rfl | (simp_all [encText]; done) | (simp [encText]; done))) | exact (dbs_app _ _ _ rfl).trans (congrArg dbs (by (first | rfl | (simp_all [encText]; done) | (simp [encText]; done)))) | exact (dbs_appo _ _ _ _ rfl rfl).trans (congrArg dbs (by (first | rfl | (simp_all [encText]; done) | (simp [encText]; done)))) | (simp only [bob, ← List.length_append, dbs_appo', dbs_app', bsz]; exact congrArg dbs (by (first | rfl | (simp_all [encText]; done) | (simp [encText]; done))))))
/-- value.inRange -/
theorem inRange_meets (n : Int) : Meets Try.prog F_value_inRange ⟨[vi n], [], 0, vb (decide (-4294967296 ≤ n) && decide (n ≤ 4294967296)), [], 0⟩ := by
  refine fits_value_inRange.meets rfl (by simp) fun Q hQ => ?_
  (conv => whnf); repeat' (first | (refine And.intro ?_ ?_; (focus (first | omega | (dsimp only; omega) | (simp only [List.length_append]; omega) | (simp [pb]; done) | (simp [pb]; omega) | (simp [zeros_u8, pb]; done) | (simp [zeros_u8, pb]; omega) | (simp [ByteArray.size]; omega) | exact Nat.le_of_ble_eq_true rfl | exact u64_nonneg _ | (show chkDraw _ _ = true; kernel_rfl) | (decide; done))); (conv => whnf)) | (refine onB_intro (fun hb => ?_) (fun hb => ?_) <;> (try simp only [decide_eq_true_eq, decide_eq_false_iff_not, Bool.not_eq_true', Bool.not_eq_false', Bool.and_eq_true, Bool.and_eq_false_iff, Int.not_le, Int.not_lt, bsz, ByteArray.toList_eq, beq_iff_eq, beq_eq_false_iff_ne, ne_eq] at hb) <;> (try (exfalso; omega)) <;> (try (exfalso; first | contradiction | (simp [ByteArray.toList_eq] at hb; done))) <;> (conv => whnf)) | (refine (hQ _ _ _ ?_).1; (conv => whnf)) | (refine ⟨_, rfl, ?_⟩; (conv => whnf)) | (refine ⟨_, mp_cut _ _ _, ?_⟩; (conv => whnf)) | (refine ⟨_, dbs_cut _ _ _, ?_⟩; (conv => whnf)) | (refine ⟨[_], rfl, ?_⟩; (conv => whnf)) | (refine ⟨[_, _], rfl, ?_⟩; (conv => whnf)) | (refine ⟨[_, _, _], rfl, ?_⟩; (conv => whnf)) | (refine ⟨[_, _, _, _], rfl, ?_⟩; (conv => whnf)) | fail)
  all_goals (refine RetOk.pure' (fun f => rfl) (sub_bool ?_); (first | (simp_all [bsz, ByteArray.toList_eq]; done) | (simp_all [bsz, ByteArray.toList_eq]; omega) | (simp_all [bsz, ByteArray.toList_eq]; intros; omega)))
/-- value.Valid -/
theorem vvalid_meets (v : Val) : Meets Try.prog F_value_Valid ⟨[.agg v.enc], [], 0, vb v.valid, [], 0⟩ := by
  refine fits_value_Valid.meets rfl (by simp) fun Q hQ => ?_
  (conv => whnf); repeat' (first | (refine And.intro ?_ ?_; (focus (first | omega | (dsimp only; omega) | (simp only [List.length_append]; omega) | (simp [pb]; done) | (simp [pb]; omega) | (simp [zeros_u8, pb]; done) | (simp [zeros_u8, pb]; omega) | (simp [ByteArray.size]; omega) | exact Nat.le_of_ble_eq_true rfl | exact u64_nonneg _ | (show chkDraw _ _ = true; kernel_rfl) | (decide; done))); (conv => whnf)) | (refine onB_intro (fun hb => ?_) (fun hb => ?_) <;> (try simp only [decide_eq_true_eq, decide_eq_false_iff_not, Bool.not_eq_true', Bool.not_eq_false', Bool.and_eq_true, Bool.and_eq_false_iff, Int.not_le, Int.not_lt, bsz, ByteArray.toList_eq, beq_iff_eq, beq_eq_false_iff_ne, ne_eq] at hb) <;> (try (exfalso; omega)) <;> (try (exfalso; first | contradiction | (simp [ByteArray.toList_eq] at hb; done))) <;> (conv => whnf)) | (refine (hQ _ _ _ ?_).1; (conv => whnf)) | (refine ⟨_, rfl, ?_⟩; (conv => whnf)) | (refine ⟨_, mp_cut _ _ _, ?_⟩; (conv => whnf)) | (refine ⟨_, dbs_cut _ _ _, ?_⟩; (conv => whnf)) | (refine ⟨[_], rfl, ?_⟩; (conv => whnf)) | (refine ⟨[_, _], rfl, ?_⟩; (conv => whnf)) | (refine ⟨[_, _, _], rfl, ?_⟩; (conv => whnf)) | (refine ⟨[_, _, _, _], rfl, ?_⟩; (conv => whnf)) | (refine call_pure (inRange_meets v.i) (fun F => by first | exact rfl | (simp only [TV.rens, TV.ren, dbs_ren]; rfl) | (simp [TV.rens, TV.ren, dbs_ren, map_ren_p]; done)) (fun F => by first | exact rfl | (simp only [TV.rens, TV.ren, dbs_ren]; rfl) | (simp [TV.rens, TV.ren, dbs_ren, map_ren_p]; done)) ?_ ?_; (focus ((repeat' (first | exact trivial | exact Sub.refl _ | exact sub_nil | exact Or.inl rfl | exact Or.inr ⟨rfl, rfl⟩ | (refine sub_ref ?_; (first | omega | (simp; done) | (simp; omega))) | (refine sub_int ?_; (first | omega | rfl | (simp [bsz]; done))) | refine sub_tup ?_ | exact sub_agg_dbs_r | exact sub_agg_take_r rfl (by first | assumption | omega) | (refine sub_agg_take rfl ?_; (first | ((try rw [dbs_length]); assumption) | ((try rw [dbs_length]); omega))) | refine sub_agg ?_ | (refine sub_val ?_ ?_ <;> (first | omega | (simp [pb, List.map_take, List.map_drop, List.take_take]; done) | (simp [pb, List.map_take, List.map_drop]; omega) | (simp [pb, List.take_of_length_le]; done))) | (refine or_val ?_ ?_ <;> (first | omega | (simp [pb, List.map_take, List.map_drop, List.take_take]; done) | (simp [pb, List.map_take, List.map_drop]; omega) | (simp [pb, List.take_of_length_le]; done))) | refine And.intro ?_ ?_)); done)); (conv => whnf)) | fail)
  all_goals (refine RetOk.pure' (fun f => rfl) (sub_bool ?_); (first | (simp_all [Val.valid, bsz, ByteArray.toList_eq]; done) | (simp_all [Val.valid, bsz, ByteArray.toList_eq]; omega) | (simp_all [Val.valid, bsz, ByteArray.toList_eq]; intros; omega)))
/-- erasureref01.Valid -/
theorem rvvalid_meets (v : Val) : Meets Try.prog F_erasureref01Valid ⟨[.agg v.enc], [], 0, vb v.valid, [], 0⟩ := by
  refine fits_erasureref01Valid.meets rfl (by simp) fun Q hQ => ?_
  (conv => whnf); repeat' (first | (refine And.intro ?_ ?_; (focus (first | omega | (dsimp only; omega) | (simp only [List.length_append]; omega) | (simp [pb]; done) | (simp [pb]; omega) | (simp [zeros_u8, pb]; done) | (simp [zeros_u8, pb]; omega) | (simp [ByteArray.size]; omega) | exact Nat.le_of_ble_eq_true rfl | exact u64_nonneg _ | (show chkDraw _ _ = true; kernel_rfl) | (decide; done))); (conv => whnf)) | (refine onB_intro (fun hb => ?_) (fun hb => ?_) <;> (try simp only [decide_eq_true_eq, decide_eq_false_iff_not, Bool.not_eq_true', Bool.not_eq_false', Bool.and_eq_true, Bool.and_eq_false_iff, Int.not_le, Int.not_lt, bsz, ByteArray.toList_eq, beq_iff_eq, beq_eq_false_iff_ne, ne_eq] at hb) <;> (try (exfalso; omega)) <;> (try (exfalso; first | contradiction | (simp [ByteArray.toList_eq] at hb; done))) <;> (conv => whnf)) | (refine (hQ _ _ _ ?_).1; (conv => whnf)) | (refine ⟨_, rfl, ?_⟩; (conv => whnf)) | (refine ⟨_, mp_cut _ _ _, ?_⟩; (conv => whnf)) | (refine ⟨_, dbs_cut _ _ _, ?_⟩; (conv => whnf)) | (refine ⟨[_], rfl, ?_⟩; (conv => whnf)) | (refine ⟨[_, _], rfl, ?_⟩; (conv => whnf)) | (refine ⟨[_, _, _], rfl, ?_⟩; (conv => whnf)) | (refine ⟨[_, _, _, _], rfl, ?_⟩; (conv => whnf)) | fail)
  all_goals (refine RetOk.pure' (fun f => rfl) (sub_bool ?_); (first | (simp_all [Val.valid, bsz, ByteArray.toList_eq]; done) | (simp_all [Val.valid, bsz, ByteArray.toList_eq]; omega) | (simp_all [Val.valid, bsz, ByteArray.toList_eq]; intros; omega)))
/-- value.Clean -/
theorem vclean_meets (v : Val) : Meets Try.prog F_value_Clean ⟨[.agg v.enc], [], 0, .agg v.clean.enc, [], 0⟩ := by
  have m := vvalid_meets v
  unfold Val.clean
  cases hv : v.valid with
  | true =>
    rw [hv] at m
    refine fits_value_Clean.meets rfl (by simp) fun Q hQ => ?_
    (conv => whnf); repeat' (first | (refine And.intro ?_ ?_; (focus (first | omega | (dsimp only; omega) | (simp only [List.length_append]; omega) | (simp [pb]; done) | (simp [pb]; omega) | (simp [zeros_u8, pb]; done) | (simp [zeros_u8, pb]; omega) | (simp [ByteArray.size]; omega) | exact Nat.le_of_ble_eq_true rfl | exact u64_nonneg _ | (show chkDraw _ _ = true; kernel_rfl) | (decide; done))); (conv => whnf)) | (refine onB_intro (fun hb => ?_) (fun hb => ?_) <;> (try simp only [decide_eq_true_eq, decide_eq_false_iff_not, Bool.not_eq_true', Bool.not_eq_false', Bool.and_eq_true, Bool.and_eq_false_iff, Int.not_le, Int.not_lt, bsz, ByteArray.toList_eq, beq_iff_eq, beq_eq_false_iff_ne, ne_eq] at hb) <;> (try (exfalso; omega)) <;> (try (exfalso; first | contradiction | (simp [ByteArray.toList_eq] at hb; done))) <;> (conv => whnf)) | (refine (hQ _ _ _ ?_).1; (conv => whnf)) | (refine ⟨_, rfl, ?_⟩; (conv => whnf)) | (refine ⟨_, mp_cut _ _ _, ?_⟩; (conv => whnf)) | (refine ⟨_, dbs_cut _ _ _, ?_⟩; (conv => whnf)) | (refine ⟨[_], rfl, ?_⟩; (conv => whnf)) | (refine ⟨[_, _], rfl, ?_⟩; (conv => whnf)) | (refine ⟨[_, _, _], rfl, ?_⟩; (conv => whnf)) | (refine ⟨[_, _, _, _], rfl, ?_⟩; (conv => whnf)) | (refine call_pure (m) (fun F => by first | exact rfl | (simp only [TV.rens, TV.ren, dbs_ren]; rfl) | (simp [TV.rens, TV.ren, dbs_ren, map_ren_p]; done)) (fun F => by first | exact rfl | (simp only [TV.rens, TV.ren, dbs_ren]; rfl) | (simp [TV.rens, TV.ren, dbs_ren, map_ren_p]; done)) ?_ ?_; (focus ((repeat' (first | exact trivial | exact Sub.refl _ | exact sub_nil | exact Or.inl rfl | exact Or.inr ⟨rfl, rfl⟩ | (refine sub_ref ?_; (first | omega | (simp; done) | (simp; omega))) | (refine sub_int ?_; (first | omega | rfl | (simp [bsz]; done))) | refine sub_tup ?_ | exact sub_agg_dbs_r | exact sub_agg_take_r rfl (by first | assumption | omega) | (refine sub_agg_take rfl ?_; (first | ((try rw [dbs_length]); assumption) | ((try rw [dbs_length]); omega))) | refine sub_agg ?_ | (refine sub_val ?_ ?_ <;> (first | omega | (simp [pb, List.map_take, List.map_drop, List.take_take]; done) | (simp [pb, List.map_take, List.map_drop]; omega) | (simp [pb, List.take_of_length_le]; done))) | (refine or_val ?_ ?_ <;> (first | omega | (simp [pb, List.map_take, List.map_drop, List.take_take]; done) | (simp [pb, List.map_take, List.map_drop]; omega) | (simp [pb, List.take_of_length_le]; done))) | refine And.intro ?_ ?_)); done)); (conv => whnf)) | fail)
    exact RetOk.pure' (fun f => rfl) (Sub.refl _)
  | false =>
    rw [hv] at m
    refine fits_value_Clean.meets rfl (by simp) fun Q hQ => ?_
    (conv => whnf); repeat' (first | (refine And.intro ?_ ?_; (focus (first | omega | (dsimp only; omega) | (simp only [List.length_append]; omega) | (simp [pb]; done) | (simp [pb]; omega) | (simp [zeros_u8, pb]; done) | (simp [zeros_u8, pb]; omega) | (simp [ByteArray.size]; omega) | exact Nat.le_of_ble_eq_true rfl | exact u64_nonneg _ | (show chkDraw _ _ = true; kernel_rfl) | (decide; done))); (conv => whnf)) | (refine onB_intro (fun hb => ?_) (fun hb => ?_) <;> (try simp only [decide_eq_true_eq, decide_eq_false_iff_not, Bool.not_eq_true', Bool.not_eq_false', Bool.and_eq_true, Bool.and_eq_false_iff, Int.not_le, Int.not_lt, bsz, ByteArray.toList_eq, beq_iff_eq, beq_eq_false_iff_ne, ne_eq] at hb) <;> (try (exfalso; omega)) <;> (try (exfalso; first | contradiction | (simp [ByteArray.toList_eq] at hb; done))) <;> (conv => whnf)) | (refine (hQ _ _ _ ?_).1; (conv => whnf)) | (refine ⟨_, rfl, ?_⟩; (conv => whnf)) | (refine ⟨_, mp_cut _ _ _, ?_⟩; (conv => whnf)) | (refine ⟨_, dbs_cut _ _ _, ?_⟩; (conv => whnf)) | (refine ⟨[_], rfl, ?_⟩; (conv => whnf)) | (refine ⟨[_, _], rfl, ?_⟩; (conv => whnf)) | (refine ⟨[_, _, _], rfl, ?_⟩; (conv => whnf)) | (refine ⟨[_, _, _, _], rfl, ?_⟩; (conv => whnf)) | (refine call_pure (m) (fun F => by first | exact rfl | (simp only [TV.rens, TV.ren, dbs_ren]; rfl) | (simp [TV.rens, TV.ren, dbs_ren, map_ren_p]; done)) (fun F => by first | exact rfl | (simp only [TV.rens, TV.ren, dbs_ren]; rfl) | (simp [TV.rens, TV.ren, dbs_ren, map_ren_p]; done)) ?_ ?_; (focus ((repeat' (first | exact trivial | exact Sub.refl _ | exact sub_nil | exact Or.inl rfl | exact Or.inr ⟨rfl, rfl⟩ | (refine sub_ref ?_; (first | omega | (simp; done) | (simp; omega))) | (refine sub_int ?_; (first | omega | rfl | (simp [bsz]; done))) | refine sub_tup ?_ | exact sub_agg_dbs_r | exact sub_agg_take_r rfl (by first | assumption | omega) | (refine sub_agg_take rfl ?_; (first | ((try rw [dbs_length]); assumption) | ((try rw [dbs_length]); omega))) | refine sub_agg ?_ | (refine sub_val ?_ ?_ <;> (first | omega | (simp [pb, List.map_take, List.map_drop, List.take_take]; done) | (simp [pb, List.map_take, List.map_drop]; omega) | (simp [pb, List.take_of_length_le]; done))) | (refine or_val ?_ ?_ <;> (first | omega | (simp [pb, List.map_take, List.map_drop, List.take_take]; done) | (simp [pb, List.map_take, List.map_drop]; omega) | (simp [pb, List.take_of_length_le]; done))) | refine And.intro ?_ ?_)); done)); (conv => whnf)) | fail)
    exact RetOk.pure' (fun f => rfl) (Sub.refl _)
/-- erasureref01.Clean -/
theorem rvclean_meets (v : Val) : Meets Try.prog F_erasureref01Clean ⟨[.agg v.enc], [], 0, .agg v.clean.enc, [], 0⟩ := by
  have m := rvvalid_meets v
  unfold Val.clean
  cases hv : v.valid with
  | true =>
    rw [hv] at m
    refine fits_erasureref01Clean.meets rfl (by simp) fun Q hQ => ?_
    (conv => whnf); repeat' (first | (refine And.intro ?_ ?_; (focus (first | omega | (dsimp only; omega) | (simp only [List.length_append]; omega) | (simp [pb]; done) | (simp [pb]; omega) | (simp [zeros_u8, pb]; done) | (simp [zeros_u8, pb]; omega) | (simp [ByteArray.size]; omega) | exact Nat.le_of_ble_eq_true rfl | exact u64_nonneg _ | (show chkDraw _ _ = true; kernel_rfl) | (decide; done))); (conv => whnf)) | (refine onB_intro (fun hb => ?_) (fun hb => ?_) <;> (try simp only [decide_eq_true_eq, decide_eq_false_iff_not, Bool.not_eq_true', Bool.not_eq_false', Bool.and_eq_true, Bool.and_eq_false_iff, Int.not_le, Int.not_lt, bsz, ByteArray.toList_eq, beq_iff_eq, beq_eq_false_iff_ne, ne_eq] at hb) <;> (try (exfalso; omega)) <;> (try (exfalso; first | contradiction | (simp [ByteArray.toList_eq] at hb; done))) <;> (conv => whnf)) | (refine (hQ _ _ _ ?_).1; (conv => whnf)) | (refine ⟨_, rfl, ?_⟩; (conv => whnf)) | (refine ⟨_, mp_cut _ _ _, ?_⟩; (conv => whnf)) | (refine ⟨_, dbs_cut _ _ _, ?_⟩; (conv => whnf)) | (refine ⟨[_], rfl, ?_⟩; (conv => whnf)) | (refine ⟨[_, _], rfl, ?_⟩; (conv => whnf)) | (refine ⟨[_, _, _], rfl, ?_⟩; (conv => whnf)) | (refine ⟨[_, _, _, _], rfl, ?_⟩; (conv => whnf)) | (refine call_pure (m) (fun F => by first | exact rfl | (simp only [TV.rens, TV.ren, dbs_ren]; rfl) | (simp [TV.rens, TV.ren, dbs_ren, map_ren_p]; done)) (fun F => by first | exact rfl | (simp only [TV.rens, TV.ren, dbs_ren]; rfl) | (simp [TV.rens, TV.ren, dbs_ren, map_ren_p]; done)) ?_ ?_; (focus ((repeat' (first | exact trivial | exact Sub.refl _ | exact sub_nil | exact Or.inl rfl | exact Or.inr ⟨rfl, rfl⟩ | (refine sub_ref ?_; (first | omega | (simp; done) | (simp; omega))) | (refine sub_int ?_; (first | omega | rfl | (simp [bsz]; done))) | refine sub_tup ?_ | exact sub_agg_dbs_r | exact sub_agg_take_r rfl (by first | assumption | omega) | (refine sub_agg_take rfl ?_; (first | ((try rw [dbs_length]); assumption) | ((try rw [dbs_length]); omega))) | refine sub_agg ?_ | (refine sub_val ?_ ?_ <;> (first | omega | (simp [pb, List.map_take, List.map_drop, List.take_take]; done) | (simp [pb, List.map_take, List.map_drop]; omega) | (simp [pb, List.take_of_length_le]; done))) | (refine or_val ?_ ?_ <;> (first | omega | (simp [pb, List.map_take, List.map_drop, List.take_take]; done) | (simp [pb, List.map_take, List.map_drop]; omega) | (simp [pb, List.take_of_length_le]; done))) | refine And.intro ?_ ?_)); done)); (conv => whnf)) | fail)
    exact RetOk.pure' (fun f => rfl) (Sub.refl _)
  | false =>
    rw [hv] at m
    refine fits_erasureref01Clean.meets rfl (by simp) fun Q hQ => ?_
    (conv => whnf); repeat' (first | (refine And.intro ?_ ?_; (focus (first | omega | (dsimp only; omega) | (simp only [List.length_append]; omega) | (simp [pb]; done) | (simp [pb]; omega) | (simp [zeros_u8, pb]; done) | (simp [zeros_u8, pb]; omega) | (simp [ByteArray.size]; omega) | exact Nat.le_of_ble_eq_true rfl | exact u64_nonneg _ | (show chkDraw _ _ = true; kernel_rfl) | (decide; done))); (conv => whnf)) | (refine onB_intro (fun hb => ?_) (fun hb => ?_) <;> (try simp only [decide_eq_true_eq, decide_eq_false_iff_not, Bool.not_eq_true', Bool.not_eq_false', Bool.and_eq_true, Bool.and_eq_false_iff, Int.not_le, Int.not_lt, bsz, ByteArray.toList_eq, beq_iff_eq, beq_eq_false_iff_ne, ne_eq] at hb) <;> (try (exfalso; omega)) <;> (try (exfalso; first | contradiction | (simp [ByteArray.toList_eq] at hb; done))) <;> (conv => whnf)) | (refine (hQ _ _ _ ?_).1; (conv => whnf)) | (refine ⟨_, rfl, ?_⟩; (conv => whnf)) | (refine ⟨_, mp_cut _ _ _, ?_⟩; (conv => whnf)) | (refine ⟨_, dbs_cut _ _ _, ?_⟩; (conv => whnf)) | (refine ⟨[_], rfl, ?_⟩; (conv => whnf)) | (refine ⟨[_, _], rfl, ?_⟩; (conv => whnf)) | (refine ⟨[_, _, _], rfl, ?_⟩; (conv => whnf)) | (refine ⟨[_, _, _, _], rfl, ?_⟩; (conv => whnf)) | (refine call_pure (m) (fun F => by first | exact rfl | (simp only [TV.rens, TV.ren, dbs_ren]; rfl) | (simp [TV.rens, TV.ren, dbs_ren, map_ren_p]; done)) (fun F => by first | exact rfl | (simp only [TV.rens, TV.ren, dbs_ren]; rfl) | (simp [TV.rens, TV.ren, dbs_ren, map_ren_p]; done)) ?_ ?_; (focus ((repeat' (first | exact trivial | exact Sub.refl _ | exact sub_nil | exact Or.inl rfl | exact Or.inr ⟨rfl, rfl⟩ | (refine sub_ref ?_; (first | omega | (simp; done) | (simp; omega))) | (refine sub_int ?_; (first | omega | rfl | (simp [bsz]; done))) | refine sub_tup ?_ | exact sub_agg_dbs_r | exact sub_agg_take_r rfl (by first | assumption | omega) | (refine sub_agg_take rfl ?_; (first | ((try rw [dbs_length]); assumption) | ((try rw [dbs_length]); omega))) | refine sub_agg ?_ | (refine sub_val ?_ ?_ <;> (first | omega | (simp [pb, List.map_take, List.map_drop, List.take_take]; done) | (simp [pb, List.map_take, List.map_drop]; omega) | (simp [pb, List.take_of_length_le]; done))) | (refine or_val ?_ ?_ <;> (first | omega | (simp [pb, List.map_take, List.map_drop, List.take_take]; done) | (simp [pb, List.map_take, List.map_drop]; omega) | (simp [pb, List.take_of_length_le]; done))) | refine And.intro ?_ ?_)); done)); (conv => whnf)) | fail)
    exact RetOk.pure' (fun f => rfl) (Sub.refl _)
theorem Val.clean_valid (v : Val) : v.clean.valid = true := by
  unfold Val.clean; split
  · assumption
  · rfl
theorem Val.clean_fit {v : Val} (h : v.valid = true) : (v.k = 0 ∧ v.i = 0 ∧ v.t = []) ∨ (v.k = 1 ∧ -4294967296 ≤ v.i ∧ v.i ≤ 4294967296 ∧ v.t = []) ∨ (v.k = 2 ∧ v.i = 0 ∧ v.t.length ≤ 32) := by
  unfold Val.valid at h
  split at h
  · simp at h; exact .inl ⟨by assumption, h⟩
  · split at h
    · simp at h; exact .inr (.inl ⟨by assumption, h.1.1, h.1.2, h.2⟩)
    · split at h
      · simp at h; exact .inr (.inr ⟨by assumption, h⟩)
      · cases h
/-- codec.putValue -/
theorem putValue_meets (b : List UInt8) (v : Val) (h : b.length ≤ 17592186044416) : Meets Try.prog F_codec_putValue ⟨[buf 0 b, .agg v.enc], [(0, bob b)], 1, buf 1 (b ++ encVal v), [(1, bob (b ++ encVal v))], 2⟩ := by
  have hc := Val.clean_fit (Val.clean_valid v)
  unfold encVal
  have m0 := vclean_meets v
  generalize v.clean = c at hc m0 ⊢
  have h1 := encInt_len (n := c.k) ⟨by omega, by omega⟩
  have h2 := encInt_len (n := c.i) ⟨by omega, by omega⟩
  refine fits_codec_putValue.meets rfl (by simp) fun Q hQ => ?_
  (conv => whnf); repeat' (first | (refine And.intro ?_ ?_; (focus (first | omega | (dsimp only; omega) | (simp only [List.length_append]; omega) | (simp [pb]; done) | (simp [pb]; omega) | (simp [zeros_u8, pb]; done) | (simp [zeros_u8, pb]; omega) | (simp [ByteArray.size]; omega) | exact Nat.le_of_ble_eq_true rfl | exact u64_nonneg _ | (show chkDraw _ _ = true; kernel_rfl) | (decide; done))); (conv => whnf)) | (refine onB_intro (fun hb => ?_) (fun hb => ?_) <;> (try simp only [decide_eq_true_eq, decide_eq_false_iff_not, Bool.not_eq_true', Bool.not_eq_false', Bool.and_eq_true, Bool.and_eq_false_iff, Int.not_le, Int.not_lt, bsz, ByteArray.toList_eq, beq_iff_eq, beq_eq_false_iff_ne, ne_eq] at hb) <;> (try (exfalso; omega)) <;> (try (exfalso; first | contradiction | (simp [ByteArray.toList_eq] at hb; done))) <;> (conv => whnf)) | (refine (hQ _ _ _ ?_).1; (conv => whnf)) | (refine ⟨_, rfl, ?_⟩; (conv => whnf)) | (refine ⟨_, mp_cut _ _ _, ?_⟩; (conv => whnf)) | (refine ⟨_, dbs_cut _ _ _, ?_⟩; (conv => whnf)) | (refine ⟨[_], rfl, ?_⟩; (conv => whnf)) | (refine ⟨[_, _], rfl, ?_⟩; (conv => whnf)) | (refine ⟨[_, _, _], rfl, ?_⟩; (conv => whnf)) | (refine ⟨[_, _, _, _], rfl, ?_⟩; (conv => whnf)) | (refine call_pure (m0) (fun F => by first | exact rfl | (simp only [TV.rens, TV.ren, dbs_ren]; rfl) | (simp [TV.rens, TV.ren, dbs_ren, map_ren_p]; done)) (fun F => by first | exact rfl | (simp only [TV.rens, TV.ren, dbs_ren]; rfl) | (simp [TV.rens, TV.ren, dbs_ren, map_ren_p]; done)) ?_ ?_; (focus ((repeat' (first | exact trivial | exact Sub.refl _ | exact sub_nil | exact Or.inl rfl | exact Or.inr ⟨rfl, rfl⟩ | (refine sub_ref ?_; (first | omega | (simp; done) | (simp; omega))) | (refine sub_int ?_; (first | omega | rfl | (simp [bsz]; done))) | refine sub_tup ?_ | exact sub_agg_dbs_r | exact sub_agg_take_r rfl (by first | assumption | omega) | (refine sub_agg_take rfl ?_; (first | ((try rw [dbs_length]); assumption) | ((try rw [dbs_length]); omega))) | refine sub_agg ?_ | (refine sub_val ?_ ?_ <;> (first | omega | (simp [pb, List.map_take, List.map_drop, List.take_take]; done) | (simp [pb, List.map_take, List.map_drop]; omega) | (simp [pb, List.take_of_length_le]; done))) | (refine or_val ?_ ?_ <;> (first | omega | (simp [pb, List.map_take, List.map_drop, List.take_take]; done) | (simp [pb, List.map_take, List.map_drop]; omega) | (simp [pb, List.take_of_length_le]; done))) | refine And.intro ?_ ?_)); done)); (conv => whnf)) | (apply call_buf (putInt_meets b c.k ⟨by omega, by omega⟩ (by omega)) (fun F => by first | exact rfl | exact bob_ren F _ | exact ob_ren F _ _) (fun F => by first | exact rfl | exact bob_ren F _ | exact ob_ren F _ _); (focus ((repeat' (first | exact trivial | exact Sub.refl _ | exact sub_nil | exact Or.inl rfl | exact Or.inr ⟨rfl, rfl⟩ | (refine sub_ref ?_; (first | omega | (simp; done) | (simp; omega))) | (refine sub_int ?_; (first | omega | rfl | (simp [bsz]; done))) | refine sub_tup ?_ | exact sub_agg_dbs_r | exact sub_agg_take_r rfl (by first | assumption | omega) | (refine sub_agg_take rfl ?_; (first | ((try rw [dbs_length]); assumption) | ((try rw [dbs_length]); omega))) | refine sub_agg ?_ | (refine sub_val ?_ ?_ <;> (first | omega | (simp [pb, List.map_take, List.map_drop, List.take_take]; done) | (simp [pb, List.map_take, List.map_drop]; omega) | (simp [pb, List.take_of_length_le]; done))) | (refine or_val ?_ ?_ <;> (first | omega | (simp [pb, List.map_take, List.map_drop, List.take_take]; done) | (simp [pb, List.map_take, List.map_drop]; omega) | (simp [pb, List.take_of_length_le]; done))) | refine And.intro ?_ ?_)); done)); (focus (first | exact rfl | exact hp_eq rfl (dbs_app _ _ _ rfl) | exact hp_eq rfl (dbs_appo _ _ _ _ rfl rfl) | (refine hp_eq rfl ?_; (simp only [bob, ← List.length_append, dbs_appo', dbs_app', bsz]; done)) | (refine hp_eq rfl ?_; (simp [dbs, pb]; done)))); (conv => whnf)) | (apply call_buf (putInt_meets (b ++ encInt c.k) c.i ⟨by omega, by omega⟩ (by simp; omega)) (fun F => by first | exact rfl | exact bob_ren F _ | exact ob_ren F _ _) (fun F => by first | exact rfl | exact bob_ren F _ | exact ob_ren F _ _); (focus ((repeat' (first | exact trivial | exact Sub.refl _ | exact sub_nil | exact Or.inl rfl | exact Or.inr ⟨rfl, rfl⟩ | (refine sub_ref ?_; (first | omega | (simp; done) | (simp; omega))) | (refine sub_int ?_; (first | omega | rfl | (simp [bsz]; done))) | refine sub_tup ?_ | exact sub_agg_dbs_r | exact sub_agg_take_r rfl (by first | assumption | omega) | (refine sub_agg_take rfl ?_; (first | ((try rw [dbs_length]); assumption) | ((try rw [dbs_length]); omega))) | refine sub_agg ?_ | (refine sub_val ?_ ?_ <;> (first | omega | (simp [pb, List.map_take, List.map_drop, List.take_take]; done) | (simp [pb, List.map_take, List.map_drop]; omega) | (simp [pb, List.take_of_length_le]; done))) | (refine or_val ?_ ?_ <;> (first | omega | (simp [pb, List.map_take, List.map_drop, List.take_take]; done) | (simp [pb, List.map_take, List.map_drop]; omega) | (simp [pb, List.take_of_length_le]; done))) | refine And.intro ?_ ?_)); done)); (focus (first | exact rfl | exact hp_eq rfl (dbs_app _ _ _ rfl) | exact hp_eq rfl (dbs_appo _ _ _ _ rfl rfl) | (refine hp_eq rfl ?_; (simp only [bob, ← List.length_append, dbs_appo', dbs_app', bsz]; done)) | (refine hp_eq rfl ?_; (simp [dbs, pb]; done)))); (conv => whnf)) | (apply call_buf (putText_meets (b ++ encInt c.k) c.t (by rcases hc with hc | hc | hc <;> simp_all; omega) (by simp; omega)) (fun F => by first | exact rfl | exact bob_ren F _ | exact ob_ren F _ _) (fun F => by first | exact rfl | exact bob_ren F _ | exact ob_ren F _ _); (focus ((repeat' (first | exact trivial | exact Sub.refl _ | exact sub_nil | exact Or.inl rfl | exact Or.inr ⟨rfl, rfl⟩ | (refine sub_ref ?_; (first | omega | (simp; done) | (simp; omega))) | (refine sub_int ?_; (first | omega | rfl | (simp [bsz]; done))) | refine sub_tup ?_ | exact sub_agg_dbs_r | exact sub_agg_take_r rfl (by first | assumption | omega) | (refine sub_agg_take rfl ?_; (first | ((try rw [dbs_length]); assumption) | ((try rw [dbs_length]); omega))) | refine sub_agg ?_ | (refine sub_val ?_ ?_ <;> (first | omega | (simp [pb, List.map_take, List.map_drop, List.take_take]; done) | (simp [pb, List.map_take, List.map_drop]; omega) | (simp [pb, List.take_of_length_le]; done))) | (refine or_val ?_ ?_ <;> (first | omega | (simp [pb, List.map_take, List.map_drop, List.take_take]; done) | (simp [pb, List.map_take, List.map_drop]; omega) | (simp [pb, List.take_of_length_le]; done))) | refine And.intro ?_ ?_)); done)); (focus (first | exact rfl | exact hp_eq rfl (dbs_app _ _ _ rfl) | exact hp_eq rfl (dbs_appo _ _ _ _ rfl rfl) | (refine hp_eq rfl ?_; (simp only [bob, ← List.length_append, dbs_appo', dbs_app', bsz]; done)) | (refine hp_eq rfl ?_; (simp [dbs, pb]; done)))); (conv => whnf)) | fail)
  all_goals (exact ret_buf rfl rfl rfl (by first | rfl | exact congrArg List.length (by (first | rfl | (simp_all [encVal']; done) | (simp [encVal']; done))) | (simp [bsz, encVal']; omega) | (simp_all [bsz, encVal']; done) | (simp_all [bsz, encVal']; omega)) (by first | rfl | exact congrArg dbs (by (first | rfl | (simp_all [encVal']; done) | (simp [encVal']; done))) | exact (dbs_app _ _ _ rfl).trans (congrArg dbs (by (first | rfl | (simp_all [encVal']; done) | (simp [encVal']; done)))) | exact (dbs_appo _ _ _ _ rfl rfl).trans (congrArg dbs (by (first | rfl | (simp_all [encVal']; done) | (simp [encVal']; done)))) | (simp only [bob, ← List.length_append, dbs_appo', dbs_app', bsz]; exact congrArg dbs (by (first | rfl | (simp_all [encVal']; done) | (simp [encVal']; done))))))
theorem byte_more' {u : Nat} : IntKind.u8.wrap (IntKind.u8.wrap (Int.tmod (u : Int) 128) + 128) = ((UInt8.ofNat (u % 128 + 128)).toNat : Int) := by
  rw [Int.tmod_eq_emod_of_nonneg (by omega), IntKind.wrap_u8, IntKind.wrap_u8]
  simp
theorem quo_128 {u : Nat} (h : u < 18446744073709551616) : IntKind.u64.wrap (Int.tdiv (u : Int) 128) = ((u / 128 : Nat) : Int) := by
  rw [Int.tdiv_eq_ediv_of_nonneg (by omega), wrap_u64_of (by omega) (by omega)]; omega
/-- erasureref26.Int -/
theorem rint_meets (n : Int) (hn : inI64 n) : Meets Try.prog F_erasureref26Int ⟨[vi n], [], 0, buf 0 (encInt n), [(0, bob (encInt n))], 1⟩ := by
  have hlen := encInt_len hn
  have hlt := zz_lt hn
  refine fits_erasureref26Int.meets rfl (by simp) fun Q hQ => ?_
  (conv => whnf); repeat' (first | (refine And.intro ?_ ?_; (focus (first | omega | (dsimp only; omega) | (simp only [List.length_append]; omega) | (simp [pb]; done) | (simp [pb]; omega) | (simp [zeros_u8, pb]; done) | (simp [zeros_u8, pb]; omega) | (simp [ByteArray.size]; omega) | exact Nat.le_of_ble_eq_true rfl | exact u64_nonneg _ | (show chkDraw _ _ = true; kernel_rfl) | (decide; done))); (conv => whnf)) | (refine onB_intro (fun hb => ?_) (fun hb => ?_) <;> (try simp only [decide_eq_true_eq, decide_eq_false_iff_not, Bool.not_eq_true', Bool.not_eq_false', Bool.and_eq_true, Bool.and_eq_false_iff, Int.not_le, Int.not_lt, bsz, ByteArray.toList_eq, beq_iff_eq, beq_eq_false_iff_ne, ne_eq] at hb) <;> (try (exfalso; omega)) <;> (try (exfalso; first | contradiction | (simp [ByteArray.toList_eq] at hb; done))) <;> (conv => whnf)) | (refine (hQ _ _ _ ?_).1; (conv => whnf)) | (refine ⟨_, rfl, ?_⟩; (conv => whnf)) | (refine ⟨_, mp_cut _ _ _, ?_⟩; (conv => whnf)) | (refine ⟨_, dbs_cut _ _ _, ?_⟩; (conv => whnf)) | (refine ⟨[_], rfl, ?_⟩; (conv => whnf)) | (refine ⟨[_, _], rfl, ?_⟩; (conv => whnf)) | (refine ⟨[_, _, _], rfl, ?_⟩; (conv => whnf)) | (refine ⟨[_, _, _, _], rfl, ?_⟩; (conv => whnf)) | fail)
  all_goals
    refine loop_fam (ι := Nat × List UInt8) (fun i => ⟨[(3, .c (.p (.v (.int .u64 i.1)))), (4, buf 0 i.2)], [(0, bob i.2)], 1⟩) (fun i => i.1) (fun i => i.1 < 18446744073709551616 ∧ i.2 ++ encU i.1 = encInt n) (zz n, [])
      (wkn [(0, 0)] rfl rfl ⟨sub_int (by first | exact zz_neg hn hb | exact zz_pos hn hb), Sub.refl _, trivial⟩ ⟨hp_pure rfl rfl, trivial⟩) ⟨hlt, rfl⟩ ?_
    clear hb
    rintro ⟨u, bb⟩ ⟨hu, he⟩ K hK
    simp only at hu he
    have hl2 : bb.length + (encU u).length = (encInt n).length := by rw [← List.length_append, he]
    rcases Nat.lt_or_ge u 128 with hc | hc
    · (conv => whnf); repeat' (first | (refine And.intro ?_ ?_; (focus (first | omega | (dsimp only; omega) | (simp only [List.length_append]; omega) | (simp [pb]; done) | (simp [pb]; omega) | (simp [zeros_u8, pb]; done) | (simp [zeros_u8, pb]; omega) | (simp [ByteArray.size]; omega) | exact Nat.le_of_ble_eq_true rfl | exact u64_nonneg _ | (show chkDraw _ _ = true; kernel_rfl) | (decide; done))); (conv => whnf)) | (refine onB_intro (fun hb => ?_) (fun hb => ?_) <;> (try simp only [decide_eq_true_eq, decide_eq_false_iff_not, Bool.not_eq_true', Bool.not_eq_false', Bool.and_eq_true, Bool.and_eq_false_iff, Int.not_le, Int.not_lt, bsz, ByteArray.toList_eq, beq_iff_eq, beq_eq_false_iff_ne, ne_eq] at hb) <;> (try (exfalso; omega)) <;> (try (exfalso; first | contradiction | (simp [ByteArray.toList_eq] at hb; done))) <;> (conv => whnf)) | (refine (hQ _ _ _ ?_).1; (conv => whnf)) | (refine ⟨_, rfl, ?_⟩; (conv => whnf)) | (refine ⟨_, mp_cut _ _ _, ?_⟩; (conv => whnf)) | (refine ⟨_, dbs_cut _ _ _, ?_⟩; (conv => whnf)) | (refine ⟨[_], rfl, ?_⟩; (conv => whnf)) | (refine ⟨[_, _], rfl, ?_⟩; (conv => whnf)) | (refine ⟨[_, _, _], rfl, ?_⟩; (conv => whnf)) | (refine ⟨[_, _, _, _], rfl, ?_⟩; (conv => whnf)) | fail)
      rw [encU_lt hc] at he
      exact ret_new rfl rfl (by rw [← he]; simp) (by rw [← he]; exact dbs_snoc (byte_last hc))
    · (conv => whnf); repeat' (first | (refine And.intro ?_ ?_; (focus (first | omega | (dsimp only; omega) | (simp only [List.length_append]; omega) | (simp [pb]; done) | (simp [pb]; omega) | (simp [zeros_u8, pb]; done) | (simp [zeros_u8, pb]; omega) | (simp [ByteArray.size]; omega) | exact Nat.le_of_ble_eq_true rfl | exact u64_nonneg _ | (show chkDraw _ _ = true; kernel_rfl) | (decide; done))); (conv => whnf)) | (refine onB_intro (fun hb => ?_) (fun hb => ?_) <;> (try simp only [decide_eq_true_eq, decide_eq_false_iff_not, Bool.not_eq_true', Bool.not_eq_false', Bool.and_eq_true, Bool.and_eq_false_iff, Int.not_le, Int.not_lt, bsz, ByteArray.toList_eq, beq_iff_eq, beq_eq_false_iff_ne, ne_eq] at hb) <;> (try (exfalso; omega)) <;> (try (exfalso; first | contradiction | (simp [ByteArray.toList_eq] at hb; done))) <;> (conv => whnf)) | (refine (hQ _ _ _ ?_).1; (conv => whnf)) | (refine ⟨_, rfl, ?_⟩; (conv => whnf)) | (refine ⟨_, mp_cut _ _ _, ?_⟩; (conv => whnf)) | (refine ⟨_, dbs_cut _ _ _, ?_⟩; (conv => whnf)) | (refine ⟨[_], rfl, ?_⟩; (conv => whnf)) | (refine ⟨[_, _], rfl, ?_⟩; (conv => whnf)) | (refine ⟨[_, _, _], rfl, ?_⟩; (conv => whnf)) | (refine ⟨[_, _, _, _], rfl, ?_⟩; (conv => whnf)) | fail)
      rw [encU_ge (by omega)] at he
      refine hK _ _ _ (u / 128, bb ++ [UInt8.ofNat (u % 128 + 128)]) ⟨by dsimp only; omega, by dsimp only; rw [List.append_assoc]; exact he⟩ (by dsimp only; omega) (wkn [(0, 1)] rfl rfl ⟨sub_int (quo_128 hu), sub_ref (by simp), trivial⟩ ⟨hp_pure rfl (dbs_snoc byte_more'), trivial⟩)
/-- erasureref26.Text -/
theorem rtext_meets (t : List UInt8) (ht : t.length ≤ 35184372088832) : Meets Try.prog F_erasureref26Text ⟨[tst t], [], 0, buf 0 (encText t), [(0, bob (encText t))], 1⟩ := by
  have h1 := encInt_len (n := t.length) ⟨by omega, by omega⟩
  refine fits_erasureref26Text.meets rfl (by simp) fun Q hQ => ?_
  (conv => whnf); repeat' (first | (refine And.intro ?_ ?_; (focus (first | omega | (dsimp only; omega) | (simp only [List.length_append]; omega) | (simp [pb]; done) | (simp [pb]; omega) | (simp [zeros_u8, pb]; done) | (simp [zeros_u8, pb]; omega) | (simp [ByteArray.size]; omega) | exact Nat.le_of_ble_eq_true rfl | exact u64_nonneg _ | (show chkDraw _ _ = true; kernel_rfl) | (decide; done))); (conv => whnf)) | (refine onB_intro (fun hb => ?_) (fun hb => ?_) <;> (try simp only [decide_eq_true_eq, decide_eq_false_iff_not, Bool.not_eq_true', Bool.not_eq_false', Bool.and_eq_true, Bool.and_eq_false_iff, Int.not_le, Int.not_lt, bsz, ByteArray.toList_eq, beq_iff_eq, beq_eq_false_iff_ne, ne_eq] at hb) <;> (try (exfalso; omega)) <;> (try (exfalso; first | contradiction | (simp [ByteArray.toList_eq] at hb; done))) <;> (conv => whnf)) | (refine (hQ _ _ _ ?_).1; (conv => whnf)) | (refine ⟨_, rfl, ?_⟩; (conv => whnf)) | (refine ⟨_, mp_cut _ _ _, ?_⟩; (conv => whnf)) | (refine ⟨_, dbs_cut _ _ _, ?_⟩; (conv => whnf)) | (refine ⟨[_], rfl, ?_⟩; (conv => whnf)) | (refine ⟨[_, _], rfl, ?_⟩; (conv => whnf)) | (refine ⟨[_, _, _], rfl, ?_⟩; (conv => whnf)) | (refine ⟨[_, _, _, _], rfl, ?_⟩; (conv => whnf)) | (refine call_new (rint_meets t.length ⟨by omega, by omega⟩) (fun F => by first | exact rfl | exact bob_ren F _ | exact ob_ren F _ _) ?_ ?_; (focus ((repeat' (first | exact trivial | exact Sub.refl _ | exact sub_nil | exact Or.inl rfl | exact Or.inr ⟨rfl, rfl⟩ | (refine sub_ref ?_; (first | omega | (simp; done) | (simp; omega))) | (refine sub_int ?_; (first | omega | rfl | (simp [bsz]; done))) | refine sub_tup ?_ | exact sub_agg_dbs_r | exact sub_agg_take_r rfl (by first | assumption | omega) | (refine sub_agg_take rfl ?_; (first | ((try rw [dbs_length]); assumption) | ((try rw [dbs_length]); omega))) | refine sub_agg ?_ | (refine sub_val ?_ ?_ <;> (first | omega | (simp [pb, List.map_take, List.map_drop, List.take_take]; done) | (simp [pb, List.map_take, List.map_drop]; omega) | (simp [pb, List.take_of_length_le]; done))) | (refine or_val ?_ ?_ <;> (first | omega | (simp [pb, List.map_take, List.map_drop, List.take_take]; done) | (simp [pb, List.map_take, List.map_drop]; omega) | (simp [pb, List.take_of_length_le]; done))) | refine And.intro ?_ ?_)); done)); (conv => whnf)) | fail)
  all_goals (exact ret_new rfl rfl (by first | rfl | exact congrArg List.length (by (first | rfl | (simp_all [encText]; done) | (simp [encText]; done))) | (simp [bsz, encText]; omega) | (simp_all [bsz, encText]; done) | (simp_all [bsz, encText]; omega)) (by first | rfl | exact congrArg dbs (by (first | rfl | (simp_all [encText]; done) | (simp [encText]; done))) | exact (dbs_app _ _ _ rfl).trans (congrArg dbs (by (first | rfl | (simp_all [encText]; done) | (simp [encText]; done)))) | exact (dbs_appo _ _ _ _ rfl rfl).trans (congrArg dbs (by (first | rfl | (simp_all [encText]; done) | (simp [encText]; done)))) | (simp only [bob, ← List.length_append, dbs_appo', dbs_app', bsz]; exact congrArg dbs (by (first | rfl | (simp_all [encText]; done) | (simp [encText]; done))))))
theorem encText_len {t : List UInt8} (ht : t.length ≤ 35184372088832) : (encText t).length ≤ t.length + 10 := by
  have h1 := encInt_len (n := t.length) ⟨by omega, by omega⟩
  simp [encText]; omega
/-- erasureref26.Value -/
theorem rvalue_meets (v : Val) : Meets Try.prog F_erasureref26Value ⟨[.agg v.enc], [], 0, buf 0 (encVal v), [(0, bob (encVal v))], 1⟩ := by
  have hc := Val.clean_fit (Val.clean_valid v)
  unfold encVal
  have m0 := rvclean_meets v
  generalize v.clean = c at hc m0 ⊢
  have h1 := encInt_len (n := c.k) ⟨by omega, by omega⟩
  have h2 := encInt_len (n := c.i) ⟨by omega, by omega⟩
  have h3 : c.t.length ≤ 32 := by rcases hc with hc | hc | hc <;> simp_all
  have h4 := encText_len (t := c.t) (by omega)
  refine fits_erasureref26Value.meets rfl (by simp) fun Q hQ => ?_
  (conv => whnf); repeat' (first | (refine And.intro ?_ ?_; (focus (first | omega | (dsimp only; omega) | (simp only [List.length_append]; omega) | (simp [pb]; done) | (simp [pb]; omega) | (simp [zeros_u8, pb]; done) | (simp [zeros_u8, pb]; omega) | (simp [ByteArray.size]; omega) | exact Nat.le_of_ble_eq_true rfl | exact u64_nonneg _ | (show chkDraw _ _ = true; kernel_rfl) | (decide; done))); (conv => whnf)) | (refine onB_intro (fun hb => ?_) (fun hb => ?_) <;> (try simp only [decide_eq_true_eq, decide_eq_false_iff_not, Bool.not_eq_true', Bool.not_eq_false', Bool.and_eq_true, Bool.and_eq_false_iff, Int.not_le, Int.not_lt, bsz, ByteArray.toList_eq, beq_iff_eq, beq_eq_false_iff_ne, ne_eq] at hb) <;> (try (exfalso; omega)) <;> (try (exfalso; first | contradiction | (simp [ByteArray.toList_eq] at hb; done))) <;> (conv => whnf)) | (refine (hQ _ _ _ ?_).1; (conv => whnf)) | (refine ⟨_, rfl, ?_⟩; (conv => whnf)) | (refine ⟨_, mp_cut _ _ _, ?_⟩; (conv => whnf)) | (refine ⟨_, dbs_cut _ _ _, ?_⟩; (conv => whnf)) | (refine ⟨[_], rfl, ?_⟩; (conv => whnf)) | (refine ⟨[_, _], rfl, ?_⟩; (conv => whnf)) | (refine ⟨[_, _, _], rfl, ?_⟩; (conv => whnf)) | (refine ⟨[_, _, _, _], rfl, ?_⟩; (conv => whnf)) | (refine call_pure (m0) (fun F => by first | exact rfl | (simp only [TV.rens, TV.ren, dbs_ren]; rfl) | (simp [TV.rens, TV.ren, dbs_ren, map_ren_p]; done)) (fun F => by first | exact rfl | (simp only [TV.rens, TV.ren, dbs_ren]; rfl) | (simp [TV.rens, TV.ren, dbs_ren, map_ren_p]; done)) ?_ ?_; (focus ((repeat' (first | exact trivial | exact Sub.refl _ | exact sub_nil | exact Or.inl rfl | exact Or.inr ⟨rfl, rfl⟩ | (refine sub_ref ?_; (first | omega | (simp; done) | (simp; omega))) | (refine sub_int ?_; (first | omega | rfl | (simp [bsz]; done))) | refine sub_tup ?_ | exact sub_agg_dbs_r | exact sub_agg_take_r rfl (by first | assumption | omega) | (refine sub_agg_take rfl ?_; (first | ((try rw [dbs_length]); assumption) | ((try rw [dbs_length]); omega))) | refine sub_agg ?_ | (refine sub_val ?_ ?_ <;> (first | omega | (simp [pb, List.map_take, List.map_drop, List.take_take]; done) | (simp [pb, List.map_take, List.map_drop]; omega) | (simp [pb, List.take_of_length_le]; done))) | (refine or_val ?_ ?_ <;> (first | omega | (simp [pb, List.map_take, List.map_drop, List.take_take]; done) | (simp [pb, List.map_take, List.map_drop]; omega) | (simp [pb, List.take_of_length_le]; done))) | refine And.intro ?_ ?_)); done)); (conv => whnf)) | (refine call_new (rint_meets c.k ⟨by omega, by omega⟩) (fun F => by first | exact rfl | exact bob_ren F _ | exact ob_ren F _ _) ?_ ?_; (focus ((repeat' (first | exact trivial | exact Sub.refl _ | exact sub_nil | exact Or.inl rfl | exact Or.inr ⟨rfl, rfl⟩ | (refine sub_ref ?_; (first | omega | (simp; done) | (simp; omega))) | (refine sub_int ?_; (first | omega | rfl | (simp [bsz]; done))) | refine sub_tup ?_ | exact sub_agg_dbs_r | exact sub_agg_take_r rfl (by first | assumption | omega) | (refine sub_agg_take rfl ?_; (first | ((try rw [dbs_length]); assumption) | ((try rw [dbs_length]); omega))) | refine sub_agg ?_ | (refine sub_val ?_ ?_ <;> (first | omega | (simp [pb, List.map_take, List.map_drop, List.take_take]; done) | (simp [pb, List.map_take, List.map_drop]; omega) | (simp [pb, List.take_of_length_le]; done))) | (refine or_val ?_ ?_ <;> (first | omega | (simp [pb, List.map_take, List.map_drop, List.take_take]; done) | (simp [pb, List.map_take, List.map_drop]; omega) | (simp [pb, List.take_of_length_le]; done))) | refine And.intro ?_ ?_)); done)); (conv => whnf)) | (refine call_new (rint_meets c.i ⟨by omega, by omega⟩) (fun F => by first | exact rfl | exact bob_ren F _ | exact ob_ren F _ _) ?_ ?_; (focus ((repeat' (first | exact trivial | exact Sub.refl _ | exact sub_nil | exact Or.inl rfl | exact Or.inr ⟨rfl, rfl⟩ | (refine sub_ref ?_; (first | omega | (simp; done) | (simp; omega))) | (refine sub_int ?_; (first | omega | rfl | (simp [bsz]; done))) | refine sub_tup ?_ | exact sub_agg_dbs_r | exact sub_agg_take_r rfl (by first | assumption | omega) | (refine sub_agg_take rfl ?_; (first | ((try rw [dbs_length]); assumption) | ((try rw [dbs_length]); omega))) | refine sub_agg ?_ | (refine sub_val ?_ ?_ <;> (first | omega | (simp [pb, List.map_take, List.map_drop, List.take_take]; done) | (simp [pb, List.map_take, List.map_drop]; omega) | (simp [pb, List.take_of_length_le]; done))) | (refine or_val ?_ ?_ <;> (first | omega | (simp [pb, List.map_take, List.map_drop, List.take_take]; done) | (simp [pb, List.map_take, List.map_drop]; omega) | (simp [pb, List.take_of_length_le]; done))) | refine And.intro ?_ ?_)); done)); (conv => whnf)) | (refine call_new (rtext_meets c.t (by omega)) (fun F => by first | exact rfl | exact bob_ren F _ | exact ob_ren F _ _) ?_ ?_; (focus ((repeat' (first | exact trivial | exact Sub.refl _ | exact sub_nil | exact Or.inl rfl | exact Or.inr ⟨rfl, rfl⟩ | (refine sub_ref ?_; (first | omega | (simp; done) | (simp; omega))) | (refine sub_int ?_; (first | omega | rfl | (simp [bsz]; done))) | refine sub_tup ?_ | exact sub_agg_dbs_r | exact sub_agg_take_r rfl (by first | assumption | omega) | (refine sub_agg_take rfl ?_; (first | ((try rw [dbs_length]); assumption) | ((try rw [dbs_length]); omega))) | refine sub_agg ?_ | (refine sub_val ?_ ?_ <;> (first | omega | (simp [pb, List.map_take, List.map_drop, List.take_take]; done) | (simp [pb, List.map_take, List.map_drop]; omega) | (simp [pb, List.take_of_length_le]; done))) | (refine or_val ?_ ?_ <;> (first | omega | (simp [pb, List.map_take, List.map_drop, List.take_take]; done) | (simp [pb, List.map_take, List.map_drop]; omega) | (simp [pb, List.take_of_length_le]; done))) | refine And.intro ?_ ?_)); done)); (conv => whnf)) | fail)
  all_goals (exact ret_new rfl rfl (by first | rfl | exact congrArg List.length (by (first | rfl | (simp_all [encVal']; done) | (simp [encVal']; done))) | (simp [bsz, encVal']; omega) | (simp_all [bsz, encVal']; done) | (simp_all [bsz, encVal']; omega)) (by first | rfl | exact congrArg dbs (by (first | rfl | (simp_all [encVal']; done) | (simp [encVal']; done))) | exact (dbs_app _ _ _ rfl).trans (congrArg dbs (by (first | rfl | (simp_all [encVal']; done) | (simp [encVal']; done)))) | exact (dbs_appo _ _ _ _ rfl rfl).trans (congrArg dbs (by (first | rfl | (simp_all [encVal']; done) | (simp [encVal']; done)))) | (simp only [bob, ← List.length_append, dbs_appo', dbs_app', bsz]; exact congrArg dbs (by (first | rfl | (simp_all [encVal']; done) | (simp [encVal']; done))))))
abbrev pvals (l : List Val) : List PV := l.flatMap Val.pv
abbrev dvals (l : List Val) : DV := .p (.val l.length (pvals l))
theorem Val.len (v : Val) : v.pv.length = 3 := rfl
theorem encVal_len (v : Val) : (encVal v).length ≤ 52 := by
  have hc := Val.clean_fit (Val.clean_valid v)
  unfold encVal
  generalize v.clean = c at hc
  have h1 := encInt_len (n := c.k) ⟨by omega, by omega⟩
  have h2 := encInt_len (n := c.i) ⟨by omega, by omega⟩
  have h3 : c.t.length ≤ 32 := by rcases hc with hc | hc | hc <;> simp_all
  have h4 := encText_len (t := c.t) (by omega)
  unfold encVal'
  simp only [List.length_append]
  split
  · omega
  · split
    · omega
    · simp; omega
theorem flatMap_take_succ {α : Type} {f : α → List UInt8} {l : List α} {k : Nat} {a : α} (h : l[k]? = some a) : (l.take (k + 1)).flatMap f = (l.take k).flatMap f ++ f a := by
  rw [List.take_add_one, h]; simp
theorem flatMap_len {α : Type} {f : α → List UInt8} {l : List α} (n : Nat) (h : ∀ a ∈ l, (f a).length ≤ n) : (l.flatMap f).length ≤ n * l.length := by
  induction l with
  | nil => simp
  | cons a l ih =>
    have h1 := h a (by simp)
    have h2 := ih fun b hb => h b (by simp [hb])
    simp only [List.flatMap_cons, List.length_append, List.length_cons, Nat.mul_add, Nat.mul_one]
    omega
end Go.Proofs.Ytjieenfbfckafaa.Am
namespace Go.Proofs.Ytjieenfbfckafaa.Am
open Go
set_option linter.unusedVariables false
set_option linter.unusedSimpArgs false
set_option maxRecDepth 100000
set_option maxHeartbeats 1000000
abbrev dints (l : List Int) : DV := .p (.val l.length (l.map pi))
def encInts (l : List Int) : List UInt8 := l.flatMap encInt
theorem elem_map {α : Type} {f : α → PV} {l : List α} {k : Nat} {a : α} (h : l[k]? = some a) : ((l.map f).drop (Int.toNat (k : Int) * 1)).take 1 = [f a] := by
  rw [Int.toNat_natCast, Nat.mul_one]
  have hk := (List.getElem?_eq_some_iff.1 h)
  obtain ⟨hk, rfl⟩ := hk
  rw [List.drop_eq_getElem_cons (by simpa using hk)]
  simp
theorem encInts_len {l : List Int} (h : ∀ n ∈ l, inI64 n) : (encInts l).length ≤ 10 * l.length := flatMap_len 10 fun n hn => encInt_len (h n hn)
/-- codec.putInts -/
theorem putInts_meets (b : List UInt8) (l : List Int) (hl : ∀ n ∈ l, inI64 n) (h : b.length ≤ 10000000000000) (hr : l.length ≤ 10000000000) : Meets Try.prog F_codec_putInts ⟨[buf 0 b, .c (dints l)], [(0, bob b)], 1, buf 1 (b ++ encInts l), [(1, bob (b ++ encInts l))], 2⟩ := by
  refine fits_codec_putInts.meets rfl (by simp) fun Q hQ => ?_
  (conv => whnf); repeat' (first | (refine And.intro ?_ ?_; (focus (first | omega | (dsimp only; omega) | (simp only [List.length_append]; omega) | (simp [pb]; done) | (simp [pb]; omega) | (simp [zeros_u8, pb]; done) | (simp [zeros_u8, pb]; omega) | (simp [ByteArray.size]; omega) | exact Nat.le_of_ble_eq_true rfl | exact u64_nonneg _ | (show chkDraw _ _ = true; kernel_rfl) | (decide; done))); (conv => whnf)) | (refine onB_intro (fun hb => ?_) (fun hb => ?_) <;> (try simp only [decide_eq_true_eq, decide_eq_false_iff_not, Bool.not_eq_true', Bool.not_eq_false', Bool.and_eq_true, Bool.and_eq_false_iff, Int.not_le, Int.not_lt, bsz, ByteArray.toList_eq, beq_iff_eq, beq_eq_false_iff_ne, ne_eq] at hb) <;> (try (exfalso; omega)) <;> (try (exfalso; first | contradiction | (simp [ByteArray.toList_eq] at hb; done))) <;> (conv => whnf)) | (refine (hQ _ _ _ ?_).1; (conv => whnf)) | (refine ⟨_, rfl, ?_⟩; (conv => whnf)) | (refine ⟨_, mp_cut _ _ _, ?_⟩; (conv => whnf)) | (refine ⟨_, dbs_cut _ _ _, ?_⟩; (conv => whnf)) | (refine ⟨[_], rfl, ?_⟩; (conv => whnf)) | (refine ⟨[_, _], rfl, ?_⟩; (conv => whnf)) | (refine ⟨[_, _, _], rfl, ?_⟩; (conv => whnf)) | (refine ⟨[_, _, _, _], rfl, ?_⟩; (conv => whnf)) | fail)
  refine loop_fam (fun k : Nat => ⟨[(0, buf 1 (b ++ (l.take k).flatMap encInt)), (1, .c (dints l)), (5, vi k)], [(1, bob (b ++ (l.take k).flatMap encInt))], 2⟩) (fun k => l.length - k) (fun k => k ≤ l.length) 0
    ((Wk.move 0 _ rfl).trans (wkn [(1, 1)] rfl rfl ⟨sub_ref (by simp), Sub.refl _, Sub.refl _, trivial⟩ ⟨hp_pure rfl (by simp), trivial⟩)) (by simp) ?_
  intro k hk K hK
  have hlen := flatMap_len (f := encInt) (l := l.take k) 10 (fun a ha => encInt_len (hl a (List.mem_of_mem_take ha)))
  have hlen2 : (l.take k).length ≤ l.length := by simp; omega
  cases ha : l[k]? with
  | none =>
    have : k = l.length := by have := List.getElem?_eq_none_iff.1 ha; omega
    subst this
    rw [List.take_length]
    (conv => whnf); repeat' (first | (refine And.intro ?_ ?_; (focus (first | omega | (dsimp only; omega) | (simp only [List.length_append]; omega) | (simp [pb]; done) | (simp [pb]; omega) | (simp [zeros_u8, pb]; done) | (simp [zeros_u8, pb]; omega) | (simp [ByteArray.size]; omega) | exact Nat.le_of_ble_eq_true rfl | exact u64_nonneg _ | (show chkDraw _ _ = true; kernel_rfl) | (decide; done))); (conv => whnf)) | (refine onB_intro (fun hb => ?_) (fun hb => ?_) <;> (try simp only [decide_eq_true_eq, decide_eq_false_iff_not, Bool.not_eq_true', Bool.not_eq_false', Bool.and_eq_true, Bool.and_eq_false_iff, Int.not_le, Int.not_lt, bsz, ByteArray.toList_eq, beq_iff_eq, beq_eq_false_iff_ne, ne_eq] at hb) <;> (try (exfalso; omega)) <;> (try (exfalso; first | contradiction | (simp [ByteArray.toList_eq] at hb; done))) <;> (conv => whnf)) | (refine (hQ _ _ _ ?_).1; (conv => whnf)) | (refine ⟨_, rfl, ?_⟩; (conv => whnf)) | (refine ⟨_, mp_cut _ _ _, ?_⟩; (conv => whnf)) | (refine ⟨_, dbs_cut _ _ _, ?_⟩; (conv => whnf)) | (refine ⟨[_], rfl, ?_⟩; (conv => whnf)) | (refine ⟨[_, _], rfl, ?_⟩; (conv => whnf)) | (refine ⟨[_, _, _], rfl, ?_⟩; (conv => whnf)) | (refine ⟨[_, _, _, _], rfl, ?_⟩; (conv => whnf)) | fail)
    all_goals (exact ret_buf rfl rfl rfl (by first | rfl | exact congrArg List.length (by (first | rfl | (simp_all [encInts]; done) | (simp [encInts]; done))) | (simp [bsz, encInts]; omega) | (simp_all [bsz, encInts]; done) | (simp_all [bsz, encInts]; omega)) (by first | rfl | exact congrArg dbs (by (first | rfl | (simp_all [encInts]; done) | (simp [encInts]; done))) | exact (dbs_app _ _ _ rfl).trans (congrArg dbs (by (first | rfl | (simp_all [encInts]; done) | (simp [encInts]; done)))) | exact (dbs_appo _ _ _ _ rfl rfl).trans (congrArg dbs (by (first | rfl | (simp_all [encInts]; done) | (simp [encInts]; done)))) | (simp only [bob, ← List.length_append, dbs_appo', dbs_app', bsz]; exact congrArg dbs (by (first | rfl | (simp_all [encInts]; done) | (simp [encInts]; done))))))
  | some a =>
    have hlt : k < l.length := (List.getElem?_eq_some_iff.1 ha).1
    (conv => whnf); repeat' (first | (refine And.intro ?_ ?_; (focus (first | omega | (dsimp only; omega) | (simp only [List.length_append]; omega) | (simp [pb]; done) | (simp [pb]; omega) | (simp [zeros_u8, pb]; done) | (simp [zeros_u8, pb]; omega) | (simp [ByteArray.size]; omega) | exact Nat.le_of_ble_eq_true rfl | exact u64_nonneg _ | (show chkDraw _ _ = true; kernel_rfl) | (decide; done))); (conv => whnf)) | (refine onB_intro (fun hb => ?_) (fun hb => ?_) <;> (try simp only [decide_eq_true_eq, decide_eq_false_iff_not, Bool.not_eq_true', Bool.not_eq_false', Bool.and_eq_true, Bool.and_eq_false_iff, Int.not_le, Int.not_lt, bsz, ByteArray.toList_eq, beq_iff_eq, beq_eq_false_iff_ne, ne_eq] at hb) <;> (try (exfalso; omega)) <;> (try (exfalso; first | contradiction | (simp [ByteArray.toList_eq] at hb; done))) <;> (conv => whnf)) | (refine (hQ _ _ _ ?_).1; (conv => whnf)) | (refine ⟨_, rfl, ?_⟩; (conv => whnf)) | (refine ⟨_, mp_cut _ _ _, ?_⟩; (conv => whnf)) | (refine ⟨_, dbs_cut _ _ _, ?_⟩; (conv => whnf)) | (refine ⟨[_], rfl, ?_⟩; (conv => whnf)) | (refine ⟨[_, _], rfl, ?_⟩; (conv => whnf)) | (refine ⟨[_, _, _], rfl, ?_⟩; (conv => whnf)) | (refine ⟨[_, _, _, _], rfl, ?_⟩; (conv => whnf)) | (apply call_buf (putInt_meets (b ++ (l.take k).flatMap encInt) a (hl a (List.mem_of_getElem? ha)) (by simp only [List.length_append]; omega)) (fun F => by first | exact rfl | exact bob_ren F _ | exact ob_ren F _ _) (fun F => by first | exact rfl | exact bob_ren F _ | exact ob_ren F _ _); (focus ((repeat' (first | exact trivial | exact Sub.refl _ | exact sub_nil | exact Or.inl rfl | exact Or.inr ⟨rfl, rfl⟩ | (refine sub_ref ?_; (first | omega | (simp; done) | (simp; omega))) | (refine sub_int ?_; (first | omega | rfl | (simp [bsz]; done))) | refine sub_tup ?_ | exact sub_agg_dbs_r | exact sub_agg_take_r rfl (by first | assumption | omega) | (refine sub_agg_take rfl ?_; (first | ((try rw [dbs_length]); assumption) | ((try rw [dbs_length]); omega))) | refine sub_agg ?_ | (refine sub_val ?_ ?_ <;> (first | omega | (simp [pb, List.map_take, List.map_drop, List.take_take]; done) | (simp [pb, List.map_take, List.map_drop]; omega) | (simp [pb, List.take_of_length_le]; done))) | (refine or_val ?_ ?_ <;> (first | omega | (simp [pb, List.map_take, List.map_drop, List.take_take]; done) | (simp [pb, List.map_take, List.map_drop]; omega) | (simp [pb, List.take_of_length_le]; done))) | refine And.intro ?_ ?_)); done)); (focus (first | exact rfl | exact hp_eq rfl (dbs_app _ _ _ rfl) | exact hp_eq rfl (dbs_appo _ _ _ _ rfl rfl) | (refine hp_eq rfl ?_; (simp only [bob, ← List.length_append, dbs_appo', dbs_app', bsz]; done)) | (refine hp_eq rfl ?_; (simp [dbs, pb]; done)))); (conv => whnf)) | (simp only [elem_map ha]; (conv => whnf)) | fail)
    refine hK _ _ _ (k + 1) (by omega) (by omega) (wkn [(1, 2)] rfl rfl ⟨sub_ref (by rw [flatMap_take_succ ha, List.append_assoc]), Sub.refl _, sub_int (by omega), trivial⟩ ⟨hp_pure rfl (by rw [flatMap_take_succ ha, ← List.append_assoc]), trivial⟩)
/-- erasureref26.ints -/
theorem rints_meets (l : List Int) (hl : ∀ n ∈ l, inI64 n) (hr : l.length ≤ 10000000000) : Meets Try.prog F_erasureref26ints ⟨[.c (dints l)], [], 0, buf 0 (encInts l), [(0, bob (encInts l))], 1⟩ := by
  refine fits_erasureref26ints.meets rfl (by simp) fun Q hQ => ?_
  (conv => whnf); repeat' (first | (refine And.intro ?_ ?_; (focus (first | omega | (dsimp only; omega) | (simp only [List.length_append]; omega) | (simp [pb]; done) | (simp [pb]; omega) | (simp [zeros_u8, pb]; done) | (simp [zeros_u8, pb]; omega) | (simp [ByteArray.size]; omega) | exact Nat.le_of_ble_eq_true rfl | exact u64_nonneg _ | (show chkDraw _ _ = true; kernel_rfl) | (decide; done))); (conv => whnf)) | (refine onB_intro (fun hb => ?_) (fun hb => ?_) <;> (try simp only [decide_eq_true_eq, decide_eq_false_iff_not, Bool.not_eq_true', Bool.not_eq_false', Bool.and_eq_true, Bool.and_eq_false_iff, Int.not_le, Int.not_lt, bsz, ByteArray.toList_eq, beq_iff_eq, beq_eq_false_iff_ne, ne_eq] at hb) <;> (try (exfalso; omega)) <;> (try (exfalso; first | contradiction | (simp [ByteArray.toList_eq] at hb; done))) <;> (conv => whnf)) | (refine (hQ _ _ _ ?_).1; (conv => whnf)) | (refine ⟨_, rfl, ?_⟩; (conv => whnf)) | (refine ⟨_, mp_cut _ _ _, ?_⟩; (conv => whnf)) | (refine ⟨_, dbs_cut _ _ _, ?_⟩; (conv => whnf)) | (refine ⟨[_], rfl, ?_⟩; (conv => whnf)) | (refine ⟨[_, _], rfl, ?_⟩; (conv => whnf)) | (refine ⟨[_, _, _], rfl, ?_⟩; (conv => whnf)) | (refine ⟨[_, _, _, _], rfl, ?_⟩; (conv => whnf)) | fail)
  refine loop_fam (fun k : Nat => ⟨[(0, .c (dints l)), (3, buf 0 ((l.take k).flatMap encInt)), (4, vi k)], [(0, bob ((l.take k).flatMap encInt))], 1⟩) (fun k => l.length - k) (fun k => k ≤ l.length) 0
    (wkn [(0, 0)] rfl rfl ⟨Sub.refl _, Sub.refl _, Sub.refl _, trivial⟩ ⟨hp_pure rfl rfl, trivial⟩) (by simp) ?_
  intro k hk K hK
  have hlen := flatMap_len (f := encInt) (l := l.take k) 10 (fun a ha => encInt_len (hl a (List.mem_of_mem_take ha)))
  have hlen2 : (l.take k).length ≤ l.length := by simp; omega
  cases ha : l[k]? with
  | none =>
    have : k = l.length := by have := List.getElem?_eq_none_iff.1 ha; omega
    subst this
    rw [List.take_length]
    (conv => whnf); repeat' (first | (refine And.intro ?_ ?_; (focus (first | omega | (dsimp only; omega) | (simp only [List.length_append]; omega) | (simp [pb]; done) | (simp [pb]; omega) | (simp [zeros_u8, pb]; done) | (simp [zeros_u8, pb]; omega) | (simp [ByteArray.size]; omega) | exact Nat.le_of_ble_eq_true rfl | exact u64_nonneg _ | (show chkDraw _ _ = true; kernel_rfl) | (decide; done))); (conv => whnf)) | (refine onB_intro (fun hb => ?_) (fun hb => ?_) <;> (try simp only [decide_eq_true_eq, decide_eq_false_iff_not, Bool.not_eq_true', Bool.not_eq_false', Bool.and_eq_true, Bool.and_eq_false_iff, Int.not_le, Int.not_lt, bsz, ByteArray.toList_eq, beq_iff_eq, beq_eq_false_iff_ne, ne_eq] at hb) <;> (try (exfalso; omega)) <;> (try (exfalso; first | contradiction | (simp [ByteArray.toList_eq] at hb; done))) <;> (conv => whnf)) | (refine (hQ _ _ _ ?_).1; (conv => whnf)) | (refine ⟨_, rfl, ?_⟩; (conv => whnf)) | (refine ⟨_, mp_cut _ _ _, ?_⟩; (conv => whnf)) | (refine ⟨_, dbs_cut _ _ _, ?_⟩; (conv => whnf)) | (refine ⟨[_], rfl, ?_⟩; (conv => whnf)) | (refine ⟨[_, _], rfl, ?_⟩; (conv => whnf)) | (refine ⟨[_, _, _], rfl, ?_⟩; (conv => whnf)) | (refine ⟨[_, _, _, _], rfl, ?_⟩; (conv => whnf)) | fail)
    all_goals (exact ret_new rfl rfl (by first | rfl | exact congrArg List.length (by (first | rfl | (simp_all [encInts]; done) | (simp [encInts]; done))) | (simp [bsz, encInts]; omega) | (simp_all [bsz, encInts]; done) | (simp_all [bsz, encInts]; omega)) (by first | rfl | exact congrArg dbs (by (first | rfl | (simp_all [encInts]; done) | (simp [encInts]; done))) | exact (dbs_app _ _ _ rfl).trans (congrArg dbs (by (first | rfl | (simp_all [encInts]; done) | (simp [encInts]; done)))) | exact (dbs_appo _ _ _ _ rfl rfl).trans (congrArg dbs (by (first | rfl | (simp_all [encInts]; done) | (simp [encInts]; done)))) | (simp only [bob, ← List.length_append, dbs_appo', dbs_app', bsz]; exact congrArg dbs (by (first | rfl | (simp_all [encInts]; done) | (simp [encInts]; done))))))
  | some a =>
    have hlt : k < l.length := (List.getElem?_eq_some_iff.1 ha).1
    have hla := encInt_len (hl a (List.mem_of_getElem? ha))
    (conv => whnf); repeat' (first | (refine And.intro ?_ ?_; (focus (first | omega | (dsimp only; omega) | (simp only [List.length_append]; omega) | (simp [pb]; done) | (simp [pb]; omega) | (simp [zeros_u8, pb]; done) | (simp [zeros_u8, pb]; omega) | (simp [ByteArray.size]; omega) | exact Nat.le_of_ble_eq_true rfl | exact u64_nonneg _ | (show chkDraw _ _ = true; kernel_rfl) | (decide; done))); (conv => whnf)) | (refine onB_intro (fun hb => ?_) (fun hb => ?_) <;> (try simp only [decide_eq_true_eq, decide_eq_false_iff_not, Bool.not_eq_true', Bool.not_eq_false', Bool.and_eq_true, Bool.and_eq_false_iff, Int.not_le, Int.not_lt, bsz, ByteArray.toList_eq, beq_iff_eq, beq_eq_false_iff_ne, ne_eq] at hb) <;> (try (exfalso; omega)) <;> (try (exfalso; first | contradiction | (simp [ByteArray.toList_eq] at hb; done))) <;> (conv => whnf)) | (refine (hQ _ _ _ ?_).1; (conv => whnf)) | (refine ⟨_, rfl, ?_⟩; (conv => whnf)) | (refine ⟨_, mp_cut _ _ _, ?_⟩; (conv => whnf)) | (refine ⟨_, dbs_cut _ _ _, ?_⟩; (conv => whnf)) | (refine ⟨[_], rfl, ?_⟩; (conv => whnf)) | (refine ⟨[_, _], rfl, ?_⟩; (conv => whnf)) | (refine ⟨[_, _, _], rfl, ?_⟩; (conv => whnf)) | (refine ⟨[_, _, _, _], rfl, ?_⟩; (conv => whnf)) | (refine call_new (rint_meets a (hl a (List.mem_of_getElem? ha))) (fun F => by first | exact rfl | exact bob_ren F _ | exact ob_ren F _ _) ?_ ?_; (focus ((repeat' (first | exact trivial | exact Sub.refl _ | exact sub_nil | exact Or.inl rfl | exact Or.inr ⟨rfl, rfl⟩ | (refine sub_ref ?_; (first | omega | (simp; done) | (simp; omega))) | (refine sub_int ?_; (first | omega | rfl | (simp [bsz]; done))) | refine sub_tup ?_ | exact sub_agg_dbs_r | exact sub_agg_take_r rfl (by first | assumption | omega) | (refine sub_agg_take rfl ?_; (first | ((try rw [dbs_length]); assumption) | ((try rw [dbs_length]); omega))) | refine sub_agg ?_ | (refine sub_val ?_ ?_ <;> (first | omega | (simp [pb, List.map_take, List.map_drop, List.take_take]; done) | (simp [pb, List.map_take, List.map_drop]; omega) | (simp [pb, List.take_of_length_le]; done))) | (refine or_val ?_ ?_ <;> (first | omega | (simp [pb, List.map_take, List.map_drop, List.take_take]; done) | (simp [pb, List.map_take, List.map_drop]; omega) | (simp [pb, List.take_of_length_le]; done))) | refine And.intro ?_ ?_)); done)); (conv => whnf)) | (simp only [elem_map ha]; (conv => whnf)) | fail)
    refine hK _ _ _ (k + 1) (by omega) (by omega) (wkn [(0, 3)] rfl rfl ⟨Sub.refl _, sub_ref (by rw [flatMap_take_succ ha, List.length_append]), sub_int (by omega), trivial⟩ ⟨hp_pure rfl (by rw [flatMap_take_succ ha]; exact dbs_appo _ _ _ _ rfl rfl), trivial⟩)
structure Ver where
  t : Int
  c : Int
  s : Int
abbrev Ver.pv (v : Ver) : List PV := [pi v.t, pi v.c, pi v.s]
abbrev Ver.enc (v : Ver) : List DV := [di v.t, di v.c, di v.s]
theorem Ver.len (v : Ver) : v.pv.length = 3 := rfl
def Ver.ok (v : Ver) : Prop := inI64 v.t ∧ inI64 v.c ∧ inI64 v.s
abbrev dvers (l : List Ver) : DV := .p (.val l.length (l.flatMap Ver.pv))
def encVer (v : Ver) : List UInt8 := encInts [v.t, v.s, v.c]
def encVers (l : List Ver) : List UInt8 := encInt l.length ++ l.flatMap encVer
theorem Ver.ok3 {v : Ver} (h : v.ok) : ∀ n ∈ [v.t, v.s, v.c], inI64 n := by
  intro n hn
  simp at hn
  rcases hn with rfl | rfl | rfl
  · exact h.1
  · exact h.2.2
  · exact h.2.1
theorem encVer_len {v : Ver} (h : v.ok) : (encVer v).length ≤ 30 := encInts_len (Ver.ok3 h)
end Go.Proofs.Ytjieenfbfckafaa.Am

/- The code of functions of codec in the form of the abstract machine, and that it fits. -/
import Derived.Test.YtjieenfbfckafaaCNames
namespace Go.Proofs.Ytjieenfbfckafaa.Am
open Go
set_option linter.unusedVariables false
set_option linter.unusedSimpArgs false
set_option maxRecDepth 100000
/- erasure/codec.AppendInt -/
def r_codec_AppendInt_0 : ACode := .reg [
    ⟨some 4, none, .mov (.k (.slice none 0 0))⟩] none [0, 1]
def r_codec_AppendInt_1 : ACode := .reg [
    ⟨some 5, none, .mov (.t 0)⟩,
    ⟨some 6, none, .call 88 [(.t 5)]⟩,
    ⟨some 7, none, .mov (.t 1)⟩,
    ⟨some 8, none, .call 87 [(.t 6), (.t 7)]⟩,
    ⟨some 4, none, .mov (.t 8)⟩] none [4]
def c_codec_AppendInt : ACode :=
  (.seq r_codec_AppendInt_0
  (.seq r_codec_AppendInt_1
   .ret))
theorem fits_codec_AppendInt : Fits Try.prog 19 9 c_codec_AppendInt [.t 4] := ⟨⟨Try.f19, _, _, Try.func19, rfl, rfl, rfl, by decide, by kernel_rfl, by kernel_rfl⟩, Try.checked.mixed⟩
/- erasure/codec.ReadInt -/
def r_codec_ReadInt_0 : ACode := .reg [
    ⟨some 2, none, .mov (.k (.int .i64 (0)))⟩,
    ⟨some 3, none, .mov (.k (.slice none 0 0))⟩,
    ⟨some 4, none, .mov (.k (.int .i64 (0)))⟩] none [0]
def r_codec_ReadInt_1 : ACode := .reg [
    ⟨some 7, none, .mov (.t 0)⟩,
    ⟨some 8, none, .build [.slice none 0 0, .int .i64 0] [(0, 1, (.t 7))]⟩,
    ⟨some 5, none, .alloc 152 [.slice none 0 0, .int .i64 0]⟩,
    ⟨none, none, .store 2 (.t 5) (.t 8)⟩] none [5]
def r_codec_ReadInt_2 : ACode := .reg [
    ⟨some 9, none, .call 89 [(.t 5)]⟩,
    ⟨some 6, none, .mov (.t 9)⟩] none [5, 6]
def r_codec_ReadInt_3 : ACode := .reg [
    ⟨some 10, none, .fld 1 (.t 5)⟩,
    ⟨some 11, none, .load none (.t 10)⟩,
    ⟨some 12, none, .bin .neq (.t 11) (.k (.int .i64 (0)))⟩] none [5, 6, 12]
def r_codec_ReadInt_4 : ACode := .reg [
    ⟨some 13, none, .fld 1 (.t 5)⟩,
    ⟨some 14, none, .load none (.t 13)⟩,
    ⟨some 2, none, .mov (.k (.int .i64 (0)))⟩,
    ⟨some 3, none, .mov (.k (.slice none 0 0))⟩,
    ⟨some 4, none, .mov (.t 14)⟩] (some [0, 1, 0, 4, 15]) [2, 3, 4]
def r_codec_ReadInt_5 : ACode := .reg [
    ⟨some 15, none, .mov (.t 6)⟩,
    ⟨some 16, none, .call 90 [(.t 5)]⟩,
    ⟨some 2, none, .mov (.t 15)⟩,
    ⟨some 3, none, .mov (.t 16)⟩,
    ⟨some 4, none, .mov (.k (.int .i64 (0)))⟩] none [2, 3, 4]
def c_codec_ReadInt : ACode :=
  (.seq r_codec_ReadInt_0
  (.seq r_codec_ReadInt_1
   (.seq r_codec_ReadInt_2
    (.seq (.seq r_codec_ReadInt_3
      (.cond (.t 12)
       (.seq r_codec_ReadInt_4
        .ret)
       .skip))
     (.seq r_codec_ReadInt_5
      .ret)))))
theorem fits_codec_ReadInt : Fits Try.prog 20 17 c_codec_ReadInt [.t 2, .t 3, .t 4] := ⟨⟨Try.f20, _, _, Try.func20, rfl, rfl, rfl, by decide, by kernel_rfl, by kernel_rfl⟩, Try.checked.mixed⟩
/- erasure/codec.AppendText -/
def r_codec_AppendText_0 : ACode := .reg [
    ⟨some 4, none, .mov (.k (.slice none 0 0))⟩] none [0, 1]
def r_codec_AppendText_1 : ACode := .reg [
    ⟨some 5, none, .mov (.t 0)⟩,
    ⟨some 6, none, .call 88 [(.t 5)]⟩,
    ⟨some 7, none, .mov (.t 1)⟩,
    ⟨some 8, none, .call 92 [(.t 6), (.t 7)]⟩,
    ⟨some 4, none, .mov (.t 8)⟩] none [4]
def c_codec_AppendText : ACode :=
  (.seq r_codec_AppendText_0
  (.seq r_codec_AppendText_1
   .ret))
theorem fits_codec_AppendText : Fits Try.prog 24 9 c_codec_AppendText [.t 4] := ⟨⟨Try.f24, _, _, Try.func24, rfl, rfl, rfl, by decide, by kernel_rfl, by kernel_rfl⟩, Try.checked.mixed⟩
/- erasure/codec.ReadText -/
def r_codec_ReadText_0 : ACode := .reg [
    ⟨some 4, none, .mov (.k (.string { data := #[] }))⟩,
    ⟨some 5, none, .mov (.k (.slice none 0 0))⟩,
    ⟨some 6, none, .mov (.k (.int .i64 (0)))⟩] none [0, 1]
def r_codec_ReadText_1 : ACode := .reg [
    ⟨some 9, none, .mov (.t 0)⟩,
    ⟨some 10, none, .build [.slice none 0 0, .int .i64 0] [(0, 1, (.t 9))]⟩,
    ⟨some 7, none, .alloc 152 [.slice none 0 0, .int .i64 0]⟩,
    ⟨none, none, .store 2 (.t 7) (.t 10)⟩] none [1, 7]
def r_codec_ReadText_2 : ACode := .reg [
    ⟨some 11, none, .mov (.t 1)⟩,
    ⟨some 12, none, .call 93 [(.t 7), (.t 11)]⟩,
    ⟨some 8, none, .mov (.t 12)⟩] none [7, 8]
def r_codec_ReadText_3 : ACode := .reg [
    ⟨some 13, none, .fld 1 (.t 7)⟩,
    ⟨some 14, none, .load none (.t 13)⟩,
    ⟨some 15, none, .bin .neq (.t 14) (.k (.int .i64 (0)))⟩] none [7, 8, 15]
def r_codec_ReadText_4 : ACode := .reg [
    ⟨some 16, none, .fld 1 (.t 7)⟩,
    ⟨some 17, none, .load none (.t 16)⟩,
    ⟨some 4, none, .mov (.k (.string { data := #[] }))⟩,
    ⟨some 5, none, .mov (.k (.slice none 0 0))⟩,
    ⟨some 6, none, .mov (.t 17)⟩] (some [0, 1, 0, 4, 15]) [4, 5, 6]
def r_codec_ReadText_5 : ACode := .reg [
    ⟨some 18, none, .mov (.t 8)⟩,
    ⟨some 19, none, .call 90 [(.t 7)]⟩,
    ⟨some 4, none, .mov (.t 18)⟩,
    ⟨some 5, none, .mov (.t 19)⟩,
    ⟨some 6, none, .mov (.k (.int .i64 (0)))⟩] none [4, 5, 6]
def c_codec_ReadText : ACode :=
  (.seq r_codec_ReadText_0
  (.seq r_codec_ReadText_1
   (.seq r_codec_ReadText_2
    (.seq (.seq r_codec_ReadText_3
      (.cond (.t 15)
       (.seq r_codec_ReadText_4
        .ret)
       .skip))
     (.seq r_codec_ReadText_5
      .ret)))))
theorem fits_codec_ReadText : Fits Try.prog 25 20 c_codec_ReadText [.t 4, .t 5, .t 6] := ⟨⟨Try.f25, _, _, Try.func25, rfl, rfl, rfl, by decide, by kernel_rfl, by kernel_rfl⟩, Try.checked.mixed⟩
/- erasure/codec.AppendSources -/
def r_codec_AppendSources_0 : ACode := .reg [
    ⟨some 4, none, .mov (.k (.slice none 0 0))⟩] none [0, 1]
def r_codec_AppendSources_1 : ACode := .reg [
    ⟨some 5, none, .mov (.t 0)⟩,
    ⟨some 6, none, .call 88 [(.t 5)]⟩,
    ⟨some 7, none, .mov (.t 1)⟩,
    ⟨some 8, none, .call 94 [(.t 6), (.t 7)]⟩,
    ⟨some 4, none, .mov (.t 8)⟩] none [4]
def c_codec_AppendSources : ACode :=
  (.seq r_codec_AppendSources_0
  (.seq r_codec_AppendSources_1
   .ret))
theorem fits_codec_AppendSources : Fits Try.prog 27 9 c_codec_AppendSources [.t 4] := ⟨⟨Try.f27, _, _, Try.func27, rfl, rfl, rfl, by decide, by kernel_rfl, by kernel_rfl⟩, Try.checked.mixed⟩
/- erasure/codec.AppendDigest -/
def r_codec_AppendDigest_0 : ACode := .reg [
    ⟨some 3, none, .box 45 (.t 1)⟩,
    ⟨some 4, none, .mov (.k (.slice none 0 0))⟩] none [0, 3]
def r_codec_AppendDigest_1 : ACode := .reg [
    ⟨some 5, none, .mov (.t 0)⟩,
    ⟨some 6, none, .call 88 [(.t 5)]⟩,
    ⟨some 7, none, .slr 32 1 (.t 3) none none none⟩,
    ⟨some 8, none, .app 5 1 1 (.t 6) (.t 7)⟩,
    ⟨some 4, none, .mov (.t 8)⟩] (some [0, 1, 0, 7, 15]) [4]
def c_codec_AppendDigest : ACode :=
  (.seq r_codec_AppendDigest_0
  (.seq r_codec_AppendDigest_1
   .ret))
theorem fits_codec_AppendDigest : Fits Try.prog 28 9 c_codec_AppendDigest [.t 4] := ⟨⟨Try.f28, _, _, Try.func28, rfl, rfl, rfl, by decide, by kernel_rfl, by kernel_rfl⟩, Try.checked.mixed⟩
/- erasure/codec.AppendVersions -/
def r_codec_AppendVersions_0 : ACode := .reg [
    ⟨some 4, none, .mov (.k (.slice none 0 0))⟩] none [0, 1]
def r_codec_AppendVersions_1 : ACode := .reg [
    ⟨some 5, none, .mov (.t 0)⟩,
    ⟨some 6, none, .call 88 [(.t 5)]⟩,
    ⟨some 7, none, .mov (.t 1)⟩,
    ⟨some 8, none, .call 95 [(.t 6), (.t 7)]⟩,
    ⟨some 4, none, .mov (.t 8)⟩] none [4]
def c_codec_AppendVersions : ACode :=
  (.seq r_codec_AppendVersions_0
  (.seq r_codec_AppendVersions_1
   .ret))
theorem fits_codec_AppendVersions : Fits Try.prog 29 9 c_codec_AppendVersions [.t 4] := ⟨⟨Try.f29, _, _, Try.func29, rfl, rfl, rfl, by decide, by kernel_rfl, by kernel_rfl⟩, Try.checked.mixed⟩
/- erasure/codec.ReadVersions -/
def r_codec_ReadVersions_0 : ACode := .reg [
    ⟨some 2, none, .mov (.k (.slice none 0 0))⟩,
    ⟨some 3, none, .mov (.k (.slice none 0 0))⟩,
    ⟨some 4, none, .mov (.k (.int .i64 (0)))⟩] none [0]
def r_codec_ReadVersions_1 : ACode := .reg [
    ⟨some 7, none, .mov (.t 0)⟩,
    ⟨some 8, none, .build [.slice none 0 0, .int .i64 0] [(0, 1, (.t 7))]⟩,
    ⟨some 5, none, .alloc 152 [.slice none 0 0, .int .i64 0]⟩,
    ⟨none, none, .store 2 (.t 5) (.t 8)⟩] none [5]
def r_codec_ReadVersions_2 : ACode := .reg [
    ⟨some 9, none, .call 96 [(.t 5)]⟩,
    ⟨some 6, none, .mov (.t 9)⟩] none [5, 6]
def r_codec_ReadVersions_3 : ACode := .reg [
    ⟨some 10, none, .fld 1 (.t 5)⟩,
    ⟨some 11, none, .load none (.t 10)⟩,
    ⟨some 12, none, .bin .neq (.t 11) (.k (.int .i64 (0)))⟩] none [5, 6, 12]
def r_codec_ReadVersions_4 : ACode := .reg [
    ⟨some 13, none, .fld 1 (.t 5)⟩,
    ⟨some 14, none, .load none (.t 13)⟩,
    ⟨some 2, none, .mov (.k (.slice none 0 0))⟩,
    ⟨some 3, none, .mov (.k (.slice none 0 0))⟩,
    ⟨some 4, none, .mov (.t 14)⟩] (some [0, 1, 0, 4, 15]) [2, 3, 4]
def r_codec_ReadVersions_5 : ACode := .reg [
    ⟨some 15, none, .mov (.t 6)⟩,
    ⟨some 16, none, .call 90 [(.t 5)]⟩,
    ⟨some 2, none, .mov (.t 15)⟩,
    ⟨some 3, none, .mov (.t 16)⟩,
    ⟨some 4, none, .mov (.k (.int .i64 (0)))⟩] none [2, 3, 4]
def c_codec_ReadVersions : ACode :=
  (.seq r_codec_ReadVersions_0
  (.seq r_codec_ReadVersions_1
   (.seq r_codec_ReadVersions_2
    (.seq (.seq r_codec_ReadVersions_3
      (.cond (.t 12)
       (.seq r_codec_ReadVersions_4
        .ret)
       .skip))
     (.seq r_codec_ReadVersions_5
      .ret)))))
theorem fits_codec_ReadVersions : Fits Try.prog 30 17 c_codec_ReadVersions [.t 2, .t 3, .t 4] := ⟨⟨Try.f30, _, _, Try.func30, rfl, rfl, rfl, by decide, by kernel_rfl, by kernel_rfl⟩, Try.checked.mixed⟩
/- erasure/codec.ReadDigest -/
def r_codec_ReadDigest_0 : ACode := .reg [
    ⟨some 2, none, .alloc 45 [.int .u8 0, .int .u8 0, .int .u8 0, .int .u8 0, .int .u8 0, .int .u8 0, .int .u8 0, .int .u8 0, .int .u8 0, .int .u8 0, .int .u8 0, .int .u8 0, .int .u8 0, .int .u8 0, .int .u8 0, .int .u8 0, .int .u8 0, .int .u8 0, .int .u8 0, .int .u8 0, .int .u8 0, .int .u8 0, .int .u8 0, .int .u8 0, .int .u8 0, .int .u8 0, .int .u8 0, .int .u8 0, .int .u8 0, .int .u8 0, .int .u8 0, .int .u8 0]⟩,
    ⟨some 3, none, .mov (.k (.slice none 0 0))⟩,
    ⟨some 4, none, .mov (.k (.int .i64 (0)))⟩] none [0, 2]
def r_codec_ReadDigest_1 : ACode := .reg [
    ⟨some 7, none, .mov (.t 0)⟩,
    ⟨some 8, none, .build [.slice none 0 0, .int .i64 0] [(0, 1, (.t 7))]⟩,
    ⟨some 5, none, .alloc 152 [.slice none 0 0, .int .i64 0]⟩,
    ⟨none, none, .store 2 (.t 5) (.t 8)⟩] none [2, 5]
def r_codec_ReadDigest_2 : ACode := .reg [
    ⟨some 9, none, .call 97 [(.t 5)]⟩,
    ⟨some 6, none, .alloc 45 [.int .u8 0, .int .u8 0, .int .u8 0, .int .u8 0, .int .u8 0, .int .u8 0, .int .u8 0, .int .u8 0, .int .u8 0, .int .u8 0, .int .u8 0, .int .u8 0, .int .u8 0, .int .u8 0, .int .u8 0, .int .u8 0, .int .u8 0, .int .u8 0, .int .u8 0, .int .u8 0, .int .u8 0, .int .u8 0, .int .u8 0, .int .u8 0, .int .u8 0, .int .u8 0, .int .u8 0, .int .u8 0, .int .u8 0, .int .u8 0, .int .u8 0, .int .u8 0]⟩,
    ⟨none, none, .store 32 (.t 6) (.t 9)⟩] none [2, 5, 6]
def r_codec_ReadDigest_3 : ACode := .reg [
    ⟨some 10, none, .fld 1 (.t 5)⟩,
    ⟨some 11, none, .load none (.t 10)⟩,
    ⟨some 12, none, .bin .neq (.t 11) (.k (.int .i64 (0)))⟩] none [2, 5, 6, 12]
def r_codec_ReadDigest_4 : ACode := .reg [
    ⟨some 13, none, .build [.int .u8 0, .int .u8 0, .int .u8 0, .int .u8 0, .int .u8 0, .int .u8 0, .int .u8 0, .int .u8 0, .int .u8 0, .int .u8 0, .int .u8 0, .int .u8 0, .int .u8 0, .int .u8 0, .int .u8 0, .int .u8 0, .int .u8 0, .int .u8 0, .int .u8 0, .int .u8 0, .int .u8 0, .int .u8 0, .int .u8 0, .int .u8 0, .int .u8 0, .int .u8 0, .int .u8 0, .int .u8 0, .int .u8 0, .int .u8 0, .int .u8 0, .int .u8 0] []⟩,
    ⟨some 14, none, .fld 1 (.t 5)⟩,
    ⟨some 15, none, .load none (.t 14)⟩,
    ⟨none, none, .store 32 (.t 2) (.t 13)⟩,
    ⟨some 3, none, .mov (.k (.slice none 0 0))⟩,
    ⟨some 4, none, .mov (.t 15)⟩] (some [0, 0, 2, 1, 9, 31]) [2, 3, 4]
def r_codec_ReadDigest_5 : ACode := .reg [
    ⟨some 16, none, .load (some 32) (.t 6)⟩,
    ⟨some 17, none, .call 90 [(.t 5)]⟩,
    ⟨none, none, .store 32 (.t 2) (.t 16)⟩,
    ⟨some 3, none, .mov (.t 17)⟩,
    ⟨some 4, none, .mov (.k (.int .i64 (0)))⟩] (some [0, 0, 3, 7, 15]) [2, 3, 4]
def c_codec_ReadDigest : ACode :=
  (.seq r_codec_ReadDigest_0
  (.seq r_codec_ReadDigest_1
   (.seq r_codec_ReadDigest_2
    (.seq (.seq r_codec_ReadDigest_3
      (.cond (.t 12)
       (.seq r_codec_ReadDigest_4
        .ret)
       .skip))
     (.seq r_codec_ReadDigest_5
      .ret)))))
theorem fits_codec_ReadDigest : Fits Try.prog 31 18 c_codec_ReadDigest [.c 2 (some 32), .t 3, .t 4] := ⟨⟨Try.f31, _, _, Try.func31, rfl, rfl, rfl, by decide, by kernel_rfl, by kernel_rfl⟩, Try.checked.mixed⟩
/- erasure/codec.ReadSources -/
def r_codec_ReadSources_0 : ACode := .reg [
    ⟨some 2, none, .mov (.k (.slice none 0 0))⟩,
    ⟨some 3, none, .mov (.k (.slice none 0 0))⟩,
    ⟨some 4, none, .mov (.k (.int .i64 (0)))⟩] none [0]
def r_codec_ReadSources_1 : ACode := .reg [
    ⟨some 7, none, .mov (.t 0)⟩,
    ⟨some 8, none, .build [.slice none 0 0, .int .i64 0] [(0, 1, (.t 7))]⟩,
    ⟨some 5, none, .alloc 152 [.slice none 0 0, .int .i64 0]⟩,
    ⟨none, none, .store 2 (.t 5) (.t 8)⟩] none [5]
def r_codec_ReadSources_2 : ACode := .reg [
    ⟨some 9, none, .call 98 [(.t 5)]⟩,
    ⟨some 6, none, .mov (.t 9)⟩] none [5, 6]
def r_codec_ReadSources_3 : ACode := .reg [
    ⟨some 10, none, .fld 1 (.t 5)⟩,
    ⟨some 11, none, .load none (.t 10)⟩,
    ⟨some 12, none, .bin .neq (.t 11) (.k (.int .i64 (0)))⟩] none [5, 6, 12]
def r_codec_ReadSources_4 : ACode := .reg [
    ⟨some 13, none, .fld 1 (.t 5)⟩,
    ⟨some 14, none, .load none (.t 13)⟩,
    ⟨some 2, none, .mov (.k (.slice none 0 0))⟩,
    ⟨some 3, none, .mov (.k (.slice none 0 0))⟩,
    ⟨some 4, none, .mov (.t 14)⟩] (some [0, 1, 0, 4, 15]) [2, 3, 4]
def r_codec_ReadSources_5 : ACode := .reg [
    ⟨some 15, none, .mov (.t 6)⟩,
    ⟨some 16, none, .call 90 [(.t 5)]⟩,
    ⟨some 2, none, .mov (.t 15)⟩,
    ⟨some 3, none, .mov (.t 16)⟩,
    ⟨some 4, none, .mov (.k (.int .i64 (0)))⟩] none [2, 3, 4]
def c_codec_ReadSources : ACode :=
  (.seq r_codec_ReadSources_0
  (.seq r_codec_ReadSources_1
   (.seq r_codec_ReadSources_2
    (.seq (.seq r_codec_ReadSources_3
      (.cond (.t 12)
       (.seq r_codec_ReadSources_4
        .ret)
       .skip))
     (.seq r_codec_ReadSources_5
      .ret)))))
theorem fits_codec_ReadSources : Fits Try.prog 32 17 c_codec_ReadSources [.t 2, .t 3, .t 4] := ⟨⟨Try.f32, _, _, Try.func32, rfl, rfl, rfl, by decide, by kernel_rfl, by kernel_rfl⟩, Try.checked.mixed⟩
/- erasure/codec.AppendRow -/
def r_codec_AppendRow_0 : ACode := .reg [
    ⟨some 4, none, .mov (.k (.slice none 0 0))⟩] none [0, 1]
def r_codec_AppendRow_1 : ACode := .reg [
    ⟨some 5, none, .mov (.t 0)⟩,
    ⟨some 6, none, .call 88 [(.t 5)]⟩,
    ⟨some 7, none, .mov (.t 1)⟩,
    ⟨some 8, none, .call 102 [(.t 6), (.t 7)]⟩,
    ⟨some 4, none, .mov (.t 8)⟩] none [4]
def c_codec_AppendRow : ACode :=
  (.seq r_codec_AppendRow_0
  (.seq r_codec_AppendRow_1
   .ret))
theorem fits_codec_AppendRow : Fits Try.prog 38 9 c_codec_AppendRow [.t 4] := ⟨⟨Try.f38, _, _, Try.func38, rfl, rfl, rfl, by decide, by kernel_rfl, by kernel_rfl⟩, Try.checked.mixed⟩
/- erasure/codec.ReadRow -/
def r_codec_ReadRow_0 : ACode := .reg [
    ⟨some 2, none, .mov (.k (.slice none 0 0))⟩,
    ⟨some 3, none, .mov (.k (.slice none 0 0))⟩,
    ⟨some 4, none, .mov (.k (.int .i64 (0)))⟩] none [0]
def r_codec_ReadRow_1 : ACode := .reg [
    ⟨some 7, none, .mov (.t 0)⟩,
    ⟨some 8, none, .build [.slice none 0 0, .int .i64 0] [(0, 1, (.t 7))]⟩,
    ⟨some 5, none, .alloc 152 [.slice none 0 0, .int .i64 0]⟩,
    ⟨none, none, .store 2 (.t 5) (.t 8)⟩] none [5]
def r_codec_ReadRow_2 : ACode := .reg [
    ⟨some 9, none, .call 103 [(.t 5)]⟩,
    ⟨some 6, none, .mov (.t 9)⟩] none [5, 6]
def r_codec_ReadRow_3 : ACode := .reg [
    ⟨some 10, none, .fld 1 (.t 5)⟩,
    ⟨some 11, none, .load none (.t 10)⟩,
    ⟨some 12, none, .bin .neq (.t 11) (.k (.int .i64 (0)))⟩] none [5, 6, 12]
def r_codec_ReadRow_4 : ACode := .reg [
    ⟨some 13, none, .fld 1 (.t 5)⟩,
    ⟨some 14, none, .load none (.t 13)⟩,
    ⟨some 2, none, .mov (.k (.slice none 0 0))⟩,
    ⟨some 3, none, .mov (.k (.slice none 0 0))⟩,
    ⟨some 4, none, .mov (.t 14)⟩] (some [0, 1, 0, 4, 15]) [2, 3, 4]
def r_codec_ReadRow_5 : ACode := .reg [
    ⟨some 15, none, .mov (.t 6)⟩,
    ⟨some 16, none, .call 90 [(.t 5)]⟩,
    ⟨some 2, none, .mov (.t 15)⟩,
    ⟨some 3, none, .mov (.t 16)⟩,
    ⟨some 4, none, .mov (.k (.int .i64 (0)))⟩] none [2, 3, 4]
def c_codec_ReadRow : ACode :=
  (.seq r_codec_ReadRow_0
  (.seq r_codec_ReadRow_1
   (.seq r_codec_ReadRow_2
    (.seq (.seq r_codec_ReadRow_3
      (.cond (.t 12)
       (.seq r_codec_ReadRow_4
        .ret)
       .skip))
     (.seq r_codec_ReadRow_5
      .ret)))))
theorem fits_codec_ReadRow : Fits Try.prog 39 17 c_codec_ReadRow [.t 2, .t 3, .t 4] := ⟨⟨Try.f39, _, _, Try.func39, rfl, rfl, rfl, by decide, by kernel_rfl, by kernel_rfl⟩, Try.checked.mixed⟩
/- erasure/codec.AppendValue -/
def r_codec_AppendValue_0 : ACode := .reg [
    ⟨some 3, none, .box 67 (.t 1)⟩,
    ⟨some 4, none, .mov (.k (.slice none 0 0))⟩] none [0, 3]
def r_codec_AppendValue_1 : ACode := .reg [
    ⟨some 5, none, .mov (.t 0)⟩,
    ⟨some 6, none, .call 88 [(.t 5)]⟩,
    ⟨some 7, none, .load (some 3) (.t 3)⟩,
    ⟨some 8, none, .call 104 [(.t 6), (.t 7)]⟩,
    ⟨some 4, none, .mov (.t 8)⟩] (some [0, 1, 0, 7, 15]) [4]
def c_codec_AppendValue : ACode :=
  (.seq r_codec_AppendValue_0
  (.seq r_codec_AppendValue_1
   .ret))
theorem fits_codec_AppendValue : Fits Try.prog 40 9 c_codec_AppendValue [.t 4] := ⟨⟨Try.f40, _, _, Try.func40, rfl, rfl, rfl, by decide, by kernel_rfl, by kernel_rfl⟩, Try.checked.mixed⟩
/- erasure/codec.ReadValue -/
def r_codec_ReadValue_0 : ACode := .reg [
    ⟨some 2, none, .alloc 67 [.int .i64 0, .int .i64 0, .string ⟨#[]⟩]⟩,
    ⟨some 3, none, .mov (.k (.slice none 0 0))⟩,
    ⟨some 4, none, .mov (.k (.int .i64 (0)))⟩] none [0, 2]
def r_codec_ReadValue_1 : ACode := .reg [
    ⟨some 7, none, .mov (.t 0)⟩,
    ⟨some 8, none, .build [.slice none 0 0, .int .i64 0] [(0, 1, (.t 7))]⟩,
    ⟨some 5, none, .alloc 152 [.slice none 0 0, .int .i64 0]⟩,
    ⟨none, none, .store 2 (.t 5) (.t 8)⟩] none [2, 5]
def r_codec_ReadValue_2 : ACode := .reg [
    ⟨some 9, none, .call 105 [(.t 5)]⟩,
    ⟨some 6, none, .alloc 67 [.int .i64 0, .int .i64 0, .string ⟨#[]⟩]⟩,
    ⟨none, none, .store 3 (.t 6) (.t 9)⟩] none [2, 5, 6]
def r_codec_ReadValue_3 : ACode := .reg [
    ⟨some 10, none, .fld 1 (.t 5)⟩,
    ⟨some 11, none, .load none (.t 10)⟩,
    ⟨some 12, none, .bin .neq (.t 11) (.k (.int .i64 (0)))⟩] none [2, 5, 6, 12]
def r_codec_ReadValue_4 : ACode := .reg [
    ⟨some 13, none, .build [.int .i64 0, .int .i64 0, .string ⟨#[]⟩] []⟩,
    ⟨some 14, none, .fld 1 (.t 5)⟩,
    ⟨some 15, none, .load none (.t 14)⟩,
    ⟨none, none, .store 3 (.t 2) (.t 13)⟩,
    ⟨some 3, none, .mov (.k (.slice none 0 0))⟩,
    ⟨some 4, none, .mov (.t 15)⟩] (some [0, 0, 2, 1, 9, 31]) [2, 3, 4]
def r_codec_ReadValue_5 : ACode := .reg [
    ⟨some 16, none, .load (some 3) (.t 6)⟩,
    ⟨some 17, none, .call 90 [(.t 5)]⟩,
    ⟨none, none, .store 3 (.t 2) (.t 16)⟩,
    ⟨some 3, none, .mov (.t 17)⟩,
    ⟨some 4, none, .mov (.k (.int .i64 (0)))⟩] (some [0, 0, 3, 7, 15]) [2, 3, 4]
def c_codec_ReadValue : ACode :=
  (.seq r_codec_ReadValue_0
  (.seq r_codec_ReadValue_1
   (.seq r_codec_ReadValue_2
    (.seq (.seq r_codec_ReadValue_3
      (.cond (.t 12)
       (.seq r_codec_ReadValue_4
        .ret)
       .skip))
     (.seq r_codec_ReadValue_5
      .ret)))))
theorem fits_codec_ReadValue : Fits Try.prog 41 18 c_codec_ReadValue [.c 2 (some 3), .t 3, .t 4] := ⟨⟨Try.f41, _, _, Try.func41, rfl, rfl, rfl, by decide, by kernel_rfl, by kernel_rfl⟩, Try.checked.mixed⟩
/- erasure/codec.AppendBag -/
def r_codec_AppendBag_0 : ACode := .reg [
    ⟨some 4, none, .mov (.k (.slice none 0 0))⟩] none [0, 1]
def r_codec_AppendBag_1 : ACode := .reg [
    ⟨some 7, none, .mov (.t 0)⟩,
    ⟨some 8, none, .call 88 [(.t 7)]⟩,
    ⟨some 9, none, .mov (.t 1)⟩,
    ⟨some 10, none, .len (.t 9)⟩,
    ⟨some 11, none, .call 87 [(.t 8), (.t 10)]⟩,
    ⟨some 5, none, .mov (.t 11)⟩] none [1, 5]
def r_codec_AppendBag_2 : ACode := .reg [
    ⟨some 6, none, .mov (.k (.int .i64 (0)))⟩] none [1, 5, 6]
def r_codec_AppendBag_3 : ACode := .reg [
    ⟨some 12, none, .mov (.t 6)⟩,
    ⟨some 13, none, .mov (.t 1)⟩,
    ⟨some 14, none, .len (.t 13)⟩,
    ⟨some 15, none, .bin .lss (.t 12) (.t 14)⟩] none [1, 5, 6, 15]
def r_codec_AppendBag_4 : ACode := .reg [
    ⟨some 18, none, .mov (.t 5)⟩,
    ⟨some 19, none, .mov (.t 1)⟩,
    ⟨some 20, none, .mov (.t 6)⟩,
    ⟨some 21, none, .idxa 2 (.t 19) (.t 20)⟩,
    ⟨some 22, none, .fld 0 (.t 21)⟩,
    ⟨some 23, none, .load none (.t 22)⟩,
    ⟨some 24, none, .call 102 [(.t 18), (.t 23)]⟩,
    ⟨some 25, none, .mov (.t 1)⟩,
    ⟨some 26, none, .mov (.t 6)⟩,
    ⟨some 27, none, .idxa 2 (.t 25) (.t 26)⟩,
    ⟨some 28, none, .fld 1 (.t 27)⟩,
    ⟨some 29, none, .load none (.t 28)⟩,
    ⟨some 30, none, .call 87 [(.t 24), (.t 29)]⟩,
    ⟨some 5, none, .mov (.t 30)⟩] (some [0, 0, 0, 6, 14, 30, 63, 0, 0, 384, 896, 1920, 4095, 8191]) [1, 5, 6]
def r_codec_AppendBag_5 : ACode := .reg [
    ⟨some 16, none, .mov (.t 6)⟩,
    ⟨some 17, none, .bin .add (.t 16) (.k (.int .i64 (1)))⟩,
    ⟨some 6, none, .mov (.t 17)⟩] none [1, 5, 6]
def r_codec_AppendBag_6 : ACode := .reg [
    ⟨some 31, none, .mov (.t 5)⟩,
    ⟨some 4, none, .mov (.t 31)⟩] none [4]
def c_codec_AppendBag : ACode :=
  (.seq r_codec_AppendBag_0
  (.seq r_codec_AppendBag_1
   (.seq (.seq r_codec_AppendBag_2
     (.block 0 (.loop (.seq (.seq r_codec_AppendBag_3
         (.cond (.t 15)
          .skip
          (.exit 0)))
        (.seq (.block 1 r_codec_AppendBag_4)
         r_codec_AppendBag_5)))))
    (.seq r_codec_AppendBag_6
     .ret))))
theorem fits_codec_AppendBag : Fits Try.prog 47 32 c_codec_AppendBag [.t 4] := ⟨⟨Try.f47, _, _, Try.func47, rfl, rfl, rfl, by decide, by kernel_rfl, by kernel_rfl⟩, Try.checked.mixed⟩
/- erasure/codec.ReadBag -/
def r_codec_ReadBag_0 : ACode := .reg [
    ⟨some 2, none, .mov (.k (.slice none 0 0))⟩,
    ⟨some 3, none, .mov (.k (.slice none 0 0))⟩,
    ⟨some 4, none, .mov (.k (.int .i64 (0)))⟩] none [0]
def r_codec_ReadBag_1 : ACode := .reg [
    ⟨some 10, none, .mov (.t 0)⟩,
    ⟨some 11, none, .build [.slice none 0 0, .int .i64 0] [(0, 1, (.t 10))]⟩,
    ⟨some 5, none, .alloc 152 [.slice none 0 0, .int .i64 0]⟩,
    ⟨none, none, .store 2 (.t 5) (.t 11)⟩] none [5]
def r_codec_ReadBag_2 : ACode := .reg [
    ⟨some 12, none, .call 108 [(.t 5), (.k (.int .i64 (4096)))]⟩,
    ⟨some 6, none, .mov (.t 12)⟩] none [5, 6]
def r_codec_ReadBag_3 : ACode := .reg [
    ⟨some 7, none, .mov (.k (.slice none 0 0))⟩] none [5, 6, 7]
def r_codec_ReadBag_4 : ACode := .reg [
    ⟨some 8, none, .mov (.k (.int .i64 (0)))⟩] none [5, 6, 7, 8]
def r_codec_ReadBag_5 : ACode := .reg [
    ⟨some 13, none, .mov (.t 8)⟩,
    ⟨some 14, none, .mov (.t 6)⟩,
    ⟨some 15, none, .bin .lss (.t 13) (.t 14)⟩,
    ⟨some 16, none, .mov (.t 15)⟩,
    ⟨some 17, (some (16, true)), .fld 1 (.t 5)⟩,
    ⟨some 18, (some (16, true)), .load none (.t 17)⟩,
    ⟨some 19, (some (16, true)), .bin .eql (.t 18) (.k (.int .i64 (0)))⟩,
    ⟨some 20, none, .pick (.t 16) (.t 19) (.k (.bool false))⟩] none [5, 6, 7, 8, 20]
def r_codec_ReadBag_6 : ACode := .reg [
    ⟨some 23, none, .call 103 [(.t 5)]⟩,
    ⟨some 24, none, .build [.slice none 0 0, .int .i64 0] [(0, 1, (.t 23))]⟩,
    ⟨some 9, none, .alloc 78 [.slice none 0 0, .int .i64 0]⟩,
    ⟨none, none, .store 2 (.t 9) (.t 24)⟩] none [5, 6, 7, 8, 9]
def r_codec_ReadBag_7 : ACode := .reg [
    ⟨some 25, none, .call 89 [(.t 5)]⟩,
    ⟨some 26, none, .fld 1 (.t 9)⟩,
    ⟨none, none, .store 1 (.t 26) (.t 25)⟩] none [5, 6, 7, 8, 9]
def r_codec_ReadBag_8 : ACode := .reg [
    ⟨some 27, none, .mov (.t 7)⟩,
    ⟨some 28, none, .load (some 2) (.t 9)⟩,
    ⟨some 29, none, .lit 78 2 1 [.slice none 0 0, .int .i64 0] [(0, (.t 28))] false⟩,
    ⟨some 30, none, .app 78 2 32 (.t 27) (.t 29)⟩,
    ⟨some 7, none, .mov (.t 30)⟩] none [5, 6, 7, 8]
def r_codec_ReadBag_9 : ACode := .reg [
    ⟨some 21, none, .mov (.t 8)⟩,
    ⟨some 22, none, .bin .add (.t 21) (.k (.int .i64 (1)))⟩,
    ⟨some 8, none, .mov (.t 22)⟩] none [5, 6, 7, 8]
def r_codec_ReadBag_10 : ACode := .reg [
    ⟨some 31, none, .fld 1 (.t 5)⟩,
    ⟨some 32, none, .load none (.t 31)⟩,
    ⟨some 33, none, .bin .neq (.t 32) (.k (.int .i64 (0)))⟩] none [5, 7, 33]
def r_codec_ReadBag_11 : ACode := .reg [
    ⟨some 34, none, .fld 1 (.t 5)⟩,
    ⟨some 35, none, .load none (.t 34)⟩,
    ⟨some 2, none, .mov (.k (.slice none 0 0))⟩,
    ⟨some 3, none, .mov (.k (.slice none 0 0))⟩,
    ⟨some 4, none, .mov (.t 35)⟩] (some [0, 1, 0, 4, 15]) [2, 3, 4]
def r_codec_ReadBag_12 : ACode := .reg [
    ⟨some 36, none, .mov (.t 7)⟩,
    ⟨some 37, none, .call 90 [(.t 5)]⟩,
    ⟨some 2, none, .mov (.t 36)⟩,
    ⟨some 3, none, .mov (.t 37)⟩,
    ⟨some 4, none, .mov (.k (.int .i64 (0)))⟩] none [2, 3, 4]
def c_codec_ReadBag : ACode :=
  (.seq r_codec_ReadBag_0
  (.seq r_codec_ReadBag_1
   (.seq r_codec_ReadBag_2
    (.seq r_codec_ReadBag_3
     (.seq (.seq r_codec_ReadBag_4
       (.block 0 (.loop (.seq (.seq r_codec_ReadBag_5
           (.cond (.t 20)
            .skip
            (.exit 0)))
          (.seq (.block 1 (.seq r_codec_ReadBag_6
             (.seq r_codec_ReadBag_7
              r_codec_ReadBag_8)))
           r_codec_ReadBag_9)))))
      (.seq (.seq r_codec_ReadBag_10
        (.cond (.t 33)
         (.seq r_codec_ReadBag_11
          .ret)
         .skip))
       (.seq r_codec_ReadBag_12
        .ret)))))))
theorem fits_codec_ReadBag : Fits Try.prog 48 38 c_codec_ReadBag [.t 2, .t 3, .t 4] := ⟨⟨Try.f48, _, _, Try.func48, rfl, rfl, rfl, by decide, by kernel_rfl, by kernel_rfl⟩, Try.checked.mixed⟩
/- erasure/codec.AppendChange -/
def r_codec_AppendChange_0 : ACode := .reg [
    ⟨some 3, none, .box 86 (.t 1)⟩,
    ⟨some 4, none, .mov (.k (.slice none 0 0))⟩] none [0, 3]
def r_codec_AppendChange_1 : ACode := .reg [
    ⟨some 6, none, .mov (.t 0)⟩,
    ⟨some 7, none, .call 88 [(.t 6)]⟩,
    ⟨some 8, none, .fld 0 (.t 3)⟩,
    ⟨some 9, none, .load none (.t 8)⟩,
    ⟨some 10, none, .fld 1 (.t 3)⟩,
    ⟨some 11, none, .load none (.t 10)⟩,
    ⟨some 12, none, .fld 2 (.t 3)⟩,
    ⟨some 13, none, .load none (.t 12)⟩,
    ⟨some 14, none, .fld 3 (.t 3)⟩,
    ⟨some 15, none, .load none (.t 14)⟩,
    ⟨some 16, none, .lit 3 1 4 [.int .i64 0] [(0, (.t 9)), (1, (.t 11)), (2, (.t 13)), (3, (.t 15))] false⟩,
    ⟨some 17, none, .call 110 [(.t 7), (.t 16)]⟩,
    ⟨some 18, none, .fld 4 (.t 3)⟩,
    ⟨some 19, none, .load none (.t 18)⟩,
    ⟨some 20, none, .call 102 [(.t 17), (.t 19)]⟩,
    ⟨some 5, none, .mov (.t 20)⟩] (some [0, 1, 0, 4, 0, 16, 0, 64, 0, 256, 1020, 2047, 0, 4096, 16383, 32767]) [3, 5]
def r_codec_AppendChange_2 : ACode := .reg [
    ⟨some 21, none, .mov (.t 5)⟩,
    ⟨some 22, none, .fld 5 (.t 3)⟩,
    ⟨some 23, none, .load (some 3) (.t 22)⟩,
    ⟨some 24, none, .call 104 [(.t 21), (.t 23)]⟩,
    ⟨some 25, none, .fld 8 (.t 3)⟩,
    ⟨some 26, none, .load none (.t 25)⟩,
    ⟨some 27, none, .lit 3 1 1 [.int .i64 0] [(0, (.t 26))] false⟩,
    ⟨some 28, none, .call 110 [(.t 24), (.t 27)]⟩,
    ⟨some 29, none, .fld 9 (.t 3)⟩,
    ⟨some 30, none, .load (some 3) (.t 29)⟩,
    ⟨some 31, none, .call 104 [(.t 28), (.t 30)]⟩,
    ⟨some 4, none, .mov (.t 31)⟩] (some [0, 0, 2, 7, 0, 16, 48, 127, 0, 256, 1023, 2047]) [4]
def c_codec_AppendChange : ACode :=
  (.seq r_codec_AppendChange_0
  (.seq r_codec_AppendChange_1
   (.seq r_codec_AppendChange_2
    .ret)))
theorem fits_codec_AppendChange : Fits Try.prog 51 32 c_codec_AppendChange [.t 4] := ⟨⟨Try.f51, _, _, Try.func51, rfl, rfl, rfl, by decide, by kernel_rfl, by kernel_rfl⟩, Try.checked.mixed⟩
/- erasure/codec.ReadChange -/
def r_codec_ReadChange_0 : ACode := .reg [
    ⟨some 2, none, .alloc 86 [.int .i64 0, .int .i64 0, .int .i64 0, .int .i64 0, .slice none 0 0, .int .i64 0, .int .i64 0, .string ⟨#[]⟩, .int .i64 0, .int .i64 0, .int .i64 0, .string ⟨#[]⟩]⟩,
    ⟨some 3, none, .mov (.k (.slice none 0 0))⟩,
    ⟨some 4, none, .mov (.k (.int .i64 (0)))⟩] none [0, 2]
def r_codec_ReadChange_1 : ACode := .reg [
    ⟨some 7, none, .mov (.t 0)⟩,
    ⟨some 8, none, .build [.slice none 0 0, .int .i64 0] [(0, 1, (.t 7))]⟩,
    ⟨some 5, none, .alloc 152 [.slice none 0 0, .int .i64 0]⟩,
    ⟨none, none, .store 2 (.t 5) (.t 8)⟩] none [2, 5]
def r_codec_ReadChange_2 : ACode := .reg [
    ⟨some 9, none, .call 111 [(.t 5)]⟩,
    ⟨some 10, none, .build [.int .i64 0, .int .i64 0, .int .i64 0, .int .i64 0, .slice none 0 0, .int .i64 0, .int .i64 0, .string ⟨#[]⟩, .int .i64 0, .int .i64 0, .int .i64 0, .string ⟨#[]⟩] [(0, 1, (.t 9))]⟩,
    ⟨some 6, none, .alloc 86 [.int .i64 0, .int .i64 0, .int .i64 0, .int .i64 0, .slice none 0 0, .int .i64 0, .int .i64 0, .string ⟨#[]⟩, .int .i64 0, .int .i64 0, .int .i64 0, .string ⟨#[]⟩]⟩,
    ⟨none, none, .store 12 (.t 6) (.t 10)⟩] none [2, 5, 6]
def r_codec_ReadChange_3 : ACode := .reg [
    ⟨some 11, none, .call 111 [(.t 5)]⟩,
    ⟨some 12, none, .fld 1 (.t 6)⟩,
    ⟨none, none, .store 1 (.t 12) (.t 11)⟩] none [2, 5, 6]
def r_codec_ReadChange_4 : ACode := .reg [
    ⟨some 13, none, .call 111 [(.t 5)]⟩,
    ⟨some 14, none, .fld 2 (.t 6)⟩,
    ⟨none, none, .store 1 (.t 14) (.t 13)⟩] none [2, 5, 6]
def r_codec_ReadChange_5 : ACode := .reg [
    ⟨some 15, none, .call 111 [(.t 5)]⟩,
    ⟨some 16, none, .fld 3 (.t 6)⟩,
    ⟨none, none, .store 1 (.t 16) (.t 15)⟩] none [2, 5, 6]
def r_codec_ReadChange_6 : ACode := .reg [
    ⟨some 17, none, .call 103 [(.t 5)]⟩,
    ⟨some 18, none, .fld 4 (.t 6)⟩,
    ⟨none, none, .store 1 (.t 18) (.t 17)⟩] none [2, 5, 6]
def r_codec_ReadChange_7 : ACode := .reg [
    ⟨some 19, none, .call 105 [(.t 5)]⟩,
    ⟨some 20, none, .fld 5 (.t 6)⟩,
    ⟨none, none, .store 3 (.t 20) (.t 19)⟩] none [2, 5, 6]
def r_codec_ReadChange_8 : ACode := .reg [
    ⟨some 21, none, .call 111 [(.t 5)]⟩,
    ⟨some 22, none, .fld 8 (.t 6)⟩,
    ⟨none, none, .store 1 (.t 22) (.t 21)⟩] none [2, 5, 6]
def r_codec_ReadChange_9 : ACode := .reg [
    ⟨some 23, none, .call 105 [(.t 5)]⟩,
    ⟨some 24, none, .fld 9 (.t 6)⟩,
    ⟨none, none, .store 3 (.t 24) (.t 23)⟩] none [2, 5, 6]
def r_codec_ReadChange_10 : ACode := .reg [
    ⟨some 25, none, .fld 1 (.t 5)⟩,
    ⟨some 26, none, .load none (.t 25)⟩,
    ⟨some 27, none, .bin .neq (.t 26) (.k (.int .i64 (0)))⟩] none [2, 5, 6, 27]
def r_codec_ReadChange_11 : ACode := .reg [
    ⟨some 28, none, .build [.int .i64 0, .int .i64 0, .int .i64 0, .int .i64 0, .slice none 0 0, .int .i64 0, .int .i64 0, .string ⟨#[]⟩, .int .i64 0, .int .i64 0, .int .i64 0, .string ⟨#[]⟩] []⟩,
    ⟨some 29, none, .fld 1 (.t 5)⟩,
    ⟨some 30, none, .load none (.t 29)⟩,
    ⟨none, none, .store 12 (.t 2) (.t 28)⟩,
    ⟨some 3, none, .mov (.k (.slice none 0 0))⟩,
    ⟨some 4, none, .mov (.t 30)⟩] (some [0, 0, 2, 1, 9, 31]) [2, 3, 4]
def r_codec_ReadChange_12 : ACode := .reg [
    ⟨some 31, none, .load (some 12) (.t 6)⟩,
    ⟨some 32, none, .call 90 [(.t 5)]⟩,
    ⟨none, none, .store 12 (.t 2) (.t 31)⟩,
    ⟨some 3, none, .mov (.t 32)⟩,
    ⟨some 4, none, .mov (.k (.int .i64 (0)))⟩] (some [0, 0, 3, 7, 15]) [2, 3, 4]
def c_codec_ReadChange : ACode :=
  (.seq r_codec_ReadChange_0
  (.seq r_codec_ReadChange_1
   (.seq r_codec_ReadChange_2
    (.seq r_codec_ReadChange_3
     (.seq r_codec_ReadChange_4
      (.seq r_codec_ReadChange_5
       (.seq r_codec_ReadChange_6
        (.seq r_codec_ReadChange_7
         (.seq r_codec_ReadChange_8
          (.seq r_codec_ReadChange_9
           (.seq (.seq r_codec_ReadChange_10
             (.cond (.t 27)
              (.seq r_codec_ReadChange_11
               .ret)
              .skip))
            (.seq r_codec_ReadChange_12
             .ret))))))))))))
theorem fits_codec_ReadChange : Fits Try.prog 52 33 c_codec_ReadChange [.c 2 (some 12), .t 3, .t 4] := ⟨⟨Try.f52, _, _, Try.func52, rfl, rfl, rfl, by decide, by kernel_rfl, by kernel_rfl⟩, Try.checked.mixed⟩
/- erasure/codec.AppendRecord -/
def r_codec_AppendRecord_0 : ACode := .reg [
    ⟨some 3, none, .box 95 (.t 1)⟩,
    ⟨some 4, none, .mov (.k (.slice none 0 0))⟩] none [0, 3]
def r_codec_AppendRecord_1 : ACode := .reg [
    ⟨some 8, none, .mov (.t 0)⟩,
    ⟨some 9, none, .call 88 [(.t 8)]⟩,
    ⟨some 10, none, .fld 0 (.t 3)⟩,
    ⟨some 11, none, .load none (.t 10)⟩,
    ⟨some 12, none, .call 102 [(.t 9), (.t 11)]⟩,
    ⟨some 5, none, .mov (.t 12)⟩] (some [0, 1, 0, 4, 15, 31]) [3, 5]
def r_codec_AppendRecord_2 : ACode := .reg [
    ⟨some 6, none, .mov (.k (.int .i64 (0)))⟩] none [3, 5, 6]
def r_codec_AppendRecord_3 : ACode := .reg [
    ⟨some 13, none, .mov (.t 6)⟩,
    ⟨some 14, none, .fld 0 (.t 3)⟩,
    ⟨some 15, none, .load none (.t 14)⟩,
    ⟨some 16, none, .len (.t 15)⟩,
    ⟨some 17, none, .bin .lss (.t 13) (.t 16)⟩] none [3, 5, 6, 17]
def r_codec_AppendRecord_4 : ACode := .reg [
    ⟨some 7, none, .mov (.k (.int .i64 (0)))⟩] none [3, 5, 6, 7]
def r_codec_AppendRecord_5 : ACode := .reg [
    ⟨some 20, none, .mov (.t 6)⟩,
    ⟨some 21, none, .fld 1 (.t 3)⟩,
    ⟨some 22, none, .load none (.t 21)⟩,
    ⟨some 23, none, .len (.t 22)⟩,
    ⟨some 24, none, .bin .lss (.t 20) (.t 23)⟩] none [3, 5, 6, 7, 24]
def r_codec_AppendRecord_6 : ACode := .reg [
    ⟨some 25, none, .fld 1 (.t 3)⟩,
    ⟨some 26, none, .load none (.t 25)⟩,
    ⟨some 27, none, .mov (.t 6)⟩,
    ⟨some 28, none, .idxa 1 (.t 26) (.t 27)⟩,
    ⟨some 29, none, .load none (.t 28)⟩,
    ⟨some 7, none, .mov (.t 29)⟩] none [3, 5, 6, 7]
def r_codec_AppendRecord_7 : ACode := .reg [
    ⟨some 30, none, .mov (.t 5)⟩,
    ⟨some 31, none, .mov (.t 7)⟩,
    ⟨some 32, none, .lit 3 1 1 [.int .i64 0] [(0, (.t 31))] false⟩,
    ⟨some 33, none, .call 110 [(.t 30), (.t 32)]⟩,
    ⟨some 5, none, .mov (.t 33)⟩] none [3, 5, 6]
def r_codec_AppendRecord_8 : ACode := .reg [
    ⟨some 18, none, .mov (.t 6)⟩,
    ⟨some 19, none, .bin .add (.t 18) (.k (.int .i64 (1)))⟩,
    ⟨some 6, none, .mov (.t 19)⟩] none [3, 5, 6]
def r_codec_AppendRecord_9 : ACode := .reg [
    ⟨some 34, none, .mov (.t 5)⟩,
    ⟨some 35, none, .fld 2 (.t 3)⟩,
    ⟨some 36, none, .load none (.t 35)⟩,
    ⟨some 37, none, .lit 3 1 1 [.int .i64 0] [(0, (.t 36))] false⟩,
    ⟨some 38, none, .call 110 [(.t 34), (.t 37)]⟩,
    ⟨some 4, none, .mov (.t 38)⟩] none [4]
def c_codec_AppendRecord : ACode :=
  (.seq r_codec_AppendRecord_0
  (.seq r_codec_AppendRecord_1
   (.seq (.seq r_codec_AppendRecord_2
     (.block 0 (.loop (.seq (.seq r_codec_AppendRecord_3
         (.cond (.t 17)
          .skip
          (.exit 0)))
        (.seq (.block 1 (.seq r_codec_AppendRecord_4
           (.seq (.seq r_codec_AppendRecord_5
             (.cond (.t 24)
              r_codec_AppendRecord_6
              .skip))
            r_codec_AppendRecord_7)))
         r_codec_AppendRecord_8)))))
    (.seq r_codec_AppendRecord_9
     .ret))))
theorem fits_codec_AppendRecord : Fits Try.prog 55 39 c_codec_AppendRecord [.t 4] := ⟨⟨Try.f55, _, _, Try.func55, rfl, rfl, rfl, by decide, by kernel_rfl, by kernel_rfl⟩, Try.checked.mixed⟩
/- erasure/codec.ReadRecord -/
def r_codec_ReadRecord_0 : ACode := .reg [
    ⟨some 2, none, .alloc 95 [.slice none 0 0, .slice none 0 0, .int .i64 0]⟩,
    ⟨some 3, none, .mov (.k (.slice none 0 0))⟩,
    ⟨some 4, none, .mov (.k (.int .i64 (0)))⟩] none [0, 2]
def r_codec_ReadRecord_1 : ACode := .reg [
    ⟨some 8, none, .mov (.t 0)⟩,
    ⟨some 9, none, .build [.slice none 0 0, .int .i64 0] [(0, 1, (.t 8))]⟩,
    ⟨some 5, none, .alloc 152 [.slice none 0 0, .int .i64 0]⟩,
    ⟨none, none, .store 2 (.t 5) (.t 9)⟩] none [2, 5]
def r_codec_ReadRecord_2 : ACode := .reg [
    ⟨some 10, none, .call 103 [(.t 5)]⟩,
    ⟨some 11, none, .build [.slice none 0 0, .slice none 0 0, .int .i64 0] [(0, 1, (.t 10))]⟩,
    ⟨some 6, none, .alloc 95 [.slice none 0 0, .slice none 0 0, .int .i64 0]⟩,
    ⟨none, none, .store 3 (.t 6) (.t 11)⟩] none [2, 5, 6]
def r_codec_ReadRecord_3 : ACode := .reg [
    ⟨some 7, none, .mov (.k (.int .i64 (0)))⟩] none [2, 5, 6, 7]
def r_codec_ReadRecord_4 : ACode := .reg [
    ⟨some 12, none, .mov (.t 7)⟩,
    ⟨some 13, none, .fld 0 (.t 6)⟩,
    ⟨some 14, none, .load none (.t 13)⟩,
    ⟨some 15, none, .len (.t 14)⟩,
    ⟨some 16, none, .bin .lss (.t 12) (.t 15)⟩,
    ⟨some 17, none, .mov (.t 16)⟩,
    ⟨some 18, (some (17, true)), .fld 1 (.t 5)⟩,
    ⟨some 19, (some (17, true)), .load none (.t 18)⟩,
    ⟨some 20, (some (17, true)), .bin .eql (.t 19) (.k (.int .i64 (0)))⟩,
    ⟨some 21, none, .pick (.t 17) (.t 20) (.k (.bool false))⟩] none [2, 5, 6, 7, 21]
def r_codec_ReadRecord_5 : ACode := .reg [
    ⟨some 24, none, .fld 1 (.t 6)⟩,
    ⟨some 25, none, .load none (.t 24)⟩,
    ⟨some 26, none, .call 111 [(.t 5)]⟩,
    ⟨some 27, none, .lit 3 1 1 [.int .i64 0] [(0, (.t 26))] false⟩,
    ⟨some 28, none, .app 3 1 8 (.t 25) (.t 27)⟩,
    ⟨some 29, none, .fld 1 (.t 6)⟩,
    ⟨none, none, .store 1 (.t 29) (.t 28)⟩] (some [0, 1, 0, 4, 15, 31, 63]) [2, 5, 6, 7]
def r_codec_ReadRecord_6 : ACode := .reg [
    ⟨some 22, none, .mov (.t 7)⟩,
    ⟨some 23, none, .bin .add (.t 22) (.k (.int .i64 (1)))⟩,
    ⟨some 7, none, .mov (.t 23)⟩] none [2, 5, 6, 7]
def r_codec_ReadRecord_7 : ACode := .reg [
    ⟨some 30, none, .call 111 [(.t 5)]⟩,
    ⟨some 31, none, .fld 2 (.t 6)⟩,
    ⟨none, none, .store 1 (.t 31) (.t 30)⟩] none [2, 5, 6]
def r_codec_ReadRecord_8 : ACode := .reg [
    ⟨some 32, none, .fld 1 (.t 5)⟩,
    ⟨some 33, none, .load none (.t 32)⟩,
    ⟨some 34, none, .bin .neq (.t 33) (.k (.int .i64 (0)))⟩] none [2, 5, 6, 34]
def r_codec_ReadRecord_9 : ACode := .reg [
    ⟨some 35, none, .build [.slice none 0 0, .slice none 0 0, .int .i64 0] []⟩,
    ⟨some 36, none, .fld 1 (.t 5)⟩,
    ⟨some 37, none, .load none (.t 36)⟩,
    ⟨none, none, .store 3 (.t 2) (.t 35)⟩,
    ⟨some 3, none, .mov (.k (.slice none 0 0))⟩,
    ⟨some 4, none, .mov (.t 37)⟩] (some [0, 0, 2, 1, 9, 31]) [2, 3, 4]
def r_codec_ReadRecord_10 : ACode := .reg [
    ⟨some 38, none, .load (some 3) (.t 6)⟩,
    ⟨some 39, none, .call 90 [(.t 5)]⟩,
    ⟨none, none, .store 3 (.t 2) (.t 38)⟩,
    ⟨some 3, none, .mov (.t 39)⟩,
    ⟨some 4, none, .mov (.k (.int .i64 (0)))⟩] (some [0, 0, 3, 7, 15]) [2, 3, 4]
def c_codec_ReadRecord : ACode :=
  (.seq r_codec_ReadRecord_0
  (.seq r_codec_ReadRecord_1
   (.seq r_codec_ReadRecord_2
    (.seq (.seq r_codec_ReadRecord_3
      (.block 0 (.loop (.seq (.seq r_codec_ReadRecord_4
          (.cond (.t 21)
           .skip
           (.exit 0)))
         (.seq (.block 1 r_codec_ReadRecord_5)
          r_codec_ReadRecord_6)))))
     (.seq r_codec_ReadRecord_7
      (.seq (.seq r_codec_ReadRecord_8
        (.cond (.t 34)
         (.seq r_codec_ReadRecord_9
          .ret)
         .skip))
       (.seq r_codec_ReadRecord_10
        .ret)))))))
theorem fits_codec_ReadRecord : Fits Try.prog 56 40 c_codec_ReadRecord [.c 2 (some 3), .t 3, .t 4] := ⟨⟨Try.f56, _, _, Try.func56, rfl, rfl, rfl, by decide, by kernel_rfl, by kernel_rfl⟩, Try.checked.mixed⟩
/- erasure/codec.ReadEntry -/
def r_codec_ReadEntry_0 : ACode := .reg [
    ⟨some 2, none, .alloc 111 [.int .i64 0, .int .i64 0, .int .i64 0, .int .i64 0, .int .i64 0, .string ⟨#[]⟩, .int .i64 0, .int .i64 0, .string ⟨#[]⟩, .int .i64 0, .int .i64 0, .int .i64 0, .string ⟨#[]⟩, .int .i64 0, .int .i64 0, .string ⟨#[]⟩, .string ⟨#[]⟩, .int .i64 0, .int .i64 0, .string ⟨#[]⟩, .int .i64 0, .bool false, .int .i64 0, .int .i64 0, .string ⟨#[]⟩, .int .i64 0, .int .i64 0, .string ⟨#[]⟩, .int .i64 0, .int .i64 0, .int .i64 0, .slice none 0 0, .slice none 0 0, .int .u8 0, .int .u8 0, .int .u8 0, .int .u8 0, .int .u8 0, .int .u8 0, .int .u8 0, .int .u8 0, .int .u8 0, .int .u8 0, .int .u8 0, .int .u8 0, .int .u8 0, .int .u8 0, .int .u8 0, .int .u8 0, .int .u8 0, .int .u8 0, .int .u8 0, .int .u8 0, .int .u8 0, .int .u8 0, .int .u8 0, .int .u8 0, .int .u8 0, .int .u8 0, .int .u8 0, .int .u8 0, .int .u8 0, .int .u8 0, .int .u8 0, .int .u8 0]⟩,
    ⟨some 3, none, .mov (.k (.slice none 0 0))⟩,
    ⟨some 4, none, .mov (.k (.int .i64 (0)))⟩] none [0, 2]
def r_codec_ReadEntry_1 : ACode := .reg [
    ⟨some 7, none, .mov (.t 0)⟩,
    ⟨some 8, none, .build [.slice none 0 0, .int .i64 0] [(0, 1, (.t 7))]⟩,
    ⟨some 5, none, .alloc 152 [.slice none 0 0, .int .i64 0]⟩,
    ⟨none, none, .store 2 (.t 5) (.t 8)⟩] none [2, 5]
def r_codec_ReadEntry_2 : ACode := .reg [
    ⟨some 9, none, .call 111 [(.t 5)]⟩,
    ⟨some 10, none, .build [.int .i64 0, .int .i64 0, .int .i64 0, .int .i64 0, .int .i64 0, .string ⟨#[]⟩, .int .i64 0, .int .i64 0, .string ⟨#[]⟩, .int .i64 0, .int .i64 0, .int .i64 0, .string ⟨#[]⟩, .int .i64 0, .int .i64 0, .string ⟨#[]⟩, .string ⟨#[]⟩, .int .i64 0, .int .i64 0, .string ⟨#[]⟩, .int .i64 0, .bool false, .int .i64 0, .int .i64 0, .string ⟨#[]⟩, .int .i64 0, .int .i64 0, .string ⟨#[]⟩, .int .i64 0, .int .i64 0, .int .i64 0, .slice none 0 0, .slice none 0 0, .int .u8 0, .int .u8 0, .int .u8 0, .int .u8 0, .int .u8 0, .int .u8 0, .int .u8 0, .int .u8 0, .int .u8 0, .int .u8 0, .int .u8 0, .int .u8 0, .int .u8 0, .int .u8 0, .int .u8 0, .int .u8 0, .int .u8 0, .int .u8 0, .int .u8 0, .int .u8 0, .int .u8 0, .int .u8 0, .int .u8 0, .int .u8 0, .int .u8 0, .int .u8 0, .int .u8 0, .int .u8 0, .int .u8 0, .int .u8 0, .int .u8 0, .int .u8 0] [(0, 1, (.t 9))]⟩,
    ⟨some 6, none, .alloc 111 [.int .i64 0, .int .i64 0, .int .i64 0, .int .i64 0, .int .i64 0, .string ⟨#[]⟩, .int .i64 0, .int .i64 0, .string ⟨#[]⟩, .int .i64 0, .int .i64 0, .int .i64 0, .string ⟨#[]⟩, .int .i64 0, .int .i64 0, .string ⟨#[]⟩, .string ⟨#[]⟩, .int .i64 0, .int .i64 0, .string ⟨#[]⟩, .int .i64 0, .bool false, .int .i64 0, .int .i64 0, .string ⟨#[]⟩, .int .i64 0, .int .i64 0, .string ⟨#[]⟩, .int .i64 0, .int .i64 0, .int .i64 0, .slice none 0 0, .slice none 0 0, .int .u8 0, .int .u8 0, .int .u8 0, .int .u8 0, .int .u8 0, .int .u8 0, .int .u8 0, .int .u8 0, .int .u8 0, .int .u8 0, .int .u8 0, .int .u8 0, .int .u8 0, .int .u8 0, .int .u8 0, .int .u8 0, .int .u8 0, .int .u8 0, .int .u8 0, .int .u8 0, .int .u8 0, .int .u8 0, .int .u8 0, .int .u8 0, .int .u8 0, .int .u8 0, .int .u8 0, .int .u8 0, .int .u8 0, .int .u8 0, .int .u8 0, .int .u8 0]⟩,
    ⟨none, none, .store 65 (.t 6) (.t 10)⟩] none [2, 5, 6]
def r_codec_ReadEntry_3 : ACode := .reg [
    ⟨some 11, none, .fld 1 (.t 5)⟩,
    ⟨some 12, none, .load none (.t 11)⟩,
    ⟨some 13, none, .bin .eql (.t 12) (.k (.int .i64 (0)))⟩,
    ⟨some 14, none, .mov (.t 13)⟩,
    ⟨some 15, (some (14, true)), .fld 0 (.t 6)⟩,
    ⟨some 16, (some (14, true)), .load none (.t 15)⟩,
    ⟨some 17, (some (14, true)), .bin .lss (.t 16) (.k (.int .i64 (1)))⟩,
    ⟨some 18, (some (14, true)), .mov (.t 17)⟩,
    ⟨some 19, (some (18, false)), .fld 0 (.t 6)⟩,
    ⟨some 20, (some (18, false)), .load none (.t 19)⟩,
    ⟨some 21, (some (18, false)), .bin .gtr (.t 20) (.k (.int .i64 (7)))⟩,
    ⟨some 22, (some (14, true)), .pick (.t 18) (.k (.bool true)) (.t 21)⟩,
    ⟨some 23, none, .pick (.t 14) (.t 22) (.k (.bool false))⟩] none [2, 5, 6, 23]
def r_codec_ReadEntry_4 : ACode := .reg [
    ⟨some 24, none, .call 114 [(.t 5), (.k (.int .i64 (1)))]⟩] none [2, 5, 6]
def r_codec_ReadEntry_5 : ACode := .reg [
    ⟨some 25, none, .call 111 [(.t 5)]⟩,
    ⟨some 26, none, .fld 1 (.t 6)⟩,
    ⟨none, none, .store 1 (.t 26) (.t 25)⟩] none [2, 5, 6]
def r_codec_ReadEntry_6 : ACode := .reg [
    ⟨some 27, none, .call 111 [(.t 5)]⟩,
    ⟨some 28, none, .fld 2 (.t 6)⟩,
    ⟨none, none, .store 1 (.t 28) (.t 27)⟩] none [2, 5, 6]
def r_codec_ReadEntry_7 : ACode := .reg [
    ⟨some 29, none, .call 111 [(.t 5)]⟩,
    ⟨some 30, none, .fld 3 (.t 6)⟩,
    ⟨none, none, .store 1 (.t 30) (.t 29)⟩] none [2, 5, 6]
def r_codec_ReadEntry_8 : ACode := .reg [
    ⟨some 31, none, .fld 0 (.t 6)⟩,
    ⟨some 32, none, .load none (.t 31)⟩] none [2, 5, 6, 32]
def r_codec_ReadEntry_9 : ACode := .reg [
    ⟨some 34, none, .bin .eql (.t 32) (.k (.int .i64 (1)))⟩,
    ⟨some 33, none, .mov (.t 34)⟩] none [2, 5, 6, 32, 33]
def r_codec_ReadEntry_10 : ACode := .reg [
    ⟨some 35, none, .call 115 [(.t 5)]⟩,
    ⟨some 36, none, .fld 4 (.t 6)⟩,
    ⟨none, none, .store 8 (.t 36) (.t 35)⟩] none [2, 5, 6]
def r_codec_ReadEntry_11 : ACode := .reg [
    ⟨some 38, none, .bin .eql (.t 32) (.k (.int .i64 (2)))⟩,
    ⟨some 37, none, .mov (.t 38)⟩] none [2, 5, 6, 32, 37]
def r_codec_ReadEntry_12 : ACode := .reg [
    ⟨some 39, none, .call 96 [(.t 5)]⟩,
    ⟨some 40, none, .fld 31 (.t 6)⟩,
    ⟨none, none, .store 1 (.t 40) (.t 39)⟩] none [2, 5, 6]
def r_codec_ReadEntry_13 : ACode := .reg [
    ⟨some 41, none, .call 98 [(.t 5)]⟩,
    ⟨some 42, none, .fld 32 (.t 6)⟩,
    ⟨none, none, .store 1 (.t 42) (.t 41)⟩] none [2, 5, 6]
def r_codec_ReadEntry_14 : ACode := .reg [
    ⟨some 44, none, .bin .eql (.t 32) (.k (.int .i64 (4)))⟩,
    ⟨some 43, none, .mov (.t 44)⟩] none [2, 5, 6, 32, 43]
def r_codec_ReadEntry_15 : ACode := .reg [
    ⟨some 45, none, .call 97 [(.t 5)]⟩,
    ⟨some 46, none, .fld 33 (.t 6)⟩,
    ⟨none, none, .store 32 (.t 46) (.t 45)⟩] none [2, 5, 6]
def r_codec_ReadEntry_16 : ACode := .reg [
    ⟨some 48, none, .bin .eql (.t 32) (.k (.int .i64 (6)))⟩,
    ⟨some 47, none, .mov (.t 48)⟩] none [2, 5, 6, 32, 47]
def r_codec_ReadEntry_17 : ACode := .reg [
    ⟨some 49, none, .call 116 [(.t 5)]⟩,
    ⟨some 50, none, .fld 12 (.t 6)⟩,
    ⟨none, none, .store 10 (.t 50) (.t 49)⟩] none [2, 5, 6]
def r_codec_ReadEntry_18 : ACode := .reg [
    ⟨some 52, none, .bin .eql (.t 32) (.k (.int .i64 (7)))⟩,
    ⟨some 51, none, .mov (.t 52)⟩] none [2, 5, 6, 51]
def r_codec_ReadEntry_19 : ACode := .reg [
    ⟨some 53, none, .call 117 [(.t 5)]⟩,
    ⟨some 54, none, .fld 22 (.t 6)⟩,
    ⟨none, none, .store 9 (.t 54) (.t 53)⟩] none [2, 5, 6]
def r_codec_ReadEntry_20 : ACode := .reg [
    ⟨some 55, none, .fld 1 (.t 5)⟩,
    ⟨some 56, none, .load none (.t 55)⟩,
    ⟨some 57, none, .bin .neq (.t 56) (.k (.int .i64 (0)))⟩] none [2, 5, 6, 57]
def r_codec_ReadEntry_21 : ACode := .reg [
    ⟨some 58, none, .build [.int .i64 0, .int .i64 0, .int .i64 0, .int .i64 0, .int .i64 0, .string ⟨#[]⟩, .int .i64 0, .int .i64 0, .string ⟨#[]⟩, .int .i64 0, .int .i64 0, .int .i64 0, .string ⟨#[]⟩, .int .i64 0, .int .i64 0, .string ⟨#[]⟩, .string ⟨#[]⟩, .int .i64 0, .int .i64 0, .string ⟨#[]⟩, .int .i64 0, .bool false, .int .i64 0, .int .i64 0, .string ⟨#[]⟩, .int .i64 0, .int .i64 0, .string ⟨#[]⟩, .int .i64 0, .int .i64 0, .int .i64 0, .slice none 0 0, .slice none 0 0, .int .u8 0, .int .u8 0, .int .u8 0, .int .u8 0, .int .u8 0, .int .u8 0, .int .u8 0, .int .u8 0, .int .u8 0, .int .u8 0, .int .u8 0, .int .u8 0, .int .u8 0, .int .u8 0, .int .u8 0, .int .u8 0, .int .u8 0, .int .u8 0, .int .u8 0, .int .u8 0, .int .u8 0, .int .u8 0, .int .u8 0, .int .u8 0, .int .u8 0, .int .u8 0, .int .u8 0, .int .u8 0, .int .u8 0, .int .u8 0, .int .u8 0, .int .u8 0] []⟩,
    ⟨some 59, none, .fld 1 (.t 5)⟩,
    ⟨some 60, none, .load none (.t 59)⟩,
    ⟨none, none, .store 65 (.t 2) (.t 58)⟩,
    ⟨some 3, none, .mov (.k (.slice none 0 0))⟩,
    ⟨some 4, none, .mov (.t 60)⟩] (some [0, 0, 2, 1, 9, 31]) [2, 3, 4]
def r_codec_ReadEntry_22 : ACode := .reg [
    ⟨some 61, none, .load (some 65) (.t 6)⟩,
    ⟨some 62, none, .call 90 [(.t 5)]⟩,
    ⟨none, none, .store 65 (.t 2) (.t 61)⟩,
    ⟨some 3, none, .mov (.t 62)⟩,
    ⟨some 4, none, .mov (.k (.int .i64 (0)))⟩] (some [0, 0, 3, 7, 15]) [2, 3, 4]
def c_codec_ReadEntry : ACode :=
  (.seq r_codec_ReadEntry_0
  (.seq r_codec_ReadEntry_1
   (.seq r_codec_ReadEntry_2
    (.seq (.seq r_codec_ReadEntry_3
      (.cond (.t 23)
       r_codec_ReadEntry_4
       .skip))
     (.seq r_codec_ReadEntry_5
      (.seq r_codec_ReadEntry_6
       (.seq r_codec_ReadEntry_7
        (.seq (.seq r_codec_ReadEntry_8
          (.block 0 (.seq r_codec_ReadEntry_9
            (.cond (.t 33)
             r_codec_ReadEntry_10
             (.seq r_codec_ReadEntry_11
              (.cond (.t 37)
               (.seq r_codec_ReadEntry_12
                r_codec_ReadEntry_13)
               (.seq r_codec_ReadEntry_14
                (.cond (.t 43)
                 r_codec_ReadEntry_15
                 (.seq r_codec_ReadEntry_16
                  (.cond (.t 47)
                   r_codec_ReadEntry_17
                   (.seq r_codec_ReadEntry_18
                    (.cond (.t 51)
                     r_codec_ReadEntry_19
                     .skip))))))))))))
         (.seq (.seq r_codec_ReadEntry_20
           (.cond (.t 57)
            (.seq r_codec_ReadEntry_21
             .ret)
            .skip))
          (.seq r_codec_ReadEntry_22
           .ret))))))))))
theorem fits_codec_ReadEntry : Fits Try.prog 61 63 c_codec_ReadEntry [.c 2 (some 65), .t 3, .t 4] := ⟨⟨Try.f61, _, _, Try.func61, rfl, rfl, rfl, by decide, by kernel_rfl, by kernel_rfl⟩, Try.checked.mixed⟩
/- erasure/codec.AppendRequest -/
def r_codec_AppendRequest_0 : ACode := .reg [
    ⟨some 3, none, .box 105 (.t 1)⟩,
    ⟨some 4, none, .mov (.k (.slice none 0 0))⟩] none [0, 3]
def r_codec_AppendRequest_1 : ACode := .reg [
    ⟨some 5, none, .mov (.t 0)⟩,
    ⟨some 6, none, .call 88 [(.t 5)]⟩,
    ⟨some 7, none, .load (some 8) (.t 3)⟩,
    ⟨some 8, none, .call 118 [(.t 6), (.t 7)]⟩,
    ⟨some 4, none, .mov (.t 8)⟩] (some [0, 1, 0, 7, 15]) [4]
def c_codec_AppendRequest : ACode :=
  (.seq r_codec_AppendRequest_0
  (.seq r_codec_AppendRequest_1
   .ret))
theorem fits_codec_AppendRequest : Fits Try.prog 64 9 c_codec_AppendRequest [.t 4] := ⟨⟨Try.f64, _, _, Try.func64, rfl, rfl, rfl, by decide, by kernel_rfl, by kernel_rfl⟩, Try.checked.mixed⟩
/- erasure/codec.AppendLink -/
def r_codec_AppendLink_0 : ACode := .reg [
    ⟨some 3, none, .box 107 (.t 1)⟩,
    ⟨some 4, none, .mov (.k (.slice none 0 0))⟩] none [0, 3]
def r_codec_AppendLink_1 : ACode := .reg [
    ⟨some 5, none, .mov (.t 0)⟩,
    ⟨some 6, none, .call 88 [(.t 5)]⟩,
    ⟨some 7, none, .load (some 10) (.t 3)⟩,
    ⟨some 8, none, .call 119 [(.t 6), (.t 7)]⟩,
    ⟨some 4, none, .mov (.t 8)⟩] (some [0, 1, 0, 7, 15]) [4]
def c_codec_AppendLink : ACode :=
  (.seq r_codec_AppendLink_0
  (.seq r_codec_AppendLink_1
   .ret))
theorem fits_codec_AppendLink : Fits Try.prog 65 9 c_codec_AppendLink [.t 4] := ⟨⟨Try.f65, _, _, Try.func65, rfl, rfl, rfl, by decide, by kernel_rfl, by kernel_rfl⟩, Try.checked.mixed⟩
/- erasure/codec.AppendHold -/
def r_codec_AppendHold_0 : ACode := .reg [
    ⟨some 3, none, .box 109 (.t 1)⟩,
    ⟨some 4, none, .mov (.k (.slice none 0 0))⟩] none [0, 3]
def r_codec_AppendHold_1 : ACode := .reg [
    ⟨some 5, none, .mov (.t 0)⟩,
    ⟨some 6, none, .call 88 [(.t 5)]⟩,
    ⟨some 7, none, .load (some 9) (.t 3)⟩,
    ⟨some 8, none, .call 120 [(.t 6), (.t 7)]⟩,
    ⟨some 4, none, .mov (.t 8)⟩] (some [0, 1, 0, 7, 15]) [4]
def c_codec_AppendHold : ACode :=
  (.seq r_codec_AppendHold_0
  (.seq r_codec_AppendHold_1
   .ret))
theorem fits_codec_AppendHold : Fits Try.prog 66 9 c_codec_AppendHold [.t 4] := ⟨⟨Try.f66, _, _, Try.func66, rfl, rfl, rfl, by decide, by kernel_rfl, by kernel_rfl⟩, Try.checked.mixed⟩
/- erasure/codec.ReadRequest -/
def r_codec_ReadRequest_0 : ACode := .reg [
    ⟨some 2, none, .alloc 105 [.int .i64 0, .string ⟨#[]⟩, .int .i64 0, .int .i64 0, .string ⟨#[]⟩, .int .i64 0, .int .i64 0, .int .i64 0]⟩,
    ⟨some 3, none, .mov (.k (.slice none 0 0))⟩,
    ⟨some 4, none, .mov (.k (.int .i64 (0)))⟩] none [0, 2]
def r_codec_ReadRequest_1 : ACode := .reg [
    ⟨some 7, none, .mov (.t 0)⟩,
    ⟨some 8, none, .build [.slice none 0 0, .int .i64 0] [(0, 1, (.t 7))]⟩,
    ⟨some 5, none, .alloc 152 [.slice none 0 0, .int .i64 0]⟩,
    ⟨none, none, .store 2 (.t 5) (.t 8)⟩] none [2, 5]
def r_codec_ReadRequest_2 : ACode := .reg [
    ⟨some 9, none, .call 115 [(.t 5)]⟩,
    ⟨some 6, none, .alloc 105 [.int .i64 0, .string ⟨#[]⟩, .int .i64 0, .int .i64 0, .string ⟨#[]⟩, .int .i64 0, .int .i64 0, .int .i64 0]⟩,
    ⟨none, none, .store 8 (.t 6) (.t 9)⟩] none [2, 5, 6]
def r_codec_ReadRequest_3 : ACode := .reg [
    ⟨some 10, none, .fld 1 (.t 5)⟩,
    ⟨some 11, none, .load none (.t 10)⟩,
    ⟨some 12, none, .bin .neq (.t 11) (.k (.int .i64 (0)))⟩] none [2, 5, 6, 12]
def r_codec_ReadRequest_4 : ACode := .reg [
    ⟨some 13, none, .build [.int .i64 0, .string ⟨#[]⟩, .int .i64 0, .int .i64 0, .string ⟨#[]⟩, .int .i64 0, .int .i64 0, .int .i64 0] []⟩,
    ⟨some 14, none, .fld 1 (.t 5)⟩,
    ⟨some 15, none, .load none (.t 14)⟩,
    ⟨none, none, .store 8 (.t 2) (.t 13)⟩,
    ⟨some 3, none, .mov (.k (.slice none 0 0))⟩,
    ⟨some 4, none, .mov (.t 15)⟩] (some [0, 0, 2, 1, 9, 31]) [2, 3, 4]
def r_codec_ReadRequest_5 : ACode := .reg [
    ⟨some 16, none, .load (some 8) (.t 6)⟩,
    ⟨some 17, none, .call 90 [(.t 5)]⟩,
    ⟨none, none, .store 8 (.t 2) (.t 16)⟩,
    ⟨some 3, none, .mov (.t 17)⟩,
    ⟨some 4, none, .mov (.k (.int .i64 (0)))⟩] (some [0, 0, 3, 7, 15]) [2, 3, 4]
def c_codec_ReadRequest : ACode :=
  (.seq r_codec_ReadRequest_0
  (.seq r_codec_ReadRequest_1
   (.seq r_codec_ReadRequest_2
    (.seq (.seq r_codec_ReadRequest_3
      (.cond (.t 12)
       (.seq r_codec_ReadRequest_4
        .ret)
       .skip))
     (.seq r_codec_ReadRequest_5
      .ret)))))
theorem fits_codec_ReadRequest : Fits Try.prog 70 18 c_codec_ReadRequest [.c 2 (some 8), .t 3, .t 4] := ⟨⟨Try.f70, _, _, Try.func70, rfl, rfl, rfl, by decide, by kernel_rfl, by kernel_rfl⟩, Try.checked.mixed⟩
/- erasure/codec.ReadLink -/
def r_codec_ReadLink_0 : ACode := .reg [
    ⟨some 2, none, .alloc 107 [.string ⟨#[]⟩, .int .i64 0, .int .i64 0, .string ⟨#[]⟩, .string ⟨#[]⟩, .int .i64 0, .int .i64 0, .string ⟨#[]⟩, .int .i64 0, .bool false]⟩,
    ⟨some 3, none, .mov (.k (.slice none 0 0))⟩,
    ⟨some 4, none, .mov (.k (.int .i64 (0)))⟩] none [0, 2]
def r_codec_ReadLink_1 : ACode := .reg [
    ⟨some 7, none, .mov (.t 0)⟩,
    ⟨some 8, none, .build [.slice none 0 0, .int .i64 0] [(0, 1, (.t 7))]⟩,
    ⟨some 5, none, .alloc 152 [.slice none 0 0, .int .i64 0]⟩,
    ⟨none, none, .store 2 (.t 5) (.t 8)⟩] none [2, 5]
def r_codec_ReadLink_2 : ACode := .reg [
    ⟨some 9, none, .call 116 [(.t 5)]⟩,
    ⟨some 6, none, .alloc 107 [.string ⟨#[]⟩, .int .i64 0, .int .i64 0, .string ⟨#[]⟩, .string ⟨#[]⟩, .int .i64 0, .int .i64 0, .string ⟨#[]⟩, .int .i64 0, .bool false]⟩,
    ⟨none, none, .store 10 (.t 6) (.t 9)⟩] none [2, 5, 6]
def r_codec_ReadLink_3 : ACode := .reg [
    ⟨some 10, none, .fld 1 (.t 5)⟩,
    ⟨some 11, none, .load none (.t 10)⟩,
    ⟨some 12, none, .bin .neq (.t 11) (.k (.int .i64 (0)))⟩] none [2, 5, 6, 12]
def r_codec_ReadLink_4 : ACode := .reg [
    ⟨some 13, none, .build [.string ⟨#[]⟩, .int .i64 0, .int .i64 0, .string ⟨#[]⟩, .string ⟨#[]⟩, .int .i64 0, .int .i64 0, .string ⟨#[]⟩, .int .i64 0, .bool false] []⟩,
    ⟨some 14, none, .fld 1 (.t 5)⟩,
    ⟨some 15, none, .load none (.t 14)⟩,
    ⟨none, none, .store 10 (.t 2) (.t 13)⟩,
    ⟨some 3, none, .mov (.k (.slice none 0 0))⟩,
    ⟨some 4, none, .mov (.t 15)⟩] (some [0, 0, 2, 1, 9, 31]) [2, 3, 4]
def r_codec_ReadLink_5 : ACode := .reg [
    ⟨some 16, none, .load (some 10) (.t 6)⟩,
    ⟨some 17, none, .call 90 [(.t 5)]⟩,
    ⟨none, none, .store 10 (.t 2) (.t 16)⟩,
    ⟨some 3, none, .mov (.t 17)⟩,
    ⟨some 4, none, .mov (.k (.int .i64 (0)))⟩] (some [0, 0, 3, 7, 15]) [2, 3, 4]
def c_codec_ReadLink : ACode :=
  (.seq r_codec_ReadLink_0
  (.seq r_codec_ReadLink_1
   (.seq r_codec_ReadLink_2
    (.seq (.seq r_codec_ReadLink_3
      (.cond (.t 12)
       (.seq r_codec_ReadLink_4
        .ret)
       .skip))
     (.seq r_codec_ReadLink_5
      .ret)))))
theorem fits_codec_ReadLink : Fits Try.prog 71 18 c_codec_ReadLink [.c 2 (some 10), .t 3, .t 4] := ⟨⟨Try.f71, _, _, Try.func71, rfl, rfl, rfl, by decide, by kernel_rfl, by kernel_rfl⟩, Try.checked.mixed⟩
/- erasure/codec.ReadHold -/
def r_codec_ReadHold_0 : ACode := .reg [
    ⟨some 2, none, .alloc 109 [.int .i64 0, .int .i64 0, .string ⟨#[]⟩, .int .i64 0, .int .i64 0, .string ⟨#[]⟩, .int .i64 0, .int .i64 0, .int .i64 0]⟩,
    ⟨some 3, none, .mov (.k (.slice none 0 0))⟩,
    ⟨some 4, none, .mov (.k (.int .i64 (0)))⟩] none [0, 2]
def r_codec_ReadHold_1 : ACode := .reg [
    ⟨some 7, none, .mov (.t 0)⟩,
    ⟨some 8, none, .build [.slice none 0 0, .int .i64 0] [(0, 1, (.t 7))]⟩,
    ⟨some 5, none, .alloc 152 [.slice none 0 0, .int .i64 0]⟩,
    ⟨none, none, .store 2 (.t 5) (.t 8)⟩] none [2, 5]
def r_codec_ReadHold_2 : ACode := .reg [
    ⟨some 9, none, .call 117 [(.t 5)]⟩,
    ⟨some 6, none, .alloc 109 [.int .i64 0, .int .i64 0, .string ⟨#[]⟩, .int .i64 0, .int .i64 0, .string ⟨#[]⟩, .int .i64 0, .int .i64 0, .int .i64 0]⟩,
    ⟨none, none, .store 9 (.t 6) (.t 9)⟩] none [2, 5, 6]
def r_codec_ReadHold_3 : ACode := .reg [
    ⟨some 10, none, .fld 1 (.t 5)⟩,
    ⟨some 11, none, .load none (.t 10)⟩,
    ⟨some 12, none, .bin .neq (.t 11) (.k (.int .i64 (0)))⟩] none [2, 5, 6, 12]
def r_codec_ReadHold_4 : ACode := .reg [
    ⟨some 13, none, .build [.int .i64 0, .int .i64 0, .string ⟨#[]⟩, .int .i64 0, .int .i64 0, .string ⟨#[]⟩, .int .i64 0, .int .i64 0, .int .i64 0] []⟩,
    ⟨some 14, none, .fld 1 (.t 5)⟩,
    ⟨some 15, none, .load none (.t 14)⟩,
    ⟨none, none, .store 9 (.t 2) (.t 13)⟩,
    ⟨some 3, none, .mov (.k (.slice none 0 0))⟩,
    ⟨some 4, none, .mov (.t 15)⟩] (some [0, 0, 2, 1, 9, 31]) [2, 3, 4]
def r_codec_ReadHold_5 : ACode := .reg [
    ⟨some 16, none, .load (some 9) (.t 6)⟩,
    ⟨some 17, none, .call 90 [(.t 5)]⟩,
    ⟨none, none, .store 9 (.t 2) (.t 16)⟩,
    ⟨some 3, none, .mov (.t 17)⟩,
    ⟨some 4, none, .mov (.k (.int .i64 (0)))⟩] (some [0, 0, 3, 7, 15]) [2, 3, 4]
def c_codec_ReadHold : ACode :=
  (.seq r_codec_ReadHold_0
  (.seq r_codec_ReadHold_1
   (.seq r_codec_ReadHold_2
    (.seq (.seq r_codec_ReadHold_3
      (.cond (.t 12)
       (.seq r_codec_ReadHold_4
        .ret)
       .skip))
     (.seq r_codec_ReadHold_5
      .ret)))))
theorem fits_codec_ReadHold : Fits Try.prog 72 18 c_codec_ReadHold [.c 2 (some 9), .t 3, .t 4] := ⟨⟨Try.f72, _, _, Try.func72, rfl, rfl, rfl, by decide, by kernel_rfl, by kernel_rfl⟩, Try.checked.mixed⟩
/- erasure/codec.ReadIdentifier -/
def r_codec_ReadIdentifier_0 : ACode := .reg [
    ⟨some 2, none, .alloc 103 [.string ⟨#[]⟩, .int .i64 0, .int .i64 0, .string ⟨#[]⟩]⟩,
    ⟨some 3, none, .mov (.k (.slice none 0 0))⟩,
    ⟨some 4, none, .mov (.k (.int .i64 (0)))⟩] none [0, 2]
def r_codec_ReadIdentifier_1 : ACode := .reg [
    ⟨some 7, none, .mov (.t 0)⟩,
    ⟨some 8, none, .build [.slice none 0 0, .int .i64 0] [(0, 1, (.t 7))]⟩,
    ⟨some 5, none, .alloc 152 [.slice none 0 0, .int .i64 0]⟩,
    ⟨none, none, .store 2 (.t 5) (.t 8)⟩] none [2, 5]
def r_codec_ReadIdentifier_2 : ACode := .reg [
    ⟨some 9, none, .call 122 [(.t 5)]⟩,
    ⟨some 6, none, .alloc 103 [.string ⟨#[]⟩, .int .i64 0, .int .i64 0, .string ⟨#[]⟩]⟩,
    ⟨none, none, .store 4 (.t 6) (.t 9)⟩] none [2, 5, 6]
def r_codec_ReadIdentifier_3 : ACode := .reg [
    ⟨some 10, none, .fld 1 (.t 5)⟩,
    ⟨some 11, none, .load none (.t 10)⟩,
    ⟨some 12, none, .bin .neq (.t 11) (.k (.int .i64 (0)))⟩] none [2, 5, 6, 12]
def r_codec_ReadIdentifier_4 : ACode := .reg [
    ⟨some 13, none, .build [.string ⟨#[]⟩, .int .i64 0, .int .i64 0, .string ⟨#[]⟩] []⟩,
    ⟨some 14, none, .fld 1 (.t 5)⟩,
    ⟨some 15, none, .load none (.t 14)⟩,
    ⟨none, none, .store 4 (.t 2) (.t 13)⟩,
    ⟨some 3, none, .mov (.k (.slice none 0 0))⟩,
    ⟨some 4, none, .mov (.t 15)⟩] (some [0, 0, 2, 1, 9, 31]) [2, 3, 4]
def r_codec_ReadIdentifier_5 : ACode := .reg [
    ⟨some 16, none, .load (some 4) (.t 6)⟩,
    ⟨some 17, none, .call 90 [(.t 5)]⟩,
    ⟨none, none, .store 4 (.t 2) (.t 16)⟩,
    ⟨some 3, none, .mov (.t 17)⟩,
    ⟨some 4, none, .mov (.k (.int .i64 (0)))⟩] (some [0, 0, 3, 7, 15]) [2, 3, 4]
def c_codec_ReadIdentifier : ACode :=
  (.seq r_codec_ReadIdentifier_0
  (.seq r_codec_ReadIdentifier_1
   (.seq r_codec_ReadIdentifier_2
    (.seq (.seq r_codec_ReadIdentifier_3
      (.cond (.t 12)
       (.seq r_codec_ReadIdentifier_4
        .ret)
       .skip))
     (.seq r_codec_ReadIdentifier_5
      .ret)))))
theorem fits_codec_ReadIdentifier : Fits Try.prog 73 18 c_codec_ReadIdentifier [.c 2 (some 4), .t 3, .t 4] := ⟨⟨Try.f73, _, _, Try.func73, rfl, rfl, rfl, by decide, by kernel_rfl, by kernel_rfl⟩, Try.checked.mixed⟩
/- erasure/codec.AppendIdentifier -/
def r_codec_AppendIdentifier_0 : ACode := .reg [
    ⟨some 3, none, .box 103 (.t 1)⟩,
    ⟨some 4, none, .mov (.k (.slice none 0 0))⟩] none [0, 3]
def r_codec_AppendIdentifier_1 : ACode := .reg [
    ⟨some 5, none, .mov (.t 0)⟩,
    ⟨some 6, none, .call 88 [(.t 5)]⟩,
    ⟨some 7, none, .load (some 4) (.t 3)⟩,
    ⟨some 8, none, .call 123 [(.t 6), (.t 7)]⟩,
    ⟨some 4, none, .mov (.t 8)⟩] (some [0, 1, 0, 7, 15]) [4]
def c_codec_AppendIdentifier : ACode :=
  (.seq r_codec_AppendIdentifier_0
  (.seq r_codec_AppendIdentifier_1
   .ret))
theorem fits_codec_AppendIdentifier : Fits Try.prog 74 9 c_codec_AppendIdentifier [.t 4] := ⟨⟨Try.f74, _, _, Try.func74, rfl, rfl, rfl, by decide, by kernel_rfl, by kernel_rfl⟩, Try.checked.mixed⟩
/- erasure/codec.AppendEntry -/
def r_codec_AppendEntry_0 : ACode := .reg [
    ⟨some 3, none, .box 111 (.t 1)⟩,
    ⟨some 4, none, .mov (.k (.slice none 0 0))⟩] none [0, 3]
def r_codec_AppendEntry_1 : ACode := .reg [
    ⟨some 6, none, .mov (.t 0)⟩,
    ⟨some 7, none, .call 88 [(.t 6)]⟩,
    ⟨some 8, none, .fld 0 (.t 3)⟩,
    ⟨some 9, none, .load none (.t 8)⟩,
    ⟨some 10, none, .fld 1 (.t 3)⟩,
    ⟨some 11, none, .load none (.t 10)⟩,
    ⟨some 12, none, .fld 2 (.t 3)⟩,
    ⟨some 13, none, .load none (.t 12)⟩,
    ⟨some 14, none, .fld 3 (.t 3)⟩,
    ⟨some 15, none, .load none (.t 14)⟩,
    ⟨some 16, none, .lit 3 1 4 [.int .i64 0] [(0, (.t 9)), (1, (.t 11)), (2, (.t 13)), (3, (.t 15))] false⟩,
    ⟨some 17, none, .call 110 [(.t 7), (.t 16)]⟩,
    ⟨some 5, none, .mov (.t 17)⟩] (some [0, 1, 0, 4, 0, 16, 0, 64, 0, 256, 1020, 2047, 4095]) [3, 5]
def r_codec_AppendEntry_2 : ACode := .reg [
    ⟨some 18, none, .fld 0 (.t 3)⟩,
    ⟨some 19, none, .load none (.t 18)⟩] none [3, 5, 19]
def r_codec_AppendEntry_3 : ACode := .reg [
    ⟨some 21, none, .bin .eql (.t 19) (.k (.int .i64 (1)))⟩,
    ⟨some 20, none, .mov (.t 21)⟩] none [3, 5, 19, 20]
def r_codec_AppendEntry_4 : ACode := .reg [
    ⟨some 22, none, .mov (.t 5)⟩,
    ⟨some 23, none, .fld 4 (.t 3)⟩,
    ⟨some 24, none, .load (some 8) (.t 23)⟩,
    ⟨some 25, none, .call 118 [(.t 22), (.t 24)]⟩,
    ⟨some 4, none, .mov (.t 25)⟩] none [4]
def r_codec_AppendEntry_5 : ACode := .reg [
    ⟨some 27, none, .bin .eql (.t 19) (.k (.int .i64 (2)))⟩,
    ⟨some 26, none, .mov (.t 27)⟩] none [3, 5, 19, 26]
def r_codec_AppendEntry_6 : ACode := .reg [
    ⟨some 28, none, .mov (.t 5)⟩,
    ⟨some 29, none, .fld 31 (.t 3)⟩,
    ⟨some 30, none, .load none (.t 29)⟩,
    ⟨some 31, none, .call 95 [(.t 28), (.t 30)]⟩,
    ⟨some 32, none, .fld 32 (.t 3)⟩,
    ⟨some 33, none, .load none (.t 32)⟩,
    ⟨some 34, none, .call 94 [(.t 31), (.t 33)]⟩,
    ⟨some 4, none, .mov (.t 34)⟩] (some [0, 0, 2, 7, 0, 16, 63, 127]) [4]
def r_codec_AppendEntry_7 : ACode := .reg [
    ⟨some 36, none, .bin .eql (.t 19) (.k (.int .i64 (4)))⟩,
    ⟨some 35, none, .mov (.t 36)⟩] none [3, 5, 19, 35]
def r_codec_AppendEntry_8 : ACode := .reg [
    ⟨some 37, none, .mov (.t 5)⟩,
    ⟨some 38, none, .fld 33 (.t 3)⟩,
    ⟨some 39, none, .slr 32 1 (.t 38) none none none⟩,
    ⟨some 40, none, .app 5 1 1 (.t 37) (.t 39)⟩,
    ⟨some 4, none, .mov (.t 40)⟩] none [4]
def r_codec_AppendEntry_9 : ACode := .reg [
    ⟨some 42, none, .bin .eql (.t 19) (.k (.int .i64 (6)))⟩,
    ⟨some 41, none, .mov (.t 42)⟩] none [3, 5, 19, 41]
def r_codec_AppendEntry_10 : ACode := .reg [
    ⟨some 43, none, .mov (.t 5)⟩,
    ⟨some 44, none, .fld 12 (.t 3)⟩,
    ⟨some 45, none, .load (some 10) (.t 44)⟩,
    ⟨some 46, none, .call 119 [(.t 43), (.t 45)]⟩,
    ⟨some 4, none, .mov (.t 46)⟩] none [4]
def r_codec_AppendEntry_11 : ACode := .reg [
    ⟨some 48, none, .bin .eql (.t 19) (.k (.int .i64 (7)))⟩,
    ⟨some 47, none, .mov (.t 48)⟩] none [3, 5, 47]
def r_codec_AppendEntry_12 : ACode := .reg [
    ⟨some 49, none, .mov (.t 5)⟩,
    ⟨some 50, none, .fld 22 (.t 3)⟩,
    ⟨some 51, none, .load (some 9) (.t 50)⟩,
    ⟨some 52, none, .call 120 [(.t 49), (.t 51)]⟩,
    ⟨some 4, none, .mov (.t 52)⟩] none [4]
def r_codec_AppendEntry_13 : ACode := .reg [
    ⟨some 53, none, .mov (.t 5)⟩,
    ⟨some 4, none, .mov (.t 53)⟩] none [4]
def c_codec_AppendEntry : ACode :=
  (.seq r_codec_AppendEntry_0
  (.seq r_codec_AppendEntry_1
   (.seq (.seq r_codec_AppendEntry_2
     (.block 0 (.seq r_codec_AppendEntry_3
       (.cond (.t 20)
        (.seq r_codec_AppendEntry_4
         .ret)
        (.seq r_codec_AppendEntry_5
         (.cond (.t 26)
          (.seq r_codec_AppendEntry_6
           .ret)
          (.seq r_codec_AppendEntry_7
           (.cond (.t 35)
            (.seq r_codec_AppendEntry_8
             .ret)
            (.seq r_codec_AppendEntry_9
             (.cond (.t 41)
              (.seq r_codec_AppendEntry_10
               .ret)
              (.seq r_codec_AppendEntry_11
               (.cond (.t 47)
                (.seq r_codec_AppendEntry_12
                 .ret)
                .skip))))))))))))
    (.seq r_codec_AppendEntry_13
     .ret))))
theorem fits_codec_AppendEntry : Fits Try.prog 76 54 c_codec_AppendEntry [.t 4] := ⟨⟨Try.f76, _, _, Try.func76, rfl, rfl, rfl, by decide, by kernel_rfl, by kernel_rfl⟩, Try.checked.mixed⟩
/- erasure/codec.putInt -/
def r_codec_putInt_0 : ACode := .reg [
    ⟨some 4, none, .mov (.k (.slice none 0 0))⟩] none [0, 1]
def r_codec_putInt_1 : ACode := .reg [
    ⟨some 6, none, .mov (.t 1)⟩,
    ⟨some 7, none, .conv .u64 (.t 6)⟩,
    ⟨some 8, none, .bin .shl (.t 7) (.k (.int .u64 (1)))⟩,
    ⟨some 5, none, .mov (.t 8)⟩] none [0, 1, 5]
def r_codec_putInt_2 : ACode := .reg [
    ⟨some 9, none, .mov (.t 1)⟩,
    ⟨some 10, none, .bin .lss (.t 9) (.k (.int .i64 (0)))⟩] none [0, 5, 10]
def r_codec_putInt_3 : ACode := .reg [
    ⟨some 11, none, .mov (.t 5)⟩,
    ⟨some 12, none, .un .xor (.t 11)⟩,
    ⟨some 5, none, .mov (.t 12)⟩] none [0, 5]
def r_codec_putInt_4 : ACode := .reg [
    ⟨some 13, none, .mov (.t 5)⟩,
    ⟨some 14, none, .bin .geq (.t 13) (.k (.int .u64 (128)))⟩] none [0, 5, 14]
def r_codec_putInt_5 : ACode := .reg [
    ⟨some 15, none, .mov (.t 0)⟩,
    ⟨some 16, none, .mov (.t 5)⟩,
    ⟨some 17, none, .conv .u8 (.t 16)⟩,
    ⟨some 18, none, .bin .or (.t 17) (.k (.int .u8 (128)))⟩,
    ⟨some 19, none, .lit 5 1 1 [.int .u8 0] [(0, (.t 18))] false⟩,
    ⟨some 20, none, .app 5 1 1 (.t 15) (.t 19)⟩,
    ⟨some 0, none, .mov (.t 20)⟩] none [0, 5]
def r_codec_putInt_6 : ACode := .reg [
    ⟨some 21, none, .mov (.t 5)⟩,
    ⟨some 22, none, .bin .shr (.t 21) (.k (.int .u64 (7)))⟩,
    ⟨some 5, none, .mov (.t 22)⟩] none [0, 5]
def r_codec_putInt_7 : ACode := .reg [
    ⟨some 23, none, .mov (.t 0)⟩,
    ⟨some 24, none, .mov (.t 5)⟩,
    ⟨some 25, none, .conv .u8 (.t 24)⟩,
    ⟨some 26, none, .lit 5 1 1 [.int .u8 0] [(0, (.t 25))] false⟩,
    ⟨some 27, none, .app 5 1 1 (.t 23) (.t 26)⟩,
    ⟨some 4, none, .mov (.t 27)⟩] none [4]
def c_codec_putInt : ACode :=
  (.seq r_codec_putInt_0
  (.seq r_codec_putInt_1
   (.seq (.seq r_codec_putInt_2
     (.cond (.t 10)
      r_codec_putInt_3
      .skip))
    (.seq (.block 0 (.loop (.seq (.seq r_codec_putInt_4
         (.cond (.t 14)
          .skip
          (.exit 0)))
        (.block 1 (.seq r_codec_putInt_5
          r_codec_putInt_6)))))
     (.seq r_codec_putInt_7
      .ret)))))
theorem fits_codec_putInt : Fits Try.prog 87 28 c_codec_putInt [.t 4] := ⟨⟨Try.f87, _, _, Try.func87, rfl, rfl, rfl, by decide, by kernel_rfl, by kernel_rfl⟩, Try.checked.mixed⟩
/- erasure/codec.cloned -/
def r_codec_cloned_0 : ACode := .reg [
    ⟨some 2, none, .mov (.k (.slice none 0 0))⟩] none [0]
def r_codec_cloned_1 : ACode := .reg [
    ⟨some 3, none, .mov (.t 0)⟩,
    ⟨some 4, none, .len (.t 3)⟩,
    ⟨some 5, none, .bin .add (.t 4) (.k (.int .i64 (32)))⟩,
    ⟨some 6, none, .make 5 1 1 [.int .u8 0] (.k (.int .i64 (0))) (.t 5) true⟩,
    ⟨some 7, none, .mov (.t 0)⟩,
    ⟨some 8, none, .app 5 1 1 (.t 6) (.t 7)⟩,
    ⟨some 2, none, .mov (.t 8)⟩] none [2]
def c_codec_cloned : ACode :=
  (.seq r_codec_cloned_0
  (.seq r_codec_cloned_1
   .ret))
theorem fits_codec_cloned : Fits Try.prog 88 9 c_codec_cloned [.t 2] := ⟨⟨Try.f88, _, _, Try.func88, rfl, rfl, rfl, by decide, by kernel_rfl, by kernel_rfl⟩, Try.checked.mixed⟩
/- (*erasure/codec.source).integer -/
def r_codec_source_integer_0 : ACode := .reg [
    ⟨some 2, none, .mov (.k (.int .i64 (0)))⟩] none [0]
def r_codec_source_integer_1 : ACode := .reg [
    ⟨some 3, none, .mov (.k (.int .u64 (0)))⟩] none [0, 3]
def r_codec_source_integer_2 : ACode := .reg [
    ⟨some 4, none, .mov (.k (.int .i64 (0)))⟩] none [0, 3, 4]
def r_codec_source_integer_3 : ACode := .reg [
    ⟨some 7, none, .mov (.t 0)⟩,
    ⟨some 8, none, .nilck (.t 7)⟩,
    ⟨some 9, none, .fld 1 (.t 8)⟩,
    ⟨some 10, none, .load none (.t 9)⟩,
    ⟨some 11, none, .bin .eql (.t 10) (.k (.int .i64 (0)))⟩] none [0, 3, 4, 11]
def r_codec_source_integer_4 : ACode := .reg [
    ⟨some 14, none, .mov (.t 4)⟩,
    ⟨some 15, none, .mov (.t 0)⟩,
    ⟨some 16, none, .nilck (.t 15)⟩,
    ⟨some 17, none, .fld 0 (.t 16)⟩,
    ⟨some 18, none, .load none (.t 17)⟩,
    ⟨some 19, none, .len (.t 18)⟩,
    ⟨some 20, none, .bin .geq (.t 14) (.t 19)⟩] none [0, 3, 4, 20]
def r_codec_source_integer_5 : ACode := .reg [
    ⟨some 21, none, .mov (.t 0)⟩,
    ⟨some 22, none, .call 114 [(.t 21), (.k (.int .i64 (100)))]⟩] none []
def r_codec_source_integer_6 : ACode := .reg [
    ⟨some 23, none, .mov (.t 0)⟩,
    ⟨some 24, none, .nilck (.t 23)⟩,
    ⟨some 25, none, .fld 0 (.t 24)⟩,
    ⟨some 26, none, .load none (.t 25)⟩,
    ⟨some 27, none, .mov (.t 4)⟩,
    ⟨some 28, none, .idxa 1 (.t 26) (.t 27)⟩,
    ⟨some 29, none, .load none (.t 28)⟩,
    ⟨some 5, none, .mov (.t 29)⟩] none [0, 3, 4, 5]
def r_codec_source_integer_7 : ACode := .reg [
    ⟨some 30, none, .mov (.t 4)⟩,
    ⟨some 31, none, .bin .eql (.t 30) (.k (.int .i64 (9)))⟩,
    ⟨some 32, none, .mov (.t 31)⟩,
    ⟨some 33, (some (32, true)), .mov (.t 5)⟩,
    ⟨some 34, (some (32, true)), .bin .gtr (.t 33) (.k (.int .u8 (1)))⟩,
    ⟨some 35, none, .pick (.t 32) (.t 34) (.k (.bool false))⟩,
    ⟨some 36, none, .mov (.t 35)⟩,
    ⟨some 37, (some (36, false)), .mov (.t 4)⟩,
    ⟨some 38, (some (36, false)), .bin .gtr (.t 37) (.k (.int .i64 (0)))⟩,
    ⟨some 39, (some (36, false)), .mov (.t 38)⟩,
    ⟨some 40, (some (39, true)), .mov (.t 5)⟩,
    ⟨some 41, (some (39, true)), .bin .eql (.t 40) (.k (.int .u8 (0)))⟩,
    ⟨some 42, (some (36, false)), .pick (.t 39) (.t 41) (.k (.bool false))⟩,
    ⟨some 43, none, .pick (.t 36) (.k (.bool true)) (.t 42)⟩] none [0, 3, 4, 5, 43]
def r_codec_source_integer_8 : ACode := .reg [
    ⟨some 44, none, .mov (.t 0)⟩,
    ⟨some 45, none, .call 114 [(.t 44), (.k (.int .i64 (1)))]⟩] none []
def r_codec_source_integer_9 : ACode := .reg [
    ⟨some 46, none, .mov (.t 3)⟩,
    ⟨some 47, none, .mov (.t 5)⟩,
    ⟨some 48, none, .bin .and (.t 47) (.k (.int .u8 (127)))⟩,
    ⟨some 49, none, .conv .u64 (.t 48)⟩,
    ⟨some 50, none, .mov (.t 4)⟩,
    ⟨some 51, none, .conv .u64 (.t 50)⟩,
    ⟨some 52, none, .bin .mul (.k (.int .u64 (7))) (.t 51)⟩,
    ⟨some 53, none, .bin .shl (.t 49) (.t 52)⟩,
    ⟨some 54, none, .bin .or (.t 46) (.t 53)⟩,
    ⟨some 3, none, .mov (.t 54)⟩] none [0, 3, 4, 5]
def r_codec_source_integer_10 : ACode := .reg [
    ⟨some 55, none, .mov (.t 5)⟩,
    ⟨some 56, none, .bin .lss (.t 55) (.k (.int .u8 (128)))⟩] none [0, 3, 4, 56]
def r_codec_source_integer_11 : ACode := .reg [
    ⟨some 57, none, .mov (.t 0)⟩,
    ⟨some 58, none, .mov (.t 0)⟩,
    ⟨some 59, none, .nilck (.t 58)⟩,
    ⟨some 60, none, .fld 0 (.t 59)⟩,
    ⟨some 61, none, .load none (.t 60)⟩,
    ⟨some 62, none, .mov (.t 4)⟩,
    ⟨some 63, none, .bin .add (.t 62) (.k (.int .i64 (1)))⟩,
    ⟨some 64, none, .mov (.t 0)⟩,
    ⟨some 65, none, .nilck (.t 64)⟩,
    ⟨some 66, none, .fld 0 (.t 65)⟩,
    ⟨some 67, none, .load none (.t 66)⟩,
    ⟨some 68, none, .len (.t 67)⟩,
    ⟨some 69, none, .mov (.t 0)⟩,
    ⟨some 70, none, .nilck (.t 69)⟩,
    ⟨some 71, none, .fld 0 (.t 70)⟩,
    ⟨some 72, none, .load none (.t 71)⟩,
    ⟨some 73, none, .len (.t 72)⟩,
    ⟨some 74, none, .sl 1 (.t 61) (some (.t 63)) (some (.t 68)) (some (.t 73))⟩,
    ⟨some 75, none, .nilck (.t 57)⟩,
    ⟨some 76, none, .fld 0 (.t 75)⟩,
    ⟨none, none, .store 1 (.t 76) (.t 74)⟩] (some [0, 0, 2, 6, 14, 0, 32, 0, 128, 384, 896, 1920, 0, 4096, 12288, 28672, 61440, 131070, 262143, 524287, 1048575]) [3]
def r_codec_source_integer_12 : ACode := .reg [
    ⟨some 77, none, .mov (.t 3)⟩,
    ⟨some 78, none, .bin .shr (.t 77) (.k (.int .u64 (1)))⟩,
    ⟨some 79, none, .conv .i64 (.t 78)⟩,
    ⟨some 6, none, .mov (.t 79)⟩] none [3, 6]
def r_codec_source_integer_13 : ACode := .reg [
    ⟨some 80, none, .mov (.t 3)⟩,
    ⟨some 81, none, .bin .and (.t 80) (.k (.int .u64 (1)))⟩,
    ⟨some 82, none, .bin .eql (.t 81) (.k (.int .u64 (1)))⟩] none [6, 82]
def r_codec_source_integer_14 : ACode := .reg [
    ⟨some 83, none, .mov (.t 6)⟩,
    ⟨some 84, none, .un .xor (.t 83)⟩,
    ⟨some 6, none, .mov (.t 84)⟩] none [6]
def r_codec_source_integer_15 : ACode := .reg [
    ⟨some 85, none, .mov (.t 6)⟩,
    ⟨some 2, none, .mov (.t 85)⟩] none [2]
def r_codec_source_integer_16 : ACode := .reg [
    ⟨some 12, none, .mov (.t 4)⟩,
    ⟨some 13, none, .bin .add (.t 12) (.k (.int .i64 (1)))⟩,
    ⟨some 4, none, .mov (.t 13)⟩] none [0, 3, 4]
def r_codec_source_integer_17 : ACode := .reg [
    ⟨some 2, none, .mov (.k (.int .i64 (0)))⟩] none [2]
def c_codec_source_integer : ACode :=
  (.seq r_codec_source_integer_0
  (.seq r_codec_source_integer_1
   (.seq (.seq r_codec_source_integer_2
     (.block 0 (.loop (.seq (.seq r_codec_source_integer_3
         (.cond (.t 11)
          .skip
          (.exit 0)))
        (.seq (.block 1 (.seq (.seq r_codec_source_integer_4
            (.cond (.t 20)
             (.seq r_codec_source_integer_5
              (.exit 0))
             .skip))
           (.seq r_codec_source_integer_6
            (.seq (.seq r_codec_source_integer_7
              (.cond (.t 43)
               (.seq r_codec_source_integer_8
                (.exit 0))
               .skip))
             (.seq r_codec_source_integer_9
              (.seq r_codec_source_integer_10
               (.cond (.t 56)
                (.seq r_codec_source_integer_11
                 (.seq r_codec_source_integer_12
                  (.seq (.seq r_codec_source_integer_13
                    (.cond (.t 82)
                     r_codec_source_integer_14
                     .skip))
                   (.seq r_codec_source_integer_15
                    .ret))))
                .skip)))))))
         r_codec_source_integer_16)))))
    (.seq r_codec_source_integer_17
     .ret))))
theorem fits_codec_source_integer : Fits Try.prog 89 86 c_codec_source_integer [.t 2] := ⟨⟨Try.f89, _, _, Try.func89, rfl, rfl, rfl, by decide, by kernel_rfl, by kernel_rfl⟩, Try.checked.mixed⟩
/- (*erasure/codec.source).rest -/
def r_codec_source_rest_0 : ACode := .reg [
    ⟨some 2, none, .mov (.k (.slice none 0 0))⟩] none [0]
def r_codec_source_rest_1 : ACode := .reg [
    ⟨some 3, none, .mov (.t 0)⟩,
    ⟨some 4, none, .nilck (.t 3)⟩,
    ⟨some 5, none, .fld 0 (.t 4)⟩,
    ⟨some 6, none, .load none (.t 5)⟩,
    ⟨some 7, none, .app 5 1 1 (.k (.slice none 0 0)) (.t 6)⟩,
    ⟨some 2, none, .mov (.t 7)⟩] none [2]
def c_codec_source_rest : ACode :=
  (.seq r_codec_source_rest_0
  (.seq r_codec_source_rest_1
   .ret))
theorem fits_codec_source_rest : Fits Try.prog 90 8 c_codec_source_rest [.t 2] := ⟨⟨Try.f90, _, _, Try.func90, rfl, rfl, rfl, by decide, by kernel_rfl, by kernel_rfl⟩, Try.checked.mixed⟩
/- erasure/codec.putText -/
def r_codec_putText_0 : ACode := .reg [
    ⟨some 4, none, .mov (.k (.slice none 0 0))⟩] none [0, 1]
def r_codec_putText_1 : ACode := .reg [
    ⟨some 5, none, .mov (.t 0)⟩,
    ⟨some 6, none, .mov (.t 1)⟩,
    ⟨some 7, none, .lens (.t 6)⟩,
    ⟨some 8, none, .call 87 [(.t 5), (.t 7)]⟩,
    ⟨some 9, none, .mov (.t 1)⟩,
    ⟨some 10, none, .apps 5 (.t 8) (.t 9)⟩,
    ⟨some 4, none, .mov (.t 10)⟩] none [4]
def c_codec_putText : ACode :=
  (.seq r_codec_putText_0
  (.seq r_codec_putText_1
   .ret))
theorem fits_codec_putText : Fits Try.prog 92 11 c_codec_putText [.t 4] := ⟨⟨Try.f92, _, _, Try.func92, rfl, rfl, rfl, by decide, by kernel_rfl, by kernel_rfl⟩, Try.checked.mixed⟩
/- (*erasure/codec.source).text -/
def r_codec_source_text_0 : ACode := .reg [
    ⟨some 4, none, .mov (.k (.string { data := #[] }))⟩] none [0, 1]
def r_codec_source_text_1 : ACode := .reg [
    ⟨some 5, none, .mov (.t 0)⟩,
    ⟨some 6, none, .mov (.t 0)⟩,
    ⟨some 7, none, .mov (.t 1)⟩,
    ⟨some 8, none, .call 108 [(.t 6), (.t 7)]⟩,
    ⟨some 9, none, .call 130 [(.t 5), (.t 8)]⟩,
    ⟨some 10, none, .tostr (.t 9)⟩,
    ⟨some 4, none, .mov (.t 10)⟩] none [4]
def c_codec_source_text : ACode :=
  (.seq r_codec_source_text_0
  (.seq r_codec_source_text_1
   .ret))
theorem fits_codec_source_text : Fits Try.prog 93 11 c_codec_source_text [.t 4] := ⟨⟨Try.f93, _, _, Try.func93, rfl, rfl, rfl, by decide, by kernel_rfl, by kernel_rfl⟩, Try.checked.mixed⟩
/- erasure/codec.putSources -/
def r_codec_putSources_0 : ACode := .reg [
    ⟨some 4, none, .mov (.k (.slice none 0 0))⟩] none [0, 1]
def r_codec_putSources_1 : ACode := .reg [
    ⟨some 6, none, .mov (.t 0)⟩,
    ⟨some 7, none, .mov (.t 1)⟩,
    ⟨some 8, none, .len (.t 7)⟩,
    ⟨some 9, none, .call 87 [(.t 6), (.t 8)]⟩,
    ⟨some 0, none, .mov (.t 9)⟩] none [0, 1]
def r_codec_putSources_2 : ACode := .reg [
    ⟨some 5, none, .mov (.k (.int .i64 (0)))⟩] none [0, 1, 5]
def r_codec_putSources_3 : ACode := .reg [
    ⟨some 10, none, .mov (.t 5)⟩,
    ⟨some 11, none, .mov (.t 1)⟩,
    ⟨some 12, none, .len (.t 11)⟩,
    ⟨some 13, none, .bin .lss (.t 10) (.t 12)⟩] none [0, 1, 5, 13]
def r_codec_putSources_4 : ACode := .reg [
    ⟨some 16, none, .mov (.t 0)⟩,
    ⟨some 17, none, .mov (.t 1)⟩,
    ⟨some 18, none, .mov (.t 5)⟩,
    ⟨some 19, none, .idxa 2 (.t 17) (.t 18)⟩,
    ⟨some 20, none, .fld 0 (.t 19)⟩,
    ⟨some 21, none, .load none (.t 20)⟩,
    ⟨some 22, none, .mov (.t 1)⟩,
    ⟨some 23, none, .mov (.t 5)⟩,
    ⟨some 24, none, .idxa 2 (.t 22) (.t 23)⟩,
    ⟨some 25, none, .fld 1 (.t 24)⟩,
    ⟨some 26, none, .load none (.t 25)⟩,
    ⟨some 27, none, .lit 3 1 2 [.int .i64 0] [(0, (.t 21)), (1, (.t 26))] false⟩,
    ⟨some 28, none, .call 110 [(.t 16), (.t 27)]⟩,
    ⟨some 0, none, .mov (.t 28)⟩] (some [0, 0, 0, 6, 14, 30, 0, 0, 192, 448, 960, 2046, 4095, 8191]) [0, 1, 5]
def r_codec_putSources_5 : ACode := .reg [
    ⟨some 14, none, .mov (.t 5)⟩,
    ⟨some 15, none, .bin .add (.t 14) (.k (.int .i64 (1)))⟩,
    ⟨some 5, none, .mov (.t 15)⟩] none [0, 1, 5]
def r_codec_putSources_6 : ACode := .reg [
    ⟨some 29, none, .mov (.t 0)⟩,
    ⟨some 4, none, .mov (.t 29)⟩] none [4]
def c_codec_putSources : ACode :=
  (.seq r_codec_putSources_0
  (.seq r_codec_putSources_1
   (.seq (.seq r_codec_putSources_2
     (.block 0 (.loop (.seq (.seq r_codec_putSources_3
         (.cond (.t 13)
          .skip
          (.exit 0)))
        (.seq (.block 1 r_codec_putSources_4)
         r_codec_putSources_5)))))
    (.seq r_codec_putSources_6
     .ret))))
theorem fits_codec_putSources : Fits Try.prog 94 30 c_codec_putSources [.t 4] := ⟨⟨Try.f94, _, _, Try.func94, rfl, rfl, rfl, by decide, by kernel_rfl, by kernel_rfl⟩, Try.checked.mixed⟩
/- erasure/codec.putVersions -/
def r_codec_putVersions_0 : ACode := .reg [
    ⟨some 4, none, .mov (.k (.slice none 0 0))⟩] none [0, 1]
def r_codec_putVersions_1 : ACode := .reg [
    ⟨some 6, none, .mov (.t 0)⟩,
    ⟨some 7, none, .mov (.t 1)⟩,
    ⟨some 8, none, .len (.t 7)⟩,
    ⟨some 9, none, .call 87 [(.t 6), (.t 8)]⟩,
    ⟨some 0, none, .mov (.t 9)⟩] none [0, 1]
def r_codec_putVersions_2 : ACode := .reg [
    ⟨some 5, none, .mov (.k (.int .i64 (0)))⟩] none [0, 1, 5]
def r_codec_putVersions_3 : ACode := .reg [
    ⟨some 10, none, .mov (.t 5)⟩,
    ⟨some 11, none, .mov (.t 1)⟩,
    ⟨some 12, none, .len (.t 11)⟩,
    ⟨some 13, none, .bin .lss (.t 10) (.t 12)⟩] none [0, 1, 5, 13]
def r_codec_putVersions_4 : ACode := .reg [
    ⟨some 16, none, .mov (.t 0)⟩,
    ⟨some 17, none, .mov (.t 1)⟩,
    ⟨some 18, none, .mov (.t 5)⟩,
    ⟨some 19, none, .idxa 3 (.t 17) (.t 18)⟩,
    ⟨some 20, none, .fld 0 (.t 19)⟩,
    ⟨some 21, none, .load none (.t 20)⟩,
    ⟨some 22, none, .mov (.t 1)⟩,
    ⟨some 23, none, .mov (.t 5)⟩,
    ⟨some 24, none, .idxa 3 (.t 22) (.t 23)⟩,
    ⟨some 25, none, .fld 2 (.t 24)⟩,
    ⟨some 26, none, .load none (.t 25)⟩,
    ⟨some 27, none, .mov (.t 1)⟩,
    ⟨some 28, none, .mov (.t 5)⟩,
    ⟨some 29, none, .idxa 3 (.t 27) (.t 28)⟩,
    ⟨some 30, none, .fld 1 (.t 29)⟩,
    ⟨some 31, none, .load none (.t 30)⟩,
    ⟨some 32, none, .lit 3 1 3 [.int .i64 0] [(0, (.t 21)), (1, (.t 26)), (2, (.t 31))] false⟩,
    ⟨some 33, none, .call 110 [(.t 16), (.t 32)]⟩,
    ⟨some 0, none, .mov (.t 33)⟩] (some [0, 0, 0, 6, 14, 30, 0, 0, 192, 448, 960, 0, 0, 6144, 14336, 30720, 65534, 131071, 262143]) [0, 1, 5]
def r_codec_putVersions_5 : ACode := .reg [
    ⟨some 14, none, .mov (.t 5)⟩,
    ⟨some 15, none, .bin .add (.t 14) (.k (.int .i64 (1)))⟩,
    ⟨some 5, none, .mov (.t 15)⟩] none [0, 1, 5]
def r_codec_putVersions_6 : ACode := .reg [
    ⟨some 34, none, .mov (.t 0)⟩,
    ⟨some 4, none, .mov (.t 34)⟩] none [4]
def c_codec_putVersions : ACode :=
  (.seq r_codec_putVersions_0
  (.seq r_codec_putVersions_1
   (.seq (.seq r_codec_putVersions_2
     (.block 0 (.loop (.seq (.seq r_codec_putVersions_3
         (.cond (.t 13)
          .skip
          (.exit 0)))
        (.seq (.block 1 r_codec_putVersions_4)
         r_codec_putVersions_5)))))
    (.seq r_codec_putVersions_6
     .ret))))
theorem fits_codec_putVersions : Fits Try.prog 95 35 c_codec_putVersions [.t 4] := ⟨⟨Try.f95, _, _, Try.func95, rfl, rfl, rfl, by decide, by kernel_rfl, by kernel_rfl⟩, Try.checked.mixed⟩
/- (*erasure/codec.source).versions -/
def r_codec_source_versions_0 : ACode := .reg [
    ⟨some 2, none, .mov (.k (.slice none 0 0))⟩] none [0]
def r_codec_source_versions_1 : ACode := .reg [
    ⟨some 7, none, .mov (.t 0)⟩,
    ⟨some 8, none, .call 108 [(.t 7), (.k (.int .i64 (512)))]⟩,
    ⟨some 3, none, .mov (.t 8)⟩] none [0, 3]
def r_codec_source_versions_2 : ACode := .reg [
    ⟨some 4, none, .mov (.k (.slice none 0 0))⟩] none [0, 3, 4]
def r_codec_source_versions_3 : ACode := .reg [
    ⟨some 5, none, .mov (.k (.int .i64 (0)))⟩] none [0, 3, 4, 5]
def r_codec_source_versions_4 : ACode := .reg [
    ⟨some 9, none, .mov (.t 5)⟩,
    ⟨some 10, none, .mov (.t 3)⟩,
    ⟨some 11, none, .bin .lss (.t 9) (.t 10)⟩,
    ⟨some 12, none, .mov (.t 11)⟩,
    ⟨some 13, (some (12, true)), .mov (.t 0)⟩,
    ⟨some 14, (some (12, true)), .nilck (.t 13)⟩,
    ⟨some 15, (some (12, true)), .fld 1 (.t 14)⟩,
    ⟨some 16, (some (12, true)), .load none (.t 15)⟩,
    ⟨some 17, (some (12, true)), .bin .eql (.t 16) (.k (.int .i64 (0)))⟩,
    ⟨some 18, none, .pick (.t 12) (.t 17) (.k (.bool false))⟩] none [0, 3, 4, 5, 18]
def r_codec_source_versions_5 : ACode := .reg [
    ⟨some 21, none, .mov (.t 0)⟩,
    ⟨some 22, none, .call 111 [(.t 21)]⟩,
    ⟨some 23, none, .build [.int .i64 0, .int .i64 0, .int .i64 0] [(0, 1, (.t 22))]⟩,
    ⟨some 6, none, .alloc 161 [.int .i64 0, .int .i64 0, .int .i64 0]⟩,
    ⟨none, none, .store 3 (.t 6) (.t 23)⟩] none [0, 3, 4, 5, 6]
def r_codec_source_versions_6 : ACode := .reg [
    ⟨some 24, none, .mov (.t 0)⟩,
    ⟨some 25, none, .call 111 [(.t 24)]⟩,
    ⟨some 26, none, .fld 2 (.t 6)⟩,
    ⟨none, none, .store 1 (.t 26) (.t 25)⟩] none [0, 3, 4, 5, 6]
def r_codec_source_versions_7 : ACode := .reg [
    ⟨some 27, none, .mov (.t 0)⟩,
    ⟨some 28, none, .call 111 [(.t 27)]⟩,
    ⟨some 29, none, .fld 1 (.t 6)⟩,
    ⟨none, none, .store 1 (.t 29) (.t 28)⟩] none [0, 3, 4, 5, 6]
def r_codec_source_versions_8 : ACode := .reg [
    ⟨some 30, none, .mov (.t 4)⟩,
    ⟨some 31, none, .load (some 3) (.t 6)⟩,
    ⟨some 32, none, .lit 161 3 1 [.int .i64 0, .int .i64 0, .int .i64 0] [(0, (.t 31))] false⟩,
    ⟨some 33, none, .app 161 3 24 (.t 30) (.t 32)⟩,
    ⟨some 4, none, .mov (.t 33)⟩] none [0, 3, 4, 5]
def r_codec_source_versions_9 : ACode := .reg [
    ⟨some 19, none, .mov (.t 5)⟩,
    ⟨some 20, none, .bin .add (.t 19) (.k (.int .i64 (1)))⟩,
    ⟨some 5, none, .mov (.t 20)⟩] none [0, 3, 4, 5]
def r_codec_source_versions_10 : ACode := .reg [
    ⟨some 34, none, .mov (.t 4)⟩,
    ⟨some 2, none, .mov (.t 34)⟩] none [2]
def c_codec_source_versions : ACode :=
  (.seq r_codec_source_versions_0
  (.seq r_codec_source_versions_1
   (.seq r_codec_source_versions_2
    (.seq (.seq r_codec_source_versions_3
      (.block 0 (.loop (.seq (.seq r_codec_source_versions_4
          (.cond (.t 18)
           .skip
           (.exit 0)))
         (.seq (.block 1 (.seq r_codec_source_versions_5
            (.seq r_codec_source_versions_6
             (.seq r_codec_source_versions_7
              r_codec_source_versions_8))))
          r_codec_source_versions_9)))))
     (.seq r_codec_source_versions_10
      .ret)))))
theorem fits_codec_source_versions : Fits Try.prog 96 35 c_codec_source_versions [.t 2] := ⟨⟨Try.f96, _, _, Try.func96, rfl, rfl, rfl, by decide, by kernel_rfl, by kernel_rfl⟩, Try.checked.mixed⟩
/- (*erasure/codec.source).digest -/
def r_codec_source_digest_0 : ACode := .reg [
    ⟨some 2, none, .alloc 45 [.int .u8 0, .int .u8 0, .int .u8 0, .int .u8 0, .int .u8 0, .int .u8 0, .int .u8 0, .int .u8 0, .int .u8 0, .int .u8 0, .int .u8 0, .int .u8 0, .int .u8 0, .int .u8 0, .int .u8 0, .int .u8 0, .int .u8 0, .int .u8 0, .int .u8 0, .int .u8 0, .int .u8 0, .int .u8 0, .int .u8 0, .int .u8 0, .int .u8 0, .int .u8 0, .int .u8 0, .int .u8 0, .int .u8 0, .int .u8 0, .int .u8 0, .int .u8 0]⟩] none [0, 2]
def r_codec_source_digest_1 : ACode := .reg [
    ⟨some 3, none, .alloc 45 [.int .u8 0, .int .u8 0, .int .u8 0, .int .u8 0, .int .u8 0, .int .u8 0, .int .u8 0, .int .u8 0, .int .u8 0, .int .u8 0, .int .u8 0, .int .u8 0, .int .u8 0, .int .u8 0, .int .u8 0, .int .u8 0, .int .u8 0, .int .u8 0, .int .u8 0, .int .u8 0, .int .u8 0, .int .u8 0, .int .u8 0, .int .u8 0, .int .u8 0, .int .u8 0, .int .u8 0, .int .u8 0, .int .u8 0, .int .u8 0, .int .u8 0, .int .u8 0]⟩] none [0, 2, 3]
def r_codec_source_digest_2 : ACode := .reg [
    ⟨some 4, none, .slr 32 1 (.t 3) none none none⟩,
    ⟨some 5, none, .mov (.t 0)⟩,
    ⟨some 6, none, .call 130 [(.t 5), (.k (.int .i64 (32)))]⟩,
    ⟨some 7, none, .copy 1 (.t 4) (.t 6)⟩] (some [0, 0, 2, 7]) [2, 3]
def r_codec_source_digest_3 : ACode := .reg [
    ⟨some 8, none, .load (some 32) (.t 3)⟩,
    ⟨none, none, .store 32 (.t 2) (.t 8)⟩] none [2]
def c_codec_source_digest : ACode :=
  (.seq r_codec_source_digest_0
  (.seq r_codec_source_digest_1
   (.seq r_codec_source_digest_2
    (.seq r_codec_source_digest_3
     .ret))))
theorem fits_codec_source_digest : Fits Try.prog 97 9 c_codec_source_digest [.c 2 (some 32)] := ⟨⟨Try.f97, _, _, Try.func97, rfl, rfl, rfl, by decide, by kernel_rfl, by kernel_rfl⟩, Try.checked.mixed⟩
/- (*erasure/codec.source).sources -/
def r_codec_source_sources_0 : ACode := .reg [
    ⟨some 2, none, .mov (.k (.slice none 0 0))⟩] none [0]
def r_codec_source_sources_1 : ACode := .reg [
    ⟨some 7, none, .mov (.t 0)⟩,
    ⟨some 8, none, .call 108 [(.t 7), (.k (.int .i64 (512)))]⟩,
    ⟨some 3, none, .mov (.t 8)⟩] none [0, 3]
def r_codec_source_sources_2 : ACode := .reg [
    ⟨some 4, none, .mov (.k (.slice none 0 0))⟩] none [0, 3, 4]
def r_codec_source_sources_3 : ACode := .reg [
    ⟨some 5, none, .mov (.k (.int .i64 (0)))⟩] none [0, 3, 4, 5]
def r_codec_source_sources_4 : ACode := .reg [
    ⟨some 9, none, .mov (.t 5)⟩,
    ⟨some 10, none, .mov (.t 3)⟩,
    ⟨some 11, none, .bin .lss (.t 9) (.t 10)⟩,
    ⟨some 12, none, .mov (.t 11)⟩,
    ⟨some 13, (some (12, true)), .mov (.t 0)⟩,
    ⟨some 14, (some (12, true)), .nilck (.t 13)⟩,
    ⟨some 15, (some (12, true)), .fld 1 (.t 14)⟩,
    ⟨some 16, (some (12, true)), .load none (.t 15)⟩,
    ⟨some 17, (some (12, true)), .bin .eql (.t 16) (.k (.int .i64 (0)))⟩,
    ⟨some 18, none, .pick (.t 12) (.t 17) (.k (.bool false))⟩] none [0, 3, 4, 5, 18]
def r_codec_source_sources_5 : ACode := .reg [
    ⟨some 21, none, .mov (.t 0)⟩,
    ⟨some 22, none, .call 111 [(.t 21)]⟩,
    ⟨some 23, none, .build [.int .i64 0, .int .i64 0] [(0, 1, (.t 22))]⟩,
    ⟨some 6, none, .alloc 163 [.int .i64 0, .int .i64 0]⟩,
    ⟨none, none, .store 2 (.t 6) (.t 23)⟩] none [0, 3, 4, 5, 6]
def r_codec_source_sources_6 : ACode := .reg [
    ⟨some 24, none, .mov (.t 0)⟩,
    ⟨some 25, none, .call 111 [(.t 24)]⟩,
    ⟨some 26, none, .fld 1 (.t 6)⟩,
    ⟨none, none, .store 1 (.t 26) (.t 25)⟩] none [0, 3, 4, 5, 6]
def r_codec_source_sources_7 : ACode := .reg [
    ⟨some 27, none, .mov (.t 4)⟩,
    ⟨some 28, none, .load (some 2) (.t 6)⟩,
    ⟨some 29, none, .lit 163 2 1 [.int .i64 0, .int .i64 0] [(0, (.t 28))] false⟩,
    ⟨some 30, none, .app 163 2 16 (.t 27) (.t 29)⟩,
    ⟨some 4, none, .mov (.t 30)⟩] none [0, 3, 4, 5]
def r_codec_source_sources_8 : ACode := .reg [
    ⟨some 19, none, .mov (.t 5)⟩,
    ⟨some 20, none, .bin .add (.t 19) (.k (.int .i64 (1)))⟩,
    ⟨some 5, none, .mov (.t 20)⟩] none [0, 3, 4, 5]
def r_codec_source_sources_9 : ACode := .reg [
    ⟨some 31, none, .mov (.t 4)⟩,
    ⟨some 2, none, .mov (.t 31)⟩] none [2]
def c_codec_source_sources : ACode :=
  (.seq r_codec_source_sources_0
  (.seq r_codec_source_sources_1
   (.seq r_codec_source_sources_2
    (.seq (.seq r_codec_source_sources_3
      (.block 0 (.loop (.seq (.seq r_codec_source_sources_4
          (.cond (.t 18)
           .skip
           (.exit 0)))
         (.seq (.block 1 (.seq r_codec_source_sources_5
            (.seq r_codec_source_sources_6
             r_codec_source_sources_7)))
          r_codec_source_sources_8)))))
     (.seq r_codec_source_sources_9
      .ret)))))
theorem fits_codec_source_sources : Fits Try.prog 98 32 c_codec_source_sources [.t 2] := ⟨⟨Try.f98, _, _, Try.func98, rfl, rfl, rfl, by decide, by kernel_rfl, by kernel_rfl⟩, Try.checked.mixed⟩
/- erasure/codec.putRow -/
def r_codec_putRow_0 : ACode := .reg [
    ⟨some 4, none, .mov (.k (.slice none 0 0))⟩] none [0, 1]
def r_codec_putRow_1 : ACode := .reg [
    ⟨some 6, none, .mov (.t 0)⟩,
    ⟨some 7, none, .mov (.t 1)⟩,
    ⟨some 8, none, .len (.t 7)⟩,
    ⟨some 9, none, .call 87 [(.t 6), (.t 8)]⟩,
    ⟨some 0, none, .mov (.t 9)⟩] none [0, 1]
def r_codec_putRow_2 : ACode := .reg [
    ⟨some 5, none, .mov (.k (.int .i64 (0)))⟩] none [0, 1, 5]
def r_codec_putRow_3 : ACode := .reg [
    ⟨some 10, none, .mov (.t 5)⟩,
    ⟨some 11, none, .mov (.t 1)⟩,
    ⟨some 12, none, .len (.t 11)⟩,
    ⟨some 13, none, .bin .lss (.t 10) (.t 12)⟩] none [0, 1, 5, 13]
def r_codec_putRow_4 : ACode := .reg [
    ⟨some 16, none, .mov (.t 0)⟩,
    ⟨some 17, none, .mov (.t 1)⟩,
    ⟨some 18, none, .mov (.t 5)⟩,
    ⟨some 19, none, .idxa 3 (.t 17) (.t 18)⟩,
    ⟨some 20, none, .load (some 3) (.t 19)⟩,
    ⟨some 21, none, .call 104 [(.t 16), (.t 20)]⟩,
    ⟨some 0, none, .mov (.t 21)⟩] none [0, 1, 5]
def r_codec_putRow_5 : ACode := .reg [
    ⟨some 14, none, .mov (.t 5)⟩,
    ⟨some 15, none, .bin .add (.t 14) (.k (.int .i64 (1)))⟩,
    ⟨some 5, none, .mov (.t 15)⟩] none [0, 1, 5]
def r_codec_putRow_6 : ACode := .reg [
    ⟨some 22, none, .mov (.t 0)⟩,
    ⟨some 4, none, .mov (.t 22)⟩] none [4]
def c_codec_putRow : ACode :=
  (.seq r_codec_putRow_0
  (.seq r_codec_putRow_1
   (.seq (.seq r_codec_putRow_2
     (.block 0 (.loop (.seq (.seq r_codec_putRow_3
         (.cond (.t 13)
          .skip
          (.exit 0)))
        (.seq (.block 1 r_codec_putRow_4)
         r_codec_putRow_5)))))
    (.seq r_codec_putRow_6
     .ret))))
theorem fits_codec_putRow : Fits Try.prog 102 23 c_codec_putRow [.t 4] := ⟨⟨Try.f102, _, _, Try.func102, rfl, rfl, rfl, by decide, by kernel_rfl, by kernel_rfl⟩, Try.checked.mixed⟩
/- (*erasure/codec.source).row -/
def r_codec_source_row_0 : ACode := .reg [
    ⟨some 2, none, .mov (.k (.slice none 0 0))⟩] none [0]
def r_codec_source_row_1 : ACode := .reg [
    ⟨some 6, none, .mov (.t 0)⟩,
    ⟨some 7, none, .call 108 [(.t 6), (.k (.int .i64 (16)))]⟩,
    ⟨some 3, none, .mov (.t 7)⟩] none [0, 3]
def r_codec_source_row_2 : ACode := .reg [
    ⟨some 4, none, .mov (.k (.slice none 0 0))⟩] none [0, 3, 4]
def r_codec_source_row_3 : ACode := .reg [
    ⟨some 5, none, .mov (.k (.int .i64 (0)))⟩] none [0, 3, 4, 5]
def r_codec_source_row_4 : ACode := .reg [
    ⟨some 8, none, .mov (.t 5)⟩,
    ⟨some 9, none, .mov (.t 3)⟩,
    ⟨some 10, none, .bin .lss (.t 8) (.t 9)⟩,
    ⟨some 11, none, .mov (.t 10)⟩,
    ⟨some 12, (some (11, true)), .mov (.t 0)⟩,
    ⟨some 13, (some (11, true)), .nilck (.t 12)⟩,
    ⟨some 14, (some (11, true)), .fld 1 (.t 13)⟩,
    ⟨some 15, (some (11, true)), .load none (.t 14)⟩,
    ⟨some 16, (some (11, true)), .bin .eql (.t 15) (.k (.int .i64 (0)))⟩,
    ⟨some 17, none, .pick (.t 11) (.t 16) (.k (.bool false))⟩] none [0, 3, 4, 5, 17]
def r_codec_source_row_5 : ACode := .reg [
    ⟨some 20, none, .mov (.t 4)⟩,
    ⟨some 21, none, .mov (.t 0)⟩,
    ⟨some 22, none, .call 105 [(.t 21)]⟩,
    ⟨some 23, none, .lit 67 3 1 [.int .i64 0, .int .i64 0, .string ⟨#[]⟩] [(0, (.t 22))] false⟩,
    ⟨some 24, none, .app 67 3 32 (.t 20) (.t 23)⟩,
    ⟨some 4, none, .mov (.t 24)⟩] none [0, 3, 4, 5]
def r_codec_source_row_6 : ACode := .reg [
    ⟨some 18, none, .mov (.t 5)⟩,
    ⟨some 19, none, .bin .add (.t 18) (.k (.int .i64 (1)))⟩,
    ⟨some 5, none, .mov (.t 19)⟩] none [0, 3, 4, 5]
def r_codec_source_row_7 : ACode := .reg [
    ⟨some 25, none, .mov (.t 4)⟩,
    ⟨some 2, none, .mov (.t 25)⟩] none [2]
def c_codec_source_row : ACode :=
  (.seq r_codec_source_row_0
  (.seq r_codec_source_row_1
   (.seq r_codec_source_row_2
    (.seq (.seq r_codec_source_row_3
      (.block 0 (.loop (.seq (.seq r_codec_source_row_4
          (.cond (.t 17)
           .skip
           (.exit 0)))
         (.seq (.block 1 r_codec_source_row_5)
          r_codec_source_row_6)))))
     (.seq r_codec_source_row_7
      .ret)))))
theorem fits_codec_source_row : Fits Try.prog 103 26 c_codec_source_row [.t 2] := ⟨⟨Try.f103, _, _, Try.func103, rfl, rfl, rfl, by decide, by kernel_rfl, by kernel_rfl⟩, Try.checked.mixed⟩
/- erasure/codec.putValue -/
def r_codec_putValue_0 : ACode := .reg [
    ⟨some 3, none, .box 67 (.t 1)⟩,
    ⟨some 4, none, .mov (.k (.slice none 0 0))⟩] none [0, 3]
def r_codec_putValue_1 : ACode := .reg [
    ⟨some 5, none, .load (some 3) (.t 3)⟩,
    ⟨some 6, none, .call 131 [(.t 5)]⟩,
    ⟨none, none, .store 3 (.t 3) (.t 6)⟩] none [0, 3]
def r_codec_putValue_2 : ACode := .reg [
    ⟨some 7, none, .mov (.t 0)⟩,
    ⟨some 8, none, .fld 0 (.t 3)⟩,
    ⟨some 9, none, .load none (.t 8)⟩,
    ⟨some 10, none, .call 87 [(.t 7), (.t 9)]⟩,
    ⟨some 0, none, .mov (.t 10)⟩] none [0, 3]
def r_codec_putValue_3 : ACode := .reg [
    ⟨some 11, none, .fld 0 (.t 3)⟩,
    ⟨some 12, none, .load none (.t 11)⟩] none [0, 3, 12]
def r_codec_putValue_4 : ACode := .reg [
    ⟨some 14, none, .bin .eql (.t 12) (.k (.int .i64 (1)))⟩,
    ⟨some 13, none, .mov (.t 14)⟩] none [0, 3, 12, 13]
def r_codec_putValue_5 : ACode := .reg [
    ⟨some 15, none, .mov (.t 0)⟩,
    ⟨some 16, none, .fld 1 (.t 3)⟩,
    ⟨some 17, none, .load none (.t 16)⟩,
    ⟨some 18, none, .call 87 [(.t 15), (.t 17)]⟩,
    ⟨some 4, none, .mov (.t 18)⟩] none [4]
def r_codec_putValue_6 : ACode := .reg [
    ⟨some 20, none, .bin .eql (.t 12) (.k (.int .i64 (2)))⟩,
    ⟨some 19, none, .mov (.t 20)⟩] none [0, 3, 19]
def r_codec_putValue_7 : ACode := .reg [
    ⟨some 21, none, .mov (.t 0)⟩,
    ⟨some 22, none, .fld 2 (.t 3)⟩,
    ⟨some 23, none, .load none (.t 22)⟩,
    ⟨some 24, none, .call 92 [(.t 21), (.t 23)]⟩,
    ⟨some 4, none, .mov (.t 24)⟩] none [4]
def r_codec_putValue_8 : ACode := .reg [
    ⟨some 25, none, .mov (.t 0)⟩,
    ⟨some 4, none, .mov (.t 25)⟩] none [4]
def c_codec_putValue : ACode :=
  (.seq r_codec_putValue_0
  (.seq r_codec_putValue_1
   (.seq r_codec_putValue_2
    (.seq (.seq r_codec_putValue_3
      (.block 0 (.seq r_codec_putValue_4
        (.cond (.t 13)
         (.seq r_codec_putValue_5
          .ret)
         (.seq r_codec_putValue_6
          (.cond (.t 19)
           (.seq r_codec_putValue_7
            .ret)
           .skip))))))
     (.seq r_codec_putValue_8
      .ret)))))
theorem fits_codec_putValue : Fits Try.prog 104 26 c_codec_putValue [.t 4] := ⟨⟨Try.f104, _, _, Try.func104, rfl, rfl, rfl, by decide, by kernel_rfl, by kernel_rfl⟩, Try.checked.mixed⟩
/- (*erasure/codec.source).value -/
def r_codec_source_value_0 : ACode := .reg [
    ⟨some 2, none, .alloc 67 [.int .i64 0, .int .i64 0, .string ⟨#[]⟩]⟩] none [0, 2]
def r_codec_source_value_1 : ACode := .reg [
    ⟨some 4, none, .mov (.t 0)⟩,
    ⟨some 5, none, .call 108 [(.t 4), (.k (.int .i64 (2)))]⟩] none [0, 2, 5]
def r_codec_source_value_2 : ACode := .reg [
    ⟨some 7, none, .bin .eql (.t 5) (.k (.int .i64 (1)))⟩,
    ⟨some 6, none, .mov (.t 7)⟩] none [0, 2, 5, 6]
def r_codec_source_value_3 : ACode := .reg [
    ⟨some 8, none, .mov (.t 0)⟩,
    ⟨some 9, none, .call 89 [(.t 8)]⟩,
    ⟨some 3, none, .mov (.t 9)⟩] none [0, 2, 3]
def r_codec_source_value_4 : ACode := .reg [
    ⟨some 10, none, .mov (.t 3)⟩,
    ⟨some 11, none, .bin .lss (.t 10) (.k (.int .i64 (-4294967296)))⟩,
    ⟨some 12, none, .mov (.t 11)⟩,
    ⟨some 13, (some (12, false)), .mov (.t 3)⟩,
    ⟨some 14, (some (12, false)), .bin .gtr (.t 13) (.k (.int .i64 (4294967296)))⟩,
    ⟨some 15, none, .pick (.t 12) (.k (.bool true)) (.t 14)⟩] none [0, 2, 3, 15]
def r_codec_source_value_5 : ACode := .reg [
    ⟨some 16, none, .mov (.t 0)⟩,
    ⟨some 17, none, .call 114 [(.t 16), (.k (.int .i64 (1)))]⟩] none [2, 3]
def r_codec_source_value_6 : ACode := .reg [
    ⟨some 18, none, .mov (.t 3)⟩,
    ⟨some 19, none, .build [.int .i64 0, .int .i64 0, .string ⟨#[]⟩] [(0, 1, (.k (.int .i64 (1)))), (1, 1, (.t 18))]⟩,
    ⟨none, none, .store 3 (.t 2) (.t 19)⟩] none [2]
def r_codec_source_value_7 : ACode := .reg [
    ⟨some 21, none, .bin .eql (.t 5) (.k (.int .i64 (2)))⟩,
    ⟨some 20, none, .mov (.t 21)⟩] none [0, 2, 20]
def r_codec_source_value_8 : ACode := .reg [
    ⟨some 22, none, .mov (.t 0)⟩,
    ⟨some 23, none, .call 93 [(.t 22), (.k (.int .i64 (32)))]⟩,
    ⟨some 24, none, .build [.int .i64 0, .int .i64 0, .string ⟨#[]⟩] [(0, 1, (.k (.int .i64 (2)))), (2, 1, (.t 23))]⟩,
    ⟨none, none, .store 3 (.t 2) (.t 24)⟩] none [2]
def r_codec_source_value_9 : ACode := .reg [
    ⟨some 25, none, .build [.int .i64 0, .int .i64 0, .string ⟨#[]⟩] []⟩,
    ⟨none, none, .store 3 (.t 2) (.t 25)⟩] none [2]
def c_codec_source_value : ACode :=
  (.seq r_codec_source_value_0
  (.seq (.seq r_codec_source_value_1
    (.block 0 (.seq r_codec_source_value_2
      (.cond (.t 6)
       (.seq r_codec_source_value_3
        (.seq (.seq r_codec_source_value_4
          (.cond (.t 15)
           r_codec_source_value_5
           .skip))
         (.seq r_codec_source_value_6
          .ret)))
       (.seq r_codec_source_value_7
        (.cond (.t 20)
         (.seq r_codec_source_value_8
          .ret)
         .skip))))))
   (.seq r_codec_source_value_9
    .ret)))
theorem fits_codec_source_value : Fits Try.prog 105 26 c_codec_source_value [.c 2 (some 3)] := ⟨⟨Try.f105, _, _, Try.func105, rfl, rfl, rfl, by decide, by kernel_rfl, by kernel_rfl⟩, Try.checked.mixed⟩
/- (*erasure/codec.source).count -/
def r_codec_source_count_0 : ACode := .reg [
    ⟨some 4, none, .mov (.k (.int .i64 (0)))⟩] none [0, 1]
def r_codec_source_count_1 : ACode := .reg [
    ⟨some 6, none, .mov (.t 0)⟩,
    ⟨some 7, none, .call 89 [(.t 6)]⟩,
    ⟨some 5, none, .mov (.t 7)⟩] none [0, 1, 5]
def r_codec_source_count_2 : ACode := .reg [
    ⟨some 8, none, .mov (.t 5)⟩,
    ⟨some 9, none, .bin .lss (.t 8) (.k (.int .i64 (0)))⟩,
    ⟨some 10, none, .mov (.t 9)⟩,
    ⟨some 11, (some (10, false)), .mov (.t 5)⟩,
    ⟨some 12, (some (10, false)), .mov (.t 1)⟩,
    ⟨some 13, (some (10, false)), .bin .gtr (.t 11) (.t 12)⟩,
    ⟨some 14, none, .pick (.t 10) (.k (.bool true)) (.t 13)⟩] none [0, 5, 14]
def r_codec_source_count_3 : ACode := .reg [
    ⟨some 15, none, .mov (.t 0)⟩,
    ⟨some 16, none, .call 114 [(.t 15), (.k (.int .i64 (1)))]⟩] none [0, 5]
def r_codec_source_count_4 : ACode := .reg [
    ⟨some 17, none, .mov (.t 0)⟩,
    ⟨some 18, none, .nilck (.t 17)⟩,
    ⟨some 19, none, .fld 1 (.t 18)⟩,
    ⟨some 20, none, .load none (.t 19)⟩,
    ⟨some 21, none, .bin .neq (.t 20) (.k (.int .i64 (0)))⟩] none [5, 21]
def r_codec_source_count_5 : ACode := .reg [
    ⟨some 4, none, .mov (.k (.int .i64 (0)))⟩] none [4]
def r_codec_source_count_6 : ACode := .reg [
    ⟨some 22, none, .mov (.t 5)⟩,
    ⟨some 4, none, .mov (.t 22)⟩] none [4]
def c_codec_source_count : ACode :=
  (.seq r_codec_source_count_0
  (.seq r_codec_source_count_1
   (.seq (.seq r_codec_source_count_2
     (.cond (.t 14)
      r_codec_source_count_3
      .skip))
    (.seq (.seq r_codec_source_count_4
      (.cond (.t 21)
       (.seq r_codec_source_count_5
        .ret)
       .skip))
     (.seq r_codec_source_count_6
      .ret)))))
theorem fits_codec_source_count : Fits Try.prog 108 23 c_codec_source_count [.t 4] := ⟨⟨Try.f108, _, _, Try.func108, rfl, rfl, rfl, by decide, by kernel_rfl, by kernel_rfl⟩, Try.checked.mixed⟩
/- erasure/codec.putInts -/
def r_codec_putInts_0 : ACode := .reg [
    ⟨some 4, none, .mov (.k (.slice none 0 0))⟩] none [0, 1]
def r_codec_putInts_1 : ACode := .reg [
    ⟨some 5, none, .mov (.k (.int .i64 (0)))⟩] none [0, 1, 5]
def r_codec_putInts_2 : ACode := .reg [
    ⟨some 6, none, .mov (.t 5)⟩,
    ⟨some 7, none, .mov (.t 1)⟩,
    ⟨some 8, none, .len (.t 7)⟩,
    ⟨some 9, none, .bin .lss (.t 6) (.t 8)⟩] none [0, 1, 5, 9]
def r_codec_putInts_3 : ACode := .reg [
    ⟨some 12, none, .mov (.t 0)⟩,
    ⟨some 13, none, .mov (.t 1)⟩,
    ⟨some 14, none, .mov (.t 5)⟩,
    ⟨some 15, none, .idxa 1 (.t 13) (.t 14)⟩,
    ⟨some 16, none, .load none (.t 15)⟩,
    ⟨some 17, none, .call 87 [(.t 12), (.t 16)]⟩,
    ⟨some 0, none, .mov (.t 17)⟩] none [0, 1, 5]
def r_codec_putInts_4 : ACode := .reg [
    ⟨some 10, none, .mov (.t 5)⟩,
    ⟨some 11, none, .bin .add (.t 10) (.k (.int .i64 (1)))⟩,
    ⟨some 5, none, .mov (.t 11)⟩] none [0, 1, 5]
def r_codec_putInts_5 : ACode := .reg [
    ⟨some 18, none, .mov (.t 0)⟩,
    ⟨some 4, none, .mov (.t 18)⟩] none [4]
def c_codec_putInts : ACode :=
  (.seq r_codec_putInts_0
  (.seq (.seq r_codec_putInts_1
    (.block 0 (.loop (.seq (.seq r_codec_putInts_2
        (.cond (.t 9)
         .skip
         (.exit 0)))
       (.seq (.block 1 r_codec_putInts_3)
        r_codec_putInts_4)))))
   (.seq r_codec_putInts_5
    .ret)))
theorem fits_codec_putInts : Fits Try.prog 110 19 c_codec_putInts [.t 4] := ⟨⟨Try.f110, _, _, Try.func110, rfl, rfl, rfl, by decide, by kernel_rfl, by kernel_rfl⟩, Try.checked.mixed⟩
/- (*erasure/codec.source).number -/
def r_codec_source_number_0 : ACode := .reg [
    ⟨some 2, none, .mov (.k (.int .i64 (0)))⟩] none [0]
def r_codec_source_number_1 : ACode := .reg [
    ⟨some 3, none, .mov (.t 0)⟩,
    ⟨some 4, none, .call 89 [(.t 3)]⟩,
    ⟨some 2, none, .mov (.t 4)⟩] none [2]
def c_codec_source_number : ACode :=
  (.seq r_codec_source_number_0
  (.seq r_codec_source_number_1
   .ret))
theorem fits_codec_source_number : Fits Try.prog 111 5 c_codec_source_number [.t 2] := ⟨⟨Try.f111, _, _, Try.func111, rfl, rfl, rfl, by decide, by kernel_rfl, by kernel_rfl⟩, Try.checked.mixed⟩
/- (*erasure/codec.source).fail -/
def r_codec_source_fail_0 : ACode := .reg [
    ⟨some 4, none, .mov (.t 0)⟩,
    ⟨some 5, none, .nilck (.t 4)⟩,
    ⟨some 6, none, .fld 1 (.t 5)⟩,
    ⟨some 7, none, .load none (.t 6)⟩,
    ⟨some 8, none, .bin .eql (.t 7) (.k (.int .i64 (0)))⟩] none [0, 1, 8]
def r_codec_source_fail_1 : ACode := .reg [
    ⟨some 9, none, .mov (.t 0)⟩,
    ⟨some 10, none, .mov (.t 1)⟩,
    ⟨some 11, none, .nilck (.t 9)⟩,
    ⟨some 12, none, .fld 1 (.t 11)⟩,
    ⟨none, none, .store 1 (.t 12) (.t 10)⟩] none []
def c_codec_source_fail : ACode :=
  (.seq r_codec_source_fail_0
  (.cond (.t 8)
   r_codec_source_fail_1
   .skip))
theorem fits_codec_source_fail : Fits Try.prog 114 13 c_codec_source_fail [] := ⟨⟨Try.f114, _, _, Try.func114, rfl, rfl, rfl, by decide, by kernel_rfl, by kernel_rfl⟩, Try.checked.mixed⟩
/- (*erasure/codec.source).request -/
def r_codec_source_request_0 : ACode := .reg [
    ⟨some 2, none, .alloc 105 [.int .i64 0, .string ⟨#[]⟩, .int .i64 0, .int .i64 0, .string ⟨#[]⟩, .int .i64 0, .int .i64 0, .int .i64 0]⟩] none [0, 2]
def r_codec_source_request_1 : ACode := .reg [
    ⟨some 4, none, .mov (.t 0)⟩,
    ⟨some 5, none, .call 111 [(.t 4)]⟩,
    ⟨some 6, none, .build [.int .i64 0, .string ⟨#[]⟩, .int .i64 0, .int .i64 0, .string ⟨#[]⟩, .int .i64 0, .int .i64 0, .int .i64 0] [(0, 1, (.t 5))]⟩,
    ⟨some 3, none, .alloc 105 [.int .i64 0, .string ⟨#[]⟩, .int .i64 0, .int .i64 0, .string ⟨#[]⟩, .int .i64 0, .int .i64 0, .int .i64 0]⟩,
    ⟨none, none, .store 8 (.t 3) (.t 6)⟩] none [0, 2, 3]
def r_codec_source_request_2 : ACode := .reg [
    ⟨some 7, none, .mov (.t 0)⟩,
    ⟨some 8, none, .call 122 [(.t 7)]⟩,
    ⟨some 9, none, .fld 1 (.t 3)⟩,
    ⟨none, none, .store 4 (.t 9) (.t 8)⟩] none [0, 2, 3]
def r_codec_source_request_3 : ACode := .reg [
    ⟨some 10, none, .mov (.t 0)⟩,
    ⟨some 11, none, .call 111 [(.t 10)]⟩,
    ⟨some 12, none, .fld 5 (.t 3)⟩,
    ⟨none, none, .store 1 (.t 12) (.t 11)⟩] none [0, 2, 3]
def r_codec_source_request_4 : ACode := .reg [
    ⟨some 13, none, .mov (.t 0)⟩,
    ⟨some 14, none, .call 111 [(.t 13)]⟩,
    ⟨some 15, none, .fld 6 (.t 3)⟩,
    ⟨none, none, .store 1 (.t 15) (.t 14)⟩] none [0, 2, 3]
def r_codec_source_request_5 : ACode := .reg [
    ⟨some 16, none, .mov (.t 0)⟩,
    ⟨some 17, none, .call 111 [(.t 16)]⟩,
    ⟨some 18, none, .fld 7 (.t 3)⟩,
    ⟨none, none, .store 1 (.t 18) (.t 17)⟩] none [2, 3]
def r_codec_source_request_6 : ACode := .reg [
    ⟨some 19, none, .load (some 8) (.t 3)⟩,
    ⟨none, none, .store 8 (.t 2) (.t 19)⟩] none [2]
def c_codec_source_request : ACode :=
  (.seq r_codec_source_request_0
  (.seq r_codec_source_request_1
   (.seq r_codec_source_request_2
    (.seq r_codec_source_request_3
     (.seq r_codec_source_request_4
      (.seq r_codec_source_request_5
       (.seq r_codec_source_request_6
        .ret)))))))
theorem fits_codec_source_request : Fits Try.prog 115 20 c_codec_source_request [.c 2 (some 8)] := ⟨⟨Try.f115, _, _, Try.func115, rfl, rfl, rfl, by decide, by kernel_rfl, by kernel_rfl⟩, Try.checked.mixed⟩
/- (*erasure/codec.source).link -/
def r_codec_source_link_0 : ACode := .reg [
    ⟨some 2, none, .alloc 107 [.string ⟨#[]⟩, .int .i64 0, .int .i64 0, .string ⟨#[]⟩, .string ⟨#[]⟩, .int .i64 0, .int .i64 0, .string ⟨#[]⟩, .int .i64 0, .bool false]⟩] none [0, 2]
def r_codec_source_link_1 : ACode := .reg [
    ⟨some 4, none, .mov (.t 0)⟩,
    ⟨some 5, none, .call 122 [(.t 4)]⟩,
    ⟨some 6, none, .build [.string ⟨#[]⟩, .int .i64 0, .int .i64 0, .string ⟨#[]⟩, .string ⟨#[]⟩, .int .i64 0, .int .i64 0, .string ⟨#[]⟩, .int .i64 0, .bool false] [(0, 4, (.t 5))]⟩,
    ⟨some 3, none, .alloc 107 [.string ⟨#[]⟩, .int .i64 0, .int .i64 0, .string ⟨#[]⟩, .string ⟨#[]⟩, .int .i64 0, .int .i64 0, .string ⟨#[]⟩, .int .i64 0, .bool false]⟩,
    ⟨none, none, .store 10 (.t 3) (.t 6)⟩] none [0, 2, 3]
def r_codec_source_link_2 : ACode := .reg [
    ⟨some 7, none, .mov (.t 0)⟩,
    ⟨some 8, none, .call 122 [(.t 7)]⟩,
    ⟨some 9, none, .fld 4 (.t 3)⟩,
    ⟨none, none, .store 4 (.t 9) (.t 8)⟩] none [0, 2, 3]
def r_codec_source_link_3 : ACode := .reg [
    ⟨some 10, none, .mov (.t 0)⟩,
    ⟨some 11, none, .call 111 [(.t 10)]⟩,
    ⟨some 12, none, .fld 8 (.t 3)⟩,
    ⟨none, none, .store 1 (.t 12) (.t 11)⟩] none [0, 2, 3]
def r_codec_source_link_4 : ACode := .reg [
    ⟨some 13, none, .mov (.t 0)⟩,
    ⟨some 14, none, .call 108 [(.t 13), (.k (.int .i64 (1)))]⟩,
    ⟨some 15, none, .bin .eql (.t 14) (.k (.int .i64 (1)))⟩,
    ⟨some 16, none, .fld 9 (.t 3)⟩,
    ⟨none, none, .store 1 (.t 16) (.t 15)⟩] none [2, 3]
def r_codec_source_link_5 : ACode := .reg [
    ⟨some 17, none, .load (some 10) (.t 3)⟩,
    ⟨none, none, .store 10 (.t 2) (.t 17)⟩] none [2]
def c_codec_source_link : ACode :=
  (.seq r_codec_source_link_0
  (.seq r_codec_source_link_1
   (.seq r_codec_source_link_2
    (.seq r_codec_source_link_3
     (.seq r_codec_source_link_4
      (.seq r_codec_source_link_5
       .ret))))))
theorem fits_codec_source_link : Fits Try.prog 116 18 c_codec_source_link [.c 2 (some 10)] := ⟨⟨Try.f116, _, _, Try.func116, rfl, rfl, rfl, by decide, by kernel_rfl, by kernel_rfl⟩, Try.checked.mixed⟩
/- (*erasure/codec.source).hold -/
def r_codec_source_hold_0 : ACode := .reg [
    ⟨some 2, none, .alloc 109 [.int .i64 0, .int .i64 0, .string ⟨#[]⟩, .int .i64 0, .int .i64 0, .string ⟨#[]⟩, .int .i64 0, .int .i64 0, .int .i64 0]⟩] none [0, 2]
def r_codec_source_hold_1 : ACode := .reg [
    ⟨some 4, none, .mov (.t 0)⟩,
    ⟨some 5, none, .call 111 [(.t 4)]⟩,
    ⟨some 6, none, .build [.int .i64 0, .int .i64 0, .string ⟨#[]⟩, .int .i64 0, .int .i64 0, .string ⟨#[]⟩, .int .i64 0, .int .i64 0, .int .i64 0] [(0, 1, (.t 5))]⟩,
    ⟨some 3, none, .alloc 109 [.int .i64 0, .int .i64 0, .string ⟨#[]⟩, .int .i64 0, .int .i64 0, .string ⟨#[]⟩, .int .i64 0, .int .i64 0, .int .i64 0]⟩,
    ⟨none, none, .store 9 (.t 3) (.t 6)⟩] none [0, 2, 3]
def r_codec_source_hold_2 : ACode := .reg [
    ⟨some 7, none, .mov (.t 0)⟩,
    ⟨some 8, none, .call 111 [(.t 7)]⟩,
    ⟨some 9, none, .fld 1 (.t 3)⟩,
    ⟨none, none, .store 1 (.t 9) (.t 8)⟩] none [0, 2, 3]
def r_codec_source_hold_3 : ACode := .reg [
    ⟨some 10, none, .mov (.t 0)⟩,
    ⟨some 11, none, .call 122 [(.t 10)]⟩,
    ⟨some 12, none, .fld 2 (.t 3)⟩,
    ⟨none, none, .store 4 (.t 12) (.t 11)⟩] none [0, 2, 3]
def r_codec_source_hold_4 : ACode := .reg [
    ⟨some 13, none, .mov (.t 0)⟩,
    ⟨some 14, none, .call 111 [(.t 13)]⟩,
    ⟨some 15, none, .fld 6 (.t 3)⟩,
    ⟨none, none, .store 1 (.t 15) (.t 14)⟩] none [0, 2, 3]
def r_codec_source_hold_5 : ACode := .reg [
    ⟨some 16, none, .mov (.t 0)⟩,
    ⟨some 17, none, .call 111 [(.t 16)]⟩,
    ⟨some 18, none, .fld 7 (.t 3)⟩,
    ⟨none, none, .store 1 (.t 18) (.t 17)⟩] none [0, 2, 3]
def r_codec_source_hold_6 : ACode := .reg [
    ⟨some 19, none, .mov (.t 0)⟩,
    ⟨some 20, none, .call 111 [(.t 19)]⟩,
    ⟨some 21, none, .fld 8 (.t 3)⟩,
    ⟨none, none, .store 1 (.t 21) (.t 20)⟩] none [2, 3]
def r_codec_source_hold_7 : ACode := .reg [
    ⟨some 22, none, .load (some 9) (.t 3)⟩,
    ⟨none, none, .store 9 (.t 2) (.t 22)⟩] none [2]
def c_codec_source_hold : ACode :=
  (.seq r_codec_source_hold_0
  (.seq r_codec_source_hold_1
   (.seq r_codec_source_hold_2
    (.seq r_codec_source_hold_3
     (.seq r_codec_source_hold_4
      (.seq r_codec_source_hold_5
       (.seq r_codec_source_hold_6
        (.seq r_codec_source_hold_7
         .ret))))))))
theorem fits_codec_source_hold : Fits Try.prog 117 23 c_codec_source_hold [.c 2 (some 9)] := ⟨⟨Try.f117, _, _, Try.func117, rfl, rfl, rfl, by decide, by kernel_rfl, by kernel_rfl⟩, Try.checked.mixed⟩
/- erasure/codec.putRequest -/
def r_codec_putRequest_0 : ACode := .reg [
    ⟨some 3, none, .box 105 (.t 1)⟩,
    ⟨some 4, none, .mov (.k (.slice none 0 0))⟩] none [0, 3]
def r_codec_putRequest_1 : ACode := .reg [
    ⟨some 5, none, .mov (.t 0)⟩,
    ⟨some 6, none, .fld 0 (.t 3)⟩,
    ⟨some 7, none, .load none (.t 6)⟩,
    ⟨some 8, none, .lit 3 1 1 [.int .i64 0] [(0, (.t 7))] false⟩,
    ⟨some 9, none, .call 110 [(.t 5), (.t 8)]⟩,
    ⟨some 10, none, .fld 1 (.t 3)⟩,
    ⟨some 11, none, .load (some 4) (.t 10)⟩,
    ⟨some 12, none, .call 123 [(.t 9), (.t 11)]⟩,
    ⟨some 13, none, .fld 5 (.t 3)⟩,
    ⟨some 14, none, .load none (.t 13)⟩,
    ⟨some 15, none, .fld 6 (.t 3)⟩,
    ⟨some 16, none, .load none (.t 15)⟩,
    ⟨some 17, none, .fld 7 (.t 3)⟩,
    ⟨some 18, none, .load none (.t 17)⟩,
    ⟨some 19, none, .lit 3 1 3 [.int .i64 0] [(0, (.t 14)), (1, (.t 16)), (2, (.t 18))] false⟩,
    ⟨some 20, none, .call 110 [(.t 12), (.t 19)]⟩,
    ⟨some 4, none, .mov (.t 20)⟩] (some [0, 0, 2, 6, 15, 0, 32, 127, 0, 256, 0, 1024, 0, 4096, 16128, 32767, 65535]) [4]
def c_codec_putRequest : ACode :=
  (.seq r_codec_putRequest_0
  (.seq r_codec_putRequest_1
   .ret))
theorem fits_codec_putRequest : Fits Try.prog 118 21 c_codec_putRequest [.t 4] := ⟨⟨Try.f118, _, _, Try.func118, rfl, rfl, rfl, by decide, by kernel_rfl, by kernel_rfl⟩, Try.checked.mixed⟩
/- erasure/codec.putLink -/
def r_codec_putLink_0 : ACode := .reg [
    ⟨some 3, none, .box 107 (.t 1)⟩,
    ⟨some 4, none, .mov (.k (.slice none 0 0))⟩] none [0, 3]
def r_codec_putLink_1 : ACode := .reg [
    ⟨some 5, none, .mov (.t 0)⟩,
    ⟨some 6, none, .fld 0 (.t 3)⟩,
    ⟨some 7, none, .load (some 4) (.t 6)⟩,
    ⟨some 8, none, .call 123 [(.t 5), (.t 7)]⟩,
    ⟨some 9, none, .fld 4 (.t 3)⟩,
    ⟨some 10, none, .load (some 4) (.t 9)⟩,
    ⟨some 11, none, .call 123 [(.t 8), (.t 10)]⟩,
    ⟨some 12, none, .fld 8 (.t 3)⟩,
    ⟨some 13, none, .load none (.t 12)⟩,
    ⟨some 14, none, .lit 3 1 1 [.int .i64 0] [(0, (.t 13))] false⟩,
    ⟨some 15, none, .call 110 [(.t 11), (.t 14)]⟩,
    ⟨some 0, none, .mov (.t 15)⟩] (some [0, 0, 2, 7, 0, 16, 63, 0, 128, 384, 1023, 2047]) [0, 3]
def r_codec_putLink_2 : ACode := .reg [
    ⟨some 16, none, .fld 9 (.t 3)⟩,
    ⟨some 17, none, .load none (.t 16)⟩] none [0, 17]
def r_codec_putLink_3 : ACode := .reg [
    ⟨some 18, none, .mov (.t 0)⟩,
    ⟨some 19, none, .call 87 [(.t 18), (.k (.int .i64 (1)))]⟩,
    ⟨some 4, none, .mov (.t 19)⟩] none [4]
def r_codec_putLink_4 : ACode := .reg [
    ⟨some 20, none, .mov (.t 0)⟩,
    ⟨some 21, none, .call 87 [(.t 20), (.k (.int .i64 (0)))]⟩,
    ⟨some 4, none, .mov (.t 21)⟩] none [4]
def c_codec_putLink : ACode :=
  (.seq r_codec_putLink_0
  (.seq r_codec_putLink_1
   (.seq (.seq r_codec_putLink_2
     (.cond (.t 17)
      (.seq r_codec_putLink_3
       .ret)
      .skip))
    (.seq r_codec_putLink_4
     .ret))))
theorem fits_codec_putLink : Fits Try.prog 119 22 c_codec_putLink [.t 4] := ⟨⟨Try.f119, _, _, Try.func119, rfl, rfl, rfl, by decide, by kernel_rfl, by kernel_rfl⟩, Try.checked.mixed⟩
/- erasure/codec.putHold -/
def r_codec_putHold_0 : ACode := .reg [
    ⟨some 3, none, .box 109 (.t 1)⟩,
    ⟨some 4, none, .mov (.k (.slice none 0 0))⟩] none [0, 3]
def r_codec_putHold_1 : ACode := .reg [
    ⟨some 5, none, .mov (.t 0)⟩,
    ⟨some 6, none, .fld 0 (.t 3)⟩,
    ⟨some 7, none, .load none (.t 6)⟩,
    ⟨some 8, none, .fld 1 (.t 3)⟩,
    ⟨some 9, none, .load none (.t 8)⟩,
    ⟨some 10, none, .lit 3 1 2 [.int .i64 0] [(0, (.t 7)), (1, (.t 9))] false⟩,
    ⟨some 11, none, .call 110 [(.t 5), (.t 10)]⟩,
    ⟨some 12, none, .fld 2 (.t 3)⟩,
    ⟨some 13, none, .load (some 4) (.t 12)⟩,
    ⟨some 14, none, .call 123 [(.t 11), (.t 13)]⟩,
    ⟨some 15, none, .fld 6 (.t 3)⟩,
    ⟨some 16, none, .load none (.t 15)⟩,
    ⟨some 17, none, .fld 7 (.t 3)⟩,
    ⟨some 18, none, .load none (.t 17)⟩,
    ⟨some 19, none, .fld 8 (.t 3)⟩,
    ⟨some 20, none, .load none (.t 19)⟩,
    ⟨some 21, none, .lit 3 1 3 [.int .i64 0] [(0, (.t 16)), (1, (.t 18)), (2, (.t 20))] false⟩,
    ⟨some 22, none, .call 110 [(.t 14), (.t 21)]⟩,
    ⟨some 4, none, .mov (.t 22)⟩] (some [0, 0, 2, 0, 8, 30, 63, 0, 128, 511, 0, 1024, 0, 4096, 0, 16384, 64512, 131071, 262143]) [4]
def c_codec_putHold : ACode :=
  (.seq r_codec_putHold_0
  (.seq r_codec_putHold_1
   .ret))
theorem fits_codec_putHold : Fits Try.prog 120 23 c_codec_putHold [.t 4] := ⟨⟨Try.f120, _, _, Try.func120, rfl, rfl, rfl, by decide, by kernel_rfl, by kernel_rfl⟩, Try.checked.mixed⟩
/- (*erasure/codec.source).identifier -/
def r_codec_source_identifier_0 : ACode := .reg [
    ⟨some 2, none, .alloc 103 [.string ⟨#[]⟩, .int .i64 0, .int .i64 0, .string ⟨#[]⟩]⟩] none [0, 2]
def r_codec_source_identifier_1 : ACode := .reg [
    ⟨some 4, none, .mov (.t 0)⟩,
    ⟨some 5, none, .call 93 [(.t 4), (.k (.int .i64 (16)))]⟩,
    ⟨some 3, none, .mov (.t 5)⟩] none [0, 2, 3]
def r_codec_source_identifier_2 : ACode := .reg [
    ⟨some 6, none, .mov (.t 3)⟩,
    ⟨some 7, none, .mov (.t 0)⟩,
    ⟨some 8, none, .call 105 [(.t 7)]⟩,
    ⟨some 9, none, .build [.string ⟨#[]⟩, .int .i64 0, .int .i64 0, .string ⟨#[]⟩] [(0, 1, (.t 6)), (1, 3, (.t 8))]⟩,
    ⟨none, none, .store 4 (.t 2) (.t 9)⟩] none [2]
def c_codec_source_identifier : ACode :=
  (.seq r_codec_source_identifier_0
  (.seq r_codec_source_identifier_1
   (.seq r_codec_source_identifier_2
    .ret)))
theorem fits_codec_source_identifier : Fits Try.prog 122 10 c_codec_source_identifier [.c 2 (some 4)] := ⟨⟨Try.f122, _, _, Try.func122, rfl, rfl, rfl, by decide, by kernel_rfl, by kernel_rfl⟩, Try.checked.mixed⟩
/- erasure/codec.putIdentifier -/
def r_codec_putIdentifier_0 : ACode := .reg [
    ⟨some 3, none, .box 103 (.t 1)⟩,
    ⟨some 4, none, .mov (.k (.slice none 0 0))⟩] none [0, 3]
def r_codec_putIdentifier_1 : ACode := .reg [
    ⟨some 5, none, .mov (.t 0)⟩,
    ⟨some 6, none, .fld 0 (.t 3)⟩,
    ⟨some 7, none, .load none (.t 6)⟩,
    ⟨some 8, none, .call 92 [(.t 5), (.t 7)]⟩,
    ⟨some 9, none, .fld 1 (.t 3)⟩,
    ⟨some 10, none, .load (some 3) (.t 9)⟩,
    ⟨some 11, none, .call 104 [(.t 8), (.t 10)]⟩,
    ⟨some 4, none, .mov (.t 11)⟩] (some [0, 0, 2, 7, 0, 16, 63, 127]) [4]
def c_codec_putIdentifier : ACode :=
  (.seq r_codec_putIdentifier_0
  (.seq r_codec_putIdentifier_1
   .ret))
theorem fits_codec_putIdentifier : Fits Try.prog 123 12 c_codec_putIdentifier [.t 4] := ⟨⟨Try.f123, _, _, Try.func123, rfl, rfl, rfl, by decide, by kernel_rfl, by kernel_rfl⟩, Try.checked.mixed⟩
/- (*erasure/codec.source).take -/
def r_codec_source_take_0 : ACode := .reg [
    ⟨some 4, none, .mov (.k (.slice none 0 0))⟩] none [0, 1]
def r_codec_source_take_1 : ACode := .reg [
    ⟨some 6, none, .mov (.t 0)⟩,
    ⟨some 7, none, .nilck (.t 6)⟩,
    ⟨some 8, none, .fld 1 (.t 7)⟩,
    ⟨some 9, none, .load none (.t 8)⟩,
    ⟨some 10, none, .bin .eql (.t 9) (.k (.int .i64 (0)))⟩,
    ⟨some 11, none, .mov (.t 10)⟩,
    ⟨some 12, (some (11, true)), .mov (.t 1)⟩,
    ⟨some 13, (some (11, true)), .mov (.t 0)⟩,
    ⟨some 14, (some (11, true)), .nilck (.t 13)⟩,
    ⟨some 15, (some (11, true)), .fld 0 (.t 14)⟩,
    ⟨some 16, (some (11, true)), .load none (.t 15)⟩,
    ⟨some 17, (some (11, true)), .len (.t 16)⟩,
    ⟨some 18, (some (11, true)), .bin .gtr (.t 12) (.t 17)⟩,
    ⟨some 19, none, .pick (.t 11) (.t 18) (.k (.bool false))⟩] none [0, 1, 19]
def r_codec_source_take_2 : ACode := .reg [
    ⟨some 20, none, .mov (.t 0)⟩,
    ⟨some 21, none, .call 114 [(.t 20), (.k (.int .i64 (100)))]⟩] none [0, 1]
def r_codec_source_take_3 : ACode := .reg [
    ⟨some 22, none, .mov (.t 0)⟩,
    ⟨some 23, none, .nilck (.t 22)⟩,
    ⟨some 24, none, .fld 1 (.t 23)⟩,
    ⟨some 25, none, .load none (.t 24)⟩,
    ⟨some 26, none, .bin .neq (.t 25) (.k (.int .i64 (0)))⟩] none [0, 1, 26]
def r_codec_source_take_4 : ACode := .reg [
    ⟨some 4, none, .mov (.k (.slice none 0 0))⟩] none [4]
def r_codec_source_take_5 : ACode := .reg [
    ⟨some 27, none, .mov (.t 0)⟩,
    ⟨some 28, none, .nilck (.t 27)⟩,
    ⟨some 29, none, .fld 0 (.t 28)⟩,
    ⟨some 30, none, .load none (.t 29)⟩,
    ⟨some 31, none, .mov (.t 1)⟩,
    ⟨some 32, none, .mov (.t 1)⟩,
    ⟨some 33, none, .sl 1 (.t 30) none (some (.t 31)) (some (.t 32))⟩,
    ⟨some 5, none, .mov (.t 33)⟩] none [0, 1, 5]
def r_codec_source_take_6 : ACode := .reg [
    ⟨some 34, none, .mov (.t 0)⟩,
    ⟨some 35, none, .mov (.t 0)⟩,
    ⟨some 36, none, .nilck (.t 35)⟩,
    ⟨some 37, none, .fld 0 (.t 36)⟩,
    ⟨some 38, none, .load none (.t 37)⟩,
    ⟨some 39, none, .mov (.t 1)⟩,
    ⟨some 40, none, .mov (.t 0)⟩,
    ⟨some 41, none, .nilck (.t 40)⟩,
    ⟨some 42, none, .fld 0 (.t 41)⟩,
    ⟨some 43, none, .load none (.t 42)⟩,
    ⟨some 44, none, .len (.t 43)⟩,
    ⟨some 45, none, .mov (.t 0)⟩,
    ⟨some 46, none, .nilck (.t 45)⟩,
    ⟨some 47, none, .fld 0 (.t 46)⟩,
    ⟨some 48, none, .load none (.t 47)⟩,
    ⟨some 49, none, .len (.t 48)⟩,
    ⟨some 50, none, .sl 1 (.t 38) (some (.t 39)) (some (.t 44)) (some (.t 49))⟩,
    ⟨some 51, none, .nilck (.t 34)⟩,
    ⟨some 52, none, .fld 0 (.t 51)⟩,
    ⟨none, none, .store 1 (.t 52) (.t 50)⟩] (some [0, 0, 2, 6, 14, 0, 0, 64, 192, 448, 960, 0, 2048, 6144, 14336, 30720, 65534, 131071, 262143, 524287]) [5]
def r_codec_source_take_7 : ACode := .reg [
    ⟨some 53, none, .mov (.t 5)⟩,
    ⟨some 4, none, .mov (.t 53)⟩] none [4]
def c_codec_source_take : ACode :=
  (.seq r_codec_source_take_0
  (.seq (.seq r_codec_source_take_1
    (.cond (.t 19)
     r_codec_source_take_2
     .skip))
   (.seq (.seq r_codec_source_take_3
     (.cond (.t 26)
      (.seq r_codec_source_take_4
       .ret)
      .skip))
    (.seq r_codec_source_take_5
     (.seq r_codec_source_take_6
      (.seq r_codec_source_take_7
       .ret))))))
theorem fits_codec_source_take : Fits Try.prog 130 54 c_codec_source_take [.t 4] := ⟨⟨Try.f130, _, _, Try.func130, rfl, rfl, rfl, by decide, by kernel_rfl, by kernel_rfl⟩, Try.checked.mixed⟩
end Go.Proofs.Ytjieenfbfckafaa.Am

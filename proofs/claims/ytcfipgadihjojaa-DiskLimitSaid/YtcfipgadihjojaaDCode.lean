/- The code of disk's functions in the abstract machine's form, and that it fits. -/
import Derived.Test.YtcfipgadihjojaaAmWalk
import Derived.Test.YtcfipgadihjojaaProg
import Derived.Test.YtcfipgadihjojaaChecked
namespace Go.Proofs.Ytcfipgadihjojaa.Am
open Go
set_option linter.unusedVariables false
set_option linter.unusedSimpArgs false
set_option maxRecDepth 100000
/- erasure/disk.Valid -/
def r20_0 : ACode := .reg [
    ⟨some 1, none, .box 26 (.t 0)⟩,
    ⟨some 2, none, .mov (.k (.bool false))⟩] none [1]
def r20_1 : ACode := .reg [
    ⟨some 3, none, .fld 2 (.t 1)⟩,
    ⟨some 4, none, .load none (.t 3)⟩,
    ⟨some 5, none, .bin .geq (.t 4) (.k (.int .i64 (-1)))⟩,
    ⟨some 6, none, .mov (.t 5)⟩,
    ⟨some 7, (some (6, true)), .fld 0 (.t 1)⟩,
    ⟨some 8, (some (6, true)), .load none (.t 7)⟩,
    ⟨some 9, (some (6, true)), .len (.t 8)⟩,
    ⟨some 10, (some (6, true)), .bin .leq (.t 9) (.k (.int .i64 (131072)))⟩,
    ⟨some 11, none, .pick (.t 6) (.t 10) (.k (.bool false))⟩,
    ⟨some 12, none, .mov (.t 11)⟩,
    ⟨some 13, (some (12, true)), .fld 1 (.t 1)⟩,
    ⟨some 14, (some (12, true)), .load none (.t 13)⟩,
    ⟨some 15, (some (12, true)), .len (.t 14)⟩,
    ⟨some 16, (some (12, true)), .fld 0 (.t 1)⟩,
    ⟨some 17, (some (12, true)), .load none (.t 16)⟩,
    ⟨some 18, (some (12, true)), .len (.t 17)⟩,
    ⟨some 19, (some (12, true)), .bin .sub (.k (.int .i64 (131072))) (.t 18)⟩,
    ⟨some 20, (some (12, true)), .bin .leq (.t 15) (.t 19)⟩,
    ⟨some 21, none, .pick (.t 12) (.t 20) (.k (.bool false))⟩,
    ⟨some 2, none, .mov (.t 21)⟩] none [2]
def c20 : ACode :=
  (.seq r20_0
  (.seq r20_1
   .ret))
theorem fits20 : Fits Try.prog 20 22 c20 [.t 2] := ⟨⟨Try.f20, _, _, Try.func20, rfl, rfl, rfl, by decide, by kernel_rfl, by kernel_rfl⟩, Try.checked.mixed⟩

/- erasure/disk.joined -/
def r26_0 : ACode := .reg [
    ⟨some 4, none, .mov (.k (.slice none 0 0))⟩] none [0, 1]
def r26_1 : ACode := .reg [
    ⟨some 7, none, .mov (.t 0)⟩,
    ⟨some 8, none, .len (.t 7)⟩,
    ⟨some 9, none, .mov (.t 1)⟩,
    ⟨some 10, none, .len (.t 9)⟩,
    ⟨some 11, none, .bin .add (.t 8) (.t 10)⟩,
    ⟨some 12, none, .make 5 1 1 [.int .u8 0] (.t 11) (.t 11) true⟩,
    ⟨some 5, none, .mov (.t 12)⟩] none [0, 1, 5]
def r26_2 : ACode := .reg [
    ⟨some 13, none, .mov (.t 5)⟩,
    ⟨some 14, none, .mov (.t 0)⟩,
    ⟨some 15, none, .copy 1 (.t 13) (.t 14)⟩,
    ⟨some 6, none, .mov (.t 15)⟩] none [1, 5, 6]
def r26_3 : ACode := .reg [
    ⟨some 16, none, .mov (.t 5)⟩,
    ⟨some 17, none, .mov (.t 6)⟩,
    ⟨some 18, none, .sl 1 (.t 16) (some (.t 17)) none none⟩,
    ⟨some 19, none, .mov (.t 1)⟩,
    ⟨some 20, none, .copy 1 (.t 18) (.t 19)⟩] none [5]
def r26_4 : ACode := .reg [
    ⟨some 21, none, .mov (.t 5)⟩,
    ⟨some 4, none, .mov (.t 21)⟩] none [4]
def c26 : ACode :=
  (.seq r26_0
  (.seq r26_1
   (.seq r26_2
    (.seq r26_3
     (.seq r26_4
      .ret)))))
theorem fits26 : Fits Try.prog 26 22 c26 [.t 4] := ⟨⟨Try.f26, _, _, Try.func26, rfl, rfl, rfl, by decide, by kernel_rfl, by kernel_rfl⟩, Try.checked.mixed⟩

/- erasure/disk.copied -/
def r25_0 : ACode := .reg [
    ⟨some 1, none, .box 26 (.t 0)⟩,
    ⟨some 2, none, .alloc 26 [.slice none 0 0, .slice none 0 0, .int .i64 0, .bool false]⟩] none [1, 2]
def r25_1 : ACode := .reg [
    ⟨some 3, none, .fld 0 (.t 1)⟩,
    ⟨some 4, none, .load none (.t 3)⟩,
    ⟨some 5, none, .call 26 [(.t 4), (.k (.slice none 0 0))]⟩,
    ⟨some 6, none, .fld 0 (.t 1)⟩,
    ⟨none, none, .store 1 (.t 6) (.t 5)⟩] none [1, 2]
def r25_2 : ACode := .reg [
    ⟨some 7, none, .fld 1 (.t 1)⟩,
    ⟨some 8, none, .load none (.t 7)⟩,
    ⟨some 9, none, .call 26 [(.t 8), (.k (.slice none 0 0))]⟩,
    ⟨some 10, none, .fld 1 (.t 1)⟩,
    ⟨none, none, .store 1 (.t 10) (.t 9)⟩] none [1, 2]
def r25_3 : ACode := .reg [
    ⟨some 11, none, .load (some 4) (.t 1)⟩,
    ⟨none, none, .store 4 (.t 2) (.t 11)⟩] none [2]
def c25 : ACode :=
  (.seq r25_0
  (.seq r25_1
   (.seq r25_2
    (.seq r25_3
     .ret))))
theorem fits25 : Fits Try.prog 25 12 c25 [.c 2 (some 4)] := ⟨⟨Try.f25, _, _, Try.func25, rfl, rfl, rfl, by decide, by kernel_rfl, by kernel_rfl⟩, Try.checked.mixed⟩

/- erasure/disk.Append -/
def r10_0 : ACode := .reg [
    ⟨some 2, none, .box 26 (.t 0)⟩,
    ⟨some 4, none, .alloc 26 [.slice none 0 0, .slice none 0 0, .int .i64 0, .bool false]⟩,
    ⟨some 5, none, .mov (.k (.int .i64 (0)))⟩] none [1, 2, 4]
def r10_1 : ACode := .reg [
    ⟨some 7, none, .load (some 4) (.t 2)⟩,
    ⟨some 8, none, .call 20 [(.t 7)]⟩,
    ⟨some 9, none, .un .not (.t 8)⟩] none [1, 2, 4, 9]
def r10_2 : ACode := .reg [
    ⟨some 10, none, .build [.slice none 0 0, .slice none 0 0, .int .i64 0, .bool false] []⟩,
    ⟨none, none, .store 4 (.t 4) (.t 10)⟩,
    ⟨some 5, none, .mov (.k (.int .i64 (1)))⟩] none [4, 5]
def r10_3 : ACode := .reg [
    ⟨some 11, none, .load (some 4) (.t 2)⟩,
    ⟨some 12, none, .call 25 [(.t 11)]⟩,
    ⟨some 6, none, .alloc 26 [.slice none 0 0, .slice none 0 0, .int .i64 0, .bool false]⟩,
    ⟨none, none, .store 4 (.t 6) (.t 12)⟩] none [1, 2, 4, 6]
def r10_4 : ACode := .reg [
    ⟨some 13, none, .fld 3 (.t 2)⟩,
    ⟨some 14, none, .load none (.t 13)⟩] none [1, 2, 4, 6, 14]
def r10_5 : ACode := .reg [
    ⟨some 15, none, .load (some 4) (.t 6)⟩,
    ⟨none, none, .store 4 (.t 4) (.t 15)⟩,
    ⟨some 5, none, .mov (.k (.int .i64 (104)))⟩] none [4, 5]
def r10_6 : ACode := .reg [
    ⟨some 16, none, .mov (.t 1)⟩,
    ⟨some 17, none, .len (.t 16)⟩,
    ⟨some 18, none, .fld 0 (.t 2)⟩,
    ⟨some 19, none, .load none (.t 18)⟩,
    ⟨some 20, none, .len (.t 19)⟩,
    ⟨some 21, none, .bin .sub (.k (.int .i64 (131072))) (.t 20)⟩,
    ⟨some 22, none, .fld 1 (.t 2)⟩,
    ⟨some 23, none, .load none (.t 22)⟩,
    ⟨some 24, none, .len (.t 23)⟩,
    ⟨some 25, none, .bin .sub (.t 21) (.t 24)⟩,
    ⟨some 26, none, .bin .gtr (.t 17) (.t 25)⟩] none [1, 2, 4, 6, 26]
def r10_7 : ACode := .reg [
    ⟨some 27, none, .build [.slice none 0 0, .slice none 0 0, .int .i64 0, .bool false] []⟩,
    ⟨none, none, .store 4 (.t 4) (.t 27)⟩,
    ⟨some 5, none, .mov (.k (.int .i64 (8)))⟩] none [4, 5]
def r10_8 : ACode := .reg [
    ⟨some 28, none, .fld 2 (.t 2)⟩,
    ⟨some 29, none, .load none (.t 28)⟩,
    ⟨some 30, none, .bin .geq (.t 29) (.k (.int .i64 (0)))⟩,
    ⟨some 31, none, .mov (.t 30)⟩,
    ⟨some 32, (some (31, true)), .fld 2 (.t 2)⟩,
    ⟨some 33, (some (31, true)), .load none (.t 32)⟩,
    ⟨some 34, (some (31, true)), .mov (.t 1)⟩,
    ⟨some 35, (some (31, true)), .len (.t 34)⟩,
    ⟨some 36, (some (31, true)), .bin .lss (.t 33) (.t 35)⟩,
    ⟨some 37, none, .pick (.t 31) (.t 36) (.k (.bool false))⟩] none [1, 2, 4, 6, 37]
def r10_9 : ACode := .reg [
    ⟨some 38, none, .fld 1 (.t 2)⟩,
    ⟨some 39, none, .load none (.t 38)⟩,
    ⟨some 40, none, .mov (.t 1)⟩,
    ⟨some 41, none, .fld 2 (.t 2)⟩,
    ⟨some 42, none, .load none (.t 41)⟩,
    ⟨some 43, none, .sl 1 (.t 40) none (some (.t 42)) none⟩,
    ⟨some 44, none, .call 26 [(.t 39), (.t 43)]⟩,
    ⟨some 45, none, .fld 1 (.t 6)⟩,
    ⟨none, none, .store 1 (.t 45) (.t 44)⟩] (some [0, 1, 0, 0, 8, 28, 63, 127, 255]) [4, 6]
def r10_10 : ACode := .reg [
    ⟨some 46, none, .fld 2 (.t 6)⟩,
    ⟨none, none, .store 1 (.t 46) (.k (.int .i64 (0)))⟩] none [4, 6]
def r10_11 : ACode := .reg [
    ⟨some 47, none, .fld 3 (.t 6)⟩,
    ⟨none, none, .store 1 (.t 47) (.k (.bool true))⟩] none [4, 6]
def r10_12 : ACode := .reg [
    ⟨some 48, none, .load (some 4) (.t 6)⟩,
    ⟨none, none, .store 4 (.t 4) (.t 48)⟩,
    ⟨some 5, none, .mov (.k (.int .i64 (104)))⟩] none [4, 5]
def r10_13 : ACode := .reg [
    ⟨some 49, none, .fld 1 (.t 2)⟩,
    ⟨some 50, none, .load none (.t 49)⟩,
    ⟨some 51, none, .mov (.t 1)⟩,
    ⟨some 52, none, .call 26 [(.t 50), (.t 51)]⟩,
    ⟨some 53, none, .fld 1 (.t 6)⟩,
    ⟨none, none, .store 1 (.t 53) (.t 52)⟩] none [1, 2, 4, 6]
def r10_14 : ACode := .reg [
    ⟨some 54, none, .fld 2 (.t 2)⟩,
    ⟨some 55, none, .load none (.t 54)⟩,
    ⟨some 56, none, .bin .geq (.t 55) (.k (.int .i64 (0)))⟩] none [1, 2, 4, 6, 56]
def r10_15 : ACode := .reg [
    ⟨some 57, none, .fld 2 (.t 2)⟩,
    ⟨some 58, none, .load none (.t 57)⟩,
    ⟨some 59, none, .mov (.t 1)⟩,
    ⟨some 60, none, .len (.t 59)⟩,
    ⟨some 61, none, .bin .sub (.t 58) (.t 60)⟩,
    ⟨some 62, none, .fld 2 (.t 6)⟩,
    ⟨none, none, .store 1 (.t 62) (.t 61)⟩] none [4, 6]
def r10_16 : ACode := .reg [
    ⟨some 63, none, .load (some 4) (.t 6)⟩,
    ⟨none, none, .store 4 (.t 4) (.t 63)⟩,
    ⟨some 5, none, .mov (.k (.int .i64 (0)))⟩] none [4, 5]
def c10 : ACode :=
  (.seq r10_0
  (.seq (.seq r10_1
    (.cond (.t 9)
     (.seq r10_2
      .ret)
     .skip))
   (.seq r10_3
    (.seq (.seq r10_4
      (.cond (.t 14)
       (.seq r10_5
        .ret)
       .skip))
     (.seq (.seq r10_6
       (.cond (.t 26)
        (.seq r10_7
         .ret)
        .skip))
      (.seq (.seq r10_8
        (.cond (.t 37)
         (.seq r10_9
          (.seq r10_10
           (.seq r10_11
            (.seq r10_12
             .ret))))
         .skip))
       (.seq r10_13
        (.seq (.seq r10_14
          (.cond (.t 56)
           r10_15
           .skip))
         (.seq r10_16
          .ret)))))))))
theorem fits10 : Fits Try.prog 10 64 c10 [.c 4 (some 4), .t 5] := ⟨⟨Try.f10, _, _, Try.func10, rfl, rfl, rfl, by decide, by kernel_rfl, by kernel_rfl⟩, Try.checked.mixed⟩

/- erasure/disk.New -/
def r11_0 : ACode := .reg [
    ⟨some 0, none, .alloc 26 [.slice none 0 0, .slice none 0 0, .int .i64 0, .bool false]⟩] none [0]
def r11_1 : ACode := .reg [
    ⟨some 1, none, .build [.slice none 0 0, .slice none 0 0, .int .i64 0, .bool false] [(2, 1, (.k (.int .i64 (-1))))]⟩,
    ⟨none, none, .store 4 (.t 0) (.t 1)⟩] none [0]
def c11 : ACode :=
  (.seq r11_0
  (.seq r11_1
   .ret))
theorem fits11 : Fits Try.prog 11 2 c11 [.c 0 (some 4)] := ⟨⟨Try.f11, _, _, Try.func11, rfl, rfl, rfl, by decide, by kernel_rfl, by kernel_rfl⟩, Try.checked.mixed⟩

/- erasure/disk.Fail -/
def r13_0 : ACode := .reg [
    ⟨some 2, none, .box 26 (.t 0)⟩,
    ⟨some 4, none, .alloc 26 [.slice none 0 0, .slice none 0 0, .int .i64 0, .bool false]⟩,
    ⟨some 5, none, .mov (.k (.int .i64 (0)))⟩] none [1, 2, 4]
def r13_1 : ACode := .reg [
    ⟨some 7, none, .load (some 4) (.t 2)⟩,
    ⟨some 8, none, .call 20 [(.t 7)]⟩,
    ⟨some 9, none, .un .not (.t 8)⟩,
    ⟨some 10, none, .mov (.t 9)⟩,
    ⟨some 11, (some (10, false)), .mov (.t 1)⟩,
    ⟨some 12, (some (10, false)), .bin .lss (.t 11) (.k (.int .i64 (-1)))⟩,
    ⟨some 13, none, .pick (.t 10) (.k (.bool true)) (.t 12)⟩] none [1, 2, 4, 13]
def r13_2 : ACode := .reg [
    ⟨some 14, none, .build [.slice none 0 0, .slice none 0 0, .int .i64 0, .bool false] []⟩,
    ⟨none, none, .store 4 (.t 4) (.t 14)⟩,
    ⟨some 5, none, .mov (.k (.int .i64 (1)))⟩] none [4, 5]
def r13_3 : ACode := .reg [
    ⟨some 15, none, .load (some 4) (.t 2)⟩,
    ⟨some 16, none, .call 25 [(.t 15)]⟩,
    ⟨some 6, none, .alloc 26 [.slice none 0 0, .slice none 0 0, .int .i64 0, .bool false]⟩,
    ⟨none, none, .store 4 (.t 6) (.t 16)⟩] none [1, 4, 6]
def r13_4 : ACode := .reg [
    ⟨some 17, none, .mov (.t 1)⟩,
    ⟨some 18, none, .fld 2 (.t 6)⟩,
    ⟨none, none, .store 1 (.t 18) (.t 17)⟩] none [4, 6]
def r13_5 : ACode := .reg [
    ⟨some 19, none, .load (some 4) (.t 6)⟩,
    ⟨none, none, .store 4 (.t 4) (.t 19)⟩,
    ⟨some 5, none, .mov (.k (.int .i64 (0)))⟩] none [4, 5]
def c13 : ACode :=
  (.seq r13_0
  (.seq (.seq r13_1
    (.cond (.t 13)
     (.seq r13_2
      .ret)
     .skip))
   (.seq r13_3
    (.seq r13_4
     (.seq r13_5
      .ret)))))
theorem fits13 : Fits Try.prog 13 20 c13 [.c 4 (some 4), .t 5] := ⟨⟨Try.f13, _, _, Try.func13, rfl, rfl, rfl, by decide, by kernel_rfl, by kernel_rfl⟩, Try.checked.mixed⟩

/- erasure/disk.Read -/
def r14_0 : ACode := .reg [
    ⟨some 1, none, .box 26 (.t 0)⟩,
    ⟨some 2, none, .mov (.k (.slice none 0 0))⟩,
    ⟨some 3, none, .mov (.k (.int .i64 (0)))⟩] none [1]
def r14_1 : ACode := .reg [
    ⟨some 4, none, .load (some 4) (.t 1)⟩,
    ⟨some 5, none, .call 20 [(.t 4)]⟩,
    ⟨some 6, none, .un .not (.t 5)⟩] none [1, 6]
def r14_2 : ACode := .reg [
    ⟨some 2, none, .mov (.k (.slice none 0 0))⟩,
    ⟨some 3, none, .mov (.k (.int .i64 (1)))⟩] none [2, 3]
def r14_3 : ACode := .reg [
    ⟨some 7, none, .fld 3 (.t 1)⟩,
    ⟨some 8, none, .load none (.t 7)⟩] none [1, 8]
def r14_4 : ACode := .reg [
    ⟨some 2, none, .mov (.k (.slice none 0 0))⟩,
    ⟨some 3, none, .mov (.k (.int .i64 (104)))⟩] none [2, 3]
def r14_5 : ACode := .reg [
    ⟨some 9, none, .fld 0 (.t 1)⟩,
    ⟨some 10, none, .load none (.t 9)⟩,
    ⟨some 11, none, .fld 1 (.t 1)⟩,
    ⟨some 12, none, .load none (.t 11)⟩,
    ⟨some 13, none, .call 26 [(.t 10), (.t 12)]⟩,
    ⟨some 2, none, .mov (.t 13)⟩,
    ⟨some 3, none, .mov (.k (.int .i64 (0)))⟩] none [2, 3]
def c14 : ACode :=
  (.seq r14_0
  (.seq (.seq r14_1
    (.cond (.t 6)
     (.seq r14_2
      .ret)
     .skip))
   (.seq (.seq r14_3
     (.cond (.t 8)
      (.seq r14_4
       .ret)
      .skip))
    (.seq r14_5
     .ret))))
theorem fits14 : Fits Try.prog 14 14 c14 [.t 2, .t 3] := ⟨⟨Try.f14, _, _, Try.func14, rfl, rfl, rfl, by decide, by kernel_rfl, by kernel_rfl⟩, Try.checked.mixed⟩

/- erasure/disk.Crash -/
def r22_0 : ACode := .reg [
    ⟨some 2, none, .box 26 (.t 0)⟩,
    ⟨some 4, none, .alloc 26 [.slice none 0 0, .slice none 0 0, .int .i64 0, .bool false]⟩,
    ⟨some 5, none, .mov (.k (.int .i64 (0)))⟩] none [1, 2, 4]
def r22_1 : ACode := .reg [
    ⟨some 6, none, .load (some 4) (.t 2)⟩,
    ⟨some 7, none, .call 20 [(.t 6)]⟩,
    ⟨some 8, none, .un .not (.t 7)⟩] none [1, 2, 4, 8]
def r22_2 : ACode := .reg [
    ⟨some 9, none, .build [.slice none 0 0, .slice none 0 0, .int .i64 0, .bool false] []⟩,
    ⟨none, none, .store 4 (.t 4) (.t 9)⟩,
    ⟨some 5, none, .mov (.k (.int .i64 (1)))⟩] none [4, 5]
def r22_3 : ACode := .reg [
    ⟨some 10, none, .mov (.t 1)⟩,
    ⟨some 11, none, .mm true (.t 10) (.k (.int .i64 (0)))⟩,
    ⟨some 12, none, .fld 1 (.t 2)⟩,
    ⟨some 13, none, .load none (.t 12)⟩,
    ⟨some 14, none, .len (.t 13)⟩,
    ⟨some 15, none, .mm false (.t 11) (.t 14)⟩,
    ⟨some 1, none, .mov (.t 15)⟩] none [1, 2, 4]
def r22_4 : ACode := .reg [
    ⟨some 16, none, .fld 0 (.t 2)⟩,
    ⟨some 17, none, .load none (.t 16)⟩,
    ⟨some 18, none, .fld 1 (.t 2)⟩,
    ⟨some 19, none, .load none (.t 18)⟩,
    ⟨some 20, none, .mov (.t 1)⟩,
    ⟨some 21, none, .sl 1 (.t 19) none (some (.t 20)) none⟩,
    ⟨some 22, none, .call 26 [(.t 17), (.t 21)]⟩,
    ⟨some 23, none, .build [.slice none 0 0, .slice none 0 0, .int .i64 0, .bool false] [(0, 1, (.t 22)), (2, 1, (.k (.int .i64 (-1))))]⟩,
    ⟨none, none, .store 4 (.t 4) (.t 23)⟩,
    ⟨some 5, none, .mov (.k (.int .i64 (0)))⟩] (some [0, 1, 0, 4, 0, 28, 63, 127, 255, 511]) [4, 5]
def c22 : ACode :=
  (.seq r22_0
  (.seq (.seq r22_1
    (.cond (.t 8)
     (.seq r22_2
      .ret)
     .skip))
   (.seq r22_3
    (.seq r22_4
     .ret))))
theorem fits22 : Fits Try.prog 22 24 c22 [.c 4 (some 4), .t 5] := ⟨⟨Try.f22, _, _, Try.func22, rfl, rfl, rfl, by decide, by kernel_rfl, by kernel_rfl⟩, Try.checked.mixed⟩

/- erasure/erasurelaw32.awake -/
def r9_0 : ACode := .reg [
    ⟨some 0, none, .mov (.k (.bool false))⟩] none []
def r9_1 : ACode := .reg [
    ⟨some 10, none, .call 11 []⟩,
    ⟨some 11, none, .call 13 [(.t 10), (.k (.int .i64 (2)))]⟩,
    ⟨some 9, none, .mov (.t 11)⟩,
    ⟨some 12, none, .ext 0 (.t 9)⟩,
    ⟨some 13, none, .ext 1 (.t 9)⟩,
    ⟨some 1, none, .alloc 26 [.slice none 0 0, .slice none 0 0, .int .i64 0, .bool false]⟩,
    ⟨none, none, .store 4 (.t 1) (.t 12)⟩,
    ⟨some 2, none, .mov (.t 13)⟩] none [1, 2]
def r9_2 : ACode := .reg [
    ⟨some 15, none, .load (some 4) (.t 1)⟩,
    ⟨some 16, none, .lit 5 1 3 [.int .u8 0] [(0, (.k (.int .u8 (97)))), (1, (.k (.int .u8 (98)))), (2, (.k (.int .u8 (99))))] true⟩,
    ⟨some 17, none, .bconv (.t 16)⟩,
    ⟨some 18, none, .call 10 [(.t 15), (.t 17)]⟩,
    ⟨some 14, none, .mov (.t 18)⟩,
    ⟨some 19, none, .ext 0 (.t 14)⟩,
    ⟨some 20, none, .ext 1 (.t 14)⟩,
    ⟨some 3, none, .alloc 26 [.slice none 0 0, .slice none 0 0, .int .i64 0, .bool false]⟩,
    ⟨none, none, .store 4 (.t 3) (.t 19)⟩,
    ⟨some 4, none, .mov (.t 20)⟩] none [2, 3, 4]
def r9_3 : ACode := .reg [
    ⟨some 22, none, .load (some 4) (.t 3)⟩,
    ⟨some 23, none, .call 22 [(.t 22), (.k (.int .i64 (1)))]⟩,
    ⟨some 21, none, .mov (.t 23)⟩,
    ⟨some 24, none, .ext 0 (.t 21)⟩,
    ⟨some 25, none, .ext 1 (.t 21)⟩,
    ⟨some 5, none, .alloc 26 [.slice none 0 0, .slice none 0 0, .int .i64 0, .bool false]⟩,
    ⟨none, none, .store 4 (.t 5) (.t 24)⟩,
    ⟨some 6, none, .mov (.t 25)⟩] none [2, 3, 4, 5, 6]
def r9_4 : ACode := .reg [
    ⟨some 27, none, .load (some 4) (.t 5)⟩,
    ⟨some 28, none, .call 14 [(.t 27)]⟩,
    ⟨some 26, none, .mov (.t 28)⟩,
    ⟨some 29, none, .ext 0 (.t 26)⟩,
    ⟨some 30, none, .ext 1 (.t 26)⟩,
    ⟨some 7, none, .mov (.t 29)⟩,
    ⟨some 8, none, .mov (.t 30)⟩] none [2, 3, 4, 6, 7, 8]
def r9_5 : ACode := .reg [
    ⟨some 31, none, .mov (.t 2)⟩,
    ⟨some 32, none, .bin .eql (.t 31) (.k (.int .i64 (0)))⟩,
    ⟨some 33, none, .mov (.t 32)⟩,
    ⟨some 34, (some (33, true)), .mov (.t 4)⟩,
    ⟨some 35, (some (33, true)), .bin .eql (.t 34) (.k (.int .i64 (104)))⟩,
    ⟨some 36, none, .pick (.t 33) (.t 35) (.k (.bool false))⟩,
    ⟨some 37, none, .mov (.t 36)⟩,
    ⟨some 38, (some (37, true)), .fld 3 (.t 3)⟩,
    ⟨some 39, (some (37, true)), .load none (.t 38)⟩,
    ⟨some 40, none, .pick (.t 37) (.t 39) (.k (.bool false))⟩,
    ⟨some 41, none, .mov (.t 40)⟩,
    ⟨some 42, (some (41, true)), .fld 1 (.t 3)⟩,
    ⟨some 43, (some (41, true)), .load none (.t 42)⟩,
    ⟨some 44, (some (41, true)), .len (.t 43)⟩,
    ⟨some 45, (some (41, true)), .bin .eql (.t 44) (.k (.int .i64 (2)))⟩,
    ⟨some 46, none, .pick (.t 41) (.t 45) (.k (.bool false))⟩,
    ⟨some 47, none, .mov (.t 46)⟩,
    ⟨some 48, (some (47, true)), .mov (.t 6)⟩,
    ⟨some 49, (some (47, true)), .bin .eql (.t 48) (.k (.int .i64 (0)))⟩,
    ⟨some 50, none, .pick (.t 47) (.t 49) (.k (.bool false))⟩,
    ⟨some 51, none, .mov (.t 50)⟩,
    ⟨some 52, (some (51, true)), .mov (.t 8)⟩,
    ⟨some 53, (some (51, true)), .bin .eql (.t 52) (.k (.int .i64 (0)))⟩,
    ⟨some 54, none, .pick (.t 51) (.t 53) (.k (.bool false))⟩,
    ⟨some 55, none, .mov (.t 54)⟩,
    ⟨some 56, (some (55, true)), .mov (.t 7)⟩,
    ⟨some 57, (some (55, true)), .tostr (.t 56)⟩,
    ⟨some 58, (some (55, true)), .bin .eql (.t 57) (.k (.string { data := #[97] }))⟩,
    ⟨some 59, none, .pick (.t 55) (.t 58) (.k (.bool false))⟩,
    ⟨some 0, none, .mov (.t 59)⟩] none [0]
def c9 : ACode :=
  (.seq r9_0
  (.seq r9_1
   (.seq r9_2
    (.seq r9_3
     (.seq r9_4
      (.seq r9_5
       .ret))))))
theorem fits9 : Fits Try.prog 9 60 c9 [.t 0] := ⟨⟨Try.f9, _, _, Try.func9, rfl, rfl, rfl, by decide, by kernel_rfl, by kernel_rfl⟩, Try.checked.mixed⟩

/- erasure/erasureref32.Same -/
def r12_0 : ACode := .reg [
    ⟨some 2, none, .box 26 (.t 0)⟩,
    ⟨some 3, none, .box 26 (.t 1)⟩,
    ⟨some 4, none, .mov (.k (.bool false))⟩] none [2, 3]
def r12_1 : ACode := .reg [
    ⟨some 5, none, .fld 0 (.t 2)⟩,
    ⟨some 6, none, .load none (.t 5)⟩,
    ⟨some 7, none, .tostr (.t 6)⟩,
    ⟨some 8, none, .fld 0 (.t 3)⟩,
    ⟨some 9, none, .load none (.t 8)⟩,
    ⟨some 10, none, .tostr (.t 9)⟩,
    ⟨some 11, none, .bin .eql (.t 7) (.t 10)⟩,
    ⟨some 12, none, .mov (.t 11)⟩,
    ⟨some 13, (some (12, true)), .fld 1 (.t 2)⟩,
    ⟨some 14, (some (12, true)), .load none (.t 13)⟩,
    ⟨some 15, (some (12, true)), .tostr (.t 14)⟩,
    ⟨some 16, (some (12, true)), .fld 1 (.t 3)⟩,
    ⟨some 17, (some (12, true)), .load none (.t 16)⟩,
    ⟨some 18, (some (12, true)), .tostr (.t 17)⟩,
    ⟨some 19, (some (12, true)), .bin .eql (.t 15) (.t 18)⟩,
    ⟨some 20, none, .pick (.t 12) (.t 19) (.k (.bool false))⟩,
    ⟨some 21, none, .mov (.t 20)⟩,
    ⟨some 22, (some (21, true)), .fld 2 (.t 2)⟩,
    ⟨some 23, (some (21, true)), .load none (.t 22)⟩,
    ⟨some 24, (some (21, true)), .fld 2 (.t 3)⟩,
    ⟨some 25, (some (21, true)), .load none (.t 24)⟩,
    ⟨some 26, (some (21, true)), .bin .eql (.t 23) (.t 25)⟩,
    ⟨some 27, none, .pick (.t 21) (.t 26) (.k (.bool false))⟩,
    ⟨some 28, none, .mov (.t 27)⟩,
    ⟨some 29, (some (28, true)), .fld 3 (.t 2)⟩,
    ⟨some 30, (some (28, true)), .load none (.t 29)⟩,
    ⟨some 31, (some (28, true)), .fld 3 (.t 3)⟩,
    ⟨some 32, (some (28, true)), .load none (.t 31)⟩,
    ⟨some 33, (some (28, true)), .eqb false (.t 30) (.t 32)⟩,
    ⟨some 34, none, .pick (.t 28) (.t 33) (.k (.bool false))⟩,
    ⟨some 4, none, .mov (.t 34)⟩] none [4]
def c12 : ACode :=
  (.seq r12_0
  (.seq r12_1
   .ret))
theorem fits12 : Fits Try.prog 12 35 c12 [.t 4] := ⟨⟨Try.f12, _, _, Try.func12, rfl, rfl, rfl, by decide, by kernel_rfl, by kernel_rfl⟩, Try.checked.mixed⟩

/- erasure/erasurelaw32.DiskLimit -/
def r3_0 : ACode := .reg [
    ⟨some 4, none, .mov (.k (.bool false))⟩] none [0, 1]
def r3_1 : ACode := .reg [
    ⟨some 10, none, .mov (.t 1)⟩,
    ⟨some 11, none, .len (.t 10)⟩,
    ⟨some 12, none, .bin .gtr (.t 11) (.k (.int .i64 (100)))⟩] none [0, 1, 12]
def r3_2 : ACode := .reg [
    ⟨some 13, none, .call 9 []⟩,
    ⟨some 4, none, .mov (.t 13)⟩] none [4]
def r3_3 : ACode := .reg [
    ⟨some 14, none, .mov (.t 0)⟩,
    ⟨some 15, none, .conv .u64 (.t 14)⟩,
    ⟨some 16, none, .bin .rem (.t 15) (.k (.int .u64 (120)))⟩,
    ⟨some 17, none, .conv .i64 (.t 16)⟩,
    ⟨some 5, none, .mov (.t 17)⟩] none [1, 5]
def r3_4 : ACode := .reg [
    ⟨some 19, none, .call 11 []⟩,
    ⟨some 20, none, .mov (.t 5)⟩,
    ⟨some 21, none, .bin .sub (.k (.int .i64 (131072))) (.t 20)⟩,
    ⟨some 22, none, .make 5 1 1 [.int .u8 0] (.t 21) (.t 21) false⟩,
    ⟨some 23, none, .call 10 [(.t 19), (.t 22)]⟩,
    ⟨some 18, none, .mov (.t 23)⟩,
    ⟨some 24, none, .ext 0 (.t 18)⟩,
    ⟨some 25, none, .ext 1 (.t 18)⟩,
    ⟨some 6, none, .alloc 26 [.slice none 0 0, .slice none 0 0, .int .i64 0, .bool false]⟩,
    ⟨none, none, .store 4 (.t 6) (.t 24)⟩,
    ⟨some 7, none, .mov (.t 25)⟩] (some [0, 0, 2, 6, 15, 31, 63, 63, 0, 383, 1023]) [1, 5, 6, 7]
def r3_5 : ACode := .reg [
    ⟨some 27, none, .load (some 4) (.t 6)⟩,
    ⟨some 28, none, .mov (.t 1)⟩,
    ⟨some 29, none, .call 10 [(.t 27), (.t 28)]⟩,
    ⟨some 26, none, .mov (.t 29)⟩,
    ⟨some 30, none, .ext 0 (.t 26)⟩,
    ⟨some 31, none, .ext 1 (.t 26)⟩,
    ⟨some 8, none, .alloc 26 [.slice none 0 0, .slice none 0 0, .int .i64 0, .bool false]⟩,
    ⟨none, none, .store 4 (.t 8) (.t 30)⟩,
    ⟨some 9, none, .mov (.t 31)⟩] none [1, 5, 6, 7, 8, 9]
def r3_6 : ACode := .reg [
    ⟨some 32, none, .mov (.t 1)⟩,
    ⟨some 33, none, .len (.t 32)⟩,
    ⟨some 34, none, .mov (.t 5)⟩,
    ⟨some 35, none, .bin .gtr (.t 33) (.t 34)⟩] none [1, 5, 6, 7, 8, 9, 35]
def r3_7 : ACode := .reg [
    ⟨some 36, none, .mov (.t 7)⟩,
    ⟨some 37, none, .bin .eql (.t 36) (.k (.int .i64 (0)))⟩,
    ⟨some 38, none, .mov (.t 37)⟩,
    ⟨some 39, (some (38, true)), .mov (.t 9)⟩,
    ⟨some 40, (some (38, true)), .bin .eql (.t 39) (.k (.int .i64 (8)))⟩,
    ⟨some 41, none, .pick (.t 38) (.t 40) (.k (.bool false))⟩,
    ⟨some 42, none, .mov (.t 41)⟩,
    ⟨some 43, (some (42, true)), .load (some 4) (.t 8)⟩,
    ⟨some 44, (some (42, true)), .build [.slice none 0 0, .slice none 0 0, .int .i64 0, .bool false] []⟩,
    ⟨some 45, (some (42, true)), .call 12 [(.t 43), (.t 44)]⟩,
    ⟨some 46, none, .pick (.t 42) (.t 45) (.k (.bool false))⟩,
    ⟨some 47, none, .mov (.t 46)⟩,
    ⟨some 48, (some (47, true)), .fld 1 (.t 6)⟩,
    ⟨some 49, (some (47, true)), .load none (.t 48)⟩,
    ⟨some 50, (some (47, true)), .len (.t 49)⟩,
    ⟨some 51, (some (47, true)), .mov (.t 5)⟩,
    ⟨some 52, (some (47, true)), .bin .sub (.k (.int .i64 (131072))) (.t 51)⟩,
    ⟨some 53, (some (47, true)), .bin .eql (.t 50) (.t 52)⟩,
    ⟨some 54, none, .pick (.t 47) (.t 53) (.k (.bool false))⟩,
    ⟨some 55, none, .mov (.t 54)⟩,
    ⟨some 56, (some (55, true)), .call 9 []⟩,
    ⟨some 57, none, .pick (.t 55) (.t 56) (.k (.bool false))⟩,
    ⟨some 4, none, .mov (.t 57)⟩] none [4]
def r3_8 : ACode := .reg [
    ⟨some 58, none, .mov (.t 7)⟩,
    ⟨some 59, none, .bin .eql (.t 58) (.k (.int .i64 (0)))⟩,
    ⟨some 60, none, .mov (.t 59)⟩,
    ⟨some 61, (some (60, true)), .mov (.t 9)⟩,
    ⟨some 62, (some (60, true)), .bin .eql (.t 61) (.k (.int .i64 (0)))⟩,
    ⟨some 63, none, .pick (.t 60) (.t 62) (.k (.bool false))⟩,
    ⟨some 64, none, .mov (.t 63)⟩,
    ⟨some 65, (some (64, true)), .fld 1 (.t 8)⟩,
    ⟨some 66, (some (64, true)), .load none (.t 65)⟩,
    ⟨some 67, (some (64, true)), .len (.t 66)⟩,
    ⟨some 68, (some (64, true)), .mov (.t 5)⟩,
    ⟨some 69, (some (64, true)), .bin .sub (.k (.int .i64 (131072))) (.t 68)⟩,
    ⟨some 70, (some (64, true)), .mov (.t 1)⟩,
    ⟨some 71, (some (64, true)), .len (.t 70)⟩,
    ⟨some 72, (some (64, true)), .bin .add (.t 69) (.t 71)⟩,
    ⟨some 73, (some (64, true)), .bin .eql (.t 67) (.t 72)⟩,
    ⟨some 74, none, .pick (.t 64) (.t 73) (.k (.bool false))⟩,
    ⟨some 75, none, .mov (.t 74)⟩,
    ⟨some 76, (some (75, true)), .call 9 []⟩,
    ⟨some 77, none, .pick (.t 75) (.t 76) (.k (.bool false))⟩,
    ⟨some 4, none, .mov (.t 77)⟩] none [4]
def c3 : ACode :=
  (.seq r3_0
  (.seq (.seq r3_1
    (.cond (.t 12)
     (.seq r3_2
      .ret)
     .skip))
   (.seq r3_3
    (.seq r3_4
     (.seq r3_5
      (.seq (.seq r3_6
        (.cond (.t 35)
         (.seq r3_7
          .ret)
         .skip))
       (.seq r3_8
        .ret)))))))
theorem fits3 : Fits Try.prog 3 78 c3 [.t 4] := ⟨⟨Try.f3, _, _, Try.func3, rfl, rfl, rfl, by decide, by kernel_rfl, by kernel_rfl⟩, Try.checked.mixed⟩

/- erasure/erasurelaw32.DiskWhole -/
def r4_0 : ACode := .reg [
    ⟨some 6, none, .mov (.k (.bool false))⟩] none [0, 1, 2]
def r4_1 : ACode := .reg [
    ⟨some 15, none, .mov (.t 0)⟩,
    ⟨some 16, none, .len (.t 15)⟩,
    ⟨some 17, none, .bin .gtr (.t 16) (.k (.int .i64 (100)))⟩,
    ⟨some 18, none, .mov (.t 17)⟩,
    ⟨some 19, (some (18, false)), .mov (.t 1)⟩,
    ⟨some 20, (some (18, false)), .len (.t 19)⟩,
    ⟨some 21, (some (18, false)), .bin .gtr (.t 20) (.k (.int .i64 (100)))⟩,
    ⟨some 22, none, .pick (.t 18) (.k (.bool true)) (.t 21)⟩] none [0, 1, 2, 22]
def r4_2 : ACode := .reg [
    ⟨some 23, none, .call 9 []⟩,
    ⟨some 6, none, .mov (.t 23)⟩] none [6]
def r4_3 : ACode := .reg [
    ⟨some 25, none, .call 11 []⟩,
    ⟨some 26, none, .mov (.t 0)⟩,
    ⟨some 27, none, .call 10 [(.t 25), (.t 26)]⟩,
    ⟨some 24, none, .mov (.t 27)⟩,
    ⟨some 28, none, .ext 0 (.t 24)⟩,
    ⟨some 29, none, .ext 1 (.t 24)⟩,
    ⟨some 7, none, .alloc 26 [.slice none 0 0, .slice none 0 0, .int .i64 0, .bool false]⟩,
    ⟨none, none, .store 4 (.t 7) (.t 28)⟩,
    ⟨some 8, none, .mov (.t 29)⟩] none [0, 1, 2, 7, 8]
def r4_4 : ACode := .reg [
    ⟨some 31, none, .load (some 4) (.t 7)⟩,
    ⟨some 32, none, .mov (.t 2)⟩,
    ⟨some 33, none, .conv .u64 (.t 32)⟩,
    ⟨some 34, none, .bin .rem (.t 33) (.k (.int .u64 (130)))⟩,
    ⟨some 35, none, .conv .i64 (.t 34)⟩,
    ⟨some 36, none, .call 13 [(.t 31), (.t 35)]⟩,
    ⟨some 30, none, .mov (.t 36)⟩,
    ⟨some 37, none, .ext 0 (.t 30)⟩,
    ⟨some 38, none, .ext 1 (.t 30)⟩,
    ⟨none, none, .store 4 (.t 7) (.t 37)⟩,
    ⟨some 9, none, .mov (.t 38)⟩] none [0, 1, 2, 7, 8, 9]
def r4_5 : ACode := .reg [
    ⟨some 40, none, .load (some 4) (.t 7)⟩,
    ⟨some 41, none, .mov (.t 1)⟩,
    ⟨some 42, none, .call 10 [(.t 40), (.t 41)]⟩,
    ⟨some 39, none, .mov (.t 42)⟩,
    ⟨some 43, none, .ext 0 (.t 39)⟩,
    ⟨some 44, none, .ext 1 (.t 39)⟩,
    ⟨some 10, none, .alloc 26 [.slice none 0 0, .slice none 0 0, .int .i64 0, .bool false]⟩,
    ⟨none, none, .store 4 (.t 10) (.t 43)⟩,
    ⟨some 11, none, .mov (.t 44)⟩] none [0, 1, 2, 8, 9, 10, 11]
def r4_6 : ACode := .reg [
    ⟨some 45, none, .mov (.t 2)⟩,
    ⟨some 46, none, .conv .u64 (.t 45)⟩,
    ⟨some 47, none, .bin .rem (.t 46) (.k (.int .u64 (130)))⟩,
    ⟨some 48, none, .conv .i64 (.t 47)⟩,
    ⟨some 12, none, .mov (.t 48)⟩] none [0, 1, 8, 9, 10, 11, 12]
def r4_7 : ACode := .reg [
    ⟨some 49, none, .mov (.t 12)⟩,
    ⟨some 50, none, .mov (.t 1)⟩,
    ⟨some 51, none, .len (.t 50)⟩,
    ⟨some 52, none, .bin .lss (.t 49) (.t 51)⟩] none [0, 1, 8, 9, 10, 11, 12, 52]
def r4_8 : ACode := .reg [
    ⟨some 53, none, .mov (.t 8)⟩,
    ⟨some 54, none, .bin .eql (.t 53) (.k (.int .i64 (0)))⟩,
    ⟨some 55, none, .mov (.t 54)⟩,
    ⟨some 56, (some (55, true)), .mov (.t 9)⟩,
    ⟨some 57, (some (55, true)), .bin .eql (.t 56) (.k (.int .i64 (0)))⟩,
    ⟨some 58, none, .pick (.t 55) (.t 57) (.k (.bool false))⟩,
    ⟨some 59, none, .mov (.t 58)⟩,
    ⟨some 60, (some (59, true)), .mov (.t 11)⟩,
    ⟨some 61, (some (59, true)), .bin .eql (.t 60) (.k (.int .i64 (104)))⟩,
    ⟨some 62, none, .pick (.t 59) (.t 61) (.k (.bool false))⟩,
    ⟨some 63, none, .mov (.t 62)⟩,
    ⟨some 64, (some (63, true)), .fld 3 (.t 10)⟩,
    ⟨some 65, (some (63, true)), .load none (.t 64)⟩,
    ⟨some 66, none, .pick (.t 63) (.t 65) (.k (.bool false))⟩,
    ⟨some 67, none, .mov (.t 66)⟩,
    ⟨some 68, (some (67, true)), .fld 1 (.t 10)⟩,
    ⟨some 69, (some (67, true)), .load none (.t 68)⟩,
    ⟨some 70, (some (67, true)), .tostr (.t 69)⟩,
    ⟨some 71, (some (67, true)), .mov (.t 0)⟩,
    ⟨some 72, (some (67, true)), .tostr (.t 71)⟩,
    ⟨some 73, (some (67, true)), .mov (.t 1)⟩,
    ⟨some 74, (some (67, true)), .mov (.t 12)⟩,
    ⟨some 75, (some (67, true)), .sl 1 (.t 73) none (some (.t 74)) none⟩,
    ⟨some 76, (some (67, true)), .tostr (.t 75)⟩,
    ⟨some 77, (some (67, true)), .bin .add (.t 72) (.t 76)⟩,
    ⟨some 78, (some (67, true)), .bin .eql (.t 70) (.t 77)⟩,
    ⟨some 79, none, .pick (.t 67) (.t 78) (.k (.bool false))⟩,
    ⟨some 80, none, .mov (.t 79)⟩,
    ⟨some 81, (some (80, true)), .call 9 []⟩,
    ⟨some 82, none, .pick (.t 80) (.t 81) (.k (.bool false))⟩,
    ⟨some 6, none, .mov (.t 82)⟩] (some [0, 1, 3, 7, 15, 31, 63, 127, 255, 511, 1023, 2047, 4095, 8191, 16383, 32767, 65535, 131071, 32767, 294911, 32767, 32767, 3178495, 7372799, 16547839, 33554431, 67108863, 134217727, 268435455, 536870911, 1073741823]) [6]
def r4_9 : ACode := .reg [
    ⟨some 84, none, .load (some 4) (.t 10)⟩,
    ⟨some 85, none, .call 14 [(.t 84)]⟩,
    ⟨some 83, none, .mov (.t 85)⟩,
    ⟨some 86, none, .ext 0 (.t 83)⟩,
    ⟨some 87, none, .ext 1 (.t 83)⟩,
    ⟨some 13, none, .mov (.t 86)⟩,
    ⟨some 14, none, .mov (.t 87)⟩] none [0, 1, 8, 9, 10, 11, 12, 13, 14]
def r4_10 : ACode := .reg [
    ⟨some 88, none, .mov (.t 8)⟩,
    ⟨some 89, none, .bin .eql (.t 88) (.k (.int .i64 (0)))⟩,
    ⟨some 90, none, .mov (.t 89)⟩,
    ⟨some 91, (some (90, true)), .mov (.t 9)⟩,
    ⟨some 92, (some (90, true)), .bin .eql (.t 91) (.k (.int .i64 (0)))⟩,
    ⟨some 93, none, .pick (.t 90) (.t 92) (.k (.bool false))⟩,
    ⟨some 94, none, .mov (.t 93)⟩,
    ⟨some 95, (some (94, true)), .mov (.t 11)⟩,
    ⟨some 96, (some (94, true)), .bin .eql (.t 95) (.k (.int .i64 (0)))⟩,
    ⟨some 97, none, .pick (.t 94) (.t 96) (.k (.bool false))⟩,
    ⟨some 98, none, .mov (.t 97)⟩,
    ⟨some 99, (some (98, true)), .mov (.t 14)⟩,
    ⟨some 100, (some (98, true)), .bin .eql (.t 99) (.k (.int .i64 (0)))⟩,
    ⟨some 101, none, .pick (.t 98) (.t 100) (.k (.bool false))⟩,
    ⟨some 102, none, .mov (.t 101)⟩,
    ⟨some 103, (some (102, true)), .mov (.t 13)⟩,
    ⟨some 104, (some (102, true)), .tostr (.t 103)⟩,
    ⟨some 105, (some (102, true)), .mov (.t 0)⟩,
    ⟨some 106, (some (102, true)), .tostr (.t 105)⟩,
    ⟨some 107, (some (102, true)), .mov (.t 1)⟩,
    ⟨some 108, (some (102, true)), .tostr (.t 107)⟩,
    ⟨some 109, (some (102, true)), .bin .add (.t 106) (.t 108)⟩,
    ⟨some 110, (some (102, true)), .bin .eql (.t 104) (.t 109)⟩,
    ⟨some 111, none, .pick (.t 102) (.t 110) (.k (.bool false))⟩,
    ⟨some 112, none, .mov (.t 111)⟩,
    ⟨some 113, (some (112, true)), .fld 2 (.t 10)⟩,
    ⟨some 114, (some (112, true)), .load none (.t 113)⟩,
    ⟨some 115, (some (112, true)), .mov (.t 12)⟩,
    ⟨some 116, (some (112, true)), .mov (.t 1)⟩,
    ⟨some 117, (some (112, true)), .len (.t 116)⟩,
    ⟨some 118, (some (112, true)), .bin .sub (.t 115) (.t 117)⟩,
    ⟨some 119, (some (112, true)), .bin .eql (.t 114) (.t 118)⟩,
    ⟨some 120, none, .pick (.t 112) (.t 119) (.k (.bool false))⟩,
    ⟨some 121, none, .mov (.t 120)⟩,
    ⟨some 122, (some (121, true)), .call 9 []⟩,
    ⟨some 123, none, .pick (.t 121) (.t 122) (.k (.bool false))⟩,
    ⟨some 6, none, .mov (.t 123)⟩] none [6]
def c4 : ACode :=
  (.seq r4_0
  (.seq (.seq r4_1
    (.cond (.t 22)
     (.seq r4_2
      .ret)
     .skip))
   (.seq r4_3
    (.seq r4_4
     (.seq r4_5
      (.seq r4_6
       (.seq (.seq r4_7
         (.cond (.t 52)
          (.seq r4_8
           .ret)
          .skip))
        (.seq r4_9
         (.seq r4_10
          .ret)))))))))
theorem fits4 : Fits Try.prog 4 124 c4 [.t 6] := ⟨⟨Try.f4, _, _, Try.func4, rfl, rfl, rfl, by decide, by kernel_rfl, by kernel_rfl⟩, Try.checked.mixed⟩

/- erasure/erasurelaw32.short -/
def r15_0 : ACode := .reg [
    ⟨some 2, none, .mov (.k (.bool false))⟩] none [0]
def r15_1 : ACode := .reg [
    ⟨some 3, none, .mov (.k (.int .i64 (0)))⟩] none [0, 3]
def r15_2 : ACode := .reg [
    ⟨some 4, none, .mov (.t 3)⟩,
    ⟨some 5, none, .mov (.t 0)⟩,
    ⟨some 6, none, .len (.t 5)⟩,
    ⟨some 7, none, .bin .lss (.t 4) (.t 6)⟩] none [0, 3, 7]
def r15_3 : ACode := .reg [
    ⟨some 10, none, .mov (.t 0)⟩,
    ⟨some 11, none, .mov (.t 3)⟩,
    ⟨some 12, none, .idxa 3 (.t 10) (.t 11)⟩,
    ⟨some 13, none, .fld 2 (.t 12)⟩,
    ⟨some 14, none, .load none (.t 13)⟩,
    ⟨some 15, none, .len (.t 14)⟩,
    ⟨some 16, none, .bin .gtr (.t 15) (.k (.int .i64 (60)))⟩] none [0, 3, 16]
def r15_4 : ACode := .reg [
    ⟨some 2, none, .mov (.k (.bool false))⟩] none [2]
def r15_5 : ACode := .reg [
    ⟨some 8, none, .mov (.t 3)⟩,
    ⟨some 9, none, .bin .add (.t 8) (.k (.int .i64 (1)))⟩,
    ⟨some 3, none, .mov (.t 9)⟩] none [0, 3]
def r15_6 : ACode := .reg [
    ⟨some 17, none, .mov (.t 0)⟩,
    ⟨some 18, none, .len (.t 17)⟩,
    ⟨some 19, none, .bin .leq (.t 18) (.k (.int .i64 (30)))⟩,
    ⟨some 2, none, .mov (.t 19)⟩] none [2]
def c15 : ACode :=
  (.seq r15_0
  (.seq (.seq r15_1
    (.block 0 (.loop (.seq (.seq r15_2
        (.cond (.t 7)
         .skip
         (.exit 0)))
       (.seq (.block 1 (.seq r15_3
          (.cond (.t 16)
           (.seq r15_4
            .ret)
           .skip)))
        r15_5)))))
   (.seq r15_6
    .ret)))
theorem fits15 : Fits Try.prog 15 20 c15 [.t 2] := ⟨⟨Try.f15, _, _, Try.func15, rfl, rfl, rfl, by decide, by kernel_rfl, by kernel_rfl⟩, Try.checked.mixed⟩

/- erasure/erasureref32.New -/
def r16_0 : ACode := .reg [
    ⟨some 0, none, .alloc 26 [.slice none 0 0, .slice none 0 0, .int .i64 0, .bool false]⟩] none [0]
def r16_1 : ACode := .reg [
    ⟨some 1, none, .build [.slice none 0 0, .slice none 0 0, .int .i64 0, .bool false] [(2, 1, (.k (.int .i64 (-1))))]⟩,
    ⟨none, none, .store 4 (.t 0) (.t 1)⟩] none [0]
def c16 : ACode :=
  (.seq r16_0
  (.seq r16_1
   .ret))
theorem fits16 : Fits Try.prog 16 2 c16 [.c 0 (some 4)] := ⟨⟨Try.f16, _, _, Try.func16, rfl, rfl, rfl, by decide, by kernel_rfl, by kernel_rfl⟩, Try.checked.mixed⟩

/- erasure/disk.Sync -/
def r23_0 : ACode := .reg [
    ⟨some 1, none, .box 26 (.t 0)⟩,
    ⟨some 2, none, .alloc 26 [.slice none 0 0, .slice none 0 0, .int .i64 0, .bool false]⟩,
    ⟨some 3, none, .mov (.k (.int .i64 (0)))⟩] none [1, 2]
def r23_1 : ACode := .reg [
    ⟨some 5, none, .load (some 4) (.t 1)⟩,
    ⟨some 6, none, .call 20 [(.t 5)]⟩,
    ⟨some 7, none, .un .not (.t 6)⟩] none [1, 2, 7]
def r23_2 : ACode := .reg [
    ⟨some 8, none, .build [.slice none 0 0, .slice none 0 0, .int .i64 0, .bool false] []⟩,
    ⟨none, none, .store 4 (.t 2) (.t 8)⟩,
    ⟨some 3, none, .mov (.k (.int .i64 (1)))⟩] none [2, 3]
def r23_3 : ACode := .reg [
    ⟨some 9, none, .load (some 4) (.t 1)⟩,
    ⟨some 10, none, .call 25 [(.t 9)]⟩,
    ⟨some 4, none, .alloc 26 [.slice none 0 0, .slice none 0 0, .int .i64 0, .bool false]⟩,
    ⟨none, none, .store 4 (.t 4) (.t 10)⟩] none [1, 2, 4]
def r23_4 : ACode := .reg [
    ⟨some 11, none, .fld 3 (.t 1)⟩,
    ⟨some 12, none, .load none (.t 11)⟩] none [1, 2, 4, 12]
def r23_5 : ACode := .reg [
    ⟨some 13, none, .load (some 4) (.t 4)⟩,
    ⟨none, none, .store 4 (.t 2) (.t 13)⟩,
    ⟨some 3, none, .mov (.k (.int .i64 (104)))⟩] none [2, 3]
def r23_6 : ACode := .reg [
    ⟨some 14, none, .fld 2 (.t 1)⟩,
    ⟨some 15, none, .load none (.t 14)⟩,
    ⟨some 16, none, .bin .eql (.t 15) (.k (.int .i64 (0)))⟩,
    ⟨some 17, none, .mov (.t 16)⟩,
    ⟨some 18, (some (17, true)), .fld 1 (.t 1)⟩,
    ⟨some 19, (some (17, true)), .load none (.t 18)⟩,
    ⟨some 20, (some (17, true)), .len (.t 19)⟩,
    ⟨some 21, (some (17, true)), .bin .gtr (.t 20) (.k (.int .i64 (0)))⟩,
    ⟨some 22, none, .pick (.t 17) (.t 21) (.k (.bool false))⟩] none [1, 2, 4, 22]
def r23_7 : ACode := .reg [
    ⟨some 23, none, .fld 3 (.t 4)⟩,
    ⟨none, none, .store 1 (.t 23) (.k (.bool true))⟩] none [2, 4]
def r23_8 : ACode := .reg [
    ⟨some 24, none, .load (some 4) (.t 4)⟩,
    ⟨none, none, .store 4 (.t 2) (.t 24)⟩,
    ⟨some 3, none, .mov (.k (.int .i64 (104)))⟩] none [2, 3]
def r23_9 : ACode := .reg [
    ⟨some 25, none, .fld 0 (.t 1)⟩,
    ⟨some 26, none, .load none (.t 25)⟩,
    ⟨some 27, none, .fld 1 (.t 1)⟩,
    ⟨some 28, none, .load none (.t 27)⟩,
    ⟨some 29, none, .call 26 [(.t 26), (.t 28)]⟩,
    ⟨some 30, none, .fld 0 (.t 4)⟩,
    ⟨none, none, .store 1 (.t 30) (.t 29)⟩] none [2, 4]
def r23_10 : ACode := .reg [
    ⟨some 31, none, .fld 1 (.t 4)⟩,
    ⟨none, none, .store 1 (.t 31) (.k (.slice none 0 0))⟩] none [2, 4]
def r23_11 : ACode := .reg [
    ⟨some 32, none, .load (some 4) (.t 4)⟩,
    ⟨none, none, .store 4 (.t 2) (.t 32)⟩,
    ⟨some 3, none, .mov (.k (.int .i64 (0)))⟩] none [2, 3]
def c23 : ACode :=
  (.seq r23_0
  (.seq (.seq r23_1
    (.cond (.t 7)
     (.seq r23_2
      .ret)
     .skip))
   (.seq r23_3
    (.seq (.seq r23_4
      (.cond (.t 12)
       (.seq r23_5
        .ret)
       .skip))
     (.seq (.seq r23_6
       (.cond (.t 22)
        (.seq r23_7
         (.seq r23_8
          .ret))
        .skip))
      (.seq r23_9
       (.seq r23_10
        (.seq r23_11
         .ret))))))))
theorem fits23 : Fits Try.prog 23 33 c23 [.c 2 (some 4), .t 3] := ⟨⟨Try.f23, _, _, Try.func23, rfl, rfl, rfl, by decide, by kernel_rfl, by kernel_rfl⟩, Try.checked.mixed⟩

/- erasure/disk.Cut -/
def r24_0 : ACode := .reg [
    ⟨some 2, none, .box 26 (.t 0)⟩,
    ⟨some 4, none, .alloc 26 [.slice none 0 0, .slice none 0 0, .int .i64 0, .bool false]⟩,
    ⟨some 5, none, .mov (.k (.int .i64 (0)))⟩] none [1, 2, 4]
def r24_1 : ACode := .reg [
    ⟨some 7, none, .load (some 4) (.t 2)⟩,
    ⟨some 8, none, .call 20 [(.t 7)]⟩,
    ⟨some 9, none, .un .not (.t 8)⟩,
    ⟨some 10, none, .mov (.t 9)⟩,
    ⟨some 11, (some (10, false)), .mov (.t 1)⟩,
    ⟨some 12, (some (10, false)), .bin .lss (.t 11) (.k (.int .i64 (0)))⟩,
    ⟨some 13, none, .pick (.t 10) (.k (.bool true)) (.t 12)⟩,
    ⟨some 14, none, .mov (.t 13)⟩,
    ⟨some 15, (some (14, false)), .mov (.t 1)⟩,
    ⟨some 16, (some (14, false)), .fld 0 (.t 2)⟩,
    ⟨some 17, (some (14, false)), .load none (.t 16)⟩,
    ⟨some 18, (some (14, false)), .len (.t 17)⟩,
    ⟨some 19, (some (14, false)), .fld 1 (.t 2)⟩,
    ⟨some 20, (some (14, false)), .load none (.t 19)⟩,
    ⟨some 21, (some (14, false)), .len (.t 20)⟩,
    ⟨some 22, (some (14, false)), .bin .add (.t 18) (.t 21)⟩,
    ⟨some 23, (some (14, false)), .bin .gtr (.t 15) (.t 22)⟩,
    ⟨some 24, none, .pick (.t 14) (.k (.bool true)) (.t 23)⟩] none [1, 2, 4, 24]
def r24_2 : ACode := .reg [
    ⟨some 25, none, .build [.slice none 0 0, .slice none 0 0, .int .i64 0, .bool false] []⟩,
    ⟨none, none, .store 4 (.t 4) (.t 25)⟩,
    ⟨some 5, none, .mov (.k (.int .i64 (1)))⟩] none [4, 5]
def r24_3 : ACode := .reg [
    ⟨some 26, none, .load (some 4) (.t 2)⟩,
    ⟨some 27, none, .call 25 [(.t 26)]⟩,
    ⟨some 6, none, .alloc 26 [.slice none 0 0, .slice none 0 0, .int .i64 0, .bool false]⟩,
    ⟨none, none, .store 4 (.t 6) (.t 27)⟩] none [1, 2, 4, 6]
def r24_4 : ACode := .reg [
    ⟨some 28, none, .fld 3 (.t 2)⟩,
    ⟨some 29, none, .load none (.t 28)⟩] none [1, 2, 4, 6, 29]
def r24_5 : ACode := .reg [
    ⟨some 30, none, .load (some 4) (.t 6)⟩,
    ⟨none, none, .store 4 (.t 4) (.t 30)⟩,
    ⟨some 5, none, .mov (.k (.int .i64 (104)))⟩] none [4, 5]
def r24_6 : ACode := .reg [
    ⟨some 31, none, .fld 0 (.t 2)⟩,
    ⟨some 32, none, .load none (.t 31)⟩,
    ⟨some 33, none, .fld 1 (.t 2)⟩,
    ⟨some 34, none, .load none (.t 33)⟩,
    ⟨some 35, none, .call 26 [(.t 32), (.t 34)]⟩,
    ⟨some 36, none, .mov (.t 1)⟩,
    ⟨some 37, none, .mov (.t 1)⟩,
    ⟨some 38, none, .sl 1 (.t 35) none (some (.t 36)) (some (.t 37))⟩,
    ⟨some 39, none, .fld 0 (.t 6)⟩,
    ⟨none, none, .store 1 (.t 39) (.t 38)⟩] none [4, 6]
def r24_7 : ACode := .reg [
    ⟨some 40, none, .fld 1 (.t 6)⟩,
    ⟨none, none, .store 1 (.t 40) (.k (.slice none 0 0))⟩] none [4, 6]
def r24_8 : ACode := .reg [
    ⟨some 41, none, .load (some 4) (.t 6)⟩,
    ⟨none, none, .store 4 (.t 4) (.t 41)⟩,
    ⟨some 5, none, .mov (.k (.int .i64 (0)))⟩] none [4, 5]
def c24 : ACode :=
  (.seq r24_0
  (.seq (.seq r24_1
    (.cond (.t 24)
     (.seq r24_2
      .ret)
     .skip))
   (.seq r24_3
    (.seq (.seq r24_4
      (.cond (.t 29)
       (.seq r24_5
        .ret)
       .skip))
     (.seq r24_6
      (.seq r24_7
       (.seq r24_8
        .ret)))))))
theorem fits24 : Fits Try.prog 24 42 c24 [.c 4 (some 4), .t 5] := ⟨⟨Try.f24, _, _, Try.func24, rfl, rfl, rfl, by decide, by kernel_rfl, by kernel_rfl⟩, Try.checked.mixed⟩

/- erasure/erasurelaw32.do -/
def r17_0 : ACode := .reg [
    ⟨some 2, none, .box 26 (.t 0)⟩,
    ⟨some 3, none, .box 41 (.t 1)⟩,
    ⟨some 4, none, .alloc 26 [.slice none 0 0, .slice none 0 0, .int .i64 0, .bool false]⟩,
    ⟨some 5, none, .mov (.k (.int .i64 (0)))⟩] none [2, 3, 4]
def r17_1 : ACode := .reg [
    ⟨some 6, none, .fld 0 (.t 3)⟩,
    ⟨some 7, none, .load none (.t 6)⟩,
    ⟨some 8, none, .bin .rem (.t 7) (.k (.int .i64 (5)))⟩] none [2, 3, 4, 8]
def r17_2 : ACode := .reg [
    ⟨some 10, none, .bin .eql (.t 8) (.k (.int .i64 (0)))⟩,
    ⟨some 9, none, .mov (.t 10)⟩] none [2, 3, 4, 8, 9]
def r17_3 : ACode := .reg [
    ⟨some 11, none, .load (some 4) (.t 2)⟩,
    ⟨some 12, none, .fld 2 (.t 3)⟩,
    ⟨some 13, none, .load none (.t 12)⟩,
    ⟨some 14, none, .call 10 [(.t 11), (.t 13)]⟩,
    ⟨some 15, none, .ext 0 (.t 14)⟩,
    ⟨some 16, none, .ext 1 (.t 14)⟩,
    ⟨none, none, .store 4 (.t 4) (.t 15)⟩,
    ⟨some 5, none, .mov (.t 16)⟩] none [4, 5]
def r17_4 : ACode := .reg [
    ⟨some 18, none, .bin .eql (.t 8) (.k (.int .i64 (1)))⟩,
    ⟨some 17, none, .mov (.t 18)⟩] none [2, 3, 4, 8, 17]
def r17_5 : ACode := .reg [
    ⟨some 19, none, .load (some 4) (.t 2)⟩,
    ⟨some 20, none, .call 23 [(.t 19)]⟩,
    ⟨some 21, none, .ext 0 (.t 20)⟩,
    ⟨some 22, none, .ext 1 (.t 20)⟩,
    ⟨none, none, .store 4 (.t 4) (.t 21)⟩,
    ⟨some 5, none, .mov (.t 22)⟩] none [4, 5]
def r17_6 : ACode := .reg [
    ⟨some 24, none, .bin .eql (.t 8) (.k (.int .i64 (2)))⟩,
    ⟨some 23, none, .mov (.t 24)⟩] none [2, 3, 4, 8, 23]
def r17_7 : ACode := .reg [
    ⟨some 25, none, .load (some 4) (.t 2)⟩,
    ⟨some 26, none, .fld 1 (.t 3)⟩,
    ⟨some 27, none, .load none (.t 26)⟩,
    ⟨some 28, none, .call 13 [(.t 25), (.t 27)]⟩,
    ⟨some 29, none, .ext 0 (.t 28)⟩,
    ⟨some 30, none, .ext 1 (.t 28)⟩,
    ⟨none, none, .store 4 (.t 4) (.t 29)⟩,
    ⟨some 5, none, .mov (.t 30)⟩] none [4, 5]
def r17_8 : ACode := .reg [
    ⟨some 32, none, .bin .eql (.t 8) (.k (.int .i64 (3)))⟩,
    ⟨some 31, none, .mov (.t 32)⟩] none [2, 3, 4, 31]
def r17_9 : ACode := .reg [
    ⟨some 33, none, .load (some 4) (.t 2)⟩,
    ⟨some 34, none, .fld 1 (.t 3)⟩,
    ⟨some 35, none, .load none (.t 34)⟩,
    ⟨some 36, none, .call 22 [(.t 33), (.t 35)]⟩,
    ⟨some 37, none, .ext 0 (.t 36)⟩,
    ⟨some 38, none, .ext 1 (.t 36)⟩,
    ⟨none, none, .store 4 (.t 4) (.t 37)⟩,
    ⟨some 5, none, .mov (.t 38)⟩] none [4, 5]
def r17_10 : ACode := .reg [
    ⟨some 39, none, .load (some 4) (.t 2)⟩,
    ⟨some 40, none, .fld 1 (.t 3)⟩,
    ⟨some 41, none, .load none (.t 40)⟩,
    ⟨some 42, none, .call 24 [(.t 39), (.t 41)]⟩,
    ⟨some 43, none, .ext 0 (.t 42)⟩,
    ⟨some 44, none, .ext 1 (.t 42)⟩,
    ⟨none, none, .store 4 (.t 4) (.t 43)⟩,
    ⟨some 5, none, .mov (.t 44)⟩] none [4, 5]
def c17 : ACode :=
  (.seq r17_0
  (.seq (.seq r17_1
    (.block 0 (.seq r17_2
      (.cond (.t 9)
       (.seq r17_3
        .ret)
       (.seq r17_4
        (.cond (.t 17)
         (.seq r17_5
          .ret)
         (.seq r17_6
          (.cond (.t 23)
           (.seq r17_7
            .ret)
           (.seq r17_8
            (.cond (.t 31)
             (.seq r17_9
              .ret)
             .skip))))))))))
   (.seq r17_10
    .ret)))
theorem fits17 : Fits Try.prog 17 45 c17 [.c 4 (some 4), .t 5] := ⟨⟨Try.f17, _, _, Try.func17, rfl, rfl, rfl, by decide, by kernel_rfl, by kernel_rfl⟩, Try.checked.mixed⟩

/- erasure/erasureref32.Valid -/
def r21_0 : ACode := .reg [
    ⟨some 1, none, .box 26 (.t 0)⟩,
    ⟨some 2, none, .mov (.k (.bool false))⟩] none [1]
def r21_1 : ACode := .reg [
    ⟨some 3, none, .fld 0 (.t 1)⟩,
    ⟨some 4, none, .load none (.t 3)⟩,
    ⟨some 5, none, .len (.t 4)⟩,
    ⟨some 6, none, .bin .leq (.t 5) (.k (.int .i64 (131072)))⟩,
    ⟨some 7, none, .mov (.t 6)⟩,
    ⟨some 8, (some (7, true)), .fld 1 (.t 1)⟩,
    ⟨some 9, (some (7, true)), .load none (.t 8)⟩,
    ⟨some 10, (some (7, true)), .len (.t 9)⟩,
    ⟨some 11, (some (7, true)), .fld 0 (.t 1)⟩,
    ⟨some 12, (some (7, true)), .load none (.t 11)⟩,
    ⟨some 13, (some (7, true)), .len (.t 12)⟩,
    ⟨some 14, (some (7, true)), .bin .sub (.k (.int .i64 (131072))) (.t 13)⟩,
    ⟨some 15, (some (7, true)), .bin .leq (.t 10) (.t 14)⟩,
    ⟨some 16, none, .pick (.t 7) (.t 15) (.k (.bool false))⟩,
    ⟨some 17, none, .mov (.t 16)⟩,
    ⟨some 18, (some (17, true)), .fld 2 (.t 1)⟩,
    ⟨some 19, (some (17, true)), .load none (.t 18)⟩,
    ⟨some 20, (some (17, true)), .bin .geq (.t 19) (.k (.int .i64 (-1)))⟩,
    ⟨some 21, none, .pick (.t 17) (.t 20) (.k (.bool false))⟩,
    ⟨some 2, none, .mov (.t 21)⟩] none [2]
def c21 : ACode :=
  (.seq r21_0
  (.seq r21_1
   .ret))
theorem fits21 : Fits Try.prog 21 22 c21 [.t 2] := ⟨⟨Try.f21, _, _, Try.func21, rfl, rfl, rfl, by decide, by kernel_rfl, by kernel_rfl⟩, Try.checked.mixed⟩

/- erasure/erasureref32.join -/
def r33_0 : ACode := .reg [
    ⟨some 4, none, .mov (.k (.slice none 0 0))⟩] none [0, 1]
def r33_1 : ACode := .reg [
    ⟨some 5, none, .lit 5 1 0 [.int .u8 0] [] true⟩,
    ⟨some 6, none, .mov (.t 0)⟩,
    ⟨some 7, none, .app 5 1 1 (.t 5) (.t 6)⟩,
    ⟨some 8, none, .mov (.t 1)⟩,
    ⟨some 9, none, .app 5 1 1 (.t 7) (.t 8)⟩,
    ⟨some 4, none, .mov (.t 9)⟩] none [4]
def c33 : ACode :=
  (.seq r33_0
  (.seq r33_1
   .ret))
theorem fits33 : Fits Try.prog 33 10 c33 [.t 4] := ⟨⟨Try.f33, _, _, Try.func33, rfl, rfl, rfl, by decide, by kernel_rfl, by kernel_rfl⟩, Try.checked.mixed⟩

/- erasure/erasureref32.Append -/
def r27_0 : ACode := .reg [
    ⟨some 2, none, .box 26 (.t 0)⟩,
    ⟨some 4, none, .alloc 26 [.slice none 0 0, .slice none 0 0, .int .i64 0, .bool false]⟩,
    ⟨some 5, none, .mov (.k (.int .i64 (0)))⟩] none [1, 2, 4]
def r27_1 : ACode := .reg [
    ⟨some 6, none, .load (some 4) (.t 2)⟩,
    ⟨some 7, none, .call 21 [(.t 6)]⟩,
    ⟨some 8, none, .un .not (.t 7)⟩] none [1, 2, 4, 8]
def r27_2 : ACode := .reg [
    ⟨some 9, none, .build [.slice none 0 0, .slice none 0 0, .int .i64 0, .bool false] []⟩,
    ⟨none, none, .store 4 (.t 4) (.t 9)⟩,
    ⟨some 5, none, .mov (.k (.int .i64 (1)))⟩] none [4, 5]
def r27_3 : ACode := .reg [
    ⟨some 10, none, .fld 3 (.t 2)⟩,
    ⟨some 11, none, .load none (.t 10)⟩] none [1, 2, 4, 11]
def r27_4 : ACode := .reg [
    ⟨some 12, none, .load (some 4) (.t 2)⟩,
    ⟨none, none, .store 4 (.t 4) (.t 12)⟩,
    ⟨some 5, none, .mov (.k (.int .i64 (104)))⟩] none [4, 5]
def r27_5 : ACode := .reg [
    ⟨some 13, none, .mov (.t 1)⟩,
    ⟨some 14, none, .len (.t 13)⟩,
    ⟨some 15, none, .fld 0 (.t 2)⟩,
    ⟨some 16, none, .load none (.t 15)⟩,
    ⟨some 17, none, .len (.t 16)⟩,
    ⟨some 18, none, .bin .sub (.k (.int .i64 (131072))) (.t 17)⟩,
    ⟨some 19, none, .fld 1 (.t 2)⟩,
    ⟨some 20, none, .load none (.t 19)⟩,
    ⟨some 21, none, .len (.t 20)⟩,
    ⟨some 22, none, .bin .sub (.t 18) (.t 21)⟩,
    ⟨some 23, none, .bin .gtr (.t 14) (.t 22)⟩] none [1, 2, 4, 23]
def r27_6 : ACode := .reg [
    ⟨some 24, none, .build [.slice none 0 0, .slice none 0 0, .int .i64 0, .bool false] []⟩,
    ⟨none, none, .store 4 (.t 4) (.t 24)⟩,
    ⟨some 5, none, .mov (.k (.int .i64 (8)))⟩] none [4, 5]
def r27_7 : ACode := .reg [
    ⟨some 25, none, .fld 2 (.t 2)⟩,
    ⟨some 26, none, .load none (.t 25)⟩,
    ⟨some 27, none, .bin .geq (.t 26) (.k (.int .i64 (0)))⟩,
    ⟨some 28, none, .mov (.t 27)⟩,
    ⟨some 29, (some (28, true)), .fld 2 (.t 2)⟩,
    ⟨some 30, (some (28, true)), .load none (.t 29)⟩,
    ⟨some 31, (some (28, true)), .mov (.t 1)⟩,
    ⟨some 32, (some (28, true)), .len (.t 31)⟩,
    ⟨some 33, (some (28, true)), .bin .lss (.t 30) (.t 32)⟩,
    ⟨some 34, none, .pick (.t 28) (.t 33) (.k (.bool false))⟩] none [1, 2, 4, 34]
def r27_8 : ACode := .reg [
    ⟨some 35, none, .fld 1 (.t 2)⟩,
    ⟨some 36, none, .load none (.t 35)⟩,
    ⟨some 37, none, .mov (.t 1)⟩,
    ⟨some 38, none, .fld 2 (.t 2)⟩,
    ⟨some 39, none, .load none (.t 38)⟩,
    ⟨some 40, none, .sl 1 (.t 37) none (some (.t 39)) none⟩,
    ⟨some 41, none, .call 33 [(.t 36), (.t 40)]⟩,
    ⟨some 42, none, .fld 1 (.t 2)⟩,
    ⟨none, none, .store 1 (.t 42) (.t 41)⟩] (some [0, 1, 0, 0, 8, 28, 63, 127, 255]) [2, 4]
def r27_9 : ACode := .reg [
    ⟨some 43, none, .fld 2 (.t 2)⟩,
    ⟨none, none, .store 1 (.t 43) (.k (.int .i64 (0)))⟩] none [2, 4]
def r27_10 : ACode := .reg [
    ⟨some 44, none, .fld 3 (.t 2)⟩,
    ⟨none, none, .store 1 (.t 44) (.k (.bool true))⟩] none [2, 4]
def r27_11 : ACode := .reg [
    ⟨some 45, none, .load (some 4) (.t 2)⟩,
    ⟨none, none, .store 4 (.t 4) (.t 45)⟩,
    ⟨some 5, none, .mov (.k (.int .i64 (104)))⟩] none [4, 5]
def r27_12 : ACode := .reg [
    ⟨some 46, none, .fld 1 (.t 2)⟩,
    ⟨some 47, none, .load none (.t 46)⟩,
    ⟨some 48, none, .mov (.t 1)⟩,
    ⟨some 49, none, .call 33 [(.t 47), (.t 48)]⟩,
    ⟨some 50, none, .fld 1 (.t 2)⟩,
    ⟨none, none, .store 1 (.t 50) (.t 49)⟩] none [1, 2, 4]
def r27_13 : ACode := .reg [
    ⟨some 51, none, .fld 2 (.t 2)⟩,
    ⟨some 52, none, .load none (.t 51)⟩,
    ⟨some 53, none, .bin .geq (.t 52) (.k (.int .i64 (0)))⟩] none [1, 2, 4, 53]
def r27_14 : ACode := .reg [
    ⟨some 54, none, .fld 2 (.t 2)⟩,
    ⟨some 55, none, .load none (.t 54)⟩,
    ⟨some 56, none, .mov (.t 1)⟩,
    ⟨some 57, none, .len (.t 56)⟩,
    ⟨some 58, none, .bin .sub (.t 55) (.t 57)⟩,
    ⟨some 59, none, .fld 2 (.t 2)⟩,
    ⟨none, none, .store 1 (.t 59) (.t 58)⟩] none [2, 4]
def r27_15 : ACode := .reg [
    ⟨some 60, none, .load (some 4) (.t 2)⟩,
    ⟨none, none, .store 4 (.t 4) (.t 60)⟩,
    ⟨some 5, none, .mov (.k (.int .i64 (0)))⟩] none [4, 5]
def c27 : ACode :=
  (.seq r27_0
  (.seq (.seq r27_1
    (.cond (.t 8)
     (.seq r27_2
      .ret)
     .skip))
   (.seq (.seq r27_3
     (.cond (.t 11)
      (.seq r27_4
       .ret)
      .skip))
    (.seq (.seq r27_5
      (.cond (.t 23)
       (.seq r27_6
        .ret)
       .skip))
     (.seq (.seq r27_7
       (.cond (.t 34)
        (.seq r27_8
         (.seq r27_9
          (.seq r27_10
           (.seq r27_11
            .ret))))
        .skip))
      (.seq r27_12
       (.seq (.seq r27_13
         (.cond (.t 53)
          r27_14
          .skip))
        (.seq r27_15
         .ret))))))))
theorem fits27 : Fits Try.prog 27 61 c27 [.c 4 (some 4), .t 5] := ⟨⟨Try.f27, _, _, Try.func27, rfl, rfl, rfl, by decide, by kernel_rfl, by kernel_rfl⟩, Try.checked.mixed⟩

/- erasure/erasureref32.Sync -/
def r28_0 : ACode := .reg [
    ⟨some 1, none, .box 26 (.t 0)⟩,
    ⟨some 2, none, .alloc 26 [.slice none 0 0, .slice none 0 0, .int .i64 0, .bool false]⟩,
    ⟨some 3, none, .mov (.k (.int .i64 (0)))⟩] none [1, 2]
def r28_1 : ACode := .reg [
    ⟨some 4, none, .load (some 4) (.t 1)⟩,
    ⟨some 5, none, .call 21 [(.t 4)]⟩,
    ⟨some 6, none, .un .not (.t 5)⟩] none [1, 2, 6]
def r28_2 : ACode := .reg [
    ⟨some 7, none, .build [.slice none 0 0, .slice none 0 0, .int .i64 0, .bool false] []⟩,
    ⟨none, none, .store 4 (.t 2) (.t 7)⟩,
    ⟨some 3, none, .mov (.k (.int .i64 (1)))⟩] none [2, 3]
def r28_3 : ACode := .reg [
    ⟨some 8, none, .fld 3 (.t 1)⟩,
    ⟨some 9, none, .load none (.t 8)⟩] none [1, 2, 9]
def r28_4 : ACode := .reg [
    ⟨some 10, none, .load (some 4) (.t 1)⟩,
    ⟨none, none, .store 4 (.t 2) (.t 10)⟩,
    ⟨some 3, none, .mov (.k (.int .i64 (104)))⟩] none [2, 3]
def r28_5 : ACode := .reg [
    ⟨some 11, none, .fld 2 (.t 1)⟩,
    ⟨some 12, none, .load none (.t 11)⟩,
    ⟨some 13, none, .bin .eql (.t 12) (.k (.int .i64 (0)))⟩,
    ⟨some 14, none, .mov (.t 13)⟩,
    ⟨some 15, (some (14, true)), .fld 1 (.t 1)⟩,
    ⟨some 16, (some (14, true)), .load none (.t 15)⟩,
    ⟨some 17, (some (14, true)), .len (.t 16)⟩,
    ⟨some 18, (some (14, true)), .bin .gtr (.t 17) (.k (.int .i64 (0)))⟩,
    ⟨some 19, none, .pick (.t 14) (.t 18) (.k (.bool false))⟩] none [1, 2, 19]
def r28_6 : ACode := .reg [
    ⟨some 20, none, .fld 3 (.t 1)⟩,
    ⟨none, none, .store 1 (.t 20) (.k (.bool true))⟩] none [1, 2]
def r28_7 : ACode := .reg [
    ⟨some 21, none, .load (some 4) (.t 1)⟩,
    ⟨none, none, .store 4 (.t 2) (.t 21)⟩,
    ⟨some 3, none, .mov (.k (.int .i64 (104)))⟩] none [2, 3]
def r28_8 : ACode := .reg [
    ⟨some 22, none, .fld 0 (.t 1)⟩,
    ⟨some 23, none, .load none (.t 22)⟩,
    ⟨some 24, none, .fld 1 (.t 1)⟩,
    ⟨some 25, none, .load none (.t 24)⟩,
    ⟨some 26, none, .call 33 [(.t 23), (.t 25)]⟩,
    ⟨some 27, none, .fld 0 (.t 1)⟩,
    ⟨none, none, .store 1 (.t 27) (.t 26)⟩] none [1, 2]
def r28_9 : ACode := .reg [
    ⟨some 28, none, .fld 1 (.t 1)⟩,
    ⟨none, none, .store 1 (.t 28) (.k (.slice none 0 0))⟩] none [1, 2]
def r28_10 : ACode := .reg [
    ⟨some 29, none, .load (some 4) (.t 1)⟩,
    ⟨none, none, .store 4 (.t 2) (.t 29)⟩,
    ⟨some 3, none, .mov (.k (.int .i64 (0)))⟩] none [2, 3]
def c28 : ACode :=
  (.seq r28_0
  (.seq (.seq r28_1
    (.cond (.t 6)
     (.seq r28_2
      .ret)
     .skip))
   (.seq (.seq r28_3
     (.cond (.t 9)
      (.seq r28_4
       .ret)
      .skip))
    (.seq (.seq r28_5
      (.cond (.t 19)
       (.seq r28_6
        (.seq r28_7
         .ret))
       .skip))
     (.seq r28_8
      (.seq r28_9
       (.seq r28_10
        .ret)))))))
theorem fits28 : Fits Try.prog 28 30 c28 [.c 2 (some 4), .t 3] := ⟨⟨Try.f28, _, _, Try.func28, rfl, rfl, rfl, by decide, by kernel_rfl, by kernel_rfl⟩, Try.checked.mixed⟩

/- erasure/erasureref32.Fail -/
def r29_0 : ACode := .reg [
    ⟨some 2, none, .box 26 (.t 0)⟩,
    ⟨some 4, none, .alloc 26 [.slice none 0 0, .slice none 0 0, .int .i64 0, .bool false]⟩,
    ⟨some 5, none, .mov (.k (.int .i64 (0)))⟩] none [1, 2, 4]
def r29_1 : ACode := .reg [
    ⟨some 6, none, .load (some 4) (.t 2)⟩,
    ⟨some 7, none, .call 21 [(.t 6)]⟩,
    ⟨some 8, none, .un .not (.t 7)⟩,
    ⟨some 9, none, .mov (.t 8)⟩,
    ⟨some 10, (some (9, false)), .mov (.t 1)⟩,
    ⟨some 11, (some (9, false)), .bin .lss (.t 10) (.k (.int .i64 (-1)))⟩,
    ⟨some 12, none, .pick (.t 9) (.k (.bool true)) (.t 11)⟩] none [1, 2, 4, 12]
def r29_2 : ACode := .reg [
    ⟨some 13, none, .build [.slice none 0 0, .slice none 0 0, .int .i64 0, .bool false] []⟩,
    ⟨none, none, .store 4 (.t 4) (.t 13)⟩,
    ⟨some 5, none, .mov (.k (.int .i64 (1)))⟩] none [4, 5]
def r29_3 : ACode := .reg [
    ⟨some 14, none, .mov (.t 1)⟩,
    ⟨some 15, none, .fld 2 (.t 2)⟩,
    ⟨none, none, .store 1 (.t 15) (.t 14)⟩] none [2, 4]
def r29_4 : ACode := .reg [
    ⟨some 16, none, .load (some 4) (.t 2)⟩,
    ⟨none, none, .store 4 (.t 4) (.t 16)⟩,
    ⟨some 5, none, .mov (.k (.int .i64 (0)))⟩] none [4, 5]
def c29 : ACode :=
  (.seq r29_0
  (.seq (.seq r29_1
    (.cond (.t 12)
     (.seq r29_2
      .ret)
     .skip))
   (.seq r29_3
    (.seq r29_4
     .ret))))
theorem fits29 : Fits Try.prog 29 17 c29 [.c 4 (some 4), .t 5] := ⟨⟨Try.f29, _, _, Try.func29, rfl, rfl, rfl, by decide, by kernel_rfl, by kernel_rfl⟩, Try.checked.mixed⟩

/- erasure/erasureref32.Crash -/
def r30_0 : ACode := .reg [
    ⟨some 2, none, .box 26 (.t 0)⟩,
    ⟨some 4, none, .alloc 26 [.slice none 0 0, .slice none 0 0, .int .i64 0, .bool false]⟩,
    ⟨some 5, none, .mov (.k (.int .i64 (0)))⟩] none [1, 2, 4]
def r30_1 : ACode := .reg [
    ⟨some 6, none, .load (some 4) (.t 2)⟩,
    ⟨some 7, none, .call 21 [(.t 6)]⟩,
    ⟨some 8, none, .un .not (.t 7)⟩] none [1, 2, 4, 8]
def r30_2 : ACode := .reg [
    ⟨some 9, none, .build [.slice none 0 0, .slice none 0 0, .int .i64 0, .bool false] []⟩,
    ⟨none, none, .store 4 (.t 4) (.t 9)⟩,
    ⟨some 5, none, .mov (.k (.int .i64 (1)))⟩] none [4, 5]
def r30_3 : ACode := .reg [
    ⟨some 10, none, .mov (.t 1)⟩,
    ⟨some 11, none, .mm true (.t 10) (.k (.int .i64 (0)))⟩,
    ⟨some 12, none, .fld 1 (.t 2)⟩,
    ⟨some 13, none, .load none (.t 12)⟩,
    ⟨some 14, none, .len (.t 13)⟩,
    ⟨some 15, none, .mm false (.t 11) (.t 14)⟩,
    ⟨some 1, none, .mov (.t 15)⟩] none [1, 2, 4]
def r30_4 : ACode := .reg [
    ⟨some 16, none, .fld 0 (.t 2)⟩,
    ⟨some 17, none, .load none (.t 16)⟩,
    ⟨some 18, none, .fld 1 (.t 2)⟩,
    ⟨some 19, none, .load none (.t 18)⟩,
    ⟨some 20, none, .mov (.t 1)⟩,
    ⟨some 21, none, .sl 1 (.t 19) none (some (.t 20)) none⟩,
    ⟨some 22, none, .call 33 [(.t 17), (.t 21)]⟩,
    ⟨some 23, none, .build [.slice none 0 0, .slice none 0 0, .int .i64 0, .bool false] [(0, 1, (.t 22)), (2, 1, (.k (.int .i64 (-1))))]⟩,
    ⟨none, none, .store 4 (.t 4) (.t 23)⟩,
    ⟨some 5, none, .mov (.k (.int .i64 (0)))⟩] (some [0, 1, 0, 4, 0, 28, 63, 127, 255, 511]) [4, 5]
def c30 : ACode :=
  (.seq r30_0
  (.seq (.seq r30_1
    (.cond (.t 8)
     (.seq r30_2
      .ret)
     .skip))
   (.seq r30_3
    (.seq r30_4
     .ret))))
theorem fits30 : Fits Try.prog 30 24 c30 [.c 4 (some 4), .t 5] := ⟨⟨Try.f30, _, _, Try.func30, rfl, rfl, rfl, by decide, by kernel_rfl, by kernel_rfl⟩, Try.checked.mixed⟩

/- erasure/erasureref32.Cut -/
def r31_0 : ACode := .reg [
    ⟨some 2, none, .box 26 (.t 0)⟩,
    ⟨some 4, none, .alloc 26 [.slice none 0 0, .slice none 0 0, .int .i64 0, .bool false]⟩,
    ⟨some 5, none, .mov (.k (.int .i64 (0)))⟩] none [1, 2, 4]
def r31_1 : ACode := .reg [
    ⟨some 6, none, .load (some 4) (.t 2)⟩,
    ⟨some 7, none, .call 21 [(.t 6)]⟩,
    ⟨some 8, none, .un .not (.t 7)⟩,
    ⟨some 9, none, .mov (.t 8)⟩,
    ⟨some 10, (some (9, false)), .mov (.t 1)⟩,
    ⟨some 11, (some (9, false)), .bin .lss (.t 10) (.k (.int .i64 (0)))⟩,
    ⟨some 12, none, .pick (.t 9) (.k (.bool true)) (.t 11)⟩,
    ⟨some 13, none, .mov (.t 12)⟩,
    ⟨some 14, (some (13, false)), .mov (.t 1)⟩,
    ⟨some 15, (some (13, false)), .fld 0 (.t 2)⟩,
    ⟨some 16, (some (13, false)), .load none (.t 15)⟩,
    ⟨some 17, (some (13, false)), .len (.t 16)⟩,
    ⟨some 18, (some (13, false)), .fld 1 (.t 2)⟩,
    ⟨some 19, (some (13, false)), .load none (.t 18)⟩,
    ⟨some 20, (some (13, false)), .len (.t 19)⟩,
    ⟨some 21, (some (13, false)), .bin .add (.t 17) (.t 20)⟩,
    ⟨some 22, (some (13, false)), .bin .gtr (.t 14) (.t 21)⟩,
    ⟨some 23, none, .pick (.t 13) (.k (.bool true)) (.t 22)⟩] none [1, 2, 4, 23]
def r31_2 : ACode := .reg [
    ⟨some 24, none, .build [.slice none 0 0, .slice none 0 0, .int .i64 0, .bool false] []⟩,
    ⟨none, none, .store 4 (.t 4) (.t 24)⟩,
    ⟨some 5, none, .mov (.k (.int .i64 (1)))⟩] none [4, 5]
def r31_3 : ACode := .reg [
    ⟨some 25, none, .fld 3 (.t 2)⟩,
    ⟨some 26, none, .load none (.t 25)⟩] none [1, 2, 4, 26]
def r31_4 : ACode := .reg [
    ⟨some 27, none, .load (some 4) (.t 2)⟩,
    ⟨none, none, .store 4 (.t 4) (.t 27)⟩,
    ⟨some 5, none, .mov (.k (.int .i64 (104)))⟩] none [4, 5]
def r31_5 : ACode := .reg [
    ⟨some 28, none, .fld 0 (.t 2)⟩,
    ⟨some 29, none, .load none (.t 28)⟩,
    ⟨some 30, none, .fld 1 (.t 2)⟩,
    ⟨some 31, none, .load none (.t 30)⟩,
    ⟨some 32, none, .call 33 [(.t 29), (.t 31)]⟩,
    ⟨some 33, none, .mov (.t 1)⟩,
    ⟨some 34, none, .sl 1 (.t 32) none (some (.t 33)) none⟩,
    ⟨some 35, none, .fld 0 (.t 2)⟩,
    ⟨none, none, .store 1 (.t 35) (.t 34)⟩] none [2, 4]
def r31_6 : ACode := .reg [
    ⟨some 36, none, .fld 1 (.t 2)⟩,
    ⟨none, none, .store 1 (.t 36) (.k (.slice none 0 0))⟩] none [2, 4]
def r31_7 : ACode := .reg [
    ⟨some 37, none, .load (some 4) (.t 2)⟩,
    ⟨none, none, .store 4 (.t 4) (.t 37)⟩,
    ⟨some 5, none, .mov (.k (.int .i64 (0)))⟩] none [4, 5]
def c31 : ACode :=
  (.seq r31_0
  (.seq (.seq r31_1
    (.cond (.t 23)
     (.seq r31_2
      .ret)
     .skip))
   (.seq (.seq r31_3
     (.cond (.t 26)
      (.seq r31_4
       .ret)
      .skip))
    (.seq r31_5
     (.seq r31_6
      (.seq r31_7
       .ret))))))
theorem fits31 : Fits Try.prog 31 38 c31 [.c 4 (some 4), .t 5] := ⟨⟨Try.f31, _, _, Try.func31, rfl, rfl, rfl, by decide, by kernel_rfl, by kernel_rfl⟩, Try.checked.mixed⟩

/- erasure/erasurelaw32.model -/
def r18_0 : ACode := .reg [
    ⟨some 2, none, .box 26 (.t 0)⟩,
    ⟨some 3, none, .box 41 (.t 1)⟩,
    ⟨some 4, none, .alloc 26 [.slice none 0 0, .slice none 0 0, .int .i64 0, .bool false]⟩,
    ⟨some 5, none, .mov (.k (.int .i64 (0)))⟩] none [2, 3, 4]
def r18_1 : ACode := .reg [
    ⟨some 6, none, .fld 0 (.t 3)⟩,
    ⟨some 7, none, .load none (.t 6)⟩,
    ⟨some 8, none, .bin .rem (.t 7) (.k (.int .i64 (5)))⟩] none [2, 3, 4, 8]
def r18_2 : ACode := .reg [
    ⟨some 10, none, .bin .eql (.t 8) (.k (.int .i64 (0)))⟩,
    ⟨some 9, none, .mov (.t 10)⟩] none [2, 3, 4, 8, 9]
def r18_3 : ACode := .reg [
    ⟨some 11, none, .load (some 4) (.t 2)⟩,
    ⟨some 12, none, .fld 2 (.t 3)⟩,
    ⟨some 13, none, .load none (.t 12)⟩,
    ⟨some 14, none, .call 27 [(.t 11), (.t 13)]⟩,
    ⟨some 15, none, .ext 0 (.t 14)⟩,
    ⟨some 16, none, .ext 1 (.t 14)⟩,
    ⟨none, none, .store 4 (.t 4) (.t 15)⟩,
    ⟨some 5, none, .mov (.t 16)⟩] none [4, 5]
def r18_4 : ACode := .reg [
    ⟨some 18, none, .bin .eql (.t 8) (.k (.int .i64 (1)))⟩,
    ⟨some 17, none, .mov (.t 18)⟩] none [2, 3, 4, 8, 17]
def r18_5 : ACode := .reg [
    ⟨some 19, none, .load (some 4) (.t 2)⟩,
    ⟨some 20, none, .call 28 [(.t 19)]⟩,
    ⟨some 21, none, .ext 0 (.t 20)⟩,
    ⟨some 22, none, .ext 1 (.t 20)⟩,
    ⟨none, none, .store 4 (.t 4) (.t 21)⟩,
    ⟨some 5, none, .mov (.t 22)⟩] none [4, 5]
def r18_6 : ACode := .reg [
    ⟨some 24, none, .bin .eql (.t 8) (.k (.int .i64 (2)))⟩,
    ⟨some 23, none, .mov (.t 24)⟩] none [2, 3, 4, 8, 23]
def r18_7 : ACode := .reg [
    ⟨some 25, none, .load (some 4) (.t 2)⟩,
    ⟨some 26, none, .fld 1 (.t 3)⟩,
    ⟨some 27, none, .load none (.t 26)⟩,
    ⟨some 28, none, .call 29 [(.t 25), (.t 27)]⟩,
    ⟨some 29, none, .ext 0 (.t 28)⟩,
    ⟨some 30, none, .ext 1 (.t 28)⟩,
    ⟨none, none, .store 4 (.t 4) (.t 29)⟩,
    ⟨some 5, none, .mov (.t 30)⟩] none [4, 5]
def r18_8 : ACode := .reg [
    ⟨some 32, none, .bin .eql (.t 8) (.k (.int .i64 (3)))⟩,
    ⟨some 31, none, .mov (.t 32)⟩] none [2, 3, 4, 31]
def r18_9 : ACode := .reg [
    ⟨some 33, none, .load (some 4) (.t 2)⟩,
    ⟨some 34, none, .fld 1 (.t 3)⟩,
    ⟨some 35, none, .load none (.t 34)⟩,
    ⟨some 36, none, .call 30 [(.t 33), (.t 35)]⟩,
    ⟨some 37, none, .ext 0 (.t 36)⟩,
    ⟨some 38, none, .ext 1 (.t 36)⟩,
    ⟨none, none, .store 4 (.t 4) (.t 37)⟩,
    ⟨some 5, none, .mov (.t 38)⟩] none [4, 5]
def r18_10 : ACode := .reg [
    ⟨some 39, none, .load (some 4) (.t 2)⟩,
    ⟨some 40, none, .fld 1 (.t 3)⟩,
    ⟨some 41, none, .load none (.t 40)⟩,
    ⟨some 42, none, .call 31 [(.t 39), (.t 41)]⟩,
    ⟨some 43, none, .ext 0 (.t 42)⟩,
    ⟨some 44, none, .ext 1 (.t 42)⟩,
    ⟨none, none, .store 4 (.t 4) (.t 43)⟩,
    ⟨some 5, none, .mov (.t 44)⟩] none [4, 5]
def c18 : ACode :=
  (.seq r18_0
  (.seq (.seq r18_1
    (.block 0 (.seq r18_2
      (.cond (.t 9)
       (.seq r18_3
        .ret)
       (.seq r18_4
        (.cond (.t 17)
         (.seq r18_5
          .ret)
         (.seq r18_6
          (.cond (.t 23)
           (.seq r18_7
            .ret)
           (.seq r18_8
            (.cond (.t 31)
             (.seq r18_9
              .ret)
             .skip))))))))))
   (.seq r18_10
    .ret)))
theorem fits18 : Fits Try.prog 18 45 c18 [.c 4 (some 4), .t 5] := ⟨⟨Try.f18, _, _, Try.func18, rfl, rfl, rfl, by decide, by kernel_rfl, by kernel_rfl⟩, Try.checked.mixed⟩

/- erasure/erasureref32.Read -/
def r32_0 : ACode := .reg [
    ⟨some 1, none, .box 26 (.t 0)⟩,
    ⟨some 2, none, .mov (.k (.slice none 0 0))⟩,
    ⟨some 3, none, .mov (.k (.int .i64 (0)))⟩] none [1]
def r32_1 : ACode := .reg [
    ⟨some 4, none, .load (some 4) (.t 1)⟩,
    ⟨some 5, none, .call 21 [(.t 4)]⟩,
    ⟨some 6, none, .un .not (.t 5)⟩] none [1, 6]
def r32_2 : ACode := .reg [
    ⟨some 2, none, .mov (.k (.slice none 0 0))⟩,
    ⟨some 3, none, .mov (.k (.int .i64 (1)))⟩] none [2, 3]
def r32_3 : ACode := .reg [
    ⟨some 7, none, .fld 3 (.t 1)⟩,
    ⟨some 8, none, .load none (.t 7)⟩] none [1, 8]
def r32_4 : ACode := .reg [
    ⟨some 2, none, .mov (.k (.slice none 0 0))⟩,
    ⟨some 3, none, .mov (.k (.int .i64 (104)))⟩] none [2, 3]
def r32_5 : ACode := .reg [
    ⟨some 9, none, .fld 0 (.t 1)⟩,
    ⟨some 10, none, .load none (.t 9)⟩,
    ⟨some 11, none, .fld 1 (.t 1)⟩,
    ⟨some 12, none, .load none (.t 11)⟩,
    ⟨some 13, none, .call 33 [(.t 10), (.t 12)]⟩,
    ⟨some 2, none, .mov (.t 13)⟩,
    ⟨some 3, none, .mov (.k (.int .i64 (0)))⟩] none [2, 3]
def c32 : ACode :=
  (.seq r32_0
  (.seq (.seq r32_1
    (.cond (.t 6)
     (.seq r32_2
      .ret)
     .skip))
   (.seq (.seq r32_3
     (.cond (.t 8)
      (.seq r32_4
       .ret)
      .skip))
    (.seq r32_5
     .ret))))
theorem fits32 : Fits Try.prog 32 14 c32 [.t 2, .t 3] := ⟨⟨Try.f32, _, _, Try.func32, rfl, rfl, rfl, by decide, by kernel_rfl, by kernel_rfl⟩, Try.checked.mixed⟩

/- erasure/erasurelaw32.same -/
def r19_0 : ACode := .reg [
    ⟨some 2, none, .box 26 (.t 0)⟩,
    ⟨some 3, none, .box 26 (.t 1)⟩,
    ⟨some 4, none, .mov (.k (.bool false))⟩] none [2, 3]
def r19_1 : ACode := .reg [
    ⟨some 10, none, .load (some 4) (.t 2)⟩,
    ⟨some 11, none, .call 14 [(.t 10)]⟩,
    ⟨some 9, none, .mov (.t 11)⟩,
    ⟨some 12, none, .ext 0 (.t 9)⟩,
    ⟨some 13, none, .ext 1 (.t 9)⟩,
    ⟨some 5, none, .mov (.t 12)⟩,
    ⟨some 6, none, .mov (.t 13)⟩] none [2, 3, 5, 6]
def r19_2 : ACode := .reg [
    ⟨some 15, none, .load (some 4) (.t 3)⟩,
    ⟨some 16, none, .call 32 [(.t 15)]⟩,
    ⟨some 14, none, .mov (.t 16)⟩,
    ⟨some 17, none, .ext 0 (.t 14)⟩,
    ⟨some 18, none, .ext 1 (.t 14)⟩,
    ⟨some 7, none, .mov (.t 17)⟩,
    ⟨some 8, none, .mov (.t 18)⟩] none [2, 3, 5, 6, 7, 8]
def r19_3 : ACode := .reg [
    ⟨some 19, none, .load (some 4) (.t 2)⟩,
    ⟨some 20, none, .load (some 4) (.t 3)⟩,
    ⟨some 21, none, .call 12 [(.t 19), (.t 20)]⟩,
    ⟨some 22, none, .mov (.t 21)⟩,
    ⟨some 23, (some (22, true)), .mov (.t 5)⟩,
    ⟨some 24, (some (22, true)), .tostr (.t 23)⟩,
    ⟨some 25, (some (22, true)), .mov (.t 7)⟩,
    ⟨some 26, (some (22, true)), .tostr (.t 25)⟩,
    ⟨some 27, (some (22, true)), .bin .eql (.t 24) (.t 26)⟩,
    ⟨some 28, none, .pick (.t 22) (.t 27) (.k (.bool false))⟩,
    ⟨some 29, none, .mov (.t 28)⟩,
    ⟨some 30, (some (29, true)), .mov (.t 6)⟩,
    ⟨some 31, (some (29, true)), .mov (.t 8)⟩,
    ⟨some 32, (some (29, true)), .bin .eql (.t 30) (.t 31)⟩,
    ⟨some 33, none, .pick (.t 29) (.t 32) (.k (.bool false))⟩,
    ⟨some 4, none, .mov (.t 33)⟩] none [4]
def c19 : ACode :=
  (.seq r19_0
  (.seq r19_1
   (.seq r19_2
    (.seq r19_3
     .ret))))
theorem fits19 : Fits Try.prog 19 34 c19 [.t 4] := ⟨⟨Try.f19, _, _, Try.func19, rfl, rfl, rfl, by decide, by kernel_rfl, by kernel_rfl⟩, Try.checked.mixed⟩

/- erasure/erasurelaw32.DiskPlays -/
def r5_0 : ACode := .reg [
    ⟨some 2, none, .mov (.k (.bool false))⟩] none [0]
def r5_1 : ACode := .reg [
    ⟨some 10, none, .mov (.t 0)⟩,
    ⟨some 11, none, .call 15 [(.t 10)]⟩,
    ⟨some 12, none, .un .not (.t 11)⟩] none [0, 12]
def r5_2 : ACode := .reg [
    ⟨some 13, none, .call 9 []⟩,
    ⟨some 2, none, .mov (.t 13)⟩] none [2]
def r5_3 : ACode := .reg [
    ⟨some 14, none, .call 11 []⟩,
    ⟨some 15, none, .call 16 []⟩,
    ⟨some 3, none, .alloc 26 [.slice none 0 0, .slice none 0 0, .int .i64 0, .bool false]⟩,
    ⟨some 4, none, .alloc 26 [.slice none 0 0, .slice none 0 0, .int .i64 0, .bool false]⟩,
    ⟨none, none, .store 4 (.t 3) (.t 14)⟩,
    ⟨none, none, .store 4 (.t 4) (.t 15)⟩] none [0, 3, 4]
def r5_4 : ACode := .reg [
    ⟨some 5, none, .mov (.k (.int .i64 (0)))⟩] none [0, 3, 4, 5]
def r5_5 : ACode := .reg [
    ⟨some 16, none, .mov (.t 5)⟩,
    ⟨some 17, none, .mov (.t 0)⟩,
    ⟨some 18, none, .len (.t 17)⟩,
    ⟨some 19, none, .bin .lss (.t 16) (.t 18)⟩] none [0, 3, 4, 5, 19]
def r5_6 : ACode := .reg [
    ⟨some 23, none, .load (some 4) (.t 3)⟩,
    ⟨some 24, none, .mov (.t 0)⟩,
    ⟨some 25, none, .mov (.t 5)⟩,
    ⟨some 26, none, .idxa 3 (.t 24) (.t 25)⟩,
    ⟨some 27, none, .load (some 3) (.t 26)⟩,
    ⟨some 28, none, .call 17 [(.t 23), (.t 27)]⟩,
    ⟨some 22, none, .mov (.t 28)⟩,
    ⟨some 29, none, .ext 0 (.t 22)⟩,
    ⟨some 30, none, .ext 1 (.t 22)⟩,
    ⟨some 6, none, .alloc 26 [.slice none 0 0, .slice none 0 0, .int .i64 0, .bool false]⟩,
    ⟨none, none, .store 4 (.t 6) (.t 29)⟩,
    ⟨some 7, none, .mov (.t 30)⟩] (some [0, 0, 0, 6, 14, 31, 63, 127, 127, 0, 767, 2047]) [0, 3, 4, 5, 6, 7]
def r5_7 : ACode := .reg [
    ⟨some 32, none, .load (some 4) (.t 4)⟩,
    ⟨some 33, none, .mov (.t 0)⟩,
    ⟨some 34, none, .mov (.t 5)⟩,
    ⟨some 35, none, .idxa 3 (.t 33) (.t 34)⟩,
    ⟨some 36, none, .load (some 3) (.t 35)⟩,
    ⟨some 37, none, .call 18 [(.t 32), (.t 36)]⟩,
    ⟨some 31, none, .mov (.t 37)⟩,
    ⟨some 38, none, .ext 0 (.t 31)⟩,
    ⟨some 39, none, .ext 1 (.t 31)⟩,
    ⟨some 8, none, .alloc 26 [.slice none 0 0, .slice none 0 0, .int .i64 0, .bool false]⟩,
    ⟨none, none, .store 4 (.t 8) (.t 38)⟩,
    ⟨some 9, none, .mov (.t 39)⟩] (some [0, 0, 0, 6, 14, 31, 63, 127, 127, 0, 767, 2047]) [0, 3, 4, 5, 6, 7, 8, 9]
def r5_8 : ACode := .reg [
    ⟨some 40, none, .mov (.t 7)⟩,
    ⟨some 41, none, .mov (.t 9)⟩,
    ⟨some 42, none, .bin .neq (.t 40) (.t 41)⟩,
    ⟨some 43, none, .mov (.t 42)⟩,
    ⟨some 44, (some (43, false)), .load (some 4) (.t 6)⟩,
    ⟨some 45, (some (43, false)), .load (some 4) (.t 8)⟩,
    ⟨some 46, (some (43, false)), .call 12 [(.t 44), (.t 45)]⟩,
    ⟨some 47, (some (43, false)), .un .not (.t 46)⟩,
    ⟨some 48, none, .pick (.t 43) (.k (.bool true)) (.t 47)⟩] none [0, 3, 4, 5, 6, 7, 8, 48]
def r5_9 : ACode := .reg [
    ⟨some 2, none, .mov (.k (.bool false))⟩] none [2]
def r5_10 : ACode := .reg [
    ⟨some 49, none, .mov (.t 7)⟩,
    ⟨some 50, none, .bin .eql (.t 49) (.k (.int .i64 (0)))⟩,
    ⟨some 51, none, .mov (.t 50)⟩,
    ⟨some 52, (some (51, false)), .mov (.t 7)⟩,
    ⟨some 53, (some (51, false)), .bin .eql (.t 52) (.k (.int .i64 (104)))⟩,
    ⟨some 54, none, .pick (.t 51) (.k (.bool true)) (.t 53)⟩] none [0, 3, 4, 5, 6, 8, 54]
def r5_11 : ACode := .reg [
    ⟨some 55, none, .load (some 4) (.t 6)⟩,
    ⟨some 56, none, .load (some 4) (.t 8)⟩,
    ⟨none, none, .store 4 (.t 3) (.t 55)⟩,
    ⟨none, none, .store 4 (.t 4) (.t 56)⟩] (some [0, 0, 1, 7]) [0, 3, 4, 5]
def r5_12 : ACode := .reg [
    ⟨some 57, none, .load (some 4) (.t 3)⟩,
    ⟨some 58, none, .load (some 4) (.t 4)⟩,
    ⟨some 59, none, .call 19 [(.t 57), (.t 58)]⟩,
    ⟨some 60, none, .un .not (.t 59)⟩,
    ⟨some 61, none, .mov (.t 60)⟩,
    ⟨some 62, (some (61, false)), .load (some 4) (.t 3)⟩,
    ⟨some 63, (some (61, false)), .call 20 [(.t 62)]⟩,
    ⟨some 64, (some (61, false)), .un .not (.t 63)⟩,
    ⟨some 65, none, .pick (.t 61) (.k (.bool true)) (.t 64)⟩] none [0, 3, 4, 5, 65]
def r5_13 : ACode := .reg [
    ⟨some 2, none, .mov (.k (.bool false))⟩] none [2]
def r5_14 : ACode := .reg [
    ⟨some 20, none, .mov (.t 5)⟩,
    ⟨some 21, none, .bin .add (.t 20) (.k (.int .i64 (1)))⟩,
    ⟨some 5, none, .mov (.t 21)⟩] none [0, 3, 4, 5]
def r5_15 : ACode := .reg [
    ⟨some 66, none, .call 9 []⟩,
    ⟨some 2, none, .mov (.t 66)⟩] none [2]
def c5 : ACode :=
  (.seq r5_0
  (.seq (.seq r5_1
    (.cond (.t 12)
     (.seq r5_2
      .ret)
     .skip))
   (.seq r5_3
    (.seq (.seq r5_4
      (.block 0 (.loop (.seq (.seq r5_5
          (.cond (.t 19)
           .skip
           (.exit 0)))
         (.seq (.block 1 (.seq r5_6
            (.seq r5_7
             (.seq (.seq r5_8
               (.cond (.t 48)
                (.seq r5_9
                 .ret)
                .skip))
              (.seq (.seq r5_10
                (.cond (.t 54)
                 r5_11
                 .skip))
               (.seq r5_12
                (.cond (.t 65)
                 (.seq r5_13
                  .ret)
                 .skip)))))))
          r5_14)))))
     (.seq r5_15
      .ret)))))
theorem fits5 : Fits Try.prog 5 67 c5 [.t 2] := ⟨⟨Try.f5, _, _, Try.func5, rfl, rfl, rfl, by decide, by kernel_rfl, by kernel_rfl⟩, Try.checked.mixed⟩

/- erasure/erasurelaw32.DiskRaw -/
def r6_0 : ACode := .reg [
    ⟨some 2, none, .box 26 (.t 0)⟩,
    ⟨some 3, none, .box 41 (.t 1)⟩,
    ⟨some 4, none, .mov (.k (.bool false))⟩] none [2, 3]
def r6_1 : ACode := .reg [
    ⟨some 9, none, .fld 0 (.t 2)⟩,
    ⟨some 10, none, .load none (.t 9)⟩,
    ⟨some 11, none, .len (.t 10)⟩,
    ⟨some 12, none, .bin .gtr (.t 11) (.k (.int .i64 (200)))⟩,
    ⟨some 13, none, .mov (.t 12)⟩,
    ⟨some 14, (some (13, false)), .fld 1 (.t 2)⟩,
    ⟨some 15, (some (13, false)), .load none (.t 14)⟩,
    ⟨some 16, (some (13, false)), .len (.t 15)⟩,
    ⟨some 17, (some (13, false)), .bin .gtr (.t 16) (.k (.int .i64 (200)))⟩,
    ⟨some 18, none, .pick (.t 13) (.k (.bool true)) (.t 17)⟩,
    ⟨some 19, none, .mov (.t 18)⟩,
    ⟨some 20, (some (19, false)), .fld 2 (.t 3)⟩,
    ⟨some 21, (some (19, false)), .load none (.t 20)⟩,
    ⟨some 22, (some (19, false)), .len (.t 21)⟩,
    ⟨some 23, (some (19, false)), .bin .gtr (.t 22) (.k (.int .i64 (200)))⟩,
    ⟨some 24, none, .pick (.t 19) (.k (.bool true)) (.t 23)⟩] none [2, 3, 24]
def r6_2 : ACode := .reg [
    ⟨some 25, none, .call 9 []⟩,
    ⟨some 4, none, .mov (.t 25)⟩] none [4]
def r6_3 : ACode := .reg [
    ⟨some 27, none, .load (some 4) (.t 2)⟩,
    ⟨some 28, none, .load (some 3) (.t 3)⟩,
    ⟨some 29, none, .call 17 [(.t 27), (.t 28)]⟩,
    ⟨some 26, none, .mov (.t 29)⟩,
    ⟨some 30, none, .ext 0 (.t 26)⟩,
    ⟨some 31, none, .ext 1 (.t 26)⟩,
    ⟨some 5, none, .alloc 26 [.slice none 0 0, .slice none 0 0, .int .i64 0, .bool false]⟩,
    ⟨none, none, .store 4 (.t 5) (.t 30)⟩,
    ⟨some 6, none, .mov (.t 31)⟩] none [2, 3, 5, 6]
def r6_4 : ACode := .reg [
    ⟨some 33, none, .load (some 4) (.t 2)⟩,
    ⟨some 34, none, .load (some 3) (.t 3)⟩,
    ⟨some 35, none, .call 18 [(.t 33), (.t 34)]⟩,
    ⟨some 32, none, .mov (.t 35)⟩,
    ⟨some 36, none, .ext 0 (.t 32)⟩,
    ⟨some 37, none, .ext 1 (.t 32)⟩,
    ⟨some 7, none, .alloc 26 [.slice none 0 0, .slice none 0 0, .int .i64 0, .bool false]⟩,
    ⟨none, none, .store 4 (.t 7) (.t 36)⟩,
    ⟨some 8, none, .mov (.t 37)⟩] none [2, 5, 6, 7, 8]
def r6_5 : ACode := .reg [
    ⟨some 38, none, .mov (.t 6)⟩,
    ⟨some 39, none, .mov (.t 8)⟩,
    ⟨some 40, none, .bin .eql (.t 38) (.t 39)⟩,
    ⟨some 41, none, .mov (.t 40)⟩,
    ⟨some 42, (some (41, true)), .load (some 4) (.t 5)⟩,
    ⟨some 43, (some (41, true)), .load (some 4) (.t 7)⟩,
    ⟨some 44, (some (41, true)), .call 12 [(.t 42), (.t 43)]⟩,
    ⟨some 45, none, .pick (.t 41) (.t 44) (.k (.bool false))⟩,
    ⟨some 46, none, .mov (.t 45)⟩,
    ⟨some 47, (some (46, true)), .load (some 4) (.t 2)⟩,
    ⟨some 48, (some (46, true)), .call 20 [(.t 47)]⟩,
    ⟨some 49, (some (46, true)), .load (some 4) (.t 2)⟩,
    ⟨some 50, (some (46, true)), .call 21 [(.t 49)]⟩,
    ⟨some 51, (some (46, true)), .eqb false (.t 48) (.t 50)⟩,
    ⟨some 52, none, .pick (.t 46) (.t 51) (.k (.bool false))⟩,
    ⟨some 53, none, .mov (.t 52)⟩,
    ⟨some 54, (some (53, true)), .load (some 4) (.t 2)⟩,
    ⟨some 55, (some (53, true)), .load (some 4) (.t 2)⟩,
    ⟨some 56, (some (53, true)), .call 19 [(.t 54), (.t 55)]⟩,
    ⟨some 57, none, .pick (.t 53) (.t 56) (.k (.bool false))⟩,
    ⟨some 58, none, .mov (.t 57)⟩,
    ⟨some 59, (some (58, true)), .call 9 []⟩,
    ⟨some 60, none, .pick (.t 58) (.t 59) (.k (.bool false))⟩,
    ⟨some 4, none, .mov (.t 60)⟩] (some [0, 0, 3, 7, 15, 15, 63, 127, 255, 511, 1023, 511, 4095, 8191, 16383, 32767, 65535, 65535, 262143, 524287, 1048575, 2097151, 4194303, 8388607]) [4]
def c6 : ACode :=
  (.seq r6_0
  (.seq (.seq r6_1
    (.cond (.t 24)
     (.seq r6_2
      .ret)
     .skip))
   (.seq r6_3
    (.seq r6_4
     (.seq r6_5
      .ret)))))
theorem fits6 : Fits Try.prog 6 61 c6 [.t 4] := ⟨⟨Try.f6, _, _, Try.func6, rfl, rfl, rfl, by decide, by kernel_rfl, by kernel_rfl⟩, Try.checked.mixed⟩

/- erasure/erasurelaw32.DiskKeeps -/
def r7_0 : ACode := .reg [
    ⟨some 4, none, .mov (.k (.bool false))⟩] none [0, 1]
def r7_1 : ACode := .reg [
    ⟨some 15, none, .mov (.t 0)⟩,
    ⟨some 16, none, .call 15 [(.t 15)]⟩,
    ⟨some 17, none, .un .not (.t 16)⟩] none [0, 1, 17]
def r7_2 : ACode := .reg [
    ⟨some 18, none, .call 9 []⟩,
    ⟨some 4, none, .mov (.t 18)⟩] none [4]
def r7_3 : ACode := .reg [
    ⟨some 19, none, .call 11 []⟩,
    ⟨some 5, none, .alloc 26 [.slice none 0 0, .slice none 0 0, .int .i64 0, .bool false]⟩,
    ⟨none, none, .store 4 (.t 5) (.t 19)⟩] none [0, 1, 5]
def r7_4 : ACode := .reg [
    ⟨some 20, none, .lit 5 1 0 [.int .u8 0] [] true⟩,
    ⟨some 6, none, .mov (.t 20)⟩,
    ⟨some 7, none, .mov (.k (.int .i64 (0)))⟩] none [0, 1, 5, 6, 7]
def r7_5 : ACode := .reg [
    ⟨some 8, none, .mov (.k (.int .i64 (0)))⟩] none [0, 1, 5, 6, 7, 8]
def r7_6 : ACode := .reg [
    ⟨some 21, none, .mov (.t 8)⟩,
    ⟨some 22, none, .mov (.t 0)⟩,
    ⟨some 23, none, .len (.t 22)⟩,
    ⟨some 24, none, .bin .lss (.t 21) (.t 23)⟩] none [0, 1, 5, 6, 7, 8, 24]
def r7_7 : ACode := .reg [
    ⟨some 27, none, .mov (.t 0)⟩,
    ⟨some 28, none, .mov (.t 8)⟩,
    ⟨some 29, none, .idxa 3 (.t 27) (.t 28)⟩,
    ⟨some 30, none, .fld 0 (.t 29)⟩,
    ⟨some 31, none, .load none (.t 30)⟩,
    ⟨some 32, none, .bin .rem (.t 31) (.k (.int .i64 (5)))⟩,
    ⟨some 33, none, .bin .gtr (.t 32) (.k (.int .i64 (2)))⟩,
    ⟨some 34, none, .mov (.t 33)⟩,
    ⟨some 35, (some (34, false)), .mov (.t 0)⟩,
    ⟨some 36, (some (34, false)), .mov (.t 8)⟩,
    ⟨some 37, (some (34, false)), .idxa 3 (.t 35) (.t 36)⟩,
    ⟨some 38, (some (34, false)), .fld 0 (.t 37)⟩,
    ⟨some 39, (some (34, false)), .load none (.t 38)⟩,
    ⟨some 40, (some (34, false)), .bin .lss (.t 39) (.k (.int .i64 (0)))⟩,
    ⟨some 41, none, .pick (.t 34) (.k (.bool true)) (.t 40)⟩] none [0, 1, 5, 6, 7, 8, 41]
def r7_8 : ACode := .reg [
    ⟨some 43, none, .load (some 4) (.t 5)⟩,
    ⟨some 44, none, .mov (.t 0)⟩,
    ⟨some 45, none, .mov (.t 8)⟩,
    ⟨some 46, none, .idxa 3 (.t 44) (.t 45)⟩,
    ⟨some 47, none, .load (some 3) (.t 46)⟩,
    ⟨some 48, none, .call 17 [(.t 43), (.t 47)]⟩,
    ⟨some 42, none, .mov (.t 48)⟩,
    ⟨some 49, none, .ext 0 (.t 42)⟩,
    ⟨some 50, none, .ext 1 (.t 42)⟩,
    ⟨some 9, none, .alloc 26 [.slice none 0 0, .slice none 0 0, .int .i64 0, .bool false]⟩,
    ⟨none, none, .store 4 (.t 9) (.t 49)⟩,
    ⟨some 10, none, .mov (.t 50)⟩] (some [0, 0, 0, 6, 14, 31, 63, 127, 127, 0, 767, 2047]) [0, 1, 5, 6, 7, 8, 9, 10]
def r7_9 : ACode := .reg [
    ⟨some 51, none, .mov (.t 0)⟩,
    ⟨some 52, none, .mov (.t 8)⟩,
    ⟨some 53, none, .idxa 3 (.t 51) (.t 52)⟩,
    ⟨some 54, none, .fld 0 (.t 53)⟩,
    ⟨some 55, none, .load none (.t 54)⟩,
    ⟨some 56, none, .bin .rem (.t 55) (.k (.int .i64 (5)))⟩,
    ⟨some 57, none, .bin .eql (.t 56) (.k (.int .i64 (0)))⟩,
    ⟨some 58, none, .mov (.t 57)⟩,
    ⟨some 59, (some (58, true)), .mov (.t 10)⟩,
    ⟨some 60, (some (58, true)), .bin .neq (.t 59) (.k (.int .i64 (8)))⟩,
    ⟨some 61, none, .pick (.t 58) (.t 60) (.k (.bool false))⟩] none [0, 1, 5, 6, 7, 8, 9, 10, 61]
def r7_10 : ACode := .reg [
    ⟨some 62, none, .mov (.t 6)⟩,
    ⟨some 63, none, .mov (.t 0)⟩,
    ⟨some 64, none, .mov (.t 8)⟩,
    ⟨some 65, none, .idxa 3 (.t 63) (.t 64)⟩,
    ⟨some 66, none, .fld 2 (.t 65)⟩,
    ⟨some 67, none, .load none (.t 66)⟩,
    ⟨some 68, none, .app 5 1 1 (.t 62) (.t 67)⟩,
    ⟨some 6, none, .mov (.t 68)⟩] none [0, 1, 5, 6, 7, 8, 9, 10]
def r7_11 : ACode := .reg [
    ⟨some 69, none, .mov (.t 0)⟩,
    ⟨some 70, none, .mov (.t 8)⟩,
    ⟨some 71, none, .idxa 3 (.t 69) (.t 70)⟩,
    ⟨some 72, none, .fld 0 (.t 71)⟩,
    ⟨some 73, none, .load none (.t 72)⟩,
    ⟨some 74, none, .bin .rem (.t 73) (.k (.int .i64 (5)))⟩,
    ⟨some 75, none, .bin .eql (.t 74) (.k (.int .i64 (1)))⟩,
    ⟨some 76, none, .mov (.t 75)⟩,
    ⟨some 77, (some (76, true)), .mov (.t 10)⟩,
    ⟨some 78, (some (76, true)), .bin .eql (.t 77) (.k (.int .i64 (0)))⟩,
    ⟨some 79, none, .pick (.t 76) (.t 78) (.k (.bool false))⟩] none [0, 1, 5, 6, 7, 8, 9, 10, 79]
def r7_12 : ACode := .reg [
    ⟨some 80, none, .mov (.t 6)⟩,
    ⟨some 81, none, .len (.t 80)⟩,
    ⟨some 7, none, .mov (.t 81)⟩] none [0, 1, 5, 6, 7, 8, 9, 10]
def r7_13 : ACode := .reg [
    ⟨some 82, none, .mov (.t 10)⟩,
    ⟨some 83, none, .bin .eql (.t 82) (.k (.int .i64 (104)))⟩] none [0, 1, 5, 6, 7, 8, 9, 10, 83]
def r7_14 : ACode := .reg [
    ⟨some 84, none, .load (some 4) (.t 9)⟩,
    ⟨none, none, .store 4 (.t 5) (.t 84)⟩] none [1, 5, 6, 7]
def r7_15 : ACode := .reg [
    ⟨some 85, none, .mov (.t 10)⟩,
    ⟨some 86, none, .bin .eql (.t 85) (.k (.int .i64 (0)))⟩] none [0, 1, 5, 6, 7, 8, 9, 86]
def r7_16 : ACode := .reg [
    ⟨some 87, none, .load (some 4) (.t 9)⟩,
    ⟨none, none, .store 4 (.t 5) (.t 87)⟩] none [0, 1, 5, 6, 7, 8]
def r7_17 : ACode := .reg [
    ⟨some 25, none, .mov (.t 8)⟩,
    ⟨some 26, none, .bin .add (.t 25) (.k (.int .i64 (1)))⟩,
    ⟨some 8, none, .mov (.t 26)⟩] none [0, 1, 5, 6, 7, 8]
def r7_18 : ACode := .reg [
    ⟨some 89, none, .load (some 4) (.t 5)⟩,
    ⟨some 90, none, .mov (.t 1)⟩,
    ⟨some 91, none, .call 22 [(.t 89), (.t 90)]⟩,
    ⟨some 88, none, .mov (.t 91)⟩,
    ⟨some 92, none, .ext 0 (.t 88)⟩,
    ⟨some 93, none, .ext 1 (.t 88)⟩,
    ⟨some 11, none, .alloc 26 [.slice none 0 0, .slice none 0 0, .int .i64 0, .bool false]⟩,
    ⟨none, none, .store 4 (.t 11) (.t 92)⟩,
    ⟨some 12, none, .mov (.t 93)⟩] none [6, 7, 11, 12]
def r7_19 : ACode := .reg [
    ⟨some 95, none, .load (some 4) (.t 11)⟩,
    ⟨some 96, none, .call 14 [(.t 95)]⟩,
    ⟨some 94, none, .mov (.t 96)⟩,
    ⟨some 97, none, .ext 0 (.t 94)⟩,
    ⟨some 98, none, .ext 1 (.t 94)⟩,
    ⟨some 13, none, .mov (.t 97)⟩,
    ⟨some 14, none, .mov (.t 98)⟩] none [6, 7, 12, 13, 14]
def r7_20 : ACode := .reg [
    ⟨some 99, none, .mov (.t 12)⟩,
    ⟨some 100, none, .bin .eql (.t 99) (.k (.int .i64 (0)))⟩,
    ⟨some 101, none, .mov (.t 100)⟩,
    ⟨some 102, (some (101, true)), .mov (.t 14)⟩,
    ⟨some 103, (some (101, true)), .bin .eql (.t 102) (.k (.int .i64 (0)))⟩,
    ⟨some 104, none, .pick (.t 101) (.t 103) (.k (.bool false))⟩,
    ⟨some 105, none, .mov (.t 104)⟩,
    ⟨some 106, (some (105, true)), .mov (.t 13)⟩,
    ⟨some 107, (some (105, true)), .len (.t 106)⟩,
    ⟨some 108, (some (105, true)), .mov (.t 7)⟩,
    ⟨some 109, (some (105, true)), .bin .geq (.t 107) (.t 108)⟩,
    ⟨some 110, none, .pick (.t 105) (.t 109) (.k (.bool false))⟩,
    ⟨some 111, none, .mov (.t 110)⟩,
    ⟨some 112, (some (111, true)), .mov (.t 13)⟩,
    ⟨some 113, (some (111, true)), .len (.t 112)⟩,
    ⟨some 114, (some (111, true)), .mov (.t 6)⟩,
    ⟨some 115, (some (111, true)), .len (.t 114)⟩,
    ⟨some 116, (some (111, true)), .bin .leq (.t 113) (.t 115)⟩,
    ⟨some 117, none, .pick (.t 111) (.t 116) (.k (.bool false))⟩,
    ⟨some 118, none, .mov (.t 117)⟩,
    ⟨some 119, (some (118, true)), .mov (.t 13)⟩,
    ⟨some 120, (some (118, true)), .tostr (.t 119)⟩,
    ⟨some 121, (some (118, true)), .mov (.t 6)⟩,
    ⟨some 122, (some (118, true)), .mov (.t 13)⟩,
    ⟨some 123, (some (118, true)), .len (.t 122)⟩,
    ⟨some 124, (some (118, true)), .sl 1 (.t 121) none (some (.t 123)) none⟩,
    ⟨some 125, (some (118, true)), .tostr (.t 124)⟩,
    ⟨some 126, (some (118, true)), .bin .eql (.t 120) (.t 125)⟩,
    ⟨some 127, none, .pick (.t 118) (.t 126) (.k (.bool false))⟩,
    ⟨some 128, none, .mov (.t 127)⟩,
    ⟨some 129, (some (128, true)), .call 9 []⟩,
    ⟨some 130, none, .pick (.t 128) (.t 129) (.k (.bool false))⟩,
    ⟨some 4, none, .mov (.t 130)⟩] (some [0, 1, 3, 7, 15, 31, 63, 127, 255, 127, 1023, 2047, 4095, 8191, 16383, 8191, 40959, 131071, 262143, 524287, 1048575, 2097151, 1048575, 1048575, 9437183, 30408703, 63963135, 134217727, 268435455, 536870911, 1073741823, 2147483647, 4294967295]) [4]
def c7 : ACode :=
  (.seq r7_0
  (.seq (.seq r7_1
    (.cond (.t 17)
     (.seq r7_2
      .ret)
     .skip))
   (.seq r7_3
    (.seq r7_4
     (.seq (.seq r7_5
       (.block 0 (.loop (.seq (.seq r7_6
           (.cond (.t 24)
            .skip
            (.exit 0)))
          (.seq (.block 1 (.seq (.seq r7_7
              (.cond (.t 41)
               (.exit 1)
               .skip))
             (.seq r7_8
              (.seq (.seq r7_9
                (.cond (.t 61)
                 r7_10
                 .skip))
               (.seq (.seq r7_11
                 (.cond (.t 79)
                  r7_12
                  .skip))
                (.seq (.seq r7_13
                  (.cond (.t 83)
                   (.seq r7_14
                    (.exit 0))
                   .skip))
                 (.seq r7_15
                  (.cond (.t 86)
                   r7_16
                   .skip))))))))
           r7_17)))))
      (.seq r7_18
       (.seq r7_19
        (.seq r7_20
         .ret))))))))
theorem fits7 : Fits Try.prog 7 131 c7 [.t 4] := ⟨⟨Try.f7, _, _, Try.func7, rfl, rfl, rfl, by decide, by kernel_rfl, by kernel_rfl⟩, Try.checked.mixed⟩

/- erasure/erasurelaw32.DiskDown -/
def r8_0 : ACode := .reg [
    ⟨some 6, none, .mov (.k (.bool false))⟩] none [0, 1, 2]
def r8_1 : ACode := .reg [
    ⟨some 24, none, .mov (.t 0)⟩,
    ⟨some 25, none, .len (.t 24)⟩,
    ⟨some 26, none, .bin .gtr (.t 25) (.k (.int .i64 (100)))⟩,
    ⟨some 27, none, .mov (.t 26)⟩,
    ⟨some 28, (some (27, false)), .mov (.t 1)⟩,
    ⟨some 29, (some (27, false)), .len (.t 28)⟩,
    ⟨some 30, (some (27, false)), .bin .gtr (.t 29) (.k (.int .i64 (100)))⟩,
    ⟨some 31, none, .pick (.t 27) (.k (.bool true)) (.t 30)⟩,
    ⟨some 32, none, .mov (.t 31)⟩,
    ⟨some 33, (some (32, false)), .mov (.t 1)⟩,
    ⟨some 34, (some (32, false)), .len (.t 33)⟩,
    ⟨some 35, (some (32, false)), .bin .eql (.t 34) (.k (.int .i64 (0)))⟩,
    ⟨some 36, none, .pick (.t 32) (.k (.bool true)) (.t 35)⟩] none [0, 1, 2, 36]
def r8_2 : ACode := .reg [
    ⟨some 37, none, .call 9 []⟩,
    ⟨some 6, none, .mov (.t 37)⟩] none [6]
def r8_3 : ACode := .reg [
    ⟨some 39, none, .call 11 []⟩,
    ⟨some 40, none, .mov (.t 0)⟩,
    ⟨some 41, none, .call 10 [(.t 39), (.t 40)]⟩,
    ⟨some 38, none, .mov (.t 41)⟩,
    ⟨some 42, none, .ext 0 (.t 38)⟩,
    ⟨some 43, none, .ext 1 (.t 38)⟩,
    ⟨some 7, none, .alloc 26 [.slice none 0 0, .slice none 0 0, .int .i64 0, .bool false]⟩,
    ⟨none, none, .store 4 (.t 7) (.t 42)⟩,
    ⟨some 8, none, .mov (.t 43)⟩] none [0, 1, 2, 7, 8]
def r8_4 : ACode := .reg [
    ⟨some 45, none, .load (some 4) (.t 7)⟩,
    ⟨some 46, none, .call 23 [(.t 45)]⟩,
    ⟨some 44, none, .mov (.t 46)⟩,
    ⟨some 47, none, .ext 0 (.t 44)⟩,
    ⟨some 48, none, .ext 1 (.t 44)⟩,
    ⟨none, none, .store 4 (.t 7) (.t 47)⟩,
    ⟨some 9, none, .mov (.t 48)⟩] none [0, 1, 2, 7, 8, 9]
def r8_5 : ACode := .reg [
    ⟨some 50, none, .load (some 4) (.t 7)⟩,
    ⟨some 51, none, .call 13 [(.t 50), (.k (.int .i64 (0)))]⟩,
    ⟨some 49, none, .mov (.t 51)⟩,
    ⟨some 52, none, .ext 0 (.t 49)⟩,
    ⟨some 53, none, .ext 1 (.t 49)⟩,
    ⟨none, none, .store 4 (.t 7) (.t 52)⟩,
    ⟨some 10, none, .mov (.t 53)⟩] none [0, 1, 2, 7, 8, 9, 10]
def r8_6 : ACode := .reg [
    ⟨some 55, none, .load (some 4) (.t 7)⟩,
    ⟨some 56, none, .mov (.t 1)⟩,
    ⟨some 57, none, .call 10 [(.t 55), (.t 56)]⟩,
    ⟨some 54, none, .mov (.t 57)⟩,
    ⟨some 58, none, .ext 0 (.t 54)⟩,
    ⟨some 59, none, .ext 1 (.t 54)⟩,
    ⟨none, none, .store 4 (.t 7) (.t 58)⟩,
    ⟨some 11, none, .mov (.t 59)⟩] none [0, 2, 7, 8, 9, 10, 11]
def r8_7 : ACode := .reg [
    ⟨some 60, none, .mov (.t 8)⟩,
    ⟨some 61, none, .bin .neq (.t 60) (.k (.int .i64 (0)))⟩,
    ⟨some 62, none, .mov (.t 61)⟩,
    ⟨some 63, (some (62, false)), .mov (.t 9)⟩,
    ⟨some 64, (some (62, false)), .bin .neq (.t 63) (.k (.int .i64 (0)))⟩,
    ⟨some 65, none, .pick (.t 62) (.k (.bool true)) (.t 64)⟩,
    ⟨some 66, none, .mov (.t 65)⟩,
    ⟨some 67, (some (66, false)), .mov (.t 10)⟩,
    ⟨some 68, (some (66, false)), .bin .neq (.t 67) (.k (.int .i64 (0)))⟩,
    ⟨some 69, none, .pick (.t 66) (.k (.bool true)) (.t 68)⟩,
    ⟨some 70, none, .mov (.t 69)⟩,
    ⟨some 71, (some (70, false)), .mov (.t 11)⟩,
    ⟨some 72, (some (70, false)), .bin .neq (.t 71) (.k (.int .i64 (104)))⟩,
    ⟨some 73, none, .pick (.t 70) (.k (.bool true)) (.t 72)⟩] none [0, 2, 7, 73]
def r8_8 : ACode := .reg [
    ⟨some 6, none, .mov (.k (.bool false))⟩] none [6]
def r8_9 : ACode := .reg [
    ⟨some 75, none, .load (some 4) (.t 7)⟩,
    ⟨some 76, none, .call 10 [(.t 75), (.k (.slice none 0 0))]⟩,
    ⟨some 74, none, .mov (.t 76)⟩,
    ⟨some 77, none, .ext 0 (.t 74)⟩,
    ⟨some 78, none, .ext 1 (.t 74)⟩,
    ⟨some 12, none, .alloc 26 [.slice none 0 0, .slice none 0 0, .int .i64 0, .bool false]⟩,
    ⟨none, none, .store 4 (.t 12) (.t 77)⟩,
    ⟨some 13, none, .mov (.t 78)⟩] none [0, 2, 7, 12, 13]
def r8_10 : ACode := .reg [
    ⟨some 80, none, .load (some 4) (.t 7)⟩,
    ⟨some 81, none, .call 23 [(.t 80)]⟩,
    ⟨some 79, none, .mov (.t 81)⟩,
    ⟨some 82, none, .ext 0 (.t 79)⟩,
    ⟨some 83, none, .ext 1 (.t 79)⟩,
    ⟨some 14, none, .alloc 26 [.slice none 0 0, .slice none 0 0, .int .i64 0, .bool false]⟩,
    ⟨none, none, .store 4 (.t 14) (.t 82)⟩,
    ⟨some 15, none, .mov (.t 83)⟩] none [0, 2, 7, 12, 13, 14, 15]
def r8_11 : ACode := .reg [
    ⟨some 85, none, .load (some 4) (.t 7)⟩,
    ⟨some 86, none, .call 24 [(.t 85), (.k (.int .i64 (0)))]⟩,
    ⟨some 84, none, .mov (.t 86)⟩,
    ⟨some 87, none, .ext 0 (.t 84)⟩,
    ⟨some 88, none, .ext 1 (.t 84)⟩,
    ⟨some 16, none, .alloc 26 [.slice none 0 0, .slice none 0 0, .int .i64 0, .bool false]⟩,
    ⟨none, none, .store 4 (.t 16) (.t 87)⟩,
    ⟨some 17, none, .mov (.t 88)⟩] none [0, 2, 7, 12, 13, 14, 15, 16, 17]
def r8_12 : ACode := .reg [
    ⟨some 90, none, .load (some 4) (.t 7)⟩,
    ⟨some 91, none, .call 14 [(.t 90)]⟩,
    ⟨some 89, none, .mov (.t 91)⟩,
    ⟨some 92, none, .ext 0 (.t 89)⟩,
    ⟨some 93, none, .ext 1 (.t 89)⟩,
    ⟨some 18, none, .mov (.t 92)⟩,
    ⟨some 19, none, .mov (.t 93)⟩] none [0, 2, 7, 12, 13, 14, 15, 16, 17, 19]
def r8_13 : ACode := .reg [
    ⟨some 95, none, .load (some 4) (.t 7)⟩,
    ⟨some 96, none, .mov (.t 2)⟩,
    ⟨some 97, none, .call 22 [(.t 95), (.t 96)]⟩,
    ⟨some 94, none, .mov (.t 97)⟩,
    ⟨some 98, none, .ext 0 (.t 94)⟩,
    ⟨some 99, none, .ext 1 (.t 94)⟩,
    ⟨some 20, none, .alloc 26 [.slice none 0 0, .slice none 0 0, .int .i64 0, .bool false]⟩,
    ⟨none, none, .store 4 (.t 20) (.t 98)⟩,
    ⟨some 21, none, .mov (.t 99)⟩] none [0, 7, 12, 13, 14, 15, 16, 17, 19, 20, 21]
def r8_14 : ACode := .reg [
    ⟨some 101, none, .load (some 4) (.t 20)⟩,
    ⟨some 102, none, .call 14 [(.t 101)]⟩,
    ⟨some 100, none, .mov (.t 102)⟩,
    ⟨some 103, none, .ext 0 (.t 100)⟩,
    ⟨some 104, none, .ext 1 (.t 100)⟩,
    ⟨some 22, none, .mov (.t 103)⟩,
    ⟨some 23, none, .mov (.t 104)⟩] none [0, 7, 12, 13, 14, 15, 16, 17, 19, 21, 22, 23]
def r8_15 : ACode := .reg [
    ⟨some 105, none, .mov (.t 13)⟩,
    ⟨some 106, none, .bin .eql (.t 105) (.k (.int .i64 (104)))⟩,
    ⟨some 107, none, .mov (.t 106)⟩,
    ⟨some 108, (some (107, true)), .mov (.t 15)⟩,
    ⟨some 109, (some (107, true)), .bin .eql (.t 108) (.k (.int .i64 (104)))⟩,
    ⟨some 110, none, .pick (.t 107) (.t 109) (.k (.bool false))⟩,
    ⟨some 111, none, .mov (.t 110)⟩,
    ⟨some 112, (some (111, true)), .mov (.t 17)⟩,
    ⟨some 113, (some (111, true)), .bin .eql (.t 112) (.k (.int .i64 (104)))⟩,
    ⟨some 114, none, .pick (.t 111) (.t 113) (.k (.bool false))⟩,
    ⟨some 115, none, .mov (.t 114)⟩,
    ⟨some 116, (some (115, true)), .mov (.t 19)⟩,
    ⟨some 117, (some (115, true)), .bin .eql (.t 116) (.k (.int .i64 (104)))⟩,
    ⟨some 118, none, .pick (.t 115) (.t 117) (.k (.bool false))⟩,
    ⟨some 119, none, .mov (.t 118)⟩,
    ⟨some 120, (some (119, true)), .load (some 4) (.t 12)⟩,
    ⟨some 121, (some (119, true)), .load (some 4) (.t 7)⟩,
    ⟨some 122, (some (119, true)), .call 12 [(.t 120), (.t 121)]⟩,
    ⟨some 123, none, .pick (.t 119) (.t 122) (.k (.bool false))⟩,
    ⟨some 124, none, .mov (.t 123)⟩,
    ⟨some 125, (some (124, true)), .load (some 4) (.t 14)⟩,
    ⟨some 126, (some (124, true)), .load (some 4) (.t 7)⟩,
    ⟨some 127, (some (124, true)), .call 12 [(.t 125), (.t 126)]⟩,
    ⟨some 128, none, .pick (.t 124) (.t 127) (.k (.bool false))⟩,
    ⟨some 129, none, .mov (.t 128)⟩,
    ⟨some 130, (some (129, true)), .load (some 4) (.t 16)⟩,
    ⟨some 131, (some (129, true)), .load (some 4) (.t 7)⟩,
    ⟨some 132, (some (129, true)), .call 12 [(.t 130), (.t 131)]⟩,
    ⟨some 133, none, .pick (.t 129) (.t 132) (.k (.bool false))⟩,
    ⟨some 134, none, .mov (.t 133)⟩,
    ⟨some 135, (some (134, true)), .mov (.t 21)⟩,
    ⟨some 136, (some (134, true)), .bin .eql (.t 135) (.k (.int .i64 (0)))⟩,
    ⟨some 137, none, .pick (.t 134) (.t 136) (.k (.bool false))⟩,
    ⟨some 138, none, .mov (.t 137)⟩,
    ⟨some 139, (some (138, true)), .mov (.t 23)⟩,
    ⟨some 140, (some (138, true)), .bin .eql (.t 139) (.k (.int .i64 (0)))⟩,
    ⟨some 141, none, .pick (.t 138) (.t 140) (.k (.bool false))⟩,
    ⟨some 142, none, .mov (.t 141)⟩,
    ⟨some 143, (some (142, true)), .mov (.t 22)⟩,
    ⟨some 144, (some (142, true)), .tostr (.t 143)⟩,
    ⟨some 145, (some (142, true)), .mov (.t 0)⟩,
    ⟨some 146, (some (142, true)), .tostr (.t 145)⟩,
    ⟨some 147, (some (142, true)), .bin .eql (.t 144) (.t 146)⟩,
    ⟨some 148, none, .pick (.t 142) (.t 147) (.k (.bool false))⟩,
    ⟨some 149, none, .mov (.t 148)⟩,
    ⟨some 150, (some (149, true)), .call 9 []⟩,
    ⟨some 151, none, .pick (.t 149) (.t 150) (.k (.bool false))⟩,
    ⟨some 6, none, .mov (.t 151)⟩] none [6]
def c8 : ACode :=
  (.seq r8_0
  (.seq (.seq r8_1
    (.cond (.t 36)
     (.seq r8_2
      .ret)
     .skip))
   (.seq r8_3
    (.seq r8_4
     (.seq r8_5
      (.seq r8_6
       (.seq (.seq r8_7
         (.cond (.t 73)
          (.seq r8_8
           .ret)
          .skip))
        (.seq r8_9
         (.seq r8_10
          (.seq r8_11
           (.seq r8_12
            (.seq r8_13
             (.seq r8_14
              (.seq r8_15
               .ret))))))))))))))
theorem fits8 : Fits Try.prog 8 152 c8 [.t 6] := ⟨⟨Try.f8, _, _, Try.func8, rfl, rfl, rfl, by decide, by kernel_rfl, by kernel_rfl⟩, Try.checked.mixed⟩
end Go.Proofs.Ytcfipgadihjojaa.Am

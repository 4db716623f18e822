/- The code of functions of disk in the form of the abstract machine, and that it fits. -/
import Derived.Test.YtilbfoijfiebdaaCNames
namespace Go.Proofs.Ytilbfoijfiebdaa.Am
open Go
set_option linter.unusedVariables false
set_option linter.unusedSimpArgs false
set_option maxRecDepth 100000
/- erasure/disk.Append -/
def r_disk_Append_0 : ACode := .reg [
    ⟨some 2, none, .box 26 (.t 0)⟩,
    ⟨some 4, none, .alloc 26 [.slice none 0 0, .slice none 0 0, .int .i64 0, .bool false]⟩,
    ⟨some 5, none, .mov (.k (.int .i64 (0)))⟩] none [1, 2, 4]
def r_disk_Append_1 : ACode := .reg [
    ⟨some 7, none, .load (some 4) (.t 2)⟩,
    ⟨some 8, none, .call 20 [(.t 7)]⟩,
    ⟨some 9, none, .un .not (.t 8)⟩] none [1, 2, 4, 9]
def r_disk_Append_2 : ACode := .reg [
    ⟨some 10, none, .build [.slice none 0 0, .slice none 0 0, .int .i64 0, .bool false] []⟩,
    ⟨none, none, .store 4 (.t 4) (.t 10)⟩,
    ⟨some 5, none, .mov (.k (.int .i64 (1)))⟩] none [4, 5]
def r_disk_Append_3 : ACode := .reg [
    ⟨some 11, none, .load (some 4) (.t 2)⟩,
    ⟨some 12, none, .call 25 [(.t 11)]⟩,
    ⟨some 6, none, .alloc 26 [.slice none 0 0, .slice none 0 0, .int .i64 0, .bool false]⟩,
    ⟨none, none, .store 4 (.t 6) (.t 12)⟩] none [1, 2, 4, 6]
def r_disk_Append_4 : ACode := .reg [
    ⟨some 13, none, .fld 3 (.t 2)⟩,
    ⟨some 14, none, .load none (.t 13)⟩] none [1, 2, 4, 6, 14]
def r_disk_Append_5 : ACode := .reg [
    ⟨some 15, none, .load (some 4) (.t 6)⟩,
    ⟨none, none, .store 4 (.t 4) (.t 15)⟩,
    ⟨some 5, none, .mov (.k (.int .i64 (104)))⟩] none [4, 5]
def r_disk_Append_6 : ACode := .reg [
    ⟨some 16, none, .mov (.t 1)⟩,
    ⟨some 17, none, .len (.t 16)⟩,
    ⟨some 18, none, .fld 0 (.t 2)⟩,
    ⟨some 19, none, .load none (.t 18)⟩,
    ⟨some 20, none, .len (.t 19)⟩,
    ⟨some 21, none, .bin .sub (.k (.int .i64 (131072))) (.t 20)⟩,
    ⟨some 22, none, .fld 1 (.t 2)⟩,
    ⟨some 23, none, .load none (.t 22)⟩,
    ⟨some 24, none, .len (.t 23)⟩,
    ⟨some 25, none, .bin .sub (.t 21) (.t 24)⟩,
    ⟨some 26, none, .bin .gtr (.t 17) (.t 25)⟩] none [1, 2, 4, 6, 26]
def r_disk_Append_7 : ACode := .reg [
    ⟨some 27, none, .build [.slice none 0 0, .slice none 0 0, .int .i64 0, .bool false] []⟩,
    ⟨none, none, .store 4 (.t 4) (.t 27)⟩,
    ⟨some 5, none, .mov (.k (.int .i64 (8)))⟩] none [4, 5]
def r_disk_Append_8 : ACode := .reg [
    ⟨some 28, none, .fld 2 (.t 2)⟩,
    ⟨some 29, none, .load none (.t 28)⟩,
    ⟨some 30, none, .bin .geq (.t 29) (.k (.int .i64 (0)))⟩,
    ⟨some 31, none, .mov (.t 30)⟩,
    ⟨some 32, (some (31, true)), .fld 2 (.t 2)⟩,
    ⟨some 33, (some (31, true)), .load none (.t 32)⟩,
    ⟨some 34, (some (31, true)), .mov (.t 1)⟩,
    ⟨some 35, (some (31, true)), .len (.t 34)⟩,
    ⟨some 36, (some (31, true)), .bin .lss (.t 33) (.t 35)⟩,
    ⟨some 37, none, .pick (.t 31) (.t 36) (.k (.bool false))⟩] none [1, 2, 4, 6, 37]
def r_disk_Append_9 : ACode := .reg [
    ⟨some 38, none, .fld 1 (.t 2)⟩,
    ⟨some 39, none, .load none (.t 38)⟩,
    ⟨some 40, none, .mov (.t 1)⟩,
    ⟨some 41, none, .fld 2 (.t 2)⟩,
    ⟨some 42, none, .load none (.t 41)⟩,
    ⟨some 43, none, .sl 1 (.t 40) none (some (.t 42)) none⟩,
    ⟨some 44, none, .call 26 [(.t 39), (.t 43)]⟩,
    ⟨some 45, none, .fld 1 (.t 6)⟩,
    ⟨none, none, .store 1 (.t 45) (.t 44)⟩] (some [0, 1, 0, 0, 8, 28, 63, 127, 255]) [4, 6]
def r_disk_Append_10 : ACode := .reg [
    ⟨some 46, none, .fld 2 (.t 6)⟩,
    ⟨none, none, .store 1 (.t 46) (.k (.int .i64 (0)))⟩] none [4, 6]
def r_disk_Append_11 : ACode := .reg [
    ⟨some 47, none, .fld 3 (.t 6)⟩,
    ⟨none, none, .store 1 (.t 47) (.k (.bool true))⟩] none [4, 6]
def r_disk_Append_12 : ACode := .reg [
    ⟨some 48, none, .load (some 4) (.t 6)⟩,
    ⟨none, none, .store 4 (.t 4) (.t 48)⟩,
    ⟨some 5, none, .mov (.k (.int .i64 (104)))⟩] none [4, 5]
def r_disk_Append_13 : ACode := .reg [
    ⟨some 49, none, .fld 1 (.t 2)⟩,
    ⟨some 50, none, .load none (.t 49)⟩,
    ⟨some 51, none, .mov (.t 1)⟩,
    ⟨some 52, none, .call 26 [(.t 50), (.t 51)]⟩,
    ⟨some 53, none, .fld 1 (.t 6)⟩,
    ⟨none, none, .store 1 (.t 53) (.t 52)⟩] none [1, 2, 4, 6]
def r_disk_Append_14 : ACode := .reg [
    ⟨some 54, none, .fld 2 (.t 2)⟩,
    ⟨some 55, none, .load none (.t 54)⟩,
    ⟨some 56, none, .bin .geq (.t 55) (.k (.int .i64 (0)))⟩] none [1, 2, 4, 6, 56]
def r_disk_Append_15 : ACode := .reg [
    ⟨some 57, none, .fld 2 (.t 2)⟩,
    ⟨some 58, none, .load none (.t 57)⟩,
    ⟨some 59, none, .mov (.t 1)⟩,
    ⟨some 60, none, .len (.t 59)⟩,
    ⟨some 61, none, .bin .sub (.t 58) (.t 60)⟩,
    ⟨some 62, none, .fld 2 (.t 6)⟩,
    ⟨none, none, .store 1 (.t 62) (.t 61)⟩] none [4, 6]
def r_disk_Append_16 : ACode := .reg [
    ⟨some 63, none, .load (some 4) (.t 6)⟩,
    ⟨none, none, .store 4 (.t 4) (.t 63)⟩,
    ⟨some 5, none, .mov (.k (.int .i64 (0)))⟩] none [4, 5]
def c_disk_Append : ACode :=
  (.seq r_disk_Append_0
  (.seq (.seq r_disk_Append_1
    (.cond (.t 9)
     (.seq r_disk_Append_2
      .ret)
     .skip))
   (.seq r_disk_Append_3
    (.seq (.seq r_disk_Append_4
      (.cond (.t 14)
       (.seq r_disk_Append_5
        .ret)
       .skip))
     (.seq (.seq r_disk_Append_6
       (.cond (.t 26)
        (.seq r_disk_Append_7
         .ret)
        .skip))
      (.seq (.seq r_disk_Append_8
        (.cond (.t 37)
         (.seq r_disk_Append_9
          (.seq r_disk_Append_10
           (.seq r_disk_Append_11
            (.seq r_disk_Append_12
             .ret))))
         .skip))
       (.seq r_disk_Append_13
        (.seq (.seq r_disk_Append_14
          (.cond (.t 56)
           r_disk_Append_15
           .skip))
         (.seq r_disk_Append_16
          .ret)))))))))
theorem fits_disk_Append : Fits Try.prog 10 64 c_disk_Append [.c 4 (some 4), .t 5] := ⟨⟨Try.f10, _, _, Try.func10, rfl, rfl, rfl, by decide, by kernel_rfl, by kernel_rfl⟩, Try.checked.mixed⟩
/- erasure/disk.New -/
def r_disk_New_0 : ACode := .reg [
    ⟨some 0, none, .alloc 26 [.slice none 0 0, .slice none 0 0, .int .i64 0, .bool false]⟩] none [0]
def r_disk_New_1 : ACode := .reg [
    ⟨some 1, none, .build [.slice none 0 0, .slice none 0 0, .int .i64 0, .bool false] [(2, 1, (.k (.int .i64 (-1))))]⟩,
    ⟨none, none, .store 4 (.t 0) (.t 1)⟩] none [0]
def c_disk_New : ACode :=
  (.seq r_disk_New_0
  (.seq r_disk_New_1
   .ret))
theorem fits_disk_New : Fits Try.prog 11 2 c_disk_New [.c 0 (some 4)] := ⟨⟨Try.f11, _, _, Try.func11, rfl, rfl, rfl, by decide, by kernel_rfl, by kernel_rfl⟩, Try.checked.mixed⟩
/- erasure/disk.Fail -/
def r_disk_Fail_0 : ACode := .reg [
    ⟨some 2, none, .box 26 (.t 0)⟩,
    ⟨some 4, none, .alloc 26 [.slice none 0 0, .slice none 0 0, .int .i64 0, .bool false]⟩,
    ⟨some 5, none, .mov (.k (.int .i64 (0)))⟩] none [1, 2, 4]
def r_disk_Fail_1 : ACode := .reg [
    ⟨some 7, none, .load (some 4) (.t 2)⟩,
    ⟨some 8, none, .call 20 [(.t 7)]⟩,
    ⟨some 9, none, .un .not (.t 8)⟩,
    ⟨some 10, none, .mov (.t 9)⟩,
    ⟨some 11, (some (10, false)), .mov (.t 1)⟩,
    ⟨some 12, (some (10, false)), .bin .lss (.t 11) (.k (.int .i64 (-1)))⟩,
    ⟨some 13, none, .pick (.t 10) (.k (.bool true)) (.t 12)⟩] none [1, 2, 4, 13]
def r_disk_Fail_2 : ACode := .reg [
    ⟨some 14, none, .build [.slice none 0 0, .slice none 0 0, .int .i64 0, .bool false] []⟩,
    ⟨none, none, .store 4 (.t 4) (.t 14)⟩,
    ⟨some 5, none, .mov (.k (.int .i64 (1)))⟩] none [4, 5]
def r_disk_Fail_3 : ACode := .reg [
    ⟨some 15, none, .load (some 4) (.t 2)⟩,
    ⟨some 16, none, .call 25 [(.t 15)]⟩,
    ⟨some 6, none, .alloc 26 [.slice none 0 0, .slice none 0 0, .int .i64 0, .bool false]⟩,
    ⟨none, none, .store 4 (.t 6) (.t 16)⟩] none [1, 4, 6]
def r_disk_Fail_4 : ACode := .reg [
    ⟨some 17, none, .mov (.t 1)⟩,
    ⟨some 18, none, .fld 2 (.t 6)⟩,
    ⟨none, none, .store 1 (.t 18) (.t 17)⟩] none [4, 6]
def r_disk_Fail_5 : ACode := .reg [
    ⟨some 19, none, .load (some 4) (.t 6)⟩,
    ⟨none, none, .store 4 (.t 4) (.t 19)⟩,
    ⟨some 5, none, .mov (.k (.int .i64 (0)))⟩] none [4, 5]
def c_disk_Fail : ACode :=
  (.seq r_disk_Fail_0
  (.seq (.seq r_disk_Fail_1
    (.cond (.t 13)
     (.seq r_disk_Fail_2
      .ret)
     .skip))
   (.seq r_disk_Fail_3
    (.seq r_disk_Fail_4
     (.seq r_disk_Fail_5
      .ret)))))
theorem fits_disk_Fail : Fits Try.prog 13 20 c_disk_Fail [.c 4 (some 4), .t 5] := ⟨⟨Try.f13, _, _, Try.func13, rfl, rfl, rfl, by decide, by kernel_rfl, by kernel_rfl⟩, Try.checked.mixed⟩
/- erasure/disk.Read -/
def r_disk_Read_0 : ACode := .reg [
    ⟨some 1, none, .box 26 (.t 0)⟩,
    ⟨some 2, none, .mov (.k (.slice none 0 0))⟩,
    ⟨some 3, none, .mov (.k (.int .i64 (0)))⟩] none [1]
def r_disk_Read_1 : ACode := .reg [
    ⟨some 4, none, .load (some 4) (.t 1)⟩,
    ⟨some 5, none, .call 20 [(.t 4)]⟩,
    ⟨some 6, none, .un .not (.t 5)⟩] none [1, 6]
def r_disk_Read_2 : ACode := .reg [
    ⟨some 2, none, .mov (.k (.slice none 0 0))⟩,
    ⟨some 3, none, .mov (.k (.int .i64 (1)))⟩] none [2, 3]
def r_disk_Read_3 : ACode := .reg [
    ⟨some 7, none, .fld 3 (.t 1)⟩,
    ⟨some 8, none, .load none (.t 7)⟩] none [1, 8]
def r_disk_Read_4 : ACode := .reg [
    ⟨some 2, none, .mov (.k (.slice none 0 0))⟩,
    ⟨some 3, none, .mov (.k (.int .i64 (104)))⟩] none [2, 3]
def r_disk_Read_5 : ACode := .reg [
    ⟨some 9, none, .fld 0 (.t 1)⟩,
    ⟨some 10, none, .load none (.t 9)⟩,
    ⟨some 11, none, .fld 1 (.t 1)⟩,
    ⟨some 12, none, .load none (.t 11)⟩,
    ⟨some 13, none, .call 26 [(.t 10), (.t 12)]⟩,
    ⟨some 2, none, .mov (.t 13)⟩,
    ⟨some 3, none, .mov (.k (.int .i64 (0)))⟩] none [2, 3]
def c_disk_Read : ACode :=
  (.seq r_disk_Read_0
  (.seq (.seq r_disk_Read_1
    (.cond (.t 6)
     (.seq r_disk_Read_2
      .ret)
     .skip))
   (.seq (.seq r_disk_Read_3
     (.cond (.t 8)
      (.seq r_disk_Read_4
       .ret)
      .skip))
    (.seq r_disk_Read_5
     .ret))))
theorem fits_disk_Read : Fits Try.prog 14 14 c_disk_Read [.t 2, .t 3] := ⟨⟨Try.f14, _, _, Try.func14, rfl, rfl, rfl, by decide, by kernel_rfl, by kernel_rfl⟩, Try.checked.mixed⟩
/- erasure/disk.Valid -/
def r_disk_Valid_0 : ACode := .reg [
    ⟨some 1, none, .box 26 (.t 0)⟩,
    ⟨some 2, none, .mov (.k (.bool false))⟩] none [1]
def r_disk_Valid_1 : ACode := .reg [
    ⟨some 3, none, .fld 2 (.t 1)⟩,
    ⟨some 4, none, .load none (.t 3)⟩,
    ⟨some 5, none, .bin .geq (.t 4) (.k (.int .i64 (-1)))⟩,
    ⟨some 6, none, .mov (.t 5)⟩,
    ⟨some 7, (some (6, true)), .fld 0 (.t 1)⟩,
    ⟨some 8, (some (6, true)), .load none (.t 7)⟩,
    ⟨some 9, (some (6, true)), .len (.t 8)⟩,
    ⟨some 10, (some (6, true)), .bin .leq (.t 9) (.k (.int .i64 (131072)))⟩,
    ⟨some 11, none, .pick (.t 6) (.t 10) (.k (.bool false))⟩,
    ⟨some 12, none, .mov (.t 11)⟩,
    ⟨some 13, (some (12, true)), .fld 1 (.t 1)⟩,
    ⟨some 14, (some (12, true)), .load none (.t 13)⟩,
    ⟨some 15, (some (12, true)), .len (.t 14)⟩,
    ⟨some 16, (some (12, true)), .fld 0 (.t 1)⟩,
    ⟨some 17, (some (12, true)), .load none (.t 16)⟩,
    ⟨some 18, (some (12, true)), .len (.t 17)⟩,
    ⟨some 19, (some (12, true)), .bin .sub (.k (.int .i64 (131072))) (.t 18)⟩,
    ⟨some 20, (some (12, true)), .bin .leq (.t 15) (.t 19)⟩,
    ⟨some 21, none, .pick (.t 12) (.t 20) (.k (.bool false))⟩,
    ⟨some 2, none, .mov (.t 21)⟩] none [2]
def c_disk_Valid : ACode :=
  (.seq r_disk_Valid_0
  (.seq r_disk_Valid_1
   .ret))
theorem fits_disk_Valid : Fits Try.prog 20 22 c_disk_Valid [.t 2] := ⟨⟨Try.f20, _, _, Try.func20, rfl, rfl, rfl, by decide, by kernel_rfl, by kernel_rfl⟩, Try.checked.mixed⟩
/- erasure/disk.Crash -/
def r_disk_Crash_0 : ACode := .reg [
    ⟨some 2, none, .box 26 (.t 0)⟩,
    ⟨some 4, none, .alloc 26 [.slice none 0 0, .slice none 0 0, .int .i64 0, .bool false]⟩,
    ⟨some 5, none, .mov (.k (.int .i64 (0)))⟩] none [1, 2, 4]
def r_disk_Crash_1 : ACode := .reg [
    ⟨some 6, none, .load (some 4) (.t 2)⟩,
    ⟨some 7, none, .call 20 [(.t 6)]⟩,
    ⟨some 8, none, .un .not (.t 7)⟩] none [1, 2, 4, 8]
def r_disk_Crash_2 : ACode := .reg [
    ⟨some 9, none, .build [.slice none 0 0, .slice none 0 0, .int .i64 0, .bool false] []⟩,
    ⟨none, none, .store 4 (.t 4) (.t 9)⟩,
    ⟨some 5, none, .mov (.k (.int .i64 (1)))⟩] none [4, 5]
def r_disk_Crash_3 : ACode := .reg [
    ⟨some 10, none, .mov (.t 1)⟩,
    ⟨some 11, none, .mm true (.t 10) (.k (.int .i64 (0)))⟩,
    ⟨some 12, none, .fld 1 (.t 2)⟩,
    ⟨some 13, none, .load none (.t 12)⟩,
    ⟨some 14, none, .len (.t 13)⟩,
    ⟨some 15, none, .mm false (.t 11) (.t 14)⟩,
    ⟨some 1, none, .mov (.t 15)⟩] none [1, 2, 4]
def r_disk_Crash_4 : ACode := .reg [
    ⟨some 16, none, .fld 0 (.t 2)⟩,
    ⟨some 17, none, .load none (.t 16)⟩,
    ⟨some 18, none, .fld 1 (.t 2)⟩,
    ⟨some 19, none, .load none (.t 18)⟩,
    ⟨some 20, none, .mov (.t 1)⟩,
    ⟨some 21, none, .sl 1 (.t 19) none (some (.t 20)) none⟩,
    ⟨some 22, none, .call 26 [(.t 17), (.t 21)]⟩,
    ⟨some 23, none, .build [.slice none 0 0, .slice none 0 0, .int .i64 0, .bool false] [(0, 1, (.t 22)), (2, 1, (.k (.int .i64 (-1))))]⟩,
    ⟨none, none, .store 4 (.t 4) (.t 23)⟩,
    ⟨some 5, none, .mov (.k (.int .i64 (0)))⟩] (some [0, 1, 0, 4, 0, 28, 63, 127, 255, 511]) [4, 5]
def c_disk_Crash : ACode :=
  (.seq r_disk_Crash_0
  (.seq (.seq r_disk_Crash_1
    (.cond (.t 8)
     (.seq r_disk_Crash_2
      .ret)
     .skip))
   (.seq r_disk_Crash_3
    (.seq r_disk_Crash_4
     .ret))))
theorem fits_disk_Crash : Fits Try.prog 22 24 c_disk_Crash [.c 4 (some 4), .t 5] := ⟨⟨Try.f22, _, _, Try.func22, rfl, rfl, rfl, by decide, by kernel_rfl, by kernel_rfl⟩, Try.checked.mixed⟩
/- erasure/disk.Sync -/
def r_disk_Sync_0 : ACode := .reg [
    ⟨some 1, none, .box 26 (.t 0)⟩,
    ⟨some 2, none, .alloc 26 [.slice none 0 0, .slice none 0 0, .int .i64 0, .bool false]⟩,
    ⟨some 3, none, .mov (.k (.int .i64 (0)))⟩] none [1, 2]
def r_disk_Sync_1 : ACode := .reg [
    ⟨some 5, none, .load (some 4) (.t 1)⟩,
    ⟨some 6, none, .call 20 [(.t 5)]⟩,
    ⟨some 7, none, .un .not (.t 6)⟩] none [1, 2, 7]
def r_disk_Sync_2 : ACode := .reg [
    ⟨some 8, none, .build [.slice none 0 0, .slice none 0 0, .int .i64 0, .bool false] []⟩,
    ⟨none, none, .store 4 (.t 2) (.t 8)⟩,
    ⟨some 3, none, .mov (.k (.int .i64 (1)))⟩] none [2, 3]
def r_disk_Sync_3 : ACode := .reg [
    ⟨some 9, none, .load (some 4) (.t 1)⟩,
    ⟨some 10, none, .call 25 [(.t 9)]⟩,
    ⟨some 4, none, .alloc 26 [.slice none 0 0, .slice none 0 0, .int .i64 0, .bool false]⟩,
    ⟨none, none, .store 4 (.t 4) (.t 10)⟩] none [1, 2, 4]
def r_disk_Sync_4 : ACode := .reg [
    ⟨some 11, none, .fld 3 (.t 1)⟩,
    ⟨some 12, none, .load none (.t 11)⟩] none [1, 2, 4, 12]
def r_disk_Sync_5 : ACode := .reg [
    ⟨some 13, none, .load (some 4) (.t 4)⟩,
    ⟨none, none, .store 4 (.t 2) (.t 13)⟩,
    ⟨some 3, none, .mov (.k (.int .i64 (104)))⟩] none [2, 3]
def r_disk_Sync_6 : ACode := .reg [
    ⟨some 14, none, .fld 2 (.t 1)⟩,
    ⟨some 15, none, .load none (.t 14)⟩,
    ⟨some 16, none, .bin .eql (.t 15) (.k (.int .i64 (0)))⟩,
    ⟨some 17, none, .mov (.t 16)⟩,
    ⟨some 18, (some (17, true)), .fld 1 (.t 1)⟩,
    ⟨some 19, (some (17, true)), .load none (.t 18)⟩,
    ⟨some 20, (some (17, true)), .len (.t 19)⟩,
    ⟨some 21, (some (17, true)), .bin .gtr (.t 20) (.k (.int .i64 (0)))⟩,
    ⟨some 22, none, .pick (.t 17) (.t 21) (.k (.bool false))⟩] none [1, 2, 4, 22]
def r_disk_Sync_7 : ACode := .reg [
    ⟨some 23, none, .fld 3 (.t 4)⟩,
    ⟨none, none, .store 1 (.t 23) (.k (.bool true))⟩] none [2, 4]
def r_disk_Sync_8 : ACode := .reg [
    ⟨some 24, none, .load (some 4) (.t 4)⟩,
    ⟨none, none, .store 4 (.t 2) (.t 24)⟩,
    ⟨some 3, none, .mov (.k (.int .i64 (104)))⟩] none [2, 3]
def r_disk_Sync_9 : ACode := .reg [
    ⟨some 25, none, .fld 0 (.t 1)⟩,
    ⟨some 26, none, .load none (.t 25)⟩,
    ⟨some 27, none, .fld 1 (.t 1)⟩,
    ⟨some 28, none, .load none (.t 27)⟩,
    ⟨some 29, none, .call 26 [(.t 26), (.t 28)]⟩,
    ⟨some 30, none, .fld 0 (.t 4)⟩,
    ⟨none, none, .store 1 (.t 30) (.t 29)⟩] none [2, 4]
def r_disk_Sync_10 : ACode := .reg [
    ⟨some 31, none, .fld 1 (.t 4)⟩,
    ⟨none, none, .store 1 (.t 31) (.k (.slice none 0 0))⟩] none [2, 4]
def r_disk_Sync_11 : ACode := .reg [
    ⟨some 32, none, .load (some 4) (.t 4)⟩,
    ⟨none, none, .store 4 (.t 2) (.t 32)⟩,
    ⟨some 3, none, .mov (.k (.int .i64 (0)))⟩] none [2, 3]
def c_disk_Sync : ACode :=
  (.seq r_disk_Sync_0
  (.seq (.seq r_disk_Sync_1
    (.cond (.t 7)
     (.seq r_disk_Sync_2
      .ret)
     .skip))
   (.seq r_disk_Sync_3
    (.seq (.seq r_disk_Sync_4
      (.cond (.t 12)
       (.seq r_disk_Sync_5
        .ret)
       .skip))
     (.seq (.seq r_disk_Sync_6
       (.cond (.t 22)
        (.seq r_disk_Sync_7
         (.seq r_disk_Sync_8
          .ret))
        .skip))
      (.seq r_disk_Sync_9
       (.seq r_disk_Sync_10
        (.seq r_disk_Sync_11
         .ret))))))))
theorem fits_disk_Sync : Fits Try.prog 23 33 c_disk_Sync [.c 2 (some 4), .t 3] := ⟨⟨Try.f23, _, _, Try.func23, rfl, rfl, rfl, by decide, by kernel_rfl, by kernel_rfl⟩, Try.checked.mixed⟩
/- erasure/disk.Cut -/
def r_disk_Cut_0 : ACode := .reg [
    ⟨some 2, none, .box 26 (.t 0)⟩,
    ⟨some 4, none, .alloc 26 [.slice none 0 0, .slice none 0 0, .int .i64 0, .bool false]⟩,
    ⟨some 5, none, .mov (.k (.int .i64 (0)))⟩] none [1, 2, 4]
def r_disk_Cut_1 : ACode := .reg [
    ⟨some 7, none, .load (some 4) (.t 2)⟩,
    ⟨some 8, none, .call 20 [(.t 7)]⟩,
    ⟨some 9, none, .un .not (.t 8)⟩,
    ⟨some 10, none, .mov (.t 9)⟩,
    ⟨some 11, (some (10, false)), .mov (.t 1)⟩,
    ⟨some 12, (some (10, false)), .bin .lss (.t 11) (.k (.int .i64 (0)))⟩,
    ⟨some 13, none, .pick (.t 10) (.k (.bool true)) (.t 12)⟩,
    ⟨some 14, none, .mov (.t 13)⟩,
    ⟨some 15, (some (14, false)), .mov (.t 1)⟩,
    ⟨some 16, (some (14, false)), .fld 0 (.t 2)⟩,
    ⟨some 17, (some (14, false)), .load none (.t 16)⟩,
    ⟨some 18, (some (14, false)), .len (.t 17)⟩,
    ⟨some 19, (some (14, false)), .fld 1 (.t 2)⟩,
    ⟨some 20, (some (14, false)), .load none (.t 19)⟩,
    ⟨some 21, (some (14, false)), .len (.t 20)⟩,
    ⟨some 22, (some (14, false)), .bin .add (.t 18) (.t 21)⟩,
    ⟨some 23, (some (14, false)), .bin .gtr (.t 15) (.t 22)⟩,
    ⟨some 24, none, .pick (.t 14) (.k (.bool true)) (.t 23)⟩] none [1, 2, 4, 24]
def r_disk_Cut_2 : ACode := .reg [
    ⟨some 25, none, .build [.slice none 0 0, .slice none 0 0, .int .i64 0, .bool false] []⟩,
    ⟨none, none, .store 4 (.t 4) (.t 25)⟩,
    ⟨some 5, none, .mov (.k (.int .i64 (1)))⟩] none [4, 5]
def r_disk_Cut_3 : ACode := .reg [
    ⟨some 26, none, .load (some 4) (.t 2)⟩,
    ⟨some 27, none, .call 25 [(.t 26)]⟩,
    ⟨some 6, none, .alloc 26 [.slice none 0 0, .slice none 0 0, .int .i64 0, .bool false]⟩,
    ⟨none, none, .store 4 (.t 6) (.t 27)⟩] none [1, 2, 4, 6]
def r_disk_Cut_4 : ACode := .reg [
    ⟨some 28, none, .fld 3 (.t 2)⟩,
    ⟨some 29, none, .load none (.t 28)⟩] none [1, 2, 4, 6, 29]
def r_disk_Cut_5 : ACode := .reg [
    ⟨some 30, none, .load (some 4) (.t 6)⟩,
    ⟨none, none, .store 4 (.t 4) (.t 30)⟩,
    ⟨some 5, none, .mov (.k (.int .i64 (104)))⟩] none [4, 5]
def r_disk_Cut_6 : ACode := .reg [
    ⟨some 31, none, .fld 0 (.t 2)⟩,
    ⟨some 32, none, .load none (.t 31)⟩,
    ⟨some 33, none, .fld 1 (.t 2)⟩,
    ⟨some 34, none, .load none (.t 33)⟩,
    ⟨some 35, none, .call 26 [(.t 32), (.t 34)]⟩,
    ⟨some 36, none, .mov (.t 1)⟩,
    ⟨some 37, none, .mov (.t 1)⟩,
    ⟨some 38, none, .sl 1 (.t 35) none (some (.t 36)) (some (.t 37))⟩,
    ⟨some 39, none, .fld 0 (.t 6)⟩,
    ⟨none, none, .store 1 (.t 39) (.t 38)⟩] none [4, 6]
def r_disk_Cut_7 : ACode := .reg [
    ⟨some 40, none, .fld 1 (.t 6)⟩,
    ⟨none, none, .store 1 (.t 40) (.k (.slice none 0 0))⟩] none [4, 6]
def r_disk_Cut_8 : ACode := .reg [
    ⟨some 41, none, .load (some 4) (.t 6)⟩,
    ⟨none, none, .store 4 (.t 4) (.t 41)⟩,
    ⟨some 5, none, .mov (.k (.int .i64 (0)))⟩] none [4, 5]
def c_disk_Cut : ACode :=
  (.seq r_disk_Cut_0
  (.seq (.seq r_disk_Cut_1
    (.cond (.t 24)
     (.seq r_disk_Cut_2
      .ret)
     .skip))
   (.seq r_disk_Cut_3
    (.seq (.seq r_disk_Cut_4
      (.cond (.t 29)
       (.seq r_disk_Cut_5
        .ret)
       .skip))
     (.seq r_disk_Cut_6
      (.seq r_disk_Cut_7
       (.seq r_disk_Cut_8
        .ret)))))))
theorem fits_disk_Cut : Fits Try.prog 24 42 c_disk_Cut [.c 4 (some 4), .t 5] := ⟨⟨Try.f24, _, _, Try.func24, rfl, rfl, rfl, by decide, by kernel_rfl, by kernel_rfl⟩, Try.checked.mixed⟩
/- erasure/disk.copied -/
def r_disk_copied_0 : ACode := .reg [
    ⟨some 1, none, .box 26 (.t 0)⟩,
    ⟨some 2, none, .alloc 26 [.slice none 0 0, .slice none 0 0, .int .i64 0, .bool false]⟩] none [1, 2]
def r_disk_copied_1 : ACode := .reg [
    ⟨some 3, none, .fld 0 (.t 1)⟩,
    ⟨some 4, none, .load none (.t 3)⟩,
    ⟨some 5, none, .call 26 [(.t 4), (.k (.slice none 0 0))]⟩,
    ⟨some 6, none, .fld 0 (.t 1)⟩,
    ⟨none, none, .store 1 (.t 6) (.t 5)⟩] none [1, 2]
def r_disk_copied_2 : ACode := .reg [
    ⟨some 7, none, .fld 1 (.t 1)⟩,
    ⟨some 8, none, .load none (.t 7)⟩,
    ⟨some 9, none, .call 26 [(.t 8), (.k (.slice none 0 0))]⟩,
    ⟨some 10, none, .fld 1 (.t 1)⟩,
    ⟨none, none, .store 1 (.t 10) (.t 9)⟩] none [1, 2]
def r_disk_copied_3 : ACode := .reg [
    ⟨some 11, none, .load (some 4) (.t 1)⟩,
    ⟨none, none, .store 4 (.t 2) (.t 11)⟩] none [2]
def c_disk_copied : ACode :=
  (.seq r_disk_copied_0
  (.seq r_disk_copied_1
   (.seq r_disk_copied_2
    (.seq r_disk_copied_3
     .ret))))
theorem fits_disk_copied : Fits Try.prog 25 12 c_disk_copied [.c 2 (some 4)] := ⟨⟨Try.f25, _, _, Try.func25, rfl, rfl, rfl, by decide, by kernel_rfl, by kernel_rfl⟩, Try.checked.mixed⟩
/- erasure/disk.joined -/
def r_disk_joined_0 : ACode := .reg [
    ⟨some 4, none, .mov (.k (.slice none 0 0))⟩] none [0, 1]
def r_disk_joined_1 : ACode := .reg [
    ⟨some 7, none, .mov (.t 0)⟩,
    ⟨some 8, none, .len (.t 7)⟩,
    ⟨some 9, none, .mov (.t 1)⟩,
    ⟨some 10, none, .len (.t 9)⟩,
    ⟨some 11, none, .bin .add (.t 8) (.t 10)⟩,
    ⟨some 12, none, .make 5 1 1 [.int .u8 0] (.t 11) (.t 11) true⟩,
    ⟨some 5, none, .mov (.t 12)⟩] none [0, 1, 5]
def r_disk_joined_2 : ACode := .reg [
    ⟨some 13, none, .mov (.t 5)⟩,
    ⟨some 14, none, .mov (.t 0)⟩,
    ⟨some 15, none, .copy 1 (.t 13) (.t 14)⟩,
    ⟨some 6, none, .mov (.t 15)⟩] none [1, 5, 6]
def r_disk_joined_3 : ACode := .reg [
    ⟨some 16, none, .mov (.t 5)⟩,
    ⟨some 17, none, .mov (.t 6)⟩,
    ⟨some 18, none, .sl 1 (.t 16) (some (.t 17)) none none⟩,
    ⟨some 19, none, .mov (.t 1)⟩,
    ⟨some 20, none, .copy 1 (.t 18) (.t 19)⟩] none [5]
def r_disk_joined_4 : ACode := .reg [
    ⟨some 21, none, .mov (.t 5)⟩,
    ⟨some 4, none, .mov (.t 21)⟩] none [4]
def c_disk_joined : ACode :=
  (.seq r_disk_joined_0
  (.seq r_disk_joined_1
   (.seq r_disk_joined_2
    (.seq r_disk_joined_3
     (.seq r_disk_joined_4
      .ret)))))
theorem fits_disk_joined : Fits Try.prog 26 22 c_disk_joined [.t 4] := ⟨⟨Try.f26, _, _, Try.func26, rfl, rfl, rfl, by decide, by kernel_rfl, by kernel_rfl⟩, Try.checked.mixed⟩
end Go.Proofs.Ytilbfoijfiebdaa.Am

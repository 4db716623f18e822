/- Numbers of functions and types. -/
import Derived.Test.YtilbfoijfiebdaaAmWalk
import Derived.Test.YtilbfoijfiebdaaProg
import Derived.Test.YtilbfoijfiebdaaChecked
namespace Go.Proofs.Ytilbfoijfiebdaa.Am
open Go
set_option linter.unusedVariables false
set_option linter.unusedSimpArgs false
set_option maxRecDepth 100000
abbrev F_erasurelaw32DiskLimit : Nat := 3
abbrev F_erasurelaw32DiskWhole : Nat := 4
abbrev F_erasurelaw32DiskPlays : Nat := 5
abbrev F_erasurelaw32DiskRaw : Nat := 6
abbrev F_erasurelaw32DiskKeeps : Nat := 7
abbrev F_erasurelaw32DiskDown : Nat := 8
abbrev F_erasurelaw32awake : Nat := 9
abbrev F_disk_Append : Nat := 10
abbrev F_disk_New : Nat := 11
abbrev F_erasureref32Same : Nat := 12
abbrev F_disk_Fail : Nat := 13
abbrev F_disk_Read : Nat := 14
abbrev F_erasurelaw32short : Nat := 15
abbrev F_erasureref32New : Nat := 16
abbrev F_erasurelaw32do : Nat := 17
abbrev F_erasurelaw32model : Nat := 18
abbrev F_erasurelaw32same : Nat := 19
abbrev F_disk_Valid : Nat := 20
abbrev F_erasureref32Valid : Nat := 21
abbrev F_disk_Crash : Nat := 22
abbrev F_disk_Sync : Nat := 23
abbrev F_disk_Cut : Nat := 24
abbrev F_disk_copied : Nat := 25
abbrev F_disk_joined : Nat := 26
abbrev F_erasureref32Append : Nat := 27
abbrev F_erasureref32Sync : Nat := 28
abbrev F_erasureref32Fail : Nat := 29
abbrev F_erasureref32Crash : Nat := 30
abbrev F_erasureref32Cut : Nat := 31
abbrev F_erasureref32Read : Nat := 32
abbrev F_erasureref32join : Nat := 33
abbrev T_i64 : TypeId := 2
abbrev T_bool : TypeId := 4
abbrev T_u8 : TypeId := 5
abbrev T_internal_abi_BoundsErrorCode : TypeId := 6
abbrev T_runtime_boundsError : TypeId := 8
abbrev T_string : TypeId := 9
abbrev T_runtime_errorString : TypeId := 10
abbrev T_runtime_plainError : TypeId := 11
abbrev T_u64 : TypeId := 12
abbrev T_runtime_errorAddressString : TypeId := 14
abbrev T_ptr_runtime_TypeAssertionError : TypeId := 15
abbrev T_ptr_runtime_PanicNilError : TypeId := 16
abbrev T_ptr_internal_abi_Type : TypeId := 17
abbrev T_internal_runtime_maps_unhashableTypeError : TypeId := 19
abbrev T_i32 : TypeId := 21
abbrev T_sl_u8 : TypeId := 22
abbrev T_api_Disk : TypeId := 26
abbrev T_api_Errno : TypeId := 27
abbrev T_sl_erasurelaw32Act : TypeId := 37
abbrev T_erasurelaw32Act : TypeId := 41
abbrev T_runtime_TypeAssertionError : TypeId := 50
abbrev T_arr0ptr_runtime_PanicNilError : TypeId := 51
abbrev T_runtime_PanicNilError : TypeId := 53
abbrev T_u32 : TypeId := 55
abbrev T_internal_abi_TFlag : TypeId := 56
abbrev T_internal_abi_Kind : TypeId := 57
abbrev T_ptr_u8 : TypeId := 59
abbrev T_internal_abi_NameOff : TypeId := 60
abbrev T_internal_abi_TypeOff : TypeId := 61
abbrev T_internal_abi_Type : TypeId := 63
end Go.Proofs.Ytilbfoijfiebdaa.Am

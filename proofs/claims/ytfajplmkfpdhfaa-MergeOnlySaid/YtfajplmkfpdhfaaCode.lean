/- The code of the functions that these laws reach, compiled for the pure evaluator (printed by program), each held against the given program by the kernel. -/
import Derived.Test.YtfajplmkfpdhfaaChecked
import Derived.KernelRfl
import Derived.Test.YtfajplmkfpdhfaaPkEv
import Derived.Test.YtfajplmkfpdhfaaShelf
import Derived.Test.YtfajplmkfpdhfaaPkClone
set_option linter.all false
namespace Go.Proofs.Ytfajplmkfpdhfaa
open Pv Go

def F_main_main : FuncId := 0
def F_gosem_cut : FuncId := 1
def F_gosem_cut_init : FuncId := 2
def F_paddocklaw8_MergeOnly : FuncId := 3
def F_paddocklaw8_MergeRewinds : FuncId := 4
def F_paddocklaw8_MergeRefuses : FuncId := 5
def F_paddocklaw8_MergeSteps : FuncId := 6
def F_paddocklaw8_MergeTells : FuncId := 7
def F_paddocklaw8_MergeBack : FuncId := 8
def F_paddocklaw8_MergeSelf : FuncId := 9
def F_paddocklaw8_known : FuncId := 10
def F_paddocklaw8_state : FuncId := 11
def F_pglog_Head : FuncId := 12
def F_pglog_Add : FuncId := 13
def F_merge_Make : FuncId := 14
def F_merge_Apply : FuncId := 15
def F_pglog_Same : FuncId := 16
def F_merge_Extends : FuncId := 17
def F_paddocklaw8_tops : FuncId := 18
def F_paddocklaw8_few : FuncId := 19
def F_paddockref8_Make : FuncId := 20
def F_paddockref8_Apply : FuncId := 21
def F_paddocklaw8_same : FuncId := 22
def F_paddockref6_Same : FuncId := 23
def F_paddockref8_Extends : FuncId := 24
def F_merge_Bytes : FuncId := 25
def F_paddockref8_Bytes : FuncId := 26
def F_pglog_Tail : FuncId := 27
def F_pglog_Is : FuncId := 28
def F_pglog_last : FuncId := 29
def F_pglog_next : FuncId := 30
def F_slices_Clone_sapi_Entry_api_Entry : FuncId := 31
def F_pglog_folded : FuncId := 32
def F_merge_head : FuncId := 33
def F_merge_stands : FuncId := 34
def F_pglog_Copy : FuncId := 35
def F_merge_common : FuncId := 36
def F_merge_Apply_1 : FuncId := 37
def F_pglog_Cut : FuncId := 38
def F_merge_added : FuncId := 39
def F_slices_Equal_sapi_Entry_api_Entry : FuncId := 40
def F_paddockref6_Is : FuncId := 41
def F_paddockref8_shared : FuncId := 42
def F_paddockref6_Find : FuncId := 43
def F_paddockref6_Cut : FuncId := 44
def F_paddockref6_Add : FuncId := 45
def F_paddockref6_Tail : FuncId := 46
def F_paddockref6_Head : FuncId := 47
def F_pglog_place : FuncId := 48
def F_pglog_base : FuncId := 49
def F_objects_Writes : FuncId := 50
def F_objects_Do : FuncId := 51
def F_pglog_Find : FuncId := 52
def F_pglog_Upto : FuncId := 53
def F_paddockref6_isBase : FuncId := 54
def F_paddockref6_Writes : FuncId := 55
def F_paddockref6_Upto : FuncId := 56
def F_paddockref6_pop : FuncId := 57
def F_pglog_object : FuncId := 58
def F_objects_IsOp : FuncId := 59
def F_objects_Seen : FuncId := 60
def F_objects_does : FuncId := 61
def F_paddockref6_IsOp : FuncId := 62
def F_paddockref6_Do : FuncId := 63
def F_objects_doer_write : FuncId := 64
def F_objects_doer_trunc : FuncId := 65
def F_objects_doer_attr : FuncId := 66
def F_objects_doer_remove : FuncId := 67
def F_paddockref6_Seen : FuncId := 68
def F_paddockref6_change : FuncId := 69
def F_objects_grown : FuncId := 70
def F_paddockref6_noughts : FuncId := 71
def F_strings_Repeat : FuncId := 72
def F_math_bits_Mul : FuncId := 73
def F_strings_HasPrefix : FuncId := 74
def F_strings_Builder_Grow : FuncId := 75
def F_strings_Builder_WriteString : FuncId := 76
def F_strings_Builder_Len : FuncId := 77
def F_strings_Builder_String : FuncId := 78
def F_math_bits_Mul32 : FuncId := 79
def F_math_bits_Mul64 : FuncId := 80
def F_internal_stringslite_HasPrefix : FuncId := 81
def F_strings_Builder_copyCheck : FuncId := 82
def F_strings_Builder_grow : FuncId := 83
def F_internal_abi_NoEscape : FuncId := 84
def F_internal_bytealg_MakeNoZero : FuncId := 85
def F_runtime_boundsError_Error : FuncId := 86
def F_runtime_boundsError_RuntimeError : FuncId := 87
def F_runtime_errorString_Error : FuncId := 88
def F_runtime_errorString_RuntimeError : FuncId := 89
def F_runtime_plainError_Error : FuncId := 90
def F_runtime_plainError_RuntimeError : FuncId := 91
def F_runtime_errorAddressString_Error : FuncId := 92
def F_runtime_errorAddressString_RuntimeError : FuncId := 93
def F_runtime_TypeAssertionError_Error : FuncId := 94
def F_runtime_TypeAssertionError_RuntimeError : FuncId := 95
def F_runtime_PanicNilError_Error : FuncId := 96
def F_runtime_PanicNilError_RuntimeError : FuncId := 97
def F_internal_abi_Type_Align : FuncId := 98
def F_internal_runtime_maps_unhashableTypeError_Error : FuncId := 99
def F_internal_runtime_maps_unhashableTypeError_RuntimeError : FuncId := 100
def F_api_Errno_Error : FuncId := 101
def F_strings_Builder_Reset : FuncId := 102
def F_internal_abi_Kind_String : FuncId := 103
/-- paddock/paddocklaw8.MergeOnly -/
def h_paddocklaw8_MergeOnly : Hints := { kp := [(0, [0, 1]), (1, [0, 1]), (2, []), (3, [0, 1]), (4, []), (5, [0, 1]), (6, [1, 7]), (7, [1, 7, 8]), (8, [1, 7, 8, 9]), (9, [1, 7, 8, 9, 10]), (11, [1, 7, 8, 9, 10]), (12, [1, 7, 8, 9, 10, 12]), (13, [1, 7, 8, 9, 10, 13, 14]), (14, [1, 7, 8, 9, 10, 13]), (15, [1, 7, 8, 9, 10]), (10, [1, 7, 8, 9, 10]), (16, [7, 8, 9]), (17, [7, 8, 9, 15]), (18, [7, 8, 9, 15, 16, 17]), (19, [7, 8, 9, 15, 16, 17, 18, 19]), (20, [7, 8, 9, 15, 16, 17, 18, 19, 20]), (21, [7, 8, 9, 15, 16, 17, 18, 19]), (22, [7, 8, 9, 15, 16, 17, 18, 19, 20])], lkp := [(9, [1, 7, 8, 9, 10])], lth := [] }
def K_paddocklaw8_MergeOnly_0 : Option (List Nat) := (some [1, 7, 8, 9, 10])
def l_paddocklaw8_MergeOnly_0 : ACode :=
 .seq (.seq (.region (some [1, 7, 8, 9, 10]) [⟨(some 34), .mv (.t 10), none⟩,
   ⟨(some 35), .mv (.t 1), none⟩,
   ⟨(some 36), .len false (.t 35), none⟩,
   ⟨(some 37), .bin .lss (.t 34) (.t 36), none⟩] [])
 (.cond (.t 37) (.skip) (.exit 0)))
 (.seq (.block 1 (.seq (.region (some [1, 7, 8, 9, 10]) [⟨(some 41), .load true 49 (.t 8), none⟩,
    ⟨(some 42), .call (.f F_pglog_Head) [.t 41], none⟩,
    ⟨(some 40), .mv (.t 42), none⟩,
    ⟨(some 43), .ext (.t 40) 0, none⟩,
    ⟨(some 44), .ext (.t 40) 1, none⟩,
    ⟨(some 11), .mv (.t 43), none⟩,
    ⟨(some 12), .mv (.t 44), none⟩] [])
  (.seq (.region (some [1, 7, 8, 9, 10, 12]) [⟨(some 46), .load true 49 (.t 8), none⟩,
    ⟨(some 47), .mv (.t 12), none⟩,
    ⟨(some 48), .bin .add (.t 47) (.c (.d (.i .u32 1))), none⟩,
    ⟨(some 49), .mv (.t 1), none⟩,
    ⟨(some 50), .mv (.t 10), none⟩,
    ⟨(some 51), .iaddrS 6 (.t 49) (.t 50), none⟩,
    ⟨(some 52), .load true 6 (.t 51), none⟩,
    ⟨(some 53), .build [.d (.i .u32 0), .d (.i .u32 0), .d (.i .u8 0), .d (.i .u32 0), .d (.i .u8 0), .d (.i .u8 0), .d (.i .u8 0), .d (.s ⟨#[]⟩)] [(0, 1, .c (.d (.i .u32 30))), (1, 1, .t 48), (2, 6, .t 52)], none⟩,
    ⟨(some 54), .call (.f F_pglog_Add) [.t 46, .t 53], none⟩,
    ⟨(some 45), .mv (.t 54), none⟩,
    ⟨(some 55), .ext (.t 45) 0, none⟩,
    ⟨(some 56), .ext (.t 45) 1, none⟩,
    ⟨(some 13), .box (.c (.agg Pk.State.zeroA)), none⟩,
    ⟨none, .store 49 (.t 13) (.t 55), none⟩,
    ⟨(some 14), .mv (.t 56), none⟩] [(0, 6), (0, 12), (6, 12), (8, 12)])
  (.seq (.region (some [1, 7, 8, 9, 10, 13, 14]) [⟨(some 57), .mv (.t 14), none⟩,
    ⟨(some 58), .bin .eql (.t 57) (.c (.d (.i .i64 0))), none⟩] [])
  (.cond (.t 58) (.seq (.region (some [1, 7, 8, 9, 10, 13]) [⟨(some 59), .load true 49 (.t 13), none⟩,
     ⟨none, .store 49 (.t 8) (.t 59), none⟩] [])
   (.region (some [1, 7, 8, 9, 10]) [⟨(some 60), .mv (.t 9), none⟩,
     ⟨(some 61), .bin .add (.t 60) (.c (.d (.i .i64 1))), none⟩,
     ⟨(some 9), .mv (.t 61), none⟩] [])) (.skip))))))
 (.region (some [1, 7, 8, 9, 10]) [⟨(some 38), .mv (.t 10), none⟩,
   ⟨(some 39), .bin .add (.t 38) (.c (.d (.i .i64 1))), none⟩,
   ⟨(some 10), .mv (.t 39), none⟩] []))
def c_paddocklaw8_MergeOnly : ACode :=
 .seq (.region (some [0, 1]) [⟨(some 6), .mv (.c (.d (.b false))), none⟩] [])
 (.seq (.seq (.region (some [0, 1]) [⟨(some 21), .call (.f F_paddocklaw8_known) [], none⟩,
   ⟨(some 22), .un .not (.t 21), none⟩] [])
 (.cond (.t 22) (.seq (.region (some []) [⟨(some 6), .mv (.c (.d (.b false))), none⟩] [])
  (.ret)) (.skip)))
 (.seq (.seq (.region (some [0, 1]) [⟨(some 23), .mv (.t 0), none⟩,
   ⟨(some 24), .len false (.t 23), none⟩,
   ⟨(some 25), .bin .gtr (.t 24) (.c (.d (.i .i64 20))), none⟩,
   ⟨(some 26), .mv (.t 25), none⟩,
   ⟨(some 27), .mv (.t 1), some (26, false)⟩,
   ⟨(some 28), .len false (.t 27), some (26, false)⟩,
   ⟨(some 29), .bin .gtr (.t 28) (.c (.d (.i .i64 6))), some (26, false)⟩,
   ⟨(some 30), .pick (.t 26) (.c (.d (.b true))) (.t 29), none⟩] [])
 (.cond (.t 30) (.seq (.region (some []) [⟨(some 6), .mv (.c (.d (.b true))), none⟩] [])
  (.ret)) (.skip)))
 (.seq (.region (some [0, 1]) [⟨(some 31), .mv (.t 0), none⟩,
   ⟨(some 32), .call (.f F_paddocklaw8_state) [.t 31, .c (.nilS), .c (.d (.i .u32 0)), .c (.d (.i .u8 0)), .c (.d (.i .u32 1))], none⟩,
   ⟨(some 7), .box (.c (.agg Pk.State.zeroA)), none⟩,
   ⟨none, .store 49 (.t 7) (.t 32), none⟩] [])
 (.seq (.region (some [1, 7]) [⟨(some 33), .load true 49 (.t 7), none⟩,
   ⟨(some 8), .box (.c (.agg Pk.State.zeroA)), none⟩,
   ⟨none, .store 49 (.t 8) (.t 33), none⟩] [])
 (.seq (.region (some [1, 7, 8]) [⟨(some 9), .mv (.c (.d (.i .i64 0))), none⟩] [])
 (.seq (.seq (.region (some [1, 7, 8, 9]) [⟨(some 10), .mv (.c (.d (.i .i64 0))), none⟩] [])
 (.block 0 (.loop K_paddocklaw8_MergeOnly_0 [] l_paddocklaw8_MergeOnly_0)))
 (.seq (.region (some [7, 8, 9]) [⟨(some 62), .load true 49 (.t 7), none⟩,
   ⟨(some 63), .load true 49 (.t 8), none⟩,
   ⟨(some 64), .call (.f F_merge_Make) [.t 62, .t 63], none⟩,
   ⟨(some 15), .box (.c (.agg Pk.Diff.zeroA)), none⟩,
   ⟨none, .store 52 (.t 15) (.t 64), none⟩] [])
 (.seq (.region (some [7, 8, 9, 15]) [⟨(some 66), .load true 49 (.t 7), none⟩,
   ⟨(some 67), .load true 52 (.t 15), none⟩,
   ⟨(some 68), .call (.f F_merge_Apply) [.t 66, .t 67], none⟩,
   ⟨(some 65), .mv (.t 68), none⟩,
   ⟨(some 69), .ext (.t 65) 0, none⟩,
   ⟨(some 70), .ext (.t 65) 1, none⟩,
   ⟨(some 16), .box (.c (.agg Pk.State.zeroA)), none⟩,
   ⟨none, .store 49 (.t 16) (.t 69), none⟩,
   ⟨(some 17), .mv (.t 70), none⟩] [])
 (.seq (.region (some [7, 8, 9, 15, 16, 17]) [⟨(some 72), .load true 49 (.t 16), none⟩,
   ⟨(some 73), .load true 52 (.t 15), none⟩,
   ⟨(some 74), .call (.f F_merge_Apply) [.t 72, .t 73], none⟩,
   ⟨(some 71), .mv (.t 74), none⟩,
   ⟨(some 75), .ext (.t 71) 0, none⟩,
   ⟨(some 76), .ext (.t 71) 1, none⟩,
   ⟨(some 18), .box (.c (.agg Pk.State.zeroA)), none⟩,
   ⟨none, .store 49 (.t 18) (.t 75), none⟩,
   ⟨(some 19), .mv (.t 76), none⟩] [])
 (.seq (.region (some [7, 8, 9, 15, 16, 17, 18, 19]) [⟨(some 20), .mv (.c (.d (.i .i64 1))), none⟩] [])
 (.seq (.seq (.region (some [7, 8, 9, 15, 16, 17, 18, 19, 20]) [⟨(some 77), .mv (.t 9), none⟩,
   ⟨(some 78), .bin .eql (.t 77) (.c (.d (.i .i64 0))), none⟩] [])
 (.cond (.t 78) (.region (some [7, 8, 9, 15, 16, 17, 18, 19]) [⟨(some 20), .mv (.c (.d (.i .i64 0))), none⟩] []) (.skip)))
 (.seq (.region (some [7, 8, 9, 15, 16, 17, 18, 19, 20]) [⟨(some 79), .faddr 0 (.t 15), none⟩,
   ⟨(some 80), .load false 1 (.t 79), none⟩,
   ⟨(some 81), .mv (.t 20), none⟩,
   ⟨(some 82), .bin .eql (.t 80) (.t 81), none⟩,
   ⟨(some 83), .mv (.t 82), none⟩,
   ⟨(some 84), .faddr 2 (.t 15), some (83, true)⟩,
   ⟨(some 85), .load false 1 (.t 84), some (83, true)⟩,
   ⟨(some 86), .len false (.t 85), some (83, true)⟩,
   ⟨(some 87), .mv (.t 9), some (83, true)⟩,
   ⟨(some 88), .bin .eql (.t 86) (.t 87), some (83, true)⟩,
   ⟨(some 89), .pick (.t 83) (.t 88) (.c (.d (.b false))), none⟩,
   ⟨(some 90), .mv (.t 89), none⟩,
   ⟨(some 91), .mv (.t 17), some (90, true)⟩,
   ⟨(some 92), .bin .eql (.t 91) (.c (.d (.i .i64 0))), some (90, true)⟩,
   ⟨(some 93), .pick (.t 90) (.t 92) (.c (.d (.b false))), none⟩,
   ⟨(some 94), .mv (.t 93), none⟩,
   ⟨(some 95), .mv (.t 19), some (94, true)⟩,
   ⟨(some 96), .bin .eql (.t 95) (.c (.d (.i .i64 0))), some (94, true)⟩,
   ⟨(some 97), .pick (.t 94) (.t 96) (.c (.d (.b false))), none⟩,
   ⟨(some 98), .mv (.t 97), none⟩,
   ⟨(some 99), .load true 49 (.t 16), some (98, true)⟩,
   ⟨(some 100), .load true 49 (.t 8), some (98, true)⟩,
   ⟨(some 101), .call (.f F_pglog_Same) [.t 99, .t 100], some (98, true)⟩,
   ⟨(some 102), .pick (.t 98) (.t 101) (.c (.d (.b false))), none⟩,
   ⟨(some 103), .mv (.t 102), none⟩,
   ⟨(some 104), .load true 49 (.t 18), some (103, true)⟩,
   ⟨(some 105), .load true 49 (.t 8), some (103, true)⟩,
   ⟨(some 106), .call (.f F_pglog_Same) [.t 104, .t 105], some (103, true)⟩,
   ⟨(some 107), .pick (.t 103) (.t 106) (.c (.d (.b false))), none⟩,
   ⟨(some 108), .mv (.t 107), none⟩,
   ⟨(some 109), .load true 49 (.t 7), some (108, true)⟩,
   ⟨(some 110), .load true 49 (.t 8), some (108, true)⟩,
   ⟨(some 111), .call (.f F_merge_Extends) [.t 109, .t 110], some (108, true)⟩,
   ⟨(some 112), .pick (.t 108) (.t 111) (.c (.d (.b false))), none⟩,
   ⟨(some 113), .mv (.t 112), none⟩,
   ⟨(some 114), .load true 49 (.t 8), some (113, true)⟩,
   ⟨(some 115), .load true 49 (.t 7), some (113, true)⟩,
   ⟨(some 116), .call (.f F_merge_Extends) [.t 114, .t 115], some (113, true)⟩,
   ⟨(some 117), .mv (.t 9), some (113, true)⟩,
   ⟨(some 118), .bin .eql (.t 117) (.c (.d (.i .i64 0))), some (113, true)⟩,
   ⟨(some 119), .eq false (.sb) (.t 116) (.t 118), some (113, true)⟩,
   ⟨(some 120), .pick (.t 113) (.t 119) (.c (.d (.b false))), none⟩,
   ⟨(some 6), .mv (.t 120), none⟩] [])
 (.ret)))))))))))))
def a_paddocklaw8_MergeOnly : AFn := .code 3 c_paddocklaw8_MergeOnly [.tmp 6]
set_option maxRecDepth 100000 in
theorem k_paddocklaw8_MergeOnly : compF Try.prog h_paddocklaw8_MergeOnly F_paddocklaw8_MergeOnly = some a_paddocklaw8_MergeOnly := by kernel_rfl

/-- paddock/paddocklaw8.MergeRewinds -/
def h_paddocklaw8_MergeRewinds : Hints := { kp := [(0, [0, 1, 2]), (1, [0, 1, 2]), (2, []), (3, [0, 1, 2]), (4, []), (5, [0, 1, 2]), (6, [0, 7, 8]), (7, [7, 8, 9]), (8, [7, 8, 11]), (9, [7, 8, 11, 12]), (10, [7, 8, 11, 12, 13, 14]), (11, []), (12, [7, 8, 11, 12])], lkp := [], lth := [] }
def c_paddocklaw8_MergeRewinds : ACode :=
 .seq (.region (some [0, 1, 2]) [⟨(some 6), .mv (.c (.d (.b false))), none⟩] [])
 (.seq (.seq (.region (some [0, 1, 2]) [⟨(some 15), .call (.f F_paddocklaw8_known) [], none⟩,
   ⟨(some 16), .un .not (.t 15), none⟩] [])
 (.cond (.t 16) (.seq (.region (some []) [⟨(some 6), .mv (.c (.d (.b false))), none⟩] [])
  (.ret)) (.skip)))
 (.seq (.seq (.region (some [0, 1, 2]) [⟨(some 17), .mv (.t 0), none⟩,
   ⟨(some 18), .len false (.t 17), none⟩,
   ⟨(some 19), .bin .gtr (.t 18) (.c (.d (.i .i64 10))), none⟩,
   ⟨(some 20), .mv (.t 19), none⟩,
   ⟨(some 21), .mv (.t 1), some (20, false)⟩,
   ⟨(some 22), .len false (.t 21), some (20, false)⟩,
   ⟨(some 23), .bin .gtr (.t 22) (.c (.d (.i .i64 3))), some (20, false)⟩,
   ⟨(some 24), .pick (.t 20) (.c (.d (.b true))) (.t 23), none⟩,
   ⟨(some 25), .mv (.t 24), none⟩,
   ⟨(some 26), .mv (.t 2), some (25, false)⟩,
   ⟨(some 27), .len false (.t 26), some (25, false)⟩,
   ⟨(some 28), .bin .gtr (.t 27) (.c (.d (.i .i64 3))), some (25, false)⟩,
   ⟨(some 29), .pick (.t 25) (.c (.d (.b true))) (.t 28), none⟩] [])
 (.cond (.t 29) (.seq (.region (some []) [⟨(some 6), .mv (.c (.d (.b true))), none⟩] [])
  (.ret)) (.skip)))
 (.seq (.region (some [0, 1, 2]) [⟨(some 30), .mv (.t 0), none⟩,
   ⟨(some 31), .mv (.t 1), none⟩,
   ⟨(some 32), .call (.f F_paddocklaw8_state) [.t 30, .t 31, .c (.d (.i .u32 5)), .c (.d (.i .u8 0)), .c (.d (.i .u32 1))], none⟩,
   ⟨(some 33), .mv (.t 0), none⟩,
   ⟨(some 34), .mv (.t 2), none⟩,
   ⟨(some 35), .call (.f F_paddocklaw8_state) [.t 33, .t 34, .c (.d (.i .u32 6)), .c (.d (.i .u8 0)), .c (.d (.i .u32 9))], none⟩,
   ⟨(some 7), .box (.c (.agg Pk.State.zeroA)), none⟩,
   ⟨(some 8), .box (.c (.agg Pk.State.zeroA)), none⟩,
   ⟨none, .store 49 (.t 7) (.t 32), none⟩,
   ⟨none, .store 49 (.t 8) (.t 35), none⟩] [])
 (.seq (.region (some [0, 7, 8]) [⟨(some 36), .mv (.t 0), none⟩,
   ⟨(some 37), .call (.f F_paddocklaw8_state) [.t 36, .c (.nilS), .c (.d (.i .u32 0)), .c (.d (.i .u8 0)), .c (.d (.i .u32 1))], none⟩,
   ⟨(some 9), .box (.c (.agg Pk.State.zeroA)), none⟩,
   ⟨none, .store 49 (.t 9) (.t 37), none⟩] [])
 (.seq (.region (some [7, 8, 9]) [⟨(some 39), .load true 49 (.t 9), none⟩,
   ⟨(some 40), .call (.f F_pglog_Head) [.t 39], none⟩,
   ⟨(some 38), .mv (.t 40), none⟩,
   ⟨(some 41), .ext (.t 38) 0, none⟩,
   ⟨(some 42), .ext (.t 38) 1, none⟩,
   ⟨(some 10), .mv (.t 41), none⟩,
   ⟨(some 11), .mv (.t 42), none⟩] [])
 (.seq (.region (some [7, 8, 11]) [⟨(some 43), .load true 49 (.t 7), none⟩,
   ⟨(some 44), .load true 49 (.t 8), none⟩,
   ⟨(some 45), .call (.f F_merge_Make) [.t 43, .t 44], none⟩,
   ⟨(some 12), .box (.c (.agg Pk.Diff.zeroA)), none⟩,
   ⟨none, .store 52 (.t 12) (.t 45), none⟩] [])
 (.seq (.region (some [7, 8, 11, 12]) [⟨(some 47), .load true 49 (.t 7), none⟩,
   ⟨(some 48), .load true 52 (.t 12), none⟩,
   ⟨(some 49), .call (.f F_merge_Apply) [.t 47, .t 48], none⟩,
   ⟨(some 46), .mv (.t 49), none⟩,
   ⟨(some 50), .ext (.t 46) 0, none⟩,
   ⟨(some 51), .ext (.t 46) 1, none⟩,
   ⟨(some 13), .box (.c (.agg Pk.State.zeroA)), none⟩,
   ⟨none, .store 49 (.t 13) (.t 50), none⟩,
   ⟨(some 14), .mv (.t 51), none⟩] [])
 (.seq (.seq (.region (some [7, 8, 11, 12, 13, 14]) [⟨(some 52), .mv (.t 14), none⟩,
   ⟨(some 53), .bin .neq (.t 52) (.c (.d (.i .i64 0))), none⟩,
   ⟨(some 54), .mv (.t 53), none⟩,
   ⟨(some 55), .load true 49 (.t 13), some (54, false)⟩,
   ⟨(some 56), .load true 49 (.t 8), some (54, false)⟩,
   ⟨(some 57), .call (.f F_pglog_Same) [.t 55, .t 56], some (54, false)⟩,
   ⟨(some 58), .un .not (.t 57), some (54, false)⟩,
   ⟨(some 59), .pick (.t 54) (.c (.d (.b true))) (.t 58), none⟩] [])
 (.cond (.t 59) (.seq (.region (some []) [⟨(some 6), .mv (.c (.d (.b false))), none⟩] [])
  (.ret)) (.skip)))
 (.seq (.region (some [7, 8, 11, 12]) [⟨(some 60), .faddr 0 (.t 12), none⟩,
   ⟨(some 61), .load false 1 (.t 60), none⟩,
   ⟨(some 62), .bin .neq (.t 61) (.c (.d (.i .i64 1))), none⟩,
   ⟨(some 63), .mv (.t 62), none⟩,
   ⟨(some 64), .faddr 1 (.t 12), some (63, false)⟩,
   ⟨(some 65), .load false 1 (.t 64), some (63, false)⟩,
   ⟨(some 66), .mv (.t 11), some (63, false)⟩,
   ⟨(some 67), .bin .eql (.t 65) (.t 66), some (63, false)⟩,
   ⟨(some 68), .mv (.t 67), some (63, false)⟩,
   ⟨(some 69), .load true 49 (.t 7), some (68, true)⟩,
   ⟨(some 70), .load true 49 (.t 8), some (68, true)⟩,
   ⟨(some 71), .call (.f F_merge_Extends) [.t 69, .t 70], some (68, true)⟩,
   ⟨(some 72), .load true 49 (.t 7), some (68, true)⟩,
   ⟨(some 73), .call (.f F_paddocklaw8_tops) [.t 72], some (68, true)⟩,
   ⟨(some 74), .mv (.t 11), some (68, true)⟩,
   ⟨(some 75), .bin .eql (.t 73) (.t 74), some (68, true)⟩,
   ⟨(some 76), .eq false (.sb) (.t 71) (.t 75), some (68, true)⟩,
   ⟨(some 77), .pick (.t 68) (.t 76) (.c (.d (.b false))), some (63, false)⟩,
   ⟨(some 78), .pick (.t 63) (.c (.d (.b true))) (.t 77), none⟩,
   ⟨(some 6), .mv (.t 78), none⟩] [(9, 10), (9, 12), (10, 12), (11, 12)])
 (.ret))))))))))
def a_paddocklaw8_MergeRewinds : AFn := .code 3 c_paddocklaw8_MergeRewinds [.tmp 6]
set_option maxRecDepth 100000 in
theorem k_paddocklaw8_MergeRewinds : compF Try.prog h_paddocklaw8_MergeRewinds F_paddocklaw8_MergeRewinds = some a_paddocklaw8_MergeRewinds := by kernel_rfl

/-- paddock/paddocklaw8.MergeRefuses -/
def h_paddocklaw8_MergeRefuses : Hints := { kp := [(0, [0, 1, 2, 3]), (1, [0, 2, 3, 5]), (2, []), (3, [0, 2, 3, 5]), (4, []), (5, [0, 2, 3, 5]), (6, [2, 3, 5, 9]), (7, [2, 3, 5, 9, 11]), (8, [2, 3, 5, 9, 11, 13]), (9, [2, 3, 9, 11, 13, 15]), (10, [2, 9, 11, 13, 15, 17]), (11, [2, 9, 11, 13, 15, 17, 19]), (12, [13, 15, 17, 19, 20])], lkp := [], lth := [] }
def c_paddocklaw8_MergeRefuses : ACode :=
 .seq (.region (some [0, 1, 2, 3]) [⟨(some 5), .box (.t 1), none⟩,
   ⟨(some 8), .mv (.c (.d (.b false))), none⟩] [])
 (.seq (.seq (.region (some [0, 2, 3, 5]) [⟨(some 21), .call (.f F_paddocklaw8_known) [], none⟩,
   ⟨(some 22), .un .not (.t 21), none⟩] [])
 (.cond (.t 22) (.seq (.region (some []) [⟨(some 8), .mv (.c (.d (.b false))), none⟩] [])
  (.ret)) (.skip)))
 (.seq (.seq (.region (some [0, 2, 3, 5]) [⟨(some 23), .mv (.t 0), none⟩,
   ⟨(some 24), .len false (.t 23), none⟩,
   ⟨(some 25), .bin .gtr (.t 24) (.c (.d (.i .i64 20))), none⟩] [])
 (.cond (.t 25) (.seq (.region (some []) [⟨(some 8), .mv (.c (.d (.b true))), none⟩] [])
  (.ret)) (.skip)))
 (.seq (.region (some [0, 2, 3, 5]) [⟨(some 26), .mv (.t 0), none⟩,
   ⟨(some 27), .call (.f F_paddocklaw8_state) [.t 26, .c (.nilS), .c (.d (.i .u32 0)), .c (.d (.i .u8 0)), .c (.d (.i .u32 1))], none⟩,
   ⟨(some 9), .box (.c (.agg Pk.State.zeroA)), none⟩,
   ⟨none, .store 49 (.t 9) (.t 27), none⟩] [])
 (.seq (.region (some [2, 3, 5, 9]) [⟨(some 29), .load true 49 (.t 9), none⟩,
   ⟨(some 30), .call (.f F_pglog_Head) [.t 29], none⟩,
   ⟨(some 28), .mv (.t 30), none⟩,
   ⟨(some 31), .ext (.t 28) 0, none⟩,
   ⟨(some 32), .ext (.t 28) 1, none⟩,
   ⟨(some 10), .mv (.t 31), none⟩,
   ⟨(some 11), .mv (.t 32), none⟩] [])
 (.seq (.region (some [2, 3, 5, 9, 11]) [⟨(some 34), .load true 49 (.t 9), none⟩,
   ⟨(some 35), .mv (.t 2), none⟩,
   ⟨(some 36), .faddr 40 (.t 9), none⟩,
   ⟨(some 37), .load true 8 (.t 36), none⟩,
   ⟨(some 38), .build Pk.State.zeroA [(40, 8, .t 37)], none⟩,
   ⟨(some 39), .build Pk.Diff.zeroA [(0, 1, .c (.d (.i .i64 1))), (1, 1, .t 35), (3, 49, .t 38)], none⟩,
   ⟨(some 40), .call (.f F_merge_Apply) [.t 34, .t 39], none⟩,
   ⟨(some 33), .mv (.t 40), none⟩,
   ⟨(some 41), .ext (.t 33) 0, none⟩,
   ⟨(some 42), .ext (.t 33) 1, none⟩,
   ⟨(some 12), .box (.c (.agg Pk.State.zeroA)), none⟩,
   ⟨none, .store 49 (.t 12) (.t 41), none⟩,
   ⟨(some 13), .mv (.t 42), none⟩] [])
 (.seq (.region (some [2, 3, 5, 9, 11, 13]) [⟨(some 44), .load true 49 (.t 9), none⟩,
   ⟨(some 45), .mv (.t 11), none⟩,
   ⟨(some 46), .mv (.t 11), none⟩,
   ⟨(some 47), .bin .add (.t 46) (.c (.d (.i .u32 2))), none⟩,
   ⟨(some 48), .load true 6 (.t 5), none⟩,
   ⟨(some 49), .build [.d (.i .u32 0), .d (.i .u32 0), .d (.i .u8 0), .d (.i .u32 0), .d (.i .u8 0), .d (.i .u8 0), .d (.i .u8 0), .d (.s ⟨#[]⟩)] [(0, 1, .c (.d (.i .u32 40))), (1, 1, .t 47), (2, 6, .t 48)], none⟩,
   ⟨(some 50), .bsl 8 [.t 49], none⟩,
   ⟨(some 51), .faddr 40 (.t 9), none⟩,
   ⟨(some 52), .load true 8 (.t 51), none⟩,
   ⟨(some 53), .build Pk.State.zeroA [(40, 8, .t 52)], none⟩,
   ⟨(some 54), .build Pk.Diff.zeroA [(0, 1, .c (.d (.i .i64 1))), (1, 1, .t 45), (2, 1, .t 50), (3, 49, .t 53)], none⟩,
   ⟨(some 55), .call (.f F_merge_Apply) [.t 44, .t 54], none⟩,
   ⟨(some 43), .mv (.t 55), none⟩,
   ⟨(some 56), .ext (.t 43) 0, none⟩,
   ⟨(some 57), .ext (.t 43) 1, none⟩,
   ⟨(some 14), .box (.c (.agg Pk.State.zeroA)), none⟩,
   ⟨none, .store 49 (.t 14) (.t 56), none⟩,
   ⟨(some 15), .mv (.t 57), none⟩] [])
 (.seq (.region (some [2, 3, 9, 11, 13, 15]) [⟨(some 59), .load true 49 (.t 9), none⟩,
   ⟨(some 60), .mv (.t 3), none⟩,
   ⟨(some 61), .mv (.t 11), none⟩,
   ⟨(some 62), .bin .add (.t 61) (.c (.d (.i .u32 1))), none⟩,
   ⟨(some 63), .build Pk.Diff.zeroA [(0, 1, .t 60), (1, 1, .t 62)], none⟩,
   ⟨(some 64), .call (.f F_merge_Apply) [.t 59, .t 63], none⟩,
   ⟨(some 58), .mv (.t 64), none⟩,
   ⟨(some 65), .ext (.t 58) 0, none⟩,
   ⟨(some 66), .ext (.t 58) 1, none⟩,
   ⟨(some 16), .box (.c (.agg Pk.State.zeroA)), none⟩,
   ⟨none, .store 49 (.t 16) (.t 65), none⟩,
   ⟨(some 17), .mv (.t 66), none⟩] [])
 (.seq (.region (some [2, 9, 11, 13, 15, 17]) [⟨(some 68), .load true 49 (.t 9), none⟩,
   ⟨(some 69), .mv (.t 11), none⟩,
   ⟨(some 70), .bin .add (.t 69) (.c (.d (.i .u32 1))), none⟩,
   ⟨(some 71), .build [.d (.i .u32 0), .d (.i .u32 0), .d (.i .u8 0), .d (.i .u32 0), .d (.i .u8 0), .d (.i .u8 0), .d (.i .u8 0), .d (.s ⟨#[]⟩)] [(1, 1, .t 70)], none⟩,
   ⟨(some 72), .build Pk.State.zeroA [(40, 8, .t 71)], none⟩,
   ⟨(some 73), .build Pk.Diff.zeroA [(0, 1, .c (.d (.i .i64 0))), (3, 49, .t 72)], none⟩,
   ⟨(some 74), .call (.f F_merge_Apply) [.t 68, .t 73], none⟩,
   ⟨(some 67), .mv (.t 74), none⟩,
   ⟨(some 75), .ext (.t 67) 0, none⟩,
   ⟨(some 76), .ext (.t 67) 1, none⟩,
   ⟨(some 18), .box (.c (.agg Pk.State.zeroA)), none⟩,
   ⟨none, .store 49 (.t 18) (.t 75), none⟩,
   ⟨(some 19), .mv (.t 76), none⟩] [])
 (.seq (.region (some [2, 9, 11, 13, 15, 17, 19]) [⟨(some 77), .mv (.t 2), none⟩,
   ⟨(some 78), .faddr 40 (.t 9), none⟩,
   ⟨(some 79), .faddr 1 (.t 78), none⟩,
   ⟨(some 80), .load false 1 (.t 79), none⟩,
   ⟨(some 81), .bin .geq (.t 77) (.t 80), none⟩,
   ⟨(some 82), .mv (.t 81), none⟩,
   ⟨(some 83), .mv (.t 2), some (82, true)⟩,
   ⟨(some 84), .mv (.t 11), some (82, true)⟩,
   ⟨(some 85), .bin .leq (.t 83) (.t 84), some (82, true)⟩,
   ⟨(some 86), .pick (.t 82) (.t 85) (.c (.d (.b false))), none⟩,
   ⟨(some 20), .mv (.t 86), none⟩] [])
 (.seq (.region (some [13, 15, 17, 19, 20]) [⟨(some 87), .mv (.t 13), none⟩,
   ⟨(some 88), .bin .eql (.t 87) (.c (.d (.i .i64 0))), none⟩,
   ⟨(some 89), .mv (.t 20), none⟩,
   ⟨(some 90), .eq false (.sb) (.t 88) (.t 89), none⟩,
   ⟨(some 91), .mv (.t 90), none⟩,
   ⟨(some 92), .mv (.t 15), some (91, true)⟩,
   ⟨(some 93), .bin .eql (.t 92) (.c (.d (.i .i64 80))), some (91, true)⟩,
   ⟨(some 94), .pick (.t 91) (.t 93) (.c (.d (.b false))), none⟩,
   ⟨(some 95), .mv (.t 94), none⟩,
   ⟨(some 96), .mv (.t 17), some (95, true)⟩,
   ⟨(some 97), .bin .eql (.t 96) (.c (.d (.i .i64 80))), some (95, true)⟩,
   ⟨(some 98), .pick (.t 95) (.t 97) (.c (.d (.b false))), none⟩,
   ⟨(some 99), .mv (.t 98), none⟩,
   ⟨(some 100), .mv (.t 19), some (99, true)⟩,
   ⟨(some 101), .bin .eql (.t 100) (.c (.d (.i .i64 80))), some (99, true)⟩,
   ⟨(some 102), .pick (.t 99) (.t 101) (.c (.d (.b false))), none⟩,
   ⟨(some 8), .mv (.t 102), none⟩] [])
 (.ret)))))))))))
def a_paddocklaw8_MergeRefuses : AFn := .code 4 c_paddocklaw8_MergeRefuses [.tmp 8]
set_option maxRecDepth 100000 in
theorem k_paddocklaw8_MergeRefuses : compF Try.prog h_paddocklaw8_MergeRefuses F_paddocklaw8_MergeRefuses = some a_paddocklaw8_MergeRefuses := by kernel_rfl

/-- paddock/paddocklaw8.MergeSteps -/
def h_paddocklaw8_MergeSteps : Hints := { kp := [(0, [0, 1, 2, 3, 4, 5, 6]), (1, [0, 1, 2, 3, 4, 5, 6]), (2, []), (3, [0, 1, 2, 3, 4, 5, 6]), (4, []), (5, [0, 1, 2, 3, 4, 5, 6]), (6, [15, 16, 17]), (7, [15, 17, 18, 19]), (8, []), (9, [15, 17, 18]), (10, [15, 17, 20, 21]), (11, [17, 20, 21, 22, 23])], lkp := [], lth := [] }
def c_paddocklaw8_MergeSteps : ACode :=
 .seq (.region (some [0, 1, 2, 3, 4, 5, 6]) [⟨(some 14), .mv (.c (.d (.b false))), none⟩] [])
 (.seq (.seq (.region (some [0, 1, 2, 3, 4, 5, 6]) [⟨(some 24), .call (.f F_paddocklaw8_known) [], none⟩,
   ⟨(some 25), .un .not (.t 24), none⟩] [])
 (.cond (.t 25) (.seq (.region (some []) [⟨(some 14), .mv (.c (.d (.b false))), none⟩] [])
  (.ret)) (.skip)))
 (.seq (.seq (.region (some [0, 1, 2, 3, 4, 5, 6]) [⟨(some 26), .mv (.t 0), none⟩,
   ⟨(some 27), .len false (.t 26), none⟩,
   ⟨(some 28), .bin .gtr (.t 27) (.c (.d (.i .i64 10))), none⟩,
   ⟨(some 29), .mv (.t 28), none⟩,
   ⟨(some 30), .mv (.t 1), some (29, false)⟩,
   ⟨(some 31), .len false (.t 30), some (29, false)⟩,
   ⟨(some 32), .bin .gtr (.t 31) (.c (.d (.i .i64 6))), some (29, false)⟩,
   ⟨(some 33), .pick (.t 29) (.c (.d (.b true))) (.t 32), none⟩,
   ⟨(some 34), .mv (.t 33), none⟩,
   ⟨(some 35), .mv (.t 2), some (34, false)⟩,
   ⟨(some 36), .len false (.t 35), some (34, false)⟩,
   ⟨(some 37), .bin .gtr (.t 36) (.c (.d (.i .i64 6))), some (34, false)⟩,
   ⟨(some 38), .pick (.t 34) (.c (.d (.b true))) (.t 37), none⟩,
   ⟨(some 39), .mv (.t 38), none⟩,
   ⟨(some 40), .mv (.t 3), some (39, false)⟩,
   ⟨(some 41), .len false (.t 40), some (39, false)⟩,
   ⟨(some 42), .bin .gtr (.t 41) (.c (.d (.i .i64 6))), some (39, false)⟩,
   ⟨(some 43), .pick (.t 39) (.c (.d (.b true))) (.t 42), none⟩] [])
 (.cond (.t 43) (.seq (.region (some []) [⟨(some 14), .mv (.c (.d (.b true))), none⟩] [])
  (.ret)) (.skip)))
 (.seq (.region (some [0, 1, 2, 3, 4, 5, 6]) [⟨(some 44), .mv (.t 0), none⟩,
   ⟨(some 45), .mv (.t 1), none⟩,
   ⟨(some 46), .mv (.t 4), none⟩,
   ⟨(some 47), .mv (.t 4), none⟩,
   ⟨(some 48), .call (.f F_paddocklaw8_state) [.t 44, .t 45, .t 46, .c (.d (.i .u8 1)), .t 47], none⟩,
   ⟨(some 49), .mv (.t 0), none⟩,
   ⟨(some 50), .mv (.t 2), none⟩,
   ⟨(some 51), .mv (.t 5), none⟩,
   ⟨(some 52), .mv (.t 5), none⟩,
   ⟨(some 53), .call (.f F_paddocklaw8_state) [.t 49, .t 50, .t 51, .c (.d (.i .u8 2)), .t 52], none⟩,
   ⟨(some 54), .mv (.t 0), none⟩,
   ⟨(some 55), .mv (.t 3), none⟩,
   ⟨(some 56), .mv (.t 6), none⟩,
   ⟨(some 57), .mv (.t 6), none⟩,
   ⟨(some 58), .call (.f F_paddocklaw8_state) [.t 54, .t 55, .t 56, .c (.d (.i .u8 3)), .t 57], none⟩,
   ⟨(some 15), .box (.c (.agg Pk.State.zeroA)), none⟩,
   ⟨(some 16), .box (.c (.agg Pk.State.zeroA)), none⟩,
   ⟨(some 17), .box (.c (.agg Pk.State.zeroA)), none⟩,
   ⟨none, .store 49 (.t 15) (.t 48), none⟩,
   ⟨none, .store 49 (.t 16) (.t 53), none⟩,
   ⟨none, .store 49 (.t 17) (.t 58), none⟩] [])
 (.seq (.region (some [15, 16, 17]) [⟨(some 60), .load true 49 (.t 15), none⟩,
   ⟨(some 61), .load true 49 (.t 15), none⟩,
   ⟨(some 62), .load true 49 (.t 16), none⟩,
   ⟨(some 63), .call (.f F_merge_Make) [.t 61, .t 62], none⟩,
   ⟨(some 64), .call (.f F_merge_Apply) [.t 60, .t 63], none⟩,
   ⟨(some 59), .mv (.t 64), none⟩,
   ⟨(some 65), .ext (.t 59) 0, none⟩,
   ⟨(some 66), .ext (.t 59) 1, none⟩,
   ⟨(some 18), .box (.c (.agg Pk.State.zeroA)), none⟩,
   ⟨none, .store 49 (.t 18) (.t 65), none⟩,
   ⟨(some 19), .mv (.t 66), none⟩] [(0, 1), (0, 2), (1, 2), (0, 3), (0, 8), (1, 8), (2, 8), (3, 8), (4, 8)])
 (.seq (.seq (.region (some [15, 17, 18, 19]) [⟨(some 67), .mv (.t 19), none⟩,
   ⟨(some 68), .bin .neq (.t 67) (.c (.d (.i .i64 0))), none⟩] [])
 (.cond (.t 68) (.seq (.region (some []) [⟨(some 14), .mv (.c (.d (.b false))), none⟩] [])
  (.ret)) (.skip)))
 (.seq (.region (some [15, 17, 18]) [⟨(some 70), .load true 49 (.t 18), none⟩,
   ⟨(some 71), .load true 49 (.t 18), none⟩,
   ⟨(some 72), .load true 49 (.t 17), none⟩,
   ⟨(some 73), .call (.f F_merge_Make) [.t 71, .t 72], none⟩,
   ⟨(some 74), .call (.f F_merge_Apply) [.t 70, .t 73], none⟩,
   ⟨(some 69), .mv (.t 74), none⟩,
   ⟨(some 75), .ext (.t 69) 0, none⟩,
   ⟨(some 76), .ext (.t 69) 1, none⟩,
   ⟨(some 20), .box (.c (.agg Pk.State.zeroA)), none⟩,
   ⟨none, .store 49 (.t 20) (.t 75), none⟩,
   ⟨(some 21), .mv (.t 76), none⟩] [(0, 1), (0, 2), (1, 2), (0, 3), (0, 8), (1, 8), (2, 8), (3, 8), (4, 8)])
 (.seq (.region (some [15, 17, 20, 21]) [⟨(some 78), .load true 49 (.t 15), none⟩,
   ⟨(some 79), .load true 49 (.t 15), none⟩,
   ⟨(some 80), .load true 49 (.t 17), none⟩,
   ⟨(some 81), .call (.f F_merge_Make) [.t 79, .t 80], none⟩,
   ⟨(some 82), .call (.f F_merge_Apply) [.t 78, .t 81], none⟩,
   ⟨(some 77), .mv (.t 82), none⟩,
   ⟨(some 83), .ext (.t 77) 0, none⟩,
   ⟨(some 84), .ext (.t 77) 1, none⟩,
   ⟨(some 22), .box (.c (.agg Pk.State.zeroA)), none⟩,
   ⟨none, .store 49 (.t 22) (.t 83), none⟩,
   ⟨(some 23), .mv (.t 84), none⟩] [(0, 1), (0, 2), (1, 2), (0, 3), (0, 8), (1, 8), (2, 8), (3, 8), (4, 8)])
 (.seq (.region (some [17, 20, 21, 22, 23]) [⟨(some 85), .mv (.t 21), none⟩,
   ⟨(some 86), .bin .eql (.t 85) (.c (.d (.i .i64 0))), none⟩,
   ⟨(some 87), .mv (.t 86), none⟩,
   ⟨(some 88), .mv (.t 23), some (87, true)⟩,
   ⟨(some 89), .bin .eql (.t 88) (.c (.d (.i .i64 0))), some (87, true)⟩,
   ⟨(some 90), .pick (.t 87) (.t 89) (.c (.d (.b false))), none⟩,
   ⟨(some 91), .mv (.t 90), none⟩,
   ⟨(some 92), .load true 49 (.t 20), some (91, true)⟩,
   ⟨(some 93), .load true 49 (.t 22), some (91, true)⟩,
   ⟨(some 94), .call (.f F_pglog_Same) [.t 92, .t 93], some (91, true)⟩,
   ⟨(some 95), .pick (.t 91) (.t 94) (.c (.d (.b false))), none⟩,
   ⟨(some 96), .mv (.t 95), none⟩,
   ⟨(some 97), .load true 49 (.t 20), some (96, true)⟩,
   ⟨(some 98), .load true 49 (.t 17), some (96, true)⟩,
   ⟨(some 99), .call (.f F_pglog_Same) [.t 97, .t 98], some (96, true)⟩,
   ⟨(some 100), .pick (.t 96) (.t 99) (.c (.d (.b false))), none⟩,
   ⟨(some 14), .mv (.t 100), none⟩] [])
 (.ret)))))))))
def a_paddocklaw8_MergeSteps : AFn := .code 7 c_paddocklaw8_MergeSteps [.tmp 14]
set_option maxRecDepth 100000 in
theorem k_paddocklaw8_MergeSteps : compF Try.prog h_paddocklaw8_MergeSteps F_paddocklaw8_MergeSteps = some a_paddocklaw8_MergeSteps := by kernel_rfl

/-- paddock/paddocklaw8.MergeTells -/
def h_paddocklaw8_MergeTells : Hints := { kp := [(0, [0, 1, 2]), (1, [3, 4, 5]), (2, []), (3, [3, 4, 5]), (4, []), (5, [3, 4, 5]), (6, [3, 4, 5, 7]), (7, [3, 4, 5, 7, 8]), (8, [3, 4, 5, 7, 8, 9, 10]), (9, [3, 4, 7, 8, 9, 10, 11, 12])], lkp := [], lth := [] }
def c_paddocklaw8_MergeTells : ACode :=
 .seq (.region (some [0, 1, 2]) [⟨(some 3), .box (.t 0), none⟩,
   ⟨(some 4), .box (.t 1), none⟩,
   ⟨(some 5), .box (.t 2), none⟩,
   ⟨(some 6), .mv (.c (.d (.b false))), none⟩] [])
 (.seq (.seq (.region (some [3, 4, 5]) [⟨(some 13), .call (.f F_paddocklaw8_known) [], none⟩,
   ⟨(some 14), .un .not (.t 13), none⟩] [])
 (.cond (.t 14) (.seq (.region (some []) [⟨(some 6), .mv (.c (.d (.b false))), none⟩] [])
  (.ret)) (.skip)))
 (.seq (.seq (.region (some [3, 4, 5]) [⟨(some 15), .load true 49 (.t 3), none⟩,
   ⟨(some 16), .call (.f F_paddocklaw8_few) [.t 15], none⟩,
   ⟨(some 17), .un .not (.t 16), none⟩,
   ⟨(some 18), .mv (.t 17), none⟩,
   ⟨(some 19), .load true 49 (.t 4), some (18, false)⟩,
   ⟨(some 20), .call (.f F_paddocklaw8_few) [.t 19], some (18, false)⟩,
   ⟨(some 21), .un .not (.t 20), some (18, false)⟩,
   ⟨(some 22), .pick (.t 18) (.c (.d (.b true))) (.t 21), none⟩,
   ⟨(some 23), .mv (.t 22), none⟩,
   ⟨(some 24), .faddr 3 (.t 5), some (23, false)⟩,
   ⟨(some 25), .load true 49 (.t 24), some (23, false)⟩,
   ⟨(some 26), .call (.f F_paddocklaw8_few) [.t 25], some (23, false)⟩,
   ⟨(some 27), .un .not (.t 26), some (23, false)⟩,
   ⟨(some 28), .pick (.t 23) (.c (.d (.b true))) (.t 27), none⟩,
   ⟨(some 29), .mv (.t 28), none⟩,
   ⟨(some 30), .faddr 2 (.t 5), some (29, false)⟩,
   ⟨(some 31), .load false 1 (.t 30), some (29, false)⟩,
   ⟨(some 32), .len false (.t 31), some (29, false)⟩,
   ⟨(some 33), .bin .gtr (.t 32) (.c (.d (.i .i64 12))), some (29, false)⟩,
   ⟨(some 34), .pick (.t 29) (.c (.d (.b true))) (.t 33), none⟩] [])
 (.cond (.t 34) (.seq (.region (some []) [⟨(some 6), .mv (.c (.d (.b true))), none⟩] [])
  (.ret)) (.skip)))
 (.seq (.region (some [3, 4, 5]) [⟨(some 35), .load true 49 (.t 3), none⟩,
   ⟨(some 36), .load true 49 (.t 4), none⟩,
   ⟨(some 37), .call (.f F_merge_Make) [.t 35, .t 36], none⟩,
   ⟨(some 7), .box (.c (.agg Pk.Diff.zeroA)), none⟩,
   ⟨none, .store 52 (.t 7) (.t 37), none⟩] [])
 (.seq (.region (some [3, 4, 5, 7]) [⟨(some 38), .load true 49 (.t 3), none⟩,
   ⟨(some 39), .load true 49 (.t 4), none⟩,
   ⟨(some 40), .call (.f F_paddockref8_Make) [.t 38, .t 39], none⟩,
   ⟨(some 8), .box (.c (.agg Pk.Diff.zeroA)), none⟩,
   ⟨none, .store 52 (.t 8) (.t 40), none⟩] [])
 (.seq (.region (some [3, 4, 5, 7, 8]) [⟨(some 42), .load true 49 (.t 3), none⟩,
   ⟨(some 43), .load true 52 (.t 5), none⟩,
   ⟨(some 44), .call (.f F_merge_Apply) [.t 42, .t 43], none⟩,
   ⟨(some 41), .mv (.t 44), none⟩,
   ⟨(some 45), .ext (.t 41) 0, none⟩,
   ⟨(some 46), .ext (.t 41) 1, none⟩,
   ⟨(some 9), .box (.c (.agg Pk.State.zeroA)), none⟩,
   ⟨none, .store 49 (.t 9) (.t 45), none⟩,
   ⟨(some 10), .mv (.t 46), none⟩] [])
 (.seq (.region (some [3, 4, 5, 7, 8, 9, 10]) [⟨(some 48), .load true 49 (.t 3), none⟩,
   ⟨(some 49), .load true 52 (.t 5), none⟩,
   ⟨(some 50), .call (.f F_paddockref8_Apply) [.t 48, .t 49], none⟩,
   ⟨(some 47), .mv (.t 50), none⟩,
   ⟨(some 51), .ext (.t 47) 0, none⟩,
   ⟨(some 52), .ext (.t 47) 1, none⟩,
   ⟨(some 11), .box (.c (.agg Pk.State.zeroA)), none⟩,
   ⟨none, .store 49 (.t 11) (.t 51), none⟩,
   ⟨(some 12), .mv (.t 52), none⟩] [])
 (.seq (.region (some [3, 4, 7, 8, 9, 10, 11, 12]) [⟨(some 53), .load true 52 (.t 7), none⟩,
   ⟨(some 54), .load true 52 (.t 8), none⟩,
   ⟨(some 55), .call (.f F_paddocklaw8_same) [.t 53, .t 54], none⟩,
   ⟨(some 56), .mv (.t 55), none⟩,
   ⟨(some 57), .mv (.t 10), some (56, true)⟩,
   ⟨(some 58), .bin .eql (.t 57) (.c (.d (.i .i64 0))), some (56, true)⟩,
   ⟨(some 59), .mv (.t 12), some (56, true)⟩,
   ⟨(some 60), .eq false (.sb) (.t 58) (.t 59), some (56, true)⟩,
   ⟨(some 61), .pick (.t 56) (.t 60) (.c (.d (.b false))), none⟩,
   ⟨(some 62), .mv (.t 61), none⟩,
   ⟨(some 63), .mv (.t 10), some (62, true)⟩,
   ⟨(some 64), .bin .eql (.t 63) (.c (.d (.i .i64 0))), some (62, true)⟩,
   ⟨(some 65), .mv (.t 64), some (62, true)⟩,
   ⟨(some 66), .mv (.t 10), some (65, false)⟩,
   ⟨(some 67), .bin .eql (.t 66) (.c (.d (.i .i64 80))), some (65, false)⟩,
   ⟨(some 68), .pick (.t 65) (.c (.d (.b true))) (.t 67), some (62, true)⟩,
   ⟨(some 69), .pick (.t 62) (.t 68) (.c (.d (.b false))), none⟩,
   ⟨(some 70), .mv (.t 69), none⟩,
   ⟨(some 71), .load true 49 (.t 9), some (70, true)⟩,
   ⟨(some 72), .load true 49 (.t 11), some (70, true)⟩,
   ⟨(some 73), .call (.f F_paddockref6_Same) [.t 71, .t 72], some (70, true)⟩,
   ⟨(some 74), .pick (.t 70) (.t 73) (.c (.d (.b false))), none⟩,
   ⟨(some 75), .mv (.t 74), none⟩,
   ⟨(some 76), .load true 49 (.t 3), some (75, true)⟩,
   ⟨(some 77), .load true 49 (.t 4), some (75, true)⟩,
   ⟨(some 78), .call (.f F_merge_Extends) [.t 76, .t 77], some (75, true)⟩,
   ⟨(some 79), .load true 49 (.t 3), some (75, true)⟩,
   ⟨(some 80), .load true 49 (.t 4), some (75, true)⟩,
   ⟨(some 81), .call (.f F_paddockref8_Extends) [.t 79, .t 80], some (75, true)⟩,
   ⟨(some 82), .eq false (.sb) (.t 78) (.t 81), some (75, true)⟩,
   ⟨(some 83), .pick (.t 75) (.t 82) (.c (.d (.b false))), none⟩,
   ⟨(some 84), .mv (.t 83), none⟩,
   ⟨(some 85), .load true 52 (.t 8), some (84, true)⟩,
   ⟨(some 86), .call (.f F_merge_Bytes) [.t 85], some (84, true)⟩,
   ⟨(some 87), .load true 52 (.t 8), some (84, true)⟩,
   ⟨(some 88), .call (.f F_paddockref8_Bytes) [.t 87], some (84, true)⟩,
   ⟨(some 89), .bin .eql (.t 86) (.t 88), some (84, true)⟩,
   ⟨(some 90), .pick (.t 84) (.t 89) (.c (.d (.b false))), none⟩,
   ⟨(some 6), .mv (.t 90), none⟩] [(0, 1), (18, 19), (23, 24), (23, 26), (24, 26), (25, 26), (23, 27), (24, 27), (25, 27), (26, 27), (32, 34), (33, 34)])
 (.ret))))))))
def a_paddocklaw8_MergeTells : AFn := .code 3 c_paddocklaw8_MergeTells [.tmp 6]
set_option maxRecDepth 100000 in
theorem k_paddocklaw8_MergeTells : compF Try.prog h_paddocklaw8_MergeTells F_paddocklaw8_MergeTells = some a_paddocklaw8_MergeTells := by kernel_rfl

/-- paddock/paddocklaw8.MergeBack -/
def h_paddocklaw8_MergeBack : Hints := { kp := [(0, [0, 1, 2, 3, 4, 5, 6]), (1, [0, 1, 2, 3, 4, 5, 6]), (2, []), (3, [0, 1, 2, 3, 4, 5, 6]), (4, []), (5, [0, 1, 2, 3, 4, 5, 6]), (6, [15, 16]), (7, [15, 16, 17]), (8, [15, 16, 17, 18, 19]), (9, [15, 16, 17, 18, 19, 20, 21]), (10, []), (11, [16, 17]), (12, [16, 17]), (13, [16, 17, 23]), (14, []), (15, [16, 17])], lkp := [], lth := [] }
def c_paddocklaw8_MergeBack : ACode :=
 .seq (.region (some [0, 1, 2, 3, 4, 5, 6]) [⟨(some 14), .mv (.c (.d (.b false))), none⟩] [])
 (.seq (.seq (.region (some [0, 1, 2, 3, 4, 5, 6]) [⟨(some 24), .call (.f F_paddocklaw8_known) [], none⟩,
   ⟨(some 25), .un .not (.t 24), none⟩] [])
 (.cond (.t 25) (.seq (.region (some []) [⟨(some 14), .mv (.c (.d (.b false))), none⟩] [])
  (.ret)) (.skip)))
 (.seq (.seq (.region (some [0, 1, 2, 3, 4, 5, 6]) [⟨(some 26), .mv (.t 0), none⟩,
   ⟨(some 27), .len false (.t 26), none⟩,
   ⟨(some 28), .bin .gtr (.t 27) (.c (.d (.i .i64 20))), none⟩,
   ⟨(some 29), .mv (.t 28), none⟩,
   ⟨(some 30), .mv (.t 1), some (29, false)⟩,
   ⟨(some 31), .len false (.t 30), some (29, false)⟩,
   ⟨(some 32), .bin .gtr (.t 31) (.c (.d (.i .i64 10))), some (29, false)⟩,
   ⟨(some 33), .pick (.t 29) (.c (.d (.b true))) (.t 32), none⟩,
   ⟨(some 34), .mv (.t 33), none⟩,
   ⟨(some 35), .mv (.t 2), some (34, false)⟩,
   ⟨(some 36), .len false (.t 35), some (34, false)⟩,
   ⟨(some 37), .bin .gtr (.t 36) (.c (.d (.i .i64 10))), some (34, false)⟩,
   ⟨(some 38), .pick (.t 34) (.c (.d (.b true))) (.t 37), none⟩] [])
 (.cond (.t 38) (.seq (.region (some []) [⟨(some 14), .mv (.c (.d (.b true))), none⟩] [])
  (.ret)) (.skip)))
 (.seq (.region (some [0, 1, 2, 3, 4, 5, 6]) [⟨(some 39), .mv (.t 0), none⟩,
   ⟨(some 40), .mv (.t 1), none⟩,
   ⟨(some 41), .mv (.t 3), none⟩,
   ⟨(some 42), .mv (.t 5), none⟩,
   ⟨(some 43), .mv (.t 3), none⟩,
   ⟨(some 44), .call (.f F_paddocklaw8_state) [.t 39, .t 40, .t 41, .t 42, .t 43], none⟩,
   ⟨(some 45), .mv (.t 0), none⟩,
   ⟨(some 46), .mv (.t 2), none⟩,
   ⟨(some 47), .mv (.t 4), none⟩,
   ⟨(some 48), .mv (.t 6), none⟩,
   ⟨(some 49), .mv (.t 4), none⟩,
   ⟨(some 50), .call (.f F_paddocklaw8_state) [.t 45, .t 46, .t 47, .t 48, .t 49], none⟩,
   ⟨(some 15), .box (.c (.agg Pk.State.zeroA)), none⟩,
   ⟨(some 16), .box (.c (.agg Pk.State.zeroA)), none⟩,
   ⟨none, .store 49 (.t 15) (.t 44), none⟩,
   ⟨none, .store 49 (.t 16) (.t 50), none⟩] [])
 (.seq (.region (some [15, 16]) [⟨(some 51), .load true 49 (.t 15), none⟩,
   ⟨(some 52), .load true 49 (.t 16), none⟩,
   ⟨(some 53), .call (.f F_merge_Make) [.t 51, .t 52], none⟩,
   ⟨(some 17), .box (.c (.agg Pk.Diff.zeroA)), none⟩,
   ⟨none, .store 52 (.t 17) (.t 53), none⟩] [])
 (.seq (.region (some [15, 16, 17]) [⟨(some 55), .load true 49 (.t 15), none⟩,
   ⟨(some 56), .load true 52 (.t 17), none⟩,
   ⟨(some 57), .call (.f F_merge_Apply) [.t 55, .t 56], none⟩,
   ⟨(some 54), .mv (.t 57), none⟩,
   ⟨(some 58), .ext (.t 54) 0, none⟩,
   ⟨(some 59), .ext (.t 54) 1, none⟩,
   ⟨(some 18), .box (.c (.agg Pk.State.zeroA)), none⟩,
   ⟨none, .store 49 (.t 18) (.t 58), none⟩,
   ⟨(some 19), .mv (.t 59), none⟩] [])
 (.seq (.region (some [15, 16, 17, 18, 19]) [⟨(some 61), .load true 49 (.t 16), none⟩,
   ⟨(some 62), .load true 49 (.t 16), none⟩,
   ⟨(some 63), .load true 49 (.t 15), none⟩,
   ⟨(some 64), .call (.f F_merge_Make) [.t 62, .t 63], none⟩,
   ⟨(some 65), .call (.f F_merge_Apply) [.t 61, .t 64], none⟩,
   ⟨(some 60), .mv (.t 65), none⟩,
   ⟨(some 66), .ext (.t 60) 0, none⟩,
   ⟨(some 67), .ext (.t 60) 1, none⟩,
   ⟨(some 20), .box (.c (.agg Pk.State.zeroA)), none⟩,
   ⟨none, .store 49 (.t 20) (.t 66), none⟩,
   ⟨(some 21), .mv (.t 67), none⟩] [(0, 1), (0, 2), (1, 2), (0, 3), (0, 8), (1, 8), (2, 8), (3, 8), (4, 8)])
 (.seq (.seq (.region (some [15, 16, 17, 18, 19, 20, 21]) [⟨(some 68), .mv (.t 19), none⟩,
   ⟨(some 69), .bin .neq (.t 68) (.c (.d (.i .i64 0))), none⟩,
   ⟨(some 70), .mv (.t 69), none⟩,
   ⟨(some 71), .mv (.t 21), some (70, false)⟩,
   ⟨(some 72), .bin .neq (.t 71) (.c (.d (.i .i64 0))), some (70, false)⟩,
   ⟨(some 73), .pick (.t 70) (.c (.d (.b true))) (.t 72), none⟩,
   ⟨(some 74), .mv (.t 73), none⟩,
   ⟨(some 75), .load true 49 (.t 18), some (74, false)⟩,
   ⟨(some 76), .load true 49 (.t 16), some (74, false)⟩,
   ⟨(some 77), .call (.f F_pglog_Same) [.t 75, .t 76], some (74, false)⟩,
   ⟨(some 78), .un .not (.t 77), some (74, false)⟩,
   ⟨(some 79), .pick (.t 74) (.c (.d (.b true))) (.t 78), none⟩,
   ⟨(some 80), .mv (.t 79), none⟩,
   ⟨(some 81), .load true 49 (.t 20), some (80, false)⟩,
   ⟨(some 82), .load true 49 (.t 15), some (80, false)⟩,
   ⟨(some 83), .call (.f F_pglog_Same) [.t 81, .t 82], some (80, false)⟩,
   ⟨(some 84), .un .not (.t 83), some (80, false)⟩,
   ⟨(some 85), .pick (.t 80) (.c (.d (.b true))) (.t 84), none⟩] [])
 (.cond (.t 85) (.seq (.region (some []) [⟨(some 14), .mv (.c (.d (.b false))), none⟩] [])
  (.ret)) (.skip)))
 (.seq (.seq (.region (some [16, 17]) [⟨(some 86), .faddr 0 (.t 17), none⟩,
   ⟨(some 87), .load false 1 (.t 86), none⟩,
   ⟨(some 88), .bin .eql (.t 87) (.c (.d (.i .i64 1))), none⟩] [])
 (.cond (.t 88) (.seq (.region (some [16, 17]) [⟨(some 90), .load true 49 (.t 16), none⟩,
    ⟨(some 91), .call (.f F_pglog_Head) [.t 90], none⟩,
    ⟨(some 89), .mv (.t 91), none⟩,
    ⟨(some 92), .ext (.t 89) 0, none⟩,
    ⟨(some 93), .ext (.t 89) 1, none⟩,
    ⟨(some 22), .mv (.t 92), none⟩,
    ⟨(some 23), .mv (.t 93), none⟩] [])
  (.seq (.region (some [16, 17, 23]) [⟨(some 94), .mv (.t 23), none⟩,
    ⟨(some 95), .faddr 1 (.t 17), none⟩,
    ⟨(some 96), .load false 1 (.t 95), none⟩,
    ⟨(some 97), .bin .sub (.t 94) (.t 96), none⟩,
    ⟨(some 98), .conv .i64 (.t 97), none⟩,
    ⟨(some 99), .faddr 2 (.t 17), none⟩,
    ⟨(some 100), .load false 1 (.t 99), none⟩,
    ⟨(some 101), .len false (.t 100), none⟩,
    ⟨(some 102), .bin .neq (.t 98) (.t 101), none⟩] [])
  (.cond (.t 102) (.seq (.region (some []) [⟨(some 14), .mv (.c (.d (.b false))), none⟩] [])
   (.ret)) (.skip)))) (.skip)))
 (.seq (.region (some [16, 17]) [⟨(some 103), .faddr 0 (.t 17), none⟩,
   ⟨(some 104), .load false 1 (.t 103), none⟩,
   ⟨(some 105), .bin .eql (.t 104) (.c (.d (.i .i64 2))), none⟩,
   ⟨(some 106), .mv (.t 105), none⟩,
   ⟨(some 107), .faddr 3 (.t 17), some (106, false)⟩,
   ⟨(some 108), .faddr 48 (.t 107), some (106, false)⟩,
   ⟨(some 109), .load false 1 (.t 108), some (106, false)⟩,
   ⟨(some 110), .len false (.t 109), some (106, false)⟩,
   ⟨(some 111), .bin .eql (.t 110) (.c (.d (.i .i64 0))), some (106, false)⟩,
   ⟨(some 112), .mv (.t 111), some (106, false)⟩,
   ⟨(some 113), .load true 52 (.t 17), some (112, true)⟩,
   ⟨(some 114), .call (.f F_merge_Bytes) [.t 113], some (112, true)⟩,
   ⟨(some 115), .faddr 48 (.t 16), some (112, true)⟩,
   ⟨(some 116), .load false 1 (.t 115), some (112, true)⟩,
   ⟨(some 117), .len false (.t 116), some (112, true)⟩,
   ⟨(some 118), .bin .leq (.t 114) (.t 117), some (112, true)⟩,
   ⟨(some 119), .pick (.t 112) (.t 118) (.c (.d (.b false))), some (106, false)⟩,
   ⟨(some 120), .pick (.t 106) (.c (.d (.b true))) (.t 119), none⟩,
   ⟨(some 14), .mv (.t 120), none⟩] [(10, 13), (11, 13)])
 (.ret))))))))))
def a_paddocklaw8_MergeBack : AFn := .code 7 c_paddocklaw8_MergeBack [.tmp 14]
set_option maxRecDepth 100000 in
theorem k_paddocklaw8_MergeBack : compF Try.prog h_paddocklaw8_MergeBack F_paddocklaw8_MergeBack = some a_paddocklaw8_MergeBack := by kernel_rfl

/-- paddock/paddocklaw8.MergeSelf -/
def h_paddocklaw8_MergeSelf : Hints := { kp := [(0, [0, 1]), (1, [0, 1]), (2, []), (3, [0, 1]), (4, []), (5, [0, 1]), (6, [5, 6]), (7, [5, 6, 7, 8]), (8, [6, 7, 8, 9, 10])], lkp := [], lth := [] }
def c_paddocklaw8_MergeSelf : ACode :=
 .seq (.region (some [0, 1]) [⟨(some 4), .mv (.c (.d (.b false))), none⟩] [])
 (.seq (.seq (.region (some [0, 1]) [⟨(some 11), .call (.f F_paddocklaw8_known) [], none⟩,
   ⟨(some 12), .un .not (.t 11), none⟩] [])
 (.cond (.t 12) (.seq (.region (some []) [⟨(some 4), .mv (.c (.d (.b false))), none⟩] [])
  (.ret)) (.skip)))
 (.seq (.seq (.region (some [0, 1]) [⟨(some 13), .mv (.t 0), none⟩,
   ⟨(some 14), .len false (.t 13), none⟩,
   ⟨(some 15), .bin .gtr (.t 14) (.c (.d (.i .i64 20))), none⟩] [])
 (.cond (.t 15) (.seq (.region (some []) [⟨(some 4), .mv (.c (.d (.b true))), none⟩] [])
  (.ret)) (.skip)))
 (.seq (.region (some [0, 1]) [⟨(some 16), .mv (.t 0), none⟩,
   ⟨(some 17), .call (.f F_paddocklaw8_state) [.t 16, .c (.nilS), .c (.d (.i .u32 0)), .c (.d (.i .u8 0)), .c (.d (.i .u32 1))], none⟩,
   ⟨(some 18), .mv (.t 0), none⟩,
   ⟨(some 19), .mv (.t 1), none⟩,
   ⟨(some 20), .call (.f F_paddocklaw8_state) [.t 18, .c (.nilS), .c (.d (.i .u32 0)), .t 19, .c (.d (.i .u32 1))], none⟩,
   ⟨(some 5), .box (.c (.agg Pk.State.zeroA)), none⟩,
   ⟨(some 6), .box (.c (.agg Pk.State.zeroA)), none⟩,
   ⟨none, .store 49 (.t 5) (.t 17), none⟩,
   ⟨none, .store 49 (.t 6) (.t 20), none⟩] [])
 (.seq (.region (some [5, 6]) [⟨(some 21), .load true 49 (.t 5), none⟩,
   ⟨(some 22), .load true 49 (.t 5), none⟩,
   ⟨(some 23), .call (.f F_merge_Make) [.t 21, .t 22], none⟩,
   ⟨(some 24), .load true 49 (.t 5), none⟩,
   ⟨(some 25), .load true 49 (.t 6), none⟩,
   ⟨(some 26), .call (.f F_merge_Make) [.t 24, .t 25], none⟩,
   ⟨(some 7), .box (.c (.agg Pk.Diff.zeroA)), none⟩,
   ⟨(some 8), .box (.c (.agg Pk.Diff.zeroA)), none⟩,
   ⟨none, .store 52 (.t 7) (.t 23), none⟩,
   ⟨none, .store 52 (.t 8) (.t 26), none⟩] [(0, 1), (0, 3), (1, 3), (2, 3), (0, 4), (1, 4), (2, 4), (3, 4), (0, 6), (1, 6), (2, 6), (3, 6), (4, 6), (5, 6), (0, 7), (1, 7), (2, 7), (3, 7), (4, 7), (5, 7), (6, 7)])
 (.seq (.region (some [5, 6, 7, 8]) [⟨(some 28), .load true 49 (.t 5), none⟩,
   ⟨(some 29), .load true 52 (.t 8), none⟩,
   ⟨(some 30), .call (.f F_merge_Apply) [.t 28, .t 29], none⟩,
   ⟨(some 27), .mv (.t 30), none⟩,
   ⟨(some 31), .ext (.t 27) 0, none⟩,
   ⟨(some 32), .ext (.t 27) 1, none⟩,
   ⟨(some 9), .box (.c (.agg Pk.State.zeroA)), none⟩,
   ⟨none, .store 49 (.t 9) (.t 31), none⟩,
   ⟨(some 10), .mv (.t 32), none⟩] [])
 (.seq (.region (some [6, 7, 8, 9, 10]) [⟨(some 33), .faddr 0 (.t 7), none⟩,
   ⟨(some 34), .load false 1 (.t 33), none⟩,
   ⟨(some 35), .bin .eql (.t 34) (.c (.d (.i .i64 0))), none⟩,
   ⟨(some 36), .mv (.t 35), none⟩,
   ⟨(some 37), .faddr 2 (.t 7), some (36, true)⟩,
   ⟨(some 38), .load false 1 (.t 37), some (36, true)⟩,
   ⟨(some 39), .len false (.t 38), some (36, true)⟩,
   ⟨(some 40), .bin .eql (.t 39) (.c (.d (.i .i64 0))), some (36, true)⟩,
   ⟨(some 41), .pick (.t 36) (.t 40) (.c (.d (.b false))), none⟩,
   ⟨(some 42), .mv (.t 41), none⟩,
   ⟨(some 43), .faddr 1 (.t 7), some (42, true)⟩,
   ⟨(some 44), .load false 1 (.t 43), some (42, true)⟩,
   ⟨(some 45), .bin .eql (.t 44) (.c (.d (.i .u32 0))), some (42, true)⟩,
   ⟨(some 46), .pick (.t 42) (.t 45) (.c (.d (.b false))), none⟩,
   ⟨(some 47), .mv (.t 46), none⟩,
   ⟨(some 48), .load true 52 (.t 7), some (47, true)⟩,
   ⟨(some 49), .call (.f F_merge_Bytes) [.t 48], some (47, true)⟩,
   ⟨(some 50), .bin .eql (.t 49) (.c (.d (.i .i64 0))), some (47, true)⟩,
   ⟨(some 51), .pick (.t 47) (.t 50) (.c (.d (.b false))), none⟩,
   ⟨(some 52), .mv (.t 51), none⟩,
   ⟨(some 53), .faddr 0 (.t 8), some (52, true)⟩,
   ⟨(some 54), .load false 1 (.t 53), some (52, true)⟩,
   ⟨(some 55), .bin .leq (.t 54) (.c (.d (.i .i64 1))), some (52, true)⟩,
   ⟨(some 56), .pick (.t 52) (.t 55) (.c (.d (.b false))), none⟩,
   ⟨(some 57), .mv (.t 56), none⟩,
   ⟨(some 58), .faddr 2 (.t 8), some (57, true)⟩,
   ⟨(some 59), .load false 1 (.t 58), some (57, true)⟩,
   ⟨(some 60), .len false (.t 59), some (57, true)⟩,
   ⟨(some 61), .bin .eql (.t 60) (.c (.d (.i .i64 0))), some (57, true)⟩,
   ⟨(some 62), .pick (.t 57) (.t 61) (.c (.d (.b false))), none⟩,
   ⟨(some 63), .mv (.t 62), none⟩,
   ⟨(some 64), .mv (.t 10), some (63, true)⟩,
   ⟨(some 65), .bin .eql (.t 64) (.c (.d (.i .i64 0))), some (63, true)⟩,
   ⟨(some 66), .pick (.t 63) (.t 65) (.c (.d (.b false))), none⟩,
   ⟨(some 67), .mv (.t 66), none⟩,
   ⟨(some 68), .load true 49 (.t 9), some (67, true)⟩,
   ⟨(some 69), .load true 49 (.t 6), some (67, true)⟩,
   ⟨(some 70), .call (.f F_pglog_Same) [.t 68, .t 69], some (67, true)⟩,
   ⟨(some 71), .pick (.t 67) (.t 70) (.c (.d (.b false))), none⟩,
   ⟨(some 4), .mv (.t 71), none⟩] [])
 (.ret)))))))
def a_paddocklaw8_MergeSelf : AFn := .code 2 c_paddocklaw8_MergeSelf [.tmp 4]
set_option maxRecDepth 100000 in
theorem k_paddocklaw8_MergeSelf : compF Try.prog h_paddocklaw8_MergeSelf F_paddocklaw8_MergeSelf = some a_paddocklaw8_MergeSelf := by kernel_rfl

/-- paddock/paddocklaw8.known -/
def h_paddocklaw8_known : Hints := { kp := [(0, []), (1, []), (2, [1, 2]), (3, [1, 2, 3]), (4, [1, 2, 3, 4, 5]), (5, [1, 2, 3, 4, 5, 7])], lkp := [], lth := [] }
def c_paddocklaw8_known : ACode :=
 .seq (.region (some []) [⟨(some 0), .mv (.c (.d (.b false))), none⟩] [])
 (.seq (.region (some []) [⟨(some 9), .build Pk.State.zeroA [], none⟩,
   ⟨(some 10), .build [.d (.i .u8 0), .d (.i .u32 0), .d (.i .u8 0), .d (.i .u8 0), .d (.i .u8 0), .d (.s ⟨#[]⟩)] [(0, 1, .c (.d (.i .u8 1))), (1, 1, .c (.d (.i .u32 1))), (2, 1, .c (.d (.i .u8 1))), (5, 1, .c (.d (.s ⟨#[97]⟩)))], none⟩,
   ⟨(some 11), .build [.d (.i .u32 0), .d (.i .u32 0), .d (.i .u8 0), .d (.i .u32 0), .d (.i .u8 0), .d (.i .u8 0), .d (.i .u8 0), .d (.s ⟨#[]⟩)] [(0, 1, .c (.d (.i .u32 1))), (1, 1, .c (.d (.i .u32 1))), (2, 6, .t 10)], none⟩,
   ⟨(some 12), .call (.f F_pglog_Add) [.t 9, .t 11], none⟩,
   ⟨(some 8), .mv (.t 12), none⟩,
   ⟨(some 13), .ext (.t 8) 0, none⟩,
   ⟨(some 14), .ext (.t 8) 1, none⟩,
   ⟨(some 1), .box (.c (.agg Pk.State.zeroA)), none⟩,
   ⟨none, .store 49 (.t 1) (.t 13), none⟩,
   ⟨(some 2), .mv (.t 14), none⟩] [])
 (.seq (.region (some [1, 2]) [⟨(some 15), .build Pk.State.zeroA [], none⟩,
   ⟨(some 16), .load true 49 (.t 1), none⟩,
   ⟨(some 17), .call (.f F_merge_Make) [.t 15, .t 16], none⟩,
   ⟨(some 3), .box (.c (.agg Pk.Diff.zeroA)), none⟩,
   ⟨none, .store 52 (.t 3) (.t 17), none⟩] [])
 (.seq (.region (some [1, 2, 3]) [⟨(some 19), .build Pk.State.zeroA [], none⟩,
   ⟨(some 20), .load true 52 (.t 3), none⟩,
   ⟨(some 21), .call (.f F_merge_Apply) [.t 19, .t 20], none⟩,
   ⟨(some 18), .mv (.t 21), none⟩,
   ⟨(some 22), .ext (.t 18) 0, none⟩,
   ⟨(some 23), .ext (.t 18) 1, none⟩,
   ⟨(some 4), .box (.c (.agg Pk.State.zeroA)), none⟩,
   ⟨none, .store 49 (.t 4) (.t 22), none⟩,
   ⟨(some 5), .mv (.t 23), none⟩] [])
 (.seq (.region (some [1, 2, 3, 4, 5]) [⟨(some 25), .load true 49 (.t 1), none⟩,
   ⟨(some 26), .build Pk.Diff.zeroA [(0, 1, .c (.d (.i .i64 9)))], none⟩,
   ⟨(some 27), .call (.f F_merge_Apply) [.t 25, .t 26], none⟩,
   ⟨(some 24), .mv (.t 27), none⟩,
   ⟨(some 28), .ext (.t 24) 0, none⟩,
   ⟨(some 29), .ext (.t 24) 1, none⟩,
   ⟨(some 6), .box (.c (.agg Pk.State.zeroA)), none⟩,
   ⟨none, .store 49 (.t 6) (.t 28), none⟩,
   ⟨(some 7), .mv (.t 29), none⟩] [])
 (.seq (.region (some [1, 2, 3, 4, 5, 7]) [⟨(some 30), .mv (.t 2), none⟩,
   ⟨(some 31), .bin .eql (.t 30) (.c (.d (.i .i64 0))), none⟩,
   ⟨(some 32), .mv (.t 31), none⟩,
   ⟨(some 33), .faddr 0 (.t 3), some (32, true)⟩,
   ⟨(some 34), .load false 1 (.t 33), some (32, true)⟩,
   ⟨(some 35), .bin .eql (.t 34) (.c (.d (.i .i64 1))), some (32, true)⟩,
   ⟨(some 36), .pick (.t 32) (.t 35) (.c (.d (.b false))), none⟩,
   ⟨(some 37), .mv (.t 36), none⟩,
   ⟨(some 38), .faddr 2 (.t 3), some (37, true)⟩,
   ⟨(some 39), .load false 1 (.t 38), some (37, true)⟩,
   ⟨(some 40), .len false (.t 39), some (37, true)⟩,
   ⟨(some 41), .bin .eql (.t 40) (.c (.d (.i .i64 1))), some (37, true)⟩,
   ⟨(some 42), .pick (.t 37) (.t 41) (.c (.d (.b false))), none⟩,
   ⟨(some 43), .mv (.t 42), none⟩,
   ⟨(some 44), .mv (.t 5), some (43, true)⟩,
   ⟨(some 45), .bin .eql (.t 44) (.c (.d (.i .i64 0))), some (43, true)⟩,
   ⟨(some 46), .pick (.t 43) (.t 45) (.c (.d (.b false))), none⟩,
   ⟨(some 47), .mv (.t 46), none⟩,
   ⟨(some 48), .load true 49 (.t 1), some (47, true)⟩,
   ⟨(some 49), .load true 49 (.t 4), some (47, true)⟩,
   ⟨(some 50), .call (.f F_pglog_Same) [.t 48, .t 49], some (47, true)⟩,
   ⟨(some 51), .pick (.t 47) (.t 50) (.c (.d (.b false))), none⟩,
   ⟨(some 52), .mv (.t 51), none⟩,
   ⟨(some 53), .mv (.t 7), some (52, true)⟩,
   ⟨(some 54), .bin .eql (.t 53) (.c (.d (.i .i64 80))), some (52, true)⟩,
   ⟨(some 55), .pick (.t 52) (.t 54) (.c (.d (.b false))), none⟩,
   ⟨(some 56), .mv (.t 55), none⟩,
   ⟨(some 57), .load true 49 (.t 1), some (56, true)⟩,
   ⟨(some 58), .load true 49 (.t 1), some (56, true)⟩,
   ⟨(some 59), .call (.f F_merge_Make) [.t 57, .t 58], some (56, true)⟩,
   ⟨(some 60), .field false 0 1 (.t 59), some (56, true)⟩,
   ⟨(some 61), .bin .eql (.t 60) (.c (.d (.i .i64 0))), some (56, true)⟩,
   ⟨(some 62), .pick (.t 56) (.t 61) (.c (.d (.b false))), none⟩,
   ⟨(some 63), .mv (.t 62), none⟩,
   ⟨(some 64), .build Pk.State.zeroA [], some (63, true)⟩,
   ⟨(some 65), .load true 49 (.t 1), some (63, true)⟩,
   ⟨(some 66), .call (.f F_merge_Extends) [.t 64, .t 65], some (63, true)⟩,
   ⟨(some 67), .pick (.t 63) (.t 66) (.c (.d (.b false))), none⟩,
   ⟨(some 68), .mv (.t 67), none⟩,
   ⟨(some 69), .load true 49 (.t 1), some (68, true)⟩,
   ⟨(some 70), .build Pk.State.zeroA [], some (68, true)⟩,
   ⟨(some 71), .call (.f F_merge_Extends) [.t 69, .t 70], some (68, true)⟩,
   ⟨(some 72), .un .not (.t 71), some (68, true)⟩,
   ⟨(some 73), .pick (.t 68) (.t 72) (.c (.d (.b false))), none⟩,
   ⟨(some 0), .mv (.t 73), none⟩] [])
 (.ret))))))
def a_paddocklaw8_known : AFn := .code 0 c_paddocklaw8_known [.tmp 0]
set_option maxRecDepth 100000 in
theorem k_paddocklaw8_known : compF Try.prog h_paddocklaw8_known F_paddocklaw8_known = some a_paddocklaw8_known := by kernel_rfl

/-- paddock/paddocklaw8.state -/
def h_paddocklaw8_state : Hints := { kp := [(0, [0, 1, 2, 3, 4]), (1, [0, 1, 2, 3, 4, 10]), (2, [0, 1, 2, 3, 10, 11]), (3, [0, 1, 2, 3, 10, 11, 12]), (5, [0, 1, 2, 3, 10, 11, 12]), (6, [0, 1, 2, 3, 10, 11, 12, 13, 14]), (8, [0, 1, 2, 3, 10, 11, 12, 13]), (7, [0, 1, 2, 3, 10, 11, 12, 13, 14]), (9, [0, 1, 2, 3, 10, 11, 12, 13, 14]), (10, [0, 1, 2, 3, 10, 11, 12, 13, 14, 16]), (11, [0, 1, 2, 3, 10, 11, 12, 17, 18]), (12, [0, 1, 2, 3, 10, 11, 12, 17]), (4, [0, 1, 2, 3, 10, 11, 12]), (13, [3, 10, 11]), (14, [3, 10, 11, 20]), (15, [10, 11, 21, 22]), (16, [10, 11, 21]), (17, [10, 11])], lkp := [(3, [0, 1, 2, 3, 10, 11, 12])], lth := [] }
def K_paddocklaw8_state_0 : Option (List Nat) := (some [0, 1, 2, 3, 10, 11, 12])
def l_paddocklaw8_state_0 : ACode :=
 .seq (.seq (.region (some [0, 1, 2, 3, 10, 11, 12]) [⟨(some 26), .mv (.t 12), none⟩,
   ⟨(some 27), .mv (.t 0), none⟩,
   ⟨(some 28), .len false (.t 27), none⟩,
   ⟨(some 29), .mv (.t 1), none⟩,
   ⟨(some 30), .len false (.t 29), none⟩,
   ⟨(some 31), .bin .add (.t 28) (.t 30), none⟩,
   ⟨(some 32), .bin .lss (.t 26) (.t 31), none⟩] [])
 (.cond (.t 32) (.skip) (.exit 0)))
 (.seq (.block 1 (.seq (.region (some [0, 1, 2, 3, 10, 11, 12]) [⟨(some 35), .build [.d (.i .u8 0), .d (.i .u32 0), .d (.i .u8 0), .d (.i .u8 0), .d (.i .u8 0), .d (.s ⟨#[]⟩)] [], none⟩,
    ⟨(some 13), .box (.c (.d (.agg [.i .u8 0, .i .u32 0, .i .u8 0, .i .u8 0, .i .u8 0, .s ⟨#[]⟩]))), none⟩,
    ⟨none, .store 6 (.t 13) (.t 35), none⟩,
    ⟨(some 14), .mv (.c (.d (.i .u32 1))), none⟩] [])
  (.seq (.seq (.region (some [0, 1, 2, 3, 10, 11, 12, 13, 14]) [⟨(some 36), .mv (.t 12), none⟩,
    ⟨(some 37), .mv (.t 0), none⟩,
    ⟨(some 38), .len false (.t 37), none⟩,
    ⟨(some 39), .bin .lss (.t 36) (.t 38), none⟩] [])
  (.cond (.t 39) (.region (some [0, 1, 2, 3, 10, 11, 12, 13, 14]) [⟨(some 40), .mv (.t 0), none⟩,
     ⟨(some 41), .mv (.t 12), none⟩,
     ⟨(some 42), .iaddrS 6 (.t 40) (.t 41), none⟩,
     ⟨(some 43), .load true 6 (.t 42), none⟩,
     ⟨none, .store 6 (.t 13) (.t 43), none⟩] []) (.region (some [0, 1, 2, 3, 10, 11, 12, 13]) [⟨(some 44), .mv (.t 1), none⟩,
     ⟨(some 45), .mv (.t 12), none⟩,
     ⟨(some 46), .mv (.t 0), none⟩,
     ⟨(some 47), .len false (.t 46), none⟩,
     ⟨(some 48), .bin .sub (.t 45) (.t 47), none⟩,
     ⟨(some 49), .iaddrS 6 (.t 44) (.t 48), none⟩,
     ⟨(some 50), .load true 6 (.t 49), none⟩,
     ⟨(some 51), .mv (.t 2), none⟩,
     ⟨(some 52), .bin .rem (.t 51) (.c (.d (.i .u32 20))), none⟩,
     ⟨(some 53), .bin .add (.t 52) (.c (.d (.i .u32 2))), none⟩,
     ⟨none, .store 6 (.t 13) (.t 50), none⟩,
     ⟨(some 14), .mv (.t 53), none⟩] [])))
  (.seq (.region (some [0, 1, 2, 3, 10, 11, 12, 13, 14]) [⟨(some 55), .load true 49 (.t 11), none⟩,
    ⟨(some 56), .call (.f F_pglog_Head) [.t 55], none⟩,
    ⟨(some 54), .mv (.t 56), none⟩,
    ⟨(some 57), .ext (.t 54) 0, none⟩,
    ⟨(some 58), .ext (.t 54) 1, none⟩,
    ⟨(some 15), .mv (.t 57), none⟩,
    ⟨(some 16), .mv (.t 58), none⟩] [])
  (.seq (.region (some [0, 1, 2, 3, 10, 11, 12, 13, 14, 16]) [⟨(some 60), .load true 49 (.t 11), none⟩,
    ⟨(some 61), .mv (.t 14), none⟩,
    ⟨(some 62), .mv (.t 16), none⟩,
    ⟨(some 63), .bin .add (.t 62) (.c (.d (.i .u32 1))), none⟩,
    ⟨(some 64), .load true 6 (.t 13), none⟩,
    ⟨(some 65), .build [.d (.i .u32 0), .d (.i .u32 0), .d (.i .u8 0), .d (.i .u32 0), .d (.i .u8 0), .d (.i .u8 0), .d (.i .u8 0), .d (.s ⟨#[]⟩)] [(0, 1, .t 61), (1, 1, .t 63), (2, 6, .t 64)], none⟩,
    ⟨(some 66), .call (.f F_pglog_Add) [.t 60, .t 65], none⟩,
    ⟨(some 59), .mv (.t 66), none⟩,
    ⟨(some 67), .ext (.t 59) 0, none⟩,
    ⟨(some 68), .ext (.t 59) 1, none⟩,
    ⟨(some 17), .box (.c (.agg Pk.State.zeroA)), none⟩,
    ⟨none, .store 49 (.t 17) (.t 67), none⟩,
    ⟨(some 18), .mv (.t 68), none⟩] [])
  (.seq (.region (some [0, 1, 2, 3, 10, 11, 12, 17, 18]) [⟨(some 69), .mv (.t 18), none⟩,
    ⟨(some 70), .bin .eql (.t 69) (.c (.d (.i .i64 0))), none⟩] [])
  (.cond (.t 70) (.region (some [0, 1, 2, 3, 10, 11, 12, 17]) [⟨(some 71), .load true 49 (.t 17), none⟩,
     ⟨none, .store 49 (.t 11) (.t 71), none⟩] []) (.skip))))))))
 (.region (some [0, 1, 2, 3, 10, 11, 12]) [⟨(some 33), .mv (.t 12), none⟩,
   ⟨(some 34), .bin .add (.t 33) (.c (.d (.i .i64 1))), none⟩,
   ⟨(some 12), .mv (.t 34), none⟩] []))
def c_paddocklaw8_state : ACode :=
 .seq (.region (some [0, 1, 2, 3, 4]) [⟨(some 10), .box (.c (.agg Pk.State.zeroA)), none⟩] [])
 (.seq (.region (some [0, 1, 2, 3, 4, 10]) [⟨(some 23), .mv (.t 4), none⟩,
   ⟨(some 24), .bin .rem (.t 23) (.c (.d (.i .u32 60))), none⟩,
   ⟨(some 25), .build Pk.State.zeroA [(0, 1, .t 24)], none⟩,
   ⟨(some 11), .box (.c (.agg Pk.State.zeroA)), none⟩,
   ⟨none, .store 49 (.t 11) (.t 25), none⟩] [])
 (.seq (.seq (.region (some [0, 1, 2, 3, 10, 11]) [⟨(some 12), .mv (.c (.d (.i .i64 0))), none⟩] [])
 (.block 0 (.loop K_paddocklaw8_state_0 [] l_paddocklaw8_state_0)))
 (.seq (.region (some [3, 10, 11]) [⟨(some 73), .load true 49 (.t 11), none⟩,
   ⟨(some 74), .call (.f F_pglog_Head) [.t 73], none⟩,
   ⟨(some 72), .mv (.t 74), none⟩,
   ⟨(some 75), .ext (.t 72) 0, none⟩,
   ⟨(some 76), .ext (.t 72) 1, none⟩,
   ⟨(some 19), .mv (.t 75), none⟩,
   ⟨(some 20), .mv (.t 76), none⟩] [])
 (.seq (.region (some [3, 10, 11, 20]) [⟨(some 78), .load true 49 (.t 11), none⟩,
   ⟨(some 79), .faddr 40 (.t 11), none⟩,
   ⟨(some 80), .faddr 1 (.t 79), none⟩,
   ⟨(some 81), .load false 1 (.t 80), none⟩,
   ⟨(some 82), .mv (.t 3), none⟩,
   ⟨(some 83), .conv .u32 (.t 82), none⟩,
   ⟨(some 84), .mv (.t 20), none⟩,
   ⟨(some 85), .faddr 40 (.t 11), none⟩,
   ⟨(some 86), .faddr 1 (.t 85), none⟩,
   ⟨(some 87), .load false 1 (.t 86), none⟩,
   ⟨(some 88), .bin .sub (.t 84) (.t 87), none⟩,
   ⟨(some 89), .bin .add (.t 88) (.c (.d (.i .u32 1))), none⟩,
   ⟨(some 90), .bin .rem (.t 83) (.t 89), none⟩,
   ⟨(some 91), .bin .add (.t 81) (.t 90), none⟩,
   ⟨(some 92), .call (.f F_pglog_Tail) [.t 78, .t 91], none⟩,
   ⟨(some 77), .mv (.t 92), none⟩,
   ⟨(some 93), .ext (.t 77) 0, none⟩,
   ⟨(some 94), .ext (.t 77) 1, none⟩,
   ⟨(some 21), .box (.c (.agg Pk.State.zeroA)), none⟩,
   ⟨none, .store 49 (.t 21) (.t 93), none⟩,
   ⟨(some 22), .mv (.t 94), none⟩] [(0, 3), (0, 9), (3, 9), (0, 18), (3, 18), (9, 18), (14, 18)])
 (.seq (.seq (.region (some [10, 11, 21, 22]) [⟨(some 95), .mv (.t 22), none⟩,
   ⟨(some 96), .bin .eql (.t 95) (.c (.d (.i .i64 0))), none⟩] [])
 (.cond (.t 96) (.region (some [10, 11, 21]) [⟨(some 97), .load true 49 (.t 21), none⟩,
    ⟨none, .store 49 (.t 11) (.t 97), none⟩] []) (.skip)))
 (.seq (.region (some [10, 11]) [⟨(some 98), .load true 49 (.t 11), none⟩,
   ⟨none, .store 49 (.t 10) (.t 98), none⟩] [])
 (.ret)))))))
def a_paddocklaw8_state : AFn := .code 5 c_paddocklaw8_state [.cell true 49 10]
set_option maxRecDepth 100000 in
theorem k_paddocklaw8_state : compF Try.prog h_paddocklaw8_state F_paddocklaw8_state = some a_paddocklaw8_state := by kernel_rfl

/-- paddock/pglog.Head -/
def h_pglog_Head : Hints := { kp := [(0, [0]), (1, [1]), (2, []), (3, [1]), (4, [4])], lkp := [], lth := [] }
def c_pglog_Head : ACode :=
 .seq (.region (some [0]) [⟨(some 1), .box (.t 0), none⟩,
   ⟨(some 2), .mv (.c (.d (.i .u32 0))), none⟩,
   ⟨(some 3), .mv (.c (.d (.i .u32 0))), none⟩] [])
 (.seq (.seq (.region (some [1]) [⟨(some 5), .load true 49 (.t 1), none⟩,
   ⟨(some 6), .call (.f F_pglog_Is) [.t 5], none⟩,
   ⟨(some 7), .un .not (.t 6), none⟩] [])
 (.cond (.t 7) (.seq (.region (some []) [⟨(some 2), .mv (.c (.d (.i .u32 0))), none⟩,
    ⟨(some 3), .mv (.c (.d (.i .u32 0))), none⟩] [])
  (.ret)) (.skip)))
 (.seq (.region (some [1]) [⟨(some 8), .load true 49 (.t 1), none⟩,
   ⟨(some 9), .call (.f F_pglog_last) [.t 8], none⟩,
   ⟨(some 4), .box (.c (.d (.agg [.i .u32 0, .i .u32 0, .i .u8 0, .i .u32 0, .i .u8 0, .i .u8 0, .i .u8 0, .s ⟨#[]⟩]))), none⟩,
   ⟨none, .store 8 (.t 4) (.t 9), none⟩] [])
 (.seq (.region (some [4]) [⟨(some 10), .faddr 0 (.t 4), none⟩,
   ⟨(some 11), .load false 1 (.t 10), none⟩,
   ⟨(some 12), .faddr 1 (.t 4), none⟩,
   ⟨(some 13), .load false 1 (.t 12), none⟩,
   ⟨(some 2), .mv (.t 11), none⟩,
   ⟨(some 3), .mv (.t 13), none⟩] [(1, 3)])
 (.ret))))
def a_pglog_Head : AFn := .code 1 c_pglog_Head [.tmp 2, .tmp 3]
set_option maxRecDepth 100000 in
theorem k_pglog_Head : compF Try.prog h_pglog_Head F_pglog_Head = some a_pglog_Head := by kernel_rfl

/-- paddock/pglog.Add -/
def h_pglog_Add : Hints := { kp := [(0, [0, 1]), (1, [2, 3, 4]), (2, [4]), (3, [2, 3, 4]), (4, [2, 4])], lkp := [], lth := [] }
def c_pglog_Add : ACode :=
 .seq (.region (some [0, 1]) [⟨(some 2), .box (.t 0), none⟩,
   ⟨(some 3), .box (.t 1), none⟩,
   ⟨(some 4), .box (.c (.agg Pk.State.zeroA)), none⟩,
   ⟨(some 5), .mv (.c (.d (.i .i64 0))), none⟩] [])
 (.seq (.seq (.region (some [2, 3, 4]) [⟨(some 6), .load true 49 (.t 2), none⟩,
   ⟨(some 7), .call (.f F_pglog_Is) [.t 6], none⟩,
   ⟨(some 8), .un .not (.t 7), none⟩,
   ⟨(some 9), .mv (.t 8), none⟩,
   ⟨(some 10), .load true 49 (.t 2), some (9, false)⟩,
   ⟨(some 11), .call (.f F_pglog_last) [.t 10], some (9, false)⟩,
   ⟨(some 12), .load true 8 (.t 3), some (9, false)⟩,
   ⟨(some 13), .call (.f F_pglog_next) [.t 11, .t 12], some (9, false)⟩,
   ⟨(some 14), .un .not (.t 13), some (9, false)⟩,
   ⟨(some 15), .pick (.t 9) (.c (.d (.b true))) (.t 14), none⟩] [(4, 6), (5, 6)])
 (.cond (.t 15) (.seq (.region (some [4]) [⟨(some 16), .build Pk.State.zeroA [], none⟩,
    ⟨none, .store 49 (.t 4) (.t 16), none⟩,
    ⟨(some 5), .mv (.c (.d (.i .i64 10))), none⟩] [])
  (.ret)) (.skip)))
 (.seq (.region (some [2, 3, 4]) [⟨(some 17), .faddr 48 (.t 2), none⟩,
   ⟨(some 18), .load false 1 (.t 17), none⟩,
   ⟨(some 19), .call (.f F_slices_Clone_sapi_Entry_api_Entry) [.t 18], none⟩,
   ⟨(some 20), .load true 8 (.t 3), none⟩,
   ⟨(some 21), .bsl 8 [.t 20], none⟩,
   ⟨(some 22), .app 8 (.t 19) (.t 21), none⟩,
   ⟨(some 23), .faddr 48 (.t 2), none⟩,
   ⟨none, .store 1 (.t 23) (.t 22), none⟩] [(1, 3), (2, 3), (1, 4), (2, 4)])
 (.seq (.region (some [2, 4]) [⟨(some 24), .load true 49 (.t 2), none⟩,
   ⟨(some 25), .faddr 48 (.t 2), none⟩,
   ⟨(some 26), .load false 1 (.t 25), none⟩,
   ⟨(some 27), .len false (.t 26), none⟩,
   ⟨(some 28), .bin .sub (.t 27) (.c (.d (.i .i64 6))), none⟩,
   ⟨(some 29), .mm true [.t 28, .c (.d (.i .i64 0))], none⟩,
   ⟨(some 30), .call (.f F_pglog_folded) [.t 24, .t 29], none⟩,
   ⟨none, .store 49 (.t 4) (.t 30), none⟩,
   ⟨(some 5), .mv (.c (.d (.i .i64 0))), none⟩] [])
 (.ret))))
def a_pglog_Add : AFn := .code 2 c_pglog_Add [.cell true 49 4, .tmp 5]
set_option maxRecDepth 100000 in
theorem k_pglog_Add : compF Try.prog h_pglog_Add F_pglog_Add = some a_pglog_Add := by kernel_rfl

/-- paddock/merge.Make -/
def h_merge_Make : Hints := { kp := [(0, [0, 1]), (1, [2, 3, 4]), (2, [4]), (3, [2, 3, 4]), (4, [2, 3, 4, 5]), (5, [2, 3, 4, 5]), (7, [2, 3, 4]), (8, [3, 4]), (6, [3, 4]), (9, [2, 3, 4]), (10, [3, 4, 6])], lkp := [], lth := [] }
def c_merge_Make : ACode :=
 .seq (.region (some [0, 1]) [⟨(some 2), .box (.t 0), none⟩,
   ⟨(some 3), .box (.t 1), none⟩,
   ⟨(some 4), .box (.c (.agg Pk.Diff.zeroA)), none⟩] [])
 (.seq (.seq (.region (some [2, 3, 4]) [⟨(some 7), .load true 49 (.t 2), none⟩,
   ⟨(some 8), .call (.f F_pglog_Is) [.t 7], none⟩,
   ⟨(some 9), .un .not (.t 8), none⟩,
   ⟨(some 10), .mv (.t 9), none⟩,
   ⟨(some 11), .load true 49 (.t 3), some (10, false)⟩,
   ⟨(some 12), .call (.f F_pglog_Is) [.t 11], some (10, false)⟩,
   ⟨(some 13), .un .not (.t 12), some (10, false)⟩,
   ⟨(some 14), .pick (.t 10) (.c (.d (.b true))) (.t 13), none⟩] [])
 (.cond (.t 14) (.seq (.region (some [4]) [⟨(some 15), .build Pk.Diff.zeroA [], none⟩,
    ⟨none, .store 52 (.t 4) (.t 15), none⟩] [])
  (.ret)) (.skip)))
 (.seq (.region (some [2, 3, 4]) [⟨(some 16), .load true 49 (.t 2), none⟩,
   ⟨(some 5), .box (.c (.agg Pk.State.zeroA)), none⟩,
   ⟨none, .store 49 (.t 5) (.t 16), none⟩] [])
 (.seq (.region (some [2, 3, 4, 5]) [⟨(some 17), .faddr 0 (.t 3), none⟩,
   ⟨(some 18), .load false 1 (.t 17), none⟩,
   ⟨(some 19), .faddr 0 (.t 5), none⟩,
   ⟨none, .store 1 (.t 19) (.t 18), none⟩] [])
 (.seq (.block 0 (.seq (.region (some [2, 3, 4, 5]) [⟨(some 21), .load true 49 (.t 5), none⟩,
    ⟨(some 22), .load true 49 (.t 3), none⟩,
    ⟨(some 23), .call (.f F_pglog_Same) [.t 21, .t 22], none⟩,
    ⟨(some 20), .mv (.t 23), none⟩] [])
  (.cond (.t 20) (.seq (.region (some [3, 4]) [⟨(some 24), .load true 49 (.t 3), none⟩,
     ⟨(some 25), .call (.f F_merge_head) [.t 24], none⟩,
     ⟨(some 26), .build Pk.Diff.zeroA [(0, 1, .c (.d (.i .i64 0))), (3, 49, .t 25)], none⟩,
     ⟨none, .store 52 (.t 4) (.t 26), none⟩] [])
   (.ret)) (.seq (.region (some [2, 3, 4]) [⟨(some 28), .load true 49 (.t 2), none⟩,
     ⟨(some 29), .load true 49 (.t 3), none⟩,
     ⟨(some 30), .call (.f F_merge_stands) [.t 28, .t 29], none⟩,
     ⟨(some 31), .un .not (.t 30), none⟩,
     ⟨(some 27), .mv (.t 31), none⟩] [])
   (.cond (.t 27) (.seq (.region (some [3, 4]) [⟨(some 32), .load true 49 (.t 3), none⟩,
      ⟨(some 33), .call (.f F_pglog_Copy) [.t 32], none⟩,
      ⟨(some 34), .build Pk.Diff.zeroA [(0, 1, .c (.d (.i .i64 2))), (3, 49, .t 33)], none⟩,
      ⟨none, .store 52 (.t 4) (.t 34), none⟩] [])
    (.ret)) (.skip))))))
 (.seq (.region (some [2, 3, 4]) [⟨(some 35), .load true 49 (.t 2), none⟩,
   ⟨(some 36), .load true 49 (.t 3), none⟩,
   ⟨(some 37), .call (.f F_merge_common) [.t 35, .t 36], none⟩,
   ⟨(some 6), .mv (.t 37), none⟩] [])
 (.seq (.region (some [3, 4, 6]) [⟨(some 38), .mv (.t 6), none⟩,
   ⟨(some 39), .faddr 48 (.t 3), none⟩,
   ⟨(some 40), .load false 1 (.t 39), none⟩,
   ⟨(some 41), .mv (.t 6), none⟩,
   ⟨(some 42), .faddr 40 (.t 3), none⟩,
   ⟨(some 43), .faddr 1 (.t 42), none⟩,
   ⟨(some 44), .load false 1 (.t 43), none⟩,
   ⟨(some 45), .bin .sub (.t 41) (.t 44), none⟩,
   ⟨(some 46), .slice 8 (.t 40) (some (.t 45)) none none, none⟩,
   ⟨(some 47), .call (.f F_slices_Clone_sapi_Entry_api_Entry) [.t 46], none⟩,
   ⟨(some 48), .load true 49 (.t 3), none⟩,
   ⟨(some 49), .call (.f F_merge_head) [.t 48], none⟩,
   ⟨(some 50), .build Pk.Diff.zeroA [(0, 1, .c (.d (.i .i64 1))), (1, 1, .t 38), (2, 1, .t 47), (3, 49, .t 49)], none⟩,
   ⟨none, .store 52 (.t 4) (.t 50), none⟩] [(2, 6), (2, 10), (6, 10), (9, 10)])
 (.ret)))))))
def a_merge_Make : AFn := .code 2 c_merge_Make [.cell true 52 4]
set_option maxRecDepth 100000 in
theorem k_merge_Make : compF Try.prog h_merge_Make F_merge_Make = some a_merge_Make := by kernel_rfl

/-- paddock/merge.Apply -/
def h_merge_Apply : Hints := { kp := [(0, [0, 1]), (1, [2, 3, 4]), (2, [2, 3, 4, 6]), (3, [4, 6]), (4, [2, 3, 4, 6]), (5, [3, 4, 6]), (6, [4, 6]), (7, [3, 4]), (8, [2, 3, 4, 6]), (9, [2, 3, 4, 6, 7]), (10, [2, 3, 4, 6, 7]), (11, [3, 4, 6, 7, 8, 9]), (12, [4, 6]), (13, [3, 4, 6, 7, 8]), (14, [3, 4, 6, 7, 9]), (15, [4, 6]), (16, [3, 4, 6, 7]), (17, [3, 4, 6, 7, 10]), (18, [3, 4, 6, 7, 10]), (19, [4, 6]), (20, [4, 7])], lkp := [], lth := [] }
def c_merge_Apply : ACode :=
 .seq (.region (some [0, 1]) [⟨(some 2), .box (.t 0), none⟩,
   ⟨(some 3), .box (.t 1), none⟩,
   ⟨(some 4), .box (.c (.agg Pk.State.zeroA)), none⟩,
   ⟨(some 5), .mv (.c (.d (.i .i64 0))), none⟩] [])
 (.seq (.region (some [2, 3, 4]) [⟨(some 6), .mv (.f F_merge_Apply_1), none⟩] [])
 (.seq (.seq (.region (some [2, 3, 4, 6]) [⟨(some 11), .load true 49 (.t 2), none⟩,
   ⟨(some 12), .call (.f F_pglog_Is) [.t 11], none⟩,
   ⟨(some 13), .un .not (.t 12), none⟩,
   ⟨(some 14), .mv (.t 13), none⟩,
   ⟨(some 15), .faddr 0 (.t 3), some (14, false)⟩,
   ⟨(some 16), .load false 1 (.t 15), some (14, false)⟩,
   ⟨(some 17), .bin .lss (.t 16) (.c (.d (.i .i64 0))), some (14, false)⟩,
   ⟨(some 18), .pick (.t 14) (.c (.d (.b true))) (.t 17), none⟩,
   ⟨(some 19), .mv (.t 18), none⟩,
   ⟨(some 20), .faddr 0 (.t 3), some (19, false)⟩,
   ⟨(some 21), .load false 1 (.t 20), some (19, false)⟩,
   ⟨(some 22), .bin .gtr (.t 21) (.c (.d (.i .i64 2))), some (19, false)⟩,
   ⟨(some 23), .pick (.t 19) (.c (.d (.b true))) (.t 22), none⟩,
   ⟨(some 24), .mv (.t 23), none⟩,
   ⟨(some 25), .faddr 0 (.t 3), some (24, false)⟩,
   ⟨(some 26), .load false 1 (.t 25), some (24, false)⟩,
   ⟨(some 27), .bin .neq (.t 26) (.c (.d (.i .i64 1))), some (24, false)⟩,
   ⟨(some 28), .mv (.t 27), some (24, false)⟩,
   ⟨(some 29), .faddr 2 (.t 3), some (28, true)⟩,
   ⟨(some 30), .load false 1 (.t 29), some (28, true)⟩,
   ⟨(some 31), .len false (.t 30), some (28, true)⟩,
   ⟨(some 32), .bin .gtr (.t 31) (.c (.d (.i .i64 0))), some (28, true)⟩,
   ⟨(some 33), .mv (.t 32), some (28, true)⟩,
   ⟨(some 34), .faddr 1 (.t 3), some (33, false)⟩,
   ⟨(some 35), .load false 1 (.t 34), some (33, false)⟩,
   ⟨(some 36), .bin .neq (.t 35) (.c (.d (.i .u32 0))), some (33, false)⟩,
   ⟨(some 37), .pick (.t 33) (.c (.d (.b true))) (.t 36), some (28, true)⟩,
   ⟨(some 38), .pick (.t 28) (.t 37) (.c (.d (.b false))), some (24, false)⟩,
   ⟨(some 39), .pick (.t 24) (.c (.d (.b true))) (.t 38), none⟩] [])
 (.cond (.t 39) (.seq (.region (some [4, 6]) [⟨(some 40), .mv (.t 6), none⟩,
    ⟨(some 41), .call (.t 40) [], none⟩,
    ⟨(some 42), .ext (.t 41) 0, none⟩,
    ⟨(some 43), .ext (.t 41) 1, none⟩,
    ⟨none, .store 49 (.t 4) (.t 42), none⟩,
    ⟨(some 5), .mv (.t 43), none⟩] [])
  (.ret)) (.skip)))
 (.seq (.seq (.region (some [2, 3, 4, 6]) [⟨(some 44), .faddr 0 (.t 3), none⟩,
   ⟨(some 45), .load false 1 (.t 44), none⟩,
   ⟨(some 46), .bin .eql (.t 45) (.c (.d (.i .i64 2))), none⟩] [])
 (.cond (.t 46) (.seq (.seq (.region (some [3, 4, 6]) [⟨(some 47), .faddr 3 (.t 3), none⟩,
    ⟨(some 48), .load true 49 (.t 47), none⟩,
    ⟨(some 49), .call (.f F_pglog_Is) [.t 48], none⟩,
    ⟨(some 50), .un .not (.t 49), none⟩] [])
  (.cond (.t 50) (.seq (.region (some [4, 6]) [⟨(some 51), .mv (.t 6), none⟩,
     ⟨(some 52), .call (.t 51) [], none⟩,
     ⟨(some 53), .ext (.t 52) 0, none⟩,
     ⟨(some 54), .ext (.t 52) 1, none⟩,
     ⟨none, .store 49 (.t 4) (.t 53), none⟩,
     ⟨(some 5), .mv (.t 54), none⟩] [])
   (.ret)) (.skip)))
  (.seq (.region (some [3, 4]) [⟨(some 55), .faddr 3 (.t 3), none⟩,
    ⟨(some 56), .load true 49 (.t 55), none⟩,
    ⟨(some 57), .call (.f F_pglog_Copy) [.t 56], none⟩,
    ⟨none, .store 49 (.t 4) (.t 57), none⟩,
    ⟨(some 5), .mv (.c (.d (.i .i64 0))), none⟩] [])
  (.ret))) (.skip)))
 (.seq (.region (some [2, 3, 4, 6]) [⟨(some 58), .load true 49 (.t 2), none⟩,
   ⟨(some 7), .box (.c (.agg Pk.State.zeroA)), none⟩,
   ⟨none, .store 49 (.t 7) (.t 58), none⟩] [])
 (.seq (.seq (.region (some [2, 3, 4, 6, 7]) [⟨(some 59), .faddr 0 (.t 3), none⟩,
   ⟨(some 60), .load false 1 (.t 59), none⟩,
   ⟨(some 61), .bin .eql (.t 60) (.c (.d (.i .i64 1))), none⟩] [])
 (.cond (.t 61) (.seq (.region (some [2, 3, 4, 6, 7]) [⟨(some 63), .load true 49 (.t 2), none⟩,
    ⟨(some 64), .faddr 1 (.t 3), none⟩,
    ⟨(some 65), .load false 1 (.t 64), none⟩,
    ⟨(some 66), .call (.f F_pglog_Cut) [.t 63, .t 65], none⟩,
    ⟨(some 62), .mv (.t 66), none⟩,
    ⟨(some 67), .ext (.t 62) 0, none⟩,
    ⟨(some 68), .ext (.t 62) 1, none⟩,
    ⟨(some 8), .box (.c (.agg Pk.State.zeroA)), none⟩,
    ⟨none, .store 49 (.t 8) (.t 67), none⟩,
    ⟨(some 9), .mv (.t 68), none⟩] [])
  (.seq (.seq (.region (some [3, 4, 6, 7, 8, 9]) [⟨(some 69), .mv (.t 9), none⟩,
    ⟨(some 70), .bin .neq (.t 69) (.c (.d (.i .i64 0))), none⟩] [])
  (.cond (.t 70) (.seq (.region (some [4, 6]) [⟨(some 71), .mv (.t 6), none⟩,
     ⟨(some 72), .call (.t 71) [], none⟩,
     ⟨(some 73), .ext (.t 72) 0, none⟩,
     ⟨(some 74), .ext (.t 72) 1, none⟩,
     ⟨none, .store 49 (.t 4) (.t 73), none⟩,
     ⟨(some 5), .mv (.t 74), none⟩] [])
   (.ret)) (.skip)))
  (.seq (.region (some [3, 4, 6, 7, 8]) [⟨(some 76), .load true 49 (.t 8), none⟩,
    ⟨(some 77), .faddr 2 (.t 3), none⟩,
    ⟨(some 78), .load false 1 (.t 77), none⟩,
    ⟨(some 79), .call (.f F_merge_added) [.t 76, .t 78], none⟩,
    ⟨(some 75), .mv (.t 79), none⟩,
    ⟨(some 80), .ext (.t 75) 0, none⟩,
    ⟨(some 81), .ext (.t 75) 1, none⟩,
    ⟨none, .store 49 (.t 7) (.t 80), none⟩,
    ⟨(some 9), .mv (.t 81), none⟩] [])
  (.seq (.region (some [3, 4, 6, 7, 9]) [⟨(some 82), .mv (.t 9), none⟩,
    ⟨(some 83), .bin .neq (.t 82) (.c (.d (.i .i64 0))), none⟩] [])
  (.cond (.t 83) (.seq (.region (some [4, 6]) [⟨(some 84), .mv (.t 6), none⟩,
     ⟨(some 85), .call (.t 84) [], none⟩,
     ⟨(some 86), .ext (.t 85) 0, none⟩,
     ⟨(some 87), .ext (.t 85) 1, none⟩,
     ⟨none, .store 49 (.t 4) (.t 86), none⟩,
     ⟨(some 5), .mv (.t 87), none⟩] [])
   (.ret)) (.skip)))))) (.skip)))
 (.seq (.region (some [3, 4, 6, 7]) [⟨(some 89), .load true 49 (.t 7), none⟩,
   ⟨(some 90), .faddr 3 (.t 3), none⟩,
   ⟨(some 91), .faddr 40 (.t 90), none⟩,
   ⟨(some 92), .faddr 1 (.t 91), none⟩,
   ⟨(some 93), .load false 1 (.t 92), none⟩,
   ⟨(some 94), .call (.f F_pglog_Tail) [.t 89, .t 93], none⟩,
   ⟨(some 88), .mv (.t 94), none⟩,
   ⟨(some 95), .ext (.t 88) 0, none⟩,
   ⟨(some 96), .ext (.t 88) 1, none⟩,
   ⟨none, .store 49 (.t 7) (.t 95), none⟩,
   ⟨(some 10), .mv (.t 96), none⟩] [])
 (.seq (.region (some [3, 4, 6, 7, 10]) [⟨(some 97), .faddr 3 (.t 3), none⟩,
   ⟨(some 98), .faddr 0 (.t 97), none⟩,
   ⟨(some 99), .load false 1 (.t 98), none⟩,
   ⟨(some 100), .faddr 0 (.t 7), none⟩,
   ⟨none, .store 1 (.t 100) (.t 99), none⟩] [])
 (.seq (.seq (.region (some [3, 4, 6, 7, 10]) [⟨(some 101), .mv (.t 10), none⟩,
   ⟨(some 102), .bin .neq (.t 101) (.c (.d (.i .i64 0))), none⟩,
   ⟨(some 103), .mv (.t 102), none⟩,
   ⟨(some 104), .faddr 40 (.t 7), some (103, false)⟩,
   ⟨(some 105), .faddr 0 (.t 104), some (103, false)⟩,
   ⟨(some 106), .load false 1 (.t 105), some (103, false)⟩,
   ⟨(some 107), .faddr 3 (.t 3), some (103, false)⟩,
   ⟨(some 108), .faddr 40 (.t 107), some (103, false)⟩,
   ⟨(some 109), .faddr 0 (.t 108), some (103, false)⟩,
   ⟨(some 110), .load false 1 (.t 109), some (103, false)⟩,
   ⟨(some 111), .bin .neq (.t 106) (.t 110), some (103, false)⟩,
   ⟨(some 112), .pick (.t 103) (.c (.d (.b true))) (.t 111), none⟩,
   ⟨(some 113), .mv (.t 112), none⟩,
   ⟨(some 114), .load true 49 (.t 7), some (113, false)⟩,
   ⟨(some 115), .call (.f F_pglog_Is) [.t 114], some (113, false)⟩,
   ⟨(some 116), .un .not (.t 115), some (113, false)⟩,
   ⟨(some 117), .pick (.t 113) (.c (.d (.b true))) (.t 116), none⟩] [])
 (.cond (.t 117) (.seq (.region (some [4, 6]) [⟨(some 118), .mv (.t 6), none⟩,
    ⟨(some 119), .call (.t 118) [], none⟩,
    ⟨(some 120), .ext (.t 119) 0, none⟩,
    ⟨(some 121), .ext (.t 119) 1, none⟩,
    ⟨none, .store 49 (.t 4) (.t 120), none⟩,
    ⟨(some 5), .mv (.t 121), none⟩] [])
  (.ret)) (.skip)))
 (.seq (.region (some [4, 7]) [⟨(some 122), .load true 49 (.t 7), none⟩,
   ⟨none, .store 49 (.t 4) (.t 122), none⟩,
   ⟨(some 5), .mv (.c (.d (.i .i64 0))), none⟩] [])
 (.ret))))))))))
def a_merge_Apply : AFn := .code 2 c_merge_Apply [.cell true 49 4, .tmp 5]
set_option maxRecDepth 100000 in
theorem k_merge_Apply : compF Try.prog h_merge_Apply F_merge_Apply = some a_merge_Apply := by kernel_rfl

/-- paddock/pglog.Same -/
def h_pglog_Same : Hints := { kp := [(0, [0, 1]), (1, [2, 3])], lkp := [], lth := [] }
def c_pglog_Same : ACode :=
 .seq (.region (some [0, 1]) [⟨(some 2), .box (.t 0), none⟩,
   ⟨(some 3), .box (.t 1), none⟩,
   ⟨(some 4), .mv (.c (.d (.b false))), none⟩] [])
 (.seq (.region (some [2, 3]) [⟨(some 5), .faddr 0 (.t 2), none⟩,
   ⟨(some 6), .load false 1 (.t 5), none⟩,
   ⟨(some 7), .faddr 0 (.t 3), none⟩,
   ⟨(some 8), .load false 1 (.t 7), none⟩,
   ⟨(some 9), .bin .eql (.t 6) (.t 8), none⟩,
   ⟨(some 10), .mv (.t 9), none⟩,
   ⟨(some 11), .faddr 1 (.t 2), some (10, true)⟩,
   ⟨(some 12), .load true 39 (.t 11), some (10, true)⟩,
   ⟨(some 13), .faddr 1 (.t 3), some (10, true)⟩,
   ⟨(some 14), .load true 39 (.t 13), some (10, true)⟩,
   ⟨(some 15), .eq false Pk.Base.ety (.t 12) (.t 14), some (10, true)⟩,
   ⟨(some 16), .pick (.t 10) (.t 15) (.c (.d (.b false))), none⟩,
   ⟨(some 17), .mv (.t 16), none⟩,
   ⟨(some 18), .faddr 40 (.t 2), some (17, true)⟩,
   ⟨(some 19), .load true 8 (.t 18), some (17, true)⟩,
   ⟨(some 20), .faddr 40 (.t 3), some (17, true)⟩,
   ⟨(some 21), .load true 8 (.t 20), some (17, true)⟩,
   ⟨(some 22), .eq false Pk.Entry.ety (.t 19) (.t 21), some (17, true)⟩,
   ⟨(some 23), .pick (.t 17) (.t 22) (.c (.d (.b false))), none⟩,
   ⟨(some 24), .mv (.t 23), none⟩,
   ⟨(some 25), .faddr 48 (.t 2), some (24, true)⟩,
   ⟨(some 26), .load false 1 (.t 25), some (24, true)⟩,
   ⟨(some 27), .faddr 48 (.t 3), some (24, true)⟩,
   ⟨(some 28), .load false 1 (.t 27), some (24, true)⟩,
   ⟨(some 29), .call (.f F_slices_Equal_sapi_Entry_api_Entry) [.t 26, .t 28], some (24, true)⟩,
   ⟨(some 30), .pick (.t 24) (.t 29) (.c (.d (.b false))), none⟩,
   ⟨(some 4), .mv (.t 30), none⟩] [])
 (.ret))
def a_pglog_Same : AFn := .code 2 c_pglog_Same [.tmp 4]
set_option maxRecDepth 100000 in
theorem k_pglog_Same : compF Try.prog h_pglog_Same F_pglog_Same = some a_pglog_Same := by kernel_rfl

/-- paddock/merge.Extends -/
def h_merge_Extends : Hints := { kp := [(0, [0, 1]), (1, [2, 3]), (2, []), (3, [2, 3]), (4, [2, 3, 6]), (5, [2, 3, 6, 8]), (6, [6, 8, 9])], lkp := [], lth := [] }
def c_merge_Extends : ACode :=
 .seq (.region (some [0, 1]) [⟨(some 2), .box (.t 0), none⟩,
   ⟨(some 3), .box (.t 1), none⟩,
   ⟨(some 4), .mv (.c (.d (.b false))), none⟩] [])
 (.seq (.seq (.region (some [2, 3]) [⟨(some 10), .load true 49 (.t 2), none⟩,
   ⟨(some 11), .call (.f F_pglog_Is) [.t 10], none⟩,
   ⟨(some 12), .un .not (.t 11), none⟩,
   ⟨(some 13), .mv (.t 12), none⟩,
   ⟨(some 14), .load true 49 (.t 3), some (13, false)⟩,
   ⟨(some 15), .call (.f F_pglog_Is) [.t 14], some (13, false)⟩,
   ⟨(some 16), .un .not (.t 15), some (13, false)⟩,
   ⟨(some 17), .pick (.t 13) (.c (.d (.b true))) (.t 16), none⟩] [])
 (.cond (.t 17) (.seq (.region (some []) [⟨(some 4), .mv (.c (.d (.b false))), none⟩] [])
  (.ret)) (.skip)))
 (.seq (.region (some [2, 3]) [⟨(some 19), .load true 49 (.t 2), none⟩,
   ⟨(some 20), .call (.f F_pglog_Head) [.t 19], none⟩,
   ⟨(some 18), .mv (.t 20), none⟩,
   ⟨(some 21), .ext (.t 18) 0, none⟩,
   ⟨(some 22), .ext (.t 18) 1, none⟩,
   ⟨(some 5), .mv (.t 21), none⟩,
   ⟨(some 6), .mv (.t 22), none⟩] [])
 (.seq (.region (some [2, 3, 6]) [⟨(some 24), .load true 49 (.t 3), none⟩,
   ⟨(some 25), .call (.f F_pglog_Head) [.t 24], none⟩,
   ⟨(some 23), .mv (.t 25), none⟩,
   ⟨(some 26), .ext (.t 23) 0, none⟩,
   ⟨(some 27), .ext (.t 23) 1, none⟩,
   ⟨(some 7), .mv (.t 26), none⟩,
   ⟨(some 8), .mv (.t 27), none⟩] [])
 (.seq (.region (some [2, 3, 6, 8]) [⟨(some 28), .load true 49 (.t 2), none⟩,
   ⟨(some 29), .load true 49 (.t 3), none⟩,
   ⟨(some 30), .call (.f F_merge_Make) [.t 28, .t 29], none⟩,
   ⟨(some 9), .box (.c (.agg Pk.Diff.zeroA)), none⟩,
   ⟨none, .store 52 (.t 9) (.t 30), none⟩] [])
 (.seq (.region (some [6, 8, 9]) [⟨(some 31), .mv (.t 8), none⟩,
   ⟨(some 32), .mv (.t 6), none⟩,
   ⟨(some 33), .bin .geq (.t 31) (.t 32), none⟩,
   ⟨(some 34), .mv (.t 33), none⟩,
   ⟨(some 35), .faddr 0 (.t 9), some (34, true)⟩,
   ⟨(some 36), .load false 1 (.t 35), some (34, true)⟩,
   ⟨(some 37), .bin .eql (.t 36) (.c (.d (.i .i64 0))), some (34, true)⟩,
   ⟨(some 38), .mv (.t 37), some (34, true)⟩,
   ⟨(some 39), .faddr 0 (.t 9), some (38, false)⟩,
   ⟨(some 40), .load false 1 (.t 39), some (38, false)⟩,
   ⟨(some 41), .bin .eql (.t 40) (.c (.d (.i .i64 1))), some (38, false)⟩,
   ⟨(some 42), .mv (.t 41), some (38, false)⟩,
   ⟨(some 43), .faddr 1 (.t 9), some (42, true)⟩,
   ⟨(some 44), .load false 1 (.t 43), some (42, true)⟩,
   ⟨(some 45), .mv (.t 6), some (42, true)⟩,
   ⟨(some 46), .bin .eql (.t 44) (.t 45), some (42, true)⟩,
   ⟨(some 47), .pick (.t 42) (.t 46) (.c (.d (.b false))), some (38, false)⟩,
   ⟨(some 48), .pick (.t 38) (.c (.d (.b true))) (.t 47), some (34, true)⟩,
   ⟨(some 49), .pick (.t 34) (.t 48) (.c (.d (.b false))), none⟩,
   ⟨(some 4), .mv (.t 49), none⟩] [])
 (.ret))))))
def a_merge_Extends : AFn := .code 2 c_merge_Extends [.tmp 4]
set_option maxRecDepth 100000 in
theorem k_merge_Extends : compF Try.prog h_merge_Extends F_merge_Extends = some a_merge_Extends := by kernel_rfl

/-- paddock/paddocklaw8.tops -/
def h_paddocklaw8_tops : Hints := { kp := [(0, [0]), (1, [1]), (2, [4])], lkp := [], lth := [] }
def c_paddocklaw8_tops : ACode :=
 .seq (.region (some [0]) [⟨(some 1), .box (.t 0), none⟩,
   ⟨(some 2), .mv (.c (.d (.i .u32 0))), none⟩] [])
 (.seq (.region (some [1]) [⟨(some 6), .load true 49 (.t 1), none⟩,
   ⟨(some 7), .call (.f F_pglog_Head) [.t 6], none⟩,
   ⟨(some 5), .mv (.t 7), none⟩,
   ⟨(some 8), .ext (.t 5) 0, none⟩,
   ⟨(some 9), .ext (.t 5) 1, none⟩,
   ⟨(some 3), .mv (.t 8), none⟩,
   ⟨(some 4), .mv (.t 9), none⟩] [])
 (.seq (.region (some [4]) [⟨(some 10), .mv (.t 4), none⟩,
   ⟨(some 2), .mv (.t 10), none⟩] [])
 (.ret)))
def a_paddocklaw8_tops : AFn := .code 1 c_paddocklaw8_tops [.tmp 2]
set_option maxRecDepth 100000 in
theorem k_paddocklaw8_tops : compF Try.prog h_paddocklaw8_tops F_paddocklaw8_tops = some a_paddocklaw8_tops := by kernel_rfl

/-- paddock/paddocklaw8.few -/
def h_paddocklaw8_few : Hints := { kp := [(0, [0]), (1, [1]), (2, [1, 3]), (4, [1, 3]), (5, []), (3, [1, 3]), (6, [1])], lkp := [(2, [1, 3])], lth := [] }
def K_paddocklaw8_few_0 : Option (List Nat) := (some [1, 3])
def l_paddocklaw8_few_0 : ACode :=
 .seq (.seq (.region (some [1, 3]) [⟨(some 4), .mv (.t 3), none⟩,
   ⟨(some 5), .bin .lss (.t 4) (.c (.d (.i .i64 6))), none⟩] [])
 (.cond (.t 5) (.skip) (.exit 0)))
 (.seq (.block 1 (.seq (.region (some [1, 3]) [⟨(some 8), .mv (.t 3), none⟩,
    ⟨(some 9), .faddr 1 (.t 1), none⟩,
    ⟨(some 10), .faddr 0 (.t 9), none⟩,
    ⟨(some 11), .iaddrA 6 5 (.t 10) (.t 8), none⟩,
    ⟨(some 12), .faddr 1 (.t 11), none⟩,
    ⟨(some 13), .load false 1 (.t 12), none⟩,
    ⟨(some 14), .len true (.t 13), none⟩,
    ⟨(some 15), .bin .gtr (.t 14) (.c (.d (.i .i64 100))), none⟩] [])
  (.cond (.t 15) (.seq (.region (some []) [⟨(some 2), .mv (.c (.d (.b false))), none⟩] [])
   (.ret)) (.skip))))
 (.region (some [1, 3]) [⟨(some 6), .mv (.t 3), none⟩,
   ⟨(some 7), .bin .add (.t 6) (.c (.d (.i .i64 1))), none⟩,
   ⟨(some 3), .mv (.t 7), none⟩] []))
def c_paddocklaw8_few : ACode :=
 .seq (.region (some [0]) [⟨(some 1), .box (.t 0), none⟩,
   ⟨(some 2), .mv (.c (.d (.b false))), none⟩] [])
 (.seq (.seq (.region (some [1]) [⟨(some 3), .mv (.c (.d (.i .i64 0))), none⟩] [])
 (.block 0 (.loop K_paddocklaw8_few_0 [] l_paddocklaw8_few_0)))
 (.seq (.region (some [1]) [⟨(some 16), .faddr 48 (.t 1), none⟩,
   ⟨(some 17), .load false 1 (.t 16), none⟩,
   ⟨(some 18), .len false (.t 17), none⟩,
   ⟨(some 19), .bin .leq (.t 18) (.c (.d (.i .i64 12))), none⟩,
   ⟨(some 2), .mv (.t 19), none⟩] [])
 (.ret)))
def a_paddocklaw8_few : AFn := .code 1 c_paddocklaw8_few [.tmp 2]
set_option maxRecDepth 100000 in
theorem k_paddocklaw8_few : compF Try.prog h_paddocklaw8_few F_paddocklaw8_few = some a_paddocklaw8_few := by kernel_rfl

/-- paddock/paddockref8.Make -/
def h_paddockref8_Make : Hints := { kp := [(0, [0, 1]), (1, [2, 3, 4]), (2, [4]), (3, [2, 3, 4]), (4, [2, 3, 4, 5]), (5, [2, 3, 4, 5, 6]), (7, [2, 3, 4, 5, 6]), (8, [2, 3, 4, 5]), (6, [3, 4, 5]), (9, [2, 3, 4, 5]), (10, [2, 3, 4, 5]), (11, [2, 3, 4, 5, 7]), (12, [2, 3, 4, 5, 7]), (13, [2, 3, 4, 5, 7, 8, 9]), (14, [2, 3, 4, 5, 7, 8]), (15, [2, 3, 4, 5, 7]), (16, [3, 4, 5, 7]), (17, [4, 5])], lkp := [(11, [2, 3, 4, 5, 7])], lth := [] }
def K_paddockref8_Make_0 : Option (List Nat) := (some [2, 3, 4, 5, 7])
def l_paddockref8_Make_0 : ACode :=
 .seq (.seq (.region (some [2, 3, 4, 5, 7]) [⟨(some 45), .mv (.t 7), none⟩,
   ⟨(some 46), .faddr 48 (.t 3), none⟩,
   ⟨(some 47), .load false 1 (.t 46), none⟩,
   ⟨(some 48), .len false (.t 47), none⟩,
   ⟨(some 49), .bin .lss (.t 45) (.t 48), none⟩] [])
 (.cond (.t 49) (.skip) (.exit 1)))
 (.block 2 (.seq (.region (some [2, 3, 4, 5, 7]) [⟨(some 51), .load true 49 (.t 2), none⟩,
    ⟨(some 52), .faddr 48 (.t 3), none⟩,
    ⟨(some 53), .load false 1 (.t 52), none⟩,
    ⟨(some 54), .mv (.t 7), none⟩,
    ⟨(some 55), .iaddrS 8 (.t 53) (.t 54), none⟩,
    ⟨(some 56), .faddr 1 (.t 55), none⟩,
    ⟨(some 57), .load false 1 (.t 56), none⟩,
    ⟨(some 58), .call (.f F_paddockref6_Find) [.t 51, .t 57], none⟩,
    ⟨(some 50), .mv (.t 58), none⟩,
    ⟨(some 59), .ext (.t 50) 0, none⟩,
    ⟨(some 60), .ext (.t 50) 1, none⟩,
    ⟨(some 8), .box (.c (.d (.agg [.i .u32 0, .i .u32 0, .i .u8 0, .i .u32 0, .i .u8 0, .i .u8 0, .i .u8 0, .s ⟨#[]⟩]))), none⟩,
    ⟨none, .store 8 (.t 8) (.t 59), none⟩,
    ⟨(some 9), .mv (.t 60), none⟩] [(0, 2), (0, 6), (0, 11), (2, 11), (6, 11), (7, 11)])
  (.seq (.seq (.region (some [2, 3, 4, 5, 7, 8, 9]) [⟨(some 61), .mv (.t 9), none⟩,
    ⟨(some 62), .un .not (.t 61), none⟩,
    ⟨(some 63), .mv (.t 62), none⟩,
    ⟨(some 64), .load true 8 (.t 8), some (63, false)⟩,
    ⟨(some 65), .faddr 48 (.t 3), some (63, false)⟩,
    ⟨(some 66), .load false 1 (.t 65), some (63, false)⟩,
    ⟨(some 67), .mv (.t 7), some (63, false)⟩,
    ⟨(some 68), .iaddrS 8 (.t 66) (.t 67), some (63, false)⟩,
    ⟨(some 69), .load true 8 (.t 68), some (63, false)⟩,
    ⟨(some 70), .eq true Pk.Entry.ety (.t 64) (.t 69), some (63, false)⟩,
    ⟨(some 71), .pick (.t 63) (.c (.d (.b true))) (.t 70), none⟩] [(3, 5), (3, 8)])
  (.cond (.t 71) (.exit 1) (.skip)))
  (.seq (.region (some [2, 3, 4, 5, 7, 8]) [⟨(some 72), .faddr 1 (.t 8), none⟩,
    ⟨(some 73), .load false 1 (.t 72), none⟩,
    ⟨(some 74), .faddr 1 (.t 5), none⟩,
    ⟨none, .store 1 (.t 74) (.t 73), none⟩] [])
  (.region (some [2, 3, 4, 5, 7]) [⟨(some 75), .mv (.t 7), none⟩,
    ⟨(some 76), .bin .add (.t 75) (.c (.d (.i .i64 1))), none⟩,
    ⟨(some 7), .mv (.t 76), none⟩] [])))))
def c_paddockref8_Make : ACode :=
 .seq (.region (some [0, 1]) [⟨(some 2), .box (.t 0), none⟩,
   ⟨(some 3), .box (.t 1), none⟩,
   ⟨(some 4), .box (.c (.agg Pk.Diff.zeroA)), none⟩] [])
 (.seq (.seq (.region (some [2, 3, 4]) [⟨(some 10), .load true 49 (.t 2), none⟩,
   ⟨(some 11), .call (.f F_paddockref6_Is) [.t 10], none⟩,
   ⟨(some 12), .un .not (.t 11), none⟩,
   ⟨(some 13), .mv (.t 12), none⟩,
   ⟨(some 14), .load true 49 (.t 3), some (13, false)⟩,
   ⟨(some 15), .call (.f F_paddockref6_Is) [.t 14], some (13, false)⟩,
   ⟨(some 16), .un .not (.t 15), some (13, false)⟩,
   ⟨(some 17), .pick (.t 13) (.c (.d (.b true))) (.t 16), none⟩] [])
 (.cond (.t 17) (.seq (.region (some [4]) [⟨(some 18), .build Pk.Diff.zeroA [], none⟩,
    ⟨none, .store 52 (.t 4) (.t 18), none⟩] [])
  (.ret)) (.skip)))
 (.seq (.region (some [2, 3, 4]) [⟨(some 19), .faddr 0 (.t 3), none⟩,
   ⟨(some 20), .load false 1 (.t 19), none⟩,
   ⟨(some 21), .faddr 40 (.t 3), none⟩,
   ⟨(some 22), .load true 8 (.t 21), none⟩,
   ⟨(some 23), .build Pk.State.zeroA [(0, 1, .t 20), (40, 8, .t 22)], none⟩,
   ⟨(some 24), .build Pk.Diff.zeroA [(3, 49, .t 23)], none⟩,
   ⟨(some 5), .box (.c (.agg Pk.Diff.zeroA)), none⟩,
   ⟨none, .store 52 (.t 5) (.t 24), none⟩] [])
 (.seq (.region (some [2, 3, 4, 5]) [⟨(some 25), .load true 49 (.t 2), none⟩,
   ⟨(some 6), .box (.c (.agg Pk.State.zeroA)), none⟩,
   ⟨none, .store 49 (.t 6) (.t 25), none⟩] [])
 (.seq (.region (some [2, 3, 4, 5, 6]) [⟨(some 26), .faddr 0 (.t 3), none⟩,
   ⟨(some 27), .load false 1 (.t 26), none⟩,
   ⟨(some 28), .faddr 0 (.t 6), none⟩,
   ⟨none, .store 1 (.t 28) (.t 27), none⟩] [])
 (.seq (.block 0 (.seq (.region (some [2, 3, 4, 5, 6]) [⟨(some 33), .load true 49 (.t 6), none⟩,
    ⟨(some 34), .load true 49 (.t 3), none⟩,
    ⟨(some 35), .call (.f F_paddockref6_Same) [.t 33, .t 34], none⟩,
    ⟨(some 32), .mv (.t 35), none⟩] [])
  (.cond (.t 32) (.skip) (.seq (.region (some [2, 3, 4, 5]) [⟨(some 37), .load true 49 (.t 2), none⟩,
     ⟨(some 38), .load true 49 (.t 3), none⟩,
     ⟨(some 39), .call (.f F_paddockref8_shared) [.t 37, .t 38], none⟩,
     ⟨(some 36), .mv (.t 39), none⟩] [])
   (.cond (.t 36) (.seq (.region (some [2, 3, 4, 5]) [⟨(some 40), .faddr 40 (.t 3), none⟩,
      ⟨(some 41), .faddr 1 (.t 40), none⟩,
      ⟨(some 42), .load false 1 (.t 41), none⟩,
      ⟨(some 43), .faddr 0 (.t 5), none⟩,
      ⟨none, .store 1 (.t 43) (.c (.d (.i .i64 1))), none⟩,
      ⟨(some 44), .faddr 1 (.t 5), none⟩,
      ⟨none, .store 1 (.t 44) (.t 42), none⟩] [(2, 4)])
    (.seq (.region (some [2, 3, 4, 5]) [⟨(some 7), .mv (.c (.d (.i .i64 0))), none⟩] [])
    (.seq (.block 1 (.loop K_paddockref8_Make_0 [] l_paddockref8_Make_0))
    (.region (some [3, 4, 5, 7]) [⟨(some 77), .faddr 48 (.t 3), none⟩,
      ⟨(some 78), .load false 1 (.t 77), none⟩,
      ⟨(some 79), .mv (.t 7), none⟩,
      ⟨(some 80), .slice 8 (.t 78) (some (.t 79)) none none, none⟩,
      ⟨(some 81), .app 8 (.c (.nilS)) (.t 80), none⟩,
      ⟨(some 82), .faddr 2 (.t 5), none⟩,
      ⟨none, .store 1 (.t 82) (.t 81), none⟩] [])))) (.region (some [3, 4, 5]) [⟨(some 29), .load true 49 (.t 3), none⟩,
      ⟨(some 30), .faddr 0 (.t 5), none⟩,
      ⟨none, .store 1 (.t 30) (.c (.d (.i .i64 2))), none⟩,
      ⟨(some 31), .faddr 3 (.t 5), none⟩,
      ⟨none, .store 49 (.t 31) (.t 29), none⟩] [(0, 2)]))))))
 (.seq (.region (some [4, 5]) [⟨(some 83), .load true 52 (.t 5), none⟩,
   ⟨none, .store 52 (.t 4) (.t 83), none⟩] [])
 (.ret)))))))
def a_paddockref8_Make : AFn := .code 2 c_paddockref8_Make [.cell true 52 4]
set_option maxRecDepth 100000 in
theorem k_paddockref8_Make : compF Try.prog h_paddockref8_Make F_paddockref8_Make = some a_paddockref8_Make := by kernel_rfl

/-- paddock/paddockref8.Apply -/
def h_paddockref8_Apply : Hints := { kp := [(0, [0, 1]), (1, [2, 3, 4]), (2, [4]), (3, [2, 3, 4]), (4, [3, 4]), (5, [4]), (6, [3, 4]), (7, [2, 3, 4]), (8, [3, 4, 6]), (9, [3, 4, 6]), (10, [3, 4, 6, 7, 8]), (11, [4]), (12, [3, 4, 6, 7]), (13, [3, 4, 6]), (14, [3, 4, 6, 9]), (16, [3, 4, 6, 9]), (17, [3, 4, 6, 9, 10, 11]), (18, [4]), (19, [3, 4, 6, 9, 10]), (15, [3, 4, 6, 9]), (20, [3, 4, 6]), (21, [3, 4, 12, 13]), (22, [4]), (23, [3, 4, 12]), (24, [4, 12]), (25, [4]), (26, [4, 12])], lkp := [(14, [3, 4, 6, 9])], lth := [] }
def K_paddockref8_Apply_0 : Option (List Nat) := (some [3, 4, 6, 9])
def l_paddockref8_Apply_0 : ACode :=
 .seq (.seq (.region (some [3, 4, 6, 9]) [⟨(some 69), .mv (.t 9), none⟩,
   ⟨(some 70), .faddr 2 (.t 3), none⟩,
   ⟨(some 71), .load false 1 (.t 70), none⟩,
   ⟨(some 72), .len false (.t 71), none⟩,
   ⟨(some 73), .bin .lss (.t 69) (.t 72), none⟩] [])
 (.cond (.t 73) (.skip) (.exit 0)))
 (.seq (.block 1 (.seq (.region (some [3, 4, 6, 9]) [⟨(some 77), .load true 49 (.t 6), none⟩,
    ⟨(some 78), .faddr 2 (.t 3), none⟩,
    ⟨(some 79), .load false 1 (.t 78), none⟩,
    ⟨(some 80), .mv (.t 9), none⟩,
    ⟨(some 81), .iaddrS 8 (.t 79) (.t 80), none⟩,
    ⟨(some 82), .load true 8 (.t 81), none⟩,
    ⟨(some 83), .call (.f F_paddockref6_Add) [.t 77, .t 82], none⟩,
    ⟨(some 76), .mv (.t 83), none⟩,
    ⟨(some 84), .ext (.t 76) 0, none⟩,
    ⟨(some 85), .ext (.t 76) 1, none⟩,
    ⟨(some 10), .box (.c (.agg Pk.State.zeroA)), none⟩,
    ⟨none, .store 49 (.t 10) (.t 84), none⟩,
    ⟨(some 11), .mv (.t 85), none⟩] [(0, 2), (0, 5), (0, 10), (2, 10), (5, 10), (6, 10)])
  (.seq (.seq (.region (some [3, 4, 6, 9, 10, 11]) [⟨(some 86), .mv (.t 11), none⟩,
    ⟨(some 87), .un .not (.t 86), none⟩] [])
  (.cond (.t 87) (.seq (.region (some [4]) [⟨(some 88), .build Pk.State.zeroA [], none⟩,
     ⟨none, .store 49 (.t 4) (.t 88), none⟩,
     ⟨(some 5), .mv (.c (.d (.b false))), none⟩] [])
   (.ret)) (.skip)))
  (.region (some [3, 4, 6, 9, 10]) [⟨(some 89), .load true 49 (.t 10), none⟩,
    ⟨none, .store 49 (.t 6) (.t 89), none⟩] []))))
 (.region (some [3, 4, 6, 9]) [⟨(some 74), .mv (.t 9), none⟩,
   ⟨(some 75), .bin .add (.t 74) (.c (.d (.i .i64 1))), none⟩,
   ⟨(some 9), .mv (.t 75), none⟩] []))
def c_paddockref8_Apply : ACode :=
 .seq (.region (some [0, 1]) [⟨(some 2), .box (.t 0), none⟩,
   ⟨(some 3), .box (.t 1), none⟩,
   ⟨(some 4), .box (.c (.agg Pk.State.zeroA)), none⟩,
   ⟨(some 5), .mv (.c (.d (.b false))), none⟩] [])
 (.seq (.seq (.region (some [2, 3, 4]) [⟨(some 14), .load true 49 (.t 2), none⟩,
   ⟨(some 15), .call (.f F_paddockref6_Is) [.t 14], none⟩,
   ⟨(some 16), .un .not (.t 15), none⟩,
   ⟨(some 17), .mv (.t 16), none⟩,
   ⟨(some 18), .faddr 0 (.t 3), some (17, false)⟩,
   ⟨(some 19), .load false 1 (.t 18), some (17, false)⟩,
   ⟨(some 20), .bin .lss (.t 19) (.c (.d (.i .i64 0))), some (17, false)⟩,
   ⟨(some 21), .pick (.t 17) (.c (.d (.b true))) (.t 20), none⟩,
   ⟨(some 22), .mv (.t 21), none⟩,
   ⟨(some 23), .faddr 0 (.t 3), some (22, false)⟩,
   ⟨(some 24), .load false 1 (.t 23), some (22, false)⟩,
   ⟨(some 25), .bin .gtr (.t 24) (.c (.d (.i .i64 2))), some (22, false)⟩,
   ⟨(some 26), .pick (.t 22) (.c (.d (.b true))) (.t 25), none⟩,
   ⟨(some 27), .mv (.t 26), none⟩,
   ⟨(some 28), .faddr 0 (.t 3), some (27, false)⟩,
   ⟨(some 29), .load false 1 (.t 28), some (27, false)⟩,
   ⟨(some 30), .bin .neq (.t 29) (.c (.d (.i .i64 1))), some (27, false)⟩,
   ⟨(some 31), .mv (.t 30), some (27, false)⟩,
   ⟨(some 32), .faddr 2 (.t 3), some (31, true)⟩,
   ⟨(some 33), .load false 1 (.t 32), some (31, true)⟩,
   ⟨(some 34), .len false (.t 33), some (31, true)⟩,
   ⟨(some 35), .bin .gtr (.t 34) (.c (.d (.i .i64 0))), some (31, true)⟩,
   ⟨(some 36), .mv (.t 35), some (31, true)⟩,
   ⟨(some 37), .faddr 1 (.t 3), some (36, false)⟩,
   ⟨(some 38), .load false 1 (.t 37), some (36, false)⟩,
   ⟨(some 39), .bin .neq (.t 38) (.c (.d (.i .u32 0))), some (36, false)⟩,
   ⟨(some 40), .pick (.t 36) (.c (.d (.b true))) (.t 39), some (31, true)⟩,
   ⟨(some 41), .pick (.t 31) (.t 40) (.c (.d (.b false))), some (27, false)⟩,
   ⟨(some 42), .pick (.t 27) (.c (.d (.b true))) (.t 41), none⟩] [])
 (.cond (.t 42) (.seq (.region (some [4]) [⟨(some 43), .build Pk.State.zeroA [], none⟩,
    ⟨none, .store 49 (.t 4) (.t 43), none⟩,
    ⟨(some 5), .mv (.c (.d (.b false))), none⟩] [])
  (.ret)) (.skip)))
 (.seq (.seq (.region (some [2, 3, 4]) [⟨(some 44), .faddr 0 (.t 3), none⟩,
   ⟨(some 45), .load false 1 (.t 44), none⟩,
   ⟨(some 46), .bin .eql (.t 45) (.c (.d (.i .i64 2))), none⟩] [])
 (.cond (.t 46) (.seq (.seq (.region (some [3, 4]) [⟨(some 47), .faddr 3 (.t 3), none⟩,
    ⟨(some 48), .load true 49 (.t 47), none⟩,
    ⟨(some 49), .call (.f F_paddockref6_Is) [.t 48], none⟩,
    ⟨(some 50), .un .not (.t 49), none⟩] [])
  (.cond (.t 50) (.seq (.region (some [4]) [⟨(some 51), .build Pk.State.zeroA [], none⟩,
     ⟨none, .store 49 (.t 4) (.t 51), none⟩,
     ⟨(some 5), .mv (.c (.d (.b false))), none⟩] [])
   (.ret)) (.skip)))
  (.seq (.region (some [3, 4]) [⟨(some 52), .faddr 3 (.t 3), none⟩,
    ⟨(some 53), .load true 49 (.t 52), none⟩,
    ⟨none, .store 49 (.t 4) (.t 53), none⟩,
    ⟨(some 5), .mv (.c (.d (.b true))), none⟩] [])
  (.ret))) (.skip)))
 (.seq (.region (some [2, 3, 4]) [⟨(some 54), .load true 49 (.t 2), none⟩,
   ⟨(some 6), .box (.c (.agg Pk.State.zeroA)), none⟩,
   ⟨none, .store 49 (.t 6) (.t 54), none⟩] [])
 (.seq (.seq (.region (some [3, 4, 6]) [⟨(some 55), .faddr 0 (.t 3), none⟩,
   ⟨(some 56), .load false 1 (.t 55), none⟩,
   ⟨(some 57), .bin .eql (.t 56) (.c (.d (.i .i64 1))), none⟩] [])
 (.cond (.t 57) (.seq (.region (some [3, 4, 6]) [⟨(some 59), .load true 49 (.t 6), none⟩,
    ⟨(some 60), .faddr 1 (.t 3), none⟩,
    ⟨(some 61), .load false 1 (.t 60), none⟩,
    ⟨(some 62), .call (.f F_paddockref6_Cut) [.t 59, .t 61], none⟩,
    ⟨(some 58), .mv (.t 62), none⟩,
    ⟨(some 63), .ext (.t 58) 0, none⟩,
    ⟨(some 64), .ext (.t 58) 1, none⟩,
    ⟨(some 7), .box (.c (.agg Pk.State.zeroA)), none⟩,
    ⟨none, .store 49 (.t 7) (.t 63), none⟩,
    ⟨(some 8), .mv (.t 64), none⟩] [])
  (.seq (.seq (.region (some [3, 4, 6, 7, 8]) [⟨(some 65), .mv (.t 8), none⟩,
    ⟨(some 66), .bin .neq (.t 65) (.c (.d (.i .i64 0))), none⟩] [])
  (.cond (.t 66) (.seq (.region (some [4]) [⟨(some 67), .build Pk.State.zeroA [], none⟩,
     ⟨none, .store 49 (.t 4) (.t 67), none⟩,
     ⟨(some 5), .mv (.c (.d (.b false))), none⟩] [])
   (.ret)) (.skip)))
  (.seq (.region (some [3, 4, 6, 7]) [⟨(some 68), .load true 49 (.t 7), none⟩,
    ⟨none, .store 49 (.t 6) (.t 68), none⟩] [])
  (.seq (.region (some [3, 4, 6]) [⟨(some 9), .mv (.c (.d (.i .i64 0))), none⟩] [])
  (.block 0 (.loop K_paddockref8_Apply_0 [] l_paddockref8_Apply_0)))))) (.skip)))
 (.seq (.region (some [3, 4, 6]) [⟨(some 91), .load true 49 (.t 6), none⟩,
   ⟨(some 92), .faddr 3 (.t 3), none⟩,
   ⟨(some 93), .faddr 40 (.t 92), none⟩,
   ⟨(some 94), .faddr 1 (.t 93), none⟩,
   ⟨(some 95), .load false 1 (.t 94), none⟩,
   ⟨(some 96), .call (.f F_paddockref6_Tail) [.t 91, .t 95], none⟩,
   ⟨(some 90), .mv (.t 96), none⟩,
   ⟨(some 97), .ext (.t 90) 0, none⟩,
   ⟨(some 98), .ext (.t 90) 1, none⟩,
   ⟨(some 12), .box (.c (.agg Pk.State.zeroA)), none⟩,
   ⟨none, .store 49 (.t 12) (.t 97), none⟩,
   ⟨(some 13), .mv (.t 98), none⟩] [])
 (.seq (.seq (.region (some [3, 4, 12, 13]) [⟨(some 99), .mv (.t 13), none⟩,
   ⟨(some 100), .bin .neq (.t 99) (.c (.d (.i .i64 0))), none⟩,
   ⟨(some 101), .mv (.t 100), none⟩,
   ⟨(some 102), .faddr 40 (.t 12), some (101, false)⟩,
   ⟨(some 103), .faddr 0 (.t 102), some (101, false)⟩,
   ⟨(some 104), .load false 1 (.t 103), some (101, false)⟩,
   ⟨(some 105), .faddr 3 (.t 3), some (101, false)⟩,
   ⟨(some 106), .faddr 40 (.t 105), some (101, false)⟩,
   ⟨(some 107), .faddr 0 (.t 106), some (101, false)⟩,
   ⟨(some 108), .load false 1 (.t 107), some (101, false)⟩,
   ⟨(some 109), .bin .neq (.t 104) (.t 108), some (101, false)⟩,
   ⟨(some 110), .pick (.t 101) (.c (.d (.b true))) (.t 109), none⟩] [])
 (.cond (.t 110) (.seq (.region (some [4]) [⟨(some 111), .build Pk.State.zeroA [], none⟩,
    ⟨none, .store 49 (.t 4) (.t 111), none⟩,
    ⟨(some 5), .mv (.c (.d (.b false))), none⟩] [])
  (.ret)) (.skip)))
 (.seq (.region (some [3, 4, 12]) [⟨(some 112), .faddr 3 (.t 3), none⟩,
   ⟨(some 113), .faddr 0 (.t 112), none⟩,
   ⟨(some 114), .load false 1 (.t 113), none⟩,
   ⟨(some 115), .faddr 0 (.t 12), none⟩,
   ⟨none, .store 1 (.t 115) (.t 114), none⟩] [])
 (.seq (.seq (.region (some [4, 12]) [⟨(some 116), .load true 49 (.t 12), none⟩,
   ⟨(some 117), .call (.f F_paddockref6_Is) [.t 116], none⟩,
   ⟨(some 118), .un .not (.t 117), none⟩] [])
 (.cond (.t 118) (.seq (.region (some [4]) [⟨(some 119), .build Pk.State.zeroA [], none⟩,
    ⟨none, .store 49 (.t 4) (.t 119), none⟩,
    ⟨(some 5), .mv (.c (.d (.b false))), none⟩] [])
  (.ret)) (.skip)))
 (.seq (.region (some [4, 12]) [⟨(some 120), .load true 49 (.t 12), none⟩,
   ⟨none, .store 49 (.t 4) (.t 120), none⟩,
   ⟨(some 5), .mv (.c (.d (.b true))), none⟩] [])
 (.ret))))))))))
def a_paddockref8_Apply : AFn := .code 2 c_paddockref8_Apply [.cell true 49 4, .tmp 5]
set_option maxRecDepth 100000 in
theorem k_paddockref8_Apply : compF Try.prog h_paddockref8_Apply F_paddockref8_Apply = some a_paddockref8_Apply := by kernel_rfl

/-- paddock/paddocklaw8.same -/
def h_paddocklaw8_same : Hints := { kp := [(0, [0, 1]), (1, [2, 3]), (2, []), (3, [2, 3]), (4, [2, 3, 5]), (6, [2, 3, 5]), (7, []), (5, [2, 3, 5]), (8, [])], lkp := [(4, [2, 3, 5])], lth := [] }
def K_paddocklaw8_same_0 : Option (List Nat) := (some [2, 3, 5])
def l_paddocklaw8_same_0 : ACode :=
 .seq (.seq (.region (some [2, 3, 5]) [⟨(some 35), .mv (.t 5), none⟩,
   ⟨(some 36), .faddr 2 (.t 2), none⟩,
   ⟨(some 37), .load false 1 (.t 36), none⟩,
   ⟨(some 38), .len false (.t 37), none⟩,
   ⟨(some 39), .bin .lss (.t 35) (.t 38), none⟩] [])
 (.cond (.t 39) (.skip) (.exit 0)))
 (.seq (.block 1 (.seq (.region (some [2, 3, 5]) [⟨(some 42), .faddr 2 (.t 2), none⟩,
    ⟨(some 43), .load false 1 (.t 42), none⟩,
    ⟨(some 44), .mv (.t 5), none⟩,
    ⟨(some 45), .iaddrS 8 (.t 43) (.t 44), none⟩,
    ⟨(some 46), .load true 8 (.t 45), none⟩,
    ⟨(some 47), .faddr 2 (.t 3), none⟩,
    ⟨(some 48), .load false 1 (.t 47), none⟩,
    ⟨(some 49), .mv (.t 5), none⟩,
    ⟨(some 50), .iaddrS 8 (.t 48) (.t 49), none⟩,
    ⟨(some 51), .load true 8 (.t 50), none⟩,
    ⟨(some 52), .eq true Pk.Entry.ety (.t 46) (.t 51), none⟩] [(1, 6), (4, 6), (1, 9), (4, 9)])
  (.cond (.t 52) (.seq (.region (some []) [⟨(some 4), .mv (.c (.d (.b false))), none⟩] [])
   (.ret)) (.skip))))
 (.region (some [2, 3, 5]) [⟨(some 40), .mv (.t 5), none⟩,
   ⟨(some 41), .bin .add (.t 40) (.c (.d (.i .i64 1))), none⟩,
   ⟨(some 5), .mv (.t 41), none⟩] []))
def c_paddocklaw8_same : ACode :=
 .seq (.region (some [0, 1]) [⟨(some 2), .box (.t 0), none⟩,
   ⟨(some 3), .box (.t 1), none⟩,
   ⟨(some 4), .mv (.c (.d (.b false))), none⟩] [])
 (.seq (.seq (.region (some [2, 3]) [⟨(some 6), .faddr 0 (.t 2), none⟩,
   ⟨(some 7), .load false 1 (.t 6), none⟩,
   ⟨(some 8), .faddr 0 (.t 3), none⟩,
   ⟨(some 9), .load false 1 (.t 8), none⟩,
   ⟨(some 10), .bin .neq (.t 7) (.t 9), none⟩,
   ⟨(some 11), .mv (.t 10), none⟩,
   ⟨(some 12), .faddr 1 (.t 2), some (11, false)⟩,
   ⟨(some 13), .load false 1 (.t 12), some (11, false)⟩,
   ⟨(some 14), .faddr 1 (.t 3), some (11, false)⟩,
   ⟨(some 15), .load false 1 (.t 14), some (11, false)⟩,
   ⟨(some 16), .bin .neq (.t 13) (.t 15), some (11, false)⟩,
   ⟨(some 17), .pick (.t 11) (.c (.d (.b true))) (.t 16), none⟩,
   ⟨(some 18), .mv (.t 17), none⟩,
   ⟨(some 19), .faddr 2 (.t 2), some (18, false)⟩,
   ⟨(some 20), .load false 1 (.t 19), some (18, false)⟩,
   ⟨(some 21), .len false (.t 20), some (18, false)⟩,
   ⟨(some 22), .faddr 2 (.t 3), some (18, false)⟩,
   ⟨(some 23), .load false 1 (.t 22), some (18, false)⟩,
   ⟨(some 24), .len false (.t 23), some (18, false)⟩,
   ⟨(some 25), .bin .neq (.t 21) (.t 24), some (18, false)⟩,
   ⟨(some 26), .pick (.t 18) (.c (.d (.b true))) (.t 25), none⟩,
   ⟨(some 27), .mv (.t 26), none⟩,
   ⟨(some 28), .faddr 3 (.t 2), some (27, false)⟩,
   ⟨(some 29), .load true 49 (.t 28), some (27, false)⟩,
   ⟨(some 30), .faddr 3 (.t 3), some (27, false)⟩,
   ⟨(some 31), .load true 49 (.t 30), some (27, false)⟩,
   ⟨(some 32), .call (.f F_paddockref6_Same) [.t 29, .t 31], some (27, false)⟩,
   ⟨(some 33), .un .not (.t 32), some (27, false)⟩,
   ⟨(some 34), .pick (.t 27) (.c (.d (.b true))) (.t 33), none⟩] [])
 (.cond (.t 34) (.seq (.region (some []) [⟨(some 4), .mv (.c (.d (.b false))), none⟩] [])
  (.ret)) (.skip)))
 (.seq (.seq (.region (some [2, 3]) [⟨(some 5), .mv (.c (.d (.i .i64 0))), none⟩] [])
 (.block 0 (.loop K_paddocklaw8_same_0 [] l_paddocklaw8_same_0)))
 (.seq (.region (some []) [⟨(some 4), .mv (.c (.d (.b true))), none⟩] [])
 (.ret))))
def a_paddocklaw8_same : AFn := .code 2 c_paddocklaw8_same [.tmp 4]
set_option maxRecDepth 100000 in
theorem k_paddocklaw8_same : compF Try.prog h_paddocklaw8_same F_paddocklaw8_same = some a_paddocklaw8_same := by kernel_rfl

/-- paddock/paddockref6.Same -/
def h_paddockref6_Same : Hints := { kp := [(0, [0, 1]), (1, [2, 3]), (2, []), (3, [2, 3]), (4, [2, 3, 5]), (6, [2, 3, 5]), (7, []), (5, [2, 3, 5]), (8, [])], lkp := [(4, [2, 3, 5])], lth := [] }
def K_paddockref6_Same_0 : Option (List Nat) := (some [2, 3, 5])
def l_paddockref6_Same_0 : ACode :=
 .seq (.seq (.region (some [2, 3, 5]) [⟨(some 34), .mv (.t 5), none⟩,
   ⟨(some 35), .faddr 48 (.t 2), none⟩,
   ⟨(some 36), .load false 1 (.t 35), none⟩,
   ⟨(some 37), .len false (.t 36), none⟩,
   ⟨(some 38), .bin .lss (.t 34) (.t 37), none⟩] [])
 (.cond (.t 38) (.skip) (.exit 0)))
 (.seq (.block 1 (.seq (.region (some [2, 3, 5]) [⟨(some 41), .faddr 48 (.t 2), none⟩,
    ⟨(some 42), .load false 1 (.t 41), none⟩,
    ⟨(some 43), .mv (.t 5), none⟩,
    ⟨(some 44), .iaddrS 8 (.t 42) (.t 43), none⟩,
    ⟨(some 45), .load true 8 (.t 44), none⟩,
    ⟨(some 46), .faddr 48 (.t 3), none⟩,
    ⟨(some 47), .load false 1 (.t 46), none⟩,
    ⟨(some 48), .mv (.t 5), none⟩,
    ⟨(some 49), .iaddrS 8 (.t 47) (.t 48), none⟩,
    ⟨(some 50), .load true 8 (.t 49), none⟩,
    ⟨(some 51), .eq true Pk.Entry.ety (.t 45) (.t 50), none⟩] [(1, 6), (4, 6), (1, 9), (4, 9)])
  (.cond (.t 51) (.seq (.region (some []) [⟨(some 4), .mv (.c (.d (.b false))), none⟩] [])
   (.ret)) (.skip))))
 (.region (some [2, 3, 5]) [⟨(some 39), .mv (.t 5), none⟩,
   ⟨(some 40), .bin .add (.t 39) (.c (.d (.i .i64 1))), none⟩,
   ⟨(some 5), .mv (.t 40), none⟩] []))
def c_paddockref6_Same : ACode :=
 .seq (.region (some [0, 1]) [⟨(some 2), .box (.t 0), none⟩,
   ⟨(some 3), .box (.t 1), none⟩,
   ⟨(some 4), .mv (.c (.d (.b false))), none⟩] [])
 (.seq (.seq (.region (some [2, 3]) [⟨(some 6), .faddr 0 (.t 2), none⟩,
   ⟨(some 7), .load false 1 (.t 6), none⟩,
   ⟨(some 8), .faddr 0 (.t 3), none⟩,
   ⟨(some 9), .load false 1 (.t 8), none⟩,
   ⟨(some 10), .bin .neq (.t 7) (.t 9), none⟩,
   ⟨(some 11), .mv (.t 10), none⟩,
   ⟨(some 12), .faddr 1 (.t 2), some (11, false)⟩,
   ⟨(some 13), .load true 39 (.t 12), some (11, false)⟩,
   ⟨(some 14), .faddr 1 (.t 3), some (11, false)⟩,
   ⟨(some 15), .load true 39 (.t 14), some (11, false)⟩,
   ⟨(some 16), .eq true Pk.Base.ety (.t 13) (.t 15), some (11, false)⟩,
   ⟨(some 17), .pick (.t 11) (.c (.d (.b true))) (.t 16), none⟩,
   ⟨(some 18), .mv (.t 17), none⟩,
   ⟨(some 19), .faddr 40 (.t 2), some (18, false)⟩,
   ⟨(some 20), .load true 8 (.t 19), some (18, false)⟩,
   ⟨(some 21), .faddr 40 (.t 3), some (18, false)⟩,
   ⟨(some 22), .load true 8 (.t 21), some (18, false)⟩,
   ⟨(some 23), .eq true Pk.Entry.ety (.t 20) (.t 22), some (18, false)⟩,
   ⟨(some 24), .pick (.t 18) (.c (.d (.b true))) (.t 23), none⟩,
   ⟨(some 25), .mv (.t 24), none⟩,
   ⟨(some 26), .faddr 48 (.t 2), some (25, false)⟩,
   ⟨(some 27), .load false 1 (.t 26), some (25, false)⟩,
   ⟨(some 28), .len false (.t 27), some (25, false)⟩,
   ⟨(some 29), .faddr 48 (.t 3), some (25, false)⟩,
   ⟨(some 30), .load false 1 (.t 29), some (25, false)⟩,
   ⟨(some 31), .len false (.t 30), some (25, false)⟩,
   ⟨(some 32), .bin .neq (.t 28) (.t 31), some (25, false)⟩,
   ⟨(some 33), .pick (.t 25) (.c (.d (.b true))) (.t 32), none⟩] [])
 (.cond (.t 33) (.seq (.region (some []) [⟨(some 4), .mv (.c (.d (.b false))), none⟩] [])
  (.ret)) (.skip)))
 (.seq (.seq (.region (some [2, 3]) [⟨(some 5), .mv (.c (.d (.i .i64 0))), none⟩] [])
 (.block 0 (.loop K_paddockref6_Same_0 [] l_paddockref6_Same_0)))
 (.seq (.region (some []) [⟨(some 4), .mv (.c (.d (.b true))), none⟩] [])
 (.ret))))
def a_paddockref6_Same : AFn := .code 2 c_paddockref6_Same [.tmp 4]
set_option maxRecDepth 100000 in
theorem k_paddockref6_Same : compF Try.prog h_paddockref6_Same F_paddockref6_Same = some a_paddockref6_Same := by kernel_rfl

/-- paddock/paddockref8.Extends -/
def h_paddockref8_Extends : Hints := { kp := [(0, [0, 1]), (1, [2, 3]), (2, []), (3, [2, 3]), (4, [2, 3, 6]), (5, [2, 3, 6, 8]), (6, [6, 8, 9])], lkp := [], lth := [] }
def c_paddockref8_Extends : ACode :=
 .seq (.region (some [0, 1]) [⟨(some 2), .box (.t 0), none⟩,
   ⟨(some 3), .box (.t 1), none⟩,
   ⟨(some 4), .mv (.c (.d (.b false))), none⟩] [])
 (.seq (.seq (.region (some [2, 3]) [⟨(some 10), .load true 49 (.t 2), none⟩,
   ⟨(some 11), .call (.f F_paddockref6_Is) [.t 10], none⟩,
   ⟨(some 12), .un .not (.t 11), none⟩,
   ⟨(some 13), .mv (.t 12), none⟩,
   ⟨(some 14), .load true 49 (.t 3), some (13, false)⟩,
   ⟨(some 15), .call (.f F_paddockref6_Is) [.t 14], some (13, false)⟩,
   ⟨(some 16), .un .not (.t 15), some (13, false)⟩,
   ⟨(some 17), .pick (.t 13) (.c (.d (.b true))) (.t 16), none⟩] [])
 (.cond (.t 17) (.seq (.region (some []) [⟨(some 4), .mv (.c (.d (.b false))), none⟩] [])
  (.ret)) (.skip)))
 (.seq (.region (some [2, 3]) [⟨(some 19), .load true 49 (.t 2), none⟩,
   ⟨(some 20), .call (.f F_paddockref6_Head) [.t 19], none⟩,
   ⟨(some 18), .mv (.t 20), none⟩,
   ⟨(some 21), .ext (.t 18) 0, none⟩,
   ⟨(some 22), .ext (.t 18) 1, none⟩,
   ⟨(some 5), .mv (.t 21), none⟩,
   ⟨(some 6), .mv (.t 22), none⟩] [])
 (.seq (.region (some [2, 3, 6]) [⟨(some 24), .load true 49 (.t 3), none⟩,
   ⟨(some 25), .call (.f F_paddockref6_Head) [.t 24], none⟩,
   ⟨(some 23), .mv (.t 25), none⟩,
   ⟨(some 26), .ext (.t 23) 0, none⟩,
   ⟨(some 27), .ext (.t 23) 1, none⟩,
   ⟨(some 7), .mv (.t 26), none⟩,
   ⟨(some 8), .mv (.t 27), none⟩] [])
 (.seq (.region (some [2, 3, 6, 8]) [⟨(some 28), .load true 49 (.t 2), none⟩,
   ⟨(some 29), .load true 49 (.t 3), none⟩,
   ⟨(some 30), .call (.f F_paddockref8_Make) [.t 28, .t 29], none⟩,
   ⟨(some 9), .box (.c (.agg Pk.Diff.zeroA)), none⟩,
   ⟨none, .store 52 (.t 9) (.t 30), none⟩] [])
 (.seq (.region (some [6, 8, 9]) [⟨(some 31), .mv (.t 8), none⟩,
   ⟨(some 32), .mv (.t 6), none⟩,
   ⟨(some 33), .bin .geq (.t 31) (.t 32), none⟩,
   ⟨(some 34), .mv (.t 33), none⟩,
   ⟨(some 35), .faddr 0 (.t 9), some (34, true)⟩,
   ⟨(some 36), .load false 1 (.t 35), some (34, true)⟩,
   ⟨(some 37), .bin .eql (.t 36) (.c (.d (.i .i64 0))), some (34, true)⟩,
   ⟨(some 38), .mv (.t 37), some (34, true)⟩,
   ⟨(some 39), .faddr 0 (.t 9), some (38, false)⟩,
   ⟨(some 40), .load false 1 (.t 39), some (38, false)⟩,
   ⟨(some 41), .bin .eql (.t 40) (.c (.d (.i .i64 1))), some (38, false)⟩,
   ⟨(some 42), .mv (.t 41), some (38, false)⟩,
   ⟨(some 43), .faddr 1 (.t 9), some (42, true)⟩,
   ⟨(some 44), .load false 1 (.t 43), some (42, true)⟩,
   ⟨(some 45), .mv (.t 6), some (42, true)⟩,
   ⟨(some 46), .bin .eql (.t 44) (.t 45), some (42, true)⟩,
   ⟨(some 47), .pick (.t 42) (.t 46) (.c (.d (.b false))), some (38, false)⟩,
   ⟨(some 48), .pick (.t 38) (.c (.d (.b true))) (.t 47), some (34, true)⟩,
   ⟨(some 49), .pick (.t 34) (.t 48) (.c (.d (.b false))), none⟩,
   ⟨(some 4), .mv (.t 49), none⟩] [])
 (.ret))))))
def a_paddockref8_Extends : AFn := .code 2 c_paddockref8_Extends [.tmp 4]
set_option maxRecDepth 100000 in
theorem k_paddockref8_Extends : compF Try.prog h_paddockref8_Extends F_paddockref8_Extends = some a_paddockref8_Extends := by kernel_rfl

/-- paddock/merge.Bytes -/
def h_merge_Bytes : Hints := { kp := [(0, [0]), (1, [1]), (2, [1, 3]), (3, [3, 17, 18]), (4, [3, 17, 18]), (5, [3, 5, 17, 18]), (6, [3, 17, 18]), (7, [3, 17, 18]), (8, [3])], lkp := [(3, [3, 17, 18])], lth := [] }
def K_merge_Bytes_0 : Option (List Nat) := (some [3, 17, 18])
def l_merge_Bytes_0 : ACode :=
 .seq (.region (some [3, 17, 18]) [⟨(some 19), .bin .lss (.t 18) (.c (.d (.i .i64 6))), none⟩] [])
 (.seq (.cond (.t 19) (.skip) (.exit 0))
 (.seq (.block 1 (.seq (.region (some [3, 17, 18]) [⟨(some 20), .idxA true 6 5 (.t 17) (.t 18), none⟩,
    ⟨(some 5), .box (.c (.d (.agg [.b false, .s ⟨#[]⟩, .s ⟨#[]⟩, .s ⟨#[]⟩, .s ⟨#[]⟩]))), none⟩,
    ⟨none, .store 5 (.t 5) (.t 20), none⟩] [])
  (.seq (.region (some [3, 5, 17, 18]) [⟨(some 21), .faddr 0 (.t 5), none⟩,
    ⟨(some 22), .load false 1 (.t 21), none⟩] [])
  (.cond (.t 22) (.region (some [3, 17, 18]) [⟨(some 23), .mv (.t 3), none⟩,
     ⟨(some 24), .bin .add (.t 23) (.c (.d (.i .i64 1))), none⟩,
     ⟨(some 3), .mv (.t 24), none⟩] []) (.skip)))))
 (.region (some [3, 17, 18]) [⟨(some 25), .bin .add (.t 18) (.c (.d (.i .i64 1))), none⟩,
   ⟨(some 18), .mv (.t 25), none⟩] [])))
def c_merge_Bytes : ACode :=
 .seq (.region (some [0]) [⟨(some 1), .box (.t 0), none⟩,
   ⟨(some 2), .mv (.c (.d (.i .i64 0))), none⟩] [])
 (.seq (.region (some [1]) [⟨(some 6), .faddr 2 (.t 1), none⟩,
   ⟨(some 7), .load false 1 (.t 6), none⟩,
   ⟨(some 8), .len false (.t 7), none⟩,
   ⟨(some 9), .faddr 3 (.t 1), none⟩,
   ⟨(some 10), .faddr 48 (.t 9), none⟩,
   ⟨(some 11), .load false 1 (.t 10), none⟩,
   ⟨(some 12), .len false (.t 11), none⟩,
   ⟨(some 13), .bin .add (.t 8) (.t 12), none⟩,
   ⟨(some 3), .mv (.t 13), none⟩] [])
 (.seq (.seq (.region (some [1, 3]) [⟨(some 14), .faddr 3 (.t 1), none⟩,
   ⟨(some 15), .faddr 1 (.t 14), none⟩,
   ⟨(some 16), .faddr 0 (.t 15), none⟩,
   ⟨(some 17), .load true 30 (.t 16), none⟩,
   ⟨(some 18), .mv (.c (.d (.i .i64 0))), none⟩] [])
 (.block 0 (.loop K_merge_Bytes_0 [] l_merge_Bytes_0)))
 (.seq (.region (some [3]) [⟨(some 26), .mv (.t 3), none⟩,
   ⟨(some 2), .mv (.t 26), none⟩] [])
 (.ret))))
def a_merge_Bytes : AFn := .code 1 c_merge_Bytes [.tmp 2]
set_option maxRecDepth 100000 in
theorem k_merge_Bytes : compF Try.prog h_merge_Bytes F_merge_Bytes = some a_merge_Bytes := by kernel_rfl

/-- paddock/paddockref8.Bytes -/
def h_paddockref8_Bytes : Hints := { kp := [(0, [0]), (1, [1]), (2, [1, 3]), (3, [1, 3, 4]), (5, [1, 3, 4]), (6, [1, 3, 4]), (4, [1, 3, 4]), (7, [3])], lkp := [(3, [1, 3, 4])], lth := [] }
def K_paddockref8_Bytes_0 : Option (List Nat) := (some [1, 3, 4])
def l_paddockref8_Bytes_0 : ACode :=
 .seq (.seq (.region (some [1, 3, 4]) [⟨(some 13), .mv (.t 4), none⟩,
   ⟨(some 14), .bin .lss (.t 13) (.c (.d (.i .i64 6))), none⟩] [])
 (.cond (.t 14) (.skip) (.exit 0)))
 (.seq (.block 1 (.seq (.region (some [1, 3, 4]) [⟨(some 17), .mv (.t 4), none⟩,
    ⟨(some 18), .faddr 3 (.t 1), none⟩,
    ⟨(some 19), .faddr 1 (.t 18), none⟩,
    ⟨(some 20), .faddr 0 (.t 19), none⟩,
    ⟨(some 21), .iaddrA 6 5 (.t 20) (.t 17), none⟩,
    ⟨(some 22), .faddr 0 (.t 21), none⟩,
    ⟨(some 23), .load false 1 (.t 22), none⟩] [])
  (.cond (.t 23) (.region (some [1, 3, 4]) [⟨(some 24), .mv (.t 3), none⟩,
     ⟨(some 25), .bin .add (.t 24) (.c (.d (.i .i64 1))), none⟩,
     ⟨(some 3), .mv (.t 25), none⟩] []) (.skip))))
 (.region (some [1, 3, 4]) [⟨(some 15), .mv (.t 4), none⟩,
   ⟨(some 16), .bin .add (.t 15) (.c (.d (.i .i64 1))), none⟩,
   ⟨(some 4), .mv (.t 16), none⟩] []))
def c_paddockref8_Bytes : ACode :=
 .seq (.region (some [0]) [⟨(some 1), .box (.t 0), none⟩,
   ⟨(some 2), .mv (.c (.d (.i .i64 0))), none⟩] [])
 (.seq (.region (some [1]) [⟨(some 5), .faddr 2 (.t 1), none⟩,
   ⟨(some 6), .load false 1 (.t 5), none⟩,
   ⟨(some 7), .len false (.t 6), none⟩,
   ⟨(some 8), .faddr 3 (.t 1), none⟩,
   ⟨(some 9), .faddr 48 (.t 8), none⟩,
   ⟨(some 10), .load false 1 (.t 9), none⟩,
   ⟨(some 11), .len false (.t 10), none⟩,
   ⟨(some 12), .bin .add (.t 7) (.t 11), none⟩,
   ⟨(some 3), .mv (.t 12), none⟩] [])
 (.seq (.seq (.region (some [1, 3]) [⟨(some 4), .mv (.c (.d (.i .i64 0))), none⟩] [])
 (.block 0 (.loop K_paddockref8_Bytes_0 [] l_paddockref8_Bytes_0)))
 (.seq (.region (some [3]) [⟨(some 26), .mv (.t 3), none⟩,
   ⟨(some 2), .mv (.t 26), none⟩] [])
 (.ret))))
def a_paddockref8_Bytes : AFn := .code 1 c_paddockref8_Bytes [.tmp 2]
set_option maxRecDepth 100000 in
theorem k_paddockref8_Bytes : compF Try.prog h_paddockref8_Bytes F_paddockref8_Bytes = some a_paddockref8_Bytes := by kernel_rfl

/-- paddock/pglog.Tail -/
def h_pglog_Tail : Hints := { kp := [(0, [0, 1]), (1, [1, 2, 4]), (3, [1, 2, 4]), (5, [1, 2, 4]), (6, [4]), (4, [4]), (2, [4]), (7, [1, 2, 4])], lkp := [], lth := [] }
def c_pglog_Tail : ACode :=
 .seq (.region (some [0, 1]) [⟨(some 2), .box (.t 0), none⟩,
   ⟨(some 4), .box (.c (.agg Pk.State.zeroA)), none⟩,
   ⟨(some 5), .mv (.c (.d (.i .i64 0))), none⟩] [])
 (.seq (.block 0 (.seq (.region (some [1, 2, 4]) [⟨(some 7), .load true 49 (.t 2), none⟩,
    ⟨(some 8), .call (.f F_pglog_Is) [.t 7], none⟩,
    ⟨(some 9), .un .not (.t 8), none⟩,
    ⟨(some 6), .mv (.t 9), none⟩] [])
  (.cond (.t 6) (.seq (.region (some [4]) [⟨(some 10), .build Pk.State.zeroA [], none⟩,
     ⟨none, .store 49 (.t 4) (.t 10), none⟩,
     ⟨(some 5), .mv (.c (.d (.i .i64 10))), none⟩] [])
   (.ret)) (.seq (.region (some [1, 2, 4]) [⟨(some 12), .mv (.t 1), none⟩,
     ⟨(some 13), .faddr 40 (.t 2), none⟩,
     ⟨(some 14), .faddr 1 (.t 13), none⟩,
     ⟨(some 15), .load false 1 (.t 14), none⟩,
     ⟨(some 16), .bin .lss (.t 12) (.t 15), none⟩,
     ⟨(some 11), .mv (.t 16), none⟩] [])
   (.cond (.t 11) (.seq (.region (some [4]) [⟨(some 17), .build Pk.State.zeroA [], none⟩,
      ⟨none, .store 49 (.t 4) (.t 17), none⟩,
      ⟨(some 5), .mv (.c (.d (.i .i64 80))), none⟩] [])
    (.ret)) (.seq (.region (some [1, 2, 4]) [⟨(some 19), .load true 49 (.t 2), none⟩,
      ⟨(some 20), .mv (.t 1), none⟩,
      ⟨(some 21), .call (.f F_pglog_place) [.t 19, .t 20], none⟩,
      ⟨(some 22), .bin .lss (.t 21) (.c (.d (.i .i64 0))), none⟩,
      ⟨(some 18), .mv (.t 22), none⟩] [])
    (.cond (.t 18) (.seq (.region (some [4]) [⟨(some 23), .build Pk.State.zeroA [], none⟩,
       ⟨none, .store 49 (.t 4) (.t 23), none⟩,
       ⟨(some 5), .mv (.c (.d (.i .i64 141))), none⟩] [])
     (.ret)) (.skip))))))))
 (.seq (.region (some [1, 2, 4]) [⟨(some 24), .load true 49 (.t 2), none⟩,
   ⟨(some 25), .load true 49 (.t 2), none⟩,
   ⟨(some 26), .mv (.t 1), none⟩,
   ⟨(some 27), .call (.f F_pglog_place) [.t 25, .t 26], none⟩,
   ⟨(some 28), .call (.f F_pglog_folded) [.t 24, .t 27], none⟩,
   ⟨none, .store 49 (.t 4) (.t 28), none⟩,
   ⟨(some 5), .mv (.c (.d (.i .i64 0))), none⟩] [(0, 1), (0, 3)])
 (.ret)))
def a_pglog_Tail : AFn := .code 2 c_pglog_Tail [.cell true 49 4, .tmp 5]
set_option maxRecDepth 100000 in
theorem k_pglog_Tail : compF Try.prog h_pglog_Tail F_pglog_Tail = some a_pglog_Tail := by kernel_rfl

/-- paddock/pglog.Is -/
def h_pglog_Is : Hints := { kp := [(0, [0]), (1, [1]), (2, []), (3, [1]), (4, [1, 3]), (5, [3, 37, 38, 39]), (6, [3, 37, 38, 39]), (7, [3, 5, 37, 38, 39]), (8, []), (9, [3, 5, 37, 38, 39]), (10, [3, 37, 38, 39]), (11, [])], lkp := [(5, [3, 37, 38, 39])], lth := [] }
def K_pglog_Is_0 : Option (List Nat) := (some [3, 37, 38, 39])
def l_pglog_Is_0 : ACode :=
 .seq (.region (some [3, 37, 38, 39]) [⟨(some 40), .bin .lss (.t 39) (.t 38), none⟩] [])
 (.seq (.cond (.t 40) (.skip) (.exit 0))
 (.seq (.block 1 (.seq (.region (some [3, 37, 38, 39]) [⟨(some 41), .iaddrS 8 (.t 37) (.t 39), none⟩,
    ⟨(some 42), .load true 8 (.t 41), none⟩,
    ⟨(some 5), .box (.c (.d (.agg [.i .u32 0, .i .u32 0, .i .u8 0, .i .u32 0, .i .u8 0, .i .u8 0, .i .u8 0, .s ⟨#[]⟩]))), none⟩,
    ⟨none, .store 8 (.t 5) (.t 42), none⟩] [])
  (.seq (.seq (.region (some [3, 5, 37, 38, 39]) [⟨(some 43), .load true 8 (.t 3), none⟩,
    ⟨(some 44), .load true 8 (.t 5), none⟩,
    ⟨(some 45), .call (.f F_pglog_next) [.t 43, .t 44], none⟩,
    ⟨(some 46), .un .not (.t 45), none⟩] [])
  (.cond (.t 46) (.seq (.region (some []) [⟨(some 2), .mv (.c (.d (.b false))), none⟩] [])
   (.ret)) (.skip)))
  (.region (some [3, 5, 37, 38, 39]) [⟨(some 47), .load true 8 (.t 5), none⟩,
    ⟨none, .store 8 (.t 3) (.t 47), none⟩] []))))
 (.region (some [3, 37, 38, 39]) [⟨(some 48), .bin .add (.t 39) (.c (.d (.i .i64 1))), none⟩,
   ⟨(some 39), .mv (.t 48), none⟩] [])))
def c_pglog_Is : ACode :=
 .seq (.region (some [0]) [⟨(some 1), .box (.t 0), none⟩,
   ⟨(some 2), .mv (.c (.d (.b false))), none⟩] [])
 (.seq (.seq (.region (some [1]) [⟨(some 6), .faddr 0 (.t 1), none⟩,
   ⟨(some 7), .load false 1 (.t 6), none⟩,
   ⟨(some 8), .bin .gtr (.t 7) (.c (.d (.i .u32 60))), none⟩,
   ⟨(some 9), .mv (.t 8), none⟩,
   ⟨(some 10), .faddr 40 (.t 1), some (9, false)⟩,
   ⟨(some 11), .faddr 0 (.t 10), some (9, false)⟩,
   ⟨(some 12), .load false 1 (.t 11), some (9, false)⟩,
   ⟨(some 13), .bin .gtr (.t 12) (.c (.d (.i .u32 60))), some (9, false)⟩,
   ⟨(some 14), .pick (.t 9) (.c (.d (.b true))) (.t 13), none⟩,
   ⟨(some 15), .mv (.t 14), none⟩,
   ⟨(some 16), .faddr 40 (.t 1), some (15, false)⟩,
   ⟨(some 17), .faddr 2 (.t 16), some (15, false)⟩,
   ⟨(some 18), .load true 6 (.t 17), some (15, false)⟩,
   ⟨(some 19), .build [.d (.i .u8 0), .d (.i .u32 0), .d (.i .u8 0), .d (.i .u8 0), .d (.i .u8 0), .d (.s ⟨#[]⟩)] [], some (15, false)⟩,
   ⟨(some 20), .eq true Pk.Opr.ety (.t 18) (.t 19), some (15, false)⟩,
   ⟨(some 21), .pick (.t 15) (.c (.d (.b true))) (.t 20), none⟩,
   ⟨(some 22), .mv (.t 21), none⟩,
   ⟨(some 23), .faddr 48 (.t 1), some (22, false)⟩,
   ⟨(some 24), .load false 1 (.t 23), some (22, false)⟩,
   ⟨(some 25), .len false (.t 24), some (22, false)⟩,
   ⟨(some 26), .bin .gtr (.t 25) (.c (.d (.i .i64 6))), some (22, false)⟩,
   ⟨(some 27), .pick (.t 22) (.c (.d (.b true))) (.t 26), none⟩,
   ⟨(some 28), .mv (.t 27), none⟩,
   ⟨(some 29), .faddr 1 (.t 1), some (28, false)⟩,
   ⟨(some 30), .load true 39 (.t 29), some (28, false)⟩,
   ⟨(some 31), .call (.f F_pglog_base) [.t 30], some (28, false)⟩,
   ⟨(some 32), .un .not (.t 31), some (28, false)⟩,
   ⟨(some 33), .pick (.t 28) (.c (.d (.b true))) (.t 32), none⟩] [])
 (.cond (.t 33) (.seq (.region (some []) [⟨(some 2), .mv (.c (.d (.b false))), none⟩] [])
  (.ret)) (.skip)))
 (.seq (.region (some [1]) [⟨(some 34), .faddr 40 (.t 1), none⟩,
   ⟨(some 35), .load true 8 (.t 34), none⟩,
   ⟨(some 3), .box (.c (.d (.agg [.i .u32 0, .i .u32 0, .i .u8 0, .i .u32 0, .i .u8 0, .i .u8 0, .i .u8 0, .s ⟨#[]⟩]))), none⟩,
   ⟨none, .store 8 (.t 3) (.t 35), none⟩] [])
 (.seq (.seq (.region (some [1, 3]) [⟨(some 36), .faddr 48 (.t 1), none⟩,
   ⟨(some 37), .load false 1 (.t 36), none⟩,
   ⟨(some 38), .len false (.t 37), none⟩,
   ⟨(some 39), .mv (.c (.d (.i .i64 0))), none⟩] [])
 (.block 0 (.loop K_pglog_Is_0 [] l_pglog_Is_0)))
 (.seq (.region (some []) [⟨(some 2), .mv (.c (.d (.b true))), none⟩] [])
 (.ret)))))
def a_pglog_Is : AFn := .code 1 c_pglog_Is [.tmp 2]
set_option maxRecDepth 100000 in
theorem k_pglog_Is : compF Try.prog h_pglog_Is F_pglog_Is = some a_pglog_Is := by kernel_rfl

/-- paddock/pglog.last -/
def h_pglog_last : Hints := { kp := [(0, [0]), (1, [1, 2]), (2, [1, 2]), (3, [1, 2])], lkp := [], lth := [] }
def c_pglog_last : ACode :=
 .seq (.region (some [0]) [⟨(some 1), .box (.t 0), none⟩,
   ⟨(some 2), .box (.c (.d (.agg [.i .u32 0, .i .u32 0, .i .u8 0, .i .u32 0, .i .u8 0, .i .u8 0, .i .u8 0, .s ⟨#[]⟩]))), none⟩] [])
 (.seq (.seq (.region (some [1, 2]) [⟨(some 3), .faddr 48 (.t 1), none⟩,
   ⟨(some 4), .load false 1 (.t 3), none⟩,
   ⟨(some 5), .len false (.t 4), none⟩,
   ⟨(some 6), .bin .eql (.t 5) (.c (.d (.i .i64 0))), none⟩] [])
 (.cond (.t 6) (.seq (.region (some [1, 2]) [⟨(some 7), .faddr 40 (.t 1), none⟩,
    ⟨(some 8), .load true 8 (.t 7), none⟩,
    ⟨none, .store 8 (.t 2) (.t 8), none⟩] [])
  (.ret)) (.skip)))
 (.seq (.region (some [1, 2]) [⟨(some 9), .faddr 48 (.t 1), none⟩,
   ⟨(some 10), .load false 1 (.t 9), none⟩,
   ⟨(some 11), .faddr 48 (.t 1), none⟩,
   ⟨(some 12), .load false 1 (.t 11), none⟩,
   ⟨(some 13), .len false (.t 12), none⟩,
   ⟨(some 14), .bin .sub (.t 13) (.c (.d (.i .i64 1))), none⟩,
   ⟨(some 15), .iaddrS 8 (.t 10) (.t 14), none⟩,
   ⟨(some 16), .load true 8 (.t 15), none⟩,
   ⟨none, .store 8 (.t 2) (.t 16), none⟩] [])
 (.ret)))
def a_pglog_last : AFn := .code 1 c_pglog_last [.cell true 8 2]
set_option maxRecDepth 100000 in
theorem k_pglog_last : compF Try.prog h_pglog_last F_pglog_last = some a_pglog_last := by kernel_rfl

/-- paddock/pglog.next -/
def h_pglog_next : Hints := { kp := [(0, [0, 1]), (1, [2, 3])], lkp := [], lth := [] }
def c_pglog_next : ACode :=
 .seq (.region (some [0, 1]) [⟨(some 2), .box (.t 0), none⟩,
   ⟨(some 3), .box (.t 1), none⟩,
   ⟨(some 4), .mv (.c (.d (.b false))), none⟩] [])
 (.seq (.region (some [2, 3]) [⟨(some 5), .faddr 2 (.t 3), none⟩,
   ⟨(some 6), .load true 6 (.t 5), none⟩,
   ⟨(some 7), .call (.f F_objects_Writes) [.t 6], none⟩,
   ⟨(some 8), .mv (.t 7), none⟩,
   ⟨(some 9), .faddr 1 (.t 3), some (8, true)⟩,
   ⟨(some 10), .load false 1 (.t 9), some (8, true)⟩,
   ⟨(some 11), .faddr 1 (.t 2), some (8, true)⟩,
   ⟨(some 12), .load false 1 (.t 11), some (8, true)⟩,
   ⟨(some 13), .bin .add (.t 12) (.c (.d (.i .u32 1))), some (8, true)⟩,
   ⟨(some 14), .bin .eql (.t 10) (.t 13), some (8, true)⟩,
   ⟨(some 15), .pick (.t 8) (.t 14) (.c (.d (.b false))), none⟩,
   ⟨(some 16), .mv (.t 15), none⟩,
   ⟨(some 17), .faddr 1 (.t 3), some (16, true)⟩,
   ⟨(some 18), .load false 1 (.t 17), some (16, true)⟩,
   ⟨(some 19), .faddr 1 (.t 2), some (16, true)⟩,
   ⟨(some 20), .load false 1 (.t 19), some (16, true)⟩,
   ⟨(some 21), .bin .gtr (.t 18) (.t 20), some (16, true)⟩,
   ⟨(some 22), .pick (.t 16) (.t 21) (.c (.d (.b false))), none⟩,
   ⟨(some 23), .mv (.t 22), none⟩,
   ⟨(some 24), .faddr 0 (.t 3), some (23, true)⟩,
   ⟨(some 25), .load false 1 (.t 24), some (23, true)⟩,
   ⟨(some 26), .faddr 0 (.t 2), some (23, true)⟩,
   ⟨(some 27), .load false 1 (.t 26), some (23, true)⟩,
   ⟨(some 28), .bin .geq (.t 25) (.t 27), some (23, true)⟩,
   ⟨(some 29), .pick (.t 23) (.t 28) (.c (.d (.b false))), none⟩,
   ⟨(some 30), .mv (.t 29), none⟩,
   ⟨(some 31), .faddr 0 (.t 3), some (30, true)⟩,
   ⟨(some 32), .load false 1 (.t 31), some (30, true)⟩,
   ⟨(some 33), .bin .leq (.t 32) (.c (.d (.i .u32 60))), some (30, true)⟩,
   ⟨(some 34), .pick (.t 30) (.t 33) (.c (.d (.b false))), none⟩,
   ⟨(some 4), .mv (.t 34), none⟩] [])
 (.ret))
def a_pglog_next : AFn := .code 2 c_pglog_next [.tmp 4]
set_option maxRecDepth 100000 in
theorem k_pglog_next : compF Try.prog h_pglog_next F_pglog_next = some a_pglog_next := by kernel_rfl

/-- slices.Clone[[]paddock/api.Entry,paddock/api.Entry] -/
def h_slices_Clone_sapi_Entry_api_Entry : Hints := { kp := [(0, [0]), (1, [0]), (2, []), (3, [0])], lkp := [], lth := [] }
def c_slices_Clone_sapi_Entry_api_Entry : ACode :=
 .seq (.region (some [0]) [⟨(some 2), .mv (.c (.nilS)), none⟩] [])
 (.seq (.seq (.region (some [0]) [⟨(some 3), .mv (.t 0), none⟩,
   ⟨(some 4), .isnil false (.t 3), none⟩] [])
 (.cond (.t 4) (.seq (.region (some []) [⟨(some 2), .mv (.c (.nilS)), none⟩] [])
  (.ret)) (.skip)))
 (.seq (.region (some [0]) [⟨(some 5), .bsl 8 [], none⟩,
   ⟨(some 6), .mv (.t 0), none⟩,
   ⟨(some 7), .app 8 (.t 5) (.t 6), none⟩,
   ⟨(some 2), .mv (.t 7), none⟩] [])
 (.ret)))
def a_slices_Clone_sapi_Entry_api_Entry : AFn := .code 1 c_slices_Clone_sapi_Entry_api_Entry [.tmp 2]
set_option maxRecDepth 100000 in
theorem k_slices_Clone_sapi_Entry_api_Entry : compF Try.prog h_slices_Clone_sapi_Entry_api_Entry F_slices_Clone_sapi_Entry_api_Entry = some a_slices_Clone_sapi_Entry_api_Entry := by kernel_rfl

/-- paddock/pglog.folded -/
def h_pglog_folded : Hints := { kp := [(0, [0, 1]), (1, [1, 2, 4]), (2, [1, 2, 4, 10, 11, 12]), (3, [1, 2, 4, 10, 11, 12]), (4, [1, 2, 4, 6, 10, 11, 12]), (5, [1, 2, 4, 6, 10, 11, 12]), (6, [1, 2, 4, 10, 11, 12]), (7, [1, 2, 4]), (8, [2, 4])], lkp := [(2, [1, 2, 4, 10, 11, 12])], lth := [] }
def K_pglog_folded_0 : Option (List Nat) := (some [1, 2, 4, 10, 11, 12])
def l_pglog_folded_0 : ACode :=
 .seq (.region (some [1, 2, 4, 10, 11, 12]) [⟨(some 13), .bin .lss (.t 12) (.t 11), none⟩] [])
 (.seq (.cond (.t 13) (.skip) (.exit 0))
 (.seq (.block 1 (.seq (.region (some [1, 2, 4, 10, 11, 12]) [⟨(some 14), .iaddrS 8 (.t 10) (.t 12), none⟩,
    ⟨(some 15), .load true 8 (.t 14), none⟩,
    ⟨(some 6), .box (.c (.d (.agg [.i .u32 0, .i .u32 0, .i .u8 0, .i .u32 0, .i .u8 0, .i .u8 0, .i .u8 0, .s ⟨#[]⟩]))), none⟩,
    ⟨none, .store 8 (.t 6) (.t 15), none⟩] [])
  (.seq (.region (some [1, 2, 4, 6, 10, 11, 12]) [⟨(some 17), .faddr 1 (.t 2), none⟩,
    ⟨(some 18), .load true 39 (.t 17), none⟩,
    ⟨(some 19), .faddr 2 (.t 6), none⟩,
    ⟨(some 20), .load true 6 (.t 19), none⟩,
    ⟨(some 21), .call (.f F_objects_Do) [.t 18, .t 20], none⟩,
    ⟨(some 16), .mv (.t 21), none⟩,
    ⟨(some 22), .ext (.t 16) 0, none⟩,
    ⟨(some 23), .ext (.t 16) 1, none⟩,
    ⟨(some 24), .faddr 1 (.t 2), none⟩,
    ⟨none, .store 39 (.t 24) (.t 22), none⟩] [])
  (.region (some [1, 2, 4, 6, 10, 11, 12]) [⟨(some 25), .faddr 0 (.t 6), none⟩,
    ⟨(some 26), .load false 1 (.t 25), none⟩,
    ⟨(some 27), .faddr 1 (.t 6), none⟩,
    ⟨(some 28), .load false 1 (.t 27), none⟩,
    ⟨(some 29), .build [.d (.i .u32 0), .d (.i .u32 0), .d (.i .u8 0), .d (.i .u32 0), .d (.i .u8 0), .d (.i .u8 0), .d (.i .u8 0), .d (.s ⟨#[]⟩)] [(0, 1, .t 26), (1, 1, .t 28)], none⟩,
    ⟨(some 30), .faddr 40 (.t 2), none⟩,
    ⟨none, .store 8 (.t 30) (.t 29), none⟩] []))))
 (.region (some [1, 2, 4, 10, 11, 12]) [⟨(some 31), .bin .add (.t 12) (.c (.d (.i .i64 1))), none⟩,
   ⟨(some 12), .mv (.t 31), none⟩] [])))
def c_pglog_folded : ACode :=
 .seq (.region (some [0, 1]) [⟨(some 2), .box (.t 0), none⟩,
   ⟨(some 4), .box (.c (.agg Pk.State.zeroA)), none⟩] [])
 (.seq (.seq (.region (some [1, 2, 4]) [⟨(some 7), .faddr 48 (.t 2), none⟩,
   ⟨(some 8), .load false 1 (.t 7), none⟩,
   ⟨(some 9), .mv (.t 1), none⟩,
   ⟨(some 10), .slice 8 (.t 8) none (some (.t 9)) none, none⟩,
   ⟨(some 11), .len false (.t 10), none⟩,
   ⟨(some 12), .mv (.c (.d (.i .i64 0))), none⟩] [])
 (.block 0 (.loop K_pglog_folded_0 [] l_pglog_folded_0)))
 (.seq (.region (some [1, 2, 4]) [⟨(some 32), .faddr 48 (.t 2), none⟩,
   ⟨(some 33), .load false 1 (.t 32), none⟩,
   ⟨(some 34), .mv (.t 1), none⟩,
   ⟨(some 35), .slice 8 (.t 33) (some (.t 34)) none none, none⟩,
   ⟨(some 36), .call (.f F_slices_Clone_sapi_Entry_api_Entry) [.t 35], none⟩,
   ⟨(some 37), .faddr 48 (.t 2), none⟩,
   ⟨none, .store 1 (.t 37) (.t 36), none⟩] [])
 (.seq (.region (some [2, 4]) [⟨(some 38), .load true 49 (.t 2), none⟩,
   ⟨none, .store 49 (.t 4) (.t 38), none⟩] [])
 (.ret))))
def a_pglog_folded : AFn := .code 2 c_pglog_folded [.cell true 49 4]
set_option maxRecDepth 100000 in
theorem k_pglog_folded : compF Try.prog h_pglog_folded F_pglog_folded = some a_pglog_folded := by kernel_rfl

/-- paddock/merge.head -/
def h_merge_head : Hints := { kp := [(0, [0]), (1, [1, 2])], lkp := [], lth := [] }
def c_merge_head : ACode :=
 .seq (.region (some [0]) [⟨(some 1), .box (.t 0), none⟩,
   ⟨(some 2), .box (.c (.agg Pk.State.zeroA)), none⟩] [])
 (.seq (.region (some [1, 2]) [⟨(some 3), .faddr 0 (.t 1), none⟩,
   ⟨(some 4), .load false 1 (.t 3), none⟩,
   ⟨(some 5), .faddr 40 (.t 1), none⟩,
   ⟨(some 6), .load true 8 (.t 5), none⟩,
   ⟨(some 7), .build Pk.State.zeroA [(0, 1, .t 4), (40, 8, .t 6)], none⟩,
   ⟨none, .store 49 (.t 2) (.t 7), none⟩] [])
 (.ret))
def a_merge_head : AFn := .code 1 c_merge_head [.cell true 49 2]
set_option maxRecDepth 100000 in
theorem k_merge_head : compF Try.prog h_merge_head F_merge_head = some a_merge_head := by kernel_rfl

/-- paddock/merge.stands -/
def h_merge_stands : Hints := { kp := [(0, [0, 1]), (1, [2, 3]), (2, [2, 3, 5, 6]), (3, [2, 3, 5, 6, 7, 8]), (4, [2, 3, 5, 6, 7]), (5, [2, 3, 5, 6]), (6, [3, 5, 9, 10])], lkp := [], lth := [] }
def c_merge_stands : ACode :=
 .seq (.region (some [0, 1]) [⟨(some 2), .box (.t 0), none⟩,
   ⟨(some 3), .box (.t 1), none⟩,
   ⟨(some 4), .mv (.c (.d (.b false))), none⟩] [])
 (.seq (.region (some [2, 3]) [⟨(some 11), .faddr 40 (.t 2), none⟩,
   ⟨(some 12), .load true 8 (.t 11), none⟩,
   ⟨(some 13), .faddr 40 (.t 3), none⟩,
   ⟨(some 14), .faddr 1 (.t 13), none⟩,
   ⟨(some 15), .load false 1 (.t 14), none⟩,
   ⟨(some 5), .box (.c (.d (.agg [.i .u32 0, .i .u32 0, .i .u8 0, .i .u32 0, .i .u8 0, .i .u8 0, .i .u8 0, .s ⟨#[]⟩]))), none⟩,
   ⟨none, .store 8 (.t 5) (.t 12), none⟩,
   ⟨(some 6), .mv (.t 15), none⟩] [(1, 4), (1, 5), (4, 5), (4, 6)])
 (.seq (.seq (.region (some [2, 3, 5, 6]) [⟨(some 17), .load true 49 (.t 2), none⟩,
   ⟨(some 18), .mv (.t 6), none⟩,
   ⟨(some 19), .call (.f F_pglog_Find) [.t 17, .t 18], none⟩,
   ⟨(some 16), .mv (.t 19), none⟩,
   ⟨(some 20), .ext (.t 16) 0, none⟩,
   ⟨(some 21), .ext (.t 16) 1, none⟩,
   ⟨(some 7), .box (.c (.d (.agg [.i .u32 0, .i .u32 0, .i .u8 0, .i .u32 0, .i .u8 0, .i .u8 0, .i .u8 0, .s ⟨#[]⟩]))), none⟩,
   ⟨none, .store 8 (.t 7) (.t 20), none⟩,
   ⟨(some 8), .mv (.t 21), none⟩] [])
 (.seq (.region (some [2, 3, 5, 6, 7, 8]) [⟨(some 22), .mv (.t 8), none⟩] [])
 (.cond (.t 22) (.region (some [2, 3, 5, 6, 7]) [⟨(some 23), .faddr 0 (.t 7), none⟩,
    ⟨(some 24), .load false 1 (.t 23), none⟩,
    ⟨(some 25), .faddr 1 (.t 7), none⟩,
    ⟨(some 26), .load false 1 (.t 25), none⟩,
    ⟨(some 27), .build [.d (.i .u32 0), .d (.i .u32 0), .d (.i .u8 0), .d (.i .u32 0), .d (.i .u8 0), .d (.i .u8 0), .d (.i .u8 0), .d (.s ⟨#[]⟩)] [(0, 1, .t 24), (1, 1, .t 26)], none⟩,
    ⟨none, .store 8 (.t 5) (.t 27), none⟩] []) (.skip))))
 (.seq (.region (some [2, 3, 5, 6]) [⟨(some 29), .load true 49 (.t 2), none⟩,
   ⟨(some 30), .mv (.t 6), none⟩,
   ⟨(some 31), .call (.f F_pglog_Upto) [.t 29, .t 30], none⟩,
   ⟨(some 28), .mv (.t 31), none⟩,
   ⟨(some 32), .ext (.t 28) 0, none⟩,
   ⟨(some 33), .ext (.t 28) 1, none⟩,
   ⟨(some 9), .box (.c (.d (.agg Pk.Base.zero.cs))), none⟩,
   ⟨none, .store 39 (.t 9) (.t 32), none⟩,
   ⟨(some 10), .mv (.t 33), none⟩] [])
 (.seq (.region (some [3, 5, 9, 10]) [⟨(some 34), .mv (.t 10), none⟩,
   ⟨(some 35), .mv (.t 34), none⟩,
   ⟨(some 36), .load true 8 (.t 5), some (35, true)⟩,
   ⟨(some 37), .faddr 40 (.t 3), some (35, true)⟩,
   ⟨(some 38), .load true 8 (.t 37), some (35, true)⟩,
   ⟨(some 39), .eq false Pk.Entry.ety (.t 36) (.t 38), some (35, true)⟩,
   ⟨(some 40), .pick (.t 35) (.t 39) (.c (.d (.b false))), none⟩,
   ⟨(some 41), .mv (.t 40), none⟩,
   ⟨(some 42), .load true 39 (.t 9), some (41, true)⟩,
   ⟨(some 43), .faddr 1 (.t 3), some (41, true)⟩,
   ⟨(some 44), .load true 39 (.t 43), some (41, true)⟩,
   ⟨(some 45), .eq false Pk.Base.ety (.t 42) (.t 44), some (41, true)⟩,
   ⟨(some 46), .pick (.t 41) (.t 45) (.c (.d (.b false))), none⟩,
   ⟨(some 4), .mv (.t 46), none⟩] [])
 (.ret)))))
def a_merge_stands : AFn := .code 2 c_merge_stands [.tmp 4]
set_option maxRecDepth 100000 in
theorem k_merge_stands : compF Try.prog h_merge_stands F_merge_stands = some a_merge_stands := by kernel_rfl

/-- paddock/pglog.Copy -/
def h_pglog_Copy : Hints := { kp := [(0, [0]), (1, [1, 2]), (2, [1, 2, 3]), (3, [1, 2, 3]), (4, [1, 2])], lkp := [], lth := [] }
def c_pglog_Copy : ACode :=
 .seq (.region (some [0]) [⟨(some 1), .box (.t 0), none⟩,
   ⟨(some 2), .box (.c (.agg Pk.State.zeroA)), none⟩] [])
 (.seq (.region (some [1, 2]) [⟨(some 4), .faddr 48 (.t 1), none⟩,
   ⟨(some 5), .load false 1 (.t 4), none⟩,
   ⟨(some 6), .len false (.t 5), none⟩,
   ⟨(some 7), .mksl 8 (.agg [.i .u32 0, .i .u32 0, .i .u8 0, .i .u32 0, .i .u8 0, .i .u8 0, .i .u8 0, .s ⟨#[]⟩]) (.t 6) (.t 6), none⟩,
   ⟨(some 3), .mv (.t 7), none⟩] [])
 (.seq (.region (some [1, 2, 3]) [⟨(some 8), .mv (.t 3), none⟩,
   ⟨(some 9), .faddr 48 (.t 1), none⟩,
   ⟨(some 10), .load false 1 (.t 9), none⟩,
   ⟨(some 11), .cpy 8 (.t 8) (.t 10), none⟩] [])
 (.seq (.region (some [1, 2, 3]) [⟨(some 12), .mv (.t 3), none⟩,
   ⟨(some 13), .faddr 48 (.t 1), none⟩,
   ⟨none, .store 1 (.t 13) (.t 12), none⟩] [])
 (.seq (.region (some [1, 2]) [⟨(some 14), .load true 49 (.t 1), none⟩,
   ⟨none, .store 49 (.t 2) (.t 14), none⟩] [])
 (.ret)))))
def a_pglog_Copy : AFn := .code 1 c_pglog_Copy [.cell true 49 2]
set_option maxRecDepth 100000 in
theorem k_pglog_Copy : compF Try.prog h_pglog_Copy F_pglog_Copy = some a_pglog_Copy := by kernel_rfl

/-- paddock/merge.common -/
def h_merge_common : Hints := { kp := [(0, [0, 1]), (1, [2, 3]), (2, [2, 3, 5]), (3, [2, 5, 14, 15, 16]), (4, [2, 5, 14, 15, 16]), (5, [2, 5, 7, 14, 15, 16]), (6, [2, 5, 7, 8, 9, 14, 15, 16]), (7, [5]), (8, [2, 7, 14, 15, 16]), (9, [2, 5, 14, 15, 16]), (10, [5])], lkp := [(3, [2, 5, 14, 15, 16])], lth := [] }
def K_merge_common_0 : Option (List Nat) := (some [2, 5, 14, 15, 16])
def l_merge_common_0 : ACode :=
 .seq (.region (some [2, 5, 14, 15, 16]) [⟨(some 17), .bin .lss (.t 16) (.t 15), none⟩] [])
 (.seq (.cond (.t 17) (.skip) (.exit 0))
 (.seq (.block 1 (.seq (.region (some [2, 5, 14, 15, 16]) [⟨(some 18), .iaddrS 8 (.t 14) (.t 16), none⟩,
    ⟨(some 19), .load true 8 (.t 18), none⟩,
    ⟨(some 7), .box (.c (.d (.agg [.i .u32 0, .i .u32 0, .i .u8 0, .i .u32 0, .i .u8 0, .i .u8 0, .i .u8 0, .s ⟨#[]⟩]))), none⟩,
    ⟨none, .store 8 (.t 7) (.t 19), none⟩] [])
  (.seq (.region (some [2, 5, 7, 14, 15, 16]) [⟨(some 21), .load true 49 (.t 2), none⟩,
    ⟨(some 22), .faddr 1 (.t 7), none⟩,
    ⟨(some 23), .load false 1 (.t 22), none⟩,
    ⟨(some 24), .call (.f F_pglog_Find) [.t 21, .t 23], none⟩,
    ⟨(some 20), .mv (.t 24), none⟩,
    ⟨(some 25), .ext (.t 20) 0, none⟩,
    ⟨(some 26), .ext (.t 20) 1, none⟩,
    ⟨(some 8), .box (.c (.d (.agg [.i .u32 0, .i .u32 0, .i .u8 0, .i .u32 0, .i .u8 0, .i .u8 0, .i .u8 0, .s ⟨#[]⟩]))), none⟩,
    ⟨none, .store 8 (.t 8) (.t 25), none⟩,
    ⟨(some 9), .mv (.t 26), none⟩] [])
  (.seq (.seq (.region (some [2, 5, 7, 8, 9, 14, 15, 16]) [⟨(some 27), .mv (.t 9), none⟩,
    ⟨(some 28), .un .not (.t 27), none⟩,
    ⟨(some 29), .mv (.t 28), none⟩,
    ⟨(some 30), .load true 8 (.t 8), some (29, false)⟩,
    ⟨(some 31), .load true 8 (.t 7), some (29, false)⟩,
    ⟨(some 32), .eq true Pk.Entry.ety (.t 30) (.t 31), some (29, false)⟩,
    ⟨(some 33), .pick (.t 29) (.c (.d (.b true))) (.t 32), none⟩] [])
  (.cond (.t 33) (.seq (.region (some [5]) [⟨(some 34), .mv (.t 5), none⟩,
     ⟨(some 4), .mv (.t 34), none⟩] [])
   (.ret)) (.skip)))
  (.region (some [2, 7, 14, 15, 16]) [⟨(some 35), .faddr 1 (.t 7), none⟩,
    ⟨(some 36), .load false 1 (.t 35), none⟩,
    ⟨(some 5), .mv (.t 36), none⟩] [])))))
 (.region (some [2, 5, 14, 15, 16]) [⟨(some 37), .bin .add (.t 16) (.c (.d (.i .i64 1))), none⟩,
   ⟨(some 16), .mv (.t 37), none⟩] [])))
def c_merge_common : ACode :=
 .seq (.region (some [0, 1]) [⟨(some 2), .box (.t 0), none⟩,
   ⟨(some 3), .box (.t 1), none⟩,
   ⟨(some 4), .mv (.c (.d (.i .u32 0))), none⟩] [])
 (.seq (.region (some [2, 3]) [⟨(some 10), .faddr 40 (.t 3), none⟩,
   ⟨(some 11), .faddr 1 (.t 10), none⟩,
   ⟨(some 12), .load false 1 (.t 11), none⟩,
   ⟨(some 5), .mv (.t 12), none⟩] [])
 (.seq (.seq (.region (some [2, 3, 5]) [⟨(some 13), .faddr 48 (.t 3), none⟩,
   ⟨(some 14), .load false 1 (.t 13), none⟩,
   ⟨(some 15), .len false (.t 14), none⟩,
   ⟨(some 16), .mv (.c (.d (.i .i64 0))), none⟩] [])
 (.block 0 (.loop K_merge_common_0 [] l_merge_common_0)))
 (.seq (.region (some [5]) [⟨(some 38), .mv (.t 5), none⟩,
   ⟨(some 4), .mv (.t 38), none⟩] [])
 (.ret))))
def a_merge_common : AFn := .code 2 c_merge_common [.tmp 4]
set_option maxRecDepth 100000 in
theorem k_merge_common : compF Try.prog h_merge_common F_merge_common = some a_merge_common := by kernel_rfl

/-- paddock/merge.Apply$1 -/
def h_merge_Apply_1 : Hints := { kp := [(0, []), (1, [0])], lkp := [], lth := [] }
def c_merge_Apply_1 : ACode :=
 .seq (.region (some []) [⟨(some 0), .box (.c (.agg Pk.State.zeroA)), none⟩,
   ⟨(some 1), .mv (.c (.d (.i .i64 0))), none⟩] [])
 (.seq (.region (some [0]) [⟨(some 2), .build Pk.State.zeroA [], none⟩,
   ⟨none, .store 49 (.t 0) (.t 2), none⟩,
   ⟨(some 1), .mv (.c (.d (.i .i64 80))), none⟩] [])
 (.ret))
def a_merge_Apply_1 : AFn := .code 0 c_merge_Apply_1 [.cell true 49 0, .tmp 1]
set_option maxRecDepth 100000 in
theorem k_merge_Apply_1 : compF Try.prog h_merge_Apply_1 F_merge_Apply_1 = some a_merge_Apply_1 := by kernel_rfl

/-- paddock/pglog.Cut -/
def h_pglog_Cut : Hints := { kp := [(0, [0, 1]), (1, [1, 2, 4]), (3, [1, 2, 4]), (4, [4]), (2, [4]), (5, [1, 2, 4]), (6, [2, 4])], lkp := [], lth := [] }
def c_pglog_Cut : ACode :=
 .seq (.region (some [0, 1]) [⟨(some 2), .box (.t 0), none⟩,
   ⟨(some 4), .box (.c (.agg Pk.State.zeroA)), none⟩,
   ⟨(some 5), .mv (.c (.d (.i .i64 0))), none⟩] [])
 (.seq (.block 0 (.seq (.region (some [1, 2, 4]) [⟨(some 7), .load true 49 (.t 2), none⟩,
    ⟨(some 8), .call (.f F_pglog_Is) [.t 7], none⟩,
    ⟨(some 9), .un .not (.t 8), none⟩,
    ⟨(some 6), .mv (.t 9), none⟩] [])
  (.cond (.t 6) (.seq (.region (some [4]) [⟨(some 10), .build Pk.State.zeroA [], none⟩,
     ⟨none, .store 49 (.t 4) (.t 10), none⟩,
     ⟨(some 5), .mv (.c (.d (.i .i64 10))), none⟩] [])
   (.ret)) (.seq (.region (some [1, 2, 4]) [⟨(some 12), .load true 49 (.t 2), none⟩,
     ⟨(some 13), .mv (.t 1), none⟩,
     ⟨(some 14), .call (.f F_pglog_place) [.t 12, .t 13], none⟩,
     ⟨(some 15), .bin .lss (.t 14) (.c (.d (.i .i64 0))), none⟩,
     ⟨(some 11), .mv (.t 15), none⟩] [])
   (.cond (.t 11) (.seq (.region (some [4]) [⟨(some 16), .build Pk.State.zeroA [], none⟩,
      ⟨none, .store 49 (.t 4) (.t 16), none⟩,
      ⟨(some 5), .mv (.c (.d (.i .i64 141))), none⟩] [])
    (.ret)) (.skip))))))
 (.seq (.region (some [1, 2, 4]) [⟨(some 17), .faddr 48 (.t 2), none⟩,
   ⟨(some 18), .load false 1 (.t 17), none⟩,
   ⟨(some 19), .load true 49 (.t 2), none⟩,
   ⟨(some 20), .mv (.t 1), none⟩,
   ⟨(some 21), .call (.f F_pglog_place) [.t 19, .t 20], none⟩,
   ⟨(some 22), .slice 8 (.t 18) none (some (.t 21)) none, none⟩,
   ⟨(some 23), .call (.f F_slices_Clone_sapi_Entry_api_Entry) [.t 22], none⟩,
   ⟨(some 24), .faddr 48 (.t 2), none⟩,
   ⟨none, .store 1 (.t 24) (.t 23), none⟩] [(1, 2), (1, 4)])
 (.seq (.region (some [2, 4]) [⟨(some 25), .load true 49 (.t 2), none⟩,
   ⟨none, .store 49 (.t 4) (.t 25), none⟩,
   ⟨(some 5), .mv (.c (.d (.i .i64 0))), none⟩] [])
 (.ret))))
def a_pglog_Cut : AFn := .code 2 c_pglog_Cut [.cell true 49 4, .tmp 5]
set_option maxRecDepth 100000 in
theorem k_pglog_Cut : compF Try.prog h_pglog_Cut F_pglog_Cut = some a_pglog_Cut := by kernel_rfl

/-- paddock/merge.added -/
def h_merge_added : Hints := { kp := [(0, [0, 1]), (1, [1, 2, 4]), (2, [2, 4, 10, 11, 12]), (3, [2, 4, 10, 11, 12]), (4, [2, 4, 7, 10, 11, 12]), (5, [2, 4, 8, 9, 10, 11, 12]), (6, [4, 9]), (7, [2, 4, 8, 10, 11, 12]), (8, [2, 4, 10, 11, 12]), (9, [2, 4])], lkp := [(2, [2, 4, 10, 11, 12])], lth := [] }
def K_merge_added_0 : Option (List Nat) := (some [2, 4, 10, 11, 12])
def l_merge_added_0 : ACode :=
 .seq (.region (some [2, 4, 10, 11, 12]) [⟨(some 13), .bin .lss (.t 12) (.t 11), none⟩] [])
 (.seq (.cond (.t 13) (.skip) (.exit 0))
 (.seq (.block 1 (.seq (.region (some [2, 4, 10, 11, 12]) [⟨(some 14), .iaddrS 8 (.t 10) (.t 12), none⟩,
    ⟨(some 15), .load true 8 (.t 14), none⟩,
    ⟨(some 7), .box (.c (.d (.agg [.i .u32 0, .i .u32 0, .i .u8 0, .i .u32 0, .i .u8 0, .i .u8 0, .i .u8 0, .s ⟨#[]⟩]))), none⟩,
    ⟨none, .store 8 (.t 7) (.t 15), none⟩] [])
  (.seq (.region (some [2, 4, 7, 10, 11, 12]) [⟨(some 17), .load true 49 (.t 2), none⟩,
    ⟨(some 18), .load true 8 (.t 7), none⟩,
    ⟨(some 19), .call (.f F_pglog_Add) [.t 17, .t 18], none⟩,
    ⟨(some 16), .mv (.t 19), none⟩,
    ⟨(some 20), .ext (.t 16) 0, none⟩,
    ⟨(some 21), .ext (.t 16) 1, none⟩,
    ⟨(some 8), .box (.c (.agg Pk.State.zeroA)), none⟩,
    ⟨none, .store 49 (.t 8) (.t 20), none⟩,
    ⟨(some 9), .mv (.t 21), none⟩] [])
  (.seq (.seq (.region (some [2, 4, 8, 9, 10, 11, 12]) [⟨(some 22), .mv (.t 9), none⟩,
    ⟨(some 23), .bin .neq (.t 22) (.c (.d (.i .i64 0))), none⟩] [])
  (.cond (.t 23) (.seq (.region (some [4, 9]) [⟨(some 24), .build Pk.State.zeroA [], none⟩,
     ⟨(some 25), .mv (.t 9), none⟩,
     ⟨none, .store 49 (.t 4) (.t 24), none⟩,
     ⟨(some 5), .mv (.t 25), none⟩] [])
   (.ret)) (.skip)))
  (.region (some [2, 4, 8, 10, 11, 12]) [⟨(some 26), .load true 49 (.t 8), none⟩,
    ⟨none, .store 49 (.t 2) (.t 26), none⟩] [])))))
 (.region (some [2, 4, 10, 11, 12]) [⟨(some 27), .bin .add (.t 12) (.c (.d (.i .i64 1))), none⟩,
   ⟨(some 12), .mv (.t 27), none⟩] [])))
def c_merge_added : ACode :=
 .seq (.region (some [0, 1]) [⟨(some 2), .box (.t 0), none⟩,
   ⟨(some 4), .box (.c (.agg Pk.State.zeroA)), none⟩,
   ⟨(some 5), .mv (.c (.d (.i .i64 0))), none⟩] [])
 (.seq (.seq (.region (some [1, 2, 4]) [⟨(some 10), .mv (.t 1), none⟩,
   ⟨(some 11), .len false (.t 10), none⟩,
   ⟨(some 12), .mv (.c (.d (.i .i64 0))), none⟩] [])
 (.block 0 (.loop K_merge_added_0 [] l_merge_added_0)))
 (.seq (.region (some [2, 4]) [⟨(some 28), .load true 49 (.t 2), none⟩,
   ⟨none, .store 49 (.t 4) (.t 28), none⟩,
   ⟨(some 5), .mv (.c (.d (.i .i64 0))), none⟩] [])
 (.ret)))
def a_merge_added : AFn := .code 2 c_merge_added [.cell true 49 4, .tmp 5]
set_option maxRecDepth 100000 in
theorem k_merge_added : compF Try.prog h_merge_added F_merge_added = some a_merge_added := by kernel_rfl

/-- slices.Equal[[]paddock/api.Entry,paddock/api.Entry] -/
def h_slices_Equal_sapi_Entry_api_Entry : Hints := { kp := [(0, [0, 1]), (1, [0, 1]), (2, []), (3, [0, 1]), (4, [0, 1, 12, 13]), (5, [0, 1, 12, 13]), (6, [0, 1, 5, 12, 13]), (7, []), (8, [0, 1, 12, 13]), (9, [])], lkp := [(4, [0, 1, 12, 13])], lth := [] }
def K_slices_Equal_sapi_Entry_api_Entry_0 : Option (List Nat) := (some [0, 1, 12, 13])
def l_slices_Equal_sapi_Entry_api_Entry_0 : ACode :=
 .seq (.region (some [0, 1, 12, 13]) [⟨(some 14), .bin .lss (.t 13) (.t 12), none⟩] [])
 (.seq (.cond (.t 14) (.skip) (.exit 0))
 (.seq (.block 1 (.seq (.region (some [0, 1, 12, 13]) [⟨(some 15), .mv (.t 13), none⟩,
    ⟨(some 5), .mv (.t 15), none⟩] [])
  (.seq (.region (some [0, 1, 5, 12, 13]) [⟨(some 16), .mv (.t 0), none⟩,
    ⟨(some 17), .mv (.t 5), none⟩,
    ⟨(some 18), .iaddrS 8 (.t 16) (.t 17), none⟩,
    ⟨(some 19), .load true 8 (.t 18), none⟩,
    ⟨(some 20), .mv (.t 1), none⟩,
    ⟨(some 21), .mv (.t 5), none⟩,
    ⟨(some 22), .iaddrS 8 (.t 20) (.t 21), none⟩,
    ⟨(some 23), .load true 8 (.t 22), none⟩,
    ⟨(some 24), .eq true Pk.Entry.ety (.t 19) (.t 23), none⟩] [(3, 7)])
  (.cond (.t 24) (.seq (.region (some []) [⟨(some 4), .mv (.c (.d (.b false))), none⟩] [])
   (.ret)) (.skip)))))
 (.region (some [0, 1, 12, 13]) [⟨(some 25), .bin .add (.t 13) (.c (.d (.i .i64 1))), none⟩,
   ⟨(some 13), .mv (.t 25), none⟩] [])))
def c_slices_Equal_sapi_Entry_api_Entry : ACode :=
 .seq (.region (some [0, 1]) [⟨(some 4), .mv (.c (.d (.b false))), none⟩] [])
 (.seq (.seq (.region (some [0, 1]) [⟨(some 6), .mv (.t 0), none⟩,
   ⟨(some 7), .len false (.t 6), none⟩,
   ⟨(some 8), .mv (.t 1), none⟩,
   ⟨(some 9), .len false (.t 8), none⟩,
   ⟨(some 10), .bin .neq (.t 7) (.t 9), none⟩] [])
 (.cond (.t 10) (.seq (.region (some []) [⟨(some 4), .mv (.c (.d (.b false))), none⟩] [])
  (.ret)) (.skip)))
 (.seq (.seq (.region (some [0, 1]) [⟨(some 11), .mv (.t 0), none⟩,
   ⟨(some 12), .len false (.t 11), none⟩,
   ⟨(some 13), .mv (.c (.d (.i .i64 0))), none⟩] [])
 (.block 0 (.loop K_slices_Equal_sapi_Entry_api_Entry_0 [] l_slices_Equal_sapi_Entry_api_Entry_0)))
 (.seq (.region (some []) [⟨(some 4), .mv (.c (.d (.b true))), none⟩] [])
 (.ret))))
def a_slices_Equal_sapi_Entry_api_Entry : AFn := .code 2 c_slices_Equal_sapi_Entry_api_Entry [.tmp 4]
set_option maxRecDepth 100000 in
theorem k_slices_Equal_sapi_Entry_api_Entry : compF Try.prog h_slices_Equal_sapi_Entry_api_Entry F_slices_Equal_sapi_Entry_api_Entry = some a_slices_Equal_sapi_Entry_api_Entry := by kernel_rfl

/-- paddock/paddockref6.Is -/
def h_paddockref6_Is : Hints := { kp := [(0, [0]), (1, [1]), (2, []), (3, [1]), (4, [1, 3, 4]), (5, [1, 3, 4, 5]), (7, [1, 3, 4, 5]), (8, [1, 3, 4, 5, 6]), (9, []), (10, [1, 5, 6]), (6, [1, 3, 4, 5]), (11, [])], lkp := [(5, [1, 3, 4, 5])], lth := [] }
def K_paddockref6_Is_0 : Option (List Nat) := (some [1, 3, 4, 5])
def l_paddockref6_Is_0 : ACode :=
 .seq (.seq (.region (some [1, 3, 4, 5]) [⟨(some 41), .mv (.t 5), none⟩,
   ⟨(some 42), .faddr 48 (.t 1), none⟩,
   ⟨(some 43), .load false 1 (.t 42), none⟩,
   ⟨(some 44), .len false (.t 43), none⟩,
   ⟨(some 45), .bin .lss (.t 41) (.t 44), none⟩] [])
 (.cond (.t 45) (.skip) (.exit 0)))
 (.seq (.block 1 (.seq (.region (some [1, 3, 4, 5]) [⟨(some 48), .faddr 48 (.t 1), none⟩,
    ⟨(some 49), .load false 1 (.t 48), none⟩,
    ⟨(some 50), .mv (.t 5), none⟩,
    ⟨(some 51), .iaddrS 8 (.t 49) (.t 50), none⟩,
    ⟨(some 52), .load true 8 (.t 51), none⟩,
    ⟨(some 6), .box (.c (.d (.agg [.i .u32 0, .i .u32 0, .i .u8 0, .i .u32 0, .i .u8 0, .i .u8 0, .i .u8 0, .s ⟨#[]⟩]))), none⟩,
    ⟨none, .store 8 (.t 6) (.t 52), none⟩] [])
  (.seq (.seq (.region (some [1, 3, 4, 5, 6]) [⟨(some 53), .faddr 2 (.t 6), none⟩,
    ⟨(some 54), .load true 6 (.t 53), none⟩,
    ⟨(some 55), .call (.f F_paddockref6_Writes) [.t 54], none⟩,
    ⟨(some 56), .un .not (.t 55), none⟩,
    ⟨(some 57), .mv (.t 56), none⟩,
    ⟨(some 58), .faddr 1 (.t 6), some (57, false)⟩,
    ⟨(some 59), .load false 1 (.t 58), some (57, false)⟩,
    ⟨(some 60), .bin .eql (.t 59) (.c (.d (.i .u32 0))), some (57, false)⟩,
    ⟨(some 61), .pick (.t 57) (.c (.d (.b true))) (.t 60), none⟩,
    ⟨(some 62), .mv (.t 61), none⟩,
    ⟨(some 63), .faddr 1 (.t 6), some (62, false)⟩,
    ⟨(some 64), .load false 1 (.t 63), some (62, false)⟩,
    ⟨(some 65), .bin .sub (.t 64) (.c (.d (.i .u32 1))), some (62, false)⟩,
    ⟨(some 66), .mv (.t 4), some (62, false)⟩,
    ⟨(some 67), .bin .neq (.t 65) (.t 66), some (62, false)⟩,
    ⟨(some 68), .pick (.t 62) (.c (.d (.b true))) (.t 67), none⟩,
    ⟨(some 69), .mv (.t 68), none⟩,
    ⟨(some 70), .faddr 0 (.t 6), some (69, false)⟩,
    ⟨(some 71), .load false 1 (.t 70), some (69, false)⟩,
    ⟨(some 72), .mv (.t 3), some (69, false)⟩,
    ⟨(some 73), .bin .lss (.t 71) (.t 72), some (69, false)⟩,
    ⟨(some 74), .pick (.t 69) (.c (.d (.b true))) (.t 73), none⟩,
    ⟨(some 75), .mv (.t 74), none⟩,
    ⟨(some 76), .faddr 0 (.t 6), some (75, false)⟩,
    ⟨(some 77), .load false 1 (.t 76), some (75, false)⟩,
    ⟨(some 78), .bin .gtr (.t 77) (.c (.d (.i .u32 60))), some (75, false)⟩,
    ⟨(some 79), .pick (.t 75) (.c (.d (.b true))) (.t 78), none⟩] [])
  (.cond (.t 79) (.seq (.region (some []) [⟨(some 2), .mv (.c (.d (.b false))), none⟩] [])
   (.ret)) (.skip)))
  (.region (some [1, 5, 6]) [⟨(some 80), .faddr 0 (.t 6), none⟩,
    ⟨(some 81), .load false 1 (.t 80), none⟩,
    ⟨(some 82), .faddr 1 (.t 6), none⟩,
    ⟨(some 83), .load false 1 (.t 82), none⟩,
    ⟨(some 3), .mv (.t 81), none⟩,
    ⟨(some 4), .mv (.t 83), none⟩] [(1, 3)]))))
 (.region (some [1, 3, 4, 5]) [⟨(some 46), .mv (.t 5), none⟩,
   ⟨(some 47), .bin .add (.t 46) (.c (.d (.i .i64 1))), none⟩,
   ⟨(some 5), .mv (.t 47), none⟩] []))
def c_paddockref6_Is : ACode :=
 .seq (.region (some [0]) [⟨(some 1), .box (.t 0), none⟩,
   ⟨(some 2), .mv (.c (.d (.b false))), none⟩] [])
 (.seq (.seq (.region (some [1]) [⟨(some 7), .faddr 0 (.t 1), none⟩,
   ⟨(some 8), .load false 1 (.t 7), none⟩,
   ⟨(some 9), .bin .gtr (.t 8) (.c (.d (.i .u32 60))), none⟩,
   ⟨(some 10), .mv (.t 9), none⟩,
   ⟨(some 11), .faddr 40 (.t 1), some (10, false)⟩,
   ⟨(some 12), .faddr 0 (.t 11), some (10, false)⟩,
   ⟨(some 13), .load false 1 (.t 12), some (10, false)⟩,
   ⟨(some 14), .bin .gtr (.t 13) (.c (.d (.i .u32 60))), some (10, false)⟩,
   ⟨(some 15), .pick (.t 10) (.c (.d (.b true))) (.t 14), none⟩,
   ⟨(some 16), .mv (.t 15), none⟩,
   ⟨(some 17), .faddr 40 (.t 1), some (16, false)⟩,
   ⟨(some 18), .faddr 2 (.t 17), some (16, false)⟩,
   ⟨(some 19), .load true 6 (.t 18), some (16, false)⟩,
   ⟨(some 20), .build [.d (.i .u8 0), .d (.i .u32 0), .d (.i .u8 0), .d (.i .u8 0), .d (.i .u8 0), .d (.s ⟨#[]⟩)] [], some (16, false)⟩,
   ⟨(some 21), .eq true Pk.Opr.ety (.t 19) (.t 20), some (16, false)⟩,
   ⟨(some 22), .pick (.t 16) (.c (.d (.b true))) (.t 21), none⟩,
   ⟨(some 23), .mv (.t 22), none⟩,
   ⟨(some 24), .faddr 48 (.t 1), some (23, false)⟩,
   ⟨(some 25), .load false 1 (.t 24), some (23, false)⟩,
   ⟨(some 26), .len false (.t 25), some (23, false)⟩,
   ⟨(some 27), .bin .gtr (.t 26) (.c (.d (.i .i64 6))), some (23, false)⟩,
   ⟨(some 28), .pick (.t 23) (.c (.d (.b true))) (.t 27), none⟩,
   ⟨(some 29), .mv (.t 28), none⟩,
   ⟨(some 30), .faddr 1 (.t 1), some (29, false)⟩,
   ⟨(some 31), .load true 39 (.t 30), some (29, false)⟩,
   ⟨(some 32), .call (.f F_paddockref6_isBase) [.t 31], some (29, false)⟩,
   ⟨(some 33), .un .not (.t 32), some (29, false)⟩,
   ⟨(some 34), .pick (.t 29) (.c (.d (.b true))) (.t 33), none⟩] [])
 (.cond (.t 34) (.seq (.region (some []) [⟨(some 2), .mv (.c (.d (.b false))), none⟩] [])
  (.ret)) (.skip)))
 (.seq (.region (some [1]) [⟨(some 35), .faddr 40 (.t 1), none⟩,
   ⟨(some 36), .faddr 0 (.t 35), none⟩,
   ⟨(some 37), .load false 1 (.t 36), none⟩,
   ⟨(some 38), .faddr 40 (.t 1), none⟩,
   ⟨(some 39), .faddr 1 (.t 38), none⟩,
   ⟨(some 40), .load false 1 (.t 39), none⟩,
   ⟨(some 3), .mv (.t 37), none⟩,
   ⟨(some 4), .mv (.t 40), none⟩] [(2, 5)])
 (.seq (.seq (.region (some [1, 3, 4]) [⟨(some 5), .mv (.c (.d (.i .i64 0))), none⟩] [])
 (.block 0 (.loop K_paddockref6_Is_0 [] l_paddockref6_Is_0)))
 (.seq (.region (some []) [⟨(some 2), .mv (.c (.d (.b true))), none⟩] [])
 (.ret)))))
def a_paddockref6_Is : AFn := .code 1 c_paddockref6_Is [.tmp 2]
set_option maxRecDepth 100000 in
theorem k_paddockref6_Is : compF Try.prog h_paddockref6_Is F_paddockref6_Is = some a_paddockref6_Is := by kernel_rfl

/-- paddock/paddockref8.shared -/
def h_paddockref8_shared : Hints := { kp := [(0, [0, 1]), (1, [2, 3]), (2, [2, 3, 5]), (3, [2, 3, 5, 6]), (5, [2, 3, 5, 6]), (4, [2, 3, 5, 6]), (6, [2, 3, 5]), (7, []), (8, [2, 3]), (9, [3, 7, 8])], lkp := [(3, [2, 3, 5, 6])], lth := [] }
def K_paddockref8_shared_0 : Option (List Nat) := (some [2, 3, 5, 6])
def l_paddockref8_shared_0 : ACode :=
 .seq (.seq (.region (some [2, 3, 5, 6]) [⟨(some 14), .mv (.t 6), none⟩,
   ⟨(some 15), .faddr 48 (.t 2), none⟩,
   ⟨(some 16), .load false 1 (.t 15), none⟩,
   ⟨(some 17), .len false (.t 16), none⟩,
   ⟨(some 18), .bin .lss (.t 14) (.t 17), none⟩] [])
 (.cond (.t 18) (.skip) (.exit 0)))
 (.seq (.block 1 (.region (some [2, 3, 5, 6]) [⟨(some 21), .mv (.t 5), none⟩,
    ⟨(some 22), .mv (.t 21), none⟩,
    ⟨(some 23), .faddr 48 (.t 2), some (22, false)⟩,
    ⟨(some 24), .load false 1 (.t 23), some (22, false)⟩,
    ⟨(some 25), .mv (.t 6), some (22, false)⟩,
    ⟨(some 26), .iaddrS 8 (.t 24) (.t 25), some (22, false)⟩,
    ⟨(some 27), .faddr 0 (.t 26), some (22, false)⟩,
    ⟨(some 28), .load false 1 (.t 27), some (22, false)⟩,
    ⟨(some 29), .faddr 40 (.t 3), some (22, false)⟩,
    ⟨(some 30), .faddr 0 (.t 29), some (22, false)⟩,
    ⟨(some 31), .load false 1 (.t 30), some (22, false)⟩,
    ⟨(some 32), .bin .eql (.t 28) (.t 31), some (22, false)⟩,
    ⟨(some 33), .mv (.t 32), some (22, false)⟩,
    ⟨(some 34), .faddr 48 (.t 2), some (33, true)⟩,
    ⟨(some 35), .load false 1 (.t 34), some (33, true)⟩,
    ⟨(some 36), .mv (.t 6), some (33, true)⟩,
    ⟨(some 37), .iaddrS 8 (.t 35) (.t 36), some (33, true)⟩,
    ⟨(some 38), .faddr 1 (.t 37), some (33, true)⟩,
    ⟨(some 39), .load false 1 (.t 38), some (33, true)⟩,
    ⟨(some 40), .faddr 40 (.t 3), some (33, true)⟩,
    ⟨(some 41), .faddr 1 (.t 40), some (33, true)⟩,
    ⟨(some 42), .load false 1 (.t 41), some (33, true)⟩,
    ⟨(some 43), .bin .eql (.t 39) (.t 42), some (33, true)⟩,
    ⟨(some 44), .pick (.t 33) (.t 43) (.c (.d (.b false))), some (22, false)⟩,
    ⟨(some 45), .pick (.t 22) (.c (.d (.b true))) (.t 44), none⟩,
    ⟨(some 5), .mv (.t 45), none⟩] [(3, 10), (7, 10), (14, 21), (18, 21)]))
 (.region (some [2, 3, 5, 6]) [⟨(some 19), .mv (.t 6), none⟩,
   ⟨(some 20), .bin .add (.t 19) (.c (.d (.i .i64 1))), none⟩,
   ⟨(some 6), .mv (.t 20), none⟩] []))
def c_paddockref8_shared : ACode :=
 .seq (.region (some [0, 1]) [⟨(some 2), .box (.t 0), none⟩,
   ⟨(some 3), .box (.t 1), none⟩,
   ⟨(some 4), .mv (.c (.d (.b false))), none⟩] [])
 (.seq (.region (some [2, 3]) [⟨(some 9), .faddr 40 (.t 2), none⟩,
   ⟨(some 10), .load true 8 (.t 9), none⟩,
   ⟨(some 11), .faddr 40 (.t 3), none⟩,
   ⟨(some 12), .load true 8 (.t 11), none⟩,
   ⟨(some 13), .eq false Pk.Entry.ety (.t 10) (.t 12), none⟩,
   ⟨(some 5), .mv (.t 13), none⟩] [])
 (.seq (.seq (.region (some [2, 3, 5]) [⟨(some 6), .mv (.c (.d (.i .i64 0))), none⟩] [])
 (.block 0 (.loop K_paddockref8_shared_0 [] l_paddockref8_shared_0)))
 (.seq (.seq (.region (some [2, 3, 5]) [⟨(some 46), .mv (.t 5), none⟩,
   ⟨(some 47), .un .not (.t 46), none⟩] [])
 (.cond (.t 47) (.seq (.region (some []) [⟨(some 4), .mv (.c (.d (.b false))), none⟩] [])
  (.ret)) (.skip)))
 (.seq (.region (some [2, 3]) [⟨(some 49), .load true 49 (.t 2), none⟩,
   ⟨(some 50), .faddr 40 (.t 3), none⟩,
   ⟨(some 51), .faddr 1 (.t 50), none⟩,
   ⟨(some 52), .load false 1 (.t 51), none⟩,
   ⟨(some 53), .call (.f F_paddockref6_Upto) [.t 49, .t 52], none⟩,
   ⟨(some 48), .mv (.t 53), none⟩,
   ⟨(some 54), .ext (.t 48) 0, none⟩,
   ⟨(some 55), .ext (.t 48) 1, none⟩,
   ⟨(some 7), .box (.c (.d (.agg Pk.Base.zero.cs))), none⟩,
   ⟨none, .store 39 (.t 7) (.t 54), none⟩,
   ⟨(some 8), .mv (.t 55), none⟩] [])
 (.seq (.region (some [3, 7, 8]) [⟨(some 56), .mv (.t 8), none⟩,
   ⟨(some 57), .mv (.t 56), none⟩,
   ⟨(some 58), .load true 39 (.t 7), some (57, true)⟩,
   ⟨(some 59), .faddr 1 (.t 3), some (57, true)⟩,
   ⟨(some 60), .load true 39 (.t 59), some (57, true)⟩,
   ⟨(some 61), .eq false Pk.Base.ety (.t 58) (.t 60), some (57, true)⟩,
   ⟨(some 62), .pick (.t 57) (.t 61) (.c (.d (.b false))), none⟩,
   ⟨(some 4), .mv (.t 62), none⟩] [])
 (.ret))))))
def a_paddockref8_shared : AFn := .code 2 c_paddockref8_shared [.tmp 4]
set_option maxRecDepth 100000 in
theorem k_paddockref8_shared : compF Try.prog h_paddockref8_shared F_paddockref8_shared = some a_paddockref8_shared := by kernel_rfl

/-- paddock/paddockref6.Find -/
def h_paddockref6_Find : Hints := { kp := [(0, [0, 1]), (1, [1, 2, 4]), (2, [1, 2, 4, 6]), (4, [1, 2, 4, 6]), (5, [2, 4, 6]), (3, [1, 2, 4, 6]), (6, [4])], lkp := [(2, [1, 2, 4, 6])], lth := [] }
def K_paddockref6_Find_0 : Option (List Nat) := (some [1, 2, 4, 6])
def l_paddockref6_Find_0 : ACode :=
 .seq (.seq (.region (some [1, 2, 4, 6]) [⟨(some 7), .mv (.t 6), none⟩,
   ⟨(some 8), .faddr 48 (.t 2), none⟩,
   ⟨(some 9), .load false 1 (.t 8), none⟩,
   ⟨(some 10), .len false (.t 9), none⟩,
   ⟨(some 11), .bin .lss (.t 7) (.t 10), none⟩,
   ⟨(some 12), .mv (.t 11), none⟩,
   ⟨(some 13), .load true 49 (.t 2), some (12, true)⟩,
   ⟨(some 14), .call (.f F_paddockref6_Is) [.t 13], some (12, true)⟩,
   ⟨(some 15), .pick (.t 12) (.t 14) (.c (.d (.b false))), none⟩] [])
 (.cond (.t 15) (.skip) (.exit 0)))
 (.seq (.block 1 (.seq (.region (some [1, 2, 4, 6]) [⟨(some 18), .faddr 48 (.t 2), none⟩,
    ⟨(some 19), .load false 1 (.t 18), none⟩,
    ⟨(some 20), .mv (.t 6), none⟩,
    ⟨(some 21), .iaddrS 8 (.t 19) (.t 20), none⟩,
    ⟨(some 22), .faddr 1 (.t 21), none⟩,
    ⟨(some 23), .load false 1 (.t 22), none⟩,
    ⟨(some 24), .mv (.t 1), none⟩,
    ⟨(some 25), .bin .eql (.t 23) (.t 24), none⟩] [])
  (.cond (.t 25) (.seq (.region (some [2, 4, 6]) [⟨(some 26), .faddr 48 (.t 2), none⟩,
     ⟨(some 27), .load false 1 (.t 26), none⟩,
     ⟨(some 28), .mv (.t 6), none⟩,
     ⟨(some 29), .iaddrS 8 (.t 27) (.t 28), none⟩,
     ⟨(some 30), .load true 8 (.t 29), none⟩,
     ⟨none, .store 8 (.t 4) (.t 30), none⟩,
     ⟨(some 5), .mv (.c (.d (.b true))), none⟩] [])
   (.ret)) (.skip))))
 (.region (some [1, 2, 4, 6]) [⟨(some 16), .mv (.t 6), none⟩,
   ⟨(some 17), .bin .add (.t 16) (.c (.d (.i .i64 1))), none⟩,
   ⟨(some 6), .mv (.t 17), none⟩] []))
def c_paddockref6_Find : ACode :=
 .seq (.region (some [0, 1]) [⟨(some 2), .box (.t 0), none⟩,
   ⟨(some 4), .box (.c (.d (.agg [.i .u32 0, .i .u32 0, .i .u8 0, .i .u32 0, .i .u8 0, .i .u8 0, .i .u8 0, .s ⟨#[]⟩]))), none⟩,
   ⟨(some 5), .mv (.c (.d (.b false))), none⟩] [])
 (.seq (.seq (.region (some [1, 2, 4]) [⟨(some 6), .mv (.c (.d (.i .i64 0))), none⟩] [])
 (.block 0 (.loop K_paddockref6_Find_0 [] l_paddockref6_Find_0)))
 (.seq (.region (some [4]) [⟨(some 31), .build [.d (.i .u32 0), .d (.i .u32 0), .d (.i .u8 0), .d (.i .u32 0), .d (.i .u8 0), .d (.i .u8 0), .d (.i .u8 0), .d (.s ⟨#[]⟩)] [], none⟩,
   ⟨none, .store 8 (.t 4) (.t 31), none⟩,
   ⟨(some 5), .mv (.c (.d (.b false))), none⟩] [])
 (.ret)))
def a_paddockref6_Find : AFn := .code 2 c_paddockref6_Find [.cell true 8 4, .tmp 5]
set_option maxRecDepth 100000 in
theorem k_paddockref6_Find : compF Try.prog h_paddockref6_Find F_paddockref6_Find = some a_paddockref6_Find := by kernel_rfl

/-- paddock/paddockref6.Cut -/
def h_paddockref6_Cut : Hints := { kp := [(0, [0, 1]), (1, [1, 2, 4]), (2, [1, 2, 4, 7]), (3, [4]), (4, [1, 2, 4, 7]), (5, [4]), (6, [1, 2, 4]), (7, [2, 4])], lkp := [], lth := [] }
def c_paddockref6_Cut : ACode :=
 .seq (.region (some [0, 1]) [⟨(some 2), .box (.t 0), none⟩,
   ⟨(some 4), .box (.c (.agg Pk.State.zeroA)), none⟩,
   ⟨(some 5), .mv (.c (.d (.i .i64 0))), none⟩] [])
 (.seq (.region (some [1, 2, 4]) [⟨(some 9), .load true 49 (.t 2), none⟩,
   ⟨(some 10), .call (.f F_paddockref6_Head) [.t 9], none⟩,
   ⟨(some 8), .mv (.t 10), none⟩,
   ⟨(some 11), .ext (.t 8) 0, none⟩,
   ⟨(some 12), .ext (.t 8) 1, none⟩,
   ⟨(some 6), .mv (.t 11), none⟩,
   ⟨(some 7), .mv (.t 12), none⟩] [])
 (.seq (.seq (.region (some [1, 2, 4, 7]) [⟨(some 13), .load true 49 (.t 2), none⟩,
   ⟨(some 14), .call (.f F_paddockref6_Is) [.t 13], none⟩,
   ⟨(some 15), .un .not (.t 14), none⟩] [])
 (.cond (.t 15) (.seq (.region (some [4]) [⟨(some 16), .build Pk.State.zeroA [], none⟩,
    ⟨none, .store 49 (.t 4) (.t 16), none⟩,
    ⟨(some 5), .mv (.c (.d (.i .i64 10))), none⟩] [])
  (.ret)) (.skip)))
 (.seq (.seq (.region (some [1, 2, 4, 7]) [⟨(some 17), .mv (.t 1), none⟩,
   ⟨(some 18), .faddr 40 (.t 2), none⟩,
   ⟨(some 19), .faddr 1 (.t 18), none⟩,
   ⟨(some 20), .load false 1 (.t 19), none⟩,
   ⟨(some 21), .bin .lss (.t 17) (.t 20), none⟩,
   ⟨(some 22), .mv (.t 21), none⟩,
   ⟨(some 23), .mv (.t 1), some (22, false)⟩,
   ⟨(some 24), .mv (.t 7), some (22, false)⟩,
   ⟨(some 25), .bin .gtr (.t 23) (.t 24), some (22, false)⟩,
   ⟨(some 26), .pick (.t 22) (.c (.d (.b true))) (.t 25), none⟩] [])
 (.cond (.t 26) (.seq (.region (some [4]) [⟨(some 27), .build Pk.State.zeroA [], none⟩,
    ⟨none, .store 49 (.t 4) (.t 27), none⟩,
    ⟨(some 5), .mv (.c (.d (.i .i64 141))), none⟩] [])
  (.ret)) (.skip)))
 (.seq (.region (some [1, 2, 4]) [⟨(some 28), .faddr 48 (.t 2), none⟩,
   ⟨(some 29), .load false 1 (.t 28), none⟩,
   ⟨(some 30), .mv (.t 1), none⟩,
   ⟨(some 31), .faddr 40 (.t 2), none⟩,
   ⟨(some 32), .faddr 1 (.t 31), none⟩,
   ⟨(some 33), .load false 1 (.t 32), none⟩,
   ⟨(some 34), .bin .sub (.t 30) (.t 33), none⟩,
   ⟨(some 35), .slice 8 (.t 29) none (some (.t 34)) none, none⟩,
   ⟨(some 36), .app 8 (.c (.nilS)) (.t 35), none⟩,
   ⟨(some 37), .faddr 48 (.t 2), none⟩,
   ⟨none, .store 1 (.t 37) (.t 36), none⟩] [])
 (.seq (.region (some [2, 4]) [⟨(some 38), .load true 49 (.t 2), none⟩,
   ⟨none, .store 49 (.t 4) (.t 38), none⟩,
   ⟨(some 5), .mv (.c (.d (.i .i64 0))), none⟩] [])
 (.ret))))))
def a_paddockref6_Cut : AFn := .code 2 c_paddockref6_Cut [.cell true 49 4, .tmp 5]
set_option maxRecDepth 100000 in
theorem k_paddockref6_Cut : compF Try.prog h_paddockref6_Cut F_paddockref6_Cut = some a_paddockref6_Cut := by kernel_rfl

/-- paddock/paddockref6.Add -/
def h_paddockref6_Add : Hints := { kp := [(0, [0, 1]), (1, [2, 3, 4]), (2, [2, 3, 4, 6, 7]), (3, [4]), (4, [2, 3, 4]), (5, [2, 4]), (6, [2, 4]), (7, [2, 4])], lkp := [], lth := [] }
def c_paddockref6_Add : ACode :=
 .seq (.region (some [0, 1]) [⟨(some 2), .box (.t 0), none⟩,
   ⟨(some 3), .box (.t 1), none⟩,
   ⟨(some 4), .box (.c (.agg Pk.State.zeroA)), none⟩,
   ⟨(some 5), .mv (.c (.d (.b false))), none⟩] [])
 (.seq (.region (some [2, 3, 4]) [⟨(some 9), .load true 49 (.t 2), none⟩,
   ⟨(some 10), .call (.f F_paddockref6_Head) [.t 9], none⟩,
   ⟨(some 8), .mv (.t 10), none⟩,
   ⟨(some 11), .ext (.t 8) 0, none⟩,
   ⟨(some 12), .ext (.t 8) 1, none⟩,
   ⟨(some 6), .mv (.t 11), none⟩,
   ⟨(some 7), .mv (.t 12), none⟩] [])
 (.seq (.seq (.region (some [2, 3, 4, 6, 7]) [⟨(some 13), .load true 49 (.t 2), none⟩,
   ⟨(some 14), .call (.f F_paddockref6_Is) [.t 13], none⟩,
   ⟨(some 15), .un .not (.t 14), none⟩,
   ⟨(some 16), .mv (.t 15), none⟩,
   ⟨(some 17), .faddr 2 (.t 3), some (16, false)⟩,
   ⟨(some 18), .load true 6 (.t 17), some (16, false)⟩,
   ⟨(some 19), .call (.f F_paddockref6_Writes) [.t 18], some (16, false)⟩,
   ⟨(some 20), .un .not (.t 19), some (16, false)⟩,
   ⟨(some 21), .pick (.t 16) (.c (.d (.b true))) (.t 20), none⟩,
   ⟨(some 22), .mv (.t 21), none⟩,
   ⟨(some 23), .faddr 1 (.t 3), some (22, false)⟩,
   ⟨(some 24), .load false 1 (.t 23), some (22, false)⟩,
   ⟨(some 25), .bin .eql (.t 24) (.c (.d (.i .u32 0))), some (22, false)⟩,
   ⟨(some 26), .pick (.t 22) (.c (.d (.b true))) (.t 25), none⟩,
   ⟨(some 27), .mv (.t 26), none⟩,
   ⟨(some 28), .faddr 1 (.t 3), some (27, false)⟩,
   ⟨(some 29), .load false 1 (.t 28), some (27, false)⟩,
   ⟨(some 30), .bin .sub (.t 29) (.c (.d (.i .u32 1))), some (27, false)⟩,
   ⟨(some 31), .mv (.t 7), some (27, false)⟩,
   ⟨(some 32), .bin .neq (.t 30) (.t 31), some (27, false)⟩,
   ⟨(some 33), .pick (.t 27) (.c (.d (.b true))) (.t 32), none⟩,
   ⟨(some 34), .mv (.t 33), none⟩,
   ⟨(some 35), .faddr 0 (.t 3), some (34, false)⟩,
   ⟨(some 36), .load false 1 (.t 35), some (34, false)⟩,
   ⟨(some 37), .mv (.t 6), some (34, false)⟩,
   ⟨(some 38), .bin .lss (.t 36) (.t 37), some (34, false)⟩,
   ⟨(some 39), .pick (.t 34) (.c (.d (.b true))) (.t 38), none⟩,
   ⟨(some 40), .mv (.t 39), none⟩,
   ⟨(some 41), .faddr 0 (.t 3), some (40, false)⟩,
   ⟨(some 42), .load false 1 (.t 41), some (40, false)⟩,
   ⟨(some 43), .bin .gtr (.t 42) (.c (.d (.i .u32 60))), some (40, false)⟩,
   ⟨(some 44), .pick (.t 40) (.c (.d (.b true))) (.t 43), none⟩] [])
 (.cond (.t 44) (.seq (.region (some [4]) [⟨(some 45), .build Pk.State.zeroA [], none⟩,
    ⟨none, .store 49 (.t 4) (.t 45), none⟩,
    ⟨(some 5), .mv (.c (.d (.b false))), none⟩] [])
  (.ret)) (.skip)))
 (.seq (.region (some [2, 3, 4]) [⟨(some 46), .faddr 48 (.t 2), none⟩,
   ⟨(some 47), .load false 1 (.t 46), none⟩,
   ⟨(some 48), .app 8 (.c (.nilS)) (.t 47), none⟩,
   ⟨(some 49), .load true 8 (.t 3), none⟩,
   ⟨(some 50), .bsl 8 [.t 49], none⟩,
   ⟨(some 51), .app 8 (.t 48) (.t 50), none⟩,
   ⟨(some 52), .faddr 48 (.t 2), none⟩,
   ⟨none, .store 1 (.t 52) (.t 51), none⟩] [(1, 3), (2, 3), (1, 4), (2, 4)])
 (.seq (.seq (.region (some [2, 4]) [⟨(some 53), .faddr 48 (.t 2), none⟩,
   ⟨(some 54), .load false 1 (.t 53), none⟩,
   ⟨(some 55), .len false (.t 54), none⟩,
   ⟨(some 56), .bin .gtr (.t 55) (.c (.d (.i .i64 6))), none⟩] [])
 (.cond (.t 56) (.region (some [2, 4]) [⟨(some 57), .load true 49 (.t 2), none⟩,
    ⟨(some 58), .call (.f F_paddockref6_pop) [.t 57], none⟩,
    ⟨none, .store 49 (.t 2) (.t 58), none⟩] []) (.skip)))
 (.seq (.region (some [2, 4]) [⟨(some 59), .load true 49 (.t 2), none⟩,
   ⟨none, .store 49 (.t 4) (.t 59), none⟩,
   ⟨(some 5), .mv (.c (.d (.b true))), none⟩] [])
 (.ret))))))
def a_paddockref6_Add : AFn := .code 2 c_paddockref6_Add [.cell true 49 4, .tmp 5]
set_option maxRecDepth 100000 in
theorem k_paddockref6_Add : compF Try.prog h_paddockref6_Add F_paddockref6_Add = some a_paddockref6_Add := by kernel_rfl

/-- paddock/paddockref6.Tail -/
def h_paddockref6_Tail : Hints := { kp := [(0, [0, 1]), (1, [1, 2, 4]), (2, [1, 2, 4, 7]), (4, [1, 2, 4, 7]), (6, [1, 2, 4, 7]), (7, [4]), (5, [4]), (3, [4]), (8, [1, 2, 4]), (9, [1, 2, 4]), (10, [2, 4])], lkp := [(8, [1, 2, 4])], lth := [] }
def K_paddockref6_Tail_0 : Option (List Nat) := (some [1, 2, 4])
def l_paddockref6_Tail_0 : ACode :=
 .seq (.seq (.region (some [1, 2, 4]) [⟨(some 30), .faddr 40 (.t 2), none⟩,
   ⟨(some 31), .faddr 1 (.t 30), none⟩,
   ⟨(some 32), .load false 1 (.t 31), none⟩,
   ⟨(some 33), .mv (.t 1), none⟩,
   ⟨(some 34), .bin .lss (.t 32) (.t 33), none⟩] [])
 (.cond (.t 34) (.skip) (.exit 1)))
 (.block 2 (.region (some [1, 2, 4]) [⟨(some 35), .load true 49 (.t 2), none⟩,
    ⟨(some 36), .call (.f F_paddockref6_pop) [.t 35], none⟩,
    ⟨none, .store 49 (.t 2) (.t 36), none⟩] []))
def c_paddockref6_Tail : ACode :=
 .seq (.region (some [0, 1]) [⟨(some 2), .box (.t 0), none⟩,
   ⟨(some 4), .box (.c (.agg Pk.State.zeroA)), none⟩,
   ⟨(some 5), .mv (.c (.d (.i .i64 0))), none⟩] [])
 (.seq (.region (some [1, 2, 4]) [⟨(some 9), .load true 49 (.t 2), none⟩,
   ⟨(some 10), .call (.f F_paddockref6_Head) [.t 9], none⟩,
   ⟨(some 8), .mv (.t 10), none⟩,
   ⟨(some 11), .ext (.t 8) 0, none⟩,
   ⟨(some 12), .ext (.t 8) 1, none⟩,
   ⟨(some 6), .mv (.t 11), none⟩,
   ⟨(some 7), .mv (.t 12), none⟩] [])
 (.seq (.block 0 (.seq (.region (some [1, 2, 4, 7]) [⟨(some 14), .load true 49 (.t 2), none⟩,
    ⟨(some 15), .call (.f F_paddockref6_Is) [.t 14], none⟩,
    ⟨(some 16), .un .not (.t 15), none⟩,
    ⟨(some 13), .mv (.t 16), none⟩] [])
  (.cond (.t 13) (.seq (.region (some [4]) [⟨(some 17), .build Pk.State.zeroA [], none⟩,
     ⟨none, .store 49 (.t 4) (.t 17), none⟩,
     ⟨(some 5), .mv (.c (.d (.i .i64 10))), none⟩] [])
   (.ret)) (.seq (.region (some [1, 2, 4, 7]) [⟨(some 19), .mv (.t 1), none⟩,
     ⟨(some 20), .faddr 40 (.t 2), none⟩,
     ⟨(some 21), .faddr 1 (.t 20), none⟩,
     ⟨(some 22), .load false 1 (.t 21), none⟩,
     ⟨(some 23), .bin .lss (.t 19) (.t 22), none⟩,
     ⟨(some 18), .mv (.t 23), none⟩] [])
   (.cond (.t 18) (.seq (.region (some [4]) [⟨(some 24), .build Pk.State.zeroA [], none⟩,
      ⟨none, .store 49 (.t 4) (.t 24), none⟩,
      ⟨(some 5), .mv (.c (.d (.i .i64 80))), none⟩] [])
    (.ret)) (.seq (.region (some [1, 2, 4, 7]) [⟨(some 26), .mv (.t 1), none⟩,
      ⟨(some 27), .mv (.t 7), none⟩,
      ⟨(some 28), .bin .gtr (.t 26) (.t 27), none⟩,
      ⟨(some 25), .mv (.t 28), none⟩] [])
    (.cond (.t 25) (.seq (.region (some [4]) [⟨(some 29), .build Pk.State.zeroA [], none⟩,
       ⟨none, .store 49 (.t 4) (.t 29), none⟩,
       ⟨(some 5), .mv (.c (.d (.i .i64 141))), none⟩] [])
     (.ret)) (.skip))))))))
 (.seq (.block 1 (.loop K_paddockref6_Tail_0 [] l_paddockref6_Tail_0))
 (.seq (.region (some [2, 4]) [⟨(some 37), .load true 49 (.t 2), none⟩,
   ⟨none, .store 49 (.t 4) (.t 37), none⟩,
   ⟨(some 5), .mv (.c (.d (.i .i64 0))), none⟩] [])
 (.ret)))))
def a_paddockref6_Tail : AFn := .code 2 c_paddockref6_Tail [.cell true 49 4, .tmp 5]
set_option maxRecDepth 100000 in
theorem k_paddockref6_Tail : compF Try.prog h_paddockref6_Tail F_paddockref6_Tail = some a_paddockref6_Tail := by kernel_rfl

/-- paddock/paddockref6.Head -/
def h_paddockref6_Head : Hints := { kp := [(0, [0]), (1, [1]), (2, []), (3, [1]), (4, [1]), (5, [1]), (6, [4])], lkp := [], lth := [] }
def c_paddockref6_Head : ACode :=
 .seq (.region (some [0]) [⟨(some 1), .box (.t 0), none⟩,
   ⟨(some 2), .mv (.c (.d (.i .u32 0))), none⟩,
   ⟨(some 3), .mv (.c (.d (.i .u32 0))), none⟩] [])
 (.seq (.seq (.region (some [1]) [⟨(some 5), .load true 49 (.t 1), none⟩,
   ⟨(some 6), .call (.f F_paddockref6_Is) [.t 5], none⟩,
   ⟨(some 7), .un .not (.t 6), none⟩] [])
 (.cond (.t 7) (.seq (.region (some []) [⟨(some 2), .mv (.c (.d (.i .u32 0))), none⟩,
    ⟨(some 3), .mv (.c (.d (.i .u32 0))), none⟩] [])
  (.ret)) (.skip)))
 (.seq (.seq (.region (some [1]) [⟨(some 8), .faddr 48 (.t 1), none⟩,
   ⟨(some 9), .load false 1 (.t 8), none⟩,
   ⟨(some 10), .len false (.t 9), none⟩,
   ⟨(some 11), .bin .eql (.t 10) (.c (.d (.i .i64 0))), none⟩] [])
 (.cond (.t 11) (.seq (.region (some [1]) [⟨(some 12), .faddr 40 (.t 1), none⟩,
    ⟨(some 13), .faddr 0 (.t 12), none⟩,
    ⟨(some 14), .load false 1 (.t 13), none⟩,
    ⟨(some 15), .faddr 40 (.t 1), none⟩,
    ⟨(some 16), .faddr 1 (.t 15), none⟩,
    ⟨(some 17), .load false 1 (.t 16), none⟩,
    ⟨(some 2), .mv (.t 14), none⟩,
    ⟨(some 3), .mv (.t 17), none⟩] [(2, 5)])
  (.ret)) (.skip)))
 (.seq (.region (some [1]) [⟨(some 18), .faddr 48 (.t 1), none⟩,
   ⟨(some 19), .load false 1 (.t 18), none⟩,
   ⟨(some 20), .faddr 48 (.t 1), none⟩,
   ⟨(some 21), .load false 1 (.t 20), none⟩,
   ⟨(some 22), .len false (.t 21), none⟩,
   ⟨(some 23), .bin .sub (.t 22) (.c (.d (.i .i64 1))), none⟩,
   ⟨(some 24), .iaddrS 8 (.t 19) (.t 23), none⟩,
   ⟨(some 25), .load true 8 (.t 24), none⟩,
   ⟨(some 4), .box (.c (.d (.agg [.i .u32 0, .i .u32 0, .i .u8 0, .i .u32 0, .i .u8 0, .i .u8 0, .i .u8 0, .s ⟨#[]⟩]))), none⟩,
   ⟨none, .store 8 (.t 4) (.t 25), none⟩] [])
 (.seq (.region (some [4]) [⟨(some 26), .faddr 0 (.t 4), none⟩,
   ⟨(some 27), .load false 1 (.t 26), none⟩,
   ⟨(some 28), .faddr 1 (.t 4), none⟩,
   ⟨(some 29), .load false 1 (.t 28), none⟩,
   ⟨(some 2), .mv (.t 27), none⟩,
   ⟨(some 3), .mv (.t 29), none⟩] [(1, 3)])
 (.ret)))))
def a_paddockref6_Head : AFn := .code 1 c_paddockref6_Head [.tmp 2, .tmp 3]
set_option maxRecDepth 100000 in
theorem k_paddockref6_Head : compF Try.prog h_paddockref6_Head F_paddockref6_Head = some a_paddockref6_Head := by kernel_rfl

/-- paddock/pglog.place -/
def h_pglog_place : Hints := { kp := [(0, [0, 1]), (1, [1, 2]), (2, []), (3, [1, 2])], lkp := [], lth := [] }
def c_pglog_place : ACode :=
 .seq (.region (some [0, 1]) [⟨(some 2), .box (.t 0), none⟩,
   ⟨(some 4), .mv (.c (.d (.i .i64 0))), none⟩] [])
 (.seq (.seq (.region (some [1, 2]) [⟨(some 5), .mv (.t 1), none⟩,
   ⟨(some 6), .faddr 40 (.t 2), none⟩,
   ⟨(some 7), .faddr 1 (.t 6), none⟩,
   ⟨(some 8), .load false 1 (.t 7), none⟩,
   ⟨(some 9), .bin .lss (.t 5) (.t 8), none⟩,
   ⟨(some 10), .mv (.t 9), none⟩,
   ⟨(some 11), .mv (.t 1), some (10, false)⟩,
   ⟨(some 12), .load true 49 (.t 2), some (10, false)⟩,
   ⟨(some 13), .call (.f F_pglog_last) [.t 12], some (10, false)⟩,
   ⟨(some 14), .field false 1 1 (.t 13), some (10, false)⟩,
   ⟨(some 15), .bin .gtr (.t 11) (.t 14), some (10, false)⟩,
   ⟨(some 16), .pick (.t 10) (.c (.d (.b true))) (.t 15), none⟩] [])
 (.cond (.t 16) (.seq (.region (some []) [⟨(some 4), .mv (.c (.d (.i .i64 (-1)))), none⟩] [])
  (.ret)) (.skip)))
 (.seq (.region (some [1, 2]) [⟨(some 17), .mv (.t 1), none⟩,
   ⟨(some 18), .faddr 40 (.t 2), none⟩,
   ⟨(some 19), .faddr 1 (.t 18), none⟩,
   ⟨(some 20), .load false 1 (.t 19), none⟩,
   ⟨(some 21), .bin .sub (.t 17) (.t 20), none⟩,
   ⟨(some 22), .conv .i64 (.t 21), none⟩,
   ⟨(some 4), .mv (.t 22), none⟩] [])
 (.ret)))
def a_pglog_place : AFn := .code 2 c_pglog_place [.tmp 4]
set_option maxRecDepth 100000 in
theorem k_pglog_place : compF Try.prog h_pglog_place F_pglog_place = some a_pglog_place := by kernel_rfl

/-- paddock/pglog.base -/
def h_pglog_base : Hints := { kp := [(0, [0]), (1, [1]), (2, [1, 8, 9]), (3, [1, 8, 9]), (4, [1, 4, 8, 9]), (5, []), (6, [1, 8, 9]), (7, [1]), (8, [17, 18]), (9, [17, 18]), (10, [6, 17, 18]), (11, []), (12, [17, 18]), (13, [])], lkp := [(2, [1, 8, 9]), (8, [17, 18])], lth := [] }
def K_pglog_base_0 : Option (List Nat) := (some [1, 8, 9])
def l_pglog_base_0 : ACode :=
 .seq (.region (some [1, 8, 9]) [⟨(some 10), .bin .lss (.t 9) (.c (.d (.i .i64 6))), none⟩] [])
 (.seq (.cond (.t 10) (.skip) (.exit 0))
 (.seq (.block 1 (.seq (.region (some [1, 8, 9]) [⟨(some 11), .idxA true 6 5 (.t 8) (.t 9), none⟩,
    ⟨(some 4), .box (.c (.d (.agg [.b false, .s ⟨#[]⟩, .s ⟨#[]⟩, .s ⟨#[]⟩, .s ⟨#[]⟩]))), none⟩,
    ⟨none, .store 5 (.t 4) (.t 11), none⟩] [])
  (.seq (.region (some [1, 4, 8, 9]) [⟨(some 12), .load true 5 (.t 4), none⟩,
    ⟨(some 13), .call (.f F_pglog_object) [.t 12], none⟩,
    ⟨(some 14), .un .not (.t 13), none⟩] [])
  (.cond (.t 14) (.seq (.region (some []) [⟨(some 2), .mv (.c (.d (.b false))), none⟩] [])
   (.ret)) (.skip)))))
 (.region (some [1, 8, 9]) [⟨(some 15), .bin .add (.t 9) (.c (.d (.i .i64 1))), none⟩,
   ⟨(some 9), .mv (.t 15), none⟩] [])))
def K_pglog_base_1 : Option (List Nat) := (some [17, 18])
def l_pglog_base_1 : ACode :=
 .seq (.region (some [17, 18]) [⟨(some 19), .bin .lss (.t 18) (.c (.d (.i .i64 3))), none⟩] [])
 (.seq (.cond (.t 19) (.skip) (.exit 2))
 (.seq (.block 3 (.seq (.region (some [17, 18]) [⟨(some 20), .idxA true 3 3 (.t 17) (.t 18), none⟩,
    ⟨(some 6), .box (.c (.d (.agg [.i .u32 0, .i .u8 0, .s ⟨#[]⟩]))), none⟩,
    ⟨none, .store 3 (.t 6) (.t 20), none⟩] [])
  (.seq (.region (some [6, 17, 18]) [⟨(some 21), .faddr 1 (.t 6), none⟩,
    ⟨(some 22), .faddr 1 (.t 21), none⟩,
    ⟨(some 23), .load false 1 (.t 22), none⟩,
    ⟨(some 24), .bin .neq (.t 23) (.c (.d (.s ⟨#[]⟩))), none⟩,
    ⟨(some 25), .mv (.t 24), none⟩,
    ⟨(some 26), .faddr 1 (.t 6), some (25, false)⟩,
    ⟨(some 27), .faddr 0 (.t 26), some (25, false)⟩,
    ⟨(some 28), .load false 1 (.t 27), some (25, false)⟩,
    ⟨(some 29), .bin .gtr (.t 28) (.c (.d (.i .u8 3))), some (25, false)⟩,
    ⟨(some 30), .pick (.t 25) (.c (.d (.b true))) (.t 29), none⟩,
    ⟨(some 31), .mv (.t 30), none⟩,
    ⟨(some 32), .faddr 0 (.t 6), some (31, false)⟩,
    ⟨(some 33), .load false 1 (.t 32), some (31, false)⟩,
    ⟨(some 34), .bin .eql (.t 33) (.c (.d (.i .u32 0))), some (31, false)⟩,
    ⟨(some 35), .mv (.t 34), some (31, false)⟩,
    ⟨(some 36), .load true 3 (.t 6), some (35, true)⟩,
    ⟨(some 37), .build [.d (.i .u32 0), .d (.i .u8 0), .d (.s ⟨#[]⟩)] [], some (35, true)⟩,
    ⟨(some 38), .eq true Pk.Last.ety (.t 36) (.t 37), some (35, true)⟩,
    ⟨(some 39), .pick (.t 35) (.t 38) (.c (.d (.b false))), some (31, false)⟩,
    ⟨(some 40), .pick (.t 31) (.c (.d (.b true))) (.t 39), none⟩] [])
  (.cond (.t 40) (.seq (.region (some []) [⟨(some 2), .mv (.c (.d (.b false))), none⟩] [])
   (.ret)) (.skip)))))
 (.region (some [17, 18]) [⟨(some 41), .bin .add (.t 18) (.c (.d (.i .i64 1))), none⟩,
   ⟨(some 18), .mv (.t 41), none⟩] [])))
def c_pglog_base : ACode :=
 .seq (.region (some [0]) [⟨(some 1), .box (.t 0), none⟩,
   ⟨(some 2), .mv (.c (.d (.b false))), none⟩] [])
 (.seq (.seq (.region (some [1]) [⟨(some 7), .faddr 0 (.t 1), none⟩,
   ⟨(some 8), .load true 30 (.t 7), none⟩,
   ⟨(some 9), .mv (.c (.d (.i .i64 0))), none⟩] [])
 (.block 0 (.loop K_pglog_base_0 [] l_pglog_base_0)))
 (.seq (.seq (.region (some [1]) [⟨(some 16), .faddr 30 (.t 1), none⟩,
   ⟨(some 17), .load true 9 (.t 16), none⟩,
   ⟨(some 18), .mv (.c (.d (.i .i64 0))), none⟩] [])
 (.block 2 (.loop K_pglog_base_1 [] l_pglog_base_1)))
 (.seq (.region (some []) [⟨(some 2), .mv (.c (.d (.b true))), none⟩] [])
 (.ret))))
def a_pglog_base : AFn := .code 1 c_pglog_base [.tmp 2]
set_option maxRecDepth 100000 in
theorem k_pglog_base : compF Try.prog h_pglog_base F_pglog_base = some a_pglog_base := by kernel_rfl

/-- paddock/objects.Writes -/
def h_objects_Writes : Hints := { kp := [(0, [0]), (1, [1])], lkp := [], lth := [] }
def c_objects_Writes : ACode :=
 .seq (.region (some [0]) [⟨(some 1), .box (.t 0), none⟩,
   ⟨(some 2), .mv (.c (.d (.b false))), none⟩] [])
 (.seq (.region (some [1]) [⟨(some 3), .load true 6 (.t 1), none⟩,
   ⟨(some 4), .call (.f F_objects_IsOp) [.t 3], none⟩,
   ⟨(some 5), .mv (.t 4), none⟩,
   ⟨(some 6), .faddr 2 (.t 1), some (5, true)⟩,
   ⟨(some 7), .load false 1 (.t 6), some (5, true)⟩,
   ⟨(some 8), .bin .neq (.t 7) (.c (.d (.i .u8 5))), some (5, true)⟩,
   ⟨(some 9), .pick (.t 5) (.t 8) (.c (.d (.b false))), none⟩,
   ⟨(some 2), .mv (.t 9), none⟩] [])
 (.ret))
def a_objects_Writes : AFn := .code 1 c_objects_Writes [.tmp 2]
set_option maxRecDepth 100000 in
theorem k_objects_Writes : compF Try.prog h_objects_Writes F_objects_Writes = some a_objects_Writes := by kernel_rfl

/-- paddock/objects.Do -/
def h_objects_Do : Hints := { kp := [(0, [0, 1]), (1, [2, 3, 4, 5]), (2, [2, 4, 5]), (3, [2, 3, 4, 5]), (4, [2, 3, 4, 5, 6, 7]), (5, [2, 4, 5, 6]), (6, [2, 3, 4, 5]), (7, [2, 3, 4, 5, 8]), (8, [2, 3, 4, 5, 8, 9]), (9, [2, 3, 4, 5, 9]), (10, [2, 4, 5, 9])], lkp := [], lth := [] }
def c_objects_Do : ACode :=
 .seq (.region (some [0, 1]) [⟨(some 2), .box (.t 0), none⟩,
   ⟨(some 3), .box (.t 1), none⟩,
   ⟨(some 4), .box (.c (.d (.agg Pk.Base.zero.cs))), none⟩,
   ⟨(some 5), .box (.c (.d (.agg [.i .u8 0, .s ⟨#[]⟩]))), none⟩] [])
 (.seq (.seq (.region (some [2, 3, 4, 5]) [⟨(some 10), .load true 6 (.t 3), none⟩,
   ⟨(some 11), .call (.f F_objects_Writes) [.t 10], none⟩,
   ⟨(some 12), .un .not (.t 11), none⟩] [])
 (.cond (.t 12) (.seq (.region (some [2, 4, 5]) [⟨(some 13), .load true 39 (.t 2), none⟩,
    ⟨(some 14), .build [.d (.i .u8 0), .d (.s ⟨#[]⟩)] [(0, 1, .c (.d (.i .u8 3)))], none⟩,
    ⟨none, .store 39 (.t 4) (.t 13), none⟩,
    ⟨none, .store 2 (.t 5) (.t 14), none⟩] [])
  (.ret)) (.skip)))
 (.seq (.seq (.region (some [2, 3, 4, 5]) [⟨(some 16), .load true 39 (.t 2), none⟩,
   ⟨(some 17), .load true 6 (.t 3), none⟩,
   ⟨(some 18), .call (.f F_objects_Seen) [.t 16, .t 17], none⟩,
   ⟨(some 15), .mv (.t 18), none⟩,
   ⟨(some 19), .ext (.t 15) 0, none⟩,
   ⟨(some 20), .ext (.t 15) 1, none⟩,
   ⟨(some 6), .box (.c (.d (.agg [.i .u8 0, .s ⟨#[]⟩]))), none⟩,
   ⟨none, .store 2 (.t 6) (.t 19), none⟩,
   ⟨(some 7), .mv (.t 20), none⟩] [])
 (.seq (.region (some [2, 3, 4, 5, 6, 7]) [⟨(some 21), .mv (.t 7), none⟩] [])
 (.cond (.t 21) (.seq (.region (some [2, 4, 5, 6]) [⟨(some 22), .load true 39 (.t 2), none⟩,
    ⟨(some 23), .load true 2 (.t 6), none⟩,
    ⟨none, .store 39 (.t 4) (.t 22), none⟩,
    ⟨none, .store 2 (.t 5) (.t 23), none⟩] [(0, 1), (1, 2)])
  (.ret)) (.skip))))
 (.seq (.region (some [2, 3, 4, 5]) [⟨(some 24), .faddr 3 (.t 3), none⟩,
   ⟨(some 25), .load false 1 (.t 24), none⟩,
   ⟨(some 26), .faddr 0 (.t 2), none⟩,
   ⟨(some 27), .iaddrA 6 5 (.t 26) (.t 25), none⟩,
   ⟨(some 28), .load true 5 (.t 27), none⟩,
   ⟨(some 29), .build [.d (.b false), .d (.s ⟨#[]⟩), .d (.s ⟨#[]⟩), .d (.s ⟨#[]⟩), .d (.s ⟨#[]⟩)] [(0, 5, .t 28)], none⟩,
   ⟨(some 30), .box (.t 29), none⟩,
   ⟨(some 8), .mv (.t 30), none⟩] [])
 (.seq (.region (some [2, 3, 4, 5, 8]) [⟨(some 31), .faddr 2 (.t 3), none⟩,
   ⟨(some 32), .load false 1 (.t 31), none⟩,
   ⟨(some 33), .call (.f F_objects_does) [.t 32], none⟩,
   ⟨(some 34), .mv (.t 8), none⟩,
   ⟨(some 35), .load true 6 (.t 3), none⟩,
   ⟨(some 36), .call (.t 33) [.t 34, .t 35], none⟩,
   ⟨(some 37), .build [.d (.i .u8 0), .d (.s ⟨#[]⟩)] [(0, 1, .t 36)], none⟩,
   ⟨(some 9), .box (.c (.d (.agg [.i .u8 0, .s ⟨#[]⟩]))), none⟩,
   ⟨none, .store 2 (.t 9) (.t 37), none⟩] [(1, 4), (2, 4), (1, 7), (2, 7), (4, 7), (5, 7)])
 (.seq (.region (some [2, 3, 4, 5, 8, 9]) [⟨(some 38), .faddr 3 (.t 3), none⟩,
   ⟨(some 39), .load false 1 (.t 38), none⟩,
   ⟨(some 40), .mv (.t 8), none⟩,
   ⟨(some 41), .nilck (.t 40), none⟩,
   ⟨(some 42), .faddr 0 (.t 41), none⟩,
   ⟨(some 43), .load true 5 (.t 42), none⟩,
   ⟨(some 44), .faddr 0 (.t 2), none⟩,
   ⟨(some 45), .iaddrA 6 5 (.t 44) (.t 39), none⟩,
   ⟨none, .store 5 (.t 45) (.t 43), none⟩] [(1, 5)])
 (.seq (.region (some [2, 3, 4, 5, 9]) [⟨(some 46), .faddr 0 (.t 3), none⟩,
   ⟨(some 47), .load false 1 (.t 46), none⟩,
   ⟨(some 48), .bin .sub (.t 47) (.c (.d (.i .u8 1))), none⟩,
   ⟨(some 49), .faddr 1 (.t 3), none⟩,
   ⟨(some 50), .load false 1 (.t 49), none⟩,
   ⟨(some 51), .load true 2 (.t 9), none⟩,
   ⟨(some 52), .build [.d (.i .u32 0), .d (.i .u8 0), .d (.s ⟨#[]⟩)] [(0, 1, .t 50), (1, 2, .t 51)], none⟩,
   ⟨(some 53), .faddr 30 (.t 2), none⟩,
   ⟨(some 54), .iaddrA 3 3 (.t 53) (.t 48), none⟩,
   ⟨none, .store 3 (.t 54) (.t 52), none⟩] [])
 (.seq (.region (some [2, 4, 5, 9]) [⟨(some 55), .load true 39 (.t 2), none⟩,
   ⟨(some 56), .load true 2 (.t 9), none⟩,
   ⟨none, .store 39 (.t 4) (.t 55), none⟩,
   ⟨none, .store 2 (.t 5) (.t 56), none⟩] [(0, 1), (1, 2)])
 (.ret))))))))
def a_objects_Do : AFn := .code 2 c_objects_Do [.cell true 39 4, .cell true 2 5]
set_option maxRecDepth 100000 in
theorem k_objects_Do : compF Try.prog h_objects_Do F_objects_Do = some a_objects_Do := by kernel_rfl

/-- paddock/pglog.Find -/
def h_pglog_Find : Hints := { kp := [(0, [0, 1]), (1, [1, 2, 4]), (2, [4]), (3, [1, 2, 4])], lkp := [], lth := [] }
def c_pglog_Find : ACode :=
 .seq (.region (some [0, 1]) [⟨(some 2), .box (.t 0), none⟩,
   ⟨(some 4), .box (.c (.d (.agg [.i .u32 0, .i .u32 0, .i .u8 0, .i .u32 0, .i .u8 0, .i .u8 0, .i .u8 0, .s ⟨#[]⟩]))), none⟩,
   ⟨(some 5), .mv (.c (.d (.b false))), none⟩] [])
 (.seq (.seq (.region (some [1, 2, 4]) [⟨(some 6), .load true 49 (.t 2), none⟩,
   ⟨(some 7), .call (.f F_pglog_Is) [.t 6], none⟩,
   ⟨(some 8), .un .not (.t 7), none⟩,
   ⟨(some 9), .mv (.t 8), none⟩,
   ⟨(some 10), .mv (.t 1), some (9, false)⟩,
   ⟨(some 11), .faddr 40 (.t 2), some (9, false)⟩,
   ⟨(some 12), .faddr 1 (.t 11), some (9, false)⟩,
   ⟨(some 13), .load false 1 (.t 12), some (9, false)⟩,
   ⟨(some 14), .bin .leq (.t 10) (.t 13), some (9, false)⟩,
   ⟨(some 15), .pick (.t 9) (.c (.d (.b true))) (.t 14), none⟩,
   ⟨(some 16), .mv (.t 15), none⟩,
   ⟨(some 17), .load true 49 (.t 2), some (16, false)⟩,
   ⟨(some 18), .mv (.t 1), some (16, false)⟩,
   ⟨(some 19), .call (.f F_pglog_place) [.t 17, .t 18], some (16, false)⟩,
   ⟨(some 20), .bin .lss (.t 19) (.c (.d (.i .i64 1))), some (16, false)⟩,
   ⟨(some 21), .pick (.t 16) (.c (.d (.b true))) (.t 20), none⟩] [])
 (.cond (.t 21) (.seq (.region (some [4]) [⟨(some 22), .build [.d (.i .u32 0), .d (.i .u32 0), .d (.i .u8 0), .d (.i .u32 0), .d (.i .u8 0), .d (.i .u8 0), .d (.i .u8 0), .d (.s ⟨#[]⟩)] [], none⟩,
    ⟨none, .store 8 (.t 4) (.t 22), none⟩,
    ⟨(some 5), .mv (.c (.d (.b false))), none⟩] [])
  (.ret)) (.skip)))
 (.seq (.region (some [1, 2, 4]) [⟨(some 23), .faddr 48 (.t 2), none⟩,
   ⟨(some 24), .load false 1 (.t 23), none⟩,
   ⟨(some 25), .load true 49 (.t 2), none⟩,
   ⟨(some 26), .mv (.t 1), none⟩,
   ⟨(some 27), .call (.f F_pglog_place) [.t 25, .t 26], none⟩,
   ⟨(some 28), .bin .sub (.t 27) (.c (.d (.i .i64 1))), none⟩,
   ⟨(some 29), .iaddrS 8 (.t 24) (.t 28), none⟩,
   ⟨(some 30), .load true 8 (.t 29), none⟩,
   ⟨none, .store 8 (.t 4) (.t 30), none⟩,
   ⟨(some 5), .mv (.c (.d (.b true))), none⟩] [(1, 2), (1, 4)])
 (.ret)))
def a_pglog_Find : AFn := .code 2 c_pglog_Find [.cell true 8 4, .tmp 5]
set_option maxRecDepth 100000 in
theorem k_pglog_Find : compF Try.prog h_pglog_Find F_pglog_Find = some a_pglog_Find := by kernel_rfl

/-- paddock/pglog.Upto -/
def h_pglog_Upto : Hints := { kp := [(0, [0, 1]), (1, [1, 2, 4]), (2, [4]), (3, [1, 2, 4])], lkp := [], lth := [] }
def c_pglog_Upto : ACode :=
 .seq (.region (some [0, 1]) [⟨(some 2), .box (.t 0), none⟩,
   ⟨(some 4), .box (.c (.d (.agg Pk.Base.zero.cs))), none⟩,
   ⟨(some 5), .mv (.c (.d (.b false))), none⟩] [])
 (.seq (.seq (.region (some [1, 2, 4]) [⟨(some 6), .load true 49 (.t 2), none⟩,
   ⟨(some 7), .call (.f F_pglog_Is) [.t 6], none⟩,
   ⟨(some 8), .un .not (.t 7), none⟩,
   ⟨(some 9), .mv (.t 8), none⟩,
   ⟨(some 10), .load true 49 (.t 2), some (9, false)⟩,
   ⟨(some 11), .mv (.t 1), some (9, false)⟩,
   ⟨(some 12), .call (.f F_pglog_place) [.t 10, .t 11], some (9, false)⟩,
   ⟨(some 13), .bin .lss (.t 12) (.c (.d (.i .i64 0))), some (9, false)⟩,
   ⟨(some 14), .pick (.t 9) (.c (.d (.b true))) (.t 13), none⟩] [])
 (.cond (.t 14) (.seq (.region (some [4]) [⟨(some 15), .build (List.map .d Pk.Base.zero.cs) [], none⟩,
    ⟨none, .store 39 (.t 4) (.t 15), none⟩,
    ⟨(some 5), .mv (.c (.d (.b false))), none⟩] [])
  (.ret)) (.skip)))
 (.seq (.region (some [1, 2, 4]) [⟨(some 16), .load true 49 (.t 2), none⟩,
   ⟨(some 17), .load true 49 (.t 2), none⟩,
   ⟨(some 18), .mv (.t 1), none⟩,
   ⟨(some 19), .call (.f F_pglog_place) [.t 17, .t 18], none⟩,
   ⟨(some 20), .call (.f F_pglog_folded) [.t 16, .t 19], none⟩,
   ⟨(some 21), .field true 1 39 (.t 20), none⟩,
   ⟨none, .store 39 (.t 4) (.t 21), none⟩,
   ⟨(some 5), .mv (.c (.d (.b true))), none⟩] [(0, 1), (0, 3)])
 (.ret)))
def a_pglog_Upto : AFn := .code 2 c_pglog_Upto [.cell true 39 4, .tmp 5]
set_option maxRecDepth 100000 in
theorem k_pglog_Upto : compF Try.prog h_pglog_Upto F_pglog_Upto = some a_pglog_Upto := by kernel_rfl

/-- paddock/paddockref6.isBase -/
def h_paddockref6_isBase : Hints := { kp := [(0, [0]), (1, [1]), (2, [1, 3]), (4, [1, 3]), (5, [1, 3, 4]), (6, []), (7, [1, 3, 4]), (8, [1, 3, 4, 5]), (10, [1, 3, 4, 5]), (11, []), (9, [1, 3, 4, 5]), (3, [1, 3]), (12, [1]), (13, [1, 6]), (15, [1, 6]), (16, []), (14, [1, 6]), (17, [])], lkp := [(2, [1, 3]), (8, [1, 3, 4, 5]), (13, [1, 6])], lth := [] }
def K_paddockref6_isBase_0 : Option (List Nat) := (some [1, 3, 4, 5])
def l_paddockref6_isBase_0 : ACode :=
 .seq (.seq (.region (some [1, 3, 4, 5]) [⟨(some 29), .mv (.t 5), none⟩,
   ⟨(some 30), .bin .lss (.t 29) (.c (.d (.i .i64 3))), none⟩] [])
 (.cond (.t 30) (.skip) (.exit 2)))
 (.seq (.block 3 (.seq (.region (some [1, 3, 4, 5]) [⟨(some 33), .mv (.t 5), none⟩,
    ⟨(some 34), .faddr 2 (.t 4), none⟩,
    ⟨(some 35), .iaddrA 3 1 (.t 34) (.t 33), none⟩,
    ⟨(some 36), .load false 1 (.t 35), none⟩,
    ⟨(some 37), .len true (.t 36), none⟩,
    ⟨(some 38), .bin .gtr (.t 37) (.c (.d (.i .i64 16))), none⟩] [])
  (.cond (.t 38) (.seq (.region (some []) [⟨(some 2), .mv (.c (.d (.b false))), none⟩] [])
   (.ret)) (.skip))))
 (.region (some [1, 3, 4, 5]) [⟨(some 31), .mv (.t 5), none⟩,
   ⟨(some 32), .bin .add (.t 31) (.c (.d (.i .i64 1))), none⟩,
   ⟨(some 5), .mv (.t 32), none⟩] []))
def K_paddockref6_isBase_1 : Option (List Nat) := (some [1, 3])
def l_paddockref6_isBase_1 : ACode :=
 .seq (.seq (.region (some [1, 3]) [⟨(some 7), .mv (.t 3), none⟩,
   ⟨(some 8), .bin .lss (.t 7) (.c (.d (.i .i64 6))), none⟩] [])
 (.cond (.t 8) (.skip) (.exit 0)))
 (.seq (.block 1 (.seq (.region (some [1, 3]) [⟨(some 11), .mv (.t 3), none⟩,
    ⟨(some 12), .faddr 0 (.t 1), none⟩,
    ⟨(some 13), .iaddrA 6 5 (.t 12) (.t 11), none⟩,
    ⟨(some 14), .load true 5 (.t 13), none⟩,
    ⟨(some 4), .box (.c (.d (.agg [.b false, .s ⟨#[]⟩, .s ⟨#[]⟩, .s ⟨#[]⟩, .s ⟨#[]⟩]))), none⟩,
    ⟨none, .store 5 (.t 4) (.t 14), none⟩] [])
  (.seq (.seq (.region (some [1, 3, 4]) [⟨(some 15), .faddr 0 (.t 4), none⟩,
    ⟨(some 16), .load false 1 (.t 15), none⟩,
    ⟨(some 17), .un .not (.t 16), none⟩,
    ⟨(some 18), .mv (.t 17), none⟩,
    ⟨(some 19), .load true 5 (.t 4), some (18, true)⟩,
    ⟨(some 20), .build [.d (.b false), .d (.s ⟨#[]⟩), .d (.s ⟨#[]⟩), .d (.s ⟨#[]⟩), .d (.s ⟨#[]⟩)] [], some (18, true)⟩,
    ⟨(some 21), .eq true Pk.Objt.ety (.t 19) (.t 20), some (18, true)⟩,
    ⟨(some 22), .pick (.t 18) (.t 21) (.c (.d (.b false))), none⟩,
    ⟨(some 23), .mv (.t 22), none⟩,
    ⟨(some 24), .faddr 1 (.t 4), some (23, false)⟩,
    ⟨(some 25), .load false 1 (.t 24), some (23, false)⟩,
    ⟨(some 26), .len true (.t 25), some (23, false)⟩,
    ⟨(some 27), .bin .gtr (.t 26) (.c (.d (.i .i64 16))), some (23, false)⟩,
    ⟨(some 28), .pick (.t 23) (.c (.d (.b true))) (.t 27), none⟩] [])
  (.cond (.t 28) (.seq (.region (some []) [⟨(some 2), .mv (.c (.d (.b false))), none⟩] [])
   (.ret)) (.skip)))
  (.seq (.region (some [1, 3, 4]) [⟨(some 5), .mv (.c (.d (.i .i64 0))), none⟩] [])
  (.block 2 (.loop K_paddockref6_isBase_0 [] l_paddockref6_isBase_0))))))
 (.region (some [1, 3]) [⟨(some 9), .mv (.t 3), none⟩,
   ⟨(some 10), .bin .add (.t 9) (.c (.d (.i .i64 1))), none⟩,
   ⟨(some 3), .mv (.t 10), none⟩] []))
def K_paddockref6_isBase_2 : Option (List Nat) := (some [1, 6])
def l_paddockref6_isBase_2 : ACode :=
 .seq (.seq (.region (some [1, 6]) [⟨(some 39), .mv (.t 6), none⟩,
   ⟨(some 40), .bin .lss (.t 39) (.c (.d (.i .i64 3))), none⟩] [])
 (.cond (.t 40) (.skip) (.exit 4)))
 (.seq (.block 5 (.seq (.region (some [1, 6]) [⟨(some 43), .mv (.t 6), none⟩,
    ⟨(some 44), .faddr 30 (.t 1), none⟩,
    ⟨(some 45), .iaddrA 3 3 (.t 44) (.t 43), none⟩,
    ⟨(some 46), .faddr 1 (.t 45), none⟩,
    ⟨(some 47), .faddr 1 (.t 46), none⟩,
    ⟨(some 48), .load false 1 (.t 47), none⟩,
    ⟨(some 49), .bin .neq (.t 48) (.c (.d (.s ⟨#[]⟩))), none⟩,
    ⟨(some 50), .mv (.t 49), none⟩,
    ⟨(some 51), .mv (.t 6), some (50, false)⟩,
    ⟨(some 52), .faddr 30 (.t 1), some (50, false)⟩,
    ⟨(some 53), .iaddrA 3 3 (.t 52) (.t 51), some (50, false)⟩,
    ⟨(some 54), .faddr 1 (.t 53), some (50, false)⟩,
    ⟨(some 55), .faddr 0 (.t 54), some (50, false)⟩,
    ⟨(some 56), .load false 1 (.t 55), some (50, false)⟩,
    ⟨(some 57), .bin .gtr (.t 56) (.c (.d (.i .u8 3))), some (50, false)⟩,
    ⟨(some 58), .pick (.t 50) (.c (.d (.b true))) (.t 57), none⟩,
    ⟨(some 59), .mv (.t 58), none⟩,
    ⟨(some 60), .mv (.t 6), some (59, false)⟩,
    ⟨(some 61), .faddr 30 (.t 1), some (59, false)⟩,
    ⟨(some 62), .iaddrA 3 3 (.t 61) (.t 60), some (59, false)⟩,
    ⟨(some 63), .faddr 0 (.t 62), some (59, false)⟩,
    ⟨(some 64), .load false 1 (.t 63), some (59, false)⟩,
    ⟨(some 65), .bin .eql (.t 64) (.c (.d (.i .u32 0))), some (59, false)⟩,
    ⟨(some 66), .mv (.t 65), some (59, false)⟩,
    ⟨(some 67), .mv (.t 6), some (66, true)⟩,
    ⟨(some 68), .faddr 30 (.t 1), some (66, true)⟩,
    ⟨(some 69), .iaddrA 3 3 (.t 68) (.t 67), some (66, true)⟩,
    ⟨(some 70), .faddr 1 (.t 69), some (66, true)⟩,
    ⟨(some 71), .faddr 0 (.t 70), some (66, true)⟩,
    ⟨(some 72), .load false 1 (.t 71), some (66, true)⟩,
    ⟨(some 73), .bin .neq (.t 72) (.c (.d (.i .u8 0))), some (66, true)⟩,
    ⟨(some 74), .pick (.t 66) (.t 73) (.c (.d (.b false))), some (59, false)⟩,
    ⟨(some 75), .pick (.t 59) (.c (.d (.b true))) (.t 74), none⟩] [])
  (.cond (.t 75) (.seq (.region (some []) [⟨(some 2), .mv (.c (.d (.b false))), none⟩] [])
   (.ret)) (.skip))))
 (.region (some [1, 6]) [⟨(some 41), .mv (.t 6), none⟩,
   ⟨(some 42), .bin .add (.t 41) (.c (.d (.i .i64 1))), none⟩,
   ⟨(some 6), .mv (.t 42), none⟩] []))
def c_paddockref6_isBase : ACode :=
 .seq (.region (some [0]) [⟨(some 1), .box (.t 0), none⟩,
   ⟨(some 2), .mv (.c (.d (.b false))), none⟩] [])
 (.seq (.seq (.region (some [1]) [⟨(some 3), .mv (.c (.d (.i .i64 0))), none⟩] [])
 (.block 0 (.loop K_paddockref6_isBase_1 [] l_paddockref6_isBase_1)))
 (.seq (.seq (.region (some [1]) [⟨(some 6), .mv (.c (.d (.i .i64 0))), none⟩] [])
 (.block 4 (.loop K_paddockref6_isBase_2 [] l_paddockref6_isBase_2)))
 (.seq (.region (some []) [⟨(some 2), .mv (.c (.d (.b true))), none⟩] [])
 (.ret))))
def a_paddockref6_isBase : AFn := .code 1 c_paddockref6_isBase [.tmp 2]
set_option maxRecDepth 100000 in
theorem k_paddockref6_isBase : compF Try.prog h_paddockref6_isBase F_paddockref6_isBase = some a_paddockref6_isBase := by kernel_rfl

/-- paddock/paddockref6.Writes -/
def h_paddockref6_Writes : Hints := { kp := [(0, [0]), (1, [1])], lkp := [], lth := [] }
def c_paddockref6_Writes : ACode :=
 .seq (.region (some [0]) [⟨(some 1), .box (.t 0), none⟩,
   ⟨(some 2), .mv (.c (.d (.b false))), none⟩] [])
 (.seq (.region (some [1]) [⟨(some 3), .load true 6 (.t 1), none⟩,
   ⟨(some 4), .call (.f F_paddockref6_IsOp) [.t 3], none⟩,
   ⟨(some 5), .mv (.t 4), none⟩,
   ⟨(some 6), .faddr 2 (.t 1), some (5, true)⟩,
   ⟨(some 7), .load false 1 (.t 6), some (5, true)⟩,
   ⟨(some 8), .bin .neq (.t 7) (.c (.d (.i .u8 5))), some (5, true)⟩,
   ⟨(some 9), .pick (.t 5) (.t 8) (.c (.d (.b false))), none⟩,
   ⟨(some 2), .mv (.t 9), none⟩] [])
 (.ret))
def a_paddockref6_Writes : AFn := .code 1 c_paddockref6_Writes [.tmp 2]
set_option maxRecDepth 100000 in
theorem k_paddockref6_Writes : compF Try.prog h_paddockref6_Writes F_paddockref6_Writes = some a_paddockref6_Writes := by kernel_rfl

/-- paddock/paddockref6.Upto -/
def h_paddockref6_Upto : Hints := { kp := [(0, [0, 1]), (1, [1, 2, 4]), (2, [1, 2, 4, 7]), (3, [4]), (4, [1, 2, 4]), (5, [1, 2, 4, 8]), (6, [1, 2, 4, 8, 9]), (8, [1, 2, 4, 8, 9]), (7, [1, 2, 4, 8, 9]), (9, [4, 8])], lkp := [(6, [1, 2, 4, 8, 9])], lth := [] }
def K_paddockref6_Upto_0 : Option (List Nat) := (some [1, 2, 4, 8, 9])
def l_paddockref6_Upto_0 : ACode :=
 .seq (.seq (.region (some [1, 2, 4, 8, 9]) [⟨(some 33), .mv (.t 9), none⟩,
   ⟨(some 34), .faddr 48 (.t 2), none⟩,
   ⟨(some 35), .load false 1 (.t 34), none⟩,
   ⟨(some 36), .len false (.t 35), none⟩,
   ⟨(some 37), .bin .lss (.t 33) (.t 36), none⟩,
   ⟨(some 38), .mv (.t 37), none⟩,
   ⟨(some 39), .faddr 48 (.t 2), some (38, true)⟩,
   ⟨(some 40), .load false 1 (.t 39), some (38, true)⟩,
   ⟨(some 41), .mv (.t 9), some (38, true)⟩,
   ⟨(some 42), .iaddrS 8 (.t 40) (.t 41), some (38, true)⟩,
   ⟨(some 43), .faddr 1 (.t 42), some (38, true)⟩,
   ⟨(some 44), .load false 1 (.t 43), some (38, true)⟩,
   ⟨(some 45), .mv (.t 1), some (38, true)⟩,
   ⟨(some 46), .bin .leq (.t 44) (.t 45), some (38, true)⟩,
   ⟨(some 47), .pick (.t 38) (.t 46) (.c (.d (.b false))), none⟩] [])
 (.cond (.t 47) (.skip) (.exit 0)))
 (.seq (.block 1 (.region (some [1, 2, 4, 8, 9]) [⟨(some 51), .load true 39 (.t 8), none⟩,
    ⟨(some 52), .faddr 48 (.t 2), none⟩,
    ⟨(some 53), .load false 1 (.t 52), none⟩,
    ⟨(some 54), .mv (.t 9), none⟩,
    ⟨(some 55), .iaddrS 8 (.t 53) (.t 54), none⟩,
    ⟨(some 56), .faddr 2 (.t 55), none⟩,
    ⟨(some 57), .load true 6 (.t 56), none⟩,
    ⟨(some 58), .call (.f F_paddockref6_Do) [.t 51, .t 57], none⟩,
    ⟨(some 50), .mv (.t 58), none⟩,
    ⟨(some 59), .ext (.t 50) 0, none⟩,
    ⟨(some 60), .ext (.t 50) 1, none⟩,
    ⟨none, .store 39 (.t 8) (.t 59), none⟩] [(0, 2), (0, 6)]))
 (.region (some [1, 2, 4, 8, 9]) [⟨(some 48), .mv (.t 9), none⟩,
   ⟨(some 49), .bin .add (.t 48) (.c (.d (.i .i64 1))), none⟩,
   ⟨(some 9), .mv (.t 49), none⟩] []))
def c_paddockref6_Upto : ACode :=
 .seq (.region (some [0, 1]) [⟨(some 2), .box (.t 0), none⟩,
   ⟨(some 4), .box (.c (.d (.agg Pk.Base.zero.cs))), none⟩,
   ⟨(some 5), .mv (.c (.d (.b false))), none⟩] [])
 (.seq (.region (some [1, 2, 4]) [⟨(some 11), .load true 49 (.t 2), none⟩,
   ⟨(some 12), .call (.f F_paddockref6_Head) [.t 11], none⟩,
   ⟨(some 10), .mv (.t 12), none⟩,
   ⟨(some 13), .ext (.t 10) 0, none⟩,
   ⟨(some 14), .ext (.t 10) 1, none⟩,
   ⟨(some 6), .mv (.t 13), none⟩,
   ⟨(some 7), .mv (.t 14), none⟩] [])
 (.seq (.seq (.region (some [1, 2, 4, 7]) [⟨(some 15), .load true 49 (.t 2), none⟩,
   ⟨(some 16), .call (.f F_paddockref6_Is) [.t 15], none⟩,
   ⟨(some 17), .un .not (.t 16), none⟩,
   ⟨(some 18), .mv (.t 17), none⟩,
   ⟨(some 19), .mv (.t 1), some (18, false)⟩,
   ⟨(some 20), .faddr 40 (.t 2), some (18, false)⟩,
   ⟨(some 21), .faddr 1 (.t 20), some (18, false)⟩,
   ⟨(some 22), .load false 1 (.t 21), some (18, false)⟩,
   ⟨(some 23), .bin .lss (.t 19) (.t 22), some (18, false)⟩,
   ⟨(some 24), .pick (.t 18) (.c (.d (.b true))) (.t 23), none⟩,
   ⟨(some 25), .mv (.t 24), none⟩,
   ⟨(some 26), .mv (.t 1), some (25, false)⟩,
   ⟨(some 27), .mv (.t 7), some (25, false)⟩,
   ⟨(some 28), .bin .gtr (.t 26) (.t 27), some (25, false)⟩,
   ⟨(some 29), .pick (.t 25) (.c (.d (.b true))) (.t 28), none⟩] [])
 (.cond (.t 29) (.seq (.region (some [4]) [⟨(some 30), .build (List.map .d Pk.Base.zero.cs) [], none⟩,
    ⟨none, .store 39 (.t 4) (.t 30), none⟩,
    ⟨(some 5), .mv (.c (.d (.b false))), none⟩] [])
  (.ret)) (.skip)))
 (.seq (.region (some [1, 2, 4]) [⟨(some 31), .faddr 1 (.t 2), none⟩,
   ⟨(some 32), .load true 39 (.t 31), none⟩,
   ⟨(some 8), .box (.c (.d (.agg Pk.Base.zero.cs))), none⟩,
   ⟨none, .store 39 (.t 8) (.t 32), none⟩] [])
 (.seq (.seq (.region (some [1, 2, 4, 8]) [⟨(some 9), .mv (.c (.d (.i .i64 0))), none⟩] [])
 (.block 0 (.loop K_paddockref6_Upto_0 [] l_paddockref6_Upto_0)))
 (.seq (.region (some [4, 8]) [⟨(some 61), .load true 39 (.t 8), none⟩,
   ⟨none, .store 39 (.t 4) (.t 61), none⟩,
   ⟨(some 5), .mv (.c (.d (.b true))), none⟩] [])
 (.ret))))))
def a_paddockref6_Upto : AFn := .code 2 c_paddockref6_Upto [.cell true 39 4, .tmp 5]
set_option maxRecDepth 100000 in
theorem k_paddockref6_Upto : compF Try.prog h_paddockref6_Upto F_paddockref6_Upto = some a_paddockref6_Upto := by kernel_rfl

/-- paddock/paddockref6.pop -/
def h_paddockref6_pop : Hints := { kp := [(0, [0]), (1, [1, 2]), (2, [1, 2, 3]), (3, [1, 2, 3]), (4, [1, 2]), (5, [1, 2])], lkp := [], lth := [] }
def c_paddockref6_pop : ACode :=
 .seq (.region (some [0]) [⟨(some 1), .box (.t 0), none⟩,
   ⟨(some 2), .box (.c (.agg Pk.State.zeroA)), none⟩] [])
 (.seq (.region (some [1, 2]) [⟨(some 4), .faddr 48 (.t 1), none⟩,
   ⟨(some 5), .load false 1 (.t 4), none⟩,
   ⟨(some 6), .iaddrS 8 (.t 5) (.c (.d (.i .i64 0))), none⟩,
   ⟨(some 7), .load true 8 (.t 6), none⟩,
   ⟨(some 3), .box (.c (.d (.agg [.i .u32 0, .i .u32 0, .i .u8 0, .i .u32 0, .i .u8 0, .i .u8 0, .i .u8 0, .s ⟨#[]⟩]))), none⟩,
   ⟨none, .store 8 (.t 3) (.t 7), none⟩] [])
 (.seq (.region (some [1, 2, 3]) [⟨(some 9), .faddr 1 (.t 1), none⟩,
   ⟨(some 10), .load true 39 (.t 9), none⟩,
   ⟨(some 11), .faddr 2 (.t 3), none⟩,
   ⟨(some 12), .load true 6 (.t 11), none⟩,
   ⟨(some 13), .call (.f F_paddockref6_Do) [.t 10, .t 12], none⟩,
   ⟨(some 8), .mv (.t 13), none⟩,
   ⟨(some 14), .ext (.t 8) 0, none⟩,
   ⟨(some 15), .ext (.t 8) 1, none⟩,
   ⟨(some 16), .faddr 1 (.t 1), none⟩,
   ⟨none, .store 39 (.t 16) (.t 14), none⟩] [])
 (.seq (.region (some [1, 2, 3]) [⟨(some 17), .faddr 0 (.t 3), none⟩,
   ⟨(some 18), .load false 1 (.t 17), none⟩,
   ⟨(some 19), .faddr 1 (.t 3), none⟩,
   ⟨(some 20), .load false 1 (.t 19), none⟩,
   ⟨(some 21), .build [.d (.i .u32 0), .d (.i .u32 0), .d (.i .u8 0), .d (.i .u32 0), .d (.i .u8 0), .d (.i .u8 0), .d (.i .u8 0), .d (.s ⟨#[]⟩)] [(0, 1, .t 18), (1, 1, .t 20)], none⟩,
   ⟨(some 22), .faddr 40 (.t 1), none⟩,
   ⟨none, .store 8 (.t 22) (.t 21), none⟩] [])
 (.seq (.region (some [1, 2]) [⟨(some 23), .faddr 48 (.t 1), none⟩,
   ⟨(some 24), .load false 1 (.t 23), none⟩,
   ⟨(some 25), .slice 8 (.t 24) (some (.c (.d (.i .i64 1)))) none none, none⟩,
   ⟨(some 26), .app 8 (.c (.nilS)) (.t 25), none⟩,
   ⟨(some 27), .faddr 48 (.t 1), none⟩,
   ⟨none, .store 1 (.t 27) (.t 26), none⟩] [])
 (.seq (.region (some [1, 2]) [⟨(some 28), .load true 49 (.t 1), none⟩,
   ⟨none, .store 49 (.t 2) (.t 28), none⟩] [])
 (.ret))))))
def a_paddockref6_pop : AFn := .code 1 c_paddockref6_pop [.cell true 49 2]
set_option maxRecDepth 100000 in
theorem k_paddockref6_pop : compF Try.prog h_paddockref6_pop F_paddockref6_pop = some a_paddockref6_pop := by kernel_rfl

/-- paddock/pglog.object -/
def h_pglog_object : Hints := { kp := [(0, [0]), (1, [1]), (2, [1]), (3, [1]), (4, [1, 12, 13]), (5, [1, 12, 13]), (6, [1, 4, 12, 13]), (7, []), (8, [1, 12, 13]), (9, [1])], lkp := [(4, [1, 12, 13])], lth := [] }
def K_pglog_object_0 : Option (List Nat) := (some [1, 12, 13])
def l_pglog_object_0 : ACode :=
 .seq (.region (some [1, 12, 13]) [⟨(some 14), .bin .lss (.t 13) (.c (.d (.i .i64 3))), none⟩] [])
 (.seq (.cond (.t 14) (.skip) (.exit 0))
 (.seq (.block 1 (.seq (.region (some [1, 12, 13]) [⟨(some 15), .idxA false 3 1 (.t 12) (.t 13), none⟩,
    ⟨(some 4), .mv (.t 15), none⟩] [])
  (.seq (.region (some [1, 4, 12, 13]) [⟨(some 16), .mv (.t 4), none⟩,
    ⟨(some 17), .len true (.t 16), none⟩,
    ⟨(some 18), .bin .gtr (.t 17) (.c (.d (.i .i64 16))), none⟩] [])
  (.cond (.t 18) (.seq (.region (some []) [⟨(some 2), .mv (.c (.d (.b false))), none⟩] [])
   (.ret)) (.skip)))))
 (.region (some [1, 12, 13]) [⟨(some 19), .bin .add (.t 13) (.c (.d (.i .i64 1))), none⟩,
   ⟨(some 13), .mv (.t 19), none⟩] [])))
def c_pglog_object : ACode :=
 .seq (.region (some [0]) [⟨(some 1), .box (.t 0), none⟩,
   ⟨(some 2), .mv (.c (.d (.b false))), none⟩] [])
 (.seq (.seq (.region (some [1]) [⟨(some 5), .faddr 0 (.t 1), none⟩,
   ⟨(some 6), .load false 1 (.t 5), none⟩,
   ⟨(some 7), .un .not (.t 6), none⟩] [])
 (.cond (.t 7) (.seq (.region (some [1]) [⟨(some 8), .load true 5 (.t 1), none⟩,
    ⟨(some 9), .build [.d (.b false), .d (.s ⟨#[]⟩), .d (.s ⟨#[]⟩), .d (.s ⟨#[]⟩), .d (.s ⟨#[]⟩)] [], none⟩,
    ⟨(some 10), .eq false Pk.Objt.ety (.t 8) (.t 9), none⟩,
    ⟨(some 2), .mv (.t 10), none⟩] [])
  (.ret)) (.skip)))
 (.seq (.seq (.region (some [1]) [⟨(some 11), .faddr 2 (.t 1), none⟩,
   ⟨(some 12), .load true 3 (.t 11), none⟩,
   ⟨(some 13), .mv (.c (.d (.i .i64 0))), none⟩] [])
 (.block 0 (.loop K_pglog_object_0 [] l_pglog_object_0)))
 (.seq (.region (some [1]) [⟨(some 20), .faddr 1 (.t 1), none⟩,
   ⟨(some 21), .load false 1 (.t 20), none⟩,
   ⟨(some 22), .len true (.t 21), none⟩,
   ⟨(some 23), .bin .leq (.t 22) (.c (.d (.i .i64 16))), none⟩,
   ⟨(some 2), .mv (.t 23), none⟩] [])
 (.ret))))
def a_pglog_object : AFn := .code 1 c_pglog_object [.tmp 2]
set_option maxRecDepth 100000 in
theorem k_pglog_object : compF Try.prog h_pglog_object F_pglog_object = some a_pglog_object := by kernel_rfl

/-- paddock/objects.IsOp -/
def h_objects_IsOp : Hints := { kp := [(0, [0]), (1, [1]), (2, []), (3, [1]), (4, [1, 28]), (5, [1, 28]), (7, [1, 28]), (8, [1]), (6, []), (9, [1])], lkp := [], lth := [] }
def c_objects_IsOp : ACode :=
 .seq (.region (some [0]) [⟨(some 1), .box (.t 0), none⟩,
   ⟨(some 2), .mv (.c (.d (.b false))), none⟩] [])
 (.seq (.seq (.region (some [1]) [⟨(some 3), .faddr 0 (.t 1), none⟩,
   ⟨(some 4), .load false 1 (.t 3), none⟩,
   ⟨(some 5), .bin .lss (.t 4) (.c (.d (.i .u8 1))), none⟩,
   ⟨(some 6), .mv (.t 5), none⟩,
   ⟨(some 7), .faddr 0 (.t 1), some (6, false)⟩,
   ⟨(some 8), .load false 1 (.t 7), some (6, false)⟩,
   ⟨(some 9), .bin .gtr (.t 8) (.c (.d (.i .u8 3))), some (6, false)⟩,
   ⟨(some 10), .pick (.t 6) (.c (.d (.b true))) (.t 9), none⟩,
   ⟨(some 11), .mv (.t 10), none⟩,
   ⟨(some 12), .faddr 1 (.t 1), some (11, false)⟩,
   ⟨(some 13), .load false 1 (.t 12), some (11, false)⟩,
   ⟨(some 14), .bin .eql (.t 13) (.c (.d (.i .u32 0))), some (11, false)⟩,
   ⟨(some 15), .pick (.t 11) (.c (.d (.b true))) (.t 14), none⟩,
   ⟨(some 16), .mv (.t 15), none⟩,
   ⟨(some 17), .faddr 3 (.t 1), some (16, false)⟩,
   ⟨(some 18), .load false 1 (.t 17), some (16, false)⟩,
   ⟨(some 19), .bin .geq (.t 18) (.c (.d (.i .u8 6))), some (16, false)⟩,
   ⟨(some 20), .pick (.t 16) (.c (.d (.b true))) (.t 19), none⟩,
   ⟨(some 21), .mv (.t 20), none⟩,
   ⟨(some 22), .faddr 5 (.t 1), some (21, false)⟩,
   ⟨(some 23), .load false 1 (.t 22), some (21, false)⟩,
   ⟨(some 24), .len true (.t 23), some (21, false)⟩,
   ⟨(some 25), .bin .gtr (.t 24) (.c (.d (.i .i64 16))), some (21, false)⟩,
   ⟨(some 26), .pick (.t 21) (.c (.d (.b true))) (.t 25), none⟩] [])
 (.cond (.t 26) (.seq (.region (some []) [⟨(some 2), .mv (.c (.d (.b false))), none⟩] [])
  (.ret)) (.skip)))
 (.seq (.seq (.region (some [1]) [⟨(some 27), .faddr 2 (.t 1), none⟩,
   ⟨(some 28), .load false 1 (.t 27), none⟩] [])
 (.block 0 (.seq (.seq (.region (some [1, 28]) [⟨(some 30), .bin .eql (.t 28) (.c (.d (.i .u8 1))), none⟩,
    ⟨(some 29), .mv (.t 30), none⟩] [])
  (.cond (.t 29) (.skip) (.region (some [1, 28]) [⟨(some 31), .bin .eql (.t 28) (.c (.d (.i .u8 3))), none⟩,
     ⟨(some 29), .mv (.t 31), none⟩] [])))
  (.cond (.t 29) (.seq (.region (some []) [⟨(some 2), .mv (.c (.d (.b true))), none⟩] [])
   (.ret)) (.seq (.region (some [1, 28]) [⟨(some 33), .bin .eql (.t 28) (.c (.d (.i .u8 2))), none⟩,
     ⟨(some 32), .mv (.t 33), none⟩] [])
   (.cond (.t 32) (.seq (.region (some [1]) [⟨(some 34), .faddr 5 (.t 1), none⟩,
      ⟨(some 35), .load false 1 (.t 34), none⟩,
      ⟨(some 36), .bin .eql (.t 35) (.c (.d (.s ⟨#[]⟩))), none⟩,
      ⟨(some 2), .mv (.t 36), none⟩] [])
    (.ret)) (.skip)))))))
 (.seq (.region (some [1]) [⟨(some 37), .faddr 2 (.t 1), none⟩,
   ⟨(some 38), .load false 1 (.t 37), none⟩,
   ⟨(some 39), .bin .eql (.t 38) (.c (.d (.i .u8 4))), none⟩,
   ⟨(some 40), .mv (.t 39), none⟩,
   ⟨(some 41), .faddr 2 (.t 1), some (40, false)⟩,
   ⟨(some 42), .load false 1 (.t 41), some (40, false)⟩,
   ⟨(some 43), .bin .eql (.t 42) (.c (.d (.i .u8 5))), some (40, false)⟩,
   ⟨(some 44), .pick (.t 40) (.c (.d (.b true))) (.t 43), none⟩,
   ⟨(some 45), .mv (.t 44), none⟩,
   ⟨(some 46), .load true 6 (.t 1), some (45, true)⟩,
   ⟨(some 47), .faddr 0 (.t 1), some (45, true)⟩,
   ⟨(some 48), .load false 1 (.t 47), some (45, true)⟩,
   ⟨(some 49), .faddr 1 (.t 1), some (45, true)⟩,
   ⟨(some 50), .load false 1 (.t 49), some (45, true)⟩,
   ⟨(some 51), .faddr 2 (.t 1), some (45, true)⟩,
   ⟨(some 52), .load false 1 (.t 51), some (45, true)⟩,
   ⟨(some 53), .faddr 3 (.t 1), some (45, true)⟩,
   ⟨(some 54), .load false 1 (.t 53), some (45, true)⟩,
   ⟨(some 55), .build [.d (.i .u8 0), .d (.i .u32 0), .d (.i .u8 0), .d (.i .u8 0), .d (.i .u8 0), .d (.s ⟨#[]⟩)] [(0, 1, .t 48), (1, 1, .t 50), (2, 1, .t 52), (3, 1, .t 54)], some (45, true)⟩,
   ⟨(some 56), .eq false Pk.Opr.ety (.t 46) (.t 55), some (45, true)⟩,
   ⟨(some 57), .pick (.t 45) (.t 56) (.c (.d (.b false))), none⟩,
   ⟨(some 2), .mv (.t 57), none⟩] [])
 (.ret))))
def a_objects_IsOp : AFn := .code 1 c_objects_IsOp [.tmp 2]
set_option maxRecDepth 100000 in
theorem k_objects_IsOp : compF Try.prog h_objects_IsOp F_objects_IsOp = some a_objects_IsOp := by kernel_rfl

/-- paddock/objects.Seen -/
def h_objects_Seen : Hints := { kp := [(0, [0, 1]), (1, [2, 3, 4]), (2, [4]), (3, [2, 3, 4]), (4, [3, 4, 6]), (5, [4, 6]), (6, [4])], lkp := [], lth := [] }
def c_objects_Seen : ACode :=
 .seq (.region (some [0, 1]) [⟨(some 2), .box (.t 0), none⟩,
   ⟨(some 3), .box (.t 1), none⟩,
   ⟨(some 4), .box (.c (.d (.agg [.i .u8 0, .s ⟨#[]⟩]))), none⟩,
   ⟨(some 5), .mv (.c (.d (.b false))), none⟩] [])
 (.seq (.seq (.region (some [2, 3, 4]) [⟨(some 7), .load true 6 (.t 3), none⟩,
   ⟨(some 8), .call (.f F_objects_Writes) [.t 7], none⟩,
   ⟨(some 9), .un .not (.t 8), none⟩,
   ⟨(some 10), .mv (.t 9), none⟩,
   ⟨(some 11), .faddr 0 (.t 3), some (10, false)⟩,
   ⟨(some 12), .load false 1 (.t 11), some (10, false)⟩,
   ⟨(some 13), .bin .sub (.t 12) (.c (.d (.i .u8 1))), some (10, false)⟩,
   ⟨(some 14), .faddr 30 (.t 2), some (10, false)⟩,
   ⟨(some 15), .iaddrA 3 3 (.t 14) (.t 13), some (10, false)⟩,
   ⟨(some 16), .faddr 0 (.t 15), some (10, false)⟩,
   ⟨(some 17), .load false 1 (.t 16), some (10, false)⟩,
   ⟨(some 18), .faddr 1 (.t 3), some (10, false)⟩,
   ⟨(some 19), .load false 1 (.t 18), some (10, false)⟩,
   ⟨(some 20), .bin .lss (.t 17) (.t 19), some (10, false)⟩,
   ⟨(some 21), .pick (.t 10) (.c (.d (.b true))) (.t 20), none⟩] [(5, 12), (10, 12)])
 (.cond (.t 21) (.seq (.region (some [4]) [⟨(some 22), .build [.d (.i .u8 0), .d (.s ⟨#[]⟩)] [], none⟩,
    ⟨none, .store 2 (.t 4) (.t 22), none⟩,
    ⟨(some 5), .mv (.c (.d (.b false))), none⟩] [])
  (.ret)) (.skip)))
 (.seq (.seq (.region (some [2, 3, 4]) [⟨(some 23), .faddr 0 (.t 3), none⟩,
   ⟨(some 24), .load false 1 (.t 23), none⟩,
   ⟨(some 25), .bin .sub (.t 24) (.c (.d (.i .u8 1))), none⟩,
   ⟨(some 26), .faddr 30 (.t 2), none⟩,
   ⟨(some 27), .iaddrA 3 3 (.t 26) (.t 25), none⟩,
   ⟨(some 28), .load true 3 (.t 27), none⟩,
   ⟨(some 6), .box (.c (.d (.agg [.i .u32 0, .i .u8 0, .s ⟨#[]⟩]))), none⟩,
   ⟨none, .store 3 (.t 6) (.t 28), none⟩] [])
 (.seq (.region (some [3, 4, 6]) [⟨(some 29), .faddr 0 (.t 6), none⟩,
   ⟨(some 30), .load false 1 (.t 29), none⟩,
   ⟨(some 31), .faddr 1 (.t 3), none⟩,
   ⟨(some 32), .load false 1 (.t 31), none⟩,
   ⟨(some 33), .bin .eql (.t 30) (.t 32), none⟩] [])
 (.cond (.t 33) (.seq (.region (some [4, 6]) [⟨(some 34), .faddr 1 (.t 6), none⟩,
    ⟨(some 35), .load true 2 (.t 34), none⟩,
    ⟨none, .store 2 (.t 4) (.t 35), none⟩,
    ⟨(some 5), .mv (.c (.d (.b true))), none⟩] [])
  (.ret)) (.skip))))
 (.seq (.region (some [4]) [⟨(some 36), .build [.d (.i .u8 0), .d (.s ⟨#[]⟩)] [(0, 1, .c (.d (.i .u8 3)))], none⟩,
   ⟨none, .store 2 (.t 4) (.t 36), none⟩,
   ⟨(some 5), .mv (.c (.d (.b true))), none⟩] [])
 (.ret))))
def a_objects_Seen : AFn := .code 2 c_objects_Seen [.cell true 2 4, .tmp 5]
set_option maxRecDepth 100000 in
theorem k_objects_Seen : compF Try.prog h_objects_Seen F_objects_Seen = some a_objects_Seen := by kernel_rfl

/-- paddock/objects.does -/
def h_objects_does : Hints := { kp := [(0, [0]), (1, [0]), (2, [3]), (4, [3]), (6, [3]), (7, []), (5, []), (3, []), (8, [])], lkp := [], lth := [] }
def c_objects_does : ACode :=
 .seq (.region (some [0]) [⟨(some 2), .mv (.c (.one)), none⟩] [])
 (.seq (.seq (.region (some [0]) [⟨(some 3), .mv (.t 0), none⟩] [])
 (.block 0 (.seq (.region (some [3]) [⟨(some 5), .bin .eql (.t 3) (.c (.d (.i .u8 1))), none⟩,
    ⟨(some 4), .mv (.t 5), none⟩] [])
  (.cond (.t 4) (.seq (.region (some []) [⟨(some 2), .mv (.f F_objects_doer_write), none⟩] [])
   (.ret)) (.seq (.region (some [3]) [⟨(some 7), .bin .eql (.t 3) (.c (.d (.i .u8 2))), none⟩,
     ⟨(some 6), .mv (.t 7), none⟩] [])
   (.cond (.t 6) (.seq (.region (some []) [⟨(some 2), .mv (.f F_objects_doer_trunc), none⟩] [])
    (.ret)) (.seq (.region (some [3]) [⟨(some 9), .bin .eql (.t 3) (.c (.d (.i .u8 3))), none⟩,
      ⟨(some 8), .mv (.t 9), none⟩] [])
    (.cond (.t 8) (.seq (.region (some []) [⟨(some 2), .mv (.f F_objects_doer_attr), none⟩] [])
     (.ret)) (.skip)))))))))
 (.seq (.region (some []) [⟨(some 2), .mv (.f F_objects_doer_remove), none⟩] [])
 (.ret)))
def a_objects_does : AFn := .code 1 c_objects_does [.tmp 2]
set_option maxRecDepth 100000 in
theorem k_objects_does : compF Try.prog h_objects_does F_objects_does = some a_objects_does := by kernel_rfl

/-- paddock/paddockref6.IsOp -/
def h_paddockref6_IsOp : Hints := { kp := [(0, [0]), (1, [1]), (2, []), (3, [1]), (4, []), (5, [1])], lkp := [], lth := [] }
def c_paddockref6_IsOp : ACode :=
 .seq (.region (some [0]) [⟨(some 1), .box (.t 0), none⟩,
   ⟨(some 2), .mv (.c (.d (.b false))), none⟩] [])
 (.seq (.seq (.region (some [1]) [⟨(some 3), .faddr 0 (.t 1), none⟩,
   ⟨(some 4), .load false 1 (.t 3), none⟩,
   ⟨(some 5), .bin .lss (.t 4) (.c (.d (.i .u8 1))), none⟩,
   ⟨(some 6), .mv (.t 5), none⟩,
   ⟨(some 7), .faddr 0 (.t 1), some (6, false)⟩,
   ⟨(some 8), .load false 1 (.t 7), some (6, false)⟩,
   ⟨(some 9), .bin .gtr (.t 8) (.c (.d (.i .u8 3))), some (6, false)⟩,
   ⟨(some 10), .pick (.t 6) (.c (.d (.b true))) (.t 9), none⟩,
   ⟨(some 11), .mv (.t 10), none⟩,
   ⟨(some 12), .faddr 1 (.t 1), some (11, false)⟩,
   ⟨(some 13), .load false 1 (.t 12), some (11, false)⟩,
   ⟨(some 14), .bin .lss (.t 13) (.c (.d (.i .u32 1))), some (11, false)⟩,
   ⟨(some 15), .pick (.t 11) (.c (.d (.b true))) (.t 14), none⟩,
   ⟨(some 16), .mv (.t 15), none⟩,
   ⟨(some 17), .faddr 2 (.t 1), some (16, false)⟩,
   ⟨(some 18), .load false 1 (.t 17), some (16, false)⟩,
   ⟨(some 19), .bin .lss (.t 18) (.c (.d (.i .u8 1))), some (16, false)⟩,
   ⟨(some 20), .pick (.t 16) (.c (.d (.b true))) (.t 19), none⟩,
   ⟨(some 21), .mv (.t 20), none⟩,
   ⟨(some 22), .faddr 2 (.t 1), some (21, false)⟩,
   ⟨(some 23), .load false 1 (.t 22), some (21, false)⟩,
   ⟨(some 24), .bin .gtr (.t 23) (.c (.d (.i .u8 5))), some (21, false)⟩,
   ⟨(some 25), .pick (.t 21) (.c (.d (.b true))) (.t 24), none⟩,
   ⟨(some 26), .mv (.t 25), none⟩,
   ⟨(some 27), .faddr 3 (.t 1), some (26, false)⟩,
   ⟨(some 28), .load false 1 (.t 27), some (26, false)⟩,
   ⟨(some 29), .bin .geq (.t 28) (.c (.d (.i .u8 6))), some (26, false)⟩,
   ⟨(some 30), .pick (.t 26) (.c (.d (.b true))) (.t 29), none⟩,
   ⟨(some 31), .mv (.t 30), none⟩,
   ⟨(some 32), .faddr 5 (.t 1), some (31, false)⟩,
   ⟨(some 33), .load false 1 (.t 32), some (31, false)⟩,
   ⟨(some 34), .len true (.t 33), some (31, false)⟩,
   ⟨(some 35), .bin .gtr (.t 34) (.c (.d (.i .i64 16))), some (31, false)⟩,
   ⟨(some 36), .pick (.t 31) (.c (.d (.b true))) (.t 35), none⟩] [])
 (.cond (.t 36) (.seq (.region (some []) [⟨(some 2), .mv (.c (.d (.b false))), none⟩] [])
  (.ret)) (.skip)))
 (.seq (.seq (.region (some [1]) [⟨(some 37), .faddr 2 (.t 1), none⟩,
   ⟨(some 38), .load false 1 (.t 37), none⟩,
   ⟨(some 39), .bin .neq (.t 38) (.c (.d (.i .u8 1))), none⟩,
   ⟨(some 40), .mv (.t 39), none⟩,
   ⟨(some 41), .faddr 2 (.t 1), some (40, true)⟩,
   ⟨(some 42), .load false 1 (.t 41), some (40, true)⟩,
   ⟨(some 43), .bin .neq (.t 42) (.c (.d (.i .u8 3))), some (40, true)⟩,
   ⟨(some 44), .pick (.t 40) (.t 43) (.c (.d (.b false))), none⟩,
   ⟨(some 45), .mv (.t 44), none⟩,
   ⟨(some 46), .faddr 5 (.t 1), some (45, true)⟩,
   ⟨(some 47), .load false 1 (.t 46), some (45, true)⟩,
   ⟨(some 48), .bin .neq (.t 47) (.c (.d (.s ⟨#[]⟩))), some (45, true)⟩,
   ⟨(some 49), .pick (.t 45) (.t 48) (.c (.d (.b false))), none⟩] [])
 (.cond (.t 49) (.seq (.region (some []) [⟨(some 2), .mv (.c (.d (.b false))), none⟩] [])
  (.ret)) (.skip)))
 (.seq (.region (some [1]) [⟨(some 50), .faddr 2 (.t 1), none⟩,
   ⟨(some 51), .load false 1 (.t 50), none⟩,
   ⟨(some 52), .bin .neq (.t 51) (.c (.d (.i .u8 4))), none⟩,
   ⟨(some 53), .mv (.t 52), none⟩,
   ⟨(some 54), .faddr 2 (.t 1), some (53, true)⟩,
   ⟨(some 55), .load false 1 (.t 54), some (53, true)⟩,
   ⟨(some 56), .bin .neq (.t 55) (.c (.d (.i .u8 5))), some (53, true)⟩,
   ⟨(some 57), .pick (.t 53) (.t 56) (.c (.d (.b false))), none⟩,
   ⟨(some 58), .mv (.t 57), none⟩,
   ⟨(some 59), .faddr 4 (.t 1), some (58, false)⟩,
   ⟨(some 60), .load false 1 (.t 59), some (58, false)⟩,
   ⟨(some 61), .bin .eql (.t 60) (.c (.d (.i .u8 0))), some (58, false)⟩,
   ⟨(some 62), .pick (.t 58) (.c (.d (.b true))) (.t 61), none⟩,
   ⟨(some 2), .mv (.t 62), none⟩] [])
 (.ret))))
def a_paddockref6_IsOp : AFn := .code 1 c_paddockref6_IsOp [.tmp 2]
set_option maxRecDepth 100000 in
theorem k_paddockref6_IsOp : compF Try.prog h_paddockref6_IsOp F_paddockref6_IsOp = some a_paddockref6_IsOp := by kernel_rfl

/-- paddock/paddockref6.Do -/
def h_paddockref6_Do : Hints := { kp := [(0, [0, 1]), (1, [2, 3, 4, 5]), (2, [2, 4, 5]), (3, [2, 3, 4, 5]), (4, [2, 3, 4, 5, 6, 7]), (5, [2, 4, 5, 6]), (6, [2, 3, 4, 5]), (7, [2, 3, 4, 5, 8, 9]), (8, [2, 3, 4, 5, 9]), (9, [2, 4, 5, 9])], lkp := [], lth := [] }
def c_paddockref6_Do : ACode :=
 .seq (.region (some [0, 1]) [⟨(some 2), .box (.t 0), none⟩,
   ⟨(some 3), .box (.t 1), none⟩,
   ⟨(some 4), .box (.c (.d (.agg Pk.Base.zero.cs))), none⟩,
   ⟨(some 5), .box (.c (.d (.agg [.i .u8 0, .s ⟨#[]⟩]))), none⟩] [])
 (.seq (.seq (.region (some [2, 3, 4, 5]) [⟨(some 10), .load true 6 (.t 3), none⟩,
   ⟨(some 11), .call (.f F_paddockref6_Writes) [.t 10], none⟩,
   ⟨(some 12), .un .not (.t 11), none⟩] [])
 (.cond (.t 12) (.seq (.region (some [2, 4, 5]) [⟨(some 13), .load true 39 (.t 2), none⟩,
    ⟨(some 14), .build [.d (.i .u8 0), .d (.s ⟨#[]⟩)] [(0, 1, .c (.d (.i .u8 3)))], none⟩,
    ⟨none, .store 39 (.t 4) (.t 13), none⟩,
    ⟨none, .store 2 (.t 5) (.t 14), none⟩] [])
  (.ret)) (.skip)))
 (.seq (.region (some [2, 3, 4, 5]) [⟨(some 16), .load true 39 (.t 2), none⟩,
   ⟨(some 17), .load true 6 (.t 3), none⟩,
   ⟨(some 18), .call (.f F_paddockref6_Seen) [.t 16, .t 17], none⟩,
   ⟨(some 15), .mv (.t 18), none⟩,
   ⟨(some 19), .ext (.t 15) 0, none⟩,
   ⟨(some 20), .ext (.t 15) 1, none⟩,
   ⟨(some 6), .box (.c (.d (.agg [.i .u8 0, .s ⟨#[]⟩]))), none⟩,
   ⟨none, .store 2 (.t 6) (.t 19), none⟩,
   ⟨(some 7), .mv (.t 20), none⟩] [])
 (.seq (.seq (.region (some [2, 3, 4, 5, 6, 7]) [⟨(some 21), .mv (.t 7), none⟩] [])
 (.cond (.t 21) (.seq (.region (some [2, 4, 5, 6]) [⟨(some 22), .load true 39 (.t 2), none⟩,
    ⟨(some 23), .load true 2 (.t 6), none⟩,
    ⟨none, .store 39 (.t 4) (.t 22), none⟩,
    ⟨none, .store 2 (.t 5) (.t 23), none⟩] [(0, 1), (1, 2)])
  (.ret)) (.skip)))
 (.seq (.region (some [2, 3, 4, 5]) [⟨(some 25), .faddr 3 (.t 3), none⟩,
   ⟨(some 26), .load false 1 (.t 25), none⟩,
   ⟨(some 27), .faddr 0 (.t 2), none⟩,
   ⟨(some 28), .iaddrA 6 5 (.t 27) (.t 26), none⟩,
   ⟨(some 29), .load true 5 (.t 28), none⟩,
   ⟨(some 30), .load true 6 (.t 3), none⟩,
   ⟨(some 31), .call (.f F_paddockref6_change) [.t 29, .t 30], none⟩,
   ⟨(some 24), .mv (.t 31), none⟩,
   ⟨(some 32), .ext (.t 24) 0, none⟩,
   ⟨(some 33), .ext (.t 24) 1, none⟩,
   ⟨(some 8), .box (.c (.d (.agg [.b false, .s ⟨#[]⟩, .s ⟨#[]⟩, .s ⟨#[]⟩, .s ⟨#[]⟩]))), none⟩,
   ⟨none, .store 5 (.t 8) (.t 32), none⟩,
   ⟨(some 9), .mv (.t 33), none⟩] [(1, 5), (4, 5), (1, 10), (4, 10), (5, 10), (6, 10)])
 (.seq (.region (some [2, 3, 4, 5, 8, 9]) [⟨(some 34), .faddr 3 (.t 3), none⟩,
   ⟨(some 35), .load false 1 (.t 34), none⟩,
   ⟨(some 36), .load true 5 (.t 8), none⟩,
   ⟨(some 37), .faddr 0 (.t 2), none⟩,
   ⟨(some 38), .iaddrA 6 5 (.t 37) (.t 35), none⟩,
   ⟨none, .store 5 (.t 38) (.t 36), none⟩] [])
 (.seq (.region (some [2, 3, 4, 5, 9]) [⟨(some 39), .faddr 0 (.t 3), none⟩,
   ⟨(some 40), .load false 1 (.t 39), none⟩,
   ⟨(some 41), .bin .sub (.t 40) (.c (.d (.i .u8 1))), none⟩,
   ⟨(some 42), .faddr 1 (.t 3), none⟩,
   ⟨(some 43), .load false 1 (.t 42), none⟩,
   ⟨(some 44), .mv (.t 9), none⟩,
   ⟨(some 45), .build [.d (.i .u8 0), .d (.s ⟨#[]⟩)] [(0, 1, .t 44)], none⟩,
   ⟨(some 46), .build [.d (.i .u32 0), .d (.i .u8 0), .d (.s ⟨#[]⟩)] [(0, 1, .t 43), (1, 2, .t 45)], none⟩,
   ⟨(some 47), .faddr 30 (.t 2), none⟩,
   ⟨(some 48), .iaddrA 3 3 (.t 47) (.t 41), none⟩,
   ⟨none, .store 3 (.t 48) (.t 46), none⟩] [])
 (.seq (.region (some [2, 4, 5, 9]) [⟨(some 49), .load true 39 (.t 2), none⟩,
   ⟨(some 50), .mv (.t 9), none⟩,
   ⟨(some 51), .build [.d (.i .u8 0), .d (.s ⟨#[]⟩)] [(0, 1, .t 50)], none⟩,
   ⟨none, .store 39 (.t 4) (.t 49), none⟩,
   ⟨none, .store 2 (.t 5) (.t 51), none⟩] [])
 (.ret))))))))
def a_paddockref6_Do : AFn := .code 2 c_paddockref6_Do [.cell true 39 4, .cell true 2 5]
set_option maxRecDepth 100000 in
theorem k_paddockref6_Do : compF Try.prog h_paddockref6_Do F_paddockref6_Do = some a_paddockref6_Do := by kernel_rfl

/-- (*paddock/objects.doer).write -/
def h_objects_doer_write : Hints := { kp := [(0, [0, 1]), (1, [0, 3]), (2, [0, 3, 5]), (3, []), (4, [0, 3, 5]), (5, [0, 3, 5, 6]), (6, [0, 3, 5, 6]), (7, [])], lkp := [], lth := [] }
def c_objects_doer_write : ACode :=
 .seq (.region (some [0, 1]) [⟨(some 3), .box (.t 1), none⟩,
   ⟨(some 4), .mv (.c (.d (.i .u8 0))), none⟩] [])
 (.seq (.region (some [0, 3]) [⟨(some 7), .faddr 4 (.t 3), none⟩,
   ⟨(some 8), .load false 1 (.t 7), none⟩,
   ⟨(some 9), .conv .i64 (.t 8), none⟩,
   ⟨(some 10), .faddr 5 (.t 3), none⟩,
   ⟨(some 11), .load false 1 (.t 10), none⟩,
   ⟨(some 12), .len true (.t 11), none⟩,
   ⟨(some 13), .bin .add (.t 9) (.t 12), none⟩,
   ⟨(some 5), .mv (.t 13), none⟩] [])
 (.seq (.seq (.region (some [0, 3, 5]) [⟨(some 14), .mv (.t 5), none⟩,
   ⟨(some 15), .bin .gtr (.t 14) (.c (.d (.i .i64 16))), none⟩] [])
 (.cond (.t 15) (.seq (.region (some []) [⟨(some 4), .mv (.c (.d (.i .u8 2))), none⟩] [])
  (.ret)) (.skip)))
 (.seq (.region (some [0, 3, 5]) [⟨(some 16), .mv (.t 0), none⟩,
   ⟨(some 17), .nilck (.t 16), none⟩,
   ⟨(some 18), .faddr 0 (.t 17), none⟩,
   ⟨(some 19), .faddr 1 (.t 18), none⟩,
   ⟨(some 20), .load false 1 (.t 19), none⟩,
   ⟨(some 21), .mv (.t 5), none⟩,
   ⟨(some 22), .call (.f F_objects_grown) [.t 20, .t 21], none⟩,
   ⟨(some 6), .mv (.t 22), none⟩] [])
 (.seq (.region (some [0, 3, 5, 6]) [⟨(some 23), .mv (.t 0), none⟩,
   ⟨(some 24), .nilck (.t 23), none⟩,
   ⟨(some 25), .faddr 0 (.t 24), none⟩,
   ⟨(some 26), .faddr 0 (.t 25), none⟩,
   ⟨none, .store 1 (.t 26) (.c (.d (.b true))), none⟩] [])
 (.seq (.region (some [0, 3, 5, 6]) [⟨(some 27), .mv (.t 0), none⟩,
   ⟨(some 28), .mv (.t 6), none⟩,
   ⟨(some 29), .faddr 4 (.t 3), none⟩,
   ⟨(some 30), .load false 1 (.t 29), none⟩,
   ⟨(some 31), .slice 0 (.t 28) none (some (.t 30)) none, none⟩,
   ⟨(some 32), .faddr 5 (.t 3), none⟩,
   ⟨(some 33), .load false 1 (.t 32), none⟩,
   ⟨(some 34), .bin .add (.t 31) (.t 33), none⟩,
   ⟨(some 35), .mv (.t 6), none⟩,
   ⟨(some 36), .mv (.t 5), none⟩,
   ⟨(some 37), .slice 0 (.t 35) (some (.t 36)) none none, none⟩,
   ⟨(some 38), .bin .add (.t 34) (.t 37), none⟩,
   ⟨(some 39), .nilck (.t 27), none⟩,
   ⟨(some 40), .faddr 0 (.t 39), none⟩,
   ⟨(some 41), .faddr 1 (.t 40), none⟩,
   ⟨none, .store 1 (.t 41) (.t 38), none⟩] [(3, 6)])
 (.seq (.region (some []) [⟨(some 4), .mv (.c (.d (.i .u8 0))), none⟩] [])
 (.ret)))))))
def a_objects_doer_write : AFn := .code 2 c_objects_doer_write [.tmp 4]
set_option maxRecDepth 100000 in
theorem k_objects_doer_write : compF Try.prog h_objects_doer_write F_objects_doer_write = some a_objects_doer_write := by kernel_rfl

/-- (*paddock/objects.doer).trunc -/
def h_objects_doer_trunc : Hints := { kp := [(0, [0, 1]), (1, [0, 3]), (3, [0, 3]), (4, []), (2, []), (5, [0, 3]), (6, [])], lkp := [], lth := [] }
def c_objects_doer_trunc : ACode :=
 .seq (.region (some [0, 1]) [⟨(some 3), .box (.t 1), none⟩,
   ⟨(some 4), .mv (.c (.d (.i .u8 0))), none⟩] [])
 (.seq (.block 0 (.seq (.region (some [0, 3]) [⟨(some 6), .mv (.t 0), none⟩,
    ⟨(some 7), .nilck (.t 6), none⟩,
    ⟨(some 8), .faddr 0 (.t 7), none⟩,
    ⟨(some 9), .faddr 0 (.t 8), none⟩,
    ⟨(some 10), .load false 1 (.t 9), none⟩,
    ⟨(some 11), .un .not (.t 10), none⟩,
    ⟨(some 5), .mv (.t 11), none⟩] [])
  (.cond (.t 5) (.seq (.region (some []) [⟨(some 4), .mv (.c (.d (.i .u8 1))), none⟩] [])
   (.ret)) (.seq (.region (some [0, 3]) [⟨(some 13), .faddr 4 (.t 3), none⟩,
     ⟨(some 14), .load false 1 (.t 13), none⟩,
     ⟨(some 15), .bin .gtr (.t 14) (.c (.d (.i .u8 16))), none⟩,
     ⟨(some 12), .mv (.t 15), none⟩] [])
   (.cond (.t 12) (.seq (.region (some []) [⟨(some 4), .mv (.c (.d (.i .u8 2))), none⟩] [])
    (.ret)) (.skip))))))
 (.seq (.region (some [0, 3]) [⟨(some 16), .mv (.t 0), none⟩,
   ⟨(some 17), .mv (.t 0), none⟩,
   ⟨(some 18), .nilck (.t 17), none⟩,
   ⟨(some 19), .faddr 0 (.t 18), none⟩,
   ⟨(some 20), .faddr 1 (.t 19), none⟩,
   ⟨(some 21), .load false 1 (.t 20), none⟩,
   ⟨(some 22), .faddr 4 (.t 3), none⟩,
   ⟨(some 23), .load false 1 (.t 22), none⟩,
   ⟨(some 24), .conv .i64 (.t 23), none⟩,
   ⟨(some 25), .call (.f F_objects_grown) [.t 21, .t 24], none⟩,
   ⟨(some 26), .faddr 4 (.t 3), none⟩,
   ⟨(some 27), .load false 1 (.t 26), none⟩,
   ⟨(some 28), .slice 0 (.t 25) none (some (.t 27)) none, none⟩,
   ⟨(some 29), .nilck (.t 16), none⟩,
   ⟨(some 30), .faddr 0 (.t 29), none⟩,
   ⟨(some 31), .faddr 1 (.t 30), none⟩,
   ⟨none, .store 1 (.t 31) (.t 28), none⟩] [(5, 7), (5, 11), (7, 11), (9, 11)])
 (.seq (.region (some []) [⟨(some 4), .mv (.c (.d (.i .u8 0))), none⟩] [])
 (.ret))))
def a_objects_doer_trunc : AFn := .code 2 c_objects_doer_trunc [.tmp 4]
set_option maxRecDepth 100000 in
theorem k_objects_doer_trunc : compF Try.prog h_objects_doer_trunc F_objects_doer_trunc = some a_objects_doer_trunc := by kernel_rfl

/-- (*paddock/objects.doer).attr -/
def h_objects_doer_attr : Hints := { kp := [(0, [0, 1]), (1, [0, 3]), (3, [0, 3]), (4, []), (2, []), (5, [0, 3]), (6, [])], lkp := [], lth := [] }
def c_objects_doer_attr : ACode :=
 .seq (.region (some [0, 1]) [⟨(some 3), .box (.t 1), none⟩,
   ⟨(some 4), .mv (.c (.d (.i .u8 0))), none⟩] [])
 (.seq (.block 0 (.seq (.region (some [0, 3]) [⟨(some 6), .faddr 4 (.t 3), none⟩,
    ⟨(some 7), .load false 1 (.t 6), none⟩,
    ⟨(some 8), .bin .geq (.t 7) (.c (.d (.i .u8 3))), none⟩,
    ⟨(some 5), .mv (.t 8), none⟩] [])
  (.cond (.t 5) (.seq (.region (some []) [⟨(some 4), .mv (.c (.d (.i .u8 3))), none⟩] [])
   (.ret)) (.seq (.region (some [0, 3]) [⟨(some 10), .mv (.t 0), none⟩,
     ⟨(some 11), .nilck (.t 10), none⟩,
     ⟨(some 12), .faddr 0 (.t 11), none⟩,
     ⟨(some 13), .faddr 0 (.t 12), none⟩,
     ⟨(some 14), .load false 1 (.t 13), none⟩,
     ⟨(some 15), .un .not (.t 14), none⟩,
     ⟨(some 9), .mv (.t 15), none⟩] [])
   (.cond (.t 9) (.seq (.region (some []) [⟨(some 4), .mv (.c (.d (.i .u8 1))), none⟩] [])
    (.ret)) (.skip))))))
 (.seq (.region (some [0, 3]) [⟨(some 16), .mv (.t 0), none⟩,
   ⟨(some 17), .faddr 4 (.t 3), none⟩,
   ⟨(some 18), .load false 1 (.t 17), none⟩,
   ⟨(some 19), .faddr 5 (.t 3), none⟩,
   ⟨(some 20), .load false 1 (.t 19), none⟩,
   ⟨(some 21), .nilck (.t 16), none⟩,
   ⟨(some 22), .faddr 0 (.t 21), none⟩,
   ⟨(some 23), .faddr 2 (.t 22), none⟩,
   ⟨(some 24), .iaddrA 3 1 (.t 23) (.t 18), none⟩,
   ⟨none, .store 1 (.t 24) (.t 20), none⟩] [(2, 4)])
 (.seq (.region (some []) [⟨(some 4), .mv (.c (.d (.i .u8 0))), none⟩] [])
 (.ret))))
def a_objects_doer_attr : AFn := .code 2 c_objects_doer_attr [.tmp 4]
set_option maxRecDepth 100000 in
theorem k_objects_doer_attr : compF Try.prog h_objects_doer_attr F_objects_doer_attr = some a_objects_doer_attr := by kernel_rfl

/-- (*paddock/objects.doer).remove -/
def h_objects_doer_remove : Hints := { kp := [(0, [0, 1]), (1, [0]), (2, []), (3, [0]), (4, [])], lkp := [], lth := [] }
def c_objects_doer_remove : ACode :=
 .seq (.region (some [0, 1]) [⟨(some 3), .box (.t 1), none⟩,
   ⟨(some 4), .mv (.c (.d (.i .u8 0))), none⟩] [])
 (.seq (.seq (.region (some [0]) [⟨(some 5), .mv (.t 0), none⟩,
   ⟨(some 6), .nilck (.t 5), none⟩,
   ⟨(some 7), .faddr 0 (.t 6), none⟩,
   ⟨(some 8), .faddr 0 (.t 7), none⟩,
   ⟨(some 9), .load false 1 (.t 8), none⟩,
   ⟨(some 10), .un .not (.t 9), none⟩] [])
 (.cond (.t 10) (.seq (.region (some []) [⟨(some 4), .mv (.c (.d (.i .u8 1))), none⟩] [])
  (.ret)) (.skip)))
 (.seq (.region (some [0]) [⟨(some 11), .mv (.t 0), none⟩,
   ⟨(some 12), .build [.d (.b false), .d (.s ⟨#[]⟩), .d (.s ⟨#[]⟩), .d (.s ⟨#[]⟩), .d (.s ⟨#[]⟩)] [], none⟩,
   ⟨(some 13), .nilck (.t 11), none⟩,
   ⟨(some 14), .faddr 0 (.t 13), none⟩,
   ⟨none, .store 5 (.t 14) (.t 12), none⟩] [])
 (.seq (.region (some []) [⟨(some 4), .mv (.c (.d (.i .u8 0))), none⟩] [])
 (.ret))))
def a_objects_doer_remove : AFn := .code 2 c_objects_doer_remove [.tmp 4]
set_option maxRecDepth 100000 in
theorem k_objects_doer_remove : compF Try.prog h_objects_doer_remove F_objects_doer_remove = some a_objects_doer_remove := by kernel_rfl

/-- paddock/paddockref6.Seen -/
def h_paddockref6_Seen : Hints := { kp := [(0, [0, 1]), (1, [2, 3, 4]), (2, [4]), (3, [2, 3, 4]), (4, [3, 4, 6]), (6, [3, 4, 6]), (7, [4, 6]), (5, [4]), (8, [4])], lkp := [], lth := [] }
def c_paddockref6_Seen : ACode :=
 .seq (.region (some [0, 1]) [⟨(some 2), .box (.t 0), none⟩,
   ⟨(some 3), .box (.t 1), none⟩,
   ⟨(some 4), .box (.c (.d (.agg [.i .u8 0, .s ⟨#[]⟩]))), none⟩,
   ⟨(some 5), .mv (.c (.d (.b false))), none⟩] [])
 (.seq (.seq (.region (some [2, 3, 4]) [⟨(some 7), .load true 6 (.t 3), none⟩,
   ⟨(some 8), .call (.f F_paddockref6_Writes) [.t 7], none⟩,
   ⟨(some 9), .un .not (.t 8), none⟩] [])
 (.cond (.t 9) (.seq (.region (some [4]) [⟨(some 10), .build [.d (.i .u8 0), .d (.s ⟨#[]⟩)] [], none⟩,
    ⟨none, .store 2 (.t 4) (.t 10), none⟩,
    ⟨(some 5), .mv (.c (.d (.b false))), none⟩] [])
  (.ret)) (.skip)))
 (.seq (.region (some [2, 3, 4]) [⟨(some 11), .faddr 0 (.t 3), none⟩,
   ⟨(some 12), .load false 1 (.t 11), none⟩,
   ⟨(some 13), .bin .sub (.t 12) (.c (.d (.i .u8 1))), none⟩,
   ⟨(some 14), .faddr 30 (.t 2), none⟩,
   ⟨(some 15), .iaddrA 3 3 (.t 14) (.t 13), none⟩,
   ⟨(some 16), .load true 3 (.t 15), none⟩,
   ⟨(some 6), .box (.c (.d (.agg [.i .u32 0, .i .u8 0, .s ⟨#[]⟩]))), none⟩,
   ⟨none, .store 3 (.t 6) (.t 16), none⟩] [])
 (.seq (.block 0 (.seq (.region (some [3, 4, 6]) [⟨(some 18), .faddr 0 (.t 6), none⟩,
    ⟨(some 19), .load false 1 (.t 18), none⟩,
    ⟨(some 20), .faddr 1 (.t 3), none⟩,
    ⟨(some 21), .load false 1 (.t 20), none⟩,
    ⟨(some 22), .bin .lss (.t 19) (.t 21), none⟩,
    ⟨(some 17), .mv (.t 22), none⟩] [])
  (.cond (.t 17) (.seq (.region (some [4]) [⟨(some 23), .build [.d (.i .u8 0), .d (.s ⟨#[]⟩)] [], none⟩,
     ⟨none, .store 2 (.t 4) (.t 23), none⟩,
     ⟨(some 5), .mv (.c (.d (.b false))), none⟩] [])
   (.ret)) (.seq (.region (some [3, 4, 6]) [⟨(some 25), .faddr 0 (.t 6), none⟩,
     ⟨(some 26), .load false 1 (.t 25), none⟩,
     ⟨(some 27), .faddr 1 (.t 3), none⟩,
     ⟨(some 28), .load false 1 (.t 27), none⟩,
     ⟨(some 29), .bin .eql (.t 26) (.t 28), none⟩,
     ⟨(some 24), .mv (.t 29), none⟩] [])
   (.cond (.t 24) (.seq (.region (some [4, 6]) [⟨(some 30), .faddr 1 (.t 6), none⟩,
      ⟨(some 31), .load true 2 (.t 30), none⟩,
      ⟨none, .store 2 (.t 4) (.t 31), none⟩,
      ⟨(some 5), .mv (.c (.d (.b true))), none⟩] [])
    (.ret)) (.skip))))))
 (.seq (.region (some [4]) [⟨(some 32), .build [.d (.i .u8 0), .d (.s ⟨#[]⟩)] [(0, 1, .c (.d (.i .u8 3)))], none⟩,
   ⟨none, .store 2 (.t 4) (.t 32), none⟩,
   ⟨(some 5), .mv (.c (.d (.b true))), none⟩] [])
 (.ret)))))
def a_paddockref6_Seen : AFn := .code 2 c_paddockref6_Seen [.cell true 2 4, .tmp 5]
set_option maxRecDepth 100000 in
theorem k_paddockref6_Seen : compF Try.prog h_paddockref6_Seen F_paddockref6_Seen = some a_paddockref6_Seen := by kernel_rfl

/-- paddock/paddockref6.change -/
def h_paddockref6_change : Hints := { kp := [(0, [0, 1]), (1, [2, 3, 4]), (2, [2, 3, 4, 6]), (6, [2, 3, 4, 6, 13]), (16, [2, 3, 4, 6, 13]), (24, [2, 3, 4, 6, 13]), (3, [2, 4]), (4, [2, 4]), (5, [2, 4]), (25, [2, 3, 4, 6]), (26, [2, 4]), (27, [2, 3, 4, 6]), (28, [2, 4]), (29, [2, 3, 4, 6]), (17, [2, 4, 6]), (18, [2, 4]), (19, [2, 4, 6]), (20, [2, 4]), (21, [2, 4, 6]), (22, [2, 4, 6]), (23, [2, 4, 6]), (7, [2, 3, 4, 6]), (8, [2, 4]), (9, [2, 3, 4, 6]), (10, [2, 3, 4, 6, 7]), (11, [2, 3, 4, 6, 7]), (12, [2, 3, 4, 6, 7]), (13, [2, 3, 4, 6, 7, 8]), (14, [2, 3, 4, 6, 7]), (15, [2, 3, 4, 6, 7, 8]), (30, [2, 4])], lkp := [], lth := [] }
def c_paddockref6_change : ACode :=
 .seq (.region (some [0, 1]) [⟨(some 2), .box (.t 0), none⟩,
   ⟨(some 3), .box (.t 1), none⟩,
   ⟨(some 4), .box (.c (.d (.agg [.b false, .s ⟨#[]⟩, .s ⟨#[]⟩, .s ⟨#[]⟩, .s ⟨#[]⟩]))), none⟩,
   ⟨(some 5), .mv (.c (.d (.i .u8 0))), none⟩] [])
 (.seq (.region (some [2, 3, 4]) [⟨(some 9), .faddr 4 (.t 3), none⟩,
   ⟨(some 10), .load false 1 (.t 9), none⟩,
   ⟨(some 11), .conv .i64 (.t 10), none⟩,
   ⟨(some 6), .mv (.t 11), none⟩] [])
 (.seq (.seq (.region (some [2, 3, 4, 6]) [⟨(some 12), .faddr 2 (.t 3), none⟩,
   ⟨(some 13), .load false 1 (.t 12), none⟩] [])
 (.block 0 (.seq (.region (some [2, 3, 4, 6, 13]) [⟨(some 20), .bin .eql (.t 13) (.c (.d (.i .u8 1))), none⟩,
    ⟨(some 19), .mv (.t 20), none⟩] [])
  (.cond (.t 19) (.seq (.seq (.region (some [2, 3, 4, 6]) [⟨(some 21), .mv (.t 6), none⟩,
     ⟨(some 22), .faddr 5 (.t 3), none⟩,
     ⟨(some 23), .load false 1 (.t 22), none⟩,
     ⟨(some 24), .len true (.t 23), none⟩,
     ⟨(some 25), .bin .add (.t 21) (.t 24), none⟩,
     ⟨(some 26), .bin .gtr (.t 25) (.c (.d (.i .i64 16))), none⟩] [])
   (.cond (.t 26) (.seq (.region (some [2, 4]) [⟨(some 27), .load true 5 (.t 2), none⟩,
      ⟨none, .store 5 (.t 4) (.t 27), none⟩,
      ⟨(some 5), .mv (.c (.d (.i .u8 2))), none⟩] [])
    (.ret)) (.skip)))
   (.seq (.region (some [2, 3, 4, 6]) [⟨(some 28), .faddr 1 (.t 2), none⟩,
     ⟨(some 29), .load false 1 (.t 28), none⟩,
     ⟨(some 7), .mv (.t 29), none⟩] [])
   (.seq (.seq (.region (some [2, 3, 4, 6, 7]) [⟨(some 30), .mv (.t 7), none⟩,
     ⟨(some 31), .len true (.t 30), none⟩,
     ⟨(some 32), .mv (.t 6), none⟩,
     ⟨(some 33), .bin .lss (.t 31) (.t 32), none⟩] [])
   (.cond (.t 33) (.region (some [2, 3, 4, 6, 7]) [⟨(some 34), .mv (.t 7), none⟩,
      ⟨(some 35), .mv (.t 6), none⟩,
      ⟨(some 36), .mv (.t 7), none⟩,
      ⟨(some 37), .len true (.t 36), none⟩,
      ⟨(some 38), .bin .sub (.t 35) (.t 37), none⟩,
      ⟨(some 39), .call (.f F_paddockref6_noughts) [.t 38], none⟩,
      ⟨(some 40), .bin .add (.t 34) (.t 39), none⟩,
      ⟨(some 7), .mv (.t 40), none⟩] []) (.skip)))
   (.seq (.region (some [2, 3, 4, 6, 7]) [⟨(some 8), .mv (.c (.d (.s ⟨#[]⟩))), none⟩] [])
   (.seq (.seq (.region (some [2, 3, 4, 6, 7, 8]) [⟨(some 41), .mv (.t 7), none⟩,
     ⟨(some 42), .len true (.t 41), none⟩,
     ⟨(some 43), .mv (.t 6), none⟩,
     ⟨(some 44), .faddr 5 (.t 3), none⟩,
     ⟨(some 45), .load false 1 (.t 44), none⟩,
     ⟨(some 46), .len true (.t 45), none⟩,
     ⟨(some 47), .bin .add (.t 43) (.t 46), none⟩,
     ⟨(some 48), .bin .gtr (.t 42) (.t 47), none⟩] [])
   (.cond (.t 48) (.region (some [2, 3, 4, 6, 7]) [⟨(some 49), .mv (.t 7), none⟩,
      ⟨(some 50), .mv (.t 6), none⟩,
      ⟨(some 51), .faddr 5 (.t 3), none⟩,
      ⟨(some 52), .load false 1 (.t 51), none⟩,
      ⟨(some 53), .len true (.t 52), none⟩,
      ⟨(some 54), .bin .add (.t 50) (.t 53), none⟩,
      ⟨(some 55), .slice 0 (.t 49) (some (.t 54)) none none, none⟩,
      ⟨(some 8), .mv (.t 55), none⟩] []) (.skip)))
   (.region (some [2, 3, 4, 6, 7, 8]) [⟨(some 56), .mv (.t 7), none⟩,
     ⟨(some 57), .mv (.t 6), none⟩,
     ⟨(some 58), .slice 0 (.t 56) none (some (.t 57)) none, none⟩,
     ⟨(some 59), .faddr 5 (.t 3), none⟩,
     ⟨(some 60), .load false 1 (.t 59), none⟩,
     ⟨(some 61), .bin .add (.t 58) (.t 60), none⟩,
     ⟨(some 62), .mv (.t 8), none⟩,
     ⟨(some 63), .bin .add (.t 61) (.t 62), none⟩,
     ⟨(some 64), .faddr 0 (.t 2), none⟩,
     ⟨none, .store 1 (.t 64) (.c (.d (.b true))), none⟩,
     ⟨(some 65), .faddr 1 (.t 2), none⟩,
     ⟨none, .store 1 (.t 65) (.t 63), none⟩] [(4, 9)])))))) (.seq (.region (some [2, 3, 4, 6, 13]) [⟨(some 67), .bin .eql (.t 13) (.c (.d (.i .u8 2))), none⟩,
     ⟨(some 66), .mv (.t 67), none⟩] [])
   (.cond (.t 66) (.seq (.seq (.region (some [2, 4, 6]) [⟨(some 68), .faddr 0 (.t 2), none⟩,
      ⟨(some 69), .load false 1 (.t 68), none⟩,
      ⟨(some 70), .un .not (.t 69), none⟩] [])
    (.cond (.t 70) (.seq (.region (some [2, 4]) [⟨(some 71), .load true 5 (.t 2), none⟩,
       ⟨none, .store 5 (.t 4) (.t 71), none⟩,
       ⟨(some 5), .mv (.c (.d (.i .u8 1))), none⟩] [])
     (.ret)) (.skip)))
    (.seq (.seq (.region (some [2, 4, 6]) [⟨(some 72), .mv (.t 6), none⟩,
      ⟨(some 73), .bin .gtr (.t 72) (.c (.d (.i .i64 16))), none⟩] [])
    (.cond (.t 73) (.seq (.region (some [2, 4]) [⟨(some 74), .load true 5 (.t 2), none⟩,
       ⟨none, .store 5 (.t 4) (.t 74), none⟩,
       ⟨(some 5), .mv (.c (.d (.i .u8 2))), none⟩] [])
     (.ret)) (.skip)))
    (.seq (.seq (.region (some [2, 4, 6]) [⟨(some 75), .faddr 1 (.t 2), none⟩,
      ⟨(some 76), .load false 1 (.t 75), none⟩,
      ⟨(some 77), .len true (.t 76), none⟩,
      ⟨(some 78), .mv (.t 6), none⟩,
      ⟨(some 79), .bin .lss (.t 77) (.t 78), none⟩] [])
    (.cond (.t 79) (.region (some [2, 4, 6]) [⟨(some 80), .faddr 1 (.t 2), none⟩,
       ⟨(some 81), .load false 1 (.t 80), none⟩,
       ⟨(some 82), .mv (.t 6), none⟩,
       ⟨(some 83), .faddr 1 (.t 2), none⟩,
       ⟨(some 84), .load false 1 (.t 83), none⟩,
       ⟨(some 85), .len true (.t 84), none⟩,
       ⟨(some 86), .bin .sub (.t 82) (.t 85), none⟩,
       ⟨(some 87), .call (.f F_paddockref6_noughts) [.t 86], none⟩,
       ⟨(some 88), .bin .add (.t 81) (.t 87), none⟩,
       ⟨(some 89), .faddr 1 (.t 2), none⟩,
       ⟨none, .store 1 (.t 89) (.t 88), none⟩] [(1, 4), (1, 7)]) (.skip)))
    (.region (some [2, 4, 6]) [⟨(some 90), .faddr 1 (.t 2), none⟩,
      ⟨(some 91), .load false 1 (.t 90), none⟩,
      ⟨(some 92), .mv (.t 6), none⟩,
      ⟨(some 93), .slice 0 (.t 91) none (some (.t 92)) none, none⟩,
      ⟨(some 94), .faddr 1 (.t 2), none⟩,
      ⟨none, .store 1 (.t 94) (.t 93), none⟩] [])))) (.seq (.region (some [2, 3, 4, 6, 13]) [⟨(some 96), .bin .eql (.t 13) (.c (.d (.i .u8 3))), none⟩,
      ⟨(some 95), .mv (.t 96), none⟩] [])
    (.cond (.t 95) (.seq (.seq (.region (some [2, 3, 4, 6]) [⟨(some 97), .mv (.t 6), none⟩,
       ⟨(some 98), .bin .geq (.t 97) (.c (.d (.i .i64 3))), none⟩] [])
     (.cond (.t 98) (.seq (.region (some [2, 4]) [⟨(some 99), .load true 5 (.t 2), none⟩,
        ⟨none, .store 5 (.t 4) (.t 99), none⟩,
        ⟨(some 5), .mv (.c (.d (.i .u8 3))), none⟩] [])
      (.ret)) (.skip)))
     (.seq (.seq (.region (some [2, 3, 4, 6]) [⟨(some 100), .faddr 0 (.t 2), none⟩,
       ⟨(some 101), .load false 1 (.t 100), none⟩,
       ⟨(some 102), .un .not (.t 101), none⟩] [])
     (.cond (.t 102) (.seq (.region (some [2, 4]) [⟨(some 103), .load true 5 (.t 2), none⟩,
        ⟨none, .store 5 (.t 4) (.t 103), none⟩,
        ⟨(some 5), .mv (.c (.d (.i .u8 1))), none⟩] [])
      (.ret)) (.skip)))
     (.region (some [2, 3, 4, 6]) [⟨(some 104), .mv (.t 6), none⟩,
       ⟨(some 105), .faddr 5 (.t 3), none⟩,
       ⟨(some 106), .load false 1 (.t 105), none⟩,
       ⟨(some 107), .faddr 2 (.t 2), none⟩,
       ⟨(some 108), .iaddrA 3 1 (.t 107) (.t 104), none⟩,
       ⟨none, .store 1 (.t 108) (.t 106), none⟩] []))) (.seq (.seq (.region (some [2, 4]) [⟨(some 14), .faddr 0 (.t 2), none⟩,
       ⟨(some 15), .load false 1 (.t 14), none⟩,
       ⟨(some 16), .un .not (.t 15), none⟩] [])
     (.cond (.t 16) (.seq (.region (some [2, 4]) [⟨(some 17), .load true 5 (.t 2), none⟩,
        ⟨none, .store 5 (.t 4) (.t 17), none⟩,
        ⟨(some 5), .mv (.c (.d (.i .u8 1))), none⟩] [])
      (.ret)) (.skip)))
     (.region (some [2, 4]) [⟨(some 18), .build [.d (.b false), .d (.s ⟨#[]⟩), .d (.s ⟨#[]⟩), .d (.s ⟨#[]⟩), .d (.s ⟨#[]⟩)] [], none⟩,
       ⟨none, .store 5 (.t 2) (.t 18), none⟩] []))))))))))
 (.seq (.region (some [2, 4]) [⟨(some 109), .load true 5 (.t 2), none⟩,
   ⟨none, .store 5 (.t 4) (.t 109), none⟩,
   ⟨(some 5), .mv (.c (.d (.i .u8 0))), none⟩] [])
 (.ret))))
def a_paddockref6_change : AFn := .code 2 c_paddockref6_change [.cell true 5 4, .tmp 5]
set_option maxRecDepth 100000 in
theorem k_paddockref6_change : compF Try.prog h_paddockref6_change F_paddockref6_change = some a_paddockref6_change := by kernel_rfl

/-- paddock/objects.grown -/
def h_objects_grown : Hints := { kp := [(0, [0, 1]), (1, [0, 1])], lkp := [], lth := [] }
def c_objects_grown : ACode :=
 .seq (.region (some [0, 1]) [⟨(some 4), .mv (.c (.d (.s ⟨#[]⟩))), none⟩] [])
 (.seq (.region (some [0, 1]) [⟨(some 5), .mv (.t 0), none⟩,
   ⟨(some 6), .mv (.t 1), none⟩,
   ⟨(some 7), .mv (.t 0), none⟩,
   ⟨(some 8), .len true (.t 7), none⟩,
   ⟨(some 9), .bin .sub (.t 6) (.t 8), none⟩,
   ⟨(some 10), .mm true [.t 9, .c (.d (.i .i64 0))], none⟩,
   ⟨(some 11), .call (.f F_strings_Repeat) [.c (.d (.s ⟨#[0]⟩)), .t 10], none⟩,
   ⟨(some 12), .bin .add (.t 5) (.t 11), none⟩,
   ⟨(some 4), .mv (.t 12), none⟩] [])
 (.ret))
def a_objects_grown : AFn := .code 2 c_objects_grown [.tmp 4]
set_option maxRecDepth 100000 in
theorem k_objects_grown : compF Try.prog h_objects_grown F_objects_grown = some a_objects_grown := by kernel_rfl

/-- paddock/paddockref6.noughts -/
def h_paddockref6_noughts : Hints := { kp := [(0, [0]), (1, [0]), (2, [0, 3]), (3, [0, 3, 4]), (5, [0, 3, 4]), (4, [0, 3, 4]), (6, [3])], lkp := [(3, [0, 3, 4])], lth := [] }
def K_paddockref6_noughts_0 : Option (List Nat) := (some [0, 3, 4])
def l_paddockref6_noughts_0 : ACode :=
 .seq (.seq (.region (some [0, 3, 4]) [⟨(some 5), .mv (.t 4), none⟩,
   ⟨(some 6), .mv (.t 0), none⟩,
   ⟨(some 7), .bin .lss (.t 5) (.t 6), none⟩] [])
 (.cond (.t 7) (.skip) (.exit 0)))
 (.seq (.block 1 (.region (some [0, 3, 4]) [⟨(some 10), .mv (.t 3), none⟩,
    ⟨(some 11), .bin .add (.t 10) (.c (.d (.s ⟨#[0]⟩))), none⟩,
    ⟨(some 3), .mv (.t 11), none⟩] []))
 (.region (some [0, 3, 4]) [⟨(some 8), .mv (.t 4), none⟩,
   ⟨(some 9), .bin .add (.t 8) (.c (.d (.i .i64 1))), none⟩,
   ⟨(some 4), .mv (.t 9), none⟩] []))
def c_paddockref6_noughts : ACode :=
 .seq (.region (some [0]) [⟨(some 2), .mv (.c (.d (.s ⟨#[]⟩))), none⟩] [])
 (.seq (.region (some [0]) [⟨(some 3), .mv (.c (.d (.s ⟨#[]⟩))), none⟩] [])
 (.seq (.seq (.region (some [0, 3]) [⟨(some 4), .mv (.c (.d (.i .i64 0))), none⟩] [])
 (.block 0 (.loop K_paddockref6_noughts_0 [] l_paddockref6_noughts_0)))
 (.seq (.region (some [3]) [⟨(some 12), .mv (.t 3), none⟩,
   ⟨(some 2), .mv (.t 12), none⟩] [])
 (.ret))))
def a_paddockref6_noughts : AFn := .code 1 c_paddockref6_noughts [.tmp 2]
set_option maxRecDepth 100000 in
theorem k_paddockref6_noughts : compF Try.prog h_paddockref6_noughts F_paddockref6_noughts = some a_paddockref6_noughts := by kernel_rfl

noncomputable def C : FuncId → Option AFn
  | 3 => some a_paddocklaw8_MergeOnly
  | 4 => some a_paddocklaw8_MergeRewinds
  | 5 => some a_paddocklaw8_MergeRefuses
  | 6 => some a_paddocklaw8_MergeSteps
  | 7 => some a_paddocklaw8_MergeTells
  | 8 => some a_paddocklaw8_MergeBack
  | 9 => some a_paddocklaw8_MergeSelf
  | 10 => some a_paddocklaw8_known
  | 11 => some a_paddocklaw8_state
  | 12 => some a_pglog_Head
  | 13 => some a_pglog_Add
  | 14 => some a_merge_Make
  | 15 => some a_merge_Apply
  | 16 => some a_pglog_Same
  | 17 => some a_merge_Extends
  | 18 => some a_paddocklaw8_tops
  | 19 => some a_paddocklaw8_few
  | 20 => some a_paddockref8_Make
  | 21 => some a_paddockref8_Apply
  | 22 => some a_paddocklaw8_same
  | 23 => some a_paddockref6_Same
  | 24 => some a_paddockref8_Extends
  | 25 => some a_merge_Bytes
  | 26 => some a_paddockref8_Bytes
  | 27 => some a_pglog_Tail
  | 28 => some a_pglog_Is
  | 29 => some a_pglog_last
  | 30 => some a_pglog_next
  | 31 => some (.ext (Pk.cloneX 8))
  | 32 => some a_pglog_folded
  | 33 => some a_merge_head
  | 34 => some a_merge_stands
  | 35 => some a_pglog_Copy
  | 36 => some a_merge_common
  | 37 => some a_merge_Apply_1
  | 38 => some a_pglog_Cut
  | 39 => some a_merge_added
  | 40 => some a_slices_Equal_sapi_Entry_api_Entry
  | 41 => some a_paddockref6_Is
  | 42 => some a_paddockref8_shared
  | 43 => some a_paddockref6_Find
  | 44 => some a_paddockref6_Cut
  | 45 => some a_paddockref6_Add
  | 46 => some a_paddockref6_Tail
  | 47 => some a_paddockref6_Head
  | 48 => some a_pglog_place
  | 49 => some a_pglog_base
  | 50 => some a_objects_Writes
  | 51 => some a_objects_Do
  | 52 => some a_pglog_Find
  | 53 => some a_pglog_Upto
  | 54 => some a_paddockref6_isBase
  | 55 => some a_paddockref6_Writes
  | 56 => some a_paddockref6_Upto
  | 57 => some a_paddockref6_pop
  | 58 => some a_pglog_object
  | 59 => some a_objects_IsOp
  | 60 => some a_objects_Seen
  | 61 => some a_objects_does
  | 62 => some a_paddockref6_IsOp
  | 63 => some a_paddockref6_Do
  | 64 => some a_objects_doer_write
  | 65 => some a_objects_doer_trunc
  | 66 => some a_objects_doer_attr
  | 67 => some a_objects_doer_remove
  | 68 => some a_paddockref6_Seen
  | 69 => some a_paddockref6_change
  | 70 => some a_objects_grown
  | 71 => some a_paddockref6_noughts
  | 72 => some (.ext Pk.repeatX)
  | _ => none
theorem hC : CRel Try.prog C := by
  intro f fn h
  unfold C at h
  split at h
  · injection h with h; subst h; exact ⟨h_paddocklaw8_MergeOnly, k_paddocklaw8_MergeOnly⟩
  · injection h with h; subst h; exact ⟨h_paddocklaw8_MergeRewinds, k_paddocklaw8_MergeRewinds⟩
  · injection h with h; subst h; exact ⟨h_paddocklaw8_MergeRefuses, k_paddocklaw8_MergeRefuses⟩
  · injection h with h; subst h; exact ⟨h_paddocklaw8_MergeSteps, k_paddocklaw8_MergeSteps⟩
  · injection h with h; subst h; exact ⟨h_paddocklaw8_MergeTells, k_paddocklaw8_MergeTells⟩
  · injection h with h; subst h; exact ⟨h_paddocklaw8_MergeBack, k_paddocklaw8_MergeBack⟩
  · injection h with h; subst h; exact ⟨h_paddocklaw8_MergeSelf, k_paddocklaw8_MergeSelf⟩
  · injection h with h; subst h; exact ⟨h_paddocklaw8_known, k_paddocklaw8_known⟩
  · injection h with h; subst h; exact ⟨h_paddocklaw8_state, k_paddocklaw8_state⟩
  · injection h with h; subst h; exact ⟨h_pglog_Head, k_pglog_Head⟩
  · injection h with h; subst h; exact ⟨h_pglog_Add, k_pglog_Add⟩
  · injection h with h; subst h; exact ⟨h_merge_Make, k_merge_Make⟩
  · injection h with h; subst h; exact ⟨h_merge_Apply, k_merge_Apply⟩
  · injection h with h; subst h; exact ⟨h_pglog_Same, k_pglog_Same⟩
  · injection h with h; subst h; exact ⟨h_merge_Extends, k_merge_Extends⟩
  · injection h with h; subst h; exact ⟨h_paddocklaw8_tops, k_paddocklaw8_tops⟩
  · injection h with h; subst h; exact ⟨h_paddocklaw8_few, k_paddocklaw8_few⟩
  · injection h with h; subst h; exact ⟨h_paddockref8_Make, k_paddockref8_Make⟩
  · injection h with h; subst h; exact ⟨h_paddockref8_Apply, k_paddockref8_Apply⟩
  · injection h with h; subst h; exact ⟨h_paddocklaw8_same, k_paddocklaw8_same⟩
  · injection h with h; subst h; exact ⟨h_paddockref6_Same, k_paddockref6_Same⟩
  · injection h with h; subst h; exact ⟨h_paddockref8_Extends, k_paddockref8_Extends⟩
  · injection h with h; subst h; exact ⟨h_merge_Bytes, k_merge_Bytes⟩
  · injection h with h; subst h; exact ⟨h_paddockref8_Bytes, k_paddockref8_Bytes⟩
  · injection h with h; subst h; exact ⟨h_pglog_Tail, k_pglog_Tail⟩
  · injection h with h; subst h; exact ⟨h_pglog_Is, k_pglog_Is⟩
  · injection h with h; subst h; exact ⟨h_pglog_last, k_pglog_last⟩
  · injection h with h; subst h; exact ⟨h_pglog_next, k_pglog_next⟩
  · injection h with h; subst h; exact Pk.cloneX_ok (by decide) ⟨h_slices_Clone_sapi_Entry_api_Entry, k_slices_Clone_sapi_Entry_api_Entry⟩
  · injection h with h; subst h; exact ⟨h_pglog_folded, k_pglog_folded⟩
  · injection h with h; subst h; exact ⟨h_merge_head, k_merge_head⟩
  · injection h with h; subst h; exact ⟨h_merge_stands, k_merge_stands⟩
  · injection h with h; subst h; exact ⟨h_pglog_Copy, k_pglog_Copy⟩
  · injection h with h; subst h; exact ⟨h_merge_common, k_merge_common⟩
  · injection h with h; subst h; exact ⟨h_merge_Apply_1, k_merge_Apply_1⟩
  · injection h with h; subst h; exact ⟨h_pglog_Cut, k_pglog_Cut⟩
  · injection h with h; subst h; exact ⟨h_merge_added, k_merge_added⟩
  · injection h with h; subst h; exact ⟨h_slices_Equal_sapi_Entry_api_Entry, k_slices_Equal_sapi_Entry_api_Entry⟩
  · injection h with h; subst h; exact ⟨h_paddockref6_Is, k_paddockref6_Is⟩
  · injection h with h; subst h; exact ⟨h_paddockref8_shared, k_paddockref8_shared⟩
  · injection h with h; subst h; exact ⟨h_paddockref6_Find, k_paddockref6_Find⟩
  · injection h with h; subst h; exact ⟨h_paddockref6_Cut, k_paddockref6_Cut⟩
  · injection h with h; subst h; exact ⟨h_paddockref6_Add, k_paddockref6_Add⟩
  · injection h with h; subst h; exact ⟨h_paddockref6_Tail, k_paddockref6_Tail⟩
  · injection h with h; subst h; exact ⟨h_paddockref6_Head, k_paddockref6_Head⟩
  · injection h with h; subst h; exact ⟨h_pglog_place, k_pglog_place⟩
  · injection h with h; subst h; exact ⟨h_pglog_base, k_pglog_base⟩
  · injection h with h; subst h; exact ⟨h_objects_Writes, k_objects_Writes⟩
  · injection h with h; subst h; exact ⟨h_objects_Do, k_objects_Do⟩
  · injection h with h; subst h; exact ⟨h_pglog_Find, k_pglog_Find⟩
  · injection h with h; subst h; exact ⟨h_pglog_Upto, k_pglog_Upto⟩
  · injection h with h; subst h; exact ⟨h_paddockref6_isBase, k_paddockref6_isBase⟩
  · injection h with h; subst h; exact ⟨h_paddockref6_Writes, k_paddockref6_Writes⟩
  · injection h with h; subst h; exact ⟨h_paddockref6_Upto, k_paddockref6_Upto⟩
  · injection h with h; subst h; exact ⟨h_paddockref6_pop, k_paddockref6_pop⟩
  · injection h with h; subst h; exact ⟨h_pglog_object, k_pglog_object⟩
  · injection h with h; subst h; exact ⟨h_objects_IsOp, k_objects_IsOp⟩
  · injection h with h; subst h; exact ⟨h_objects_Seen, k_objects_Seen⟩
  · injection h with h; subst h; exact ⟨h_objects_does, k_objects_does⟩
  · injection h with h; subst h; exact ⟨h_paddockref6_IsOp, k_paddockref6_IsOp⟩
  · injection h with h; subst h; exact ⟨h_paddockref6_Do, k_paddockref6_Do⟩
  · injection h with h; subst h; exact ⟨h_objects_doer_write, k_objects_doer_write⟩
  · injection h with h; subst h; exact ⟨h_objects_doer_trunc, k_objects_doer_trunc⟩
  · injection h with h; subst h; exact ⟨h_objects_doer_attr, k_objects_doer_attr⟩
  · injection h with h; subst h; exact ⟨h_objects_doer_remove, k_objects_doer_remove⟩
  · injection h with h; subst h; exact ⟨h_paddockref6_Seen, k_paddockref6_Seen⟩
  · injection h with h; subst h; exact ⟨h_paddockref6_change, k_paddockref6_change⟩
  · injection h with h; subst h; exact ⟨h_objects_grown, k_objects_grown⟩
  · injection h with h; subst h; exact ⟨h_paddockref6_noughts, k_paddockref6_noughts⟩
  · injection h with h; subst h; exact Pk.repeatX_ok ⟨Try.f72, _, Try.func72, rfl, by kernel_rfl⟩ (fun s c w h1 h2 => Try.strings_Repeat s c w h1 h2)
  · cases h
end Go.Proofs.Ytfajplmkfpdhfaa

/- The code of the functions that these laws reach, compiled for the pure evaluator (printed by program), each held against the given program by the kernel. -/
import Derived.Test.YtlihpaegaikoeaaDoorChecked
import Derived.KernelRfl
import Derived.Test.YtlihpaegaikoeaaDoorPkEv
import Derived.Test.YtlihpaegaikoeaaDoorShelf
import Derived.Test.YtlihpaegaikoeaaDoorPkClone
set_option linter.all false
namespace Go.Proofs.YtlihpaegaikoeaaDoor
open Pv Go

def F_main_main : FuncId := 0
def F_gosem_cut : FuncId := 1
def F_gosem_cut_init : FuncId := 2
def F_paddocklaw23_OrderStays : FuncId := 3
def F_paddocklaw23_OrderForks : FuncId := 4
def F_paddocklaw23_OrderReads : FuncId := 5
def F_paddocklaw23_OrderRows : FuncId := 6
def F_paddocklaw23_known : FuncId := 7
def F_witness_New : FuncId := 8
def F_witness_Order_See : FuncId := 9
def F_witness_Order_Took : FuncId := 10
def F_witness_Order_Acked : FuncId := 11
def F_witness_Order_Len : FuncId := 12
def F_witness_Order_At : FuncId := 13
def F_bits_Group : FuncId := 14
def F_objects_Writes : FuncId := 15
def F_objects_Do : FuncId := 16
def F_pglog_Add : FuncId := 17
def F_witness_Order_Base : FuncId := 18
def F_paddockref1_Group : FuncId := 19
def F_pglog_Is : FuncId := 20
def F_witness_row_fits : FuncId := 21
def F_witness_row_has : FuncId := 22
def F_witness_row_lays : FuncId := 23
def F_objects_IsOp : FuncId := 24
def F_witness_row_read : FuncId := 25
def F_slices_IndexFunc_sapi_Entry_api_Entry : FuncId := 26
def F_witness_Order_Took_1 : FuncId := 27
def F_witness_row_base : FuncId := 28
def F_bits_Mix : FuncId := 29
def F_objects_Seen : FuncId := 30
def F_objects_does : FuncId := 31
def F_pglog_next : FuncId := 32
def F_pglog_last : FuncId := 33
def F_slices_Clone_sapi_Entry_api_Entry : FuncId := 34
def F_pglog_folded : FuncId := 35
def F_paddockref1_Mix : FuncId := 36
def F_pglog_base : FuncId := 37
def F_pglog_Head : FuncId := 38
def F_slices_ContainsFunc_sapi_Entry_api_Entry : FuncId := 39
def F_witness_row_fits_1 : FuncId := 40
def F_slices_Equal_sapi_Entry_api_Entry : FuncId := 41
def F_slices_Concat_sapi_Entry_api_Entry : FuncId := 42
def F_slices_Clone_sapi_Base_api_Base : FuncId := 43
def F_objects_Read : FuncId := 44
def F_objects_doer_write : FuncId := 45
def F_objects_doer_trunc : FuncId := 46
def F_objects_doer_attr : FuncId := 47
def F_objects_doer_remove : FuncId := 48
def F_pglog_object : FuncId := 49
def F_slices_Grow_sapi_Entry_api_Entry : FuncId := 50
def F_strconv_Itoa : FuncId := 51
def F_objects_grown : FuncId := 52
def F_internal_strconv_Itoa : FuncId := 53
def F_strings_Repeat : FuncId := 54
def F_internal_strconv_FormatInt : FuncId := 55
def F_math_bits_Mul : FuncId := 56
def F_strings_HasPrefix : FuncId := 57
def F_strings_Builder_Grow : FuncId := 58
def F_strings_Builder_WriteString : FuncId := 59
def F_strings_Builder_Len : FuncId := 60
def F_strings_Builder_String : FuncId := 61
def F_internal_strconv_small : FuncId := 62
def F_internal_strconv_numDigits : FuncId := 63
def F_internal_strconv_formatBase10 : FuncId := 64
def F_internal_strconv_formatBits : FuncId := 65
def F_math_bits_Mul32 : FuncId := 66
def F_math_bits_Mul64 : FuncId := 67
def F_internal_stringslite_HasPrefix : FuncId := 68
def F_strings_Builder_copyCheck : FuncId := 69
def F_strings_Builder_grow : FuncId := 70
def F_internal_strconv_log10Pow2 : FuncId := 71
def F_math_bits_Len64 : FuncId := 72
def F_internal_strconv_bool2_int : FuncId := 73
def F_internal_strconv_isPowerOfTwo : FuncId := 74
def F_math_bits_TrailingZeros : FuncId := 75
def F_internal_abi_NoEscape : FuncId := 76
def F_internal_bytealg_MakeNoZero : FuncId := 77
def F_math_bits_TrailingZeros32 : FuncId := 78
def F_math_bits_TrailingZeros64 : FuncId := 79
def F_runtime_boundsError_Error : FuncId := 80
def F_runtime_boundsError_RuntimeError : FuncId := 81
def F_runtime_errorString_Error : FuncId := 82
def F_runtime_errorString_RuntimeError : FuncId := 83
def F_runtime_plainError_Error : FuncId := 84
def F_runtime_plainError_RuntimeError : FuncId := 85
def F_runtime_errorAddressString_Error : FuncId := 86
def F_runtime_errorAddressString_RuntimeError : FuncId := 87
def F_runtime_TypeAssertionError_Error : FuncId := 88
def F_runtime_TypeAssertionError_RuntimeError : FuncId := 89
def F_runtime_PanicNilError_Error : FuncId := 90
def F_runtime_PanicNilError_RuntimeError : FuncId := 91
def F_internal_abi_Type_Align : FuncId := 92
def F_internal_runtime_maps_unhashableTypeError_Error : FuncId := 93
def F_internal_runtime_maps_unhashableTypeError_RuntimeError : FuncId := 94
def F_api_Errno_Error : FuncId := 95
def F_strings_Builder_Reset : FuncId := 96
def F_internal_abi_Kind_String : FuncId := 97
def F_var_s_door_gosem_cut_vars_holds_initialisers_alone_see_the_manifest_s_row_cutvarsword_look_11_test_files_too : FuncId := 98
def F_var_s_door_internal_strconv_uint64pow10_is_laid_by_its_own_initialiser_plain_data_look_11 : FuncId := 99
def F_var_s_door_math_bits_deBruijn32tab_is_laid_by_its_own_initialiser_plain_data_look_11 : FuncId := 100
def F_var_s_door_math_bits_deBruijn64tab_is_laid_by_its_own_initialiser_plain_data_look_11 : FuncId := 101
def F_var_s_door_the_look_of_gosem_cut_vars_went_over_the_folder_that_the_caller_named_as_the_repository_s_root_look_11 : FuncId := 102
def F_gosem_cut_vars : FuncId := 103
def tab0 : ByteArray := ⟨#[0, 1, 2, 2, 3, 3, 3, 3, 4, 4, 4, 4, 4, 4, 4, 4, 5, 5, 5, 5, 5, 5, 5, 5, 5, 5, 5, 5, 5, 5, 5, 5, 6, 6, 6, 6, 6, 6, 6, 6, 6, 6, 6, 6, 6, 6, 6, 6, 6, 6, 6, 6, 6, 6, 6, 6, 6, 6, 6, 6, 6, 6, 6, 6, 7, 7, 7, 7, 7, 7, 7, 7, 7, 7, 7, 7, 7, 7, 7, 7, 7, 7, 7, 7, 7, 7, 7, 7, 7, 7, 7, 7, 7, 7, 7, 7, 7, 7, 7, 7, 7, 7, 7, 7, 7, 7, 7, 7, 7, 7, 7, 7, 7, 7, 7, 7, 7, 7, 7, 7, 7, 7, 7, 7, 7, 7, 7, 7, 8, 8, 8, 8, 8, 8, 8, 8, 8, 8, 8, 8, 8, 8, 8, 8, 8, 8, 8, 8, 8, 8, 8, 8, 8, 8, 8, 8, 8, 8, 8, 8, 8, 8, 8, 8, 8, 8, 8, 8, 8, 8, 8, 8, 8, 8, 8, 8, 8, 8, 8, 8, 8, 8, 8, 8, 8, 8, 8, 8, 8, 8, 8, 8, 8, 8, 8, 8, 8, 8, 8, 8, 8, 8, 8, 8, 8, 8, 8, 8, 8, 8, 8, 8, 8, 8, 8, 8, 8, 8, 8, 8, 8, 8, 8, 8, 8, 8, 8, 8, 8, 8, 8, 8, 8, 8, 8, 8, 8, 8, 8, 8, 8, 8, 8, 8, 8, 8, 8, 8, 8, 8, 8, 8, 8, 8, 8, 8]⟩
/-- paddock/paddocklaw23.OrderStays -/
def h_paddocklaw23_OrderStays : Hints := { kp := [(0, [0]), (1, [0]), (2, []), (3, [0]), (4, []), (5, [0]), (6, [0, 3]), (7, [0, 3, 4]), (8, [0, 3, 4, 5]), (10, [0, 3, 4, 5]), (11, [0, 3, 4, 5, 6]), (12, []), (13, [0, 3, 4, 5, 6]), (14, [0, 3, 4, 5, 6]), (16, [0, 3, 4, 5, 6]), (15, [0, 3, 4, 5, 6]), (17, [0, 3, 4, 5, 7]), (18, [0, 3, 4, 5, 7, 8]), (20, [0, 3, 4, 5, 7, 8]), (21, [0, 3, 4, 5, 7, 8, 9]), (22, []), (23, [0, 3, 4, 5, 7, 8, 9]), (24, [0, 3, 4, 5, 7, 8, 9, 10]), (26, [0, 3, 4, 5, 7, 8, 9, 10]), (27, [0, 3, 4, 5, 7, 8, 9, 10, 11, 12]), (28, []), (29, [0, 3, 4, 5, 7, 8, 9, 10, 11]), (30, [0, 3, 4, 5, 7, 8, 9, 10, 11]), (25, [0, 3, 4, 5, 7, 8, 9, 10]), (19, [0, 3, 4, 5, 7, 8]), (31, [0, 3, 4, 5, 7]), (32, []), (9, [0, 3, 4, 5]), (33, [])], lkp := [(8, [0, 3, 4, 5]), (18, [0, 3, 4, 5, 7, 8]), (24, [0, 3, 4, 5, 7, 8, 9, 10])], lth := [] }
def K_paddocklaw23_OrderStays_0 : Option (List Nat) := (some [0, 3, 4, 5, 7, 8, 9, 10])
def l_paddocklaw23_OrderStays_0 : ACode :=
 .seq (.seq (.region (some [0, 3, 4, 5, 7, 8, 9, 10]) [⟨(some 76), .mv (.t 10), none⟩,
   ⟨(some 77), .mv (.t 9), none⟩,
   ⟨(some 78), .bin .leq (.t 76) (.t 77), none⟩] [])
 (.cond (.t 78) (.skip) (.exit 4)))
 (.seq (.block 5 (.seq (.region (some [0, 3, 4, 5, 7, 8, 9, 10]) [⟨(some 82), .mv (.t 3), none⟩,
    ⟨(some 83), .mv (.t 8), none⟩,
    ⟨(some 84), .mv (.t 10), none⟩,
    ⟨(some 85), .conv .u32 (.t 84), none⟩,
    ⟨(some 86), .call (.f F_witness_Order_At) [.t 82, .t 83, .t 85], none⟩,
    ⟨(some 81), .mv (.t 86), none⟩,
    ⟨(some 87), .ext (.t 81) 0, none⟩,
    ⟨(some 88), .ext (.t 81) 1, none⟩,
    ⟨(some 11), .box (.c (.d (.agg [.i .u32 0, .i .u32 0, .i .u8 0, .i .u32 0, .i .u8 0, .i .u8 0, .i .u8 0, .s ⟨#[]⟩]))), none⟩,
    ⟨none, .store 8 (.t 11) (.t 87), none⟩,
    ⟨(some 12), .mv (.t 88), none⟩] [])
  (.seq (.seq (.region (some [0, 3, 4, 5, 7, 8, 9, 10, 11, 12]) [⟨(some 89), .mv (.t 12), none⟩,
    ⟨(some 90), .un .not (.t 89), none⟩,
    ⟨(some 91), .mv (.t 90), none⟩,
    ⟨(some 92), .mv (.t 10), some (91, false)⟩,
    ⟨(some 93), .mv (.t 8), some (91, false)⟩,
    ⟨(some 94), .iaddrA 4 1 (.t 4) (.t 93), some (91, false)⟩,
    ⟨(some 95), .load false 1 (.t 94), some (91, false)⟩,
    ⟨(some 96), .len false (.t 95), some (91, false)⟩,
    ⟨(some 97), .bin .leq (.t 92) (.t 96), some (91, false)⟩,
    ⟨(some 98), .mv (.t 97), some (91, false)⟩,
    ⟨(some 99), .load true 8 (.t 11), some (98, true)⟩,
    ⟨(some 100), .mv (.t 8), some (98, true)⟩,
    ⟨(some 101), .iaddrA 4 1 (.t 4) (.t 100), some (98, true)⟩,
    ⟨(some 102), .load false 1 (.t 101), some (98, true)⟩,
    ⟨(some 103), .mv (.t 10), some (98, true)⟩,
    ⟨(some 104), .bin .sub (.t 103) (.c (.d (.i .i64 1))), some (98, true)⟩,
    ⟨(some 105), .iaddrS 8 (.t 102) (.t 104), some (98, true)⟩,
    ⟨(some 106), .load true 8 (.t 105), some (98, true)⟩,
    ⟨(some 107), .eq true Pk.Entry.ety (.t 99) (.t 106), some (98, true)⟩,
    ⟨(some 108), .pick (.t 98) (.t 107) (.c (.d (.b false))), some (91, false)⟩,
    ⟨(some 109), .pick (.t 91) (.c (.d (.b true))) (.t 108), none⟩] [(10, 13), (10, 17)])
  (.cond (.t 109) (.seq (.region (some []) [⟨(some 2), .mv (.c (.d (.b false))), none⟩] [])
   (.ret)) (.skip)))
  (.seq (.region (some [0, 3, 4, 5, 7, 8, 9, 10, 11]) [⟨(some 110), .mv (.t 10), none⟩,
    ⟨(some 111), .mv (.t 8), none⟩,
    ⟨(some 112), .iaddrA 4 1 (.t 4) (.t 111), none⟩,
    ⟨(some 113), .load false 1 (.t 112), none⟩,
    ⟨(some 114), .len false (.t 113), none⟩,
    ⟨(some 115), .bin .gtr (.t 110) (.t 114), none⟩] [])
  (.cond (.t 115) (.region (some [0, 3, 4, 5, 7, 8, 9, 10, 11]) [⟨(some 116), .mv (.t 8), none⟩,
     ⟨(some 117), .mv (.t 8), none⟩,
     ⟨(some 118), .iaddrA 4 1 (.t 4) (.t 117), none⟩,
     ⟨(some 119), .load false 1 (.t 118), none⟩,
     ⟨(some 120), .load true 8 (.t 11), none⟩,
     ⟨(some 121), .bsl 8 [.t 120], none⟩,
     ⟨(some 122), .app 8 (.t 119) (.t 121), none⟩,
     ⟨(some 123), .iaddrA 4 1 (.t 4) (.t 116), none⟩,
     ⟨none, .store 1 (.t 123) (.t 122), none⟩] [(3, 4), (3, 5)]) (.skip))))))
 (.region (some [0, 3, 4, 5, 7, 8, 9, 10]) [⟨(some 79), .mv (.t 10), none⟩,
   ⟨(some 80), .bin .add (.t 79) (.c (.d (.i .i64 1))), none⟩,
   ⟨(some 10), .mv (.t 80), none⟩] []))
def K_paddocklaw23_OrderStays_1 : Option (List Nat) := (some [0, 3, 4, 5, 7, 8])
def l_paddocklaw23_OrderStays_1 : ACode :=
 .seq (.seq (.region (some [0, 3, 4, 5, 7, 8]) [⟨(some 55), .mv (.t 8), none⟩,
   ⟨(some 56), .bin .lss (.t 55) (.c (.d (.i .u8 4))), none⟩] [])
 (.cond (.t 56) (.skip) (.exit 2)))
 (.seq (.block 3 (.seq (.region (some [0, 3, 4, 5, 7, 8]) [⟨(some 59), .mv (.t 3), none⟩,
    ⟨(some 60), .mv (.t 8), none⟩,
    ⟨(some 61), .call (.f F_witness_Order_Acked) [.t 59, .t 60], none⟩,
    ⟨(some 62), .conv .i64 (.t 61), none⟩,
    ⟨(some 9), .mv (.t 62), none⟩] [])
  (.seq (.seq (.region (some [0, 3, 4, 5, 7, 8, 9]) [⟨(some 63), .mv (.t 9), none⟩,
    ⟨(some 64), .mv (.t 8), none⟩,
    ⟨(some 65), .iaddrA 4 1 (.t 4) (.t 64), none⟩,
    ⟨(some 66), .load false 1 (.t 65), none⟩,
    ⟨(some 67), .len false (.t 66), none⟩,
    ⟨(some 68), .bin .lss (.t 63) (.t 67), none⟩,
    ⟨(some 69), .mv (.t 68), none⟩,
    ⟨(some 70), .mv (.t 9), some (69, false)⟩,
    ⟨(some 71), .mv (.t 3), some (69, false)⟩,
    ⟨(some 72), .mv (.t 8), some (69, false)⟩,
    ⟨(some 73), .call (.f F_witness_Order_Len) [.t 71, .t 72], some (69, false)⟩,
    ⟨(some 74), .bin .gtr (.t 70) (.t 73), some (69, false)⟩,
    ⟨(some 75), .pick (.t 69) (.c (.d (.b true))) (.t 74), none⟩] [])
  (.cond (.t 75) (.seq (.region (some []) [⟨(some 2), .mv (.c (.d (.b false))), none⟩] [])
   (.ret)) (.skip)))
  (.seq (.region (some [0, 3, 4, 5, 7, 8, 9]) [⟨(some 10), .mv (.c (.d (.i .i64 1))), none⟩] [])
  (.block 4 (.loop K_paddocklaw23_OrderStays_0 [] l_paddocklaw23_OrderStays_0))))))
 (.region (some [0, 3, 4, 5, 7, 8]) [⟨(some 57), .mv (.t 8), none⟩,
   ⟨(some 58), .bin .add (.t 57) (.c (.d (.i .u8 1))), none⟩,
   ⟨(some 8), .mv (.t 58), none⟩] []))
def K_paddocklaw23_OrderStays_2 : Option (List Nat) := (some [0, 3, 4, 5])
def l_paddocklaw23_OrderStays_2 : ACode :=
 .seq (.seq (.region (some [0, 3, 4, 5]) [⟨(some 19), .mv (.t 5), none⟩,
   ⟨(some 20), .mv (.t 0), none⟩,
   ⟨(some 21), .len false (.t 20), none⟩,
   ⟨(some 22), .bin .lss (.t 19) (.t 21), none⟩] [])
 (.cond (.t 22) (.skip) (.exit 0)))
 (.seq (.block 1 (.seq (.region (some [0, 3, 4, 5]) [⟨(some 25), .mv (.t 0), none⟩,
    ⟨(some 26), .mv (.t 5), none⟩,
    ⟨(some 27), .iaddrS 59 (.t 25) (.t 26), none⟩,
    ⟨(some 28), .load true 59 (.t 27), none⟩,
    ⟨(some 6), .box (.c (.agg [.d (.i .i64 0), .d (.i .u8 0), .d (.i .u32 0), .d (.b false), .d (.s ⟨#[]⟩), .d (.s ⟨#[]⟩), .d (.s ⟨#[]⟩), .d (.s ⟨#[]⟩), .d (.b false), .d (.s ⟨#[]⟩), .d (.s ⟨#[]⟩), .d (.s ⟨#[]⟩), .d (.s ⟨#[]⟩), .d (.b false), .d (.s ⟨#[]⟩), .d (.s ⟨#[]⟩), .d (.s ⟨#[]⟩), .d (.s ⟨#[]⟩), .d (.b false), .d (.s ⟨#[]⟩), .d (.s ⟨#[]⟩), .d (.s ⟨#[]⟩), .d (.s ⟨#[]⟩), .d (.b false), .d (.s ⟨#[]⟩), .d (.s ⟨#[]⟩), .d (.s ⟨#[]⟩), .d (.s ⟨#[]⟩), .d (.b false), .d (.s ⟨#[]⟩), .d (.s ⟨#[]⟩), .d (.s ⟨#[]⟩), .d (.s ⟨#[]⟩), .d (.i .u32 0), .d (.i .u8 0), .d (.s ⟨#[]⟩), .d (.i .u32 0), .d (.i .u8 0), .d (.s ⟨#[]⟩), .d (.i .u32 0), .d (.i .u8 0), .d (.s ⟨#[]⟩), .d (.i .u32 0), .d (.i .u32 0), .d (.i .u8 0), .d (.i .u32 0), .d (.i .u8 0), .d (.i .u8 0), .d (.i .u8 0), .d (.s ⟨#[]⟩), .nilS, .d (.i .u8 0), .d (.i .u32 0), .d (.i .u8 0), .d (.i .u8 0), .d (.i .u8 0), .d (.s ⟨#[]⟩), .d (.i .u8 0), .d (.s ⟨#[]⟩)])), none⟩,
    ⟨none, .store 59 (.t 6) (.t 28), none⟩] [])
  (.seq (.seq (.region (some [0, 3, 4, 5, 6]) [⟨(some 29), .faddr 2 (.t 6), none⟩,
    ⟨(some 30), .faddr 48 (.t 29), none⟩,
    ⟨(some 31), .load false 1 (.t 30), none⟩,
    ⟨(some 32), .len false (.t 31), none⟩,
    ⟨(some 33), .bin .gtr (.t 32) (.c (.d (.i .i64 10))), none⟩,
    ⟨(some 34), .mv (.t 33), none⟩,
    ⟨(some 35), .faddr 51 (.t 6), some (34, false)⟩,
    ⟨(some 36), .faddr 6 (.t 35), some (34, false)⟩,
    ⟨(some 37), .faddr 1 (.t 36), some (34, false)⟩,
    ⟨(some 38), .load false 1 (.t 37), some (34, false)⟩,
    ⟨(some 39), .len true (.t 38), some (34, false)⟩,
    ⟨(some 40), .bin .gtr (.t 39) (.c (.d (.i .i64 200))), some (34, false)⟩,
    ⟨(some 41), .pick (.t 34) (.c (.d (.b true))) (.t 40), none⟩] [])
  (.cond (.t 41) (.seq (.region (some []) [⟨(some 2), .mv (.c (.d (.b true))), none⟩] [])
   (.ret)) (.skip)))
  (.seq (.region (some [0, 3, 4, 5, 6]) [⟨(some 7), .mv (.c (.d (.i .i64 0))), none⟩] [])
  (.seq (.seq (.region (some [0, 3, 4, 5, 6]) [⟨(some 42), .faddr 0 (.t 6), none⟩,
    ⟨(some 43), .load false 1 (.t 42), none⟩,
    ⟨(some 44), .bin .leq (.t 43) (.c (.d (.i .i64 5))), none⟩] [])
  (.cond (.t 44) (.region (some [0, 3, 4, 5, 6]) [⟨(some 45), .mv (.t 3), none⟩,
     ⟨(some 46), .faddr 1 (.t 6), none⟩,
     ⟨(some 47), .load false 1 (.t 46), none⟩,
     ⟨(some 48), .faddr 2 (.t 6), none⟩,
     ⟨(some 49), .load true 49 (.t 48), none⟩,
     ⟨(some 50), .call (.f F_witness_Order_See) [.t 45, .t 47, .t 49], none⟩,
     ⟨(some 7), .mv (.t 50), none⟩] []) (.region (some [0, 3, 4, 5, 6]) [⟨(some 51), .mv (.t 3), none⟩,
     ⟨(some 52), .faddr 51 (.t 6), none⟩,
     ⟨(some 53), .load true 8 (.t 52), none⟩,
     ⟨(some 54), .call (.f F_witness_Order_Took) [.t 51, .t 53], none⟩,
     ⟨(some 7), .mv (.t 54), none⟩] [])))
  (.seq (.seq (.region (some [0, 3, 4, 5, 7]) [⟨(some 8), .mv (.c (.d (.i .u8 0))), none⟩] [])
  (.block 2 (.loop K_paddocklaw23_OrderStays_1 [] l_paddocklaw23_OrderStays_1)))
  (.seq (.region (some [0, 3, 4, 5, 7]) [⟨(some 124), .mv (.t 7), none⟩,
    ⟨(some 125), .bin .neq (.t 124) (.c (.d (.i .i64 0))), none⟩,
    ⟨(some 126), .mv (.t 125), none⟩,
    ⟨(some 127), .mv (.t 7), some (126, true)⟩,
    ⟨(some 128), .bin .neq (.t 127) (.c (.d (.i .i64 220))), some (126, true)⟩,
    ⟨(some 129), .pick (.t 126) (.t 128) (.c (.d (.b false))), none⟩,
    ⟨(some 130), .mv (.t 129), none⟩,
    ⟨(some 131), .mv (.t 7), some (130, true)⟩,
    ⟨(some 132), .bin .neq (.t 131) (.c (.d (.i .i64 10))), some (130, true)⟩,
    ⟨(some 133), .pick (.t 130) (.t 132) (.c (.d (.b false))), none⟩] [])
  (.cond (.t 133) (.seq (.region (some []) [⟨(some 2), .mv (.c (.d (.b false))), none⟩] [])
   (.ret)) (.skip)))))))))
 (.region (some [0, 3, 4, 5]) [⟨(some 23), .mv (.t 5), none⟩,
   ⟨(some 24), .bin .add (.t 23) (.c (.d (.i .i64 1))), none⟩,
   ⟨(some 5), .mv (.t 24), none⟩] []))
def c_paddocklaw23_OrderStays : ACode :=
 .seq (.region (some [0]) [⟨(some 2), .mv (.c (.d (.b false))), none⟩] [])
 (.seq (.seq (.region (some [0]) [⟨(some 13), .call (.f F_paddocklaw23_known) [], none⟩,
   ⟨(some 14), .un .not (.t 13), none⟩] [])
 (.cond (.t 14) (.seq (.region (some []) [⟨(some 2), .mv (.c (.d (.b false))), none⟩] [])
  (.ret)) (.skip)))
 (.seq (.seq (.region (some [0]) [⟨(some 15), .mv (.t 0), none⟩,
   ⟨(some 16), .len false (.t 15), none⟩,
   ⟨(some 17), .bin .gtr (.t 16) (.c (.d (.i .i64 50))), none⟩] [])
 (.cond (.t 17) (.seq (.region (some []) [⟨(some 2), .mv (.c (.d (.b true))), none⟩] [])
  (.ret)) (.skip)))
 (.seq (.region (some [0]) [⟨(some 18), .call (.f F_witness_New) [], none⟩,
   ⟨(some 3), .mv (.t 18), none⟩] [])
 (.seq (.region (some [0, 3]) [⟨(some 4), .box (.c (.agg [.nilS, .nilS, .nilS, .nilS])), none⟩] [])
 (.seq (.seq (.region (some [0, 3, 4]) [⟨(some 5), .mv (.c (.d (.i .i64 0))), none⟩] [])
 (.block 0 (.loop K_paddocklaw23_OrderStays_2 [] l_paddocklaw23_OrderStays_2)))
 (.seq (.region (some []) [⟨(some 2), .mv (.c (.d (.b true))), none⟩] [])
 (.ret)))))))
def a_paddocklaw23_OrderStays : AFn := .code 1 c_paddocklaw23_OrderStays [.tmp 2]
set_option maxRecDepth 100000 in
theorem k_paddocklaw23_OrderStays : compF Tryd.prog h_paddocklaw23_OrderStays F_paddocklaw23_OrderStays = some a_paddocklaw23_OrderStays := by kernel_rfl

/-- paddock/paddocklaw23.OrderForks -/
def h_paddocklaw23_OrderForks : Hints := { kp := [(0, [0, 1, 2, 3]), (1, [0, 1, 2, 3]), (2, []), (3, [0, 1, 2, 3]), (4, []), (5, [0, 1, 2, 3]), (6, [1, 2, 3, 9]), (7, [1, 2, 3, 9, 10]), (8, [1, 2, 3, 9, 10]), (9, [1, 2, 3, 9, 10]), (10, []), (11, [1, 2, 3, 9, 10]), (12, [2, 3, 9, 10, 11]), (13, [3, 9, 11, 12]), (14, [3, 9, 11, 12, 13]), (15, []), (16, [3, 9, 11, 12, 13]), (17, [3, 9, 11, 12, 13, 14]), (18, [3, 9, 11, 12, 13, 14, 15]), (19, [11, 14, 15]), (20, [9, 11, 12, 13, 14, 15])], lkp := [(7, [1, 2, 3, 9, 10])], lth := [] }
def K_paddocklaw23_OrderForks_0 : Option (List Nat) := (some [1, 2, 3, 9, 10])
def l_paddocklaw23_OrderForks_0 : ACode :=
 .seq (.seq (.region (some [1, 2, 3, 9, 10]) [⟨(some 34), .mv (.t 10), none⟩,
   ⟨(some 35), .bin .lss (.t 34) (.c (.d (.i .u8 6))), none⟩,
   ⟨(some 36), .mv (.t 35), none⟩,
   ⟨(some 37), .mv (.t 10), some (36, true)⟩,
   ⟨(some 38), .call (.f F_bits_Group) [.t 37], some (36, true)⟩,
   ⟨(some 39), .mv (.t 9), some (36, true)⟩,
   ⟨(some 40), .bin .neq (.t 38) (.t 39), some (36, true)⟩,
   ⟨(some 41), .pick (.t 36) (.t 40) (.c (.d (.b false))), none⟩] [])
 (.cond (.t 41) (.skip) (.exit 0)))
 (.block 1 (.region (some [1, 2, 3, 9, 10]) [⟨(some 42), .mv (.t 10), none⟩,
    ⟨(some 43), .bin .add (.t 42) (.c (.d (.i .u8 1))), none⟩,
    ⟨(some 10), .mv (.t 43), none⟩] []))
def c_paddocklaw23_OrderForks : ACode :=
 .seq (.region (some [0, 1, 2, 3]) [⟨(some 8), .mv (.c (.d (.b false))), none⟩] [])
 (.seq (.seq (.region (some [0, 1, 2, 3]) [⟨(some 17), .call (.f F_paddocklaw23_known) [], none⟩,
   ⟨(some 18), .un .not (.t 17), none⟩] [])
 (.cond (.t 18) (.seq (.region (some []) [⟨(some 8), .mv (.c (.d (.b false))), none⟩] [])
  (.ret)) (.skip)))
 (.seq (.seq (.region (some [0, 1, 2, 3]) [⟨(some 19), .mv (.t 1), none⟩,
   ⟨(some 20), .len true (.t 19), none⟩,
   ⟨(some 21), .bin .gtr (.t 20) (.c (.d (.i .i64 16))), none⟩,
   ⟨(some 22), .mv (.t 21), none⟩,
   ⟨(some 23), .mv (.t 2), some (22, false)⟩,
   ⟨(some 24), .len true (.t 23), some (22, false)⟩,
   ⟨(some 25), .bin .gtr (.t 24) (.c (.d (.i .i64 16))), some (22, false)⟩,
   ⟨(some 26), .pick (.t 22) (.c (.d (.b true))) (.t 25), none⟩,
   ⟨(some 27), .mv (.t 26), none⟩,
   ⟨(some 28), .mv (.t 1), some (27, false)⟩,
   ⟨(some 29), .mv (.t 2), some (27, false)⟩,
   ⟨(some 30), .bin .eql (.t 28) (.t 29), some (27, false)⟩,
   ⟨(some 31), .pick (.t 27) (.c (.d (.b true))) (.t 30), none⟩] [])
 (.cond (.t 31) (.seq (.region (some []) [⟨(some 8), .mv (.c (.d (.b true))), none⟩] [])
  (.ret)) (.skip)))
 (.seq (.region (some [0, 1, 2, 3]) [⟨(some 32), .mv (.t 0), none⟩,
   ⟨(some 33), .bin .rem (.t 32) (.c (.d (.i .u8 4))), none⟩,
   ⟨(some 9), .mv (.t 33), none⟩] [])
 (.seq (.region (some [1, 2, 3, 9]) [⟨(some 10), .mv (.c (.d (.i .u8 0))), none⟩] [])
 (.seq (.block 0 (.loop K_paddocklaw23_OrderForks_0 [] l_paddocklaw23_OrderForks_0))
 (.seq (.seq (.region (some [1, 2, 3, 9, 10]) [⟨(some 44), .mv (.t 10), none⟩,
   ⟨(some 45), .bin .eql (.t 44) (.c (.d (.i .u8 6))), none⟩] [])
 (.cond (.t 45) (.seq (.region (some []) [⟨(some 8), .mv (.c (.d (.b true))), none⟩] [])
  (.ret)) (.skip)))
 (.seq (.region (some [1, 2, 3, 9, 10]) [⟨(some 46), .mv (.t 10), none⟩,
   ⟨(some 47), .mv (.t 1), none⟩,
   ⟨(some 48), .build [.d (.i .u8 0), .d (.i .u32 0), .d (.i .u8 0), .d (.i .u8 0), .d (.i .u8 0), .d (.s ⟨#[]⟩)] [(0, 1, .c (.d (.i .u8 1))), (1, 1, .c (.d (.i .u32 1))), (2, 1, .c (.d (.i .u8 1))), (3, 1, .t 46), (5, 1, .t 47)], none⟩,
   ⟨(some 11), .box (.c (.d (.agg [.i .u8 0, .i .u32 0, .i .u8 0, .i .u8 0, .i .u8 0, .s ⟨#[]⟩]))), none⟩,
   ⟨none, .store 6 (.t 11) (.t 48), none⟩] [])
 (.seq (.region (some [2, 3, 9, 10, 11]) [⟨(some 49), .mv (.t 10), none⟩,
   ⟨(some 50), .mv (.t 2), none⟩,
   ⟨(some 51), .build [.d (.i .u8 0), .d (.i .u32 0), .d (.i .u8 0), .d (.i .u8 0), .d (.i .u8 0), .d (.s ⟨#[]⟩)] [(0, 1, .c (.d (.i .u8 2))), (1, 1, .c (.d (.i .u32 1))), (2, 1, .c (.d (.i .u8 1))), (3, 1, .t 49), (5, 1, .t 50)], none⟩,
   ⟨(some 12), .box (.c (.d (.agg [.i .u8 0, .i .u32 0, .i .u8 0, .i .u8 0, .i .u8 0, .s ⟨#[]⟩]))), none⟩,
   ⟨none, .store 6 (.t 12) (.t 51), none⟩] [])
 (.seq (.region (some [3, 9, 11, 12]) [⟨(some 52), .call (.f F_witness_New) [], none⟩,
   ⟨(some 13), .mv (.t 52), none⟩] [])
 (.seq (.seq (.region (some [3, 9, 11, 12, 13]) [⟨(some 53), .mv (.t 13), none⟩,
   ⟨(some 54), .mv (.t 9), none⟩,
   ⟨(some 55), .load true 6 (.t 11), none⟩,
   ⟨(some 56), .build [.d (.i .u32 0), .d (.i .u32 0), .d (.i .u8 0), .d (.i .u32 0), .d (.i .u8 0), .d (.i .u8 0), .d (.i .u8 0), .d (.s ⟨#[]⟩)] [(0, 1, .c (.d (.i .u32 1))), (1, 1, .c (.d (.i .u32 1))), (2, 6, .t 55)], none⟩,
   ⟨(some 57), .bsl 8 [.t 56], none⟩,
   ⟨(some 58), .build Pk.State.zeroA [(0, 1, .c (.d (.i .u32 1))), (48, 1, .t 57)], none⟩,
   ⟨(some 59), .call (.f F_witness_Order_See) [.t 53, .t 54, .t 58], none⟩,
   ⟨(some 60), .bin .neq (.t 59) (.c (.d (.i .i64 0))), none⟩,
   ⟨(some 61), .mv (.t 60), none⟩,
   ⟨(some 62), .mv (.t 3), some (61, false)⟩,
   ⟨(some 63), .mv (.t 62), some (61, false)⟩,
   ⟨(some 64), .mv (.t 13), some (63, true)⟩,
   ⟨(some 65), .load true 6 (.t 11), some (63, true)⟩,
   ⟨(some 66), .build [.d (.i .u8 0), .d (.i .u32 0), .d (.i .u8 0), .d (.i .u8 0), .d (.i .u8 0), .d (.s ⟨#[]⟩), .d (.i .u8 0), .d (.s ⟨#[]⟩)] [(0, 6, .t 65)], some (63, true)⟩,
   ⟨(some 67), .call (.f F_witness_Order_Took) [.t 64, .t 66], some (63, true)⟩,
   ⟨(some 68), .bin .neq (.t 67) (.c (.d (.i .i64 0))), some (63, true)⟩,
   ⟨(some 69), .pick (.t 63) (.t 68) (.c (.d (.b false))), some (61, false)⟩,
   ⟨(some 70), .pick (.t 61) (.c (.d (.b true))) (.t 69), none⟩] [])
 (.cond (.t 70) (.seq (.region (some []) [⟨(some 8), .mv (.c (.d (.b false))), none⟩] [])
  (.ret)) (.skip)))
 (.seq (.region (some [3, 9, 11, 12, 13]) [⟨(some 71), .mv (.t 13), none⟩,
   ⟨(some 72), .mv (.t 9), none⟩,
   ⟨(some 73), .load true 6 (.t 12), none⟩,
   ⟨(some 74), .build [.d (.i .u32 0), .d (.i .u32 0), .d (.i .u8 0), .d (.i .u32 0), .d (.i .u8 0), .d (.i .u8 0), .d (.i .u8 0), .d (.s ⟨#[]⟩)] [(0, 1, .c (.d (.i .u32 5))), (1, 1, .c (.d (.i .u32 1))), (2, 6, .t 73)], none⟩,
   ⟨(some 75), .bsl 8 [.t 74], none⟩,
   ⟨(some 76), .build Pk.State.zeroA [(0, 1, .c (.d (.i .u32 5))), (48, 1, .t 75)], none⟩,
   ⟨(some 77), .call (.f F_witness_Order_See) [.t 71, .t 72, .t 76], none⟩,
   ⟨(some 14), .mv (.t 77), none⟩] [])
 (.seq (.region (some [3, 9, 11, 12, 13, 14]) [⟨(some 79), .mv (.t 13), none⟩,
   ⟨(some 80), .mv (.t 9), none⟩,
   ⟨(some 81), .call (.f F_witness_Order_At) [.t 79, .t 80, .c (.d (.i .u32 1))], none⟩,
   ⟨(some 78), .mv (.t 81), none⟩,
   ⟨(some 82), .ext (.t 78) 0, none⟩,
   ⟨(some 83), .ext (.t 78) 1, none⟩,
   ⟨(some 15), .box (.c (.d (.agg [.i .u32 0, .i .u32 0, .i .u8 0, .i .u32 0, .i .u8 0, .i .u8 0, .i .u8 0, .s ⟨#[]⟩]))), none⟩,
   ⟨none, .store 8 (.t 15) (.t 82), none⟩,
   ⟨(some 16), .mv (.t 83), none⟩] [])
 (.seq (.seq (.region (some [3, 9, 11, 12, 13, 14, 15]) [⟨(some 84), .mv (.t 3), none⟩] [])
 (.cond (.t 84) (.seq (.region (some [11, 14, 15]) [⟨(some 85), .mv (.t 14), none⟩,
    ⟨(some 86), .bin .eql (.t 85) (.c (.d (.i .i64 220))), none⟩,
    ⟨(some 87), .mv (.t 86), none⟩,
    ⟨(some 88), .faddr 2 (.t 15), some (87, true)⟩,
    ⟨(some 89), .load true 6 (.t 88), some (87, true)⟩,
    ⟨(some 90), .load true 6 (.t 11), some (87, true)⟩,
    ⟨(some 91), .eq false Pk.Opr.ety (.t 89) (.t 90), some (87, true)⟩,
    ⟨(some 92), .pick (.t 87) (.t 91) (.c (.d (.b false))), none⟩,
    ⟨(some 8), .mv (.t 92), none⟩] [])
  (.ret)) (.skip)))
 (.seq (.region (some [9, 11, 12, 13, 14, 15]) [⟨(some 93), .mv (.t 14), none⟩,
   ⟨(some 94), .bin .eql (.t 93) (.c (.d (.i .i64 0))), none⟩,
   ⟨(some 95), .mv (.t 94), none⟩,
   ⟨(some 96), .faddr 2 (.t 15), some (95, true)⟩,
   ⟨(some 97), .load true 6 (.t 96), some (95, true)⟩,
   ⟨(some 98), .load true 6 (.t 12), some (95, true)⟩,
   ⟨(some 99), .eq false Pk.Opr.ety (.t 97) (.t 98), some (95, true)⟩,
   ⟨(some 100), .pick (.t 95) (.t 99) (.c (.d (.b false))), none⟩,
   ⟨(some 101), .mv (.t 100), none⟩,
   ⟨(some 102), .mv (.t 13), some (101, true)⟩,
   ⟨(some 103), .load true 6 (.t 11), some (101, true)⟩,
   ⟨(some 104), .build [.d (.i .u8 0), .d (.i .u32 0), .d (.i .u8 0), .d (.i .u8 0), .d (.i .u8 0), .d (.s ⟨#[]⟩), .d (.i .u8 0), .d (.s ⟨#[]⟩)] [(0, 6, .t 103)], some (101, true)⟩,
   ⟨(some 105), .call (.f F_witness_Order_Took) [.t 102, .t 104], some (101, true)⟩,
   ⟨(some 106), .bin .eql (.t 105) (.c (.d (.i .i64 220))), some (101, true)⟩,
   ⟨(some 107), .pick (.t 101) (.t 106) (.c (.d (.b false))), none⟩,
   ⟨(some 108), .mv (.t 107), none⟩,
   ⟨(some 109), .mv (.t 13), some (108, true)⟩,
   ⟨(some 110), .mv (.t 9), some (108, true)⟩,
   ⟨(some 111), .build Pk.State.zeroA [(0, 1, .c (.d (.i .u32 1)))], some (108, true)⟩,
   ⟨(some 112), .call (.f F_witness_Order_See) [.t 109, .t 110, .t 111], some (108, true)⟩,
   ⟨(some 113), .bin .eql (.t 112) (.c (.d (.i .i64 0))), some (108, true)⟩,
   ⟨(some 114), .pick (.t 108) (.t 113) (.c (.d (.b false))), none⟩,
   ⟨(some 115), .mv (.t 114), none⟩,
   ⟨(some 116), .mv (.t 13), some (115, true)⟩,
   ⟨(some 117), .mv (.t 9), some (115, true)⟩,
   ⟨(some 118), .call (.f F_witness_Order_Len) [.t 116, .t 117], some (115, true)⟩,
   ⟨(some 119), .bin .eql (.t 118) (.c (.d (.i .i64 1))), some (115, true)⟩,
   ⟨(some 120), .pick (.t 115) (.t 119) (.c (.d (.b false))), none⟩,
   ⟨(some 8), .mv (.t 120), none⟩] [])
 (.ret)))))))))))))))
def a_paddocklaw23_OrderForks : AFn := .code 4 c_paddocklaw23_OrderForks [.tmp 8]
set_option maxRecDepth 100000 in
theorem k_paddocklaw23_OrderForks : compF Tryd.prog h_paddocklaw23_OrderForks F_paddocklaw23_OrderForks = some a_paddocklaw23_OrderForks := by kernel_rfl

/-- paddock/paddocklaw23.OrderReads -/
def h_paddocklaw23_OrderReads : Hints := { kp := [(0, [0, 1, 2]), (1, [0, 1, 2]), (2, []), (3, [0, 1, 2]), (4, []), (5, [0, 1, 2]), (6, [0, 1, 2, 9]), (7, [0, 1, 2, 9, 10]), (8, [0, 1, 2, 9, 10, 11]), (9, []), (10, [0, 1, 2, 9, 10]), (11, [0, 1, 2, 9, 10, 12]), (12, [0, 1, 2, 9, 10, 12, 13]), (13, [0, 1, 2, 9, 10, 12, 13, 14, 15]), (14, [0, 1, 2, 9, 10, 13, 14, 15, 16])], lkp := [], lth := [] }
def c_paddocklaw23_OrderReads : ACode :=
 .seq (.region (some [0, 1, 2]) [⟨(some 8), .mv (.c (.d (.b false))), none⟩] [])
 (.seq (.seq (.region (some [0, 1, 2]) [⟨(some 17), .call (.f F_paddocklaw23_known) [], none⟩,
   ⟨(some 18), .un .not (.t 17), none⟩] [])
 (.cond (.t 18) (.seq (.region (some []) [⟨(some 8), .mv (.c (.d (.b false))), none⟩] [])
  (.ret)) (.skip)))
 (.seq (.seq (.region (some [0, 1, 2]) [⟨(some 19), .mv (.t 0), none⟩,
   ⟨(some 20), .len true (.t 19), none⟩,
   ⟨(some 21), .bin .gtr (.t 20) (.c (.d (.i .i64 8))), none⟩,
   ⟨(some 22), .mv (.t 21), none⟩,
   ⟨(some 23), .mv (.t 1), some (22, false)⟩,
   ⟨(some 24), .len true (.t 23), some (22, false)⟩,
   ⟨(some 25), .bin .gtr (.t 24) (.c (.d (.i .i64 8))), some (22, false)⟩,
   ⟨(some 26), .pick (.t 22) (.c (.d (.b true))) (.t 25), none⟩,
   ⟨(some 27), .mv (.t 26), none⟩,
   ⟨(some 28), .mv (.t 2), some (27, false)⟩,
   ⟨(some 29), .len true (.t 28), some (27, false)⟩,
   ⟨(some 30), .bin .gtr (.t 29) (.c (.d (.i .i64 30))), some (27, false)⟩,
   ⟨(some 31), .pick (.t 27) (.c (.d (.b true))) (.t 30), none⟩] [])
 (.cond (.t 31) (.seq (.region (some []) [⟨(some 8), .mv (.c (.d (.b true))), none⟩] [])
  (.ret)) (.skip)))
 (.seq (.region (some [0, 1, 2]) [⟨(some 32), .call (.f F_bits_Group) [.c (.d (.i .u8 0))], none⟩,
   ⟨(some 9), .mv (.t 32), none⟩] [])
 (.seq (.region (some [0, 1, 2, 9]) [⟨(some 33), .call (.f F_witness_New) [], none⟩,
   ⟨(some 10), .mv (.t 33), none⟩] [])
 (.seq (.region (some [0, 1, 2, 9, 10]) [⟨(some 34), .mv (.t 0), none⟩,
   ⟨(some 35), .build [.d (.i .u8 0), .d (.i .u32 0), .d (.i .u8 0), .d (.i .u8 0), .d (.i .u8 0), .d (.s ⟨#[]⟩)] [(0, 1, .c (.d (.i .u8 1))), (1, 1, .c (.d (.i .u32 1))), (2, 1, .c (.d (.i .u8 1))), (5, 1, .t 34)], none⟩,
   ⟨(some 36), .build [.d (.i .u32 0), .d (.i .u32 0), .d (.i .u8 0), .d (.i .u32 0), .d (.i .u8 0), .d (.i .u8 0), .d (.i .u8 0), .d (.s ⟨#[]⟩)] [(0, 1, .c (.d (.i .u32 1))), (1, 1, .c (.d (.i .u32 1))), (2, 6, .t 35)], none⟩,
   ⟨(some 37), .build [.d (.i .u8 0), .d (.i .u32 0), .d (.i .u8 0), .d (.i .u8 0), .d (.i .u8 0), .d (.s ⟨#[]⟩)] [(0, 1, .c (.d (.i .u8 1))), (1, 1, .c (.d (.i .u32 2))), (2, 1, .c (.d (.i .u8 4)))], none⟩,
   ⟨(some 38), .build [.d (.i .u32 0), .d (.i .u32 0), .d (.i .u8 0), .d (.i .u32 0), .d (.i .u8 0), .d (.i .u8 0), .d (.i .u8 0), .d (.s ⟨#[]⟩)] [(0, 1, .c (.d (.i .u32 1))), (1, 1, .c (.d (.i .u32 2))), (2, 6, .t 37)], none⟩,
   ⟨(some 39), .mv (.t 1), none⟩,
   ⟨(some 40), .build [.d (.i .u8 0), .d (.i .u32 0), .d (.i .u8 0), .d (.i .u8 0), .d (.i .u8 0), .d (.s ⟨#[]⟩)] [(0, 1, .c (.d (.i .u8 1))), (1, 1, .c (.d (.i .u32 3))), (2, 1, .c (.d (.i .u8 1))), (5, 1, .t 39)], none⟩,
   ⟨(some 41), .build [.d (.i .u32 0), .d (.i .u32 0), .d (.i .u8 0), .d (.i .u32 0), .d (.i .u8 0), .d (.i .u8 0), .d (.i .u8 0), .d (.s ⟨#[]⟩)] [(0, 1, .c (.d (.i .u32 1))), (1, 1, .c (.d (.i .u32 3))), (2, 6, .t 40)], none⟩,
   ⟨(some 42), .bsl 8 [.t 36, .t 38, .t 41], none⟩,
   ⟨(some 11), .mv (.t 42), none⟩] [])
 (.seq (.seq (.region (some [0, 1, 2, 9, 10, 11]) [⟨(some 43), .mv (.t 10), none⟩,
   ⟨(some 44), .mv (.t 9), none⟩,
   ⟨(some 45), .mv (.t 11), none⟩,
   ⟨(some 46), .build Pk.State.zeroA [(0, 1, .c (.d (.i .u32 1))), (48, 1, .t 45)], none⟩,
   ⟨(some 47), .call (.f F_witness_Order_See) [.t 43, .t 44, .t 46], none⟩,
   ⟨(some 48), .bin .neq (.t 47) (.c (.d (.i .i64 0))), none⟩] [])
 (.cond (.t 48) (.seq (.region (some []) [⟨(some 8), .mv (.c (.d (.b false))), none⟩] [])
  (.ret)) (.skip)))
 (.seq (.region (some [0, 1, 2, 9, 10]) [⟨(some 49), .build [.d (.i .u8 0), .d (.i .u32 0), .d (.i .u8 0), .d (.i .u8 0), .d (.i .u8 0), .d (.s ⟨#[]⟩)] [(0, 1, .c (.d (.i .u8 2))), (1, 1, .c (.d (.i .u32 1))), (2, 1, .c (.d (.i .u8 5)))], none⟩,
   ⟨(some 12), .box (.c (.d (.agg [.i .u8 0, .i .u32 0, .i .u8 0, .i .u8 0, .i .u8 0, .s ⟨#[]⟩]))), none⟩,
   ⟨none, .store 6 (.t 12) (.t 49), none⟩] [])
 (.seq (.region (some [0, 1, 2, 9, 10, 12]) [⟨(some 50), .mv (.t 10), none⟩,
   ⟨(some 51), .load true 6 (.t 12), none⟩,
   ⟨(some 52), .build [.d (.i .u8 0), .d (.s ⟨#[]⟩)] [(0, 1, .c (.d (.i .u8 1)))], none⟩,
   ⟨(some 53), .build [.d (.i .u8 0), .d (.i .u32 0), .d (.i .u8 0), .d (.i .u8 0), .d (.i .u8 0), .d (.s ⟨#[]⟩), .d (.i .u8 0), .d (.s ⟨#[]⟩)] [(0, 6, .t 51), (6, 2, .t 52)], none⟩,
   ⟨(some 54), .call (.f F_witness_Order_Took) [.t 50, .t 53], none⟩,
   ⟨(some 13), .mv (.t 54), none⟩] [])
 (.seq (.region (some [0, 1, 2, 9, 10, 12, 13]) [⟨(some 55), .mv (.t 10), none⟩,
   ⟨(some 56), .load true 6 (.t 12), none⟩,
   ⟨(some 57), .mv (.t 0), none⟩,
   ⟨(some 58), .build [.d (.i .u8 0), .d (.s ⟨#[]⟩)] [(1, 1, .t 57)], none⟩,
   ⟨(some 59), .build [.d (.i .u8 0), .d (.i .u32 0), .d (.i .u8 0), .d (.i .u8 0), .d (.i .u8 0), .d (.s ⟨#[]⟩), .d (.i .u8 0), .d (.s ⟨#[]⟩)] [(0, 6, .t 56), (6, 2, .t 58)], none⟩,
   ⟨(some 60), .call (.f F_witness_Order_Took) [.t 55, .t 59], none⟩,
   ⟨(some 61), .mv (.t 10), none⟩,
   ⟨(some 62), .load true 6 (.t 12), none⟩,
   ⟨(some 63), .mv (.t 1), none⟩,
   ⟨(some 64), .build [.d (.i .u8 0), .d (.s ⟨#[]⟩)] [(1, 1, .t 63)], none⟩,
   ⟨(some 65), .build [.d (.i .u8 0), .d (.i .u32 0), .d (.i .u8 0), .d (.i .u8 0), .d (.i .u8 0), .d (.s ⟨#[]⟩), .d (.i .u8 0), .d (.s ⟨#[]⟩)] [(0, 6, .t 62), (6, 2, .t 64)], none⟩,
   ⟨(some 66), .call (.f F_witness_Order_Took) [.t 61, .t 65], none⟩,
   ⟨(some 14), .mv (.t 60), none⟩,
   ⟨(some 15), .mv (.t 66), none⟩] [(1, 7), (5, 7)])
 (.seq (.region (some [0, 1, 2, 9, 10, 12, 13, 14, 15]) [⟨(some 67), .mv (.t 10), none⟩,
   ⟨(some 68), .load true 6 (.t 12), none⟩,
   ⟨(some 69), .mv (.t 2), none⟩,
   ⟨(some 70), .build [.d (.i .u8 0), .d (.s ⟨#[]⟩)] [(1, 1, .t 69)], none⟩,
   ⟨(some 71), .build [.d (.i .u8 0), .d (.i .u32 0), .d (.i .u8 0), .d (.i .u8 0), .d (.i .u8 0), .d (.s ⟨#[]⟩), .d (.i .u8 0), .d (.s ⟨#[]⟩)] [(0, 6, .t 68), (6, 2, .t 70)], none⟩,
   ⟨(some 72), .call (.f F_witness_Order_Took) [.t 67, .t 71], none⟩,
   ⟨(some 16), .mv (.t 72), none⟩] [])
 (.seq (.region (some [0, 1, 2, 9, 10, 13, 14, 15, 16]) [⟨(some 73), .mv (.t 13), none⟩,
   ⟨(some 74), .bin .eql (.t 73) (.c (.d (.i .i64 0))), none⟩,
   ⟨(some 75), .mv (.t 74), none⟩,
   ⟨(some 76), .mv (.t 14), some (75, true)⟩,
   ⟨(some 77), .bin .eql (.t 76) (.c (.d (.i .i64 0))), some (75, true)⟩,
   ⟨(some 78), .pick (.t 75) (.t 77) (.c (.d (.b false))), none⟩,
   ⟨(some 79), .mv (.t 78), none⟩,
   ⟨(some 80), .mv (.t 15), some (79, true)⟩,
   ⟨(some 81), .bin .eql (.t 80) (.c (.d (.i .i64 0))), some (79, true)⟩,
   ⟨(some 82), .pick (.t 79) (.t 81) (.c (.d (.b false))), none⟩,
   ⟨(some 83), .mv (.t 82), none⟩,
   ⟨(some 84), .mv (.t 16), some (83, true)⟩,
   ⟨(some 85), .bin .eql (.t 84) (.c (.d (.i .i64 0))), some (83, true)⟩,
   ⟨(some 86), .mv (.t 2), some (83, true)⟩,
   ⟨(some 87), .mv (.t 0), some (83, true)⟩,
   ⟨(some 88), .bin .eql (.t 86) (.t 87), some (83, true)⟩,
   ⟨(some 89), .mv (.t 88), some (83, true)⟩,
   ⟨(some 90), .mv (.t 2), some (89, false)⟩,
   ⟨(some 91), .mv (.t 1), some (89, false)⟩,
   ⟨(some 92), .bin .eql (.t 90) (.t 91), some (89, false)⟩,
   ⟨(some 93), .pick (.t 89) (.c (.d (.b true))) (.t 92), some (83, true)⟩,
   ⟨(some 94), .eq false (.sb) (.t 85) (.t 93), some (83, true)⟩,
   ⟨(some 95), .pick (.t 83) (.t 94) (.c (.d (.b false))), none⟩,
   ⟨(some 96), .mv (.t 95), none⟩,
   ⟨(some 97), .mv (.t 10), some (96, true)⟩,
   ⟨(some 98), .mv (.t 9), some (96, true)⟩,
   ⟨(some 99), .call (.f F_witness_Order_Acked) [.t 97, .t 98], some (96, true)⟩,
   ⟨(some 100), .bin .eql (.t 99) (.c (.d (.i .u32 0))), some (96, true)⟩,
   ⟨(some 101), .pick (.t 96) (.t 100) (.c (.d (.b false))), none⟩,
   ⟨(some 102), .mv (.t 101), none⟩,
   ⟨(some 103), .mv (.t 10), some (102, true)⟩,
   ⟨(some 104), .mv (.t 9), some (102, true)⟩,
   ⟨(some 105), .call (.f F_witness_Order_Len) [.t 103, .t 104], some (102, true)⟩,
   ⟨(some 106), .bin .eql (.t 105) (.c (.d (.i .i64 3))), some (102, true)⟩,
   ⟨(some 107), .pick (.t 102) (.t 106) (.c (.d (.b false))), none⟩,
   ⟨(some 8), .mv (.t 107), none⟩] [])
 (.ret))))))))))))
def a_paddocklaw23_OrderReads : AFn := .code 4 c_paddocklaw23_OrderReads [.tmp 8]
set_option maxRecDepth 100000 in
theorem k_paddocklaw23_OrderReads : compF Tryd.prog h_paddocklaw23_OrderReads F_paddocklaw23_OrderReads = some a_paddocklaw23_OrderReads := by kernel_rfl

/-- paddock/paddocklaw23.OrderRows -/
def h_paddocklaw23_OrderRows : Hints := { kp := [(0, [0, 1, 2]), (1, [0, 1, 2]), (2, []), (3, [0, 1, 2]), (4, []), (5, [0, 1, 2]), (6, [1, 2, 7]), (7, [1, 2, 7, 8]), (8, [1, 2, 7, 8, 9]), (9, [1, 2, 7, 8, 9, 10]), (10, [1, 2, 7, 8, 9, 10, 11]), (11, [1, 2, 7, 8, 9, 10, 11, 12]), (13, [1, 2, 7, 8, 9, 10, 11, 12]), (14, [1, 2, 7, 8, 9, 10, 11, 12]), (15, [1, 2, 7, 8, 9, 10, 11, 12, 13]), (16, [1, 2, 7, 8, 9, 10, 11, 12, 13]), (17, [1, 2, 7, 8, 9, 10, 11, 12, 13, 14, 15]), (18, [1, 2, 7, 8, 9, 10, 11, 12, 13, 14, 15, 16, 17]), (19, []), (20, [1, 2, 7, 8, 9, 10, 11, 12, 13, 14, 15, 16]), (21, [1, 2, 7, 8, 9, 10, 11, 12, 13, 15]), (22, [1, 2, 7, 8, 9, 10, 11, 12, 13, 15, 18]), (23, [1, 2, 7, 8, 9, 10, 11, 12, 13, 15, 18]), (24, []), (12, [1, 2, 7, 8, 9, 10, 11, 12]), (25, [7, 8, 10, 11]), (26, [7, 8, 10, 11, 19, 20]), (27, [7, 8, 10, 11, 19, 20, 22])], lkp := [(11, [1, 2, 7, 8, 9, 10, 11, 12])], lth := [] }
def K_paddocklaw23_OrderRows_0 : Option (List Nat) := (some [1, 2, 7, 8, 9, 10, 11, 12])
def l_paddocklaw23_OrderRows_0 : ACode :=
 .seq (.seq (.region (some [1, 2, 7, 8, 9, 10, 11, 12]) [⟨(some 33), .mv (.t 12), none⟩,
   ⟨(some 34), .mv (.t 1), none⟩,
   ⟨(some 35), .len false (.t 34), none⟩,
   ⟨(some 36), .bin .lss (.t 33) (.t 35), none⟩] [])
 (.cond (.t 36) (.skip) (.exit 0)))
 (.seq (.block 1 (.seq (.seq (.region (some [1, 2, 7, 8, 9, 10, 11, 12]) [⟨(some 39), .mv (.t 1), none⟩,
    ⟨(some 40), .mv (.t 12), none⟩,
    ⟨(some 41), .iaddrS 6 (.t 39) (.t 40), none⟩,
    ⟨(some 42), .load true 6 (.t 41), none⟩,
    ⟨(some 43), .call (.f F_objects_Writes) [.t 42], none⟩,
    ⟨(some 44), .un .not (.t 43), none⟩,
    ⟨(some 45), .mv (.t 44), none⟩,
    ⟨(some 46), .mv (.t 1), some (45, false)⟩,
    ⟨(some 47), .mv (.t 12), some (45, false)⟩,
    ⟨(some 48), .iaddrS 6 (.t 46) (.t 47), some (45, false)⟩,
    ⟨(some 49), .faddr 3 (.t 48), some (45, false)⟩,
    ⟨(some 50), .load false 1 (.t 49), some (45, false)⟩,
    ⟨(some 51), .call (.f F_bits_Group) [.t 50], some (45, false)⟩,
    ⟨(some 52), .mv (.t 7), some (45, false)⟩,
    ⟨(some 53), .bin .neq (.t 51) (.t 52), some (45, false)⟩,
    ⟨(some 54), .pick (.t 45) (.c (.d (.b true))) (.t 53), none⟩] [])
  (.cond (.t 54) (.exit 1) (.skip)))
  (.seq (.region (some [1, 2, 7, 8, 9, 10, 11, 12]) [⟨(some 55), .mv (.t 1), none⟩,
    ⟨(some 56), .mv (.t 12), none⟩,
    ⟨(some 57), .iaddrS 6 (.t 55) (.t 56), none⟩,
    ⟨(some 58), .load true 6 (.t 57), none⟩,
    ⟨(some 13), .box (.c (.d (.agg [.i .u8 0, .i .u32 0, .i .u8 0, .i .u8 0, .i .u8 0, .s ⟨#[]⟩]))), none⟩,
    ⟨none, .store 6 (.t 13) (.t 58), none⟩] [])
  (.seq (.region (some [1, 2, 7, 8, 9, 10, 11, 12, 13]) [⟨(some 59), .mv (.t 11), none⟩,
    ⟨(some 60), .bin .add (.t 59) (.c (.d (.i .u32 1))), none⟩,
    ⟨(some 61), .faddr 0 (.t 13), none⟩,
    ⟨none, .store 1 (.t 61) (.c (.d (.i .u8 1))), none⟩,
    ⟨(some 62), .faddr 1 (.t 13), none⟩,
    ⟨none, .store 1 (.t 62) (.t 60), none⟩] [])
  (.seq (.region (some [1, 2, 7, 8, 9, 10, 11, 12, 13]) [⟨(some 64), .load true 39 (.t 10), none⟩,
    ⟨(some 65), .load true 6 (.t 13), none⟩,
    ⟨(some 66), .call (.f F_objects_Do) [.t 64, .t 65], none⟩,
    ⟨(some 63), .mv (.t 66), none⟩,
    ⟨(some 67), .ext (.t 63) 0, none⟩,
    ⟨(some 68), .ext (.t 63) 1, none⟩,
    ⟨(some 14), .box (.c (.d (.agg Pk.Base.zero.cs))), none⟩,
    ⟨(some 15), .box (.c (.d (.agg [.i .u8 0, .s ⟨#[]⟩]))), none⟩,
    ⟨none, .store 39 (.t 14) (.t 67), none⟩,
    ⟨none, .store 2 (.t 15) (.t 68), none⟩] [])
  (.seq (.region (some [1, 2, 7, 8, 9, 10, 11, 12, 13, 14, 15]) [⟨(some 70), .load true 49 (.t 9), none⟩,
    ⟨(some 71), .mv (.t 11), none⟩,
    ⟨(some 72), .bin .add (.t 71) (.c (.d (.i .u32 1))), none⟩,
    ⟨(some 73), .load true 6 (.t 13), none⟩,
    ⟨(some 74), .build [.d (.i .u32 0), .d (.i .u32 0), .d (.i .u8 0), .d (.i .u32 0), .d (.i .u8 0), .d (.i .u8 0), .d (.i .u8 0), .d (.s ⟨#[]⟩)] [(0, 1, .c (.d (.i .u32 1))), (1, 1, .t 72), (2, 6, .t 73)], none⟩,
    ⟨(some 75), .call (.f F_pglog_Add) [.t 70, .t 74], none⟩,
    ⟨(some 69), .mv (.t 75), none⟩,
    ⟨(some 76), .ext (.t 69) 0, none⟩,
    ⟨(some 77), .ext (.t 69) 1, none⟩,
    ⟨(some 16), .box (.c (.agg Pk.State.zeroA)), none⟩,
    ⟨none, .store 49 (.t 16) (.t 76), none⟩,
    ⟨(some 17), .mv (.t 77), none⟩] [])
  (.seq (.seq (.region (some [1, 2, 7, 8, 9, 10, 11, 12, 13, 14, 15, 16, 17]) [⟨(some 78), .mv (.t 17), none⟩,
    ⟨(some 79), .bin .neq (.t 78) (.c (.d (.i .i64 0))), none⟩,
    ⟨(some 80), .mv (.t 79), none⟩,
    ⟨(some 81), .mv (.t 8), some (80, false)⟩,
    ⟨(some 82), .mv (.t 7), some (80, false)⟩,
    ⟨(some 83), .load true 49 (.t 16), some (80, false)⟩,
    ⟨(some 84), .call (.f F_witness_Order_See) [.t 81, .t 82, .t 83], some (80, false)⟩,
    ⟨(some 85), .bin .neq (.t 84) (.c (.d (.i .i64 0))), some (80, false)⟩,
    ⟨(some 86), .pick (.t 80) (.c (.d (.b true))) (.t 85), none⟩] [])
  (.cond (.t 86) (.seq (.region (some []) [⟨(some 6), .mv (.c (.d (.b false))), none⟩] [])
   (.ret)) (.skip)))
  (.seq (.region (some [1, 2, 7, 8, 9, 10, 11, 12, 13, 14, 15, 16]) [⟨(some 87), .load true 49 (.t 16), none⟩,
    ⟨(some 88), .load true 39 (.t 14), none⟩,
    ⟨(some 89), .mv (.t 11), none⟩,
    ⟨(some 90), .bin .add (.t 89) (.c (.d (.i .u32 1))), none⟩,
    ⟨none, .store 49 (.t 9) (.t 87), none⟩,
    ⟨none, .store 39 (.t 10) (.t 88), none⟩,
    ⟨(some 11), .mv (.t 90), none⟩] [(0, 1), (1, 4)])
  (.seq (.region (some [1, 2, 7, 8, 9, 10, 11, 12, 13, 15]) [⟨(some 91), .load true 2 (.t 15), none⟩,
    ⟨(some 18), .box (.c (.d (.agg [.i .u8 0, .s ⟨#[]⟩]))), none⟩,
    ⟨none, .store 2 (.t 18) (.t 91), none⟩] [])
  (.seq (.region (some [1, 2, 7, 8, 9, 10, 11, 12, 13, 15, 18]) [⟨(some 92), .faddr 0 (.t 15), none⟩,
    ⟨(some 93), .load false 1 (.t 92), none⟩,
    ⟨(some 94), .bin .add (.t 93) (.c (.d (.i .u8 1))), none⟩,
    ⟨(some 95), .mv (.t 2), none⟩,
    ⟨(some 96), .bin .rem (.t 95) (.c (.d (.i .u8 3))), none⟩,
    ⟨(some 97), .bin .add (.t 94) (.t 96), none⟩,
    ⟨(some 98), .bin .rem (.t 97) (.c (.d (.i .u8 4))), none⟩,
    ⟨(some 99), .faddr 0 (.t 18), none⟩,
    ⟨none, .store 1 (.t 99) (.t 98), none⟩] [])
  (.seq (.region (some [1, 2, 7, 8, 9, 10, 11, 12, 13, 15, 18]) [⟨(some 100), .mv (.t 8), none⟩,
    ⟨(some 101), .load true 6 (.t 13), none⟩,
    ⟨(some 102), .load true 2 (.t 18), none⟩,
    ⟨(some 103), .build [.d (.i .u8 0), .d (.i .u32 0), .d (.i .u8 0), .d (.i .u8 0), .d (.i .u8 0), .d (.s ⟨#[]⟩), .d (.i .u8 0), .d (.s ⟨#[]⟩)] [(0, 6, .t 101), (6, 2, .t 102)], none⟩,
    ⟨(some 104), .call (.f F_witness_Order_Took) [.t 100, .t 103], none⟩,
    ⟨(some 105), .bin .neq (.t 104) (.c (.d (.i .i64 220))), none⟩,
    ⟨(some 106), .mv (.t 105), none⟩,
    ⟨(some 107), .mv (.t 8), some (106, false)⟩,
    ⟨(some 108), .load true 6 (.t 13), some (106, false)⟩,
    ⟨(some 109), .load true 2 (.t 15), some (106, false)⟩,
    ⟨(some 110), .build [.d (.i .u8 0), .d (.i .u32 0), .d (.i .u8 0), .d (.i .u8 0), .d (.i .u8 0), .d (.s ⟨#[]⟩), .d (.i .u8 0), .d (.s ⟨#[]⟩)] [(0, 6, .t 108), (6, 2, .t 109)], some (106, false)⟩,
    ⟨(some 111), .call (.f F_witness_Order_Took) [.t 107, .t 110], some (106, false)⟩,
    ⟨(some 112), .bin .neq (.t 111) (.c (.d (.i .i64 0))), some (106, false)⟩,
    ⟨(some 113), .pick (.t 106) (.c (.d (.b true))) (.t 112), none⟩,
    ⟨(some 114), .mv (.t 113), none⟩,
    ⟨(some 115), .mv (.t 8), some (114, false)⟩,
    ⟨(some 116), .mv (.t 7), some (114, false)⟩,
    ⟨(some 117), .call (.f F_witness_Order_Acked) [.t 115, .t 116], some (114, false)⟩,
    ⟨(some 118), .mv (.t 11), some (114, false)⟩,
    ⟨(some 119), .bin .neq (.t 117) (.t 118), some (114, false)⟩,
    ⟨(some 120), .pick (.t 114) (.c (.d (.b true))) (.t 119), none⟩] [])
  (.cond (.t 120) (.seq (.region (some []) [⟨(some 6), .mv (.c (.d (.b false))), none⟩] [])
   (.ret)) (.skip)))))))))))))
 (.region (some [1, 2, 7, 8, 9, 10, 11, 12]) [⟨(some 37), .mv (.t 12), none⟩,
   ⟨(some 38), .bin .add (.t 37) (.c (.d (.i .i64 1))), none⟩,
   ⟨(some 12), .mv (.t 38), none⟩] []))
def c_paddocklaw23_OrderRows : ACode :=
 .seq (.region (some [0, 1, 2]) [⟨(some 6), .mv (.c (.d (.b false))), none⟩] [])
 (.seq (.seq (.region (some [0, 1, 2]) [⟨(some 23), .call (.f F_paddocklaw23_known) [], none⟩,
   ⟨(some 24), .un .not (.t 23), none⟩] [])
 (.cond (.t 24) (.seq (.region (some []) [⟨(some 6), .mv (.c (.d (.b false))), none⟩] [])
  (.ret)) (.skip)))
 (.seq (.seq (.region (some [0, 1, 2]) [⟨(some 25), .mv (.t 1), none⟩,
   ⟨(some 26), .len false (.t 25), none⟩,
   ⟨(some 27), .bin .gtr (.t 26) (.c (.d (.i .i64 25))), none⟩] [])
 (.cond (.t 27) (.seq (.region (some []) [⟨(some 6), .mv (.c (.d (.b true))), none⟩] [])
  (.ret)) (.skip)))
 (.seq (.region (some [0, 1, 2]) [⟨(some 28), .mv (.t 0), none⟩,
   ⟨(some 29), .bin .rem (.t 28) (.c (.d (.i .u8 4))), none⟩,
   ⟨(some 7), .mv (.t 29), none⟩] [])
 (.seq (.region (some [1, 2, 7]) [⟨(some 30), .call (.f F_witness_New) [], none⟩,
   ⟨(some 8), .mv (.t 30), none⟩] [])
 (.seq (.region (some [1, 2, 7, 8]) [⟨(some 31), .build Pk.State.zeroA [(0, 1, .c (.d (.i .u32 1)))], none⟩,
   ⟨(some 9), .box (.c (.agg Pk.State.zeroA)), none⟩,
   ⟨none, .store 49 (.t 9) (.t 31), none⟩] [])
 (.seq (.region (some [1, 2, 7, 8, 9]) [⟨(some 32), .build (List.map .d Pk.Base.zero.cs) [], none⟩,
   ⟨(some 10), .box (.c (.d (.agg Pk.Base.zero.cs))), none⟩,
   ⟨none, .store 39 (.t 10) (.t 32), none⟩] [])
 (.seq (.region (some [1, 2, 7, 8, 9, 10]) [⟨(some 11), .mv (.c (.d (.i .u32 0))), none⟩] [])
 (.seq (.seq (.region (some [1, 2, 7, 8, 9, 10, 11]) [⟨(some 12), .mv (.c (.d (.i .i64 0))), none⟩] [])
 (.block 0 (.loop K_paddocklaw23_OrderRows_0 [] l_paddocklaw23_OrderRows_0)))
 (.seq (.region (some [7, 8, 10, 11]) [⟨(some 122), .mv (.t 8), none⟩,
   ⟨(some 123), .mv (.t 7), none⟩,
   ⟨(some 124), .mv (.t 11), none⟩,
   ⟨(some 125), .call (.f F_witness_Order_Base) [.t 122, .t 123, .t 124], none⟩,
   ⟨(some 121), .mv (.t 125), none⟩,
   ⟨(some 126), .ext (.t 121) 0, none⟩,
   ⟨(some 127), .ext (.t 121) 1, none⟩,
   ⟨(some 19), .box (.c (.d (.agg Pk.Base.zero.cs))), none⟩,
   ⟨none, .store 39 (.t 19) (.t 126), none⟩,
   ⟨(some 20), .mv (.t 127), none⟩] [])
 (.seq (.region (some [7, 8, 10, 11, 19, 20]) [⟨(some 129), .mv (.t 8), none⟩,
   ⟨(some 130), .mv (.t 7), none⟩,
   ⟨(some 131), .mv (.t 11), none⟩,
   ⟨(some 132), .bin .add (.t 131) (.c (.d (.i .u32 1))), none⟩,
   ⟨(some 133), .call (.f F_witness_Order_Base) [.t 129, .t 130, .t 132], none⟩,
   ⟨(some 128), .mv (.t 133), none⟩,
   ⟨(some 134), .ext (.t 128) 0, none⟩,
   ⟨(some 135), .ext (.t 128) 1, none⟩,
   ⟨(some 21), .box (.c (.d (.agg Pk.Base.zero.cs))), none⟩,
   ⟨none, .store 39 (.t 21) (.t 134), none⟩,
   ⟨(some 22), .mv (.t 135), none⟩] [])
 (.seq (.region (some [7, 8, 10, 11, 19, 20, 22]) [⟨(some 136), .mv (.t 8), none⟩,
   ⟨(some 137), .mv (.t 7), none⟩,
   ⟨(some 138), .call (.f F_witness_Order_Len) [.t 136, .t 137], none⟩,
   ⟨(some 139), .mv (.t 11), none⟩,
   ⟨(some 140), .conv .i64 (.t 139), none⟩,
   ⟨(some 141), .bin .eql (.t 138) (.t 140), none⟩,
   ⟨(some 142), .mv (.t 141), none⟩,
   ⟨(some 143), .mv (.t 20), some (142, true)⟩,
   ⟨(some 144), .pick (.t 142) (.t 143) (.c (.d (.b false))), none⟩,
   ⟨(some 145), .mv (.t 144), none⟩,
   ⟨(some 146), .load true 39 (.t 19), some (145, true)⟩,
   ⟨(some 147), .load true 39 (.t 10), some (145, true)⟩,
   ⟨(some 148), .eq false Pk.Base.ety (.t 146) (.t 147), some (145, true)⟩,
   ⟨(some 149), .pick (.t 145) (.t 148) (.c (.d (.b false))), none⟩,
   ⟨(some 150), .mv (.t 149), none⟩,
   ⟨(some 151), .mv (.t 22), some (150, true)⟩,
   ⟨(some 152), .un .not (.t 151), some (150, true)⟩,
   ⟨(some 153), .pick (.t 150) (.t 152) (.c (.d (.b false))), none⟩,
   ⟨(some 154), .mv (.t 153), none⟩,
   ⟨(some 155), .mv (.t 8), some (154, true)⟩,
   ⟨(some 156), .mv (.t 7), some (154, true)⟩,
   ⟨(some 157), .bin .add (.t 156) (.c (.d (.i .u8 1))), some (154, true)⟩,
   ⟨(some 158), .bin .rem (.t 157) (.c (.d (.i .u8 4))), some (154, true)⟩,
   ⟨(some 159), .call (.f F_witness_Order_Acked) [.t 155, .t 158], some (154, true)⟩,
   ⟨(some 160), .bin .eql (.t 159) (.c (.d (.i .u32 0))), some (154, true)⟩,
   ⟨(some 161), .pick (.t 154) (.t 160) (.c (.d (.b false))), none⟩,
   ⟨(some 6), .mv (.t 161), none⟩] [])
 (.ret))))))))))))
def a_paddocklaw23_OrderRows : AFn := .code 3 c_paddocklaw23_OrderRows [.tmp 6]
set_option maxRecDepth 100000 in
theorem k_paddocklaw23_OrderRows : compF Tryd.prog h_paddocklaw23_OrderRows F_paddocklaw23_OrderRows = some a_paddocklaw23_OrderRows := by kernel_rfl

/-- paddock/paddocklaw23.known -/
def h_paddocklaw23_known : Hints := { kp := [(0, []), (1, []), (2, [1]), (3, [1, 2]), (4, [1, 2, 3]), (5, [1, 2, 3, 4]), (6, []), (7, [1, 2, 3, 4]), (8, [1, 2, 3, 4, 5, 6])], lkp := [], lth := [] }
def c_paddocklaw23_known : ACode :=
 .seq (.region (some []) [⟨(some 0), .mv (.c (.d (.b false))), none⟩] [])
 (.seq (.region (some []) [⟨(some 7), .call (.f F_witness_New) [], none⟩,
   ⟨(some 1), .mv (.t 7), none⟩] [])
 (.seq (.region (some [1]) [⟨(some 8), .build [.d (.i .u8 0), .d (.i .u32 0), .d (.i .u8 0), .d (.i .u8 0), .d (.i .u8 0), .d (.s ⟨#[]⟩)] [(0, 1, .c (.d (.i .u8 1))), (1, 1, .c (.d (.i .u32 1))), (2, 1, .c (.d (.i .u8 1))), (5, 1, .c (.d (.s ⟨#[97]⟩)))], none⟩,
   ⟨(some 2), .box (.c (.d (.agg [.i .u8 0, .i .u32 0, .i .u8 0, .i .u8 0, .i .u8 0, .s ⟨#[]⟩]))), none⟩,
   ⟨none, .store 6 (.t 2) (.t 8), none⟩] [])
 (.seq (.region (some [1, 2]) [⟨(some 9), .call (.f F_paddockref1_Group) [.c (.d (.i .u8 0))], none⟩,
   ⟨(some 3), .mv (.t 9), none⟩] [])
 (.seq (.region (some [1, 2, 3]) [⟨(some 10), .load true 6 (.t 2), none⟩,
   ⟨(some 11), .build [.d (.i .u32 0), .d (.i .u32 0), .d (.i .u8 0), .d (.i .u32 0), .d (.i .u8 0), .d (.i .u8 0), .d (.i .u8 0), .d (.s ⟨#[]⟩)] [(0, 1, .c (.d (.i .u32 1))), (1, 1, .c (.d (.i .u32 1))), (2, 6, .t 10)], none⟩,
   ⟨(some 12), .bsl 8 [.t 11], none⟩,
   ⟨(some 13), .build Pk.State.zeroA [(0, 1, .c (.d (.i .u32 1))), (48, 1, .t 12)], none⟩,
   ⟨(some 4), .box (.c (.agg Pk.State.zeroA)), none⟩,
   ⟨none, .store 49 (.t 4) (.t 13), none⟩] [])
 (.seq (.seq (.region (some [1, 2, 3, 4]) [⟨(some 14), .mv (.t 1), none⟩,
   ⟨(some 15), .pnil false (.t 14), none⟩,
   ⟨(some 16), .mv (.t 15), none⟩,
   ⟨(some 17), .mv (.t 1), some (16, false)⟩,
   ⟨(some 18), .mv (.t 3), some (16, false)⟩,
   ⟨(some 19), .load true 49 (.t 4), some (16, false)⟩,
   ⟨(some 20), .call (.f F_witness_Order_See) [.t 17, .t 18, .t 19], some (16, false)⟩,
   ⟨(some 21), .bin .neq (.t 20) (.c (.d (.i .i64 0))), some (16, false)⟩,
   ⟨(some 22), .pick (.t 16) (.c (.d (.b true))) (.t 21), none⟩,
   ⟨(some 23), .mv (.t 22), none⟩,
   ⟨(some 24), .mv (.t 1), some (23, false)⟩,
   ⟨(some 25), .load true 6 (.t 2), some (23, false)⟩,
   ⟨(some 26), .build [.d (.i .u8 0), .d (.i .u32 0), .d (.i .u8 0), .d (.i .u8 0), .d (.i .u8 0), .d (.s ⟨#[]⟩), .d (.i .u8 0), .d (.s ⟨#[]⟩)] [(0, 6, .t 25)], some (23, false)⟩,
   ⟨(some 27), .call (.f F_witness_Order_Took) [.t 24, .t 26], some (23, false)⟩,
   ⟨(some 28), .bin .neq (.t 27) (.c (.d (.i .i64 0))), some (23, false)⟩,
   ⟨(some 29), .pick (.t 23) (.c (.d (.b true))) (.t 28), none⟩,
   ⟨(some 30), .mv (.t 29), none⟩,
   ⟨(some 31), .mv (.t 1), some (30, false)⟩,
   ⟨(some 32), .mv (.t 3), some (30, false)⟩,
   ⟨(some 33), .build Pk.State.zeroA [(0, 1, .c (.d (.i .u32 1)))], some (30, false)⟩,
   ⟨(some 34), .call (.f F_witness_Order_See) [.t 31, .t 32, .t 33], some (30, false)⟩,
   ⟨(some 35), .bin .neq (.t 34) (.c (.d (.i .i64 220))), some (30, false)⟩,
   ⟨(some 36), .pick (.t 30) (.c (.d (.b true))) (.t 35), none⟩,
   ⟨(some 37), .mv (.t 36), none⟩,
   ⟨(some 38), .mv (.t 1), some (37, false)⟩,
   ⟨(some 39), .mv (.t 3), some (37, false)⟩,
   ⟨(some 40), .build Pk.State.zeroA [], some (37, false)⟩,
   ⟨(some 41), .call (.f F_witness_Order_See) [.t 38, .t 39, .t 40], some (37, false)⟩,
   ⟨(some 42), .bin .neq (.t 41) (.c (.d (.i .i64 0))), some (37, false)⟩,
   ⟨(some 43), .pick (.t 37) (.c (.d (.b true))) (.t 42), none⟩] [])
 (.cond (.t 43) (.seq (.region (some []) [⟨(some 0), .mv (.c (.d (.b false))), none⟩] [])
  (.ret)) (.skip)))
 (.seq (.region (some [1, 2, 3, 4]) [⟨(some 45), .mv (.t 1), none⟩,
   ⟨(some 46), .mv (.t 3), none⟩,
   ⟨(some 47), .call (.f F_witness_Order_At) [.t 45, .t 46, .c (.d (.i .u32 1))], none⟩,
   ⟨(some 44), .mv (.t 47), none⟩,
   ⟨(some 48), .ext (.t 44) 0, none⟩,
   ⟨(some 49), .ext (.t 44) 1, none⟩,
   ⟨(some 5), .box (.c (.d (.agg [.i .u32 0, .i .u32 0, .i .u8 0, .i .u32 0, .i .u8 0, .i .u8 0, .i .u8 0, .s ⟨#[]⟩]))), none⟩,
   ⟨none, .store 8 (.t 5) (.t 48), none⟩,
   ⟨(some 6), .mv (.t 49), none⟩] [])
 (.seq (.region (some [1, 2, 3, 4, 5, 6]) [⟨(some 50), .mv (.t 1), none⟩,
   ⟨(some 51), .mv (.t 3), none⟩,
   ⟨(some 52), .call (.f F_witness_Order_Len) [.t 50, .t 51], none⟩,
   ⟨(some 53), .bin .eql (.t 52) (.c (.d (.i .i64 1))), none⟩,
   ⟨(some 54), .mv (.t 53), none⟩,
   ⟨(some 55), .mv (.t 1), some (54, true)⟩,
   ⟨(some 56), .mv (.t 3), some (54, true)⟩,
   ⟨(some 57), .call (.f F_witness_Order_Acked) [.t 55, .t 56], some (54, true)⟩,
   ⟨(some 58), .bin .eql (.t 57) (.c (.d (.i .u32 1))), some (54, true)⟩,
   ⟨(some 59), .pick (.t 54) (.t 58) (.c (.d (.b false))), none⟩,
   ⟨(some 60), .mv (.t 59), none⟩,
   ⟨(some 61), .mv (.t 6), some (60, true)⟩,
   ⟨(some 62), .pick (.t 60) (.t 61) (.c (.d (.b false))), none⟩,
   ⟨(some 63), .mv (.t 62), none⟩,
   ⟨(some 64), .faddr 2 (.t 5), some (63, true)⟩,
   ⟨(some 65), .load true 6 (.t 64), some (63, true)⟩,
   ⟨(some 66), .load true 6 (.t 2), some (63, true)⟩,
   ⟨(some 67), .eq false Pk.Opr.ety (.t 65) (.t 66), some (63, true)⟩,
   ⟨(some 68), .pick (.t 63) (.t 67) (.c (.d (.b false))), none⟩,
   ⟨(some 69), .mv (.t 68), none⟩,
   ⟨(some 70), .mv (.t 1), some (69, true)⟩,
   ⟨(some 71), .build [.d (.i .u8 0), .d (.i .u32 0), .d (.i .u8 0), .d (.i .u8 0), .d (.i .u8 0), .d (.s ⟨#[]⟩)] [(0, 1, .c (.d (.i .u8 2))), (1, 1, .c (.d (.i .u32 1))), (2, 1, .c (.d (.i .u8 1)))], some (69, true)⟩,
   ⟨(some 72), .build [.d (.i .u8 0), .d (.i .u32 0), .d (.i .u8 0), .d (.i .u8 0), .d (.i .u8 0), .d (.s ⟨#[]⟩), .d (.i .u8 0), .d (.s ⟨#[]⟩)] [(0, 6, .t 71)], some (69, true)⟩,
   ⟨(some 73), .call (.f F_witness_Order_Took) [.t 70, .t 72], some (69, true)⟩,
   ⟨(some 74), .bin .eql (.t 73) (.c (.d (.i .i64 220))), some (69, true)⟩,
   ⟨(some 75), .pick (.t 69) (.t 74) (.c (.d (.b false))), none⟩,
   ⟨(some 76), .mv (.t 75), none⟩,
   ⟨(some 77), .mv (.t 1), some (76, true)⟩,
   ⟨(some 78), .build [.d (.i .u8 0), .d (.i .u32 0), .d (.i .u8 0), .d (.i .u8 0), .d (.i .u8 0), .d (.s ⟨#[]⟩), .d (.i .u8 0), .d (.s ⟨#[]⟩)] [], some (76, true)⟩,
   ⟨(some 79), .call (.f F_witness_Order_Took) [.t 77, .t 78], some (76, true)⟩,
   ⟨(some 80), .bin .eql (.t 79) (.c (.d (.i .i64 10))), some (76, true)⟩,
   ⟨(some 81), .pick (.t 76) (.t 80) (.c (.d (.b false))), none⟩,
   ⟨(some 82), .mv (.t 81), none⟩,
   ⟨(some 83), .mv (.t 1), some (82, true)⟩,
   ⟨(some 84), .load true 49 (.t 4), some (82, true)⟩,
   ⟨(some 85), .call (.f F_witness_Order_See) [.t 83, .c (.d (.i .u8 4)), .t 84], some (82, true)⟩,
   ⟨(some 86), .bin .eql (.t 85) (.c (.d (.i .i64 10))), some (82, true)⟩,
   ⟨(some 87), .pick (.t 82) (.t 86) (.c (.d (.b false))), none⟩,
   ⟨(some 0), .mv (.t 87), none⟩] [])
 (.ret))))))))
def a_paddocklaw23_known : AFn := .code 0 c_paddocklaw23_known [.tmp 0]
set_option maxRecDepth 100000 in
theorem k_paddocklaw23_known : compF Tryd.prog h_paddocklaw23_known F_paddocklaw23_known = some a_paddocklaw23_known := by kernel_rfl

/-- paddock/witness.New -/
def h_witness_New : Hints := { kp := [(0, []), (1, [])], lkp := [], lth := [] }
def c_witness_New : ACode :=
 .seq (.region (some []) [⟨(some 0), .mv (.c (.one)), none⟩] [])
 (.seq (.region (some []) [⟨(some 1), .build [.nilS, .nilS, .d (.i .u32 0), .d (.i .u32 0), .nilS, .nilS, .d (.i .u32 0), .d (.i .u32 0), .nilS, .nilS, .d (.i .u32 0), .d (.i .u32 0), .nilS, .nilS, .d (.i .u32 0), .d (.i .u32 0)] [], none⟩,
   ⟨(some 2), .box (.t 1), none⟩,
   ⟨(some 0), .mv (.t 2), none⟩] [])
 (.ret))
def a_witness_New : AFn := .code 0 c_witness_New [.tmp 0]
set_option maxRecDepth 100000 in
theorem k_witness_New : compF Tryd.prog h_witness_New F_witness_New = some a_witness_New := by kernel_rfl

/-- (*paddock/witness.Order).See -/
def h_witness_Order_See : Hints := { kp := [(0, [0, 1, 2]), (1, [0, 1, 5]), (2, []), (3, [0, 1, 5]), (4, [5, 7]), (6, [5, 7]), (7, []), (5, []), (8, [5, 7]), (9, [5, 7]), (10, [5, 7]), (11, [])], lkp := [], lth := [] }
def c_witness_Order_See : ACode :=
 .seq (.region (some [0, 1, 2]) [⟨(some 5), .box (.t 2), none⟩,
   ⟨(some 6), .mv (.c (.d (.i .i64 0))), none⟩] [])
 (.seq (.seq (.region (some [0, 1, 5]) [⟨(some 8), .mv (.t 1), none⟩,
   ⟨(some 9), .bin .geq (.t 8) (.c (.d (.i .u8 4))), none⟩,
   ⟨(some 10), .mv (.t 9), none⟩,
   ⟨(some 11), .load true 49 (.t 5), some (10, false)⟩,
   ⟨(some 12), .call (.f F_pglog_Is) [.t 11], some (10, false)⟩,
   ⟨(some 13), .un .not (.t 12), some (10, false)⟩,
   ⟨(some 14), .pick (.t 10) (.c (.d (.b true))) (.t 13), none⟩] [])
 (.cond (.t 14) (.seq (.region (some []) [⟨(some 6), .mv (.c (.d (.i .i64 10))), none⟩] [])
  (.ret)) (.skip)))
 (.seq (.region (some [0, 1, 5]) [⟨(some 15), .mv (.t 0), none⟩,
   ⟨(some 16), .mv (.t 1), none⟩,
   ⟨(some 17), .nilck (.t 15), none⟩,
   ⟨(some 18), .faddr 0 (.t 17), none⟩,
   ⟨(some 19), .iaddrA 4 4 (.t 18) (.t 16), none⟩,
   ⟨(some 7), .mv (.t 19), none⟩] [])
 (.seq (.block 0 (.seq (.region (some [5, 7]) [⟨(some 21), .faddr 0 (.t 5), none⟩,
    ⟨(some 22), .load false 1 (.t 21), none⟩,
    ⟨(some 23), .mv (.t 7), none⟩,
    ⟨(some 24), .nilck (.t 23), none⟩,
    ⟨(some 25), .faddr 3 (.t 24), none⟩,
    ⟨(some 26), .load false 1 (.t 25), none⟩,
    ⟨(some 27), .bin .lss (.t 22) (.t 26), none⟩,
    ⟨(some 20), .mv (.t 27), none⟩] [(1, 5)])
  (.cond (.t 20) (.seq (.region (some []) [⟨(some 6), .mv (.c (.d (.i .i64 0))), none⟩] [])
   (.ret)) (.seq (.region (some [5, 7]) [⟨(some 29), .mv (.t 7), none⟩,
     ⟨(some 30), .load true 49 (.t 5), none⟩,
     ⟨(some 31), .call (.f F_witness_row_fits) [.t 29, .t 30], none⟩,
     ⟨(some 32), .un .not (.t 31), none⟩,
     ⟨(some 28), .mv (.t 32), none⟩] [])
   (.cond (.t 28) (.seq (.region (some []) [⟨(some 6), .mv (.c (.d (.i .i64 220))), none⟩] [])
    (.ret)) (.skip))))))
 (.seq (.seq (.region (some [5, 7]) [⟨(some 33), .mv (.t 7), none⟩,
   ⟨(some 34), .faddr 40 (.t 5), none⟩,
   ⟨(some 35), .faddr 1 (.t 34), none⟩,
   ⟨(some 36), .load false 1 (.t 35), none⟩,
   ⟨(some 37), .faddr 48 (.t 5), none⟩,
   ⟨(some 38), .load false 1 (.t 37), none⟩,
   ⟨(some 39), .call (.f F_witness_row_has) [.t 33, .t 36, .t 38], none⟩,
   ⟨(some 40), .un .not (.t 39), none⟩] [])
 (.cond (.t 40) (.region (some [5, 7]) [⟨(some 41), .mv (.t 7), none⟩,
    ⟨(some 42), .faddr 40 (.t 5), none⟩,
    ⟨(some 43), .faddr 1 (.t 42), none⟩,
    ⟨(some 44), .load false 1 (.t 43), none⟩,
    ⟨(some 45), .faddr 48 (.t 5), none⟩,
    ⟨(some 46), .load false 1 (.t 45), none⟩,
    ⟨(some 47), .call (.f F_witness_row_lays) [.t 41, .t 44, .t 46], none⟩] []) (.skip)))
 (.seq (.region (some [5, 7]) [⟨(some 48), .mv (.t 7), none⟩,
   ⟨(some 49), .faddr 0 (.t 5), none⟩,
   ⟨(some 50), .load false 1 (.t 49), none⟩,
   ⟨(some 51), .nilck (.t 48), none⟩,
   ⟨(some 52), .faddr 3 (.t 51), none⟩,
   ⟨none, .store 1 (.t 52) (.t 50), none⟩] [])
 (.seq (.region (some []) [⟨(some 6), .mv (.c (.d (.i .i64 0))), none⟩] [])
 (.ret)))))))
def a_witness_Order_See : AFn := .code 3 c_witness_Order_See [.tmp 6]
set_option maxRecDepth 100000 in
theorem k_witness_Order_See : compF Tryd.prog h_witness_Order_See F_witness_Order_See = some a_witness_Order_See := by kernel_rfl

/-- (*paddock/witness.Order).Took -/
def h_witness_Order_Took : Hints := { kp := [(0, [0, 1]), (1, [0, 3]), (2, []), (3, [0, 3]), (4, [3, 5]), (5, [3, 5]), (6, [3, 5]), (7, [3, 5, 6]), (8, []), (9, [3, 5, 6]), (10, [3, 5, 6, 8]), (11, []), (12, [5, 6]), (13, [])], lkp := [], lth := [] }
def c_witness_Order_Took : ACode :=
 .seq (.region (some [0, 1]) [⟨(some 3), .box (.t 1), none⟩,
   ⟨(some 4), .mv (.c (.d (.i .i64 0))), none⟩] [])
 (.seq (.seq (.region (some [0, 3]) [⟨(some 9), .faddr 0 (.t 3), none⟩,
   ⟨(some 10), .load true 6 (.t 9), none⟩,
   ⟨(some 11), .call (.f F_objects_IsOp) [.t 10], none⟩,
   ⟨(some 12), .un .not (.t 11), none⟩] [])
 (.cond (.t 12) (.seq (.region (some []) [⟨(some 4), .mv (.c (.d (.i .i64 10))), none⟩] [])
  (.ret)) (.skip)))
 (.seq (.region (some [0, 3]) [⟨(some 13), .mv (.t 0), none⟩,
   ⟨(some 14), .faddr 0 (.t 3), none⟩,
   ⟨(some 15), .faddr 3 (.t 14), none⟩,
   ⟨(some 16), .load false 1 (.t 15), none⟩,
   ⟨(some 17), .call (.f F_bits_Group) [.t 16], none⟩,
   ⟨(some 18), .nilck (.t 13), none⟩,
   ⟨(some 19), .faddr 0 (.t 18), none⟩,
   ⟨(some 20), .iaddrA 4 4 (.t 19) (.t 17), none⟩,
   ⟨(some 5), .mv (.t 20), none⟩] [])
 (.seq (.seq (.region (some [3, 5]) [⟨(some 21), .faddr 0 (.t 3), none⟩,
   ⟨(some 22), .load true 6 (.t 21), none⟩,
   ⟨(some 23), .call (.f F_objects_Writes) [.t 22], none⟩,
   ⟨(some 24), .un .not (.t 23), none⟩] [])
 (.cond (.t 24) (.seq (.region (some [3, 5]) [⟨(some 25), .mv (.t 5), none⟩,
    ⟨(some 26), .load true 8 (.t 3), none⟩,
    ⟨(some 27), .call (.f F_witness_row_read) [.t 25, .t 26], none⟩,
    ⟨(some 4), .mv (.t 27), none⟩] [])
  (.ret)) (.skip)))
 (.seq (.region (some [3, 5]) [⟨(some 28), .mv (.t 5), none⟩,
   ⟨(some 29), .nilck (.t 28), none⟩,
   ⟨(some 30), .faddr 0 (.t 29), none⟩,
   ⟨(some 31), .load false 1 (.t 30), none⟩,
   ⟨(some 32), .mkfn F_witness_Order_Took_1 [] [.t 3], none⟩,
   ⟨(some 33), .call (.f F_slices_IndexFunc_sapi_Entry_api_Entry) [.t 31, .t 32], none⟩,
   ⟨(some 6), .mv (.t 33), none⟩] [])
 (.seq (.seq (.region (some [3, 5, 6]) [⟨(some 34), .mv (.t 6), none⟩,
   ⟨(some 35), .bin .lss (.t 34) (.c (.d (.i .i64 0))), none⟩] [])
 (.cond (.t 35) (.seq (.region (some []) [⟨(some 4), .mv (.c (.d (.i .i64 220))), none⟩] [])
  (.ret)) (.skip)))
 (.seq (.seq (.region (some [3, 5, 6]) [⟨(some 37), .mv (.t 5), none⟩,
   ⟨(some 38), .mv (.t 6), none⟩,
   ⟨(some 39), .conv .u32 (.t 38), none⟩,
   ⟨(some 40), .call (.f F_witness_row_base) [.t 37, .t 39], none⟩,
   ⟨(some 41), .mv (.t 5), none⟩,
   ⟨(some 42), .nilck (.t 41), none⟩,
   ⟨(some 43), .faddr 0 (.t 42), none⟩,
   ⟨(some 44), .load false 1 (.t 43), none⟩,
   ⟨(some 45), .mv (.t 6), none⟩,
   ⟨(some 46), .iaddrS 8 (.t 44) (.t 45), none⟩,
   ⟨(some 47), .faddr 2 (.t 46), none⟩,
   ⟨(some 48), .load true 6 (.t 47), none⟩,
   ⟨(some 49), .call (.f F_objects_Do) [.t 40, .t 48], none⟩,
   ⟨(some 36), .mv (.t 49), none⟩,
   ⟨(some 50), .ext (.t 36) 0, none⟩,
   ⟨(some 51), .ext (.t 36) 1, none⟩,
   ⟨(some 7), .box (.c (.d (.agg Pk.Base.zero.cs))), none⟩,
   ⟨(some 8), .box (.c (.d (.agg [.i .u8 0, .s ⟨#[]⟩]))), none⟩,
   ⟨none, .store 39 (.t 7) (.t 50), none⟩,
   ⟨none, .store 2 (.t 8) (.t 51), none⟩] [(3, 7), (3, 11), (3, 16), (7, 16), (11, 16), (12, 16), (3, 17), (7, 17), (11, 17), (12, 17), (16, 17)])
 (.seq (.region (some [3, 5, 6, 8]) [⟨(some 52), .load true 2 (.t 8), none⟩,
   ⟨(some 53), .faddr 6 (.t 3), none⟩,
   ⟨(some 54), .load true 2 (.t 53), none⟩,
   ⟨(some 55), .eq true Pk.Res.ety (.t 52) (.t 54), none⟩] [])
 (.cond (.t 55) (.seq (.region (some []) [⟨(some 4), .mv (.c (.d (.i .i64 220))), none⟩] [])
  (.ret)) (.skip))))
 (.seq (.region (some [5, 6]) [⟨(some 56), .mv (.t 5), none⟩,
   ⟨(some 57), .mv (.t 5), none⟩,
   ⟨(some 58), .nilck (.t 57), none⟩,
   ⟨(some 59), .faddr 2 (.t 58), none⟩,
   ⟨(some 60), .load false 1 (.t 59), none⟩,
   ⟨(some 61), .mv (.t 6), none⟩,
   ⟨(some 62), .conv .u32 (.t 61), none⟩,
   ⟨(some 63), .bin .add (.t 62) (.c (.d (.i .u32 1))), none⟩,
   ⟨(some 64), .mm true [.t 60, .t 63], none⟩,
   ⟨(some 65), .nilck (.t 56), none⟩,
   ⟨(some 66), .faddr 2 (.t 65), none⟩,
   ⟨none, .store 1 (.t 66) (.t 64), none⟩] [])
 (.seq (.region (some []) [⟨(some 4), .mv (.c (.d (.i .i64 0))), none⟩] [])
 (.ret)))))))))
def a_witness_Order_Took : AFn := .code 2 c_witness_Order_Took [.tmp 4]
set_option maxRecDepth 100000 in
theorem k_witness_Order_Took : compF Tryd.prog h_witness_Order_Took F_witness_Order_Took = some a_witness_Order_Took := by kernel_rfl

/-- (*paddock/witness.Order).Acked -/
def h_witness_Order_Acked : Hints := { kp := [(0, [0, 1]), (1, [0, 1]), (2, []), (3, [0, 1])], lkp := [], lth := [] }
def c_witness_Order_Acked : ACode :=
 .seq (.region (some [0, 1]) [⟨(some 4), .mv (.c (.d (.i .u32 0))), none⟩] [])
 (.seq (.seq (.region (some [0, 1]) [⟨(some 5), .mv (.t 1), none⟩,
   ⟨(some 6), .bin .geq (.t 5) (.c (.d (.i .u8 4))), none⟩] [])
 (.cond (.t 6) (.seq (.region (some []) [⟨(some 4), .mv (.c (.d (.i .u32 0))), none⟩] [])
  (.ret)) (.skip)))
 (.seq (.region (some [0, 1]) [⟨(some 7), .mv (.t 0), none⟩,
   ⟨(some 8), .mv (.t 1), none⟩,
   ⟨(some 9), .nilck (.t 7), none⟩,
   ⟨(some 10), .faddr 0 (.t 9), none⟩,
   ⟨(some 11), .iaddrA 4 4 (.t 10) (.t 8), none⟩,
   ⟨(some 12), .faddr 2 (.t 11), none⟩,
   ⟨(some 13), .load false 1 (.t 12), none⟩,
   ⟨(some 4), .mv (.t 13), none⟩] [])
 (.ret)))
def a_witness_Order_Acked : AFn := .code 2 c_witness_Order_Acked [.tmp 4]
set_option maxRecDepth 100000 in
theorem k_witness_Order_Acked : compF Tryd.prog h_witness_Order_Acked F_witness_Order_Acked = some a_witness_Order_Acked := by kernel_rfl

/-- (*paddock/witness.Order).Len -/
def h_witness_Order_Len : Hints := { kp := [(0, [0, 1]), (1, [0, 1]), (2, []), (3, [0, 1])], lkp := [], lth := [] }
def c_witness_Order_Len : ACode :=
 .seq (.region (some [0, 1]) [⟨(some 4), .mv (.c (.d (.i .i64 0))), none⟩] [])
 (.seq (.seq (.region (some [0, 1]) [⟨(some 5), .mv (.t 1), none⟩,
   ⟨(some 6), .bin .geq (.t 5) (.c (.d (.i .u8 4))), none⟩] [])
 (.cond (.t 6) (.seq (.region (some []) [⟨(some 4), .mv (.c (.d (.i .i64 0))), none⟩] [])
  (.ret)) (.skip)))
 (.seq (.region (some [0, 1]) [⟨(some 7), .mv (.t 0), none⟩,
   ⟨(some 8), .mv (.t 1), none⟩,
   ⟨(some 9), .nilck (.t 7), none⟩,
   ⟨(some 10), .faddr 0 (.t 9), none⟩,
   ⟨(some 11), .iaddrA 4 4 (.t 10) (.t 8), none⟩,
   ⟨(some 12), .faddr 0 (.t 11), none⟩,
   ⟨(some 13), .load false 1 (.t 12), none⟩,
   ⟨(some 14), .len false (.t 13), none⟩,
   ⟨(some 4), .mv (.t 14), none⟩] [])
 (.ret)))
def a_witness_Order_Len : AFn := .code 2 c_witness_Order_Len [.tmp 4]
set_option maxRecDepth 100000 in
theorem k_witness_Order_Len : compF Tryd.prog h_witness_Order_Len F_witness_Order_Len = some a_witness_Order_Len := by kernel_rfl

/-- (*paddock/witness.Order).At -/
def h_witness_Order_At : Hints := { kp := [(0, [0, 1, 2]), (1, [0, 1, 2, 6]), (2, [6]), (3, [0, 1, 2, 6])], lkp := [], lth := [] }
def c_witness_Order_At : ACode :=
 .seq (.region (some [0, 1, 2]) [⟨(some 6), .box (.c (.d (.agg [.i .u32 0, .i .u32 0, .i .u8 0, .i .u32 0, .i .u8 0, .i .u8 0, .i .u8 0, .s ⟨#[]⟩]))), none⟩,
   ⟨(some 7), .mv (.c (.d (.b false))), none⟩] [])
 (.seq (.seq (.region (some [0, 1, 2, 6]) [⟨(some 8), .mv (.t 2), none⟩,
   ⟨(some 9), .bin .lss (.t 8) (.c (.d (.i .u32 1))), none⟩,
   ⟨(some 10), .mv (.t 9), none⟩,
   ⟨(some 11), .mv (.t 2), some (10, false)⟩,
   ⟨(some 12), .conv .u64 (.t 11), some (10, false)⟩,
   ⟨(some 13), .mv (.t 0), some (10, false)⟩,
   ⟨(some 14), .mv (.t 1), some (10, false)⟩,
   ⟨(some 15), .call (.f F_witness_Order_Len) [.t 13, .t 14], some (10, false)⟩,
   ⟨(some 16), .conv .u64 (.t 15), some (10, false)⟩,
   ⟨(some 17), .bin .gtr (.t 12) (.t 16), some (10, false)⟩,
   ⟨(some 18), .pick (.t 10) (.c (.d (.b true))) (.t 17), none⟩] [])
 (.cond (.t 18) (.seq (.region (some [6]) [⟨(some 19), .build [.d (.i .u32 0), .d (.i .u32 0), .d (.i .u8 0), .d (.i .u32 0), .d (.i .u8 0), .d (.i .u8 0), .d (.i .u8 0), .d (.s ⟨#[]⟩)] [], none⟩,
    ⟨none, .store 8 (.t 6) (.t 19), none⟩,
    ⟨(some 7), .mv (.c (.d (.b false))), none⟩] [])
  (.ret)) (.skip)))
 (.seq (.region (some [0, 1, 2, 6]) [⟨(some 20), .mv (.t 0), none⟩,
   ⟨(some 21), .mv (.t 1), none⟩,
   ⟨(some 22), .nilck (.t 20), none⟩,
   ⟨(some 23), .faddr 0 (.t 22), none⟩,
   ⟨(some 24), .iaddrA 4 4 (.t 23) (.t 21), none⟩,
   ⟨(some 25), .faddr 0 (.t 24), none⟩,
   ⟨(some 26), .load false 1 (.t 25), none⟩,
   ⟨(some 27), .mv (.t 2), none⟩,
   ⟨(some 28), .bin .sub (.t 27) (.c (.d (.i .u32 1))), none⟩,
   ⟨(some 29), .iaddrS 8 (.t 26) (.t 28), none⟩,
   ⟨(some 30), .load true 8 (.t 29), none⟩,
   ⟨none, .store 8 (.t 6) (.t 30), none⟩,
   ⟨(some 7), .mv (.c (.d (.b true))), none⟩] [])
 (.ret)))
def a_witness_Order_At : AFn := .code 3 c_witness_Order_At [.cell true 8 6, .tmp 7]
set_option maxRecDepth 100000 in
theorem k_witness_Order_At : compF Tryd.prog h_witness_Order_At F_witness_Order_At = some a_witness_Order_At := by kernel_rfl

/-- paddock/bits.Group -/
def h_bits_Group : Hints := { kp := [(0, [0]), (1, [0])], lkp := [], lth := [] }
def c_bits_Group : ACode :=
 .seq (.region (some [0]) [⟨(some 2), .mv (.c (.d (.i .u8 0))), none⟩] [])
 (.seq (.region (some [0]) [⟨(some 3), .mv (.t 0), none⟩,
   ⟨(some 4), .conv .u64 (.t 3), none⟩,
   ⟨(some 5), .call (.f F_bits_Mix) [.t 4], none⟩,
   ⟨(some 6), .bin .rem (.t 5) (.c (.d (.i .u64 4))), none⟩,
   ⟨(some 7), .conv .u8 (.t 6), none⟩,
   ⟨(some 2), .mv (.t 7), none⟩] [])
 (.ret))
def a_bits_Group : AFn := .code 1 c_bits_Group [.tmp 2]
set_option maxRecDepth 100000 in
theorem k_bits_Group : compF Tryd.prog h_bits_Group F_bits_Group = some a_bits_Group := by kernel_rfl

/-- paddock/objects.Writes -/
def h_objects_Writes : Hints := { kp := [(0, [0]), (1, [1])], lkp := [], lth := [] }
def c_objects_Writes : ACode :=
 .seq (.region (some [0]) [⟨(some 1), .box (.t 0), none⟩,
   ⟨(some 2), .mv (.c (.d (.b false))), none⟩] [])
 (.seq (.region (some [1]) [⟨(some 3), .load true 6 (.t 1), none⟩,
   ⟨(some 4), .call (.f F_objects_IsOp) [.t 3], none⟩,
   ⟨(some 5), .mv (.t 4), none⟩,
   ⟨(some 6), .faddr 2 (.t 1), some (5, true)⟩,
   ⟨(some 7), .load false 1 (.t 6), some (5, true)⟩,
   ⟨(some 8), .bin .neq (.t 7) (.c (.d (.i .u8 5))), some (5, true)⟩,
   ⟨(some 9), .pick (.t 5) (.t 8) (.c (.d (.b false))), none⟩,
   ⟨(some 2), .mv (.t 9), none⟩] [])
 (.ret))
def a_objects_Writes : AFn := .code 1 c_objects_Writes [.tmp 2]
set_option maxRecDepth 100000 in
theorem k_objects_Writes : compF Tryd.prog h_objects_Writes F_objects_Writes = some a_objects_Writes := by kernel_rfl

/-- paddock/objects.Do -/
def h_objects_Do : Hints := { kp := [(0, [0, 1]), (1, [2, 3, 4, 5]), (2, [2, 4, 5]), (3, [2, 3, 4, 5]), (4, [2, 3, 4, 5, 6, 7]), (5, [2, 4, 5, 6]), (6, [2, 3, 4, 5]), (7, [2, 3, 4, 5, 8]), (8, [2, 3, 4, 5, 8, 9]), (9, [2, 3, 4, 5, 9]), (10, [2, 4, 5, 9])], lkp := [], lth := [] }
def c_objects_Do : ACode :=
 .seq (.region (some [0, 1]) [⟨(some 2), .box (.t 0), none⟩,
   ⟨(some 3), .box (.t 1), none⟩,
   ⟨(some 4), .box (.c (.d (.agg Pk.Base.zero.cs))), none⟩,
   ⟨(some 5), .box (.c (.d (.agg [.i .u8 0, .s ⟨#[]⟩]))), none⟩] [])
 (.seq (.seq (.region (some [2, 3, 4, 5]) [⟨(some 10), .load true 6 (.t 3), none⟩,
   ⟨(some 11), .call (.f F_objects_Writes) [.t 10], none⟩,
   ⟨(some 12), .un .not (.t 11), none⟩] [])
 (.cond (.t 12) (.seq (.region (some [2, 4, 5]) [⟨(some 13), .load true 39 (.t 2), none⟩,
    ⟨(some 14), .build [.d (.i .u8 0), .d (.s ⟨#[]⟩)] [(0, 1, .c (.d (.i .u8 3)))], none⟩,
    ⟨none, .store 39 (.t 4) (.t 13), none⟩,
    ⟨none, .store 2 (.t 5) (.t 14), none⟩] [])
  (.ret)) (.skip)))
 (.seq (.seq (.region (some [2, 3, 4, 5]) [⟨(some 16), .load true 39 (.t 2), none⟩,
   ⟨(some 17), .load true 6 (.t 3), none⟩,
   ⟨(some 18), .call (.f F_objects_Seen) [.t 16, .t 17], none⟩,
   ⟨(some 15), .mv (.t 18), none⟩,
   ⟨(some 19), .ext (.t 15) 0, none⟩,
   ⟨(some 20), .ext (.t 15) 1, none⟩,
   ⟨(some 6), .box (.c (.d (.agg [.i .u8 0, .s ⟨#[]⟩]))), none⟩,
   ⟨none, .store 2 (.t 6) (.t 19), none⟩,
   ⟨(some 7), .mv (.t 20), none⟩] [])
 (.seq (.region (some [2, 3, 4, 5, 6, 7]) [⟨(some 21), .mv (.t 7), none⟩] [])
 (.cond (.t 21) (.seq (.region (some [2, 4, 5, 6]) [⟨(some 22), .load true 39 (.t 2), none⟩,
    ⟨(some 23), .load true 2 (.t 6), none⟩,
    ⟨none, .store 39 (.t 4) (.t 22), none⟩,
    ⟨none, .store 2 (.t 5) (.t 23), none⟩] [(0, 1), (1, 2)])
  (.ret)) (.skip))))
 (.seq (.region (some [2, 3, 4, 5]) [⟨(some 24), .faddr 3 (.t 3), none⟩,
   ⟨(some 25), .load false 1 (.t 24), none⟩,
   ⟨(some 26), .faddr 0 (.t 2), none⟩,
   ⟨(some 27), .iaddrA 6 5 (.t 26) (.t 25), none⟩,
   ⟨(some 28), .load true 5 (.t 27), none⟩,
   ⟨(some 29), .build [.d (.b false), .d (.s ⟨#[]⟩), .d (.s ⟨#[]⟩), .d (.s ⟨#[]⟩), .d (.s ⟨#[]⟩)] [(0, 5, .t 28)], none⟩,
   ⟨(some 30), .box (.t 29), none⟩,
   ⟨(some 8), .mv (.t 30), none⟩] [])
 (.seq (.region (some [2, 3, 4, 5, 8]) [⟨(some 31), .faddr 2 (.t 3), none⟩,
   ⟨(some 32), .load false 1 (.t 31), none⟩,
   ⟨(some 33), .call (.f F_objects_does) [.t 32], none⟩,
   ⟨(some 34), .mv (.t 8), none⟩,
   ⟨(some 35), .load true 6 (.t 3), none⟩,
   ⟨(some 36), .call (.t 33) [.t 34, .t 35], none⟩,
   ⟨(some 37), .build [.d (.i .u8 0), .d (.s ⟨#[]⟩)] [(0, 1, .t 36)], none⟩,
   ⟨(some 9), .box (.c (.d (.agg [.i .u8 0, .s ⟨#[]⟩]))), none⟩,
   ⟨none, .store 2 (.t 9) (.t 37), none⟩] [(1, 4), (2, 4), (1, 7), (2, 7), (4, 7), (5, 7)])
 (.seq (.region (some [2, 3, 4, 5, 8, 9]) [⟨(some 38), .faddr 3 (.t 3), none⟩,
   ⟨(some 39), .load false 1 (.t 38), none⟩,
   ⟨(some 40), .mv (.t 8), none⟩,
   ⟨(some 41), .nilck (.t 40), none⟩,
   ⟨(some 42), .faddr 0 (.t 41), none⟩,
   ⟨(some 43), .load true 5 (.t 42), none⟩,
   ⟨(some 44), .faddr 0 (.t 2), none⟩,
   ⟨(some 45), .iaddrA 6 5 (.t 44) (.t 39), none⟩,
   ⟨none, .store 5 (.t 45) (.t 43), none⟩] [(1, 5)])
 (.seq (.region (some [2, 3, 4, 5, 9]) [⟨(some 46), .faddr 0 (.t 3), none⟩,
   ⟨(some 47), .load false 1 (.t 46), none⟩,
   ⟨(some 48), .bin .sub (.t 47) (.c (.d (.i .u8 1))), none⟩,
   ⟨(some 49), .faddr 1 (.t 3), none⟩,
   ⟨(some 50), .load false 1 (.t 49), none⟩,
   ⟨(some 51), .load true 2 (.t 9), none⟩,
   ⟨(some 52), .build [.d (.i .u32 0), .d (.i .u8 0), .d (.s ⟨#[]⟩)] [(0, 1, .t 50), (1, 2, .t 51)], none⟩,
   ⟨(some 53), .faddr 30 (.t 2), none⟩,
   ⟨(some 54), .iaddrA 3 3 (.t 53) (.t 48), none⟩,
   ⟨none, .store 3 (.t 54) (.t 52), none⟩] [])
 (.seq (.region (some [2, 4, 5, 9]) [⟨(some 55), .load true 39 (.t 2), none⟩,
   ⟨(some 56), .load true 2 (.t 9), none⟩,
   ⟨none, .store 39 (.t 4) (.t 55), none⟩,
   ⟨none, .store 2 (.t 5) (.t 56), none⟩] [(0, 1), (1, 2)])
 (.ret))))))))
def a_objects_Do : AFn := .code 2 c_objects_Do [.cell true 39 4, .cell true 2 5]
set_option maxRecDepth 100000 in
theorem k_objects_Do : compF Tryd.prog h_objects_Do F_objects_Do = some a_objects_Do := by kernel_rfl

/-- paddock/pglog.Add -/
def h_pglog_Add : Hints := { kp := [(0, [0, 1]), (1, [2, 3, 4]), (2, [4]), (3, [2, 3, 4]), (4, [2, 4])], lkp := [], lth := [] }
def c_pglog_Add : ACode :=
 .seq (.region (some [0, 1]) [⟨(some 2), .box (.t 0), none⟩,
   ⟨(some 3), .box (.t 1), none⟩,
   ⟨(some 4), .box (.c (.agg Pk.State.zeroA)), none⟩,
   ⟨(some 5), .mv (.c (.d (.i .i64 0))), none⟩] [])
 (.seq (.seq (.region (some [2, 3, 4]) [⟨(some 6), .load true 49 (.t 2), none⟩,
   ⟨(some 7), .call (.f F_pglog_Is) [.t 6], none⟩,
   ⟨(some 8), .un .not (.t 7), none⟩,
   ⟨(some 9), .mv (.t 8), none⟩,
   ⟨(some 10), .load true 49 (.t 2), some (9, false)⟩,
   ⟨(some 11), .call (.f F_pglog_last) [.t 10], some (9, false)⟩,
   ⟨(some 12), .load true 8 (.t 3), some (9, false)⟩,
   ⟨(some 13), .call (.f F_pglog_next) [.t 11, .t 12], some (9, false)⟩,
   ⟨(some 14), .un .not (.t 13), some (9, false)⟩,
   ⟨(some 15), .pick (.t 9) (.c (.d (.b true))) (.t 14), none⟩] [(4, 6), (5, 6)])
 (.cond (.t 15) (.seq (.region (some [4]) [⟨(some 16), .build Pk.State.zeroA [], none⟩,
    ⟨none, .store 49 (.t 4) (.t 16), none⟩,
    ⟨(some 5), .mv (.c (.d (.i .i64 10))), none⟩] [])
  (.ret)) (.skip)))
 (.seq (.region (some [2, 3, 4]) [⟨(some 17), .faddr 48 (.t 2), none⟩,
   ⟨(some 18), .load false 1 (.t 17), none⟩,
   ⟨(some 19), .call (.f F_slices_Clone_sapi_Entry_api_Entry) [.t 18], none⟩,
   ⟨(some 20), .load true 8 (.t 3), none⟩,
   ⟨(some 21), .bsl 8 [.t 20], none⟩,
   ⟨(some 22), .app 8 (.t 19) (.t 21), none⟩,
   ⟨(some 23), .faddr 48 (.t 2), none⟩,
   ⟨none, .store 1 (.t 23) (.t 22), none⟩] [(1, 3), (2, 3), (1, 4), (2, 4)])
 (.seq (.region (some [2, 4]) [⟨(some 24), .load true 49 (.t 2), none⟩,
   ⟨(some 25), .faddr 48 (.t 2), none⟩,
   ⟨(some 26), .load false 1 (.t 25), none⟩,
   ⟨(some 27), .len false (.t 26), none⟩,
   ⟨(some 28), .bin .sub (.t 27) (.c (.d (.i .i64 6))), none⟩,
   ⟨(some 29), .mm true [.t 28, .c (.d (.i .i64 0))], none⟩,
   ⟨(some 30), .call (.f F_pglog_folded) [.t 24, .t 29], none⟩,
   ⟨none, .store 49 (.t 4) (.t 30), none⟩,
   ⟨(some 5), .mv (.c (.d (.i .i64 0))), none⟩] [])
 (.ret))))
def a_pglog_Add : AFn := .code 2 c_pglog_Add [.cell true 49 4, .tmp 5]
set_option maxRecDepth 100000 in
theorem k_pglog_Add : compF Tryd.prog h_pglog_Add F_pglog_Add = some a_pglog_Add := by kernel_rfl

/-- (*paddock/witness.Order).Base -/
def h_witness_Order_Base : Hints := { kp := [(0, [0, 1, 2]), (1, [0, 1, 2, 6]), (2, [6]), (3, [0, 1, 2, 6])], lkp := [], lth := [] }
def c_witness_Order_Base : ACode :=
 .seq (.region (some [0, 1, 2]) [⟨(some 6), .box (.c (.d (.agg Pk.Base.zero.cs))), none⟩,
   ⟨(some 7), .mv (.c (.d (.b false))), none⟩] [])
 (.seq (.seq (.region (some [0, 1, 2, 6]) [⟨(some 8), .mv (.t 1), none⟩,
   ⟨(some 9), .bin .geq (.t 8) (.c (.d (.i .u8 4))), none⟩,
   ⟨(some 10), .mv (.t 9), none⟩,
   ⟨(some 11), .mv (.t 2), some (10, false)⟩,
   ⟨(some 12), .conv .u64 (.t 11), some (10, false)⟩,
   ⟨(some 13), .mv (.t 0), some (10, false)⟩,
   ⟨(some 14), .mv (.t 1), some (10, false)⟩,
   ⟨(some 15), .call (.f F_witness_Order_Len) [.t 13, .t 14], some (10, false)⟩,
   ⟨(some 16), .conv .u64 (.t 15), some (10, false)⟩,
   ⟨(some 17), .bin .gtr (.t 12) (.t 16), some (10, false)⟩,
   ⟨(some 18), .pick (.t 10) (.c (.d (.b true))) (.t 17), none⟩] [])
 (.cond (.t 18) (.seq (.region (some [6]) [⟨(some 19), .build (List.map .d Pk.Base.zero.cs) [], none⟩,
    ⟨none, .store 39 (.t 6) (.t 19), none⟩,
    ⟨(some 7), .mv (.c (.d (.b false))), none⟩] [])
  (.ret)) (.skip)))
 (.seq (.region (some [0, 1, 2, 6]) [⟨(some 20), .mv (.t 0), none⟩,
   ⟨(some 21), .mv (.t 1), none⟩,
   ⟨(some 22), .nilck (.t 20), none⟩,
   ⟨(some 23), .faddr 0 (.t 22), none⟩,
   ⟨(some 24), .iaddrA 4 4 (.t 23) (.t 21), none⟩,
   ⟨(some 25), .mv (.t 2), none⟩,
   ⟨(some 26), .call (.f F_witness_row_base) [.t 24, .t 25], none⟩,
   ⟨none, .store 39 (.t 6) (.t 26), none⟩,
   ⟨(some 7), .mv (.c (.d (.b true))), none⟩] [])
 (.ret)))
def a_witness_Order_Base : AFn := .code 3 c_witness_Order_Base [.cell true 39 6, .tmp 7]
set_option maxRecDepth 100000 in
theorem k_witness_Order_Base : compF Tryd.prog h_witness_Order_Base F_witness_Order_Base = some a_witness_Order_Base := by kernel_rfl

/-- paddock/paddockref1.Group -/
def h_paddockref1_Group : Hints := { kp := [(0, [0]), (1, [0])], lkp := [], lth := [] }
def c_paddockref1_Group : ACode :=
 .seq (.region (some [0]) [⟨(some 2), .mv (.c (.d (.i .u8 0))), none⟩] [])
 (.seq (.region (some [0]) [⟨(some 3), .mv (.t 0), none⟩,
   ⟨(some 4), .conv .u64 (.t 3), none⟩,
   ⟨(some 5), .call (.f F_paddockref1_Mix) [.t 4], none⟩,
   ⟨(some 6), .bin .rem (.t 5) (.c (.d (.i .u64 4))), none⟩,
   ⟨(some 7), .conv .u8 (.t 6), none⟩,
   ⟨(some 2), .mv (.t 7), none⟩] [])
 (.ret))
def a_paddockref1_Group : AFn := .code 1 c_paddockref1_Group [.tmp 2]
set_option maxRecDepth 100000 in
theorem k_paddockref1_Group : compF Tryd.prog h_paddockref1_Group F_paddockref1_Group = some a_paddockref1_Group := by kernel_rfl

/-- paddock/pglog.Is -/
def h_pglog_Is : Hints := { kp := [(0, [0]), (1, [1]), (2, []), (3, [1]), (4, [1, 3]), (5, [3, 37, 38, 39]), (6, [3, 37, 38, 39]), (7, [3, 5, 37, 38, 39]), (8, []), (9, [3, 5, 37, 38, 39]), (10, [3, 37, 38, 39]), (11, [])], lkp := [(5, [3, 37, 38, 39])], lth := [] }
def K_pglog_Is_0 : Option (List Nat) := (some [3, 37, 38, 39])
def l_pglog_Is_0 : ACode :=
 .seq (.region (some [3, 37, 38, 39]) [⟨(some 40), .bin .lss (.t 39) (.t 38), none⟩] [])
 (.seq (.cond (.t 40) (.skip) (.exit 0))
 (.seq (.block 1 (.seq (.region (some [3, 37, 38, 39]) [⟨(some 41), .iaddrS 8 (.t 37) (.t 39), none⟩,
    ⟨(some 42), .load true 8 (.t 41), none⟩,
    ⟨(some 5), .box (.c (.d (.agg [.i .u32 0, .i .u32 0, .i .u8 0, .i .u32 0, .i .u8 0, .i .u8 0, .i .u8 0, .s ⟨#[]⟩]))), none⟩,
    ⟨none, .store 8 (.t 5) (.t 42), none⟩] [])
  (.seq (.seq (.region (some [3, 5, 37, 38, 39]) [⟨(some 43), .load true 8 (.t 3), none⟩,
    ⟨(some 44), .load true 8 (.t 5), none⟩,
    ⟨(some 45), .call (.f F_pglog_next) [.t 43, .t 44], none⟩,
    ⟨(some 46), .un .not (.t 45), none⟩] [])
  (.cond (.t 46) (.seq (.region (some []) [⟨(some 2), .mv (.c (.d (.b false))), none⟩] [])
   (.ret)) (.skip)))
  (.region (some [3, 5, 37, 38, 39]) [⟨(some 47), .load true 8 (.t 5), none⟩,
    ⟨none, .store 8 (.t 3) (.t 47), none⟩] []))))
 (.region (some [3, 37, 38, 39]) [⟨(some 48), .bin .add (.t 39) (.c (.d (.i .i64 1))), none⟩,
   ⟨(some 39), .mv (.t 48), none⟩] [])))
def c_pglog_Is : ACode :=
 .seq (.region (some [0]) [⟨(some 1), .box (.t 0), none⟩,
   ⟨(some 2), .mv (.c (.d (.b false))), none⟩] [])
 (.seq (.seq (.region (some [1]) [⟨(some 6), .faddr 0 (.t 1), none⟩,
   ⟨(some 7), .load false 1 (.t 6), none⟩,
   ⟨(some 8), .bin .gtr (.t 7) (.c (.d (.i .u32 60))), none⟩,
   ⟨(some 9), .mv (.t 8), none⟩,
   ⟨(some 10), .faddr 40 (.t 1), some (9, false)⟩,
   ⟨(some 11), .faddr 0 (.t 10), some (9, false)⟩,
   ⟨(some 12), .load false 1 (.t 11), some (9, false)⟩,
   ⟨(some 13), .bin .gtr (.t 12) (.c (.d (.i .u32 60))), some (9, false)⟩,
   ⟨(some 14), .pick (.t 9) (.c (.d (.b true))) (.t 13), none⟩,
   ⟨(some 15), .mv (.t 14), none⟩,
   ⟨(some 16), .faddr 40 (.t 1), some (15, false)⟩,
   ⟨(some 17), .faddr 2 (.t 16), some (15, false)⟩,
   ⟨(some 18), .load true 6 (.t 17), some (15, false)⟩,
   ⟨(some 19), .build [.d (.i .u8 0), .d (.i .u32 0), .d (.i .u8 0), .d (.i .u8 0), .d (.i .u8 0), .d (.s ⟨#[]⟩)] [], some (15, false)⟩,
   ⟨(some 20), .eq true Pk.Opr.ety (.t 18) (.t 19), some (15, false)⟩,
   ⟨(some 21), .pick (.t 15) (.c (.d (.b true))) (.t 20), none⟩,
   ⟨(some 22), .mv (.t 21), none⟩,
   ⟨(some 23), .faddr 48 (.t 1), some (22, false)⟩,
   ⟨(some 24), .load false 1 (.t 23), some (22, false)⟩,
   ⟨(some 25), .len false (.t 24), some (22, false)⟩,
   ⟨(some 26), .bin .gtr (.t 25) (.c (.d (.i .i64 6))), some (22, false)⟩,
   ⟨(some 27), .pick (.t 22) (.c (.d (.b true))) (.t 26), none⟩,
   ⟨(some 28), .mv (.t 27), none⟩,
   ⟨(some 29), .faddr 1 (.t 1), some (28, false)⟩,
   ⟨(some 30), .load true 39 (.t 29), some (28, false)⟩,
   ⟨(some 31), .call (.f F_pglog_base) [.t 30], some (28, false)⟩,
   ⟨(some 32), .un .not (.t 31), some (28, false)⟩,
   ⟨(some 33), .pick (.t 28) (.c (.d (.b true))) (.t 32), none⟩] [])
 (.cond (.t 33) (.seq (.region (some []) [⟨(some 2), .mv (.c (.d (.b false))), none⟩] [])
  (.ret)) (.skip)))
 (.seq (.region (some [1]) [⟨(some 34), .faddr 40 (.t 1), none⟩,
   ⟨(some 35), .load true 8 (.t 34), none⟩,
   ⟨(some 3), .box (.c (.d (.agg [.i .u32 0, .i .u32 0, .i .u8 0, .i .u32 0, .i .u8 0, .i .u8 0, .i .u8 0, .s ⟨#[]⟩]))), none⟩,
   ⟨none, .store 8 (.t 3) (.t 35), none⟩] [])
 (.seq (.seq (.region (some [1, 3]) [⟨(some 36), .faddr 48 (.t 1), none⟩,
   ⟨(some 37), .load false 1 (.t 36), none⟩,
   ⟨(some 38), .len false (.t 37), none⟩,
   ⟨(some 39), .mv (.c (.d (.i .i64 0))), none⟩] [])
 (.block 0 (.loop K_pglog_Is_0 [] l_pglog_Is_0)))
 (.seq (.region (some []) [⟨(some 2), .mv (.c (.d (.b true))), none⟩] [])
 (.ret)))))
def a_pglog_Is : AFn := .code 1 c_pglog_Is [.tmp 2]
set_option maxRecDepth 100000 in
theorem k_pglog_Is : compF Tryd.prog h_pglog_Is F_pglog_Is = some a_pglog_Is := by kernel_rfl

/-- (*paddock/witness.row).fits -/
def h_witness_row_fits : Hints := { kp := [(0, [0, 1]), (1, [2, 3]), (2, [2, 3, 6]), (3, []), (4, [2, 3])], lkp := [], lth := [] }
def c_witness_row_fits : ACode :=
 .seq (.region (some [0, 1]) [⟨(some 2), .box (.t 0), none⟩,
   ⟨(some 3), .box (.t 1), none⟩,
   ⟨(some 4), .mv (.c (.d (.b false))), none⟩] [])
 (.seq (.region (some [2, 3]) [⟨(some 8), .load true 49 (.t 3), none⟩,
   ⟨(some 9), .call (.f F_pglog_Head) [.t 8], none⟩,
   ⟨(some 7), .mv (.t 9), none⟩,
   ⟨(some 10), .ext (.t 7) 0, none⟩,
   ⟨(some 11), .ext (.t 7) 1, none⟩,
   ⟨(some 5), .mv (.t 10), none⟩,
   ⟨(some 6), .mv (.t 11), none⟩] [])
 (.seq (.seq (.region (some [2, 3, 6]) [⟨(some 12), .mv (.t 6), none⟩,
   ⟨(some 13), .load false 1 (.t 2), none⟩,
   ⟨(some 14), .nilck (.t 13), none⟩,
   ⟨(some 15), .faddr 2 (.t 14), none⟩,
   ⟨(some 16), .load false 1 (.t 15), none⟩,
   ⟨(some 17), .bin .lss (.t 12) (.t 16), none⟩,
   ⟨(some 18), .mv (.t 17), none⟩,
   ⟨(some 19), .faddr 40 (.t 3), some (18, false)⟩,
   ⟨(some 20), .faddr 1 (.t 19), some (18, false)⟩,
   ⟨(some 21), .load false 1 (.t 20), some (18, false)⟩,
   ⟨(some 22), .load false 1 (.t 2), some (18, false)⟩,
   ⟨(some 23), .nilck (.t 22), some (18, false)⟩,
   ⟨(some 24), .faddr 0 (.t 23), some (18, false)⟩,
   ⟨(some 25), .load false 1 (.t 24), some (18, false)⟩,
   ⟨(some 26), .len false (.t 25), some (18, false)⟩,
   ⟨(some 27), .conv .u32 (.t 26), some (18, false)⟩,
   ⟨(some 28), .bin .gtr (.t 21) (.t 27), some (18, false)⟩,
   ⟨(some 29), .pick (.t 18) (.c (.d (.b true))) (.t 28), none⟩,
   ⟨(some 30), .mv (.t 29), none⟩,
   ⟨(some 31), .load false 1 (.t 2), some (30, false)⟩,
   ⟨(some 32), .faddr 40 (.t 3), some (30, false)⟩,
   ⟨(some 33), .faddr 1 (.t 32), some (30, false)⟩,
   ⟨(some 34), .load false 1 (.t 33), some (30, false)⟩,
   ⟨(some 35), .call (.f F_witness_row_base) [.t 31, .t 34], some (30, false)⟩,
   ⟨(some 36), .faddr 1 (.t 3), some (30, false)⟩,
   ⟨(some 37), .load true 39 (.t 36), some (30, false)⟩,
   ⟨(some 38), .eq true Pk.Base.ety (.t 35) (.t 37), some (30, false)⟩,
   ⟨(some 39), .pick (.t 30) (.c (.d (.b true))) (.t 38), none⟩] [(9, 10), (9, 13), (19, 22), (19, 25), (22, 25), (23, 25)])
 (.cond (.t 39) (.seq (.region (some []) [⟨(some 4), .mv (.c (.d (.b false))), none⟩] [])
  (.ret)) (.skip)))
 (.seq (.region (some [2, 3]) [⟨(some 40), .faddr 48 (.t 3), none⟩,
   ⟨(some 41), .load false 1 (.t 40), none⟩,
   ⟨(some 42), .mkfn F_witness_row_fits_1 [] [.t 2], none⟩,
   ⟨(some 43), .call (.f F_slices_ContainsFunc_sapi_Entry_api_Entry) [.t 41, .t 42], none⟩,
   ⟨(some 44), .un .not (.t 43), none⟩,
   ⟨(some 4), .mv (.t 44), none⟩] [])
 (.ret))))
def a_witness_row_fits : AFn := .code 2 c_witness_row_fits [.tmp 4]
set_option maxRecDepth 100000 in
theorem k_witness_row_fits : compF Tryd.prog h_witness_row_fits F_witness_row_fits = some a_witness_row_fits := by kernel_rfl

/-- (*paddock/witness.row).has -/
def h_witness_row_has : Hints := { kp := [(0, [0, 1, 2]), (1, [0, 1, 2])], lkp := [], lth := [] }
def c_witness_row_has : ACode :=
 .seq (.region (some [0, 1, 2]) [⟨(some 6), .mv (.c (.d (.b false))), none⟩] [])
 (.seq (.region (some [0, 1, 2]) [⟨(some 7), .mv (.t 1), none⟩,
   ⟨(some 8), .conv .i64 (.t 7), none⟩,
   ⟨(some 9), .mv (.t 2), none⟩,
   ⟨(some 10), .len false (.t 9), none⟩,
   ⟨(some 11), .bin .add (.t 8) (.t 10), none⟩,
   ⟨(some 12), .mv (.t 0), none⟩,
   ⟨(some 13), .nilck (.t 12), none⟩,
   ⟨(some 14), .faddr 0 (.t 13), none⟩,
   ⟨(some 15), .load false 1 (.t 14), none⟩,
   ⟨(some 16), .len false (.t 15), none⟩,
   ⟨(some 17), .bin .eql (.t 11) (.t 16), none⟩,
   ⟨(some 18), .mv (.t 17), none⟩,
   ⟨(some 19), .mv (.t 0), some (18, true)⟩,
   ⟨(some 20), .nilck (.t 19), some (18, true)⟩,
   ⟨(some 21), .faddr 0 (.t 20), some (18, true)⟩,
   ⟨(some 22), .load false 1 (.t 21), some (18, true)⟩,
   ⟨(some 23), .mv (.t 1), some (18, true)⟩,
   ⟨(some 24), .slice 8 (.t 22) (some (.t 23)) none none, some (18, true)⟩,
   ⟨(some 25), .mv (.t 2), some (18, true)⟩,
   ⟨(some 26), .call (.f F_slices_Equal_sapi_Entry_api_Entry) [.t 24, .t 25], some (18, true)⟩,
   ⟨(some 27), .pick (.t 18) (.t 26) (.c (.d (.b false))), none⟩,
   ⟨(some 6), .mv (.t 27), none⟩] [])
 (.ret))
def a_witness_row_has : AFn := .code 3 c_witness_row_has [.tmp 6]
set_option maxRecDepth 100000 in
theorem k_witness_row_has : compF Tryd.prog h_witness_row_has F_witness_row_has = some a_witness_row_has := by kernel_rfl

/-- (*paddock/witness.row).lays -/
def h_witness_row_lays : Hints := { kp := [(0, [0, 1, 2]), (1, [0, 2]), (2, [0, 32, 33, 34]), (3, [0, 32, 33, 34]), (4, [0, 7, 32, 33, 34]), (5, [0, 8, 32, 33, 34]), (6, [0, 32, 33, 34])], lkp := [(2, [0, 32, 33, 34])], lth := [] }
def K_witness_row_lays_0 : Option (List Nat) := (some [0, 32, 33, 34])
def l_witness_row_lays_0 : ACode :=
 .seq (.region (some [0, 32, 33, 34]) [⟨(some 35), .bin .lss (.t 34) (.t 33), none⟩] [])
 (.seq (.cond (.t 35) (.skip) (.exit 0))
 (.seq (.block 1 (.seq (.region (some [0, 32, 33, 34]) [⟨(some 36), .iaddrS 8 (.t 32) (.t 34), none⟩,
    ⟨(some 37), .load true 8 (.t 36), none⟩,
    ⟨(some 7), .box (.c (.d (.agg [.i .u32 0, .i .u32 0, .i .u8 0, .i .u32 0, .i .u8 0, .i .u8 0, .i .u8 0, .s ⟨#[]⟩]))), none⟩,
    ⟨none, .store 8 (.t 7) (.t 37), none⟩] [])
  (.seq (.region (some [0, 7, 32, 33, 34]) [⟨(some 39), .mv (.t 0), none⟩,
    ⟨(some 40), .mv (.t 0), none⟩,
    ⟨(some 41), .nilck (.t 40), none⟩,
    ⟨(some 42), .faddr 1 (.t 41), none⟩,
    ⟨(some 43), .load false 1 (.t 42), none⟩,
    ⟨(some 44), .len false (.t 43), none⟩,
    ⟨(some 45), .conv .u32 (.t 44), none⟩,
    ⟨(some 46), .call (.f F_witness_row_base) [.t 39, .t 45], none⟩,
    ⟨(some 47), .faddr 2 (.t 7), none⟩,
    ⟨(some 48), .load true 6 (.t 47), none⟩,
    ⟨(some 49), .call (.f F_objects_Do) [.t 46, .t 48], none⟩,
    ⟨(some 38), .mv (.t 49), none⟩,
    ⟨(some 50), .ext (.t 38) 0, none⟩,
    ⟨(some 51), .ext (.t 38) 1, none⟩,
    ⟨(some 8), .box (.c (.d (.agg Pk.Base.zero.cs))), none⟩,
    ⟨(some 9), .box (.c (.d (.agg [.i .u8 0, .s ⟨#[]⟩]))), none⟩,
    ⟨none, .store 39 (.t 8) (.t 50), none⟩,
    ⟨none, .store 2 (.t 9) (.t 51), none⟩] [(4, 9), (7, 9), (4, 14), (7, 14), (9, 14), (10, 14), (4, 15), (7, 15), (9, 15), (10, 15), (14, 15)])
  (.region (some [0, 8, 32, 33, 34]) [⟨(some 52), .mv (.t 0), none⟩,
    ⟨(some 53), .mv (.t 0), none⟩,
    ⟨(some 54), .nilck (.t 53), none⟩,
    ⟨(some 55), .faddr 1 (.t 54), none⟩,
    ⟨(some 56), .load false 1 (.t 55), none⟩,
    ⟨(some 57), .load true 39 (.t 8), none⟩,
    ⟨(some 58), .bsl 39 [.t 57], none⟩,
    ⟨(some 59), .app 39 (.t 56) (.t 58), none⟩,
    ⟨(some 60), .nilck (.t 52), none⟩,
    ⟨(some 61), .faddr 1 (.t 60), none⟩,
    ⟨none, .store 1 (.t 61) (.t 59), none⟩] [(4, 5), (4, 6)]))))
 (.region (some [0, 32, 33, 34]) [⟨(some 62), .bin .add (.t 34) (.c (.d (.i .i64 1))), none⟩,
   ⟨(some 34), .mv (.t 62), none⟩] [])))
def c_witness_row_lays : ACode :=
 .seq (.region (some [0, 1, 2]) [⟨(some 10), .mv (.t 0), none⟩,
   ⟨(some 11), .mv (.t 0), none⟩,
   ⟨(some 12), .mv (.t 0), none⟩,
   ⟨(some 13), .nilck (.t 12), none⟩,
   ⟨(some 14), .faddr 0 (.t 13), none⟩,
   ⟨(some 15), .load false 1 (.t 14), none⟩,
   ⟨(some 16), .mv (.t 1), none⟩,
   ⟨(some 17), .slice 8 (.t 15) none (some (.t 16)) none, none⟩,
   ⟨(some 18), .mv (.t 2), none⟩,
   ⟨(some 19), .bsl 1 [.t 17, .t 18], none⟩,
   ⟨(some 20), .call (.f F_slices_Concat_sapi_Entry_api_Entry) [.t 19], none⟩,
   ⟨(some 21), .mv (.t 0), none⟩,
   ⟨(some 22), .nilck (.t 21), none⟩,
   ⟨(some 23), .faddr 1 (.t 22), none⟩,
   ⟨(some 24), .load false 1 (.t 23), none⟩,
   ⟨(some 25), .mv (.t 1), none⟩,
   ⟨(some 26), .slice 39 (.t 24) none (some (.t 25)) none, none⟩,
   ⟨(some 27), .call (.f F_slices_Clone_sapi_Base_api_Base) [.t 26], none⟩,
   ⟨(some 28), .nilck (.t 10), none⟩,
   ⟨(some 29), .faddr 0 (.t 28), none⟩,
   ⟨none, .store 1 (.t 29) (.t 20), none⟩,
   ⟨(some 30), .nilck (.t 11), none⟩,
   ⟨(some 31), .faddr 1 (.t 30), none⟩,
   ⟨none, .store 1 (.t 31) (.t 27), none⟩] [(5, 14), (9, 14), (10, 14)])
 (.seq (.region (some [0, 2]) [⟨(some 32), .mv (.t 2), none⟩,
   ⟨(some 33), .len false (.t 32), none⟩,
   ⟨(some 34), .mv (.c (.d (.i .i64 0))), none⟩] [])
 (.block 0 (.loop K_witness_row_lays_0 [] l_witness_row_lays_0)))
def a_witness_row_lays : AFn := .code 3 c_witness_row_lays []
set_option maxRecDepth 100000 in
theorem k_witness_row_lays : compF Tryd.prog h_witness_row_lays F_witness_row_lays = some a_witness_row_lays := by kernel_rfl

/-- paddock/objects.IsOp -/
def h_objects_IsOp : Hints := { kp := [(0, [0]), (1, [1]), (2, []), (3, [1]), (4, [1, 28]), (5, [1, 28]), (7, [1, 28]), (8, [1]), (6, []), (9, [1])], lkp := [], lth := [] }
def c_objects_IsOp : ACode :=
 .seq (.region (some [0]) [⟨(some 1), .box (.t 0), none⟩,
   ⟨(some 2), .mv (.c (.d (.b false))), none⟩] [])
 (.seq (.seq (.region (some [1]) [⟨(some 3), .faddr 0 (.t 1), none⟩,
   ⟨(some 4), .load false 1 (.t 3), none⟩,
   ⟨(some 5), .bin .lss (.t 4) (.c (.d (.i .u8 1))), none⟩,
   ⟨(some 6), .mv (.t 5), none⟩,
   ⟨(some 7), .faddr 0 (.t 1), some (6, false)⟩,
   ⟨(some 8), .load false 1 (.t 7), some (6, false)⟩,
   ⟨(some 9), .bin .gtr (.t 8) (.c (.d (.i .u8 3))), some (6, false)⟩,
   ⟨(some 10), .pick (.t 6) (.c (.d (.b true))) (.t 9), none⟩,
   ⟨(some 11), .mv (.t 10), none⟩,
   ⟨(some 12), .faddr 1 (.t 1), some (11, false)⟩,
   ⟨(some 13), .load false 1 (.t 12), some (11, false)⟩,
   ⟨(some 14), .bin .eql (.t 13) (.c (.d (.i .u32 0))), some (11, false)⟩,
   ⟨(some 15), .pick (.t 11) (.c (.d (.b true))) (.t 14), none⟩,
   ⟨(some 16), .mv (.t 15), none⟩,
   ⟨(some 17), .faddr 3 (.t 1), some (16, false)⟩,
   ⟨(some 18), .load false 1 (.t 17), some (16, false)⟩,
   ⟨(some 19), .bin .geq (.t 18) (.c (.d (.i .u8 6))), some (16, false)⟩,
   ⟨(some 20), .pick (.t 16) (.c (.d (.b true))) (.t 19), none⟩,
   ⟨(some 21), .mv (.t 20), none⟩,
   ⟨(some 22), .faddr 5 (.t 1), some (21, false)⟩,
   ⟨(some 23), .load false 1 (.t 22), some (21, false)⟩,
   ⟨(some 24), .len true (.t 23), some (21, false)⟩,
   ⟨(some 25), .bin .gtr (.t 24) (.c (.d (.i .i64 16))), some (21, false)⟩,
   ⟨(some 26), .pick (.t 21) (.c (.d (.b true))) (.t 25), none⟩] [])
 (.cond (.t 26) (.seq (.region (some []) [⟨(some 2), .mv (.c (.d (.b false))), none⟩] [])
  (.ret)) (.skip)))
 (.seq (.seq (.region (some [1]) [⟨(some 27), .faddr 2 (.t 1), none⟩,
   ⟨(some 28), .load false 1 (.t 27), none⟩] [])
 (.block 0 (.seq (.seq (.region (some [1, 28]) [⟨(some 30), .bin .eql (.t 28) (.c (.d (.i .u8 1))), none⟩,
    ⟨(some 29), .mv (.t 30), none⟩] [])
  (.cond (.t 29) (.skip) (.region (some [1, 28]) [⟨(some 31), .bin .eql (.t 28) (.c (.d (.i .u8 3))), none⟩,
     ⟨(some 29), .mv (.t 31), none⟩] [])))
  (.cond (.t 29) (.seq (.region (some []) [⟨(some 2), .mv (.c (.d (.b true))), none⟩] [])
   (.ret)) (.seq (.region (some [1, 28]) [⟨(some 33), .bin .eql (.t 28) (.c (.d (.i .u8 2))), none⟩,
     ⟨(some 32), .mv (.t 33), none⟩] [])
   (.cond (.t 32) (.seq (.region (some [1]) [⟨(some 34), .faddr 5 (.t 1), none⟩,
      ⟨(some 35), .load false 1 (.t 34), none⟩,
      ⟨(some 36), .bin .eql (.t 35) (.c (.d (.s ⟨#[]⟩))), none⟩,
      ⟨(some 2), .mv (.t 36), none⟩] [])
    (.ret)) (.skip)))))))
 (.seq (.region (some [1]) [⟨(some 37), .faddr 2 (.t 1), none⟩,
   ⟨(some 38), .load false 1 (.t 37), none⟩,
   ⟨(some 39), .bin .eql (.t 38) (.c (.d (.i .u8 4))), none⟩,
   ⟨(some 40), .mv (.t 39), none⟩,
   ⟨(some 41), .faddr 2 (.t 1), some (40, false)⟩,
   ⟨(some 42), .load false 1 (.t 41), some (40, false)⟩,
   ⟨(some 43), .bin .eql (.t 42) (.c (.d (.i .u8 5))), some (40, false)⟩,
   ⟨(some 44), .pick (.t 40) (.c (.d (.b true))) (.t 43), none⟩,
   ⟨(some 45), .mv (.t 44), none⟩,
   ⟨(some 46), .load true 6 (.t 1), some (45, true)⟩,
   ⟨(some 47), .faddr 0 (.t 1), some (45, true)⟩,
   ⟨(some 48), .load false 1 (.t 47), some (45, true)⟩,
   ⟨(some 49), .faddr 1 (.t 1), some (45, true)⟩,
   ⟨(some 50), .load false 1 (.t 49), some (45, true)⟩,
   ⟨(some 51), .faddr 2 (.t 1), some (45, true)⟩,
   ⟨(some 52), .load false 1 (.t 51), some (45, true)⟩,
   ⟨(some 53), .faddr 3 (.t 1), some (45, true)⟩,
   ⟨(some 54), .load false 1 (.t 53), some (45, true)⟩,
   ⟨(some 55), .build [.d (.i .u8 0), .d (.i .u32 0), .d (.i .u8 0), .d (.i .u8 0), .d (.i .u8 0), .d (.s ⟨#[]⟩)] [(0, 1, .t 48), (1, 1, .t 50), (2, 1, .t 52), (3, 1, .t 54)], some (45, true)⟩,
   ⟨(some 56), .eq false Pk.Opr.ety (.t 46) (.t 55), some (45, true)⟩,
   ⟨(some 57), .pick (.t 45) (.t 56) (.c (.d (.b false))), none⟩,
   ⟨(some 2), .mv (.t 57), none⟩] [])
 (.ret))))
def a_objects_IsOp : AFn := .code 1 c_objects_IsOp [.tmp 2]
set_option maxRecDepth 100000 in
theorem k_objects_IsOp : compF Tryd.prog h_objects_IsOp F_objects_IsOp = some a_objects_IsOp := by kernel_rfl

/-- (*paddock/witness.row).read -/
def h_witness_row_read : Hints := { kp := [(0, [0, 1]), (1, [0, 3]), (2, [0, 3, 11, 12]), (3, [0, 3, 11, 12]), (4, [0, 3, 5, 11, 12]), (5, []), (6, [0, 3, 11, 12]), (7, [])], lkp := [(2, [0, 3, 11, 12])], lth := [] }
def K_witness_row_read_0 : Option (List Nat) := (some [0, 3, 11, 12])
def l_witness_row_read_0 : ACode :=
 .seq (.region (some [0, 3, 11, 12]) [⟨(some 13), .bin .lss (.t 12) (.t 11), none⟩] [])
 (.seq (.cond (.t 13) (.skip) (.exit 0))
 (.seq (.block 1 (.seq (.region (some [0, 3, 11, 12]) [⟨(some 14), .mv (.t 12), none⟩,
    ⟨(some 5), .mv (.t 14), none⟩] [])
  (.seq (.region (some [0, 3, 5, 11, 12]) [⟨(some 15), .mv (.t 0), none⟩,
    ⟨(some 16), .mv (.t 5), none⟩,
    ⟨(some 17), .conv .u32 (.t 16), none⟩,
    ⟨(some 18), .call (.f F_witness_row_base) [.t 15, .t 17], none⟩,
    ⟨(some 19), .faddr 0 (.t 3), none⟩,
    ⟨(some 20), .load true 6 (.t 19), none⟩,
    ⟨(some 21), .call (.f F_objects_Read) [.t 18, .t 20], none⟩,
    ⟨(some 22), .faddr 6 (.t 3), none⟩,
    ⟨(some 23), .load true 2 (.t 22), none⟩,
    ⟨(some 24), .eq false Pk.Res.ety (.t 21) (.t 23), none⟩] [(3, 5), (3, 8), (5, 8), (6, 8)])
  (.cond (.t 24) (.seq (.region (some []) [⟨(some 4), .mv (.c (.d (.i .i64 0))), none⟩] [])
   (.ret)) (.skip)))))
 (.region (some [0, 3, 11, 12]) [⟨(some 25), .bin .add (.t 12) (.c (.d (.i .i64 1))), none⟩,
   ⟨(some 12), .mv (.t 25), none⟩] [])))
def c_witness_row_read : ACode :=
 .seq (.region (some [0, 1]) [⟨(some 3), .box (.t 1), none⟩,
   ⟨(some 4), .mv (.c (.d (.i .i64 0))), none⟩] [])
 (.seq (.seq (.region (some [0, 3]) [⟨(some 6), .mv (.t 0), none⟩,
   ⟨(some 7), .nilck (.t 6), none⟩,
   ⟨(some 8), .faddr 0 (.t 7), none⟩,
   ⟨(some 9), .load false 1 (.t 8), none⟩,
   ⟨(some 10), .len false (.t 9), none⟩,
   ⟨(some 11), .bin .add (.t 10) (.c (.d (.i .i64 1))), none⟩,
   ⟨(some 12), .mv (.c (.d (.i .i64 0))), none⟩] [])
 (.block 0 (.loop K_witness_row_read_0 [] l_witness_row_read_0)))
 (.seq (.region (some []) [⟨(some 4), .mv (.c (.d (.i .i64 220))), none⟩] [])
 (.ret)))
def a_witness_row_read : AFn := .code 2 c_witness_row_read [.tmp 4]
set_option maxRecDepth 100000 in
theorem k_witness_row_read : compF Tryd.prog h_witness_row_read F_witness_row_read = some a_witness_row_read := by kernel_rfl

/-- slices.IndexFunc[[]paddock/api.Entry,paddock/api.Entry] -/
def h_slices_IndexFunc_sapi_Entry_api_Entry : Hints := { kp := [(0, [0, 1]), (1, [0, 1]), (2, [0, 1, 7, 8]), (3, [0, 1, 7, 8]), (4, [0, 1, 5, 7, 8]), (5, [5]), (6, [0, 1, 7, 8]), (7, [])], lkp := [(2, [0, 1, 7, 8])], lth := [] }
def K_slices_IndexFunc_sapi_Entry_api_Entry_0 : Option (List Nat) := (some [0, 1, 7, 8])
def l_slices_IndexFunc_sapi_Entry_api_Entry_0 : ACode :=
 .seq (.region (some [0, 1, 7, 8]) [⟨(some 9), .bin .lss (.t 8) (.t 7), none⟩] [])
 (.seq (.cond (.t 9) (.skip) (.exit 0))
 (.seq (.block 1 (.seq (.region (some [0, 1, 7, 8]) [⟨(some 10), .mv (.t 8), none⟩,
    ⟨(some 5), .mv (.t 10), none⟩] [])
  (.seq (.region (some [0, 1, 5, 7, 8]) [⟨(some 11), .mv (.t 1), none⟩,
    ⟨(some 12), .mv (.t 0), none⟩,
    ⟨(some 13), .mv (.t 5), none⟩,
    ⟨(some 14), .iaddrS 8 (.t 12) (.t 13), none⟩,
    ⟨(some 15), .load true 8 (.t 14), none⟩,
    ⟨(some 16), .call (.t 11) [.t 15], none⟩] [])
  (.cond (.t 16) (.seq (.region (some [5]) [⟨(some 17), .mv (.t 5), none⟩,
     ⟨(some 4), .mv (.t 17), none⟩] [])
   (.ret)) (.skip)))))
 (.region (some [0, 1, 7, 8]) [⟨(some 18), .bin .add (.t 8) (.c (.d (.i .i64 1))), none⟩,
   ⟨(some 8), .mv (.t 18), none⟩] [])))
def c_slices_IndexFunc_sapi_Entry_api_Entry : ACode :=
 .seq (.region (some [0, 1]) [⟨(some 4), .mv (.c (.d (.i .i64 0))), none⟩] [])
 (.seq (.seq (.region (some [0, 1]) [⟨(some 6), .mv (.t 0), none⟩,
   ⟨(some 7), .len false (.t 6), none⟩,
   ⟨(some 8), .mv (.c (.d (.i .i64 0))), none⟩] [])
 (.block 0 (.loop K_slices_IndexFunc_sapi_Entry_api_Entry_0 [] l_slices_IndexFunc_sapi_Entry_api_Entry_0)))
 (.seq (.region (some []) [⟨(some 4), .mv (.c (.d (.i .i64 (-1)))), none⟩] [])
 (.ret)))
def a_slices_IndexFunc_sapi_Entry_api_Entry : AFn := .code 2 c_slices_IndexFunc_sapi_Entry_api_Entry [.tmp 4]
set_option maxRecDepth 100000 in
theorem k_slices_IndexFunc_sapi_Entry_api_Entry : compF Tryd.prog h_slices_IndexFunc_sapi_Entry_api_Entry F_slices_IndexFunc_sapi_Entry_api_Entry = some a_slices_IndexFunc_sapi_Entry_api_Entry := by kernel_rfl

/-- (*paddock/witness.Order).Took$1 -/
def h_witness_Order_Took_1 : Hints := { kp := [(0, [0, 1]), (1, [1, 2])], lkp := [], lth := [] }
def c_witness_Order_Took_1 : ACode :=
 .seq (.region (some [0, 1]) [⟨(some 2), .box (.t 0), none⟩,
   ⟨(some 3), .mv (.c (.d (.b false))), none⟩] [])
 (.seq (.region (some [1, 2]) [⟨(some 4), .faddr 2 (.t 2), none⟩,
   ⟨(some 5), .faddr 0 (.t 4), none⟩,
   ⟨(some 6), .load false 1 (.t 5), none⟩,
   ⟨(some 7), .faddr 0 (.t 1), none⟩,
   ⟨(some 8), .faddr 0 (.t 7), none⟩,
   ⟨(some 9), .load false 1 (.t 8), none⟩,
   ⟨(some 10), .bin .eql (.t 6) (.t 9), none⟩,
   ⟨(some 11), .mv (.t 10), none⟩,
   ⟨(some 12), .faddr 2 (.t 2), some (11, true)⟩,
   ⟨(some 13), .faddr 1 (.t 12), some (11, true)⟩,
   ⟨(some 14), .load false 1 (.t 13), some (11, true)⟩,
   ⟨(some 15), .faddr 0 (.t 1), some (11, true)⟩,
   ⟨(some 16), .faddr 1 (.t 15), some (11, true)⟩,
   ⟨(some 17), .load false 1 (.t 16), some (11, true)⟩,
   ⟨(some 18), .bin .eql (.t 14) (.t 17), some (11, true)⟩,
   ⟨(some 19), .pick (.t 11) (.t 18) (.c (.d (.b false))), none⟩,
   ⟨(some 3), .mv (.t 19), none⟩] [])
 (.ret))
def a_witness_Order_Took_1 : AFn := .code 2 c_witness_Order_Took_1 [.tmp 3]
set_option maxRecDepth 100000 in
theorem k_witness_Order_Took_1 : compF Tryd.prog h_witness_Order_Took_1 F_witness_Order_Took_1 = some a_witness_Order_Took_1 := by kernel_rfl

/-- (*paddock/witness.row).base -/
def h_witness_row_base : Hints := { kp := [(0, [0, 1]), (1, [0, 1, 4]), (2, [4]), (3, [0, 1, 4])], lkp := [], lth := [] }
def c_witness_row_base : ACode :=
 .seq (.region (some [0, 1]) [⟨(some 4), .box (.c (.d (.agg Pk.Base.zero.cs))), none⟩] [])
 (.seq (.seq (.region (some [0, 1, 4]) [⟨(some 5), .mv (.t 1), none⟩,
   ⟨(some 6), .bin .eql (.t 5) (.c (.d (.i .u32 0))), none⟩] [])
 (.cond (.t 6) (.seq (.region (some [4]) [⟨(some 7), .build (List.map .d Pk.Base.zero.cs) [], none⟩,
    ⟨none, .store 39 (.t 4) (.t 7), none⟩] [])
  (.ret)) (.skip)))
 (.seq (.region (some [0, 1, 4]) [⟨(some 8), .mv (.t 0), none⟩,
   ⟨(some 9), .nilck (.t 8), none⟩,
   ⟨(some 10), .faddr 1 (.t 9), none⟩,
   ⟨(some 11), .load false 1 (.t 10), none⟩,
   ⟨(some 12), .mv (.t 1), none⟩,
   ⟨(some 13), .bin .sub (.t 12) (.c (.d (.i .u32 1))), none⟩,
   ⟨(some 14), .iaddrS 39 (.t 11) (.t 13), none⟩,
   ⟨(some 15), .load true 39 (.t 14), none⟩,
   ⟨none, .store 39 (.t 4) (.t 15), none⟩] [])
 (.ret)))
def a_witness_row_base : AFn := .code 2 c_witness_row_base [.cell true 39 4]
set_option maxRecDepth 100000 in
theorem k_witness_row_base : compF Tryd.prog h_witness_row_base F_witness_row_base = some a_witness_row_base := by kernel_rfl

/-- paddock/bits.Mix -/
def h_bits_Mix : Hints := { kp := [(0, [0]), (1, [0]), (2, [0]), (3, [0])], lkp := [], lth := [] }
def c_bits_Mix : ACode :=
 .seq (.region (some [0]) [⟨(some 2), .mv (.c (.d (.i .u64 0))), none⟩] [])
 (.seq (.region (some [0]) [⟨(some 3), .mv (.t 0), none⟩,
   ⟨(some 4), .mv (.t 0), none⟩,
   ⟨(some 5), .bin .shr (.t 4) (.c (.d (.i .u64 33))), none⟩,
   ⟨(some 6), .bin .xor (.t 3) (.t 5), none⟩,
   ⟨(some 7), .bin .mul (.t 6) (.c (.d (.i .u64 18397679294719823053))), none⟩,
   ⟨(some 0), .mv (.t 7), none⟩] [])
 (.seq (.region (some [0]) [⟨(some 8), .mv (.t 0), none⟩,
   ⟨(some 9), .mv (.t 0), none⟩,
   ⟨(some 10), .bin .shr (.t 9) (.c (.d (.i .u64 33))), none⟩,
   ⟨(some 11), .bin .xor (.t 8) (.t 10), none⟩,
   ⟨(some 12), .bin .mul (.t 11) (.c (.d (.i .u64 14181476777654086739))), none⟩,
   ⟨(some 0), .mv (.t 12), none⟩] [])
 (.seq (.region (some [0]) [⟨(some 13), .mv (.t 0), none⟩,
   ⟨(some 14), .mv (.t 0), none⟩,
   ⟨(some 15), .bin .shr (.t 14) (.c (.d (.i .u64 33))), none⟩,
   ⟨(some 16), .bin .xor (.t 13) (.t 15), none⟩,
   ⟨(some 2), .mv (.t 16), none⟩] [])
 (.ret))))
def a_bits_Mix : AFn := .code 1 c_bits_Mix [.tmp 2]
set_option maxRecDepth 100000 in
theorem k_bits_Mix : compF Tryd.prog h_bits_Mix F_bits_Mix = some a_bits_Mix := by kernel_rfl

/-- paddock/objects.Seen -/
def h_objects_Seen : Hints := { kp := [(0, [0, 1]), (1, [2, 3, 4]), (2, [4]), (3, [2, 3, 4]), (4, [3, 4, 6]), (5, [4, 6]), (6, [4])], lkp := [], lth := [] }
def c_objects_Seen : ACode :=
 .seq (.region (some [0, 1]) [⟨(some 2), .box (.t 0), none⟩,
   ⟨(some 3), .box (.t 1), none⟩,
   ⟨(some 4), .box (.c (.d (.agg [.i .u8 0, .s ⟨#[]⟩]))), none⟩,
   ⟨(some 5), .mv (.c (.d (.b false))), none⟩] [])
 (.seq (.seq (.region (some [2, 3, 4]) [⟨(some 7), .load true 6 (.t 3), none⟩,
   ⟨(some 8), .call (.f F_objects_Writes) [.t 7], none⟩,
   ⟨(some 9), .un .not (.t 8), none⟩,
   ⟨(some 10), .mv (.t 9), none⟩,
   ⟨(some 11), .faddr 0 (.t 3), some (10, false)⟩,
   ⟨(some 12), .load false 1 (.t 11), some (10, false)⟩,
   ⟨(some 13), .bin .sub (.t 12) (.c (.d (.i .u8 1))), some (10, false)⟩,
   ⟨(some 14), .faddr 30 (.t 2), some (10, false)⟩,
   ⟨(some 15), .iaddrA 3 3 (.t 14) (.t 13), some (10, false)⟩,
   ⟨(some 16), .faddr 0 (.t 15), some (10, false)⟩,
   ⟨(some 17), .load false 1 (.t 16), some (10, false)⟩,
   ⟨(some 18), .faddr 1 (.t 3), some (10, false)⟩,
   ⟨(some 19), .load false 1 (.t 18), some (10, false)⟩,
   ⟨(some 20), .bin .lss (.t 17) (.t 19), some (10, false)⟩,
   ⟨(some 21), .pick (.t 10) (.c (.d (.b true))) (.t 20), none⟩] [(5, 12), (10, 12)])
 (.cond (.t 21) (.seq (.region (some [4]) [⟨(some 22), .build [.d (.i .u8 0), .d (.s ⟨#[]⟩)] [], none⟩,
    ⟨none, .store 2 (.t 4) (.t 22), none⟩,
    ⟨(some 5), .mv (.c (.d (.b false))), none⟩] [])
  (.ret)) (.skip)))
 (.seq (.seq (.region (some [2, 3, 4]) [⟨(some 23), .faddr 0 (.t 3), none⟩,
   ⟨(some 24), .load false 1 (.t 23), none⟩,
   ⟨(some 25), .bin .sub (.t 24) (.c (.d (.i .u8 1))), none⟩,
   ⟨(some 26), .faddr 30 (.t 2), none⟩,
   ⟨(some 27), .iaddrA 3 3 (.t 26) (.t 25), none⟩,
   ⟨(some 28), .load true 3 (.t 27), none⟩,
   ⟨(some 6), .box (.c (.d (.agg [.i .u32 0, .i .u8 0, .s ⟨#[]⟩]))), none⟩,
   ⟨none, .store 3 (.t 6) (.t 28), none⟩] [])
 (.seq (.region (some [3, 4, 6]) [⟨(some 29), .faddr 0 (.t 6), none⟩,
   ⟨(some 30), .load false 1 (.t 29), none⟩,
   ⟨(some 31), .faddr 1 (.t 3), none⟩,
   ⟨(some 32), .load false 1 (.t 31), none⟩,
   ⟨(some 33), .bin .eql (.t 30) (.t 32), none⟩] [])
 (.cond (.t 33) (.seq (.region (some [4, 6]) [⟨(some 34), .faddr 1 (.t 6), none⟩,
    ⟨(some 35), .load true 2 (.t 34), none⟩,
    ⟨none, .store 2 (.t 4) (.t 35), none⟩,
    ⟨(some 5), .mv (.c (.d (.b true))), none⟩] [])
  (.ret)) (.skip))))
 (.seq (.region (some [4]) [⟨(some 36), .build [.d (.i .u8 0), .d (.s ⟨#[]⟩)] [(0, 1, .c (.d (.i .u8 3)))], none⟩,
   ⟨none, .store 2 (.t 4) (.t 36), none⟩,
   ⟨(some 5), .mv (.c (.d (.b true))), none⟩] [])
 (.ret))))
def a_objects_Seen : AFn := .code 2 c_objects_Seen [.cell true 2 4, .tmp 5]
set_option maxRecDepth 100000 in
theorem k_objects_Seen : compF Tryd.prog h_objects_Seen F_objects_Seen = some a_objects_Seen := by kernel_rfl

/-- paddock/objects.does -/
def h_objects_does : Hints := { kp := [(0, [0]), (1, [0]), (2, [3]), (4, [3]), (6, [3]), (7, []), (5, []), (3, []), (8, [])], lkp := [], lth := [] }
def c_objects_does : ACode :=
 .seq (.region (some [0]) [⟨(some 2), .mv (.c (.one)), none⟩] [])
 (.seq (.seq (.region (some [0]) [⟨(some 3), .mv (.t 0), none⟩] [])
 (.block 0 (.seq (.region (some [3]) [⟨(some 5), .bin .eql (.t 3) (.c (.d (.i .u8 1))), none⟩,
    ⟨(some 4), .mv (.t 5), none⟩] [])
  (.cond (.t 4) (.seq (.region (some []) [⟨(some 2), .mv (.f F_objects_doer_write), none⟩] [])
   (.ret)) (.seq (.region (some [3]) [⟨(some 7), .bin .eql (.t 3) (.c (.d (.i .u8 2))), none⟩,
     ⟨(some 6), .mv (.t 7), none⟩] [])
   (.cond (.t 6) (.seq (.region (some []) [⟨(some 2), .mv (.f F_objects_doer_trunc), none⟩] [])
    (.ret)) (.seq (.region (some [3]) [⟨(some 9), .bin .eql (.t 3) (.c (.d (.i .u8 3))), none⟩,
      ⟨(some 8), .mv (.t 9), none⟩] [])
    (.cond (.t 8) (.seq (.region (some []) [⟨(some 2), .mv (.f F_objects_doer_attr), none⟩] [])
     (.ret)) (.skip)))))))))
 (.seq (.region (some []) [⟨(some 2), .mv (.f F_objects_doer_remove), none⟩] [])
 (.ret)))
def a_objects_does : AFn := .code 1 c_objects_does [.tmp 2]
set_option maxRecDepth 100000 in
theorem k_objects_does : compF Tryd.prog h_objects_does F_objects_does = some a_objects_does := by kernel_rfl

/-- paddock/pglog.next -/
def h_pglog_next : Hints := { kp := [(0, [0, 1]), (1, [2, 3])], lkp := [], lth := [] }
def c_pglog_next : ACode :=
 .seq (.region (some [0, 1]) [⟨(some 2), .box (.t 0), none⟩,
   ⟨(some 3), .box (.t 1), none⟩,
   ⟨(some 4), .mv (.c (.d (.b false))), none⟩] [])
 (.seq (.region (some [2, 3]) [⟨(some 5), .faddr 2 (.t 3), none⟩,
   ⟨(some 6), .load true 6 (.t 5), none⟩,
   ⟨(some 7), .call (.f F_objects_Writes) [.t 6], none⟩,
   ⟨(some 8), .mv (.t 7), none⟩,
   ⟨(some 9), .faddr 1 (.t 3), some (8, true)⟩,
   ⟨(some 10), .load false 1 (.t 9), some (8, true)⟩,
   ⟨(some 11), .faddr 1 (.t 2), some (8, true)⟩,
   ⟨(some 12), .load false 1 (.t 11), some (8, true)⟩,
   ⟨(some 13), .bin .add (.t 12) (.c (.d (.i .u32 1))), some (8, true)⟩,
   ⟨(some 14), .bin .eql (.t 10) (.t 13), some (8, true)⟩,
   ⟨(some 15), .pick (.t 8) (.t 14) (.c (.d (.b false))), none⟩,
   ⟨(some 16), .mv (.t 15), none⟩,
   ⟨(some 17), .faddr 1 (.t 3), some (16, true)⟩,
   ⟨(some 18), .load false 1 (.t 17), some (16, true)⟩,
   ⟨(some 19), .faddr 1 (.t 2), some (16, true)⟩,
   ⟨(some 20), .load false 1 (.t 19), some (16, true)⟩,
   ⟨(some 21), .bin .gtr (.t 18) (.t 20), some (16, true)⟩,
   ⟨(some 22), .pick (.t 16) (.t 21) (.c (.d (.b false))), none⟩,
   ⟨(some 23), .mv (.t 22), none⟩,
   ⟨(some 24), .faddr 0 (.t 3), some (23, true)⟩,
   ⟨(some 25), .load false 1 (.t 24), some (23, true)⟩,
   ⟨(some 26), .faddr 0 (.t 2), some (23, true)⟩,
   ⟨(some 27), .load false 1 (.t 26), some (23, true)⟩,
   ⟨(some 28), .bin .geq (.t 25) (.t 27), some (23, true)⟩,
   ⟨(some 29), .pick (.t 23) (.t 28) (.c (.d (.b false))), none⟩,
   ⟨(some 30), .mv (.t 29), none⟩,
   ⟨(some 31), .faddr 0 (.t 3), some (30, true)⟩,
   ⟨(some 32), .load false 1 (.t 31), some (30, true)⟩,
   ⟨(some 33), .bin .leq (.t 32) (.c (.d (.i .u32 60))), some (30, true)⟩,
   ⟨(some 34), .pick (.t 30) (.t 33) (.c (.d (.b false))), none⟩,
   ⟨(some 4), .mv (.t 34), none⟩] [])
 (.ret))
def a_pglog_next : AFn := .code 2 c_pglog_next [.tmp 4]
set_option maxRecDepth 100000 in
theorem k_pglog_next : compF Tryd.prog h_pglog_next F_pglog_next = some a_pglog_next := by kernel_rfl

/-- paddock/pglog.last -/
def h_pglog_last : Hints := { kp := [(0, [0]), (1, [1, 2]), (2, [1, 2]), (3, [1, 2])], lkp := [], lth := [] }
def c_pglog_last : ACode :=
 .seq (.region (some [0]) [⟨(some 1), .box (.t 0), none⟩,
   ⟨(some 2), .box (.c (.d (.agg [.i .u32 0, .i .u32 0, .i .u8 0, .i .u32 0, .i .u8 0, .i .u8 0, .i .u8 0, .s ⟨#[]⟩]))), none⟩] [])
 (.seq (.seq (.region (some [1, 2]) [⟨(some 3), .faddr 48 (.t 1), none⟩,
   ⟨(some 4), .load false 1 (.t 3), none⟩,
   ⟨(some 5), .len false (.t 4), none⟩,
   ⟨(some 6), .bin .eql (.t 5) (.c (.d (.i .i64 0))), none⟩] [])
 (.cond (.t 6) (.seq (.region (some [1, 2]) [⟨(some 7), .faddr 40 (.t 1), none⟩,
    ⟨(some 8), .load true 8 (.t 7), none⟩,
    ⟨none, .store 8 (.t 2) (.t 8), none⟩] [])
  (.ret)) (.skip)))
 (.seq (.region (some [1, 2]) [⟨(some 9), .faddr 48 (.t 1), none⟩,
   ⟨(some 10), .load false 1 (.t 9), none⟩,
   ⟨(some 11), .faddr 48 (.t 1), none⟩,
   ⟨(some 12), .load false 1 (.t 11), none⟩,
   ⟨(some 13), .len false (.t 12), none⟩,
   ⟨(some 14), .bin .sub (.t 13) (.c (.d (.i .i64 1))), none⟩,
   ⟨(some 15), .iaddrS 8 (.t 10) (.t 14), none⟩,
   ⟨(some 16), .load true 8 (.t 15), none⟩,
   ⟨none, .store 8 (.t 2) (.t 16), none⟩] [])
 (.ret)))
def a_pglog_last : AFn := .code 1 c_pglog_last [.cell true 8 2]
set_option maxRecDepth 100000 in
theorem k_pglog_last : compF Tryd.prog h_pglog_last F_pglog_last = some a_pglog_last := by kernel_rfl

/-- slices.Clone[[]paddock/api.Entry,paddock/api.Entry] -/
def h_slices_Clone_sapi_Entry_api_Entry : Hints := { kp := [(0, [0]), (1, [0]), (2, []), (3, [0])], lkp := [], lth := [] }
def c_slices_Clone_sapi_Entry_api_Entry : ACode :=
 .seq (.region (some [0]) [⟨(some 2), .mv (.c (.nilS)), none⟩] [])
 (.seq (.seq (.region (some [0]) [⟨(some 3), .mv (.t 0), none⟩,
   ⟨(some 4), .isnil false (.t 3), none⟩] [])
 (.cond (.t 4) (.seq (.region (some []) [⟨(some 2), .mv (.c (.nilS)), none⟩] [])
  (.ret)) (.skip)))
 (.seq (.region (some [0]) [⟨(some 5), .bsl 8 [], none⟩,
   ⟨(some 6), .mv (.t 0), none⟩,
   ⟨(some 7), .app 8 (.t 5) (.t 6), none⟩,
   ⟨(some 2), .mv (.t 7), none⟩] [])
 (.ret)))
def a_slices_Clone_sapi_Entry_api_Entry : AFn := .code 1 c_slices_Clone_sapi_Entry_api_Entry [.tmp 2]
set_option maxRecDepth 100000 in
theorem k_slices_Clone_sapi_Entry_api_Entry : compF Tryd.prog h_slices_Clone_sapi_Entry_api_Entry F_slices_Clone_sapi_Entry_api_Entry = some a_slices_Clone_sapi_Entry_api_Entry := by kernel_rfl

/-- paddock/pglog.folded -/
def h_pglog_folded : Hints := { kp := [(0, [0, 1]), (1, [1, 2, 4]), (2, [1, 2, 4, 10, 11, 12]), (3, [1, 2, 4, 10, 11, 12]), (4, [1, 2, 4, 6, 10, 11, 12]), (5, [1, 2, 4, 6, 10, 11, 12]), (6, [1, 2, 4, 10, 11, 12]), (7, [1, 2, 4]), (8, [2, 4])], lkp := [(2, [1, 2, 4, 10, 11, 12])], lth := [] }
def K_pglog_folded_0 : Option (List Nat) := (some [1, 2, 4, 10, 11, 12])
def l_pglog_folded_0 : ACode :=
 .seq (.region (some [1, 2, 4, 10, 11, 12]) [⟨(some 13), .bin .lss (.t 12) (.t 11), none⟩] [])
 (.seq (.cond (.t 13) (.skip) (.exit 0))
 (.seq (.block 1 (.seq (.region (some [1, 2, 4, 10, 11, 12]) [⟨(some 14), .iaddrS 8 (.t 10) (.t 12), none⟩,
    ⟨(some 15), .load true 8 (.t 14), none⟩,
    ⟨(some 6), .box (.c (.d (.agg [.i .u32 0, .i .u32 0, .i .u8 0, .i .u32 0, .i .u8 0, .i .u8 0, .i .u8 0, .s ⟨#[]⟩]))), none⟩,
    ⟨none, .store 8 (.t 6) (.t 15), none⟩] [])
  (.seq (.region (some [1, 2, 4, 6, 10, 11, 12]) [⟨(some 17), .faddr 1 (.t 2), none⟩,
    ⟨(some 18), .load true 39 (.t 17), none⟩,
    ⟨(some 19), .faddr 2 (.t 6), none⟩,
    ⟨(some 20), .load true 6 (.t 19), none⟩,
    ⟨(some 21), .call (.f F_objects_Do) [.t 18, .t 20], none⟩,
    ⟨(some 16), .mv (.t 21), none⟩,
    ⟨(some 22), .ext (.t 16) 0, none⟩,
    ⟨(some 23), .ext (.t 16) 1, none⟩,
    ⟨(some 24), .faddr 1 (.t 2), none⟩,
    ⟨none, .store 39 (.t 24) (.t 22), none⟩] [])
  (.region (some [1, 2, 4, 6, 10, 11, 12]) [⟨(some 25), .faddr 0 (.t 6), none⟩,
    ⟨(some 26), .load false 1 (.t 25), none⟩,
    ⟨(some 27), .faddr 1 (.t 6), none⟩,
    ⟨(some 28), .load false 1 (.t 27), none⟩,
    ⟨(some 29), .build [.d (.i .u32 0), .d (.i .u32 0), .d (.i .u8 0), .d (.i .u32 0), .d (.i .u8 0), .d (.i .u8 0), .d (.i .u8 0), .d (.s ⟨#[]⟩)] [(0, 1, .t 26), (1, 1, .t 28)], none⟩,
    ⟨(some 30), .faddr 40 (.t 2), none⟩,
    ⟨none, .store 8 (.t 30) (.t 29), none⟩] []))))
 (.region (some [1, 2, 4, 10, 11, 12]) [⟨(some 31), .bin .add (.t 12) (.c (.d (.i .i64 1))), none⟩,
   ⟨(some 12), .mv (.t 31), none⟩] [])))
def c_pglog_folded : ACode :=
 .seq (.region (some [0, 1]) [⟨(some 2), .box (.t 0), none⟩,
   ⟨(some 4), .box (.c (.agg Pk.State.zeroA)), none⟩] [])
 (.seq (.seq (.region (some [1, 2, 4]) [⟨(some 7), .faddr 48 (.t 2), none⟩,
   ⟨(some 8), .load false 1 (.t 7), none⟩,
   ⟨(some 9), .mv (.t 1), none⟩,
   ⟨(some 10), .slice 8 (.t 8) none (some (.t 9)) none, none⟩,
   ⟨(some 11), .len false (.t 10), none⟩,
   ⟨(some 12), .mv (.c (.d (.i .i64 0))), none⟩] [])
 (.block 0 (.loop K_pglog_folded_0 [] l_pglog_folded_0)))
 (.seq (.region (some [1, 2, 4]) [⟨(some 32), .faddr 48 (.t 2), none⟩,
   ⟨(some 33), .load false 1 (.t 32), none⟩,
   ⟨(some 34), .mv (.t 1), none⟩,
   ⟨(some 35), .slice 8 (.t 33) (some (.t 34)) none none, none⟩,
   ⟨(some 36), .call (.f F_slices_Clone_sapi_Entry_api_Entry) [.t 35], none⟩,
   ⟨(some 37), .faddr 48 (.t 2), none⟩,
   ⟨none, .store 1 (.t 37) (.t 36), none⟩] [])
 (.seq (.region (some [2, 4]) [⟨(some 38), .load true 49 (.t 2), none⟩,
   ⟨none, .store 49 (.t 4) (.t 38), none⟩] [])
 (.ret))))
def a_pglog_folded : AFn := .code 2 c_pglog_folded [.cell true 49 4]
set_option maxRecDepth 100000 in
theorem k_pglog_folded : compF Tryd.prog h_pglog_folded F_pglog_folded = some a_pglog_folded := by kernel_rfl

/-- paddock/paddockref1.Mix -/
def h_paddockref1_Mix : Hints := { kp := [(0, [0]), (1, [0]), (2, [0]), (3, [0])], lkp := [], lth := [] }
def c_paddockref1_Mix : ACode :=
 .seq (.region (some [0]) [⟨(some 2), .mv (.c (.d (.i .u64 0))), none⟩] [])
 (.seq (.region (some [0]) [⟨(some 3), .mv (.t 0), none⟩,
   ⟨(some 4), .mv (.t 0), none⟩,
   ⟨(some 5), .bin .shr (.t 4) (.c (.d (.i .u64 33))), none⟩,
   ⟨(some 6), .bin .xor (.t 3) (.t 5), none⟩,
   ⟨(some 7), .bin .mul (.t 6) (.c (.d (.i .u64 18397679294719823053))), none⟩,
   ⟨(some 0), .mv (.t 7), none⟩] [])
 (.seq (.region (some [0]) [⟨(some 8), .mv (.t 0), none⟩,
   ⟨(some 9), .mv (.t 0), none⟩,
   ⟨(some 10), .bin .shr (.t 9) (.c (.d (.i .u64 33))), none⟩,
   ⟨(some 11), .bin .xor (.t 8) (.t 10), none⟩,
   ⟨(some 12), .bin .mul (.t 11) (.c (.d (.i .u64 14181476777654086739))), none⟩,
   ⟨(some 0), .mv (.t 12), none⟩] [])
 (.seq (.region (some [0]) [⟨(some 13), .mv (.t 0), none⟩,
   ⟨(some 14), .mv (.t 0), none⟩,
   ⟨(some 15), .bin .shr (.t 14) (.c (.d (.i .u64 33))), none⟩,
   ⟨(some 16), .bin .xor (.t 13) (.t 15), none⟩,
   ⟨(some 2), .mv (.t 16), none⟩] [])
 (.ret))))
def a_paddockref1_Mix : AFn := .code 1 c_paddockref1_Mix [.tmp 2]
set_option maxRecDepth 100000 in
theorem k_paddockref1_Mix : compF Tryd.prog h_paddockref1_Mix F_paddockref1_Mix = some a_paddockref1_Mix := by kernel_rfl

/-- paddock/pglog.base -/
def h_pglog_base : Hints := { kp := [(0, [0]), (1, [1]), (2, [1, 8, 9]), (3, [1, 8, 9]), (4, [1, 4, 8, 9]), (5, []), (6, [1, 8, 9]), (7, [1]), (8, [17, 18]), (9, [17, 18]), (10, [6, 17, 18]), (11, []), (12, [17, 18]), (13, [])], lkp := [(2, [1, 8, 9]), (8, [17, 18])], lth := [] }
def K_pglog_base_0 : Option (List Nat) := (some [1, 8, 9])
def l_pglog_base_0 : ACode :=
 .seq (.region (some [1, 8, 9]) [⟨(some 10), .bin .lss (.t 9) (.c (.d (.i .i64 6))), none⟩] [])
 (.seq (.cond (.t 10) (.skip) (.exit 0))
 (.seq (.block 1 (.seq (.region (some [1, 8, 9]) [⟨(some 11), .idxA true 6 5 (.t 8) (.t 9), none⟩,
    ⟨(some 4), .box (.c (.d (.agg [.b false, .s ⟨#[]⟩, .s ⟨#[]⟩, .s ⟨#[]⟩, .s ⟨#[]⟩]))), none⟩,
    ⟨none, .store 5 (.t 4) (.t 11), none⟩] [])
  (.seq (.region (some [1, 4, 8, 9]) [⟨(some 12), .load true 5 (.t 4), none⟩,
    ⟨(some 13), .call (.f F_pglog_object) [.t 12], none⟩,
    ⟨(some 14), .un .not (.t 13), none⟩] [])
  (.cond (.t 14) (.seq (.region (some []) [⟨(some 2), .mv (.c (.d (.b false))), none⟩] [])
   (.ret)) (.skip)))))
 (.region (some [1, 8, 9]) [⟨(some 15), .bin .add (.t 9) (.c (.d (.i .i64 1))), none⟩,
   ⟨(some 9), .mv (.t 15), none⟩] [])))
def K_pglog_base_1 : Option (List Nat) := (some [17, 18])
def l_pglog_base_1 : ACode :=
 .seq (.region (some [17, 18]) [⟨(some 19), .bin .lss (.t 18) (.c (.d (.i .i64 3))), none⟩] [])
 (.seq (.cond (.t 19) (.skip) (.exit 2))
 (.seq (.block 3 (.seq (.region (some [17, 18]) [⟨(some 20), .idxA true 3 3 (.t 17) (.t 18), none⟩,
    ⟨(some 6), .box (.c (.d (.agg [.i .u32 0, .i .u8 0, .s ⟨#[]⟩]))), none⟩,
    ⟨none, .store 3 (.t 6) (.t 20), none⟩] [])
  (.seq (.region (some [6, 17, 18]) [⟨(some 21), .faddr 1 (.t 6), none⟩,
    ⟨(some 22), .faddr 1 (.t 21), none⟩,
    ⟨(some 23), .load false 1 (.t 22), none⟩,
    ⟨(some 24), .bin .neq (.t 23) (.c (.d (.s ⟨#[]⟩))), none⟩,
    ⟨(some 25), .mv (.t 24), none⟩,
    ⟨(some 26), .faddr 1 (.t 6), some (25, false)⟩,
    ⟨(some 27), .faddr 0 (.t 26), some (25, false)⟩,
    ⟨(some 28), .load false 1 (.t 27), some (25, false)⟩,
    ⟨(some 29), .bin .gtr (.t 28) (.c (.d (.i .u8 3))), some (25, false)⟩,
    ⟨(some 30), .pick (.t 25) (.c (.d (.b true))) (.t 29), none⟩,
    ⟨(some 31), .mv (.t 30), none⟩,
    ⟨(some 32), .faddr 0 (.t 6), some (31, false)⟩,
    ⟨(some 33), .load false 1 (.t 32), some (31, false)⟩,
    ⟨(some 34), .bin .eql (.t 33) (.c (.d (.i .u32 0))), some (31, false)⟩,
    ⟨(some 35), .mv (.t 34), some (31, false)⟩,
    ⟨(some 36), .load true 3 (.t 6), some (35, true)⟩,
    ⟨(some 37), .build [.d (.i .u32 0), .d (.i .u8 0), .d (.s ⟨#[]⟩)] [], some (35, true)⟩,
    ⟨(some 38), .eq true Pk.Last.ety (.t 36) (.t 37), some (35, true)⟩,
    ⟨(some 39), .pick (.t 35) (.t 38) (.c (.d (.b false))), some (31, false)⟩,
    ⟨(some 40), .pick (.t 31) (.c (.d (.b true))) (.t 39), none⟩] [])
  (.cond (.t 40) (.seq (.region (some []) [⟨(some 2), .mv (.c (.d (.b false))), none⟩] [])
   (.ret)) (.skip)))))
 (.region (some [17, 18]) [⟨(some 41), .bin .add (.t 18) (.c (.d (.i .i64 1))), none⟩,
   ⟨(some 18), .mv (.t 41), none⟩] [])))
def c_pglog_base : ACode :=
 .seq (.region (some [0]) [⟨(some 1), .box (.t 0), none⟩,
   ⟨(some 2), .mv (.c (.d (.b false))), none⟩] [])
 (.seq (.seq (.region (some [1]) [⟨(some 7), .faddr 0 (.t 1), none⟩,
   ⟨(some 8), .load true 30 (.t 7), none⟩,
   ⟨(some 9), .mv (.c (.d (.i .i64 0))), none⟩] [])
 (.block 0 (.loop K_pglog_base_0 [] l_pglog_base_0)))
 (.seq (.seq (.region (some [1]) [⟨(some 16), .faddr 30 (.t 1), none⟩,
   ⟨(some 17), .load true 9 (.t 16), none⟩,
   ⟨(some 18), .mv (.c (.d (.i .i64 0))), none⟩] [])
 (.block 2 (.loop K_pglog_base_1 [] l_pglog_base_1)))
 (.seq (.region (some []) [⟨(some 2), .mv (.c (.d (.b true))), none⟩] [])
 (.ret))))
def a_pglog_base : AFn := .code 1 c_pglog_base [.tmp 2]
set_option maxRecDepth 100000 in
theorem k_pglog_base : compF Tryd.prog h_pglog_base F_pglog_base = some a_pglog_base := by kernel_rfl

/-- paddock/pglog.Head -/
def h_pglog_Head : Hints := { kp := [(0, [0]), (1, [1]), (2, []), (3, [1]), (4, [4])], lkp := [], lth := [] }
def c_pglog_Head : ACode :=
 .seq (.region (some [0]) [⟨(some 1), .box (.t 0), none⟩,
   ⟨(some 2), .mv (.c (.d (.i .u32 0))), none⟩,
   ⟨(some 3), .mv (.c (.d (.i .u32 0))), none⟩] [])
 (.seq (.seq (.region (some [1]) [⟨(some 5), .load true 49 (.t 1), none⟩,
   ⟨(some 6), .call (.f F_pglog_Is) [.t 5], none⟩,
   ⟨(some 7), .un .not (.t 6), none⟩] [])
 (.cond (.t 7) (.seq (.region (some []) [⟨(some 2), .mv (.c (.d (.i .u32 0))), none⟩,
    ⟨(some 3), .mv (.c (.d (.i .u32 0))), none⟩] [])
  (.ret)) (.skip)))
 (.seq (.region (some [1]) [⟨(some 8), .load true 49 (.t 1), none⟩,
   ⟨(some 9), .call (.f F_pglog_last) [.t 8], none⟩,
   ⟨(some 4), .box (.c (.d (.agg [.i .u32 0, .i .u32 0, .i .u8 0, .i .u32 0, .i .u8 0, .i .u8 0, .i .u8 0, .s ⟨#[]⟩]))), none⟩,
   ⟨none, .store 8 (.t 4) (.t 9), none⟩] [])
 (.seq (.region (some [4]) [⟨(some 10), .faddr 0 (.t 4), none⟩,
   ⟨(some 11), .load false 1 (.t 10), none⟩,
   ⟨(some 12), .faddr 1 (.t 4), none⟩,
   ⟨(some 13), .load false 1 (.t 12), none⟩,
   ⟨(some 2), .mv (.t 11), none⟩,
   ⟨(some 3), .mv (.t 13), none⟩] [(1, 3)])
 (.ret))))
def a_pglog_Head : AFn := .code 1 c_pglog_Head [.tmp 2, .tmp 3]
set_option maxRecDepth 100000 in
theorem k_pglog_Head : compF Tryd.prog h_pglog_Head F_pglog_Head = some a_pglog_Head := by kernel_rfl

/-- slices.ContainsFunc[[]paddock/api.Entry,paddock/api.Entry] -/
def h_slices_ContainsFunc_sapi_Entry_api_Entry : Hints := { kp := [(0, [0, 1]), (1, [0, 1])], lkp := [], lth := [] }
def c_slices_ContainsFunc_sapi_Entry_api_Entry : ACode :=
 .seq (.region (some [0, 1]) [⟨(some 4), .mv (.c (.d (.b false))), none⟩] [])
 (.seq (.region (some [0, 1]) [⟨(some 5), .mv (.t 0), none⟩,
   ⟨(some 6), .mv (.t 1), none⟩,
   ⟨(some 7), .call (.f F_slices_IndexFunc_sapi_Entry_api_Entry) [.t 5, .t 6], none⟩,
   ⟨(some 8), .bin .geq (.t 7) (.c (.d (.i .i64 0))), none⟩,
   ⟨(some 4), .mv (.t 8), none⟩] [])
 (.ret))
def a_slices_ContainsFunc_sapi_Entry_api_Entry : AFn := .code 2 c_slices_ContainsFunc_sapi_Entry_api_Entry [.tmp 4]
set_option maxRecDepth 100000 in
theorem k_slices_ContainsFunc_sapi_Entry_api_Entry : compF Tryd.prog h_slices_ContainsFunc_sapi_Entry_api_Entry F_slices_ContainsFunc_sapi_Entry_api_Entry = some a_slices_ContainsFunc_sapi_Entry_api_Entry := by kernel_rfl

/-- (*paddock/witness.row).fits$1 -/
def h_witness_row_fits_1 : Hints := { kp := [(0, [0, 1]), (1, [1, 2])], lkp := [], lth := [] }
def c_witness_row_fits_1 : ACode :=
 .seq (.region (some [0, 1]) [⟨(some 2), .box (.t 0), none⟩,
   ⟨(some 3), .mv (.c (.d (.b false))), none⟩] [])
 (.seq (.region (some [1, 2]) [⟨(some 4), .faddr 1 (.t 2), none⟩,
   ⟨(some 5), .load false 1 (.t 4), none⟩,
   ⟨(some 6), .load false 1 (.t 1), none⟩,
   ⟨(some 7), .nilck (.t 6), none⟩,
   ⟨(some 8), .faddr 2 (.t 7), none⟩,
   ⟨(some 9), .load false 1 (.t 8), none⟩,
   ⟨(some 10), .bin .leq (.t 5) (.t 9), none⟩,
   ⟨(some 11), .mv (.t 10), none⟩,
   ⟨(some 12), .load false 1 (.t 1), some (11, true)⟩,
   ⟨(some 13), .nilck (.t 12), some (11, true)⟩,
   ⟨(some 14), .faddr 0 (.t 13), some (11, true)⟩,
   ⟨(some 15), .load false 1 (.t 14), some (11, true)⟩,
   ⟨(some 16), .faddr 1 (.t 2), some (11, true)⟩,
   ⟨(some 17), .load false 1 (.t 16), some (11, true)⟩,
   ⟨(some 18), .bin .sub (.t 17) (.c (.d (.i .u32 1))), some (11, true)⟩,
   ⟨(some 19), .iaddrS 8 (.t 15) (.t 18), some (11, true)⟩,
   ⟨(some 20), .load true 8 (.t 19), some (11, true)⟩,
   ⟨(some 21), .load true 8 (.t 2), some (11, true)⟩,
   ⟨(some 22), .eq true Pk.Entry.ety (.t 20) (.t 21), some (11, true)⟩,
   ⟨(some 23), .pick (.t 11) (.t 22) (.c (.d (.b false))), none⟩,
   ⟨(some 3), .mv (.t 23), none⟩] [(1, 2), (1, 5), (8, 13), (11, 13), (8, 17), (11, 17), (13, 17), (16, 17)])
 (.ret))
def a_witness_row_fits_1 : AFn := .code 2 c_witness_row_fits_1 [.tmp 3]
set_option maxRecDepth 100000 in
theorem k_witness_row_fits_1 : compF Tryd.prog h_witness_row_fits_1 F_witness_row_fits_1 = some a_witness_row_fits_1 := by kernel_rfl

/-- slices.Equal[[]paddock/api.Entry,paddock/api.Entry] -/
def h_slices_Equal_sapi_Entry_api_Entry : Hints := { kp := [(0, [0, 1]), (1, [0, 1]), (2, []), (3, [0, 1]), (4, [0, 1, 12, 13]), (5, [0, 1, 12, 13]), (6, [0, 1, 5, 12, 13]), (7, []), (8, [0, 1, 12, 13]), (9, [])], lkp := [(4, [0, 1, 12, 13])], lth := [] }
def K_slices_Equal_sapi_Entry_api_Entry_0 : Option (List Nat) := (some [0, 1, 12, 13])
def l_slices_Equal_sapi_Entry_api_Entry_0 : ACode :=
 .seq (.region (some [0, 1, 12, 13]) [⟨(some 14), .bin .lss (.t 13) (.t 12), none⟩] [])
 (.seq (.cond (.t 14) (.skip) (.exit 0))
 (.seq (.block 1 (.seq (.region (some [0, 1, 12, 13]) [⟨(some 15), .mv (.t 13), none⟩,
    ⟨(some 5), .mv (.t 15), none⟩] [])
  (.seq (.region (some [0, 1, 5, 12, 13]) [⟨(some 16), .mv (.t 0), none⟩,
    ⟨(some 17), .mv (.t 5), none⟩,
    ⟨(some 18), .iaddrS 8 (.t 16) (.t 17), none⟩,
    ⟨(some 19), .load true 8 (.t 18), none⟩,
    ⟨(some 20), .mv (.t 1), none⟩,
    ⟨(some 21), .mv (.t 5), none⟩,
    ⟨(some 22), .iaddrS 8 (.t 20) (.t 21), none⟩,
    ⟨(some 23), .load true 8 (.t 22), none⟩,
    ⟨(some 24), .eq true Pk.Entry.ety (.t 19) (.t 23), none⟩] [(3, 7)])
  (.cond (.t 24) (.seq (.region (some []) [⟨(some 4), .mv (.c (.d (.b false))), none⟩] [])
   (.ret)) (.skip)))))
 (.region (some [0, 1, 12, 13]) [⟨(some 25), .bin .add (.t 13) (.c (.d (.i .i64 1))), none⟩,
   ⟨(some 13), .mv (.t 25), none⟩] [])))
def c_slices_Equal_sapi_Entry_api_Entry : ACode :=
 .seq (.region (some [0, 1]) [⟨(some 4), .mv (.c (.d (.b false))), none⟩] [])
 (.seq (.seq (.region (some [0, 1]) [⟨(some 6), .mv (.t 0), none⟩,
   ⟨(some 7), .len false (.t 6), none⟩,
   ⟨(some 8), .mv (.t 1), none⟩,
   ⟨(some 9), .len false (.t 8), none⟩,
   ⟨(some 10), .bin .neq (.t 7) (.t 9), none⟩] [])
 (.cond (.t 10) (.seq (.region (some []) [⟨(some 4), .mv (.c (.d (.b false))), none⟩] [])
  (.ret)) (.skip)))
 (.seq (.seq (.region (some [0, 1]) [⟨(some 11), .mv (.t 0), none⟩,
   ⟨(some 12), .len false (.t 11), none⟩,
   ⟨(some 13), .mv (.c (.d (.i .i64 0))), none⟩] [])
 (.block 0 (.loop K_slices_Equal_sapi_Entry_api_Entry_0 [] l_slices_Equal_sapi_Entry_api_Entry_0)))
 (.seq (.region (some []) [⟨(some 4), .mv (.c (.d (.b true))), none⟩] [])
 (.ret))))
def a_slices_Equal_sapi_Entry_api_Entry : AFn := .code 2 c_slices_Equal_sapi_Entry_api_Entry [.tmp 4]
set_option maxRecDepth 100000 in
theorem k_slices_Equal_sapi_Entry_api_Entry : compF Tryd.prog h_slices_Equal_sapi_Entry_api_Entry F_slices_Equal_sapi_Entry_api_Entry = some a_slices_Equal_sapi_Entry_api_Entry := by kernel_rfl

/-- slices.Concat[[]paddock/api.Entry,paddock/api.Entry] -/
def h_slices_Concat_sapi_Entry_api_Entry : Hints := { dat := true, kp := [(0, [0]), (1, [0]), (2, [0, 3]), (3, [0, 3, 9, 10, 11]), (4, [0, 3, 9, 10, 11]), (5, [0, 3, 5, 9, 10, 11]), (6, [0, 3, 9, 10, 11]), (7, [0, 3, 9, 10, 11]), (8, [0, 3, 9, 10, 11]), (9, [0, 3]), (10, [0, 6]), (11, [6, 25, 26, 27]), (12, [6, 25, 26, 27]), (13, [6, 8, 25, 26, 27]), (14, [6, 25, 26, 27]), (15, [6])], lkp := [(3, [0, 3, 9, 10, 11]), (11, [6, 25, 26, 27])], lth := [(11, [6, 8])] }
def K_slices_Concat_sapi_Entry_api_Entry_0 : Option (List Nat) := (some [0, 3, 9, 10, 11])
def l_slices_Concat_sapi_Entry_api_Entry_0 : ACode :=
 .seq (.region (some [0, 3, 9, 10, 11]) [⟨(some 12), .bin .lss (.t 11) (.t 10), none⟩] [])
 (.seq (.cond (.t 12) (.skip) (.exit 0))
 (.seq (.block 1 (.seq (.region (some [0, 3, 9, 10, 11]) [⟨(some 13), .iaddrS 1 (.t 9) (.t 11), none⟩,
    ⟨(some 14), .load false 1 (.t 13), none⟩,
    ⟨(some 5), .mv (.t 14), none⟩] [])
  (.seq (.region (some [0, 3, 5, 9, 10, 11]) [⟨(some 15), .mv (.t 3), none⟩,
    ⟨(some 16), .mv (.t 5), none⟩,
    ⟨(some 17), .len false (.t 16), none⟩,
    ⟨(some 18), .bin .add (.t 15) (.t 17), none⟩,
    ⟨(some 3), .mv (.t 18), none⟩] [])
  (.seq (.region (some [0, 3, 9, 10, 11]) [⟨(some 19), .mv (.t 3), none⟩,
    ⟨(some 20), .bin .lss (.t 19) (.c (.d (.i .i64 0))), none⟩] [])
  (.cond (.t 20) (.region (some [0, 3, 9, 10, 11]) [⟨(some 21), .bad, none⟩,
     ⟨none, .bad, none⟩] []) (.skip))))))
 (.region (some [0, 3, 9, 10, 11]) [⟨(some 22), .bin .add (.t 11) (.c (.d (.i .i64 1))), none⟩,
   ⟨(some 11), .mv (.t 22), none⟩] [])))
def K_slices_Concat_sapi_Entry_api_Entry_1 : Option (List Nat) := (some [6, 25, 26, 27])
def l_slices_Concat_sapi_Entry_api_Entry_1 : ACode :=
 .seq (.region (some [6, 25, 26, 27]) [⟨(some 28), .bin .lss (.t 27) (.t 26), none⟩] [])
 (.seq (.cond (.t 28) (.skip) (.exit 2))
 (.seq (.block 3 (.seq (.region (some [6, 25, 26, 27]) [⟨(some 29), .iaddrS 1 (.t 25) (.t 27), none⟩,
    ⟨(some 30), .load false 1 (.t 29), none⟩,
    ⟨(some 8), .mv (.t 30), none⟩] [])
  (.region (some [6, 8, 25, 26, 27]) [⟨(some 31), .mv (.t 6), none⟩,
    ⟨(some 32), .mv (.t 8), none⟩,
    ⟨(some 33), .app 8 (.t 31) (.t 32), none⟩,
    ⟨(some 6), .mv (.t 33), none⟩] [])))
 (.region (some [6, 25, 26, 27]) [⟨(some 34), .bin .add (.t 27) (.c (.d (.i .i64 1))), none⟩,
   ⟨(some 27), .mv (.t 34), none⟩] [])))
def c_slices_Concat_sapi_Entry_api_Entry : ACode :=
 .seq (.region (some [0]) [⟨(some 2), .mv (.c (.nilS)), none⟩] [])
 (.seq (.region (some [0]) [⟨(some 3), .mv (.c (.d (.i .i64 0))), none⟩] [])
 (.seq (.seq (.region (some [0, 3]) [⟨(some 9), .mv (.t 0), none⟩,
   ⟨(some 10), .len false (.t 9), none⟩,
   ⟨(some 11), .mv (.c (.d (.i .i64 0))), none⟩] [])
 (.block 0 (.loop K_slices_Concat_sapi_Entry_api_Entry_0 [] l_slices_Concat_sapi_Entry_api_Entry_0)))
 (.seq (.region (some [0, 3]) [⟨(some 23), .mv (.t 3), none⟩,
   ⟨(some 24), .call (.f F_slices_Grow_sapi_Entry_api_Entry) [.c (.nilS), .t 23], none⟩,
   ⟨(some 6), .mv (.t 24), none⟩] [])
 (.seq (.seq (.region (some [0, 6]) [⟨(some 25), .mv (.t 0), none⟩,
   ⟨(some 26), .len false (.t 25), none⟩,
   ⟨(some 27), .mv (.c (.d (.i .i64 0))), none⟩] [])
 (.block 2 (.loop K_slices_Concat_sapi_Entry_api_Entry_1 [6, 8] l_slices_Concat_sapi_Entry_api_Entry_1)))
 (.seq (.region (some [6]) [⟨(some 35), .mv (.t 6), none⟩,
   ⟨(some 2), .mv (.t 35), none⟩] [])
 (.ret))))))
def a_slices_Concat_sapi_Entry_api_Entry : AFn := .code 1 c_slices_Concat_sapi_Entry_api_Entry [.dat (.tmp 2)]
set_option maxRecDepth 100000 in
theorem k_slices_Concat_sapi_Entry_api_Entry : compF Tryd.prog h_slices_Concat_sapi_Entry_api_Entry F_slices_Concat_sapi_Entry_api_Entry = some a_slices_Concat_sapi_Entry_api_Entry := by kernel_rfl

/-- slices.Clone[[]paddock/api.Base,paddock/api.Base] -/
def h_slices_Clone_sapi_Base_api_Base : Hints := { kp := [(0, [0]), (1, [0]), (2, []), (3, [0])], lkp := [], lth := [] }
def c_slices_Clone_sapi_Base_api_Base : ACode :=
 .seq (.region (some [0]) [⟨(some 2), .mv (.c (.nilS)), none⟩] [])
 (.seq (.seq (.region (some [0]) [⟨(some 3), .mv (.t 0), none⟩,
   ⟨(some 4), .isnil false (.t 3), none⟩] [])
 (.cond (.t 4) (.seq (.region (some []) [⟨(some 2), .mv (.c (.nilS)), none⟩] [])
  (.ret)) (.skip)))
 (.seq (.region (some [0]) [⟨(some 5), .bsl 39 [], none⟩,
   ⟨(some 6), .mv (.t 0), none⟩,
   ⟨(some 7), .app 39 (.t 5) (.t 6), none⟩,
   ⟨(some 2), .mv (.t 7), none⟩] [])
 (.ret)))
def a_slices_Clone_sapi_Base_api_Base : AFn := .code 1 c_slices_Clone_sapi_Base_api_Base [.tmp 2]
set_option maxRecDepth 100000 in
theorem k_slices_Clone_sapi_Base_api_Base : compF Tryd.prog h_slices_Clone_sapi_Base_api_Base F_slices_Clone_sapi_Base_api_Base = some a_slices_Clone_sapi_Base_api_Base := by kernel_rfl

/-- paddock/objects.Read -/
def h_objects_Read : Hints := { kp := [(0, [0, 1]), (1, [2, 3, 4]), (2, [4]), (3, [2, 3, 4]), (4, [4, 5]), (5, [4]), (6, [4, 5]), (7, [4, 5, 6]), (8, [4, 6, 30, 31]), (9, [4, 6, 30, 31]), (10, [4, 6, 7, 8, 30, 31]), (11, [4, 6, 7, 8, 30, 31]), (12, [4, 6, 30, 31]), (13, [4, 6])], lkp := [(8, [4, 6, 30, 31])], lth := [] }
def K_objects_Read_0 : Option (List Nat) := (some [4, 6, 30, 31])
def l_objects_Read_0 : ACode :=
 .seq (.region (some [4, 6, 30, 31]) [⟨(some 32), .bin .lss (.t 31) (.c (.d (.i .i64 3))), none⟩] [])
 (.seq (.cond (.t 32) (.skip) (.exit 0))
 (.seq (.block 1 (.seq (.region (some [4, 6, 30, 31]) [⟨(some 33), .mv (.t 31), none⟩,
    ⟨(some 34), .idxA false 3 1 (.t 30) (.t 31), none⟩,
    ⟨(some 7), .mv (.t 33), none⟩,
    ⟨(some 8), .mv (.t 34), none⟩] [])
  (.seq (.region (some [4, 6, 7, 8, 30, 31]) [⟨(some 35), .mv (.t 8), none⟩,
    ⟨(some 36), .bin .neq (.t 35) (.c (.d (.s ⟨#[]⟩))), none⟩] [])
  (.cond (.t 36) (.region (some [4, 6, 7, 8, 30, 31]) [⟨(some 37), .mv (.t 6), none⟩,
     ⟨(some 38), .mv (.t 7), none⟩,
     ⟨(some 39), .call (.f F_strconv_Itoa) [.t 38], none⟩,
     ⟨(some 40), .bin .add (.c (.d (.s ⟨#[59]⟩))) (.t 39), none⟩,
     ⟨(some 41), .bin .add (.t 40) (.c (.d (.s ⟨#[61]⟩))), none⟩,
     ⟨(some 42), .mv (.t 8), none⟩,
     ⟨(some 43), .bin .add (.t 41) (.t 42), none⟩,
     ⟨(some 44), .bin .add (.t 37) (.t 43), none⟩,
     ⟨(some 6), .mv (.t 44), none⟩] []) (.skip)))))
 (.region (some [4, 6, 30, 31]) [⟨(some 45), .bin .add (.t 31) (.c (.d (.i .i64 1))), none⟩,
   ⟨(some 31), .mv (.t 45), none⟩] [])))
def c_objects_Read : ACode :=
 .seq (.region (some [0, 1]) [⟨(some 2), .box (.t 0), none⟩,
   ⟨(some 3), .box (.t 1), none⟩,
   ⟨(some 4), .box (.c (.d (.agg [.i .u8 0, .s ⟨#[]⟩]))), none⟩] [])
 (.seq (.seq (.region (some [2, 3, 4]) [⟨(some 9), .load true 6 (.t 3), none⟩,
   ⟨(some 10), .call (.f F_objects_IsOp) [.t 9], none⟩,
   ⟨(some 11), .un .not (.t 10), none⟩,
   ⟨(some 12), .mv (.t 11), none⟩,
   ⟨(some 13), .faddr 2 (.t 3), some (12, false)⟩,
   ⟨(some 14), .load false 1 (.t 13), some (12, false)⟩,
   ⟨(some 15), .bin .neq (.t 14) (.c (.d (.i .u8 5))), some (12, false)⟩,
   ⟨(some 16), .pick (.t 12) (.c (.d (.b true))) (.t 15), none⟩] [])
 (.cond (.t 16) (.seq (.region (some [4]) [⟨(some 17), .build [.d (.i .u8 0), .d (.s ⟨#[]⟩)] [(0, 1, .c (.d (.i .u8 3)))], none⟩,
    ⟨none, .store 2 (.t 4) (.t 17), none⟩] [])
  (.ret)) (.skip)))
 (.seq (.region (some [2, 3, 4]) [⟨(some 18), .faddr 3 (.t 3), none⟩,
   ⟨(some 19), .load false 1 (.t 18), none⟩,
   ⟨(some 20), .faddr 0 (.t 2), none⟩,
   ⟨(some 21), .iaddrA 6 5 (.t 20) (.t 19), none⟩,
   ⟨(some 22), .load true 5 (.t 21), none⟩,
   ⟨(some 5), .box (.c (.d (.agg [.b false, .s ⟨#[]⟩, .s ⟨#[]⟩, .s ⟨#[]⟩, .s ⟨#[]⟩]))), none⟩,
   ⟨none, .store 5 (.t 5) (.t 22), none⟩] [])
 (.seq (.seq (.region (some [4, 5]) [⟨(some 23), .faddr 0 (.t 5), none⟩,
   ⟨(some 24), .load false 1 (.t 23), none⟩,
   ⟨(some 25), .un .not (.t 24), none⟩] [])
 (.cond (.t 25) (.seq (.region (some [4]) [⟨(some 26), .build [.d (.i .u8 0), .d (.s ⟨#[]⟩)] [(0, 1, .c (.d (.i .u8 1)))], none⟩,
    ⟨none, .store 2 (.t 4) (.t 26), none⟩] [])
  (.ret)) (.skip)))
 (.seq (.region (some [4, 5]) [⟨(some 27), .faddr 1 (.t 5), none⟩,
   ⟨(some 28), .load false 1 (.t 27), none⟩,
   ⟨(some 6), .mv (.t 28), none⟩] [])
 (.seq (.seq (.region (some [4, 5, 6]) [⟨(some 29), .faddr 2 (.t 5), none⟩,
   ⟨(some 30), .load true 3 (.t 29), none⟩,
   ⟨(some 31), .mv (.c (.d (.i .i64 0))), none⟩] [])
 (.block 0 (.loop K_objects_Read_0 [] l_objects_Read_0)))
 (.seq (.region (some [4, 6]) [⟨(some 46), .mv (.t 6), none⟩,
   ⟨(some 47), .build [.d (.i .u8 0), .d (.s ⟨#[]⟩)] [(1, 1, .t 46)], none⟩,
   ⟨none, .store 2 (.t 4) (.t 47), none⟩] [])
 (.ret)))))))
def a_objects_Read : AFn := .code 2 c_objects_Read [.cell true 2 4]
set_option maxRecDepth 100000 in
theorem k_objects_Read : compF Tryd.prog h_objects_Read F_objects_Read = some a_objects_Read := by kernel_rfl

/-- (*paddock/objects.doer).write -/
def h_objects_doer_write : Hints := { kp := [(0, [0, 1]), (1, [0, 3]), (2, [0, 3, 5]), (3, []), (4, [0, 3, 5]), (5, [0, 3, 5, 6]), (6, [0, 3, 5, 6]), (7, [])], lkp := [], lth := [] }
def c_objects_doer_write : ACode :=
 .seq (.region (some [0, 1]) [⟨(some 3), .box (.t 1), none⟩,
   ⟨(some 4), .mv (.c (.d (.i .u8 0))), none⟩] [])
 (.seq (.region (some [0, 3]) [⟨(some 7), .faddr 4 (.t 3), none⟩,
   ⟨(some 8), .load false 1 (.t 7), none⟩,
   ⟨(some 9), .conv .i64 (.t 8), none⟩,
   ⟨(some 10), .faddr 5 (.t 3), none⟩,
   ⟨(some 11), .load false 1 (.t 10), none⟩,
   ⟨(some 12), .len true (.t 11), none⟩,
   ⟨(some 13), .bin .add (.t 9) (.t 12), none⟩,
   ⟨(some 5), .mv (.t 13), none⟩] [])
 (.seq (.seq (.region (some [0, 3, 5]) [⟨(some 14), .mv (.t 5), none⟩,
   ⟨(some 15), .bin .gtr (.t 14) (.c (.d (.i .i64 16))), none⟩] [])
 (.cond (.t 15) (.seq (.region (some []) [⟨(some 4), .mv (.c (.d (.i .u8 2))), none⟩] [])
  (.ret)) (.skip)))
 (.seq (.region (some [0, 3, 5]) [⟨(some 16), .mv (.t 0), none⟩,
   ⟨(some 17), .nilck (.t 16), none⟩,
   ⟨(some 18), .faddr 0 (.t 17), none⟩,
   ⟨(some 19), .faddr 1 (.t 18), none⟩,
   ⟨(some 20), .load false 1 (.t 19), none⟩,
   ⟨(some 21), .mv (.t 5), none⟩,
   ⟨(some 22), .call (.f F_objects_grown) [.t 20, .t 21], none⟩,
   ⟨(some 6), .mv (.t 22), none⟩] [])
 (.seq (.region (some [0, 3, 5, 6]) [⟨(some 23), .mv (.t 0), none⟩,
   ⟨(some 24), .nilck (.t 23), none⟩,
   ⟨(some 25), .faddr 0 (.t 24), none⟩,
   ⟨(some 26), .faddr 0 (.t 25), none⟩,
   ⟨none, .store 1 (.t 26) (.c (.d (.b true))), none⟩] [])
 (.seq (.region (some [0, 3, 5, 6]) [⟨(some 27), .mv (.t 0), none⟩,
   ⟨(some 28), .mv (.t 6), none⟩,
   ⟨(some 29), .faddr 4 (.t 3), none⟩,
   ⟨(some 30), .load false 1 (.t 29), none⟩,
   ⟨(some 31), .slice 0 (.t 28) none (some (.t 30)) none, none⟩,
   ⟨(some 32), .faddr 5 (.t 3), none⟩,
   ⟨(some 33), .load false 1 (.t 32), none⟩,
   ⟨(some 34), .bin .add (.t 31) (.t 33), none⟩,
   ⟨(some 35), .mv (.t 6), none⟩,
   ⟨(some 36), .mv (.t 5), none⟩,
   ⟨(some 37), .slice 0 (.t 35) (some (.t 36)) none none, none⟩,
   ⟨(some 38), .bin .add (.t 34) (.t 37), none⟩,
   ⟨(some 39), .nilck (.t 27), none⟩,
   ⟨(some 40), .faddr 0 (.t 39), none⟩,
   ⟨(some 41), .faddr 1 (.t 40), none⟩,
   ⟨none, .store 1 (.t 41) (.t 38), none⟩] [(3, 6)])
 (.seq (.region (some []) [⟨(some 4), .mv (.c (.d (.i .u8 0))), none⟩] [])
 (.ret)))))))
def a_objects_doer_write : AFn := .code 2 c_objects_doer_write [.tmp 4]
set_option maxRecDepth 100000 in
theorem k_objects_doer_write : compF Tryd.prog h_objects_doer_write F_objects_doer_write = some a_objects_doer_write := by kernel_rfl

/-- (*paddock/objects.doer).trunc -/
def h_objects_doer_trunc : Hints := { kp := [(0, [0, 1]), (1, [0, 3]), (3, [0, 3]), (4, []), (2, []), (5, [0, 3]), (6, [])], lkp := [], lth := [] }
def c_objects_doer_trunc : ACode :=
 .seq (.region (some [0, 1]) [⟨(some 3), .box (.t 1), none⟩,
   ⟨(some 4), .mv (.c (.d (.i .u8 0))), none⟩] [])
 (.seq (.block 0 (.seq (.region (some [0, 3]) [⟨(some 6), .mv (.t 0), none⟩,
    ⟨(some 7), .nilck (.t 6), none⟩,
    ⟨(some 8), .faddr 0 (.t 7), none⟩,
    ⟨(some 9), .faddr 0 (.t 8), none⟩,
    ⟨(some 10), .load false 1 (.t 9), none⟩,
    ⟨(some 11), .un .not (.t 10), none⟩,
    ⟨(some 5), .mv (.t 11), none⟩] [])
  (.cond (.t 5) (.seq (.region (some []) [⟨(some 4), .mv (.c (.d (.i .u8 1))), none⟩] [])
   (.ret)) (.seq (.region (some [0, 3]) [⟨(some 13), .faddr 4 (.t 3), none⟩,
     ⟨(some 14), .load false 1 (.t 13), none⟩,
     ⟨(some 15), .bin .gtr (.t 14) (.c (.d (.i .u8 16))), none⟩,
     ⟨(some 12), .mv (.t 15), none⟩] [])
   (.cond (.t 12) (.seq (.region (some []) [⟨(some 4), .mv (.c (.d (.i .u8 2))), none⟩] [])
    (.ret)) (.skip))))))
 (.seq (.region (some [0, 3]) [⟨(some 16), .mv (.t 0), none⟩,
   ⟨(some 17), .mv (.t 0), none⟩,
   ⟨(some 18), .nilck (.t 17), none⟩,
   ⟨(some 19), .faddr 0 (.t 18), none⟩,
   ⟨(some 20), .faddr 1 (.t 19), none⟩,
   ⟨(some 21), .load false 1 (.t 20), none⟩,
   ⟨(some 22), .faddr 4 (.t 3), none⟩,
   ⟨(some 23), .load false 1 (.t 22), none⟩,
   ⟨(some 24), .conv .i64 (.t 23), none⟩,
   ⟨(some 25), .call (.f F_objects_grown) [.t 21, .t 24], none⟩,
   ⟨(some 26), .faddr 4 (.t 3), none⟩,
   ⟨(some 27), .load false 1 (.t 26), none⟩,
   ⟨(some 28), .slice 0 (.t 25) none (some (.t 27)) none, none⟩,
   ⟨(some 29), .nilck (.t 16), none⟩,
   ⟨(some 30), .faddr 0 (.t 29), none⟩,
   ⟨(some 31), .faddr 1 (.t 30), none⟩,
   ⟨none, .store 1 (.t 31) (.t 28), none⟩] [(5, 7), (5, 11), (7, 11), (9, 11)])
 (.seq (.region (some []) [⟨(some 4), .mv (.c (.d (.i .u8 0))), none⟩] [])
 (.ret))))
def a_objects_doer_trunc : AFn := .code 2 c_objects_doer_trunc [.tmp 4]
set_option maxRecDepth 100000 in
theorem k_objects_doer_trunc : compF Tryd.prog h_objects_doer_trunc F_objects_doer_trunc = some a_objects_doer_trunc := by kernel_rfl

/-- (*paddock/objects.doer).attr -/
def h_objects_doer_attr : Hints := { kp := [(0, [0, 1]), (1, [0, 3]), (3, [0, 3]), (4, []), (2, []), (5, [0, 3]), (6, [])], lkp := [], lth := [] }
def c_objects_doer_attr : ACode :=
 .seq (.region (some [0, 1]) [⟨(some 3), .box (.t 1), none⟩,
   ⟨(some 4), .mv (.c (.d (.i .u8 0))), none⟩] [])
 (.seq (.block 0 (.seq (.region (some [0, 3]) [⟨(some 6), .faddr 4 (.t 3), none⟩,
    ⟨(some 7), .load false 1 (.t 6), none⟩,
    ⟨(some 8), .bin .geq (.t 7) (.c (.d (.i .u8 3))), none⟩,
    ⟨(some 5), .mv (.t 8), none⟩] [])
  (.cond (.t 5) (.seq (.region (some []) [⟨(some 4), .mv (.c (.d (.i .u8 3))), none⟩] [])
   (.ret)) (.seq (.region (some [0, 3]) [⟨(some 10), .mv (.t 0), none⟩,
     ⟨(some 11), .nilck (.t 10), none⟩,
     ⟨(some 12), .faddr 0 (.t 11), none⟩,
     ⟨(some 13), .faddr 0 (.t 12), none⟩,
     ⟨(some 14), .load false 1 (.t 13), none⟩,
     ⟨(some 15), .un .not (.t 14), none⟩,
     ⟨(some 9), .mv (.t 15), none⟩] [])
   (.cond (.t 9) (.seq (.region (some []) [⟨(some 4), .mv (.c (.d (.i .u8 1))), none⟩] [])
    (.ret)) (.skip))))))
 (.seq (.region (some [0, 3]) [⟨(some 16), .mv (.t 0), none⟩,
   ⟨(some 17), .faddr 4 (.t 3), none⟩,
   ⟨(some 18), .load false 1 (.t 17), none⟩,
   ⟨(some 19), .faddr 5 (.t 3), none⟩,
   ⟨(some 20), .load false 1 (.t 19), none⟩,
   ⟨(some 21), .nilck (.t 16), none⟩,
   ⟨(some 22), .faddr 0 (.t 21), none⟩,
   ⟨(some 23), .faddr 2 (.t 22), none⟩,
   ⟨(some 24), .iaddrA 3 1 (.t 23) (.t 18), none⟩,
   ⟨none, .store 1 (.t 24) (.t 20), none⟩] [(2, 4)])
 (.seq (.region (some []) [⟨(some 4), .mv (.c (.d (.i .u8 0))), none⟩] [])
 (.ret))))
def a_objects_doer_attr : AFn := .code 2 c_objects_doer_attr [.tmp 4]
set_option maxRecDepth 100000 in
theorem k_objects_doer_attr : compF Tryd.prog h_objects_doer_attr F_objects_doer_attr = some a_objects_doer_attr := by kernel_rfl

/-- (*paddock/objects.doer).remove -/
def h_objects_doer_remove : Hints := { kp := [(0, [0, 1]), (1, [0]), (2, []), (3, [0]), (4, [])], lkp := [], lth := [] }
def c_objects_doer_remove : ACode :=
 .seq (.region (some [0, 1]) [⟨(some 3), .box (.t 1), none⟩,
   ⟨(some 4), .mv (.c (.d (.i .u8 0))), none⟩] [])
 (.seq (.seq (.region (some [0]) [⟨(some 5), .mv (.t 0), none⟩,
   ⟨(some 6), .nilck (.t 5), none⟩,
   ⟨(some 7), .faddr 0 (.t 6), none⟩,
   ⟨(some 8), .faddr 0 (.t 7), none⟩,
   ⟨(some 9), .load false 1 (.t 8), none⟩,
   ⟨(some 10), .un .not (.t 9), none⟩] [])
 (.cond (.t 10) (.seq (.region (some []) [⟨(some 4), .mv (.c (.d (.i .u8 1))), none⟩] [])
  (.ret)) (.skip)))
 (.seq (.region (some [0]) [⟨(some 11), .mv (.t 0), none⟩,
   ⟨(some 12), .build [.d (.b false), .d (.s ⟨#[]⟩), .d (.s ⟨#[]⟩), .d (.s ⟨#[]⟩), .d (.s ⟨#[]⟩)] [], none⟩,
   ⟨(some 13), .nilck (.t 11), none⟩,
   ⟨(some 14), .faddr 0 (.t 13), none⟩,
   ⟨none, .store 5 (.t 14) (.t 12), none⟩] [])
 (.seq (.region (some []) [⟨(some 4), .mv (.c (.d (.i .u8 0))), none⟩] [])
 (.ret))))
def a_objects_doer_remove : AFn := .code 2 c_objects_doer_remove [.tmp 4]
set_option maxRecDepth 100000 in
theorem k_objects_doer_remove : compF Tryd.prog h_objects_doer_remove F_objects_doer_remove = some a_objects_doer_remove := by kernel_rfl

/-- paddock/pglog.object -/
def h_pglog_object : Hints := { kp := [(0, [0]), (1, [1]), (2, [1]), (3, [1]), (4, [1, 12, 13]), (5, [1, 12, 13]), (6, [1, 4, 12, 13]), (7, []), (8, [1, 12, 13]), (9, [1])], lkp := [(4, [1, 12, 13])], lth := [] }
def K_pglog_object_0 : Option (List Nat) := (some [1, 12, 13])
def l_pglog_object_0 : ACode :=
 .seq (.region (some [1, 12, 13]) [⟨(some 14), .bin .lss (.t 13) (.c (.d (.i .i64 3))), none⟩] [])
 (.seq (.cond (.t 14) (.skip) (.exit 0))
 (.seq (.block 1 (.seq (.region (some [1, 12, 13]) [⟨(some 15), .idxA false 3 1 (.t 12) (.t 13), none⟩,
    ⟨(some 4), .mv (.t 15), none⟩] [])
  (.seq (.region (some [1, 4, 12, 13]) [⟨(some 16), .mv (.t 4), none⟩,
    ⟨(some 17), .len true (.t 16), none⟩,
    ⟨(some 18), .bin .gtr (.t 17) (.c (.d (.i .i64 16))), none⟩] [])
  (.cond (.t 18) (.seq (.region (some []) [⟨(some 2), .mv (.c (.d (.b false))), none⟩] [])
   (.ret)) (.skip)))))
 (.region (some [1, 12, 13]) [⟨(some 19), .bin .add (.t 13) (.c (.d (.i .i64 1))), none⟩,
   ⟨(some 13), .mv (.t 19), none⟩] [])))
def c_pglog_object : ACode :=
 .seq (.region (some [0]) [⟨(some 1), .box (.t 0), none⟩,
   ⟨(some 2), .mv (.c (.d (.b false))), none⟩] [])
 (.seq (.seq (.region (some [1]) [⟨(some 5), .faddr 0 (.t 1), none⟩,
   ⟨(some 6), .load false 1 (.t 5), none⟩,
   ⟨(some 7), .un .not (.t 6), none⟩] [])
 (.cond (.t 7) (.seq (.region (some [1]) [⟨(some 8), .load true 5 (.t 1), none⟩,
    ⟨(some 9), .build [.d (.b false), .d (.s ⟨#[]⟩), .d (.s ⟨#[]⟩), .d (.s ⟨#[]⟩), .d (.s ⟨#[]⟩)] [], none⟩,
    ⟨(some 10), .eq false Pk.Objt.ety (.t 8) (.t 9), none⟩,
    ⟨(some 2), .mv (.t 10), none⟩] [])
  (.ret)) (.skip)))
 (.seq (.seq (.region (some [1]) [⟨(some 11), .faddr 2 (.t 1), none⟩,
   ⟨(some 12), .load true 3 (.t 11), none⟩,
   ⟨(some 13), .mv (.c (.d (.i .i64 0))), none⟩] [])
 (.block 0 (.loop K_pglog_object_0 [] l_pglog_object_0)))
 (.seq (.region (some [1]) [⟨(some 20), .faddr 1 (.t 1), none⟩,
   ⟨(some 21), .load false 1 (.t 20), none⟩,
   ⟨(some 22), .len true (.t 21), none⟩,
   ⟨(some 23), .bin .leq (.t 22) (.c (.d (.i .i64 16))), none⟩,
   ⟨(some 2), .mv (.t 23), none⟩] [])
 (.ret))))
def a_pglog_object : AFn := .code 1 c_pglog_object [.tmp 2]
set_option maxRecDepth 100000 in
theorem k_pglog_object : compF Tryd.prog h_pglog_object F_pglog_object = some a_pglog_object := by kernel_rfl

/-- paddock/objects.grown -/
def h_objects_grown : Hints := { kp := [(0, [0, 1]), (1, [0, 1])], lkp := [], lth := [] }
def c_objects_grown : ACode :=
 .seq (.region (some [0, 1]) [⟨(some 4), .mv (.c (.d (.s ⟨#[]⟩))), none⟩] [])
 (.seq (.region (some [0, 1]) [⟨(some 5), .mv (.t 0), none⟩,
   ⟨(some 6), .mv (.t 1), none⟩,
   ⟨(some 7), .mv (.t 0), none⟩,
   ⟨(some 8), .len true (.t 7), none⟩,
   ⟨(some 9), .bin .sub (.t 6) (.t 8), none⟩,
   ⟨(some 10), .mm true [.t 9, .c (.d (.i .i64 0))], none⟩,
   ⟨(some 11), .call (.f F_strings_Repeat) [.c (.d (.s ⟨#[0]⟩)), .t 10], none⟩,
   ⟨(some 12), .bin .add (.t 5) (.t 11), none⟩,
   ⟨(some 4), .mv (.t 12), none⟩] [])
 (.ret))
def a_objects_grown : AFn := .code 2 c_objects_grown [.tmp 4]
set_option maxRecDepth 100000 in
theorem k_objects_grown : compF Tryd.prog h_objects_grown F_objects_grown = some a_objects_grown := by kernel_rfl

/-- math/bits.Len64 -/
def h_math_bits_Len64 : Hints := { kp := [(0, [0]), (1, [0, 2]), (2, [0]), (3, [0]), (4, [0, 2]), (5, [0, 2]), (6, [0, 2]), (7, [0, 2]), (8, [0, 2]), (9, [0, 2]), (10, [0, 2])], lkp := [], lth := [] }
def c_math_bits_Len64 : ACode :=
 .seq (.region (some [0]) [⟨(some 2), .mv (.c (.d (.i .i64 0))), none⟩] [])
 (.seq (.seq (.region (some [0, 2]) [⟨(some 3), .mv (.t 0), none⟩,
   ⟨(some 4), .bin .geq (.t 3) (.c (.d (.i .u64 4294967296))), none⟩] [])
 (.cond (.t 4) (.seq (.region (some [0]) [⟨(some 5), .mv (.t 0), none⟩,
    ⟨(some 6), .bin .shr (.t 5) (.c (.d (.i .u64 32))), none⟩,
    ⟨(some 0), .mv (.t 6), none⟩] [])
  (.region (some [0]) [⟨(some 2), .mv (.c (.d (.i .i64 32))), none⟩] [])) (.skip)))
 (.seq (.seq (.region (some [0, 2]) [⟨(some 7), .mv (.t 0), none⟩,
   ⟨(some 8), .bin .geq (.t 7) (.c (.d (.i .u64 65536))), none⟩] [])
 (.cond (.t 8) (.seq (.region (some [0, 2]) [⟨(some 9), .mv (.t 0), none⟩,
    ⟨(some 10), .bin .shr (.t 9) (.c (.d (.i .u64 16))), none⟩,
    ⟨(some 0), .mv (.t 10), none⟩] [])
  (.region (some [0, 2]) [⟨(some 11), .mv (.t 2), none⟩,
    ⟨(some 12), .bin .add (.t 11) (.c (.d (.i .i64 16))), none⟩,
    ⟨(some 2), .mv (.t 12), none⟩] [])) (.skip)))
 (.seq (.seq (.region (some [0, 2]) [⟨(some 13), .mv (.t 0), none⟩,
   ⟨(some 14), .bin .geq (.t 13) (.c (.d (.i .u64 256))), none⟩] [])
 (.cond (.t 14) (.seq (.region (some [0, 2]) [⟨(some 15), .mv (.t 0), none⟩,
    ⟨(some 16), .bin .shr (.t 15) (.c (.d (.i .u64 8))), none⟩,
    ⟨(some 0), .mv (.t 16), none⟩] [])
  (.region (some [0, 2]) [⟨(some 17), .mv (.t 2), none⟩,
    ⟨(some 18), .bin .add (.t 17) (.c (.d (.i .i64 8))), none⟩,
    ⟨(some 2), .mv (.t 18), none⟩] [])) (.skip)))
 (.seq (.region (some [0, 2]) [⟨(some 19), .mv (.t 2), none⟩,
   ⟨(some 20), .mv (.t 0), none⟩,
   ⟨(some 21), .conv .u8 (.t 20), none⟩,
   ⟨(some 22), .idxS (.c (.d (.s tab0))) (.t 21), none⟩,
   ⟨(some 23), .conv .i64 (.t 22), none⟩,
   ⟨(some 24), .bin .add (.t 19) (.t 23), none⟩,
   ⟨(some 2), .mv (.t 24), none⟩] [])
 (.ret)))))
def a_math_bits_Len64 : AFn := .code 1 c_math_bits_Len64 [.tmp 2]
set_option maxRecDepth 100000 in
theorem k_math_bits_Len64 : compF Tryd.prog h_math_bits_Len64 F_math_bits_Len64 = some a_math_bits_Len64 := by kernel_rfl

/-- math/bits.TrailingZeros -/
def h_math_bits_TrailingZeros : Hints := { kp := [(0, [0]), (1, [0]), (2, [0])], lkp := [], lth := [] }
def c_math_bits_TrailingZeros : ACode :=
 .seq (.region (some [0]) [⟨(some 2), .mv (.c (.d (.i .i64 0))), none⟩] [])
 (.seq (.cond (.c (.d (.b false))) (.seq (.region (some [0]) [⟨(some 3), .mv (.t 0), none⟩,
    ⟨(some 4), .conv .u32 (.t 3), none⟩,
    ⟨(some 5), .call (.f F_math_bits_TrailingZeros32) [.t 4], none⟩,
    ⟨(some 2), .mv (.t 5), none⟩] [])
  (.ret)) (.skip))
 (.seq (.region (some [0]) [⟨(some 6), .mv (.t 0), none⟩,
   ⟨(some 7), .call (.f F_math_bits_TrailingZeros64) [.t 6], none⟩,
   ⟨(some 2), .mv (.t 7), none⟩] [])
 (.ret)))
def a_math_bits_TrailingZeros : AFn := .code 1 c_math_bits_TrailingZeros [.tmp 2]
set_option maxRecDepth 100000 in
theorem k_math_bits_TrailingZeros : compF Tryd.prog h_math_bits_TrailingZeros F_math_bits_TrailingZeros = some a_math_bits_TrailingZeros := by kernel_rfl

/-- math/bits.TrailingZeros32 -/
def h_math_bits_TrailingZeros32 : Hints := { kp := [(0, [0]), (1, [0]), (2, []), (3, [0])], lkp := [], lth := [] }
def c_math_bits_TrailingZeros32 : ACode :=
 .seq (.region (some [0]) [⟨(some 2), .mv (.c (.d (.i .i64 0))), none⟩] [])
 (.seq (.seq (.region (some [0]) [⟨(some 3), .mv (.t 0), none⟩,
   ⟨(some 4), .bin .eql (.t 3) (.c (.d (.i .u32 0))), none⟩] [])
 (.cond (.t 4) (.seq (.region (some []) [⟨(some 2), .mv (.c (.d (.i .i64 32))), none⟩] [])
  (.ret)) (.skip)))
 (.seq (.region (some [0]) [⟨(some 5), .mv (.t 0), none⟩,
   ⟨(some 6), .mv (.t 0), none⟩,
   ⟨(some 7), .un .neg (.t 6), none⟩,
   ⟨(some 8), .bin .and (.t 5) (.t 7), none⟩,
   ⟨(some 9), .bin .mul (.t 8) (.c (.d (.i .u32 125613361))), none⟩,
   ⟨(some 10), .bin .shr (.t 9) (.c (.d (.i .u64 27))), none⟩,
   ⟨(some 11), .bad, none⟩,
   ⟨(some 12), .load false 1 (.t 11), none⟩,
   ⟨(some 13), .conv .i64 (.t 12), none⟩,
   ⟨(some 2), .mv (.t 13), none⟩] [])
 (.ret)))
def a_math_bits_TrailingZeros32 : AFn := .code 1 c_math_bits_TrailingZeros32 [.tmp 2]
set_option maxRecDepth 100000 in
theorem k_math_bits_TrailingZeros32 : compF Tryd.prog h_math_bits_TrailingZeros32 F_math_bits_TrailingZeros32 = some a_math_bits_TrailingZeros32 := by kernel_rfl

/-- math/bits.TrailingZeros64 -/
def h_math_bits_TrailingZeros64 : Hints := { kp := [(0, [0]), (1, [0]), (2, []), (3, [0])], lkp := [], lth := [] }
def c_math_bits_TrailingZeros64 : ACode :=
 .seq (.region (some [0]) [⟨(some 2), .mv (.c (.d (.i .i64 0))), none⟩] [])
 (.seq (.seq (.region (some [0]) [⟨(some 3), .mv (.t 0), none⟩,
   ⟨(some 4), .bin .eql (.t 3) (.c (.d (.i .u64 0))), none⟩] [])
 (.cond (.t 4) (.seq (.region (some []) [⟨(some 2), .mv (.c (.d (.i .i64 64))), none⟩] [])
  (.ret)) (.skip)))
 (.seq (.region (some [0]) [⟨(some 5), .mv (.t 0), none⟩,
   ⟨(some 6), .mv (.t 0), none⟩,
   ⟨(some 7), .un .neg (.t 6), none⟩,
   ⟨(some 8), .bin .and (.t 5) (.t 7), none⟩,
   ⟨(some 9), .bin .mul (.t 8) (.c (.d (.i .u64 285870213051353865))), none⟩,
   ⟨(some 10), .bin .shr (.t 9) (.c (.d (.i .u64 58))), none⟩,
   ⟨(some 11), .bad, none⟩,
   ⟨(some 12), .load false 1 (.t 11), none⟩,
   ⟨(some 13), .conv .i64 (.t 12), none⟩,
   ⟨(some 2), .mv (.t 13), none⟩] [])
 (.ret)))
def a_math_bits_TrailingZeros64 : AFn := .code 1 c_math_bits_TrailingZeros64 [.tmp 2]
set_option maxRecDepth 100000 in
theorem k_math_bits_TrailingZeros64 : compF Tryd.prog h_math_bits_TrailingZeros64 F_math_bits_TrailingZeros64 = some a_math_bits_TrailingZeros64 := by kernel_rfl

def f_witness_Order_See : AFn := AFn.frz [false, false, true] a_witness_Order_See
noncomputable def C : FuncId → Option AFn
  | 3 => some a_paddocklaw23_OrderStays
  | 4 => some a_paddocklaw23_OrderForks
  | 5 => some a_paddocklaw23_OrderReads
  | 6 => some a_paddocklaw23_OrderRows
  | 7 => some a_paddocklaw23_known
  | 8 => some a_witness_New
  | 9 => some f_witness_Order_See
  | 10 => some a_witness_Order_Took
  | 11 => some a_witness_Order_Acked
  | 12 => some a_witness_Order_Len
  | 13 => some a_witness_Order_At
  | 14 => some a_bits_Group
  | 15 => some a_objects_Writes
  | 16 => some a_objects_Do
  | 17 => some a_pglog_Add
  | 18 => some a_witness_Order_Base
  | 19 => some a_paddockref1_Group
  | 20 => some a_pglog_Is
  | 21 => some a_witness_row_fits
  | 22 => some a_witness_row_has
  | 23 => some a_witness_row_lays
  | 24 => some a_objects_IsOp
  | 25 => some a_witness_row_read
  | 26 => some a_slices_IndexFunc_sapi_Entry_api_Entry
  | 27 => some a_witness_Order_Took_1
  | 28 => some a_witness_row_base
  | 29 => some a_bits_Mix
  | 30 => some a_objects_Seen
  | 31 => some a_objects_does
  | 32 => some a_pglog_next
  | 33 => some a_pglog_last
  | 34 => some (.ext (Pk.cloneX 8))
  | 35 => some a_pglog_folded
  | 36 => some a_paddockref1_Mix
  | 37 => some a_pglog_base
  | 38 => some a_pglog_Head
  | 39 => some a_slices_ContainsFunc_sapi_Entry_api_Entry
  | 40 => some a_witness_row_fits_1
  | 41 => some a_slices_Equal_sapi_Entry_api_Entry
  | 42 => some a_slices_Concat_sapi_Entry_api_Entry
  | 43 => some (.ext (Pk.cloneX 39))
  | 44 => some a_objects_Read
  | 45 => some a_objects_doer_write
  | 46 => some a_objects_doer_trunc
  | 47 => some a_objects_doer_attr
  | 48 => some a_objects_doer_remove
  | 49 => some a_pglog_object
  | 50 => some (.exth (Pk.growX 8))
  | 51 => some (.ext Pk.itoaX)
  | 52 => some a_objects_grown
  | 54 => some (.ext Pk.repeatX)
  | 72 => some a_math_bits_Len64
  | 75 => some a_math_bits_TrailingZeros
  | 78 => some a_math_bits_TrailingZeros32
  | 79 => some a_math_bits_TrailingZeros64
  | _ => none
theorem hC : CRel Tryd.prog C := by
  intro f fn h
  unfold C at h
  split at h
  · injection h with h; subst h; exact ⟨h_paddocklaw23_OrderStays, k_paddocklaw23_OrderStays⟩
  · injection h with h; subst h; exact ⟨h_paddocklaw23_OrderForks, k_paddocklaw23_OrderForks⟩
  · injection h with h; subst h; exact ⟨h_paddocklaw23_OrderReads, k_paddocklaw23_OrderReads⟩
  · injection h with h; subst h; exact ⟨h_paddocklaw23_OrderRows, k_paddocklaw23_OrderRows⟩
  · injection h with h; subst h; exact ⟨h_paddocklaw23_known, k_paddocklaw23_known⟩
  · injection h with h; subst h; exact ⟨h_witness_New, k_witness_New⟩
  · injection h with h; subst h; exact ⟨h_witness_Order_See, k_witness_Order_See⟩
  · injection h with h; subst h; exact ⟨h_witness_Order_Took, k_witness_Order_Took⟩
  · injection h with h; subst h; exact ⟨h_witness_Order_Acked, k_witness_Order_Acked⟩
  · injection h with h; subst h; exact ⟨h_witness_Order_Len, k_witness_Order_Len⟩
  · injection h with h; subst h; exact ⟨h_witness_Order_At, k_witness_Order_At⟩
  · injection h with h; subst h; exact ⟨h_bits_Group, k_bits_Group⟩
  · injection h with h; subst h; exact ⟨h_objects_Writes, k_objects_Writes⟩
  · injection h with h; subst h; exact ⟨h_objects_Do, k_objects_Do⟩
  · injection h with h; subst h; exact ⟨h_pglog_Add, k_pglog_Add⟩
  · injection h with h; subst h; exact ⟨h_witness_Order_Base, k_witness_Order_Base⟩
  · injection h with h; subst h; exact ⟨h_paddockref1_Group, k_paddockref1_Group⟩
  · injection h with h; subst h; exact ⟨h_pglog_Is, k_pglog_Is⟩
  · injection h with h; subst h; exact ⟨h_witness_row_fits, k_witness_row_fits⟩
  · injection h with h; subst h; exact ⟨h_witness_row_has, k_witness_row_has⟩
  · injection h with h; subst h; exact ⟨h_witness_row_lays, k_witness_row_lays⟩
  · injection h with h; subst h; exact ⟨h_objects_IsOp, k_objects_IsOp⟩
  · injection h with h; subst h; exact ⟨h_witness_row_read, k_witness_row_read⟩
  · injection h with h; subst h; exact ⟨h_slices_IndexFunc_sapi_Entry_api_Entry, k_slices_IndexFunc_sapi_Entry_api_Entry⟩
  · injection h with h; subst h; exact ⟨h_witness_Order_Took_1, k_witness_Order_Took_1⟩
  · injection h with h; subst h; exact ⟨h_witness_row_base, k_witness_row_base⟩
  · injection h with h; subst h; exact ⟨h_bits_Mix, k_bits_Mix⟩
  · injection h with h; subst h; exact ⟨h_objects_Seen, k_objects_Seen⟩
  · injection h with h; subst h; exact ⟨h_objects_does, k_objects_does⟩
  · injection h with h; subst h; exact ⟨h_pglog_next, k_pglog_next⟩
  · injection h with h; subst h; exact ⟨h_pglog_last, k_pglog_last⟩
  · injection h with h; subst h; exact Pk.cloneX_ok (by decide) ⟨h_slices_Clone_sapi_Entry_api_Entry, k_slices_Clone_sapi_Entry_api_Entry⟩
  · injection h with h; subst h; exact ⟨h_pglog_folded, k_pglog_folded⟩
  · injection h with h; subst h; exact ⟨h_paddockref1_Mix, k_paddockref1_Mix⟩
  · injection h with h; subst h; exact ⟨h_pglog_base, k_pglog_base⟩
  · injection h with h; subst h; exact ⟨h_pglog_Head, k_pglog_Head⟩
  · injection h with h; subst h; exact ⟨h_slices_ContainsFunc_sapi_Entry_api_Entry, k_slices_ContainsFunc_sapi_Entry_api_Entry⟩
  · injection h with h; subst h; exact ⟨h_witness_row_fits_1, k_witness_row_fits_1⟩
  · injection h with h; subst h; exact ⟨h_slices_Equal_sapi_Entry_api_Entry, k_slices_Equal_sapi_Entry_api_Entry⟩
  · injection h with h; subst h; exact ⟨h_slices_Concat_sapi_Entry_api_Entry, k_slices_Concat_sapi_Entry_api_Entry⟩
  · injection h with h; subst h; exact Pk.cloneX_ok (by decide) ⟨h_slices_Clone_sapi_Base_api_Base, k_slices_Clone_sapi_Base_api_Base⟩
  · injection h with h; subst h; exact ⟨h_objects_Read, k_objects_Read⟩
  · injection h with h; subst h; exact ⟨h_objects_doer_write, k_objects_doer_write⟩
  · injection h with h; subst h; exact ⟨h_objects_doer_trunc, k_objects_doer_trunc⟩
  · injection h with h; subst h; exact ⟨h_objects_doer_attr, k_objects_doer_attr⟩
  · injection h with h; subst h; exact ⟨h_objects_doer_remove, k_objects_doer_remove⟩
  · injection h with h; subst h; exact ⟨h_pglog_object, k_pglog_object⟩
  · injection h with h; subst h; exact Pk.growX_ok (z := 8) ⟨Tryd.f50, _, Tryd.func50, rfl, by kernel_rfl⟩ (by decide) (by kernel_rfl : Tryd.zero50.cells.size = 8) Tryd.grow50_0 (fun n w h0 hn => Tryd.grow50_1 n w h0 hn)
  · injection h with h; subst h; exact Pk.itoaX_ok ⟨Tryd.f51, _, Tryd.func51, rfl, by kernel_rfl⟩ (fun i w h => Tryd.strconv_Itoa_small i h w)
  · injection h with h; subst h; exact ⟨h_objects_grown, k_objects_grown⟩
  · injection h with h; subst h; exact Pk.repeatX_ok ⟨Tryd.f54, _, Tryd.func54, rfl, by kernel_rfl⟩ (fun s c w h1 h2 => Tryd.strings_Repeat s c w h1 h2)
  · injection h with h; subst h; exact ⟨h_math_bits_Len64, k_math_bits_Len64⟩
  · injection h with h; subst h; exact ⟨h_math_bits_TrailingZeros, k_math_bits_TrailingZeros⟩
  · injection h with h; subst h; exact ⟨h_math_bits_TrailingZeros32, k_math_bits_TrailingZeros32⟩
  · injection h with h; subst h; exact ⟨h_math_bits_TrailingZeros64, k_math_bits_TrailingZeros64⟩
  · cases h
end Go.Proofs.YtlihpaegaikoeaaDoor

/- The code of the functions that these laws reach, compiled for the pure evaluator (printed by program), each held against the given program by the kernel. -/
import Derived.Test.YtclambdgbphfkaaDoorChecked
import Derived.KernelRfl
import Derived.Test.YtclambdgbphfkaaDoorPkEv
import Derived.Test.YtclambdgbphfkaaDoorShelf
import Derived.Test.YtclambdgbphfkaaDoorPkItoa
set_option linter.all false
namespace Go.Proofs.YtclambdgbphfkaaDoor
open Pv Go

def F_main_main : FuncId := 0
def F_gosem_cut : FuncId := 1
def F_gosem_cut_init : FuncId := 2
def F_paddocklaw6_ObjectsTell : FuncId := 3
def F_paddocklaw6_ObjectsAttrs : FuncId := 4
def F_paddocklaw6_ObjectsReads : FuncId := 5
def F_paddocklaw6_known : FuncId := 6
def F_paddocklaw6_big : FuncId := 7
def F_objects_Do : FuncId := 8
def F_paddockref6_Do : FuncId := 9
def F_objects_Seen : FuncId := 10
def F_paddockref6_Seen : FuncId := 11
def F_objects_IsOp : FuncId := 12
def F_paddockref6_IsOp : FuncId := 13
def F_objects_Writes : FuncId := 14
def F_paddockref6_Writes : FuncId := 15
def F_objects_Read : FuncId := 16
def F_paddockref6_Read : FuncId := 17
def F_objects_All : FuncId := 18
def F_paddocklaw6_op : FuncId := 19
def F_objects_does : FuncId := 20
def F_paddockref6_change : FuncId := 21
def F_strconv_Itoa : FuncId := 22
def F_objects_doer_write : FuncId := 23
def F_objects_doer_trunc : FuncId := 24
def F_objects_doer_attr : FuncId := 25
def F_objects_doer_remove : FuncId := 26
def F_paddockref6_noughts : FuncId := 27
def F_internal_strconv_Itoa : FuncId := 28
def F_objects_grown : FuncId := 29
def F_internal_strconv_FormatInt : FuncId := 30
def F_strings_Repeat : FuncId := 31
def F_internal_strconv_small : FuncId := 32
def F_internal_strconv_numDigits : FuncId := 33
def F_internal_strconv_formatBase10 : FuncId := 34
def F_internal_strconv_formatBits : FuncId := 35
def F_math_bits_Mul : FuncId := 36
def F_strings_HasPrefix : FuncId := 37
def F_strings_Builder_Grow : FuncId := 38
def F_strings_Builder_WriteString : FuncId := 39
def F_strings_Builder_Len : FuncId := 40
def F_strings_Builder_String : FuncId := 41
def F_internal_strconv_log10Pow2 : FuncId := 42
def F_math_bits_Len64 : FuncId := 43
def F_internal_strconv_bool2_int : FuncId := 44
def F_internal_strconv_isPowerOfTwo : FuncId := 45
def F_math_bits_TrailingZeros : FuncId := 46
def F_math_bits_Mul32 : FuncId := 47
def F_math_bits_Mul64 : FuncId := 48
def F_internal_stringslite_HasPrefix : FuncId := 49
def F_strings_Builder_copyCheck : FuncId := 50
def F_strings_Builder_grow : FuncId := 51
def F_math_bits_TrailingZeros32 : FuncId := 52
def F_math_bits_TrailingZeros64 : FuncId := 53
def F_internal_abi_NoEscape : FuncId := 54
def F_internal_bytealg_MakeNoZero : FuncId := 55
def F_runtime_boundsError_Error : FuncId := 56
def F_runtime_boundsError_RuntimeError : FuncId := 57
def F_runtime_errorString_Error : FuncId := 58
def F_runtime_errorString_RuntimeError : FuncId := 59
def F_runtime_plainError_Error : FuncId := 60
def F_runtime_plainError_RuntimeError : FuncId := 61
def F_runtime_errorAddressString_Error : FuncId := 62
def F_runtime_errorAddressString_RuntimeError : FuncId := 63
def F_runtime_TypeAssertionError_Error : FuncId := 64
def F_runtime_TypeAssertionError_RuntimeError : FuncId := 65
def F_runtime_PanicNilError_Error : FuncId := 66
def F_runtime_PanicNilError_RuntimeError : FuncId := 67
def F_internal_abi_Type_Align : FuncId := 68
def F_internal_runtime_maps_unhashableTypeError_Error : FuncId := 69
def F_internal_runtime_maps_unhashableTypeError_RuntimeError : FuncId := 70
def F_strings_Builder_Reset : FuncId := 71
def F_internal_abi_Kind_String : FuncId := 72
def F_var_s_door_gosem_cut_vars_holds_initialisers_alone_see_the_manifest_s_row_cutvarsword_look_11_test_files_too : FuncId := 73
def F_var_s_door_internal_strconv_uint64pow10_is_laid_by_its_own_initialiser_plain_data_look_11 : FuncId := 74
def F_var_s_door_math_bits_deBruijn32tab_is_laid_by_its_own_initialiser_plain_data_look_11 : FuncId := 75
def F_var_s_door_math_bits_deBruijn64tab_is_laid_by_its_own_initialiser_plain_data_look_11 : FuncId := 76
def F_var_s_door_the_look_of_gosem_cut_vars_went_over_the_folder_that_the_caller_named_as_the_repository_s_root_look_11 : FuncId := 77
def F_gosem_cut_vars : FuncId := 78
def tab0 : ByteArray := ⟨#[0, 1, 2, 2, 3, 3, 3, 3, 4, 4, 4, 4, 4, 4, 4, 4, 5, 5, 5, 5, 5, 5, 5, 5, 5, 5, 5, 5, 5, 5, 5, 5, 6, 6, 6, 6, 6, 6, 6, 6, 6, 6, 6, 6, 6, 6, 6, 6, 6, 6, 6, 6, 6, 6, 6, 6, 6, 6, 6, 6, 6, 6, 6, 6, 7, 7, 7, 7, 7, 7, 7, 7, 7, 7, 7, 7, 7, 7, 7, 7, 7, 7, 7, 7, 7, 7, 7, 7, 7, 7, 7, 7, 7, 7, 7, 7, 7, 7, 7, 7, 7, 7, 7, 7, 7, 7, 7, 7, 7, 7, 7, 7, 7, 7, 7, 7, 7, 7, 7, 7, 7, 7, 7, 7, 7, 7, 7, 7, 8, 8, 8, 8, 8, 8, 8, 8, 8, 8, 8, 8, 8, 8, 8, 8, 8, 8, 8, 8, 8, 8, 8, 8, 8, 8, 8, 8, 8, 8, 8, 8, 8, 8, 8, 8, 8, 8, 8, 8, 8, 8, 8, 8, 8, 8, 8, 8, 8, 8, 8, 8, 8, 8, 8, 8, 8, 8, 8, 8, 8, 8, 8, 8, 8, 8, 8, 8, 8, 8, 8, 8, 8, 8, 8, 8, 8, 8, 8, 8, 8, 8, 8, 8, 8, 8, 8, 8, 8, 8, 8, 8, 8, 8, 8, 8, 8, 8, 8, 8, 8, 8, 8, 8, 8, 8, 8, 8, 8, 8, 8, 8, 8, 8, 8, 8, 8, 8, 8, 8, 8, 8, 8, 8, 8, 8, 8, 8]⟩
/-- paddock/paddocklaw6.ObjectsTell -/
def h_paddocklaw6_ObjectsTell : Hints := { kp := [(0, [0, 1]), (1, [2, 3]), (2, []), (3, [2, 3]), (4, []), (5, [2, 3]), (6, [2, 3, 5, 6]), (7, [2, 3, 5, 6, 7, 8]), (8, [2, 3, 5, 6, 7, 8, 9, 10]), (9, [2, 3, 5, 6, 7, 8, 9, 10, 11, 12])], lkp := [], lth := [] }
def c_paddocklaw6_ObjectsTell : ACode :=
 .seq (.region (some [0, 1]) [⟨(some 2), .box (.t 0), none⟩,
   ⟨(some 3), .box (.t 1), none⟩,
   ⟨(some 4), .mv (.c (.d (.b false))), none⟩] [])
 (.seq (.seq (.region (some [2, 3]) [⟨(some 13), .call (.f F_paddocklaw6_known) [], none⟩,
   ⟨(some 14), .un .not (.t 13), none⟩] [])
 (.cond (.t 14) (.seq (.region (some []) [⟨(some 4), .mv (.c (.d (.b false))), none⟩] [])
  (.ret)) (.skip)))
 (.seq (.seq (.region (some [2, 3]) [⟨(some 15), .load true 39 (.t 2), none⟩,
   ⟨(some 16), .call (.f F_paddocklaw6_big) [.t 15], none⟩] [])
 (.cond (.t 16) (.seq (.region (some []) [⟨(some 4), .mv (.c (.d (.b true))), none⟩] [])
  (.ret)) (.skip)))
 (.seq (.region (some [2, 3]) [⟨(some 18), .load true 39 (.t 2), none⟩,
   ⟨(some 19), .load true 6 (.t 3), none⟩,
   ⟨(some 20), .call (.f F_objects_Do) [.t 18, .t 19], none⟩,
   ⟨(some 17), .mv (.t 20), none⟩,
   ⟨(some 21), .ext (.t 17) 0, none⟩,
   ⟨(some 22), .ext (.t 17) 1, none⟩,
   ⟨(some 5), .box (.c (.d (.agg Pk.Base.zero.cs))), none⟩,
   ⟨(some 6), .box (.c (.d (.agg [.i .u8 0, .s ⟨#[]⟩]))), none⟩,
   ⟨none, .store 39 (.t 5) (.t 21), none⟩,
   ⟨none, .store 2 (.t 6) (.t 22), none⟩] [])
 (.seq (.region (some [2, 3, 5, 6]) [⟨(some 24), .load true 39 (.t 2), none⟩,
   ⟨(some 25), .load true 6 (.t 3), none⟩,
   ⟨(some 26), .call (.f F_paddockref6_Do) [.t 24, .t 25], none⟩,
   ⟨(some 23), .mv (.t 26), none⟩,
   ⟨(some 27), .ext (.t 23) 0, none⟩,
   ⟨(some 28), .ext (.t 23) 1, none⟩,
   ⟨(some 7), .box (.c (.d (.agg Pk.Base.zero.cs))), none⟩,
   ⟨(some 8), .box (.c (.d (.agg [.i .u8 0, .s ⟨#[]⟩]))), none⟩,
   ⟨none, .store 39 (.t 7) (.t 27), none⟩,
   ⟨none, .store 2 (.t 8) (.t 28), none⟩] [])
 (.seq (.region (some [2, 3, 5, 6, 7, 8]) [⟨(some 30), .load true 39 (.t 2), none⟩,
   ⟨(some 31), .load true 6 (.t 3), none⟩,
   ⟨(some 32), .call (.f F_objects_Seen) [.t 30, .t 31], none⟩,
   ⟨(some 29), .mv (.t 32), none⟩,
   ⟨(some 33), .ext (.t 29) 0, none⟩,
   ⟨(some 34), .ext (.t 29) 1, none⟩,
   ⟨(some 9), .box (.c (.d (.agg [.i .u8 0, .s ⟨#[]⟩]))), none⟩,
   ⟨none, .store 2 (.t 9) (.t 33), none⟩,
   ⟨(some 10), .mv (.t 34), none⟩] [])
 (.seq (.region (some [2, 3, 5, 6, 7, 8, 9, 10]) [⟨(some 36), .load true 39 (.t 2), none⟩,
   ⟨(some 37), .load true 6 (.t 3), none⟩,
   ⟨(some 38), .call (.f F_paddockref6_Seen) [.t 36, .t 37], none⟩,
   ⟨(some 35), .mv (.t 38), none⟩,
   ⟨(some 39), .ext (.t 35) 0, none⟩,
   ⟨(some 40), .ext (.t 35) 1, none⟩,
   ⟨(some 11), .box (.c (.d (.agg [.i .u8 0, .s ⟨#[]⟩]))), none⟩,
   ⟨none, .store 2 (.t 11) (.t 39), none⟩,
   ⟨(some 12), .mv (.t 40), none⟩] [])
 (.seq (.region (some [2, 3, 5, 6, 7, 8, 9, 10, 11, 12]) [⟨(some 41), .load true 6 (.t 3), none⟩,
   ⟨(some 42), .call (.f F_objects_IsOp) [.t 41], none⟩,
   ⟨(some 43), .load true 6 (.t 3), none⟩,
   ⟨(some 44), .call (.f F_paddockref6_IsOp) [.t 43], none⟩,
   ⟨(some 45), .eq false (.sb) (.t 42) (.t 44), none⟩,
   ⟨(some 46), .mv (.t 45), none⟩,
   ⟨(some 47), .load true 6 (.t 3), some (46, true)⟩,
   ⟨(some 48), .call (.f F_objects_Writes) [.t 47], some (46, true)⟩,
   ⟨(some 49), .load true 6 (.t 3), some (46, true)⟩,
   ⟨(some 50), .call (.f F_paddockref6_Writes) [.t 49], some (46, true)⟩,
   ⟨(some 51), .eq false (.sb) (.t 48) (.t 50), some (46, true)⟩,
   ⟨(some 52), .pick (.t 46) (.t 51) (.c (.d (.b false))), none⟩,
   ⟨(some 53), .mv (.t 52), none⟩,
   ⟨(some 54), .load true 39 (.t 5), some (53, true)⟩,
   ⟨(some 55), .load true 39 (.t 7), some (53, true)⟩,
   ⟨(some 56), .eq false Pk.Base.ety (.t 54) (.t 55), some (53, true)⟩,
   ⟨(some 57), .pick (.t 53) (.t 56) (.c (.d (.b false))), none⟩,
   ⟨(some 58), .mv (.t 57), none⟩,
   ⟨(some 59), .load true 2 (.t 6), some (58, true)⟩,
   ⟨(some 60), .load true 2 (.t 8), some (58, true)⟩,
   ⟨(some 61), .eq false Pk.Res.ety (.t 59) (.t 60), some (58, true)⟩,
   ⟨(some 62), .pick (.t 58) (.t 61) (.c (.d (.b false))), none⟩,
   ⟨(some 63), .mv (.t 62), none⟩,
   ⟨(some 64), .load true 2 (.t 9), some (63, true)⟩,
   ⟨(some 65), .load true 2 (.t 11), some (63, true)⟩,
   ⟨(some 66), .eq false Pk.Res.ety (.t 64) (.t 65), some (63, true)⟩,
   ⟨(some 67), .pick (.t 63) (.t 66) (.c (.d (.b false))), none⟩,
   ⟨(some 68), .mv (.t 67), none⟩,
   ⟨(some 69), .mv (.t 10), some (68, true)⟩,
   ⟨(some 70), .mv (.t 12), some (68, true)⟩,
   ⟨(some 71), .eq false (.sb) (.t 69) (.t 70), some (68, true)⟩,
   ⟨(some 72), .pick (.t 68) (.t 71) (.c (.d (.b false))), none⟩,
   ⟨(some 73), .mv (.t 72), none⟩,
   ⟨(some 74), .load true 39 (.t 2), some (73, true)⟩,
   ⟨(some 75), .load true 6 (.t 3), some (73, true)⟩,
   ⟨(some 76), .call (.f F_objects_Read) [.t 74, .t 75], some (73, true)⟩,
   ⟨(some 77), .load true 39 (.t 2), some (73, true)⟩,
   ⟨(some 78), .load true 6 (.t 3), some (73, true)⟩,
   ⟨(some 79), .call (.f F_paddockref6_Read) [.t 77, .t 78], some (73, true)⟩,
   ⟨(some 80), .eq false Pk.Res.ety (.t 76) (.t 79), some (73, true)⟩,
   ⟨(some 81), .pick (.t 73) (.t 80) (.c (.d (.b false))), none⟩,
   ⟨(some 4), .mv (.t 81), none⟩] [(0, 2), (1, 2), (6, 8), (7, 8), (13, 14), (18, 19), (23, 24), (33, 34), (33, 36), (34, 36), (35, 36), (33, 37), (34, 37), (35, 37), (36, 37)])
 (.ret))))))))
def a_paddocklaw6_ObjectsTell : AFn := .code 2 c_paddocklaw6_ObjectsTell [.tmp 4]
set_option maxRecDepth 100000 in
theorem k_paddocklaw6_ObjectsTell : compF Tryd.prog h_paddocklaw6_ObjectsTell F_paddocklaw6_ObjectsTell = some a_paddocklaw6_ObjectsTell := by kernel_rfl

/-- paddock/paddocklaw6.ObjectsAttrs -/
def h_paddocklaw6_ObjectsAttrs : Hints := { kp := [(0, [0, 1, 2]), (1, [0, 1, 2]), (2, []), (3, [0, 1, 2]), (4, []), (5, [0, 1, 2]), (6, [1, 2, 7]), (7, [1, 2, 7, 8]), (8, [2, 7, 8, 9, 10]), (9, []), (10, [2, 7, 8, 9]), (11, [2, 7, 8, 9, 11]), (12, [2, 7, 8, 9, 11]), (13, [8, 9, 11]), (14, [8, 9, 11, 12, 13])], lkp := [], lth := [] }
def c_paddocklaw6_ObjectsAttrs : ACode :=
 .seq (.region (some [0, 1, 2]) [⟨(some 6), .mv (.c (.d (.b false))), none⟩] [])
 (.seq (.seq (.region (some [0, 1, 2]) [⟨(some 14), .call (.f F_paddocklaw6_known) [], none⟩,
   ⟨(some 15), .un .not (.t 14), none⟩] [])
 (.cond (.t 15) (.seq (.region (some []) [⟨(some 6), .mv (.c (.d (.b false))), none⟩] [])
  (.ret)) (.skip)))
 (.seq (.seq (.region (some [0, 1, 2]) [⟨(some 16), .mv (.t 1), none⟩,
   ⟨(some 17), .len true (.t 16), none⟩,
   ⟨(some 18), .bin .gtr (.t 17) (.c (.d (.i .i64 16))), none⟩,
   ⟨(some 19), .mv (.t 18), none⟩,
   ⟨(some 20), .mv (.t 2), some (19, false)⟩,
   ⟨(some 21), .len true (.t 20), some (19, false)⟩,
   ⟨(some 22), .bin .gtr (.t 21) (.c (.d (.i .i64 16))), some (19, false)⟩,
   ⟨(some 23), .pick (.t 19) (.c (.d (.b true))) (.t 22), none⟩] [])
 (.cond (.t 23) (.seq (.region (some []) [⟨(some 6), .mv (.c (.d (.b true))), none⟩] [])
  (.ret)) (.skip)))
 (.seq (.region (some [0, 1, 2]) [⟨(some 24), .mv (.t 0), none⟩,
   ⟨(some 25), .bin .rem (.t 24) (.c (.d (.i .u8 3))), none⟩,
   ⟨(some 7), .mv (.t 25), none⟩] [])
 (.seq (.region (some [1, 2, 7]) [⟨(some 26), .build [.d (.i .u8 0), .d (.i .u32 0), .d (.i .u8 0), .d (.i .u8 0), .d (.i .u8 0), .d (.s ⟨#[]⟩)] [(0, 1, .c (.d (.i .u8 2))), (1, 1, .c (.d (.i .u32 1))), (2, 1, .c (.d (.i .u8 5))), (3, 1, .c (.d (.i .u8 3)))], none⟩,
   ⟨(some 8), .box (.c (.d (.agg [.i .u8 0, .i .u32 0, .i .u8 0, .i .u8 0, .i .u8 0, .s ⟨#[]⟩]))), none⟩,
   ⟨none, .store 6 (.t 8) (.t 26), none⟩] [])
 (.seq (.region (some [1, 2, 7, 8]) [⟨(some 28), .build (List.map .d Pk.Base.zero.cs) [], none⟩,
   ⟨(some 29), .mv (.t 7), none⟩,
   ⟨(some 30), .mv (.t 1), none⟩,
   ⟨(some 31), .call (.f F_paddocklaw6_op) [.c (.d (.i .u32 1)), .c (.d (.i .u8 3)), .t 29, .t 30], none⟩,
   ⟨(some 32), .call (.f F_paddocklaw6_op) [.c (.d (.i .u32 2)), .c (.d (.i .u8 1)), .c (.d (.i .u8 0)), .c (.d (.s ⟨#[113]⟩))], none⟩,
   ⟨(some 33), .mv (.t 7), none⟩,
   ⟨(some 34), .mv (.t 1), none⟩,
   ⟨(some 35), .call (.f F_paddocklaw6_op) [.c (.d (.i .u32 3)), .c (.d (.i .u8 3)), .t 33, .t 34], none⟩,
   ⟨(some 36), .mv (.t 7), none⟩,
   ⟨(some 37), .mv (.t 2), none⟩,
   ⟨(some 38), .call (.f F_paddocklaw6_op) [.c (.d (.i .u32 4)), .c (.d (.i .u8 3)), .t 36, .t 37], none⟩,
   ⟨(some 39), .bsl 6 [.t 31, .t 32, .t 35, .t 38], none⟩,
   ⟨(some 40), .call (.f F_objects_All) [.t 28, .t 39], none⟩,
   ⟨(some 27), .mv (.t 40), none⟩,
   ⟨(some 41), .ext (.t 27) 0, none⟩,
   ⟨(some 42), .ext (.t 27) 1, none⟩,
   ⟨(some 9), .box (.c (.d (.agg Pk.Base.zero.cs))), none⟩,
   ⟨none, .store 39 (.t 9) (.t 41), none⟩,
   ⟨(some 10), .mv (.t 42), none⟩] [])
 (.seq (.seq (.region (some [2, 7, 8, 9, 10]) [⟨(some 43), .mv (.t 10), none⟩,
   ⟨(some 44), .iaddrS 2 (.t 43) (.c (.d (.i .i64 0))), none⟩,
   ⟨(some 45), .faddr 0 (.t 44), none⟩,
   ⟨(some 46), .load false 1 (.t 45), none⟩,
   ⟨(some 47), .bin .neq (.t 46) (.c (.d (.i .u8 1))), none⟩,
   ⟨(some 48), .mv (.t 47), none⟩,
   ⟨(some 49), .mv (.t 10), some (48, false)⟩,
   ⟨(some 50), .iaddrS 2 (.t 49) (.c (.d (.i .i64 2))), some (48, false)⟩,
   ⟨(some 51), .faddr 0 (.t 50), some (48, false)⟩,
   ⟨(some 52), .load false 1 (.t 51), some (48, false)⟩,
   ⟨(some 53), .bin .neq (.t 52) (.c (.d (.i .u8 0))), some (48, false)⟩,
   ⟨(some 54), .pick (.t 48) (.c (.d (.b true))) (.t 53), none⟩,
   ⟨(some 55), .mv (.t 54), none⟩,
   ⟨(some 56), .mv (.t 7), some (55, false)⟩,
   ⟨(some 57), .faddr 0 (.t 9), some (55, false)⟩,
   ⟨(some 58), .iaddrA 6 5 (.t 57) (.c (.d (.i .i64 3))), some (55, false)⟩,
   ⟨(some 59), .faddr 2 (.t 58), some (55, false)⟩,
   ⟨(some 60), .iaddrA 3 1 (.t 59) (.t 56), some (55, false)⟩,
   ⟨(some 61), .load false 1 (.t 60), some (55, false)⟩,
   ⟨(some 62), .mv (.t 2), some (55, false)⟩,
   ⟨(some 63), .bin .neq (.t 61) (.t 62), some (55, false)⟩,
   ⟨(some 64), .pick (.t 55) (.c (.d (.b true))) (.t 63), none⟩] [])
 (.cond (.t 64) (.seq (.region (some []) [⟨(some 6), .mv (.c (.d (.b false))), none⟩] [])
  (.ret)) (.skip)))
 (.seq (.region (some [2, 7, 8, 9]) [⟨(some 11), .mv (.c (.d (.s ⟨#[113]⟩))), none⟩] [])
 (.seq (.seq (.region (some [2, 7, 8, 9, 11]) [⟨(some 65), .mv (.t 2), none⟩,
   ⟨(some 66), .bin .neq (.t 65) (.c (.d (.s ⟨#[]⟩))), none⟩] [])
 (.cond (.t 66) (.region (some [2, 7, 8, 9, 11]) [⟨(some 67), .mv (.t 11), none⟩,
    ⟨(some 68), .bin .add (.t 67) (.c (.d (.s ⟨#[59]⟩))), none⟩,
    ⟨(some 69), .mv (.t 7), none⟩,
    ⟨(some 70), .bin .add (.c (.d (.i .u8 48))) (.t 69), none⟩,
    ⟨(some 71), .bsl 1 [.t 70], none⟩,
    ⟨(some 72), .b2s (.t 71), none⟩,
    ⟨(some 73), .bin .add (.t 68) (.t 72), none⟩,
    ⟨(some 74), .bin .add (.t 73) (.c (.d (.s ⟨#[61]⟩))), none⟩,
    ⟨(some 75), .mv (.t 2), none⟩,
    ⟨(some 76), .bin .add (.t 74) (.t 75), none⟩,
    ⟨(some 11), .mv (.t 76), none⟩] []) (.skip)))
 (.seq (.region (some [8, 9, 11]) [⟨(some 78), .load true 39 (.t 9), none⟩,
   ⟨(some 79), .call (.f F_paddocklaw6_op) [.c (.d (.i .u32 5)), .c (.d (.i .u8 4)), .c (.d (.i .u8 0)), .c (.d (.s ⟨#[]⟩))], none⟩,
   ⟨(some 80), .call (.f F_paddocklaw6_op) [.c (.d (.i .u32 6)), .c (.d (.i .u8 1)), .c (.d (.i .u8 0)), .c (.d (.s ⟨#[122]⟩))], none⟩,
   ⟨(some 81), .bsl 6 [.t 79, .t 80], none⟩,
   ⟨(some 82), .call (.f F_objects_All) [.t 78, .t 81], none⟩,
   ⟨(some 77), .mv (.t 82), none⟩,
   ⟨(some 83), .ext (.t 77) 0, none⟩,
   ⟨(some 84), .ext (.t 77) 1, none⟩,
   ⟨(some 12), .box (.c (.d (.agg Pk.Base.zero.cs))), none⟩,
   ⟨none, .store 39 (.t 12) (.t 83), none⟩,
   ⟨(some 13), .mv (.t 84), none⟩] [(0, 1), (0, 2), (0, 3), (0, 8), (1, 8), (2, 8), (3, 8), (4, 8)])
 (.seq (.region (some [8, 9, 11, 12, 13]) [⟨(some 85), .load true 39 (.t 9), none⟩,
   ⟨(some 86), .load true 6 (.t 8), none⟩,
   ⟨(some 87), .call (.f F_objects_Read) [.t 85, .t 86], none⟩,
   ⟨(some 88), .field false 1 1 (.t 87), none⟩,
   ⟨(some 89), .mv (.t 11), none⟩,
   ⟨(some 90), .bin .eql (.t 88) (.t 89), none⟩,
   ⟨(some 91), .mv (.t 90), none⟩,
   ⟨(some 92), .mv (.t 13), some (91, true)⟩,
   ⟨(some 93), .iaddrS 2 (.t 92) (.c (.d (.i .i64 0))), some (91, true)⟩,
   ⟨(some 94), .faddr 0 (.t 93), some (91, true)⟩,
   ⟨(some 95), .load false 1 (.t 94), some (91, true)⟩,
   ⟨(some 96), .bin .eql (.t 95) (.c (.d (.i .u8 0))), some (91, true)⟩,
   ⟨(some 97), .pick (.t 91) (.t 96) (.c (.d (.b false))), none⟩,
   ⟨(some 98), .mv (.t 97), none⟩,
   ⟨(some 99), .faddr 0 (.t 12), some (98, true)⟩,
   ⟨(some 100), .iaddrA 6 5 (.t 99) (.c (.d (.i .i64 3))), some (98, true)⟩,
   ⟨(some 101), .faddr 2 (.t 100), some (98, true)⟩,
   ⟨(some 102), .load true 3 (.t 101), some (98, true)⟩,
   ⟨(some 103), .build [.d (.s ⟨#[]⟩), .d (.s ⟨#[]⟩), .d (.s ⟨#[]⟩)] [], some (98, true)⟩,
   ⟨(some 104), .eq false Pk.Objt_attr_ety (.t 102) (.t 103), some (98, true)⟩,
   ⟨(some 105), .pick (.t 98) (.t 104) (.c (.d (.b false))), none⟩,
   ⟨(some 106), .mv (.t 105), none⟩,
   ⟨(some 107), .load true 39 (.t 12), some (106, true)⟩,
   ⟨(some 108), .load true 6 (.t 8), some (106, true)⟩,
   ⟨(some 109), .call (.f F_objects_Read) [.t 107, .t 108], some (106, true)⟩,
   ⟨(some 110), .field false 1 1 (.t 109), some (106, true)⟩,
   ⟨(some 111), .bin .eql (.t 110) (.c (.d (.s ⟨#[122]⟩))), some (106, true)⟩,
   ⟨(some 112), .pick (.t 106) (.t 111) (.c (.d (.b false))), none⟩,
   ⟨(some 6), .mv (.t 112), none⟩] [])
 (.ret)))))))))))
def a_paddocklaw6_ObjectsAttrs : AFn := .code 3 c_paddocklaw6_ObjectsAttrs [.tmp 6]
set_option maxRecDepth 100000 in
theorem k_paddocklaw6_ObjectsAttrs : compF Tryd.prog h_paddocklaw6_ObjectsAttrs F_paddocklaw6_ObjectsAttrs = some a_paddocklaw6_ObjectsAttrs := by kernel_rfl

/-- paddock/paddocklaw6.ObjectsReads -/
def h_paddocklaw6_ObjectsReads : Hints := { kp := [(0, [0, 1]), (1, [0, 1]), (2, []), (3, [0, 1]), (4, []), (5, [0, 1]), (6, [1, 5]), (7, [5, 7]), (8, [5, 7, 8]), (9, [8, 9]), (10, [8]), (11, [8, 9]), (12, []), (13, [8, 9]), (14, [8, 9, 10]), (15, [8, 9, 10, 11]), (17, [8, 9, 10, 11]), (18, [8, 9, 10, 11]), (16, [8, 9, 10, 11]), (19, [8, 10])], lkp := [(15, [8, 9, 10, 11])], lth := [] }
def K_paddocklaw6_ObjectsReads_0 : Option (List Nat) := (some [8, 9, 10, 11])
def l_paddocklaw6_ObjectsReads_0 : ACode :=
 .seq (.seq (.region (some [8, 9, 10, 11]) [⟨(some 65), .mv (.t 11), none⟩,
   ⟨(some 66), .bin .lss (.t 65) (.c (.d (.i .i64 3))), none⟩] [])
 (.cond (.t 66) (.skip) (.exit 0)))
 (.seq (.block 1 (.seq (.region (some [8, 9, 10, 11]) [⟨(some 69), .mv (.t 11), none⟩,
    ⟨(some 70), .faddr 2 (.t 9), none⟩,
    ⟨(some 71), .iaddrA 3 1 (.t 70) (.t 69), none⟩,
    ⟨(some 72), .load false 1 (.t 71), none⟩,
    ⟨(some 73), .bin .neq (.t 72) (.c (.d (.s ⟨#[]⟩))), none⟩] [])
  (.cond (.t 73) (.region (some [8, 9, 10, 11]) [⟨(some 74), .mv (.t 10), none⟩,
     ⟨(some 75), .bin .add (.t 74) (.c (.d (.i .i64 3))), none⟩,
     ⟨(some 76), .mv (.t 11), none⟩,
     ⟨(some 77), .faddr 2 (.t 9), none⟩,
     ⟨(some 78), .iaddrA 3 1 (.t 77) (.t 76), none⟩,
     ⟨(some 79), .load false 1 (.t 78), none⟩,
     ⟨(some 80), .len true (.t 79), none⟩,
     ⟨(some 81), .bin .add (.t 75) (.t 80), none⟩,
     ⟨(some 10), .mv (.t 81), none⟩] []) (.skip))))
 (.region (some [8, 9, 10, 11]) [⟨(some 67), .mv (.t 11), none⟩,
   ⟨(some 68), .bin .add (.t 67) (.c (.d (.i .i64 1))), none⟩,
   ⟨(some 11), .mv (.t 68), none⟩] []))
def c_paddocklaw6_ObjectsReads : ACode :=
 .seq (.region (some [0, 1]) [⟨(some 4), .mv (.c (.d (.b false))), none⟩] [])
 (.seq (.seq (.region (some [0, 1]) [⟨(some 12), .call (.f F_paddocklaw6_known) [], none⟩,
   ⟨(some 13), .un .not (.t 12), none⟩] [])
 (.cond (.t 13) (.seq (.region (some []) [⟨(some 4), .mv (.c (.d (.b false))), none⟩] [])
  (.ret)) (.skip)))
 (.seq (.seq (.region (some [0, 1]) [⟨(some 14), .mv (.t 0), none⟩,
   ⟨(some 15), .len false (.t 14), none⟩,
   ⟨(some 16), .bin .gtr (.t 15) (.c (.d (.i .i64 30))), none⟩] [])
 (.cond (.t 16) (.seq (.region (some []) [⟨(some 4), .mv (.c (.d (.b true))), none⟩] [])
  (.ret)) (.skip)))
 (.seq (.region (some [0, 1]) [⟨(some 18), .build (List.map .d Pk.Base.zero.cs) [], none⟩,
   ⟨(some 19), .mv (.t 0), none⟩,
   ⟨(some 20), .call (.f F_objects_All) [.t 18, .t 19], none⟩,
   ⟨(some 17), .mv (.t 20), none⟩,
   ⟨(some 21), .ext (.t 17) 0, none⟩,
   ⟨(some 22), .ext (.t 17) 1, none⟩,
   ⟨(some 5), .box (.c (.d (.agg Pk.Base.zero.cs))), none⟩,
   ⟨none, .store 39 (.t 5) (.t 21), none⟩,
   ⟨(some 6), .mv (.t 22), none⟩] [])
 (.seq (.region (some [1, 5]) [⟨(some 23), .mv (.t 1), none⟩,
   ⟨(some 24), .bin .rem (.t 23) (.c (.d (.i .u8 6))), none⟩,
   ⟨(some 7), .mv (.t 24), none⟩] [])
 (.seq (.region (some [5, 7]) [⟨(some 25), .load true 39 (.t 5), none⟩,
   ⟨(some 26), .mv (.t 7), none⟩,
   ⟨(some 27), .build [.d (.i .u8 0), .d (.i .u32 0), .d (.i .u8 0), .d (.i .u8 0), .d (.i .u8 0), .d (.s ⟨#[]⟩)] [(0, 1, .c (.d (.i .u8 1))), (1, 1, .c (.d (.i .u32 1))), (2, 1, .c (.d (.i .u8 5))), (3, 1, .t 26)], none⟩,
   ⟨(some 28), .call (.f F_objects_Read) [.t 25, .t 27], none⟩,
   ⟨(some 8), .box (.c (.d (.agg [.i .u8 0, .s ⟨#[]⟩]))), none⟩,
   ⟨none, .store 2 (.t 8) (.t 28), none⟩] [])
 (.seq (.region (some [5, 7, 8]) [⟨(some 29), .mv (.t 7), none⟩,
   ⟨(some 30), .faddr 0 (.t 5), none⟩,
   ⟨(some 31), .iaddrA 6 5 (.t 30) (.t 29), none⟩,
   ⟨(some 32), .load true 5 (.t 31), none⟩,
   ⟨(some 9), .box (.c (.d (.agg [.b false, .s ⟨#[]⟩, .s ⟨#[]⟩, .s ⟨#[]⟩, .s ⟨#[]⟩]))), none⟩,
   ⟨none, .store 5 (.t 9) (.t 32), none⟩] [])
 (.seq (.seq (.region (some [8, 9]) [⟨(some 33), .faddr 0 (.t 9), none⟩,
   ⟨(some 34), .load false 1 (.t 33), none⟩,
   ⟨(some 35), .un .not (.t 34), none⟩] [])
 (.cond (.t 35) (.seq (.region (some [8]) [⟨(some 36), .load true 2 (.t 8), none⟩,
    ⟨(some 37), .build [.d (.i .u8 0), .d (.s ⟨#[]⟩)] [(0, 1, .c (.d (.i .u8 1)))], none⟩,
    ⟨(some 38), .eq false Pk.Res.ety (.t 36) (.t 37), none⟩,
    ⟨(some 4), .mv (.t 38), none⟩] [])
  (.ret)) (.skip)))
 (.seq (.seq (.region (some [8, 9]) [⟨(some 39), .faddr 0 (.t 8), none⟩,
   ⟨(some 40), .load false 1 (.t 39), none⟩,
   ⟨(some 41), .bin .neq (.t 40) (.c (.d (.i .u8 0))), none⟩,
   ⟨(some 42), .mv (.t 41), none⟩,
   ⟨(some 43), .faddr 1 (.t 8), some (42, false)⟩,
   ⟨(some 44), .load false 1 (.t 43), some (42, false)⟩,
   ⟨(some 45), .len true (.t 44), some (42, false)⟩,
   ⟨(some 46), .faddr 1 (.t 9), some (42, false)⟩,
   ⟨(some 47), .load false 1 (.t 46), some (42, false)⟩,
   ⟨(some 48), .len true (.t 47), some (42, false)⟩,
   ⟨(some 49), .bin .lss (.t 45) (.t 48), some (42, false)⟩,
   ⟨(some 50), .pick (.t 42) (.c (.d (.b true))) (.t 49), none⟩,
   ⟨(some 51), .mv (.t 50), none⟩,
   ⟨(some 52), .faddr 1 (.t 8), some (51, false)⟩,
   ⟨(some 53), .load false 1 (.t 52), some (51, false)⟩,
   ⟨(some 54), .faddr 1 (.t 9), some (51, false)⟩,
   ⟨(some 55), .load false 1 (.t 54), some (51, false)⟩,
   ⟨(some 56), .len true (.t 55), some (51, false)⟩,
   ⟨(some 57), .slice 0 (.t 53) none (some (.t 56)) none, some (51, false)⟩,
   ⟨(some 58), .faddr 1 (.t 9), some (51, false)⟩,
   ⟨(some 59), .load false 1 (.t 58), some (51, false)⟩,
   ⟨(some 60), .bin .neq (.t 57) (.t 59), some (51, false)⟩,
   ⟨(some 61), .pick (.t 51) (.c (.d (.b true))) (.t 60), none⟩] [(5, 8), (14, 16), (14, 20), (16, 20)])
 (.cond (.t 61) (.seq (.region (some []) [⟨(some 4), .mv (.c (.d (.b false))), none⟩] [])
  (.ret)) (.skip)))
 (.seq (.region (some [8, 9]) [⟨(some 62), .faddr 1 (.t 9), none⟩,
   ⟨(some 63), .load false 1 (.t 62), none⟩,
   ⟨(some 64), .len true (.t 63), none⟩,
   ⟨(some 10), .mv (.t 64), none⟩] [])
 (.seq (.seq (.region (some [8, 9, 10]) [⟨(some 11), .mv (.c (.d (.i .i64 0))), none⟩] [])
 (.block 0 (.loop K_paddocklaw6_ObjectsReads_0 [] l_paddocklaw6_ObjectsReads_0)))
 (.seq (.region (some [8, 10]) [⟨(some 82), .faddr 1 (.t 8), none⟩,
   ⟨(some 83), .load false 1 (.t 82), none⟩,
   ⟨(some 84), .len true (.t 83), none⟩,
   ⟨(some 85), .mv (.t 10), none⟩,
   ⟨(some 86), .bin .eql (.t 84) (.t 85), none⟩,
   ⟨(some 4), .mv (.t 86), none⟩] [])
 (.ret))))))))))))
def a_paddocklaw6_ObjectsReads : AFn := .code 2 c_paddocklaw6_ObjectsReads [.tmp 4]
set_option maxRecDepth 100000 in
theorem k_paddocklaw6_ObjectsReads : compF Tryd.prog h_paddocklaw6_ObjectsReads F_paddocklaw6_ObjectsReads = some a_paddocklaw6_ObjectsReads := by kernel_rfl

/-- paddock/paddocklaw6.known -/
def h_paddocklaw6_known : Hints := { kp := [(0, []), (1, []), (2, [1, 2]), (3, [1, 2, 4])], lkp := [], lth := [] }
def c_paddocklaw6_known : ACode :=
 .seq (.region (some []) [⟨(some 0), .mv (.c (.d (.b false))), none⟩] [])
 (.seq (.region (some []) [⟨(some 6), .build (List.map .d Pk.Base.zero.cs) [], none⟩,
   ⟨(some 7), .build [.d (.i .u8 0), .d (.i .u32 0), .d (.i .u8 0), .d (.i .u8 0), .d (.i .u8 0), .d (.s ⟨#[]⟩)] [(0, 1, .c (.d (.i .u8 1))), (1, 1, .c (.d (.i .u32 1))), (2, 1, .c (.d (.i .u8 1))), (4, 1, .c (.d (.i .u8 1))), (5, 1, .c (.d (.s ⟨#[97, 98]⟩)))], none⟩,
   ⟨(some 8), .call (.f F_objects_Do) [.t 6, .t 7], none⟩,
   ⟨(some 5), .mv (.t 8), none⟩,
   ⟨(some 9), .ext (.t 5) 0, none⟩,
   ⟨(some 10), .ext (.t 5) 1, none⟩,
   ⟨(some 1), .box (.c (.d (.agg Pk.Base.zero.cs))), none⟩,
   ⟨(some 2), .box (.c (.d (.agg [.i .u8 0, .s ⟨#[]⟩]))), none⟩,
   ⟨none, .store 39 (.t 1) (.t 9), none⟩,
   ⟨none, .store 2 (.t 2) (.t 10), none⟩] [])
 (.seq (.region (some [1, 2]) [⟨(some 12), .load true 39 (.t 1), none⟩,
   ⟨(some 13), .build [.d (.i .u8 0), .d (.i .u32 0), .d (.i .u8 0), .d (.i .u8 0), .d (.i .u8 0), .d (.s ⟨#[]⟩)] [(0, 1, .c (.d (.i .u8 2))), (1, 1, .c (.d (.i .u32 1))), (2, 1, .c (.d (.i .u8 4))), (3, 1, .c (.d (.i .u8 3)))], none⟩,
   ⟨(some 14), .call (.f F_objects_Do) [.t 12, .t 13], none⟩,
   ⟨(some 11), .mv (.t 14), none⟩,
   ⟨(some 15), .ext (.t 11) 0, none⟩,
   ⟨(some 16), .ext (.t 11) 1, none⟩,
   ⟨(some 3), .box (.c (.d (.agg Pk.Base.zero.cs))), none⟩,
   ⟨(some 4), .box (.c (.d (.agg [.i .u8 0, .s ⟨#[]⟩]))), none⟩,
   ⟨none, .store 39 (.t 3) (.t 15), none⟩,
   ⟨none, .store 2 (.t 4) (.t 16), none⟩] [])
 (.seq (.region (some [1, 2, 4]) [⟨(some 17), .faddr 0 (.t 2), none⟩,
   ⟨(some 18), .load false 1 (.t 17), none⟩,
   ⟨(some 19), .bin .eql (.t 18) (.c (.d (.i .u8 0))), none⟩,
   ⟨(some 20), .mv (.t 19), none⟩,
   ⟨(some 21), .faddr 0 (.t 1), some (20, true)⟩,
   ⟨(some 22), .iaddrA 6 5 (.t 21) (.c (.d (.i .i64 0))), some (20, true)⟩,
   ⟨(some 23), .faddr 0 (.t 22), some (20, true)⟩,
   ⟨(some 24), .load false 1 (.t 23), some (20, true)⟩,
   ⟨(some 25), .pick (.t 20) (.t 24) (.c (.d (.b false))), none⟩,
   ⟨(some 26), .mv (.t 25), none⟩,
   ⟨(some 27), .faddr 0 (.t 1), some (26, true)⟩,
   ⟨(some 28), .iaddrA 6 5 (.t 27) (.c (.d (.i .i64 0))), some (26, true)⟩,
   ⟨(some 29), .faddr 1 (.t 28), some (26, true)⟩,
   ⟨(some 30), .load false 1 (.t 29), some (26, true)⟩,
   ⟨(some 31), .bin .eql (.t 30) (.c (.d (.s ⟨#[0, 97, 98]⟩))), some (26, true)⟩,
   ⟨(some 32), .pick (.t 26) (.t 31) (.c (.d (.b false))), none⟩,
   ⟨(some 33), .mv (.t 32), none⟩,
   ⟨(some 34), .faddr 30 (.t 1), some (33, true)⟩,
   ⟨(some 35), .iaddrA 3 3 (.t 34) (.c (.d (.i .i64 0))), some (33, true)⟩,
   ⟨(some 36), .faddr 0 (.t 35), some (33, true)⟩,
   ⟨(some 37), .load false 1 (.t 36), some (33, true)⟩,
   ⟨(some 38), .bin .eql (.t 37) (.c (.d (.i .u32 1))), some (33, true)⟩,
   ⟨(some 39), .pick (.t 33) (.t 38) (.c (.d (.b false))), none⟩,
   ⟨(some 40), .mv (.t 39), none⟩,
   ⟨(some 41), .faddr 0 (.t 4), some (40, true)⟩,
   ⟨(some 42), .load false 1 (.t 41), some (40, true)⟩,
   ⟨(some 43), .bin .eql (.t 42) (.c (.d (.i .u8 1))), some (40, true)⟩,
   ⟨(some 44), .pick (.t 40) (.t 43) (.c (.d (.b false))), none⟩,
   ⟨(some 0), .mv (.t 44), none⟩] [])
 (.ret))))
def a_paddocklaw6_known : AFn := .code 0 c_paddocklaw6_known [.tmp 0]
set_option maxRecDepth 100000 in
theorem k_paddocklaw6_known : compF Tryd.prog h_paddocklaw6_known F_paddocklaw6_known = some a_paddocklaw6_known := by kernel_rfl

/-- paddock/paddocklaw6.big -/
def h_paddocklaw6_big : Hints := { kp := [(0, [0]), (1, [1]), (2, [1, 3]), (4, [1, 3]), (5, [1, 3, 4]), (6, [1, 3, 4, 5]), (8, [1, 3, 4, 5]), (7, [1, 3, 4, 5]), (9, [1, 3, 4]), (10, []), (3, [1, 3]), (11, [])], lkp := [(2, [1, 3]), (6, [1, 3, 4, 5])], lth := [] }
def K_paddocklaw6_big_0 : Option (List Nat) := (some [1, 3, 4, 5])
def l_paddocklaw6_big_0 : ACode :=
 .seq (.seq (.region (some [1, 3, 4, 5]) [⟨(some 16), .mv (.t 5), none⟩,
   ⟨(some 17), .bin .lss (.t 16) (.c (.d (.i .i64 3))), none⟩] [])
 (.cond (.t 17) (.skip) (.exit 2)))
 (.seq (.block 3 (.region (some [1, 3, 4, 5]) [⟨(some 20), .mv (.t 4), none⟩,
    ⟨(some 21), .mv (.t 3), none⟩,
    ⟨(some 22), .mv (.t 5), none⟩,
    ⟨(some 23), .faddr 0 (.t 1), none⟩,
    ⟨(some 24), .iaddrA 6 5 (.t 23) (.t 21), none⟩,
    ⟨(some 25), .faddr 2 (.t 24), none⟩,
    ⟨(some 26), .iaddrA 3 1 (.t 25) (.t 22), none⟩,
    ⟨(some 27), .load false 1 (.t 26), none⟩,
    ⟨(some 28), .len true (.t 27), none⟩,
    ⟨(some 29), .bin .add (.t 20) (.t 28), none⟩,
    ⟨(some 4), .mv (.t 29), none⟩] []))
 (.region (some [1, 3, 4, 5]) [⟨(some 18), .mv (.t 5), none⟩,
   ⟨(some 19), .bin .add (.t 18) (.c (.d (.i .i64 1))), none⟩,
   ⟨(some 5), .mv (.t 19), none⟩] []))
def K_paddocklaw6_big_1 : Option (List Nat) := (some [1, 3])
def l_paddocklaw6_big_1 : ACode :=
 .seq (.seq (.region (some [1, 3]) [⟨(some 6), .mv (.t 3), none⟩,
   ⟨(some 7), .bin .lss (.t 6) (.c (.d (.i .i64 6))), none⟩] [])
 (.cond (.t 7) (.skip) (.exit 0)))
 (.seq (.block 1 (.seq (.region (some [1, 3]) [⟨(some 10), .mv (.t 3), none⟩,
    ⟨(some 11), .faddr 0 (.t 1), none⟩,
    ⟨(some 12), .iaddrA 6 5 (.t 11) (.t 10), none⟩,
    ⟨(some 13), .faddr 1 (.t 12), none⟩,
    ⟨(some 14), .load false 1 (.t 13), none⟩,
    ⟨(some 15), .len true (.t 14), none⟩,
    ⟨(some 4), .mv (.t 15), none⟩] [])
  (.seq (.seq (.region (some [1, 3, 4]) [⟨(some 5), .mv (.c (.d (.i .i64 0))), none⟩] [])
  (.block 2 (.loop K_paddocklaw6_big_0 [] l_paddocklaw6_big_0)))
  (.seq (.region (some [1, 3, 4]) [⟨(some 30), .mv (.t 4), none⟩,
    ⟨(some 31), .bin .gtr (.t 30) (.c (.d (.i .i64 300))), none⟩] [])
  (.cond (.t 31) (.seq (.region (some []) [⟨(some 2), .mv (.c (.d (.b true))), none⟩] [])
   (.ret)) (.skip))))))
 (.region (some [1, 3]) [⟨(some 8), .mv (.t 3), none⟩,
   ⟨(some 9), .bin .add (.t 8) (.c (.d (.i .i64 1))), none⟩,
   ⟨(some 3), .mv (.t 9), none⟩] []))
def c_paddocklaw6_big : ACode :=
 .seq (.region (some [0]) [⟨(some 1), .box (.t 0), none⟩,
   ⟨(some 2), .mv (.c (.d (.b false))), none⟩] [])
 (.seq (.seq (.region (some [1]) [⟨(some 3), .mv (.c (.d (.i .i64 0))), none⟩] [])
 (.block 0 (.loop K_paddocklaw6_big_1 [] l_paddocklaw6_big_1)))
 (.seq (.region (some []) [⟨(some 2), .mv (.c (.d (.b false))), none⟩] [])
 (.ret)))
def a_paddocklaw6_big : AFn := .code 1 c_paddocklaw6_big [.tmp 2]
set_option maxRecDepth 100000 in
theorem k_paddocklaw6_big : compF Tryd.prog h_paddocklaw6_big F_paddocklaw6_big = some a_paddocklaw6_big := by kernel_rfl

/-- paddock/objects.Do -/
def h_objects_Do : Hints := { kp := [(0, [0, 1]), (1, [2, 3, 4, 5]), (2, [2, 4, 5]), (3, [2, 3, 4, 5]), (4, [2, 3, 4, 5, 6, 7]), (5, [2, 4, 5, 6]), (6, [2, 3, 4, 5]), (7, [2, 3, 4, 5, 8]), (8, [2, 3, 4, 5, 8, 9]), (9, [2, 3, 4, 5, 9]), (10, [2, 4, 5, 9])], lkp := [], lth := [] }
def c_objects_Do : ACode :=
 .seq (.region (some [0, 1]) [⟨(some 2), .box (.t 0), none⟩,
   ⟨(some 3), .box (.t 1), none⟩,
   ⟨(some 4), .box (.c (.d (.agg Pk.Base.zero.cs))), none⟩,
   ⟨(some 5), .box (.c (.d (.agg [.i .u8 0, .s ⟨#[]⟩]))), none⟩] [])
 (.seq (.seq (.region (some [2, 3, 4, 5]) [⟨(some 10), .load true 6 (.t 3), none⟩,
   ⟨(some 11), .call (.f F_objects_Writes) [.t 10], none⟩,
   ⟨(some 12), .un .not (.t 11), none⟩] [])
 (.cond (.t 12) (.seq (.region (some [2, 4, 5]) [⟨(some 13), .load true 39 (.t 2), none⟩,
    ⟨(some 14), .build [.d (.i .u8 0), .d (.s ⟨#[]⟩)] [(0, 1, .c (.d (.i .u8 3)))], none⟩,
    ⟨none, .store 39 (.t 4) (.t 13), none⟩,
    ⟨none, .store 2 (.t 5) (.t 14), none⟩] [])
  (.ret)) (.skip)))
 (.seq (.seq (.region (some [2, 3, 4, 5]) [⟨(some 16), .load true 39 (.t 2), none⟩,
   ⟨(some 17), .load true 6 (.t 3), none⟩,
   ⟨(some 18), .call (.f F_objects_Seen) [.t 16, .t 17], none⟩,
   ⟨(some 15), .mv (.t 18), none⟩,
   ⟨(some 19), .ext (.t 15) 0, none⟩,
   ⟨(some 20), .ext (.t 15) 1, none⟩,
   ⟨(some 6), .box (.c (.d (.agg [.i .u8 0, .s ⟨#[]⟩]))), none⟩,
   ⟨none, .store 2 (.t 6) (.t 19), none⟩,
   ⟨(some 7), .mv (.t 20), none⟩] [])
 (.seq (.region (some [2, 3, 4, 5, 6, 7]) [⟨(some 21), .mv (.t 7), none⟩] [])
 (.cond (.t 21) (.seq (.region (some [2, 4, 5, 6]) [⟨(some 22), .load true 39 (.t 2), none⟩,
    ⟨(some 23), .load true 2 (.t 6), none⟩,
    ⟨none, .store 39 (.t 4) (.t 22), none⟩,
    ⟨none, .store 2 (.t 5) (.t 23), none⟩] [(0, 1), (1, 2)])
  (.ret)) (.skip))))
 (.seq (.region (some [2, 3, 4, 5]) [⟨(some 24), .faddr 3 (.t 3), none⟩,
   ⟨(some 25), .load false 1 (.t 24), none⟩,
   ⟨(some 26), .faddr 0 (.t 2), none⟩,
   ⟨(some 27), .iaddrA 6 5 (.t 26) (.t 25), none⟩,
   ⟨(some 28), .load true 5 (.t 27), none⟩,
   ⟨(some 29), .build [.d (.b false), .d (.s ⟨#[]⟩), .d (.s ⟨#[]⟩), .d (.s ⟨#[]⟩), .d (.s ⟨#[]⟩)] [(0, 5, .t 28)], none⟩,
   ⟨(some 30), .box (.t 29), none⟩,
   ⟨(some 8), .mv (.t 30), none⟩] [])
 (.seq (.region (some [2, 3, 4, 5, 8]) [⟨(some 31), .faddr 2 (.t 3), none⟩,
   ⟨(some 32), .load false 1 (.t 31), none⟩,
   ⟨(some 33), .call (.f F_objects_does) [.t 32], none⟩,
   ⟨(some 34), .mv (.t 8), none⟩,
   ⟨(some 35), .load true 6 (.t 3), none⟩,
   ⟨(some 36), .call (.t 33) [.t 34, .t 35], none⟩,
   ⟨(some 37), .build [.d (.i .u8 0), .d (.s ⟨#[]⟩)] [(0, 1, .t 36)], none⟩,
   ⟨(some 9), .box (.c (.d (.agg [.i .u8 0, .s ⟨#[]⟩]))), none⟩,
   ⟨none, .store 2 (.t 9) (.t 37), none⟩] [(1, 4), (2, 4), (1, 7), (2, 7), (4, 7), (5, 7)])
 (.seq (.region (some [2, 3, 4, 5, 8, 9]) [⟨(some 38), .faddr 3 (.t 3), none⟩,
   ⟨(some 39), .load false 1 (.t 38), none⟩,
   ⟨(some 40), .mv (.t 8), none⟩,
   ⟨(some 41), .nilck (.t 40), none⟩,
   ⟨(some 42), .faddr 0 (.t 41), none⟩,
   ⟨(some 43), .load true 5 (.t 42), none⟩,
   ⟨(some 44), .faddr 0 (.t 2), none⟩,
   ⟨(some 45), .iaddrA 6 5 (.t 44) (.t 39), none⟩,
   ⟨none, .store 5 (.t 45) (.t 43), none⟩] [(1, 5)])
 (.seq (.region (some [2, 3, 4, 5, 9]) [⟨(some 46), .faddr 0 (.t 3), none⟩,
   ⟨(some 47), .load false 1 (.t 46), none⟩,
   ⟨(some 48), .bin .sub (.t 47) (.c (.d (.i .u8 1))), none⟩,
   ⟨(some 49), .faddr 1 (.t 3), none⟩,
   ⟨(some 50), .load false 1 (.t 49), none⟩,
   ⟨(some 51), .load true 2 (.t 9), none⟩,
   ⟨(some 52), .build [.d (.i .u32 0), .d (.i .u8 0), .d (.s ⟨#[]⟩)] [(0, 1, .t 50), (1, 2, .t 51)], none⟩,
   ⟨(some 53), .faddr 30 (.t 2), none⟩,
   ⟨(some 54), .iaddrA 3 3 (.t 53) (.t 48), none⟩,
   ⟨none, .store 3 (.t 54) (.t 52), none⟩] [])
 (.seq (.region (some [2, 4, 5, 9]) [⟨(some 55), .load true 39 (.t 2), none⟩,
   ⟨(some 56), .load true 2 (.t 9), none⟩,
   ⟨none, .store 39 (.t 4) (.t 55), none⟩,
   ⟨none, .store 2 (.t 5) (.t 56), none⟩] [(0, 1), (1, 2)])
 (.ret))))))))
def a_objects_Do : AFn := .code 2 c_objects_Do [.cell true 39 4, .cell true 2 5]
set_option maxRecDepth 100000 in
theorem k_objects_Do : compF Tryd.prog h_objects_Do F_objects_Do = some a_objects_Do := by kernel_rfl

/-- paddock/paddockref6.Do -/
def h_paddockref6_Do : Hints := { kp := [(0, [0, 1]), (1, [2, 3, 4, 5]), (2, [2, 4, 5]), (3, [2, 3, 4, 5]), (4, [2, 3, 4, 5, 6, 7]), (5, [2, 4, 5, 6]), (6, [2, 3, 4, 5]), (7, [2, 3, 4, 5, 8, 9]), (8, [2, 3, 4, 5, 9]), (9, [2, 4, 5, 9])], lkp := [], lth := [] }
def c_paddockref6_Do : ACode :=
 .seq (.region (some [0, 1]) [⟨(some 2), .box (.t 0), none⟩,
   ⟨(some 3), .box (.t 1), none⟩,
   ⟨(some 4), .box (.c (.d (.agg Pk.Base.zero.cs))), none⟩,
   ⟨(some 5), .box (.c (.d (.agg [.i .u8 0, .s ⟨#[]⟩]))), none⟩] [])
 (.seq (.seq (.region (some [2, 3, 4, 5]) [⟨(some 10), .load true 6 (.t 3), none⟩,
   ⟨(some 11), .call (.f F_paddockref6_Writes) [.t 10], none⟩,
   ⟨(some 12), .un .not (.t 11), none⟩] [])
 (.cond (.t 12) (.seq (.region (some [2, 4, 5]) [⟨(some 13), .load true 39 (.t 2), none⟩,
    ⟨(some 14), .build [.d (.i .u8 0), .d (.s ⟨#[]⟩)] [(0, 1, .c (.d (.i .u8 3)))], none⟩,
    ⟨none, .store 39 (.t 4) (.t 13), none⟩,
    ⟨none, .store 2 (.t 5) (.t 14), none⟩] [])
  (.ret)) (.skip)))
 (.seq (.region (some [2, 3, 4, 5]) [⟨(some 16), .load true 39 (.t 2), none⟩,
   ⟨(some 17), .load true 6 (.t 3), none⟩,
   ⟨(some 18), .call (.f F_paddockref6_Seen) [.t 16, .t 17], none⟩,
   ⟨(some 15), .mv (.t 18), none⟩,
   ⟨(some 19), .ext (.t 15) 0, none⟩,
   ⟨(some 20), .ext (.t 15) 1, none⟩,
   ⟨(some 6), .box (.c (.d (.agg [.i .u8 0, .s ⟨#[]⟩]))), none⟩,
   ⟨none, .store 2 (.t 6) (.t 19), none⟩,
   ⟨(some 7), .mv (.t 20), none⟩] [])
 (.seq (.seq (.region (some [2, 3, 4, 5, 6, 7]) [⟨(some 21), .mv (.t 7), none⟩] [])
 (.cond (.t 21) (.seq (.region (some [2, 4, 5, 6]) [⟨(some 22), .load true 39 (.t 2), none⟩,
    ⟨(some 23), .load true 2 (.t 6), none⟩,
    ⟨none, .store 39 (.t 4) (.t 22), none⟩,
    ⟨none, .store 2 (.t 5) (.t 23), none⟩] [(0, 1), (1, 2)])
  (.ret)) (.skip)))
 (.seq (.region (some [2, 3, 4, 5]) [⟨(some 25), .faddr 3 (.t 3), none⟩,
   ⟨(some 26), .load false 1 (.t 25), none⟩,
   ⟨(some 27), .faddr 0 (.t 2), none⟩,
   ⟨(some 28), .iaddrA 6 5 (.t 27) (.t 26), none⟩,
   ⟨(some 29), .load true 5 (.t 28), none⟩,
   ⟨(some 30), .load true 6 (.t 3), none⟩,
   ⟨(some 31), .call (.f F_paddockref6_change) [.t 29, .t 30], none⟩,
   ⟨(some 24), .mv (.t 31), none⟩,
   ⟨(some 32), .ext (.t 24) 0, none⟩,
   ⟨(some 33), .ext (.t 24) 1, none⟩,
   ⟨(some 8), .box (.c (.d (.agg [.b false, .s ⟨#[]⟩, .s ⟨#[]⟩, .s ⟨#[]⟩, .s ⟨#[]⟩]))), none⟩,
   ⟨none, .store 5 (.t 8) (.t 32), none⟩,
   ⟨(some 9), .mv (.t 33), none⟩] [(1, 5), (4, 5), (1, 10), (4, 10), (5, 10), (6, 10)])
 (.seq (.region (some [2, 3, 4, 5, 8, 9]) [⟨(some 34), .faddr 3 (.t 3), none⟩,
   ⟨(some 35), .load false 1 (.t 34), none⟩,
   ⟨(some 36), .load true 5 (.t 8), none⟩,
   ⟨(some 37), .faddr 0 (.t 2), none⟩,
   ⟨(some 38), .iaddrA 6 5 (.t 37) (.t 35), none⟩,
   ⟨none, .store 5 (.t 38) (.t 36), none⟩] [])
 (.seq (.region (some [2, 3, 4, 5, 9]) [⟨(some 39), .faddr 0 (.t 3), none⟩,
   ⟨(some 40), .load false 1 (.t 39), none⟩,
   ⟨(some 41), .bin .sub (.t 40) (.c (.d (.i .u8 1))), none⟩,
   ⟨(some 42), .faddr 1 (.t 3), none⟩,
   ⟨(some 43), .load false 1 (.t 42), none⟩,
   ⟨(some 44), .mv (.t 9), none⟩,
   ⟨(some 45), .build [.d (.i .u8 0), .d (.s ⟨#[]⟩)] [(0, 1, .t 44)], none⟩,
   ⟨(some 46), .build [.d (.i .u32 0), .d (.i .u8 0), .d (.s ⟨#[]⟩)] [(0, 1, .t 43), (1, 2, .t 45)], none⟩,
   ⟨(some 47), .faddr 30 (.t 2), none⟩,
   ⟨(some 48), .iaddrA 3 3 (.t 47) (.t 41), none⟩,
   ⟨none, .store 3 (.t 48) (.t 46), none⟩] [])
 (.seq (.region (some [2, 4, 5, 9]) [⟨(some 49), .load true 39 (.t 2), none⟩,
   ⟨(some 50), .mv (.t 9), none⟩,
   ⟨(some 51), .build [.d (.i .u8 0), .d (.s ⟨#[]⟩)] [(0, 1, .t 50)], none⟩,
   ⟨none, .store 39 (.t 4) (.t 49), none⟩,
   ⟨none, .store 2 (.t 5) (.t 51), none⟩] [])
 (.ret))))))))
def a_paddockref6_Do : AFn := .code 2 c_paddockref6_Do [.cell true 39 4, .cell true 2 5]
set_option maxRecDepth 100000 in
theorem k_paddockref6_Do : compF Tryd.prog h_paddockref6_Do F_paddockref6_Do = some a_paddockref6_Do := by kernel_rfl

/-- paddock/objects.Seen -/
def h_objects_Seen : Hints := { kp := [(0, [0, 1]), (1, [2, 3, 4]), (2, [4]), (3, [2, 3, 4]), (4, [3, 4, 6]), (5, [4, 6]), (6, [4])], lkp := [], lth := [] }
def c_objects_Seen : ACode :=
 .seq (.region (some [0, 1]) [⟨(some 2), .box (.t 0), none⟩,
   ⟨(some 3), .box (.t 1), none⟩,
   ⟨(some 4), .box (.c (.d (.agg [.i .u8 0, .s ⟨#[]⟩]))), none⟩,
   ⟨(some 5), .mv (.c (.d (.b false))), none⟩] [])
 (.seq (.seq (.region (some [2, 3, 4]) [⟨(some 7), .load true 6 (.t 3), none⟩,
   ⟨(some 8), .call (.f F_objects_Writes) [.t 7], none⟩,
   ⟨(some 9), .un .not (.t 8), none⟩,
   ⟨(some 10), .mv (.t 9), none⟩,
   ⟨(some 11), .faddr 0 (.t 3), some (10, false)⟩,
   ⟨(some 12), .load false 1 (.t 11), some (10, false)⟩,
   ⟨(some 13), .bin .sub (.t 12) (.c (.d (.i .u8 1))), some (10, false)⟩,
   ⟨(some 14), .faddr 30 (.t 2), some (10, false)⟩,
   ⟨(some 15), .iaddrA 3 3 (.t 14) (.t 13), some (10, false)⟩,
   ⟨(some 16), .faddr 0 (.t 15), some (10, false)⟩,
   ⟨(some 17), .load false 1 (.t 16), some (10, false)⟩,
   ⟨(some 18), .faddr 1 (.t 3), some (10, false)⟩,
   ⟨(some 19), .load false 1 (.t 18), some (10, false)⟩,
   ⟨(some 20), .bin .lss (.t 17) (.t 19), some (10, false)⟩,
   ⟨(some 21), .pick (.t 10) (.c (.d (.b true))) (.t 20), none⟩] [(5, 12), (10, 12)])
 (.cond (.t 21) (.seq (.region (some [4]) [⟨(some 22), .build [.d (.i .u8 0), .d (.s ⟨#[]⟩)] [], none⟩,
    ⟨none, .store 2 (.t 4) (.t 22), none⟩,
    ⟨(some 5), .mv (.c (.d (.b false))), none⟩] [])
  (.ret)) (.skip)))
 (.seq (.seq (.region (some [2, 3, 4]) [⟨(some 23), .faddr 0 (.t 3), none⟩,
   ⟨(some 24), .load false 1 (.t 23), none⟩,
   ⟨(some 25), .bin .sub (.t 24) (.c (.d (.i .u8 1))), none⟩,
   ⟨(some 26), .faddr 30 (.t 2), none⟩,
   ⟨(some 27), .iaddrA 3 3 (.t 26) (.t 25), none⟩,
   ⟨(some 28), .load true 3 (.t 27), none⟩,
   ⟨(some 6), .box (.c (.d (.agg [.i .u32 0, .i .u8 0, .s ⟨#[]⟩]))), none⟩,
   ⟨none, .store 3 (.t 6) (.t 28), none⟩] [])
 (.seq (.region (some [3, 4, 6]) [⟨(some 29), .faddr 0 (.t 6), none⟩,
   ⟨(some 30), .load false 1 (.t 29), none⟩,
   ⟨(some 31), .faddr 1 (.t 3), none⟩,
   ⟨(some 32), .load false 1 (.t 31), none⟩,
   ⟨(some 33), .bin .eql (.t 30) (.t 32), none⟩] [])
 (.cond (.t 33) (.seq (.region (some [4, 6]) [⟨(some 34), .faddr 1 (.t 6), none⟩,
    ⟨(some 35), .load true 2 (.t 34), none⟩,
    ⟨none, .store 2 (.t 4) (.t 35), none⟩,
    ⟨(some 5), .mv (.c (.d (.b true))), none⟩] [])
  (.ret)) (.skip))))
 (.seq (.region (some [4]) [⟨(some 36), .build [.d (.i .u8 0), .d (.s ⟨#[]⟩)] [(0, 1, .c (.d (.i .u8 3)))], none⟩,
   ⟨none, .store 2 (.t 4) (.t 36), none⟩,
   ⟨(some 5), .mv (.c (.d (.b true))), none⟩] [])
 (.ret))))
def a_objects_Seen : AFn := .code 2 c_objects_Seen [.cell true 2 4, .tmp 5]
set_option maxRecDepth 100000 in
theorem k_objects_Seen : compF Tryd.prog h_objects_Seen F_objects_Seen = some a_objects_Seen := by kernel_rfl

/-- paddock/paddockref6.Seen -/
def h_paddockref6_Seen : Hints := { kp := [(0, [0, 1]), (1, [2, 3, 4]), (2, [4]), (3, [2, 3, 4]), (4, [3, 4, 6]), (6, [3, 4, 6]), (7, [4, 6]), (5, [4]), (8, [4])], lkp := [], lth := [] }
def c_paddockref6_Seen : ACode :=
 .seq (.region (some [0, 1]) [⟨(some 2), .box (.t 0), none⟩,
   ⟨(some 3), .box (.t 1), none⟩,
   ⟨(some 4), .box (.c (.d (.agg [.i .u8 0, .s ⟨#[]⟩]))), none⟩,
   ⟨(some 5), .mv (.c (.d (.b false))), none⟩] [])
 (.seq (.seq (.region (some [2, 3, 4]) [⟨(some 7), .load true 6 (.t 3), none⟩,
   ⟨(some 8), .call (.f F_paddockref6_Writes) [.t 7], none⟩,
   ⟨(some 9), .un .not (.t 8), none⟩] [])
 (.cond (.t 9) (.seq (.region (some [4]) [⟨(some 10), .build [.d (.i .u8 0), .d (.s ⟨#[]⟩)] [], none⟩,
    ⟨none, .store 2 (.t 4) (.t 10), none⟩,
    ⟨(some 5), .mv (.c (.d (.b false))), none⟩] [])
  (.ret)) (.skip)))
 (.seq (.region (some [2, 3, 4]) [⟨(some 11), .faddr 0 (.t 3), none⟩,
   ⟨(some 12), .load false 1 (.t 11), none⟩,
   ⟨(some 13), .bin .sub (.t 12) (.c (.d (.i .u8 1))), none⟩,
   ⟨(some 14), .faddr 30 (.t 2), none⟩,
   ⟨(some 15), .iaddrA 3 3 (.t 14) (.t 13), none⟩,
   ⟨(some 16), .load true 3 (.t 15), none⟩,
   ⟨(some 6), .box (.c (.d (.agg [.i .u32 0, .i .u8 0, .s ⟨#[]⟩]))), none⟩,
   ⟨none, .store 3 (.t 6) (.t 16), none⟩] [])
 (.seq (.block 0 (.seq (.region (some [3, 4, 6]) [⟨(some 18), .faddr 0 (.t 6), none⟩,
    ⟨(some 19), .load false 1 (.t 18), none⟩,
    ⟨(some 20), .faddr 1 (.t 3), none⟩,
    ⟨(some 21), .load false 1 (.t 20), none⟩,
    ⟨(some 22), .bin .lss (.t 19) (.t 21), none⟩,
    ⟨(some 17), .mv (.t 22), none⟩] [])
  (.cond (.t 17) (.seq (.region (some [4]) [⟨(some 23), .build [.d (.i .u8 0), .d (.s ⟨#[]⟩)] [], none⟩,
     ⟨none, .store 2 (.t 4) (.t 23), none⟩,
     ⟨(some 5), .mv (.c (.d (.b false))), none⟩] [])
   (.ret)) (.seq (.region (some [3, 4, 6]) [⟨(some 25), .faddr 0 (.t 6), none⟩,
     ⟨(some 26), .load false 1 (.t 25), none⟩,
     ⟨(some 27), .faddr 1 (.t 3), none⟩,
     ⟨(some 28), .load false 1 (.t 27), none⟩,
     ⟨(some 29), .bin .eql (.t 26) (.t 28), none⟩,
     ⟨(some 24), .mv (.t 29), none⟩] [])
   (.cond (.t 24) (.seq (.region (some [4, 6]) [⟨(some 30), .faddr 1 (.t 6), none⟩,
      ⟨(some 31), .load true 2 (.t 30), none⟩,
      ⟨none, .store 2 (.t 4) (.t 31), none⟩,
      ⟨(some 5), .mv (.c (.d (.b true))), none⟩] [])
    (.ret)) (.skip))))))
 (.seq (.region (some [4]) [⟨(some 32), .build [.d (.i .u8 0), .d (.s ⟨#[]⟩)] [(0, 1, .c (.d (.i .u8 3)))], none⟩,
   ⟨none, .store 2 (.t 4) (.t 32), none⟩,
   ⟨(some 5), .mv (.c (.d (.b true))), none⟩] [])
 (.ret)))))
def a_paddockref6_Seen : AFn := .code 2 c_paddockref6_Seen [.cell true 2 4, .tmp 5]
set_option maxRecDepth 100000 in
theorem k_paddockref6_Seen : compF Tryd.prog h_paddockref6_Seen F_paddockref6_Seen = some a_paddockref6_Seen := by kernel_rfl

/-- paddock/objects.IsOp -/
def h_objects_IsOp : Hints := { kp := [(0, [0]), (1, [1]), (2, []), (3, [1]), (4, [1, 28]), (5, [1, 28]), (7, [1, 28]), (8, [1]), (6, []), (9, [1])], lkp := [], lth := [] }
def c_objects_IsOp : ACode :=
 .seq (.region (some [0]) [⟨(some 1), .box (.t 0), none⟩,
   ⟨(some 2), .mv (.c (.d (.b false))), none⟩] [])
 (.seq (.seq (.region (some [1]) [⟨(some 3), .faddr 0 (.t 1), none⟩,
   ⟨(some 4), .load false 1 (.t 3), none⟩,
   ⟨(some 5), .bin .lss (.t 4) (.c (.d (.i .u8 1))), none⟩,
   ⟨(some 6), .mv (.t 5), none⟩,
   ⟨(some 7), .faddr 0 (.t 1), some (6, false)⟩,
   ⟨(some 8), .load false 1 (.t 7), some (6, false)⟩,
   ⟨(some 9), .bin .gtr (.t 8) (.c (.d (.i .u8 3))), some (6, false)⟩,
   ⟨(some 10), .pick (.t 6) (.c (.d (.b true))) (.t 9), none⟩,
   ⟨(some 11), .mv (.t 10), none⟩,
   ⟨(some 12), .faddr 1 (.t 1), some (11, false)⟩,
   ⟨(some 13), .load false 1 (.t 12), some (11, false)⟩,
   ⟨(some 14), .bin .eql (.t 13) (.c (.d (.i .u32 0))), some (11, false)⟩,
   ⟨(some 15), .pick (.t 11) (.c (.d (.b true))) (.t 14), none⟩,
   ⟨(some 16), .mv (.t 15), none⟩,
   ⟨(some 17), .faddr 3 (.t 1), some (16, false)⟩,
   ⟨(some 18), .load false 1 (.t 17), some (16, false)⟩,
   ⟨(some 19), .bin .geq (.t 18) (.c (.d (.i .u8 6))), some (16, false)⟩,
   ⟨(some 20), .pick (.t 16) (.c (.d (.b true))) (.t 19), none⟩,
   ⟨(some 21), .mv (.t 20), none⟩,
   ⟨(some 22), .faddr 5 (.t 1), some (21, false)⟩,
   ⟨(some 23), .load false 1 (.t 22), some (21, false)⟩,
   ⟨(some 24), .len true (.t 23), some (21, false)⟩,
   ⟨(some 25), .bin .gtr (.t 24) (.c (.d (.i .i64 16))), some (21, false)⟩,
   ⟨(some 26), .pick (.t 21) (.c (.d (.b true))) (.t 25), none⟩] [])
 (.cond (.t 26) (.seq (.region (some []) [⟨(some 2), .mv (.c (.d (.b false))), none⟩] [])
  (.ret)) (.skip)))
 (.seq (.seq (.region (some [1]) [⟨(some 27), .faddr 2 (.t 1), none⟩,
   ⟨(some 28), .load false 1 (.t 27), none⟩] [])
 (.block 0 (.seq (.seq (.region (some [1, 28]) [⟨(some 30), .bin .eql (.t 28) (.c (.d (.i .u8 1))), none⟩,
    ⟨(some 29), .mv (.t 30), none⟩] [])
  (.cond (.t 29) (.skip) (.region (some [1, 28]) [⟨(some 31), .bin .eql (.t 28) (.c (.d (.i .u8 3))), none⟩,
     ⟨(some 29), .mv (.t 31), none⟩] [])))
  (.cond (.t 29) (.seq (.region (some []) [⟨(some 2), .mv (.c (.d (.b true))), none⟩] [])
   (.ret)) (.seq (.region (some [1, 28]) [⟨(some 33), .bin .eql (.t 28) (.c (.d (.i .u8 2))), none⟩,
     ⟨(some 32), .mv (.t 33), none⟩] [])
   (.cond (.t 32) (.seq (.region (some [1]) [⟨(some 34), .faddr 5 (.t 1), none⟩,
      ⟨(some 35), .load false 1 (.t 34), none⟩,
      ⟨(some 36), .bin .eql (.t 35) (.c (.d (.s ⟨#[]⟩))), none⟩,
      ⟨(some 2), .mv (.t 36), none⟩] [])
    (.ret)) (.skip)))))))
 (.seq (.region (some [1]) [⟨(some 37), .faddr 2 (.t 1), none⟩,
   ⟨(some 38), .load false 1 (.t 37), none⟩,
   ⟨(some 39), .bin .eql (.t 38) (.c (.d (.i .u8 4))), none⟩,
   ⟨(some 40), .mv (.t 39), none⟩,
   ⟨(some 41), .faddr 2 (.t 1), some (40, false)⟩,
   ⟨(some 42), .load false 1 (.t 41), some (40, false)⟩,
   ⟨(some 43), .bin .eql (.t 42) (.c (.d (.i .u8 5))), some (40, false)⟩,
   ⟨(some 44), .pick (.t 40) (.c (.d (.b true))) (.t 43), none⟩,
   ⟨(some 45), .mv (.t 44), none⟩,
   ⟨(some 46), .load true 6 (.t 1), some (45, true)⟩,
   ⟨(some 47), .faddr 0 (.t 1), some (45, true)⟩,
   ⟨(some 48), .load false 1 (.t 47), some (45, true)⟩,
   ⟨(some 49), .faddr 1 (.t 1), some (45, true)⟩,
   ⟨(some 50), .load false 1 (.t 49), some (45, true)⟩,
   ⟨(some 51), .faddr 2 (.t 1), some (45, true)⟩,
   ⟨(some 52), .load false 1 (.t 51), some (45, true)⟩,
   ⟨(some 53), .faddr 3 (.t 1), some (45, true)⟩,
   ⟨(some 54), .load false 1 (.t 53), some (45, true)⟩,
   ⟨(some 55), .build [.d (.i .u8 0), .d (.i .u32 0), .d (.i .u8 0), .d (.i .u8 0), .d (.i .u8 0), .d (.s ⟨#[]⟩)] [(0, 1, .t 48), (1, 1, .t 50), (2, 1, .t 52), (3, 1, .t 54)], some (45, true)⟩,
   ⟨(some 56), .eq false Pk.Opr.ety (.t 46) (.t 55), some (45, true)⟩,
   ⟨(some 57), .pick (.t 45) (.t 56) (.c (.d (.b false))), none⟩,
   ⟨(some 2), .mv (.t 57), none⟩] [])
 (.ret))))
def a_objects_IsOp : AFn := .code 1 c_objects_IsOp [.tmp 2]
set_option maxRecDepth 100000 in
theorem k_objects_IsOp : compF Tryd.prog h_objects_IsOp F_objects_IsOp = some a_objects_IsOp := by kernel_rfl

/-- paddock/paddockref6.IsOp -/
def h_paddockref6_IsOp : Hints := { kp := [(0, [0]), (1, [1]), (2, []), (3, [1]), (4, []), (5, [1])], lkp := [], lth := [] }
def c_paddockref6_IsOp : ACode :=
 .seq (.region (some [0]) [⟨(some 1), .box (.t 0), none⟩,
   ⟨(some 2), .mv (.c (.d (.b false))), none⟩] [])
 (.seq (.seq (.region (some [1]) [⟨(some 3), .faddr 0 (.t 1), none⟩,
   ⟨(some 4), .load false 1 (.t 3), none⟩,
   ⟨(some 5), .bin .lss (.t 4) (.c (.d (.i .u8 1))), none⟩,
   ⟨(some 6), .mv (.t 5), none⟩,
   ⟨(some 7), .faddr 0 (.t 1), some (6, false)⟩,
   ⟨(some 8), .load false 1 (.t 7), some (6, false)⟩,
   ⟨(some 9), .bin .gtr (.t 8) (.c (.d (.i .u8 3))), some (6, false)⟩,
   ⟨(some 10), .pick (.t 6) (.c (.d (.b true))) (.t 9), none⟩,
   ⟨(some 11), .mv (.t 10), none⟩,
   ⟨(some 12), .faddr 1 (.t 1), some (11, false)⟩,
   ⟨(some 13), .load false 1 (.t 12), some (11, false)⟩,
   ⟨(some 14), .bin .lss (.t 13) (.c (.d (.i .u32 1))), some (11, false)⟩,
   ⟨(some 15), .pick (.t 11) (.c (.d (.b true))) (.t 14), none⟩,
   ⟨(some 16), .mv (.t 15), none⟩,
   ⟨(some 17), .faddr 2 (.t 1), some (16, false)⟩,
   ⟨(some 18), .load false 1 (.t 17), some (16, false)⟩,
   ⟨(some 19), .bin .lss (.t 18) (.c (.d (.i .u8 1))), some (16, false)⟩,
   ⟨(some 20), .pick (.t 16) (.c (.d (.b true))) (.t 19), none⟩,
   ⟨(some 21), .mv (.t 20), none⟩,
   ⟨(some 22), .faddr 2 (.t 1), some (21, false)⟩,
   ⟨(some 23), .load false 1 (.t 22), some (21, false)⟩,
   ⟨(some 24), .bin .gtr (.t 23) (.c (.d (.i .u8 5))), some (21, false)⟩,
   ⟨(some 25), .pick (.t 21) (.c (.d (.b true))) (.t 24), none⟩,
   ⟨(some 26), .mv (.t 25), none⟩,
   ⟨(some 27), .faddr 3 (.t 1), some (26, false)⟩,
   ⟨(some 28), .load false 1 (.t 27), some (26, false)⟩,
   ⟨(some 29), .bin .geq (.t 28) (.c (.d (.i .u8 6))), some (26, false)⟩,
   ⟨(some 30), .pick (.t 26) (.c (.d (.b true))) (.t 29), none⟩,
   ⟨(some 31), .mv (.t 30), none⟩,
   ⟨(some 32), .faddr 5 (.t 1), some (31, false)⟩,
   ⟨(some 33), .load false 1 (.t 32), some (31, false)⟩,
   ⟨(some 34), .len true (.t 33), some (31, false)⟩,
   ⟨(some 35), .bin .gtr (.t 34) (.c (.d (.i .i64 16))), some (31, false)⟩,
   ⟨(some 36), .pick (.t 31) (.c (.d (.b true))) (.t 35), none⟩] [])
 (.cond (.t 36) (.seq (.region (some []) [⟨(some 2), .mv (.c (.d (.b false))), none⟩] [])
  (.ret)) (.skip)))
 (.seq (.seq (.region (some [1]) [⟨(some 37), .faddr 2 (.t 1), none⟩,
   ⟨(some 38), .load false 1 (.t 37), none⟩,
   ⟨(some 39), .bin .neq (.t 38) (.c (.d (.i .u8 1))), none⟩,
   ⟨(some 40), .mv (.t 39), none⟩,
   ⟨(some 41), .faddr 2 (.t 1), some (40, true)⟩,
   ⟨(some 42), .load false 1 (.t 41), some (40, true)⟩,
   ⟨(some 43), .bin .neq (.t 42) (.c (.d (.i .u8 3))), some (40, true)⟩,
   ⟨(some 44), .pick (.t 40) (.t 43) (.c (.d (.b false))), none⟩,
   ⟨(some 45), .mv (.t 44), none⟩,
   ⟨(some 46), .faddr 5 (.t 1), some (45, true)⟩,
   ⟨(some 47), .load false 1 (.t 46), some (45, true)⟩,
   ⟨(some 48), .bin .neq (.t 47) (.c (.d (.s ⟨#[]⟩))), some (45, true)⟩,
   ⟨(some 49), .pick (.t 45) (.t 48) (.c (.d (.b false))), none⟩] [])
 (.cond (.t 49) (.seq (.region (some []) [⟨(some 2), .mv (.c (.d (.b false))), none⟩] [])
  (.ret)) (.skip)))
 (.seq (.region (some [1]) [⟨(some 50), .faddr 2 (.t 1), none⟩,
   ⟨(some 51), .load false 1 (.t 50), none⟩,
   ⟨(some 52), .bin .neq (.t 51) (.c (.d (.i .u8 4))), none⟩,
   ⟨(some 53), .mv (.t 52), none⟩,
   ⟨(some 54), .faddr 2 (.t 1), some (53, true)⟩,
   ⟨(some 55), .load false 1 (.t 54), some (53, true)⟩,
   ⟨(some 56), .bin .neq (.t 55) (.c (.d (.i .u8 5))), some (53, true)⟩,
   ⟨(some 57), .pick (.t 53) (.t 56) (.c (.d (.b false))), none⟩,
   ⟨(some 58), .mv (.t 57), none⟩,
   ⟨(some 59), .faddr 4 (.t 1), some (58, false)⟩,
   ⟨(some 60), .load false 1 (.t 59), some (58, false)⟩,
   ⟨(some 61), .bin .eql (.t 60) (.c (.d (.i .u8 0))), some (58, false)⟩,
   ⟨(some 62), .pick (.t 58) (.c (.d (.b true))) (.t 61), none⟩,
   ⟨(some 2), .mv (.t 62), none⟩] [])
 (.ret))))
def a_paddockref6_IsOp : AFn := .code 1 c_paddockref6_IsOp [.tmp 2]
set_option maxRecDepth 100000 in
theorem k_paddockref6_IsOp : compF Tryd.prog h_paddockref6_IsOp F_paddockref6_IsOp = some a_paddockref6_IsOp := by kernel_rfl

/-- paddock/objects.Writes -/
def h_objects_Writes : Hints := { kp := [(0, [0]), (1, [1])], lkp := [], lth := [] }
def c_objects_Writes : ACode :=
 .seq (.region (some [0]) [⟨(some 1), .box (.t 0), none⟩,
   ⟨(some 2), .mv (.c (.d (.b false))), none⟩] [])
 (.seq (.region (some [1]) [⟨(some 3), .load true 6 (.t 1), none⟩,
   ⟨(some 4), .call (.f F_objects_IsOp) [.t 3], none⟩,
   ⟨(some 5), .mv (.t 4), none⟩,
   ⟨(some 6), .faddr 2 (.t 1), some (5, true)⟩,
   ⟨(some 7), .load false 1 (.t 6), some (5, true)⟩,
   ⟨(some 8), .bin .neq (.t 7) (.c (.d (.i .u8 5))), some (5, true)⟩,
   ⟨(some 9), .pick (.t 5) (.t 8) (.c (.d (.b false))), none⟩,
   ⟨(some 2), .mv (.t 9), none⟩] [])
 (.ret))
def a_objects_Writes : AFn := .code 1 c_objects_Writes [.tmp 2]
set_option maxRecDepth 100000 in
theorem k_objects_Writes : compF Tryd.prog h_objects_Writes F_objects_Writes = some a_objects_Writes := by kernel_rfl

/-- paddock/paddockref6.Writes -/
def h_paddockref6_Writes : Hints := { kp := [(0, [0]), (1, [1])], lkp := [], lth := [] }
def c_paddockref6_Writes : ACode :=
 .seq (.region (some [0]) [⟨(some 1), .box (.t 0), none⟩,
   ⟨(some 2), .mv (.c (.d (.b false))), none⟩] [])
 (.seq (.region (some [1]) [⟨(some 3), .load true 6 (.t 1), none⟩,
   ⟨(some 4), .call (.f F_paddockref6_IsOp) [.t 3], none⟩,
   ⟨(some 5), .mv (.t 4), none⟩,
   ⟨(some 6), .faddr 2 (.t 1), some (5, true)⟩,
   ⟨(some 7), .load false 1 (.t 6), some (5, true)⟩,
   ⟨(some 8), .bin .neq (.t 7) (.c (.d (.i .u8 5))), some (5, true)⟩,
   ⟨(some 9), .pick (.t 5) (.t 8) (.c (.d (.b false))), none⟩,
   ⟨(some 2), .mv (.t 9), none⟩] [])
 (.ret))
def a_paddockref6_Writes : AFn := .code 1 c_paddockref6_Writes [.tmp 2]
set_option maxRecDepth 100000 in
theorem k_paddockref6_Writes : compF Tryd.prog h_paddockref6_Writes F_paddockref6_Writes = some a_paddockref6_Writes := by kernel_rfl

/-- paddock/objects.Read -/
def h_objects_Read : Hints := { kp := [(0, [0, 1]), (1, [2, 3, 4]), (2, [4]), (3, [2, 3, 4]), (4, [4, 5]), (5, [4]), (6, [4, 5]), (7, [4, 5, 6]), (8, [4, 6, 30, 31]), (9, [4, 6, 30, 31]), (10, [4, 6, 7, 8, 30, 31]), (11, [4, 6, 7, 8, 30, 31]), (12, [4, 6, 30, 31]), (13, [4, 6])], lkp := [(8, [4, 6, 30, 31])], lth := [] }
def K_objects_Read_0 : Option (List Nat) := (some [4, 6, 30, 31])
def l_objects_Read_0 : ACode :=
 .seq (.region (some [4, 6, 30, 31]) [⟨(some 32), .bin .lss (.t 31) (.c (.d (.i .i64 3))), none⟩] [])
 (.seq (.cond (.t 32) (.skip) (.exit 0))
 (.seq (.block 1 (.seq (.region (some [4, 6, 30, 31]) [⟨(some 33), .mv (.t 31), none⟩,
    ⟨(some 34), .idxA false 3 1 (.t 30) (.t 31), none⟩,
    ⟨(some 7), .mv (.t 33), none⟩,
    ⟨(some 8), .mv (.t 34), none⟩] [])
  (.seq (.region (some [4, 6, 7, 8, 30, 31]) [⟨(some 35), .mv (.t 8), none⟩,
    ⟨(some 36), .bin .neq (.t 35) (.c (.d (.s ⟨#[]⟩))), none⟩] [])
  (.cond (.t 36) (.region (some [4, 6, 7, 8, 30, 31]) [⟨(some 37), .mv (.t 6), none⟩,
     ⟨(some 38), .mv (.t 7), none⟩,
     ⟨(some 39), .call (.f F_strconv_Itoa) [.t 38], none⟩,
     ⟨(some 40), .bin .add (.c (.d (.s ⟨#[59]⟩))) (.t 39), none⟩,
     ⟨(some 41), .bin .add (.t 40) (.c (.d (.s ⟨#[61]⟩))), none⟩,
     ⟨(some 42), .mv (.t 8), none⟩,
     ⟨(some 43), .bin .add (.t 41) (.t 42), none⟩,
     ⟨(some 44), .bin .add (.t 37) (.t 43), none⟩,
     ⟨(some 6), .mv (.t 44), none⟩] []) (.skip)))))
 (.region (some [4, 6, 30, 31]) [⟨(some 45), .bin .add (.t 31) (.c (.d (.i .i64 1))), none⟩,
   ⟨(some 31), .mv (.t 45), none⟩] [])))
def c_objects_Read : ACode :=
 .seq (.region (some [0, 1]) [⟨(some 2), .box (.t 0), none⟩,
   ⟨(some 3), .box (.t 1), none⟩,
   ⟨(some 4), .box (.c (.d (.agg [.i .u8 0, .s ⟨#[]⟩]))), none⟩] [])
 (.seq (.seq (.region (some [2, 3, 4]) [⟨(some 9), .load true 6 (.t 3), none⟩,
   ⟨(some 10), .call (.f F_objects_IsOp) [.t 9], none⟩,
   ⟨(some 11), .un .not (.t 10), none⟩,
   ⟨(some 12), .mv (.t 11), none⟩,
   ⟨(some 13), .faddr 2 (.t 3), some (12, false)⟩,
   ⟨(some 14), .load false 1 (.t 13), some (12, false)⟩,
   ⟨(some 15), .bin .neq (.t 14) (.c (.d (.i .u8 5))), some (12, false)⟩,
   ⟨(some 16), .pick (.t 12) (.c (.d (.b true))) (.t 15), none⟩] [])
 (.cond (.t 16) (.seq (.region (some [4]) [⟨(some 17), .build [.d (.i .u8 0), .d (.s ⟨#[]⟩)] [(0, 1, .c (.d (.i .u8 3)))], none⟩,
    ⟨none, .store 2 (.t 4) (.t 17), none⟩] [])
  (.ret)) (.skip)))
 (.seq (.region (some [2, 3, 4]) [⟨(some 18), .faddr 3 (.t 3), none⟩,
   ⟨(some 19), .load false 1 (.t 18), none⟩,
   ⟨(some 20), .faddr 0 (.t 2), none⟩,
   ⟨(some 21), .iaddrA 6 5 (.t 20) (.t 19), none⟩,
   ⟨(some 22), .load true 5 (.t 21), none⟩,
   ⟨(some 5), .box (.c (.d (.agg [.b false, .s ⟨#[]⟩, .s ⟨#[]⟩, .s ⟨#[]⟩, .s ⟨#[]⟩]))), none⟩,
   ⟨none, .store 5 (.t 5) (.t 22), none⟩] [])
 (.seq (.seq (.region (some [4, 5]) [⟨(some 23), .faddr 0 (.t 5), none⟩,
   ⟨(some 24), .load false 1 (.t 23), none⟩,
   ⟨(some 25), .un .not (.t 24), none⟩] [])
 (.cond (.t 25) (.seq (.region (some [4]) [⟨(some 26), .build [.d (.i .u8 0), .d (.s ⟨#[]⟩)] [(0, 1, .c (.d (.i .u8 1)))], none⟩,
    ⟨none, .store 2 (.t 4) (.t 26), none⟩] [])
  (.ret)) (.skip)))
 (.seq (.region (some [4, 5]) [⟨(some 27), .faddr 1 (.t 5), none⟩,
   ⟨(some 28), .load false 1 (.t 27), none⟩,
   ⟨(some 6), .mv (.t 28), none⟩] [])
 (.seq (.seq (.region (some [4, 5, 6]) [⟨(some 29), .faddr 2 (.t 5), none⟩,
   ⟨(some 30), .load true 3 (.t 29), none⟩,
   ⟨(some 31), .mv (.c (.d (.i .i64 0))), none⟩] [])
 (.block 0 (.loop K_objects_Read_0 [] l_objects_Read_0)))
 (.seq (.region (some [4, 6]) [⟨(some 46), .mv (.t 6), none⟩,
   ⟨(some 47), .build [.d (.i .u8 0), .d (.s ⟨#[]⟩)] [(1, 1, .t 46)], none⟩,
   ⟨none, .store 2 (.t 4) (.t 47), none⟩] [])
 (.ret)))))))
def a_objects_Read : AFn := .code 2 c_objects_Read [.cell true 2 4]
set_option maxRecDepth 100000 in
theorem k_objects_Read : compF Tryd.prog h_objects_Read F_objects_Read = some a_objects_Read := by kernel_rfl

/-- paddock/paddockref6.Read -/
def h_paddockref6_Read : Hints := { kp := [(0, [0, 1]), (1, [2, 3, 4]), (2, [4]), (3, [2, 3, 4]), (4, [4, 5]), (5, [4]), (6, [4, 5]), (7, [4, 5, 6]), (8, [4, 5, 6, 7]), (10, [4, 5, 6, 7]), (11, [4, 5, 6, 7]), (9, [4, 5, 6, 7]), (12, [4, 6])], lkp := [(8, [4, 5, 6, 7])], lth := [] }
def K_paddockref6_Read_0 : Option (List Nat) := (some [4, 5, 6, 7])
def l_paddockref6_Read_0 : ACode :=
 .seq (.seq (.region (some [4, 5, 6, 7]) [⟨(some 28), .mv (.t 7), none⟩,
   ⟨(some 29), .bin .lss (.t 28) (.c (.d (.i .i64 3))), none⟩] [])
 (.cond (.t 29) (.skip) (.exit 0)))
 (.seq (.block 1 (.seq (.region (some [4, 5, 6, 7]) [⟨(some 32), .mv (.t 7), none⟩,
    ⟨(some 33), .faddr 2 (.t 5), none⟩,
    ⟨(some 34), .iaddrA 3 1 (.t 33) (.t 32), none⟩,
    ⟨(some 35), .load false 1 (.t 34), none⟩,
    ⟨(some 36), .bin .neq (.t 35) (.c (.d (.s ⟨#[]⟩))), none⟩] [])
  (.cond (.t 36) (.region (some [4, 5, 6, 7]) [⟨(some 37), .mv (.t 6), none⟩,
     ⟨(some 38), .bin .add (.t 37) (.c (.d (.s ⟨#[59]⟩))), none⟩,
     ⟨(some 39), .mv (.t 7), none⟩,
     ⟨(some 40), .bin .add (.c (.d (.i .i64 48))) (.t 39), none⟩,
     ⟨(some 41), .conv .u8 (.t 40), none⟩,
     ⟨(some 42), .bsl 1 [.t 41], none⟩,
     ⟨(some 43), .b2s (.t 42), none⟩,
     ⟨(some 44), .bin .add (.t 38) (.t 43), none⟩,
     ⟨(some 45), .bin .add (.t 44) (.c (.d (.s ⟨#[61]⟩))), none⟩,
     ⟨(some 46), .mv (.t 7), none⟩,
     ⟨(some 47), .faddr 2 (.t 5), none⟩,
     ⟨(some 48), .iaddrA 3 1 (.t 47) (.t 46), none⟩,
     ⟨(some 49), .load false 1 (.t 48), none⟩,
     ⟨(some 50), .bin .add (.t 45) (.t 49), none⟩,
     ⟨(some 6), .mv (.t 50), none⟩] [(5, 12), (6, 12)]) (.skip))))
 (.region (some [4, 5, 6, 7]) [⟨(some 30), .mv (.t 7), none⟩,
   ⟨(some 31), .bin .add (.t 30) (.c (.d (.i .i64 1))), none⟩,
   ⟨(some 7), .mv (.t 31), none⟩] []))
def c_paddockref6_Read : ACode :=
 .seq (.region (some [0, 1]) [⟨(some 2), .box (.t 0), none⟩,
   ⟨(some 3), .box (.t 1), none⟩,
   ⟨(some 4), .box (.c (.d (.agg [.i .u8 0, .s ⟨#[]⟩]))), none⟩] [])
 (.seq (.seq (.region (some [2, 3, 4]) [⟨(some 8), .load true 6 (.t 3), none⟩,
   ⟨(some 9), .call (.f F_paddockref6_IsOp) [.t 8], none⟩,
   ⟨(some 10), .un .not (.t 9), none⟩,
   ⟨(some 11), .mv (.t 10), none⟩,
   ⟨(some 12), .faddr 2 (.t 3), some (11, false)⟩,
   ⟨(some 13), .load false 1 (.t 12), some (11, false)⟩,
   ⟨(some 14), .bin .neq (.t 13) (.c (.d (.i .u8 5))), some (11, false)⟩,
   ⟨(some 15), .pick (.t 11) (.c (.d (.b true))) (.t 14), none⟩] [])
 (.cond (.t 15) (.seq (.region (some [4]) [⟨(some 16), .build [.d (.i .u8 0), .d (.s ⟨#[]⟩)] [(0, 1, .c (.d (.i .u8 3)))], none⟩,
    ⟨none, .store 2 (.t 4) (.t 16), none⟩] [])
  (.ret)) (.skip)))
 (.seq (.region (some [2, 3, 4]) [⟨(some 17), .faddr 3 (.t 3), none⟩,
   ⟨(some 18), .load false 1 (.t 17), none⟩,
   ⟨(some 19), .faddr 0 (.t 2), none⟩,
   ⟨(some 20), .iaddrA 6 5 (.t 19) (.t 18), none⟩,
   ⟨(some 21), .load true 5 (.t 20), none⟩,
   ⟨(some 5), .box (.c (.d (.agg [.b false, .s ⟨#[]⟩, .s ⟨#[]⟩, .s ⟨#[]⟩, .s ⟨#[]⟩]))), none⟩,
   ⟨none, .store 5 (.t 5) (.t 21), none⟩] [])
 (.seq (.seq (.region (some [4, 5]) [⟨(some 22), .faddr 0 (.t 5), none⟩,
   ⟨(some 23), .load false 1 (.t 22), none⟩,
   ⟨(some 24), .un .not (.t 23), none⟩] [])
 (.cond (.t 24) (.seq (.region (some [4]) [⟨(some 25), .build [.d (.i .u8 0), .d (.s ⟨#[]⟩)] [(0, 1, .c (.d (.i .u8 1)))], none⟩,
    ⟨none, .store 2 (.t 4) (.t 25), none⟩] [])
  (.ret)) (.skip)))
 (.seq (.region (some [4, 5]) [⟨(some 26), .faddr 1 (.t 5), none⟩,
   ⟨(some 27), .load false 1 (.t 26), none⟩,
   ⟨(some 6), .mv (.t 27), none⟩] [])
 (.seq (.seq (.region (some [4, 5, 6]) [⟨(some 7), .mv (.c (.d (.i .i64 0))), none⟩] [])
 (.block 0 (.loop K_paddockref6_Read_0 [] l_paddockref6_Read_0)))
 (.seq (.region (some [4, 6]) [⟨(some 51), .mv (.t 6), none⟩,
   ⟨(some 52), .build [.d (.i .u8 0), .d (.s ⟨#[]⟩)] [(1, 1, .t 51)], none⟩,
   ⟨none, .store 2 (.t 4) (.t 52), none⟩] [])
 (.ret)))))))
def a_paddockref6_Read : AFn := .code 2 c_paddockref6_Read [.cell true 2 4]
set_option maxRecDepth 100000 in
theorem k_paddockref6_Read : compF Tryd.prog h_paddockref6_Read F_paddockref6_Read = some a_paddockref6_Read := by kernel_rfl

/-- paddock/objects.All -/
def h_objects_All : Hints := { dat := true, kp := [(0, [0, 1]), (1, [1, 2, 4]), (2, [1, 2, 4, 6]), (3, [2, 4, 6, 11, 12, 13]), (4, [2, 4, 6, 11, 12, 13]), (5, [2, 4, 6, 8, 11, 12, 13]), (6, [2, 4, 6, 9, 10, 11, 12, 13]), (7, [2, 4, 6, 10, 11, 12, 13]), (8, [2, 4, 6, 11, 12, 13]), (9, [2, 4, 6])], lkp := [(3, [2, 4, 6, 11, 12, 13])], lth := [(3, [6, 2])] }
def K_objects_All_0 : Option (List Nat) := (some [2, 4, 6, 11, 12, 13])
def l_objects_All_0 : ACode :=
 .seq (.region (some [2, 4, 6, 11, 12, 13]) [⟨(some 14), .bin .lss (.t 13) (.t 12), none⟩] [])
 (.seq (.cond (.t 14) (.skip) (.exit 0))
 (.seq (.block 1 (.seq (.region (some [2, 4, 6, 11, 12, 13]) [⟨(some 15), .iaddrS 6 (.t 11) (.t 13), none⟩,
    ⟨(some 16), .load true 6 (.t 15), none⟩,
    ⟨(some 8), .box (.c (.d (.agg [.i .u8 0, .i .u32 0, .i .u8 0, .i .u8 0, .i .u8 0, .s ⟨#[]⟩]))), none⟩,
    ⟨none, .store 6 (.t 8) (.t 16), none⟩] [])
  (.seq (.region (some [2, 4, 6, 8, 11, 12, 13]) [⟨(some 18), .load true 39 (.t 2), none⟩,
    ⟨(some 19), .load true 6 (.t 8), none⟩,
    ⟨(some 20), .call (.f F_objects_Do) [.t 18, .t 19], none⟩,
    ⟨(some 17), .mv (.t 20), none⟩,
    ⟨(some 21), .ext (.t 17) 0, none⟩,
    ⟨(some 22), .ext (.t 17) 1, none⟩,
    ⟨(some 9), .box (.c (.d (.agg Pk.Base.zero.cs))), none⟩,
    ⟨(some 10), .box (.c (.d (.agg [.i .u8 0, .s ⟨#[]⟩]))), none⟩,
    ⟨none, .store 39 (.t 9) (.t 21), none⟩,
    ⟨none, .store 2 (.t 10) (.t 22), none⟩] [])
  (.seq (.region (some [2, 4, 6, 9, 10, 11, 12, 13]) [⟨(some 23), .load true 39 (.t 9), none⟩,
    ⟨none, .store 39 (.t 2) (.t 23), none⟩] [])
  (.region (some [2, 4, 6, 10, 11, 12, 13]) [⟨(some 24), .mv (.t 6), none⟩,
    ⟨(some 25), .load true 2 (.t 10), none⟩,
    ⟨(some 26), .bsl 2 [.t 25], none⟩,
    ⟨(some 27), .app 2 (.t 24) (.t 26), none⟩,
    ⟨(some 6), .mv (.t 27), none⟩] [])))))
 (.region (some [2, 4, 6, 11, 12, 13]) [⟨(some 28), .bin .add (.t 13) (.c (.d (.i .i64 1))), none⟩,
   ⟨(some 13), .mv (.t 28), none⟩] [])))
def c_objects_All : ACode :=
 .seq (.region (some [0, 1]) [⟨(some 2), .box (.t 0), none⟩,
   ⟨(some 4), .box (.c (.d (.agg Pk.Base.zero.cs))), none⟩,
   ⟨(some 5), .mv (.c (.nilS)), none⟩] [])
 (.seq (.region (some [1, 2, 4]) [⟨(some 6), .mv (.c (.nilS)), none⟩] [])
 (.seq (.seq (.region (some [1, 2, 4, 6]) [⟨(some 11), .mv (.t 1), none⟩,
   ⟨(some 12), .len false (.t 11), none⟩,
   ⟨(some 13), .mv (.c (.d (.i .i64 0))), none⟩] [])
 (.block 0 (.loop K_objects_All_0 [6, 2] l_objects_All_0)))
 (.seq (.region (some [2, 4, 6]) [⟨(some 29), .load true 39 (.t 2), none⟩,
   ⟨(some 30), .mv (.t 6), none⟩,
   ⟨none, .store 39 (.t 4) (.t 29), none⟩,
   ⟨(some 5), .mv (.t 30), none⟩] [])
 (.ret))))
def a_objects_All : AFn := .code 2 c_objects_All [.dat (.cell true 39 4), .dat (.tmp 5)]
set_option maxRecDepth 100000 in
theorem k_objects_All : compF Tryd.prog h_objects_All F_objects_All = some a_objects_All := by kernel_rfl

/-- paddock/paddocklaw6.op -/
def h_paddocklaw6_op : Hints := { kp := [(0, [0, 1, 2, 3]), (1, [0, 1, 2, 3, 8])], lkp := [], lth := [] }
def c_paddocklaw6_op : ACode :=
 .seq (.region (some [0, 1, 2, 3]) [⟨(some 8), .box (.c (.d (.agg [.i .u8 0, .i .u32 0, .i .u8 0, .i .u8 0, .i .u8 0, .s ⟨#[]⟩]))), none⟩] [])
 (.seq (.region (some [0, 1, 2, 3, 8]) [⟨(some 9), .mv (.t 0), none⟩,
   ⟨(some 10), .mv (.t 1), none⟩,
   ⟨(some 11), .mv (.t 2), none⟩,
   ⟨(some 12), .mv (.t 3), none⟩,
   ⟨(some 13), .build [.d (.i .u8 0), .d (.i .u32 0), .d (.i .u8 0), .d (.i .u8 0), .d (.i .u8 0), .d (.s ⟨#[]⟩)] [(0, 1, .c (.d (.i .u8 1))), (1, 1, .t 9), (2, 1, .t 10), (3, 1, .c (.d (.i .u8 3))), (4, 1, .t 11), (5, 1, .t 12)], none⟩,
   ⟨none, .store 6 (.t 8) (.t 13), none⟩] [])
 (.ret))
def a_paddocklaw6_op : AFn := .code 4 c_paddocklaw6_op [.cell true 6 8]
set_option maxRecDepth 100000 in
theorem k_paddocklaw6_op : compF Tryd.prog h_paddocklaw6_op F_paddocklaw6_op = some a_paddocklaw6_op := by kernel_rfl

/-- paddock/objects.does -/
def h_objects_does : Hints := { kp := [(0, [0]), (1, [0]), (2, [3]), (4, [3]), (6, [3]), (7, []), (5, []), (3, []), (8, [])], lkp := [], lth := [] }
def c_objects_does : ACode :=
 .seq (.region (some [0]) [⟨(some 2), .mv (.c (.one)), none⟩] [])
 (.seq (.seq (.region (some [0]) [⟨(some 3), .mv (.t 0), none⟩] [])
 (.block 0 (.seq (.region (some [3]) [⟨(some 5), .bin .eql (.t 3) (.c (.d (.i .u8 1))), none⟩,
    ⟨(some 4), .mv (.t 5), none⟩] [])
  (.cond (.t 4) (.seq (.region (some []) [⟨(some 2), .mv (.f F_objects_doer_write), none⟩] [])
   (.ret)) (.seq (.region (some [3]) [⟨(some 7), .bin .eql (.t 3) (.c (.d (.i .u8 2))), none⟩,
     ⟨(some 6), .mv (.t 7), none⟩] [])
   (.cond (.t 6) (.seq (.region (some []) [⟨(some 2), .mv (.f F_objects_doer_trunc), none⟩] [])
    (.ret)) (.seq (.region (some [3]) [⟨(some 9), .bin .eql (.t 3) (.c (.d (.i .u8 3))), none⟩,
      ⟨(some 8), .mv (.t 9), none⟩] [])
    (.cond (.t 8) (.seq (.region (some []) [⟨(some 2), .mv (.f F_objects_doer_attr), none⟩] [])
     (.ret)) (.skip)))))))))
 (.seq (.region (some []) [⟨(some 2), .mv (.f F_objects_doer_remove), none⟩] [])
 (.ret)))
def a_objects_does : AFn := .code 1 c_objects_does [.tmp 2]
set_option maxRecDepth 100000 in
theorem k_objects_does : compF Tryd.prog h_objects_does F_objects_does = some a_objects_does := by kernel_rfl

/-- paddock/paddockref6.change -/
def h_paddockref6_change : Hints := { kp := [(0, [0, 1]), (1, [2, 3, 4]), (2, [2, 3, 4, 6]), (6, [2, 3, 4, 6, 13]), (16, [2, 3, 4, 6, 13]), (24, [2, 3, 4, 6, 13]), (3, [2, 4]), (4, [2, 4]), (5, [2, 4]), (25, [2, 3, 4, 6]), (26, [2, 4]), (27, [2, 3, 4, 6]), (28, [2, 4]), (29, [2, 3, 4, 6]), (17, [2, 4, 6]), (18, [2, 4]), (19, [2, 4, 6]), (20, [2, 4]), (21, [2, 4, 6]), (22, [2, 4, 6]), (23, [2, 4, 6]), (7, [2, 3, 4, 6]), (8, [2, 4]), (9, [2, 3, 4, 6]), (10, [2, 3, 4, 6, 7]), (11, [2, 3, 4, 6, 7]), (12, [2, 3, 4, 6, 7]), (13, [2, 3, 4, 6, 7, 8]), (14, [2, 3, 4, 6, 7]), (15, [2, 3, 4, 6, 7, 8]), (30, [2, 4])], lkp := [], lth := [] }
def c_paddockref6_change : ACode :=
 .seq (.region (some [0, 1]) [⟨(some 2), .box (.t 0), none⟩,
   ⟨(some 3), .box (.t 1), none⟩,
   ⟨(some 4), .box (.c (.d (.agg [.b false, .s ⟨#[]⟩, .s ⟨#[]⟩, .s ⟨#[]⟩, .s ⟨#[]⟩]))), none⟩,
   ⟨(some 5), .mv (.c (.d (.i .u8 0))), none⟩] [])
 (.seq (.region (some [2, 3, 4]) [⟨(some 9), .faddr 4 (.t 3), none⟩,
   ⟨(some 10), .load false 1 (.t 9), none⟩,
   ⟨(some 11), .conv .i64 (.t 10), none⟩,
   ⟨(some 6), .mv (.t 11), none⟩] [])
 (.seq (.seq (.region (some [2, 3, 4, 6]) [⟨(some 12), .faddr 2 (.t 3), none⟩,
   ⟨(some 13), .load false 1 (.t 12), none⟩] [])
 (.block 0 (.seq (.region (some [2, 3, 4, 6, 13]) [⟨(some 20), .bin .eql (.t 13) (.c (.d (.i .u8 1))), none⟩,
    ⟨(some 19), .mv (.t 20), none⟩] [])
  (.cond (.t 19) (.seq (.seq (.region (some [2, 3, 4, 6]) [⟨(some 21), .mv (.t 6), none⟩,
     ⟨(some 22), .faddr 5 (.t 3), none⟩,
     ⟨(some 23), .load false 1 (.t 22), none⟩,
     ⟨(some 24), .len true (.t 23), none⟩,
     ⟨(some 25), .bin .add (.t 21) (.t 24), none⟩,
     ⟨(some 26), .bin .gtr (.t 25) (.c (.d (.i .i64 16))), none⟩] [])
   (.cond (.t 26) (.seq (.region (some [2, 4]) [⟨(some 27), .load true 5 (.t 2), none⟩,
      ⟨none, .store 5 (.t 4) (.t 27), none⟩,
      ⟨(some 5), .mv (.c (.d (.i .u8 2))), none⟩] [])
    (.ret)) (.skip)))
   (.seq (.region (some [2, 3, 4, 6]) [⟨(some 28), .faddr 1 (.t 2), none⟩,
     ⟨(some 29), .load false 1 (.t 28), none⟩,
     ⟨(some 7), .mv (.t 29), none⟩] [])
   (.seq (.seq (.region (some [2, 3, 4, 6, 7]) [⟨(some 30), .mv (.t 7), none⟩,
     ⟨(some 31), .len true (.t 30), none⟩,
     ⟨(some 32), .mv (.t 6), none⟩,
     ⟨(some 33), .bin .lss (.t 31) (.t 32), none⟩] [])
   (.cond (.t 33) (.region (some [2, 3, 4, 6, 7]) [⟨(some 34), .mv (.t 7), none⟩,
      ⟨(some 35), .mv (.t 6), none⟩,
      ⟨(some 36), .mv (.t 7), none⟩,
      ⟨(some 37), .len true (.t 36), none⟩,
      ⟨(some 38), .bin .sub (.t 35) (.t 37), none⟩,
      ⟨(some 39), .call (.f F_paddockref6_noughts) [.t 38], none⟩,
      ⟨(some 40), .bin .add (.t 34) (.t 39), none⟩,
      ⟨(some 7), .mv (.t 40), none⟩] []) (.skip)))
   (.seq (.region (some [2, 3, 4, 6, 7]) [⟨(some 8), .mv (.c (.d (.s ⟨#[]⟩))), none⟩] [])
   (.seq (.seq (.region (some [2, 3, 4, 6, 7, 8]) [⟨(some 41), .mv (.t 7), none⟩,
     ⟨(some 42), .len true (.t 41), none⟩,
     ⟨(some 43), .mv (.t 6), none⟩,
     ⟨(some 44), .faddr 5 (.t 3), none⟩,
     ⟨(some 45), .load false 1 (.t 44), none⟩,
     ⟨(some 46), .len true (.t 45), none⟩,
     ⟨(some 47), .bin .add (.t 43) (.t 46), none⟩,
     ⟨(some 48), .bin .gtr (.t 42) (.t 47), none⟩] [])
   (.cond (.t 48) (.region (some [2, 3, 4, 6, 7]) [⟨(some 49), .mv (.t 7), none⟩,
      ⟨(some 50), .mv (.t 6), none⟩,
      ⟨(some 51), .faddr 5 (.t 3), none⟩,
      ⟨(some 52), .load false 1 (.t 51), none⟩,
      ⟨(some 53), .len true (.t 52), none⟩,
      ⟨(some 54), .bin .add (.t 50) (.t 53), none⟩,
      ⟨(some 55), .slice 0 (.t 49) (some (.t 54)) none none, none⟩,
      ⟨(some 8), .mv (.t 55), none⟩] []) (.skip)))
   (.region (some [2, 3, 4, 6, 7, 8]) [⟨(some 56), .mv (.t 7), none⟩,
     ⟨(some 57), .mv (.t 6), none⟩,
     ⟨(some 58), .slice 0 (.t 56) none (some (.t 57)) none, none⟩,
     ⟨(some 59), .faddr 5 (.t 3), none⟩,
     ⟨(some 60), .load false 1 (.t 59), none⟩,
     ⟨(some 61), .bin .add (.t 58) (.t 60), none⟩,
     ⟨(some 62), .mv (.t 8), none⟩,
     ⟨(some 63), .bin .add (.t 61) (.t 62), none⟩,
     ⟨(some 64), .faddr 0 (.t 2), none⟩,
     ⟨none, .store 1 (.t 64) (.c (.d (.b true))), none⟩,
     ⟨(some 65), .faddr 1 (.t 2), none⟩,
     ⟨none, .store 1 (.t 65) (.t 63), none⟩] [(4, 9)])))))) (.seq (.region (some [2, 3, 4, 6, 13]) [⟨(some 67), .bin .eql (.t 13) (.c (.d (.i .u8 2))), none⟩,
     ⟨(some 66), .mv (.t 67), none⟩] [])
   (.cond (.t 66) (.seq (.seq (.region (some [2, 4, 6]) [⟨(some 68), .faddr 0 (.t 2), none⟩,
      ⟨(some 69), .load false 1 (.t 68), none⟩,
      ⟨(some 70), .un .not (.t 69), none⟩] [])
    (.cond (.t 70) (.seq (.region (some [2, 4]) [⟨(some 71), .load true 5 (.t 2), none⟩,
       ⟨none, .store 5 (.t 4) (.t 71), none⟩,
       ⟨(some 5), .mv (.c (.d (.i .u8 1))), none⟩] [])
     (.ret)) (.skip)))
    (.seq (.seq (.region (some [2, 4, 6]) [⟨(some 72), .mv (.t 6), none⟩,
      ⟨(some 73), .bin .gtr (.t 72) (.c (.d (.i .i64 16))), none⟩] [])
    (.cond (.t 73) (.seq (.region (some [2, 4]) [⟨(some 74), .load true 5 (.t 2), none⟩,
       ⟨none, .store 5 (.t 4) (.t 74), none⟩,
       ⟨(some 5), .mv (.c (.d (.i .u8 2))), none⟩] [])
     (.ret)) (.skip)))
    (.seq (.seq (.region (some [2, 4, 6]) [⟨(some 75), .faddr 1 (.t 2), none⟩,
      ⟨(some 76), .load false 1 (.t 75), none⟩,
      ⟨(some 77), .len true (.t 76), none⟩,
      ⟨(some 78), .mv (.t 6), none⟩,
      ⟨(some 79), .bin .lss (.t 77) (.t 78), none⟩] [])
    (.cond (.t 79) (.region (some [2, 4, 6]) [⟨(some 80), .faddr 1 (.t 2), none⟩,
       ⟨(some 81), .load false 1 (.t 80), none⟩,
       ⟨(some 82), .mv (.t 6), none⟩,
       ⟨(some 83), .faddr 1 (.t 2), none⟩,
       ⟨(some 84), .load false 1 (.t 83), none⟩,
       ⟨(some 85), .len true (.t 84), none⟩,
       ⟨(some 86), .bin .sub (.t 82) (.t 85), none⟩,
       ⟨(some 87), .call (.f F_paddockref6_noughts) [.t 86], none⟩,
       ⟨(some 88), .bin .add (.t 81) (.t 87), none⟩,
       ⟨(some 89), .faddr 1 (.t 2), none⟩,
       ⟨none, .store 1 (.t 89) (.t 88), none⟩] [(1, 4), (1, 7)]) (.skip)))
    (.region (some [2, 4, 6]) [⟨(some 90), .faddr 1 (.t 2), none⟩,
      ⟨(some 91), .load false 1 (.t 90), none⟩,
      ⟨(some 92), .mv (.t 6), none⟩,
      ⟨(some 93), .slice 0 (.t 91) none (some (.t 92)) none, none⟩,
      ⟨(some 94), .faddr 1 (.t 2), none⟩,
      ⟨none, .store 1 (.t 94) (.t 93), none⟩] [])))) (.seq (.region (some [2, 3, 4, 6, 13]) [⟨(some 96), .bin .eql (.t 13) (.c (.d (.i .u8 3))), none⟩,
      ⟨(some 95), .mv (.t 96), none⟩] [])
    (.cond (.t 95) (.seq (.seq (.region (some [2, 3, 4, 6]) [⟨(some 97), .mv (.t 6), none⟩,
       ⟨(some 98), .bin .geq (.t 97) (.c (.d (.i .i64 3))), none⟩] [])
     (.cond (.t 98) (.seq (.region (some [2, 4]) [⟨(some 99), .load true 5 (.t 2), none⟩,
        ⟨none, .store 5 (.t 4) (.t 99), none⟩,
        ⟨(some 5), .mv (.c (.d (.i .u8 3))), none⟩] [])
      (.ret)) (.skip)))
     (.seq (.seq (.region (some [2, 3, 4, 6]) [⟨(some 100), .faddr 0 (.t 2), none⟩,
       ⟨(some 101), .load false 1 (.t 100), none⟩,
       ⟨(some 102), .un .not (.t 101), none⟩] [])
     (.cond (.t 102) (.seq (.region (some [2, 4]) [⟨(some 103), .load true 5 (.t 2), none⟩,
        ⟨none, .store 5 (.t 4) (.t 103), none⟩,
        ⟨(some 5), .mv (.c (.d (.i .u8 1))), none⟩] [])
      (.ret)) (.skip)))
     (.region (some [2, 3, 4, 6]) [⟨(some 104), .mv (.t 6), none⟩,
       ⟨(some 105), .faddr 5 (.t 3), none⟩,
       ⟨(some 106), .load false 1 (.t 105), none⟩,
       ⟨(some 107), .faddr 2 (.t 2), none⟩,
       ⟨(some 108), .iaddrA 3 1 (.t 107) (.t 104), none⟩,
       ⟨none, .store 1 (.t 108) (.t 106), none⟩] []))) (.seq (.seq (.region (some [2, 4]) [⟨(some 14), .faddr 0 (.t 2), none⟩,
       ⟨(some 15), .load false 1 (.t 14), none⟩,
       ⟨(some 16), .un .not (.t 15), none⟩] [])
     (.cond (.t 16) (.seq (.region (some [2, 4]) [⟨(some 17), .load true 5 (.t 2), none⟩,
        ⟨none, .store 5 (.t 4) (.t 17), none⟩,
        ⟨(some 5), .mv (.c (.d (.i .u8 1))), none⟩] [])
      (.ret)) (.skip)))
     (.region (some [2, 4]) [⟨(some 18), .build [.d (.b false), .d (.s ⟨#[]⟩), .d (.s ⟨#[]⟩), .d (.s ⟨#[]⟩), .d (.s ⟨#[]⟩)] [], none⟩,
       ⟨none, .store 5 (.t 2) (.t 18), none⟩] []))))))))))
 (.seq (.region (some [2, 4]) [⟨(some 109), .load true 5 (.t 2), none⟩,
   ⟨none, .store 5 (.t 4) (.t 109), none⟩,
   ⟨(some 5), .mv (.c (.d (.i .u8 0))), none⟩] [])
 (.ret))))
def a_paddockref6_change : AFn := .code 2 c_paddockref6_change [.cell true 5 4, .tmp 5]
set_option maxRecDepth 100000 in
theorem k_paddockref6_change : compF Tryd.prog h_paddockref6_change F_paddockref6_change = some a_paddockref6_change := by kernel_rfl

/-- (*paddock/objects.doer).write -/
def h_objects_doer_write : Hints := { kp := [(0, [0, 1]), (1, [0, 3]), (2, [0, 3, 5]), (3, []), (4, [0, 3, 5]), (5, [0, 3, 5, 6]), (6, [0, 3, 5, 6]), (7, [])], lkp := [], lth := [] }
def c_objects_doer_write : ACode :=
 .seq (.region (some [0, 1]) [⟨(some 3), .box (.t 1), none⟩,
   ⟨(some 4), .mv (.c (.d (.i .u8 0))), none⟩] [])
 (.seq (.region (some [0, 3]) [⟨(some 7), .faddr 4 (.t 3), none⟩,
   ⟨(some 8), .load false 1 (.t 7), none⟩,
   ⟨(some 9), .conv .i64 (.t 8), none⟩,
   ⟨(some 10), .faddr 5 (.t 3), none⟩,
   ⟨(some 11), .load false 1 (.t 10), none⟩,
   ⟨(some 12), .len true (.t 11), none⟩,
   ⟨(some 13), .bin .add (.t 9) (.t 12), none⟩,
   ⟨(some 5), .mv (.t 13), none⟩] [])
 (.seq (.seq (.region (some [0, 3, 5]) [⟨(some 14), .mv (.t 5), none⟩,
   ⟨(some 15), .bin .gtr (.t 14) (.c (.d (.i .i64 16))), none⟩] [])
 (.cond (.t 15) (.seq (.region (some []) [⟨(some 4), .mv (.c (.d (.i .u8 2))), none⟩] [])
  (.ret)) (.skip)))
 (.seq (.region (some [0, 3, 5]) [⟨(some 16), .mv (.t 0), none⟩,
   ⟨(some 17), .nilck (.t 16), none⟩,
   ⟨(some 18), .faddr 0 (.t 17), none⟩,
   ⟨(some 19), .faddr 1 (.t 18), none⟩,
   ⟨(some 20), .load false 1 (.t 19), none⟩,
   ⟨(some 21), .mv (.t 5), none⟩,
   ⟨(some 22), .call (.f F_objects_grown) [.t 20, .t 21], none⟩,
   ⟨(some 6), .mv (.t 22), none⟩] [])
 (.seq (.region (some [0, 3, 5, 6]) [⟨(some 23), .mv (.t 0), none⟩,
   ⟨(some 24), .nilck (.t 23), none⟩,
   ⟨(some 25), .faddr 0 (.t 24), none⟩,
   ⟨(some 26), .faddr 0 (.t 25), none⟩,
   ⟨none, .store 1 (.t 26) (.c (.d (.b true))), none⟩] [])
 (.seq (.region (some [0, 3, 5, 6]) [⟨(some 27), .mv (.t 0), none⟩,
   ⟨(some 28), .mv (.t 6), none⟩,
   ⟨(some 29), .faddr 4 (.t 3), none⟩,
   ⟨(some 30), .load false 1 (.t 29), none⟩,
   ⟨(some 31), .slice 0 (.t 28) none (some (.t 30)) none, none⟩,
   ⟨(some 32), .faddr 5 (.t 3), none⟩,
   ⟨(some 33), .load false 1 (.t 32), none⟩,
   ⟨(some 34), .bin .add (.t 31) (.t 33), none⟩,
   ⟨(some 35), .mv (.t 6), none⟩,
   ⟨(some 36), .mv (.t 5), none⟩,
   ⟨(some 37), .slice 0 (.t 35) (some (.t 36)) none none, none⟩,
   ⟨(some 38), .bin .add (.t 34) (.t 37), none⟩,
   ⟨(some 39), .nilck (.t 27), none⟩,
   ⟨(some 40), .faddr 0 (.t 39), none⟩,
   ⟨(some 41), .faddr 1 (.t 40), none⟩,
   ⟨none, .store 1 (.t 41) (.t 38), none⟩] [(3, 6)])
 (.seq (.region (some []) [⟨(some 4), .mv (.c (.d (.i .u8 0))), none⟩] [])
 (.ret)))))))
def a_objects_doer_write : AFn := .code 2 c_objects_doer_write [.tmp 4]
set_option maxRecDepth 100000 in
theorem k_objects_doer_write : compF Tryd.prog h_objects_doer_write F_objects_doer_write = some a_objects_doer_write := by kernel_rfl

/-- (*paddock/objects.doer).trunc -/
def h_objects_doer_trunc : Hints := { kp := [(0, [0, 1]), (1, [0, 3]), (3, [0, 3]), (4, []), (2, []), (5, [0, 3]), (6, [])], lkp := [], lth := [] }
def c_objects_doer_trunc : ACode :=
 .seq (.region (some [0, 1]) [⟨(some 3), .box (.t 1), none⟩,
   ⟨(some 4), .mv (.c (.d (.i .u8 0))), none⟩] [])
 (.seq (.block 0 (.seq (.region (some [0, 3]) [⟨(some 6), .mv (.t 0), none⟩,
    ⟨(some 7), .nilck (.t 6), none⟩,
    ⟨(some 8), .faddr 0 (.t 7), none⟩,
    ⟨(some 9), .faddr 0 (.t 8), none⟩,
    ⟨(some 10), .load false 1 (.t 9), none⟩,
    ⟨(some 11), .un .not (.t 10), none⟩,
    ⟨(some 5), .mv (.t 11), none⟩] [])
  (.cond (.t 5) (.seq (.region (some []) [⟨(some 4), .mv (.c (.d (.i .u8 1))), none⟩] [])
   (.ret)) (.seq (.region (some [0, 3]) [⟨(some 13), .faddr 4 (.t 3), none⟩,
     ⟨(some 14), .load false 1 (.t 13), none⟩,
     ⟨(some 15), .bin .gtr (.t 14) (.c (.d (.i .u8 16))), none⟩,
     ⟨(some 12), .mv (.t 15), none⟩] [])
   (.cond (.t 12) (.seq (.region (some []) [⟨(some 4), .mv (.c (.d (.i .u8 2))), none⟩] [])
    (.ret)) (.skip))))))
 (.seq (.region (some [0, 3]) [⟨(some 16), .mv (.t 0), none⟩,
   ⟨(some 17), .mv (.t 0), none⟩,
   ⟨(some 18), .nilck (.t 17), none⟩,
   ⟨(some 19), .faddr 0 (.t 18), none⟩,
   ⟨(some 20), .faddr 1 (.t 19), none⟩,
   ⟨(some 21), .load false 1 (.t 20), none⟩,
   ⟨(some 22), .faddr 4 (.t 3), none⟩,
   ⟨(some 23), .load false 1 (.t 22), none⟩,
   ⟨(some 24), .conv .i64 (.t 23), none⟩,
   ⟨(some 25), .call (.f F_objects_grown) [.t 21, .t 24], none⟩,
   ⟨(some 26), .faddr 4 (.t 3), none⟩,
   ⟨(some 27), .load false 1 (.t 26), none⟩,
   ⟨(some 28), .slice 0 (.t 25) none (some (.t 27)) none, none⟩,
   ⟨(some 29), .nilck (.t 16), none⟩,
   ⟨(some 30), .faddr 0 (.t 29), none⟩,
   ⟨(some 31), .faddr 1 (.t 30), none⟩,
   ⟨none, .store 1 (.t 31) (.t 28), none⟩] [(5, 7), (5, 11), (7, 11), (9, 11)])
 (.seq (.region (some []) [⟨(some 4), .mv (.c (.d (.i .u8 0))), none⟩] [])
 (.ret))))
def a_objects_doer_trunc : AFn := .code 2 c_objects_doer_trunc [.tmp 4]
set_option maxRecDepth 100000 in
theorem k_objects_doer_trunc : compF Tryd.prog h_objects_doer_trunc F_objects_doer_trunc = some a_objects_doer_trunc := by kernel_rfl

/-- (*paddock/objects.doer).attr -/
def h_objects_doer_attr : Hints := { kp := [(0, [0, 1]), (1, [0, 3]), (3, [0, 3]), (4, []), (2, []), (5, [0, 3]), (6, [])], lkp := [], lth := [] }
def c_objects_doer_attr : ACode :=
 .seq (.region (some [0, 1]) [⟨(some 3), .box (.t 1), none⟩,
   ⟨(some 4), .mv (.c (.d (.i .u8 0))), none⟩] [])
 (.seq (.block 0 (.seq (.region (some [0, 3]) [⟨(some 6), .faddr 4 (.t 3), none⟩,
    ⟨(some 7), .load false 1 (.t 6), none⟩,
    ⟨(some 8), .bin .geq (.t 7) (.c (.d (.i .u8 3))), none⟩,
    ⟨(some 5), .mv (.t 8), none⟩] [])
  (.cond (.t 5) (.seq (.region (some []) [⟨(some 4), .mv (.c (.d (.i .u8 3))), none⟩] [])
   (.ret)) (.seq (.region (some [0, 3]) [⟨(some 10), .mv (.t 0), none⟩,
     ⟨(some 11), .nilck (.t 10), none⟩,
     ⟨(some 12), .faddr 0 (.t 11), none⟩,
     ⟨(some 13), .faddr 0 (.t 12), none⟩,
     ⟨(some 14), .load false 1 (.t 13), none⟩,
     ⟨(some 15), .un .not (.t 14), none⟩,
     ⟨(some 9), .mv (.t 15), none⟩] [])
   (.cond (.t 9) (.seq (.region (some []) [⟨(some 4), .mv (.c (.d (.i .u8 1))), none⟩] [])
    (.ret)) (.skip))))))
 (.seq (.region (some [0, 3]) [⟨(some 16), .mv (.t 0), none⟩,
   ⟨(some 17), .faddr 4 (.t 3), none⟩,
   ⟨(some 18), .load false 1 (.t 17), none⟩,
   ⟨(some 19), .faddr 5 (.t 3), none⟩,
   ⟨(some 20), .load false 1 (.t 19), none⟩,
   ⟨(some 21), .nilck (.t 16), none⟩,
   ⟨(some 22), .faddr 0 (.t 21), none⟩,
   ⟨(some 23), .faddr 2 (.t 22), none⟩,
   ⟨(some 24), .iaddrA 3 1 (.t 23) (.t 18), none⟩,
   ⟨none, .store 1 (.t 24) (.t 20), none⟩] [(2, 4)])
 (.seq (.region (some []) [⟨(some 4), .mv (.c (.d (.i .u8 0))), none⟩] [])
 (.ret))))
def a_objects_doer_attr : AFn := .code 2 c_objects_doer_attr [.tmp 4]
set_option maxRecDepth 100000 in
theorem k_objects_doer_attr : compF Tryd.prog h_objects_doer_attr F_objects_doer_attr = some a_objects_doer_attr := by kernel_rfl

/-- (*paddock/objects.doer).remove -/
def h_objects_doer_remove : Hints := { kp := [(0, [0, 1]), (1, [0]), (2, []), (3, [0]), (4, [])], lkp := [], lth := [] }
def c_objects_doer_remove : ACode :=
 .seq (.region (some [0, 1]) [⟨(some 3), .box (.t 1), none⟩,
   ⟨(some 4), .mv (.c (.d (.i .u8 0))), none⟩] [])
 (.seq (.seq (.region (some [0]) [⟨(some 5), .mv (.t 0), none⟩,
   ⟨(some 6), .nilck (.t 5), none⟩,
   ⟨(some 7), .faddr 0 (.t 6), none⟩,
   ⟨(some 8), .faddr 0 (.t 7), none⟩,
   ⟨(some 9), .load false 1 (.t 8), none⟩,
   ⟨(some 10), .un .not (.t 9), none⟩] [])
 (.cond (.t 10) (.seq (.region (some []) [⟨(some 4), .mv (.c (.d (.i .u8 1))), none⟩] [])
  (.ret)) (.skip)))
 (.seq (.region (some [0]) [⟨(some 11), .mv (.t 0), none⟩,
   ⟨(some 12), .build [.d (.b false), .d (.s ⟨#[]⟩), .d (.s ⟨#[]⟩), .d (.s ⟨#[]⟩), .d (.s ⟨#[]⟩)] [], none⟩,
   ⟨(some 13), .nilck (.t 11), none⟩,
   ⟨(some 14), .faddr 0 (.t 13), none⟩,
   ⟨none, .store 5 (.t 14) (.t 12), none⟩] [])
 (.seq (.region (some []) [⟨(some 4), .mv (.c (.d (.i .u8 0))), none⟩] [])
 (.ret))))
def a_objects_doer_remove : AFn := .code 2 c_objects_doer_remove [.tmp 4]
set_option maxRecDepth 100000 in
theorem k_objects_doer_remove : compF Tryd.prog h_objects_doer_remove F_objects_doer_remove = some a_objects_doer_remove := by kernel_rfl

/-- paddock/paddockref6.noughts -/
def h_paddockref6_noughts : Hints := { kp := [(0, [0]), (1, [0]), (2, [0, 3]), (3, [0, 3, 4]), (5, [0, 3, 4]), (4, [0, 3, 4]), (6, [3])], lkp := [(3, [0, 3, 4])], lth := [] }
def K_paddockref6_noughts_0 : Option (List Nat) := (some [0, 3, 4])
def l_paddockref6_noughts_0 : ACode :=
 .seq (.seq (.region (some [0, 3, 4]) [⟨(some 5), .mv (.t 4), none⟩,
   ⟨(some 6), .mv (.t 0), none⟩,
   ⟨(some 7), .bin .lss (.t 5) (.t 6), none⟩] [])
 (.cond (.t 7) (.skip) (.exit 0)))
 (.seq (.block 1 (.region (some [0, 3, 4]) [⟨(some 10), .mv (.t 3), none⟩,
    ⟨(some 11), .bin .add (.t 10) (.c (.d (.s ⟨#[0]⟩))), none⟩,
    ⟨(some 3), .mv (.t 11), none⟩] []))
 (.region (some [0, 3, 4]) [⟨(some 8), .mv (.t 4), none⟩,
   ⟨(some 9), .bin .add (.t 8) (.c (.d (.i .i64 1))), none⟩,
   ⟨(some 4), .mv (.t 9), none⟩] []))
def c_paddockref6_noughts : ACode :=
 .seq (.region (some [0]) [⟨(some 2), .mv (.c (.d (.s ⟨#[]⟩))), none⟩] [])
 (.seq (.region (some [0]) [⟨(some 3), .mv (.c (.d (.s ⟨#[]⟩))), none⟩] [])
 (.seq (.seq (.region (some [0, 3]) [⟨(some 4), .mv (.c (.d (.i .i64 0))), none⟩] [])
 (.block 0 (.loop K_paddockref6_noughts_0 [] l_paddockref6_noughts_0)))
 (.seq (.region (some [3]) [⟨(some 12), .mv (.t 3), none⟩,
   ⟨(some 2), .mv (.t 12), none⟩] [])
 (.ret))))
def a_paddockref6_noughts : AFn := .code 1 c_paddockref6_noughts [.tmp 2]
set_option maxRecDepth 100000 in
theorem k_paddockref6_noughts : compF Tryd.prog h_paddockref6_noughts F_paddockref6_noughts = some a_paddockref6_noughts := by kernel_rfl

/-- paddock/objects.grown -/
def h_objects_grown : Hints := { kp := [(0, [0, 1]), (1, [0, 1])], lkp := [], lth := [] }
def c_objects_grown : ACode :=
 .seq (.region (some [0, 1]) [⟨(some 4), .mv (.c (.d (.s ⟨#[]⟩))), none⟩] [])
 (.seq (.region (some [0, 1]) [⟨(some 5), .mv (.t 0), none⟩,
   ⟨(some 6), .mv (.t 1), none⟩,
   ⟨(some 7), .mv (.t 0), none⟩,
   ⟨(some 8), .len true (.t 7), none⟩,
   ⟨(some 9), .bin .sub (.t 6) (.t 8), none⟩,
   ⟨(some 10), .mm true [.t 9, .c (.d (.i .i64 0))], none⟩,
   ⟨(some 11), .call (.f F_strings_Repeat) [.c (.d (.s ⟨#[0]⟩)), .t 10], none⟩,
   ⟨(some 12), .bin .add (.t 5) (.t 11), none⟩,
   ⟨(some 4), .mv (.t 12), none⟩] [])
 (.ret))
def a_objects_grown : AFn := .code 2 c_objects_grown [.tmp 4]
set_option maxRecDepth 100000 in
theorem k_objects_grown : compF Tryd.prog h_objects_grown F_objects_grown = some a_objects_grown := by kernel_rfl

/-- math/bits.Len64 -/
def h_math_bits_Len64 : Hints := { kp := [(0, [0]), (1, [0, 2]), (2, [0]), (3, [0]), (4, [0, 2]), (5, [0, 2]), (6, [0, 2]), (7, [0, 2]), (8, [0, 2]), (9, [0, 2]), (10, [0, 2])], lkp := [], lth := [] }
def c_math_bits_Len64 : ACode :=
 .seq (.region (some [0]) [⟨(some 2), .mv (.c (.d (.i .i64 0))), none⟩] [])
 (.seq (.seq (.region (some [0, 2]) [⟨(some 3), .mv (.t 0), none⟩,
   ⟨(some 4), .bin .geq (.t 3) (.c (.d (.i .u64 4294967296))), none⟩] [])
 (.cond (.t 4) (.seq (.region (some [0]) [⟨(some 5), .mv (.t 0), none⟩,
    ⟨(some 6), .bin .shr (.t 5) (.c (.d (.i .u64 32))), none⟩,
    ⟨(some 0), .mv (.t 6), none⟩] [])
  (.region (some [0]) [⟨(some 2), .mv (.c (.d (.i .i64 32))), none⟩] [])) (.skip)))
 (.seq (.seq (.region (some [0, 2]) [⟨(some 7), .mv (.t 0), none⟩,
   ⟨(some 8), .bin .geq (.t 7) (.c (.d (.i .u64 65536))), none⟩] [])
 (.cond (.t 8) (.seq (.region (some [0, 2]) [⟨(some 9), .mv (.t 0), none⟩,
    ⟨(some 10), .bin .shr (.t 9) (.c (.d (.i .u64 16))), none⟩,
    ⟨(some 0), .mv (.t 10), none⟩] [])
  (.region (some [0, 2]) [⟨(some 11), .mv (.t 2), none⟩,
    ⟨(some 12), .bin .add (.t 11) (.c (.d (.i .i64 16))), none⟩,
    ⟨(some 2), .mv (.t 12), none⟩] [])) (.skip)))
 (.seq (.seq (.region (some [0, 2]) [⟨(some 13), .mv (.t 0), none⟩,
   ⟨(some 14), .bin .geq (.t 13) (.c (.d (.i .u64 256))), none⟩] [])
 (.cond (.t 14) (.seq (.region (some [0, 2]) [⟨(some 15), .mv (.t 0), none⟩,
    ⟨(some 16), .bin .shr (.t 15) (.c (.d (.i .u64 8))), none⟩,
    ⟨(some 0), .mv (.t 16), none⟩] [])
  (.region (some [0, 2]) [⟨(some 17), .mv (.t 2), none⟩,
    ⟨(some 18), .bin .add (.t 17) (.c (.d (.i .i64 8))), none⟩,
    ⟨(some 2), .mv (.t 18), none⟩] [])) (.skip)))
 (.seq (.region (some [0, 2]) [⟨(some 19), .mv (.t 2), none⟩,
   ⟨(some 20), .mv (.t 0), none⟩,
   ⟨(some 21), .conv .u8 (.t 20), none⟩,
   ⟨(some 22), .idxS (.c (.d (.s tab0))) (.t 21), none⟩,
   ⟨(some 23), .conv .i64 (.t 22), none⟩,
   ⟨(some 24), .bin .add (.t 19) (.t 23), none⟩,
   ⟨(some 2), .mv (.t 24), none⟩] [])
 (.ret)))))
def a_math_bits_Len64 : AFn := .code 1 c_math_bits_Len64 [.tmp 2]
set_option maxRecDepth 100000 in
theorem k_math_bits_Len64 : compF Tryd.prog h_math_bits_Len64 F_math_bits_Len64 = some a_math_bits_Len64 := by kernel_rfl

/-- math/bits.TrailingZeros -/
def h_math_bits_TrailingZeros : Hints := { kp := [(0, [0]), (1, [0]), (2, [0])], lkp := [], lth := [] }
def c_math_bits_TrailingZeros : ACode :=
 .seq (.region (some [0]) [⟨(some 2), .mv (.c (.d (.i .i64 0))), none⟩] [])
 (.seq (.cond (.c (.d (.b false))) (.seq (.region (some [0]) [⟨(some 3), .mv (.t 0), none⟩,
    ⟨(some 4), .conv .u32 (.t 3), none⟩,
    ⟨(some 5), .call (.f F_math_bits_TrailingZeros32) [.t 4], none⟩,
    ⟨(some 2), .mv (.t 5), none⟩] [])
  (.ret)) (.skip))
 (.seq (.region (some [0]) [⟨(some 6), .mv (.t 0), none⟩,
   ⟨(some 7), .call (.f F_math_bits_TrailingZeros64) [.t 6], none⟩,
   ⟨(some 2), .mv (.t 7), none⟩] [])
 (.ret)))
def a_math_bits_TrailingZeros : AFn := .code 1 c_math_bits_TrailingZeros [.tmp 2]
set_option maxRecDepth 100000 in
theorem k_math_bits_TrailingZeros : compF Tryd.prog h_math_bits_TrailingZeros F_math_bits_TrailingZeros = some a_math_bits_TrailingZeros := by kernel_rfl

/-- math/bits.TrailingZeros32 -/
def h_math_bits_TrailingZeros32 : Hints := { kp := [(0, [0]), (1, [0]), (2, []), (3, [0])], lkp := [], lth := [] }
def c_math_bits_TrailingZeros32 : ACode :=
 .seq (.region (some [0]) [⟨(some 2), .mv (.c (.d (.i .i64 0))), none⟩] [])
 (.seq (.seq (.region (some [0]) [⟨(some 3), .mv (.t 0), none⟩,
   ⟨(some 4), .bin .eql (.t 3) (.c (.d (.i .u32 0))), none⟩] [])
 (.cond (.t 4) (.seq (.region (some []) [⟨(some 2), .mv (.c (.d (.i .i64 32))), none⟩] [])
  (.ret)) (.skip)))
 (.seq (.region (some [0]) [⟨(some 5), .mv (.t 0), none⟩,
   ⟨(some 6), .mv (.t 0), none⟩,
   ⟨(some 7), .un .neg (.t 6), none⟩,
   ⟨(some 8), .bin .and (.t 5) (.t 7), none⟩,
   ⟨(some 9), .bin .mul (.t 8) (.c (.d (.i .u32 125613361))), none⟩,
   ⟨(some 10), .bin .shr (.t 9) (.c (.d (.i .u64 27))), none⟩,
   ⟨(some 11), .bad, none⟩,
   ⟨(some 12), .load false 1 (.t 11), none⟩,
   ⟨(some 13), .conv .i64 (.t 12), none⟩,
   ⟨(some 2), .mv (.t 13), none⟩] [])
 (.ret)))
def a_math_bits_TrailingZeros32 : AFn := .code 1 c_math_bits_TrailingZeros32 [.tmp 2]
set_option maxRecDepth 100000 in
theorem k_math_bits_TrailingZeros32 : compF Tryd.prog h_math_bits_TrailingZeros32 F_math_bits_TrailingZeros32 = some a_math_bits_TrailingZeros32 := by kernel_rfl

/-- math/bits.TrailingZeros64 -/
def h_math_bits_TrailingZeros64 : Hints := { kp := [(0, [0]), (1, [0]), (2, []), (3, [0])], lkp := [], lth := [] }
def c_math_bits_TrailingZeros64 : ACode :=
 .seq (.region (some [0]) [⟨(some 2), .mv (.c (.d (.i .i64 0))), none⟩] [])
 (.seq (.seq (.region (some [0]) [⟨(some 3), .mv (.t 0), none⟩,
   ⟨(some 4), .bin .eql (.t 3) (.c (.d (.i .u64 0))), none⟩] [])
 (.cond (.t 4) (.seq (.region (some []) [⟨(some 2), .mv (.c (.d (.i .i64 64))), none⟩] [])
  (.ret)) (.skip)))
 (.seq (.region (some [0]) [⟨(some 5), .mv (.t 0), none⟩,
   ⟨(some 6), .mv (.t 0), none⟩,
   ⟨(some 7), .un .neg (.t 6), none⟩,
   ⟨(some 8), .bin .and (.t 5) (.t 7), none⟩,
   ⟨(some 9), .bin .mul (.t 8) (.c (.d (.i .u64 285870213051353865))), none⟩,
   ⟨(some 10), .bin .shr (.t 9) (.c (.d (.i .u64 58))), none⟩,
   ⟨(some 11), .bad, none⟩,
   ⟨(some 12), .load false 1 (.t 11), none⟩,
   ⟨(some 13), .conv .i64 (.t 12), none⟩,
   ⟨(some 2), .mv (.t 13), none⟩] [])
 (.ret)))
def a_math_bits_TrailingZeros64 : AFn := .code 1 c_math_bits_TrailingZeros64 [.tmp 2]
set_option maxRecDepth 100000 in
theorem k_math_bits_TrailingZeros64 : compF Tryd.prog h_math_bits_TrailingZeros64 F_math_bits_TrailingZeros64 = some a_math_bits_TrailingZeros64 := by kernel_rfl

noncomputable def C : FuncId → Option AFn
  | 3 => some a_paddocklaw6_ObjectsTell
  | 4 => some a_paddocklaw6_ObjectsAttrs
  | 5 => some a_paddocklaw6_ObjectsReads
  | 6 => some a_paddocklaw6_known
  | 7 => some a_paddocklaw6_big
  | 8 => some a_objects_Do
  | 9 => some a_paddockref6_Do
  | 10 => some a_objects_Seen
  | 11 => some a_paddockref6_Seen
  | 12 => some a_objects_IsOp
  | 13 => some a_paddockref6_IsOp
  | 14 => some a_objects_Writes
  | 15 => some a_paddockref6_Writes
  | 16 => some a_objects_Read
  | 17 => some a_paddockref6_Read
  | 18 => some a_objects_All
  | 19 => some a_paddocklaw6_op
  | 20 => some a_objects_does
  | 21 => some a_paddockref6_change
  | 22 => some (.ext Pk.itoaX)
  | 23 => some a_objects_doer_write
  | 24 => some a_objects_doer_trunc
  | 25 => some a_objects_doer_attr
  | 26 => some a_objects_doer_remove
  | 27 => some a_paddockref6_noughts
  | 29 => some a_objects_grown
  | 31 => some (.ext Pk.repeatX)
  | 43 => some a_math_bits_Len64
  | 46 => some a_math_bits_TrailingZeros
  | 52 => some a_math_bits_TrailingZeros32
  | 53 => some a_math_bits_TrailingZeros64
  | _ => none
theorem hC : CRel Tryd.prog C := by
  intro f fn h
  unfold C at h
  split at h
  · injection h with h; subst h; exact ⟨h_paddocklaw6_ObjectsTell, k_paddocklaw6_ObjectsTell⟩
  · injection h with h; subst h; exact ⟨h_paddocklaw6_ObjectsAttrs, k_paddocklaw6_ObjectsAttrs⟩
  · injection h with h; subst h; exact ⟨h_paddocklaw6_ObjectsReads, k_paddocklaw6_ObjectsReads⟩
  · injection h with h; subst h; exact ⟨h_paddocklaw6_known, k_paddocklaw6_known⟩
  · injection h with h; subst h; exact ⟨h_paddocklaw6_big, k_paddocklaw6_big⟩
  · injection h with h; subst h; exact ⟨h_objects_Do, k_objects_Do⟩
  · injection h with h; subst h; exact ⟨h_paddockref6_Do, k_paddockref6_Do⟩
  · injection h with h; subst h; exact ⟨h_objects_Seen, k_objects_Seen⟩
  · injection h with h; subst h; exact ⟨h_paddockref6_Seen, k_paddockref6_Seen⟩
  · injection h with h; subst h; exact ⟨h_objects_IsOp, k_objects_IsOp⟩
  · injection h with h; subst h; exact ⟨h_paddockref6_IsOp, k_paddockref6_IsOp⟩
  · injection h with h; subst h; exact ⟨h_objects_Writes, k_objects_Writes⟩
  · injection h with h; subst h; exact ⟨h_paddockref6_Writes, k_paddockref6_Writes⟩
  · injection h with h; subst h; exact ⟨h_objects_Read, k_objects_Read⟩
  · injection h with h; subst h; exact ⟨h_paddockref6_Read, k_paddockref6_Read⟩
  · injection h with h; subst h; exact ⟨h_objects_All, k_objects_All⟩
  · injection h with h; subst h; exact ⟨h_paddocklaw6_op, k_paddocklaw6_op⟩
  · injection h with h; subst h; exact ⟨h_objects_does, k_objects_does⟩
  · injection h with h; subst h; exact ⟨h_paddockref6_change, k_paddockref6_change⟩
  · injection h with h; subst h; exact Pk.itoaX_ok ⟨Tryd.f22, _, Tryd.func22, rfl, by kernel_rfl⟩ (fun i w h => Tryd.strconv_Itoa_small i h w)
  · injection h with h; subst h; exact ⟨h_objects_doer_write, k_objects_doer_write⟩
  · injection h with h; subst h; exact ⟨h_objects_doer_trunc, k_objects_doer_trunc⟩
  · injection h with h; subst h; exact ⟨h_objects_doer_attr, k_objects_doer_attr⟩
  · injection h with h; subst h; exact ⟨h_objects_doer_remove, k_objects_doer_remove⟩
  · injection h with h; subst h; exact ⟨h_paddockref6_noughts, k_paddockref6_noughts⟩
  · injection h with h; subst h; exact ⟨h_objects_grown, k_objects_grown⟩
  · injection h with h; subst h; exact Pk.repeatX_ok ⟨Tryd.f31, _, Tryd.func31, rfl, by kernel_rfl⟩ (fun s c w h1 h2 => Tryd.strings_Repeat s c w h1 h2)
  · injection h with h; subst h; exact ⟨h_math_bits_Len64, k_math_bits_Len64⟩
  · injection h with h; subst h; exact ⟨h_math_bits_TrailingZeros, k_math_bits_TrailingZeros⟩
  · injection h with h; subst h; exact ⟨h_math_bits_TrailingZeros32, k_math_bits_TrailingZeros32⟩
  · injection h with h; subst h; exact ⟨h_math_bits_TrailingZeros64, k_math_bits_TrailingZeros64⟩
  · cases h
end Go.Proofs.YtclambdgbphfkaaDoor

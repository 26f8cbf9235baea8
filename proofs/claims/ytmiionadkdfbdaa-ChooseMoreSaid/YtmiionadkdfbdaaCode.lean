/- The code of the functions that these laws reach, compiled for the pure evaluator (printed by program), each held against the given program by the kernel. -/
import Derived.Test.YtmiionadkdfbdaaChecked
import Derived.KernelRfl
import Derived.Test.YtmiionadkdfbdaaPkEv
import Derived.Test.YtmiionadkdfbdaaPkClone
set_option linter.all false
namespace Go.Proofs.Ytmiionadkdfbdaa
open Pv Go

def F_main_main : FuncId := 0
def F_gosem_cut : FuncId := 1
def F_gosem_cut_init : FuncId := 2
def F_paddocklaw9_ChooseBest : FuncId := 3
def F_paddocklaw9_ChooseHears : FuncId := 4
def F_paddocklaw9_ChooseFew : FuncId := 5
def F_paddocklaw9_ChooseMore : FuncId := 6
def F_paddocklaw9_ChooseStarted : FuncId := 7
def F_paddocklaw9_known : FuncId := 8
def F_paddocklaw9_few : FuncId := 9
def F_paddockref6_Is : FuncId := 10
def F_choose_Best : FuncId := 11
def F_paddockref6_Head : FuncId := 12
def F_history_New : FuncId := 13
def F_history_History_Acting : FuncId := 14
def F_history_History_Add : FuncId := 15
def F_choose_Lacks : FuncId := 16
def F_choose_Serves : FuncId := 17
def F_paddocklaw9_both : FuncId := 18
def F_choose_Enough : FuncId := 19
def F_history_History_Last : FuncId := 20
def F_history_History_Since : FuncId := 21
def F_choose_Started : FuncId := 22
def F_paddockref6_isBase : FuncId := 23
def F_paddockref6_Writes : FuncId := 24
def F_slices_ContainsFunc_sapi_State_api_State : FuncId := 25
def F_choose_Best_1 : FuncId := 26
def F_pglog_Is : FuncId := 27
def F_pglog_Head : FuncId := 28
def F_choose_candidate_beats : FuncId := 29
def F_history_History_lays : FuncId := 30
def F_maps_First : FuncId := 31
def F_slices_Clone_sint_int : FuncId := 32
def F_history_History_interval : FuncId := 33
def F_maps_Apply : FuncId := 34
def F_history_History_Intervals : FuncId := 35
def F_choose_ear_misses : FuncId := 36
def F_slices_DeleteFunc_sapi_Interval_api_Interval : FuncId := 37
def F_choose_Lacks_1 : FuncId := 38
def F_paddockref3_History_Add : FuncId := 39
def F_paddockref3_History_Last : FuncId := 40
def F_choose_Enough_1 : FuncId := 41
def F_slices_Contains_sint_int : FuncId := 42
def F_slices_ContainsFunc_sint_int : FuncId := 43
def F_paddockref6_IsOp : FuncId := 44
def F_slices_IndexFunc_sapi_State_api_State : FuncId := 45
def F_pglog_base : FuncId := 46
def F_pglog_next : FuncId := 47
def F_pglog_last : FuncId := 48
def F_place_Acting : FuncId := 49
def F_slices_Equal_sint_int : FuncId := 50
def F_maps_Is : FuncId := 51
def F_maps_IsInc : FuncId := 52
def F_slices_Clone_sapi_Interval_api_Interval : FuncId := 53
def F_choose_ear_hears : FuncId := 54
def F_slices_IndexFunc_sapi_Interval_api_Interval : FuncId := 55
def F_paddockref3_Apply : FuncId := 56
def F_paddockref3_History_Map : FuncId := 57
def F_slices_Index_sint_int : FuncId := 58
def F_slices_IndexFunc_sint_int : FuncId := 59
def F_pglog_object : FuncId := 60
def F_objects_Writes : FuncId := 61
def F_slices_DeleteFunc_sint_int : FuncId := 62
def F_place_Pick : FuncId := 63
def F_place_Acting_1 : FuncId := 64
def F_paddockref3_Is : FuncId := 65
def F_paddockref3_IsInc : FuncId := 66
def F_paddockref3_First : FuncId := 67
def F_objects_IsOp : FuncId := 68
def F_maps_In : FuncId := 69
def F_place_choice_pick : FuncId := 70
def F_maps_those : FuncId := 71
def F_maps_In_1 : FuncId := 72
def F_place_choice_draw : FuncId := 73
def F_place_choice_fits : FuncId := 74
def F_straw_Draw : FuncId := 75
def F_straw_Best : FuncId := 76
def F_place_choice_fits_1 : FuncId := 77
def F_straw_Straw : FuncId := 78
def F_bits_Hash : FuncId := 79
def F_straw_Log : FuncId := 80
def F_bits_Mix : FuncId := 81
def F_math_bits_Len32 : FuncId := 82
def F_straw_mantissa_step : FuncId := 83
def F_runtime_boundsError_Error : FuncId := 84
def F_runtime_boundsError_RuntimeError : FuncId := 85
def F_runtime_errorString_Error : FuncId := 86
def F_runtime_errorString_RuntimeError : FuncId := 87
def F_runtime_plainError_Error : FuncId := 88
def F_runtime_plainError_RuntimeError : FuncId := 89
def F_runtime_errorAddressString_Error : FuncId := 90
def F_runtime_errorAddressString_RuntimeError : FuncId := 91
def F_runtime_TypeAssertionError_Error : FuncId := 92
def F_runtime_TypeAssertionError_RuntimeError : FuncId := 93
def F_runtime_PanicNilError_Error : FuncId := 94
def F_runtime_PanicNilError_RuntimeError : FuncId := 95
def F_internal_abi_Type_Align : FuncId := 96
def F_internal_runtime_maps_unhashableTypeError_Error : FuncId := 97
def F_internal_runtime_maps_unhashableTypeError_RuntimeError : FuncId := 98
def F_api_Errno_Error : FuncId := 99
def F_internal_abi_Kind_String : FuncId := 100
def tab0 : ByteArray := ⟨#[0, 1, 2, 2, 3, 3, 3, 3, 4, 4, 4, 4, 4, 4, 4, 4, 5, 5, 5, 5, 5, 5, 5, 5, 5, 5, 5, 5, 5, 5, 5, 5, 6, 6, 6, 6, 6, 6, 6, 6, 6, 6, 6, 6, 6, 6, 6, 6, 6, 6, 6, 6, 6, 6, 6, 6, 6, 6, 6, 6, 6, 6, 6, 6, 7, 7, 7, 7, 7, 7, 7, 7, 7, 7, 7, 7, 7, 7, 7, 7, 7, 7, 7, 7, 7, 7, 7, 7, 7, 7, 7, 7, 7, 7, 7, 7, 7, 7, 7, 7, 7, 7, 7, 7, 7, 7, 7, 7, 7, 7, 7, 7, 7, 7, 7, 7, 7, 7, 7, 7, 7, 7, 7, 7, 7, 7, 7, 7, 8, 8, 8, 8, 8, 8, 8, 8, 8, 8, 8, 8, 8, 8, 8, 8, 8, 8, 8, 8, 8, 8, 8, 8, 8, 8, 8, 8, 8, 8, 8, 8, 8, 8, 8, 8, 8, 8, 8, 8, 8, 8, 8, 8, 8, 8, 8, 8, 8, 8, 8, 8, 8, 8, 8, 8, 8, 8, 8, 8, 8, 8, 8, 8, 8, 8, 8, 8, 8, 8, 8, 8, 8, 8, 8, 8, 8, 8, 8, 8, 8, 8, 8, 8, 8, 8, 8, 8, 8, 8, 8, 8, 8, 8, 8, 8, 8, 8, 8, 8, 8, 8, 8, 8, 8, 8, 8, 8, 8, 8, 8, 8, 8, 8, 8, 8, 8, 8, 8, 8, 8, 8, 8, 8, 8, 8, 8, 8]⟩
/-- paddock/paddocklaw9.ChooseBest -/
def h_paddocklaw9_ChooseBest : Hints := { kp := [(0, [0, 1]), (1, [0, 1]), (2, []), (3, [0, 1]), (4, []), (5, [0, 1]), (6, [0, 1, 5, 6]), (7, [0, 1, 5, 6, 7]), (8, [0, 1, 5, 6, 7, 8]), (10, [0, 1, 5, 6, 7, 8]), (11, []), (12, [0, 1, 5, 6, 7, 8]), (9, [0, 1, 5, 6, 7, 8]), (13, [0, 1, 5, 6, 7]), (14, [0, 1, 5, 6, 7, 9]), (16, [0, 1, 5, 6, 7, 9]), (17, [0, 1, 5, 6, 7, 9, 10]), (15, [0, 1, 5, 6, 7, 9]), (18, [0, 5, 6, 7]), (19, [0, 6, 11, 12]), (20, []), (21, [0, 11]), (22, [0, 11, 13]), (24, [0, 11, 13]), (25, [0, 11, 13, 14, 15]), (26, [0, 11, 13, 14, 15, 16, 17]), (27, []), (23, [0, 11, 13]), (28, [])], lkp := [(8, [0, 1, 5, 6, 7, 8]), (14, [0, 1, 5, 6, 7, 9]), (22, [0, 11, 13])], lth := [(8, [5, 1]), (14, [6, 1, 7, 49])] }
def K_paddocklaw9_ChooseBest_0 : Option (List Nat) := (some [0, 1, 5, 6, 7, 8])
def l_paddocklaw9_ChooseBest_0 : ACode :=
 .seq (.seq (.region (some [0, 1, 5, 6, 7, 8]) [⟨(some 33), .mv (.t 8), none⟩,
   ⟨(some 34), .mv (.t 0), none⟩,
   ⟨(some 35), .len false (.t 34), none⟩,
   ⟨(some 36), .bin .lss (.t 33) (.t 35), none⟩] [])
 (.cond (.t 36) (.skip) (.exit 0)))
 (.seq (.block 1 (.seq (.seq (.region (some [0, 1, 5, 6, 7, 8]) [⟨(some 39), .mv (.t 0), none⟩,
    ⟨(some 40), .mv (.t 8), none⟩,
    ⟨(some 41), .iaddrS 49 (.t 39) (.t 40), none⟩,
    ⟨(some 42), .load true 49 (.t 41), none⟩,
    ⟨(some 43), .call (.f F_paddockref6_Is) [.t 42], none⟩,
    ⟨(some 44), .un .not (.t 43), none⟩] [])
  (.cond (.t 44) (.seq (.region (some []) [⟨(some 4), .mv (.c (.d (.b true))), none⟩] [])
   (.ret)) (.skip)))
  (.region (some [0, 1, 5, 6, 7, 8]) [⟨(some 45), .mv (.t 5), none⟩,
    ⟨(some 46), .mv (.t 8), none⟩,
    ⟨(some 47), .bsl 1 [.t 46], none⟩,
    ⟨(some 48), .app 1 (.t 45) (.t 47), none⟩,
    ⟨(some 5), .mv (.t 48), none⟩] [])))
 (.region (some [0, 1, 5, 6, 7, 8]) [⟨(some 37), .mv (.t 8), none⟩,
   ⟨(some 38), .bin .add (.t 37) (.c (.d (.i .i64 1))), none⟩,
   ⟨(some 8), .mv (.t 38), none⟩] []))
def K_paddocklaw9_ChooseBest_1 : Option (List Nat) := (some [0, 1, 5, 6, 7, 9])
def l_paddocklaw9_ChooseBest_1 : ACode :=
 .seq (.seq (.region (some [0, 1, 5, 6, 7, 9]) [⟨(some 49), .mv (.t 9), none⟩,
   ⟨(some 50), .mv (.t 0), none⟩,
   ⟨(some 51), .len false (.t 50), none⟩,
   ⟨(some 52), .bin .lss (.t 49) (.t 51), none⟩] [])
 (.cond (.t 52) (.skip) (.exit 2)))
 (.seq (.block 3 (.seq (.region (some [0, 1, 5, 6, 7, 9]) [⟨(some 55), .mv (.t 9), none⟩,
    ⟨(some 56), .mv (.t 1), none⟩,
    ⟨(some 57), .conv .i64 (.t 56), none⟩,
    ⟨(some 58), .bin .add (.t 55) (.t 57), none⟩,
    ⟨(some 59), .mv (.t 0), none⟩,
    ⟨(some 60), .len false (.t 59), none⟩,
    ⟨(some 61), .bin .rem (.t 58) (.t 60), none⟩,
    ⟨(some 10), .mv (.t 61), none⟩] [])
  (.region (some [0, 1, 5, 6, 7, 9, 10]) [⟨(some 62), .mv (.t 6), none⟩,
    ⟨(some 63), .mv (.t 10), none⟩,
    ⟨(some 64), .bsl 1 [.t 63], none⟩,
    ⟨(some 65), .app 1 (.t 62) (.t 64), none⟩,
    ⟨(some 66), .mv (.t 7), none⟩,
    ⟨(some 67), .mv (.t 0), none⟩,
    ⟨(some 68), .mv (.t 10), none⟩,
    ⟨(some 69), .iaddrS 49 (.t 67) (.t 68), none⟩,
    ⟨(some 70), .load true 49 (.t 69), none⟩,
    ⟨(some 71), .bsl 49 [.t 70], none⟩,
    ⟨(some 72), .app 49 (.t 66) (.t 71), none⟩,
    ⟨(some 6), .mv (.t 65), none⟩,
    ⟨(some 7), .mv (.t 72), none⟩] [(2, 8), (3, 8), (2, 9), (3, 9)])))
 (.region (some [0, 1, 5, 6, 7, 9]) [⟨(some 53), .mv (.t 9), none⟩,
   ⟨(some 54), .bin .add (.t 53) (.c (.d (.i .i64 1))), none⟩,
   ⟨(some 9), .mv (.t 54), none⟩] []))
def K_paddocklaw9_ChooseBest_2 : Option (List Nat) := (some [0, 11, 13])
def l_paddocklaw9_ChooseBest_2 : ACode :=
 .seq (.seq (.region (some [0, 11, 13]) [⟨(some 93), .mv (.t 13), none⟩,
   ⟨(some 94), .mv (.t 0), none⟩,
   ⟨(some 95), .len false (.t 94), none⟩,
   ⟨(some 96), .bin .lss (.t 93) (.t 95), none⟩] [])
 (.cond (.t 96) (.skip) (.exit 4)))
 (.seq (.block 5 (.seq (.region (some [0, 11, 13]) [⟨(some 100), .mv (.t 0), none⟩,
    ⟨(some 101), .mv (.t 13), none⟩,
    ⟨(some 102), .iaddrS 49 (.t 100) (.t 101), none⟩,
    ⟨(some 103), .load true 49 (.t 102), none⟩,
    ⟨(some 104), .call (.f F_paddockref6_Head) [.t 103], none⟩,
    ⟨(some 99), .mv (.t 104), none⟩,
    ⟨(some 105), .ext (.t 99) 0, none⟩,
    ⟨(some 106), .ext (.t 99) 1, none⟩,
    ⟨(some 14), .mv (.t 105), none⟩,
    ⟨(some 15), .mv (.t 106), none⟩] [])
  (.seq (.region (some [0, 11, 13, 14, 15]) [⟨(some 108), .mv (.t 0), none⟩,
    ⟨(some 109), .mv (.t 11), none⟩,
    ⟨(some 110), .iaddrS 49 (.t 108) (.t 109), none⟩,
    ⟨(some 111), .load true 49 (.t 110), none⟩,
    ⟨(some 112), .call (.f F_paddockref6_Head) [.t 111], none⟩,
    ⟨(some 107), .mv (.t 112), none⟩,
    ⟨(some 113), .ext (.t 107) 0, none⟩,
    ⟨(some 114), .ext (.t 107) 1, none⟩,
    ⟨(some 16), .mv (.t 113), none⟩,
    ⟨(some 17), .mv (.t 114), none⟩] [])
  (.seq (.region (some [0, 11, 13, 14, 15, 16, 17]) [⟨(some 115), .mv (.t 0), none⟩,
    ⟨(some 116), .mv (.t 13), none⟩,
    ⟨(some 117), .iaddrS 49 (.t 115) (.t 116), none⟩,
    ⟨(some 118), .faddr 0 (.t 117), none⟩,
    ⟨(some 119), .load false 1 (.t 118), none⟩,
    ⟨(some 120), .mv (.t 0), none⟩,
    ⟨(some 121), .mv (.t 11), none⟩,
    ⟨(some 122), .iaddrS 49 (.t 120) (.t 121), none⟩,
    ⟨(some 123), .faddr 0 (.t 122), none⟩,
    ⟨(some 124), .load false 1 (.t 123), none⟩,
    ⟨(some 125), .bin .gtr (.t 119) (.t 124), none⟩,
    ⟨(some 126), .mv (.t 125), none⟩,
    ⟨(some 127), .mv (.t 0), some (126, false)⟩,
    ⟨(some 128), .mv (.t 13), some (126, false)⟩,
    ⟨(some 129), .iaddrS 49 (.t 127) (.t 128), some (126, false)⟩,
    ⟨(some 130), .faddr 0 (.t 129), some (126, false)⟩,
    ⟨(some 131), .load false 1 (.t 130), some (126, false)⟩,
    ⟨(some 132), .mv (.t 0), some (126, false)⟩,
    ⟨(some 133), .mv (.t 11), some (126, false)⟩,
    ⟨(some 134), .iaddrS 49 (.t 132) (.t 133), some (126, false)⟩,
    ⟨(some 135), .faddr 0 (.t 134), some (126, false)⟩,
    ⟨(some 136), .load false 1 (.t 135), some (126, false)⟩,
    ⟨(some 137), .bin .eql (.t 131) (.t 136), some (126, false)⟩,
    ⟨(some 138), .mv (.t 137), some (126, false)⟩,
    ⟨(some 139), .mv (.t 14), some (138, true)⟩,
    ⟨(some 140), .mv (.t 16), some (138, true)⟩,
    ⟨(some 141), .bin .gtr (.t 139) (.t 140), some (138, true)⟩,
    ⟨(some 142), .mv (.t 141), some (138, true)⟩,
    ⟨(some 143), .mv (.t 14), some (142, false)⟩,
    ⟨(some 144), .mv (.t 16), some (142, false)⟩,
    ⟨(some 145), .bin .eql (.t 143) (.t 144), some (142, false)⟩,
    ⟨(some 146), .mv (.t 145), some (142, false)⟩,
    ⟨(some 147), .mv (.t 15), some (146, true)⟩,
    ⟨(some 148), .mv (.t 17), some (146, true)⟩,
    ⟨(some 149), .bin .gtr (.t 147) (.t 148), some (146, true)⟩,
    ⟨(some 150), .pick (.t 146) (.t 149) (.c (.d (.b false))), some (142, false)⟩,
    ⟨(some 151), .pick (.t 142) (.c (.d (.b true))) (.t 150), some (138, true)⟩,
    ⟨(some 152), .pick (.t 138) (.t 151) (.c (.d (.b false))), some (126, false)⟩,
    ⟨(some 153), .pick (.t 126) (.c (.d (.b true))) (.t 152), none⟩] [(4, 9), (16, 21)])
  (.cond (.t 153) (.seq (.region (some []) [⟨(some 4), .mv (.c (.d (.b false))), none⟩] [])
   (.ret)) (.skip))))))
 (.region (some [0, 11, 13]) [⟨(some 97), .mv (.t 13), none⟩,
   ⟨(some 98), .bin .add (.t 97) (.c (.d (.i .i64 1))), none⟩,
   ⟨(some 13), .mv (.t 98), none⟩] []))
def c_paddocklaw9_ChooseBest : ACode :=
 .seq (.region (some [0, 1]) [⟨(some 4), .mv (.c (.d (.b false))), none⟩] [])
 (.seq (.seq (.region (some [0, 1]) [⟨(some 18), .call (.f F_paddocklaw9_known) [], none⟩,
   ⟨(some 19), .un .not (.t 18), none⟩] [])
 (.cond (.t 19) (.seq (.region (some []) [⟨(some 4), .mv (.c (.d (.b false))), none⟩] [])
  (.ret)) (.skip)))
 (.seq (.seq (.region (some [0, 1]) [⟨(some 20), .mv (.t 0), none⟩,
   ⟨(some 21), .call (.f F_paddocklaw9_few) [.t 20], none⟩,
   ⟨(some 22), .un .not (.t 21), none⟩,
   ⟨(some 23), .mv (.t 22), none⟩,
   ⟨(some 24), .mv (.t 0), some (23, false)⟩,
   ⟨(some 25), .len false (.t 24), some (23, false)⟩,
   ⟨(some 26), .bin .eql (.t 25) (.c (.d (.i .i64 0))), some (23, false)⟩,
   ⟨(some 27), .pick (.t 23) (.c (.d (.b true))) (.t 26), none⟩,
   ⟨(some 28), .mv (.t 27), none⟩,
   ⟨(some 29), .mv (.t 0), some (28, false)⟩,
   ⟨(some 30), .len false (.t 29), some (28, false)⟩,
   ⟨(some 31), .bin .gtr (.t 30) (.c (.d (.i .i64 5))), some (28, false)⟩,
   ⟨(some 32), .pick (.t 28) (.c (.d (.b true))) (.t 31), none⟩] [])
 (.cond (.t 32) (.seq (.region (some []) [⟨(some 4), .mv (.c (.d (.b true))), none⟩] [])
  (.ret)) (.skip)))
 (.seq (.region (some [0, 1]) [⟨(some 5), .mv (.c (.nilS)), none⟩,
   ⟨(some 6), .mv (.c (.nilS)), none⟩] [])
 (.seq (.region (some [0, 1, 5, 6]) [⟨(some 7), .mv (.c (.nilS)), none⟩] [])
 (.seq (.seq (.region (some [0, 1, 5, 6, 7]) [⟨(some 8), .mv (.c (.d (.i .i64 0))), none⟩] [])
 (.block 0 (.loop K_paddocklaw9_ChooseBest_0 [5, 1] l_paddocklaw9_ChooseBest_0)))
 (.seq (.seq (.region (some [0, 1, 5, 6, 7]) [⟨(some 9), .mv (.c (.d (.i .i64 0))), none⟩] [])
 (.block 2 (.loop K_paddocklaw9_ChooseBest_1 [6, 1, 7, 49] l_paddocklaw9_ChooseBest_1)))
 (.seq (.region (some [0, 5, 6, 7]) [⟨(some 73), .mv (.t 5), none⟩,
   ⟨(some 74), .mv (.t 0), none⟩,
   ⟨(some 75), .call (.f F_choose_Best) [.t 73, .t 74], none⟩,
   ⟨(some 76), .mv (.t 6), none⟩,
   ⟨(some 77), .mv (.t 7), none⟩,
   ⟨(some 78), .call (.f F_choose_Best) [.t 76, .t 77], none⟩,
   ⟨(some 11), .mv (.t 75), none⟩,
   ⟨(some 12), .mv (.t 78), none⟩] [])
 (.seq (.seq (.region (some [0, 6, 11, 12]) [⟨(some 79), .mv (.t 11), none⟩,
   ⟨(some 80), .bin .lss (.t 79) (.c (.d (.i .i64 0))), none⟩,
   ⟨(some 81), .mv (.t 80), none⟩,
   ⟨(some 82), .mv (.t 12), some (81, false)⟩,
   ⟨(some 83), .bin .lss (.t 82) (.c (.d (.i .i64 0))), some (81, false)⟩,
   ⟨(some 84), .pick (.t 81) (.c (.d (.b true))) (.t 83), none⟩,
   ⟨(some 85), .mv (.t 84), none⟩,
   ⟨(some 86), .mv (.t 6), some (85, false)⟩,
   ⟨(some 87), .mv (.t 12), some (85, false)⟩,
   ⟨(some 88), .iaddrS 1 (.t 86) (.t 87), some (85, false)⟩,
   ⟨(some 89), .load false 1 (.t 88), some (85, false)⟩,
   ⟨(some 90), .mv (.t 11), some (85, false)⟩,
   ⟨(some 91), .bin .neq (.t 89) (.t 90), some (85, false)⟩,
   ⟨(some 92), .pick (.t 85) (.c (.d (.b true))) (.t 91), none⟩] [])
 (.cond (.t 92) (.seq (.region (some []) [⟨(some 4), .mv (.c (.d (.b false))), none⟩] [])
  (.ret)) (.skip)))
 (.seq (.seq (.region (some [0, 11]) [⟨(some 13), .mv (.c (.d (.i .i64 0))), none⟩] [])
 (.block 4 (.loop K_paddocklaw9_ChooseBest_2 [] l_paddocklaw9_ChooseBest_2)))
 (.seq (.region (some []) [⟨(some 4), .mv (.c (.d (.b true))), none⟩] [])
 (.ret)))))))))))
def a_paddocklaw9_ChooseBest : AFn := .code 2 c_paddocklaw9_ChooseBest [.tmp 4]
set_option maxRecDepth 100000 in
theorem k_paddocklaw9_ChooseBest : compF Try.prog h_paddocklaw9_ChooseBest F_paddocklaw9_ChooseBest = some a_paddocklaw9_ChooseBest := by kernel_rfl

/-- paddock/paddocklaw9.ChooseHears -/
def h_paddocklaw9_ChooseHears : Hints := { kp := [(0, [0, 1, 2, 3]), (1, [0, 1, 2, 3]), (2, []), (3, [0, 1, 2, 3]), (4, [1, 2, 3, 9]), (5, [1, 2, 3, 9, 10]), (6, [1, 2, 3, 9, 10, 11]), (7, [3, 9, 10, 11, 12, 13]), (8, [12, 13]), (9, [3, 9, 10, 11]), (10, [3, 9, 10, 11, 14]), (11, [3, 9, 10, 11, 14, 15]), (13, [3, 9, 10, 11, 14, 15]), (14, [3, 9, 10, 11, 14, 15, 16]), (15, [3, 9, 10, 11, 14, 15, 16, 17]), (17, [3, 9, 10, 11, 14, 15, 16, 17]), (16, [3, 9, 10, 11, 14, 15, 16, 17]), (18, [3, 9, 10, 11, 14, 15, 16]), (19, [3, 9, 10, 11, 14, 15]), (12, [3, 9, 10, 11, 14, 15]), (20, [3, 9, 10, 14]), (21, [9, 10, 14, 18]), (22, [9, 10, 18, 19]), (23, [9, 10, 18, 19, 20]), (25, [9, 10, 18, 19, 20]), (26, []), (24, [9, 10, 18, 19, 20]), (27, [9, 10, 18, 19])], lkp := [(11, [3, 9, 10, 11, 14, 15]), (15, [3, 9, 10, 11, 14, 15, 16, 17]), (23, [9, 10, 18, 19, 20])], lth := [(11, [14, 1])] }
def K_paddocklaw9_ChooseHears_0 : Option (List Nat) := (some [3, 9, 10, 11, 14, 15, 16, 17])
def l_paddocklaw9_ChooseHears_0 : ACode :=
 .seq (.seq (.region (some [3, 9, 10, 11, 14, 15, 16, 17]) [⟨(some 71), .mv (.t 17), none⟩,
   ⟨(some 72), .mv (.t 11), none⟩,
   ⟨(some 73), .len false (.t 72), none⟩,
   ⟨(some 74), .bin .lss (.t 71) (.t 73), none⟩] [])
 (.cond (.t 74) (.skip) (.exit 2)))
 (.seq (.block 3 (.region (some [3, 9, 10, 11, 14, 15, 16, 17]) [⟨(some 77), .mv (.t 16), none⟩,
    ⟨(some 78), .mv (.t 77), none⟩,
    ⟨(some 79), .mv (.t 11), some (78, false)⟩,
    ⟨(some 80), .mv (.t 17), some (78, false)⟩,
    ⟨(some 81), .iaddrS 1 (.t 79) (.t 80), some (78, false)⟩,
    ⟨(some 82), .load false 1 (.t 81), some (78, false)⟩,
    ⟨(some 83), .mv (.t 15), some (78, false)⟩,
    ⟨(some 84), .bin .eql (.t 82) (.t 83), some (78, false)⟩,
    ⟨(some 85), .pick (.t 78) (.c (.d (.b true))) (.t 84), none⟩,
    ⟨(some 16), .mv (.t 85), none⟩] []))
 (.region (some [3, 9, 10, 11, 14, 15, 16, 17]) [⟨(some 75), .mv (.t 17), none⟩,
   ⟨(some 76), .bin .add (.t 75) (.c (.d (.i .i64 1))), none⟩,
   ⟨(some 17), .mv (.t 76), none⟩] []))
def K_paddocklaw9_ChooseHears_1 : Option (List Nat) := (some [3, 9, 10, 11, 14, 15])
def l_paddocklaw9_ChooseHears_1 : ACode :=
 .seq (.seq (.region (some [3, 9, 10, 11, 14, 15]) [⟨(some 67), .mv (.t 15), none⟩,
   ⟨(some 68), .bin .lss (.t 67) (.c (.d (.i .i64 5))), none⟩] [])
 (.cond (.t 68) (.skip) (.exit 0)))
 (.seq (.block 1 (.seq (.region (some [3, 9, 10, 11, 14, 15]) [⟨(some 16), .mv (.c (.d (.b false))), none⟩] [])
  (.seq (.seq (.region (some [3, 9, 10, 11, 14, 15, 16]) [⟨(some 17), .mv (.c (.d (.i .i64 0))), none⟩] [])
  (.block 2 (.loop K_paddocklaw9_ChooseHears_0 [] l_paddocklaw9_ChooseHears_0)))
  (.seq (.region (some [3, 9, 10, 11, 14, 15, 16]) [⟨(some 86), .mv (.t 16), none⟩,
    ⟨(some 87), .un .not (.t 86), none⟩] [])
  (.cond (.t 87) (.region (some [3, 9, 10, 11, 14, 15]) [⟨(some 88), .mv (.t 14), none⟩,
     ⟨(some 89), .mv (.t 15), none⟩,
     ⟨(some 90), .bsl 1 [.t 89], none⟩,
     ⟨(some 91), .app 1 (.t 88) (.t 90), none⟩,
     ⟨(some 14), .mv (.t 91), none⟩] []) (.skip))))))
 (.region (some [3, 9, 10, 11, 14, 15]) [⟨(some 69), .mv (.t 15), none⟩,
   ⟨(some 70), .bin .add (.t 69) (.c (.d (.i .i64 1))), none⟩,
   ⟨(some 15), .mv (.t 70), none⟩] []))
def K_paddocklaw9_ChooseHears_2 : Option (List Nat) := (some [9, 10, 18, 19, 20])
def l_paddocklaw9_ChooseHears_2 : ACode :=
 .seq (.seq (.region (some [9, 10, 18, 19, 20]) [⟨(some 99), .mv (.t 20), none⟩,
   ⟨(some 100), .mv (.t 19), none⟩,
   ⟨(some 101), .len false (.t 100), none⟩,
   ⟨(some 102), .bin .lss (.t 99) (.t 101), none⟩] [])
 (.cond (.t 102) (.skip) (.exit 4)))
 (.seq (.block 5 (.seq (.region (some [9, 10, 18, 19, 20]) [⟨(some 105), .mv (.t 19), none⟩,
    ⟨(some 106), .mv (.t 20), none⟩,
    ⟨(some 107), .iaddrS 2 (.t 105) (.t 106), none⟩,
    ⟨(some 108), .faddr 0 (.t 107), none⟩,
    ⟨(some 109), .load false 1 (.t 108), none⟩,
    ⟨(some 110), .mv (.t 18), none⟩,
    ⟨(some 111), .bin .lss (.t 109) (.t 110), none⟩,
    ⟨(some 112), .mv (.t 111), none⟩,
    ⟨(some 113), .mv (.t 19), some (112, false)⟩,
    ⟨(some 114), .mv (.t 20), some (112, false)⟩,
    ⟨(some 115), .iaddrS 2 (.t 113) (.t 114), some (112, false)⟩,
    ⟨(some 116), .faddr 1 (.t 115), some (112, false)⟩,
    ⟨(some 117), .load false 1 (.t 116), some (112, false)⟩,
    ⟨(some 118), .len false (.t 117), some (112, false)⟩,
    ⟨(some 119), .bin .lss (.t 118) (.c (.d (.i .i64 2))), some (112, false)⟩,
    ⟨(some 120), .pick (.t 112) (.c (.d (.b true))) (.t 119), none⟩] [])
  (.cond (.t 120) (.seq (.region (some []) [⟨(some 8), .mv (.c (.d (.b false))), none⟩] [])
   (.ret)) (.skip))))
 (.region (some [9, 10, 18, 19, 20]) [⟨(some 103), .mv (.t 20), none⟩,
   ⟨(some 104), .bin .add (.t 103) (.c (.d (.i .i64 1))), none⟩,
   ⟨(some 20), .mv (.t 104), none⟩] []))
def c_paddocklaw9_ChooseHears : ACode :=
 .seq (.region (some [0, 1, 2, 3]) [⟨(some 8), .mv (.c (.d (.b false))), none⟩] [])
 (.seq (.seq (.region (some [0, 1, 2, 3]) [⟨(some 21), .call (.f F_paddocklaw9_known) [], none⟩,
   ⟨(some 22), .un .not (.t 21), none⟩] [])
 (.cond (.t 22) (.seq (.region (some []) [⟨(some 8), .mv (.c (.d (.b false))), none⟩] [])
  (.ret)) (.skip)))
 (.seq (.region (some [0, 1, 2, 3]) [⟨(some 23), .mv (.t 0), none⟩,
   ⟨(some 24), .bin .rem (.t 23) (.c (.d (.i .u8 4))), none⟩,
   ⟨(some 9), .mv (.t 24), none⟩] [])
 (.seq (.region (some [1, 2, 3, 9]) [⟨(some 25), .call (.f F_history_New) [], none⟩,
   ⟨(some 10), .mv (.t 25), none⟩] [])
 (.seq (.region (some [1, 2, 3, 9, 10]) [⟨(some 26), .mv (.t 10), none⟩,
   ⟨(some 27), .mv (.t 9), none⟩,
   ⟨(some 28), .call (.f F_history_History_Acting) [.t 26, .t 27], none⟩,
   ⟨(some 11), .mv (.t 28), none⟩] [])
 (.seq (.region (some [1, 2, 3, 9, 10, 11]) [⟨(some 29), .mv (.t 11), none⟩,
   ⟨(some 30), .mv (.t 1), none⟩,
   ⟨(some 31), .conv .i64 (.t 30), none⟩,
   ⟨(some 32), .mv (.t 11), none⟩,
   ⟨(some 33), .len false (.t 32), none⟩,
   ⟨(some 34), .bin .rem (.t 31) (.t 33), none⟩,
   ⟨(some 35), .iaddrS 1 (.t 29) (.t 34), none⟩,
   ⟨(some 36), .load false 1 (.t 35), none⟩,
   ⟨(some 37), .mv (.t 11), none⟩,
   ⟨(some 38), .mv (.t 2), none⟩,
   ⟨(some 39), .conv .i64 (.t 38), none⟩,
   ⟨(some 40), .mv (.t 11), none⟩,
   ⟨(some 41), .len false (.t 40), none⟩,
   ⟨(some 42), .bin .rem (.t 39) (.t 41), none⟩,
   ⟨(some 43), .iaddrS 1 (.t 37) (.t 42), none⟩,
   ⟨(some 44), .load false 1 (.t 43), none⟩,
   ⟨(some 12), .mv (.t 36), none⟩,
   ⟨(some 13), .mv (.t 44), none⟩] [(7, 15)])
 (.seq (.seq (.region (some [3, 9, 10, 11, 12, 13]) [⟨(some 45), .mv (.t 12), none⟩,
   ⟨(some 46), .mv (.t 13), none⟩,
   ⟨(some 47), .bin .eql (.t 45) (.t 46), none⟩,
   ⟨(some 48), .mv (.t 47), none⟩,
   ⟨(some 49), .mv (.t 10), some (48, false)⟩,
   ⟨(some 50), .mv (.t 12), some (48, false)⟩,
   ⟨(some 51), .conv .u8 (.t 50), some (48, false)⟩,
   ⟨(some 52), .build [.d (.i .u8 0), .d (.i .u8 0), .d (.i .i64 0)] [(0, 1, .c (.d (.i .u8 3))), (1, 1, .t 51)], some (48, false)⟩,
   ⟨(some 53), .call (.f F_history_History_Add) [.t 49, .c (.d (.i .u32 2)), .t 52], some (48, false)⟩,
   ⟨(some 54), .bin .neq (.t 53) (.c (.d (.i .i64 0))), some (48, false)⟩,
   ⟨(some 55), .pick (.t 48) (.c (.d (.b true))) (.t 54), none⟩,
   ⟨(some 56), .mv (.t 55), none⟩,
   ⟨(some 57), .mv (.t 10), some (56, false)⟩,
   ⟨(some 58), .mv (.t 13), some (56, false)⟩,
   ⟨(some 59), .conv .u8 (.t 58), some (56, false)⟩,
   ⟨(some 60), .build [.d (.i .u8 0), .d (.i .u8 0), .d (.i .i64 0)] [(0, 1, .c (.d (.i .u8 3))), (1, 1, .t 59)], some (56, false)⟩,
   ⟨(some 61), .call (.f F_history_History_Add) [.t 57, .c (.d (.i .u32 3)), .t 60], some (56, false)⟩,
   ⟨(some 62), .bin .neq (.t 61) (.c (.d (.i .i64 0))), some (56, false)⟩,
   ⟨(some 63), .pick (.t 56) (.c (.d (.b true))) (.t 62), none⟩] [])
 (.cond (.t 63) (.seq (.region (some [12, 13]) [⟨(some 64), .mv (.t 12), none⟩,
    ⟨(some 65), .mv (.t 13), none⟩,
    ⟨(some 66), .bin .eql (.t 64) (.t 65), none⟩,
    ⟨(some 8), .mv (.t 66), none⟩] [])
  (.ret)) (.skip)))
 (.seq (.region (some [3, 9, 10, 11]) [⟨(some 14), .mv (.c (.nilS)), none⟩] [])
 (.seq (.seq (.region (some [3, 9, 10, 11, 14]) [⟨(some 15), .mv (.c (.d (.i .i64 0))), none⟩] [])
 (.block 0 (.loop K_paddocklaw9_ChooseHears_1 [14, 1] l_paddocklaw9_ChooseHears_1)))
 (.seq (.region (some [3, 9, 10, 14]) [⟨(some 92), .mv (.t 3), none⟩,
   ⟨(some 93), .bin .rem (.t 92) (.c (.d (.i .u32 4))), none⟩,
   ⟨(some 18), .mv (.t 93), none⟩] [])
 (.seq (.region (some [9, 10, 14, 18]) [⟨(some 94), .mv (.t 10), none⟩,
   ⟨(some 95), .mv (.t 9), none⟩,
   ⟨(some 96), .mv (.t 14), none⟩,
   ⟨(some 97), .mv (.t 18), none⟩,
   ⟨(some 98), .call (.f F_choose_Lacks) [.t 94, .t 95, .t 96, .t 97], none⟩,
   ⟨(some 19), .mv (.t 98), none⟩] [])
 (.seq (.seq (.region (some [9, 10, 18, 19]) [⟨(some 20), .mv (.c (.d (.i .i64 0))), none⟩] [])
 (.block 4 (.loop K_paddocklaw9_ChooseHears_2 [] l_paddocklaw9_ChooseHears_2)))
 (.seq (.region (some [9, 10, 18, 19]) [⟨(some 121), .mv (.t 19), none⟩,
   ⟨(some 122), .len false (.t 121), none⟩,
   ⟨(some 123), .bin .gtr (.t 122) (.c (.d (.i .i64 0))), none⟩,
   ⟨(some 124), .mv (.t 123), none⟩,
   ⟨(some 125), .mv (.t 18), some (124, false)⟩,
   ⟨(some 126), .bin .gtr (.t 125) (.c (.d (.i .u32 1))), some (124, false)⟩,
   ⟨(some 127), .pick (.t 124) (.c (.d (.b true))) (.t 126), none⟩,
   ⟨(some 128), .mv (.t 127), none⟩,
   ⟨(some 129), .mv (.t 10), some (128, true)⟩,
   ⟨(some 130), .mv (.t 9), some (128, true)⟩,
   ⟨(some 131), .bsl 1 [.c (.d (.i .i64 0)), .c (.d (.i .i64 1)), .c (.d (.i .i64 2)), .c (.d (.i .i64 3)), .c (.d (.i .i64 4))], some (128, true)⟩,
   ⟨(some 132), .mv (.t 18), some (128, true)⟩,
   ⟨(some 133), .call (.f F_choose_Lacks) [.t 129, .t 130, .t 131, .t 132], some (128, true)⟩,
   ⟨(some 134), .len false (.t 133), some (128, true)⟩,
   ⟨(some 135), .bin .eql (.t 134) (.c (.d (.i .i64 0))), some (128, true)⟩,
   ⟨(some 136), .pick (.t 128) (.t 135) (.c (.d (.b false))), none⟩,
   ⟨(some 8), .mv (.t 136), none⟩] [])
 (.ret)))))))))))))
def a_paddocklaw9_ChooseHears : AFn := .code 4 c_paddocklaw9_ChooseHears [.tmp 8]
set_option maxRecDepth 100000 in
theorem k_paddocklaw9_ChooseHears : compF Try.prog h_paddocklaw9_ChooseHears F_paddocklaw9_ChooseHears = some a_paddocklaw9_ChooseHears := by kernel_rfl

/-- paddock/paddocklaw9.ChooseFew -/
def h_paddocklaw9_ChooseFew : Hints := { kp := [(0, [0, 1]), (1, [0, 3]), (2, []), (3, [0, 3]), (4, [3, 5]), (5, [3, 5, 6]), (6, [3, 5, 6, 7]), (7, [3, 5, 6, 7, 8]), (9, [3, 5, 6, 7, 8]), (10, [3, 5, 6, 7, 8]), (11, [3, 5, 6, 7, 8]), (12, []), (8, [3, 5, 6, 7, 8]), (13, [3, 5, 6, 7]), (14, [3, 5, 6, 7, 9]), (15, []), (16, [3, 5, 6, 7]), (17, [3, 5, 6, 7, 10]), (19, [3, 5, 6, 7, 10]), (20, [3, 5, 6, 7, 10]), (21, [3, 5, 6, 7, 10]), (22, []), (18, [3, 5, 6, 7, 10]), (23, [5, 6]), (24, [5, 6, 11]), (25, [5, 6, 11, 12]), (27, [5, 6, 11, 12]), (28, []), (26, [5, 6, 11, 12]), (29, [5, 6])], lkp := [(7, [3, 5, 6, 7, 8]), (17, [3, 5, 6, 7, 10]), (25, [5, 6, 11, 12])], lth := [] }
def K_paddocklaw9_ChooseFew_0 : Option (List Nat) := (some [3, 5, 6, 7, 8])
def l_paddocklaw9_ChooseFew_0 : ACode :=
 .seq (.seq (.region (some [3, 5, 6, 7, 8]) [⟨(some 18), .mv (.t 8), none⟩,
   ⟨(some 19), .bin .lss (.t 18) (.c (.d (.i .i64 5))), none⟩] [])
 (.cond (.t 19) (.skip) (.exit 0)))
 (.seq (.block 1 (.seq (.region (some [3, 5, 6, 7, 8]) [⟨(some 22), .mv (.t 8), none⟩,
    ⟨(some 23), .iaddrA 5 1 (.t 3) (.t 22), none⟩,
    ⟨(some 24), .load false 1 (.t 23), none⟩] [])
  (.cond (.t 24) (.seq (.region (some [3, 5, 6, 7, 8]) [⟨(some 25), .mv (.t 7), none⟩,
     ⟨(some 26), .bin .add (.t 25) (.c (.d (.i .u32 1))), none⟩,
     ⟨(some 7), .mv (.t 26), none⟩] [])
   (.seq (.region (some [3, 5, 6, 7, 8]) [⟨(some 27), .mv (.t 6), none⟩,
     ⟨(some 28), .mv (.t 7), none⟩,
     ⟨(some 29), .mv (.t 8), none⟩,
     ⟨(some 30), .conv .u8 (.t 29), none⟩,
     ⟨(some 31), .build [.d (.i .u8 0), .d (.i .u8 0), .d (.i .i64 0)] [(0, 1, .c (.d (.i .u8 2))), (1, 1, .t 30)], none⟩,
     ⟨(some 32), .call (.f F_history_History_Add) [.t 27, .t 28, .t 31], none⟩,
     ⟨(some 33), .bin .neq (.t 32) (.c (.d (.i .i64 0))), none⟩] [])
   (.cond (.t 33) (.seq (.region (some []) [⟨(some 4), .mv (.c (.d (.b false))), none⟩] [])
    (.ret)) (.skip)))) (.skip))))
 (.region (some [3, 5, 6, 7, 8]) [⟨(some 20), .mv (.t 8), none⟩,
   ⟨(some 21), .bin .add (.t 20) (.c (.d (.i .i64 1))), none⟩,
   ⟨(some 8), .mv (.t 21), none⟩] []))
def K_paddocklaw9_ChooseFew_1 : Option (List Nat) := (some [3, 5, 6, 7, 10])
def l_paddocklaw9_ChooseFew_1 : ACode :=
 .seq (.seq (.region (some [3, 5, 6, 7, 10]) [⟨(some 44), .mv (.t 10), none⟩,
   ⟨(some 45), .bin .lss (.t 44) (.c (.d (.i .i64 5))), none⟩] [])
 (.cond (.t 45) (.skip) (.exit 2)))
 (.seq (.block 3 (.seq (.region (some [3, 5, 6, 7, 10]) [⟨(some 48), .mv (.t 10), none⟩,
    ⟨(some 49), .iaddrA 5 1 (.t 3) (.t 48), none⟩,
    ⟨(some 50), .load false 1 (.t 49), none⟩] [])
  (.cond (.t 50) (.seq (.region (some [3, 5, 6, 7, 10]) [⟨(some 51), .mv (.t 7), none⟩,
     ⟨(some 52), .bin .add (.t 51) (.c (.d (.i .u32 1))), none⟩,
     ⟨(some 7), .mv (.t 52), none⟩] [])
   (.seq (.region (some [3, 5, 6, 7, 10]) [⟨(some 53), .mv (.t 6), none⟩,
     ⟨(some 54), .mv (.t 7), none⟩,
     ⟨(some 55), .mv (.t 10), none⟩,
     ⟨(some 56), .conv .u8 (.t 55), none⟩,
     ⟨(some 57), .build [.d (.i .u8 0), .d (.i .u8 0), .d (.i .i64 0)] [(0, 1, .c (.d (.i .u8 1))), (1, 1, .t 56)], none⟩,
     ⟨(some 58), .call (.f F_history_History_Add) [.t 53, .t 54, .t 57], none⟩,
     ⟨(some 59), .bin .neq (.t 58) (.c (.d (.i .i64 0))), none⟩] [])
   (.cond (.t 59) (.seq (.region (some []) [⟨(some 4), .mv (.c (.d (.b false))), none⟩] [])
    (.ret)) (.skip)))) (.skip))))
 (.region (some [3, 5, 6, 7, 10]) [⟨(some 46), .mv (.t 10), none⟩,
   ⟨(some 47), .bin .add (.t 46) (.c (.d (.i .i64 1))), none⟩,
   ⟨(some 10), .mv (.t 47), none⟩] []))
def K_paddocklaw9_ChooseFew_2 : Option (List Nat) := (some [5, 6, 11, 12])
def l_paddocklaw9_ChooseFew_2 : ACode :=
 .seq (.seq (.region (some [5, 6, 11, 12]) [⟨(some 63), .mv (.t 12), none⟩,
   ⟨(some 64), .mv (.t 11), none⟩,
   ⟨(some 65), .len false (.t 64), none⟩,
   ⟨(some 66), .bin .lss (.t 63) (.t 65), none⟩] [])
 (.cond (.t 66) (.skip) (.exit 4)))
 (.seq (.block 5 (.seq (.region (some [5, 6, 11, 12]) [⟨(some 69), .mv (.t 11), none⟩,
    ⟨(some 70), .mv (.t 12), none⟩,
    ⟨(some 71), .iaddrS 2 (.t 69) (.t 70), none⟩,
    ⟨(some 72), .faddr 1 (.t 71), none⟩,
    ⟨(some 73), .load false 1 (.t 72), none⟩,
    ⟨(some 74), .len false (.t 73), none⟩,
    ⟨(some 75), .bin .lss (.t 74) (.c (.d (.i .i64 2))), none⟩] [])
  (.cond (.t 75) (.seq (.region (some []) [⟨(some 4), .mv (.c (.d (.b false))), none⟩] [])
   (.ret)) (.skip))))
 (.region (some [5, 6, 11, 12]) [⟨(some 67), .mv (.t 12), none⟩,
   ⟨(some 68), .bin .add (.t 67) (.c (.d (.i .i64 1))), none⟩,
   ⟨(some 12), .mv (.t 68), none⟩] []))
def c_paddocklaw9_ChooseFew : ACode :=
 .seq (.region (some [0, 1]) [⟨(some 3), .box (.t 1), none⟩,
   ⟨(some 4), .mv (.c (.d (.b false))), none⟩] [])
 (.seq (.seq (.region (some [0, 3]) [⟨(some 13), .call (.f F_paddocklaw9_known) [], none⟩,
   ⟨(some 14), .un .not (.t 13), none⟩] [])
 (.cond (.t 14) (.seq (.region (some []) [⟨(some 4), .mv (.c (.d (.b false))), none⟩] [])
  (.ret)) (.skip)))
 (.seq (.region (some [0, 3]) [⟨(some 15), .mv (.t 0), none⟩,
   ⟨(some 16), .bin .rem (.t 15) (.c (.d (.i .u8 4))), none⟩,
   ⟨(some 5), .mv (.t 16), none⟩] [])
 (.seq (.region (some [3, 5]) [⟨(some 17), .call (.f F_history_New) [], none⟩,
   ⟨(some 6), .mv (.t 17), none⟩] [])
 (.seq (.region (some [3, 5, 6]) [⟨(some 7), .mv (.c (.d (.i .u32 1))), none⟩] [])
 (.seq (.seq (.region (some [3, 5, 6, 7]) [⟨(some 8), .mv (.c (.d (.i .i64 0))), none⟩] [])
 (.block 0 (.loop K_paddocklaw9_ChooseFew_0 [] l_paddocklaw9_ChooseFew_0)))
 (.seq (.region (some [3, 5, 6, 7]) [⟨(some 34), .mv (.t 6), none⟩,
   ⟨(some 35), .mv (.t 5), none⟩,
   ⟨(some 36), .call (.f F_history_History_Acting) [.t 34, .t 35], none⟩,
   ⟨(some 37), .len false (.t 36), none⟩,
   ⟨(some 38), .bin .lss (.t 37) (.c (.d (.i .i64 2))), none⟩,
   ⟨(some 9), .mv (.t 38), none⟩] [])
 (.seq (.seq (.region (some [3, 5, 6, 7, 9]) [⟨(some 39), .mv (.t 6), none⟩,
   ⟨(some 40), .mv (.t 5), none⟩,
   ⟨(some 41), .call (.f F_choose_Serves) [.t 39, .t 40], none⟩,
   ⟨(some 42), .mv (.t 9), none⟩,
   ⟨(some 43), .eq false (.sb) (.t 41) (.t 42), none⟩] [])
 (.cond (.t 43) (.seq (.region (some []) [⟨(some 4), .mv (.c (.d (.b false))), none⟩] [])
  (.ret)) (.skip)))
 (.seq (.seq (.region (some [3, 5, 6, 7]) [⟨(some 10), .mv (.c (.d (.i .i64 0))), none⟩] [])
 (.block 2 (.loop K_paddocklaw9_ChooseFew_1 [] l_paddocklaw9_ChooseFew_1)))
 (.seq (.region (some [5, 6]) [⟨(some 60), .mv (.t 6), none⟩,
   ⟨(some 61), .mv (.t 5), none⟩,
   ⟨(some 62), .call (.f F_choose_Lacks) [.t 60, .t 61, .c (.nilS), .c (.d (.i .u32 0))], none⟩,
   ⟨(some 11), .mv (.t 62), none⟩] [])
 (.seq (.seq (.region (some [5, 6, 11]) [⟨(some 12), .mv (.c (.d (.i .i64 0))), none⟩] [])
 (.block 4 (.loop K_paddocklaw9_ChooseFew_2 [] l_paddocklaw9_ChooseFew_2)))
 (.seq (.region (some [5, 6]) [⟨(some 76), .mv (.t 6), none⟩,
   ⟨(some 77), .mv (.t 5), none⟩,
   ⟨(some 78), .call (.f F_choose_Serves) [.t 76, .t 77], none⟩,
   ⟨(some 4), .mv (.t 78), none⟩] [])
 (.ret))))))))))))
def a_paddocklaw9_ChooseFew : AFn := .code 2 c_paddocklaw9_ChooseFew [.tmp 4]
set_option maxRecDepth 100000 in
theorem k_paddocklaw9_ChooseFew : compF Try.prog h_paddocklaw9_ChooseFew F_paddocklaw9_ChooseFew = some a_paddocklaw9_ChooseFew := by kernel_rfl

/-- paddock/paddocklaw9.ChooseMore -/
def h_paddocklaw9_ChooseMore : Hints := { kp := [(0, [0, 1, 2, 3, 4]), (1, [0, 1, 2, 3, 4]), (2, []), (3, [0, 1, 2, 3, 4]), (4, []), (5, [0, 1, 2, 3, 4]), (6, [1, 2, 3, 4, 11]), (7, [1, 2, 4, 11, 13]), (8, [1, 2, 11, 13, 14]), (9, [1, 2, 11, 13, 14, 15, 16, 17]), (10, [1, 2, 11, 13, 14, 15, 16, 17, 18])], lkp := [], lth := [] }
def c_paddocklaw9_ChooseMore : ACode :=
 .seq (.region (some [0, 1, 2, 3, 4]) [⟨(some 10), .mv (.c (.d (.b false))), none⟩] [])
 (.seq (.seq (.region (some [0, 1, 2, 3, 4]) [⟨(some 19), .call (.f F_paddocklaw9_known) [], none⟩,
   ⟨(some 20), .un .not (.t 19), none⟩] [])
 (.cond (.t 20) (.seq (.region (some []) [⟨(some 10), .mv (.c (.d (.b false))), none⟩] [])
  (.ret)) (.skip)))
 (.seq (.seq (.region (some [0, 1, 2, 3, 4]) [⟨(some 21), .mv (.t 0), none⟩,
   ⟨(some 22), .len false (.t 21), none⟩,
   ⟨(some 23), .bin .gtr (.t 22) (.c (.d (.i .i64 25))), none⟩,
   ⟨(some 24), .mv (.t 23), none⟩,
   ⟨(some 25), .mv (.t 2), some (24, false)⟩,
   ⟨(some 26), .len false (.t 25), some (24, false)⟩,
   ⟨(some 27), .bin .gtr (.t 26) (.c (.d (.i .i64 10))), some (24, false)⟩,
   ⟨(some 28), .pick (.t 24) (.c (.d (.b true))) (.t 27), none⟩,
   ⟨(some 29), .mv (.t 28), none⟩,
   ⟨(some 30), .mv (.t 1), some (29, false)⟩,
   ⟨(some 31), .bin .geq (.t 30) (.c (.d (.i .u8 4))), some (29, false)⟩,
   ⟨(some 32), .pick (.t 29) (.c (.d (.b true))) (.t 31), none⟩] [])
 (.cond (.t 32) (.seq (.region (some []) [⟨(some 10), .mv (.c (.d (.b true))), none⟩] [])
  (.ret)) (.skip)))
 (.seq (.region (some [0, 1, 2, 3, 4]) [⟨(some 34), .mv (.t 0), none⟩,
   ⟨(some 35), .call (.f F_paddocklaw9_both) [.t 34], none⟩,
   ⟨(some 33), .mv (.t 35), none⟩,
   ⟨(some 36), .ext (.t 33) 0, none⟩,
   ⟨(some 37), .ext (.t 33) 1, none⟩,
   ⟨(some 11), .mv (.t 36), none⟩,
   ⟨(some 12), .mv (.t 37), none⟩] [])
 (.seq (.region (some [1, 2, 3, 4, 11]) [⟨(some 38), .mv (.t 2), none⟩,
   ⟨(some 39), .app 1 (.c (.nilS)) (.t 38), none⟩,
   ⟨(some 40), .mv (.t 3), none⟩,
   ⟨(some 41), .bin .rem (.t 40) (.c (.d (.i .u8 5))), none⟩,
   ⟨(some 42), .conv .i64 (.t 41), none⟩,
   ⟨(some 43), .bsl 1 [.t 42], none⟩,
   ⟨(some 44), .app 1 (.t 39) (.t 43), none⟩,
   ⟨(some 13), .mv (.t 44), none⟩] [])
 (.seq (.region (some [1, 2, 4, 11, 13]) [⟨(some 45), .mv (.t 4), none⟩,
   ⟨(some 46), .bin .rem (.t 45) (.c (.d (.i .u32 70))), none⟩,
   ⟨(some 14), .mv (.t 46), none⟩] [])
 (.seq (.region (some [1, 2, 11, 13, 14]) [⟨(some 47), .mv (.t 11), none⟩,
   ⟨(some 48), .mv (.t 1), none⟩,
   ⟨(some 49), .mv (.t 2), none⟩,
   ⟨(some 50), .mv (.t 14), none⟩,
   ⟨(some 51), .call (.f F_choose_Lacks) [.t 47, .t 48, .t 49, .t 50], none⟩,
   ⟨(some 52), .mv (.t 11), none⟩,
   ⟨(some 53), .mv (.t 1), none⟩,
   ⟨(some 54), .mv (.t 13), none⟩,
   ⟨(some 55), .mv (.t 14), none⟩,
   ⟨(some 56), .call (.f F_choose_Lacks) [.t 52, .t 53, .t 54, .t 55], none⟩,
   ⟨(some 57), .mv (.t 11), none⟩,
   ⟨(some 58), .mv (.t 1), none⟩,
   ⟨(some 59), .mv (.t 2), none⟩,
   ⟨(some 60), .mv (.t 14), none⟩,
   ⟨(some 61), .bin .add (.t 60) (.c (.d (.i .u32 1))), none⟩,
   ⟨(some 62), .call (.f F_choose_Lacks) [.t 57, .t 58, .t 59, .t 61], none⟩,
   ⟨(some 15), .mv (.t 51), none⟩,
   ⟨(some 16), .mv (.t 56), none⟩,
   ⟨(some 17), .mv (.t 62), none⟩] [])
 (.seq (.region (some [1, 2, 11, 13, 14, 15, 16, 17]) [⟨(some 63), .bsl 1 [.c (.d (.i .i64 0)), .c (.d (.i .i64 1)), .c (.d (.i .i64 2)), .c (.d (.i .i64 3)), .c (.d (.i .i64 4))], none⟩,
   ⟨(some 18), .mv (.t 63), none⟩] [])
 (.seq (.region (some [1, 2, 11, 13, 14, 15, 16, 17, 18]) [⟨(some 64), .mv (.t 16), none⟩,
   ⟨(some 65), .len false (.t 64), none⟩,
   ⟨(some 66), .mv (.t 15), none⟩,
   ⟨(some 67), .len false (.t 66), none⟩,
   ⟨(some 68), .bin .leq (.t 65) (.t 67), none⟩,
   ⟨(some 69), .mv (.t 68), none⟩,
   ⟨(some 70), .mv (.t 17), some (69, true)⟩,
   ⟨(some 71), .len false (.t 70), some (69, true)⟩,
   ⟨(some 72), .mv (.t 15), some (69, true)⟩,
   ⟨(some 73), .len false (.t 72), some (69, true)⟩,
   ⟨(some 74), .bin .leq (.t 71) (.t 73), some (69, true)⟩,
   ⟨(some 75), .pick (.t 69) (.t 74) (.c (.d (.b false))), none⟩,
   ⟨(some 76), .mv (.t 75), none⟩,
   ⟨(some 77), .mv (.t 11), some (76, true)⟩,
   ⟨(some 78), .mv (.t 1), some (76, true)⟩,
   ⟨(some 79), .mv (.t 18), some (76, true)⟩,
   ⟨(some 80), .mv (.t 14), some (76, true)⟩,
   ⟨(some 81), .call (.f F_choose_Enough) [.t 77, .t 78, .t 79, .t 80], some (76, true)⟩,
   ⟨(some 82), .pick (.t 76) (.t 81) (.c (.d (.b false))), none⟩,
   ⟨(some 83), .mv (.t 82), none⟩,
   ⟨(some 84), .mv (.t 11), some (83, true)⟩,
   ⟨(some 85), .mv (.t 1), some (83, true)⟩,
   ⟨(some 86), .mv (.t 18), some (83, true)⟩,
   ⟨(some 87), .call (.f F_choose_Lacks) [.t 84, .t 85, .t 86, .c (.d (.i .u32 0))], some (83, true)⟩,
   ⟨(some 88), .len false (.t 87), some (83, true)⟩,
   ⟨(some 89), .bin .eql (.t 88) (.c (.d (.i .i64 0))), some (83, true)⟩,
   ⟨(some 90), .pick (.t 83) (.t 89) (.c (.d (.b false))), none⟩,
   ⟨(some 91), .mv (.t 90), none⟩,
   ⟨(some 92), .mv (.t 11), some (91, true)⟩,
   ⟨(some 93), .mv (.t 1), some (91, true)⟩,
   ⟨(some 94), .mv (.t 2), some (91, true)⟩,
   ⟨(some 95), .mv (.t 14), some (91, true)⟩,
   ⟨(some 96), .call (.f F_choose_Enough) [.t 92, .t 93, .t 94, .t 95], some (91, true)⟩,
   ⟨(some 97), .un .not (.t 96), some (91, true)⟩,
   ⟨(some 98), .mv (.t 97), some (91, true)⟩,
   ⟨(some 99), .mv (.t 11), some (98, false)⟩,
   ⟨(some 100), .mv (.t 1), some (98, false)⟩,
   ⟨(some 101), .mv (.t 13), some (98, false)⟩,
   ⟨(some 102), .mv (.t 14), some (98, false)⟩,
   ⟨(some 103), .call (.f F_choose_Enough) [.t 99, .t 100, .t 101, .t 102], some (98, false)⟩,
   ⟨(some 104), .mv (.t 103), some (98, false)⟩,
   ⟨(some 105), .mv (.t 11), some (104, true)⟩,
   ⟨(some 106), .mv (.t 1), some (104, true)⟩,
   ⟨(some 107), .mv (.t 2), some (104, true)⟩,
   ⟨(some 108), .mv (.t 14), some (104, true)⟩,
   ⟨(some 109), .bin .add (.t 108) (.c (.d (.i .u32 1))), some (104, true)⟩,
   ⟨(some 110), .call (.f F_choose_Enough) [.t 105, .t 106, .t 107, .t 109], some (104, true)⟩,
   ⟨(some 111), .pick (.t 104) (.t 110) (.c (.d (.b false))), some (98, false)⟩,
   ⟨(some 112), .pick (.t 98) (.c (.d (.b true))) (.t 111), some (91, true)⟩,
   ⟨(some 113), .pick (.t 91) (.t 112) (.c (.d (.b false))), none⟩,
   ⟨(some 10), .mv (.t 113), none⟩] [])
 (.ret)))))))))
def a_paddocklaw9_ChooseMore : AFn := .code 5 c_paddocklaw9_ChooseMore [.tmp 10]
set_option maxRecDepth 100000 in
theorem k_paddocklaw9_ChooseMore : compF Try.prog h_paddocklaw9_ChooseMore F_paddocklaw9_ChooseMore = some a_paddocklaw9_ChooseMore := by kernel_rfl

/-- paddock/paddocklaw9.ChooseStarted -/
def h_paddocklaw9_ChooseStarted : Hints := { kp := [(0, [0, 1]), (1, [0, 1]), (2, []), (3, [0, 1]), (4, []), (5, [0, 1]), (6, [0, 1, 5]), (7, [0, 1, 5, 6]), (9, [0, 1, 5, 6]), (8, [0, 1, 5, 6]), (10, [1, 5]), (11, [1, 5, 7]), (12, [1, 5, 7, 8])], lkp := [(7, [0, 1, 5, 6])], lth := [] }
def K_paddocklaw9_ChooseStarted_0 : Option (List Nat) := (some [0, 1, 5, 6])
def l_paddocklaw9_ChooseStarted_0 : ACode :=
 .seq (.seq (.region (some [0, 1, 5, 6]) [⟨(some 19), .mv (.t 6), none⟩,
   ⟨(some 20), .mv (.t 0), none⟩,
   ⟨(some 21), .len false (.t 20), none⟩,
   ⟨(some 22), .bin .lss (.t 19) (.t 21), none⟩] [])
 (.cond (.t 22) (.skip) (.exit 0)))
 (.seq (.block 1 (.region (some [0, 1, 5, 6]) [⟨(some 25), .mv (.t 5), none⟩,
    ⟨(some 26), .mv (.t 5), none⟩,
    ⟨(some 27), .call (.f F_history_History_Last) [.t 26], none⟩,
    ⟨(some 28), .bin .add (.t 27) (.c (.d (.i .u32 1))), none⟩,
    ⟨(some 29), .mv (.t 0), none⟩,
    ⟨(some 30), .mv (.t 6), none⟩,
    ⟨(some 31), .iaddrS 3 (.t 29) (.t 30), none⟩,
    ⟨(some 32), .load true 3 (.t 31), none⟩,
    ⟨(some 33), .call (.f F_history_History_Add) [.t 25, .t 28, .t 32], none⟩] [(2, 7)]))
 (.region (some [0, 1, 5, 6]) [⟨(some 23), .mv (.t 6), none⟩,
   ⟨(some 24), .bin .add (.t 23) (.c (.d (.i .i64 1))), none⟩,
   ⟨(some 6), .mv (.t 24), none⟩] []))
def c_paddocklaw9_ChooseStarted : ACode :=
 .seq (.region (some [0, 1]) [⟨(some 4), .mv (.c (.d (.b false))), none⟩] [])
 (.seq (.seq (.region (some [0, 1]) [⟨(some 9), .call (.f F_paddocklaw9_known) [], none⟩,
   ⟨(some 10), .un .not (.t 9), none⟩] [])
 (.cond (.t 10) (.seq (.region (some []) [⟨(some 4), .mv (.c (.d (.b false))), none⟩] [])
  (.ret)) (.skip)))
 (.seq (.seq (.region (some [0, 1]) [⟨(some 11), .mv (.t 0), none⟩,
   ⟨(some 12), .len false (.t 11), none⟩,
   ⟨(some 13), .bin .gtr (.t 12) (.c (.d (.i .i64 25))), none⟩,
   ⟨(some 14), .mv (.t 13), none⟩,
   ⟨(some 15), .mv (.t 1), some (14, false)⟩,
   ⟨(some 16), .bin .geq (.t 15) (.c (.d (.i .u8 4))), some (14, false)⟩,
   ⟨(some 17), .pick (.t 14) (.c (.d (.b true))) (.t 16), none⟩] [])
 (.cond (.t 17) (.seq (.region (some []) [⟨(some 4), .mv (.c (.d (.b true))), none⟩] [])
  (.ret)) (.skip)))
 (.seq (.region (some [0, 1]) [⟨(some 18), .call (.f F_history_New) [], none⟩,
   ⟨(some 5), .mv (.t 18), none⟩] [])
 (.seq (.seq (.region (some [0, 1, 5]) [⟨(some 6), .mv (.c (.d (.i .i64 0))), none⟩] [])
 (.block 0 (.loop K_paddocklaw9_ChooseStarted_0 [] l_paddocklaw9_ChooseStarted_0)))
 (.seq (.region (some [1, 5]) [⟨(some 34), .mv (.t 5), none⟩,
   ⟨(some 35), .mv (.t 1), none⟩,
   ⟨(some 36), .call (.f F_history_History_Since) [.t 34, .t 35], none⟩,
   ⟨(some 7), .mv (.t 36), none⟩] [])
 (.seq (.region (some [1, 5, 7]) [⟨(some 37), .mv (.t 5), none⟩,
   ⟨(some 38), .mv (.t 1), none⟩,
   ⟨(some 39), .call (.f F_history_History_Acting) [.t 37, .t 38], none⟩,
   ⟨(some 8), .mv (.t 39), none⟩] [])
 (.seq (.region (some [1, 5, 7, 8]) [⟨(some 40), .mv (.t 5), none⟩,
   ⟨(some 41), .mv (.t 1), none⟩,
   ⟨(some 42), .mv (.t 7), none⟩,
   ⟨(some 43), .call (.f F_choose_Lacks) [.t 40, .t 41, .c (.nilS), .t 42], none⟩,
   ⟨(some 44), .len false (.t 43), none⟩,
   ⟨(some 45), .bin .eql (.t 44) (.c (.d (.i .i64 0))), none⟩,
   ⟨(some 46), .mv (.t 45), none⟩,
   ⟨(some 47), .mv (.t 5), some (46, true)⟩,
   ⟨(some 48), .mv (.t 1), some (46, true)⟩,
   ⟨(some 49), .mv (.t 8), some (46, true)⟩,
   ⟨(some 50), .mv (.t 7), some (46, true)⟩,
   ⟨(some 51), .call (.f F_choose_Enough) [.t 47, .t 48, .t 49, .t 50], some (46, true)⟩,
   ⟨(some 52), .pick (.t 46) (.t 51) (.c (.d (.b false))), none⟩,
   ⟨(some 53), .mv (.t 52), none⟩,
   ⟨(some 54), .mv (.t 8), some (53, true)⟩,
   ⟨(some 55), .len false (.t 54), some (53, true)⟩,
   ⟨(some 56), .bin .eql (.t 55) (.c (.d (.i .i64 0))), some (53, true)⟩,
   ⟨(some 57), .mv (.t 56), some (53, true)⟩,
   ⟨(some 58), .mv (.t 5), some (57, false)⟩,
   ⟨(some 59), .mv (.t 1), some (57, false)⟩,
   ⟨(some 60), .mv (.t 8), some (57, false)⟩,
   ⟨(some 61), .slice 1 (.t 60) (some (.c (.d (.i .i64 1)))) none none, some (57, false)⟩,
   ⟨(some 62), .mv (.t 7), some (57, false)⟩,
   ⟨(some 63), .call (.f F_choose_Enough) [.t 58, .t 59, .t 61, .t 62], some (57, false)⟩,
   ⟨(some 64), .un .not (.t 63), some (57, false)⟩,
   ⟨(some 65), .pick (.t 57) (.c (.d (.b true))) (.t 64), some (53, true)⟩,
   ⟨(some 66), .pick (.t 53) (.t 65) (.c (.d (.b false))), none⟩,
   ⟨(some 4), .mv (.t 66), none⟩] [])
 (.ret))))))))
def a_paddocklaw9_ChooseStarted : AFn := .code 2 c_paddocklaw9_ChooseStarted [.tmp 4]
set_option maxRecDepth 100000 in
theorem k_paddocklaw9_ChooseStarted : compF Try.prog h_paddocklaw9_ChooseStarted F_paddocklaw9_ChooseStarted = some a_paddocklaw9_ChooseStarted := by kernel_rfl

/-- paddock/paddocklaw9.known -/
def h_paddocklaw9_known : Hints := { kp := [(0, []), (1, []), (2, [1]), (3, [1, 2])], lkp := [], lth := [] }
def c_paddocklaw9_known : ACode :=
 .seq (.region (some []) [⟨(some 0), .mv (.c (.d (.b false))), none⟩] [])
 (.seq (.region (some []) [⟨(some 3), .call (.f F_history_New) [], none⟩,
   ⟨(some 1), .mv (.t 3), none⟩] [])
 (.seq (.region (some [1]) [⟨(some 4), .mv (.t 1), none⟩,
   ⟨(some 5), .call (.f F_history_History_Acting) [.t 4, .c (.d (.i .u8 0))], none⟩,
   ⟨(some 2), .mv (.t 5), none⟩] [])
 (.seq (.region (some [1, 2]) [⟨(some 6), .bsl 1 [.c (.d (.i .i64 3)), .c (.d (.i .i64 1))], none⟩,
   ⟨(some 7), .build Pk.State.zeroA [], none⟩,
   ⟨(some 8), .build Pk.State.zeroA [], none⟩,
   ⟨(some 9), .bsl 49 [.t 7, .t 8], none⟩,
   ⟨(some 10), .call (.f F_choose_Best) [.t 6, .t 9], none⟩,
   ⟨(some 11), .bin .eql (.t 10) (.c (.d (.i .i64 1))), none⟩,
   ⟨(some 12), .mv (.t 11), none⟩,
   ⟨(some 13), .call (.f F_choose_Best) [.c (.nilS), .c (.nilS)], some (12, true)⟩,
   ⟨(some 14), .bin .eql (.t 13) (.c (.d (.i .i64 (-1)))), some (12, true)⟩,
   ⟨(some 15), .pick (.t 12) (.t 14) (.c (.d (.b false))), none⟩,
   ⟨(some 16), .mv (.t 15), none⟩,
   ⟨(some 17), .mv (.t 1), some (16, true)⟩,
   ⟨(some 18), .mv (.t 2), some (16, true)⟩,
   ⟨(some 19), .call (.f F_choose_Enough) [.t 17, .c (.d (.i .u8 0)), .t 18, .c (.d (.i .u32 0))], some (16, true)⟩,
   ⟨(some 20), .pick (.t 16) (.t 19) (.c (.d (.b false))), none⟩,
   ⟨(some 21), .mv (.t 20), none⟩,
   ⟨(some 22), .mv (.t 1), some (21, true)⟩,
   ⟨(some 23), .mv (.t 2), some (21, true)⟩,
   ⟨(some 24), .slice 1 (.t 23) (some (.c (.d (.i .i64 1)))) none none, some (21, true)⟩,
   ⟨(some 25), .call (.f F_choose_Enough) [.t 22, .c (.d (.i .u8 0)), .t 24, .c (.d (.i .u32 0))], some (21, true)⟩,
   ⟨(some 26), .un .not (.t 25), some (21, true)⟩,
   ⟨(some 27), .pick (.t 21) (.t 26) (.c (.d (.b false))), none⟩,
   ⟨(some 28), .mv (.t 27), none⟩,
   ⟨(some 29), .mv (.t 1), some (28, true)⟩,
   ⟨(some 30), .call (.f F_choose_Serves) [.t 29, .c (.d (.i .u8 0))], some (28, true)⟩,
   ⟨(some 31), .pick (.t 28) (.t 30) (.c (.d (.b false))), none⟩,
   ⟨(some 32), .mv (.t 31), none⟩,
   ⟨(some 33), .mv (.t 1), some (32, true)⟩,
   ⟨(some 34), .call (.f F_choose_Lacks) [.t 33, .c (.d (.i .u8 0)), .c (.nilS), .c (.d (.i .u32 0))], some (32, true)⟩,
   ⟨(some 35), .len false (.t 34), some (32, true)⟩,
   ⟨(some 36), .bin .eql (.t 35) (.c (.d (.i .i64 0))), some (32, true)⟩,
   ⟨(some 37), .pick (.t 32) (.t 36) (.c (.d (.b false))), none⟩,
   ⟨(some 38), .mv (.t 37), none⟩,
   ⟨(some 39), .build Pk.State.zeroA [(0, 1, .c (.d (.i .u32 4)))], some (38, true)⟩,
   ⟨(some 40), .build Pk.State.zeroA [(0, 1, .c (.d (.i .u32 2)))], some (38, true)⟩,
   ⟨(some 41), .bsl 49 [.t 39, .t 40], some (38, true)⟩,
   ⟨(some 42), .call (.f F_choose_Started) [.t 41], some (38, true)⟩,
   ⟨(some 43), .bin .eql (.t 42) (.c (.d (.i .u32 4))), some (38, true)⟩,
   ⟨(some 44), .pick (.t 38) (.t 43) (.c (.d (.b false))), none⟩,
   ⟨(some 0), .mv (.t 44), none⟩] [])
 (.ret))))
def a_paddocklaw9_known : AFn := .code 0 c_paddocklaw9_known [.tmp 0]
set_option maxRecDepth 100000 in
theorem k_paddocklaw9_known : compF Try.prog h_paddocklaw9_known F_paddocklaw9_known = some a_paddocklaw9_known := by kernel_rfl

/-- paddock/paddocklaw9.few -/
def h_paddocklaw9_few : Hints := { kp := [(0, [0]), (1, [0]), (2, [0, 3]), (4, [0, 3]), (5, []), (3, [0, 3]), (6, [0])], lkp := [(2, [0, 3])], lth := [] }
def K_paddocklaw9_few_0 : Option (List Nat) := (some [0, 3])
def l_paddocklaw9_few_0 : ACode :=
 .seq (.seq (.region (some [0, 3]) [⟨(some 4), .mv (.t 3), none⟩,
   ⟨(some 5), .mv (.t 0), none⟩,
   ⟨(some 6), .len false (.t 5), none⟩,
   ⟨(some 7), .bin .lss (.t 4) (.t 6), none⟩] [])
 (.cond (.t 7) (.skip) (.exit 0)))
 (.seq (.block 1 (.seq (.region (some [0, 3]) [⟨(some 10), .mv (.t 0), none⟩,
    ⟨(some 11), .mv (.t 3), none⟩,
    ⟨(some 12), .iaddrS 49 (.t 10) (.t 11), none⟩,
    ⟨(some 13), .faddr 48 (.t 12), none⟩,
    ⟨(some 14), .load false 1 (.t 13), none⟩,
    ⟨(some 15), .len false (.t 14), none⟩,
    ⟨(some 16), .bin .gtr (.t 15) (.c (.d (.i .i64 12))), none⟩] [])
  (.cond (.t 16) (.seq (.region (some []) [⟨(some 2), .mv (.c (.d (.b false))), none⟩] [])
   (.ret)) (.skip))))
 (.region (some [0, 3]) [⟨(some 8), .mv (.t 3), none⟩,
   ⟨(some 9), .bin .add (.t 8) (.c (.d (.i .i64 1))), none⟩,
   ⟨(some 3), .mv (.t 9), none⟩] []))
def c_paddocklaw9_few : ACode :=
 .seq (.region (some [0]) [⟨(some 2), .mv (.c (.d (.b false))), none⟩] [])
 (.seq (.seq (.region (some [0]) [⟨(some 3), .mv (.c (.d (.i .i64 0))), none⟩] [])
 (.block 0 (.loop K_paddocklaw9_few_0 [] l_paddocklaw9_few_0)))
 (.seq (.region (some [0]) [⟨(some 17), .mv (.t 0), none⟩,
   ⟨(some 18), .len false (.t 17), none⟩,
   ⟨(some 19), .bin .leq (.t 18) (.c (.d (.i .i64 8))), none⟩,
   ⟨(some 2), .mv (.t 19), none⟩] [])
 (.ret)))
def a_paddocklaw9_few : AFn := .code 1 c_paddocklaw9_few [.tmp 2]
set_option maxRecDepth 100000 in
theorem k_paddocklaw9_few : compF Try.prog h_paddocklaw9_few F_paddocklaw9_few = some a_paddocklaw9_few := by kernel_rfl

/-- paddock/paddockref6.Is -/
def h_paddockref6_Is : Hints := { kp := [(0, [0]), (1, [1]), (2, []), (3, [1]), (4, [1, 3, 4]), (5, [1, 3, 4, 5]), (7, [1, 3, 4, 5]), (8, [1, 3, 4, 5, 6]), (9, []), (10, [1, 5, 6]), (6, [1, 3, 4, 5]), (11, [])], lkp := [(5, [1, 3, 4, 5])], lth := [] }
def K_paddockref6_Is_0 : Option (List Nat) := (some [1, 3, 4, 5])
def l_paddockref6_Is_0 : ACode :=
 .seq (.seq (.region (some [1, 3, 4, 5]) [⟨(some 41), .mv (.t 5), none⟩,
   ⟨(some 42), .faddr 48 (.t 1), none⟩,
   ⟨(some 43), .load false 1 (.t 42), none⟩,
   ⟨(some 44), .len false (.t 43), none⟩,
   ⟨(some 45), .bin .lss (.t 41) (.t 44), none⟩] [])
 (.cond (.t 45) (.skip) (.exit 0)))
 (.seq (.block 1 (.seq (.region (some [1, 3, 4, 5]) [⟨(some 48), .faddr 48 (.t 1), none⟩,
    ⟨(some 49), .load false 1 (.t 48), none⟩,
    ⟨(some 50), .mv (.t 5), none⟩,
    ⟨(some 51), .iaddrS 8 (.t 49) (.t 50), none⟩,
    ⟨(some 52), .load true 8 (.t 51), none⟩,
    ⟨(some 6), .box (.c (.d (.agg [.i .u32 0, .i .u32 0, .i .u8 0, .i .u32 0, .i .u8 0, .i .u8 0, .i .u8 0, .s ⟨#[]⟩]))), none⟩,
    ⟨none, .store 8 (.t 6) (.t 52), none⟩] [])
  (.seq (.seq (.region (some [1, 3, 4, 5, 6]) [⟨(some 53), .faddr 2 (.t 6), none⟩,
    ⟨(some 54), .load true 6 (.t 53), none⟩,
    ⟨(some 55), .call (.f F_paddockref6_Writes) [.t 54], none⟩,
    ⟨(some 56), .un .not (.t 55), none⟩,
    ⟨(some 57), .mv (.t 56), none⟩,
    ⟨(some 58), .faddr 1 (.t 6), some (57, false)⟩,
    ⟨(some 59), .load false 1 (.t 58), some (57, false)⟩,
    ⟨(some 60), .bin .eql (.t 59) (.c (.d (.i .u32 0))), some (57, false)⟩,
    ⟨(some 61), .pick (.t 57) (.c (.d (.b true))) (.t 60), none⟩,
    ⟨(some 62), .mv (.t 61), none⟩,
    ⟨(some 63), .faddr 1 (.t 6), some (62, false)⟩,
    ⟨(some 64), .load false 1 (.t 63), some (62, false)⟩,
    ⟨(some 65), .bin .sub (.t 64) (.c (.d (.i .u32 1))), some (62, false)⟩,
    ⟨(some 66), .mv (.t 4), some (62, false)⟩,
    ⟨(some 67), .bin .neq (.t 65) (.t 66), some (62, false)⟩,
    ⟨(some 68), .pick (.t 62) (.c (.d (.b true))) (.t 67), none⟩,
    ⟨(some 69), .mv (.t 68), none⟩,
    ⟨(some 70), .faddr 0 (.t 6), some (69, false)⟩,
    ⟨(some 71), .load false 1 (.t 70), some (69, false)⟩,
    ⟨(some 72), .mv (.t 3), some (69, false)⟩,
    ⟨(some 73), .bin .lss (.t 71) (.t 72), some (69, false)⟩,
    ⟨(some 74), .pick (.t 69) (.c (.d (.b true))) (.t 73), none⟩,
    ⟨(some 75), .mv (.t 74), none⟩,
    ⟨(some 76), .faddr 0 (.t 6), some (75, false)⟩,
    ⟨(some 77), .load false 1 (.t 76), some (75, false)⟩,
    ⟨(some 78), .bin .gtr (.t 77) (.c (.d (.i .u32 60))), some (75, false)⟩,
    ⟨(some 79), .pick (.t 75) (.c (.d (.b true))) (.t 78), none⟩] [])
  (.cond (.t 79) (.seq (.region (some []) [⟨(some 2), .mv (.c (.d (.b false))), none⟩] [])
   (.ret)) (.skip)))
  (.region (some [1, 5, 6]) [⟨(some 80), .faddr 0 (.t 6), none⟩,
    ⟨(some 81), .load false 1 (.t 80), none⟩,
    ⟨(some 82), .faddr 1 (.t 6), none⟩,
    ⟨(some 83), .load false 1 (.t 82), none⟩,
    ⟨(some 3), .mv (.t 81), none⟩,
    ⟨(some 4), .mv (.t 83), none⟩] [(1, 3)]))))
 (.region (some [1, 3, 4, 5]) [⟨(some 46), .mv (.t 5), none⟩,
   ⟨(some 47), .bin .add (.t 46) (.c (.d (.i .i64 1))), none⟩,
   ⟨(some 5), .mv (.t 47), none⟩] []))
def c_paddockref6_Is : ACode :=
 .seq (.region (some [0]) [⟨(some 1), .box (.t 0), none⟩,
   ⟨(some 2), .mv (.c (.d (.b false))), none⟩] [])
 (.seq (.seq (.region (some [1]) [⟨(some 7), .faddr 0 (.t 1), none⟩,
   ⟨(some 8), .load false 1 (.t 7), none⟩,
   ⟨(some 9), .bin .gtr (.t 8) (.c (.d (.i .u32 60))), none⟩,
   ⟨(some 10), .mv (.t 9), none⟩,
   ⟨(some 11), .faddr 40 (.t 1), some (10, false)⟩,
   ⟨(some 12), .faddr 0 (.t 11), some (10, false)⟩,
   ⟨(some 13), .load false 1 (.t 12), some (10, false)⟩,
   ⟨(some 14), .bin .gtr (.t 13) (.c (.d (.i .u32 60))), some (10, false)⟩,
   ⟨(some 15), .pick (.t 10) (.c (.d (.b true))) (.t 14), none⟩,
   ⟨(some 16), .mv (.t 15), none⟩,
   ⟨(some 17), .faddr 40 (.t 1), some (16, false)⟩,
   ⟨(some 18), .faddr 2 (.t 17), some (16, false)⟩,
   ⟨(some 19), .load true 6 (.t 18), some (16, false)⟩,
   ⟨(some 20), .build [.d (.i .u8 0), .d (.i .u32 0), .d (.i .u8 0), .d (.i .u8 0), .d (.i .u8 0), .d (.s ⟨#[]⟩)] [], some (16, false)⟩,
   ⟨(some 21), .eq true Pk.Opr.ety (.t 19) (.t 20), some (16, false)⟩,
   ⟨(some 22), .pick (.t 16) (.c (.d (.b true))) (.t 21), none⟩,
   ⟨(some 23), .mv (.t 22), none⟩,
   ⟨(some 24), .faddr 48 (.t 1), some (23, false)⟩,
   ⟨(some 25), .load false 1 (.t 24), some (23, false)⟩,
   ⟨(some 26), .len false (.t 25), some (23, false)⟩,
   ⟨(some 27), .bin .gtr (.t 26) (.c (.d (.i .i64 6))), some (23, false)⟩,
   ⟨(some 28), .pick (.t 23) (.c (.d (.b true))) (.t 27), none⟩,
   ⟨(some 29), .mv (.t 28), none⟩,
   ⟨(some 30), .faddr 1 (.t 1), some (29, false)⟩,
   ⟨(some 31), .load true 39 (.t 30), some (29, false)⟩,
   ⟨(some 32), .call (.f F_paddockref6_isBase) [.t 31], some (29, false)⟩,
   ⟨(some 33), .un .not (.t 32), some (29, false)⟩,
   ⟨(some 34), .pick (.t 29) (.c (.d (.b true))) (.t 33), none⟩] [])
 (.cond (.t 34) (.seq (.region (some []) [⟨(some 2), .mv (.c (.d (.b false))), none⟩] [])
  (.ret)) (.skip)))
 (.seq (.region (some [1]) [⟨(some 35), .faddr 40 (.t 1), none⟩,
   ⟨(some 36), .faddr 0 (.t 35), none⟩,
   ⟨(some 37), .load false 1 (.t 36), none⟩,
   ⟨(some 38), .faddr 40 (.t 1), none⟩,
   ⟨(some 39), .faddr 1 (.t 38), none⟩,
   ⟨(some 40), .load false 1 (.t 39), none⟩,
   ⟨(some 3), .mv (.t 37), none⟩,
   ⟨(some 4), .mv (.t 40), none⟩] [(2, 5)])
 (.seq (.seq (.region (some [1, 3, 4]) [⟨(some 5), .mv (.c (.d (.i .i64 0))), none⟩] [])
 (.block 0 (.loop K_paddockref6_Is_0 [] l_paddockref6_Is_0)))
 (.seq (.region (some []) [⟨(some 2), .mv (.c (.d (.b true))), none⟩] [])
 (.ret)))))
def a_paddockref6_Is : AFn := .code 1 c_paddockref6_Is [.tmp 2]
set_option maxRecDepth 100000 in
theorem k_paddockref6_Is : compF Try.prog h_paddockref6_Is F_paddockref6_Is = some a_paddockref6_Is := by kernel_rfl

/-- paddock/choose.Best -/
def h_choose_Best : Hints := { kp := [(0, [0, 1]), (1, [0, 1]), (2, []), (3, [0, 1]), (4, [0, 1, 5]), (5, [0, 1, 5, 6]), (6, [0, 5, 6, 21, 22, 23]), (7, [0, 5, 6, 21, 22, 23]), (8, [0, 5, 6, 7, 8, 21, 22, 23]), (9, [0, 5, 6, 7, 8, 9, 10, 21, 22, 23]), (10, [0, 5, 6, 7, 11, 21, 22, 23]), (11, [0, 6, 7, 11, 21, 22, 23]), (12, [0, 5, 6, 21, 22, 23]), (13, [5])], lkp := [(6, [0, 5, 6, 21, 22, 23])], lth := [] }
def K_choose_Best_0 : Option (List Nat) := (some [0, 5, 6, 21, 22, 23])
def l_choose_Best_0 : ACode :=
 .seq (.region (some [0, 5, 6, 21, 22, 23]) [⟨(some 24), .bin .lss (.t 23) (.t 22), none⟩] [])
 (.seq (.cond (.t 24) (.skip) (.exit 0))
 (.seq (.block 1 (.seq (.region (some [0, 5, 6, 21, 22, 23]) [⟨(some 25), .mv (.t 23), none⟩,
    ⟨(some 26), .iaddrS 49 (.t 21) (.t 23), none⟩,
    ⟨(some 27), .load true 49 (.t 26), none⟩,
    ⟨(some 8), .box (.c (.agg Pk.State.zeroA)), none⟩,
    ⟨(some 7), .mv (.t 25), none⟩,
    ⟨none, .store 49 (.t 8) (.t 27), none⟩] [])
  (.seq (.region (some [0, 5, 6, 7, 8, 21, 22, 23]) [⟨(some 29), .load true 49 (.t 8), none⟩,
    ⟨(some 30), .call (.f F_pglog_Head) [.t 29], none⟩,
    ⟨(some 28), .mv (.t 30), none⟩,
    ⟨(some 31), .ext (.t 28) 0, none⟩,
    ⟨(some 32), .ext (.t 28) 1, none⟩,
    ⟨(some 9), .mv (.t 31), none⟩,
    ⟨(some 10), .mv (.t 32), none⟩] [])
  (.seq (.region (some [0, 5, 6, 7, 8, 9, 10, 21, 22, 23]) [⟨(some 33), .mv (.t 0), none⟩,
    ⟨(some 34), .mv (.t 7), none⟩,
    ⟨(some 35), .iaddrS 1 (.t 33) (.t 34), none⟩,
    ⟨(some 36), .load false 1 (.t 35), none⟩,
    ⟨(some 37), .faddr 0 (.t 8), none⟩,
    ⟨(some 38), .load false 1 (.t 37), none⟩,
    ⟨(some 39), .mv (.t 9), none⟩,
    ⟨(some 40), .mv (.t 10), none⟩,
    ⟨(some 41), .build [.d (.i .i64 0), .d (.i .u32 0), .d (.i .u32 0), .d (.i .u32 0)] [(0, 1, .t 36), (1, 1, .t 38), (2, 1, .t 39), (3, 1, .t 40)], none⟩,
    ⟨(some 11), .box (.c (.d (.agg [.i .i64 0, .i .u32 0, .i .u32 0, .i .u32 0]))), none⟩,
    ⟨none, .store 4 (.t 11) (.t 41), none⟩] [(3, 5), (3, 9), (5, 9)])
  (.seq (.region (some [0, 5, 6, 7, 11, 21, 22, 23]) [⟨(some 42), .mv (.t 5), none⟩,
    ⟨(some 43), .bin .lss (.t 42) (.c (.d (.i .i64 0))), none⟩,
    ⟨(some 44), .mv (.t 43), none⟩,
    ⟨(some 45), .load true 4 (.t 11), some (44, false)⟩,
    ⟨(some 46), .load true 4 (.t 6), some (44, false)⟩,
    ⟨(some 47), .call (.f F_choose_candidate_beats) [.t 45, .t 46], some (44, false)⟩,
    ⟨(some 48), .pick (.t 44) (.c (.d (.b true))) (.t 47), none⟩] [])
  (.cond (.t 48) (.region (some [0, 6, 7, 11, 21, 22, 23]) [⟨(some 49), .mv (.t 7), none⟩,
     ⟨(some 50), .load true 4 (.t 11), none⟩,
     ⟨(some 5), .mv (.t 49), none⟩,
     ⟨none, .store 4 (.t 6) (.t 50), none⟩] []) (.skip)))))))
 (.region (some [0, 5, 6, 21, 22, 23]) [⟨(some 51), .bin .add (.t 23) (.c (.d (.i .i64 1))), none⟩,
   ⟨(some 23), .mv (.t 51), none⟩] [])))
def c_choose_Best : ACode :=
 .seq (.region (some [0, 1]) [⟨(some 4), .mv (.c (.d (.i .i64 0))), none⟩] [])
 (.seq (.seq (.region (some [0, 1]) [⟨(some 12), .mv (.t 0), none⟩,
   ⟨(some 13), .len false (.t 12), none⟩,
   ⟨(some 14), .mv (.t 1), none⟩,
   ⟨(some 15), .len false (.t 14), none⟩,
   ⟨(some 16), .bin .neq (.t 13) (.t 15), none⟩,
   ⟨(some 17), .mv (.t 16), none⟩,
   ⟨(some 18), .mv (.t 1), some (17, false)⟩,
   ⟨(some 19), .call (.f F_slices_ContainsFunc_sapi_State_api_State) [.t 18, .f F_choose_Best_1], some (17, false)⟩,
   ⟨(some 20), .pick (.t 17) (.c (.d (.b true))) (.t 19), none⟩] [])
 (.cond (.t 20) (.seq (.region (some []) [⟨(some 4), .mv (.c (.d (.i .i64 (-1)))), none⟩] [])
  (.ret)) (.skip)))
 (.seq (.region (some [0, 1]) [⟨(some 5), .mv (.c (.d (.i .i64 (-1)))), none⟩] [])
 (.seq (.region (some [0, 1, 5]) [⟨(some 6), .box (.c (.d (.agg [.i .i64 0, .i .u32 0, .i .u32 0, .i .u32 0]))), none⟩] [])
 (.seq (.seq (.region (some [0, 1, 5, 6]) [⟨(some 21), .mv (.t 1), none⟩,
   ⟨(some 22), .len false (.t 21), none⟩,
   ⟨(some 23), .mv (.c (.d (.i .i64 0))), none⟩] [])
 (.block 0 (.loop K_choose_Best_0 [] l_choose_Best_0)))
 (.seq (.region (some [5]) [⟨(some 52), .mv (.t 5), none⟩,
   ⟨(some 4), .mv (.t 52), none⟩] [])
 (.ret))))))
def a_choose_Best : AFn := .code 2 c_choose_Best [.tmp 4]
set_option maxRecDepth 100000 in
theorem k_choose_Best : compF Try.prog h_choose_Best F_choose_Best = some a_choose_Best := by kernel_rfl

/-- paddock/paddockref6.Head -/
def h_paddockref6_Head : Hints := { kp := [(0, [0]), (1, [1]), (2, []), (3, [1]), (4, [1]), (5, [1]), (6, [4])], lkp := [], lth := [] }
def c_paddockref6_Head : ACode :=
 .seq (.region (some [0]) [⟨(some 1), .box (.t 0), none⟩,
   ⟨(some 2), .mv (.c (.d (.i .u32 0))), none⟩,
   ⟨(some 3), .mv (.c (.d (.i .u32 0))), none⟩] [])
 (.seq (.seq (.region (some [1]) [⟨(some 5), .load true 49 (.t 1), none⟩,
   ⟨(some 6), .call (.f F_paddockref6_Is) [.t 5], none⟩,
   ⟨(some 7), .un .not (.t 6), none⟩] [])
 (.cond (.t 7) (.seq (.region (some []) [⟨(some 2), .mv (.c (.d (.i .u32 0))), none⟩,
    ⟨(some 3), .mv (.c (.d (.i .u32 0))), none⟩] [])
  (.ret)) (.skip)))
 (.seq (.seq (.region (some [1]) [⟨(some 8), .faddr 48 (.t 1), none⟩,
   ⟨(some 9), .load false 1 (.t 8), none⟩,
   ⟨(some 10), .len false (.t 9), none⟩,
   ⟨(some 11), .bin .eql (.t 10) (.c (.d (.i .i64 0))), none⟩] [])
 (.cond (.t 11) (.seq (.region (some [1]) [⟨(some 12), .faddr 40 (.t 1), none⟩,
    ⟨(some 13), .faddr 0 (.t 12), none⟩,
    ⟨(some 14), .load false 1 (.t 13), none⟩,
    ⟨(some 15), .faddr 40 (.t 1), none⟩,
    ⟨(some 16), .faddr 1 (.t 15), none⟩,
    ⟨(some 17), .load false 1 (.t 16), none⟩,
    ⟨(some 2), .mv (.t 14), none⟩,
    ⟨(some 3), .mv (.t 17), none⟩] [(2, 5)])
  (.ret)) (.skip)))
 (.seq (.region (some [1]) [⟨(some 18), .faddr 48 (.t 1), none⟩,
   ⟨(some 19), .load false 1 (.t 18), none⟩,
   ⟨(some 20), .faddr 48 (.t 1), none⟩,
   ⟨(some 21), .load false 1 (.t 20), none⟩,
   ⟨(some 22), .len false (.t 21), none⟩,
   ⟨(some 23), .bin .sub (.t 22) (.c (.d (.i .i64 1))), none⟩,
   ⟨(some 24), .iaddrS 8 (.t 19) (.t 23), none⟩,
   ⟨(some 25), .load true 8 (.t 24), none⟩,
   ⟨(some 4), .box (.c (.d (.agg [.i .u32 0, .i .u32 0, .i .u8 0, .i .u32 0, .i .u8 0, .i .u8 0, .i .u8 0, .s ⟨#[]⟩]))), none⟩,
   ⟨none, .store 8 (.t 4) (.t 25), none⟩] [])
 (.seq (.region (some [4]) [⟨(some 26), .faddr 0 (.t 4), none⟩,
   ⟨(some 27), .load false 1 (.t 26), none⟩,
   ⟨(some 28), .faddr 1 (.t 4), none⟩,
   ⟨(some 29), .load false 1 (.t 28), none⟩,
   ⟨(some 2), .mv (.t 27), none⟩,
   ⟨(some 3), .mv (.t 29), none⟩] [(1, 3)])
 (.ret)))))
def a_paddockref6_Head : AFn := .code 1 c_paddockref6_Head [.tmp 2, .tmp 3]
set_option maxRecDepth 100000 in
theorem k_paddockref6_Head : compF Try.prog h_paddockref6_Head F_paddockref6_Head = some a_paddockref6_Head := by kernel_rfl

/-- paddock/history.New -/
def h_history_New : Hints := { kp := [(0, []), (1, []), (2, [1]), (3, [1])], lkp := [], lth := [] }
def c_history_New : ACode :=
 .seq (.region (some []) [⟨(some 0), .mv (.c (.one)), none⟩] [])
 (.seq (.region (some []) [⟨(some 2), .mkmap .u32, none⟩,
   ⟨(some 3), .mkmap .u32, none⟩,
   ⟨(some 4), .build [.one, .one, .d (.i .u32 0), .nilS, .nilS, .nilS, .nilS] [(0, 1, .t 2), (1, 1, .t 3)], none⟩,
   ⟨(some 5), .box (.t 4), none⟩,
   ⟨(some 1), .mv (.t 5), none⟩] [])
 (.seq (.region (some [1]) [⟨(some 6), .mv (.t 1), none⟩,
   ⟨(some 7), .call (.f F_maps_First) [], none⟩,
   ⟨(some 8), .call (.f F_history_History_lays) [.t 6, .t 7], none⟩] [])
 (.seq (.region (some [1]) [⟨(some 9), .mv (.t 1), none⟩,
   ⟨(some 0), .mv (.t 9), none⟩] [])
 (.ret))))
def a_history_New : AFn := .code 0 c_history_New [.tmp 0]
set_option maxRecDepth 100000 in
theorem k_history_New : compF Try.prog h_history_New F_history_New = some a_history_New := by kernel_rfl

/-- (*paddock/history.History).Acting -/
def h_history_History_Acting : Hints := { dat := true, kp := [(0, [0, 1]), (1, [0, 1])], lkp := [], lth := [] }
def c_history_History_Acting : ACode :=
 .seq (.region (some [0, 1]) [⟨(some 4), .mv (.c (.nilS)), none⟩] [])
 (.seq (.region (some [0, 1]) [⟨(some 5), .mv (.t 0), none⟩,
   ⟨(some 6), .mv (.t 1), none⟩,
   ⟨(some 7), .call (.f F_history_History_interval) [.t 5, .t 6], none⟩,
   ⟨(some 8), .field false 1 1 (.t 7), none⟩,
   ⟨(some 9), .call (.f F_slices_Clone_sint_int) [.t 8], none⟩,
   ⟨(some 4), .mv (.t 9), none⟩] [])
 (.ret))
def a_history_History_Acting : AFn := .code 2 c_history_History_Acting [.dat (.tmp 4)]
set_option maxRecDepth 100000 in
theorem k_history_History_Acting : compF Try.prog h_history_History_Acting F_history_History_Acting = some a_history_History_Acting := by kernel_rfl

/-- (*paddock/history.History).Add -/
def h_history_History_Add : Hints := { kp := [(0, [0, 1, 2]), (1, [0, 1, 5]), (3, [0, 1, 5]), (4, []), (2, []), (5, [0, 1, 5]), (6, [0, 1, 5, 7, 8]), (7, [8]), (8, [0, 1, 5, 7]), (9, [0, 7]), (10, [])], lkp := [], lth := [] }
def c_history_History_Add : ACode :=
 .seq (.region (some [0, 1, 2]) [⟨(some 5), .box (.t 2), none⟩,
   ⟨(some 6), .mv (.c (.d (.i .i64 0))), none⟩] [])
 (.seq (.block 0 (.seq (.region (some [0, 1, 5]) [⟨(some 10), .mv (.t 1), none⟩,
    ⟨(some 11), .mv (.t 0), none⟩,
    ⟨(some 12), .nilck (.t 11), none⟩,
    ⟨(some 13), .faddr 2 (.t 12), none⟩,
    ⟨(some 14), .load false 1 (.t 13), none⟩,
    ⟨(some 15), .bin .leq (.t 10) (.t 14), none⟩,
    ⟨(some 9), .mv (.t 15), none⟩] [])
  (.cond (.t 9) (.seq (.region (some []) [⟨(some 6), .mv (.c (.d (.i .i64 51))), none⟩] [])
   (.ret)) (.seq (.region (some [0, 1, 5]) [⟨(some 17), .mv (.t 1), none⟩,
     ⟨(some 18), .mv (.t 0), none⟩,
     ⟨(some 19), .nilck (.t 18), none⟩,
     ⟨(some 20), .faddr 2 (.t 19), none⟩,
     ⟨(some 21), .load false 1 (.t 20), none⟩,
     ⟨(some 22), .bin .sub (.t 17) (.t 21), none⟩,
     ⟨(some 23), .bin .gtr (.t 22) (.c (.d (.i .u32 1))), none⟩,
     ⟨(some 16), .mv (.t 23), none⟩] [])
   (.cond (.t 16) (.seq (.region (some []) [⟨(some 6), .mv (.c (.d (.i .i64 50))), none⟩] [])
    (.ret)) (.skip))))))
 (.seq (.region (some [0, 1, 5]) [⟨(some 25), .mv (.t 0), none⟩,
   ⟨(some 26), .nilck (.t 25), none⟩,
   ⟨(some 27), .faddr 0 (.t 26), none⟩,
   ⟨(some 28), .load false 1 (.t 27), none⟩,
   ⟨(some 29), .mv (.t 0), none⟩,
   ⟨(some 30), .nilck (.t 29), none⟩,
   ⟨(some 31), .faddr 2 (.t 30), none⟩,
   ⟨(some 32), .load false 1 (.t 31), none⟩,
   ⟨(some 33), .mget .u32 (.agg Pk.Mp.zero.cs) false (.t 28) (.t 32), none⟩,
   ⟨(some 34), .load true 3 (.t 5), none⟩,
   ⟨(some 35), .call (.f F_maps_Apply) [.t 33, .t 34], none⟩,
   ⟨(some 24), .mv (.t 35), none⟩,
   ⟨(some 36), .ext (.t 24) 0, none⟩,
   ⟨(some 37), .ext (.t 24) 1, none⟩,
   ⟨(some 7), .box (.c (.d (.agg Pk.Mp.zero.cs))), none⟩,
   ⟨none, .store 16 (.t 7) (.t 36), none⟩,
   ⟨(some 8), .mv (.t 37), none⟩] [(3, 7), (3, 9), (7, 9), (8, 9), (3, 14), (7, 14), (8, 14), (9, 14), (10, 14)])
 (.seq (.seq (.region (some [0, 1, 5, 7, 8]) [⟨(some 38), .mv (.t 8), none⟩,
   ⟨(some 39), .bin .neq (.t 38) (.c (.d (.i .i64 0))), none⟩] [])
 (.cond (.t 39) (.seq (.region (some [8]) [⟨(some 40), .mv (.t 8), none⟩,
    ⟨(some 6), .mv (.t 40), none⟩] [])
  (.ret)) (.skip)))
 (.seq (.region (some [0, 1, 5, 7]) [⟨(some 41), .mv (.t 0), none⟩,
   ⟨(some 42), .nilck (.t 41), none⟩,
   ⟨(some 43), .faddr 1 (.t 42), none⟩,
   ⟨(some 44), .load false 1 (.t 43), none⟩,
   ⟨(some 45), .mv (.t 1), none⟩,
   ⟨(some 46), .load true 3 (.t 5), none⟩,
   ⟨none, .mset .u32 (.t 44) (.t 45) (.t 46), none⟩] [(3, 5)])
 (.seq (.region (some [0, 7]) [⟨(some 47), .mv (.t 0), none⟩,
   ⟨(some 48), .load true 16 (.t 7), none⟩,
   ⟨(some 49), .call (.f F_history_History_lays) [.t 47, .t 48], none⟩] [])
 (.seq (.region (some []) [⟨(some 6), .mv (.c (.d (.i .i64 0))), none⟩] [])
 (.ret)))))))
def a_history_History_Add : AFn := .code 3 c_history_History_Add [.tmp 6]
set_option maxRecDepth 100000 in
theorem k_history_History_Add : compF Try.prog h_history_History_Add F_history_History_Add = some a_history_History_Add := by kernel_rfl

/-- paddock/choose.Lacks -/
def h_choose_Lacks : Hints := { kp := [(0, [0, 1, 2, 3]), (1, [0, 1, 2, 3]), (2, [2, 3, 9]), (3, []), (4, [2, 3, 9]), (5, [9, 10])], lkp := [], lth := [] }
def c_choose_Lacks : ACode :=
 .seq (.region (some [0, 1, 2, 3]) [⟨(some 8), .mv (.c (.nilS)), none⟩] [])
 (.seq (.region (some [0, 1, 2, 3]) [⟨(some 11), .mv (.t 0), none⟩,
   ⟨(some 12), .mv (.t 1), none⟩,
   ⟨(some 13), .call (.f F_history_History_Intervals) [.t 11, .t 12], none⟩,
   ⟨(some 9), .mv (.t 13), none⟩] [])
 (.seq (.seq (.region (some [2, 3, 9]) [⟨(some 14), .mv (.t 9), none⟩,
   ⟨(some 15), .len false (.t 14), none⟩,
   ⟨(some 16), .bin .eql (.t 15) (.c (.d (.i .i64 0))), none⟩] [])
 (.cond (.t 16) (.seq (.region (some []) [⟨(some 8), .mv (.c (.nilS)), none⟩] [])
  (.ret)) (.skip)))
 (.seq (.region (some [2, 3, 9]) [⟨(some 17), .mv (.t 2), none⟩,
   ⟨(some 18), .mv (.t 3), none⟩,
   ⟨(some 19), .build [.nilS, .d (.i .u32 0)] [(0, 1, .t 17), (1, 1, .t 18)], none⟩,
   ⟨(some 20), .mkfn F_choose_ear_misses [.t 19] [], none⟩,
   ⟨(some 10), .box (.c (.one)), none⟩,
   ⟨none, .store 1 (.t 10) (.t 20), none⟩] [])
 (.seq (.region (some [9, 10]) [⟨(some 21), .mv (.t 9), none⟩,
   ⟨(some 22), .mv (.t 9), none⟩,
   ⟨(some 23), .len false (.t 22), none⟩,
   ⟨(some 24), .bin .sub (.t 23) (.c (.d (.i .i64 1))), none⟩,
   ⟨(some 25), .slice 2 (.t 21) none (some (.t 24)) none, none⟩,
   ⟨(some 26), .mkfn F_choose_Lacks_1 [] [.t 10], none⟩,
   ⟨(some 27), .call (.f F_slices_DeleteFunc_sapi_Interval_api_Interval) [.t 25, .t 26], none⟩,
   ⟨(some 8), .mv (.t 27), none⟩] [])
 (.ret)))))
def a_choose_Lacks : AFn := .code 4 c_choose_Lacks [.tmp 8]
set_option maxRecDepth 100000 in
theorem k_choose_Lacks : compF Try.prog h_choose_Lacks F_choose_Lacks = some a_choose_Lacks := by kernel_rfl

/-- paddock/choose.Serves -/
def h_choose_Serves : Hints := { kp := [(0, [0, 1]), (1, [0, 1])], lkp := [], lth := [] }
def c_choose_Serves : ACode :=
 .seq (.region (some [0, 1]) [⟨(some 4), .mv (.c (.d (.b false))), none⟩] [])
 (.seq (.region (some [0, 1]) [⟨(some 5), .mv (.t 0), none⟩,
   ⟨(some 6), .mv (.t 1), none⟩,
   ⟨(some 7), .call (.f F_history_History_Acting) [.t 5, .t 6], none⟩,
   ⟨(some 8), .len false (.t 7), none⟩,
   ⟨(some 9), .bin .geq (.t 8) (.c (.d (.i .i64 2))), none⟩,
   ⟨(some 4), .mv (.t 9), none⟩] [])
 (.ret))
def a_choose_Serves : AFn := .code 2 c_choose_Serves [.tmp 4]
set_option maxRecDepth 100000 in
theorem k_choose_Serves : compF Try.prog h_choose_Serves F_choose_Serves = some a_choose_Serves := by kernel_rfl

/-- paddock/paddocklaw9.both -/
def h_paddocklaw9_both : Hints := { kp := [(0, [0]), (1, [0]), (2, [0, 4, 5]), (3, [0, 4, 5, 6]), (5, [0, 4, 5, 6]), (6, [0, 4, 5, 6]), (4, [0, 4, 5, 6]), (7, [4, 5])], lkp := [(3, [0, 4, 5, 6])], lth := [] }
def K_paddocklaw9_both_0 : Option (List Nat) := (some [0, 4, 5, 6])
def l_paddocklaw9_both_0 : ACode :=
 .seq (.seq (.region (some [0, 4, 5, 6]) [⟨(some 10), .mv (.t 6), none⟩,
   ⟨(some 11), .mv (.t 0), none⟩,
   ⟨(some 12), .len false (.t 11), none⟩,
   ⟨(some 13), .bin .lss (.t 10) (.t 12), none⟩] [])
 (.cond (.t 13) (.skip) (.exit 0)))
 (.seq (.block 1 (.seq (.region (some [0, 4, 5, 6]) [⟨(some 16), .mv (.t 4), none⟩,
    ⟨(some 17), .mv (.t 4), none⟩,
    ⟨(some 18), .call (.f F_history_History_Last) [.t 17], none⟩,
    ⟨(some 19), .bin .add (.t 18) (.c (.d (.i .u32 1))), none⟩,
    ⟨(some 20), .mv (.t 0), none⟩,
    ⟨(some 21), .mv (.t 6), none⟩,
    ⟨(some 22), .iaddrS 3 (.t 20) (.t 21), none⟩,
    ⟨(some 23), .load true 3 (.t 22), none⟩,
    ⟨(some 24), .call (.f F_history_History_Add) [.t 16, .t 19, .t 23], none⟩] [(2, 7)])
  (.region (some [0, 4, 5, 6]) [⟨(some 25), .mv (.t 5), none⟩,
    ⟨(some 26), .mv (.t 5), none⟩,
    ⟨(some 27), .call (.f F_paddockref3_History_Last) [.t 26], none⟩,
    ⟨(some 28), .bin .add (.t 27) (.c (.d (.i .u32 1))), none⟩,
    ⟨(some 29), .mv (.t 0), none⟩,
    ⟨(some 30), .mv (.t 6), none⟩,
    ⟨(some 31), .iaddrS 3 (.t 29) (.t 30), none⟩,
    ⟨(some 32), .load true 3 (.t 31), none⟩,
    ⟨(some 33), .call (.f F_paddockref3_History_Add) [.t 25, .t 28, .t 32], none⟩] [(2, 7)])))
 (.region (some [0, 4, 5, 6]) [⟨(some 14), .mv (.t 6), none⟩,
   ⟨(some 15), .bin .add (.t 14) (.c (.d (.i .i64 1))), none⟩,
   ⟨(some 6), .mv (.t 15), none⟩] []))
def c_paddocklaw9_both : ACode :=
 .seq (.region (some [0]) [⟨(some 2), .mv (.c (.one)), none⟩,
   ⟨(some 3), .mv (.c (.one)), none⟩] [])
 (.seq (.region (some [0]) [⟨(some 7), .call (.f F_history_New) [], none⟩,
   ⟨(some 8), .build [.nilS] [], none⟩,
   ⟨(some 9), .box (.t 8), none⟩,
   ⟨(some 4), .mv (.t 7), none⟩,
   ⟨(some 5), .mv (.t 9), none⟩] [])
 (.seq (.seq (.region (some [0, 4, 5]) [⟨(some 6), .mv (.c (.d (.i .i64 0))), none⟩] [])
 (.block 0 (.loop K_paddocklaw9_both_0 [] l_paddocklaw9_both_0)))
 (.seq (.region (some [4, 5]) [⟨(some 34), .mv (.t 4), none⟩,
   ⟨(some 35), .mv (.t 5), none⟩,
   ⟨(some 2), .mv (.t 34), none⟩,
   ⟨(some 3), .mv (.t 35), none⟩] [])
 (.ret))))
def a_paddocklaw9_both : AFn := .code 1 c_paddocklaw9_both [.tmp 2, .tmp 3]
set_option maxRecDepth 100000 in
theorem k_paddocklaw9_both : compF Try.prog h_paddocklaw9_both F_paddocklaw9_both = some a_paddocklaw9_both := by kernel_rfl

/-- paddock/choose.Enough -/
def h_choose_Enough : Hints := { kp := [(0, [0, 1, 2, 3]), (1, [0, 1, 3, 6]), (2, [0, 1, 3, 6, 9])], lkp := [], lth := [] }
def c_choose_Enough : ACode :=
 .seq (.region (some [0, 1, 2, 3]) [⟨(some 6), .box (.t 2), none⟩,
   ⟨(some 8), .mv (.c (.d (.b false))), none⟩] [])
 (.seq (.region (some [0, 1, 3, 6]) [⟨(some 10), .mkfn F_choose_Enough_1 [] [.t 6], none⟩,
   ⟨(some 9), .mv (.t 10), none⟩] [])
 (.seq (.region (some [0, 1, 3, 6, 9]) [⟨(some 11), .mv (.t 0), none⟩,
   ⟨(some 12), .mv (.t 1), none⟩,
   ⟨(some 13), .load false 1 (.t 6), none⟩,
   ⟨(some 14), .mv (.t 3), none⟩,
   ⟨(some 15), .call (.f F_choose_Lacks) [.t 11, .t 12, .t 13, .t 14], none⟩,
   ⟨(some 16), .len false (.t 15), none⟩,
   ⟨(some 17), .bin .eql (.t 16) (.c (.d (.i .i64 0))), none⟩,
   ⟨(some 18), .mv (.t 17), none⟩,
   ⟨(some 19), .mv (.t 0), some (18, true)⟩,
   ⟨(some 20), .mv (.t 1), some (18, true)⟩,
   ⟨(some 21), .call (.f F_history_History_Acting) [.t 19, .t 20], some (18, true)⟩,
   ⟨(some 22), .mv (.t 9), some (18, true)⟩,
   ⟨(some 23), .call (.f F_slices_ContainsFunc_sint_int) [.t 21, .t 22], some (18, true)⟩,
   ⟨(some 24), .un .not (.t 23), some (18, true)⟩,
   ⟨(some 25), .pick (.t 18) (.t 24) (.c (.d (.b false))), none⟩,
   ⟨(some 8), .mv (.t 25), none⟩] [])
 (.ret)))
def a_choose_Enough : AFn := .code 4 c_choose_Enough [.tmp 8]
set_option maxRecDepth 100000 in
theorem k_choose_Enough : compF Try.prog h_choose_Enough F_choose_Enough = some a_choose_Enough := by kernel_rfl

/-- (*paddock/history.History).Last -/
def h_history_History_Last : Hints := { kp := [(0, [0]), (1, [0])], lkp := [], lth := [] }
def c_history_History_Last : ACode :=
 .seq (.region (some [0]) [⟨(some 2), .mv (.c (.d (.i .u32 0))), none⟩] [])
 (.seq (.region (some [0]) [⟨(some 3), .mv (.t 0), none⟩,
   ⟨(some 4), .nilck (.t 3), none⟩,
   ⟨(some 5), .faddr 2 (.t 4), none⟩,
   ⟨(some 6), .load false 1 (.t 5), none⟩,
   ⟨(some 2), .mv (.t 6), none⟩] [])
 (.ret))
def a_history_History_Last : AFn := .code 1 c_history_History_Last [.tmp 2]
set_option maxRecDepth 100000 in
theorem k_history_History_Last : compF Try.prog h_history_History_Last F_history_History_Last = some a_history_History_Last := by kernel_rfl

/-- (*paddock/history.History).Since -/
def h_history_History_Since : Hints := { kp := [(0, [0, 1]), (1, [0, 1])], lkp := [], lth := [] }
def c_history_History_Since : ACode :=
 .seq (.region (some [0, 1]) [⟨(some 4), .mv (.c (.d (.i .u32 0))), none⟩] [])
 (.seq (.region (some [0, 1]) [⟨(some 5), .mv (.t 0), none⟩,
   ⟨(some 6), .mv (.t 1), none⟩,
   ⟨(some 7), .call (.f F_history_History_interval) [.t 5, .t 6], none⟩,
   ⟨(some 8), .field false 0 1 (.t 7), none⟩,
   ⟨(some 4), .mv (.t 8), none⟩] [])
 (.ret))
def a_history_History_Since : AFn := .code 2 c_history_History_Since [.tmp 4]
set_option maxRecDepth 100000 in
theorem k_history_History_Since : compF Try.prog h_history_History_Since F_history_History_Since = some a_history_History_Since := by kernel_rfl

/-- paddock/choose.Started -/
def h_choose_Started : Hints := { kp := [(0, [0]), (1, [0]), (2, [0, 3]), (3, [3, 6, 7, 8]), (4, [3, 6, 7, 8]), (5, [3, 5, 6, 7, 8]), (6, [3, 6, 7, 8]), (7, [3])], lkp := [(3, [3, 6, 7, 8])], lth := [] }
def K_choose_Started_0 : Option (List Nat) := (some [3, 6, 7, 8])
def l_choose_Started_0 : ACode :=
 .seq (.region (some [3, 6, 7, 8]) [⟨(some 9), .bin .lss (.t 8) (.t 7), none⟩] [])
 (.seq (.cond (.t 9) (.skip) (.exit 0))
 (.seq (.block 1 (.seq (.region (some [3, 6, 7, 8]) [⟨(some 10), .iaddrS 49 (.t 6) (.t 8), none⟩,
    ⟨(some 11), .load true 49 (.t 10), none⟩,
    ⟨(some 5), .box (.c (.agg Pk.State.zeroA)), none⟩,
    ⟨none, .store 49 (.t 5) (.t 11), none⟩] [])
  (.region (some [3, 5, 6, 7, 8]) [⟨(some 12), .mv (.t 3), none⟩,
    ⟨(some 13), .faddr 0 (.t 5), none⟩,
    ⟨(some 14), .load false 1 (.t 13), none⟩,
    ⟨(some 15), .mm true [.t 12, .t 14], none⟩,
    ⟨(some 3), .mv (.t 15), none⟩] [])))
 (.region (some [3, 6, 7, 8]) [⟨(some 16), .bin .add (.t 8) (.c (.d (.i .i64 1))), none⟩,
   ⟨(some 8), .mv (.t 16), none⟩] [])))
def c_choose_Started : ACode :=
 .seq (.region (some [0]) [⟨(some 2), .mv (.c (.d (.i .u32 0))), none⟩] [])
 (.seq (.region (some [0]) [⟨(some 3), .mv (.c (.d (.i .u32 0))), none⟩] [])
 (.seq (.seq (.region (some [0, 3]) [⟨(some 6), .mv (.t 0), none⟩,
   ⟨(some 7), .len false (.t 6), none⟩,
   ⟨(some 8), .mv (.c (.d (.i .i64 0))), none⟩] [])
 (.block 0 (.loop K_choose_Started_0 [] l_choose_Started_0)))
 (.seq (.region (some [3]) [⟨(some 17), .mv (.t 3), none⟩,
   ⟨(some 2), .mv (.t 17), none⟩] [])
 (.ret))))
def a_choose_Started : AFn := .code 1 c_choose_Started [.tmp 2]
set_option maxRecDepth 100000 in
theorem k_choose_Started : compF Try.prog h_choose_Started F_choose_Started = some a_choose_Started := by kernel_rfl

/-- paddock/paddockref6.isBase -/
def h_paddockref6_isBase : Hints := { kp := [(0, [0]), (1, [1]), (2, [1, 3]), (4, [1, 3]), (5, [1, 3, 4]), (6, []), (7, [1, 3, 4]), (8, [1, 3, 4, 5]), (10, [1, 3, 4, 5]), (11, []), (9, [1, 3, 4, 5]), (3, [1, 3]), (12, [1]), (13, [1, 6]), (15, [1, 6]), (16, []), (14, [1, 6]), (17, [])], lkp := [(2, [1, 3]), (8, [1, 3, 4, 5]), (13, [1, 6])], lth := [] }
def K_paddockref6_isBase_0 : Option (List Nat) := (some [1, 3, 4, 5])
def l_paddockref6_isBase_0 : ACode :=
 .seq (.seq (.region (some [1, 3, 4, 5]) [⟨(some 29), .mv (.t 5), none⟩,
   ⟨(some 30), .bin .lss (.t 29) (.c (.d (.i .i64 3))), none⟩] [])
 (.cond (.t 30) (.skip) (.exit 2)))
 (.seq (.block 3 (.seq (.region (some [1, 3, 4, 5]) [⟨(some 33), .mv (.t 5), none⟩,
    ⟨(some 34), .faddr 2 (.t 4), none⟩,
    ⟨(some 35), .iaddrA 3 1 (.t 34) (.t 33), none⟩,
    ⟨(some 36), .load false 1 (.t 35), none⟩,
    ⟨(some 37), .len true (.t 36), none⟩,
    ⟨(some 38), .bin .gtr (.t 37) (.c (.d (.i .i64 16))), none⟩] [])
  (.cond (.t 38) (.seq (.region (some []) [⟨(some 2), .mv (.c (.d (.b false))), none⟩] [])
   (.ret)) (.skip))))
 (.region (some [1, 3, 4, 5]) [⟨(some 31), .mv (.t 5), none⟩,
   ⟨(some 32), .bin .add (.t 31) (.c (.d (.i .i64 1))), none⟩,
   ⟨(some 5), .mv (.t 32), none⟩] []))
def K_paddockref6_isBase_1 : Option (List Nat) := (some [1, 3])
def l_paddockref6_isBase_1 : ACode :=
 .seq (.seq (.region (some [1, 3]) [⟨(some 7), .mv (.t 3), none⟩,
   ⟨(some 8), .bin .lss (.t 7) (.c (.d (.i .i64 6))), none⟩] [])
 (.cond (.t 8) (.skip) (.exit 0)))
 (.seq (.block 1 (.seq (.region (some [1, 3]) [⟨(some 11), .mv (.t 3), none⟩,
    ⟨(some 12), .faddr 0 (.t 1), none⟩,
    ⟨(some 13), .iaddrA 6 5 (.t 12) (.t 11), none⟩,
    ⟨(some 14), .load true 5 (.t 13), none⟩,
    ⟨(some 4), .box (.c (.d (.agg [.b false, .s ⟨#[]⟩, .s ⟨#[]⟩, .s ⟨#[]⟩, .s ⟨#[]⟩]))), none⟩,
    ⟨none, .store 5 (.t 4) (.t 14), none⟩] [])
  (.seq (.seq (.region (some [1, 3, 4]) [⟨(some 15), .faddr 0 (.t 4), none⟩,
    ⟨(some 16), .load false 1 (.t 15), none⟩,
    ⟨(some 17), .un .not (.t 16), none⟩,
    ⟨(some 18), .mv (.t 17), none⟩,
    ⟨(some 19), .load true 5 (.t 4), some (18, true)⟩,
    ⟨(some 20), .build [.d (.b false), .d (.s ⟨#[]⟩), .d (.s ⟨#[]⟩), .d (.s ⟨#[]⟩), .d (.s ⟨#[]⟩)] [], some (18, true)⟩,
    ⟨(some 21), .eq true Pk.Objt.ety (.t 19) (.t 20), some (18, true)⟩,
    ⟨(some 22), .pick (.t 18) (.t 21) (.c (.d (.b false))), none⟩,
    ⟨(some 23), .mv (.t 22), none⟩,
    ⟨(some 24), .faddr 1 (.t 4), some (23, false)⟩,
    ⟨(some 25), .load false 1 (.t 24), some (23, false)⟩,
    ⟨(some 26), .len true (.t 25), some (23, false)⟩,
    ⟨(some 27), .bin .gtr (.t 26) (.c (.d (.i .i64 16))), some (23, false)⟩,
    ⟨(some 28), .pick (.t 23) (.c (.d (.b true))) (.t 27), none⟩] [])
  (.cond (.t 28) (.seq (.region (some []) [⟨(some 2), .mv (.c (.d (.b false))), none⟩] [])
   (.ret)) (.skip)))
  (.seq (.region (some [1, 3, 4]) [⟨(some 5), .mv (.c (.d (.i .i64 0))), none⟩] [])
  (.block 2 (.loop K_paddockref6_isBase_0 [] l_paddockref6_isBase_0))))))
 (.region (some [1, 3]) [⟨(some 9), .mv (.t 3), none⟩,
   ⟨(some 10), .bin .add (.t 9) (.c (.d (.i .i64 1))), none⟩,
   ⟨(some 3), .mv (.t 10), none⟩] []))
def K_paddockref6_isBase_2 : Option (List Nat) := (some [1, 6])
def l_paddockref6_isBase_2 : ACode :=
 .seq (.seq (.region (some [1, 6]) [⟨(some 39), .mv (.t 6), none⟩,
   ⟨(some 40), .bin .lss (.t 39) (.c (.d (.i .i64 3))), none⟩] [])
 (.cond (.t 40) (.skip) (.exit 4)))
 (.seq (.block 5 (.seq (.region (some [1, 6]) [⟨(some 43), .mv (.t 6), none⟩,
    ⟨(some 44), .faddr 30 (.t 1), none⟩,
    ⟨(some 45), .iaddrA 3 3 (.t 44) (.t 43), none⟩,
    ⟨(some 46), .faddr 1 (.t 45), none⟩,
    ⟨(some 47), .faddr 1 (.t 46), none⟩,
    ⟨(some 48), .load false 1 (.t 47), none⟩,
    ⟨(some 49), .bin .neq (.t 48) (.c (.d (.s ⟨#[]⟩))), none⟩,
    ⟨(some 50), .mv (.t 49), none⟩,
    ⟨(some 51), .mv (.t 6), some (50, false)⟩,
    ⟨(some 52), .faddr 30 (.t 1), some (50, false)⟩,
    ⟨(some 53), .iaddrA 3 3 (.t 52) (.t 51), some (50, false)⟩,
    ⟨(some 54), .faddr 1 (.t 53), some (50, false)⟩,
    ⟨(some 55), .faddr 0 (.t 54), some (50, false)⟩,
    ⟨(some 56), .load false 1 (.t 55), some (50, false)⟩,
    ⟨(some 57), .bin .gtr (.t 56) (.c (.d (.i .u8 3))), some (50, false)⟩,
    ⟨(some 58), .pick (.t 50) (.c (.d (.b true))) (.t 57), none⟩,
    ⟨(some 59), .mv (.t 58), none⟩,
    ⟨(some 60), .mv (.t 6), some (59, false)⟩,
    ⟨(some 61), .faddr 30 (.t 1), some (59, false)⟩,
    ⟨(some 62), .iaddrA 3 3 (.t 61) (.t 60), some (59, false)⟩,
    ⟨(some 63), .faddr 0 (.t 62), some (59, false)⟩,
    ⟨(some 64), .load false 1 (.t 63), some (59, false)⟩,
    ⟨(some 65), .bin .eql (.t 64) (.c (.d (.i .u32 0))), some (59, false)⟩,
    ⟨(some 66), .mv (.t 65), some (59, false)⟩,
    ⟨(some 67), .mv (.t 6), some (66, true)⟩,
    ⟨(some 68), .faddr 30 (.t 1), some (66, true)⟩,
    ⟨(some 69), .iaddrA 3 3 (.t 68) (.t 67), some (66, true)⟩,
    ⟨(some 70), .faddr 1 (.t 69), some (66, true)⟩,
    ⟨(some 71), .faddr 0 (.t 70), some (66, true)⟩,
    ⟨(some 72), .load false 1 (.t 71), some (66, true)⟩,
    ⟨(some 73), .bin .neq (.t 72) (.c (.d (.i .u8 0))), some (66, true)⟩,
    ⟨(some 74), .pick (.t 66) (.t 73) (.c (.d (.b false))), some (59, false)⟩,
    ⟨(some 75), .pick (.t 59) (.c (.d (.b true))) (.t 74), none⟩] [])
  (.cond (.t 75) (.seq (.region (some []) [⟨(some 2), .mv (.c (.d (.b false))), none⟩] [])
   (.ret)) (.skip))))
 (.region (some [1, 6]) [⟨(some 41), .mv (.t 6), none⟩,
   ⟨(some 42), .bin .add (.t 41) (.c (.d (.i .i64 1))), none⟩,
   ⟨(some 6), .mv (.t 42), none⟩] []))
def c_paddockref6_isBase : ACode :=
 .seq (.region (some [0]) [⟨(some 1), .box (.t 0), none⟩,
   ⟨(some 2), .mv (.c (.d (.b false))), none⟩] [])
 (.seq (.seq (.region (some [1]) [⟨(some 3), .mv (.c (.d (.i .i64 0))), none⟩] [])
 (.block 0 (.loop K_paddockref6_isBase_1 [] l_paddockref6_isBase_1)))
 (.seq (.seq (.region (some [1]) [⟨(some 6), .mv (.c (.d (.i .i64 0))), none⟩] [])
 (.block 4 (.loop K_paddockref6_isBase_2 [] l_paddockref6_isBase_2)))
 (.seq (.region (some []) [⟨(some 2), .mv (.c (.d (.b true))), none⟩] [])
 (.ret))))
def a_paddockref6_isBase : AFn := .code 1 c_paddockref6_isBase [.tmp 2]
set_option maxRecDepth 100000 in
theorem k_paddockref6_isBase : compF Try.prog h_paddockref6_isBase F_paddockref6_isBase = some a_paddockref6_isBase := by kernel_rfl

/-- paddock/paddockref6.Writes -/
def h_paddockref6_Writes : Hints := { kp := [(0, [0]), (1, [1])], lkp := [], lth := [] }
def c_paddockref6_Writes : ACode :=
 .seq (.region (some [0]) [⟨(some 1), .box (.t 0), none⟩,
   ⟨(some 2), .mv (.c (.d (.b false))), none⟩] [])
 (.seq (.region (some [1]) [⟨(some 3), .load true 6 (.t 1), none⟩,
   ⟨(some 4), .call (.f F_paddockref6_IsOp) [.t 3], none⟩,
   ⟨(some 5), .mv (.t 4), none⟩,
   ⟨(some 6), .faddr 2 (.t 1), some (5, true)⟩,
   ⟨(some 7), .load false 1 (.t 6), some (5, true)⟩,
   ⟨(some 8), .bin .neq (.t 7) (.c (.d (.i .u8 5))), some (5, true)⟩,
   ⟨(some 9), .pick (.t 5) (.t 8) (.c (.d (.b false))), none⟩,
   ⟨(some 2), .mv (.t 9), none⟩] [])
 (.ret))
def a_paddockref6_Writes : AFn := .code 1 c_paddockref6_Writes [.tmp 2]
set_option maxRecDepth 100000 in
theorem k_paddockref6_Writes : compF Try.prog h_paddockref6_Writes F_paddockref6_Writes = some a_paddockref6_Writes := by kernel_rfl

/-- slices.ContainsFunc[[]paddock/api.State,paddock/api.State] -/
def h_slices_ContainsFunc_sapi_State_api_State : Hints := { kp := [(0, [0, 1]), (1, [0, 1])], lkp := [], lth := [] }
def c_slices_ContainsFunc_sapi_State_api_State : ACode :=
 .seq (.region (some [0, 1]) [⟨(some 4), .mv (.c (.d (.b false))), none⟩] [])
 (.seq (.region (some [0, 1]) [⟨(some 5), .mv (.t 0), none⟩,
   ⟨(some 6), .mv (.t 1), none⟩,
   ⟨(some 7), .call (.f F_slices_IndexFunc_sapi_State_api_State) [.t 5, .t 6], none⟩,
   ⟨(some 8), .bin .geq (.t 7) (.c (.d (.i .i64 0))), none⟩,
   ⟨(some 4), .mv (.t 8), none⟩] [])
 (.ret))
def a_slices_ContainsFunc_sapi_State_api_State : AFn := .code 2 c_slices_ContainsFunc_sapi_State_api_State [.tmp 4]
set_option maxRecDepth 100000 in
theorem k_slices_ContainsFunc_sapi_State_api_State : compF Try.prog h_slices_ContainsFunc_sapi_State_api_State F_slices_ContainsFunc_sapi_State_api_State = some a_slices_ContainsFunc_sapi_State_api_State := by kernel_rfl

/-- paddock/choose.Best$1 -/
def h_choose_Best_1 : Hints := { kp := [(0, [0]), (1, [1])], lkp := [], lth := [] }
def c_choose_Best_1 : ACode :=
 .seq (.region (some [0]) [⟨(some 1), .box (.t 0), none⟩,
   ⟨(some 2), .mv (.c (.d (.b false))), none⟩] [])
 (.seq (.region (some [1]) [⟨(some 3), .load true 49 (.t 1), none⟩,
   ⟨(some 4), .call (.f F_pglog_Is) [.t 3], none⟩,
   ⟨(some 5), .un .not (.t 4), none⟩,
   ⟨(some 2), .mv (.t 5), none⟩] [])
 (.ret))
def a_choose_Best_1 : AFn := .code 1 c_choose_Best_1 [.tmp 2]
set_option maxRecDepth 100000 in
theorem k_choose_Best_1 : compF Try.prog h_choose_Best_1 F_choose_Best_1 = some a_choose_Best_1 := by kernel_rfl

/-- paddock/pglog.Is -/
def h_pglog_Is : Hints := { kp := [(0, [0]), (1, [1]), (2, []), (3, [1]), (4, [1, 3]), (5, [3, 37, 38, 39]), (6, [3, 37, 38, 39]), (7, [3, 5, 37, 38, 39]), (8, []), (9, [3, 5, 37, 38, 39]), (10, [3, 37, 38, 39]), (11, [])], lkp := [(5, [3, 37, 38, 39])], lth := [] }
def K_pglog_Is_0 : Option (List Nat) := (some [3, 37, 38, 39])
def l_pglog_Is_0 : ACode :=
 .seq (.region (some [3, 37, 38, 39]) [⟨(some 40), .bin .lss (.t 39) (.t 38), none⟩] [])
 (.seq (.cond (.t 40) (.skip) (.exit 0))
 (.seq (.block 1 (.seq (.region (some [3, 37, 38, 39]) [⟨(some 41), .iaddrS 8 (.t 37) (.t 39), none⟩,
    ⟨(some 42), .load true 8 (.t 41), none⟩,
    ⟨(some 5), .box (.c (.d (.agg [.i .u32 0, .i .u32 0, .i .u8 0, .i .u32 0, .i .u8 0, .i .u8 0, .i .u8 0, .s ⟨#[]⟩]))), none⟩,
    ⟨none, .store 8 (.t 5) (.t 42), none⟩] [])
  (.seq (.seq (.region (some [3, 5, 37, 38, 39]) [⟨(some 43), .load true 8 (.t 3), none⟩,
    ⟨(some 44), .load true 8 (.t 5), none⟩,
    ⟨(some 45), .call (.f F_pglog_next) [.t 43, .t 44], none⟩,
    ⟨(some 46), .un .not (.t 45), none⟩] [])
  (.cond (.t 46) (.seq (.region (some []) [⟨(some 2), .mv (.c (.d (.b false))), none⟩] [])
   (.ret)) (.skip)))
  (.region (some [3, 5, 37, 38, 39]) [⟨(some 47), .load true 8 (.t 5), none⟩,
    ⟨none, .store 8 (.t 3) (.t 47), none⟩] []))))
 (.region (some [3, 37, 38, 39]) [⟨(some 48), .bin .add (.t 39) (.c (.d (.i .i64 1))), none⟩,
   ⟨(some 39), .mv (.t 48), none⟩] [])))
def c_pglog_Is : ACode :=
 .seq (.region (some [0]) [⟨(some 1), .box (.t 0), none⟩,
   ⟨(some 2), .mv (.c (.d (.b false))), none⟩] [])
 (.seq (.seq (.region (some [1]) [⟨(some 6), .faddr 0 (.t 1), none⟩,
   ⟨(some 7), .load false 1 (.t 6), none⟩,
   ⟨(some 8), .bin .gtr (.t 7) (.c (.d (.i .u32 60))), none⟩,
   ⟨(some 9), .mv (.t 8), none⟩,
   ⟨(some 10), .faddr 40 (.t 1), some (9, false)⟩,
   ⟨(some 11), .faddr 0 (.t 10), some (9, false)⟩,
   ⟨(some 12), .load false 1 (.t 11), some (9, false)⟩,
   ⟨(some 13), .bin .gtr (.t 12) (.c (.d (.i .u32 60))), some (9, false)⟩,
   ⟨(some 14), .pick (.t 9) (.c (.d (.b true))) (.t 13), none⟩,
   ⟨(some 15), .mv (.t 14), none⟩,
   ⟨(some 16), .faddr 40 (.t 1), some (15, false)⟩,
   ⟨(some 17), .faddr 2 (.t 16), some (15, false)⟩,
   ⟨(some 18), .load true 6 (.t 17), some (15, false)⟩,
   ⟨(some 19), .build [.d (.i .u8 0), .d (.i .u32 0), .d (.i .u8 0), .d (.i .u8 0), .d (.i .u8 0), .d (.s ⟨#[]⟩)] [], some (15, false)⟩,
   ⟨(some 20), .eq true Pk.Opr.ety (.t 18) (.t 19), some (15, false)⟩,
   ⟨(some 21), .pick (.t 15) (.c (.d (.b true))) (.t 20), none⟩,
   ⟨(some 22), .mv (.t 21), none⟩,
   ⟨(some 23), .faddr 48 (.t 1), some (22, false)⟩,
   ⟨(some 24), .load false 1 (.t 23), some (22, false)⟩,
   ⟨(some 25), .len false (.t 24), some (22, false)⟩,
   ⟨(some 26), .bin .gtr (.t 25) (.c (.d (.i .i64 6))), some (22, false)⟩,
   ⟨(some 27), .pick (.t 22) (.c (.d (.b true))) (.t 26), none⟩,
   ⟨(some 28), .mv (.t 27), none⟩,
   ⟨(some 29), .faddr 1 (.t 1), some (28, false)⟩,
   ⟨(some 30), .load true 39 (.t 29), some (28, false)⟩,
   ⟨(some 31), .call (.f F_pglog_base) [.t 30], some (28, false)⟩,
   ⟨(some 32), .un .not (.t 31), some (28, false)⟩,
   ⟨(some 33), .pick (.t 28) (.c (.d (.b true))) (.t 32), none⟩] [])
 (.cond (.t 33) (.seq (.region (some []) [⟨(some 2), .mv (.c (.d (.b false))), none⟩] [])
  (.ret)) (.skip)))
 (.seq (.region (some [1]) [⟨(some 34), .faddr 40 (.t 1), none⟩,
   ⟨(some 35), .load true 8 (.t 34), none⟩,
   ⟨(some 3), .box (.c (.d (.agg [.i .u32 0, .i .u32 0, .i .u8 0, .i .u32 0, .i .u8 0, .i .u8 0, .i .u8 0, .s ⟨#[]⟩]))), none⟩,
   ⟨none, .store 8 (.t 3) (.t 35), none⟩] [])
 (.seq (.seq (.region (some [1, 3]) [⟨(some 36), .faddr 48 (.t 1), none⟩,
   ⟨(some 37), .load false 1 (.t 36), none⟩,
   ⟨(some 38), .len false (.t 37), none⟩,
   ⟨(some 39), .mv (.c (.d (.i .i64 0))), none⟩] [])
 (.block 0 (.loop K_pglog_Is_0 [] l_pglog_Is_0)))
 (.seq (.region (some []) [⟨(some 2), .mv (.c (.d (.b true))), none⟩] [])
 (.ret)))))
def a_pglog_Is : AFn := .code 1 c_pglog_Is [.tmp 2]
set_option maxRecDepth 100000 in
theorem k_pglog_Is : compF Try.prog h_pglog_Is F_pglog_Is = some a_pglog_Is := by kernel_rfl

/-- paddock/pglog.Head -/
def h_pglog_Head : Hints := { kp := [(0, [0]), (1, [1]), (2, []), (3, [1]), (4, [4])], lkp := [], lth := [] }
def c_pglog_Head : ACode :=
 .seq (.region (some [0]) [⟨(some 1), .box (.t 0), none⟩,
   ⟨(some 2), .mv (.c (.d (.i .u32 0))), none⟩,
   ⟨(some 3), .mv (.c (.d (.i .u32 0))), none⟩] [])
 (.seq (.seq (.region (some [1]) [⟨(some 5), .load true 49 (.t 1), none⟩,
   ⟨(some 6), .call (.f F_pglog_Is) [.t 5], none⟩,
   ⟨(some 7), .un .not (.t 6), none⟩] [])
 (.cond (.t 7) (.seq (.region (some []) [⟨(some 2), .mv (.c (.d (.i .u32 0))), none⟩,
    ⟨(some 3), .mv (.c (.d (.i .u32 0))), none⟩] [])
  (.ret)) (.skip)))
 (.seq (.region (some [1]) [⟨(some 8), .load true 49 (.t 1), none⟩,
   ⟨(some 9), .call (.f F_pglog_last) [.t 8], none⟩,
   ⟨(some 4), .box (.c (.d (.agg [.i .u32 0, .i .u32 0, .i .u8 0, .i .u32 0, .i .u8 0, .i .u8 0, .i .u8 0, .s ⟨#[]⟩]))), none⟩,
   ⟨none, .store 8 (.t 4) (.t 9), none⟩] [])
 (.seq (.region (some [4]) [⟨(some 10), .faddr 0 (.t 4), none⟩,
   ⟨(some 11), .load false 1 (.t 10), none⟩,
   ⟨(some 12), .faddr 1 (.t 4), none⟩,
   ⟨(some 13), .load false 1 (.t 12), none⟩,
   ⟨(some 2), .mv (.t 11), none⟩,
   ⟨(some 3), .mv (.t 13), none⟩] [(1, 3)])
 (.ret))))
def a_pglog_Head : AFn := .code 1 c_pglog_Head [.tmp 2, .tmp 3]
set_option maxRecDepth 100000 in
theorem k_pglog_Head : compF Try.prog h_pglog_Head F_pglog_Head = some a_pglog_Head := by kernel_rfl

/-- (paddock/choose.candidate).beats -/
def h_choose_candidate_beats : Hints := { kp := [(0, [0, 1]), (1, [2, 3]), (3, [2, 3]), (5, [2, 3]), (6, [2, 3]), (4, [2, 3]), (2, [2, 3]), (7, [2, 3])], lkp := [], lth := [] }
def c_choose_candidate_beats : ACode :=
 .seq (.region (some [0, 1]) [⟨(some 2), .box (.t 0), none⟩,
   ⟨(some 3), .box (.t 1), none⟩,
   ⟨(some 4), .mv (.c (.d (.b false))), none⟩] [])
 (.seq (.block 0 (.seq (.region (some [2, 3]) [⟨(some 6), .faddr 1 (.t 2), none⟩,
    ⟨(some 7), .load false 1 (.t 6), none⟩,
    ⟨(some 8), .faddr 1 (.t 3), none⟩,
    ⟨(some 9), .load false 1 (.t 8), none⟩,
    ⟨(some 10), .bin .neq (.t 7) (.t 9), none⟩,
    ⟨(some 5), .mv (.t 10), none⟩] [])
  (.cond (.t 5) (.seq (.region (some [2, 3]) [⟨(some 11), .faddr 1 (.t 2), none⟩,
     ⟨(some 12), .load false 1 (.t 11), none⟩,
     ⟨(some 13), .faddr 1 (.t 3), none⟩,
     ⟨(some 14), .load false 1 (.t 13), none⟩,
     ⟨(some 15), .bin .gtr (.t 12) (.t 14), none⟩,
     ⟨(some 4), .mv (.t 15), none⟩] [])
   (.ret)) (.seq (.region (some [2, 3]) [⟨(some 17), .faddr 2 (.t 2), none⟩,
     ⟨(some 18), .load false 1 (.t 17), none⟩,
     ⟨(some 19), .faddr 2 (.t 3), none⟩,
     ⟨(some 20), .load false 1 (.t 19), none⟩,
     ⟨(some 21), .bin .neq (.t 18) (.t 20), none⟩,
     ⟨(some 16), .mv (.t 21), none⟩] [])
   (.cond (.t 16) (.seq (.region (some [2, 3]) [⟨(some 22), .faddr 2 (.t 2), none⟩,
      ⟨(some 23), .load false 1 (.t 22), none⟩,
      ⟨(some 24), .faddr 2 (.t 3), none⟩,
      ⟨(some 25), .load false 1 (.t 24), none⟩,
      ⟨(some 26), .bin .gtr (.t 23) (.t 25), none⟩,
      ⟨(some 4), .mv (.t 26), none⟩] [])
    (.ret)) (.seq (.region (some [2, 3]) [⟨(some 28), .faddr 3 (.t 2), none⟩,
      ⟨(some 29), .load false 1 (.t 28), none⟩,
      ⟨(some 30), .faddr 3 (.t 3), none⟩,
      ⟨(some 31), .load false 1 (.t 30), none⟩,
      ⟨(some 32), .bin .neq (.t 29) (.t 31), none⟩,
      ⟨(some 27), .mv (.t 32), none⟩] [])
    (.cond (.t 27) (.seq (.region (some [2, 3]) [⟨(some 33), .faddr 3 (.t 2), none⟩,
       ⟨(some 34), .load false 1 (.t 33), none⟩,
       ⟨(some 35), .faddr 3 (.t 3), none⟩,
       ⟨(some 36), .load false 1 (.t 35), none⟩,
       ⟨(some 37), .bin .gtr (.t 34) (.t 36), none⟩,
       ⟨(some 4), .mv (.t 37), none⟩] [])
     (.ret)) (.skip))))))))
 (.seq (.region (some [2, 3]) [⟨(some 38), .faddr 0 (.t 2), none⟩,
   ⟨(some 39), .load false 1 (.t 38), none⟩,
   ⟨(some 40), .faddr 0 (.t 3), none⟩,
   ⟨(some 41), .load false 1 (.t 40), none⟩,
   ⟨(some 42), .bin .lss (.t 39) (.t 41), none⟩,
   ⟨(some 4), .mv (.t 42), none⟩] [])
 (.ret)))
def a_choose_candidate_beats : AFn := .code 2 c_choose_candidate_beats [.tmp 4]
set_option maxRecDepth 100000 in
theorem k_choose_candidate_beats : compF Try.prog h_choose_candidate_beats F_choose_candidate_beats = some a_choose_candidate_beats := by kernel_rfl

/-- (*paddock/history.History).lays -/
def h_history_History_lays : Hints := { kp := [(0, [0, 1]), (1, [0, 3]), (2, [0, 3]), (3, [0, 3]), (4, [0, 3, 19]), (5, [0, 3, 19]), (6, [0, 3, 4, 19]), (7, [0, 3, 4, 5, 19]), (8, [0, 3, 4, 5, 6, 19]), (9, [0, 3, 4, 5, 6, 19]), (10, [0, 3, 19])], lkp := [(4, [0, 3, 19])], lth := [] }
def K_history_History_lays_0 : Option (List Nat) := (some [0, 3, 19])
def l_history_History_lays_0 : ACode :=
 .seq (.region (some [0, 3, 19]) [⟨(some 20), .bin .lss (.t 19) (.c (.d (.i .i64 4))), none⟩] [])
 (.seq (.cond (.t 20) (.skip) (.exit 0))
 (.seq (.block 1 (.seq (.region (some [0, 3, 19]) [⟨(some 21), .mv (.t 19), none⟩,
    ⟨(some 4), .mv (.t 21), none⟩] [])
  (.seq (.region (some [0, 3, 4, 19]) [⟨(some 22), .load true 16 (.t 3), none⟩,
    ⟨(some 23), .mv (.t 4), none⟩,
    ⟨(some 24), .conv .u8 (.t 23), none⟩,
    ⟨(some 25), .call (.f F_place_Acting) [.t 22, .t 24], none⟩,
    ⟨(some 5), .mv (.t 25), none⟩] [])
  (.seq (.region (some [0, 3, 4, 5, 19]) [⟨(some 26), .mv (.t 0), none⟩,
    ⟨(some 27), .mv (.t 4), none⟩,
    ⟨(some 28), .nilck (.t 26), none⟩,
    ⟨(some 29), .faddr 3 (.t 28), none⟩,
    ⟨(some 30), .iaddrA 4 1 (.t 29) (.t 27), none⟩,
    ⟨(some 31), .load false 1 (.t 30), none⟩,
    ⟨(some 6), .mv (.t 31), none⟩] [])
  (.seq (.region (some [0, 3, 4, 5, 6, 19]) [⟨(some 32), .mv (.t 6), none⟩,
    ⟨(some 33), .len false (.t 32), none⟩,
    ⟨(some 34), .bin .eql (.t 33) (.c (.d (.i .i64 0))), none⟩,
    ⟨(some 35), .mv (.t 34), none⟩,
    ⟨(some 36), .mv (.t 6), some (35, false)⟩,
    ⟨(some 37), .mv (.t 6), some (35, false)⟩,
    ⟨(some 38), .len false (.t 37), some (35, false)⟩,
    ⟨(some 39), .bin .sub (.t 38) (.c (.d (.i .i64 1))), some (35, false)⟩,
    ⟨(some 40), .iaddrS 2 (.t 36) (.t 39), some (35, false)⟩,
    ⟨(some 41), .faddr 1 (.t 40), some (35, false)⟩,
    ⟨(some 42), .load false 1 (.t 41), some (35, false)⟩,
    ⟨(some 43), .mv (.t 5), some (35, false)⟩,
    ⟨(some 44), .call (.f F_slices_Equal_sint_int) [.t 42, .t 43], some (35, false)⟩,
    ⟨(some 45), .un .not (.t 44), some (35, false)⟩,
    ⟨(some 46), .pick (.t 35) (.c (.d (.b true))) (.t 45), none⟩] [])
  (.cond (.t 46) (.region (some [0, 3, 4, 5, 6, 19]) [⟨(some 47), .mv (.t 0), none⟩,
     ⟨(some 48), .mv (.t 4), none⟩,
     ⟨(some 49), .mv (.t 6), none⟩,
     ⟨(some 50), .faddr 0 (.t 3), none⟩,
     ⟨(some 51), .load false 1 (.t 50), none⟩,
     ⟨(some 52), .mv (.t 5), none⟩,
     ⟨(some 53), .build Pk.Itv.zeroA [(0, 1, .t 51), (1, 1, .t 52)], none⟩,
     ⟨(some 54), .bsl 2 [.t 53], none⟩,
     ⟨(some 55), .app 2 (.t 49) (.t 54), none⟩,
     ⟨(some 56), .nilck (.t 47), none⟩,
     ⟨(some 57), .faddr 3 (.t 56), none⟩,
     ⟨(some 58), .iaddrA 4 1 (.t 57) (.t 48), none⟩,
     ⟨none, .store 1 (.t 58) (.t 55), none⟩] []) (.skip)))))))
 (.region (some [0, 3, 19]) [⟨(some 59), .bin .add (.t 19) (.c (.d (.i .i64 1))), none⟩,
   ⟨(some 19), .mv (.t 59), none⟩] [])))
def c_history_History_lays : ACode :=
 .seq (.region (some [0, 1]) [⟨(some 3), .box (.t 1), none⟩] [])
 (.seq (.region (some [0, 3]) [⟨(some 7), .mv (.t 0), none⟩,
   ⟨(some 8), .nilck (.t 7), none⟩,
   ⟨(some 9), .faddr 0 (.t 8), none⟩,
   ⟨(some 10), .load false 1 (.t 9), none⟩,
   ⟨(some 11), .faddr 0 (.t 3), none⟩,
   ⟨(some 12), .load false 1 (.t 11), none⟩,
   ⟨(some 13), .load true 16 (.t 3), none⟩,
   ⟨none, .mset .u32 (.t 10) (.t 12) (.t 13), none⟩] [(3, 5), (3, 6), (5, 6)])
 (.seq (.region (some [0, 3]) [⟨(some 14), .mv (.t 0), none⟩,
   ⟨(some 15), .faddr 0 (.t 3), none⟩,
   ⟨(some 16), .load false 1 (.t 15), none⟩,
   ⟨(some 17), .nilck (.t 14), none⟩,
   ⟨(some 18), .faddr 2 (.t 17), none⟩,
   ⟨none, .store 1 (.t 18) (.t 16), none⟩] [])
 (.seq (.region (some [0, 3]) [⟨(some 19), .mv (.c (.d (.i .i64 0))), none⟩] [])
 (.block 0 (.loop K_history_History_lays_0 [] l_history_History_lays_0)))))
def a_history_History_lays : AFn := .code 2 c_history_History_lays []
set_option maxRecDepth 100000 in
theorem k_history_History_lays : compF Try.prog h_history_History_lays F_history_History_lays = some a_history_History_lays := by kernel_rfl

/-- paddock/maps.First -/
def h_maps_First : Hints := { kp := [(0, []), (1, [0]), (2, [0, 1]), (3, [0, 1, 4]), (4, [0, 1, 4]), (5, [0, 1, 2, 4]), (6, [0, 1, 4]), (7, [0, 1])], lkp := [(3, [0, 1, 4])], lth := [] }
def K_maps_First_0 : Option (List Nat) := (some [0, 1, 4])
def l_maps_First_0 : ACode :=
 .seq (.region (some [0, 1, 4]) [⟨(some 5), .bin .lss (.t 4) (.c (.d (.i .i64 5))), none⟩] [])
 (.seq (.cond (.t 5) (.skip) (.exit 0))
 (.seq (.block 1 (.seq (.region (some [0, 1, 4]) [⟨(some 6), .mv (.t 4), none⟩,
    ⟨(some 2), .mv (.t 6), none⟩] [])
  (.region (some [0, 1, 2, 4]) [⟨(some 7), .mv (.t 2), none⟩,
    ⟨(some 8), .mv (.t 2), none⟩,
    ⟨(some 9), .bin .rem (.t 8) (.c (.d (.i .i64 4))), none⟩,
    ⟨(some 10), .conv .u8 (.t 9), none⟩,
    ⟨(some 11), .build [.d (.b false), .d (.i .i64 0), .d (.i .u8 0)] [(0, 1, .c (.d (.b true))), (1, 1, .c (.d (.i .i64 8))), (2, 1, .t 10)], none⟩,
    ⟨(some 12), .faddr 1 (.t 1), none⟩,
    ⟨(some 13), .iaddrA 5 3 (.t 12) (.t 7), none⟩,
    ⟨none, .store 3 (.t 13) (.t 11), none⟩] [])))
 (.region (some [0, 1, 4]) [⟨(some 14), .bin .add (.t 4) (.c (.d (.i .i64 1))), none⟩,
   ⟨(some 4), .mv (.t 14), none⟩] [])))
def c_maps_First : ACode :=
 .seq (.region (some []) [⟨(some 0), .box (.c (.d (.agg Pk.Mp.zero.cs))), none⟩] [])
 (.seq (.region (some [0]) [⟨(some 3), .build (List.map .d Pk.Mp.zero.cs) [(0, 1, .c (.d (.i .u32 1)))], none⟩,
   ⟨(some 1), .box (.c (.d (.agg Pk.Mp.zero.cs))), none⟩,
   ⟨none, .store 16 (.t 1) (.t 3), none⟩] [])
 (.seq (.seq (.region (some [0, 1]) [⟨(some 4), .mv (.c (.d (.i .i64 0))), none⟩] [])
 (.block 0 (.loop K_maps_First_0 [] l_maps_First_0)))
 (.seq (.region (some [0, 1]) [⟨(some 15), .load true 16 (.t 1), none⟩,
   ⟨none, .store 16 (.t 0) (.t 15), none⟩] [])
 (.ret))))
def a_maps_First : AFn := .code 0 c_maps_First [.cell true 16 0]
set_option maxRecDepth 100000 in
theorem k_maps_First : compF Try.prog h_maps_First F_maps_First = some a_maps_First := by kernel_rfl

/-- slices.Clone[[]int,int] -/
def h_slices_Clone_sint_int : Hints := { kp := [(0, [0]), (1, [0]), (2, []), (3, [0])], lkp := [], lth := [] }
def c_slices_Clone_sint_int : ACode :=
 .seq (.region (some [0]) [⟨(some 2), .mv (.c (.nilS)), none⟩] [])
 (.seq (.seq (.region (some [0]) [⟨(some 3), .mv (.t 0), none⟩,
   ⟨(some 4), .isnil false (.t 3), none⟩] [])
 (.cond (.t 4) (.seq (.region (some []) [⟨(some 2), .mv (.c (.nilS)), none⟩] [])
  (.ret)) (.skip)))
 (.seq (.region (some [0]) [⟨(some 5), .bsl 1 [], none⟩,
   ⟨(some 6), .mv (.t 0), none⟩,
   ⟨(some 7), .app 1 (.t 5) (.t 6), none⟩,
   ⟨(some 2), .mv (.t 7), none⟩] [])
 (.ret)))
def a_slices_Clone_sint_int : AFn := .code 1 c_slices_Clone_sint_int [.tmp 2]
set_option maxRecDepth 100000 in
theorem k_slices_Clone_sint_int : compF Try.prog h_slices_Clone_sint_int F_slices_Clone_sint_int = some a_slices_Clone_sint_int := by kernel_rfl

/-- (*paddock/history.History).interval -/
def h_history_History_interval : Hints := { kp := [(0, [0, 1]), (1, [0, 1, 4]), (2, [4]), (3, [0, 1, 4]), (4, [4, 5])], lkp := [], lth := [] }
def c_history_History_interval : ACode :=
 .seq (.region (some [0, 1]) [⟨(some 4), .box (.c (.agg Pk.Itv.zeroA)), none⟩] [])
 (.seq (.seq (.region (some [0, 1, 4]) [⟨(some 6), .mv (.t 1), none⟩,
   ⟨(some 7), .bin .geq (.t 6) (.c (.d (.i .u8 4))), none⟩] [])
 (.cond (.t 7) (.seq (.region (some [4]) [⟨(some 8), .build Pk.Itv.zeroA [], none⟩,
    ⟨none, .store 2 (.t 4) (.t 8), none⟩] [])
  (.ret)) (.skip)))
 (.seq (.region (some [0, 1, 4]) [⟨(some 9), .mv (.t 0), none⟩,
   ⟨(some 10), .mv (.t 1), none⟩,
   ⟨(some 11), .nilck (.t 9), none⟩,
   ⟨(some 12), .faddr 3 (.t 11), none⟩,
   ⟨(some 13), .iaddrA 4 1 (.t 12) (.t 10), none⟩,
   ⟨(some 14), .load false 1 (.t 13), none⟩,
   ⟨(some 5), .mv (.t 14), none⟩] [])
 (.seq (.region (some [4, 5]) [⟨(some 15), .mv (.t 5), none⟩,
   ⟨(some 16), .mv (.t 5), none⟩,
   ⟨(some 17), .len false (.t 16), none⟩,
   ⟨(some 18), .bin .sub (.t 17) (.c (.d (.i .i64 1))), none⟩,
   ⟨(some 19), .iaddrS 2 (.t 15) (.t 18), none⟩,
   ⟨(some 20), .load true 2 (.t 19), none⟩,
   ⟨none, .store 2 (.t 4) (.t 20), none⟩] [])
 (.ret))))
def a_history_History_interval : AFn := .code 2 c_history_History_interval [.cell true 2 4]
set_option maxRecDepth 100000 in
theorem k_history_History_interval : compF Try.prog h_history_History_interval F_history_History_interval = some a_history_History_interval := by kernel_rfl

/-- paddock/maps.Apply -/
def h_maps_Apply : Hints := { kp := [(0, [0, 1]), (1, [2, 3, 4]), (2, [4]), (3, [2, 3, 4]), (4, [2, 3, 4]), (5, [2, 3, 4, 6]), (6, [2, 3, 4, 6, 30]), (8, [2, 3, 4, 6, 30]), (10, [2, 3, 4, 6, 30]), (11, [2, 3, 4, 6]), (9, [2, 4, 6]), (7, [2, 4, 6]), (12, [2, 4])], lkp := [], lth := [] }
def c_maps_Apply : ACode :=
 .seq (.region (some [0, 1]) [⟨(some 2), .box (.t 0), none⟩,
   ⟨(some 3), .box (.t 1), none⟩,
   ⟨(some 4), .box (.c (.d (.agg Pk.Mp.zero.cs))), none⟩,
   ⟨(some 5), .mv (.c (.d (.i .i64 0))), none⟩] [])
 (.seq (.seq (.region (some [2, 3, 4]) [⟨(some 7), .load true 16 (.t 2), none⟩,
   ⟨(some 8), .call (.f F_maps_Is) [.t 7], none⟩,
   ⟨(some 9), .un .not (.t 8), none⟩,
   ⟨(some 10), .mv (.t 9), none⟩,
   ⟨(some 11), .load true 3 (.t 3), some (10, false)⟩,
   ⟨(some 12), .call (.f F_maps_IsInc) [.t 11], some (10, false)⟩,
   ⟨(some 13), .un .not (.t 12), some (10, false)⟩,
   ⟨(some 14), .pick (.t 10) (.c (.d (.b true))) (.t 13), none⟩,
   ⟨(some 15), .mv (.t 14), none⟩,
   ⟨(some 16), .faddr 0 (.t 2), some (15, false)⟩,
   ⟨(some 17), .load false 1 (.t 16), some (15, false)⟩,
   ⟨(some 18), .bin .eql (.t 17) (.c (.d (.i .u32 60))), some (15, false)⟩,
   ⟨(some 19), .pick (.t 15) (.c (.d (.b true))) (.t 18), none⟩] [])
 (.cond (.t 19) (.seq (.region (some [4]) [⟨(some 20), .build (List.map .d Pk.Mp.zero.cs) [], none⟩,
    ⟨none, .store 16 (.t 4) (.t 20), none⟩,
    ⟨(some 5), .mv (.c (.d (.i .i64 40))), none⟩] [])
  (.ret)) (.skip)))
 (.seq (.region (some [2, 3, 4]) [⟨(some 21), .faddr 0 (.t 2), none⟩,
   ⟨(some 22), .load false 1 (.t 21), none⟩,
   ⟨(some 23), .bin .add (.t 22) (.c (.d (.i .u32 1))), none⟩,
   ⟨(some 24), .faddr 0 (.t 2), none⟩,
   ⟨none, .store 1 (.t 24) (.t 23), none⟩] [])
 (.seq (.seq (.region (some [2, 3, 4]) [⟨(some 25), .faddr 1 (.t 3), none⟩,
   ⟨(some 26), .load false 1 (.t 25), none⟩,
   ⟨(some 27), .faddr 1 (.t 2), none⟩,
   ⟨(some 28), .iaddrA 5 3 (.t 27) (.t 26), none⟩,
   ⟨(some 6), .mv (.t 28), none⟩] [])
 (.seq (.region (some [2, 3, 4, 6]) [⟨(some 29), .faddr 0 (.t 3), none⟩,
   ⟨(some 30), .load false 1 (.t 29), none⟩] [])
 (.block 0 (.seq (.region (some [2, 3, 4, 6, 30]) [⟨(some 32), .bin .eql (.t 30) (.c (.d (.i .u8 1))), none⟩,
    ⟨(some 31), .mv (.t 32), none⟩] [])
  (.cond (.t 31) (.region (some [2, 4, 6]) [⟨(some 33), .mv (.t 6), none⟩,
     ⟨(some 34), .nilck (.t 33), none⟩,
     ⟨(some 35), .faddr 0 (.t 34), none⟩,
     ⟨none, .store 1 (.t 35) (.c (.d (.b true))), none⟩] []) (.seq (.region (some [2, 3, 4, 6, 30]) [⟨(some 37), .bin .eql (.t 30) (.c (.d (.i .u8 2))), none⟩,
     ⟨(some 36), .mv (.t 37), none⟩] [])
   (.cond (.t 36) (.region (some [2, 4, 6]) [⟨(some 38), .mv (.t 6), none⟩,
      ⟨(some 39), .nilck (.t 38), none⟩,
      ⟨(some 40), .faddr 0 (.t 39), none⟩,
      ⟨none, .store 1 (.t 40) (.c (.d (.b false))), none⟩] []) (.seq (.region (some [2, 3, 4, 6, 30]) [⟨(some 42), .bin .eql (.t 30) (.c (.d (.i .u8 3))), none⟩,
      ⟨(some 41), .mv (.t 42), none⟩] [])
    (.cond (.t 41) (.region (some [2, 3, 4, 6]) [⟨(some 43), .mv (.t 6), none⟩,
       ⟨(some 44), .faddr 2 (.t 3), none⟩,
       ⟨(some 45), .load false 1 (.t 44), none⟩,
       ⟨(some 46), .nilck (.t 43), none⟩,
       ⟨(some 47), .faddr 1 (.t 46), none⟩,
       ⟨none, .store 1 (.t 47) (.t 45), none⟩] []) (.skip))))))))))
 (.seq (.region (some [2, 4]) [⟨(some 48), .load true 16 (.t 2), none⟩,
   ⟨none, .store 16 (.t 4) (.t 48), none⟩,
   ⟨(some 5), .mv (.c (.d (.i .i64 0))), none⟩] [])
 (.ret)))))
def a_maps_Apply : AFn := .code 2 c_maps_Apply [.cell true 16 4, .tmp 5]
set_option maxRecDepth 100000 in
theorem k_maps_Apply : compF Try.prog h_maps_Apply F_maps_Apply = some a_maps_Apply := by kernel_rfl

/-- (*paddock/history.History).Intervals -/
def h_history_History_Intervals : Hints := { kp := [(0, [0, 1]), (1, [0, 1]), (2, []), (3, [0, 1]), (4, [5]), (5, [5, 17, 18, 19]), (6, [5, 17, 18, 19]), (7, [5, 6, 7, 17, 18, 19]), (8, [5, 17, 18, 19]), (9, [5])], lkp := [(5, [5, 17, 18, 19])], lth := [] }
def K_history_History_Intervals_0 : Option (List Nat) := (some [5, 17, 18, 19])
def l_history_History_Intervals_0 : ACode :=
 .seq (.region (some [5, 17, 18, 19]) [⟨(some 20), .bin .lss (.t 19) (.t 18), none⟩] [])
 (.seq (.cond (.t 20) (.skip) (.exit 0))
 (.seq (.block 1 (.seq (.region (some [5, 17, 18, 19]) [⟨(some 21), .mv (.t 19), none⟩,
    ⟨(some 22), .iaddrS 2 (.t 17) (.t 19), none⟩,
    ⟨(some 23), .load true 2 (.t 22), none⟩,
    ⟨(some 7), .box (.c (.agg Pk.Itv.zeroA)), none⟩,
    ⟨(some 6), .mv (.t 21), none⟩,
    ⟨none, .store 2 (.t 7) (.t 23), none⟩] [])
  (.region (some [5, 6, 7, 17, 18, 19]) [⟨(some 24), .mv (.t 5), none⟩,
    ⟨(some 25), .mv (.t 6), none⟩,
    ⟨(some 26), .faddr 1 (.t 7), none⟩,
    ⟨(some 27), .load false 1 (.t 26), none⟩,
    ⟨(some 28), .call (.f F_slices_Clone_sint_int) [.t 27], none⟩,
    ⟨(some 29), .iaddrS 2 (.t 24) (.t 25), none⟩,
    ⟨(some 30), .faddr 1 (.t 29), none⟩,
    ⟨none, .store 1 (.t 30) (.t 28), none⟩] [])))
 (.region (some [5, 17, 18, 19]) [⟨(some 31), .bin .add (.t 19) (.c (.d (.i .i64 1))), none⟩,
   ⟨(some 19), .mv (.t 31), none⟩] [])))
def c_history_History_Intervals : ACode :=
 .seq (.region (some [0, 1]) [⟨(some 4), .mv (.c (.nilS)), none⟩] [])
 (.seq (.seq (.region (some [0, 1]) [⟨(some 8), .mv (.t 1), none⟩,
   ⟨(some 9), .bin .geq (.t 8) (.c (.d (.i .u8 4))), none⟩] [])
 (.cond (.t 9) (.seq (.region (some []) [⟨(some 4), .mv (.c (.nilS)), none⟩] [])
  (.ret)) (.skip)))
 (.seq (.region (some [0, 1]) [⟨(some 10), .mv (.t 0), none⟩,
   ⟨(some 11), .mv (.t 1), none⟩,
   ⟨(some 12), .nilck (.t 10), none⟩,
   ⟨(some 13), .faddr 3 (.t 12), none⟩,
   ⟨(some 14), .iaddrA 4 1 (.t 13) (.t 11), none⟩,
   ⟨(some 15), .load false 1 (.t 14), none⟩,
   ⟨(some 16), .call (.f F_slices_Clone_sapi_Interval_api_Interval) [.t 15], none⟩,
   ⟨(some 5), .mv (.t 16), none⟩] [])
 (.seq (.seq (.region (some [5]) [⟨(some 17), .mv (.t 5), none⟩,
   ⟨(some 18), .len false (.t 17), none⟩,
   ⟨(some 19), .mv (.c (.d (.i .i64 0))), none⟩] [])
 (.block 0 (.loop K_history_History_Intervals_0 [] l_history_History_Intervals_0)))
 (.seq (.region (some [5]) [⟨(some 32), .mv (.t 5), none⟩,
   ⟨(some 4), .mv (.t 32), none⟩] [])
 (.ret)))))
def a_history_History_Intervals : AFn := .code 2 c_history_History_Intervals [.tmp 4]
set_option maxRecDepth 100000 in
theorem k_history_History_Intervals : compF Try.prog h_history_History_Intervals F_history_History_Intervals = some a_history_History_Intervals := by kernel_rfl

/-- (paddock/choose.ear).misses -/
def h_choose_ear_misses : Hints := { kp := [(0, [0, 1]), (1, [2, 3])], lkp := [], lth := [] }
def c_choose_ear_misses : ACode :=
 .seq (.region (some [0, 1]) [⟨(some 2), .box (.t 0), none⟩,
   ⟨(some 3), .box (.t 1), none⟩,
   ⟨(some 4), .mv (.c (.d (.b false))), none⟩] [])
 (.seq (.region (some [2, 3]) [⟨(some 5), .faddr 1 (.t 3), none⟩,
   ⟨(some 6), .load false 1 (.t 5), none⟩,
   ⟨(some 7), .len false (.t 6), none⟩,
   ⟨(some 8), .bin .geq (.t 7) (.c (.d (.i .i64 2))), none⟩,
   ⟨(some 9), .mv (.t 8), none⟩,
   ⟨(some 10), .faddr 0 (.t 3), some (9, true)⟩,
   ⟨(some 11), .load false 1 (.t 10), some (9, true)⟩,
   ⟨(some 12), .faddr 1 (.t 2), some (9, true)⟩,
   ⟨(some 13), .load false 1 (.t 12), some (9, true)⟩,
   ⟨(some 14), .bin .geq (.t 11) (.t 13), some (9, true)⟩,
   ⟨(some 15), .pick (.t 9) (.t 14) (.c (.d (.b false))), none⟩,
   ⟨(some 16), .mv (.t 15), none⟩,
   ⟨(some 17), .faddr 1 (.t 3), some (16, true)⟩,
   ⟨(some 18), .load false 1 (.t 17), some (16, true)⟩,
   ⟨(some 19), .load true 2 (.t 2), some (16, true)⟩,
   ⟨(some 20), .mkfn F_choose_ear_hears [.t 19] [], some (16, true)⟩,
   ⟨(some 21), .call (.f F_slices_ContainsFunc_sint_int) [.t 18, .t 20], some (16, true)⟩,
   ⟨(some 22), .un .not (.t 21), some (16, true)⟩,
   ⟨(some 23), .pick (.t 16) (.t 22) (.c (.d (.b false))), none⟩,
   ⟨(some 4), .mv (.t 23), none⟩] [])
 (.ret))
def a_choose_ear_misses : AFn := .code 2 c_choose_ear_misses [.tmp 4]
set_option maxRecDepth 100000 in
theorem k_choose_ear_misses : compF Try.prog h_choose_ear_misses F_choose_ear_misses = some a_choose_ear_misses := by kernel_rfl

/-- slices.DeleteFunc[[]paddock/api.Interval,paddock/api.Interval] -/
def h_slices_DeleteFunc_sapi_Interval_api_Interval : Hints := { kp := [(0, [0, 1]), (1, [0, 1]), (2, [0, 1, 5]), (3, [0]), (4, [0, 1, 5]), (5, [0, 1, 5, 6]), (7, [0, 1, 5, 6]), (8, [0, 1, 5, 6, 7]), (9, [0, 1, 5, 6, 7]), (10, [0, 1, 5, 6]), (6, [0, 1, 5, 6]), (11, [0, 5]), (12, [0, 5])], lkp := [(5, [0, 1, 5, 6])], lth := [] }
def K_slices_DeleteFunc_sapi_Interval_api_Interval_0 : Option (List Nat) := (some [0, 1, 5, 6])
def l_slices_DeleteFunc_sapi_Interval_api_Interval_0 : ACode :=
 .seq (.seq (.region (some [0, 1, 5, 6]) [⟨(some 16), .mv (.t 6), none⟩,
   ⟨(some 17), .mv (.t 0), none⟩,
   ⟨(some 18), .len false (.t 17), none⟩,
   ⟨(some 19), .bin .lss (.t 16) (.t 18), none⟩] [])
 (.cond (.t 19) (.skip) (.exit 0)))
 (.seq (.block 1 (.seq (.region (some [0, 1, 5, 6]) [⟨(some 22), .mv (.t 0), none⟩,
    ⟨(some 23), .mv (.t 6), none⟩,
    ⟨(some 24), .iaddrS 2 (.t 22) (.t 23), none⟩,
    ⟨(some 25), .load true 2 (.t 24), none⟩,
    ⟨(some 7), .box (.c (.agg Pk.Itv.zeroA)), none⟩,
    ⟨none, .store 2 (.t 7) (.t 25), none⟩] [])
  (.seq (.region (some [0, 1, 5, 6, 7]) [⟨(some 26), .mv (.t 1), none⟩,
    ⟨(some 27), .load true 2 (.t 7), none⟩,
    ⟨(some 28), .call (.t 26) [.t 27], none⟩,
    ⟨(some 29), .un .not (.t 28), none⟩] [])
  (.cond (.t 29) (.seq (.region (some [0, 1, 5, 6, 7]) [⟨(some 30), .mv (.t 0), none⟩,
     ⟨(some 31), .mv (.t 5), none⟩,
     ⟨(some 32), .load true 2 (.t 7), none⟩,
     ⟨(some 33), .iaddrS 2 (.t 30) (.t 31), none⟩,
     ⟨none, .store 2 (.t 33) (.t 32), none⟩] [])
   (.region (some [0, 1, 5, 6]) [⟨(some 34), .mv (.t 5), none⟩,
     ⟨(some 35), .bin .add (.t 34) (.c (.d (.i .i64 1))), none⟩,
     ⟨(some 5), .mv (.t 35), none⟩] [])) (.skip)))))
 (.region (some [0, 1, 5, 6]) [⟨(some 20), .mv (.t 6), none⟩,
   ⟨(some 21), .bin .add (.t 20) (.c (.d (.i .i64 1))), none⟩,
   ⟨(some 6), .mv (.t 21), none⟩] []))
def c_slices_DeleteFunc_sapi_Interval_api_Interval : ACode :=
 .seq (.region (some [0, 1]) [⟨(some 4), .mv (.c (.nilS)), none⟩] [])
 (.seq (.region (some [0, 1]) [⟨(some 8), .mv (.t 0), none⟩,
   ⟨(some 9), .mv (.t 1), none⟩,
   ⟨(some 10), .call (.f F_slices_IndexFunc_sapi_Interval_api_Interval) [.t 8, .t 9], none⟩,
   ⟨(some 5), .mv (.t 10), none⟩] [])
 (.seq (.seq (.region (some [0, 1, 5]) [⟨(some 11), .mv (.t 5), none⟩,
   ⟨(some 12), .bin .eql (.t 11) (.c (.d (.i .i64 (-1)))), none⟩] [])
 (.cond (.t 12) (.seq (.region (some [0]) [⟨(some 13), .mv (.t 0), none⟩,
    ⟨(some 4), .mv (.t 13), none⟩] [])
  (.ret)) (.skip)))
 (.seq (.seq (.region (some [0, 1, 5]) [⟨(some 14), .mv (.t 5), none⟩,
   ⟨(some 15), .bin .add (.t 14) (.c (.d (.i .i64 1))), none⟩,
   ⟨(some 6), .mv (.t 15), none⟩] [])
 (.block 0 (.loop K_slices_DeleteFunc_sapi_Interval_api_Interval_0 [] l_slices_DeleteFunc_sapi_Interval_api_Interval_0)))
 (.seq (.region (some [0, 5]) [⟨(some 36), .mv (.t 0), none⟩,
   ⟨(some 37), .mv (.t 5), none⟩,
   ⟨(some 38), .slice 2 (.t 36) (some (.t 37)) none none, none⟩,
   ⟨none, .clr (.agg [.i .u32 0, .sl []]) (.t 38), none⟩] [])
 (.seq (.region (some [0, 5]) [⟨(some 39), .mv (.t 0), none⟩,
   ⟨(some 40), .mv (.t 5), none⟩,
   ⟨(some 41), .slice 2 (.t 39) none (some (.t 40)) none, none⟩,
   ⟨(some 4), .mv (.t 41), none⟩] [])
 (.ret))))))
def a_slices_DeleteFunc_sapi_Interval_api_Interval : AFn := .code 2 c_slices_DeleteFunc_sapi_Interval_api_Interval [.tmp 4]
set_option maxRecDepth 100000 in
theorem k_slices_DeleteFunc_sapi_Interval_api_Interval : compF Try.prog h_slices_DeleteFunc_sapi_Interval_api_Interval F_slices_DeleteFunc_sapi_Interval_api_Interval = some a_slices_DeleteFunc_sapi_Interval_api_Interval := by kernel_rfl

/-- paddock/choose.Lacks$1 -/
def h_choose_Lacks_1 : Hints := { kp := [(0, [0, 1]), (1, [1, 2])], lkp := [], lth := [] }
def c_choose_Lacks_1 : ACode :=
 .seq (.region (some [0, 1]) [⟨(some 2), .box (.t 0), none⟩,
   ⟨(some 3), .mv (.c (.d (.b false))), none⟩] [])
 (.seq (.region (some [1, 2]) [⟨(some 4), .load false 1 (.t 1), none⟩,
   ⟨(some 5), .load true 2 (.t 2), none⟩,
   ⟨(some 6), .call (.t 4) [.t 5], none⟩,
   ⟨(some 7), .un .not (.t 6), none⟩,
   ⟨(some 3), .mv (.t 7), none⟩] [])
 (.ret))
def a_choose_Lacks_1 : AFn := .code 2 c_choose_Lacks_1 [.tmp 3]
set_option maxRecDepth 100000 in
theorem k_choose_Lacks_1 : compF Try.prog h_choose_Lacks_1 F_choose_Lacks_1 = some a_choose_Lacks_1 := by kernel_rfl

/-- (*paddock/paddockref3.History).Add -/
def h_paddockref3_History_Add : Hints := { kp := [(0, [0, 1, 2]), (1, [0, 1, 5]), (3, [0, 1, 5]), (4, []), (2, []), (5, [0, 5]), (6, [0, 5, 8]), (7, []), (8, [0, 5]), (9, [])], lkp := [], lth := [] }
def c_paddockref3_History_Add : ACode :=
 .seq (.region (some [0, 1, 2]) [⟨(some 5), .box (.t 2), none⟩,
   ⟨(some 6), .mv (.c (.d (.i .i64 0))), none⟩] [])
 (.seq (.block 0 (.seq (.region (some [0, 1, 5]) [⟨(some 10), .mv (.t 1), none⟩,
    ⟨(some 11), .mv (.t 0), none⟩,
    ⟨(some 12), .call (.f F_paddockref3_History_Last) [.t 11], none⟩,
    ⟨(some 13), .bin .leq (.t 10) (.t 12), none⟩,
    ⟨(some 9), .mv (.t 13), none⟩] [])
  (.cond (.t 9) (.seq (.region (some []) [⟨(some 6), .mv (.c (.d (.i .i64 51))), none⟩] [])
   (.ret)) (.seq (.region (some [0, 1, 5]) [⟨(some 15), .mv (.t 1), none⟩,
     ⟨(some 16), .mv (.t 0), none⟩,
     ⟨(some 17), .call (.f F_paddockref3_History_Last) [.t 16], none⟩,
     ⟨(some 18), .bin .add (.t 17) (.c (.d (.i .u32 1))), none⟩,
     ⟨(some 19), .bin .gtr (.t 15) (.t 18), none⟩,
     ⟨(some 14), .mv (.t 19), none⟩] [])
   (.cond (.t 14) (.seq (.region (some []) [⟨(some 6), .mv (.c (.d (.i .i64 50))), none⟩] [])
    (.ret)) (.skip))))))
 (.seq (.region (some [0, 5]) [⟨(some 21), .mv (.t 0), none⟩,
   ⟨(some 22), .mv (.t 0), none⟩,
   ⟨(some 23), .call (.f F_paddockref3_History_Last) [.t 22], none⟩,
   ⟨(some 24), .call (.f F_paddockref3_History_Map) [.t 21, .t 23], none⟩,
   ⟨(some 25), .load true 3 (.t 5), none⟩,
   ⟨(some 26), .call (.f F_paddockref3_Apply) [.t 24, .t 25], none⟩,
   ⟨(some 20), .mv (.t 26), none⟩,
   ⟨(some 27), .ext (.t 20) 0, none⟩,
   ⟨(some 28), .ext (.t 20) 1, none⟩,
   ⟨(some 7), .box (.c (.d (.agg Pk.Mp.zero.cs))), none⟩,
   ⟨none, .store 16 (.t 7) (.t 27), none⟩,
   ⟨(some 8), .mv (.t 28), none⟩] [(2, 4), (3, 4), (2, 9), (3, 9), (4, 9), (5, 9)])
 (.seq (.seq (.region (some [0, 5, 8]) [⟨(some 29), .mv (.t 8), none⟩,
   ⟨(some 30), .un .not (.t 29), none⟩] [])
 (.cond (.t 30) (.seq (.region (some []) [⟨(some 6), .mv (.c (.d (.i .i64 40))), none⟩] [])
  (.ret)) (.skip)))
 (.seq (.region (some [0, 5]) [⟨(some 31), .mv (.t 0), none⟩,
   ⟨(some 32), .mv (.t 0), none⟩,
   ⟨(some 33), .nilck (.t 32), none⟩,
   ⟨(some 34), .faddr 0 (.t 33), none⟩,
   ⟨(some 35), .load false 1 (.t 34), none⟩,
   ⟨(some 36), .load true 3 (.t 5), none⟩,
   ⟨(some 37), .bsl 3 [.t 36], none⟩,
   ⟨(some 38), .app 3 (.t 35) (.t 37), none⟩,
   ⟨(some 39), .nilck (.t 31), none⟩,
   ⟨(some 40), .faddr 0 (.t 39), none⟩,
   ⟨none, .store 1 (.t 40) (.t 38), none⟩] [(4, 5), (4, 6)])
 (.seq (.region (some []) [⟨(some 6), .mv (.c (.d (.i .i64 0))), none⟩] [])
 (.ret))))))
def a_paddockref3_History_Add : AFn := .code 3 c_paddockref3_History_Add [.tmp 6]
set_option maxRecDepth 100000 in
theorem k_paddockref3_History_Add : compF Try.prog h_paddockref3_History_Add F_paddockref3_History_Add = some a_paddockref3_History_Add := by kernel_rfl

/-- (*paddock/paddockref3.History).Last -/
def h_paddockref3_History_Last : Hints := { kp := [(0, [0]), (1, [0])], lkp := [], lth := [] }
def c_paddockref3_History_Last : ACode :=
 .seq (.region (some [0]) [⟨(some 2), .mv (.c (.d (.i .u32 0))), none⟩] [])
 (.seq (.region (some [0]) [⟨(some 3), .mv (.t 0), none⟩,
   ⟨(some 4), .nilck (.t 3), none⟩,
   ⟨(some 5), .faddr 0 (.t 4), none⟩,
   ⟨(some 6), .load false 1 (.t 5), none⟩,
   ⟨(some 7), .len false (.t 6), none⟩,
   ⟨(some 8), .conv .u32 (.t 7), none⟩,
   ⟨(some 9), .bin .add (.t 8) (.c (.d (.i .u32 1))), none⟩,
   ⟨(some 2), .mv (.t 9), none⟩] [])
 (.ret))
def a_paddockref3_History_Last : AFn := .code 1 c_paddockref3_History_Last [.tmp 2]
set_option maxRecDepth 100000 in
theorem k_paddockref3_History_Last : compF Try.prog h_paddockref3_History_Last F_paddockref3_History_Last = some a_paddockref3_History_Last := by kernel_rfl

/-- paddock/choose.Enough$1 -/
def h_choose_Enough_1 : Hints := { kp := [(0, [0, 1]), (1, [0, 1])], lkp := [], lth := [] }
def c_choose_Enough_1 : ACode :=
 .seq (.region (some [0, 1]) [⟨(some 3), .mv (.c (.d (.b false))), none⟩] [])
 (.seq (.region (some [0, 1]) [⟨(some 4), .load false 1 (.t 1), none⟩,
   ⟨(some 5), .mv (.t 0), none⟩,
   ⟨(some 6), .call (.f F_slices_Contains_sint_int) [.t 4, .t 5], none⟩,
   ⟨(some 7), .un .not (.t 6), none⟩,
   ⟨(some 3), .mv (.t 7), none⟩] [])
 (.ret))
def a_choose_Enough_1 : AFn := .code 2 c_choose_Enough_1 [.tmp 3]
set_option maxRecDepth 100000 in
theorem k_choose_Enough_1 : compF Try.prog h_choose_Enough_1 F_choose_Enough_1 = some a_choose_Enough_1 := by kernel_rfl

/-- slices.Contains[[]int,int] -/
def h_slices_Contains_sint_int : Hints := { kp := [(0, [0, 1]), (1, [0, 1])], lkp := [], lth := [] }
def c_slices_Contains_sint_int : ACode :=
 .seq (.region (some [0, 1]) [⟨(some 4), .mv (.c (.d (.b false))), none⟩] [])
 (.seq (.region (some [0, 1]) [⟨(some 5), .mv (.t 0), none⟩,
   ⟨(some 6), .mv (.t 1), none⟩,
   ⟨(some 7), .call (.f F_slices_Index_sint_int) [.t 5, .t 6], none⟩,
   ⟨(some 8), .bin .geq (.t 7) (.c (.d (.i .i64 0))), none⟩,
   ⟨(some 4), .mv (.t 8), none⟩] [])
 (.ret))
def a_slices_Contains_sint_int : AFn := .code 2 c_slices_Contains_sint_int [.tmp 4]
set_option maxRecDepth 100000 in
theorem k_slices_Contains_sint_int : compF Try.prog h_slices_Contains_sint_int F_slices_Contains_sint_int = some a_slices_Contains_sint_int := by kernel_rfl

/-- slices.ContainsFunc[[]int,int] -/
def h_slices_ContainsFunc_sint_int : Hints := { kp := [(0, [0, 1]), (1, [0, 1])], lkp := [], lth := [] }
def c_slices_ContainsFunc_sint_int : ACode :=
 .seq (.region (some [0, 1]) [⟨(some 4), .mv (.c (.d (.b false))), none⟩] [])
 (.seq (.region (some [0, 1]) [⟨(some 5), .mv (.t 0), none⟩,
   ⟨(some 6), .mv (.t 1), none⟩,
   ⟨(some 7), .call (.f F_slices_IndexFunc_sint_int) [.t 5, .t 6], none⟩,
   ⟨(some 8), .bin .geq (.t 7) (.c (.d (.i .i64 0))), none⟩,
   ⟨(some 4), .mv (.t 8), none⟩] [])
 (.ret))
def a_slices_ContainsFunc_sint_int : AFn := .code 2 c_slices_ContainsFunc_sint_int [.tmp 4]
set_option maxRecDepth 100000 in
theorem k_slices_ContainsFunc_sint_int : compF Try.prog h_slices_ContainsFunc_sint_int F_slices_ContainsFunc_sint_int = some a_slices_ContainsFunc_sint_int := by kernel_rfl

/-- paddock/paddockref6.IsOp -/
def h_paddockref6_IsOp : Hints := { kp := [(0, [0]), (1, [1]), (2, []), (3, [1]), (4, []), (5, [1])], lkp := [], lth := [] }
def c_paddockref6_IsOp : ACode :=
 .seq (.region (some [0]) [⟨(some 1), .box (.t 0), none⟩,
   ⟨(some 2), .mv (.c (.d (.b false))), none⟩] [])
 (.seq (.seq (.region (some [1]) [⟨(some 3), .faddr 0 (.t 1), none⟩,
   ⟨(some 4), .load false 1 (.t 3), none⟩,
   ⟨(some 5), .bin .lss (.t 4) (.c (.d (.i .u8 1))), none⟩,
   ⟨(some 6), .mv (.t 5), none⟩,
   ⟨(some 7), .faddr 0 (.t 1), some (6, false)⟩,
   ⟨(some 8), .load false 1 (.t 7), some (6, false)⟩,
   ⟨(some 9), .bin .gtr (.t 8) (.c (.d (.i .u8 3))), some (6, false)⟩,
   ⟨(some 10), .pick (.t 6) (.c (.d (.b true))) (.t 9), none⟩,
   ⟨(some 11), .mv (.t 10), none⟩,
   ⟨(some 12), .faddr 1 (.t 1), some (11, false)⟩,
   ⟨(some 13), .load false 1 (.t 12), some (11, false)⟩,
   ⟨(some 14), .bin .lss (.t 13) (.c (.d (.i .u32 1))), some (11, false)⟩,
   ⟨(some 15), .pick (.t 11) (.c (.d (.b true))) (.t 14), none⟩,
   ⟨(some 16), .mv (.t 15), none⟩,
   ⟨(some 17), .faddr 2 (.t 1), some (16, false)⟩,
   ⟨(some 18), .load false 1 (.t 17), some (16, false)⟩,
   ⟨(some 19), .bin .lss (.t 18) (.c (.d (.i .u8 1))), some (16, false)⟩,
   ⟨(some 20), .pick (.t 16) (.c (.d (.b true))) (.t 19), none⟩,
   ⟨(some 21), .mv (.t 20), none⟩,
   ⟨(some 22), .faddr 2 (.t 1), some (21, false)⟩,
   ⟨(some 23), .load false 1 (.t 22), some (21, false)⟩,
   ⟨(some 24), .bin .gtr (.t 23) (.c (.d (.i .u8 5))), some (21, false)⟩,
   ⟨(some 25), .pick (.t 21) (.c (.d (.b true))) (.t 24), none⟩,
   ⟨(some 26), .mv (.t 25), none⟩,
   ⟨(some 27), .faddr 3 (.t 1), some (26, false)⟩,
   ⟨(some 28), .load false 1 (.t 27), some (26, false)⟩,
   ⟨(some 29), .bin .geq (.t 28) (.c (.d (.i .u8 6))), some (26, false)⟩,
   ⟨(some 30), .pick (.t 26) (.c (.d (.b true))) (.t 29), none⟩,
   ⟨(some 31), .mv (.t 30), none⟩,
   ⟨(some 32), .faddr 5 (.t 1), some (31, false)⟩,
   ⟨(some 33), .load false 1 (.t 32), some (31, false)⟩,
   ⟨(some 34), .len true (.t 33), some (31, false)⟩,
   ⟨(some 35), .bin .gtr (.t 34) (.c (.d (.i .i64 16))), some (31, false)⟩,
   ⟨(some 36), .pick (.t 31) (.c (.d (.b true))) (.t 35), none⟩] [])
 (.cond (.t 36) (.seq (.region (some []) [⟨(some 2), .mv (.c (.d (.b false))), none⟩] [])
  (.ret)) (.skip)))
 (.seq (.seq (.region (some [1]) [⟨(some 37), .faddr 2 (.t 1), none⟩,
   ⟨(some 38), .load false 1 (.t 37), none⟩,
   ⟨(some 39), .bin .neq (.t 38) (.c (.d (.i .u8 1))), none⟩,
   ⟨(some 40), .mv (.t 39), none⟩,
   ⟨(some 41), .faddr 2 (.t 1), some (40, true)⟩,
   ⟨(some 42), .load false 1 (.t 41), some (40, true)⟩,
   ⟨(some 43), .bin .neq (.t 42) (.c (.d (.i .u8 3))), some (40, true)⟩,
   ⟨(some 44), .pick (.t 40) (.t 43) (.c (.d (.b false))), none⟩,
   ⟨(some 45), .mv (.t 44), none⟩,
   ⟨(some 46), .faddr 5 (.t 1), some (45, true)⟩,
   ⟨(some 47), .load false 1 (.t 46), some (45, true)⟩,
   ⟨(some 48), .bin .neq (.t 47) (.c (.d (.s ⟨#[]⟩))), some (45, true)⟩,
   ⟨(some 49), .pick (.t 45) (.t 48) (.c (.d (.b false))), none⟩] [])
 (.cond (.t 49) (.seq (.region (some []) [⟨(some 2), .mv (.c (.d (.b false))), none⟩] [])
  (.ret)) (.skip)))
 (.seq (.region (some [1]) [⟨(some 50), .faddr 2 (.t 1), none⟩,
   ⟨(some 51), .load false 1 (.t 50), none⟩,
   ⟨(some 52), .bin .neq (.t 51) (.c (.d (.i .u8 4))), none⟩,
   ⟨(some 53), .mv (.t 52), none⟩,
   ⟨(some 54), .faddr 2 (.t 1), some (53, true)⟩,
   ⟨(some 55), .load false 1 (.t 54), some (53, true)⟩,
   ⟨(some 56), .bin .neq (.t 55) (.c (.d (.i .u8 5))), some (53, true)⟩,
   ⟨(some 57), .pick (.t 53) (.t 56) (.c (.d (.b false))), none⟩,
   ⟨(some 58), .mv (.t 57), none⟩,
   ⟨(some 59), .faddr 4 (.t 1), some (58, false)⟩,
   ⟨(some 60), .load false 1 (.t 59), some (58, false)⟩,
   ⟨(some 61), .bin .eql (.t 60) (.c (.d (.i .u8 0))), some (58, false)⟩,
   ⟨(some 62), .pick (.t 58) (.c (.d (.b true))) (.t 61), none⟩,
   ⟨(some 2), .mv (.t 62), none⟩] [])
 (.ret))))
def a_paddockref6_IsOp : AFn := .code 1 c_paddockref6_IsOp [.tmp 2]
set_option maxRecDepth 100000 in
theorem k_paddockref6_IsOp : compF Try.prog h_paddockref6_IsOp F_paddockref6_IsOp = some a_paddockref6_IsOp := by kernel_rfl

/-- slices.IndexFunc[[]paddock/api.State,paddock/api.State] -/
def h_slices_IndexFunc_sapi_State_api_State : Hints := { kp := [(0, [0, 1]), (1, [0, 1]), (2, [0, 1, 7, 8]), (3, [0, 1, 7, 8]), (4, [0, 1, 5, 7, 8]), (5, [5]), (6, [0, 1, 7, 8]), (7, [])], lkp := [(2, [0, 1, 7, 8])], lth := [] }
def K_slices_IndexFunc_sapi_State_api_State_0 : Option (List Nat) := (some [0, 1, 7, 8])
def l_slices_IndexFunc_sapi_State_api_State_0 : ACode :=
 .seq (.region (some [0, 1, 7, 8]) [⟨(some 9), .bin .lss (.t 8) (.t 7), none⟩] [])
 (.seq (.cond (.t 9) (.skip) (.exit 0))
 (.seq (.block 1 (.seq (.region (some [0, 1, 7, 8]) [⟨(some 10), .mv (.t 8), none⟩,
    ⟨(some 5), .mv (.t 10), none⟩] [])
  (.seq (.region (some [0, 1, 5, 7, 8]) [⟨(some 11), .mv (.t 1), none⟩,
    ⟨(some 12), .mv (.t 0), none⟩,
    ⟨(some 13), .mv (.t 5), none⟩,
    ⟨(some 14), .iaddrS 49 (.t 12) (.t 13), none⟩,
    ⟨(some 15), .load true 49 (.t 14), none⟩,
    ⟨(some 16), .call (.t 11) [.t 15], none⟩] [])
  (.cond (.t 16) (.seq (.region (some [5]) [⟨(some 17), .mv (.t 5), none⟩,
     ⟨(some 4), .mv (.t 17), none⟩] [])
   (.ret)) (.skip)))))
 (.region (some [0, 1, 7, 8]) [⟨(some 18), .bin .add (.t 8) (.c (.d (.i .i64 1))), none⟩,
   ⟨(some 8), .mv (.t 18), none⟩] [])))
def c_slices_IndexFunc_sapi_State_api_State : ACode :=
 .seq (.region (some [0, 1]) [⟨(some 4), .mv (.c (.d (.i .i64 0))), none⟩] [])
 (.seq (.seq (.region (some [0, 1]) [⟨(some 6), .mv (.t 0), none⟩,
   ⟨(some 7), .len false (.t 6), none⟩,
   ⟨(some 8), .mv (.c (.d (.i .i64 0))), none⟩] [])
 (.block 0 (.loop K_slices_IndexFunc_sapi_State_api_State_0 [] l_slices_IndexFunc_sapi_State_api_State_0)))
 (.seq (.region (some []) [⟨(some 4), .mv (.c (.d (.i .i64 (-1)))), none⟩] [])
 (.ret)))
def a_slices_IndexFunc_sapi_State_api_State : AFn := .code 2 c_slices_IndexFunc_sapi_State_api_State [.tmp 4]
set_option maxRecDepth 100000 in
theorem k_slices_IndexFunc_sapi_State_api_State : compF Try.prog h_slices_IndexFunc_sapi_State_api_State F_slices_IndexFunc_sapi_State_api_State = some a_slices_IndexFunc_sapi_State_api_State := by kernel_rfl

/-- paddock/pglog.base -/
def h_pglog_base : Hints := { kp := [(0, [0]), (1, [1]), (2, [1, 8, 9]), (3, [1, 8, 9]), (4, [1, 4, 8, 9]), (5, []), (6, [1, 8, 9]), (7, [1]), (8, [17, 18]), (9, [17, 18]), (10, [6, 17, 18]), (11, []), (12, [17, 18]), (13, [])], lkp := [(2, [1, 8, 9]), (8, [17, 18])], lth := [] }
def K_pglog_base_0 : Option (List Nat) := (some [1, 8, 9])
def l_pglog_base_0 : ACode :=
 .seq (.region (some [1, 8, 9]) [⟨(some 10), .bin .lss (.t 9) (.c (.d (.i .i64 6))), none⟩] [])
 (.seq (.cond (.t 10) (.skip) (.exit 0))
 (.seq (.block 1 (.seq (.region (some [1, 8, 9]) [⟨(some 11), .idxA true 6 5 (.t 8) (.t 9), none⟩,
    ⟨(some 4), .box (.c (.d (.agg [.b false, .s ⟨#[]⟩, .s ⟨#[]⟩, .s ⟨#[]⟩, .s ⟨#[]⟩]))), none⟩,
    ⟨none, .store 5 (.t 4) (.t 11), none⟩] [])
  (.seq (.region (some [1, 4, 8, 9]) [⟨(some 12), .load true 5 (.t 4), none⟩,
    ⟨(some 13), .call (.f F_pglog_object) [.t 12], none⟩,
    ⟨(some 14), .un .not (.t 13), none⟩] [])
  (.cond (.t 14) (.seq (.region (some []) [⟨(some 2), .mv (.c (.d (.b false))), none⟩] [])
   (.ret)) (.skip)))))
 (.region (some [1, 8, 9]) [⟨(some 15), .bin .add (.t 9) (.c (.d (.i .i64 1))), none⟩,
   ⟨(some 9), .mv (.t 15), none⟩] [])))
def K_pglog_base_1 : Option (List Nat) := (some [17, 18])
def l_pglog_base_1 : ACode :=
 .seq (.region (some [17, 18]) [⟨(some 19), .bin .lss (.t 18) (.c (.d (.i .i64 3))), none⟩] [])
 (.seq (.cond (.t 19) (.skip) (.exit 2))
 (.seq (.block 3 (.seq (.region (some [17, 18]) [⟨(some 20), .idxA true 3 3 (.t 17) (.t 18), none⟩,
    ⟨(some 6), .box (.c (.d (.agg [.i .u32 0, .i .u8 0, .s ⟨#[]⟩]))), none⟩,
    ⟨none, .store 3 (.t 6) (.t 20), none⟩] [])
  (.seq (.region (some [6, 17, 18]) [⟨(some 21), .faddr 1 (.t 6), none⟩,
    ⟨(some 22), .faddr 1 (.t 21), none⟩,
    ⟨(some 23), .load false 1 (.t 22), none⟩,
    ⟨(some 24), .bin .neq (.t 23) (.c (.d (.s ⟨#[]⟩))), none⟩,
    ⟨(some 25), .mv (.t 24), none⟩,
    ⟨(some 26), .faddr 1 (.t 6), some (25, false)⟩,
    ⟨(some 27), .faddr 0 (.t 26), some (25, false)⟩,
    ⟨(some 28), .load false 1 (.t 27), some (25, false)⟩,
    ⟨(some 29), .bin .gtr (.t 28) (.c (.d (.i .u8 3))), some (25, false)⟩,
    ⟨(some 30), .pick (.t 25) (.c (.d (.b true))) (.t 29), none⟩,
    ⟨(some 31), .mv (.t 30), none⟩,
    ⟨(some 32), .faddr 0 (.t 6), some (31, false)⟩,
    ⟨(some 33), .load false 1 (.t 32), some (31, false)⟩,
    ⟨(some 34), .bin .eql (.t 33) (.c (.d (.i .u32 0))), some (31, false)⟩,
    ⟨(some 35), .mv (.t 34), some (31, false)⟩,
    ⟨(some 36), .load true 3 (.t 6), some (35, true)⟩,
    ⟨(some 37), .build [.d (.i .u32 0), .d (.i .u8 0), .d (.s ⟨#[]⟩)] [], some (35, true)⟩,
    ⟨(some 38), .eq true Pk.Last.ety (.t 36) (.t 37), some (35, true)⟩,
    ⟨(some 39), .pick (.t 35) (.t 38) (.c (.d (.b false))), some (31, false)⟩,
    ⟨(some 40), .pick (.t 31) (.c (.d (.b true))) (.t 39), none⟩] [])
  (.cond (.t 40) (.seq (.region (some []) [⟨(some 2), .mv (.c (.d (.b false))), none⟩] [])
   (.ret)) (.skip)))))
 (.region (some [17, 18]) [⟨(some 41), .bin .add (.t 18) (.c (.d (.i .i64 1))), none⟩,
   ⟨(some 18), .mv (.t 41), none⟩] [])))
def c_pglog_base : ACode :=
 .seq (.region (some [0]) [⟨(some 1), .box (.t 0), none⟩,
   ⟨(some 2), .mv (.c (.d (.b false))), none⟩] [])
 (.seq (.seq (.region (some [1]) [⟨(some 7), .faddr 0 (.t 1), none⟩,
   ⟨(some 8), .load true 30 (.t 7), none⟩,
   ⟨(some 9), .mv (.c (.d (.i .i64 0))), none⟩] [])
 (.block 0 (.loop K_pglog_base_0 [] l_pglog_base_0)))
 (.seq (.seq (.region (some [1]) [⟨(some 16), .faddr 30 (.t 1), none⟩,
   ⟨(some 17), .load true 9 (.t 16), none⟩,
   ⟨(some 18), .mv (.c (.d (.i .i64 0))), none⟩] [])
 (.block 2 (.loop K_pglog_base_1 [] l_pglog_base_1)))
 (.seq (.region (some []) [⟨(some 2), .mv (.c (.d (.b true))), none⟩] [])
 (.ret))))
def a_pglog_base : AFn := .code 1 c_pglog_base [.tmp 2]
set_option maxRecDepth 100000 in
theorem k_pglog_base : compF Try.prog h_pglog_base F_pglog_base = some a_pglog_base := by kernel_rfl

/-- paddock/pglog.next -/
def h_pglog_next : Hints := { kp := [(0, [0, 1]), (1, [2, 3])], lkp := [], lth := [] }
def c_pglog_next : ACode :=
 .seq (.region (some [0, 1]) [⟨(some 2), .box (.t 0), none⟩,
   ⟨(some 3), .box (.t 1), none⟩,
   ⟨(some 4), .mv (.c (.d (.b false))), none⟩] [])
 (.seq (.region (some [2, 3]) [⟨(some 5), .faddr 2 (.t 3), none⟩,
   ⟨(some 6), .load true 6 (.t 5), none⟩,
   ⟨(some 7), .call (.f F_objects_Writes) [.t 6], none⟩,
   ⟨(some 8), .mv (.t 7), none⟩,
   ⟨(some 9), .faddr 1 (.t 3), some (8, true)⟩,
   ⟨(some 10), .load false 1 (.t 9), some (8, true)⟩,
   ⟨(some 11), .faddr 1 (.t 2), some (8, true)⟩,
   ⟨(some 12), .load false 1 (.t 11), some (8, true)⟩,
   ⟨(some 13), .bin .add (.t 12) (.c (.d (.i .u32 1))), some (8, true)⟩,
   ⟨(some 14), .bin .eql (.t 10) (.t 13), some (8, true)⟩,
   ⟨(some 15), .pick (.t 8) (.t 14) (.c (.d (.b false))), none⟩,
   ⟨(some 16), .mv (.t 15), none⟩,
   ⟨(some 17), .faddr 1 (.t 3), some (16, true)⟩,
   ⟨(some 18), .load false 1 (.t 17), some (16, true)⟩,
   ⟨(some 19), .faddr 1 (.t 2), some (16, true)⟩,
   ⟨(some 20), .load false 1 (.t 19), some (16, true)⟩,
   ⟨(some 21), .bin .gtr (.t 18) (.t 20), some (16, true)⟩,
   ⟨(some 22), .pick (.t 16) (.t 21) (.c (.d (.b false))), none⟩,
   ⟨(some 23), .mv (.t 22), none⟩,
   ⟨(some 24), .faddr 0 (.t 3), some (23, true)⟩,
   ⟨(some 25), .load false 1 (.t 24), some (23, true)⟩,
   ⟨(some 26), .faddr 0 (.t 2), some (23, true)⟩,
   ⟨(some 27), .load false 1 (.t 26), some (23, true)⟩,
   ⟨(some 28), .bin .geq (.t 25) (.t 27), some (23, true)⟩,
   ⟨(some 29), .pick (.t 23) (.t 28) (.c (.d (.b false))), none⟩,
   ⟨(some 30), .mv (.t 29), none⟩,
   ⟨(some 31), .faddr 0 (.t 3), some (30, true)⟩,
   ⟨(some 32), .load false 1 (.t 31), some (30, true)⟩,
   ⟨(some 33), .bin .leq (.t 32) (.c (.d (.i .u32 60))), some (30, true)⟩,
   ⟨(some 34), .pick (.t 30) (.t 33) (.c (.d (.b false))), none⟩,
   ⟨(some 4), .mv (.t 34), none⟩] [])
 (.ret))
def a_pglog_next : AFn := .code 2 c_pglog_next [.tmp 4]
set_option maxRecDepth 100000 in
theorem k_pglog_next : compF Try.prog h_pglog_next F_pglog_next = some a_pglog_next := by kernel_rfl

/-- paddock/pglog.last -/
def h_pglog_last : Hints := { kp := [(0, [0]), (1, [1, 2]), (2, [1, 2]), (3, [1, 2])], lkp := [], lth := [] }
def c_pglog_last : ACode :=
 .seq (.region (some [0]) [⟨(some 1), .box (.t 0), none⟩,
   ⟨(some 2), .box (.c (.d (.agg [.i .u32 0, .i .u32 0, .i .u8 0, .i .u32 0, .i .u8 0, .i .u8 0, .i .u8 0, .s ⟨#[]⟩]))), none⟩] [])
 (.seq (.seq (.region (some [1, 2]) [⟨(some 3), .faddr 48 (.t 1), none⟩,
   ⟨(some 4), .load false 1 (.t 3), none⟩,
   ⟨(some 5), .len false (.t 4), none⟩,
   ⟨(some 6), .bin .eql (.t 5) (.c (.d (.i .i64 0))), none⟩] [])
 (.cond (.t 6) (.seq (.region (some [1, 2]) [⟨(some 7), .faddr 40 (.t 1), none⟩,
    ⟨(some 8), .load true 8 (.t 7), none⟩,
    ⟨none, .store 8 (.t 2) (.t 8), none⟩] [])
  (.ret)) (.skip)))
 (.seq (.region (some [1, 2]) [⟨(some 9), .faddr 48 (.t 1), none⟩,
   ⟨(some 10), .load false 1 (.t 9), none⟩,
   ⟨(some 11), .faddr 48 (.t 1), none⟩,
   ⟨(some 12), .load false 1 (.t 11), none⟩,
   ⟨(some 13), .len false (.t 12), none⟩,
   ⟨(some 14), .bin .sub (.t 13) (.c (.d (.i .i64 1))), none⟩,
   ⟨(some 15), .iaddrS 8 (.t 10) (.t 14), none⟩,
   ⟨(some 16), .load true 8 (.t 15), none⟩,
   ⟨none, .store 8 (.t 2) (.t 16), none⟩] [])
 (.ret)))
def a_pglog_last : AFn := .code 1 c_pglog_last [.cell true 8 2]
set_option maxRecDepth 100000 in
theorem k_pglog_last : compF Try.prog h_pglog_last F_pglog_last = some a_pglog_last := by kernel_rfl

/-- paddock/place.Acting -/
def h_place_Acting : Hints := { dat := true, kp := [(0, [0, 1]), (1, [1, 2])], lkp := [], lth := [] }
def c_place_Acting : ACode :=
 .seq (.region (some [0, 1]) [⟨(some 2), .box (.t 0), none⟩,
   ⟨(some 4), .mv (.c (.nilS)), none⟩] [])
 (.seq (.region (some [1, 2]) [⟨(some 5), .load true 16 (.t 2), none⟩,
   ⟨(some 6), .mv (.t 1), none⟩,
   ⟨(some 7), .call (.f F_place_Pick) [.t 5, .t 6], none⟩,
   ⟨(some 8), .mkfn F_place_Acting_1 [] [.t 2], none⟩,
   ⟨(some 9), .call (.f F_slices_DeleteFunc_sint_int) [.t 7, .t 8], none⟩,
   ⟨(some 4), .mv (.t 9), none⟩] [])
 (.ret))
def a_place_Acting : AFn := .code 2 c_place_Acting [.dat (.tmp 4)]
set_option maxRecDepth 100000 in
theorem k_place_Acting : compF Try.prog h_place_Acting F_place_Acting = some a_place_Acting := by kernel_rfl

/-- slices.Equal[[]int,int] -/
def h_slices_Equal_sint_int : Hints := { kp := [(0, [0, 1]), (1, [0, 1]), (2, []), (3, [0, 1]), (4, [0, 1, 12, 13]), (5, [0, 1, 12, 13]), (6, [0, 1, 5, 12, 13]), (7, []), (8, [0, 1, 12, 13]), (9, [])], lkp := [(4, [0, 1, 12, 13])], lth := [] }
def K_slices_Equal_sint_int_0 : Option (List Nat) := (some [0, 1, 12, 13])
def l_slices_Equal_sint_int_0 : ACode :=
 .seq (.region (some [0, 1, 12, 13]) [⟨(some 14), .bin .lss (.t 13) (.t 12), none⟩] [])
 (.seq (.cond (.t 14) (.skip) (.exit 0))
 (.seq (.block 1 (.seq (.region (some [0, 1, 12, 13]) [⟨(some 15), .mv (.t 13), none⟩,
    ⟨(some 5), .mv (.t 15), none⟩] [])
  (.seq (.region (some [0, 1, 5, 12, 13]) [⟨(some 16), .mv (.t 0), none⟩,
    ⟨(some 17), .mv (.t 5), none⟩,
    ⟨(some 18), .iaddrS 1 (.t 16) (.t 17), none⟩,
    ⟨(some 19), .load false 1 (.t 18), none⟩,
    ⟨(some 20), .mv (.t 1), none⟩,
    ⟨(some 21), .mv (.t 5), none⟩,
    ⟨(some 22), .iaddrS 1 (.t 20) (.t 21), none⟩,
    ⟨(some 23), .load false 1 (.t 22), none⟩,
    ⟨(some 24), .bin .neq (.t 19) (.t 23), none⟩] [(3, 7)])
  (.cond (.t 24) (.seq (.region (some []) [⟨(some 4), .mv (.c (.d (.b false))), none⟩] [])
   (.ret)) (.skip)))))
 (.region (some [0, 1, 12, 13]) [⟨(some 25), .bin .add (.t 13) (.c (.d (.i .i64 1))), none⟩,
   ⟨(some 13), .mv (.t 25), none⟩] [])))
def c_slices_Equal_sint_int : ACode :=
 .seq (.region (some [0, 1]) [⟨(some 4), .mv (.c (.d (.b false))), none⟩] [])
 (.seq (.seq (.region (some [0, 1]) [⟨(some 6), .mv (.t 0), none⟩,
   ⟨(some 7), .len false (.t 6), none⟩,
   ⟨(some 8), .mv (.t 1), none⟩,
   ⟨(some 9), .len false (.t 8), none⟩,
   ⟨(some 10), .bin .neq (.t 7) (.t 9), none⟩] [])
 (.cond (.t 10) (.seq (.region (some []) [⟨(some 4), .mv (.c (.d (.b false))), none⟩] [])
  (.ret)) (.skip)))
 (.seq (.seq (.region (some [0, 1]) [⟨(some 11), .mv (.t 0), none⟩,
   ⟨(some 12), .len false (.t 11), none⟩,
   ⟨(some 13), .mv (.c (.d (.i .i64 0))), none⟩] [])
 (.block 0 (.loop K_slices_Equal_sint_int_0 [] l_slices_Equal_sint_int_0)))
 (.seq (.region (some []) [⟨(some 4), .mv (.c (.d (.b true))), none⟩] [])
 (.ret))))
def a_slices_Equal_sint_int : AFn := .code 2 c_slices_Equal_sint_int [.tmp 4]
set_option maxRecDepth 100000 in
theorem k_slices_Equal_sint_int : compF Try.prog h_slices_Equal_sint_int F_slices_Equal_sint_int = some a_slices_Equal_sint_int := by kernel_rfl

/-- paddock/maps.Is -/
def h_maps_Is : Hints := { kp := [(0, [0]), (1, [1]), (2, [1, 6, 7]), (3, [1, 6, 7]), (4, [1, 4, 6, 7]), (5, []), (6, [1, 6, 7]), (7, [1])], lkp := [(2, [1, 6, 7])], lth := [] }
def K_maps_Is_0 : Option (List Nat) := (some [1, 6, 7])
def l_maps_Is_0 : ACode :=
 .seq (.region (some [1, 6, 7]) [⟨(some 8), .bin .lss (.t 7) (.c (.d (.i .i64 5))), none⟩] [])
 (.seq (.cond (.t 8) (.skip) (.exit 0))
 (.seq (.block 1 (.seq (.region (some [1, 6, 7]) [⟨(some 9), .idxA true 5 3 (.t 6) (.t 7), none⟩,
    ⟨(some 4), .box (.c (.d (.agg [.b false, .i .i64 0, .i .u8 0]))), none⟩,
    ⟨none, .store 3 (.t 4) (.t 9), none⟩] [])
  (.seq (.region (some [1, 4, 6, 7]) [⟨(some 10), .faddr 1 (.t 4), none⟩,
    ⟨(some 11), .load false 1 (.t 10), none⟩,
    ⟨(some 12), .bin .lss (.t 11) (.c (.d (.i .i64 0))), none⟩,
    ⟨(some 13), .mv (.t 12), none⟩,
    ⟨(some 14), .faddr 1 (.t 4), some (13, false)⟩,
    ⟨(some 15), .load false 1 (.t 14), some (13, false)⟩,
    ⟨(some 16), .bin .gtr (.t 15) (.c (.d (.i .i64 16))), some (13, false)⟩,
    ⟨(some 17), .pick (.t 13) (.c (.d (.b true))) (.t 16), none⟩,
    ⟨(some 18), .mv (.t 17), none⟩,
    ⟨(some 19), .faddr 2 (.t 4), some (18, false)⟩,
    ⟨(some 20), .load false 1 (.t 19), some (18, false)⟩,
    ⟨(some 21), .bin .geq (.t 20) (.c (.d (.i .u8 8))), some (18, false)⟩,
    ⟨(some 22), .pick (.t 18) (.c (.d (.b true))) (.t 21), none⟩] [])
  (.cond (.t 22) (.seq (.region (some []) [⟨(some 2), .mv (.c (.d (.b false))), none⟩] [])
   (.ret)) (.skip)))))
 (.region (some [1, 6, 7]) [⟨(some 23), .bin .add (.t 7) (.c (.d (.i .i64 1))), none⟩,
   ⟨(some 7), .mv (.t 23), none⟩] [])))
def c_maps_Is : ACode :=
 .seq (.region (some [0]) [⟨(some 1), .box (.t 0), none⟩,
   ⟨(some 2), .mv (.c (.d (.b false))), none⟩] [])
 (.seq (.seq (.region (some [1]) [⟨(some 5), .faddr 1 (.t 1), none⟩,
   ⟨(some 6), .load true 15 (.t 5), none⟩,
   ⟨(some 7), .mv (.c (.d (.i .i64 0))), none⟩] [])
 (.block 0 (.loop K_maps_Is_0 [] l_maps_Is_0)))
 (.seq (.region (some [1]) [⟨(some 24), .faddr 0 (.t 1), none⟩,
   ⟨(some 25), .load false 1 (.t 24), none⟩,
   ⟨(some 26), .bin .geq (.t 25) (.c (.d (.i .u32 1))), none⟩,
   ⟨(some 27), .mv (.t 26), none⟩,
   ⟨(some 28), .faddr 0 (.t 1), some (27, true)⟩,
   ⟨(some 29), .load false 1 (.t 28), some (27, true)⟩,
   ⟨(some 30), .bin .leq (.t 29) (.c (.d (.i .u32 60))), some (27, true)⟩,
   ⟨(some 31), .pick (.t 27) (.t 30) (.c (.d (.b false))), none⟩,
   ⟨(some 2), .mv (.t 31), none⟩] [])
 (.ret)))
def a_maps_Is : AFn := .code 1 c_maps_Is [.tmp 2]
set_option maxRecDepth 100000 in
theorem k_maps_Is : compF Try.prog h_maps_Is F_maps_Is = some a_maps_Is := by kernel_rfl

/-- paddock/maps.IsInc -/
def h_maps_IsInc : Hints := { kp := [(0, [0]), (1, [1]), (2, [1, 4]), (3, [1, 4]), (5, [1, 4]), (6, [1]), (4, [1]), (7, [1])], lkp := [], lth := [] }
def c_maps_IsInc : ACode :=
 .seq (.region (some [0]) [⟨(some 1), .box (.t 0), none⟩,
   ⟨(some 2), .mv (.c (.d (.b false))), none⟩] [])
 (.seq (.seq (.region (some [1]) [⟨(some 3), .faddr 0 (.t 1), none⟩,
   ⟨(some 4), .load false 1 (.t 3), none⟩] [])
 (.block 0 (.seq (.seq (.region (some [1, 4]) [⟨(some 6), .bin .eql (.t 4) (.c (.d (.i .u8 1))), none⟩,
    ⟨(some 5), .mv (.t 6), none⟩] [])
  (.cond (.t 5) (.skip) (.region (some [1, 4]) [⟨(some 7), .bin .eql (.t 4) (.c (.d (.i .u8 2))), none⟩,
     ⟨(some 5), .mv (.t 7), none⟩] [])))
  (.cond (.t 5) (.seq (.region (some [1]) [⟨(some 8), .faddr 1 (.t 1), none⟩,
     ⟨(some 9), .load false 1 (.t 8), none⟩,
     ⟨(some 10), .bin .lss (.t 9) (.c (.d (.i .u8 5))), none⟩,
     ⟨(some 11), .mv (.t 10), none⟩,
     ⟨(some 12), .load true 3 (.t 1), some (11, true)⟩,
     ⟨(some 13), .faddr 0 (.t 1), some (11, true)⟩,
     ⟨(some 14), .load false 1 (.t 13), some (11, true)⟩,
     ⟨(some 15), .faddr 1 (.t 1), some (11, true)⟩,
     ⟨(some 16), .load false 1 (.t 15), some (11, true)⟩,
     ⟨(some 17), .build [.d (.i .u8 0), .d (.i .u8 0), .d (.i .i64 0)] [(0, 1, .t 14), (1, 1, .t 16)], some (11, true)⟩,
     ⟨(some 18), .eq false Pk.Inc.ety (.t 12) (.t 17), some (11, true)⟩,
     ⟨(some 19), .pick (.t 11) (.t 18) (.c (.d (.b false))), none⟩,
     ⟨(some 2), .mv (.t 19), none⟩] [])
   (.ret)) (.seq (.region (some [1, 4]) [⟨(some 21), .bin .eql (.t 4) (.c (.d (.i .u8 3))), none⟩,
     ⟨(some 20), .mv (.t 21), none⟩] [])
   (.cond (.t 20) (.seq (.region (some [1]) [⟨(some 22), .faddr 1 (.t 1), none⟩,
      ⟨(some 23), .load false 1 (.t 22), none⟩,
      ⟨(some 24), .bin .lss (.t 23) (.c (.d (.i .u8 5))), none⟩,
      ⟨(some 25), .mv (.t 24), none⟩,
      ⟨(some 26), .faddr 2 (.t 1), some (25, true)⟩,
      ⟨(some 27), .load false 1 (.t 26), some (25, true)⟩,
      ⟨(some 28), .bin .geq (.t 27) (.c (.d (.i .i64 0))), some (25, true)⟩,
      ⟨(some 29), .pick (.t 25) (.t 28) (.c (.d (.b false))), none⟩,
      ⟨(some 30), .mv (.t 29), none⟩,
      ⟨(some 31), .faddr 2 (.t 1), some (30, true)⟩,
      ⟨(some 32), .load false 1 (.t 31), some (30, true)⟩,
      ⟨(some 33), .bin .leq (.t 32) (.c (.d (.i .i64 16))), some (30, true)⟩,
      ⟨(some 34), .pick (.t 30) (.t 33) (.c (.d (.b false))), none⟩,
      ⟨(some 2), .mv (.t 34), none⟩] [])
    (.ret)) (.skip)))))))
 (.seq (.region (some [1]) [⟨(some 35), .load true 3 (.t 1), none⟩,
   ⟨(some 36), .build [.d (.i .u8 0), .d (.i .u8 0), .d (.i .i64 0)] [(0, 1, .c (.d (.i .u8 4)))], none⟩,
   ⟨(some 37), .eq false Pk.Inc.ety (.t 35) (.t 36), none⟩,
   ⟨(some 2), .mv (.t 37), none⟩] [])
 (.ret)))
def a_maps_IsInc : AFn := .code 1 c_maps_IsInc [.tmp 2]
set_option maxRecDepth 100000 in
theorem k_maps_IsInc : compF Try.prog h_maps_IsInc F_maps_IsInc = some a_maps_IsInc := by kernel_rfl

/-- slices.Clone[[]paddock/api.Interval,paddock/api.Interval] -/
def h_slices_Clone_sapi_Interval_api_Interval : Hints := { kp := [(0, [0]), (1, [0]), (2, []), (3, [0])], lkp := [], lth := [] }
def c_slices_Clone_sapi_Interval_api_Interval : ACode :=
 .seq (.region (some [0]) [⟨(some 2), .mv (.c (.nilS)), none⟩] [])
 (.seq (.seq (.region (some [0]) [⟨(some 3), .mv (.t 0), none⟩,
   ⟨(some 4), .isnil false (.t 3), none⟩] [])
 (.cond (.t 4) (.seq (.region (some []) [⟨(some 2), .mv (.c (.nilS)), none⟩] [])
  (.ret)) (.skip)))
 (.seq (.region (some [0]) [⟨(some 5), .bsl 2 [], none⟩,
   ⟨(some 6), .mv (.t 0), none⟩,
   ⟨(some 7), .app 2 (.t 5) (.t 6), none⟩,
   ⟨(some 2), .mv (.t 7), none⟩] [])
 (.ret)))
def a_slices_Clone_sapi_Interval_api_Interval : AFn := .code 1 c_slices_Clone_sapi_Interval_api_Interval [.tmp 2]
set_option maxRecDepth 100000 in
theorem k_slices_Clone_sapi_Interval_api_Interval : compF Try.prog h_slices_Clone_sapi_Interval_api_Interval F_slices_Clone_sapi_Interval_api_Interval = some a_slices_Clone_sapi_Interval_api_Interval := by kernel_rfl

/-- (paddock/choose.ear).hears -/
def h_choose_ear_hears : Hints := { kp := [(0, [0, 1]), (1, [1, 2])], lkp := [], lth := [] }
def c_choose_ear_hears : ACode :=
 .seq (.region (some [0, 1]) [⟨(some 2), .box (.t 0), none⟩,
   ⟨(some 4), .mv (.c (.d (.b false))), none⟩] [])
 (.seq (.region (some [1, 2]) [⟨(some 5), .faddr 0 (.t 2), none⟩,
   ⟨(some 6), .load false 1 (.t 5), none⟩,
   ⟨(some 7), .mv (.t 1), none⟩,
   ⟨(some 8), .call (.f F_slices_Contains_sint_int) [.t 6, .t 7], none⟩,
   ⟨(some 4), .mv (.t 8), none⟩] [])
 (.ret))
def a_choose_ear_hears : AFn := .code 2 c_choose_ear_hears [.tmp 4]
set_option maxRecDepth 100000 in
theorem k_choose_ear_hears : compF Try.prog h_choose_ear_hears F_choose_ear_hears = some a_choose_ear_hears := by kernel_rfl

/-- slices.IndexFunc[[]paddock/api.Interval,paddock/api.Interval] -/
def h_slices_IndexFunc_sapi_Interval_api_Interval : Hints := { kp := [(0, [0, 1]), (1, [0, 1]), (2, [0, 1, 7, 8]), (3, [0, 1, 7, 8]), (4, [0, 1, 5, 7, 8]), (5, [5]), (6, [0, 1, 7, 8]), (7, [])], lkp := [(2, [0, 1, 7, 8])], lth := [] }
def K_slices_IndexFunc_sapi_Interval_api_Interval_0 : Option (List Nat) := (some [0, 1, 7, 8])
def l_slices_IndexFunc_sapi_Interval_api_Interval_0 : ACode :=
 .seq (.region (some [0, 1, 7, 8]) [⟨(some 9), .bin .lss (.t 8) (.t 7), none⟩] [])
 (.seq (.cond (.t 9) (.skip) (.exit 0))
 (.seq (.block 1 (.seq (.region (some [0, 1, 7, 8]) [⟨(some 10), .mv (.t 8), none⟩,
    ⟨(some 5), .mv (.t 10), none⟩] [])
  (.seq (.region (some [0, 1, 5, 7, 8]) [⟨(some 11), .mv (.t 1), none⟩,
    ⟨(some 12), .mv (.t 0), none⟩,
    ⟨(some 13), .mv (.t 5), none⟩,
    ⟨(some 14), .iaddrS 2 (.t 12) (.t 13), none⟩,
    ⟨(some 15), .load true 2 (.t 14), none⟩,
    ⟨(some 16), .call (.t 11) [.t 15], none⟩] [])
  (.cond (.t 16) (.seq (.region (some [5]) [⟨(some 17), .mv (.t 5), none⟩,
     ⟨(some 4), .mv (.t 17), none⟩] [])
   (.ret)) (.skip)))))
 (.region (some [0, 1, 7, 8]) [⟨(some 18), .bin .add (.t 8) (.c (.d (.i .i64 1))), none⟩,
   ⟨(some 8), .mv (.t 18), none⟩] [])))
def c_slices_IndexFunc_sapi_Interval_api_Interval : ACode :=
 .seq (.region (some [0, 1]) [⟨(some 4), .mv (.c (.d (.i .i64 0))), none⟩] [])
 (.seq (.seq (.region (some [0, 1]) [⟨(some 6), .mv (.t 0), none⟩,
   ⟨(some 7), .len false (.t 6), none⟩,
   ⟨(some 8), .mv (.c (.d (.i .i64 0))), none⟩] [])
 (.block 0 (.loop K_slices_IndexFunc_sapi_Interval_api_Interval_0 [] l_slices_IndexFunc_sapi_Interval_api_Interval_0)))
 (.seq (.region (some []) [⟨(some 4), .mv (.c (.d (.i .i64 (-1)))), none⟩] [])
 (.ret)))
def a_slices_IndexFunc_sapi_Interval_api_Interval : AFn := .code 2 c_slices_IndexFunc_sapi_Interval_api_Interval [.tmp 4]
set_option maxRecDepth 100000 in
theorem k_slices_IndexFunc_sapi_Interval_api_Interval : compF Try.prog h_slices_IndexFunc_sapi_Interval_api_Interval F_slices_IndexFunc_sapi_Interval_api_Interval = some a_slices_IndexFunc_sapi_Interval_api_Interval := by kernel_rfl

/-- paddock/paddockref3.Apply -/
def h_paddockref3_Apply : Hints := { kp := [(0, [0, 1]), (1, [2, 3, 4]), (2, [4]), (3, [2, 3, 4]), (4, [2, 3, 4]), (5, [2, 3, 4, 25]), (6, [2, 3, 4, 25]), (8, [2, 3, 4, 25]), (9, [2, 3, 4]), (7, [2, 3, 4]), (10, [2, 4])], lkp := [], lth := [] }
def c_paddockref3_Apply : ACode :=
 .seq (.region (some [0, 1]) [⟨(some 2), .box (.t 0), none⟩,
   ⟨(some 3), .box (.t 1), none⟩,
   ⟨(some 4), .box (.c (.d (.agg Pk.Mp.zero.cs))), none⟩,
   ⟨(some 5), .mv (.c (.d (.b false))), none⟩] [])
 (.seq (.seq (.region (some [2, 3, 4]) [⟨(some 6), .load true 16 (.t 2), none⟩,
   ⟨(some 7), .call (.f F_paddockref3_Is) [.t 6], none⟩,
   ⟨(some 8), .un .not (.t 7), none⟩,
   ⟨(some 9), .mv (.t 8), none⟩,
   ⟨(some 10), .load true 3 (.t 3), some (9, false)⟩,
   ⟨(some 11), .call (.f F_paddockref3_IsInc) [.t 10], some (9, false)⟩,
   ⟨(some 12), .un .not (.t 11), some (9, false)⟩,
   ⟨(some 13), .pick (.t 9) (.c (.d (.b true))) (.t 12), none⟩,
   ⟨(some 14), .mv (.t 13), none⟩,
   ⟨(some 15), .faddr 0 (.t 2), some (14, false)⟩,
   ⟨(some 16), .load false 1 (.t 15), some (14, false)⟩,
   ⟨(some 17), .bin .geq (.t 16) (.c (.d (.i .u32 60))), some (14, false)⟩,
   ⟨(some 18), .pick (.t 14) (.c (.d (.b true))) (.t 17), none⟩] [])
 (.cond (.t 18) (.seq (.region (some [4]) [⟨(some 19), .build (List.map .d Pk.Mp.zero.cs) [], none⟩,
    ⟨none, .store 16 (.t 4) (.t 19), none⟩,
    ⟨(some 5), .mv (.c (.d (.b false))), none⟩] [])
  (.ret)) (.skip)))
 (.seq (.region (some [2, 3, 4]) [⟨(some 20), .faddr 0 (.t 2), none⟩,
   ⟨(some 21), .load false 1 (.t 20), none⟩,
   ⟨(some 22), .bin .add (.t 21) (.c (.d (.i .u32 1))), none⟩,
   ⟨(some 23), .faddr 0 (.t 2), none⟩,
   ⟨none, .store 1 (.t 23) (.t 22), none⟩] [])
 (.seq (.seq (.region (some [2, 3, 4]) [⟨(some 24), .faddr 0 (.t 3), none⟩,
   ⟨(some 25), .load false 1 (.t 24), none⟩] [])
 (.block 0 (.seq (.seq (.region (some [2, 3, 4, 25]) [⟨(some 27), .bin .eql (.t 25) (.c (.d (.i .u8 1))), none⟩,
    ⟨(some 26), .mv (.t 27), none⟩] [])
  (.cond (.t 26) (.skip) (.region (some [2, 3, 4, 25]) [⟨(some 28), .bin .eql (.t 25) (.c (.d (.i .u8 2))), none⟩,
     ⟨(some 26), .mv (.t 28), none⟩] [])))
  (.cond (.t 26) (.region (some [2, 3, 4]) [⟨(some 29), .faddr 1 (.t 3), none⟩,
     ⟨(some 30), .load false 1 (.t 29), none⟩,
     ⟨(some 31), .faddr 0 (.t 3), none⟩,
     ⟨(some 32), .load false 1 (.t 31), none⟩,
     ⟨(some 33), .bin .eql (.t 32) (.c (.d (.i .u8 1))), none⟩,
     ⟨(some 34), .faddr 1 (.t 2), none⟩,
     ⟨(some 35), .iaddrA 5 3 (.t 34) (.t 30), none⟩,
     ⟨(some 36), .faddr 0 (.t 35), none⟩,
     ⟨none, .store 1 (.t 36) (.t 33), none⟩] []) (.seq (.region (some [2, 3, 4, 25]) [⟨(some 38), .bin .eql (.t 25) (.c (.d (.i .u8 3))), none⟩,
     ⟨(some 37), .mv (.t 38), none⟩] [])
   (.cond (.t 37) (.region (some [2, 3, 4]) [⟨(some 39), .faddr 1 (.t 3), none⟩,
      ⟨(some 40), .load false 1 (.t 39), none⟩,
      ⟨(some 41), .faddr 2 (.t 3), none⟩,
      ⟨(some 42), .load false 1 (.t 41), none⟩,
      ⟨(some 43), .faddr 1 (.t 2), none⟩,
      ⟨(some 44), .iaddrA 5 3 (.t 43) (.t 40), none⟩,
      ⟨(some 45), .faddr 1 (.t 44), none⟩,
      ⟨none, .store 1 (.t 45) (.t 42), none⟩] []) (.skip)))))))
 (.seq (.region (some [2, 4]) [⟨(some 46), .load true 16 (.t 2), none⟩,
   ⟨none, .store 16 (.t 4) (.t 46), none⟩,
   ⟨(some 5), .mv (.c (.d (.b true))), none⟩] [])
 (.ret)))))
def a_paddockref3_Apply : AFn := .code 2 c_paddockref3_Apply [.cell true 16 4, .tmp 5]
set_option maxRecDepth 100000 in
theorem k_paddockref3_Apply : compF Try.prog h_paddockref3_Apply F_paddockref3_Apply = some a_paddockref3_Apply := by kernel_rfl

/-- (*paddock/paddockref3.History).Map -/
def h_paddockref3_History_Map : Hints := { kp := [(0, [0, 1]), (1, [0, 1, 4]), (2, [0, 1, 4, 5]), (3, [0, 1, 4, 5, 6]), (5, [0, 1, 4, 5, 6]), (4, [0, 1, 4, 5, 6]), (6, [4, 5])], lkp := [(3, [0, 1, 4, 5, 6])], lth := [] }
def K_paddockref3_History_Map_0 : Option (List Nat) := (some [0, 1, 4, 5, 6])
def l_paddockref3_History_Map_0 : ACode :=
 .seq (.seq (.region (some [0, 1, 4, 5, 6]) [⟨(some 8), .mv (.t 6), none⟩,
   ⟨(some 9), .bin .add (.t 8) (.c (.d (.i .i64 2))), none⟩,
   ⟨(some 10), .mv (.t 1), none⟩,
   ⟨(some 11), .conv .i64 (.t 10), none⟩,
   ⟨(some 12), .bin .leq (.t 9) (.t 11), none⟩,
   ⟨(some 13), .mv (.t 12), none⟩,
   ⟨(some 14), .mv (.t 6), some (13, true)⟩,
   ⟨(some 15), .mv (.t 0), some (13, true)⟩,
   ⟨(some 16), .nilck (.t 15), some (13, true)⟩,
   ⟨(some 17), .faddr 0 (.t 16), some (13, true)⟩,
   ⟨(some 18), .load false 1 (.t 17), some (13, true)⟩,
   ⟨(some 19), .len false (.t 18), some (13, true)⟩,
   ⟨(some 20), .bin .lss (.t 14) (.t 19), some (13, true)⟩,
   ⟨(some 21), .pick (.t 13) (.t 20) (.c (.d (.b false))), none⟩] [])
 (.cond (.t 21) (.skip) (.exit 0)))
 (.seq (.block 1 (.region (some [0, 1, 4, 5, 6]) [⟨(some 25), .load true 16 (.t 5), none⟩,
    ⟨(some 26), .mv (.t 0), none⟩,
    ⟨(some 27), .nilck (.t 26), none⟩,
    ⟨(some 28), .faddr 0 (.t 27), none⟩,
    ⟨(some 29), .load false 1 (.t 28), none⟩,
    ⟨(some 30), .mv (.t 6), none⟩,
    ⟨(some 31), .iaddrS 3 (.t 29) (.t 30), none⟩,
    ⟨(some 32), .load true 3 (.t 31), none⟩,
    ⟨(some 33), .call (.f F_paddockref3_Apply) [.t 25, .t 32], none⟩,
    ⟨(some 24), .mv (.t 33), none⟩,
    ⟨(some 34), .ext (.t 24) 0, none⟩,
    ⟨(some 35), .ext (.t 24) 1, none⟩,
    ⟨none, .store 16 (.t 5) (.t 34), none⟩] [(0, 4), (0, 7)]))
 (.region (some [0, 1, 4, 5, 6]) [⟨(some 22), .mv (.t 6), none⟩,
   ⟨(some 23), .bin .add (.t 22) (.c (.d (.i .i64 1))), none⟩,
   ⟨(some 6), .mv (.t 23), none⟩] []))
def c_paddockref3_History_Map : ACode :=
 .seq (.region (some [0, 1]) [⟨(some 4), .box (.c (.d (.agg Pk.Mp.zero.cs))), none⟩] [])
 (.seq (.region (some [0, 1, 4]) [⟨(some 7), .call (.f F_paddockref3_First) [], none⟩,
   ⟨(some 5), .box (.c (.d (.agg Pk.Mp.zero.cs))), none⟩,
   ⟨none, .store 16 (.t 5) (.t 7), none⟩] [])
 (.seq (.seq (.region (some [0, 1, 4, 5]) [⟨(some 6), .mv (.c (.d (.i .i64 0))), none⟩] [])
 (.block 0 (.loop K_paddockref3_History_Map_0 [] l_paddockref3_History_Map_0)))
 (.seq (.region (some [4, 5]) [⟨(some 36), .load true 16 (.t 5), none⟩,
   ⟨none, .store 16 (.t 4) (.t 36), none⟩] [])
 (.ret))))
def a_paddockref3_History_Map : AFn := .code 2 c_paddockref3_History_Map [.cell true 16 4]
set_option maxRecDepth 100000 in
theorem k_paddockref3_History_Map : compF Try.prog h_paddockref3_History_Map F_paddockref3_History_Map = some a_paddockref3_History_Map := by kernel_rfl

/-- slices.Index[[]int,int] -/
def h_slices_Index_sint_int : Hints := { kp := [(0, [0, 1]), (1, [0, 1]), (2, [0, 1, 7, 8]), (3, [0, 1, 7, 8]), (4, [0, 1, 5, 7, 8]), (5, [5]), (6, [0, 1, 7, 8]), (7, [])], lkp := [(2, [0, 1, 7, 8])], lth := [] }
def K_slices_Index_sint_int_0 : Option (List Nat) := (some [0, 1, 7, 8])
def l_slices_Index_sint_int_0 : ACode :=
 .seq (.region (some [0, 1, 7, 8]) [⟨(some 9), .bin .lss (.t 8) (.t 7), none⟩] [])
 (.seq (.cond (.t 9) (.skip) (.exit 0))
 (.seq (.block 1 (.seq (.region (some [0, 1, 7, 8]) [⟨(some 10), .mv (.t 8), none⟩,
    ⟨(some 5), .mv (.t 10), none⟩] [])
  (.seq (.region (some [0, 1, 5, 7, 8]) [⟨(some 11), .mv (.t 1), none⟩,
    ⟨(some 12), .mv (.t 0), none⟩,
    ⟨(some 13), .mv (.t 5), none⟩,
    ⟨(some 14), .iaddrS 1 (.t 12) (.t 13), none⟩,
    ⟨(some 15), .load false 1 (.t 14), none⟩,
    ⟨(some 16), .bin .eql (.t 11) (.t 15), none⟩] [])
  (.cond (.t 16) (.seq (.region (some [5]) [⟨(some 17), .mv (.t 5), none⟩,
     ⟨(some 4), .mv (.t 17), none⟩] [])
   (.ret)) (.skip)))))
 (.region (some [0, 1, 7, 8]) [⟨(some 18), .bin .add (.t 8) (.c (.d (.i .i64 1))), none⟩,
   ⟨(some 8), .mv (.t 18), none⟩] [])))
def c_slices_Index_sint_int : ACode :=
 .seq (.region (some [0, 1]) [⟨(some 4), .mv (.c (.d (.i .i64 0))), none⟩] [])
 (.seq (.seq (.region (some [0, 1]) [⟨(some 6), .mv (.t 0), none⟩,
   ⟨(some 7), .len false (.t 6), none⟩,
   ⟨(some 8), .mv (.c (.d (.i .i64 0))), none⟩] [])
 (.block 0 (.loop K_slices_Index_sint_int_0 [] l_slices_Index_sint_int_0)))
 (.seq (.region (some []) [⟨(some 4), .mv (.c (.d (.i .i64 (-1)))), none⟩] [])
 (.ret)))
def a_slices_Index_sint_int : AFn := .code 2 c_slices_Index_sint_int [.tmp 4]
set_option maxRecDepth 100000 in
theorem k_slices_Index_sint_int : compF Try.prog h_slices_Index_sint_int F_slices_Index_sint_int = some a_slices_Index_sint_int := by kernel_rfl

/-- slices.IndexFunc[[]int,int] -/
def h_slices_IndexFunc_sint_int : Hints := { kp := [(0, [0, 1]), (1, [0, 1]), (2, [0, 1, 7, 8]), (3, [0, 1, 7, 8]), (4, [0, 1, 5, 7, 8]), (5, [5]), (6, [0, 1, 7, 8]), (7, [])], lkp := [(2, [0, 1, 7, 8])], lth := [] }
def K_slices_IndexFunc_sint_int_0 : Option (List Nat) := (some [0, 1, 7, 8])
def l_slices_IndexFunc_sint_int_0 : ACode :=
 .seq (.region (some [0, 1, 7, 8]) [⟨(some 9), .bin .lss (.t 8) (.t 7), none⟩] [])
 (.seq (.cond (.t 9) (.skip) (.exit 0))
 (.seq (.block 1 (.seq (.region (some [0, 1, 7, 8]) [⟨(some 10), .mv (.t 8), none⟩,
    ⟨(some 5), .mv (.t 10), none⟩] [])
  (.seq (.region (some [0, 1, 5, 7, 8]) [⟨(some 11), .mv (.t 1), none⟩,
    ⟨(some 12), .mv (.t 0), none⟩,
    ⟨(some 13), .mv (.t 5), none⟩,
    ⟨(some 14), .iaddrS 1 (.t 12) (.t 13), none⟩,
    ⟨(some 15), .load false 1 (.t 14), none⟩,
    ⟨(some 16), .call (.t 11) [.t 15], none⟩] [])
  (.cond (.t 16) (.seq (.region (some [5]) [⟨(some 17), .mv (.t 5), none⟩,
     ⟨(some 4), .mv (.t 17), none⟩] [])
   (.ret)) (.skip)))))
 (.region (some [0, 1, 7, 8]) [⟨(some 18), .bin .add (.t 8) (.c (.d (.i .i64 1))), none⟩,
   ⟨(some 8), .mv (.t 18), none⟩] [])))
def c_slices_IndexFunc_sint_int : ACode :=
 .seq (.region (some [0, 1]) [⟨(some 4), .mv (.c (.d (.i .i64 0))), none⟩] [])
 (.seq (.seq (.region (some [0, 1]) [⟨(some 6), .mv (.t 0), none⟩,
   ⟨(some 7), .len false (.t 6), none⟩,
   ⟨(some 8), .mv (.c (.d (.i .i64 0))), none⟩] [])
 (.block 0 (.loop K_slices_IndexFunc_sint_int_0 [] l_slices_IndexFunc_sint_int_0)))
 (.seq (.region (some []) [⟨(some 4), .mv (.c (.d (.i .i64 (-1)))), none⟩] [])
 (.ret)))
def a_slices_IndexFunc_sint_int : AFn := .code 2 c_slices_IndexFunc_sint_int [.tmp 4]
set_option maxRecDepth 100000 in
theorem k_slices_IndexFunc_sint_int : compF Try.prog h_slices_IndexFunc_sint_int F_slices_IndexFunc_sint_int = some a_slices_IndexFunc_sint_int := by kernel_rfl

/-- paddock/pglog.object -/
def h_pglog_object : Hints := { kp := [(0, [0]), (1, [1]), (2, [1]), (3, [1]), (4, [1, 12, 13]), (5, [1, 12, 13]), (6, [1, 4, 12, 13]), (7, []), (8, [1, 12, 13]), (9, [1])], lkp := [(4, [1, 12, 13])], lth := [] }
def K_pglog_object_0 : Option (List Nat) := (some [1, 12, 13])
def l_pglog_object_0 : ACode :=
 .seq (.region (some [1, 12, 13]) [⟨(some 14), .bin .lss (.t 13) (.c (.d (.i .i64 3))), none⟩] [])
 (.seq (.cond (.t 14) (.skip) (.exit 0))
 (.seq (.block 1 (.seq (.region (some [1, 12, 13]) [⟨(some 15), .idxA false 3 1 (.t 12) (.t 13), none⟩,
    ⟨(some 4), .mv (.t 15), none⟩] [])
  (.seq (.region (some [1, 4, 12, 13]) [⟨(some 16), .mv (.t 4), none⟩,
    ⟨(some 17), .len true (.t 16), none⟩,
    ⟨(some 18), .bin .gtr (.t 17) (.c (.d (.i .i64 16))), none⟩] [])
  (.cond (.t 18) (.seq (.region (some []) [⟨(some 2), .mv (.c (.d (.b false))), none⟩] [])
   (.ret)) (.skip)))))
 (.region (some [1, 12, 13]) [⟨(some 19), .bin .add (.t 13) (.c (.d (.i .i64 1))), none⟩,
   ⟨(some 13), .mv (.t 19), none⟩] [])))
def c_pglog_object : ACode :=
 .seq (.region (some [0]) [⟨(some 1), .box (.t 0), none⟩,
   ⟨(some 2), .mv (.c (.d (.b false))), none⟩] [])
 (.seq (.seq (.region (some [1]) [⟨(some 5), .faddr 0 (.t 1), none⟩,
   ⟨(some 6), .load false 1 (.t 5), none⟩,
   ⟨(some 7), .un .not (.t 6), none⟩] [])
 (.cond (.t 7) (.seq (.region (some [1]) [⟨(some 8), .load true 5 (.t 1), none⟩,
    ⟨(some 9), .build [.d (.b false), .d (.s ⟨#[]⟩), .d (.s ⟨#[]⟩), .d (.s ⟨#[]⟩), .d (.s ⟨#[]⟩)] [], none⟩,
    ⟨(some 10), .eq false Pk.Objt.ety (.t 8) (.t 9), none⟩,
    ⟨(some 2), .mv (.t 10), none⟩] [])
  (.ret)) (.skip)))
 (.seq (.seq (.region (some [1]) [⟨(some 11), .faddr 2 (.t 1), none⟩,
   ⟨(some 12), .load true 3 (.t 11), none⟩,
   ⟨(some 13), .mv (.c (.d (.i .i64 0))), none⟩] [])
 (.block 0 (.loop K_pglog_object_0 [] l_pglog_object_0)))
 (.seq (.region (some [1]) [⟨(some 20), .faddr 1 (.t 1), none⟩,
   ⟨(some 21), .load false 1 (.t 20), none⟩,
   ⟨(some 22), .len true (.t 21), none⟩,
   ⟨(some 23), .bin .leq (.t 22) (.c (.d (.i .i64 16))), none⟩,
   ⟨(some 2), .mv (.t 23), none⟩] [])
 (.ret))))
def a_pglog_object : AFn := .code 1 c_pglog_object [.tmp 2]
set_option maxRecDepth 100000 in
theorem k_pglog_object : compF Try.prog h_pglog_object F_pglog_object = some a_pglog_object := by kernel_rfl

/-- paddock/objects.Writes -/
def h_objects_Writes : Hints := { kp := [(0, [0]), (1, [1])], lkp := [], lth := [] }
def c_objects_Writes : ACode :=
 .seq (.region (some [0]) [⟨(some 1), .box (.t 0), none⟩,
   ⟨(some 2), .mv (.c (.d (.b false))), none⟩] [])
 (.seq (.region (some [1]) [⟨(some 3), .load true 6 (.t 1), none⟩,
   ⟨(some 4), .call (.f F_objects_IsOp) [.t 3], none⟩,
   ⟨(some 5), .mv (.t 4), none⟩,
   ⟨(some 6), .faddr 2 (.t 1), some (5, true)⟩,
   ⟨(some 7), .load false 1 (.t 6), some (5, true)⟩,
   ⟨(some 8), .bin .neq (.t 7) (.c (.d (.i .u8 5))), some (5, true)⟩,
   ⟨(some 9), .pick (.t 5) (.t 8) (.c (.d (.b false))), none⟩,
   ⟨(some 2), .mv (.t 9), none⟩] [])
 (.ret))
def a_objects_Writes : AFn := .code 1 c_objects_Writes [.tmp 2]
set_option maxRecDepth 100000 in
theorem k_objects_Writes : compF Try.prog h_objects_Writes F_objects_Writes = some a_objects_Writes := by kernel_rfl

/-- slices.DeleteFunc[[]int,int] -/
def h_slices_DeleteFunc_sint_int : Hints := { kp := [(0, [0, 1]), (1, [0, 1]), (2, [0, 1, 5]), (3, [0]), (4, [0, 1, 5]), (5, [0, 1, 5, 6]), (7, [0, 1, 5, 6]), (8, [0, 1, 5, 6, 7]), (9, [0, 1, 5, 6, 7]), (10, [0, 1, 5, 6]), (6, [0, 1, 5, 6]), (11, [0, 5]), (12, [0, 5])], lkp := [(5, [0, 1, 5, 6])], lth := [] }
def K_slices_DeleteFunc_sint_int_0 : Option (List Nat) := (some [0, 1, 5, 6])
def l_slices_DeleteFunc_sint_int_0 : ACode :=
 .seq (.seq (.region (some [0, 1, 5, 6]) [⟨(some 16), .mv (.t 6), none⟩,
   ⟨(some 17), .mv (.t 0), none⟩,
   ⟨(some 18), .len false (.t 17), none⟩,
   ⟨(some 19), .bin .lss (.t 16) (.t 18), none⟩] [])
 (.cond (.t 19) (.skip) (.exit 0)))
 (.seq (.block 1 (.seq (.region (some [0, 1, 5, 6]) [⟨(some 22), .mv (.t 0), none⟩,
    ⟨(some 23), .mv (.t 6), none⟩,
    ⟨(some 24), .iaddrS 1 (.t 22) (.t 23), none⟩,
    ⟨(some 25), .load false 1 (.t 24), none⟩,
    ⟨(some 7), .mv (.t 25), none⟩] [])
  (.seq (.region (some [0, 1, 5, 6, 7]) [⟨(some 26), .mv (.t 1), none⟩,
    ⟨(some 27), .mv (.t 7), none⟩,
    ⟨(some 28), .call (.t 26) [.t 27], none⟩,
    ⟨(some 29), .un .not (.t 28), none⟩] [])
  (.cond (.t 29) (.seq (.region (some [0, 1, 5, 6, 7]) [⟨(some 30), .mv (.t 0), none⟩,
     ⟨(some 31), .mv (.t 5), none⟩,
     ⟨(some 32), .mv (.t 7), none⟩,
     ⟨(some 33), .iaddrS 1 (.t 30) (.t 31), none⟩,
     ⟨none, .store 1 (.t 33) (.t 32), none⟩] [])
   (.region (some [0, 1, 5, 6]) [⟨(some 34), .mv (.t 5), none⟩,
     ⟨(some 35), .bin .add (.t 34) (.c (.d (.i .i64 1))), none⟩,
     ⟨(some 5), .mv (.t 35), none⟩] [])) (.skip)))))
 (.region (some [0, 1, 5, 6]) [⟨(some 20), .mv (.t 6), none⟩,
   ⟨(some 21), .bin .add (.t 20) (.c (.d (.i .i64 1))), none⟩,
   ⟨(some 6), .mv (.t 21), none⟩] []))
def c_slices_DeleteFunc_sint_int : ACode :=
 .seq (.region (some [0, 1]) [⟨(some 4), .mv (.c (.nilS)), none⟩] [])
 (.seq (.region (some [0, 1]) [⟨(some 8), .mv (.t 0), none⟩,
   ⟨(some 9), .mv (.t 1), none⟩,
   ⟨(some 10), .call (.f F_slices_IndexFunc_sint_int) [.t 8, .t 9], none⟩,
   ⟨(some 5), .mv (.t 10), none⟩] [])
 (.seq (.seq (.region (some [0, 1, 5]) [⟨(some 11), .mv (.t 5), none⟩,
   ⟨(some 12), .bin .eql (.t 11) (.c (.d (.i .i64 (-1)))), none⟩] [])
 (.cond (.t 12) (.seq (.region (some [0]) [⟨(some 13), .mv (.t 0), none⟩,
    ⟨(some 4), .mv (.t 13), none⟩] [])
  (.ret)) (.skip)))
 (.seq (.seq (.region (some [0, 1, 5]) [⟨(some 14), .mv (.t 5), none⟩,
   ⟨(some 15), .bin .add (.t 14) (.c (.d (.i .i64 1))), none⟩,
   ⟨(some 6), .mv (.t 15), none⟩] [])
 (.block 0 (.loop K_slices_DeleteFunc_sint_int_0 [] l_slices_DeleteFunc_sint_int_0)))
 (.seq (.region (some [0, 5]) [⟨(some 36), .mv (.t 0), none⟩,
   ⟨(some 37), .mv (.t 5), none⟩,
   ⟨(some 38), .slice 1 (.t 36) (some (.t 37)) none none, none⟩,
   ⟨none, .clr (.i .i64 0) (.t 38), none⟩] [])
 (.seq (.region (some [0, 5]) [⟨(some 39), .mv (.t 0), none⟩,
   ⟨(some 40), .mv (.t 5), none⟩,
   ⟨(some 41), .slice 1 (.t 39) none (some (.t 40)) none, none⟩,
   ⟨(some 4), .mv (.t 41), none⟩] [])
 (.ret))))))
def a_slices_DeleteFunc_sint_int : AFn := .code 2 c_slices_DeleteFunc_sint_int [.tmp 4]
set_option maxRecDepth 100000 in
theorem k_slices_DeleteFunc_sint_int : compF Try.prog h_slices_DeleteFunc_sint_int F_slices_DeleteFunc_sint_int = some a_slices_DeleteFunc_sint_int := by kernel_rfl

/-- paddock/place.Pick -/
def h_place_Pick : Hints := { kp := [(0, [0, 1]), (1, [1, 2]), (2, []), (3, [1, 2]), (4, [5]), (5, [5, 6]), (7, [5, 6]), (6, [5, 6]), (8, [5])], lkp := [(5, [5, 6])], lth := [] }
def K_place_Pick_0 : Option (List Nat) := (some [5, 6])
def l_place_Pick_0 : ACode :=
 .seq (.seq (.region (some [5, 6]) [⟨(some 20), .mv (.t 6), none⟩,
   ⟨(some 21), .bin .lss (.t 20) (.c (.d (.i .i64 3))), none⟩,
   ⟨(some 22), .mv (.t 21), none⟩,
   ⟨(some 23), .mv (.t 5), some (22, true)⟩,
   ⟨(some 24), .nilck (.t 23), some (22, true)⟩,
   ⟨(some 25), .faddr 17 (.t 24), some (22, true)⟩,
   ⟨(some 26), .load false 1 (.t 25), some (22, true)⟩,
   ⟨(some 27), .len false (.t 26), some (22, true)⟩,
   ⟨(some 28), .bin .gtr (.t 27) (.c (.d (.i .i64 0))), some (22, true)⟩,
   ⟨(some 29), .pick (.t 22) (.t 28) (.c (.d (.b false))), none⟩] [])
 (.cond (.t 29) (.skip) (.exit 0)))
 (.seq (.block 1 (.region (some [5, 6]) [⟨(some 32), .mv (.t 5), none⟩,
    ⟨(some 33), .mv (.t 6), none⟩,
    ⟨(some 34), .call (.f F_place_choice_pick) [.t 32, .t 33], none⟩] []))
 (.region (some [5, 6]) [⟨(some 30), .mv (.t 6), none⟩,
   ⟨(some 31), .bin .add (.t 30) (.c (.d (.i .i64 1))), none⟩,
   ⟨(some 6), .mv (.t 31), none⟩] []))
def c_place_Pick : ACode :=
 .seq (.region (some [0, 1]) [⟨(some 2), .box (.t 0), none⟩,
   ⟨(some 4), .mv (.c (.nilS)), none⟩] [])
 (.seq (.seq (.region (some [1, 2]) [⟨(some 7), .load true 16 (.t 2), none⟩,
   ⟨(some 8), .call (.f F_maps_Is) [.t 7], none⟩,
   ⟨(some 9), .un .not (.t 8), none⟩,
   ⟨(some 10), .mv (.t 9), none⟩,
   ⟨(some 11), .mv (.t 1), some (10, false)⟩,
   ⟨(some 12), .bin .geq (.t 11) (.c (.d (.i .u8 4))), some (10, false)⟩,
   ⟨(some 13), .pick (.t 10) (.c (.d (.b true))) (.t 12), none⟩] [])
 (.cond (.t 13) (.seq (.region (some []) [⟨(some 4), .mv (.c (.nilS)), none⟩] [])
  (.ret)) (.skip)))
 (.seq (.region (some [1, 2]) [⟨(some 14), .load true 16 (.t 2), none⟩,
   ⟨(some 15), .mv (.t 1), none⟩,
   ⟨(some 16), .load true 16 (.t 2), none⟩,
   ⟨(some 17), .call (.f F_maps_In) [.t 16], none⟩,
   ⟨(some 18), .build [.d (.i .u32 0), .d (.b false), .d (.i .i64 0), .d (.i .u8 0), .d (.b false), .d (.i .i64 0), .d (.i .u8 0), .d (.b false), .d (.i .i64 0), .d (.i .u8 0), .d (.b false), .d (.i .i64 0), .d (.i .u8 0), .d (.b false), .d (.i .i64 0), .d (.i .u8 0), .d (.i .u8 0), .nilS, .nilS] [(0, 16, .t 14), (16, 1, .t 15), (17, 1, .t 17)], none⟩,
   ⟨(some 19), .box (.t 18), none⟩,
   ⟨(some 5), .mv (.t 19), none⟩] [(0, 2), (0, 3)])
 (.seq (.seq (.region (some [5]) [⟨(some 6), .mv (.c (.d (.i .i64 0))), none⟩] [])
 (.block 0 (.loop K_place_Pick_0 [] l_place_Pick_0)))
 (.seq (.region (some [5]) [⟨(some 35), .mv (.t 5), none⟩,
   ⟨(some 36), .nilck (.t 35), none⟩,
   ⟨(some 37), .faddr 18 (.t 36), none⟩,
   ⟨(some 38), .load false 1 (.t 37), none⟩,
   ⟨(some 4), .mv (.t 38), none⟩] [])
 (.ret)))))
def a_place_Pick : AFn := .code 2 c_place_Pick [.tmp 4]
set_option maxRecDepth 100000 in
theorem k_place_Pick : compF Try.prog h_place_Pick F_place_Pick = some a_place_Pick := by kernel_rfl

/-- paddock/place.Acting$1 -/
def h_place_Acting_1 : Hints := { kp := [(0, [0, 1]), (1, [0, 1])], lkp := [], lth := [] }
def c_place_Acting_1 : ACode :=
 .seq (.region (some [0, 1]) [⟨(some 3), .mv (.c (.d (.b false))), none⟩] [])
 (.seq (.region (some [0, 1]) [⟨(some 4), .mv (.t 0), none⟩,
   ⟨(some 5), .faddr 1 (.t 1), none⟩,
   ⟨(some 6), .iaddrA 5 3 (.t 5) (.t 4), none⟩,
   ⟨(some 7), .faddr 0 (.t 6), none⟩,
   ⟨(some 8), .load false 1 (.t 7), none⟩,
   ⟨(some 9), .un .not (.t 8), none⟩,
   ⟨(some 3), .mv (.t 9), none⟩] [])
 (.ret))
def a_place_Acting_1 : AFn := .code 2 c_place_Acting_1 [.tmp 3]
set_option maxRecDepth 100000 in
theorem k_place_Acting_1 : compF Try.prog h_place_Acting_1 F_place_Acting_1 = some a_place_Acting_1 := by kernel_rfl

/-- paddock/paddockref3.Is -/
def h_paddockref3_Is : Hints := { kp := [(0, [0]), (1, [1]), (2, [1, 3]), (4, [1, 3]), (5, [1, 3, 4]), (6, []), (3, [1, 3]), (7, [1])], lkp := [(2, [1, 3])], lth := [] }
def K_paddockref3_Is_0 : Option (List Nat) := (some [1, 3])
def l_paddockref3_Is_0 : ACode :=
 .seq (.seq (.region (some [1, 3]) [⟨(some 5), .mv (.t 3), none⟩,
   ⟨(some 6), .bin .lss (.t 5) (.c (.d (.i .i64 5))), none⟩] [])
 (.cond (.t 6) (.skip) (.exit 0)))
 (.seq (.block 1 (.seq (.region (some [1, 3]) [⟨(some 9), .mv (.t 3), none⟩,
    ⟨(some 10), .faddr 1 (.t 1), none⟩,
    ⟨(some 11), .iaddrA 5 3 (.t 10) (.t 9), none⟩,
    ⟨(some 12), .load true 3 (.t 11), none⟩,
    ⟨(some 4), .box (.c (.d (.agg [.b false, .i .i64 0, .i .u8 0]))), none⟩,
    ⟨none, .store 3 (.t 4) (.t 12), none⟩] [])
  (.seq (.region (some [1, 3, 4]) [⟨(some 13), .faddr 1 (.t 4), none⟩,
    ⟨(some 14), .load false 1 (.t 13), none⟩,
    ⟨(some 15), .bin .lss (.t 14) (.c (.d (.i .i64 0))), none⟩,
    ⟨(some 16), .mv (.t 15), none⟩,
    ⟨(some 17), .faddr 1 (.t 4), some (16, false)⟩,
    ⟨(some 18), .load false 1 (.t 17), some (16, false)⟩,
    ⟨(some 19), .bin .gtr (.t 18) (.c (.d (.i .i64 16))), some (16, false)⟩,
    ⟨(some 20), .pick (.t 16) (.c (.d (.b true))) (.t 19), none⟩,
    ⟨(some 21), .mv (.t 20), none⟩,
    ⟨(some 22), .faddr 2 (.t 4), some (21, false)⟩,
    ⟨(some 23), .load false 1 (.t 22), some (21, false)⟩,
    ⟨(some 24), .bin .geq (.t 23) (.c (.d (.i .u8 8))), some (21, false)⟩,
    ⟨(some 25), .pick (.t 21) (.c (.d (.b true))) (.t 24), none⟩] [])
  (.cond (.t 25) (.seq (.region (some []) [⟨(some 2), .mv (.c (.d (.b false))), none⟩] [])
   (.ret)) (.skip)))))
 (.region (some [1, 3]) [⟨(some 7), .mv (.t 3), none⟩,
   ⟨(some 8), .bin .add (.t 7) (.c (.d (.i .i64 1))), none⟩,
   ⟨(some 3), .mv (.t 8), none⟩] []))
def c_paddockref3_Is : ACode :=
 .seq (.region (some [0]) [⟨(some 1), .box (.t 0), none⟩,
   ⟨(some 2), .mv (.c (.d (.b false))), none⟩] [])
 (.seq (.seq (.region (some [1]) [⟨(some 3), .mv (.c (.d (.i .i64 0))), none⟩] [])
 (.block 0 (.loop K_paddockref3_Is_0 [] l_paddockref3_Is_0)))
 (.seq (.region (some [1]) [⟨(some 26), .faddr 0 (.t 1), none⟩,
   ⟨(some 27), .load false 1 (.t 26), none⟩,
   ⟨(some 28), .bin .geq (.t 27) (.c (.d (.i .u32 1))), none⟩,
   ⟨(some 29), .mv (.t 28), none⟩,
   ⟨(some 30), .faddr 0 (.t 1), some (29, true)⟩,
   ⟨(some 31), .load false 1 (.t 30), some (29, true)⟩,
   ⟨(some 32), .bin .leq (.t 31) (.c (.d (.i .u32 60))), some (29, true)⟩,
   ⟨(some 33), .pick (.t 29) (.t 32) (.c (.d (.b false))), none⟩,
   ⟨(some 2), .mv (.t 33), none⟩] [])
 (.ret)))
def a_paddockref3_Is : AFn := .code 1 c_paddockref3_Is [.tmp 2]
set_option maxRecDepth 100000 in
theorem k_paddockref3_Is : compF Try.prog h_paddockref3_Is F_paddockref3_Is = some a_paddockref3_Is := by kernel_rfl

/-- paddock/paddockref3.IsInc -/
def h_paddockref3_IsInc : Hints := { kp := [(0, [0]), (1, [1]), (2, [1, 4]), (3, [1, 4]), (5, [1, 4]), (7, [1, 4]), (8, [1]), (6, [1]), (4, [1]), (9, [])], lkp := [], lth := [] }
def c_paddockref3_IsInc : ACode :=
 .seq (.region (some [0]) [⟨(some 1), .box (.t 0), none⟩,
   ⟨(some 2), .mv (.c (.d (.b false))), none⟩] [])
 (.seq (.seq (.region (some [1]) [⟨(some 3), .faddr 0 (.t 1), none⟩,
   ⟨(some 4), .load false 1 (.t 3), none⟩] [])
 (.block 0 (.seq (.seq (.region (some [1, 4]) [⟨(some 6), .bin .eql (.t 4) (.c (.d (.i .u8 1))), none⟩,
    ⟨(some 5), .mv (.t 6), none⟩] [])
  (.cond (.t 5) (.skip) (.region (some [1, 4]) [⟨(some 7), .bin .eql (.t 4) (.c (.d (.i .u8 2))), none⟩,
     ⟨(some 5), .mv (.t 7), none⟩] [])))
  (.cond (.t 5) (.seq (.region (some [1]) [⟨(some 8), .faddr 1 (.t 1), none⟩,
     ⟨(some 9), .load false 1 (.t 8), none⟩,
     ⟨(some 10), .bin .lss (.t 9) (.c (.d (.i .u8 5))), none⟩,
     ⟨(some 11), .mv (.t 10), none⟩,
     ⟨(some 12), .faddr 2 (.t 1), some (11, true)⟩,
     ⟨(some 13), .load false 1 (.t 12), some (11, true)⟩,
     ⟨(some 14), .bin .eql (.t 13) (.c (.d (.i .i64 0))), some (11, true)⟩,
     ⟨(some 15), .pick (.t 11) (.t 14) (.c (.d (.b false))), none⟩,
     ⟨(some 2), .mv (.t 15), none⟩] [])
   (.ret)) (.seq (.region (some [1, 4]) [⟨(some 17), .bin .eql (.t 4) (.c (.d (.i .u8 3))), none⟩,
     ⟨(some 16), .mv (.t 17), none⟩] [])
   (.cond (.t 16) (.seq (.region (some [1]) [⟨(some 18), .faddr 1 (.t 1), none⟩,
      ⟨(some 19), .load false 1 (.t 18), none⟩,
      ⟨(some 20), .bin .lss (.t 19) (.c (.d (.i .u8 5))), none⟩,
      ⟨(some 21), .mv (.t 20), none⟩,
      ⟨(some 22), .faddr 2 (.t 1), some (21, true)⟩,
      ⟨(some 23), .load false 1 (.t 22), some (21, true)⟩,
      ⟨(some 24), .bin .geq (.t 23) (.c (.d (.i .i64 0))), some (21, true)⟩,
      ⟨(some 25), .pick (.t 21) (.t 24) (.c (.d (.b false))), none⟩,
      ⟨(some 26), .mv (.t 25), none⟩,
      ⟨(some 27), .faddr 2 (.t 1), some (26, true)⟩,
      ⟨(some 28), .load false 1 (.t 27), some (26, true)⟩,
      ⟨(some 29), .bin .leq (.t 28) (.c (.d (.i .i64 16))), some (26, true)⟩,
      ⟨(some 30), .pick (.t 26) (.t 29) (.c (.d (.b false))), none⟩,
      ⟨(some 2), .mv (.t 30), none⟩] [])
    (.ret)) (.seq (.region (some [1, 4]) [⟨(some 32), .bin .eql (.t 4) (.c (.d (.i .u8 4))), none⟩,
      ⟨(some 31), .mv (.t 32), none⟩] [])
    (.cond (.t 31) (.seq (.region (some [1]) [⟨(some 33), .faddr 1 (.t 1), none⟩,
       ⟨(some 34), .load false 1 (.t 33), none⟩,
       ⟨(some 35), .bin .eql (.t 34) (.c (.d (.i .u8 0))), none⟩,
       ⟨(some 36), .mv (.t 35), none⟩,
       ⟨(some 37), .faddr 2 (.t 1), some (36, true)⟩,
       ⟨(some 38), .load false 1 (.t 37), some (36, true)⟩,
       ⟨(some 39), .bin .eql (.t 38) (.c (.d (.i .i64 0))), some (36, true)⟩,
       ⟨(some 40), .pick (.t 36) (.t 39) (.c (.d (.b false))), none⟩,
       ⟨(some 2), .mv (.t 40), none⟩] [])
     (.ret)) (.skip)))))))))
 (.seq (.region (some []) [⟨(some 2), .mv (.c (.d (.b false))), none⟩] [])
 (.ret)))
def a_paddockref3_IsInc : AFn := .code 1 c_paddockref3_IsInc [.tmp 2]
set_option maxRecDepth 100000 in
theorem k_paddockref3_IsInc : compF Try.prog h_paddockref3_IsInc F_paddockref3_IsInc = some a_paddockref3_IsInc := by kernel_rfl

/-- paddock/paddockref3.First -/
def h_paddockref3_First : Hints := { kp := [(0, []), (1, [0]), (2, [0, 1]), (3, [0, 1, 2]), (5, [0, 1, 2]), (4, [0, 1, 2]), (6, [0, 1])], lkp := [(3, [0, 1, 2])], lth := [] }
def K_paddockref3_First_0 : Option (List Nat) := (some [0, 1, 2])
def l_paddockref3_First_0 : ACode :=
 .seq (.seq (.region (some [0, 1, 2]) [⟨(some 4), .mv (.t 2), none⟩,
   ⟨(some 5), .bin .lss (.t 4) (.c (.d (.i .i64 5))), none⟩] [])
 (.cond (.t 5) (.skip) (.exit 0)))
 (.seq (.block 1 (.region (some [0, 1, 2]) [⟨(some 8), .mv (.t 2), none⟩,
    ⟨(some 9), .mv (.t 2), none⟩,
    ⟨(some 10), .bin .rem (.t 9) (.c (.d (.i .i64 4))), none⟩,
    ⟨(some 11), .conv .u8 (.t 10), none⟩,
    ⟨(some 12), .build [.d (.b false), .d (.i .i64 0), .d (.i .u8 0)] [(0, 1, .c (.d (.b true))), (1, 1, .c (.d (.i .i64 8))), (2, 1, .t 11)], none⟩,
    ⟨(some 13), .faddr 1 (.t 1), none⟩,
    ⟨(some 14), .iaddrA 5 3 (.t 13) (.t 8), none⟩,
    ⟨none, .store 3 (.t 14) (.t 12), none⟩] []))
 (.region (some [0, 1, 2]) [⟨(some 6), .mv (.t 2), none⟩,
   ⟨(some 7), .bin .add (.t 6) (.c (.d (.i .i64 1))), none⟩,
   ⟨(some 2), .mv (.t 7), none⟩] []))
def c_paddockref3_First : ACode :=
 .seq (.region (some []) [⟨(some 0), .box (.c (.d (.agg Pk.Mp.zero.cs))), none⟩] [])
 (.seq (.region (some [0]) [⟨(some 3), .build (List.map .d Pk.Mp.zero.cs) [(0, 1, .c (.d (.i .u32 1)))], none⟩,
   ⟨(some 1), .box (.c (.d (.agg Pk.Mp.zero.cs))), none⟩,
   ⟨none, .store 16 (.t 1) (.t 3), none⟩] [])
 (.seq (.seq (.region (some [0, 1]) [⟨(some 2), .mv (.c (.d (.i .i64 0))), none⟩] [])
 (.block 0 (.loop K_paddockref3_First_0 [] l_paddockref3_First_0)))
 (.seq (.region (some [0, 1]) [⟨(some 15), .load true 16 (.t 1), none⟩,
   ⟨none, .store 16 (.t 0) (.t 15), none⟩] [])
 (.ret))))
def a_paddockref3_First : AFn := .code 0 c_paddockref3_First [.cell true 16 0]
set_option maxRecDepth 100000 in
theorem k_paddockref3_First : compF Try.prog h_paddockref3_First F_paddockref3_First = some a_paddockref3_First := by kernel_rfl

/-- paddock/objects.IsOp -/
def h_objects_IsOp : Hints := { kp := [(0, [0]), (1, [1]), (2, []), (3, [1]), (4, [1, 28]), (5, [1, 28]), (7, [1, 28]), (8, [1]), (6, []), (9, [1])], lkp := [], lth := [] }
def c_objects_IsOp : ACode :=
 .seq (.region (some [0]) [⟨(some 1), .box (.t 0), none⟩,
   ⟨(some 2), .mv (.c (.d (.b false))), none⟩] [])
 (.seq (.seq (.region (some [1]) [⟨(some 3), .faddr 0 (.t 1), none⟩,
   ⟨(some 4), .load false 1 (.t 3), none⟩,
   ⟨(some 5), .bin .lss (.t 4) (.c (.d (.i .u8 1))), none⟩,
   ⟨(some 6), .mv (.t 5), none⟩,
   ⟨(some 7), .faddr 0 (.t 1), some (6, false)⟩,
   ⟨(some 8), .load false 1 (.t 7), some (6, false)⟩,
   ⟨(some 9), .bin .gtr (.t 8) (.c (.d (.i .u8 3))), some (6, false)⟩,
   ⟨(some 10), .pick (.t 6) (.c (.d (.b true))) (.t 9), none⟩,
   ⟨(some 11), .mv (.t 10), none⟩,
   ⟨(some 12), .faddr 1 (.t 1), some (11, false)⟩,
   ⟨(some 13), .load false 1 (.t 12), some (11, false)⟩,
   ⟨(some 14), .bin .eql (.t 13) (.c (.d (.i .u32 0))), some (11, false)⟩,
   ⟨(some 15), .pick (.t 11) (.c (.d (.b true))) (.t 14), none⟩,
   ⟨(some 16), .mv (.t 15), none⟩,
   ⟨(some 17), .faddr 3 (.t 1), some (16, false)⟩,
   ⟨(some 18), .load false 1 (.t 17), some (16, false)⟩,
   ⟨(some 19), .bin .geq (.t 18) (.c (.d (.i .u8 6))), some (16, false)⟩,
   ⟨(some 20), .pick (.t 16) (.c (.d (.b true))) (.t 19), none⟩,
   ⟨(some 21), .mv (.t 20), none⟩,
   ⟨(some 22), .faddr 5 (.t 1), some (21, false)⟩,
   ⟨(some 23), .load false 1 (.t 22), some (21, false)⟩,
   ⟨(some 24), .len true (.t 23), some (21, false)⟩,
   ⟨(some 25), .bin .gtr (.t 24) (.c (.d (.i .i64 16))), some (21, false)⟩,
   ⟨(some 26), .pick (.t 21) (.c (.d (.b true))) (.t 25), none⟩] [])
 (.cond (.t 26) (.seq (.region (some []) [⟨(some 2), .mv (.c (.d (.b false))), none⟩] [])
  (.ret)) (.skip)))
 (.seq (.seq (.region (some [1]) [⟨(some 27), .faddr 2 (.t 1), none⟩,
   ⟨(some 28), .load false 1 (.t 27), none⟩] [])
 (.block 0 (.seq (.seq (.region (some [1, 28]) [⟨(some 30), .bin .eql (.t 28) (.c (.d (.i .u8 1))), none⟩,
    ⟨(some 29), .mv (.t 30), none⟩] [])
  (.cond (.t 29) (.skip) (.region (some [1, 28]) [⟨(some 31), .bin .eql (.t 28) (.c (.d (.i .u8 3))), none⟩,
     ⟨(some 29), .mv (.t 31), none⟩] [])))
  (.cond (.t 29) (.seq (.region (some []) [⟨(some 2), .mv (.c (.d (.b true))), none⟩] [])
   (.ret)) (.seq (.region (some [1, 28]) [⟨(some 33), .bin .eql (.t 28) (.c (.d (.i .u8 2))), none⟩,
     ⟨(some 32), .mv (.t 33), none⟩] [])
   (.cond (.t 32) (.seq (.region (some [1]) [⟨(some 34), .faddr 5 (.t 1), none⟩,
      ⟨(some 35), .load false 1 (.t 34), none⟩,
      ⟨(some 36), .bin .eql (.t 35) (.c (.d (.s ⟨#[]⟩))), none⟩,
      ⟨(some 2), .mv (.t 36), none⟩] [])
    (.ret)) (.skip)))))))
 (.seq (.region (some [1]) [⟨(some 37), .faddr 2 (.t 1), none⟩,
   ⟨(some 38), .load false 1 (.t 37), none⟩,
   ⟨(some 39), .bin .eql (.t 38) (.c (.d (.i .u8 4))), none⟩,
   ⟨(some 40), .mv (.t 39), none⟩,
   ⟨(some 41), .faddr 2 (.t 1), some (40, false)⟩,
   ⟨(some 42), .load false 1 (.t 41), some (40, false)⟩,
   ⟨(some 43), .bin .eql (.t 42) (.c (.d (.i .u8 5))), some (40, false)⟩,
   ⟨(some 44), .pick (.t 40) (.c (.d (.b true))) (.t 43), none⟩,
   ⟨(some 45), .mv (.t 44), none⟩,
   ⟨(some 46), .load true 6 (.t 1), some (45, true)⟩,
   ⟨(some 47), .faddr 0 (.t 1), some (45, true)⟩,
   ⟨(some 48), .load false 1 (.t 47), some (45, true)⟩,
   ⟨(some 49), .faddr 1 (.t 1), some (45, true)⟩,
   ⟨(some 50), .load false 1 (.t 49), some (45, true)⟩,
   ⟨(some 51), .faddr 2 (.t 1), some (45, true)⟩,
   ⟨(some 52), .load false 1 (.t 51), some (45, true)⟩,
   ⟨(some 53), .faddr 3 (.t 1), some (45, true)⟩,
   ⟨(some 54), .load false 1 (.t 53), some (45, true)⟩,
   ⟨(some 55), .build [.d (.i .u8 0), .d (.i .u32 0), .d (.i .u8 0), .d (.i .u8 0), .d (.i .u8 0), .d (.s ⟨#[]⟩)] [(0, 1, .t 48), (1, 1, .t 50), (2, 1, .t 52), (3, 1, .t 54)], some (45, true)⟩,
   ⟨(some 56), .eq false Pk.Opr.ety (.t 46) (.t 55), some (45, true)⟩,
   ⟨(some 57), .pick (.t 45) (.t 56) (.c (.d (.b false))), none⟩,
   ⟨(some 2), .mv (.t 57), none⟩] [])
 (.ret))))
def a_objects_IsOp : AFn := .code 1 c_objects_IsOp [.tmp 2]
set_option maxRecDepth 100000 in
theorem k_objects_IsOp : compF Try.prog h_objects_IsOp F_objects_IsOp = some a_objects_IsOp := by kernel_rfl

/-- paddock/maps.In -/
def h_maps_In : Hints := { kp := [(0, [0]), (1, [1])], lkp := [], lth := [] }
def c_maps_In : ACode :=
 .seq (.region (some [0]) [⟨(some 1), .box (.t 0), none⟩,
   ⟨(some 2), .mv (.c (.nilS)), none⟩] [])
 (.seq (.region (some [1]) [⟨(some 3), .load true 16 (.t 1), none⟩,
   ⟨(some 4), .call (.f F_maps_those) [.t 3, .f F_maps_In_1], none⟩,
   ⟨(some 2), .mv (.t 4), none⟩] [])
 (.ret))
def a_maps_In : AFn := .code 1 c_maps_In [.tmp 2]
set_option maxRecDepth 100000 in
theorem k_maps_In : compF Try.prog h_maps_In F_maps_In = some a_maps_In := by kernel_rfl

/-- (*paddock/place.choice).pick -/
def h_place_choice_pick : Hints := { kp := [(0, [0, 1]), (1, [0, 1, 4]), (2, [0, 1, 4, 7]), (3, [0, 1, 4, 7]), (4, [0, 1, 4, 5, 7]), (5, [0, 1, 4, 6, 7]), (6, [0, 6]), (7, [0, 1, 4, 7])], lkp := [(2, [0, 1, 4, 7])], lth := [] }
def K_place_choice_pick_0 : Option (List Nat) := (some [0, 1, 4, 7])
def l_place_choice_pick_0 : ACode :=
 .seq (.region (some [0, 1, 4, 7]) [⟨(some 8), .bin .lss (.t 7) (.c (.d (.i .i64 20))), none⟩] [])
 (.seq (.cond (.t 8) (.skip) (.exit 0))
 (.seq (.block 1 (.seq (.region (some [0, 1, 4, 7]) [⟨(some 9), .mv (.t 7), none⟩,
    ⟨(some 5), .mv (.t 9), none⟩] [])
  (.seq (.region (some [0, 1, 4, 5, 7]) [⟨(some 10), .mv (.t 4), none⟩,
    ⟨(some 11), .mv (.t 0), none⟩,
    ⟨(some 12), .mv (.t 1), none⟩,
    ⟨(some 13), .mv (.t 5), none⟩,
    ⟨(some 14), .bin .mul (.t 13) (.c (.d (.i .i64 3))), none⟩,
    ⟨(some 15), .bin .add (.t 12) (.t 14), none⟩,
    ⟨(some 16), .call (.t 10) [.t 11, .t 15], none⟩,
    ⟨(some 6), .mv (.t 16), none⟩] [])
  (.seq (.region (some [0, 1, 4, 6, 7]) [⟨(some 17), .mv (.t 0), none⟩,
    ⟨(some 18), .mv (.t 6), none⟩,
    ⟨(some 19), .call (.f F_place_choice_fits) [.t 17, .t 18], none⟩] [])
  (.cond (.t 19) (.seq (.region (some [0, 6]) [⟨(some 20), .mv (.t 0), none⟩,
     ⟨(some 21), .mv (.t 0), none⟩,
     ⟨(some 22), .nilck (.t 21), none⟩,
     ⟨(some 23), .faddr 18 (.t 22), none⟩,
     ⟨(some 24), .load false 1 (.t 23), none⟩,
     ⟨(some 25), .mv (.t 6), none⟩,
     ⟨(some 26), .bsl 1 [.t 25], none⟩,
     ⟨(some 27), .app 1 (.t 24) (.t 26), none⟩,
     ⟨(some 28), .nilck (.t 20), none⟩,
     ⟨(some 29), .faddr 18 (.t 28), none⟩,
     ⟨none, .store 1 (.t 29) (.t 27), none⟩] [])
   (.ret)) (.skip))))))
 (.region (some [0, 1, 4, 7]) [⟨(some 30), .bin .add (.t 7) (.c (.d (.i .i64 1))), none⟩,
   ⟨(some 7), .mv (.t 30), none⟩] [])))
def c_place_choice_pick : ACode :=
 .seq (.region (some [0, 1]) [⟨(some 4), .mv (.f F_place_choice_draw), none⟩] [])
 (.seq (.region (some [0, 1, 4]) [⟨(some 7), .mv (.c (.d (.i .i64 0))), none⟩] [])
 (.block 0 (.loop K_place_choice_pick_0 [] l_place_choice_pick_0)))
def a_place_choice_pick : AFn := .code 2 c_place_choice_pick []
set_option maxRecDepth 100000 in
theorem k_place_choice_pick : compF Try.prog h_place_choice_pick F_place_choice_pick = some a_place_choice_pick := by kernel_rfl

/-- paddock/maps.those -/
def h_maps_those : Hints := { kp := [(0, [0, 1]), (1, [1, 2]), (2, [1, 2, 5]), (3, [1, 5, 9, 10]), (4, [1, 5, 9, 10]), (5, [1, 5, 6, 7, 9, 10]), (6, [1, 5, 6, 9, 10]), (7, [1, 5, 9, 10]), (8, [5])], lkp := [(3, [1, 5, 9, 10])], lth := [(3, [5, 1])] }
def K_maps_those_0 : Option (List Nat) := (some [1, 5, 9, 10])
def l_maps_those_0 : ACode :=
 .seq (.region (some [1, 5, 9, 10]) [⟨(some 11), .bin .lss (.t 10) (.c (.d (.i .i64 5))), none⟩] [])
 (.seq (.cond (.t 11) (.skip) (.exit 0))
 (.seq (.block 1 (.seq (.region (some [1, 5, 9, 10]) [⟨(some 12), .mv (.t 10), none⟩,
    ⟨(some 13), .idxA true 5 3 (.t 9) (.t 10), none⟩,
    ⟨(some 7), .box (.c (.d (.agg [.b false, .i .i64 0, .i .u8 0]))), none⟩,
    ⟨(some 6), .mv (.t 12), none⟩,
    ⟨none, .store 3 (.t 7) (.t 13), none⟩] [])
  (.seq (.region (some [1, 5, 6, 7, 9, 10]) [⟨(some 14), .mv (.t 1), none⟩,
    ⟨(some 15), .load true 3 (.t 7), none⟩,
    ⟨(some 16), .call (.t 14) [.t 15], none⟩] [])
  (.cond (.t 16) (.region (some [1, 5, 6, 9, 10]) [⟨(some 17), .mv (.t 5), none⟩,
     ⟨(some 18), .mv (.t 6), none⟩,
     ⟨(some 19), .bsl 1 [.t 18], none⟩,
     ⟨(some 20), .app 1 (.t 17) (.t 19), none⟩,
     ⟨(some 5), .mv (.t 20), none⟩] []) (.skip)))))
 (.region (some [1, 5, 9, 10]) [⟨(some 21), .bin .add (.t 10) (.c (.d (.i .i64 1))), none⟩,
   ⟨(some 10), .mv (.t 21), none⟩] [])))
def c_maps_those : ACode :=
 .seq (.region (some [0, 1]) [⟨(some 2), .box (.t 0), none⟩,
   ⟨(some 4), .mv (.c (.nilS)), none⟩] [])
 (.seq (.region (some [1, 2]) [⟨(some 5), .mv (.c (.nilS)), none⟩] [])
 (.seq (.seq (.region (some [1, 2, 5]) [⟨(some 8), .faddr 1 (.t 2), none⟩,
   ⟨(some 9), .load true 15 (.t 8), none⟩,
   ⟨(some 10), .mv (.c (.d (.i .i64 0))), none⟩] [])
 (.block 0 (.loop K_maps_those_0 [5, 1] l_maps_those_0)))
 (.seq (.region (some [5]) [⟨(some 22), .mv (.t 5), none⟩,
   ⟨(some 4), .mv (.t 22), none⟩] [])
 (.ret))))
def a_maps_those : AFn := .code 2 c_maps_those [.tmp 4]
set_option maxRecDepth 100000 in
theorem k_maps_those : compF Try.prog h_maps_those F_maps_those = some a_maps_those := by kernel_rfl

/-- paddock/maps.In$1 -/
def h_maps_In_1 : Hints := { kp := [(0, [0]), (1, [1])], lkp := [], lth := [] }
def c_maps_In_1 : ACode :=
 .seq (.region (some [0]) [⟨(some 1), .box (.t 0), none⟩,
   ⟨(some 2), .mv (.c (.d (.b false))), none⟩] [])
 (.seq (.region (some [1]) [⟨(some 3), .faddr 1 (.t 1), none⟩,
   ⟨(some 4), .load false 1 (.t 3), none⟩,
   ⟨(some 5), .bin .gtr (.t 4) (.c (.d (.i .i64 0))), none⟩,
   ⟨(some 2), .mv (.t 5), none⟩] [])
 (.ret))
def a_maps_In_1 : AFn := .code 1 c_maps_In_1 [.tmp 2]
set_option maxRecDepth 100000 in
theorem k_maps_In_1 : compF Try.prog h_maps_In_1 F_maps_In_1 = some a_maps_In_1 := by kernel_rfl

/-- (*paddock/place.choice).draw -/
def h_place_choice_draw : Hints := { kp := [(0, [0, 1]), (1, [0, 1]), (2, [0, 1, 5]), (3, [0, 1, 5, 11, 12, 13]), (4, [0, 1, 5, 11, 12, 13]), (5, [0, 1, 5, 7, 11, 12, 13]), (6, [0, 1, 5, 11, 12, 13]), (7, [0, 5])], lkp := [(3, [0, 1, 5, 11, 12, 13])], lth := [(3, [5, 1])] }
def K_place_choice_draw_0 : Option (List Nat) := (some [0, 1, 5, 11, 12, 13])
def l_place_choice_draw_0 : ACode :=
 .seq (.region (some [0, 1, 5, 11, 12, 13]) [⟨(some 14), .bin .lss (.t 13) (.t 12), none⟩] [])
 (.seq (.cond (.t 14) (.skip) (.exit 0))
 (.seq (.block 1 (.seq (.region (some [0, 1, 5, 11, 12, 13]) [⟨(some 15), .iaddrS 1 (.t 11) (.t 13), none⟩,
    ⟨(some 16), .load false 1 (.t 15), none⟩,
    ⟨(some 7), .mv (.t 16), none⟩] [])
  (.region (some [0, 1, 5, 7, 11, 12, 13]) [⟨(some 17), .mv (.t 5), none⟩,
    ⟨(some 18), .mv (.t 0), none⟩,
    ⟨(some 19), .nilck (.t 18), none⟩,
    ⟨(some 20), .faddr 16 (.t 19), none⟩,
    ⟨(some 21), .load false 1 (.t 20), none⟩,
    ⟨(some 22), .mv (.t 7), none⟩,
    ⟨(some 23), .mv (.t 1), none⟩,
    ⟨(some 24), .mv (.t 0), none⟩,
    ⟨(some 25), .mv (.t 7), none⟩,
    ⟨(some 26), .nilck (.t 24), none⟩,
    ⟨(some 27), .faddr 0 (.t 26), none⟩,
    ⟨(some 28), .faddr 1 (.t 27), none⟩,
    ⟨(some 29), .iaddrA 5 3 (.t 28) (.t 25), none⟩,
    ⟨(some 30), .faddr 1 (.t 29), none⟩,
    ⟨(some 31), .load false 1 (.t 30), none⟩,
    ⟨(some 32), .call (.f F_straw_Draw) [.t 21, .t 22, .t 23, .t 31], none⟩,
    ⟨(some 33), .bsl 1 [.t 32], none⟩,
    ⟨(some 34), .app 1 (.t 17) (.t 33), none⟩,
    ⟨(some 5), .mv (.t 34), none⟩] [(4, 14)])))
 (.region (some [0, 1, 5, 11, 12, 13]) [⟨(some 35), .bin .add (.t 13) (.c (.d (.i .i64 1))), none⟩,
   ⟨(some 13), .mv (.t 35), none⟩] [])))
def c_place_choice_draw : ACode :=
 .seq (.region (some [0, 1]) [⟨(some 4), .mv (.c (.d (.i .i64 0))), none⟩] [])
 (.seq (.region (some [0, 1]) [⟨(some 5), .mv (.c (.nilS)), none⟩] [])
 (.seq (.seq (.region (some [0, 1, 5]) [⟨(some 8), .mv (.t 0), none⟩,
   ⟨(some 9), .nilck (.t 8), none⟩,
   ⟨(some 10), .faddr 17 (.t 9), none⟩,
   ⟨(some 11), .load false 1 (.t 10), none⟩,
   ⟨(some 12), .len false (.t 11), none⟩,
   ⟨(some 13), .mv (.c (.d (.i .i64 0))), none⟩] [])
 (.block 0 (.loop K_place_choice_draw_0 [5, 1] l_place_choice_draw_0)))
 (.seq (.region (some [0, 5]) [⟨(some 36), .mv (.t 0), none⟩,
   ⟨(some 37), .nilck (.t 36), none⟩,
   ⟨(some 38), .faddr 17 (.t 37), none⟩,
   ⟨(some 39), .load false 1 (.t 38), none⟩,
   ⟨(some 40), .mv (.t 5), none⟩,
   ⟨(some 41), .call (.f F_straw_Best) [.t 40], none⟩,
   ⟨(some 42), .iaddrS 1 (.t 39) (.t 41), none⟩,
   ⟨(some 43), .load false 1 (.t 42), none⟩,
   ⟨(some 4), .mv (.t 43), none⟩] [(3, 5)])
 (.ret))))
def a_place_choice_draw : AFn := .code 2 c_place_choice_draw [.tmp 4]
set_option maxRecDepth 100000 in
theorem k_place_choice_draw : compF Try.prog h_place_choice_draw F_place_choice_draw = some a_place_choice_draw := by kernel_rfl

/-- (*paddock/place.choice).fits -/
def h_place_choice_fits : Hints := { kp := [(0, [0, 1]), (1, [2, 3])], lkp := [], lth := [] }
def c_place_choice_fits : ACode :=
 .seq (.region (some [0, 1]) [⟨(some 2), .box (.t 0), none⟩,
   ⟨(some 3), .box (.t 1), none⟩,
   ⟨(some 4), .mv (.c (.d (.b false))), none⟩] [])
 (.seq (.region (some [2, 3]) [⟨(some 5), .load false 1 (.t 2), none⟩,
   ⟨(some 6), .nilck (.t 5), none⟩,
   ⟨(some 7), .faddr 18 (.t 6), none⟩,
   ⟨(some 8), .load false 1 (.t 7), none⟩,
   ⟨(some 9), .mkfn F_place_choice_fits_1 [] [.t 3, .t 2], none⟩,
   ⟨(some 10), .call (.f F_slices_ContainsFunc_sint_int) [.t 8, .t 9], none⟩,
   ⟨(some 11), .un .not (.t 10), none⟩,
   ⟨(some 4), .mv (.t 11), none⟩] [])
 (.ret))
def a_place_choice_fits : AFn := .code 2 c_place_choice_fits [.tmp 4]
set_option maxRecDepth 100000 in
theorem k_place_choice_fits : compF Try.prog h_place_choice_fits F_place_choice_fits = some a_place_choice_fits := by kernel_rfl

/-- paddock/straw.Draw -/
def h_straw_Draw : Hints := { kp := [(0, [0, 1, 2, 3]), (1, [0, 1, 2, 3])], lkp := [], lth := [] }
def c_straw_Draw : ACode :=
 .seq (.region (some [0, 1, 2, 3]) [⟨(some 8), .mv (.c (.d (.i .i64 0))), none⟩] [])
 (.seq (.region (some [0, 1, 2, 3]) [⟨(some 9), .mv (.t 0), none⟩,
   ⟨(some 10), .conv .u32 (.t 9), none⟩,
   ⟨(some 11), .mv (.t 1), none⟩,
   ⟨(some 12), .conv .u32 (.t 11), none⟩,
   ⟨(some 13), .mv (.t 2), none⟩,
   ⟨(some 14), .conv .u32 (.t 13), none⟩,
   ⟨(some 15), .call (.f F_bits_Hash) [.t 10, .t 12, .t 14], none⟩,
   ⟨(some 16), .mv (.t 3), none⟩,
   ⟨(some 17), .call (.f F_straw_Straw) [.t 15, .t 16], none⟩,
   ⟨(some 8), .mv (.t 17), none⟩] [])
 (.ret))
def a_straw_Draw : AFn := .code 4 c_straw_Draw [.tmp 8]
set_option maxRecDepth 100000 in
theorem k_straw_Draw : compF Try.prog h_straw_Draw F_straw_Draw = some a_straw_Draw := by kernel_rfl

/-- paddock/straw.Best -/
def h_straw_Best : Hints := { kp := [(0, [0]), (1, [0]), (2, [0, 3]), (3, [0, 3, 6, 7, 8]), (4, [0, 3, 6, 7, 8]), (5, [0, 3, 4, 5, 6, 7, 8]), (6, [0, 4, 6, 7, 8]), (7, [0, 3, 6, 7, 8]), (8, [3])], lkp := [(3, [0, 3, 6, 7, 8])], lth := [] }
def K_straw_Best_0 : Option (List Nat) := (some [0, 3, 6, 7, 8])
def l_straw_Best_0 : ACode :=
 .seq (.region (some [0, 3, 6, 7, 8]) [⟨(some 9), .bin .lss (.t 8) (.t 7), none⟩] [])
 (.seq (.cond (.t 9) (.skip) (.exit 0))
 (.seq (.block 1 (.seq (.region (some [0, 3, 6, 7, 8]) [⟨(some 10), .mv (.t 8), none⟩,
    ⟨(some 11), .iaddrS 1 (.t 6) (.t 8), none⟩,
    ⟨(some 12), .load false 1 (.t 11), none⟩,
    ⟨(some 4), .mv (.t 10), none⟩,
    ⟨(some 5), .mv (.t 12), none⟩] [])
  (.seq (.region (some [0, 3, 4, 5, 6, 7, 8]) [⟨(some 13), .mv (.t 3), none⟩,
    ⟨(some 14), .bin .lss (.t 13) (.c (.d (.i .i64 0))), none⟩,
    ⟨(some 15), .mv (.t 14), none⟩,
    ⟨(some 16), .mv (.t 5), some (15, false)⟩,
    ⟨(some 17), .mv (.t 0), some (15, false)⟩,
    ⟨(some 18), .mv (.t 3), some (15, false)⟩,
    ⟨(some 19), .iaddrS 1 (.t 17) (.t 18), some (15, false)⟩,
    ⟨(some 20), .load false 1 (.t 19), some (15, false)⟩,
    ⟨(some 21), .bin .gtr (.t 16) (.t 20), some (15, false)⟩,
    ⟨(some 22), .pick (.t 15) (.c (.d (.b true))) (.t 21), none⟩] [])
  (.cond (.t 22) (.region (some [0, 4, 6, 7, 8]) [⟨(some 23), .mv (.t 4), none⟩,
     ⟨(some 3), .mv (.t 23), none⟩] []) (.skip)))))
 (.region (some [0, 3, 6, 7, 8]) [⟨(some 24), .bin .add (.t 8) (.c (.d (.i .i64 1))), none⟩,
   ⟨(some 8), .mv (.t 24), none⟩] [])))
def c_straw_Best : ACode :=
 .seq (.region (some [0]) [⟨(some 2), .mv (.c (.d (.i .i64 0))), none⟩] [])
 (.seq (.region (some [0]) [⟨(some 3), .mv (.c (.d (.i .i64 (-1)))), none⟩] [])
 (.seq (.seq (.region (some [0, 3]) [⟨(some 6), .mv (.t 0), none⟩,
   ⟨(some 7), .len false (.t 6), none⟩,
   ⟨(some 8), .mv (.c (.d (.i .i64 0))), none⟩] [])
 (.block 0 (.loop K_straw_Best_0 [] l_straw_Best_0)))
 (.seq (.region (some [3]) [⟨(some 25), .mv (.t 3), none⟩,
   ⟨(some 2), .mv (.t 25), none⟩] [])
 (.ret))))
def a_straw_Best : AFn := .code 1 c_straw_Best [.tmp 2]
set_option maxRecDepth 100000 in
theorem k_straw_Best : compF Try.prog h_straw_Best F_straw_Best = some a_straw_Best := by kernel_rfl

/-- (*paddock/place.choice).fits$1 -/
def h_place_choice_fits_1 : Hints := { kp := [(0, [0, 1, 2]), (1, [0, 1, 2])], lkp := [], lth := [] }
def c_place_choice_fits_1 : ACode :=
 .seq (.region (some [0, 1, 2]) [⟨(some 4), .mv (.c (.d (.b false))), none⟩] [])
 (.seq (.region (some [0, 1, 2]) [⟨(some 5), .mv (.t 0), none⟩,
   ⟨(some 6), .load false 1 (.t 1), none⟩,
   ⟨(some 7), .bin .eql (.t 5) (.t 6), none⟩,
   ⟨(some 8), .mv (.t 7), none⟩,
   ⟨(some 9), .load false 1 (.t 2), some (8, false)⟩,
   ⟨(some 10), .mv (.t 0), some (8, false)⟩,
   ⟨(some 11), .nilck (.t 9), some (8, false)⟩,
   ⟨(some 12), .faddr 0 (.t 11), some (8, false)⟩,
   ⟨(some 13), .faddr 1 (.t 12), some (8, false)⟩,
   ⟨(some 14), .iaddrA 5 3 (.t 13) (.t 10), some (8, false)⟩,
   ⟨(some 15), .faddr 2 (.t 14), some (8, false)⟩,
   ⟨(some 16), .load false 1 (.t 15), some (8, false)⟩,
   ⟨(some 17), .load false 1 (.t 2), some (8, false)⟩,
   ⟨(some 18), .load false 1 (.t 1), some (8, false)⟩,
   ⟨(some 19), .nilck (.t 17), some (8, false)⟩,
   ⟨(some 20), .faddr 0 (.t 19), some (8, false)⟩,
   ⟨(some 21), .faddr 1 (.t 20), some (8, false)⟩,
   ⟨(some 22), .iaddrA 5 3 (.t 21) (.t 18), some (8, false)⟩,
   ⟨(some 23), .faddr 2 (.t 22), some (8, false)⟩,
   ⟨(some 24), .load false 1 (.t 23), some (8, false)⟩,
   ⟨(some 25), .bin .eql (.t 16) (.t 24), some (8, false)⟩,
   ⟨(some 26), .pick (.t 8) (.c (.d (.b true))) (.t 25), none⟩,
   ⟨(some 4), .mv (.t 26), none⟩] [(4, 12), (11, 12), (4, 13), (11, 13), (12, 13), (4, 19), (11, 19)])
 (.ret))
def a_place_choice_fits_1 : AFn := .code 3 c_place_choice_fits_1 [.tmp 4]
set_option maxRecDepth 100000 in
theorem k_place_choice_fits_1 : compF Try.prog h_place_choice_fits_1 F_place_choice_fits_1 = some a_place_choice_fits_1 := by kernel_rfl

/-- paddock/straw.Straw -/
def h_straw_Straw : Hints := { kp := [(0, [0, 1]), (1, [0, 1]), (2, [0, 5])], lkp := [], lth := [] }
def c_straw_Straw : ACode :=
 .seq (.region (some [0, 1]) [⟨(some 4), .mv (.c (.d (.i .i64 0))), none⟩] [])
 (.seq (.region (some [0, 1]) [⟨(some 6), .mv (.t 1), none⟩,
   ⟨(some 7), .mm true [.t 6, .c (.d (.i .i64 1))], none⟩,
   ⟨(some 8), .mm false [.t 7, .c (.d (.i .i64 16))], none⟩,
   ⟨(some 5), .mv (.t 8), none⟩] [])
 (.seq (.region (some [0, 5]) [⟨(some 9), .mv (.t 0), none⟩,
   ⟨(some 10), .bin .rem (.t 9) (.c (.d (.i .u32 65536))), none⟩,
   ⟨(some 11), .bin .add (.t 10) (.c (.d (.i .u32 1))), none⟩,
   ⟨(some 12), .call (.f F_straw_Log) [.t 11], none⟩,
   ⟨(some 13), .bin .sub (.c (.d (.i .i64 1048576))) (.t 12), none⟩,
   ⟨(some 14), .bin .mul (.t 13) (.c (.d (.i .i64 4096))), none⟩,
   ⟨(some 15), .mv (.t 5), none⟩,
   ⟨(some 16), .bin .quo (.t 14) (.t 15), none⟩,
   ⟨(some 17), .un .neg (.t 16), none⟩,
   ⟨(some 4), .mv (.t 17), none⟩] [])
 (.ret)))
def a_straw_Straw : AFn := .code 2 c_straw_Straw [.tmp 4]
set_option maxRecDepth 100000 in
theorem k_straw_Straw : compF Try.prog h_straw_Straw F_straw_Straw = some a_straw_Straw := by kernel_rfl

/-- paddock/bits.Hash -/
def h_bits_Hash : Hints := { kp := [(0, [0, 1, 2]), (1, [0, 1, 2])], lkp := [], lth := [] }
def c_bits_Hash : ACode :=
 .seq (.region (some [0, 1, 2]) [⟨(some 6), .mv (.c (.d (.i .u32 0))), none⟩] [])
 (.seq (.region (some [0, 1, 2]) [⟨(some 7), .mv (.t 0), none⟩,
   ⟨(some 8), .conv .u64 (.t 7), none⟩,
   ⟨(some 9), .call (.f F_bits_Mix) [.t 8], none⟩,
   ⟨(some 10), .mv (.t 1), none⟩,
   ⟨(some 11), .conv .u64 (.t 10), none⟩,
   ⟨(some 12), .bin .add (.t 9) (.t 11), none⟩,
   ⟨(some 13), .call (.f F_bits_Mix) [.t 12], none⟩,
   ⟨(some 14), .mv (.t 2), none⟩,
   ⟨(some 15), .conv .u64 (.t 14), none⟩,
   ⟨(some 16), .bin .add (.t 13) (.t 15), none⟩,
   ⟨(some 17), .call (.f F_bits_Mix) [.t 16], none⟩,
   ⟨(some 18), .conv .u32 (.t 17), none⟩,
   ⟨(some 6), .mv (.t 18), none⟩] [])
 (.ret))
def a_bits_Hash : AFn := .code 3 c_bits_Hash [.tmp 6]
set_option maxRecDepth 100000 in
theorem k_bits_Hash : compF Try.prog h_bits_Hash F_bits_Hash = some a_bits_Hash := by kernel_rfl

/-- paddock/straw.Log -/
def h_straw_Log : Hints := { kp := [(0, [0]), (1, [0]), (2, [0]), (3, [0, 3]), (4, [3, 4]), (5, [3, 4, 5]), (6, [3, 4, 5, 21]), (7, [3, 4, 5, 21]), (8, [3, 4, 5, 21]), (9, [3, 4])], lkp := [(6, [3, 4, 5, 21])], lth := [] }
def K_straw_Log_0 : Option (List Nat) := (some [3, 4, 5, 21])
def l_straw_Log_0 : ACode :=
 .seq (.region (some [3, 4, 5, 21]) [⟨(some 22), .bin .lss (.t 21) (.c (.d (.i .i64 16))), none⟩] [])
 (.seq (.cond (.t 22) (.skip) (.exit 0))
 (.seq (.block 1 (.region (some [3, 4, 5, 21]) [⟨(some 23), .mv (.t 5), none⟩,
    ⟨(some 24), .call (.t 23) [], none⟩] []))
 (.region (some [3, 4, 5, 21]) [⟨(some 25), .bin .add (.t 21) (.c (.d (.i .i64 1))), none⟩,
   ⟨(some 21), .mv (.t 25), none⟩] [])))
def c_straw_Log : ACode :=
 .seq (.region (some [0]) [⟨(some 2), .mv (.c (.d (.i .i64 0))), none⟩] [])
 (.seq (.region (some [0]) [⟨(some 6), .mv (.t 0), none⟩,
   ⟨(some 7), .mm true [.t 6, .c (.d (.i .u32 1))], none⟩,
   ⟨(some 8), .mm false [.t 7, .c (.d (.i .u32 65536))], none⟩,
   ⟨(some 0), .mv (.t 8), none⟩] [])
 (.seq (.region (some [0]) [⟨(some 9), .mv (.t 0), none⟩,
   ⟨(some 10), .call (.f F_math_bits_Len32) [.t 9], none⟩,
   ⟨(some 11), .bin .sub (.t 10) (.c (.d (.i .i64 1))), none⟩,
   ⟨(some 3), .mv (.t 11), none⟩] [])
 (.seq (.region (some [0, 3]) [⟨(some 12), .mv (.t 0), none⟩,
   ⟨(some 13), .conv .u64 (.t 12), none⟩,
   ⟨(some 14), .mv (.t 3), none⟩,
   ⟨(some 15), .bin .sub (.c (.d (.i .i64 31))) (.t 14), none⟩,
   ⟨(some 16), .bin .shl (.t 13) (.t 15), none⟩,
   ⟨(some 17), .build [.d (.i .u64 0), .d (.i .i64 0)] [(0, 1, .t 16)], none⟩,
   ⟨(some 18), .box (.t 17), none⟩,
   ⟨(some 4), .mv (.t 18), none⟩] [])
 (.seq (.region (some [3, 4]) [⟨(some 19), .mv (.t 4), none⟩,
   ⟨(some 20), .mkfn F_straw_mantissa_step [.t 19] [], none⟩,
   ⟨(some 5), .mv (.t 20), none⟩] [])
 (.seq (.seq (.region (some [3, 4, 5]) [⟨(some 21), .mv (.c (.d (.i .i64 0))), none⟩] [])
 (.block 0 (.loop K_straw_Log_0 [] l_straw_Log_0)))
 (.seq (.region (some [3, 4]) [⟨(some 26), .mv (.t 3), none⟩,
   ⟨(some 27), .bin .shl (.t 26) (.c (.d (.i .u64 16))), none⟩,
   ⟨(some 28), .mv (.t 4), none⟩,
   ⟨(some 29), .nilck (.t 28), none⟩,
   ⟨(some 30), .faddr 1 (.t 29), none⟩,
   ⟨(some 31), .load false 1 (.t 30), none⟩,
   ⟨(some 32), .bin .add (.t 27) (.t 31), none⟩,
   ⟨(some 2), .mv (.t 32), none⟩] [])
 (.ret)))))))
def a_straw_Log : AFn := .code 1 c_straw_Log [.tmp 2]
set_option maxRecDepth 100000 in
theorem k_straw_Log : compF Try.prog h_straw_Log F_straw_Log = some a_straw_Log := by kernel_rfl

/-- paddock/bits.Mix -/
def h_bits_Mix : Hints := { kp := [(0, [0]), (1, [0]), (2, [0]), (3, [0])], lkp := [], lth := [] }
def c_bits_Mix : ACode :=
 .seq (.region (some [0]) [⟨(some 2), .mv (.c (.d (.i .u64 0))), none⟩] [])
 (.seq (.region (some [0]) [⟨(some 3), .mv (.t 0), none⟩,
   ⟨(some 4), .mv (.t 0), none⟩,
   ⟨(some 5), .bin .shr (.t 4) (.c (.d (.i .u64 33))), none⟩,
   ⟨(some 6), .bin .xor (.t 3) (.t 5), none⟩,
   ⟨(some 7), .bin .mul (.t 6) (.c (.d (.i .u64 18397679294719823053))), none⟩,
   ⟨(some 0), .mv (.t 7), none⟩] [])
 (.seq (.region (some [0]) [⟨(some 8), .mv (.t 0), none⟩,
   ⟨(some 9), .mv (.t 0), none⟩,
   ⟨(some 10), .bin .shr (.t 9) (.c (.d (.i .u64 33))), none⟩,
   ⟨(some 11), .bin .xor (.t 8) (.t 10), none⟩,
   ⟨(some 12), .bin .mul (.t 11) (.c (.d (.i .u64 14181476777654086739))), none⟩,
   ⟨(some 0), .mv (.t 12), none⟩] [])
 (.seq (.region (some [0]) [⟨(some 13), .mv (.t 0), none⟩,
   ⟨(some 14), .mv (.t 0), none⟩,
   ⟨(some 15), .bin .shr (.t 14) (.c (.d (.i .u64 33))), none⟩,
   ⟨(some 16), .bin .xor (.t 13) (.t 15), none⟩,
   ⟨(some 2), .mv (.t 16), none⟩] [])
 (.ret))))
def a_bits_Mix : AFn := .code 1 c_bits_Mix [.tmp 2]
set_option maxRecDepth 100000 in
theorem k_bits_Mix : compF Try.prog h_bits_Mix F_bits_Mix = some a_bits_Mix := by kernel_rfl

/-- math/bits.Len32 -/
def h_math_bits_Len32 : Hints := { kp := [(0, [0]), (1, [0, 2]), (2, [0]), (3, [0]), (4, [0, 2]), (5, [0, 2]), (6, [0, 2]), (7, [0, 2])], lkp := [], lth := [] }
def c_math_bits_Len32 : ACode :=
 .seq (.region (some [0]) [⟨(some 2), .mv (.c (.d (.i .i64 0))), none⟩] [])
 (.seq (.seq (.region (some [0, 2]) [⟨(some 3), .mv (.t 0), none⟩,
   ⟨(some 4), .bin .geq (.t 3) (.c (.d (.i .u32 65536))), none⟩] [])
 (.cond (.t 4) (.seq (.region (some [0]) [⟨(some 5), .mv (.t 0), none⟩,
    ⟨(some 6), .bin .shr (.t 5) (.c (.d (.i .u64 16))), none⟩,
    ⟨(some 0), .mv (.t 6), none⟩] [])
  (.region (some [0]) [⟨(some 2), .mv (.c (.d (.i .i64 16))), none⟩] [])) (.skip)))
 (.seq (.seq (.region (some [0, 2]) [⟨(some 7), .mv (.t 0), none⟩,
   ⟨(some 8), .bin .geq (.t 7) (.c (.d (.i .u32 256))), none⟩] [])
 (.cond (.t 8) (.seq (.region (some [0, 2]) [⟨(some 9), .mv (.t 0), none⟩,
    ⟨(some 10), .bin .shr (.t 9) (.c (.d (.i .u64 8))), none⟩,
    ⟨(some 0), .mv (.t 10), none⟩] [])
  (.region (some [0, 2]) [⟨(some 11), .mv (.t 2), none⟩,
    ⟨(some 12), .bin .add (.t 11) (.c (.d (.i .i64 8))), none⟩,
    ⟨(some 2), .mv (.t 12), none⟩] [])) (.skip)))
 (.seq (.region (some [0, 2]) [⟨(some 13), .mv (.t 2), none⟩,
   ⟨(some 14), .mv (.t 0), none⟩,
   ⟨(some 15), .conv .u8 (.t 14), none⟩,
   ⟨(some 16), .idxS (.c (.d (.s tab0))) (.t 15), none⟩,
   ⟨(some 17), .conv .i64 (.t 16), none⟩,
   ⟨(some 18), .bin .add (.t 13) (.t 17), none⟩,
   ⟨(some 2), .mv (.t 18), none⟩] [])
 (.ret))))
def a_math_bits_Len32 : AFn := .code 1 c_math_bits_Len32 [.tmp 2]
set_option maxRecDepth 100000 in
theorem k_math_bits_Len32 : compF Try.prog h_math_bits_Len32 F_math_bits_Len32 = some a_math_bits_Len32 := by kernel_rfl

/-- (*paddock/straw.mantissa).step -/
def h_straw_mantissa_step : Hints := { kp := [(0, [0]), (1, [0]), (2, [0]), (3, [0]), (4, [0])], lkp := [], lth := [] }
def c_straw_mantissa_step : ACode :=
 .seq (.region (some [0]) [⟨(some 2), .mv (.t 0), none⟩,
   ⟨(some 3), .mv (.t 0), none⟩,
   ⟨(some 4), .nilck (.t 3), none⟩,
   ⟨(some 5), .faddr 0 (.t 4), none⟩,
   ⟨(some 6), .load false 1 (.t 5), none⟩,
   ⟨(some 7), .mv (.t 0), none⟩,
   ⟨(some 8), .nilck (.t 7), none⟩,
   ⟨(some 9), .faddr 0 (.t 8), none⟩,
   ⟨(some 10), .load false 1 (.t 9), none⟩,
   ⟨(some 11), .bin .mul (.t 6) (.t 10), none⟩,
   ⟨(some 12), .bin .shr (.t 11) (.c (.d (.i .u64 31))), none⟩,
   ⟨(some 13), .nilck (.t 2), none⟩,
   ⟨(some 14), .faddr 0 (.t 13), none⟩,
   ⟨none, .store 1 (.t 14) (.t 12), none⟩] [(4, 8)])
 (.seq (.region (some [0]) [⟨(some 15), .mv (.t 0), none⟩,
   ⟨(some 16), .nilck (.t 15), none⟩,
   ⟨(some 17), .faddr 1 (.t 16), none⟩,
   ⟨(some 18), .load false 1 (.t 17), none⟩,
   ⟨(some 19), .bin .shl (.t 18) (.c (.d (.i .u64 1))), none⟩,
   ⟨(some 20), .nilck (.t 15), none⟩,
   ⟨(some 21), .faddr 1 (.t 20), none⟩,
   ⟨none, .store 1 (.t 21) (.t 19), none⟩] [])
 (.seq (.region (some [0]) [⟨(some 22), .mv (.t 0), none⟩,
   ⟨(some 23), .nilck (.t 22), none⟩,
   ⟨(some 24), .faddr 0 (.t 23), none⟩,
   ⟨(some 25), .load false 1 (.t 24), none⟩,
   ⟨(some 26), .bin .geq (.t 25) (.c (.d (.i .u64 4294967296))), none⟩] [])
 (.cond (.t 26) (.seq (.region (some [0]) [⟨(some 27), .mv (.t 0), none⟩,
    ⟨(some 28), .nilck (.t 27), none⟩,
    ⟨(some 29), .faddr 0 (.t 28), none⟩,
    ⟨(some 30), .load false 1 (.t 29), none⟩,
    ⟨(some 31), .bin .shr (.t 30) (.c (.d (.i .u64 1))), none⟩,
    ⟨(some 32), .nilck (.t 27), none⟩,
    ⟨(some 33), .faddr 0 (.t 32), none⟩,
    ⟨none, .store 1 (.t 33) (.t 31), none⟩] [])
  (.region (some [0]) [⟨(some 34), .mv (.t 0), none⟩,
    ⟨(some 35), .nilck (.t 34), none⟩,
    ⟨(some 36), .faddr 1 (.t 35), none⟩,
    ⟨(some 37), .load false 1 (.t 36), none⟩,
    ⟨(some 38), .bin .or (.t 37) (.c (.d (.i .i64 1))), none⟩,
    ⟨(some 39), .nilck (.t 34), none⟩,
    ⟨(some 40), .faddr 1 (.t 39), none⟩,
    ⟨none, .store 1 (.t 40) (.t 38), none⟩] [])) (.skip))))
def a_straw_mantissa_step : AFn := .code 1 c_straw_mantissa_step []
set_option maxRecDepth 100000 in
theorem k_straw_mantissa_step : compF Try.prog h_straw_mantissa_step F_straw_mantissa_step = some a_straw_mantissa_step := by kernel_rfl

def f_choose_Lacks : AFn := AFn.frz [false, false, true, false] a_choose_Lacks
def f_choose_Enough : AFn := AFn.frz [false, false, true, false] a_choose_Enough
noncomputable def C : FuncId → Option AFn
  | 3 => some a_paddocklaw9_ChooseBest
  | 4 => some a_paddocklaw9_ChooseHears
  | 5 => some a_paddocklaw9_ChooseFew
  | 6 => some a_paddocklaw9_ChooseMore
  | 7 => some a_paddocklaw9_ChooseStarted
  | 8 => some a_paddocklaw9_known
  | 9 => some a_paddocklaw9_few
  | 10 => some a_paddockref6_Is
  | 11 => some a_choose_Best
  | 12 => some a_paddockref6_Head
  | 13 => some a_history_New
  | 14 => some a_history_History_Acting
  | 15 => some a_history_History_Add
  | 16 => some f_choose_Lacks
  | 17 => some a_choose_Serves
  | 18 => some a_paddocklaw9_both
  | 19 => some f_choose_Enough
  | 20 => some a_history_History_Last
  | 21 => some a_history_History_Since
  | 22 => some a_choose_Started
  | 23 => some a_paddockref6_isBase
  | 24 => some a_paddockref6_Writes
  | 25 => some a_slices_ContainsFunc_sapi_State_api_State
  | 26 => some a_choose_Best_1
  | 27 => some a_pglog_Is
  | 28 => some a_pglog_Head
  | 29 => some a_choose_candidate_beats
  | 30 => some a_history_History_lays
  | 31 => some a_maps_First
  | 32 => some (.ext (Pk.cloneD 1))
  | 33 => some a_history_History_interval
  | 34 => some a_maps_Apply
  | 35 => some a_history_History_Intervals
  | 36 => some a_choose_ear_misses
  | 37 => some a_slices_DeleteFunc_sapi_Interval_api_Interval
  | 38 => some a_choose_Lacks_1
  | 39 => some a_paddockref3_History_Add
  | 40 => some a_paddockref3_History_Last
  | 41 => some a_choose_Enough_1
  | 42 => some a_slices_Contains_sint_int
  | 43 => some a_slices_ContainsFunc_sint_int
  | 44 => some a_paddockref6_IsOp
  | 45 => some a_slices_IndexFunc_sapi_State_api_State
  | 46 => some a_pglog_base
  | 47 => some a_pglog_next
  | 48 => some a_pglog_last
  | 49 => some a_place_Acting
  | 50 => some a_slices_Equal_sint_int
  | 51 => some a_maps_Is
  | 52 => some a_maps_IsInc
  | 53 => some (.ext (Pk.cloneX 2))
  | 54 => some a_choose_ear_hears
  | 55 => some a_slices_IndexFunc_sapi_Interval_api_Interval
  | 56 => some a_paddockref3_Apply
  | 57 => some a_paddockref3_History_Map
  | 58 => some a_slices_Index_sint_int
  | 59 => some a_slices_IndexFunc_sint_int
  | 60 => some a_pglog_object
  | 61 => some a_objects_Writes
  | 62 => some a_slices_DeleteFunc_sint_int
  | 63 => some a_place_Pick
  | 64 => some a_place_Acting_1
  | 65 => some a_paddockref3_Is
  | 66 => some a_paddockref3_IsInc
  | 67 => some a_paddockref3_First
  | 68 => some a_objects_IsOp
  | 69 => some a_maps_In
  | 70 => some a_place_choice_pick
  | 71 => some a_maps_those
  | 72 => some a_maps_In_1
  | 73 => some a_place_choice_draw
  | 74 => some a_place_choice_fits
  | 75 => some a_straw_Draw
  | 76 => some a_straw_Best
  | 77 => some a_place_choice_fits_1
  | 78 => some a_straw_Straw
  | 79 => some a_bits_Hash
  | 80 => some a_straw_Log
  | 81 => some a_bits_Mix
  | 82 => some a_math_bits_Len32
  | 83 => some a_straw_mantissa_step
  | _ => none
theorem hC : CRel Try.prog C := by
  intro f fn h
  unfold C at h
  split at h
  · injection h with h; subst h; exact ⟨h_paddocklaw9_ChooseBest, k_paddocklaw9_ChooseBest⟩
  · injection h with h; subst h; exact ⟨h_paddocklaw9_ChooseHears, k_paddocklaw9_ChooseHears⟩
  · injection h with h; subst h; exact ⟨h_paddocklaw9_ChooseFew, k_paddocklaw9_ChooseFew⟩
  · injection h with h; subst h; exact ⟨h_paddocklaw9_ChooseMore, k_paddocklaw9_ChooseMore⟩
  · injection h with h; subst h; exact ⟨h_paddocklaw9_ChooseStarted, k_paddocklaw9_ChooseStarted⟩
  · injection h with h; subst h; exact ⟨h_paddocklaw9_known, k_paddocklaw9_known⟩
  · injection h with h; subst h; exact ⟨h_paddocklaw9_few, k_paddocklaw9_few⟩
  · injection h with h; subst h; exact ⟨h_paddockref6_Is, k_paddockref6_Is⟩
  · injection h with h; subst h; exact ⟨h_choose_Best, k_choose_Best⟩
  · injection h with h; subst h; exact ⟨h_paddockref6_Head, k_paddockref6_Head⟩
  · injection h with h; subst h; exact ⟨h_history_New, k_history_New⟩
  · injection h with h; subst h; exact ⟨h_history_History_Acting, k_history_History_Acting⟩
  · injection h with h; subst h; exact ⟨h_history_History_Add, k_history_History_Add⟩
  · injection h with h; subst h; exact ⟨h_choose_Lacks, k_choose_Lacks⟩
  · injection h with h; subst h; exact ⟨h_choose_Serves, k_choose_Serves⟩
  · injection h with h; subst h; exact ⟨h_paddocklaw9_both, k_paddocklaw9_both⟩
  · injection h with h; subst h; exact ⟨h_choose_Enough, k_choose_Enough⟩
  · injection h with h; subst h; exact ⟨h_history_History_Last, k_history_History_Last⟩
  · injection h with h; subst h; exact ⟨h_history_History_Since, k_history_History_Since⟩
  · injection h with h; subst h; exact ⟨h_choose_Started, k_choose_Started⟩
  · injection h with h; subst h; exact ⟨h_paddockref6_isBase, k_paddockref6_isBase⟩
  · injection h with h; subst h; exact ⟨h_paddockref6_Writes, k_paddockref6_Writes⟩
  · injection h with h; subst h; exact ⟨h_slices_ContainsFunc_sapi_State_api_State, k_slices_ContainsFunc_sapi_State_api_State⟩
  · injection h with h; subst h; exact ⟨h_choose_Best_1, k_choose_Best_1⟩
  · injection h with h; subst h; exact ⟨h_pglog_Is, k_pglog_Is⟩
  · injection h with h; subst h; exact ⟨h_pglog_Head, k_pglog_Head⟩
  · injection h with h; subst h; exact ⟨h_choose_candidate_beats, k_choose_candidate_beats⟩
  · injection h with h; subst h; exact ⟨h_history_History_lays, k_history_History_lays⟩
  · injection h with h; subst h; exact ⟨h_maps_First, k_maps_First⟩
  · injection h with h; subst h; exact Pk.cloneD_ok (by decide) ⟨h_slices_Clone_sint_int, k_slices_Clone_sint_int⟩
  · injection h with h; subst h; exact ⟨h_history_History_interval, k_history_History_interval⟩
  · injection h with h; subst h; exact ⟨h_maps_Apply, k_maps_Apply⟩
  · injection h with h; subst h; exact ⟨h_history_History_Intervals, k_history_History_Intervals⟩
  · injection h with h; subst h; exact ⟨h_choose_ear_misses, k_choose_ear_misses⟩
  · injection h with h; subst h; exact ⟨h_slices_DeleteFunc_sapi_Interval_api_Interval, k_slices_DeleteFunc_sapi_Interval_api_Interval⟩
  · injection h with h; subst h; exact ⟨h_choose_Lacks_1, k_choose_Lacks_1⟩
  · injection h with h; subst h; exact ⟨h_paddockref3_History_Add, k_paddockref3_History_Add⟩
  · injection h with h; subst h; exact ⟨h_paddockref3_History_Last, k_paddockref3_History_Last⟩
  · injection h with h; subst h; exact ⟨h_choose_Enough_1, k_choose_Enough_1⟩
  · injection h with h; subst h; exact ⟨h_slices_Contains_sint_int, k_slices_Contains_sint_int⟩
  · injection h with h; subst h; exact ⟨h_slices_ContainsFunc_sint_int, k_slices_ContainsFunc_sint_int⟩
  · injection h with h; subst h; exact ⟨h_paddockref6_IsOp, k_paddockref6_IsOp⟩
  · injection h with h; subst h; exact ⟨h_slices_IndexFunc_sapi_State_api_State, k_slices_IndexFunc_sapi_State_api_State⟩
  · injection h with h; subst h; exact ⟨h_pglog_base, k_pglog_base⟩
  · injection h with h; subst h; exact ⟨h_pglog_next, k_pglog_next⟩
  · injection h with h; subst h; exact ⟨h_pglog_last, k_pglog_last⟩
  · injection h with h; subst h; exact ⟨h_place_Acting, k_place_Acting⟩
  · injection h with h; subst h; exact ⟨h_slices_Equal_sint_int, k_slices_Equal_sint_int⟩
  · injection h with h; subst h; exact ⟨h_maps_Is, k_maps_Is⟩
  · injection h with h; subst h; exact ⟨h_maps_IsInc, k_maps_IsInc⟩
  · injection h with h; subst h; exact Pk.cloneX_ok (by decide) ⟨h_slices_Clone_sapi_Interval_api_Interval, k_slices_Clone_sapi_Interval_api_Interval⟩
  · injection h with h; subst h; exact ⟨h_choose_ear_hears, k_choose_ear_hears⟩
  · injection h with h; subst h; exact ⟨h_slices_IndexFunc_sapi_Interval_api_Interval, k_slices_IndexFunc_sapi_Interval_api_Interval⟩
  · injection h with h; subst h; exact ⟨h_paddockref3_Apply, k_paddockref3_Apply⟩
  · injection h with h; subst h; exact ⟨h_paddockref3_History_Map, k_paddockref3_History_Map⟩
  · injection h with h; subst h; exact ⟨h_slices_Index_sint_int, k_slices_Index_sint_int⟩
  · injection h with h; subst h; exact ⟨h_slices_IndexFunc_sint_int, k_slices_IndexFunc_sint_int⟩
  · injection h with h; subst h; exact ⟨h_pglog_object, k_pglog_object⟩
  · injection h with h; subst h; exact ⟨h_objects_Writes, k_objects_Writes⟩
  · injection h with h; subst h; exact ⟨h_slices_DeleteFunc_sint_int, k_slices_DeleteFunc_sint_int⟩
  · injection h with h; subst h; exact ⟨h_place_Pick, k_place_Pick⟩
  · injection h with h; subst h; exact ⟨h_place_Acting_1, k_place_Acting_1⟩
  · injection h with h; subst h; exact ⟨h_paddockref3_Is, k_paddockref3_Is⟩
  · injection h with h; subst h; exact ⟨h_paddockref3_IsInc, k_paddockref3_IsInc⟩
  · injection h with h; subst h; exact ⟨h_paddockref3_First, k_paddockref3_First⟩
  · injection h with h; subst h; exact ⟨h_objects_IsOp, k_objects_IsOp⟩
  · injection h with h; subst h; exact ⟨h_maps_In, k_maps_In⟩
  · injection h with h; subst h; exact ⟨h_place_choice_pick, k_place_choice_pick⟩
  · injection h with h; subst h; exact ⟨h_maps_those, k_maps_those⟩
  · injection h with h; subst h; exact ⟨h_maps_In_1, k_maps_In_1⟩
  · injection h with h; subst h; exact ⟨h_place_choice_draw, k_place_choice_draw⟩
  · injection h with h; subst h; exact ⟨h_place_choice_fits, k_place_choice_fits⟩
  · injection h with h; subst h; exact ⟨h_straw_Draw, k_straw_Draw⟩
  · injection h with h; subst h; exact ⟨h_straw_Best, k_straw_Best⟩
  · injection h with h; subst h; exact ⟨h_place_choice_fits_1, k_place_choice_fits_1⟩
  · injection h with h; subst h; exact ⟨h_straw_Straw, k_straw_Straw⟩
  · injection h with h; subst h; exact ⟨h_bits_Hash, k_bits_Hash⟩
  · injection h with h; subst h; exact ⟨h_straw_Log, k_straw_Log⟩
  · injection h with h; subst h; exact ⟨h_bits_Mix, k_bits_Mix⟩
  · injection h with h; subst h; exact ⟨h_math_bits_Len32, k_math_bits_Len32⟩
  · injection h with h; subst h; exact ⟨h_straw_mantissa_step, k_straw_mantissa_step⟩
  · cases h
end Go.Proofs.Ytmiionadkdfbdaa

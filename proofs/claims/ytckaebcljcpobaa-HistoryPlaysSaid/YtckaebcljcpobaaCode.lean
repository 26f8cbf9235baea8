/- The code of the functions that these laws reach, compiled for the pure evaluator (printed by program), each held against the given program by the kernel. -/
import Derived.Test.YtckaebcljcpobaaChecked
import Derived.KernelRfl
import Derived.Test.YtckaebcljcpobaaPkEv
import Derived.Test.YtckaebcljcpobaaShelf
import Derived.Test.YtckaebcljcpobaaPkClone
set_option linter.all false
namespace Go.Proofs.Ytckaebcljcpobaa
open Pv Go

def F_main_main : FuncId := 0
def F_gosem_cut : FuncId := 1
def F_gosem_cut_init : FuncId := 2
def F_paddocklaw5_HistoryCuts : FuncId := 3
def F_paddocklaw5_HistoryFull : FuncId := 4
def F_paddocklaw5_HistoryDown : FuncId := 5
def F_paddocklaw5_HistoryMaps : FuncId := 6
def F_paddocklaw5_HistorySame : FuncId := 7
def F_paddocklaw5_HistoryCopies : FuncId := 8
def F_paddocklaw5_HistoryPlays : FuncId := 9
def F_paddocklaw5_known : FuncId := 10
def F_history_New : FuncId := 11
def F_history_History_Add : FuncId := 12
def F_history_History_Last : FuncId := 13
def F_history_History_Intervals : FuncId := 14
def F_history_History_Map : FuncId := 15
def F_paddocklaw5_ints : FuncId := 16
def F_place_Acting : FuncId := 17
def F_history_History_Since : FuncId := 18
def F_maps_IsInc : FuncId := 19
def F_history_History_Acting : FuncId := 20
def F_maps_Fold : FuncId := 21
def F_history_History_Inc : FuncId := 22
def F_paddocklaw5_intervals : FuncId := 23
def F_history_History_Copy : FuncId := 24
def F_paddockref3_History_Last : FuncId := 25
def F_paddockref3_History_Add : FuncId := 26
def F_paddocklaw5_alike : FuncId := 27
def F_paddockref3_History_Map : FuncId := 28
def F_history_History_lays : FuncId := 29
def F_maps_First : FuncId := 30
def F_maps_Apply : FuncId := 31
def F_slices_Clone_sapi_Interval_api_Interval : FuncId := 32
def F_slices_Clone_sint_int : FuncId := 33
def F_slices_DeleteFunc_sint_int : FuncId := 34
def F_place_Pick : FuncId := 35
def F_place_Acting_1 : FuncId := 36
def F_history_History_interval : FuncId := 37
def F_maps_Clone_map_uint32_api_Map_uint32_api_Map : FuncId := 38
def F_maps_Clone_map_uint32_api_Inc_uint32_api_Inc : FuncId := 39
def F_paddockref3_Apply : FuncId := 40
def F_paddockref3_History_Intervals : FuncId := 41
def F_paddockref3_History_Now : FuncId := 42
def F_paddockref3_First : FuncId := 43
def F_slices_Equal_sint_int : FuncId := 44
def F_maps_Is : FuncId := 45
def F_slices_IndexFunc_sint_int : FuncId := 46
def F_maps_In : FuncId := 47
def F_place_choice_pick : FuncId := 48
def F_maps_clone : FuncId := 49
def F_paddockref3_Is : FuncId := 50
def F_paddockref3_IsInc : FuncId := 51
def F_paddockref3_Acting : FuncId := 52
def F_paddockref3_Same : FuncId := 53
def F_maps_those : FuncId := 54
def F_maps_In_1 : FuncId := 55
def F_place_choice_draw : FuncId := 56
def F_place_choice_fits : FuncId := 57
def F_paddockref3_Pick : FuncId := 58
def F_straw_Draw : FuncId := 59
def F_straw_Best : FuncId := 60
def F_slices_ContainsFunc_sint_int : FuncId := 61
def F_place_choice_fits_1 : FuncId := 62
def F_paddockref2_Draw : FuncId := 63
def F_straw_Straw : FuncId := 64
def F_bits_Hash : FuncId := 65
def F_paddockref2_Straw : FuncId := 66
def F_paddockref1_Hash : FuncId := 67
def F_straw_Log : FuncId := 68
def F_bits_Mix : FuncId := 69
def F_paddockref2_Log : FuncId := 70
def F_paddockref1_Mix : FuncId := 71
def F_math_bits_Len32 : FuncId := 72
def F_straw_mantissa_step : FuncId := 73
def F_runtime_boundsError_Error : FuncId := 74
def F_runtime_boundsError_RuntimeError : FuncId := 75
def F_runtime_errorString_Error : FuncId := 76
def F_runtime_errorString_RuntimeError : FuncId := 77
def F_runtime_plainError_Error : FuncId := 78
def F_runtime_plainError_RuntimeError : FuncId := 79
def F_runtime_errorAddressString_Error : FuncId := 80
def F_runtime_errorAddressString_RuntimeError : FuncId := 81
def F_runtime_TypeAssertionError_Error : FuncId := 82
def F_runtime_TypeAssertionError_RuntimeError : FuncId := 83
def F_runtime_PanicNilError_Error : FuncId := 84
def F_runtime_PanicNilError_RuntimeError : FuncId := 85
def F_internal_abi_Type_Align : FuncId := 86
def F_internal_runtime_maps_unhashableTypeError_Error : FuncId := 87
def F_internal_runtime_maps_unhashableTypeError_RuntimeError : FuncId := 88
def F_api_Errno_Error : FuncId := 89
def F_internal_abi_Kind_String : FuncId := 90
def tab0 : ByteArray := ⟨#[0, 1, 2, 2, 3, 3, 3, 3, 4, 4, 4, 4, 4, 4, 4, 4, 5, 5, 5, 5, 5, 5, 5, 5, 5, 5, 5, 5, 5, 5, 5, 5, 6, 6, 6, 6, 6, 6, 6, 6, 6, 6, 6, 6, 6, 6, 6, 6, 6, 6, 6, 6, 6, 6, 6, 6, 6, 6, 6, 6, 6, 6, 6, 6, 7, 7, 7, 7, 7, 7, 7, 7, 7, 7, 7, 7, 7, 7, 7, 7, 7, 7, 7, 7, 7, 7, 7, 7, 7, 7, 7, 7, 7, 7, 7, 7, 7, 7, 7, 7, 7, 7, 7, 7, 7, 7, 7, 7, 7, 7, 7, 7, 7, 7, 7, 7, 7, 7, 7, 7, 7, 7, 7, 7, 7, 7, 7, 7, 8, 8, 8, 8, 8, 8, 8, 8, 8, 8, 8, 8, 8, 8, 8, 8, 8, 8, 8, 8, 8, 8, 8, 8, 8, 8, 8, 8, 8, 8, 8, 8, 8, 8, 8, 8, 8, 8, 8, 8, 8, 8, 8, 8, 8, 8, 8, 8, 8, 8, 8, 8, 8, 8, 8, 8, 8, 8, 8, 8, 8, 8, 8, 8, 8, 8, 8, 8, 8, 8, 8, 8, 8, 8, 8, 8, 8, 8, 8, 8, 8, 8, 8, 8, 8, 8, 8, 8, 8, 8, 8, 8, 8, 8, 8, 8, 8, 8, 8, 8, 8, 8, 8, 8, 8, 8, 8, 8, 8, 8, 8, 8, 8, 8, 8, 8, 8, 8, 8, 8, 8, 8, 8, 8, 8, 8, 8, 8]⟩
/-- paddock/paddocklaw5.HistoryCuts -/
def h_paddocklaw5_HistoryCuts : Hints := { kp := [(0, [0, 1]), (1, [0, 1]), (2, []), (3, [0, 1]), (4, []), (5, [0, 1]), (6, [0, 1, 5]), (7, [0, 1, 5, 6]), (9, [0, 1, 5, 6]), (8, [0, 1, 5, 6]), (10, [1, 5]), (11, [1, 5, 7]), (12, [1, 5, 7, 8]), (13, [1, 5, 7, 8, 9]), (15, [1, 5, 7, 8, 9]), (16, [1, 5, 7, 8, 9, 10, 11]), (17, [1, 5, 7, 8, 9, 10, 11]), (18, [1, 5, 7, 8, 9, 10, 11]), (19, []), (20, [1, 5, 7, 8, 9, 10, 11]), (21, []), (14, [1, 5, 7, 8, 9]), (22, [1, 5, 7, 8])], lkp := [(7, [0, 1, 5, 6]), (13, [1, 5, 7, 8, 9])], lth := [] }
def K_paddocklaw5_HistoryCuts_0 : Option (List Nat) := (some [0, 1, 5, 6])
def l_paddocklaw5_HistoryCuts_0 : ACode :=
 .seq (.seq (.region (some [0, 1, 5, 6]) [⟨(some 22), .mv (.t 6), none⟩,
   ⟨(some 23), .mv (.t 0), none⟩,
   ⟨(some 24), .len false (.t 23), none⟩,
   ⟨(some 25), .bin .lss (.t 22) (.t 24), none⟩] [])
 (.cond (.t 25) (.skip) (.exit 0)))
 (.seq (.block 1 (.region (some [0, 1, 5, 6]) [⟨(some 28), .mv (.t 5), none⟩,
    ⟨(some 29), .mv (.t 5), none⟩,
    ⟨(some 30), .call (.f F_history_History_Last) [.t 29], none⟩,
    ⟨(some 31), .bin .add (.t 30) (.c (.d (.i .u32 1))), none⟩,
    ⟨(some 32), .mv (.t 0), none⟩,
    ⟨(some 33), .mv (.t 6), none⟩,
    ⟨(some 34), .iaddrS 3 (.t 32) (.t 33), none⟩,
    ⟨(some 35), .load true 3 (.t 34), none⟩,
    ⟨(some 36), .call (.f F_history_History_Add) [.t 28, .t 31, .t 35], none⟩] [(2, 7)]))
 (.region (some [0, 1, 5, 6]) [⟨(some 26), .mv (.t 6), none⟩,
   ⟨(some 27), .bin .add (.t 26) (.c (.d (.i .i64 1))), none⟩,
   ⟨(some 6), .mv (.t 27), none⟩] []))
def K_paddocklaw5_HistoryCuts_1 : Option (List Nat) := (some [1, 5, 7, 8, 9])
def l_paddocklaw5_HistoryCuts_1 : ACode :=
 .seq (.seq (.region (some [1, 5, 7, 8, 9]) [⟨(some 40), .mv (.t 9), none⟩,
   ⟨(some 41), .mv (.t 5), none⟩,
   ⟨(some 42), .call (.f F_history_History_Last) [.t 41], none⟩,
   ⟨(some 43), .bin .leq (.t 40) (.t 42), none⟩] [])
 (.cond (.t 43) (.skip) (.exit 2)))
 (.seq (.block 3 (.seq (.region (some [1, 5, 7, 8, 9]) [⟨(some 47), .mv (.t 5), none⟩,
    ⟨(some 48), .mv (.t 9), none⟩,
    ⟨(some 49), .call (.f F_history_History_Map) [.t 47, .t 48], none⟩,
    ⟨(some 46), .mv (.t 49), none⟩,
    ⟨(some 50), .ext (.t 46) 0, none⟩,
    ⟨(some 51), .ext (.t 46) 1, none⟩,
    ⟨(some 10), .box (.c (.d (.agg Pk.Mp.zero.cs))), none⟩,
    ⟨none, .store 16 (.t 10) (.t 50), none⟩,
    ⟨(some 11), .mv (.t 51), none⟩] [])
  (.seq (.seq (.region (some [1, 5, 7, 8, 9, 10, 11]) [⟨(some 52), .mv (.t 8), none⟩,
    ⟨(some 53), .bin .add (.t 52) (.c (.d (.i .i64 1))), none⟩,
    ⟨(some 54), .mv (.t 7), none⟩,
    ⟨(some 55), .len false (.t 54), none⟩,
    ⟨(some 56), .bin .lss (.t 53) (.t 55), none⟩,
    ⟨(some 57), .mv (.t 56), none⟩,
    ⟨(some 58), .mv (.t 7), some (57, true)⟩,
    ⟨(some 59), .mv (.t 8), some (57, true)⟩,
    ⟨(some 60), .bin .add (.t 59) (.c (.d (.i .i64 1))), some (57, true)⟩,
    ⟨(some 61), .iaddrS 2 (.t 58) (.t 60), some (57, true)⟩,
    ⟨(some 62), .faddr 0 (.t 61), some (57, true)⟩,
    ⟨(some 63), .load false 1 (.t 62), some (57, true)⟩,
    ⟨(some 64), .mv (.t 9), some (57, true)⟩,
    ⟨(some 65), .bin .eql (.t 63) (.t 64), some (57, true)⟩,
    ⟨(some 66), .pick (.t 57) (.t 65) (.c (.d (.b false))), none⟩] [])
  (.cond (.t 66) (.seq (.region (some [1, 5, 7, 8, 9, 10, 11]) [⟨(some 67), .mv (.t 8), none⟩,
     ⟨(some 68), .bin .add (.t 67) (.c (.d (.i .i64 1))), none⟩,
     ⟨(some 8), .mv (.t 68), none⟩] [])
   (.seq (.region (some [1, 5, 7, 8, 9, 10, 11]) [⟨(some 69), .mv (.t 7), none⟩,
     ⟨(some 70), .mv (.t 8), none⟩,
     ⟨(some 71), .iaddrS 2 (.t 69) (.t 70), none⟩,
     ⟨(some 72), .faddr 1 (.t 71), none⟩,
     ⟨(some 73), .load false 1 (.t 72), none⟩,
     ⟨(some 74), .mv (.t 7), none⟩,
     ⟨(some 75), .mv (.t 8), none⟩,
     ⟨(some 76), .bin .sub (.t 75) (.c (.d (.i .i64 1))), none⟩,
     ⟨(some 77), .iaddrS 2 (.t 74) (.t 76), none⟩,
     ⟨(some 78), .faddr 1 (.t 77), none⟩,
     ⟨(some 79), .load false 1 (.t 78), none⟩,
     ⟨(some 80), .call (.f F_paddocklaw5_ints) [.t 73, .t 79], none⟩] [(4, 10)])
   (.cond (.t 80) (.seq (.region (some []) [⟨(some 4), .mv (.c (.d (.b false))), none⟩] [])
    (.ret)) (.skip)))) (.skip)))
  (.seq (.region (some [1, 5, 7, 8, 9, 10, 11]) [⟨(some 81), .mv (.t 11), none⟩,
    ⟨(some 82), .un .not (.t 81), none⟩,
    ⟨(some 83), .mv (.t 82), none⟩,
    ⟨(some 84), .mv (.t 8), some (83, false)⟩,
    ⟨(some 85), .mv (.t 7), some (83, false)⟩,
    ⟨(some 86), .len false (.t 85), some (83, false)⟩,
    ⟨(some 87), .bin .geq (.t 84) (.t 86), some (83, false)⟩,
    ⟨(some 88), .pick (.t 83) (.c (.d (.b true))) (.t 87), none⟩,
    ⟨(some 89), .mv (.t 88), none⟩,
    ⟨(some 90), .load true 16 (.t 10), some (89, false)⟩,
    ⟨(some 91), .mv (.t 1), some (89, false)⟩,
    ⟨(some 92), .call (.f F_place_Acting) [.t 90, .t 91], some (89, false)⟩,
    ⟨(some 93), .mv (.t 7), some (89, false)⟩,
    ⟨(some 94), .mv (.t 8), some (89, false)⟩,
    ⟨(some 95), .iaddrS 2 (.t 93) (.t 94), some (89, false)⟩,
    ⟨(some 96), .faddr 1 (.t 95), some (89, false)⟩,
    ⟨(some 97), .load false 1 (.t 96), some (89, false)⟩,
    ⟨(some 98), .call (.f F_paddocklaw5_ints) [.t 92, .t 97], some (89, false)⟩,
    ⟨(some 99), .un .not (.t 98), some (89, false)⟩,
    ⟨(some 100), .pick (.t 89) (.c (.d (.b true))) (.t 99), none⟩] [(9, 16), (11, 16)])
  (.cond (.t 100) (.seq (.region (some []) [⟨(some 4), .mv (.c (.d (.b false))), none⟩] [])
   (.ret)) (.skip))))))
 (.region (some [1, 5, 7, 8, 9]) [⟨(some 44), .mv (.t 9), none⟩,
   ⟨(some 45), .bin .add (.t 44) (.c (.d (.i .u32 1))), none⟩,
   ⟨(some 9), .mv (.t 45), none⟩] []))
def c_paddocklaw5_HistoryCuts : ACode :=
 .seq (.region (some [0, 1]) [⟨(some 4), .mv (.c (.d (.b false))), none⟩] [])
 (.seq (.seq (.region (some [0, 1]) [⟨(some 12), .call (.f F_paddocklaw5_known) [], none⟩,
   ⟨(some 13), .un .not (.t 12), none⟩] [])
 (.cond (.t 13) (.seq (.region (some []) [⟨(some 4), .mv (.c (.d (.b false))), none⟩] [])
  (.ret)) (.skip)))
 (.seq (.seq (.region (some [0, 1]) [⟨(some 14), .mv (.t 0), none⟩,
   ⟨(some 15), .len false (.t 14), none⟩,
   ⟨(some 16), .bin .gtr (.t 15) (.c (.d (.i .i64 25))), none⟩,
   ⟨(some 17), .mv (.t 16), none⟩,
   ⟨(some 18), .mv (.t 1), some (17, false)⟩,
   ⟨(some 19), .bin .geq (.t 18) (.c (.d (.i .u8 4))), some (17, false)⟩,
   ⟨(some 20), .pick (.t 17) (.c (.d (.b true))) (.t 19), none⟩] [])
 (.cond (.t 20) (.seq (.region (some []) [⟨(some 4), .mv (.c (.d (.b true))), none⟩] [])
  (.ret)) (.skip)))
 (.seq (.region (some [0, 1]) [⟨(some 21), .call (.f F_history_New) [], none⟩,
   ⟨(some 5), .mv (.t 21), none⟩] [])
 (.seq (.seq (.region (some [0, 1, 5]) [⟨(some 6), .mv (.c (.d (.i .i64 0))), none⟩] [])
 (.block 0 (.loop K_paddocklaw5_HistoryCuts_0 [] l_paddocklaw5_HistoryCuts_0)))
 (.seq (.region (some [1, 5]) [⟨(some 37), .mv (.t 5), none⟩,
   ⟨(some 38), .mv (.t 1), none⟩,
   ⟨(some 39), .call (.f F_history_History_Intervals) [.t 37, .t 38], none⟩,
   ⟨(some 7), .mv (.t 39), none⟩] [])
 (.seq (.region (some [1, 5, 7]) [⟨(some 8), .mv (.c (.d (.i .i64 0))), none⟩] [])
 (.seq (.seq (.region (some [1, 5, 7, 8]) [⟨(some 9), .mv (.c (.d (.i .u32 1))), none⟩] [])
 (.block 2 (.loop K_paddocklaw5_HistoryCuts_1 [] l_paddocklaw5_HistoryCuts_1)))
 (.seq (.region (some [1, 5, 7, 8]) [⟨(some 101), .mv (.t 8), none⟩,
   ⟨(some 102), .mv (.t 7), none⟩,
   ⟨(some 103), .len false (.t 102), none⟩,
   ⟨(some 104), .bin .sub (.t 103) (.c (.d (.i .i64 1))), none⟩,
   ⟨(some 105), .bin .eql (.t 101) (.t 104), none⟩,
   ⟨(some 106), .mv (.t 105), none⟩,
   ⟨(some 107), .mv (.t 7), some (106, true)⟩,
   ⟨(some 108), .iaddrS 2 (.t 107) (.c (.d (.i .i64 0))), some (106, true)⟩,
   ⟨(some 109), .faddr 0 (.t 108), some (106, true)⟩,
   ⟨(some 110), .load false 1 (.t 109), some (106, true)⟩,
   ⟨(some 111), .bin .eql (.t 110) (.c (.d (.i .u32 1))), some (106, true)⟩,
   ⟨(some 112), .pick (.t 106) (.t 111) (.c (.d (.b false))), none⟩,
   ⟨(some 113), .mv (.t 112), none⟩,
   ⟨(some 114), .mv (.t 5), some (113, true)⟩,
   ⟨(some 115), .mv (.t 1), some (113, true)⟩,
   ⟨(some 116), .call (.f F_history_History_Since) [.t 114, .t 115], some (113, true)⟩,
   ⟨(some 117), .mv (.t 7), some (113, true)⟩,
   ⟨(some 118), .mv (.t 8), some (113, true)⟩,
   ⟨(some 119), .iaddrS 2 (.t 117) (.t 118), some (113, true)⟩,
   ⟨(some 120), .faddr 0 (.t 119), some (113, true)⟩,
   ⟨(some 121), .load false 1 (.t 120), some (113, true)⟩,
   ⟨(some 122), .bin .eql (.t 116) (.t 121), some (113, true)⟩,
   ⟨(some 123), .pick (.t 113) (.t 122) (.c (.d (.b false))), none⟩,
   ⟨(some 4), .mv (.t 123), none⟩] [(15, 20)])
 (.ret)))))))))
def a_paddocklaw5_HistoryCuts : AFn := .code 2 c_paddocklaw5_HistoryCuts [.tmp 4]
set_option maxRecDepth 100000 in
theorem k_paddocklaw5_HistoryCuts : compF Try.prog h_paddocklaw5_HistoryCuts F_paddocklaw5_HistoryCuts = some a_paddocklaw5_HistoryCuts := by kernel_rfl

/-- paddock/paddocklaw5.HistoryFull -/
def h_paddocklaw5_HistoryFull : Hints := { kp := [(0, [0]), (1, [1]), (2, []), (3, [1]), (4, [1]), (5, [1]), (6, [1, 3]), (7, [1, 3, 4]), (9, [1, 3, 4]), (10, []), (8, [1, 3, 4]), (11, [1, 3])], lkp := [(7, [1, 3, 4])], lth := [] }
def K_paddocklaw5_HistoryFull_0 : Option (List Nat) := (some [1, 3, 4])
def l_paddocklaw5_HistoryFull_0 : ACode :=
 .seq (.seq (.region (some [1, 3, 4]) [⟨(some 15), .mv (.t 4), none⟩,
   ⟨(some 16), .bin .leq (.t 15) (.c (.d (.i .u32 60))), none⟩] [])
 (.cond (.t 16) (.skip) (.exit 0)))
 (.seq (.block 1 (.seq (.region (some [1, 3, 4]) [⟨(some 19), .mv (.t 3), none⟩,
    ⟨(some 20), .mv (.t 4), none⟩,
    ⟨(some 21), .load true 3 (.t 1), none⟩,
    ⟨(some 22), .call (.f F_history_History_Add) [.t 19, .t 20, .t 21], none⟩,
    ⟨(some 23), .bin .neq (.t 22) (.c (.d (.i .i64 0))), none⟩] [])
  (.cond (.t 23) (.seq (.region (some []) [⟨(some 2), .mv (.c (.d (.b false))), none⟩] [])
   (.ret)) (.skip))))
 (.region (some [1, 3, 4]) [⟨(some 17), .mv (.t 4), none⟩,
   ⟨(some 18), .bin .add (.t 17) (.c (.d (.i .u32 1))), none⟩,
   ⟨(some 4), .mv (.t 18), none⟩] []))
def c_paddocklaw5_HistoryFull : ACode :=
 .seq (.region (some [0]) [⟨(some 1), .box (.t 0), none⟩,
   ⟨(some 2), .mv (.c (.d (.b false))), none⟩] [])
 (.seq (.seq (.region (some [1]) [⟨(some 5), .call (.f F_paddocklaw5_known) [], none⟩,
   ⟨(some 6), .un .not (.t 5), none⟩] [])
 (.cond (.t 6) (.seq (.region (some []) [⟨(some 2), .mv (.c (.d (.b false))), none⟩] [])
  (.ret)) (.skip)))
 (.seq (.seq (.region (some [1]) [⟨(some 7), .load true 3 (.t 1), none⟩,
   ⟨(some 8), .call (.f F_maps_IsInc) [.t 7], none⟩,
   ⟨(some 9), .un .not (.t 8), none⟩] [])
 (.cond (.t 9) (.seq (.region (some [1]) [⟨(some 10), .call (.f F_history_New) [], none⟩,
    ⟨(some 11), .load true 3 (.t 1), none⟩,
    ⟨(some 12), .call (.f F_history_History_Add) [.t 10, .c (.d (.i .u32 2)), .t 11], none⟩,
    ⟨(some 13), .bin .eql (.t 12) (.c (.d (.i .i64 40))), none⟩,
    ⟨(some 2), .mv (.t 13), none⟩] [(0, 1)])
  (.ret)) (.skip)))
 (.seq (.region (some [1]) [⟨(some 14), .call (.f F_history_New) [], none⟩,
   ⟨(some 3), .mv (.t 14), none⟩] [])
 (.seq (.seq (.region (some [1, 3]) [⟨(some 4), .mv (.c (.d (.i .u32 2))), none⟩] [])
 (.block 0 (.loop K_paddocklaw5_HistoryFull_0 [] l_paddocklaw5_HistoryFull_0)))
 (.seq (.region (some [1, 3]) [⟨(some 24), .mv (.t 3), none⟩,
   ⟨(some 25), .call (.f F_history_History_Last) [.t 24], none⟩,
   ⟨(some 26), .bin .eql (.t 25) (.c (.d (.i .u32 60))), none⟩,
   ⟨(some 27), .mv (.t 26), none⟩,
   ⟨(some 28), .mv (.t 3), some (27, true)⟩,
   ⟨(some 29), .load true 3 (.t 1), some (27, true)⟩,
   ⟨(some 30), .call (.f F_history_History_Add) [.t 28, .c (.d (.i .u32 61)), .t 29], some (27, true)⟩,
   ⟨(some 31), .bin .eql (.t 30) (.c (.d (.i .i64 40))), some (27, true)⟩,
   ⟨(some 32), .pick (.t 27) (.t 31) (.c (.d (.b false))), none⟩,
   ⟨(some 33), .mv (.t 32), none⟩,
   ⟨(some 34), .mv (.t 3), some (33, true)⟩,
   ⟨(some 35), .load true 3 (.t 1), some (33, true)⟩,
   ⟨(some 36), .call (.f F_history_History_Add) [.t 34, .c (.d (.i .u32 60)), .t 35], some (33, true)⟩,
   ⟨(some 37), .bin .eql (.t 36) (.c (.d (.i .i64 51))), some (33, true)⟩,
   ⟨(some 38), .pick (.t 33) (.t 37) (.c (.d (.b false))), none⟩,
   ⟨(some 39), .mv (.t 38), none⟩,
   ⟨(some 40), .mv (.t 3), some (39, true)⟩,
   ⟨(some 41), .call (.f F_history_History_Last) [.t 40], some (39, true)⟩,
   ⟨(some 42), .bin .eql (.t 41) (.c (.d (.i .u32 60))), some (39, true)⟩,
   ⟨(some 43), .pick (.t 39) (.t 42) (.c (.d (.b false))), none⟩,
   ⟨(some 2), .mv (.t 43), none⟩] [])
 (.ret))))))
def a_paddocklaw5_HistoryFull : AFn := .code 1 c_paddocklaw5_HistoryFull [.tmp 2]
set_option maxRecDepth 100000 in
theorem k_paddocklaw5_HistoryFull : compF Try.prog h_paddocklaw5_HistoryFull F_paddocklaw5_HistoryFull = some a_paddocklaw5_HistoryFull := by kernel_rfl

/-- paddock/paddocklaw5.HistoryDown -/
def h_paddocklaw5_HistoryDown : Hints := { kp := [(0, [0, 1]), (1, [0, 1]), (2, []), (3, [0, 1]), (4, [1, 5]), (5, [1, 5, 6]), (6, [1, 5, 6, 7]), (7, [5, 6, 7, 8]), (8, []), (9, [5, 6, 7]), (10, [5, 6, 7, 9])], lkp := [], lth := [] }
def c_paddocklaw5_HistoryDown : ACode :=
 .seq (.region (some [0, 1]) [⟨(some 4), .mv (.c (.d (.b false))), none⟩] [])
 (.seq (.seq (.region (some [0, 1]) [⟨(some 10), .call (.f F_paddocklaw5_known) [], none⟩,
   ⟨(some 11), .un .not (.t 10), none⟩] [])
 (.cond (.t 11) (.seq (.region (some []) [⟨(some 4), .mv (.c (.d (.b false))), none⟩] [])
  (.ret)) (.skip)))
 (.seq (.region (some [0, 1]) [⟨(some 12), .mv (.t 0), none⟩,
   ⟨(some 13), .bin .rem (.t 12) (.c (.d (.i .u8 4))), none⟩,
   ⟨(some 5), .mv (.t 13), none⟩] [])
 (.seq (.region (some [1, 5]) [⟨(some 14), .call (.f F_history_New) [], none⟩,
   ⟨(some 6), .mv (.t 14), none⟩] [])
 (.seq (.region (some [1, 5, 6]) [⟨(some 15), .mv (.t 6), none⟩,
   ⟨(some 16), .mv (.t 5), none⟩,
   ⟨(some 17), .call (.f F_history_History_Acting) [.t 15, .t 16], none⟩,
   ⟨(some 7), .mv (.t 17), none⟩] [])
 (.seq (.region (some [1, 5, 6, 7]) [⟨(some 18), .mv (.t 7), none⟩,
   ⟨(some 19), .mv (.t 1), none⟩,
   ⟨(some 20), .conv .i64 (.t 19), none⟩,
   ⟨(some 21), .mv (.t 7), none⟩,
   ⟨(some 22), .len false (.t 21), none⟩,
   ⟨(some 23), .bin .rem (.t 20) (.t 22), none⟩,
   ⟨(some 24), .iaddrS 1 (.t 18) (.t 23), none⟩,
   ⟨(some 25), .load false 1 (.t 24), none⟩,
   ⟨(some 26), .conv .u8 (.t 25), none⟩,
   ⟨(some 8), .mv (.t 26), none⟩] [])
 (.seq (.seq (.region (some [5, 6, 7, 8]) [⟨(some 27), .mv (.t 6), none⟩,
   ⟨(some 28), .mv (.t 8), none⟩,
   ⟨(some 29), .build [.d (.i .u8 0), .d (.i .u8 0), .d (.i .i64 0)] [(0, 1, .c (.d (.i .u8 2))), (1, 1, .t 28)], none⟩,
   ⟨(some 30), .call (.f F_history_History_Add) [.t 27, .c (.d (.i .u32 2)), .t 29], none⟩,
   ⟨(some 31), .bin .neq (.t 30) (.c (.d (.i .i64 0))), none⟩,
   ⟨(some 32), .mv (.t 31), none⟩,
   ⟨(some 33), .mv (.t 6), some (32, false)⟩,
   ⟨(some 34), .mv (.t 5), some (32, false)⟩,
   ⟨(some 35), .call (.f F_history_History_Since) [.t 33, .t 34], some (32, false)⟩,
   ⟨(some 36), .bin .neq (.t 35) (.c (.d (.i .u32 2))), some (32, false)⟩,
   ⟨(some 37), .pick (.t 32) (.c (.d (.b true))) (.t 36), none⟩,
   ⟨(some 38), .mv (.t 37), none⟩,
   ⟨(some 39), .mv (.t 6), some (38, false)⟩,
   ⟨(some 40), .mv (.t 5), some (38, false)⟩,
   ⟨(some 41), .call (.f F_history_History_Acting) [.t 39, .t 40], some (38, false)⟩,
   ⟨(some 42), .len false (.t 41), some (38, false)⟩,
   ⟨(some 43), .mv (.t 7), some (38, false)⟩,
   ⟨(some 44), .len false (.t 43), some (38, false)⟩,
   ⟨(some 45), .bin .sub (.t 44) (.c (.d (.i .i64 1))), some (38, false)⟩,
   ⟨(some 46), .bin .neq (.t 42) (.t 45), some (38, false)⟩,
   ⟨(some 47), .pick (.t 38) (.c (.d (.b true))) (.t 46), none⟩,
   ⟨(some 48), .mv (.t 47), none⟩,
   ⟨(some 49), .mv (.t 6), some (48, false)⟩,
   ⟨(some 50), .build [.d (.i .u8 0), .d (.i .u8 0), .d (.i .i64 0)] [(0, 1, .c (.d (.i .u8 4)))], some (48, false)⟩,
   ⟨(some 51), .call (.f F_history_History_Add) [.t 49, .c (.d (.i .u32 3)), .t 50], some (48, false)⟩,
   ⟨(some 52), .bin .neq (.t 51) (.c (.d (.i .i64 0))), some (48, false)⟩,
   ⟨(some 53), .pick (.t 48) (.c (.d (.b true))) (.t 52), none⟩,
   ⟨(some 54), .mv (.t 53), none⟩,
   ⟨(some 55), .mv (.t 6), some (54, false)⟩,
   ⟨(some 56), .mv (.t 5), some (54, false)⟩,
   ⟨(some 57), .call (.f F_history_History_Since) [.t 55, .t 56], some (54, false)⟩,
   ⟨(some 58), .bin .neq (.t 57) (.c (.d (.i .u32 2))), some (54, false)⟩,
   ⟨(some 59), .pick (.t 54) (.c (.d (.b true))) (.t 58), none⟩,
   ⟨(some 60), .mv (.t 59), none⟩,
   ⟨(some 61), .mv (.t 6), some (60, false)⟩,
   ⟨(some 62), .mv (.t 8), some (60, false)⟩,
   ⟨(some 63), .build [.d (.i .u8 0), .d (.i .u8 0), .d (.i .i64 0)] [(0, 1, .c (.d (.i .u8 1))), (1, 1, .t 62)], some (60, false)⟩,
   ⟨(some 64), .call (.f F_history_History_Add) [.t 61, .c (.d (.i .u32 4)), .t 63], some (60, false)⟩,
   ⟨(some 65), .bin .neq (.t 64) (.c (.d (.i .i64 0))), some (60, false)⟩,
   ⟨(some 66), .pick (.t 60) (.c (.d (.b true))) (.t 65), none⟩] [])
 (.cond (.t 66) (.seq (.region (some []) [⟨(some 4), .mv (.c (.d (.b false))), none⟩] [])
  (.ret)) (.skip)))
 (.seq (.region (some [5, 6, 7]) [⟨(some 67), .mv (.t 6), none⟩,
   ⟨(some 68), .mv (.t 5), none⟩,
   ⟨(some 69), .call (.f F_history_History_Intervals) [.t 67, .t 68], none⟩,
   ⟨(some 9), .mv (.t 69), none⟩] [])
 (.seq (.region (some [5, 6, 7, 9]) [⟨(some 70), .mv (.t 9), none⟩,
   ⟨(some 71), .len false (.t 70), none⟩,
   ⟨(some 72), .bin .eql (.t 71) (.c (.d (.i .i64 3))), none⟩,
   ⟨(some 73), .mv (.t 72), none⟩,
   ⟨(some 74), .mv (.t 9), some (73, true)⟩,
   ⟨(some 75), .iaddrS 2 (.t 74) (.c (.d (.i .i64 2))), some (73, true)⟩,
   ⟨(some 76), .faddr 0 (.t 75), some (73, true)⟩,
   ⟨(some 77), .load false 1 (.t 76), some (73, true)⟩,
   ⟨(some 78), .bin .eql (.t 77) (.c (.d (.i .u32 4))), some (73, true)⟩,
   ⟨(some 79), .pick (.t 73) (.t 78) (.c (.d (.b false))), none⟩,
   ⟨(some 80), .mv (.t 79), none⟩,
   ⟨(some 81), .mv (.t 9), some (80, true)⟩,
   ⟨(some 82), .iaddrS 2 (.t 81) (.c (.d (.i .i64 2))), some (80, true)⟩,
   ⟨(some 83), .faddr 1 (.t 82), some (80, true)⟩,
   ⟨(some 84), .load false 1 (.t 83), some (80, true)⟩,
   ⟨(some 85), .mv (.t 7), some (80, true)⟩,
   ⟨(some 86), .call (.f F_paddocklaw5_ints) [.t 84, .t 85], some (80, true)⟩,
   ⟨(some 87), .pick (.t 80) (.t 86) (.c (.d (.b false))), none⟩,
   ⟨(some 88), .mv (.t 87), none⟩,
   ⟨(some 89), .mv (.t 6), some (88, true)⟩,
   ⟨(some 90), .mv (.t 5), some (88, true)⟩,
   ⟨(some 91), .call (.f F_history_History_Acting) [.t 89, .t 90], some (88, true)⟩,
   ⟨(some 92), .mv (.t 7), some (88, true)⟩,
   ⟨(some 93), .call (.f F_paddocklaw5_ints) [.t 91, .t 92], some (88, true)⟩,
   ⟨(some 94), .pick (.t 88) (.t 93) (.c (.d (.b false))), none⟩,
   ⟨(some 4), .mv (.t 94), none⟩] [])
 (.ret)))))))))
def a_paddocklaw5_HistoryDown : AFn := .code 2 c_paddocklaw5_HistoryDown [.tmp 4]
set_option maxRecDepth 100000 in
theorem k_paddocklaw5_HistoryDown : compF Try.prog h_paddocklaw5_HistoryDown F_paddocklaw5_HistoryDown = some a_paddocklaw5_HistoryDown := by kernel_rfl

/-- paddock/paddocklaw5.HistoryMaps -/
def h_paddocklaw5_HistoryMaps : Hints := { kp := [(0, [0, 1]), (1, [0, 1]), (2, []), (3, [0, 1]), (4, []), (5, [0, 1]), (6, [0, 1, 5]), (7, [0, 1, 5, 6]), (8, [0, 1, 5, 6, 7]), (10, [0, 1, 5, 6, 7]), (11, [0, 1, 5, 6, 7]), (9, [0, 1, 5, 6, 7]), (12, [1, 5, 6]), (13, [5, 6, 8]), (14, [5, 6, 8, 9, 10]), (15, [5, 6, 9, 10, 11, 12])], lkp := [(8, [0, 1, 5, 6, 7])], lth := [(8, [6, 3])] }
def K_paddocklaw5_HistoryMaps_0 : Option (List Nat) := (some [0, 1, 5, 6, 7])
def l_paddocklaw5_HistoryMaps_0 : ACode :=
 .seq (.seq (.region (some [0, 1, 5, 6, 7]) [⟨(some 19), .mv (.t 7), none⟩,
   ⟨(some 20), .mv (.t 0), none⟩,
   ⟨(some 21), .len false (.t 20), none⟩,
   ⟨(some 22), .bin .lss (.t 19) (.t 21), none⟩] [])
 (.cond (.t 22) (.skip) (.exit 0)))
 (.seq (.block 1 (.seq (.region (some [0, 1, 5, 6, 7]) [⟨(some 25), .mv (.t 5), none⟩,
    ⟨(some 26), .mv (.t 5), none⟩,
    ⟨(some 27), .call (.f F_history_History_Last) [.t 26], none⟩,
    ⟨(some 28), .bin .add (.t 27) (.c (.d (.i .u32 1))), none⟩,
    ⟨(some 29), .mv (.t 0), none⟩,
    ⟨(some 30), .mv (.t 7), none⟩,
    ⟨(some 31), .iaddrS 3 (.t 29) (.t 30), none⟩,
    ⟨(some 32), .load true 3 (.t 31), none⟩,
    ⟨(some 33), .call (.f F_history_History_Add) [.t 25, .t 28, .t 32], none⟩,
    ⟨(some 34), .bin .eql (.t 33) (.c (.d (.i .i64 0))), none⟩] [(2, 7)])
  (.cond (.t 34) (.region (some [0, 1, 5, 6, 7]) [⟨(some 35), .mv (.t 6), none⟩,
     ⟨(some 36), .mv (.t 0), none⟩,
     ⟨(some 37), .mv (.t 7), none⟩,
     ⟨(some 38), .iaddrS 3 (.t 36) (.t 37), none⟩,
     ⟨(some 39), .load true 3 (.t 38), none⟩,
     ⟨(some 40), .bsl 3 [.t 39], none⟩,
     ⟨(some 41), .app 3 (.t 35) (.t 40), none⟩,
     ⟨(some 6), .mv (.t 41), none⟩] []) (.skip))))
 (.region (some [0, 1, 5, 6, 7]) [⟨(some 23), .mv (.t 7), none⟩,
   ⟨(some 24), .bin .add (.t 23) (.c (.d (.i .i64 1))), none⟩,
   ⟨(some 7), .mv (.t 24), none⟩] []))
def c_paddocklaw5_HistoryMaps : ACode :=
 .seq (.region (some [0, 1]) [⟨(some 4), .mv (.c (.d (.b false))), none⟩] [])
 (.seq (.seq (.region (some [0, 1]) [⟨(some 13), .call (.f F_paddocklaw5_known) [], none⟩,
   ⟨(some 14), .un .not (.t 13), none⟩] [])
 (.cond (.t 14) (.seq (.region (some []) [⟨(some 4), .mv (.c (.d (.b false))), none⟩] [])
  (.ret)) (.skip)))
 (.seq (.seq (.region (some [0, 1]) [⟨(some 15), .mv (.t 0), none⟩,
   ⟨(some 16), .len false (.t 15), none⟩,
   ⟨(some 17), .bin .gtr (.t 16) (.c (.d (.i .i64 30))), none⟩] [])
 (.cond (.t 17) (.seq (.region (some []) [⟨(some 4), .mv (.c (.d (.b true))), none⟩] [])
  (.ret)) (.skip)))
 (.seq (.region (some [0, 1]) [⟨(some 18), .call (.f F_history_New) [], none⟩,
   ⟨(some 5), .mv (.t 18), none⟩] [])
 (.seq (.region (some [0, 1, 5]) [⟨(some 6), .mv (.c (.nilS)), none⟩] [])
 (.seq (.seq (.region (some [0, 1, 5, 6]) [⟨(some 7), .mv (.c (.d (.i .i64 0))), none⟩] [])
 (.block 0 (.loop K_paddocklaw5_HistoryMaps_0 [6, 3] l_paddocklaw5_HistoryMaps_0)))
 (.seq (.region (some [1, 5, 6]) [⟨(some 42), .mv (.t 1), none⟩,
   ⟨(some 43), .conv .i64 (.t 42), none⟩,
   ⟨(some 44), .mv (.t 6), none⟩,
   ⟨(some 45), .len false (.t 44), none⟩,
   ⟨(some 46), .bin .add (.t 45) (.c (.d (.i .i64 1))), none⟩,
   ⟨(some 47), .bin .rem (.t 43) (.t 46), none⟩,
   ⟨(some 8), .mv (.t 47), none⟩] [])
 (.seq (.region (some [5, 6, 8]) [⟨(some 49), .mv (.t 5), none⟩,
   ⟨(some 50), .mv (.t 8), none⟩,
   ⟨(some 51), .conv .u32 (.t 50), none⟩,
   ⟨(some 52), .bin .add (.t 51) (.c (.d (.i .u32 1))), none⟩,
   ⟨(some 53), .call (.f F_history_History_Map) [.t 49, .t 52], none⟩,
   ⟨(some 48), .mv (.t 53), none⟩,
   ⟨(some 54), .ext (.t 48) 0, none⟩,
   ⟨(some 55), .ext (.t 48) 1, none⟩,
   ⟨(some 9), .box (.c (.d (.agg Pk.Mp.zero.cs))), none⟩,
   ⟨none, .store 16 (.t 9) (.t 54), none⟩,
   ⟨(some 10), .mv (.t 55), none⟩] [])
 (.seq (.region (some [5, 6, 8, 9, 10]) [⟨(some 57), .mv (.t 6), none⟩,
   ⟨(some 58), .mv (.t 8), none⟩,
   ⟨(some 59), .slice 3 (.t 57) none (some (.t 58)) none, none⟩,
   ⟨(some 60), .call (.f F_maps_Fold) [.t 59], none⟩,
   ⟨(some 56), .mv (.t 60), none⟩,
   ⟨(some 61), .ext (.t 56) 0, none⟩,
   ⟨(some 62), .ext (.t 56) 1, none⟩,
   ⟨(some 11), .box (.c (.d (.agg Pk.Mp.zero.cs))), none⟩,
   ⟨none, .store 16 (.t 11) (.t 61), none⟩,
   ⟨(some 12), .mv (.t 62), none⟩] [])
 (.seq (.region (some [5, 6, 9, 10, 11, 12]) [⟨(some 63), .mv (.t 10), none⟩,
   ⟨(some 64), .mv (.t 63), none⟩,
   ⟨(some 65), .mv (.t 12), some (64, true)⟩,
   ⟨(some 66), .bin .eql (.t 65) (.c (.d (.i .i64 0))), some (64, true)⟩,
   ⟨(some 67), .pick (.t 64) (.t 66) (.c (.d (.b false))), none⟩,
   ⟨(some 68), .mv (.t 67), none⟩,
   ⟨(some 69), .load true 16 (.t 9), some (68, true)⟩,
   ⟨(some 70), .load true 16 (.t 11), some (68, true)⟩,
   ⟨(some 71), .eq false Pk.Mp.ety (.t 69) (.t 70), some (68, true)⟩,
   ⟨(some 72), .pick (.t 68) (.t 71) (.c (.d (.b false))), none⟩,
   ⟨(some 73), .mv (.t 72), none⟩,
   ⟨(some 74), .mv (.t 5), some (73, true)⟩,
   ⟨(some 75), .call (.f F_history_History_Last) [.t 74], some (73, true)⟩,
   ⟨(some 76), .conv .i64 (.t 75), some (73, true)⟩,
   ⟨(some 77), .mv (.t 6), some (73, true)⟩,
   ⟨(some 78), .len false (.t 77), some (73, true)⟩,
   ⟨(some 79), .bin .add (.t 78) (.c (.d (.i .i64 1))), some (73, true)⟩,
   ⟨(some 80), .bin .eql (.t 76) (.t 79), some (73, true)⟩,
   ⟨(some 81), .pick (.t 73) (.t 80) (.c (.d (.b false))), none⟩,
   ⟨(some 4), .mv (.t 81), none⟩] [])
 (.ret))))))))))
def a_paddocklaw5_HistoryMaps : AFn := .code 2 c_paddocklaw5_HistoryMaps [.tmp 4]
set_option maxRecDepth 100000 in
theorem k_paddocklaw5_HistoryMaps : compF Try.prog h_paddocklaw5_HistoryMaps F_paddocklaw5_HistoryMaps = some a_paddocklaw5_HistoryMaps := by kernel_rfl

/-- paddock/paddocklaw5.HistorySame -/
def h_paddocklaw5_HistorySame : Hints := { kp := [(0, [0, 1]), (1, [0, 1]), (2, []), (3, [0, 1]), (4, []), (5, [0, 1]), (6, [0, 1, 5, 6]), (7, [0, 1, 5, 6, 7]), (9, [0, 1, 5, 6, 7]), (8, [0, 1, 5, 6, 7]), (10, [1, 5, 6]), (11, [1, 5, 6, 8]), (13, [1, 5, 6, 8]), (14, [1, 5, 6, 8, 9]), (15, [1, 5, 6, 8, 9, 10, 11]), (16, [1, 5, 6, 8, 9, 10, 11, 12]), (17, [1, 5, 6, 8, 9, 11, 12, 13]), (18, []), (12, [1, 5, 6, 8]), (19, [5, 6]), (20, [5, 6, 14]), (22, [5, 6, 14]), (23, [5, 6, 14, 15]), (24, []), (21, [5, 6, 14]), (25, [5, 6]), (26, [5, 6, 17]), (27, [5, 6, 17, 19]), (28, [5, 6, 17, 19, 21]), (29, [5, 6, 17, 19, 21, 22]), (31, [5, 6, 17, 19, 21, 22]), (32, [5, 6, 17, 19, 21, 22, 23]), (30, [5, 6, 17, 19, 21, 22]), (33, [5, 6, 17, 19, 21]), (34, [5, 6, 17, 19, 25, 26]), (35, [5, 6, 17, 19, 25, 26, 27]), (37, [5, 6, 17, 19, 25, 26, 27]), (38, []), (36, [5, 6, 17, 19, 25, 26, 27]), (39, [17, 19, 25, 26])], lkp := [(7, [0, 1, 5, 6, 7]), (11, [1, 5, 6, 8]), (20, [5, 6, 14]), (29, [5, 6, 17, 19, 21, 22]), (35, [5, 6, 17, 19, 25, 26, 27])], lth := [(29, [21, 3])] }
def K_paddocklaw5_HistorySame_0 : Option (List Nat) := (some [0, 1, 5, 6, 7])
def l_paddocklaw5_HistorySame_0 : ACode :=
 .seq (.seq (.region (some [0, 1, 5, 6, 7]) [⟨(some 40), .mv (.t 7), none⟩,
   ⟨(some 41), .mv (.t 0), none⟩,
   ⟨(some 42), .len false (.t 41), none⟩,
   ⟨(some 43), .bin .lss (.t 40) (.t 42), none⟩] [])
 (.cond (.t 43) (.skip) (.exit 0)))
 (.seq (.block 1 (.region (some [0, 1, 5, 6, 7]) [⟨(some 46), .mv (.t 5), none⟩,
    ⟨(some 47), .mv (.t 5), none⟩,
    ⟨(some 48), .call (.f F_history_History_Last) [.t 47], none⟩,
    ⟨(some 49), .bin .add (.t 48) (.c (.d (.i .u32 1))), none⟩,
    ⟨(some 50), .mv (.t 0), none⟩,
    ⟨(some 51), .mv (.t 7), none⟩,
    ⟨(some 52), .iaddrS 3 (.t 50) (.t 51), none⟩,
    ⟨(some 53), .load true 3 (.t 52), none⟩,
    ⟨(some 54), .call (.f F_history_History_Add) [.t 46, .t 49, .t 53], none⟩] [(2, 7)]))
 (.region (some [0, 1, 5, 6, 7]) [⟨(some 44), .mv (.t 7), none⟩,
   ⟨(some 45), .bin .add (.t 44) (.c (.d (.i .i64 1))), none⟩,
   ⟨(some 7), .mv (.t 45), none⟩] []))
def K_paddocklaw5_HistorySame_1 : Option (List Nat) := (some [1, 5, 6, 8])
def l_paddocklaw5_HistorySame_1 : ACode :=
 .seq (.seq (.region (some [1, 5, 6, 8]) [⟨(some 55), .mv (.t 8), none⟩,
   ⟨(some 56), .mv (.t 1), none⟩,
   ⟨(some 57), .len false (.t 56), none⟩,
   ⟨(some 58), .bin .lss (.t 55) (.t 57), none⟩,
   ⟨(some 59), .mv (.t 58), none⟩,
   ⟨(some 60), .mv (.t 5), some (59, true)⟩,
   ⟨(some 61), .call (.f F_history_History_Last) [.t 60], some (59, true)⟩,
   ⟨(some 62), .bin .gtr (.t 61) (.c (.d (.i .u32 1))), some (59, true)⟩,
   ⟨(some 63), .pick (.t 59) (.t 62) (.c (.d (.b false))), none⟩] [])
 (.cond (.t 63) (.skip) (.exit 2)))
 (.seq (.block 3 (.seq (.region (some [1, 5, 6, 8]) [⟨(some 66), .mv (.t 1), none⟩,
    ⟨(some 67), .mv (.t 8), none⟩,
    ⟨(some 68), .iaddrS 1 (.t 66) (.t 67), none⟩,
    ⟨(some 69), .load false 1 (.t 68), none⟩,
    ⟨(some 70), .conv .u32 (.t 69), none⟩,
    ⟨(some 71), .mv (.t 5), none⟩,
    ⟨(some 72), .call (.f F_history_History_Last) [.t 71], none⟩,
    ⟨(some 73), .bin .sub (.t 72) (.c (.d (.i .u32 1))), none⟩,
    ⟨(some 74), .bin .rem (.t 70) (.t 73), none⟩,
    ⟨(some 75), .bin .add (.t 74) (.c (.d (.i .u32 2))), none⟩,
    ⟨(some 9), .mv (.t 75), none⟩] [(3, 6)])
  (.seq (.region (some [1, 5, 6, 8, 9]) [⟨(some 77), .mv (.t 5), none⟩,
    ⟨(some 78), .mv (.t 9), none⟩,
    ⟨(some 79), .call (.f F_history_History_Inc) [.t 77, .t 78], none⟩,
    ⟨(some 76), .mv (.t 79), none⟩,
    ⟨(some 80), .ext (.t 76) 0, none⟩,
    ⟨(some 81), .ext (.t 76) 1, none⟩,
    ⟨(some 10), .box (.c (.d (.agg [.i .u8 0, .i .u8 0, .i .i64 0]))), none⟩,
    ⟨none, .store 3 (.t 10) (.t 80), none⟩,
    ⟨(some 11), .mv (.t 81), none⟩] [])
  (.seq (.region (some [1, 5, 6, 8, 9, 10, 11]) [⟨(some 82), .mv (.t 6), none⟩,
    ⟨(some 83), .call (.f F_history_History_Last) [.t 82], none⟩,
    ⟨(some 12), .mv (.t 83), none⟩] [])
  (.seq (.region (some [1, 5, 6, 8, 9, 10, 11, 12]) [⟨(some 84), .mv (.t 6), none⟩,
    ⟨(some 85), .mv (.t 9), none⟩,
    ⟨(some 86), .load true 3 (.t 10), none⟩,
    ⟨(some 87), .call (.f F_history_History_Add) [.t 84, .t 85, .t 86], none⟩,
    ⟨(some 13), .mv (.t 87), none⟩] [])
  (.seq (.region (some [1, 5, 6, 8, 9, 11, 12, 13]) [⟨(some 88), .mv (.t 11), none⟩,
    ⟨(some 89), .un .not (.t 88), none⟩,
    ⟨(some 90), .mv (.t 89), none⟩,
    ⟨(some 91), .mv (.t 13), some (90, false)⟩,
    ⟨(some 92), .bin .eql (.t 91) (.c (.d (.i .i64 0))), some (90, false)⟩,
    ⟨(some 93), .mv (.t 9), some (90, false)⟩,
    ⟨(some 94), .mv (.t 12), some (90, false)⟩,
    ⟨(some 95), .bin .add (.t 94) (.c (.d (.i .u32 1))), some (90, false)⟩,
    ⟨(some 96), .bin .eql (.t 93) (.t 95), some (90, false)⟩,
    ⟨(some 97), .eq true (.sb) (.t 92) (.t 96), some (90, false)⟩,
    ⟨(some 98), .pick (.t 90) (.c (.d (.b true))) (.t 97), none⟩,
    ⟨(some 99), .mv (.t 98), none⟩,
    ⟨(some 100), .mv (.t 13), some (99, false)⟩,
    ⟨(some 101), .bin .neq (.t 100) (.c (.d (.i .i64 0))), some (99, false)⟩,
    ⟨(some 102), .mv (.t 101), some (99, false)⟩,
    ⟨(some 103), .mv (.t 13), some (102, true)⟩,
    ⟨(some 104), .bin .neq (.t 103) (.c (.d (.i .i64 51))), some (102, true)⟩,
    ⟨(some 105), .pick (.t 102) (.t 104) (.c (.d (.b false))), some (99, false)⟩,
    ⟨(some 106), .mv (.t 105), some (99, false)⟩,
    ⟨(some 107), .mv (.t 13), some (106, true)⟩,
    ⟨(some 108), .bin .neq (.t 107) (.c (.d (.i .i64 50))), some (106, true)⟩,
    ⟨(some 109), .pick (.t 106) (.t 108) (.c (.d (.b false))), some (99, false)⟩,
    ⟨(some 110), .pick (.t 99) (.c (.d (.b true))) (.t 109), none⟩] [])
  (.cond (.t 110) (.seq (.region (some []) [⟨(some 4), .mv (.c (.d (.b false))), none⟩] [])
   (.ret)) (.skip))))))))
 (.region (some [1, 5, 6, 8]) [⟨(some 64), .mv (.t 8), none⟩,
   ⟨(some 65), .bin .add (.t 64) (.c (.d (.i .i64 1))), none⟩,
   ⟨(some 8), .mv (.t 65), none⟩] []))
def K_paddocklaw5_HistorySame_2 : Option (List Nat) := (some [5, 6, 14])
def l_paddocklaw5_HistorySame_2 : ACode :=
 .seq (.seq (.region (some [5, 6, 14]) [⟨(some 114), .mv (.t 14), none⟩,
   ⟨(some 115), .mv (.t 5), none⟩,
   ⟨(some 116), .call (.f F_history_History_Last) [.t 115], none⟩,
   ⟨(some 117), .bin .leq (.t 114) (.t 116), none⟩] [])
 (.cond (.t 117) (.skip) (.exit 4)))
 (.seq (.block 5 (.seq (.region (some [5, 6, 14]) [⟨(some 121), .mv (.t 5), none⟩,
    ⟨(some 122), .mv (.t 14), none⟩,
    ⟨(some 123), .call (.f F_history_History_Inc) [.t 121, .t 122], none⟩,
    ⟨(some 120), .mv (.t 123), none⟩,
    ⟨(some 124), .ext (.t 120) 0, none⟩,
    ⟨(some 125), .ext (.t 120) 1, none⟩,
    ⟨(some 15), .box (.c (.d (.agg [.i .u8 0, .i .u8 0, .i .i64 0]))), none⟩,
    ⟨none, .store 3 (.t 15) (.t 124), none⟩,
    ⟨(some 16), .mv (.t 125), none⟩] [])
  (.seq (.region (some [5, 6, 14, 15]) [⟨(some 126), .mv (.t 6), none⟩,
    ⟨(some 127), .mv (.t 14), none⟩,
    ⟨(some 128), .load true 3 (.t 15), none⟩,
    ⟨(some 129), .call (.f F_history_History_Add) [.t 126, .t 127, .t 128], none⟩,
    ⟨(some 130), .bin .neq (.t 129) (.c (.d (.i .i64 0))), none⟩] [])
  (.cond (.t 130) (.seq (.region (some []) [⟨(some 4), .mv (.c (.d (.b false))), none⟩] [])
   (.ret)) (.skip)))))
 (.region (some [5, 6, 14]) [⟨(some 118), .mv (.t 14), none⟩,
   ⟨(some 119), .bin .add (.t 118) (.c (.d (.i .u32 1))), none⟩,
   ⟨(some 14), .mv (.t 119), none⟩] []))
def K_paddocklaw5_HistorySame_3 : Option (List Nat) := (some [5, 6, 17, 19, 21, 22])
def l_paddocklaw5_HistorySame_3 : ACode :=
 .seq (.seq (.region (some [5, 6, 17, 19, 21, 22]) [⟨(some 145), .mv (.t 22), none⟩,
   ⟨(some 146), .mv (.t 5), none⟩,
   ⟨(some 147), .call (.f F_history_History_Last) [.t 146], none⟩,
   ⟨(some 148), .bin .leq (.t 145) (.t 147), none⟩] [])
 (.cond (.t 148) (.skip) (.exit 6)))
 (.seq (.block 7 (.seq (.region (some [5, 6, 17, 19, 21, 22]) [⟨(some 152), .mv (.t 5), none⟩,
    ⟨(some 153), .mv (.t 22), none⟩,
    ⟨(some 154), .call (.f F_history_History_Inc) [.t 152, .t 153], none⟩,
    ⟨(some 151), .mv (.t 154), none⟩,
    ⟨(some 155), .ext (.t 151) 0, none⟩,
    ⟨(some 156), .ext (.t 151) 1, none⟩,
    ⟨(some 23), .box (.c (.d (.agg [.i .u8 0, .i .u8 0, .i .i64 0]))), none⟩,
    ⟨none, .store 3 (.t 23) (.t 155), none⟩,
    ⟨(some 24), .mv (.t 156), none⟩] [])
  (.region (some [5, 6, 17, 19, 21, 22, 23]) [⟨(some 157), .mv (.t 21), none⟩,
    ⟨(some 158), .load true 3 (.t 23), none⟩,
    ⟨(some 159), .bsl 3 [.t 158], none⟩,
    ⟨(some 160), .app 3 (.t 157) (.t 159), none⟩,
    ⟨(some 21), .mv (.t 160), none⟩] [])))
 (.region (some [5, 6, 17, 19, 21, 22]) [⟨(some 149), .mv (.t 22), none⟩,
   ⟨(some 150), .bin .add (.t 149) (.c (.d (.i .u32 1))), none⟩,
   ⟨(some 22), .mv (.t 150), none⟩] []))
def K_paddocklaw5_HistorySame_4 : Option (List Nat) := (some [5, 6, 17, 19, 25, 26, 27])
def l_paddocklaw5_HistorySame_4 : ACode :=
 .seq (.seq (.region (some [5, 6, 17, 19, 25, 26, 27]) [⟨(some 166), .mv (.t 27), none⟩,
   ⟨(some 167), .bin .lss (.t 166) (.c (.d (.i .u8 4))), none⟩] [])
 (.cond (.t 167) (.skip) (.exit 8)))
 (.seq (.block 9 (.seq (.region (some [5, 6, 17, 19, 25, 26, 27]) [⟨(some 170), .mv (.t 5), none⟩,
    ⟨(some 171), .mv (.t 27), none⟩,
    ⟨(some 172), .call (.f F_history_History_Intervals) [.t 170, .t 171], none⟩,
    ⟨(some 173), .mv (.t 6), none⟩,
    ⟨(some 174), .mv (.t 27), none⟩,
    ⟨(some 175), .call (.f F_history_History_Intervals) [.t 173, .t 174], none⟩,
    ⟨(some 176), .call (.f F_paddocklaw5_intervals) [.t 172, .t 175], none⟩,
    ⟨(some 177), .un .not (.t 176), none⟩] [])
  (.cond (.t 177) (.seq (.region (some []) [⟨(some 4), .mv (.c (.d (.b false))), none⟩] [])
   (.ret)) (.skip))))
 (.region (some [5, 6, 17, 19, 25, 26, 27]) [⟨(some 168), .mv (.t 27), none⟩,
   ⟨(some 169), .bin .add (.t 168) (.c (.d (.i .u8 1))), none⟩,
   ⟨(some 27), .mv (.t 169), none⟩] []))
def c_paddocklaw5_HistorySame : ACode :=
 .seq (.region (some [0, 1]) [⟨(some 4), .mv (.c (.d (.b false))), none⟩] [])
 (.seq (.seq (.region (some [0, 1]) [⟨(some 28), .call (.f F_paddocklaw5_known) [], none⟩,
   ⟨(some 29), .un .not (.t 28), none⟩] [])
 (.cond (.t 29) (.seq (.region (some []) [⟨(some 4), .mv (.c (.d (.b false))), none⟩] [])
  (.ret)) (.skip)))
 (.seq (.seq (.region (some [0, 1]) [⟨(some 30), .mv (.t 0), none⟩,
   ⟨(some 31), .len false (.t 30), none⟩,
   ⟨(some 32), .bin .gtr (.t 31) (.c (.d (.i .i64 20))), none⟩,
   ⟨(some 33), .mv (.t 32), none⟩,
   ⟨(some 34), .mv (.t 1), some (33, false)⟩,
   ⟨(some 35), .len false (.t 34), some (33, false)⟩,
   ⟨(some 36), .bin .gtr (.t 35) (.c (.d (.i .i64 60))), some (33, false)⟩,
   ⟨(some 37), .pick (.t 33) (.c (.d (.b true))) (.t 36), none⟩] [])
 (.cond (.t 37) (.seq (.region (some []) [⟨(some 4), .mv (.c (.d (.b true))), none⟩] [])
  (.ret)) (.skip)))
 (.seq (.region (some [0, 1]) [⟨(some 38), .call (.f F_history_New) [], none⟩,
   ⟨(some 39), .call (.f F_history_New) [], none⟩,
   ⟨(some 5), .mv (.t 38), none⟩,
   ⟨(some 6), .mv (.t 39), none⟩] [])
 (.seq (.seq (.region (some [0, 1, 5, 6]) [⟨(some 7), .mv (.c (.d (.i .i64 0))), none⟩] [])
 (.block 0 (.loop K_paddocklaw5_HistorySame_0 [] l_paddocklaw5_HistorySame_0)))
 (.seq (.seq (.region (some [1, 5, 6]) [⟨(some 8), .mv (.c (.d (.i .i64 0))), none⟩] [])
 (.block 2 (.loop K_paddocklaw5_HistorySame_1 [] l_paddocklaw5_HistorySame_1)))
 (.seq (.seq (.region (some [5, 6]) [⟨(some 111), .mv (.t 6), none⟩,
   ⟨(some 112), .call (.f F_history_History_Last) [.t 111], none⟩,
   ⟨(some 113), .bin .add (.t 112) (.c (.d (.i .u32 1))), none⟩,
   ⟨(some 14), .mv (.t 113), none⟩] [])
 (.block 4 (.loop K_paddocklaw5_HistorySame_2 [] l_paddocklaw5_HistorySame_2)))
 (.seq (.region (some [5, 6]) [⟨(some 132), .mv (.t 5), none⟩,
   ⟨(some 133), .mv (.t 5), none⟩,
   ⟨(some 134), .call (.f F_history_History_Last) [.t 133], none⟩,
   ⟨(some 135), .call (.f F_history_History_Map) [.t 132, .t 134], none⟩,
   ⟨(some 131), .mv (.t 135), none⟩,
   ⟨(some 136), .ext (.t 131) 0, none⟩,
   ⟨(some 137), .ext (.t 131) 1, none⟩,
   ⟨(some 17), .box (.c (.d (.agg Pk.Mp.zero.cs))), none⟩,
   ⟨none, .store 16 (.t 17) (.t 136), none⟩,
   ⟨(some 18), .mv (.t 137), none⟩] [])
 (.seq (.region (some [5, 6, 17]) [⟨(some 139), .mv (.t 6), none⟩,
   ⟨(some 140), .mv (.t 6), none⟩,
   ⟨(some 141), .call (.f F_history_History_Last) [.t 140], none⟩,
   ⟨(some 142), .call (.f F_history_History_Map) [.t 139, .t 141], none⟩,
   ⟨(some 138), .mv (.t 142), none⟩,
   ⟨(some 143), .ext (.t 138) 0, none⟩,
   ⟨(some 144), .ext (.t 138) 1, none⟩,
   ⟨(some 19), .box (.c (.d (.agg Pk.Mp.zero.cs))), none⟩,
   ⟨none, .store 16 (.t 19) (.t 143), none⟩,
   ⟨(some 20), .mv (.t 144), none⟩] [])
 (.seq (.region (some [5, 6, 17, 19]) [⟨(some 21), .mv (.c (.nilS)), none⟩] [])
 (.seq (.seq (.region (some [5, 6, 17, 19, 21]) [⟨(some 22), .mv (.c (.d (.i .u32 2))), none⟩] [])
 (.block 6 (.loop K_paddocklaw5_HistorySame_3 [21, 3] l_paddocklaw5_HistorySame_3)))
 (.seq (.region (some [5, 6, 17, 19, 21]) [⟨(some 162), .mv (.t 21), none⟩,
   ⟨(some 163), .call (.f F_maps_Fold) [.t 162], none⟩,
   ⟨(some 161), .mv (.t 163), none⟩,
   ⟨(some 164), .ext (.t 161) 0, none⟩,
   ⟨(some 165), .ext (.t 161) 1, none⟩,
   ⟨(some 25), .box (.c (.d (.agg Pk.Mp.zero.cs))), none⟩,
   ⟨none, .store 16 (.t 25) (.t 164), none⟩,
   ⟨(some 26), .mv (.t 165), none⟩] [])
 (.seq (.seq (.region (some [5, 6, 17, 19, 25, 26]) [⟨(some 27), .mv (.c (.d (.i .u8 0))), none⟩] [])
 (.block 8 (.loop K_paddocklaw5_HistorySame_4 [] l_paddocklaw5_HistorySame_4)))
 (.seq (.region (some [17, 19, 25, 26]) [⟨(some 178), .load true 16 (.t 17), none⟩,
   ⟨(some 179), .load true 16 (.t 19), none⟩,
   ⟨(some 180), .eq false Pk.Mp.ety (.t 178) (.t 179), none⟩,
   ⟨(some 181), .mv (.t 180), none⟩,
   ⟨(some 182), .mv (.t 26), some (181, true)⟩,
   ⟨(some 183), .bin .eql (.t 182) (.c (.d (.i .i64 0))), some (181, true)⟩,
   ⟨(some 184), .pick (.t 181) (.t 183) (.c (.d (.b false))), none⟩,
   ⟨(some 185), .mv (.t 184), none⟩,
   ⟨(some 186), .load true 16 (.t 25), some (185, true)⟩,
   ⟨(some 187), .load true 16 (.t 17), some (185, true)⟩,
   ⟨(some 188), .eq false Pk.Mp.ety (.t 186) (.t 187), some (185, true)⟩,
   ⟨(some 189), .pick (.t 185) (.t 188) (.c (.d (.b false))), none⟩,
   ⟨(some 4), .mv (.t 189), none⟩] [])
 (.ret))))))))))))))
def a_paddocklaw5_HistorySame : AFn := .code 2 c_paddocklaw5_HistorySame [.tmp 4]
set_option maxRecDepth 100000 in
theorem k_paddocklaw5_HistorySame : compF Try.prog h_paddocklaw5_HistorySame F_paddocklaw5_HistorySame = some a_paddocklaw5_HistorySame := by kernel_rfl

/-- paddock/paddocklaw5.HistoryCopies -/
def h_paddocklaw5_HistoryCopies : Hints := { kp := [(0, [0, 1]), (1, [0, 1]), (2, []), (3, [0, 1]), (4, []), (5, [0, 1]), (6, [0, 1, 5]), (7, [0, 1, 5, 6]), (9, [0, 1, 5, 6]), (8, [0, 1, 5, 6]), (10, [1, 5]), (11, [1, 5, 7]), (12, [1, 5, 7, 8]), (13, [5, 7, 8, 9]), (14, [5, 7, 8, 9, 10]), (15, [5, 7, 8, 9, 10, 11]), (16, [5, 7, 8, 9, 10, 11, 13])], lkp := [(7, [0, 1, 5, 6])], lth := [] }
def K_paddocklaw5_HistoryCopies_0 : Option (List Nat) := (some [0, 1, 5, 6])
def l_paddocklaw5_HistoryCopies_0 : ACode :=
 .seq (.seq (.region (some [0, 1, 5, 6]) [⟨(some 21), .mv (.t 6), none⟩,
   ⟨(some 22), .mv (.t 0), none⟩,
   ⟨(some 23), .len false (.t 22), none⟩,
   ⟨(some 24), .bin .lss (.t 21) (.t 23), none⟩] [])
 (.cond (.t 24) (.skip) (.exit 0)))
 (.seq (.block 1 (.region (some [0, 1, 5, 6]) [⟨(some 27), .mv (.t 5), none⟩,
    ⟨(some 28), .mv (.t 5), none⟩,
    ⟨(some 29), .call (.f F_history_History_Last) [.t 28], none⟩,
    ⟨(some 30), .bin .add (.t 29) (.c (.d (.i .u32 1))), none⟩,
    ⟨(some 31), .mv (.t 0), none⟩,
    ⟨(some 32), .mv (.t 6), none⟩,
    ⟨(some 33), .iaddrS 3 (.t 31) (.t 32), none⟩,
    ⟨(some 34), .load true 3 (.t 33), none⟩,
    ⟨(some 35), .call (.f F_history_History_Add) [.t 27, .t 30, .t 34], none⟩] [(2, 7)]))
 (.region (some [0, 1, 5, 6]) [⟨(some 25), .mv (.t 6), none⟩,
   ⟨(some 26), .bin .add (.t 25) (.c (.d (.i .i64 1))), none⟩,
   ⟨(some 6), .mv (.t 26), none⟩] []))
def c_paddocklaw5_HistoryCopies : ACode :=
 .seq (.region (some [0, 1]) [⟨(some 4), .mv (.c (.d (.b false))), none⟩] [])
 (.seq (.seq (.region (some [0, 1]) [⟨(some 15), .call (.f F_paddocklaw5_known) [], none⟩,
   ⟨(some 16), .un .not (.t 15), none⟩] [])
 (.cond (.t 16) (.seq (.region (some []) [⟨(some 4), .mv (.c (.d (.b false))), none⟩] [])
  (.ret)) (.skip)))
 (.seq (.seq (.region (some [0, 1]) [⟨(some 17), .mv (.t 0), none⟩,
   ⟨(some 18), .len false (.t 17), none⟩,
   ⟨(some 19), .bin .gtr (.t 18) (.c (.d (.i .i64 30))), none⟩] [])
 (.cond (.t 19) (.seq (.region (some []) [⟨(some 4), .mv (.c (.d (.b true))), none⟩] [])
  (.ret)) (.skip)))
 (.seq (.region (some [0, 1]) [⟨(some 20), .call (.f F_history_New) [], none⟩,
   ⟨(some 5), .mv (.t 20), none⟩] [])
 (.seq (.seq (.region (some [0, 1, 5]) [⟨(some 6), .mv (.c (.d (.i .i64 0))), none⟩] [])
 (.block 0 (.loop K_paddocklaw5_HistoryCopies_0 [] l_paddocklaw5_HistoryCopies_0)))
 (.seq (.region (some [1, 5]) [⟨(some 36), .mv (.t 5), none⟩,
   ⟨(some 37), .call (.f F_history_History_Copy) [.t 36], none⟩,
   ⟨(some 7), .mv (.t 37), none⟩] [])
 (.seq (.region (some [1, 5, 7]) [⟨(some 38), .mv (.t 5), none⟩,
   ⟨(some 39), .call (.f F_history_History_Last) [.t 38], none⟩,
   ⟨(some 8), .mv (.t 39), none⟩] [])
 (.seq (.region (some [1, 5, 7, 8]) [⟨(some 40), .mv (.t 7), none⟩,
   ⟨(some 41), .mv (.t 8), none⟩,
   ⟨(some 42), .bin .add (.t 41) (.c (.d (.i .u32 1))), none⟩,
   ⟨(some 43), .mv (.t 1), none⟩,
   ⟨(some 44), .bin .rem (.t 43) (.c (.d (.i .u8 5))), none⟩,
   ⟨(some 45), .build [.d (.i .u8 0), .d (.i .u8 0), .d (.i .i64 0)] [(0, 1, .c (.d (.i .u8 3))), (1, 1, .t 44), (2, 1, .c (.d (.i .i64 1)))], none⟩,
   ⟨(some 46), .call (.f F_history_History_Add) [.t 40, .t 42, .t 45], none⟩,
   ⟨(some 9), .mv (.t 46), none⟩] [])
 (.seq (.region (some [5, 7, 8, 9]) [⟨(some 47), .mv (.t 5), none⟩,
   ⟨(some 48), .mv (.t 8), none⟩,
   ⟨(some 49), .bin .add (.t 48) (.c (.d (.i .u32 1))), none⟩,
   ⟨(some 50), .build [.d (.i .u8 0), .d (.i .u8 0), .d (.i .i64 0)] [(0, 1, .c (.d (.i .u8 4)))], none⟩,
   ⟨(some 51), .call (.f F_history_History_Add) [.t 47, .t 49, .t 50], none⟩,
   ⟨(some 10), .mv (.t 51), none⟩] [])
 (.seq (.region (some [5, 7, 8, 9, 10]) [⟨(some 53), .mv (.t 7), none⟩,
   ⟨(some 54), .mv (.t 8), none⟩,
   ⟨(some 55), .bin .add (.t 54) (.c (.d (.i .u32 1))), none⟩,
   ⟨(some 56), .call (.f F_history_History_Inc) [.t 53, .t 55], none⟩,
   ⟨(some 52), .mv (.t 56), none⟩,
   ⟨(some 57), .ext (.t 52) 0, none⟩,
   ⟨(some 58), .ext (.t 52) 1, none⟩,
   ⟨(some 11), .box (.c (.d (.agg [.i .u8 0, .i .u8 0, .i .i64 0]))), none⟩,
   ⟨none, .store 3 (.t 11) (.t 57), none⟩,
   ⟨(some 12), .mv (.t 58), none⟩] [])
 (.seq (.region (some [5, 7, 8, 9, 10, 11]) [⟨(some 60), .mv (.t 5), none⟩,
   ⟨(some 61), .mv (.t 8), none⟩,
   ⟨(some 62), .bin .add (.t 61) (.c (.d (.i .u32 1))), none⟩,
   ⟨(some 63), .call (.f F_history_History_Inc) [.t 60, .t 62], none⟩,
   ⟨(some 59), .mv (.t 63), none⟩,
   ⟨(some 64), .ext (.t 59) 0, none⟩,
   ⟨(some 65), .ext (.t 59) 1, none⟩,
   ⟨(some 13), .box (.c (.d (.agg [.i .u8 0, .i .u8 0, .i .i64 0]))), none⟩,
   ⟨none, .store 3 (.t 13) (.t 64), none⟩,
   ⟨(some 14), .mv (.t 65), none⟩] [])
 (.seq (.region (some [5, 7, 8, 9, 10, 11, 13]) [⟨(some 66), .mv (.t 9), none⟩,
   ⟨(some 67), .bin .eql (.t 66) (.c (.d (.i .i64 0))), none⟩,
   ⟨(some 68), .mv (.t 67), none⟩,
   ⟨(some 69), .mv (.t 10), some (68, true)⟩,
   ⟨(some 70), .bin .eql (.t 69) (.c (.d (.i .i64 0))), some (68, true)⟩,
   ⟨(some 71), .pick (.t 68) (.t 70) (.c (.d (.b false))), none⟩,
   ⟨(some 72), .mv (.t 71), none⟩,
   ⟨(some 73), .mv (.t 7), some (72, true)⟩,
   ⟨(some 74), .call (.f F_history_History_Last) [.t 73], some (72, true)⟩,
   ⟨(some 75), .mv (.t 8), some (72, true)⟩,
   ⟨(some 76), .bin .add (.t 75) (.c (.d (.i .u32 1))), some (72, true)⟩,
   ⟨(some 77), .bin .eql (.t 74) (.t 76), some (72, true)⟩,
   ⟨(some 78), .pick (.t 72) (.t 77) (.c (.d (.b false))), none⟩,
   ⟨(some 79), .mv (.t 78), none⟩,
   ⟨(some 80), .mv (.t 5), some (79, true)⟩,
   ⟨(some 81), .call (.f F_history_History_Last) [.t 80], some (79, true)⟩,
   ⟨(some 82), .mv (.t 8), some (79, true)⟩,
   ⟨(some 83), .bin .add (.t 82) (.c (.d (.i .u32 1))), some (79, true)⟩,
   ⟨(some 84), .bin .eql (.t 81) (.t 83), some (79, true)⟩,
   ⟨(some 85), .pick (.t 79) (.t 84) (.c (.d (.b false))), none⟩,
   ⟨(some 86), .mv (.t 85), none⟩,
   ⟨(some 87), .faddr 0 (.t 11), some (86, true)⟩,
   ⟨(some 88), .load false 1 (.t 87), some (86, true)⟩,
   ⟨(some 89), .bin .eql (.t 88) (.c (.d (.i .u8 3))), some (86, true)⟩,
   ⟨(some 90), .pick (.t 86) (.t 89) (.c (.d (.b false))), none⟩,
   ⟨(some 91), .mv (.t 90), none⟩,
   ⟨(some 92), .faddr 0 (.t 13), some (91, true)⟩,
   ⟨(some 93), .load false 1 (.t 92), some (91, true)⟩,
   ⟨(some 94), .bin .eql (.t 93) (.c (.d (.i .u8 4))), some (91, true)⟩,
   ⟨(some 95), .pick (.t 91) (.t 94) (.c (.d (.b false))), none⟩,
   ⟨(some 4), .mv (.t 95), none⟩] [])
 (.ret))))))))))))
def a_paddocklaw5_HistoryCopies : AFn := .code 2 c_paddocklaw5_HistoryCopies [.tmp 4]
set_option maxRecDepth 100000 in
theorem k_paddocklaw5_HistoryCopies : compF Try.prog h_paddocklaw5_HistoryCopies F_paddocklaw5_HistoryCopies = some a_paddocklaw5_HistoryCopies := by kernel_rfl

/-- paddock/paddocklaw5.HistoryPlays -/
def h_paddocklaw5_HistoryPlays : Hints := { kp := [(0, [0, 1, 2]), (1, [0, 1, 2]), (2, []), (3, [0, 1, 2]), (4, []), (5, [0, 1, 2]), (6, [0, 1, 2, 7, 8]), (7, [0, 1, 2, 7, 8, 9]), (9, [0, 1, 2, 7, 8, 9]), (10, [0, 1, 2, 7, 8, 9, 10]), (11, [0, 1, 2, 7, 8, 9]), (12, [0, 1, 2, 7, 8, 9, 10]), (13, []), (8, [0, 1, 2, 7, 8, 9]), (14, [1, 2, 7, 8]), (15, []), (16, [1, 2, 7, 8]), (17, [1, 2, 7, 8, 11, 12]), (18, [1, 2, 7, 8, 11, 12, 13, 14]), (19, [1, 2, 7, 8, 11, 12, 13, 14, 15]), (20, []), (21, [1, 7, 8]), (22, [1, 7, 8, 16]), (23, [1, 7, 8])], lkp := [(7, [0, 1, 2, 7, 8, 9])], lth := [] }
def K_paddocklaw5_HistoryPlays_0 : Option (List Nat) := (some [0, 1, 2, 7, 8, 9])
def l_paddocklaw5_HistoryPlays_0 : ACode :=
 .seq (.seq (.region (some [0, 1, 2, 7, 8, 9]) [⟨(some 25), .mv (.t 9), none⟩,
   ⟨(some 26), .mv (.t 0), none⟩,
   ⟨(some 27), .len false (.t 26), none⟩,
   ⟨(some 28), .bin .lss (.t 25) (.t 27), none⟩] [])
 (.cond (.t 28) (.skip) (.exit 0)))
 (.seq (.block 1 (.seq (.region (some [0, 1, 2, 7, 8, 9]) [⟨(some 31), .mv (.t 0), none⟩,
    ⟨(some 32), .mv (.t 9), none⟩,
    ⟨(some 33), .iaddrS 5 (.t 31) (.t 32), none⟩,
    ⟨(some 34), .faddr 1 (.t 33), none⟩,
    ⟨(some 35), .load false 1 (.t 34), none⟩,
    ⟨(some 10), .mv (.t 35), none⟩] [])
  (.seq (.seq (.region (some [0, 1, 2, 7, 8, 9, 10]) [⟨(some 36), .mv (.t 0), none⟩,
    ⟨(some 37), .mv (.t 9), none⟩,
    ⟨(some 38), .iaddrS 5 (.t 36) (.t 37), none⟩,
    ⟨(some 39), .faddr 0 (.t 38), none⟩,
    ⟨(some 40), .load false 1 (.t 39), none⟩] [])
  (.cond (.t 40) (.region (some [0, 1, 2, 7, 8, 9]) [⟨(some 41), .mv (.t 8), none⟩,
     ⟨(some 42), .call (.f F_paddockref3_History_Last) [.t 41], none⟩,
     ⟨(some 43), .bin .add (.t 42) (.c (.d (.i .u32 1))), none⟩,
     ⟨(some 10), .mv (.t 43), none⟩] []) (.skip)))
  (.seq (.region (some [0, 1, 2, 7, 8, 9, 10]) [⟨(some 44), .mv (.t 7), none⟩,
    ⟨(some 45), .mv (.t 10), none⟩,
    ⟨(some 46), .mv (.t 0), none⟩,
    ⟨(some 47), .mv (.t 9), none⟩,
    ⟨(some 48), .iaddrS 5 (.t 46) (.t 47), none⟩,
    ⟨(some 49), .faddr 2 (.t 48), none⟩,
    ⟨(some 50), .load true 3 (.t 49), none⟩,
    ⟨(some 51), .call (.f F_history_History_Add) [.t 44, .t 45, .t 50], none⟩,
    ⟨(some 52), .mv (.t 8), none⟩,
    ⟨(some 53), .mv (.t 10), none⟩,
    ⟨(some 54), .mv (.t 0), none⟩,
    ⟨(some 55), .mv (.t 9), none⟩,
    ⟨(some 56), .iaddrS 5 (.t 54) (.t 55), none⟩,
    ⟨(some 57), .faddr 2 (.t 56), none⟩,
    ⟨(some 58), .load true 3 (.t 57), none⟩,
    ⟨(some 59), .call (.f F_paddockref3_History_Add) [.t 52, .t 53, .t 58], none⟩,
    ⟨(some 60), .bin .neq (.t 51) (.t 59), none⟩] [(6, 14), (7, 14)])
  (.cond (.t 60) (.seq (.region (some []) [⟨(some 6), .mv (.c (.d (.b false))), none⟩] [])
   (.ret)) (.skip))))))
 (.region (some [0, 1, 2, 7, 8, 9]) [⟨(some 29), .mv (.t 9), none⟩,
   ⟨(some 30), .bin .add (.t 29) (.c (.d (.i .i64 1))), none⟩,
   ⟨(some 9), .mv (.t 30), none⟩] []))
def c_paddocklaw5_HistoryPlays : ACode :=
 .seq (.region (some [0, 1, 2]) [⟨(some 6), .mv (.c (.d (.b false))), none⟩] [])
 (.seq (.seq (.region (some [0, 1, 2]) [⟨(some 17), .call (.f F_paddocklaw5_known) [], none⟩,
   ⟨(some 18), .un .not (.t 17), none⟩] [])
 (.cond (.t 18) (.seq (.region (some []) [⟨(some 6), .mv (.c (.d (.b false))), none⟩] [])
  (.ret)) (.skip)))
 (.seq (.seq (.region (some [0, 1, 2]) [⟨(some 19), .mv (.t 0), none⟩,
   ⟨(some 20), .len false (.t 19), none⟩,
   ⟨(some 21), .bin .gtr (.t 20) (.c (.d (.i .i64 30))), none⟩] [])
 (.cond (.t 21) (.seq (.region (some []) [⟨(some 6), .mv (.c (.d (.b true))), none⟩] [])
  (.ret)) (.skip)))
 (.seq (.region (some [0, 1, 2]) [⟨(some 22), .call (.f F_history_New) [], none⟩,
   ⟨(some 23), .build [.nilS] [], none⟩,
   ⟨(some 24), .box (.t 23), none⟩,
   ⟨(some 7), .mv (.t 22), none⟩,
   ⟨(some 8), .mv (.t 24), none⟩] [])
 (.seq (.seq (.region (some [0, 1, 2, 7, 8]) [⟨(some 9), .mv (.c (.d (.i .i64 0))), none⟩] [])
 (.block 0 (.loop K_paddocklaw5_HistoryPlays_0 [] l_paddocklaw5_HistoryPlays_0)))
 (.seq (.seq (.region (some [1, 2, 7, 8]) [⟨(some 61), .mv (.t 7), none⟩,
   ⟨(some 62), .mv (.t 8), none⟩,
   ⟨(some 63), .mv (.t 1), none⟩,
   ⟨(some 64), .call (.f F_paddocklaw5_alike) [.t 61, .t 62, .t 63], none⟩,
   ⟨(some 65), .un .not (.t 64), none⟩] [])
 (.cond (.t 65) (.seq (.region (some []) [⟨(some 6), .mv (.c (.d (.b false))), none⟩] [])
  (.ret)) (.skip)))
 (.seq (.region (some [1, 2, 7, 8]) [⟨(some 67), .mv (.t 7), none⟩,
   ⟨(some 68), .mv (.t 2), none⟩,
   ⟨(some 69), .call (.f F_history_History_Map) [.t 67, .t 68], none⟩,
   ⟨(some 66), .mv (.t 69), none⟩,
   ⟨(some 70), .ext (.t 66) 0, none⟩,
   ⟨(some 71), .ext (.t 66) 1, none⟩,
   ⟨(some 11), .box (.c (.d (.agg Pk.Mp.zero.cs))), none⟩,
   ⟨none, .store 16 (.t 11) (.t 70), none⟩,
   ⟨(some 12), .mv (.t 71), none⟩] [])
 (.seq (.region (some [1, 2, 7, 8, 11, 12]) [⟨(some 73), .mv (.t 7), none⟩,
   ⟨(some 74), .mv (.t 2), none⟩,
   ⟨(some 75), .call (.f F_history_History_Inc) [.t 73, .t 74], none⟩,
   ⟨(some 72), .mv (.t 75), none⟩,
   ⟨(some 76), .ext (.t 72) 0, none⟩,
   ⟨(some 77), .ext (.t 72) 1, none⟩,
   ⟨(some 13), .box (.c (.d (.agg [.i .u8 0, .i .u8 0, .i .i64 0]))), none⟩,
   ⟨none, .store 3 (.t 13) (.t 76), none⟩,
   ⟨(some 14), .mv (.t 77), none⟩] [])
 (.seq (.region (some [1, 2, 7, 8, 11, 12, 13, 14]) [⟨(some 78), .mv (.t 2), none⟩,
   ⟨(some 79), .bin .geq (.t 78) (.c (.d (.i .u32 1))), none⟩,
   ⟨(some 80), .mv (.t 79), none⟩,
   ⟨(some 81), .mv (.t 2), some (80, true)⟩,
   ⟨(some 82), .mv (.t 8), some (80, true)⟩,
   ⟨(some 83), .call (.f F_paddockref3_History_Last) [.t 82], some (80, true)⟩,
   ⟨(some 84), .bin .leq (.t 81) (.t 83), some (80, true)⟩,
   ⟨(some 85), .pick (.t 80) (.t 84) (.c (.d (.b false))), none⟩,
   ⟨(some 15), .mv (.t 85), none⟩] [])
 (.seq (.seq (.region (some [1, 2, 7, 8, 11, 12, 13, 14, 15]) [⟨(some 86), .mv (.t 12), none⟩,
   ⟨(some 87), .mv (.t 15), none⟩,
   ⟨(some 88), .eq true (.sb) (.t 86) (.t 87), none⟩,
   ⟨(some 89), .mv (.t 88), none⟩,
   ⟨(some 90), .mv (.t 14), some (89, false)⟩,
   ⟨(some 91), .mv (.t 15), some (89, false)⟩,
   ⟨(some 92), .mv (.t 91), some (89, false)⟩,
   ⟨(some 93), .mv (.t 2), some (92, true)⟩,
   ⟨(some 94), .bin .geq (.t 93) (.c (.d (.i .u32 2))), some (92, true)⟩,
   ⟨(some 95), .pick (.t 92) (.t 94) (.c (.d (.b false))), some (89, false)⟩,
   ⟨(some 96), .eq true (.sb) (.t 90) (.t 95), some (89, false)⟩,
   ⟨(some 97), .pick (.t 89) (.c (.d (.b true))) (.t 96), none⟩,
   ⟨(some 98), .mv (.t 97), none⟩,
   ⟨(some 99), .mv (.t 15), some (98, false)⟩,
   ⟨(some 100), .mv (.t 99), some (98, false)⟩,
   ⟨(some 101), .load true 16 (.t 11), some (100, true)⟩,
   ⟨(some 102), .mv (.t 8), some (100, true)⟩,
   ⟨(some 103), .mv (.t 2), some (100, true)⟩,
   ⟨(some 104), .call (.f F_paddockref3_History_Map) [.t 102, .t 103], some (100, true)⟩,
   ⟨(some 105), .eq true Pk.Mp.ety (.t 101) (.t 104), some (100, true)⟩,
   ⟨(some 106), .pick (.t 100) (.t 105) (.c (.d (.b false))), some (98, false)⟩,
   ⟨(some 107), .pick (.t 98) (.c (.d (.b true))) (.t 106), none⟩,
   ⟨(some 108), .mv (.t 107), none⟩,
   ⟨(some 109), .mv (.t 14), some (108, false)⟩,
   ⟨(some 110), .mv (.t 109), some (108, false)⟩,
   ⟨(some 111), .load true 3 (.t 13), some (110, true)⟩,
   ⟨(some 112), .mv (.t 8), some (110, true)⟩,
   ⟨(some 113), .nilck (.t 112), some (110, true)⟩,
   ⟨(some 114), .faddr 0 (.t 113), some (110, true)⟩,
   ⟨(some 115), .load false 1 (.t 114), some (110, true)⟩,
   ⟨(some 116), .mv (.t 2), some (110, true)⟩,
   ⟨(some 117), .bin .sub (.t 116) (.c (.d (.i .u32 2))), some (110, true)⟩,
   ⟨(some 118), .iaddrS 3 (.t 115) (.t 117), some (110, true)⟩,
   ⟨(some 119), .load true 3 (.t 118), some (110, true)⟩,
   ⟨(some 120), .eq true Pk.Inc.ety (.t 111) (.t 119), some (110, true)⟩,
   ⟨(some 121), .pick (.t 110) (.t 120) (.c (.d (.b false))), some (108, false)⟩,
   ⟨(some 122), .pick (.t 108) (.c (.d (.b true))) (.t 121), none⟩] [(15, 18), (25, 29), (25, 33)])
 (.cond (.t 122) (.seq (.region (some []) [⟨(some 6), .mv (.c (.d (.b false))), none⟩] [])
  (.ret)) (.skip)))
 (.seq (.region (some [1, 7, 8]) [⟨(some 123), .mv (.t 7), none⟩,
   ⟨(some 124), .call (.f F_history_History_Copy) [.t 123], none⟩,
   ⟨(some 16), .mv (.t 124), none⟩] [])
 (.seq (.region (some [1, 7, 8, 16]) [⟨(some 125), .mv (.t 16), none⟩,
   ⟨(some 126), .mv (.t 16), none⟩,
   ⟨(some 127), .call (.f F_history_History_Last) [.t 126], none⟩,
   ⟨(some 128), .bin .add (.t 127) (.c (.d (.i .u32 1))), none⟩,
   ⟨(some 129), .build [.d (.i .u8 0), .d (.i .u8 0), .d (.i .i64 0)] [(0, 1, .c (.d (.i .u8 4)))], none⟩,
   ⟨(some 130), .call (.f F_history_History_Add) [.t 125, .t 128, .t 129], none⟩] [])
 (.seq (.region (some [1, 7, 8]) [⟨(some 131), .mv (.t 7), none⟩,
   ⟨(some 132), .mv (.t 8), none⟩,
   ⟨(some 133), .mv (.t 1), none⟩,
   ⟨(some 134), .call (.f F_paddocklaw5_alike) [.t 131, .t 132, .t 133], none⟩,
   ⟨(some 6), .mv (.t 134), none⟩] [])
 (.ret)))))))))))))
def a_paddocklaw5_HistoryPlays : AFn := .code 3 c_paddocklaw5_HistoryPlays [.tmp 6]
set_option maxRecDepth 100000 in
theorem k_paddocklaw5_HistoryPlays : compF Try.prog h_paddocklaw5_HistoryPlays F_paddocklaw5_HistoryPlays = some a_paddocklaw5_HistoryPlays := by kernel_rfl

/-- paddock/paddocklaw5.known -/
def h_paddocklaw5_known : Hints := { kp := [(0, []), (1, []), (2, [1]), (3, []), (4, [1]), (5, [1, 2]), (6, [1, 2, 3, 4]), (7, [1, 2, 3, 4, 6])], lkp := [], lth := [] }
def c_paddocklaw5_known : ACode :=
 .seq (.region (some []) [⟨(some 0), .mv (.c (.d (.b false))), none⟩] [])
 (.seq (.region (some []) [⟨(some 7), .call (.f F_history_New) [], none⟩,
   ⟨(some 1), .mv (.t 7), none⟩] [])
 (.seq (.seq (.region (some [1]) [⟨(some 8), .mv (.t 1), none⟩,
   ⟨(some 9), .pnil false (.t 8), none⟩,
   ⟨(some 10), .mv (.t 9), none⟩,
   ⟨(some 11), .mv (.t 1), some (10, false)⟩,
   ⟨(some 12), .call (.f F_history_History_Last) [.t 11], some (10, false)⟩,
   ⟨(some 13), .bin .neq (.t 12) (.c (.d (.i .u32 1))), some (10, false)⟩,
   ⟨(some 14), .pick (.t 10) (.c (.d (.b true))) (.t 13), none⟩,
   ⟨(some 15), .mv (.t 14), none⟩,
   ⟨(some 16), .mv (.t 1), some (15, false)⟩,
   ⟨(some 17), .build [.d (.i .u8 0), .d (.i .u8 0), .d (.i .i64 0)] [(0, 1, .c (.d (.i .u8 4)))], some (15, false)⟩,
   ⟨(some 18), .call (.f F_history_History_Add) [.t 16, .c (.d (.i .u32 3)), .t 17], some (15, false)⟩,
   ⟨(some 19), .bin .neq (.t 18) (.c (.d (.i .i64 50))), some (15, false)⟩,
   ⟨(some 20), .pick (.t 15) (.c (.d (.b true))) (.t 19), none⟩,
   ⟨(some 21), .mv (.t 20), none⟩,
   ⟨(some 22), .mv (.t 1), some (21, false)⟩,
   ⟨(some 23), .build [.d (.i .u8 0), .d (.i .u8 0), .d (.i .i64 0)] [(0, 1, .c (.d (.i .u8 4)))], some (21, false)⟩,
   ⟨(some 24), .call (.f F_history_History_Add) [.t 22, .c (.d (.i .u32 1)), .t 23], some (21, false)⟩,
   ⟨(some 25), .bin .neq (.t 24) (.c (.d (.i .i64 51))), some (21, false)⟩,
   ⟨(some 26), .pick (.t 21) (.c (.d (.b true))) (.t 25), none⟩,
   ⟨(some 27), .mv (.t 26), none⟩,
   ⟨(some 28), .mv (.t 1), some (27, false)⟩,
   ⟨(some 29), .build [.d (.i .u8 0), .d (.i .u8 0), .d (.i .i64 0)] [(0, 1, .c (.d (.i .u8 4)))], some (27, false)⟩,
   ⟨(some 30), .call (.f F_history_History_Add) [.t 28, .c (.d (.i .u32 2)), .t 29], some (27, false)⟩,
   ⟨(some 31), .bin .neq (.t 30) (.c (.d (.i .i64 0))), some (27, false)⟩,
   ⟨(some 32), .pick (.t 27) (.c (.d (.b true))) (.t 31), none⟩] [])
 (.cond (.t 32) (.seq (.region (some []) [⟨(some 0), .mv (.c (.d (.b false))), none⟩] [])
  (.ret)) (.skip)))
 (.seq (.region (some [1]) [⟨(some 33), .mv (.t 1), none⟩,
   ⟨(some 34), .call (.f F_history_History_Intervals) [.t 33, .c (.d (.i .u8 0))], none⟩,
   ⟨(some 2), .mv (.t 34), none⟩] [])
 (.seq (.region (some [1, 2]) [⟨(some 36), .mv (.t 1), none⟩,
   ⟨(some 37), .call (.f F_history_History_Map) [.t 36, .c (.d (.i .u32 2))], none⟩,
   ⟨(some 35), .mv (.t 37), none⟩,
   ⟨(some 38), .ext (.t 35) 0, none⟩,
   ⟨(some 39), .ext (.t 35) 1, none⟩,
   ⟨(some 3), .box (.c (.d (.agg Pk.Mp.zero.cs))), none⟩,
   ⟨none, .store 16 (.t 3) (.t 38), none⟩,
   ⟨(some 4), .mv (.t 39), none⟩] [])
 (.seq (.region (some [1, 2, 3, 4]) [⟨(some 41), .mv (.t 1), none⟩,
   ⟨(some 42), .call (.f F_history_History_Map) [.t 41, .c (.d (.i .u32 3))], none⟩,
   ⟨(some 40), .mv (.t 42), none⟩,
   ⟨(some 43), .ext (.t 40) 0, none⟩,
   ⟨(some 44), .ext (.t 40) 1, none⟩,
   ⟨(some 5), .box (.c (.d (.agg Pk.Mp.zero.cs))), none⟩,
   ⟨none, .store 16 (.t 5) (.t 43), none⟩,
   ⟨(some 6), .mv (.t 44), none⟩] [])
 (.seq (.region (some [1, 2, 3, 4, 6]) [⟨(some 45), .mv (.t 2), none⟩,
   ⟨(some 46), .len false (.t 45), none⟩,
   ⟨(some 47), .bin .eql (.t 46) (.c (.d (.i .i64 1))), none⟩,
   ⟨(some 48), .mv (.t 47), none⟩,
   ⟨(some 49), .mv (.t 2), some (48, true)⟩,
   ⟨(some 50), .iaddrS 2 (.t 49) (.c (.d (.i .i64 0))), some (48, true)⟩,
   ⟨(some 51), .faddr 0 (.t 50), some (48, true)⟩,
   ⟨(some 52), .load false 1 (.t 51), some (48, true)⟩,
   ⟨(some 53), .bin .eql (.t 52) (.c (.d (.i .u32 1))), some (48, true)⟩,
   ⟨(some 54), .pick (.t 48) (.t 53) (.c (.d (.b false))), none⟩,
   ⟨(some 55), .mv (.t 54), none⟩,
   ⟨(some 56), .mv (.t 1), some (55, true)⟩,
   ⟨(some 57), .call (.f F_history_History_Since) [.t 56, .c (.d (.i .u8 0))], some (55, true)⟩,
   ⟨(some 58), .bin .eql (.t 57) (.c (.d (.i .u32 1))), some (55, true)⟩,
   ⟨(some 59), .pick (.t 55) (.t 58) (.c (.d (.b false))), none⟩,
   ⟨(some 60), .mv (.t 59), none⟩,
   ⟨(some 61), .mv (.t 4), some (60, true)⟩,
   ⟨(some 62), .pick (.t 60) (.t 61) (.c (.d (.b false))), none⟩,
   ⟨(some 63), .mv (.t 62), none⟩,
   ⟨(some 64), .faddr 0 (.t 3), some (63, true)⟩,
   ⟨(some 65), .load false 1 (.t 64), some (63, true)⟩,
   ⟨(some 66), .bin .eql (.t 65) (.c (.d (.i .u32 2))), some (63, true)⟩,
   ⟨(some 67), .pick (.t 63) (.t 66) (.c (.d (.b false))), none⟩,
   ⟨(some 68), .mv (.t 67), none⟩,
   ⟨(some 69), .mv (.t 6), some (68, true)⟩,
   ⟨(some 70), .un .not (.t 69), some (68, true)⟩,
   ⟨(some 71), .pick (.t 68) (.t 70) (.c (.d (.b false))), none⟩,
   ⟨(some 72), .mv (.t 71), none⟩,
   ⟨(some 73), .mv (.t 1), some (72, true)⟩,
   ⟨(some 74), .call (.f F_history_History_Since) [.t 73, .c (.d (.i .u8 4))], some (72, true)⟩,
   ⟨(some 75), .bin .eql (.t 74) (.c (.d (.i .u32 0))), some (72, true)⟩,
   ⟨(some 76), .pick (.t 72) (.t 75) (.c (.d (.b false))), none⟩,
   ⟨(some 0), .mv (.t 76), none⟩] [])
 (.ret)))))))
def a_paddocklaw5_known : AFn := .code 0 c_paddocklaw5_known [.tmp 0]
set_option maxRecDepth 100000 in
theorem k_paddocklaw5_known : compF Try.prog h_paddocklaw5_known F_paddocklaw5_known = some a_paddocklaw5_known := by kernel_rfl

/-- paddock/history.New -/
def h_history_New : Hints := { kp := [(0, []), (1, []), (2, [1]), (3, [1])], lkp := [], lth := [] }
def c_history_New : ACode :=
 .seq (.region (some []) [⟨(some 0), .mv (.c (.one)), none⟩] [])
 (.seq (.region (some []) [⟨(some 2), .mkmap .u32, none⟩,
   ⟨(some 3), .mkmap .u32, none⟩,
   ⟨(some 4), .build [.one, .one, .d (.i .u32 0), .nilS, .nilS, .nilS, .nilS] [(0, 1, .t 2), (1, 1, .t 3)], none⟩,
   ⟨(some 5), .box (.t 4), none⟩,
   ⟨(some 1), .mv (.t 5), none⟩] [])
 (.seq (.region (some [1]) [⟨(some 6), .mv (.t 1), none⟩,
   ⟨(some 7), .call (.f F_maps_First) [], none⟩,
   ⟨(some 8), .call (.f F_history_History_lays) [.t 6, .t 7], none⟩] [])
 (.seq (.region (some [1]) [⟨(some 9), .mv (.t 1), none⟩,
   ⟨(some 0), .mv (.t 9), none⟩] [])
 (.ret))))
def a_history_New : AFn := .code 0 c_history_New [.tmp 0]
set_option maxRecDepth 100000 in
theorem k_history_New : compF Try.prog h_history_New F_history_New = some a_history_New := by kernel_rfl

/-- (*paddock/history.History).Add -/
def h_history_History_Add : Hints := { kp := [(0, [0, 1, 2]), (1, [0, 1, 5]), (3, [0, 1, 5]), (4, []), (2, []), (5, [0, 1, 5]), (6, [0, 1, 5, 7, 8]), (7, [8]), (8, [0, 1, 5, 7]), (9, [0, 7]), (10, [])], lkp := [], lth := [] }
def c_history_History_Add : ACode :=
 .seq (.region (some [0, 1, 2]) [⟨(some 5), .box (.t 2), none⟩,
   ⟨(some 6), .mv (.c (.d (.i .i64 0))), none⟩] [])
 (.seq (.block 0 (.seq (.region (some [0, 1, 5]) [⟨(some 10), .mv (.t 1), none⟩,
    ⟨(some 11), .mv (.t 0), none⟩,
    ⟨(some 12), .nilck (.t 11), none⟩,
    ⟨(some 13), .faddr 2 (.t 12), none⟩,
    ⟨(some 14), .load false 1 (.t 13), none⟩,
    ⟨(some 15), .bin .leq (.t 10) (.t 14), none⟩,
    ⟨(some 9), .mv (.t 15), none⟩] [])
  (.cond (.t 9) (.seq (.region (some []) [⟨(some 6), .mv (.c (.d (.i .i64 51))), none⟩] [])
   (.ret)) (.seq (.region (some [0, 1, 5]) [⟨(some 17), .mv (.t 1), none⟩,
     ⟨(some 18), .mv (.t 0), none⟩,
     ⟨(some 19), .nilck (.t 18), none⟩,
     ⟨(some 20), .faddr 2 (.t 19), none⟩,
     ⟨(some 21), .load false 1 (.t 20), none⟩,
     ⟨(some 22), .bin .sub (.t 17) (.t 21), none⟩,
     ⟨(some 23), .bin .gtr (.t 22) (.c (.d (.i .u32 1))), none⟩,
     ⟨(some 16), .mv (.t 23), none⟩] [])
   (.cond (.t 16) (.seq (.region (some []) [⟨(some 6), .mv (.c (.d (.i .i64 50))), none⟩] [])
    (.ret)) (.skip))))))
 (.seq (.region (some [0, 1, 5]) [⟨(some 25), .mv (.t 0), none⟩,
   ⟨(some 26), .nilck (.t 25), none⟩,
   ⟨(some 27), .faddr 0 (.t 26), none⟩,
   ⟨(some 28), .load false 1 (.t 27), none⟩,
   ⟨(some 29), .mv (.t 0), none⟩,
   ⟨(some 30), .nilck (.t 29), none⟩,
   ⟨(some 31), .faddr 2 (.t 30), none⟩,
   ⟨(some 32), .load false 1 (.t 31), none⟩,
   ⟨(some 33), .mget .u32 (.agg Pk.Mp.zero.cs) false (.t 28) (.t 32), none⟩,
   ⟨(some 34), .load true 3 (.t 5), none⟩,
   ⟨(some 35), .call (.f F_maps_Apply) [.t 33, .t 34], none⟩,
   ⟨(some 24), .mv (.t 35), none⟩,
   ⟨(some 36), .ext (.t 24) 0, none⟩,
   ⟨(some 37), .ext (.t 24) 1, none⟩,
   ⟨(some 7), .box (.c (.d (.agg Pk.Mp.zero.cs))), none⟩,
   ⟨none, .store 16 (.t 7) (.t 36), none⟩,
   ⟨(some 8), .mv (.t 37), none⟩] [(3, 7), (3, 9), (7, 9), (8, 9), (3, 14), (7, 14), (8, 14), (9, 14), (10, 14)])
 (.seq (.seq (.region (some [0, 1, 5, 7, 8]) [⟨(some 38), .mv (.t 8), none⟩,
   ⟨(some 39), .bin .neq (.t 38) (.c (.d (.i .i64 0))), none⟩] [])
 (.cond (.t 39) (.seq (.region (some [8]) [⟨(some 40), .mv (.t 8), none⟩,
    ⟨(some 6), .mv (.t 40), none⟩] [])
  (.ret)) (.skip)))
 (.seq (.region (some [0, 1, 5, 7]) [⟨(some 41), .mv (.t 0), none⟩,
   ⟨(some 42), .nilck (.t 41), none⟩,
   ⟨(some 43), .faddr 1 (.t 42), none⟩,
   ⟨(some 44), .load false 1 (.t 43), none⟩,
   ⟨(some 45), .mv (.t 1), none⟩,
   ⟨(some 46), .load true 3 (.t 5), none⟩,
   ⟨none, .mset .u32 (.t 44) (.t 45) (.t 46), none⟩] [(3, 5)])
 (.seq (.region (some [0, 7]) [⟨(some 47), .mv (.t 0), none⟩,
   ⟨(some 48), .load true 16 (.t 7), none⟩,
   ⟨(some 49), .call (.f F_history_History_lays) [.t 47, .t 48], none⟩] [])
 (.seq (.region (some []) [⟨(some 6), .mv (.c (.d (.i .i64 0))), none⟩] [])
 (.ret)))))))
def a_history_History_Add : AFn := .code 3 c_history_History_Add [.tmp 6]
set_option maxRecDepth 100000 in
theorem k_history_History_Add : compF Try.prog h_history_History_Add F_history_History_Add = some a_history_History_Add := by kernel_rfl

/-- (*paddock/history.History).Last -/
def h_history_History_Last : Hints := { kp := [(0, [0]), (1, [0])], lkp := [], lth := [] }
def c_history_History_Last : ACode :=
 .seq (.region (some [0]) [⟨(some 2), .mv (.c (.d (.i .u32 0))), none⟩] [])
 (.seq (.region (some [0]) [⟨(some 3), .mv (.t 0), none⟩,
   ⟨(some 4), .nilck (.t 3), none⟩,
   ⟨(some 5), .faddr 2 (.t 4), none⟩,
   ⟨(some 6), .load false 1 (.t 5), none⟩,
   ⟨(some 2), .mv (.t 6), none⟩] [])
 (.ret))
def a_history_History_Last : AFn := .code 1 c_history_History_Last [.tmp 2]
set_option maxRecDepth 100000 in
theorem k_history_History_Last : compF Try.prog h_history_History_Last F_history_History_Last = some a_history_History_Last := by kernel_rfl

/-- (*paddock/history.History).Intervals -/
def h_history_History_Intervals : Hints := { dat := true, kp := [(0, [0, 1]), (1, [0, 1]), (2, []), (3, [0, 1]), (4, [5]), (5, [5, 17, 18, 19]), (6, [5, 17, 18, 19]), (7, [5, 6, 7, 17, 18, 19]), (8, [5, 17, 18, 19]), (9, [5])], lkp := [(5, [5, 17, 18, 19])], lth := [] }
def K_history_History_Intervals_0 : Option (List Nat) := (some [5, 17, 18, 19])
def l_history_History_Intervals_0 : ACode :=
 .seq (.region (some [5, 17, 18, 19]) [⟨(some 20), .bin .lss (.t 19) (.t 18), none⟩] [])
 (.seq (.cond (.t 20) (.skip) (.exit 0))
 (.seq (.block 1 (.seq (.region (some [5, 17, 18, 19]) [⟨(some 21), .mv (.t 19), none⟩,
    ⟨(some 22), .iaddrS 2 (.t 17) (.t 19), none⟩,
    ⟨(some 23), .load true 2 (.t 22), none⟩,
    ⟨(some 7), .box (.c (.agg Pk.Itv.zeroA)), none⟩,
    ⟨(some 6), .mv (.t 21), none⟩,
    ⟨none, .store 2 (.t 7) (.t 23), none⟩] [])
  (.region (some [5, 6, 7, 17, 18, 19]) [⟨(some 24), .mv (.t 5), none⟩,
    ⟨(some 25), .mv (.t 6), none⟩,
    ⟨(some 26), .faddr 1 (.t 7), none⟩,
    ⟨(some 27), .load false 1 (.t 26), none⟩,
    ⟨(some 28), .call (.f F_slices_Clone_sint_int) [.t 27], none⟩,
    ⟨(some 29), .iaddrS 2 (.t 24) (.t 25), none⟩,
    ⟨(some 30), .faddr 1 (.t 29), none⟩,
    ⟨none, .store 1 (.t 30) (.t 28), none⟩] [])))
 (.region (some [5, 17, 18, 19]) [⟨(some 31), .bin .add (.t 19) (.c (.d (.i .i64 1))), none⟩,
   ⟨(some 19), .mv (.t 31), none⟩] [])))
def c_history_History_Intervals : ACode :=
 .seq (.region (some [0, 1]) [⟨(some 4), .mv (.c (.nilS)), none⟩] [])
 (.seq (.seq (.region (some [0, 1]) [⟨(some 8), .mv (.t 1), none⟩,
   ⟨(some 9), .bin .geq (.t 8) (.c (.d (.i .u8 4))), none⟩] [])
 (.cond (.t 9) (.seq (.region (some []) [⟨(some 4), .mv (.c (.nilS)), none⟩] [])
  (.ret)) (.skip)))
 (.seq (.region (some [0, 1]) [⟨(some 10), .mv (.t 0), none⟩,
   ⟨(some 11), .mv (.t 1), none⟩,
   ⟨(some 12), .nilck (.t 10), none⟩,
   ⟨(some 13), .faddr 3 (.t 12), none⟩,
   ⟨(some 14), .iaddrA 4 1 (.t 13) (.t 11), none⟩,
   ⟨(some 15), .load false 1 (.t 14), none⟩,
   ⟨(some 16), .call (.f F_slices_Clone_sapi_Interval_api_Interval) [.t 15], none⟩,
   ⟨(some 5), .mv (.t 16), none⟩] [])
 (.seq (.seq (.region (some [5]) [⟨(some 17), .mv (.t 5), none⟩,
   ⟨(some 18), .len false (.t 17), none⟩,
   ⟨(some 19), .mv (.c (.d (.i .i64 0))), none⟩] [])
 (.block 0 (.loop K_history_History_Intervals_0 [] l_history_History_Intervals_0)))
 (.seq (.region (some [5]) [⟨(some 32), .mv (.t 5), none⟩,
   ⟨(some 4), .mv (.t 32), none⟩] [])
 (.ret)))))
def a_history_History_Intervals : AFn := .code 2 c_history_History_Intervals [.dat (.tmp 4)]
set_option maxRecDepth 100000 in
theorem k_history_History_Intervals : compF Try.prog h_history_History_Intervals F_history_History_Intervals = some a_history_History_Intervals := by kernel_rfl

/-- (*paddock/history.History).Map -/
def h_history_History_Map : Hints := { kp := [(0, [0, 1]), (1, [0, 1, 4]), (2, [4, 6, 7])], lkp := [], lth := [] }
def c_history_History_Map : ACode :=
 .seq (.region (some [0, 1]) [⟨(some 4), .box (.c (.d (.agg Pk.Mp.zero.cs))), none⟩,
   ⟨(some 5), .mv (.c (.d (.b false))), none⟩] [])
 (.seq (.region (some [0, 1, 4]) [⟨(some 9), .mv (.t 0), none⟩,
   ⟨(some 10), .nilck (.t 9), none⟩,
   ⟨(some 11), .faddr 0 (.t 10), none⟩,
   ⟨(some 12), .load false 1 (.t 11), none⟩,
   ⟨(some 13), .mv (.t 1), none⟩,
   ⟨(some 14), .mget .u32 (.agg Pk.Mp.zero.cs) true (.t 12) (.t 13), none⟩,
   ⟨(some 8), .mv (.t 14), none⟩,
   ⟨(some 15), .ext (.t 8) 0, none⟩,
   ⟨(some 16), .ext (.t 8) 1, none⟩,
   ⟨(some 6), .box (.c (.d (.agg Pk.Mp.zero.cs))), none⟩,
   ⟨none, .store 16 (.t 6) (.t 15), none⟩,
   ⟨(some 7), .mv (.t 16), none⟩] [])
 (.seq (.region (some [4, 6, 7]) [⟨(some 17), .load true 16 (.t 6), none⟩,
   ⟨(some 18), .mv (.t 7), none⟩,
   ⟨none, .store 16 (.t 4) (.t 17), none⟩,
   ⟨(some 5), .mv (.t 18), none⟩] [])
 (.ret)))
def a_history_History_Map : AFn := .code 2 c_history_History_Map [.cell true 16 4, .tmp 5]
set_option maxRecDepth 100000 in
theorem k_history_History_Map : compF Try.prog h_history_History_Map F_history_History_Map = some a_history_History_Map := by kernel_rfl

/-- paddock/paddocklaw5.ints -/
def h_paddocklaw5_ints : Hints := { kp := [(0, [0, 1]), (1, [0, 1]), (2, []), (3, [0, 1]), (4, [0, 1, 5]), (6, [0, 1, 5]), (7, []), (5, [0, 1, 5]), (8, [])], lkp := [(4, [0, 1, 5])], lth := [] }
def K_paddocklaw5_ints_0 : Option (List Nat) := (some [0, 1, 5])
def l_paddocklaw5_ints_0 : ACode :=
 .seq (.seq (.region (some [0, 1, 5]) [⟨(some 11), .mv (.t 5), none⟩,
   ⟨(some 12), .mv (.t 0), none⟩,
   ⟨(some 13), .len false (.t 12), none⟩,
   ⟨(some 14), .bin .lss (.t 11) (.t 13), none⟩] [])
 (.cond (.t 14) (.skip) (.exit 0)))
 (.seq (.block 1 (.seq (.region (some [0, 1, 5]) [⟨(some 17), .mv (.t 0), none⟩,
    ⟨(some 18), .mv (.t 5), none⟩,
    ⟨(some 19), .iaddrS 1 (.t 17) (.t 18), none⟩,
    ⟨(some 20), .load false 1 (.t 19), none⟩,
    ⟨(some 21), .mv (.t 1), none⟩,
    ⟨(some 22), .mv (.t 5), none⟩,
    ⟨(some 23), .iaddrS 1 (.t 21) (.t 22), none⟩,
    ⟨(some 24), .load false 1 (.t 23), none⟩,
    ⟨(some 25), .bin .neq (.t 20) (.t 24), none⟩] [(3, 7)])
  (.cond (.t 25) (.seq (.region (some []) [⟨(some 4), .mv (.c (.d (.b false))), none⟩] [])
   (.ret)) (.skip))))
 (.region (some [0, 1, 5]) [⟨(some 15), .mv (.t 5), none⟩,
   ⟨(some 16), .bin .add (.t 15) (.c (.d (.i .i64 1))), none⟩,
   ⟨(some 5), .mv (.t 16), none⟩] []))
def c_paddocklaw5_ints : ACode :=
 .seq (.region (some [0, 1]) [⟨(some 4), .mv (.c (.d (.b false))), none⟩] [])
 (.seq (.seq (.region (some [0, 1]) [⟨(some 6), .mv (.t 0), none⟩,
   ⟨(some 7), .len false (.t 6), none⟩,
   ⟨(some 8), .mv (.t 1), none⟩,
   ⟨(some 9), .len false (.t 8), none⟩,
   ⟨(some 10), .bin .neq (.t 7) (.t 9), none⟩] [])
 (.cond (.t 10) (.seq (.region (some []) [⟨(some 4), .mv (.c (.d (.b false))), none⟩] [])
  (.ret)) (.skip)))
 (.seq (.seq (.region (some [0, 1]) [⟨(some 5), .mv (.c (.d (.i .i64 0))), none⟩] [])
 (.block 0 (.loop K_paddocklaw5_ints_0 [] l_paddocklaw5_ints_0)))
 (.seq (.region (some []) [⟨(some 4), .mv (.c (.d (.b true))), none⟩] [])
 (.ret))))
def a_paddocklaw5_ints : AFn := .code 2 c_paddocklaw5_ints [.tmp 4]
set_option maxRecDepth 100000 in
theorem k_paddocklaw5_ints : compF Try.prog h_paddocklaw5_ints F_paddocklaw5_ints = some a_paddocklaw5_ints := by kernel_rfl

/-- paddock/place.Acting -/
def h_place_Acting : Hints := { dat := true, kp := [(0, [0, 1]), (1, [1, 2])], lkp := [], lth := [] }
def c_place_Acting : ACode :=
 .seq (.region (some [0, 1]) [⟨(some 2), .box (.t 0), none⟩,
   ⟨(some 4), .mv (.c (.nilS)), none⟩] [])
 (.seq (.region (some [1, 2]) [⟨(some 5), .load true 16 (.t 2), none⟩,
   ⟨(some 6), .mv (.t 1), none⟩,
   ⟨(some 7), .call (.f F_place_Pick) [.t 5, .t 6], none⟩,
   ⟨(some 8), .mkfn F_place_Acting_1 [] [.t 2], none⟩,
   ⟨(some 9), .call (.f F_slices_DeleteFunc_sint_int) [.t 7, .t 8], none⟩,
   ⟨(some 4), .mv (.t 9), none⟩] [])
 (.ret))
def a_place_Acting : AFn := .code 2 c_place_Acting [.dat (.tmp 4)]
set_option maxRecDepth 100000 in
theorem k_place_Acting : compF Try.prog h_place_Acting F_place_Acting = some a_place_Acting := by kernel_rfl

/-- (*paddock/history.History).Since -/
def h_history_History_Since : Hints := { kp := [(0, [0, 1]), (1, [0, 1])], lkp := [], lth := [] }
def c_history_History_Since : ACode :=
 .seq (.region (some [0, 1]) [⟨(some 4), .mv (.c (.d (.i .u32 0))), none⟩] [])
 (.seq (.region (some [0, 1]) [⟨(some 5), .mv (.t 0), none⟩,
   ⟨(some 6), .mv (.t 1), none⟩,
   ⟨(some 7), .call (.f F_history_History_interval) [.t 5, .t 6], none⟩,
   ⟨(some 8), .field false 0 1 (.t 7), none⟩,
   ⟨(some 4), .mv (.t 8), none⟩] [])
 (.ret))
def a_history_History_Since : AFn := .code 2 c_history_History_Since [.tmp 4]
set_option maxRecDepth 100000 in
theorem k_history_History_Since : compF Try.prog h_history_History_Since F_history_History_Since = some a_history_History_Since := by kernel_rfl

/-- paddock/maps.IsInc -/
def h_maps_IsInc : Hints := { kp := [(0, [0]), (1, [1]), (2, [1, 4]), (3, [1, 4]), (5, [1, 4]), (6, [1]), (4, [1]), (7, [1])], lkp := [], lth := [] }
def c_maps_IsInc : ACode :=
 .seq (.region (some [0]) [⟨(some 1), .box (.t 0), none⟩,
   ⟨(some 2), .mv (.c (.d (.b false))), none⟩] [])
 (.seq (.seq (.region (some [1]) [⟨(some 3), .faddr 0 (.t 1), none⟩,
   ⟨(some 4), .load false 1 (.t 3), none⟩] [])
 (.block 0 (.seq (.seq (.region (some [1, 4]) [⟨(some 6), .bin .eql (.t 4) (.c (.d (.i .u8 1))), none⟩,
    ⟨(some 5), .mv (.t 6), none⟩] [])
  (.cond (.t 5) (.skip) (.region (some [1, 4]) [⟨(some 7), .bin .eql (.t 4) (.c (.d (.i .u8 2))), none⟩,
     ⟨(some 5), .mv (.t 7), none⟩] [])))
  (.cond (.t 5) (.seq (.region (some [1]) [⟨(some 8), .faddr 1 (.t 1), none⟩,
     ⟨(some 9), .load false 1 (.t 8), none⟩,
     ⟨(some 10), .bin .lss (.t 9) (.c (.d (.i .u8 5))), none⟩,
     ⟨(some 11), .mv (.t 10), none⟩,
     ⟨(some 12), .load true 3 (.t 1), some (11, true)⟩,
     ⟨(some 13), .faddr 0 (.t 1), some (11, true)⟩,
     ⟨(some 14), .load false 1 (.t 13), some (11, true)⟩,
     ⟨(some 15), .faddr 1 (.t 1), some (11, true)⟩,
     ⟨(some 16), .load false 1 (.t 15), some (11, true)⟩,
     ⟨(some 17), .build [.d (.i .u8 0), .d (.i .u8 0), .d (.i .i64 0)] [(0, 1, .t 14), (1, 1, .t 16)], some (11, true)⟩,
     ⟨(some 18), .eq false Pk.Inc.ety (.t 12) (.t 17), some (11, true)⟩,
     ⟨(some 19), .pick (.t 11) (.t 18) (.c (.d (.b false))), none⟩,
     ⟨(some 2), .mv (.t 19), none⟩] [])
   (.ret)) (.seq (.region (some [1, 4]) [⟨(some 21), .bin .eql (.t 4) (.c (.d (.i .u8 3))), none⟩,
     ⟨(some 20), .mv (.t 21), none⟩] [])
   (.cond (.t 20) (.seq (.region (some [1]) [⟨(some 22), .faddr 1 (.t 1), none⟩,
      ⟨(some 23), .load false 1 (.t 22), none⟩,
      ⟨(some 24), .bin .lss (.t 23) (.c (.d (.i .u8 5))), none⟩,
      ⟨(some 25), .mv (.t 24), none⟩,
      ⟨(some 26), .faddr 2 (.t 1), some (25, true)⟩,
      ⟨(some 27), .load false 1 (.t 26), some (25, true)⟩,
      ⟨(some 28), .bin .geq (.t 27) (.c (.d (.i .i64 0))), some (25, true)⟩,
      ⟨(some 29), .pick (.t 25) (.t 28) (.c (.d (.b false))), none⟩,
      ⟨(some 30), .mv (.t 29), none⟩,
      ⟨(some 31), .faddr 2 (.t 1), some (30, true)⟩,
      ⟨(some 32), .load false 1 (.t 31), some (30, true)⟩,
      ⟨(some 33), .bin .leq (.t 32) (.c (.d (.i .i64 16))), some (30, true)⟩,
      ⟨(some 34), .pick (.t 30) (.t 33) (.c (.d (.b false))), none⟩,
      ⟨(some 2), .mv (.t 34), none⟩] [])
    (.ret)) (.skip)))))))
 (.seq (.region (some [1]) [⟨(some 35), .load true 3 (.t 1), none⟩,
   ⟨(some 36), .build [.d (.i .u8 0), .d (.i .u8 0), .d (.i .i64 0)] [(0, 1, .c (.d (.i .u8 4)))], none⟩,
   ⟨(some 37), .eq false Pk.Inc.ety (.t 35) (.t 36), none⟩,
   ⟨(some 2), .mv (.t 37), none⟩] [])
 (.ret)))
def a_maps_IsInc : AFn := .code 1 c_maps_IsInc [.tmp 2]
set_option maxRecDepth 100000 in
theorem k_maps_IsInc : compF Try.prog h_maps_IsInc F_maps_IsInc = some a_maps_IsInc := by kernel_rfl

/-- (*paddock/history.History).Acting -/
def h_history_History_Acting : Hints := { dat := true, kp := [(0, [0, 1]), (1, [0, 1])], lkp := [], lth := [] }
def c_history_History_Acting : ACode :=
 .seq (.region (some [0, 1]) [⟨(some 4), .mv (.c (.nilS)), none⟩] [])
 (.seq (.region (some [0, 1]) [⟨(some 5), .mv (.t 0), none⟩,
   ⟨(some 6), .mv (.t 1), none⟩,
   ⟨(some 7), .call (.f F_history_History_interval) [.t 5, .t 6], none⟩,
   ⟨(some 8), .field false 1 1 (.t 7), none⟩,
   ⟨(some 9), .call (.f F_slices_Clone_sint_int) [.t 8], none⟩,
   ⟨(some 4), .mv (.t 9), none⟩] [])
 (.ret))
def a_history_History_Acting : AFn := .code 2 c_history_History_Acting [.dat (.tmp 4)]
set_option maxRecDepth 100000 in
theorem k_history_History_Acting : compF Try.prog h_history_History_Acting F_history_History_Acting = some a_history_History_Acting := by kernel_rfl

/-- paddock/maps.Fold -/
def h_maps_Fold : Hints := { kp := [(0, [0]), (1, [0, 2]), (2, [0, 2, 4]), (3, [2, 4, 10, 11, 12]), (4, [2, 4, 10, 11, 12]), (5, [2, 4, 6, 10, 11, 12]), (6, [2, 4, 7, 8, 10, 11, 12]), (7, [2, 8]), (8, [2, 4, 7, 10, 11, 12]), (9, [2, 4, 10, 11, 12]), (10, [2, 4])], lkp := [(3, [2, 4, 10, 11, 12])], lth := [] }
def K_maps_Fold_0 : Option (List Nat) := (some [2, 4, 10, 11, 12])
def l_maps_Fold_0 : ACode :=
 .seq (.region (some [2, 4, 10, 11, 12]) [⟨(some 13), .bin .lss (.t 12) (.t 11), none⟩] [])
 (.seq (.cond (.t 13) (.skip) (.exit 0))
 (.seq (.block 1 (.seq (.region (some [2, 4, 10, 11, 12]) [⟨(some 14), .iaddrS 3 (.t 10) (.t 12), none⟩,
    ⟨(some 15), .load true 3 (.t 14), none⟩,
    ⟨(some 6), .box (.c (.d (.agg [.i .u8 0, .i .u8 0, .i .i64 0]))), none⟩,
    ⟨none, .store 3 (.t 6) (.t 15), none⟩] [])
  (.seq (.region (some [2, 4, 6, 10, 11, 12]) [⟨(some 17), .load true 16 (.t 4), none⟩,
    ⟨(some 18), .load true 3 (.t 6), none⟩,
    ⟨(some 19), .call (.f F_maps_Apply) [.t 17, .t 18], none⟩,
    ⟨(some 16), .mv (.t 19), none⟩,
    ⟨(some 20), .ext (.t 16) 0, none⟩,
    ⟨(some 21), .ext (.t 16) 1, none⟩,
    ⟨(some 7), .box (.c (.d (.agg Pk.Mp.zero.cs))), none⟩,
    ⟨none, .store 16 (.t 7) (.t 20), none⟩,
    ⟨(some 8), .mv (.t 21), none⟩] [])
  (.seq (.seq (.region (some [2, 4, 7, 8, 10, 11, 12]) [⟨(some 22), .mv (.t 8), none⟩,
    ⟨(some 23), .bin .neq (.t 22) (.c (.d (.i .i64 0))), none⟩] [])
  (.cond (.t 23) (.seq (.region (some [2, 8]) [⟨(some 24), .build (List.map .d Pk.Mp.zero.cs) [], none⟩,
     ⟨(some 25), .mv (.t 8), none⟩,
     ⟨none, .store 16 (.t 2) (.t 24), none⟩,
     ⟨(some 3), .mv (.t 25), none⟩] [])
   (.ret)) (.skip)))
  (.region (some [2, 4, 7, 10, 11, 12]) [⟨(some 26), .load true 16 (.t 7), none⟩,
    ⟨none, .store 16 (.t 4) (.t 26), none⟩] [])))))
 (.region (some [2, 4, 10, 11, 12]) [⟨(some 27), .bin .add (.t 12) (.c (.d (.i .i64 1))), none⟩,
   ⟨(some 12), .mv (.t 27), none⟩] [])))
def c_maps_Fold : ACode :=
 .seq (.region (some [0]) [⟨(some 2), .box (.c (.d (.agg Pk.Mp.zero.cs))), none⟩,
   ⟨(some 3), .mv (.c (.d (.i .i64 0))), none⟩] [])
 (.seq (.region (some [0, 2]) [⟨(some 9), .call (.f F_maps_First) [], none⟩,
   ⟨(some 4), .box (.c (.d (.agg Pk.Mp.zero.cs))), none⟩,
   ⟨none, .store 16 (.t 4) (.t 9), none⟩] [])
 (.seq (.seq (.region (some [0, 2, 4]) [⟨(some 10), .mv (.t 0), none⟩,
   ⟨(some 11), .len false (.t 10), none⟩,
   ⟨(some 12), .mv (.c (.d (.i .i64 0))), none⟩] [])
 (.block 0 (.loop K_maps_Fold_0 [] l_maps_Fold_0)))
 (.seq (.region (some [2, 4]) [⟨(some 28), .load true 16 (.t 4), none⟩,
   ⟨none, .store 16 (.t 2) (.t 28), none⟩,
   ⟨(some 3), .mv (.c (.d (.i .i64 0))), none⟩] [])
 (.ret))))
def a_maps_Fold : AFn := .code 1 c_maps_Fold [.cell true 16 2, .tmp 3]
set_option maxRecDepth 100000 in
theorem k_maps_Fold : compF Try.prog h_maps_Fold F_maps_Fold = some a_maps_Fold := by kernel_rfl

/-- (*paddock/history.History).Inc -/
def h_history_History_Inc : Hints := { kp := [(0, [0, 1]), (1, [0, 1, 4]), (2, [4, 6, 7])], lkp := [], lth := [] }
def c_history_History_Inc : ACode :=
 .seq (.region (some [0, 1]) [⟨(some 4), .box (.c (.d (.agg [.i .u8 0, .i .u8 0, .i .i64 0]))), none⟩,
   ⟨(some 5), .mv (.c (.d (.b false))), none⟩] [])
 (.seq (.region (some [0, 1, 4]) [⟨(some 9), .mv (.t 0), none⟩,
   ⟨(some 10), .nilck (.t 9), none⟩,
   ⟨(some 11), .faddr 1 (.t 10), none⟩,
   ⟨(some 12), .load false 1 (.t 11), none⟩,
   ⟨(some 13), .mv (.t 1), none⟩,
   ⟨(some 14), .mget .u32 (.agg [.i .u8 0, .i .u8 0, .i .i64 0]) true (.t 12) (.t 13), none⟩,
   ⟨(some 8), .mv (.t 14), none⟩,
   ⟨(some 15), .ext (.t 8) 0, none⟩,
   ⟨(some 16), .ext (.t 8) 1, none⟩,
   ⟨(some 6), .box (.c (.d (.agg [.i .u8 0, .i .u8 0, .i .i64 0]))), none⟩,
   ⟨none, .store 3 (.t 6) (.t 15), none⟩,
   ⟨(some 7), .mv (.t 16), none⟩] [])
 (.seq (.region (some [4, 6, 7]) [⟨(some 17), .load true 3 (.t 6), none⟩,
   ⟨(some 18), .mv (.t 7), none⟩,
   ⟨none, .store 3 (.t 4) (.t 17), none⟩,
   ⟨(some 5), .mv (.t 18), none⟩] [])
 (.ret)))
def a_history_History_Inc : AFn := .code 2 c_history_History_Inc [.cell true 3 4, .tmp 5]
set_option maxRecDepth 100000 in
theorem k_history_History_Inc : compF Try.prog h_history_History_Inc F_history_History_Inc = some a_history_History_Inc := by kernel_rfl

/-- paddock/paddocklaw5.intervals -/
def h_paddocklaw5_intervals : Hints := { kp := [(0, [0, 1]), (1, [0, 1]), (2, []), (3, [0, 1]), (4, [0, 1, 5]), (6, [0, 1, 5]), (7, []), (5, [0, 1, 5]), (8, [])], lkp := [(4, [0, 1, 5])], lth := [] }
def K_paddocklaw5_intervals_0 : Option (List Nat) := (some [0, 1, 5])
def l_paddocklaw5_intervals_0 : ACode :=
 .seq (.seq (.region (some [0, 1, 5]) [⟨(some 11), .mv (.t 5), none⟩,
   ⟨(some 12), .mv (.t 0), none⟩,
   ⟨(some 13), .len false (.t 12), none⟩,
   ⟨(some 14), .bin .lss (.t 11) (.t 13), none⟩] [])
 (.cond (.t 14) (.skip) (.exit 0)))
 (.seq (.block 1 (.seq (.region (some [0, 1, 5]) [⟨(some 17), .mv (.t 0), none⟩,
    ⟨(some 18), .mv (.t 5), none⟩,
    ⟨(some 19), .iaddrS 2 (.t 17) (.t 18), none⟩,
    ⟨(some 20), .faddr 0 (.t 19), none⟩,
    ⟨(some 21), .load false 1 (.t 20), none⟩,
    ⟨(some 22), .mv (.t 1), none⟩,
    ⟨(some 23), .mv (.t 5), none⟩,
    ⟨(some 24), .iaddrS 2 (.t 22) (.t 23), none⟩,
    ⟨(some 25), .faddr 0 (.t 24), none⟩,
    ⟨(some 26), .load false 1 (.t 25), none⟩,
    ⟨(some 27), .bin .neq (.t 21) (.t 26), none⟩,
    ⟨(some 28), .mv (.t 27), none⟩,
    ⟨(some 29), .mv (.t 0), some (28, false)⟩,
    ⟨(some 30), .mv (.t 5), some (28, false)⟩,
    ⟨(some 31), .iaddrS 2 (.t 29) (.t 30), some (28, false)⟩,
    ⟨(some 32), .faddr 1 (.t 31), some (28, false)⟩,
    ⟨(some 33), .load false 1 (.t 32), some (28, false)⟩,
    ⟨(some 34), .mv (.t 1), some (28, false)⟩,
    ⟨(some 35), .mv (.t 5), some (28, false)⟩,
    ⟨(some 36), .iaddrS 2 (.t 34) (.t 35), some (28, false)⟩,
    ⟨(some 37), .faddr 1 (.t 36), some (28, false)⟩,
    ⟨(some 38), .load false 1 (.t 37), some (28, false)⟩,
    ⟨(some 39), .call (.f F_paddocklaw5_ints) [.t 33, .t 38], some (28, false)⟩,
    ⟨(some 40), .un .not (.t 39), some (28, false)⟩,
    ⟨(some 41), .pick (.t 28) (.c (.d (.b true))) (.t 40), none⟩] [(4, 9), (16, 21)])
  (.cond (.t 41) (.seq (.region (some []) [⟨(some 4), .mv (.c (.d (.b false))), none⟩] [])
   (.ret)) (.skip))))
 (.region (some [0, 1, 5]) [⟨(some 15), .mv (.t 5), none⟩,
   ⟨(some 16), .bin .add (.t 15) (.c (.d (.i .i64 1))), none⟩,
   ⟨(some 5), .mv (.t 16), none⟩] []))
def c_paddocklaw5_intervals : ACode :=
 .seq (.region (some [0, 1]) [⟨(some 4), .mv (.c (.d (.b false))), none⟩] [])
 (.seq (.seq (.region (some [0, 1]) [⟨(some 6), .mv (.t 0), none⟩,
   ⟨(some 7), .len false (.t 6), none⟩,
   ⟨(some 8), .mv (.t 1), none⟩,
   ⟨(some 9), .len false (.t 8), none⟩,
   ⟨(some 10), .bin .neq (.t 7) (.t 9), none⟩] [])
 (.cond (.t 10) (.seq (.region (some []) [⟨(some 4), .mv (.c (.d (.b false))), none⟩] [])
  (.ret)) (.skip)))
 (.seq (.seq (.region (some [0, 1]) [⟨(some 5), .mv (.c (.d (.i .i64 0))), none⟩] [])
 (.block 0 (.loop K_paddocklaw5_intervals_0 [] l_paddocklaw5_intervals_0)))
 (.seq (.region (some []) [⟨(some 4), .mv (.c (.d (.b true))), none⟩] [])
 (.ret))))
def a_paddocklaw5_intervals : AFn := .code 2 c_paddocklaw5_intervals [.tmp 4]
set_option maxRecDepth 100000 in
theorem k_paddocklaw5_intervals : compF Try.prog h_paddocklaw5_intervals F_paddocklaw5_intervals = some a_paddocklaw5_intervals := by kernel_rfl

/-- (*paddock/history.History).Copy -/
def h_history_History_Copy : Hints := { kp := [(0, [0]), (1, [0]), (2, [0, 3]), (3, [3, 25, 26]), (4, [3, 25, 26]), (5, [3, 4, 5, 25, 26]), (6, [3, 25, 26]), (7, [3])], lkp := [(3, [3, 25, 26])], lth := [] }
def K_history_History_Copy_0 : Option (List Nat) := (some [3, 25, 26])
def l_history_History_Copy_0 : ACode :=
 .seq (.region (some [3, 25, 26]) [⟨(some 27), .bin .lss (.t 26) (.c (.d (.i .i64 4))), none⟩] [])
 (.seq (.cond (.t 27) (.skip) (.exit 0))
 (.seq (.block 1 (.seq (.region (some [3, 25, 26]) [⟨(some 28), .mv (.t 26), none⟩,
    ⟨(some 29), .idxA false 4 1 (.t 25) (.t 26), none⟩,
    ⟨(some 4), .mv (.t 28), none⟩,
    ⟨(some 5), .mv (.t 29), none⟩] [])
  (.region (some [3, 4, 5, 25, 26]) [⟨(some 30), .mv (.t 3), none⟩,
    ⟨(some 31), .mv (.t 4), none⟩,
    ⟨(some 32), .mv (.t 5), none⟩,
    ⟨(some 33), .call (.f F_slices_Clone_sapi_Interval_api_Interval) [.t 32], none⟩,
    ⟨(some 34), .nilck (.t 30), none⟩,
    ⟨(some 35), .faddr 3 (.t 34), none⟩,
    ⟨(some 36), .iaddrA 4 1 (.t 35) (.t 31), none⟩,
    ⟨none, .store 1 (.t 36) (.t 33), none⟩] [])))
 (.region (some [3, 25, 26]) [⟨(some 37), .bin .add (.t 26) (.c (.d (.i .i64 1))), none⟩,
   ⟨(some 26), .mv (.t 37), none⟩] [])))
def c_history_History_Copy : ACode :=
 .seq (.region (some [0]) [⟨(some 2), .mv (.c (.one)), none⟩] [])
 (.seq (.region (some [0]) [⟨(some 6), .mv (.t 0), none⟩,
   ⟨(some 7), .nilck (.t 6), none⟩,
   ⟨(some 8), .faddr 0 (.t 7), none⟩,
   ⟨(some 9), .load false 1 (.t 8), none⟩,
   ⟨(some 10), .call (.f F_maps_Clone_map_uint32_api_Map_uint32_api_Map) [.t 9], none⟩,
   ⟨(some 11), .mv (.t 0), none⟩,
   ⟨(some 12), .nilck (.t 11), none⟩,
   ⟨(some 13), .faddr 1 (.t 12), none⟩,
   ⟨(some 14), .load false 1 (.t 13), none⟩,
   ⟨(some 15), .call (.f F_maps_Clone_map_uint32_api_Inc_uint32_api_Inc) [.t 14], none⟩,
   ⟨(some 16), .mv (.t 0), none⟩,
   ⟨(some 17), .nilck (.t 16), none⟩,
   ⟨(some 18), .faddr 2 (.t 17), none⟩,
   ⟨(some 19), .load false 1 (.t 18), none⟩,
   ⟨(some 20), .build [.one, .one, .d (.i .u32 0), .nilS, .nilS, .nilS, .nilS] [(0, 1, .t 10), (1, 1, .t 15), (2, 1, .t 19)], none⟩,
   ⟨(some 21), .box (.t 20), none⟩,
   ⟨(some 3), .mv (.t 21), none⟩] [(3, 8), (4, 8), (3, 13), (4, 13), (8, 13), (9, 13)])
 (.seq (.seq (.region (some [0, 3]) [⟨(some 22), .mv (.t 0), none⟩,
   ⟨(some 23), .nilck (.t 22), none⟩,
   ⟨(some 24), .faddr 3 (.t 23), none⟩,
   ⟨(some 25), .load true 4 (.t 24), none⟩,
   ⟨(some 26), .mv (.c (.d (.i .i64 0))), none⟩] [])
 (.block 0 (.loop K_history_History_Copy_0 [] l_history_History_Copy_0)))
 (.seq (.region (some [3]) [⟨(some 38), .mv (.t 3), none⟩,
   ⟨(some 2), .mv (.t 38), none⟩] [])
 (.ret))))
def a_history_History_Copy : AFn := .code 1 c_history_History_Copy [.tmp 2]
set_option maxRecDepth 100000 in
theorem k_history_History_Copy : compF Try.prog h_history_History_Copy F_history_History_Copy = some a_history_History_Copy := by kernel_rfl

/-- (*paddock/paddockref3.History).Last -/
def h_paddockref3_History_Last : Hints := { kp := [(0, [0]), (1, [0])], lkp := [], lth := [] }
def c_paddockref3_History_Last : ACode :=
 .seq (.region (some [0]) [⟨(some 2), .mv (.c (.d (.i .u32 0))), none⟩] [])
 (.seq (.region (some [0]) [⟨(some 3), .mv (.t 0), none⟩,
   ⟨(some 4), .nilck (.t 3), none⟩,
   ⟨(some 5), .faddr 0 (.t 4), none⟩,
   ⟨(some 6), .load false 1 (.t 5), none⟩,
   ⟨(some 7), .len false (.t 6), none⟩,
   ⟨(some 8), .conv .u32 (.t 7), none⟩,
   ⟨(some 9), .bin .add (.t 8) (.c (.d (.i .u32 1))), none⟩,
   ⟨(some 2), .mv (.t 9), none⟩] [])
 (.ret))
def a_paddockref3_History_Last : AFn := .code 1 c_paddockref3_History_Last [.tmp 2]
set_option maxRecDepth 100000 in
theorem k_paddockref3_History_Last : compF Try.prog h_paddockref3_History_Last F_paddockref3_History_Last = some a_paddockref3_History_Last := by kernel_rfl

/-- (*paddock/paddockref3.History).Add -/
def h_paddockref3_History_Add : Hints := { kp := [(0, [0, 1, 2]), (1, [0, 1, 5]), (3, [0, 1, 5]), (4, []), (2, []), (5, [0, 5]), (6, [0, 5, 8]), (7, []), (8, [0, 5]), (9, [])], lkp := [], lth := [] }
def c_paddockref3_History_Add : ACode :=
 .seq (.region (some [0, 1, 2]) [⟨(some 5), .box (.t 2), none⟩,
   ⟨(some 6), .mv (.c (.d (.i .i64 0))), none⟩] [])
 (.seq (.block 0 (.seq (.region (some [0, 1, 5]) [⟨(some 10), .mv (.t 1), none⟩,
    ⟨(some 11), .mv (.t 0), none⟩,
    ⟨(some 12), .call (.f F_paddockref3_History_Last) [.t 11], none⟩,
    ⟨(some 13), .bin .leq (.t 10) (.t 12), none⟩,
    ⟨(some 9), .mv (.t 13), none⟩] [])
  (.cond (.t 9) (.seq (.region (some []) [⟨(some 6), .mv (.c (.d (.i .i64 51))), none⟩] [])
   (.ret)) (.seq (.region (some [0, 1, 5]) [⟨(some 15), .mv (.t 1), none⟩,
     ⟨(some 16), .mv (.t 0), none⟩,
     ⟨(some 17), .call (.f F_paddockref3_History_Last) [.t 16], none⟩,
     ⟨(some 18), .bin .add (.t 17) (.c (.d (.i .u32 1))), none⟩,
     ⟨(some 19), .bin .gtr (.t 15) (.t 18), none⟩,
     ⟨(some 14), .mv (.t 19), none⟩] [])
   (.cond (.t 14) (.seq (.region (some []) [⟨(some 6), .mv (.c (.d (.i .i64 50))), none⟩] [])
    (.ret)) (.skip))))))
 (.seq (.region (some [0, 5]) [⟨(some 21), .mv (.t 0), none⟩,
   ⟨(some 22), .mv (.t 0), none⟩,
   ⟨(some 23), .call (.f F_paddockref3_History_Last) [.t 22], none⟩,
   ⟨(some 24), .call (.f F_paddockref3_History_Map) [.t 21, .t 23], none⟩,
   ⟨(some 25), .load true 3 (.t 5), none⟩,
   ⟨(some 26), .call (.f F_paddockref3_Apply) [.t 24, .t 25], none⟩,
   ⟨(some 20), .mv (.t 26), none⟩,
   ⟨(some 27), .ext (.t 20) 0, none⟩,
   ⟨(some 28), .ext (.t 20) 1, none⟩,
   ⟨(some 7), .box (.c (.d (.agg Pk.Mp.zero.cs))), none⟩,
   ⟨none, .store 16 (.t 7) (.t 27), none⟩,
   ⟨(some 8), .mv (.t 28), none⟩] [(2, 4), (3, 4), (2, 9), (3, 9), (4, 9), (5, 9)])
 (.seq (.seq (.region (some [0, 5, 8]) [⟨(some 29), .mv (.t 8), none⟩,
   ⟨(some 30), .un .not (.t 29), none⟩] [])
 (.cond (.t 30) (.seq (.region (some []) [⟨(some 6), .mv (.c (.d (.i .i64 40))), none⟩] [])
  (.ret)) (.skip)))
 (.seq (.region (some [0, 5]) [⟨(some 31), .mv (.t 0), none⟩,
   ⟨(some 32), .mv (.t 0), none⟩,
   ⟨(some 33), .nilck (.t 32), none⟩,
   ⟨(some 34), .faddr 0 (.t 33), none⟩,
   ⟨(some 35), .load false 1 (.t 34), none⟩,
   ⟨(some 36), .load true 3 (.t 5), none⟩,
   ⟨(some 37), .bsl 3 [.t 36], none⟩,
   ⟨(some 38), .app 3 (.t 35) (.t 37), none⟩,
   ⟨(some 39), .nilck (.t 31), none⟩,
   ⟨(some 40), .faddr 0 (.t 39), none⟩,
   ⟨none, .store 1 (.t 40) (.t 38), none⟩] [(4, 5), (4, 6)])
 (.seq (.region (some []) [⟨(some 6), .mv (.c (.d (.i .i64 0))), none⟩] [])
 (.ret))))))
def a_paddockref3_History_Add : AFn := .code 3 c_paddockref3_History_Add [.tmp 6]
set_option maxRecDepth 100000 in
theorem k_paddockref3_History_Add : compF Try.prog h_paddockref3_History_Add F_paddockref3_History_Add = some a_paddockref3_History_Add := by kernel_rfl

/-- paddock/paddocklaw5.alike -/
def h_paddocklaw5_alike : Hints := { kp := [(0, [0, 1, 2]), (1, [0, 1, 2]), (2, []), (3, [0, 1, 2]), (4, [0, 1, 2, 7, 8]), (5, []), (6, [0, 1, 2]), (7, [0, 1, 2, 9]), (9, [0, 1, 2, 9]), (10, []), (8, [0, 1, 2, 9]), (11, [0, 2])], lkp := [(7, [0, 1, 2, 9])], lth := [] }
def K_paddocklaw5_alike_0 : Option (List Nat) := (some [0, 1, 2, 9])
def l_paddocklaw5_alike_0 : ACode :=
 .seq (.seq (.region (some [0, 1, 2, 9]) [⟨(some 32), .mv (.t 9), none⟩,
   ⟨(some 33), .bin .lss (.t 32) (.c (.d (.i .u8 4))), none⟩] [])
 (.cond (.t 33) (.skip) (.exit 0)))
 (.seq (.block 1 (.seq (.region (some [0, 1, 2, 9]) [⟨(some 36), .mv (.t 0), none⟩,
    ⟨(some 37), .mv (.t 9), none⟩,
    ⟨(some 38), .call (.f F_history_History_Intervals) [.t 36, .t 37], none⟩,
    ⟨(some 39), .mv (.t 1), none⟩,
    ⟨(some 40), .mv (.t 9), none⟩,
    ⟨(some 41), .call (.f F_paddockref3_History_Intervals) [.t 39, .t 40], none⟩,
    ⟨(some 42), .call (.f F_paddocklaw5_intervals) [.t 38, .t 41], none⟩,
    ⟨(some 43), .un .not (.t 42), none⟩,
    ⟨(some 44), .mv (.t 43), none⟩,
    ⟨(some 45), .mv (.t 0), some (44, false)⟩,
    ⟨(some 46), .mv (.t 9), some (44, false)⟩,
    ⟨(some 47), .call (.f F_history_History_Acting) [.t 45, .t 46], some (44, false)⟩,
    ⟨(some 48), .mv (.t 1), some (44, false)⟩,
    ⟨(some 49), .mv (.t 9), some (44, false)⟩,
    ⟨(some 50), .call (.f F_paddockref3_History_Now) [.t 48, .t 49], some (44, false)⟩,
    ⟨(some 51), .field false 1 1 (.t 50), some (44, false)⟩,
    ⟨(some 52), .call (.f F_paddocklaw5_ints) [.t 47, .t 51], some (44, false)⟩,
    ⟨(some 53), .un .not (.t 52), some (44, false)⟩,
    ⟨(some 54), .pick (.t 44) (.c (.d (.b true))) (.t 53), none⟩,
    ⟨(some 55), .mv (.t 54), none⟩,
    ⟨(some 56), .mv (.t 0), some (55, false)⟩,
    ⟨(some 57), .mv (.t 9), some (55, false)⟩,
    ⟨(some 58), .call (.f F_history_History_Since) [.t 56, .t 57], some (55, false)⟩,
    ⟨(some 59), .mv (.t 1), some (55, false)⟩,
    ⟨(some 60), .mv (.t 9), some (55, false)⟩,
    ⟨(some 61), .call (.f F_paddockref3_History_Now) [.t 59, .t 60], some (55, false)⟩,
    ⟨(some 62), .field false 0 1 (.t 61), some (55, false)⟩,
    ⟨(some 63), .bin .neq (.t 58) (.t 62), some (55, false)⟩,
    ⟨(some 64), .pick (.t 55) (.c (.d (.b true))) (.t 63), none⟩] [])
  (.cond (.t 64) (.seq (.region (some []) [⟨(some 6), .mv (.c (.d (.b false))), none⟩] [])
   (.ret)) (.skip))))
 (.region (some [0, 1, 2, 9]) [⟨(some 34), .mv (.t 9), none⟩,
   ⟨(some 35), .bin .add (.t 34) (.c (.d (.i .u8 1))), none⟩,
   ⟨(some 9), .mv (.t 35), none⟩] []))
def c_paddocklaw5_alike : ACode :=
 .seq (.region (some [0, 1, 2]) [⟨(some 6), .mv (.c (.d (.b false))), none⟩] [])
 (.seq (.seq (.region (some [0, 1, 2]) [⟨(some 10), .mv (.t 0), none⟩,
   ⟨(some 11), .call (.f F_history_History_Last) [.t 10], none⟩,
   ⟨(some 12), .mv (.t 1), none⟩,
   ⟨(some 13), .call (.f F_paddockref3_History_Last) [.t 12], none⟩,
   ⟨(some 14), .bin .neq (.t 11) (.t 13), none⟩] [])
 (.cond (.t 14) (.seq (.region (some []) [⟨(some 6), .mv (.c (.d (.b false))), none⟩] [])
  (.ret)) (.skip)))
 (.seq (.region (some [0, 1, 2]) [⟨(some 16), .mv (.t 0), none⟩,
   ⟨(some 17), .mv (.t 1), none⟩,
   ⟨(some 18), .call (.f F_paddockref3_History_Last) [.t 17], none⟩,
   ⟨(some 19), .call (.f F_history_History_Map) [.t 16, .t 18], none⟩,
   ⟨(some 15), .mv (.t 19), none⟩,
   ⟨(some 20), .ext (.t 15) 0, none⟩,
   ⟨(some 21), .ext (.t 15) 1, none⟩,
   ⟨(some 7), .box (.c (.d (.agg Pk.Mp.zero.cs))), none⟩,
   ⟨none, .store 16 (.t 7) (.t 20), none⟩,
   ⟨(some 8), .mv (.t 21), none⟩] [])
 (.seq (.seq (.region (some [0, 1, 2, 7, 8]) [⟨(some 22), .mv (.t 8), none⟩,
   ⟨(some 23), .un .not (.t 22), none⟩,
   ⟨(some 24), .mv (.t 23), none⟩,
   ⟨(some 25), .load true 16 (.t 7), some (24, false)⟩,
   ⟨(some 26), .mv (.t 1), some (24, false)⟩,
   ⟨(some 27), .mv (.t 1), some (24, false)⟩,
   ⟨(some 28), .call (.f F_paddockref3_History_Last) [.t 27], some (24, false)⟩,
   ⟨(some 29), .call (.f F_paddockref3_History_Map) [.t 26, .t 28], some (24, false)⟩,
   ⟨(some 30), .eq true Pk.Mp.ety (.t 25) (.t 29), some (24, false)⟩,
   ⟨(some 31), .pick (.t 24) (.c (.d (.b true))) (.t 30), none⟩] [(3, 6), (3, 7)])
 (.cond (.t 31) (.seq (.region (some []) [⟨(some 6), .mv (.c (.d (.b false))), none⟩] [])
  (.ret)) (.skip)))
 (.seq (.seq (.region (some [0, 1, 2]) [⟨(some 9), .mv (.c (.d (.i .u8 0))), none⟩] [])
 (.block 0 (.loop K_paddocklaw5_alike_0 [] l_paddocklaw5_alike_0)))
 (.seq (.region (some [0, 2]) [⟨(some 65), .mv (.t 2), none⟩,
   ⟨(some 66), .bin .lss (.t 65) (.c (.d (.i .u8 4))), none⟩,
   ⟨(some 67), .mv (.t 66), none⟩,
   ⟨(some 68), .mv (.t 0), some (67, false)⟩,
   ⟨(some 69), .mv (.t 2), some (67, false)⟩,
   ⟨(some 70), .call (.f F_history_History_Intervals) [.t 68, .t 69], some (67, false)⟩,
   ⟨(some 71), .len false (.t 70), some (67, false)⟩,
   ⟨(some 72), .bin .eql (.t 71) (.c (.d (.i .i64 0))), some (67, false)⟩,
   ⟨(some 73), .mv (.t 72), some (67, false)⟩,
   ⟨(some 74), .mv (.t 0), some (73, true)⟩,
   ⟨(some 75), .mv (.t 2), some (73, true)⟩,
   ⟨(some 76), .call (.f F_history_History_Acting) [.t 74, .t 75], some (73, true)⟩,
   ⟨(some 77), .len false (.t 76), some (73, true)⟩,
   ⟨(some 78), .bin .eql (.t 77) (.c (.d (.i .i64 0))), some (73, true)⟩,
   ⟨(some 79), .pick (.t 73) (.t 78) (.c (.d (.b false))), some (67, false)⟩,
   ⟨(some 80), .mv (.t 79), some (67, false)⟩,
   ⟨(some 81), .mv (.t 0), some (80, true)⟩,
   ⟨(some 82), .mv (.t 2), some (80, true)⟩,
   ⟨(some 83), .call (.f F_history_History_Since) [.t 81, .t 82], some (80, true)⟩,
   ⟨(some 84), .bin .eql (.t 83) (.c (.d (.i .u32 0))), some (80, true)⟩,
   ⟨(some 85), .pick (.t 80) (.t 84) (.c (.d (.b false))), some (67, false)⟩,
   ⟨(some 86), .pick (.t 67) (.c (.d (.b true))) (.t 85), none⟩,
   ⟨(some 6), .mv (.t 86), none⟩] [])
 (.ret))))))
def a_paddocklaw5_alike : AFn := .code 3 c_paddocklaw5_alike [.tmp 6]
set_option maxRecDepth 100000 in
theorem k_paddocklaw5_alike : compF Try.prog h_paddocklaw5_alike F_paddocklaw5_alike = some a_paddocklaw5_alike := by kernel_rfl

/-- (*paddock/paddockref3.History).Map -/
def h_paddockref3_History_Map : Hints := { kp := [(0, [0, 1]), (1, [0, 1, 4]), (2, [0, 1, 4, 5]), (3, [0, 1, 4, 5, 6]), (5, [0, 1, 4, 5, 6]), (4, [0, 1, 4, 5, 6]), (6, [4, 5])], lkp := [(3, [0, 1, 4, 5, 6])], lth := [] }
def K_paddockref3_History_Map_0 : Option (List Nat) := (some [0, 1, 4, 5, 6])
def l_paddockref3_History_Map_0 : ACode :=
 .seq (.seq (.region (some [0, 1, 4, 5, 6]) [⟨(some 8), .mv (.t 6), none⟩,
   ⟨(some 9), .bin .add (.t 8) (.c (.d (.i .i64 2))), none⟩,
   ⟨(some 10), .mv (.t 1), none⟩,
   ⟨(some 11), .conv .i64 (.t 10), none⟩,
   ⟨(some 12), .bin .leq (.t 9) (.t 11), none⟩,
   ⟨(some 13), .mv (.t 12), none⟩,
   ⟨(some 14), .mv (.t 6), some (13, true)⟩,
   ⟨(some 15), .mv (.t 0), some (13, true)⟩,
   ⟨(some 16), .nilck (.t 15), some (13, true)⟩,
   ⟨(some 17), .faddr 0 (.t 16), some (13, true)⟩,
   ⟨(some 18), .load false 1 (.t 17), some (13, true)⟩,
   ⟨(some 19), .len false (.t 18), some (13, true)⟩,
   ⟨(some 20), .bin .lss (.t 14) (.t 19), some (13, true)⟩,
   ⟨(some 21), .pick (.t 13) (.t 20) (.c (.d (.b false))), none⟩] [])
 (.cond (.t 21) (.skip) (.exit 0)))
 (.seq (.block 1 (.region (some [0, 1, 4, 5, 6]) [⟨(some 25), .load true 16 (.t 5), none⟩,
    ⟨(some 26), .mv (.t 0), none⟩,
    ⟨(some 27), .nilck (.t 26), none⟩,
    ⟨(some 28), .faddr 0 (.t 27), none⟩,
    ⟨(some 29), .load false 1 (.t 28), none⟩,
    ⟨(some 30), .mv (.t 6), none⟩,
    ⟨(some 31), .iaddrS 3 (.t 29) (.t 30), none⟩,
    ⟨(some 32), .load true 3 (.t 31), none⟩,
    ⟨(some 33), .call (.f F_paddockref3_Apply) [.t 25, .t 32], none⟩,
    ⟨(some 24), .mv (.t 33), none⟩,
    ⟨(some 34), .ext (.t 24) 0, none⟩,
    ⟨(some 35), .ext (.t 24) 1, none⟩,
    ⟨none, .store 16 (.t 5) (.t 34), none⟩] [(0, 4), (0, 7)]))
 (.region (some [0, 1, 4, 5, 6]) [⟨(some 22), .mv (.t 6), none⟩,
   ⟨(some 23), .bin .add (.t 22) (.c (.d (.i .i64 1))), none⟩,
   ⟨(some 6), .mv (.t 23), none⟩] []))
def c_paddockref3_History_Map : ACode :=
 .seq (.region (some [0, 1]) [⟨(some 4), .box (.c (.d (.agg Pk.Mp.zero.cs))), none⟩] [])
 (.seq (.region (some [0, 1, 4]) [⟨(some 7), .call (.f F_paddockref3_First) [], none⟩,
   ⟨(some 5), .box (.c (.d (.agg Pk.Mp.zero.cs))), none⟩,
   ⟨none, .store 16 (.t 5) (.t 7), none⟩] [])
 (.seq (.seq (.region (some [0, 1, 4, 5]) [⟨(some 6), .mv (.c (.d (.i .i64 0))), none⟩] [])
 (.block 0 (.loop K_paddockref3_History_Map_0 [] l_paddockref3_History_Map_0)))
 (.seq (.region (some [4, 5]) [⟨(some 36), .load true 16 (.t 5), none⟩,
   ⟨none, .store 16 (.t 4) (.t 36), none⟩] [])
 (.ret))))
def a_paddockref3_History_Map : AFn := .code 2 c_paddockref3_History_Map [.cell true 16 4]
set_option maxRecDepth 100000 in
theorem k_paddockref3_History_Map : compF Try.prog h_paddockref3_History_Map F_paddockref3_History_Map = some a_paddockref3_History_Map := by kernel_rfl

/-- (*paddock/history.History).lays -/
def h_history_History_lays : Hints := { kp := [(0, [0, 1]), (1, [0, 3]), (2, [0, 3]), (3, [0, 3]), (4, [0, 3, 19]), (5, [0, 3, 19]), (6, [0, 3, 4, 19]), (7, [0, 3, 4, 5, 19]), (8, [0, 3, 4, 5, 6, 19]), (9, [0, 3, 4, 5, 6, 19]), (10, [0, 3, 19])], lkp := [(4, [0, 3, 19])], lth := [] }
def K_history_History_lays_0 : Option (List Nat) := (some [0, 3, 19])
def l_history_History_lays_0 : ACode :=
 .seq (.region (some [0, 3, 19]) [⟨(some 20), .bin .lss (.t 19) (.c (.d (.i .i64 4))), none⟩] [])
 (.seq (.cond (.t 20) (.skip) (.exit 0))
 (.seq (.block 1 (.seq (.region (some [0, 3, 19]) [⟨(some 21), .mv (.t 19), none⟩,
    ⟨(some 4), .mv (.t 21), none⟩] [])
  (.seq (.region (some [0, 3, 4, 19]) [⟨(some 22), .load true 16 (.t 3), none⟩,
    ⟨(some 23), .mv (.t 4), none⟩,
    ⟨(some 24), .conv .u8 (.t 23), none⟩,
    ⟨(some 25), .call (.f F_place_Acting) [.t 22, .t 24], none⟩,
    ⟨(some 5), .mv (.t 25), none⟩] [])
  (.seq (.region (some [0, 3, 4, 5, 19]) [⟨(some 26), .mv (.t 0), none⟩,
    ⟨(some 27), .mv (.t 4), none⟩,
    ⟨(some 28), .nilck (.t 26), none⟩,
    ⟨(some 29), .faddr 3 (.t 28), none⟩,
    ⟨(some 30), .iaddrA 4 1 (.t 29) (.t 27), none⟩,
    ⟨(some 31), .load false 1 (.t 30), none⟩,
    ⟨(some 6), .mv (.t 31), none⟩] [])
  (.seq (.region (some [0, 3, 4, 5, 6, 19]) [⟨(some 32), .mv (.t 6), none⟩,
    ⟨(some 33), .len false (.t 32), none⟩,
    ⟨(some 34), .bin .eql (.t 33) (.c (.d (.i .i64 0))), none⟩,
    ⟨(some 35), .mv (.t 34), none⟩,
    ⟨(some 36), .mv (.t 6), some (35, false)⟩,
    ⟨(some 37), .mv (.t 6), some (35, false)⟩,
    ⟨(some 38), .len false (.t 37), some (35, false)⟩,
    ⟨(some 39), .bin .sub (.t 38) (.c (.d (.i .i64 1))), some (35, false)⟩,
    ⟨(some 40), .iaddrS 2 (.t 36) (.t 39), some (35, false)⟩,
    ⟨(some 41), .faddr 1 (.t 40), some (35, false)⟩,
    ⟨(some 42), .load false 1 (.t 41), some (35, false)⟩,
    ⟨(some 43), .mv (.t 5), some (35, false)⟩,
    ⟨(some 44), .call (.f F_slices_Equal_sint_int) [.t 42, .t 43], some (35, false)⟩,
    ⟨(some 45), .un .not (.t 44), some (35, false)⟩,
    ⟨(some 46), .pick (.t 35) (.c (.d (.b true))) (.t 45), none⟩] [])
  (.cond (.t 46) (.region (some [0, 3, 4, 5, 6, 19]) [⟨(some 47), .mv (.t 0), none⟩,
     ⟨(some 48), .mv (.t 4), none⟩,
     ⟨(some 49), .mv (.t 6), none⟩,
     ⟨(some 50), .faddr 0 (.t 3), none⟩,
     ⟨(some 51), .load false 1 (.t 50), none⟩,
     ⟨(some 52), .mv (.t 5), none⟩,
     ⟨(some 53), .build Pk.Itv.zeroA [(0, 1, .t 51), (1, 1, .t 52)], none⟩,
     ⟨(some 54), .bsl 2 [.t 53], none⟩,
     ⟨(some 55), .app 2 (.t 49) (.t 54), none⟩,
     ⟨(some 56), .nilck (.t 47), none⟩,
     ⟨(some 57), .faddr 3 (.t 56), none⟩,
     ⟨(some 58), .iaddrA 4 1 (.t 57) (.t 48), none⟩,
     ⟨none, .store 1 (.t 58) (.t 55), none⟩] []) (.skip)))))))
 (.region (some [0, 3, 19]) [⟨(some 59), .bin .add (.t 19) (.c (.d (.i .i64 1))), none⟩,
   ⟨(some 19), .mv (.t 59), none⟩] [])))
def c_history_History_lays : ACode :=
 .seq (.region (some [0, 1]) [⟨(some 3), .box (.t 1), none⟩] [])
 (.seq (.region (some [0, 3]) [⟨(some 7), .mv (.t 0), none⟩,
   ⟨(some 8), .nilck (.t 7), none⟩,
   ⟨(some 9), .faddr 0 (.t 8), none⟩,
   ⟨(some 10), .load false 1 (.t 9), none⟩,
   ⟨(some 11), .faddr 0 (.t 3), none⟩,
   ⟨(some 12), .load false 1 (.t 11), none⟩,
   ⟨(some 13), .load true 16 (.t 3), none⟩,
   ⟨none, .mset .u32 (.t 10) (.t 12) (.t 13), none⟩] [(3, 5), (3, 6), (5, 6)])
 (.seq (.region (some [0, 3]) [⟨(some 14), .mv (.t 0), none⟩,
   ⟨(some 15), .faddr 0 (.t 3), none⟩,
   ⟨(some 16), .load false 1 (.t 15), none⟩,
   ⟨(some 17), .nilck (.t 14), none⟩,
   ⟨(some 18), .faddr 2 (.t 17), none⟩,
   ⟨none, .store 1 (.t 18) (.t 16), none⟩] [])
 (.seq (.region (some [0, 3]) [⟨(some 19), .mv (.c (.d (.i .i64 0))), none⟩] [])
 (.block 0 (.loop K_history_History_lays_0 [] l_history_History_lays_0)))))
def a_history_History_lays : AFn := .code 2 c_history_History_lays []
set_option maxRecDepth 100000 in
theorem k_history_History_lays : compF Try.prog h_history_History_lays F_history_History_lays = some a_history_History_lays := by kernel_rfl

/-- paddock/maps.First -/
def h_maps_First : Hints := { kp := [(0, []), (1, [0]), (2, [0, 1]), (3, [0, 1, 4]), (4, [0, 1, 4]), (5, [0, 1, 2, 4]), (6, [0, 1, 4]), (7, [0, 1])], lkp := [(3, [0, 1, 4])], lth := [] }
def K_maps_First_0 : Option (List Nat) := (some [0, 1, 4])
def l_maps_First_0 : ACode :=
 .seq (.region (some [0, 1, 4]) [⟨(some 5), .bin .lss (.t 4) (.c (.d (.i .i64 5))), none⟩] [])
 (.seq (.cond (.t 5) (.skip) (.exit 0))
 (.seq (.block 1 (.seq (.region (some [0, 1, 4]) [⟨(some 6), .mv (.t 4), none⟩,
    ⟨(some 2), .mv (.t 6), none⟩] [])
  (.region (some [0, 1, 2, 4]) [⟨(some 7), .mv (.t 2), none⟩,
    ⟨(some 8), .mv (.t 2), none⟩,
    ⟨(some 9), .bin .rem (.t 8) (.c (.d (.i .i64 4))), none⟩,
    ⟨(some 10), .conv .u8 (.t 9), none⟩,
    ⟨(some 11), .build [.d (.b false), .d (.i .i64 0), .d (.i .u8 0)] [(0, 1, .c (.d (.b true))), (1, 1, .c (.d (.i .i64 8))), (2, 1, .t 10)], none⟩,
    ⟨(some 12), .faddr 1 (.t 1), none⟩,
    ⟨(some 13), .iaddrA 5 3 (.t 12) (.t 7), none⟩,
    ⟨none, .store 3 (.t 13) (.t 11), none⟩] [])))
 (.region (some [0, 1, 4]) [⟨(some 14), .bin .add (.t 4) (.c (.d (.i .i64 1))), none⟩,
   ⟨(some 4), .mv (.t 14), none⟩] [])))
def c_maps_First : ACode :=
 .seq (.region (some []) [⟨(some 0), .box (.c (.d (.agg Pk.Mp.zero.cs))), none⟩] [])
 (.seq (.region (some [0]) [⟨(some 3), .build (List.map .d Pk.Mp.zero.cs) [(0, 1, .c (.d (.i .u32 1)))], none⟩,
   ⟨(some 1), .box (.c (.d (.agg Pk.Mp.zero.cs))), none⟩,
   ⟨none, .store 16 (.t 1) (.t 3), none⟩] [])
 (.seq (.seq (.region (some [0, 1]) [⟨(some 4), .mv (.c (.d (.i .i64 0))), none⟩] [])
 (.block 0 (.loop K_maps_First_0 [] l_maps_First_0)))
 (.seq (.region (some [0, 1]) [⟨(some 15), .load true 16 (.t 1), none⟩,
   ⟨none, .store 16 (.t 0) (.t 15), none⟩] [])
 (.ret))))
def a_maps_First : AFn := .code 0 c_maps_First [.cell true 16 0]
set_option maxRecDepth 100000 in
theorem k_maps_First : compF Try.prog h_maps_First F_maps_First = some a_maps_First := by kernel_rfl

/-- paddock/maps.Apply -/
def h_maps_Apply : Hints := { kp := [(0, [0, 1]), (1, [2, 3, 4]), (2, [4]), (3, [2, 3, 4]), (4, [2, 3, 4]), (5, [2, 3, 4, 6]), (6, [2, 3, 4, 6, 30]), (8, [2, 3, 4, 6, 30]), (10, [2, 3, 4, 6, 30]), (11, [2, 3, 4, 6]), (9, [2, 4, 6]), (7, [2, 4, 6]), (12, [2, 4])], lkp := [], lth := [] }
def c_maps_Apply : ACode :=
 .seq (.region (some [0, 1]) [⟨(some 2), .box (.t 0), none⟩,
   ⟨(some 3), .box (.t 1), none⟩,
   ⟨(some 4), .box (.c (.d (.agg Pk.Mp.zero.cs))), none⟩,
   ⟨(some 5), .mv (.c (.d (.i .i64 0))), none⟩] [])
 (.seq (.seq (.region (some [2, 3, 4]) [⟨(some 7), .load true 16 (.t 2), none⟩,
   ⟨(some 8), .call (.f F_maps_Is) [.t 7], none⟩,
   ⟨(some 9), .un .not (.t 8), none⟩,
   ⟨(some 10), .mv (.t 9), none⟩,
   ⟨(some 11), .load true 3 (.t 3), some (10, false)⟩,
   ⟨(some 12), .call (.f F_maps_IsInc) [.t 11], some (10, false)⟩,
   ⟨(some 13), .un .not (.t 12), some (10, false)⟩,
   ⟨(some 14), .pick (.t 10) (.c (.d (.b true))) (.t 13), none⟩,
   ⟨(some 15), .mv (.t 14), none⟩,
   ⟨(some 16), .faddr 0 (.t 2), some (15, false)⟩,
   ⟨(some 17), .load false 1 (.t 16), some (15, false)⟩,
   ⟨(some 18), .bin .eql (.t 17) (.c (.d (.i .u32 60))), some (15, false)⟩,
   ⟨(some 19), .pick (.t 15) (.c (.d (.b true))) (.t 18), none⟩] [])
 (.cond (.t 19) (.seq (.region (some [4]) [⟨(some 20), .build (List.map .d Pk.Mp.zero.cs) [], none⟩,
    ⟨none, .store 16 (.t 4) (.t 20), none⟩,
    ⟨(some 5), .mv (.c (.d (.i .i64 40))), none⟩] [])
  (.ret)) (.skip)))
 (.seq (.region (some [2, 3, 4]) [⟨(some 21), .faddr 0 (.t 2), none⟩,
   ⟨(some 22), .load false 1 (.t 21), none⟩,
   ⟨(some 23), .bin .add (.t 22) (.c (.d (.i .u32 1))), none⟩,
   ⟨(some 24), .faddr 0 (.t 2), none⟩,
   ⟨none, .store 1 (.t 24) (.t 23), none⟩] [])
 (.seq (.seq (.region (some [2, 3, 4]) [⟨(some 25), .faddr 1 (.t 3), none⟩,
   ⟨(some 26), .load false 1 (.t 25), none⟩,
   ⟨(some 27), .faddr 1 (.t 2), none⟩,
   ⟨(some 28), .iaddrA 5 3 (.t 27) (.t 26), none⟩,
   ⟨(some 6), .mv (.t 28), none⟩] [])
 (.seq (.region (some [2, 3, 4, 6]) [⟨(some 29), .faddr 0 (.t 3), none⟩,
   ⟨(some 30), .load false 1 (.t 29), none⟩] [])
 (.block 0 (.seq (.region (some [2, 3, 4, 6, 30]) [⟨(some 32), .bin .eql (.t 30) (.c (.d (.i .u8 1))), none⟩,
    ⟨(some 31), .mv (.t 32), none⟩] [])
  (.cond (.t 31) (.region (some [2, 4, 6]) [⟨(some 33), .mv (.t 6), none⟩,
     ⟨(some 34), .nilck (.t 33), none⟩,
     ⟨(some 35), .faddr 0 (.t 34), none⟩,
     ⟨none, .store 1 (.t 35) (.c (.d (.b true))), none⟩] []) (.seq (.region (some [2, 3, 4, 6, 30]) [⟨(some 37), .bin .eql (.t 30) (.c (.d (.i .u8 2))), none⟩,
     ⟨(some 36), .mv (.t 37), none⟩] [])
   (.cond (.t 36) (.region (some [2, 4, 6]) [⟨(some 38), .mv (.t 6), none⟩,
      ⟨(some 39), .nilck (.t 38), none⟩,
      ⟨(some 40), .faddr 0 (.t 39), none⟩,
      ⟨none, .store 1 (.t 40) (.c (.d (.b false))), none⟩] []) (.seq (.region (some [2, 3, 4, 6, 30]) [⟨(some 42), .bin .eql (.t 30) (.c (.d (.i .u8 3))), none⟩,
      ⟨(some 41), .mv (.t 42), none⟩] [])
    (.cond (.t 41) (.region (some [2, 3, 4, 6]) [⟨(some 43), .mv (.t 6), none⟩,
       ⟨(some 44), .faddr 2 (.t 3), none⟩,
       ⟨(some 45), .load false 1 (.t 44), none⟩,
       ⟨(some 46), .nilck (.t 43), none⟩,
       ⟨(some 47), .faddr 1 (.t 46), none⟩,
       ⟨none, .store 1 (.t 47) (.t 45), none⟩] []) (.skip))))))))))
 (.seq (.region (some [2, 4]) [⟨(some 48), .load true 16 (.t 2), none⟩,
   ⟨none, .store 16 (.t 4) (.t 48), none⟩,
   ⟨(some 5), .mv (.c (.d (.i .i64 0))), none⟩] [])
 (.ret)))))
def a_maps_Apply : AFn := .code 2 c_maps_Apply [.cell true 16 4, .tmp 5]
set_option maxRecDepth 100000 in
theorem k_maps_Apply : compF Try.prog h_maps_Apply F_maps_Apply = some a_maps_Apply := by kernel_rfl

/-- slices.Clone[[]paddock/api.Interval,paddock/api.Interval] -/
def h_slices_Clone_sapi_Interval_api_Interval : Hints := { kp := [(0, [0]), (1, [0]), (2, []), (3, [0])], lkp := [], lth := [] }
def c_slices_Clone_sapi_Interval_api_Interval : ACode :=
 .seq (.region (some [0]) [⟨(some 2), .mv (.c (.nilS)), none⟩] [])
 (.seq (.seq (.region (some [0]) [⟨(some 3), .mv (.t 0), none⟩,
   ⟨(some 4), .isnil false (.t 3), none⟩] [])
 (.cond (.t 4) (.seq (.region (some []) [⟨(some 2), .mv (.c (.nilS)), none⟩] [])
  (.ret)) (.skip)))
 (.seq (.region (some [0]) [⟨(some 5), .bsl 2 [], none⟩,
   ⟨(some 6), .mv (.t 0), none⟩,
   ⟨(some 7), .app 2 (.t 5) (.t 6), none⟩,
   ⟨(some 2), .mv (.t 7), none⟩] [])
 (.ret)))
def a_slices_Clone_sapi_Interval_api_Interval : AFn := .code 1 c_slices_Clone_sapi_Interval_api_Interval [.tmp 2]
set_option maxRecDepth 100000 in
theorem k_slices_Clone_sapi_Interval_api_Interval : compF Try.prog h_slices_Clone_sapi_Interval_api_Interval F_slices_Clone_sapi_Interval_api_Interval = some a_slices_Clone_sapi_Interval_api_Interval := by kernel_rfl

/-- slices.Clone[[]int,int] -/
def h_slices_Clone_sint_int : Hints := { kp := [(0, [0]), (1, [0]), (2, []), (3, [0])], lkp := [], lth := [] }
def c_slices_Clone_sint_int : ACode :=
 .seq (.region (some [0]) [⟨(some 2), .mv (.c (.nilS)), none⟩] [])
 (.seq (.seq (.region (some [0]) [⟨(some 3), .mv (.t 0), none⟩,
   ⟨(some 4), .isnil false (.t 3), none⟩] [])
 (.cond (.t 4) (.seq (.region (some []) [⟨(some 2), .mv (.c (.nilS)), none⟩] [])
  (.ret)) (.skip)))
 (.seq (.region (some [0]) [⟨(some 5), .bsl 1 [], none⟩,
   ⟨(some 6), .mv (.t 0), none⟩,
   ⟨(some 7), .app 1 (.t 5) (.t 6), none⟩,
   ⟨(some 2), .mv (.t 7), none⟩] [])
 (.ret)))
def a_slices_Clone_sint_int : AFn := .code 1 c_slices_Clone_sint_int [.tmp 2]
set_option maxRecDepth 100000 in
theorem k_slices_Clone_sint_int : compF Try.prog h_slices_Clone_sint_int F_slices_Clone_sint_int = some a_slices_Clone_sint_int := by kernel_rfl

/-- slices.DeleteFunc[[]int,int] -/
def h_slices_DeleteFunc_sint_int : Hints := { kp := [(0, [0, 1]), (1, [0, 1]), (2, [0, 1, 5]), (3, [0]), (4, [0, 1, 5]), (5, [0, 1, 5, 6]), (7, [0, 1, 5, 6]), (8, [0, 1, 5, 6, 7]), (9, [0, 1, 5, 6, 7]), (10, [0, 1, 5, 6]), (6, [0, 1, 5, 6]), (11, [0, 5]), (12, [0, 5])], lkp := [(5, [0, 1, 5, 6])], lth := [] }
def K_slices_DeleteFunc_sint_int_0 : Option (List Nat) := (some [0, 1, 5, 6])
def l_slices_DeleteFunc_sint_int_0 : ACode :=
 .seq (.seq (.region (some [0, 1, 5, 6]) [⟨(some 16), .mv (.t 6), none⟩,
   ⟨(some 17), .mv (.t 0), none⟩,
   ⟨(some 18), .len false (.t 17), none⟩,
   ⟨(some 19), .bin .lss (.t 16) (.t 18), none⟩] [])
 (.cond (.t 19) (.skip) (.exit 0)))
 (.seq (.block 1 (.seq (.region (some [0, 1, 5, 6]) [⟨(some 22), .mv (.t 0), none⟩,
    ⟨(some 23), .mv (.t 6), none⟩,
    ⟨(some 24), .iaddrS 1 (.t 22) (.t 23), none⟩,
    ⟨(some 25), .load false 1 (.t 24), none⟩,
    ⟨(some 7), .mv (.t 25), none⟩] [])
  (.seq (.region (some [0, 1, 5, 6, 7]) [⟨(some 26), .mv (.t 1), none⟩,
    ⟨(some 27), .mv (.t 7), none⟩,
    ⟨(some 28), .call (.t 26) [.t 27], none⟩,
    ⟨(some 29), .un .not (.t 28), none⟩] [])
  (.cond (.t 29) (.seq (.region (some [0, 1, 5, 6, 7]) [⟨(some 30), .mv (.t 0), none⟩,
     ⟨(some 31), .mv (.t 5), none⟩,
     ⟨(some 32), .mv (.t 7), none⟩,
     ⟨(some 33), .iaddrS 1 (.t 30) (.t 31), none⟩,
     ⟨none, .store 1 (.t 33) (.t 32), none⟩] [])
   (.region (some [0, 1, 5, 6]) [⟨(some 34), .mv (.t 5), none⟩,
     ⟨(some 35), .bin .add (.t 34) (.c (.d (.i .i64 1))), none⟩,
     ⟨(some 5), .mv (.t 35), none⟩] [])) (.skip)))))
 (.region (some [0, 1, 5, 6]) [⟨(some 20), .mv (.t 6), none⟩,
   ⟨(some 21), .bin .add (.t 20) (.c (.d (.i .i64 1))), none⟩,
   ⟨(some 6), .mv (.t 21), none⟩] []))
def c_slices_DeleteFunc_sint_int : ACode :=
 .seq (.region (some [0, 1]) [⟨(some 4), .mv (.c (.nilS)), none⟩] [])
 (.seq (.region (some [0, 1]) [⟨(some 8), .mv (.t 0), none⟩,
   ⟨(some 9), .mv (.t 1), none⟩,
   ⟨(some 10), .call (.f F_slices_IndexFunc_sint_int) [.t 8, .t 9], none⟩,
   ⟨(some 5), .mv (.t 10), none⟩] [])
 (.seq (.seq (.region (some [0, 1, 5]) [⟨(some 11), .mv (.t 5), none⟩,
   ⟨(some 12), .bin .eql (.t 11) (.c (.d (.i .i64 (-1)))), none⟩] [])
 (.cond (.t 12) (.seq (.region (some [0]) [⟨(some 13), .mv (.t 0), none⟩,
    ⟨(some 4), .mv (.t 13), none⟩] [])
  (.ret)) (.skip)))
 (.seq (.seq (.region (some [0, 1, 5]) [⟨(some 14), .mv (.t 5), none⟩,
   ⟨(some 15), .bin .add (.t 14) (.c (.d (.i .i64 1))), none⟩,
   ⟨(some 6), .mv (.t 15), none⟩] [])
 (.block 0 (.loop K_slices_DeleteFunc_sint_int_0 [] l_slices_DeleteFunc_sint_int_0)))
 (.seq (.region (some [0, 5]) [⟨(some 36), .mv (.t 0), none⟩,
   ⟨(some 37), .mv (.t 5), none⟩,
   ⟨(some 38), .slice 1 (.t 36) (some (.t 37)) none none, none⟩,
   ⟨none, .clr (.i .i64 0) (.t 38), none⟩] [])
 (.seq (.region (some [0, 5]) [⟨(some 39), .mv (.t 0), none⟩,
   ⟨(some 40), .mv (.t 5), none⟩,
   ⟨(some 41), .slice 1 (.t 39) none (some (.t 40)) none, none⟩,
   ⟨(some 4), .mv (.t 41), none⟩] [])
 (.ret))))))
def a_slices_DeleteFunc_sint_int : AFn := .code 2 c_slices_DeleteFunc_sint_int [.tmp 4]
set_option maxRecDepth 100000 in
theorem k_slices_DeleteFunc_sint_int : compF Try.prog h_slices_DeleteFunc_sint_int F_slices_DeleteFunc_sint_int = some a_slices_DeleteFunc_sint_int := by kernel_rfl

/-- paddock/place.Pick -/
def h_place_Pick : Hints := { kp := [(0, [0, 1]), (1, [1, 2]), (2, []), (3, [1, 2]), (4, [5]), (5, [5, 6]), (7, [5, 6]), (6, [5, 6]), (8, [5])], lkp := [(5, [5, 6])], lth := [] }
def K_place_Pick_0 : Option (List Nat) := (some [5, 6])
def l_place_Pick_0 : ACode :=
 .seq (.seq (.region (some [5, 6]) [⟨(some 20), .mv (.t 6), none⟩,
   ⟨(some 21), .bin .lss (.t 20) (.c (.d (.i .i64 3))), none⟩,
   ⟨(some 22), .mv (.t 21), none⟩,
   ⟨(some 23), .mv (.t 5), some (22, true)⟩,
   ⟨(some 24), .nilck (.t 23), some (22, true)⟩,
   ⟨(some 25), .faddr 17 (.t 24), some (22, true)⟩,
   ⟨(some 26), .load false 1 (.t 25), some (22, true)⟩,
   ⟨(some 27), .len false (.t 26), some (22, true)⟩,
   ⟨(some 28), .bin .gtr (.t 27) (.c (.d (.i .i64 0))), some (22, true)⟩,
   ⟨(some 29), .pick (.t 22) (.t 28) (.c (.d (.b false))), none⟩] [])
 (.cond (.t 29) (.skip) (.exit 0)))
 (.seq (.block 1 (.region (some [5, 6]) [⟨(some 32), .mv (.t 5), none⟩,
    ⟨(some 33), .mv (.t 6), none⟩,
    ⟨(some 34), .call (.f F_place_choice_pick) [.t 32, .t 33], none⟩] []))
 (.region (some [5, 6]) [⟨(some 30), .mv (.t 6), none⟩,
   ⟨(some 31), .bin .add (.t 30) (.c (.d (.i .i64 1))), none⟩,
   ⟨(some 6), .mv (.t 31), none⟩] []))
def c_place_Pick : ACode :=
 .seq (.region (some [0, 1]) [⟨(some 2), .box (.t 0), none⟩,
   ⟨(some 4), .mv (.c (.nilS)), none⟩] [])
 (.seq (.seq (.region (some [1, 2]) [⟨(some 7), .load true 16 (.t 2), none⟩,
   ⟨(some 8), .call (.f F_maps_Is) [.t 7], none⟩,
   ⟨(some 9), .un .not (.t 8), none⟩,
   ⟨(some 10), .mv (.t 9), none⟩,
   ⟨(some 11), .mv (.t 1), some (10, false)⟩,
   ⟨(some 12), .bin .geq (.t 11) (.c (.d (.i .u8 4))), some (10, false)⟩,
   ⟨(some 13), .pick (.t 10) (.c (.d (.b true))) (.t 12), none⟩] [])
 (.cond (.t 13) (.seq (.region (some []) [⟨(some 4), .mv (.c (.nilS)), none⟩] [])
  (.ret)) (.skip)))
 (.seq (.region (some [1, 2]) [⟨(some 14), .load true 16 (.t 2), none⟩,
   ⟨(some 15), .mv (.t 1), none⟩,
   ⟨(some 16), .load true 16 (.t 2), none⟩,
   ⟨(some 17), .call (.f F_maps_In) [.t 16], none⟩,
   ⟨(some 18), .build [.d (.i .u32 0), .d (.b false), .d (.i .i64 0), .d (.i .u8 0), .d (.b false), .d (.i .i64 0), .d (.i .u8 0), .d (.b false), .d (.i .i64 0), .d (.i .u8 0), .d (.b false), .d (.i .i64 0), .d (.i .u8 0), .d (.b false), .d (.i .i64 0), .d (.i .u8 0), .d (.i .u8 0), .nilS, .nilS] [(0, 16, .t 14), (16, 1, .t 15), (17, 1, .t 17)], none⟩,
   ⟨(some 19), .box (.t 18), none⟩,
   ⟨(some 5), .mv (.t 19), none⟩] [(0, 2), (0, 3)])
 (.seq (.seq (.region (some [5]) [⟨(some 6), .mv (.c (.d (.i .i64 0))), none⟩] [])
 (.block 0 (.loop K_place_Pick_0 [] l_place_Pick_0)))
 (.seq (.region (some [5]) [⟨(some 35), .mv (.t 5), none⟩,
   ⟨(some 36), .nilck (.t 35), none⟩,
   ⟨(some 37), .faddr 18 (.t 36), none⟩,
   ⟨(some 38), .load false 1 (.t 37), none⟩,
   ⟨(some 4), .mv (.t 38), none⟩] [])
 (.ret)))))
def a_place_Pick : AFn := .code 2 c_place_Pick [.tmp 4]
set_option maxRecDepth 100000 in
theorem k_place_Pick : compF Try.prog h_place_Pick F_place_Pick = some a_place_Pick := by kernel_rfl

/-- paddock/place.Acting$1 -/
def h_place_Acting_1 : Hints := { kp := [(0, [0, 1]), (1, [0, 1])], lkp := [], lth := [] }
def c_place_Acting_1 : ACode :=
 .seq (.region (some [0, 1]) [⟨(some 3), .mv (.c (.d (.b false))), none⟩] [])
 (.seq (.region (some [0, 1]) [⟨(some 4), .mv (.t 0), none⟩,
   ⟨(some 5), .faddr 1 (.t 1), none⟩,
   ⟨(some 6), .iaddrA 5 3 (.t 5) (.t 4), none⟩,
   ⟨(some 7), .faddr 0 (.t 6), none⟩,
   ⟨(some 8), .load false 1 (.t 7), none⟩,
   ⟨(some 9), .un .not (.t 8), none⟩,
   ⟨(some 3), .mv (.t 9), none⟩] [])
 (.ret))
def a_place_Acting_1 : AFn := .code 2 c_place_Acting_1 [.tmp 3]
set_option maxRecDepth 100000 in
theorem k_place_Acting_1 : compF Try.prog h_place_Acting_1 F_place_Acting_1 = some a_place_Acting_1 := by kernel_rfl

/-- (*paddock/history.History).interval -/
def h_history_History_interval : Hints := { kp := [(0, [0, 1]), (1, [0, 1, 4]), (2, [4]), (3, [0, 1, 4]), (4, [4, 5])], lkp := [], lth := [] }
def c_history_History_interval : ACode :=
 .seq (.region (some [0, 1]) [⟨(some 4), .box (.c (.agg Pk.Itv.zeroA)), none⟩] [])
 (.seq (.seq (.region (some [0, 1, 4]) [⟨(some 6), .mv (.t 1), none⟩,
   ⟨(some 7), .bin .geq (.t 6) (.c (.d (.i .u8 4))), none⟩] [])
 (.cond (.t 7) (.seq (.region (some [4]) [⟨(some 8), .build Pk.Itv.zeroA [], none⟩,
    ⟨none, .store 2 (.t 4) (.t 8), none⟩] [])
  (.ret)) (.skip)))
 (.seq (.region (some [0, 1, 4]) [⟨(some 9), .mv (.t 0), none⟩,
   ⟨(some 10), .mv (.t 1), none⟩,
   ⟨(some 11), .nilck (.t 9), none⟩,
   ⟨(some 12), .faddr 3 (.t 11), none⟩,
   ⟨(some 13), .iaddrA 4 1 (.t 12) (.t 10), none⟩,
   ⟨(some 14), .load false 1 (.t 13), none⟩,
   ⟨(some 5), .mv (.t 14), none⟩] [])
 (.seq (.region (some [4, 5]) [⟨(some 15), .mv (.t 5), none⟩,
   ⟨(some 16), .mv (.t 5), none⟩,
   ⟨(some 17), .len false (.t 16), none⟩,
   ⟨(some 18), .bin .sub (.t 17) (.c (.d (.i .i64 1))), none⟩,
   ⟨(some 19), .iaddrS 2 (.t 15) (.t 18), none⟩,
   ⟨(some 20), .load true 2 (.t 19), none⟩,
   ⟨none, .store 2 (.t 4) (.t 20), none⟩] [])
 (.ret))))
def a_history_History_interval : AFn := .code 2 c_history_History_interval [.cell true 2 4]
set_option maxRecDepth 100000 in
theorem k_history_History_interval : compF Try.prog h_history_History_interval F_history_History_interval = some a_history_History_interval := by kernel_rfl

/-- paddock/paddockref3.Apply -/
def h_paddockref3_Apply : Hints := { kp := [(0, [0, 1]), (1, [2, 3, 4]), (2, [4]), (3, [2, 3, 4]), (4, [2, 3, 4]), (5, [2, 3, 4, 25]), (6, [2, 3, 4, 25]), (8, [2, 3, 4, 25]), (9, [2, 3, 4]), (7, [2, 3, 4]), (10, [2, 4])], lkp := [], lth := [] }
def c_paddockref3_Apply : ACode :=
 .seq (.region (some [0, 1]) [⟨(some 2), .box (.t 0), none⟩,
   ⟨(some 3), .box (.t 1), none⟩,
   ⟨(some 4), .box (.c (.d (.agg Pk.Mp.zero.cs))), none⟩,
   ⟨(some 5), .mv (.c (.d (.b false))), none⟩] [])
 (.seq (.seq (.region (some [2, 3, 4]) [⟨(some 6), .load true 16 (.t 2), none⟩,
   ⟨(some 7), .call (.f F_paddockref3_Is) [.t 6], none⟩,
   ⟨(some 8), .un .not (.t 7), none⟩,
   ⟨(some 9), .mv (.t 8), none⟩,
   ⟨(some 10), .load true 3 (.t 3), some (9, false)⟩,
   ⟨(some 11), .call (.f F_paddockref3_IsInc) [.t 10], some (9, false)⟩,
   ⟨(some 12), .un .not (.t 11), some (9, false)⟩,
   ⟨(some 13), .pick (.t 9) (.c (.d (.b true))) (.t 12), none⟩,
   ⟨(some 14), .mv (.t 13), none⟩,
   ⟨(some 15), .faddr 0 (.t 2), some (14, false)⟩,
   ⟨(some 16), .load false 1 (.t 15), some (14, false)⟩,
   ⟨(some 17), .bin .geq (.t 16) (.c (.d (.i .u32 60))), some (14, false)⟩,
   ⟨(some 18), .pick (.t 14) (.c (.d (.b true))) (.t 17), none⟩] [])
 (.cond (.t 18) (.seq (.region (some [4]) [⟨(some 19), .build (List.map .d Pk.Mp.zero.cs) [], none⟩,
    ⟨none, .store 16 (.t 4) (.t 19), none⟩,
    ⟨(some 5), .mv (.c (.d (.b false))), none⟩] [])
  (.ret)) (.skip)))
 (.seq (.region (some [2, 3, 4]) [⟨(some 20), .faddr 0 (.t 2), none⟩,
   ⟨(some 21), .load false 1 (.t 20), none⟩,
   ⟨(some 22), .bin .add (.t 21) (.c (.d (.i .u32 1))), none⟩,
   ⟨(some 23), .faddr 0 (.t 2), none⟩,
   ⟨none, .store 1 (.t 23) (.t 22), none⟩] [])
 (.seq (.seq (.region (some [2, 3, 4]) [⟨(some 24), .faddr 0 (.t 3), none⟩,
   ⟨(some 25), .load false 1 (.t 24), none⟩] [])
 (.block 0 (.seq (.seq (.region (some [2, 3, 4, 25]) [⟨(some 27), .bin .eql (.t 25) (.c (.d (.i .u8 1))), none⟩,
    ⟨(some 26), .mv (.t 27), none⟩] [])
  (.cond (.t 26) (.skip) (.region (some [2, 3, 4, 25]) [⟨(some 28), .bin .eql (.t 25) (.c (.d (.i .u8 2))), none⟩,
     ⟨(some 26), .mv (.t 28), none⟩] [])))
  (.cond (.t 26) (.region (some [2, 3, 4]) [⟨(some 29), .faddr 1 (.t 3), none⟩,
     ⟨(some 30), .load false 1 (.t 29), none⟩,
     ⟨(some 31), .faddr 0 (.t 3), none⟩,
     ⟨(some 32), .load false 1 (.t 31), none⟩,
     ⟨(some 33), .bin .eql (.t 32) (.c (.d (.i .u8 1))), none⟩,
     ⟨(some 34), .faddr 1 (.t 2), none⟩,
     ⟨(some 35), .iaddrA 5 3 (.t 34) (.t 30), none⟩,
     ⟨(some 36), .faddr 0 (.t 35), none⟩,
     ⟨none, .store 1 (.t 36) (.t 33), none⟩] []) (.seq (.region (some [2, 3, 4, 25]) [⟨(some 38), .bin .eql (.t 25) (.c (.d (.i .u8 3))), none⟩,
     ⟨(some 37), .mv (.t 38), none⟩] [])
   (.cond (.t 37) (.region (some [2, 3, 4]) [⟨(some 39), .faddr 1 (.t 3), none⟩,
      ⟨(some 40), .load false 1 (.t 39), none⟩,
      ⟨(some 41), .faddr 2 (.t 3), none⟩,
      ⟨(some 42), .load false 1 (.t 41), none⟩,
      ⟨(some 43), .faddr 1 (.t 2), none⟩,
      ⟨(some 44), .iaddrA 5 3 (.t 43) (.t 40), none⟩,
      ⟨(some 45), .faddr 1 (.t 44), none⟩,
      ⟨none, .store 1 (.t 45) (.t 42), none⟩] []) (.skip)))))))
 (.seq (.region (some [2, 4]) [⟨(some 46), .load true 16 (.t 2), none⟩,
   ⟨none, .store 16 (.t 4) (.t 46), none⟩,
   ⟨(some 5), .mv (.c (.d (.b true))), none⟩] [])
 (.ret)))))
def a_paddockref3_Apply : AFn := .code 2 c_paddockref3_Apply [.cell true 16 4, .tmp 5]
set_option maxRecDepth 100000 in
theorem k_paddockref3_Apply : compF Try.prog h_paddockref3_Apply F_paddockref3_Apply = some a_paddockref3_Apply := by kernel_rfl

/-- (*paddock/paddockref3.History).Intervals -/
def h_paddockref3_History_Intervals : Hints := { dat := true, kp := [(0, [0, 1]), (1, [0, 1]), (2, []), (3, [0, 1]), (4, [0, 1, 5]), (5, [0, 1, 5, 6]), (6, [0, 1, 5, 6, 7]), (8, [0, 1, 5, 6, 7]), (9, [0, 1, 5, 6, 7]), (10, [0, 1, 5, 6, 7]), (11, [0, 1, 5, 6, 7, 8]), (12, [0, 1, 5, 6, 7, 8]), (7, [0, 1, 5, 6, 7]), (13, [5])], lkp := [(6, [0, 1, 5, 6, 7])], lth := [(6, [5, 2])] }
def K_paddockref3_History_Intervals_0 : Option (List Nat) := (some [0, 1, 5, 6, 7])
def l_paddockref3_History_Intervals_0 : ACode :=
 .seq (.seq (.region (some [0, 1, 5, 6, 7]) [⟨(some 12), .mv (.t 7), none⟩,
   ⟨(some 13), .mv (.t 0), none⟩,
   ⟨(some 14), .nilck (.t 13), none⟩,
   ⟨(some 15), .faddr 0 (.t 14), none⟩,
   ⟨(some 16), .load false 1 (.t 15), none⟩,
   ⟨(some 17), .len false (.t 16), none⟩,
   ⟨(some 18), .bin .leq (.t 12) (.t 17), none⟩] [])
 (.cond (.t 18) (.skip) (.exit 0)))
 (.seq (.block 1 (.seq (.seq (.region (some [0, 1, 5, 6, 7]) [⟨(some 21), .mv (.t 7), none⟩,
    ⟨(some 22), .bin .gtr (.t 21) (.c (.d (.i .i64 0))), none⟩] [])
  (.cond (.t 22) (.region (some [0, 1, 5, 6, 7]) [⟨(some 24), .load true 16 (.t 6), none⟩,
     ⟨(some 25), .mv (.t 0), none⟩,
     ⟨(some 26), .nilck (.t 25), none⟩,
     ⟨(some 27), .faddr 0 (.t 26), none⟩,
     ⟨(some 28), .load false 1 (.t 27), none⟩,
     ⟨(some 29), .mv (.t 7), none⟩,
     ⟨(some 30), .bin .sub (.t 29) (.c (.d (.i .i64 1))), none⟩,
     ⟨(some 31), .iaddrS 3 (.t 28) (.t 30), none⟩,
     ⟨(some 32), .load true 3 (.t 31), none⟩,
     ⟨(some 33), .call (.f F_paddockref3_Apply) [.t 24, .t 32], none⟩,
     ⟨(some 23), .mv (.t 33), none⟩,
     ⟨(some 34), .ext (.t 23) 0, none⟩,
     ⟨(some 35), .ext (.t 23) 1, none⟩,
     ⟨none, .store 16 (.t 6) (.t 34), none⟩] [(0, 4), (0, 8)]) (.skip)))
  (.seq (.region (some [0, 1, 5, 6, 7]) [⟨(some 36), .load true 16 (.t 6), none⟩,
    ⟨(some 37), .mv (.t 1), none⟩,
    ⟨(some 38), .call (.f F_paddockref3_Acting) [.t 36, .t 37], none⟩,
    ⟨(some 8), .mv (.t 38), none⟩] [])
  (.seq (.region (some [0, 1, 5, 6, 7, 8]) [⟨(some 39), .mv (.t 7), none⟩,
    ⟨(some 40), .bin .eql (.t 39) (.c (.d (.i .i64 0))), none⟩,
    ⟨(some 41), .mv (.t 40), none⟩,
    ⟨(some 42), .mv (.t 5), some (41, false)⟩,
    ⟨(some 43), .mv (.t 5), some (41, false)⟩,
    ⟨(some 44), .len false (.t 43), some (41, false)⟩,
    ⟨(some 45), .bin .sub (.t 44) (.c (.d (.i .i64 1))), some (41, false)⟩,
    ⟨(some 46), .iaddrS 2 (.t 42) (.t 45), some (41, false)⟩,
    ⟨(some 47), .faddr 1 (.t 46), some (41, false)⟩,
    ⟨(some 48), .load false 1 (.t 47), some (41, false)⟩,
    ⟨(some 49), .mv (.t 8), some (41, false)⟩,
    ⟨(some 50), .call (.f F_paddockref3_Same) [.t 48, .t 49], some (41, false)⟩,
    ⟨(some 51), .un .not (.t 50), some (41, false)⟩,
    ⟨(some 52), .pick (.t 41) (.c (.d (.b true))) (.t 51), none⟩] [])
  (.cond (.t 52) (.region (some [0, 1, 5, 6, 7, 8]) [⟨(some 53), .mv (.t 5), none⟩,
     ⟨(some 54), .faddr 0 (.t 6), none⟩,
     ⟨(some 55), .load false 1 (.t 54), none⟩,
     ⟨(some 56), .mv (.t 8), none⟩,
     ⟨(some 57), .build Pk.Itv.zeroA [(0, 1, .t 55), (1, 1, .t 56)], none⟩,
     ⟨(some 58), .bsl 2 [.t 57], none⟩,
     ⟨(some 59), .app 2 (.t 53) (.t 58), none⟩,
     ⟨(some 5), .mv (.t 59), none⟩] []) (.skip))))))
 (.region (some [0, 1, 5, 6, 7]) [⟨(some 19), .mv (.t 7), none⟩,
   ⟨(some 20), .bin .add (.t 19) (.c (.d (.i .i64 1))), none⟩,
   ⟨(some 7), .mv (.t 20), none⟩] []))
def c_paddockref3_History_Intervals : ACode :=
 .seq (.region (some [0, 1]) [⟨(some 4), .mv (.c (.nilS)), none⟩] [])
 (.seq (.seq (.region (some [0, 1]) [⟨(some 9), .mv (.t 1), none⟩,
   ⟨(some 10), .bin .geq (.t 9) (.c (.d (.i .u8 4))), none⟩] [])
 (.cond (.t 10) (.seq (.region (some []) [⟨(some 4), .mv (.c (.nilS)), none⟩] [])
  (.ret)) (.skip)))
 (.seq (.region (some [0, 1]) [⟨(some 5), .mv (.c (.nilS)), none⟩] [])
 (.seq (.region (some [0, 1, 5]) [⟨(some 11), .call (.f F_paddockref3_First) [], none⟩,
   ⟨(some 6), .box (.c (.d (.agg Pk.Mp.zero.cs))), none⟩,
   ⟨none, .store 16 (.t 6) (.t 11), none⟩] [])
 (.seq (.seq (.region (some [0, 1, 5, 6]) [⟨(some 7), .mv (.c (.d (.i .i64 0))), none⟩] [])
 (.block 0 (.loop K_paddockref3_History_Intervals_0 [5, 2] l_paddockref3_History_Intervals_0)))
 (.seq (.region (some [5]) [⟨(some 60), .mv (.t 5), none⟩,
   ⟨(some 4), .mv (.t 60), none⟩] [])
 (.ret))))))
def a_paddockref3_History_Intervals : AFn := .code 2 c_paddockref3_History_Intervals [.dat (.tmp 4)]
set_option maxRecDepth 100000 in
theorem k_paddockref3_History_Intervals : compF Try.prog h_paddockref3_History_Intervals F_paddockref3_History_Intervals = some a_paddockref3_History_Intervals := by kernel_rfl

/-- (*paddock/paddockref3.History).Now -/
def h_paddockref3_History_Now : Hints := { dat := true, kp := [(0, [0, 1]), (1, [0, 1, 4]), (2, [4, 5]), (3, [4]), (4, [4, 5])], lkp := [], lth := [] }
def c_paddockref3_History_Now : ACode :=
 .seq (.region (some [0, 1]) [⟨(some 4), .box (.c (.agg Pk.Itv.zeroA)), none⟩] [])
 (.seq (.region (some [0, 1, 4]) [⟨(some 6), .mv (.t 0), none⟩,
   ⟨(some 7), .mv (.t 1), none⟩,
   ⟨(some 8), .call (.f F_paddockref3_History_Intervals) [.t 6, .t 7], none⟩,
   ⟨(some 5), .mv (.t 8), none⟩] [])
 (.seq (.seq (.region (some [4, 5]) [⟨(some 9), .mv (.t 5), none⟩,
   ⟨(some 10), .len false (.t 9), none⟩,
   ⟨(some 11), .bin .eql (.t 10) (.c (.d (.i .i64 0))), none⟩] [])
 (.cond (.t 11) (.seq (.region (some [4]) [⟨(some 12), .build Pk.Itv.zeroA [], none⟩,
    ⟨none, .store 2 (.t 4) (.t 12), none⟩] [])
  (.ret)) (.skip)))
 (.seq (.region (some [4, 5]) [⟨(some 13), .mv (.t 5), none⟩,
   ⟨(some 14), .mv (.t 5), none⟩,
   ⟨(some 15), .len false (.t 14), none⟩,
   ⟨(some 16), .bin .sub (.t 15) (.c (.d (.i .i64 1))), none⟩,
   ⟨(some 17), .iaddrS 2 (.t 13) (.t 16), none⟩,
   ⟨(some 18), .load true 2 (.t 17), none⟩,
   ⟨none, .store 2 (.t 4) (.t 18), none⟩] [])
 (.ret))))
def a_paddockref3_History_Now : AFn := .code 2 c_paddockref3_History_Now [.dat (.cell true 2 4)]
set_option maxRecDepth 100000 in
theorem k_paddockref3_History_Now : compF Try.prog h_paddockref3_History_Now F_paddockref3_History_Now = some a_paddockref3_History_Now := by kernel_rfl

/-- paddock/paddockref3.First -/
def h_paddockref3_First : Hints := { kp := [(0, []), (1, [0]), (2, [0, 1]), (3, [0, 1, 2]), (5, [0, 1, 2]), (4, [0, 1, 2]), (6, [0, 1])], lkp := [(3, [0, 1, 2])], lth := [] }
def K_paddockref3_First_0 : Option (List Nat) := (some [0, 1, 2])
def l_paddockref3_First_0 : ACode :=
 .seq (.seq (.region (some [0, 1, 2]) [⟨(some 4), .mv (.t 2), none⟩,
   ⟨(some 5), .bin .lss (.t 4) (.c (.d (.i .i64 5))), none⟩] [])
 (.cond (.t 5) (.skip) (.exit 0)))
 (.seq (.block 1 (.region (some [0, 1, 2]) [⟨(some 8), .mv (.t 2), none⟩,
    ⟨(some 9), .mv (.t 2), none⟩,
    ⟨(some 10), .bin .rem (.t 9) (.c (.d (.i .i64 4))), none⟩,
    ⟨(some 11), .conv .u8 (.t 10), none⟩,
    ⟨(some 12), .build [.d (.b false), .d (.i .i64 0), .d (.i .u8 0)] [(0, 1, .c (.d (.b true))), (1, 1, .c (.d (.i .i64 8))), (2, 1, .t 11)], none⟩,
    ⟨(some 13), .faddr 1 (.t 1), none⟩,
    ⟨(some 14), .iaddrA 5 3 (.t 13) (.t 8), none⟩,
    ⟨none, .store 3 (.t 14) (.t 12), none⟩] []))
 (.region (some [0, 1, 2]) [⟨(some 6), .mv (.t 2), none⟩,
   ⟨(some 7), .bin .add (.t 6) (.c (.d (.i .i64 1))), none⟩,
   ⟨(some 2), .mv (.t 7), none⟩] []))
def c_paddockref3_First : ACode :=
 .seq (.region (some []) [⟨(some 0), .box (.c (.d (.agg Pk.Mp.zero.cs))), none⟩] [])
 (.seq (.region (some [0]) [⟨(some 3), .build (List.map .d Pk.Mp.zero.cs) [(0, 1, .c (.d (.i .u32 1)))], none⟩,
   ⟨(some 1), .box (.c (.d (.agg Pk.Mp.zero.cs))), none⟩,
   ⟨none, .store 16 (.t 1) (.t 3), none⟩] [])
 (.seq (.seq (.region (some [0, 1]) [⟨(some 2), .mv (.c (.d (.i .i64 0))), none⟩] [])
 (.block 0 (.loop K_paddockref3_First_0 [] l_paddockref3_First_0)))
 (.seq (.region (some [0, 1]) [⟨(some 15), .load true 16 (.t 1), none⟩,
   ⟨none, .store 16 (.t 0) (.t 15), none⟩] [])
 (.ret))))
def a_paddockref3_First : AFn := .code 0 c_paddockref3_First [.cell true 16 0]
set_option maxRecDepth 100000 in
theorem k_paddockref3_First : compF Try.prog h_paddockref3_First F_paddockref3_First = some a_paddockref3_First := by kernel_rfl

/-- slices.Equal[[]int,int] -/
def h_slices_Equal_sint_int : Hints := { kp := [(0, [0, 1]), (1, [0, 1]), (2, []), (3, [0, 1]), (4, [0, 1, 12, 13]), (5, [0, 1, 12, 13]), (6, [0, 1, 5, 12, 13]), (7, []), (8, [0, 1, 12, 13]), (9, [])], lkp := [(4, [0, 1, 12, 13])], lth := [] }
def K_slices_Equal_sint_int_0 : Option (List Nat) := (some [0, 1, 12, 13])
def l_slices_Equal_sint_int_0 : ACode :=
 .seq (.region (some [0, 1, 12, 13]) [⟨(some 14), .bin .lss (.t 13) (.t 12), none⟩] [])
 (.seq (.cond (.t 14) (.skip) (.exit 0))
 (.seq (.block 1 (.seq (.region (some [0, 1, 12, 13]) [⟨(some 15), .mv (.t 13), none⟩,
    ⟨(some 5), .mv (.t 15), none⟩] [])
  (.seq (.region (some [0, 1, 5, 12, 13]) [⟨(some 16), .mv (.t 0), none⟩,
    ⟨(some 17), .mv (.t 5), none⟩,
    ⟨(some 18), .iaddrS 1 (.t 16) (.t 17), none⟩,
    ⟨(some 19), .load false 1 (.t 18), none⟩,
    ⟨(some 20), .mv (.t 1), none⟩,
    ⟨(some 21), .mv (.t 5), none⟩,
    ⟨(some 22), .iaddrS 1 (.t 20) (.t 21), none⟩,
    ⟨(some 23), .load false 1 (.t 22), none⟩,
    ⟨(some 24), .bin .neq (.t 19) (.t 23), none⟩] [(3, 7)])
  (.cond (.t 24) (.seq (.region (some []) [⟨(some 4), .mv (.c (.d (.b false))), none⟩] [])
   (.ret)) (.skip)))))
 (.region (some [0, 1, 12, 13]) [⟨(some 25), .bin .add (.t 13) (.c (.d (.i .i64 1))), none⟩,
   ⟨(some 13), .mv (.t 25), none⟩] [])))
def c_slices_Equal_sint_int : ACode :=
 .seq (.region (some [0, 1]) [⟨(some 4), .mv (.c (.d (.b false))), none⟩] [])
 (.seq (.seq (.region (some [0, 1]) [⟨(some 6), .mv (.t 0), none⟩,
   ⟨(some 7), .len false (.t 6), none⟩,
   ⟨(some 8), .mv (.t 1), none⟩,
   ⟨(some 9), .len false (.t 8), none⟩,
   ⟨(some 10), .bin .neq (.t 7) (.t 9), none⟩] [])
 (.cond (.t 10) (.seq (.region (some []) [⟨(some 4), .mv (.c (.d (.b false))), none⟩] [])
  (.ret)) (.skip)))
 (.seq (.seq (.region (some [0, 1]) [⟨(some 11), .mv (.t 0), none⟩,
   ⟨(some 12), .len false (.t 11), none⟩,
   ⟨(some 13), .mv (.c (.d (.i .i64 0))), none⟩] [])
 (.block 0 (.loop K_slices_Equal_sint_int_0 [] l_slices_Equal_sint_int_0)))
 (.seq (.region (some []) [⟨(some 4), .mv (.c (.d (.b true))), none⟩] [])
 (.ret))))
def a_slices_Equal_sint_int : AFn := .code 2 c_slices_Equal_sint_int [.tmp 4]
set_option maxRecDepth 100000 in
theorem k_slices_Equal_sint_int : compF Try.prog h_slices_Equal_sint_int F_slices_Equal_sint_int = some a_slices_Equal_sint_int := by kernel_rfl

/-- paddock/maps.Is -/
def h_maps_Is : Hints := { kp := [(0, [0]), (1, [1]), (2, [1, 6, 7]), (3, [1, 6, 7]), (4, [1, 4, 6, 7]), (5, []), (6, [1, 6, 7]), (7, [1])], lkp := [(2, [1, 6, 7])], lth := [] }
def K_maps_Is_0 : Option (List Nat) := (some [1, 6, 7])
def l_maps_Is_0 : ACode :=
 .seq (.region (some [1, 6, 7]) [⟨(some 8), .bin .lss (.t 7) (.c (.d (.i .i64 5))), none⟩] [])
 (.seq (.cond (.t 8) (.skip) (.exit 0))
 (.seq (.block 1 (.seq (.region (some [1, 6, 7]) [⟨(some 9), .idxA true 5 3 (.t 6) (.t 7), none⟩,
    ⟨(some 4), .box (.c (.d (.agg [.b false, .i .i64 0, .i .u8 0]))), none⟩,
    ⟨none, .store 3 (.t 4) (.t 9), none⟩] [])
  (.seq (.region (some [1, 4, 6, 7]) [⟨(some 10), .faddr 1 (.t 4), none⟩,
    ⟨(some 11), .load false 1 (.t 10), none⟩,
    ⟨(some 12), .bin .lss (.t 11) (.c (.d (.i .i64 0))), none⟩,
    ⟨(some 13), .mv (.t 12), none⟩,
    ⟨(some 14), .faddr 1 (.t 4), some (13, false)⟩,
    ⟨(some 15), .load false 1 (.t 14), some (13, false)⟩,
    ⟨(some 16), .bin .gtr (.t 15) (.c (.d (.i .i64 16))), some (13, false)⟩,
    ⟨(some 17), .pick (.t 13) (.c (.d (.b true))) (.t 16), none⟩,
    ⟨(some 18), .mv (.t 17), none⟩,
    ⟨(some 19), .faddr 2 (.t 4), some (18, false)⟩,
    ⟨(some 20), .load false 1 (.t 19), some (18, false)⟩,
    ⟨(some 21), .bin .geq (.t 20) (.c (.d (.i .u8 8))), some (18, false)⟩,
    ⟨(some 22), .pick (.t 18) (.c (.d (.b true))) (.t 21), none⟩] [])
  (.cond (.t 22) (.seq (.region (some []) [⟨(some 2), .mv (.c (.d (.b false))), none⟩] [])
   (.ret)) (.skip)))))
 (.region (some [1, 6, 7]) [⟨(some 23), .bin .add (.t 7) (.c (.d (.i .i64 1))), none⟩,
   ⟨(some 7), .mv (.t 23), none⟩] [])))
def c_maps_Is : ACode :=
 .seq (.region (some [0]) [⟨(some 1), .box (.t 0), none⟩,
   ⟨(some 2), .mv (.c (.d (.b false))), none⟩] [])
 (.seq (.seq (.region (some [1]) [⟨(some 5), .faddr 1 (.t 1), none⟩,
   ⟨(some 6), .load true 15 (.t 5), none⟩,
   ⟨(some 7), .mv (.c (.d (.i .i64 0))), none⟩] [])
 (.block 0 (.loop K_maps_Is_0 [] l_maps_Is_0)))
 (.seq (.region (some [1]) [⟨(some 24), .faddr 0 (.t 1), none⟩,
   ⟨(some 25), .load false 1 (.t 24), none⟩,
   ⟨(some 26), .bin .geq (.t 25) (.c (.d (.i .u32 1))), none⟩,
   ⟨(some 27), .mv (.t 26), none⟩,
   ⟨(some 28), .faddr 0 (.t 1), some (27, true)⟩,
   ⟨(some 29), .load false 1 (.t 28), some (27, true)⟩,
   ⟨(some 30), .bin .leq (.t 29) (.c (.d (.i .u32 60))), some (27, true)⟩,
   ⟨(some 31), .pick (.t 27) (.t 30) (.c (.d (.b false))), none⟩,
   ⟨(some 2), .mv (.t 31), none⟩] [])
 (.ret)))
def a_maps_Is : AFn := .code 1 c_maps_Is [.tmp 2]
set_option maxRecDepth 100000 in
theorem k_maps_Is : compF Try.prog h_maps_Is F_maps_Is = some a_maps_Is := by kernel_rfl

/-- slices.IndexFunc[[]int,int] -/
def h_slices_IndexFunc_sint_int : Hints := { kp := [(0, [0, 1]), (1, [0, 1]), (2, [0, 1, 7, 8]), (3, [0, 1, 7, 8]), (4, [0, 1, 5, 7, 8]), (5, [5]), (6, [0, 1, 7, 8]), (7, [])], lkp := [(2, [0, 1, 7, 8])], lth := [] }
def K_slices_IndexFunc_sint_int_0 : Option (List Nat) := (some [0, 1, 7, 8])
def l_slices_IndexFunc_sint_int_0 : ACode :=
 .seq (.region (some [0, 1, 7, 8]) [⟨(some 9), .bin .lss (.t 8) (.t 7), none⟩] [])
 (.seq (.cond (.t 9) (.skip) (.exit 0))
 (.seq (.block 1 (.seq (.region (some [0, 1, 7, 8]) [⟨(some 10), .mv (.t 8), none⟩,
    ⟨(some 5), .mv (.t 10), none⟩] [])
  (.seq (.region (some [0, 1, 5, 7, 8]) [⟨(some 11), .mv (.t 1), none⟩,
    ⟨(some 12), .mv (.t 0), none⟩,
    ⟨(some 13), .mv (.t 5), none⟩,
    ⟨(some 14), .iaddrS 1 (.t 12) (.t 13), none⟩,
    ⟨(some 15), .load false 1 (.t 14), none⟩,
    ⟨(some 16), .call (.t 11) [.t 15], none⟩] [])
  (.cond (.t 16) (.seq (.region (some [5]) [⟨(some 17), .mv (.t 5), none⟩,
     ⟨(some 4), .mv (.t 17), none⟩] [])
   (.ret)) (.skip)))))
 (.region (some [0, 1, 7, 8]) [⟨(some 18), .bin .add (.t 8) (.c (.d (.i .i64 1))), none⟩,
   ⟨(some 8), .mv (.t 18), none⟩] [])))
def c_slices_IndexFunc_sint_int : ACode :=
 .seq (.region (some [0, 1]) [⟨(some 4), .mv (.c (.d (.i .i64 0))), none⟩] [])
 (.seq (.seq (.region (some [0, 1]) [⟨(some 6), .mv (.t 0), none⟩,
   ⟨(some 7), .len false (.t 6), none⟩,
   ⟨(some 8), .mv (.c (.d (.i .i64 0))), none⟩] [])
 (.block 0 (.loop K_slices_IndexFunc_sint_int_0 [] l_slices_IndexFunc_sint_int_0)))
 (.seq (.region (some []) [⟨(some 4), .mv (.c (.d (.i .i64 (-1)))), none⟩] [])
 (.ret)))
def a_slices_IndexFunc_sint_int : AFn := .code 2 c_slices_IndexFunc_sint_int [.tmp 4]
set_option maxRecDepth 100000 in
theorem k_slices_IndexFunc_sint_int : compF Try.prog h_slices_IndexFunc_sint_int F_slices_IndexFunc_sint_int = some a_slices_IndexFunc_sint_int := by kernel_rfl

/-- paddock/maps.In -/
def h_maps_In : Hints := { kp := [(0, [0]), (1, [1])], lkp := [], lth := [] }
def c_maps_In : ACode :=
 .seq (.region (some [0]) [⟨(some 1), .box (.t 0), none⟩,
   ⟨(some 2), .mv (.c (.nilS)), none⟩] [])
 (.seq (.region (some [1]) [⟨(some 3), .load true 16 (.t 1), none⟩,
   ⟨(some 4), .call (.f F_maps_those) [.t 3, .f F_maps_In_1], none⟩,
   ⟨(some 2), .mv (.t 4), none⟩] [])
 (.ret))
def a_maps_In : AFn := .code 1 c_maps_In [.tmp 2]
set_option maxRecDepth 100000 in
theorem k_maps_In : compF Try.prog h_maps_In F_maps_In = some a_maps_In := by kernel_rfl

/-- (*paddock/place.choice).pick -/
def h_place_choice_pick : Hints := { kp := [(0, [0, 1]), (1, [0, 1, 4]), (2, [0, 1, 4, 7]), (3, [0, 1, 4, 7]), (4, [0, 1, 4, 5, 7]), (5, [0, 1, 4, 6, 7]), (6, [0, 6]), (7, [0, 1, 4, 7])], lkp := [(2, [0, 1, 4, 7])], lth := [] }
def K_place_choice_pick_0 : Option (List Nat) := (some [0, 1, 4, 7])
def l_place_choice_pick_0 : ACode :=
 .seq (.region (some [0, 1, 4, 7]) [⟨(some 8), .bin .lss (.t 7) (.c (.d (.i .i64 20))), none⟩] [])
 (.seq (.cond (.t 8) (.skip) (.exit 0))
 (.seq (.block 1 (.seq (.region (some [0, 1, 4, 7]) [⟨(some 9), .mv (.t 7), none⟩,
    ⟨(some 5), .mv (.t 9), none⟩] [])
  (.seq (.region (some [0, 1, 4, 5, 7]) [⟨(some 10), .mv (.t 4), none⟩,
    ⟨(some 11), .mv (.t 0), none⟩,
    ⟨(some 12), .mv (.t 1), none⟩,
    ⟨(some 13), .mv (.t 5), none⟩,
    ⟨(some 14), .bin .mul (.t 13) (.c (.d (.i .i64 3))), none⟩,
    ⟨(some 15), .bin .add (.t 12) (.t 14), none⟩,
    ⟨(some 16), .call (.t 10) [.t 11, .t 15], none⟩,
    ⟨(some 6), .mv (.t 16), none⟩] [])
  (.seq (.region (some [0, 1, 4, 6, 7]) [⟨(some 17), .mv (.t 0), none⟩,
    ⟨(some 18), .mv (.t 6), none⟩,
    ⟨(some 19), .call (.f F_place_choice_fits) [.t 17, .t 18], none⟩] [])
  (.cond (.t 19) (.seq (.region (some [0, 6]) [⟨(some 20), .mv (.t 0), none⟩,
     ⟨(some 21), .mv (.t 0), none⟩,
     ⟨(some 22), .nilck (.t 21), none⟩,
     ⟨(some 23), .faddr 18 (.t 22), none⟩,
     ⟨(some 24), .load false 1 (.t 23), none⟩,
     ⟨(some 25), .mv (.t 6), none⟩,
     ⟨(some 26), .bsl 1 [.t 25], none⟩,
     ⟨(some 27), .app 1 (.t 24) (.t 26), none⟩,
     ⟨(some 28), .nilck (.t 20), none⟩,
     ⟨(some 29), .faddr 18 (.t 28), none⟩,
     ⟨none, .store 1 (.t 29) (.t 27), none⟩] [])
   (.ret)) (.skip))))))
 (.region (some [0, 1, 4, 7]) [⟨(some 30), .bin .add (.t 7) (.c (.d (.i .i64 1))), none⟩,
   ⟨(some 7), .mv (.t 30), none⟩] [])))
def c_place_choice_pick : ACode :=
 .seq (.region (some [0, 1]) [⟨(some 4), .mv (.f F_place_choice_draw), none⟩] [])
 (.seq (.region (some [0, 1, 4]) [⟨(some 7), .mv (.c (.d (.i .i64 0))), none⟩] [])
 (.block 0 (.loop K_place_choice_pick_0 [] l_place_choice_pick_0)))
def a_place_choice_pick : AFn := .code 2 c_place_choice_pick []
set_option maxRecDepth 100000 in
theorem k_place_choice_pick : compF Try.prog h_place_choice_pick F_place_choice_pick = some a_place_choice_pick := by kernel_rfl

/-- paddock/paddockref3.Is -/
def h_paddockref3_Is : Hints := { kp := [(0, [0]), (1, [1]), (2, [1, 3]), (4, [1, 3]), (5, [1, 3, 4]), (6, []), (3, [1, 3]), (7, [1])], lkp := [(2, [1, 3])], lth := [] }
def K_paddockref3_Is_0 : Option (List Nat) := (some [1, 3])
def l_paddockref3_Is_0 : ACode :=
 .seq (.seq (.region (some [1, 3]) [⟨(some 5), .mv (.t 3), none⟩,
   ⟨(some 6), .bin .lss (.t 5) (.c (.d (.i .i64 5))), none⟩] [])
 (.cond (.t 6) (.skip) (.exit 0)))
 (.seq (.block 1 (.seq (.region (some [1, 3]) [⟨(some 9), .mv (.t 3), none⟩,
    ⟨(some 10), .faddr 1 (.t 1), none⟩,
    ⟨(some 11), .iaddrA 5 3 (.t 10) (.t 9), none⟩,
    ⟨(some 12), .load true 3 (.t 11), none⟩,
    ⟨(some 4), .box (.c (.d (.agg [.b false, .i .i64 0, .i .u8 0]))), none⟩,
    ⟨none, .store 3 (.t 4) (.t 12), none⟩] [])
  (.seq (.region (some [1, 3, 4]) [⟨(some 13), .faddr 1 (.t 4), none⟩,
    ⟨(some 14), .load false 1 (.t 13), none⟩,
    ⟨(some 15), .bin .lss (.t 14) (.c (.d (.i .i64 0))), none⟩,
    ⟨(some 16), .mv (.t 15), none⟩,
    ⟨(some 17), .faddr 1 (.t 4), some (16, false)⟩,
    ⟨(some 18), .load false 1 (.t 17), some (16, false)⟩,
    ⟨(some 19), .bin .gtr (.t 18) (.c (.d (.i .i64 16))), some (16, false)⟩,
    ⟨(some 20), .pick (.t 16) (.c (.d (.b true))) (.t 19), none⟩,
    ⟨(some 21), .mv (.t 20), none⟩,
    ⟨(some 22), .faddr 2 (.t 4), some (21, false)⟩,
    ⟨(some 23), .load false 1 (.t 22), some (21, false)⟩,
    ⟨(some 24), .bin .geq (.t 23) (.c (.d (.i .u8 8))), some (21, false)⟩,
    ⟨(some 25), .pick (.t 21) (.c (.d (.b true))) (.t 24), none⟩] [])
  (.cond (.t 25) (.seq (.region (some []) [⟨(some 2), .mv (.c (.d (.b false))), none⟩] [])
   (.ret)) (.skip)))))
 (.region (some [1, 3]) [⟨(some 7), .mv (.t 3), none⟩,
   ⟨(some 8), .bin .add (.t 7) (.c (.d (.i .i64 1))), none⟩,
   ⟨(some 3), .mv (.t 8), none⟩] []))
def c_paddockref3_Is : ACode :=
 .seq (.region (some [0]) [⟨(some 1), .box (.t 0), none⟩,
   ⟨(some 2), .mv (.c (.d (.b false))), none⟩] [])
 (.seq (.seq (.region (some [1]) [⟨(some 3), .mv (.c (.d (.i .i64 0))), none⟩] [])
 (.block 0 (.loop K_paddockref3_Is_0 [] l_paddockref3_Is_0)))
 (.seq (.region (some [1]) [⟨(some 26), .faddr 0 (.t 1), none⟩,
   ⟨(some 27), .load false 1 (.t 26), none⟩,
   ⟨(some 28), .bin .geq (.t 27) (.c (.d (.i .u32 1))), none⟩,
   ⟨(some 29), .mv (.t 28), none⟩,
   ⟨(some 30), .faddr 0 (.t 1), some (29, true)⟩,
   ⟨(some 31), .load false 1 (.t 30), some (29, true)⟩,
   ⟨(some 32), .bin .leq (.t 31) (.c (.d (.i .u32 60))), some (29, true)⟩,
   ⟨(some 33), .pick (.t 29) (.t 32) (.c (.d (.b false))), none⟩,
   ⟨(some 2), .mv (.t 33), none⟩] [])
 (.ret)))
def a_paddockref3_Is : AFn := .code 1 c_paddockref3_Is [.tmp 2]
set_option maxRecDepth 100000 in
theorem k_paddockref3_Is : compF Try.prog h_paddockref3_Is F_paddockref3_Is = some a_paddockref3_Is := by kernel_rfl

/-- paddock/paddockref3.IsInc -/
def h_paddockref3_IsInc : Hints := { kp := [(0, [0]), (1, [1]), (2, [1, 4]), (3, [1, 4]), (5, [1, 4]), (7, [1, 4]), (8, [1]), (6, [1]), (4, [1]), (9, [])], lkp := [], lth := [] }
def c_paddockref3_IsInc : ACode :=
 .seq (.region (some [0]) [⟨(some 1), .box (.t 0), none⟩,
   ⟨(some 2), .mv (.c (.d (.b false))), none⟩] [])
 (.seq (.seq (.region (some [1]) [⟨(some 3), .faddr 0 (.t 1), none⟩,
   ⟨(some 4), .load false 1 (.t 3), none⟩] [])
 (.block 0 (.seq (.seq (.region (some [1, 4]) [⟨(some 6), .bin .eql (.t 4) (.c (.d (.i .u8 1))), none⟩,
    ⟨(some 5), .mv (.t 6), none⟩] [])
  (.cond (.t 5) (.skip) (.region (some [1, 4]) [⟨(some 7), .bin .eql (.t 4) (.c (.d (.i .u8 2))), none⟩,
     ⟨(some 5), .mv (.t 7), none⟩] [])))
  (.cond (.t 5) (.seq (.region (some [1]) [⟨(some 8), .faddr 1 (.t 1), none⟩,
     ⟨(some 9), .load false 1 (.t 8), none⟩,
     ⟨(some 10), .bin .lss (.t 9) (.c (.d (.i .u8 5))), none⟩,
     ⟨(some 11), .mv (.t 10), none⟩,
     ⟨(some 12), .faddr 2 (.t 1), some (11, true)⟩,
     ⟨(some 13), .load false 1 (.t 12), some (11, true)⟩,
     ⟨(some 14), .bin .eql (.t 13) (.c (.d (.i .i64 0))), some (11, true)⟩,
     ⟨(some 15), .pick (.t 11) (.t 14) (.c (.d (.b false))), none⟩,
     ⟨(some 2), .mv (.t 15), none⟩] [])
   (.ret)) (.seq (.region (some [1, 4]) [⟨(some 17), .bin .eql (.t 4) (.c (.d (.i .u8 3))), none⟩,
     ⟨(some 16), .mv (.t 17), none⟩] [])
   (.cond (.t 16) (.seq (.region (some [1]) [⟨(some 18), .faddr 1 (.t 1), none⟩,
      ⟨(some 19), .load false 1 (.t 18), none⟩,
      ⟨(some 20), .bin .lss (.t 19) (.c (.d (.i .u8 5))), none⟩,
      ⟨(some 21), .mv (.t 20), none⟩,
      ⟨(some 22), .faddr 2 (.t 1), some (21, true)⟩,
      ⟨(some 23), .load false 1 (.t 22), some (21, true)⟩,
      ⟨(some 24), .bin .geq (.t 23) (.c (.d (.i .i64 0))), some (21, true)⟩,
      ⟨(some 25), .pick (.t 21) (.t 24) (.c (.d (.b false))), none⟩,
      ⟨(some 26), .mv (.t 25), none⟩,
      ⟨(some 27), .faddr 2 (.t 1), some (26, true)⟩,
      ⟨(some 28), .load false 1 (.t 27), some (26, true)⟩,
      ⟨(some 29), .bin .leq (.t 28) (.c (.d (.i .i64 16))), some (26, true)⟩,
      ⟨(some 30), .pick (.t 26) (.t 29) (.c (.d (.b false))), none⟩,
      ⟨(some 2), .mv (.t 30), none⟩] [])
    (.ret)) (.seq (.region (some [1, 4]) [⟨(some 32), .bin .eql (.t 4) (.c (.d (.i .u8 4))), none⟩,
      ⟨(some 31), .mv (.t 32), none⟩] [])
    (.cond (.t 31) (.seq (.region (some [1]) [⟨(some 33), .faddr 1 (.t 1), none⟩,
       ⟨(some 34), .load false 1 (.t 33), none⟩,
       ⟨(some 35), .bin .eql (.t 34) (.c (.d (.i .u8 0))), none⟩,
       ⟨(some 36), .mv (.t 35), none⟩,
       ⟨(some 37), .faddr 2 (.t 1), some (36, true)⟩,
       ⟨(some 38), .load false 1 (.t 37), some (36, true)⟩,
       ⟨(some 39), .bin .eql (.t 38) (.c (.d (.i .i64 0))), some (36, true)⟩,
       ⟨(some 40), .pick (.t 36) (.t 39) (.c (.d (.b false))), none⟩,
       ⟨(some 2), .mv (.t 40), none⟩] [])
     (.ret)) (.skip)))))))))
 (.seq (.region (some []) [⟨(some 2), .mv (.c (.d (.b false))), none⟩] [])
 (.ret)))
def a_paddockref3_IsInc : AFn := .code 1 c_paddockref3_IsInc [.tmp 2]
set_option maxRecDepth 100000 in
theorem k_paddockref3_IsInc : compF Try.prog h_paddockref3_IsInc F_paddockref3_IsInc = some a_paddockref3_IsInc := by kernel_rfl

/-- paddock/paddockref3.Acting -/
def h_paddockref3_Acting : Hints := { dat := true, kp := [(0, [0, 1]), (1, [1, 2]), (2, [2, 5]), (3, [2, 5, 6]), (4, [2, 5, 6, 7]), (6, [2, 5, 6, 7]), (7, [2, 5, 6, 7]), (5, [2, 5, 6, 7]), (8, [6])], lkp := [(4, [2, 5, 6, 7])], lth := [(4, [6, 1])] }
def K_paddockref3_Acting_0 : Option (List Nat) := (some [2, 5, 6, 7])
def l_paddockref3_Acting_0 : ACode :=
 .seq (.seq (.region (some [2, 5, 6, 7]) [⟨(some 11), .mv (.t 7), none⟩,
   ⟨(some 12), .mv (.t 5), none⟩,
   ⟨(some 13), .len false (.t 12), none⟩,
   ⟨(some 14), .bin .lss (.t 11) (.t 13), none⟩] [])
 (.cond (.t 14) (.skip) (.exit 0)))
 (.seq (.block 1 (.seq (.region (some [2, 5, 6, 7]) [⟨(some 17), .mv (.t 5), none⟩,
    ⟨(some 18), .mv (.t 7), none⟩,
    ⟨(some 19), .iaddrS 1 (.t 17) (.t 18), none⟩,
    ⟨(some 20), .load false 1 (.t 19), none⟩,
    ⟨(some 21), .faddr 1 (.t 2), none⟩,
    ⟨(some 22), .iaddrA 5 3 (.t 21) (.t 20), none⟩,
    ⟨(some 23), .faddr 0 (.t 22), none⟩,
    ⟨(some 24), .load false 1 (.t 23), none⟩] [])
  (.cond (.t 24) (.region (some [2, 5, 6, 7]) [⟨(some 25), .mv (.t 6), none⟩,
     ⟨(some 26), .mv (.t 5), none⟩,
     ⟨(some 27), .mv (.t 7), none⟩,
     ⟨(some 28), .iaddrS 1 (.t 26) (.t 27), none⟩,
     ⟨(some 29), .load false 1 (.t 28), none⟩,
     ⟨(some 30), .bsl 1 [.t 29], none⟩,
     ⟨(some 31), .app 1 (.t 25) (.t 30), none⟩,
     ⟨(some 6), .mv (.t 31), none⟩] []) (.skip))))
 (.region (some [2, 5, 6, 7]) [⟨(some 15), .mv (.t 7), none⟩,
   ⟨(some 16), .bin .add (.t 15) (.c (.d (.i .i64 1))), none⟩,
   ⟨(some 7), .mv (.t 16), none⟩] []))
def c_paddockref3_Acting : ACode :=
 .seq (.region (some [0, 1]) [⟨(some 2), .box (.t 0), none⟩,
   ⟨(some 4), .mv (.c (.nilS)), none⟩] [])
 (.seq (.region (some [1, 2]) [⟨(some 8), .load true 16 (.t 2), none⟩,
   ⟨(some 9), .mv (.t 1), none⟩,
   ⟨(some 10), .call (.f F_paddockref3_Pick) [.t 8, .t 9], none⟩,
   ⟨(some 5), .mv (.t 10), none⟩] [])
 (.seq (.region (some [2, 5]) [⟨(some 6), .mv (.c (.nilS)), none⟩] [])
 (.seq (.seq (.region (some [2, 5, 6]) [⟨(some 7), .mv (.c (.d (.i .i64 0))), none⟩] [])
 (.block 0 (.loop K_paddockref3_Acting_0 [6, 1] l_paddockref3_Acting_0)))
 (.seq (.region (some [6]) [⟨(some 32), .mv (.t 6), none⟩,
   ⟨(some 4), .mv (.t 32), none⟩] [])
 (.ret)))))
def a_paddockref3_Acting : AFn := .code 2 c_paddockref3_Acting [.dat (.tmp 4)]
set_option maxRecDepth 100000 in
theorem k_paddockref3_Acting : compF Try.prog h_paddockref3_Acting F_paddockref3_Acting = some a_paddockref3_Acting := by kernel_rfl

/-- paddock/paddockref3.Same -/
def h_paddockref3_Same : Hints := { kp := [(0, [0, 1]), (1, [0, 1]), (2, []), (3, [0, 1]), (4, [0, 1, 5]), (6, [0, 1, 5]), (7, []), (5, [0, 1, 5]), (8, [])], lkp := [(4, [0, 1, 5])], lth := [] }
def K_paddockref3_Same_0 : Option (List Nat) := (some [0, 1, 5])
def l_paddockref3_Same_0 : ACode :=
 .seq (.seq (.region (some [0, 1, 5]) [⟨(some 11), .mv (.t 5), none⟩,
   ⟨(some 12), .mv (.t 0), none⟩,
   ⟨(some 13), .len false (.t 12), none⟩,
   ⟨(some 14), .bin .lss (.t 11) (.t 13), none⟩] [])
 (.cond (.t 14) (.skip) (.exit 0)))
 (.seq (.block 1 (.seq (.region (some [0, 1, 5]) [⟨(some 17), .mv (.t 0), none⟩,
    ⟨(some 18), .mv (.t 5), none⟩,
    ⟨(some 19), .iaddrS 1 (.t 17) (.t 18), none⟩,
    ⟨(some 20), .load false 1 (.t 19), none⟩,
    ⟨(some 21), .mv (.t 1), none⟩,
    ⟨(some 22), .mv (.t 5), none⟩,
    ⟨(some 23), .iaddrS 1 (.t 21) (.t 22), none⟩,
    ⟨(some 24), .load false 1 (.t 23), none⟩,
    ⟨(some 25), .bin .neq (.t 20) (.t 24), none⟩] [(3, 7)])
  (.cond (.t 25) (.seq (.region (some []) [⟨(some 4), .mv (.c (.d (.b false))), none⟩] [])
   (.ret)) (.skip))))
 (.region (some [0, 1, 5]) [⟨(some 15), .mv (.t 5), none⟩,
   ⟨(some 16), .bin .add (.t 15) (.c (.d (.i .i64 1))), none⟩,
   ⟨(some 5), .mv (.t 16), none⟩] []))
def c_paddockref3_Same : ACode :=
 .seq (.region (some [0, 1]) [⟨(some 4), .mv (.c (.d (.b false))), none⟩] [])
 (.seq (.seq (.region (some [0, 1]) [⟨(some 6), .mv (.t 0), none⟩,
   ⟨(some 7), .len false (.t 6), none⟩,
   ⟨(some 8), .mv (.t 1), none⟩,
   ⟨(some 9), .len false (.t 8), none⟩,
   ⟨(some 10), .bin .neq (.t 7) (.t 9), none⟩] [])
 (.cond (.t 10) (.seq (.region (some []) [⟨(some 4), .mv (.c (.d (.b false))), none⟩] [])
  (.ret)) (.skip)))
 (.seq (.seq (.region (some [0, 1]) [⟨(some 5), .mv (.c (.d (.i .i64 0))), none⟩] [])
 (.block 0 (.loop K_paddockref3_Same_0 [] l_paddockref3_Same_0)))
 (.seq (.region (some []) [⟨(some 4), .mv (.c (.d (.b true))), none⟩] [])
 (.ret))))
def a_paddockref3_Same : AFn := .code 2 c_paddockref3_Same [.tmp 4]
set_option maxRecDepth 100000 in
theorem k_paddockref3_Same : compF Try.prog h_paddockref3_Same F_paddockref3_Same = some a_paddockref3_Same := by kernel_rfl

/-- paddock/maps.those -/
def h_maps_those : Hints := { kp := [(0, [0, 1]), (1, [1, 2]), (2, [1, 2, 5]), (3, [1, 5, 9, 10]), (4, [1, 5, 9, 10]), (5, [1, 5, 6, 7, 9, 10]), (6, [1, 5, 6, 9, 10]), (7, [1, 5, 9, 10]), (8, [5])], lkp := [(3, [1, 5, 9, 10])], lth := [(3, [5, 1])] }
def K_maps_those_0 : Option (List Nat) := (some [1, 5, 9, 10])
def l_maps_those_0 : ACode :=
 .seq (.region (some [1, 5, 9, 10]) [⟨(some 11), .bin .lss (.t 10) (.c (.d (.i .i64 5))), none⟩] [])
 (.seq (.cond (.t 11) (.skip) (.exit 0))
 (.seq (.block 1 (.seq (.region (some [1, 5, 9, 10]) [⟨(some 12), .mv (.t 10), none⟩,
    ⟨(some 13), .idxA true 5 3 (.t 9) (.t 10), none⟩,
    ⟨(some 7), .box (.c (.d (.agg [.b false, .i .i64 0, .i .u8 0]))), none⟩,
    ⟨(some 6), .mv (.t 12), none⟩,
    ⟨none, .store 3 (.t 7) (.t 13), none⟩] [])
  (.seq (.region (some [1, 5, 6, 7, 9, 10]) [⟨(some 14), .mv (.t 1), none⟩,
    ⟨(some 15), .load true 3 (.t 7), none⟩,
    ⟨(some 16), .call (.t 14) [.t 15], none⟩] [])
  (.cond (.t 16) (.region (some [1, 5, 6, 9, 10]) [⟨(some 17), .mv (.t 5), none⟩,
     ⟨(some 18), .mv (.t 6), none⟩,
     ⟨(some 19), .bsl 1 [.t 18], none⟩,
     ⟨(some 20), .app 1 (.t 17) (.t 19), none⟩,
     ⟨(some 5), .mv (.t 20), none⟩] []) (.skip)))))
 (.region (some [1, 5, 9, 10]) [⟨(some 21), .bin .add (.t 10) (.c (.d (.i .i64 1))), none⟩,
   ⟨(some 10), .mv (.t 21), none⟩] [])))
def c_maps_those : ACode :=
 .seq (.region (some [0, 1]) [⟨(some 2), .box (.t 0), none⟩,
   ⟨(some 4), .mv (.c (.nilS)), none⟩] [])
 (.seq (.region (some [1, 2]) [⟨(some 5), .mv (.c (.nilS)), none⟩] [])
 (.seq (.seq (.region (some [1, 2, 5]) [⟨(some 8), .faddr 1 (.t 2), none⟩,
   ⟨(some 9), .load true 15 (.t 8), none⟩,
   ⟨(some 10), .mv (.c (.d (.i .i64 0))), none⟩] [])
 (.block 0 (.loop K_maps_those_0 [5, 1] l_maps_those_0)))
 (.seq (.region (some [5]) [⟨(some 22), .mv (.t 5), none⟩,
   ⟨(some 4), .mv (.t 22), none⟩] [])
 (.ret))))
def a_maps_those : AFn := .code 2 c_maps_those [.tmp 4]
set_option maxRecDepth 100000 in
theorem k_maps_those : compF Try.prog h_maps_those F_maps_those = some a_maps_those := by kernel_rfl

/-- paddock/maps.In$1 -/
def h_maps_In_1 : Hints := { kp := [(0, [0]), (1, [1])], lkp := [], lth := [] }
def c_maps_In_1 : ACode :=
 .seq (.region (some [0]) [⟨(some 1), .box (.t 0), none⟩,
   ⟨(some 2), .mv (.c (.d (.b false))), none⟩] [])
 (.seq (.region (some [1]) [⟨(some 3), .faddr 1 (.t 1), none⟩,
   ⟨(some 4), .load false 1 (.t 3), none⟩,
   ⟨(some 5), .bin .gtr (.t 4) (.c (.d (.i .i64 0))), none⟩,
   ⟨(some 2), .mv (.t 5), none⟩] [])
 (.ret))
def a_maps_In_1 : AFn := .code 1 c_maps_In_1 [.tmp 2]
set_option maxRecDepth 100000 in
theorem k_maps_In_1 : compF Try.prog h_maps_In_1 F_maps_In_1 = some a_maps_In_1 := by kernel_rfl

/-- (*paddock/place.choice).draw -/
def h_place_choice_draw : Hints := { kp := [(0, [0, 1]), (1, [0, 1]), (2, [0, 1, 5]), (3, [0, 1, 5, 11, 12, 13]), (4, [0, 1, 5, 11, 12, 13]), (5, [0, 1, 5, 7, 11, 12, 13]), (6, [0, 1, 5, 11, 12, 13]), (7, [0, 5])], lkp := [(3, [0, 1, 5, 11, 12, 13])], lth := [(3, [5, 1])] }
def K_place_choice_draw_0 : Option (List Nat) := (some [0, 1, 5, 11, 12, 13])
def l_place_choice_draw_0 : ACode :=
 .seq (.region (some [0, 1, 5, 11, 12, 13]) [⟨(some 14), .bin .lss (.t 13) (.t 12), none⟩] [])
 (.seq (.cond (.t 14) (.skip) (.exit 0))
 (.seq (.block 1 (.seq (.region (some [0, 1, 5, 11, 12, 13]) [⟨(some 15), .iaddrS 1 (.t 11) (.t 13), none⟩,
    ⟨(some 16), .load false 1 (.t 15), none⟩,
    ⟨(some 7), .mv (.t 16), none⟩] [])
  (.region (some [0, 1, 5, 7, 11, 12, 13]) [⟨(some 17), .mv (.t 5), none⟩,
    ⟨(some 18), .mv (.t 0), none⟩,
    ⟨(some 19), .nilck (.t 18), none⟩,
    ⟨(some 20), .faddr 16 (.t 19), none⟩,
    ⟨(some 21), .load false 1 (.t 20), none⟩,
    ⟨(some 22), .mv (.t 7), none⟩,
    ⟨(some 23), .mv (.t 1), none⟩,
    ⟨(some 24), .mv (.t 0), none⟩,
    ⟨(some 25), .mv (.t 7), none⟩,
    ⟨(some 26), .nilck (.t 24), none⟩,
    ⟨(some 27), .faddr 0 (.t 26), none⟩,
    ⟨(some 28), .faddr 1 (.t 27), none⟩,
    ⟨(some 29), .iaddrA 5 3 (.t 28) (.t 25), none⟩,
    ⟨(some 30), .faddr 1 (.t 29), none⟩,
    ⟨(some 31), .load false 1 (.t 30), none⟩,
    ⟨(some 32), .call (.f F_straw_Draw) [.t 21, .t 22, .t 23, .t 31], none⟩,
    ⟨(some 33), .bsl 1 [.t 32], none⟩,
    ⟨(some 34), .app 1 (.t 17) (.t 33), none⟩,
    ⟨(some 5), .mv (.t 34), none⟩] [(4, 14)])))
 (.region (some [0, 1, 5, 11, 12, 13]) [⟨(some 35), .bin .add (.t 13) (.c (.d (.i .i64 1))), none⟩,
   ⟨(some 13), .mv (.t 35), none⟩] [])))
def c_place_choice_draw : ACode :=
 .seq (.region (some [0, 1]) [⟨(some 4), .mv (.c (.d (.i .i64 0))), none⟩] [])
 (.seq (.region (some [0, 1]) [⟨(some 5), .mv (.c (.nilS)), none⟩] [])
 (.seq (.seq (.region (some [0, 1, 5]) [⟨(some 8), .mv (.t 0), none⟩,
   ⟨(some 9), .nilck (.t 8), none⟩,
   ⟨(some 10), .faddr 17 (.t 9), none⟩,
   ⟨(some 11), .load false 1 (.t 10), none⟩,
   ⟨(some 12), .len false (.t 11), none⟩,
   ⟨(some 13), .mv (.c (.d (.i .i64 0))), none⟩] [])
 (.block 0 (.loop K_place_choice_draw_0 [5, 1] l_place_choice_draw_0)))
 (.seq (.region (some [0, 5]) [⟨(some 36), .mv (.t 0), none⟩,
   ⟨(some 37), .nilck (.t 36), none⟩,
   ⟨(some 38), .faddr 17 (.t 37), none⟩,
   ⟨(some 39), .load false 1 (.t 38), none⟩,
   ⟨(some 40), .mv (.t 5), none⟩,
   ⟨(some 41), .call (.f F_straw_Best) [.t 40], none⟩,
   ⟨(some 42), .iaddrS 1 (.t 39) (.t 41), none⟩,
   ⟨(some 43), .load false 1 (.t 42), none⟩,
   ⟨(some 4), .mv (.t 43), none⟩] [(3, 5)])
 (.ret))))
def a_place_choice_draw : AFn := .code 2 c_place_choice_draw [.tmp 4]
set_option maxRecDepth 100000 in
theorem k_place_choice_draw : compF Try.prog h_place_choice_draw F_place_choice_draw = some a_place_choice_draw := by kernel_rfl

/-- (*paddock/place.choice).fits -/
def h_place_choice_fits : Hints := { kp := [(0, [0, 1]), (1, [2, 3])], lkp := [], lth := [] }
def c_place_choice_fits : ACode :=
 .seq (.region (some [0, 1]) [⟨(some 2), .box (.t 0), none⟩,
   ⟨(some 3), .box (.t 1), none⟩,
   ⟨(some 4), .mv (.c (.d (.b false))), none⟩] [])
 (.seq (.region (some [2, 3]) [⟨(some 5), .load false 1 (.t 2), none⟩,
   ⟨(some 6), .nilck (.t 5), none⟩,
   ⟨(some 7), .faddr 18 (.t 6), none⟩,
   ⟨(some 8), .load false 1 (.t 7), none⟩,
   ⟨(some 9), .mkfn F_place_choice_fits_1 [] [.t 3, .t 2], none⟩,
   ⟨(some 10), .call (.f F_slices_ContainsFunc_sint_int) [.t 8, .t 9], none⟩,
   ⟨(some 11), .un .not (.t 10), none⟩,
   ⟨(some 4), .mv (.t 11), none⟩] [])
 (.ret))
def a_place_choice_fits : AFn := .code 2 c_place_choice_fits [.tmp 4]
set_option maxRecDepth 100000 in
theorem k_place_choice_fits : compF Try.prog h_place_choice_fits F_place_choice_fits = some a_place_choice_fits := by kernel_rfl

/-- paddock/paddockref3.Pick -/
def h_paddockref3_Pick : Hints := { dat := true, kp := [(0, [0, 1]), (1, [1, 2]), (2, []), (3, [1, 2]), (4, [1, 2, 5]), (5, [1, 2, 5, 6]), (7, [1, 2, 5, 6]), (8, [1, 2, 5, 6, 7]), (10, [1, 2, 5, 6, 7]), (11, [1, 2, 5, 6, 7, 8, 9]), (12, [1, 2, 5, 6, 7, 8, 9, 10]), (14, [1, 2, 5, 6, 7, 8, 9, 10]), (15, [1, 2, 5, 6, 7, 8, 9, 10]), (16, [1, 2, 5, 6, 7, 8, 9, 10, 11]), (17, [1, 2, 5, 6, 7, 10, 11]), (13, [1, 2, 5, 6, 7, 8, 9, 10]), (18, [1, 2, 5, 6, 7, 8]), (19, [1, 2, 5, 6, 7, 8, 12]), (20, [1, 2, 5, 6, 7, 8, 12, 13]), (22, [1, 2, 5, 6, 7, 8, 13]), (21, [1, 2, 5, 6, 7, 8, 12, 13]), (23, [1, 2, 5, 6, 7, 8, 12]), (24, [1, 2, 5, 6, 8]), (9, [1, 2, 5, 6, 7]), (6, [1, 2, 5, 6]), (25, [5])], lkp := [(5, [1, 2, 5, 6]), (8, [1, 2, 5, 6, 7]), (12, [1, 2, 5, 6, 7, 8, 9, 10]), (20, [1, 2, 5, 6, 7, 8, 12, 13])], lth := [(5, [5, 1]), (8, [5, 1])] }
def K_paddockref3_Pick_0 : Option (List Nat) := (some [1, 2, 5, 6, 7, 8, 9, 10])
def l_paddockref3_Pick_0 : ACode :=
 .seq (.seq (.region (some [1, 2, 5, 6, 7, 8, 9, 10]) [⟨(some 29), .mv (.t 10), none⟩,
   ⟨(some 30), .bin .lss (.t 29) (.c (.d (.i .i64 5))), none⟩] [])
 (.cond (.t 30) (.skip) (.exit 4)))
 (.seq (.block 5 (.seq (.seq (.region (some [1, 2, 5, 6, 7, 8, 9, 10]) [⟨(some 33), .mv (.t 10), none⟩,
    ⟨(some 34), .faddr 1 (.t 2), none⟩,
    ⟨(some 35), .iaddrA 5 3 (.t 34) (.t 33), none⟩,
    ⟨(some 36), .faddr 1 (.t 35), none⟩,
    ⟨(some 37), .load false 1 (.t 36), none⟩,
    ⟨(some 38), .bin .lss (.t 37) (.c (.d (.i .i64 1))), none⟩] [])
  (.cond (.t 38) (.exit 5) (.skip)))
  (.seq (.region (some [1, 2, 5, 6, 7, 8, 9, 10]) [⟨(some 39), .mv (.t 1), none⟩,
    ⟨(some 40), .mv (.t 10), none⟩,
    ⟨(some 41), .mv (.t 6), none⟩,
    ⟨(some 42), .mv (.t 7), none⟩,
    ⟨(some 43), .bin .mul (.t 42) (.c (.d (.i .i64 3))), none⟩,
    ⟨(some 44), .bin .add (.t 41) (.t 43), none⟩,
    ⟨(some 45), .mv (.t 10), none⟩,
    ⟨(some 46), .faddr 1 (.t 2), none⟩,
    ⟨(some 47), .iaddrA 5 3 (.t 46) (.t 45), none⟩,
    ⟨(some 48), .faddr 1 (.t 47), none⟩,
    ⟨(some 49), .load false 1 (.t 48), none⟩,
    ⟨(some 50), .call (.f F_paddockref2_Draw) [.t 39, .t 40, .t 44, .t 49], none⟩,
    ⟨(some 11), .mv (.t 50), none⟩] [])
  (.seq (.region (some [1, 2, 5, 6, 7, 8, 9, 10, 11]) [⟨(some 51), .mv (.t 8), none⟩,
    ⟨(some 52), .bin .lss (.t 51) (.c (.d (.i .i64 0))), none⟩,
    ⟨(some 53), .mv (.t 52), none⟩,
    ⟨(some 54), .mv (.t 11), some (53, false)⟩,
    ⟨(some 55), .mv (.t 9), some (53, false)⟩,
    ⟨(some 56), .bin .gtr (.t 54) (.t 55), some (53, false)⟩,
    ⟨(some 57), .pick (.t 53) (.c (.d (.b true))) (.t 56), none⟩] [])
  (.cond (.t 57) (.region (some [1, 2, 5, 6, 7, 10, 11]) [⟨(some 58), .mv (.t 10), none⟩,
     ⟨(some 59), .mv (.t 11), none⟩,
     ⟨(some 8), .mv (.t 58), none⟩,
     ⟨(some 9), .mv (.t 59), none⟩] []) (.skip))))))
 (.region (some [1, 2, 5, 6, 7, 8, 9, 10]) [⟨(some 31), .mv (.t 10), none⟩,
   ⟨(some 32), .bin .add (.t 31) (.c (.d (.i .i64 1))), none⟩,
   ⟨(some 10), .mv (.t 32), none⟩] []))
def K_paddockref3_Pick_1 : Option (List Nat) := (some [1, 2, 5, 6, 7, 8, 12, 13])
def l_paddockref3_Pick_1 : ACode :=
 .seq (.seq (.region (some [1, 2, 5, 6, 7, 8, 12, 13]) [⟨(some 62), .mv (.t 12), none⟩,
   ⟨(some 63), .mv (.t 62), none⟩,
   ⟨(some 64), .mv (.t 13), some (63, true)⟩,
   ⟨(some 65), .mv (.t 5), some (63, true)⟩,
   ⟨(some 66), .len false (.t 65), some (63, true)⟩,
   ⟨(some 67), .bin .lss (.t 64) (.t 66), some (63, true)⟩,
   ⟨(some 68), .pick (.t 63) (.t 67) (.c (.d (.b false))), none⟩] [])
 (.cond (.t 68) (.skip) (.exit 6)))
 (.seq (.block 7 (.region (some [1, 2, 5, 6, 7, 8, 13]) [⟨(some 71), .mv (.t 5), none⟩,
    ⟨(some 72), .mv (.t 13), none⟩,
    ⟨(some 73), .iaddrS 1 (.t 71) (.t 72), none⟩,
    ⟨(some 74), .load false 1 (.t 73), none⟩,
    ⟨(some 75), .mv (.t 8), none⟩,
    ⟨(some 76), .bin .neq (.t 74) (.t 75), none⟩,
    ⟨(some 77), .mv (.t 76), none⟩,
    ⟨(some 78), .mv (.t 5), some (77, true)⟩,
    ⟨(some 79), .mv (.t 13), some (77, true)⟩,
    ⟨(some 80), .iaddrS 1 (.t 78) (.t 79), some (77, true)⟩,
    ⟨(some 81), .load false 1 (.t 80), some (77, true)⟩,
    ⟨(some 82), .faddr 1 (.t 2), some (77, true)⟩,
    ⟨(some 83), .iaddrA 5 3 (.t 82) (.t 81), some (77, true)⟩,
    ⟨(some 84), .faddr 2 (.t 83), some (77, true)⟩,
    ⟨(some 85), .load false 1 (.t 84), some (77, true)⟩,
    ⟨(some 86), .mv (.t 8), some (77, true)⟩,
    ⟨(some 87), .faddr 1 (.t 2), some (77, true)⟩,
    ⟨(some 88), .iaddrA 5 3 (.t 87) (.t 86), some (77, true)⟩,
    ⟨(some 89), .faddr 2 (.t 88), some (77, true)⟩,
    ⟨(some 90), .load false 1 (.t 89), some (77, true)⟩,
    ⟨(some 91), .bin .neq (.t 85) (.t 90), some (77, true)⟩,
    ⟨(some 92), .pick (.t 77) (.t 91) (.c (.d (.b false))), none⟩,
    ⟨(some 12), .mv (.t 92), none⟩] [(10, 19), (14, 19)]))
 (.region (some [1, 2, 5, 6, 7, 8, 12, 13]) [⟨(some 69), .mv (.t 13), none⟩,
   ⟨(some 70), .bin .add (.t 69) (.c (.d (.i .i64 1))), none⟩,
   ⟨(some 13), .mv (.t 70), none⟩] []))
def K_paddockref3_Pick_2 : Option (List Nat) := (some [1, 2, 5, 6, 7])
def l_paddockref3_Pick_2 : ACode :=
 .seq (.seq (.region (some [1, 2, 5, 6, 7]) [⟨(some 25), .mv (.t 7), none⟩,
   ⟨(some 26), .bin .lss (.t 25) (.c (.d (.i .i64 20))), none⟩] [])
 (.cond (.t 26) (.skip) (.exit 2)))
 (.seq (.block 3 (.seq (.region (some [1, 2, 5, 6, 7]) [⟨(some 8), .mv (.c (.d (.i .i64 (-1)))), none⟩,
    ⟨(some 9), .mv (.c (.d (.i .i64 0))), none⟩] [])
  (.seq (.seq (.region (some [1, 2, 5, 6, 7, 8, 9]) [⟨(some 10), .mv (.c (.d (.i .i64 0))), none⟩] [])
  (.block 4 (.loop K_paddockref3_Pick_0 [] l_paddockref3_Pick_0)))
  (.seq (.region (some [1, 2, 5, 6, 7, 8]) [⟨(some 60), .mv (.t 8), none⟩,
    ⟨(some 61), .bin .geq (.t 60) (.c (.d (.i .i64 0))), none⟩,
    ⟨(some 12), .mv (.t 61), none⟩] [])
  (.seq (.seq (.region (some [1, 2, 5, 6, 7, 8, 12]) [⟨(some 13), .mv (.c (.d (.i .i64 0))), none⟩] [])
  (.block 6 (.loop K_paddockref3_Pick_1 [] l_paddockref3_Pick_1)))
  (.seq (.region (some [1, 2, 5, 6, 7, 8, 12]) [⟨(some 93), .mv (.t 12), none⟩] [])
  (.cond (.t 93) (.seq (.region (some [1, 2, 5, 6, 8]) [⟨(some 94), .mv (.t 5), none⟩,
     ⟨(some 95), .mv (.t 8), none⟩,
     ⟨(some 96), .bsl 1 [.t 95], none⟩,
     ⟨(some 97), .app 1 (.t 94) (.t 96), none⟩,
     ⟨(some 5), .mv (.t 97), none⟩] [])
   (.exit 2)) (.skip))))))))
 (.region (some [1, 2, 5, 6, 7]) [⟨(some 27), .mv (.t 7), none⟩,
   ⟨(some 28), .bin .add (.t 27) (.c (.d (.i .i64 1))), none⟩,
   ⟨(some 7), .mv (.t 28), none⟩] []))
def K_paddockref3_Pick_3 : Option (List Nat) := (some [1, 2, 5, 6])
def l_paddockref3_Pick_3 : ACode :=
 .seq (.seq (.region (some [1, 2, 5, 6]) [⟨(some 21), .mv (.t 6), none⟩,
   ⟨(some 22), .bin .lss (.t 21) (.c (.d (.i .i64 3))), none⟩] [])
 (.cond (.t 22) (.skip) (.exit 0)))
 (.seq (.block 1 (.seq (.region (some [1, 2, 5, 6]) [⟨(some 7), .mv (.c (.d (.i .i64 0))), none⟩] [])
  (.block 2 (.loop K_paddockref3_Pick_2 [5, 1] l_paddockref3_Pick_2))))
 (.region (some [1, 2, 5, 6]) [⟨(some 23), .mv (.t 6), none⟩,
   ⟨(some 24), .bin .add (.t 23) (.c (.d (.i .i64 1))), none⟩,
   ⟨(some 6), .mv (.t 24), none⟩] []))
def c_paddockref3_Pick : ACode :=
 .seq (.region (some [0, 1]) [⟨(some 2), .box (.t 0), none⟩,
   ⟨(some 4), .mv (.c (.nilS)), none⟩] [])
 (.seq (.seq (.region (some [1, 2]) [⟨(some 14), .load true 16 (.t 2), none⟩,
   ⟨(some 15), .call (.f F_paddockref3_Is) [.t 14], none⟩,
   ⟨(some 16), .un .not (.t 15), none⟩,
   ⟨(some 17), .mv (.t 16), none⟩,
   ⟨(some 18), .mv (.t 1), some (17, false)⟩,
   ⟨(some 19), .bin .geq (.t 18) (.c (.d (.i .u8 4))), some (17, false)⟩,
   ⟨(some 20), .pick (.t 17) (.c (.d (.b true))) (.t 19), none⟩] [])
 (.cond (.t 20) (.seq (.region (some []) [⟨(some 4), .mv (.c (.nilS)), none⟩] [])
  (.ret)) (.skip)))
 (.seq (.region (some [1, 2]) [⟨(some 5), .mv (.c (.nilS)), none⟩] [])
 (.seq (.seq (.region (some [1, 2, 5]) [⟨(some 6), .mv (.c (.d (.i .i64 0))), none⟩] [])
 (.block 0 (.loop K_paddockref3_Pick_3 [5, 1] l_paddockref3_Pick_3)))
 (.seq (.region (some [5]) [⟨(some 98), .mv (.t 5), none⟩,
   ⟨(some 4), .mv (.t 98), none⟩] [])
 (.ret)))))
def a_paddockref3_Pick : AFn := .code 2 c_paddockref3_Pick [.dat (.tmp 4)]
set_option maxRecDepth 100000 in
theorem k_paddockref3_Pick : compF Try.prog h_paddockref3_Pick F_paddockref3_Pick = some a_paddockref3_Pick := by kernel_rfl

/-- paddock/straw.Draw -/
def h_straw_Draw : Hints := { kp := [(0, [0, 1, 2, 3]), (1, [0, 1, 2, 3])], lkp := [], lth := [] }
def c_straw_Draw : ACode :=
 .seq (.region (some [0, 1, 2, 3]) [⟨(some 8), .mv (.c (.d (.i .i64 0))), none⟩] [])
 (.seq (.region (some [0, 1, 2, 3]) [⟨(some 9), .mv (.t 0), none⟩,
   ⟨(some 10), .conv .u32 (.t 9), none⟩,
   ⟨(some 11), .mv (.t 1), none⟩,
   ⟨(some 12), .conv .u32 (.t 11), none⟩,
   ⟨(some 13), .mv (.t 2), none⟩,
   ⟨(some 14), .conv .u32 (.t 13), none⟩,
   ⟨(some 15), .call (.f F_bits_Hash) [.t 10, .t 12, .t 14], none⟩,
   ⟨(some 16), .mv (.t 3), none⟩,
   ⟨(some 17), .call (.f F_straw_Straw) [.t 15, .t 16], none⟩,
   ⟨(some 8), .mv (.t 17), none⟩] [])
 (.ret))
def a_straw_Draw : AFn := .code 4 c_straw_Draw [.tmp 8]
set_option maxRecDepth 100000 in
theorem k_straw_Draw : compF Try.prog h_straw_Draw F_straw_Draw = some a_straw_Draw := by kernel_rfl

/-- paddock/straw.Best -/
def h_straw_Best : Hints := { kp := [(0, [0]), (1, [0]), (2, [0, 3]), (3, [0, 3, 6, 7, 8]), (4, [0, 3, 6, 7, 8]), (5, [0, 3, 4, 5, 6, 7, 8]), (6, [0, 4, 6, 7, 8]), (7, [0, 3, 6, 7, 8]), (8, [3])], lkp := [(3, [0, 3, 6, 7, 8])], lth := [] }
def K_straw_Best_0 : Option (List Nat) := (some [0, 3, 6, 7, 8])
def l_straw_Best_0 : ACode :=
 .seq (.region (some [0, 3, 6, 7, 8]) [⟨(some 9), .bin .lss (.t 8) (.t 7), none⟩] [])
 (.seq (.cond (.t 9) (.skip) (.exit 0))
 (.seq (.block 1 (.seq (.region (some [0, 3, 6, 7, 8]) [⟨(some 10), .mv (.t 8), none⟩,
    ⟨(some 11), .iaddrS 1 (.t 6) (.t 8), none⟩,
    ⟨(some 12), .load false 1 (.t 11), none⟩,
    ⟨(some 4), .mv (.t 10), none⟩,
    ⟨(some 5), .mv (.t 12), none⟩] [])
  (.seq (.region (some [0, 3, 4, 5, 6, 7, 8]) [⟨(some 13), .mv (.t 3), none⟩,
    ⟨(some 14), .bin .lss (.t 13) (.c (.d (.i .i64 0))), none⟩,
    ⟨(some 15), .mv (.t 14), none⟩,
    ⟨(some 16), .mv (.t 5), some (15, false)⟩,
    ⟨(some 17), .mv (.t 0), some (15, false)⟩,
    ⟨(some 18), .mv (.t 3), some (15, false)⟩,
    ⟨(some 19), .iaddrS 1 (.t 17) (.t 18), some (15, false)⟩,
    ⟨(some 20), .load false 1 (.t 19), some (15, false)⟩,
    ⟨(some 21), .bin .gtr (.t 16) (.t 20), some (15, false)⟩,
    ⟨(some 22), .pick (.t 15) (.c (.d (.b true))) (.t 21), none⟩] [])
  (.cond (.t 22) (.region (some [0, 4, 6, 7, 8]) [⟨(some 23), .mv (.t 4), none⟩,
     ⟨(some 3), .mv (.t 23), none⟩] []) (.skip)))))
 (.region (some [0, 3, 6, 7, 8]) [⟨(some 24), .bin .add (.t 8) (.c (.d (.i .i64 1))), none⟩,
   ⟨(some 8), .mv (.t 24), none⟩] [])))
def c_straw_Best : ACode :=
 .seq (.region (some [0]) [⟨(some 2), .mv (.c (.d (.i .i64 0))), none⟩] [])
 (.seq (.region (some [0]) [⟨(some 3), .mv (.c (.d (.i .i64 (-1)))), none⟩] [])
 (.seq (.seq (.region (some [0, 3]) [⟨(some 6), .mv (.t 0), none⟩,
   ⟨(some 7), .len false (.t 6), none⟩,
   ⟨(some 8), .mv (.c (.d (.i .i64 0))), none⟩] [])
 (.block 0 (.loop K_straw_Best_0 [] l_straw_Best_0)))
 (.seq (.region (some [3]) [⟨(some 25), .mv (.t 3), none⟩,
   ⟨(some 2), .mv (.t 25), none⟩] [])
 (.ret))))
def a_straw_Best : AFn := .code 1 c_straw_Best [.tmp 2]
set_option maxRecDepth 100000 in
theorem k_straw_Best : compF Try.prog h_straw_Best F_straw_Best = some a_straw_Best := by kernel_rfl

/-- slices.ContainsFunc[[]int,int] -/
def h_slices_ContainsFunc_sint_int : Hints := { kp := [(0, [0, 1]), (1, [0, 1])], lkp := [], lth := [] }
def c_slices_ContainsFunc_sint_int : ACode :=
 .seq (.region (some [0, 1]) [⟨(some 4), .mv (.c (.d (.b false))), none⟩] [])
 (.seq (.region (some [0, 1]) [⟨(some 5), .mv (.t 0), none⟩,
   ⟨(some 6), .mv (.t 1), none⟩,
   ⟨(some 7), .call (.f F_slices_IndexFunc_sint_int) [.t 5, .t 6], none⟩,
   ⟨(some 8), .bin .geq (.t 7) (.c (.d (.i .i64 0))), none⟩,
   ⟨(some 4), .mv (.t 8), none⟩] [])
 (.ret))
def a_slices_ContainsFunc_sint_int : AFn := .code 2 c_slices_ContainsFunc_sint_int [.tmp 4]
set_option maxRecDepth 100000 in
theorem k_slices_ContainsFunc_sint_int : compF Try.prog h_slices_ContainsFunc_sint_int F_slices_ContainsFunc_sint_int = some a_slices_ContainsFunc_sint_int := by kernel_rfl

/-- (*paddock/place.choice).fits$1 -/
def h_place_choice_fits_1 : Hints := { kp := [(0, [0, 1, 2]), (1, [0, 1, 2])], lkp := [], lth := [] }
def c_place_choice_fits_1 : ACode :=
 .seq (.region (some [0, 1, 2]) [⟨(some 4), .mv (.c (.d (.b false))), none⟩] [])
 (.seq (.region (some [0, 1, 2]) [⟨(some 5), .mv (.t 0), none⟩,
   ⟨(some 6), .load false 1 (.t 1), none⟩,
   ⟨(some 7), .bin .eql (.t 5) (.t 6), none⟩,
   ⟨(some 8), .mv (.t 7), none⟩,
   ⟨(some 9), .load false 1 (.t 2), some (8, false)⟩,
   ⟨(some 10), .mv (.t 0), some (8, false)⟩,
   ⟨(some 11), .nilck (.t 9), some (8, false)⟩,
   ⟨(some 12), .faddr 0 (.t 11), some (8, false)⟩,
   ⟨(some 13), .faddr 1 (.t 12), some (8, false)⟩,
   ⟨(some 14), .iaddrA 5 3 (.t 13) (.t 10), some (8, false)⟩,
   ⟨(some 15), .faddr 2 (.t 14), some (8, false)⟩,
   ⟨(some 16), .load false 1 (.t 15), some (8, false)⟩,
   ⟨(some 17), .load false 1 (.t 2), some (8, false)⟩,
   ⟨(some 18), .load false 1 (.t 1), some (8, false)⟩,
   ⟨(some 19), .nilck (.t 17), some (8, false)⟩,
   ⟨(some 20), .faddr 0 (.t 19), some (8, false)⟩,
   ⟨(some 21), .faddr 1 (.t 20), some (8, false)⟩,
   ⟨(some 22), .iaddrA 5 3 (.t 21) (.t 18), some (8, false)⟩,
   ⟨(some 23), .faddr 2 (.t 22), some (8, false)⟩,
   ⟨(some 24), .load false 1 (.t 23), some (8, false)⟩,
   ⟨(some 25), .bin .eql (.t 16) (.t 24), some (8, false)⟩,
   ⟨(some 26), .pick (.t 8) (.c (.d (.b true))) (.t 25), none⟩,
   ⟨(some 4), .mv (.t 26), none⟩] [(4, 12), (11, 12), (4, 13), (11, 13), (12, 13), (4, 19), (11, 19)])
 (.ret))
def a_place_choice_fits_1 : AFn := .code 3 c_place_choice_fits_1 [.tmp 4]
set_option maxRecDepth 100000 in
theorem k_place_choice_fits_1 : compF Try.prog h_place_choice_fits_1 F_place_choice_fits_1 = some a_place_choice_fits_1 := by kernel_rfl

/-- paddock/paddockref2.Draw -/
def h_paddockref2_Draw : Hints := { kp := [(0, [0, 1, 2, 3]), (1, [0, 1, 2, 3])], lkp := [], lth := [] }
def c_paddockref2_Draw : ACode :=
 .seq (.region (some [0, 1, 2, 3]) [⟨(some 8), .mv (.c (.d (.i .i64 0))), none⟩] [])
 (.seq (.region (some [0, 1, 2, 3]) [⟨(some 9), .mv (.t 0), none⟩,
   ⟨(some 10), .conv .u32 (.t 9), none⟩,
   ⟨(some 11), .mv (.t 1), none⟩,
   ⟨(some 12), .conv .u32 (.t 11), none⟩,
   ⟨(some 13), .mv (.t 2), none⟩,
   ⟨(some 14), .conv .u32 (.t 13), none⟩,
   ⟨(some 15), .call (.f F_paddockref1_Hash) [.t 10, .t 12, .t 14], none⟩,
   ⟨(some 16), .mv (.t 3), none⟩,
   ⟨(some 17), .call (.f F_paddockref2_Straw) [.t 15, .t 16], none⟩,
   ⟨(some 8), .mv (.t 17), none⟩] [])
 (.ret))
def a_paddockref2_Draw : AFn := .code 4 c_paddockref2_Draw [.tmp 8]
set_option maxRecDepth 100000 in
theorem k_paddockref2_Draw : compF Try.prog h_paddockref2_Draw F_paddockref2_Draw = some a_paddockref2_Draw := by kernel_rfl

/-- paddock/straw.Straw -/
def h_straw_Straw : Hints := { kp := [(0, [0, 1]), (1, [0, 1]), (2, [0, 5])], lkp := [], lth := [] }
def c_straw_Straw : ACode :=
 .seq (.region (some [0, 1]) [⟨(some 4), .mv (.c (.d (.i .i64 0))), none⟩] [])
 (.seq (.region (some [0, 1]) [⟨(some 6), .mv (.t 1), none⟩,
   ⟨(some 7), .mm true [.t 6, .c (.d (.i .i64 1))], none⟩,
   ⟨(some 8), .mm false [.t 7, .c (.d (.i .i64 16))], none⟩,
   ⟨(some 5), .mv (.t 8), none⟩] [])
 (.seq (.region (some [0, 5]) [⟨(some 9), .mv (.t 0), none⟩,
   ⟨(some 10), .bin .rem (.t 9) (.c (.d (.i .u32 65536))), none⟩,
   ⟨(some 11), .bin .add (.t 10) (.c (.d (.i .u32 1))), none⟩,
   ⟨(some 12), .call (.f F_straw_Log) [.t 11], none⟩,
   ⟨(some 13), .bin .sub (.c (.d (.i .i64 1048576))) (.t 12), none⟩,
   ⟨(some 14), .bin .mul (.t 13) (.c (.d (.i .i64 4096))), none⟩,
   ⟨(some 15), .mv (.t 5), none⟩,
   ⟨(some 16), .bin .quo (.t 14) (.t 15), none⟩,
   ⟨(some 17), .un .neg (.t 16), none⟩,
   ⟨(some 4), .mv (.t 17), none⟩] [])
 (.ret)))
def a_straw_Straw : AFn := .code 2 c_straw_Straw [.tmp 4]
set_option maxRecDepth 100000 in
theorem k_straw_Straw : compF Try.prog h_straw_Straw F_straw_Straw = some a_straw_Straw := by kernel_rfl

/-- paddock/bits.Hash -/
def h_bits_Hash : Hints := { kp := [(0, [0, 1, 2]), (1, [0, 1, 2])], lkp := [], lth := [] }
def c_bits_Hash : ACode :=
 .seq (.region (some [0, 1, 2]) [⟨(some 6), .mv (.c (.d (.i .u32 0))), none⟩] [])
 (.seq (.region (some [0, 1, 2]) [⟨(some 7), .mv (.t 0), none⟩,
   ⟨(some 8), .conv .u64 (.t 7), none⟩,
   ⟨(some 9), .call (.f F_bits_Mix) [.t 8], none⟩,
   ⟨(some 10), .mv (.t 1), none⟩,
   ⟨(some 11), .conv .u64 (.t 10), none⟩,
   ⟨(some 12), .bin .add (.t 9) (.t 11), none⟩,
   ⟨(some 13), .call (.f F_bits_Mix) [.t 12], none⟩,
   ⟨(some 14), .mv (.t 2), none⟩,
   ⟨(some 15), .conv .u64 (.t 14), none⟩,
   ⟨(some 16), .bin .add (.t 13) (.t 15), none⟩,
   ⟨(some 17), .call (.f F_bits_Mix) [.t 16], none⟩,
   ⟨(some 18), .conv .u32 (.t 17), none⟩,
   ⟨(some 6), .mv (.t 18), none⟩] [])
 (.ret))
def a_bits_Hash : AFn := .code 3 c_bits_Hash [.tmp 6]
set_option maxRecDepth 100000 in
theorem k_bits_Hash : compF Try.prog h_bits_Hash F_bits_Hash = some a_bits_Hash := by kernel_rfl

/-- paddock/paddockref2.Straw -/
def h_paddockref2_Straw : Hints := { kp := [(0, [0, 1]), (1, [0, 1]), (2, [0, 5])], lkp := [], lth := [] }
def c_paddockref2_Straw : ACode :=
 .seq (.region (some [0, 1]) [⟨(some 4), .mv (.c (.d (.i .i64 0))), none⟩] [])
 (.seq (.region (some [0, 1]) [⟨(some 6), .mv (.t 1), none⟩,
   ⟨(some 7), .mm false [.t 6, .c (.d (.i .i64 16))], none⟩,
   ⟨(some 8), .mm true [.c (.d (.i .i64 1)), .t 7], none⟩,
   ⟨(some 5), .mv (.t 8), none⟩] [])
 (.seq (.region (some [0, 5]) [⟨(some 9), .mv (.t 0), none⟩,
   ⟨(some 10), .bin .rem (.t 9) (.c (.d (.i .u32 65536))), none⟩,
   ⟨(some 11), .bin .add (.t 10) (.c (.d (.i .u32 1))), none⟩,
   ⟨(some 12), .call (.f F_paddockref2_Log) [.t 11], none⟩,
   ⟨(some 13), .bin .sub (.c (.d (.i .i64 1048576))) (.t 12), none⟩,
   ⟨(some 14), .bin .mul (.t 13) (.c (.d (.i .i64 4096))), none⟩,
   ⟨(some 15), .mv (.t 5), none⟩,
   ⟨(some 16), .bin .quo (.t 14) (.t 15), none⟩,
   ⟨(some 17), .un .neg (.t 16), none⟩,
   ⟨(some 4), .mv (.t 17), none⟩] [])
 (.ret)))
def a_paddockref2_Straw : AFn := .code 2 c_paddockref2_Straw [.tmp 4]
set_option maxRecDepth 100000 in
theorem k_paddockref2_Straw : compF Try.prog h_paddockref2_Straw F_paddockref2_Straw = some a_paddockref2_Straw := by kernel_rfl

/-- paddock/paddockref1.Hash -/
def h_paddockref1_Hash : Hints := { kp := [(0, [0, 1, 2]), (1, [0, 1, 2])], lkp := [], lth := [] }
def c_paddockref1_Hash : ACode :=
 .seq (.region (some [0, 1, 2]) [⟨(some 6), .mv (.c (.d (.i .u32 0))), none⟩] [])
 (.seq (.region (some [0, 1, 2]) [⟨(some 7), .mv (.t 0), none⟩,
   ⟨(some 8), .conv .u64 (.t 7), none⟩,
   ⟨(some 9), .call (.f F_paddockref1_Mix) [.t 8], none⟩,
   ⟨(some 10), .mv (.t 1), none⟩,
   ⟨(some 11), .conv .u64 (.t 10), none⟩,
   ⟨(some 12), .bin .add (.t 9) (.t 11), none⟩,
   ⟨(some 13), .call (.f F_paddockref1_Mix) [.t 12], none⟩,
   ⟨(some 14), .mv (.t 2), none⟩,
   ⟨(some 15), .conv .u64 (.t 14), none⟩,
   ⟨(some 16), .bin .add (.t 13) (.t 15), none⟩,
   ⟨(some 17), .call (.f F_paddockref1_Mix) [.t 16], none⟩,
   ⟨(some 18), .conv .u32 (.t 17), none⟩,
   ⟨(some 6), .mv (.t 18), none⟩] [])
 (.ret))
def a_paddockref1_Hash : AFn := .code 3 c_paddockref1_Hash [.tmp 6]
set_option maxRecDepth 100000 in
theorem k_paddockref1_Hash : compF Try.prog h_paddockref1_Hash F_paddockref1_Hash = some a_paddockref1_Hash := by kernel_rfl

/-- paddock/straw.Log -/
def h_straw_Log : Hints := { kp := [(0, [0]), (1, [0]), (2, [0]), (3, [0, 3]), (4, [3, 4]), (5, [3, 4, 5]), (6, [3, 4, 5, 21]), (7, [3, 4, 5, 21]), (8, [3, 4, 5, 21]), (9, [3, 4])], lkp := [(6, [3, 4, 5, 21])], lth := [] }
def K_straw_Log_0 : Option (List Nat) := (some [3, 4, 5, 21])
def l_straw_Log_0 : ACode :=
 .seq (.region (some [3, 4, 5, 21]) [⟨(some 22), .bin .lss (.t 21) (.c (.d (.i .i64 16))), none⟩] [])
 (.seq (.cond (.t 22) (.skip) (.exit 0))
 (.seq (.block 1 (.region (some [3, 4, 5, 21]) [⟨(some 23), .mv (.t 5), none⟩,
    ⟨(some 24), .call (.t 23) [], none⟩] []))
 (.region (some [3, 4, 5, 21]) [⟨(some 25), .bin .add (.t 21) (.c (.d (.i .i64 1))), none⟩,
   ⟨(some 21), .mv (.t 25), none⟩] [])))
def c_straw_Log : ACode :=
 .seq (.region (some [0]) [⟨(some 2), .mv (.c (.d (.i .i64 0))), none⟩] [])
 (.seq (.region (some [0]) [⟨(some 6), .mv (.t 0), none⟩,
   ⟨(some 7), .mm true [.t 6, .c (.d (.i .u32 1))], none⟩,
   ⟨(some 8), .mm false [.t 7, .c (.d (.i .u32 65536))], none⟩,
   ⟨(some 0), .mv (.t 8), none⟩] [])
 (.seq (.region (some [0]) [⟨(some 9), .mv (.t 0), none⟩,
   ⟨(some 10), .call (.f F_math_bits_Len32) [.t 9], none⟩,
   ⟨(some 11), .bin .sub (.t 10) (.c (.d (.i .i64 1))), none⟩,
   ⟨(some 3), .mv (.t 11), none⟩] [])
 (.seq (.region (some [0, 3]) [⟨(some 12), .mv (.t 0), none⟩,
   ⟨(some 13), .conv .u64 (.t 12), none⟩,
   ⟨(some 14), .mv (.t 3), none⟩,
   ⟨(some 15), .bin .sub (.c (.d (.i .i64 31))) (.t 14), none⟩,
   ⟨(some 16), .bin .shl (.t 13) (.t 15), none⟩,
   ⟨(some 17), .build [.d (.i .u64 0), .d (.i .i64 0)] [(0, 1, .t 16)], none⟩,
   ⟨(some 18), .box (.t 17), none⟩,
   ⟨(some 4), .mv (.t 18), none⟩] [])
 (.seq (.region (some [3, 4]) [⟨(some 19), .mv (.t 4), none⟩,
   ⟨(some 20), .mkfn F_straw_mantissa_step [.t 19] [], none⟩,
   ⟨(some 5), .mv (.t 20), none⟩] [])
 (.seq (.seq (.region (some [3, 4, 5]) [⟨(some 21), .mv (.c (.d (.i .i64 0))), none⟩] [])
 (.block 0 (.loop K_straw_Log_0 [] l_straw_Log_0)))
 (.seq (.region (some [3, 4]) [⟨(some 26), .mv (.t 3), none⟩,
   ⟨(some 27), .bin .shl (.t 26) (.c (.d (.i .u64 16))), none⟩,
   ⟨(some 28), .mv (.t 4), none⟩,
   ⟨(some 29), .nilck (.t 28), none⟩,
   ⟨(some 30), .faddr 1 (.t 29), none⟩,
   ⟨(some 31), .load false 1 (.t 30), none⟩,
   ⟨(some 32), .bin .add (.t 27) (.t 31), none⟩,
   ⟨(some 2), .mv (.t 32), none⟩] [])
 (.ret)))))))
def a_straw_Log : AFn := .code 1 c_straw_Log [.tmp 2]
set_option maxRecDepth 100000 in
theorem k_straw_Log : compF Try.prog h_straw_Log F_straw_Log = some a_straw_Log := by kernel_rfl

/-- paddock/bits.Mix -/
def h_bits_Mix : Hints := { kp := [(0, [0]), (1, [0]), (2, [0]), (3, [0])], lkp := [], lth := [] }
def c_bits_Mix : ACode :=
 .seq (.region (some [0]) [⟨(some 2), .mv (.c (.d (.i .u64 0))), none⟩] [])
 (.seq (.region (some [0]) [⟨(some 3), .mv (.t 0), none⟩,
   ⟨(some 4), .mv (.t 0), none⟩,
   ⟨(some 5), .bin .shr (.t 4) (.c (.d (.i .u64 33))), none⟩,
   ⟨(some 6), .bin .xor (.t 3) (.t 5), none⟩,
   ⟨(some 7), .bin .mul (.t 6) (.c (.d (.i .u64 18397679294719823053))), none⟩,
   ⟨(some 0), .mv (.t 7), none⟩] [])
 (.seq (.region (some [0]) [⟨(some 8), .mv (.t 0), none⟩,
   ⟨(some 9), .mv (.t 0), none⟩,
   ⟨(some 10), .bin .shr (.t 9) (.c (.d (.i .u64 33))), none⟩,
   ⟨(some 11), .bin .xor (.t 8) (.t 10), none⟩,
   ⟨(some 12), .bin .mul (.t 11) (.c (.d (.i .u64 14181476777654086739))), none⟩,
   ⟨(some 0), .mv (.t 12), none⟩] [])
 (.seq (.region (some [0]) [⟨(some 13), .mv (.t 0), none⟩,
   ⟨(some 14), .mv (.t 0), none⟩,
   ⟨(some 15), .bin .shr (.t 14) (.c (.d (.i .u64 33))), none⟩,
   ⟨(some 16), .bin .xor (.t 13) (.t 15), none⟩,
   ⟨(some 2), .mv (.t 16), none⟩] [])
 (.ret))))
def a_bits_Mix : AFn := .code 1 c_bits_Mix [.tmp 2]
set_option maxRecDepth 100000 in
theorem k_bits_Mix : compF Try.prog h_bits_Mix F_bits_Mix = some a_bits_Mix := by kernel_rfl

/-- paddock/paddockref2.Log -/
def h_paddockref2_Log : Hints := { kp := [(0, [0]), (1, [0]), (2, [0]), (3, [0, 3]), (4, [0, 3]), (5, [0, 3]), (6, [3, 4]), (7, [4, 5]), (8, [4, 5, 6]), (10, [4, 5, 6]), (11, [4, 5, 6]), (12, [4, 5, 6]), (13, [4, 5, 6]), (14, [4, 5, 6]), (9, [4, 5, 6]), (15, [5])], lkp := [(3, [0, 3]), (8, [4, 5, 6])], lth := [] }
def K_paddockref2_Log_0 : Option (List Nat) := (some [0, 3])
def l_paddockref2_Log_0 : ACode :=
 .seq (.seq (.region (some [0, 3]) [⟨(some 10), .mv (.t 0), none⟩,
   ⟨(some 11), .mv (.t 3), none⟩,
   ⟨(some 12), .bin .add (.t 11) (.c (.d (.i .i64 1))), none⟩,
   ⟨(some 13), .conv .u64 (.t 12), none⟩,
   ⟨(some 14), .bin .shr (.t 10) (.t 13), none⟩,
   ⟨(some 15), .bin .gtr (.t 14) (.c (.d (.i .u32 0))), none⟩] [])
 (.cond (.t 15) (.skip) (.exit 0)))
 (.block 1 (.region (some [0, 3]) [⟨(some 16), .mv (.t 3), none⟩,
    ⟨(some 17), .bin .add (.t 16) (.c (.d (.i .i64 1))), none⟩,
    ⟨(some 3), .mv (.t 17), none⟩] []))
def K_paddockref2_Log_1 : Option (List Nat) := (some [4, 5, 6])
def l_paddockref2_Log_1 : ACode :=
 .seq (.seq (.region (some [4, 5, 6]) [⟨(some 25), .mv (.t 6), none⟩,
   ⟨(some 26), .bin .lss (.t 25) (.c (.d (.i .i64 16))), none⟩] [])
 (.cond (.t 26) (.skip) (.exit 2)))
 (.seq (.block 3 (.seq (.region (some [4, 5, 6]) [⟨(some 29), .mv (.t 4), none⟩,
    ⟨(some 30), .mv (.t 4), none⟩,
    ⟨(some 31), .bin .mul (.t 29) (.t 30), none⟩,
    ⟨(some 32), .bin .shr (.t 31) (.c (.d (.i .u64 31))), none⟩,
    ⟨(some 4), .mv (.t 32), none⟩] [])
  (.seq (.region (some [4, 5, 6]) [⟨(some 33), .mv (.t 5), none⟩,
    ⟨(some 34), .bin .mul (.t 33) (.c (.d (.i .i64 2))), none⟩,
    ⟨(some 5), .mv (.t 34), none⟩] [])
  (.seq (.region (some [4, 5, 6]) [⟨(some 35), .mv (.t 4), none⟩,
    ⟨(some 36), .bin .geq (.t 35) (.c (.d (.i .u64 4294967296))), none⟩] [])
  (.cond (.t 36) (.seq (.region (some [4, 5, 6]) [⟨(some 37), .mv (.t 4), none⟩,
     ⟨(some 38), .bin .shr (.t 37) (.c (.d (.i .u64 1))), none⟩,
     ⟨(some 4), .mv (.t 38), none⟩] [])
   (.region (some [4, 5, 6]) [⟨(some 39), .mv (.t 5), none⟩,
     ⟨(some 40), .bin .add (.t 39) (.c (.d (.i .i64 1))), none⟩,
     ⟨(some 5), .mv (.t 40), none⟩] [])) (.skip))))))
 (.region (some [4, 5, 6]) [⟨(some 27), .mv (.t 6), none⟩,
   ⟨(some 28), .bin .add (.t 27) (.c (.d (.i .i64 1))), none⟩,
   ⟨(some 6), .mv (.t 28), none⟩] []))
def c_paddockref2_Log : ACode :=
 .seq (.region (some [0]) [⟨(some 2), .mv (.c (.d (.i .i64 0))), none⟩] [])
 (.seq (.region (some [0]) [⟨(some 7), .mv (.t 0), none⟩,
   ⟨(some 8), .mm false [.t 7, .c (.d (.i .u32 65536))], none⟩,
   ⟨(some 9), .mm true [.c (.d (.i .u32 1)), .t 8], none⟩,
   ⟨(some 0), .mv (.t 9), none⟩] [])
 (.seq (.region (some [0]) [⟨(some 3), .mv (.c (.d (.i .i64 0))), none⟩] [])
 (.seq (.block 0 (.loop K_paddockref2_Log_0 [] l_paddockref2_Log_0))
 (.seq (.region (some [0, 3]) [⟨(some 18), .mv (.t 0), none⟩,
   ⟨(some 19), .conv .u64 (.t 18), none⟩,
   ⟨(some 20), .mv (.t 3), none⟩,
   ⟨(some 21), .bin .sub (.c (.d (.i .i64 31))) (.t 20), none⟩,
   ⟨(some 22), .conv .u64 (.t 21), none⟩,
   ⟨(some 23), .bin .shl (.t 19) (.t 22), none⟩,
   ⟨(some 4), .mv (.t 23), none⟩] [])
 (.seq (.region (some [3, 4]) [⟨(some 24), .mv (.t 3), none⟩,
   ⟨(some 5), .mv (.t 24), none⟩] [])
 (.seq (.seq (.region (some [4, 5]) [⟨(some 6), .mv (.c (.d (.i .i64 0))), none⟩] [])
 (.block 2 (.loop K_paddockref2_Log_1 [] l_paddockref2_Log_1)))
 (.seq (.region (some [5]) [⟨(some 41), .mv (.t 5), none⟩,
   ⟨(some 2), .mv (.t 41), none⟩] [])
 (.ret))))))))
def a_paddockref2_Log : AFn := .code 1 c_paddockref2_Log [.tmp 2]
set_option maxRecDepth 100000 in
theorem k_paddockref2_Log : compF Try.prog h_paddockref2_Log F_paddockref2_Log = some a_paddockref2_Log := by kernel_rfl

/-- paddock/paddockref1.Mix -/
def h_paddockref1_Mix : Hints := { kp := [(0, [0]), (1, [0]), (2, [0]), (3, [0])], lkp := [], lth := [] }
def c_paddockref1_Mix : ACode :=
 .seq (.region (some [0]) [⟨(some 2), .mv (.c (.d (.i .u64 0))), none⟩] [])
 (.seq (.region (some [0]) [⟨(some 3), .mv (.t 0), none⟩,
   ⟨(some 4), .mv (.t 0), none⟩,
   ⟨(some 5), .bin .shr (.t 4) (.c (.d (.i .u64 33))), none⟩,
   ⟨(some 6), .bin .xor (.t 3) (.t 5), none⟩,
   ⟨(some 7), .bin .mul (.t 6) (.c (.d (.i .u64 18397679294719823053))), none⟩,
   ⟨(some 0), .mv (.t 7), none⟩] [])
 (.seq (.region (some [0]) [⟨(some 8), .mv (.t 0), none⟩,
   ⟨(some 9), .mv (.t 0), none⟩,
   ⟨(some 10), .bin .shr (.t 9) (.c (.d (.i .u64 33))), none⟩,
   ⟨(some 11), .bin .xor (.t 8) (.t 10), none⟩,
   ⟨(some 12), .bin .mul (.t 11) (.c (.d (.i .u64 14181476777654086739))), none⟩,
   ⟨(some 0), .mv (.t 12), none⟩] [])
 (.seq (.region (some [0]) [⟨(some 13), .mv (.t 0), none⟩,
   ⟨(some 14), .mv (.t 0), none⟩,
   ⟨(some 15), .bin .shr (.t 14) (.c (.d (.i .u64 33))), none⟩,
   ⟨(some 16), .bin .xor (.t 13) (.t 15), none⟩,
   ⟨(some 2), .mv (.t 16), none⟩] [])
 (.ret))))
def a_paddockref1_Mix : AFn := .code 1 c_paddockref1_Mix [.tmp 2]
set_option maxRecDepth 100000 in
theorem k_paddockref1_Mix : compF Try.prog h_paddockref1_Mix F_paddockref1_Mix = some a_paddockref1_Mix := by kernel_rfl

/-- math/bits.Len32 -/
def h_math_bits_Len32 : Hints := { kp := [(0, [0]), (1, [0, 2]), (2, [0]), (3, [0]), (4, [0, 2]), (5, [0, 2]), (6, [0, 2]), (7, [0, 2])], lkp := [], lth := [] }
def c_math_bits_Len32 : ACode :=
 .seq (.region (some [0]) [⟨(some 2), .mv (.c (.d (.i .i64 0))), none⟩] [])
 (.seq (.seq (.region (some [0, 2]) [⟨(some 3), .mv (.t 0), none⟩,
   ⟨(some 4), .bin .geq (.t 3) (.c (.d (.i .u32 65536))), none⟩] [])
 (.cond (.t 4) (.seq (.region (some [0]) [⟨(some 5), .mv (.t 0), none⟩,
    ⟨(some 6), .bin .shr (.t 5) (.c (.d (.i .u64 16))), none⟩,
    ⟨(some 0), .mv (.t 6), none⟩] [])
  (.region (some [0]) [⟨(some 2), .mv (.c (.d (.i .i64 16))), none⟩] [])) (.skip)))
 (.seq (.seq (.region (some [0, 2]) [⟨(some 7), .mv (.t 0), none⟩,
   ⟨(some 8), .bin .geq (.t 7) (.c (.d (.i .u32 256))), none⟩] [])
 (.cond (.t 8) (.seq (.region (some [0, 2]) [⟨(some 9), .mv (.t 0), none⟩,
    ⟨(some 10), .bin .shr (.t 9) (.c (.d (.i .u64 8))), none⟩,
    ⟨(some 0), .mv (.t 10), none⟩] [])
  (.region (some [0, 2]) [⟨(some 11), .mv (.t 2), none⟩,
    ⟨(some 12), .bin .add (.t 11) (.c (.d (.i .i64 8))), none⟩,
    ⟨(some 2), .mv (.t 12), none⟩] [])) (.skip)))
 (.seq (.region (some [0, 2]) [⟨(some 13), .mv (.t 2), none⟩,
   ⟨(some 14), .mv (.t 0), none⟩,
   ⟨(some 15), .conv .u8 (.t 14), none⟩,
   ⟨(some 16), .idxS (.c (.d (.s tab0))) (.t 15), none⟩,
   ⟨(some 17), .conv .i64 (.t 16), none⟩,
   ⟨(some 18), .bin .add (.t 13) (.t 17), none⟩,
   ⟨(some 2), .mv (.t 18), none⟩] [])
 (.ret))))
def a_math_bits_Len32 : AFn := .code 1 c_math_bits_Len32 [.tmp 2]
set_option maxRecDepth 100000 in
theorem k_math_bits_Len32 : compF Try.prog h_math_bits_Len32 F_math_bits_Len32 = some a_math_bits_Len32 := by kernel_rfl

/-- (*paddock/straw.mantissa).step -/
def h_straw_mantissa_step : Hints := { kp := [(0, [0]), (1, [0]), (2, [0]), (3, [0]), (4, [0])], lkp := [], lth := [] }
def c_straw_mantissa_step : ACode :=
 .seq (.region (some [0]) [⟨(some 2), .mv (.t 0), none⟩,
   ⟨(some 3), .mv (.t 0), none⟩,
   ⟨(some 4), .nilck (.t 3), none⟩,
   ⟨(some 5), .faddr 0 (.t 4), none⟩,
   ⟨(some 6), .load false 1 (.t 5), none⟩,
   ⟨(some 7), .mv (.t 0), none⟩,
   ⟨(some 8), .nilck (.t 7), none⟩,
   ⟨(some 9), .faddr 0 (.t 8), none⟩,
   ⟨(some 10), .load false 1 (.t 9), none⟩,
   ⟨(some 11), .bin .mul (.t 6) (.t 10), none⟩,
   ⟨(some 12), .bin .shr (.t 11) (.c (.d (.i .u64 31))), none⟩,
   ⟨(some 13), .nilck (.t 2), none⟩,
   ⟨(some 14), .faddr 0 (.t 13), none⟩,
   ⟨none, .store 1 (.t 14) (.t 12), none⟩] [(4, 8)])
 (.seq (.region (some [0]) [⟨(some 15), .mv (.t 0), none⟩,
   ⟨(some 16), .nilck (.t 15), none⟩,
   ⟨(some 17), .faddr 1 (.t 16), none⟩,
   ⟨(some 18), .load false 1 (.t 17), none⟩,
   ⟨(some 19), .bin .shl (.t 18) (.c (.d (.i .u64 1))), none⟩,
   ⟨(some 20), .nilck (.t 15), none⟩,
   ⟨(some 21), .faddr 1 (.t 20), none⟩,
   ⟨none, .store 1 (.t 21) (.t 19), none⟩] [])
 (.seq (.region (some [0]) [⟨(some 22), .mv (.t 0), none⟩,
   ⟨(some 23), .nilck (.t 22), none⟩,
   ⟨(some 24), .faddr 0 (.t 23), none⟩,
   ⟨(some 25), .load false 1 (.t 24), none⟩,
   ⟨(some 26), .bin .geq (.t 25) (.c (.d (.i .u64 4294967296))), none⟩] [])
 (.cond (.t 26) (.seq (.region (some [0]) [⟨(some 27), .mv (.t 0), none⟩,
    ⟨(some 28), .nilck (.t 27), none⟩,
    ⟨(some 29), .faddr 0 (.t 28), none⟩,
    ⟨(some 30), .load false 1 (.t 29), none⟩,
    ⟨(some 31), .bin .shr (.t 30) (.c (.d (.i .u64 1))), none⟩,
    ⟨(some 32), .nilck (.t 27), none⟩,
    ⟨(some 33), .faddr 0 (.t 32), none⟩,
    ⟨none, .store 1 (.t 33) (.t 31), none⟩] [])
  (.region (some [0]) [⟨(some 34), .mv (.t 0), none⟩,
    ⟨(some 35), .nilck (.t 34), none⟩,
    ⟨(some 36), .faddr 1 (.t 35), none⟩,
    ⟨(some 37), .load false 1 (.t 36), none⟩,
    ⟨(some 38), .bin .or (.t 37) (.c (.d (.i .i64 1))), none⟩,
    ⟨(some 39), .nilck (.t 34), none⟩,
    ⟨(some 40), .faddr 1 (.t 39), none⟩,
    ⟨none, .store 1 (.t 40) (.t 38), none⟩] [])) (.skip))))
def a_straw_mantissa_step : AFn := .code 1 c_straw_mantissa_step []
set_option maxRecDepth 100000 in
theorem k_straw_mantissa_step : compF Try.prog h_straw_mantissa_step F_straw_mantissa_step = some a_straw_mantissa_step := by kernel_rfl

noncomputable def C : FuncId → Option AFn
  | 3 => some a_paddocklaw5_HistoryCuts
  | 4 => some a_paddocklaw5_HistoryFull
  | 5 => some a_paddocklaw5_HistoryDown
  | 6 => some a_paddocklaw5_HistoryMaps
  | 7 => some a_paddocklaw5_HistorySame
  | 8 => some a_paddocklaw5_HistoryCopies
  | 9 => some a_paddocklaw5_HistoryPlays
  | 10 => some a_paddocklaw5_known
  | 11 => some a_history_New
  | 12 => some a_history_History_Add
  | 13 => some a_history_History_Last
  | 14 => some a_history_History_Intervals
  | 15 => some a_history_History_Map
  | 16 => some a_paddocklaw5_ints
  | 17 => some a_place_Acting
  | 18 => some a_history_History_Since
  | 19 => some a_maps_IsInc
  | 20 => some a_history_History_Acting
  | 21 => some a_maps_Fold
  | 22 => some a_history_History_Inc
  | 23 => some a_paddocklaw5_intervals
  | 24 => some a_history_History_Copy
  | 25 => some a_paddockref3_History_Last
  | 26 => some a_paddockref3_History_Add
  | 27 => some a_paddocklaw5_alike
  | 28 => some a_paddockref3_History_Map
  | 29 => some a_history_History_lays
  | 30 => some a_maps_First
  | 31 => some a_maps_Apply
  | 32 => some (.ext (Pk.cloneX 2))
  | 33 => some (.ext (Pk.cloneD 1))
  | 34 => some a_slices_DeleteFunc_sint_int
  | 35 => some a_place_Pick
  | 36 => some a_place_Acting_1
  | 37 => some a_history_History_interval
  | 38 => some (.exth Pk.mapCloneX)
  | 39 => some (.exth Pk.mapCloneX)
  | 40 => some a_paddockref3_Apply
  | 41 => some a_paddockref3_History_Intervals
  | 42 => some a_paddockref3_History_Now
  | 43 => some a_paddockref3_First
  | 44 => some a_slices_Equal_sint_int
  | 45 => some a_maps_Is
  | 46 => some a_slices_IndexFunc_sint_int
  | 47 => some a_maps_In
  | 48 => some a_place_choice_pick
  | 50 => some a_paddockref3_Is
  | 51 => some a_paddockref3_IsInc
  | 52 => some a_paddockref3_Acting
  | 53 => some a_paddockref3_Same
  | 54 => some a_maps_those
  | 55 => some a_maps_In_1
  | 56 => some a_place_choice_draw
  | 57 => some a_place_choice_fits
  | 58 => some a_paddockref3_Pick
  | 59 => some a_straw_Draw
  | 60 => some a_straw_Best
  | 61 => some a_slices_ContainsFunc_sint_int
  | 62 => some a_place_choice_fits_1
  | 63 => some a_paddockref2_Draw
  | 64 => some a_straw_Straw
  | 65 => some a_bits_Hash
  | 66 => some a_paddockref2_Straw
  | 67 => some a_paddockref1_Hash
  | 68 => some a_straw_Log
  | 69 => some a_bits_Mix
  | 70 => some a_paddockref2_Log
  | 71 => some a_paddockref1_Mix
  | 72 => some a_math_bits_Len32
  | 73 => some a_straw_mantissa_step
  | _ => none
theorem hC : CRel Try.prog C := by
  intro f fn h
  unfold C at h
  split at h
  · injection h with h; subst h; exact ⟨h_paddocklaw5_HistoryCuts, k_paddocklaw5_HistoryCuts⟩
  · injection h with h; subst h; exact ⟨h_paddocklaw5_HistoryFull, k_paddocklaw5_HistoryFull⟩
  · injection h with h; subst h; exact ⟨h_paddocklaw5_HistoryDown, k_paddocklaw5_HistoryDown⟩
  · injection h with h; subst h; exact ⟨h_paddocklaw5_HistoryMaps, k_paddocklaw5_HistoryMaps⟩
  · injection h with h; subst h; exact ⟨h_paddocklaw5_HistorySame, k_paddocklaw5_HistorySame⟩
  · injection h with h; subst h; exact ⟨h_paddocklaw5_HistoryCopies, k_paddocklaw5_HistoryCopies⟩
  · injection h with h; subst h; exact ⟨h_paddocklaw5_HistoryPlays, k_paddocklaw5_HistoryPlays⟩
  · injection h with h; subst h; exact ⟨h_paddocklaw5_known, k_paddocklaw5_known⟩
  · injection h with h; subst h; exact ⟨h_history_New, k_history_New⟩
  · injection h with h; subst h; exact ⟨h_history_History_Add, k_history_History_Add⟩
  · injection h with h; subst h; exact ⟨h_history_History_Last, k_history_History_Last⟩
  · injection h with h; subst h; exact ⟨h_history_History_Intervals, k_history_History_Intervals⟩
  · injection h with h; subst h; exact ⟨h_history_History_Map, k_history_History_Map⟩
  · injection h with h; subst h; exact ⟨h_paddocklaw5_ints, k_paddocklaw5_ints⟩
  · injection h with h; subst h; exact ⟨h_place_Acting, k_place_Acting⟩
  · injection h with h; subst h; exact ⟨h_history_History_Since, k_history_History_Since⟩
  · injection h with h; subst h; exact ⟨h_maps_IsInc, k_maps_IsInc⟩
  · injection h with h; subst h; exact ⟨h_history_History_Acting, k_history_History_Acting⟩
  · injection h with h; subst h; exact ⟨h_maps_Fold, k_maps_Fold⟩
  · injection h with h; subst h; exact ⟨h_history_History_Inc, k_history_History_Inc⟩
  · injection h with h; subst h; exact ⟨h_paddocklaw5_intervals, k_paddocklaw5_intervals⟩
  · injection h with h; subst h; exact ⟨h_history_History_Copy, k_history_History_Copy⟩
  · injection h with h; subst h; exact ⟨h_paddockref3_History_Last, k_paddockref3_History_Last⟩
  · injection h with h; subst h; exact ⟨h_paddockref3_History_Add, k_paddockref3_History_Add⟩
  · injection h with h; subst h; exact ⟨h_paddocklaw5_alike, k_paddocklaw5_alike⟩
  · injection h with h; subst h; exact ⟨h_paddockref3_History_Map, k_paddockref3_History_Map⟩
  · injection h with h; subst h; exact ⟨h_history_History_lays, k_history_History_lays⟩
  · injection h with h; subst h; exact ⟨h_maps_First, k_maps_First⟩
  · injection h with h; subst h; exact ⟨h_maps_Apply, k_maps_Apply⟩
  · injection h with h; subst h; exact Pk.cloneX_ok (by decide) ⟨h_slices_Clone_sapi_Interval_api_Interval, k_slices_Clone_sapi_Interval_api_Interval⟩
  · injection h with h; subst h; exact Pk.cloneD_ok (by decide) ⟨h_slices_Clone_sint_int, k_slices_Clone_sint_int⟩
  · injection h with h; subst h; exact ⟨h_slices_DeleteFunc_sint_int, k_slices_DeleteFunc_sint_int⟩
  · injection h with h; subst h; exact ⟨h_place_Pick, k_place_Pick⟩
  · injection h with h; subst h; exact ⟨h_place_Acting_1, k_place_Acting_1⟩
  · injection h with h; subst h; exact ⟨h_history_History_interval, k_history_History_interval⟩
  · injection h with h; subst h; exact Pk.mapCloneX_ok ⟨Try.f38, _, Try.func38, rfl, by kernel_rfl⟩ (fun b es ck w hb => Go.Proofs.AnyW.maps_Clone lay38 b es ck w hb)
  · injection h with h; subst h; exact Pk.mapCloneX_ok ⟨Try.f39, _, Try.func39, rfl, by kernel_rfl⟩ (fun b es ck w hb => Go.Proofs.AnyW.maps_Clone lay39 b es ck w hb)
  · injection h with h; subst h; exact ⟨h_paddockref3_Apply, k_paddockref3_Apply⟩
  · injection h with h; subst h; exact ⟨h_paddockref3_History_Intervals, k_paddockref3_History_Intervals⟩
  · injection h with h; subst h; exact ⟨h_paddockref3_History_Now, k_paddockref3_History_Now⟩
  · injection h with h; subst h; exact ⟨h_paddockref3_First, k_paddockref3_First⟩
  · injection h with h; subst h; exact ⟨h_slices_Equal_sint_int, k_slices_Equal_sint_int⟩
  · injection h with h; subst h; exact ⟨h_maps_Is, k_maps_Is⟩
  · injection h with h; subst h; exact ⟨h_slices_IndexFunc_sint_int, k_slices_IndexFunc_sint_int⟩
  · injection h with h; subst h; exact ⟨h_maps_In, k_maps_In⟩
  · injection h with h; subst h; exact ⟨h_place_choice_pick, k_place_choice_pick⟩
  · injection h with h; subst h; exact ⟨h_paddockref3_Is, k_paddockref3_Is⟩
  · injection h with h; subst h; exact ⟨h_paddockref3_IsInc, k_paddockref3_IsInc⟩
  · injection h with h; subst h; exact ⟨h_paddockref3_Acting, k_paddockref3_Acting⟩
  · injection h with h; subst h; exact ⟨h_paddockref3_Same, k_paddockref3_Same⟩
  · injection h with h; subst h; exact ⟨h_maps_those, k_maps_those⟩
  · injection h with h; subst h; exact ⟨h_maps_In_1, k_maps_In_1⟩
  · injection h with h; subst h; exact ⟨h_place_choice_draw, k_place_choice_draw⟩
  · injection h with h; subst h; exact ⟨h_place_choice_fits, k_place_choice_fits⟩
  · injection h with h; subst h; exact ⟨h_paddockref3_Pick, k_paddockref3_Pick⟩
  · injection h with h; subst h; exact ⟨h_straw_Draw, k_straw_Draw⟩
  · injection h with h; subst h; exact ⟨h_straw_Best, k_straw_Best⟩
  · injection h with h; subst h; exact ⟨h_slices_ContainsFunc_sint_int, k_slices_ContainsFunc_sint_int⟩
  · injection h with h; subst h; exact ⟨h_place_choice_fits_1, k_place_choice_fits_1⟩
  · injection h with h; subst h; exact ⟨h_paddockref2_Draw, k_paddockref2_Draw⟩
  · injection h with h; subst h; exact ⟨h_straw_Straw, k_straw_Straw⟩
  · injection h with h; subst h; exact ⟨h_bits_Hash, k_bits_Hash⟩
  · injection h with h; subst h; exact ⟨h_paddockref2_Straw, k_paddockref2_Straw⟩
  · injection h with h; subst h; exact ⟨h_paddockref1_Hash, k_paddockref1_Hash⟩
  · injection h with h; subst h; exact ⟨h_straw_Log, k_straw_Log⟩
  · injection h with h; subst h; exact ⟨h_bits_Mix, k_bits_Mix⟩
  · injection h with h; subst h; exact ⟨h_paddockref2_Log, k_paddockref2_Log⟩
  · injection h with h; subst h; exact ⟨h_paddockref1_Mix, k_paddockref1_Mix⟩
  · injection h with h; subst h; exact ⟨h_math_bits_Len32, k_math_bits_Len32⟩
  · injection h with h; subst h; exact ⟨h_straw_mantissa_step, k_straw_mantissa_step⟩
  · cases h
end Go.Proofs.Ytckaebcljcpobaa

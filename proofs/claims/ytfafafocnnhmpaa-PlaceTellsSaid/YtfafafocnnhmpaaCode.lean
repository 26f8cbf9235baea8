/- The code of the functions that these laws reach, compiled for the pure evaluator (printed by program), each held against the given program by the kernel. -/
import Derived.Test.YtfafafocnnhmpaaChecked
import Derived.KernelRfl
import Derived.Test.YtfafafocnnhmpaaPkLib
set_option linter.all false
namespace Go.Proofs.Ytfafafocnnhmpaa
open Pv Go

def F_main_main : FuncId := 0
def F_gosem_cut : FuncId := 1
def F_gosem_cut_init : FuncId := 2
def F_paddocklaw4_PlaceRaw : FuncId := 3
def F_paddocklaw4_PlaceTells : FuncId := 4
def F_paddocklaw4_PlaceApart : FuncId := 5
def F_paddocklaw4_PlaceStays : FuncId := 6
def F_paddocklaw4_PlaceWeight : FuncId := 7
def F_paddocklaw4_PlaceDown : FuncId := 8
def F_paddocklaw4_PlaceFew : FuncId := 9
def F_paddocklaw4_PlaceMoves : FuncId := 10
def F_paddocklaw4_known : FuncId := 11
def F_maps_Is : FuncId := 12
def F_place_Pick : FuncId := 13
def F_place_Acting : FuncId := 14
def F_place_Primary : FuncId := 15
def F_place_Moved : FuncId := 16
def F_paddockref3_Acting : FuncId := 17
def F_paddocklaw4_ints : FuncId := 18
def F_paddockref3_Pick : FuncId := 19
def F_maps_First : FuncId := 20
def F_maps_In : FuncId := 21
def F_place_choice_pick : FuncId := 22
def F_slices_DeleteFunc_sint_int : FuncId := 23
def F_place_Acting_1 : FuncId := 24
def F_slices_Equal_sint_int : FuncId := 25
def F_paddockref3_Is : FuncId := 26
def F_paddockref2_Draw : FuncId := 27
def F_maps_those : FuncId := 28
def F_maps_In_1 : FuncId := 29
def F_place_choice_draw : FuncId := 30
def F_place_choice_fits : FuncId := 31
def F_slices_IndexFunc_sint_int : FuncId := 32
def F_paddockref2_Straw : FuncId := 33
def F_paddockref1_Hash : FuncId := 34
def F_straw_Draw : FuncId := 35
def F_straw_Best : FuncId := 36
def F_slices_ContainsFunc_sint_int : FuncId := 37
def F_place_choice_fits_1 : FuncId := 38
def F_paddockref2_Log : FuncId := 39
def F_paddockref1_Mix : FuncId := 40
def F_straw_Straw : FuncId := 41
def F_bits_Hash : FuncId := 42
def F_straw_Log : FuncId := 43
def F_bits_Mix : FuncId := 44
def F_math_bits_Len32 : FuncId := 45
def F_straw_mantissa_step : FuncId := 46
def F_runtime_boundsError_Error : FuncId := 47
def F_runtime_boundsError_RuntimeError : FuncId := 48
def F_runtime_errorString_Error : FuncId := 49
def F_runtime_errorString_RuntimeError : FuncId := 50
def F_runtime_plainError_Error : FuncId := 51
def F_runtime_plainError_RuntimeError : FuncId := 52
def F_runtime_errorAddressString_Error : FuncId := 53
def F_runtime_errorAddressString_RuntimeError : FuncId := 54
def F_runtime_TypeAssertionError_Error : FuncId := 55
def F_runtime_TypeAssertionError_RuntimeError : FuncId := 56
def F_runtime_PanicNilError_Error : FuncId := 57
def F_runtime_PanicNilError_RuntimeError : FuncId := 58
def F_internal_abi_Type_Align : FuncId := 59
def F_internal_runtime_maps_unhashableTypeError_Error : FuncId := 60
def F_internal_runtime_maps_unhashableTypeError_RuntimeError : FuncId := 61
def F_internal_abi_Kind_String : FuncId := 62
def tab0 : ByteArray := ⟨#[0, 1, 2, 2, 3, 3, 3, 3, 4, 4, 4, 4, 4, 4, 4, 4, 5, 5, 5, 5, 5, 5, 5, 5, 5, 5, 5, 5, 5, 5, 5, 5, 6, 6, 6, 6, 6, 6, 6, 6, 6, 6, 6, 6, 6, 6, 6, 6, 6, 6, 6, 6, 6, 6, 6, 6, 6, 6, 6, 6, 6, 6, 6, 6, 7, 7, 7, 7, 7, 7, 7, 7, 7, 7, 7, 7, 7, 7, 7, 7, 7, 7, 7, 7, 7, 7, 7, 7, 7, 7, 7, 7, 7, 7, 7, 7, 7, 7, 7, 7, 7, 7, 7, 7, 7, 7, 7, 7, 7, 7, 7, 7, 7, 7, 7, 7, 7, 7, 7, 7, 7, 7, 7, 7, 7, 7, 7, 7, 8, 8, 8, 8, 8, 8, 8, 8, 8, 8, 8, 8, 8, 8, 8, 8, 8, 8, 8, 8, 8, 8, 8, 8, 8, 8, 8, 8, 8, 8, 8, 8, 8, 8, 8, 8, 8, 8, 8, 8, 8, 8, 8, 8, 8, 8, 8, 8, 8, 8, 8, 8, 8, 8, 8, 8, 8, 8, 8, 8, 8, 8, 8, 8, 8, 8, 8, 8, 8, 8, 8, 8, 8, 8, 8, 8, 8, 8, 8, 8, 8, 8, 8, 8, 8, 8, 8, 8, 8, 8, 8, 8, 8, 8, 8, 8, 8, 8, 8, 8, 8, 8, 8, 8, 8, 8, 8, 8, 8, 8, 8, 8, 8, 8, 8, 8, 8, 8, 8, 8, 8, 8, 8, 8, 8, 8, 8, 8]⟩
/-- paddock/paddocklaw4.PlaceRaw -/
def h_paddocklaw4_PlaceRaw : Hints := { kp := [(0, [0, 1]), (1, [1, 2]), (2, []), (3, [1, 2]), (4, [1, 2, 5]), (5, [1, 2, 5, 6, 7])], lkp := [], lth := [] }
def c_paddocklaw4_PlaceRaw : ACode :=
 .seq (.region (some [0, 1]) [⟨(some 2), .box (.t 0), none⟩,
   ⟨(some 4), .mv (.c (.d (.b false))), none⟩] [])
 (.seq (.seq (.region (some [1, 2]) [⟨(some 8), .call (.f F_paddocklaw4_known) [], none⟩,
   ⟨(some 9), .un .not (.t 8), none⟩] [])
 (.cond (.t 9) (.seq (.region (some []) [⟨(some 4), .mv (.c (.d (.b false))), none⟩] [])
  (.ret)) (.skip)))
 (.seq (.region (some [1, 2]) [⟨(some 10), .load true 16 (.t 2), none⟩,
   ⟨(some 11), .call (.f F_maps_Is) [.t 10], none⟩,
   ⟨(some 12), .mv (.t 11), none⟩,
   ⟨(some 13), .mv (.t 1), some (12, true)⟩,
   ⟨(some 14), .bin .lss (.t 13) (.c (.d (.i .u8 4))), some (12, true)⟩,
   ⟨(some 15), .pick (.t 12) (.t 14) (.c (.d (.b false))), none⟩,
   ⟨(some 5), .mv (.t 15), none⟩] [])
 (.seq (.region (some [1, 2, 5]) [⟨(some 16), .load true 16 (.t 2), none⟩,
   ⟨(some 17), .mv (.t 1), none⟩,
   ⟨(some 18), .call (.f F_place_Pick) [.t 16, .t 17], none⟩,
   ⟨(some 19), .load true 16 (.t 2), none⟩,
   ⟨(some 20), .mv (.t 1), none⟩,
   ⟨(some 21), .call (.f F_place_Acting) [.t 19, .t 20], none⟩,
   ⟨(some 6), .mv (.t 18), none⟩,
   ⟨(some 7), .mv (.t 21), none⟩] [(0, 3), (2, 3)])
 (.seq (.region (some [1, 2, 5, 6, 7]) [⟨(some 22), .mv (.t 5), none⟩,
   ⟨(some 23), .mv (.t 22), none⟩,
   ⟨(some 24), .mv (.t 6), some (23, false)⟩,
   ⟨(some 25), .len false (.t 24), some (23, false)⟩,
   ⟨(some 26), .bin .eql (.t 25) (.c (.d (.i .i64 0))), some (23, false)⟩,
   ⟨(some 27), .mv (.t 26), some (23, false)⟩,
   ⟨(some 28), .mv (.t 7), some (27, true)⟩,
   ⟨(some 29), .len false (.t 28), some (27, true)⟩,
   ⟨(some 30), .bin .eql (.t 29) (.c (.d (.i .i64 0))), some (27, true)⟩,
   ⟨(some 31), .pick (.t 27) (.t 30) (.c (.d (.b false))), some (23, false)⟩,
   ⟨(some 32), .mv (.t 31), some (23, false)⟩,
   ⟨(some 33), .load true 16 (.t 2), some (32, true)⟩,
   ⟨(some 34), .mv (.t 1), some (32, true)⟩,
   ⟨(some 35), .call (.f F_place_Primary) [.t 33, .t 34], some (32, true)⟩,
   ⟨(some 36), .bin .eql (.t 35) (.c (.d (.i .i64 (-1)))), some (32, true)⟩,
   ⟨(some 37), .pick (.t 32) (.t 36) (.c (.d (.b false))), some (23, false)⟩,
   ⟨(some 38), .pick (.t 23) (.c (.d (.b true))) (.t 37), none⟩,
   ⟨(some 39), .mv (.t 38), none⟩,
   ⟨(some 40), .mv (.t 7), some (39, true)⟩,
   ⟨(some 41), .len false (.t 40), some (39, true)⟩,
   ⟨(some 42), .mv (.t 6), some (39, true)⟩,
   ⟨(some 43), .len false (.t 42), some (39, true)⟩,
   ⟨(some 44), .bin .leq (.t 41) (.t 43), some (39, true)⟩,
   ⟨(some 45), .pick (.t 39) (.t 44) (.c (.d (.b false))), none⟩,
   ⟨(some 46), .mv (.t 45), none⟩,
   ⟨(some 47), .load true 16 (.t 2), some (46, true)⟩,
   ⟨(some 48), .load true 16 (.t 2), some (46, true)⟩,
   ⟨(some 49), .call (.f F_place_Moved) [.t 47, .t 48], some (46, true)⟩,
   ⟨(some 50), .bin .eql (.t 49) (.c (.d (.i .i64 0))), some (46, true)⟩,
   ⟨(some 51), .pick (.t 46) (.t 50) (.c (.d (.b false))), none⟩,
   ⟨(some 4), .mv (.t 51), none⟩] [])
 (.ret)))))
def a_paddocklaw4_PlaceRaw : AFn := .code 2 c_paddocklaw4_PlaceRaw [.tmp 4]
set_option maxRecDepth 100000 in
theorem k_paddocklaw4_PlaceRaw : compF Try.prog h_paddocklaw4_PlaceRaw F_paddocklaw4_PlaceRaw = some a_paddocklaw4_PlaceRaw := by kernel_rfl

/-- paddock/paddocklaw4.PlaceTells -/
def h_paddocklaw4_PlaceTells : Hints := { kp := [(0, [0, 1, 2]), (1, [2, 3, 4]), (2, []), (3, [2, 3, 4]), (4, [2, 3, 4, 7]), (5, [2, 3, 4, 7, 8]), (6, [2, 3, 4, 7]), (7, [2, 3, 4, 7, 8]), (8, [2, 3, 4, 7, 8, 9]), (9, [2, 3, 4, 7, 8, 9, 10]), (11, [2, 3, 4, 7, 8, 9, 10]), (12, [2, 3, 4, 7, 8, 9, 10]), (10, [2, 3, 4, 7, 8, 9, 10]), (13, [2, 3, 4, 7, 8, 9])], lkp := [(9, [2, 3, 4, 7, 8, 9, 10])], lth := [] }
def K_paddocklaw4_PlaceTells_0 : Option (List Nat) := (some [2, 3, 4, 7, 8, 9, 10])
def l_paddocklaw4_PlaceTells_0 : ACode :=
 .seq (.seq (.region (some [2, 3, 4, 7, 8, 9, 10]) [⟨(some 22), .mv (.t 10), none⟩,
   ⟨(some 23), .bin .lss (.t 22) (.c (.d (.i .u8 4))), none⟩] [])
 (.cond (.t 23) (.skip) (.exit 0)))
 (.seq (.block 1 (.seq (.region (some [2, 3, 4, 7, 8, 9, 10]) [⟨(some 26), .load true 16 (.t 3), none⟩,
    ⟨(some 27), .mv (.t 10), none⟩,
    ⟨(some 28), .call (.f F_paddockref3_Pick) [.t 26, .t 27], none⟩,
    ⟨(some 29), .load true 16 (.t 4), none⟩,
    ⟨(some 30), .mv (.t 10), none⟩,
    ⟨(some 31), .call (.f F_paddockref3_Pick) [.t 29, .t 30], none⟩,
    ⟨(some 32), .call (.f F_paddocklaw4_ints) [.t 28, .t 31], none⟩,
    ⟨(some 33), .un .not (.t 32), none⟩] [(0, 3), (2, 3)])
  (.cond (.t 33) (.region (some [2, 3, 4, 7, 8, 9, 10]) [⟨(some 34), .mv (.t 9), none⟩,
     ⟨(some 35), .bin .add (.t 34) (.c (.d (.i .i64 1))), none⟩,
     ⟨(some 9), .mv (.t 35), none⟩] []) (.skip))))
 (.region (some [2, 3, 4, 7, 8, 9, 10]) [⟨(some 24), .mv (.t 10), none⟩,
   ⟨(some 25), .bin .add (.t 24) (.c (.d (.i .u8 1))), none⟩,
   ⟨(some 10), .mv (.t 25), none⟩] []))
def c_paddocklaw4_PlaceTells : ACode :=
 .seq (.region (some [0, 1, 2]) [⟨(some 3), .box (.t 0), none⟩,
   ⟨(some 4), .box (.t 1), none⟩,
   ⟨(some 6), .mv (.c (.d (.b false))), none⟩] [])
 (.seq (.seq (.region (some [2, 3, 4]) [⟨(some 11), .call (.f F_paddocklaw4_known) [], none⟩,
   ⟨(some 12), .un .not (.t 11), none⟩] [])
 (.cond (.t 12) (.seq (.region (some []) [⟨(some 6), .mv (.c (.d (.b false))), none⟩] [])
  (.ret)) (.skip)))
 (.seq (.region (some [2, 3, 4]) [⟨(some 13), .load true 16 (.t 3), none⟩,
   ⟨(some 14), .mv (.t 2), none⟩,
   ⟨(some 15), .call (.f F_paddockref3_Acting) [.t 13, .t 14], none⟩,
   ⟨(some 7), .mv (.t 15), none⟩] [])
 (.seq (.region (some [2, 3, 4, 7]) [⟨(some 8), .mv (.c (.d (.i .i64 (-1)))), none⟩] [])
 (.seq (.seq (.region (some [2, 3, 4, 7, 8]) [⟨(some 16), .mv (.t 7), none⟩,
   ⟨(some 17), .len false (.t 16), none⟩,
   ⟨(some 18), .bin .gtr (.t 17) (.c (.d (.i .i64 0))), none⟩] [])
 (.cond (.t 18) (.region (some [2, 3, 4, 7]) [⟨(some 19), .mv (.t 7), none⟩,
    ⟨(some 20), .iaddrS 1 (.t 19) (.c (.d (.i .i64 0))), none⟩,
    ⟨(some 21), .load false 1 (.t 20), none⟩,
    ⟨(some 8), .mv (.t 21), none⟩] []) (.skip)))
 (.seq (.region (some [2, 3, 4, 7, 8]) [⟨(some 9), .mv (.c (.d (.i .i64 0))), none⟩] [])
 (.seq (.seq (.region (some [2, 3, 4, 7, 8, 9]) [⟨(some 10), .mv (.c (.d (.i .u8 0))), none⟩] [])
 (.block 0 (.loop K_paddocklaw4_PlaceTells_0 [] l_paddocklaw4_PlaceTells_0)))
 (.seq (.region (some [2, 3, 4, 7, 8, 9]) [⟨(some 36), .load true 16 (.t 3), none⟩,
   ⟨(some 37), .mv (.t 2), none⟩,
   ⟨(some 38), .call (.f F_place_Pick) [.t 36, .t 37], none⟩,
   ⟨(some 39), .load true 16 (.t 3), none⟩,
   ⟨(some 40), .mv (.t 2), none⟩,
   ⟨(some 41), .call (.f F_paddockref3_Pick) [.t 39, .t 40], none⟩,
   ⟨(some 42), .call (.f F_paddocklaw4_ints) [.t 38, .t 41], none⟩,
   ⟨(some 43), .mv (.t 42), none⟩,
   ⟨(some 44), .load true 16 (.t 3), some (43, true)⟩,
   ⟨(some 45), .mv (.t 2), some (43, true)⟩,
   ⟨(some 46), .call (.f F_place_Acting) [.t 44, .t 45], some (43, true)⟩,
   ⟨(some 47), .mv (.t 7), some (43, true)⟩,
   ⟨(some 48), .call (.f F_paddocklaw4_ints) [.t 46, .t 47], some (43, true)⟩,
   ⟨(some 49), .pick (.t 43) (.t 48) (.c (.d (.b false))), none⟩,
   ⟨(some 50), .mv (.t 49), none⟩,
   ⟨(some 51), .load true 16 (.t 3), some (50, true)⟩,
   ⟨(some 52), .mv (.t 2), some (50, true)⟩,
   ⟨(some 53), .call (.f F_place_Primary) [.t 51, .t 52], some (50, true)⟩,
   ⟨(some 54), .mv (.t 8), some (50, true)⟩,
   ⟨(some 55), .bin .eql (.t 53) (.t 54), some (50, true)⟩,
   ⟨(some 56), .pick (.t 50) (.t 55) (.c (.d (.b false))), none⟩,
   ⟨(some 57), .mv (.t 56), none⟩,
   ⟨(some 58), .load true 16 (.t 3), some (57, true)⟩,
   ⟨(some 59), .load true 16 (.t 4), some (57, true)⟩,
   ⟨(some 60), .call (.f F_place_Moved) [.t 58, .t 59], some (57, true)⟩,
   ⟨(some 61), .mv (.t 9), some (57, true)⟩,
   ⟨(some 62), .bin .eql (.t 60) (.t 61), some (57, true)⟩,
   ⟨(some 63), .pick (.t 57) (.t 62) (.c (.d (.b false))), none⟩,
   ⟨(some 6), .mv (.t 63), none⟩] [(0, 3), (2, 3), (22, 23)])
 (.ret))))))))
def a_paddocklaw4_PlaceTells : AFn := .code 3 c_paddocklaw4_PlaceTells [.tmp 6]
set_option maxRecDepth 100000 in
theorem k_paddocklaw4_PlaceTells : compF Try.prog h_paddocklaw4_PlaceTells F_paddocklaw4_PlaceTells = some a_paddocklaw4_PlaceTells := by kernel_rfl

/-- paddock/paddocklaw4.PlaceApart -/
def h_paddocklaw4_PlaceApart : Hints := { kp := [(0, [0, 1]), (1, [1, 2]), (2, []), (3, [1, 2]), (4, [1, 2, 5]), (5, []), (6, [1, 2, 5]), (7, [1, 2, 5, 6]), (9, [1, 2, 5, 6]), (10, []), (11, [1, 2, 5, 6]), (12, [1, 2, 5, 6, 7]), (14, [1, 2, 5, 6, 7]), (15, []), (13, [1, 2, 5, 6, 7]), (8, [1, 2, 5, 6]), (16, [1, 2, 5]), (17, [2, 5, 8]), (18, [2, 5, 8, 9]), (19, [2, 5, 8, 9, 10]), (21, [2, 5, 8, 9, 10]), (22, [2, 5, 8, 9, 10]), (23, []), (24, [2, 5, 8, 9, 10]), (20, [2, 5, 8, 9, 10]), (25, [8, 9])], lkp := [(7, [1, 2, 5, 6]), (12, [1, 2, 5, 6, 7]), (19, [2, 5, 8, 9, 10])], lth := [] }
def K_paddocklaw4_PlaceApart_0 : Option (List Nat) := (some [1, 2, 5, 6, 7])
def l_paddocklaw4_PlaceApart_0 : ACode :=
 .seq (.seq (.region (some [1, 2, 5, 6, 7]) [⟨(some 67), .mv (.t 7), none⟩,
   ⟨(some 68), .mv (.t 6), none⟩,
   ⟨(some 69), .bin .lss (.t 67) (.t 68), none⟩] [])
 (.cond (.t 69) (.skip) (.exit 2)))
 (.seq (.block 3 (.seq (.region (some [1, 2, 5, 6, 7]) [⟨(some 72), .mv (.t 5), none⟩,
    ⟨(some 73), .mv (.t 7), none⟩,
    ⟨(some 74), .iaddrS 1 (.t 72) (.t 73), none⟩,
    ⟨(some 75), .load false 1 (.t 74), none⟩,
    ⟨(some 76), .mv (.t 5), none⟩,
    ⟨(some 77), .mv (.t 6), none⟩,
    ⟨(some 78), .iaddrS 1 (.t 76) (.t 77), none⟩,
    ⟨(some 79), .load false 1 (.t 78), none⟩,
    ⟨(some 80), .bin .eql (.t 75) (.t 79), none⟩,
    ⟨(some 81), .mv (.t 80), none⟩,
    ⟨(some 82), .mv (.t 5), some (81, false)⟩,
    ⟨(some 83), .mv (.t 7), some (81, false)⟩,
    ⟨(some 84), .iaddrS 1 (.t 82) (.t 83), some (81, false)⟩,
    ⟨(some 85), .load false 1 (.t 84), some (81, false)⟩,
    ⟨(some 86), .faddr 1 (.t 2), some (81, false)⟩,
    ⟨(some 87), .iaddrA 5 3 (.t 86) (.t 85), some (81, false)⟩,
    ⟨(some 88), .faddr 2 (.t 87), some (81, false)⟩,
    ⟨(some 89), .load false 1 (.t 88), some (81, false)⟩,
    ⟨(some 90), .mv (.t 5), some (81, false)⟩,
    ⟨(some 91), .mv (.t 6), some (81, false)⟩,
    ⟨(some 92), .iaddrS 1 (.t 90) (.t 91), some (81, false)⟩,
    ⟨(some 93), .load false 1 (.t 92), some (81, false)⟩,
    ⟨(some 94), .faddr 1 (.t 2), some (81, false)⟩,
    ⟨(some 95), .iaddrA 5 3 (.t 94) (.t 93), some (81, false)⟩,
    ⟨(some 96), .faddr 2 (.t 95), some (81, false)⟩,
    ⟨(some 97), .load false 1 (.t 96), some (81, false)⟩,
    ⟨(some 98), .bin .eql (.t 89) (.t 97), some (81, false)⟩,
    ⟨(some 99), .pick (.t 81) (.c (.d (.b true))) (.t 98), none⟩] [(3, 7), (13, 21), (17, 21), (13, 25), (17, 25)])
  (.cond (.t 99) (.seq (.region (some []) [⟨(some 4), .mv (.c (.d (.b false))), none⟩] [])
   (.ret)) (.skip))))
 (.region (some [1, 2, 5, 6, 7]) [⟨(some 70), .mv (.t 7), none⟩,
   ⟨(some 71), .bin .add (.t 70) (.c (.d (.i .i64 1))), none⟩,
   ⟨(some 7), .mv (.t 71), none⟩] []))
def K_paddocklaw4_PlaceApart_1 : Option (List Nat) := (some [1, 2, 5, 6])
def l_paddocklaw4_PlaceApart_1 : ACode :=
 .seq (.seq (.region (some [1, 2, 5, 6]) [⟨(some 38), .mv (.t 6), none⟩,
   ⟨(some 39), .mv (.t 5), none⟩,
   ⟨(some 40), .len false (.t 39), none⟩,
   ⟨(some 41), .bin .lss (.t 38) (.t 40), none⟩] [])
 (.cond (.t 41) (.skip) (.exit 0)))
 (.seq (.block 1 (.seq (.seq (.region (some [1, 2, 5, 6]) [⟨(some 44), .mv (.t 5), none⟩,
    ⟨(some 45), .mv (.t 6), none⟩,
    ⟨(some 46), .iaddrS 1 (.t 44) (.t 45), none⟩,
    ⟨(some 47), .load false 1 (.t 46), none⟩,
    ⟨(some 48), .bin .lss (.t 47) (.c (.d (.i .i64 0))), none⟩,
    ⟨(some 49), .mv (.t 48), none⟩,
    ⟨(some 50), .mv (.t 5), some (49, false)⟩,
    ⟨(some 51), .mv (.t 6), some (49, false)⟩,
    ⟨(some 52), .iaddrS 1 (.t 50) (.t 51), some (49, false)⟩,
    ⟨(some 53), .load false 1 (.t 52), some (49, false)⟩,
    ⟨(some 54), .bin .geq (.t 53) (.c (.d (.i .i64 5))), some (49, false)⟩,
    ⟨(some 55), .pick (.t 49) (.c (.d (.b true))) (.t 54), none⟩,
    ⟨(some 56), .mv (.t 55), none⟩,
    ⟨(some 57), .mv (.t 5), some (56, false)⟩,
    ⟨(some 58), .mv (.t 6), some (56, false)⟩,
    ⟨(some 59), .iaddrS 1 (.t 57) (.t 58), some (56, false)⟩,
    ⟨(some 60), .load false 1 (.t 59), some (56, false)⟩,
    ⟨(some 61), .faddr 1 (.t 2), some (56, false)⟩,
    ⟨(some 62), .iaddrA 5 3 (.t 61) (.t 60), some (56, false)⟩,
    ⟨(some 63), .faddr 1 (.t 62), some (56, false)⟩,
    ⟨(some 64), .load false 1 (.t 63), some (56, false)⟩,
    ⟨(some 65), .bin .lss (.t 64) (.c (.d (.i .i64 1))), some (56, false)⟩,
    ⟨(some 66), .pick (.t 56) (.c (.d (.b true))) (.t 65), none⟩] [])
  (.cond (.t 66) (.seq (.region (some []) [⟨(some 4), .mv (.c (.d (.b false))), none⟩] [])
   (.ret)) (.skip)))
  (.seq (.region (some [1, 2, 5, 6]) [⟨(some 7), .mv (.c (.d (.i .i64 0))), none⟩] [])
  (.block 2 (.loop K_paddocklaw4_PlaceApart_0 [] l_paddocklaw4_PlaceApart_0)))))
 (.region (some [1, 2, 5, 6]) [⟨(some 42), .mv (.t 6), none⟩,
   ⟨(some 43), .bin .add (.t 42) (.c (.d (.i .i64 1))), none⟩,
   ⟨(some 6), .mv (.t 43), none⟩] []))
def K_paddocklaw4_PlaceApart_2 : Option (List Nat) := (some [2, 5, 8, 9, 10])
def l_paddocklaw4_PlaceApart_2 : ACode :=
 .seq (.seq (.region (some [2, 5, 8, 9, 10]) [⟨(some 103), .mv (.t 10), none⟩,
   ⟨(some 104), .mv (.t 5), none⟩,
   ⟨(some 105), .len false (.t 104), none⟩,
   ⟨(some 106), .bin .lss (.t 103) (.t 105), none⟩] [])
 (.cond (.t 106) (.skip) (.exit 4)))
 (.seq (.block 5 (.seq (.seq (.region (some [2, 5, 8, 9, 10]) [⟨(some 109), .mv (.t 5), none⟩,
    ⟨(some 110), .mv (.t 10), none⟩,
    ⟨(some 111), .iaddrS 1 (.t 109) (.t 110), none⟩,
    ⟨(some 112), .load false 1 (.t 111), none⟩,
    ⟨(some 113), .faddr 1 (.t 2), none⟩,
    ⟨(some 114), .iaddrA 5 3 (.t 113) (.t 112), none⟩,
    ⟨(some 115), .faddr 0 (.t 114), none⟩,
    ⟨(some 116), .load false 1 (.t 115), none⟩,
    ⟨(some 117), .un .not (.t 116), none⟩] [])
  (.cond (.t 117) (.exit 5) (.skip)))
  (.seq (.seq (.region (some [2, 5, 8, 9, 10]) [⟨(some 118), .mv (.t 9), none⟩,
    ⟨(some 119), .mv (.t 8), none⟩,
    ⟨(some 120), .len false (.t 119), none⟩,
    ⟨(some 121), .bin .geq (.t 118) (.t 120), none⟩,
    ⟨(some 122), .mv (.t 121), none⟩,
    ⟨(some 123), .mv (.t 8), some (122, false)⟩,
    ⟨(some 124), .mv (.t 9), some (122, false)⟩,
    ⟨(some 125), .iaddrS 1 (.t 123) (.t 124), some (122, false)⟩,
    ⟨(some 126), .load false 1 (.t 125), some (122, false)⟩,
    ⟨(some 127), .mv (.t 5), some (122, false)⟩,
    ⟨(some 128), .mv (.t 10), some (122, false)⟩,
    ⟨(some 129), .iaddrS 1 (.t 127) (.t 128), some (122, false)⟩,
    ⟨(some 130), .load false 1 (.t 129), some (122, false)⟩,
    ⟨(some 131), .bin .neq (.t 126) (.t 130), some (122, false)⟩,
    ⟨(some 132), .pick (.t 122) (.c (.d (.b true))) (.t 131), none⟩] [(8, 12)])
  (.cond (.t 132) (.seq (.region (some []) [⟨(some 4), .mv (.c (.d (.b false))), none⟩] [])
   (.ret)) (.skip)))
  (.region (some [2, 5, 8, 9, 10]) [⟨(some 133), .mv (.t 9), none⟩,
    ⟨(some 134), .bin .add (.t 133) (.c (.d (.i .i64 1))), none⟩,
    ⟨(some 9), .mv (.t 134), none⟩] []))))
 (.region (some [2, 5, 8, 9, 10]) [⟨(some 107), .mv (.t 10), none⟩,
   ⟨(some 108), .bin .add (.t 107) (.c (.d (.i .i64 1))), none⟩,
   ⟨(some 10), .mv (.t 108), none⟩] []))
def c_paddocklaw4_PlaceApart : ACode :=
 .seq (.region (some [0, 1]) [⟨(some 2), .box (.t 0), none⟩,
   ⟨(some 4), .mv (.c (.d (.b false))), none⟩] [])
 (.seq (.seq (.region (some [1, 2]) [⟨(some 11), .call (.f F_paddocklaw4_known) [], none⟩,
   ⟨(some 12), .un .not (.t 11), none⟩] [])
 (.cond (.t 12) (.seq (.region (some []) [⟨(some 4), .mv (.c (.d (.b false))), none⟩] [])
  (.ret)) (.skip)))
 (.seq (.region (some [1, 2]) [⟨(some 13), .load true 16 (.t 2), none⟩,
   ⟨(some 14), .mv (.t 1), none⟩,
   ⟨(some 15), .call (.f F_place_Pick) [.t 13, .t 14], none⟩,
   ⟨(some 5), .mv (.t 15), none⟩] [])
 (.seq (.seq (.region (some [1, 2, 5]) [⟨(some 16), .mv (.t 5), none⟩,
   ⟨(some 17), .len false (.t 16), none⟩,
   ⟨(some 18), .bin .gtr (.t 17) (.c (.d (.i .i64 3))), none⟩,
   ⟨(some 19), .mv (.t 18), none⟩,
   ⟨(some 20), .load true 16 (.t 2), some (19, false)⟩,
   ⟨(some 21), .call (.f F_maps_Is) [.t 20], some (19, false)⟩,
   ⟨(some 22), .un .not (.t 21), some (19, false)⟩,
   ⟨(some 23), .mv (.t 22), some (19, false)⟩,
   ⟨(some 24), .mv (.t 5), some (23, true)⟩,
   ⟨(some 25), .len false (.t 24), some (23, true)⟩,
   ⟨(some 26), .bin .gtr (.t 25) (.c (.d (.i .i64 0))), some (23, true)⟩,
   ⟨(some 27), .pick (.t 23) (.t 26) (.c (.d (.b false))), some (19, false)⟩,
   ⟨(some 28), .pick (.t 19) (.c (.d (.b true))) (.t 27), none⟩,
   ⟨(some 29), .mv (.t 28), none⟩,
   ⟨(some 30), .mv (.t 1), some (29, false)⟩,
   ⟨(some 31), .bin .geq (.t 30) (.c (.d (.i .u8 4))), some (29, false)⟩,
   ⟨(some 32), .mv (.t 31), some (29, false)⟩,
   ⟨(some 33), .mv (.t 5), some (32, true)⟩,
   ⟨(some 34), .len false (.t 33), some (32, true)⟩,
   ⟨(some 35), .bin .gtr (.t 34) (.c (.d (.i .i64 0))), some (32, true)⟩,
   ⟨(some 36), .pick (.t 32) (.t 35) (.c (.d (.b false))), some (29, false)⟩,
   ⟨(some 37), .pick (.t 29) (.c (.d (.b true))) (.t 36), none⟩] [])
 (.cond (.t 37) (.seq (.region (some []) [⟨(some 4), .mv (.c (.d (.b false))), none⟩] [])
  (.ret)) (.skip)))
 (.seq (.seq (.region (some [1, 2, 5]) [⟨(some 6), .mv (.c (.d (.i .i64 0))), none⟩] [])
 (.block 0 (.loop K_paddocklaw4_PlaceApart_1 [] l_paddocklaw4_PlaceApart_1)))
 (.seq (.region (some [1, 2, 5]) [⟨(some 100), .load true 16 (.t 2), none⟩,
   ⟨(some 101), .mv (.t 1), none⟩,
   ⟨(some 102), .call (.f F_place_Acting) [.t 100, .t 101], none⟩,
   ⟨(some 8), .mv (.t 102), none⟩] [])
 (.seq (.region (some [2, 5, 8]) [⟨(some 9), .mv (.c (.d (.i .i64 0))), none⟩] [])
 (.seq (.seq (.region (some [2, 5, 8, 9]) [⟨(some 10), .mv (.c (.d (.i .i64 0))), none⟩] [])
 (.block 4 (.loop K_paddocklaw4_PlaceApart_2 [] l_paddocklaw4_PlaceApart_2)))
 (.seq (.region (some [8, 9]) [⟨(some 135), .mv (.t 9), none⟩,
   ⟨(some 136), .mv (.t 8), none⟩,
   ⟨(some 137), .len false (.t 136), none⟩,
   ⟨(some 138), .bin .eql (.t 135) (.t 137), none⟩,
   ⟨(some 4), .mv (.t 138), none⟩] [])
 (.ret)))))))))
def a_paddocklaw4_PlaceApart : AFn := .code 2 c_paddocklaw4_PlaceApart [.tmp 4]
set_option maxRecDepth 100000 in
theorem k_paddocklaw4_PlaceApart : compF Try.prog h_paddocklaw4_PlaceApart F_paddocklaw4_PlaceApart = some a_paddocklaw4_PlaceApart := by kernel_rfl

/-- paddock/paddocklaw4.PlaceStays -/
def h_paddocklaw4_PlaceStays : Hints := { kp := [(0, [0, 1, 2, 3]), (1, [2, 3, 4, 5]), (2, []), (3, [2, 3, 4, 5]), (4, []), (5, [2, 3, 4, 5]), (6, [2, 3, 4, 5, 9]), (7, [3, 4, 5, 9]), (8, [3, 4, 5, 9, 10]), (10, [3, 4, 5, 9, 10]), (9, [3, 4, 5, 9, 10]), (11, [3, 4, 9]), (12, [4, 9, 11]), (13, [4, 9, 11, 12]), (14, [4, 9, 11, 12]), (15, [4, 9, 11, 12, 13]), (17, [4, 9, 11, 12, 13]), (18, [4, 9, 11, 12, 13, 14]), (19, []), (20, [4, 9, 11, 12, 13, 14]), (21, [4, 9, 11, 12, 13, 14, 15]), (22, [4, 9, 11, 12, 13, 14, 15, 16]), (24, [4, 9, 11, 12, 13, 14, 15, 16]), (25, []), (23, [4, 9, 11, 12, 13, 14, 15, 16]), (26, [4, 9, 11, 12, 13, 14, 15]), (27, []), (16, [4, 9, 11, 12, 13]), (28, [4, 9])], lkp := [(8, [3, 4, 5, 9, 10]), (15, [4, 9, 11, 12, 13]), (22, [4, 9, 11, 12, 13, 14, 15, 16])], lth := [] }
def K_paddocklaw4_PlaceStays_0 : Option (List Nat) := (some [3, 4, 5, 9, 10])
def l_paddocklaw4_PlaceStays_0 : ACode :=
 .seq (.seq (.region (some [3, 4, 5, 9, 10]) [⟨(some 27), .mv (.t 10), none⟩,
   ⟨(some 28), .bin .lss (.t 27) (.c (.d (.i .i64 5))), none⟩] [])
 (.cond (.t 28) (.skip) (.exit 0)))
 (.seq (.block 1 (.region (some [3, 4, 5, 9, 10]) [⟨(some 31), .mv (.t 10), none⟩,
    ⟨(some 32), .mv (.t 10), none⟩,
    ⟨(some 33), .iaddrA 5 1 (.t 5) (.t 32), none⟩,
    ⟨(some 34), .load false 1 (.t 33), none⟩,
    ⟨(some 35), .faddr 1 (.t 9), none⟩,
    ⟨(some 36), .iaddrA 5 3 (.t 35) (.t 31), none⟩,
    ⟨(some 37), .faddr 0 (.t 36), none⟩,
    ⟨none, .store 1 (.t 37) (.t 34), none⟩] []))
 (.region (some [3, 4, 5, 9, 10]) [⟨(some 29), .mv (.t 10), none⟩,
   ⟨(some 30), .bin .add (.t 29) (.c (.d (.i .i64 1))), none⟩,
   ⟨(some 10), .mv (.t 30), none⟩] []))
def K_paddocklaw4_PlaceStays_1 : Option (List Nat) := (some [4, 9, 11, 12, 13, 14, 15, 16])
def l_paddocklaw4_PlaceStays_1 : ACode :=
 .seq (.seq (.region (some [4, 9, 11, 12, 13, 14, 15, 16]) [⟨(some 62), .mv (.t 16), none⟩,
   ⟨(some 63), .mv (.t 15), none⟩,
   ⟨(some 64), .len false (.t 63), none⟩,
   ⟨(some 65), .bin .lss (.t 62) (.t 64), none⟩] [])
 (.cond (.t 65) (.skip) (.exit 4)))
 (.seq (.block 5 (.seq (.region (some [4, 9, 11, 12, 13, 14, 15, 16]) [⟨(some 68), .mv (.t 15), none⟩,
    ⟨(some 69), .mv (.t 16), none⟩,
    ⟨(some 70), .iaddrS 1 (.t 68) (.t 69), none⟩,
    ⟨(some 71), .load false 1 (.t 70), none⟩,
    ⟨(some 72), .mv (.t 11), none⟩,
    ⟨(some 73), .bin .eql (.t 71) (.t 72), none⟩] [])
  (.cond (.t 73) (.seq (.region (some []) [⟨(some 8), .mv (.c (.d (.b false))), none⟩] [])
   (.ret)) (.skip))))
 (.region (some [4, 9, 11, 12, 13, 14, 15, 16]) [⟨(some 66), .mv (.t 16), none⟩,
   ⟨(some 67), .bin .add (.t 66) (.c (.d (.i .i64 1))), none⟩,
   ⟨(some 16), .mv (.t 67), none⟩] []))
def K_paddocklaw4_PlaceStays_2 : Option (List Nat) := (some [4, 9, 11, 12, 13])
def l_paddocklaw4_PlaceStays_2 : ACode :=
 .seq (.seq (.region (some [4, 9, 11, 12, 13]) [⟨(some 46), .mv (.t 13), none⟩,
   ⟨(some 47), .bin .lss (.t 46) (.c (.d (.i .u8 4))), none⟩] [])
 (.cond (.t 47) (.skip) (.exit 2)))
 (.seq (.block 3 (.seq (.region (some [4, 9, 11, 12, 13]) [⟨(some 50), .load true 16 (.t 4), none⟩,
    ⟨(some 51), .mv (.t 13), none⟩,
    ⟨(some 52), .call (.f F_place_Pick) [.t 50, .t 51], none⟩,
    ⟨(some 14), .mv (.t 52), none⟩] [])
  (.seq (.seq (.region (some [4, 9, 11, 12, 13, 14]) [⟨(some 53), .mv (.t 14), none⟩,
    ⟨(some 54), .load true 16 (.t 9), none⟩,
    ⟨(some 55), .mv (.t 13), none⟩,
    ⟨(some 56), .call (.f F_place_Pick) [.t 54, .t 55], none⟩,
    ⟨(some 57), .call (.f F_paddocklaw4_ints) [.t 53, .t 56], none⟩,
    ⟨(some 58), .un .not (.t 57), none⟩] [])
  (.cond (.t 58) (.seq (.region (some []) [⟨(some 8), .mv (.c (.d (.b false))), none⟩] [])
   (.ret)) (.skip)))
  (.seq (.region (some [4, 9, 11, 12, 13, 14]) [⟨(some 59), .load true 16 (.t 12), none⟩,
    ⟨(some 60), .mv (.t 13), none⟩,
    ⟨(some 61), .call (.f F_place_Pick) [.t 59, .t 60], none⟩,
    ⟨(some 15), .mv (.t 61), none⟩] [])
  (.seq (.seq (.region (some [4, 9, 11, 12, 13, 14, 15]) [⟨(some 16), .mv (.c (.d (.i .i64 0))), none⟩] [])
  (.block 4 (.loop K_paddocklaw4_PlaceStays_1 [] l_paddocklaw4_PlaceStays_1)))
  (.seq (.region (some [4, 9, 11, 12, 13, 14, 15]) [⟨(some 74), .mv (.t 15), none⟩,
    ⟨(some 75), .len false (.t 74), none⟩,
    ⟨(some 76), .bin .gtr (.t 75) (.c (.d (.i .i64 0))), none⟩,
    ⟨(some 77), .mv (.t 76), none⟩,
    ⟨(some 78), .mv (.t 14), some (77, true)⟩,
    ⟨(some 79), .len false (.t 78), some (77, true)⟩,
    ⟨(some 80), .bin .gtr (.t 79) (.c (.d (.i .i64 0))), some (77, true)⟩,
    ⟨(some 81), .pick (.t 77) (.t 80) (.c (.d (.b false))), none⟩,
    ⟨(some 82), .mv (.t 81), none⟩,
    ⟨(some 83), .mv (.t 14), some (82, true)⟩,
    ⟨(some 84), .iaddrS 1 (.t 83) (.c (.d (.i .i64 0))), some (82, true)⟩,
    ⟨(some 85), .load false 1 (.t 84), some (82, true)⟩,
    ⟨(some 86), .mv (.t 11), some (82, true)⟩,
    ⟨(some 87), .bin .neq (.t 85) (.t 86), some (82, true)⟩,
    ⟨(some 88), .pick (.t 82) (.t 87) (.c (.d (.b false))), none⟩,
    ⟨(some 89), .mv (.t 88), none⟩,
    ⟨(some 90), .mv (.t 15), some (89, true)⟩,
    ⟨(some 91), .iaddrS 1 (.t 90) (.c (.d (.i .i64 0))), some (89, true)⟩,
    ⟨(some 92), .load false 1 (.t 91), some (89, true)⟩,
    ⟨(some 93), .mv (.t 14), some (89, true)⟩,
    ⟨(some 94), .iaddrS 1 (.t 93) (.c (.d (.i .i64 0))), some (89, true)⟩,
    ⟨(some 95), .load false 1 (.t 94), some (89, true)⟩,
    ⟨(some 96), .bin .neq (.t 92) (.t 95), some (89, true)⟩,
    ⟨(some 97), .pick (.t 89) (.t 96) (.c (.d (.b false))), none⟩] [(18, 21)])
  (.cond (.t 97) (.seq (.region (some []) [⟨(some 8), .mv (.c (.d (.b false))), none⟩] [])
   (.ret)) (.skip))))))))
 (.region (some [4, 9, 11, 12, 13]) [⟨(some 48), .mv (.t 13), none⟩,
   ⟨(some 49), .bin .add (.t 48) (.c (.d (.i .u8 1))), none⟩,
   ⟨(some 13), .mv (.t 49), none⟩] []))
def c_paddocklaw4_PlaceStays : ACode :=
 .seq (.region (some [0, 1, 2, 3]) [⟨(some 4), .box (.t 0), none⟩,
   ⟨(some 5), .box (.t 1), none⟩,
   ⟨(some 8), .mv (.c (.d (.b false))), none⟩] [])
 (.seq (.seq (.region (some [2, 3, 4, 5]) [⟨(some 17), .call (.f F_paddocklaw4_known) [], none⟩,
   ⟨(some 18), .un .not (.t 17), none⟩] [])
 (.cond (.t 18) (.seq (.region (some []) [⟨(some 8), .mv (.c (.d (.b false))), none⟩] [])
  (.ret)) (.skip)))
 (.seq (.seq (.region (some [2, 3, 4, 5]) [⟨(some 19), .load true 16 (.t 4), none⟩,
   ⟨(some 20), .call (.f F_maps_Is) [.t 19], none⟩,
   ⟨(some 21), .un .not (.t 20), none⟩] [])
 (.cond (.t 21) (.seq (.region (some []) [⟨(some 8), .mv (.c (.d (.b true))), none⟩] [])
  (.ret)) (.skip)))
 (.seq (.region (some [2, 3, 4, 5]) [⟨(some 22), .load true 16 (.t 4), none⟩,
   ⟨(some 9), .box (.c (.d (.agg Pk.Mp.zero.cs))), none⟩,
   ⟨none, .store 16 (.t 9) (.t 22), none⟩] [])
 (.seq (.region (some [2, 3, 4, 5, 9]) [⟨(some 23), .mv (.t 2), none⟩,
   ⟨(some 24), .bin .rem (.t 23) (.c (.d (.i .u32 60))), none⟩,
   ⟨(some 25), .bin .add (.t 24) (.c (.d (.i .u32 1))), none⟩,
   ⟨(some 26), .faddr 0 (.t 9), none⟩,
   ⟨none, .store 1 (.t 26) (.t 25), none⟩] [])
 (.seq (.seq (.region (some [3, 4, 5, 9]) [⟨(some 10), .mv (.c (.d (.i .i64 0))), none⟩] [])
 (.block 0 (.loop K_paddocklaw4_PlaceStays_0 [] l_paddocklaw4_PlaceStays_0)))
 (.seq (.region (some [3, 4, 9]) [⟨(some 38), .mv (.t 3), none⟩,
   ⟨(some 39), .bin .rem (.t 38) (.c (.d (.i .u8 5))), none⟩,
   ⟨(some 40), .conv .i64 (.t 39), none⟩,
   ⟨(some 11), .mv (.t 40), none⟩] [])
 (.seq (.region (some [4, 9, 11]) [⟨(some 41), .load true 16 (.t 4), none⟩,
   ⟨(some 12), .box (.c (.d (.agg Pk.Mp.zero.cs))), none⟩,
   ⟨none, .store 16 (.t 12) (.t 41), none⟩] [])
 (.seq (.region (some [4, 9, 11, 12]) [⟨(some 42), .mv (.t 11), none⟩,
   ⟨(some 43), .faddr 1 (.t 12), none⟩,
   ⟨(some 44), .iaddrA 5 3 (.t 43) (.t 42), none⟩,
   ⟨(some 45), .faddr 1 (.t 44), none⟩,
   ⟨none, .store 1 (.t 45) (.c (.d (.i .i64 0))), none⟩] [])
 (.seq (.seq (.region (some [4, 9, 11, 12]) [⟨(some 13), .mv (.c (.d (.i .u8 0))), none⟩] [])
 (.block 2 (.loop K_paddocklaw4_PlaceStays_2 [] l_paddocklaw4_PlaceStays_2)))
 (.seq (.region (some [4, 9]) [⟨(some 98), .load true 16 (.t 4), none⟩,
   ⟨(some 99), .load true 16 (.t 9), none⟩,
   ⟨(some 100), .call (.f F_place_Moved) [.t 98, .t 99], none⟩,
   ⟨(some 101), .bin .eql (.t 100) (.c (.d (.i .i64 0))), none⟩,
   ⟨(some 8), .mv (.t 101), none⟩] [])
 (.ret)))))))))))
def a_paddocklaw4_PlaceStays : AFn := .code 4 c_paddocklaw4_PlaceStays [.tmp 8]
set_option maxRecDepth 100000 in
theorem k_paddocklaw4_PlaceStays : compF Try.prog h_paddocklaw4_PlaceStays F_paddocklaw4_PlaceStays = some a_paddocklaw4_PlaceStays := by kernel_rfl

/-- paddock/paddocklaw4.PlaceWeight -/
def h_paddocklaw4_PlaceWeight : Hints := { kp := [(0, [0, 1, 2]), (1, [1, 2, 3]), (2, []), (3, [1, 2, 3]), (4, [1, 2, 3, 7]), (5, []), (6, [1, 2, 3, 7]), (7, [1, 2, 3, 7, 8]), (8, [1, 7, 8]), (9, [7, 9])], lkp := [], lth := [] }
def c_paddocklaw4_PlaceWeight : ACode :=
 .seq (.region (some [0, 1, 2]) [⟨(some 3), .box (.t 0), none⟩,
   ⟨(some 6), .mv (.c (.d (.b false))), none⟩] [])
 (.seq (.seq (.region (some [1, 2, 3]) [⟨(some 10), .call (.f F_paddocklaw4_known) [], none⟩,
   ⟨(some 11), .un .not (.t 10), none⟩] [])
 (.cond (.t 11) (.seq (.region (some []) [⟨(some 6), .mv (.c (.d (.b false))), none⟩] [])
  (.ret)) (.skip)))
 (.seq (.region (some [1, 2, 3]) [⟨(some 12), .load true 16 (.t 3), none⟩,
   ⟨(some 13), .mv (.t 1), none⟩,
   ⟨(some 14), .call (.f F_place_Pick) [.t 12, .t 13], none⟩,
   ⟨(some 7), .mv (.t 14), none⟩] [])
 (.seq (.seq (.region (some [1, 2, 3, 7]) [⟨(some 15), .mv (.t 7), none⟩,
   ⟨(some 16), .len false (.t 15), none⟩,
   ⟨(some 17), .bin .eql (.t 16) (.c (.d (.i .i64 0))), none⟩] [])
 (.cond (.t 17) (.seq (.region (some []) [⟨(some 6), .mv (.c (.d (.b true))), none⟩] [])
  (.ret)) (.skip)))
 (.seq (.region (some [1, 2, 3, 7]) [⟨(some 18), .load true 16 (.t 3), none⟩,
   ⟨(some 8), .box (.c (.d (.agg Pk.Mp.zero.cs))), none⟩,
   ⟨none, .store 16 (.t 8) (.t 18), none⟩] [])
 (.seq (.region (some [1, 2, 3, 7, 8]) [⟨(some 19), .mv (.t 7), none⟩,
   ⟨(some 20), .iaddrS 1 (.t 19) (.c (.d (.i .i64 0))), none⟩,
   ⟨(some 21), .load false 1 (.t 20), none⟩,
   ⟨(some 22), .mv (.t 7), none⟩,
   ⟨(some 23), .iaddrS 1 (.t 22) (.c (.d (.i .i64 0))), none⟩,
   ⟨(some 24), .load false 1 (.t 23), none⟩,
   ⟨(some 25), .faddr 1 (.t 3), none⟩,
   ⟨(some 26), .iaddrA 5 3 (.t 25) (.t 24), none⟩,
   ⟨(some 27), .faddr 1 (.t 26), none⟩,
   ⟨(some 28), .load false 1 (.t 27), none⟩,
   ⟨(some 29), .mv (.t 2), none⟩,
   ⟨(some 30), .bin .rem (.t 29) (.c (.d (.i .u8 8))), none⟩,
   ⟨(some 31), .conv .i64 (.t 30), none⟩,
   ⟨(some 32), .bin .add (.t 28) (.t 31), none⟩,
   ⟨(some 33), .mm false [.c (.d (.i .i64 16)), .t 32], none⟩,
   ⟨(some 34), .faddr 1 (.t 8), none⟩,
   ⟨(some 35), .iaddrA 5 3 (.t 34) (.t 21), none⟩,
   ⟨(some 36), .faddr 1 (.t 35), none⟩,
   ⟨none, .store 1 (.t 36) (.t 33), none⟩] [(2, 5), (2, 9)])
 (.seq (.region (some [1, 7, 8]) [⟨(some 37), .load true 16 (.t 8), none⟩,
   ⟨(some 38), .mv (.t 1), none⟩,
   ⟨(some 39), .call (.f F_place_Pick) [.t 37, .t 38], none⟩,
   ⟨(some 9), .mv (.t 39), none⟩] [])
 (.seq (.region (some [7, 9]) [⟨(some 40), .mv (.t 9), none⟩,
   ⟨(some 41), .len false (.t 40), none⟩,
   ⟨(some 42), .bin .gtr (.t 41) (.c (.d (.i .i64 0))), none⟩,
   ⟨(some 43), .mv (.t 42), none⟩,
   ⟨(some 44), .mv (.t 9), some (43, true)⟩,
   ⟨(some 45), .iaddrS 1 (.t 44) (.c (.d (.i .i64 0))), some (43, true)⟩,
   ⟨(some 46), .load false 1 (.t 45), some (43, true)⟩,
   ⟨(some 47), .mv (.t 7), some (43, true)⟩,
   ⟨(some 48), .iaddrS 1 (.t 47) (.c (.d (.i .i64 0))), some (43, true)⟩,
   ⟨(some 49), .load false 1 (.t 48), some (43, true)⟩,
   ⟨(some 50), .bin .eql (.t 46) (.t 49), some (43, true)⟩,
   ⟨(some 51), .pick (.t 43) (.t 50) (.c (.d (.b false))), none⟩,
   ⟨(some 6), .mv (.t 51), none⟩] [(6, 9)])
 (.ret))))))))
def a_paddocklaw4_PlaceWeight : AFn := .code 3 c_paddocklaw4_PlaceWeight [.tmp 6]
set_option maxRecDepth 100000 in
theorem k_paddocklaw4_PlaceWeight : compF Try.prog h_paddocklaw4_PlaceWeight F_paddocklaw4_PlaceWeight = some a_paddocklaw4_PlaceWeight := by kernel_rfl

/-- paddock/paddocklaw4.PlaceDown -/
def h_paddocklaw4_PlaceDown : Hints := { kp := [(0, [0, 1]), (1, [0, 3]), (2, []), (3, [0, 3]), (4, [3, 5]), (5, [3, 5, 6]), (6, [3, 5, 6, 7]), (7, [3, 5, 6, 7, 8]), (8, [3, 5, 6, 7, 8, 9]), (10, [3, 5, 6, 7, 8, 9]), (9, [3, 5, 6, 7, 8, 9]), (11, [3, 5, 6, 7, 8]), (12, [3, 5, 6, 7, 8, 10]), (14, [3, 5, 6, 7, 8, 10]), (15, [3, 5, 6, 7, 8, 10]), (13, [3, 5, 6, 7, 8, 10]), (16, [5, 6, 7, 8]), (17, [5, 6, 7, 8, 11]), (18, [5, 6, 7, 8]), (19, [5, 6, 7, 8, 11])], lkp := [(8, [3, 5, 6, 7, 8, 9]), (12, [3, 5, 6, 7, 8, 10])], lth := [(12, [8, 1])] }
def K_paddocklaw4_PlaceDown_0 : Option (List Nat) := (some [3, 5, 6, 7, 8, 9])
def l_paddocklaw4_PlaceDown_0 : ACode :=
 .seq (.seq (.region (some [3, 5, 6, 7, 8, 9]) [⟨(some 20), .mv (.t 9), none⟩,
   ⟨(some 21), .bin .lss (.t 20) (.c (.d (.i .i64 5))), none⟩] [])
 (.cond (.t 21) (.skip) (.exit 0)))
 (.seq (.block 1 (.region (some [3, 5, 6, 7, 8, 9]) [⟨(some 24), .mv (.t 9), none⟩,
    ⟨(some 25), .mv (.t 9), none⟩,
    ⟨(some 26), .iaddrA 5 1 (.t 3) (.t 25), none⟩,
    ⟨(some 27), .load false 1 (.t 26), none⟩,
    ⟨(some 28), .un .not (.t 27), none⟩,
    ⟨(some 29), .faddr 1 (.t 6), none⟩,
    ⟨(some 30), .iaddrA 5 3 (.t 29) (.t 24), none⟩,
    ⟨(some 31), .faddr 0 (.t 30), none⟩,
    ⟨none, .store 1 (.t 31) (.t 28), none⟩] []))
 (.region (some [3, 5, 6, 7, 8, 9]) [⟨(some 22), .mv (.t 9), none⟩,
   ⟨(some 23), .bin .add (.t 22) (.c (.d (.i .i64 1))), none⟩,
   ⟨(some 9), .mv (.t 23), none⟩] []))
def K_paddocklaw4_PlaceDown_1 : Option (List Nat) := (some [3, 5, 6, 7, 8, 10])
def l_paddocklaw4_PlaceDown_1 : ACode :=
 .seq (.seq (.region (some [3, 5, 6, 7, 8, 10]) [⟨(some 32), .mv (.t 10), none⟩,
   ⟨(some 33), .mv (.t 7), none⟩,
   ⟨(some 34), .len false (.t 33), none⟩,
   ⟨(some 35), .bin .lss (.t 32) (.t 34), none⟩] [])
 (.cond (.t 35) (.skip) (.exit 2)))
 (.seq (.block 3 (.seq (.region (some [3, 5, 6, 7, 8, 10]) [⟨(some 38), .mv (.t 7), none⟩,
    ⟨(some 39), .mv (.t 10), none⟩,
    ⟨(some 40), .iaddrS 1 (.t 38) (.t 39), none⟩,
    ⟨(some 41), .load false 1 (.t 40), none⟩,
    ⟨(some 42), .iaddrA 5 1 (.t 3) (.t 41), none⟩,
    ⟨(some 43), .load false 1 (.t 42), none⟩,
    ⟨(some 44), .un .not (.t 43), none⟩] [])
  (.cond (.t 44) (.region (some [3, 5, 6, 7, 8, 10]) [⟨(some 45), .mv (.t 8), none⟩,
     ⟨(some 46), .mv (.t 7), none⟩,
     ⟨(some 47), .mv (.t 10), none⟩,
     ⟨(some 48), .iaddrS 1 (.t 46) (.t 47), none⟩,
     ⟨(some 49), .load false 1 (.t 48), none⟩,
     ⟨(some 50), .bsl 1 [.t 49], none⟩,
     ⟨(some 51), .app 1 (.t 45) (.t 50), none⟩,
     ⟨(some 8), .mv (.t 51), none⟩] []) (.skip))))
 (.region (some [3, 5, 6, 7, 8, 10]) [⟨(some 36), .mv (.t 10), none⟩,
   ⟨(some 37), .bin .add (.t 36) (.c (.d (.i .i64 1))), none⟩,
   ⟨(some 10), .mv (.t 37), none⟩] []))
def c_paddocklaw4_PlaceDown : ACode :=
 .seq (.region (some [0, 1]) [⟨(some 3), .box (.t 1), none⟩,
   ⟨(some 4), .mv (.c (.d (.b false))), none⟩] [])
 (.seq (.seq (.region (some [0, 3]) [⟨(some 12), .call (.f F_paddocklaw4_known) [], none⟩,
   ⟨(some 13), .un .not (.t 12), none⟩] [])
 (.cond (.t 13) (.seq (.region (some []) [⟨(some 4), .mv (.c (.d (.b false))), none⟩] [])
  (.ret)) (.skip)))
 (.seq (.region (some [0, 3]) [⟨(some 14), .mv (.t 0), none⟩,
   ⟨(some 15), .bin .rem (.t 14) (.c (.d (.i .u8 4))), none⟩,
   ⟨(some 5), .mv (.t 15), none⟩] [])
 (.seq (.region (some [3, 5]) [⟨(some 16), .call (.f F_maps_First) [], none⟩,
   ⟨(some 6), .box (.c (.d (.agg Pk.Mp.zero.cs))), none⟩,
   ⟨none, .store 16 (.t 6) (.t 16), none⟩] [])
 (.seq (.region (some [3, 5, 6]) [⟨(some 17), .load true 16 (.t 6), none⟩,
   ⟨(some 18), .mv (.t 5), none⟩,
   ⟨(some 19), .call (.f F_place_Pick) [.t 17, .t 18], none⟩,
   ⟨(some 7), .mv (.t 19), none⟩] [])
 (.seq (.region (some [3, 5, 6, 7]) [⟨(some 8), .mv (.c (.nilS)), none⟩] [])
 (.seq (.seq (.region (some [3, 5, 6, 7, 8]) [⟨(some 9), .mv (.c (.d (.i .i64 0))), none⟩] [])
 (.block 0 (.loop K_paddocklaw4_PlaceDown_0 [] l_paddocklaw4_PlaceDown_0)))
 (.seq (.seq (.region (some [3, 5, 6, 7, 8]) [⟨(some 10), .mv (.c (.d (.i .i64 0))), none⟩] [])
 (.block 2 (.loop K_paddocklaw4_PlaceDown_1 [8, 1] l_paddocklaw4_PlaceDown_1)))
 (.seq (.region (some [5, 6, 7, 8]) [⟨(some 11), .mv (.c (.d (.i .i64 (-1)))), none⟩] [])
 (.seq (.seq (.region (some [5, 6, 7, 8, 11]) [⟨(some 52), .mv (.t 8), none⟩,
   ⟨(some 53), .len false (.t 52), none⟩,
   ⟨(some 54), .bin .gtr (.t 53) (.c (.d (.i .i64 0))), none⟩] [])
 (.cond (.t 54) (.region (some [5, 6, 7, 8]) [⟨(some 55), .mv (.t 8), none⟩,
    ⟨(some 56), .iaddrS 1 (.t 55) (.c (.d (.i .i64 0))), none⟩,
    ⟨(some 57), .load false 1 (.t 56), none⟩,
    ⟨(some 11), .mv (.t 57), none⟩] []) (.skip)))
 (.seq (.region (some [5, 6, 7, 8, 11]) [⟨(some 58), .load true 16 (.t 6), none⟩,
   ⟨(some 59), .mv (.t 5), none⟩,
   ⟨(some 60), .call (.f F_place_Acting) [.t 58, .t 59], none⟩,
   ⟨(some 61), .mv (.t 8), none⟩,
   ⟨(some 62), .call (.f F_paddocklaw4_ints) [.t 60, .t 61], none⟩,
   ⟨(some 63), .mv (.t 62), none⟩,
   ⟨(some 64), .load true 16 (.t 6), some (63, true)⟩,
   ⟨(some 65), .mv (.t 5), some (63, true)⟩,
   ⟨(some 66), .call (.f F_place_Pick) [.t 64, .t 65], some (63, true)⟩,
   ⟨(some 67), .mv (.t 7), some (63, true)⟩,
   ⟨(some 68), .call (.f F_paddocklaw4_ints) [.t 66, .t 67], some (63, true)⟩,
   ⟨(some 69), .pick (.t 63) (.t 68) (.c (.d (.b false))), none⟩,
   ⟨(some 70), .mv (.t 69), none⟩,
   ⟨(some 71), .load true 16 (.t 6), some (70, true)⟩,
   ⟨(some 72), .mv (.t 5), some (70, true)⟩,
   ⟨(some 73), .call (.f F_place_Primary) [.t 71, .t 72], some (70, true)⟩,
   ⟨(some 74), .mv (.t 11), some (70, true)⟩,
   ⟨(some 75), .bin .eql (.t 73) (.t 74), some (70, true)⟩,
   ⟨(some 76), .pick (.t 70) (.t 75) (.c (.d (.b false))), none⟩,
   ⟨(some 77), .mv (.t 76), none⟩,
   ⟨(some 78), .load true 16 (.t 6), some (77, true)⟩,
   ⟨(some 79), .call (.f F_maps_First) [], some (77, true)⟩,
   ⟨(some 80), .call (.f F_place_Moved) [.t 78, .t 79], some (77, true)⟩,
   ⟨(some 81), .bin .eql (.t 80) (.c (.d (.i .i64 0))), some (77, true)⟩,
   ⟨(some 82), .pick (.t 77) (.t 81) (.c (.d (.b false))), none⟩,
   ⟨(some 4), .mv (.t 82), none⟩] [(20, 21)])
 (.ret)))))))))))
def a_paddocklaw4_PlaceDown : AFn := .code 2 c_paddocklaw4_PlaceDown [.tmp 4]
set_option maxRecDepth 100000 in
theorem k_paddocklaw4_PlaceDown : compF Try.prog h_paddocklaw4_PlaceDown F_paddocklaw4_PlaceDown = some a_paddocklaw4_PlaceDown := by kernel_rfl

/-- paddock/paddocklaw4.PlaceFew -/
def h_paddocklaw4_PlaceFew : Hints := { kp := [(0, [0, 1, 2]), (1, [0, 1, 2]), (2, []), (3, [0, 1, 2]), (4, [2, 7, 8]), (5, [2, 7, 8, 9]), (6, [2, 7, 8, 9, 10]), (8, [2, 7, 8, 9, 10]), (10, [2, 7, 8, 9, 10]), (11, [2, 7, 8, 9, 10]), (9, [2, 7, 8, 9, 10]), (7, [2, 7, 8, 9, 10]), (12, [2, 7, 8, 9]), (13, [2, 7, 8, 11]), (14, [2, 7, 8, 11, 12]), (15, [2, 7, 8, 11, 12, 13]), (17, [2, 7, 8, 11, 12, 13]), (16, [2, 7, 8, 11, 12, 13]), (18, [2, 7, 8, 11, 12])], lkp := [(6, [2, 7, 8, 9, 10]), (15, [2, 7, 8, 11, 12, 13])], lth := [] }
def K_paddocklaw4_PlaceFew_0 : Option (List Nat) := (some [2, 7, 8, 9, 10])
def l_paddocklaw4_PlaceFew_0 : ACode :=
 .seq (.seq (.region (some [2, 7, 8, 9, 10]) [⟨(some 22), .mv (.t 10), none⟩,
   ⟨(some 23), .bin .lss (.t 22) (.c (.d (.i .i64 5))), none⟩] [])
 (.cond (.t 23) (.skip) (.exit 0)))
 (.seq (.block 1 (.seq (.region (some [2, 7, 8, 9, 10]) [⟨(some 26), .mv (.t 2), none⟩] [])
  (.cond (.t 26) (.region (some [2, 7, 8, 9, 10]) [⟨(some 27), .mv (.t 10), none⟩,
     ⟨(some 28), .faddr 1 (.t 9), none⟩,
     ⟨(some 29), .iaddrA 5 3 (.t 28) (.t 27), none⟩,
     ⟨(some 30), .faddr 2 (.t 29), none⟩,
     ⟨none, .store 1 (.t 30) (.c (.d (.i .u8 5))), none⟩] []) (.seq (.region (some [2, 7, 8, 9, 10]) [⟨(some 31), .mv (.t 10), none⟩,
     ⟨(some 32), .mv (.t 8), none⟩,
     ⟨(some 33), .bin .neq (.t 31) (.t 32), none⟩] [])
   (.cond (.t 33) (.region (some [2, 7, 8, 9, 10]) [⟨(some 34), .mv (.t 10), none⟩,
      ⟨(some 35), .faddr 1 (.t 9), none⟩,
      ⟨(some 36), .iaddrA 5 3 (.t 35) (.t 34), none⟩,
      ⟨(some 37), .faddr 1 (.t 36), none⟩,
      ⟨none, .store 1 (.t 37) (.c (.d (.i .i64 0))), none⟩] []) (.skip))))))
 (.region (some [2, 7, 8, 9, 10]) [⟨(some 24), .mv (.t 10), none⟩,
   ⟨(some 25), .bin .add (.t 24) (.c (.d (.i .i64 1))), none⟩,
   ⟨(some 10), .mv (.t 25), none⟩] []))
def K_paddocklaw4_PlaceFew_1 : Option (List Nat) := (some [2, 7, 8, 11, 12, 13])
def l_paddocklaw4_PlaceFew_1 : ACode :=
 .seq (.seq (.region (some [2, 7, 8, 11, 12, 13]) [⟨(some 42), .mv (.t 13), none⟩,
   ⟨(some 43), .bin .lss (.t 42) (.c (.d (.i .i64 5))), none⟩] [])
 (.cond (.t 43) (.skip) (.exit 2)))
 (.seq (.block 3 (.region (some [2, 7, 8, 11, 12, 13]) [⟨(some 46), .mv (.t 13), none⟩,
    ⟨(some 47), .faddr 1 (.t 12), none⟩,
    ⟨(some 48), .iaddrA 5 3 (.t 47) (.t 46), none⟩,
    ⟨(some 49), .faddr 1 (.t 48), none⟩,
    ⟨none, .store 1 (.t 49) (.c (.d (.i .i64 0))), none⟩] []))
 (.region (some [2, 7, 8, 11, 12, 13]) [⟨(some 44), .mv (.t 13), none⟩,
   ⟨(some 45), .bin .add (.t 44) (.c (.d (.i .i64 1))), none⟩,
   ⟨(some 13), .mv (.t 45), none⟩] []))
def c_paddocklaw4_PlaceFew : ACode :=
 .seq (.region (some [0, 1, 2]) [⟨(some 6), .mv (.c (.d (.b false))), none⟩] [])
 (.seq (.seq (.region (some [0, 1, 2]) [⟨(some 14), .call (.f F_paddocklaw4_known) [], none⟩,
   ⟨(some 15), .un .not (.t 14), none⟩] [])
 (.cond (.t 15) (.seq (.region (some []) [⟨(some 6), .mv (.c (.d (.b false))), none⟩] [])
  (.ret)) (.skip)))
 (.seq (.region (some [0, 1, 2]) [⟨(some 16), .mv (.t 0), none⟩,
   ⟨(some 17), .bin .rem (.t 16) (.c (.d (.i .u8 4))), none⟩,
   ⟨(some 18), .mv (.t 1), none⟩,
   ⟨(some 19), .bin .rem (.t 18) (.c (.d (.i .u8 5))), none⟩,
   ⟨(some 20), .conv .i64 (.t 19), none⟩,
   ⟨(some 7), .mv (.t 17), none⟩,
   ⟨(some 8), .mv (.t 20), none⟩] [])
 (.seq (.region (some [2, 7, 8]) [⟨(some 21), .call (.f F_maps_First) [], none⟩,
   ⟨(some 9), .box (.c (.d (.agg Pk.Mp.zero.cs))), none⟩,
   ⟨none, .store 16 (.t 9) (.t 21), none⟩] [])
 (.seq (.seq (.region (some [2, 7, 8, 9]) [⟨(some 10), .mv (.c (.d (.i .i64 0))), none⟩] [])
 (.block 0 (.loop K_paddocklaw4_PlaceFew_0 [] l_paddocklaw4_PlaceFew_0)))
 (.seq (.region (some [2, 7, 8, 9]) [⟨(some 38), .load true 16 (.t 9), none⟩,
   ⟨(some 39), .mv (.t 7), none⟩,
   ⟨(some 40), .call (.f F_place_Pick) [.t 38, .t 39], none⟩,
   ⟨(some 11), .mv (.t 40), none⟩] [])
 (.seq (.region (some [2, 7, 8, 11]) [⟨(some 41), .call (.f F_maps_First) [], none⟩,
   ⟨(some 12), .box (.c (.d (.agg Pk.Mp.zero.cs))), none⟩,
   ⟨none, .store 16 (.t 12) (.t 41), none⟩] [])
 (.seq (.seq (.region (some [2, 7, 8, 11, 12]) [⟨(some 13), .mv (.c (.d (.i .i64 0))), none⟩] [])
 (.block 2 (.loop K_paddocklaw4_PlaceFew_1 [] l_paddocklaw4_PlaceFew_1)))
 (.seq (.region (some [2, 7, 8, 11, 12]) [⟨(some 50), .mv (.t 11), none⟩,
   ⟨(some 51), .len false (.t 50), none⟩,
   ⟨(some 52), .bin .eql (.t 51) (.c (.d (.i .i64 1))), none⟩,
   ⟨(some 53), .mv (.t 52), none⟩,
   ⟨(some 54), .mv (.t 2), some (53, true)⟩,
   ⟨(some 55), .mv (.t 54), some (53, true)⟩,
   ⟨(some 56), .mv (.t 11), some (55, false)⟩,
   ⟨(some 57), .iaddrS 1 (.t 56) (.c (.d (.i .i64 0))), some (55, false)⟩,
   ⟨(some 58), .load false 1 (.t 57), some (55, false)⟩,
   ⟨(some 59), .mv (.t 8), some (55, false)⟩,
   ⟨(some 60), .bin .eql (.t 58) (.t 59), some (55, false)⟩,
   ⟨(some 61), .pick (.t 55) (.c (.d (.b true))) (.t 60), some (53, true)⟩,
   ⟨(some 62), .pick (.t 53) (.t 61) (.c (.d (.b false))), none⟩,
   ⟨(some 63), .mv (.t 62), none⟩,
   ⟨(some 64), .load true 16 (.t 12), some (63, true)⟩,
   ⟨(some 65), .mv (.t 7), some (63, true)⟩,
   ⟨(some 66), .call (.f F_place_Pick) [.t 64, .t 65], some (63, true)⟩,
   ⟨(some 67), .len false (.t 66), some (63, true)⟩,
   ⟨(some 68), .bin .eql (.t 67) (.c (.d (.i .i64 0))), some (63, true)⟩,
   ⟨(some 69), .pick (.t 63) (.t 68) (.c (.d (.b false))), none⟩,
   ⟨(some 70), .mv (.t 69), none⟩,
   ⟨(some 71), .load true 16 (.t 12), some (70, true)⟩,
   ⟨(some 72), .mv (.t 7), some (70, true)⟩,
   ⟨(some 73), .call (.f F_place_Primary) [.t 71, .t 72], some (70, true)⟩,
   ⟨(some 74), .bin .eql (.t 73) (.c (.d (.i .i64 (-1)))), some (70, true)⟩,
   ⟨(some 75), .pick (.t 70) (.t 74) (.c (.d (.b false))), none⟩,
   ⟨(some 6), .mv (.t 75), none⟩] [])
 (.ret)))))))))
def a_paddocklaw4_PlaceFew : AFn := .code 3 c_paddocklaw4_PlaceFew [.tmp 6]
set_option maxRecDepth 100000 in
theorem k_paddocklaw4_PlaceFew : compF Try.prog h_paddocklaw4_PlaceFew F_paddocklaw4_PlaceFew = some a_paddocklaw4_PlaceFew := by kernel_rfl

/-- paddock/paddocklaw4.PlaceMoves -/
def h_paddocklaw4_PlaceMoves : Hints := { kp := [(0, [0, 1]), (1, [1, 2]), (2, []), (3, [1, 2]), (4, [1, 2, 5]), (5, [1, 2, 5, 6]), (7, [1, 2, 5, 6]), (6, [1, 2, 5, 6]), (8, [1, 5]), (9, [5, 7]), (10, [5, 7, 8]), (11, [5, 7, 8]), (12, [5, 7, 8, 9]), (13, [5, 7, 8, 9, 10]), (15, [5, 7, 8, 9, 10]), (16, [5, 7, 8, 9, 10, 11, 12]), (17, []), (18, [5, 7, 8, 9, 10, 11, 12]), (19, [5, 7, 8, 9, 10]), (14, [5, 7, 8, 9, 10]), (20, [5, 8, 9])], lkp := [(5, [1, 2, 5, 6]), (13, [5, 7, 8, 9, 10])], lth := [] }
def K_paddocklaw4_PlaceMoves_0 : Option (List Nat) := (some [1, 2, 5, 6])
def l_paddocklaw4_PlaceMoves_0 : ACode :=
 .seq (.seq (.region (some [1, 2, 5, 6]) [⟨(some 16), .mv (.t 6), none⟩,
   ⟨(some 17), .bin .lss (.t 16) (.c (.d (.i .i64 5))), none⟩] [])
 (.cond (.t 17) (.skip) (.exit 0)))
 (.seq (.block 1 (.region (some [1, 2, 5, 6]) [⟨(some 20), .mv (.t 6), none⟩,
    ⟨(some 21), .mv (.t 6), none⟩,
    ⟨(some 22), .iaddrA 5 1 (.t 2) (.t 21), none⟩,
    ⟨(some 23), .load false 1 (.t 22), none⟩,
    ⟨(some 24), .bin .rem (.t 23) (.c (.d (.i .u8 17))), none⟩,
    ⟨(some 25), .conv .i64 (.t 24), none⟩,
    ⟨(some 26), .faddr 1 (.t 5), none⟩,
    ⟨(some 27), .iaddrA 5 3 (.t 26) (.t 20), none⟩,
    ⟨(some 28), .faddr 1 (.t 27), none⟩,
    ⟨none, .store 1 (.t 28) (.t 25), none⟩] []))
 (.region (some [1, 2, 5, 6]) [⟨(some 18), .mv (.t 6), none⟩,
   ⟨(some 19), .bin .add (.t 18) (.c (.d (.i .i64 1))), none⟩,
   ⟨(some 6), .mv (.t 19), none⟩] []))
def K_paddocklaw4_PlaceMoves_1 : Option (List Nat) := (some [5, 7, 8, 9, 10])
def l_paddocklaw4_PlaceMoves_1 : ACode :=
 .seq (.seq (.region (some [5, 7, 8, 9, 10]) [⟨(some 37), .mv (.t 10), none⟩,
   ⟨(some 38), .bin .lss (.t 37) (.c (.d (.i .u8 4))), none⟩] [])
 (.cond (.t 38) (.skip) (.exit 2)))
 (.seq (.block 3 (.seq (.region (some [5, 7, 8, 9, 10]) [⟨(some 41), .load true 16 (.t 5), none⟩,
    ⟨(some 42), .mv (.t 10), none⟩,
    ⟨(some 43), .call (.f F_place_Pick) [.t 41, .t 42], none⟩,
    ⟨(some 44), .load true 16 (.t 8), none⟩,
    ⟨(some 45), .mv (.t 10), none⟩,
    ⟨(some 46), .call (.f F_place_Pick) [.t 44, .t 45], none⟩,
    ⟨(some 11), .mv (.t 43), none⟩,
    ⟨(some 12), .mv (.t 46), none⟩] [(0, 3), (2, 3)])
  (.seq (.seq (.region (some [5, 7, 8, 9, 10, 11, 12]) [⟨(some 47), .mv (.t 12), none⟩,
    ⟨(some 48), .len false (.t 47), none⟩,
    ⟨(some 49), .bin .eql (.t 48) (.c (.d (.i .i64 0))), none⟩,
    ⟨(some 50), .mv (.t 49), none⟩,
    ⟨(some 51), .mv (.t 11), some (50, false)⟩,
    ⟨(some 52), .len false (.t 51), some (50, false)⟩,
    ⟨(some 53), .bin .gtr (.t 52) (.c (.d (.i .i64 0))), some (50, false)⟩,
    ⟨(some 54), .mv (.t 53), some (50, false)⟩,
    ⟨(some 55), .mv (.t 12), some (54, true)⟩,
    ⟨(some 56), .iaddrS 1 (.t 55) (.c (.d (.i .i64 0))), some (54, true)⟩,
    ⟨(some 57), .load false 1 (.t 56), some (54, true)⟩,
    ⟨(some 58), .mv (.t 11), some (54, true)⟩,
    ⟨(some 59), .iaddrS 1 (.t 58) (.c (.d (.i .i64 0))), some (54, true)⟩,
    ⟨(some 60), .load false 1 (.t 59), some (54, true)⟩,
    ⟨(some 61), .bin .neq (.t 57) (.t 60), some (54, true)⟩,
    ⟨(some 62), .pick (.t 54) (.t 61) (.c (.d (.b false))), some (50, false)⟩,
    ⟨(some 63), .mv (.t 62), some (50, false)⟩,
    ⟨(some 64), .mv (.t 12), some (63, true)⟩,
    ⟨(some 65), .iaddrS 1 (.t 64) (.c (.d (.i .i64 0))), some (63, true)⟩,
    ⟨(some 66), .load false 1 (.t 65), some (63, true)⟩,
    ⟨(some 67), .mv (.t 7), some (63, true)⟩,
    ⟨(some 68), .bin .neq (.t 66) (.t 67), some (63, true)⟩,
    ⟨(some 69), .pick (.t 63) (.t 68) (.c (.d (.b false))), some (50, false)⟩,
    ⟨(some 70), .pick (.t 50) (.c (.d (.b true))) (.t 69), none⟩] [(10, 13)])
  (.cond (.t 70) (.seq (.region (some []) [⟨(some 4), .mv (.c (.d (.b false))), none⟩] [])
   (.ret)) (.skip)))
  (.seq (.region (some [5, 7, 8, 9, 10, 11, 12]) [⟨(some 71), .mv (.t 11), none⟩,
    ⟨(some 72), .mv (.t 12), none⟩,
    ⟨(some 73), .call (.f F_paddocklaw4_ints) [.t 71, .t 72], none⟩,
    ⟨(some 74), .un .not (.t 73), none⟩] [])
  (.cond (.t 74) (.region (some [5, 7, 8, 9, 10]) [⟨(some 75), .mv (.t 9), none⟩,
     ⟨(some 76), .bin .add (.t 75) (.c (.d (.i .i64 1))), none⟩,
     ⟨(some 9), .mv (.t 76), none⟩] []) (.skip))))))
 (.region (some [5, 7, 8, 9, 10]) [⟨(some 39), .mv (.t 10), none⟩,
   ⟨(some 40), .bin .add (.t 39) (.c (.d (.i .u8 1))), none⟩,
   ⟨(some 10), .mv (.t 40), none⟩] []))
def c_paddocklaw4_PlaceMoves : ACode :=
 .seq (.region (some [0, 1]) [⟨(some 2), .box (.t 0), none⟩,
   ⟨(some 4), .mv (.c (.d (.b false))), none⟩] [])
 (.seq (.seq (.region (some [1, 2]) [⟨(some 13), .call (.f F_paddocklaw4_known) [], none⟩,
   ⟨(some 14), .un .not (.t 13), none⟩] [])
 (.cond (.t 14) (.seq (.region (some []) [⟨(some 4), .mv (.c (.d (.b false))), none⟩] [])
  (.ret)) (.skip)))
 (.seq (.region (some [1, 2]) [⟨(some 15), .call (.f F_maps_First) [], none⟩,
   ⟨(some 5), .box (.c (.d (.agg Pk.Mp.zero.cs))), none⟩,
   ⟨none, .store 16 (.t 5) (.t 15), none⟩] [])
 (.seq (.seq (.region (some [1, 2, 5]) [⟨(some 6), .mv (.c (.d (.i .i64 0))), none⟩] [])
 (.block 0 (.loop K_paddocklaw4_PlaceMoves_0 [] l_paddocklaw4_PlaceMoves_0)))
 (.seq (.region (some [1, 5]) [⟨(some 29), .mv (.t 1), none⟩,
   ⟨(some 30), .bin .rem (.t 29) (.c (.d (.i .u8 5))), none⟩,
   ⟨(some 31), .conv .i64 (.t 30), none⟩,
   ⟨(some 7), .mv (.t 31), none⟩] [])
 (.seq (.region (some [5, 7]) [⟨(some 32), .load true 16 (.t 5), none⟩,
   ⟨(some 8), .box (.c (.d (.agg Pk.Mp.zero.cs))), none⟩,
   ⟨none, .store 16 (.t 8) (.t 32), none⟩] [])
 (.seq (.region (some [5, 7, 8]) [⟨(some 33), .mv (.t 7), none⟩,
   ⟨(some 34), .faddr 1 (.t 8), none⟩,
   ⟨(some 35), .iaddrA 5 3 (.t 34) (.t 33), none⟩,
   ⟨(some 36), .faddr 1 (.t 35), none⟩,
   ⟨none, .store 1 (.t 36) (.c (.d (.i .i64 16))), none⟩] [])
 (.seq (.region (some [5, 7, 8]) [⟨(some 9), .mv (.c (.d (.i .i64 0))), none⟩] [])
 (.seq (.seq (.region (some [5, 7, 8, 9]) [⟨(some 10), .mv (.c (.d (.i .u8 0))), none⟩] [])
 (.block 2 (.loop K_paddocklaw4_PlaceMoves_1 [] l_paddocklaw4_PlaceMoves_1)))
 (.seq (.region (some [5, 8, 9]) [⟨(some 77), .load true 16 (.t 5), none⟩,
   ⟨(some 78), .load true 16 (.t 8), none⟩,
   ⟨(some 79), .call (.f F_place_Moved) [.t 77, .t 78], none⟩,
   ⟨(some 80), .mv (.t 9), none⟩,
   ⟨(some 81), .bin .eql (.t 79) (.t 80), none⟩,
   ⟨(some 82), .mv (.t 81), none⟩,
   ⟨(some 83), .load true 16 (.t 8), some (82, true)⟩,
   ⟨(some 84), .load true 16 (.t 5), some (82, true)⟩,
   ⟨(some 85), .call (.f F_place_Moved) [.t 83, .t 84], some (82, true)⟩,
   ⟨(some 86), .mv (.t 9), some (82, true)⟩,
   ⟨(some 87), .bin .eql (.t 85) (.t 86), some (82, true)⟩,
   ⟨(some 88), .pick (.t 82) (.t 87) (.c (.d (.b false))), none⟩,
   ⟨(some 4), .mv (.t 88), none⟩] [])
 (.ret))))))))))
def a_paddocklaw4_PlaceMoves : AFn := .code 2 c_paddocklaw4_PlaceMoves [.tmp 4]
set_option maxRecDepth 100000 in
theorem k_paddocklaw4_PlaceMoves : compF Try.prog h_paddocklaw4_PlaceMoves F_paddocklaw4_PlaceMoves = some a_paddocklaw4_PlaceMoves := by kernel_rfl

/-- paddock/paddocklaw4.known -/
def h_paddocklaw4_known : Hints := { kp := [(0, []), (1, []), (2, [1]), (4, [1]), (5, [1, 2]), (6, []), (3, [1]), (7, [])], lkp := [(2, [1])], lth := [] }
def K_paddocklaw4_known_0 : Option (List Nat) := (some [1])
def l_paddocklaw4_known_0 : ACode :=
 .seq (.seq (.region (some [1]) [⟨(some 3), .mv (.t 1), none⟩,
   ⟨(some 4), .bin .lss (.t 3) (.c (.d (.i .u8 4))), none⟩] [])
 (.cond (.t 4) (.skip) (.exit 0)))
 (.seq (.block 1 (.seq (.region (some [1]) [⟨(some 7), .call (.f F_maps_First) [], none⟩,
    ⟨(some 8), .mv (.t 1), none⟩,
    ⟨(some 9), .call (.f F_place_Pick) [.t 7, .t 8], none⟩,
    ⟨(some 2), .mv (.t 9), none⟩] [])
  (.seq (.region (some [1, 2]) [⟨(some 10), .mv (.t 2), none⟩,
    ⟨(some 11), .len false (.t 10), none⟩,
    ⟨(some 12), .bin .neq (.t 11) (.c (.d (.i .i64 3))), none⟩,
    ⟨(some 13), .mv (.t 12), none⟩,
    ⟨(some 14), .call (.f F_maps_First) [], some (13, false)⟩,
    ⟨(some 15), .mv (.t 1), some (13, false)⟩,
    ⟨(some 16), .call (.f F_place_Primary) [.t 14, .t 15], some (13, false)⟩,
    ⟨(some 17), .mv (.t 2), some (13, false)⟩,
    ⟨(some 18), .iaddrS 1 (.t 17) (.c (.d (.i .i64 0))), some (13, false)⟩,
    ⟨(some 19), .load false 1 (.t 18), some (13, false)⟩,
    ⟨(some 20), .bin .neq (.t 16) (.t 19), some (13, false)⟩,
    ⟨(some 21), .pick (.t 13) (.c (.d (.b true))) (.t 20), none⟩] [(4, 9), (6, 9)])
  (.cond (.t 21) (.seq (.region (some []) [⟨(some 0), .mv (.c (.d (.b false))), none⟩] [])
   (.ret)) (.skip)))))
 (.region (some [1]) [⟨(some 5), .mv (.t 1), none⟩,
   ⟨(some 6), .bin .add (.t 5) (.c (.d (.i .u8 1))), none⟩,
   ⟨(some 1), .mv (.t 6), none⟩] []))
def c_paddocklaw4_known : ACode :=
 .seq (.region (some []) [⟨(some 0), .mv (.c (.d (.b false))), none⟩] [])
 (.seq (.seq (.region (some []) [⟨(some 1), .mv (.c (.d (.i .u8 0))), none⟩] [])
 (.block 0 (.loop K_paddocklaw4_known_0 [] l_paddocklaw4_known_0)))
 (.seq (.region (some []) [⟨(some 22), .call (.f F_maps_First) [], none⟩,
   ⟨(some 23), .call (.f F_place_Pick) [.t 22, .c (.d (.i .u8 4))], none⟩,
   ⟨(some 24), .len false (.t 23), none⟩,
   ⟨(some 25), .bin .eql (.t 24) (.c (.d (.i .i64 0))), none⟩,
   ⟨(some 26), .mv (.t 25), none⟩,
   ⟨(some 27), .build (List.map .d Pk.Mp.zero.cs) [], some (26, true)⟩,
   ⟨(some 28), .call (.f F_place_Primary) [.t 27, .c (.d (.i .u8 0))], some (26, true)⟩,
   ⟨(some 29), .bin .eql (.t 28) (.c (.d (.i .i64 (-1)))), some (26, true)⟩,
   ⟨(some 30), .pick (.t 26) (.t 29) (.c (.d (.b false))), none⟩,
   ⟨(some 31), .mv (.t 30), none⟩,
   ⟨(some 32), .call (.f F_maps_First) [], some (31, true)⟩,
   ⟨(some 33), .call (.f F_maps_First) [], some (31, true)⟩,
   ⟨(some 34), .call (.f F_place_Moved) [.t 32, .t 33], some (31, true)⟩,
   ⟨(some 35), .bin .eql (.t 34) (.c (.d (.i .i64 0))), some (31, true)⟩,
   ⟨(some 36), .pick (.t 31) (.t 35) (.c (.d (.b false))), none⟩,
   ⟨(some 0), .mv (.t 36), none⟩] [])
 (.ret)))
def a_paddocklaw4_known : AFn := .code 0 c_paddocklaw4_known [.tmp 0]
set_option maxRecDepth 100000 in
theorem k_paddocklaw4_known : compF Try.prog h_paddocklaw4_known F_paddocklaw4_known = some a_paddocklaw4_known := by kernel_rfl

/-- paddock/maps.Is -/
def h_maps_Is : Hints := { kp := [(0, [0]), (1, [1]), (2, [1, 6, 7]), (3, [1, 6, 7]), (4, [1, 4, 6, 7]), (5, []), (6, [1, 6, 7]), (7, [1])], lkp := [(2, [1, 6, 7])], lth := [] }
def K_maps_Is_0 : Option (List Nat) := (some [1, 6, 7])
def l_maps_Is_0 : ACode :=
 .seq (.region (some [1, 6, 7]) [⟨(some 8), .bin .lss (.t 7) (.c (.d (.i .i64 5))), none⟩] [])
 (.seq (.cond (.t 8) (.skip) (.exit 0))
 (.seq (.block 1 (.seq (.region (some [1, 6, 7]) [⟨(some 9), .idxA true 5 3 (.t 6) (.t 7), none⟩,
    ⟨(some 4), .box (.c (.d (.agg [.b false, .i .i64 0, .i .u8 0]))), none⟩,
    ⟨none, .store 3 (.t 4) (.t 9), none⟩] [])
  (.seq (.region (some [1, 4, 6, 7]) [⟨(some 10), .faddr 1 (.t 4), none⟩,
    ⟨(some 11), .load false 1 (.t 10), none⟩,
    ⟨(some 12), .bin .lss (.t 11) (.c (.d (.i .i64 0))), none⟩,
    ⟨(some 13), .mv (.t 12), none⟩,
    ⟨(some 14), .faddr 1 (.t 4), some (13, false)⟩,
    ⟨(some 15), .load false 1 (.t 14), some (13, false)⟩,
    ⟨(some 16), .bin .gtr (.t 15) (.c (.d (.i .i64 16))), some (13, false)⟩,
    ⟨(some 17), .pick (.t 13) (.c (.d (.b true))) (.t 16), none⟩,
    ⟨(some 18), .mv (.t 17), none⟩,
    ⟨(some 19), .faddr 2 (.t 4), some (18, false)⟩,
    ⟨(some 20), .load false 1 (.t 19), some (18, false)⟩,
    ⟨(some 21), .bin .geq (.t 20) (.c (.d (.i .u8 8))), some (18, false)⟩,
    ⟨(some 22), .pick (.t 18) (.c (.d (.b true))) (.t 21), none⟩] [])
  (.cond (.t 22) (.seq (.region (some []) [⟨(some 2), .mv (.c (.d (.b false))), none⟩] [])
   (.ret)) (.skip)))))
 (.region (some [1, 6, 7]) [⟨(some 23), .bin .add (.t 7) (.c (.d (.i .i64 1))), none⟩,
   ⟨(some 7), .mv (.t 23), none⟩] [])))
def c_maps_Is : ACode :=
 .seq (.region (some [0]) [⟨(some 1), .box (.t 0), none⟩,
   ⟨(some 2), .mv (.c (.d (.b false))), none⟩] [])
 (.seq (.seq (.region (some [1]) [⟨(some 5), .faddr 1 (.t 1), none⟩,
   ⟨(some 6), .load true 15 (.t 5), none⟩,
   ⟨(some 7), .mv (.c (.d (.i .i64 0))), none⟩] [])
 (.block 0 (.loop K_maps_Is_0 [] l_maps_Is_0)))
 (.seq (.region (some [1]) [⟨(some 24), .faddr 0 (.t 1), none⟩,
   ⟨(some 25), .load false 1 (.t 24), none⟩,
   ⟨(some 26), .bin .geq (.t 25) (.c (.d (.i .u32 1))), none⟩,
   ⟨(some 27), .mv (.t 26), none⟩,
   ⟨(some 28), .faddr 0 (.t 1), some (27, true)⟩,
   ⟨(some 29), .load false 1 (.t 28), some (27, true)⟩,
   ⟨(some 30), .bin .leq (.t 29) (.c (.d (.i .u32 60))), some (27, true)⟩,
   ⟨(some 31), .pick (.t 27) (.t 30) (.c (.d (.b false))), none⟩,
   ⟨(some 2), .mv (.t 31), none⟩] [])
 (.ret)))
def a_maps_Is : AFn := .code 1 c_maps_Is [.tmp 2]
set_option maxRecDepth 100000 in
theorem k_maps_Is : compF Try.prog h_maps_Is F_maps_Is = some a_maps_Is := by kernel_rfl

/-- paddock/place.Pick -/
def h_place_Pick : Hints := { kp := [(0, [0, 1]), (1, [1, 2]), (2, []), (3, [1, 2]), (4, [5]), (5, [5, 6]), (7, [5, 6]), (6, [5, 6]), (8, [5])], lkp := [(5, [5, 6])], lth := [] }
def K_place_Pick_0 : Option (List Nat) := (some [5, 6])
def l_place_Pick_0 : ACode :=
 .seq (.seq (.region (some [5, 6]) [⟨(some 20), .mv (.t 6), none⟩,
   ⟨(some 21), .bin .lss (.t 20) (.c (.d (.i .i64 3))), none⟩,
   ⟨(some 22), .mv (.t 21), none⟩,
   ⟨(some 23), .mv (.t 5), some (22, true)⟩,
   ⟨(some 24), .nilck (.t 23), some (22, true)⟩,
   ⟨(some 25), .faddr 17 (.t 24), some (22, true)⟩,
   ⟨(some 26), .load false 1 (.t 25), some (22, true)⟩,
   ⟨(some 27), .len false (.t 26), some (22, true)⟩,
   ⟨(some 28), .bin .gtr (.t 27) (.c (.d (.i .i64 0))), some (22, true)⟩,
   ⟨(some 29), .pick (.t 22) (.t 28) (.c (.d (.b false))), none⟩] [])
 (.cond (.t 29) (.skip) (.exit 0)))
 (.seq (.block 1 (.region (some [5, 6]) [⟨(some 32), .mv (.t 5), none⟩,
    ⟨(some 33), .mv (.t 6), none⟩,
    ⟨(some 34), .call (.f F_place_choice_pick) [.t 32, .t 33], none⟩] []))
 (.region (some [5, 6]) [⟨(some 30), .mv (.t 6), none⟩,
   ⟨(some 31), .bin .add (.t 30) (.c (.d (.i .i64 1))), none⟩,
   ⟨(some 6), .mv (.t 31), none⟩] []))
def c_place_Pick : ACode :=
 .seq (.region (some [0, 1]) [⟨(some 2), .box (.t 0), none⟩,
   ⟨(some 4), .mv (.c (.nilS)), none⟩] [])
 (.seq (.seq (.region (some [1, 2]) [⟨(some 7), .load true 16 (.t 2), none⟩,
   ⟨(some 8), .call (.f F_maps_Is) [.t 7], none⟩,
   ⟨(some 9), .un .not (.t 8), none⟩,
   ⟨(some 10), .mv (.t 9), none⟩,
   ⟨(some 11), .mv (.t 1), some (10, false)⟩,
   ⟨(some 12), .bin .geq (.t 11) (.c (.d (.i .u8 4))), some (10, false)⟩,
   ⟨(some 13), .pick (.t 10) (.c (.d (.b true))) (.t 12), none⟩] [])
 (.cond (.t 13) (.seq (.region (some []) [⟨(some 4), .mv (.c (.nilS)), none⟩] [])
  (.ret)) (.skip)))
 (.seq (.region (some [1, 2]) [⟨(some 14), .load true 16 (.t 2), none⟩,
   ⟨(some 15), .mv (.t 1), none⟩,
   ⟨(some 16), .load true 16 (.t 2), none⟩,
   ⟨(some 17), .call (.f F_maps_In) [.t 16], none⟩,
   ⟨(some 18), .build [.d (.i .u32 0), .d (.b false), .d (.i .i64 0), .d (.i .u8 0), .d (.b false), .d (.i .i64 0), .d (.i .u8 0), .d (.b false), .d (.i .i64 0), .d (.i .u8 0), .d (.b false), .d (.i .i64 0), .d (.i .u8 0), .d (.b false), .d (.i .i64 0), .d (.i .u8 0), .d (.i .u8 0), .nilS, .nilS] [(0, 16, .t 14), (16, 1, .t 15), (17, 1, .t 17)], none⟩,
   ⟨(some 19), .box (.t 18), none⟩,
   ⟨(some 5), .mv (.t 19), none⟩] [(0, 2), (0, 3)])
 (.seq (.seq (.region (some [5]) [⟨(some 6), .mv (.c (.d (.i .i64 0))), none⟩] [])
 (.block 0 (.loop K_place_Pick_0 [] l_place_Pick_0)))
 (.seq (.region (some [5]) [⟨(some 35), .mv (.t 5), none⟩,
   ⟨(some 36), .nilck (.t 35), none⟩,
   ⟨(some 37), .faddr 18 (.t 36), none⟩,
   ⟨(some 38), .load false 1 (.t 37), none⟩,
   ⟨(some 4), .mv (.t 38), none⟩] [])
 (.ret)))))
def a_place_Pick : AFn := .code 2 c_place_Pick [.tmp 4]
set_option maxRecDepth 100000 in
theorem k_place_Pick : compF Try.prog h_place_Pick F_place_Pick = some a_place_Pick := by kernel_rfl

/-- paddock/place.Acting -/
def h_place_Acting : Hints := { dat := true, kp := [(0, [0, 1]), (1, [1, 2])], lkp := [], lth := [] }
def c_place_Acting : ACode :=
 .seq (.region (some [0, 1]) [⟨(some 2), .box (.t 0), none⟩,
   ⟨(some 4), .mv (.c (.nilS)), none⟩] [])
 (.seq (.region (some [1, 2]) [⟨(some 5), .load true 16 (.t 2), none⟩,
   ⟨(some 6), .mv (.t 1), none⟩,
   ⟨(some 7), .call (.f F_place_Pick) [.t 5, .t 6], none⟩,
   ⟨(some 8), .mkfn F_place_Acting_1 [] [.t 2], none⟩,
   ⟨(some 9), .call (.f F_slices_DeleteFunc_sint_int) [.t 7, .t 8], none⟩,
   ⟨(some 4), .mv (.t 9), none⟩] [])
 (.ret))
def a_place_Acting : AFn := .code 2 c_place_Acting [.dat (.tmp 4)]
set_option maxRecDepth 100000 in
theorem k_place_Acting : compF Try.prog h_place_Acting F_place_Acting = some a_place_Acting := by kernel_rfl

/-- paddock/place.Primary -/
def h_place_Primary : Hints := { kp := [(0, [0, 1]), (1, [1, 2]), (2, [5]), (3, []), (4, [5])], lkp := [], lth := [] }
def c_place_Primary : ACode :=
 .seq (.region (some [0, 1]) [⟨(some 2), .box (.t 0), none⟩,
   ⟨(some 4), .mv (.c (.d (.i .i64 0))), none⟩] [])
 (.seq (.region (some [1, 2]) [⟨(some 6), .load true 16 (.t 2), none⟩,
   ⟨(some 7), .mv (.t 1), none⟩,
   ⟨(some 8), .call (.f F_place_Acting) [.t 6, .t 7], none⟩,
   ⟨(some 5), .mv (.t 8), none⟩] [])
 (.seq (.seq (.region (some [5]) [⟨(some 9), .mv (.t 5), none⟩,
   ⟨(some 10), .len false (.t 9), none⟩,
   ⟨(some 11), .bin .eql (.t 10) (.c (.d (.i .i64 0))), none⟩] [])
 (.cond (.t 11) (.seq (.region (some []) [⟨(some 4), .mv (.c (.d (.i .i64 (-1)))), none⟩] [])
  (.ret)) (.skip)))
 (.seq (.region (some [5]) [⟨(some 12), .mv (.t 5), none⟩,
   ⟨(some 13), .iaddrS 1 (.t 12) (.c (.d (.i .i64 0))), none⟩,
   ⟨(some 14), .load false 1 (.t 13), none⟩,
   ⟨(some 4), .mv (.t 14), none⟩] [])
 (.ret))))
def a_place_Primary : AFn := .code 2 c_place_Primary [.tmp 4]
set_option maxRecDepth 100000 in
theorem k_place_Primary : compF Try.prog h_place_Primary F_place_Primary = some a_place_Primary := by kernel_rfl

/-- paddock/place.Moved -/
def h_place_Moved : Hints := { kp := [(0, [0, 1]), (1, [2, 3]), (2, [2, 3, 5]), (3, [2, 3, 5, 7]), (4, [2, 3, 5, 7]), (5, [2, 3, 5, 6, 7]), (6, [2, 3, 5, 7]), (7, [2, 3, 5, 7]), (8, [5])], lkp := [(3, [2, 3, 5, 7])], lth := [] }
def K_place_Moved_0 : Option (List Nat) := (some [2, 3, 5, 7])
def l_place_Moved_0 : ACode :=
 .seq (.region (some [2, 3, 5, 7]) [⟨(some 8), .bin .lss (.t 7) (.c (.d (.i .u8 4))), none⟩] [])
 (.seq (.cond (.t 8) (.skip) (.exit 0))
 (.seq (.block 1 (.seq (.region (some [2, 3, 5, 7]) [⟨(some 9), .mv (.t 7), none⟩,
    ⟨(some 6), .mv (.t 9), none⟩] [])
  (.seq (.region (some [2, 3, 5, 6, 7]) [⟨(some 10), .load true 16 (.t 2), none⟩,
    ⟨(some 11), .mv (.t 6), none⟩,
    ⟨(some 12), .call (.f F_place_Pick) [.t 10, .t 11], none⟩,
    ⟨(some 13), .load true 16 (.t 3), none⟩,
    ⟨(some 14), .mv (.t 6), none⟩,
    ⟨(some 15), .call (.f F_place_Pick) [.t 13, .t 14], none⟩,
    ⟨(some 16), .call (.f F_slices_Equal_sint_int) [.t 12, .t 15], none⟩,
    ⟨(some 17), .un .not (.t 16), none⟩] [(0, 3), (2, 3)])
  (.cond (.t 17) (.region (some [2, 3, 5, 7]) [⟨(some 18), .mv (.t 5), none⟩,
     ⟨(some 19), .bin .add (.t 18) (.c (.d (.i .i64 1))), none⟩,
     ⟨(some 5), .mv (.t 19), none⟩] []) (.skip)))))
 (.region (some [2, 3, 5, 7]) [⟨(some 20), .bin .add (.t 7) (.c (.d (.i .u8 1))), none⟩,
   ⟨(some 7), .mv (.t 20), none⟩] [])))
def c_place_Moved : ACode :=
 .seq (.region (some [0, 1]) [⟨(some 2), .box (.t 0), none⟩,
   ⟨(some 3), .box (.t 1), none⟩,
   ⟨(some 4), .mv (.c (.d (.i .i64 0))), none⟩] [])
 (.seq (.region (some [2, 3]) [⟨(some 5), .mv (.c (.d (.i .i64 0))), none⟩] [])
 (.seq (.seq (.region (some [2, 3, 5]) [⟨(some 7), .mv (.c (.d (.i .u8 0))), none⟩] [])
 (.block 0 (.loop K_place_Moved_0 [] l_place_Moved_0)))
 (.seq (.region (some [5]) [⟨(some 21), .mv (.t 5), none⟩,
   ⟨(some 4), .mv (.t 21), none⟩] [])
 (.ret))))
def a_place_Moved : AFn := .code 2 c_place_Moved [.tmp 4]
set_option maxRecDepth 100000 in
theorem k_place_Moved : compF Try.prog h_place_Moved F_place_Moved = some a_place_Moved := by kernel_rfl

/-- paddock/paddockref3.Acting -/
def h_paddockref3_Acting : Hints := { dat := true, kp := [(0, [0, 1]), (1, [1, 2]), (2, [2, 5]), (3, [2, 5, 6]), (4, [2, 5, 6, 7]), (6, [2, 5, 6, 7]), (7, [2, 5, 6, 7]), (5, [2, 5, 6, 7]), (8, [6])], lkp := [(4, [2, 5, 6, 7])], lth := [(4, [6, 1])] }
def K_paddockref3_Acting_0 : Option (List Nat) := (some [2, 5, 6, 7])
def l_paddockref3_Acting_0 : ACode :=
 .seq (.seq (.region (some [2, 5, 6, 7]) [⟨(some 11), .mv (.t 7), none⟩,
   ⟨(some 12), .mv (.t 5), none⟩,
   ⟨(some 13), .len false (.t 12), none⟩,
   ⟨(some 14), .bin .lss (.t 11) (.t 13), none⟩] [])
 (.cond (.t 14) (.skip) (.exit 0)))
 (.seq (.block 1 (.seq (.region (some [2, 5, 6, 7]) [⟨(some 17), .mv (.t 5), none⟩,
    ⟨(some 18), .mv (.t 7), none⟩,
    ⟨(some 19), .iaddrS 1 (.t 17) (.t 18), none⟩,
    ⟨(some 20), .load false 1 (.t 19), none⟩,
    ⟨(some 21), .faddr 1 (.t 2), none⟩,
    ⟨(some 22), .iaddrA 5 3 (.t 21) (.t 20), none⟩,
    ⟨(some 23), .faddr 0 (.t 22), none⟩,
    ⟨(some 24), .load false 1 (.t 23), none⟩] [])
  (.cond (.t 24) (.region (some [2, 5, 6, 7]) [⟨(some 25), .mv (.t 6), none⟩,
     ⟨(some 26), .mv (.t 5), none⟩,
     ⟨(some 27), .mv (.t 7), none⟩,
     ⟨(some 28), .iaddrS 1 (.t 26) (.t 27), none⟩,
     ⟨(some 29), .load false 1 (.t 28), none⟩,
     ⟨(some 30), .bsl 1 [.t 29], none⟩,
     ⟨(some 31), .app 1 (.t 25) (.t 30), none⟩,
     ⟨(some 6), .mv (.t 31), none⟩] []) (.skip))))
 (.region (some [2, 5, 6, 7]) [⟨(some 15), .mv (.t 7), none⟩,
   ⟨(some 16), .bin .add (.t 15) (.c (.d (.i .i64 1))), none⟩,
   ⟨(some 7), .mv (.t 16), none⟩] []))
def c_paddockref3_Acting : ACode :=
 .seq (.region (some [0, 1]) [⟨(some 2), .box (.t 0), none⟩,
   ⟨(some 4), .mv (.c (.nilS)), none⟩] [])
 (.seq (.region (some [1, 2]) [⟨(some 8), .load true 16 (.t 2), none⟩,
   ⟨(some 9), .mv (.t 1), none⟩,
   ⟨(some 10), .call (.f F_paddockref3_Pick) [.t 8, .t 9], none⟩,
   ⟨(some 5), .mv (.t 10), none⟩] [])
 (.seq (.region (some [2, 5]) [⟨(some 6), .mv (.c (.nilS)), none⟩] [])
 (.seq (.seq (.region (some [2, 5, 6]) [⟨(some 7), .mv (.c (.d (.i .i64 0))), none⟩] [])
 (.block 0 (.loop K_paddockref3_Acting_0 [6, 1] l_paddockref3_Acting_0)))
 (.seq (.region (some [6]) [⟨(some 32), .mv (.t 6), none⟩,
   ⟨(some 4), .mv (.t 32), none⟩] [])
 (.ret)))))
def a_paddockref3_Acting : AFn := .code 2 c_paddockref3_Acting [.dat (.tmp 4)]
set_option maxRecDepth 100000 in
theorem k_paddockref3_Acting : compF Try.prog h_paddockref3_Acting F_paddockref3_Acting = some a_paddockref3_Acting := by kernel_rfl

/-- paddock/paddocklaw4.ints -/
def h_paddocklaw4_ints : Hints := { kp := [(0, [0, 1]), (1, [0, 1]), (2, []), (3, [0, 1]), (4, [0, 1, 5]), (6, [0, 1, 5]), (7, []), (5, [0, 1, 5]), (8, [])], lkp := [(4, [0, 1, 5])], lth := [] }
def K_paddocklaw4_ints_0 : Option (List Nat) := (some [0, 1, 5])
def l_paddocklaw4_ints_0 : ACode :=
 .seq (.seq (.region (some [0, 1, 5]) [⟨(some 11), .mv (.t 5), none⟩,
   ⟨(some 12), .mv (.t 0), none⟩,
   ⟨(some 13), .len false (.t 12), none⟩,
   ⟨(some 14), .bin .lss (.t 11) (.t 13), none⟩] [])
 (.cond (.t 14) (.skip) (.exit 0)))
 (.seq (.block 1 (.seq (.region (some [0, 1, 5]) [⟨(some 17), .mv (.t 0), none⟩,
    ⟨(some 18), .mv (.t 5), none⟩,
    ⟨(some 19), .iaddrS 1 (.t 17) (.t 18), none⟩,
    ⟨(some 20), .load false 1 (.t 19), none⟩,
    ⟨(some 21), .mv (.t 1), none⟩,
    ⟨(some 22), .mv (.t 5), none⟩,
    ⟨(some 23), .iaddrS 1 (.t 21) (.t 22), none⟩,
    ⟨(some 24), .load false 1 (.t 23), none⟩,
    ⟨(some 25), .bin .neq (.t 20) (.t 24), none⟩] [(3, 7)])
  (.cond (.t 25) (.seq (.region (some []) [⟨(some 4), .mv (.c (.d (.b false))), none⟩] [])
   (.ret)) (.skip))))
 (.region (some [0, 1, 5]) [⟨(some 15), .mv (.t 5), none⟩,
   ⟨(some 16), .bin .add (.t 15) (.c (.d (.i .i64 1))), none⟩,
   ⟨(some 5), .mv (.t 16), none⟩] []))
def c_paddocklaw4_ints : ACode :=
 .seq (.region (some [0, 1]) [⟨(some 4), .mv (.c (.d (.b false))), none⟩] [])
 (.seq (.seq (.region (some [0, 1]) [⟨(some 6), .mv (.t 0), none⟩,
   ⟨(some 7), .len false (.t 6), none⟩,
   ⟨(some 8), .mv (.t 1), none⟩,
   ⟨(some 9), .len false (.t 8), none⟩,
   ⟨(some 10), .bin .neq (.t 7) (.t 9), none⟩] [])
 (.cond (.t 10) (.seq (.region (some []) [⟨(some 4), .mv (.c (.d (.b false))), none⟩] [])
  (.ret)) (.skip)))
 (.seq (.seq (.region (some [0, 1]) [⟨(some 5), .mv (.c (.d (.i .i64 0))), none⟩] [])
 (.block 0 (.loop K_paddocklaw4_ints_0 [] l_paddocklaw4_ints_0)))
 (.seq (.region (some []) [⟨(some 4), .mv (.c (.d (.b true))), none⟩] [])
 (.ret))))
def a_paddocklaw4_ints : AFn := .code 2 c_paddocklaw4_ints [.tmp 4]
set_option maxRecDepth 100000 in
theorem k_paddocklaw4_ints : compF Try.prog h_paddocklaw4_ints F_paddocklaw4_ints = some a_paddocklaw4_ints := by kernel_rfl

/-- paddock/paddockref3.Pick -/
def h_paddockref3_Pick : Hints := { dat := true, kp := [(0, [0, 1]), (1, [1, 2]), (2, []), (3, [1, 2]), (4, [1, 2, 5]), (5, [1, 2, 5, 6]), (7, [1, 2, 5, 6]), (8, [1, 2, 5, 6, 7]), (10, [1, 2, 5, 6, 7]), (11, [1, 2, 5, 6, 7, 8, 9]), (12, [1, 2, 5, 6, 7, 8, 9, 10]), (14, [1, 2, 5, 6, 7, 8, 9, 10]), (15, [1, 2, 5, 6, 7, 8, 9, 10]), (16, [1, 2, 5, 6, 7, 8, 9, 10, 11]), (17, [1, 2, 5, 6, 7, 10, 11]), (13, [1, 2, 5, 6, 7, 8, 9, 10]), (18, [1, 2, 5, 6, 7, 8]), (19, [1, 2, 5, 6, 7, 8, 12]), (20, [1, 2, 5, 6, 7, 8, 12, 13]), (22, [1, 2, 5, 6, 7, 8, 13]), (21, [1, 2, 5, 6, 7, 8, 12, 13]), (23, [1, 2, 5, 6, 7, 8, 12]), (24, [1, 2, 5, 6, 8]), (9, [1, 2, 5, 6, 7]), (6, [1, 2, 5, 6]), (25, [5])], lkp := [(5, [1, 2, 5, 6]), (8, [1, 2, 5, 6, 7]), (12, [1, 2, 5, 6, 7, 8, 9, 10]), (20, [1, 2, 5, 6, 7, 8, 12, 13])], lth := [(5, [5, 1]), (8, [5, 1])] }
def K_paddockref3_Pick_0 : Option (List Nat) := (some [1, 2, 5, 6, 7, 8, 9, 10])
def l_paddockref3_Pick_0 : ACode :=
 .seq (.seq (.region (some [1, 2, 5, 6, 7, 8, 9, 10]) [⟨(some 29), .mv (.t 10), none⟩,
   ⟨(some 30), .bin .lss (.t 29) (.c (.d (.i .i64 5))), none⟩] [])
 (.cond (.t 30) (.skip) (.exit 4)))
 (.seq (.block 5 (.seq (.seq (.region (some [1, 2, 5, 6, 7, 8, 9, 10]) [⟨(some 33), .mv (.t 10), none⟩,
    ⟨(some 34), .faddr 1 (.t 2), none⟩,
    ⟨(some 35), .iaddrA 5 3 (.t 34) (.t 33), none⟩,
    ⟨(some 36), .faddr 1 (.t 35), none⟩,
    ⟨(some 37), .load false 1 (.t 36), none⟩,
    ⟨(some 38), .bin .lss (.t 37) (.c (.d (.i .i64 1))), none⟩] [])
  (.cond (.t 38) (.exit 5) (.skip)))
  (.seq (.region (some [1, 2, 5, 6, 7, 8, 9, 10]) [⟨(some 39), .mv (.t 1), none⟩,
    ⟨(some 40), .mv (.t 10), none⟩,
    ⟨(some 41), .mv (.t 6), none⟩,
    ⟨(some 42), .mv (.t 7), none⟩,
    ⟨(some 43), .bin .mul (.t 42) (.c (.d (.i .i64 3))), none⟩,
    ⟨(some 44), .bin .add (.t 41) (.t 43), none⟩,
    ⟨(some 45), .mv (.t 10), none⟩,
    ⟨(some 46), .faddr 1 (.t 2), none⟩,
    ⟨(some 47), .iaddrA 5 3 (.t 46) (.t 45), none⟩,
    ⟨(some 48), .faddr 1 (.t 47), none⟩,
    ⟨(some 49), .load false 1 (.t 48), none⟩,
    ⟨(some 50), .call (.f F_paddockref2_Draw) [.t 39, .t 40, .t 44, .t 49], none⟩,
    ⟨(some 11), .mv (.t 50), none⟩] [])
  (.seq (.region (some [1, 2, 5, 6, 7, 8, 9, 10, 11]) [⟨(some 51), .mv (.t 8), none⟩,
    ⟨(some 52), .bin .lss (.t 51) (.c (.d (.i .i64 0))), none⟩,
    ⟨(some 53), .mv (.t 52), none⟩,
    ⟨(some 54), .mv (.t 11), some (53, false)⟩,
    ⟨(some 55), .mv (.t 9), some (53, false)⟩,
    ⟨(some 56), .bin .gtr (.t 54) (.t 55), some (53, false)⟩,
    ⟨(some 57), .pick (.t 53) (.c (.d (.b true))) (.t 56), none⟩] [])
  (.cond (.t 57) (.region (some [1, 2, 5, 6, 7, 10, 11]) [⟨(some 58), .mv (.t 10), none⟩,
     ⟨(some 59), .mv (.t 11), none⟩,
     ⟨(some 8), .mv (.t 58), none⟩,
     ⟨(some 9), .mv (.t 59), none⟩] []) (.skip))))))
 (.region (some [1, 2, 5, 6, 7, 8, 9, 10]) [⟨(some 31), .mv (.t 10), none⟩,
   ⟨(some 32), .bin .add (.t 31) (.c (.d (.i .i64 1))), none⟩,
   ⟨(some 10), .mv (.t 32), none⟩] []))
def K_paddockref3_Pick_1 : Option (List Nat) := (some [1, 2, 5, 6, 7, 8, 12, 13])
def l_paddockref3_Pick_1 : ACode :=
 .seq (.seq (.region (some [1, 2, 5, 6, 7, 8, 12, 13]) [⟨(some 62), .mv (.t 12), none⟩,
   ⟨(some 63), .mv (.t 62), none⟩,
   ⟨(some 64), .mv (.t 13), some (63, true)⟩,
   ⟨(some 65), .mv (.t 5), some (63, true)⟩,
   ⟨(some 66), .len false (.t 65), some (63, true)⟩,
   ⟨(some 67), .bin .lss (.t 64) (.t 66), some (63, true)⟩,
   ⟨(some 68), .pick (.t 63) (.t 67) (.c (.d (.b false))), none⟩] [])
 (.cond (.t 68) (.skip) (.exit 6)))
 (.seq (.block 7 (.region (some [1, 2, 5, 6, 7, 8, 13]) [⟨(some 71), .mv (.t 5), none⟩,
    ⟨(some 72), .mv (.t 13), none⟩,
    ⟨(some 73), .iaddrS 1 (.t 71) (.t 72), none⟩,
    ⟨(some 74), .load false 1 (.t 73), none⟩,
    ⟨(some 75), .mv (.t 8), none⟩,
    ⟨(some 76), .bin .neq (.t 74) (.t 75), none⟩,
    ⟨(some 77), .mv (.t 76), none⟩,
    ⟨(some 78), .mv (.t 5), some (77, true)⟩,
    ⟨(some 79), .mv (.t 13), some (77, true)⟩,
    ⟨(some 80), .iaddrS 1 (.t 78) (.t 79), some (77, true)⟩,
    ⟨(some 81), .load false 1 (.t 80), some (77, true)⟩,
    ⟨(some 82), .faddr 1 (.t 2), some (77, true)⟩,
    ⟨(some 83), .iaddrA 5 3 (.t 82) (.t 81), some (77, true)⟩,
    ⟨(some 84), .faddr 2 (.t 83), some (77, true)⟩,
    ⟨(some 85), .load false 1 (.t 84), some (77, true)⟩,
    ⟨(some 86), .mv (.t 8), some (77, true)⟩,
    ⟨(some 87), .faddr 1 (.t 2), some (77, true)⟩,
    ⟨(some 88), .iaddrA 5 3 (.t 87) (.t 86), some (77, true)⟩,
    ⟨(some 89), .faddr 2 (.t 88), some (77, true)⟩,
    ⟨(some 90), .load false 1 (.t 89), some (77, true)⟩,
    ⟨(some 91), .bin .neq (.t 85) (.t 90), some (77, true)⟩,
    ⟨(some 92), .pick (.t 77) (.t 91) (.c (.d (.b false))), none⟩,
    ⟨(some 12), .mv (.t 92), none⟩] [(10, 19), (14, 19)]))
 (.region (some [1, 2, 5, 6, 7, 8, 12, 13]) [⟨(some 69), .mv (.t 13), none⟩,
   ⟨(some 70), .bin .add (.t 69) (.c (.d (.i .i64 1))), none⟩,
   ⟨(some 13), .mv (.t 70), none⟩] []))
def K_paddockref3_Pick_2 : Option (List Nat) := (some [1, 2, 5, 6, 7])
def l_paddockref3_Pick_2 : ACode :=
 .seq (.seq (.region (some [1, 2, 5, 6, 7]) [⟨(some 25), .mv (.t 7), none⟩,
   ⟨(some 26), .bin .lss (.t 25) (.c (.d (.i .i64 20))), none⟩] [])
 (.cond (.t 26) (.skip) (.exit 2)))
 (.seq (.block 3 (.seq (.region (some [1, 2, 5, 6, 7]) [⟨(some 8), .mv (.c (.d (.i .i64 (-1)))), none⟩,
    ⟨(some 9), .mv (.c (.d (.i .i64 0))), none⟩] [])
  (.seq (.seq (.region (some [1, 2, 5, 6, 7, 8, 9]) [⟨(some 10), .mv (.c (.d (.i .i64 0))), none⟩] [])
  (.block 4 (.loop K_paddockref3_Pick_0 [] l_paddockref3_Pick_0)))
  (.seq (.region (some [1, 2, 5, 6, 7, 8]) [⟨(some 60), .mv (.t 8), none⟩,
    ⟨(some 61), .bin .geq (.t 60) (.c (.d (.i .i64 0))), none⟩,
    ⟨(some 12), .mv (.t 61), none⟩] [])
  (.seq (.seq (.region (some [1, 2, 5, 6, 7, 8, 12]) [⟨(some 13), .mv (.c (.d (.i .i64 0))), none⟩] [])
  (.block 6 (.loop K_paddockref3_Pick_1 [] l_paddockref3_Pick_1)))
  (.seq (.region (some [1, 2, 5, 6, 7, 8, 12]) [⟨(some 93), .mv (.t 12), none⟩] [])
  (.cond (.t 93) (.seq (.region (some [1, 2, 5, 6, 8]) [⟨(some 94), .mv (.t 5), none⟩,
     ⟨(some 95), .mv (.t 8), none⟩,
     ⟨(some 96), .bsl 1 [.t 95], none⟩,
     ⟨(some 97), .app 1 (.t 94) (.t 96), none⟩,
     ⟨(some 5), .mv (.t 97), none⟩] [])
   (.exit 2)) (.skip))))))))
 (.region (some [1, 2, 5, 6, 7]) [⟨(some 27), .mv (.t 7), none⟩,
   ⟨(some 28), .bin .add (.t 27) (.c (.d (.i .i64 1))), none⟩,
   ⟨(some 7), .mv (.t 28), none⟩] []))
def K_paddockref3_Pick_3 : Option (List Nat) := (some [1, 2, 5, 6])
def l_paddockref3_Pick_3 : ACode :=
 .seq (.seq (.region (some [1, 2, 5, 6]) [⟨(some 21), .mv (.t 6), none⟩,
   ⟨(some 22), .bin .lss (.t 21) (.c (.d (.i .i64 3))), none⟩] [])
 (.cond (.t 22) (.skip) (.exit 0)))
 (.seq (.block 1 (.seq (.region (some [1, 2, 5, 6]) [⟨(some 7), .mv (.c (.d (.i .i64 0))), none⟩] [])
  (.block 2 (.loop K_paddockref3_Pick_2 [5, 1] l_paddockref3_Pick_2))))
 (.region (some [1, 2, 5, 6]) [⟨(some 23), .mv (.t 6), none⟩,
   ⟨(some 24), .bin .add (.t 23) (.c (.d (.i .i64 1))), none⟩,
   ⟨(some 6), .mv (.t 24), none⟩] []))
def c_paddockref3_Pick : ACode :=
 .seq (.region (some [0, 1]) [⟨(some 2), .box (.t 0), none⟩,
   ⟨(some 4), .mv (.c (.nilS)), none⟩] [])
 (.seq (.seq (.region (some [1, 2]) [⟨(some 14), .load true 16 (.t 2), none⟩,
   ⟨(some 15), .call (.f F_paddockref3_Is) [.t 14], none⟩,
   ⟨(some 16), .un .not (.t 15), none⟩,
   ⟨(some 17), .mv (.t 16), none⟩,
   ⟨(some 18), .mv (.t 1), some (17, false)⟩,
   ⟨(some 19), .bin .geq (.t 18) (.c (.d (.i .u8 4))), some (17, false)⟩,
   ⟨(some 20), .pick (.t 17) (.c (.d (.b true))) (.t 19), none⟩] [])
 (.cond (.t 20) (.seq (.region (some []) [⟨(some 4), .mv (.c (.nilS)), none⟩] [])
  (.ret)) (.skip)))
 (.seq (.region (some [1, 2]) [⟨(some 5), .mv (.c (.nilS)), none⟩] [])
 (.seq (.seq (.region (some [1, 2, 5]) [⟨(some 6), .mv (.c (.d (.i .i64 0))), none⟩] [])
 (.block 0 (.loop K_paddockref3_Pick_3 [5, 1] l_paddockref3_Pick_3)))
 (.seq (.region (some [5]) [⟨(some 98), .mv (.t 5), none⟩,
   ⟨(some 4), .mv (.t 98), none⟩] [])
 (.ret)))))
def a_paddockref3_Pick : AFn := .code 2 c_paddockref3_Pick [.dat (.tmp 4)]
set_option maxRecDepth 100000 in
theorem k_paddockref3_Pick : compF Try.prog h_paddockref3_Pick F_paddockref3_Pick = some a_paddockref3_Pick := by kernel_rfl

/-- paddock/maps.First -/
def h_maps_First : Hints := { kp := [(0, []), (1, [0]), (2, [0, 1]), (3, [0, 1, 4]), (4, [0, 1, 4]), (5, [0, 1, 2, 4]), (6, [0, 1, 4]), (7, [0, 1])], lkp := [(3, [0, 1, 4])], lth := [] }
def K_maps_First_0 : Option (List Nat) := (some [0, 1, 4])
def l_maps_First_0 : ACode :=
 .seq (.region (some [0, 1, 4]) [⟨(some 5), .bin .lss (.t 4) (.c (.d (.i .i64 5))), none⟩] [])
 (.seq (.cond (.t 5) (.skip) (.exit 0))
 (.seq (.block 1 (.seq (.region (some [0, 1, 4]) [⟨(some 6), .mv (.t 4), none⟩,
    ⟨(some 2), .mv (.t 6), none⟩] [])
  (.region (some [0, 1, 2, 4]) [⟨(some 7), .mv (.t 2), none⟩,
    ⟨(some 8), .mv (.t 2), none⟩,
    ⟨(some 9), .bin .rem (.t 8) (.c (.d (.i .i64 4))), none⟩,
    ⟨(some 10), .conv .u8 (.t 9), none⟩,
    ⟨(some 11), .build [.d (.b false), .d (.i .i64 0), .d (.i .u8 0)] [(0, 1, .c (.d (.b true))), (1, 1, .c (.d (.i .i64 8))), (2, 1, .t 10)], none⟩,
    ⟨(some 12), .faddr 1 (.t 1), none⟩,
    ⟨(some 13), .iaddrA 5 3 (.t 12) (.t 7), none⟩,
    ⟨none, .store 3 (.t 13) (.t 11), none⟩] [])))
 (.region (some [0, 1, 4]) [⟨(some 14), .bin .add (.t 4) (.c (.d (.i .i64 1))), none⟩,
   ⟨(some 4), .mv (.t 14), none⟩] [])))
def c_maps_First : ACode :=
 .seq (.region (some []) [⟨(some 0), .box (.c (.d (.agg Pk.Mp.zero.cs))), none⟩] [])
 (.seq (.region (some [0]) [⟨(some 3), .build (List.map .d Pk.Mp.zero.cs) [(0, 1, .c (.d (.i .u32 1)))], none⟩,
   ⟨(some 1), .box (.c (.d (.agg Pk.Mp.zero.cs))), none⟩,
   ⟨none, .store 16 (.t 1) (.t 3), none⟩] [])
 (.seq (.seq (.region (some [0, 1]) [⟨(some 4), .mv (.c (.d (.i .i64 0))), none⟩] [])
 (.block 0 (.loop K_maps_First_0 [] l_maps_First_0)))
 (.seq (.region (some [0, 1]) [⟨(some 15), .load true 16 (.t 1), none⟩,
   ⟨none, .store 16 (.t 0) (.t 15), none⟩] [])
 (.ret))))
def a_maps_First : AFn := .code 0 c_maps_First [.cell true 16 0]
set_option maxRecDepth 100000 in
theorem k_maps_First : compF Try.prog h_maps_First F_maps_First = some a_maps_First := by kernel_rfl

/-- paddock/maps.In -/
def h_maps_In : Hints := { kp := [(0, [0]), (1, [1])], lkp := [], lth := [] }
def c_maps_In : ACode :=
 .seq (.region (some [0]) [⟨(some 1), .box (.t 0), none⟩,
   ⟨(some 2), .mv (.c (.nilS)), none⟩] [])
 (.seq (.region (some [1]) [⟨(some 3), .load true 16 (.t 1), none⟩,
   ⟨(some 4), .call (.f F_maps_those) [.t 3, .f F_maps_In_1], none⟩,
   ⟨(some 2), .mv (.t 4), none⟩] [])
 (.ret))
def a_maps_In : AFn := .code 1 c_maps_In [.tmp 2]
set_option maxRecDepth 100000 in
theorem k_maps_In : compF Try.prog h_maps_In F_maps_In = some a_maps_In := by kernel_rfl

/-- (*paddock/place.choice).pick -/
def h_place_choice_pick : Hints := { kp := [(0, [0, 1]), (1, [0, 1, 4]), (2, [0, 1, 4, 7]), (3, [0, 1, 4, 7]), (4, [0, 1, 4, 5, 7]), (5, [0, 1, 4, 6, 7]), (6, [0, 6]), (7, [0, 1, 4, 7])], lkp := [(2, [0, 1, 4, 7])], lth := [] }
def K_place_choice_pick_0 : Option (List Nat) := (some [0, 1, 4, 7])
def l_place_choice_pick_0 : ACode :=
 .seq (.region (some [0, 1, 4, 7]) [⟨(some 8), .bin .lss (.t 7) (.c (.d (.i .i64 20))), none⟩] [])
 (.seq (.cond (.t 8) (.skip) (.exit 0))
 (.seq (.block 1 (.seq (.region (some [0, 1, 4, 7]) [⟨(some 9), .mv (.t 7), none⟩,
    ⟨(some 5), .mv (.t 9), none⟩] [])
  (.seq (.region (some [0, 1, 4, 5, 7]) [⟨(some 10), .mv (.t 4), none⟩,
    ⟨(some 11), .mv (.t 0), none⟩,
    ⟨(some 12), .mv (.t 1), none⟩,
    ⟨(some 13), .mv (.t 5), none⟩,
    ⟨(some 14), .bin .mul (.t 13) (.c (.d (.i .i64 3))), none⟩,
    ⟨(some 15), .bin .add (.t 12) (.t 14), none⟩,
    ⟨(some 16), .call (.t 10) [.t 11, .t 15], none⟩,
    ⟨(some 6), .mv (.t 16), none⟩] [])
  (.seq (.region (some [0, 1, 4, 6, 7]) [⟨(some 17), .mv (.t 0), none⟩,
    ⟨(some 18), .mv (.t 6), none⟩,
    ⟨(some 19), .call (.f F_place_choice_fits) [.t 17, .t 18], none⟩] [])
  (.cond (.t 19) (.seq (.region (some [0, 6]) [⟨(some 20), .mv (.t 0), none⟩,
     ⟨(some 21), .mv (.t 0), none⟩,
     ⟨(some 22), .nilck (.t 21), none⟩,
     ⟨(some 23), .faddr 18 (.t 22), none⟩,
     ⟨(some 24), .load false 1 (.t 23), none⟩,
     ⟨(some 25), .mv (.t 6), none⟩,
     ⟨(some 26), .bsl 1 [.t 25], none⟩,
     ⟨(some 27), .app 1 (.t 24) (.t 26), none⟩,
     ⟨(some 28), .nilck (.t 20), none⟩,
     ⟨(some 29), .faddr 18 (.t 28), none⟩,
     ⟨none, .store 1 (.t 29) (.t 27), none⟩] [])
   (.ret)) (.skip))))))
 (.region (some [0, 1, 4, 7]) [⟨(some 30), .bin .add (.t 7) (.c (.d (.i .i64 1))), none⟩,
   ⟨(some 7), .mv (.t 30), none⟩] [])))
def c_place_choice_pick : ACode :=
 .seq (.region (some [0, 1]) [⟨(some 4), .mv (.f F_place_choice_draw), none⟩] [])
 (.seq (.region (some [0, 1, 4]) [⟨(some 7), .mv (.c (.d (.i .i64 0))), none⟩] [])
 (.block 0 (.loop K_place_choice_pick_0 [] l_place_choice_pick_0)))
def a_place_choice_pick : AFn := .code 2 c_place_choice_pick []
set_option maxRecDepth 100000 in
theorem k_place_choice_pick : compF Try.prog h_place_choice_pick F_place_choice_pick = some a_place_choice_pick := by kernel_rfl

/-- slices.DeleteFunc[[]int,int] -/
def h_slices_DeleteFunc_sint_int : Hints := { kp := [(0, [0, 1]), (1, [0, 1]), (2, [0, 1, 5]), (3, [0]), (4, [0, 1, 5]), (5, [0, 1, 5, 6]), (7, [0, 1, 5, 6]), (8, [0, 1, 5, 6, 7]), (9, [0, 1, 5, 6, 7]), (10, [0, 1, 5, 6]), (6, [0, 1, 5, 6]), (11, [0, 5]), (12, [0, 5])], lkp := [(5, [0, 1, 5, 6])], lth := [] }
def K_slices_DeleteFunc_sint_int_0 : Option (List Nat) := (some [0, 1, 5, 6])
def l_slices_DeleteFunc_sint_int_0 : ACode :=
 .seq (.seq (.region (some [0, 1, 5, 6]) [⟨(some 16), .mv (.t 6), none⟩,
   ⟨(some 17), .mv (.t 0), none⟩,
   ⟨(some 18), .len false (.t 17), none⟩,
   ⟨(some 19), .bin .lss (.t 16) (.t 18), none⟩] [])
 (.cond (.t 19) (.skip) (.exit 0)))
 (.seq (.block 1 (.seq (.region (some [0, 1, 5, 6]) [⟨(some 22), .mv (.t 0), none⟩,
    ⟨(some 23), .mv (.t 6), none⟩,
    ⟨(some 24), .iaddrS 1 (.t 22) (.t 23), none⟩,
    ⟨(some 25), .load false 1 (.t 24), none⟩,
    ⟨(some 7), .mv (.t 25), none⟩] [])
  (.seq (.region (some [0, 1, 5, 6, 7]) [⟨(some 26), .mv (.t 1), none⟩,
    ⟨(some 27), .mv (.t 7), none⟩,
    ⟨(some 28), .call (.t 26) [.t 27], none⟩,
    ⟨(some 29), .un .not (.t 28), none⟩] [])
  (.cond (.t 29) (.seq (.region (some [0, 1, 5, 6, 7]) [⟨(some 30), .mv (.t 0), none⟩,
     ⟨(some 31), .mv (.t 5), none⟩,
     ⟨(some 32), .mv (.t 7), none⟩,
     ⟨(some 33), .iaddrS 1 (.t 30) (.t 31), none⟩,
     ⟨none, .store 1 (.t 33) (.t 32), none⟩] [])
   (.region (some [0, 1, 5, 6]) [⟨(some 34), .mv (.t 5), none⟩,
     ⟨(some 35), .bin .add (.t 34) (.c (.d (.i .i64 1))), none⟩,
     ⟨(some 5), .mv (.t 35), none⟩] [])) (.skip)))))
 (.region (some [0, 1, 5, 6]) [⟨(some 20), .mv (.t 6), none⟩,
   ⟨(some 21), .bin .add (.t 20) (.c (.d (.i .i64 1))), none⟩,
   ⟨(some 6), .mv (.t 21), none⟩] []))
def c_slices_DeleteFunc_sint_int : ACode :=
 .seq (.region (some [0, 1]) [⟨(some 4), .mv (.c (.nilS)), none⟩] [])
 (.seq (.region (some [0, 1]) [⟨(some 8), .mv (.t 0), none⟩,
   ⟨(some 9), .mv (.t 1), none⟩,
   ⟨(some 10), .call (.f F_slices_IndexFunc_sint_int) [.t 8, .t 9], none⟩,
   ⟨(some 5), .mv (.t 10), none⟩] [])
 (.seq (.seq (.region (some [0, 1, 5]) [⟨(some 11), .mv (.t 5), none⟩,
   ⟨(some 12), .bin .eql (.t 11) (.c (.d (.i .i64 (-1)))), none⟩] [])
 (.cond (.t 12) (.seq (.region (some [0]) [⟨(some 13), .mv (.t 0), none⟩,
    ⟨(some 4), .mv (.t 13), none⟩] [])
  (.ret)) (.skip)))
 (.seq (.seq (.region (some [0, 1, 5]) [⟨(some 14), .mv (.t 5), none⟩,
   ⟨(some 15), .bin .add (.t 14) (.c (.d (.i .i64 1))), none⟩,
   ⟨(some 6), .mv (.t 15), none⟩] [])
 (.block 0 (.loop K_slices_DeleteFunc_sint_int_0 [] l_slices_DeleteFunc_sint_int_0)))
 (.seq (.region (some [0, 5]) [⟨(some 36), .mv (.t 0), none⟩,
   ⟨(some 37), .mv (.t 5), none⟩,
   ⟨(some 38), .slice 1 (.t 36) (some (.t 37)) none none, none⟩,
   ⟨none, .clr (.i .i64 0) (.t 38), none⟩] [])
 (.seq (.region (some [0, 5]) [⟨(some 39), .mv (.t 0), none⟩,
   ⟨(some 40), .mv (.t 5), none⟩,
   ⟨(some 41), .slice 1 (.t 39) none (some (.t 40)) none, none⟩,
   ⟨(some 4), .mv (.t 41), none⟩] [])
 (.ret))))))
def a_slices_DeleteFunc_sint_int : AFn := .code 2 c_slices_DeleteFunc_sint_int [.tmp 4]
set_option maxRecDepth 100000 in
theorem k_slices_DeleteFunc_sint_int : compF Try.prog h_slices_DeleteFunc_sint_int F_slices_DeleteFunc_sint_int = some a_slices_DeleteFunc_sint_int := by kernel_rfl

/-- paddock/place.Acting$1 -/
def h_place_Acting_1 : Hints := { kp := [(0, [0, 1]), (1, [0, 1])], lkp := [], lth := [] }
def c_place_Acting_1 : ACode :=
 .seq (.region (some [0, 1]) [⟨(some 3), .mv (.c (.d (.b false))), none⟩] [])
 (.seq (.region (some [0, 1]) [⟨(some 4), .mv (.t 0), none⟩,
   ⟨(some 5), .faddr 1 (.t 1), none⟩,
   ⟨(some 6), .iaddrA 5 3 (.t 5) (.t 4), none⟩,
   ⟨(some 7), .faddr 0 (.t 6), none⟩,
   ⟨(some 8), .load false 1 (.t 7), none⟩,
   ⟨(some 9), .un .not (.t 8), none⟩,
   ⟨(some 3), .mv (.t 9), none⟩] [])
 (.ret))
def a_place_Acting_1 : AFn := .code 2 c_place_Acting_1 [.tmp 3]
set_option maxRecDepth 100000 in
theorem k_place_Acting_1 : compF Try.prog h_place_Acting_1 F_place_Acting_1 = some a_place_Acting_1 := by kernel_rfl

/-- slices.Equal[[]int,int] -/
def h_slices_Equal_sint_int : Hints := { kp := [(0, [0, 1]), (1, [0, 1]), (2, []), (3, [0, 1]), (4, [0, 1, 12, 13]), (5, [0, 1, 12, 13]), (6, [0, 1, 5, 12, 13]), (7, []), (8, [0, 1, 12, 13]), (9, [])], lkp := [(4, [0, 1, 12, 13])], lth := [] }
def K_slices_Equal_sint_int_0 : Option (List Nat) := (some [0, 1, 12, 13])
def l_slices_Equal_sint_int_0 : ACode :=
 .seq (.region (some [0, 1, 12, 13]) [⟨(some 14), .bin .lss (.t 13) (.t 12), none⟩] [])
 (.seq (.cond (.t 14) (.skip) (.exit 0))
 (.seq (.block 1 (.seq (.region (some [0, 1, 12, 13]) [⟨(some 15), .mv (.t 13), none⟩,
    ⟨(some 5), .mv (.t 15), none⟩] [])
  (.seq (.region (some [0, 1, 5, 12, 13]) [⟨(some 16), .mv (.t 0), none⟩,
    ⟨(some 17), .mv (.t 5), none⟩,
    ⟨(some 18), .iaddrS 1 (.t 16) (.t 17), none⟩,
    ⟨(some 19), .load false 1 (.t 18), none⟩,
    ⟨(some 20), .mv (.t 1), none⟩,
    ⟨(some 21), .mv (.t 5), none⟩,
    ⟨(some 22), .iaddrS 1 (.t 20) (.t 21), none⟩,
    ⟨(some 23), .load false 1 (.t 22), none⟩,
    ⟨(some 24), .bin .neq (.t 19) (.t 23), none⟩] [(3, 7)])
  (.cond (.t 24) (.seq (.region (some []) [⟨(some 4), .mv (.c (.d (.b false))), none⟩] [])
   (.ret)) (.skip)))))
 (.region (some [0, 1, 12, 13]) [⟨(some 25), .bin .add (.t 13) (.c (.d (.i .i64 1))), none⟩,
   ⟨(some 13), .mv (.t 25), none⟩] [])))
def c_slices_Equal_sint_int : ACode :=
 .seq (.region (some [0, 1]) [⟨(some 4), .mv (.c (.d (.b false))), none⟩] [])
 (.seq (.seq (.region (some [0, 1]) [⟨(some 6), .mv (.t 0), none⟩,
   ⟨(some 7), .len false (.t 6), none⟩,
   ⟨(some 8), .mv (.t 1), none⟩,
   ⟨(some 9), .len false (.t 8), none⟩,
   ⟨(some 10), .bin .neq (.t 7) (.t 9), none⟩] [])
 (.cond (.t 10) (.seq (.region (some []) [⟨(some 4), .mv (.c (.d (.b false))), none⟩] [])
  (.ret)) (.skip)))
 (.seq (.seq (.region (some [0, 1]) [⟨(some 11), .mv (.t 0), none⟩,
   ⟨(some 12), .len false (.t 11), none⟩,
   ⟨(some 13), .mv (.c (.d (.i .i64 0))), none⟩] [])
 (.block 0 (.loop K_slices_Equal_sint_int_0 [] l_slices_Equal_sint_int_0)))
 (.seq (.region (some []) [⟨(some 4), .mv (.c (.d (.b true))), none⟩] [])
 (.ret))))
def a_slices_Equal_sint_int : AFn := .code 2 c_slices_Equal_sint_int [.tmp 4]
set_option maxRecDepth 100000 in
theorem k_slices_Equal_sint_int : compF Try.prog h_slices_Equal_sint_int F_slices_Equal_sint_int = some a_slices_Equal_sint_int := by kernel_rfl

/-- paddock/paddockref3.Is -/
def h_paddockref3_Is : Hints := { kp := [(0, [0]), (1, [1]), (2, [1, 3]), (4, [1, 3]), (5, [1, 3, 4]), (6, []), (3, [1, 3]), (7, [1])], lkp := [(2, [1, 3])], lth := [] }
def K_paddockref3_Is_0 : Option (List Nat) := (some [1, 3])
def l_paddockref3_Is_0 : ACode :=
 .seq (.seq (.region (some [1, 3]) [⟨(some 5), .mv (.t 3), none⟩,
   ⟨(some 6), .bin .lss (.t 5) (.c (.d (.i .i64 5))), none⟩] [])
 (.cond (.t 6) (.skip) (.exit 0)))
 (.seq (.block 1 (.seq (.region (some [1, 3]) [⟨(some 9), .mv (.t 3), none⟩,
    ⟨(some 10), .faddr 1 (.t 1), none⟩,
    ⟨(some 11), .iaddrA 5 3 (.t 10) (.t 9), none⟩,
    ⟨(some 12), .load true 3 (.t 11), none⟩,
    ⟨(some 4), .box (.c (.d (.agg [.b false, .i .i64 0, .i .u8 0]))), none⟩,
    ⟨none, .store 3 (.t 4) (.t 12), none⟩] [])
  (.seq (.region (some [1, 3, 4]) [⟨(some 13), .faddr 1 (.t 4), none⟩,
    ⟨(some 14), .load false 1 (.t 13), none⟩,
    ⟨(some 15), .bin .lss (.t 14) (.c (.d (.i .i64 0))), none⟩,
    ⟨(some 16), .mv (.t 15), none⟩,
    ⟨(some 17), .faddr 1 (.t 4), some (16, false)⟩,
    ⟨(some 18), .load false 1 (.t 17), some (16, false)⟩,
    ⟨(some 19), .bin .gtr (.t 18) (.c (.d (.i .i64 16))), some (16, false)⟩,
    ⟨(some 20), .pick (.t 16) (.c (.d (.b true))) (.t 19), none⟩,
    ⟨(some 21), .mv (.t 20), none⟩,
    ⟨(some 22), .faddr 2 (.t 4), some (21, false)⟩,
    ⟨(some 23), .load false 1 (.t 22), some (21, false)⟩,
    ⟨(some 24), .bin .geq (.t 23) (.c (.d (.i .u8 8))), some (21, false)⟩,
    ⟨(some 25), .pick (.t 21) (.c (.d (.b true))) (.t 24), none⟩] [])
  (.cond (.t 25) (.seq (.region (some []) [⟨(some 2), .mv (.c (.d (.b false))), none⟩] [])
   (.ret)) (.skip)))))
 (.region (some [1, 3]) [⟨(some 7), .mv (.t 3), none⟩,
   ⟨(some 8), .bin .add (.t 7) (.c (.d (.i .i64 1))), none⟩,
   ⟨(some 3), .mv (.t 8), none⟩] []))
def c_paddockref3_Is : ACode :=
 .seq (.region (some [0]) [⟨(some 1), .box (.t 0), none⟩,
   ⟨(some 2), .mv (.c (.d (.b false))), none⟩] [])
 (.seq (.seq (.region (some [1]) [⟨(some 3), .mv (.c (.d (.i .i64 0))), none⟩] [])
 (.block 0 (.loop K_paddockref3_Is_0 [] l_paddockref3_Is_0)))
 (.seq (.region (some [1]) [⟨(some 26), .faddr 0 (.t 1), none⟩,
   ⟨(some 27), .load false 1 (.t 26), none⟩,
   ⟨(some 28), .bin .geq (.t 27) (.c (.d (.i .u32 1))), none⟩,
   ⟨(some 29), .mv (.t 28), none⟩,
   ⟨(some 30), .faddr 0 (.t 1), some (29, true)⟩,
   ⟨(some 31), .load false 1 (.t 30), some (29, true)⟩,
   ⟨(some 32), .bin .leq (.t 31) (.c (.d (.i .u32 60))), some (29, true)⟩,
   ⟨(some 33), .pick (.t 29) (.t 32) (.c (.d (.b false))), none⟩,
   ⟨(some 2), .mv (.t 33), none⟩] [])
 (.ret)))
def a_paddockref3_Is : AFn := .code 1 c_paddockref3_Is [.tmp 2]
set_option maxRecDepth 100000 in
theorem k_paddockref3_Is : compF Try.prog h_paddockref3_Is F_paddockref3_Is = some a_paddockref3_Is := by kernel_rfl

/-- paddock/paddockref2.Draw -/
def h_paddockref2_Draw : Hints := { kp := [(0, [0, 1, 2, 3]), (1, [0, 1, 2, 3])], lkp := [], lth := [] }
def c_paddockref2_Draw : ACode :=
 .seq (.region (some [0, 1, 2, 3]) [⟨(some 8), .mv (.c (.d (.i .i64 0))), none⟩] [])
 (.seq (.region (some [0, 1, 2, 3]) [⟨(some 9), .mv (.t 0), none⟩,
   ⟨(some 10), .conv .u32 (.t 9), none⟩,
   ⟨(some 11), .mv (.t 1), none⟩,
   ⟨(some 12), .conv .u32 (.t 11), none⟩,
   ⟨(some 13), .mv (.t 2), none⟩,
   ⟨(some 14), .conv .u32 (.t 13), none⟩,
   ⟨(some 15), .call (.f F_paddockref1_Hash) [.t 10, .t 12, .t 14], none⟩,
   ⟨(some 16), .mv (.t 3), none⟩,
   ⟨(some 17), .call (.f F_paddockref2_Straw) [.t 15, .t 16], none⟩,
   ⟨(some 8), .mv (.t 17), none⟩] [])
 (.ret))
def a_paddockref2_Draw : AFn := .code 4 c_paddockref2_Draw [.tmp 8]
set_option maxRecDepth 100000 in
theorem k_paddockref2_Draw : compF Try.prog h_paddockref2_Draw F_paddockref2_Draw = some a_paddockref2_Draw := by kernel_rfl

/-- paddock/maps.those -/
def h_maps_those : Hints := { kp := [(0, [0, 1]), (1, [1, 2]), (2, [1, 2, 5]), (3, [1, 5, 9, 10]), (4, [1, 5, 9, 10]), (5, [1, 5, 6, 7, 9, 10]), (6, [1, 5, 6, 9, 10]), (7, [1, 5, 9, 10]), (8, [5])], lkp := [(3, [1, 5, 9, 10])], lth := [(3, [5, 1])] }
def K_maps_those_0 : Option (List Nat) := (some [1, 5, 9, 10])
def l_maps_those_0 : ACode :=
 .seq (.region (some [1, 5, 9, 10]) [⟨(some 11), .bin .lss (.t 10) (.c (.d (.i .i64 5))), none⟩] [])
 (.seq (.cond (.t 11) (.skip) (.exit 0))
 (.seq (.block 1 (.seq (.region (some [1, 5, 9, 10]) [⟨(some 12), .mv (.t 10), none⟩,
    ⟨(some 13), .idxA true 5 3 (.t 9) (.t 10), none⟩,
    ⟨(some 7), .box (.c (.d (.agg [.b false, .i .i64 0, .i .u8 0]))), none⟩,
    ⟨(some 6), .mv (.t 12), none⟩,
    ⟨none, .store 3 (.t 7) (.t 13), none⟩] [])
  (.seq (.region (some [1, 5, 6, 7, 9, 10]) [⟨(some 14), .mv (.t 1), none⟩,
    ⟨(some 15), .load true 3 (.t 7), none⟩,
    ⟨(some 16), .call (.t 14) [.t 15], none⟩] [])
  (.cond (.t 16) (.region (some [1, 5, 6, 9, 10]) [⟨(some 17), .mv (.t 5), none⟩,
     ⟨(some 18), .mv (.t 6), none⟩,
     ⟨(some 19), .bsl 1 [.t 18], none⟩,
     ⟨(some 20), .app 1 (.t 17) (.t 19), none⟩,
     ⟨(some 5), .mv (.t 20), none⟩] []) (.skip)))))
 (.region (some [1, 5, 9, 10]) [⟨(some 21), .bin .add (.t 10) (.c (.d (.i .i64 1))), none⟩,
   ⟨(some 10), .mv (.t 21), none⟩] [])))
def c_maps_those : ACode :=
 .seq (.region (some [0, 1]) [⟨(some 2), .box (.t 0), none⟩,
   ⟨(some 4), .mv (.c (.nilS)), none⟩] [])
 (.seq (.region (some [1, 2]) [⟨(some 5), .mv (.c (.nilS)), none⟩] [])
 (.seq (.seq (.region (some [1, 2, 5]) [⟨(some 8), .faddr 1 (.t 2), none⟩,
   ⟨(some 9), .load true 15 (.t 8), none⟩,
   ⟨(some 10), .mv (.c (.d (.i .i64 0))), none⟩] [])
 (.block 0 (.loop K_maps_those_0 [5, 1] l_maps_those_0)))
 (.seq (.region (some [5]) [⟨(some 22), .mv (.t 5), none⟩,
   ⟨(some 4), .mv (.t 22), none⟩] [])
 (.ret))))
def a_maps_those : AFn := .code 2 c_maps_those [.tmp 4]
set_option maxRecDepth 100000 in
theorem k_maps_those : compF Try.prog h_maps_those F_maps_those = some a_maps_those := by kernel_rfl

/-- paddock/maps.In$1 -/
def h_maps_In_1 : Hints := { kp := [(0, [0]), (1, [1])], lkp := [], lth := [] }
def c_maps_In_1 : ACode :=
 .seq (.region (some [0]) [⟨(some 1), .box (.t 0), none⟩,
   ⟨(some 2), .mv (.c (.d (.b false))), none⟩] [])
 (.seq (.region (some [1]) [⟨(some 3), .faddr 1 (.t 1), none⟩,
   ⟨(some 4), .load false 1 (.t 3), none⟩,
   ⟨(some 5), .bin .gtr (.t 4) (.c (.d (.i .i64 0))), none⟩,
   ⟨(some 2), .mv (.t 5), none⟩] [])
 (.ret))
def a_maps_In_1 : AFn := .code 1 c_maps_In_1 [.tmp 2]
set_option maxRecDepth 100000 in
theorem k_maps_In_1 : compF Try.prog h_maps_In_1 F_maps_In_1 = some a_maps_In_1 := by kernel_rfl

/-- (*paddock/place.choice).draw -/
def h_place_choice_draw : Hints := { kp := [(0, [0, 1]), (1, [0, 1]), (2, [0, 1, 5]), (3, [0, 1, 5, 11, 12, 13]), (4, [0, 1, 5, 11, 12, 13]), (5, [0, 1, 5, 7, 11, 12, 13]), (6, [0, 1, 5, 11, 12, 13]), (7, [0, 5])], lkp := [(3, [0, 1, 5, 11, 12, 13])], lth := [(3, [5, 1])] }
def K_place_choice_draw_0 : Option (List Nat) := (some [0, 1, 5, 11, 12, 13])
def l_place_choice_draw_0 : ACode :=
 .seq (.region (some [0, 1, 5, 11, 12, 13]) [⟨(some 14), .bin .lss (.t 13) (.t 12), none⟩] [])
 (.seq (.cond (.t 14) (.skip) (.exit 0))
 (.seq (.block 1 (.seq (.region (some [0, 1, 5, 11, 12, 13]) [⟨(some 15), .iaddrS 1 (.t 11) (.t 13), none⟩,
    ⟨(some 16), .load false 1 (.t 15), none⟩,
    ⟨(some 7), .mv (.t 16), none⟩] [])
  (.region (some [0, 1, 5, 7, 11, 12, 13]) [⟨(some 17), .mv (.t 5), none⟩,
    ⟨(some 18), .mv (.t 0), none⟩,
    ⟨(some 19), .nilck (.t 18), none⟩,
    ⟨(some 20), .faddr 16 (.t 19), none⟩,
    ⟨(some 21), .load false 1 (.t 20), none⟩,
    ⟨(some 22), .mv (.t 7), none⟩,
    ⟨(some 23), .mv (.t 1), none⟩,
    ⟨(some 24), .mv (.t 0), none⟩,
    ⟨(some 25), .mv (.t 7), none⟩,
    ⟨(some 26), .nilck (.t 24), none⟩,
    ⟨(some 27), .faddr 0 (.t 26), none⟩,
    ⟨(some 28), .faddr 1 (.t 27), none⟩,
    ⟨(some 29), .iaddrA 5 3 (.t 28) (.t 25), none⟩,
    ⟨(some 30), .faddr 1 (.t 29), none⟩,
    ⟨(some 31), .load false 1 (.t 30), none⟩,
    ⟨(some 32), .call (.f F_straw_Draw) [.t 21, .t 22, .t 23, .t 31], none⟩,
    ⟨(some 33), .bsl 1 [.t 32], none⟩,
    ⟨(some 34), .app 1 (.t 17) (.t 33), none⟩,
    ⟨(some 5), .mv (.t 34), none⟩] [(4, 14)])))
 (.region (some [0, 1, 5, 11, 12, 13]) [⟨(some 35), .bin .add (.t 13) (.c (.d (.i .i64 1))), none⟩,
   ⟨(some 13), .mv (.t 35), none⟩] [])))
def c_place_choice_draw : ACode :=
 .seq (.region (some [0, 1]) [⟨(some 4), .mv (.c (.d (.i .i64 0))), none⟩] [])
 (.seq (.region (some [0, 1]) [⟨(some 5), .mv (.c (.nilS)), none⟩] [])
 (.seq (.seq (.region (some [0, 1, 5]) [⟨(some 8), .mv (.t 0), none⟩,
   ⟨(some 9), .nilck (.t 8), none⟩,
   ⟨(some 10), .faddr 17 (.t 9), none⟩,
   ⟨(some 11), .load false 1 (.t 10), none⟩,
   ⟨(some 12), .len false (.t 11), none⟩,
   ⟨(some 13), .mv (.c (.d (.i .i64 0))), none⟩] [])
 (.block 0 (.loop K_place_choice_draw_0 [5, 1] l_place_choice_draw_0)))
 (.seq (.region (some [0, 5]) [⟨(some 36), .mv (.t 0), none⟩,
   ⟨(some 37), .nilck (.t 36), none⟩,
   ⟨(some 38), .faddr 17 (.t 37), none⟩,
   ⟨(some 39), .load false 1 (.t 38), none⟩,
   ⟨(some 40), .mv (.t 5), none⟩,
   ⟨(some 41), .call (.f F_straw_Best) [.t 40], none⟩,
   ⟨(some 42), .iaddrS 1 (.t 39) (.t 41), none⟩,
   ⟨(some 43), .load false 1 (.t 42), none⟩,
   ⟨(some 4), .mv (.t 43), none⟩] [(3, 5)])
 (.ret))))
def a_place_choice_draw : AFn := .code 2 c_place_choice_draw [.tmp 4]
set_option maxRecDepth 100000 in
theorem k_place_choice_draw : compF Try.prog h_place_choice_draw F_place_choice_draw = some a_place_choice_draw := by kernel_rfl

/-- (*paddock/place.choice).fits -/
def h_place_choice_fits : Hints := { kp := [(0, [0, 1]), (1, [2, 3])], lkp := [], lth := [] }
def c_place_choice_fits : ACode :=
 .seq (.region (some [0, 1]) [⟨(some 2), .box (.t 0), none⟩,
   ⟨(some 3), .box (.t 1), none⟩,
   ⟨(some 4), .mv (.c (.d (.b false))), none⟩] [])
 (.seq (.region (some [2, 3]) [⟨(some 5), .load false 1 (.t 2), none⟩,
   ⟨(some 6), .nilck (.t 5), none⟩,
   ⟨(some 7), .faddr 18 (.t 6), none⟩,
   ⟨(some 8), .load false 1 (.t 7), none⟩,
   ⟨(some 9), .mkfn F_place_choice_fits_1 [] [.t 3, .t 2], none⟩,
   ⟨(some 10), .call (.f F_slices_ContainsFunc_sint_int) [.t 8, .t 9], none⟩,
   ⟨(some 11), .un .not (.t 10), none⟩,
   ⟨(some 4), .mv (.t 11), none⟩] [])
 (.ret))
def a_place_choice_fits : AFn := .code 2 c_place_choice_fits [.tmp 4]
set_option maxRecDepth 100000 in
theorem k_place_choice_fits : compF Try.prog h_place_choice_fits F_place_choice_fits = some a_place_choice_fits := by kernel_rfl

/-- slices.IndexFunc[[]int,int] -/
def h_slices_IndexFunc_sint_int : Hints := { kp := [(0, [0, 1]), (1, [0, 1]), (2, [0, 1, 7, 8]), (3, [0, 1, 7, 8]), (4, [0, 1, 5, 7, 8]), (5, [5]), (6, [0, 1, 7, 8]), (7, [])], lkp := [(2, [0, 1, 7, 8])], lth := [] }
def K_slices_IndexFunc_sint_int_0 : Option (List Nat) := (some [0, 1, 7, 8])
def l_slices_IndexFunc_sint_int_0 : ACode :=
 .seq (.region (some [0, 1, 7, 8]) [⟨(some 9), .bin .lss (.t 8) (.t 7), none⟩] [])
 (.seq (.cond (.t 9) (.skip) (.exit 0))
 (.seq (.block 1 (.seq (.region (some [0, 1, 7, 8]) [⟨(some 10), .mv (.t 8), none⟩,
    ⟨(some 5), .mv (.t 10), none⟩] [])
  (.seq (.region (some [0, 1, 5, 7, 8]) [⟨(some 11), .mv (.t 1), none⟩,
    ⟨(some 12), .mv (.t 0), none⟩,
    ⟨(some 13), .mv (.t 5), none⟩,
    ⟨(some 14), .iaddrS 1 (.t 12) (.t 13), none⟩,
    ⟨(some 15), .load false 1 (.t 14), none⟩,
    ⟨(some 16), .call (.t 11) [.t 15], none⟩] [])
  (.cond (.t 16) (.seq (.region (some [5]) [⟨(some 17), .mv (.t 5), none⟩,
     ⟨(some 4), .mv (.t 17), none⟩] [])
   (.ret)) (.skip)))))
 (.region (some [0, 1, 7, 8]) [⟨(some 18), .bin .add (.t 8) (.c (.d (.i .i64 1))), none⟩,
   ⟨(some 8), .mv (.t 18), none⟩] [])))
def c_slices_IndexFunc_sint_int : ACode :=
 .seq (.region (some [0, 1]) [⟨(some 4), .mv (.c (.d (.i .i64 0))), none⟩] [])
 (.seq (.seq (.region (some [0, 1]) [⟨(some 6), .mv (.t 0), none⟩,
   ⟨(some 7), .len false (.t 6), none⟩,
   ⟨(some 8), .mv (.c (.d (.i .i64 0))), none⟩] [])
 (.block 0 (.loop K_slices_IndexFunc_sint_int_0 [] l_slices_IndexFunc_sint_int_0)))
 (.seq (.region (some []) [⟨(some 4), .mv (.c (.d (.i .i64 (-1)))), none⟩] [])
 (.ret)))
def a_slices_IndexFunc_sint_int : AFn := .code 2 c_slices_IndexFunc_sint_int [.tmp 4]
set_option maxRecDepth 100000 in
theorem k_slices_IndexFunc_sint_int : compF Try.prog h_slices_IndexFunc_sint_int F_slices_IndexFunc_sint_int = some a_slices_IndexFunc_sint_int := by kernel_rfl

/-- paddock/paddockref2.Straw -/
def h_paddockref2_Straw : Hints := { kp := [(0, [0, 1]), (1, [0, 1]), (2, [0, 5])], lkp := [], lth := [] }
def c_paddockref2_Straw : ACode :=
 .seq (.region (some [0, 1]) [⟨(some 4), .mv (.c (.d (.i .i64 0))), none⟩] [])
 (.seq (.region (some [0, 1]) [⟨(some 6), .mv (.t 1), none⟩,
   ⟨(some 7), .mm false [.t 6, .c (.d (.i .i64 16))], none⟩,
   ⟨(some 8), .mm true [.c (.d (.i .i64 1)), .t 7], none⟩,
   ⟨(some 5), .mv (.t 8), none⟩] [])
 (.seq (.region (some [0, 5]) [⟨(some 9), .mv (.t 0), none⟩,
   ⟨(some 10), .bin .rem (.t 9) (.c (.d (.i .u32 65536))), none⟩,
   ⟨(some 11), .bin .add (.t 10) (.c (.d (.i .u32 1))), none⟩,
   ⟨(some 12), .call (.f F_paddockref2_Log) [.t 11], none⟩,
   ⟨(some 13), .bin .sub (.c (.d (.i .i64 1048576))) (.t 12), none⟩,
   ⟨(some 14), .bin .mul (.t 13) (.c (.d (.i .i64 4096))), none⟩,
   ⟨(some 15), .mv (.t 5), none⟩,
   ⟨(some 16), .bin .quo (.t 14) (.t 15), none⟩,
   ⟨(some 17), .un .neg (.t 16), none⟩,
   ⟨(some 4), .mv (.t 17), none⟩] [])
 (.ret)))
def a_paddockref2_Straw : AFn := .code 2 c_paddockref2_Straw [.tmp 4]
set_option maxRecDepth 100000 in
theorem k_paddockref2_Straw : compF Try.prog h_paddockref2_Straw F_paddockref2_Straw = some a_paddockref2_Straw := by kernel_rfl

/-- paddock/paddockref1.Hash -/
def h_paddockref1_Hash : Hints := { kp := [(0, [0, 1, 2]), (1, [0, 1, 2])], lkp := [], lth := [] }
def c_paddockref1_Hash : ACode :=
 .seq (.region (some [0, 1, 2]) [⟨(some 6), .mv (.c (.d (.i .u32 0))), none⟩] [])
 (.seq (.region (some [0, 1, 2]) [⟨(some 7), .mv (.t 0), none⟩,
   ⟨(some 8), .conv .u64 (.t 7), none⟩,
   ⟨(some 9), .call (.f F_paddockref1_Mix) [.t 8], none⟩,
   ⟨(some 10), .mv (.t 1), none⟩,
   ⟨(some 11), .conv .u64 (.t 10), none⟩,
   ⟨(some 12), .bin .add (.t 9) (.t 11), none⟩,
   ⟨(some 13), .call (.f F_paddockref1_Mix) [.t 12], none⟩,
   ⟨(some 14), .mv (.t 2), none⟩,
   ⟨(some 15), .conv .u64 (.t 14), none⟩,
   ⟨(some 16), .bin .add (.t 13) (.t 15), none⟩,
   ⟨(some 17), .call (.f F_paddockref1_Mix) [.t 16], none⟩,
   ⟨(some 18), .conv .u32 (.t 17), none⟩,
   ⟨(some 6), .mv (.t 18), none⟩] [])
 (.ret))
def a_paddockref1_Hash : AFn := .code 3 c_paddockref1_Hash [.tmp 6]
set_option maxRecDepth 100000 in
theorem k_paddockref1_Hash : compF Try.prog h_paddockref1_Hash F_paddockref1_Hash = some a_paddockref1_Hash := by kernel_rfl

/-- paddock/straw.Draw -/
def h_straw_Draw : Hints := { kp := [(0, [0, 1, 2, 3]), (1, [0, 1, 2, 3])], lkp := [], lth := [] }
def c_straw_Draw : ACode :=
 .seq (.region (some [0, 1, 2, 3]) [⟨(some 8), .mv (.c (.d (.i .i64 0))), none⟩] [])
 (.seq (.region (some [0, 1, 2, 3]) [⟨(some 9), .mv (.t 0), none⟩,
   ⟨(some 10), .conv .u32 (.t 9), none⟩,
   ⟨(some 11), .mv (.t 1), none⟩,
   ⟨(some 12), .conv .u32 (.t 11), none⟩,
   ⟨(some 13), .mv (.t 2), none⟩,
   ⟨(some 14), .conv .u32 (.t 13), none⟩,
   ⟨(some 15), .call (.f F_bits_Hash) [.t 10, .t 12, .t 14], none⟩,
   ⟨(some 16), .mv (.t 3), none⟩,
   ⟨(some 17), .call (.f F_straw_Straw) [.t 15, .t 16], none⟩,
   ⟨(some 8), .mv (.t 17), none⟩] [])
 (.ret))
def a_straw_Draw : AFn := .code 4 c_straw_Draw [.tmp 8]
set_option maxRecDepth 100000 in
theorem k_straw_Draw : compF Try.prog h_straw_Draw F_straw_Draw = some a_straw_Draw := by kernel_rfl

/-- paddock/straw.Best -/
def h_straw_Best : Hints := { kp := [(0, [0]), (1, [0]), (2, [0, 3]), (3, [0, 3, 6, 7, 8]), (4, [0, 3, 6, 7, 8]), (5, [0, 3, 4, 5, 6, 7, 8]), (6, [0, 4, 6, 7, 8]), (7, [0, 3, 6, 7, 8]), (8, [3])], lkp := [(3, [0, 3, 6, 7, 8])], lth := [] }
def K_straw_Best_0 : Option (List Nat) := (some [0, 3, 6, 7, 8])
def l_straw_Best_0 : ACode :=
 .seq (.region (some [0, 3, 6, 7, 8]) [⟨(some 9), .bin .lss (.t 8) (.t 7), none⟩] [])
 (.seq (.cond (.t 9) (.skip) (.exit 0))
 (.seq (.block 1 (.seq (.region (some [0, 3, 6, 7, 8]) [⟨(some 10), .mv (.t 8), none⟩,
    ⟨(some 11), .iaddrS 1 (.t 6) (.t 8), none⟩,
    ⟨(some 12), .load false 1 (.t 11), none⟩,
    ⟨(some 4), .mv (.t 10), none⟩,
    ⟨(some 5), .mv (.t 12), none⟩] [])
  (.seq (.region (some [0, 3, 4, 5, 6, 7, 8]) [⟨(some 13), .mv (.t 3), none⟩,
    ⟨(some 14), .bin .lss (.t 13) (.c (.d (.i .i64 0))), none⟩,
    ⟨(some 15), .mv (.t 14), none⟩,
    ⟨(some 16), .mv (.t 5), some (15, false)⟩,
    ⟨(some 17), .mv (.t 0), some (15, false)⟩,
    ⟨(some 18), .mv (.t 3), some (15, false)⟩,
    ⟨(some 19), .iaddrS 1 (.t 17) (.t 18), some (15, false)⟩,
    ⟨(some 20), .load false 1 (.t 19), some (15, false)⟩,
    ⟨(some 21), .bin .gtr (.t 16) (.t 20), some (15, false)⟩,
    ⟨(some 22), .pick (.t 15) (.c (.d (.b true))) (.t 21), none⟩] [])
  (.cond (.t 22) (.region (some [0, 4, 6, 7, 8]) [⟨(some 23), .mv (.t 4), none⟩,
     ⟨(some 3), .mv (.t 23), none⟩] []) (.skip)))))
 (.region (some [0, 3, 6, 7, 8]) [⟨(some 24), .bin .add (.t 8) (.c (.d (.i .i64 1))), none⟩,
   ⟨(some 8), .mv (.t 24), none⟩] [])))
def c_straw_Best : ACode :=
 .seq (.region (some [0]) [⟨(some 2), .mv (.c (.d (.i .i64 0))), none⟩] [])
 (.seq (.region (some [0]) [⟨(some 3), .mv (.c (.d (.i .i64 (-1)))), none⟩] [])
 (.seq (.seq (.region (some [0, 3]) [⟨(some 6), .mv (.t 0), none⟩,
   ⟨(some 7), .len false (.t 6), none⟩,
   ⟨(some 8), .mv (.c (.d (.i .i64 0))), none⟩] [])
 (.block 0 (.loop K_straw_Best_0 [] l_straw_Best_0)))
 (.seq (.region (some [3]) [⟨(some 25), .mv (.t 3), none⟩,
   ⟨(some 2), .mv (.t 25), none⟩] [])
 (.ret))))
def a_straw_Best : AFn := .code 1 c_straw_Best [.tmp 2]
set_option maxRecDepth 100000 in
theorem k_straw_Best : compF Try.prog h_straw_Best F_straw_Best = some a_straw_Best := by kernel_rfl

/-- slices.ContainsFunc[[]int,int] -/
def h_slices_ContainsFunc_sint_int : Hints := { kp := [(0, [0, 1]), (1, [0, 1])], lkp := [], lth := [] }
def c_slices_ContainsFunc_sint_int : ACode :=
 .seq (.region (some [0, 1]) [⟨(some 4), .mv (.c (.d (.b false))), none⟩] [])
 (.seq (.region (some [0, 1]) [⟨(some 5), .mv (.t 0), none⟩,
   ⟨(some 6), .mv (.t 1), none⟩,
   ⟨(some 7), .call (.f F_slices_IndexFunc_sint_int) [.t 5, .t 6], none⟩,
   ⟨(some 8), .bin .geq (.t 7) (.c (.d (.i .i64 0))), none⟩,
   ⟨(some 4), .mv (.t 8), none⟩] [])
 (.ret))
def a_slices_ContainsFunc_sint_int : AFn := .code 2 c_slices_ContainsFunc_sint_int [.tmp 4]
set_option maxRecDepth 100000 in
theorem k_slices_ContainsFunc_sint_int : compF Try.prog h_slices_ContainsFunc_sint_int F_slices_ContainsFunc_sint_int = some a_slices_ContainsFunc_sint_int := by kernel_rfl

/-- (*paddock/place.choice).fits$1 -/
def h_place_choice_fits_1 : Hints := { kp := [(0, [0, 1, 2]), (1, [0, 1, 2])], lkp := [], lth := [] }
def c_place_choice_fits_1 : ACode :=
 .seq (.region (some [0, 1, 2]) [⟨(some 4), .mv (.c (.d (.b false))), none⟩] [])
 (.seq (.region (some [0, 1, 2]) [⟨(some 5), .mv (.t 0), none⟩,
   ⟨(some 6), .load false 1 (.t 1), none⟩,
   ⟨(some 7), .bin .eql (.t 5) (.t 6), none⟩,
   ⟨(some 8), .mv (.t 7), none⟩,
   ⟨(some 9), .load false 1 (.t 2), some (8, false)⟩,
   ⟨(some 10), .mv (.t 0), some (8, false)⟩,
   ⟨(some 11), .nilck (.t 9), some (8, false)⟩,
   ⟨(some 12), .faddr 0 (.t 11), some (8, false)⟩,
   ⟨(some 13), .faddr 1 (.t 12), some (8, false)⟩,
   ⟨(some 14), .iaddrA 5 3 (.t 13) (.t 10), some (8, false)⟩,
   ⟨(some 15), .faddr 2 (.t 14), some (8, false)⟩,
   ⟨(some 16), .load false 1 (.t 15), some (8, false)⟩,
   ⟨(some 17), .load false 1 (.t 2), some (8, false)⟩,
   ⟨(some 18), .load false 1 (.t 1), some (8, false)⟩,
   ⟨(some 19), .nilck (.t 17), some (8, false)⟩,
   ⟨(some 20), .faddr 0 (.t 19), some (8, false)⟩,
   ⟨(some 21), .faddr 1 (.t 20), some (8, false)⟩,
   ⟨(some 22), .iaddrA 5 3 (.t 21) (.t 18), some (8, false)⟩,
   ⟨(some 23), .faddr 2 (.t 22), some (8, false)⟩,
   ⟨(some 24), .load false 1 (.t 23), some (8, false)⟩,
   ⟨(some 25), .bin .eql (.t 16) (.t 24), some (8, false)⟩,
   ⟨(some 26), .pick (.t 8) (.c (.d (.b true))) (.t 25), none⟩,
   ⟨(some 4), .mv (.t 26), none⟩] [(4, 12), (11, 12), (4, 13), (11, 13), (12, 13), (4, 19), (11, 19)])
 (.ret))
def a_place_choice_fits_1 : AFn := .code 3 c_place_choice_fits_1 [.tmp 4]
set_option maxRecDepth 100000 in
theorem k_place_choice_fits_1 : compF Try.prog h_place_choice_fits_1 F_place_choice_fits_1 = some a_place_choice_fits_1 := by kernel_rfl

/-- paddock/paddockref2.Log -/
def h_paddockref2_Log : Hints := { kp := [(0, [0]), (1, [0]), (2, [0]), (3, [0, 3]), (4, [0, 3]), (5, [0, 3]), (6, [3, 4]), (7, [4, 5]), (8, [4, 5, 6]), (10, [4, 5, 6]), (11, [4, 5, 6]), (12, [4, 5, 6]), (13, [4, 5, 6]), (14, [4, 5, 6]), (9, [4, 5, 6]), (15, [5])], lkp := [(3, [0, 3]), (8, [4, 5, 6])], lth := [] }
def K_paddockref2_Log_0 : Option (List Nat) := (some [0, 3])
def l_paddockref2_Log_0 : ACode :=
 .seq (.seq (.region (some [0, 3]) [⟨(some 10), .mv (.t 0), none⟩,
   ⟨(some 11), .mv (.t 3), none⟩,
   ⟨(some 12), .bin .add (.t 11) (.c (.d (.i .i64 1))), none⟩,
   ⟨(some 13), .conv .u64 (.t 12), none⟩,
   ⟨(some 14), .bin .shr (.t 10) (.t 13), none⟩,
   ⟨(some 15), .bin .gtr (.t 14) (.c (.d (.i .u32 0))), none⟩] [])
 (.cond (.t 15) (.skip) (.exit 0)))
 (.block 1 (.region (some [0, 3]) [⟨(some 16), .mv (.t 3), none⟩,
    ⟨(some 17), .bin .add (.t 16) (.c (.d (.i .i64 1))), none⟩,
    ⟨(some 3), .mv (.t 17), none⟩] []))
def K_paddockref2_Log_1 : Option (List Nat) := (some [4, 5, 6])
def l_paddockref2_Log_1 : ACode :=
 .seq (.seq (.region (some [4, 5, 6]) [⟨(some 25), .mv (.t 6), none⟩,
   ⟨(some 26), .bin .lss (.t 25) (.c (.d (.i .i64 16))), none⟩] [])
 (.cond (.t 26) (.skip) (.exit 2)))
 (.seq (.block 3 (.seq (.region (some [4, 5, 6]) [⟨(some 29), .mv (.t 4), none⟩,
    ⟨(some 30), .mv (.t 4), none⟩,
    ⟨(some 31), .bin .mul (.t 29) (.t 30), none⟩,
    ⟨(some 32), .bin .shr (.t 31) (.c (.d (.i .u64 31))), none⟩,
    ⟨(some 4), .mv (.t 32), none⟩] [])
  (.seq (.region (some [4, 5, 6]) [⟨(some 33), .mv (.t 5), none⟩,
    ⟨(some 34), .bin .mul (.t 33) (.c (.d (.i .i64 2))), none⟩,
    ⟨(some 5), .mv (.t 34), none⟩] [])
  (.seq (.region (some [4, 5, 6]) [⟨(some 35), .mv (.t 4), none⟩,
    ⟨(some 36), .bin .geq (.t 35) (.c (.d (.i .u64 4294967296))), none⟩] [])
  (.cond (.t 36) (.seq (.region (some [4, 5, 6]) [⟨(some 37), .mv (.t 4), none⟩,
     ⟨(some 38), .bin .shr (.t 37) (.c (.d (.i .u64 1))), none⟩,
     ⟨(some 4), .mv (.t 38), none⟩] [])
   (.region (some [4, 5, 6]) [⟨(some 39), .mv (.t 5), none⟩,
     ⟨(some 40), .bin .add (.t 39) (.c (.d (.i .i64 1))), none⟩,
     ⟨(some 5), .mv (.t 40), none⟩] [])) (.skip))))))
 (.region (some [4, 5, 6]) [⟨(some 27), .mv (.t 6), none⟩,
   ⟨(some 28), .bin .add (.t 27) (.c (.d (.i .i64 1))), none⟩,
   ⟨(some 6), .mv (.t 28), none⟩] []))
def c_paddockref2_Log : ACode :=
 .seq (.region (some [0]) [⟨(some 2), .mv (.c (.d (.i .i64 0))), none⟩] [])
 (.seq (.region (some [0]) [⟨(some 7), .mv (.t 0), none⟩,
   ⟨(some 8), .mm false [.t 7, .c (.d (.i .u32 65536))], none⟩,
   ⟨(some 9), .mm true [.c (.d (.i .u32 1)), .t 8], none⟩,
   ⟨(some 0), .mv (.t 9), none⟩] [])
 (.seq (.region (some [0]) [⟨(some 3), .mv (.c (.d (.i .i64 0))), none⟩] [])
 (.seq (.block 0 (.loop K_paddockref2_Log_0 [] l_paddockref2_Log_0))
 (.seq (.region (some [0, 3]) [⟨(some 18), .mv (.t 0), none⟩,
   ⟨(some 19), .conv .u64 (.t 18), none⟩,
   ⟨(some 20), .mv (.t 3), none⟩,
   ⟨(some 21), .bin .sub (.c (.d (.i .i64 31))) (.t 20), none⟩,
   ⟨(some 22), .conv .u64 (.t 21), none⟩,
   ⟨(some 23), .bin .shl (.t 19) (.t 22), none⟩,
   ⟨(some 4), .mv (.t 23), none⟩] [])
 (.seq (.region (some [3, 4]) [⟨(some 24), .mv (.t 3), none⟩,
   ⟨(some 5), .mv (.t 24), none⟩] [])
 (.seq (.seq (.region (some [4, 5]) [⟨(some 6), .mv (.c (.d (.i .i64 0))), none⟩] [])
 (.block 2 (.loop K_paddockref2_Log_1 [] l_paddockref2_Log_1)))
 (.seq (.region (some [5]) [⟨(some 41), .mv (.t 5), none⟩,
   ⟨(some 2), .mv (.t 41), none⟩] [])
 (.ret))))))))
def a_paddockref2_Log : AFn := .code 1 c_paddockref2_Log [.tmp 2]
set_option maxRecDepth 100000 in
theorem k_paddockref2_Log : compF Try.prog h_paddockref2_Log F_paddockref2_Log = some a_paddockref2_Log := by kernel_rfl

/-- paddock/paddockref1.Mix -/
def h_paddockref1_Mix : Hints := { kp := [(0, [0]), (1, [0]), (2, [0]), (3, [0])], lkp := [], lth := [] }
def c_paddockref1_Mix : ACode :=
 .seq (.region (some [0]) [⟨(some 2), .mv (.c (.d (.i .u64 0))), none⟩] [])
 (.seq (.region (some [0]) [⟨(some 3), .mv (.t 0), none⟩,
   ⟨(some 4), .mv (.t 0), none⟩,
   ⟨(some 5), .bin .shr (.t 4) (.c (.d (.i .u64 33))), none⟩,
   ⟨(some 6), .bin .xor (.t 3) (.t 5), none⟩,
   ⟨(some 7), .bin .mul (.t 6) (.c (.d (.i .u64 18397679294719823053))), none⟩,
   ⟨(some 0), .mv (.t 7), none⟩] [])
 (.seq (.region (some [0]) [⟨(some 8), .mv (.t 0), none⟩,
   ⟨(some 9), .mv (.t 0), none⟩,
   ⟨(some 10), .bin .shr (.t 9) (.c (.d (.i .u64 33))), none⟩,
   ⟨(some 11), .bin .xor (.t 8) (.t 10), none⟩,
   ⟨(some 12), .bin .mul (.t 11) (.c (.d (.i .u64 14181476777654086739))), none⟩,
   ⟨(some 0), .mv (.t 12), none⟩] [])
 (.seq (.region (some [0]) [⟨(some 13), .mv (.t 0), none⟩,
   ⟨(some 14), .mv (.t 0), none⟩,
   ⟨(some 15), .bin .shr (.t 14) (.c (.d (.i .u64 33))), none⟩,
   ⟨(some 16), .bin .xor (.t 13) (.t 15), none⟩,
   ⟨(some 2), .mv (.t 16), none⟩] [])
 (.ret))))
def a_paddockref1_Mix : AFn := .code 1 c_paddockref1_Mix [.tmp 2]
set_option maxRecDepth 100000 in
theorem k_paddockref1_Mix : compF Try.prog h_paddockref1_Mix F_paddockref1_Mix = some a_paddockref1_Mix := by kernel_rfl

/-- paddock/straw.Straw -/
def h_straw_Straw : Hints := { kp := [(0, [0, 1]), (1, [0, 1]), (2, [0, 5])], lkp := [], lth := [] }
def c_straw_Straw : ACode :=
 .seq (.region (some [0, 1]) [⟨(some 4), .mv (.c (.d (.i .i64 0))), none⟩] [])
 (.seq (.region (some [0, 1]) [⟨(some 6), .mv (.t 1), none⟩,
   ⟨(some 7), .mm true [.t 6, .c (.d (.i .i64 1))], none⟩,
   ⟨(some 8), .mm false [.t 7, .c (.d (.i .i64 16))], none⟩,
   ⟨(some 5), .mv (.t 8), none⟩] [])
 (.seq (.region (some [0, 5]) [⟨(some 9), .mv (.t 0), none⟩,
   ⟨(some 10), .bin .rem (.t 9) (.c (.d (.i .u32 65536))), none⟩,
   ⟨(some 11), .bin .add (.t 10) (.c (.d (.i .u32 1))), none⟩,
   ⟨(some 12), .call (.f F_straw_Log) [.t 11], none⟩,
   ⟨(some 13), .bin .sub (.c (.d (.i .i64 1048576))) (.t 12), none⟩,
   ⟨(some 14), .bin .mul (.t 13) (.c (.d (.i .i64 4096))), none⟩,
   ⟨(some 15), .mv (.t 5), none⟩,
   ⟨(some 16), .bin .quo (.t 14) (.t 15), none⟩,
   ⟨(some 17), .un .neg (.t 16), none⟩,
   ⟨(some 4), .mv (.t 17), none⟩] [])
 (.ret)))
def a_straw_Straw : AFn := .code 2 c_straw_Straw [.tmp 4]
set_option maxRecDepth 100000 in
theorem k_straw_Straw : compF Try.prog h_straw_Straw F_straw_Straw = some a_straw_Straw := by kernel_rfl

/-- paddock/bits.Hash -/
def h_bits_Hash : Hints := { kp := [(0, [0, 1, 2]), (1, [0, 1, 2])], lkp := [], lth := [] }
def c_bits_Hash : ACode :=
 .seq (.region (some [0, 1, 2]) [⟨(some 6), .mv (.c (.d (.i .u32 0))), none⟩] [])
 (.seq (.region (some [0, 1, 2]) [⟨(some 7), .mv (.t 0), none⟩,
   ⟨(some 8), .conv .u64 (.t 7), none⟩,
   ⟨(some 9), .call (.f F_bits_Mix) [.t 8], none⟩,
   ⟨(some 10), .mv (.t 1), none⟩,
   ⟨(some 11), .conv .u64 (.t 10), none⟩,
   ⟨(some 12), .bin .add (.t 9) (.t 11), none⟩,
   ⟨(some 13), .call (.f F_bits_Mix) [.t 12], none⟩,
   ⟨(some 14), .mv (.t 2), none⟩,
   ⟨(some 15), .conv .u64 (.t 14), none⟩,
   ⟨(some 16), .bin .add (.t 13) (.t 15), none⟩,
   ⟨(some 17), .call (.f F_bits_Mix) [.t 16], none⟩,
   ⟨(some 18), .conv .u32 (.t 17), none⟩,
   ⟨(some 6), .mv (.t 18), none⟩] [])
 (.ret))
def a_bits_Hash : AFn := .code 3 c_bits_Hash [.tmp 6]
set_option maxRecDepth 100000 in
theorem k_bits_Hash : compF Try.prog h_bits_Hash F_bits_Hash = some a_bits_Hash := by kernel_rfl

/-- paddock/straw.Log -/
def h_straw_Log : Hints := { kp := [(0, [0]), (1, [0]), (2, [0]), (3, [0, 3]), (4, [3, 4]), (5, [3, 4, 5]), (6, [3, 4, 5, 21]), (7, [3, 4, 5, 21]), (8, [3, 4, 5, 21]), (9, [3, 4])], lkp := [(6, [3, 4, 5, 21])], lth := [] }
def K_straw_Log_0 : Option (List Nat) := (some [3, 4, 5, 21])
def l_straw_Log_0 : ACode :=
 .seq (.region (some [3, 4, 5, 21]) [⟨(some 22), .bin .lss (.t 21) (.c (.d (.i .i64 16))), none⟩] [])
 (.seq (.cond (.t 22) (.skip) (.exit 0))
 (.seq (.block 1 (.region (some [3, 4, 5, 21]) [⟨(some 23), .mv (.t 5), none⟩,
    ⟨(some 24), .call (.t 23) [], none⟩] []))
 (.region (some [3, 4, 5, 21]) [⟨(some 25), .bin .add (.t 21) (.c (.d (.i .i64 1))), none⟩,
   ⟨(some 21), .mv (.t 25), none⟩] [])))
def c_straw_Log : ACode :=
 .seq (.region (some [0]) [⟨(some 2), .mv (.c (.d (.i .i64 0))), none⟩] [])
 (.seq (.region (some [0]) [⟨(some 6), .mv (.t 0), none⟩,
   ⟨(some 7), .mm true [.t 6, .c (.d (.i .u32 1))], none⟩,
   ⟨(some 8), .mm false [.t 7, .c (.d (.i .u32 65536))], none⟩,
   ⟨(some 0), .mv (.t 8), none⟩] [])
 (.seq (.region (some [0]) [⟨(some 9), .mv (.t 0), none⟩,
   ⟨(some 10), .call (.f F_math_bits_Len32) [.t 9], none⟩,
   ⟨(some 11), .bin .sub (.t 10) (.c (.d (.i .i64 1))), none⟩,
   ⟨(some 3), .mv (.t 11), none⟩] [])
 (.seq (.region (some [0, 3]) [⟨(some 12), .mv (.t 0), none⟩,
   ⟨(some 13), .conv .u64 (.t 12), none⟩,
   ⟨(some 14), .mv (.t 3), none⟩,
   ⟨(some 15), .bin .sub (.c (.d (.i .i64 31))) (.t 14), none⟩,
   ⟨(some 16), .bin .shl (.t 13) (.t 15), none⟩,
   ⟨(some 17), .build [.d (.i .u64 0), .d (.i .i64 0)] [(0, 1, .t 16)], none⟩,
   ⟨(some 18), .box (.t 17), none⟩,
   ⟨(some 4), .mv (.t 18), none⟩] [])
 (.seq (.region (some [3, 4]) [⟨(some 19), .mv (.t 4), none⟩,
   ⟨(some 20), .mkfn F_straw_mantissa_step [.t 19] [], none⟩,
   ⟨(some 5), .mv (.t 20), none⟩] [])
 (.seq (.seq (.region (some [3, 4, 5]) [⟨(some 21), .mv (.c (.d (.i .i64 0))), none⟩] [])
 (.block 0 (.loop K_straw_Log_0 [] l_straw_Log_0)))
 (.seq (.region (some [3, 4]) [⟨(some 26), .mv (.t 3), none⟩,
   ⟨(some 27), .bin .shl (.t 26) (.c (.d (.i .u64 16))), none⟩,
   ⟨(some 28), .mv (.t 4), none⟩,
   ⟨(some 29), .nilck (.t 28), none⟩,
   ⟨(some 30), .faddr 1 (.t 29), none⟩,
   ⟨(some 31), .load false 1 (.t 30), none⟩,
   ⟨(some 32), .bin .add (.t 27) (.t 31), none⟩,
   ⟨(some 2), .mv (.t 32), none⟩] [])
 (.ret)))))))
def a_straw_Log : AFn := .code 1 c_straw_Log [.tmp 2]
set_option maxRecDepth 100000 in
theorem k_straw_Log : compF Try.prog h_straw_Log F_straw_Log = some a_straw_Log := by kernel_rfl

/-- paddock/bits.Mix -/
def h_bits_Mix : Hints := { kp := [(0, [0]), (1, [0]), (2, [0]), (3, [0])], lkp := [], lth := [] }
def c_bits_Mix : ACode :=
 .seq (.region (some [0]) [⟨(some 2), .mv (.c (.d (.i .u64 0))), none⟩] [])
 (.seq (.region (some [0]) [⟨(some 3), .mv (.t 0), none⟩,
   ⟨(some 4), .mv (.t 0), none⟩,
   ⟨(some 5), .bin .shr (.t 4) (.c (.d (.i .u64 33))), none⟩,
   ⟨(some 6), .bin .xor (.t 3) (.t 5), none⟩,
   ⟨(some 7), .bin .mul (.t 6) (.c (.d (.i .u64 18397679294719823053))), none⟩,
   ⟨(some 0), .mv (.t 7), none⟩] [])
 (.seq (.region (some [0]) [⟨(some 8), .mv (.t 0), none⟩,
   ⟨(some 9), .mv (.t 0), none⟩,
   ⟨(some 10), .bin .shr (.t 9) (.c (.d (.i .u64 33))), none⟩,
   ⟨(some 11), .bin .xor (.t 8) (.t 10), none⟩,
   ⟨(some 12), .bin .mul (.t 11) (.c (.d (.i .u64 14181476777654086739))), none⟩,
   ⟨(some 0), .mv (.t 12), none⟩] [])
 (.seq (.region (some [0]) [⟨(some 13), .mv (.t 0), none⟩,
   ⟨(some 14), .mv (.t 0), none⟩,
   ⟨(some 15), .bin .shr (.t 14) (.c (.d (.i .u64 33))), none⟩,
   ⟨(some 16), .bin .xor (.t 13) (.t 15), none⟩,
   ⟨(some 2), .mv (.t 16), none⟩] [])
 (.ret))))
def a_bits_Mix : AFn := .code 1 c_bits_Mix [.tmp 2]
set_option maxRecDepth 100000 in
theorem k_bits_Mix : compF Try.prog h_bits_Mix F_bits_Mix = some a_bits_Mix := by kernel_rfl

/-- math/bits.Len32 -/
def h_math_bits_Len32 : Hints := { kp := [(0, [0]), (1, [0, 2]), (2, [0]), (3, [0]), (4, [0, 2]), (5, [0, 2]), (6, [0, 2]), (7, [0, 2])], lkp := [], lth := [] }
def c_math_bits_Len32 : ACode :=
 .seq (.region (some [0]) [⟨(some 2), .mv (.c (.d (.i .i64 0))), none⟩] [])
 (.seq (.seq (.region (some [0, 2]) [⟨(some 3), .mv (.t 0), none⟩,
   ⟨(some 4), .bin .geq (.t 3) (.c (.d (.i .u32 65536))), none⟩] [])
 (.cond (.t 4) (.seq (.region (some [0]) [⟨(some 5), .mv (.t 0), none⟩,
    ⟨(some 6), .bin .shr (.t 5) (.c (.d (.i .u64 16))), none⟩,
    ⟨(some 0), .mv (.t 6), none⟩] [])
  (.region (some [0]) [⟨(some 2), .mv (.c (.d (.i .i64 16))), none⟩] [])) (.skip)))
 (.seq (.seq (.region (some [0, 2]) [⟨(some 7), .mv (.t 0), none⟩,
   ⟨(some 8), .bin .geq (.t 7) (.c (.d (.i .u32 256))), none⟩] [])
 (.cond (.t 8) (.seq (.region (some [0, 2]) [⟨(some 9), .mv (.t 0), none⟩,
    ⟨(some 10), .bin .shr (.t 9) (.c (.d (.i .u64 8))), none⟩,
    ⟨(some 0), .mv (.t 10), none⟩] [])
  (.region (some [0, 2]) [⟨(some 11), .mv (.t 2), none⟩,
    ⟨(some 12), .bin .add (.t 11) (.c (.d (.i .i64 8))), none⟩,
    ⟨(some 2), .mv (.t 12), none⟩] [])) (.skip)))
 (.seq (.region (some [0, 2]) [⟨(some 13), .mv (.t 2), none⟩,
   ⟨(some 14), .mv (.t 0), none⟩,
   ⟨(some 15), .conv .u8 (.t 14), none⟩,
   ⟨(some 16), .idxS (.c (.d (.s tab0))) (.t 15), none⟩,
   ⟨(some 17), .conv .i64 (.t 16), none⟩,
   ⟨(some 18), .bin .add (.t 13) (.t 17), none⟩,
   ⟨(some 2), .mv (.t 18), none⟩] [])
 (.ret))))
def a_math_bits_Len32 : AFn := .code 1 c_math_bits_Len32 [.tmp 2]
set_option maxRecDepth 100000 in
theorem k_math_bits_Len32 : compF Try.prog h_math_bits_Len32 F_math_bits_Len32 = some a_math_bits_Len32 := by kernel_rfl

/-- (*paddock/straw.mantissa).step -/
def h_straw_mantissa_step : Hints := { kp := [(0, [0]), (1, [0]), (2, [0]), (3, [0]), (4, [0])], lkp := [], lth := [] }
def c_straw_mantissa_step : ACode :=
 .seq (.region (some [0]) [⟨(some 2), .mv (.t 0), none⟩,
   ⟨(some 3), .mv (.t 0), none⟩,
   ⟨(some 4), .nilck (.t 3), none⟩,
   ⟨(some 5), .faddr 0 (.t 4), none⟩,
   ⟨(some 6), .load false 1 (.t 5), none⟩,
   ⟨(some 7), .mv (.t 0), none⟩,
   ⟨(some 8), .nilck (.t 7), none⟩,
   ⟨(some 9), .faddr 0 (.t 8), none⟩,
   ⟨(some 10), .load false 1 (.t 9), none⟩,
   ⟨(some 11), .bin .mul (.t 6) (.t 10), none⟩,
   ⟨(some 12), .bin .shr (.t 11) (.c (.d (.i .u64 31))), none⟩,
   ⟨(some 13), .nilck (.t 2), none⟩,
   ⟨(some 14), .faddr 0 (.t 13), none⟩,
   ⟨none, .store 1 (.t 14) (.t 12), none⟩] [(4, 8)])
 (.seq (.region (some [0]) [⟨(some 15), .mv (.t 0), none⟩,
   ⟨(some 16), .nilck (.t 15), none⟩,
   ⟨(some 17), .faddr 1 (.t 16), none⟩,
   ⟨(some 18), .load false 1 (.t 17), none⟩,
   ⟨(some 19), .bin .shl (.t 18) (.c (.d (.i .u64 1))), none⟩,
   ⟨(some 20), .nilck (.t 15), none⟩,
   ⟨(some 21), .faddr 1 (.t 20), none⟩,
   ⟨none, .store 1 (.t 21) (.t 19), none⟩] [])
 (.seq (.region (some [0]) [⟨(some 22), .mv (.t 0), none⟩,
   ⟨(some 23), .nilck (.t 22), none⟩,
   ⟨(some 24), .faddr 0 (.t 23), none⟩,
   ⟨(some 25), .load false 1 (.t 24), none⟩,
   ⟨(some 26), .bin .geq (.t 25) (.c (.d (.i .u64 4294967296))), none⟩] [])
 (.cond (.t 26) (.seq (.region (some [0]) [⟨(some 27), .mv (.t 0), none⟩,
    ⟨(some 28), .nilck (.t 27), none⟩,
    ⟨(some 29), .faddr 0 (.t 28), none⟩,
    ⟨(some 30), .load false 1 (.t 29), none⟩,
    ⟨(some 31), .bin .shr (.t 30) (.c (.d (.i .u64 1))), none⟩,
    ⟨(some 32), .nilck (.t 27), none⟩,
    ⟨(some 33), .faddr 0 (.t 32), none⟩,
    ⟨none, .store 1 (.t 33) (.t 31), none⟩] [])
  (.region (some [0]) [⟨(some 34), .mv (.t 0), none⟩,
    ⟨(some 35), .nilck (.t 34), none⟩,
    ⟨(some 36), .faddr 1 (.t 35), none⟩,
    ⟨(some 37), .load false 1 (.t 36), none⟩,
    ⟨(some 38), .bin .or (.t 37) (.c (.d (.i .i64 1))), none⟩,
    ⟨(some 39), .nilck (.t 34), none⟩,
    ⟨(some 40), .faddr 1 (.t 39), none⟩,
    ⟨none, .store 1 (.t 40) (.t 38), none⟩] [])) (.skip))))
def a_straw_mantissa_step : AFn := .code 1 c_straw_mantissa_step []
set_option maxRecDepth 100000 in
theorem k_straw_mantissa_step : compF Try.prog h_straw_mantissa_step F_straw_mantissa_step = some a_straw_mantissa_step := by kernel_rfl

noncomputable def C : FuncId → Option AFn
  | 3 => some a_paddocklaw4_PlaceRaw
  | 4 => some a_paddocklaw4_PlaceTells
  | 5 => some a_paddocklaw4_PlaceApart
  | 6 => some a_paddocklaw4_PlaceStays
  | 7 => some a_paddocklaw4_PlaceWeight
  | 8 => some a_paddocklaw4_PlaceDown
  | 9 => some a_paddocklaw4_PlaceFew
  | 10 => some a_paddocklaw4_PlaceMoves
  | 11 => some a_paddocklaw4_known
  | 12 => some a_maps_Is
  | 13 => some a_place_Pick
  | 14 => some a_place_Acting
  | 15 => some a_place_Primary
  | 16 => some a_place_Moved
  | 17 => some a_paddockref3_Acting
  | 18 => some a_paddocklaw4_ints
  | 19 => some a_paddockref3_Pick
  | 20 => some a_maps_First
  | 21 => some a_maps_In
  | 22 => some a_place_choice_pick
  | 23 => some a_slices_DeleteFunc_sint_int
  | 24 => some a_place_Acting_1
  | 25 => some a_slices_Equal_sint_int
  | 26 => some a_paddockref3_Is
  | 27 => some a_paddockref2_Draw
  | 28 => some a_maps_those
  | 29 => some a_maps_In_1
  | 30 => some a_place_choice_draw
  | 31 => some a_place_choice_fits
  | 32 => some a_slices_IndexFunc_sint_int
  | 33 => some a_paddockref2_Straw
  | 34 => some a_paddockref1_Hash
  | 35 => some a_straw_Draw
  | 36 => some a_straw_Best
  | 37 => some a_slices_ContainsFunc_sint_int
  | 38 => some a_place_choice_fits_1
  | 39 => some a_paddockref2_Log
  | 40 => some a_paddockref1_Mix
  | 41 => some a_straw_Straw
  | 42 => some a_bits_Hash
  | 43 => some a_straw_Log
  | 44 => some a_bits_Mix
  | 45 => some a_math_bits_Len32
  | 46 => some a_straw_mantissa_step
  | _ => none
theorem hC : CRel Try.prog C := by
  intro f fn h
  unfold C at h
  split at h
  · injection h with h; subst h; exact ⟨h_paddocklaw4_PlaceRaw, k_paddocklaw4_PlaceRaw⟩
  · injection h with h; subst h; exact ⟨h_paddocklaw4_PlaceTells, k_paddocklaw4_PlaceTells⟩
  · injection h with h; subst h; exact ⟨h_paddocklaw4_PlaceApart, k_paddocklaw4_PlaceApart⟩
  · injection h with h; subst h; exact ⟨h_paddocklaw4_PlaceStays, k_paddocklaw4_PlaceStays⟩
  · injection h with h; subst h; exact ⟨h_paddocklaw4_PlaceWeight, k_paddocklaw4_PlaceWeight⟩
  · injection h with h; subst h; exact ⟨h_paddocklaw4_PlaceDown, k_paddocklaw4_PlaceDown⟩
  · injection h with h; subst h; exact ⟨h_paddocklaw4_PlaceFew, k_paddocklaw4_PlaceFew⟩
  · injection h with h; subst h; exact ⟨h_paddocklaw4_PlaceMoves, k_paddocklaw4_PlaceMoves⟩
  · injection h with h; subst h; exact ⟨h_paddocklaw4_known, k_paddocklaw4_known⟩
  · injection h with h; subst h; exact ⟨h_maps_Is, k_maps_Is⟩
  · injection h with h; subst h; exact ⟨h_place_Pick, k_place_Pick⟩
  · injection h with h; subst h; exact ⟨h_place_Acting, k_place_Acting⟩
  · injection h with h; subst h; exact ⟨h_place_Primary, k_place_Primary⟩
  · injection h with h; subst h; exact ⟨h_place_Moved, k_place_Moved⟩
  · injection h with h; subst h; exact ⟨h_paddockref3_Acting, k_paddockref3_Acting⟩
  · injection h with h; subst h; exact ⟨h_paddocklaw4_ints, k_paddocklaw4_ints⟩
  · injection h with h; subst h; exact ⟨h_paddockref3_Pick, k_paddockref3_Pick⟩
  · injection h with h; subst h; exact ⟨h_maps_First, k_maps_First⟩
  · injection h with h; subst h; exact ⟨h_maps_In, k_maps_In⟩
  · injection h with h; subst h; exact ⟨h_place_choice_pick, k_place_choice_pick⟩
  · injection h with h; subst h; exact ⟨h_slices_DeleteFunc_sint_int, k_slices_DeleteFunc_sint_int⟩
  · injection h with h; subst h; exact ⟨h_place_Acting_1, k_place_Acting_1⟩
  · injection h with h; subst h; exact ⟨h_slices_Equal_sint_int, k_slices_Equal_sint_int⟩
  · injection h with h; subst h; exact ⟨h_paddockref3_Is, k_paddockref3_Is⟩
  · injection h with h; subst h; exact ⟨h_paddockref2_Draw, k_paddockref2_Draw⟩
  · injection h with h; subst h; exact ⟨h_maps_those, k_maps_those⟩
  · injection h with h; subst h; exact ⟨h_maps_In_1, k_maps_In_1⟩
  · injection h with h; subst h; exact ⟨h_place_choice_draw, k_place_choice_draw⟩
  · injection h with h; subst h; exact ⟨h_place_choice_fits, k_place_choice_fits⟩
  · injection h with h; subst h; exact ⟨h_slices_IndexFunc_sint_int, k_slices_IndexFunc_sint_int⟩
  · injection h with h; subst h; exact ⟨h_paddockref2_Straw, k_paddockref2_Straw⟩
  · injection h with h; subst h; exact ⟨h_paddockref1_Hash, k_paddockref1_Hash⟩
  · injection h with h; subst h; exact ⟨h_straw_Draw, k_straw_Draw⟩
  · injection h with h; subst h; exact ⟨h_straw_Best, k_straw_Best⟩
  · injection h with h; subst h; exact ⟨h_slices_ContainsFunc_sint_int, k_slices_ContainsFunc_sint_int⟩
  · injection h with h; subst h; exact ⟨h_place_choice_fits_1, k_place_choice_fits_1⟩
  · injection h with h; subst h; exact ⟨h_paddockref2_Log, k_paddockref2_Log⟩
  · injection h with h; subst h; exact ⟨h_paddockref1_Mix, k_paddockref1_Mix⟩
  · injection h with h; subst h; exact ⟨h_straw_Straw, k_straw_Straw⟩
  · injection h with h; subst h; exact ⟨h_bits_Hash, k_bits_Hash⟩
  · injection h with h; subst h; exact ⟨h_straw_Log, k_straw_Log⟩
  · injection h with h; subst h; exact ⟨h_bits_Mix, k_bits_Mix⟩
  · injection h with h; subst h; exact ⟨h_math_bits_Len32, k_math_bits_Len32⟩
  · injection h with h; subst h; exact ⟨h_straw_mantissa_step, k_straw_mantissa_step⟩
  · cases h
end Go.Proofs.Ytfafafocnnhmpaa

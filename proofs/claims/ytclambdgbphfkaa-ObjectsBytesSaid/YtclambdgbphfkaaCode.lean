/- The code of the functions that these laws reach, compiled for the pure evaluator (printed by program), each held against the given program by the kernel. -/
import Derived.Test.YtclambdgbphfkaaChecked
import Derived.KernelRfl
import Derived.Test.YtclambdgbphfkaaPkEv
import Derived.Test.YtclambdgbphfkaaShelf
set_option linter.all false
namespace Go.Proofs.Ytclambdgbphfkaa
open Pv Go

def F_main_main : FuncId := 0
def F_gosem_cut : FuncId := 1
def F_gosem_cut_init : FuncId := 2
def F_paddocklaw6_ObjectsBytes : FuncId := 3
def F_paddocklaw6_ObjectsBounds : FuncId := 4
def F_paddocklaw6_ObjectsAll : FuncId := 5
def F_paddocklaw6_ObjectsTwice : FuncId := 6
def F_paddocklaw6_ObjectsApart : FuncId := 7
def F_paddocklaw6_ObjectsEither : FuncId := 8
def F_paddocklaw6_known : FuncId := 9
def F_objects_IsOp : FuncId := 10
def F_objects_Do : FuncId := 11
def F_objects_All : FuncId := 12
def F_paddockref6_Do : FuncId := 13
def F_objects_Writes : FuncId := 14
def F_objects_Seen : FuncId := 15
def F_paddocklaw6_objectsSeen : FuncId := 16
def F_objects_does : FuncId := 17
def F_paddockref6_Writes : FuncId := 18
def F_paddockref6_Seen : FuncId := 19
def F_paddockref6_change : FuncId := 20
def F_objects_doer_write : FuncId := 21
def F_objects_doer_trunc : FuncId := 22
def F_objects_doer_attr : FuncId := 23
def F_objects_doer_remove : FuncId := 24
def F_paddockref6_IsOp : FuncId := 25
def F_paddockref6_noughts : FuncId := 26
def F_objects_grown : FuncId := 27
def F_strings_Repeat : FuncId := 28
def F_math_bits_Mul : FuncId := 29
def F_strings_HasPrefix : FuncId := 30
def F_strings_Builder_Grow : FuncId := 31
def F_strings_Builder_WriteString : FuncId := 32
def F_strings_Builder_Len : FuncId := 33
def F_strings_Builder_String : FuncId := 34
def F_math_bits_Mul32 : FuncId := 35
def F_math_bits_Mul64 : FuncId := 36
def F_internal_stringslite_HasPrefix : FuncId := 37
def F_strings_Builder_copyCheck : FuncId := 38
def F_strings_Builder_grow : FuncId := 39
def F_internal_abi_NoEscape : FuncId := 40
def F_internal_bytealg_MakeNoZero : FuncId := 41
def F_runtime_boundsError_Error : FuncId := 42
def F_runtime_boundsError_RuntimeError : FuncId := 43
def F_runtime_errorString_Error : FuncId := 44
def F_runtime_errorString_RuntimeError : FuncId := 45
def F_runtime_plainError_Error : FuncId := 46
def F_runtime_plainError_RuntimeError : FuncId := 47
def F_runtime_errorAddressString_Error : FuncId := 48
def F_runtime_errorAddressString_RuntimeError : FuncId := 49
def F_runtime_TypeAssertionError_Error : FuncId := 50
def F_runtime_TypeAssertionError_RuntimeError : FuncId := 51
def F_runtime_PanicNilError_Error : FuncId := 52
def F_runtime_PanicNilError_RuntimeError : FuncId := 53
def F_internal_abi_Type_Align : FuncId := 54
def F_internal_runtime_maps_unhashableTypeError_Error : FuncId := 55
def F_internal_runtime_maps_unhashableTypeError_RuntimeError : FuncId := 56
def F_strings_Builder_Reset : FuncId := 57
def F_internal_abi_Kind_String : FuncId := 58
/-- paddock/paddocklaw6.ObjectsBytes -/
def h_paddocklaw6_ObjectsBytes : Hints := { kp := [(0, [0]), (1, [0]), (2, []), (3, [0]), (4, []), (5, [0]), (6, [0, 3]), (7, [0, 3, 4]), (8, [0, 3, 4, 5]), (9, [0, 3, 4, 5, 6]), (11, [0, 3, 4, 5, 6]), (12, [0, 3, 4, 5, 6, 7]), (13, [0, 3, 4, 5, 6, 7]), (14, [0, 3, 4, 5, 6, 7]), (17, [0, 3, 4, 5, 6, 7, 8, 9]), (22, [0, 3, 4, 5, 6, 7, 8, 9]), (26, [0, 3, 4, 5, 6, 7, 8, 9]), (15, [0, 3, 4, 5, 6, 8, 9]), (16, []), (27, [0, 3, 6, 8]), (23, [0, 3, 4, 5, 6, 7, 8]), (24, [0, 3, 4, 5, 6, 7, 8]), (25, [0, 3, 4, 5, 6, 7, 8]), (18, [0, 3, 4, 6, 7, 8]), (19, [0, 3, 4, 5, 6, 7, 8]), (20, [0, 3, 4, 5, 6, 7, 8]), (21, [0, 3, 4, 5, 6, 7, 8]), (28, [0, 3, 4, 5, 6, 8]), (29, [0, 3, 4, 5, 6]), (30, []), (10, [0, 3, 4, 5, 6]), (31, [])], lkp := [(9, [0, 3, 4, 5, 6]), (23, [0, 3, 4, 5, 6, 7, 8]), (19, [0, 3, 4, 5, 6, 7, 8])], lth := [(9, [4, 1]), (19, [4, 1]), (23, [4, 1])] }
def K_paddocklaw6_ObjectsBytes_0 : Option (List Nat) := (some [0, 3, 4, 5, 6, 7, 8])
def l_paddocklaw6_ObjectsBytes_0 : ACode :=
 .seq (.seq (.region (some [0, 3, 4, 5, 6, 7, 8]) [⟨(some 73), .mv (.t 4), none⟩,
   ⟨(some 74), .len false (.t 73), none⟩,
   ⟨(some 75), .faddr 4 (.t 7), none⟩,
   ⟨(some 76), .load false 1 (.t 75), none⟩,
   ⟨(some 77), .conv .i64 (.t 76), none⟩,
   ⟨(some 78), .faddr 5 (.t 7), none⟩,
   ⟨(some 79), .load false 1 (.t 78), none⟩,
   ⟨(some 80), .len true (.t 79), none⟩,
   ⟨(some 81), .bin .add (.t 77) (.t 80), none⟩,
   ⟨(some 82), .bin .lss (.t 74) (.t 81), none⟩] [])
 (.cond (.t 82) (.skip) (.exit 3)))
 (.block 4 (.region (some [0, 3, 4, 5, 6, 7, 8]) [⟨(some 83), .mv (.t 4), none⟩,
    ⟨(some 84), .bsl 1 [.c (.d (.i .u8 0))], none⟩,
    ⟨(some 85), .app 1 (.t 83) (.t 84), none⟩,
    ⟨(some 4), .mv (.t 85), none⟩] []))
def K_paddocklaw6_ObjectsBytes_1 : Option (List Nat) := (some [0, 3, 4, 5, 6, 7, 8])
def l_paddocklaw6_ObjectsBytes_1 : ACode :=
 .seq (.seq (.region (some [0, 3, 4, 5, 6, 7, 8]) [⟨(some 106), .mv (.t 4), none⟩,
   ⟨(some 107), .len false (.t 106), none⟩,
   ⟨(some 108), .faddr 4 (.t 7), none⟩,
   ⟨(some 109), .load false 1 (.t 108), none⟩,
   ⟨(some 110), .conv .i64 (.t 109), none⟩,
   ⟨(some 111), .bin .lss (.t 107) (.t 110), none⟩] [])
 (.cond (.t 111) (.skip) (.exit 5)))
 (.block 6 (.region (some [0, 3, 4, 5, 6, 7, 8]) [⟨(some 112), .mv (.t 4), none⟩,
    ⟨(some 113), .bsl 1 [.c (.d (.i .u8 0))], none⟩,
    ⟨(some 114), .app 1 (.t 112) (.t 113), none⟩,
    ⟨(some 4), .mv (.t 114), none⟩] []))
def K_paddocklaw6_ObjectsBytes_2 : Option (List Nat) := (some [0, 3, 4, 5, 6])
def l_paddocklaw6_ObjectsBytes_2 : ACode :=
 .seq (.seq (.region (some [0, 3, 4, 5, 6]) [⟨(some 16), .mv (.t 6), none⟩,
   ⟨(some 17), .mv (.t 0), none⟩,
   ⟨(some 18), .len false (.t 17), none⟩,
   ⟨(some 19), .bin .lss (.t 16) (.t 18), none⟩] [])
 (.cond (.t 19) (.skip) (.exit 0)))
 (.seq (.block 1 (.seq (.region (some [0, 3, 4, 5, 6]) [⟨(some 22), .mv (.t 0), none⟩,
    ⟨(some 23), .mv (.t 6), none⟩,
    ⟨(some 24), .iaddrS 6 (.t 22) (.t 23), none⟩,
    ⟨(some 25), .load true 6 (.t 24), none⟩,
    ⟨(some 7), .box (.c (.d (.agg [.i .u8 0, .i .u32 0, .i .u8 0, .i .u8 0, .i .u8 0, .s ⟨#[]⟩]))), none⟩,
    ⟨none, .store 6 (.t 7) (.t 25), none⟩] [])
  (.seq (.region (some [0, 3, 4, 5, 6, 7]) [⟨(some 26), .mv (.t 6), none⟩,
    ⟨(some 27), .conv .u32 (.t 26), none⟩,
    ⟨(some 28), .bin .add (.t 27) (.c (.d (.i .u32 1))), none⟩,
    ⟨(some 29), .faddr 0 (.t 7), none⟩,
    ⟨none, .store 1 (.t 29) (.c (.d (.i .u8 1))), none⟩,
    ⟨(some 30), .faddr 1 (.t 7), none⟩,
    ⟨none, .store 1 (.t 30) (.t 28), none⟩,
    ⟨(some 31), .faddr 3 (.t 7), none⟩,
    ⟨none, .store 1 (.t 31) (.c (.d (.i .u8 2))), none⟩] [])
  (.seq (.seq (.region (some [0, 3, 4, 5, 6, 7]) [⟨(some 32), .faddr 2 (.t 7), none⟩,
    ⟨(some 33), .load false 1 (.t 32), none⟩,
    ⟨(some 34), .bin .neq (.t 33) (.c (.d (.i .u8 1))), none⟩,
    ⟨(some 35), .mv (.t 34), none⟩,
    ⟨(some 36), .faddr 2 (.t 7), some (35, true)⟩,
    ⟨(some 37), .load false 1 (.t 36), some (35, true)⟩,
    ⟨(some 38), .bin .neq (.t 37) (.c (.d (.i .u8 2))), some (35, true)⟩,
    ⟨(some 39), .pick (.t 35) (.t 38) (.c (.d (.b false))), none⟩,
    ⟨(some 40), .mv (.t 39), none⟩,
    ⟨(some 41), .faddr 2 (.t 7), some (40, true)⟩,
    ⟨(some 42), .load false 1 (.t 41), some (40, true)⟩,
    ⟨(some 43), .bin .neq (.t 42) (.c (.d (.i .u8 4))), some (40, true)⟩,
    ⟨(some 44), .pick (.t 40) (.t 43) (.c (.d (.b false))), none⟩,
    ⟨(some 45), .mv (.t 44), none⟩,
    ⟨(some 46), .load true 6 (.t 7), some (45, false)⟩,
    ⟨(some 47), .call (.f F_objects_IsOp) [.t 46], some (45, false)⟩,
    ⟨(some 48), .un .not (.t 47), some (45, false)⟩,
    ⟨(some 49), .pick (.t 45) (.c (.d (.b true))) (.t 48), none⟩] [])
  (.cond (.t 49) (.exit 1) (.skip)))
  (.seq (.region (some [0, 3, 4, 5, 6, 7]) [⟨(some 51), .load true 39 (.t 3), none⟩,
    ⟨(some 52), .load true 6 (.t 7), none⟩,
    ⟨(some 53), .call (.f F_objects_Do) [.t 51, .t 52], none⟩,
    ⟨(some 50), .mv (.t 53), none⟩,
    ⟨(some 54), .ext (.t 50) 0, none⟩,
    ⟨(some 55), .ext (.t 50) 1, none⟩,
    ⟨(some 8), .box (.c (.d (.agg Pk.Base.zero.cs))), none⟩,
    ⟨(some 9), .box (.c (.d (.agg [.i .u8 0, .s ⟨#[]⟩]))), none⟩,
    ⟨none, .store 39 (.t 8) (.t 54), none⟩,
    ⟨none, .store 2 (.t 9) (.t 55), none⟩] [])
  (.seq (.block 2 (.seq (.region (some [0, 3, 4, 5, 6, 7, 8, 9]) [⟨(some 60), .faddr 2 (.t 7), none⟩,
     ⟨(some 61), .load false 1 (.t 60), none⟩,
     ⟨(some 62), .bin .eql (.t 61) (.c (.d (.i .u8 1))), none⟩,
     ⟨(some 63), .mv (.t 62), none⟩,
     ⟨(some 64), .faddr 4 (.t 7), some (63, true)⟩,
     ⟨(some 65), .load false 1 (.t 64), some (63, true)⟩,
     ⟨(some 66), .conv .i64 (.t 65), some (63, true)⟩,
     ⟨(some 67), .faddr 5 (.t 7), some (63, true)⟩,
     ⟨(some 68), .load false 1 (.t 67), some (63, true)⟩,
     ⟨(some 69), .len true (.t 68), some (63, true)⟩,
     ⟨(some 70), .bin .add (.t 66) (.t 69), some (63, true)⟩,
     ⟨(some 71), .bin .leq (.t 70) (.c (.d (.i .i64 16))), some (63, true)⟩,
     ⟨(some 72), .pick (.t 63) (.t 71) (.c (.d (.b false))), none⟩,
     ⟨(some 59), .mv (.t 72), none⟩] [])
   (.cond (.t 59) (.seq (.region (some [0, 3, 4, 6, 7, 8]) [⟨(some 5), .mv (.c (.d (.b true))), none⟩] [])
    (.seq (.block 3 (.loop K_paddocklaw6_ObjectsBytes_0 [4, 1] l_paddocklaw6_ObjectsBytes_0))
    (.region (some [0, 3, 4, 5, 6, 7, 8]) [⟨(some 86), .mv (.t 4), none⟩,
      ⟨(some 87), .faddr 4 (.t 7), none⟩,
      ⟨(some 88), .load false 1 (.t 87), none⟩,
      ⟨(some 89), .slice 1 (.t 86) (some (.t 88)) none none, none⟩,
      ⟨(some 90), .faddr 5 (.t 7), none⟩,
      ⟨(some 91), .load false 1 (.t 90), none⟩,
      ⟨(some 92), .cpy 1 (.t 89) (.t 91), none⟩] [(2, 5)]))) (.seq (.region (some [0, 3, 4, 5, 6, 7, 8, 9]) [⟨(some 94), .faddr 2 (.t 7), none⟩,
      ⟨(some 95), .load false 1 (.t 94), none⟩,
      ⟨(some 96), .bin .eql (.t 95) (.c (.d (.i .u8 2))), none⟩,
      ⟨(some 97), .mv (.t 96), none⟩,
      ⟨(some 98), .mv (.t 5), some (97, true)⟩,
      ⟨(some 99), .pick (.t 97) (.t 98) (.c (.d (.b false))), none⟩,
      ⟨(some 100), .mv (.t 99), none⟩,
      ⟨(some 101), .faddr 4 (.t 7), some (100, true)⟩,
      ⟨(some 102), .load false 1 (.t 101), some (100, true)⟩,
      ⟨(some 103), .conv .i64 (.t 102), some (100, true)⟩,
      ⟨(some 104), .bin .leq (.t 103) (.c (.d (.i .i64 16))), some (100, true)⟩,
      ⟨(some 105), .pick (.t 100) (.t 104) (.c (.d (.b false))), none⟩,
      ⟨(some 93), .mv (.t 105), none⟩] [])
    (.cond (.t 93) (.seq (.block 5 (.loop K_paddocklaw6_ObjectsBytes_1 [4, 1] l_paddocklaw6_ObjectsBytes_1))
     (.region (some [0, 3, 4, 5, 6, 7, 8]) [⟨(some 115), .mv (.t 4), none⟩,
       ⟨(some 116), .faddr 4 (.t 7), none⟩,
       ⟨(some 117), .load false 1 (.t 116), none⟩,
       ⟨(some 118), .slice 1 (.t 115) none (some (.t 117)) none, none⟩,
       ⟨(some 119), .app 1 (.c (.nilS)) (.t 118), none⟩,
       ⟨(some 4), .mv (.t 119), none⟩] [])) (.seq (.region (some [0, 3, 4, 5, 6, 7, 8, 9]) [⟨(some 121), .faddr 2 (.t 7), none⟩,
       ⟨(some 122), .load false 1 (.t 121), none⟩,
       ⟨(some 123), .bin .eql (.t 122) (.c (.d (.i .u8 4))), none⟩,
       ⟨(some 124), .mv (.t 123), none⟩,
       ⟨(some 125), .mv (.t 5), some (124, true)⟩,
       ⟨(some 126), .pick (.t 124) (.t 125) (.c (.d (.b false))), none⟩,
       ⟨(some 120), .mv (.t 126), none⟩] [])
     (.cond (.t 120) (.region (some [0, 3, 6, 8]) [⟨(some 5), .mv (.c (.d (.b false))), none⟩,
        ⟨(some 4), .mv (.c (.nilS)), none⟩] []) (.seq (.region (some [0, 3, 4, 5, 6, 8, 9]) [⟨(some 56), .faddr 0 (.t 9), none⟩,
        ⟨(some 57), .load false 1 (.t 56), none⟩,
        ⟨(some 58), .bin .eql (.t 57) (.c (.d (.i .u8 0))), none⟩] [])
      (.cond (.t 58) (.seq (.region (some []) [⟨(some 2), .mv (.c (.d (.b false))), none⟩] [])
       (.ret)) (.skip))))))))))
  (.seq (.region (some [0, 3, 4, 5, 6, 8]) [⟨(some 127), .load true 39 (.t 8), none⟩,
    ⟨none, .store 39 (.t 3) (.t 127), none⟩] [])
  (.seq (.region (some [0, 3, 4, 5, 6]) [⟨(some 128), .faddr 0 (.t 3), none⟩,
    ⟨(some 129), .iaddrA 6 5 (.t 128) (.c (.d (.i .i64 2))), none⟩,
    ⟨(some 130), .faddr 0 (.t 129), none⟩,
    ⟨(some 131), .load false 1 (.t 130), none⟩,
    ⟨(some 132), .mv (.t 5), none⟩,
    ⟨(some 133), .eq true (.sb) (.t 131) (.t 132), none⟩,
    ⟨(some 134), .mv (.t 133), none⟩,
    ⟨(some 135), .faddr 0 (.t 3), some (134, false)⟩,
    ⟨(some 136), .iaddrA 6 5 (.t 135) (.c (.d (.i .i64 2))), some (134, false)⟩,
    ⟨(some 137), .faddr 1 (.t 136), some (134, false)⟩,
    ⟨(some 138), .load false 1 (.t 137), some (134, false)⟩,
    ⟨(some 139), .mv (.t 4), some (134, false)⟩,
    ⟨(some 140), .b2s (.t 139), some (134, false)⟩,
    ⟨(some 141), .bin .neq (.t 138) (.t 140), some (134, false)⟩,
    ⟨(some 142), .pick (.t 134) (.c (.d (.b true))) (.t 141), none⟩] [])
  (.cond (.t 142) (.seq (.region (some []) [⟨(some 2), .mv (.c (.d (.b false))), none⟩] [])
   (.ret)) (.skip))))))))))
 (.region (some [0, 3, 4, 5, 6]) [⟨(some 20), .mv (.t 6), none⟩,
   ⟨(some 21), .bin .add (.t 20) (.c (.d (.i .i64 1))), none⟩,
   ⟨(some 6), .mv (.t 21), none⟩] []))
def c_paddocklaw6_ObjectsBytes : ACode :=
 .seq (.region (some [0]) [⟨(some 2), .mv (.c (.d (.b false))), none⟩] [])
 (.seq (.seq (.region (some [0]) [⟨(some 10), .call (.f F_paddocklaw6_known) [], none⟩,
   ⟨(some 11), .un .not (.t 10), none⟩] [])
 (.cond (.t 11) (.seq (.region (some []) [⟨(some 2), .mv (.c (.d (.b false))), none⟩] [])
  (.ret)) (.skip)))
 (.seq (.seq (.region (some [0]) [⟨(some 12), .mv (.t 0), none⟩,
   ⟨(some 13), .len false (.t 12), none⟩,
   ⟨(some 14), .bin .gtr (.t 13) (.c (.d (.i .i64 40))), none⟩] [])
 (.cond (.t 14) (.seq (.region (some []) [⟨(some 2), .mv (.c (.d (.b true))), none⟩] [])
  (.ret)) (.skip)))
 (.seq (.region (some [0]) [⟨(some 15), .build (List.map .d Pk.Base.zero.cs) [], none⟩,
   ⟨(some 3), .box (.c (.d (.agg Pk.Base.zero.cs))), none⟩,
   ⟨none, .store 39 (.t 3) (.t 15), none⟩] [])
 (.seq (.region (some [0, 3]) [⟨(some 4), .mv (.c (.nilS)), none⟩] [])
 (.seq (.region (some [0, 3, 4]) [⟨(some 5), .mv (.c (.d (.b false))), none⟩] [])
 (.seq (.seq (.region (some [0, 3, 4, 5]) [⟨(some 6), .mv (.c (.d (.i .i64 0))), none⟩] [])
 (.block 0 (.loop K_paddocklaw6_ObjectsBytes_2 [4, 1] l_paddocklaw6_ObjectsBytes_2)))
 (.seq (.region (some []) [⟨(some 2), .mv (.c (.d (.b true))), none⟩] [])
 (.ret))))))))
def a_paddocklaw6_ObjectsBytes : AFn := .code 1 c_paddocklaw6_ObjectsBytes [.tmp 2]
set_option maxRecDepth 100000 in
theorem k_paddocklaw6_ObjectsBytes : compF Try.prog h_paddocklaw6_ObjectsBytes F_paddocklaw6_ObjectsBytes = some a_paddocklaw6_ObjectsBytes := by kernel_rfl

/-- paddock/paddocklaw6.ObjectsBounds -/
def h_paddocklaw6_ObjectsBounds : Hints := { kp := [(0, [0, 1, 2]), (1, [0, 1, 2]), (2, []), (3, [0, 1, 2]), (4, [0, 2, 7]), (5, [0, 2, 7, 8]), (6, [0, 2, 8]), (7, [0, 2, 7, 8]), (8, [0, 2, 7, 8, 9]), (9, [0, 2, 7, 9, 11, 12]), (10, [9, 11, 12]), (11, [0, 2, 7, 11, 12]), (12, [0, 2, 11, 12, 13]), (13, [0, 11, 12]), (14, [11, 12, 13])], lkp := [], lth := [] }
def c_paddocklaw6_ObjectsBounds : ACode :=
 .seq (.region (some [0, 1, 2]) [⟨(some 6), .mv (.c (.d (.b false))), none⟩] [])
 (.seq (.seq (.region (some [0, 1, 2]) [⟨(some 14), .call (.f F_paddocklaw6_known) [], none⟩,
   ⟨(some 15), .un .not (.t 14), none⟩] [])
 (.cond (.t 15) (.seq (.region (some []) [⟨(some 6), .mv (.c (.d (.b false))), none⟩] [])
  (.ret)) (.skip)))
 (.seq (.region (some [0, 1, 2]) [⟨(some 16), .mv (.t 1), none⟩,
   ⟨(some 17), .bin .rem (.t 16) (.c (.d (.i .u8 17))), none⟩,
   ⟨(some 18), .conv .i64 (.t 17), none⟩,
   ⟨(some 7), .mv (.t 18), none⟩] [])
 (.seq (.region (some [0, 2, 7]) [⟨(some 19), .mv (.t 0), none⟩,
   ⟨(some 20), .mv (.t 7), none⟩,
   ⟨(some 21), .mksl 1 (.i .u8 0) (.t 20) (.t 20), none⟩,
   ⟨(some 22), .b2s (.t 21), none⟩,
   ⟨(some 23), .build [.d (.i .u8 0), .d (.i .u32 0), .d (.i .u8 0), .d (.i .u8 0), .d (.i .u8 0), .d (.s ⟨#[]⟩)] [(0, 1, .c (.d (.i .u8 1))), (1, 1, .c (.d (.i .u32 2))), (2, 1, .c (.d (.i .u8 1))), (4, 1, .t 19), (5, 1, .t 22)], none⟩,
   ⟨(some 8), .box (.c (.d (.agg [.i .u8 0, .i .u32 0, .i .u8 0, .i .u8 0, .i .u8 0, .s ⟨#[]⟩]))), none⟩,
   ⟨none, .store 6 (.t 8) (.t 23), none⟩] [])
 (.seq (.seq (.region (some [0, 2, 7, 8]) [⟨(some 24), .mv (.t 2), none⟩] [])
 (.cond (.t 24) (.region (some [0, 2, 8]) [⟨(some 25), .faddr 2 (.t 8), none⟩,
    ⟨none, .store 1 (.t 25) (.c (.d (.i .u8 2))), none⟩,
    ⟨(some 26), .faddr 5 (.t 8), none⟩,
    ⟨none, .store 1 (.t 26) (.c (.d (.s ⟨#[]⟩))), none⟩,
    ⟨(some 7), .mv (.c (.d (.i .i64 0))), none⟩] []) (.skip)))
 (.seq (.region (some [0, 2, 7, 8]) [⟨(some 28), .build (List.map .d Pk.Base.zero.cs) [], none⟩,
   ⟨(some 29), .build [.d (.i .u8 0), .d (.i .u32 0), .d (.i .u8 0), .d (.i .u8 0), .d (.i .u8 0), .d (.s ⟨#[]⟩)] [(0, 1, .c (.d (.i .u8 1))), (1, 1, .c (.d (.i .u32 1))), (2, 1, .c (.d (.i .u8 1))), (5, 1, .c (.d (.s ⟨#[97, 98]⟩)))], none⟩,
   ⟨(some 30), .call (.f F_objects_Do) [.t 28, .t 29], none⟩,
   ⟨(some 27), .mv (.t 30), none⟩,
   ⟨(some 31), .ext (.t 27) 0, none⟩,
   ⟨(some 32), .ext (.t 27) 1, none⟩,
   ⟨(some 9), .box (.c (.d (.agg Pk.Base.zero.cs))), none⟩,
   ⟨(some 10), .box (.c (.d (.agg [.i .u8 0, .s ⟨#[]⟩]))), none⟩,
   ⟨none, .store 39 (.t 9) (.t 31), none⟩,
   ⟨none, .store 2 (.t 10) (.t 32), none⟩] [])
 (.seq (.region (some [0, 2, 7, 8, 9]) [⟨(some 34), .load true 39 (.t 9), none⟩,
   ⟨(some 35), .load true 6 (.t 8), none⟩,
   ⟨(some 36), .call (.f F_objects_Do) [.t 34, .t 35], none⟩,
   ⟨(some 33), .mv (.t 36), none⟩,
   ⟨(some 37), .ext (.t 33) 0, none⟩,
   ⟨(some 38), .ext (.t 33) 1, none⟩,
   ⟨(some 11), .box (.c (.d (.agg Pk.Base.zero.cs))), none⟩,
   ⟨(some 12), .box (.c (.d (.agg [.i .u8 0, .s ⟨#[]⟩]))), none⟩,
   ⟨none, .store 39 (.t 11) (.t 37), none⟩,
   ⟨none, .store 2 (.t 12) (.t 38), none⟩] [])
 (.seq (.seq (.region (some [0, 2, 7, 9, 11, 12]) [⟨(some 39), .mv (.t 0), none⟩,
   ⟨(some 40), .conv .i64 (.t 39), none⟩,
   ⟨(some 41), .mv (.t 7), none⟩,
   ⟨(some 42), .bin .add (.t 40) (.t 41), none⟩,
   ⟨(some 43), .bin .gtr (.t 42) (.c (.d (.i .i64 16))), none⟩] [])
 (.cond (.t 43) (.seq (.region (some [9, 11, 12]) [⟨(some 44), .faddr 0 (.t 12), none⟩,
    ⟨(some 45), .load false 1 (.t 44), none⟩,
    ⟨(some 46), .bin .eql (.t 45) (.c (.d (.i .u8 2))), none⟩,
    ⟨(some 47), .mv (.t 46), none⟩,
    ⟨(some 48), .faddr 0 (.t 11), some (47, true)⟩,
    ⟨(some 49), .load true 30 (.t 48), some (47, true)⟩,
    ⟨(some 50), .faddr 0 (.t 9), some (47, true)⟩,
    ⟨(some 51), .load true 30 (.t 50), some (47, true)⟩,
    ⟨(some 52), .eq false Pk.Base_objs_ety (.t 49) (.t 51), some (47, true)⟩,
    ⟨(some 53), .pick (.t 47) (.t 52) (.c (.d (.b false))), none⟩,
    ⟨(some 54), .mv (.t 53), none⟩,
    ⟨(some 55), .faddr 30 (.t 11), some (54, true)⟩,
    ⟨(some 56), .iaddrA 3 3 (.t 55) (.c (.d (.i .i64 0))), some (54, true)⟩,
    ⟨(some 57), .faddr 0 (.t 56), some (54, true)⟩,
    ⟨(some 58), .load false 1 (.t 57), some (54, true)⟩,
    ⟨(some 59), .bin .eql (.t 58) (.c (.d (.i .u32 2))), some (54, true)⟩,
    ⟨(some 60), .pick (.t 54) (.t 59) (.c (.d (.b false))), none⟩,
    ⟨(some 61), .mv (.t 60), none⟩,
    ⟨(some 62), .faddr 30 (.t 11), some (61, true)⟩,
    ⟨(some 63), .iaddrA 3 3 (.t 62) (.c (.d (.i .i64 0))), some (61, true)⟩,
    ⟨(some 64), .faddr 1 (.t 63), some (61, true)⟩,
    ⟨(some 65), .load true 2 (.t 64), some (61, true)⟩,
    ⟨(some 66), .load true 2 (.t 12), some (61, true)⟩,
    ⟨(some 67), .eq false Pk.Res.ety (.t 65) (.t 66), some (61, true)⟩,
    ⟨(some 68), .pick (.t 61) (.t 67) (.c (.d (.b false))), none⟩,
    ⟨(some 6), .mv (.t 68), none⟩] [])
  (.ret)) (.skip)))
 (.seq (.region (some [0, 2, 7, 11, 12]) [⟨(some 69), .mv (.t 0), none⟩,
   ⟨(some 70), .conv .i64 (.t 69), none⟩,
   ⟨(some 71), .mv (.t 7), none⟩,
   ⟨(some 72), .bin .add (.t 70) (.t 71), none⟩,
   ⟨(some 73), .mm true [.c (.d (.i .i64 2)), .t 72], none⟩,
   ⟨(some 13), .mv (.t 73), none⟩] [])
 (.seq (.seq (.region (some [0, 2, 11, 12, 13]) [⟨(some 74), .mv (.t 2), none⟩] [])
 (.cond (.t 74) (.region (some [0, 11, 12]) [⟨(some 75), .mv (.t 0), none⟩,
    ⟨(some 76), .conv .i64 (.t 75), none⟩,
    ⟨(some 13), .mv (.t 76), none⟩] []) (.skip)))
 (.seq (.region (some [11, 12, 13]) [⟨(some 77), .faddr 0 (.t 12), none⟩,
   ⟨(some 78), .load false 1 (.t 77), none⟩,
   ⟨(some 79), .bin .eql (.t 78) (.c (.d (.i .u8 0))), none⟩,
   ⟨(some 80), .mv (.t 79), none⟩,
   ⟨(some 81), .faddr 0 (.t 11), some (80, true)⟩,
   ⟨(some 82), .iaddrA 6 5 (.t 81) (.c (.d (.i .i64 0))), some (80, true)⟩,
   ⟨(some 83), .faddr 1 (.t 82), some (80, true)⟩,
   ⟨(some 84), .load false 1 (.t 83), some (80, true)⟩,
   ⟨(some 85), .len true (.t 84), some (80, true)⟩,
   ⟨(some 86), .mv (.t 13), some (80, true)⟩,
   ⟨(some 87), .bin .eql (.t 85) (.t 86), some (80, true)⟩,
   ⟨(some 88), .pick (.t 80) (.t 87) (.c (.d (.b false))), none⟩,
   ⟨(some 6), .mv (.t 88), none⟩] [])
 (.ret)))))))))))
def a_paddocklaw6_ObjectsBounds : AFn := .code 3 c_paddocklaw6_ObjectsBounds [.tmp 6]
set_option maxRecDepth 100000 in
theorem k_paddocklaw6_ObjectsBounds : compF Try.prog h_paddocklaw6_ObjectsBounds F_paddocklaw6_ObjectsBounds = some a_paddocklaw6_ObjectsBounds := by kernel_rfl

/-- paddock/paddocklaw6.ObjectsAll -/
def h_paddocklaw6_ObjectsAll : Hints := { kp := [(0, [0]), (1, [0]), (2, []), (3, [0]), (4, []), (5, [0]), (6, [0, 3, 4]), (7, [0, 3, 4, 5]), (8, []), (9, [0, 3, 4, 5]), (10, [0, 3, 4, 5, 6]), (12, [0, 3, 4, 5, 6]), (13, [0, 3, 4, 5, 6, 7, 8]), (14, []), (15, [0, 3, 4, 5, 6, 7]), (11, [0, 3, 4, 5, 6]), (16, [3, 5])], lkp := [(10, [0, 3, 4, 5, 6])], lth := [] }
def K_paddocklaw6_ObjectsAll_0 : Option (List Nat) := (some [0, 3, 4, 5, 6])
def l_paddocklaw6_ObjectsAll_0 : ACode :=
 .seq (.seq (.region (some [0, 3, 4, 5, 6]) [⟨(some 26), .mv (.t 6), none⟩,
   ⟨(some 27), .mv (.t 0), none⟩,
   ⟨(some 28), .len false (.t 27), none⟩,
   ⟨(some 29), .bin .lss (.t 26) (.t 28), none⟩] [])
 (.cond (.t 29) (.skip) (.exit 0)))
 (.seq (.block 1 (.seq (.region (some [0, 3, 4, 5, 6]) [⟨(some 33), .load true 39 (.t 5), none⟩,
    ⟨(some 34), .mv (.t 0), none⟩,
    ⟨(some 35), .mv (.t 6), none⟩,
    ⟨(some 36), .iaddrS 6 (.t 34) (.t 35), none⟩,
    ⟨(some 37), .load true 6 (.t 36), none⟩,
    ⟨(some 38), .call (.f F_paddockref6_Do) [.t 33, .t 37], none⟩,
    ⟨(some 32), .mv (.t 38), none⟩,
    ⟨(some 39), .ext (.t 32) 0, none⟩,
    ⟨(some 40), .ext (.t 32) 1, none⟩,
    ⟨(some 7), .box (.c (.d (.agg Pk.Base.zero.cs))), none⟩,
    ⟨(some 8), .box (.c (.d (.agg [.i .u8 0, .s ⟨#[]⟩]))), none⟩,
    ⟨none, .store 39 (.t 7) (.t 39), none⟩,
    ⟨none, .store 2 (.t 8) (.t 40), none⟩] [(0, 4), (0, 9), (4, 9), (5, 9), (0, 10), (4, 10), (5, 10), (9, 10)])
  (.seq (.seq (.region (some [0, 3, 4, 5, 6, 7, 8]) [⟨(some 41), .mv (.t 4), none⟩,
    ⟨(some 42), .mv (.t 6), none⟩,
    ⟨(some 43), .iaddrS 2 (.t 41) (.t 42), none⟩,
    ⟨(some 44), .load true 2 (.t 43), none⟩,
    ⟨(some 45), .load true 2 (.t 8), none⟩,
    ⟨(some 46), .eq true Pk.Res.ety (.t 44) (.t 45), none⟩] [(3, 4)])
  (.cond (.t 46) (.seq (.region (some []) [⟨(some 2), .mv (.c (.d (.b false))), none⟩] [])
   (.ret)) (.skip)))
  (.region (some [0, 3, 4, 5, 6, 7]) [⟨(some 47), .load true 39 (.t 7), none⟩,
    ⟨none, .store 39 (.t 5) (.t 47), none⟩] []))))
 (.region (some [0, 3, 4, 5, 6]) [⟨(some 30), .mv (.t 6), none⟩,
   ⟨(some 31), .bin .add (.t 30) (.c (.d (.i .i64 1))), none⟩,
   ⟨(some 6), .mv (.t 31), none⟩] []))
def c_paddocklaw6_ObjectsAll : ACode :=
 .seq (.region (some [0]) [⟨(some 2), .mv (.c (.d (.b false))), none⟩] [])
 (.seq (.seq (.region (some [0]) [⟨(some 9), .call (.f F_paddocklaw6_known) [], none⟩,
   ⟨(some 10), .un .not (.t 9), none⟩] [])
 (.cond (.t 10) (.seq (.region (some []) [⟨(some 2), .mv (.c (.d (.b false))), none⟩] [])
  (.ret)) (.skip)))
 (.seq (.seq (.region (some [0]) [⟨(some 11), .mv (.t 0), none⟩,
   ⟨(some 12), .len false (.t 11), none⟩,
   ⟨(some 13), .bin .gtr (.t 12) (.c (.d (.i .i64 60))), none⟩] [])
 (.cond (.t 13) (.seq (.region (some []) [⟨(some 2), .mv (.c (.d (.b true))), none⟩] [])
  (.ret)) (.skip)))
 (.seq (.region (some [0]) [⟨(some 15), .build (List.map .d Pk.Base.zero.cs) [], none⟩,
   ⟨(some 16), .mv (.t 0), none⟩,
   ⟨(some 17), .call (.f F_objects_All) [.t 15, .t 16], none⟩,
   ⟨(some 14), .mv (.t 17), none⟩,
   ⟨(some 18), .ext (.t 14) 0, none⟩,
   ⟨(some 19), .ext (.t 14) 1, none⟩,
   ⟨(some 3), .box (.c (.d (.agg Pk.Base.zero.cs))), none⟩,
   ⟨none, .store 39 (.t 3) (.t 18), none⟩,
   ⟨(some 4), .mv (.t 19), none⟩] [])
 (.seq (.region (some [0, 3, 4]) [⟨(some 20), .build (List.map .d Pk.Base.zero.cs) [], none⟩,
   ⟨(some 5), .box (.c (.d (.agg Pk.Base.zero.cs))), none⟩,
   ⟨none, .store 39 (.t 5) (.t 20), none⟩] [])
 (.seq (.seq (.region (some [0, 3, 4, 5]) [⟨(some 21), .mv (.t 4), none⟩,
   ⟨(some 22), .len false (.t 21), none⟩,
   ⟨(some 23), .mv (.t 0), none⟩,
   ⟨(some 24), .len false (.t 23), none⟩,
   ⟨(some 25), .bin .neq (.t 22) (.t 24), none⟩] [])
 (.cond (.t 25) (.seq (.region (some []) [⟨(some 2), .mv (.c (.d (.b false))), none⟩] [])
  (.ret)) (.skip)))
 (.seq (.seq (.region (some [0, 3, 4, 5]) [⟨(some 6), .mv (.c (.d (.i .i64 0))), none⟩] [])
 (.block 0 (.loop K_paddocklaw6_ObjectsAll_0 [] l_paddocklaw6_ObjectsAll_0)))
 (.seq (.region (some [3, 5]) [⟨(some 48), .load true 39 (.t 3), none⟩,
   ⟨(some 49), .load true 39 (.t 5), none⟩,
   ⟨(some 50), .eq false Pk.Base.ety (.t 48) (.t 49), none⟩,
   ⟨(some 2), .mv (.t 50), none⟩] [])
 (.ret))))))))
def a_paddocklaw6_ObjectsAll : AFn := .code 1 c_paddocklaw6_ObjectsAll [.tmp 2]
set_option maxRecDepth 100000 in
theorem k_paddocklaw6_ObjectsAll : compF Try.prog h_paddocklaw6_ObjectsAll F_paddocklaw6_ObjectsAll = some a_paddocklaw6_ObjectsAll := by kernel_rfl

/-- paddock/paddocklaw6.ObjectsTwice -/
def h_paddocklaw6_ObjectsTwice : Hints := { kp := [(0, [0, 1]), (1, [0, 3]), (2, []), (3, [0, 3]), (4, []), (5, [0, 3]), (6, [3, 5]), (7, [3, 7, 8]), (8, [3, 7, 8, 9, 10]), (9, [3, 7, 8, 9, 10, 11, 12]), (10, [3]), (11, [3, 7]), (12, [3, 7, 13]), (13, [3, 7, 13]), (14, [3, 14]), (15, [14, 16, 17])], lkp := [], lth := [] }
def c_paddocklaw6_ObjectsTwice : ACode :=
 .seq (.region (some [0, 1]) [⟨(some 3), .box (.t 1), none⟩,
   ⟨(some 4), .mv (.c (.d (.b false))), none⟩] [])
 (.seq (.seq (.region (some [0, 3]) [⟨(some 18), .call (.f F_paddocklaw6_known) [], none⟩,
   ⟨(some 19), .un .not (.t 18), none⟩] [])
 (.cond (.t 19) (.seq (.region (some []) [⟨(some 4), .mv (.c (.d (.b false))), none⟩] [])
  (.ret)) (.skip)))
 (.seq (.seq (.region (some [0, 3]) [⟨(some 20), .mv (.t 0), none⟩,
   ⟨(some 21), .len false (.t 20), none⟩,
   ⟨(some 22), .bin .gtr (.t 21) (.c (.d (.i .i64 20))), none⟩,
   ⟨(some 23), .mv (.t 22), none⟩,
   ⟨(some 24), .load true 6 (.t 3), some (23, false)⟩,
   ⟨(some 25), .call (.f F_objects_Writes) [.t 24], some (23, false)⟩,
   ⟨(some 26), .un .not (.t 25), some (23, false)⟩,
   ⟨(some 27), .pick (.t 23) (.c (.d (.b true))) (.t 26), none⟩] [])
 (.cond (.t 27) (.seq (.region (some []) [⟨(some 4), .mv (.c (.d (.b true))), none⟩] [])
  (.ret)) (.skip)))
 (.seq (.region (some [0, 3]) [⟨(some 29), .build (List.map .d Pk.Base.zero.cs) [], none⟩,
   ⟨(some 30), .mv (.t 0), none⟩,
   ⟨(some 31), .call (.f F_objects_All) [.t 29, .t 30], none⟩,
   ⟨(some 28), .mv (.t 31), none⟩,
   ⟨(some 32), .ext (.t 28) 0, none⟩,
   ⟨(some 33), .ext (.t 28) 1, none⟩,
   ⟨(some 5), .box (.c (.d (.agg Pk.Base.zero.cs))), none⟩,
   ⟨none, .store 39 (.t 5) (.t 32), none⟩,
   ⟨(some 6), .mv (.t 33), none⟩] [])
 (.seq (.region (some [3, 5]) [⟨(some 35), .load true 39 (.t 5), none⟩,
   ⟨(some 36), .load true 6 (.t 3), none⟩,
   ⟨(some 37), .call (.f F_objects_Do) [.t 35, .t 36], none⟩,
   ⟨(some 34), .mv (.t 37), none⟩,
   ⟨(some 38), .ext (.t 34) 0, none⟩,
   ⟨(some 39), .ext (.t 34) 1, none⟩,
   ⟨(some 7), .box (.c (.d (.agg Pk.Base.zero.cs))), none⟩,
   ⟨(some 8), .box (.c (.d (.agg [.i .u8 0, .s ⟨#[]⟩]))), none⟩,
   ⟨none, .store 39 (.t 7) (.t 38), none⟩,
   ⟨none, .store 2 (.t 8) (.t 39), none⟩] [])
 (.seq (.region (some [3, 7, 8]) [⟨(some 41), .load true 39 (.t 7), none⟩,
   ⟨(some 42), .load true 6 (.t 3), none⟩,
   ⟨(some 43), .call (.f F_objects_Do) [.t 41, .t 42], none⟩,
   ⟨(some 40), .mv (.t 43), none⟩,
   ⟨(some 44), .ext (.t 40) 0, none⟩,
   ⟨(some 45), .ext (.t 40) 1, none⟩,
   ⟨(some 9), .box (.c (.d (.agg Pk.Base.zero.cs))), none⟩,
   ⟨(some 10), .box (.c (.d (.agg [.i .u8 0, .s ⟨#[]⟩]))), none⟩,
   ⟨none, .store 39 (.t 9) (.t 44), none⟩,
   ⟨none, .store 2 (.t 10) (.t 45), none⟩] [])
 (.seq (.region (some [3, 7, 8, 9, 10]) [⟨(some 47), .load true 39 (.t 7), none⟩,
   ⟨(some 48), .load true 6 (.t 3), none⟩,
   ⟨(some 49), .call (.f F_objects_Seen) [.t 47, .t 48], none⟩,
   ⟨(some 46), .mv (.t 49), none⟩,
   ⟨(some 50), .ext (.t 46) 0, none⟩,
   ⟨(some 51), .ext (.t 46) 1, none⟩,
   ⟨(some 11), .box (.c (.d (.agg [.i .u8 0, .s ⟨#[]⟩]))), none⟩,
   ⟨none, .store 2 (.t 11) (.t 50), none⟩,
   ⟨(some 12), .mv (.t 51), none⟩] [])
 (.seq (.seq (.region (some [3, 7, 8, 9, 10, 11, 12]) [⟨(some 52), .load true 39 (.t 7), none⟩,
   ⟨(some 53), .load true 39 (.t 9), none⟩,
   ⟨(some 54), .eq true Pk.Base.ety (.t 52) (.t 53), none⟩,
   ⟨(some 55), .mv (.t 54), none⟩,
   ⟨(some 56), .load true 2 (.t 10), some (55, false)⟩,
   ⟨(some 57), .load true 2 (.t 8), some (55, false)⟩,
   ⟨(some 58), .eq true Pk.Res.ety (.t 56) (.t 57), some (55, false)⟩,
   ⟨(some 59), .pick (.t 55) (.c (.d (.b true))) (.t 58), none⟩,
   ⟨(some 60), .mv (.t 59), none⟩,
   ⟨(some 61), .mv (.t 12), some (60, false)⟩,
   ⟨(some 62), .un .not (.t 61), some (60, false)⟩,
   ⟨(some 63), .pick (.t 60) (.c (.d (.b true))) (.t 62), none⟩,
   ⟨(some 64), .mv (.t 63), none⟩,
   ⟨(some 65), .load true 2 (.t 11), some (64, false)⟩,
   ⟨(some 66), .load true 2 (.t 8), some (64, false)⟩,
   ⟨(some 67), .eq true Pk.Res.ety (.t 65) (.t 66), some (64, false)⟩,
   ⟨(some 68), .pick (.t 64) (.c (.d (.b true))) (.t 67), none⟩,
   ⟨(some 69), .mv (.t 68), none⟩,
   ⟨(some 70), .faddr 1 (.t 3), some (69, false)⟩,
   ⟨(some 71), .load false 1 (.t 70), some (69, false)⟩,
   ⟨(some 72), .bin .eql (.t 71) (.c (.d (.i .u32 4294967295))), some (69, false)⟩,
   ⟨(some 73), .pick (.t 69) (.c (.d (.b true))) (.t 72), none⟩] [])
 (.cond (.t 73) (.seq (.region (some [3]) [⟨(some 74), .faddr 1 (.t 3), none⟩,
    ⟨(some 75), .load false 1 (.t 74), none⟩,
    ⟨(some 76), .bin .eql (.t 75) (.c (.d (.i .u32 4294967295))), none⟩,
    ⟨(some 4), .mv (.t 76), none⟩] [])
  (.ret)) (.skip)))
 (.seq (.region (some [3, 7]) [⟨(some 77), .load true 6 (.t 3), none⟩,
   ⟨(some 13), .box (.c (.d (.agg [.i .u8 0, .i .u32 0, .i .u8 0, .i .u8 0, .i .u8 0, .s ⟨#[]⟩]))), none⟩,
   ⟨none, .store 6 (.t 13) (.t 77), none⟩] [])
 (.seq (.region (some [3, 7, 13]) [⟨(some 78), .faddr 1 (.t 3), none⟩,
   ⟨(some 79), .load false 1 (.t 78), none⟩,
   ⟨(some 80), .bin .add (.t 79) (.c (.d (.i .u32 1))), none⟩,
   ⟨(some 81), .faddr 1 (.t 13), none⟩,
   ⟨none, .store 1 (.t 81) (.t 80), none⟩] [])
 (.seq (.region (some [3, 7, 13]) [⟨(some 83), .load true 39 (.t 7), none⟩,
   ⟨(some 84), .load true 6 (.t 13), none⟩,
   ⟨(some 85), .call (.f F_objects_Do) [.t 83, .t 84], none⟩,
   ⟨(some 82), .mv (.t 85), none⟩,
   ⟨(some 86), .ext (.t 82) 0, none⟩,
   ⟨(some 87), .ext (.t 82) 1, none⟩,
   ⟨(some 14), .box (.c (.d (.agg Pk.Base.zero.cs))), none⟩,
   ⟨(some 15), .box (.c (.d (.agg [.i .u8 0, .s ⟨#[]⟩]))), none⟩,
   ⟨none, .store 39 (.t 14) (.t 86), none⟩,
   ⟨none, .store 2 (.t 15) (.t 87), none⟩] [])
 (.seq (.region (some [3, 14]) [⟨(some 89), .load true 39 (.t 14), none⟩,
   ⟨(some 90), .load true 6 (.t 3), none⟩,
   ⟨(some 91), .call (.f F_objects_Do) [.t 89, .t 90], none⟩,
   ⟨(some 88), .mv (.t 91), none⟩,
   ⟨(some 92), .ext (.t 88) 0, none⟩,
   ⟨(some 93), .ext (.t 88) 1, none⟩,
   ⟨(some 16), .box (.c (.d (.agg Pk.Base.zero.cs))), none⟩,
   ⟨(some 17), .box (.c (.d (.agg [.i .u8 0, .s ⟨#[]⟩]))), none⟩,
   ⟨none, .store 39 (.t 16) (.t 92), none⟩,
   ⟨none, .store 2 (.t 17) (.t 93), none⟩] [])
 (.seq (.region (some [14, 16, 17]) [⟨(some 94), .load true 39 (.t 16), none⟩,
   ⟨(some 95), .load true 39 (.t 14), none⟩,
   ⟨(some 96), .eq false Pk.Base.ety (.t 94) (.t 95), none⟩,
   ⟨(some 97), .mv (.t 96), none⟩,
   ⟨(some 98), .faddr 0 (.t 17), some (97, true)⟩,
   ⟨(some 99), .load false 1 (.t 98), some (97, true)⟩,
   ⟨(some 100), .bin .eql (.t 99) (.c (.d (.i .u8 3))), some (97, true)⟩,
   ⟨(some 101), .pick (.t 97) (.t 100) (.c (.d (.b false))), none⟩,
   ⟨(some 4), .mv (.t 101), none⟩] [])
 (.ret)))))))))))))
def a_paddocklaw6_ObjectsTwice : AFn := .code 2 c_paddocklaw6_ObjectsTwice [.tmp 4]
set_option maxRecDepth 100000 in
theorem k_paddocklaw6_ObjectsTwice : compF Try.prog h_paddocklaw6_ObjectsTwice F_paddocklaw6_ObjectsTwice = some a_paddocklaw6_ObjectsTwice := by kernel_rfl

/-- paddock/paddocklaw6.ObjectsApart -/
def h_paddocklaw6_ObjectsApart : Hints := { kp := [(0, [0, 1]), (1, [0, 3]), (2, []), (3, [0, 3]), (4, []), (5, [0, 3]), (6, [3, 5]), (7, [3, 5, 7, 8]), (8, [5, 7, 8]), (9, [3, 5, 7, 8]), (10, [3, 5, 7, 8, 9]), (12, [3, 5, 7, 8, 9]), (13, []), (11, [3, 5, 7, 8, 9]), (14, [3, 5, 7, 8]), (15, [3, 5, 7, 8, 10]), (17, [3, 5, 7, 8, 10]), (18, []), (16, [3, 5, 7, 8, 10]), (19, [3, 5, 7, 8])], lkp := [(10, [3, 5, 7, 8, 9]), (15, [3, 5, 7, 8, 10])], lth := [] }
def K_paddocklaw6_ObjectsApart_0 : Option (List Nat) := (some [3, 5, 7, 8, 9])
def l_paddocklaw6_ObjectsApart_0 : ACode :=
 .seq (.seq (.region (some [3, 5, 7, 8, 9]) [⟨(some 39), .mv (.t 9), none⟩,
   ⟨(some 40), .bin .lss (.t 39) (.c (.d (.i .i64 6))), none⟩] [])
 (.cond (.t 40) (.skip) (.exit 0)))
 (.seq (.block 1 (.seq (.region (some [3, 5, 7, 8, 9]) [⟨(some 43), .mv (.t 9), none⟩,
    ⟨(some 44), .faddr 3 (.t 3), none⟩,
    ⟨(some 45), .load false 1 (.t 44), none⟩,
    ⟨(some 46), .conv .i64 (.t 45), none⟩,
    ⟨(some 47), .bin .neq (.t 43) (.t 46), none⟩,
    ⟨(some 48), .mv (.t 47), none⟩,
    ⟨(some 49), .mv (.t 9), some (48, true)⟩,
    ⟨(some 50), .faddr 0 (.t 7), some (48, true)⟩,
    ⟨(some 51), .iaddrA 6 5 (.t 50) (.t 49), some (48, true)⟩,
    ⟨(some 52), .load true 5 (.t 51), some (48, true)⟩,
    ⟨(some 53), .mv (.t 9), some (48, true)⟩,
    ⟨(some 54), .faddr 0 (.t 5), some (48, true)⟩,
    ⟨(some 55), .iaddrA 6 5 (.t 54) (.t 53), some (48, true)⟩,
    ⟨(some 56), .load true 5 (.t 55), some (48, true)⟩,
    ⟨(some 57), .eq true Pk.Objt.ety (.t 52) (.t 56), some (48, true)⟩,
    ⟨(some 58), .pick (.t 48) (.t 57) (.c (.d (.b false))), none⟩] [(9, 13)])
  (.cond (.t 58) (.seq (.region (some []) [⟨(some 4), .mv (.c (.d (.b false))), none⟩] [])
   (.ret)) (.skip))))
 (.region (some [3, 5, 7, 8, 9]) [⟨(some 41), .mv (.t 9), none⟩,
   ⟨(some 42), .bin .add (.t 41) (.c (.d (.i .i64 1))), none⟩,
   ⟨(some 9), .mv (.t 42), none⟩] []))
def K_paddocklaw6_ObjectsApart_1 : Option (List Nat) := (some [3, 5, 7, 8, 10])
def l_paddocklaw6_ObjectsApart_1 : ACode :=
 .seq (.seq (.region (some [3, 5, 7, 8, 10]) [⟨(some 59), .mv (.t 10), none⟩,
   ⟨(some 60), .bin .lss (.t 59) (.c (.d (.i .i64 3))), none⟩] [])
 (.cond (.t 60) (.skip) (.exit 2)))
 (.seq (.block 3 (.seq (.region (some [3, 5, 7, 8, 10]) [⟨(some 63), .mv (.t 10), none⟩,
    ⟨(some 64), .faddr 0 (.t 3), none⟩,
    ⟨(some 65), .load false 1 (.t 64), none⟩,
    ⟨(some 66), .conv .i64 (.t 65), none⟩,
    ⟨(some 67), .bin .sub (.t 66) (.c (.d (.i .i64 1))), none⟩,
    ⟨(some 68), .bin .neq (.t 63) (.t 67), none⟩,
    ⟨(some 69), .mv (.t 68), none⟩,
    ⟨(some 70), .mv (.t 10), some (69, true)⟩,
    ⟨(some 71), .faddr 30 (.t 7), some (69, true)⟩,
    ⟨(some 72), .iaddrA 3 3 (.t 71) (.t 70), some (69, true)⟩,
    ⟨(some 73), .load true 3 (.t 72), some (69, true)⟩,
    ⟨(some 74), .mv (.t 10), some (69, true)⟩,
    ⟨(some 75), .faddr 30 (.t 5), some (69, true)⟩,
    ⟨(some 76), .iaddrA 3 3 (.t 75) (.t 74), some (69, true)⟩,
    ⟨(some 77), .load true 3 (.t 76), some (69, true)⟩,
    ⟨(some 78), .eq true Pk.Last.ety (.t 73) (.t 77), some (69, true)⟩,
    ⟨(some 79), .pick (.t 69) (.t 78) (.c (.d (.b false))), none⟩] [(10, 14)])
  (.cond (.t 79) (.seq (.region (some []) [⟨(some 4), .mv (.c (.d (.b false))), none⟩] [])
   (.ret)) (.skip))))
 (.region (some [3, 5, 7, 8, 10]) [⟨(some 61), .mv (.t 10), none⟩,
   ⟨(some 62), .bin .add (.t 61) (.c (.d (.i .i64 1))), none⟩,
   ⟨(some 10), .mv (.t 62), none⟩] []))
def c_paddocklaw6_ObjectsApart : ACode :=
 .seq (.region (some [0, 1]) [⟨(some 3), .box (.t 1), none⟩,
   ⟨(some 4), .mv (.c (.d (.b false))), none⟩] [])
 (.seq (.seq (.region (some [0, 3]) [⟨(some 11), .call (.f F_paddocklaw6_known) [], none⟩,
   ⟨(some 12), .un .not (.t 11), none⟩] [])
 (.cond (.t 12) (.seq (.region (some []) [⟨(some 4), .mv (.c (.d (.b false))), none⟩] [])
  (.ret)) (.skip)))
 (.seq (.seq (.region (some [0, 3]) [⟨(some 13), .mv (.t 0), none⟩,
   ⟨(some 14), .len false (.t 13), none⟩,
   ⟨(some 15), .bin .gtr (.t 14) (.c (.d (.i .i64 20))), none⟩] [])
 (.cond (.t 15) (.seq (.region (some []) [⟨(some 4), .mv (.c (.d (.b true))), none⟩] [])
  (.ret)) (.skip)))
 (.seq (.region (some [0, 3]) [⟨(some 17), .build (List.map .d Pk.Base.zero.cs) [], none⟩,
   ⟨(some 18), .mv (.t 0), none⟩,
   ⟨(some 19), .call (.f F_objects_All) [.t 17, .t 18], none⟩,
   ⟨(some 16), .mv (.t 19), none⟩,
   ⟨(some 20), .ext (.t 16) 0, none⟩,
   ⟨(some 21), .ext (.t 16) 1, none⟩,
   ⟨(some 5), .box (.c (.d (.agg Pk.Base.zero.cs))), none⟩,
   ⟨none, .store 39 (.t 5) (.t 20), none⟩,
   ⟨(some 6), .mv (.t 21), none⟩] [])
 (.seq (.region (some [3, 5]) [⟨(some 23), .load true 39 (.t 5), none⟩,
   ⟨(some 24), .load true 6 (.t 3), none⟩,
   ⟨(some 25), .call (.f F_objects_Do) [.t 23, .t 24], none⟩,
   ⟨(some 22), .mv (.t 25), none⟩,
   ⟨(some 26), .ext (.t 22) 0, none⟩,
   ⟨(some 27), .ext (.t 22) 1, none⟩,
   ⟨(some 7), .box (.c (.d (.agg Pk.Base.zero.cs))), none⟩,
   ⟨(some 8), .box (.c (.d (.agg [.i .u8 0, .s ⟨#[]⟩]))), none⟩,
   ⟨none, .store 39 (.t 7) (.t 26), none⟩,
   ⟨none, .store 2 (.t 8) (.t 27), none⟩] [])
 (.seq (.seq (.region (some [3, 5, 7, 8]) [⟨(some 28), .load true 6 (.t 3), none⟩,
   ⟨(some 29), .call (.f F_objects_Writes) [.t 28], none⟩,
   ⟨(some 30), .un .not (.t 29), none⟩] [])
 (.cond (.t 30) (.seq (.region (some [5, 7, 8]) [⟨(some 31), .load true 39 (.t 7), none⟩,
    ⟨(some 32), .load true 39 (.t 5), none⟩,
    ⟨(some 33), .eq false Pk.Base.ety (.t 31) (.t 32), none⟩,
    ⟨(some 34), .mv (.t 33), none⟩,
    ⟨(some 35), .faddr 0 (.t 8), some (34, true)⟩,
    ⟨(some 36), .load false 1 (.t 35), some (34, true)⟩,
    ⟨(some 37), .bin .eql (.t 36) (.c (.d (.i .u8 3))), some (34, true)⟩,
    ⟨(some 38), .pick (.t 34) (.t 37) (.c (.d (.b false))), none⟩,
    ⟨(some 4), .mv (.t 38), none⟩] [])
  (.ret)) (.skip)))
 (.seq (.seq (.region (some [3, 5, 7, 8]) [⟨(some 9), .mv (.c (.d (.i .i64 0))), none⟩] [])
 (.block 0 (.loop K_paddocklaw6_ObjectsApart_0 [] l_paddocklaw6_ObjectsApart_0)))
 (.seq (.seq (.region (some [3, 5, 7, 8]) [⟨(some 10), .mv (.c (.d (.i .i64 0))), none⟩] [])
 (.block 2 (.loop K_paddocklaw6_ObjectsApart_1 [] l_paddocklaw6_ObjectsApart_1)))
 (.seq (.region (some [3, 5, 7, 8]) [⟨(some 80), .faddr 0 (.t 8), none⟩,
   ⟨(some 81), .load false 1 (.t 80), none⟩,
   ⟨(some 82), .bin .eql (.t 81) (.c (.d (.i .u8 0))), none⟩,
   ⟨(some 83), .mv (.t 82), none⟩,
   ⟨(some 84), .faddr 0 (.t 7), some (83, false)⟩,
   ⟨(some 85), .load true 30 (.t 84), some (83, false)⟩,
   ⟨(some 86), .faddr 0 (.t 5), some (83, false)⟩,
   ⟨(some 87), .load true 30 (.t 86), some (83, false)⟩,
   ⟨(some 88), .eq false Pk.Base_objs_ety (.t 85) (.t 87), some (83, false)⟩,
   ⟨(some 89), .pick (.t 83) (.c (.d (.b true))) (.t 88), none⟩,
   ⟨(some 90), .mv (.t 89), none⟩,
   ⟨(some 91), .load true 39 (.t 5), some (90, false)⟩,
   ⟨(some 92), .load true 6 (.t 3), some (90, false)⟩,
   ⟨(some 93), .call (.f F_paddocklaw6_objectsSeen) [.t 91, .t 92], some (90, false)⟩,
   ⟨(some 94), .pick (.t 90) (.c (.d (.b true))) (.t 93), none⟩,
   ⟨(some 4), .mv (.t 94), none⟩] [])
 (.ret)))))))))
def a_paddocklaw6_ObjectsApart : AFn := .code 2 c_paddocklaw6_ObjectsApart [.tmp 4]
set_option maxRecDepth 100000 in
theorem k_paddocklaw6_ObjectsApart : compF Try.prog h_paddocklaw6_ObjectsApart F_paddocklaw6_ObjectsApart = some a_paddocklaw6_ObjectsApart := by kernel_rfl

/-- paddock/paddocklaw6.ObjectsEither -/
def h_paddocklaw6_ObjectsEither : Hints := { kp := [(0, [0, 1, 2]), (1, [0, 4, 5]), (2, []), (3, [0, 4, 5]), (4, []), (5, [0, 4, 5]), (6, [4, 5, 7]), (7, [4, 5, 7, 9, 10]), (8, [9, 10, 11, 12])], lkp := [], lth := [] }
def c_paddocklaw6_ObjectsEither : ACode :=
 .seq (.region (some [0, 1, 2]) [⟨(some 4), .box (.t 1), none⟩,
   ⟨(some 5), .box (.t 2), none⟩,
   ⟨(some 6), .mv (.c (.d (.b false))), none⟩] [])
 (.seq (.seq (.region (some [0, 4, 5]) [⟨(some 13), .call (.f F_paddocklaw6_known) [], none⟩,
   ⟨(some 14), .un .not (.t 13), none⟩] [])
 (.cond (.t 14) (.seq (.region (some []) [⟨(some 6), .mv (.c (.d (.b false))), none⟩] [])
  (.ret)) (.skip)))
 (.seq (.seq (.region (some [0, 4, 5]) [⟨(some 15), .mv (.t 0), none⟩,
   ⟨(some 16), .len false (.t 15), none⟩,
   ⟨(some 17), .bin .gtr (.t 16) (.c (.d (.i .i64 20))), none⟩,
   ⟨(some 18), .mv (.t 17), none⟩,
   ⟨(some 19), .load true 6 (.t 4), some (18, false)⟩,
   ⟨(some 20), .call (.f F_objects_Writes) [.t 19], some (18, false)⟩,
   ⟨(some 21), .un .not (.t 20), some (18, false)⟩,
   ⟨(some 22), .pick (.t 18) (.c (.d (.b true))) (.t 21), none⟩,
   ⟨(some 23), .mv (.t 22), none⟩,
   ⟨(some 24), .load true 6 (.t 5), some (23, false)⟩,
   ⟨(some 25), .call (.f F_objects_Writes) [.t 24], some (23, false)⟩,
   ⟨(some 26), .un .not (.t 25), some (23, false)⟩,
   ⟨(some 27), .pick (.t 23) (.c (.d (.b true))) (.t 26), none⟩,
   ⟨(some 28), .mv (.t 27), none⟩,
   ⟨(some 29), .faddr 0 (.t 4), some (28, false)⟩,
   ⟨(some 30), .load false 1 (.t 29), some (28, false)⟩,
   ⟨(some 31), .faddr 0 (.t 5), some (28, false)⟩,
   ⟨(some 32), .load false 1 (.t 31), some (28, false)⟩,
   ⟨(some 33), .bin .eql (.t 30) (.t 32), some (28, false)⟩,
   ⟨(some 34), .pick (.t 28) (.c (.d (.b true))) (.t 33), none⟩,
   ⟨(some 35), .mv (.t 34), none⟩,
   ⟨(some 36), .faddr 3 (.t 4), some (35, false)⟩,
   ⟨(some 37), .load false 1 (.t 36), some (35, false)⟩,
   ⟨(some 38), .faddr 3 (.t 5), some (35, false)⟩,
   ⟨(some 39), .load false 1 (.t 38), some (35, false)⟩,
   ⟨(some 40), .bin .eql (.t 37) (.t 39), some (35, false)⟩,
   ⟨(some 41), .pick (.t 35) (.c (.d (.b true))) (.t 40), none⟩] [])
 (.cond (.t 41) (.seq (.region (some []) [⟨(some 6), .mv (.c (.d (.b true))), none⟩] [])
  (.ret)) (.skip)))
 (.seq (.region (some [0, 4, 5]) [⟨(some 43), .build (List.map .d Pk.Base.zero.cs) [], none⟩,
   ⟨(some 44), .mv (.t 0), none⟩,
   ⟨(some 45), .call (.f F_objects_All) [.t 43, .t 44], none⟩,
   ⟨(some 42), .mv (.t 45), none⟩,
   ⟨(some 46), .ext (.t 42) 0, none⟩,
   ⟨(some 47), .ext (.t 42) 1, none⟩,
   ⟨(some 7), .box (.c (.d (.agg Pk.Base.zero.cs))), none⟩,
   ⟨none, .store 39 (.t 7) (.t 46), none⟩,
   ⟨(some 8), .mv (.t 47), none⟩] [])
 (.seq (.region (some [4, 5, 7]) [⟨(some 49), .load true 39 (.t 7), none⟩,
   ⟨(some 50), .load true 6 (.t 4), none⟩,
   ⟨(some 51), .load true 6 (.t 5), none⟩,
   ⟨(some 52), .bsl 6 [.t 50, .t 51], none⟩,
   ⟨(some 53), .call (.f F_objects_All) [.t 49, .t 52], none⟩,
   ⟨(some 48), .mv (.t 53), none⟩,
   ⟨(some 54), .ext (.t 48) 0, none⟩,
   ⟨(some 55), .ext (.t 48) 1, none⟩,
   ⟨(some 9), .box (.c (.d (.agg Pk.Base.zero.cs))), none⟩,
   ⟨none, .store 39 (.t 9) (.t 54), none⟩,
   ⟨(some 10), .mv (.t 55), none⟩] [])
 (.seq (.region (some [4, 5, 7, 9, 10]) [⟨(some 57), .load true 39 (.t 7), none⟩,
   ⟨(some 58), .load true 6 (.t 5), none⟩,
   ⟨(some 59), .load true 6 (.t 4), none⟩,
   ⟨(some 60), .bsl 6 [.t 58, .t 59], none⟩,
   ⟨(some 61), .call (.f F_objects_All) [.t 57, .t 60], none⟩,
   ⟨(some 56), .mv (.t 61), none⟩,
   ⟨(some 62), .ext (.t 56) 0, none⟩,
   ⟨(some 63), .ext (.t 56) 1, none⟩,
   ⟨(some 11), .box (.c (.d (.agg Pk.Base.zero.cs))), none⟩,
   ⟨none, .store 39 (.t 11) (.t 62), none⟩,
   ⟨(some 12), .mv (.t 63), none⟩] [])
 (.seq (.region (some [9, 10, 11, 12]) [⟨(some 64), .load true 39 (.t 9), none⟩,
   ⟨(some 65), .load true 39 (.t 11), none⟩,
   ⟨(some 66), .eq false Pk.Base.ety (.t 64) (.t 65), none⟩,
   ⟨(some 67), .mv (.t 66), none⟩,
   ⟨(some 68), .mv (.t 10), some (67, true)⟩,
   ⟨(some 69), .iaddrS 2 (.t 68) (.c (.d (.i .i64 0))), some (67, true)⟩,
   ⟨(some 70), .load true 2 (.t 69), some (67, true)⟩,
   ⟨(some 71), .mv (.t 12), some (67, true)⟩,
   ⟨(some 72), .iaddrS 2 (.t 71) (.c (.d (.i .i64 1))), some (67, true)⟩,
   ⟨(some 73), .load true 2 (.t 72), some (67, true)⟩,
   ⟨(some 74), .eq false Pk.Res.ety (.t 70) (.t 73), some (67, true)⟩,
   ⟨(some 75), .pick (.t 67) (.t 74) (.c (.d (.b false))), none⟩,
   ⟨(some 76), .mv (.t 75), none⟩,
   ⟨(some 77), .mv (.t 10), some (76, true)⟩,
   ⟨(some 78), .iaddrS 2 (.t 77) (.c (.d (.i .i64 1))), some (76, true)⟩,
   ⟨(some 79), .load true 2 (.t 78), some (76, true)⟩,
   ⟨(some 80), .mv (.t 12), some (76, true)⟩,
   ⟨(some 81), .iaddrS 2 (.t 80) (.c (.d (.i .i64 0))), some (76, true)⟩,
   ⟨(some 82), .load true 2 (.t 81), some (76, true)⟩,
   ⟨(some 83), .eq false Pk.Res.ety (.t 79) (.t 82), some (76, true)⟩,
   ⟨(some 84), .pick (.t 76) (.t 83) (.c (.d (.b false))), none⟩,
   ⟨(some 6), .mv (.t 84), none⟩] [(0, 1), (6, 9), (15, 18)])
 (.ret)))))))
def a_paddocklaw6_ObjectsEither : AFn := .code 3 c_paddocklaw6_ObjectsEither [.tmp 6]
set_option maxRecDepth 100000 in
theorem k_paddocklaw6_ObjectsEither : compF Try.prog h_paddocklaw6_ObjectsEither F_paddocklaw6_ObjectsEither = some a_paddocklaw6_ObjectsEither := by kernel_rfl

/-- paddock/paddocklaw6.known -/
def h_paddocklaw6_known : Hints := { kp := [(0, []), (1, []), (2, [1, 2]), (3, [1, 2, 4])], lkp := [], lth := [] }
def c_paddocklaw6_known : ACode :=
 .seq (.region (some []) [⟨(some 0), .mv (.c (.d (.b false))), none⟩] [])
 (.seq (.region (some []) [⟨(some 6), .build (List.map .d Pk.Base.zero.cs) [], none⟩,
   ⟨(some 7), .build [.d (.i .u8 0), .d (.i .u32 0), .d (.i .u8 0), .d (.i .u8 0), .d (.i .u8 0), .d (.s ⟨#[]⟩)] [(0, 1, .c (.d (.i .u8 1))), (1, 1, .c (.d (.i .u32 1))), (2, 1, .c (.d (.i .u8 1))), (4, 1, .c (.d (.i .u8 1))), (5, 1, .c (.d (.s ⟨#[97, 98]⟩)))], none⟩,
   ⟨(some 8), .call (.f F_objects_Do) [.t 6, .t 7], none⟩,
   ⟨(some 5), .mv (.t 8), none⟩,
   ⟨(some 9), .ext (.t 5) 0, none⟩,
   ⟨(some 10), .ext (.t 5) 1, none⟩,
   ⟨(some 1), .box (.c (.d (.agg Pk.Base.zero.cs))), none⟩,
   ⟨(some 2), .box (.c (.d (.agg [.i .u8 0, .s ⟨#[]⟩]))), none⟩,
   ⟨none, .store 39 (.t 1) (.t 9), none⟩,
   ⟨none, .store 2 (.t 2) (.t 10), none⟩] [])
 (.seq (.region (some [1, 2]) [⟨(some 12), .load true 39 (.t 1), none⟩,
   ⟨(some 13), .build [.d (.i .u8 0), .d (.i .u32 0), .d (.i .u8 0), .d (.i .u8 0), .d (.i .u8 0), .d (.s ⟨#[]⟩)] [(0, 1, .c (.d (.i .u8 2))), (1, 1, .c (.d (.i .u32 1))), (2, 1, .c (.d (.i .u8 4))), (3, 1, .c (.d (.i .u8 3)))], none⟩,
   ⟨(some 14), .call (.f F_objects_Do) [.t 12, .t 13], none⟩,
   ⟨(some 11), .mv (.t 14), none⟩,
   ⟨(some 15), .ext (.t 11) 0, none⟩,
   ⟨(some 16), .ext (.t 11) 1, none⟩,
   ⟨(some 3), .box (.c (.d (.agg Pk.Base.zero.cs))), none⟩,
   ⟨(some 4), .box (.c (.d (.agg [.i .u8 0, .s ⟨#[]⟩]))), none⟩,
   ⟨none, .store 39 (.t 3) (.t 15), none⟩,
   ⟨none, .store 2 (.t 4) (.t 16), none⟩] [])
 (.seq (.region (some [1, 2, 4]) [⟨(some 17), .faddr 0 (.t 2), none⟩,
   ⟨(some 18), .load false 1 (.t 17), none⟩,
   ⟨(some 19), .bin .eql (.t 18) (.c (.d (.i .u8 0))), none⟩,
   ⟨(some 20), .mv (.t 19), none⟩,
   ⟨(some 21), .faddr 0 (.t 1), some (20, true)⟩,
   ⟨(some 22), .iaddrA 6 5 (.t 21) (.c (.d (.i .i64 0))), some (20, true)⟩,
   ⟨(some 23), .faddr 0 (.t 22), some (20, true)⟩,
   ⟨(some 24), .load false 1 (.t 23), some (20, true)⟩,
   ⟨(some 25), .pick (.t 20) (.t 24) (.c (.d (.b false))), none⟩,
   ⟨(some 26), .mv (.t 25), none⟩,
   ⟨(some 27), .faddr 0 (.t 1), some (26, true)⟩,
   ⟨(some 28), .iaddrA 6 5 (.t 27) (.c (.d (.i .i64 0))), some (26, true)⟩,
   ⟨(some 29), .faddr 1 (.t 28), some (26, true)⟩,
   ⟨(some 30), .load false 1 (.t 29), some (26, true)⟩,
   ⟨(some 31), .bin .eql (.t 30) (.c (.d (.s ⟨#[0, 97, 98]⟩))), some (26, true)⟩,
   ⟨(some 32), .pick (.t 26) (.t 31) (.c (.d (.b false))), none⟩,
   ⟨(some 33), .mv (.t 32), none⟩,
   ⟨(some 34), .faddr 30 (.t 1), some (33, true)⟩,
   ⟨(some 35), .iaddrA 3 3 (.t 34) (.c (.d (.i .i64 0))), some (33, true)⟩,
   ⟨(some 36), .faddr 0 (.t 35), some (33, true)⟩,
   ⟨(some 37), .load false 1 (.t 36), some (33, true)⟩,
   ⟨(some 38), .bin .eql (.t 37) (.c (.d (.i .u32 1))), some (33, true)⟩,
   ⟨(some 39), .pick (.t 33) (.t 38) (.c (.d (.b false))), none⟩,
   ⟨(some 40), .mv (.t 39), none⟩,
   ⟨(some 41), .faddr 0 (.t 4), some (40, true)⟩,
   ⟨(some 42), .load false 1 (.t 41), some (40, true)⟩,
   ⟨(some 43), .bin .eql (.t 42) (.c (.d (.i .u8 1))), some (40, true)⟩,
   ⟨(some 44), .pick (.t 40) (.t 43) (.c (.d (.b false))), none⟩,
   ⟨(some 0), .mv (.t 44), none⟩] [])
 (.ret))))
def a_paddocklaw6_known : AFn := .code 0 c_paddocklaw6_known [.tmp 0]
set_option maxRecDepth 100000 in
theorem k_paddocklaw6_known : compF Try.prog h_paddocklaw6_known F_paddocklaw6_known = some a_paddocklaw6_known := by kernel_rfl

/-- paddock/objects.IsOp -/
def h_objects_IsOp : Hints := { kp := [(0, [0]), (1, [1]), (2, []), (3, [1]), (4, [1, 28]), (5, [1, 28]), (7, [1, 28]), (8, [1]), (6, []), (9, [1])], lkp := [], lth := [] }
def c_objects_IsOp : ACode :=
 .seq (.region (some [0]) [⟨(some 1), .box (.t 0), none⟩,
   ⟨(some 2), .mv (.c (.d (.b false))), none⟩] [])
 (.seq (.seq (.region (some [1]) [⟨(some 3), .faddr 0 (.t 1), none⟩,
   ⟨(some 4), .load false 1 (.t 3), none⟩,
   ⟨(some 5), .bin .lss (.t 4) (.c (.d (.i .u8 1))), none⟩,
   ⟨(some 6), .mv (.t 5), none⟩,
   ⟨(some 7), .faddr 0 (.t 1), some (6, false)⟩,
   ⟨(some 8), .load false 1 (.t 7), some (6, false)⟩,
   ⟨(some 9), .bin .gtr (.t 8) (.c (.d (.i .u8 3))), some (6, false)⟩,
   ⟨(some 10), .pick (.t 6) (.c (.d (.b true))) (.t 9), none⟩,
   ⟨(some 11), .mv (.t 10), none⟩,
   ⟨(some 12), .faddr 1 (.t 1), some (11, false)⟩,
   ⟨(some 13), .load false 1 (.t 12), some (11, false)⟩,
   ⟨(some 14), .bin .eql (.t 13) (.c (.d (.i .u32 0))), some (11, false)⟩,
   ⟨(some 15), .pick (.t 11) (.c (.d (.b true))) (.t 14), none⟩,
   ⟨(some 16), .mv (.t 15), none⟩,
   ⟨(some 17), .faddr 3 (.t 1), some (16, false)⟩,
   ⟨(some 18), .load false 1 (.t 17), some (16, false)⟩,
   ⟨(some 19), .bin .geq (.t 18) (.c (.d (.i .u8 6))), some (16, false)⟩,
   ⟨(some 20), .pick (.t 16) (.c (.d (.b true))) (.t 19), none⟩,
   ⟨(some 21), .mv (.t 20), none⟩,
   ⟨(some 22), .faddr 5 (.t 1), some (21, false)⟩,
   ⟨(some 23), .load false 1 (.t 22), some (21, false)⟩,
   ⟨(some 24), .len true (.t 23), some (21, false)⟩,
   ⟨(some 25), .bin .gtr (.t 24) (.c (.d (.i .i64 16))), some (21, false)⟩,
   ⟨(some 26), .pick (.t 21) (.c (.d (.b true))) (.t 25), none⟩] [])
 (.cond (.t 26) (.seq (.region (some []) [⟨(some 2), .mv (.c (.d (.b false))), none⟩] [])
  (.ret)) (.skip)))
 (.seq (.seq (.region (some [1]) [⟨(some 27), .faddr 2 (.t 1), none⟩,
   ⟨(some 28), .load false 1 (.t 27), none⟩] [])
 (.block 0 (.seq (.seq (.region (some [1, 28]) [⟨(some 30), .bin .eql (.t 28) (.c (.d (.i .u8 1))), none⟩,
    ⟨(some 29), .mv (.t 30), none⟩] [])
  (.cond (.t 29) (.skip) (.region (some [1, 28]) [⟨(some 31), .bin .eql (.t 28) (.c (.d (.i .u8 3))), none⟩,
     ⟨(some 29), .mv (.t 31), none⟩] [])))
  (.cond (.t 29) (.seq (.region (some []) [⟨(some 2), .mv (.c (.d (.b true))), none⟩] [])
   (.ret)) (.seq (.region (some [1, 28]) [⟨(some 33), .bin .eql (.t 28) (.c (.d (.i .u8 2))), none⟩,
     ⟨(some 32), .mv (.t 33), none⟩] [])
   (.cond (.t 32) (.seq (.region (some [1]) [⟨(some 34), .faddr 5 (.t 1), none⟩,
      ⟨(some 35), .load false 1 (.t 34), none⟩,
      ⟨(some 36), .bin .eql (.t 35) (.c (.d (.s ⟨#[]⟩))), none⟩,
      ⟨(some 2), .mv (.t 36), none⟩] [])
    (.ret)) (.skip)))))))
 (.seq (.region (some [1]) [⟨(some 37), .faddr 2 (.t 1), none⟩,
   ⟨(some 38), .load false 1 (.t 37), none⟩,
   ⟨(some 39), .bin .eql (.t 38) (.c (.d (.i .u8 4))), none⟩,
   ⟨(some 40), .mv (.t 39), none⟩,
   ⟨(some 41), .faddr 2 (.t 1), some (40, false)⟩,
   ⟨(some 42), .load false 1 (.t 41), some (40, false)⟩,
   ⟨(some 43), .bin .eql (.t 42) (.c (.d (.i .u8 5))), some (40, false)⟩,
   ⟨(some 44), .pick (.t 40) (.c (.d (.b true))) (.t 43), none⟩,
   ⟨(some 45), .mv (.t 44), none⟩,
   ⟨(some 46), .load true 6 (.t 1), some (45, true)⟩,
   ⟨(some 47), .faddr 0 (.t 1), some (45, true)⟩,
   ⟨(some 48), .load false 1 (.t 47), some (45, true)⟩,
   ⟨(some 49), .faddr 1 (.t 1), some (45, true)⟩,
   ⟨(some 50), .load false 1 (.t 49), some (45, true)⟩,
   ⟨(some 51), .faddr 2 (.t 1), some (45, true)⟩,
   ⟨(some 52), .load false 1 (.t 51), some (45, true)⟩,
   ⟨(some 53), .faddr 3 (.t 1), some (45, true)⟩,
   ⟨(some 54), .load false 1 (.t 53), some (45, true)⟩,
   ⟨(some 55), .build [.d (.i .u8 0), .d (.i .u32 0), .d (.i .u8 0), .d (.i .u8 0), .d (.i .u8 0), .d (.s ⟨#[]⟩)] [(0, 1, .t 48), (1, 1, .t 50), (2, 1, .t 52), (3, 1, .t 54)], some (45, true)⟩,
   ⟨(some 56), .eq false Pk.Opr.ety (.t 46) (.t 55), some (45, true)⟩,
   ⟨(some 57), .pick (.t 45) (.t 56) (.c (.d (.b false))), none⟩,
   ⟨(some 2), .mv (.t 57), none⟩] [])
 (.ret))))
def a_objects_IsOp : AFn := .code 1 c_objects_IsOp [.tmp 2]
set_option maxRecDepth 100000 in
theorem k_objects_IsOp : compF Try.prog h_objects_IsOp F_objects_IsOp = some a_objects_IsOp := by kernel_rfl

/-- paddock/objects.Do -/
def h_objects_Do : Hints := { kp := [(0, [0, 1]), (1, [2, 3, 4, 5]), (2, [2, 4, 5]), (3, [2, 3, 4, 5]), (4, [2, 3, 4, 5, 6, 7]), (5, [2, 4, 5, 6]), (6, [2, 3, 4, 5]), (7, [2, 3, 4, 5, 8]), (8, [2, 3, 4, 5, 8, 9]), (9, [2, 3, 4, 5, 9]), (10, [2, 4, 5, 9])], lkp := [], lth := [] }
def c_objects_Do : ACode :=
 .seq (.region (some [0, 1]) [⟨(some 2), .box (.t 0), none⟩,
   ⟨(some 3), .box (.t 1), none⟩,
   ⟨(some 4), .box (.c (.d (.agg Pk.Base.zero.cs))), none⟩,
   ⟨(some 5), .box (.c (.d (.agg [.i .u8 0, .s ⟨#[]⟩]))), none⟩] [])
 (.seq (.seq (.region (some [2, 3, 4, 5]) [⟨(some 10), .load true 6 (.t 3), none⟩,
   ⟨(some 11), .call (.f F_objects_Writes) [.t 10], none⟩,
   ⟨(some 12), .un .not (.t 11), none⟩] [])
 (.cond (.t 12) (.seq (.region (some [2, 4, 5]) [⟨(some 13), .load true 39 (.t 2), none⟩,
    ⟨(some 14), .build [.d (.i .u8 0), .d (.s ⟨#[]⟩)] [(0, 1, .c (.d (.i .u8 3)))], none⟩,
    ⟨none, .store 39 (.t 4) (.t 13), none⟩,
    ⟨none, .store 2 (.t 5) (.t 14), none⟩] [])
  (.ret)) (.skip)))
 (.seq (.seq (.region (some [2, 3, 4, 5]) [⟨(some 16), .load true 39 (.t 2), none⟩,
   ⟨(some 17), .load true 6 (.t 3), none⟩,
   ⟨(some 18), .call (.f F_objects_Seen) [.t 16, .t 17], none⟩,
   ⟨(some 15), .mv (.t 18), none⟩,
   ⟨(some 19), .ext (.t 15) 0, none⟩,
   ⟨(some 20), .ext (.t 15) 1, none⟩,
   ⟨(some 6), .box (.c (.d (.agg [.i .u8 0, .s ⟨#[]⟩]))), none⟩,
   ⟨none, .store 2 (.t 6) (.t 19), none⟩,
   ⟨(some 7), .mv (.t 20), none⟩] [])
 (.seq (.region (some [2, 3, 4, 5, 6, 7]) [⟨(some 21), .mv (.t 7), none⟩] [])
 (.cond (.t 21) (.seq (.region (some [2, 4, 5, 6]) [⟨(some 22), .load true 39 (.t 2), none⟩,
    ⟨(some 23), .load true 2 (.t 6), none⟩,
    ⟨none, .store 39 (.t 4) (.t 22), none⟩,
    ⟨none, .store 2 (.t 5) (.t 23), none⟩] [(0, 1), (1, 2)])
  (.ret)) (.skip))))
 (.seq (.region (some [2, 3, 4, 5]) [⟨(some 24), .faddr 3 (.t 3), none⟩,
   ⟨(some 25), .load false 1 (.t 24), none⟩,
   ⟨(some 26), .faddr 0 (.t 2), none⟩,
   ⟨(some 27), .iaddrA 6 5 (.t 26) (.t 25), none⟩,
   ⟨(some 28), .load true 5 (.t 27), none⟩,
   ⟨(some 29), .build [.d (.b false), .d (.s ⟨#[]⟩), .d (.s ⟨#[]⟩), .d (.s ⟨#[]⟩), .d (.s ⟨#[]⟩)] [(0, 5, .t 28)], none⟩,
   ⟨(some 30), .box (.t 29), none⟩,
   ⟨(some 8), .mv (.t 30), none⟩] [])
 (.seq (.region (some [2, 3, 4, 5, 8]) [⟨(some 31), .faddr 2 (.t 3), none⟩,
   ⟨(some 32), .load false 1 (.t 31), none⟩,
   ⟨(some 33), .call (.f F_objects_does) [.t 32], none⟩,
   ⟨(some 34), .mv (.t 8), none⟩,
   ⟨(some 35), .load true 6 (.t 3), none⟩,
   ⟨(some 36), .call (.t 33) [.t 34, .t 35], none⟩,
   ⟨(some 37), .build [.d (.i .u8 0), .d (.s ⟨#[]⟩)] [(0, 1, .t 36)], none⟩,
   ⟨(some 9), .box (.c (.d (.agg [.i .u8 0, .s ⟨#[]⟩]))), none⟩,
   ⟨none, .store 2 (.t 9) (.t 37), none⟩] [(1, 4), (2, 4), (1, 7), (2, 7), (4, 7), (5, 7)])
 (.seq (.region (some [2, 3, 4, 5, 8, 9]) [⟨(some 38), .faddr 3 (.t 3), none⟩,
   ⟨(some 39), .load false 1 (.t 38), none⟩,
   ⟨(some 40), .mv (.t 8), none⟩,
   ⟨(some 41), .nilck (.t 40), none⟩,
   ⟨(some 42), .faddr 0 (.t 41), none⟩,
   ⟨(some 43), .load true 5 (.t 42), none⟩,
   ⟨(some 44), .faddr 0 (.t 2), none⟩,
   ⟨(some 45), .iaddrA 6 5 (.t 44) (.t 39), none⟩,
   ⟨none, .store 5 (.t 45) (.t 43), none⟩] [(1, 5)])
 (.seq (.region (some [2, 3, 4, 5, 9]) [⟨(some 46), .faddr 0 (.t 3), none⟩,
   ⟨(some 47), .load false 1 (.t 46), none⟩,
   ⟨(some 48), .bin .sub (.t 47) (.c (.d (.i .u8 1))), none⟩,
   ⟨(some 49), .faddr 1 (.t 3), none⟩,
   ⟨(some 50), .load false 1 (.t 49), none⟩,
   ⟨(some 51), .load true 2 (.t 9), none⟩,
   ⟨(some 52), .build [.d (.i .u32 0), .d (.i .u8 0), .d (.s ⟨#[]⟩)] [(0, 1, .t 50), (1, 2, .t 51)], none⟩,
   ⟨(some 53), .faddr 30 (.t 2), none⟩,
   ⟨(some 54), .iaddrA 3 3 (.t 53) (.t 48), none⟩,
   ⟨none, .store 3 (.t 54) (.t 52), none⟩] [])
 (.seq (.region (some [2, 4, 5, 9]) [⟨(some 55), .load true 39 (.t 2), none⟩,
   ⟨(some 56), .load true 2 (.t 9), none⟩,
   ⟨none, .store 39 (.t 4) (.t 55), none⟩,
   ⟨none, .store 2 (.t 5) (.t 56), none⟩] [(0, 1), (1, 2)])
 (.ret))))))))
def a_objects_Do : AFn := .code 2 c_objects_Do [.cell true 39 4, .cell true 2 5]
set_option maxRecDepth 100000 in
theorem k_objects_Do : compF Try.prog h_objects_Do F_objects_Do = some a_objects_Do := by kernel_rfl

/-- paddock/objects.All -/
def h_objects_All : Hints := { dat := true, kp := [(0, [0, 1]), (1, [1, 2, 4]), (2, [1, 2, 4, 6]), (3, [2, 4, 6, 11, 12, 13]), (4, [2, 4, 6, 11, 12, 13]), (5, [2, 4, 6, 8, 11, 12, 13]), (6, [2, 4, 6, 9, 10, 11, 12, 13]), (7, [2, 4, 6, 10, 11, 12, 13]), (8, [2, 4, 6, 11, 12, 13]), (9, [2, 4, 6])], lkp := [(3, [2, 4, 6, 11, 12, 13])], lth := [(3, [6, 2])] }
def K_objects_All_0 : Option (List Nat) := (some [2, 4, 6, 11, 12, 13])
def l_objects_All_0 : ACode :=
 .seq (.region (some [2, 4, 6, 11, 12, 13]) [⟨(some 14), .bin .lss (.t 13) (.t 12), none⟩] [])
 (.seq (.cond (.t 14) (.skip) (.exit 0))
 (.seq (.block 1 (.seq (.region (some [2, 4, 6, 11, 12, 13]) [⟨(some 15), .iaddrS 6 (.t 11) (.t 13), none⟩,
    ⟨(some 16), .load true 6 (.t 15), none⟩,
    ⟨(some 8), .box (.c (.d (.agg [.i .u8 0, .i .u32 0, .i .u8 0, .i .u8 0, .i .u8 0, .s ⟨#[]⟩]))), none⟩,
    ⟨none, .store 6 (.t 8) (.t 16), none⟩] [])
  (.seq (.region (some [2, 4, 6, 8, 11, 12, 13]) [⟨(some 18), .load true 39 (.t 2), none⟩,
    ⟨(some 19), .load true 6 (.t 8), none⟩,
    ⟨(some 20), .call (.f F_objects_Do) [.t 18, .t 19], none⟩,
    ⟨(some 17), .mv (.t 20), none⟩,
    ⟨(some 21), .ext (.t 17) 0, none⟩,
    ⟨(some 22), .ext (.t 17) 1, none⟩,
    ⟨(some 9), .box (.c (.d (.agg Pk.Base.zero.cs))), none⟩,
    ⟨(some 10), .box (.c (.d (.agg [.i .u8 0, .s ⟨#[]⟩]))), none⟩,
    ⟨none, .store 39 (.t 9) (.t 21), none⟩,
    ⟨none, .store 2 (.t 10) (.t 22), none⟩] [])
  (.seq (.region (some [2, 4, 6, 9, 10, 11, 12, 13]) [⟨(some 23), .load true 39 (.t 9), none⟩,
    ⟨none, .store 39 (.t 2) (.t 23), none⟩] [])
  (.region (some [2, 4, 6, 10, 11, 12, 13]) [⟨(some 24), .mv (.t 6), none⟩,
    ⟨(some 25), .load true 2 (.t 10), none⟩,
    ⟨(some 26), .bsl 2 [.t 25], none⟩,
    ⟨(some 27), .app 2 (.t 24) (.t 26), none⟩,
    ⟨(some 6), .mv (.t 27), none⟩] [])))))
 (.region (some [2, 4, 6, 11, 12, 13]) [⟨(some 28), .bin .add (.t 13) (.c (.d (.i .i64 1))), none⟩,
   ⟨(some 13), .mv (.t 28), none⟩] [])))
def c_objects_All : ACode :=
 .seq (.region (some [0, 1]) [⟨(some 2), .box (.t 0), none⟩,
   ⟨(some 4), .box (.c (.d (.agg Pk.Base.zero.cs))), none⟩,
   ⟨(some 5), .mv (.c (.nilS)), none⟩] [])
 (.seq (.region (some [1, 2, 4]) [⟨(some 6), .mv (.c (.nilS)), none⟩] [])
 (.seq (.seq (.region (some [1, 2, 4, 6]) [⟨(some 11), .mv (.t 1), none⟩,
   ⟨(some 12), .len false (.t 11), none⟩,
   ⟨(some 13), .mv (.c (.d (.i .i64 0))), none⟩] [])
 (.block 0 (.loop K_objects_All_0 [6, 2] l_objects_All_0)))
 (.seq (.region (some [2, 4, 6]) [⟨(some 29), .load true 39 (.t 2), none⟩,
   ⟨(some 30), .mv (.t 6), none⟩,
   ⟨none, .store 39 (.t 4) (.t 29), none⟩,
   ⟨(some 5), .mv (.t 30), none⟩] [])
 (.ret))))
def a_objects_All : AFn := .code 2 c_objects_All [.dat (.cell true 39 4), .dat (.tmp 5)]
set_option maxRecDepth 100000 in
theorem k_objects_All : compF Try.prog h_objects_All F_objects_All = some a_objects_All := by kernel_rfl

/-- paddock/paddockref6.Do -/
def h_paddockref6_Do : Hints := { kp := [(0, [0, 1]), (1, [2, 3, 4, 5]), (2, [2, 4, 5]), (3, [2, 3, 4, 5]), (4, [2, 3, 4, 5, 6, 7]), (5, [2, 4, 5, 6]), (6, [2, 3, 4, 5]), (7, [2, 3, 4, 5, 8, 9]), (8, [2, 3, 4, 5, 9]), (9, [2, 4, 5, 9])], lkp := [], lth := [] }
def c_paddockref6_Do : ACode :=
 .seq (.region (some [0, 1]) [⟨(some 2), .box (.t 0), none⟩,
   ⟨(some 3), .box (.t 1), none⟩,
   ⟨(some 4), .box (.c (.d (.agg Pk.Base.zero.cs))), none⟩,
   ⟨(some 5), .box (.c (.d (.agg [.i .u8 0, .s ⟨#[]⟩]))), none⟩] [])
 (.seq (.seq (.region (some [2, 3, 4, 5]) [⟨(some 10), .load true 6 (.t 3), none⟩,
   ⟨(some 11), .call (.f F_paddockref6_Writes) [.t 10], none⟩,
   ⟨(some 12), .un .not (.t 11), none⟩] [])
 (.cond (.t 12) (.seq (.region (some [2, 4, 5]) [⟨(some 13), .load true 39 (.t 2), none⟩,
    ⟨(some 14), .build [.d (.i .u8 0), .d (.s ⟨#[]⟩)] [(0, 1, .c (.d (.i .u8 3)))], none⟩,
    ⟨none, .store 39 (.t 4) (.t 13), none⟩,
    ⟨none, .store 2 (.t 5) (.t 14), none⟩] [])
  (.ret)) (.skip)))
 (.seq (.region (some [2, 3, 4, 5]) [⟨(some 16), .load true 39 (.t 2), none⟩,
   ⟨(some 17), .load true 6 (.t 3), none⟩,
   ⟨(some 18), .call (.f F_paddockref6_Seen) [.t 16, .t 17], none⟩,
   ⟨(some 15), .mv (.t 18), none⟩,
   ⟨(some 19), .ext (.t 15) 0, none⟩,
   ⟨(some 20), .ext (.t 15) 1, none⟩,
   ⟨(some 6), .box (.c (.d (.agg [.i .u8 0, .s ⟨#[]⟩]))), none⟩,
   ⟨none, .store 2 (.t 6) (.t 19), none⟩,
   ⟨(some 7), .mv (.t 20), none⟩] [])
 (.seq (.seq (.region (some [2, 3, 4, 5, 6, 7]) [⟨(some 21), .mv (.t 7), none⟩] [])
 (.cond (.t 21) (.seq (.region (some [2, 4, 5, 6]) [⟨(some 22), .load true 39 (.t 2), none⟩,
    ⟨(some 23), .load true 2 (.t 6), none⟩,
    ⟨none, .store 39 (.t 4) (.t 22), none⟩,
    ⟨none, .store 2 (.t 5) (.t 23), none⟩] [(0, 1), (1, 2)])
  (.ret)) (.skip)))
 (.seq (.region (some [2, 3, 4, 5]) [⟨(some 25), .faddr 3 (.t 3), none⟩,
   ⟨(some 26), .load false 1 (.t 25), none⟩,
   ⟨(some 27), .faddr 0 (.t 2), none⟩,
   ⟨(some 28), .iaddrA 6 5 (.t 27) (.t 26), none⟩,
   ⟨(some 29), .load true 5 (.t 28), none⟩,
   ⟨(some 30), .load true 6 (.t 3), none⟩,
   ⟨(some 31), .call (.f F_paddockref6_change) [.t 29, .t 30], none⟩,
   ⟨(some 24), .mv (.t 31), none⟩,
   ⟨(some 32), .ext (.t 24) 0, none⟩,
   ⟨(some 33), .ext (.t 24) 1, none⟩,
   ⟨(some 8), .box (.c (.d (.agg [.b false, .s ⟨#[]⟩, .s ⟨#[]⟩, .s ⟨#[]⟩, .s ⟨#[]⟩]))), none⟩,
   ⟨none, .store 5 (.t 8) (.t 32), none⟩,
   ⟨(some 9), .mv (.t 33), none⟩] [(1, 5), (4, 5), (1, 10), (4, 10), (5, 10), (6, 10)])
 (.seq (.region (some [2, 3, 4, 5, 8, 9]) [⟨(some 34), .faddr 3 (.t 3), none⟩,
   ⟨(some 35), .load false 1 (.t 34), none⟩,
   ⟨(some 36), .load true 5 (.t 8), none⟩,
   ⟨(some 37), .faddr 0 (.t 2), none⟩,
   ⟨(some 38), .iaddrA 6 5 (.t 37) (.t 35), none⟩,
   ⟨none, .store 5 (.t 38) (.t 36), none⟩] [])
 (.seq (.region (some [2, 3, 4, 5, 9]) [⟨(some 39), .faddr 0 (.t 3), none⟩,
   ⟨(some 40), .load false 1 (.t 39), none⟩,
   ⟨(some 41), .bin .sub (.t 40) (.c (.d (.i .u8 1))), none⟩,
   ⟨(some 42), .faddr 1 (.t 3), none⟩,
   ⟨(some 43), .load false 1 (.t 42), none⟩,
   ⟨(some 44), .mv (.t 9), none⟩,
   ⟨(some 45), .build [.d (.i .u8 0), .d (.s ⟨#[]⟩)] [(0, 1, .t 44)], none⟩,
   ⟨(some 46), .build [.d (.i .u32 0), .d (.i .u8 0), .d (.s ⟨#[]⟩)] [(0, 1, .t 43), (1, 2, .t 45)], none⟩,
   ⟨(some 47), .faddr 30 (.t 2), none⟩,
   ⟨(some 48), .iaddrA 3 3 (.t 47) (.t 41), none⟩,
   ⟨none, .store 3 (.t 48) (.t 46), none⟩] [])
 (.seq (.region (some [2, 4, 5, 9]) [⟨(some 49), .load true 39 (.t 2), none⟩,
   ⟨(some 50), .mv (.t 9), none⟩,
   ⟨(some 51), .build [.d (.i .u8 0), .d (.s ⟨#[]⟩)] [(0, 1, .t 50)], none⟩,
   ⟨none, .store 39 (.t 4) (.t 49), none⟩,
   ⟨none, .store 2 (.t 5) (.t 51), none⟩] [])
 (.ret))))))))
def a_paddockref6_Do : AFn := .code 2 c_paddockref6_Do [.cell true 39 4, .cell true 2 5]
set_option maxRecDepth 100000 in
theorem k_paddockref6_Do : compF Try.prog h_paddockref6_Do F_paddockref6_Do = some a_paddockref6_Do := by kernel_rfl

/-- paddock/objects.Writes -/
def h_objects_Writes : Hints := { kp := [(0, [0]), (1, [1])], lkp := [], lth := [] }
def c_objects_Writes : ACode :=
 .seq (.region (some [0]) [⟨(some 1), .box (.t 0), none⟩,
   ⟨(some 2), .mv (.c (.d (.b false))), none⟩] [])
 (.seq (.region (some [1]) [⟨(some 3), .load true 6 (.t 1), none⟩,
   ⟨(some 4), .call (.f F_objects_IsOp) [.t 3], none⟩,
   ⟨(some 5), .mv (.t 4), none⟩,
   ⟨(some 6), .faddr 2 (.t 1), some (5, true)⟩,
   ⟨(some 7), .load false 1 (.t 6), some (5, true)⟩,
   ⟨(some 8), .bin .neq (.t 7) (.c (.d (.i .u8 5))), some (5, true)⟩,
   ⟨(some 9), .pick (.t 5) (.t 8) (.c (.d (.b false))), none⟩,
   ⟨(some 2), .mv (.t 9), none⟩] [])
 (.ret))
def a_objects_Writes : AFn := .code 1 c_objects_Writes [.tmp 2]
set_option maxRecDepth 100000 in
theorem k_objects_Writes : compF Try.prog h_objects_Writes F_objects_Writes = some a_objects_Writes := by kernel_rfl

/-- paddock/objects.Seen -/
def h_objects_Seen : Hints := { kp := [(0, [0, 1]), (1, [2, 3, 4]), (2, [4]), (3, [2, 3, 4]), (4, [3, 4, 6]), (5, [4, 6]), (6, [4])], lkp := [], lth := [] }
def c_objects_Seen : ACode :=
 .seq (.region (some [0, 1]) [⟨(some 2), .box (.t 0), none⟩,
   ⟨(some 3), .box (.t 1), none⟩,
   ⟨(some 4), .box (.c (.d (.agg [.i .u8 0, .s ⟨#[]⟩]))), none⟩,
   ⟨(some 5), .mv (.c (.d (.b false))), none⟩] [])
 (.seq (.seq (.region (some [2, 3, 4]) [⟨(some 7), .load true 6 (.t 3), none⟩,
   ⟨(some 8), .call (.f F_objects_Writes) [.t 7], none⟩,
   ⟨(some 9), .un .not (.t 8), none⟩,
   ⟨(some 10), .mv (.t 9), none⟩,
   ⟨(some 11), .faddr 0 (.t 3), some (10, false)⟩,
   ⟨(some 12), .load false 1 (.t 11), some (10, false)⟩,
   ⟨(some 13), .bin .sub (.t 12) (.c (.d (.i .u8 1))), some (10, false)⟩,
   ⟨(some 14), .faddr 30 (.t 2), some (10, false)⟩,
   ⟨(some 15), .iaddrA 3 3 (.t 14) (.t 13), some (10, false)⟩,
   ⟨(some 16), .faddr 0 (.t 15), some (10, false)⟩,
   ⟨(some 17), .load false 1 (.t 16), some (10, false)⟩,
   ⟨(some 18), .faddr 1 (.t 3), some (10, false)⟩,
   ⟨(some 19), .load false 1 (.t 18), some (10, false)⟩,
   ⟨(some 20), .bin .lss (.t 17) (.t 19), some (10, false)⟩,
   ⟨(some 21), .pick (.t 10) (.c (.d (.b true))) (.t 20), none⟩] [(5, 12), (10, 12)])
 (.cond (.t 21) (.seq (.region (some [4]) [⟨(some 22), .build [.d (.i .u8 0), .d (.s ⟨#[]⟩)] [], none⟩,
    ⟨none, .store 2 (.t 4) (.t 22), none⟩,
    ⟨(some 5), .mv (.c (.d (.b false))), none⟩] [])
  (.ret)) (.skip)))
 (.seq (.seq (.region (some [2, 3, 4]) [⟨(some 23), .faddr 0 (.t 3), none⟩,
   ⟨(some 24), .load false 1 (.t 23), none⟩,
   ⟨(some 25), .bin .sub (.t 24) (.c (.d (.i .u8 1))), none⟩,
   ⟨(some 26), .faddr 30 (.t 2), none⟩,
   ⟨(some 27), .iaddrA 3 3 (.t 26) (.t 25), none⟩,
   ⟨(some 28), .load true 3 (.t 27), none⟩,
   ⟨(some 6), .box (.c (.d (.agg [.i .u32 0, .i .u8 0, .s ⟨#[]⟩]))), none⟩,
   ⟨none, .store 3 (.t 6) (.t 28), none⟩] [])
 (.seq (.region (some [3, 4, 6]) [⟨(some 29), .faddr 0 (.t 6), none⟩,
   ⟨(some 30), .load false 1 (.t 29), none⟩,
   ⟨(some 31), .faddr 1 (.t 3), none⟩,
   ⟨(some 32), .load false 1 (.t 31), none⟩,
   ⟨(some 33), .bin .eql (.t 30) (.t 32), none⟩] [])
 (.cond (.t 33) (.seq (.region (some [4, 6]) [⟨(some 34), .faddr 1 (.t 6), none⟩,
    ⟨(some 35), .load true 2 (.t 34), none⟩,
    ⟨none, .store 2 (.t 4) (.t 35), none⟩,
    ⟨(some 5), .mv (.c (.d (.b true))), none⟩] [])
  (.ret)) (.skip))))
 (.seq (.region (some [4]) [⟨(some 36), .build [.d (.i .u8 0), .d (.s ⟨#[]⟩)] [(0, 1, .c (.d (.i .u8 3)))], none⟩,
   ⟨none, .store 2 (.t 4) (.t 36), none⟩,
   ⟨(some 5), .mv (.c (.d (.b true))), none⟩] [])
 (.ret))))
def a_objects_Seen : AFn := .code 2 c_objects_Seen [.cell true 2 4, .tmp 5]
set_option maxRecDepth 100000 in
theorem k_objects_Seen : compF Try.prog h_objects_Seen F_objects_Seen = some a_objects_Seen := by kernel_rfl

/-- paddock/paddocklaw6.objectsSeen -/
def h_paddocklaw6_objectsSeen : Hints := { kp := [(0, [0, 1]), (1, [2, 3]), (2, [6])], lkp := [], lth := [] }
def c_paddocklaw6_objectsSeen : ACode :=
 .seq (.region (some [0, 1]) [⟨(some 2), .box (.t 0), none⟩,
   ⟨(some 3), .box (.t 1), none⟩,
   ⟨(some 4), .mv (.c (.d (.b false))), none⟩] [])
 (.seq (.region (some [2, 3]) [⟨(some 8), .load true 39 (.t 2), none⟩,
   ⟨(some 9), .load true 6 (.t 3), none⟩,
   ⟨(some 10), .call (.f F_objects_Seen) [.t 8, .t 9], none⟩,
   ⟨(some 7), .mv (.t 10), none⟩,
   ⟨(some 11), .ext (.t 7) 0, none⟩,
   ⟨(some 12), .ext (.t 7) 1, none⟩,
   ⟨(some 5), .box (.c (.d (.agg [.i .u8 0, .s ⟨#[]⟩]))), none⟩,
   ⟨none, .store 2 (.t 5) (.t 11), none⟩,
   ⟨(some 6), .mv (.t 12), none⟩] [])
 (.seq (.region (some [6]) [⟨(some 13), .mv (.t 6), none⟩,
   ⟨(some 4), .mv (.t 13), none⟩] [])
 (.ret)))
def a_paddocklaw6_objectsSeen : AFn := .code 2 c_paddocklaw6_objectsSeen [.tmp 4]
set_option maxRecDepth 100000 in
theorem k_paddocklaw6_objectsSeen : compF Try.prog h_paddocklaw6_objectsSeen F_paddocklaw6_objectsSeen = some a_paddocklaw6_objectsSeen := by kernel_rfl

/-- paddock/objects.does -/
def h_objects_does : Hints := { kp := [(0, [0]), (1, [0]), (2, [3]), (4, [3]), (6, [3]), (7, []), (5, []), (3, []), (8, [])], lkp := [], lth := [] }
def c_objects_does : ACode :=
 .seq (.region (some [0]) [⟨(some 2), .mv (.c (.one)), none⟩] [])
 (.seq (.seq (.region (some [0]) [⟨(some 3), .mv (.t 0), none⟩] [])
 (.block 0 (.seq (.region (some [3]) [⟨(some 5), .bin .eql (.t 3) (.c (.d (.i .u8 1))), none⟩,
    ⟨(some 4), .mv (.t 5), none⟩] [])
  (.cond (.t 4) (.seq (.region (some []) [⟨(some 2), .mv (.f F_objects_doer_write), none⟩] [])
   (.ret)) (.seq (.region (some [3]) [⟨(some 7), .bin .eql (.t 3) (.c (.d (.i .u8 2))), none⟩,
     ⟨(some 6), .mv (.t 7), none⟩] [])
   (.cond (.t 6) (.seq (.region (some []) [⟨(some 2), .mv (.f F_objects_doer_trunc), none⟩] [])
    (.ret)) (.seq (.region (some [3]) [⟨(some 9), .bin .eql (.t 3) (.c (.d (.i .u8 3))), none⟩,
      ⟨(some 8), .mv (.t 9), none⟩] [])
    (.cond (.t 8) (.seq (.region (some []) [⟨(some 2), .mv (.f F_objects_doer_attr), none⟩] [])
     (.ret)) (.skip)))))))))
 (.seq (.region (some []) [⟨(some 2), .mv (.f F_objects_doer_remove), none⟩] [])
 (.ret)))
def a_objects_does : AFn := .code 1 c_objects_does [.tmp 2]
set_option maxRecDepth 100000 in
theorem k_objects_does : compF Try.prog h_objects_does F_objects_does = some a_objects_does := by kernel_rfl

/-- paddock/paddockref6.Writes -/
def h_paddockref6_Writes : Hints := { kp := [(0, [0]), (1, [1])], lkp := [], lth := [] }
def c_paddockref6_Writes : ACode :=
 .seq (.region (some [0]) [⟨(some 1), .box (.t 0), none⟩,
   ⟨(some 2), .mv (.c (.d (.b false))), none⟩] [])
 (.seq (.region (some [1]) [⟨(some 3), .load true 6 (.t 1), none⟩,
   ⟨(some 4), .call (.f F_paddockref6_IsOp) [.t 3], none⟩,
   ⟨(some 5), .mv (.t 4), none⟩,
   ⟨(some 6), .faddr 2 (.t 1), some (5, true)⟩,
   ⟨(some 7), .load false 1 (.t 6), some (5, true)⟩,
   ⟨(some 8), .bin .neq (.t 7) (.c (.d (.i .u8 5))), some (5, true)⟩,
   ⟨(some 9), .pick (.t 5) (.t 8) (.c (.d (.b false))), none⟩,
   ⟨(some 2), .mv (.t 9), none⟩] [])
 (.ret))
def a_paddockref6_Writes : AFn := .code 1 c_paddockref6_Writes [.tmp 2]
set_option maxRecDepth 100000 in
theorem k_paddockref6_Writes : compF Try.prog h_paddockref6_Writes F_paddockref6_Writes = some a_paddockref6_Writes := by kernel_rfl

/-- paddock/paddockref6.Seen -/
def h_paddockref6_Seen : Hints := { kp := [(0, [0, 1]), (1, [2, 3, 4]), (2, [4]), (3, [2, 3, 4]), (4, [3, 4, 6]), (6, [3, 4, 6]), (7, [4, 6]), (5, [4]), (8, [4])], lkp := [], lth := [] }
def c_paddockref6_Seen : ACode :=
 .seq (.region (some [0, 1]) [⟨(some 2), .box (.t 0), none⟩,
   ⟨(some 3), .box (.t 1), none⟩,
   ⟨(some 4), .box (.c (.d (.agg [.i .u8 0, .s ⟨#[]⟩]))), none⟩,
   ⟨(some 5), .mv (.c (.d (.b false))), none⟩] [])
 (.seq (.seq (.region (some [2, 3, 4]) [⟨(some 7), .load true 6 (.t 3), none⟩,
   ⟨(some 8), .call (.f F_paddockref6_Writes) [.t 7], none⟩,
   ⟨(some 9), .un .not (.t 8), none⟩] [])
 (.cond (.t 9) (.seq (.region (some [4]) [⟨(some 10), .build [.d (.i .u8 0), .d (.s ⟨#[]⟩)] [], none⟩,
    ⟨none, .store 2 (.t 4) (.t 10), none⟩,
    ⟨(some 5), .mv (.c (.d (.b false))), none⟩] [])
  (.ret)) (.skip)))
 (.seq (.region (some [2, 3, 4]) [⟨(some 11), .faddr 0 (.t 3), none⟩,
   ⟨(some 12), .load false 1 (.t 11), none⟩,
   ⟨(some 13), .bin .sub (.t 12) (.c (.d (.i .u8 1))), none⟩,
   ⟨(some 14), .faddr 30 (.t 2), none⟩,
   ⟨(some 15), .iaddrA 3 3 (.t 14) (.t 13), none⟩,
   ⟨(some 16), .load true 3 (.t 15), none⟩,
   ⟨(some 6), .box (.c (.d (.agg [.i .u32 0, .i .u8 0, .s ⟨#[]⟩]))), none⟩,
   ⟨none, .store 3 (.t 6) (.t 16), none⟩] [])
 (.seq (.block 0 (.seq (.region (some [3, 4, 6]) [⟨(some 18), .faddr 0 (.t 6), none⟩,
    ⟨(some 19), .load false 1 (.t 18), none⟩,
    ⟨(some 20), .faddr 1 (.t 3), none⟩,
    ⟨(some 21), .load false 1 (.t 20), none⟩,
    ⟨(some 22), .bin .lss (.t 19) (.t 21), none⟩,
    ⟨(some 17), .mv (.t 22), none⟩] [])
  (.cond (.t 17) (.seq (.region (some [4]) [⟨(some 23), .build [.d (.i .u8 0), .d (.s ⟨#[]⟩)] [], none⟩,
     ⟨none, .store 2 (.t 4) (.t 23), none⟩,
     ⟨(some 5), .mv (.c (.d (.b false))), none⟩] [])
   (.ret)) (.seq (.region (some [3, 4, 6]) [⟨(some 25), .faddr 0 (.t 6), none⟩,
     ⟨(some 26), .load false 1 (.t 25), none⟩,
     ⟨(some 27), .faddr 1 (.t 3), none⟩,
     ⟨(some 28), .load false 1 (.t 27), none⟩,
     ⟨(some 29), .bin .eql (.t 26) (.t 28), none⟩,
     ⟨(some 24), .mv (.t 29), none⟩] [])
   (.cond (.t 24) (.seq (.region (some [4, 6]) [⟨(some 30), .faddr 1 (.t 6), none⟩,
      ⟨(some 31), .load true 2 (.t 30), none⟩,
      ⟨none, .store 2 (.t 4) (.t 31), none⟩,
      ⟨(some 5), .mv (.c (.d (.b true))), none⟩] [])
    (.ret)) (.skip))))))
 (.seq (.region (some [4]) [⟨(some 32), .build [.d (.i .u8 0), .d (.s ⟨#[]⟩)] [(0, 1, .c (.d (.i .u8 3)))], none⟩,
   ⟨none, .store 2 (.t 4) (.t 32), none⟩,
   ⟨(some 5), .mv (.c (.d (.b true))), none⟩] [])
 (.ret)))))
def a_paddockref6_Seen : AFn := .code 2 c_paddockref6_Seen [.cell true 2 4, .tmp 5]
set_option maxRecDepth 100000 in
theorem k_paddockref6_Seen : compF Try.prog h_paddockref6_Seen F_paddockref6_Seen = some a_paddockref6_Seen := by kernel_rfl

/-- paddock/paddockref6.change -/
def h_paddockref6_change : Hints := { kp := [(0, [0, 1]), (1, [2, 3, 4]), (2, [2, 3, 4, 6]), (6, [2, 3, 4, 6, 13]), (16, [2, 3, 4, 6, 13]), (24, [2, 3, 4, 6, 13]), (3, [2, 4]), (4, [2, 4]), (5, [2, 4]), (25, [2, 3, 4, 6]), (26, [2, 4]), (27, [2, 3, 4, 6]), (28, [2, 4]), (29, [2, 3, 4, 6]), (17, [2, 4, 6]), (18, [2, 4]), (19, [2, 4, 6]), (20, [2, 4]), (21, [2, 4, 6]), (22, [2, 4, 6]), (23, [2, 4, 6]), (7, [2, 3, 4, 6]), (8, [2, 4]), (9, [2, 3, 4, 6]), (10, [2, 3, 4, 6, 7]), (11, [2, 3, 4, 6, 7]), (12, [2, 3, 4, 6, 7]), (13, [2, 3, 4, 6, 7, 8]), (14, [2, 3, 4, 6, 7]), (15, [2, 3, 4, 6, 7, 8]), (30, [2, 4])], lkp := [], lth := [] }
def c_paddockref6_change : ACode :=
 .seq (.region (some [0, 1]) [⟨(some 2), .box (.t 0), none⟩,
   ⟨(some 3), .box (.t 1), none⟩,
   ⟨(some 4), .box (.c (.d (.agg [.b false, .s ⟨#[]⟩, .s ⟨#[]⟩, .s ⟨#[]⟩, .s ⟨#[]⟩]))), none⟩,
   ⟨(some 5), .mv (.c (.d (.i .u8 0))), none⟩] [])
 (.seq (.region (some [2, 3, 4]) [⟨(some 9), .faddr 4 (.t 3), none⟩,
   ⟨(some 10), .load false 1 (.t 9), none⟩,
   ⟨(some 11), .conv .i64 (.t 10), none⟩,
   ⟨(some 6), .mv (.t 11), none⟩] [])
 (.seq (.seq (.region (some [2, 3, 4, 6]) [⟨(some 12), .faddr 2 (.t 3), none⟩,
   ⟨(some 13), .load false 1 (.t 12), none⟩] [])
 (.block 0 (.seq (.region (some [2, 3, 4, 6, 13]) [⟨(some 20), .bin .eql (.t 13) (.c (.d (.i .u8 1))), none⟩,
    ⟨(some 19), .mv (.t 20), none⟩] [])
  (.cond (.t 19) (.seq (.seq (.region (some [2, 3, 4, 6]) [⟨(some 21), .mv (.t 6), none⟩,
     ⟨(some 22), .faddr 5 (.t 3), none⟩,
     ⟨(some 23), .load false 1 (.t 22), none⟩,
     ⟨(some 24), .len true (.t 23), none⟩,
     ⟨(some 25), .bin .add (.t 21) (.t 24), none⟩,
     ⟨(some 26), .bin .gtr (.t 25) (.c (.d (.i .i64 16))), none⟩] [])
   (.cond (.t 26) (.seq (.region (some [2, 4]) [⟨(some 27), .load true 5 (.t 2), none⟩,
      ⟨none, .store 5 (.t 4) (.t 27), none⟩,
      ⟨(some 5), .mv (.c (.d (.i .u8 2))), none⟩] [])
    (.ret)) (.skip)))
   (.seq (.region (some [2, 3, 4, 6]) [⟨(some 28), .faddr 1 (.t 2), none⟩,
     ⟨(some 29), .load false 1 (.t 28), none⟩,
     ⟨(some 7), .mv (.t 29), none⟩] [])
   (.seq (.seq (.region (some [2, 3, 4, 6, 7]) [⟨(some 30), .mv (.t 7), none⟩,
     ⟨(some 31), .len true (.t 30), none⟩,
     ⟨(some 32), .mv (.t 6), none⟩,
     ⟨(some 33), .bin .lss (.t 31) (.t 32), none⟩] [])
   (.cond (.t 33) (.region (some [2, 3, 4, 6, 7]) [⟨(some 34), .mv (.t 7), none⟩,
      ⟨(some 35), .mv (.t 6), none⟩,
      ⟨(some 36), .mv (.t 7), none⟩,
      ⟨(some 37), .len true (.t 36), none⟩,
      ⟨(some 38), .bin .sub (.t 35) (.t 37), none⟩,
      ⟨(some 39), .call (.f F_paddockref6_noughts) [.t 38], none⟩,
      ⟨(some 40), .bin .add (.t 34) (.t 39), none⟩,
      ⟨(some 7), .mv (.t 40), none⟩] []) (.skip)))
   (.seq (.region (some [2, 3, 4, 6, 7]) [⟨(some 8), .mv (.c (.d (.s ⟨#[]⟩))), none⟩] [])
   (.seq (.seq (.region (some [2, 3, 4, 6, 7, 8]) [⟨(some 41), .mv (.t 7), none⟩,
     ⟨(some 42), .len true (.t 41), none⟩,
     ⟨(some 43), .mv (.t 6), none⟩,
     ⟨(some 44), .faddr 5 (.t 3), none⟩,
     ⟨(some 45), .load false 1 (.t 44), none⟩,
     ⟨(some 46), .len true (.t 45), none⟩,
     ⟨(some 47), .bin .add (.t 43) (.t 46), none⟩,
     ⟨(some 48), .bin .gtr (.t 42) (.t 47), none⟩] [])
   (.cond (.t 48) (.region (some [2, 3, 4, 6, 7]) [⟨(some 49), .mv (.t 7), none⟩,
      ⟨(some 50), .mv (.t 6), none⟩,
      ⟨(some 51), .faddr 5 (.t 3), none⟩,
      ⟨(some 52), .load false 1 (.t 51), none⟩,
      ⟨(some 53), .len true (.t 52), none⟩,
      ⟨(some 54), .bin .add (.t 50) (.t 53), none⟩,
      ⟨(some 55), .slice 0 (.t 49) (some (.t 54)) none none, none⟩,
      ⟨(some 8), .mv (.t 55), none⟩] []) (.skip)))
   (.region (some [2, 3, 4, 6, 7, 8]) [⟨(some 56), .mv (.t 7), none⟩,
     ⟨(some 57), .mv (.t 6), none⟩,
     ⟨(some 58), .slice 0 (.t 56) none (some (.t 57)) none, none⟩,
     ⟨(some 59), .faddr 5 (.t 3), none⟩,
     ⟨(some 60), .load false 1 (.t 59), none⟩,
     ⟨(some 61), .bin .add (.t 58) (.t 60), none⟩,
     ⟨(some 62), .mv (.t 8), none⟩,
     ⟨(some 63), .bin .add (.t 61) (.t 62), none⟩,
     ⟨(some 64), .faddr 0 (.t 2), none⟩,
     ⟨none, .store 1 (.t 64) (.c (.d (.b true))), none⟩,
     ⟨(some 65), .faddr 1 (.t 2), none⟩,
     ⟨none, .store 1 (.t 65) (.t 63), none⟩] [(4, 9)])))))) (.seq (.region (some [2, 3, 4, 6, 13]) [⟨(some 67), .bin .eql (.t 13) (.c (.d (.i .u8 2))), none⟩,
     ⟨(some 66), .mv (.t 67), none⟩] [])
   (.cond (.t 66) (.seq (.seq (.region (some [2, 4, 6]) [⟨(some 68), .faddr 0 (.t 2), none⟩,
      ⟨(some 69), .load false 1 (.t 68), none⟩,
      ⟨(some 70), .un .not (.t 69), none⟩] [])
    (.cond (.t 70) (.seq (.region (some [2, 4]) [⟨(some 71), .load true 5 (.t 2), none⟩,
       ⟨none, .store 5 (.t 4) (.t 71), none⟩,
       ⟨(some 5), .mv (.c (.d (.i .u8 1))), none⟩] [])
     (.ret)) (.skip)))
    (.seq (.seq (.region (some [2, 4, 6]) [⟨(some 72), .mv (.t 6), none⟩,
      ⟨(some 73), .bin .gtr (.t 72) (.c (.d (.i .i64 16))), none⟩] [])
    (.cond (.t 73) (.seq (.region (some [2, 4]) [⟨(some 74), .load true 5 (.t 2), none⟩,
       ⟨none, .store 5 (.t 4) (.t 74), none⟩,
       ⟨(some 5), .mv (.c (.d (.i .u8 2))), none⟩] [])
     (.ret)) (.skip)))
    (.seq (.seq (.region (some [2, 4, 6]) [⟨(some 75), .faddr 1 (.t 2), none⟩,
      ⟨(some 76), .load false 1 (.t 75), none⟩,
      ⟨(some 77), .len true (.t 76), none⟩,
      ⟨(some 78), .mv (.t 6), none⟩,
      ⟨(some 79), .bin .lss (.t 77) (.t 78), none⟩] [])
    (.cond (.t 79) (.region (some [2, 4, 6]) [⟨(some 80), .faddr 1 (.t 2), none⟩,
       ⟨(some 81), .load false 1 (.t 80), none⟩,
       ⟨(some 82), .mv (.t 6), none⟩,
       ⟨(some 83), .faddr 1 (.t 2), none⟩,
       ⟨(some 84), .load false 1 (.t 83), none⟩,
       ⟨(some 85), .len true (.t 84), none⟩,
       ⟨(some 86), .bin .sub (.t 82) (.t 85), none⟩,
       ⟨(some 87), .call (.f F_paddockref6_noughts) [.t 86], none⟩,
       ⟨(some 88), .bin .add (.t 81) (.t 87), none⟩,
       ⟨(some 89), .faddr 1 (.t 2), none⟩,
       ⟨none, .store 1 (.t 89) (.t 88), none⟩] [(1, 4), (1, 7)]) (.skip)))
    (.region (some [2, 4, 6]) [⟨(some 90), .faddr 1 (.t 2), none⟩,
      ⟨(some 91), .load false 1 (.t 90), none⟩,
      ⟨(some 92), .mv (.t 6), none⟩,
      ⟨(some 93), .slice 0 (.t 91) none (some (.t 92)) none, none⟩,
      ⟨(some 94), .faddr 1 (.t 2), none⟩,
      ⟨none, .store 1 (.t 94) (.t 93), none⟩] [])))) (.seq (.region (some [2, 3, 4, 6, 13]) [⟨(some 96), .bin .eql (.t 13) (.c (.d (.i .u8 3))), none⟩,
      ⟨(some 95), .mv (.t 96), none⟩] [])
    (.cond (.t 95) (.seq (.seq (.region (some [2, 3, 4, 6]) [⟨(some 97), .mv (.t 6), none⟩,
       ⟨(some 98), .bin .geq (.t 97) (.c (.d (.i .i64 3))), none⟩] [])
     (.cond (.t 98) (.seq (.region (some [2, 4]) [⟨(some 99), .load true 5 (.t 2), none⟩,
        ⟨none, .store 5 (.t 4) (.t 99), none⟩,
        ⟨(some 5), .mv (.c (.d (.i .u8 3))), none⟩] [])
      (.ret)) (.skip)))
     (.seq (.seq (.region (some [2, 3, 4, 6]) [⟨(some 100), .faddr 0 (.t 2), none⟩,
       ⟨(some 101), .load false 1 (.t 100), none⟩,
       ⟨(some 102), .un .not (.t 101), none⟩] [])
     (.cond (.t 102) (.seq (.region (some [2, 4]) [⟨(some 103), .load true 5 (.t 2), none⟩,
        ⟨none, .store 5 (.t 4) (.t 103), none⟩,
        ⟨(some 5), .mv (.c (.d (.i .u8 1))), none⟩] [])
      (.ret)) (.skip)))
     (.region (some [2, 3, 4, 6]) [⟨(some 104), .mv (.t 6), none⟩,
       ⟨(some 105), .faddr 5 (.t 3), none⟩,
       ⟨(some 106), .load false 1 (.t 105), none⟩,
       ⟨(some 107), .faddr 2 (.t 2), none⟩,
       ⟨(some 108), .iaddrA 3 1 (.t 107) (.t 104), none⟩,
       ⟨none, .store 1 (.t 108) (.t 106), none⟩] []))) (.seq (.seq (.region (some [2, 4]) [⟨(some 14), .faddr 0 (.t 2), none⟩,
       ⟨(some 15), .load false 1 (.t 14), none⟩,
       ⟨(some 16), .un .not (.t 15), none⟩] [])
     (.cond (.t 16) (.seq (.region (some [2, 4]) [⟨(some 17), .load true 5 (.t 2), none⟩,
        ⟨none, .store 5 (.t 4) (.t 17), none⟩,
        ⟨(some 5), .mv (.c (.d (.i .u8 1))), none⟩] [])
      (.ret)) (.skip)))
     (.region (some [2, 4]) [⟨(some 18), .build [.d (.b false), .d (.s ⟨#[]⟩), .d (.s ⟨#[]⟩), .d (.s ⟨#[]⟩), .d (.s ⟨#[]⟩)] [], none⟩,
       ⟨none, .store 5 (.t 2) (.t 18), none⟩] []))))))))))
 (.seq (.region (some [2, 4]) [⟨(some 109), .load true 5 (.t 2), none⟩,
   ⟨none, .store 5 (.t 4) (.t 109), none⟩,
   ⟨(some 5), .mv (.c (.d (.i .u8 0))), none⟩] [])
 (.ret))))
def a_paddockref6_change : AFn := .code 2 c_paddockref6_change [.cell true 5 4, .tmp 5]
set_option maxRecDepth 100000 in
theorem k_paddockref6_change : compF Try.prog h_paddockref6_change F_paddockref6_change = some a_paddockref6_change := by kernel_rfl

/-- (*paddock/objects.doer).write -/
def h_objects_doer_write : Hints := { kp := [(0, [0, 1]), (1, [0, 3]), (2, [0, 3, 5]), (3, []), (4, [0, 3, 5]), (5, [0, 3, 5, 6]), (6, [0, 3, 5, 6]), (7, [])], lkp := [], lth := [] }
def c_objects_doer_write : ACode :=
 .seq (.region (some [0, 1]) [⟨(some 3), .box (.t 1), none⟩,
   ⟨(some 4), .mv (.c (.d (.i .u8 0))), none⟩] [])
 (.seq (.region (some [0, 3]) [⟨(some 7), .faddr 4 (.t 3), none⟩,
   ⟨(some 8), .load false 1 (.t 7), none⟩,
   ⟨(some 9), .conv .i64 (.t 8), none⟩,
   ⟨(some 10), .faddr 5 (.t 3), none⟩,
   ⟨(some 11), .load false 1 (.t 10), none⟩,
   ⟨(some 12), .len true (.t 11), none⟩,
   ⟨(some 13), .bin .add (.t 9) (.t 12), none⟩,
   ⟨(some 5), .mv (.t 13), none⟩] [])
 (.seq (.seq (.region (some [0, 3, 5]) [⟨(some 14), .mv (.t 5), none⟩,
   ⟨(some 15), .bin .gtr (.t 14) (.c (.d (.i .i64 16))), none⟩] [])
 (.cond (.t 15) (.seq (.region (some []) [⟨(some 4), .mv (.c (.d (.i .u8 2))), none⟩] [])
  (.ret)) (.skip)))
 (.seq (.region (some [0, 3, 5]) [⟨(some 16), .mv (.t 0), none⟩,
   ⟨(some 17), .nilck (.t 16), none⟩,
   ⟨(some 18), .faddr 0 (.t 17), none⟩,
   ⟨(some 19), .faddr 1 (.t 18), none⟩,
   ⟨(some 20), .load false 1 (.t 19), none⟩,
   ⟨(some 21), .mv (.t 5), none⟩,
   ⟨(some 22), .call (.f F_objects_grown) [.t 20, .t 21], none⟩,
   ⟨(some 6), .mv (.t 22), none⟩] [])
 (.seq (.region (some [0, 3, 5, 6]) [⟨(some 23), .mv (.t 0), none⟩,
   ⟨(some 24), .nilck (.t 23), none⟩,
   ⟨(some 25), .faddr 0 (.t 24), none⟩,
   ⟨(some 26), .faddr 0 (.t 25), none⟩,
   ⟨none, .store 1 (.t 26) (.c (.d (.b true))), none⟩] [])
 (.seq (.region (some [0, 3, 5, 6]) [⟨(some 27), .mv (.t 0), none⟩,
   ⟨(some 28), .mv (.t 6), none⟩,
   ⟨(some 29), .faddr 4 (.t 3), none⟩,
   ⟨(some 30), .load false 1 (.t 29), none⟩,
   ⟨(some 31), .slice 0 (.t 28) none (some (.t 30)) none, none⟩,
   ⟨(some 32), .faddr 5 (.t 3), none⟩,
   ⟨(some 33), .load false 1 (.t 32), none⟩,
   ⟨(some 34), .bin .add (.t 31) (.t 33), none⟩,
   ⟨(some 35), .mv (.t 6), none⟩,
   ⟨(some 36), .mv (.t 5), none⟩,
   ⟨(some 37), .slice 0 (.t 35) (some (.t 36)) none none, none⟩,
   ⟨(some 38), .bin .add (.t 34) (.t 37), none⟩,
   ⟨(some 39), .nilck (.t 27), none⟩,
   ⟨(some 40), .faddr 0 (.t 39), none⟩,
   ⟨(some 41), .faddr 1 (.t 40), none⟩,
   ⟨none, .store 1 (.t 41) (.t 38), none⟩] [(3, 6)])
 (.seq (.region (some []) [⟨(some 4), .mv (.c (.d (.i .u8 0))), none⟩] [])
 (.ret)))))))
def a_objects_doer_write : AFn := .code 2 c_objects_doer_write [.tmp 4]
set_option maxRecDepth 100000 in
theorem k_objects_doer_write : compF Try.prog h_objects_doer_write F_objects_doer_write = some a_objects_doer_write := by kernel_rfl

/-- (*paddock/objects.doer).trunc -/
def h_objects_doer_trunc : Hints := { kp := [(0, [0, 1]), (1, [0, 3]), (3, [0, 3]), (4, []), (2, []), (5, [0, 3]), (6, [])], lkp := [], lth := [] }
def c_objects_doer_trunc : ACode :=
 .seq (.region (some [0, 1]) [⟨(some 3), .box (.t 1), none⟩,
   ⟨(some 4), .mv (.c (.d (.i .u8 0))), none⟩] [])
 (.seq (.block 0 (.seq (.region (some [0, 3]) [⟨(some 6), .mv (.t 0), none⟩,
    ⟨(some 7), .nilck (.t 6), none⟩,
    ⟨(some 8), .faddr 0 (.t 7), none⟩,
    ⟨(some 9), .faddr 0 (.t 8), none⟩,
    ⟨(some 10), .load false 1 (.t 9), none⟩,
    ⟨(some 11), .un .not (.t 10), none⟩,
    ⟨(some 5), .mv (.t 11), none⟩] [])
  (.cond (.t 5) (.seq (.region (some []) [⟨(some 4), .mv (.c (.d (.i .u8 1))), none⟩] [])
   (.ret)) (.seq (.region (some [0, 3]) [⟨(some 13), .faddr 4 (.t 3), none⟩,
     ⟨(some 14), .load false 1 (.t 13), none⟩,
     ⟨(some 15), .bin .gtr (.t 14) (.c (.d (.i .u8 16))), none⟩,
     ⟨(some 12), .mv (.t 15), none⟩] [])
   (.cond (.t 12) (.seq (.region (some []) [⟨(some 4), .mv (.c (.d (.i .u8 2))), none⟩] [])
    (.ret)) (.skip))))))
 (.seq (.region (some [0, 3]) [⟨(some 16), .mv (.t 0), none⟩,
   ⟨(some 17), .mv (.t 0), none⟩,
   ⟨(some 18), .nilck (.t 17), none⟩,
   ⟨(some 19), .faddr 0 (.t 18), none⟩,
   ⟨(some 20), .faddr 1 (.t 19), none⟩,
   ⟨(some 21), .load false 1 (.t 20), none⟩,
   ⟨(some 22), .faddr 4 (.t 3), none⟩,
   ⟨(some 23), .load false 1 (.t 22), none⟩,
   ⟨(some 24), .conv .i64 (.t 23), none⟩,
   ⟨(some 25), .call (.f F_objects_grown) [.t 21, .t 24], none⟩,
   ⟨(some 26), .faddr 4 (.t 3), none⟩,
   ⟨(some 27), .load false 1 (.t 26), none⟩,
   ⟨(some 28), .slice 0 (.t 25) none (some (.t 27)) none, none⟩,
   ⟨(some 29), .nilck (.t 16), none⟩,
   ⟨(some 30), .faddr 0 (.t 29), none⟩,
   ⟨(some 31), .faddr 1 (.t 30), none⟩,
   ⟨none, .store 1 (.t 31) (.t 28), none⟩] [(5, 7), (5, 11), (7, 11), (9, 11)])
 (.seq (.region (some []) [⟨(some 4), .mv (.c (.d (.i .u8 0))), none⟩] [])
 (.ret))))
def a_objects_doer_trunc : AFn := .code 2 c_objects_doer_trunc [.tmp 4]
set_option maxRecDepth 100000 in
theorem k_objects_doer_trunc : compF Try.prog h_objects_doer_trunc F_objects_doer_trunc = some a_objects_doer_trunc := by kernel_rfl

/-- (*paddock/objects.doer).attr -/
def h_objects_doer_attr : Hints := { kp := [(0, [0, 1]), (1, [0, 3]), (3, [0, 3]), (4, []), (2, []), (5, [0, 3]), (6, [])], lkp := [], lth := [] }
def c_objects_doer_attr : ACode :=
 .seq (.region (some [0, 1]) [⟨(some 3), .box (.t 1), none⟩,
   ⟨(some 4), .mv (.c (.d (.i .u8 0))), none⟩] [])
 (.seq (.block 0 (.seq (.region (some [0, 3]) [⟨(some 6), .faddr 4 (.t 3), none⟩,
    ⟨(some 7), .load false 1 (.t 6), none⟩,
    ⟨(some 8), .bin .geq (.t 7) (.c (.d (.i .u8 3))), none⟩,
    ⟨(some 5), .mv (.t 8), none⟩] [])
  (.cond (.t 5) (.seq (.region (some []) [⟨(some 4), .mv (.c (.d (.i .u8 3))), none⟩] [])
   (.ret)) (.seq (.region (some [0, 3]) [⟨(some 10), .mv (.t 0), none⟩,
     ⟨(some 11), .nilck (.t 10), none⟩,
     ⟨(some 12), .faddr 0 (.t 11), none⟩,
     ⟨(some 13), .faddr 0 (.t 12), none⟩,
     ⟨(some 14), .load false 1 (.t 13), none⟩,
     ⟨(some 15), .un .not (.t 14), none⟩,
     ⟨(some 9), .mv (.t 15), none⟩] [])
   (.cond (.t 9) (.seq (.region (some []) [⟨(some 4), .mv (.c (.d (.i .u8 1))), none⟩] [])
    (.ret)) (.skip))))))
 (.seq (.region (some [0, 3]) [⟨(some 16), .mv (.t 0), none⟩,
   ⟨(some 17), .faddr 4 (.t 3), none⟩,
   ⟨(some 18), .load false 1 (.t 17), none⟩,
   ⟨(some 19), .faddr 5 (.t 3), none⟩,
   ⟨(some 20), .load false 1 (.t 19), none⟩,
   ⟨(some 21), .nilck (.t 16), none⟩,
   ⟨(some 22), .faddr 0 (.t 21), none⟩,
   ⟨(some 23), .faddr 2 (.t 22), none⟩,
   ⟨(some 24), .iaddrA 3 1 (.t 23) (.t 18), none⟩,
   ⟨none, .store 1 (.t 24) (.t 20), none⟩] [(2, 4)])
 (.seq (.region (some []) [⟨(some 4), .mv (.c (.d (.i .u8 0))), none⟩] [])
 (.ret))))
def a_objects_doer_attr : AFn := .code 2 c_objects_doer_attr [.tmp 4]
set_option maxRecDepth 100000 in
theorem k_objects_doer_attr : compF Try.prog h_objects_doer_attr F_objects_doer_attr = some a_objects_doer_attr := by kernel_rfl

/-- (*paddock/objects.doer).remove -/
def h_objects_doer_remove : Hints := { kp := [(0, [0, 1]), (1, [0]), (2, []), (3, [0]), (4, [])], lkp := [], lth := [] }
def c_objects_doer_remove : ACode :=
 .seq (.region (some [0, 1]) [⟨(some 3), .box (.t 1), none⟩,
   ⟨(some 4), .mv (.c (.d (.i .u8 0))), none⟩] [])
 (.seq (.seq (.region (some [0]) [⟨(some 5), .mv (.t 0), none⟩,
   ⟨(some 6), .nilck (.t 5), none⟩,
   ⟨(some 7), .faddr 0 (.t 6), none⟩,
   ⟨(some 8), .faddr 0 (.t 7), none⟩,
   ⟨(some 9), .load false 1 (.t 8), none⟩,
   ⟨(some 10), .un .not (.t 9), none⟩] [])
 (.cond (.t 10) (.seq (.region (some []) [⟨(some 4), .mv (.c (.d (.i .u8 1))), none⟩] [])
  (.ret)) (.skip)))
 (.seq (.region (some [0]) [⟨(some 11), .mv (.t 0), none⟩,
   ⟨(some 12), .build [.d (.b false), .d (.s ⟨#[]⟩), .d (.s ⟨#[]⟩), .d (.s ⟨#[]⟩), .d (.s ⟨#[]⟩)] [], none⟩,
   ⟨(some 13), .nilck (.t 11), none⟩,
   ⟨(some 14), .faddr 0 (.t 13), none⟩,
   ⟨none, .store 5 (.t 14) (.t 12), none⟩] [])
 (.seq (.region (some []) [⟨(some 4), .mv (.c (.d (.i .u8 0))), none⟩] [])
 (.ret))))
def a_objects_doer_remove : AFn := .code 2 c_objects_doer_remove [.tmp 4]
set_option maxRecDepth 100000 in
theorem k_objects_doer_remove : compF Try.prog h_objects_doer_remove F_objects_doer_remove = some a_objects_doer_remove := by kernel_rfl

/-- paddock/paddockref6.IsOp -/
def h_paddockref6_IsOp : Hints := { kp := [(0, [0]), (1, [1]), (2, []), (3, [1]), (4, []), (5, [1])], lkp := [], lth := [] }
def c_paddockref6_IsOp : ACode :=
 .seq (.region (some [0]) [⟨(some 1), .box (.t 0), none⟩,
   ⟨(some 2), .mv (.c (.d (.b false))), none⟩] [])
 (.seq (.seq (.region (some [1]) [⟨(some 3), .faddr 0 (.t 1), none⟩,
   ⟨(some 4), .load false 1 (.t 3), none⟩,
   ⟨(some 5), .bin .lss (.t 4) (.c (.d (.i .u8 1))), none⟩,
   ⟨(some 6), .mv (.t 5), none⟩,
   ⟨(some 7), .faddr 0 (.t 1), some (6, false)⟩,
   ⟨(some 8), .load false 1 (.t 7), some (6, false)⟩,
   ⟨(some 9), .bin .gtr (.t 8) (.c (.d (.i .u8 3))), some (6, false)⟩,
   ⟨(some 10), .pick (.t 6) (.c (.d (.b true))) (.t 9), none⟩,
   ⟨(some 11), .mv (.t 10), none⟩,
   ⟨(some 12), .faddr 1 (.t 1), some (11, false)⟩,
   ⟨(some 13), .load false 1 (.t 12), some (11, false)⟩,
   ⟨(some 14), .bin .lss (.t 13) (.c (.d (.i .u32 1))), some (11, false)⟩,
   ⟨(some 15), .pick (.t 11) (.c (.d (.b true))) (.t 14), none⟩,
   ⟨(some 16), .mv (.t 15), none⟩,
   ⟨(some 17), .faddr 2 (.t 1), some (16, false)⟩,
   ⟨(some 18), .load false 1 (.t 17), some (16, false)⟩,
   ⟨(some 19), .bin .lss (.t 18) (.c (.d (.i .u8 1))), some (16, false)⟩,
   ⟨(some 20), .pick (.t 16) (.c (.d (.b true))) (.t 19), none⟩,
   ⟨(some 21), .mv (.t 20), none⟩,
   ⟨(some 22), .faddr 2 (.t 1), some (21, false)⟩,
   ⟨(some 23), .load false 1 (.t 22), some (21, false)⟩,
   ⟨(some 24), .bin .gtr (.t 23) (.c (.d (.i .u8 5))), some (21, false)⟩,
   ⟨(some 25), .pick (.t 21) (.c (.d (.b true))) (.t 24), none⟩,
   ⟨(some 26), .mv (.t 25), none⟩,
   ⟨(some 27), .faddr 3 (.t 1), some (26, false)⟩,
   ⟨(some 28), .load false 1 (.t 27), some (26, false)⟩,
   ⟨(some 29), .bin .geq (.t 28) (.c (.d (.i .u8 6))), some (26, false)⟩,
   ⟨(some 30), .pick (.t 26) (.c (.d (.b true))) (.t 29), none⟩,
   ⟨(some 31), .mv (.t 30), none⟩,
   ⟨(some 32), .faddr 5 (.t 1), some (31, false)⟩,
   ⟨(some 33), .load false 1 (.t 32), some (31, false)⟩,
   ⟨(some 34), .len true (.t 33), some (31, false)⟩,
   ⟨(some 35), .bin .gtr (.t 34) (.c (.d (.i .i64 16))), some (31, false)⟩,
   ⟨(some 36), .pick (.t 31) (.c (.d (.b true))) (.t 35), none⟩] [])
 (.cond (.t 36) (.seq (.region (some []) [⟨(some 2), .mv (.c (.d (.b false))), none⟩] [])
  (.ret)) (.skip)))
 (.seq (.seq (.region (some [1]) [⟨(some 37), .faddr 2 (.t 1), none⟩,
   ⟨(some 38), .load false 1 (.t 37), none⟩,
   ⟨(some 39), .bin .neq (.t 38) (.c (.d (.i .u8 1))), none⟩,
   ⟨(some 40), .mv (.t 39), none⟩,
   ⟨(some 41), .faddr 2 (.t 1), some (40, true)⟩,
   ⟨(some 42), .load false 1 (.t 41), some (40, true)⟩,
   ⟨(some 43), .bin .neq (.t 42) (.c (.d (.i .u8 3))), some (40, true)⟩,
   ⟨(some 44), .pick (.t 40) (.t 43) (.c (.d (.b false))), none⟩,
   ⟨(some 45), .mv (.t 44), none⟩,
   ⟨(some 46), .faddr 5 (.t 1), some (45, true)⟩,
   ⟨(some 47), .load false 1 (.t 46), some (45, true)⟩,
   ⟨(some 48), .bin .neq (.t 47) (.c (.d (.s ⟨#[]⟩))), some (45, true)⟩,
   ⟨(some 49), .pick (.t 45) (.t 48) (.c (.d (.b false))), none⟩] [])
 (.cond (.t 49) (.seq (.region (some []) [⟨(some 2), .mv (.c (.d (.b false))), none⟩] [])
  (.ret)) (.skip)))
 (.seq (.region (some [1]) [⟨(some 50), .faddr 2 (.t 1), none⟩,
   ⟨(some 51), .load false 1 (.t 50), none⟩,
   ⟨(some 52), .bin .neq (.t 51) (.c (.d (.i .u8 4))), none⟩,
   ⟨(some 53), .mv (.t 52), none⟩,
   ⟨(some 54), .faddr 2 (.t 1), some (53, true)⟩,
   ⟨(some 55), .load false 1 (.t 54), some (53, true)⟩,
   ⟨(some 56), .bin .neq (.t 55) (.c (.d (.i .u8 5))), some (53, true)⟩,
   ⟨(some 57), .pick (.t 53) (.t 56) (.c (.d (.b false))), none⟩,
   ⟨(some 58), .mv (.t 57), none⟩,
   ⟨(some 59), .faddr 4 (.t 1), some (58, false)⟩,
   ⟨(some 60), .load false 1 (.t 59), some (58, false)⟩,
   ⟨(some 61), .bin .eql (.t 60) (.c (.d (.i .u8 0))), some (58, false)⟩,
   ⟨(some 62), .pick (.t 58) (.c (.d (.b true))) (.t 61), none⟩,
   ⟨(some 2), .mv (.t 62), none⟩] [])
 (.ret))))
def a_paddockref6_IsOp : AFn := .code 1 c_paddockref6_IsOp [.tmp 2]
set_option maxRecDepth 100000 in
theorem k_paddockref6_IsOp : compF Try.prog h_paddockref6_IsOp F_paddockref6_IsOp = some a_paddockref6_IsOp := by kernel_rfl

/-- paddock/paddockref6.noughts -/
def h_paddockref6_noughts : Hints := { kp := [(0, [0]), (1, [0]), (2, [0, 3]), (3, [0, 3, 4]), (5, [0, 3, 4]), (4, [0, 3, 4]), (6, [3])], lkp := [(3, [0, 3, 4])], lth := [] }
def K_paddockref6_noughts_0 : Option (List Nat) := (some [0, 3, 4])
def l_paddockref6_noughts_0 : ACode :=
 .seq (.seq (.region (some [0, 3, 4]) [⟨(some 5), .mv (.t 4), none⟩,
   ⟨(some 6), .mv (.t 0), none⟩,
   ⟨(some 7), .bin .lss (.t 5) (.t 6), none⟩] [])
 (.cond (.t 7) (.skip) (.exit 0)))
 (.seq (.block 1 (.region (some [0, 3, 4]) [⟨(some 10), .mv (.t 3), none⟩,
    ⟨(some 11), .bin .add (.t 10) (.c (.d (.s ⟨#[0]⟩))), none⟩,
    ⟨(some 3), .mv (.t 11), none⟩] []))
 (.region (some [0, 3, 4]) [⟨(some 8), .mv (.t 4), none⟩,
   ⟨(some 9), .bin .add (.t 8) (.c (.d (.i .i64 1))), none⟩,
   ⟨(some 4), .mv (.t 9), none⟩] []))
def c_paddockref6_noughts : ACode :=
 .seq (.region (some [0]) [⟨(some 2), .mv (.c (.d (.s ⟨#[]⟩))), none⟩] [])
 (.seq (.region (some [0]) [⟨(some 3), .mv (.c (.d (.s ⟨#[]⟩))), none⟩] [])
 (.seq (.seq (.region (some [0, 3]) [⟨(some 4), .mv (.c (.d (.i .i64 0))), none⟩] [])
 (.block 0 (.loop K_paddockref6_noughts_0 [] l_paddockref6_noughts_0)))
 (.seq (.region (some [3]) [⟨(some 12), .mv (.t 3), none⟩,
   ⟨(some 2), .mv (.t 12), none⟩] [])
 (.ret))))
def a_paddockref6_noughts : AFn := .code 1 c_paddockref6_noughts [.tmp 2]
set_option maxRecDepth 100000 in
theorem k_paddockref6_noughts : compF Try.prog h_paddockref6_noughts F_paddockref6_noughts = some a_paddockref6_noughts := by kernel_rfl

/-- paddock/objects.grown -/
def h_objects_grown : Hints := { kp := [(0, [0, 1]), (1, [0, 1])], lkp := [], lth := [] }
def c_objects_grown : ACode :=
 .seq (.region (some [0, 1]) [⟨(some 4), .mv (.c (.d (.s ⟨#[]⟩))), none⟩] [])
 (.seq (.region (some [0, 1]) [⟨(some 5), .mv (.t 0), none⟩,
   ⟨(some 6), .mv (.t 1), none⟩,
   ⟨(some 7), .mv (.t 0), none⟩,
   ⟨(some 8), .len true (.t 7), none⟩,
   ⟨(some 9), .bin .sub (.t 6) (.t 8), none⟩,
   ⟨(some 10), .mm true [.t 9, .c (.d (.i .i64 0))], none⟩,
   ⟨(some 11), .call (.f F_strings_Repeat) [.c (.d (.s ⟨#[0]⟩)), .t 10], none⟩,
   ⟨(some 12), .bin .add (.t 5) (.t 11), none⟩,
   ⟨(some 4), .mv (.t 12), none⟩] [])
 (.ret))
def a_objects_grown : AFn := .code 2 c_objects_grown [.tmp 4]
set_option maxRecDepth 100000 in
theorem k_objects_grown : compF Try.prog h_objects_grown F_objects_grown = some a_objects_grown := by kernel_rfl

noncomputable def C : FuncId → Option AFn
  | 3 => some a_paddocklaw6_ObjectsBytes
  | 4 => some a_paddocklaw6_ObjectsBounds
  | 5 => some a_paddocklaw6_ObjectsAll
  | 6 => some a_paddocklaw6_ObjectsTwice
  | 7 => some a_paddocklaw6_ObjectsApart
  | 8 => some a_paddocklaw6_ObjectsEither
  | 9 => some a_paddocklaw6_known
  | 10 => some a_objects_IsOp
  | 11 => some a_objects_Do
  | 12 => some a_objects_All
  | 13 => some a_paddockref6_Do
  | 14 => some a_objects_Writes
  | 15 => some a_objects_Seen
  | 16 => some a_paddocklaw6_objectsSeen
  | 17 => some a_objects_does
  | 18 => some a_paddockref6_Writes
  | 19 => some a_paddockref6_Seen
  | 20 => some a_paddockref6_change
  | 21 => some a_objects_doer_write
  | 22 => some a_objects_doer_trunc
  | 23 => some a_objects_doer_attr
  | 24 => some a_objects_doer_remove
  | 25 => some a_paddockref6_IsOp
  | 26 => some a_paddockref6_noughts
  | 27 => some a_objects_grown
  | 28 => some (.ext Pk.repeatX)
  | _ => none
theorem hC : CRel Try.prog C := by
  intro f fn h
  unfold C at h
  split at h
  · injection h with h; subst h; exact ⟨h_paddocklaw6_ObjectsBytes, k_paddocklaw6_ObjectsBytes⟩
  · injection h with h; subst h; exact ⟨h_paddocklaw6_ObjectsBounds, k_paddocklaw6_ObjectsBounds⟩
  · injection h with h; subst h; exact ⟨h_paddocklaw6_ObjectsAll, k_paddocklaw6_ObjectsAll⟩
  · injection h with h; subst h; exact ⟨h_paddocklaw6_ObjectsTwice, k_paddocklaw6_ObjectsTwice⟩
  · injection h with h; subst h; exact ⟨h_paddocklaw6_ObjectsApart, k_paddocklaw6_ObjectsApart⟩
  · injection h with h; subst h; exact ⟨h_paddocklaw6_ObjectsEither, k_paddocklaw6_ObjectsEither⟩
  · injection h with h; subst h; exact ⟨h_paddocklaw6_known, k_paddocklaw6_known⟩
  · injection h with h; subst h; exact ⟨h_objects_IsOp, k_objects_IsOp⟩
  · injection h with h; subst h; exact ⟨h_objects_Do, k_objects_Do⟩
  · injection h with h; subst h; exact ⟨h_objects_All, k_objects_All⟩
  · injection h with h; subst h; exact ⟨h_paddockref6_Do, k_paddockref6_Do⟩
  · injection h with h; subst h; exact ⟨h_objects_Writes, k_objects_Writes⟩
  · injection h with h; subst h; exact ⟨h_objects_Seen, k_objects_Seen⟩
  · injection h with h; subst h; exact ⟨h_paddocklaw6_objectsSeen, k_paddocklaw6_objectsSeen⟩
  · injection h with h; subst h; exact ⟨h_objects_does, k_objects_does⟩
  · injection h with h; subst h; exact ⟨h_paddockref6_Writes, k_paddockref6_Writes⟩
  · injection h with h; subst h; exact ⟨h_paddockref6_Seen, k_paddockref6_Seen⟩
  · injection h with h; subst h; exact ⟨h_paddockref6_change, k_paddockref6_change⟩
  · injection h with h; subst h; exact ⟨h_objects_doer_write, k_objects_doer_write⟩
  · injection h with h; subst h; exact ⟨h_objects_doer_trunc, k_objects_doer_trunc⟩
  · injection h with h; subst h; exact ⟨h_objects_doer_attr, k_objects_doer_attr⟩
  · injection h with h; subst h; exact ⟨h_objects_doer_remove, k_objects_doer_remove⟩
  · injection h with h; subst h; exact ⟨h_paddockref6_IsOp, k_paddockref6_IsOp⟩
  · injection h with h; subst h; exact ⟨h_paddockref6_noughts, k_paddockref6_noughts⟩
  · injection h with h; subst h; exact ⟨h_objects_grown, k_objects_grown⟩
  · injection h with h; subst h; exact Pk.repeatX_ok ⟨Try.f28, _, Try.func28, rfl, by kernel_rfl⟩ (fun s c w h1 h2 => Try.strings_Repeat s c w h1 h2)
  · cases h
end Go.Proofs.Ytclambdgbphfkaa

/- The code of the functions that these laws reach, compiled for the pure evaluator (printed by program), each held against the given program by the kernel. -/
import Derived.Test.YthlpognahlnaaaaGreatChecked
import Derived.KernelRfl
import Derived.Test.YthlpognahlnaaaaGreatPkEvd
import Derived.Test.YthlpognahlnaaaaGreatShelf
import Derived.Test.YthlpognahlnaaaaGreatPkClone
set_option linter.all false
namespace Go.Proofs.YthlpognahlnaaaaGreat
open Pv Go
open Pk (i)

def F_q1o : FuncId := 3
def F_q1s : FuncId := 7
def F_q31 : FuncId := 8
def F_q2x : FuncId := 9
def F_q3l : FuncId := 10
def F_q0l : FuncId := 11
def F_q3j : FuncId := 12
def F_q3k : FuncId := 14
def F_q0f : FuncId := 17
def F_q1t : FuncId := 27
def F_q32 : FuncId := 28
def F_q38 : FuncId := 29
def F_q39 : FuncId := 30
def F_q40 : FuncId := 31
def F_q37 : FuncId := 32
def F_q43 : FuncId := 33
def F_q3m : FuncId := 34
def F_q03 : FuncId := 35
def F_q05 : FuncId := 36
def F_q09 : FuncId := 37
def F_q3n : FuncId := 38
def F_q0k : FuncId := 39
def F_q0v : FuncId := 40
def F_q17 : FuncId := 41
def F_q15 : FuncId := 43
def F_q42 : FuncId := 46
def F_q0j : FuncId := 47
def F_q27 : FuncId := 54
def F_q36 : FuncId := 57
def F_q1g : FuncId := 58
def F_q1d : FuncId := 59
def F_q4b : FuncId := 60
def F_q04 : FuncId := 61
def F_q0a : FuncId := 62
def F_q06 : FuncId := 63
def F_q45 : FuncId := 64
def F_q07 : FuncId := 65
def F_q44 : FuncId := 66
def F_q18 : FuncId := 67
def F_q3c : FuncId := 68
def F_q49 : FuncId := 69
def F_q16 : FuncId := 72
def F_q2y : FuncId := 73
def F_q2z : FuncId := 74
def F_q19 : FuncId := 75
def F_q34 : FuncId := 76
def F_q0y : FuncId := 78
def F_q3a : FuncId := 84
def F_q1e : FuncId := 85
def F_q1f : FuncId := 86
def F_q1l : FuncId := 87
def F_q4d : FuncId := 88
def F_q0h : FuncId := 89
def F_q0c : FuncId := 90
def F_q46 : FuncId := 91
def F_q08 : FuncId := 92
def F_q4c : FuncId := 93
def F_q33 : FuncId := 94
def F_q1b : FuncId := 95
def F_q1c : FuncId := 96
def F_q1a : FuncId := 97
def F_q47 : FuncId := 98
def F_q3e : FuncId := 99
def F_q3d : FuncId := 100
def F_q3b : FuncId := 102
def F_q1k : FuncId := 107
def F_q1j : FuncId := 108
def F_q1h : FuncId := 109
def F_q1i : FuncId := 110
def F_q41 : FuncId := 111
def F_q0b : FuncId := 112
def F_q4a : FuncId := 113
def F_q48 : FuncId := 114
def F_q30 : FuncId := 115
def F_q35 : FuncId := 116
def F_q0w : FuncId := 117
def F_q3i : FuncId := 118
def F_q1m : FuncId := 121
def F_q10 : FuncId := 122
def F_q0x : FuncId := 123
def F_q3f : FuncId := 124
def F_q3g : FuncId := 125
def F_q4r : FuncId := 127
def F_q4f : FuncId := 128
def F_q4e : FuncId := 129
def F_q3h : FuncId := 130
def F_q4h : FuncId := 139
def F_q01 : FuncId := 140
def F_q4g : FuncId := 148
def F_q02 : FuncId := 149
def F_q11 : FuncId := 152
def F_q4i : FuncId := 153
def tab0 : ByteArray := ⟨#[0, 1, 2, 2, 3, 3, 3, 3, 4, 4, 4, 4, 4, 4, 4, 4, 5, 5, 5, 5, 5, 5, 5, 5, 5, 5, 5, 5, 5, 5, 5, 5, 6, 6, 6, 6, 6, 6, 6, 6, 6, 6, 6, 6, 6, 6, 6, 6, 6, 6, 6, 6, 6, 6, 6, 6, 6, 6, 6, 6, 6, 6, 6, 6, 7, 7, 7, 7, 7, 7, 7, 7, 7, 7, 7, 7, 7, 7, 7, 7, 7, 7, 7, 7, 7, 7, 7, 7, 7, 7, 7, 7, 7, 7, 7, 7, 7, 7, 7, 7, 7, 7, 7, 7, 7, 7, 7, 7, 7, 7, 7, 7, 7, 7, 7, 7, 7, 7, 7, 7, 7, 7, 7, 7, 7, 7, 7, 7, 8, 8, 8, 8, 8, 8, 8, 8, 8, 8, 8, 8, 8, 8, 8, 8, 8, 8, 8, 8, 8, 8, 8, 8, 8, 8, 8, 8, 8, 8, 8, 8, 8, 8, 8, 8, 8, 8, 8, 8, 8, 8, 8, 8, 8, 8, 8, 8, 8, 8, 8, 8, 8, 8, 8, 8, 8, 8, 8, 8, 8, 8, 8, 8, 8, 8, 8, 8, 8, 8, 8, 8, 8, 8, 8, 8, 8, 8, 8, 8, 8, 8, 8, 8, 8, 8, 8, 8, 8, 8, 8, 8, 8, 8, 8, 8, 8, 8, 8, 8, 8, 8, 8, 8, 8, 8, 8, 8, 8, 8, 8, 8, 8, 8, 8, 8, 8, 8, 8, 8, 8, 8, 8, 8, 8, 8, 8, 8]⟩
def h_q1o : Hints := { kp := [(0, [0, 1]), (1, [0, 3]), (2, []), (3, [0, 3]), (4, []), (5, [0, 3]), (6, [0, 3, 5]), (7, [0, 3, 5, 6]), (8, [0, 3, 5, 6, 7]), (9, [0, 3, 5, 6, 7, 8]), (11, [0, 3, 5, 6, 7, 8]), (12, [0, 3, 5, 6, 7, 8, 9]), (13, [0, 3, 5, 6, 7, 8, 9, 10]), (15, [0, 3, 5, 6, 7, 8, 9, 10]), (16, [0, 3, 5, 6, 7, 8, 9, 10, 12]), (17, [0, 3, 5, 6, 7, 8, 9, 10, 13, 14]), (18, [0, 3, 5, 6, 7, 8, 9, 10, 13]), (14, [0, 3, 5, 6, 7, 8, 9, 10]), (19, [0, 3, 5, 6, 7, 8, 9]), (20, [0, 3, 5, 6, 7, 8, 9, 16]), (21, [0, 3, 5, 6, 7, 8, 9]), (10, [0, 3, 5, 6, 7, 8]), (22, [5, 6, 7]), (23, [5, 7, 17]), (24, [5, 7, 17, 18]), (25, [5, 7, 17, 18, 19]), (27, [5, 7, 17, 18, 19]), (28, [5, 7, 17, 18, 19, 21]), (26, [5, 7, 17, 18, 19]), (29, [5, 7, 17, 18]), (30, [7, 17, 18, 23])], lkp := [(9, [0, 3, 5, 6, 7, 8]), (13, [0, 3, 5, 6, 7, 8, 9, 10]), (25, [5, 7, 17, 18, 19])], lth := [(9, [5, 49, 6, 1])] }
def K_q1o_0 : Option (List Nat) := (some [0, 3, 5, 6, 7, 8, 9, 10])
def l_q1o_0 : ACode :=
 .seq (.seq (.region (some [0, 3, 5, 6, 7, 8, 9, 10]) [i 34 (.mv (.t 10)),
 i 35 (.mv (.t 0)),
 i 36 (.len false (.t 35)),
 i 37 (.mv (.t 8)),
 i 38 (.iaddrA 5 1 (.t 3) (.t 37)),
 i 39 (.load false 1 (.t 38)),
 i 40 (.conv .i64 (.t 39)),
 i 41 (.mv (.t 0)),
 i 42 (.len false (.t 41)),
 i 43 (.bin .add (.t 42) (.c (.d (.i .i64 1)))),
 i 44 (.bin .rem (.t 40) (.t 43)),
 i 45 (.bin .sub (.t 36) (.t 44)),
 i 46 (.bin .lss (.t 34) (.t 45))] [])
 (.cond (.t 46) (.skip) (.exit 2)))
 (.seq (.block 3 (.seq (.region (some [0, 3, 5, 6, 7, 8, 9, 10]) [i 50 (.load true 49 (.t 9)),
 i 51 (.call (.f F_q31) [.t 50]),
 i 49 (.mv (.t 51)),
 i 52 (.ext (.t 49) 0),
 i 53 (.ext (.t 49) 1),
 i 11 (.mv (.t 52)),
 i 12 (.mv (.t 53))] [])
 (.seq (.region (some [0, 3, 5, 6, 7, 8, 9, 10, 12]) [i 55 (.load true 49 (.t 9)),
 i 56 (.mv (.t 12)),
 i 57 (.bin .add (.t 56) (.c (.d (.i .u32 1)))),
 i 58 (.mv (.t 0)),
 i 59 (.mv (.t 10)),
 i 60 (.iaddrS 6 (.t 58) (.t 59)),
 i 61 (.load true 6 (.t 60)),
 i 62 (.build [.d (.i .u32 0), .d (.i .u32 0), .d (.i .u8 0), .d (.i .u32 0), .d (.i .u8 0), .d (.i .u8 0), .d (.i .u8 0), .d (.s ⟨#[]⟩)] [(0, 1, .c (.d (.i .u32 1))), (1, 1, .t 57), (2, 6, .t 61)]),
 i 63 (.call (.f F_q2x) [.t 55, .t 62]),
 i 54 (.mv (.t 63)),
 i 64 (.ext (.t 54) 0),
 i 65 (.ext (.t 54) 1),
 i 13 (.box (.c (.agg Pk.State.zeroA))),
 ⟨none, .store 49 (.t 13) (.t 64), none⟩,
 i 14 (.mv (.t 65))] [(0, 6), (0, 12), (6, 12), (8, 12)])
 (.seq (.region (some [0, 3, 5, 6, 7, 8, 9, 10, 13, 14]) [i 66 (.mv (.t 14)),
 i 67 (.bin .eql (.t 66) (.c (.d (.i .i64 0))))] [])
 (.cond (.t 67) (.region (some [0, 3, 5, 6, 7, 8, 9, 10, 13]) [i 68 (.load true 49 (.t 13)),
 ⟨none, .store 49 (.t 9) (.t 68), none⟩] []) (.skip))))))
 (.region (some [0, 3, 5, 6, 7, 8, 9, 10]) [i 47 (.mv (.t 10)),
 i 48 (.bin .add (.t 47) (.c (.d (.i .i64 1)))),
 i 10 (.mv (.t 48))] []))
def K_q1o_1 : Option (List Nat) := (some [0, 3, 5, 6, 7, 8])
def l_q1o_1 : ACode :=
 .seq (.seq (.region (some [0, 3, 5, 6, 7, 8]) [i 29 (.mv (.t 8)),
 i 30 (.bin .lss (.t 29) (.c (.d (.i .i64 5))))] [])
 (.cond (.t 30) (.skip) (.exit 0)))
 (.seq (.block 1 (.seq (.region (some [0, 3, 5, 6, 7, 8]) [i 33 (.build Pk.State.zeroA []),
 i 9 (.box (.c (.agg Pk.State.zeroA))),
 ⟨none, .store 49 (.t 9) (.t 33), none⟩] [])
 (.seq (.seq (.region (some [0, 3, 5, 6, 7, 8, 9]) [i 10 (.mv (.c (.d (.i .i64 0))))] [])
 (.block 2 (.loop K_q1o_0 [] l_q1o_0)))
 (.seq (.region (some [0, 3, 5, 6, 7, 8, 9]) [i 70 (.load true 49 (.t 9)),
 i 71 (.call (.f F_q31) [.t 70]),
 i 69 (.mv (.t 71)),
 i 72 (.ext (.t 69) 0),
 i 73 (.ext (.t 69) 1),
 i 15 (.mv (.t 72)),
 i 16 (.mv (.t 73))] [])
 (.seq (.region (some [0, 3, 5, 6, 7, 8, 9, 16]) [i 74 (.mv (.t 7)),
 i 75 (.mv (.t 16)),
 i 76 (.mm true [.t 74, .t 75]),
 i 7 (.mv (.t 76))] [])
 (.region (some [0, 3, 5, 6, 7, 8, 9]) [i 77 (.mv (.t 5)),
 i 78 (.load true 49 (.t 9)),
 i 79 (.bsl 49 [.t 78]),
 i 80 (.app 49 (.t 77) (.t 79)),
 i 81 (.mv (.t 6)),
 i 82 (.mv (.t 8)),
 i 83 (.bsl 1 [.t 82]),
 i 84 (.app 1 (.t 81) (.t 83)),
 i 5 (.mv (.t 80)),
 i 6 (.mv (.t 84))] []))))))
 (.region (some [0, 3, 5, 6, 7, 8]) [i 31 (.mv (.t 8)),
 i 32 (.bin .add (.t 31) (.c (.d (.i .i64 1)))),
 i 8 (.mv (.t 32))] []))
def K_q1o_2 : Option (List Nat) := (some [5, 7, 17, 18, 19])
def l_q1o_2 : ACode :=
 .seq (.seq (.region (some [5, 7, 17, 18, 19]) [i 89 (.mv (.t 19)),
 i 90 (.bin .lss (.t 89) (.c (.d (.i .i64 5))))] [])
 (.cond (.t 90) (.skip) (.exit 4)))
 (.seq (.block 5 (.seq (.region (some [5, 7, 17, 18, 19]) [i 94 (.mv (.t 5)),
 i 95 (.mv (.t 19)),
 i 96 (.iaddrS 49 (.t 94) (.t 95)),
 i 97 (.load true 49 (.t 96)),
 i 98 (.call (.f F_q31) [.t 97]),
 i 93 (.mv (.t 98)),
 i 99 (.ext (.t 93) 0),
 i 100 (.ext (.t 93) 1),
 i 20 (.mv (.t 99)),
 i 21 (.mv (.t 100))] [])
 (.region (some [5, 7, 17, 18, 19, 21]) [i 101 (.mv (.t 18)),
 i 102 (.mv (.t 7)),
 i 103 (.mv (.t 21)),
 i 104 (.bin .sub (.t 102) (.t 103)),
 i 105 (.conv .i64 (.t 104)),
 i 106 (.bin .add (.t 101) (.t 105)),
 i 18 (.mv (.t 106))] [])))
 (.region (some [5, 7, 17, 18, 19]) [i 91 (.mv (.t 19)),
 i 92 (.bin .add (.t 91) (.c (.d (.i .i64 1)))),
 i 19 (.mv (.t 92))] []))
def c_q1o : ACode :=
 .seq (.region (some [0, 1]) [i 3 (.box (.t 1)),
 i 4 (.mv (.c (.d (.b false))))] [])
 (.seq (.seq (.region (some [0, 3]) [i 24 (.call (.f F_q1s) []),
 i 25 (.un .not (.t 24))] [])
 (.cond (.t 25) (.seq (.region (some []) [i 4 (.mv (.c (.d (.b false))))] [])
 (.ret)) (.skip)))
 (.seq (.seq (.region (some [0, 3]) [i 26 (.mv (.t 0)),
 i 27 (.len false (.t 26)),
 i 28 (.bin .gtr (.t 27) (.c (.d (.i .i64 6))))] [])
 (.cond (.t 28) (.seq (.region (some []) [i 4 (.mv (.c (.d (.b true))))] [])
 (.ret)) (.skip)))
 (.seq (.region (some [0, 3]) [i 5 (.mv (.c (.nilS)))] [])
 (.seq (.region (some [0, 3, 5]) [i 6 (.mv (.c (.nilS)))] [])
 (.seq (.region (some [0, 3, 5, 6]) [i 7 (.mv (.c (.d (.i .u32 0))))] [])
 (.seq (.seq (.region (some [0, 3, 5, 6, 7]) [i 8 (.mv (.c (.d (.i .i64 0))))] [])
 (.block 0 (.loop K_q1o_1 [5, 49, 6, 1] l_q1o_1)))
 (.seq (.region (some [5, 6, 7]) [i 85 (.call (.f F_q0l) []),
 i 86 (.mv (.t 6)),
 i 87 (.mv (.t 5)),
 i 88 (.call (.f F_q3l) [.t 85, .c (.d (.i .u8 1)), .t 86, .t 87]),
 i 17 (.box (.c (.agg Pk.Plan.zeroA))),
 ⟨none, .store 3 (.t 17) (.t 88), none⟩] [])
 (.seq (.region (some [5, 7, 17]) [i 18 (.mv (.c (.d (.i .i64 0))))] [])
 (.seq (.seq (.region (some [5, 7, 17, 18]) [i 19 (.mv (.c (.d (.i .i64 0))))] [])
 (.block 4 (.loop K_q1o_2 [] l_q1o_2)))
 (.seq (.region (some [5, 7, 17, 18]) [i 108 (.mv (.t 5)),
 i 109 (.faddr 0 (.t 17)),
 i 110 (.load false 1 (.t 109)),
 i 111 (.iaddrS 49 (.t 108) (.t 110)),
 i 112 (.load true 49 (.t 111)),
 i 113 (.call (.f F_q31) [.t 112]),
 i 107 (.mv (.t 113)),
 i 114 (.ext (.t 107) 0),
 i 115 (.ext (.t 107) 1),
 i 22 (.mv (.t 114)),
 i 23 (.mv (.t 115))] [])
 (.seq (.region (some [7, 17, 18, 23]) [i 116 (.faddr 1 (.t 17)),
 i 117 (.load false 1 (.t 116)),
 i 118 (.un .not (.t 117)),
 i 119 (.mv (.t 118)),
 ⟨some 120, .mv (.t 23), some (119, true)⟩,
 ⟨some 121, .mv (.t 7), some (119, true)⟩,
 ⟨some 122, .bin .eql (.t 120) (.t 121), some (119, true)⟩,
 i 123 (.pick (.t 119) (.t 122) (.c (.d (.b false)))),
 i 124 (.mv (.t 123)),
 ⟨some 125, .load true 3 (.t 17), some (124, true)⟩,
 ⟨some 126, .call (.f F_q3j) [.t 125], some (124, true)⟩,
 ⟨some 127, .mv (.t 18), some (124, true)⟩,
 ⟨some 128, .bin .eql (.t 126) (.t 127), some (124, true)⟩,
 i 129 (.pick (.t 124) (.t 128) (.c (.d (.b false)))),
 i 4 (.mv (.t 129))] [])
 (.ret))))))))))))
def a_q1o : AFn := .code 2 c_q1o [.tmp 4]
set_option maxRecDepth 100000 in
theorem k_q1o : compF Tryz.prog h_q1o F_q1o = some a_q1o := by kernel_rfl

def h_q1s : Hints := { kp := [(0, []), (1, []), (2, [1]), (3, []), (4, [1]), (5, [1, 2]), (6, [1, 2, 3]), (7, [1, 3, 4]), (8, []), (9, [1, 3, 4]), (10, [1, 3, 4, 5]), (11, [1, 3, 4, 5, 6, 7]), (12, [5, 6, 7, 9])], lkp := [], lth := [] }
def c_q1s : ACode :=
 .seq (.region (some []) [i 0 (.mv (.c (.d (.b false))))] [])
 (.seq (.region (some []) [i 10 (.call (.f F_q0l) []),
 i 1 (.mv (.t 10))] [])
 (.seq (.seq (.region (some [1]) [i 11 (.mv (.t 1)),
 i 12 (.pnil false (.t 11))] [])
 (.cond (.t 12) (.seq (.region (some []) [i 0 (.mv (.c (.d (.b false))))] [])
 (.ret)) (.skip)))
 (.seq (.region (some [1]) [i 13 (.mv (.t 1)),
 i 14 (.call (.f F_q0f) [.t 13, .c (.d (.i .u8 0))]),
 i 2 (.mv (.t 14))] [])
 (.seq (.region (some [1, 2]) [i 15 (.build Pk.State.zeroA []),
 i 16 (.build Pk.State.zeroA []),
 i 17 (.build [.d (.i .u8 0), .d (.i .u32 0), .d (.i .u8 0), .d (.i .u8 0), .d (.i .u8 0), .d (.s ⟨#[]⟩)] [(0, 1, .c (.d (.i .u8 1))), (1, 1, .c (.d (.i .u32 1))), (2, 1, .c (.d (.i .u8 1)))]),
 i 18 (.build [.d (.i .u32 0), .d (.i .u32 0), .d (.i .u8 0), .d (.i .u32 0), .d (.i .u8 0), .d (.i .u8 0), .d (.i .u8 0), .d (.s ⟨#[]⟩)] [(0, 1, .c (.d (.i .u32 1))), (1, 1, .c (.d (.i .u32 1))), (2, 6, .t 17)]),
 i 19 (.bsl 8 [.t 18]),
 i 20 (.build Pk.State.zeroA [(48, 1, .t 19)]),
 i 21 (.bsl 49 [.t 15, .t 16, .t 20]),
 i 3 (.mv (.t 21))] [])
 (.seq (.region (some [1, 2, 3]) [i 22 (.mv (.t 2)),
 i 23 (.call (.f F_q1t) [.t 22]),
 i 4 (.mv (.t 23))] [])
 (.seq (.seq (.region (some [1, 3, 4]) [i 24 (.mv (.t 4)),
 i 25 (.len false (.t 24)),
 i 26 (.bin .neq (.t 25) (.c (.d (.i .i64 3))))] [])
 (.cond (.t 26) (.seq (.region (some []) [i 0 (.mv (.c (.d (.b false))))] [])
 (.ret)) (.skip)))
 (.seq (.region (some [1, 3, 4]) [i 27 (.mv (.t 1)),
 i 28 (.mv (.t 4)),
 i 29 (.mv (.t 3)),
 i 30 (.call (.f F_q3l) [.t 27, .c (.d (.i .u8 0)), .t 28, .t 29]),
 i 5 (.box (.c (.agg Pk.Plan.zeroA))),
 ⟨none, .store 3 (.t 5) (.t 30), none⟩] [])
 (.seq (.region (some [1, 3, 4, 5]) [i 32 (.load true 3 (.t 5)),
 i 33 (.mv (.t 4)),
 i 34 (.mv (.t 3)),
 i 35 (.call (.f F_q3k) [.t 32, .t 33, .t 34, .c (.d (.i .u32 1))]),
 i 31 (.mv (.t 35)),
 i 36 (.ext (.t 31) 0),
 i 37 (.ext (.t 31) 1),
 i 6 (.mv (.t 36)),
 i 7 (.mv (.t 37))] [])
 (.seq (.region (some [1, 3, 4, 5, 6, 7]) [i 39 (.mv (.t 1)),
 i 40 (.mv (.t 4)),
 i 41 (.slice 1 (.t 40) none (some (.c (.d (.i .i64 1)))) none),
 i 42 (.mv (.t 3)),
 i 43 (.slice 49 (.t 42) none (some (.c (.d (.i .i64 1)))) none),
 i 44 (.call (.f F_q3l) [.t 39, .c (.d (.i .u8 0)), .t 41, .t 43]),
 i 45 (.mv (.t 4)),
 i 46 (.slice 1 (.t 45) none (some (.c (.d (.i .i64 1)))) none),
 i 47 (.mv (.t 3)),
 i 48 (.slice 49 (.t 47) none (some (.c (.d (.i .i64 1)))) none),
 i 49 (.call (.f F_q3k) [.t 44, .t 46, .t 48, .c (.d (.i .u32 1))]),
 i 38 (.mv (.t 49)),
 i 50 (.ext (.t 38) 0),
 i 51 (.ext (.t 38) 1),
 i 8 (.mv (.t 50)),
 i 9 (.mv (.t 51))] [])
 (.seq (.region (some [5, 6, 7, 9]) [i 52 (.faddr 1 (.t 5)),
 i 53 (.load false 1 (.t 52)),
 i 54 (.un .not (.t 53)),
 i 55 (.mv (.t 54)),
 ⟨some 56, .faddr 0 (.t 5), some (55, true)⟩,
 ⟨some 57, .load false 1 (.t 56), some (55, true)⟩,
 ⟨some 58, .bin .eql (.t 57) (.c (.d (.i .i64 2))), some (55, true)⟩,
 i 59 (.pick (.t 55) (.t 58) (.c (.d (.b false)))),
 i 60 (.mv (.t 59)),
 ⟨some 61, .load true 3 (.t 5), some (60, true)⟩,
 ⟨some 62, .call (.f F_q3j) [.t 61], some (60, true)⟩,
 ⟨some 63, .bin .eql (.t 62) (.c (.d (.i .i64 2))), some (60, true)⟩,
 i 64 (.pick (.t 60) (.t 63) (.c (.d (.b false)))),
 i 65 (.mv (.t 64)),
 ⟨some 66, .mv (.t 7), some (65, true)⟩,
 ⟨some 67, .bin .eql (.t 66) (.c (.d (.i .i64 0))), some (65, true)⟩,
 i 68 (.pick (.t 65) (.t 67) (.c (.d (.b false)))),
 i 69 (.mv (.t 68)),
 ⟨some 70, .mv (.t 6), some (69, true)⟩,
 ⟨some 71, .len false (.t 70), some (69, true)⟩,
 ⟨some 72, .bin .eql (.t 71) (.c (.d (.i .i64 3))), some (69, true)⟩,
 i 73 (.pick (.t 69) (.t 72) (.c (.d (.b false)))),
 i 74 (.mv (.t 73)),
 ⟨some 75, .mv (.t 6), some (74, true)⟩,
 ⟨some 76, .iaddrS 49 (.t 75) (.c (.d (.i .i64 0))), some (74, true)⟩,
 ⟨some 77, .faddr 48 (.t 76), some (74, true)⟩,
 ⟨some 78, .load false 1 (.t 77), some (74, true)⟩,
 ⟨some 79, .len false (.t 78), some (74, true)⟩,
 ⟨some 80, .bin .eql (.t 79) (.c (.d (.i .i64 1))), some (74, true)⟩,
 i 81 (.pick (.t 74) (.t 80) (.c (.d (.b false)))),
 i 82 (.mv (.t 81)),
 ⟨some 83, .mv (.t 6), some (82, true)⟩,
 ⟨some 84, .iaddrS 49 (.t 83) (.c (.d (.i .i64 1))), some (82, true)⟩,
 ⟨some 85, .faddr 0 (.t 84), some (82, true)⟩,
 ⟨some 86, .load false 1 (.t 85), some (82, true)⟩,
 ⟨some 87, .bin .eql (.t 86) (.c (.d (.i .u32 1))), some (82, true)⟩,
 i 88 (.pick (.t 82) (.t 87) (.c (.d (.b false)))),
 i 89 (.mv (.t 88)),
 ⟨some 90, .mv (.t 9), some (89, true)⟩,
 ⟨some 91, .bin .eql (.t 90) (.c (.d (.i .i64 80))), some (89, true)⟩,
 i 92 (.pick (.t 89) (.t 91) (.c (.d (.b false)))),
 i 0 (.mv (.t 92))] [])
 (.ret)))))))))))
def a_q1s : AFn := .code 0 c_q1s [.tmp 0]
set_option maxRecDepth 100000 in
theorem k_q1s : compF Tryz.prog h_q1s F_q1s = some a_q1s := by kernel_rfl

def h_q31 : Hints := { kp := [(0, [0]), (1, [1]), (2, []), (3, [1]), (4, [4])], lkp := [], lth := [] }
def c_q31 : ACode :=
 .seq (.region (some [0]) [i 1 (.box (.t 0)),
 i 2 (.mv (.c (.d (.i .u32 0)))),
 i 3 (.mv (.c (.d (.i .u32 0))))] [])
 (.seq (.seq (.region (some [1]) [i 5 (.load true 49 (.t 1)),
 i 6 (.call (.f F_q32) [.t 5]),
 i 7 (.un .not (.t 6))] [])
 (.cond (.t 7) (.seq (.region (some []) [i 2 (.mv (.c (.d (.i .u32 0)))),
 i 3 (.mv (.c (.d (.i .u32 0))))] [])
 (.ret)) (.skip)))
 (.seq (.region (some [1]) [i 8 (.load true 49 (.t 1)),
 i 9 (.call (.f F_q38) [.t 8]),
 i 4 (.box (.c (.d (.agg [.i .u32 0, .i .u32 0, .i .u8 0, .i .u32 0, .i .u8 0, .i .u8 0, .i .u8 0, .s ⟨#[]⟩])))),
 ⟨none, .store 8 (.t 4) (.t 9), none⟩] [])
 (.seq (.region (some [4]) [i 10 (.faddr 0 (.t 4)),
 i 11 (.load false 1 (.t 10)),
 i 12 (.faddr 1 (.t 4)),
 i 13 (.load false 1 (.t 12)),
 i 2 (.mv (.t 11)),
 i 3 (.mv (.t 13))] [(1, 3)])
 (.ret))))
def a_q31 : AFn := .code 1 c_q31 [.tmp 2, .tmp 3]
set_option maxRecDepth 100000 in
theorem k_q31 : compF Tryz.prog h_q31 F_q31 = some a_q31 := by kernel_rfl

def h_q2x : Hints := { kp := [(0, [0, 1]), (1, [2, 3, 4]), (2, [4]), (3, [2, 3, 4]), (4, [2, 4])], lkp := [], lth := [] }
def c_q2x : ACode :=
 .seq (.region (some [0, 1]) [i 2 (.box (.t 0)),
 i 3 (.box (.t 1)),
 i 4 (.box (.c (.agg Pk.State.zeroA))),
 i 5 (.mv (.c (.d (.i .i64 0))))] [])
 (.seq (.seq (.region (some [2, 3, 4]) [i 6 (.load true 49 (.t 2)),
 i 7 (.call (.f F_q32) [.t 6]),
 i 8 (.un .not (.t 7)),
 i 9 (.mv (.t 8)),
 ⟨some 10, .load true 49 (.t 2), some (9, false)⟩,
 ⟨some 11, .call (.f F_q38) [.t 10], some (9, false)⟩,
 ⟨some 12, .load true 8 (.t 3), some (9, false)⟩,
 ⟨some 13, .call (.f F_q39) [.t 11, .t 12], some (9, false)⟩,
 ⟨some 14, .un .not (.t 13), some (9, false)⟩,
 i 15 (.pick (.t 9) (.c (.d (.b true))) (.t 14))] [(4, 6), (5, 6)])
 (.cond (.t 15) (.seq (.region (some [4]) [i 16 (.build Pk.State.zeroA []),
 ⟨none, .store 49 (.t 4) (.t 16), none⟩,
 i 5 (.mv (.c (.d (.i .i64 10))))] [])
 (.ret)) (.skip)))
 (.seq (.region (some [2, 3, 4]) [i 17 (.faddr 48 (.t 2)),
 i 18 (.load false 1 (.t 17)),
 i 19 (.call (.f F_q40) [.t 18]),
 i 20 (.load true 8 (.t 3)),
 i 21 (.bsl 8 [.t 20]),
 i 22 (.app 8 (.t 19) (.t 21)),
 i 23 (.faddr 48 (.t 2)),
 ⟨none, .store 1 (.t 23) (.t 22), none⟩] [(1, 3), (2, 3), (1, 4), (2, 4)])
 (.seq (.region (some [2, 4]) [i 24 (.load true 49 (.t 2)),
 i 25 (.faddr 48 (.t 2)),
 i 26 (.load false 1 (.t 25)),
 i 27 (.len false (.t 26)),
 i 28 (.bin .sub (.t 27) (.c (.d (.i .i64 6)))),
 i 29 (.mm true [.t 28, .c (.d (.i .i64 0))]),
 i 30 (.call (.f F_q37) [.t 24, .t 29]),
 ⟨none, .store 49 (.t 4) (.t 30), none⟩,
 i 5 (.mv (.c (.d (.i .i64 0))))] [])
 (.ret))))
def a_q2x : AFn := .code 2 c_q2x [.cell true 49 4, .tmp 5]
set_option maxRecDepth 100000 in
theorem k_q2x : compF Tryz.prog h_q2x F_q2x = some a_q2x := by kernel_rfl

def h_q3l : Hints := { dat := true, kp := [(0, [0, 1, 2, 3]), (1, [0, 1, 2, 3, 8]), (2, [0, 1, 2, 3, 8, 9]), (3, [8, 9]), (4, [0, 1, 2, 3, 8, 9]), (5, [0, 1, 2, 3, 8, 9, 10]), (7, [0, 1, 2, 3, 8, 9, 10]), (8, [8, 9]), (6, [0, 1, 2, 3, 8, 9, 10]), (9, [0, 1, 2, 3, 8]), (10, [0, 1, 2, 3, 8, 11]), (11, [3, 8, 11, 12]), (12, [8, 12]), (13, [3, 8, 11, 12]), (14, [3, 8, 12, 13]), (15, [8, 12, 13, 65, 66, 67]), (16, [8, 12, 13, 65, 66, 67]), (17, [8, 12, 13, 15, 65, 66, 67]), (18, [8, 12, 13, 65, 66, 67]), (19, [8, 12])], lkp := [(5, [0, 1, 2, 3, 8, 9, 10]), (15, [8, 12, 13, 65, 66, 67])], lth := [] }
def K_q3l_0 : Option (List Nat) := (some [0, 1, 2, 3, 8, 9, 10])
def l_q3l_0 : ACode :=
 .seq (.seq (.region (some [0, 1, 2, 3, 8, 9, 10]) [i 27 (.mv (.t 10)),
 i 28 (.mv (.t 2)),
 i 29 (.len false (.t 28)),
 i 30 (.bin .lss (.t 27) (.t 29))] [])
 (.cond (.t 30) (.skip) (.exit 0)))
 (.seq (.block 1 (.seq (.region (some [0, 1, 2, 3, 8, 9, 10]) [i 33 (.mv (.t 2)),
 i 34 (.mv (.t 10)),
 i 35 (.bin .sub (.t 34) (.c (.d (.i .i64 1)))),
 i 36 (.iaddrS 1 (.t 33) (.t 35)),
 i 37 (.load false 1 (.t 36)),
 i 38 (.mv (.t 2)),
 i 39 (.mv (.t 10)),
 i 40 (.iaddrS 1 (.t 38) (.t 39)),
 i 41 (.load false 1 (.t 40)),
 i 42 (.bin .geq (.t 37) (.t 41))] [(4, 8)])
 (.cond (.t 42) (.seq (.region (some [8, 9]) [i 43 (.load true 3 (.t 9)),
 ⟨none, .store 3 (.t 8) (.t 43), none⟩] [])
 (.ret)) (.skip))))
 (.region (some [0, 1, 2, 3, 8, 9, 10]) [i 31 (.mv (.t 10)),
 i 32 (.bin .add (.t 31) (.c (.d (.i .i64 1)))),
 i 10 (.mv (.t 32))] []))
def K_q3l_1 : Option (List Nat) := (some [8, 12, 13, 65, 66, 67])
def l_q3l_1 : ACode :=
 .seq (.region (some [8, 12, 13, 65, 66, 67]) [i 68 (.bin .lss (.t 67) (.t 66))] [])
 (.seq (.cond (.t 68) (.skip) (.exit 2))
 (.seq (.block 3 (.seq (.region (some [8, 12, 13, 65, 66, 67]) [i 69 (.iaddrS 49 (.t 65) (.t 67)),
 i 70 (.load true 49 (.t 69)),
 i 15 (.box (.c (.agg Pk.State.zeroA))),
 ⟨none, .store 49 (.t 15) (.t 70), none⟩] [])
 (.region (some [8, 12, 13, 15, 65, 66, 67]) [i 71 (.faddr 2 (.t 12)),
 i 72 (.load false 1 (.t 71)),
 i 73 (.mv (.t 13)),
 i 74 (.load true 49 (.t 15)),
 i 75 (.call (.t 73) [.t 74]),
 i 76 (.bsl 52 [.t 75]),
 i 77 (.app 52 (.t 72) (.t 76)),
 i 78 (.faddr 2 (.t 12)),
 ⟨none, .store 1 (.t 78) (.t 77), none⟩] [(1, 3), (1, 4), (1, 5)])))
 (.region (some [8, 12, 13, 65, 66, 67]) [i 79 (.bin .add (.t 67) (.c (.d (.i .i64 1)))),
 i 67 (.mv (.t 79))] [])))
def c_q3l : ACode :=
 .seq (.region (some [0, 1, 2, 3]) [i 8 (.box (.c (.agg Pk.Plan.zeroA)))] [])
 (.seq (.region (some [0, 1, 2, 3, 8]) [i 16 (.build Pk.Plan.zeroA [(0, 1, .c (.d (.i .i64 (-1)))), (1, 1, .c (.d (.b true)))]),
 i 9 (.box (.c (.agg Pk.Plan.zeroA))),
 ⟨none, .store 3 (.t 9) (.t 16), none⟩] [])
 (.seq (.seq (.region (some [0, 1, 2, 3, 8, 9]) [i 17 (.mv (.t 2)),
 i 18 (.len false (.t 17)),
 i 19 (.mv (.t 3)),
 i 20 (.len false (.t 19)),
 i 21 (.bin .neq (.t 18) (.t 20)),
 i 22 (.mv (.t 21)),
 ⟨some 23, .mv (.t 3), some (22, false)⟩,
 ⟨some 24, .call (.f F_q43) [.t 23, .f F_q3m], some (22, false)⟩,
 i 25 (.pick (.t 22) (.c (.d (.b true))) (.t 24))] [])
 (.cond (.t 25) (.seq (.region (some [8, 9]) [i 26 (.load true 3 (.t 9)),
 ⟨none, .store 3 (.t 8) (.t 26), none⟩] [])
 (.ret)) (.skip)))
 (.seq (.seq (.region (some [0, 1, 2, 3, 8, 9]) [i 10 (.mv (.c (.d (.i .i64 1))))] [])
 (.block 0 (.loop K_q3l_0 [] l_q3l_0)))
 (.seq (.region (some [0, 1, 2, 3, 8]) [i 44 (.mv (.t 2)),
 i 45 (.mv (.t 3)),
 i 46 (.call (.f F_q03) [.t 44, .t 45]),
 i 11 (.mv (.t 46))] [])
 (.seq (.region (some [0, 1, 2, 3, 8, 11]) [i 47 (.mv (.t 11)),
 i 48 (.mv (.t 0)),
 i 49 (.mv (.t 1)),
 i 50 (.mv (.t 2)),
 i 51 (.mv (.t 3)),
 i 52 (.call (.f F_q09) [.t 51]),
 i 53 (.call (.f F_q05) [.t 48, .t 49, .t 50, .t 52]),
 i 54 (.un .not (.t 53)),
 i 55 (.build Pk.Plan.zeroA [(0, 1, .t 47), (1, 1, .t 54)]),
 i 12 (.box (.c (.agg Pk.Plan.zeroA))),
 ⟨none, .store 3 (.t 12) (.t 55), none⟩] [])
 (.seq (.seq (.region (some [3, 8, 11, 12]) [i 56 (.mv (.t 11)),
 i 57 (.bin .lss (.t 56) (.c (.d (.i .i64 0))))] [])
 (.cond (.t 57) (.seq (.region (some [8, 12]) [i 58 (.load true 3 (.t 12)),
 ⟨none, .store 3 (.t 8) (.t 58), none⟩] [])
 (.ret)) (.skip)))
 (.seq (.region (some [3, 8, 11, 12]) [i 59 (.mv (.t 3)),
 i 60 (.mv (.t 11)),
 i 61 (.iaddrS 49 (.t 59) (.t 60)),
 i 62 (.load true 49 (.t 61)),
 i 63 (.build Pk.State.zeroA [(0, 49, .t 62)]),
 i 64 (.mkfn F_q3n [.t 63] []),
 i 13 (.mv (.t 64))] [])
 (.seq (.seq (.region (some [3, 8, 12, 13]) [i 65 (.mv (.t 3)),
 i 66 (.len false (.t 65)),
 i 67 (.mv (.c (.d (.i .i64 0))))] [])
 (.block 2 (.loop K_q3l_1 [] l_q3l_1)))
 (.seq (.region (some [8, 12]) [i 80 (.load true 3 (.t 12)),
 ⟨none, .store 3 (.t 8) (.t 80), none⟩] [])
 (.ret))))))))))
def a_q3l : AFn := .code 4 c_q3l [.dat (.cell true 3 8)]
set_option maxRecDepth 100000 in
theorem k_q3l : compF Tryz.prog h_q3l F_q3l = some a_q3l := by kernel_rfl

def h_q0l : Hints := { kp := [(0, []), (1, []), (2, [1]), (3, [1])], lkp := [], lth := [] }
def c_q0l : ACode :=
 .seq (.region (some []) [i 0 (.mv (.c (.one)))] [])
 (.seq (.region (some []) [i 2 (.mkmap .u32),
 i 3 (.mkmap .u32),
 i 4 (.build [.one, .one, .d (.i .u32 0), .nilS, .nilS, .nilS, .nilS] [(0, 1, .t 2), (1, 1, .t 3)]),
 i 5 (.box (.t 4)),
 i 1 (.mv (.t 5))] [])
 (.seq (.region (some [1]) [i 6 (.mv (.t 1)),
 i 7 (.call (.f F_q0v) []),
 i 8 (.call (.f F_q0k) [.t 6, .t 7])] [])
 (.seq (.region (some [1]) [i 9 (.mv (.t 1)),
 i 0 (.mv (.t 9))] [])
 (.ret))))
def a_q0l : AFn := .code 0 c_q0l [.tmp 0]
set_option maxRecDepth 100000 in
theorem k_q0l : compF Tryz.prog h_q0l F_q0l = some a_q0l := by kernel_rfl

def h_q3j : Hints := { kp := [(0, [0]), (1, [1]), (2, [1, 3]), (3, [3, 7, 8, 9]), (4, [3, 7, 8, 9]), (5, [3, 5, 7, 8, 9]), (6, [3, 7, 8, 9]), (7, [3])], lkp := [(3, [3, 7, 8, 9])], lth := [] }
def K_q3j_0 : Option (List Nat) := (some [3, 7, 8, 9])
def l_q3j_0 : ACode :=
 .seq (.region (some [3, 7, 8, 9]) [i 10 (.bin .lss (.t 9) (.t 8))] [])
 (.seq (.cond (.t 10) (.skip) (.exit 0))
 (.seq (.block 1 (.seq (.region (some [3, 7, 8, 9]) [i 11 (.iaddrS 52 (.t 7) (.t 9)),
 i 12 (.load true 52 (.t 11)),
 i 5 (.box (.c (.agg Pk.Diff.zeroA))),
 ⟨none, .store 52 (.t 5) (.t 12), none⟩] [])
 (.region (some [3, 5, 7, 8, 9]) [i 13 (.mv (.t 3)),
 i 14 (.load true 52 (.t 5)),
 i 15 (.call (.f F_q17) [.t 14]),
 i 16 (.bin .add (.t 13) (.t 15)),
 i 3 (.mv (.t 16))] [])))
 (.region (some [3, 7, 8, 9]) [i 17 (.bin .add (.t 9) (.c (.d (.i .i64 1)))),
 i 9 (.mv (.t 17))] [])))
def c_q3j : ACode :=
 .seq (.region (some [0]) [i 1 (.box (.t 0)),
 i 2 (.mv (.c (.d (.i .i64 0))))] [])
 (.seq (.region (some [1]) [i 3 (.mv (.c (.d (.i .i64 0))))] [])
 (.seq (.seq (.region (some [1, 3]) [i 6 (.faddr 2 (.t 1)),
 i 7 (.load false 1 (.t 6)),
 i 8 (.len false (.t 7)),
 i 9 (.mv (.c (.d (.i .i64 0))))] [])
 (.block 0 (.loop K_q3j_0 [] l_q3j_0)))
 (.seq (.region (some [3]) [i 18 (.mv (.t 3)),
 i 2 (.mv (.t 18))] [])
 (.ret))))
def a_q3j : AFn := .code 1 c_q3j [.tmp 2]
set_option maxRecDepth 100000 in
theorem k_q3j : compF Tryz.prog h_q3j F_q3j = some a_q3j := by kernel_rfl

def h_q3k : Hints := { dat := true, kp := [(0, [0, 1, 2, 3]), (1, [1, 2, 3, 4]), (2, []), (3, [2, 3, 4]), (4, [2, 3, 4, 10]), (5, [3, 4, 10, 32, 33, 34]), (6, [3, 4, 10, 32, 33, 34]), (7, [3, 4, 10, 11, 12, 32, 33, 34]), (8, [3, 4, 10, 13, 14, 32, 33, 34]), (9, []), (10, [3, 4, 10, 13, 32, 33, 34]), (11, [3, 4, 10, 13, 32, 33, 34]), (12, [3, 4, 10, 32, 33, 34]), (13, [10])], lkp := [(5, [3, 4, 10, 32, 33, 34])], lth := [(5, [10, 49])] }
def K_q3k_0 : Option (List Nat) := (some [3, 4, 10, 32, 33, 34])
def l_q3k_0 : ACode :=
 .seq (.region (some [3, 4, 10, 32, 33, 34]) [i 35 (.bin .lss (.t 34) (.t 33))] [])
 (.seq (.cond (.t 35) (.skip) (.exit 0))
 (.seq (.block 1 (.seq (.region (some [3, 4, 10, 32, 33, 34]) [i 36 (.mv (.t 34)),
 i 37 (.iaddrS 49 (.t 32) (.t 34)),
 i 38 (.load true 49 (.t 37)),
 i 12 (.box (.c (.agg Pk.State.zeroA))),
 i 11 (.mv (.t 36)),
 ⟨none, .store 49 (.t 12) (.t 38), none⟩] [])
 (.seq (.region (some [3, 4, 10, 11, 12, 32, 33, 34]) [i 40 (.load true 49 (.t 12)),
 i 41 (.faddr 2 (.t 4)),
 i 42 (.load false 1 (.t 41)),
 i 43 (.mv (.t 11)),
 i 44 (.iaddrS 52 (.t 42) (.t 43)),
 i 45 (.load true 52 (.t 44)),
 i 46 (.call (.f F_q15) [.t 40, .t 45]),
 i 39 (.mv (.t 46)),
 i 47 (.ext (.t 39) 0),
 i 48 (.ext (.t 39) 1),
 i 13 (.box (.c (.agg Pk.State.zeroA))),
 ⟨none, .store 49 (.t 13) (.t 47), none⟩,
 i 14 (.mv (.t 48))] [(0, 2), (0, 5), (0, 10), (2, 10), (5, 10), (6, 10)])
 (.seq (.seq (.region (some [3, 4, 10, 13, 14, 32, 33, 34]) [i 49 (.mv (.t 14)),
 i 50 (.bin .neq (.t 49) (.c (.d (.i .i64 0))))] [])
 (.cond (.t 50) (.seq (.region (some []) [i 8 (.mv (.c (.nilS))),
 i 9 (.mv (.c (.d (.i .i64 80))))] [])
 (.ret)) (.skip)))
 (.seq (.region (some [3, 4, 10, 13, 32, 33, 34]) [i 51 (.mv (.t 3)),
 i 52 (.faddr 0 (.t 13)),
 ⟨none, .store 1 (.t 52) (.t 51), none⟩] [])
 (.region (some [3, 4, 10, 13, 32, 33, 34]) [i 53 (.mv (.t 10)),
 i 54 (.load true 49 (.t 13)),
 i 55 (.bsl 49 [.t 54]),
 i 56 (.app 49 (.t 53) (.t 55)),
 i 10 (.mv (.t 56))] []))))))
 (.region (some [3, 4, 10, 32, 33, 34]) [i 57 (.bin .add (.t 34) (.c (.d (.i .i64 1)))),
 i 34 (.mv (.t 57))] [])))
def c_q3k : ACode :=
 .seq (.region (some [0, 1, 2, 3]) [i 4 (.box (.t 0)),
 i 8 (.mv (.c (.nilS))),
 i 9 (.mv (.c (.d (.i .i64 0))))] [])
 (.seq (.seq (.region (some [1, 2, 3, 4]) [i 15 (.mv (.t 1)),
 i 16 (.len false (.t 15)),
 i 17 (.mv (.t 2)),
 i 18 (.len false (.t 17)),
 i 19 (.bin .neq (.t 16) (.t 18)),
 i 20 (.mv (.t 19)),
 ⟨some 21, .faddr 2 (.t 4), some (20, false)⟩,
 ⟨some 22, .load false 1 (.t 21), some (20, false)⟩,
 ⟨some 23, .len false (.t 22), some (20, false)⟩,
 ⟨some 24, .mv (.t 2), some (20, false)⟩,
 ⟨some 25, .len false (.t 24), some (20, false)⟩,
 ⟨some 26, .bin .neq (.t 23) (.t 25), some (20, false)⟩,
 i 27 (.pick (.t 20) (.c (.d (.b true))) (.t 26)),
 i 28 (.mv (.t 27)),
 ⟨some 29, .faddr 1 (.t 4), some (28, false)⟩,
 ⟨some 30, .load false 1 (.t 29), some (28, false)⟩,
 i 31 (.pick (.t 28) (.c (.d (.b true))) (.t 30))] [])
 (.cond (.t 31) (.seq (.region (some []) [i 8 (.mv (.c (.nilS))),
 i 9 (.mv (.c (.d (.i .i64 80))))] [])
 (.ret)) (.skip)))
 (.seq (.region (some [2, 3, 4]) [i 10 (.mv (.c (.nilS)))] [])
 (.seq (.seq (.region (some [2, 3, 4, 10]) [i 32 (.mv (.t 2)),
 i 33 (.len false (.t 32)),
 i 34 (.mv (.c (.d (.i .i64 0))))] [])
 (.block 0 (.loop K_q3k_0 [10, 49] l_q3k_0)))
 (.seq (.region (some [10]) [i 58 (.mv (.t 10)),
 i 8 (.mv (.t 58)),
 i 9 (.mv (.c (.d (.i .i64 0))))] [])
 (.ret)))))
def a_q3k : AFn := .code 4 c_q3k [.dat (.tmp 8), .dat (.tmp 9)]
set_option maxRecDepth 100000 in
theorem k_q3k : compF Tryz.prog h_q3k F_q3k = some a_q3k := by kernel_rfl

def h_q0f : Hints := { dat := true, kp := [(0, [0, 1]), (1, [0, 1])], lkp := [], lth := [] }
def c_q0f : ACode :=
 .seq (.region (some [0, 1]) [i 4 (.mv (.c (.nilS)))] [])
 (.seq (.region (some [0, 1]) [i 5 (.mv (.t 0)),
 i 6 (.mv (.t 1)),
 i 7 (.call (.f F_q0j) [.t 5, .t 6]),
 i 8 (.field false 1 1 (.t 7)),
 i 9 (.call (.f F_q42) [.t 8]),
 i 4 (.mv (.t 9))] [])
 (.ret))
def a_q0f : AFn := .code 2 c_q0f [.dat (.tmp 4)]
set_option maxRecDepth 100000 in
theorem k_q0f : compF Tryz.prog h_q0f F_q0f = some a_q0f := by kernel_rfl

def h_q1t : Hints := { kp := [(0, [0]), (1, [0]), (2, [0, 3]), (3, [0, 3, 4]), (5, [0, 3, 4]), (6, [0, 3, 4]), (4, [0, 3, 4]), (7, [3])], lkp := [(3, [0, 3, 4])], lth := [(3, [3, 1])] }
def K_q1t_0 : Option (List Nat) := (some [0, 3, 4])
def l_q1t_0 : ACode :=
 .seq (.seq (.region (some [0, 3, 4]) [i 5 (.mv (.t 4)),
 i 6 (.bin .lss (.t 5) (.c (.d (.i .i64 5))))] [])
 (.cond (.t 6) (.skip) (.exit 0)))
 (.seq (.block 1 (.seq (.region (some [0, 3, 4]) [i 9 (.mv (.t 0)),
 i 10 (.mv (.t 4)),
 i 11 (.call (.f F_q27) [.t 9, .t 10])] [])
 (.cond (.t 11) (.region (some [0, 3, 4]) [i 12 (.mv (.t 3)),
 i 13 (.mv (.t 4)),
 i 14 (.bsl 1 [.t 13]),
 i 15 (.app 1 (.t 12) (.t 14)),
 i 3 (.mv (.t 15))] []) (.skip))))
 (.region (some [0, 3, 4]) [i 7 (.mv (.t 4)),
 i 8 (.bin .add (.t 7) (.c (.d (.i .i64 1)))),
 i 4 (.mv (.t 8))] []))
def c_q1t : ACode :=
 .seq (.region (some [0]) [i 2 (.mv (.c (.nilS)))] [])
 (.seq (.region (some [0]) [i 3 (.mv (.c (.nilS)))] [])
 (.seq (.seq (.region (some [0, 3]) [i 4 (.mv (.c (.d (.i .i64 0))))] [])
 (.block 0 (.loop K_q1t_0 [3, 1] l_q1t_0)))
 (.seq (.region (some [3]) [i 16 (.mv (.t 3)),
 i 2 (.mv (.t 16))] [])
 (.ret))))
def a_q1t : AFn := .code 1 c_q1t [.tmp 2]
set_option maxRecDepth 100000 in
theorem k_q1t : compF Tryz.prog h_q1t F_q1t = some a_q1t := by kernel_rfl

def h_q32 : Hints := { kp := [(0, [0]), (1, [1]), (2, []), (3, [1]), (4, [1, 3]), (5, [3, 37, 38, 39]), (6, [3, 37, 38, 39]), (7, [3, 5, 37, 38, 39]), (8, []), (9, [3, 5, 37, 38, 39]), (10, [3, 37, 38, 39]), (11, [])], lkp := [(5, [3, 37, 38, 39])], lth := [] }
def K_q32_0 : Option (List Nat) := (some [3, 37, 38, 39])
def l_q32_0 : ACode :=
 .seq (.region (some [3, 37, 38, 39]) [i 40 (.bin .lss (.t 39) (.t 38))] [])
 (.seq (.cond (.t 40) (.skip) (.exit 0))
 (.seq (.block 1 (.seq (.region (some [3, 37, 38, 39]) [i 41 (.iaddrS 8 (.t 37) (.t 39)),
 i 42 (.load true 8 (.t 41)),
 i 5 (.box (.c (.d (.agg [.i .u32 0, .i .u32 0, .i .u8 0, .i .u32 0, .i .u8 0, .i .u8 0, .i .u8 0, .s ⟨#[]⟩])))),
 ⟨none, .store 8 (.t 5) (.t 42), none⟩] [])
 (.seq (.seq (.region (some [3, 5, 37, 38, 39]) [i 43 (.load true 8 (.t 3)),
 i 44 (.load true 8 (.t 5)),
 i 45 (.call (.f F_q39) [.t 43, .t 44]),
 i 46 (.un .not (.t 45))] [])
 (.cond (.t 46) (.seq (.region (some []) [i 2 (.mv (.c (.d (.b false))))] [])
 (.ret)) (.skip)))
 (.region (some [3, 5, 37, 38, 39]) [i 47 (.load true 8 (.t 5)),
 ⟨none, .store 8 (.t 3) (.t 47), none⟩] []))))
 (.region (some [3, 37, 38, 39]) [i 48 (.bin .add (.t 39) (.c (.d (.i .i64 1)))),
 i 39 (.mv (.t 48))] [])))
def c_q32 : ACode :=
 .seq (.region (some [0]) [i 1 (.box (.t 0)),
 i 2 (.mv (.c (.d (.b false))))] [])
 (.seq (.seq (.region (some [1]) [i 6 (.faddr 0 (.t 1)),
 i 7 (.load false 1 (.t 6)),
 i 8 (.bin .gtr (.t 7) (.c (.d (.i .u32 60)))),
 i 9 (.mv (.t 8)),
 ⟨some 10, .faddr 40 (.t 1), some (9, false)⟩,
 ⟨some 11, .faddr 0 (.t 10), some (9, false)⟩,
 ⟨some 12, .load false 1 (.t 11), some (9, false)⟩,
 ⟨some 13, .bin .gtr (.t 12) (.c (.d (.i .u32 60))), some (9, false)⟩,
 i 14 (.pick (.t 9) (.c (.d (.b true))) (.t 13)),
 i 15 (.mv (.t 14)),
 ⟨some 16, .faddr 40 (.t 1), some (15, false)⟩,
 ⟨some 17, .faddr 2 (.t 16), some (15, false)⟩,
 ⟨some 18, .load true 6 (.t 17), some (15, false)⟩,
 ⟨some 19, .build [.d (.i .u8 0), .d (.i .u32 0), .d (.i .u8 0), .d (.i .u8 0), .d (.i .u8 0), .d (.s ⟨#[]⟩)] [], some (15, false)⟩,
 ⟨some 20, .eq true Pk.Opr.ety (.t 18) (.t 19), some (15, false)⟩,
 i 21 (.pick (.t 15) (.c (.d (.b true))) (.t 20)),
 i 22 (.mv (.t 21)),
 ⟨some 23, .faddr 48 (.t 1), some (22, false)⟩,
 ⟨some 24, .load false 1 (.t 23), some (22, false)⟩,
 ⟨some 25, .len false (.t 24), some (22, false)⟩,
 ⟨some 26, .bin .gtr (.t 25) (.c (.d (.i .i64 6))), some (22, false)⟩,
 i 27 (.pick (.t 22) (.c (.d (.b true))) (.t 26)),
 i 28 (.mv (.t 27)),
 ⟨some 29, .faddr 1 (.t 1), some (28, false)⟩,
 ⟨some 30, .load true 39 (.t 29), some (28, false)⟩,
 ⟨some 31, .call (.f F_q36) [.t 30], some (28, false)⟩,
 ⟨some 32, .un .not (.t 31), some (28, false)⟩,
 i 33 (.pick (.t 28) (.c (.d (.b true))) (.t 32))] [])
 (.cond (.t 33) (.seq (.region (some []) [i 2 (.mv (.c (.d (.b false))))] [])
 (.ret)) (.skip)))
 (.seq (.region (some [1]) [i 34 (.faddr 40 (.t 1)),
 i 35 (.load true 8 (.t 34)),
 i 3 (.box (.c (.d (.agg [.i .u32 0, .i .u32 0, .i .u8 0, .i .u32 0, .i .u8 0, .i .u8 0, .i .u8 0, .s ⟨#[]⟩])))),
 ⟨none, .store 8 (.t 3) (.t 35), none⟩] [])
 (.seq (.seq (.region (some [1, 3]) [i 36 (.faddr 48 (.t 1)),
 i 37 (.load false 1 (.t 36)),
 i 38 (.len false (.t 37)),
 i 39 (.mv (.c (.d (.i .i64 0))))] [])
 (.block 0 (.loop K_q32_0 [] l_q32_0)))
 (.seq (.region (some []) [i 2 (.mv (.c (.d (.b true))))] [])
 (.ret)))))
def a_q32 : AFn := .code 1 c_q32 [.tmp 2]
set_option maxRecDepth 100000 in
theorem k_q32 : compF Tryz.prog h_q32 F_q32 = some a_q32 := by kernel_rfl

def h_q38 : Hints := { kp := [(0, [0]), (1, [1, 2]), (2, [1, 2]), (3, [1, 2])], lkp := [], lth := [] }
def c_q38 : ACode :=
 .seq (.region (some [0]) [i 1 (.box (.t 0)),
 i 2 (.box (.c (.d (.agg [.i .u32 0, .i .u32 0, .i .u8 0, .i .u32 0, .i .u8 0, .i .u8 0, .i .u8 0, .s ⟨#[]⟩]))))] [])
 (.seq (.seq (.region (some [1, 2]) [i 3 (.faddr 48 (.t 1)),
 i 4 (.load false 1 (.t 3)),
 i 5 (.len false (.t 4)),
 i 6 (.bin .eql (.t 5) (.c (.d (.i .i64 0))))] [])
 (.cond (.t 6) (.seq (.region (some [1, 2]) [i 7 (.faddr 40 (.t 1)),
 i 8 (.load true 8 (.t 7)),
 ⟨none, .store 8 (.t 2) (.t 8), none⟩] [])
 (.ret)) (.skip)))
 (.seq (.region (some [1, 2]) [i 9 (.faddr 48 (.t 1)),
 i 10 (.load false 1 (.t 9)),
 i 11 (.faddr 48 (.t 1)),
 i 12 (.load false 1 (.t 11)),
 i 13 (.len false (.t 12)),
 i 14 (.bin .sub (.t 13) (.c (.d (.i .i64 1)))),
 i 15 (.iaddrS 8 (.t 10) (.t 14)),
 i 16 (.load true 8 (.t 15)),
 ⟨none, .store 8 (.t 2) (.t 16), none⟩] [])
 (.ret)))
def a_q38 : AFn := .code 1 c_q38 [.cell true 8 2]
set_option maxRecDepth 100000 in
theorem k_q38 : compF Tryz.prog h_q38 F_q38 = some a_q38 := by kernel_rfl

def h_q39 : Hints := { kp := [(0, [0, 1]), (1, [2, 3])], lkp := [], lth := [] }
def c_q39 : ACode :=
 .seq (.region (some [0, 1]) [i 2 (.box (.t 0)),
 i 3 (.box (.t 1)),
 i 4 (.mv (.c (.d (.b false))))] [])
 (.seq (.region (some [2, 3]) [i 5 (.faddr 2 (.t 3)),
 i 6 (.load true 6 (.t 5)),
 i 7 (.call (.f F_q1g) [.t 6]),
 i 8 (.mv (.t 7)),
 ⟨some 9, .faddr 1 (.t 3), some (8, true)⟩,
 ⟨some 10, .load false 1 (.t 9), some (8, true)⟩,
 ⟨some 11, .faddr 1 (.t 2), some (8, true)⟩,
 ⟨some 12, .load false 1 (.t 11), some (8, true)⟩,
 ⟨some 13, .bin .add (.t 12) (.c (.d (.i .u32 1))), some (8, true)⟩,
 ⟨some 14, .bin .eql (.t 10) (.t 13), some (8, true)⟩,
 i 15 (.pick (.t 8) (.t 14) (.c (.d (.b false)))),
 i 16 (.mv (.t 15)),
 ⟨some 17, .faddr 1 (.t 3), some (16, true)⟩,
 ⟨some 18, .load false 1 (.t 17), some (16, true)⟩,
 ⟨some 19, .faddr 1 (.t 2), some (16, true)⟩,
 ⟨some 20, .load false 1 (.t 19), some (16, true)⟩,
 ⟨some 21, .bin .gtr (.t 18) (.t 20), some (16, true)⟩,
 i 22 (.pick (.t 16) (.t 21) (.c (.d (.b false)))),
 i 23 (.mv (.t 22)),
 ⟨some 24, .faddr 0 (.t 3), some (23, true)⟩,
 ⟨some 25, .load false 1 (.t 24), some (23, true)⟩,
 ⟨some 26, .faddr 0 (.t 2), some (23, true)⟩,
 ⟨some 27, .load false 1 (.t 26), some (23, true)⟩,
 ⟨some 28, .bin .geq (.t 25) (.t 27), some (23, true)⟩,
 i 29 (.pick (.t 23) (.t 28) (.c (.d (.b false)))),
 i 30 (.mv (.t 29)),
 ⟨some 31, .faddr 0 (.t 3), some (30, true)⟩,
 ⟨some 32, .load false 1 (.t 31), some (30, true)⟩,
 ⟨some 33, .bin .leq (.t 32) (.c (.d (.i .u32 60))), some (30, true)⟩,
 i 34 (.pick (.t 30) (.t 33) (.c (.d (.b false)))),
 i 4 (.mv (.t 34))] [])
 (.ret))
def a_q39 : AFn := .code 2 c_q39 [.tmp 4]
set_option maxRecDepth 100000 in
theorem k_q39 : compF Tryz.prog h_q39 F_q39 = some a_q39 := by kernel_rfl

def h_q40 : Hints := { kp := [(0, [0]), (1, [0]), (2, []), (3, [0])], lkp := [], lth := [] }
def c_q40 : ACode :=
 .seq (.region (some [0]) [i 2 (.mv (.c (.nilS)))] [])
 (.seq (.seq (.region (some [0]) [i 3 (.mv (.t 0)),
 i 4 (.isnil false (.t 3))] [])
 (.cond (.t 4) (.seq (.region (some []) [i 2 (.mv (.c (.nilS)))] [])
 (.ret)) (.skip)))
 (.seq (.region (some [0]) [i 5 (.bsl 8 []),
 i 6 (.mv (.t 0)),
 i 7 (.app 8 (.t 5) (.t 6)),
 i 2 (.mv (.t 7))] [])
 (.ret)))
def a_q40 : AFn := .code 1 c_q40 [.tmp 2]
set_option maxRecDepth 100000 in
theorem k_q40 : compF Tryz.prog h_q40 F_q40 = some a_q40 := by kernel_rfl

def h_q37 : Hints := { kp := [(0, [0, 1]), (1, [1, 2, 4]), (2, [1, 2, 4, 10, 11, 12]), (3, [1, 2, 4, 10, 11, 12]), (4, [1, 2, 4, 6, 10, 11, 12]), (5, [1, 2, 4, 6, 10, 11, 12]), (6, [1, 2, 4, 10, 11, 12]), (7, [1, 2, 4]), (8, [2, 4])], lkp := [(2, [1, 2, 4, 10, 11, 12])], lth := [] }
def K_q37_0 : Option (List Nat) := (some [1, 2, 4, 10, 11, 12])
def l_q37_0 : ACode :=
 .seq (.region (some [1, 2, 4, 10, 11, 12]) [i 13 (.bin .lss (.t 12) (.t 11))] [])
 (.seq (.cond (.t 13) (.skip) (.exit 0))
 (.seq (.block 1 (.seq (.region (some [1, 2, 4, 10, 11, 12]) [i 14 (.iaddrS 8 (.t 10) (.t 12)),
 i 15 (.load true 8 (.t 14)),
 i 6 (.box (.c (.d (.agg [.i .u32 0, .i .u32 0, .i .u8 0, .i .u32 0, .i .u8 0, .i .u8 0, .i .u8 0, .s ⟨#[]⟩])))),
 ⟨none, .store 8 (.t 6) (.t 15), none⟩] [])
 (.seq (.region (some [1, 2, 4, 6, 10, 11, 12]) [i 17 (.faddr 1 (.t 2)),
 i 18 (.load true 39 (.t 17)),
 i 19 (.faddr 2 (.t 6)),
 i 20 (.load true 6 (.t 19)),
 i 21 (.call (.f F_q1d) [.t 18, .t 20]),
 i 16 (.mv (.t 21)),
 i 22 (.ext (.t 16) 0),
 i 23 (.ext (.t 16) 1),
 i 24 (.faddr 1 (.t 2)),
 ⟨none, .store 39 (.t 24) (.t 22), none⟩] [])
 (.region (some [1, 2, 4, 6, 10, 11, 12]) [i 25 (.faddr 0 (.t 6)),
 i 26 (.load false 1 (.t 25)),
 i 27 (.faddr 1 (.t 6)),
 i 28 (.load false 1 (.t 27)),
 i 29 (.build [.d (.i .u32 0), .d (.i .u32 0), .d (.i .u8 0), .d (.i .u32 0), .d (.i .u8 0), .d (.i .u8 0), .d (.i .u8 0), .d (.s ⟨#[]⟩)] [(0, 1, .t 26), (1, 1, .t 28)]),
 i 30 (.faddr 40 (.t 2)),
 ⟨none, .store 8 (.t 30) (.t 29), none⟩] []))))
 (.region (some [1, 2, 4, 10, 11, 12]) [i 31 (.bin .add (.t 12) (.c (.d (.i .i64 1)))),
 i 12 (.mv (.t 31))] [])))
def c_q37 : ACode :=
 .seq (.region (some [0, 1]) [i 2 (.box (.t 0)),
 i 4 (.box (.c (.agg Pk.State.zeroA)))] [])
 (.seq (.seq (.region (some [1, 2, 4]) [i 7 (.faddr 48 (.t 2)),
 i 8 (.load false 1 (.t 7)),
 i 9 (.mv (.t 1)),
 i 10 (.slice 8 (.t 8) none (some (.t 9)) none),
 i 11 (.len false (.t 10)),
 i 12 (.mv (.c (.d (.i .i64 0))))] [])
 (.block 0 (.loop K_q37_0 [] l_q37_0)))
 (.seq (.region (some [1, 2, 4]) [i 32 (.faddr 48 (.t 2)),
 i 33 (.load false 1 (.t 32)),
 i 34 (.mv (.t 1)),
 i 35 (.slice 8 (.t 33) (some (.t 34)) none none),
 i 36 (.call (.f F_q40) [.t 35]),
 i 37 (.faddr 48 (.t 2)),
 ⟨none, .store 1 (.t 37) (.t 36), none⟩] [])
 (.seq (.region (some [2, 4]) [i 38 (.load true 49 (.t 2)),
 ⟨none, .store 49 (.t 4) (.t 38), none⟩] [])
 (.ret))))
def a_q37 : AFn := .code 2 c_q37 [.cell true 49 4]
set_option maxRecDepth 100000 in
theorem k_q37 : compF Tryz.prog h_q37 F_q37 = some a_q37 := by kernel_rfl

def h_q43 : Hints := { kp := [(0, [0, 1]), (1, [0, 1])], lkp := [], lth := [] }
def c_q43 : ACode :=
 .seq (.region (some [0, 1]) [i 4 (.mv (.c (.d (.b false))))] [])
 (.seq (.region (some [0, 1]) [i 5 (.mv (.t 0)),
 i 6 (.mv (.t 1)),
 i 7 (.call (.f F_q4b) [.t 5, .t 6]),
 i 8 (.bin .geq (.t 7) (.c (.d (.i .i64 0)))),
 i 4 (.mv (.t 8))] [])
 (.ret))
def a_q43 : AFn := .code 2 c_q43 [.tmp 4]
set_option maxRecDepth 100000 in
theorem k_q43 : compF Tryz.prog h_q43 F_q43 = some a_q43 := by kernel_rfl

def h_q3m : Hints := { kp := [(0, [0]), (1, [1])], lkp := [], lth := [] }
def c_q3m : ACode :=
 .seq (.region (some [0]) [i 1 (.box (.t 0)),
 i 2 (.mv (.c (.d (.b false))))] [])
 (.seq (.region (some [1]) [i 3 (.load true 49 (.t 1)),
 i 4 (.call (.f F_q32) [.t 3]),
 i 5 (.un .not (.t 4)),
 i 2 (.mv (.t 5))] [])
 (.ret))
def a_q3m : AFn := .code 1 c_q3m [.tmp 2]
set_option maxRecDepth 100000 in
theorem k_q3m : compF Tryz.prog h_q3m F_q3m = some a_q3m := by kernel_rfl

def h_q03 : Hints := { kp := [(0, [0, 1]), (1, [0, 1]), (2, []), (3, [0, 1]), (4, [0, 1, 5]), (5, [0, 1, 5, 6]), (6, [0, 5, 6, 21, 22, 23]), (7, [0, 5, 6, 21, 22, 23]), (8, [0, 5, 6, 7, 8, 21, 22, 23]), (9, [0, 5, 6, 7, 8, 9, 10, 21, 22, 23]), (10, [0, 5, 6, 7, 11, 21, 22, 23]), (11, [0, 6, 7, 11, 21, 22, 23]), (12, [0, 5, 6, 21, 22, 23]), (13, [5])], lkp := [(6, [0, 5, 6, 21, 22, 23])], lth := [] }
def K_q03_0 : Option (List Nat) := (some [0, 5, 6, 21, 22, 23])
def l_q03_0 : ACode :=
 .seq (.region (some [0, 5, 6, 21, 22, 23]) [i 24 (.bin .lss (.t 23) (.t 22))] [])
 (.seq (.cond (.t 24) (.skip) (.exit 0))
 (.seq (.block 1 (.seq (.region (some [0, 5, 6, 21, 22, 23]) [i 25 (.mv (.t 23)),
 i 26 (.iaddrS 49 (.t 21) (.t 23)),
 i 27 (.load true 49 (.t 26)),
 i 8 (.box (.c (.agg Pk.State.zeroA))),
 i 7 (.mv (.t 25)),
 ⟨none, .store 49 (.t 8) (.t 27), none⟩] [])
 (.seq (.region (some [0, 5, 6, 7, 8, 21, 22, 23]) [i 29 (.load true 49 (.t 8)),
 i 30 (.call (.f F_q31) [.t 29]),
 i 28 (.mv (.t 30)),
 i 31 (.ext (.t 28) 0),
 i 32 (.ext (.t 28) 1),
 i 9 (.mv (.t 31)),
 i 10 (.mv (.t 32))] [])
 (.seq (.region (some [0, 5, 6, 7, 8, 9, 10, 21, 22, 23]) [i 33 (.mv (.t 0)),
 i 34 (.mv (.t 7)),
 i 35 (.iaddrS 1 (.t 33) (.t 34)),
 i 36 (.load false 1 (.t 35)),
 i 37 (.faddr 0 (.t 8)),
 i 38 (.load false 1 (.t 37)),
 i 39 (.mv (.t 9)),
 i 40 (.mv (.t 10)),
 i 41 (.build [.d (.i .i64 0), .d (.i .u32 0), .d (.i .u32 0), .d (.i .u32 0)] [(0, 1, .t 36), (1, 1, .t 38), (2, 1, .t 39), (3, 1, .t 40)]),
 i 11 (.box (.c (.d (.agg [.i .i64 0, .i .u32 0, .i .u32 0, .i .u32 0])))),
 ⟨none, .store 4 (.t 11) (.t 41), none⟩] [(3, 5), (3, 9), (5, 9)])
 (.seq (.region (some [0, 5, 6, 7, 11, 21, 22, 23]) [i 42 (.mv (.t 5)),
 i 43 (.bin .lss (.t 42) (.c (.d (.i .i64 0)))),
 i 44 (.mv (.t 43)),
 ⟨some 45, .load true 4 (.t 11), some (44, false)⟩,
 ⟨some 46, .load true 4 (.t 6), some (44, false)⟩,
 ⟨some 47, .call (.f F_q0a) [.t 45, .t 46], some (44, false)⟩,
 i 48 (.pick (.t 44) (.c (.d (.b true))) (.t 47))] [])
 (.cond (.t 48) (.region (some [0, 6, 7, 11, 21, 22, 23]) [i 49 (.mv (.t 7)),
 i 50 (.load true 4 (.t 11)),
 i 5 (.mv (.t 49)),
 ⟨none, .store 4 (.t 6) (.t 50), none⟩] []) (.skip)))))))
 (.region (some [0, 5, 6, 21, 22, 23]) [i 51 (.bin .add (.t 23) (.c (.d (.i .i64 1)))),
 i 23 (.mv (.t 51))] [])))
def c_q03 : ACode :=
 .seq (.region (some [0, 1]) [i 4 (.mv (.c (.d (.i .i64 0))))] [])
 (.seq (.seq (.region (some [0, 1]) [i 12 (.mv (.t 0)),
 i 13 (.len false (.t 12)),
 i 14 (.mv (.t 1)),
 i 15 (.len false (.t 14)),
 i 16 (.bin .neq (.t 13) (.t 15)),
 i 17 (.mv (.t 16)),
 ⟨some 18, .mv (.t 1), some (17, false)⟩,
 ⟨some 19, .call (.f F_q43) [.t 18, .f F_q04], some (17, false)⟩,
 i 20 (.pick (.t 17) (.c (.d (.b true))) (.t 19))] [])
 (.cond (.t 20) (.seq (.region (some []) [i 4 (.mv (.c (.d (.i .i64 (-1)))))] [])
 (.ret)) (.skip)))
 (.seq (.region (some [0, 1]) [i 5 (.mv (.c (.d (.i .i64 (-1)))))] [])
 (.seq (.region (some [0, 1, 5]) [i 6 (.box (.c (.d (.agg [.i .i64 0, .i .u32 0, .i .u32 0, .i .u32 0]))))] [])
 (.seq (.seq (.region (some [0, 1, 5, 6]) [i 21 (.mv (.t 1)),
 i 22 (.len false (.t 21)),
 i 23 (.mv (.c (.d (.i .i64 0))))] [])
 (.block 0 (.loop K_q03_0 [] l_q03_0)))
 (.seq (.region (some [5]) [i 52 (.mv (.t 5)),
 i 4 (.mv (.t 52))] [])
 (.ret))))))
def a_q03 : AFn := .code 2 c_q03 [.tmp 4]
set_option maxRecDepth 100000 in
theorem k_q03 : compF Tryz.prog h_q03 F_q03 = some a_q03 := by kernel_rfl

def h_q05 : Hints := { kp := [(0, [0, 1, 2, 3]), (1, [0, 1, 3, 6]), (2, [0, 1, 3, 6, 9])], lkp := [], lth := [] }
def c_q05 : ACode :=
 .seq (.region (some [0, 1, 2, 3]) [i 6 (.box (.t 2)),
 i 8 (.mv (.c (.d (.b false))))] [])
 (.seq (.region (some [0, 1, 3, 6]) [i 10 (.mkfn F_q06 [] [.t 6]),
 i 9 (.mv (.t 10))] [])
 (.seq (.region (some [0, 1, 3, 6, 9]) [i 11 (.mv (.t 0)),
 i 12 (.mv (.t 1)),
 i 13 (.load false 1 (.t 6)),
 i 14 (.mv (.t 3)),
 i 15 (.call (.f F_q07) [.t 11, .t 12, .t 13, .t 14]),
 i 16 (.len false (.t 15)),
 i 17 (.bin .eql (.t 16) (.c (.d (.i .i64 0)))),
 i 18 (.mv (.t 17)),
 ⟨some 19, .mv (.t 0), some (18, true)⟩,
 ⟨some 20, .mv (.t 1), some (18, true)⟩,
 ⟨some 21, .call (.f F_q0f) [.t 19, .t 20], some (18, true)⟩,
 ⟨some 22, .mv (.t 9), some (18, true)⟩,
 ⟨some 23, .call (.f F_q44) [.t 21, .t 22], some (18, true)⟩,
 ⟨some 24, .un .not (.t 23), some (18, true)⟩,
 i 25 (.pick (.t 18) (.t 24) (.c (.d (.b false)))),
 i 8 (.mv (.t 25))] [])
 (.ret)))
def a_q05 : AFn := .code 4 c_q05 [.tmp 8]
set_option maxRecDepth 100000 in
theorem k_q05 : compF Tryz.prog h_q05 F_q05 = some a_q05 := by kernel_rfl

def h_q09 : Hints := { kp := [(0, [0]), (1, [0]), (2, [0, 3]), (3, [3, 6, 7, 8]), (4, [3, 6, 7, 8]), (5, [3, 5, 6, 7, 8]), (6, [3, 6, 7, 8]), (7, [3])], lkp := [(3, [3, 6, 7, 8])], lth := [] }
def K_q09_0 : Option (List Nat) := (some [3, 6, 7, 8])
def l_q09_0 : ACode :=
 .seq (.region (some [3, 6, 7, 8]) [i 9 (.bin .lss (.t 8) (.t 7))] [])
 (.seq (.cond (.t 9) (.skip) (.exit 0))
 (.seq (.block 1 (.seq (.region (some [3, 6, 7, 8]) [i 10 (.iaddrS 49 (.t 6) (.t 8)),
 i 11 (.load true 49 (.t 10)),
 i 5 (.box (.c (.agg Pk.State.zeroA))),
 ⟨none, .store 49 (.t 5) (.t 11), none⟩] [])
 (.region (some [3, 5, 6, 7, 8]) [i 12 (.mv (.t 3)),
 i 13 (.faddr 0 (.t 5)),
 i 14 (.load false 1 (.t 13)),
 i 15 (.mm true [.t 12, .t 14]),
 i 3 (.mv (.t 15))] [])))
 (.region (some [3, 6, 7, 8]) [i 16 (.bin .add (.t 8) (.c (.d (.i .i64 1)))),
 i 8 (.mv (.t 16))] [])))
def c_q09 : ACode :=
 .seq (.region (some [0]) [i 2 (.mv (.c (.d (.i .u32 0))))] [])
 (.seq (.region (some [0]) [i 3 (.mv (.c (.d (.i .u32 0))))] [])
 (.seq (.seq (.region (some [0, 3]) [i 6 (.mv (.t 0)),
 i 7 (.len false (.t 6)),
 i 8 (.mv (.c (.d (.i .i64 0))))] [])
 (.block 0 (.loop K_q09_0 [] l_q09_0)))
 (.seq (.region (some [3]) [i 17 (.mv (.t 3)),
 i 2 (.mv (.t 17))] [])
 (.ret))))
def a_q09 : AFn := .code 1 c_q09 [.tmp 2]
set_option maxRecDepth 100000 in
theorem k_q09 : compF Tryz.prog h_q09 F_q09 = some a_q09 := by kernel_rfl

def h_q3n : Hints := { kp := [(0, [0, 1]), (1, [2, 3, 4])], lkp := [], lth := [] }
def c_q3n : ACode :=
 .seq (.region (some [0, 1]) [i 2 (.box (.t 0)),
 i 3 (.box (.t 1)),
 i 4 (.box (.c (.agg Pk.Diff.zeroA)))] [])
 (.seq (.region (some [2, 3, 4]) [i 5 (.load true 49 (.t 3)),
 i 6 (.faddr 0 (.t 2)),
 i 7 (.load true 49 (.t 6)),
 i 8 (.call (.f F_q18) [.t 5, .t 7]),
 ⟨none, .store 52 (.t 4) (.t 8), none⟩] [])
 (.ret))
def a_q3n : AFn := .code 2 c_q3n [.cell true 52 4]
set_option maxRecDepth 100000 in
theorem k_q3n : compF Tryz.prog h_q3n F_q3n = some a_q3n := by kernel_rfl

def h_q0k : Hints := { kp := [(0, [0, 1]), (1, [0, 3]), (2, [0, 3]), (3, [0, 3]), (4, [0, 3, 19]), (5, [0, 3, 19]), (6, [0, 3, 4, 19]), (7, [0, 3, 4, 5, 19]), (8, [0, 3, 4, 5, 6, 19]), (9, [0, 3, 4, 5, 6, 19]), (10, [0, 3, 19])], lkp := [(4, [0, 3, 19])], lth := [] }
def K_q0k_0 : Option (List Nat) := (some [0, 3, 19])
def l_q0k_0 : ACode :=
 .seq (.region (some [0, 3, 19]) [i 20 (.bin .lss (.t 19) (.c (.d (.i .i64 4))))] [])
 (.seq (.cond (.t 20) (.skip) (.exit 0))
 (.seq (.block 1 (.seq (.region (some [0, 3, 19]) [i 21 (.mv (.t 19)),
 i 4 (.mv (.t 21))] [])
 (.seq (.region (some [0, 3, 4, 19]) [i 22 (.load true 16 (.t 3)),
 i 23 (.mv (.t 4)),
 i 24 (.conv .u8 (.t 23)),
 i 25 (.call (.f F_q3c) [.t 22, .t 24]),
 i 5 (.mv (.t 25))] [])
 (.seq (.region (some [0, 3, 4, 5, 19]) [i 26 (.mv (.t 0)),
 i 27 (.mv (.t 4)),
 i 28 (.nilck (.t 26)),
 i 29 (.faddr 3 (.t 28)),
 i 30 (.iaddrA 4 1 (.t 29) (.t 27)),
 i 31 (.load false 1 (.t 30)),
 i 6 (.mv (.t 31))] [])
 (.seq (.region (some [0, 3, 4, 5, 6, 19]) [i 32 (.mv (.t 6)),
 i 33 (.len false (.t 32)),
 i 34 (.bin .eql (.t 33) (.c (.d (.i .i64 0)))),
 i 35 (.mv (.t 34)),
 ⟨some 36, .mv (.t 6), some (35, false)⟩,
 ⟨some 37, .mv (.t 6), some (35, false)⟩,
 ⟨some 38, .len false (.t 37), some (35, false)⟩,
 ⟨some 39, .bin .sub (.t 38) (.c (.d (.i .i64 1))), some (35, false)⟩,
 ⟨some 40, .iaddrS 2 (.t 36) (.t 39), some (35, false)⟩,
 ⟨some 41, .faddr 1 (.t 40), some (35, false)⟩,
 ⟨some 42, .load false 1 (.t 41), some (35, false)⟩,
 ⟨some 43, .mv (.t 5), some (35, false)⟩,
 ⟨some 44, .call (.f F_q49) [.t 42, .t 43], some (35, false)⟩,
 ⟨some 45, .un .not (.t 44), some (35, false)⟩,
 i 46 (.pick (.t 35) (.c (.d (.b true))) (.t 45))] [])
 (.cond (.t 46) (.region (some [0, 3, 4, 5, 6, 19]) [i 47 (.mv (.t 0)),
 i 48 (.mv (.t 4)),
 i 49 (.mv (.t 6)),
 i 50 (.faddr 0 (.t 3)),
 i 51 (.load false 1 (.t 50)),
 i 52 (.mv (.t 5)),
 i 53 (.build Pk.Itv.zeroA [(0, 1, .t 51), (1, 1, .t 52)]),
 i 54 (.bsl 2 [.t 53]),
 i 55 (.app 2 (.t 49) (.t 54)),
 i 56 (.nilck (.t 47)),
 i 57 (.faddr 3 (.t 56)),
 i 58 (.iaddrA 4 1 (.t 57) (.t 48)),
 ⟨none, .store 1 (.t 58) (.t 55), none⟩] []) (.skip)))))))
 (.region (some [0, 3, 19]) [i 59 (.bin .add (.t 19) (.c (.d (.i .i64 1)))),
 i 19 (.mv (.t 59))] [])))
def c_q0k : ACode :=
 .seq (.region (some [0, 1]) [i 3 (.box (.t 1))] [])
 (.seq (.region (some [0, 3]) [i 7 (.mv (.t 0)),
 i 8 (.nilck (.t 7)),
 i 9 (.faddr 0 (.t 8)),
 i 10 (.load false 1 (.t 9)),
 i 11 (.faddr 0 (.t 3)),
 i 12 (.load false 1 (.t 11)),
 i 13 (.load true 16 (.t 3)),
 ⟨none, .mset .u32 (.t 10) (.t 12) (.t 13), none⟩] [(3, 5), (3, 6), (5, 6)])
 (.seq (.region (some [0, 3]) [i 14 (.mv (.t 0)),
 i 15 (.faddr 0 (.t 3)),
 i 16 (.load false 1 (.t 15)),
 i 17 (.nilck (.t 14)),
 i 18 (.faddr 2 (.t 17)),
 ⟨none, .store 1 (.t 18) (.t 16), none⟩] [])
 (.seq (.region (some [0, 3]) [i 19 (.mv (.c (.d (.i .i64 0))))] [])
 (.block 0 (.loop K_q0k_0 [] l_q0k_0)))))
def a_q0k : AFn := .code 2 c_q0k []
set_option maxRecDepth 100000 in
theorem k_q0k : compF Tryz.prog h_q0k F_q0k = some a_q0k := by kernel_rfl

def h_q0v : Hints := { kp := [(0, []), (1, [0]), (2, [0, 1]), (3, [0, 1, 4]), (4, [0, 1, 4]), (5, [0, 1, 2, 4]), (6, [0, 1, 4]), (7, [0, 1])], lkp := [(3, [0, 1, 4])], lth := [] }
def K_q0v_0 : Option (List Nat) := (some [0, 1, 4])
def l_q0v_0 : ACode :=
 .seq (.region (some [0, 1, 4]) [i 5 (.bin .lss (.t 4) (.c (.d (.i .i64 5))))] [])
 (.seq (.cond (.t 5) (.skip) (.exit 0))
 (.seq (.block 1 (.seq (.region (some [0, 1, 4]) [i 6 (.mv (.t 4)),
 i 2 (.mv (.t 6))] [])
 (.region (some [0, 1, 2, 4]) [i 7 (.mv (.t 2)),
 i 8 (.mv (.t 2)),
 i 9 (.bin .rem (.t 8) (.c (.d (.i .i64 4)))),
 i 10 (.conv .u8 (.t 9)),
 i 11 (.build [.d (.b false), .d (.i .i64 0), .d (.i .u8 0)] [(0, 1, .c (.d (.b true))), (1, 1, .c (.d (.i .i64 8))), (2, 1, .t 10)]),
 i 12 (.faddr 1 (.t 1)),
 i 13 (.iaddrA 5 3 (.t 12) (.t 7)),
 ⟨none, .store 3 (.t 13) (.t 11), none⟩] [])))
 (.region (some [0, 1, 4]) [i 14 (.bin .add (.t 4) (.c (.d (.i .i64 1)))),
 i 4 (.mv (.t 14))] [])))
def c_q0v : ACode :=
 .seq (.region (some []) [i 0 (.box (.c (.d (.agg Pk.Mp.zero.cs))))] [])
 (.seq (.region (some [0]) [i 3 (.build (List.map .d Pk.Mp.zero.cs) [(0, 1, .c (.d (.i .u32 1)))]),
 i 1 (.box (.c (.d (.agg Pk.Mp.zero.cs)))),
 ⟨none, .store 16 (.t 1) (.t 3), none⟩] [])
 (.seq (.seq (.region (some [0, 1]) [i 4 (.mv (.c (.d (.i .i64 0))))] [])
 (.block 0 (.loop K_q0v_0 [] l_q0v_0)))
 (.seq (.region (some [0, 1]) [i 15 (.load true 16 (.t 1)),
 ⟨none, .store 16 (.t 0) (.t 15), none⟩] [])
 (.ret))))
def a_q0v : AFn := .code 0 c_q0v [.cell true 16 0]
set_option maxRecDepth 100000 in
theorem k_q0v : compF Tryz.prog h_q0v F_q0v = some a_q0v := by kernel_rfl

def h_q17 : Hints := { kp := [(0, [0]), (1, [1]), (2, [1, 3]), (3, [3, 17, 18]), (4, [3, 17, 18]), (5, [3, 5, 17, 18]), (6, [3, 17, 18]), (7, [3, 17, 18]), (8, [3])], lkp := [(3, [3, 17, 18])], lth := [] }
def K_q17_0 : Option (List Nat) := (some [3, 17, 18])
def l_q17_0 : ACode :=
 .seq (.region (some [3, 17, 18]) [i 19 (.bin .lss (.t 18) (.c (.d (.i .i64 6))))] [])
 (.seq (.cond (.t 19) (.skip) (.exit 0))
 (.seq (.block 1 (.seq (.region (some [3, 17, 18]) [i 20 (.idxA true 6 5 (.t 17) (.t 18)),
 i 5 (.box (.c (.d (.agg [.b false, .s ⟨#[]⟩, .s ⟨#[]⟩, .s ⟨#[]⟩, .s ⟨#[]⟩])))),
 ⟨none, .store 5 (.t 5) (.t 20), none⟩] [])
 (.seq (.region (some [3, 5, 17, 18]) [i 21 (.faddr 0 (.t 5)),
 i 22 (.load false 1 (.t 21))] [])
 (.cond (.t 22) (.region (some [3, 17, 18]) [i 23 (.mv (.t 3)),
 i 24 (.bin .add (.t 23) (.c (.d (.i .i64 1)))),
 i 3 (.mv (.t 24))] []) (.skip)))))
 (.region (some [3, 17, 18]) [i 25 (.bin .add (.t 18) (.c (.d (.i .i64 1)))),
 i 18 (.mv (.t 25))] [])))
def c_q17 : ACode :=
 .seq (.region (some [0]) [i 1 (.box (.t 0)),
 i 2 (.mv (.c (.d (.i .i64 0))))] [])
 (.seq (.region (some [1]) [i 6 (.faddr 2 (.t 1)),
 i 7 (.load false 1 (.t 6)),
 i 8 (.len false (.t 7)),
 i 9 (.faddr 3 (.t 1)),
 i 10 (.faddr 48 (.t 9)),
 i 11 (.load false 1 (.t 10)),
 i 12 (.len false (.t 11)),
 i 13 (.bin .add (.t 8) (.t 12)),
 i 3 (.mv (.t 13))] [])
 (.seq (.seq (.region (some [1, 3]) [i 14 (.faddr 3 (.t 1)),
 i 15 (.faddr 1 (.t 14)),
 i 16 (.faddr 0 (.t 15)),
 i 17 (.load true 30 (.t 16)),
 i 18 (.mv (.c (.d (.i .i64 0))))] [])
 (.block 0 (.loop K_q17_0 [] l_q17_0)))
 (.seq (.region (some [3]) [i 26 (.mv (.t 3)),
 i 2 (.mv (.t 26))] [])
 (.ret))))
def a_q17 : AFn := .code 1 c_q17 [.tmp 2]
set_option maxRecDepth 100000 in
theorem k_q17 : compF Tryz.prog h_q17 F_q17 = some a_q17 := by kernel_rfl

def h_q15 : Hints := { kp := [(0, [0, 1]), (1, [2, 3, 4]), (2, [2, 3, 4, 6]), (3, [4, 6]), (4, [2, 3, 4, 6]), (5, [3, 4, 6]), (6, [4, 6]), (7, [3, 4]), (8, [2, 3, 4, 6]), (9, [2, 3, 4, 6, 7]), (10, [2, 3, 4, 6, 7]), (11, [3, 4, 6, 7, 8, 9]), (12, [4, 6]), (13, [3, 4, 6, 7, 8]), (14, [3, 4, 6, 7, 9]), (15, [4, 6]), (16, [3, 4, 6, 7]), (17, [3, 4, 6, 7, 10]), (18, [3, 4, 6, 7, 10]), (19, [4, 6]), (20, [4, 7])], lkp := [], lth := [] }
def c_q15 : ACode :=
 .seq (.region (some [0, 1]) [i 2 (.box (.t 0)),
 i 3 (.box (.t 1)),
 i 4 (.box (.c (.agg Pk.State.zeroA))),
 i 5 (.mv (.c (.d (.i .i64 0))))] [])
 (.seq (.region (some [2, 3, 4]) [i 6 (.mv (.f F_q16))] [])
 (.seq (.seq (.region (some [2, 3, 4, 6]) [i 11 (.load true 49 (.t 2)),
 i 12 (.call (.f F_q32) [.t 11]),
 i 13 (.un .not (.t 12)),
 i 14 (.mv (.t 13)),
 ⟨some 15, .faddr 0 (.t 3), some (14, false)⟩,
 ⟨some 16, .load false 1 (.t 15), some (14, false)⟩,
 ⟨some 17, .bin .lss (.t 16) (.c (.d (.i .i64 0))), some (14, false)⟩,
 i 18 (.pick (.t 14) (.c (.d (.b true))) (.t 17)),
 i 19 (.mv (.t 18)),
 ⟨some 20, .faddr 0 (.t 3), some (19, false)⟩,
 ⟨some 21, .load false 1 (.t 20), some (19, false)⟩,
 ⟨some 22, .bin .gtr (.t 21) (.c (.d (.i .i64 2))), some (19, false)⟩,
 i 23 (.pick (.t 19) (.c (.d (.b true))) (.t 22)),
 i 24 (.mv (.t 23)),
 ⟨some 25, .faddr 0 (.t 3), some (24, false)⟩,
 ⟨some 26, .load false 1 (.t 25), some (24, false)⟩,
 ⟨some 27, .bin .neq (.t 26) (.c (.d (.i .i64 1))), some (24, false)⟩,
 ⟨some 28, .mv (.t 27), some (24, false)⟩,
 ⟨some 29, .faddr 2 (.t 3), some (28, true)⟩,
 ⟨some 30, .load false 1 (.t 29), some (28, true)⟩,
 ⟨some 31, .len false (.t 30), some (28, true)⟩,
 ⟨some 32, .bin .gtr (.t 31) (.c (.d (.i .i64 0))), some (28, true)⟩,
 ⟨some 33, .mv (.t 32), some (28, true)⟩,
 ⟨some 34, .faddr 1 (.t 3), some (33, false)⟩,
 ⟨some 35, .load false 1 (.t 34), some (33, false)⟩,
 ⟨some 36, .bin .neq (.t 35) (.c (.d (.i .u32 0))), some (33, false)⟩,
 ⟨some 37, .pick (.t 33) (.c (.d (.b true))) (.t 36), some (28, true)⟩,
 ⟨some 38, .pick (.t 28) (.t 37) (.c (.d (.b false))), some (24, false)⟩,
 i 39 (.pick (.t 24) (.c (.d (.b true))) (.t 38))] [])
 (.cond (.t 39) (.seq (.region (some [4, 6]) [i 40 (.mv (.t 6)),
 i 41 (.call (.t 40) []),
 i 42 (.ext (.t 41) 0),
 i 43 (.ext (.t 41) 1),
 ⟨none, .store 49 (.t 4) (.t 42), none⟩,
 i 5 (.mv (.t 43))] [])
 (.ret)) (.skip)))
 (.seq (.seq (.region (some [2, 3, 4, 6]) [i 44 (.faddr 0 (.t 3)),
 i 45 (.load false 1 (.t 44)),
 i 46 (.bin .eql (.t 45) (.c (.d (.i .i64 2))))] [])
 (.cond (.t 46) (.seq (.seq (.region (some [3, 4, 6]) [i 47 (.faddr 3 (.t 3)),
 i 48 (.load true 49 (.t 47)),
 i 49 (.call (.f F_q32) [.t 48]),
 i 50 (.un .not (.t 49))] [])
 (.cond (.t 50) (.seq (.region (some [4, 6]) [i 51 (.mv (.t 6)),
 i 52 (.call (.t 51) []),
 i 53 (.ext (.t 52) 0),
 i 54 (.ext (.t 52) 1),
 ⟨none, .store 49 (.t 4) (.t 53), none⟩,
 i 5 (.mv (.t 54))] [])
 (.ret)) (.skip)))
 (.seq (.region (some [3, 4]) [i 55 (.faddr 3 (.t 3)),
 i 56 (.load true 49 (.t 55)),
 i 57 (.call (.f F_q2y) [.t 56]),
 ⟨none, .store 49 (.t 4) (.t 57), none⟩,
 i 5 (.mv (.c (.d (.i .i64 0))))] [])
 (.ret))) (.skip)))
 (.seq (.region (some [2, 3, 4, 6]) [i 58 (.load true 49 (.t 2)),
 i 7 (.box (.c (.agg Pk.State.zeroA))),
 ⟨none, .store 49 (.t 7) (.t 58), none⟩] [])
 (.seq (.seq (.region (some [2, 3, 4, 6, 7]) [i 59 (.faddr 0 (.t 3)),
 i 60 (.load false 1 (.t 59)),
 i 61 (.bin .eql (.t 60) (.c (.d (.i .i64 1))))] [])
 (.cond (.t 61) (.seq (.region (some [2, 3, 4, 6, 7]) [i 63 (.load true 49 (.t 2)),
 i 64 (.faddr 1 (.t 3)),
 i 65 (.load false 1 (.t 64)),
 i 66 (.call (.f F_q2z) [.t 63, .t 65]),
 i 62 (.mv (.t 66)),
 i 67 (.ext (.t 62) 0),
 i 68 (.ext (.t 62) 1),
 i 8 (.box (.c (.agg Pk.State.zeroA))),
 ⟨none, .store 49 (.t 8) (.t 67), none⟩,
 i 9 (.mv (.t 68))] [])
 (.seq (.seq (.region (some [3, 4, 6, 7, 8, 9]) [i 69 (.mv (.t 9)),
 i 70 (.bin .neq (.t 69) (.c (.d (.i .i64 0))))] [])
 (.cond (.t 70) (.seq (.region (some [4, 6]) [i 71 (.mv (.t 6)),
 i 72 (.call (.t 71) []),
 i 73 (.ext (.t 72) 0),
 i 74 (.ext (.t 72) 1),
 ⟨none, .store 49 (.t 4) (.t 73), none⟩,
 i 5 (.mv (.t 74))] [])
 (.ret)) (.skip)))
 (.seq (.region (some [3, 4, 6, 7, 8]) [i 76 (.load true 49 (.t 8)),
 i 77 (.faddr 2 (.t 3)),
 i 78 (.load false 1 (.t 77)),
 i 79 (.call (.f F_q19) [.t 76, .t 78]),
 i 75 (.mv (.t 79)),
 i 80 (.ext (.t 75) 0),
 i 81 (.ext (.t 75) 1),
 ⟨none, .store 49 (.t 7) (.t 80), none⟩,
 i 9 (.mv (.t 81))] [])
 (.seq (.region (some [3, 4, 6, 7, 9]) [i 82 (.mv (.t 9)),
 i 83 (.bin .neq (.t 82) (.c (.d (.i .i64 0))))] [])
 (.cond (.t 83) (.seq (.region (some [4, 6]) [i 84 (.mv (.t 6)),
 i 85 (.call (.t 84) []),
 i 86 (.ext (.t 85) 0),
 i 87 (.ext (.t 85) 1),
 ⟨none, .store 49 (.t 4) (.t 86), none⟩,
 i 5 (.mv (.t 87))] [])
 (.ret)) (.skip)))))) (.skip)))
 (.seq (.region (some [3, 4, 6, 7]) [i 89 (.load true 49 (.t 7)),
 i 90 (.faddr 3 (.t 3)),
 i 91 (.faddr 40 (.t 90)),
 i 92 (.faddr 1 (.t 91)),
 i 93 (.load false 1 (.t 92)),
 i 94 (.call (.f F_q34) [.t 89, .t 93]),
 i 88 (.mv (.t 94)),
 i 95 (.ext (.t 88) 0),
 i 96 (.ext (.t 88) 1),
 ⟨none, .store 49 (.t 7) (.t 95), none⟩,
 i 10 (.mv (.t 96))] [])
 (.seq (.region (some [3, 4, 6, 7, 10]) [i 97 (.faddr 3 (.t 3)),
 i 98 (.faddr 0 (.t 97)),
 i 99 (.load false 1 (.t 98)),
 i 100 (.faddr 0 (.t 7)),
 ⟨none, .store 1 (.t 100) (.t 99), none⟩] [])
 (.seq (.seq (.region (some [3, 4, 6, 7, 10]) [i 101 (.mv (.t 10)),
 i 102 (.bin .neq (.t 101) (.c (.d (.i .i64 0)))),
 i 103 (.mv (.t 102)),
 ⟨some 104, .faddr 40 (.t 7), some (103, false)⟩,
 ⟨some 105, .faddr 0 (.t 104), some (103, false)⟩,
 ⟨some 106, .load false 1 (.t 105), some (103, false)⟩,
 ⟨some 107, .faddr 3 (.t 3), some (103, false)⟩,
 ⟨some 108, .faddr 40 (.t 107), some (103, false)⟩,
 ⟨some 109, .faddr 0 (.t 108), some (103, false)⟩,
 ⟨some 110, .load false 1 (.t 109), some (103, false)⟩,
 ⟨some 111, .bin .neq (.t 106) (.t 110), some (103, false)⟩,
 i 112 (.pick (.t 103) (.c (.d (.b true))) (.t 111)),
 i 113 (.mv (.t 112)),
 ⟨some 114, .load true 49 (.t 7), some (113, false)⟩,
 ⟨some 115, .call (.f F_q32) [.t 114], some (113, false)⟩,
 ⟨some 116, .un .not (.t 115), some (113, false)⟩,
 i 117 (.pick (.t 113) (.c (.d (.b true))) (.t 116))] [])
 (.cond (.t 117) (.seq (.region (some [4, 6]) [i 118 (.mv (.t 6)),
 i 119 (.call (.t 118) []),
 i 120 (.ext (.t 119) 0),
 i 121 (.ext (.t 119) 1),
 ⟨none, .store 49 (.t 4) (.t 120), none⟩,
 i 5 (.mv (.t 121))] [])
 (.ret)) (.skip)))
 (.seq (.region (some [4, 7]) [i 122 (.load true 49 (.t 7)),
 ⟨none, .store 49 (.t 4) (.t 122), none⟩,
 i 5 (.mv (.c (.d (.i .i64 0))))] [])
 (.ret))))))))))
def a_q15 : AFn := .code 2 c_q15 [.cell true 49 4, .tmp 5]
set_option maxRecDepth 100000 in
theorem k_q15 : compF Tryz.prog h_q15 F_q15 = some a_q15 := by kernel_rfl

def h_q42 : Hints := { kp := [(0, [0]), (1, [0]), (2, []), (3, [0])], lkp := [], lth := [] }
def c_q42 : ACode :=
 .seq (.region (some [0]) [i 2 (.mv (.c (.nilS)))] [])
 (.seq (.seq (.region (some [0]) [i 3 (.mv (.t 0)),
 i 4 (.isnil false (.t 3))] [])
 (.cond (.t 4) (.seq (.region (some []) [i 2 (.mv (.c (.nilS)))] [])
 (.ret)) (.skip)))
 (.seq (.region (some [0]) [i 5 (.bsl 1 []),
 i 6 (.mv (.t 0)),
 i 7 (.app 1 (.t 5) (.t 6)),
 i 2 (.mv (.t 7))] [])
 (.ret)))
def a_q42 : AFn := .code 1 c_q42 [.tmp 2]
set_option maxRecDepth 100000 in
theorem k_q42 : compF Tryz.prog h_q42 F_q42 = some a_q42 := by kernel_rfl

def h_q0j : Hints := { kp := [(0, [0, 1]), (1, [0, 1, 4]), (2, [4]), (3, [0, 1, 4]), (4, [4, 5])], lkp := [], lth := [] }
def c_q0j : ACode :=
 .seq (.region (some [0, 1]) [i 4 (.box (.c (.agg Pk.Itv.zeroA)))] [])
 (.seq (.seq (.region (some [0, 1, 4]) [i 6 (.mv (.t 1)),
 i 7 (.bin .geq (.t 6) (.c (.d (.i .u8 4))))] [])
 (.cond (.t 7) (.seq (.region (some [4]) [i 8 (.build Pk.Itv.zeroA []),
 ⟨none, .store 2 (.t 4) (.t 8), none⟩] [])
 (.ret)) (.skip)))
 (.seq (.region (some [0, 1, 4]) [i 9 (.mv (.t 0)),
 i 10 (.mv (.t 1)),
 i 11 (.nilck (.t 9)),
 i 12 (.faddr 3 (.t 11)),
 i 13 (.iaddrA 4 1 (.t 12) (.t 10)),
 i 14 (.load false 1 (.t 13)),
 i 5 (.mv (.t 14))] [])
 (.seq (.region (some [4, 5]) [i 15 (.mv (.t 5)),
 i 16 (.mv (.t 5)),
 i 17 (.len false (.t 16)),
 i 18 (.bin .sub (.t 17) (.c (.d (.i .i64 1)))),
 i 19 (.iaddrS 2 (.t 15) (.t 18)),
 i 20 (.load true 2 (.t 19)),
 ⟨none, .store 2 (.t 4) (.t 20), none⟩] [])
 (.ret))))
def a_q0j : AFn := .code 2 c_q0j [.cell true 2 4]
set_option maxRecDepth 100000 in
theorem k_q0j : compF Tryz.prog h_q0j F_q0j = some a_q0j := by kernel_rfl

def h_q27 : Hints := { kp := [(0, [0, 1]), (1, [0, 1]), (2, [0, 1, 5]), (4, [0, 1, 5]), (5, []), (3, [0, 1, 5]), (6, [])], lkp := [(2, [0, 1, 5])], lth := [] }
def K_q27_0 : Option (List Nat) := (some [0, 1, 5])
def l_q27_0 : ACode :=
 .seq (.seq (.region (some [0, 1, 5]) [i 6 (.mv (.t 5)),
 i 7 (.mv (.t 0)),
 i 8 (.len false (.t 7)),
 i 9 (.bin .lss (.t 6) (.t 8))] [])
 (.cond (.t 9) (.skip) (.exit 0)))
 (.seq (.block 1 (.seq (.region (some [0, 1, 5]) [i 12 (.mv (.t 0)),
 i 13 (.mv (.t 5)),
 i 14 (.iaddrS 1 (.t 12) (.t 13)),
 i 15 (.load false 1 (.t 14)),
 i 16 (.mv (.t 1)),
 i 17 (.bin .eql (.t 15) (.t 16))] [])
 (.cond (.t 17) (.seq (.region (some []) [i 4 (.mv (.c (.d (.b true))))] [])
 (.ret)) (.skip))))
 (.region (some [0, 1, 5]) [i 10 (.mv (.t 5)),
 i 11 (.bin .add (.t 10) (.c (.d (.i .i64 1)))),
 i 5 (.mv (.t 11))] []))
def c_q27 : ACode :=
 .seq (.region (some [0, 1]) [i 4 (.mv (.c (.d (.b false))))] [])
 (.seq (.seq (.region (some [0, 1]) [i 5 (.mv (.c (.d (.i .i64 0))))] [])
 (.block 0 (.loop K_q27_0 [] l_q27_0)))
 (.seq (.region (some []) [i 4 (.mv (.c (.d (.b false))))] [])
 (.ret)))
def a_q27 : AFn := .code 2 c_q27 [.tmp 4]
set_option maxRecDepth 100000 in
theorem k_q27 : compF Tryz.prog h_q27 F_q27 = some a_q27 := by kernel_rfl

def h_q36 : Hints := { kp := [(0, [0]), (1, [1]), (2, [1, 8, 9]), (3, [1, 8, 9]), (4, [1, 4, 8, 9]), (5, []), (6, [1, 8, 9]), (7, [1]), (8, [17, 18]), (9, [17, 18]), (10, [6, 17, 18]), (11, []), (12, [17, 18]), (13, [])], lkp := [(2, [1, 8, 9]), (8, [17, 18])], lth := [] }
def K_q36_0 : Option (List Nat) := (some [1, 8, 9])
def l_q36_0 : ACode :=
 .seq (.region (some [1, 8, 9]) [i 10 (.bin .lss (.t 9) (.c (.d (.i .i64 6))))] [])
 (.seq (.cond (.t 10) (.skip) (.exit 0))
 (.seq (.block 1 (.seq (.region (some [1, 8, 9]) [i 11 (.idxA true 6 5 (.t 8) (.t 9)),
 i 4 (.box (.c (.d (.agg [.b false, .s ⟨#[]⟩, .s ⟨#[]⟩, .s ⟨#[]⟩, .s ⟨#[]⟩])))),
 ⟨none, .store 5 (.t 4) (.t 11), none⟩] [])
 (.seq (.region (some [1, 4, 8, 9]) [i 12 (.load true 5 (.t 4)),
 i 13 (.call (.f F_q3a) [.t 12]),
 i 14 (.un .not (.t 13))] [])
 (.cond (.t 14) (.seq (.region (some []) [i 2 (.mv (.c (.d (.b false))))] [])
 (.ret)) (.skip)))))
 (.region (some [1, 8, 9]) [i 15 (.bin .add (.t 9) (.c (.d (.i .i64 1)))),
 i 9 (.mv (.t 15))] [])))
def K_q36_1 : Option (List Nat) := (some [17, 18])
def l_q36_1 : ACode :=
 .seq (.region (some [17, 18]) [i 19 (.bin .lss (.t 18) (.c (.d (.i .i64 3))))] [])
 (.seq (.cond (.t 19) (.skip) (.exit 2))
 (.seq (.block 3 (.seq (.region (some [17, 18]) [i 20 (.idxA true 3 3 (.t 17) (.t 18)),
 i 6 (.box (.c (.d (.agg [.i .u32 0, .i .u8 0, .s ⟨#[]⟩])))),
 ⟨none, .store 3 (.t 6) (.t 20), none⟩] [])
 (.seq (.region (some [6, 17, 18]) [i 21 (.faddr 1 (.t 6)),
 i 22 (.faddr 1 (.t 21)),
 i 23 (.load false 1 (.t 22)),
 i 24 (.bin .neq (.t 23) (.c (.d (.s ⟨#[]⟩)))),
 i 25 (.mv (.t 24)),
 ⟨some 26, .faddr 1 (.t 6), some (25, false)⟩,
 ⟨some 27, .faddr 0 (.t 26), some (25, false)⟩,
 ⟨some 28, .load false 1 (.t 27), some (25, false)⟩,
 ⟨some 29, .bin .gtr (.t 28) (.c (.d (.i .u8 3))), some (25, false)⟩,
 i 30 (.pick (.t 25) (.c (.d (.b true))) (.t 29)),
 i 31 (.mv (.t 30)),
 ⟨some 32, .faddr 0 (.t 6), some (31, false)⟩,
 ⟨some 33, .load false 1 (.t 32), some (31, false)⟩,
 ⟨some 34, .bin .eql (.t 33) (.c (.d (.i .u32 0))), some (31, false)⟩,
 ⟨some 35, .mv (.t 34), some (31, false)⟩,
 ⟨some 36, .load true 3 (.t 6), some (35, true)⟩,
 ⟨some 37, .build [.d (.i .u32 0), .d (.i .u8 0), .d (.s ⟨#[]⟩)] [], some (35, true)⟩,
 ⟨some 38, .eq true Pk.Last.ety (.t 36) (.t 37), some (35, true)⟩,
 ⟨some 39, .pick (.t 35) (.t 38) (.c (.d (.b false))), some (31, false)⟩,
 i 40 (.pick (.t 31) (.c (.d (.b true))) (.t 39))] [])
 (.cond (.t 40) (.seq (.region (some []) [i 2 (.mv (.c (.d (.b false))))] [])
 (.ret)) (.skip)))))
 (.region (some [17, 18]) [i 41 (.bin .add (.t 18) (.c (.d (.i .i64 1)))),
 i 18 (.mv (.t 41))] [])))
def c_q36 : ACode :=
 .seq (.region (some [0]) [i 1 (.box (.t 0)),
 i 2 (.mv (.c (.d (.b false))))] [])
 (.seq (.seq (.region (some [1]) [i 7 (.faddr 0 (.t 1)),
 i 8 (.load true 30 (.t 7)),
 i 9 (.mv (.c (.d (.i .i64 0))))] [])
 (.block 0 (.loop K_q36_0 [] l_q36_0)))
 (.seq (.seq (.region (some [1]) [i 16 (.faddr 30 (.t 1)),
 i 17 (.load true 9 (.t 16)),
 i 18 (.mv (.c (.d (.i .i64 0))))] [])
 (.block 2 (.loop K_q36_1 [] l_q36_1)))
 (.seq (.region (some []) [i 2 (.mv (.c (.d (.b true))))] [])
 (.ret))))
def a_q36 : AFn := .code 1 c_q36 [.tmp 2]
set_option maxRecDepth 100000 in
theorem k_q36 : compF Tryz.prog h_q36 F_q36 = some a_q36 := by kernel_rfl

def h_q1g : Hints := { kp := [(0, [0]), (1, [1])], lkp := [], lth := [] }
def c_q1g : ACode :=
 .seq (.region (some [0]) [i 1 (.box (.t 0)),
 i 2 (.mv (.c (.d (.b false))))] [])
 (.seq (.region (some [1]) [i 3 (.load true 6 (.t 1)),
 i 4 (.call (.f F_q1e) [.t 3]),
 i 5 (.mv (.t 4)),
 ⟨some 6, .faddr 2 (.t 1), some (5, true)⟩,
 ⟨some 7, .load false 1 (.t 6), some (5, true)⟩,
 ⟨some 8, .bin .neq (.t 7) (.c (.d (.i .u8 5))), some (5, true)⟩,
 i 9 (.pick (.t 5) (.t 8) (.c (.d (.b false)))),
 i 2 (.mv (.t 9))] [])
 (.ret))
def a_q1g : AFn := .code 1 c_q1g [.tmp 2]
set_option maxRecDepth 100000 in
theorem k_q1g : compF Tryz.prog h_q1g F_q1g = some a_q1g := by kernel_rfl

def h_q1d : Hints := { kp := [(0, [0, 1]), (1, [2, 3, 4, 5]), (2, [2, 4, 5]), (3, [2, 3, 4, 5]), (4, [2, 3, 4, 5, 6, 7]), (5, [2, 4, 5, 6]), (6, [2, 3, 4, 5]), (7, [2, 3, 4, 5, 8]), (8, [2, 3, 4, 5, 8, 9]), (9, [2, 3, 4, 5, 9]), (10, [2, 4, 5, 9])], lkp := [], lth := [] }
def c_q1d : ACode :=
 .seq (.region (some [0, 1]) [i 2 (.box (.t 0)),
 i 3 (.box (.t 1)),
 i 4 (.box (.c (.d (.agg Pk.Base.zero.cs)))),
 i 5 (.box (.c (.d (.agg [.i .u8 0, .s ⟨#[]⟩]))))] [])
 (.seq (.seq (.region (some [2, 3, 4, 5]) [i 10 (.load true 6 (.t 3)),
 i 11 (.call (.f F_q1g) [.t 10]),
 i 12 (.un .not (.t 11))] [])
 (.cond (.t 12) (.seq (.region (some [2, 4, 5]) [i 13 (.load true 39 (.t 2)),
 i 14 (.build [.d (.i .u8 0), .d (.s ⟨#[]⟩)] [(0, 1, .c (.d (.i .u8 3)))]),
 ⟨none, .store 39 (.t 4) (.t 13), none⟩,
 ⟨none, .store 2 (.t 5) (.t 14), none⟩] [])
 (.ret)) (.skip)))
 (.seq (.seq (.region (some [2, 3, 4, 5]) [i 16 (.load true 39 (.t 2)),
 i 17 (.load true 6 (.t 3)),
 i 18 (.call (.f F_q1f) [.t 16, .t 17]),
 i 15 (.mv (.t 18)),
 i 19 (.ext (.t 15) 0),
 i 20 (.ext (.t 15) 1),
 i 6 (.box (.c (.d (.agg [.i .u8 0, .s ⟨#[]⟩])))),
 ⟨none, .store 2 (.t 6) (.t 19), none⟩,
 i 7 (.mv (.t 20))] [])
 (.seq (.region (some [2, 3, 4, 5, 6, 7]) [i 21 (.mv (.t 7))] [])
 (.cond (.t 21) (.seq (.region (some [2, 4, 5, 6]) [i 22 (.load true 39 (.t 2)),
 i 23 (.load true 2 (.t 6)),
 ⟨none, .store 39 (.t 4) (.t 22), none⟩,
 ⟨none, .store 2 (.t 5) (.t 23), none⟩] [(0, 1), (1, 2)])
 (.ret)) (.skip))))
 (.seq (.region (some [2, 3, 4, 5]) [i 24 (.faddr 3 (.t 3)),
 i 25 (.load false 1 (.t 24)),
 i 26 (.faddr 0 (.t 2)),
 i 27 (.iaddrA 6 5 (.t 26) (.t 25)),
 i 28 (.load true 5 (.t 27)),
 i 29 (.build [.d (.b false), .d (.s ⟨#[]⟩), .d (.s ⟨#[]⟩), .d (.s ⟨#[]⟩), .d (.s ⟨#[]⟩)] [(0, 5, .t 28)]),
 i 30 (.box (.t 29)),
 i 8 (.mv (.t 30))] [])
 (.seq (.region (some [2, 3, 4, 5, 8]) [i 31 (.faddr 2 (.t 3)),
 i 32 (.load false 1 (.t 31)),
 i 33 (.call (.f F_q1l) [.t 32]),
 i 34 (.mv (.t 8)),
 i 35 (.load true 6 (.t 3)),
 i 36 (.call (.t 33) [.t 34, .t 35]),
 i 37 (.build [.d (.i .u8 0), .d (.s ⟨#[]⟩)] [(0, 1, .t 36)]),
 i 9 (.box (.c (.d (.agg [.i .u8 0, .s ⟨#[]⟩])))),
 ⟨none, .store 2 (.t 9) (.t 37), none⟩] [(1, 4), (2, 4), (1, 7), (2, 7), (4, 7), (5, 7)])
 (.seq (.region (some [2, 3, 4, 5, 8, 9]) [i 38 (.faddr 3 (.t 3)),
 i 39 (.load false 1 (.t 38)),
 i 40 (.mv (.t 8)),
 i 41 (.nilck (.t 40)),
 i 42 (.faddr 0 (.t 41)),
 i 43 (.load true 5 (.t 42)),
 i 44 (.faddr 0 (.t 2)),
 i 45 (.iaddrA 6 5 (.t 44) (.t 39)),
 ⟨none, .store 5 (.t 45) (.t 43), none⟩] [(1, 5)])
 (.seq (.region (some [2, 3, 4, 5, 9]) [i 46 (.faddr 0 (.t 3)),
 i 47 (.load false 1 (.t 46)),
 i 48 (.bin .sub (.t 47) (.c (.d (.i .u8 1)))),
 i 49 (.faddr 1 (.t 3)),
 i 50 (.load false 1 (.t 49)),
 i 51 (.load true 2 (.t 9)),
 i 52 (.build [.d (.i .u32 0), .d (.i .u8 0), .d (.s ⟨#[]⟩)] [(0, 1, .t 50), (1, 2, .t 51)]),
 i 53 (.faddr 30 (.t 2)),
 i 54 (.iaddrA 3 3 (.t 53) (.t 48)),
 ⟨none, .store 3 (.t 54) (.t 52), none⟩] [])
 (.seq (.region (some [2, 4, 5, 9]) [i 55 (.load true 39 (.t 2)),
 i 56 (.load true 2 (.t 9)),
 ⟨none, .store 39 (.t 4) (.t 55), none⟩,
 ⟨none, .store 2 (.t 5) (.t 56), none⟩] [(0, 1), (1, 2)])
 (.ret))))))))
def a_q1d : AFn := .code 2 c_q1d [.cell true 39 4, .cell true 2 5]
set_option maxRecDepth 100000 in
theorem k_q1d : compF Tryz.prog h_q1d F_q1d = some a_q1d := by kernel_rfl

def h_q4b : Hints := { kp := [(0, [0, 1]), (1, [0, 1]), (2, [0, 1, 7, 8]), (3, [0, 1, 7, 8]), (4, [0, 1, 5, 7, 8]), (5, [5]), (6, [0, 1, 7, 8]), (7, [])], lkp := [(2, [0, 1, 7, 8])], lth := [] }
def K_q4b_0 : Option (List Nat) := (some [0, 1, 7, 8])
def l_q4b_0 : ACode :=
 .seq (.region (some [0, 1, 7, 8]) [i 9 (.bin .lss (.t 8) (.t 7))] [])
 (.seq (.cond (.t 9) (.skip) (.exit 0))
 (.seq (.block 1 (.seq (.region (some [0, 1, 7, 8]) [i 10 (.mv (.t 8)),
 i 5 (.mv (.t 10))] [])
 (.seq (.region (some [0, 1, 5, 7, 8]) [i 11 (.mv (.t 1)),
 i 12 (.mv (.t 0)),
 i 13 (.mv (.t 5)),
 i 14 (.iaddrS 49 (.t 12) (.t 13)),
 i 15 (.load true 49 (.t 14)),
 i 16 (.call (.t 11) [.t 15])] [])
 (.cond (.t 16) (.seq (.region (some [5]) [i 17 (.mv (.t 5)),
 i 4 (.mv (.t 17))] [])
 (.ret)) (.skip)))))
 (.region (some [0, 1, 7, 8]) [i 18 (.bin .add (.t 8) (.c (.d (.i .i64 1)))),
 i 8 (.mv (.t 18))] [])))
def c_q4b : ACode :=
 .seq (.region (some [0, 1]) [i 4 (.mv (.c (.d (.i .i64 0))))] [])
 (.seq (.seq (.region (some [0, 1]) [i 6 (.mv (.t 0)),
 i 7 (.len false (.t 6)),
 i 8 (.mv (.c (.d (.i .i64 0))))] [])
 (.block 0 (.loop K_q4b_0 [] l_q4b_0)))
 (.seq (.region (some []) [i 4 (.mv (.c (.d (.i .i64 (-1)))))] [])
 (.ret)))
def a_q4b : AFn := .code 2 c_q4b [.tmp 4]
set_option maxRecDepth 100000 in
theorem k_q4b : compF Tryz.prog h_q4b F_q4b = some a_q4b := by kernel_rfl

def h_q04 : Hints := { kp := [(0, [0]), (1, [1])], lkp := [], lth := [] }
def c_q04 : ACode :=
 .seq (.region (some [0]) [i 1 (.box (.t 0)),
 i 2 (.mv (.c (.d (.b false))))] [])
 (.seq (.region (some [1]) [i 3 (.load true 49 (.t 1)),
 i 4 (.call (.f F_q32) [.t 3]),
 i 5 (.un .not (.t 4)),
 i 2 (.mv (.t 5))] [])
 (.ret))
def a_q04 : AFn := .code 1 c_q04 [.tmp 2]
set_option maxRecDepth 100000 in
theorem k_q04 : compF Tryz.prog h_q04 F_q04 = some a_q04 := by kernel_rfl

def h_q0a : Hints := { kp := [(0, [0, 1]), (1, [2, 3]), (3, [2, 3]), (5, [2, 3]), (6, [2, 3]), (4, [2, 3]), (2, [2, 3]), (7, [2, 3])], lkp := [], lth := [] }
def c_q0a : ACode :=
 .seq (.region (some [0, 1]) [i 2 (.box (.t 0)),
 i 3 (.box (.t 1)),
 i 4 (.mv (.c (.d (.b false))))] [])
 (.seq (.block 0 (.seq (.region (some [2, 3]) [i 6 (.faddr 1 (.t 2)),
 i 7 (.load false 1 (.t 6)),
 i 8 (.faddr 1 (.t 3)),
 i 9 (.load false 1 (.t 8)),
 i 10 (.bin .neq (.t 7) (.t 9)),
 i 5 (.mv (.t 10))] [])
 (.cond (.t 5) (.seq (.region (some [2, 3]) [i 11 (.faddr 1 (.t 2)),
 i 12 (.load false 1 (.t 11)),
 i 13 (.faddr 1 (.t 3)),
 i 14 (.load false 1 (.t 13)),
 i 15 (.bin .gtr (.t 12) (.t 14)),
 i 4 (.mv (.t 15))] [])
 (.ret)) (.seq (.region (some [2, 3]) [i 17 (.faddr 2 (.t 2)),
 i 18 (.load false 1 (.t 17)),
 i 19 (.faddr 2 (.t 3)),
 i 20 (.load false 1 (.t 19)),
 i 21 (.bin .neq (.t 18) (.t 20)),
 i 16 (.mv (.t 21))] [])
 (.cond (.t 16) (.seq (.region (some [2, 3]) [i 22 (.faddr 2 (.t 2)),
 i 23 (.load false 1 (.t 22)),
 i 24 (.faddr 2 (.t 3)),
 i 25 (.load false 1 (.t 24)),
 i 26 (.bin .gtr (.t 23) (.t 25)),
 i 4 (.mv (.t 26))] [])
 (.ret)) (.seq (.region (some [2, 3]) [i 28 (.faddr 3 (.t 2)),
 i 29 (.load false 1 (.t 28)),
 i 30 (.faddr 3 (.t 3)),
 i 31 (.load false 1 (.t 30)),
 i 32 (.bin .neq (.t 29) (.t 31)),
 i 27 (.mv (.t 32))] [])
 (.cond (.t 27) (.seq (.region (some [2, 3]) [i 33 (.faddr 3 (.t 2)),
 i 34 (.load false 1 (.t 33)),
 i 35 (.faddr 3 (.t 3)),
 i 36 (.load false 1 (.t 35)),
 i 37 (.bin .gtr (.t 34) (.t 36)),
 i 4 (.mv (.t 37))] [])
 (.ret)) (.skip))))))))
 (.seq (.region (some [2, 3]) [i 38 (.faddr 0 (.t 2)),
 i 39 (.load false 1 (.t 38)),
 i 40 (.faddr 0 (.t 3)),
 i 41 (.load false 1 (.t 40)),
 i 42 (.bin .lss (.t 39) (.t 41)),
 i 4 (.mv (.t 42))] [])
 (.ret)))
def a_q0a : AFn := .code 2 c_q0a [.tmp 4]
set_option maxRecDepth 100000 in
theorem k_q0a : compF Tryz.prog h_q0a F_q0a = some a_q0a := by kernel_rfl

def h_q06 : Hints := { kp := [(0, [0, 1]), (1, [0, 1])], lkp := [], lth := [] }
def c_q06 : ACode :=
 .seq (.region (some [0, 1]) [i 3 (.mv (.c (.d (.b false))))] [])
 (.seq (.region (some [0, 1]) [i 4 (.load false 1 (.t 1)),
 i 5 (.mv (.t 0)),
 i 6 (.call (.f F_q45) [.t 4, .t 5]),
 i 7 (.un .not (.t 6)),
 i 3 (.mv (.t 7))] [])
 (.ret))
def a_q06 : AFn := .code 2 c_q06 [.tmp 3]
set_option maxRecDepth 100000 in
theorem k_q06 : compF Tryz.prog h_q06 F_q06 = some a_q06 := by kernel_rfl

def h_q45 : Hints := { kp := [(0, [0, 1]), (1, [0, 1])], lkp := [], lth := [] }
def c_q45 : ACode :=
 .seq (.region (some [0, 1]) [i 4 (.mv (.c (.d (.b false))))] [])
 (.seq (.region (some [0, 1]) [i 5 (.mv (.t 0)),
 i 6 (.mv (.t 1)),
 i 7 (.call (.f F_q4d) [.t 5, .t 6]),
 i 8 (.bin .geq (.t 7) (.c (.d (.i .i64 0)))),
 i 4 (.mv (.t 8))] [])
 (.ret))
def a_q45 : AFn := .code 2 c_q45 [.tmp 4]
set_option maxRecDepth 100000 in
theorem k_q45 : compF Tryz.prog h_q45 F_q45 = some a_q45 := by kernel_rfl

def h_q07 : Hints := { kp := [(0, [0, 1, 2, 3]), (1, [0, 1, 2, 3]), (2, [2, 3, 9]), (3, []), (4, [2, 3, 9]), (5, [9, 10])], lkp := [], lth := [] }
def c_q07 : ACode :=
 .seq (.region (some [0, 1, 2, 3]) [i 8 (.mv (.c (.nilS)))] [])
 (.seq (.region (some [0, 1, 2, 3]) [i 11 (.mv (.t 0)),
 i 12 (.mv (.t 1)),
 i 13 (.call (.f F_q0h) [.t 11, .t 12]),
 i 9 (.mv (.t 13))] [])
 (.seq (.seq (.region (some [2, 3, 9]) [i 14 (.mv (.t 9)),
 i 15 (.len false (.t 14)),
 i 16 (.bin .eql (.t 15) (.c (.d (.i .i64 0))))] [])
 (.cond (.t 16) (.seq (.region (some []) [i 8 (.mv (.c (.nilS)))] [])
 (.ret)) (.skip)))
 (.seq (.region (some [2, 3, 9]) [i 17 (.mv (.t 2)),
 i 18 (.mv (.t 3)),
 i 19 (.build [.nilS, .d (.i .u32 0)] [(0, 1, .t 17), (1, 1, .t 18)]),
 i 20 (.mkfn F_q0c [.t 19] []),
 i 10 (.box (.c (.one))),
 ⟨none, .store 1 (.t 10) (.t 20), none⟩] [])
 (.seq (.region (some [9, 10]) [i 21 (.mv (.t 9)),
 i 22 (.mv (.t 9)),
 i 23 (.len false (.t 22)),
 i 24 (.bin .sub (.t 23) (.c (.d (.i .i64 1)))),
 i 25 (.slice 2 (.t 21) none (some (.t 24)) none),
 i 26 (.mkfn F_q08 [] [.t 10]),
 i 27 (.call (.f F_q46) [.t 25, .t 26]),
 i 8 (.mv (.t 27))] [])
 (.ret)))))
def a_q07 : AFn := .code 4 c_q07 [.tmp 8]
set_option maxRecDepth 100000 in
theorem k_q07 : compF Tryz.prog h_q07 F_q07 = some a_q07 := by kernel_rfl

def h_q44 : Hints := { kp := [(0, [0, 1]), (1, [0, 1])], lkp := [], lth := [] }
def c_q44 : ACode :=
 .seq (.region (some [0, 1]) [i 4 (.mv (.c (.d (.b false))))] [])
 (.seq (.region (some [0, 1]) [i 5 (.mv (.t 0)),
 i 6 (.mv (.t 1)),
 i 7 (.call (.f F_q4c) [.t 5, .t 6]),
 i 8 (.bin .geq (.t 7) (.c (.d (.i .i64 0)))),
 i 4 (.mv (.t 8))] [])
 (.ret))
def a_q44 : AFn := .code 2 c_q44 [.tmp 4]
set_option maxRecDepth 100000 in
theorem k_q44 : compF Tryz.prog h_q44 F_q44 = some a_q44 := by kernel_rfl

def h_q18 : Hints := { kp := [(0, [0, 1]), (1, [2, 3, 4]), (2, [4]), (3, [2, 3, 4]), (4, [2, 3, 4, 5]), (5, [2, 3, 4, 5]), (7, [2, 3, 4]), (8, [3, 4]), (6, [3, 4]), (9, [2, 3, 4]), (10, [3, 4, 6])], lkp := [], lth := [] }
def c_q18 : ACode :=
 .seq (.region (some [0, 1]) [i 2 (.box (.t 0)),
 i 3 (.box (.t 1)),
 i 4 (.box (.c (.agg Pk.Diff.zeroA)))] [])
 (.seq (.seq (.region (some [2, 3, 4]) [i 7 (.load true 49 (.t 2)),
 i 8 (.call (.f F_q32) [.t 7]),
 i 9 (.un .not (.t 8)),
 i 10 (.mv (.t 9)),
 ⟨some 11, .load true 49 (.t 3), some (10, false)⟩,
 ⟨some 12, .call (.f F_q32) [.t 11], some (10, false)⟩,
 ⟨some 13, .un .not (.t 12), some (10, false)⟩,
 i 14 (.pick (.t 10) (.c (.d (.b true))) (.t 13))] [])
 (.cond (.t 14) (.seq (.region (some [4]) [i 15 (.build Pk.Diff.zeroA []),
 ⟨none, .store 52 (.t 4) (.t 15), none⟩] [])
 (.ret)) (.skip)))
 (.seq (.region (some [2, 3, 4]) [i 16 (.load true 49 (.t 2)),
 i 5 (.box (.c (.agg Pk.State.zeroA))),
 ⟨none, .store 49 (.t 5) (.t 16), none⟩] [])
 (.seq (.region (some [2, 3, 4, 5]) [i 17 (.faddr 0 (.t 3)),
 i 18 (.load false 1 (.t 17)),
 i 19 (.faddr 0 (.t 5)),
 ⟨none, .store 1 (.t 19) (.t 18), none⟩] [])
 (.seq (.block 0 (.seq (.region (some [2, 3, 4, 5]) [i 21 (.load true 49 (.t 5)),
 i 22 (.load true 49 (.t 3)),
 i 23 (.call (.f F_q33) [.t 21, .t 22]),
 i 20 (.mv (.t 23))] [])
 (.cond (.t 20) (.seq (.region (some [3, 4]) [i 24 (.load true 49 (.t 3)),
 i 25 (.call (.f F_q1b) [.t 24]),
 i 26 (.build Pk.Diff.zeroA [(0, 1, .c (.d (.i .i64 0))), (3, 49, .t 25)]),
 ⟨none, .store 52 (.t 4) (.t 26), none⟩] [])
 (.ret)) (.seq (.region (some [2, 3, 4]) [i 28 (.load true 49 (.t 2)),
 i 29 (.load true 49 (.t 3)),
 i 30 (.call (.f F_q1c) [.t 28, .t 29]),
 i 31 (.un .not (.t 30)),
 i 27 (.mv (.t 31))] [])
 (.cond (.t 27) (.seq (.region (some [3, 4]) [i 32 (.load true 49 (.t 3)),
 i 33 (.call (.f F_q2y) [.t 32]),
 i 34 (.build Pk.Diff.zeroA [(0, 1, .c (.d (.i .i64 2))), (3, 49, .t 33)]),
 ⟨none, .store 52 (.t 4) (.t 34), none⟩] [])
 (.ret)) (.skip))))))
 (.seq (.region (some [2, 3, 4]) [i 35 (.load true 49 (.t 2)),
 i 36 (.load true 49 (.t 3)),
 i 37 (.call (.f F_q1a) [.t 35, .t 36]),
 i 6 (.mv (.t 37))] [])
 (.seq (.region (some [3, 4, 6]) [i 38 (.mv (.t 6)),
 i 39 (.faddr 48 (.t 3)),
 i 40 (.load false 1 (.t 39)),
 i 41 (.mv (.t 6)),
 i 42 (.faddr 40 (.t 3)),
 i 43 (.faddr 1 (.t 42)),
 i 44 (.load false 1 (.t 43)),
 i 45 (.bin .sub (.t 41) (.t 44)),
 i 46 (.slice 8 (.t 40) (some (.t 45)) none none),
 i 47 (.call (.f F_q40) [.t 46]),
 i 48 (.load true 49 (.t 3)),
 i 49 (.call (.f F_q1b) [.t 48]),
 i 50 (.build Pk.Diff.zeroA [(0, 1, .c (.d (.i .i64 1))), (1, 1, .t 38), (2, 1, .t 47), (3, 49, .t 49)]),
 ⟨none, .store 52 (.t 4) (.t 50), none⟩] [(2, 6), (2, 10), (6, 10), (9, 10)])
 (.ret)))))))
def a_q18 : AFn := .code 2 c_q18 [.cell true 52 4]
set_option maxRecDepth 100000 in
theorem k_q18 : compF Tryz.prog h_q18 F_q18 = some a_q18 := by kernel_rfl

def h_q3c : Hints := { dat := true, kp := [(0, [0, 1]), (1, [1, 2])], lkp := [], lth := [] }
def c_q3c : ACode :=
 .seq (.region (some [0, 1]) [i 2 (.box (.t 0)),
 i 4 (.mv (.c (.nilS)))] [])
 (.seq (.region (some [1, 2]) [i 5 (.load true 16 (.t 2)),
 i 6 (.mv (.t 1)),
 i 7 (.call (.f F_q3e) [.t 5, .t 6]),
 i 8 (.mkfn F_q3d [] [.t 2]),
 i 9 (.call (.f F_q47) [.t 7, .t 8]),
 i 4 (.mv (.t 9))] [])
 (.ret))
def a_q3c : AFn := .code 2 c_q3c [.dat (.tmp 4)]
set_option maxRecDepth 100000 in
theorem k_q3c : compF Tryz.prog h_q3c F_q3c = some a_q3c := by kernel_rfl

def h_q16 : Hints := { kp := [(0, []), (1, [0])], lkp := [], lth := [] }
def c_q16 : ACode :=
 .seq (.region (some []) [i 0 (.box (.c (.agg Pk.State.zeroA))),
 i 1 (.mv (.c (.d (.i .i64 0))))] [])
 (.seq (.region (some [0]) [i 2 (.build Pk.State.zeroA []),
 ⟨none, .store 49 (.t 0) (.t 2), none⟩,
 i 1 (.mv (.c (.d (.i .i64 80))))] [])
 (.ret))
def a_q16 : AFn := .code 0 c_q16 [.cell true 49 0, .tmp 1]
set_option maxRecDepth 100000 in
theorem k_q16 : compF Tryz.prog h_q16 F_q16 = some a_q16 := by kernel_rfl

def h_q2y : Hints := { kp := [(0, [0]), (1, [1, 2]), (2, [1, 2, 3]), (3, [1, 2, 3]), (4, [1, 2])], lkp := [], lth := [] }
def c_q2y : ACode :=
 .seq (.region (some [0]) [i 1 (.box (.t 0)),
 i 2 (.box (.c (.agg Pk.State.zeroA)))] [])
 (.seq (.region (some [1, 2]) [i 4 (.faddr 48 (.t 1)),
 i 5 (.load false 1 (.t 4)),
 i 6 (.len false (.t 5)),
 i 7 (.mksl 8 (.agg [.i .u32 0, .i .u32 0, .i .u8 0, .i .u32 0, .i .u8 0, .i .u8 0, .i .u8 0, .s ⟨#[]⟩]) (.t 6) (.t 6)),
 i 3 (.mv (.t 7))] [])
 (.seq (.region (some [1, 2, 3]) [i 8 (.mv (.t 3)),
 i 9 (.faddr 48 (.t 1)),
 i 10 (.load false 1 (.t 9)),
 i 11 (.cpy 8 (.t 8) (.t 10))] [])
 (.seq (.region (some [1, 2, 3]) [i 12 (.mv (.t 3)),
 i 13 (.faddr 48 (.t 1)),
 ⟨none, .store 1 (.t 13) (.t 12), none⟩] [])
 (.seq (.region (some [1, 2]) [i 14 (.load true 49 (.t 1)),
 ⟨none, .store 49 (.t 2) (.t 14), none⟩] [])
 (.ret)))))
def a_q2y : AFn := .code 1 c_q2y [.cell true 49 2]
set_option maxRecDepth 100000 in
theorem k_q2y : compF Tryz.prog h_q2y F_q2y = some a_q2y := by kernel_rfl

def h_q2z : Hints := { kp := [(0, [0, 1]), (1, [1, 2, 4]), (3, [1, 2, 4]), (4, [4]), (2, [4]), (5, [1, 2, 4]), (6, [2, 4])], lkp := [], lth := [] }
def c_q2z : ACode :=
 .seq (.region (some [0, 1]) [i 2 (.box (.t 0)),
 i 4 (.box (.c (.agg Pk.State.zeroA))),
 i 5 (.mv (.c (.d (.i .i64 0))))] [])
 (.seq (.block 0 (.seq (.region (some [1, 2, 4]) [i 7 (.load true 49 (.t 2)),
 i 8 (.call (.f F_q32) [.t 7]),
 i 9 (.un .not (.t 8)),
 i 6 (.mv (.t 9))] [])
 (.cond (.t 6) (.seq (.region (some [4]) [i 10 (.build Pk.State.zeroA []),
 ⟨none, .store 49 (.t 4) (.t 10), none⟩,
 i 5 (.mv (.c (.d (.i .i64 10))))] [])
 (.ret)) (.seq (.region (some [1, 2, 4]) [i 12 (.load true 49 (.t 2)),
 i 13 (.mv (.t 1)),
 i 14 (.call (.f F_q3b) [.t 12, .t 13]),
 i 15 (.bin .lss (.t 14) (.c (.d (.i .i64 0)))),
 i 11 (.mv (.t 15))] [])
 (.cond (.t 11) (.seq (.region (some [4]) [i 16 (.build Pk.State.zeroA []),
 ⟨none, .store 49 (.t 4) (.t 16), none⟩,
 i 5 (.mv (.c (.d (.i .i64 141))))] [])
 (.ret)) (.skip))))))
 (.seq (.region (some [1, 2, 4]) [i 17 (.faddr 48 (.t 2)),
 i 18 (.load false 1 (.t 17)),
 i 19 (.load true 49 (.t 2)),
 i 20 (.mv (.t 1)),
 i 21 (.call (.f F_q3b) [.t 19, .t 20]),
 i 22 (.slice 8 (.t 18) none (some (.t 21)) none),
 i 23 (.call (.f F_q40) [.t 22]),
 i 24 (.faddr 48 (.t 2)),
 ⟨none, .store 1 (.t 24) (.t 23), none⟩] [(1, 2), (1, 4)])
 (.seq (.region (some [2, 4]) [i 25 (.load true 49 (.t 2)),
 ⟨none, .store 49 (.t 4) (.t 25), none⟩,
 i 5 (.mv (.c (.d (.i .i64 0))))] [])
 (.ret))))
def a_q2z : AFn := .code 2 c_q2z [.cell true 49 4, .tmp 5]
set_option maxRecDepth 100000 in
theorem k_q2z : compF Tryz.prog h_q2z F_q2z = some a_q2z := by kernel_rfl

def h_q19 : Hints := { kp := [(0, [0, 1]), (1, [1, 2, 4]), (2, [2, 4, 10, 11, 12]), (3, [2, 4, 10, 11, 12]), (4, [2, 4, 7, 10, 11, 12]), (5, [2, 4, 8, 9, 10, 11, 12]), (6, [4, 9]), (7, [2, 4, 8, 10, 11, 12]), (8, [2, 4, 10, 11, 12]), (9, [2, 4])], lkp := [(2, [2, 4, 10, 11, 12])], lth := [] }
def K_q19_0 : Option (List Nat) := (some [2, 4, 10, 11, 12])
def l_q19_0 : ACode :=
 .seq (.region (some [2, 4, 10, 11, 12]) [i 13 (.bin .lss (.t 12) (.t 11))] [])
 (.seq (.cond (.t 13) (.skip) (.exit 0))
 (.seq (.block 1 (.seq (.region (some [2, 4, 10, 11, 12]) [i 14 (.iaddrS 8 (.t 10) (.t 12)),
 i 15 (.load true 8 (.t 14)),
 i 7 (.box (.c (.d (.agg [.i .u32 0, .i .u32 0, .i .u8 0, .i .u32 0, .i .u8 0, .i .u8 0, .i .u8 0, .s ⟨#[]⟩])))),
 ⟨none, .store 8 (.t 7) (.t 15), none⟩] [])
 (.seq (.region (some [2, 4, 7, 10, 11, 12]) [i 17 (.load true 49 (.t 2)),
 i 18 (.load true 8 (.t 7)),
 i 19 (.call (.f F_q2x) [.t 17, .t 18]),
 i 16 (.mv (.t 19)),
 i 20 (.ext (.t 16) 0),
 i 21 (.ext (.t 16) 1),
 i 8 (.box (.c (.agg Pk.State.zeroA))),
 ⟨none, .store 49 (.t 8) (.t 20), none⟩,
 i 9 (.mv (.t 21))] [])
 (.seq (.seq (.region (some [2, 4, 8, 9, 10, 11, 12]) [i 22 (.mv (.t 9)),
 i 23 (.bin .neq (.t 22) (.c (.d (.i .i64 0))))] [])
 (.cond (.t 23) (.seq (.region (some [4, 9]) [i 24 (.build Pk.State.zeroA []),
 i 25 (.mv (.t 9)),
 ⟨none, .store 49 (.t 4) (.t 24), none⟩,
 i 5 (.mv (.t 25))] [])
 (.ret)) (.skip)))
 (.region (some [2, 4, 8, 10, 11, 12]) [i 26 (.load true 49 (.t 8)),
 ⟨none, .store 49 (.t 2) (.t 26), none⟩] [])))))
 (.region (some [2, 4, 10, 11, 12]) [i 27 (.bin .add (.t 12) (.c (.d (.i .i64 1)))),
 i 12 (.mv (.t 27))] [])))
def c_q19 : ACode :=
 .seq (.region (some [0, 1]) [i 2 (.box (.t 0)),
 i 4 (.box (.c (.agg Pk.State.zeroA))),
 i 5 (.mv (.c (.d (.i .i64 0))))] [])
 (.seq (.seq (.region (some [1, 2, 4]) [i 10 (.mv (.t 1)),
 i 11 (.len false (.t 10)),
 i 12 (.mv (.c (.d (.i .i64 0))))] [])
 (.block 0 (.loop K_q19_0 [] l_q19_0)))
 (.seq (.region (some [2, 4]) [i 28 (.load true 49 (.t 2)),
 ⟨none, .store 49 (.t 4) (.t 28), none⟩,
 i 5 (.mv (.c (.d (.i .i64 0))))] [])
 (.ret)))
def a_q19 : AFn := .code 2 c_q19 [.cell true 49 4, .tmp 5]
set_option maxRecDepth 100000 in
theorem k_q19 : compF Tryz.prog h_q19 F_q19 = some a_q19 := by kernel_rfl

def h_q34 : Hints := { kp := [(0, [0, 1]), (1, [1, 2, 4]), (3, [1, 2, 4]), (5, [1, 2, 4]), (6, [4]), (4, [4]), (2, [4]), (7, [1, 2, 4])], lkp := [], lth := [] }
def c_q34 : ACode :=
 .seq (.region (some [0, 1]) [i 2 (.box (.t 0)),
 i 4 (.box (.c (.agg Pk.State.zeroA))),
 i 5 (.mv (.c (.d (.i .i64 0))))] [])
 (.seq (.block 0 (.seq (.region (some [1, 2, 4]) [i 7 (.load true 49 (.t 2)),
 i 8 (.call (.f F_q32) [.t 7]),
 i 9 (.un .not (.t 8)),
 i 6 (.mv (.t 9))] [])
 (.cond (.t 6) (.seq (.region (some [4]) [i 10 (.build Pk.State.zeroA []),
 ⟨none, .store 49 (.t 4) (.t 10), none⟩,
 i 5 (.mv (.c (.d (.i .i64 10))))] [])
 (.ret)) (.seq (.region (some [1, 2, 4]) [i 12 (.mv (.t 1)),
 i 13 (.faddr 40 (.t 2)),
 i 14 (.faddr 1 (.t 13)),
 i 15 (.load false 1 (.t 14)),
 i 16 (.bin .lss (.t 12) (.t 15)),
 i 11 (.mv (.t 16))] [])
 (.cond (.t 11) (.seq (.region (some [4]) [i 17 (.build Pk.State.zeroA []),
 ⟨none, .store 49 (.t 4) (.t 17), none⟩,
 i 5 (.mv (.c (.d (.i .i64 80))))] [])
 (.ret)) (.seq (.region (some [1, 2, 4]) [i 19 (.load true 49 (.t 2)),
 i 20 (.mv (.t 1)),
 i 21 (.call (.f F_q3b) [.t 19, .t 20]),
 i 22 (.bin .lss (.t 21) (.c (.d (.i .i64 0)))),
 i 18 (.mv (.t 22))] [])
 (.cond (.t 18) (.seq (.region (some [4]) [i 23 (.build Pk.State.zeroA []),
 ⟨none, .store 49 (.t 4) (.t 23), none⟩,
 i 5 (.mv (.c (.d (.i .i64 141))))] [])
 (.ret)) (.skip))))))))
 (.seq (.region (some [1, 2, 4]) [i 24 (.load true 49 (.t 2)),
 i 25 (.load true 49 (.t 2)),
 i 26 (.mv (.t 1)),
 i 27 (.call (.f F_q3b) [.t 25, .t 26]),
 i 28 (.call (.f F_q37) [.t 24, .t 27]),
 ⟨none, .store 49 (.t 4) (.t 28), none⟩,
 i 5 (.mv (.c (.d (.i .i64 0))))] [(0, 1), (0, 3)])
 (.ret)))
def a_q34 : AFn := .code 2 c_q34 [.cell true 49 4, .tmp 5]
set_option maxRecDepth 100000 in
theorem k_q34 : compF Tryz.prog h_q34 F_q34 = some a_q34 := by kernel_rfl

def h_q0y : Hints := { kp := [(0, [0]), (1, [1]), (2, [1, 6, 7]), (3, [1, 6, 7]), (4, [1, 4, 6, 7]), (5, []), (6, [1, 6, 7]), (7, [1])], lkp := [(2, [1, 6, 7])], lth := [] }
def K_q0y_0 : Option (List Nat) := (some [1, 6, 7])
def l_q0y_0 : ACode :=
 .seq (.region (some [1, 6, 7]) [i 8 (.bin .lss (.t 7) (.c (.d (.i .i64 5))))] [])
 (.seq (.cond (.t 8) (.skip) (.exit 0))
 (.seq (.block 1 (.seq (.region (some [1, 6, 7]) [i 9 (.idxA true 5 3 (.t 6) (.t 7)),
 i 4 (.box (.c (.d (.agg [.b false, .i .i64 0, .i .u8 0])))),
 ⟨none, .store 3 (.t 4) (.t 9), none⟩] [])
 (.seq (.region (some [1, 4, 6, 7]) [i 10 (.faddr 1 (.t 4)),
 i 11 (.load false 1 (.t 10)),
 i 12 (.bin .lss (.t 11) (.c (.d (.i .i64 0)))),
 i 13 (.mv (.t 12)),
 ⟨some 14, .faddr 1 (.t 4), some (13, false)⟩,
 ⟨some 15, .load false 1 (.t 14), some (13, false)⟩,
 ⟨some 16, .bin .gtr (.t 15) (.c (.d (.i .i64 16))), some (13, false)⟩,
 i 17 (.pick (.t 13) (.c (.d (.b true))) (.t 16)),
 i 18 (.mv (.t 17)),
 ⟨some 19, .faddr 2 (.t 4), some (18, false)⟩,
 ⟨some 20, .load false 1 (.t 19), some (18, false)⟩,
 ⟨some 21, .bin .geq (.t 20) (.c (.d (.i .u8 8))), some (18, false)⟩,
 i 22 (.pick (.t 18) (.c (.d (.b true))) (.t 21))] [])
 (.cond (.t 22) (.seq (.region (some []) [i 2 (.mv (.c (.d (.b false))))] [])
 (.ret)) (.skip)))))
 (.region (some [1, 6, 7]) [i 23 (.bin .add (.t 7) (.c (.d (.i .i64 1)))),
 i 7 (.mv (.t 23))] [])))
def c_q0y : ACode :=
 .seq (.region (some [0]) [i 1 (.box (.t 0)),
 i 2 (.mv (.c (.d (.b false))))] [])
 (.seq (.seq (.region (some [1]) [i 5 (.faddr 1 (.t 1)),
 i 6 (.load true 15 (.t 5)),
 i 7 (.mv (.c (.d (.i .i64 0))))] [])
 (.block 0 (.loop K_q0y_0 [] l_q0y_0)))
 (.seq (.region (some [1]) [i 24 (.faddr 0 (.t 1)),
 i 25 (.load false 1 (.t 24)),
 i 26 (.bin .geq (.t 25) (.c (.d (.i .u32 1)))),
 i 27 (.mv (.t 26)),
 ⟨some 28, .faddr 0 (.t 1), some (27, true)⟩,
 ⟨some 29, .load false 1 (.t 28), some (27, true)⟩,
 ⟨some 30, .bin .leq (.t 29) (.c (.d (.i .u32 60))), some (27, true)⟩,
 i 31 (.pick (.t 27) (.t 30) (.c (.d (.b false)))),
 i 2 (.mv (.t 31))] [])
 (.ret)))
def a_q0y : AFn := .code 1 c_q0y [.tmp 2]
set_option maxRecDepth 100000 in
theorem k_q0y : compF Tryz.prog h_q0y F_q0y = some a_q0y := by kernel_rfl

def h_q3a : Hints := { kp := [(0, [0]), (1, [1]), (2, [1]), (3, [1]), (4, [1, 12, 13]), (5, [1, 12, 13]), (6, [1, 4, 12, 13]), (7, []), (8, [1, 12, 13]), (9, [1])], lkp := [(4, [1, 12, 13])], lth := [] }
def K_q3a_0 : Option (List Nat) := (some [1, 12, 13])
def l_q3a_0 : ACode :=
 .seq (.region (some [1, 12, 13]) [i 14 (.bin .lss (.t 13) (.c (.d (.i .i64 3))))] [])
 (.seq (.cond (.t 14) (.skip) (.exit 0))
 (.seq (.block 1 (.seq (.region (some [1, 12, 13]) [i 15 (.idxA false 3 1 (.t 12) (.t 13)),
 i 4 (.mv (.t 15))] [])
 (.seq (.region (some [1, 4, 12, 13]) [i 16 (.mv (.t 4)),
 i 17 (.len true (.t 16)),
 i 18 (.bin .gtr (.t 17) (.c (.d (.i .i64 16))))] [])
 (.cond (.t 18) (.seq (.region (some []) [i 2 (.mv (.c (.d (.b false))))] [])
 (.ret)) (.skip)))))
 (.region (some [1, 12, 13]) [i 19 (.bin .add (.t 13) (.c (.d (.i .i64 1)))),
 i 13 (.mv (.t 19))] [])))
def c_q3a : ACode :=
 .seq (.region (some [0]) [i 1 (.box (.t 0)),
 i 2 (.mv (.c (.d (.b false))))] [])
 (.seq (.seq (.region (some [1]) [i 5 (.faddr 0 (.t 1)),
 i 6 (.load false 1 (.t 5)),
 i 7 (.un .not (.t 6))] [])
 (.cond (.t 7) (.seq (.region (some [1]) [i 8 (.load true 5 (.t 1)),
 i 9 (.build [.d (.b false), .d (.s ⟨#[]⟩), .d (.s ⟨#[]⟩), .d (.s ⟨#[]⟩), .d (.s ⟨#[]⟩)] []),
 i 10 (.eq false Pk.Objt.ety (.t 8) (.t 9)),
 i 2 (.mv (.t 10))] [])
 (.ret)) (.skip)))
 (.seq (.seq (.region (some [1]) [i 11 (.faddr 2 (.t 1)),
 i 12 (.load true 3 (.t 11)),
 i 13 (.mv (.c (.d (.i .i64 0))))] [])
 (.block 0 (.loop K_q3a_0 [] l_q3a_0)))
 (.seq (.region (some [1]) [i 20 (.faddr 1 (.t 1)),
 i 21 (.load false 1 (.t 20)),
 i 22 (.len true (.t 21)),
 i 23 (.bin .leq (.t 22) (.c (.d (.i .i64 16)))),
 i 2 (.mv (.t 23))] [])
 (.ret))))
def a_q3a : AFn := .code 1 c_q3a [.tmp 2]
set_option maxRecDepth 100000 in
theorem k_q3a : compF Tryz.prog h_q3a F_q3a = some a_q3a := by kernel_rfl

def h_q1e : Hints := { kp := [(0, [0]), (1, [1]), (2, []), (3, [1]), (4, [1, 28]), (5, [1, 28]), (7, [1, 28]), (8, [1]), (6, []), (9, [1])], lkp := [], lth := [] }
def c_q1e : ACode :=
 .seq (.region (some [0]) [i 1 (.box (.t 0)),
 i 2 (.mv (.c (.d (.b false))))] [])
 (.seq (.seq (.region (some [1]) [i 3 (.faddr 0 (.t 1)),
 i 4 (.load false 1 (.t 3)),
 i 5 (.bin .lss (.t 4) (.c (.d (.i .u8 1)))),
 i 6 (.mv (.t 5)),
 ⟨some 7, .faddr 0 (.t 1), some (6, false)⟩,
 ⟨some 8, .load false 1 (.t 7), some (6, false)⟩,
 ⟨some 9, .bin .gtr (.t 8) (.c (.d (.i .u8 3))), some (6, false)⟩,
 i 10 (.pick (.t 6) (.c (.d (.b true))) (.t 9)),
 i 11 (.mv (.t 10)),
 ⟨some 12, .faddr 1 (.t 1), some (11, false)⟩,
 ⟨some 13, .load false 1 (.t 12), some (11, false)⟩,
 ⟨some 14, .bin .eql (.t 13) (.c (.d (.i .u32 0))), some (11, false)⟩,
 i 15 (.pick (.t 11) (.c (.d (.b true))) (.t 14)),
 i 16 (.mv (.t 15)),
 ⟨some 17, .faddr 3 (.t 1), some (16, false)⟩,
 ⟨some 18, .load false 1 (.t 17), some (16, false)⟩,
 ⟨some 19, .bin .geq (.t 18) (.c (.d (.i .u8 6))), some (16, false)⟩,
 i 20 (.pick (.t 16) (.c (.d (.b true))) (.t 19)),
 i 21 (.mv (.t 20)),
 ⟨some 22, .faddr 5 (.t 1), some (21, false)⟩,
 ⟨some 23, .load false 1 (.t 22), some (21, false)⟩,
 ⟨some 24, .len true (.t 23), some (21, false)⟩,
 ⟨some 25, .bin .gtr (.t 24) (.c (.d (.i .i64 16))), some (21, false)⟩,
 i 26 (.pick (.t 21) (.c (.d (.b true))) (.t 25))] [])
 (.cond (.t 26) (.seq (.region (some []) [i 2 (.mv (.c (.d (.b false))))] [])
 (.ret)) (.skip)))
 (.seq (.seq (.region (some [1]) [i 27 (.faddr 2 (.t 1)),
 i 28 (.load false 1 (.t 27))] [])
 (.block 0 (.seq (.seq (.region (some [1, 28]) [i 30 (.bin .eql (.t 28) (.c (.d (.i .u8 1)))),
 i 29 (.mv (.t 30))] [])
 (.cond (.t 29) (.skip) (.region (some [1, 28]) [i 31 (.bin .eql (.t 28) (.c (.d (.i .u8 3)))),
 i 29 (.mv (.t 31))] [])))
 (.cond (.t 29) (.seq (.region (some []) [i 2 (.mv (.c (.d (.b true))))] [])
 (.ret)) (.seq (.region (some [1, 28]) [i 33 (.bin .eql (.t 28) (.c (.d (.i .u8 2)))),
 i 32 (.mv (.t 33))] [])
 (.cond (.t 32) (.seq (.region (some [1]) [i 34 (.faddr 5 (.t 1)),
 i 35 (.load false 1 (.t 34)),
 i 36 (.bin .eql (.t 35) (.c (.d (.s ⟨#[]⟩)))),
 i 2 (.mv (.t 36))] [])
 (.ret)) (.skip)))))))
 (.seq (.region (some [1]) [i 37 (.faddr 2 (.t 1)),
 i 38 (.load false 1 (.t 37)),
 i 39 (.bin .eql (.t 38) (.c (.d (.i .u8 4)))),
 i 40 (.mv (.t 39)),
 ⟨some 41, .faddr 2 (.t 1), some (40, false)⟩,
 ⟨some 42, .load false 1 (.t 41), some (40, false)⟩,
 ⟨some 43, .bin .eql (.t 42) (.c (.d (.i .u8 5))), some (40, false)⟩,
 i 44 (.pick (.t 40) (.c (.d (.b true))) (.t 43)),
 i 45 (.mv (.t 44)),
 ⟨some 46, .load true 6 (.t 1), some (45, true)⟩,
 ⟨some 47, .faddr 0 (.t 1), some (45, true)⟩,
 ⟨some 48, .load false 1 (.t 47), some (45, true)⟩,
 ⟨some 49, .faddr 1 (.t 1), some (45, true)⟩,
 ⟨some 50, .load false 1 (.t 49), some (45, true)⟩,
 ⟨some 51, .faddr 2 (.t 1), some (45, true)⟩,
 ⟨some 52, .load false 1 (.t 51), some (45, true)⟩,
 ⟨some 53, .faddr 3 (.t 1), some (45, true)⟩,
 ⟨some 54, .load false 1 (.t 53), some (45, true)⟩,
 ⟨some 55, .build [.d (.i .u8 0), .d (.i .u32 0), .d (.i .u8 0), .d (.i .u8 0), .d (.i .u8 0), .d (.s ⟨#[]⟩)] [(0, 1, .t 48), (1, 1, .t 50), (2, 1, .t 52), (3, 1, .t 54)], some (45, true)⟩,
 ⟨some 56, .eq false Pk.Opr.ety (.t 46) (.t 55), some (45, true)⟩,
 i 57 (.pick (.t 45) (.t 56) (.c (.d (.b false)))),
 i 2 (.mv (.t 57))] [])
 (.ret))))
def a_q1e : AFn := .code 1 c_q1e [.tmp 2]
set_option maxRecDepth 100000 in
theorem k_q1e : compF Tryz.prog h_q1e F_q1e = some a_q1e := by kernel_rfl

def h_q1f : Hints := { kp := [(0, [0, 1]), (1, [2, 3, 4]), (2, [4]), (3, [2, 3, 4]), (4, [3, 4, 6]), (5, [4, 6]), (6, [4])], lkp := [], lth := [] }
def c_q1f : ACode :=
 .seq (.region (some [0, 1]) [i 2 (.box (.t 0)),
 i 3 (.box (.t 1)),
 i 4 (.box (.c (.d (.agg [.i .u8 0, .s ⟨#[]⟩])))),
 i 5 (.mv (.c (.d (.b false))))] [])
 (.seq (.seq (.region (some [2, 3, 4]) [i 7 (.load true 6 (.t 3)),
 i 8 (.call (.f F_q1g) [.t 7]),
 i 9 (.un .not (.t 8)),
 i 10 (.mv (.t 9)),
 ⟨some 11, .faddr 0 (.t 3), some (10, false)⟩,
 ⟨some 12, .load false 1 (.t 11), some (10, false)⟩,
 ⟨some 13, .bin .sub (.t 12) (.c (.d (.i .u8 1))), some (10, false)⟩,
 ⟨some 14, .faddr 30 (.t 2), some (10, false)⟩,
 ⟨some 15, .iaddrA 3 3 (.t 14) (.t 13), some (10, false)⟩,
 ⟨some 16, .faddr 0 (.t 15), some (10, false)⟩,
 ⟨some 17, .load false 1 (.t 16), some (10, false)⟩,
 ⟨some 18, .faddr 1 (.t 3), some (10, false)⟩,
 ⟨some 19, .load false 1 (.t 18), some (10, false)⟩,
 ⟨some 20, .bin .lss (.t 17) (.t 19), some (10, false)⟩,
 i 21 (.pick (.t 10) (.c (.d (.b true))) (.t 20))] [(5, 12), (10, 12)])
 (.cond (.t 21) (.seq (.region (some [4]) [i 22 (.build [.d (.i .u8 0), .d (.s ⟨#[]⟩)] []),
 ⟨none, .store 2 (.t 4) (.t 22), none⟩,
 i 5 (.mv (.c (.d (.b false))))] [])
 (.ret)) (.skip)))
 (.seq (.seq (.region (some [2, 3, 4]) [i 23 (.faddr 0 (.t 3)),
 i 24 (.load false 1 (.t 23)),
 i 25 (.bin .sub (.t 24) (.c (.d (.i .u8 1)))),
 i 26 (.faddr 30 (.t 2)),
 i 27 (.iaddrA 3 3 (.t 26) (.t 25)),
 i 28 (.load true 3 (.t 27)),
 i 6 (.box (.c (.d (.agg [.i .u32 0, .i .u8 0, .s ⟨#[]⟩])))),
 ⟨none, .store 3 (.t 6) (.t 28), none⟩] [])
 (.seq (.region (some [3, 4, 6]) [i 29 (.faddr 0 (.t 6)),
 i 30 (.load false 1 (.t 29)),
 i 31 (.faddr 1 (.t 3)),
 i 32 (.load false 1 (.t 31)),
 i 33 (.bin .eql (.t 30) (.t 32))] [])
 (.cond (.t 33) (.seq (.region (some [4, 6]) [i 34 (.faddr 1 (.t 6)),
 i 35 (.load true 2 (.t 34)),
 ⟨none, .store 2 (.t 4) (.t 35), none⟩,
 i 5 (.mv (.c (.d (.b true))))] [])
 (.ret)) (.skip))))
 (.seq (.region (some [4]) [i 36 (.build [.d (.i .u8 0), .d (.s ⟨#[]⟩)] [(0, 1, .c (.d (.i .u8 3)))]),
 ⟨none, .store 2 (.t 4) (.t 36), none⟩,
 i 5 (.mv (.c (.d (.b true))))] [])
 (.ret))))
def a_q1f : AFn := .code 2 c_q1f [.cell true 2 4, .tmp 5]
set_option maxRecDepth 100000 in
theorem k_q1f : compF Tryz.prog h_q1f F_q1f = some a_q1f := by kernel_rfl

def h_q1l : Hints := { kp := [(0, [0]), (1, [0]), (2, [3]), (4, [3]), (6, [3]), (7, []), (5, []), (3, []), (8, [])], lkp := [], lth := [] }
def c_q1l : ACode :=
 .seq (.region (some [0]) [i 2 (.mv (.c (.one)))] [])
 (.seq (.seq (.region (some [0]) [i 3 (.mv (.t 0))] [])
 (.block 0 (.seq (.region (some [3]) [i 5 (.bin .eql (.t 3) (.c (.d (.i .u8 1)))),
 i 4 (.mv (.t 5))] [])
 (.cond (.t 4) (.seq (.region (some []) [i 2 (.mv (.f F_q1k))] [])
 (.ret)) (.seq (.region (some [3]) [i 7 (.bin .eql (.t 3) (.c (.d (.i .u8 2)))),
 i 6 (.mv (.t 7))] [])
 (.cond (.t 6) (.seq (.region (some []) [i 2 (.mv (.f F_q1j))] [])
 (.ret)) (.seq (.region (some [3]) [i 9 (.bin .eql (.t 3) (.c (.d (.i .u8 3)))),
 i 8 (.mv (.t 9))] [])
 (.cond (.t 8) (.seq (.region (some []) [i 2 (.mv (.f F_q1h))] [])
 (.ret)) (.skip)))))))))
 (.seq (.region (some []) [i 2 (.mv (.f F_q1i))] [])
 (.ret)))
def a_q1l : AFn := .code 1 c_q1l [.tmp 2]
set_option maxRecDepth 100000 in
theorem k_q1l : compF Tryz.prog h_q1l F_q1l = some a_q1l := by kernel_rfl

def h_q4d : Hints := { kp := [(0, [0, 1]), (1, [0, 1]), (2, [0, 1, 7, 8]), (3, [0, 1, 7, 8]), (4, [0, 1, 5, 7, 8]), (5, [5]), (6, [0, 1, 7, 8]), (7, [])], lkp := [(2, [0, 1, 7, 8])], lth := [] }
def K_q4d_0 : Option (List Nat) := (some [0, 1, 7, 8])
def l_q4d_0 : ACode :=
 .seq (.region (some [0, 1, 7, 8]) [i 9 (.bin .lss (.t 8) (.t 7))] [])
 (.seq (.cond (.t 9) (.skip) (.exit 0))
 (.seq (.block 1 (.seq (.region (some [0, 1, 7, 8]) [i 10 (.mv (.t 8)),
 i 5 (.mv (.t 10))] [])
 (.seq (.region (some [0, 1, 5, 7, 8]) [i 11 (.mv (.t 1)),
 i 12 (.mv (.t 0)),
 i 13 (.mv (.t 5)),
 i 14 (.iaddrS 1 (.t 12) (.t 13)),
 i 15 (.load false 1 (.t 14)),
 i 16 (.bin .eql (.t 11) (.t 15))] [])
 (.cond (.t 16) (.seq (.region (some [5]) [i 17 (.mv (.t 5)),
 i 4 (.mv (.t 17))] [])
 (.ret)) (.skip)))))
 (.region (some [0, 1, 7, 8]) [i 18 (.bin .add (.t 8) (.c (.d (.i .i64 1)))),
 i 8 (.mv (.t 18))] [])))
def c_q4d : ACode :=
 .seq (.region (some [0, 1]) [i 4 (.mv (.c (.d (.i .i64 0))))] [])
 (.seq (.seq (.region (some [0, 1]) [i 6 (.mv (.t 0)),
 i 7 (.len false (.t 6)),
 i 8 (.mv (.c (.d (.i .i64 0))))] [])
 (.block 0 (.loop K_q4d_0 [] l_q4d_0)))
 (.seq (.region (some []) [i 4 (.mv (.c (.d (.i .i64 (-1)))))] [])
 (.ret)))
def a_q4d : AFn := .code 2 c_q4d [.tmp 4]
set_option maxRecDepth 100000 in
theorem k_q4d : compF Tryz.prog h_q4d F_q4d = some a_q4d := by kernel_rfl

def h_q0h : Hints := { kp := [(0, [0, 1]), (1, [0, 1]), (2, []), (3, [0, 1]), (4, [5]), (5, [5, 17, 18, 19]), (6, [5, 17, 18, 19]), (7, [5, 6, 7, 17, 18, 19]), (8, [5, 17, 18, 19]), (9, [5])], lkp := [(5, [5, 17, 18, 19])], lth := [] }
def K_q0h_0 : Option (List Nat) := (some [5, 17, 18, 19])
def l_q0h_0 : ACode :=
 .seq (.region (some [5, 17, 18, 19]) [i 20 (.bin .lss (.t 19) (.t 18))] [])
 (.seq (.cond (.t 20) (.skip) (.exit 0))
 (.seq (.block 1 (.seq (.region (some [5, 17, 18, 19]) [i 21 (.mv (.t 19)),
 i 22 (.iaddrS 2 (.t 17) (.t 19)),
 i 23 (.load true 2 (.t 22)),
 i 7 (.box (.c (.agg Pk.Itv.zeroA))),
 i 6 (.mv (.t 21)),
 ⟨none, .store 2 (.t 7) (.t 23), none⟩] [])
 (.region (some [5, 6, 7, 17, 18, 19]) [i 24 (.mv (.t 5)),
 i 25 (.mv (.t 6)),
 i 26 (.faddr 1 (.t 7)),
 i 27 (.load false 1 (.t 26)),
 i 28 (.call (.f F_q42) [.t 27]),
 i 29 (.iaddrS 2 (.t 24) (.t 25)),
 i 30 (.faddr 1 (.t 29)),
 ⟨none, .store 1 (.t 30) (.t 28), none⟩] [])))
 (.region (some [5, 17, 18, 19]) [i 31 (.bin .add (.t 19) (.c (.d (.i .i64 1)))),
 i 19 (.mv (.t 31))] [])))
def c_q0h : ACode :=
 .seq (.region (some [0, 1]) [i 4 (.mv (.c (.nilS)))] [])
 (.seq (.seq (.region (some [0, 1]) [i 8 (.mv (.t 1)),
 i 9 (.bin .geq (.t 8) (.c (.d (.i .u8 4))))] [])
 (.cond (.t 9) (.seq (.region (some []) [i 4 (.mv (.c (.nilS)))] [])
 (.ret)) (.skip)))
 (.seq (.region (some [0, 1]) [i 10 (.mv (.t 0)),
 i 11 (.mv (.t 1)),
 i 12 (.nilck (.t 10)),
 i 13 (.faddr 3 (.t 12)),
 i 14 (.iaddrA 4 1 (.t 13) (.t 11)),
 i 15 (.load false 1 (.t 14)),
 i 16 (.call (.f F_q41) [.t 15]),
 i 5 (.mv (.t 16))] [])
 (.seq (.seq (.region (some [5]) [i 17 (.mv (.t 5)),
 i 18 (.len false (.t 17)),
 i 19 (.mv (.c (.d (.i .i64 0))))] [])
 (.block 0 (.loop K_q0h_0 [] l_q0h_0)))
 (.seq (.region (some [5]) [i 32 (.mv (.t 5)),
 i 4 (.mv (.t 32))] [])
 (.ret)))))
def a_q0h : AFn := .code 2 c_q0h [.tmp 4]
set_option maxRecDepth 100000 in
theorem k_q0h : compF Tryz.prog h_q0h F_q0h = some a_q0h := by kernel_rfl

def h_q0c : Hints := { kp := [(0, [0, 1]), (1, [2, 3])], lkp := [], lth := [] }
def c_q0c : ACode :=
 .seq (.region (some [0, 1]) [i 2 (.box (.t 0)),
 i 3 (.box (.t 1)),
 i 4 (.mv (.c (.d (.b false))))] [])
 (.seq (.region (some [2, 3]) [i 5 (.faddr 1 (.t 3)),
 i 6 (.load false 1 (.t 5)),
 i 7 (.len false (.t 6)),
 i 8 (.bin .geq (.t 7) (.c (.d (.i .i64 2)))),
 i 9 (.mv (.t 8)),
 ⟨some 10, .faddr 0 (.t 3), some (9, true)⟩,
 ⟨some 11, .load false 1 (.t 10), some (9, true)⟩,
 ⟨some 12, .faddr 1 (.t 2), some (9, true)⟩,
 ⟨some 13, .load false 1 (.t 12), some (9, true)⟩,
 ⟨some 14, .bin .geq (.t 11) (.t 13), some (9, true)⟩,
 i 15 (.pick (.t 9) (.t 14) (.c (.d (.b false)))),
 i 16 (.mv (.t 15)),
 ⟨some 17, .faddr 1 (.t 3), some (16, true)⟩,
 ⟨some 18, .load false 1 (.t 17), some (16, true)⟩,
 ⟨some 19, .load true 2 (.t 2), some (16, true)⟩,
 ⟨some 20, .mkfn F_q0b [.t 19] [], some (16, true)⟩,
 ⟨some 21, .call (.f F_q44) [.t 18, .t 20], some (16, true)⟩,
 ⟨some 22, .un .not (.t 21), some (16, true)⟩,
 i 23 (.pick (.t 16) (.t 22) (.c (.d (.b false)))),
 i 4 (.mv (.t 23))] [])
 (.ret))
def a_q0c : AFn := .code 2 c_q0c [.tmp 4]
set_option maxRecDepth 100000 in
theorem k_q0c : compF Tryz.prog h_q0c F_q0c = some a_q0c := by kernel_rfl

def h_q46 : Hints := { kp := [(0, [0, 1]), (1, [0, 1]), (2, [0, 1, 5]), (3, [0]), (4, [0, 1, 5]), (5, [0, 1, 5, 6]), (7, [0, 1, 5, 6]), (8, [0, 1, 5, 6, 7]), (9, [0, 1, 5, 6, 7]), (10, [0, 1, 5, 6]), (6, [0, 1, 5, 6]), (11, [0, 5]), (12, [0, 5])], lkp := [(5, [0, 1, 5, 6])], lth := [] }
def K_q46_0 : Option (List Nat) := (some [0, 1, 5, 6])
def l_q46_0 : ACode :=
 .seq (.seq (.region (some [0, 1, 5, 6]) [i 16 (.mv (.t 6)),
 i 17 (.mv (.t 0)),
 i 18 (.len false (.t 17)),
 i 19 (.bin .lss (.t 16) (.t 18))] [])
 (.cond (.t 19) (.skip) (.exit 0)))
 (.seq (.block 1 (.seq (.region (some [0, 1, 5, 6]) [i 22 (.mv (.t 0)),
 i 23 (.mv (.t 6)),
 i 24 (.iaddrS 2 (.t 22) (.t 23)),
 i 25 (.load true 2 (.t 24)),
 i 7 (.box (.c (.agg Pk.Itv.zeroA))),
 ⟨none, .store 2 (.t 7) (.t 25), none⟩] [])
 (.seq (.region (some [0, 1, 5, 6, 7]) [i 26 (.mv (.t 1)),
 i 27 (.load true 2 (.t 7)),
 i 28 (.call (.t 26) [.t 27]),
 i 29 (.un .not (.t 28))] [])
 (.cond (.t 29) (.seq (.region (some [0, 1, 5, 6, 7]) [i 30 (.mv (.t 0)),
 i 31 (.mv (.t 5)),
 i 32 (.load true 2 (.t 7)),
 i 33 (.iaddrS 2 (.t 30) (.t 31)),
 ⟨none, .store 2 (.t 33) (.t 32), none⟩] [])
 (.region (some [0, 1, 5, 6]) [i 34 (.mv (.t 5)),
 i 35 (.bin .add (.t 34) (.c (.d (.i .i64 1)))),
 i 5 (.mv (.t 35))] [])) (.skip)))))
 (.region (some [0, 1, 5, 6]) [i 20 (.mv (.t 6)),
 i 21 (.bin .add (.t 20) (.c (.d (.i .i64 1)))),
 i 6 (.mv (.t 21))] []))
def c_q46 : ACode :=
 .seq (.region (some [0, 1]) [i 4 (.mv (.c (.nilS)))] [])
 (.seq (.region (some [0, 1]) [i 8 (.mv (.t 0)),
 i 9 (.mv (.t 1)),
 i 10 (.call (.f F_q4a) [.t 8, .t 9]),
 i 5 (.mv (.t 10))] [])
 (.seq (.seq (.region (some [0, 1, 5]) [i 11 (.mv (.t 5)),
 i 12 (.bin .eql (.t 11) (.c (.d (.i .i64 (-1)))))] [])
 (.cond (.t 12) (.seq (.region (some [0]) [i 13 (.mv (.t 0)),
 i 4 (.mv (.t 13))] [])
 (.ret)) (.skip)))
 (.seq (.seq (.region (some [0, 1, 5]) [i 14 (.mv (.t 5)),
 i 15 (.bin .add (.t 14) (.c (.d (.i .i64 1)))),
 i 6 (.mv (.t 15))] [])
 (.block 0 (.loop K_q46_0 [] l_q46_0)))
 (.seq (.region (some [0, 5]) [i 36 (.mv (.t 0)),
 i 37 (.mv (.t 5)),
 i 38 (.slice 2 (.t 36) (some (.t 37)) none none),
 ⟨none, .clr (.agg [.i .u32 0, .sl []]) (.t 38), none⟩] [])
 (.seq (.region (some [0, 5]) [i 39 (.mv (.t 0)),
 i 40 (.mv (.t 5)),
 i 41 (.slice 2 (.t 39) none (some (.t 40)) none),
 i 4 (.mv (.t 41))] [])
 (.ret))))))
def a_q46 : AFn := .code 2 c_q46 [.tmp 4]
set_option maxRecDepth 100000 in
theorem k_q46 : compF Tryz.prog h_q46 F_q46 = some a_q46 := by kernel_rfl

def h_q08 : Hints := { kp := [(0, [0, 1]), (1, [1, 2])], lkp := [], lth := [] }
def c_q08 : ACode :=
 .seq (.region (some [0, 1]) [i 2 (.box (.t 0)),
 i 3 (.mv (.c (.d (.b false))))] [])
 (.seq (.region (some [1, 2]) [i 4 (.load false 1 (.t 1)),
 i 5 (.load true 2 (.t 2)),
 i 6 (.call (.t 4) [.t 5]),
 i 7 (.un .not (.t 6)),
 i 3 (.mv (.t 7))] [])
 (.ret))
def a_q08 : AFn := .code 2 c_q08 [.tmp 3]
set_option maxRecDepth 100000 in
theorem k_q08 : compF Tryz.prog h_q08 F_q08 = some a_q08 := by kernel_rfl

def h_q4c : Hints := { kp := [(0, [0, 1]), (1, [0, 1]), (2, [0, 1, 7, 8]), (3, [0, 1, 7, 8]), (4, [0, 1, 5, 7, 8]), (5, [5]), (6, [0, 1, 7, 8]), (7, [])], lkp := [(2, [0, 1, 7, 8])], lth := [] }
def K_q4c_0 : Option (List Nat) := (some [0, 1, 7, 8])
def l_q4c_0 : ACode :=
 .seq (.region (some [0, 1, 7, 8]) [i 9 (.bin .lss (.t 8) (.t 7))] [])
 (.seq (.cond (.t 9) (.skip) (.exit 0))
 (.seq (.block 1 (.seq (.region (some [0, 1, 7, 8]) [i 10 (.mv (.t 8)),
 i 5 (.mv (.t 10))] [])
 (.seq (.region (some [0, 1, 5, 7, 8]) [i 11 (.mv (.t 1)),
 i 12 (.mv (.t 0)),
 i 13 (.mv (.t 5)),
 i 14 (.iaddrS 1 (.t 12) (.t 13)),
 i 15 (.load false 1 (.t 14)),
 i 16 (.call (.t 11) [.t 15])] [])
 (.cond (.t 16) (.seq (.region (some [5]) [i 17 (.mv (.t 5)),
 i 4 (.mv (.t 17))] [])
 (.ret)) (.skip)))))
 (.region (some [0, 1, 7, 8]) [i 18 (.bin .add (.t 8) (.c (.d (.i .i64 1)))),
 i 8 (.mv (.t 18))] [])))
def c_q4c : ACode :=
 .seq (.region (some [0, 1]) [i 4 (.mv (.c (.d (.i .i64 0))))] [])
 (.seq (.seq (.region (some [0, 1]) [i 6 (.mv (.t 0)),
 i 7 (.len false (.t 6)),
 i 8 (.mv (.c (.d (.i .i64 0))))] [])
 (.block 0 (.loop K_q4c_0 [] l_q4c_0)))
 (.seq (.region (some []) [i 4 (.mv (.c (.d (.i .i64 (-1)))))] [])
 (.ret)))
def a_q4c : AFn := .code 2 c_q4c [.tmp 4]
set_option maxRecDepth 100000 in
theorem k_q4c : compF Tryz.prog h_q4c F_q4c = some a_q4c := by kernel_rfl

def h_q33 : Hints := { kp := [(0, [0, 1]), (1, [2, 3])], lkp := [], lth := [] }
def c_q33 : ACode :=
 .seq (.region (some [0, 1]) [i 2 (.box (.t 0)),
 i 3 (.box (.t 1)),
 i 4 (.mv (.c (.d (.b false))))] [])
 (.seq (.region (some [2, 3]) [i 5 (.faddr 0 (.t 2)),
 i 6 (.load false 1 (.t 5)),
 i 7 (.faddr 0 (.t 3)),
 i 8 (.load false 1 (.t 7)),
 i 9 (.bin .eql (.t 6) (.t 8)),
 i 10 (.mv (.t 9)),
 ⟨some 11, .faddr 1 (.t 2), some (10, true)⟩,
 ⟨some 12, .load true 39 (.t 11), some (10, true)⟩,
 ⟨some 13, .faddr 1 (.t 3), some (10, true)⟩,
 ⟨some 14, .load true 39 (.t 13), some (10, true)⟩,
 ⟨some 15, .eq false Pk.Base.ety (.t 12) (.t 14), some (10, true)⟩,
 i 16 (.pick (.t 10) (.t 15) (.c (.d (.b false)))),
 i 17 (.mv (.t 16)),
 ⟨some 18, .faddr 40 (.t 2), some (17, true)⟩,
 ⟨some 19, .load true 8 (.t 18), some (17, true)⟩,
 ⟨some 20, .faddr 40 (.t 3), some (17, true)⟩,
 ⟨some 21, .load true 8 (.t 20), some (17, true)⟩,
 ⟨some 22, .eq false Pk.Entry.ety (.t 19) (.t 21), some (17, true)⟩,
 i 23 (.pick (.t 17) (.t 22) (.c (.d (.b false)))),
 i 24 (.mv (.t 23)),
 ⟨some 25, .faddr 48 (.t 2), some (24, true)⟩,
 ⟨some 26, .load false 1 (.t 25), some (24, true)⟩,
 ⟨some 27, .faddr 48 (.t 3), some (24, true)⟩,
 ⟨some 28, .load false 1 (.t 27), some (24, true)⟩,
 ⟨some 29, .call (.f F_q48) [.t 26, .t 28], some (24, true)⟩,
 i 30 (.pick (.t 24) (.t 29) (.c (.d (.b false)))),
 i 4 (.mv (.t 30))] [])
 (.ret))
def a_q33 : AFn := .code 2 c_q33 [.tmp 4]
set_option maxRecDepth 100000 in
theorem k_q33 : compF Tryz.prog h_q33 F_q33 = some a_q33 := by kernel_rfl

def h_q1b : Hints := { kp := [(0, [0]), (1, [1, 2])], lkp := [], lth := [] }
def c_q1b : ACode :=
 .seq (.region (some [0]) [i 1 (.box (.t 0)),
 i 2 (.box (.c (.agg Pk.State.zeroA)))] [])
 (.seq (.region (some [1, 2]) [i 3 (.faddr 0 (.t 1)),
 i 4 (.load false 1 (.t 3)),
 i 5 (.faddr 40 (.t 1)),
 i 6 (.load true 8 (.t 5)),
 i 7 (.build Pk.State.zeroA [(0, 1, .t 4), (40, 8, .t 6)]),
 ⟨none, .store 49 (.t 2) (.t 7), none⟩] [])
 (.ret))
def a_q1b : AFn := .code 1 c_q1b [.cell true 49 2]
set_option maxRecDepth 100000 in
theorem k_q1b : compF Tryz.prog h_q1b F_q1b = some a_q1b := by kernel_rfl

def h_q1c : Hints := { kp := [(0, [0, 1]), (1, [2, 3]), (2, [2, 3, 5, 6]), (3, [2, 3, 5, 6, 7, 8]), (4, [2, 3, 5, 6, 7]), (5, [2, 3, 5, 6]), (6, [3, 5, 9, 10])], lkp := [], lth := [] }
def c_q1c : ACode :=
 .seq (.region (some [0, 1]) [i 2 (.box (.t 0)),
 i 3 (.box (.t 1)),
 i 4 (.mv (.c (.d (.b false))))] [])
 (.seq (.region (some [2, 3]) [i 11 (.faddr 40 (.t 2)),
 i 12 (.load true 8 (.t 11)),
 i 13 (.faddr 40 (.t 3)),
 i 14 (.faddr 1 (.t 13)),
 i 15 (.load false 1 (.t 14)),
 i 5 (.box (.c (.d (.agg [.i .u32 0, .i .u32 0, .i .u8 0, .i .u32 0, .i .u8 0, .i .u8 0, .i .u8 0, .s ⟨#[]⟩])))),
 ⟨none, .store 8 (.t 5) (.t 12), none⟩,
 i 6 (.mv (.t 15))] [(1, 4), (1, 5), (4, 5), (4, 6)])
 (.seq (.seq (.region (some [2, 3, 5, 6]) [i 17 (.load true 49 (.t 2)),
 i 18 (.mv (.t 6)),
 i 19 (.call (.f F_q30) [.t 17, .t 18]),
 i 16 (.mv (.t 19)),
 i 20 (.ext (.t 16) 0),
 i 21 (.ext (.t 16) 1),
 i 7 (.box (.c (.d (.agg [.i .u32 0, .i .u32 0, .i .u8 0, .i .u32 0, .i .u8 0, .i .u8 0, .i .u8 0, .s ⟨#[]⟩])))),
 ⟨none, .store 8 (.t 7) (.t 20), none⟩,
 i 8 (.mv (.t 21))] [])
 (.seq (.region (some [2, 3, 5, 6, 7, 8]) [i 22 (.mv (.t 8))] [])
 (.cond (.t 22) (.region (some [2, 3, 5, 6, 7]) [i 23 (.faddr 0 (.t 7)),
 i 24 (.load false 1 (.t 23)),
 i 25 (.faddr 1 (.t 7)),
 i 26 (.load false 1 (.t 25)),
 i 27 (.build [.d (.i .u32 0), .d (.i .u32 0), .d (.i .u8 0), .d (.i .u32 0), .d (.i .u8 0), .d (.i .u8 0), .d (.i .u8 0), .d (.s ⟨#[]⟩)] [(0, 1, .t 24), (1, 1, .t 26)]),
 ⟨none, .store 8 (.t 5) (.t 27), none⟩] []) (.skip))))
 (.seq (.region (some [2, 3, 5, 6]) [i 29 (.load true 49 (.t 2)),
 i 30 (.mv (.t 6)),
 i 31 (.call (.f F_q35) [.t 29, .t 30]),
 i 28 (.mv (.t 31)),
 i 32 (.ext (.t 28) 0),
 i 33 (.ext (.t 28) 1),
 i 9 (.box (.c (.d (.agg Pk.Base.zero.cs)))),
 ⟨none, .store 39 (.t 9) (.t 32), none⟩,
 i 10 (.mv (.t 33))] [])
 (.seq (.region (some [3, 5, 9, 10]) [i 34 (.mv (.t 10)),
 i 35 (.mv (.t 34)),
 ⟨some 36, .load true 8 (.t 5), some (35, true)⟩,
 ⟨some 37, .faddr 40 (.t 3), some (35, true)⟩,
 ⟨some 38, .load true 8 (.t 37), some (35, true)⟩,
 ⟨some 39, .eq false Pk.Entry.ety (.t 36) (.t 38), some (35, true)⟩,
 i 40 (.pick (.t 35) (.t 39) (.c (.d (.b false)))),
 i 41 (.mv (.t 40)),
 ⟨some 42, .load true 39 (.t 9), some (41, true)⟩,
 ⟨some 43, .faddr 1 (.t 3), some (41, true)⟩,
 ⟨some 44, .load true 39 (.t 43), some (41, true)⟩,
 ⟨some 45, .eq false Pk.Base.ety (.t 42) (.t 44), some (41, true)⟩,
 i 46 (.pick (.t 41) (.t 45) (.c (.d (.b false)))),
 i 4 (.mv (.t 46))] [])
 (.ret)))))
def a_q1c : AFn := .code 2 c_q1c [.tmp 4]
set_option maxRecDepth 100000 in
theorem k_q1c : compF Tryz.prog h_q1c F_q1c = some a_q1c := by kernel_rfl

def h_q1a : Hints := { kp := [(0, [0, 1]), (1, [2, 3]), (2, [2, 3, 5]), (3, [2, 5, 14, 15, 16]), (4, [2, 5, 14, 15, 16]), (5, [2, 5, 7, 14, 15, 16]), (6, [2, 5, 7, 8, 9, 14, 15, 16]), (7, [5]), (8, [2, 7, 14, 15, 16]), (9, [2, 5, 14, 15, 16]), (10, [5])], lkp := [(3, [2, 5, 14, 15, 16])], lth := [] }
def K_q1a_0 : Option (List Nat) := (some [2, 5, 14, 15, 16])
def l_q1a_0 : ACode :=
 .seq (.region (some [2, 5, 14, 15, 16]) [i 17 (.bin .lss (.t 16) (.t 15))] [])
 (.seq (.cond (.t 17) (.skip) (.exit 0))
 (.seq (.block 1 (.seq (.region (some [2, 5, 14, 15, 16]) [i 18 (.iaddrS 8 (.t 14) (.t 16)),
 i 19 (.load true 8 (.t 18)),
 i 7 (.box (.c (.d (.agg [.i .u32 0, .i .u32 0, .i .u8 0, .i .u32 0, .i .u8 0, .i .u8 0, .i .u8 0, .s ⟨#[]⟩])))),
 ⟨none, .store 8 (.t 7) (.t 19), none⟩] [])
 (.seq (.region (some [2, 5, 7, 14, 15, 16]) [i 21 (.load true 49 (.t 2)),
 i 22 (.faddr 1 (.t 7)),
 i 23 (.load false 1 (.t 22)),
 i 24 (.call (.f F_q30) [.t 21, .t 23]),
 i 20 (.mv (.t 24)),
 i 25 (.ext (.t 20) 0),
 i 26 (.ext (.t 20) 1),
 i 8 (.box (.c (.d (.agg [.i .u32 0, .i .u32 0, .i .u8 0, .i .u32 0, .i .u8 0, .i .u8 0, .i .u8 0, .s ⟨#[]⟩])))),
 ⟨none, .store 8 (.t 8) (.t 25), none⟩,
 i 9 (.mv (.t 26))] [])
 (.seq (.seq (.region (some [2, 5, 7, 8, 9, 14, 15, 16]) [i 27 (.mv (.t 9)),
 i 28 (.un .not (.t 27)),
 i 29 (.mv (.t 28)),
 ⟨some 30, .load true 8 (.t 8), some (29, false)⟩,
 ⟨some 31, .load true 8 (.t 7), some (29, false)⟩,
 ⟨some 32, .eq true Pk.Entry.ety (.t 30) (.t 31), some (29, false)⟩,
 i 33 (.pick (.t 29) (.c (.d (.b true))) (.t 32))] [])
 (.cond (.t 33) (.seq (.region (some [5]) [i 34 (.mv (.t 5)),
 i 4 (.mv (.t 34))] [])
 (.ret)) (.skip)))
 (.region (some [2, 7, 14, 15, 16]) [i 35 (.faddr 1 (.t 7)),
 i 36 (.load false 1 (.t 35)),
 i 5 (.mv (.t 36))] [])))))
 (.region (some [2, 5, 14, 15, 16]) [i 37 (.bin .add (.t 16) (.c (.d (.i .i64 1)))),
 i 16 (.mv (.t 37))] [])))
def c_q1a : ACode :=
 .seq (.region (some [0, 1]) [i 2 (.box (.t 0)),
 i 3 (.box (.t 1)),
 i 4 (.mv (.c (.d (.i .u32 0))))] [])
 (.seq (.region (some [2, 3]) [i 10 (.faddr 40 (.t 3)),
 i 11 (.faddr 1 (.t 10)),
 i 12 (.load false 1 (.t 11)),
 i 5 (.mv (.t 12))] [])
 (.seq (.seq (.region (some [2, 3, 5]) [i 13 (.faddr 48 (.t 3)),
 i 14 (.load false 1 (.t 13)),
 i 15 (.len false (.t 14)),
 i 16 (.mv (.c (.d (.i .i64 0))))] [])
 (.block 0 (.loop K_q1a_0 [] l_q1a_0)))
 (.seq (.region (some [5]) [i 38 (.mv (.t 5)),
 i 4 (.mv (.t 38))] [])
 (.ret))))
def a_q1a : AFn := .code 2 c_q1a [.tmp 4]
set_option maxRecDepth 100000 in
theorem k_q1a : compF Tryz.prog h_q1a F_q1a = some a_q1a := by kernel_rfl

def h_q47 : Hints := { kp := [(0, [0, 1]), (1, [0, 1]), (2, [0, 1, 5]), (3, [0]), (4, [0, 1, 5]), (5, [0, 1, 5, 6]), (7, [0, 1, 5, 6]), (8, [0, 1, 5, 6, 7]), (9, [0, 1, 5, 6, 7]), (10, [0, 1, 5, 6]), (6, [0, 1, 5, 6]), (11, [0, 5]), (12, [0, 5])], lkp := [(5, [0, 1, 5, 6])], lth := [] }
def K_q47_0 : Option (List Nat) := (some [0, 1, 5, 6])
def l_q47_0 : ACode :=
 .seq (.seq (.region (some [0, 1, 5, 6]) [i 16 (.mv (.t 6)),
 i 17 (.mv (.t 0)),
 i 18 (.len false (.t 17)),
 i 19 (.bin .lss (.t 16) (.t 18))] [])
 (.cond (.t 19) (.skip) (.exit 0)))
 (.seq (.block 1 (.seq (.region (some [0, 1, 5, 6]) [i 22 (.mv (.t 0)),
 i 23 (.mv (.t 6)),
 i 24 (.iaddrS 1 (.t 22) (.t 23)),
 i 25 (.load false 1 (.t 24)),
 i 7 (.mv (.t 25))] [])
 (.seq (.region (some [0, 1, 5, 6, 7]) [i 26 (.mv (.t 1)),
 i 27 (.mv (.t 7)),
 i 28 (.call (.t 26) [.t 27]),
 i 29 (.un .not (.t 28))] [])
 (.cond (.t 29) (.seq (.region (some [0, 1, 5, 6, 7]) [i 30 (.mv (.t 0)),
 i 31 (.mv (.t 5)),
 i 32 (.mv (.t 7)),
 i 33 (.iaddrS 1 (.t 30) (.t 31)),
 ⟨none, .store 1 (.t 33) (.t 32), none⟩] [])
 (.region (some [0, 1, 5, 6]) [i 34 (.mv (.t 5)),
 i 35 (.bin .add (.t 34) (.c (.d (.i .i64 1)))),
 i 5 (.mv (.t 35))] [])) (.skip)))))
 (.region (some [0, 1, 5, 6]) [i 20 (.mv (.t 6)),
 i 21 (.bin .add (.t 20) (.c (.d (.i .i64 1)))),
 i 6 (.mv (.t 21))] []))
def c_q47 : ACode :=
 .seq (.region (some [0, 1]) [i 4 (.mv (.c (.nilS)))] [])
 (.seq (.region (some [0, 1]) [i 8 (.mv (.t 0)),
 i 9 (.mv (.t 1)),
 i 10 (.call (.f F_q4c) [.t 8, .t 9]),
 i 5 (.mv (.t 10))] [])
 (.seq (.seq (.region (some [0, 1, 5]) [i 11 (.mv (.t 5)),
 i 12 (.bin .eql (.t 11) (.c (.d (.i .i64 (-1)))))] [])
 (.cond (.t 12) (.seq (.region (some [0]) [i 13 (.mv (.t 0)),
 i 4 (.mv (.t 13))] [])
 (.ret)) (.skip)))
 (.seq (.seq (.region (some [0, 1, 5]) [i 14 (.mv (.t 5)),
 i 15 (.bin .add (.t 14) (.c (.d (.i .i64 1)))),
 i 6 (.mv (.t 15))] [])
 (.block 0 (.loop K_q47_0 [] l_q47_0)))
 (.seq (.region (some [0, 5]) [i 36 (.mv (.t 0)),
 i 37 (.mv (.t 5)),
 i 38 (.slice 1 (.t 36) (some (.t 37)) none none),
 ⟨none, .clr (.i .i64 0) (.t 38), none⟩] [])
 (.seq (.region (some [0, 5]) [i 39 (.mv (.t 0)),
 i 40 (.mv (.t 5)),
 i 41 (.slice 1 (.t 39) none (some (.t 40)) none),
 i 4 (.mv (.t 41))] [])
 (.ret))))))
def a_q47 : AFn := .code 2 c_q47 [.tmp 4]
set_option maxRecDepth 100000 in
theorem k_q47 : compF Tryz.prog h_q47 F_q47 = some a_q47 := by kernel_rfl

def h_q3e : Hints := { kp := [(0, [0, 1]), (1, [1, 2]), (2, []), (3, [1, 2]), (4, [5]), (5, [5, 6]), (7, [5, 6]), (6, [5, 6]), (8, [5])], lkp := [(5, [5, 6])], lth := [] }
def K_q3e_0 : Option (List Nat) := (some [5, 6])
def l_q3e_0 : ACode :=
 .seq (.seq (.region (some [5, 6]) [i 20 (.mv (.t 6)),
 i 21 (.bin .lss (.t 20) (.c (.d (.i .i64 3)))),
 i 22 (.mv (.t 21)),
 ⟨some 23, .mv (.t 5), some (22, true)⟩,
 ⟨some 24, .nilck (.t 23), some (22, true)⟩,
 ⟨some 25, .faddr 17 (.t 24), some (22, true)⟩,
 ⟨some 26, .load false 1 (.t 25), some (22, true)⟩,
 ⟨some 27, .len false (.t 26), some (22, true)⟩,
 ⟨some 28, .bin .gtr (.t 27) (.c (.d (.i .i64 0))), some (22, true)⟩,
 i 29 (.pick (.t 22) (.t 28) (.c (.d (.b false))))] [])
 (.cond (.t 29) (.skip) (.exit 0)))
 (.seq (.block 1 (.region (some [5, 6]) [i 32 (.mv (.t 5)),
 i 33 (.mv (.t 6)),
 i 34 (.call (.f F_q3i) [.t 32, .t 33])] []))
 (.region (some [5, 6]) [i 30 (.mv (.t 6)),
 i 31 (.bin .add (.t 30) (.c (.d (.i .i64 1)))),
 i 6 (.mv (.t 31))] []))
def c_q3e : ACode :=
 .seq (.region (some [0, 1]) [i 2 (.box (.t 0)),
 i 4 (.mv (.c (.nilS)))] [])
 (.seq (.seq (.region (some [1, 2]) [i 7 (.load true 16 (.t 2)),
 i 8 (.call (.f F_q0y) [.t 7]),
 i 9 (.un .not (.t 8)),
 i 10 (.mv (.t 9)),
 ⟨some 11, .mv (.t 1), some (10, false)⟩,
 ⟨some 12, .bin .geq (.t 11) (.c (.d (.i .u8 4))), some (10, false)⟩,
 i 13 (.pick (.t 10) (.c (.d (.b true))) (.t 12))] [])
 (.cond (.t 13) (.seq (.region (some []) [i 4 (.mv (.c (.nilS)))] [])
 (.ret)) (.skip)))
 (.seq (.region (some [1, 2]) [i 14 (.load true 16 (.t 2)),
 i 15 (.mv (.t 1)),
 i 16 (.load true 16 (.t 2)),
 i 17 (.call (.f F_q0w) [.t 16]),
 i 18 (.build [.d (.i .u32 0), .d (.b false), .d (.i .i64 0), .d (.i .u8 0), .d (.b false), .d (.i .i64 0), .d (.i .u8 0), .d (.b false), .d (.i .i64 0), .d (.i .u8 0), .d (.b false), .d (.i .i64 0), .d (.i .u8 0), .d (.b false), .d (.i .i64 0), .d (.i .u8 0), .d (.i .u8 0), .nilS, .nilS] [(0, 16, .t 14), (16, 1, .t 15), (17, 1, .t 17)]),
 i 19 (.box (.t 18)),
 i 5 (.mv (.t 19))] [(0, 2), (0, 3)])
 (.seq (.seq (.region (some [5]) [i 6 (.mv (.c (.d (.i .i64 0))))] [])
 (.block 0 (.loop K_q3e_0 [] l_q3e_0)))
 (.seq (.region (some [5]) [i 35 (.mv (.t 5)),
 i 36 (.nilck (.t 35)),
 i 37 (.faddr 18 (.t 36)),
 i 38 (.load false 1 (.t 37)),
 i 4 (.mv (.t 38))] [])
 (.ret)))))
def a_q3e : AFn := .code 2 c_q3e [.tmp 4]
set_option maxRecDepth 100000 in
theorem k_q3e : compF Tryz.prog h_q3e F_q3e = some a_q3e := by kernel_rfl

def h_q3d : Hints := { kp := [(0, [0, 1]), (1, [0, 1])], lkp := [], lth := [] }
def c_q3d : ACode :=
 .seq (.region (some [0, 1]) [i 3 (.mv (.c (.d (.b false))))] [])
 (.seq (.region (some [0, 1]) [i 4 (.mv (.t 0)),
 i 5 (.faddr 1 (.t 1)),
 i 6 (.iaddrA 5 3 (.t 5) (.t 4)),
 i 7 (.faddr 0 (.t 6)),
 i 8 (.load false 1 (.t 7)),
 i 9 (.un .not (.t 8)),
 i 3 (.mv (.t 9))] [])
 (.ret))
def a_q3d : AFn := .code 2 c_q3d [.tmp 3]
set_option maxRecDepth 100000 in
theorem k_q3d : compF Tryz.prog h_q3d F_q3d = some a_q3d := by kernel_rfl

def h_q3b : Hints := { kp := [(0, [0, 1]), (1, [1, 2]), (2, []), (3, [1, 2])], lkp := [], lth := [] }
def c_q3b : ACode :=
 .seq (.region (some [0, 1]) [i 2 (.box (.t 0)),
 i 4 (.mv (.c (.d (.i .i64 0))))] [])
 (.seq (.seq (.region (some [1, 2]) [i 5 (.mv (.t 1)),
 i 6 (.faddr 40 (.t 2)),
 i 7 (.faddr 1 (.t 6)),
 i 8 (.load false 1 (.t 7)),
 i 9 (.bin .lss (.t 5) (.t 8)),
 i 10 (.mv (.t 9)),
 ⟨some 11, .mv (.t 1), some (10, false)⟩,
 ⟨some 12, .load true 49 (.t 2), some (10, false)⟩,
 ⟨some 13, .call (.f F_q38) [.t 12], some (10, false)⟩,
 ⟨some 14, .field false 1 1 (.t 13), some (10, false)⟩,
 ⟨some 15, .bin .gtr (.t 11) (.t 14), some (10, false)⟩,
 i 16 (.pick (.t 10) (.c (.d (.b true))) (.t 15))] [])
 (.cond (.t 16) (.seq (.region (some []) [i 4 (.mv (.c (.d (.i .i64 (-1)))))] [])
 (.ret)) (.skip)))
 (.seq (.region (some [1, 2]) [i 17 (.mv (.t 1)),
 i 18 (.faddr 40 (.t 2)),
 i 19 (.faddr 1 (.t 18)),
 i 20 (.load false 1 (.t 19)),
 i 21 (.bin .sub (.t 17) (.t 20)),
 i 22 (.conv .i64 (.t 21)),
 i 4 (.mv (.t 22))] [])
 (.ret)))
def a_q3b : AFn := .code 2 c_q3b [.tmp 4]
set_option maxRecDepth 100000 in
theorem k_q3b : compF Tryz.prog h_q3b F_q3b = some a_q3b := by kernel_rfl

def h_q1k : Hints := { kp := [(0, [0, 1]), (1, [0, 3]), (2, [0, 3, 5]), (3, []), (4, [0, 3, 5]), (5, [0, 3, 5, 6]), (6, [0, 3, 5, 6]), (7, [])], lkp := [], lth := [] }
def c_q1k : ACode :=
 .seq (.region (some [0, 1]) [i 3 (.box (.t 1)),
 i 4 (.mv (.c (.d (.i .u8 0))))] [])
 (.seq (.region (some [0, 3]) [i 7 (.faddr 4 (.t 3)),
 i 8 (.load false 1 (.t 7)),
 i 9 (.conv .i64 (.t 8)),
 i 10 (.faddr 5 (.t 3)),
 i 11 (.load false 1 (.t 10)),
 i 12 (.len true (.t 11)),
 i 13 (.bin .add (.t 9) (.t 12)),
 i 5 (.mv (.t 13))] [])
 (.seq (.seq (.region (some [0, 3, 5]) [i 14 (.mv (.t 5)),
 i 15 (.bin .gtr (.t 14) (.c (.d (.i .i64 16))))] [])
 (.cond (.t 15) (.seq (.region (some []) [i 4 (.mv (.c (.d (.i .u8 2))))] [])
 (.ret)) (.skip)))
 (.seq (.region (some [0, 3, 5]) [i 16 (.mv (.t 0)),
 i 17 (.nilck (.t 16)),
 i 18 (.faddr 0 (.t 17)),
 i 19 (.faddr 1 (.t 18)),
 i 20 (.load false 1 (.t 19)),
 i 21 (.mv (.t 5)),
 i 22 (.call (.f F_q1m) [.t 20, .t 21]),
 i 6 (.mv (.t 22))] [])
 (.seq (.region (some [0, 3, 5, 6]) [i 23 (.mv (.t 0)),
 i 24 (.nilck (.t 23)),
 i 25 (.faddr 0 (.t 24)),
 i 26 (.faddr 0 (.t 25)),
 ⟨none, .store 1 (.t 26) (.c (.d (.b true))), none⟩] [])
 (.seq (.region (some [0, 3, 5, 6]) [i 27 (.mv (.t 0)),
 i 28 (.mv (.t 6)),
 i 29 (.faddr 4 (.t 3)),
 i 30 (.load false 1 (.t 29)),
 i 31 (.slice 0 (.t 28) none (some (.t 30)) none),
 i 32 (.faddr 5 (.t 3)),
 i 33 (.load false 1 (.t 32)),
 i 34 (.bin .add (.t 31) (.t 33)),
 i 35 (.mv (.t 6)),
 i 36 (.mv (.t 5)),
 i 37 (.slice 0 (.t 35) (some (.t 36)) none none),
 i 38 (.bin .add (.t 34) (.t 37)),
 i 39 (.nilck (.t 27)),
 i 40 (.faddr 0 (.t 39)),
 i 41 (.faddr 1 (.t 40)),
 ⟨none, .store 1 (.t 41) (.t 38), none⟩] [(3, 6)])
 (.seq (.region (some []) [i 4 (.mv (.c (.d (.i .u8 0))))] [])
 (.ret)))))))
def a_q1k : AFn := .code 2 c_q1k [.tmp 4]
set_option maxRecDepth 100000 in
theorem k_q1k : compF Tryz.prog h_q1k F_q1k = some a_q1k := by kernel_rfl

def h_q1j : Hints := { kp := [(0, [0, 1]), (1, [0, 3]), (3, [0, 3]), (4, []), (2, []), (5, [0, 3]), (6, [])], lkp := [], lth := [] }
def c_q1j : ACode :=
 .seq (.region (some [0, 1]) [i 3 (.box (.t 1)),
 i 4 (.mv (.c (.d (.i .u8 0))))] [])
 (.seq (.block 0 (.seq (.region (some [0, 3]) [i 6 (.mv (.t 0)),
 i 7 (.nilck (.t 6)),
 i 8 (.faddr 0 (.t 7)),
 i 9 (.faddr 0 (.t 8)),
 i 10 (.load false 1 (.t 9)),
 i 11 (.un .not (.t 10)),
 i 5 (.mv (.t 11))] [])
 (.cond (.t 5) (.seq (.region (some []) [i 4 (.mv (.c (.d (.i .u8 1))))] [])
 (.ret)) (.seq (.region (some [0, 3]) [i 13 (.faddr 4 (.t 3)),
 i 14 (.load false 1 (.t 13)),
 i 15 (.bin .gtr (.t 14) (.c (.d (.i .u8 16)))),
 i 12 (.mv (.t 15))] [])
 (.cond (.t 12) (.seq (.region (some []) [i 4 (.mv (.c (.d (.i .u8 2))))] [])
 (.ret)) (.skip))))))
 (.seq (.region (some [0, 3]) [i 16 (.mv (.t 0)),
 i 17 (.mv (.t 0)),
 i 18 (.nilck (.t 17)),
 i 19 (.faddr 0 (.t 18)),
 i 20 (.faddr 1 (.t 19)),
 i 21 (.load false 1 (.t 20)),
 i 22 (.faddr 4 (.t 3)),
 i 23 (.load false 1 (.t 22)),
 i 24 (.conv .i64 (.t 23)),
 i 25 (.call (.f F_q1m) [.t 21, .t 24]),
 i 26 (.faddr 4 (.t 3)),
 i 27 (.load false 1 (.t 26)),
 i 28 (.slice 0 (.t 25) none (some (.t 27)) none),
 i 29 (.nilck (.t 16)),
 i 30 (.faddr 0 (.t 29)),
 i 31 (.faddr 1 (.t 30)),
 ⟨none, .store 1 (.t 31) (.t 28), none⟩] [(5, 7), (5, 11), (7, 11), (9, 11)])
 (.seq (.region (some []) [i 4 (.mv (.c (.d (.i .u8 0))))] [])
 (.ret))))
def a_q1j : AFn := .code 2 c_q1j [.tmp 4]
set_option maxRecDepth 100000 in
theorem k_q1j : compF Tryz.prog h_q1j F_q1j = some a_q1j := by kernel_rfl

def h_q1h : Hints := { kp := [(0, [0, 1]), (1, [0, 3]), (3, [0, 3]), (4, []), (2, []), (5, [0, 3]), (6, [])], lkp := [], lth := [] }
def c_q1h : ACode :=
 .seq (.region (some [0, 1]) [i 3 (.box (.t 1)),
 i 4 (.mv (.c (.d (.i .u8 0))))] [])
 (.seq (.block 0 (.seq (.region (some [0, 3]) [i 6 (.faddr 4 (.t 3)),
 i 7 (.load false 1 (.t 6)),
 i 8 (.bin .geq (.t 7) (.c (.d (.i .u8 3)))),
 i 5 (.mv (.t 8))] [])
 (.cond (.t 5) (.seq (.region (some []) [i 4 (.mv (.c (.d (.i .u8 3))))] [])
 (.ret)) (.seq (.region (some [0, 3]) [i 10 (.mv (.t 0)),
 i 11 (.nilck (.t 10)),
 i 12 (.faddr 0 (.t 11)),
 i 13 (.faddr 0 (.t 12)),
 i 14 (.load false 1 (.t 13)),
 i 15 (.un .not (.t 14)),
 i 9 (.mv (.t 15))] [])
 (.cond (.t 9) (.seq (.region (some []) [i 4 (.mv (.c (.d (.i .u8 1))))] [])
 (.ret)) (.skip))))))
 (.seq (.region (some [0, 3]) [i 16 (.mv (.t 0)),
 i 17 (.faddr 4 (.t 3)),
 i 18 (.load false 1 (.t 17)),
 i 19 (.faddr 5 (.t 3)),
 i 20 (.load false 1 (.t 19)),
 i 21 (.nilck (.t 16)),
 i 22 (.faddr 0 (.t 21)),
 i 23 (.faddr 2 (.t 22)),
 i 24 (.iaddrA 3 1 (.t 23) (.t 18)),
 ⟨none, .store 1 (.t 24) (.t 20), none⟩] [(2, 4)])
 (.seq (.region (some []) [i 4 (.mv (.c (.d (.i .u8 0))))] [])
 (.ret))))
def a_q1h : AFn := .code 2 c_q1h [.tmp 4]
set_option maxRecDepth 100000 in
theorem k_q1h : compF Tryz.prog h_q1h F_q1h = some a_q1h := by kernel_rfl

def h_q1i : Hints := { kp := [(0, [0, 1]), (1, [0]), (2, []), (3, [0]), (4, [])], lkp := [], lth := [] }
def c_q1i : ACode :=
 .seq (.region (some [0, 1]) [i 3 (.box (.t 1)),
 i 4 (.mv (.c (.d (.i .u8 0))))] [])
 (.seq (.seq (.region (some [0]) [i 5 (.mv (.t 0)),
 i 6 (.nilck (.t 5)),
 i 7 (.faddr 0 (.t 6)),
 i 8 (.faddr 0 (.t 7)),
 i 9 (.load false 1 (.t 8)),
 i 10 (.un .not (.t 9))] [])
 (.cond (.t 10) (.seq (.region (some []) [i 4 (.mv (.c (.d (.i .u8 1))))] [])
 (.ret)) (.skip)))
 (.seq (.region (some [0]) [i 11 (.mv (.t 0)),
 i 12 (.build [.d (.b false), .d (.s ⟨#[]⟩), .d (.s ⟨#[]⟩), .d (.s ⟨#[]⟩), .d (.s ⟨#[]⟩)] []),
 i 13 (.nilck (.t 11)),
 i 14 (.faddr 0 (.t 13)),
 ⟨none, .store 5 (.t 14) (.t 12), none⟩] [])
 (.seq (.region (some []) [i 4 (.mv (.c (.d (.i .u8 0))))] [])
 (.ret))))
def a_q1i : AFn := .code 2 c_q1i [.tmp 4]
set_option maxRecDepth 100000 in
theorem k_q1i : compF Tryz.prog h_q1i F_q1i = some a_q1i := by kernel_rfl

def h_q41 : Hints := { kp := [(0, [0]), (1, [0]), (2, []), (3, [0])], lkp := [], lth := [] }
def c_q41 : ACode :=
 .seq (.region (some [0]) [i 2 (.mv (.c (.nilS)))] [])
 (.seq (.seq (.region (some [0]) [i 3 (.mv (.t 0)),
 i 4 (.isnil false (.t 3))] [])
 (.cond (.t 4) (.seq (.region (some []) [i 2 (.mv (.c (.nilS)))] [])
 (.ret)) (.skip)))
 (.seq (.region (some [0]) [i 5 (.bsl 2 []),
 i 6 (.mv (.t 0)),
 i 7 (.app 2 (.t 5) (.t 6)),
 i 2 (.mv (.t 7))] [])
 (.ret)))
def a_q41 : AFn := .code 1 c_q41 [.tmp 2]
set_option maxRecDepth 100000 in
theorem k_q41 : compF Tryz.prog h_q41 F_q41 = some a_q41 := by kernel_rfl

def h_q0b : Hints := { kp := [(0, [0, 1]), (1, [1, 2])], lkp := [], lth := [] }
def c_q0b : ACode :=
 .seq (.region (some [0, 1]) [i 2 (.box (.t 0)),
 i 4 (.mv (.c (.d (.b false))))] [])
 (.seq (.region (some [1, 2]) [i 5 (.faddr 0 (.t 2)),
 i 6 (.load false 1 (.t 5)),
 i 7 (.mv (.t 1)),
 i 8 (.call (.f F_q45) [.t 6, .t 7]),
 i 4 (.mv (.t 8))] [])
 (.ret))
def a_q0b : AFn := .code 2 c_q0b [.tmp 4]
set_option maxRecDepth 100000 in
theorem k_q0b : compF Tryz.prog h_q0b F_q0b = some a_q0b := by kernel_rfl

def h_q4a : Hints := { kp := [(0, [0, 1]), (1, [0, 1]), (2, [0, 1, 7, 8]), (3, [0, 1, 7, 8]), (4, [0, 1, 5, 7, 8]), (5, [5]), (6, [0, 1, 7, 8]), (7, [])], lkp := [(2, [0, 1, 7, 8])], lth := [] }
def K_q4a_0 : Option (List Nat) := (some [0, 1, 7, 8])
def l_q4a_0 : ACode :=
 .seq (.region (some [0, 1, 7, 8]) [i 9 (.bin .lss (.t 8) (.t 7))] [])
 (.seq (.cond (.t 9) (.skip) (.exit 0))
 (.seq (.block 1 (.seq (.region (some [0, 1, 7, 8]) [i 10 (.mv (.t 8)),
 i 5 (.mv (.t 10))] [])
 (.seq (.region (some [0, 1, 5, 7, 8]) [i 11 (.mv (.t 1)),
 i 12 (.mv (.t 0)),
 i 13 (.mv (.t 5)),
 i 14 (.iaddrS 2 (.t 12) (.t 13)),
 i 15 (.load true 2 (.t 14)),
 i 16 (.call (.t 11) [.t 15])] [])
 (.cond (.t 16) (.seq (.region (some [5]) [i 17 (.mv (.t 5)),
 i 4 (.mv (.t 17))] [])
 (.ret)) (.skip)))))
 (.region (some [0, 1, 7, 8]) [i 18 (.bin .add (.t 8) (.c (.d (.i .i64 1)))),
 i 8 (.mv (.t 18))] [])))
def c_q4a : ACode :=
 .seq (.region (some [0, 1]) [i 4 (.mv (.c (.d (.i .i64 0))))] [])
 (.seq (.seq (.region (some [0, 1]) [i 6 (.mv (.t 0)),
 i 7 (.len false (.t 6)),
 i 8 (.mv (.c (.d (.i .i64 0))))] [])
 (.block 0 (.loop K_q4a_0 [] l_q4a_0)))
 (.seq (.region (some []) [i 4 (.mv (.c (.d (.i .i64 (-1)))))] [])
 (.ret)))
def a_q4a : AFn := .code 2 c_q4a [.tmp 4]
set_option maxRecDepth 100000 in
theorem k_q4a : compF Tryz.prog h_q4a F_q4a = some a_q4a := by kernel_rfl

def h_q48 : Hints := { kp := [(0, [0, 1]), (1, [0, 1]), (2, []), (3, [0, 1]), (4, [0, 1, 12, 13]), (5, [0, 1, 12, 13]), (6, [0, 1, 5, 12, 13]), (7, []), (8, [0, 1, 12, 13]), (9, [])], lkp := [(4, [0, 1, 12, 13])], lth := [] }
def K_q48_0 : Option (List Nat) := (some [0, 1, 12, 13])
def l_q48_0 : ACode :=
 .seq (.region (some [0, 1, 12, 13]) [i 14 (.bin .lss (.t 13) (.t 12))] [])
 (.seq (.cond (.t 14) (.skip) (.exit 0))
 (.seq (.block 1 (.seq (.region (some [0, 1, 12, 13]) [i 15 (.mv (.t 13)),
 i 5 (.mv (.t 15))] [])
 (.seq (.region (some [0, 1, 5, 12, 13]) [i 16 (.mv (.t 0)),
 i 17 (.mv (.t 5)),
 i 18 (.iaddrS 8 (.t 16) (.t 17)),
 i 19 (.load true 8 (.t 18)),
 i 20 (.mv (.t 1)),
 i 21 (.mv (.t 5)),
 i 22 (.iaddrS 8 (.t 20) (.t 21)),
 i 23 (.load true 8 (.t 22)),
 i 24 (.eq true Pk.Entry.ety (.t 19) (.t 23))] [(3, 7)])
 (.cond (.t 24) (.seq (.region (some []) [i 4 (.mv (.c (.d (.b false))))] [])
 (.ret)) (.skip)))))
 (.region (some [0, 1, 12, 13]) [i 25 (.bin .add (.t 13) (.c (.d (.i .i64 1)))),
 i 13 (.mv (.t 25))] [])))
def c_q48 : ACode :=
 .seq (.region (some [0, 1]) [i 4 (.mv (.c (.d (.b false))))] [])
 (.seq (.seq (.region (some [0, 1]) [i 6 (.mv (.t 0)),
 i 7 (.len false (.t 6)),
 i 8 (.mv (.t 1)),
 i 9 (.len false (.t 8)),
 i 10 (.bin .neq (.t 7) (.t 9))] [])
 (.cond (.t 10) (.seq (.region (some []) [i 4 (.mv (.c (.d (.b false))))] [])
 (.ret)) (.skip)))
 (.seq (.seq (.region (some [0, 1]) [i 11 (.mv (.t 0)),
 i 12 (.len false (.t 11)),
 i 13 (.mv (.c (.d (.i .i64 0))))] [])
 (.block 0 (.loop K_q48_0 [] l_q48_0)))
 (.seq (.region (some []) [i 4 (.mv (.c (.d (.b true))))] [])
 (.ret))))
def a_q48 : AFn := .code 2 c_q48 [.tmp 4]
set_option maxRecDepth 100000 in
theorem k_q48 : compF Tryz.prog h_q48 F_q48 = some a_q48 := by kernel_rfl

def h_q30 : Hints := { kp := [(0, [0, 1]), (1, [1, 2, 4]), (2, [4]), (3, [1, 2, 4])], lkp := [], lth := [] }
def c_q30 : ACode :=
 .seq (.region (some [0, 1]) [i 2 (.box (.t 0)),
 i 4 (.box (.c (.d (.agg [.i .u32 0, .i .u32 0, .i .u8 0, .i .u32 0, .i .u8 0, .i .u8 0, .i .u8 0, .s ⟨#[]⟩])))),
 i 5 (.mv (.c (.d (.b false))))] [])
 (.seq (.seq (.region (some [1, 2, 4]) [i 6 (.load true 49 (.t 2)),
 i 7 (.call (.f F_q32) [.t 6]),
 i 8 (.un .not (.t 7)),
 i 9 (.mv (.t 8)),
 ⟨some 10, .mv (.t 1), some (9, false)⟩,
 ⟨some 11, .faddr 40 (.t 2), some (9, false)⟩,
 ⟨some 12, .faddr 1 (.t 11), some (9, false)⟩,
 ⟨some 13, .load false 1 (.t 12), some (9, false)⟩,
 ⟨some 14, .bin .leq (.t 10) (.t 13), some (9, false)⟩,
 i 15 (.pick (.t 9) (.c (.d (.b true))) (.t 14)),
 i 16 (.mv (.t 15)),
 ⟨some 17, .load true 49 (.t 2), some (16, false)⟩,
 ⟨some 18, .mv (.t 1), some (16, false)⟩,
 ⟨some 19, .call (.f F_q3b) [.t 17, .t 18], some (16, false)⟩,
 ⟨some 20, .bin .lss (.t 19) (.c (.d (.i .i64 1))), some (16, false)⟩,
 i 21 (.pick (.t 16) (.c (.d (.b true))) (.t 20))] [])
 (.cond (.t 21) (.seq (.region (some [4]) [i 22 (.build [.d (.i .u32 0), .d (.i .u32 0), .d (.i .u8 0), .d (.i .u32 0), .d (.i .u8 0), .d (.i .u8 0), .d (.i .u8 0), .d (.s ⟨#[]⟩)] []),
 ⟨none, .store 8 (.t 4) (.t 22), none⟩,
 i 5 (.mv (.c (.d (.b false))))] [])
 (.ret)) (.skip)))
 (.seq (.region (some [1, 2, 4]) [i 23 (.faddr 48 (.t 2)),
 i 24 (.load false 1 (.t 23)),
 i 25 (.load true 49 (.t 2)),
 i 26 (.mv (.t 1)),
 i 27 (.call (.f F_q3b) [.t 25, .t 26]),
 i 28 (.bin .sub (.t 27) (.c (.d (.i .i64 1)))),
 i 29 (.iaddrS 8 (.t 24) (.t 28)),
 i 30 (.load true 8 (.t 29)),
 ⟨none, .store 8 (.t 4) (.t 30), none⟩,
 i 5 (.mv (.c (.d (.b true))))] [(1, 2), (1, 4)])
 (.ret)))
def a_q30 : AFn := .code 2 c_q30 [.cell true 8 4, .tmp 5]
set_option maxRecDepth 100000 in
theorem k_q30 : compF Tryz.prog h_q30 F_q30 = some a_q30 := by kernel_rfl

def h_q35 : Hints := { kp := [(0, [0, 1]), (1, [1, 2, 4]), (2, [4]), (3, [1, 2, 4])], lkp := [], lth := [] }
def c_q35 : ACode :=
 .seq (.region (some [0, 1]) [i 2 (.box (.t 0)),
 i 4 (.box (.c (.d (.agg Pk.Base.zero.cs)))),
 i 5 (.mv (.c (.d (.b false))))] [])
 (.seq (.seq (.region (some [1, 2, 4]) [i 6 (.load true 49 (.t 2)),
 i 7 (.call (.f F_q32) [.t 6]),
 i 8 (.un .not (.t 7)),
 i 9 (.mv (.t 8)),
 ⟨some 10, .load true 49 (.t 2), some (9, false)⟩,
 ⟨some 11, .mv (.t 1), some (9, false)⟩,
 ⟨some 12, .call (.f F_q3b) [.t 10, .t 11], some (9, false)⟩,
 ⟨some 13, .bin .lss (.t 12) (.c (.d (.i .i64 0))), some (9, false)⟩,
 i 14 (.pick (.t 9) (.c (.d (.b true))) (.t 13))] [])
 (.cond (.t 14) (.seq (.region (some [4]) [i 15 (.build (List.map .d Pk.Base.zero.cs) []),
 ⟨none, .store 39 (.t 4) (.t 15), none⟩,
 i 5 (.mv (.c (.d (.b false))))] [])
 (.ret)) (.skip)))
 (.seq (.region (some [1, 2, 4]) [i 16 (.load true 49 (.t 2)),
 i 17 (.load true 49 (.t 2)),
 i 18 (.mv (.t 1)),
 i 19 (.call (.f F_q3b) [.t 17, .t 18]),
 i 20 (.call (.f F_q37) [.t 16, .t 19]),
 i 21 (.field true 1 39 (.t 20)),
 ⟨none, .store 39 (.t 4) (.t 21), none⟩,
 i 5 (.mv (.c (.d (.b true))))] [(0, 1), (0, 3)])
 (.ret)))
def a_q35 : AFn := .code 2 c_q35 [.cell true 39 4, .tmp 5]
set_option maxRecDepth 100000 in
theorem k_q35 : compF Tryz.prog h_q35 F_q35 = some a_q35 := by kernel_rfl

def h_q0w : Hints := { kp := [(0, [0]), (1, [1])], lkp := [], lth := [] }
def c_q0w : ACode :=
 .seq (.region (some [0]) [i 1 (.box (.t 0)),
 i 2 (.mv (.c (.nilS)))] [])
 (.seq (.region (some [1]) [i 3 (.load true 16 (.t 1)),
 i 4 (.call (.f F_q10) [.t 3, .f F_q0x]),
 i 2 (.mv (.t 4))] [])
 (.ret))
def a_q0w : AFn := .code 1 c_q0w [.tmp 2]
set_option maxRecDepth 100000 in
theorem k_q0w : compF Tryz.prog h_q0w F_q0w = some a_q0w := by kernel_rfl

def h_q3i : Hints := { kp := [(0, [0, 1]), (1, [0, 1, 4]), (2, [0, 1, 4, 7]), (3, [0, 1, 4, 7]), (4, [0, 1, 4, 5, 7]), (5, [0, 1, 4, 6, 7]), (6, [0, 6]), (7, [0, 1, 4, 7])], lkp := [(2, [0, 1, 4, 7])], lth := [] }
def K_q3i_0 : Option (List Nat) := (some [0, 1, 4, 7])
def l_q3i_0 : ACode :=
 .seq (.region (some [0, 1, 4, 7]) [i 8 (.bin .lss (.t 7) (.c (.d (.i .i64 20))))] [])
 (.seq (.cond (.t 8) (.skip) (.exit 0))
 (.seq (.block 1 (.seq (.region (some [0, 1, 4, 7]) [i 9 (.mv (.t 7)),
 i 5 (.mv (.t 9))] [])
 (.seq (.region (some [0, 1, 4, 5, 7]) [i 10 (.mv (.t 4)),
 i 11 (.mv (.t 0)),
 i 12 (.mv (.t 1)),
 i 13 (.mv (.t 5)),
 i 14 (.bin .mul (.t 13) (.c (.d (.i .i64 3)))),
 i 15 (.bin .add (.t 12) (.t 14)),
 i 16 (.call (.t 10) [.t 11, .t 15]),
 i 6 (.mv (.t 16))] [])
 (.seq (.region (some [0, 1, 4, 6, 7]) [i 17 (.mv (.t 0)),
 i 18 (.mv (.t 6)),
 i 19 (.call (.f F_q3g) [.t 17, .t 18])] [])
 (.cond (.t 19) (.seq (.region (some [0, 6]) [i 20 (.mv (.t 0)),
 i 21 (.mv (.t 0)),
 i 22 (.nilck (.t 21)),
 i 23 (.faddr 18 (.t 22)),
 i 24 (.load false 1 (.t 23)),
 i 25 (.mv (.t 6)),
 i 26 (.bsl 1 [.t 25]),
 i 27 (.app 1 (.t 24) (.t 26)),
 i 28 (.nilck (.t 20)),
 i 29 (.faddr 18 (.t 28)),
 ⟨none, .store 1 (.t 29) (.t 27), none⟩] [])
 (.ret)) (.skip))))))
 (.region (some [0, 1, 4, 7]) [i 30 (.bin .add (.t 7) (.c (.d (.i .i64 1)))),
 i 7 (.mv (.t 30))] [])))
def c_q3i : ACode :=
 .seq (.region (some [0, 1]) [i 4 (.mv (.f F_q3f))] [])
 (.seq (.region (some [0, 1, 4]) [i 7 (.mv (.c (.d (.i .i64 0))))] [])
 (.block 0 (.loop K_q3i_0 [] l_q3i_0)))
def a_q3i : AFn := .code 2 c_q3i []
set_option maxRecDepth 100000 in
theorem k_q3i : compF Tryz.prog h_q3i F_q3i = some a_q3i := by kernel_rfl

def h_q1m : Hints := { kp := [(0, [0, 1]), (1, [0, 1])], lkp := [], lth := [] }
def c_q1m : ACode :=
 .seq (.region (some [0, 1]) [i 4 (.mv (.c (.d (.s ⟨#[]⟩))))] [])
 (.seq (.region (some [0, 1]) [i 5 (.mv (.t 0)),
 i 6 (.mv (.t 1)),
 i 7 (.mv (.t 0)),
 i 8 (.len true (.t 7)),
 i 9 (.bin .sub (.t 6) (.t 8)),
 i 10 (.mm true [.t 9, .c (.d (.i .i64 0))]),
 i 11 (.call (.f F_q4r) [.c (.d (.s ⟨#[0]⟩)), .t 10]),
 i 12 (.bin .add (.t 5) (.t 11)),
 i 4 (.mv (.t 12))] [])
 (.ret))
def a_q1m : AFn := .code 2 c_q1m [.tmp 4]
set_option maxRecDepth 100000 in
theorem k_q1m : compF Tryz.prog h_q1m F_q1m = some a_q1m := by kernel_rfl

def h_q10 : Hints := { kp := [(0, [0, 1]), (1, [1, 2]), (2, [1, 2, 5]), (3, [1, 5, 9, 10]), (4, [1, 5, 9, 10]), (5, [1, 5, 6, 7, 9, 10]), (6, [1, 5, 6, 9, 10]), (7, [1, 5, 9, 10]), (8, [5])], lkp := [(3, [1, 5, 9, 10])], lth := [(3, [5, 1])] }
def K_q10_0 : Option (List Nat) := (some [1, 5, 9, 10])
def l_q10_0 : ACode :=
 .seq (.region (some [1, 5, 9, 10]) [i 11 (.bin .lss (.t 10) (.c (.d (.i .i64 5))))] [])
 (.seq (.cond (.t 11) (.skip) (.exit 0))
 (.seq (.block 1 (.seq (.region (some [1, 5, 9, 10]) [i 12 (.mv (.t 10)),
 i 13 (.idxA true 5 3 (.t 9) (.t 10)),
 i 7 (.box (.c (.d (.agg [.b false, .i .i64 0, .i .u8 0])))),
 i 6 (.mv (.t 12)),
 ⟨none, .store 3 (.t 7) (.t 13), none⟩] [])
 (.seq (.region (some [1, 5, 6, 7, 9, 10]) [i 14 (.mv (.t 1)),
 i 15 (.load true 3 (.t 7)),
 i 16 (.call (.t 14) [.t 15])] [])
 (.cond (.t 16) (.region (some [1, 5, 6, 9, 10]) [i 17 (.mv (.t 5)),
 i 18 (.mv (.t 6)),
 i 19 (.bsl 1 [.t 18]),
 i 20 (.app 1 (.t 17) (.t 19)),
 i 5 (.mv (.t 20))] []) (.skip)))))
 (.region (some [1, 5, 9, 10]) [i 21 (.bin .add (.t 10) (.c (.d (.i .i64 1)))),
 i 10 (.mv (.t 21))] [])))
def c_q10 : ACode :=
 .seq (.region (some [0, 1]) [i 2 (.box (.t 0)),
 i 4 (.mv (.c (.nilS)))] [])
 (.seq (.region (some [1, 2]) [i 5 (.mv (.c (.nilS)))] [])
 (.seq (.seq (.region (some [1, 2, 5]) [i 8 (.faddr 1 (.t 2)),
 i 9 (.load true 15 (.t 8)),
 i 10 (.mv (.c (.d (.i .i64 0))))] [])
 (.block 0 (.loop K_q10_0 [5, 1] l_q10_0)))
 (.seq (.region (some [5]) [i 22 (.mv (.t 5)),
 i 4 (.mv (.t 22))] [])
 (.ret))))
def a_q10 : AFn := .code 2 c_q10 [.tmp 4]
set_option maxRecDepth 100000 in
theorem k_q10 : compF Tryz.prog h_q10 F_q10 = some a_q10 := by kernel_rfl

def h_q0x : Hints := { kp := [(0, [0]), (1, [1])], lkp := [], lth := [] }
def c_q0x : ACode :=
 .seq (.region (some [0]) [i 1 (.box (.t 0)),
 i 2 (.mv (.c (.d (.b false))))] [])
 (.seq (.region (some [1]) [i 3 (.faddr 1 (.t 1)),
 i 4 (.load false 1 (.t 3)),
 i 5 (.bin .gtr (.t 4) (.c (.d (.i .i64 0)))),
 i 2 (.mv (.t 5))] [])
 (.ret))
def a_q0x : AFn := .code 1 c_q0x [.tmp 2]
set_option maxRecDepth 100000 in
theorem k_q0x : compF Tryz.prog h_q0x F_q0x = some a_q0x := by kernel_rfl

def h_q3f : Hints := { kp := [(0, [0, 1]), (1, [0, 1]), (2, [0, 1, 5]), (3, [0, 1, 5, 11, 12, 13]), (4, [0, 1, 5, 11, 12, 13]), (5, [0, 1, 5, 7, 11, 12, 13]), (6, [0, 1, 5, 11, 12, 13]), (7, [0, 5])], lkp := [(3, [0, 1, 5, 11, 12, 13])], lth := [(3, [5, 1])] }
def K_q3f_0 : Option (List Nat) := (some [0, 1, 5, 11, 12, 13])
def l_q3f_0 : ACode :=
 .seq (.region (some [0, 1, 5, 11, 12, 13]) [i 14 (.bin .lss (.t 13) (.t 12))] [])
 (.seq (.cond (.t 14) (.skip) (.exit 0))
 (.seq (.block 1 (.seq (.region (some [0, 1, 5, 11, 12, 13]) [i 15 (.iaddrS 1 (.t 11) (.t 13)),
 i 16 (.load false 1 (.t 15)),
 i 7 (.mv (.t 16))] [])
 (.region (some [0, 1, 5, 7, 11, 12, 13]) [i 17 (.mv (.t 5)),
 i 18 (.mv (.t 0)),
 i 19 (.nilck (.t 18)),
 i 20 (.faddr 16 (.t 19)),
 i 21 (.load false 1 (.t 20)),
 i 22 (.mv (.t 7)),
 i 23 (.mv (.t 1)),
 i 24 (.mv (.t 0)),
 i 25 (.mv (.t 7)),
 i 26 (.nilck (.t 24)),
 i 27 (.faddr 0 (.t 26)),
 i 28 (.faddr 1 (.t 27)),
 i 29 (.iaddrA 5 3 (.t 28) (.t 25)),
 i 30 (.faddr 1 (.t 29)),
 i 31 (.load false 1 (.t 30)),
 i 32 (.call (.f F_q4f) [.t 21, .t 22, .t 23, .t 31]),
 i 33 (.bsl 1 [.t 32]),
 i 34 (.app 1 (.t 17) (.t 33)),
 i 5 (.mv (.t 34))] [(4, 14)])))
 (.region (some [0, 1, 5, 11, 12, 13]) [i 35 (.bin .add (.t 13) (.c (.d (.i .i64 1)))),
 i 13 (.mv (.t 35))] [])))
def c_q3f : ACode :=
 .seq (.region (some [0, 1]) [i 4 (.mv (.c (.d (.i .i64 0))))] [])
 (.seq (.region (some [0, 1]) [i 5 (.mv (.c (.nilS)))] [])
 (.seq (.seq (.region (some [0, 1, 5]) [i 8 (.mv (.t 0)),
 i 9 (.nilck (.t 8)),
 i 10 (.faddr 17 (.t 9)),
 i 11 (.load false 1 (.t 10)),
 i 12 (.len false (.t 11)),
 i 13 (.mv (.c (.d (.i .i64 0))))] [])
 (.block 0 (.loop K_q3f_0 [5, 1] l_q3f_0)))
 (.seq (.region (some [0, 5]) [i 36 (.mv (.t 0)),
 i 37 (.nilck (.t 36)),
 i 38 (.faddr 17 (.t 37)),
 i 39 (.load false 1 (.t 38)),
 i 40 (.mv (.t 5)),
 i 41 (.call (.f F_q4e) [.t 40]),
 i 42 (.iaddrS 1 (.t 39) (.t 41)),
 i 43 (.load false 1 (.t 42)),
 i 4 (.mv (.t 43))] [(3, 5)])
 (.ret))))
def a_q3f : AFn := .code 2 c_q3f [.tmp 4]
set_option maxRecDepth 100000 in
theorem k_q3f : compF Tryz.prog h_q3f F_q3f = some a_q3f := by kernel_rfl

def h_q3g : Hints := { kp := [(0, [0, 1]), (1, [2, 3])], lkp := [], lth := [] }
def c_q3g : ACode :=
 .seq (.region (some [0, 1]) [i 2 (.box (.t 0)),
 i 3 (.box (.t 1)),
 i 4 (.mv (.c (.d (.b false))))] [])
 (.seq (.region (some [2, 3]) [i 5 (.load false 1 (.t 2)),
 i 6 (.nilck (.t 5)),
 i 7 (.faddr 18 (.t 6)),
 i 8 (.load false 1 (.t 7)),
 i 9 (.mkfn F_q3h [] [.t 3, .t 2]),
 i 10 (.call (.f F_q44) [.t 8, .t 9]),
 i 11 (.un .not (.t 10)),
 i 4 (.mv (.t 11))] [])
 (.ret))
def a_q3g : AFn := .code 2 c_q3g [.tmp 4]
set_option maxRecDepth 100000 in
theorem k_q3g : compF Tryz.prog h_q3g F_q3g = some a_q3g := by kernel_rfl

def h_q4f : Hints := { kp := [(0, [0, 1, 2, 3]), (1, [0, 1, 2, 3])], lkp := [], lth := [] }
def c_q4f : ACode :=
 .seq (.region (some [0, 1, 2, 3]) [i 8 (.mv (.c (.d (.i .i64 0))))] [])
 (.seq (.region (some [0, 1, 2, 3]) [i 9 (.mv (.t 0)),
 i 10 (.conv .u32 (.t 9)),
 i 11 (.mv (.t 1)),
 i 12 (.conv .u32 (.t 11)),
 i 13 (.mv (.t 2)),
 i 14 (.conv .u32 (.t 13)),
 i 15 (.call (.f F_q01) [.t 10, .t 12, .t 14]),
 i 16 (.mv (.t 3)),
 i 17 (.call (.f F_q4h) [.t 15, .t 16]),
 i 8 (.mv (.t 17))] [])
 (.ret))
def a_q4f : AFn := .code 4 c_q4f [.tmp 8]
set_option maxRecDepth 100000 in
theorem k_q4f : compF Tryz.prog h_q4f F_q4f = some a_q4f := by kernel_rfl

def h_q4e : Hints := { kp := [(0, [0]), (1, [0]), (2, [0, 3]), (3, [0, 3, 6, 7, 8]), (4, [0, 3, 6, 7, 8]), (5, [0, 3, 4, 5, 6, 7, 8]), (6, [0, 4, 6, 7, 8]), (7, [0, 3, 6, 7, 8]), (8, [3])], lkp := [(3, [0, 3, 6, 7, 8])], lth := [] }
def K_q4e_0 : Option (List Nat) := (some [0, 3, 6, 7, 8])
def l_q4e_0 : ACode :=
 .seq (.region (some [0, 3, 6, 7, 8]) [i 9 (.bin .lss (.t 8) (.t 7))] [])
 (.seq (.cond (.t 9) (.skip) (.exit 0))
 (.seq (.block 1 (.seq (.region (some [0, 3, 6, 7, 8]) [i 10 (.mv (.t 8)),
 i 11 (.iaddrS 1 (.t 6) (.t 8)),
 i 12 (.load false 1 (.t 11)),
 i 4 (.mv (.t 10)),
 i 5 (.mv (.t 12))] [])
 (.seq (.region (some [0, 3, 4, 5, 6, 7, 8]) [i 13 (.mv (.t 3)),
 i 14 (.bin .lss (.t 13) (.c (.d (.i .i64 0)))),
 i 15 (.mv (.t 14)),
 ⟨some 16, .mv (.t 5), some (15, false)⟩,
 ⟨some 17, .mv (.t 0), some (15, false)⟩,
 ⟨some 18, .mv (.t 3), some (15, false)⟩,
 ⟨some 19, .iaddrS 1 (.t 17) (.t 18), some (15, false)⟩,
 ⟨some 20, .load false 1 (.t 19), some (15, false)⟩,
 ⟨some 21, .bin .gtr (.t 16) (.t 20), some (15, false)⟩,
 i 22 (.pick (.t 15) (.c (.d (.b true))) (.t 21))] [])
 (.cond (.t 22) (.region (some [0, 4, 6, 7, 8]) [i 23 (.mv (.t 4)),
 i 3 (.mv (.t 23))] []) (.skip)))))
 (.region (some [0, 3, 6, 7, 8]) [i 24 (.bin .add (.t 8) (.c (.d (.i .i64 1)))),
 i 8 (.mv (.t 24))] [])))
def c_q4e : ACode :=
 .seq (.region (some [0]) [i 2 (.mv (.c (.d (.i .i64 0))))] [])
 (.seq (.region (some [0]) [i 3 (.mv (.c (.d (.i .i64 (-1)))))] [])
 (.seq (.seq (.region (some [0, 3]) [i 6 (.mv (.t 0)),
 i 7 (.len false (.t 6)),
 i 8 (.mv (.c (.d (.i .i64 0))))] [])
 (.block 0 (.loop K_q4e_0 [] l_q4e_0)))
 (.seq (.region (some [3]) [i 25 (.mv (.t 3)),
 i 2 (.mv (.t 25))] [])
 (.ret))))
def a_q4e : AFn := .code 1 c_q4e [.tmp 2]
set_option maxRecDepth 100000 in
theorem k_q4e : compF Tryz.prog h_q4e F_q4e = some a_q4e := by kernel_rfl

def h_q3h : Hints := { kp := [(0, [0, 1, 2]), (1, [0, 1, 2])], lkp := [], lth := [] }
def c_q3h : ACode :=
 .seq (.region (some [0, 1, 2]) [i 4 (.mv (.c (.d (.b false))))] [])
 (.seq (.region (some [0, 1, 2]) [i 5 (.mv (.t 0)),
 i 6 (.load false 1 (.t 1)),
 i 7 (.bin .eql (.t 5) (.t 6)),
 i 8 (.mv (.t 7)),
 ⟨some 9, .load false 1 (.t 2), some (8, false)⟩,
 ⟨some 10, .mv (.t 0), some (8, false)⟩,
 ⟨some 11, .nilck (.t 9), some (8, false)⟩,
 ⟨some 12, .faddr 0 (.t 11), some (8, false)⟩,
 ⟨some 13, .faddr 1 (.t 12), some (8, false)⟩,
 ⟨some 14, .iaddrA 5 3 (.t 13) (.t 10), some (8, false)⟩,
 ⟨some 15, .faddr 2 (.t 14), some (8, false)⟩,
 ⟨some 16, .load false 1 (.t 15), some (8, false)⟩,
 ⟨some 17, .load false 1 (.t 2), some (8, false)⟩,
 ⟨some 18, .load false 1 (.t 1), some (8, false)⟩,
 ⟨some 19, .nilck (.t 17), some (8, false)⟩,
 ⟨some 20, .faddr 0 (.t 19), some (8, false)⟩,
 ⟨some 21, .faddr 1 (.t 20), some (8, false)⟩,
 ⟨some 22, .iaddrA 5 3 (.t 21) (.t 18), some (8, false)⟩,
 ⟨some 23, .faddr 2 (.t 22), some (8, false)⟩,
 ⟨some 24, .load false 1 (.t 23), some (8, false)⟩,
 ⟨some 25, .bin .eql (.t 16) (.t 24), some (8, false)⟩,
 i 26 (.pick (.t 8) (.c (.d (.b true))) (.t 25)),
 i 4 (.mv (.t 26))] [(4, 12), (11, 12), (4, 13), (11, 13), (12, 13), (4, 19), (11, 19)])
 (.ret))
def a_q3h : AFn := .code 3 c_q3h [.tmp 4]
set_option maxRecDepth 100000 in
theorem k_q3h : compF Tryz.prog h_q3h F_q3h = some a_q3h := by kernel_rfl

def h_q4h : Hints := { kp := [(0, [0, 1]), (1, [0, 1]), (2, [0, 5])], lkp := [], lth := [] }
def c_q4h : ACode :=
 .seq (.region (some [0, 1]) [i 4 (.mv (.c (.d (.i .i64 0))))] [])
 (.seq (.region (some [0, 1]) [i 6 (.mv (.t 1)),
 i 7 (.mm true [.t 6, .c (.d (.i .i64 1))]),
 i 8 (.mm false [.t 7, .c (.d (.i .i64 16))]),
 i 5 (.mv (.t 8))] [])
 (.seq (.region (some [0, 5]) [i 9 (.mv (.t 0)),
 i 10 (.bin .rem (.t 9) (.c (.d (.i .u32 65536)))),
 i 11 (.bin .add (.t 10) (.c (.d (.i .u32 1)))),
 i 12 (.call (.f F_q4g) [.t 11]),
 i 13 (.bin .sub (.c (.d (.i .i64 1048576))) (.t 12)),
 i 14 (.bin .mul (.t 13) (.c (.d (.i .i64 4096)))),
 i 15 (.mv (.t 5)),
 i 16 (.bin .quo (.t 14) (.t 15)),
 i 17 (.un .neg (.t 16)),
 i 4 (.mv (.t 17))] [])
 (.ret)))
def a_q4h : AFn := .code 2 c_q4h [.tmp 4]
set_option maxRecDepth 100000 in
theorem k_q4h : compF Tryz.prog h_q4h F_q4h = some a_q4h := by kernel_rfl

def h_q01 : Hints := { kp := [(0, [0, 1, 2]), (1, [0, 1, 2])], lkp := [], lth := [] }
def c_q01 : ACode :=
 .seq (.region (some [0, 1, 2]) [i 6 (.mv (.c (.d (.i .u32 0))))] [])
 (.seq (.region (some [0, 1, 2]) [i 7 (.mv (.t 0)),
 i 8 (.conv .u64 (.t 7)),
 i 9 (.call (.f F_q02) [.t 8]),
 i 10 (.mv (.t 1)),
 i 11 (.conv .u64 (.t 10)),
 i 12 (.bin .add (.t 9) (.t 11)),
 i 13 (.call (.f F_q02) [.t 12]),
 i 14 (.mv (.t 2)),
 i 15 (.conv .u64 (.t 14)),
 i 16 (.bin .add (.t 13) (.t 15)),
 i 17 (.call (.f F_q02) [.t 16]),
 i 18 (.conv .u32 (.t 17)),
 i 6 (.mv (.t 18))] [])
 (.ret))
def a_q01 : AFn := .code 3 c_q01 [.tmp 6]
set_option maxRecDepth 100000 in
theorem k_q01 : compF Tryz.prog h_q01 F_q01 = some a_q01 := by kernel_rfl

def h_q4g : Hints := { kp := [(0, [0]), (1, [0]), (2, [0]), (3, [0, 3]), (4, [3, 4]), (5, [3, 4, 5]), (6, [3, 4, 5, 21]), (7, [3, 4, 5, 21]), (8, [3, 4, 5, 21]), (9, [3, 4])], lkp := [(6, [3, 4, 5, 21])], lth := [] }
def K_q4g_0 : Option (List Nat) := (some [3, 4, 5, 21])
def l_q4g_0 : ACode :=
 .seq (.region (some [3, 4, 5, 21]) [i 22 (.bin .lss (.t 21) (.c (.d (.i .i64 16))))] [])
 (.seq (.cond (.t 22) (.skip) (.exit 0))
 (.seq (.block 1 (.region (some [3, 4, 5, 21]) [i 23 (.mv (.t 5)),
 i 24 (.call (.t 23) [])] []))
 (.region (some [3, 4, 5, 21]) [i 25 (.bin .add (.t 21) (.c (.d (.i .i64 1)))),
 i 21 (.mv (.t 25))] [])))
def c_q4g : ACode :=
 .seq (.region (some [0]) [i 2 (.mv (.c (.d (.i .i64 0))))] [])
 (.seq (.region (some [0]) [i 6 (.mv (.t 0)),
 i 7 (.mm true [.t 6, .c (.d (.i .u32 1))]),
 i 8 (.mm false [.t 7, .c (.d (.i .u32 65536))]),
 i 0 (.mv (.t 8))] [])
 (.seq (.region (some [0]) [i 9 (.mv (.t 0)),
 i 10 (.call (.f F_q11) [.t 9]),
 i 11 (.bin .sub (.t 10) (.c (.d (.i .i64 1)))),
 i 3 (.mv (.t 11))] [])
 (.seq (.region (some [0, 3]) [i 12 (.mv (.t 0)),
 i 13 (.conv .u64 (.t 12)),
 i 14 (.mv (.t 3)),
 i 15 (.bin .sub (.c (.d (.i .i64 31))) (.t 14)),
 i 16 (.bin .shl (.t 13) (.t 15)),
 i 17 (.build [.d (.i .u64 0), .d (.i .i64 0)] [(0, 1, .t 16)]),
 i 18 (.box (.t 17)),
 i 4 (.mv (.t 18))] [])
 (.seq (.region (some [3, 4]) [i 19 (.mv (.t 4)),
 i 20 (.mkfn F_q4i [.t 19] []),
 i 5 (.mv (.t 20))] [])
 (.seq (.seq (.region (some [3, 4, 5]) [i 21 (.mv (.c (.d (.i .i64 0))))] [])
 (.block 0 (.loop K_q4g_0 [] l_q4g_0)))
 (.seq (.region (some [3, 4]) [i 26 (.mv (.t 3)),
 i 27 (.bin .shl (.t 26) (.c (.d (.i .u64 16)))),
 i 28 (.mv (.t 4)),
 i 29 (.nilck (.t 28)),
 i 30 (.faddr 1 (.t 29)),
 i 31 (.load false 1 (.t 30)),
 i 32 (.bin .add (.t 27) (.t 31)),
 i 2 (.mv (.t 32))] [])
 (.ret)))))))
def a_q4g : AFn := .code 1 c_q4g [.tmp 2]
set_option maxRecDepth 100000 in
theorem k_q4g : compF Tryz.prog h_q4g F_q4g = some a_q4g := by kernel_rfl

def h_q02 : Hints := { kp := [(0, [0]), (1, [0]), (2, [0]), (3, [0])], lkp := [], lth := [] }
def c_q02 : ACode :=
 .seq (.region (some [0]) [i 2 (.mv (.c (.d (.i .u64 0))))] [])
 (.seq (.region (some [0]) [i 3 (.mv (.t 0)),
 i 4 (.mv (.t 0)),
 i 5 (.bin .shr (.t 4) (.c (.d (.i .u64 33)))),
 i 6 (.bin .xor (.t 3) (.t 5)),
 i 7 (.bin .mul (.t 6) (.c (.d (.i .u64 18397679294719823053)))),
 i 0 (.mv (.t 7))] [])
 (.seq (.region (some [0]) [i 8 (.mv (.t 0)),
 i 9 (.mv (.t 0)),
 i 10 (.bin .shr (.t 9) (.c (.d (.i .u64 33)))),
 i 11 (.bin .xor (.t 8) (.t 10)),
 i 12 (.bin .mul (.t 11) (.c (.d (.i .u64 14181476777654086739)))),
 i 0 (.mv (.t 12))] [])
 (.seq (.region (some [0]) [i 13 (.mv (.t 0)),
 i 14 (.mv (.t 0)),
 i 15 (.bin .shr (.t 14) (.c (.d (.i .u64 33)))),
 i 16 (.bin .xor (.t 13) (.t 15)),
 i 2 (.mv (.t 16))] [])
 (.ret))))
def a_q02 : AFn := .code 1 c_q02 [.tmp 2]
set_option maxRecDepth 100000 in
theorem k_q02 : compF Tryz.prog h_q02 F_q02 = some a_q02 := by kernel_rfl

def h_q11 : Hints := { kp := [(0, [0]), (1, [0, 2]), (2, [0]), (3, [0]), (4, [0, 2]), (5, [0, 2]), (6, [0, 2]), (7, [0, 2])], lkp := [], lth := [] }
def c_q11 : ACode :=
 .seq (.region (some [0]) [i 2 (.mv (.c (.d (.i .i64 0))))] [])
 (.seq (.seq (.region (some [0, 2]) [i 3 (.mv (.t 0)),
 i 4 (.bin .geq (.t 3) (.c (.d (.i .u32 65536))))] [])
 (.cond (.t 4) (.seq (.region (some [0]) [i 5 (.mv (.t 0)),
 i 6 (.bin .shr (.t 5) (.c (.d (.i .u64 16)))),
 i 0 (.mv (.t 6))] [])
 (.region (some [0]) [i 2 (.mv (.c (.d (.i .i64 16))))] [])) (.skip)))
 (.seq (.seq (.region (some [0, 2]) [i 7 (.mv (.t 0)),
 i 8 (.bin .geq (.t 7) (.c (.d (.i .u32 256))))] [])
 (.cond (.t 8) (.seq (.region (some [0, 2]) [i 9 (.mv (.t 0)),
 i 10 (.bin .shr (.t 9) (.c (.d (.i .u64 8)))),
 i 0 (.mv (.t 10))] [])
 (.region (some [0, 2]) [i 11 (.mv (.t 2)),
 i 12 (.bin .add (.t 11) (.c (.d (.i .i64 8)))),
 i 2 (.mv (.t 12))] [])) (.skip)))
 (.seq (.region (some [0, 2]) [i 13 (.mv (.t 2)),
 i 14 (.mv (.t 0)),
 i 15 (.conv .u8 (.t 14)),
 i 16 (.idxS (.c (.d (.s tab0))) (.t 15)),
 i 17 (.conv .i64 (.t 16)),
 i 18 (.bin .add (.t 13) (.t 17)),
 i 2 (.mv (.t 18))] [])
 (.ret))))
def a_q11 : AFn := .code 1 c_q11 [.tmp 2]
set_option maxRecDepth 100000 in
theorem k_q11 : compF Tryz.prog h_q11 F_q11 = some a_q11 := by kernel_rfl

def h_q4i : Hints := { kp := [(0, [0]), (1, [0]), (2, [0]), (3, [0]), (4, [0])], lkp := [], lth := [] }
def c_q4i : ACode :=
 .seq (.region (some [0]) [i 2 (.mv (.t 0)),
 i 3 (.mv (.t 0)),
 i 4 (.nilck (.t 3)),
 i 5 (.faddr 0 (.t 4)),
 i 6 (.load false 1 (.t 5)),
 i 7 (.mv (.t 0)),
 i 8 (.nilck (.t 7)),
 i 9 (.faddr 0 (.t 8)),
 i 10 (.load false 1 (.t 9)),
 i 11 (.bin .mul (.t 6) (.t 10)),
 i 12 (.bin .shr (.t 11) (.c (.d (.i .u64 31)))),
 i 13 (.nilck (.t 2)),
 i 14 (.faddr 0 (.t 13)),
 ⟨none, .store 1 (.t 14) (.t 12), none⟩] [(4, 8)])
 (.seq (.region (some [0]) [i 15 (.mv (.t 0)),
 i 16 (.nilck (.t 15)),
 i 17 (.faddr 1 (.t 16)),
 i 18 (.load false 1 (.t 17)),
 i 19 (.bin .shl (.t 18) (.c (.d (.i .u64 1)))),
 i 20 (.nilck (.t 15)),
 i 21 (.faddr 1 (.t 20)),
 ⟨none, .store 1 (.t 21) (.t 19), none⟩] [])
 (.seq (.region (some [0]) [i 22 (.mv (.t 0)),
 i 23 (.nilck (.t 22)),
 i 24 (.faddr 0 (.t 23)),
 i 25 (.load false 1 (.t 24)),
 i 26 (.bin .geq (.t 25) (.c (.d (.i .u64 4294967296))))] [])
 (.cond (.t 26) (.seq (.region (some [0]) [i 27 (.mv (.t 0)),
 i 28 (.nilck (.t 27)),
 i 29 (.faddr 0 (.t 28)),
 i 30 (.load false 1 (.t 29)),
 i 31 (.bin .shr (.t 30) (.c (.d (.i .u64 1)))),
 i 32 (.nilck (.t 27)),
 i 33 (.faddr 0 (.t 32)),
 ⟨none, .store 1 (.t 33) (.t 31), none⟩] [])
 (.region (some [0]) [i 34 (.mv (.t 0)),
 i 35 (.nilck (.t 34)),
 i 36 (.faddr 1 (.t 35)),
 i 37 (.load false 1 (.t 36)),
 i 38 (.bin .or (.t 37) (.c (.d (.i .i64 1)))),
 i 39 (.nilck (.t 34)),
 i 40 (.faddr 1 (.t 39)),
 ⟨none, .store 1 (.t 40) (.t 38), none⟩] [])) (.skip))))
def a_q4i : AFn := .code 1 c_q4i []
set_option maxRecDepth 100000 in
theorem k_q4i : compF Tryz.prog h_q4i F_q4i = some a_q4i := by kernel_rfl

def f_q3l : AFn := AFn.frz [false, false, true, true] a_q3l
def f_q3k : AFn := AFn.frz [false, true, true, false] a_q3k
def f_q05 : AFn := AFn.frz [false, false, true, false] a_q05
def f_q07 : AFn := AFn.frz [false, false, true, false] a_q07
noncomputable def C : FuncId → Option AFn
 | 3 => some a_q1o
 | 7 => some a_q1s
 | 8 => some a_q31
 | 9 => some a_q2x
 | 10 => some f_q3l
 | 11 => some a_q0l
 | 12 => some a_q3j
 | 14 => some f_q3k
 | 17 => some a_q0f
 | 27 => some a_q1t
 | 28 => some a_q32
 | 29 => some a_q38
 | 30 => some a_q39
 | 31 => some (.ext (Pk.cloneX 8))
 | 32 => some a_q37
 | 33 => some a_q43
 | 34 => some a_q3m
 | 35 => some a_q03
 | 36 => some f_q05
 | 37 => some a_q09
 | 38 => some a_q3n
 | 39 => some a_q0k
 | 40 => some a_q0v
 | 41 => some a_q17
 | 43 => some a_q15
 | 46 => some (.ext (Pk.cloneD 1))
 | 47 => some a_q0j
 | 54 => some a_q27
 | 57 => some a_q36
 | 58 => some a_q1g
 | 59 => some a_q1d
 | 60 => some a_q4b
 | 61 => some a_q04
 | 62 => some a_q0a
 | 63 => some a_q06
 | 64 => some a_q45
 | 65 => some f_q07
 | 66 => some a_q44
 | 67 => some a_q18
 | 68 => some a_q3c
 | 72 => some a_q16
 | 73 => some a_q2y
 | 74 => some a_q2z
 | 75 => some a_q19
 | 76 => some a_q34
 | 78 => some a_q0y
 | 84 => some a_q3a
 | 85 => some a_q1e
 | 86 => some a_q1f
 | 87 => some a_q1l
 | 88 => some a_q4d
 | 89 => some a_q0h
 | 90 => some a_q0c
 | 91 => some a_q46
 | 92 => some a_q08
 | 93 => some a_q4c
 | 94 => some a_q33
 | 95 => some a_q1b
 | 96 => some a_q1c
 | 97 => some a_q1a
 | 98 => some a_q47
 | 99 => some a_q3e
 | 100 => some a_q3d
 | 102 => some a_q3b
 | 107 => some a_q1k
 | 108 => some a_q1j
 | 109 => some a_q1h
 | 110 => some a_q1i
 | 111 => some (.ext (Pk.cloneX 2))
 | 112 => some a_q0b
 | 113 => some a_q4a
 | 114 => some a_q48
 | 115 => some a_q30
 | 116 => some a_q35
 | 117 => some a_q0w
 | 118 => some a_q3i
 | 121 => some a_q1m
 | 122 => some a_q10
 | 123 => some a_q0x
 | 124 => some a_q3f
 | 125 => some a_q3g
 | 127 => some (.ext Pk.repeatX)
 | 128 => some a_q4f
 | 129 => some a_q4e
 | 130 => some a_q3h
 | 139 => some a_q4h
 | 140 => some a_q01
 | 148 => some a_q4g
 | 149 => some a_q02
 | 152 => some a_q11
 | 153 => some a_q4i
 | _ => none
theorem hC : CRel Tryz.prog C := by
 intro f fn h
 unfold C at h
 split at h
 ·injection h with h; subst h; exact ⟨h_q1o, k_q1o⟩
 ·injection h with h; subst h; exact ⟨h_q1s, k_q1s⟩
 ·injection h with h; subst h; exact ⟨h_q31, k_q31⟩
 ·injection h with h; subst h; exact ⟨h_q2x, k_q2x⟩
 ·injection h with h; subst h; exact ⟨h_q3l, k_q3l⟩
 ·injection h with h; subst h; exact ⟨h_q0l, k_q0l⟩
 ·injection h with h; subst h; exact ⟨h_q3j, k_q3j⟩
 ·injection h with h; subst h; exact ⟨h_q3k, k_q3k⟩
 ·injection h with h; subst h; exact ⟨h_q0f, k_q0f⟩
 ·injection h with h; subst h; exact ⟨h_q1t, k_q1t⟩
 ·injection h with h; subst h; exact ⟨h_q32, k_q32⟩
 ·injection h with h; subst h; exact ⟨h_q38, k_q38⟩
 ·injection h with h; subst h; exact ⟨h_q39, k_q39⟩
 ·injection h with h; subst h; exact Pk.cloneX_ok (by decide) ⟨h_q40, k_q40⟩
 ·injection h with h; subst h; exact ⟨h_q37, k_q37⟩
 ·injection h with h; subst h; exact ⟨h_q43, k_q43⟩
 ·injection h with h; subst h; exact ⟨h_q3m, k_q3m⟩
 ·injection h with h; subst h; exact ⟨h_q03, k_q03⟩
 ·injection h with h; subst h; exact ⟨h_q05, k_q05⟩
 ·injection h with h; subst h; exact ⟨h_q09, k_q09⟩
 ·injection h with h; subst h; exact ⟨h_q3n, k_q3n⟩
 ·injection h with h; subst h; exact ⟨h_q0k, k_q0k⟩
 ·injection h with h; subst h; exact ⟨h_q0v, k_q0v⟩
 ·injection h with h; subst h; exact ⟨h_q17, k_q17⟩
 ·injection h with h; subst h; exact ⟨h_q15, k_q15⟩
 ·injection h with h; subst h; exact Pk.cloneD_ok (by decide) ⟨h_q42, k_q42⟩
 ·injection h with h; subst h; exact ⟨h_q0j, k_q0j⟩
 ·injection h with h; subst h; exact ⟨h_q27, k_q27⟩
 ·injection h with h; subst h; exact ⟨h_q36, k_q36⟩
 ·injection h with h; subst h; exact ⟨h_q1g, k_q1g⟩
 ·injection h with h; subst h; exact ⟨h_q1d, k_q1d⟩
 ·injection h with h; subst h; exact ⟨h_q4b, k_q4b⟩
 ·injection h with h; subst h; exact ⟨h_q04, k_q04⟩
 ·injection h with h; subst h; exact ⟨h_q0a, k_q0a⟩
 ·injection h with h; subst h; exact ⟨h_q06, k_q06⟩
 ·injection h with h; subst h; exact ⟨h_q45, k_q45⟩
 ·injection h with h; subst h; exact ⟨h_q07, k_q07⟩
 ·injection h with h; subst h; exact ⟨h_q44, k_q44⟩
 ·injection h with h; subst h; exact ⟨h_q18, k_q18⟩
 ·injection h with h; subst h; exact ⟨h_q3c, k_q3c⟩
 ·injection h with h; subst h; exact ⟨h_q16, k_q16⟩
 ·injection h with h; subst h; exact ⟨h_q2y, k_q2y⟩
 ·injection h with h; subst h; exact ⟨h_q2z, k_q2z⟩
 ·injection h with h; subst h; exact ⟨h_q19, k_q19⟩
 ·injection h with h; subst h; exact ⟨h_q34, k_q34⟩
 ·injection h with h; subst h; exact ⟨h_q0y, k_q0y⟩
 ·injection h with h; subst h; exact ⟨h_q3a, k_q3a⟩
 ·injection h with h; subst h; exact ⟨h_q1e, k_q1e⟩
 ·injection h with h; subst h; exact ⟨h_q1f, k_q1f⟩
 ·injection h with h; subst h; exact ⟨h_q1l, k_q1l⟩
 ·injection h with h; subst h; exact ⟨h_q4d, k_q4d⟩
 ·injection h with h; subst h; exact ⟨h_q0h, k_q0h⟩
 ·injection h with h; subst h; exact ⟨h_q0c, k_q0c⟩
 ·injection h with h; subst h; exact ⟨h_q46, k_q46⟩
 ·injection h with h; subst h; exact ⟨h_q08, k_q08⟩
 ·injection h with h; subst h; exact ⟨h_q4c, k_q4c⟩
 ·injection h with h; subst h; exact ⟨h_q33, k_q33⟩
 ·injection h with h; subst h; exact ⟨h_q1b, k_q1b⟩
 ·injection h with h; subst h; exact ⟨h_q1c, k_q1c⟩
 ·injection h with h; subst h; exact ⟨h_q1a, k_q1a⟩
 ·injection h with h; subst h; exact ⟨h_q47, k_q47⟩
 ·injection h with h; subst h; exact ⟨h_q3e, k_q3e⟩
 ·injection h with h; subst h; exact ⟨h_q3d, k_q3d⟩
 ·injection h with h; subst h; exact ⟨h_q3b, k_q3b⟩
 ·injection h with h; subst h; exact ⟨h_q1k, k_q1k⟩
 ·injection h with h; subst h; exact ⟨h_q1j, k_q1j⟩
 ·injection h with h; subst h; exact ⟨h_q1h, k_q1h⟩
 ·injection h with h; subst h; exact ⟨h_q1i, k_q1i⟩
 ·injection h with h; subst h; exact Pk.cloneX_ok (by decide) ⟨h_q41, k_q41⟩
 ·injection h with h; subst h; exact ⟨h_q0b, k_q0b⟩
 ·injection h with h; subst h; exact ⟨h_q4a, k_q4a⟩
 ·injection h with h; subst h; exact ⟨h_q48, k_q48⟩
 ·injection h with h; subst h; exact ⟨h_q30, k_q30⟩
 ·injection h with h; subst h; exact ⟨h_q35, k_q35⟩
 ·injection h with h; subst h; exact ⟨h_q0w, k_q0w⟩
 ·injection h with h; subst h; exact ⟨h_q3i, k_q3i⟩
 ·injection h with h; subst h; exact ⟨h_q1m, k_q1m⟩
 ·injection h with h; subst h; exact ⟨h_q10, k_q10⟩
 ·injection h with h; subst h; exact ⟨h_q0x, k_q0x⟩
 ·injection h with h; subst h; exact ⟨h_q3f, k_q3f⟩
 ·injection h with h; subst h; exact ⟨h_q3g, k_q3g⟩
 ·injection h with h; subst h; exact Pk.repeatX_ok ⟨Tryz.f127, _, Tryz.func127, rfl, by kernel_rfl⟩ (fun s c w h1 h2 => Tryz.strings_Repeat s c w h1 h2)
 ·injection h with h; subst h; exact ⟨h_q4f, k_q4f⟩
 ·injection h with h; subst h; exact ⟨h_q4e, k_q4e⟩
 ·injection h with h; subst h; exact ⟨h_q3h, k_q3h⟩
 ·injection h with h; subst h; exact ⟨h_q4h, k_q4h⟩
 ·injection h with h; subst h; exact ⟨h_q01, k_q01⟩
 ·injection h with h; subst h; exact ⟨h_q4g, k_q4g⟩
 ·injection h with h; subst h; exact ⟨h_q02, k_q02⟩
 ·injection h with h; subst h; exact ⟨h_q11, k_q11⟩
 ·injection h with h; subst h; exact ⟨h_q4i, k_q4i⟩
 ·cases h
end Go.Proofs.YthlpognahlnaaaaGreat

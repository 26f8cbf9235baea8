/- The code of the functions that these laws reach,compiled for the pure evaluator (printed by program),each held against the given program by the kernel. -/
import Derived.Test.YthlpognahlnaaaaGreatChecked
import Derived.KernelRfl
import Derived.Test.YthlpognahlnaaaaGreatPkEvd
import Derived.Test.YthlpognahlnaaaaGreatShelf
import Derived.Test.YthlpognahlnaaaaGreatPkClone
set_option linter.all false
namespace Go.Proofs.YthlpognahlnaaaaGreat
open Pv Go
open Pk (i w j k kb)
set_option maxRecDepth 100000

def F_q1q : FuncId:=6
def F_q1s : FuncId:=7
def F_q31 : FuncId:=8
def F_q2x : FuncId:=9
def F_q3l : FuncId:=10
def F_q0l : FuncId:=11
def F_q3j : FuncId:=12
def F_q1r : FuncId:=13
def F_q3k : FuncId:=14
def F_q2i : FuncId:=15
def F_q0f : FuncId:=17
def F_q0g : FuncId:=18
def F_q0i : FuncId:=19
def F_q22 : FuncId:=20
def F_q24 : FuncId:=21
def F_q2p : FuncId:=22
def F_q2r : FuncId:=23
def F_q2u : FuncId:=24
def F_q2q : FuncId:=25
def F_q2t : FuncId:=26
def F_q1t : FuncId:=27
def F_q32 : FuncId:=28
def F_q38 : FuncId:=29
def F_q39 : FuncId:=30
def F_q40 : FuncId:=31
def F_q37 : FuncId:=32
def F_q43 : FuncId:=33
def F_q3m : FuncId:=34
def F_q03 : FuncId:=35
def F_q05 : FuncId:=36
def F_q09 : FuncId:=37
def F_q3n : FuncId:=38
def F_q0k : FuncId:=39
def F_q0v : FuncId:=40
def F_q17 : FuncId:=41
def F_q2g : FuncId:=42
def F_q15 : FuncId:=43
def F_q2f : FuncId:=44
def F_q2k : FuncId:=45
def F_q42 : FuncId:=46
def F_q0j : FuncId:=47
def F_q0u : FuncId:=48
def F_q20 : FuncId:=49
def F_q25 : FuncId:=50
def F_q2v : FuncId:=51
def F_q2s : FuncId:=52
def F_q26 : FuncId:=53
def F_q27 : FuncId:=54
def F_q2w : FuncId:=55
def F_q2d : FuncId:=56
def F_q36 : FuncId:=57
def F_q1g : FuncId:=58
def F_q1d : FuncId:=59
def F_q4b : FuncId:=60
def F_q04 : FuncId:=61
def F_q0a : FuncId:=62
def F_q06 : FuncId:=63
def F_q45 : FuncId:=64
def F_q07 : FuncId:=65
def F_q44 : FuncId:=66
def F_q18 : FuncId:=67
def F_q3c : FuncId:=68
def F_q49 : FuncId:=69
def F_q2n : FuncId:=70
def F_q2l : FuncId:=71
def F_q16 : FuncId:=72
def F_q2y : FuncId:=73
def F_q2z : FuncId:=74
def F_q19 : FuncId:=75
def F_q34 : FuncId:=76
def F_q2c : FuncId:=77
def F_q0y : FuncId:=78
def F_q0z : FuncId:=79
def F_q28 : FuncId:=80
def F_q29 : FuncId:=81
def F_q21 : FuncId:=82
def F_q23 : FuncId:=83
def F_q3a : FuncId:=84
def F_q1e : FuncId:=85
def F_q1f : FuncId:=86
def F_q1l : FuncId:=87
def F_q4d : FuncId:=88
def F_q0h : FuncId:=89
def F_q0c : FuncId:=90
def F_q46 : FuncId:=91
def F_q08 : FuncId:=92
def F_q4c : FuncId:=93
def F_q33 : FuncId:=94
def F_q1b : FuncId:=95
def F_q1c : FuncId:=96
def F_q1a : FuncId:=97
def F_q47 : FuncId:=98
def F_q3e : FuncId:=99
def F_q3d : FuncId:=100
def F_q2h : FuncId:=101
def F_q3b : FuncId:=102
def F_q2j : FuncId:=103
def F_q2m : FuncId:=104
def F_q1z : FuncId:=105
def F_q2b : FuncId:=106
def F_q1k : FuncId:=107
def F_q1j : FuncId:=108
def F_q1h : FuncId:=109
def F_q1i : FuncId:=110
def F_q41 : FuncId:=111
def F_q0b : FuncId:=112
def F_q4a : FuncId:=113
def F_q48 : FuncId:=114
def F_q30 : FuncId:=115
def F_q35 : FuncId:=116
def F_q0w : FuncId:=117
def F_q3i : FuncId:=118
def F_q2o : FuncId:=119
def F_q2a : FuncId:=120
def F_q1m : FuncId:=121
def F_q10 : FuncId:=122
def F_q0x : FuncId:=123
def F_q3f : FuncId:=124
def F_q3g : FuncId:=125
def F_q1w : FuncId:=126
def F_q4r : FuncId:=127
def F_q4f : FuncId:=128
def F_q4e : FuncId:=129
def F_q3h : FuncId:=130
def F_q1y : FuncId:=131
def F_q1u : FuncId:=132
def F_q4h : FuncId:=139
def F_q01 : FuncId:=140
def F_q1x : FuncId:=141
def F_q1v : FuncId:=142
def F_q4g : FuncId:=148
def F_q02 : FuncId:=149
def F_q11 : FuncId:=152
def F_q4i : FuncId:=153
def tab0 : ByteArray:=⟨#[0,1,2,2,3,3,3,3,4,4,4,4,4,4,4,4,5,5,5,5,5,5,5,5,5,5,5,5,5,5,5,5,6,6,6,6,6,6,6,6,6,6,6,6,6,6,6,6,6,6,6,6,6,6,6,6,6,6,6,6,6,6,6,6,7,7,7,7,7,7,7,7,7,7,7,7,7,7,7,7,7,7,7,7,7,7,7,7,7,7,7,7,7,7,7,7,7,7,7,7,7,7,7,7,7,7,7,7,7,7,7,7,7,7,7,7,7,7,7,7,7,7,7,7,7,7,7,7,8,8,8,8,8,8,8,8,8,8,8,8,8,8,8,8,8,8,8,8,8,8,8,8,8,8,8,8,8,8,8,8,8,8,8,8,8,8,8,8,8,8,8,8,8,8,8,8,8,8,8,8,8,8,8,8,8,8,8,8,8,8,8,8,8,8,8,8,8,8,8,8,8,8,8,8,8,8,8,8,8,8,8,8,8,8,8,8,8,8,8,8,8,8,8,8,8,8,8,8,8,8,8,8,8,8,8,8,8,8,8,8,8,8,8,8,8,8,8,8,8,8,8,8,8,8,8,8]⟩
def h_q1q : Hints:={ kp:=[(0,[0,1,2,3,4]),(1,[0,1,3,4,7]),(2,[]),(3,[0,1,3,4,7]),(4,[]),(5,[0,1,3,4,7]),(6,[0,1,3,4,7,11,12]),(7,[0,1,3,4,7,11,12,13]),(9,[0,1,3,4,7,11,12,13]),(10,[0,1,3,4,7,11,12,13]),(8,[0,1,3,4,7,11,12,13]),(11,[1,3,4,7,11,12]),(12,[1,3,4,7,11,12,14]),(13,[1,3,4,7,11,12,14,15]),(14,[1,3,4,7,11,12,14,15,16]),(16,[1,3,4,7,11,12,14,15,16]),(17,[1,3,4,7,11,12,14,15,16]),(15,[1,3,4,7,11,12,14,15,16]),(18,[1,4,11,12,14,15]),(19,[1,4,12,14,15,17]),(20,[1,4,12,14,15,17,18]),(21,[]),(22,[4,14,15,17,18]),(23,[4,14,15,17,18]),(24,[4,15,17,18,19,20]),(25,[17,19,20]),(26,[4,15,17,18,19,20]),(27,[]),(28,[4,15,17,18,19]),(29,[4,15,17,18,19,21]),(30,[15,17,18,19,21]),(31,[15,17,18,19,21,22]),(32,[15,17,18,19,21,22,23]),(34,[15,17,18,19,21,22,23]),(35,[15,17,18,19,21,22,23]),(36,[]),(33,[15,17,18,19,21,22,23]),(37,[17,22])],lkp:=[(7,[0,1,3,4,7,11,12,13]),(14,[1,3,4,7,11,12,14,15,16]),(32,[15,17,18,19,21,22,23])],lth:=[(14,[14,1,15,49])] }
def zql : Option (List Nat):=(some [0,1,3,4,7,11,12,13])
def zqg : ACode :=
 .seq (.seq (.region (some [0,1,3,4,7,11,12,13]) [w 46 13,
 w 47 0,
 i 48 (.len false (.t 47)),
 i 49 (.bin .lss (.t 46) (.t 48))] [])
 (.cond (.t 49) (.skip) (.exit 0)))
 (.seq (.block 1 (.seq (.region (some [0,1,3,4,7,11,12,13]) [w 52 11,
 w 53 11,
 i 54 (.call (.f F_q0i) [.t 53]),
 i 55 (.bin .add (.t 54) (.c (.d (.i .u32 1)))),
 w 56 0,
 w 57 13,
 i 58 (.iaddrS 3 (.t 56) (.t 57)),
 i 59 (.load true 3 (.t 58)),
 i 60 (.call (.f F_q0g) [.t 52,.t 55,.t 59])] [(2,7)])
 (.region (some [0,1,3,4,7,11,12,13]) [w 61 12,
 w 62 12,
 i 63 (.call (.f F_q24) [.t 62]),
 i 64 (.bin .add (.t 63) (.c (.d (.i .u32 1)))),
 w 65 0,
 w 66 13,
 i 67 (.iaddrS 3 (.t 65) (.t 66)),
 i 68 (.load true 3 (.t 67)),
 i 69 (.call (.f F_q22) [.t 61,.t 64,.t 68])] [(2,7)])))
 (.region (some [0,1,3,4,7,11,12,13]) [w 50 13,
 i 51 (.bin .add (.t 50) (k 1)),
 w 13 51] []))
def zk3 : Option (List Nat):=(some [1,3,4,7,11,12,14,15,16])
def zlr : ACode :=
 .seq (.seq (.region (some [1,3,4,7,11,12,14,15,16]) [w 70 16,
 i 71 (.bin .lss (.t 70) (k 5))] [])
 (.cond (.t 71) (.skip) (.exit 2)))
 (.seq (.block 3 (.seq (.region (some [1,3,4,7,11,12,14,15,16]) [w 74 16,
 i 75 (.iaddrA 5 1 (.t 7) (.t 74)),
 i 76 (.load false 1 (.t 75))] [])
 (.cond (.t 76) (.region (some [1,3,4,7,11,12,14,15,16]) [w 77 14,
 w 78 16,
 i 79 (.bsl 1 [.t 78]),
 i 80 (.app 1 (.t 77) (.t 79)),
 w 81 15,
 w 82 3,
 w 83 16,
 i 84 (.iaddrS 49 (.t 82) (.t 83)),
 i 85 (.load true 49 (.t 84)),
 i 86 (.bsl 49 [.t 85]),
 i 87 (.app 49 (.t 81) (.t 86)),
 w 14 80,
 w 15 87] [(2,8),(3,8),(2,9),(3,9)]) (.skip))))
 (.region (some [1,3,4,7,11,12,14,15,16]) [w 72 16,
 i 73 (.bin .add (.t 72) (k 1)),
 w 16 73] []))
def zpi : Option (List Nat):=(some [15,17,18,19,21,22,23])
def zo2 : ACode :=
 .seq (.seq (.region (some [15,17,18,19,21,22,23]) [w 163 23,
 w 164 19,
 i 165 (.len false (.t 164)),
 i 166 (.bin .lss (.t 163) (.t 165))] [])
 (.cond (.t 166) (.skip) (.exit 4)))
 (.seq (.block 5 (.seq (.region (some [15,17,18,19,21,22,23]) [w 169 22,
 w 170 15,
 w 171 23,
 i 172 (.iaddrS 49 (.t 170) (.t 171)),
 i 173 (.load true 49 (.t 172)),
 w 174 15,
 w 175 18,
 i 176 (.iaddrS 49 (.t 174) (.t 175)),
 i 177 (.load true 49 (.t 176)),
 i 178 (.call (.f F_q2t) [.t 173,.t 177]),
 i 179 (.call (.f F_q2q) [.t 178]),
 i 180 (.bin .add (.t 169) (.t 179)),
 w 22 180] [(4,8)])
 (.seq (.region (some [15,17,18,19,21,22,23]) [w 181 19,
 w 182 23,
 i 183 (.iaddrS 49 (.t 181) (.t 182)),
 i 184 (.load true 49 (.t 183)),
 i 185 (.load true 49 (.t 21)),
 i 186 (.call (.f F_q2i) [.t 184,.t 185]),
 i 187 (.un .not (.t 186))] [(3,4)])
 (.cond (.t 187) (.seq (.region (some []) [i 10 (.mv (kb false))] [])
 (.ret)) (.skip)))))
 (.region (some [15,17,18,19,21,22,23]) [w 167 23,
 i 168 (.bin .add (.t 167) (k 1)),
 w 23 168] []))
def c_q1q : ACode :=
 .seq (.region (some [0,1,2,3,4]) [i 7 (.box (.t 2)),
 i 10 (.mv (kb false))] [])
 (.seq (.seq (.region (some [0,1,3,4,7]) [i 24 (.call (.f F_q1s) []),
 i 25 (.un .not (.t 24))] [])
 (.cond (.t 25) (.seq (.region (some []) [i 10 (.mv (kb false))] [])
 (.ret)) (.skip)))
 (.seq (.seq (.region (some [0,1,3,4,7]) [w 26 0,
 i 27 (.len false (.t 26)),
 i 28 (.bin .gtr (.t 27) (k 20)),
 w 29 28,
 j 30 29 false (.mv (.t 3)),
 j 31 29 false (.call (.f F_q1r) [.t 30]),
 j 32 29 false (.un .not (.t 31)),
 i 33 (.pick (.t 29) (kb true) (.t 32)),
 w 34 33,
 j 35 34 false (.mv (.t 3)),
 j 36 34 false (.len false (.t 35)),
 j 37 34 false (.bin .lss (.t 36) (k 5)),
 i 38 (.pick (.t 34) (kb true) (.t 37)),
 w 39 38,
 j 40 39 false (.mv (.t 1)),
 j 41 39 false (.bin .geq (.t 40) (.c (.d (.i .u8 4)))),
 i 42 (.pick (.t 39) (kb true) (.t 41))] [])
 (.cond (.t 42) (.seq (.region (some []) [i 10 (.mv (kb true))] [])
 (.ret)) (.skip)))
 (.seq (.region (some [0,1,3,4,7]) [i 43 (.call (.f F_q0l) []),
 i 44 (.build [.nilS] []),
 i 45 (.box (.t 44)),
 w 11 43,
 w 12 45] [])
 (.seq (.seq (.region (some [0,1,3,4,7,11,12]) [i 13 (.mv (k 0))] [])
 (.block 0 (.loop zql [] zqg)))
 (.seq (.region (some [1,3,4,7,11,12]) [i 14 (.mv (.c (.nilS)))] [])
 (.seq (.region (some [1,3,4,7,11,12,14]) [i 15 (.mv (.c (.nilS)))] [])
 (.seq (.seq (.region (some [1,3,4,7,11,12,14,15]) [i 16 (.mv (k 0))] [])
 (.block 2 (.loop zk3 [14,1,15,49] zlr)))
 (.seq (.region (some [1,4,11,12,14,15]) [w 88 11,
 w 89 1,
 w 90 14,
 w 91 15,
 i 92 (.call (.f F_q3l) [.t 88,.t 89,.t 90,.t 91]),
 i 17 (.box (.c (.agg Pk.Plan.zeroA))),
 ⟨none,.store 3 (.t 17) (.t 92),none⟩] [])
 (.seq (.region (some [1,4,12,14,15,17]) [w 93 14,
 w 94 15,
 i 95 (.call (.f F_q2p) [.t 93,.t 94]),
 w 18 95] [])
 (.seq (.seq (.region (some [1,4,12,14,15,17,18]) [i 96 (.faddr 0 (.t 17)),
 i 97 (.load false 1 (.t 96)),
 w 98 18,
 i 99 (.bin .neq (.t 97) (.t 98)),
 w 100 99,
 j 101 100 false (.faddr 1 (.t 17)),
 j 102 100 false (.load false 1 (.t 101)),
 j 103 100 false (.mv (.t 12)),
 j 104 100 false (.mv (.t 1)),
 j 105 100 false (.mv (.t 14)),
 j 106 100 false (.mv (.t 15)),
 j 107 100 false (.call (.f F_q2u) [.t 106]),
 j 108 100 false (.call (.f F_q2r) [.t 103,.t 104,.t 105,.t 107]),
 j 109 100 false (.un .not (.t 108)),
 j 110 100 false (.eq true (.sb) (.t 102) (.t 109)),
 i 111 (.pick (.t 100) (kb true) (.t 110))] [(6,11),(6,12)])
 (.cond (.t 111) (.seq (.region (some []) [i 10 (.mv (kb false))] [])
 (.ret)) (.skip)))
 (.seq (.region (some [4,14,15,17,18]) [w 112 4,
 i 113 (.bin .rem (.t 112) (.c (.d (.i .u32 60)))),
 i 114 (.bin .add (.t 113) (.c (.d (.i .u32 1)))),
 w 4 114] [])
 (.seq (.region (some [4,14,15,17,18]) [i 116 (.load true 3 (.t 17)),
 w 117 14,
 w 118 15,
 w 119 4,
 i 120 (.call (.f F_q3k) [.t 116,.t 117,.t 118,.t 119]),
 w 115 120,
 i 121 (.ext (.t 115) 0),
 i 122 (.ext (.t 115) 1),
 w 19 121,
 w 20 122] [])
 (.seq (.seq (.region (some [4,15,17,18,19,20]) [i 123 (.faddr 1 (.t 17)),
 i 124 (.load false 1 (.t 123)),
 w 125 124,
 j 126 125 false (.mv (.t 18)),
 j 127 125 false (.bin .lss (.t 126) (k 0)),
 i 128 (.pick (.t 125) (kb true) (.t 127))] [])
 (.cond (.t 128) (.seq (.region (some [17,19,20]) [i 129 (.faddr 1 (.t 17)),
 i 130 (.load false 1 (.t 129)),
 w 131 130,
 j 132 131 true (.mv (.t 20)),
 j 133 131 true (.bin .eql (.t 132) (k 80)),
 i 134 (.pick (.t 131) (.t 133) (kb false)),
 w 135 134,
 j 136 135 true (.mv (.t 19)),
 j 137 135 true (.len false (.t 136)),
 j 138 135 true (.bin .eql (.t 137) (k 0)),
 i 139 (.pick (.t 135) (.t 138) (kb false)),
 w 10 139] [])
 (.ret)) (.skip)))
 (.seq (.seq (.region (some [4,15,17,18,19,20]) [w 140 20,
 i 141 (.bin .neq (.t 140) (k 0)),
 w 142 141,
 j 143 142 false (.mv (.t 19)),
 j 144 142 false (.len false (.t 143)),
 j 145 142 false (.mv (.t 15)),
 j 146 142 false (.len false (.t 145)),
 j 147 142 false (.bin .neq (.t 144) (.t 146)),
 i 148 (.pick (.t 142) (kb true) (.t 147)),
 w 149 148,
 j 150 149 false (.faddr 2 (.t 17)),
 j 151 149 false (.load false 1 (.t 150)),
 j 152 149 false (.len false (.t 151)),
 j 153 149 false (.mv (.t 15)),
 j 154 149 false (.len false (.t 153)),
 j 155 149 false (.bin .neq (.t 152) (.t 154)),
 i 156 (.pick (.t 149) (kb true) (.t 155))] [])
 (.cond (.t 156) (.seq (.region (some []) [i 10 (.mv (kb false))] [])
 (.ret)) (.skip)))
 (.seq (.region (some [4,15,17,18,19]) [w 157 15,
 w 158 18,
 i 159 (.iaddrS 49 (.t 157) (.t 158)),
 i 160 (.load true 49 (.t 159)),
 i 21 (.box (.c (.agg Pk.State.zeroA))),
 ⟨none,.store 49 (.t 21) (.t 160),none⟩] [])
 (.seq (.region (some [4,15,17,18,19,21]) [w 161 4,
 i 162 (.faddr 0 (.t 21)),
 ⟨none,.store 1 (.t 162) (.t 161),none⟩] [])
 (.seq (.region (some [15,17,18,19,21]) [i 22 (.mv (k 0))] [])
 (.seq (.seq (.region (some [15,17,18,19,21,22]) [i 23 (.mv (k 0))] [])
 (.block 4 (.loop zpi [] zo2)))
 (.seq (.region (some [17,22]) [i 188 (.load true 3 (.t 17)),
 i 189 (.call (.f F_q3j) [.t 188]),
 w 190 22,
 i 191 (.bin .eql (.t 189) (.t 190)),
 w 10 191] [])
 (.ret))))))))))))))))))))
def a_q1q : AFn:=.code 5 c_q1q [.tmp 10]
theorem k_q1q : compF Tryz.prog h_q1q F_q1q = some a_q1q:=by kernel_rfl

def h_q1s : Hints:={ kp:=[(0,[]),(1,[]),(2,[1]),(3,[]),(4,[1]),(5,[1,2]),(6,[1,2,3]),(7,[1,3,4]),(8,[]),(9,[1,3,4]),(10,[1,3,4,5]),(11,[1,3,4,5,6,7]),(12,[5,6,7,9])],lkp:=[],lth:=[] }
def c_q1s : ACode :=
 .seq (.region (some []) [i 0 (.mv (kb false))] [])
 (.seq (.region (some []) [i 10 (.call (.f F_q0l) []),
 w 1 10] [])
 (.seq (.seq (.region (some [1]) [w 11 1,
 i 12 (.pnil false (.t 11))] [])
 (.cond (.t 12) (.seq (.region (some []) [i 0 (.mv (kb false))] [])
 (.ret)) (.skip)))
 (.seq (.region (some [1]) [w 13 1,
 i 14 (.call (.f F_q0f) [.t 13,.c (.d (.i .u8 0))]),
 w 2 14] [])
 (.seq (.region (some [1,2]) [i 15 (.build Pk.State.zeroA []),
 i 16 (.build Pk.State.zeroA []),
 ⟨some 17,.build [.d (.i .u8 0),.d (.i .u32 0),.d (.i .u8 0),.d (.i .u8 0),.d (.i .u8 0),.d (.s ⟨#[]⟩)] [(0,1,.c (.d (.i .u8 1))),(1,1,.c (.d (.i .u32 1))),(2,1,.c (.d (.i .u8 1)))],none⟩,
 ⟨some 18,.build [.d (.i .u32 0),.d (.i .u32 0),.d (.i .u8 0),.d (.i .u32 0),.d (.i .u8 0),.d (.i .u8 0),.d (.i .u8 0),.d (.s ⟨#[]⟩)] [(0,1,.c (.d (.i .u32 1))),(1,1,.c (.d (.i .u32 1))),(2,6,.t 17)],none⟩,
 i 19 (.bsl 8 [.t 18]),
 i 20 (.build Pk.State.zeroA [(48,1,.t 19)]),
 i 21 (.bsl 49 [.t 15,.t 16,.t 20]),
 w 3 21] [])
 (.seq (.region (some [1,2,3]) [w 22 2,
 i 23 (.call (.f F_q1t) [.t 22]),
 w 4 23] [])
 (.seq (.seq (.region (some [1,3,4]) [w 24 4,
 i 25 (.len false (.t 24)),
 i 26 (.bin .neq (.t 25) (k 3))] [])
 (.cond (.t 26) (.seq (.region (some []) [i 0 (.mv (kb false))] [])
 (.ret)) (.skip)))
 (.seq (.region (some [1,3,4]) [w 27 1,
 w 28 4,
 w 29 3,
 i 30 (.call (.f F_q3l) [.t 27,.c (.d (.i .u8 0)),.t 28,.t 29]),
 i 5 (.box (.c (.agg Pk.Plan.zeroA))),
 ⟨none,.store 3 (.t 5) (.t 30),none⟩] [])
 (.seq (.region (some [1,3,4,5]) [i 32 (.load true 3 (.t 5)),
 w 33 4,
 w 34 3,
 i 35 (.call (.f F_q3k) [.t 32,.t 33,.t 34,.c (.d (.i .u32 1))]),
 w 31 35,
 i 36 (.ext (.t 31) 0),
 i 37 (.ext (.t 31) 1),
 w 6 36,
 w 7 37] [])
 (.seq (.region (some [1,3,4,5,6,7]) [w 39 1,
 w 40 4,
 i 41 (.slice 1 (.t 40) none (some (k 1)) none),
 w 42 3,
 i 43 (.slice 49 (.t 42) none (some (k 1)) none),
 i 44 (.call (.f F_q3l) [.t 39,.c (.d (.i .u8 0)),.t 41,.t 43]),
 w 45 4,
 i 46 (.slice 1 (.t 45) none (some (k 1)) none),
 w 47 3,
 i 48 (.slice 49 (.t 47) none (some (k 1)) none),
 i 49 (.call (.f F_q3k) [.t 44,.t 46,.t 48,.c (.d (.i .u32 1))]),
 w 38 49,
 i 50 (.ext (.t 38) 0),
 i 51 (.ext (.t 38) 1),
 w 8 50,
 w 9 51] [])
 (.seq (.region (some [5,6,7,9]) [i 52 (.faddr 1 (.t 5)),
 i 53 (.load false 1 (.t 52)),
 i 54 (.un .not (.t 53)),
 w 55 54,
 j 56 55 true (.faddr 0 (.t 5)),
 j 57 55 true (.load false 1 (.t 56)),
 j 58 55 true (.bin .eql (.t 57) (k 2)),
 i 59 (.pick (.t 55) (.t 58) (kb false)),
 w 60 59,
 j 61 60 true (.load true 3 (.t 5)),
 j 62 60 true (.call (.f F_q3j) [.t 61]),
 j 63 60 true (.bin .eql (.t 62) (k 2)),
 i 64 (.pick (.t 60) (.t 63) (kb false)),
 w 65 64,
 j 66 65 true (.mv (.t 7)),
 j 67 65 true (.bin .eql (.t 66) (k 0)),
 i 68 (.pick (.t 65) (.t 67) (kb false)),
 w 69 68,
 j 70 69 true (.mv (.t 6)),
 j 71 69 true (.len false (.t 70)),
 j 72 69 true (.bin .eql (.t 71) (k 3)),
 i 73 (.pick (.t 69) (.t 72) (kb false)),
 w 74 73,
 j 75 74 true (.mv (.t 6)),
 j 76 74 true (.iaddrS 49 (.t 75) (k 0)),
 j 77 74 true (.faddr 48 (.t 76)),
 j 78 74 true (.load false 1 (.t 77)),
 j 79 74 true (.len false (.t 78)),
 j 80 74 true (.bin .eql (.t 79) (k 1)),
 i 81 (.pick (.t 74) (.t 80) (kb false)),
 w 82 81,
 j 83 82 true (.mv (.t 6)),
 j 84 82 true (.iaddrS 49 (.t 83) (k 1)),
 j 85 82 true (.faddr 0 (.t 84)),
 j 86 82 true (.load false 1 (.t 85)),
 j 87 82 true (.bin .eql (.t 86) (.c (.d (.i .u32 1)))),
 i 88 (.pick (.t 82) (.t 87) (kb false)),
 w 89 88,
 j 90 89 true (.mv (.t 9)),
 j 91 89 true (.bin .eql (.t 90) (k 80)),
 i 92 (.pick (.t 89) (.t 91) (kb false)),
 w 0 92] [])
 (.ret)))))))))))
def a_q1s : AFn:=.code 0 c_q1s [.tmp 0]
theorem k_q1s : compF Tryz.prog h_q1s F_q1s = some a_q1s:=by kernel_rfl

def h_q31 : Hints:={ kp:=[(0,[0]),(1,[1]),(2,[]),(3,[1]),(4,[4])],lkp:=[],lth:=[] }
def c_q31 : ACode :=
 .seq (.region (some [0]) [i 1 (.box (.t 0)),
 i 2 (.mv (.c (.d (.i .u32 0)))),
 i 3 (.mv (.c (.d (.i .u32 0))))] [])
 (.seq (.seq (.region (some [1]) [i 5 (.load true 49 (.t 1)),
 i 6 (.call (.f F_q32) [.t 5]),
 i 7 (.un .not (.t 6))] [])
 (.cond (.t 7) (.seq (.region (some []) [i 2 (.mv (.c (.d (.i .u32 0)))),
 i 3 (.mv (.c (.d (.i .u32 0))))] [])
 (.ret)) (.skip)))
 (.seq (.region (some [1]) [i 8 (.load true 49 (.t 1)),
 i 9 (.call (.f F_q38) [.t 8]),
 ⟨some 4,.box (.c (.d (.agg [.i .u32 0,.i .u32 0,.i .u8 0,.i .u32 0,.i .u8 0,.i .u8 0,.i .u8 0,.s ⟨#[]⟩]))),none⟩,
 ⟨none,.store 8 (.t 4) (.t 9),none⟩] [])
 (.seq (.region (some [4]) [i 10 (.faddr 0 (.t 4)),
 i 11 (.load false 1 (.t 10)),
 i 12 (.faddr 1 (.t 4)),
 i 13 (.load false 1 (.t 12)),
 w 2 11,
 w 3 13] [(1,3)])
 (.ret))))
def a_q31 : AFn:=.code 1 c_q31 [.tmp 2,.tmp 3]
theorem k_q31 : compF Tryz.prog h_q31 F_q31 = some a_q31:=by kernel_rfl

def h_q2x : Hints:={ kp:=[(0,[0,1]),(1,[2,3,4]),(2,[4]),(3,[2,3,4]),(4,[2,4])],lkp:=[],lth:=[] }
def c_q2x : ACode :=
 .seq (.region (some [0,1]) [i 2 (.box (.t 0)),
 i 3 (.box (.t 1)),
 i 4 (.box (.c (.agg Pk.State.zeroA))),
 i 5 (.mv (k 0))] [])
 (.seq (.seq (.region (some [2,3,4]) [i 6 (.load true 49 (.t 2)),
 i 7 (.call (.f F_q32) [.t 6]),
 i 8 (.un .not (.t 7)),
 w 9 8,
 j 10 9 false (.load true 49 (.t 2)),
 j 11 9 false (.call (.f F_q38) [.t 10]),
 j 12 9 false (.load true 8 (.t 3)),
 j 13 9 false (.call (.f F_q39) [.t 11,.t 12]),
 j 14 9 false (.un .not (.t 13)),
 i 15 (.pick (.t 9) (kb true) (.t 14))] [(4,6),(5,6)])
 (.cond (.t 15) (.seq (.region (some [4]) [i 16 (.build Pk.State.zeroA []),
 ⟨none,.store 49 (.t 4) (.t 16),none⟩,
 i 5 (.mv (k 10))] [])
 (.ret)) (.skip)))
 (.seq (.region (some [2,3,4]) [i 17 (.faddr 48 (.t 2)),
 i 18 (.load false 1 (.t 17)),
 i 19 (.call (.f F_q40) [.t 18]),
 i 20 (.load true 8 (.t 3)),
 i 21 (.bsl 8 [.t 20]),
 i 22 (.app 8 (.t 19) (.t 21)),
 i 23 (.faddr 48 (.t 2)),
 ⟨none,.store 1 (.t 23) (.t 22),none⟩] [(1,3),(2,3),(1,4),(2,4)])
 (.seq (.region (some [2,4]) [i 24 (.load true 49 (.t 2)),
 i 25 (.faddr 48 (.t 2)),
 i 26 (.load false 1 (.t 25)),
 i 27 (.len false (.t 26)),
 i 28 (.bin .sub (.t 27) (k 6)),
 i 29 (.mm true [.t 28,.c (.d (.i .i64 0))]),
 i 30 (.call (.f F_q37) [.t 24,.t 29]),
 ⟨none,.store 49 (.t 4) (.t 30),none⟩,
 i 5 (.mv (k 0))] [])
 (.ret))))
def a_q2x : AFn:=.code 2 c_q2x [.cell true 49 4,.tmp 5]
theorem k_q2x : compF Tryz.prog h_q2x F_q2x = some a_q2x:=by kernel_rfl

def h_q3l : Hints:={ dat:=true,kp:=[(0,[0,1,2,3]),(1,[0,1,2,3,8]),(2,[0,1,2,3,8,9]),(3,[8,9]),(4,[0,1,2,3,8,9]),(5,[0,1,2,3,8,9,10]),(7,[0,1,2,3,8,9,10]),(8,[8,9]),(6,[0,1,2,3,8,9,10]),(9,[0,1,2,3,8]),(10,[0,1,2,3,8,11]),(11,[3,8,11,12]),(12,[8,12]),(13,[3,8,11,12]),(14,[3,8,12,13]),(15,[8,12,13,65,66,67]),(16,[8,12,13,65,66,67]),(17,[8,12,13,15,65,66,67]),(18,[8,12,13,65,66,67]),(19,[8,12])],lkp:=[(5,[0,1,2,3,8,9,10]),(15,[8,12,13,65,66,67])],lth:=[] }
def zqn : Option (List Nat):=(some [0,1,2,3,8,9,10])
def zq6 : ACode :=
 .seq (.seq (.region (some [0,1,2,3,8,9,10]) [w 27 10,
 w 28 2,
 i 29 (.len false (.t 28)),
 i 30 (.bin .lss (.t 27) (.t 29))] [])
 (.cond (.t 30) (.skip) (.exit 0)))
 (.seq (.block 1 (.seq (.region (some [0,1,2,3,8,9,10]) [w 33 2,
 w 34 10,
 i 35 (.bin .sub (.t 34) (k 1)),
 i 36 (.iaddrS 1 (.t 33) (.t 35)),
 i 37 (.load false 1 (.t 36)),
 w 38 2,
 w 39 10,
 i 40 (.iaddrS 1 (.t 38) (.t 39)),
 i 41 (.load false 1 (.t 40)),
 i 42 (.bin .geq (.t 37) (.t 41))] [(4,8)])
 (.cond (.t 42) (.seq (.region (some [8,9]) [i 43 (.load true 3 (.t 9)),
 ⟨none,.store 3 (.t 8) (.t 43),none⟩] [])
 (.ret)) (.skip))))
 (.region (some [0,1,2,3,8,9,10]) [w 31 10,
 i 32 (.bin .add (.t 31) (k 1)),
 w 10 32] []))
def zlu : Option (List Nat):=(some [8,12,13,65,66,67])
def zl6 : ACode :=
 .seq (.region (some [8,12,13,65,66,67]) [i 68 (.bin .lss (.t 67) (.t 66))] [])
 (.seq (.cond (.t 68) (.skip) (.exit 2))
 (.seq (.block 3 (.seq (.region (some [8,12,13,65,66,67]) [i 69 (.iaddrS 49 (.t 65) (.t 67)),
 i 70 (.load true 49 (.t 69)),
 i 15 (.box (.c (.agg Pk.State.zeroA))),
 ⟨none,.store 49 (.t 15) (.t 70),none⟩] [])
 (.region (some [8,12,13,15,65,66,67]) [i 71 (.faddr 2 (.t 12)),
 i 72 (.load false 1 (.t 71)),
 w 73 13,
 i 74 (.load true 49 (.t 15)),
 i 75 (.call (.t 73) [.t 74]),
 i 76 (.bsl 52 [.t 75]),
 i 77 (.app 52 (.t 72) (.t 76)),
 i 78 (.faddr 2 (.t 12)),
 ⟨none,.store 1 (.t 78) (.t 77),none⟩] [(1,3),(1,4),(1,5)])))
 (.region (some [8,12,13,65,66,67]) [i 79 (.bin .add (.t 67) (k 1)),
 w 67 79] [])))
def c_q3l : ACode :=
 .seq (.region (some [0,1,2,3]) [i 8 (.box (.c (.agg Pk.Plan.zeroA)))] [])
 (.seq (.region (some [0,1,2,3,8]) [i 16 (.build Pk.Plan.zeroA [(0,1,.c (.d (.i .i64 (-1)))),(1,1,.c (.d (.b true)))]),
 i 9 (.box (.c (.agg Pk.Plan.zeroA))),
 ⟨none,.store 3 (.t 9) (.t 16),none⟩] [])
 (.seq (.seq (.region (some [0,1,2,3,8,9]) [w 17 2,
 i 18 (.len false (.t 17)),
 w 19 3,
 i 20 (.len false (.t 19)),
 i 21 (.bin .neq (.t 18) (.t 20)),
 w 22 21,
 j 23 22 false (.mv (.t 3)),
 j 24 22 false (.call (.f F_q43) [.t 23,.f F_q3m]),
 i 25 (.pick (.t 22) (kb true) (.t 24))] [])
 (.cond (.t 25) (.seq (.region (some [8,9]) [i 26 (.load true 3 (.t 9)),
 ⟨none,.store 3 (.t 8) (.t 26),none⟩] [])
 (.ret)) (.skip)))
 (.seq (.seq (.region (some [0,1,2,3,8,9]) [i 10 (.mv (k 1))] [])
 (.block 0 (.loop zqn [] zq6)))
 (.seq (.region (some [0,1,2,3,8]) [w 44 2,
 w 45 3,
 i 46 (.call (.f F_q03) [.t 44,.t 45]),
 w 11 46] [])
 (.seq (.region (some [0,1,2,3,8,11]) [w 47 11,
 w 48 0,
 w 49 1,
 w 50 2,
 w 51 3,
 i 52 (.call (.f F_q09) [.t 51]),
 i 53 (.call (.f F_q05) [.t 48,.t 49,.t 50,.t 52]),
 i 54 (.un .not (.t 53)),
 i 55 (.build Pk.Plan.zeroA [(0,1,.t 47),(1,1,.t 54)]),
 i 12 (.box (.c (.agg Pk.Plan.zeroA))),
 ⟨none,.store 3 (.t 12) (.t 55),none⟩] [])
 (.seq (.seq (.region (some [3,8,11,12]) [w 56 11,
 i 57 (.bin .lss (.t 56) (k 0))] [])
 (.cond (.t 57) (.seq (.region (some [8,12]) [i 58 (.load true 3 (.t 12)),
 ⟨none,.store 3 (.t 8) (.t 58),none⟩] [])
 (.ret)) (.skip)))
 (.seq (.region (some [3,8,11,12]) [w 59 3,
 w 60 11,
 i 61 (.iaddrS 49 (.t 59) (.t 60)),
 i 62 (.load true 49 (.t 61)),
 i 63 (.build Pk.State.zeroA [(0,49,.t 62)]),
 i 64 (.mkfn F_q3n [.t 63] []),
 w 13 64] [])
 (.seq (.seq (.region (some [3,8,12,13]) [w 65 3,
 i 66 (.len false (.t 65)),
 i 67 (.mv (k 0))] [])
 (.block 2 (.loop zlu [] zl6)))
 (.seq (.region (some [8,12]) [i 80 (.load true 3 (.t 12)),
 ⟨none,.store 3 (.t 8) (.t 80),none⟩] [])
 (.ret))))))))))
def a_q3l : AFn:=.code 4 c_q3l [.dat (.cell true 3 8)]
theorem k_q3l : compF Tryz.prog h_q3l F_q3l = some a_q3l:=by kernel_rfl

def h_q0l : Hints:={ kp:=[(0,[]),(1,[]),(2,[1]),(3,[1])],lkp:=[],lth:=[] }
def c_q0l : ACode :=
 .seq (.region (some []) [i 0 (.mv (.c (.one)))] [])
 (.seq (.region (some []) [i 2 (.mkmap .u32),
 i 3 (.mkmap .u32),
 i 4 (.build [.one,.one,.d (.i .u32 0),.nilS,.nilS,.nilS,.nilS] [(0,1,.t 2),(1,1,.t 3)]),
 i 5 (.box (.t 4)),
 w 1 5] [])
 (.seq (.region (some [1]) [w 6 1,
 i 7 (.call (.f F_q0v) []),
 i 8 (.call (.f F_q0k) [.t 6,.t 7])] [])
 (.seq (.region (some [1]) [w 9 1,
 w 0 9] [])
 (.ret))))
def a_q0l : AFn:=.code 0 c_q0l [.tmp 0]
theorem k_q0l : compF Tryz.prog h_q0l F_q0l = some a_q0l:=by kernel_rfl

def h_q3j : Hints:={ kp:=[(0,[0]),(1,[1]),(2,[1,3]),(3,[3,7,8,9]),(4,[3,7,8,9]),(5,[3,5,7,8,9]),(6,[3,7,8,9]),(7,[3])],lkp:=[(3,[3,7,8,9])],lth:=[] }
def zq7 : Option (List Nat):=(some [3,7,8,9])
def zqp : ACode :=
 .seq (.region (some [3,7,8,9]) [i 10 (.bin .lss (.t 9) (.t 8))] [])
 (.seq (.cond (.t 10) (.skip) (.exit 0))
 (.seq (.block 1 (.seq (.region (some [3,7,8,9]) [i 11 (.iaddrS 52 (.t 7) (.t 9)),
 i 12 (.load true 52 (.t 11)),
 i 5 (.box (.c (.agg Pk.Diff.zeroA))),
 ⟨none,.store 52 (.t 5) (.t 12),none⟩] [])
 (.region (some [3,5,7,8,9]) [w 13 3,
 i 14 (.load true 52 (.t 5)),
 i 15 (.call (.f F_q17) [.t 14]),
 i 16 (.bin .add (.t 13) (.t 15)),
 w 3 16] [])))
 (.region (some [3,7,8,9]) [i 17 (.bin .add (.t 9) (k 1)),
 w 9 17] [])))
def c_q3j : ACode :=
 .seq (.region (some [0]) [i 1 (.box (.t 0)),
 i 2 (.mv (k 0))] [])
 (.seq (.region (some [1]) [i 3 (.mv (k 0))] [])
 (.seq (.seq (.region (some [1,3]) [i 6 (.faddr 2 (.t 1)),
 i 7 (.load false 1 (.t 6)),
 i 8 (.len false (.t 7)),
 i 9 (.mv (k 0))] [])
 (.block 0 (.loop zq7 [] zqp)))
 (.seq (.region (some [3]) [w 18 3,
 w 2 18] [])
 (.ret))))
def a_q3j : AFn:=.code 1 c_q3j [.tmp 2]
theorem k_q3j : compF Tryz.prog h_q3j F_q3j = some a_q3j:=by kernel_rfl

def h_q1r : Hints:={ kp:=[(0,[0]),(1,[0]),(2,[0,3]),(4,[0,3]),(5,[]),(3,[0,3]),(6,[0])],lkp:=[(2,[0,3])],lth:=[] }
def zh8 : Option (List Nat):=(some [0,3])
def zic : ACode :=
 .seq (.seq (.region (some [0,3]) [w 4 3,
 w 5 0,
 i 6 (.len false (.t 5)),
 i 7 (.bin .lss (.t 4) (.t 6))] [])
 (.cond (.t 7) (.skip) (.exit 0)))
 (.seq (.block 1 (.seq (.region (some [0,3]) [w 10 0,
 w 11 3,
 i 12 (.iaddrS 49 (.t 10) (.t 11)),
 i 13 (.faddr 48 (.t 12)),
 i 14 (.load false 1 (.t 13)),
 i 15 (.len false (.t 14)),
 i 16 (.bin .gtr (.t 15) (k 10)),
 w 17 16,
 j 18 17 false (.mv (.t 0)),
 j 19 17 false (.mv (.t 3)),
 j 20 17 false (.iaddrS 49 (.t 18) (.t 19)),
 j 21 17 false (.load true 49 (.t 20)),
 j 22 17 false (.call (.f F_q2g) [.t 21]),
 j 23 17 false (.un .not (.t 22)),
 i 24 (.pick (.t 17) (kb true) (.t 23))] [])
 (.cond (.t 24) (.seq (.region (some []) [i 2 (.mv (kb false))] [])
 (.ret)) (.skip))))
 (.region (some [0,3]) [w 8 3,
 i 9 (.bin .add (.t 8) (k 1)),
 w 3 9] []))
def c_q1r : ACode :=
 .seq (.region (some [0]) [i 2 (.mv (kb false))] [])
 (.seq (.seq (.region (some [0]) [i 3 (.mv (k 0))] [])
 (.block 0 (.loop zh8 [] zic)))
 (.seq (.region (some [0]) [w 25 0,
 i 26 (.len false (.t 25)),
 i 27 (.bin .leq (.t 26) (k 5)),
 w 2 27] [])
 (.ret)))
def a_q1r : AFn:=.code 1 c_q1r [.tmp 2]
theorem k_q1r : compF Tryz.prog h_q1r F_q1r = some a_q1r:=by kernel_rfl

def h_q3k : Hints:={ dat:=true,kp:=[(0,[0,1,2,3]),(1,[1,2,3,4]),(2,[]),(3,[2,3,4]),(4,[2,3,4,10]),(5,[3,4,10,32,33,34]),(6,[3,4,10,32,33,34]),(7,[3,4,10,11,12,32,33,34]),(8,[3,4,10,13,14,32,33,34]),(9,[]),(10,[3,4,10,13,32,33,34]),(11,[3,4,10,13,32,33,34]),(12,[3,4,10,32,33,34]),(13,[10])],lkp:=[(5,[3,4,10,32,33,34])],lth:=[(5,[10,49])] }
def zqo : Option (List Nat):=(some [3,4,10,32,33,34])
def zq3 : ACode :=
 .seq (.region (some [3,4,10,32,33,34]) [i 35 (.bin .lss (.t 34) (.t 33))] [])
 (.seq (.cond (.t 35) (.skip) (.exit 0))
 (.seq (.block 1 (.seq (.region (some [3,4,10,32,33,34]) [w 36 34,
 i 37 (.iaddrS 49 (.t 32) (.t 34)),
 i 38 (.load true 49 (.t 37)),
 i 12 (.box (.c (.agg Pk.State.zeroA))),
 w 11 36,
 ⟨none,.store 49 (.t 12) (.t 38),none⟩] [])
 (.seq (.region (some [3,4,10,11,12,32,33,34]) [i 40 (.load true 49 (.t 12)),
 i 41 (.faddr 2 (.t 4)),
 i 42 (.load false 1 (.t 41)),
 w 43 11,
 i 44 (.iaddrS 52 (.t 42) (.t 43)),
 i 45 (.load true 52 (.t 44)),
 i 46 (.call (.f F_q15) [.t 40,.t 45]),
 w 39 46,
 i 47 (.ext (.t 39) 0),
 i 48 (.ext (.t 39) 1),
 i 13 (.box (.c (.agg Pk.State.zeroA))),
 ⟨none,.store 49 (.t 13) (.t 47),none⟩,
 w 14 48] [(0,2),(0,5),(0,10),(2,10),(5,10),(6,10)])
 (.seq (.seq (.region (some [3,4,10,13,14,32,33,34]) [w 49 14,
 i 50 (.bin .neq (.t 49) (k 0))] [])
 (.cond (.t 50) (.seq (.region (some []) [i 8 (.mv (.c (.nilS))),
 i 9 (.mv (k 80))] [])
 (.ret)) (.skip)))
 (.seq (.region (some [3,4,10,13,32,33,34]) [w 51 3,
 i 52 (.faddr 0 (.t 13)),
 ⟨none,.store 1 (.t 52) (.t 51),none⟩] [])
 (.region (some [3,4,10,13,32,33,34]) [w 53 10,
 i 54 (.load true 49 (.t 13)),
 i 55 (.bsl 49 [.t 54]),
 i 56 (.app 49 (.t 53) (.t 55)),
 w 10 56] []))))))
 (.region (some [3,4,10,32,33,34]) [i 57 (.bin .add (.t 34) (k 1)),
 w 34 57] [])))
def c_q3k : ACode :=
 .seq (.region (some [0,1,2,3]) [i 4 (.box (.t 0)),
 i 8 (.mv (.c (.nilS))),
 i 9 (.mv (k 0))] [])
 (.seq (.seq (.region (some [1,2,3,4]) [w 15 1,
 i 16 (.len false (.t 15)),
 w 17 2,
 i 18 (.len false (.t 17)),
 i 19 (.bin .neq (.t 16) (.t 18)),
 w 20 19,
 j 21 20 false (.faddr 2 (.t 4)),
 j 22 20 false (.load false 1 (.t 21)),
 j 23 20 false (.len false (.t 22)),
 j 24 20 false (.mv (.t 2)),
 j 25 20 false (.len false (.t 24)),
 j 26 20 false (.bin .neq (.t 23) (.t 25)),
 i 27 (.pick (.t 20) (kb true) (.t 26)),
 w 28 27,
 j 29 28 false (.faddr 1 (.t 4)),
 j 30 28 false (.load false 1 (.t 29)),
 i 31 (.pick (.t 28) (kb true) (.t 30))] [])
 (.cond (.t 31) (.seq (.region (some []) [i 8 (.mv (.c (.nilS))),
 i 9 (.mv (k 80))] [])
 (.ret)) (.skip)))
 (.seq (.region (some [2,3,4]) [i 10 (.mv (.c (.nilS)))] [])
 (.seq (.seq (.region (some [2,3,4,10]) [w 32 2,
 i 33 (.len false (.t 32)),
 i 34 (.mv (k 0))] [])
 (.block 0 (.loop zqo [10,49] zq3)))
 (.seq (.region (some [10]) [w 58 10,
 w 8 58,
 i 9 (.mv (k 0))] [])
 (.ret)))))
def a_q3k : AFn:=.code 4 c_q3k [.dat (.tmp 8),.dat (.tmp 9)]
theorem k_q3k : compF Tryz.prog h_q3k F_q3k = some a_q3k:=by kernel_rfl

def h_q2i : Hints:={ kp:=[(0,[0,1]),(1,[2,3]),(2,[]),(3,[2,3]),(4,[2,3,5]),(6,[2,3,5]),(7,[]),(5,[2,3,5]),(8,[])],lkp:=[(4,[2,3,5])],lth:=[] }
def zjz : Option (List Nat):=(some [2,3,5])
def zlt : ACode :=
 .seq (.seq (.region (some [2,3,5]) [w 34 5,
 i 35 (.faddr 48 (.t 2)),
 i 36 (.load false 1 (.t 35)),
 i 37 (.len false (.t 36)),
 i 38 (.bin .lss (.t 34) (.t 37))] [])
 (.cond (.t 38) (.skip) (.exit 0)))
 (.seq (.block 1 (.seq (.region (some [2,3,5]) [i 41 (.faddr 48 (.t 2)),
 i 42 (.load false 1 (.t 41)),
 w 43 5,
 i 44 (.iaddrS 8 (.t 42) (.t 43)),
 i 45 (.load true 8 (.t 44)),
 i 46 (.faddr 48 (.t 3)),
 i 47 (.load false 1 (.t 46)),
 w 48 5,
 i 49 (.iaddrS 8 (.t 47) (.t 48)),
 i 50 (.load true 8 (.t 49)),
 i 51 (.eq true Pk.Entry.ety (.t 45) (.t 50))] [(1,6),(4,6),(1,9),(4,9)])
 (.cond (.t 51) (.seq (.region (some []) [i 4 (.mv (kb false))] [])
 (.ret)) (.skip))))
 (.region (some [2,3,5]) [w 39 5,
 i 40 (.bin .add (.t 39) (k 1)),
 w 5 40] []))
def c_q2i : ACode :=
 .seq (.region (some [0,1]) [i 2 (.box (.t 0)),
 i 3 (.box (.t 1)),
 i 4 (.mv (kb false))] [])
 (.seq (.seq (.region (some [2,3]) [i 6 (.faddr 0 (.t 2)),
 i 7 (.load false 1 (.t 6)),
 i 8 (.faddr 0 (.t 3)),
 i 9 (.load false 1 (.t 8)),
 i 10 (.bin .neq (.t 7) (.t 9)),
 w 11 10,
 j 12 11 false (.faddr 1 (.t 2)),
 j 13 11 false (.load true 39 (.t 12)),
 j 14 11 false (.faddr 1 (.t 3)),
 j 15 11 false (.load true 39 (.t 14)),
 j 16 11 false (.eq true Pk.Base.ety (.t 13) (.t 15)),
 i 17 (.pick (.t 11) (kb true) (.t 16)),
 w 18 17,
 j 19 18 false (.faddr 40 (.t 2)),
 j 20 18 false (.load true 8 (.t 19)),
 j 21 18 false (.faddr 40 (.t 3)),
 j 22 18 false (.load true 8 (.t 21)),
 j 23 18 false (.eq true Pk.Entry.ety (.t 20) (.t 22)),
 i 24 (.pick (.t 18) (kb true) (.t 23)),
 w 25 24,
 j 26 25 false (.faddr 48 (.t 2)),
 j 27 25 false (.load false 1 (.t 26)),
 j 28 25 false (.len false (.t 27)),
 j 29 25 false (.faddr 48 (.t 3)),
 j 30 25 false (.load false 1 (.t 29)),
 j 31 25 false (.len false (.t 30)),
 j 32 25 false (.bin .neq (.t 28) (.t 31)),
 i 33 (.pick (.t 25) (kb true) (.t 32))] [])
 (.cond (.t 33) (.seq (.region (some []) [i 4 (.mv (kb false))] [])
 (.ret)) (.skip)))
 (.seq (.seq (.region (some [2,3]) [i 5 (.mv (k 0))] [])
 (.block 0 (.loop zjz [] zlt)))
 (.seq (.region (some []) [i 4 (.mv (kb true))] [])
 (.ret))))
def a_q2i : AFn:=.code 2 c_q2i [.tmp 4]
theorem k_q2i : compF Tryz.prog h_q2i F_q2i = some a_q2i:=by kernel_rfl

def h_q0f : Hints:={ dat:=true,kp:=[(0,[0,1]),(1,[0,1])],lkp:=[],lth:=[] }
def c_q0f : ACode :=
 .seq (.region (some [0,1]) [i 4 (.mv (.c (.nilS)))] [])
 (.seq (.region (some [0,1]) [w 5 0,
 w 6 1,
 i 7 (.call (.f F_q0j) [.t 5,.t 6]),
 i 8 (.field false 1 1 (.t 7)),
 i 9 (.call (.f F_q42) [.t 8]),
 w 4 9] [])
 (.ret))
def a_q0f : AFn:=.code 2 c_q0f [.dat (.tmp 4)]
theorem k_q0f : compF Tryz.prog h_q0f F_q0f = some a_q0f:=by kernel_rfl

def h_q0g : Hints:={ kp:=[(0,[0,1,2]),(1,[0,1,5]),(3,[0,1,5]),(4,[]),(2,[]),(5,[0,1,5]),(6,[0,1,5,7,8]),(7,[8]),(8,[0,1,5,7]),(9,[0,7]),(10,[])],lkp:=[],lth:=[] }
def c_q0g : ACode :=
 .seq (.region (some [0,1,2]) [i 5 (.box (.t 2)),
 i 6 (.mv (k 0))] [])
 (.seq (.block 0 (.seq (.region (some [0,1,5]) [w 10 1,
 w 11 0,
 i 12 (.nilck (.t 11)),
 i 13 (.faddr 2 (.t 12)),
 i 14 (.load false 1 (.t 13)),
 i 15 (.bin .leq (.t 10) (.t 14)),
 w 9 15] [])
 (.cond (.t 9) (.seq (.region (some []) [i 6 (.mv (k 51))] [])
 (.ret)) (.seq (.region (some [0,1,5]) [w 17 1,
 w 18 0,
 i 19 (.nilck (.t 18)),
 i 20 (.faddr 2 (.t 19)),
 i 21 (.load false 1 (.t 20)),
 i 22 (.bin .sub (.t 17) (.t 21)),
 i 23 (.bin .gtr (.t 22) (.c (.d (.i .u32 1)))),
 w 16 23] [])
 (.cond (.t 16) (.seq (.region (some []) [i 6 (.mv (k 50))] [])
 (.ret)) (.skip))))))
 (.seq (.region (some [0,1,5]) [w 25 0,
 i 26 (.nilck (.t 25)),
 i 27 (.faddr 0 (.t 26)),
 i 28 (.load false 1 (.t 27)),
 w 29 0,
 i 30 (.nilck (.t 29)),
 i 31 (.faddr 2 (.t 30)),
 i 32 (.load false 1 (.t 31)),
 i 33 (.mget .u32 (.agg Pk.Mp.zero.cs) false (.t 28) (.t 32)),
 i 34 (.load true 3 (.t 5)),
 i 35 (.call (.f F_q0u) [.t 33,.t 34]),
 w 24 35,
 i 36 (.ext (.t 24) 0),
 i 37 (.ext (.t 24) 1),
 i 7 (.box (.c (.d (.agg Pk.Mp.zero.cs)))),
 ⟨none,.store 16 (.t 7) (.t 36),none⟩,
 w 8 37] [(3,7),(3,9),(7,9),(8,9),(3,14),(7,14),(8,14),(9,14),(10,14)])
 (.seq (.seq (.region (some [0,1,5,7,8]) [w 38 8,
 i 39 (.bin .neq (.t 38) (k 0))] [])
 (.cond (.t 39) (.seq (.region (some [8]) [w 40 8,
 w 6 40] [])
 (.ret)) (.skip)))
 (.seq (.region (some [0,1,5,7]) [w 41 0,
 i 42 (.nilck (.t 41)),
 i 43 (.faddr 1 (.t 42)),
 i 44 (.load false 1 (.t 43)),
 w 45 1,
 i 46 (.load true 3 (.t 5)),
 ⟨none,.mset .u32 (.t 44) (.t 45) (.t 46),none⟩] [(3,5)])
 (.seq (.region (some [0,7]) [w 47 0,
 i 48 (.load true 16 (.t 7)),
 i 49 (.call (.f F_q0k) [.t 47,.t 48])] [])
 (.seq (.region (some []) [i 6 (.mv (k 0))] [])
 (.ret)))))))
def a_q0g : AFn:=.code 3 c_q0g [.tmp 6]
theorem k_q0g : compF Tryz.prog h_q0g F_q0g = some a_q0g:=by kernel_rfl

def h_q0i : Hints:={ kp:=[(0,[0]),(1,[0])],lkp:=[],lth:=[] }
def c_q0i : ACode :=
 .seq (.region (some [0]) [i 2 (.mv (.c (.d (.i .u32 0))))] [])
 (.seq (.region (some [0]) [w 3 0,
 i 4 (.nilck (.t 3)),
 i 5 (.faddr 2 (.t 4)),
 i 6 (.load false 1 (.t 5)),
 w 2 6] [])
 (.ret))
def a_q0i : AFn:=.code 1 c_q0i [.tmp 2]
theorem k_q0i : compF Tryz.prog h_q0i F_q0i = some a_q0i:=by kernel_rfl

def h_q22 : Hints:={ kp:=[(0,[0,1,2]),(1,[0,1,5]),(3,[0,1,5]),(4,[]),(2,[]),(5,[0,5]),(6,[0,5,8]),(7,[]),(8,[0,5]),(9,[])],lkp:=[],lth:=[] }
def c_q22 : ACode :=
 .seq (.region (some [0,1,2]) [i 5 (.box (.t 2)),
 i 6 (.mv (k 0))] [])
 (.seq (.block 0 (.seq (.region (some [0,1,5]) [w 10 1,
 w 11 0,
 i 12 (.call (.f F_q24) [.t 11]),
 i 13 (.bin .leq (.t 10) (.t 12)),
 w 9 13] [])
 (.cond (.t 9) (.seq (.region (some []) [i 6 (.mv (k 51))] [])
 (.ret)) (.seq (.region (some [0,1,5]) [w 15 1,
 w 16 0,
 i 17 (.call (.f F_q24) [.t 16]),
 i 18 (.bin .add (.t 17) (.c (.d (.i .u32 1)))),
 i 19 (.bin .gtr (.t 15) (.t 18)),
 w 14 19] [])
 (.cond (.t 14) (.seq (.region (some []) [i 6 (.mv (k 50))] [])
 (.ret)) (.skip))))))
 (.seq (.region (some [0,5]) [w 21 0,
 w 22 0,
 i 23 (.call (.f F_q24) [.t 22]),
 i 24 (.call (.f F_q25) [.t 21,.t 23]),
 i 25 (.load true 3 (.t 5)),
 i 26 (.call (.f F_q20) [.t 24,.t 25]),
 w 20 26,
 i 27 (.ext (.t 20) 0),
 i 28 (.ext (.t 20) 1),
 i 7 (.box (.c (.d (.agg Pk.Mp.zero.cs)))),
 ⟨none,.store 16 (.t 7) (.t 27),none⟩,
 w 8 28] [(2,4),(3,4),(2,9),(3,9),(4,9),(5,9)])
 (.seq (.seq (.region (some [0,5,8]) [w 29 8,
 i 30 (.un .not (.t 29))] [])
 (.cond (.t 30) (.seq (.region (some []) [i 6 (.mv (k 40))] [])
 (.ret)) (.skip)))
 (.seq (.region (some [0,5]) [w 31 0,
 w 32 0,
 i 33 (.nilck (.t 32)),
 i 34 (.faddr 0 (.t 33)),
 i 35 (.load false 1 (.t 34)),
 i 36 (.load true 3 (.t 5)),
 i 37 (.bsl 3 [.t 36]),
 i 38 (.app 3 (.t 35) (.t 37)),
 i 39 (.nilck (.t 31)),
 i 40 (.faddr 0 (.t 39)),
 ⟨none,.store 1 (.t 40) (.t 38),none⟩] [(4,5),(4,6)])
 (.seq (.region (some []) [i 6 (.mv (k 0))] [])
 (.ret))))))
def a_q22 : AFn:=.code 3 c_q22 [.tmp 6]
theorem k_q22 : compF Tryz.prog h_q22 F_q22 = some a_q22:=by kernel_rfl

def h_q24 : Hints:={ kp:=[(0,[0]),(1,[0])],lkp:=[],lth:=[] }
def c_q24 : ACode :=
 .seq (.region (some [0]) [i 2 (.mv (.c (.d (.i .u32 0))))] [])
 (.seq (.region (some [0]) [w 3 0,
 i 4 (.nilck (.t 3)),
 i 5 (.faddr 0 (.t 4)),
 i 6 (.load false 1 (.t 5)),
 i 7 (.len false (.t 6)),
 i 8 (.conv .u32 (.t 7)),
 i 9 (.bin .add (.t 8) (.c (.d (.i .u32 1)))),
 w 2 9] [])
 (.ret))
def a_q24 : AFn:=.code 1 c_q24 [.tmp 2]
theorem k_q24 : compF Tryz.prog h_q24 F_q24 = some a_q24:=by kernel_rfl

def h_q2p : Hints:={ kp:=[(0,[0,1]),(1,[0,1]),(2,[]),(3,[0,1]),(4,[0,1,5]),(5,[0,1,5,6]),(7,[0,1,5,6]),(8,[]),(9,[0,1,5,6]),(10,[0,1,6]),(6,[0,1,5,6]),(11,[5])],lkp:=[(5,[0,1,5,6])],lth:=[] }
def zid : Option (List Nat):=(some [0,1,5,6])
def zg6 : ACode :=
 .seq (.seq (.region (some [0,1,5,6]) [w 12 6,
 w 13 1,
 i 14 (.len false (.t 13)),
 i 15 (.bin .lss (.t 12) (.t 14))] [])
 (.cond (.t 15) (.skip) (.exit 0)))
 (.seq (.block 1 (.seq (.seq (.region (some [0,1,5,6]) [w 18 1,
 w 19 6,
 i 20 (.iaddrS 49 (.t 18) (.t 19)),
 i 21 (.load true 49 (.t 20)),
 i 22 (.call (.f F_q2g) [.t 21]),
 i 23 (.un .not (.t 22))] [])
 (.cond (.t 23) (.seq (.region (some []) [i 4 (.mv (.c (.d (.i .i64 (-1)))))] [])
 (.ret)) (.skip)))
 (.seq (.region (some [0,1,5,6]) [w 24 5,
 i 25 (.bin .lss (.t 24) (k 0)),
 w 26 25,
 j 27 26 false (.mv (.t 0)),
 j 28 26 false (.mv (.t 6)),
 j 29 26 false (.iaddrS 1 (.t 27) (.t 28)),
 j 30 26 false (.load false 1 (.t 29)),
 j 31 26 false (.mv (.t 1)),
 j 32 26 false (.mv (.t 6)),
 j 33 26 false (.iaddrS 49 (.t 31) (.t 32)),
 j 34 26 false (.load true 49 (.t 33)),
 j 35 26 false (.mv (.t 0)),
 j 36 26 false (.mv (.t 5)),
 j 37 26 false (.iaddrS 1 (.t 35) (.t 36)),
 j 38 26 false (.load false 1 (.t 37)),
 j 39 26 false (.mv (.t 1)),
 j 40 26 false (.mv (.t 5)),
 j 41 26 false (.iaddrS 49 (.t 39) (.t 40)),
 j 42 26 false (.load true 49 (.t 41)),
 j 43 26 false (.call (.f F_q2v) [.t 30,.t 34,.t 38,.t 42]),
 i 44 (.pick (.t 26) (kb true) (.t 43))] [(6,10),(6,14),(10,14),(6,18),(10,18),(14,18)])
 (.cond (.t 44) (.region (some [0,1,6]) [w 45 6,
 w 5 45] []) (.skip)))))
 (.region (some [0,1,5,6]) [w 16 6,
 i 17 (.bin .add (.t 16) (k 1)),
 w 6 17] []))
def c_q2p : ACode :=
 .seq (.region (some [0,1]) [i 4 (.mv (k 0))] [])
 (.seq (.seq (.region (some [0,1]) [w 7 0,
 i 8 (.len false (.t 7)),
 w 9 1,
 i 10 (.len false (.t 9)),
 i 11 (.bin .neq (.t 8) (.t 10))] [])
 (.cond (.t 11) (.seq (.region (some []) [i 4 (.mv (.c (.d (.i .i64 (-1)))))] [])
 (.ret)) (.skip)))
 (.seq (.region (some [0,1]) [i 5 (.mv (.c (.d (.i .i64 (-1)))))] [])
 (.seq (.seq (.region (some [0,1,5]) [i 6 (.mv (k 0))] [])
 (.block 0 (.loop zid [] zg6)))
 (.seq (.region (some [5]) [w 46 5,
 w 4 46] [])
 (.ret)))))
def a_q2p : AFn:=.code 2 c_q2p [.tmp 4]
theorem k_q2p : compF Tryz.prog h_q2p F_q2p = some a_q2p:=by kernel_rfl

def h_q2r : Hints:={ kp:=[(0,[0,1,2,3]),(1,[0,1,2,3]),(2,[]),(3,[0,1,2]),(4,[2,9]),(5,[2,9,10]),(7,[2,9,10]),(8,[]),(6,[2,9,10]),(9,[])],lkp:=[(5,[2,9,10])],lth:=[] }
def zmp : Option (List Nat):=(some [2,9,10])
def zlx : ACode :=
 .seq (.seq (.region (some [2,9,10]) [w 22 10,
 w 23 9,
 i 24 (.len false (.t 23)),
 i 25 (.bin .lss (.t 22) (.t 24))] [])
 (.cond (.t 25) (.skip) (.exit 0)))
 (.seq (.block 1 (.seq (.region (some [2,9,10]) [w 28 2,
 w 29 9,
 w 30 10,
 i 31 (.iaddrS 1 (.t 29) (.t 30)),
 i 32 (.load false 1 (.t 31)),
 i 33 (.call (.f F_q27) [.t 28,.t 32]),
 i 34 (.un .not (.t 33))] [])
 (.cond (.t 34) (.seq (.region (some []) [i 8 (.mv (kb false))] [])
 (.ret)) (.skip))))
 (.region (some [2,9,10]) [w 26 10,
 i 27 (.bin .add (.t 26) (k 1)),
 w 10 27] []))
def c_q2r : ACode :=
 .seq (.region (some [0,1,2,3]) [i 8 (.mv (kb false))] [])
 (.seq (.seq (.region (some [0,1,2,3]) [w 11 0,
 w 12 1,
 w 13 2,
 w 14 3,
 i 15 (.call (.f F_q2s) [.t 11,.t 12,.t 13,.t 14]),
 i 16 (.len false (.t 15)),
 i 17 (.bin .gtr (.t 16) (k 0))] [])
 (.cond (.t 17) (.seq (.region (some []) [i 8 (.mv (kb false))] [])
 (.ret)) (.skip)))
 (.seq (.region (some [0,1,2]) [w 18 0,
 w 19 1,
 i 20 (.call (.f F_q26) [.t 18,.t 19]),
 i 21 (.field false 1 1 (.t 20)),
 w 9 21] [])
 (.seq (.seq (.region (some [2,9]) [i 10 (.mv (k 0))] [])
 (.block 0 (.loop zmp [] zlx)))
 (.seq (.region (some []) [i 8 (.mv (kb true))] [])
 (.ret)))))
def a_q2r : AFn:=.code 4 c_q2r [.tmp 8]
theorem k_q2r : compF Tryz.prog h_q2r F_q2r = some a_q2r:=by kernel_rfl

def h_q2u : Hints:={ kp:=[(0,[0]),(1,[0]),(2,[0,3]),(3,[0,3,4]),(5,[0,3,4]),(4,[0,3,4]),(6,[3])],lkp:=[(3,[0,3,4])],lth:=[] }
def zo6 : Option (List Nat):=(some [0,3,4])
def zo9 : ACode :=
 .seq (.seq (.region (some [0,3,4]) [w 5 4,
 w 6 0,
 i 7 (.len false (.t 6)),
 i 8 (.bin .lss (.t 5) (.t 7))] [])
 (.cond (.t 8) (.skip) (.exit 0)))
 (.seq (.block 1 (.region (some [0,3,4]) [w 11 3,
 w 12 0,
 w 13 4,
 i 14 (.iaddrS 49 (.t 12) (.t 13)),
 i 15 (.faddr 0 (.t 14)),
 i 16 (.load false 1 (.t 15)),
 i 17 (.mm true [.t 11,.t 16]),
 w 3 17] []))
 (.region (some [0,3,4]) [w 9 4,
 i 10 (.bin .add (.t 9) (k 1)),
 w 4 10] []))
def c_q2u : ACode :=
 .seq (.region (some [0]) [i 2 (.mv (.c (.d (.i .u32 0))))] [])
 (.seq (.region (some [0]) [i 3 (.mv (.c (.d (.i .u32 0))))] [])
 (.seq (.seq (.region (some [0,3]) [i 4 (.mv (k 0))] [])
 (.block 0 (.loop zo6 [] zo9)))
 (.seq (.region (some [3]) [w 18 3,
 w 2 18] [])
 (.ret))))
def a_q2u : AFn:=.code 1 c_q2u [.tmp 2]
theorem k_q2u : compF Tryz.prog h_q2u F_q2u = some a_q2u:=by kernel_rfl

def h_q2q : Hints:={ kp:=[(0,[0]),(1,[1]),(2,[1,3]),(3,[1,3,4]),(5,[1,3,4]),(6,[1,3,4]),(4,[1,3,4]),(7,[3])],lkp:=[(3,[1,3,4])],lth:=[] }
def zkl : Option (List Nat):=(some [1,3,4])
def zlq : ACode :=
 .seq (.seq (.region (some [1,3,4]) [w 13 4,
 i 14 (.bin .lss (.t 13) (k 6))] [])
 (.cond (.t 14) (.skip) (.exit 0)))
 (.seq (.block 1 (.seq (.region (some [1,3,4]) [w 17 4,
 i 18 (.faddr 3 (.t 1)),
 i 19 (.faddr 1 (.t 18)),
 i 20 (.faddr 0 (.t 19)),
 i 21 (.iaddrA 6 5 (.t 20) (.t 17)),
 i 22 (.faddr 0 (.t 21)),
 i 23 (.load false 1 (.t 22))] [])
 (.cond (.t 23) (.region (some [1,3,4]) [w 24 3,
 i 25 (.bin .add (.t 24) (k 1)),
 w 3 25] []) (.skip))))
 (.region (some [1,3,4]) [w 15 4,
 i 16 (.bin .add (.t 15) (k 1)),
 w 4 16] []))
def c_q2q : ACode :=
 .seq (.region (some [0]) [i 1 (.box (.t 0)),
 i 2 (.mv (k 0))] [])
 (.seq (.region (some [1]) [i 5 (.faddr 2 (.t 1)),
 i 6 (.load false 1 (.t 5)),
 i 7 (.len false (.t 6)),
 i 8 (.faddr 3 (.t 1)),
 i 9 (.faddr 48 (.t 8)),
 i 10 (.load false 1 (.t 9)),
 i 11 (.len false (.t 10)),
 i 12 (.bin .add (.t 7) (.t 11)),
 w 3 12] [])
 (.seq (.seq (.region (some [1,3]) [i 4 (.mv (k 0))] [])
 (.block 0 (.loop zkl [] zlq)))
 (.seq (.region (some [3]) [w 26 3,
 w 2 26] [])
 (.ret))))
def a_q2q : AFn:=.code 1 c_q2q [.tmp 2]
theorem k_q2q : compF Tryz.prog h_q2q F_q2q = some a_q2q:=by kernel_rfl

def h_q2t : Hints:={ kp:=[(0,[0,1]),(1,[2,3,4]),(2,[4]),(3,[2,3,4]),(4,[2,3,4,5]),(5,[2,3,4,5,6]),(7,[2,3,4,5,6]),(8,[2,3,4,5]),(6,[3,4,5]),(9,[2,3,4,5]),(10,[2,3,4,5]),(11,[2,3,4,5,7]),(12,[2,3,4,5,7]),(13,[2,3,4,5,7,8,9]),(14,[2,3,4,5,7,8]),(15,[2,3,4,5,7]),(16,[3,4,5,7]),(17,[4,5])],lkp:=[(11,[2,3,4,5,7])],lth:=[] }
def zig : Option (List Nat):=(some [2,3,4,5,7])
def zgt : ACode :=
 .seq (.seq (.region (some [2,3,4,5,7]) [w 45 7,
 i 46 (.faddr 48 (.t 3)),
 i 47 (.load false 1 (.t 46)),
 i 48 (.len false (.t 47)),
 i 49 (.bin .lss (.t 45) (.t 48))] [])
 (.cond (.t 49) (.skip) (.exit 1)))
 (.block 2 (.seq (.region (some [2,3,4,5,7]) [i 51 (.load true 49 (.t 2)),
 i 52 (.faddr 48 (.t 3)),
 i 53 (.load false 1 (.t 52)),
 w 54 7,
 i 55 (.iaddrS 8 (.t 53) (.t 54)),
 i 56 (.faddr 1 (.t 55)),
 i 57 (.load false 1 (.t 56)),
 i 58 (.call (.f F_q2d) [.t 51,.t 57]),
 w 50 58,
 i 59 (.ext (.t 50) 0),
 i 60 (.ext (.t 50) 1),
 ⟨some 8,.box (.c (.d (.agg [.i .u32 0,.i .u32 0,.i .u8 0,.i .u32 0,.i .u8 0,.i .u8 0,.i .u8 0,.s ⟨#[]⟩]))),none⟩,
 ⟨none,.store 8 (.t 8) (.t 59),none⟩,
 w 9 60] [(0,2),(0,6),(0,11),(2,11),(6,11),(7,11)])
 (.seq (.seq (.region (some [2,3,4,5,7,8,9]) [w 61 9,
 i 62 (.un .not (.t 61)),
 w 63 62,
 j 64 63 false (.load true 8 (.t 8)),
 j 65 63 false (.faddr 48 (.t 3)),
 j 66 63 false (.load false 1 (.t 65)),
 j 67 63 false (.mv (.t 7)),
 j 68 63 false (.iaddrS 8 (.t 66) (.t 67)),
 j 69 63 false (.load true 8 (.t 68)),
 j 70 63 false (.eq true Pk.Entry.ety (.t 64) (.t 69)),
 i 71 (.pick (.t 63) (kb true) (.t 70))] [(3,5),(3,8)])
 (.cond (.t 71) (.exit 1) (.skip)))
 (.seq (.region (some [2,3,4,5,7,8]) [i 72 (.faddr 1 (.t 8)),
 i 73 (.load false 1 (.t 72)),
 i 74 (.faddr 1 (.t 5)),
 ⟨none,.store 1 (.t 74) (.t 73),none⟩] [])
 (.region (some [2,3,4,5,7]) [w 75 7,
 i 76 (.bin .add (.t 75) (k 1)),
 w 7 76] [])))))
def c_q2t : ACode :=
 .seq (.region (some [0,1]) [i 2 (.box (.t 0)),
 i 3 (.box (.t 1)),
 i 4 (.box (.c (.agg Pk.Diff.zeroA)))] [])
 (.seq (.seq (.region (some [2,3,4]) [i 10 (.load true 49 (.t 2)),
 i 11 (.call (.f F_q2g) [.t 10]),
 i 12 (.un .not (.t 11)),
 w 13 12,
 j 14 13 false (.load true 49 (.t 3)),
 j 15 13 false (.call (.f F_q2g) [.t 14]),
 j 16 13 false (.un .not (.t 15)),
 i 17 (.pick (.t 13) (kb true) (.t 16))] [])
 (.cond (.t 17) (.seq (.region (some [4]) [i 18 (.build Pk.Diff.zeroA []),
 ⟨none,.store 52 (.t 4) (.t 18),none⟩] [])
 (.ret)) (.skip)))
 (.seq (.region (some [2,3,4]) [i 19 (.faddr 0 (.t 3)),
 i 20 (.load false 1 (.t 19)),
 i 21 (.faddr 40 (.t 3)),
 i 22 (.load true 8 (.t 21)),
 i 23 (.build Pk.State.zeroA [(0,1,.t 20),(40,8,.t 22)]),
 i 24 (.build Pk.Diff.zeroA [(3,49,.t 23)]),
 i 5 (.box (.c (.agg Pk.Diff.zeroA))),
 ⟨none,.store 52 (.t 5) (.t 24),none⟩] [])
 (.seq (.region (some [2,3,4,5]) [i 25 (.load true 49 (.t 2)),
 i 6 (.box (.c (.agg Pk.State.zeroA))),
 ⟨none,.store 49 (.t 6) (.t 25),none⟩] [])
 (.seq (.region (some [2,3,4,5,6]) [i 26 (.faddr 0 (.t 3)),
 i 27 (.load false 1 (.t 26)),
 i 28 (.faddr 0 (.t 6)),
 ⟨none,.store 1 (.t 28) (.t 27),none⟩] [])
 (.seq (.block 0 (.seq (.region (some [2,3,4,5,6]) [i 33 (.load true 49 (.t 6)),
 i 34 (.load true 49 (.t 3)),
 i 35 (.call (.f F_q2i) [.t 33,.t 34]),
 w 32 35] [])
 (.cond (.t 32) (.skip) (.seq (.region (some [2,3,4,5]) [i 37 (.load true 49 (.t 2)),
 i 38 (.load true 49 (.t 3)),
 i 39 (.call (.f F_q2w) [.t 37,.t 38]),
 w 36 39] [])
 (.cond (.t 36) (.seq (.region (some [2,3,4,5]) [i 40 (.faddr 40 (.t 3)),
 i 41 (.faddr 1 (.t 40)),
 i 42 (.load false 1 (.t 41)),
 i 43 (.faddr 0 (.t 5)),
 ⟨none,.store 1 (.t 43) (k 1),none⟩,
 i 44 (.faddr 1 (.t 5)),
 ⟨none,.store 1 (.t 44) (.t 42),none⟩] [(2,4)])
 (.seq (.region (some [2,3,4,5]) [i 7 (.mv (k 0))] [])
 (.seq (.block 1 (.loop zig [] zgt))
 (.region (some [3,4,5,7]) [i 77 (.faddr 48 (.t 3)),
 i 78 (.load false 1 (.t 77)),
 w 79 7,
 i 80 (.slice 8 (.t 78) (some (.t 79)) none none),
 i 81 (.app 8 (.c (.nilS)) (.t 80)),
 i 82 (.faddr 2 (.t 5)),
 ⟨none,.store 1 (.t 82) (.t 81),none⟩] [])))) (.region (some [3,4,5]) [i 29 (.load true 49 (.t 3)),
 i 30 (.faddr 0 (.t 5)),
 ⟨none,.store 1 (.t 30) (k 2),none⟩,
 i 31 (.faddr 3 (.t 5)),
 ⟨none,.store 49 (.t 31) (.t 29),none⟩] [(0,2)]))))))
 (.seq (.region (some [4,5]) [i 83 (.load true 52 (.t 5)),
 ⟨none,.store 52 (.t 4) (.t 83),none⟩] [])
 (.ret)))))))
def a_q2t : AFn:=.code 2 c_q2t [.cell true 52 4]
theorem k_q2t : compF Tryz.prog h_q2t F_q2t = some a_q2t:=by kernel_rfl

def h_q1t : Hints:={ kp:=[(0,[0]),(1,[0]),(2,[0,3]),(3,[0,3,4]),(5,[0,3,4]),(6,[0,3,4]),(4,[0,3,4]),(7,[3])],lkp:=[(3,[0,3,4])],lth:=[(3,[3,1])] }
def zln : Option (List Nat):=(some [0,3,4])
def zk8 : ACode :=
 .seq (.seq (.region (some [0,3,4]) [w 5 4,
 i 6 (.bin .lss (.t 5) (k 5))] [])
 (.cond (.t 6) (.skip) (.exit 0)))
 (.seq (.block 1 (.seq (.region (some [0,3,4]) [w 9 0,
 w 10 4,
 i 11 (.call (.f F_q27) [.t 9,.t 10])] [])
 (.cond (.t 11) (.region (some [0,3,4]) [w 12 3,
 w 13 4,
 i 14 (.bsl 1 [.t 13]),
 i 15 (.app 1 (.t 12) (.t 14)),
 w 3 15] []) (.skip))))
 (.region (some [0,3,4]) [w 7 4,
 i 8 (.bin .add (.t 7) (k 1)),
 w 4 8] []))
def c_q1t : ACode :=
 .seq (.region (some [0]) [i 2 (.mv (.c (.nilS)))] [])
 (.seq (.region (some [0]) [i 3 (.mv (.c (.nilS)))] [])
 (.seq (.seq (.region (some [0,3]) [i 4 (.mv (k 0))] [])
 (.block 0 (.loop zln [3,1] zk8)))
 (.seq (.region (some [3]) [w 16 3,
 w 2 16] [])
 (.ret))))
def a_q1t : AFn:=.code 1 c_q1t [.tmp 2]
theorem k_q1t : compF Tryz.prog h_q1t F_q1t = some a_q1t:=by kernel_rfl

def h_q32 : Hints:={ kp:=[(0,[0]),(1,[1]),(2,[]),(3,[1]),(4,[1,3]),(5,[3,37,38,39]),(6,[3,37,38,39]),(7,[3,5,37,38,39]),(8,[]),(9,[3,5,37,38,39]),(10,[3,37,38,39]),(11,[])],lkp:=[(5,[3,37,38,39])],lth:=[] }
def zku : Option (List Nat):=(some [3,37,38,39])
def zmc : ACode :=
 .seq (.region (some [3,37,38,39]) [i 40 (.bin .lss (.t 39) (.t 38))] [])
 (.seq (.cond (.t 40) (.skip) (.exit 0))
 (.seq (.block 1 (.seq (.region (some [3,37,38,39]) [i 41 (.iaddrS 8 (.t 37) (.t 39)),
 i 42 (.load true 8 (.t 41)),
 ⟨some 5,.box (.c (.d (.agg [.i .u32 0,.i .u32 0,.i .u8 0,.i .u32 0,.i .u8 0,.i .u8 0,.i .u8 0,.s ⟨#[]⟩]))),none⟩,
 ⟨none,.store 8 (.t 5) (.t 42),none⟩] [])
 (.seq (.seq (.region (some [3,5,37,38,39]) [i 43 (.load true 8 (.t 3)),
 i 44 (.load true 8 (.t 5)),
 i 45 (.call (.f F_q39) [.t 43,.t 44]),
 i 46 (.un .not (.t 45))] [])
 (.cond (.t 46) (.seq (.region (some []) [i 2 (.mv (kb false))] [])
 (.ret)) (.skip)))
 (.region (some [3,5,37,38,39]) [i 47 (.load true 8 (.t 5)),
 ⟨none,.store 8 (.t 3) (.t 47),none⟩] []))))
 (.region (some [3,37,38,39]) [i 48 (.bin .add (.t 39) (k 1)),
 w 39 48] [])))
def c_q32 : ACode :=
 .seq (.region (some [0]) [i 1 (.box (.t 0)),
 i 2 (.mv (kb false))] [])
 (.seq (.seq (.region (some [1]) [i 6 (.faddr 0 (.t 1)),
 i 7 (.load false 1 (.t 6)),
 i 8 (.bin .gtr (.t 7) (.c (.d (.i .u32 60)))),
 w 9 8,
 j 10 9 false (.faddr 40 (.t 1)),
 j 11 9 false (.faddr 0 (.t 10)),
 j 12 9 false (.load false 1 (.t 11)),
 j 13 9 false (.bin .gtr (.t 12) (.c (.d (.i .u32 60)))),
 i 14 (.pick (.t 9) (kb true) (.t 13)),
 w 15 14,
 j 16 15 false (.faddr 40 (.t 1)),
 j 17 15 false (.faddr 2 (.t 16)),
 j 18 15 false (.load true 6 (.t 17)),
 ⟨some 19,.build [.d (.i .u8 0),.d (.i .u32 0),.d (.i .u8 0),.d (.i .u8 0),.d (.i .u8 0),.d (.s ⟨#[]⟩)] [],some (15,false)⟩,
 j 20 15 false (.eq true Pk.Opr.ety (.t 18) (.t 19)),
 i 21 (.pick (.t 15) (kb true) (.t 20)),
 w 22 21,
 j 23 22 false (.faddr 48 (.t 1)),
 j 24 22 false (.load false 1 (.t 23)),
 j 25 22 false (.len false (.t 24)),
 j 26 22 false (.bin .gtr (.t 25) (k 6)),
 i 27 (.pick (.t 22) (kb true) (.t 26)),
 w 28 27,
 j 29 28 false (.faddr 1 (.t 1)),
 j 30 28 false (.load true 39 (.t 29)),
 j 31 28 false (.call (.f F_q36) [.t 30]),
 j 32 28 false (.un .not (.t 31)),
 i 33 (.pick (.t 28) (kb true) (.t 32))] [])
 (.cond (.t 33) (.seq (.region (some []) [i 2 (.mv (kb false))] [])
 (.ret)) (.skip)))
 (.seq (.region (some [1]) [i 34 (.faddr 40 (.t 1)),
 i 35 (.load true 8 (.t 34)),
 ⟨some 3,.box (.c (.d (.agg [.i .u32 0,.i .u32 0,.i .u8 0,.i .u32 0,.i .u8 0,.i .u8 0,.i .u8 0,.s ⟨#[]⟩]))),none⟩,
 ⟨none,.store 8 (.t 3) (.t 35),none⟩] [])
 (.seq (.seq (.region (some [1,3]) [i 36 (.faddr 48 (.t 1)),
 i 37 (.load false 1 (.t 36)),
 i 38 (.len false (.t 37)),
 i 39 (.mv (k 0))] [])
 (.block 0 (.loop zku [] zmc)))
 (.seq (.region (some []) [i 2 (.mv (kb true))] [])
 (.ret)))))
def a_q32 : AFn:=.code 1 c_q32 [.tmp 2]
theorem k_q32 : compF Tryz.prog h_q32 F_q32 = some a_q32:=by kernel_rfl

def h_q38 : Hints:={ kp:=[(0,[0]),(1,[1,2]),(2,[1,2]),(3,[1,2])],lkp:=[],lth:=[] }
def c_q38 : ACode :=
 .seq (.region (some [0]) [i 1 (.box (.t 0)),
 ⟨some 2,.box (.c (.d (.agg [.i .u32 0,.i .u32 0,.i .u8 0,.i .u32 0,.i .u8 0,.i .u8 0,.i .u8 0,.s ⟨#[]⟩]))),none⟩] [])
 (.seq (.seq (.region (some [1,2]) [i 3 (.faddr 48 (.t 1)),
 i 4 (.load false 1 (.t 3)),
 i 5 (.len false (.t 4)),
 i 6 (.bin .eql (.t 5) (k 0))] [])
 (.cond (.t 6) (.seq (.region (some [1,2]) [i 7 (.faddr 40 (.t 1)),
 i 8 (.load true 8 (.t 7)),
 ⟨none,.store 8 (.t 2) (.t 8),none⟩] [])
 (.ret)) (.skip)))
 (.seq (.region (some [1,2]) [i 9 (.faddr 48 (.t 1)),
 i 10 (.load false 1 (.t 9)),
 i 11 (.faddr 48 (.t 1)),
 i 12 (.load false 1 (.t 11)),
 i 13 (.len false (.t 12)),
 i 14 (.bin .sub (.t 13) (k 1)),
 i 15 (.iaddrS 8 (.t 10) (.t 14)),
 i 16 (.load true 8 (.t 15)),
 ⟨none,.store 8 (.t 2) (.t 16),none⟩] [])
 (.ret)))
def a_q38 : AFn:=.code 1 c_q38 [.cell true 8 2]
theorem k_q38 : compF Tryz.prog h_q38 F_q38 = some a_q38:=by kernel_rfl

def h_q39 : Hints:={ kp:=[(0,[0,1]),(1,[2,3])],lkp:=[],lth:=[] }
def c_q39 : ACode :=
 .seq (.region (some [0,1]) [i 2 (.box (.t 0)),
 i 3 (.box (.t 1)),
 i 4 (.mv (kb false))] [])
 (.seq (.region (some [2,3]) [i 5 (.faddr 2 (.t 3)),
 i 6 (.load true 6 (.t 5)),
 i 7 (.call (.f F_q1g) [.t 6]),
 w 8 7,
 j 9 8 true (.faddr 1 (.t 3)),
 j 10 8 true (.load false 1 (.t 9)),
 j 11 8 true (.faddr 1 (.t 2)),
 j 12 8 true (.load false 1 (.t 11)),
 j 13 8 true (.bin .add (.t 12) (.c (.d (.i .u32 1)))),
 j 14 8 true (.bin .eql (.t 10) (.t 13)),
 i 15 (.pick (.t 8) (.t 14) (kb false)),
 w 16 15,
 j 17 16 true (.faddr 1 (.t 3)),
 j 18 16 true (.load false 1 (.t 17)),
 j 19 16 true (.faddr 1 (.t 2)),
 j 20 16 true (.load false 1 (.t 19)),
 j 21 16 true (.bin .gtr (.t 18) (.t 20)),
 i 22 (.pick (.t 16) (.t 21) (kb false)),
 w 23 22,
 j 24 23 true (.faddr 0 (.t 3)),
 j 25 23 true (.load false 1 (.t 24)),
 j 26 23 true (.faddr 0 (.t 2)),
 j 27 23 true (.load false 1 (.t 26)),
 j 28 23 true (.bin .geq (.t 25) (.t 27)),
 i 29 (.pick (.t 23) (.t 28) (kb false)),
 w 30 29,
 j 31 30 true (.faddr 0 (.t 3)),
 j 32 30 true (.load false 1 (.t 31)),
 j 33 30 true (.bin .leq (.t 32) (.c (.d (.i .u32 60)))),
 i 34 (.pick (.t 30) (.t 33) (kb false)),
 w 4 34] [])
 (.ret))
def a_q39 : AFn:=.code 2 c_q39 [.tmp 4]
theorem k_q39 : compF Tryz.prog h_q39 F_q39 = some a_q39:=by kernel_rfl

def h_q40 : Hints:={ kp:=[(0,[0]),(1,[0]),(2,[]),(3,[0])],lkp:=[],lth:=[] }
def c_q40 : ACode :=
 .seq (.region (some [0]) [i 2 (.mv (.c (.nilS)))] [])
 (.seq (.seq (.region (some [0]) [w 3 0,
 i 4 (.isnil false (.t 3))] [])
 (.cond (.t 4) (.seq (.region (some []) [i 2 (.mv (.c (.nilS)))] [])
 (.ret)) (.skip)))
 (.seq (.region (some [0]) [i 5 (.bsl 8 []),
 w 6 0,
 i 7 (.app 8 (.t 5) (.t 6)),
 w 2 7] [])
 (.ret)))
def a_q40 : AFn:=.code 1 c_q40 [.tmp 2]
theorem k_q40 : compF Tryz.prog h_q40 F_q40 = some a_q40:=by kernel_rfl

def h_q37 : Hints:={ kp:=[(0,[0,1]),(1,[1,2,4]),(2,[1,2,4,10,11,12]),(3,[1,2,4,10,11,12]),(4,[1,2,4,6,10,11,12]),(5,[1,2,4,6,10,11,12]),(6,[1,2,4,10,11,12]),(7,[1,2,4]),(8,[2,4])],lkp:=[(2,[1,2,4,10,11,12])],lth:=[] }
def zqx : Option (List Nat):=(some [1,2,4,10,11,12])
def zpa : ACode :=
 .seq (.region (some [1,2,4,10,11,12]) [i 13 (.bin .lss (.t 12) (.t 11))] [])
 (.seq (.cond (.t 13) (.skip) (.exit 0))
 (.seq (.block 1 (.seq (.region (some [1,2,4,10,11,12]) [i 14 (.iaddrS 8 (.t 10) (.t 12)),
 i 15 (.load true 8 (.t 14)),
 ⟨some 6,.box (.c (.d (.agg [.i .u32 0,.i .u32 0,.i .u8 0,.i .u32 0,.i .u8 0,.i .u8 0,.i .u8 0,.s ⟨#[]⟩]))),none⟩,
 ⟨none,.store 8 (.t 6) (.t 15),none⟩] [])
 (.seq (.region (some [1,2,4,6,10,11,12]) [i 17 (.faddr 1 (.t 2)),
 i 18 (.load true 39 (.t 17)),
 i 19 (.faddr 2 (.t 6)),
 i 20 (.load true 6 (.t 19)),
 i 21 (.call (.f F_q1d) [.t 18,.t 20]),
 w 16 21,
 i 22 (.ext (.t 16) 0),
 i 23 (.ext (.t 16) 1),
 i 24 (.faddr 1 (.t 2)),
 ⟨none,.store 39 (.t 24) (.t 22),none⟩] [])
 (.region (some [1,2,4,6,10,11,12]) [i 25 (.faddr 0 (.t 6)),
 i 26 (.load false 1 (.t 25)),
 i 27 (.faddr 1 (.t 6)),
 i 28 (.load false 1 (.t 27)),
 ⟨some 29,.build [.d (.i .u32 0),.d (.i .u32 0),.d (.i .u8 0),.d (.i .u32 0),.d (.i .u8 0),.d (.i .u8 0),.d (.i .u8 0),.d (.s ⟨#[]⟩)] [(0,1,.t 26),(1,1,.t 28)],none⟩,
 i 30 (.faddr 40 (.t 2)),
 ⟨none,.store 8 (.t 30) (.t 29),none⟩] []))))
 (.region (some [1,2,4,10,11,12]) [i 31 (.bin .add (.t 12) (k 1)),
 w 12 31] [])))
def c_q37 : ACode :=
 .seq (.region (some [0,1]) [i 2 (.box (.t 0)),
 i 4 (.box (.c (.agg Pk.State.zeroA)))] [])
 (.seq (.seq (.region (some [1,2,4]) [i 7 (.faddr 48 (.t 2)),
 i 8 (.load false 1 (.t 7)),
 w 9 1,
 i 10 (.slice 8 (.t 8) none (some (.t 9)) none),
 i 11 (.len false (.t 10)),
 i 12 (.mv (k 0))] [])
 (.block 0 (.loop zqx [] zpa)))
 (.seq (.region (some [1,2,4]) [i 32 (.faddr 48 (.t 2)),
 i 33 (.load false 1 (.t 32)),
 w 34 1,
 i 35 (.slice 8 (.t 33) (some (.t 34)) none none),
 i 36 (.call (.f F_q40) [.t 35]),
 i 37 (.faddr 48 (.t 2)),
 ⟨none,.store 1 (.t 37) (.t 36),none⟩] [])
 (.seq (.region (some [2,4]) [i 38 (.load true 49 (.t 2)),
 ⟨none,.store 49 (.t 4) (.t 38),none⟩] [])
 (.ret))))
def a_q37 : AFn:=.code 2 c_q37 [.cell true 49 4]
theorem k_q37 : compF Tryz.prog h_q37 F_q37 = some a_q37:=by kernel_rfl

def h_q43 : Hints:={ kp:=[(0,[0,1]),(1,[0,1])],lkp:=[],lth:=[] }
def c_q43 : ACode :=
 .seq (.region (some [0,1]) [i 4 (.mv (kb false))] [])
 (.seq (.region (some [0,1]) [w 5 0,
 w 6 1,
 i 7 (.call (.f F_q4b) [.t 5,.t 6]),
 i 8 (.bin .geq (.t 7) (k 0)),
 w 4 8] [])
 (.ret))
def a_q43 : AFn:=.code 2 c_q43 [.tmp 4]
theorem k_q43 : compF Tryz.prog h_q43 F_q43 = some a_q43:=by kernel_rfl

def h_q3m : Hints:={ kp:=[(0,[0]),(1,[1])],lkp:=[],lth:=[] }
def c_q3m : ACode :=
 .seq (.region (some [0]) [i 1 (.box (.t 0)),
 i 2 (.mv (kb false))] [])
 (.seq (.region (some [1]) [i 3 (.load true 49 (.t 1)),
 i 4 (.call (.f F_q32) [.t 3]),
 i 5 (.un .not (.t 4)),
 w 2 5] [])
 (.ret))
def a_q3m : AFn:=.code 1 c_q3m [.tmp 2]
theorem k_q3m : compF Tryz.prog h_q3m F_q3m = some a_q3m:=by kernel_rfl

def h_q03 : Hints:={ kp:=[(0,[0,1]),(1,[0,1]),(2,[]),(3,[0,1]),(4,[0,1,5]),(5,[0,1,5,6]),(6,[0,5,6,21,22,23]),(7,[0,5,6,21,22,23]),(8,[0,5,6,7,8,21,22,23]),(9,[0,5,6,7,8,9,10,21,22,23]),(10,[0,5,6,7,11,21,22,23]),(11,[0,6,7,11,21,22,23]),(12,[0,5,6,21,22,23]),(13,[5])],lkp:=[(6,[0,5,6,21,22,23])],lth:=[] }
def zo3 : Option (List Nat):=(some [0,5,6,21,22,23])
def zpz : ACode :=
 .seq (.region (some [0,5,6,21,22,23]) [i 24 (.bin .lss (.t 23) (.t 22))] [])
 (.seq (.cond (.t 24) (.skip) (.exit 0))
 (.seq (.block 1 (.seq (.region (some [0,5,6,21,22,23]) [w 25 23,
 i 26 (.iaddrS 49 (.t 21) (.t 23)),
 i 27 (.load true 49 (.t 26)),
 i 8 (.box (.c (.agg Pk.State.zeroA))),
 w 7 25,
 ⟨none,.store 49 (.t 8) (.t 27),none⟩] [])
 (.seq (.region (some [0,5,6,7,8,21,22,23]) [i 29 (.load true 49 (.t 8)),
 i 30 (.call (.f F_q31) [.t 29]),
 w 28 30,
 i 31 (.ext (.t 28) 0),
 i 32 (.ext (.t 28) 1),
 w 9 31,
 w 10 32] [])
 (.seq (.region (some [0,5,6,7,8,9,10,21,22,23]) [w 33 0,
 w 34 7,
 i 35 (.iaddrS 1 (.t 33) (.t 34)),
 i 36 (.load false 1 (.t 35)),
 i 37 (.faddr 0 (.t 8)),
 i 38 (.load false 1 (.t 37)),
 w 39 9,
 w 40 10,
 i 41 (.build [.d (.i .i64 0),.d (.i .u32 0),.d (.i .u32 0),.d (.i .u32 0)] [(0,1,.t 36),(1,1,.t 38),(2,1,.t 39),(3,1,.t 40)]),
 i 11 (.box (.c (.d (.agg [.i .i64 0,.i .u32 0,.i .u32 0,.i .u32 0])))),
 ⟨none,.store 4 (.t 11) (.t 41),none⟩] [(3,5),(3,9),(5,9)])
 (.seq (.region (some [0,5,6,7,11,21,22,23]) [w 42 5,
 i 43 (.bin .lss (.t 42) (k 0)),
 w 44 43,
 j 45 44 false (.load true 4 (.t 11)),
 j 46 44 false (.load true 4 (.t 6)),
 j 47 44 false (.call (.f F_q0a) [.t 45,.t 46]),
 i 48 (.pick (.t 44) (kb true) (.t 47))] [])
 (.cond (.t 48) (.region (some [0,6,7,11,21,22,23]) [w 49 7,
 i 50 (.load true 4 (.t 11)),
 w 5 49,
 ⟨none,.store 4 (.t 6) (.t 50),none⟩] []) (.skip)))))))
 (.region (some [0,5,6,21,22,23]) [i 51 (.bin .add (.t 23) (k 1)),
 w 23 51] [])))
def c_q03 : ACode :=
 .seq (.region (some [0,1]) [i 4 (.mv (k 0))] [])
 (.seq (.seq (.region (some [0,1]) [w 12 0,
 i 13 (.len false (.t 12)),
 w 14 1,
 i 15 (.len false (.t 14)),
 i 16 (.bin .neq (.t 13) (.t 15)),
 w 17 16,
 j 18 17 false (.mv (.t 1)),
 j 19 17 false (.call (.f F_q43) [.t 18,.f F_q04]),
 i 20 (.pick (.t 17) (kb true) (.t 19))] [])
 (.cond (.t 20) (.seq (.region (some []) [i 4 (.mv (.c (.d (.i .i64 (-1)))))] [])
 (.ret)) (.skip)))
 (.seq (.region (some [0,1]) [i 5 (.mv (.c (.d (.i .i64 (-1)))))] [])
 (.seq (.region (some [0,1,5]) [i 6 (.box (.c (.d (.agg [.i .i64 0,.i .u32 0,.i .u32 0,.i .u32 0]))))] [])
 (.seq (.seq (.region (some [0,1,5,6]) [w 21 1,
 i 22 (.len false (.t 21)),
 i 23 (.mv (k 0))] [])
 (.block 0 (.loop zo3 [] zpz)))
 (.seq (.region (some [5]) [w 52 5,
 w 4 52] [])
 (.ret))))))
def a_q03 : AFn:=.code 2 c_q03 [.tmp 4]
theorem k_q03 : compF Tryz.prog h_q03 F_q03 = some a_q03:=by kernel_rfl

def h_q05 : Hints:={ kp:=[(0,[0,1,2,3]),(1,[0,1,3,6]),(2,[0,1,3,6,9])],lkp:=[],lth:=[] }
def c_q05 : ACode :=
 .seq (.region (some [0,1,2,3]) [i 6 (.box (.t 2)),
 i 8 (.mv (kb false))] [])
 (.seq (.region (some [0,1,3,6]) [i 10 (.mkfn F_q06 [] [.t 6]),
 w 9 10] [])
 (.seq (.region (some [0,1,3,6,9]) [w 11 0,
 w 12 1,
 i 13 (.load false 1 (.t 6)),
 w 14 3,
 i 15 (.call (.f F_q07) [.t 11,.t 12,.t 13,.t 14]),
 i 16 (.len false (.t 15)),
 i 17 (.bin .eql (.t 16) (k 0)),
 w 18 17,
 j 19 18 true (.mv (.t 0)),
 j 20 18 true (.mv (.t 1)),
 j 21 18 true (.call (.f F_q0f) [.t 19,.t 20]),
 j 22 18 true (.mv (.t 9)),
 j 23 18 true (.call (.f F_q44) [.t 21,.t 22]),
 j 24 18 true (.un .not (.t 23)),
 i 25 (.pick (.t 18) (.t 24) (kb false)),
 w 8 25] [])
 (.ret)))
def a_q05 : AFn:=.code 4 c_q05 [.tmp 8]
theorem k_q05 : compF Tryz.prog h_q05 F_q05 = some a_q05:=by kernel_rfl

def h_q09 : Hints:={ kp:=[(0,[0]),(1,[0]),(2,[0,3]),(3,[3,6,7,8]),(4,[3,6,7,8]),(5,[3,5,6,7,8]),(6,[3,6,7,8]),(7,[3])],lkp:=[(3,[3,6,7,8])],lth:=[] }
def zkv : Option (List Nat):=(some [3,6,7,8])
def zqt : ACode :=
 .seq (.region (some [3,6,7,8]) [i 9 (.bin .lss (.t 8) (.t 7))] [])
 (.seq (.cond (.t 9) (.skip) (.exit 0))
 (.seq (.block 1 (.seq (.region (some [3,6,7,8]) [i 10 (.iaddrS 49 (.t 6) (.t 8)),
 i 11 (.load true 49 (.t 10)),
 i 5 (.box (.c (.agg Pk.State.zeroA))),
 ⟨none,.store 49 (.t 5) (.t 11),none⟩] [])
 (.region (some [3,5,6,7,8]) [w 12 3,
 i 13 (.faddr 0 (.t 5)),
 i 14 (.load false 1 (.t 13)),
 i 15 (.mm true [.t 12,.t 14]),
 w 3 15] [])))
 (.region (some [3,6,7,8]) [i 16 (.bin .add (.t 8) (k 1)),
 w 8 16] [])))
def c_q09 : ACode :=
 .seq (.region (some [0]) [i 2 (.mv (.c (.d (.i .u32 0))))] [])
 (.seq (.region (some [0]) [i 3 (.mv (.c (.d (.i .u32 0))))] [])
 (.seq (.seq (.region (some [0,3]) [w 6 0,
 i 7 (.len false (.t 6)),
 i 8 (.mv (k 0))] [])
 (.block 0 (.loop zkv [] zqt)))
 (.seq (.region (some [3]) [w 17 3,
 w 2 17] [])
 (.ret))))
def a_q09 : AFn:=.code 1 c_q09 [.tmp 2]
theorem k_q09 : compF Tryz.prog h_q09 F_q09 = some a_q09:=by kernel_rfl

def h_q3n : Hints:={ kp:=[(0,[0,1]),(1,[2,3,4])],lkp:=[],lth:=[] }
def c_q3n : ACode :=
 .seq (.region (some [0,1]) [i 2 (.box (.t 0)),
 i 3 (.box (.t 1)),
 i 4 (.box (.c (.agg Pk.Diff.zeroA)))] [])
 (.seq (.region (some [2,3,4]) [i 5 (.load true 49 (.t 3)),
 i 6 (.faddr 0 (.t 2)),
 i 7 (.load true 49 (.t 6)),
 i 8 (.call (.f F_q18) [.t 5,.t 7]),
 ⟨none,.store 52 (.t 4) (.t 8),none⟩] [])
 (.ret))
def a_q3n : AFn:=.code 2 c_q3n [.cell true 52 4]
theorem k_q3n : compF Tryz.prog h_q3n F_q3n = some a_q3n:=by kernel_rfl

def h_q0k : Hints:={ kp:=[(0,[0,1]),(1,[0,3]),(2,[0,3]),(3,[0,3]),(4,[0,3,19]),(5,[0,3,19]),(6,[0,3,4,19]),(7,[0,3,4,5,19]),(8,[0,3,4,5,6,19]),(9,[0,3,4,5,6,19]),(10,[0,3,19])],lkp:=[(4,[0,3,19])],lth:=[] }
def zcd : Option (List Nat):=(some [0,3,19])
def zca : ACode :=
 .seq (.region (some [0,3,19]) [i 20 (.bin .lss (.t 19) (k 4))] [])
 (.seq (.cond (.t 20) (.skip) (.exit 0))
 (.seq (.block 1 (.seq (.region (some [0,3,19]) [w 21 19,
 w 4 21] [])
 (.seq (.region (some [0,3,4,19]) [i 22 (.load true 16 (.t 3)),
 w 23 4,
 i 24 (.conv .u8 (.t 23)),
 i 25 (.call (.f F_q3c) [.t 22,.t 24]),
 w 5 25] [])
 (.seq (.region (some [0,3,4,5,19]) [w 26 0,
 w 27 4,
 i 28 (.nilck (.t 26)),
 i 29 (.faddr 3 (.t 28)),
 i 30 (.iaddrA 4 1 (.t 29) (.t 27)),
 i 31 (.load false 1 (.t 30)),
 w 6 31] [])
 (.seq (.region (some [0,3,4,5,6,19]) [w 32 6,
 i 33 (.len false (.t 32)),
 i 34 (.bin .eql (.t 33) (k 0)),
 w 35 34,
 j 36 35 false (.mv (.t 6)),
 j 37 35 false (.mv (.t 6)),
 j 38 35 false (.len false (.t 37)),
 j 39 35 false (.bin .sub (.t 38) (k 1)),
 j 40 35 false (.iaddrS 2 (.t 36) (.t 39)),
 j 41 35 false (.faddr 1 (.t 40)),
 j 42 35 false (.load false 1 (.t 41)),
 j 43 35 false (.mv (.t 5)),
 j 44 35 false (.call (.f F_q49) [.t 42,.t 43]),
 j 45 35 false (.un .not (.t 44)),
 i 46 (.pick (.t 35) (kb true) (.t 45))] [])
 (.cond (.t 46) (.region (some [0,3,4,5,6,19]) [w 47 0,
 w 48 4,
 w 49 6,
 i 50 (.faddr 0 (.t 3)),
 i 51 (.load false 1 (.t 50)),
 w 52 5,
 i 53 (.build Pk.Itv.zeroA [(0,1,.t 51),(1,1,.t 52)]),
 i 54 (.bsl 2 [.t 53]),
 i 55 (.app 2 (.t 49) (.t 54)),
 i 56 (.nilck (.t 47)),
 i 57 (.faddr 3 (.t 56)),
 i 58 (.iaddrA 4 1 (.t 57) (.t 48)),
 ⟨none,.store 1 (.t 58) (.t 55),none⟩] []) (.skip)))))))
 (.region (some [0,3,19]) [i 59 (.bin .add (.t 19) (k 1)),
 w 19 59] [])))
def c_q0k : ACode :=
 .seq (.region (some [0,1]) [i 3 (.box (.t 1))] [])
 (.seq (.region (some [0,3]) [w 7 0,
 i 8 (.nilck (.t 7)),
 i 9 (.faddr 0 (.t 8)),
 i 10 (.load false 1 (.t 9)),
 i 11 (.faddr 0 (.t 3)),
 i 12 (.load false 1 (.t 11)),
 i 13 (.load true 16 (.t 3)),
 ⟨none,.mset .u32 (.t 10) (.t 12) (.t 13),none⟩] [(3,5),(3,6),(5,6)])
 (.seq (.region (some [0,3]) [w 14 0,
 i 15 (.faddr 0 (.t 3)),
 i 16 (.load false 1 (.t 15)),
 i 17 (.nilck (.t 14)),
 i 18 (.faddr 2 (.t 17)),
 ⟨none,.store 1 (.t 18) (.t 16),none⟩] [])
 (.seq (.region (some [0,3]) [i 19 (.mv (k 0))] [])
 (.block 0 (.loop zcd [] zca)))))
def a_q0k : AFn:=.code 2 c_q0k []
theorem k_q0k : compF Tryz.prog h_q0k F_q0k = some a_q0k:=by kernel_rfl

def h_q0v : Hints:={ kp:=[(0,[]),(1,[0]),(2,[0,1]),(3,[0,1,4]),(4,[0,1,4]),(5,[0,1,2,4]),(6,[0,1,4]),(7,[0,1])],lkp:=[(3,[0,1,4])],lth:=[] }
def zqv : Option (List Nat):=(some [0,1,4])
def zps : ACode :=
 .seq (.region (some [0,1,4]) [i 5 (.bin .lss (.t 4) (k 5))] [])
 (.seq (.cond (.t 5) (.skip) (.exit 0))
 (.seq (.block 1 (.seq (.region (some [0,1,4]) [w 6 4,
 w 2 6] [])
 (.region (some [0,1,2,4]) [w 7 2,
 w 8 2,
 i 9 (.bin .rem (.t 8) (k 4)),
 i 10 (.conv .u8 (.t 9)),
 i 11 (.build [.d (.b false),.d (.i .i64 0),.d (.i .u8 0)] [(0,1,.c (.d (.b true))),(1,1,.c (.d (.i .i64 8))),(2,1,.t 10)]),
 i 12 (.faddr 1 (.t 1)),
 i 13 (.iaddrA 5 3 (.t 12) (.t 7)),
 ⟨none,.store 3 (.t 13) (.t 11),none⟩] [])))
 (.region (some [0,1,4]) [i 14 (.bin .add (.t 4) (k 1)),
 w 4 14] [])))
def c_q0v : ACode :=
 .seq (.region (some []) [i 0 (.box (.c (.d (.agg Pk.Mp.zero.cs))))] [])
 (.seq (.region (some [0]) [i 3 (.build (List.map .d Pk.Mp.zero.cs) [(0,1,.c (.d (.i .u32 1)))]),
 i 1 (.box (.c (.d (.agg Pk.Mp.zero.cs)))),
 ⟨none,.store 16 (.t 1) (.t 3),none⟩] [])
 (.seq (.seq (.region (some [0,1]) [i 4 (.mv (k 0))] [])
 (.block 0 (.loop zqv [] zps)))
 (.seq (.region (some [0,1]) [i 15 (.load true 16 (.t 1)),
 ⟨none,.store 16 (.t 0) (.t 15),none⟩] [])
 (.ret))))
def a_q0v : AFn:=.code 0 c_q0v [.cell true 16 0]
theorem k_q0v : compF Tryz.prog h_q0v F_q0v = some a_q0v:=by kernel_rfl

def h_q17 : Hints:={ kp:=[(0,[0]),(1,[1]),(2,[1,3]),(3,[3,17,18]),(4,[3,17,18]),(5,[3,5,17,18]),(6,[3,17,18]),(7,[3,17,18]),(8,[3])],lkp:=[(3,[3,17,18])],lth:=[] }
def zmx : Option (List Nat):=(some [3,17,18])
def zlk : ACode :=
 .seq (.region (some [3,17,18]) [i 19 (.bin .lss (.t 18) (k 6))] [])
 (.seq (.cond (.t 19) (.skip) (.exit 0))
 (.seq (.block 1 (.seq (.region (some [3,17,18]) [i 20 (.idxA true 6 5 (.t 17) (.t 18)),
 ⟨some 5,.box (.c (.d (.agg [.b false,.s ⟨#[]⟩,.s ⟨#[]⟩,.s ⟨#[]⟩,.s ⟨#[]⟩]))),none⟩,
 ⟨none,.store 5 (.t 5) (.t 20),none⟩] [])
 (.seq (.region (some [3,5,17,18]) [i 21 (.faddr 0 (.t 5)),
 i 22 (.load false 1 (.t 21))] [])
 (.cond (.t 22) (.region (some [3,17,18]) [w 23 3,
 i 24 (.bin .add (.t 23) (k 1)),
 w 3 24] []) (.skip)))))
 (.region (some [3,17,18]) [i 25 (.bin .add (.t 18) (k 1)),
 w 18 25] [])))
def c_q17 : ACode :=
 .seq (.region (some [0]) [i 1 (.box (.t 0)),
 i 2 (.mv (k 0))] [])
 (.seq (.region (some [1]) [i 6 (.faddr 2 (.t 1)),
 i 7 (.load false 1 (.t 6)),
 i 8 (.len false (.t 7)),
 i 9 (.faddr 3 (.t 1)),
 i 10 (.faddr 48 (.t 9)),
 i 11 (.load false 1 (.t 10)),
 i 12 (.len false (.t 11)),
 i 13 (.bin .add (.t 8) (.t 12)),
 w 3 13] [])
 (.seq (.seq (.region (some [1,3]) [i 14 (.faddr 3 (.t 1)),
 i 15 (.faddr 1 (.t 14)),
 i 16 (.faddr 0 (.t 15)),
 i 17 (.load true 30 (.t 16)),
 i 18 (.mv (k 0))] [])
 (.block 0 (.loop zmx [] zlk)))
 (.seq (.region (some [3]) [w 26 3,
 w 2 26] [])
 (.ret))))
def a_q17 : AFn:=.code 1 c_q17 [.tmp 2]
theorem k_q17 : compF Tryz.prog h_q17 F_q17 = some a_q17:=by kernel_rfl

def h_q2g : Hints:={ kp:=[(0,[0]),(1,[1]),(2,[]),(3,[1]),(4,[1,3,4]),(5,[1,3,4,5]),(7,[1,3,4,5]),(8,[1,3,4,5,6]),(9,[]),(10,[1,5,6]),(6,[1,3,4,5]),(11,[])],lkp:=[(5,[1,3,4,5])],lth:=[] }
def zdp : Option (List Nat):=(some [1,3,4,5])
def zdj : ACode :=
 .seq (.seq (.region (some [1,3,4,5]) [w 41 5,
 i 42 (.faddr 48 (.t 1)),
 i 43 (.load false 1 (.t 42)),
 i 44 (.len false (.t 43)),
 i 45 (.bin .lss (.t 41) (.t 44))] [])
 (.cond (.t 45) (.skip) (.exit 0)))
 (.seq (.block 1 (.seq (.region (some [1,3,4,5]) [i 48 (.faddr 48 (.t 1)),
 i 49 (.load false 1 (.t 48)),
 w 50 5,
 i 51 (.iaddrS 8 (.t 49) (.t 50)),
 i 52 (.load true 8 (.t 51)),
 ⟨some 6,.box (.c (.d (.agg [.i .u32 0,.i .u32 0,.i .u8 0,.i .u32 0,.i .u8 0,.i .u8 0,.i .u8 0,.s ⟨#[]⟩]))),none⟩,
 ⟨none,.store 8 (.t 6) (.t 52),none⟩] [])
 (.seq (.seq (.region (some [1,3,4,5,6]) [i 53 (.faddr 2 (.t 6)),
 i 54 (.load true 6 (.t 53)),
 i 55 (.call (.f F_q2l) [.t 54]),
 i 56 (.un .not (.t 55)),
 w 57 56,
 j 58 57 false (.faddr 1 (.t 6)),
 j 59 57 false (.load false 1 (.t 58)),
 j 60 57 false (.bin .eql (.t 59) (.c (.d (.i .u32 0)))),
 i 61 (.pick (.t 57) (kb true) (.t 60)),
 w 62 61,
 j 63 62 false (.faddr 1 (.t 6)),
 j 64 62 false (.load false 1 (.t 63)),
 j 65 62 false (.bin .sub (.t 64) (.c (.d (.i .u32 1)))),
 j 66 62 false (.mv (.t 4)),
 j 67 62 false (.bin .neq (.t 65) (.t 66)),
 i 68 (.pick (.t 62) (kb true) (.t 67)),
 w 69 68,
 j 70 69 false (.faddr 0 (.t 6)),
 j 71 69 false (.load false 1 (.t 70)),
 j 72 69 false (.mv (.t 3)),
 j 73 69 false (.bin .lss (.t 71) (.t 72)),
 i 74 (.pick (.t 69) (kb true) (.t 73)),
 w 75 74,
 j 76 75 false (.faddr 0 (.t 6)),
 j 77 75 false (.load false 1 (.t 76)),
 j 78 75 false (.bin .gtr (.t 77) (.c (.d (.i .u32 60)))),
 i 79 (.pick (.t 75) (kb true) (.t 78))] [])
 (.cond (.t 79) (.seq (.region (some []) [i 2 (.mv (kb false))] [])
 (.ret)) (.skip)))
 (.region (some [1,5,6]) [i 80 (.faddr 0 (.t 6)),
 i 81 (.load false 1 (.t 80)),
 i 82 (.faddr 1 (.t 6)),
 i 83 (.load false 1 (.t 82)),
 w 3 81,
 w 4 83] [(1,3)]))))
 (.region (some [1,3,4,5]) [w 46 5,
 i 47 (.bin .add (.t 46) (k 1)),
 w 5 47] []))
def c_q2g : ACode :=
 .seq (.region (some [0]) [i 1 (.box (.t 0)),
 i 2 (.mv (kb false))] [])
 (.seq (.seq (.region (some [1]) [i 7 (.faddr 0 (.t 1)),
 i 8 (.load false 1 (.t 7)),
 i 9 (.bin .gtr (.t 8) (.c (.d (.i .u32 60)))),
 w 10 9,
 j 11 10 false (.faddr 40 (.t 1)),
 j 12 10 false (.faddr 0 (.t 11)),
 j 13 10 false (.load false 1 (.t 12)),
 j 14 10 false (.bin .gtr (.t 13) (.c (.d (.i .u32 60)))),
 i 15 (.pick (.t 10) (kb true) (.t 14)),
 w 16 15,
 j 17 16 false (.faddr 40 (.t 1)),
 j 18 16 false (.faddr 2 (.t 17)),
 j 19 16 false (.load true 6 (.t 18)),
 ⟨some 20,.build [.d (.i .u8 0),.d (.i .u32 0),.d (.i .u8 0),.d (.i .u8 0),.d (.i .u8 0),.d (.s ⟨#[]⟩)] [],some (16,false)⟩,
 j 21 16 false (.eq true Pk.Opr.ety (.t 19) (.t 20)),
 i 22 (.pick (.t 16) (kb true) (.t 21)),
 w 23 22,
 j 24 23 false (.faddr 48 (.t 1)),
 j 25 23 false (.load false 1 (.t 24)),
 j 26 23 false (.len false (.t 25)),
 j 27 23 false (.bin .gtr (.t 26) (k 6)),
 i 28 (.pick (.t 23) (kb true) (.t 27)),
 w 29 28,
 j 30 29 false (.faddr 1 (.t 1)),
 j 31 29 false (.load true 39 (.t 30)),
 j 32 29 false (.call (.f F_q2n) [.t 31]),
 j 33 29 false (.un .not (.t 32)),
 i 34 (.pick (.t 29) (kb true) (.t 33))] [])
 (.cond (.t 34) (.seq (.region (some []) [i 2 (.mv (kb false))] [])
 (.ret)) (.skip)))
 (.seq (.region (some [1]) [i 35 (.faddr 40 (.t 1)),
 i 36 (.faddr 0 (.t 35)),
 i 37 (.load false 1 (.t 36)),
 i 38 (.faddr 40 (.t 1)),
 i 39 (.faddr 1 (.t 38)),
 i 40 (.load false 1 (.t 39)),
 w 3 37,
 w 4 40] [(2,5)])
 (.seq (.seq (.region (some [1,3,4]) [i 5 (.mv (k 0))] [])
 (.block 0 (.loop zdp [] zdj)))
 (.seq (.region (some []) [i 2 (.mv (kb true))] [])
 (.ret)))))
def a_q2g : AFn:=.code 1 c_q2g [.tmp 2]
theorem k_q2g : compF Tryz.prog h_q2g F_q2g = some a_q2g:=by kernel_rfl

def h_q15 : Hints:={ kp:=[(0,[0,1]),(1,[2,3,4]),(2,[2,3,4,6]),(3,[4,6]),(4,[2,3,4,6]),(5,[3,4,6]),(6,[4,6]),(7,[3,4]),(8,[2,3,4,6]),(9,[2,3,4,6,7]),(10,[2,3,4,6,7]),(11,[3,4,6,7,8,9]),(12,[4,6]),(13,[3,4,6,7,8]),(14,[3,4,6,7,9]),(15,[4,6]),(16,[3,4,6,7]),(17,[3,4,6,7,10]),(18,[3,4,6,7,10]),(19,[4,6]),(20,[4,7])],lkp:=[],lth:=[] }
def c_q15 : ACode :=
 .seq (.region (some [0,1]) [i 2 (.box (.t 0)),
 i 3 (.box (.t 1)),
 i 4 (.box (.c (.agg Pk.State.zeroA))),
 i 5 (.mv (k 0))] [])
 (.seq (.region (some [2,3,4]) [i 6 (.mv (.f F_q16))] [])
 (.seq (.seq (.region (some [2,3,4,6]) [i 11 (.load true 49 (.t 2)),
 i 12 (.call (.f F_q32) [.t 11]),
 i 13 (.un .not (.t 12)),
 w 14 13,
 j 15 14 false (.faddr 0 (.t 3)),
 j 16 14 false (.load false 1 (.t 15)),
 j 17 14 false (.bin .lss (.t 16) (k 0)),
 i 18 (.pick (.t 14) (kb true) (.t 17)),
 w 19 18,
 j 20 19 false (.faddr 0 (.t 3)),
 j 21 19 false (.load false 1 (.t 20)),
 j 22 19 false (.bin .gtr (.t 21) (k 2)),
 i 23 (.pick (.t 19) (kb true) (.t 22)),
 w 24 23,
 j 25 24 false (.faddr 0 (.t 3)),
 j 26 24 false (.load false 1 (.t 25)),
 j 27 24 false (.bin .neq (.t 26) (k 1)),
 j 28 24 false (.mv (.t 27)),
 j 29 28 true (.faddr 2 (.t 3)),
 j 30 28 true (.load false 1 (.t 29)),
 j 31 28 true (.len false (.t 30)),
 j 32 28 true (.bin .gtr (.t 31) (k 0)),
 j 33 28 true (.mv (.t 32)),
 j 34 33 false (.faddr 1 (.t 3)),
 j 35 33 false (.load false 1 (.t 34)),
 j 36 33 false (.bin .neq (.t 35) (.c (.d (.i .u32 0)))),
 j 37 28 true (.pick (.t 33) (kb true) (.t 36)),
 j 38 24 false (.pick (.t 28) (.t 37) (kb false)),
 i 39 (.pick (.t 24) (kb true) (.t 38))] [])
 (.cond (.t 39) (.seq (.region (some [4,6]) [w 40 6,
 i 41 (.call (.t 40) []),
 i 42 (.ext (.t 41) 0),
 i 43 (.ext (.t 41) 1),
 ⟨none,.store 49 (.t 4) (.t 42),none⟩,
 w 5 43] [])
 (.ret)) (.skip)))
 (.seq (.seq (.region (some [2,3,4,6]) [i 44 (.faddr 0 (.t 3)),
 i 45 (.load false 1 (.t 44)),
 i 46 (.bin .eql (.t 45) (k 2))] [])
 (.cond (.t 46) (.seq (.seq (.region (some [3,4,6]) [i 47 (.faddr 3 (.t 3)),
 i 48 (.load true 49 (.t 47)),
 i 49 (.call (.f F_q32) [.t 48]),
 i 50 (.un .not (.t 49))] [])
 (.cond (.t 50) (.seq (.region (some [4,6]) [w 51 6,
 i 52 (.call (.t 51) []),
 i 53 (.ext (.t 52) 0),
 i 54 (.ext (.t 52) 1),
 ⟨none,.store 49 (.t 4) (.t 53),none⟩,
 w 5 54] [])
 (.ret)) (.skip)))
 (.seq (.region (some [3,4]) [i 55 (.faddr 3 (.t 3)),
 i 56 (.load true 49 (.t 55)),
 i 57 (.call (.f F_q2y) [.t 56]),
 ⟨none,.store 49 (.t 4) (.t 57),none⟩,
 i 5 (.mv (k 0))] [])
 (.ret))) (.skip)))
 (.seq (.region (some [2,3,4,6]) [i 58 (.load true 49 (.t 2)),
 i 7 (.box (.c (.agg Pk.State.zeroA))),
 ⟨none,.store 49 (.t 7) (.t 58),none⟩] [])
 (.seq (.seq (.region (some [2,3,4,6,7]) [i 59 (.faddr 0 (.t 3)),
 i 60 (.load false 1 (.t 59)),
 i 61 (.bin .eql (.t 60) (k 1))] [])
 (.cond (.t 61) (.seq (.region (some [2,3,4,6,7]) [i 63 (.load true 49 (.t 2)),
 i 64 (.faddr 1 (.t 3)),
 i 65 (.load false 1 (.t 64)),
 i 66 (.call (.f F_q2z) [.t 63,.t 65]),
 w 62 66,
 i 67 (.ext (.t 62) 0),
 i 68 (.ext (.t 62) 1),
 i 8 (.box (.c (.agg Pk.State.zeroA))),
 ⟨none,.store 49 (.t 8) (.t 67),none⟩,
 w 9 68] [])
 (.seq (.seq (.region (some [3,4,6,7,8,9]) [w 69 9,
 i 70 (.bin .neq (.t 69) (k 0))] [])
 (.cond (.t 70) (.seq (.region (some [4,6]) [w 71 6,
 i 72 (.call (.t 71) []),
 i 73 (.ext (.t 72) 0),
 i 74 (.ext (.t 72) 1),
 ⟨none,.store 49 (.t 4) (.t 73),none⟩,
 w 5 74] [])
 (.ret)) (.skip)))
 (.seq (.region (some [3,4,6,7,8]) [i 76 (.load true 49 (.t 8)),
 i 77 (.faddr 2 (.t 3)),
 i 78 (.load false 1 (.t 77)),
 i 79 (.call (.f F_q19) [.t 76,.t 78]),
 w 75 79,
 i 80 (.ext (.t 75) 0),
 i 81 (.ext (.t 75) 1),
 ⟨none,.store 49 (.t 7) (.t 80),none⟩,
 w 9 81] [])
 (.seq (.region (some [3,4,6,7,9]) [w 82 9,
 i 83 (.bin .neq (.t 82) (k 0))] [])
 (.cond (.t 83) (.seq (.region (some [4,6]) [w 84 6,
 i 85 (.call (.t 84) []),
 i 86 (.ext (.t 85) 0),
 i 87 (.ext (.t 85) 1),
 ⟨none,.store 49 (.t 4) (.t 86),none⟩,
 w 5 87] [])
 (.ret)) (.skip)))))) (.skip)))
 (.seq (.region (some [3,4,6,7]) [i 89 (.load true 49 (.t 7)),
 i 90 (.faddr 3 (.t 3)),
 i 91 (.faddr 40 (.t 90)),
 i 92 (.faddr 1 (.t 91)),
 i 93 (.load false 1 (.t 92)),
 i 94 (.call (.f F_q34) [.t 89,.t 93]),
 w 88 94,
 i 95 (.ext (.t 88) 0),
 i 96 (.ext (.t 88) 1),
 ⟨none,.store 49 (.t 7) (.t 95),none⟩,
 w 10 96] [])
 (.seq (.region (some [3,4,6,7,10]) [i 97 (.faddr 3 (.t 3)),
 i 98 (.faddr 0 (.t 97)),
 i 99 (.load false 1 (.t 98)),
 i 100 (.faddr 0 (.t 7)),
 ⟨none,.store 1 (.t 100) (.t 99),none⟩] [])
 (.seq (.seq (.region (some [3,4,6,7,10]) [w 101 10,
 i 102 (.bin .neq (.t 101) (k 0)),
 w 103 102,
 j 104 103 false (.faddr 40 (.t 7)),
 j 105 103 false (.faddr 0 (.t 104)),
 j 106 103 false (.load false 1 (.t 105)),
 j 107 103 false (.faddr 3 (.t 3)),
 j 108 103 false (.faddr 40 (.t 107)),
 j 109 103 false (.faddr 0 (.t 108)),
 j 110 103 false (.load false 1 (.t 109)),
 j 111 103 false (.bin .neq (.t 106) (.t 110)),
 i 112 (.pick (.t 103) (kb true) (.t 111)),
 w 113 112,
 j 114 113 false (.load true 49 (.t 7)),
 j 115 113 false (.call (.f F_q32) [.t 114]),
 j 116 113 false (.un .not (.t 115)),
 i 117 (.pick (.t 113) (kb true) (.t 116))] [])
 (.cond (.t 117) (.seq (.region (some [4,6]) [w 118 6,
 i 119 (.call (.t 118) []),
 i 120 (.ext (.t 119) 0),
 i 121 (.ext (.t 119) 1),
 ⟨none,.store 49 (.t 4) (.t 120),none⟩,
 w 5 121] [])
 (.ret)) (.skip)))
 (.seq (.region (some [4,7]) [i 122 (.load true 49 (.t 7)),
 ⟨none,.store 49 (.t 4) (.t 122),none⟩,
 i 5 (.mv (k 0))] [])
 (.ret))))))))))
def a_q15 : AFn:=.code 2 c_q15 [.cell true 49 4,.tmp 5]
theorem k_q15 : compF Tryz.prog h_q15 F_q15 = some a_q15:=by kernel_rfl

def h_q2f : Hints:={ kp:=[(0,[0]),(1,[1]),(2,[]),(3,[1]),(4,[1]),(5,[1]),(6,[4])],lkp:=[],lth:=[] }
def c_q2f : ACode :=
 .seq (.region (some [0]) [i 1 (.box (.t 0)),
 i 2 (.mv (.c (.d (.i .u32 0)))),
 i 3 (.mv (.c (.d (.i .u32 0))))] [])
 (.seq (.seq (.region (some [1]) [i 5 (.load true 49 (.t 1)),
 i 6 (.call (.f F_q2g) [.t 5]),
 i 7 (.un .not (.t 6))] [])
 (.cond (.t 7) (.seq (.region (some []) [i 2 (.mv (.c (.d (.i .u32 0)))),
 i 3 (.mv (.c (.d (.i .u32 0))))] [])
 (.ret)) (.skip)))
 (.seq (.seq (.region (some [1]) [i 8 (.faddr 48 (.t 1)),
 i 9 (.load false 1 (.t 8)),
 i 10 (.len false (.t 9)),
 i 11 (.bin .eql (.t 10) (k 0))] [])
 (.cond (.t 11) (.seq (.region (some [1]) [i 12 (.faddr 40 (.t 1)),
 i 13 (.faddr 0 (.t 12)),
 i 14 (.load false 1 (.t 13)),
 i 15 (.faddr 40 (.t 1)),
 i 16 (.faddr 1 (.t 15)),
 i 17 (.load false 1 (.t 16)),
 w 2 14,
 w 3 17] [(2,5)])
 (.ret)) (.skip)))
 (.seq (.region (some [1]) [i 18 (.faddr 48 (.t 1)),
 i 19 (.load false 1 (.t 18)),
 i 20 (.faddr 48 (.t 1)),
 i 21 (.load false 1 (.t 20)),
 i 22 (.len false (.t 21)),
 i 23 (.bin .sub (.t 22) (k 1)),
 i 24 (.iaddrS 8 (.t 19) (.t 23)),
 i 25 (.load true 8 (.t 24)),
 ⟨some 4,.box (.c (.d (.agg [.i .u32 0,.i .u32 0,.i .u8 0,.i .u32 0,.i .u8 0,.i .u8 0,.i .u8 0,.s ⟨#[]⟩]))),none⟩,
 ⟨none,.store 8 (.t 4) (.t 25),none⟩] [])
 (.seq (.region (some [4]) [i 26 (.faddr 0 (.t 4)),
 i 27 (.load false 1 (.t 26)),
 i 28 (.faddr 1 (.t 4)),
 i 29 (.load false 1 (.t 28)),
 w 2 27,
 w 3 29] [(1,3)])
 (.ret)))))
def a_q2f : AFn:=.code 1 c_q2f [.tmp 2,.tmp 3]
theorem k_q2f : compF Tryz.prog h_q2f F_q2f = some a_q2f:=by kernel_rfl

def h_q2k : Hints:={ kp:=[(0,[0,1]),(1,[1,2,4]),(2,[1,2,4,7]),(3,[4]),(4,[1,2,4]),(5,[1,2,4,8]),(6,[1,2,4,8,9]),(8,[1,2,4,8,9]),(7,[1,2,4,8,9]),(9,[4,8])],lkp:=[(6,[1,2,4,8,9])],lth:=[] }
def zld : Option (List Nat):=(some [1,2,4,8,9])
def zkp : ACode :=
 .seq (.seq (.region (some [1,2,4,8,9]) [w 33 9,
 i 34 (.faddr 48 (.t 2)),
 i 35 (.load false 1 (.t 34)),
 i 36 (.len false (.t 35)),
 i 37 (.bin .lss (.t 33) (.t 36)),
 w 38 37,
 j 39 38 true (.faddr 48 (.t 2)),
 j 40 38 true (.load false 1 (.t 39)),
 j 41 38 true (.mv (.t 9)),
 j 42 38 true (.iaddrS 8 (.t 40) (.t 41)),
 j 43 38 true (.faddr 1 (.t 42)),
 j 44 38 true (.load false 1 (.t 43)),
 j 45 38 true (.mv (.t 1)),
 j 46 38 true (.bin .leq (.t 44) (.t 45)),
 i 47 (.pick (.t 38) (.t 46) (kb false))] [])
 (.cond (.t 47) (.skip) (.exit 0)))
 (.seq (.block 1 (.region (some [1,2,4,8,9]) [i 51 (.load true 39 (.t 8)),
 i 52 (.faddr 48 (.t 2)),
 i 53 (.load false 1 (.t 52)),
 w 54 9,
 i 55 (.iaddrS 8 (.t 53) (.t 54)),
 i 56 (.faddr 2 (.t 55)),
 i 57 (.load true 6 (.t 56)),
 i 58 (.call (.f F_q2c) [.t 51,.t 57]),
 w 50 58,
 i 59 (.ext (.t 50) 0),
 i 60 (.ext (.t 50) 1),
 ⟨none,.store 39 (.t 8) (.t 59),none⟩] [(0,2),(0,6)]))
 (.region (some [1,2,4,8,9]) [w 48 9,
 i 49 (.bin .add (.t 48) (k 1)),
 w 9 49] []))
def c_q2k : ACode :=
 .seq (.region (some [0,1]) [i 2 (.box (.t 0)),
 i 4 (.box (.c (.d (.agg Pk.Base.zero.cs)))),
 i 5 (.mv (kb false))] [])
 (.seq (.region (some [1,2,4]) [i 11 (.load true 49 (.t 2)),
 i 12 (.call (.f F_q2f) [.t 11]),
 w 10 12,
 i 13 (.ext (.t 10) 0),
 i 14 (.ext (.t 10) 1),
 w 6 13,
 w 7 14] [])
 (.seq (.seq (.region (some [1,2,4,7]) [i 15 (.load true 49 (.t 2)),
 i 16 (.call (.f F_q2g) [.t 15]),
 i 17 (.un .not (.t 16)),
 w 18 17,
 j 19 18 false (.mv (.t 1)),
 j 20 18 false (.faddr 40 (.t 2)),
 j 21 18 false (.faddr 1 (.t 20)),
 j 22 18 false (.load false 1 (.t 21)),
 j 23 18 false (.bin .lss (.t 19) (.t 22)),
 i 24 (.pick (.t 18) (kb true) (.t 23)),
 w 25 24,
 j 26 25 false (.mv (.t 1)),
 j 27 25 false (.mv (.t 7)),
 j 28 25 false (.bin .gtr (.t 26) (.t 27)),
 i 29 (.pick (.t 25) (kb true) (.t 28))] [])
 (.cond (.t 29) (.seq (.region (some [4]) [i 30 (.build (List.map .d Pk.Base.zero.cs) []),
 ⟨none,.store 39 (.t 4) (.t 30),none⟩,
 i 5 (.mv (kb false))] [])
 (.ret)) (.skip)))
 (.seq (.region (some [1,2,4]) [i 31 (.faddr 1 (.t 2)),
 i 32 (.load true 39 (.t 31)),
 i 8 (.box (.c (.d (.agg Pk.Base.zero.cs)))),
 ⟨none,.store 39 (.t 8) (.t 32),none⟩] [])
 (.seq (.seq (.region (some [1,2,4,8]) [i 9 (.mv (k 0))] [])
 (.block 0 (.loop zld [] zkp)))
 (.seq (.region (some [4,8]) [i 61 (.load true 39 (.t 8)),
 ⟨none,.store 39 (.t 4) (.t 61),none⟩,
 i 5 (.mv (kb true))] [])
 (.ret))))))
def a_q2k : AFn:=.code 2 c_q2k [.cell true 39 4,.tmp 5]
theorem k_q2k : compF Tryz.prog h_q2k F_q2k = some a_q2k:=by kernel_rfl

def h_q42 : Hints:={ kp:=[(0,[0]),(1,[0]),(2,[]),(3,[0])],lkp:=[],lth:=[] }
def c_q42 : ACode :=
 .seq (.region (some [0]) [i 2 (.mv (.c (.nilS)))] [])
 (.seq (.seq (.region (some [0]) [w 3 0,
 i 4 (.isnil false (.t 3))] [])
 (.cond (.t 4) (.seq (.region (some []) [i 2 (.mv (.c (.nilS)))] [])
 (.ret)) (.skip)))
 (.seq (.region (some [0]) [i 5 (.bsl 1 []),
 w 6 0,
 i 7 (.app 1 (.t 5) (.t 6)),
 w 2 7] [])
 (.ret)))
def a_q42 : AFn:=.code 1 c_q42 [.tmp 2]
theorem k_q42 : compF Tryz.prog h_q42 F_q42 = some a_q42:=by kernel_rfl

def h_q0j : Hints:={ kp:=[(0,[0,1]),(1,[0,1,4]),(2,[4]),(3,[0,1,4]),(4,[4,5])],lkp:=[],lth:=[] }
def c_q0j : ACode :=
 .seq (.region (some [0,1]) [i 4 (.box (.c (.agg Pk.Itv.zeroA)))] [])
 (.seq (.seq (.region (some [0,1,4]) [w 6 1,
 i 7 (.bin .geq (.t 6) (.c (.d (.i .u8 4))))] [])
 (.cond (.t 7) (.seq (.region (some [4]) [i 8 (.build Pk.Itv.zeroA []),
 ⟨none,.store 2 (.t 4) (.t 8),none⟩] [])
 (.ret)) (.skip)))
 (.seq (.region (some [0,1,4]) [w 9 0,
 w 10 1,
 i 11 (.nilck (.t 9)),
 i 12 (.faddr 3 (.t 11)),
 i 13 (.iaddrA 4 1 (.t 12) (.t 10)),
 i 14 (.load false 1 (.t 13)),
 w 5 14] [])
 (.seq (.region (some [4,5]) [w 15 5,
 w 16 5,
 i 17 (.len false (.t 16)),
 i 18 (.bin .sub (.t 17) (k 1)),
 i 19 (.iaddrS 2 (.t 15) (.t 18)),
 i 20 (.load true 2 (.t 19)),
 ⟨none,.store 2 (.t 4) (.t 20),none⟩] [])
 (.ret))))
def a_q0j : AFn:=.code 2 c_q0j [.cell true 2 4]
theorem k_q0j : compF Tryz.prog h_q0j F_q0j = some a_q0j:=by kernel_rfl

def h_q0u : Hints:={ kp:=[(0,[0,1]),(1,[2,3,4]),(2,[4]),(3,[2,3,4]),(4,[2,3,4]),(5,[2,3,4,6]),(6,[2,3,4,6,30]),(8,[2,3,4,6,30]),(10,[2,3,4,6,30]),(11,[2,3,4,6]),(9,[2,4,6]),(7,[2,4,6]),(12,[2,4])],lkp:=[],lth:=[] }
def c_q0u : ACode :=
 .seq (.region (some [0,1]) [i 2 (.box (.t 0)),
 i 3 (.box (.t 1)),
 i 4 (.box (.c (.d (.agg Pk.Mp.zero.cs)))),
 i 5 (.mv (k 0))] [])
 (.seq (.seq (.region (some [2,3,4]) [i 7 (.load true 16 (.t 2)),
 i 8 (.call (.f F_q0y) [.t 7]),
 i 9 (.un .not (.t 8)),
 w 10 9,
 j 11 10 false (.load true 3 (.t 3)),
 j 12 10 false (.call (.f F_q0z) [.t 11]),
 j 13 10 false (.un .not (.t 12)),
 i 14 (.pick (.t 10) (kb true) (.t 13)),
 w 15 14,
 j 16 15 false (.faddr 0 (.t 2)),
 j 17 15 false (.load false 1 (.t 16)),
 j 18 15 false (.bin .eql (.t 17) (.c (.d (.i .u32 60)))),
 i 19 (.pick (.t 15) (kb true) (.t 18))] [])
 (.cond (.t 19) (.seq (.region (some [4]) [i 20 (.build (List.map .d Pk.Mp.zero.cs) []),
 ⟨none,.store 16 (.t 4) (.t 20),none⟩,
 i 5 (.mv (k 40))] [])
 (.ret)) (.skip)))
 (.seq (.region (some [2,3,4]) [i 21 (.faddr 0 (.t 2)),
 i 22 (.load false 1 (.t 21)),
 i 23 (.bin .add (.t 22) (.c (.d (.i .u32 1)))),
 i 24 (.faddr 0 (.t 2)),
 ⟨none,.store 1 (.t 24) (.t 23),none⟩] [])
 (.seq (.seq (.region (some [2,3,4]) [i 25 (.faddr 1 (.t 3)),
 i 26 (.load false 1 (.t 25)),
 i 27 (.faddr 1 (.t 2)),
 i 28 (.iaddrA 5 3 (.t 27) (.t 26)),
 w 6 28] [])
 (.seq (.region (some [2,3,4,6]) [i 29 (.faddr 0 (.t 3)),
 i 30 (.load false 1 (.t 29))] [])
 (.block 0 (.seq (.region (some [2,3,4,6,30]) [i 32 (.bin .eql (.t 30) (.c (.d (.i .u8 1)))),
 w 31 32] [])
 (.cond (.t 31) (.region (some [2,4,6]) [w 33 6,
 i 34 (.nilck (.t 33)),
 i 35 (.faddr 0 (.t 34)),
 ⟨none,.store 1 (.t 35) (kb true),none⟩] []) (.seq (.region (some [2,3,4,6,30]) [i 37 (.bin .eql (.t 30) (.c (.d (.i .u8 2)))),
 w 36 37] [])
 (.cond (.t 36) (.region (some [2,4,6]) [w 38 6,
 i 39 (.nilck (.t 38)),
 i 40 (.faddr 0 (.t 39)),
 ⟨none,.store 1 (.t 40) (kb false),none⟩] []) (.seq (.region (some [2,3,4,6,30]) [i 42 (.bin .eql (.t 30) (.c (.d (.i .u8 3)))),
 w 41 42] [])
 (.cond (.t 41) (.region (some [2,3,4,6]) [w 43 6,
 i 44 (.faddr 2 (.t 3)),
 i 45 (.load false 1 (.t 44)),
 i 46 (.nilck (.t 43)),
 i 47 (.faddr 1 (.t 46)),
 ⟨none,.store 1 (.t 47) (.t 45),none⟩] []) (.skip))))))))))
 (.seq (.region (some [2,4]) [i 48 (.load true 16 (.t 2)),
 ⟨none,.store 16 (.t 4) (.t 48),none⟩,
 i 5 (.mv (k 0))] [])
 (.ret)))))
def a_q0u : AFn:=.code 2 c_q0u [.cell true 16 4,.tmp 5]
theorem k_q0u : compF Tryz.prog h_q0u F_q0u = some a_q0u:=by kernel_rfl

def h_q20 : Hints:={ kp:=[(0,[0,1]),(1,[2,3,4]),(2,[4]),(3,[2,3,4]),(4,[2,3,4]),(5,[2,3,4,25]),(6,[2,3,4,25]),(8,[2,3,4,25]),(9,[2,3,4]),(7,[2,3,4]),(10,[2,4])],lkp:=[],lth:=[] }
def c_q20 : ACode :=
 .seq (.region (some [0,1]) [i 2 (.box (.t 0)),
 i 3 (.box (.t 1)),
 i 4 (.box (.c (.d (.agg Pk.Mp.zero.cs)))),
 i 5 (.mv (kb false))] [])
 (.seq (.seq (.region (some [2,3,4]) [i 6 (.load true 16 (.t 2)),
 i 7 (.call (.f F_q28) [.t 6]),
 i 8 (.un .not (.t 7)),
 w 9 8,
 j 10 9 false (.load true 3 (.t 3)),
 j 11 9 false (.call (.f F_q29) [.t 10]),
 j 12 9 false (.un .not (.t 11)),
 i 13 (.pick (.t 9) (kb true) (.t 12)),
 w 14 13,
 j 15 14 false (.faddr 0 (.t 2)),
 j 16 14 false (.load false 1 (.t 15)),
 j 17 14 false (.bin .geq (.t 16) (.c (.d (.i .u32 60)))),
 i 18 (.pick (.t 14) (kb true) (.t 17))] [])
 (.cond (.t 18) (.seq (.region (some [4]) [i 19 (.build (List.map .d Pk.Mp.zero.cs) []),
 ⟨none,.store 16 (.t 4) (.t 19),none⟩,
 i 5 (.mv (kb false))] [])
 (.ret)) (.skip)))
 (.seq (.region (some [2,3,4]) [i 20 (.faddr 0 (.t 2)),
 i 21 (.load false 1 (.t 20)),
 i 22 (.bin .add (.t 21) (.c (.d (.i .u32 1)))),
 i 23 (.faddr 0 (.t 2)),
 ⟨none,.store 1 (.t 23) (.t 22),none⟩] [])
 (.seq (.seq (.region (some [2,3,4]) [i 24 (.faddr 0 (.t 3)),
 i 25 (.load false 1 (.t 24))] [])
 (.block 0 (.seq (.seq (.region (some [2,3,4,25]) [i 27 (.bin .eql (.t 25) (.c (.d (.i .u8 1)))),
 w 26 27] [])
 (.cond (.t 26) (.skip) (.region (some [2,3,4,25]) [i 28 (.bin .eql (.t 25) (.c (.d (.i .u8 2)))),
 w 26 28] [])))
 (.cond (.t 26) (.region (some [2,3,4]) [i 29 (.faddr 1 (.t 3)),
 i 30 (.load false 1 (.t 29)),
 i 31 (.faddr 0 (.t 3)),
 i 32 (.load false 1 (.t 31)),
 i 33 (.bin .eql (.t 32) (.c (.d (.i .u8 1)))),
 i 34 (.faddr 1 (.t 2)),
 i 35 (.iaddrA 5 3 (.t 34) (.t 30)),
 i 36 (.faddr 0 (.t 35)),
 ⟨none,.store 1 (.t 36) (.t 33),none⟩] []) (.seq (.region (some [2,3,4,25]) [i 38 (.bin .eql (.t 25) (.c (.d (.i .u8 3)))),
 w 37 38] [])
 (.cond (.t 37) (.region (some [2,3,4]) [i 39 (.faddr 1 (.t 3)),
 i 40 (.load false 1 (.t 39)),
 i 41 (.faddr 2 (.t 3)),
 i 42 (.load false 1 (.t 41)),
 i 43 (.faddr 1 (.t 2)),
 i 44 (.iaddrA 5 3 (.t 43) (.t 40)),
 i 45 (.faddr 1 (.t 44)),
 ⟨none,.store 1 (.t 45) (.t 42),none⟩] []) (.skip)))))))
 (.seq (.region (some [2,4]) [i 46 (.load true 16 (.t 2)),
 ⟨none,.store 16 (.t 4) (.t 46),none⟩,
 i 5 (.mv (kb true))] [])
 (.ret)))))
def a_q20 : AFn:=.code 2 c_q20 [.cell true 16 4,.tmp 5]
theorem k_q20 : compF Tryz.prog h_q20 F_q20 = some a_q20:=by kernel_rfl

def h_q25 : Hints:={ kp:=[(0,[0,1]),(1,[0,1,4]),(2,[0,1,4,5]),(3,[0,1,4,5,6]),(5,[0,1,4,5,6]),(4,[0,1,4,5,6]),(6,[4,5])],lkp:=[(3,[0,1,4,5,6])],lth:=[] }
def zqd : Option (List Nat):=(some [0,1,4,5,6])
def zph : ACode :=
 .seq (.seq (.region (some [0,1,4,5,6]) [w 8 6,
 i 9 (.bin .add (.t 8) (k 2)),
 w 10 1,
 i 11 (.conv .i64 (.t 10)),
 i 12 (.bin .leq (.t 9) (.t 11)),
 w 13 12,
 j 14 13 true (.mv (.t 6)),
 j 15 13 true (.mv (.t 0)),
 j 16 13 true (.nilck (.t 15)),
 j 17 13 true (.faddr 0 (.t 16)),
 j 18 13 true (.load false 1 (.t 17)),
 j 19 13 true (.len false (.t 18)),
 j 20 13 true (.bin .lss (.t 14) (.t 19)),
 i 21 (.pick (.t 13) (.t 20) (kb false))] [])
 (.cond (.t 21) (.skip) (.exit 0)))
 (.seq (.block 1 (.region (some [0,1,4,5,6]) [i 25 (.load true 16 (.t 5)),
 w 26 0,
 i 27 (.nilck (.t 26)),
 i 28 (.faddr 0 (.t 27)),
 i 29 (.load false 1 (.t 28)),
 w 30 6,
 i 31 (.iaddrS 3 (.t 29) (.t 30)),
 i 32 (.load true 3 (.t 31)),
 i 33 (.call (.f F_q20) [.t 25,.t 32]),
 w 24 33,
 i 34 (.ext (.t 24) 0),
 i 35 (.ext (.t 24) 1),
 ⟨none,.store 16 (.t 5) (.t 34),none⟩] [(0,4),(0,7)]))
 (.region (some [0,1,4,5,6]) [w 22 6,
 i 23 (.bin .add (.t 22) (k 1)),
 w 6 23] []))
def c_q25 : ACode :=
 .seq (.region (some [0,1]) [i 4 (.box (.c (.d (.agg Pk.Mp.zero.cs))))] [])
 (.seq (.region (some [0,1,4]) [i 7 (.call (.f F_q21) []),
 i 5 (.box (.c (.d (.agg Pk.Mp.zero.cs)))),
 ⟨none,.store 16 (.t 5) (.t 7),none⟩] [])
 (.seq (.seq (.region (some [0,1,4,5]) [i 6 (.mv (k 0))] [])
 (.block 0 (.loop zqd [] zph)))
 (.seq (.region (some [4,5]) [i 36 (.load true 16 (.t 5)),
 ⟨none,.store 16 (.t 4) (.t 36),none⟩] [])
 (.ret))))
def a_q25 : AFn:=.code 2 c_q25 [.cell true 16 4]
theorem k_q25 : compF Tryz.prog h_q25 F_q25 = some a_q25:=by kernel_rfl

def h_q2v : Hints:={ kp:=[(0,[0,1,2,3]),(1,[0,2,5,7]),(2,[0,2,5,7,9,10]),(3,[0,2,5,7,9,10,11,12]),(5,[0,2,9,10,11,12]),(7,[0,2,10,12]),(8,[10,12]),(6,[9,11]),(4,[5,7]),(9,[0,2])],lkp:=[],lth:=[] }
def c_q2v : ACode :=
 .seq (.region (some [0,1,2,3]) [i 5 (.box (.t 1)),
 i 7 (.box (.t 3)),
 i 8 (.mv (kb false))] [])
 (.seq (.region (some [0,2,5,7]) [i 14 (.load true 49 (.t 5)),
 i 15 (.call (.f F_q2f) [.t 14]),
 w 13 15,
 i 16 (.ext (.t 13) 0),
 i 17 (.ext (.t 13) 1),
 w 9 16,
 w 10 17] [])
 (.seq (.region (some [0,2,5,7,9,10]) [i 19 (.load true 49 (.t 7)),
 i 20 (.call (.f F_q2f) [.t 19]),
 w 18 20,
 i 21 (.ext (.t 18) 0),
 i 22 (.ext (.t 18) 1),
 w 11 21,
 w 12 22] [])
 (.seq (.block 0 (.seq (.region (some [0,2,5,7,9,10,11,12]) [i 24 (.faddr 0 (.t 5)),
 i 25 (.load false 1 (.t 24)),
 i 26 (.faddr 0 (.t 7)),
 i 27 (.load false 1 (.t 26)),
 i 28 (.bin .neq (.t 25) (.t 27)),
 w 23 28] [])
 (.cond (.t 23) (.seq (.region (some [5,7]) [i 29 (.faddr 0 (.t 5)),
 i 30 (.load false 1 (.t 29)),
 i 31 (.faddr 0 (.t 7)),
 i 32 (.load false 1 (.t 31)),
 i 33 (.bin .gtr (.t 30) (.t 32)),
 w 8 33] [])
 (.ret)) (.seq (.region (some [0,2,9,10,11,12]) [w 35 9,
 w 36 11,
 i 37 (.bin .neq (.t 35) (.t 36)),
 w 34 37] [])
 (.cond (.t 34) (.seq (.region (some [9,11]) [w 38 9,
 w 39 11,
 i 40 (.bin .gtr (.t 38) (.t 39)),
 w 8 40] [])
 (.ret)) (.seq (.region (some [0,2,10,12]) [w 42 10,
 w 43 12,
 i 44 (.bin .neq (.t 42) (.t 43)),
 w 41 44] [])
 (.cond (.t 41) (.seq (.region (some [10,12]) [w 45 10,
 w 46 12,
 i 47 (.bin .gtr (.t 45) (.t 46)),
 w 8 47] [])
 (.ret)) (.skip))))))))
 (.seq (.region (some [0,2]) [w 48 0,
 w 49 2,
 i 50 (.bin .lss (.t 48) (.t 49)),
 w 8 50] [])
 (.ret)))))
def a_q2v : AFn:=.code 4 c_q2v [.tmp 8]
theorem k_q2v : compF Tryz.prog h_q2v F_q2v = some a_q2v:=by kernel_rfl

def h_q2s : Hints:={ dat:=true,kp:=[(0,[0,1,2,3]),(1,[0,1,2,3]),(2,[2,3,9]),(3,[2,3,9,10]),(4,[2,3,9,10,11]),(6,[2,3,9,10,11]),(7,[2,3,9,10,11]),(8,[2,3,9,10,11,12]),(9,[2,3,9,10,11,12,13]),(11,[2,3,9,10,11,12,13]),(10,[2,3,9,10,11,12,13]),(12,[2,3,9,10,11,12]),(13,[2,3,9,10,11]),(5,[2,3,9,10,11]),(14,[10])],lkp:=[(4,[2,3,9,10,11]),(9,[2,3,9,10,11,12,13])],lth:=[(4,[10,2])] }
def zj6 : Option (List Nat):=(some [2,3,9,10,11,12,13])
def zmm : ACode :=
 .seq (.seq (.region (some [2,3,9,10,11,12,13]) [w 40 13,
 w 41 9,
 w 42 11,
 i 43 (.iaddrS 2 (.t 41) (.t 42)),
 i 44 (.faddr 1 (.t 43)),
 i 45 (.load false 1 (.t 44)),
 i 46 (.len false (.t 45)),
 i 47 (.bin .lss (.t 40) (.t 46))] [])
 (.cond (.t 47) (.skip) (.exit 2)))
 (.seq (.block 3 (.region (some [2,3,9,10,11,12,13]) [w 50 12,
 w 51 50,
 j 52 51 false (.mv (.t 2)),
 j 53 51 false (.mv (.t 9)),
 j 54 51 false (.mv (.t 11)),
 j 55 51 false (.iaddrS 2 (.t 53) (.t 54)),
 j 56 51 false (.faddr 1 (.t 55)),
 j 57 51 false (.load false 1 (.t 56)),
 j 58 51 false (.mv (.t 13)),
 j 59 51 false (.iaddrS 1 (.t 57) (.t 58)),
 j 60 51 false (.load false 1 (.t 59)),
 j 61 51 false (.call (.f F_q27) [.t 52,.t 60]),
 i 62 (.pick (.t 51) (kb true) (.t 61)),
 w 12 62] []))
 (.region (some [2,3,9,10,11,12,13]) [w 48 13,
 i 49 (.bin .add (.t 48) (k 1)),
 w 13 49] []))
def zhx : Option (List Nat):=(some [2,3,9,10,11])
def ziw : ACode :=
 .seq (.seq (.region (some [2,3,9,10,11]) [w 17 11,
 i 18 (.bin .add (.t 17) (k 1)),
 w 19 9,
 i 20 (.len false (.t 19)),
 i 21 (.bin .lss (.t 18) (.t 20))] [])
 (.cond (.t 21) (.skip) (.exit 0)))
 (.seq (.block 1 (.seq (.seq (.region (some [2,3,9,10,11]) [w 24 9,
 w 25 11,
 i 26 (.iaddrS 2 (.t 24) (.t 25)),
 i 27 (.faddr 1 (.t 26)),
 i 28 (.load false 1 (.t 27)),
 i 29 (.len false (.t 28)),
 i 30 (.bin .lss (.t 29) (k 2)),
 w 31 30,
 j 32 31 false (.mv (.t 9)),
 j 33 31 false (.mv (.t 11)),
 j 34 31 false (.iaddrS 2 (.t 32) (.t 33)),
 j 35 31 false (.faddr 0 (.t 34)),
 j 36 31 false (.load false 1 (.t 35)),
 j 37 31 false (.mv (.t 3)),
 j 38 31 false (.bin .lss (.t 36) (.t 37)),
 i 39 (.pick (.t 31) (kb true) (.t 38))] [])
 (.cond (.t 39) (.exit 1) (.skip)))
 (.seq (.region (some [2,3,9,10,11]) [i 12 (.mv (kb false))] [])
 (.seq (.seq (.region (some [2,3,9,10,11,12]) [i 13 (.mv (k 0))] [])
 (.block 2 (.loop zj6 [] zmm)))
 (.seq (.region (some [2,3,9,10,11,12]) [w 63 12,
 i 64 (.un .not (.t 63))] [])
 (.cond (.t 64) (.region (some [2,3,9,10,11]) [w 65 10,
 w 66 9,
 w 67 11,
 i 68 (.iaddrS 2 (.t 66) (.t 67)),
 i 69 (.load true 2 (.t 68)),
 i 70 (.bsl 2 [.t 69]),
 i 71 (.app 2 (.t 65) (.t 70)),
 w 10 71] []) (.skip)))))))
 (.region (some [2,3,9,10,11]) [w 22 11,
 i 23 (.bin .add (.t 22) (k 1)),
 w 11 23] []))
def c_q2s : ACode :=
 .seq (.region (some [0,1,2,3]) [i 8 (.mv (.c (.nilS)))] [])
 (.seq (.region (some [0,1,2,3]) [w 14 0,
 w 15 1,
 i 16 (.call (.f F_q23) [.t 14,.t 15]),
 w 9 16] [])
 (.seq (.region (some [2,3,9]) [i 10 (.mv (.c (.nilS)))] [])
 (.seq (.seq (.region (some [2,3,9,10]) [i 11 (.mv (k 0))] [])
 (.block 0 (.loop zhx [10,2] ziw)))
 (.seq (.region (some [10]) [w 72 10,
 w 8 72] [])
 (.ret)))))
def a_q2s : AFn:=.code 4 c_q2s [.dat (.tmp 8)]
theorem k_q2s : compF Tryz.prog h_q2s F_q2s = some a_q2s:=by kernel_rfl

def h_q26 : Hints:={ dat:=true,kp:=[(0,[0,1]),(1,[0,1,4]),(2,[4,5]),(3,[4]),(4,[4,5])],lkp:=[],lth:=[] }
def c_q26 : ACode :=
 .seq (.region (some [0,1]) [i 4 (.box (.c (.agg Pk.Itv.zeroA)))] [])
 (.seq (.region (some [0,1,4]) [w 6 0,
 w 7 1,
 i 8 (.call (.f F_q23) [.t 6,.t 7]),
 w 5 8] [])
 (.seq (.seq (.region (some [4,5]) [w 9 5,
 i 10 (.len false (.t 9)),
 i 11 (.bin .eql (.t 10) (k 0))] [])
 (.cond (.t 11) (.seq (.region (some [4]) [i 12 (.build Pk.Itv.zeroA []),
 ⟨none,.store 2 (.t 4) (.t 12),none⟩] [])
 (.ret)) (.skip)))
 (.seq (.region (some [4,5]) [w 13 5,
 w 14 5,
 i 15 (.len false (.t 14)),
 i 16 (.bin .sub (.t 15) (k 1)),
 i 17 (.iaddrS 2 (.t 13) (.t 16)),
 i 18 (.load true 2 (.t 17)),
 ⟨none,.store 2 (.t 4) (.t 18),none⟩] [])
 (.ret))))
def a_q26 : AFn:=.code 2 c_q26 [.dat (.cell true 2 4)]
theorem k_q26 : compF Tryz.prog h_q26 F_q26 = some a_q26:=by kernel_rfl

def h_q27 : Hints:={ kp:=[(0,[0,1]),(1,[0,1]),(2,[0,1,5]),(4,[0,1,5]),(5,[]),(3,[0,1,5]),(6,[])],lkp:=[(2,[0,1,5])],lth:=[] }
def zl7 : Option (List Nat):=(some [0,1,5])
def zmn : ACode :=
 .seq (.seq (.region (some [0,1,5]) [w 6 5,
 w 7 0,
 i 8 (.len false (.t 7)),
 i 9 (.bin .lss (.t 6) (.t 8))] [])
 (.cond (.t 9) (.skip) (.exit 0)))
 (.seq (.block 1 (.seq (.region (some [0,1,5]) [w 12 0,
 w 13 5,
 i 14 (.iaddrS 1 (.t 12) (.t 13)),
 i 15 (.load false 1 (.t 14)),
 w 16 1,
 i 17 (.bin .eql (.t 15) (.t 16))] [])
 (.cond (.t 17) (.seq (.region (some []) [i 4 (.mv (kb true))] [])
 (.ret)) (.skip))))
 (.region (some [0,1,5]) [w 10 5,
 i 11 (.bin .add (.t 10) (k 1)),
 w 5 11] []))
def c_q27 : ACode :=
 .seq (.region (some [0,1]) [i 4 (.mv (kb false))] [])
 (.seq (.seq (.region (some [0,1]) [i 5 (.mv (k 0))] [])
 (.block 0 (.loop zl7 [] zmn)))
 (.seq (.region (some []) [i 4 (.mv (kb false))] [])
 (.ret)))
def a_q27 : AFn:=.code 2 c_q27 [.tmp 4]
theorem k_q27 : compF Tryz.prog h_q27 F_q27 = some a_q27:=by kernel_rfl

def h_q2w : Hints:={ kp:=[(0,[0,1]),(1,[2,3]),(2,[2,3,5]),(3,[2,3,5,6]),(5,[2,3,5,6]),(4,[2,3,5,6]),(6,[2,3,5]),(7,[]),(8,[2,3]),(9,[3,7,8])],lkp:=[(3,[2,3,5,6])],lth:=[] }
def ze5 : Option (List Nat):=(some [2,3,5,6])
def zfq : ACode :=
 .seq (.seq (.region (some [2,3,5,6]) [w 14 6,
 i 15 (.faddr 48 (.t 2)),
 i 16 (.load false 1 (.t 15)),
 i 17 (.len false (.t 16)),
 i 18 (.bin .lss (.t 14) (.t 17))] [])
 (.cond (.t 18) (.skip) (.exit 0)))
 (.seq (.block 1 (.region (some [2,3,5,6]) [w 21 5,
 w 22 21,
 j 23 22 false (.faddr 48 (.t 2)),
 j 24 22 false (.load false 1 (.t 23)),
 j 25 22 false (.mv (.t 6)),
 j 26 22 false (.iaddrS 8 (.t 24) (.t 25)),
 j 27 22 false (.faddr 0 (.t 26)),
 j 28 22 false (.load false 1 (.t 27)),
 j 29 22 false (.faddr 40 (.t 3)),
 j 30 22 false (.faddr 0 (.t 29)),
 j 31 22 false (.load false 1 (.t 30)),
 j 32 22 false (.bin .eql (.t 28) (.t 31)),
 j 33 22 false (.mv (.t 32)),
 j 34 33 true (.faddr 48 (.t 2)),
 j 35 33 true (.load false 1 (.t 34)),
 j 36 33 true (.mv (.t 6)),
 j 37 33 true (.iaddrS 8 (.t 35) (.t 36)),
 j 38 33 true (.faddr 1 (.t 37)),
 j 39 33 true (.load false 1 (.t 38)),
 j 40 33 true (.faddr 40 (.t 3)),
 j 41 33 true (.faddr 1 (.t 40)),
 j 42 33 true (.load false 1 (.t 41)),
 j 43 33 true (.bin .eql (.t 39) (.t 42)),
 j 44 22 false (.pick (.t 33) (.t 43) (kb false)),
 i 45 (.pick (.t 22) (kb true) (.t 44)),
 w 5 45] [(3,10),(7,10),(14,21),(18,21)]))
 (.region (some [2,3,5,6]) [w 19 6,
 i 20 (.bin .add (.t 19) (k 1)),
 w 6 20] []))
def c_q2w : ACode :=
 .seq (.region (some [0,1]) [i 2 (.box (.t 0)),
 i 3 (.box (.t 1)),
 i 4 (.mv (kb false))] [])
 (.seq (.region (some [2,3]) [i 9 (.faddr 40 (.t 2)),
 i 10 (.load true 8 (.t 9)),
 i 11 (.faddr 40 (.t 3)),
 i 12 (.load true 8 (.t 11)),
 i 13 (.eq false Pk.Entry.ety (.t 10) (.t 12)),
 w 5 13] [])
 (.seq (.seq (.region (some [2,3,5]) [i 6 (.mv (k 0))] [])
 (.block 0 (.loop ze5 [] zfq)))
 (.seq (.seq (.region (some [2,3,5]) [w 46 5,
 i 47 (.un .not (.t 46))] [])
 (.cond (.t 47) (.seq (.region (some []) [i 4 (.mv (kb false))] [])
 (.ret)) (.skip)))
 (.seq (.region (some [2,3]) [i 49 (.load true 49 (.t 2)),
 i 50 (.faddr 40 (.t 3)),
 i 51 (.faddr 1 (.t 50)),
 i 52 (.load false 1 (.t 51)),
 i 53 (.call (.f F_q2k) [.t 49,.t 52]),
 w 48 53,
 i 54 (.ext (.t 48) 0),
 i 55 (.ext (.t 48) 1),
 i 7 (.box (.c (.d (.agg Pk.Base.zero.cs)))),
 ⟨none,.store 39 (.t 7) (.t 54),none⟩,
 w 8 55] [])
 (.seq (.region (some [3,7,8]) [w 56 8,
 w 57 56,
 j 58 57 true (.load true 39 (.t 7)),
 j 59 57 true (.faddr 1 (.t 3)),
 j 60 57 true (.load true 39 (.t 59)),
 j 61 57 true (.eq false Pk.Base.ety (.t 58) (.t 60)),
 i 62 (.pick (.t 57) (.t 61) (kb false)),
 w 4 62] [])
 (.ret))))))
def a_q2w : AFn:=.code 2 c_q2w [.tmp 4]
theorem k_q2w : compF Tryz.prog h_q2w F_q2w = some a_q2w:=by kernel_rfl

def h_q2d : Hints:={ kp:=[(0,[0,1]),(1,[1,2,4]),(2,[1,2,4,6]),(4,[1,2,4,6]),(5,[2,4,6]),(3,[1,2,4,6]),(6,[4])],lkp:=[(2,[1,2,4,6])],lth:=[] }
def zis : Option (List Nat):=(some [1,2,4,6])
def zik : ACode :=
 .seq (.seq (.region (some [1,2,4,6]) [w 7 6,
 i 8 (.faddr 48 (.t 2)),
 i 9 (.load false 1 (.t 8)),
 i 10 (.len false (.t 9)),
 i 11 (.bin .lss (.t 7) (.t 10)),
 w 12 11,
 j 13 12 true (.load true 49 (.t 2)),
 j 14 12 true (.call (.f F_q2g) [.t 13]),
 i 15 (.pick (.t 12) (.t 14) (kb false))] [])
 (.cond (.t 15) (.skip) (.exit 0)))
 (.seq (.block 1 (.seq (.region (some [1,2,4,6]) [i 18 (.faddr 48 (.t 2)),
 i 19 (.load false 1 (.t 18)),
 w 20 6,
 i 21 (.iaddrS 8 (.t 19) (.t 20)),
 i 22 (.faddr 1 (.t 21)),
 i 23 (.load false 1 (.t 22)),
 w 24 1,
 i 25 (.bin .eql (.t 23) (.t 24))] [])
 (.cond (.t 25) (.seq (.region (some [2,4,6]) [i 26 (.faddr 48 (.t 2)),
 i 27 (.load false 1 (.t 26)),
 w 28 6,
 i 29 (.iaddrS 8 (.t 27) (.t 28)),
 i 30 (.load true 8 (.t 29)),
 ⟨none,.store 8 (.t 4) (.t 30),none⟩,
 i 5 (.mv (kb true))] [])
 (.ret)) (.skip))))
 (.region (some [1,2,4,6]) [w 16 6,
 i 17 (.bin .add (.t 16) (k 1)),
 w 6 17] []))
def c_q2d : ACode :=
 .seq (.region (some [0,1]) [i 2 (.box (.t 0)),
 ⟨some 4,.box (.c (.d (.agg [.i .u32 0,.i .u32 0,.i .u8 0,.i .u32 0,.i .u8 0,.i .u8 0,.i .u8 0,.s ⟨#[]⟩]))),none⟩,
 i 5 (.mv (kb false))] [])
 (.seq (.seq (.region (some [1,2,4]) [i 6 (.mv (k 0))] [])
 (.block 0 (.loop zis [] zik)))
 (.seq (.region (some [4]) [⟨some 31,.build [.d (.i .u32 0),.d (.i .u32 0),.d (.i .u8 0),.d (.i .u32 0),.d (.i .u8 0),.d (.i .u8 0),.d (.i .u8 0),.d (.s ⟨#[]⟩)] [],none⟩,
 ⟨none,.store 8 (.t 4) (.t 31),none⟩,
 i 5 (.mv (kb false))] [])
 (.ret)))
def a_q2d : AFn:=.code 2 c_q2d [.cell true 8 4,.tmp 5]
theorem k_q2d : compF Tryz.prog h_q2d F_q2d = some a_q2d:=by kernel_rfl

def h_q36 : Hints:={ kp:=[(0,[0]),(1,[1]),(2,[1,8,9]),(3,[1,8,9]),(4,[1,4,8,9]),(5,[]),(6,[1,8,9]),(7,[1]),(8,[17,18]),(9,[17,18]),(10,[6,17,18]),(11,[]),(12,[17,18]),(13,[])],lkp:=[(2,[1,8,9]),(8,[17,18])],lth:=[] }
def zml : Option (List Nat):=(some [1,8,9])
def zj7 : ACode :=
 .seq (.region (some [1,8,9]) [i 10 (.bin .lss (.t 9) (k 6))] [])
 (.seq (.cond (.t 10) (.skip) (.exit 0))
 (.seq (.block 1 (.seq (.region (some [1,8,9]) [i 11 (.idxA true 6 5 (.t 8) (.t 9)),
 ⟨some 4,.box (.c (.d (.agg [.b false,.s ⟨#[]⟩,.s ⟨#[]⟩,.s ⟨#[]⟩,.s ⟨#[]⟩]))),none⟩,
 ⟨none,.store 5 (.t 4) (.t 11),none⟩] [])
 (.seq (.region (some [1,4,8,9]) [i 12 (.load true 5 (.t 4)),
 i 13 (.call (.f F_q3a) [.t 12]),
 i 14 (.un .not (.t 13))] [])
 (.cond (.t 14) (.seq (.region (some []) [i 2 (.mv (kb false))] [])
 (.ret)) (.skip)))))
 (.region (some [1,8,9]) [i 15 (.bin .add (.t 9) (k 1)),
 w 9 15] [])))
def zek : Option (List Nat):=(some [17,18])
def zeh : ACode :=
 .seq (.region (some [17,18]) [i 19 (.bin .lss (.t 18) (k 3))] [])
 (.seq (.cond (.t 19) (.skip) (.exit 2))
 (.seq (.block 3 (.seq (.region (some [17,18]) [i 20 (.idxA true 3 3 (.t 17) (.t 18)),
 ⟨some 6,.box (.c (.d (.agg [.i .u32 0,.i .u8 0,.s ⟨#[]⟩]))),none⟩,
 ⟨none,.store 3 (.t 6) (.t 20),none⟩] [])
 (.seq (.region (some [6,17,18]) [i 21 (.faddr 1 (.t 6)),
 i 22 (.faddr 1 (.t 21)),
 i 23 (.load false 1 (.t 22)),
 ⟨some 24,.bin .neq (.t 23) (.c (.d (.s ⟨#[]⟩))),none⟩,
 w 25 24,
 j 26 25 false (.faddr 1 (.t 6)),
 j 27 25 false (.faddr 0 (.t 26)),
 j 28 25 false (.load false 1 (.t 27)),
 j 29 25 false (.bin .gtr (.t 28) (.c (.d (.i .u8 3)))),
 i 30 (.pick (.t 25) (kb true) (.t 29)),
 w 31 30,
 j 32 31 false (.faddr 0 (.t 6)),
 j 33 31 false (.load false 1 (.t 32)),
 j 34 31 false (.bin .eql (.t 33) (.c (.d (.i .u32 0)))),
 j 35 31 false (.mv (.t 34)),
 j 36 35 true (.load true 3 (.t 6)),
 ⟨some 37,.build [.d (.i .u32 0),.d (.i .u8 0),.d (.s ⟨#[]⟩)] [],some (35,true)⟩,
 j 38 35 true (.eq true Pk.Last.ety (.t 36) (.t 37)),
 j 39 31 false (.pick (.t 35) (.t 38) (kb false)),
 i 40 (.pick (.t 31) (kb true) (.t 39))] [])
 (.cond (.t 40) (.seq (.region (some []) [i 2 (.mv (kb false))] [])
 (.ret)) (.skip)))))
 (.region (some [17,18]) [i 41 (.bin .add (.t 18) (k 1)),
 w 18 41] [])))
def c_q36 : ACode :=
 .seq (.region (some [0]) [i 1 (.box (.t 0)),
 i 2 (.mv (kb false))] [])
 (.seq (.seq (.region (some [1]) [i 7 (.faddr 0 (.t 1)),
 i 8 (.load true 30 (.t 7)),
 i 9 (.mv (k 0))] [])
 (.block 0 (.loop zml [] zj7)))
 (.seq (.seq (.region (some [1]) [i 16 (.faddr 30 (.t 1)),
 i 17 (.load true 9 (.t 16)),
 i 18 (.mv (k 0))] [])
 (.block 2 (.loop zek [] zeh)))
 (.seq (.region (some []) [i 2 (.mv (kb true))] [])
 (.ret))))
def a_q36 : AFn:=.code 1 c_q36 [.tmp 2]
theorem k_q36 : compF Tryz.prog h_q36 F_q36 = some a_q36:=by kernel_rfl

def h_q1g : Hints:={ kp:=[(0,[0]),(1,[1])],lkp:=[],lth:=[] }
def c_q1g : ACode :=
 .seq (.region (some [0]) [i 1 (.box (.t 0)),
 i 2 (.mv (kb false))] [])
 (.seq (.region (some [1]) [i 3 (.load true 6 (.t 1)),
 i 4 (.call (.f F_q1e) [.t 3]),
 w 5 4,
 j 6 5 true (.faddr 2 (.t 1)),
 j 7 5 true (.load false 1 (.t 6)),
 j 8 5 true (.bin .neq (.t 7) (.c (.d (.i .u8 5)))),
 i 9 (.pick (.t 5) (.t 8) (kb false)),
 w 2 9] [])
 (.ret))
def a_q1g : AFn:=.code 1 c_q1g [.tmp 2]
theorem k_q1g : compF Tryz.prog h_q1g F_q1g = some a_q1g:=by kernel_rfl

def h_q1d : Hints:={ kp:=[(0,[0,1]),(1,[2,3,4,5]),(2,[2,4,5]),(3,[2,3,4,5]),(4,[2,3,4,5,6,7]),(5,[2,4,5,6]),(6,[2,3,4,5]),(7,[2,3,4,5,8]),(8,[2,3,4,5,8,9]),(9,[2,3,4,5,9]),(10,[2,4,5,9])],lkp:=[],lth:=[] }
def c_q1d : ACode :=
 .seq (.region (some [0,1]) [i 2 (.box (.t 0)),
 i 3 (.box (.t 1)),
 i 4 (.box (.c (.d (.agg Pk.Base.zero.cs)))),
 ⟨some 5,.box (.c (.d (.agg [.i .u8 0,.s ⟨#[]⟩]))),none⟩] [])
 (.seq (.seq (.region (some [2,3,4,5]) [i 10 (.load true 6 (.t 3)),
 i 11 (.call (.f F_q1g) [.t 10]),
 i 12 (.un .not (.t 11))] [])
 (.cond (.t 12) (.seq (.region (some [2,4,5]) [i 13 (.load true 39 (.t 2)),
 ⟨some 14,.build [.d (.i .u8 0),.d (.s ⟨#[]⟩)] [(0,1,.c (.d (.i .u8 3)))],none⟩,
 ⟨none,.store 39 (.t 4) (.t 13),none⟩,
 ⟨none,.store 2 (.t 5) (.t 14),none⟩] [])
 (.ret)) (.skip)))
 (.seq (.seq (.region (some [2,3,4,5]) [i 16 (.load true 39 (.t 2)),
 i 17 (.load true 6 (.t 3)),
 i 18 (.call (.f F_q1f) [.t 16,.t 17]),
 w 15 18,
 i 19 (.ext (.t 15) 0),
 i 20 (.ext (.t 15) 1),
 ⟨some 6,.box (.c (.d (.agg [.i .u8 0,.s ⟨#[]⟩]))),none⟩,
 ⟨none,.store 2 (.t 6) (.t 19),none⟩,
 w 7 20] [])
 (.seq (.region (some [2,3,4,5,6,7]) [w 21 7] [])
 (.cond (.t 21) (.seq (.region (some [2,4,5,6]) [i 22 (.load true 39 (.t 2)),
 i 23 (.load true 2 (.t 6)),
 ⟨none,.store 39 (.t 4) (.t 22),none⟩,
 ⟨none,.store 2 (.t 5) (.t 23),none⟩] [(0,1),(1,2)])
 (.ret)) (.skip))))
 (.seq (.region (some [2,3,4,5]) [i 24 (.faddr 3 (.t 3)),
 i 25 (.load false 1 (.t 24)),
 i 26 (.faddr 0 (.t 2)),
 i 27 (.iaddrA 6 5 (.t 26) (.t 25)),
 i 28 (.load true 5 (.t 27)),
 ⟨some 29,.build [.d (.b false),.d (.s ⟨#[]⟩),.d (.s ⟨#[]⟩),.d (.s ⟨#[]⟩),.d (.s ⟨#[]⟩)] [(0,5,.t 28)],none⟩,
 i 30 (.box (.t 29)),
 w 8 30] [])
 (.seq (.region (some [2,3,4,5,8]) [i 31 (.faddr 2 (.t 3)),
 i 32 (.load false 1 (.t 31)),
 i 33 (.call (.f F_q1l) [.t 32]),
 w 34 8,
 i 35 (.load true 6 (.t 3)),
 i 36 (.call (.t 33) [.t 34,.t 35]),
 ⟨some 37,.build [.d (.i .u8 0),.d (.s ⟨#[]⟩)] [(0,1,.t 36)],none⟩,
 ⟨some 9,.box (.c (.d (.agg [.i .u8 0,.s ⟨#[]⟩]))),none⟩,
 ⟨none,.store 2 (.t 9) (.t 37),none⟩] [(1,4),(2,4),(1,7),(2,7),(4,7),(5,7)])
 (.seq (.region (some [2,3,4,5,8,9]) [i 38 (.faddr 3 (.t 3)),
 i 39 (.load false 1 (.t 38)),
 w 40 8,
 i 41 (.nilck (.t 40)),
 i 42 (.faddr 0 (.t 41)),
 i 43 (.load true 5 (.t 42)),
 i 44 (.faddr 0 (.t 2)),
 i 45 (.iaddrA 6 5 (.t 44) (.t 39)),
 ⟨none,.store 5 (.t 45) (.t 43),none⟩] [(1,5)])
 (.seq (.region (some [2,3,4,5,9]) [i 46 (.faddr 0 (.t 3)),
 i 47 (.load false 1 (.t 46)),
 i 48 (.bin .sub (.t 47) (.c (.d (.i .u8 1)))),
 i 49 (.faddr 1 (.t 3)),
 i 50 (.load false 1 (.t 49)),
 i 51 (.load true 2 (.t 9)),
 ⟨some 52,.build [.d (.i .u32 0),.d (.i .u8 0),.d (.s ⟨#[]⟩)] [(0,1,.t 50),(1,2,.t 51)],none⟩,
 i 53 (.faddr 30 (.t 2)),
 i 54 (.iaddrA 3 3 (.t 53) (.t 48)),
 ⟨none,.store 3 (.t 54) (.t 52),none⟩] [])
 (.seq (.region (some [2,4,5,9]) [i 55 (.load true 39 (.t 2)),
 i 56 (.load true 2 (.t 9)),
 ⟨none,.store 39 (.t 4) (.t 55),none⟩,
 ⟨none,.store 2 (.t 5) (.t 56),none⟩] [(0,1),(1,2)])
 (.ret))))))))
def a_q1d : AFn:=.code 2 c_q1d [.cell true 39 4,.cell true 2 5]
theorem k_q1d : compF Tryz.prog h_q1d F_q1d = some a_q1d:=by kernel_rfl

def h_q4b : Hints:={ kp:=[(0,[0,1]),(1,[0,1]),(2,[0,1,7,8]),(3,[0,1,7,8]),(4,[0,1,5,7,8]),(5,[5]),(6,[0,1,7,8]),(7,[])],lkp:=[(2,[0,1,7,8])],lth:=[] }
def zkd : Option (List Nat):=(some [0,1,7,8])
def zl2 : ACode :=
 .seq (.region (some [0,1,7,8]) [i 9 (.bin .lss (.t 8) (.t 7))] [])
 (.seq (.cond (.t 9) (.skip) (.exit 0))
 (.seq (.block 1 (.seq (.region (some [0,1,7,8]) [w 10 8,
 w 5 10] [])
 (.seq (.region (some [0,1,5,7,8]) [w 11 1,
 w 12 0,
 w 13 5,
 i 14 (.iaddrS 49 (.t 12) (.t 13)),
 i 15 (.load true 49 (.t 14)),
 i 16 (.call (.t 11) [.t 15])] [])
 (.cond (.t 16) (.seq (.region (some [5]) [w 17 5,
 w 4 17] [])
 (.ret)) (.skip)))))
 (.region (some [0,1,7,8]) [i 18 (.bin .add (.t 8) (k 1)),
 w 8 18] [])))
def c_q4b : ACode :=
 .seq (.region (some [0,1]) [i 4 (.mv (k 0))] [])
 (.seq (.seq (.region (some [0,1]) [w 6 0,
 i 7 (.len false (.t 6)),
 i 8 (.mv (k 0))] [])
 (.block 0 (.loop zkd [] zl2)))
 (.seq (.region (some []) [i 4 (.mv (.c (.d (.i .i64 (-1)))))] [])
 (.ret)))
def a_q4b : AFn:=.code 2 c_q4b [.tmp 4]
theorem k_q4b : compF Tryz.prog h_q4b F_q4b = some a_q4b:=by kernel_rfl

def h_q04 : Hints:={ kp:=[(0,[0]),(1,[1])],lkp:=[],lth:=[] }
def c_q04 : ACode :=
 .seq (.region (some [0]) [i 1 (.box (.t 0)),
 i 2 (.mv (kb false))] [])
 (.seq (.region (some [1]) [i 3 (.load true 49 (.t 1)),
 i 4 (.call (.f F_q32) [.t 3]),
 i 5 (.un .not (.t 4)),
 w 2 5] [])
 (.ret))
def a_q04 : AFn:=.code 1 c_q04 [.tmp 2]
theorem k_q04 : compF Tryz.prog h_q04 F_q04 = some a_q04:=by kernel_rfl

def h_q0a : Hints:={ kp:=[(0,[0,1]),(1,[2,3]),(3,[2,3]),(5,[2,3]),(6,[2,3]),(4,[2,3]),(2,[2,3]),(7,[2,3])],lkp:=[],lth:=[] }
def c_q0a : ACode :=
 .seq (.region (some [0,1]) [i 2 (.box (.t 0)),
 i 3 (.box (.t 1)),
 i 4 (.mv (kb false))] [])
 (.seq (.block 0 (.seq (.region (some [2,3]) [i 6 (.faddr 1 (.t 2)),
 i 7 (.load false 1 (.t 6)),
 i 8 (.faddr 1 (.t 3)),
 i 9 (.load false 1 (.t 8)),
 i 10 (.bin .neq (.t 7) (.t 9)),
 w 5 10] [])
 (.cond (.t 5) (.seq (.region (some [2,3]) [i 11 (.faddr 1 (.t 2)),
 i 12 (.load false 1 (.t 11)),
 i 13 (.faddr 1 (.t 3)),
 i 14 (.load false 1 (.t 13)),
 i 15 (.bin .gtr (.t 12) (.t 14)),
 w 4 15] [])
 (.ret)) (.seq (.region (some [2,3]) [i 17 (.faddr 2 (.t 2)),
 i 18 (.load false 1 (.t 17)),
 i 19 (.faddr 2 (.t 3)),
 i 20 (.load false 1 (.t 19)),
 i 21 (.bin .neq (.t 18) (.t 20)),
 w 16 21] [])
 (.cond (.t 16) (.seq (.region (some [2,3]) [i 22 (.faddr 2 (.t 2)),
 i 23 (.load false 1 (.t 22)),
 i 24 (.faddr 2 (.t 3)),
 i 25 (.load false 1 (.t 24)),
 i 26 (.bin .gtr (.t 23) (.t 25)),
 w 4 26] [])
 (.ret)) (.seq (.region (some [2,3]) [i 28 (.faddr 3 (.t 2)),
 i 29 (.load false 1 (.t 28)),
 i 30 (.faddr 3 (.t 3)),
 i 31 (.load false 1 (.t 30)),
 i 32 (.bin .neq (.t 29) (.t 31)),
 w 27 32] [])
 (.cond (.t 27) (.seq (.region (some [2,3]) [i 33 (.faddr 3 (.t 2)),
 i 34 (.load false 1 (.t 33)),
 i 35 (.faddr 3 (.t 3)),
 i 36 (.load false 1 (.t 35)),
 i 37 (.bin .gtr (.t 34) (.t 36)),
 w 4 37] [])
 (.ret)) (.skip))))))))
 (.seq (.region (some [2,3]) [i 38 (.faddr 0 (.t 2)),
 i 39 (.load false 1 (.t 38)),
 i 40 (.faddr 0 (.t 3)),
 i 41 (.load false 1 (.t 40)),
 i 42 (.bin .lss (.t 39) (.t 41)),
 w 4 42] [])
 (.ret)))
def a_q0a : AFn:=.code 2 c_q0a [.tmp 4]
theorem k_q0a : compF Tryz.prog h_q0a F_q0a = some a_q0a:=by kernel_rfl

def h_q06 : Hints:={ kp:=[(0,[0,1]),(1,[0,1])],lkp:=[],lth:=[] }
def c_q06 : ACode :=
 .seq (.region (some [0,1]) [i 3 (.mv (kb false))] [])
 (.seq (.region (some [0,1]) [i 4 (.load false 1 (.t 1)),
 w 5 0,
 i 6 (.call (.f F_q45) [.t 4,.t 5]),
 i 7 (.un .not (.t 6)),
 w 3 7] [])
 (.ret))
def a_q06 : AFn:=.code 2 c_q06 [.tmp 3]
theorem k_q06 : compF Tryz.prog h_q06 F_q06 = some a_q06:=by kernel_rfl

def h_q45 : Hints:={ kp:=[(0,[0,1]),(1,[0,1])],lkp:=[],lth:=[] }
def c_q45 : ACode :=
 .seq (.region (some [0,1]) [i 4 (.mv (kb false))] [])
 (.seq (.region (some [0,1]) [w 5 0,
 w 6 1,
 i 7 (.call (.f F_q4d) [.t 5,.t 6]),
 i 8 (.bin .geq (.t 7) (k 0)),
 w 4 8] [])
 (.ret))
def a_q45 : AFn:=.code 2 c_q45 [.tmp 4]
theorem k_q45 : compF Tryz.prog h_q45 F_q45 = some a_q45:=by kernel_rfl

def h_q07 : Hints:={ kp:=[(0,[0,1,2,3]),(1,[0,1,2,3]),(2,[2,3,9]),(3,[]),(4,[2,3,9]),(5,[9,10])],lkp:=[],lth:=[] }
def c_q07 : ACode :=
 .seq (.region (some [0,1,2,3]) [i 8 (.mv (.c (.nilS)))] [])
 (.seq (.region (some [0,1,2,3]) [w 11 0,
 w 12 1,
 i 13 (.call (.f F_q0h) [.t 11,.t 12]),
 w 9 13] [])
 (.seq (.seq (.region (some [2,3,9]) [w 14 9,
 i 15 (.len false (.t 14)),
 i 16 (.bin .eql (.t 15) (k 0))] [])
 (.cond (.t 16) (.seq (.region (some []) [i 8 (.mv (.c (.nilS)))] [])
 (.ret)) (.skip)))
 (.seq (.region (some [2,3,9]) [w 17 2,
 w 18 3,
 i 19 (.build [.nilS,.d (.i .u32 0)] [(0,1,.t 17),(1,1,.t 18)]),
 i 20 (.mkfn F_q0c [.t 19] []),
 i 10 (.box (.c (.one))),
 ⟨none,.store 1 (.t 10) (.t 20),none⟩] [])
 (.seq (.region (some [9,10]) [w 21 9,
 w 22 9,
 i 23 (.len false (.t 22)),
 i 24 (.bin .sub (.t 23) (k 1)),
 i 25 (.slice 2 (.t 21) none (some (.t 24)) none),
 i 26 (.mkfn F_q08 [] [.t 10]),
 i 27 (.call (.f F_q46) [.t 25,.t 26]),
 w 8 27] [])
 (.ret)))))
def a_q07 : AFn:=.code 4 c_q07 [.tmp 8]
theorem k_q07 : compF Tryz.prog h_q07 F_q07 = some a_q07:=by kernel_rfl

def h_q44 : Hints:={ kp:=[(0,[0,1]),(1,[0,1])],lkp:=[],lth:=[] }
def c_q44 : ACode :=
 .seq (.region (some [0,1]) [i 4 (.mv (kb false))] [])
 (.seq (.region (some [0,1]) [w 5 0,
 w 6 1,
 i 7 (.call (.f F_q4c) [.t 5,.t 6]),
 i 8 (.bin .geq (.t 7) (k 0)),
 w 4 8] [])
 (.ret))
def a_q44 : AFn:=.code 2 c_q44 [.tmp 4]
theorem k_q44 : compF Tryz.prog h_q44 F_q44 = some a_q44:=by kernel_rfl

def h_q18 : Hints:={ kp:=[(0,[0,1]),(1,[2,3,4]),(2,[4]),(3,[2,3,4]),(4,[2,3,4,5]),(5,[2,3,4,5]),(7,[2,3,4]),(8,[3,4]),(6,[3,4]),(9,[2,3,4]),(10,[3,4,6])],lkp:=[],lth:=[] }
def c_q18 : ACode :=
 .seq (.region (some [0,1]) [i 2 (.box (.t 0)),
 i 3 (.box (.t 1)),
 i 4 (.box (.c (.agg Pk.Diff.zeroA)))] [])
 (.seq (.seq (.region (some [2,3,4]) [i 7 (.load true 49 (.t 2)),
 i 8 (.call (.f F_q32) [.t 7]),
 i 9 (.un .not (.t 8)),
 w 10 9,
 j 11 10 false (.load true 49 (.t 3)),
 j 12 10 false (.call (.f F_q32) [.t 11]),
 j 13 10 false (.un .not (.t 12)),
 i 14 (.pick (.t 10) (kb true) (.t 13))] [])
 (.cond (.t 14) (.seq (.region (some [4]) [i 15 (.build Pk.Diff.zeroA []),
 ⟨none,.store 52 (.t 4) (.t 15),none⟩] [])
 (.ret)) (.skip)))
 (.seq (.region (some [2,3,4]) [i 16 (.load true 49 (.t 2)),
 i 5 (.box (.c (.agg Pk.State.zeroA))),
 ⟨none,.store 49 (.t 5) (.t 16),none⟩] [])
 (.seq (.region (some [2,3,4,5]) [i 17 (.faddr 0 (.t 3)),
 i 18 (.load false 1 (.t 17)),
 i 19 (.faddr 0 (.t 5)),
 ⟨none,.store 1 (.t 19) (.t 18),none⟩] [])
 (.seq (.block 0 (.seq (.region (some [2,3,4,5]) [i 21 (.load true 49 (.t 5)),
 i 22 (.load true 49 (.t 3)),
 i 23 (.call (.f F_q33) [.t 21,.t 22]),
 w 20 23] [])
 (.cond (.t 20) (.seq (.region (some [3,4]) [i 24 (.load true 49 (.t 3)),
 i 25 (.call (.f F_q1b) [.t 24]),
 i 26 (.build Pk.Diff.zeroA [(0,1,.c (.d (.i .i64 0))),(3,49,.t 25)]),
 ⟨none,.store 52 (.t 4) (.t 26),none⟩] [])
 (.ret)) (.seq (.region (some [2,3,4]) [i 28 (.load true 49 (.t 2)),
 i 29 (.load true 49 (.t 3)),
 i 30 (.call (.f F_q1c) [.t 28,.t 29]),
 i 31 (.un .not (.t 30)),
 w 27 31] [])
 (.cond (.t 27) (.seq (.region (some [3,4]) [i 32 (.load true 49 (.t 3)),
 i 33 (.call (.f F_q2y) [.t 32]),
 i 34 (.build Pk.Diff.zeroA [(0,1,.c (.d (.i .i64 2))),(3,49,.t 33)]),
 ⟨none,.store 52 (.t 4) (.t 34),none⟩] [])
 (.ret)) (.skip))))))
 (.seq (.region (some [2,3,4]) [i 35 (.load true 49 (.t 2)),
 i 36 (.load true 49 (.t 3)),
 i 37 (.call (.f F_q1a) [.t 35,.t 36]),
 w 6 37] [])
 (.seq (.region (some [3,4,6]) [w 38 6,
 i 39 (.faddr 48 (.t 3)),
 i 40 (.load false 1 (.t 39)),
 w 41 6,
 i 42 (.faddr 40 (.t 3)),
 i 43 (.faddr 1 (.t 42)),
 i 44 (.load false 1 (.t 43)),
 i 45 (.bin .sub (.t 41) (.t 44)),
 i 46 (.slice 8 (.t 40) (some (.t 45)) none none),
 i 47 (.call (.f F_q40) [.t 46]),
 i 48 (.load true 49 (.t 3)),
 i 49 (.call (.f F_q1b) [.t 48]),
 i 50 (.build Pk.Diff.zeroA [(0,1,.c (.d (.i .i64 1))),(1,1,.t 38),(2,1,.t 47),(3,49,.t 49)]),
 ⟨none,.store 52 (.t 4) (.t 50),none⟩] [(2,6),(2,10),(6,10),(9,10)])
 (.ret)))))))
def a_q18 : AFn:=.code 2 c_q18 [.cell true 52 4]
theorem k_q18 : compF Tryz.prog h_q18 F_q18 = some a_q18:=by kernel_rfl

def h_q3c : Hints:={ dat:=true,kp:=[(0,[0,1]),(1,[1,2])],lkp:=[],lth:=[] }
def c_q3c : ACode :=
 .seq (.region (some [0,1]) [i 2 (.box (.t 0)),
 i 4 (.mv (.c (.nilS)))] [])
 (.seq (.region (some [1,2]) [i 5 (.load true 16 (.t 2)),
 w 6 1,
 i 7 (.call (.f F_q3e) [.t 5,.t 6]),
 i 8 (.mkfn F_q3d [] [.t 2]),
 i 9 (.call (.f F_q47) [.t 7,.t 8]),
 w 4 9] [])
 (.ret))
def a_q3c : AFn:=.code 2 c_q3c [.dat (.tmp 4)]
theorem k_q3c : compF Tryz.prog h_q3c F_q3c = some a_q3c:=by kernel_rfl

def h_q49 : Hints:={ kp:=[(0,[0,1]),(1,[0,1]),(2,[]),(3,[0,1]),(4,[0,1,12,13]),(5,[0,1,12,13]),(6,[0,1,5,12,13]),(7,[]),(8,[0,1,12,13]),(9,[])],lkp:=[(4,[0,1,12,13])],lth:=[] }
def zkx : Option (List Nat):=(some [0,1,12,13])
def zk5 : ACode :=
 .seq (.region (some [0,1,12,13]) [i 14 (.bin .lss (.t 13) (.t 12))] [])
 (.seq (.cond (.t 14) (.skip) (.exit 0))
 (.seq (.block 1 (.seq (.region (some [0,1,12,13]) [w 15 13,
 w 5 15] [])
 (.seq (.region (some [0,1,5,12,13]) [w 16 0,
 w 17 5,
 i 18 (.iaddrS 1 (.t 16) (.t 17)),
 i 19 (.load false 1 (.t 18)),
 w 20 1,
 w 21 5,
 i 22 (.iaddrS 1 (.t 20) (.t 21)),
 i 23 (.load false 1 (.t 22)),
 i 24 (.bin .neq (.t 19) (.t 23))] [(3,7)])
 (.cond (.t 24) (.seq (.region (some []) [i 4 (.mv (kb false))] [])
 (.ret)) (.skip)))))
 (.region (some [0,1,12,13]) [i 25 (.bin .add (.t 13) (k 1)),
 w 13 25] [])))
def c_q49 : ACode :=
 .seq (.region (some [0,1]) [i 4 (.mv (kb false))] [])
 (.seq (.seq (.region (some [0,1]) [w 6 0,
 i 7 (.len false (.t 6)),
 w 8 1,
 i 9 (.len false (.t 8)),
 i 10 (.bin .neq (.t 7) (.t 9))] [])
 (.cond (.t 10) (.seq (.region (some []) [i 4 (.mv (kb false))] [])
 (.ret)) (.skip)))
 (.seq (.seq (.region (some [0,1]) [w 11 0,
 i 12 (.len false (.t 11)),
 i 13 (.mv (k 0))] [])
 (.block 0 (.loop zkx [] zk5)))
 (.seq (.region (some []) [i 4 (.mv (kb true))] [])
 (.ret))))
def a_q49 : AFn:=.code 2 c_q49 [.tmp 4]
theorem k_q49 : compF Tryz.prog h_q49 F_q49 = some a_q49:=by kernel_rfl

def h_q2n : Hints:={ kp:=[(0,[0]),(1,[1]),(2,[1,3]),(4,[1,3]),(5,[1,3,4]),(6,[]),(7,[1,3,4]),(8,[1,3,4,5]),(10,[1,3,4,5]),(11,[]),(9,[1,3,4,5]),(3,[1,3]),(12,[1]),(13,[1,6]),(15,[1,6]),(16,[]),(14,[1,6]),(17,[])],lkp:=[(2,[1,3]),(8,[1,3,4,5]),(13,[1,6])],lth:=[] }
def zhj : Option (List Nat):=(some [1,3,4,5])
def zgq : ACode :=
 .seq (.seq (.region (some [1,3,4,5]) [w 29 5,
 i 30 (.bin .lss (.t 29) (k 3))] [])
 (.cond (.t 30) (.skip) (.exit 2)))
 (.seq (.block 3 (.seq (.region (some [1,3,4,5]) [w 33 5,
 i 34 (.faddr 2 (.t 4)),
 i 35 (.iaddrA 3 1 (.t 34) (.t 33)),
 i 36 (.load false 1 (.t 35)),
 i 37 (.len true (.t 36)),
 i 38 (.bin .gtr (.t 37) (k 16))] [])
 (.cond (.t 38) (.seq (.region (some []) [i 2 (.mv (kb false))] [])
 (.ret)) (.skip))))
 (.region (some [1,3,4,5]) [w 31 5,
 i 32 (.bin .add (.t 31) (k 1)),
 w 5 32] []))
def zec : Option (List Nat):=(some [1,3])
def zea : ACode :=
 .seq (.seq (.region (some [1,3]) [w 7 3,
 i 8 (.bin .lss (.t 7) (k 6))] [])
 (.cond (.t 8) (.skip) (.exit 0)))
 (.seq (.block 1 (.seq (.region (some [1,3]) [w 11 3,
 i 12 (.faddr 0 (.t 1)),
 i 13 (.iaddrA 6 5 (.t 12) (.t 11)),
 i 14 (.load true 5 (.t 13)),
 ⟨some 4,.box (.c (.d (.agg [.b false,.s ⟨#[]⟩,.s ⟨#[]⟩,.s ⟨#[]⟩,.s ⟨#[]⟩]))),none⟩,
 ⟨none,.store 5 (.t 4) (.t 14),none⟩] [])
 (.seq (.seq (.region (some [1,3,4]) [i 15 (.faddr 0 (.t 4)),
 i 16 (.load false 1 (.t 15)),
 i 17 (.un .not (.t 16)),
 w 18 17,
 j 19 18 true (.load true 5 (.t 4)),
 ⟨some 20,.build [.d (.b false),.d (.s ⟨#[]⟩),.d (.s ⟨#[]⟩),.d (.s ⟨#[]⟩),.d (.s ⟨#[]⟩)] [],some (18,true)⟩,
 j 21 18 true (.eq true Pk.Objt.ety (.t 19) (.t 20)),
 i 22 (.pick (.t 18) (.t 21) (kb false)),
 w 23 22,
 j 24 23 false (.faddr 1 (.t 4)),
 j 25 23 false (.load false 1 (.t 24)),
 j 26 23 false (.len true (.t 25)),
 j 27 23 false (.bin .gtr (.t 26) (k 16)),
 i 28 (.pick (.t 23) (kb true) (.t 27))] [])
 (.cond (.t 28) (.seq (.region (some []) [i 2 (.mv (kb false))] [])
 (.ret)) (.skip)))
 (.seq (.region (some [1,3,4]) [i 5 (.mv (k 0))] [])
 (.block 2 (.loop zhj [] zgq))))))
 (.region (some [1,3]) [w 9 3,
 i 10 (.bin .add (.t 9) (k 1)),
 w 3 10] []))
def zd3 : Option (List Nat):=(some [1,6])
def zef : ACode :=
 .seq (.seq (.region (some [1,6]) [w 39 6,
 i 40 (.bin .lss (.t 39) (k 3))] [])
 (.cond (.t 40) (.skip) (.exit 4)))
 (.seq (.block 5 (.seq (.region (some [1,6]) [w 43 6,
 i 44 (.faddr 30 (.t 1)),
 i 45 (.iaddrA 3 3 (.t 44) (.t 43)),
 i 46 (.faddr 1 (.t 45)),
 i 47 (.faddr 1 (.t 46)),
 i 48 (.load false 1 (.t 47)),
 ⟨some 49,.bin .neq (.t 48) (.c (.d (.s ⟨#[]⟩))),none⟩,
 w 50 49,
 j 51 50 false (.mv (.t 6)),
 j 52 50 false (.faddr 30 (.t 1)),
 j 53 50 false (.iaddrA 3 3 (.t 52) (.t 51)),
 j 54 50 false (.faddr 1 (.t 53)),
 j 55 50 false (.faddr 0 (.t 54)),
 j 56 50 false (.load false 1 (.t 55)),
 j 57 50 false (.bin .gtr (.t 56) (.c (.d (.i .u8 3)))),
 i 58 (.pick (.t 50) (kb true) (.t 57)),
 w 59 58,
 j 60 59 false (.mv (.t 6)),
 j 61 59 false (.faddr 30 (.t 1)),
 j 62 59 false (.iaddrA 3 3 (.t 61) (.t 60)),
 j 63 59 false (.faddr 0 (.t 62)),
 j 64 59 false (.load false 1 (.t 63)),
 j 65 59 false (.bin .eql (.t 64) (.c (.d (.i .u32 0)))),
 j 66 59 false (.mv (.t 65)),
 j 67 66 true (.mv (.t 6)),
 j 68 66 true (.faddr 30 (.t 1)),
 j 69 66 true (.iaddrA 3 3 (.t 68) (.t 67)),
 j 70 66 true (.faddr 1 (.t 69)),
 j 71 66 true (.faddr 0 (.t 70)),
 j 72 66 true (.load false 1 (.t 71)),
 j 73 66 true (.bin .neq (.t 72) (.c (.d (.i .u8 0)))),
 j 74 59 false (.pick (.t 66) (.t 73) (kb false)),
 i 75 (.pick (.t 59) (kb true) (.t 74))] [])
 (.cond (.t 75) (.seq (.region (some []) [i 2 (.mv (kb false))] [])
 (.ret)) (.skip))))
 (.region (some [1,6]) [w 41 6,
 i 42 (.bin .add (.t 41) (k 1)),
 w 6 42] []))
def c_q2n : ACode :=
 .seq (.region (some [0]) [i 1 (.box (.t 0)),
 i 2 (.mv (kb false))] [])
 (.seq (.seq (.region (some [1]) [i 3 (.mv (k 0))] [])
 (.block 0 (.loop zec [] zea)))
 (.seq (.seq (.region (some [1]) [i 6 (.mv (k 0))] [])
 (.block 4 (.loop zd3 [] zef)))
 (.seq (.region (some []) [i 2 (.mv (kb true))] [])
 (.ret))))
def a_q2n : AFn:=.code 1 c_q2n [.tmp 2]
theorem k_q2n : compF Tryz.prog h_q2n F_q2n = some a_q2n:=by kernel_rfl

def h_q2l : Hints:={ kp:=[(0,[0]),(1,[1])],lkp:=[],lth:=[] }
def c_q2l : ACode :=
 .seq (.region (some [0]) [i 1 (.box (.t 0)),
 i 2 (.mv (kb false))] [])
 (.seq (.region (some [1]) [i 3 (.load true 6 (.t 1)),
 i 4 (.call (.f F_q2h) [.t 3]),
 w 5 4,
 j 6 5 true (.faddr 2 (.t 1)),
 j 7 5 true (.load false 1 (.t 6)),
 j 8 5 true (.bin .neq (.t 7) (.c (.d (.i .u8 5)))),
 i 9 (.pick (.t 5) (.t 8) (kb false)),
 w 2 9] [])
 (.ret))
def a_q2l : AFn:=.code 1 c_q2l [.tmp 2]
theorem k_q2l : compF Tryz.prog h_q2l F_q2l = some a_q2l:=by kernel_rfl

def h_q16 : Hints:={ kp:=[(0,[]),(1,[0])],lkp:=[],lth:=[] }
def c_q16 : ACode :=
 .seq (.region (some []) [i 0 (.box (.c (.agg Pk.State.zeroA))),
 i 1 (.mv (k 0))] [])
 (.seq (.region (some [0]) [i 2 (.build Pk.State.zeroA []),
 ⟨none,.store 49 (.t 0) (.t 2),none⟩,
 i 1 (.mv (k 80))] [])
 (.ret))
def a_q16 : AFn:=.code 0 c_q16 [.cell true 49 0,.tmp 1]
theorem k_q16 : compF Tryz.prog h_q16 F_q16 = some a_q16:=by kernel_rfl

def h_q2y : Hints:={ kp:=[(0,[0]),(1,[1,2]),(2,[1,2,3]),(3,[1,2,3]),(4,[1,2])],lkp:=[],lth:=[] }
def c_q2y : ACode :=
 .seq (.region (some [0]) [i 1 (.box (.t 0)),
 i 2 (.box (.c (.agg Pk.State.zeroA)))] [])
 (.seq (.region (some [1,2]) [i 4 (.faddr 48 (.t 1)),
 i 5 (.load false 1 (.t 4)),
 i 6 (.len false (.t 5)),
 ⟨some 7,.mksl 8 (.agg [.i .u32 0,.i .u32 0,.i .u8 0,.i .u32 0,.i .u8 0,.i .u8 0,.i .u8 0,.s ⟨#[]⟩]) (.t 6) (.t 6),none⟩,
 w 3 7] [])
 (.seq (.region (some [1,2,3]) [w 8 3,
 i 9 (.faddr 48 (.t 1)),
 i 10 (.load false 1 (.t 9)),
 i 11 (.cpy 8 (.t 8) (.t 10))] [])
 (.seq (.region (some [1,2,3]) [w 12 3,
 i 13 (.faddr 48 (.t 1)),
 ⟨none,.store 1 (.t 13) (.t 12),none⟩] [])
 (.seq (.region (some [1,2]) [i 14 (.load true 49 (.t 1)),
 ⟨none,.store 49 (.t 2) (.t 14),none⟩] [])
 (.ret)))))
def a_q2y : AFn:=.code 1 c_q2y [.cell true 49 2]
theorem k_q2y : compF Tryz.prog h_q2y F_q2y = some a_q2y:=by kernel_rfl

def h_q2z : Hints:={ kp:=[(0,[0,1]),(1,[1,2,4]),(3,[1,2,4]),(4,[4]),(2,[4]),(5,[1,2,4]),(6,[2,4])],lkp:=[],lth:=[] }
def c_q2z : ACode :=
 .seq (.region (some [0,1]) [i 2 (.box (.t 0)),
 i 4 (.box (.c (.agg Pk.State.zeroA))),
 i 5 (.mv (k 0))] [])
 (.seq (.block 0 (.seq (.region (some [1,2,4]) [i 7 (.load true 49 (.t 2)),
 i 8 (.call (.f F_q32) [.t 7]),
 i 9 (.un .not (.t 8)),
 w 6 9] [])
 (.cond (.t 6) (.seq (.region (some [4]) [i 10 (.build Pk.State.zeroA []),
 ⟨none,.store 49 (.t 4) (.t 10),none⟩,
 i 5 (.mv (k 10))] [])
 (.ret)) (.seq (.region (some [1,2,4]) [i 12 (.load true 49 (.t 2)),
 w 13 1,
 i 14 (.call (.f F_q3b) [.t 12,.t 13]),
 i 15 (.bin .lss (.t 14) (k 0)),
 w 11 15] [])
 (.cond (.t 11) (.seq (.region (some [4]) [i 16 (.build Pk.State.zeroA []),
 ⟨none,.store 49 (.t 4) (.t 16),none⟩,
 i 5 (.mv (k 141))] [])
 (.ret)) (.skip))))))
 (.seq (.region (some [1,2,4]) [i 17 (.faddr 48 (.t 2)),
 i 18 (.load false 1 (.t 17)),
 i 19 (.load true 49 (.t 2)),
 w 20 1,
 i 21 (.call (.f F_q3b) [.t 19,.t 20]),
 i 22 (.slice 8 (.t 18) none (some (.t 21)) none),
 i 23 (.call (.f F_q40) [.t 22]),
 i 24 (.faddr 48 (.t 2)),
 ⟨none,.store 1 (.t 24) (.t 23),none⟩] [(1,2),(1,4)])
 (.seq (.region (some [2,4]) [i 25 (.load true 49 (.t 2)),
 ⟨none,.store 49 (.t 4) (.t 25),none⟩,
 i 5 (.mv (k 0))] [])
 (.ret))))
def a_q2z : AFn:=.code 2 c_q2z [.cell true 49 4,.tmp 5]
theorem k_q2z : compF Tryz.prog h_q2z F_q2z = some a_q2z:=by kernel_rfl

def h_q19 : Hints:={ kp:=[(0,[0,1]),(1,[1,2,4]),(2,[2,4,10,11,12]),(3,[2,4,10,11,12]),(4,[2,4,7,10,11,12]),(5,[2,4,8,9,10,11,12]),(6,[4,9]),(7,[2,4,8,10,11,12]),(8,[2,4,10,11,12]),(9,[2,4])],lkp:=[(2,[2,4,10,11,12])],lth:=[] }
def zla : Option (List Nat):=(some [2,4,10,11,12])
def zj2 : ACode :=
 .seq (.region (some [2,4,10,11,12]) [i 13 (.bin .lss (.t 12) (.t 11))] [])
 (.seq (.cond (.t 13) (.skip) (.exit 0))
 (.seq (.block 1 (.seq (.region (some [2,4,10,11,12]) [i 14 (.iaddrS 8 (.t 10) (.t 12)),
 i 15 (.load true 8 (.t 14)),
 ⟨some 7,.box (.c (.d (.agg [.i .u32 0,.i .u32 0,.i .u8 0,.i .u32 0,.i .u8 0,.i .u8 0,.i .u8 0,.s ⟨#[]⟩]))),none⟩,
 ⟨none,.store 8 (.t 7) (.t 15),none⟩] [])
 (.seq (.region (some [2,4,7,10,11,12]) [i 17 (.load true 49 (.t 2)),
 i 18 (.load true 8 (.t 7)),
 i 19 (.call (.f F_q2x) [.t 17,.t 18]),
 w 16 19,
 i 20 (.ext (.t 16) 0),
 i 21 (.ext (.t 16) 1),
 i 8 (.box (.c (.agg Pk.State.zeroA))),
 ⟨none,.store 49 (.t 8) (.t 20),none⟩,
 w 9 21] [])
 (.seq (.seq (.region (some [2,4,8,9,10,11,12]) [w 22 9,
 i 23 (.bin .neq (.t 22) (k 0))] [])
 (.cond (.t 23) (.seq (.region (some [4,9]) [i 24 (.build Pk.State.zeroA []),
 w 25 9,
 ⟨none,.store 49 (.t 4) (.t 24),none⟩,
 w 5 25] [])
 (.ret)) (.skip)))
 (.region (some [2,4,8,10,11,12]) [i 26 (.load true 49 (.t 8)),
 ⟨none,.store 49 (.t 2) (.t 26),none⟩] [])))))
 (.region (some [2,4,10,11,12]) [i 27 (.bin .add (.t 12) (k 1)),
 w 12 27] [])))
def c_q19 : ACode :=
 .seq (.region (some [0,1]) [i 2 (.box (.t 0)),
 i 4 (.box (.c (.agg Pk.State.zeroA))),
 i 5 (.mv (k 0))] [])
 (.seq (.seq (.region (some [1,2,4]) [w 10 1,
 i 11 (.len false (.t 10)),
 i 12 (.mv (k 0))] [])
 (.block 0 (.loop zla [] zj2)))
 (.seq (.region (some [2,4]) [i 28 (.load true 49 (.t 2)),
 ⟨none,.store 49 (.t 4) (.t 28),none⟩,
 i 5 (.mv (k 0))] [])
 (.ret)))
def a_q19 : AFn:=.code 2 c_q19 [.cell true 49 4,.tmp 5]
theorem k_q19 : compF Tryz.prog h_q19 F_q19 = some a_q19:=by kernel_rfl

def h_q34 : Hints:={ kp:=[(0,[0,1]),(1,[1,2,4]),(3,[1,2,4]),(5,[1,2,4]),(6,[4]),(4,[4]),(2,[4]),(7,[1,2,4])],lkp:=[],lth:=[] }
def c_q34 : ACode :=
 .seq (.region (some [0,1]) [i 2 (.box (.t 0)),
 i 4 (.box (.c (.agg Pk.State.zeroA))),
 i 5 (.mv (k 0))] [])
 (.seq (.block 0 (.seq (.region (some [1,2,4]) [i 7 (.load true 49 (.t 2)),
 i 8 (.call (.f F_q32) [.t 7]),
 i 9 (.un .not (.t 8)),
 w 6 9] [])
 (.cond (.t 6) (.seq (.region (some [4]) [i 10 (.build Pk.State.zeroA []),
 ⟨none,.store 49 (.t 4) (.t 10),none⟩,
 i 5 (.mv (k 10))] [])
 (.ret)) (.seq (.region (some [1,2,4]) [w 12 1,
 i 13 (.faddr 40 (.t 2)),
 i 14 (.faddr 1 (.t 13)),
 i 15 (.load false 1 (.t 14)),
 i 16 (.bin .lss (.t 12) (.t 15)),
 w 11 16] [])
 (.cond (.t 11) (.seq (.region (some [4]) [i 17 (.build Pk.State.zeroA []),
 ⟨none,.store 49 (.t 4) (.t 17),none⟩,
 i 5 (.mv (k 80))] [])
 (.ret)) (.seq (.region (some [1,2,4]) [i 19 (.load true 49 (.t 2)),
 w 20 1,
 i 21 (.call (.f F_q3b) [.t 19,.t 20]),
 i 22 (.bin .lss (.t 21) (k 0)),
 w 18 22] [])
 (.cond (.t 18) (.seq (.region (some [4]) [i 23 (.build Pk.State.zeroA []),
 ⟨none,.store 49 (.t 4) (.t 23),none⟩,
 i 5 (.mv (k 141))] [])
 (.ret)) (.skip))))))))
 (.seq (.region (some [1,2,4]) [i 24 (.load true 49 (.t 2)),
 i 25 (.load true 49 (.t 2)),
 w 26 1,
 i 27 (.call (.f F_q3b) [.t 25,.t 26]),
 i 28 (.call (.f F_q37) [.t 24,.t 27]),
 ⟨none,.store 49 (.t 4) (.t 28),none⟩,
 i 5 (.mv (k 0))] [(0,1),(0,3)])
 (.ret)))
def a_q34 : AFn:=.code 2 c_q34 [.cell true 49 4,.tmp 5]
theorem k_q34 : compF Tryz.prog h_q34 F_q34 = some a_q34:=by kernel_rfl

def h_q2c : Hints:={ kp:=[(0,[0,1]),(1,[2,3,4,5]),(2,[2,4,5]),(3,[2,3,4,5]),(4,[2,3,4,5,6,7]),(5,[2,4,5,6]),(6,[2,3,4,5]),(7,[2,3,4,5,8,9]),(8,[2,3,4,5,9]),(9,[2,4,5,9])],lkp:=[],lth:=[] }
def c_q2c : ACode :=
 .seq (.region (some [0,1]) [i 2 (.box (.t 0)),
 i 3 (.box (.t 1)),
 i 4 (.box (.c (.d (.agg Pk.Base.zero.cs)))),
 ⟨some 5,.box (.c (.d (.agg [.i .u8 0,.s ⟨#[]⟩]))),none⟩] [])
 (.seq (.seq (.region (some [2,3,4,5]) [i 10 (.load true 6 (.t 3)),
 i 11 (.call (.f F_q2l) [.t 10]),
 i 12 (.un .not (.t 11))] [])
 (.cond (.t 12) (.seq (.region (some [2,4,5]) [i 13 (.load true 39 (.t 2)),
 ⟨some 14,.build [.d (.i .u8 0),.d (.s ⟨#[]⟩)] [(0,1,.c (.d (.i .u8 3)))],none⟩,
 ⟨none,.store 39 (.t 4) (.t 13),none⟩,
 ⟨none,.store 2 (.t 5) (.t 14),none⟩] [])
 (.ret)) (.skip)))
 (.seq (.region (some [2,3,4,5]) [i 16 (.load true 39 (.t 2)),
 i 17 (.load true 6 (.t 3)),
 i 18 (.call (.f F_q2j) [.t 16,.t 17]),
 w 15 18,
 i 19 (.ext (.t 15) 0),
 i 20 (.ext (.t 15) 1),
 ⟨some 6,.box (.c (.d (.agg [.i .u8 0,.s ⟨#[]⟩]))),none⟩,
 ⟨none,.store 2 (.t 6) (.t 19),none⟩,
 w 7 20] [])
 (.seq (.seq (.region (some [2,3,4,5,6,7]) [w 21 7] [])
 (.cond (.t 21) (.seq (.region (some [2,4,5,6]) [i 22 (.load true 39 (.t 2)),
 i 23 (.load true 2 (.t 6)),
 ⟨none,.store 39 (.t 4) (.t 22),none⟩,
 ⟨none,.store 2 (.t 5) (.t 23),none⟩] [(0,1),(1,2)])
 (.ret)) (.skip)))
 (.seq (.region (some [2,3,4,5]) [i 25 (.faddr 3 (.t 3)),
 i 26 (.load false 1 (.t 25)),
 i 27 (.faddr 0 (.t 2)),
 i 28 (.iaddrA 6 5 (.t 27) (.t 26)),
 i 29 (.load true 5 (.t 28)),
 i 30 (.load true 6 (.t 3)),
 i 31 (.call (.f F_q2m) [.t 29,.t 30]),
 w 24 31,
 i 32 (.ext (.t 24) 0),
 i 33 (.ext (.t 24) 1),
 ⟨some 8,.box (.c (.d (.agg [.b false,.s ⟨#[]⟩,.s ⟨#[]⟩,.s ⟨#[]⟩,.s ⟨#[]⟩]))),none⟩,
 ⟨none,.store 5 (.t 8) (.t 32),none⟩,
 w 9 33] [(1,5),(4,5),(1,10),(4,10),(5,10),(6,10)])
 (.seq (.region (some [2,3,4,5,8,9]) [i 34 (.faddr 3 (.t 3)),
 i 35 (.load false 1 (.t 34)),
 i 36 (.load true 5 (.t 8)),
 i 37 (.faddr 0 (.t 2)),
 i 38 (.iaddrA 6 5 (.t 37) (.t 35)),
 ⟨none,.store 5 (.t 38) (.t 36),none⟩] [])
 (.seq (.region (some [2,3,4,5,9]) [i 39 (.faddr 0 (.t 3)),
 i 40 (.load false 1 (.t 39)),
 i 41 (.bin .sub (.t 40) (.c (.d (.i .u8 1)))),
 i 42 (.faddr 1 (.t 3)),
 i 43 (.load false 1 (.t 42)),
 w 44 9,
 ⟨some 45,.build [.d (.i .u8 0),.d (.s ⟨#[]⟩)] [(0,1,.t 44)],none⟩,
 ⟨some 46,.build [.d (.i .u32 0),.d (.i .u8 0),.d (.s ⟨#[]⟩)] [(0,1,.t 43),(1,2,.t 45)],none⟩,
 i 47 (.faddr 30 (.t 2)),
 i 48 (.iaddrA 3 3 (.t 47) (.t 41)),
 ⟨none,.store 3 (.t 48) (.t 46),none⟩] [])
 (.seq (.region (some [2,4,5,9]) [i 49 (.load true 39 (.t 2)),
 w 50 9,
 ⟨some 51,.build [.d (.i .u8 0),.d (.s ⟨#[]⟩)] [(0,1,.t 50)],none⟩,
 ⟨none,.store 39 (.t 4) (.t 49),none⟩,
 ⟨none,.store 2 (.t 5) (.t 51),none⟩] [])
 (.ret))))))))
def a_q2c : AFn:=.code 2 c_q2c [.cell true 39 4,.cell true 2 5]
theorem k_q2c : compF Tryz.prog h_q2c F_q2c = some a_q2c:=by kernel_rfl

def h_q0y : Hints:={ kp:=[(0,[0]),(1,[1]),(2,[1,6,7]),(3,[1,6,7]),(4,[1,4,6,7]),(5,[]),(6,[1,6,7]),(7,[1])],lkp:=[(2,[1,6,7])],lth:=[] }
def K_q0y_0 : Option (List Nat):=(some [1,6,7])
def l_q0y_0 : ACode :=
 .seq (.region (some [1,6,7]) [i 8 (.bin .lss (.t 7) (k 5))] [])
 (.seq (.cond (.t 8) (.skip) (.exit 0))
 (.seq (.block 1 (.seq (.region (some [1,6,7]) [i 9 (.idxA true 5 3 (.t 6) (.t 7)),
 i 4 (.box (.c (.d (.agg [.b false,.i .i64 0,.i .u8 0])))),
 ⟨none,.store 3 (.t 4) (.t 9),none⟩] [])
 (.seq (.region (some [1,4,6,7]) [i 10 (.faddr 1 (.t 4)),
 i 11 (.load false 1 (.t 10)),
 i 12 (.bin .lss (.t 11) (k 0)),
 w 13 12,
 j 14 13 false (.faddr 1 (.t 4)),
 j 15 13 false (.load false 1 (.t 14)),
 j 16 13 false (.bin .gtr (.t 15) (k 16)),
 i 17 (.pick (.t 13) (kb true) (.t 16)),
 w 18 17,
 j 19 18 false (.faddr 2 (.t 4)),
 j 20 18 false (.load false 1 (.t 19)),
 j 21 18 false (.bin .geq (.t 20) (.c (.d (.i .u8 8)))),
 i 22 (.pick (.t 18) (kb true) (.t 21))] [])
 (.cond (.t 22) (.seq (.region (some []) [i 2 (.mv (kb false))] [])
 (.ret)) (.skip)))))
 (.region (some [1,6,7]) [i 23 (.bin .add (.t 7) (k 1)),
 w 7 23] [])))
def c_q0y : ACode :=
 .seq (.region (some [0]) [i 1 (.box (.t 0)),
 i 2 (.mv (kb false))] [])
 (.seq (.seq (.region (some [1]) [i 5 (.faddr 1 (.t 1)),
 i 6 (.load true 15 (.t 5)),
 i 7 (.mv (k 0))] [])
 (.block 0 (.loop K_q0y_0 [] l_q0y_0)))
 (.seq (.region (some [1]) [i 24 (.faddr 0 (.t 1)),
 i 25 (.load false 1 (.t 24)),
 i 26 (.bin .geq (.t 25) (.c (.d (.i .u32 1)))),
 w 27 26,
 j 28 27 true (.faddr 0 (.t 1)),
 j 29 27 true (.load false 1 (.t 28)),
 j 30 27 true (.bin .leq (.t 29) (.c (.d (.i .u32 60)))),
 i 31 (.pick (.t 27) (.t 30) (kb false)),
 w 2 31] [])
 (.ret)))
def a_q0y : AFn:=.code 1 c_q0y [.tmp 2]
theorem k_q0y : compF Tryz.prog h_q0y F_q0y = some a_q0y:=by kernel_rfl

def h_q0z : Hints:={ kp:=[(0,[0]),(1,[1]),(2,[1,4]),(3,[1,4]),(5,[1,4]),(6,[1]),(4,[1]),(7,[1])],lkp:=[],lth:=[] }
def c_q0z : ACode :=
 .seq (.region (some [0]) [i 1 (.box (.t 0)),
 i 2 (.mv (kb false))] [])
 (.seq (.seq (.region (some [1]) [i 3 (.faddr 0 (.t 1)),
 i 4 (.load false 1 (.t 3))] [])
 (.block 0 (.seq (.seq (.region (some [1,4]) [i 6 (.bin .eql (.t 4) (.c (.d (.i .u8 1)))),
 w 5 6] [])
 (.cond (.t 5) (.skip) (.region (some [1,4]) [i 7 (.bin .eql (.t 4) (.c (.d (.i .u8 2)))),
 w 5 7] [])))
 (.cond (.t 5) (.seq (.region (some [1]) [i 8 (.faddr 1 (.t 1)),
 i 9 (.load false 1 (.t 8)),
 i 10 (.bin .lss (.t 9) (.c (.d (.i .u8 5)))),
 w 11 10,
 j 12 11 true (.load true 3 (.t 1)),
 j 13 11 true (.faddr 0 (.t 1)),
 j 14 11 true (.load false 1 (.t 13)),
 j 15 11 true (.faddr 1 (.t 1)),
 j 16 11 true (.load false 1 (.t 15)),
 j 17 11 true (.build [.d (.i .u8 0),.d (.i .u8 0),.d (.i .i64 0)] [(0,1,.t 14),(1,1,.t 16)]),
 j 18 11 true (.eq false Pk.Inc.ety (.t 12) (.t 17)),
 i 19 (.pick (.t 11) (.t 18) (kb false)),
 w 2 19] [])
 (.ret)) (.seq (.region (some [1,4]) [i 21 (.bin .eql (.t 4) (.c (.d (.i .u8 3)))),
 w 20 21] [])
 (.cond (.t 20) (.seq (.region (some [1]) [i 22 (.faddr 1 (.t 1)),
 i 23 (.load false 1 (.t 22)),
 i 24 (.bin .lss (.t 23) (.c (.d (.i .u8 5)))),
 w 25 24,
 j 26 25 true (.faddr 2 (.t 1)),
 j 27 25 true (.load false 1 (.t 26)),
 j 28 25 true (.bin .geq (.t 27) (k 0)),
 i 29 (.pick (.t 25) (.t 28) (kb false)),
 w 30 29,
 j 31 30 true (.faddr 2 (.t 1)),
 j 32 30 true (.load false 1 (.t 31)),
 j 33 30 true (.bin .leq (.t 32) (k 16)),
 i 34 (.pick (.t 30) (.t 33) (kb false)),
 w 2 34] [])
 (.ret)) (.skip)))))))
 (.seq (.region (some [1]) [i 35 (.load true 3 (.t 1)),
 i 36 (.build [.d (.i .u8 0),.d (.i .u8 0),.d (.i .i64 0)] [(0,1,.c (.d (.i .u8 4)))]),
 i 37 (.eq false Pk.Inc.ety (.t 35) (.t 36)),
 w 2 37] [])
 (.ret)))
def a_q0z : AFn:=.code 1 c_q0z [.tmp 2]
theorem k_q0z : compF Tryz.prog h_q0z F_q0z = some a_q0z:=by kernel_rfl

def h_q28 : Hints:={ kp:=[(0,[0]),(1,[1]),(2,[1,3]),(4,[1,3]),(5,[1,3,4]),(6,[]),(3,[1,3]),(7,[1])],lkp:=[(2,[1,3])],lth:=[] }
def zfs : Option (List Nat):=(some [1,3])
def ze7 : ACode :=
 .seq (.seq (.region (some [1,3]) [w 5 3,
 i 6 (.bin .lss (.t 5) (k 5))] [])
 (.cond (.t 6) (.skip) (.exit 0)))
 (.seq (.block 1 (.seq (.region (some [1,3]) [w 9 3,
 i 10 (.faddr 1 (.t 1)),
 i 11 (.iaddrA 5 3 (.t 10) (.t 9)),
 i 12 (.load true 3 (.t 11)),
 i 4 (.box (.c (.d (.agg [.b false,.i .i64 0,.i .u8 0])))),
 ⟨none,.store 3 (.t 4) (.t 12),none⟩] [])
 (.seq (.region (some [1,3,4]) [i 13 (.faddr 1 (.t 4)),
 i 14 (.load false 1 (.t 13)),
 i 15 (.bin .lss (.t 14) (k 0)),
 w 16 15,
 j 17 16 false (.faddr 1 (.t 4)),
 j 18 16 false (.load false 1 (.t 17)),
 j 19 16 false (.bin .gtr (.t 18) (k 16)),
 i 20 (.pick (.t 16) (kb true) (.t 19)),
 w 21 20,
 j 22 21 false (.faddr 2 (.t 4)),
 j 23 21 false (.load false 1 (.t 22)),
 j 24 21 false (.bin .geq (.t 23) (.c (.d (.i .u8 8)))),
 i 25 (.pick (.t 21) (kb true) (.t 24))] [])
 (.cond (.t 25) (.seq (.region (some []) [i 2 (.mv (kb false))] [])
 (.ret)) (.skip)))))
 (.region (some [1,3]) [w 7 3,
 i 8 (.bin .add (.t 7) (k 1)),
 w 3 8] []))
def c_q28 : ACode :=
 .seq (.region (some [0]) [i 1 (.box (.t 0)),
 i 2 (.mv (kb false))] [])
 (.seq (.seq (.region (some [1]) [i 3 (.mv (k 0))] [])
 (.block 0 (.loop zfs [] ze7)))
 (.seq (.region (some [1]) [i 26 (.faddr 0 (.t 1)),
 i 27 (.load false 1 (.t 26)),
 i 28 (.bin .geq (.t 27) (.c (.d (.i .u32 1)))),
 w 29 28,
 j 30 29 true (.faddr 0 (.t 1)),
 j 31 29 true (.load false 1 (.t 30)),
 j 32 29 true (.bin .leq (.t 31) (.c (.d (.i .u32 60)))),
 i 33 (.pick (.t 29) (.t 32) (kb false)),
 w 2 33] [])
 (.ret)))
def a_q28 : AFn:=.code 1 c_q28 [.tmp 2]
theorem k_q28 : compF Tryz.prog h_q28 F_q28 = some a_q28:=by kernel_rfl

def h_q29 : Hints:={ kp:=[(0,[0]),(1,[1]),(2,[1,4]),(3,[1,4]),(5,[1,4]),(7,[1,4]),(8,[1]),(6,[1]),(4,[1]),(9,[])],lkp:=[],lth:=[] }
def c_q29 : ACode :=
 .seq (.region (some [0]) [i 1 (.box (.t 0)),
 i 2 (.mv (kb false))] [])
 (.seq (.seq (.region (some [1]) [i 3 (.faddr 0 (.t 1)),
 i 4 (.load false 1 (.t 3))] [])
 (.block 0 (.seq (.seq (.region (some [1,4]) [i 6 (.bin .eql (.t 4) (.c (.d (.i .u8 1)))),
 w 5 6] [])
 (.cond (.t 5) (.skip) (.region (some [1,4]) [i 7 (.bin .eql (.t 4) (.c (.d (.i .u8 2)))),
 w 5 7] [])))
 (.cond (.t 5) (.seq (.region (some [1]) [i 8 (.faddr 1 (.t 1)),
 i 9 (.load false 1 (.t 8)),
 i 10 (.bin .lss (.t 9) (.c (.d (.i .u8 5)))),
 w 11 10,
 j 12 11 true (.faddr 2 (.t 1)),
 j 13 11 true (.load false 1 (.t 12)),
 j 14 11 true (.bin .eql (.t 13) (k 0)),
 i 15 (.pick (.t 11) (.t 14) (kb false)),
 w 2 15] [])
 (.ret)) (.seq (.region (some [1,4]) [i 17 (.bin .eql (.t 4) (.c (.d (.i .u8 3)))),
 w 16 17] [])
 (.cond (.t 16) (.seq (.region (some [1]) [i 18 (.faddr 1 (.t 1)),
 i 19 (.load false 1 (.t 18)),
 i 20 (.bin .lss (.t 19) (.c (.d (.i .u8 5)))),
 w 21 20,
 j 22 21 true (.faddr 2 (.t 1)),
 j 23 21 true (.load false 1 (.t 22)),
 j 24 21 true (.bin .geq (.t 23) (k 0)),
 i 25 (.pick (.t 21) (.t 24) (kb false)),
 w 26 25,
 j 27 26 true (.faddr 2 (.t 1)),
 j 28 26 true (.load false 1 (.t 27)),
 j 29 26 true (.bin .leq (.t 28) (k 16)),
 i 30 (.pick (.t 26) (.t 29) (kb false)),
 w 2 30] [])
 (.ret)) (.seq (.region (some [1,4]) [i 32 (.bin .eql (.t 4) (.c (.d (.i .u8 4)))),
 w 31 32] [])
 (.cond (.t 31) (.seq (.region (some [1]) [i 33 (.faddr 1 (.t 1)),
 i 34 (.load false 1 (.t 33)),
 i 35 (.bin .eql (.t 34) (.c (.d (.i .u8 0)))),
 w 36 35,
 j 37 36 true (.faddr 2 (.t 1)),
 j 38 36 true (.load false 1 (.t 37)),
 j 39 36 true (.bin .eql (.t 38) (k 0)),
 i 40 (.pick (.t 36) (.t 39) (kb false)),
 w 2 40] [])
 (.ret)) (.skip)))))))))
 (.seq (.region (some []) [i 2 (.mv (kb false))] [])
 (.ret)))
def a_q29 : AFn:=.code 1 c_q29 [.tmp 2]
theorem k_q29 : compF Tryz.prog h_q29 F_q29 = some a_q29:=by kernel_rfl

def h_q21 : Hints:={ kp:=[(0,[]),(1,[0]),(2,[0,1]),(3,[0,1,2]),(5,[0,1,2]),(4,[0,1,2]),(6,[0,1])],lkp:=[(3,[0,1,2])],lth:=[] }
def zp1 : Option (List Nat):=(some [0,1,2])
def zqw : ACode :=
 .seq (.seq (.region (some [0,1,2]) [w 4 2,
 i 5 (.bin .lss (.t 4) (k 5))] [])
 (.cond (.t 5) (.skip) (.exit 0)))
 (.seq (.block 1 (.region (some [0,1,2]) [w 8 2,
 w 9 2,
 i 10 (.bin .rem (.t 9) (k 4)),
 i 11 (.conv .u8 (.t 10)),
 i 12 (.build [.d (.b false),.d (.i .i64 0),.d (.i .u8 0)] [(0,1,.c (.d (.b true))),(1,1,.c (.d (.i .i64 8))),(2,1,.t 11)]),
 i 13 (.faddr 1 (.t 1)),
 i 14 (.iaddrA 5 3 (.t 13) (.t 8)),
 ⟨none,.store 3 (.t 14) (.t 12),none⟩] []))
 (.region (some [0,1,2]) [w 6 2,
 i 7 (.bin .add (.t 6) (k 1)),
 w 2 7] []))
def c_q21 : ACode :=
 .seq (.region (some []) [i 0 (.box (.c (.d (.agg Pk.Mp.zero.cs))))] [])
 (.seq (.region (some [0]) [i 3 (.build (List.map .d Pk.Mp.zero.cs) [(0,1,.c (.d (.i .u32 1)))]),
 i 1 (.box (.c (.d (.agg Pk.Mp.zero.cs)))),
 ⟨none,.store 16 (.t 1) (.t 3),none⟩] [])
 (.seq (.seq (.region (some [0,1]) [i 2 (.mv (k 0))] [])
 (.block 0 (.loop zp1 [] zqw)))
 (.seq (.region (some [0,1]) [i 15 (.load true 16 (.t 1)),
 ⟨none,.store 16 (.t 0) (.t 15),none⟩] [])
 (.ret))))
def a_q21 : AFn:=.code 0 c_q21 [.cell true 16 0]
theorem k_q21 : compF Tryz.prog h_q21 F_q21 = some a_q21:=by kernel_rfl

def h_q23 : Hints:={ dat:=true,kp:=[(0,[0,1]),(1,[0,1]),(2,[]),(3,[0,1]),(4,[0,1,5]),(5,[0,1,5,6]),(6,[0,1,5,6,7]),(8,[0,1,5,6,7]),(9,[0,1,5,6,7]),(10,[0,1,5,6,7]),(11,[0,1,5,6,7,8]),(12,[0,1,5,6,7,8]),(7,[0,1,5,6,7]),(13,[5])],lkp:=[(6,[0,1,5,6,7])],lth:=[(6,[5,2])] }
def zeb : Option (List Nat):=(some [0,1,5,6,7])
def zd7 : ACode :=
 .seq (.seq (.region (some [0,1,5,6,7]) [w 12 7,
 w 13 0,
 i 14 (.nilck (.t 13)),
 i 15 (.faddr 0 (.t 14)),
 i 16 (.load false 1 (.t 15)),
 i 17 (.len false (.t 16)),
 i 18 (.bin .leq (.t 12) (.t 17))] [])
 (.cond (.t 18) (.skip) (.exit 0)))
 (.seq (.block 1 (.seq (.seq (.region (some [0,1,5,6,7]) [w 21 7,
 i 22 (.bin .gtr (.t 21) (k 0))] [])
 (.cond (.t 22) (.region (some [0,1,5,6,7]) [i 24 (.load true 16 (.t 6)),
 w 25 0,
 i 26 (.nilck (.t 25)),
 i 27 (.faddr 0 (.t 26)),
 i 28 (.load false 1 (.t 27)),
 w 29 7,
 i 30 (.bin .sub (.t 29) (k 1)),
 i 31 (.iaddrS 3 (.t 28) (.t 30)),
 i 32 (.load true 3 (.t 31)),
 i 33 (.call (.f F_q20) [.t 24,.t 32]),
 w 23 33,
 i 34 (.ext (.t 23) 0),
 i 35 (.ext (.t 23) 1),
 ⟨none,.store 16 (.t 6) (.t 34),none⟩] [(0,4),(0,8)]) (.skip)))
 (.seq (.region (some [0,1,5,6,7]) [i 36 (.load true 16 (.t 6)),
 w 37 1,
 i 38 (.call (.f F_q1z) [.t 36,.t 37]),
 w 8 38] [])
 (.seq (.region (some [0,1,5,6,7,8]) [w 39 7,
 i 40 (.bin .eql (.t 39) (k 0)),
 w 41 40,
 j 42 41 false (.mv (.t 5)),
 j 43 41 false (.mv (.t 5)),
 j 44 41 false (.len false (.t 43)),
 j 45 41 false (.bin .sub (.t 44) (k 1)),
 j 46 41 false (.iaddrS 2 (.t 42) (.t 45)),
 j 47 41 false (.faddr 1 (.t 46)),
 j 48 41 false (.load false 1 (.t 47)),
 j 49 41 false (.mv (.t 8)),
 j 50 41 false (.call (.f F_q2b) [.t 48,.t 49]),
 j 51 41 false (.un .not (.t 50)),
 i 52 (.pick (.t 41) (kb true) (.t 51))] [])
 (.cond (.t 52) (.region (some [0,1,5,6,7,8]) [w 53 5,
 i 54 (.faddr 0 (.t 6)),
 i 55 (.load false 1 (.t 54)),
 w 56 8,
 i 57 (.build Pk.Itv.zeroA [(0,1,.t 55),(1,1,.t 56)]),
 i 58 (.bsl 2 [.t 57]),
 i 59 (.app 2 (.t 53) (.t 58)),
 w 5 59] []) (.skip))))))
 (.region (some [0,1,5,6,7]) [w 19 7,
 i 20 (.bin .add (.t 19) (k 1)),
 w 7 20] []))
def c_q23 : ACode :=
 .seq (.region (some [0,1]) [i 4 (.mv (.c (.nilS)))] [])
 (.seq (.seq (.region (some [0,1]) [w 9 1,
 i 10 (.bin .geq (.t 9) (.c (.d (.i .u8 4))))] [])
 (.cond (.t 10) (.seq (.region (some []) [i 4 (.mv (.c (.nilS)))] [])
 (.ret)) (.skip)))
 (.seq (.region (some [0,1]) [i 5 (.mv (.c (.nilS)))] [])
 (.seq (.region (some [0,1,5]) [i 11 (.call (.f F_q21) []),
 i 6 (.box (.c (.d (.agg Pk.Mp.zero.cs)))),
 ⟨none,.store 16 (.t 6) (.t 11),none⟩] [])
 (.seq (.seq (.region (some [0,1,5,6]) [i 7 (.mv (k 0))] [])
 (.block 0 (.loop zeb [5,2] zd7)))
 (.seq (.region (some [5]) [w 60 5,
 w 4 60] [])
 (.ret))))))
def a_q23 : AFn:=.code 2 c_q23 [.dat (.tmp 4)]
theorem k_q23 : compF Tryz.prog h_q23 F_q23 = some a_q23:=by kernel_rfl

def h_q3a : Hints:={ kp:=[(0,[0]),(1,[1]),(2,[1]),(3,[1]),(4,[1,12,13]),(5,[1,12,13]),(6,[1,4,12,13]),(7,[]),(8,[1,12,13]),(9,[1])],lkp:=[(4,[1,12,13])],lth:=[] }
def zlf : Option (List Nat):=(some [1,12,13])
def zlw : ACode :=
 .seq (.region (some [1,12,13]) [i 14 (.bin .lss (.t 13) (k 3))] [])
 (.seq (.cond (.t 14) (.skip) (.exit 0))
 (.seq (.block 1 (.seq (.region (some [1,12,13]) [i 15 (.idxA false 3 1 (.t 12) (.t 13)),
 w 4 15] [])
 (.seq (.region (some [1,4,12,13]) [w 16 4,
 i 17 (.len true (.t 16)),
 i 18 (.bin .gtr (.t 17) (k 16))] [])
 (.cond (.t 18) (.seq (.region (some []) [i 2 (.mv (kb false))] [])
 (.ret)) (.skip)))))
 (.region (some [1,12,13]) [i 19 (.bin .add (.t 13) (k 1)),
 w 13 19] [])))
def c_q3a : ACode :=
 .seq (.region (some [0]) [i 1 (.box (.t 0)),
 i 2 (.mv (kb false))] [])
 (.seq (.seq (.region (some [1]) [i 5 (.faddr 0 (.t 1)),
 i 6 (.load false 1 (.t 5)),
 i 7 (.un .not (.t 6))] [])
 (.cond (.t 7) (.seq (.region (some [1]) [i 8 (.load true 5 (.t 1)),
 ⟨some 9,.build [.d (.b false),.d (.s ⟨#[]⟩),.d (.s ⟨#[]⟩),.d (.s ⟨#[]⟩),.d (.s ⟨#[]⟩)] [],none⟩,
 i 10 (.eq false Pk.Objt.ety (.t 8) (.t 9)),
 w 2 10] [])
 (.ret)) (.skip)))
 (.seq (.seq (.region (some [1]) [i 11 (.faddr 2 (.t 1)),
 i 12 (.load true 3 (.t 11)),
 i 13 (.mv (k 0))] [])
 (.block 0 (.loop zlf [] zlw)))
 (.seq (.region (some [1]) [i 20 (.faddr 1 (.t 1)),
 i 21 (.load false 1 (.t 20)),
 i 22 (.len true (.t 21)),
 i 23 (.bin .leq (.t 22) (k 16)),
 w 2 23] [])
 (.ret))))
def a_q3a : AFn:=.code 1 c_q3a [.tmp 2]
theorem k_q3a : compF Tryz.prog h_q3a F_q3a = some a_q3a:=by kernel_rfl

def h_q1e : Hints:={ kp:=[(0,[0]),(1,[1]),(2,[]),(3,[1]),(4,[1,28]),(5,[1,28]),(7,[1,28]),(8,[1]),(6,[]),(9,[1])],lkp:=[],lth:=[] }
def c_q1e : ACode :=
 .seq (.region (some [0]) [i 1 (.box (.t 0)),
 i 2 (.mv (kb false))] [])
 (.seq (.seq (.region (some [1]) [i 3 (.faddr 0 (.t 1)),
 i 4 (.load false 1 (.t 3)),
 i 5 (.bin .lss (.t 4) (.c (.d (.i .u8 1)))),
 w 6 5,
 j 7 6 false (.faddr 0 (.t 1)),
 j 8 6 false (.load false 1 (.t 7)),
 j 9 6 false (.bin .gtr (.t 8) (.c (.d (.i .u8 3)))),
 i 10 (.pick (.t 6) (kb true) (.t 9)),
 w 11 10,
 j 12 11 false (.faddr 1 (.t 1)),
 j 13 11 false (.load false 1 (.t 12)),
 j 14 11 false (.bin .eql (.t 13) (.c (.d (.i .u32 0)))),
 i 15 (.pick (.t 11) (kb true) (.t 14)),
 w 16 15,
 j 17 16 false (.faddr 3 (.t 1)),
 j 18 16 false (.load false 1 (.t 17)),
 j 19 16 false (.bin .geq (.t 18) (.c (.d (.i .u8 6)))),
 i 20 (.pick (.t 16) (kb true) (.t 19)),
 w 21 20,
 j 22 21 false (.faddr 5 (.t 1)),
 j 23 21 false (.load false 1 (.t 22)),
 j 24 21 false (.len true (.t 23)),
 j 25 21 false (.bin .gtr (.t 24) (k 16)),
 i 26 (.pick (.t 21) (kb true) (.t 25))] [])
 (.cond (.t 26) (.seq (.region (some []) [i 2 (.mv (kb false))] [])
 (.ret)) (.skip)))
 (.seq (.seq (.region (some [1]) [i 27 (.faddr 2 (.t 1)),
 i 28 (.load false 1 (.t 27))] [])
 (.block 0 (.seq (.seq (.region (some [1,28]) [i 30 (.bin .eql (.t 28) (.c (.d (.i .u8 1)))),
 w 29 30] [])
 (.cond (.t 29) (.skip) (.region (some [1,28]) [i 31 (.bin .eql (.t 28) (.c (.d (.i .u8 3)))),
 w 29 31] [])))
 (.cond (.t 29) (.seq (.region (some []) [i 2 (.mv (kb true))] [])
 (.ret)) (.seq (.region (some [1,28]) [i 33 (.bin .eql (.t 28) (.c (.d (.i .u8 2)))),
 w 32 33] [])
 (.cond (.t 32) (.seq (.region (some [1]) [i 34 (.faddr 5 (.t 1)),
 i 35 (.load false 1 (.t 34)),
 ⟨some 36,.bin .eql (.t 35) (.c (.d (.s ⟨#[]⟩))),none⟩,
 w 2 36] [])
 (.ret)) (.skip)))))))
 (.seq (.region (some [1]) [i 37 (.faddr 2 (.t 1)),
 i 38 (.load false 1 (.t 37)),
 i 39 (.bin .eql (.t 38) (.c (.d (.i .u8 4)))),
 w 40 39,
 j 41 40 false (.faddr 2 (.t 1)),
 j 42 40 false (.load false 1 (.t 41)),
 j 43 40 false (.bin .eql (.t 42) (.c (.d (.i .u8 5)))),
 i 44 (.pick (.t 40) (kb true) (.t 43)),
 w 45 44,
 j 46 45 true (.load true 6 (.t 1)),
 j 47 45 true (.faddr 0 (.t 1)),
 j 48 45 true (.load false 1 (.t 47)),
 j 49 45 true (.faddr 1 (.t 1)),
 j 50 45 true (.load false 1 (.t 49)),
 j 51 45 true (.faddr 2 (.t 1)),
 j 52 45 true (.load false 1 (.t 51)),
 j 53 45 true (.faddr 3 (.t 1)),
 j 54 45 true (.load false 1 (.t 53)),
 ⟨some 55,.build [.d (.i .u8 0),.d (.i .u32 0),.d (.i .u8 0),.d (.i .u8 0),.d (.i .u8 0),.d (.s ⟨#[]⟩)] [(0,1,.t 48),(1,1,.t 50),(2,1,.t 52),(3,1,.t 54)],some (45,true)⟩,
 j 56 45 true (.eq false Pk.Opr.ety (.t 46) (.t 55)),
 i 57 (.pick (.t 45) (.t 56) (kb false)),
 w 2 57] [])
 (.ret))))
def a_q1e : AFn:=.code 1 c_q1e [.tmp 2]
theorem k_q1e : compF Tryz.prog h_q1e F_q1e = some a_q1e:=by kernel_rfl

def h_q1f : Hints:={ kp:=[(0,[0,1]),(1,[2,3,4]),(2,[4]),(3,[2,3,4]),(4,[3,4,6]),(5,[4,6]),(6,[4])],lkp:=[],lth:=[] }
def c_q1f : ACode :=
 .seq (.region (some [0,1]) [i 2 (.box (.t 0)),
 i 3 (.box (.t 1)),
 ⟨some 4,.box (.c (.d (.agg [.i .u8 0,.s ⟨#[]⟩]))),none⟩,
 i 5 (.mv (kb false))] [])
 (.seq (.seq (.region (some [2,3,4]) [i 7 (.load true 6 (.t 3)),
 i 8 (.call (.f F_q1g) [.t 7]),
 i 9 (.un .not (.t 8)),
 w 10 9,
 j 11 10 false (.faddr 0 (.t 3)),
 j 12 10 false (.load false 1 (.t 11)),
 j 13 10 false (.bin .sub (.t 12) (.c (.d (.i .u8 1)))),
 j 14 10 false (.faddr 30 (.t 2)),
 j 15 10 false (.iaddrA 3 3 (.t 14) (.t 13)),
 j 16 10 false (.faddr 0 (.t 15)),
 j 17 10 false (.load false 1 (.t 16)),
 j 18 10 false (.faddr 1 (.t 3)),
 j 19 10 false (.load false 1 (.t 18)),
 j 20 10 false (.bin .lss (.t 17) (.t 19)),
 i 21 (.pick (.t 10) (kb true) (.t 20))] [(5,12),(10,12)])
 (.cond (.t 21) (.seq (.region (some [4]) [⟨some 22,.build [.d (.i .u8 0),.d (.s ⟨#[]⟩)] [],none⟩,
 ⟨none,.store 2 (.t 4) (.t 22),none⟩,
 i 5 (.mv (kb false))] [])
 (.ret)) (.skip)))
 (.seq (.seq (.region (some [2,3,4]) [i 23 (.faddr 0 (.t 3)),
 i 24 (.load false 1 (.t 23)),
 i 25 (.bin .sub (.t 24) (.c (.d (.i .u8 1)))),
 i 26 (.faddr 30 (.t 2)),
 i 27 (.iaddrA 3 3 (.t 26) (.t 25)),
 i 28 (.load true 3 (.t 27)),
 ⟨some 6,.box (.c (.d (.agg [.i .u32 0,.i .u8 0,.s ⟨#[]⟩]))),none⟩,
 ⟨none,.store 3 (.t 6) (.t 28),none⟩] [])
 (.seq (.region (some [3,4,6]) [i 29 (.faddr 0 (.t 6)),
 i 30 (.load false 1 (.t 29)),
 i 31 (.faddr 1 (.t 3)),
 i 32 (.load false 1 (.t 31)),
 i 33 (.bin .eql (.t 30) (.t 32))] [])
 (.cond (.t 33) (.seq (.region (some [4,6]) [i 34 (.faddr 1 (.t 6)),
 i 35 (.load true 2 (.t 34)),
 ⟨none,.store 2 (.t 4) (.t 35),none⟩,
 i 5 (.mv (kb true))] [])
 (.ret)) (.skip))))
 (.seq (.region (some [4]) [⟨some 36,.build [.d (.i .u8 0),.d (.s ⟨#[]⟩)] [(0,1,.c (.d (.i .u8 3)))],none⟩,
 ⟨none,.store 2 (.t 4) (.t 36),none⟩,
 i 5 (.mv (kb true))] [])
 (.ret))))
def a_q1f : AFn:=.code 2 c_q1f [.cell true 2 4,.tmp 5]
theorem k_q1f : compF Tryz.prog h_q1f F_q1f = some a_q1f:=by kernel_rfl

def h_q1l : Hints:={ kp:=[(0,[0]),(1,[0]),(2,[3]),(4,[3]),(6,[3]),(7,[]),(5,[]),(3,[]),(8,[])],lkp:=[],lth:=[] }
def c_q1l : ACode :=
 .seq (.region (some [0]) [i 2 (.mv (.c (.one)))] [])
 (.seq (.seq (.region (some [0]) [w 3 0] [])
 (.block 0 (.seq (.region (some [3]) [i 5 (.bin .eql (.t 3) (.c (.d (.i .u8 1)))),
 w 4 5] [])
 (.cond (.t 4) (.seq (.region (some []) [i 2 (.mv (.f F_q1k))] [])
 (.ret)) (.seq (.region (some [3]) [i 7 (.bin .eql (.t 3) (.c (.d (.i .u8 2)))),
 w 6 7] [])
 (.cond (.t 6) (.seq (.region (some []) [i 2 (.mv (.f F_q1j))] [])
 (.ret)) (.seq (.region (some [3]) [i 9 (.bin .eql (.t 3) (.c (.d (.i .u8 3)))),
 w 8 9] [])
 (.cond (.t 8) (.seq (.region (some []) [i 2 (.mv (.f F_q1h))] [])
 (.ret)) (.skip)))))))))
 (.seq (.region (some []) [i 2 (.mv (.f F_q1i))] [])
 (.ret)))
def a_q1l : AFn:=.code 1 c_q1l [.tmp 2]
theorem k_q1l : compF Tryz.prog h_q1l F_q1l = some a_q1l:=by kernel_rfl

def h_q4d : Hints:={ kp:=[(0,[0,1]),(1,[0,1]),(2,[0,1,7,8]),(3,[0,1,7,8]),(4,[0,1,5,7,8]),(5,[5]),(6,[0,1,7,8]),(7,[])],lkp:=[(2,[0,1,7,8])],lth:=[] }
def zli : Option (List Nat):=(some [0,1,7,8])
def zko : ACode :=
 .seq (.region (some [0,1,7,8]) [i 9 (.bin .lss (.t 8) (.t 7))] [])
 (.seq (.cond (.t 9) (.skip) (.exit 0))
 (.seq (.block 1 (.seq (.region (some [0,1,7,8]) [w 10 8,
 w 5 10] [])
 (.seq (.region (some [0,1,5,7,8]) [w 11 1,
 w 12 0,
 w 13 5,
 i 14 (.iaddrS 1 (.t 12) (.t 13)),
 i 15 (.load false 1 (.t 14)),
 i 16 (.bin .eql (.t 11) (.t 15))] [])
 (.cond (.t 16) (.seq (.region (some [5]) [w 17 5,
 w 4 17] [])
 (.ret)) (.skip)))))
 (.region (some [0,1,7,8]) [i 18 (.bin .add (.t 8) (k 1)),
 w 8 18] [])))
def c_q4d : ACode :=
 .seq (.region (some [0,1]) [i 4 (.mv (k 0))] [])
 (.seq (.seq (.region (some [0,1]) [w 6 0,
 i 7 (.len false (.t 6)),
 i 8 (.mv (k 0))] [])
 (.block 0 (.loop zli [] zko)))
 (.seq (.region (some []) [i 4 (.mv (.c (.d (.i .i64 (-1)))))] [])
 (.ret)))
def a_q4d : AFn:=.code 2 c_q4d [.tmp 4]
theorem k_q4d : compF Tryz.prog h_q4d F_q4d = some a_q4d:=by kernel_rfl

def h_q0h : Hints:={ kp:=[(0,[0,1]),(1,[0,1]),(2,[]),(3,[0,1]),(4,[5]),(5,[5,17,18,19]),(6,[5,17,18,19]),(7,[5,6,7,17,18,19]),(8,[5,17,18,19]),(9,[5])],lkp:=[(5,[5,17,18,19])],lth:=[] }
def zka : Option (List Nat):=(some [5,17,18,19])
def zmr : ACode :=
 .seq (.region (some [5,17,18,19]) [i 20 (.bin .lss (.t 19) (.t 18))] [])
 (.seq (.cond (.t 20) (.skip) (.exit 0))
 (.seq (.block 1 (.seq (.region (some [5,17,18,19]) [w 21 19,
 i 22 (.iaddrS 2 (.t 17) (.t 19)),
 i 23 (.load true 2 (.t 22)),
 i 7 (.box (.c (.agg Pk.Itv.zeroA))),
 w 6 21,
 ⟨none,.store 2 (.t 7) (.t 23),none⟩] [])
 (.region (some [5,6,7,17,18,19]) [w 24 5,
 w 25 6,
 i 26 (.faddr 1 (.t 7)),
 i 27 (.load false 1 (.t 26)),
 i 28 (.call (.f F_q42) [.t 27]),
 i 29 (.iaddrS 2 (.t 24) (.t 25)),
 i 30 (.faddr 1 (.t 29)),
 ⟨none,.store 1 (.t 30) (.t 28),none⟩] [])))
 (.region (some [5,17,18,19]) [i 31 (.bin .add (.t 19) (k 1)),
 w 19 31] [])))
def c_q0h : ACode :=
 .seq (.region (some [0,1]) [i 4 (.mv (.c (.nilS)))] [])
 (.seq (.seq (.region (some [0,1]) [w 8 1,
 i 9 (.bin .geq (.t 8) (.c (.d (.i .u8 4))))] [])
 (.cond (.t 9) (.seq (.region (some []) [i 4 (.mv (.c (.nilS)))] [])
 (.ret)) (.skip)))
 (.seq (.region (some [0,1]) [w 10 0,
 w 11 1,
 i 12 (.nilck (.t 10)),
 i 13 (.faddr 3 (.t 12)),
 i 14 (.iaddrA 4 1 (.t 13) (.t 11)),
 i 15 (.load false 1 (.t 14)),
 i 16 (.call (.f F_q41) [.t 15]),
 w 5 16] [])
 (.seq (.seq (.region (some [5]) [w 17 5,
 i 18 (.len false (.t 17)),
 i 19 (.mv (k 0))] [])
 (.block 0 (.loop zka [] zmr)))
 (.seq (.region (some [5]) [w 32 5,
 w 4 32] [])
 (.ret)))))
def a_q0h : AFn:=.code 2 c_q0h [.tmp 4]
theorem k_q0h : compF Tryz.prog h_q0h F_q0h = some a_q0h:=by kernel_rfl

def h_q0c : Hints:={ kp:=[(0,[0,1]),(1,[2,3])],lkp:=[],lth:=[] }
def c_q0c : ACode :=
 .seq (.region (some [0,1]) [i 2 (.box (.t 0)),
 i 3 (.box (.t 1)),
 i 4 (.mv (kb false))] [])
 (.seq (.region (some [2,3]) [i 5 (.faddr 1 (.t 3)),
 i 6 (.load false 1 (.t 5)),
 i 7 (.len false (.t 6)),
 i 8 (.bin .geq (.t 7) (k 2)),
 w 9 8,
 j 10 9 true (.faddr 0 (.t 3)),
 j 11 9 true (.load false 1 (.t 10)),
 j 12 9 true (.faddr 1 (.t 2)),
 j 13 9 true (.load false 1 (.t 12)),
 j 14 9 true (.bin .geq (.t 11) (.t 13)),
 i 15 (.pick (.t 9) (.t 14) (kb false)),
 w 16 15,
 j 17 16 true (.faddr 1 (.t 3)),
 j 18 16 true (.load false 1 (.t 17)),
 j 19 16 true (.load true 2 (.t 2)),
 j 20 16 true (.mkfn F_q0b [.t 19] []),
 j 21 16 true (.call (.f F_q44) [.t 18,.t 20]),
 j 22 16 true (.un .not (.t 21)),
 i 23 (.pick (.t 16) (.t 22) (kb false)),
 w 4 23] [])
 (.ret))
def a_q0c : AFn:=.code 2 c_q0c [.tmp 4]
theorem k_q0c : compF Tryz.prog h_q0c F_q0c = some a_q0c:=by kernel_rfl

def h_q46 : Hints:={ kp:=[(0,[0,1]),(1,[0,1]),(2,[0,1,5]),(3,[0]),(4,[0,1,5]),(5,[0,1,5,6]),(7,[0,1,5,6]),(8,[0,1,5,6,7]),(9,[0,1,5,6,7]),(10,[0,1,5,6]),(6,[0,1,5,6]),(11,[0,5]),(12,[0,5])],lkp:=[(5,[0,1,5,6])],lth:=[] }
def zhw : Option (List Nat):=(some [0,1,5,6])
def zhe : ACode :=
 .seq (.seq (.region (some [0,1,5,6]) [w 16 6,
 w 17 0,
 i 18 (.len false (.t 17)),
 i 19 (.bin .lss (.t 16) (.t 18))] [])
 (.cond (.t 19) (.skip) (.exit 0)))
 (.seq (.block 1 (.seq (.region (some [0,1,5,6]) [w 22 0,
 w 23 6,
 i 24 (.iaddrS 2 (.t 22) (.t 23)),
 i 25 (.load true 2 (.t 24)),
 i 7 (.box (.c (.agg Pk.Itv.zeroA))),
 ⟨none,.store 2 (.t 7) (.t 25),none⟩] [])
 (.seq (.region (some [0,1,5,6,7]) [w 26 1,
 i 27 (.load true 2 (.t 7)),
 i 28 (.call (.t 26) [.t 27]),
 i 29 (.un .not (.t 28))] [])
 (.cond (.t 29) (.seq (.region (some [0,1,5,6,7]) [w 30 0,
 w 31 5,
 i 32 (.load true 2 (.t 7)),
 i 33 (.iaddrS 2 (.t 30) (.t 31)),
 ⟨none,.store 2 (.t 33) (.t 32),none⟩] [])
 (.region (some [0,1,5,6]) [w 34 5,
 i 35 (.bin .add (.t 34) (k 1)),
 w 5 35] [])) (.skip)))))
 (.region (some [0,1,5,6]) [w 20 6,
 i 21 (.bin .add (.t 20) (k 1)),
 w 6 21] []))
def c_q46 : ACode :=
 .seq (.region (some [0,1]) [i 4 (.mv (.c (.nilS)))] [])
 (.seq (.region (some [0,1]) [w 8 0,
 w 9 1,
 i 10 (.call (.f F_q4a) [.t 8,.t 9]),
 w 5 10] [])
 (.seq (.seq (.region (some [0,1,5]) [w 11 5,
 i 12 (.bin .eql (.t 11) (.c (.d (.i .i64 (-1)))))] [])
 (.cond (.t 12) (.seq (.region (some [0]) [w 13 0,
 w 4 13] [])
 (.ret)) (.skip)))
 (.seq (.seq (.region (some [0,1,5]) [w 14 5,
 i 15 (.bin .add (.t 14) (k 1)),
 w 6 15] [])
 (.block 0 (.loop zhw [] zhe)))
 (.seq (.region (some [0,5]) [w 36 0,
 w 37 5,
 i 38 (.slice 2 (.t 36) (some (.t 37)) none none),
 ⟨none,.clr (.agg [.i .u32 0,.sl []]) (.t 38),none⟩] [])
 (.seq (.region (some [0,5]) [w 39 0,
 w 40 5,
 i 41 (.slice 2 (.t 39) none (some (.t 40)) none),
 w 4 41] [])
 (.ret))))))
def a_q46 : AFn:=.code 2 c_q46 [.tmp 4]
theorem k_q46 : compF Tryz.prog h_q46 F_q46 = some a_q46:=by kernel_rfl

def h_q08 : Hints:={ kp:=[(0,[0,1]),(1,[1,2])],lkp:=[],lth:=[] }
def c_q08 : ACode :=
 .seq (.region (some [0,1]) [i 2 (.box (.t 0)),
 i 3 (.mv (kb false))] [])
 (.seq (.region (some [1,2]) [i 4 (.load false 1 (.t 1)),
 i 5 (.load true 2 (.t 2)),
 i 6 (.call (.t 4) [.t 5]),
 i 7 (.un .not (.t 6)),
 w 3 7] [])
 (.ret))
def a_q08 : AFn:=.code 2 c_q08 [.tmp 3]
theorem k_q08 : compF Tryz.prog h_q08 F_q08 = some a_q08:=by kernel_rfl

def h_q4c : Hints:={ kp:=[(0,[0,1]),(1,[0,1]),(2,[0,1,7,8]),(3,[0,1,7,8]),(4,[0,1,5,7,8]),(5,[5]),(6,[0,1,7,8]),(7,[])],lkp:=[(2,[0,1,7,8])],lth:=[] }
def za7 : Option (List Nat):=(some [0,1,7,8])
def za6 : ACode :=
 .seq (.region (some [0,1,7,8]) [i 9 (.bin .lss (.t 8) (.t 7))] [])
 (.seq (.cond (.t 9) (.skip) (.exit 0))
 (.seq (.block 1 (.seq (.region (some [0,1,7,8]) [w 10 8,
 w 5 10] [])
 (.seq (.region (some [0,1,5,7,8]) [w 11 1,
 w 12 0,
 w 13 5,
 i 14 (.iaddrS 1 (.t 12) (.t 13)),
 i 15 (.load false 1 (.t 14)),
 i 16 (.call (.t 11) [.t 15])] [])
 (.cond (.t 16) (.seq (.region (some [5]) [w 17 5,
 w 4 17] [])
 (.ret)) (.skip)))))
 (.region (some [0,1,7,8]) [i 18 (.bin .add (.t 8) (k 1)),
 w 8 18] [])))
def c_q4c : ACode :=
 .seq (.region (some [0,1]) [i 4 (.mv (k 0))] [])
 (.seq (.seq (.region (some [0,1]) [w 6 0,
 i 7 (.len false (.t 6)),
 i 8 (.mv (k 0))] [])
 (.block 0 (.loop za7 [] za6)))
 (.seq (.region (some []) [i 4 (.mv (.c (.d (.i .i64 (-1)))))] [])
 (.ret)))
def a_q4c : AFn:=.code 2 c_q4c [.tmp 4]
theorem k_q4c : compF Tryz.prog h_q4c F_q4c = some a_q4c:=by kernel_rfl

def h_q33 : Hints:={ kp:=[(0,[0,1]),(1,[2,3])],lkp:=[],lth:=[] }
def c_q33 : ACode :=
 .seq (.region (some [0,1]) [i 2 (.box (.t 0)),
 i 3 (.box (.t 1)),
 i 4 (.mv (kb false))] [])
 (.seq (.region (some [2,3]) [i 5 (.faddr 0 (.t 2)),
 i 6 (.load false 1 (.t 5)),
 i 7 (.faddr 0 (.t 3)),
 i 8 (.load false 1 (.t 7)),
 i 9 (.bin .eql (.t 6) (.t 8)),
 w 10 9,
 j 11 10 true (.faddr 1 (.t 2)),
 j 12 10 true (.load true 39 (.t 11)),
 j 13 10 true (.faddr 1 (.t 3)),
 j 14 10 true (.load true 39 (.t 13)),
 j 15 10 true (.eq false Pk.Base.ety (.t 12) (.t 14)),
 i 16 (.pick (.t 10) (.t 15) (kb false)),
 w 17 16,
 j 18 17 true (.faddr 40 (.t 2)),
 j 19 17 true (.load true 8 (.t 18)),
 j 20 17 true (.faddr 40 (.t 3)),
 j 21 17 true (.load true 8 (.t 20)),
 j 22 17 true (.eq false Pk.Entry.ety (.t 19) (.t 21)),
 i 23 (.pick (.t 17) (.t 22) (kb false)),
 w 24 23,
 j 25 24 true (.faddr 48 (.t 2)),
 j 26 24 true (.load false 1 (.t 25)),
 j 27 24 true (.faddr 48 (.t 3)),
 j 28 24 true (.load false 1 (.t 27)),
 j 29 24 true (.call (.f F_q48) [.t 26,.t 28]),
 i 30 (.pick (.t 24) (.t 29) (kb false)),
 w 4 30] [])
 (.ret))
def a_q33 : AFn:=.code 2 c_q33 [.tmp 4]
theorem k_q33 : compF Tryz.prog h_q33 F_q33 = some a_q33:=by kernel_rfl

def h_q1b : Hints:={ kp:=[(0,[0]),(1,[1,2])],lkp:=[],lth:=[] }
def c_q1b : ACode :=
 .seq (.region (some [0]) [i 1 (.box (.t 0)),
 i 2 (.box (.c (.agg Pk.State.zeroA)))] [])
 (.seq (.region (some [1,2]) [i 3 (.faddr 0 (.t 1)),
 i 4 (.load false 1 (.t 3)),
 i 5 (.faddr 40 (.t 1)),
 i 6 (.load true 8 (.t 5)),
 i 7 (.build Pk.State.zeroA [(0,1,.t 4),(40,8,.t 6)]),
 ⟨none,.store 49 (.t 2) (.t 7),none⟩] [])
 (.ret))
def a_q1b : AFn:=.code 1 c_q1b [.cell true 49 2]
theorem k_q1b : compF Tryz.prog h_q1b F_q1b = some a_q1b:=by kernel_rfl

def h_q1c : Hints:={ kp:=[(0,[0,1]),(1,[2,3]),(2,[2,3,5,6]),(3,[2,3,5,6,7,8]),(4,[2,3,5,6,7]),(5,[2,3,5,6]),(6,[3,5,9,10])],lkp:=[],lth:=[] }
def c_q1c : ACode :=
 .seq (.region (some [0,1]) [i 2 (.box (.t 0)),
 i 3 (.box (.t 1)),
 i 4 (.mv (kb false))] [])
 (.seq (.region (some [2,3]) [i 11 (.faddr 40 (.t 2)),
 i 12 (.load true 8 (.t 11)),
 i 13 (.faddr 40 (.t 3)),
 i 14 (.faddr 1 (.t 13)),
 i 15 (.load false 1 (.t 14)),
 ⟨some 5,.box (.c (.d (.agg [.i .u32 0,.i .u32 0,.i .u8 0,.i .u32 0,.i .u8 0,.i .u8 0,.i .u8 0,.s ⟨#[]⟩]))),none⟩,
 ⟨none,.store 8 (.t 5) (.t 12),none⟩,
 w 6 15] [(1,4),(1,5),(4,5),(4,6)])
 (.seq (.seq (.region (some [2,3,5,6]) [i 17 (.load true 49 (.t 2)),
 w 18 6,
 i 19 (.call (.f F_q30) [.t 17,.t 18]),
 w 16 19,
 i 20 (.ext (.t 16) 0),
 i 21 (.ext (.t 16) 1),
 ⟨some 7,.box (.c (.d (.agg [.i .u32 0,.i .u32 0,.i .u8 0,.i .u32 0,.i .u8 0,.i .u8 0,.i .u8 0,.s ⟨#[]⟩]))),none⟩,
 ⟨none,.store 8 (.t 7) (.t 20),none⟩,
 w 8 21] [])
 (.seq (.region (some [2,3,5,6,7,8]) [w 22 8] [])
 (.cond (.t 22) (.region (some [2,3,5,6,7]) [i 23 (.faddr 0 (.t 7)),
 i 24 (.load false 1 (.t 23)),
 i 25 (.faddr 1 (.t 7)),
 i 26 (.load false 1 (.t 25)),
 ⟨some 27,.build [.d (.i .u32 0),.d (.i .u32 0),.d (.i .u8 0),.d (.i .u32 0),.d (.i .u8 0),.d (.i .u8 0),.d (.i .u8 0),.d (.s ⟨#[]⟩)] [(0,1,.t 24),(1,1,.t 26)],none⟩,
 ⟨none,.store 8 (.t 5) (.t 27),none⟩] []) (.skip))))
 (.seq (.region (some [2,3,5,6]) [i 29 (.load true 49 (.t 2)),
 w 30 6,
 i 31 (.call (.f F_q35) [.t 29,.t 30]),
 w 28 31,
 i 32 (.ext (.t 28) 0),
 i 33 (.ext (.t 28) 1),
 i 9 (.box (.c (.d (.agg Pk.Base.zero.cs)))),
 ⟨none,.store 39 (.t 9) (.t 32),none⟩,
 w 10 33] [])
 (.seq (.region (some [3,5,9,10]) [w 34 10,
 w 35 34,
 j 36 35 true (.load true 8 (.t 5)),
 j 37 35 true (.faddr 40 (.t 3)),
 j 38 35 true (.load true 8 (.t 37)),
 j 39 35 true (.eq false Pk.Entry.ety (.t 36) (.t 38)),
 i 40 (.pick (.t 35) (.t 39) (kb false)),
 w 41 40,
 j 42 41 true (.load true 39 (.t 9)),
 j 43 41 true (.faddr 1 (.t 3)),
 j 44 41 true (.load true 39 (.t 43)),
 j 45 41 true (.eq false Pk.Base.ety (.t 42) (.t 44)),
 i 46 (.pick (.t 41) (.t 45) (kb false)),
 w 4 46] [])
 (.ret)))))
def a_q1c : AFn:=.code 2 c_q1c [.tmp 4]
theorem k_q1c : compF Tryz.prog h_q1c F_q1c = some a_q1c:=by kernel_rfl

def h_q1a : Hints:={ kp:=[(0,[0,1]),(1,[2,3]),(2,[2,3,5]),(3,[2,5,14,15,16]),(4,[2,5,14,15,16]),(5,[2,5,7,14,15,16]),(6,[2,5,7,8,9,14,15,16]),(7,[5]),(8,[2,7,14,15,16]),(9,[2,5,14,15,16]),(10,[5])],lkp:=[(3,[2,5,14,15,16])],lth:=[] }
def zg8 : Option (List Nat):=(some [2,5,14,15,16])
def zhq : ACode :=
 .seq (.region (some [2,5,14,15,16]) [i 17 (.bin .lss (.t 16) (.t 15))] [])
 (.seq (.cond (.t 17) (.skip) (.exit 0))
 (.seq (.block 1 (.seq (.region (some [2,5,14,15,16]) [i 18 (.iaddrS 8 (.t 14) (.t 16)),
 i 19 (.load true 8 (.t 18)),
 ⟨some 7,.box (.c (.d (.agg [.i .u32 0,.i .u32 0,.i .u8 0,.i .u32 0,.i .u8 0,.i .u8 0,.i .u8 0,.s ⟨#[]⟩]))),none⟩,
 ⟨none,.store 8 (.t 7) (.t 19),none⟩] [])
 (.seq (.region (some [2,5,7,14,15,16]) [i 21 (.load true 49 (.t 2)),
 i 22 (.faddr 1 (.t 7)),
 i 23 (.load false 1 (.t 22)),
 i 24 (.call (.f F_q30) [.t 21,.t 23]),
 w 20 24,
 i 25 (.ext (.t 20) 0),
 i 26 (.ext (.t 20) 1),
 ⟨some 8,.box (.c (.d (.agg [.i .u32 0,.i .u32 0,.i .u8 0,.i .u32 0,.i .u8 0,.i .u8 0,.i .u8 0,.s ⟨#[]⟩]))),none⟩,
 ⟨none,.store 8 (.t 8) (.t 25),none⟩,
 w 9 26] [])
 (.seq (.seq (.region (some [2,5,7,8,9,14,15,16]) [w 27 9,
 i 28 (.un .not (.t 27)),
 w 29 28,
 j 30 29 false (.load true 8 (.t 8)),
 j 31 29 false (.load true 8 (.t 7)),
 j 32 29 false (.eq true Pk.Entry.ety (.t 30) (.t 31)),
 i 33 (.pick (.t 29) (kb true) (.t 32))] [])
 (.cond (.t 33) (.seq (.region (some [5]) [w 34 5,
 w 4 34] [])
 (.ret)) (.skip)))
 (.region (some [2,7,14,15,16]) [i 35 (.faddr 1 (.t 7)),
 i 36 (.load false 1 (.t 35)),
 w 5 36] [])))))
 (.region (some [2,5,14,15,16]) [i 37 (.bin .add (.t 16) (k 1)),
 w 16 37] [])))
def c_q1a : ACode :=
 .seq (.region (some [0,1]) [i 2 (.box (.t 0)),
 i 3 (.box (.t 1)),
 i 4 (.mv (.c (.d (.i .u32 0))))] [])
 (.seq (.region (some [2,3]) [i 10 (.faddr 40 (.t 3)),
 i 11 (.faddr 1 (.t 10)),
 i 12 (.load false 1 (.t 11)),
 w 5 12] [])
 (.seq (.seq (.region (some [2,3,5]) [i 13 (.faddr 48 (.t 3)),
 i 14 (.load false 1 (.t 13)),
 i 15 (.len false (.t 14)),
 i 16 (.mv (k 0))] [])
 (.block 0 (.loop zg8 [] zhq)))
 (.seq (.region (some [5]) [w 38 5,
 w 4 38] [])
 (.ret))))
def a_q1a : AFn:=.code 2 c_q1a [.tmp 4]
theorem k_q1a : compF Tryz.prog h_q1a F_q1a = some a_q1a:=by kernel_rfl

def h_q47 : Hints:={ kp:=[(0,[0,1]),(1,[0,1]),(2,[0,1,5]),(3,[0]),(4,[0,1,5]),(5,[0,1,5,6]),(7,[0,1,5,6]),(8,[0,1,5,6,7]),(9,[0,1,5,6,7]),(10,[0,1,5,6]),(6,[0,1,5,6]),(11,[0,5]),(12,[0,5])],lkp:=[(5,[0,1,5,6])],lth:=[] }
def zd8 : Option (List Nat):=(some [0,1,5,6])
def zd5 : ACode :=
 .seq (.seq (.region (some [0,1,5,6]) [w 16 6,
 w 17 0,
 i 18 (.len false (.t 17)),
 i 19 (.bin .lss (.t 16) (.t 18))] [])
 (.cond (.t 19) (.skip) (.exit 0)))
 (.seq (.block 1 (.seq (.region (some [0,1,5,6]) [w 22 0,
 w 23 6,
 i 24 (.iaddrS 1 (.t 22) (.t 23)),
 i 25 (.load false 1 (.t 24)),
 w 7 25] [])
 (.seq (.region (some [0,1,5,6,7]) [w 26 1,
 w 27 7,
 i 28 (.call (.t 26) [.t 27]),
 i 29 (.un .not (.t 28))] [])
 (.cond (.t 29) (.seq (.region (some [0,1,5,6,7]) [w 30 0,
 w 31 5,
 w 32 7,
 i 33 (.iaddrS 1 (.t 30) (.t 31)),
 ⟨none,.store 1 (.t 33) (.t 32),none⟩] [])
 (.region (some [0,1,5,6]) [w 34 5,
 i 35 (.bin .add (.t 34) (k 1)),
 w 5 35] [])) (.skip)))))
 (.region (some [0,1,5,6]) [w 20 6,
 i 21 (.bin .add (.t 20) (k 1)),
 w 6 21] []))
def c_q47 : ACode :=
 .seq (.region (some [0,1]) [i 4 (.mv (.c (.nilS)))] [])
 (.seq (.region (some [0,1]) [w 8 0,
 w 9 1,
 i 10 (.call (.f F_q4c) [.t 8,.t 9]),
 w 5 10] [])
 (.seq (.seq (.region (some [0,1,5]) [w 11 5,
 i 12 (.bin .eql (.t 11) (.c (.d (.i .i64 (-1)))))] [])
 (.cond (.t 12) (.seq (.region (some [0]) [w 13 0,
 w 4 13] [])
 (.ret)) (.skip)))
 (.seq (.seq (.region (some [0,1,5]) [w 14 5,
 i 15 (.bin .add (.t 14) (k 1)),
 w 6 15] [])
 (.block 0 (.loop zd8 [] zd5)))
 (.seq (.region (some [0,5]) [w 36 0,
 w 37 5,
 i 38 (.slice 1 (.t 36) (some (.t 37)) none none),
 ⟨none,.clr (.i .i64 0) (.t 38),none⟩] [])
 (.seq (.region (some [0,5]) [w 39 0,
 w 40 5,
 i 41 (.slice 1 (.t 39) none (some (.t 40)) none),
 w 4 41] [])
 (.ret))))))
def a_q47 : AFn:=.code 2 c_q47 [.tmp 4]
theorem k_q47 : compF Tryz.prog h_q47 F_q47 = some a_q47:=by kernel_rfl

def h_q3e : Hints:={ kp:=[(0,[0,1]),(1,[1,2]),(2,[]),(3,[1,2]),(4,[5]),(5,[5,6]),(7,[5,6]),(6,[5,6]),(8,[5])],lkp:=[(5,[5,6])],lth:=[] }
def zbl : Option (List Nat):=(some [5,6])
def zbk : ACode :=
 .seq (.seq (.region (some [5,6]) [w 20 6,
 i 21 (.bin .lss (.t 20) (k 3)),
 w 22 21,
 j 23 22 true (.mv (.t 5)),
 j 24 22 true (.nilck (.t 23)),
 j 25 22 true (.faddr 17 (.t 24)),
 j 26 22 true (.load false 1 (.t 25)),
 j 27 22 true (.len false (.t 26)),
 j 28 22 true (.bin .gtr (.t 27) (k 0)),
 i 29 (.pick (.t 22) (.t 28) (kb false))] [])
 (.cond (.t 29) (.skip) (.exit 0)))
 (.seq (.block 1 (.region (some [5,6]) [w 32 5,
 w 33 6,
 i 34 (.call (.f F_q3i) [.t 32,.t 33])] []))
 (.region (some [5,6]) [w 30 6,
 i 31 (.bin .add (.t 30) (k 1)),
 w 6 31] []))
def c_q3e : ACode :=
 .seq (.region (some [0,1]) [i 2 (.box (.t 0)),
 i 4 (.mv (.c (.nilS)))] [])
 (.seq (.seq (.region (some [1,2]) [i 7 (.load true 16 (.t 2)),
 i 8 (.call (.f F_q0y) [.t 7]),
 i 9 (.un .not (.t 8)),
 w 10 9,
 j 11 10 false (.mv (.t 1)),
 j 12 10 false (.bin .geq (.t 11) (.c (.d (.i .u8 4)))),
 i 13 (.pick (.t 10) (kb true) (.t 12))] [])
 (.cond (.t 13) (.seq (.region (some []) [i 4 (.mv (.c (.nilS)))] [])
 (.ret)) (.skip)))
 (.seq (.region (some [1,2]) [i 14 (.load true 16 (.t 2)),
 w 15 1,
 i 16 (.load true 16 (.t 2)),
 i 17 (.call (.f F_q0w) [.t 16]),
 i 18 (.build [.d (.i .u32 0),.d (.b false),.d (.i .i64 0),.d (.i .u8 0),.d (.b false),.d (.i .i64 0),.d (.i .u8 0),.d (.b false),.d (.i .i64 0),.d (.i .u8 0),.d (.b false),.d (.i .i64 0),.d (.i .u8 0),.d (.b false),.d (.i .i64 0),.d (.i .u8 0),.d (.i .u8 0),.nilS,.nilS] [(0,16,.t 14),(16,1,.t 15),(17,1,.t 17)]),
 i 19 (.box (.t 18)),
 w 5 19] [(0,2),(0,3)])
 (.seq (.seq (.region (some [5]) [i 6 (.mv (k 0))] [])
 (.block 0 (.loop zbl [] zbk)))
 (.seq (.region (some [5]) [w 35 5,
 i 36 (.nilck (.t 35)),
 i 37 (.faddr 18 (.t 36)),
 i 38 (.load false 1 (.t 37)),
 w 4 38] [])
 (.ret)))))
def a_q3e : AFn:=.code 2 c_q3e [.tmp 4]
theorem k_q3e : compF Tryz.prog h_q3e F_q3e = some a_q3e:=by kernel_rfl

def h_q3d : Hints:={ kp:=[(0,[0,1]),(1,[0,1])],lkp:=[],lth:=[] }
def c_q3d : ACode :=
 .seq (.region (some [0,1]) [i 3 (.mv (kb false))] [])
 (.seq (.region (some [0,1]) [w 4 0,
 i 5 (.faddr 1 (.t 1)),
 i 6 (.iaddrA 5 3 (.t 5) (.t 4)),
 i 7 (.faddr 0 (.t 6)),
 i 8 (.load false 1 (.t 7)),
 i 9 (.un .not (.t 8)),
 w 3 9] [])
 (.ret))
def a_q3d : AFn:=.code 2 c_q3d [.tmp 3]
theorem k_q3d : compF Tryz.prog h_q3d F_q3d = some a_q3d:=by kernel_rfl

def h_q2h : Hints:={ kp:=[(0,[0]),(1,[1]),(2,[]),(3,[1]),(4,[]),(5,[1])],lkp:=[],lth:=[] }
def c_q2h : ACode :=
 .seq (.region (some [0]) [i 1 (.box (.t 0)),
 i 2 (.mv (kb false))] [])
 (.seq (.seq (.region (some [1]) [i 3 (.faddr 0 (.t 1)),
 i 4 (.load false 1 (.t 3)),
 i 5 (.bin .lss (.t 4) (.c (.d (.i .u8 1)))),
 w 6 5,
 j 7 6 false (.faddr 0 (.t 1)),
 j 8 6 false (.load false 1 (.t 7)),
 j 9 6 false (.bin .gtr (.t 8) (.c (.d (.i .u8 3)))),
 i 10 (.pick (.t 6) (kb true) (.t 9)),
 w 11 10,
 j 12 11 false (.faddr 1 (.t 1)),
 j 13 11 false (.load false 1 (.t 12)),
 j 14 11 false (.bin .lss (.t 13) (.c (.d (.i .u32 1)))),
 i 15 (.pick (.t 11) (kb true) (.t 14)),
 w 16 15,
 j 17 16 false (.faddr 2 (.t 1)),
 j 18 16 false (.load false 1 (.t 17)),
 j 19 16 false (.bin .lss (.t 18) (.c (.d (.i .u8 1)))),
 i 20 (.pick (.t 16) (kb true) (.t 19)),
 w 21 20,
 j 22 21 false (.faddr 2 (.t 1)),
 j 23 21 false (.load false 1 (.t 22)),
 j 24 21 false (.bin .gtr (.t 23) (.c (.d (.i .u8 5)))),
 i 25 (.pick (.t 21) (kb true) (.t 24)),
 w 26 25,
 j 27 26 false (.faddr 3 (.t 1)),
 j 28 26 false (.load false 1 (.t 27)),
 j 29 26 false (.bin .geq (.t 28) (.c (.d (.i .u8 6)))),
 i 30 (.pick (.t 26) (kb true) (.t 29)),
 w 31 30,
 j 32 31 false (.faddr 5 (.t 1)),
 j 33 31 false (.load false 1 (.t 32)),
 j 34 31 false (.len true (.t 33)),
 j 35 31 false (.bin .gtr (.t 34) (k 16)),
 i 36 (.pick (.t 31) (kb true) (.t 35))] [])
 (.cond (.t 36) (.seq (.region (some []) [i 2 (.mv (kb false))] [])
 (.ret)) (.skip)))
 (.seq (.seq (.region (some [1]) [i 37 (.faddr 2 (.t 1)),
 i 38 (.load false 1 (.t 37)),
 i 39 (.bin .neq (.t 38) (.c (.d (.i .u8 1)))),
 w 40 39,
 j 41 40 true (.faddr 2 (.t 1)),
 j 42 40 true (.load false 1 (.t 41)),
 j 43 40 true (.bin .neq (.t 42) (.c (.d (.i .u8 3)))),
 i 44 (.pick (.t 40) (.t 43) (kb false)),
 w 45 44,
 j 46 45 true (.faddr 5 (.t 1)),
 j 47 45 true (.load false 1 (.t 46)),
 ⟨some 48,.bin .neq (.t 47) (.c (.d (.s ⟨#[]⟩))),some (45,true)⟩,
 i 49 (.pick (.t 45) (.t 48) (kb false))] [])
 (.cond (.t 49) (.seq (.region (some []) [i 2 (.mv (kb false))] [])
 (.ret)) (.skip)))
 (.seq (.region (some [1]) [i 50 (.faddr 2 (.t 1)),
 i 51 (.load false 1 (.t 50)),
 i 52 (.bin .neq (.t 51) (.c (.d (.i .u8 4)))),
 w 53 52,
 j 54 53 true (.faddr 2 (.t 1)),
 j 55 53 true (.load false 1 (.t 54)),
 j 56 53 true (.bin .neq (.t 55) (.c (.d (.i .u8 5)))),
 i 57 (.pick (.t 53) (.t 56) (kb false)),
 w 58 57,
 j 59 58 false (.faddr 4 (.t 1)),
 j 60 58 false (.load false 1 (.t 59)),
 j 61 58 false (.bin .eql (.t 60) (.c (.d (.i .u8 0)))),
 i 62 (.pick (.t 58) (kb true) (.t 61)),
 w 2 62] [])
 (.ret))))
def a_q2h : AFn:=.code 1 c_q2h [.tmp 2]
theorem k_q2h : compF Tryz.prog h_q2h F_q2h = some a_q2h:=by kernel_rfl

def h_q3b : Hints:={ kp:=[(0,[0,1]),(1,[1,2]),(2,[]),(3,[1,2])],lkp:=[],lth:=[] }
def c_q3b : ACode :=
 .seq (.region (some [0,1]) [i 2 (.box (.t 0)),
 i 4 (.mv (k 0))] [])
 (.seq (.seq (.region (some [1,2]) [w 5 1,
 i 6 (.faddr 40 (.t 2)),
 i 7 (.faddr 1 (.t 6)),
 i 8 (.load false 1 (.t 7)),
 i 9 (.bin .lss (.t 5) (.t 8)),
 w 10 9,
 j 11 10 false (.mv (.t 1)),
 j 12 10 false (.load true 49 (.t 2)),
 j 13 10 false (.call (.f F_q38) [.t 12]),
 j 14 10 false (.field false 1 1 (.t 13)),
 j 15 10 false (.bin .gtr (.t 11) (.t 14)),
 i 16 (.pick (.t 10) (kb true) (.t 15))] [])
 (.cond (.t 16) (.seq (.region (some []) [i 4 (.mv (.c (.d (.i .i64 (-1)))))] [])
 (.ret)) (.skip)))
 (.seq (.region (some [1,2]) [w 17 1,
 i 18 (.faddr 40 (.t 2)),
 i 19 (.faddr 1 (.t 18)),
 i 20 (.load false 1 (.t 19)),
 i 21 (.bin .sub (.t 17) (.t 20)),
 i 22 (.conv .i64 (.t 21)),
 w 4 22] [])
 (.ret)))
def a_q3b : AFn:=.code 2 c_q3b [.tmp 4]
theorem k_q3b : compF Tryz.prog h_q3b F_q3b = some a_q3b:=by kernel_rfl

def h_q2j : Hints:={ kp:=[(0,[0,1]),(1,[2,3,4]),(2,[4]),(3,[2,3,4]),(4,[3,4,6]),(6,[3,4,6]),(7,[4,6]),(5,[4]),(8,[4])],lkp:=[],lth:=[] }
def c_q2j : ACode :=
 .seq (.region (some [0,1]) [i 2 (.box (.t 0)),
 i 3 (.box (.t 1)),
 ⟨some 4,.box (.c (.d (.agg [.i .u8 0,.s ⟨#[]⟩]))),none⟩,
 i 5 (.mv (kb false))] [])
 (.seq (.seq (.region (some [2,3,4]) [i 7 (.load true 6 (.t 3)),
 i 8 (.call (.f F_q2l) [.t 7]),
 i 9 (.un .not (.t 8))] [])
 (.cond (.t 9) (.seq (.region (some [4]) [⟨some 10,.build [.d (.i .u8 0),.d (.s ⟨#[]⟩)] [],none⟩,
 ⟨none,.store 2 (.t 4) (.t 10),none⟩,
 i 5 (.mv (kb false))] [])
 (.ret)) (.skip)))
 (.seq (.region (some [2,3,4]) [i 11 (.faddr 0 (.t 3)),
 i 12 (.load false 1 (.t 11)),
 i 13 (.bin .sub (.t 12) (.c (.d (.i .u8 1)))),
 i 14 (.faddr 30 (.t 2)),
 i 15 (.iaddrA 3 3 (.t 14) (.t 13)),
 i 16 (.load true 3 (.t 15)),
 ⟨some 6,.box (.c (.d (.agg [.i .u32 0,.i .u8 0,.s ⟨#[]⟩]))),none⟩,
 ⟨none,.store 3 (.t 6) (.t 16),none⟩] [])
 (.seq (.block 0 (.seq (.region (some [3,4,6]) [i 18 (.faddr 0 (.t 6)),
 i 19 (.load false 1 (.t 18)),
 i 20 (.faddr 1 (.t 3)),
 i 21 (.load false 1 (.t 20)),
 i 22 (.bin .lss (.t 19) (.t 21)),
 w 17 22] [])
 (.cond (.t 17) (.seq (.region (some [4]) [⟨some 23,.build [.d (.i .u8 0),.d (.s ⟨#[]⟩)] [],none⟩,
 ⟨none,.store 2 (.t 4) (.t 23),none⟩,
 i 5 (.mv (kb false))] [])
 (.ret)) (.seq (.region (some [3,4,6]) [i 25 (.faddr 0 (.t 6)),
 i 26 (.load false 1 (.t 25)),
 i 27 (.faddr 1 (.t 3)),
 i 28 (.load false 1 (.t 27)),
 i 29 (.bin .eql (.t 26) (.t 28)),
 w 24 29] [])
 (.cond (.t 24) (.seq (.region (some [4,6]) [i 30 (.faddr 1 (.t 6)),
 i 31 (.load true 2 (.t 30)),
 ⟨none,.store 2 (.t 4) (.t 31),none⟩,
 i 5 (.mv (kb true))] [])
 (.ret)) (.skip))))))
 (.seq (.region (some [4]) [⟨some 32,.build [.d (.i .u8 0),.d (.s ⟨#[]⟩)] [(0,1,.c (.d (.i .u8 3)))],none⟩,
 ⟨none,.store 2 (.t 4) (.t 32),none⟩,
 i 5 (.mv (kb true))] [])
 (.ret)))))
def a_q2j : AFn:=.code 2 c_q2j [.cell true 2 4,.tmp 5]
theorem k_q2j : compF Tryz.prog h_q2j F_q2j = some a_q2j:=by kernel_rfl

def h_q2m : Hints:={ kp:=[(0,[0,1]),(1,[2,3,4]),(2,[2,3,4,6]),(6,[2,3,4,6,13]),(16,[2,3,4,6,13]),(24,[2,3,4,6,13]),(3,[2,4]),(4,[2,4]),(5,[2,4]),(25,[2,3,4,6]),(26,[2,4]),(27,[2,3,4,6]),(28,[2,4]),(29,[2,3,4,6]),(17,[2,4,6]),(18,[2,4]),(19,[2,4,6]),(20,[2,4]),(21,[2,4,6]),(22,[2,4,6]),(23,[2,4,6]),(7,[2,3,4,6]),(8,[2,4]),(9,[2,3,4,6]),(10,[2,3,4,6,7]),(11,[2,3,4,6,7]),(12,[2,3,4,6,7]),(13,[2,3,4,6,7,8]),(14,[2,3,4,6,7]),(15,[2,3,4,6,7,8]),(30,[2,4])],lkp:=[],lth:=[] }
def c_q2m : ACode :=
 .seq (.region (some [0,1]) [i 2 (.box (.t 0)),
 i 3 (.box (.t 1)),
 ⟨some 4,.box (.c (.d (.agg [.b false,.s ⟨#[]⟩,.s ⟨#[]⟩,.s ⟨#[]⟩,.s ⟨#[]⟩]))),none⟩,
 i 5 (.mv (.c (.d (.i .u8 0))))] [])
 (.seq (.region (some [2,3,4]) [i 9 (.faddr 4 (.t 3)),
 i 10 (.load false 1 (.t 9)),
 i 11 (.conv .i64 (.t 10)),
 w 6 11] [])
 (.seq (.seq (.region (some [2,3,4,6]) [i 12 (.faddr 2 (.t 3)),
 i 13 (.load false 1 (.t 12))] [])
 (.block 0 (.seq (.region (some [2,3,4,6,13]) [i 20 (.bin .eql (.t 13) (.c (.d (.i .u8 1)))),
 w 19 20] [])
 (.cond (.t 19) (.seq (.seq (.region (some [2,3,4,6]) [w 21 6,
 i 22 (.faddr 5 (.t 3)),
 i 23 (.load false 1 (.t 22)),
 i 24 (.len true (.t 23)),
 i 25 (.bin .add (.t 21) (.t 24)),
 i 26 (.bin .gtr (.t 25) (k 16))] [])
 (.cond (.t 26) (.seq (.region (some [2,4]) [i 27 (.load true 5 (.t 2)),
 ⟨none,.store 5 (.t 4) (.t 27),none⟩,
 i 5 (.mv (.c (.d (.i .u8 2))))] [])
 (.ret)) (.skip)))
 (.seq (.region (some [2,3,4,6]) [i 28 (.faddr 1 (.t 2)),
 i 29 (.load false 1 (.t 28)),
 w 7 29] [])
 (.seq (.seq (.region (some [2,3,4,6,7]) [w 30 7,
 i 31 (.len true (.t 30)),
 w 32 6,
 i 33 (.bin .lss (.t 31) (.t 32))] [])
 (.cond (.t 33) (.region (some [2,3,4,6,7]) [w 34 7,
 w 35 6,
 w 36 7,
 i 37 (.len true (.t 36)),
 i 38 (.bin .sub (.t 35) (.t 37)),
 i 39 (.call (.f F_q2o) [.t 38]),
 i 40 (.bin .add (.t 34) (.t 39)),
 w 7 40] []) (.skip)))
 (.seq (.region (some [2,3,4,6,7]) [⟨some 8,.mv (.c (.d (.s ⟨#[]⟩))),none⟩] [])
 (.seq (.seq (.region (some [2,3,4,6,7,8]) [w 41 7,
 i 42 (.len true (.t 41)),
 w 43 6,
 i 44 (.faddr 5 (.t 3)),
 i 45 (.load false 1 (.t 44)),
 i 46 (.len true (.t 45)),
 i 47 (.bin .add (.t 43) (.t 46)),
 i 48 (.bin .gtr (.t 42) (.t 47))] [])
 (.cond (.t 48) (.region (some [2,3,4,6,7]) [w 49 7,
 w 50 6,
 i 51 (.faddr 5 (.t 3)),
 i 52 (.load false 1 (.t 51)),
 i 53 (.len true (.t 52)),
 i 54 (.bin .add (.t 50) (.t 53)),
 i 55 (.slice 0 (.t 49) (some (.t 54)) none none),
 w 8 55] []) (.skip)))
 (.region (some [2,3,4,6,7,8]) [w 56 7,
 w 57 6,
 i 58 (.slice 0 (.t 56) none (some (.t 57)) none),
 i 59 (.faddr 5 (.t 3)),
 i 60 (.load false 1 (.t 59)),
 i 61 (.bin .add (.t 58) (.t 60)),
 w 62 8,
 i 63 (.bin .add (.t 61) (.t 62)),
 i 64 (.faddr 0 (.t 2)),
 ⟨none,.store 1 (.t 64) (kb true),none⟩,
 i 65 (.faddr 1 (.t 2)),
 ⟨none,.store 1 (.t 65) (.t 63),none⟩] [(4,9)])))))) (.seq (.region (some [2,3,4,6,13]) [i 67 (.bin .eql (.t 13) (.c (.d (.i .u8 2)))),
 w 66 67] [])
 (.cond (.t 66) (.seq (.seq (.region (some [2,4,6]) [i 68 (.faddr 0 (.t 2)),
 i 69 (.load false 1 (.t 68)),
 i 70 (.un .not (.t 69))] [])
 (.cond (.t 70) (.seq (.region (some [2,4]) [i 71 (.load true 5 (.t 2)),
 ⟨none,.store 5 (.t 4) (.t 71),none⟩,
 i 5 (.mv (.c (.d (.i .u8 1))))] [])
 (.ret)) (.skip)))
 (.seq (.seq (.region (some [2,4,6]) [w 72 6,
 i 73 (.bin .gtr (.t 72) (k 16))] [])
 (.cond (.t 73) (.seq (.region (some [2,4]) [i 74 (.load true 5 (.t 2)),
 ⟨none,.store 5 (.t 4) (.t 74),none⟩,
 i 5 (.mv (.c (.d (.i .u8 2))))] [])
 (.ret)) (.skip)))
 (.seq (.seq (.region (some [2,4,6]) [i 75 (.faddr 1 (.t 2)),
 i 76 (.load false 1 (.t 75)),
 i 77 (.len true (.t 76)),
 w 78 6,
 i 79 (.bin .lss (.t 77) (.t 78))] [])
 (.cond (.t 79) (.region (some [2,4,6]) [i 80 (.faddr 1 (.t 2)),
 i 81 (.load false 1 (.t 80)),
 w 82 6,
 i 83 (.faddr 1 (.t 2)),
 i 84 (.load false 1 (.t 83)),
 i 85 (.len true (.t 84)),
 i 86 (.bin .sub (.t 82) (.t 85)),
 i 87 (.call (.f F_q2o) [.t 86]),
 i 88 (.bin .add (.t 81) (.t 87)),
 i 89 (.faddr 1 (.t 2)),
 ⟨none,.store 1 (.t 89) (.t 88),none⟩] [(1,4),(1,7)]) (.skip)))
 (.region (some [2,4,6]) [i 90 (.faddr 1 (.t 2)),
 i 91 (.load false 1 (.t 90)),
 w 92 6,
 i 93 (.slice 0 (.t 91) none (some (.t 92)) none),
 i 94 (.faddr 1 (.t 2)),
 ⟨none,.store 1 (.t 94) (.t 93),none⟩] [])))) (.seq (.region (some [2,3,4,6,13]) [i 96 (.bin .eql (.t 13) (.c (.d (.i .u8 3)))),
 w 95 96] [])
 (.cond (.t 95) (.seq (.seq (.region (some [2,3,4,6]) [w 97 6,
 i 98 (.bin .geq (.t 97) (k 3))] [])
 (.cond (.t 98) (.seq (.region (some [2,4]) [i 99 (.load true 5 (.t 2)),
 ⟨none,.store 5 (.t 4) (.t 99),none⟩,
 i 5 (.mv (.c (.d (.i .u8 3))))] [])
 (.ret)) (.skip)))
 (.seq (.seq (.region (some [2,3,4,6]) [i 100 (.faddr 0 (.t 2)),
 i 101 (.load false 1 (.t 100)),
 i 102 (.un .not (.t 101))] [])
 (.cond (.t 102) (.seq (.region (some [2,4]) [i 103 (.load true 5 (.t 2)),
 ⟨none,.store 5 (.t 4) (.t 103),none⟩,
 i 5 (.mv (.c (.d (.i .u8 1))))] [])
 (.ret)) (.skip)))
 (.region (some [2,3,4,6]) [w 104 6,
 i 105 (.faddr 5 (.t 3)),
 i 106 (.load false 1 (.t 105)),
 i 107 (.faddr 2 (.t 2)),
 i 108 (.iaddrA 3 1 (.t 107) (.t 104)),
 ⟨none,.store 1 (.t 108) (.t 106),none⟩] []))) (.seq (.seq (.region (some [2,4]) [i 14 (.faddr 0 (.t 2)),
 i 15 (.load false 1 (.t 14)),
 i 16 (.un .not (.t 15))] [])
 (.cond (.t 16) (.seq (.region (some [2,4]) [i 17 (.load true 5 (.t 2)),
 ⟨none,.store 5 (.t 4) (.t 17),none⟩,
 i 5 (.mv (.c (.d (.i .u8 1))))] [])
 (.ret)) (.skip)))
 (.region (some [2,4]) [⟨some 18,.build [.d (.b false),.d (.s ⟨#[]⟩),.d (.s ⟨#[]⟩),.d (.s ⟨#[]⟩),.d (.s ⟨#[]⟩)] [],none⟩,
 ⟨none,.store 5 (.t 2) (.t 18),none⟩] []))))))))))
 (.seq (.region (some [2,4]) [i 109 (.load true 5 (.t 2)),
 ⟨none,.store 5 (.t 4) (.t 109),none⟩,
 i 5 (.mv (.c (.d (.i .u8 0))))] [])
 (.ret))))
def a_q2m : AFn:=.code 2 c_q2m [.cell true 5 4,.tmp 5]
theorem k_q2m : compF Tryz.prog h_q2m F_q2m = some a_q2m:=by kernel_rfl

def h_q1z : Hints:={ dat:=true,kp:=[(0,[0,1]),(1,[1,2]),(2,[2,5]),(3,[2,5,6]),(4,[2,5,6,7]),(6,[2,5,6,7]),(7,[2,5,6,7]),(5,[2,5,6,7]),(8,[6])],lkp:=[(4,[2,5,6,7])],lth:=[(4,[6,1])] }
def zle : Option (List Nat):=(some [2,5,6,7])
def zkf : ACode :=
 .seq (.seq (.region (some [2,5,6,7]) [w 11 7,
 w 12 5,
 i 13 (.len false (.t 12)),
 i 14 (.bin .lss (.t 11) (.t 13))] [])
 (.cond (.t 14) (.skip) (.exit 0)))
 (.seq (.block 1 (.seq (.region (some [2,5,6,7]) [w 17 5,
 w 18 7,
 i 19 (.iaddrS 1 (.t 17) (.t 18)),
 i 20 (.load false 1 (.t 19)),
 i 21 (.faddr 1 (.t 2)),
 i 22 (.iaddrA 5 3 (.t 21) (.t 20)),
 i 23 (.faddr 0 (.t 22)),
 i 24 (.load false 1 (.t 23))] [])
 (.cond (.t 24) (.region (some [2,5,6,7]) [w 25 6,
 w 26 5,
 w 27 7,
 i 28 (.iaddrS 1 (.t 26) (.t 27)),
 i 29 (.load false 1 (.t 28)),
 i 30 (.bsl 1 [.t 29]),
 i 31 (.app 1 (.t 25) (.t 30)),
 w 6 31] []) (.skip))))
 (.region (some [2,5,6,7]) [w 15 7,
 i 16 (.bin .add (.t 15) (k 1)),
 w 7 16] []))
def c_q1z : ACode :=
 .seq (.region (some [0,1]) [i 2 (.box (.t 0)),
 i 4 (.mv (.c (.nilS)))] [])
 (.seq (.region (some [1,2]) [i 8 (.load true 16 (.t 2)),
 w 9 1,
 i 10 (.call (.f F_q2a) [.t 8,.t 9]),
 w 5 10] [])
 (.seq (.region (some [2,5]) [i 6 (.mv (.c (.nilS)))] [])
 (.seq (.seq (.region (some [2,5,6]) [i 7 (.mv (k 0))] [])
 (.block 0 (.loop zle [6,1] zkf)))
 (.seq (.region (some [6]) [w 32 6,
 w 4 32] [])
 (.ret)))))
def a_q1z : AFn:=.code 2 c_q1z [.dat (.tmp 4)]
theorem k_q1z : compF Tryz.prog h_q1z F_q1z = some a_q1z:=by kernel_rfl

def h_q2b : Hints:={ kp:=[(0,[0,1]),(1,[0,1]),(2,[]),(3,[0,1]),(4,[0,1,5]),(6,[0,1,5]),(7,[]),(5,[0,1,5]),(8,[])],lkp:=[(4,[0,1,5])],lth:=[] }
def zky : Option (List Nat):=(some [0,1,5])
def zl5 : ACode :=
 .seq (.seq (.region (some [0,1,5]) [w 11 5,
 w 12 0,
 i 13 (.len false (.t 12)),
 i 14 (.bin .lss (.t 11) (.t 13))] [])
 (.cond (.t 14) (.skip) (.exit 0)))
 (.seq (.block 1 (.seq (.region (some [0,1,5]) [w 17 0,
 w 18 5,
 i 19 (.iaddrS 1 (.t 17) (.t 18)),
 i 20 (.load false 1 (.t 19)),
 w 21 1,
 w 22 5,
 i 23 (.iaddrS 1 (.t 21) (.t 22)),
 i 24 (.load false 1 (.t 23)),
 i 25 (.bin .neq (.t 20) (.t 24))] [(3,7)])
 (.cond (.t 25) (.seq (.region (some []) [i 4 (.mv (kb false))] [])
 (.ret)) (.skip))))
 (.region (some [0,1,5]) [w 15 5,
 i 16 (.bin .add (.t 15) (k 1)),
 w 5 16] []))
def c_q2b : ACode :=
 .seq (.region (some [0,1]) [i 4 (.mv (kb false))] [])
 (.seq (.seq (.region (some [0,1]) [w 6 0,
 i 7 (.len false (.t 6)),
 w 8 1,
 i 9 (.len false (.t 8)),
 i 10 (.bin .neq (.t 7) (.t 9))] [])
 (.cond (.t 10) (.seq (.region (some []) [i 4 (.mv (kb false))] [])
 (.ret)) (.skip)))
 (.seq (.seq (.region (some [0,1]) [i 5 (.mv (k 0))] [])
 (.block 0 (.loop zky [] zl5)))
 (.seq (.region (some []) [i 4 (.mv (kb true))] [])
 (.ret))))
def a_q2b : AFn:=.code 2 c_q2b [.tmp 4]
theorem k_q2b : compF Tryz.prog h_q2b F_q2b = some a_q2b:=by kernel_rfl

def h_q1k : Hints:={ kp:=[(0,[0,1]),(1,[0,3]),(2,[0,3,5]),(3,[]),(4,[0,3,5]),(5,[0,3,5,6]),(6,[0,3,5,6]),(7,[])],lkp:=[],lth:=[] }
def c_q1k : ACode :=
 .seq (.region (some [0,1]) [i 3 (.box (.t 1)),
 i 4 (.mv (.c (.d (.i .u8 0))))] [])
 (.seq (.region (some [0,3]) [i 7 (.faddr 4 (.t 3)),
 i 8 (.load false 1 (.t 7)),
 i 9 (.conv .i64 (.t 8)),
 i 10 (.faddr 5 (.t 3)),
 i 11 (.load false 1 (.t 10)),
 i 12 (.len true (.t 11)),
 i 13 (.bin .add (.t 9) (.t 12)),
 w 5 13] [])
 (.seq (.seq (.region (some [0,3,5]) [w 14 5,
 i 15 (.bin .gtr (.t 14) (k 16))] [])
 (.cond (.t 15) (.seq (.region (some []) [i 4 (.mv (.c (.d (.i .u8 2))))] [])
 (.ret)) (.skip)))
 (.seq (.region (some [0,3,5]) [w 16 0,
 i 17 (.nilck (.t 16)),
 i 18 (.faddr 0 (.t 17)),
 i 19 (.faddr 1 (.t 18)),
 i 20 (.load false 1 (.t 19)),
 w 21 5,
 i 22 (.call (.f F_q1m) [.t 20,.t 21]),
 w 6 22] [])
 (.seq (.region (some [0,3,5,6]) [w 23 0,
 i 24 (.nilck (.t 23)),
 i 25 (.faddr 0 (.t 24)),
 i 26 (.faddr 0 (.t 25)),
 ⟨none,.store 1 (.t 26) (kb true),none⟩] [])
 (.seq (.region (some [0,3,5,6]) [w 27 0,
 w 28 6,
 i 29 (.faddr 4 (.t 3)),
 i 30 (.load false 1 (.t 29)),
 i 31 (.slice 0 (.t 28) none (some (.t 30)) none),
 i 32 (.faddr 5 (.t 3)),
 i 33 (.load false 1 (.t 32)),
 i 34 (.bin .add (.t 31) (.t 33)),
 w 35 6,
 w 36 5,
 i 37 (.slice 0 (.t 35) (some (.t 36)) none none),
 i 38 (.bin .add (.t 34) (.t 37)),
 i 39 (.nilck (.t 27)),
 i 40 (.faddr 0 (.t 39)),
 i 41 (.faddr 1 (.t 40)),
 ⟨none,.store 1 (.t 41) (.t 38),none⟩] [(3,6)])
 (.seq (.region (some []) [i 4 (.mv (.c (.d (.i .u8 0))))] [])
 (.ret)))))))
def a_q1k : AFn:=.code 2 c_q1k [.tmp 4]
theorem k_q1k : compF Tryz.prog h_q1k F_q1k = some a_q1k:=by kernel_rfl

def h_q1j : Hints:={ kp:=[(0,[0,1]),(1,[0,3]),(3,[0,3]),(4,[]),(2,[]),(5,[0,3]),(6,[])],lkp:=[],lth:=[] }
def c_q1j : ACode :=
 .seq (.region (some [0,1]) [i 3 (.box (.t 1)),
 i 4 (.mv (.c (.d (.i .u8 0))))] [])
 (.seq (.block 0 (.seq (.region (some [0,3]) [w 6 0,
 i 7 (.nilck (.t 6)),
 i 8 (.faddr 0 (.t 7)),
 i 9 (.faddr 0 (.t 8)),
 i 10 (.load false 1 (.t 9)),
 i 11 (.un .not (.t 10)),
 w 5 11] [])
 (.cond (.t 5) (.seq (.region (some []) [i 4 (.mv (.c (.d (.i .u8 1))))] [])
 (.ret)) (.seq (.region (some [0,3]) [i 13 (.faddr 4 (.t 3)),
 i 14 (.load false 1 (.t 13)),
 i 15 (.bin .gtr (.t 14) (.c (.d (.i .u8 16)))),
 w 12 15] [])
 (.cond (.t 12) (.seq (.region (some []) [i 4 (.mv (.c (.d (.i .u8 2))))] [])
 (.ret)) (.skip))))))
 (.seq (.region (some [0,3]) [w 16 0,
 w 17 0,
 i 18 (.nilck (.t 17)),
 i 19 (.faddr 0 (.t 18)),
 i 20 (.faddr 1 (.t 19)),
 i 21 (.load false 1 (.t 20)),
 i 22 (.faddr 4 (.t 3)),
 i 23 (.load false 1 (.t 22)),
 i 24 (.conv .i64 (.t 23)),
 i 25 (.call (.f F_q1m) [.t 21,.t 24]),
 i 26 (.faddr 4 (.t 3)),
 i 27 (.load false 1 (.t 26)),
 i 28 (.slice 0 (.t 25) none (some (.t 27)) none),
 i 29 (.nilck (.t 16)),
 i 30 (.faddr 0 (.t 29)),
 i 31 (.faddr 1 (.t 30)),
 ⟨none,.store 1 (.t 31) (.t 28),none⟩] [(5,7),(5,11),(7,11),(9,11)])
 (.seq (.region (some []) [i 4 (.mv (.c (.d (.i .u8 0))))] [])
 (.ret))))
def a_q1j : AFn:=.code 2 c_q1j [.tmp 4]
theorem k_q1j : compF Tryz.prog h_q1j F_q1j = some a_q1j:=by kernel_rfl

def h_q1h : Hints:={ kp:=[(0,[0,1]),(1,[0,3]),(3,[0,3]),(4,[]),(2,[]),(5,[0,3]),(6,[])],lkp:=[],lth:=[] }
def c_q1h : ACode :=
 .seq (.region (some [0,1]) [i 3 (.box (.t 1)),
 i 4 (.mv (.c (.d (.i .u8 0))))] [])
 (.seq (.block 0 (.seq (.region (some [0,3]) [i 6 (.faddr 4 (.t 3)),
 i 7 (.load false 1 (.t 6)),
 i 8 (.bin .geq (.t 7) (.c (.d (.i .u8 3)))),
 w 5 8] [])
 (.cond (.t 5) (.seq (.region (some []) [i 4 (.mv (.c (.d (.i .u8 3))))] [])
 (.ret)) (.seq (.region (some [0,3]) [w 10 0,
 i 11 (.nilck (.t 10)),
 i 12 (.faddr 0 (.t 11)),
 i 13 (.faddr 0 (.t 12)),
 i 14 (.load false 1 (.t 13)),
 i 15 (.un .not (.t 14)),
 w 9 15] [])
 (.cond (.t 9) (.seq (.region (some []) [i 4 (.mv (.c (.d (.i .u8 1))))] [])
 (.ret)) (.skip))))))
 (.seq (.region (some [0,3]) [w 16 0,
 i 17 (.faddr 4 (.t 3)),
 i 18 (.load false 1 (.t 17)),
 i 19 (.faddr 5 (.t 3)),
 i 20 (.load false 1 (.t 19)),
 i 21 (.nilck (.t 16)),
 i 22 (.faddr 0 (.t 21)),
 i 23 (.faddr 2 (.t 22)),
 i 24 (.iaddrA 3 1 (.t 23) (.t 18)),
 ⟨none,.store 1 (.t 24) (.t 20),none⟩] [(2,4)])
 (.seq (.region (some []) [i 4 (.mv (.c (.d (.i .u8 0))))] [])
 (.ret))))
def a_q1h : AFn:=.code 2 c_q1h [.tmp 4]
theorem k_q1h : compF Tryz.prog h_q1h F_q1h = some a_q1h:=by kernel_rfl

def h_q1i : Hints:={ kp:=[(0,[0,1]),(1,[0]),(2,[]),(3,[0]),(4,[])],lkp:=[],lth:=[] }
def c_q1i : ACode :=
 .seq (.region (some [0,1]) [i 3 (.box (.t 1)),
 i 4 (.mv (.c (.d (.i .u8 0))))] [])
 (.seq (.seq (.region (some [0]) [w 5 0,
 i 6 (.nilck (.t 5)),
 i 7 (.faddr 0 (.t 6)),
 i 8 (.faddr 0 (.t 7)),
 i 9 (.load false 1 (.t 8)),
 i 10 (.un .not (.t 9))] [])
 (.cond (.t 10) (.seq (.region (some []) [i 4 (.mv (.c (.d (.i .u8 1))))] [])
 (.ret)) (.skip)))
 (.seq (.region (some [0]) [w 11 0,
 ⟨some 12,.build [.d (.b false),.d (.s ⟨#[]⟩),.d (.s ⟨#[]⟩),.d (.s ⟨#[]⟩),.d (.s ⟨#[]⟩)] [],none⟩,
 i 13 (.nilck (.t 11)),
 i 14 (.faddr 0 (.t 13)),
 ⟨none,.store 5 (.t 14) (.t 12),none⟩] [])
 (.seq (.region (some []) [i 4 (.mv (.c (.d (.i .u8 0))))] [])
 (.ret))))
def a_q1i : AFn:=.code 2 c_q1i [.tmp 4]
theorem k_q1i : compF Tryz.prog h_q1i F_q1i = some a_q1i:=by kernel_rfl

def h_q41 : Hints:={ kp:=[(0,[0]),(1,[0]),(2,[]),(3,[0])],lkp:=[],lth:=[] }
def c_q41 : ACode :=
 .seq (.region (some [0]) [i 2 (.mv (.c (.nilS)))] [])
 (.seq (.seq (.region (some [0]) [w 3 0,
 i 4 (.isnil false (.t 3))] [])
 (.cond (.t 4) (.seq (.region (some []) [i 2 (.mv (.c (.nilS)))] [])
 (.ret)) (.skip)))
 (.seq (.region (some [0]) [i 5 (.bsl 2 []),
 w 6 0,
 i 7 (.app 2 (.t 5) (.t 6)),
 w 2 7] [])
 (.ret)))
def a_q41 : AFn:=.code 1 c_q41 [.tmp 2]
theorem k_q41 : compF Tryz.prog h_q41 F_q41 = some a_q41:=by kernel_rfl

def h_q0b : Hints:={ kp:=[(0,[0,1]),(1,[1,2])],lkp:=[],lth:=[] }
def c_q0b : ACode :=
 .seq (.region (some [0,1]) [i 2 (.box (.t 0)),
 i 4 (.mv (kb false))] [])
 (.seq (.region (some [1,2]) [i 5 (.faddr 0 (.t 2)),
 i 6 (.load false 1 (.t 5)),
 w 7 1,
 i 8 (.call (.f F_q45) [.t 6,.t 7]),
 w 4 8] [])
 (.ret))
def a_q0b : AFn:=.code 2 c_q0b [.tmp 4]
theorem k_q0b : compF Tryz.prog h_q0b F_q0b = some a_q0b:=by kernel_rfl

def h_q4a : Hints:={ kp:=[(0,[0,1]),(1,[0,1]),(2,[0,1,7,8]),(3,[0,1,7,8]),(4,[0,1,5,7,8]),(5,[5]),(6,[0,1,7,8]),(7,[])],lkp:=[(2,[0,1,7,8])],lth:=[] }
def zj3 : Option (List Nat):=(some [0,1,7,8])
def zkn : ACode :=
 .seq (.region (some [0,1,7,8]) [i 9 (.bin .lss (.t 8) (.t 7))] [])
 (.seq (.cond (.t 9) (.skip) (.exit 0))
 (.seq (.block 1 (.seq (.region (some [0,1,7,8]) [w 10 8,
 w 5 10] [])
 (.seq (.region (some [0,1,5,7,8]) [w 11 1,
 w 12 0,
 w 13 5,
 i 14 (.iaddrS 2 (.t 12) (.t 13)),
 i 15 (.load true 2 (.t 14)),
 i 16 (.call (.t 11) [.t 15])] [])
 (.cond (.t 16) (.seq (.region (some [5]) [w 17 5,
 w 4 17] [])
 (.ret)) (.skip)))))
 (.region (some [0,1,7,8]) [i 18 (.bin .add (.t 8) (k 1)),
 w 8 18] [])))
def c_q4a : ACode :=
 .seq (.region (some [0,1]) [i 4 (.mv (k 0))] [])
 (.seq (.seq (.region (some [0,1]) [w 6 0,
 i 7 (.len false (.t 6)),
 i 8 (.mv (k 0))] [])
 (.block 0 (.loop zj3 [] zkn)))
 (.seq (.region (some []) [i 4 (.mv (.c (.d (.i .i64 (-1)))))] [])
 (.ret)))
def a_q4a : AFn:=.code 2 c_q4a [.tmp 4]
theorem k_q4a : compF Tryz.prog h_q4a F_q4a = some a_q4a:=by kernel_rfl

def h_q48 : Hints:={ kp:=[(0,[0,1]),(1,[0,1]),(2,[]),(3,[0,1]),(4,[0,1,12,13]),(5,[0,1,12,13]),(6,[0,1,5,12,13]),(7,[]),(8,[0,1,12,13]),(9,[])],lkp:=[(4,[0,1,12,13])],lth:=[] }
def zkc : Option (List Nat):=(some [0,1,12,13])
def zma : ACode :=
 .seq (.region (some [0,1,12,13]) [i 14 (.bin .lss (.t 13) (.t 12))] [])
 (.seq (.cond (.t 14) (.skip) (.exit 0))
 (.seq (.block 1 (.seq (.region (some [0,1,12,13]) [w 15 13,
 w 5 15] [])
 (.seq (.region (some [0,1,5,12,13]) [w 16 0,
 w 17 5,
 i 18 (.iaddrS 8 (.t 16) (.t 17)),
 i 19 (.load true 8 (.t 18)),
 w 20 1,
 w 21 5,
 i 22 (.iaddrS 8 (.t 20) (.t 21)),
 i 23 (.load true 8 (.t 22)),
 i 24 (.eq true Pk.Entry.ety (.t 19) (.t 23))] [(3,7)])
 (.cond (.t 24) (.seq (.region (some []) [i 4 (.mv (kb false))] [])
 (.ret)) (.skip)))))
 (.region (some [0,1,12,13]) [i 25 (.bin .add (.t 13) (k 1)),
 w 13 25] [])))
def c_q48 : ACode :=
 .seq (.region (some [0,1]) [i 4 (.mv (kb false))] [])
 (.seq (.seq (.region (some [0,1]) [w 6 0,
 i 7 (.len false (.t 6)),
 w 8 1,
 i 9 (.len false (.t 8)),
 i 10 (.bin .neq (.t 7) (.t 9))] [])
 (.cond (.t 10) (.seq (.region (some []) [i 4 (.mv (kb false))] [])
 (.ret)) (.skip)))
 (.seq (.seq (.region (some [0,1]) [w 11 0,
 i 12 (.len false (.t 11)),
 i 13 (.mv (k 0))] [])
 (.block 0 (.loop zkc [] zma)))
 (.seq (.region (some []) [i 4 (.mv (kb true))] [])
 (.ret))))
def a_q48 : AFn:=.code 2 c_q48 [.tmp 4]
theorem k_q48 : compF Tryz.prog h_q48 F_q48 = some a_q48:=by kernel_rfl

def h_q30 : Hints:={ kp:=[(0,[0,1]),(1,[1,2,4]),(2,[4]),(3,[1,2,4])],lkp:=[],lth:=[] }
def c_q30 : ACode :=
 .seq (.region (some [0,1]) [i 2 (.box (.t 0)),
 ⟨some 4,.box (.c (.d (.agg [.i .u32 0,.i .u32 0,.i .u8 0,.i .u32 0,.i .u8 0,.i .u8 0,.i .u8 0,.s ⟨#[]⟩]))),none⟩,
 i 5 (.mv (kb false))] [])
 (.seq (.seq (.region (some [1,2,4]) [i 6 (.load true 49 (.t 2)),
 i 7 (.call (.f F_q32) [.t 6]),
 i 8 (.un .not (.t 7)),
 w 9 8,
 j 10 9 false (.mv (.t 1)),
 j 11 9 false (.faddr 40 (.t 2)),
 j 12 9 false (.faddr 1 (.t 11)),
 j 13 9 false (.load false 1 (.t 12)),
 j 14 9 false (.bin .leq (.t 10) (.t 13)),
 i 15 (.pick (.t 9) (kb true) (.t 14)),
 w 16 15,
 j 17 16 false (.load true 49 (.t 2)),
 j 18 16 false (.mv (.t 1)),
 j 19 16 false (.call (.f F_q3b) [.t 17,.t 18]),
 j 20 16 false (.bin .lss (.t 19) (k 1)),
 i 21 (.pick (.t 16) (kb true) (.t 20))] [])
 (.cond (.t 21) (.seq (.region (some [4]) [⟨some 22,.build [.d (.i .u32 0),.d (.i .u32 0),.d (.i .u8 0),.d (.i .u32 0),.d (.i .u8 0),.d (.i .u8 0),.d (.i .u8 0),.d (.s ⟨#[]⟩)] [],none⟩,
 ⟨none,.store 8 (.t 4) (.t 22),none⟩,
 i 5 (.mv (kb false))] [])
 (.ret)) (.skip)))
 (.seq (.region (some [1,2,4]) [i 23 (.faddr 48 (.t 2)),
 i 24 (.load false 1 (.t 23)),
 i 25 (.load true 49 (.t 2)),
 w 26 1,
 i 27 (.call (.f F_q3b) [.t 25,.t 26]),
 i 28 (.bin .sub (.t 27) (k 1)),
 i 29 (.iaddrS 8 (.t 24) (.t 28)),
 i 30 (.load true 8 (.t 29)),
 ⟨none,.store 8 (.t 4) (.t 30),none⟩,
 i 5 (.mv (kb true))] [(1,2),(1,4)])
 (.ret)))
def a_q30 : AFn:=.code 2 c_q30 [.cell true 8 4,.tmp 5]
theorem k_q30 : compF Tryz.prog h_q30 F_q30 = some a_q30:=by kernel_rfl

def h_q35 : Hints:={ kp:=[(0,[0,1]),(1,[1,2,4]),(2,[4]),(3,[1,2,4])],lkp:=[],lth:=[] }
def c_q35 : ACode :=
 .seq (.region (some [0,1]) [i 2 (.box (.t 0)),
 i 4 (.box (.c (.d (.agg Pk.Base.zero.cs)))),
 i 5 (.mv (kb false))] [])
 (.seq (.seq (.region (some [1,2,4]) [i 6 (.load true 49 (.t 2)),
 i 7 (.call (.f F_q32) [.t 6]),
 i 8 (.un .not (.t 7)),
 w 9 8,
 j 10 9 false (.load true 49 (.t 2)),
 j 11 9 false (.mv (.t 1)),
 j 12 9 false (.call (.f F_q3b) [.t 10,.t 11]),
 j 13 9 false (.bin .lss (.t 12) (k 0)),
 i 14 (.pick (.t 9) (kb true) (.t 13))] [])
 (.cond (.t 14) (.seq (.region (some [4]) [i 15 (.build (List.map .d Pk.Base.zero.cs) []),
 ⟨none,.store 39 (.t 4) (.t 15),none⟩,
 i 5 (.mv (kb false))] [])
 (.ret)) (.skip)))
 (.seq (.region (some [1,2,4]) [i 16 (.load true 49 (.t 2)),
 i 17 (.load true 49 (.t 2)),
 w 18 1,
 i 19 (.call (.f F_q3b) [.t 17,.t 18]),
 i 20 (.call (.f F_q37) [.t 16,.t 19]),
 i 21 (.field true 1 39 (.t 20)),
 ⟨none,.store 39 (.t 4) (.t 21),none⟩,
 i 5 (.mv (kb true))] [(0,1),(0,3)])
 (.ret)))
def a_q35 : AFn:=.code 2 c_q35 [.cell true 39 4,.tmp 5]
theorem k_q35 : compF Tryz.prog h_q35 F_q35 = some a_q35:=by kernel_rfl

def h_q0w : Hints:={ kp:=[(0,[0]),(1,[1])],lkp:=[],lth:=[] }
def c_q0w : ACode :=
 .seq (.region (some [0]) [i 1 (.box (.t 0)),
 i 2 (.mv (.c (.nilS)))] [])
 (.seq (.region (some [1]) [i 3 (.load true 16 (.t 1)),
 i 4 (.call (.f F_q10) [.t 3,.f F_q0x]),
 w 2 4] [])
 (.ret))
def a_q0w : AFn:=.code 1 c_q0w [.tmp 2]
theorem k_q0w : compF Tryz.prog h_q0w F_q0w = some a_q0w:=by kernel_rfl

def h_q3i : Hints:={ kp:=[(0,[0,1]),(1,[0,1,4]),(2,[0,1,4,7]),(3,[0,1,4,7]),(4,[0,1,4,5,7]),(5,[0,1,4,6,7]),(6,[0,6]),(7,[0,1,4,7])],lkp:=[(2,[0,1,4,7])],lth:=[] }
def zqk : Option (List Nat):=(some [0,1,4,7])
def zqa : ACode :=
 .seq (.region (some [0,1,4,7]) [i 8 (.bin .lss (.t 7) (k 20))] [])
 (.seq (.cond (.t 8) (.skip) (.exit 0))
 (.seq (.block 1 (.seq (.region (some [0,1,4,7]) [w 9 7,
 w 5 9] [])
 (.seq (.region (some [0,1,4,5,7]) [w 10 4,
 w 11 0,
 w 12 1,
 w 13 5,
 i 14 (.bin .mul (.t 13) (k 3)),
 i 15 (.bin .add (.t 12) (.t 14)),
 i 16 (.call (.t 10) [.t 11,.t 15]),
 w 6 16] [])
 (.seq (.region (some [0,1,4,6,7]) [w 17 0,
 w 18 6,
 i 19 (.call (.f F_q3g) [.t 17,.t 18])] [])
 (.cond (.t 19) (.seq (.region (some [0,6]) [w 20 0,
 w 21 0,
 i 22 (.nilck (.t 21)),
 i 23 (.faddr 18 (.t 22)),
 i 24 (.load false 1 (.t 23)),
 w 25 6,
 i 26 (.bsl 1 [.t 25]),
 i 27 (.app 1 (.t 24) (.t 26)),
 i 28 (.nilck (.t 20)),
 i 29 (.faddr 18 (.t 28)),
 ⟨none,.store 1 (.t 29) (.t 27),none⟩] [])
 (.ret)) (.skip))))))
 (.region (some [0,1,4,7]) [i 30 (.bin .add (.t 7) (k 1)),
 w 7 30] [])))
def c_q3i : ACode :=
 .seq (.region (some [0,1]) [i 4 (.mv (.f F_q3f))] [])
 (.seq (.region (some [0,1,4]) [i 7 (.mv (k 0))] [])
 (.block 0 (.loop zqk [] zqa)))
def a_q3i : AFn:=.code 2 c_q3i []
theorem k_q3i : compF Tryz.prog h_q3i F_q3i = some a_q3i:=by kernel_rfl

def h_q2o : Hints:={ kp:=[(0,[0]),(1,[0]),(2,[0,3]),(3,[0,3,4]),(5,[0,3,4]),(4,[0,3,4]),(6,[3])],lkp:=[(3,[0,3,4])],lth:=[] }
def zpd : Option (List Nat):=(some [0,3,4])
def zqc : ACode :=
 .seq (.seq (.region (some [0,3,4]) [w 5 4,
 w 6 0,
 i 7 (.bin .lss (.t 5) (.t 6))] [])
 (.cond (.t 7) (.skip) (.exit 0)))
 (.seq (.block 1 (.region (some [0,3,4]) [w 10 3,
 ⟨some 11,.bin .add (.t 10) (.c (.d (.s ⟨#[0]⟩))),none⟩,
 w 3 11] []))
 (.region (some [0,3,4]) [w 8 4,
 i 9 (.bin .add (.t 8) (k 1)),
 w 4 9] []))
def c_q2o : ACode :=
 .seq (.region (some [0]) [⟨some 2,.mv (.c (.d (.s ⟨#[]⟩))),none⟩] [])
 (.seq (.region (some [0]) [⟨some 3,.mv (.c (.d (.s ⟨#[]⟩))),none⟩] [])
 (.seq (.seq (.region (some [0,3]) [i 4 (.mv (k 0))] [])
 (.block 0 (.loop zpd [] zqc)))
 (.seq (.region (some [3]) [w 12 3,
 w 2 12] [])
 (.ret))))
def a_q2o : AFn:=.code 1 c_q2o [.tmp 2]
theorem k_q2o : compF Tryz.prog h_q2o F_q2o = some a_q2o:=by kernel_rfl

def h_q2a : Hints:={ dat:=true,kp:=[(0,[0,1]),(1,[1,2]),(2,[]),(3,[1,2]),(4,[1,2,5]),(5,[1,2,5,6]),(7,[1,2,5,6]),(8,[1,2,5,6,7]),(10,[1,2,5,6,7]),(11,[1,2,5,6,7,8,9]),(12,[1,2,5,6,7,8,9,10]),(14,[1,2,5,6,7,8,9,10]),(15,[1,2,5,6,7,8,9,10]),(16,[1,2,5,6,7,8,9,10,11]),(17,[1,2,5,6,7,10,11]),(13,[1,2,5,6,7,8,9,10]),(18,[1,2,5,6,7,8]),(19,[1,2,5,6,7,8,12]),(20,[1,2,5,6,7,8,12,13]),(22,[1,2,5,6,7,8,13]),(21,[1,2,5,6,7,8,12,13]),(23,[1,2,5,6,7,8,12]),(24,[1,2,5,6,8]),(9,[1,2,5,6,7]),(6,[1,2,5,6]),(25,[5])],lkp:=[(5,[1,2,5,6]),(8,[1,2,5,6,7]),(12,[1,2,5,6,7,8,9,10]),(20,[1,2,5,6,7,8,12,13])],lth:=[(5,[5,1]),(8,[5,1])] }
def zd2 : Option (List Nat):=(some [1,2,5,6,7,8,9,10])
def zd4 : ACode :=
 .seq (.seq (.region (some [1,2,5,6,7,8,9,10]) [w 29 10,
 i 30 (.bin .lss (.t 29) (k 5))] [])
 (.cond (.t 30) (.skip) (.exit 4)))
 (.seq (.block 5 (.seq (.seq (.region (some [1,2,5,6,7,8,9,10]) [w 33 10,
 i 34 (.faddr 1 (.t 2)),
 i 35 (.iaddrA 5 3 (.t 34) (.t 33)),
 i 36 (.faddr 1 (.t 35)),
 i 37 (.load false 1 (.t 36)),
 i 38 (.bin .lss (.t 37) (k 1))] [])
 (.cond (.t 38) (.exit 5) (.skip)))
 (.seq (.region (some [1,2,5,6,7,8,9,10]) [w 39 1,
 w 40 10,
 w 41 6,
 w 42 7,
 i 43 (.bin .mul (.t 42) (k 3)),
 i 44 (.bin .add (.t 41) (.t 43)),
 w 45 10,
 i 46 (.faddr 1 (.t 2)),
 i 47 (.iaddrA 5 3 (.t 46) (.t 45)),
 i 48 (.faddr 1 (.t 47)),
 i 49 (.load false 1 (.t 48)),
 i 50 (.call (.f F_q1w) [.t 39,.t 40,.t 44,.t 49]),
 w 11 50] [])
 (.seq (.region (some [1,2,5,6,7,8,9,10,11]) [w 51 8,
 i 52 (.bin .lss (.t 51) (k 0)),
 w 53 52,
 j 54 53 false (.mv (.t 11)),
 j 55 53 false (.mv (.t 9)),
 j 56 53 false (.bin .gtr (.t 54) (.t 55)),
 i 57 (.pick (.t 53) (kb true) (.t 56))] [])
 (.cond (.t 57) (.region (some [1,2,5,6,7,10,11]) [w 58 10,
 w 59 11,
 w 8 58,
 w 9 59] []) (.skip))))))
 (.region (some [1,2,5,6,7,8,9,10]) [w 31 10,
 i 32 (.bin .add (.t 31) (k 1)),
 w 10 32] []))
def zdd : Option (List Nat):=(some [1,2,5,6,7,8,12,13])
def zdf : ACode :=
 .seq (.seq (.region (some [1,2,5,6,7,8,12,13]) [w 62 12,
 w 63 62,
 j 64 63 true (.mv (.t 13)),
 j 65 63 true (.mv (.t 5)),
 j 66 63 true (.len false (.t 65)),
 j 67 63 true (.bin .lss (.t 64) (.t 66)),
 i 68 (.pick (.t 63) (.t 67) (kb false))] [])
 (.cond (.t 68) (.skip) (.exit 6)))
 (.seq (.block 7 (.region (some [1,2,5,6,7,8,13]) [w 71 5,
 w 72 13,
 i 73 (.iaddrS 1 (.t 71) (.t 72)),
 i 74 (.load false 1 (.t 73)),
 w 75 8,
 i 76 (.bin .neq (.t 74) (.t 75)),
 w 77 76,
 j 78 77 true (.mv (.t 5)),
 j 79 77 true (.mv (.t 13)),
 j 80 77 true (.iaddrS 1 (.t 78) (.t 79)),
 j 81 77 true (.load false 1 (.t 80)),
 j 82 77 true (.faddr 1 (.t 2)),
 j 83 77 true (.iaddrA 5 3 (.t 82) (.t 81)),
 j 84 77 true (.faddr 2 (.t 83)),
 j 85 77 true (.load false 1 (.t 84)),
 j 86 77 true (.mv (.t 8)),
 j 87 77 true (.faddr 1 (.t 2)),
 j 88 77 true (.iaddrA 5 3 (.t 87) (.t 86)),
 j 89 77 true (.faddr 2 (.t 88)),
 j 90 77 true (.load false 1 (.t 89)),
 j 91 77 true (.bin .neq (.t 85) (.t 90)),
 i 92 (.pick (.t 77) (.t 91) (kb false)),
 w 12 92] [(10,19),(14,19)]))
 (.region (some [1,2,5,6,7,8,12,13]) [w 69 13,
 i 70 (.bin .add (.t 69) (k 1)),
 w 13 70] []))
def zl3 : Option (List Nat):=(some [1,2,5,6,7])
def zmv : ACode :=
 .seq (.seq (.region (some [1,2,5,6,7]) [w 25 7,
 i 26 (.bin .lss (.t 25) (k 20))] [])
 (.cond (.t 26) (.skip) (.exit 2)))
 (.seq (.block 3 (.seq (.region (some [1,2,5,6,7]) [i 8 (.mv (.c (.d (.i .i64 (-1))))),
 i 9 (.mv (k 0))] [])
 (.seq (.seq (.region (some [1,2,5,6,7,8,9]) [i 10 (.mv (k 0))] [])
 (.block 4 (.loop zd2 [] zd4)))
 (.seq (.region (some [1,2,5,6,7,8]) [w 60 8,
 i 61 (.bin .geq (.t 60) (k 0)),
 w 12 61] [])
 (.seq (.seq (.region (some [1,2,5,6,7,8,12]) [i 13 (.mv (k 0))] [])
 (.block 6 (.loop zdd [] zdf)))
 (.seq (.region (some [1,2,5,6,7,8,12]) [w 93 12] [])
 (.cond (.t 93) (.seq (.region (some [1,2,5,6,8]) [w 94 5,
 w 95 8,
 i 96 (.bsl 1 [.t 95]),
 i 97 (.app 1 (.t 94) (.t 96)),
 w 5 97] [])
 (.exit 2)) (.skip))))))))
 (.region (some [1,2,5,6,7]) [w 27 7,
 i 28 (.bin .add (.t 27) (k 1)),
 w 7 28] []))
def zpp : Option (List Nat):=(some [1,2,5,6])
def zqi : ACode :=
 .seq (.seq (.region (some [1,2,5,6]) [w 21 6,
 i 22 (.bin .lss (.t 21) (k 3))] [])
 (.cond (.t 22) (.skip) (.exit 0)))
 (.seq (.block 1 (.seq (.region (some [1,2,5,6]) [i 7 (.mv (k 0))] [])
 (.block 2 (.loop zl3 [5,1] zmv))))
 (.region (some [1,2,5,6]) [w 23 6,
 i 24 (.bin .add (.t 23) (k 1)),
 w 6 24] []))
def c_q2a : ACode :=
 .seq (.region (some [0,1]) [i 2 (.box (.t 0)),
 i 4 (.mv (.c (.nilS)))] [])
 (.seq (.seq (.region (some [1,2]) [i 14 (.load true 16 (.t 2)),
 i 15 (.call (.f F_q28) [.t 14]),
 i 16 (.un .not (.t 15)),
 w 17 16,
 j 18 17 false (.mv (.t 1)),
 j 19 17 false (.bin .geq (.t 18) (.c (.d (.i .u8 4)))),
 i 20 (.pick (.t 17) (kb true) (.t 19))] [])
 (.cond (.t 20) (.seq (.region (some []) [i 4 (.mv (.c (.nilS)))] [])
 (.ret)) (.skip)))
 (.seq (.region (some [1,2]) [i 5 (.mv (.c (.nilS)))] [])
 (.seq (.seq (.region (some [1,2,5]) [i 6 (.mv (k 0))] [])
 (.block 0 (.loop zpp [5,1] zqi)))
 (.seq (.region (some [5]) [w 98 5,
 w 4 98] [])
 (.ret)))))
def a_q2a : AFn:=.code 2 c_q2a [.dat (.tmp 4)]
theorem k_q2a : compF Tryz.prog h_q2a F_q2a = some a_q2a:=by kernel_rfl

def h_q1m : Hints:={ kp:=[(0,[0,1]),(1,[0,1])],lkp:=[],lth:=[] }
def c_q1m : ACode :=
 .seq (.region (some [0,1]) [⟨some 4,.mv (.c (.d (.s ⟨#[]⟩))),none⟩] [])
 (.seq (.region (some [0,1]) [w 5 0,
 w 6 1,
 w 7 0,
 i 8 (.len true (.t 7)),
 i 9 (.bin .sub (.t 6) (.t 8)),
 i 10 (.mm true [.t 9,.c (.d (.i .i64 0))]),
 ⟨some 11,.call (.f F_q4r) [.c (.d (.s ⟨#[0]⟩)),.t 10],none⟩,
 i 12 (.bin .add (.t 5) (.t 11)),
 w 4 12] [])
 (.ret))
def a_q1m : AFn:=.code 2 c_q1m [.tmp 4]
theorem k_q1m : compF Tryz.prog h_q1m F_q1m = some a_q1m:=by kernel_rfl

def h_q10 : Hints:={ kp:=[(0,[0,1]),(1,[1,2]),(2,[1,2,5]),(3,[1,5,9,10]),(4,[1,5,9,10]),(5,[1,5,6,7,9,10]),(6,[1,5,6,9,10]),(7,[1,5,9,10]),(8,[5])],lkp:=[(3,[1,5,9,10])],lth:=[(3,[5,1])] }
def K_q10_0 : Option (List Nat):=(some [1,5,9,10])
def l_q10_0 : ACode :=
 .seq (.region (some [1,5,9,10]) [i 11 (.bin .lss (.t 10) (k 5))] [])
 (.seq (.cond (.t 11) (.skip) (.exit 0))
 (.seq (.block 1 (.seq (.region (some [1,5,9,10]) [w 12 10,
 i 13 (.idxA true 5 3 (.t 9) (.t 10)),
 i 7 (.box (.c (.d (.agg [.b false,.i .i64 0,.i .u8 0])))),
 w 6 12,
 ⟨none,.store 3 (.t 7) (.t 13),none⟩] [])
 (.seq (.region (some [1,5,6,7,9,10]) [w 14 1,
 i 15 (.load true 3 (.t 7)),
 i 16 (.call (.t 14) [.t 15])] [])
 (.cond (.t 16) (.region (some [1,5,6,9,10]) [w 17 5,
 w 18 6,
 i 19 (.bsl 1 [.t 18]),
 i 20 (.app 1 (.t 17) (.t 19)),
 w 5 20] []) (.skip)))))
 (.region (some [1,5,9,10]) [i 21 (.bin .add (.t 10) (k 1)),
 w 10 21] [])))
def c_q10 : ACode :=
 .seq (.region (some [0,1]) [i 2 (.box (.t 0)),
 i 4 (.mv (.c (.nilS)))] [])
 (.seq (.region (some [1,2]) [i 5 (.mv (.c (.nilS)))] [])
 (.seq (.seq (.region (some [1,2,5]) [i 8 (.faddr 1 (.t 2)),
 i 9 (.load true 15 (.t 8)),
 i 10 (.mv (k 0))] [])
 (.block 0 (.loop K_q10_0 [5,1] l_q10_0)))
 (.seq (.region (some [5]) [w 22 5,
 w 4 22] [])
 (.ret))))
def a_q10 : AFn:=.code 2 c_q10 [.tmp 4]
theorem k_q10 : compF Tryz.prog h_q10 F_q10 = some a_q10:=by kernel_rfl

def h_q0x : Hints:={ kp:=[(0,[0]),(1,[1])],lkp:=[],lth:=[] }
def c_q0x : ACode :=
 .seq (.region (some [0]) [i 1 (.box (.t 0)),
 i 2 (.mv (kb false))] [])
 (.seq (.region (some [1]) [i 3 (.faddr 1 (.t 1)),
 i 4 (.load false 1 (.t 3)),
 i 5 (.bin .gtr (.t 4) (k 0)),
 w 2 5] [])
 (.ret))
def a_q0x : AFn:=.code 1 c_q0x [.tmp 2]
theorem k_q0x : compF Tryz.prog h_q0x F_q0x = some a_q0x:=by kernel_rfl

def h_q3f : Hints:={ kp:=[(0,[0,1]),(1,[0,1]),(2,[0,1,5]),(3,[0,1,5,11,12,13]),(4,[0,1,5,11,12,13]),(5,[0,1,5,7,11,12,13]),(6,[0,1,5,11,12,13]),(7,[0,5])],lkp:=[(3,[0,1,5,11,12,13])],lth:=[(3,[5,1])] }
def zp2 : Option (List Nat):=(some [0,1,5,11,12,13])
def zqf : ACode :=
 .seq (.region (some [0,1,5,11,12,13]) [i 14 (.bin .lss (.t 13) (.t 12))] [])
 (.seq (.cond (.t 14) (.skip) (.exit 0))
 (.seq (.block 1 (.seq (.region (some [0,1,5,11,12,13]) [i 15 (.iaddrS 1 (.t 11) (.t 13)),
 i 16 (.load false 1 (.t 15)),
 w 7 16] [])
 (.region (some [0,1,5,7,11,12,13]) [w 17 5,
 w 18 0,
 i 19 (.nilck (.t 18)),
 i 20 (.faddr 16 (.t 19)),
 i 21 (.load false 1 (.t 20)),
 w 22 7,
 w 23 1,
 w 24 0,
 w 25 7,
 i 26 (.nilck (.t 24)),
 i 27 (.faddr 0 (.t 26)),
 i 28 (.faddr 1 (.t 27)),
 i 29 (.iaddrA 5 3 (.t 28) (.t 25)),
 i 30 (.faddr 1 (.t 29)),
 i 31 (.load false 1 (.t 30)),
 i 32 (.call (.f F_q4f) [.t 21,.t 22,.t 23,.t 31]),
 i 33 (.bsl 1 [.t 32]),
 i 34 (.app 1 (.t 17) (.t 33)),
 w 5 34] [(4,14)])))
 (.region (some [0,1,5,11,12,13]) [i 35 (.bin .add (.t 13) (k 1)),
 w 13 35] [])))
def c_q3f : ACode :=
 .seq (.region (some [0,1]) [i 4 (.mv (k 0))] [])
 (.seq (.region (some [0,1]) [i 5 (.mv (.c (.nilS)))] [])
 (.seq (.seq (.region (some [0,1,5]) [w 8 0,
 i 9 (.nilck (.t 8)),
 i 10 (.faddr 17 (.t 9)),
 i 11 (.load false 1 (.t 10)),
 i 12 (.len false (.t 11)),
 i 13 (.mv (k 0))] [])
 (.block 0 (.loop zp2 [5,1] zqf)))
 (.seq (.region (some [0,5]) [w 36 0,
 i 37 (.nilck (.t 36)),
 i 38 (.faddr 17 (.t 37)),
 i 39 (.load false 1 (.t 38)),
 w 40 5,
 i 41 (.call (.f F_q4e) [.t 40]),
 i 42 (.iaddrS 1 (.t 39) (.t 41)),
 i 43 (.load false 1 (.t 42)),
 w 4 43] [(3,5)])
 (.ret))))
def a_q3f : AFn:=.code 2 c_q3f [.tmp 4]
theorem k_q3f : compF Tryz.prog h_q3f F_q3f = some a_q3f:=by kernel_rfl

def h_q3g : Hints:={ kp:=[(0,[0,1]),(1,[2,3])],lkp:=[],lth:=[] }
def c_q3g : ACode :=
 .seq (.region (some [0,1]) [i 2 (.box (.t 0)),
 i 3 (.box (.t 1)),
 i 4 (.mv (kb false))] [])
 (.seq (.region (some [2,3]) [i 5 (.load false 1 (.t 2)),
 i 6 (.nilck (.t 5)),
 i 7 (.faddr 18 (.t 6)),
 i 8 (.load false 1 (.t 7)),
 i 9 (.mkfn F_q3h [] [.t 3,.t 2]),
 i 10 (.call (.f F_q44) [.t 8,.t 9]),
 i 11 (.un .not (.t 10)),
 w 4 11] [])
 (.ret))
def a_q3g : AFn:=.code 2 c_q3g [.tmp 4]
theorem k_q3g : compF Tryz.prog h_q3g F_q3g = some a_q3g:=by kernel_rfl

def h_q1w : Hints:={ kp:=[(0,[0,1,2,3]),(1,[0,1,2,3])],lkp:=[],lth:=[] }
def c_q1w : ACode :=
 .seq (.region (some [0,1,2,3]) [i 8 (.mv (k 0))] [])
 (.seq (.region (some [0,1,2,3]) [w 9 0,
 i 10 (.conv .u32 (.t 9)),
 w 11 1,
 i 12 (.conv .u32 (.t 11)),
 w 13 2,
 i 14 (.conv .u32 (.t 13)),
 i 15 (.call (.f F_q1u) [.t 10,.t 12,.t 14]),
 w 16 3,
 i 17 (.call (.f F_q1y) [.t 15,.t 16]),
 w 8 17] [])
 (.ret))
def a_q1w : AFn:=.code 4 c_q1w [.tmp 8]
theorem k_q1w : compF Tryz.prog h_q1w F_q1w = some a_q1w:=by kernel_rfl

def h_q4f : Hints:={ kp:=[(0,[0,1,2,3]),(1,[0,1,2,3])],lkp:=[],lth:=[] }
def c_q4f : ACode :=
 .seq (.region (some [0,1,2,3]) [i 8 (.mv (k 0))] [])
 (.seq (.region (some [0,1,2,3]) [w 9 0,
 i 10 (.conv .u32 (.t 9)),
 w 11 1,
 i 12 (.conv .u32 (.t 11)),
 w 13 2,
 i 14 (.conv .u32 (.t 13)),
 i 15 (.call (.f F_q01) [.t 10,.t 12,.t 14]),
 w 16 3,
 i 17 (.call (.f F_q4h) [.t 15,.t 16]),
 w 8 17] [])
 (.ret))
def a_q4f : AFn:=.code 4 c_q4f [.tmp 8]
theorem k_q4f : compF Tryz.prog h_q4f F_q4f = some a_q4f:=by kernel_rfl

def h_q4e : Hints:={ kp:=[(0,[0]),(1,[0]),(2,[0,3]),(3,[0,3,6,7,8]),(4,[0,3,6,7,8]),(5,[0,3,4,5,6,7,8]),(6,[0,4,6,7,8]),(7,[0,3,6,7,8]),(8,[3])],lkp:=[(3,[0,3,6,7,8])],lth:=[] }
def K_q4e_0 : Option (List Nat):=(some [0,3,6,7,8])
def l_q4e_0 : ACode :=
 .seq (.region (some [0,3,6,7,8]) [i 9 (.bin .lss (.t 8) (.t 7))] [])
 (.seq (.cond (.t 9) (.skip) (.exit 0))
 (.seq (.block 1 (.seq (.region (some [0,3,6,7,8]) [w 10 8,
 i 11 (.iaddrS 1 (.t 6) (.t 8)),
 i 12 (.load false 1 (.t 11)),
 w 4 10,
 w 5 12] [])
 (.seq (.region (some [0,3,4,5,6,7,8]) [w 13 3,
 i 14 (.bin .lss (.t 13) (k 0)),
 w 15 14,
 j 16 15 false (.mv (.t 5)),
 j 17 15 false (.mv (.t 0)),
 j 18 15 false (.mv (.t 3)),
 j 19 15 false (.iaddrS 1 (.t 17) (.t 18)),
 j 20 15 false (.load false 1 (.t 19)),
 j 21 15 false (.bin .gtr (.t 16) (.t 20)),
 i 22 (.pick (.t 15) (kb true) (.t 21))] [])
 (.cond (.t 22) (.region (some [0,4,6,7,8]) [w 23 4,
 w 3 23] []) (.skip)))))
 (.region (some [0,3,6,7,8]) [i 24 (.bin .add (.t 8) (k 1)),
 w 8 24] [])))
def c_q4e : ACode :=
 .seq (.region (some [0]) [i 2 (.mv (k 0))] [])
 (.seq (.region (some [0]) [i 3 (.mv (.c (.d (.i .i64 (-1)))))] [])
 (.seq (.seq (.region (some [0,3]) [w 6 0,
 i 7 (.len false (.t 6)),
 i 8 (.mv (k 0))] [])
 (.block 0 (.loop K_q4e_0 [] l_q4e_0)))
 (.seq (.region (some [3]) [w 25 3,
 w 2 25] [])
 (.ret))))
def a_q4e : AFn:=.code 1 c_q4e [.tmp 2]
theorem k_q4e : compF Tryz.prog h_q4e F_q4e = some a_q4e:=by kernel_rfl

def h_q3h : Hints:={ kp:=[(0,[0,1,2]),(1,[0,1,2])],lkp:=[],lth:=[] }
def c_q3h : ACode :=
 .seq (.region (some [0,1,2]) [i 4 (.mv (kb false))] [])
 (.seq (.region (some [0,1,2]) [w 5 0,
 i 6 (.load false 1 (.t 1)),
 i 7 (.bin .eql (.t 5) (.t 6)),
 w 8 7,
 j 9 8 false (.load false 1 (.t 2)),
 j 10 8 false (.mv (.t 0)),
 j 11 8 false (.nilck (.t 9)),
 j 12 8 false (.faddr 0 (.t 11)),
 j 13 8 false (.faddr 1 (.t 12)),
 j 14 8 false (.iaddrA 5 3 (.t 13) (.t 10)),
 j 15 8 false (.faddr 2 (.t 14)),
 j 16 8 false (.load false 1 (.t 15)),
 j 17 8 false (.load false 1 (.t 2)),
 j 18 8 false (.load false 1 (.t 1)),
 j 19 8 false (.nilck (.t 17)),
 j 20 8 false (.faddr 0 (.t 19)),
 j 21 8 false (.faddr 1 (.t 20)),
 j 22 8 false (.iaddrA 5 3 (.t 21) (.t 18)),
 j 23 8 false (.faddr 2 (.t 22)),
 j 24 8 false (.load false 1 (.t 23)),
 j 25 8 false (.bin .eql (.t 16) (.t 24)),
 i 26 (.pick (.t 8) (kb true) (.t 25)),
 w 4 26] [(4,12),(11,12),(4,13),(11,13),(12,13),(4,19),(11,19)])
 (.ret))
def a_q3h : AFn:=.code 3 c_q3h [.tmp 4]
theorem k_q3h : compF Tryz.prog h_q3h F_q3h = some a_q3h:=by kernel_rfl

def h_q1y : Hints:={ kp:=[(0,[0,1]),(1,[0,1]),(2,[0,5])],lkp:=[],lth:=[] }
def c_q1y : ACode :=
 .seq (.region (some [0,1]) [i 4 (.mv (k 0))] [])
 (.seq (.region (some [0,1]) [w 6 1,
 i 7 (.mm false [.t 6,.c (.d (.i .i64 16))]),
 i 8 (.mm true [.c (.d (.i .i64 1)),.t 7]),
 w 5 8] [])
 (.seq (.region (some [0,5]) [w 9 0,
 i 10 (.bin .rem (.t 9) (.c (.d (.i .u32 65536)))),
 i 11 (.bin .add (.t 10) (.c (.d (.i .u32 1)))),
 i 12 (.call (.f F_q1x) [.t 11]),
 i 13 (.bin .sub (k 1048576) (.t 12)),
 i 14 (.bin .mul (.t 13) (k 4096)),
 w 15 5,
 i 16 (.bin .quo (.t 14) (.t 15)),
 i 17 (.un .neg (.t 16)),
 w 4 17] [])
 (.ret)))
def a_q1y : AFn:=.code 2 c_q1y [.tmp 4]
theorem k_q1y : compF Tryz.prog h_q1y F_q1y = some a_q1y:=by kernel_rfl

def h_q1u : Hints:={ kp:=[(0,[0,1,2]),(1,[0,1,2])],lkp:=[],lth:=[] }
def c_q1u : ACode :=
 .seq (.region (some [0,1,2]) [i 6 (.mv (.c (.d (.i .u32 0))))] [])
 (.seq (.region (some [0,1,2]) [w 7 0,
 i 8 (.conv .u64 (.t 7)),
 i 9 (.call (.f F_q1v) [.t 8]),
 w 10 1,
 i 11 (.conv .u64 (.t 10)),
 i 12 (.bin .add (.t 9) (.t 11)),
 i 13 (.call (.f F_q1v) [.t 12]),
 w 14 2,
 i 15 (.conv .u64 (.t 14)),
 i 16 (.bin .add (.t 13) (.t 15)),
 i 17 (.call (.f F_q1v) [.t 16]),
 i 18 (.conv .u32 (.t 17)),
 w 6 18] [])
 (.ret))
def a_q1u : AFn:=.code 3 c_q1u [.tmp 6]
theorem k_q1u : compF Tryz.prog h_q1u F_q1u = some a_q1u:=by kernel_rfl

def h_q4h : Hints:={ kp:=[(0,[0,1]),(1,[0,1]),(2,[0,5])],lkp:=[],lth:=[] }
def c_q4h : ACode :=
 .seq (.region (some [0,1]) [i 4 (.mv (k 0))] [])
 (.seq (.region (some [0,1]) [w 6 1,
 i 7 (.mm true [.t 6,.c (.d (.i .i64 1))]),
 i 8 (.mm false [.t 7,.c (.d (.i .i64 16))]),
 w 5 8] [])
 (.seq (.region (some [0,5]) [w 9 0,
 i 10 (.bin .rem (.t 9) (.c (.d (.i .u32 65536)))),
 i 11 (.bin .add (.t 10) (.c (.d (.i .u32 1)))),
 i 12 (.call (.f F_q4g) [.t 11]),
 i 13 (.bin .sub (k 1048576) (.t 12)),
 i 14 (.bin .mul (.t 13) (k 4096)),
 w 15 5,
 i 16 (.bin .quo (.t 14) (.t 15)),
 i 17 (.un .neg (.t 16)),
 w 4 17] [])
 (.ret)))
def a_q4h : AFn:=.code 2 c_q4h [.tmp 4]
theorem k_q4h : compF Tryz.prog h_q4h F_q4h = some a_q4h:=by kernel_rfl

def h_q01 : Hints:={ kp:=[(0,[0,1,2]),(1,[0,1,2])],lkp:=[],lth:=[] }
def c_q01 : ACode :=
 .seq (.region (some [0,1,2]) [i 6 (.mv (.c (.d (.i .u32 0))))] [])
 (.seq (.region (some [0,1,2]) [w 7 0,
 i 8 (.conv .u64 (.t 7)),
 i 9 (.call (.f F_q02) [.t 8]),
 w 10 1,
 i 11 (.conv .u64 (.t 10)),
 i 12 (.bin .add (.t 9) (.t 11)),
 i 13 (.call (.f F_q02) [.t 12]),
 w 14 2,
 i 15 (.conv .u64 (.t 14)),
 i 16 (.bin .add (.t 13) (.t 15)),
 i 17 (.call (.f F_q02) [.t 16]),
 i 18 (.conv .u32 (.t 17)),
 w 6 18] [])
 (.ret))
def a_q01 : AFn:=.code 3 c_q01 [.tmp 6]
theorem k_q01 : compF Tryz.prog h_q01 F_q01 = some a_q01:=by kernel_rfl

def h_q1x : Hints:={ kp:=[(0,[0]),(1,[0]),(2,[0]),(3,[0,3]),(4,[0,3]),(5,[0,3]),(6,[3,4]),(7,[4,5]),(8,[4,5,6]),(10,[4,5,6]),(11,[4,5,6]),(12,[4,5,6]),(13,[4,5,6]),(14,[4,5,6]),(9,[4,5,6]),(15,[5])],lkp:=[(3,[0,3]),(8,[4,5,6])],lth:=[] }
def K_q1x_0 : Option (List Nat):=(some [0,3])
def l_q1x_0 : ACode :=
 .seq (.seq (.region (some [0,3]) [w 10 0,
 w 11 3,
 i 12 (.bin .add (.t 11) (k 1)),
 i 13 (.conv .u64 (.t 12)),
 i 14 (.bin .shr (.t 10) (.t 13)),
 i 15 (.bin .gtr (.t 14) (.c (.d (.i .u32 0))))] [])
 (.cond (.t 15) (.skip) (.exit 0)))
 (.block 1 (.region (some [0,3]) [w 16 3,
 i 17 (.bin .add (.t 16) (k 1)),
 w 3 17] []))
def K_q1x_1 : Option (List Nat):=(some [4,5,6])
def l_q1x_1 : ACode :=
 .seq (.seq (.region (some [4,5,6]) [w 25 6,
 i 26 (.bin .lss (.t 25) (k 16))] [])
 (.cond (.t 26) (.skip) (.exit 2)))
 (.seq (.block 3 (.seq (.region (some [4,5,6]) [w 29 4,
 w 30 4,
 i 31 (.bin .mul (.t 29) (.t 30)),
 i 32 (.bin .shr (.t 31) (.c (.d (.i .u64 31)))),
 w 4 32] [])
 (.seq (.region (some [4,5,6]) [w 33 5,
 i 34 (.bin .mul (.t 33) (k 2)),
 w 5 34] [])
 (.seq (.region (some [4,5,6]) [w 35 4,
 i 36 (.bin .geq (.t 35) (.c (.d (.i .u64 4294967296))))] [])
 (.cond (.t 36) (.seq (.region (some [4,5,6]) [w 37 4,
 i 38 (.bin .shr (.t 37) (.c (.d (.i .u64 1)))),
 w 4 38] [])
 (.region (some [4,5,6]) [w 39 5,
 i 40 (.bin .add (.t 39) (k 1)),
 w 5 40] [])) (.skip))))))
 (.region (some [4,5,6]) [w 27 6,
 i 28 (.bin .add (.t 27) (k 1)),
 w 6 28] []))
def c_q1x : ACode :=
 .seq (.region (some [0]) [i 2 (.mv (k 0))] [])
 (.seq (.region (some [0]) [w 7 0,
 i 8 (.mm false [.t 7,.c (.d (.i .u32 65536))]),
 i 9 (.mm true [.c (.d (.i .u32 1)),.t 8]),
 w 0 9] [])
 (.seq (.region (some [0]) [i 3 (.mv (k 0))] [])
 (.seq (.block 0 (.loop K_q1x_0 [] l_q1x_0))
 (.seq (.region (some [0,3]) [w 18 0,
 i 19 (.conv .u64 (.t 18)),
 w 20 3,
 i 21 (.bin .sub (k 31) (.t 20)),
 i 22 (.conv .u64 (.t 21)),
 i 23 (.bin .shl (.t 19) (.t 22)),
 w 4 23] [])
 (.seq (.region (some [3,4]) [w 24 3,
 w 5 24] [])
 (.seq (.seq (.region (some [4,5]) [i 6 (.mv (k 0))] [])
 (.block 2 (.loop K_q1x_1 [] l_q1x_1)))
 (.seq (.region (some [5]) [w 41 5,
 w 2 41] [])
 (.ret))))))))
def a_q1x : AFn:=.code 1 c_q1x [.tmp 2]
theorem k_q1x : compF Tryz.prog h_q1x F_q1x = some a_q1x:=by kernel_rfl

def h_q1v : Hints:={ kp:=[(0,[0]),(1,[0]),(2,[0]),(3,[0])],lkp:=[],lth:=[] }
def c_q1v : ACode :=
 .seq (.region (some [0]) [i 2 (.mv (.c (.d (.i .u64 0))))] [])
 (.seq (.region (some [0]) [w 3 0,
 w 4 0,
 i 5 (.bin .shr (.t 4) (.c (.d (.i .u64 33)))),
 i 6 (.bin .xor (.t 3) (.t 5)),
 i 7 (.bin .mul (.t 6) (.c (.d (.i .u64 18397679294719823053)))),
 w 0 7] [])
 (.seq (.region (some [0]) [w 8 0,
 w 9 0,
 i 10 (.bin .shr (.t 9) (.c (.d (.i .u64 33)))),
 i 11 (.bin .xor (.t 8) (.t 10)),
 i 12 (.bin .mul (.t 11) (.c (.d (.i .u64 14181476777654086739)))),
 w 0 12] [])
 (.seq (.region (some [0]) [w 13 0,
 w 14 0,
 i 15 (.bin .shr (.t 14) (.c (.d (.i .u64 33)))),
 i 16 (.bin .xor (.t 13) (.t 15)),
 w 2 16] [])
 (.ret))))
def a_q1v : AFn:=.code 1 c_q1v [.tmp 2]
theorem k_q1v : compF Tryz.prog h_q1v F_q1v = some a_q1v:=by kernel_rfl

def h_q4g : Hints:={ kp:=[(0,[0]),(1,[0]),(2,[0]),(3,[0,3]),(4,[3,4]),(5,[3,4,5]),(6,[3,4,5,21]),(7,[3,4,5,21]),(8,[3,4,5,21]),(9,[3,4])],lkp:=[(6,[3,4,5,21])],lth:=[] }
def K_q4g_0 : Option (List Nat):=(some [3,4,5,21])
def l_q4g_0 : ACode :=
 .seq (.region (some [3,4,5,21]) [i 22 (.bin .lss (.t 21) (k 16))] [])
 (.seq (.cond (.t 22) (.skip) (.exit 0))
 (.seq (.block 1 (.region (some [3,4,5,21]) [w 23 5,
 i 24 (.call (.t 23) [])] []))
 (.region (some [3,4,5,21]) [i 25 (.bin .add (.t 21) (k 1)),
 w 21 25] [])))
def c_q4g : ACode :=
 .seq (.region (some [0]) [i 2 (.mv (k 0))] [])
 (.seq (.region (some [0]) [w 6 0,
 i 7 (.mm true [.t 6,.c (.d (.i .u32 1))]),
 i 8 (.mm false [.t 7,.c (.d (.i .u32 65536))]),
 w 0 8] [])
 (.seq (.region (some [0]) [w 9 0,
 i 10 (.call (.f F_q11) [.t 9]),
 i 11 (.bin .sub (.t 10) (k 1)),
 w 3 11] [])
 (.seq (.region (some [0,3]) [w 12 0,
 i 13 (.conv .u64 (.t 12)),
 w 14 3,
 i 15 (.bin .sub (k 31) (.t 14)),
 i 16 (.bin .shl (.t 13) (.t 15)),
 i 17 (.build [.d (.i .u64 0),.d (.i .i64 0)] [(0,1,.t 16)]),
 i 18 (.box (.t 17)),
 w 4 18] [])
 (.seq (.region (some [3,4]) [w 19 4,
 i 20 (.mkfn F_q4i [.t 19] []),
 w 5 20] [])
 (.seq (.seq (.region (some [3,4,5]) [i 21 (.mv (k 0))] [])
 (.block 0 (.loop K_q4g_0 [] l_q4g_0)))
 (.seq (.region (some [3,4]) [w 26 3,
 i 27 (.bin .shl (.t 26) (.c (.d (.i .u64 16)))),
 w 28 4,
 i 29 (.nilck (.t 28)),
 i 30 (.faddr 1 (.t 29)),
 i 31 (.load false 1 (.t 30)),
 i 32 (.bin .add (.t 27) (.t 31)),
 w 2 32] [])
 (.ret)))))))
def a_q4g : AFn:=.code 1 c_q4g [.tmp 2]
theorem k_q4g : compF Tryz.prog h_q4g F_q4g = some a_q4g:=by kernel_rfl

def h_q02 : Hints:={ kp:=[(0,[0]),(1,[0]),(2,[0]),(3,[0])],lkp:=[],lth:=[] }
def c_q02 : ACode :=
 .seq (.region (some [0]) [i 2 (.mv (.c (.d (.i .u64 0))))] [])
 (.seq (.region (some [0]) [w 3 0,
 w 4 0,
 i 5 (.bin .shr (.t 4) (.c (.d (.i .u64 33)))),
 i 6 (.bin .xor (.t 3) (.t 5)),
 i 7 (.bin .mul (.t 6) (.c (.d (.i .u64 18397679294719823053)))),
 w 0 7] [])
 (.seq (.region (some [0]) [w 8 0,
 w 9 0,
 i 10 (.bin .shr (.t 9) (.c (.d (.i .u64 33)))),
 i 11 (.bin .xor (.t 8) (.t 10)),
 i 12 (.bin .mul (.t 11) (.c (.d (.i .u64 14181476777654086739)))),
 w 0 12] [])
 (.seq (.region (some [0]) [w 13 0,
 w 14 0,
 i 15 (.bin .shr (.t 14) (.c (.d (.i .u64 33)))),
 i 16 (.bin .xor (.t 13) (.t 15)),
 w 2 16] [])
 (.ret))))
def a_q02 : AFn:=.code 1 c_q02 [.tmp 2]
theorem k_q02 : compF Tryz.prog h_q02 F_q02 = some a_q02:=by kernel_rfl

def h_q11 : Hints:={ kp:=[(0,[0]),(1,[0,2]),(2,[0]),(3,[0]),(4,[0,2]),(5,[0,2]),(6,[0,2]),(7,[0,2])],lkp:=[],lth:=[] }
def c_q11 : ACode :=
 .seq (.region (some [0]) [i 2 (.mv (k 0))] [])
 (.seq (.seq (.region (some [0,2]) [w 3 0,
 i 4 (.bin .geq (.t 3) (.c (.d (.i .u32 65536))))] [])
 (.cond (.t 4) (.seq (.region (some [0]) [w 5 0,
 i 6 (.bin .shr (.t 5) (.c (.d (.i .u64 16)))),
 w 0 6] [])
 (.region (some [0]) [i 2 (.mv (k 16))] [])) (.skip)))
 (.seq (.seq (.region (some [0,2]) [w 7 0,
 i 8 (.bin .geq (.t 7) (.c (.d (.i .u32 256))))] [])
 (.cond (.t 8) (.seq (.region (some [0,2]) [w 9 0,
 i 10 (.bin .shr (.t 9) (.c (.d (.i .u64 8)))),
 w 0 10] [])
 (.region (some [0,2]) [w 11 2,
 i 12 (.bin .add (.t 11) (k 8)),
 w 2 12] [])) (.skip)))
 (.seq (.region (some [0,2]) [w 13 2,
 w 14 0,
 i 15 (.conv .u8 (.t 14)),
 i 16 (.idxS (.c (.d (.s tab0))) (.t 15)),
 i 17 (.conv .i64 (.t 16)),
 i 18 (.bin .add (.t 13) (.t 17)),
 w 2 18] [])
 (.ret))))
def a_q11 : AFn:=.code 1 c_q11 [.tmp 2]
theorem k_q11 : compF Tryz.prog h_q11 F_q11 = some a_q11:=by kernel_rfl

def h_q4i : Hints:={ kp:=[(0,[0]),(1,[0]),(2,[0]),(3,[0]),(4,[0])],lkp:=[],lth:=[] }
def c_q4i : ACode :=
 .seq (.region (some [0]) [w 2 0,
 w 3 0,
 i 4 (.nilck (.t 3)),
 i 5 (.faddr 0 (.t 4)),
 i 6 (.load false 1 (.t 5)),
 w 7 0,
 i 8 (.nilck (.t 7)),
 i 9 (.faddr 0 (.t 8)),
 i 10 (.load false 1 (.t 9)),
 i 11 (.bin .mul (.t 6) (.t 10)),
 i 12 (.bin .shr (.t 11) (.c (.d (.i .u64 31)))),
 i 13 (.nilck (.t 2)),
 i 14 (.faddr 0 (.t 13)),
 ⟨none,.store 1 (.t 14) (.t 12),none⟩] [(4,8)])
 (.seq (.region (some [0]) [w 15 0,
 i 16 (.nilck (.t 15)),
 i 17 (.faddr 1 (.t 16)),
 i 18 (.load false 1 (.t 17)),
 i 19 (.bin .shl (.t 18) (.c (.d (.i .u64 1)))),
 i 20 (.nilck (.t 15)),
 i 21 (.faddr 1 (.t 20)),
 ⟨none,.store 1 (.t 21) (.t 19),none⟩] [])
 (.seq (.region (some [0]) [w 22 0,
 i 23 (.nilck (.t 22)),
 i 24 (.faddr 0 (.t 23)),
 i 25 (.load false 1 (.t 24)),
 i 26 (.bin .geq (.t 25) (.c (.d (.i .u64 4294967296))))] [])
 (.cond (.t 26) (.seq (.region (some [0]) [w 27 0,
 i 28 (.nilck (.t 27)),
 i 29 (.faddr 0 (.t 28)),
 i 30 (.load false 1 (.t 29)),
 i 31 (.bin .shr (.t 30) (.c (.d (.i .u64 1)))),
 i 32 (.nilck (.t 27)),
 i 33 (.faddr 0 (.t 32)),
 ⟨none,.store 1 (.t 33) (.t 31),none⟩] [])
 (.region (some [0]) [w 34 0,
 i 35 (.nilck (.t 34)),
 i 36 (.faddr 1 (.t 35)),
 i 37 (.load false 1 (.t 36)),
 i 38 (.bin .or (.t 37) (k 1)),
 i 39 (.nilck (.t 34)),
 i 40 (.faddr 1 (.t 39)),
 ⟨none,.store 1 (.t 40) (.t 38),none⟩] [])) (.skip))))
def a_q4i : AFn:=.code 1 c_q4i []
theorem k_q4i : compF Tryz.prog h_q4i F_q4i = some a_q4i:=by kernel_rfl

def f_q3l : AFn:=AFn.frz [false,false,true,true] a_q3l
def f_q3k : AFn:=AFn.frz [false,true,true,false] a_q3k
def f_q2r : AFn:=AFn.frz [false,false,true,false] a_q2r
def f_q05 : AFn:=AFn.frz [false,false,true,false] a_q05
def f_q2s : AFn:=AFn.frz [false,false,true,false] a_q2s
def f_q07 : AFn:=AFn.frz [false,false,true,false] a_q07
noncomputable def C : FuncId → Option AFn
 | 6 => some a_q1q
 | 7 => some a_q1s
 | 8 => some a_q31
 | 9 => some a_q2x
 | 10 => some f_q3l
 | 11 => some a_q0l
 | 12 => some a_q3j
 | 13 => some a_q1r
 | 14 => some f_q3k
 | 15 => some a_q2i
 | 17 => some a_q0f
 | 18 => some a_q0g
 | 19 => some a_q0i
 | 20 => some a_q22
 | 21 => some a_q24
 | 22 => some a_q2p
 | 23 => some f_q2r
 | 24 => some a_q2u
 | 25 => some a_q2q
 | 26 => some a_q2t
 | 27 => some a_q1t
 | 28 => some a_q32
 | 29 => some a_q38
 | 30 => some a_q39
 | 31 => some (.ext (Pk.cloneX 8))
 | 32 => some a_q37
 | 33 => some a_q43
 | 34 => some a_q3m
 | 35 => some a_q03
 | 36 => some f_q05
 | 37 => some a_q09
 | 38 => some a_q3n
 | 39 => some a_q0k
 | 40 => some a_q0v
 | 41 => some a_q17
 | 42 => some a_q2g
 | 43 => some a_q15
 | 44 => some a_q2f
 | 45 => some a_q2k
 | 46 => some (.ext (Pk.cloneD 1))
 | 47 => some a_q0j
 | 48 => some a_q0u
 | 49 => some a_q20
 | 50 => some a_q25
 | 51 => some a_q2v
 | 52 => some f_q2s
 | 53 => some a_q26
 | 54 => some a_q27
 | 55 => some a_q2w
 | 56 => some a_q2d
 | 57 => some a_q36
 | 58 => some a_q1g
 | 59 => some a_q1d
 | 60 => some a_q4b
 | 61 => some a_q04
 | 62 => some a_q0a
 | 63 => some a_q06
 | 64 => some a_q45
 | 65 => some f_q07
 | 66 => some a_q44
 | 67 => some a_q18
 | 68 => some a_q3c
 | 69 => some a_q49
 | 70 => some a_q2n
 | 71 => some a_q2l
 | 72 => some a_q16
 | 73 => some a_q2y
 | 74 => some a_q2z
 | 75 => some a_q19
 | 76 => some a_q34
 | 77 => some a_q2c
 | 78 => some a_q0y
 | 79 => some a_q0z
 | 80 => some a_q28
 | 81 => some a_q29
 | 82 => some a_q21
 | 83 => some a_q23
 | 84 => some a_q3a
 | 85 => some a_q1e
 | 86 => some a_q1f
 | 87 => some a_q1l
 | 88 => some a_q4d
 | 89 => some a_q0h
 | 90 => some a_q0c
 | 91 => some a_q46
 | 92 => some a_q08
 | 93 => some a_q4c
 | 94 => some a_q33
 | 95 => some a_q1b
 | 96 => some a_q1c
 | 97 => some a_q1a
 | 98 => some a_q47
 | 99 => some a_q3e
 | 100 => some a_q3d
 | 101 => some a_q2h
 | 102 => some a_q3b
 | 103 => some a_q2j
 | 104 => some a_q2m
 | 105 => some a_q1z
 | 106 => some a_q2b
 | 107 => some a_q1k
 | 108 => some a_q1j
 | 109 => some a_q1h
 | 110 => some a_q1i
 | 111 => some (.ext (Pk.cloneX 2))
 | 112 => some a_q0b
 | 113 => some a_q4a
 | 114 => some a_q48
 | 115 => some a_q30
 | 116 => some a_q35
 | 117 => some a_q0w
 | 118 => some a_q3i
 | 119 => some a_q2o
 | 120 => some a_q2a
 | 121 => some a_q1m
 | 122 => some a_q10
 | 123 => some a_q0x
 | 124 => some a_q3f
 | 125 => some a_q3g
 | 126 => some a_q1w
 | 127 => some (.ext Pk.repeatX)
 | 128 => some a_q4f
 | 129 => some a_q4e
 | 130 => some a_q3h
 | 131 => some a_q1y
 | 132 => some a_q1u
 | 139 => some a_q4h
 | 140 => some a_q01
 | 141 => some a_q1x
 | 142 => some a_q1v
 | 148 => some a_q4g
 | 149 => some a_q02
 | 152 => some a_q11
 | 153 => some a_q4i
 | _ => none
theorem hC : CRel Tryz.prog C:=by
 intro f fn h
 unfold C at h
 split at h
 ·injection h with h; subst h; exact ⟨h_q1q,k_q1q⟩
 ·injection h with h; subst h; exact ⟨h_q1s,k_q1s⟩
 ·injection h with h; subst h; exact ⟨h_q31,k_q31⟩
 ·injection h with h; subst h; exact ⟨h_q2x,k_q2x⟩
 ·injection h with h; subst h; exact ⟨h_q3l,k_q3l⟩
 ·injection h with h; subst h; exact ⟨h_q0l,k_q0l⟩
 ·injection h with h; subst h; exact ⟨h_q3j,k_q3j⟩
 ·injection h with h; subst h; exact ⟨h_q1r,k_q1r⟩
 ·injection h with h; subst h; exact ⟨h_q3k,k_q3k⟩
 ·injection h with h; subst h; exact ⟨h_q2i,k_q2i⟩
 ·injection h with h; subst h; exact ⟨h_q0f,k_q0f⟩
 ·injection h with h; subst h; exact ⟨h_q0g,k_q0g⟩
 ·injection h with h; subst h; exact ⟨h_q0i,k_q0i⟩
 ·injection h with h; subst h; exact ⟨h_q22,k_q22⟩
 ·injection h with h; subst h; exact ⟨h_q24,k_q24⟩
 ·injection h with h; subst h; exact ⟨h_q2p,k_q2p⟩
 ·injection h with h; subst h; exact ⟨h_q2r,k_q2r⟩
 ·injection h with h; subst h; exact ⟨h_q2u,k_q2u⟩
 ·injection h with h; subst h; exact ⟨h_q2q,k_q2q⟩
 ·injection h with h; subst h; exact ⟨h_q2t,k_q2t⟩
 ·injection h with h; subst h; exact ⟨h_q1t,k_q1t⟩
 ·injection h with h; subst h; exact ⟨h_q32,k_q32⟩
 ·injection h with h; subst h; exact ⟨h_q38,k_q38⟩
 ·injection h with h; subst h; exact ⟨h_q39,k_q39⟩
 ·injection h with h; subst h; exact Pk.cloneX_ok (by decide) ⟨h_q40,k_q40⟩
 ·injection h with h; subst h; exact ⟨h_q37,k_q37⟩
 ·injection h with h; subst h; exact ⟨h_q43,k_q43⟩
 ·injection h with h; subst h; exact ⟨h_q3m,k_q3m⟩
 ·injection h with h; subst h; exact ⟨h_q03,k_q03⟩
 ·injection h with h; subst h; exact ⟨h_q05,k_q05⟩
 ·injection h with h; subst h; exact ⟨h_q09,k_q09⟩
 ·injection h with h; subst h; exact ⟨h_q3n,k_q3n⟩
 ·injection h with h; subst h; exact ⟨h_q0k,k_q0k⟩
 ·injection h with h; subst h; exact ⟨h_q0v,k_q0v⟩
 ·injection h with h; subst h; exact ⟨h_q17,k_q17⟩
 ·injection h with h; subst h; exact ⟨h_q2g,k_q2g⟩
 ·injection h with h; subst h; exact ⟨h_q15,k_q15⟩
 ·injection h with h; subst h; exact ⟨h_q2f,k_q2f⟩
 ·injection h with h; subst h; exact ⟨h_q2k,k_q2k⟩
 ·injection h with h; subst h; exact Pk.cloneD_ok (by decide) ⟨h_q42,k_q42⟩
 ·injection h with h; subst h; exact ⟨h_q0j,k_q0j⟩
 ·injection h with h; subst h; exact ⟨h_q0u,k_q0u⟩
 ·injection h with h; subst h; exact ⟨h_q20,k_q20⟩
 ·injection h with h; subst h; exact ⟨h_q25,k_q25⟩
 ·injection h with h; subst h; exact ⟨h_q2v,k_q2v⟩
 ·injection h with h; subst h; exact ⟨h_q2s,k_q2s⟩
 ·injection h with h; subst h; exact ⟨h_q26,k_q26⟩
 ·injection h with h; subst h; exact ⟨h_q27,k_q27⟩
 ·injection h with h; subst h; exact ⟨h_q2w,k_q2w⟩
 ·injection h with h; subst h; exact ⟨h_q2d,k_q2d⟩
 ·injection h with h; subst h; exact ⟨h_q36,k_q36⟩
 ·injection h with h; subst h; exact ⟨h_q1g,k_q1g⟩
 ·injection h with h; subst h; exact ⟨h_q1d,k_q1d⟩
 ·injection h with h; subst h; exact ⟨h_q4b,k_q4b⟩
 ·injection h with h; subst h; exact ⟨h_q04,k_q04⟩
 ·injection h with h; subst h; exact ⟨h_q0a,k_q0a⟩
 ·injection h with h; subst h; exact ⟨h_q06,k_q06⟩
 ·injection h with h; subst h; exact ⟨h_q45,k_q45⟩
 ·injection h with h; subst h; exact ⟨h_q07,k_q07⟩
 ·injection h with h; subst h; exact ⟨h_q44,k_q44⟩
 ·injection h with h; subst h; exact ⟨h_q18,k_q18⟩
 ·injection h with h; subst h; exact ⟨h_q3c,k_q3c⟩
 ·injection h with h; subst h; exact ⟨h_q49,k_q49⟩
 ·injection h with h; subst h; exact ⟨h_q2n,k_q2n⟩
 ·injection h with h; subst h; exact ⟨h_q2l,k_q2l⟩
 ·injection h with h; subst h; exact ⟨h_q16,k_q16⟩
 ·injection h with h; subst h; exact ⟨h_q2y,k_q2y⟩
 ·injection h with h; subst h; exact ⟨h_q2z,k_q2z⟩
 ·injection h with h; subst h; exact ⟨h_q19,k_q19⟩
 ·injection h with h; subst h; exact ⟨h_q34,k_q34⟩
 ·injection h with h; subst h; exact ⟨h_q2c,k_q2c⟩
 ·injection h with h; subst h; exact ⟨h_q0y,k_q0y⟩
 ·injection h with h; subst h; exact ⟨h_q0z,k_q0z⟩
 ·injection h with h; subst h; exact ⟨h_q28,k_q28⟩
 ·injection h with h; subst h; exact ⟨h_q29,k_q29⟩
 ·injection h with h; subst h; exact ⟨h_q21,k_q21⟩
 ·injection h with h; subst h; exact ⟨h_q23,k_q23⟩
 ·injection h with h; subst h; exact ⟨h_q3a,k_q3a⟩
 ·injection h with h; subst h; exact ⟨h_q1e,k_q1e⟩
 ·injection h with h; subst h; exact ⟨h_q1f,k_q1f⟩
 ·injection h with h; subst h; exact ⟨h_q1l,k_q1l⟩
 ·injection h with h; subst h; exact ⟨h_q4d,k_q4d⟩
 ·injection h with h; subst h; exact ⟨h_q0h,k_q0h⟩
 ·injection h with h; subst h; exact ⟨h_q0c,k_q0c⟩
 ·injection h with h; subst h; exact ⟨h_q46,k_q46⟩
 ·injection h with h; subst h; exact ⟨h_q08,k_q08⟩
 ·injection h with h; subst h; exact ⟨h_q4c,k_q4c⟩
 ·injection h with h; subst h; exact ⟨h_q33,k_q33⟩
 ·injection h with h; subst h; exact ⟨h_q1b,k_q1b⟩
 ·injection h with h; subst h; exact ⟨h_q1c,k_q1c⟩
 ·injection h with h; subst h; exact ⟨h_q1a,k_q1a⟩
 ·injection h with h; subst h; exact ⟨h_q47,k_q47⟩
 ·injection h with h; subst h; exact ⟨h_q3e,k_q3e⟩
 ·injection h with h; subst h; exact ⟨h_q3d,k_q3d⟩
 ·injection h with h; subst h; exact ⟨h_q2h,k_q2h⟩
 ·injection h with h; subst h; exact ⟨h_q3b,k_q3b⟩
 ·injection h with h; subst h; exact ⟨h_q2j,k_q2j⟩
 ·injection h with h; subst h; exact ⟨h_q2m,k_q2m⟩
 ·injection h with h; subst h; exact ⟨h_q1z,k_q1z⟩
 ·injection h with h; subst h; exact ⟨h_q2b,k_q2b⟩
 ·injection h with h; subst h; exact ⟨h_q1k,k_q1k⟩
 ·injection h with h; subst h; exact ⟨h_q1j,k_q1j⟩
 ·injection h with h; subst h; exact ⟨h_q1h,k_q1h⟩
 ·injection h with h; subst h; exact ⟨h_q1i,k_q1i⟩
 ·injection h with h; subst h; exact Pk.cloneX_ok (by decide) ⟨h_q41,k_q41⟩
 ·injection h with h; subst h; exact ⟨h_q0b,k_q0b⟩
 ·injection h with h; subst h; exact ⟨h_q4a,k_q4a⟩
 ·injection h with h; subst h; exact ⟨h_q48,k_q48⟩
 ·injection h with h; subst h; exact ⟨h_q30,k_q30⟩
 ·injection h with h; subst h; exact ⟨h_q35,k_q35⟩
 ·injection h with h; subst h; exact ⟨h_q0w,k_q0w⟩
 ·injection h with h; subst h; exact ⟨h_q3i,k_q3i⟩
 ·injection h with h; subst h; exact ⟨h_q2o,k_q2o⟩
 ·injection h with h; subst h; exact ⟨h_q2a,k_q2a⟩
 ·injection h with h; subst h; exact ⟨h_q1m,k_q1m⟩
 ·injection h with h; subst h; exact ⟨h_q10,k_q10⟩
 ·injection h with h; subst h; exact ⟨h_q0x,k_q0x⟩
 ·injection h with h; subst h; exact ⟨h_q3f,k_q3f⟩
 ·injection h with h; subst h; exact ⟨h_q3g,k_q3g⟩
 ·injection h with h; subst h; exact ⟨h_q1w,k_q1w⟩
 ·injection h with h; subst h; exact Pk.repeatX_ok ⟨Tryz.f127,_,Tryz.func127,rfl,by kernel_rfl⟩ (fun s c w h1 h2 => Tryz.strings_Repeat s c w h1 h2)
 ·injection h with h; subst h; exact ⟨h_q4f,k_q4f⟩
 ·injection h with h; subst h; exact ⟨h_q4e,k_q4e⟩
 ·injection h with h; subst h; exact ⟨h_q3h,k_q3h⟩
 ·injection h with h; subst h; exact ⟨h_q1y,k_q1y⟩
 ·injection h with h; subst h; exact ⟨h_q1u,k_q1u⟩
 ·injection h with h; subst h; exact ⟨h_q4h,k_q4h⟩
 ·injection h with h; subst h; exact ⟨h_q01,k_q01⟩
 ·injection h with h; subst h; exact ⟨h_q1x,k_q1x⟩
 ·injection h with h; subst h; exact ⟨h_q1v,k_q1v⟩
 ·injection h with h; subst h; exact ⟨h_q4g,k_q4g⟩
 ·injection h with h; subst h; exact ⟨h_q02,k_q02⟩
 ·injection h with h; subst h; exact ⟨h_q11,k_q11⟩
 ·injection h with h; subst h; exact ⟨h_q4i,k_q4i⟩
 ·cases h
end Go.Proofs.YthlpognahlnaaaaGreat

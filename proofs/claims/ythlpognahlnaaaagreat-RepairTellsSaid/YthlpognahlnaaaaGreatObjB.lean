/- Functions of a history,where all else holds no reference; what the laws know. / What the laws of histories know. / The fold of increments that were taken; which increments are taken. / Intervals of a history from epoch to epoch (plain). / Functions of a history,with objects behind it that may hold references. / Operations on objects: what IsOp,Writes,Seen compute. / Operations on objects: what each kind of operation does to an object. -/
import Derived.Test.YthlpognahlnaaaaGreatHsG
import Derived.Test.YthlpognahlnaaaaGreatPkEvd
import Derived.Test.YthlpognahlnaaaaGreatCode
set_option linter.all false
namespace Go.Proofs.YthlpognahlnaaaaGreat
open Pv Go Pk
set_option maxRecDepth 10000
set_option maxHeartbeats 4000000
/-- Objects that refer to none. -/
def plain (X : Heap) : Prop:=∀ n,X.all (ltO n) = true
theorem plain_arr (es : List DV) (wr : Bool) (X : Heap) : plain (.arr es wr :: X) = plain X:=by
 apply propext
 exact ⟨fun h n => by have:=h n; rw [List.all_cons] at this; simpa [ltO] using this,fun h n => by rw [List.all_cons,h n]; rfl⟩
theorem plain_box (d : DV) (X : Heap) : plain (.box (.d d) :: X) = plain X:=by
 apply propext
 exact ⟨fun h n => by have:=h n; rw [List.all_cons] at this; simpa [ltO,lt] using this,fun h n => by rw [List.all_cons,h n]; rfl⟩
theorem zg0 (X Y : Heap) : plain (X ++ Y) = (plain X ∧ plain Y):=by
 apply propext
 unfold plain
 constructor
 ·intro h
  exact ⟨fun n => by have:=h n; rw [List.all_append,Bool.and_eq_true] at this; exact this.1,fun n => by have:=h n; rw [List.all_append,Bool.and_eq_true] at this; exact this.2⟩
 ·rintro ⟨h1, h2⟩ n
  rw [List.all_append,h1 n,h2 n]
  rfl
def Grb.pl (q : Grb) : Prop:=∀ n,q.ok n
theorem zcg : grb0.pl:=grb0_ok
theorem Grb.frz_pl {q : Grb} (h : q.pl) (g : Int) : (q.frz g).pl:=fun n => Grb.frz_ok (h n) g
/-- A history behind P,Y behind it. -/
def hh (P : Heap) (p : Nat) (l : List Inc) (q : Grb) (Y : Heap) : Heap:=hq P (hobs p (hsOf l) q) Y
theorem zaz (p : Nat) (s : Hst) (q : Grb) : (hobs p s q).length = 12:=rfl
theorem hh_push (P : Heap) (p : Nat) (l : List Inc) (q : Grb) (Y Z : Heap) : hh P p l q Y ++ Z = hh P p l q (Y ++ Z):=by simp [hh,hq]
section
variable {P : Heap} {p n : Nat} (hP : P.length = p) (hn : p + 12 = n)
include hP hn in
theorem hh_len (l : List Inc) (q : Grb) (Y : Heap) : (hh P p l q Y).length = n + Y.length:=by
 unfold hh hq
 rw [List.length_append,List.length_append,zaz]
 omega
include hP hn in
theorem hh_at (l : List Inc) (q : Grb) (Y : Heap) (j : Nat) : (hh P p l q Y)[n + j]? = Y[j]?:=by
 unfold hh
 rw [show n + j = p + (12 + j) by omega,hq_at hP,List.getElem?_append_right (by rw [zaz]; omega),zaz]
 congr 1
 omega
include hP hn in
theorem hh_at0 (l : List Inc) (q : Grb) (Y : Heap) : (hh P p l q Y)[n]? = Y[0]?:=hh_at hP hn l q Y 0
include hP hn in
theorem hh_set (l : List Inc) (q : Grb) (Y : Heap) (j : Nat) (y : Ob) : (hh P p l q Y).set (n + j) y = hh P p l q (Y.set j y):=by
 unfold hh hq
 rw [List.set_append_right _ _ (by omega),List.set_append_right _ _ (by rw [zaz]; omega),zaz]
 congr 3
 omega
include hP hn in
theorem hh_set0 (l : List Inc) (q : Grb) (Y : Heap) (y : Ob) : (hh P p l q Y).set n y = hh P p l q (Y.set 0 y):=hh_set hP hn l q Y 0 y
include hP hn in
theorem hh_take (l : List Inc) (q : Grb) (Y : Heap) (j : Nat) : List.take (n + j) (hh P p l q Y) = hh P p l q (Y.take j):=by
 unfold hh hq
 rw [List.take_append,List.take_of_length_le (by omega),List.take_append,List.take_of_length_le (by rw [zaz]; omega),zaz]
 congr 3
 omega
include hP hn in
theorem hh_take0 (l : List Inc) (q : Grb) (Y : Heap) : List.take n (hh P p l q Y) = hh P p l q []:=by
 have:=hh_take hP hn l q Y 0
 simpa using this
include hP hn in
theorem hobs_ltO (s : Hst) {q : Grb} (hq : q.pl) (k : Nat) : (hobs p s q).all (ltO (n + k)) = true:=by
 obtain ⟨k0,k1,k2,k3,k4⟩:=hq (n + k)
 unfold hobs hbox
 simp only [List.all_cons,List.all_nil,k0,k1,k2,k3,k4,Bool.true_and,Bool.and_true]
 simp [ltO,lt,lts]
 omega
variable (hPp : plain P)
def incAt (l : List Inc) (e : Int) : Inc:=if 2 ≤ e ∧ e ≤ (l.length : Int) + 1 then (l[(e - 2).toNat]?).getD ⟨0,0,0⟩ else ⟨0,0,0⟩
/-- A group's intervals,and the last one. -/
def ivL (l : List Inc) (g : Int) : List Itv:=ivOf (hsOf l) g
theorem zq2 {l : List Inc} (hl : goodI l) (g : Int) : ∀ x ∈ ivL l g,x.acting.length ≤ 3:=by
 obtain ⟨h0,h1,h2,h3⟩:=ziv hl
 unfold ivL ivOf
 split
 ·exact h0.2.2
 ·split
  ·exact h1.2.2
  ·split
   ·exact h2.2.2
   ·split
    ·exact h3.2.2
    ·intro x hx; simp at hx
theorem zdl {l : List Inc} (hl : goodI l) (g : Int) : (lastI (ivL l g)).acting.length ≤ 3:=by
 unfold lastI
 cases h : (ivL l g).getLast? with
 | none => show (0 : Nat) ≤ 3; omega
 | some x => exact zq2 hl g x (List.mem_of_getLast? h)
include hP hPp in
theorem h_acting {l : List Inc} (hl : goodI l) {q : Grb} (hq : q.pl) {X : Heap} (hX : plain X) (g : Int) (h0 : 0 ≤ g) : evF C F_q0f [.ptr (p + 2) 0,.d (.i .u8 g)] (hh P p l q X) = some (.d (.sl ((lastI (ivL l g)).acting.map fun x => .i .i64 x)),hh P p l q X) :=
 zjw hP (S:=X) rfl (hPp _) (hX _) (hq _) (hsOf l) (ziv hl) g h0 (by have:=zdl hl g; exact Nat.le_trans this (by omega))
include hP in
theorem h_new : evF C F_q0l [] P = some (.ptr (p + 2) 0,hh P p [] grb0 []):=hnew_at hP
end
end Go.Proofs.YthlpognahlnaaaaGreat

namespace Go.Proofs.YthlpognahlnaaaaGreat
open Pv Go Pk
set_option maxRecDepth 10000
set_option maxHeartbeats 4000000
def x4 : Inc:=⟨4,0,0⟩
end Go.Proofs.YthlpognahlnaaaaGreat

namespace Go.Proofs.YthlpognahlnaaaaGreat
open Pv Go Pk
set_option maxRecDepth 10000
set_option maxHeartbeats 4000000
theorem zcv {l : List Inc} (h : goodI l) (i : Nat) : goodI (l.take i):=⟨by have:=h.1; rw [List.length_take]; omega,fun x hx => h.2 x (List.mem_of_mem_take hx)⟩
theorem zi3 {l : List Inc} {x : Inc} (h : goodI (l ++ [x])) : nextOf (mapAt l) x = (mapAt (l ++ [x]),0):=by
 have hx:=h.2 x (by simp)
 have hl:=h.1
 simp at hl
 unfold nextOf
 rw [if_pos,zb6]
 rw [zgk (zdq h),za8,hx.1]
 simp
 omega
/-- What is taken of a row of increments,each coming as the next one. -/
def takeN (g : List Inc) (x : Inc) : List Inc:=(addL g ((g.length : Int) + 2) x).1
def codeN (g : List Inc) (x : Inc) : Int:=(addL g ((g.length : Int) + 2) x).2
def takeAll (l : List Inc) : List Inc:=l.foldl takeN []
theorem zf0 (l : List Inc) (x : Inc) : takeAll (l ++ [x]) = takeN (takeAll l) x:=by unfold takeAll; rw [List.foldl_append]; rfl
theorem addL_next (g : List Inc) (x : Inc) : addL g ((g.length : Int) + 2) x = if isInc x = true ∧ g.length < 59 then (g ++ [x],0) else (g,40):=by
 unfold addL
 rw [if_neg (by omega),if_neg (by omega)]
theorem zfz {l : List Inc} (h : ∀ x ∈ l,x.ok) : goodI (takeAll l):=by
 revert h
 refine zap (M:=fun l => (∀ x ∈ l,x.ok) → goodI (takeAll l)) (fun _ => zgm) ?_ l
 intro l x ih h
 rw [zf0]
 exact zoz (ih fun y hy => h y (by simp [hy])) (h x (by simp))
end Go.Proofs.YthlpognahlnaaaaGreat

namespace Go.Proofs.YthlpognahlnaaaaGreat
open Pv Go Pk
set_option maxRecDepth 10000
set_option maxHeartbeats 4000000
theorem zpo (g : Int) (hg : 0 ≤ g ∧ g < 4) : ivL [] g = [⟨1,actI firstM g⟩]:=by
 obtain rfl | rfl | rfl | rfl : g = 0 ∨ g = 1 ∨ g = 2 ∨ g = 3:=by omega
 all_goals rfl
theorem zrz (l : List Inc) (x : Inc) (g : Int) (hg : 0 ≤ g ∧ g < 4) : ivL (l ++ [x]) g = ivAdd (ivL l g) ((l.length : Int) + 2) (actI (mapAt (l ++ [x])) g):=by
 have he : (mapAt (l ++ [x])).epoch = (l.length : Int) + 2:=by rw [za8,List.length_append]; simp; omega
 unfold ivL ivOf
 rw [zdg,← he]
 obtain rfl | rfl | rfl | rfl : g = 0 ∨ g = 1 ∨ g = 2 ∨ g = 3:=by omega
 all_goals rfl
theorem ivL_pre (l : List Inc) (g : Int) (hg : 0 ≤ g ∧ g < 4) : ∀ i : Nat,∃ r,ivL l g = ivL (l.take i) g ++ r ∧ ∀ x ∈ r,x.since > (i : Int) + 1:=by
 refine zap (M:=fun l => ∀ i : Nat,∃ r,ivL l g = ivL (l.take i) g ++ r ∧ ∀ x ∈ r,x.since > (i : Int) + 1) ?_ ?_ l
 ·intro i
  exact ⟨[],by simp,by simp⟩
 ·intro l y ih i
  by_cases hi : i ≤ l.length
  ·obtain ⟨r, h1, h2⟩ := ih i
   rw [List.take_append_of_le_length hi,zrz _ _ _ hg]
   unfold ivAdd
   split
   ·exact ⟨r,h1,h2⟩
   ·refine ⟨r ++ [⟨(l.length : Int) + 2, actI (mapAt (l ++ [y])) g⟩], by rw [h1, List.append_assoc], ?_⟩
    intro x hx
    rcases List.mem_append.1 hx with hx | hx
    ·exact h2 x hx
    ·simp at hx
     subst hx
     show (l.length : Int) + 2 > _
     omega
  ·rw [List.take_of_length_le (by simp; omega)]
   exact ⟨[],by simp,by simp⟩
theorem zr2 (l : List Inc) (g : Int) (hg : 0 ≤ g ∧ g < 4) : 0 < (ivL l g).length:=by
 obtain ⟨r,h1,_⟩:=ivL_pre l g hg 0
 rw [h1,List.take_zero,zpo g hg]
 simp
theorem ivL_first (l : List Inc) (g : Int) (hg : 0 ≤ g ∧ g < 4) : (ivL l g)[0]? = some ⟨1,actI firstM g⟩:=by
 obtain ⟨r,h1,_⟩:=ivL_pre l g hg 0
 rw [h1,List.take_zero,zpo g hg]
 rfl
theorem zmy {l : List Itv} (h : 0 < l.length) : l[l.length - 1]? = some (lastI l):=by
 unfold lastI
 rw [← List.getLast?_eq_getElem?]
 cases hl : l.getLast? with
 | none => rw [List.getLast?_eq_none_iff] at hl; rw [hl] at h; simp at h
 | some x => rfl
theorem zlb {l : List Inc} (hl : goodI l) (g : Int) (hg : 0 ≤ g ∧ g < 4) : (ivL l g).length ≤ l.length + 1:=by
 obtain ⟨h0,h1,h2,h3⟩:=zeu hl
 unfold ivL ivOf
 obtain rfl | rfl | rfl | rfl : g = 0 ∨ g = 1 ∨ g = 2 ∨ g = 3:=by omega
 ·exact h0.2
 ·exact h1.2
 ·exact h2.2
 ·exact h3.2
end Go.Proofs.YthlpognahlnaaaaGreat

namespace Go.Proofs.YthlpognahlnaaaaGreat
open Pv Go Pk
set_option maxRecDepth 10000
set_option maxHeartbeats 4000000
/-- A history behind P,S behind it,Y behind that. -/
def hz (P S : Heap) (p : Nat) (l : List Inc) (q : Grb) (Y : Heap) : Heap:=hq P (hobs p (hsOf l) q) (S ++ Y)
theorem zdk (P S : Heap) (p : Nat) (l : List Inc) (q : Grb) (Y Z : Heap) : hz P S p l q Y ++ Z = hz P S p l q (Y ++ Z):=by simp [hz,hq]
section
variable {P S : Heap} {p n : Nat} (hP : P.length = p) (hn : p + 12 + S.length = n)
include hP hn in
theorem zcj (l : List Inc) (q : Grb) (Y : Heap) : (hz P S p l q Y).length = n + Y.length:=by
 unfold hz hq
 rw [List.length_append,List.length_append,zaz,List.length_append]
 omega
include hP hn in
theorem hz_at (l : List Inc) (q : Grb) (Y : Heap) (j : Nat) : (hz P S p l q Y)[n + j]? = Y[j]?:=by
 unfold hz
 rw [show n + j = p + (12 + (S.length + j)) by omega,hq_at hP,List.getElem?_append_right (by rw [zaz]; omega),zaz,List.getElem?_append_right (by omega)]
 congr 1
 omega
include hP hn in
theorem hz_at0 (l : List Inc) (q : Grb) (Y : Heap) : (hz P S p l q Y)[n]? = Y[0]?:=hz_at hP hn l q Y 0
include hP hn in
theorem hz_set (l : List Inc) (q : Grb) (Y : Heap) (j : Nat) (y : Ob) : (hz P S p l q Y).set (n + j) y = hz P S p l q (Y.set j y):=by
 unfold hz hq
 rw [List.set_append_right _ _ (by omega),List.set_append_right _ _ (by rw [zaz]; omega),zaz,List.set_append_right _ _ (by omega)]
 congr 4
 omega
include hP hn in
theorem hz_set0 (l : List Inc) (q : Grb) (Y : Heap) (y : Ob) : (hz P S p l q Y).set n y = hz P S p l q (Y.set 0 y):=hz_set hP hn l q Y 0 y
include hP hn in
theorem zq1 (l : List Inc) (q : Grb) (Y : Heap) (j : Nat) : List.take (n + j) (hz P S p l q Y) = hz P S p l q (Y.take j):=by
 unfold hz hq
 rw [List.take_append,List.take_of_length_le (by omega),List.take_append,List.take_of_length_le (by rw [zaz]; omega),zaz,List.take_append,List.take_of_length_le (by omega)]
 congr 4
 omega
include hP hn in
theorem hz_take0 (l : List Inc) (q : Grb) (Y : Heap) : List.take n (hz P S p l q Y) = hz P S p l q []:=by
 have:=zq1 hP hn l q Y 0
 simpa using this
include hP hn in
theorem hobs_ltZ (s : Hst) {q : Grb} (hq : q.pl) (k : Nat) : (hobs p s q).all (ltO (n + k)) = true:=by
 obtain ⟨k0,k1,k2,k3,k4⟩:=hq (n + k)
 unfold hobs hbox
 simp only [List.all_cons,List.all_nil,k0,k1,k2,k3,k4,Bool.true_and,Bool.and_true]
 simp [ltO,lt,lts]
 omega
variable (hPp : plain P) (hS : ∀ k,S.all (ltO (n + k)) = true)
include hP hn hPp hS in
theorem zf4 (l : List Inc) {q : Grb} (hq : q.pl) {Y : Heap} (hY : plain Y) (k : Nat) : (hz P S p l q Y).all (ltO (n + k)) = true:=by
 unfold hz Go.Proofs.YthlpognahlnaaaaGreat.hq
 rw [List.all_append,List.all_append,hPp,hobs_ltZ hP hn _ hq,List.all_append,hS,hY]
 rfl
include hP hn hPp hS in
theorem hz_all0 (l : List Inc) {q : Grb} (hq : q.pl) {Y : Heap} (hY : plain Y) : (hz P S p l q Y).all (ltO n) = true:=zf4 hP hn hPp hS l hq hY 0
include hn in
theorem z_n (X : Heap) : p + 12 + (S ++ X).length = n + X.length:=by rw [List.length_append]; omega
include hS in
theorem z_S {X : Heap} (hX : plain X) : (S ++ X).all (ltO (n + X.length)) = true:=by rw [List.all_append,hS,hX]; rfl
include hP hn hPp hS in
theorem z_last {l : List Inc} {q : Grb} (hq : q.pl) {X : Heap} (hX : plain X) : evF C F_q0i [.ptr (p + 2) 0] (hz P S p l q X) = some (.d (.i .u32 ((l.length : Int) + 1)),hz P S p l q X):=by
 have:=hlast_at hP (S:=S ++ X) (z_n hn X) (hPp _) (z_S hS hX) (hq _) (hsOf l)
 rwa [zog] at this
include hP hn hPp hS in
theorem z_add {l : List Inc} (hl : goodI l) {q : Grb} (hq : q.pl) {X : Heap} (hX : plain X) (e : Int) (he : 0 ≤ e ∧ e < 4294967296) (x : Inc) (hx : x.ok) : evF C F_q0g [.ptr (p + 2) 0,.d (.i .u32 e),.d (.agg x.cs)] (hz P S p l q X) =
  some (.d (.i .i64 (addL l e x).2),hz P S p (addL l e x).1 q X):=hadd_at hP (S:=S ++ X) (z_n hn X) (hPp _) (z_S hS hX) (hq _) l hl e he x hx
include hP hn hPp hS in
theorem z_acting {l : List Inc} (hl : goodI l) {q : Grb} (hq : q.pl) {X : Heap} (hX : plain X) (g : Int) (h0 : 0 ≤ g) : evF C F_q0f [.ptr (p + 2) 0,.d (.i .u8 g)] (hz P S p l q X) = some (.d (.sl ((lastI (ivL l g)).acting.map fun x => .i .i64 x)),hz P S p l q X) :=
 zjw hP (S:=S ++ X) (z_n hn X) (hPp _) (z_S hS hX) (hq _) (hsOf l) (ziv hl) g h0 (by have:=zdl hl g; exact Nat.le_trans this (by omega))
include hP hn hPp hS in
theorem zm0 {l : List Inc} (hl : goodI l) {q : Grb} (hq : q.pl) {X : Heap} (hX : plain X) {m : Nat} (hn2 : n + X.length = m) (g : Int) (h0 : 0 ≤ g ∧ g < 4) : evF C F_q0h [.ptr (p + 2) 0,.d (.i .u8 g)] (hz P S p l q X) = some (.view m (ivL l g).length 2 0 (ivL l g).length,hz P S p l (q.frz g) (X ++ [.arr ((ivL l g).map Itv.d) true])):=by
 have:=zj1 hP (S:=S ++ X) (n:=m) (by rw [← hn2]; exact z_n hn X) (hPp _) (by rw [← hn2]; exact z_S hS hX) (hq _) (hsOf l) (ziv hl) g h0
 rw [List.append_assoc] at this
 exact this
end
end Go.Proofs.YthlpognahlnaaaaGreat

namespace Go.Proofs.YthlpognahlnaaaaGreat
open Pv Go Pk
set_option maxRecDepth 10000
set_option maxHeartbeats 1000000

def isOp (o : Opr) : Bool :=
 !(decide (o.client < 1) || decide (o.client > 3) || o.seq == 0 || decide (o.obj ≥ 6) || decide ((o.data.size : Int) > 16)) &&
  (o.kind == 1 || o.kind == 3 || (if (o.kind == 2) = true then decide (o.data = ⟨#[]⟩) else (o.kind == 4 || o.kind == 5) && decide (o = ⟨o.client,o.seq,o.kind,o.obj,0,⟨#[]⟩⟩)))

theorem isOp_at (o : Opr) : evF C F_q1e [.d (.agg o.cs)] [] = some (.d (.b (isOp o)),[]):=by
 rw [zaa (rfl : C F_q1e = some a_q1e) _ _ rfl]
 unfold isOp
 rcases Bool.eq_false_or_eq_true (decide (o.client < 1)) with h1 | h1
 ·simp +decide only [c_q1e, h1, Pk.EVL, Pk.EVD, ↓reduceIte, Pk.TY_Opr]
  try simp
 ·rcases Bool.eq_false_or_eq_true (decide (o.client > 3)) with h2 | h2
  ·simp +decide only [c_q1e, h1, h2, Pk.EVL, Pk.EVD, ↓reduceIte, Pk.TY_Opr]
   try simp
  ·rcases Bool.eq_false_or_eq_true (o.seq == 0) with h3 | h3
   ·simp +decide only [c_q1e, h1, h2, h3, Pk.EVL, Pk.EVD, ↓reduceIte, Pk.TY_Opr]
    try simp
   ·rcases Bool.eq_false_or_eq_true (decide (o.obj ≥ 6)) with h4 | h4
    ·simp +decide only [c_q1e, h1, h2, h3, h4, Pk.EVL, Pk.EVD, ↓reduceIte, Pk.TY_Opr]
     try simp
    ·rcases Bool.eq_false_or_eq_true (decide ((o.data.size : Int) > 16)) with h5 | h5
     ·simp +decide only [c_q1e, h1, h2, h3, h4, h5, Pk.EVL, Pk.EVD, ↓reduceIte, Pk.TY_Opr]
      try simp
     ·rcases Bool.eq_false_or_eq_true (o.kind == 1) with h6 | h6
      ·simp +decide only [c_q1e, h1, h2, h3, h4, h5, h6, Pk.EVL, Pk.EVD, ↓reduceIte, Pk.TY_Opr]
       try simp
      ·rcases Bool.eq_false_or_eq_true (o.kind == 3) with h7 | h7
       ·simp +decide only [c_q1e, h1, h2, h3, h4, h5, h6, h7, Pk.EVL, Pk.EVD, ↓reduceIte, Pk.TY_Opr]
        try simp
       ·rcases Bool.eq_false_or_eq_true (o.kind == 2) with h8 | h8
        ·simp +decide only [c_q1e, h1, h2, h3, h4, h5, h6, h7, h8, Pk.EVL, Pk.EVD, ↓reduceIte, Pk.TY_Opr]
         try simp
        ·rcases Bool.eq_false_or_eq_true (o.kind == 4) with h9 | h9
         ·simp +decide only [c_q1e, h1, h2, h3, h4, h5, h6, h7, h8, h9, Pk.EVL, Pk.EVD, ↓reduceIte, Nat.reduceAdd, Nat.reduceLeDiff, Pk.TY_Opr]
          try simp
         ·rcases Bool.eq_false_or_eq_true (o.kind == 5) with h10 | h10
          ·simp +decide only [c_q1e, h1, h2, h3, h4, h5, h6, h7, h8, h9, h10, Pk.EVL, Pk.EVD, ↓reduceIte, Nat.reduceAdd, Nat.reduceLeDiff, Pk.TY_Opr]
           try simp
          ·simp +decide only [c_q1e, h1, h2, h3, h4, h5, h6, h7, h8, h9, h10, Pk.EVL, Pk.EVD, ↓reduceIte, Pk.TY_Opr]
           try simp
end Go.Proofs.YthlpognahlnaaaaGreat

namespace Go.Proofs.YthlpognahlnaaaaGreat
open Pv Go Pk
set_option maxRecDepth 10000
set_option maxHeartbeats 1000000

theorem zei {o : Opr} (h : isOp o = true) : o.data.size ≤ 16 ∧ 1 ≤ o.client ∧ o.client ≤ 3 ∧ o.obj < 6 ∧ o.seq ≠ 0:=by
 unfold isOp at h
 simp at h
 omega

def writes (o : Opr) : Bool:=isOp o && (o.kind != 5)
theorem zbv (o : Opr) : evF C F_q1g [.d (.agg o.cs)] [] = some (.d (.b (writes o)),[]):=by
 rw [zaa (rfl : C F_q1g = some a_q1g) _ _ rfl]
 unfold writes
 rcases Bool.eq_false_or_eq_true (isOp o) with h1 | h1
 ·simp +decide only [c_q1g, isOp_at, h1, Pk.EVL, Pk.EVD, ↓reduceIte, Pk.TY_Opr]
  try simp
 ·simp +decide only [c_q1g, isOp_at, h1, Pk.EVL, Pk.EVD, ↓reduceIte, Pk.TY_Opr]
  try simp

def grown (s : ByteArray) (n : Nat) : ByteArray:=s ++ nul (n - s.size)
theorem zlz (s : ByteArray) (n : Nat) (hs : s.size ≤ 300) (hn : n ≤ 300) : evF C F_q1m [.d (.s s),.d (.i .i64 (n : Int))] [] = some (.d (.s (grown s n)),[]):=by
 rw [zaa (rfl : C F_q1m = some a_q1m) _ _ rfl]
 have w1 : mmI true (IntKind.i64.wrap ((n : Int) - (s.size : Int))) 0 = ((n - s.size : Nat) : Int):=by
  rw [wi64 (by omega)]; simp only [mmI]; simp; split <;> omega
 have h1:=repeat_at (rfl : C F_q4r = some _) (n - s.size) (by omega)
 have h2 : (s.size + (nul (n - s.size)).size ≤ LIM) = True:=by simp [zcz,LIM]; omega
 simp +decide only [c_q1m,w1,h1,h2,grown,Pk.EVL,Pk.EVD,↓reduceIte,Nat.reduceAdd]
theorem zba (s : ByteArray) (n : Nat) : (grown s n).size = max s.size n:=by
 simp [grown,zcz,ByteArray.size_append]; omega

def Objt.fit (x : Objt) : Prop:=x.data.size ≤ 300 ∧ ∀ i < 3,(x.attr.get i).size ≤ 300

def splice (s : ByteArray) (a : Nat) (d : ByteArray) : ByteArray:=(grown s (a + d.size)).extract 0 a ++ d ++ (grown s (a + d.size)).extract (a + d.size) (grown s (a + d.size)).size
def writeO (x : Objt) (o : Opr) : Objt × Int :=
 if o.at_ + o.data.size > 16 then (x,2) else ({ x with there:=true,data:=splice x.data o.at_.toNat o.data },0)
def truncO (x : Objt) (o : Opr) : Objt × Int :=
 if x.there = false then (x,1) else if o.at_ > 16 then (x,2) else ({ x with data:=(grown x.data o.at_.toNat).extract 0 o.at_.toNat },0)
def attrO (x : Objt) (o : Opr) : Objt × Int :=
 if o.at_ ≥ 3 then (x,3) else if x.there = false then (x,1) else ({ x with attr:=x.attr.set o.at_.toNat o.data },0)
def removeO (x : Objt) : Objt × Int:=if x.there = false then (x,1) else (Objt.zero,0)

section
variable (x : Objt) (o : Opr) (B0 B1 B2 B3 B4 : DV)

theorem remove_at : evF C F_q1i [.ptr 5 0,.d (.agg o.cs)] [.box (.d B0),.box (.d B1),.box (.d B2),.box (.d B3),.box (.d B4),.box (.d (.agg x.cs))] =
  some (.d (.i .u8 (removeO x).2),[.box (.d B0),.box (.d B1),.box (.d B2),.box (.d B3),.box (.d B4),.box (.d (.agg (removeO x).1.cs))]):=by
 rw [zaa (rfl : C F_q1i = some a_q1i) _ _ rfl]
 unfold removeO
 rcases Bool.eq_false_or_eq_true (x.there) with h1 | h1
 ·simp +decide only [c_q1i, h1, Pk.EVL, Pk.EVD, ↓reduceIte, Nat.reduceAdd, Pk.TY_Objt]
  try rfl
 ·simp +decide only [c_q1i, h1, Pk.EVL, Pk.EVD, ↓reduceIte, Nat.reduceAdd, Pk.TY_Objt]
  try rfl

theorem attr_at (ho : o.ok) : evF C F_q1h [.ptr 5 0,.d (.agg o.cs)] [.box (.d B0),.box (.d B1),.box (.d B2),.box (.d B3),.box (.d B4),.box (.d (.agg x.cs))] =
  some (.d (.i .u8 (attrO x o).2),[.box (.d B0),.box (.d B1),.box (.d B2),.box (.d B3),.box (.d B4),.box (.d (.agg (attrO x o).1.cs))]):=by
 rw [zaa (rfl : C F_q1h = some a_q1h) _ _ rfl]
 unfold attrO
 have h0 : 0 ≤ o.at_:=by have:=ho; simp only [Opr.ok] at this; omega
 by_cases c : o.at_ ≥ 3
 ·have hd : decide (o.at_ ≥ 3) = true := by simp [c]
  simp +decide only [c_q1h,hd,Pk.EVL,Pk.EVD,↓reduceIte,Nat.reduceAdd,Pk.TY_Opr]
  simp [c]
 ·have hd : decide (o.at_ ≥ 3) = false := by simp; omega
  have hi : o.at_.toNat < 3:=by omega
  have hb : (0 ≤ o.at_ ∧ o.at_ < ((3 : Nat) : Int)) = True:=by simp; omega
  have hs : (2 + o.at_.toNat + 1 ≤ 5) = True:=by simp; omega
  rw [if_neg c]
  rcases Bool.eq_false_or_eq_true (x.there) with h1 | h1
  ·simp +decide only [c_q1h, h1, hd, hi, hb, hs, Nat.mul_one, Pk.EVL, Pk.EVD, ↓reduceIte, Nat.reduceAdd, Pk.TY_Opr, Pk.TY_Objt]
   try rfl
  ·simp +decide only [c_q1h, h1, hd, Pk.EVL, Pk.EVD, ↓reduceIte, Nat.reduceAdd, Pk.TY_Opr, Pk.TY_Objt]
   try rfl

theorem write_at (ho : o.ok) (hx : x.data.size ≤ 300) (hd : o.data.size ≤ 16) : evF C F_q1k [.ptr 5 0,.d (.agg o.cs)] [.box (.d B0),.box (.d B1),.box (.d B2),.box (.d B3),.box (.d B4),.box (.d (.agg x.cs))] =
  some (.d (.i .u8 (writeO x o).2),[.box (.d B0),.box (.d B1),.box (.d B2),.box (.d B3),.box (.d B4),.box (.d (.agg (writeO x o).1.cs))]):=by
 rw [zaa (rfl : C F_q1k = some a_q1k) _ _ rfl]
 unfold writeO
 obtain ⟨a,ha,hal⟩ : ∃ a : Nat,o.at_ = (a : Int) ∧ a < 256:=⟨o.at_.toNat,by have:=ho; simp only [Opr.ok] at this; omega,by have:=ho; simp only [Opr.ok] at this; omega⟩
 simp only [ha,Int.toNat_natCast]
 have w0 : IntKind.i64.wrap (a : Int) = (a : Int):=wi64 (by omega)
 have w1 : IntKind.i64.wrap ((a : Int) + (o.data.size : Int)) = ((a + o.data.size : Nat) : Int):=by rw [wi64 (by omega)]; omega
 by_cases c : (a : Int) + (o.data.size : Int) > 16
 ·have hd : decide (((a + o.data.size : Nat) : Int) > 16) = true := by simp; omega
  rw [if_pos c]
  simp +decide only [c_q1k,ha,w0,w1,hd,Pk.EVL,Pk.EVD,↓reduceIte,Nat.reduceAdd,Pk.TY_Opr]
 ·have hd : decide (((a + o.data.size : Nat) : Int) > 16) = false := by simp; omega
  rw [if_neg c]
  have g1:=zlz x.data (a + o.data.size) (by omega) (by omega)
  unfold splice
  have hg:=zba x.data (a + o.data.size)
  generalize grown x.data (a + o.data.size) = g at g1 hg ⊢
  have b1 : (0 ≤ (a : Int) ∧ (a : Int) ≤ (g.size : Int)) = True:=by simp; omega
  have b2 : (0 ≤ ((a + o.data.size : Nat) : Int) ∧ ((a + o.data.size : Nat) : Int) ≤ (g.size : Int)) = True:=by simp; omega
  have l1 : ((g.extract 0 a).size + o.data.size ≤ LIM) = True:=by simp [LIM]; omega
  have l2 : ((g.extract 0 a ++ o.data).size + (g.extract (a + o.data.size) g.size).size ≤ LIM) = True:=by simp [LIM]; omega
  simp +decide only [c_q1k,ha,w0,w1,hd,g1,b1,b2,l1,l2,Int.toNat_natCast,Pk.EVL,Pk.EVD,↓reduceIte,Nat.reduceAdd,Nat.reduceLeDiff,Pk.TY_Opr,Pk.TY_Objt]

theorem trunc_at (ho : o.ok) (hx : x.data.size ≤ 300) : evF C F_q1j [.ptr 5 0,.d (.agg o.cs)] [.box (.d B0),.box (.d B1),.box (.d B2),.box (.d B3),.box (.d B4),.box (.d (.agg x.cs))] =
  some (.d (.i .u8 (truncO x o).2),[.box (.d B0),.box (.d B1),.box (.d B2),.box (.d B3),.box (.d B4),.box (.d (.agg (truncO x o).1.cs))]):=by
 rw [zaa (rfl : C F_q1j = some a_q1j) _ _ rfl]
 unfold truncO
 obtain ⟨a,ha,hal⟩ : ∃ a : Nat,o.at_ = (a : Int) ∧ a < 256:=⟨o.at_.toNat,by have:=ho; simp only [Opr.ok] at this; omega,by have:=ho; simp only [Opr.ok] at this; omega⟩
 simp only [ha,Int.toNat_natCast]
 have w0 : IntKind.i64.wrap (a : Int) = (a : Int):=wi64 (by omega)
 rcases Bool.eq_false_or_eq_true (x.there == false) with h1 | h1
 ·have h1' := h1
  simp only [beq_iff_eq] at h1'
  by_cases c : (a : Int) > 16
  ·have hd : decide ((a : Int) > 16) = true := by simp; omega
   simp +decide only [c_q1j,h1',Pk.EVL,Pk.EVD,↓reduceIte,Nat.reduceAdd,Pk.TY_Objt]
  ·have hd : decide ((a : Int) > 16) = false := by simp; omega
   have g1:=zlz x.data a (by omega) (by omega)
   have hg:=zba x.data a
   generalize grown x.data a = g at g1 hg ⊢
   have b1 : (0 ≤ (a : Int) ∧ (a : Int) ≤ (g.size : Int)) = True:=by simp; omega
   simp +decide only [c_q1j,h1',Pk.EVL,Pk.EVD,↓reduceIte,Nat.reduceAdd,Pk.TY_Objt]
 ·have h1' := h1
  simp only [beq_eq_false_iff_ne,ne_eq,Bool.not_eq_false] at h1'
  by_cases c : (a : Int) > 16
  ·have hd : decide ((a : Int) > 16) = true := by simp; omega
   simp +decide only [c_q1j,ha,h1',c,Pk.EVL,Pk.EVD,↓reduceIte,Nat.reduceAdd,Pk.TY_Opr,Pk.TY_Objt]
  ·have hd : decide ((a : Int) > 16) = false := by simp; omega
   have g1:=zlz x.data a (by omega) (by omega)
   have hg:=zba x.data a
   generalize grown x.data a = g at g1 hg ⊢
   have b1 : (0 ≤ (a : Int) ∧ (a : Int) ≤ (g.size : Int)) = True:=by simp; omega
   simp +decide only [c_q1j,ha,h1',c,w0,g1,b1,Int.toNat_natCast,Pk.EVL,Pk.EVD,↓reduceIte,Nat.reduceAdd,Nat.reduceLeDiff,Pk.TY_Opr,Pk.TY_Objt]
end
end Go.Proofs.YthlpognahlnaaaaGreat

/- Maps as lists of daemons; none moves of itself. / Package maps: which maps and increments may be; the next map; the first; the fold. / Rows of whole numbers compared; where a history lies. -/
import Derived.Test.YthlpognahlnaaaaGreatPlaceD
import Derived.Test.YthlpognahlnaaaaGreatPkEvd
set_option linter.all false
namespace Go.Proofs.YthlpognahlnaaaaGreat
open Pv Go
set_option maxRecDepth 10000
set_option maxHeartbeats 1000000
def osL (m : Pk.Mp) : List Osd:=[⟨m.osds.a0.up,m.osds.a0.weight,m.osds.a0.host⟩,⟨m.osds.a1.up,m.osds.a1.weight,m.osds.a1.host⟩,⟨m.osds.a2.up,m.osds.a2.weight,m.osds.a2.host⟩,⟨m.osds.a3.up,m.osds.a3.weight,m.osds.a3.host⟩,⟨m.osds.a4.up,m.osds.a4.weight,m.osds.a4.host⟩]
end Go.Proofs.YthlpognahlnaaaaGreat

namespace Go.Proofs.YthlpognahlnaaaaGreat
open Pv Go Pk
set_option maxRecDepth 10000
set_option maxHeartbeats 2000000
def isMp (m : Mp) : Bool:=isM m.epoch (osL m)
theorem isMp_at (m : Mp) : evF C F_q0y [.d (.agg m.cs)] [] = some (.d (.b (isMp m)),[]):=is_at m.epoch (osL m) rfl
def isInc (x : Inc) : Bool :=
  if ((x.kind == 1) || (x.kind == 2)) = true then decide (x.osd < 5) && decide (x = ⟨x.kind,x.osd,0⟩)
  else if (x.kind == 3) = true then decide (x.osd < 5) && (decide (x.n ≥ 0) && decide (x.n ≤ 16)) else decide (x = ⟨4,0,0⟩)
theorem isInc_at (x : Inc) : evF C F_q0z [.d (.agg x.cs)] [] = some (.d (.b (isInc x)),[]):=by
  rw [zaa (rfl : C F_q0z = some a_q0z) _ _ rfl]
  unfold isInc
  rcases Bool.eq_false_or_eq_true (x.kind == 1) with h1 | h1 <;> rcases Bool.eq_false_or_eq_true (x.kind == 2) with h2 | h2 <;> rcases Bool.eq_false_or_eq_true (x.kind == 3) with h3 | h3 <;>
    rcases Bool.eq_false_or_eq_true (decide (x.osd < 5)) with h4 | h4 <;> rcases Bool.eq_false_or_eq_true (decide (x.n ≥ 0)) with h5 | h5 <;>
    simp +decide only [c_q0z,h1,h2,h3,h4,h5,Pk.EVL,Pk.EVD,↓reduceIte,Nat.reduceAdd,Nat.reduceLeDiff,Pk.TY_Inc]
theorem zeq {x : Inc} (h : isInc x = true) : x.osd < 5:=by
  unfold isInc at h
  split at h
  · simp at h; exact h.1
  · split at h
    · simp at h; exact h.1
    · simp at h; rw [h]; show (0 : Int) < 5; omega
theorem zs9 {x : Inc} (h : isInc x = true) : x.kind = 1 ∨ x.kind = 2 ∨ x.kind = 3 ∨ x.kind = 4:=by
  unfold isInc at h
  split at h
  · rename_i c
    simp at c
    omega
  · split at h
    · rename_i c; simp at c; omega
    · simp at h; rw [h]; exact .inr (.inr (.inr rfl))
def nextM (m : Mp) (x : Inc) : Mp :=
  { epoch:=m.epoch + 1
    osds:=if (x.kind == 1) = true then m.osds.set x.osd.toNat { (m.osds.get x.osd.toNat) with up:=true }
      else if (x.kind == 2) = true then m.osds.set x.osd.toNat { (m.osds.get x.osd.toNat) with up:=false }
      else if (x.kind == 3) = true then m.osds.set x.osd.toNat { (m.osds.get x.osd.toNat) with weight:=x.n } else m.osds }
def nextOf (m : Mp) (x : Inc) : Mp × Int:=if (isMp m && (isInc x && !(m.epoch == 60))) = true then (nextM m x,0) else (Mp.zero,40)
theorem zfx {m : Mp} (h : isMp m = true) : 1 ≤ m.epoch ∧ m.epoch ≤ 60:=by
  unfold isMp isM at h
  simp at h
  omega
theorem nextOf_at (m : Mp) (x : Inc) (hx : x.ok) : evF C F_q0u [.d (.agg m.cs),.d (.agg x.cs)] [] = some (.tup [.d (.agg (nextOf m x).1.cs),.d (.i .i64 (nextOf m x).2)],[]):=by
  have hm:=isMp_at m
  have hi:=isInc_at x
  rw [zaa (rfl : C F_q0u = some a_q0u) _ _ rfl]
  unfold nextOf
  rcases (Bool.eq_false_or_eq_true (isMp m)).symm with h1 | h1
  · simp +decide only [c_q0u, hm, h1, Pk.EVL, Pk.EVD, ↓reduceIte, Nat.reduceAdd, Pk.TY_Mp]
    try simp
  rcases (Bool.eq_false_or_eq_true (isInc x)).symm with h2 | h2
  · simp +decide only [c_q0u, hm, hi, h1, h2, Pk.EVL, Pk.EVD, ↓reduceIte, Nat.reduceAdd, Pk.TY_Mp, Pk.TY_Inc]
    try simp
  rcases Bool.eq_false_or_eq_true (m.epoch == 60) with h3 | h3
  · simp +decide only [c_q0u, hm, hi, h1, h2, h3, Pk.EVL, Pk.EVD, ↓reduceIte, Nat.reduceAdd, Pk.TY_Mp, Pk.TY_Inc]
    try simp
  have ho:=zeq h2
  have he:=zfx h1
  have hw : IntKind.u32.wrap (m.epoch + 1) = m.epoch + 1:=wu32 (by omega)
  have o0 : (0 ≤ x.osd) = True:=eq_true (by have:=hx; simp only [Inc.ok] at this; omega)
  have o1 : (x.osd < ((5 : Nat) : Int)) = True:=eq_true ho
  have o2 : x.osd.toNat < 5:=by omega
  have o3 : (1 + x.osd.toNat * 3 ≤ 15) = True:=eq_true (by omega)
  have o4 : (1 + x.osd.toNat * 3 + 1 ≤ 15) = True:=eq_true (by omega)
  have o5 : (1 + x.osd.toNat * 3 ≤ 14) = True:=eq_true (by omega)
  unfold nextM
  rcases Bool.eq_false_or_eq_true (x.kind == 1) with k1 | k1
  · simp +decide only [c_q0u, hm, hi, h1, h2, h3, hw, o0, o1, o2, o3, k1, Pk.EVL, Pk.EVD, ↓reduceIte, Nat.reduceAdd, Nat.reduceLeDiff, Pk.TY_Mp, Pk.TY_Inc]
    try simp
  · rcases Bool.eq_false_or_eq_true (x.kind == 2) with k2 | k2
    · simp +decide only [c_q0u, hm, hi, h1, h2, h3, hw, o0, o1, o2, o3, k1, k2, Pk.EVL, Pk.EVD, ↓reduceIte, Nat.reduceAdd, Nat.reduceLeDiff, Pk.TY_Mp, Pk.TY_Inc]
      try simp
    · rcases Bool.eq_false_or_eq_true (x.kind == 3) with k3 | k3
      · simp +decide only [c_q0u, hm, hi, h1, h2, h3, hw, o0, o1, o2, o5, k1, k2, k3, Pk.EVL, Pk.EVD, ↓reduceIte, Nat.reduceAdd, Nat.reduceLeDiff, Pk.TY_Mp, Pk.TY_Inc]
        try simp
      · simp +decide only [c_q0u, hm, hi, h1, h2, h3, hw, o0, o1, k1, k2, k3, Pk.EVL, Pk.EVD, ↓reduceIte, Nat.reduceAdd, Nat.reduceLeDiff, Pk.TY_Mp, Pk.TY_Inc]
        try simp
def firstM : Mp:=⟨1,⟨⟨true,8,0⟩,⟨true,8,1⟩,⟨true,8,2⟩,⟨true,8,3⟩,⟨true,8,0⟩⟩⟩
theorem mfirst_at : evF C F_q0v [] [] = some (.d (.agg firstM.cs),[]):=by
  rw [zaa (rfl : C F_q0v = some a_q0v) _ _ rfl]
  simp +decide only [c_q0v,Pk.EVL,Pk.EVD,↓reduceIte,Nat.reduceAdd,Pk.TY_Mp]
  simp only [Option.bind_assoc]
  refine zaf (zac (fun i T H => lk T 0 = .ptr 0 0 ∧ lk T 1 = .ptr 1 0 ∧ lk T 4 = .d (.i .i64 (i : Nat)) ∧
      H = [.box (.d (.agg Mp.zero.cs)),.box (.d (.agg (Mp.cs ⟨1,⟨if 0 < i then firstM.osds.a0 else ⟨false,0,0⟩,if 1 < i then firstM.osds.a1 else ⟨false,0,0⟩,if 2 < i then firstM.osds.a2 else ⟨false,0,0⟩,if 3 < i then firstM.osds.a3 else ⟨false,0,0⟩,if 4 < i then firstM.osds.a4 else ⟨false,0,0⟩⟩⟩)))])
    (fun e T H => e = .exit 0 ∧ lk T 0 = .ptr 0 0 ∧ lk T 1 = .ptr 1 0 ∧ H = [.box (.d (.agg Mp.zero.cs)),.box (.d (.agg firstM.cs))]) 5 ?_ ?_ 5 0 _ _ (by omega) ⟨rfl,rfl,rfl,rfl⟩) ?_
  · rintro i T H hi ⟨h0, h1, h4, rfl⟩
    obtain rfl | rfl | rfl | rfl | rfl : i = 0 ∨ i = 1 ∨ i = 2 ∨ i = 3 ∨ i = 4:=by omega
    all_goals
      simp +decide only [zqv,zps,h0,h1,h4,Pk.EVL,Pk.EVD,↓reduceIte,Nat.reduceAdd,Nat.reduceMul,Pk.TY_Osd]
      exact ⟨_,_,_,rfl,.inl ⟨rfl,rfl,rfl,rfl,rfl⟩⟩
  · rintro T H ⟨h0, h1, h4, rfl⟩
    simp +decide only [zqv,zps,h0,h1,h4,Pk.EVL,Pk.EVD,↓reduceIte,Nat.reduceAdd]
    exact ⟨_,_,_,rfl,by simp,rfl,rfl,rfl,rfl⟩
  rintro e T H ⟨rfl,h0,h1,rfl⟩
  simp +decide only [h0,h1,Pk.EVL,Pk.EVD,↓reduceIte,Nat.reduceAdd,Pk.TY_Mp]
end Go.Proofs.YthlpognahlnaaaaGreat

namespace Go.Proofs.YthlpognahlnaaaaGreat
open Pv Go Pk
set_option maxRecDepth 10000
set_option maxHeartbeats 2000000
theorem zro (A B : List Int) (hA : A.length ≤ 1000) : evF C F_q49 [.d (.sl (A.map fun x => .i .i64 x)),.d (.sl (B.map fun x => .i .i64 x))] [] = some (.d (.b (decide (A = B))),[]):=by
 rw [zaa (rfl : C F_q49 = some a_q49) _ _ rfl]
 by_cases hl : A.length = B.length
 case neg =>
  have hne : (((A.length : Nat) : Int) != ((B.length : Nat) : Int)) = true:=by simp; omega
  have hAB : decide (A = B) = false:=decide_eq_false fun h => hl (by rw [h])
  simp +decide only [c_q49,hne,hAB,Pk.EVL,Pk.EVD,↓reduceIte,Nat.reduceAdd]
 have hne : (((A.length : Nat) : Int) != ((B.length : Nat) : Int)) = false:=by simp; omega
 simp +decide only [c_q49,hne,thaws,Pk.EVL,Pk.EVD,↓reduceIte,Nat.reduceAdd]
 simp only [Option.bind_assoc]
 refine zaf (zac (fun i T H => lk T 0 = .d (.sl (A.map fun x => .i .i64 x)) ∧ lk T 1 = .d (.sl (B.map fun x => .i .i64 x)) ∧ lk T 12 = .d (.i .i64 (A.length : Nat)) ∧ lk T 13 = .d (.i .i64 (i : Nat)) ∧ H = [] ∧ A.take i = B.take i)
  (fun e T H => H = [] ∧ ((e = .exit 0 ∧ A = B) ∨ (e = .ret ∧ A ≠ B ∧ lk T 4 = .d (.b false)))) A.length ?_ ?_ A.length 0 _ _ (by omega) ⟨rfl,rfl,rfl,rfl,rfl,rfl⟩) ?_
 ·rintro i T H hi ⟨h0, h1, h2, h5, rfl, hab⟩
  have hd : decide ((i : Int) < ((A.length : Nat) : Int)) = true:=by simp; omega
  have hw : IntKind.i64.wrap ((i : Int) + 1) = ((i + 1 : Nat) : Int):=wi64 (by omega)
  have b0 : (0 ≤ (i : Int)) = True:=by simp
  obtain ⟨a,ha⟩ : ∃ a,A[i]? = some a:=⟨A[i]'hi,List.getElem?_eq_getElem _⟩
  obtain ⟨b,hb⟩ : ∃ b,B[i]? = some b:=⟨B[i]'(by omega),List.getElem?_eq_getElem _⟩
  have hx:=zae (fun x : Int => DV.i .i64 x) ha
  have hy:=zae (fun x : Int => DV.i .i64 x) hb
  have hlen : (A.map fun x : Int => DV.i .i64 x).length = A.length:=List.length_map _
  by_cases c : a = b
  ·have hcc : (a != b) = false := by simp [c]
   simp +decide only [zkx,zk5,h0,h1,h2,h5,hd,hw,b0,hx,hy,hcc,Pk.EVL,Pk.EVD,↓reduceIte]
   exact ⟨_,_,_,rfl,.inl ⟨rfl,rfl,rfl,rfl,rfl,rfl,by rw [zag ha,zag hb,hab,c]⟩⟩
  ·have hcc : (a != b) = true := by simp [c]
   simp +decide only [zkx,zk5,h0,h1,h2,h5,hd,b0,hx,hy,hcc,Pk.EVL,Pk.EVD,↓reduceIte]
   refine ⟨_,_,_,rfl,.inr ⟨by simp,rfl,.inr ⟨rfl,fun h => c ?_,rfl⟩⟩⟩
   rw [h,hb] at ha
   exact (Option.some.inj ha).symm
 ·rintro T H ⟨h0, h1, h2, h5, rfl, hab⟩
  have hd : decide (((A.length : Nat) : Int) < ((A.length : Nat) : Int)) = false:=by simp
  simp +decide only [zkx,zk5,h0,h1,h2,h5,Pk.EVL,Pk.EVD,↓reduceIte]
  refine ⟨_,_,_,rfl,by simp,rfl,.inl ⟨rfl,?_⟩⟩
  rwa [List.take_length,hl,List.take_length] at hab
 rintro e T H ⟨rfl,⟨rfl,h⟩ | ⟨rfl,h,h4⟩⟩
 ·have hAB : decide (A = B) = true := decide_eq_true h
  simp +decide only [hAB,Pk.EVL,Pk.EVD,↓reduceIte]
 ·have hAB : decide (A = B) = false := decide_eq_false h
  simp +decide only [hAB,h4,Pk.EVL,Pk.EVD,↓reduceIte]
theorem same3_at (A B : List Int) (hA : A.length ≤ 1000) : evF C F_q2b [.d (.sl (A.map fun x => .i .i64 x)),.d (.sl (B.map fun x => .i .i64 x))] [] = some (.d (.b (decide (A = B))),[]):=by
 rw [zaa (rfl : C F_q2b = some a_q2b) _ _ rfl]
 by_cases hl : A.length = B.length
 case neg =>
  have hne : (((A.length : Nat) : Int) != ((B.length : Nat) : Int)) = true:=by simp; omega
  have hAB : decide (A = B) = false:=decide_eq_false fun h => hl (by rw [h])
  simp +decide only [c_q2b,hne,hAB,Pk.EVL,Pk.EVD,↓reduceIte,Nat.reduceAdd]
 have hne : (((A.length : Nat) : Int) != ((B.length : Nat) : Int)) = false:=by simp; omega
 simp +decide only [c_q2b,hne,thaws,Pk.EVL,Pk.EVD,↓reduceIte,Nat.reduceAdd]
 simp only [Option.bind_assoc]
 refine zaf (zac (fun i T H => lk T 0 = .d (.sl (A.map fun x => .i .i64 x)) ∧ lk T 1 = .d (.sl (B.map fun x => .i .i64 x)) ∧ lk T 5 = .d (.i .i64 (i : Nat)) ∧ H = [] ∧ A.take i = B.take i)
  (fun e T H => H = [] ∧ ((e = .exit 0 ∧ A = B) ∨ (e = .ret ∧ A ≠ B ∧ lk T 4 = .d (.b false)))) A.length ?_ ?_ A.length 0 _ _ (by omega) ⟨rfl,rfl,rfl,rfl,rfl⟩) ?_
 ·rintro i T H hi ⟨h0, h1, h5, rfl, hab⟩
  have hd : decide ((i : Int) < ((A.length : Nat) : Int)) = true:=by simp; omega
  have hw : IntKind.i64.wrap ((i : Int) + 1) = ((i + 1 : Nat) : Int):=wi64 (by omega)
  have b0 : (0 ≤ (i : Int)) = True:=by simp
  obtain ⟨a,ha⟩ : ∃ a,A[i]? = some a:=⟨A[i]'hi,List.getElem?_eq_getElem _⟩
  obtain ⟨b,hb⟩ : ∃ b,B[i]? = some b:=⟨B[i]'(by omega),List.getElem?_eq_getElem _⟩
  have hx:=zae (fun x : Int => DV.i .i64 x) ha
  have hy:=zae (fun x : Int => DV.i .i64 x) hb
  have hlen : (A.map fun x : Int => DV.i .i64 x).length = A.length:=List.length_map _
  by_cases c : a = b
  ·have hcc : (a != b) = false := by simp [c]
   simp +decide only [zky,zl5,h0,h1,h5,hd,hw,b0,hx,hy,hcc,Pk.EVL,Pk.EVD,↓reduceIte]
   exact ⟨_,_,_,rfl,.inl ⟨rfl,rfl,rfl,rfl,rfl,by rw [zag ha,zag hb,hab,c]⟩⟩
  ·have hcc : (a != b) = true := by simp [c]
   simp +decide only [zky,zl5,h0,h1,h5,hd,b0,hx,hy,hcc,Pk.EVL,Pk.EVD,↓reduceIte]
   refine ⟨_,_,_,rfl,.inr ⟨by simp,rfl,.inr ⟨rfl,fun h => c ?_,rfl⟩⟩⟩
   rw [h,hb] at ha
   exact (Option.some.inj ha).symm
 ·rintro T H ⟨h0, h1, h5, rfl, hab⟩
  have hd : decide (((A.length : Nat) : Int) < ((A.length : Nat) : Int)) = false:=by simp
  simp +decide only [zky,zl5,h0,h1,h5,Pk.EVL,Pk.EVD,↓reduceIte]
  refine ⟨_,_,_,rfl,by simp,rfl,.inl ⟨rfl,?_⟩⟩
  rwa [List.take_length,hl,List.take_length] at hab
 rintro e T H ⟨rfl,⟨rfl,h⟩ | ⟨rfl,h,h4⟩⟩
 ·have hAB : decide (A = B) = true := decide_eq_true h
  simp +decide only [hAB,Pk.EVL,Pk.EVD,↓reduceIte]
 ·have hAB : decide (A = B) = false := decide_eq_false h
  simp +decide only [hAB,h4,Pk.EVL,Pk.EVD,↓reduceIte]
/-- The objects of a history: twelve,behind P; Y behind them. -/
def hq (P L Y : Heap) : Heap:=P ++ (L ++ Y)
section
variable {P S : Heap} {p n : Nat} (hP : P.length = p) (hn : p + 12 + S.length = n)
include hP in
theorem hq_at (L Y : Heap) (i : Nat) : (hq P L Y)[p + i]? = (L ++ Y)[i]?:=by
 unfold hq
 rw [List.getElem?_append_right (by omega)]
 congr 1
 omega
include hP in
theorem zif (L Y : Heap) (i : Nat) (y : Ob) (h : i < L.length) : (hq P L Y).set (p + i) y = hq P (L.set i y) Y:=by
 unfold hq
 rw [List.set_append_right _ _ (by omega),show p + i - P.length = i by omega,List.set_append_left _ _ h]
include hP hn in
theorem zfy (a0 a1 a2 a3 a4 a5 a6 a7 a8 a9 a10 a11 : Ob) (X : Heap) : (hq P [a0,a1,a2,a3,a4,a5,a6,a7,a8,a9,a10,a11] (S ++ X)).length = n + X.length:=by
 unfold hq
 simp only [List.length_append,List.length_cons,List.length_nil]
 omega
theorem hq_push (L X Z : Heap) : hq P L (S ++ X) ++ Z = hq P L (S ++ (X ++ Z)):=by simp [hq]
theorem zax (L Z : Heap) : hq P L S ++ Z = hq P L (S ++ Z):=by simp [hq]
include hP hn in
theorem zrd (a0 a1 a2 a3 a4 a5 a6 a7 a8 a9 a10 a11 : Ob) (X : Heap) (j : Nat) : (hq P [a0,a1,a2,a3,a4,a5,a6,a7,a8,a9,a10,a11] (S ++ X))[n + j]? = X[j]?:=by
 rw [show n + j = p + (12 + S.length + j) by omega,hq_at hP,List.getElem?_append_right (by simp; omega),List.getElem?_append_right (by simp; omega)]
 congr 1
 simp
 omega
include hP hn in
theorem zq4 (a0 a1 a2 a3 a4 a5 a6 a7 a8 a9 a10 a11 : Ob) (X : Heap) (j : Nat) (y : Ob) : (hq P [a0,a1,a2,a3,a4,a5,a6,a7,a8,a9,a10,a11] (S ++ X)).set (n + j) y = hq P [a0,a1,a2,a3,a4,a5,a6,a7,a8,a9,a10,a11] (S ++ X.set j y):=by
 unfold hq
 rw [List.set_append_right _ _ (by omega),List.set_append_right _ _ (by simp; omega),List.set_append_right _ _ (by simp; omega)]
 congr 4
 simp
 omega
include hP hn in
theorem zc0 (a0 a1 a2 a3 a4 a5 a6 a7 a8 a9 a10 a11 : Ob) (X : Heap) : List.take n (hq P [a0,a1,a2,a3,a4,a5,a6,a7,a8,a9,a10,a11] (S ++ X)) = hq P [a0,a1,a2,a3,a4,a5,a6,a7,a8,a9,a10,a11] S:=by
 unfold hq
 rw [← List.append_assoc,← List.append_assoc,List.take_left' (by simp; omega)]
 simp
include hP hn in
theorem zfo (a0 a1 a2 a3 a4 a5 a6 a7 a8 a9 a10 a11 : Ob) : (hq P [a0,a1,a2,a3,a4,a5,a6,a7,a8,a9,a10,a11] S).length = n:=by
 have:=zfy hP hn a0 a1 a2 a3 a4 a5 a6 a7 a8 a9 a10 a11 []
 simpa using this
include hP hn in
theorem zc4 (a0 a1 a2 a3 a4 a5 a6 a7 a8 a9 a10 a11 : Ob) : List.take n (hq P [a0,a1,a2,a3,a4,a5,a6,a7,a8,a9,a10,a11] S) = hq P [a0,a1,a2,a3,a4,a5,a6,a7,a8,a9,a10,a11] S:=by
 have:=zc0 hP hn a0 a1 a2 a3 a4 a5 a6 a7 a8 a9 a10 a11 []
 simpa using this
theorem zan (f : Ob → Bool) (L : Heap) : (hq P L S).all f = (P.all f && (L.all f && S.all f)):=by
 unfold hq
 simp only [List.all_append]
theorem hq_all (f : Ob → Bool) (L X : Heap) : (hq P L (S ++ X)).all f = (P.all f && (L.all f && (S.all f && X.all f))):=by
 unfold hq
 simp only [List.all_append]
include hP in
theorem zdt : (∀ (L Y : Heap),(hq P L Y)[p]? = (L ++ Y)[0]?) ∧ (∀ (L Y : Heap),(hq P L Y)[p + 1]? = (L ++ Y)[1]?) ∧ (∀ (L Y : Heap),(hq P L Y)[p + 2]? = (L ++ Y)[2]?) ∧ (∀ (L Y : Heap),(hq P L Y)[p + 5]? = (L ++ Y)[5]?) ∧
  (∀ (L Y : Heap),(hq P L Y)[p + 7]? = (L ++ Y)[7]?) ∧ (∀ (L Y : Heap),(hq P L Y)[p + 9]? = (L ++ Y)[9]?) ∧ (∀ (L Y : Heap),(hq P L Y)[p + 11]? = (L ++ Y)[11]?) :=
 ⟨fun L Y => hq_at hP L Y 0,fun L Y => hq_at hP L Y 1,fun L Y => hq_at hP L Y 2,fun L Y => hq_at hP L Y 5,fun L Y => hq_at hP L Y 7,fun L Y => hq_at hP L Y 9,fun L Y => hq_at hP L Y 11⟩
include hP in
theorem zfe : (∀ (a0 a1 a2 a3 a4 a5 a6 a7 a8 a9 a10 a11 : Ob) (Y : Heap) (y : Ob),(hq P [a0,a1,a2,a3,a4,a5,a6,a7,a8,a9,a10,a11] Y).set (p) y = hq P [y,a1,a2,a3,a4,a5,a6,a7,a8,a9,a10,a11] Y) ∧
  (∀ (a0 a1 a2 a3 a4 a5 a6 a7 a8 a9 a10 a11 : Ob) (Y : Heap) (y : Ob),(hq P [a0,a1,a2,a3,a4,a5,a6,a7,a8,a9,a10,a11] Y).set (p + 1) y = hq P [a0,y,a2,a3,a4,a5,a6,a7,a8,a9,a10,a11] Y) ∧
  (∀ (a0 a1 a2 a3 a4 a5 a6 a7 a8 a9 a10 a11 : Ob) (Y : Heap) (y : Ob),(hq P [a0,a1,a2,a3,a4,a5,a6,a7,a8,a9,a10,a11] Y).set (p + 2) y = hq P [a0,a1,y,a3,a4,a5,a6,a7,a8,a9,a10,a11] Y) ∧
  (∀ (a0 a1 a2 a3 a4 a5 a6 a7 a8 a9 a10 a11 : Ob) (Y : Heap) (y : Ob),(hq P [a0,a1,a2,a3,a4,a5,a6,a7,a8,a9,a10,a11] Y).set (p + 5) y = hq P [a0,a1,a2,a3,a4,y,a6,a7,a8,a9,a10,a11] Y) ∧
  (∀ (a0 a1 a2 a3 a4 a5 a6 a7 a8 a9 a10 a11 : Ob) (Y : Heap) (y : Ob),(hq P [a0,a1,a2,a3,a4,a5,a6,a7,a8,a9,a10,a11] Y).set (p + 7) y = hq P [a0,a1,a2,a3,a4,a5,a6,y,a8,a9,a10,a11] Y) ∧
  (∀ (a0 a1 a2 a3 a4 a5 a6 a7 a8 a9 a10 a11 : Ob) (Y : Heap) (y : Ob),(hq P [a0,a1,a2,a3,a4,a5,a6,a7,a8,a9,a10,a11] Y).set (p + 9) y = hq P [a0,a1,a2,a3,a4,a5,a6,a7,a8,y,a10,a11] Y) ∧
  (∀ (a0 a1 a2 a3 a4 a5 a6 a7 a8 a9 a10 a11 : Ob) (Y : Heap) (y : Ob),(hq P [a0,a1,a2,a3,a4,a5,a6,a7,a8,a9,a10,a11] Y).set (p + 11) y = hq P [a0,a1,a2,a3,a4,a5,a6,a7,a8,a9,a10,y] Y) :=
 ⟨fun _ _ _ _ _ _ _ _ _ _ _ _ Y y => zif hP _ Y 0 y (by simp),fun _ _ _ _ _ _ _ _ _ _ _ _ Y y => zif hP _ Y 1 y (by simp),fun _ _ _ _ _ _ _ _ _ _ _ _ Y y => zif hP _ Y 2 y (by simp),fun _ _ _ _ _ _ _ _ _ _ _ _ Y y => zif hP _ Y 5 y (by simp),fun _ _ _ _ _ _ _ _ _ _ _ _ Y y => zif hP _ Y 7 y (by simp),fun _ _ _ _ _ _ _ _ _ _ _ _ Y y => zif hP _ Y 9 y (by simp),fun _ _ _ _ _ _ _ _ _ _ _ _ Y y => zif hP _ Y 11 y (by simp)⟩
include hP hn in
theorem zdm : (∀ (a0 a1 a2 a3 a4 a5 a6 a7 a8 a9 a10 a11 : Ob) (X : Heap),(hq P [a0,a1,a2,a3,a4,a5,a6,a7,a8,a9,a10,a11] (S ++ X))[n]? = X[0]?) ∧ (∀ (a0 a1 a2 a3 a4 a5 a6 a7 a8 a9 a10 a11 : Ob) (X : Heap),(hq P [a0,a1,a2,a3,a4,a5,a6,a7,a8,a9,a10,a11] (S ++ X))[n + 1]? = X[1]?) ∧ (∀ (a0 a1 a2 a3 a4 a5 a6 a7 a8 a9 a10 a11 : Ob) (X : Heap),(hq P [a0,a1,a2,a3,a4,a5,a6,a7,a8,a9,a10,a11] (S ++ X))[n + 2]? = X[2]?) ∧ (∀ (a0 a1 a2 a3 a4 a5 a6 a7 a8 a9 a10 a11 : Ob) (X : Heap),(hq P [a0,a1,a2,a3,a4,a5,a6,a7,a8,a9,a10,a11] (S ++ X))[n + 3]? = X[3]?) ∧
  (∀ (a0 a1 a2 a3 a4 a5 a6 a7 a8 a9 a10 a11 : Ob) (X : Heap) (y : Ob),(hq P [a0,a1,a2,a3,a4,a5,a6,a7,a8,a9,a10,a11] (S ++ X)).set n y = hq P [a0,a1,a2,a3,a4,a5,a6,a7,a8,a9,a10,a11] (S ++ X.set 0 y)) ∧ (∀ (a0 a1 a2 a3 a4 a5 a6 a7 a8 a9 a10 a11 : Ob) (X : Heap) (y : Ob),(hq P [a0,a1,a2,a3,a4,a5,a6,a7,a8,a9,a10,a11] (S ++ X)).set (n + 1) y = hq P [a0,a1,a2,a3,a4,a5,a6,a7,a8,a9,a10,a11] (S ++ X.set 1 y)) ∧ (∀ (a0 a1 a2 a3 a4 a5 a6 a7 a8 a9 a10 a11 : Ob) (X : Heap) (y : Ob),(hq P [a0,a1,a2,a3,a4,a5,a6,a7,a8,a9,a10,a11] (S ++ X)).set (n + 2) y = hq P [a0,a1,a2,a3,a4,a5,a6,a7,a8,a9,a10,a11] (S ++ X.set 2 y)) :=
 ⟨fun _ _ _ _ _ _ _ _ _ _ _ _ X => zrd hP hn _ _ _ _ _ _ _ _ _ _ _ _ X 0,fun _ _ _ _ _ _ _ _ _ _ _ _ X => zrd hP hn _ _ _ _ _ _ _ _ _ _ _ _ X 1,fun _ _ _ _ _ _ _ _ _ _ _ _ X => zrd hP hn _ _ _ _ _ _ _ _ _ _ _ _ X 2,fun _ _ _ _ _ _ _ _ _ _ _ _ X => zrd hP hn _ _ _ _ _ _ _ _ _ _ _ _ X 3,
  fun _ _ _ _ _ _ _ _ _ _ _ _ X y => zq4 hP hn _ _ _ _ _ _ _ _ _ _ _ _ X 0 y,fun _ _ _ _ _ _ _ _ _ _ _ _ X y => zq4 hP hn _ _ _ _ _ _ _ _ _ _ _ _ X 1 y,fun _ _ _ _ _ _ _ _ _ _ _ _ X y => zq4 hP hn _ _ _ _ _ _ _ _ _ _ _ _ X 2 y⟩
end
end Go.Proofs.YthlpognahlnaaaaGreat

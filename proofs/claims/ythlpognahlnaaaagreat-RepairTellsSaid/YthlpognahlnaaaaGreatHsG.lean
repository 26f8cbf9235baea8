/- Readers of a history's intervals. -/
import Derived.Test.YthlpognahlnaaaaGreatPkEvd
import Derived.Test.YthlpognahlnaaaaGreatHsF
import Derived.Test.YthlpognahlnaaaaGreatPkClone
set_option linter.all false
namespace Go.Proofs.YthlpognahlnaaaaGreat
open Pv Go Pk
set_option maxRecDepth 10000
set_option maxHeartbeats 4000000
theorem znm (A : List Int) (hA : A.length ≤ 1000) : evF C F_q42 [.d (.sl (A.map fun x => .i .i64 x))] [] = some (.d (.sl (A.map fun x => .i .i64 x)),[]):=by
 rw [zl8 (rfl : C F_q42 = some (.ext (Pk.cloneD 1)))]
 show (if _ then _ else _) = _
 rw [if_pos]
 refine ⟨by rw [List.length_map]; unfold LIM; omega,?_⟩
 rw [List.all_map,List.all_eq_true]
 intro x _
 rfl
theorem zey (l : List Itv) (hl : l.length ≤ 1000) : evF C F_q41 [.d (.sl (l.map Itv.d))] [] = some (.view 0 l.length 2 0 l.length,[.arr (l.map Itv.d) true]):=by
 rw [zl8 (rfl : C F_q41 = some (.ext (Pk.cloneX 2)))]
 show (if _ then _ else _) = _
 rw [if_pos,List.length_map]
 refine ⟨by rw [List.length_map]; unfold LIM; omega,?_⟩
 rw [List.all_map,List.all_eq_true]
 intro x _
 rfl
def ivOf (s : Hst) (g : Int) : List Itv:=if g = 0 then s.iv.a0 else if g = 1 then s.iv.a1 else if g = 2 then s.iv.a2 else if g = 3 then s.iv.a3 else []
def lastI (l : List Itv) : Itv:=l.getLast?.getD ⟨0,[]⟩
def Grb.frz (q : Grb) (g : Int) : Grb:=if g = 0 then { q with w0:=false } else if g = 1 then { q with w1:=false } else if g = 2 then { q with w2:=false } else if g = 3 then { q with w3:=false } else q
theorem Grb.frz_ok {n : Nat} {q : Grb} (h : q.ok n) (g : Int) : (q.frz g).ok n:=by
 unfold Grb.frz
 split
 ·exact h
 ·split
  ·exact h
  ·split
   ·exact h
   ·split
    ·exact h
    ·exact h
section
variable {P S : Heap} {p n : Nat} (hP : P.length = p) (hn : p + 12 + S.length = n) (hPa : P.all (ltO n) = true) (hSa : S.all (ltO n) = true) {q : Grb} (hg : q.ok n)
include hP hn hPa hSa hg
theorem zpg (s : Hst) (hs : s.ok) (g : Int) (h0 : 0 ≤ g) : evF C F_q0j [.ptr (p + 2) 0,.d (.i .u8 g)] (hq P (hobs p s q) S) = some (.d (.agg (lastI (ivOf s g)).cs),hq P (hobs p s q) S):=by
 have Q0:=zdt hP
 have Q1:=zfe hP
 have Q2:=zdm hP hn
 have ln0:=@zfo _ _ _ _ hP hn
 have ln1:=@zfy _ _ _ _ hP hn
 have tk0:=@zc0 _ _ _ _ hP hn
 have tk1:=@zc4 _ _ _ _ hP hn
 have hg':=hg
 obtain ⟨k0,k1,k2,k3,k4⟩:=hg
 simp only [ltO] at k0 k1 k2 k3 k4
 have b0 : (p < n) = True:=eq_true (by omega)
 have b1 : (p + 1 < n) = True:=eq_true (by omega)
 have b2 : (p + 2 < n) = True:=eq_true (by omega)
 have b5 : (p + 5 < n) = True:=eq_true (by omega)
 have b7 : (p + 7 < n) = True:=eq_true (by omega)
 have b9 : (p + 9 < n) = True:=eq_true (by omega)
 have b11 : (p + 11 < n) = True:=eq_true (by omega)
 have e0 : (n != p) = true:=by simp; omega
 have e1 : (p != n) = true:=by simp; omega
 have e2 : (n != p + 1) = true:=by simp; omega
 have e3 : (p + 1 != n) = true:=by simp; omega
 have e4 : (n != p + 2) = true:=by simp; omega
 have e5 : (p + 2 != n) = true:=by simp; omega
 have e6 : (n != p + 5) = true:=by simp; omega
 have e7 : (p + 5 != n) = true:=by simp; omega
 have e8 : (n != p + 7) = true:=by simp; omega
 have e9 : (p + 7 != n) = true:=by simp; omega
 have e10 : (n != p + 9) = true:=by simp; omega
 have e11 : (p + 9 != n) = true:=by simp; omega
 have e12 : (n != p + 11) = true:=by simp; omega
 have e13 : (p + 11 != n) = true:=by simp; omega
 have e14 : (n + 1 != p) = true:=by simp; omega
 have e15 : (p != n + 1) = true:=by simp; omega
 have e16 : (n + 1 != p + 1) = true:=by simp; omega
 have e17 : (p + 1 != n + 1) = true:=by simp; omega
 have e18 : (n + 1 != p + 2) = true:=by simp; omega
 have e19 : (p + 2 != n + 1) = true:=by simp; omega
 have e20 : (n + 1 != p + 5) = true:=by simp; omega
 have e21 : (p + 5 != n + 1) = true:=by simp; omega
 have e22 : (n + 1 != p + 7) = true:=by simp; omega
 have e23 : (p + 7 != n + 1) = true:=by simp; omega
 have e24 : (n + 1 != p + 9) = true:=by simp; omega
 have e25 : (p + 9 != n + 1) = true:=by simp; omega
 have e26 : (n + 1 != p + 11) = true:=by simp; omega
 have e27 : (p + 11 != n + 1) = true:=by simp; omega
 have e28 : (n + 2 != p) = true:=by simp; omega
 have e29 : (p != n + 2) = true:=by simp; omega
 have e30 : (n + 2 != p + 1) = true:=by simp; omega
 have e31 : (p + 1 != n + 2) = true:=by simp; omega
 have e32 : (n + 2 != p + 2) = true:=by simp; omega
 have e33 : (p + 2 != n + 2) = true:=by simp; omega
 have e34 : (n + 2 != p + 5) = true:=by simp; omega
 have e35 : (p + 5 != n + 2) = true:=by simp; omega
 have e36 : (n + 2 != p + 7) = true:=by simp; omega
 have e37 : (p + 7 != n + 2) = true:=by simp; omega
 have e38 : (n + 2 != p + 9) = true:=by simp; omega
 have e39 : (p + 9 != n + 2) = true:=by simp; omega
 have e40 : (n + 2 != p + 11) = true:=by simp; omega
 have e41 : (p + 11 != n + 2) = true:=by simp; omega
 have e42 : (n + 1 != n) = true:=by simp
 have e43 : (n != n + 1) = true:=by simp
 obtain ⟨s0,s1,s2,s3⟩:=hs
 rw [zaa (rfl : C F_q0j = some a_q0j) _ _ rfl]
 by_cases c : g ≥ 4
 ·have hc := decide_eq_true c
  have hz : (lastI (ivOf s g)).cs = Itv.zero.cs:=by
   unfold ivOf
   rw [if_neg (by omega),if_neg (by omega),if_neg (by omega),if_neg (by omega)]
   rfl
  rw [hz]
  have hu : upd Itv.zeroA 0 Itv.zeroA = Itv.zeroA:=rfl
  simp +decide only [c_q0j,hobs,hbox,hc,hu,Q2,ln0,ln1,tk0,zax,zan,hPa,hSa,k0,k1,k2,k3,k4,b0,b1,b5,b7,b9,b11,Pk.EVL,Pk.EVD,ltO,↓reduceIte,Nat.reduceAdd,Pk.TY_Itv]
 have hc:=decide_eq_false c
 obtain rfl | rfl | rfl | rfl : g = 0 ∨ g = 1 ∨ g = 2 ∨ g = 3:=by omega
 ·obtain ⟨x, hx, hxd, _, hpos⟩ := zck s0
  have hz : lastI (ivOf s 0) = x:=by show (s.iv.a0.getLast?).getD _ = x; rw [hx]; rfl
  rw [hz]
  have hw1 : IntKind.i64.wrap ((s.iv.a0.length : Int) - 1) = ((s.iv.a0.length - 1 : Nat) : Int):=by rw [wi64 (by have:=s0.2.1; omega)]; omega
  have hb1 : (0 ≤ ((s.iv.a0.length - 1 : Nat) : Int)) = True:=eq_true (by omega)
  have hb2 : (((s.iv.a0.length - 1 : Nat) : Int) < ((s.iv.a0.length : Nat) : Int)) = True:=eq_true (by omega)
  have hu : upd Itv.zeroA 0 (List.map AV.d x.cs) = List.map AV.d x.cs:=rfl
  simp +decide only [c_q0j,hobs,hbox,hw1,hb1,hb2,hxd,hu,List.length_map,Int.toNat_natCast,Q0,Q2,ln0,ln1,tk0,zax,zan,hPa,hSa,k0,k1,k2,k3,k4,b0,b1,b5,b7,b9,b11,Pk.EVL,Pk.EVD,ltO,↓reduceIte,Nat.reduceAdd,Pk.TY_Itv]
 ·obtain ⟨x, hx, hxd, _, hpos⟩ := zck s1
  have hz : lastI (ivOf s 1) = x:=by show (s.iv.a1.getLast?).getD _ = x; rw [hx]; rfl
  rw [hz]
  have hw1 : IntKind.i64.wrap ((s.iv.a1.length : Int) - 1) = ((s.iv.a1.length - 1 : Nat) : Int):=by rw [wi64 (by have:=s1.2.1; omega)]; omega
  have hb1 : (0 ≤ ((s.iv.a1.length - 1 : Nat) : Int)) = True:=eq_true (by omega)
  have hb2 : (((s.iv.a1.length - 1 : Nat) : Int) < ((s.iv.a1.length : Nat) : Int)) = True:=eq_true (by omega)
  have hu : upd Itv.zeroA 0 (List.map AV.d x.cs) = List.map AV.d x.cs:=rfl
  simp +decide only [c_q0j,hobs,hbox,hw1,hb1,hb2,hxd,hu,List.length_map,Int.toNat_natCast,Q0,Q2,ln0,ln1,tk0,zax,zan,hPa,hSa,k0,k1,k2,k3,k4,b0,b1,b5,b7,b9,b11,Pk.EVL,Pk.EVD,ltO,↓reduceIte,Nat.reduceAdd,Pk.TY_Itv]
 ·obtain ⟨x, hx, hxd, _, hpos⟩ := zck s2
  have hz : lastI (ivOf s 2) = x:=by show (s.iv.a2.getLast?).getD _ = x; rw [hx]; rfl
  rw [hz]
  have hw1 : IntKind.i64.wrap ((s.iv.a2.length : Int) - 1) = ((s.iv.a2.length - 1 : Nat) : Int):=by rw [wi64 (by have:=s2.2.1; omega)]; omega
  have hb1 : (0 ≤ ((s.iv.a2.length - 1 : Nat) : Int)) = True:=eq_true (by omega)
  have hb2 : (((s.iv.a2.length - 1 : Nat) : Int) < ((s.iv.a2.length : Nat) : Int)) = True:=eq_true (by omega)
  have hu : upd Itv.zeroA 0 (List.map AV.d x.cs) = List.map AV.d x.cs:=rfl
  simp +decide only [c_q0j,hobs,hbox,hw1,hb1,hb2,hxd,hu,List.length_map,Int.toNat_natCast,Q0,Q2,ln0,ln1,tk0,zax,zan,hPa,hSa,k0,k1,k2,k3,k4,b0,b1,b5,b7,b9,b11,Pk.EVL,Pk.EVD,ltO,↓reduceIte,Nat.reduceAdd,Int.reduceToNat,Pk.TY_Itv]
 ·obtain ⟨x, hx, hxd, _, hpos⟩ := zck s3
  have hz : lastI (ivOf s 3) = x:=by show (s.iv.a3.getLast?).getD _ = x; rw [hx]; rfl
  rw [hz]
  have hw1 : IntKind.i64.wrap ((s.iv.a3.length : Int) - 1) = ((s.iv.a3.length - 1 : Nat) : Int):=by rw [wi64 (by have:=s3.2.1; omega)]; omega
  have hb1 : (0 ≤ ((s.iv.a3.length - 1 : Nat) : Int)) = True:=eq_true (by omega)
  have hb2 : (((s.iv.a3.length - 1 : Nat) : Int) < ((s.iv.a3.length : Nat) : Int)) = True:=eq_true (by omega)
  have hu : upd Itv.zeroA 0 (List.map AV.d x.cs) = List.map AV.d x.cs:=rfl
  simp +decide only [c_q0j,hobs,hbox,hw1,hb1,hb2,hxd,hu,List.length_map,Int.toNat_natCast,Q0,Q2,ln0,ln1,tk0,zax,zan,hPa,hSa,k0,k1,k2,k3,k4,b0,b1,b5,b7,b9,b11,Pk.EVL,Pk.EVD,ltO,↓reduceIte,Nat.reduceAdd,Int.reduceToNat,Pk.TY_Itv]
theorem zjw (s : Hst) (hs : s.ok) (g : Int) (h0 : 0 ≤ g) (ha : (lastI (ivOf s g)).acting.length ≤ 1000) : evF C F_q0f [.ptr (p + 2) 0,.d (.i .u8 g)] (hq P (hobs p s q) S) = some (.d (.sl ((lastI (ivOf s g)).acting.map fun x => .i .i64 x)),hq P (hobs p s q) S):=by
 have hi:=zpg hP hn hPa hSa hg s hs g h0
 have hcl:=znm _ ha
 have Q0:=zdt hP
 have Q1:=zfe hP
 have Q2:=zdm hP hn
 have ln0:=@zfo _ _ _ _ hP hn
 have ln1:=@zfy _ _ _ _ hP hn
 have tk0:=@zc0 _ _ _ _ hP hn
 have tk1:=@zc4 _ _ _ _ hP hn
 have hg':=hg
 obtain ⟨k0,k1,k2,k3,k4⟩:=hg
 simp only [ltO] at k0 k1 k2 k3 k4
 have b0 : (p < n) = True:=eq_true (by omega)
 have b1 : (p + 1 < n) = True:=eq_true (by omega)
 have b2 : (p + 2 < n) = True:=eq_true (by omega)
 have b5 : (p + 5 < n) = True:=eq_true (by omega)
 have b7 : (p + 7 < n) = True:=eq_true (by omega)
 have b9 : (p + 9 < n) = True:=eq_true (by omega)
 have b11 : (p + 11 < n) = True:=eq_true (by omega)
 have e0 : (n != p) = true:=by simp; omega
 have e1 : (p != n) = true:=by simp; omega
 have e2 : (n != p + 1) = true:=by simp; omega
 have e3 : (p + 1 != n) = true:=by simp; omega
 have e4 : (n != p + 2) = true:=by simp; omega
 have e5 : (p + 2 != n) = true:=by simp; omega
 have e6 : (n != p + 5) = true:=by simp; omega
 have e7 : (p + 5 != n) = true:=by simp; omega
 have e8 : (n != p + 7) = true:=by simp; omega
 have e9 : (p + 7 != n) = true:=by simp; omega
 have e10 : (n != p + 9) = true:=by simp; omega
 have e11 : (p + 9 != n) = true:=by simp; omega
 have e12 : (n != p + 11) = true:=by simp; omega
 have e13 : (p + 11 != n) = true:=by simp; omega
 have e14 : (n + 1 != p) = true:=by simp; omega
 have e15 : (p != n + 1) = true:=by simp; omega
 have e16 : (n + 1 != p + 1) = true:=by simp; omega
 have e17 : (p + 1 != n + 1) = true:=by simp; omega
 have e18 : (n + 1 != p + 2) = true:=by simp; omega
 have e19 : (p + 2 != n + 1) = true:=by simp; omega
 have e20 : (n + 1 != p + 5) = true:=by simp; omega
 have e21 : (p + 5 != n + 1) = true:=by simp; omega
 have e22 : (n + 1 != p + 7) = true:=by simp; omega
 have e23 : (p + 7 != n + 1) = true:=by simp; omega
 have e24 : (n + 1 != p + 9) = true:=by simp; omega
 have e25 : (p + 9 != n + 1) = true:=by simp; omega
 have e26 : (n + 1 != p + 11) = true:=by simp; omega
 have e27 : (p + 11 != n + 1) = true:=by simp; omega
 have e28 : (n + 2 != p) = true:=by simp; omega
 have e29 : (p != n + 2) = true:=by simp; omega
 have e30 : (n + 2 != p + 1) = true:=by simp; omega
 have e31 : (p + 1 != n + 2) = true:=by simp; omega
 have e32 : (n + 2 != p + 2) = true:=by simp; omega
 have e33 : (p + 2 != n + 2) = true:=by simp; omega
 have e34 : (n + 2 != p + 5) = true:=by simp; omega
 have e35 : (p + 5 != n + 2) = true:=by simp; omega
 have e36 : (n + 2 != p + 7) = true:=by simp; omega
 have e37 : (p + 7 != n + 2) = true:=by simp; omega
 have e38 : (n + 2 != p + 9) = true:=by simp; omega
 have e39 : (p + 9 != n + 2) = true:=by simp; omega
 have e40 : (n + 2 != p + 11) = true:=by simp; omega
 have e41 : (p + 11 != n + 2) = true:=by simp; omega
 have e42 : (n + 1 != n) = true:=by simp
 have e43 : (n != n + 1) = true:=by simp
 rw [zaa (rfl : C F_q0f = some a_q0f) _ _ rfl]
 have ln : (hq P (hobs p s q) S).length = n:=ln0 _ _ _ _ _ _ _ _ _ _ _ _
 have tk : List.take n (hq P (hobs p s q) S) = hq P (hobs p s q) S:=tk1 _ _ _ _ _ _ _ _ _ _ _ _
 have le : (n ≤ n) = True:=eq_true (Nat.le_refl _)
 generalize hq P (hobs p s q) S = G at *
 simp +decide only [c_q0f,hi,hcl,ln,tk,le,ite_self,Pk.EVL,Pk.EVD,↓reduceIte,Nat.reduceAdd,Pk.TY_Itv]
omit hg in
theorem zbt (a0 a1 a2 a3 a4 a5 a6 a7 a8 a9 a10 a11 : Ob) (hL : List.all [a0,a1,a2,a3,a4,a5,a6,a7,a8,a9,a10,a11] (ltO n) = true) (l : List Itv) (hl : l.length ≤ 1000) (hla : ∀ x ∈ l,x.acting.length ≤ 1000) (T : Tm) (h5 : lk T 5 = .view n l.length 2 0 l.length) (h17 : lk T 17 = .view n l.length 2 0 l.length) (h18 : lk T 18 = .d (.i .i64 (l.length : Nat))) (h19 : lk T 19 = .d (.i .i64 0)) :
  ∃ e T' H',evL C zka zmr (n + 1) T (hq P [a0,a1,a2,a3,a4,a5,a6,a7,a8,a9,a10,a11] (S ++ [.arr (l.map Itv.d) true])) = some (e,T',H') ∧ e = .exit 0 ∧ lk T' 5 = .view n l.length 2 0 l.length ∧ H' = hq P [a0,a1,a2,a3,a4,a5,a6,a7,a8,a9,a10,a11] (S ++ [.arr (l.map Itv.d) true]):=by
 have Q2:=zdm hP hn
 have ln1:=@zfy _ _ _ _ hP hn
 have hn1 : p + 12 + (S ++ [Ob.arr (l.map Itv.d) true]).length = n + 1:=by simp; omega
 have tk2:=@zc0 _ _ _ _ hP hn1
 have hPa1:=zb4 hPa
 have hSa1:=zb4 hSa
 have hL1:=zb4 hL
 have tkb : ∀ X : Heap,List.take (n + 1) (hq P [a0,a1,a2,a3,a4,a5,a6,a7,a8,a9,a10,a11] (S ++ (Ob.arr (l.map Itv.d) true :: X))) = hq P [a0,a1,a2,a3,a4,a5,a6,a7,a8,a9,a10,a11] (S ++ [Ob.arr (l.map Itv.d) true]):=by
  intro X
  have:=tk2 a0 a1 a2 a3 a4 a5 a6 a7 a8 a9 a10 a11 X
  rwa [List.append_assoc,List.singleton_append] at this
 have hall : ∀ X : Heap,(hq P [a0,a1,a2,a3,a4,a5,a6,a7,a8,a9,a10,a11] (S ++ X)).all (ltO (n + 1)) = X.all (ltO (n + 1)):=by
  intro X
  rw [hq_all,hPa1,hL1,hSa1,Bool.true_and,Bool.true_and,Bool.true_and]
 have bn : (n < n + 1) = True:=eq_true (by omega)
 have en : (n + 1 != n) = true:=by simp
 have G0 : ∀ X : Heap,(hq P [a0,a1,a2,a3,a4,a5,a6,a7,a8,a9,a10,a11] (S ++ X))[n]? = X[0]?:=fun X => Q2.1 a0 a1 a2 a3 a4 a5 a6 a7 a8 a9 a10 a11 X
 have G1 : ∀ X : Heap,(hq P [a0,a1,a2,a3,a4,a5,a6,a7,a8,a9,a10,a11] (S ++ X))[n + 1]? = X[1]?:=fun X => Q2.2.1 a0 a1 a2 a3 a4 a5 a6 a7 a8 a9 a10 a11 X
 have G2 : ∀ (X : Heap) (y : Ob),(hq P [a0,a1,a2,a3,a4,a5,a6,a7,a8,a9,a10,a11] (S ++ X)).set n y = hq P [a0,a1,a2,a3,a4,a5,a6,a7,a8,a9,a10,a11] (S ++ X.set 0 y):=fun X y => Q2.2.2.2.2.1 a0 a1 a2 a3 a4 a5 a6 a7 a8 a9 a10 a11 X y
 have G3 : ∀ (X : Heap) (y : Ob),(hq P [a0,a1,a2,a3,a4,a5,a6,a7,a8,a9,a10,a11] (S ++ X)).set (n + 1) y = hq P [a0,a1,a2,a3,a4,a5,a6,a7,a8,a9,a10,a11] (S ++ X.set 1 y):=fun X y => Q2.2.2.2.2.2.1 a0 a1 a2 a3 a4 a5 a6 a7 a8 a9 a10 a11 X y
 have G4 : ∀ X : Heap,(hq P [a0,a1,a2,a3,a4,a5,a6,a7,a8,a9,a10,a11] (S ++ X)).length = n + X.length:=fun X => ln1 a0 a1 a2 a3 a4 a5 a6 a7 a8 a9 a10 a11 X
 refine zac (fun i T H => lk T 5 = .view n l.length 2 0 l.length ∧ lk T 17 = .view n l.length 2 0 l.length ∧ lk T 18 = .d (.i .i64 (l.length : Nat)) ∧ lk T 19 = .d (.i .i64 (i : Nat)) ∧ ∃ J,H = hq P [a0,a1,a2,a3,a4,a5,a6,a7,a8,a9,a10,a11] (S ++ (.arr (l.map Itv.d) true :: J)))
  (fun e T H => e = .exit 0 ∧ lk T 5 = .view n l.length 2 0 l.length ∧ H = hq P [a0,a1,a2,a3,a4,a5,a6,a7,a8,a9,a10,a11] (S ++ [.arr (l.map Itv.d) true])) l.length ?_ ?_ l.length 0 _ _ (by omega) ⟨h5,h17,h18,h19,[],rfl⟩
 ·clear h5 h17 h18 h19
  rintro i T H hi ⟨h5,h17,h18,h19,J,rfl⟩
  obtain ⟨x,hx⟩ : ∃ x,l[i]? = some x:=⟨l[i]'hi,List.getElem?_eq_getElem _⟩
  have hxd:=zae Itv.d hx
  have hcl:=znm x.acting (hla x (List.mem_of_getElem? hx))
  have hd : decide ((i : Int) < ((l.length : Nat) : Int)) = true:=by simp; omega
  have hd' : ((i : Int) < ((l.length : Nat) : Int)) = True:=eq_true (by omega)
  have hw : IntKind.i64.wrap ((i : Int) + 1) = ((i + 1 : Nat) : Int):=wi64 (by omega)
  have b0 : (0 ≤ (i : Int)) = True:=by simp
  have hset : (l.map Itv.d).set i (.agg x.cs) = l.map Itv.d:=by
   refine List.ext_getElem? fun j => ?_
   rw [List.getElem?_set]
   split
   ·rename_i h
    subst h
    rw [if_pos (by rw [List.length_map]; exact hi),hxd]
    rfl
   ·rfl
  have hu : upd Itv.zeroA 0 (List.map AV.d x.cs) = List.map AV.d x.cs:=rfl
  generalize [a0,a1,a2,a3,a4,a5,a6,a7,a8,a9,a10,a11] = L12 at *
  simp +decide only [zka,zmr,h5,h17,h18,h19,hxd,hcl,hd',hw,b0,hset,hu,tkb,hall,bn,G0,G1,G2,G3,G4,hq_push,List.length_map,Int.toNat_natCast,Pk.EVL,Pk.EVD,ltO,↓reduceIte,Nat.reduceAdd,Pk.TY_Itv]
  refine ⟨_,_,_,rfl,?_⟩
  exact .inl ⟨rfl,rfl,rfl,rfl,rfl,_,rfl⟩
 ·clear h5 h17 h18 h19
  rintro T H ⟨h5,h17,h18,h19,J,rfl⟩
  have hd : decide (((l.length : Nat) : Int) < ((l.length : Nat) : Int)) = false:=by simp
  simp +decide only [zka,zmr,h5,h17,h18,h19,tkb,hall,bn,Pk.EVL,Pk.EVD,ltO,↓reduceIte]
  exact ⟨_,_,_,rfl,by simp,rfl,rfl,rfl⟩
theorem zj1 (s : Hst) (hs : s.ok) (g : Int) (h0 : 0 ≤ g ∧ g < 4) : evF C F_q0h [.ptr (p + 2) 0,.d (.i .u8 g)] (hq P (hobs p s q) S) = some (.view n (ivOf s g).length 2 0 (ivOf s g).length,hq P (hobs p s (q.frz g)) (S ++ [.arr ((ivOf s g).map Itv.d) true])):=by
 have Q0:=zdt hP
 have Q1:=zfe hP
 have Q2:=zdm hP hn
 have ln0:=@zfo _ _ _ _ hP hn
 have ln1:=@zfy _ _ _ _ hP hn
 have tk0:=@zc0 _ _ _ _ hP hn
 have tk1:=@zc4 _ _ _ _ hP hn
 have hg':=hg
 obtain ⟨k0,k1,k2,k3,k4⟩:=hg
 simp only [ltO] at k0 k1 k2 k3 k4
 have b0 : (p < n) = True:=eq_true (by omega)
 have b1 : (p + 1 < n) = True:=eq_true (by omega)
 have b2 : (p + 2 < n) = True:=eq_true (by omega)
 have b5 : (p + 5 < n) = True:=eq_true (by omega)
 have b7 : (p + 7 < n) = True:=eq_true (by omega)
 have b9 : (p + 9 < n) = True:=eq_true (by omega)
 have b11 : (p + 11 < n) = True:=eq_true (by omega)
 have e0 : (n != p) = true:=by simp; omega
 have e1 : (p != n) = true:=by simp; omega
 have e2 : (n != p + 1) = true:=by simp; omega
 have e3 : (p + 1 != n) = true:=by simp; omega
 have e4 : (n != p + 2) = true:=by simp; omega
 have e5 : (p + 2 != n) = true:=by simp; omega
 have e6 : (n != p + 5) = true:=by simp; omega
 have e7 : (p + 5 != n) = true:=by simp; omega
 have e8 : (n != p + 7) = true:=by simp; omega
 have e9 : (p + 7 != n) = true:=by simp; omega
 have e10 : (n != p + 9) = true:=by simp; omega
 have e11 : (p + 9 != n) = true:=by simp; omega
 have e12 : (n != p + 11) = true:=by simp; omega
 have e13 : (p + 11 != n) = true:=by simp; omega
 have e14 : (n + 1 != p) = true:=by simp; omega
 have e15 : (p != n + 1) = true:=by simp; omega
 have e16 : (n + 1 != p + 1) = true:=by simp; omega
 have e17 : (p + 1 != n + 1) = true:=by simp; omega
 have e18 : (n + 1 != p + 2) = true:=by simp; omega
 have e19 : (p + 2 != n + 1) = true:=by simp; omega
 have e20 : (n + 1 != p + 5) = true:=by simp; omega
 have e21 : (p + 5 != n + 1) = true:=by simp; omega
 have e22 : (n + 1 != p + 7) = true:=by simp; omega
 have e23 : (p + 7 != n + 1) = true:=by simp; omega
 have e24 : (n + 1 != p + 9) = true:=by simp; omega
 have e25 : (p + 9 != n + 1) = true:=by simp; omega
 have e26 : (n + 1 != p + 11) = true:=by simp; omega
 have e27 : (p + 11 != n + 1) = true:=by simp; omega
 have e28 : (n + 2 != p) = true:=by simp; omega
 have e29 : (p != n + 2) = true:=by simp; omega
 have e30 : (n + 2 != p + 1) = true:=by simp; omega
 have e31 : (p + 1 != n + 2) = true:=by simp; omega
 have e32 : (n + 2 != p + 2) = true:=by simp; omega
 have e33 : (p + 2 != n + 2) = true:=by simp; omega
 have e34 : (n + 2 != p + 5) = true:=by simp; omega
 have e35 : (p + 5 != n + 2) = true:=by simp; omega
 have e36 : (n + 2 != p + 7) = true:=by simp; omega
 have e37 : (p + 7 != n + 2) = true:=by simp; omega
 have e38 : (n + 2 != p + 9) = true:=by simp; omega
 have e39 : (p + 9 != n + 2) = true:=by simp; omega
 have e40 : (n + 2 != p + 11) = true:=by simp; omega
 have e41 : (p + 11 != n + 2) = true:=by simp; omega
 have e42 : (n + 1 != n) = true:=by simp
 have e43 : (n != n + 1) = true:=by simp
 obtain ⟨s0,s1,s2,s3⟩:=hs
 rw [zaa (rfl : C F_q0h = some a_q0h) _ _ rfl]
 have hc : decide (g ≥ 4) = false:=decide_eq_false (by omega)
 have bnn : (n < n) = False:=eq_false (Nat.lt_irrefl n)
 obtain rfl | rfl | rfl | rfl : g = 0 ∨ g = 1 ∨ g = 2 ∨ g = 3:=by omega
 ·have hlp := zbt hP hn hPa hSa (Ob.map .u32 s.ms) (Ob.map .u32 s.xs) (Ob.box (hbox p s)) (q.g0) (q.g1) (Ob.arr (s.iv.a0.map Itv.d) false) (q.g2) (Ob.arr (s.iv.a1.map Itv.d) q.w1) (q.g3) (Ob.arr (s.iv.a2.map Itv.d) q.w2) (q.g4) (Ob.arr (s.iv.a3.map Itv.d) q.w3) (by simp +decide only [hbox, k0, k1, k2, k3, k4, b0, b1, b5, b7, b9, b11, Pk.EVL, Pk.EVD, ltO]) s.iv.a0 s0.2.1 (fun x hx => by have := s0.2.2 x hx; omega)
  have hcv:=zey s.iv.a0 s0.2.1
  have hsub : subL (s.iv.a0.map Itv.d) 0 s.iv.a0.length = s.iv.a0.map Itv.d:=by unfold subL; rw [List.drop_zero]; exact List.take_of_length_le (by simp)
  have htk : List.take s.iv.a0.length (s.iv.a0.map Itv.d) = s.iv.a0.map Itv.d:=List.take_of_length_le (by simp)
  have hw0 : IntKind.i64.wrap 0 = 0:=by decide
  simp only [hbox] at hlp
  simp +decide only [c_q0h,hobs,hbox,hcv,hsub,htk,thaws,List.length_map,Q0,Q1,ln0,ln1,zax,zan,hPa,hSa,k0,k1,k2,k3,k4,b0,b1,b5,b7,b9,b11,Pk.EVL,Pk.EVD,ltO,↓reduceIte,Nat.reduceAdd]
  simp only [Option.bind_assoc]
  refine zaf (hlp _ rfl rfl rfl rfl) ?_
  rintro e T' H' ⟨rfl,h5,rfl⟩
  simp +decide only [h5,bnn,ln1,tk0,zan,hPa,hSa,k0,k1,k2,k3,k4,b0,b1,b5,b7,b9,b11,Pk.EVL,Pk.EVD,ltO,↓reduceIte]
  rfl
 ·have hlp := zbt hP hn hPa hSa (Ob.map .u32 s.ms) (Ob.map .u32 s.xs) (Ob.box (hbox p s)) (q.g0) (q.g1) (Ob.arr (s.iv.a0.map Itv.d) q.w0) (q.g2) (Ob.arr (s.iv.a1.map Itv.d) false) (q.g3) (Ob.arr (s.iv.a2.map Itv.d) q.w2) (q.g4) (Ob.arr (s.iv.a3.map Itv.d) q.w3) (by simp +decide only [hbox, k0, k1, k2, k3, k4, b0, b1, b5, b7, b9, b11, Pk.EVL, Pk.EVD, ltO]) s.iv.a1 s1.2.1 (fun x hx => by have := s1.2.2 x hx; omega)
  have hcv:=zey s.iv.a1 s1.2.1
  have hsub : subL (s.iv.a1.map Itv.d) 0 s.iv.a1.length = s.iv.a1.map Itv.d:=by unfold subL; rw [List.drop_zero]; exact List.take_of_length_le (by simp)
  have htk : List.take s.iv.a1.length (s.iv.a1.map Itv.d) = s.iv.a1.map Itv.d:=List.take_of_length_le (by simp)
  have hw0 : IntKind.i64.wrap 0 = 0:=by decide
  simp only [hbox] at hlp
  simp +decide only [c_q0h,hobs,hbox,hcv,hsub,htk,thaws,List.length_map,Q0,Q1,ln0,ln1,zax,zan,hPa,hSa,k0,k1,k2,k3,k4,b0,b1,b5,b7,b9,b11,Pk.EVL,Pk.EVD,ltO,↓reduceIte,Nat.reduceAdd]
  simp only [Option.bind_assoc]
  refine zaf (hlp _ rfl rfl rfl rfl) ?_
  rintro e T' H' ⟨rfl,h5,rfl⟩
  simp +decide only [h5,bnn,ln1,tk0,zan,hPa,hSa,k0,k1,k2,k3,k4,b0,b1,b5,b7,b9,b11,Pk.EVL,Pk.EVD,ltO,↓reduceIte]
  rfl
 ·have hlp := zbt hP hn hPa hSa (Ob.map .u32 s.ms) (Ob.map .u32 s.xs) (Ob.box (hbox p s)) (q.g0) (q.g1) (Ob.arr (s.iv.a0.map Itv.d) q.w0) (q.g2) (Ob.arr (s.iv.a1.map Itv.d) q.w1) (q.g3) (Ob.arr (s.iv.a2.map Itv.d) false) (q.g4) (Ob.arr (s.iv.a3.map Itv.d) q.w3) (by simp +decide only [hbox, k0, k1, k2, k3, k4, b0, b1, b5, b7, b9, b11, Pk.EVL, Pk.EVD, ltO]) s.iv.a2 s2.2.1 (fun x hx => by have := s2.2.2 x hx; omega)
  have hcv:=zey s.iv.a2 s2.2.1
  have hsub : subL (s.iv.a2.map Itv.d) 0 s.iv.a2.length = s.iv.a2.map Itv.d:=by unfold subL; rw [List.drop_zero]; exact List.take_of_length_le (by simp)
  have htk : List.take s.iv.a2.length (s.iv.a2.map Itv.d) = s.iv.a2.map Itv.d:=List.take_of_length_le (by simp)
  have hw0 : IntKind.i64.wrap 0 = 0:=by decide
  simp only [hbox] at hlp
  simp +decide only [c_q0h,hobs,hbox,hcv,hsub,htk,thaws,List.length_map,Q0,Q1,ln0,ln1,zax,zan,hPa,hSa,k0,k1,k2,k3,k4,b0,b1,b5,b7,b9,b11,Pk.EVL,Pk.EVD,ltO,↓reduceIte,Nat.reduceAdd,Int.reduceToNat]
  simp only [Option.bind_assoc]
  refine zaf (hlp _ rfl rfl rfl rfl) ?_
  rintro e T' H' ⟨rfl,h5,rfl⟩
  simp +decide only [h5,bnn,ln1,tk0,zan,hPa,hSa,k0,k1,k2,k3,k4,b0,b1,b5,b7,b9,b11,Pk.EVL,Pk.EVD,ltO,↓reduceIte]
  rfl
 ·have hlp := zbt hP hn hPa hSa (Ob.map .u32 s.ms) (Ob.map .u32 s.xs) (Ob.box (hbox p s)) (q.g0) (q.g1) (Ob.arr (s.iv.a0.map Itv.d) q.w0) (q.g2) (Ob.arr (s.iv.a1.map Itv.d) q.w1) (q.g3) (Ob.arr (s.iv.a2.map Itv.d) q.w2) (q.g4) (Ob.arr (s.iv.a3.map Itv.d) false) (by simp +decide only [hbox, k0, k1, k2, k3, k4, b0, b1, b5, b7, b9, b11, Pk.EVL, Pk.EVD, ltO]) s.iv.a3 s3.2.1 (fun x hx => by have := s3.2.2 x hx; omega)
  have hcv:=zey s.iv.a3 s3.2.1
  have hsub : subL (s.iv.a3.map Itv.d) 0 s.iv.a3.length = s.iv.a3.map Itv.d:=by unfold subL; rw [List.drop_zero]; exact List.take_of_length_le (by simp)
  have htk : List.take s.iv.a3.length (s.iv.a3.map Itv.d) = s.iv.a3.map Itv.d:=List.take_of_length_le (by simp)
  have hw0 : IntKind.i64.wrap 0 = 0:=by decide
  simp only [hbox] at hlp
  simp +decide only [c_q0h,hobs,hbox,hcv,hsub,htk,thaws,List.length_map,Q0,Q1,ln0,ln1,zax,zan,hPa,hSa,k0,k1,k2,k3,k4,b0,b1,b5,b7,b9,b11,Pk.EVL,Pk.EVD,ltO,↓reduceIte,Nat.reduceAdd,Int.reduceToNat]
  simp only [Option.bind_assoc]
  refine zaf (hlp _ rfl rfl rfl rfl) ?_
  rintro e T' H' ⟨rfl,h5,rfl⟩
  simp +decide only [h5,bnn,ln1,tk0,zan,hPa,hSa,k0,k1,k2,k3,k4,b0,b1,b5,b7,b9,b11,Pk.EVL,Pk.EVD,ltO,↓reduceIte]
  rfl
end
end Go.Proofs.YthlpognahlnaaaaGreat

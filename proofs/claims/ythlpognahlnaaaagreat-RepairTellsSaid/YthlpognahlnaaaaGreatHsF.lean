/- A history by the increments that were taken (plain). / A new history; an increment added. / Functions of a history: New,Add,Last,Map,Inc. -/
import Derived.Test.YthlpognahlnaaaaGreatHsC
import Derived.Test.YthlpognahlnaaaaGreatPkEvd
set_option linter.all false
namespace Go.Proofs.YthlpognahlnaaaaGreat
open Pv Go Pk
set_option maxRecDepth 10000
set_option maxHeartbeats 2000000
theorem zap {α : Type} {M : List α → Prop} (h0 : M []) (hs : ∀ l x,M l → M (l ++ [x])) : ∀ l,M l:=by
 have key : ∀ l : List α,M l.reverse:=by
  intro l
  induction l with
  | nil => exact h0
  | cons x r ih => rw [List.reverse_cons]; exact hs _ _ ih
 intro l
 have:=key l.reverse
 rwa [List.reverse_reverse] at this
theorem getM_setM (kvs : List (Int × DV)) (n : Int) (v : DV) (e : Int) : getM (setM kvs n v) e = if e = n then some v else getM kvs e:=by
 induction kvs with
 | nil => simp only [setM,getM]
 | cons p r ih =>
  obtain ⟨j,u⟩:=p
  simp only [setM]
  by_cases h : n = j
  ·rw [if_pos h]
   subst h
   simp only [getM]
   by_cases h2 : e = n
   ·rw [if_pos h2,if_pos h2]
   ·rw [if_neg h2,if_neg h2,if_neg h2]
  ·rw [if_neg h]
   simp only [getM,ih]
   by_cases h2 : e = j
   ·rw [if_pos h2,if_pos h2,if_neg (by omega)]
   ·rw [if_neg h2,if_neg h2]
def mapAt (l : List Inc) : Mp:=l.foldl nextM firstM
theorem zb6 (l : List Inc) (x : Inc) : mapAt (l ++ [x]) = nextM (mapAt l) x:=by unfold mapAt; rw [List.foldl_append]; rfl
theorem za8 (l : List Inc) : (mapAt l).epoch = (l.length : Int) + 1:=by
 refine zap (M:=fun l => (mapAt l).epoch = (l.length : Int) + 1) rfl ?_ l
 intro l x h
 rw [zb6]
 show (mapAt l).epoch + 1 = _
 rw [h,List.length_append]
 simp
def goodI (l : List Inc) : Prop:=l.length ≤ 59 ∧ ∀ x ∈ l,isInc x = true ∧ 0 ≤ x.osd
theorem zdq {l : List Inc} {x : Inc} (h : goodI (l ++ [x])) : goodI l:=⟨by have:=h.1; simp at this; omega,fun y hy => h.2 y (by simp [hy])⟩
def okO (o : Pk.Osd) : Bool:=Osd.ok ⟨o.up,o.weight,o.host⟩
theorem isMp_iff (m : Mp) : isMp m = (okO m.osds.a0 && (okO m.osds.a1 && (okO m.osds.a2 && (okO m.osds.a3 && okO m.osds.a4))) && (decide (m.epoch ≥ 1) && decide (m.epoch ≤ 60))):=by
 unfold isMp isM osL okO
 simp only [List.all_cons,List.all_nil,Bool.and_true]
theorem zd0 {o : Pk.Osd} (h : okO o = true) (b : Bool) : okO { o with up:=b } = true:=h
theorem zct {o : Pk.Osd} (h : okO o = true) {n : Int} (h0 : 0 ≤ n) (h1 : n ≤ 16) : okO { o with weight:=n } = true:=by
 unfold okO Osd.ok at h ⊢
 simp at h ⊢
 omega
theorem next_is {m : Mp} {x : Inc} (hm : isMp m = true) (hx : isInc x = true) (h0 : 0 ≤ x.osd) (he : m.epoch < 60) : isMp (nextM m x) = true:=by
 have h5:=zeq hx
 rw [isMp_iff] at hm ⊢
 simp only [Bool.and_eq_true,decide_eq_true_eq] at hm ⊢
 obtain ⟨⟨m0,m1,m2,m3,m4⟩,e1,e2⟩:=hm
 refine ⟨?_,by show m.epoch + 1 ≥ 1; omega,by show m.epoch + 1 ≤ 60; omega⟩
 obtain h | h | h | h | h : x.osd.toNat = 0 ∨ x.osd.toNat = 1 ∨ x.osd.toNat = 2 ∨ x.osd.toNat = 3 ∨ x.osd.toNat = 4:=by omega
 all_goals
  unfold nextM
  rw [h]
  simp only
  split
  ·exact ⟨by first | exact m0 | exact zd0 m0 _,by first | exact m1 | exact zd0 m1 _,by first | exact m2 | exact zd0 m2 _,by first | exact m3 | exact zd0 m3 _,by first | exact m4 | exact zd0 m4 _⟩
  ·split
   ·exact ⟨by first | exact m0 | exact zd0 m0 _,by first | exact m1 | exact zd0 m1 _,by first | exact m2 | exact zd0 m2 _,by first | exact m3 | exact zd0 m3 _,by first | exact m4 | exact zd0 m4 _⟩
   ·split
    ·rename_i k1 k2 k3
     have hn : 0 ≤ x.n ∧ x.n ≤ 16:=by
      unfold isInc at hx
      simp at k3
      rw [if_neg (by simp [k3]),if_pos (by simp [k3])] at hx
      simp at hx
      omega
     exact ⟨by first | exact m0 | exact zct m0 hn.1 hn.2,by first | exact m1 | exact zct m1 hn.1 hn.2,by first | exact m2 | exact zct m2 hn.1 hn.2,by first | exact m3 | exact zct m3 hn.1 hn.2,by first | exact m4 | exact zct m4 hn.1 hn.2⟩
    ·exact ⟨m0,m1,m2,m3,m4⟩
theorem zgk {l : List Inc} (h : goodI l) : isMp (mapAt l) = true:=by
 revert h
 refine zap (M:=fun l => goodI l → isMp (mapAt l) = true) (fun _ => by decide) ?_ l
 intro l x ih h
 rw [zb6]
 have hx:=h.2 x (by simp)
 refine next_is (ih (zdq h)) hx.1 hx.2 ?_
 rw [za8]
 have:=h.1
 simp at this
 omega
/-- The history behind the increments that were taken. -/
def hs0 : Hst:={ last:=1,ms:=[(1,firstM.d)],xs:=[],iv:=⟨[⟨1,actI firstM 0⟩],[⟨1,actI firstM 1⟩],[⟨1,actI firstM 2⟩],[⟨1,actI firstM 3⟩]⟩ }
def stepS (s : Hst) (m : Mp) (x : Inc) : Hst:=laysS { s with xs:=setM s.xs m.epoch x.d } m
def hsGo (p : Hst × Mp) (x : Inc) : Hst × Mp:=(stepS p.1 (nextM p.2 x) x,nextM p.2 x)
def hsP (l : List Inc) : Hst × Mp:=l.foldl hsGo (hs0,firstM)
def hsOf (l : List Inc) : Hst:=(hsP l).1
theorem hsP_map (l : List Inc) : (hsP l).2 = mapAt l:=by
 refine zap (M:=fun l => (hsP l).2 = mapAt l) rfl ?_ l
 intro l x h
 rw [zb6,← h]
 unfold hsP
 rw [List.foldl_append]
 rfl
theorem zdg (l : List Inc) (x : Inc) : hsOf (l ++ [x]) = stepS (hsOf l) (mapAt (l ++ [x])) x:=by
 rw [zb6,← hsP_map l]
 unfold hsOf hsP
 rw [List.foldl_append]
 rfl
theorem zog (l : List Inc) : (hsOf l).last = (l.length : Int) + 1:=by
 refine zap (M:=fun l => (hsOf l).last = (l.length : Int) + 1) rfl ?_ l
 intro l x h
 rw [zdg]
 show (mapAt (l ++ [x])).epoch = _
 exact za8 _
theorem hsOf_ms (l : List Inc) (e : Int) : getM (hsOf l).ms e = if 1 ≤ e ∧ e ≤ (l.length : Int) + 1 then some (mapAt (l.take (e - 1).toNat)).d else none:=by
 refine zap (M:=fun l => getM (hsOf l).ms e = if 1 ≤ e ∧ e ≤ (l.length : Int) + 1 then some (mapAt (l.take (e - 1).toNat)).d else none) ?_ ?_ l
 ·show getM [(1, firstM.d)] e = _
  simp only [getM]
  by_cases h : e = 1
  ·subst h; rfl
  ·rw [if_neg h,if_neg (by simp; omega)]
 ·intro l x ih
  rw [zdg]
  show getM (setM (hsOf l).ms (mapAt (l ++ [x])).epoch (mapAt (l ++ [x])).d) e = _
  rw [getM_setM,za8,ih]
  have hl : ((l ++ [x]).length : Int) = (l.length : Int) + 1:=by simp
  rw [hl]
  by_cases h : e = (l.length : Int) + 1 + 1
  ·rw [if_pos h,if_pos (by omega),List.take_of_length_le (by simp; omega)]
  ·rw [if_neg h]
   by_cases h2 : 1 ≤ e ∧ e ≤ (l.length : Int) + 1
   ·rw [if_pos h2,if_pos (by omega),List.take_append_of_le_length (by omega)]
   ·rw [if_neg h2,if_neg (by omega)]
def okL (k : Nat) (l : List Itv) : Prop:=okI l ∧ l.length ≤ k + 1
theorem zlv {k : Nat} {l : List Itv} (h : okL k l) (hk : k ≤ 900) (e : Int) {a : List Int} (ha : a.length ≤ 3) : okL (k + 1) (ivAdd l e a) :=
 ⟨okI_add h.1 (by have:=h.2; omega) e ha,by have:=znv l e a; have:=h.2; omega⟩
theorem zk2 (a : List Int) (h : a.length ≤ 3) : okI [⟨1,a⟩]:=⟨by simp,by simp,fun x hx => by simp at hx; subst hx; exact h⟩
theorem zeu {l : List Inc} (h : goodI l) : okL l.length (hsOf l).iv.a0 ∧ okL l.length (hsOf l).iv.a1 ∧ okL l.length (hsOf l).iv.a2 ∧ okL l.length (hsOf l).iv.a3:=by
 revert h
 refine zap (M:=fun l => goodI l → okL l.length (hsOf l).iv.a0 ∧ okL l.length (hsOf l).iv.a1 ∧ okL l.length (hsOf l).iv.a2 ∧ okL l.length (hsOf l).iv.a3) ?_ ?_ l
 ·intro _
  exact ⟨⟨zk2 _ (zbe _ _),by simp [hsOf,hsP,hs0]⟩,⟨zk2 _ (zbe _ _),by simp [hsOf,hsP,hs0]⟩,⟨zk2 _ (zbe _ _),by simp [hsOf,hsP,hs0]⟩,⟨zk2 _ (zbe _ _),by simp [hsOf,hsP,hs0]⟩⟩
 ·intro l x ih h
  obtain ⟨i0,i1,i2,i3⟩:=ih (zdq h)
  have hk : l.length ≤ 900:=by have:=(zdq h).1; omega
  rw [zdg,List.length_append]
  exact ⟨zlv i0 hk _ (zbe _ _),zlv i1 hk _ (zbe _ _),zlv i2 hk _ (zbe _ _),zlv i3 hk _ (zbe _ _)⟩
theorem ziv {l : List Inc} (h : goodI l) : (hsOf l).ok:=⟨(zeu h).1.1,(zeu h).2.1.1,(zeu h).2.2.1.1,(zeu h).2.2.2.1⟩
/-- What becomes of the increments when one comes for an epoch,and what is told. -/
def addL (l : List Inc) (e : Int) (x : Inc) : List Inc × Int :=
 if e ≤ (l.length : Int) + 1 then (l,51) else if e > (l.length : Int) + 2 then (l,50) else if isInc x = true ∧ l.length < 59 then (l ++ [x],0) else (l,40)
theorem zoz {l : List Inc} {e : Int} {x : Inc} (h : goodI l) (hx : x.ok) : goodI (addL l e x).1:=by
 unfold addL
 split
 ·exact h
 ·split
  ·exact h
  ·split
   ·rename_i hc
    refine ⟨by simp; omega,fun y hy => ?_⟩
    rcases List.mem_append.1 hy with hy | hy
    ·exact h.2 y hy
    ·simp at hy
     subst hy
     exact ⟨hc.1,by simp only [Inc.ok] at hx; omega⟩
   ·exact h
theorem zgm : goodI []:=⟨by simp,fun x hx => by simp at hx⟩
end Go.Proofs.YthlpognahlnaaaaGreat

namespace Go.Proofs.YthlpognahlnaaaaGreat
open Pv Go Pk
set_option maxRecDepth 10000
set_option maxHeartbeats 4000000
/-- Objects behind P. -/
def hr (P L : Heap) : Heap:=P ++ L
section
variable {P : Heap} {p : Nat} (hP : P.length = p)
include hP in
theorem hr_at (L : Heap) (i : Nat) : (hr P L)[p + i]? = L[i]?:=by
 unfold hr
 rw [List.getElem?_append_right (by omega)]
 congr 1
 omega
include hP in
theorem zbm (L : Heap) : (hr P L)[p]? = L[0]?:=hr_at hP L 0
include hP in
theorem zb2 (L : Heap) (i : Nat) (y : Ob) : (hr P L).set (p + i) y = hr P (L.set i y):=by
 unfold hr
 rw [List.set_append_right _ _ (by omega),show p + i - P.length = i by omega]
include hP in
theorem zbc (L : Heap) (y : Ob) : (hr P L).set p y = hr P (L.set 0 y):=zb2 hP L 0 y
include hP in
theorem zbb (L : Heap) : (hr P L).length = p + L.length:=by
 unfold hr
 rw [List.length_append,hP]
theorem zao (L Z : Heap) : hr P L ++ Z = hr P (L ++ Z):=by simp [hr]
include hP in
theorem za9 (L : Heap) (i : Nat) : List.take (p + i) (hr P L) = hr P (L.take i):=by
 unfold hr
 rw [List.take_append,List.take_of_length_le (by omega),show p + i - P.length = i by omega]
theorem zaw (f : Ob → Bool) (L : Heap) : (hr P L).all f = (P.all f && L.all f):=by
 unfold hr
 rw [List.all_append]
end
def grb0 : Grb:={ g0:=.box (.d (.agg firstM.cs)),g1:=.arr [Itv.d ⟨1,actI firstM 0⟩] true,g2:=.arr [Itv.d ⟨1,actI firstM 1⟩] true,g3:=.arr [Itv.d ⟨1,actI firstM 2⟩] true,g4:=.arr [Itv.d ⟨1,actI firstM 3⟩] true,w0:=true,w1:=true,w2:=true,w3:=true }
theorem grb0_ok (n : Nat) : grb0.ok n:=⟨rfl,rfl,rfl,rfl,rfl⟩
theorem lays_new {P : Heap} {p : Nat} (hP : P.length = p) : evF C F_q0k [.ptr (p + 2) 0,.d (.agg firstM.cs)] (hr P [.map .u32 [],.map .u32 [],.box (.agg [.mp p,.mp (p + 1),.d (.i .u32 0),.nilS,.nilS,.nilS,.nilS])]) = some (.tup [],hq P (hobs p hs0 grb0) []):=by
 have g:=hr_at hP
 have g0:=zbm hP
 have st:=zb2 hP
 have st0:=zbc hP
 have ln:=zbb hP
 have tk:=za9 hP
 have A0:=zbw firstM 0
 have A1:=zbw firstM 1
 have A2:=zbw firstM 2
 have A3:=zbw firstM 3
 have u0 : IntKind.u8.wrap 0 = 0:=by decide
 have u1 : IntKind.u8.wrap 1 = 1:=by decide
 have u2 : IntKind.u8.wrap 2 = 2:=by decide
 have u3 : IntKind.u8.wrap 3 = 3:=by decide
 have i1 : IntKind.i64.wrap 1 = 1:=by decide
 have i0' : IntKind.i64.wrap (0 + 1) = 1:=by decide
 have i1' : IntKind.i64.wrap (1 + 1) = 2:=by decide
 have i2' : IntKind.i64.wrap (2 + 1) = 3:=by decide
 have i3' : IntKind.i64.wrap (3 + 1) = 4:=by decide
 have zU : ∀ v : Int,upd Itv.zeroA 0 [.d (.i .u32 v)] = [.d (.i .u32 v),.nilS]:=fun _ => rfl
 have zV : ∀ x y z : AV,upd [x,y] 1 [z] = [x,z]:=fun _ _ _ => rfl
 have hf : firstM.epoch = 1:=rfl
 have l1 : (1 ≤ LIM) = True:=eq_true (by decide)
 have e0 : ((0 : Int) == 0) = true:=rfl
 rw [zaa (rfl : C F_q0k = some a_q0k) _ _ rfl]
 simp +decide only [c_q0k,g,g0,st,st0,ln,zao,setM,thaws,Pk.EVL,Pk.EVD,↓reduceIte,Nat.reduceAdd,Nat.reduceLeDiff,Pk.TY_Mp]
 rw [zam]
 simp +decide only [zcd,zca,g,st,ln,tk,zao,zaw,A0,u0,i0',zU,zV,hf,e0,ite_self,Nat.add_lt_add_iff_left,Pk.EVL,Pk.EVD,↓reduceIte,Nat.reduceAdd,Nat.reduceLeDiff,Pk.TY_Mp,Pk.TY_Itv]
 rw [zam]
 simp +decide only [g,st,ln,tk,zao,zaw,A1,u1,i1',zU,zV,hf,e0,Nat.add_lt_add_iff_left,Pk.EVL,Pk.EVD,↓reduceIte,Nat.reduceAdd,Nat.reduceLeDiff,Pk.TY_Mp,Pk.TY_Itv]
 rw [zam]
 simp +decide only [g,st,ln,tk,zao,zaw,A2,u2,i2',zU,zV,hf,e0,Nat.add_lt_add_iff_left,Pk.EVL,Pk.EVD,↓reduceIte,Nat.reduceAdd,Nat.reduceLeDiff,Int.reduceToNat,Pk.TY_Mp,Pk.TY_Itv]
 rw [zam]
 simp +decide only [g,st,ln,tk,zao,zaw,A3,u3,i3',zU,zV,hf,e0,Nat.add_lt_add_iff_left,Pk.EVL,Pk.EVD,↓reduceIte,Nat.reduceAdd,Int.reduceToNat,Pk.TY_Mp,Pk.TY_Itv]
 rw [zam]
 simp +decide only [ln,tk,zaw,zee,Nat.add_lt_add_iff_left,Pk.EVL,Pk.EVD,↓reduceIte,Nat.reduceAdd]
 rfl
end Go.Proofs.YthlpognahlnaaaaGreat

namespace Go.Proofs.YthlpognahlnaaaaGreat
open Pv Go Pk
set_option maxRecDepth 10000
set_option maxHeartbeats 4000000
theorem hnew_at {P : Heap} {p : Nat} (hP : P.length = p) : evF C F_q0l [] P = some (.ptr (p + 2) 0,hq P (hobs p hs0 grb0) []):=by
 have key : evF C F_q0l [] (hr P []) = some (.ptr (p + 2) 0,hq P (hobs p hs0 grb0) []):=by
  have g:=hr_at hP
  have g0:=zbm hP
  have ln:=zbb hP
  have hl:=lays_new hP
  have bf : (p + 2 < p) = False:=eq_false (by omega)
  have lq : (hq P (hobs p hs0 grb0) []).length = p + 12:=by unfold hq hobs; simp [hP]
  have le3 : (p + 3 ≤ p + 12) = True:=eq_true (by omega)
  rw [zaa (rfl : C F_q0l = some a_q0l) _ _ rfl]
  simp +decide only [c_q0l,ln,zao,mfirst_at,hl,lq,le3,bf,Pk.EVL,Pk.EVD,↓reduceIte,Nat.reduceAdd,Nat.reduceLeDiff]
 rwa [show hr P [] = P by simp [hr]] at key
section
variable {P S : Heap} {p n : Nat} (hP : P.length = p) (hn : p + 12 + S.length = n) (hPa : P.all (ltO n) = true) (hSa : S.all (ltO n) = true) {q : Grb} (hg : q.ok n)
include hP hn hPa hSa hg
theorem hlast_at (s : Hst) : evF C F_q0i [.ptr (p + 2) 0] (hq P (hobs p s q) S) = some (.d (.i .u32 s.last),hq P (hobs p s q) S):=by
 have Q0:=zdt hP
 have Q1:=zfe hP
 have Q2:=zdm hP hn
 have ln0:=@zfo _ _ _ _ hP hn
 have ln1:=@zfy _ _ _ _ hP hn
 have tk0:=@zc0 _ _ _ _ hP hn
 have tk1:=@zc4 _ _ _ _ hP hn
 have hg':=hg
 obtain ⟨k0,k1,k2,k3,k4⟩:=hg
 simp only [ltO] at k0 k1 k2 k3 k4
 have b0 : (p < n) = True:=eq_true (by omega)
 have b1 : (p + 1 < n) = True:=eq_true (by omega)
 have b2 : (p + 2 < n) = True:=eq_true (by omega)
 have b5 : (p + 5 < n) = True:=eq_true (by omega)
 have b7 : (p + 7 < n) = True:=eq_true (by omega)
 have b9 : (p + 9 < n) = True:=eq_true (by omega)
 have b11 : (p + 11 < n) = True:=eq_true (by omega)
 rw [zaa (rfl : C F_q0i = some a_q0i) _ _ rfl]
 simp +decide only [c_q0i,hobs,hbox,Q0,ln0,tk1,zan,hPa,hSa,k0,k1,k2,k3,k4,b0,b1,b5,b7,b9,b11,Pk.EVL,Pk.EVD,ltO,↓reduceIte]
theorem hadd_at (l : List Inc) (hl : goodI l) (e : Int) (he : 0 ≤ e ∧ e < 4294967296) (x : Inc) (hx : x.ok) : evF C F_q0g [.ptr (p + 2) 0,.d (.i .u32 e),.d (.agg x.cs)] (hq P (hobs p (hsOf l) q) S) = some (.d (.i .i64 (addL l e x).2),hq P (hobs p (hsOf (addL l e x).1) q) S):=by
 have Q0:=zdt hP
 have Q1:=zfe hP
 have Q2:=zdm hP hn
 have ln0:=@zfo _ _ _ _ hP hn
 have ln1:=@zfy _ _ _ _ hP hn
 have tk0:=@zc0 _ _ _ _ hP hn
 have tk1:=@zc4 _ _ _ _ hP hn
 have hg':=hg
 obtain ⟨k0,k1,k2,k3,k4⟩:=hg
 simp only [ltO] at k0 k1 k2 k3 k4
 have b0 : (p < n) = True:=eq_true (by omega)
 have b1 : (p + 1 < n) = True:=eq_true (by omega)
 have b2 : (p + 2 < n) = True:=eq_true (by omega)
 have b5 : (p + 5 < n) = True:=eq_true (by omega)
 have b7 : (p + 7 < n) = True:=eq_true (by omega)
 have b9 : (p + 9 < n) = True:=eq_true (by omega)
 have b11 : (p + 11 < n) = True:=eq_true (by omega)
 have e0 : (n != p) = true:=by simp; omega
 have e1 : (p != n) = true:=by simp; omega
 have e2 : (n != p + 1) = true:=by simp; omega
 have e3 : (p + 1 != n) = true:=by simp; omega
 have e4 : (n != p + 2) = true:=by simp; omega
 have e5 : (p + 2 != n) = true:=by simp; omega
 have e6 : (n != p + 5) = true:=by simp; omega
 have e7 : (p + 5 != n) = true:=by simp; omega
 have e8 : (n != p + 7) = true:=by simp; omega
 have e9 : (p + 7 != n) = true:=by simp; omega
 have e10 : (n != p + 9) = true:=by simp; omega
 have e11 : (p + 9 != n) = true:=by simp; omega
 have e12 : (n != p + 11) = true:=by simp; omega
 have e13 : (p + 11 != n) = true:=by simp; omega
 have e14 : (n + 1 != p) = true:=by simp; omega
 have e15 : (p != n + 1) = true:=by simp; omega
 have e16 : (n + 1 != p + 1) = true:=by simp; omega
 have e17 : (p + 1 != n + 1) = true:=by simp; omega
 have e18 : (n + 1 != p + 2) = true:=by simp; omega
 have e19 : (p + 2 != n + 1) = true:=by simp; omega
 have e20 : (n + 1 != p + 5) = true:=by simp; omega
 have e21 : (p + 5 != n + 1) = true:=by simp; omega
 have e22 : (n + 1 != p + 7) = true:=by simp; omega
 have e23 : (p + 7 != n + 1) = true:=by simp; omega
 have e24 : (n + 1 != p + 9) = true:=by simp; omega
 have e25 : (p + 9 != n + 1) = true:=by simp; omega
 have e26 : (n + 1 != p + 11) = true:=by simp; omega
 have e27 : (p + 11 != n + 1) = true:=by simp; omega
 have e28 : (n + 2 != p) = true:=by simp; omega
 have e29 : (p != n + 2) = true:=by simp; omega
 have e30 : (n + 2 != p + 1) = true:=by simp; omega
 have e31 : (p + 1 != n + 2) = true:=by simp; omega
 have e32 : (n + 2 != p + 2) = true:=by simp; omega
 have e33 : (p + 2 != n + 2) = true:=by simp; omega
 have e34 : (n + 2 != p + 5) = true:=by simp; omega
 have e35 : (p + 5 != n + 2) = true:=by simp; omega
 have e36 : (n + 2 != p + 7) = true:=by simp; omega
 have e37 : (p + 7 != n + 2) = true:=by simp; omega
 have e38 : (n + 2 != p + 9) = true:=by simp; omega
 have e39 : (p + 9 != n + 2) = true:=by simp; omega
 have e40 : (n + 2 != p + 11) = true:=by simp; omega
 have e41 : (p + 11 != n + 2) = true:=by simp; omega
 have e42 : (n + 1 != n) = true:=by simp
 have e43 : (n != n + 1) = true:=by simp
 have hlast:=zog l
 have hn59:=hl.1
 have hget : getM (hsOf l).ms ((l.length : Int) + 1) = some (mapAt l).d:=by
  rw [hsOf_ms,if_pos (by omega),List.take_of_length_le (by omega)]
 have hget' : (getM (hsOf l).ms ((l.length : Int) + 1)).getD (.agg Mp.zero.cs) = .agg (mapAt l).cs:=by rw [hget]; rfl
 have hap:=nextOf_at (mapAt l) x hx
 have hep:=za8 l
 rw [zaa (rfl : C F_q0g = some a_q0g) _ _ rfl]
 unfold addL
 by_cases c1 : e ≤ (l.length : Int) + 1
 ·have hc1 := decide_eq_true c1
  rw [if_pos c1]
  simp +decide only [c_q0g,hobs,hbox,hlast,hc1,Q0,ln0,ln1,tk0,zax,zan,hPa,hSa,k0,k1,k2,k3,k4,b0,b1,b5,b7,b9,b11,Pk.EVL,Pk.EVD,ltO,↓reduceIte,Nat.reduceAdd]
 rw [if_neg c1]
 have hc1:=decide_eq_false c1
 have hw : IntKind.u32.wrap (e - ((l.length : Int) + 1)) = e - ((l.length : Int) + 1):=wu32 (by omega)
 by_cases c2 : e > (l.length : Int) + 2
 ·rw [if_pos c2]
  have hc2 : decide (e - ((l.length : Int) + 1) > 1) = true:=decide_eq_true (by omega)
  simp +decide only [c_q0g,hobs,hbox,hlast,hc1,hw,hc2,Q0,ln0,ln1,tk0,zax,zan,hPa,hSa,k0,k1,k2,k3,k4,b0,b1,b5,b7,b9,b11,Pk.EVL,Pk.EVD,ltO,↓reduceIte,Nat.reduceAdd]
 rw [if_neg c2]
 have hc2 : decide (e - ((l.length : Int) + 1) > 1) = false:=decide_eq_false (by omega)
 have hee : e = (l.length : Int) + 2:=by omega
 by_cases c3 : isInc x = true ∧ l.length < 59
 case neg =>
  rw [if_neg c3]
  have hapm : nextOf (mapAt l) x = (Mp.zero,40):=by
   unfold nextOf
   rw [if_neg]
   rw [zgk hl,hep,Bool.true_and,Bool.and_eq_true]
   rintro ⟨h1,h2⟩
   refine c3 ⟨h1,?_⟩
   simp at h2
   omega
  rw [hapm] at hap
  simp +decide only [c_q0g,hobs,hbox,hlast,hc1,hw,hc2,hget',hap,e14,e18,e42,Q0,Q2,ln0,ln1,tk0,zax,zan,List.all_append,hPa,hSa,k0,k1,k2,k3,k4,b0,b1,b5,b7,b9,b11,Pk.EVL,Pk.EVD,ltO,↓reduceIte,Nat.reduceAdd,Pk.TY_Inc,Pk.TY_Mp]
 rw [if_pos c3]
 have hapm : nextOf (mapAt l) x = (nextM (mapAt l) x,0):=by
  unfold nextOf
  rw [if_pos]
  rw [zgk hl,hep,Bool.true_and,Bool.and_eq_true]
  refine ⟨c3.1,?_⟩
  simp
  omega
 rw [hapm] at hap
 have hgood : goodI (l ++ [x]):=by
  have:=zoz (e:=e) hl hx
  unfold addL at this
  rwa [if_neg c1,if_neg c2,if_pos c3] at this
 have hso : Hst.ok { hsOf l with xs:=setM (hsOf l).xs e x.d }:=ziv hl
 have hlay:=lays_at (S:=S ++ [Ob.box (.d (.agg x.cs)),Ob.box (.d (.agg (nextM (mapAt l) x).cs))]) (n:=n + 2) hP (by simp; omega) (zb4 (zb4 hPa)) (by rw [List.all_append,zb4 (zb4 hSa)]; rfl) (Grb.more (Grb.more hg')) _ hso (nextM (mapAt l) x)
 have hres : laysS { hsOf l with xs:=setM (hsOf l).xs e x.d } (nextM (mapAt l) x) = hsOf (l ++ [x]):=by
  rw [zdg,zb6]
  unfold stepS
  rw [show (nextM (mapAt l) x).epoch = e by show (mapAt l).epoch + 1 = e; rw [hep]; omega]
 rw [hres] at hlay
 simp only [hobs,hbox,hlast,Inc.d_eq] at hlay
 have le2 : (n + 2 ≤ n + 2) = True:=eq_true (Nat.le_refl _)
 simp +decide only [c_q0g,hobs,hbox,hlast,hc1,hw,hc2,hget',hap,hlay,le2,e14,e18,e42,Q0,Q1,Q2,ln0,ln1,tk0,zax,zan,List.all_append,hPa,hSa,k0,k1,k2,k3,k4,b0,b1,b5,b7,b9,b11,Pk.EVL,Pk.EVD,ltO,↓reduceIte,Nat.reduceAdd,Pk.TY_Inc,Pk.TY_Mp]
end
end Go.Proofs.YthlpognahlnaaaaGreat

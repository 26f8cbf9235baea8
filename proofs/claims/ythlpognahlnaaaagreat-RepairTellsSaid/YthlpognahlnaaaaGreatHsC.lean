/- A history's state; a map is laid as the last one. -/
import Derived.Test.YthlpognahlnaaaaGreatPkEvd
import Derived.Test.YthlpognahlnaaaaGreatHsB
set_option linter.all false
namespace Go.Proofs.YthlpognahlnaaaaGreat
open Pv Go Pk
set_option maxRecDepth 10000
set_option maxHeartbeats 4000000
/-- A history: its last epoch,the maps and the increments by epochs,each group's intervals. -/
structure Hst where
 last : Int
 ms : List (Int × DV)
 xs : List (Int × DV)
 iv : R4 (List Itv)
/-- What lies between a history's objects,and which rows are not written any more. -/
structure Grb where
 g0 : Ob
 g1 : Ob
 g2 : Ob
 g3 : Ob
 g4 : Ob
 w0 : Bool
 w1 : Bool
 w2 : Bool
 w3 : Bool
def Grb.ok (n : Nat) (q : Grb) : Prop:=ltO n q.g0 = true ∧ ltO n q.g1 = true ∧ ltO n q.g2 = true ∧ ltO n q.g3 = true ∧ ltO n q.g4 = true
def hbox (p : Nat) (s : Hst) : AV:=.agg [.mp p,.mp (p + 1),.d (.i .u32 s.last),.view (p + 5) s.iv.a0.length 2 0 s.iv.a0.length,.view (p + 7) s.iv.a1.length 2 0 s.iv.a1.length,.view (p + 9) s.iv.a2.length 2 0 s.iv.a2.length,.view (p + 11) s.iv.a3.length 2 0 s.iv.a3.length]
def hobs (p : Nat) (s : Hst) (q : Grb) : Heap:=[.map .u32 s.ms,.map .u32 s.xs,.box (hbox p s),q.g0,q.g1,.arr (s.iv.a0.map Itv.d) q.w0,q.g2,.arr (s.iv.a1.map Itv.d) q.w1,q.g3,.arr (s.iv.a2.map Itv.d) q.w2,q.g4,.arr (s.iv.a3.map Itv.d) q.w3]
def actI (m : Mp) (g : Int) : List Int:=(actP m.epoch (osL m) g).map fun n : Nat => (n : Int)
theorem zn6 (m : Mp) (g : Int) : nats (actP m.epoch (osL m) g) = (actI m g).map fun x => .i .i64 x:=by
 rfl
theorem zbe (m : Mp) (g : Int) : (actI m g).length ≤ 3:=by
 unfold actI actP
 rw [List.length_map]
 exact Nat.le_trans (List.length_filter_le _ _) (zhf _ _ _)
theorem zbw (m : Mp) (g : Int) : evF C F_q3c [.d (.agg m.cs),.d (.i .u8 g)] [] = some (.d (.sl ((actI m g).map fun x => .i .i64 x)),[]):=by
 rw [← zn6]
 exact acting_at m.epoch (osL m) rfl g
def ivAdd (l : List Itv) (e : Int) (a : List Int) : List Itv:=if (l.getLast?.map Itv.acting) = some a then l else l ++ [⟨e,a⟩]
theorem ivAdd_ne {l : List Itv} (h : l ≠ []) (e : Int) (a : List Int) : ivAdd l e a ≠ []:=by
 unfold ivAdd
 split
 ·exact h
 ·simp
theorem znv (l : List Itv) (e : Int) (a : List Int) : (ivAdd l e a).length ≤ l.length + 1:=by
 unfold ivAdd
 split
 ·omega
 ·simp
def layI (iv : R4 (List Itv)) (m : Mp) (k : Nat) : R4 (List Itv) :=
 ⟨if 0 < k then ivAdd iv.a0 m.epoch (actI m 0) else iv.a0,if 1 < k then ivAdd iv.a1 m.epoch (actI m 1) else iv.a1,if 2 < k then ivAdd iv.a2 m.epoch (actI m 2) else iv.a2,if 3 < k then ivAdd iv.a3 m.epoch (actI m 3) else iv.a3⟩
def laysS (s : Hst) (m : Mp) : Hst:={ s with last:=m.epoch,ms:=setM s.ms m.epoch m.d,iv:=layI s.iv m 4 }
/-- Rows that are there,none too long,their daemons few. -/
def okI (l : List Itv) : Prop:=l ≠ [] ∧ l.length ≤ 1000 ∧ ∀ x ∈ l,x.acting.length ≤ 3
def Hst.ok (s : Hst) : Prop:=okI s.iv.a0 ∧ okI s.iv.a1 ∧ okI s.iv.a2 ∧ okI s.iv.a3
section
variable {P S : Heap} {p n : Nat} (hP : P.length = p) (hn : p + 12 + S.length = n) (hPa : P.all (ltO n) = true) (hSa : S.all (ltO n) = true) {q : Grb} (hg : q.ok n)
theorem zbj {n : Nat} {o : Ob} (h : ltO n o = true) : ltO (n + 1) o = true:=by
 have key : ∀ {n : Nat},(∀ x : AV,lt n x = true → lt (n + 1) x = true) ∧ (∀ l : List AV,lts n l = true → lts (n + 1) l = true):=by
  intro n
  refine ⟨fun x => ?_,fun l => ?_⟩
  ·exact AV.rec (motive_1:=fun x => lt n x = true → lt (n + 1) x = true) (motive_2:=fun l => lts n l = true → lts (n + 1) l = true)
    (fun _ h => h) (fun h => h) (fun _ h => h) (fun h => h) (fun o g z off len h => by simp [lt] at h ⊢; omega) (fun o off h => by simp [lt] at h ⊢; omega) (fun o h => by simp [lt] at h ⊢; omega)
    (fun _ h => h) (fun o g z i off h => by simp [lt] at h ⊢; omega) (fun f a b ha hb h => by simp [lt] at h ⊢; exact ⟨ha h.1,hb h.2⟩) (fun cs hc h => by simp [lt] at h ⊢; exact hc h) (fun cs hc h => by simp [lt] at h ⊢; exact hc h)
    (fun h => h) (fun h => h) (fun h => h) (fun h => h) (fun x r hx hr h => by simp [lts] at h ⊢; exact ⟨hx h.1,hr h.2⟩) x
  ·induction l with
   | nil => intro _; rfl
   | cons x r ih =>
    intro h
    simp only [lts,Bool.and_eq_true] at h ⊢
    refine ⟨?_,ih h.2⟩
    exact AV.rec (motive_1:=fun x => lt n x = true → lt (n + 1) x = true) (motive_2:=fun l => lts n l = true → lts (n + 1) l = true)
     (fun _ h => h) (fun h => h) (fun _ h => h) (fun h => h) (fun o g z off len h => by simp [lt] at h ⊢; omega) (fun o off h => by simp [lt] at h ⊢; omega) (fun o h => by simp [lt] at h ⊢; omega)
     (fun _ h => h) (fun o g z i off h => by simp [lt] at h ⊢; omega) (fun f a b ha hb h => by simp [lt] at h ⊢; exact ⟨ha h.1,hb h.2⟩) (fun cs hc h => by simp [lt] at h ⊢; exact hc h) (fun cs hc h => by simp [lt] at h ⊢; exact hc h)
     (fun h => h) (fun h => h) (fun h => h) (fun h => h) (fun x r hx hr h => by simp [lts] at h ⊢; exact ⟨hx h.1,hr h.2⟩) x h.1
 cases o with
 | box x => exact key.1 x h
 | arr es wr => rfl
 | map k kvs => rfl
 | hole => rfl
theorem zb4 {n : Nat} {L : Heap} (h : L.all (ltO n) = true) : L.all (ltO (n + 1)) = true:=by
 rw [List.all_eq_true] at h ⊢
 exact fun x hx => zbj (h x hx)
theorem Grb.more {n : Nat} {q : Grb} (h : q.ok n) : q.ok (n + 1):=⟨zbj h.1,zbj h.2.1,zbj h.2.2.1,zbj h.2.2.2.1,zbj h.2.2.2.2⟩
theorem zck {l : List Itv} (h : okI l) : ∃ x,l.getLast? = some x ∧ (l.map Itv.d)[l.length - 1]? = some x.d ∧ x.acting.length ≤ 3 ∧ 0 < l.length:=by
 obtain ⟨h1,_,h3⟩:=h
 cases hl : l.getLast? with
 | none => rw [List.getLast?_eq_none_iff] at hl; exact absurd hl h1
 | some x =>
  refine ⟨x,rfl,?_,h3 x (List.mem_of_getLast? hl),List.length_pos_iff.2 h1⟩
  rw [List.getLast?_eq_getElem?] at hl
  rw [List.getElem?_map,hl]
  rfl
theorem okI_add {l : List Itv} (h : okI l) (hl : l.length ≤ 999) (e : Int) {a : List Int} (ha : a.length ≤ 3) : okI (ivAdd l e a):=by
 refine ⟨ivAdd_ne h.1 e a,by have:=znv l e a; omega,?_⟩
 unfold ivAdd
 split
 ·exact h.2.2
 ·intro x hx
  rcases List.mem_append.1 hx with hx | hx
  ·exact h.2.2 x hx
  ·simp at hx; subst hx; exact ha
include hP hn hPa hSa hg in
theorem lays_at (s : Hst) (hs : s.ok) (m : Mp) : evF C F_q0k [.ptr (p + 2) 0,.d (.agg m.cs)] (hq P (hobs p s q) S) = some (.tup [],hq P (hobs p (laysS s m) q) S):=by
 obtain ⟨hs0,hs1,hs2,hs3⟩:=hs
 have hn1 : p + 12 + (S ++ [Ob.box (.d (.agg m.cs))]).length = n + 1:=by simp; omega
 have Q0:=zdt hP
 have Q1:=zfe hP
 have Q2:=zdm hP hn
 have Q3:=zdm hP hn1
 have ln0:=@zfo _ _ _ _ hP hn
 have ln1:=@zfy _ _ _ _ hP hn
 have tk0:=@zc0 _ _ _ _ hP hn
 have tk1:=@zc4 _ _ _ _ hP hn
 have tk2:=@zc0 _ _ _ _ hP hn1
 have tk3:=@zc4 _ _ _ _ hP hn1
 have hPa1:=zb4 hPa
 have hSa1:=zb4 hSa
 obtain ⟨k0,k1,k2,k3,k4⟩:=hg
 have k0':=zbj k0
 have k1':=zbj k1
 have k2':=zbj k2
 have k3':=zbj k3
 have k4':=zbj k4
 simp only [ltO] at k0 k1 k2 k3 k4 k0' k1' k2' k3' k4'
 have b0 : (p < n) = True:=eq_true (by omega)
 have b1 : (p + 1 < n) = True:=eq_true (by omega)
 have b5 : (p + 5 < n) = True:=eq_true (by omega)
 have b7 : (p + 7 < n) = True:=eq_true (by omega)
 have b9 : (p + 9 < n) = True:=eq_true (by omega)
 have b11 : (p + 11 < n) = True:=eq_true (by omega)
 have b0' : (p < n + 1) = True:=eq_true (by omega)
 have b1' : (p + 1 < n + 1) = True:=eq_true (by omega)
 have b5' : (p + 5 < n + 1) = True:=eq_true (by omega)
 have b7' : (p + 7 < n + 1) = True:=eq_true (by omega)
 have b9' : (p + 9 < n + 1) = True:=eq_true (by omega)
 have b11' : (p + 11 < n + 1) = True:=eq_true (by omega)
 rw [zaa (rfl : C F_q0k = some a_q0k) _ _ rfl]
 simp +decide only [c_q0k,hobs,hbox,Q0,Q1,Q2,ln0,ln1,zax,thaws,Pk.EVL,Pk.EVD,↓reduceIte,Nat.reduceAdd,Nat.reduceLeDiff,Pk.TY_Mp]
 simp only [Option.bind_assoc]
 have tkb : ∀ (a0 a1 a2 a3 a4 a5 a6 a7 a8 a9 a10 a11 : Ob) (X : Heap),List.take (n + 1) (hq P [a0,a1,a2,a3,a4,a5,a6,a7,a8,a9,a10,a11] (S ++ (Ob.box (.d (.agg m.cs)) :: X))) = hq P [a0,a1,a2,a3,a4,a5,a6,a7,a8,a9,a10,a11] (S ++ [Ob.box (.d (.agg m.cs))]):=by
  intro a0 a1 a2 a3 a4 a5 a6 a7 a8 a9 a10 a11 X
  have:=tk2 a0 a1 a2 a3 a4 a5 a6 a7 a8 a9 a10 a11 X
  rwa [List.append_assoc,List.singleton_append] at this
 have b2' : (p + 2 < n + 1) = True:=eq_true (by omega)
 have bn : (n < n + 1) = True:=eq_true (by omega)
 have zU : ∀ v : Int,upd Itv.zeroA 0 [.d (.i .u32 v)] = [.d (.i .u32 v),.nilS]:=fun _ => rfl
 have zV : ∀ x y z : AV,upd [x,y] 1 [z] = [x,z]:=fun _ _ _ => rfl
 refine zaf (zac (fun i T H => lk T 0 = .ptr (p + 2) 0 ∧ lk T 3 = .ptr n 0 ∧ lk T 19 = .d (.i .i64 (i : Nat)) ∧ ∃ J,H = hq P (hobs p ⟨m.epoch,setM s.ms m.epoch m.d,s.xs,layI s.iv m i⟩ q) (S ++ (.box (.d (.agg m.cs)) :: J)))
  (fun e T H => e = .exit 0 ∧ ∃ J,H = hq P (hobs p ⟨m.epoch,setM s.ms m.epoch m.d,s.xs,layI s.iv m 4⟩ q) (S ++ (.box (.d (.agg m.cs)) :: J))) 4 ?_ ?_ 4 0 _ _ (by omega) ⟨rfl,rfl,rfl,[],rfl⟩) ?_
 ·rintro i T H hi ⟨h0, h3, h19, J, rfl⟩
  obtain rfl | rfl | rfl | rfl : i = 0 ∨ i = 1 ∨ i = 2 ∨ i = 3:=by omega
  ·have h19 : lk T 19 = .d (.i .i64 0) := h19
   have hA:=zbw m 0
   obtain ⟨x,hx,hxd,hxl,hpos⟩:=zck hs0
   have ha3:=zbe m 0
   have hu : IntKind.u8.wrap 0 = 0:=by decide
   have hw1 : IntKind.i64.wrap ((s.iv.a0.length : Int) - 1) = ((s.iv.a0.length - 1 : Nat) : Int):=by rw [wi64 (by have:=hs0.2.1; omega)]; omega
   have hw2 : IntKind.i64.wrap (0 + 1) = 1:=by decide
   have hz : (((s.iv.a0.length : Nat) : Int) == 0) = false:=by rw [beq_eq_false_iff_ne]; omega
   have hb1 : (0 ≤ ((s.iv.a0.length - 1 : Nat) : Int)) = True:=eq_true (by omega)
   have hb2 : (((s.iv.a0.length - 1 : Nat) : Int) < ((s.iv.a0.length : Nat) : Int)) = True:=eq_true (by omega)
   have hlim : (s.iv.a0.length + 1 ≤ LIM) = True:=eq_true (by have:=hs0.2.1; unfold LIM; omega)
   have hE:=zro x.acting (actI m 0) (by omega)
   by_cases c : x.acting = actI m 0
   ·have hc := decide_eq_true c
    rw [hc] at hE
    have hadd : ivAdd s.iv.a0 m.epoch (actI m 0) = s.iv.a0:=by unfold ivAdd; rw [hx,if_pos (by rw [← c]; rfl)]
    simp +decide only [zcd,zca,h0,h3,h19,layI,hobs,hbox,Q0,Q2,hPa1,hSa1,k0',k1',k2',k3',k4',b0',b1',b2',b5',b7',b9',b11',bn,hA,hu,hw1,hw2,hz,hb1,hb2,hxd,hE,zan,List.all_append,ln1,tkb,List.length_map,Int.toNat_natCast,Pk.EVL,Pk.EVD,ltO,↓reduceIte,Pk.TY_Mp,Pk.TY_Itv]
    refine ⟨_,_,_,rfl,?_⟩
    refine .inl ⟨rfl,rfl,rfl,by first | rfl | (simp only [lk,Nat.reduceEqDiff,↓reduceIte]; rfl),?_⟩
    exact ⟨[],by simp [hadd]⟩
   ·have hc := decide_eq_false c
    rw [hc] at hE
    have hadd : ivAdd s.iv.a0 m.epoch (actI m 0) = s.iv.a0 ++ [⟨m.epoch,actI m 0⟩]:=by unfold ivAdd; rw [hx,if_neg (by intro h; exact c (Option.some.inj h))]
    simp +decide only [zcd,zca,h0,h3,h19,layI,hobs,hbox,Q0,Q1,Q2,hPa1,hSa1,k0',k1',k2',k3',k4',b0',b1',b2',b5',b7',b9',b11',bn,hA,hu,hw1,hw2,hz,hb1,hb2,hxd,hE,hlim,zU,zV,zax,zan,List.all_append,ln1,tkb,List.length_map,Int.toNat_natCast,Pk.EVL,Pk.EVD,ltO,↓reduceIte,Nat.reduceAdd,Nat.reduceLeDiff,Pk.TY_Mp,Pk.TY_Itv]
    refine ⟨_,_,_,rfl,?_⟩
    refine .inl ⟨rfl,rfl,rfl,by first | rfl | (simp only [lk,Nat.reduceEqDiff,↓reduceIte]; rfl),?_⟩
    exact ⟨_,by simp [hadd]; rfl⟩
  ·have h19 : lk T 19 = .d (.i .i64 1) := h19
   have hA:=zbw m 1
   obtain ⟨x,hx,hxd,hxl,hpos⟩:=zck hs1
   have ha3:=zbe m 1
   have hu : IntKind.u8.wrap 1 = 1:=by decide
   have hw1 : IntKind.i64.wrap ((s.iv.a1.length : Int) - 1) = ((s.iv.a1.length - 1 : Nat) : Int):=by rw [wi64 (by have:=hs1.2.1; omega)]; omega
   have hw2 : IntKind.i64.wrap (1 + 1) = 2:=by decide
   have hz : (((s.iv.a1.length : Nat) : Int) == 0) = false:=by rw [beq_eq_false_iff_ne]; omega
   have hb1 : (0 ≤ ((s.iv.a1.length - 1 : Nat) : Int)) = True:=eq_true (by omega)
   have hb2 : (((s.iv.a1.length - 1 : Nat) : Int) < ((s.iv.a1.length : Nat) : Int)) = True:=eq_true (by omega)
   have hlim : (s.iv.a1.length + 1 ≤ LIM) = True:=eq_true (by have:=hs1.2.1; unfold LIM; omega)
   have hE:=zro x.acting (actI m 1) (by omega)
   by_cases c : x.acting = actI m 1
   ·have hc := decide_eq_true c
    rw [hc] at hE
    have hadd : ivAdd s.iv.a1 m.epoch (actI m 1) = s.iv.a1:=by unfold ivAdd; rw [hx,if_pos (by rw [← c]; rfl)]
    simp +decide only [zcd,zca,h0,h3,h19,layI,hobs,hbox,Q0,Q2,hPa1,hSa1,k0',k1',k2',k3',k4',b0',b1',b2',b5',b7',b9',b11',bn,hA,hu,hw1,hw2,hz,hb1,hb2,hxd,hE,zan,List.all_append,ln1,tkb,List.length_map,Int.toNat_natCast,Pk.EVL,Pk.EVD,ltO,↓reduceIte,Nat.reduceAdd,Pk.TY_Mp,Pk.TY_Itv]
    refine ⟨_,_,_,rfl,?_⟩
    refine .inl ⟨rfl,rfl,rfl,by first | rfl | (simp only [lk,Nat.reduceEqDiff,↓reduceIte]; rfl),?_⟩
    exact ⟨[],by simp [hadd]⟩
   ·have hc := decide_eq_false c
    rw [hc] at hE
    have hadd : ivAdd s.iv.a1 m.epoch (actI m 1) = s.iv.a1 ++ [⟨m.epoch,actI m 1⟩]:=by unfold ivAdd; rw [hx,if_neg (by intro h; exact c (Option.some.inj h))]
    simp +decide only [zcd,zca,h0,h3,h19,layI,hobs,hbox,Q0,Q1,Q2,hPa1,hSa1,k0',k1',k2',k3',k4',b0',b1',b2',b5',b7',b9',b11',bn,hA,hu,hw1,hw2,hz,hb1,hb2,hxd,hE,hlim,zU,zV,zax,zan,List.all_append,ln1,tkb,List.length_map,Int.toNat_natCast,Pk.EVL,Pk.EVD,ltO,↓reduceIte,Nat.reduceAdd,Nat.reduceLeDiff,Pk.TY_Mp,Pk.TY_Itv]
    refine ⟨_,_,_,rfl,?_⟩
    refine .inl ⟨rfl,rfl,rfl,by first | rfl | (simp only [lk,Nat.reduceEqDiff,↓reduceIte]; rfl),?_⟩
    exact ⟨_,by simp [hadd]; rfl⟩
  ·have h19 : lk T 19 = .d (.i .i64 2) := h19
   have hA:=zbw m 2
   obtain ⟨x,hx,hxd,hxl,hpos⟩:=zck hs2
   have ha3:=zbe m 2
   have hu : IntKind.u8.wrap 2 = 2:=by decide
   have hw1 : IntKind.i64.wrap ((s.iv.a2.length : Int) - 1) = ((s.iv.a2.length - 1 : Nat) : Int):=by rw [wi64 (by have:=hs2.2.1; omega)]; omega
   have hw2 : IntKind.i64.wrap (2 + 1) = 3:=by decide
   have hz : (((s.iv.a2.length : Nat) : Int) == 0) = false:=by rw [beq_eq_false_iff_ne]; omega
   have hb1 : (0 ≤ ((s.iv.a2.length - 1 : Nat) : Int)) = True:=eq_true (by omega)
   have hb2 : (((s.iv.a2.length - 1 : Nat) : Int) < ((s.iv.a2.length : Nat) : Int)) = True:=eq_true (by omega)
   have hlim : (s.iv.a2.length + 1 ≤ LIM) = True:=eq_true (by have:=hs2.2.1; unfold LIM; omega)
   have hE:=zro x.acting (actI m 2) (by omega)
   by_cases c : x.acting = actI m 2
   ·have hc := decide_eq_true c
    rw [hc] at hE
    have hadd : ivAdd s.iv.a2 m.epoch (actI m 2) = s.iv.a2:=by unfold ivAdd; rw [hx,if_pos (by rw [← c]; rfl)]
    simp +decide only [zcd,zca,h0,h3,h19,layI,hobs,hbox,Q0,Q2,hPa1,hSa1,k0',k1',k2',k3',k4',b0',b1',b2',b5',b7',b9',b11',bn,hA,hu,hw1,hw2,hz,hb1,hb2,hxd,hE,zan,List.all_append,ln1,tkb,List.length_map,Int.toNat_natCast,Pk.EVL,Pk.EVD,ltO,↓reduceIte,Nat.reduceAdd,Int.reduceToNat,Pk.TY_Mp,Pk.TY_Itv]
    refine ⟨_,_,_,rfl,?_⟩
    refine .inl ⟨rfl,rfl,rfl,by first | rfl | (simp only [lk,Nat.reduceEqDiff,↓reduceIte]; rfl),?_⟩
    exact ⟨[],by simp [hadd]⟩
   ·have hc := decide_eq_false c
    rw [hc] at hE
    have hadd : ivAdd s.iv.a2 m.epoch (actI m 2) = s.iv.a2 ++ [⟨m.epoch,actI m 2⟩]:=by unfold ivAdd; rw [hx,if_neg (by intro h; exact c (Option.some.inj h))]
    simp +decide only [zcd,zca,h0,h3,h19,layI,hobs,hbox,Q0,Q1,Q2,hPa1,hSa1,k0',k1',k2',k3',k4',b0',b1',b2',b5',b7',b9',b11',bn,hA,hu,hw1,hw2,hz,hb1,hb2,hxd,hE,hlim,zU,zV,zax,zan,List.all_append,ln1,tkb,List.length_map,Int.toNat_natCast,Pk.EVL,Pk.EVD,ltO,↓reduceIte,Nat.reduceAdd,Nat.reduceLeDiff,Int.reduceToNat,Pk.TY_Mp,Pk.TY_Itv]
    refine ⟨_,_,_,rfl,?_⟩
    refine .inl ⟨rfl,rfl,rfl,by first | rfl | (simp only [lk,Nat.reduceEqDiff,↓reduceIte]; rfl),?_⟩
    exact ⟨_,by simp [hadd]; rfl⟩
  ·have h19 : lk T 19 = .d (.i .i64 3) := h19
   have hA:=zbw m 3
   obtain ⟨x,hx,hxd,hxl,hpos⟩:=zck hs3
   have ha3:=zbe m 3
   have hu : IntKind.u8.wrap 3 = 3:=by decide
   have hw1 : IntKind.i64.wrap ((s.iv.a3.length : Int) - 1) = ((s.iv.a3.length - 1 : Nat) : Int):=by rw [wi64 (by have:=hs3.2.1; omega)]; omega
   have hw2 : IntKind.i64.wrap (3 + 1) = 4:=by decide
   have hz : (((s.iv.a3.length : Nat) : Int) == 0) = false:=by rw [beq_eq_false_iff_ne]; omega
   have hb1 : (0 ≤ ((s.iv.a3.length - 1 : Nat) : Int)) = True:=eq_true (by omega)
   have hb2 : (((s.iv.a3.length - 1 : Nat) : Int) < ((s.iv.a3.length : Nat) : Int)) = True:=eq_true (by omega)
   have hlim : (s.iv.a3.length + 1 ≤ LIM) = True:=eq_true (by have:=hs3.2.1; unfold LIM; omega)
   have hE:=zro x.acting (actI m 3) (by omega)
   by_cases c : x.acting = actI m 3
   ·have hc := decide_eq_true c
    rw [hc] at hE
    have hadd : ivAdd s.iv.a3 m.epoch (actI m 3) = s.iv.a3:=by unfold ivAdd; rw [hx,if_pos (by rw [← c]; rfl)]
    simp +decide only [zcd,zca,h0,h3,h19,layI,hobs,hbox,Q0,Q2,hPa1,hSa1,k0',k1',k2',k3',k4',b0',b1',b2',b5',b7',b9',b11',bn,hA,hu,hw1,hw2,hz,hb1,hb2,hxd,hE,zan,List.all_append,ln1,tkb,List.length_map,Int.toNat_natCast,Pk.EVL,Pk.EVD,ltO,↓reduceIte,Nat.reduceAdd,Int.reduceToNat,Pk.TY_Mp,Pk.TY_Itv]
    refine ⟨_,_,_,rfl,?_⟩
    refine .inl ⟨rfl,rfl,rfl,by first | rfl | (simp only [lk,Nat.reduceEqDiff,↓reduceIte]; rfl),?_⟩
    exact ⟨[],by simp [hadd]⟩
   ·have hc := decide_eq_false c
    rw [hc] at hE
    have hadd : ivAdd s.iv.a3 m.epoch (actI m 3) = s.iv.a3 ++ [⟨m.epoch,actI m 3⟩]:=by unfold ivAdd; rw [hx,if_neg (by intro h; exact c (Option.some.inj h))]
    simp +decide only [zcd,zca,h0,h3,h19,layI,hobs,hbox,Q0,Q1,Q2,hPa1,hSa1,k0',k1',k2',k3',k4',b0',b1',b2',b5',b7',b9',b11',bn,hA,hu,hw1,hw2,hz,hb1,hb2,hxd,hE,hlim,zU,zV,zax,zan,List.all_append,ln1,tkb,List.length_map,Int.toNat_natCast,Pk.EVL,Pk.EVD,ltO,↓reduceIte,Nat.reduceAdd,Int.reduceToNat,Pk.TY_Mp,Pk.TY_Itv]
    refine ⟨_,_,_,rfl,?_⟩
    refine .inl ⟨rfl,rfl,rfl,by first | rfl | (simp only [lk,Nat.reduceEqDiff,↓reduceIte]; rfl),?_⟩
    exact ⟨_,by simp [hadd]; rfl⟩
 ·rintro T H ⟨h0, h3, h19, J, rfl⟩
  have h19 : lk T 19 = .d (.i .i64 4):=h19
  simp +decide only [zcd,zca,h0,h3,h19,hobs,hbox,hPa1,hSa1,k0',k1',k2',k3',k4',b0',b1',b2',b5',b7',b9',b11',bn,zan,List.all_append,ln1,tkb,Pk.EVL,Pk.EVD,ltO,↓reduceIte,Pk.TY_Mp]
  exact ⟨_,_,_,rfl,by simp,rfl,[],rfl⟩
 rintro e T H ⟨rfl,J,rfl⟩
 simp +decide only [hobs,hbox,laysS,hPa,hSa,k0,k1,k2,k3,k4,b0,b1,b5,b7,b9,b11,zan,tk0,Pk.EVL,Pk.EVD,ltO,↓reduceIte,Pk.TY_Mp]
 try rfl
end
end Go.Proofs.YthlpognahlnaaaaGreat

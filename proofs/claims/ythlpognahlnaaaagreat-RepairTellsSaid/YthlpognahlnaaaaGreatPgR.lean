/- The reference's states: the same as the program's. -/
import Derived.Test.YthlpognahlnaaaaGreatPkEvd
import Derived.Test.YthlpognahlnaaaaGreatPgF
import Derived.Test.YthlpognahlnaaaaGreatObjR
set_option linter.all false
namespace Go.Proofs.YthlpognahlnaaaaGreat
open Pv Go Pk
set_option maxRecDepth 10000
set_option maxHeartbeats 2000000
def refObj (x : Objt) : Bool:=!((!x.there && !decide (x = Objt.zero)) || decide ((x.data.size : Int) > 16)) && allN 3 (fun j => decide ((x.attr.get j).size ≤ 16))
theorem refObj_eq (x : Objt) : refObj x = okObj x:=by
 unfold refObj okObj
 have hd : decide ((x.data.size : Int) > 16) = !decide (x.data.size ≤ 16):=by
  by_cases h : x.data.size ≤ 16 <;> simp [h] <;> omega
 rw [hd]
 cases ht : x.there with
 | true => simp [Bool.and_comm]
 | false =>
  by_cases hz : x = Objt.zero
  ·subst hz; decide
  ·simp [hz]
def refLast (l : Last) : Bool:=!(!decide (l.r.data = ⟨#[]⟩) || (decide (l.r.code > 3) || ((l.seq == 0) && !(l.r.code == 0))))
theorem zsp (l : Last) : refLast l = okLast l:=by
 unfold refLast okLast
 have : decide (l = Last.zero) = (l.seq == 0 && (l.r.code == 0 && decide (l.r.data = ⟨#[]⟩))):=by
  obtain ⟨s,c,d⟩:=l
  have : Last.zero = (⟨0,⟨0,⟨#[]⟩⟩⟩ : Last):=rfl
  rw [this]
  by_cases h1 : s = 0 <;> by_cases h2 : c = 0 <;> by_cases h3 : d = ⟨#[]⟩ <;> simp [h1,h2,h3]
 rw [this]
 cases h1 : (l.seq == 0) <;> cases h2 : (l.r.code == 0) <;> cases h3 : decide (l.r.data = ⟨#[]⟩) <;> cases h4 : decide (l.r.code > 3) <;> rfl
theorem zms (b : Base) (x : Objt) (n : Nat) (hn : n = 2) (T : Tm) (h1 : lk T 1 = .ptr 0 0) (h4 : lk T 4 = .ptr 1 0) (h5 : lk T 5 = .d (.i .i64 0)) :
  ∃ e T' H',evL C zhj zgq n T [.box (.d (.agg b.cs)),.box (.d (.agg x.cs))] = some (e,T',H') ∧ H' = [.box (.d (.agg b.cs)),.box (.d (.agg x.cs))] ∧
   ((e = .exit 2 ∧ lk T' 1 = .ptr 0 0 ∧ lk T' 3 = lk T 3 ∧ allN 3 (fun j => decide ((x.attr.get j).size ≤ 16)) = true) ∨ (e = .ret ∧ lk T' 2 = .d (.b false) ∧ allN 3 (fun j => decide ((x.attr.get j).size ≤ 16)) = false)):=by
 subst hn
 refine zac (fun k T' H' => lk T' 1 = .ptr 0 0 ∧ lk T' 3 = lk T 3 ∧ lk T' 4 = .ptr 1 0 ∧ lk T' 5 = .d (.i .i64 (k : Nat)) ∧ H' = [.box (.d (.agg b.cs)),.box (.d (.agg x.cs))] ∧ ∀ j < k,(x.attr.get j).size ≤ 16)
  (fun e T' H' => H' = [.box (.d (.agg b.cs)), .box (.d (.agg x.cs))] ∧
   ((e = .exit 2 ∧ lk T' 1 = .ptr 0 0 ∧ lk T' 3 = lk T 3 ∧ allN 3 (fun j => decide ((x.attr.get j).size ≤ 16)) = true) ∨ (e = .ret ∧ lk T' 2 = .d (.b false) ∧ allN 3 (fun j => decide ((x.attr.get j).size ≤ 16)) = false))) 3 ?_ ?_ 3 0 _ _ (by omega) ⟨h1,rfl,h4,h5,rfl,by omega⟩
 ·rintro k T1 H1 hk ⟨g1, g3, g4, g5, rfl, hj⟩
  have hd : decide ((k : Int) < 3) = true:=by simp; omega
  have hw : IntKind.i64.wrap ((k : Int) + 1) = ((k + 1 : Nat) : Int):=wi64 (by omega)
  have b3 : ((k : Int) < ((3 : Nat) : Int)) = True:=by simp; omega
  have b0 : (0 ≤ (k : Int)) = True:=by simp
  by_cases c : (x.attr.get k).size ≤ 16
  ·have hc : decide (((x.attr.get k).size : Int) > 16) = false := by simp; omega
   simp +decide only [zhj,zgq,g1,g3,g4,g5,hd,hw,b3,b0,hk,hc,ite_self,Pk.EVL,Pk.EVD,↓reduceIte,Nat.reduceAdd,Pk.TY_Objt]
   refine ⟨_,_,_,rfl,?_⟩
   refine .inl ⟨rfl,rfl,rfl,rfl,rfl,rfl,fun j hjk => ?_⟩
   by_cases e : j = k
   ·rw [e]; exact c
   ·exact hj j (by omega)
  ·have hc : decide (((x.attr.get k).size : Int) > 16) = true := by simp; omega
   simp +decide only [zhj,zgq,g1,g3,g4,g5,hd,b3,b0,hk,hc,ite_self,Pk.EVL,Pk.EVD,↓reduceIte,Nat.reduceAdd,Pk.TY_Objt]
   refine ⟨_,_,_,rfl,?_⟩
   refine .inr ⟨by simp,rfl,.inr ⟨rfl,rfl,?_⟩⟩
   exact zbn fun h => c (of_decide_eq_true (h k hk))
 ·rintro T1 H1 ⟨g1, g3, g4, g5, rfl, hj⟩
  simp +decide only [zhj,zgq,g1,g3,g4,g5,ite_self,Pk.EVL,Pk.EVD,↓reduceIte,Nat.reduceAdd]
  refine ⟨_,_,_,rfl,?_⟩
  exact ⟨by simp,rfl,.inl ⟨rfl,rfl,rfl,za1.2 fun j hj' => decide_eq_true (hj j hj')⟩⟩
theorem zs4 (b : Base) : evF C F_q2n [.d (.agg b.cs)] [] = some (.d (.b (okBase b)),[]):=by
 rw [zaa (rfl : C F_q2n = some a_q2n) _ _ rfl]
 have hz : Objt.zero = (⟨false,⟨#[]⟩,⟨⟨#[]⟩,⟨#[]⟩,⟨#[]⟩⟩⟩ : Objt):=rfl
 have ho : ∀ j,okObj (b.objs.get j) = refObj (b.objs.get j):=fun j => (refObj_eq _).symm
 have hl : ∀ j,okLast (b.last.get j) = refLast (b.last.get j):=fun j => (zsp _).symm
 unfold okBase
 simp only [ho,hl]
 simp +decide only [c_q2n,Pk.EVL,Pk.EVD,↓reduceIte]
 simp only [Option.bind_assoc]
 refine zaf (zac (fun i T H => lk T 1 = .ptr 0 0 ∧ lk T 3 = .d (.i .i64 (i : Nat)) ∧ (∃ J,H = .box (.d (.agg b.cs)) :: J) ∧ ∀ j < i,refObj (b.objs.get j) = true)
  (fun e T H => (∃ J,H = .box (.d (.agg b.cs)) :: J) ∧ ((e = .exit 0 ∧ lk T 1 = .ptr 0 0 ∧ H = [.box (.d (.agg b.cs))] ∧ allN 6 (fun j => refObj (b.objs.get j)) = true) ∨ (e = .ret ∧ lk T 2 = .d (.b false) ∧ allN 6 (fun j => refObj (b.objs.get j)) = false))) 6 ?_ ?_ 6 0 _ _ (by omega) ⟨rfl,rfl,⟨[],rfl⟩,by omega⟩) ?_
 ·rintro i T H hi ⟨h1, h3, ⟨J, rfl⟩, hj⟩
  have hd : decide ((i : Int) < 6) = true:=by simp; omega
  have hw : IntKind.i64.wrap ((i : Int) + 1) = ((i + 1 : Nat) : Int):=wi64 (by omega)
  have b3 : ((i : Int) < ((6 : Nat) : Int)) = True:=by simp; omega
  have b0 : (0 ≤ (i : Int)) = True:=by simp
  have b4 : (i * 5 + 5 ≤ 39) = True:=by simp; omega
  have fin : refObj (b.objs.get i) = true → ∀ j < i + 1,refObj (b.objs.get j) = true:=fun h j hj' => by
   by_cases e : j = i
   ·rw [e]; exact h
   ·exact hj j (by omega)
  have bad : refObj (b.objs.get i) = false → allN 6 (fun j => refObj (b.objs.get j)) = false:=fun h => zbn fun hh => by rw [hh i hi] at h; simp at h
  have hro : refObj (b.objs.get i) = (!((!(b.objs.get i).there && !decide ((b.objs.get i) = (⟨false,⟨#[]⟩,⟨⟨#[]⟩,⟨#[]⟩,⟨#[]⟩⟩⟩ : Objt))) || decide (((b.objs.get i).data.size : Int) > 16)) && allN 3 (fun j => decide (((b.objs.get i).attr.get j).size ≤ 16))):=by unfold refObj; rw [hz]
  generalize hx : b.objs.get i = x at *
  have exitB : ∀ (f1 : (!x.there && !decide (x = (⟨false,⟨#[]⟩,⟨⟨#[]⟩,⟨#[]⟩,⟨#[]⟩⟩⟩ : Objt)) || decide ((x.data.size : Int) > 16)) = true),refObj x = false:=fun f1 => by rw [hro,f1]; rfl
  have goOn : ∀ (f1 : (!x.there && !decide (x = (⟨false,⟨#[]⟩,⟨⟨#[]⟩,⟨#[]⟩,⟨#[]⟩⟩⟩ : Objt)) || decide ((x.data.size : Int) > 16)) = false),refObj x = allN 3 (fun j => decide ((x.attr.get j).size ≤ 16)):=fun f1 => by rw [hro,f1]; rfl
  have inner:=zms b x
  rcases Bool.eq_false_or_eq_true x.there with ct | ct
  ·rcases Bool.eq_false_or_eq_true (decide ((x.data.size : Int) > 16)) with cd | cd
   ·have f := exitB (by rw [cd]; simp)
    simp +decide only [zec,zea,h1,h3,hd,b3,b0,b4,hi,hx,ct,cd,Pk.EVL,Pk.EVD,↓reduceIte,Nat.reduceAdd,Pk.TY_Base,Pk.TY_Objt]
    refine ⟨_,_,_,rfl,?_⟩
    exact .inr ⟨by simp,⟨_,rfl⟩,.inr ⟨rfl,rfl,bad f⟩⟩
   ·have f := goOn (by rw [ct, cd]; simp)
    simp +decide only [zec,zea,h1,h3,hd,b3,b0,b4,hi,hx,ct,cd,Pk.EVL,Pk.EVD,↓reduceIte,Nat.reduceAdd,Pk.TY_Base,Pk.TY_Objt]
    simp only [Option.bind_assoc]
    refine zgy (inner _ ?_ _ ?_ ?_ ?_) ?_
    ·rfl
    ·rfl
    ·rfl
    ·rfl
    rintro e T2 H2 ⟨rfl,⟨rfl,k1,k3,ka⟩ | ⟨rfl,k2,ka⟩⟩
    ·simp only [lk, reduceIte, Nat.reduceEqDiff] at k3
     simp +decide only [k1,k3,hw,Pk.EVL,Pk.EVD,↓reduceIte,Nat.reduceAdd]
     refine ⟨_,_,_,rfl,?_⟩
     exact .inl ⟨rfl,rfl,rfl,⟨_,rfl⟩,fin (by rw [f,ka])⟩
    ·simp +decide only [Pk.EVL]
     refine ⟨_,_,_,rfl,?_⟩
     exact .inr ⟨by simp,⟨_,rfl⟩,.inr ⟨rfl,k2,bad (by rw [f,ka])⟩⟩
  ·rcases Bool.eq_false_or_eq_true (decide (x = (⟨false, ⟨#[]⟩, ⟨⟨#[]⟩, ⟨#[]⟩, ⟨#[]⟩⟩⟩ : Objt))) with cz | cz
   ·rcases Bool.eq_false_or_eq_true (decide ((x.data.size : Int) > 16)) with cd | cd
    ·have f := exitB (by rw [cd]; simp)
     simp +decide only [zec,zea,h1,h3,hd,b3,b0,b4,hi,hx,ct,cz,cd,Pk.EVL,Pk.EVD,↓reduceIte,Nat.reduceAdd,Pk.TY_Base,Pk.TY_Objt]
     refine ⟨_,_,_,rfl,?_⟩
     exact .inr ⟨by simp,⟨_,rfl⟩,.inr ⟨rfl,rfl,bad f⟩⟩
    ·have f := goOn (by rw [cz, cd]; simp)
     simp +decide only [zec,zea,h1,h3,hd,b3,b0,b4,hi,hx,ct,cz,cd,Pk.EVL,Pk.EVD,↓reduceIte,Nat.reduceAdd,Pk.TY_Base,Pk.TY_Objt]
     simp only [Option.bind_assoc]
     refine zgy (inner _ ?_ _ ?_ ?_ ?_) ?_
     ·rfl
     ·rfl
     ·rfl
     ·rfl
     rintro e T2 H2 ⟨rfl,⟨rfl,k1,k3,ka⟩ | ⟨rfl,k2,ka⟩⟩
     ·simp only [lk, reduceIte, Nat.reduceEqDiff] at k3
      simp +decide only [k1,k3,hw,Pk.EVL,Pk.EVD,↓reduceIte,Nat.reduceAdd]
      refine ⟨_,_,_,rfl,?_⟩
      exact .inl ⟨rfl,rfl,rfl,⟨_,rfl⟩,fin (by rw [f,ka])⟩
     ·simp +decide only [Pk.EVL]
      refine ⟨_,_,_,rfl,?_⟩
      exact .inr ⟨by simp,⟨_,rfl⟩,.inr ⟨rfl,k2,bad (by rw [f,ka])⟩⟩
   ·have f := exitB (by rw [ct, cz]; simp)
    simp +decide only [zec,zea,h1,h3,hd,b3,b0,b4,hi,hx,ct,cz,Pk.EVL,Pk.EVD,↓reduceIte,Nat.reduceAdd,Pk.TY_Base,Pk.TY_Objt]
    refine ⟨_,_,_,rfl,?_⟩
    exact .inr ⟨by simp,⟨_,rfl⟩,.inr ⟨rfl,rfl,bad f⟩⟩
 ·rintro T H ⟨h1, h3, ⟨J, rfl⟩, hj⟩
  simp +decide only [zec,zea,h1,h3,Pk.EVL,Pk.EVD,↓reduceIte]
  refine ⟨_,_,_,rfl,?_⟩
  exact ⟨by simp,⟨_,rfl⟩,.inl ⟨rfl,rfl,rfl,za1.2 hj⟩⟩
 rintro e T H ⟨⟨J,hJ⟩,⟨rfl,h1,rfl,ha⟩ | ⟨rfl,h2,ha⟩⟩
 case inr =>
  subst hJ
  rw [ha]
  simp +decide only [h2,Pk.EVL,Pk.EVD,↓reduceIte]
 rw [ha]
 simp +decide only [h1,Pk.EVL,Pk.EVD,↓reduceIte]
 simp only [Option.bind_assoc]
 refine zaf (zac (fun i T H => lk T 1 = .ptr 0 0 ∧ lk T 6 = .d (.i .i64 (i : Nat)) ∧ (∃ J,H = .box (.d (.agg b.cs)) :: J) ∧ ∀ j < i,refLast (b.last.get j) = true)
  (fun e T H => (∃ J,H = .box (.d (.agg b.cs)) :: J) ∧ ((e = .exit 4 ∧ allN 3 (fun j => refLast (b.last.get j)) = true) ∨ (e = .ret ∧ lk T 2 = .d (.b false) ∧ allN 3 (fun j => refLast (b.last.get j)) = false))) 3 ?_ ?_ 3 0 _ _ (by omega) ⟨rfl,rfl,⟨[],rfl⟩,by omega⟩) ?_
 ·rintro i T H hi ⟨h1, h6, ⟨J, rfl⟩, hj⟩
  have hd : decide ((i : Int) < 3) = true:=by simp; omega
  have hw : IntKind.i64.wrap ((i : Int) + 1) = ((i + 1 : Nat) : Int):=wi64 (by omega)
  have b3 : ((i : Int) < ((3 : Nat) : Int)) = True:=by simp; omega
  have b0 : (0 ≤ (i : Int)) = True:=by simp
  have fin : refLast (b.last.get i) = true → ∀ j < i + 1,refLast (b.last.get j) = true:=fun h j hj' => by
   by_cases e : j = i
   ·rw [e]; exact h
   ·exact hj j (by omega)
  have bad : refLast (b.last.get i) = false → allN 3 (fun j => refLast (b.last.get j)) = false:=fun h => zbn fun hh => by rw [hh i hi] at h; simp at h
  have hro : refLast (b.last.get i) = !(!decide ((b.last.get i).r.data = ⟨#[]⟩) || (decide ((b.last.get i).r.code > 3) || (((b.last.get i).seq == 0) && !((b.last.get i).r.code == 0)))):=rfl
  have nb : ∀ a c : Int,(a != c) = !(a == c):=fun _ _ => rfl
  rcases (Bool.eq_false_or_eq_true (decide ((b.last.get i).r.data = ⟨#[]⟩))).symm with q1 | q1
  ·have f : refLast (b.last.get i) = false := by rw [hro, q1]; simp
   simp +decide only [zd3,zef,h1,h6,hd,b3,b0,hi,q1,zau,Bool.not_false,Pk.EVL,Pk.EVD,↓reduceIte,Pk.TY_Base]
   refine ⟨_,_,_,rfl,?_⟩
   exact .inr ⟨by simp,⟨_,rfl⟩,.inr ⟨rfl,rfl,bad f⟩⟩
  rcases Bool.eq_false_or_eq_true (decide ((b.last.get i).r.code > 3)) with q2 | q2
  ·have f : refLast (b.last.get i) = false := by rw [hro, q1, q2]; simp
   simp +decide only [zd3,zef,h1,h6,hd,b3,b0,hi,q1,q2,zau,Pk.EVL,Pk.EVD,↓reduceIte,Pk.TY_Base]
   refine ⟨_,_,_,rfl,?_⟩
   exact .inr ⟨by simp,⟨_,rfl⟩,.inr ⟨rfl,rfl,bad f⟩⟩
  rcases Bool.eq_false_or_eq_true ((b.last.get i).seq == 0) with q3 | q3
  ·rcases Bool.eq_false_or_eq_true ((b.last.get i).r.code == 0) with q4 | q4
   ·have f : refLast (b.last.get i) = true := by rw [hro, q1, q2, q3, q4]; rfl
    simp +decide only [zd3,zef,h1,h6,hd,hw,b3,b0,hi,q1,q2,q3,q4,Bool.not_true,Pk.EVL,Pk.EVD,↓reduceIte,Pk.TY_Base]
    refine ⟨_,_,_,rfl,?_⟩
    exact .inl ⟨rfl,rfl,rfl,⟨_,rfl⟩,fin f⟩
   ·have f : refLast (b.last.get i) = false := by rw [hro, q1, q2, q3, q4]; rfl
    simp +decide only [zd3,zef,h1,h6,hd,b3,b0,hi,q1,q2,q3,q4,Bool.not_false,Bool.not_true,Pk.EVL,Pk.EVD,↓reduceIte,Pk.TY_Base]
    refine ⟨_,_,_,rfl,?_⟩
    exact .inr ⟨by simp,⟨_,rfl⟩,.inr ⟨rfl,rfl,bad f⟩⟩
  ·have f : refLast (b.last.get i) = true := by rw [hro, q1, q2, q3]; rfl
   simp +decide only [zd3,zef,h1,h6,hd,hw,b3,b0,hi,q1,q2,q3,Bool.not_true,Pk.EVL,Pk.EVD,↓reduceIte,Pk.TY_Base]
   refine ⟨_,_,_,rfl,?_⟩
   exact .inl ⟨rfl,rfl,rfl,⟨_,rfl⟩,fin f⟩
 ·rintro T H ⟨h1, h6, ⟨J, rfl⟩, hj⟩
  simp +decide only [zd3,zef,h1,h6,Pk.EVL,Pk.EVD,↓reduceIte]
  refine ⟨_,_,_,rfl,?_⟩
  exact ⟨by simp,⟨_,rfl⟩,.inl ⟨rfl,za1.2 hj⟩⟩
 rintro e T H ⟨⟨J,rfl⟩,⟨rfl,ha⟩ | ⟨rfl,h2,ha⟩⟩
 ·rw [ha]
  simp +decide only [Pk.EVL,Pk.EVD,↓reduceIte]
 ·rw [ha]
  simp +decide only [h2,Pk.EVL,Pk.EVD,↓reduceIte]

/-- A state's numbers,and its entries',are of Go's kinds. -/
structure stFull (s : State) : Prop where
 n : 0 ≤ s.tail.n ∧ s.tail.n < 4294967296
 log : ∀ e ∈ s.log,Entry.ok e
theorem stFull.ok {s : State} (h : stFull s) : stOk s:=⟨h.n,fun e he => (h.log e he).2.2⟩
theorem stFull_of {s : State} (h : s.ok) : stFull s:=⟨h.2.2.1.2.1,h.2.2.2.2⟩
def nextR (since n : Int) (e : Entry) : Bool:=!(!writes e.op || ((e.n == 0) || ((IntKind.u32.wrap (e.n - 1) != n) || (decide (e.since < since) || decide (e.since > 60)))))
theorem nextR_eq (last e : Entry) (hl : 0 ≤ last.n ∧ last.n < 4294967296) (he : 0 ≤ e.n ∧ e.n < 4294967296) : nextR last.since last.n e = nextE last e:=by
 unfold nextR nextE
 have h1 : decide (e.since ≥ last.since) = !decide (e.since < last.since):=by by_cases h : e.since < last.since <;> simp [h] <;> omega
 have h2 : decide (e.since ≤ 60) = !decide (e.since > 60):=by by_cases h : e.since > 60 <;> simp [h] <;> omega
 have h3 : ((e.n == IntKind.u32.wrap (last.n + 1)) && decide (e.n > last.n)) = (!(e.n == 0) && !(IntKind.u32.wrap (e.n - 1) != last.n)):=by
  by_cases h0 : e.n = 0
  ·have : decide (e.n > last.n) = false := by simp; omega
   simp [h0] at this ⊢
   simp [this]
  ·have hw : IntKind.u32.wrap (e.n - 1) = e.n - 1 := by unfold IntKind.wrap; simp [IntKind.signed, IntKind.bits]; omega
   rw [hw]
   by_cases h4 : e.n = last.n + 1
   ·have hw2 : IntKind.u32.wrap (last.n + 1) = last.n + 1 := by unfold IntKind.wrap; simp [IntKind.signed, IntKind.bits]; omega
    rw [hw2,h4]
    have a1 : (last.n + 1 == last.n + 1) = true:=by simp
    have a2 : decide (last.n + 1 > last.n) = true:=by simp; omega
    have a3 : (last.n + 1 == 0) = false:=by rw [beq_eq_false_iff_ne]; omega
    have a4 : (last.n + 1 - 1 != last.n) = false:=by simp
    rw [a1,a2,a3,a4]; rfl
   ·have a4 : (e.n - 1 != last.n) = true := by simp; omega
    have a5 : ((e.n == IntKind.u32.wrap (last.n + 1)) && decide (e.n > last.n)) = false:=by
     rcases Int.lt_or_le (last.n + 1) 4294967296 with h5 | h5
     ·have hw2 : IntKind.u32.wrap (last.n + 1) = last.n + 1 := by unfold IntKind.wrap; simp [IntKind.signed, IntKind.bits]; omega
      have : (e.n == last.n + 1) = false:=by rw [beq_eq_false_iff_ne]; exact h4
      rw [hw2,this]; rfl
     ·have : decide (e.n > last.n) = false := by simp; omega
      rw [this,Bool.and_false]
    rw [a4,a5]; simp
 rw [h1,h2,Bool.and_assoc (writes e.op),h3]
 cases writes e.op <;> cases (e.n == 0) <;> cases (IntKind.u32.wrap (e.n - 1) != last.n) <;> cases decide (e.since < last.since) <;> cases decide (e.since > 60) <;> rfl
theorem zcy (s : State) (hs : stFull s) : evF C F_q2g [.d (.agg s.cs)] [] = some (.d (.b (isSt s)),[]):=by
 rw [zaa (rfl : C F_q2g = some a_q2g) _ _ rfl]
 unfold isSt
 have hb:=zs4 s.base
 rcases Bool.eq_false_or_eq_true (decide (s.started > 60)) with q1 | q1
 ·simp +decide only [c_q2g,q1,Pk.EVL,Pk.EVD,↓reduceIte,Pk.TY_State]
 rcases Bool.eq_false_or_eq_true (decide (s.tail.since > 60)) with q2 | q2
 ·simp +decide only [c_q2g,q1,q2,Pk.EVL,Pk.EVD,↓reduceIte,Pk.TY_State]
 rcases (Bool.eq_false_or_eq_true (decide (s.tail.op = (⟨0,0,0,0,0,⟨#[]⟩⟩ : Opr)))).symm with q3 | q3
 ·simp +decide only [c_q2g,q1,q2,q3,Pk.EVL,Pk.EVD,↓reduceIte,Nat.reduceAdd,Nat.reduceLeDiff,Pk.TY_State,Pk.TY_Opr]
 rcases Bool.eq_false_or_eq_true (decide ((s.log.length : Int) > 6)) with q4 | q4
 ·simp +decide only [c_q2g,q1,q2,q3,q4,Pk.EVL,Pk.EVD,↓reduceIte,Nat.reduceAdd,Nat.reduceLeDiff,Pk.TY_State,Pk.TY_Opr]
 rcases (Bool.eq_false_or_eq_true (okBase s.base)).symm with q5 | q5
 ·simp +decide only [c_q2g,q1,q2,q3,q4,q5,hb,Pk.EVL,Pk.EVD,↓reduceIte,Nat.reduceAdd,Nat.reduceLeDiff,Pk.TY_State,Pk.TY_Opr]
 have hl : s.log.length ≤ 6:=by have:=of_decide_eq_false q4; omega
 simp +decide only [c_q2g,q1,q2,q3,q4,q5,hb,Pk.EVL,Pk.EVD,↓reduceIte,Nat.reduceAdd,Nat.reduceLeDiff,Pk.TY_State,Pk.TY_Opr]
 simp only [Option.bind_assoc]
 refine zaf (zac (fun i T H => lk T 1 = .ptr 0 0 ∧ lk T 5 = .d (.i .i64 (i : Nat)) ∧ (∃ J,H = .box (.d (.agg s.cs)) :: J) ∧ ∃ last : Entry,lk T 3 = .d (.i .u32 last.since) ∧ lk T 4 = .d (.i .u32 last.n) ∧ (0 ≤ last.n ∧ last.n < 4294967296) ∧ chainE s.tail s.log = chainE last (s.log.drop i))
  (fun e T H => (e = .exit 0 ∧ H = [.box (.d (.agg s.cs))] ∧ chainE s.tail s.log = true) ∨ (e = .ret ∧ lk T 2 = .d (.b false) ∧ (∃ J,H = .box (.d (.agg s.cs)) :: J) ∧ chainE s.tail s.log = false)) s.log.length ?_ ?_ s.log.length 0 _ _ (by omega) ⟨rfl,rfl,⟨[],rfl⟩,s.tail,rfl,rfl,hs.n,rfl⟩) ?_
 ·rintro i T H hi ⟨h1, h5, ⟨J, rfl⟩, last, h3, h4, hln, hc⟩
  have hd : decide ((i : Int) < ((s.log.length : Nat) : Int)) = true:=by simp; omega
  have hw : IntKind.i64.wrap ((i : Int) + 1) = ((i + 1 : Nat) : Int):=wi64 (by omega)
  have b0 : (0 ≤ (i : Int)) = True:=by simp
  obtain ⟨e,he⟩ : ∃ e,s.log[i]? = some e:=⟨s.log[i]'hi,List.getElem?_eq_getElem _⟩
  have heo:=hs.log e (List.mem_of_getElem? he)
  have hx:=zae Entry.d he
  have hdr : s.log.drop i = e :: s.log.drop (i + 1):=by
   rw [List.drop_eq_getElem_cons hi]
   congr 1
   exact (List.getElem?_eq_some_iff.1 he).2
  rw [hdr] at hc
  have hwr:=zdi e.op heo.2.2
  have hnr : nextE last e = !(!writes e.op || ((e.n == 0) || ((IntKind.u32.wrap (e.n - 1) != last.n) || (decide (e.since < last.since) || decide (e.since > 60))))):=(nextR_eq last e hln heo.2.1).symm
  rcases (Bool.eq_false_or_eq_true (writes e.op)).symm with q1 | q1
  ·have f : nextE last e = false := by rw [hnr, q1]; simp
   simp +decide only [zdp,zdj,h1,h3,h4,h5,hd,b0,hx,hwr,q1,Pk.EVL,Pk.EVD,↓reduceIte,Nat.reduceAdd,Pk.TY_State,Pk.TY_Entry]
   refine ⟨_,_,_,rfl,?_⟩
   exact .inr ⟨by simp,.inr ⟨rfl,rfl,⟨_,rfl⟩,by rw [hc,chainE,f,Bool.false_and]⟩⟩
  rcases Bool.eq_false_or_eq_true (e.n == 0) with q2 | q2
  ·have f : nextE last e = false := by rw [hnr, q1, q2]; simp
   simp +decide only [zdp,zdj,h1,h3,h4,h5,hd,b0,hx,hwr,q1,q2,Bool.not_true,Pk.EVL,Pk.EVD,↓reduceIte,Nat.reduceAdd,Pk.TY_State,Pk.TY_Entry]
   refine ⟨_,_,_,rfl,?_⟩
   exact .inr ⟨by simp,.inr ⟨rfl,rfl,⟨_,rfl⟩,by rw [hc,chainE,f,Bool.false_and]⟩⟩
  rcases Bool.eq_false_or_eq_true (IntKind.u32.wrap (e.n - 1) != last.n) with q3 | q3
  ·have f : nextE last e = false := by rw [hnr, q1, q2, q3]; simp
   simp +decide only [zdp,zdj,h1,h3,h4,h5,hd,b0,hx,hwr,q1,q2,q3,Bool.not_true,Pk.EVL,Pk.EVD,↓reduceIte,Nat.reduceAdd,Pk.TY_State,Pk.TY_Entry]
   refine ⟨_,_,_,rfl,?_⟩
   exact .inr ⟨by simp,.inr ⟨rfl,rfl,⟨_,rfl⟩,by rw [hc,chainE,f,Bool.false_and]⟩⟩
  rcases Bool.eq_false_or_eq_true (decide (e.since < last.since)) with q4 | q4
  ·have f : nextE last e = false := by rw [hnr, q1, q2, q3, q4]; simp
   simp +decide only [zdp,zdj,h1,h3,h4,h5,hd,b0,hx,hwr,q1,q2,q3,q4,Bool.not_true,Pk.EVL,Pk.EVD,↓reduceIte,Nat.reduceAdd,Pk.TY_State,Pk.TY_Entry]
   refine ⟨_,_,_,rfl,?_⟩
   exact .inr ⟨by simp,.inr ⟨rfl,rfl,⟨_,rfl⟩,by rw [hc,chainE,f,Bool.false_and]⟩⟩
  rcases Bool.eq_false_or_eq_true (decide (e.since > 60)) with q5 | q5
  ·have f : nextE last e = false := by rw [hnr, q1, q2, q3, q4, q5]; simp
   simp +decide only [zdp,zdj,h1,h3,h4,h5,hd,b0,hx,hwr,q1,q2,q3,q4,q5,Bool.not_true,Pk.EVL,Pk.EVD,↓reduceIte,Nat.reduceAdd,Pk.TY_State,Pk.TY_Entry]
   refine ⟨_,_,_,rfl,?_⟩
   exact .inr ⟨by simp,.inr ⟨rfl,rfl,⟨_,rfl⟩,by rw [hc,chainE,f,Bool.false_and]⟩⟩
  have f : nextE last e = true:=by rw [hnr,q1,q2,q3,q4,q5]; rfl
  simp +decide only [zdp,zdj,h1,h3,h4,h5,hd,hw,b0,hx,hwr,q1,q2,q3,q4,q5,Bool.not_true,Pk.EVL,Pk.EVD,↓reduceIte,Nat.reduceAdd,Pk.TY_State,Pk.TY_Entry]
  refine ⟨_,_,_,rfl,?_⟩
  exact .inl ⟨rfl,rfl,rfl,⟨_,rfl⟩,e,rfl,rfl,heo.2.1,by rw [hc,chainE,f,Bool.true_and]⟩
 ·rintro T H ⟨h1, h5, ⟨J, rfl⟩, last, h3, h4, hln, hc⟩
  have hd : decide (((s.log.length : Nat) : Int) < ((s.log.length : Nat) : Int)) = false:=by simp
  simp +decide only [zdp,zdj,h1,h3,h4,h5,Pk.EVL,Pk.EVD,↓reduceIte,Pk.TY_State]
  refine ⟨_,_,_,rfl,?_⟩
  rw [List.drop_length] at hc
  exact ⟨by simp,.inl ⟨rfl,rfl,hc⟩⟩
 rintro e T H (⟨rfl,rfl,hc⟩ | ⟨rfl,h2,⟨J,rfl⟩,hc⟩)
 ·rw [hc]
  simp +decide only [Pk.EVL,Pk.EVD,↓reduceIte]
 ·rw [hc]
  simp +decide only [h2,Pk.EVL,Pk.EVD,↓reduceIte]
theorem zft (s : State) (hs : stFull s) : evF C F_q2f [.d (.agg s.cs)] [] = some (.tup [.d (.i .u32 (headS s).1),.d (.i .u32 (headS s).2)],[]):=by
 rw [zaa (rfl : C F_q2f = some a_q2f) _ _ rfl]
 have hi:=zcy s hs
 unfold headS
 by_cases c : isSt s = true
 ·rw [if_pos c]
  have hl:=zay c
  unfold lastE
  rcases Bool.eq_false_or_eq_true (((s.log.length : Nat) : Int) == 0) with c0 | c0
  ·have : s.log = [] := List.length_eq_zero_iff.1 (by simp at c0; simpa using c0)
   rw [this]
   simp only [List.getLast?_nil]
   simp +decide only [c_q2f,hi,c,c0,Pk.EVL,Pk.EVD,↓reduceIte,Nat.reduceAdd,Pk.TY_State,Pk.TY_Entry]
  ·have hn : 0 < s.log.length := by rw [beq_eq_false_iff_ne] at c0; omega
   have hw : IntKind.i64.wrap (((s.log.length : Nat) : Int) - 1) = ((s.log.length - 1 : Nat) : Int):=by rw [show ((s.log.length : Nat) : Int) - 1 = ((s.log.length - 1 : Nat) : Int) by omega]; exact wi64 (by omega)
   obtain ⟨e,he⟩ : ∃ e,s.log[s.log.length - 1]? = some e:=⟨s.log[s.log.length - 1]'(by omega),List.getElem?_eq_getElem _⟩
   have hx:=zae Entry.d he
   rw [List.getLast?_eq_getElem?,he]
   have b0 : (0 ≤ ((s.log.length - 1 : Nat) : Int)) = True:=by simp
   simp +decide only [c_q2f,hi,c,c0,hw,b0,hx,Pk.EVL,Pk.EVD,↓reduceIte,Nat.reduceAdd,Pk.TY_State,Pk.TY_Entry]
 ·rw [if_neg c]
  have c:=eq_false_of_ne_true c
  simp +decide only [c_q2f,hi,c,Pk.EVL,Pk.EVD,↓reduceIte,Pk.TY_State,Pk.TY_Entry]
end Go.Proofs.YthlpognahlnaaaaGreat

/- How much a difference bears; whether one goes on where another ends; what is known. / The document's operations on objects compute the same. -/
import Derived.Test.YthlpognahlnaaaaGreatPkEvd
import Derived.Test.YthlpognahlnaaaaGreatMgA
import Derived.Test.YthlpognahlnaaaaGreatPgA
set_option linter.all false
namespace Go.Proofs.YthlpognahlnaaaaGreat
open Pv Go Pk
set_option maxRecDepth 10000
set_option maxHeartbeats 2000000
def thereN (b : Base) : Nat → Nat
 | 0 => 0
 | i + 1 => thereN b i + (if (b.objs.get i).there = true then 1 else 0)
theorem ze0 (b : Base) : ∀ i,thereN b i ≤ i
 | 0 => Nat.le_refl _
 | i + 1 => by have:=ze0 b i; simp only [thereN]; split <;> omega
def bytesD (d : Diff) : Nat:=d.log.length + d.whole.log.length + thereN d.whole.base 6
theorem bytes_at (d : Diff) (h1 : d.log.length ≤ 1000) (h2 : d.whole.log.length ≤ 1000) : evF C F_q17 [.d (.agg d.cs)] [] = some (.d (.i .i64 (bytesD d : Nat)),[]):=by
 rw [zaa (rfl : C F_q17 = some a_q17) _ _ rfl]
 have hw0 : IntKind.i64.wrap (((d.log.length : Nat) : Int) + ((d.whole.log.length : Nat) : Int)) = ((d.log.length + d.whole.log.length : Nat) : Int):=wi64 (by omega)
 unfold bytesD
 simp +decide only [c_q17,hw0,Pk.EVL,Pk.EVD,↓reduceIte,Nat.reduceAdd,Nat.reduceLeDiff,Pk.TY_Diff]
 simp only [Option.bind_assoc]
 generalize hm : d.log.length + d.whole.log.length = m
 refine zaf (zac (fun i T H => lk T 3 = .d (.i .i64 ((m + thereN d.whole.base i : Nat) : Int)) ∧ lk T 17 = .d (.agg (R6.cs Objt.cs d.whole.base.objs)) ∧ lk T 18 = .d (.i .i64 (i : Nat)) ∧ ∃ J,H = .box (.d (.agg d.cs)) :: J)
  (fun e T H => e = .exit 0 ∧ lk T 3 = .d (.i .i64 ((m + thereN d.whole.base 6 : Nat) : Int)) ∧ ∃ J,H = .box (.d (.agg d.cs)) :: J) 6 ?_ ?_ 6 0 _ _ (by omega) ⟨rfl,rfl,rfl,[],rfl⟩) ?_
 ·rintro i T H hi ⟨g3, g17, g18, J, rfl⟩
  have hd : decide ((i : Int) < 6) = true:=by simp; omega
  have hw : IntKind.i64.wrap ((i : Int) + 1) = ((i + 1 : Nat) : Int):=wi64 (by omega)
  have b3 : ((i : Int) < ((6 : Nat) : Int)) = True:=by simp; omega
  have b3' : (0 ≤ (i : Int)) = True:=by simp
  have b4 : (i * 5 + 5 ≤ 30) = True:=by simp; omega
  have hle:=ze0 d.whole.base i
  have hs : thereN d.whole.base (i + 1) = thereN d.whole.base i + (if (d.whole.base.objs.get i).there = true then 1 else 0):=rfl
  rcases Bool.eq_false_or_eq_true (d.whole.base.objs.get i).there with c | c
  ·rw [c, if_pos rfl] at hs
   have hw2 : IntKind.i64.wrap (((m + thereN d.whole.base i : Nat) : Int) + 1) = ((m + thereN d.whole.base (i + 1) : Nat) : Int):=by rw [hs,show ((m + thereN d.whole.base i : Nat) : Int) + 1 = ((m + (thereN d.whole.base i + 1) : Nat) : Int) by omega]; exact wi64 (by omega)
   simp +decide only [zmx,zlk,g3,g17,g18,hd,hw,hw2,b3,b3',b4,hi,c,Pk.EVL,Pk.EVD,↓reduceIte,Nat.reduceAdd,Pk.TY_Base,Pk.TY_Objt]
   refine ⟨_,_,_,rfl,?_⟩
   exact .inl ⟨rfl,rfl,rfl,rfl,_,rfl⟩
  ·rw [c, if_neg (by simp), Nat.add_zero] at hs
   simp +decide only [zmx,zlk,g3,g17,g18,hd,hw,b3,b3',b4,hi,c,Pk.EVL,Pk.EVD,↓reduceIte,Nat.reduceAdd,Pk.TY_Base,Pk.TY_Objt]
   refine ⟨_,_,_,rfl,?_⟩
   refine .inl ⟨rfl,?_,rfl,rfl,_,rfl⟩
   rw [hs]
   rfl
 ·rintro T H ⟨g3, g17, g18, J, rfl⟩
  simp +decide only [zmx,zlk,g3,g17,g18,Pk.EVL,Pk.EVD,↓reduceIte]
  refine ⟨_,_,_,rfl,?_⟩
  exact ⟨by simp,rfl,rfl,_,rfl⟩
 rintro e T H ⟨rfl,g3,J,rfl⟩
 simp +decide only [g3,Pk.EVL,Pk.EVD,↓reduceIte]
def extendsM (a b : State) : Bool :=
 (isSt a && isSt b) && (decide ((headS b).2 ≥ (headS a).2) && ((makeM a b).kind == 0 || ((makeM a b).kind == 1 && (makeM a b).from_ == (headS a).2)))
def e81 : Entry:=⟨1,1,⟨1,1,1,0,0,⟨#[97]⟩⟩⟩
def s81 : State:=⟨0,Base.zero,Entry.zero,[e81]⟩
def D81 : Diff:=⟨1,0,[e81],headM s81⟩
def Z81 : Diff:=⟨0,0,[],headM s81⟩
def N81 : Diff:=⟨9,0,[],State.zero⟩
theorem zn2 (a b : State) (hb : b.log.length ≤ 100) : (makeM a b).log.length ≤ 100 ∧ (makeM a b).whole.log.length ≤ 100:=by
 unfold makeM
 split
 ·split
  ·exact ⟨by simp,by simp [headM]⟩
  ·split
   ·exact ⟨by show (b.log.drop _).length ≤ 100; rw [List.length_drop]; omega,by simp [headM]⟩
   ·exact ⟨by simp,hb⟩
 ·exact ⟨by decide,by decide⟩
end Go.Proofs.YthlpognahlnaaaaGreat

namespace Go.Proofs.YthlpognahlnaaaaGreat
open Pv Go Pk
set_option maxRecDepth 10000
set_option maxHeartbeats 1000000

def refIsOp (o : Opr) : Bool :=
 if (decide (o.client < 1) || decide (o.client > 3) || decide (o.seq < 1) || decide (o.kind < 1) || decide (o.kind > 5) || decide (o.obj ≥ 6) || decide ((o.data.size : Int) > 16)) = true then false
 else if (!(o.kind == 1) && !(o.kind == 3) && !decide (o.data = ⟨#[]⟩)) = true then false
 else (!(o.kind == 4) && !(o.kind == 5)) || (o.at_ == 0)

theorem zr8 (o : Opr) (ho : o.ok) : refIsOp o = isOp o:=by
 have hok:=ho
 simp only [Opr.ok] at hok
 have e5 : decide (o = ⟨o.client,o.seq,o.kind,o.obj,0,⟨#[]⟩⟩) = ((o.at_ == 0) && decide (o.data = ⟨#[]⟩)):=by
  obtain ⟨a,b,c,d,e,f⟩:=o
  by_cases h1 : e = 0 <;> by_cases h2 : f = ⟨#[]⟩ <;> simp [h1,h2]
 unfold refIsOp isOp
 rw [e5,Bool.eq_iff_iff]
 by_cases h : o.data = ⟨#[]⟩
 ·have hs : o.data.size = 0 := by rw [h]; rfl
  simp [h]
  omega
 ·simp [h]
  omega

theorem zp4 (o : Opr) : evF C F_q2h [.d (.agg o.cs)] [] = some (.d (.b (refIsOp o)),[]):=by
 rw [zaa (rfl : C F_q2h = some a_q2h) _ _ rfl]
 unfold refIsOp
 rcases Bool.eq_false_or_eq_true (decide (o.client < 1)) with h1 | h1
 ·first
   | (simp +decide only [c_q2h,h1,Pk.EVL,Pk.EVD,↓reduceIte,Pk.TY_Opr]; done)
   | (rcases Bool.eq_false_or_eq_true (o.kind == 1) with q1 | q1 <;> rcases Bool.eq_false_or_eq_true (o.kind == 3) with q3 | q3 <;> rcases Bool.eq_false_or_eq_true (decide (o.data = ⟨#[]⟩)) with g3 | g3 <;> rcases Bool.eq_false_or_eq_true (o.kind == 4) with q4 | q4 <;> rcases Bool.eq_false_or_eq_true (o.kind == 5) with q5 | q5 <;>
     simp +decide only [c_q2h,h1,q1,q3,g3,q4,q5,Pk.EVL,Pk.EVD,↓reduceIte,reduceCtorEq,Nat.reduceEqDiff,Nat.reduceAdd,Nat.reduceLeDiff,Nat.reduceBNe,Nat.reduceLT,Nat.reduceBEq,Nat.reduceSub,Nat.reduceMul,Int.reduceLT,Int.reduceLE,Int.reduceEq,Int.reduceToNat,Int.reduceNeg,Pk.TY_Opr] <;> rfl)
 ·rcases Bool.eq_false_or_eq_true (decide (o.client > 3)) with h2 | h2
  ·first
    | (simp +decide only [c_q2h,h1,h2,Pk.EVL,Pk.EVD,↓reduceIte,Pk.TY_Opr]; done)
    | (rcases Bool.eq_false_or_eq_true (o.kind == 1) with q1 | q1 <;> rcases Bool.eq_false_or_eq_true (o.kind == 3) with q3 | q3 <;> rcases Bool.eq_false_or_eq_true (decide (o.data = ⟨#[]⟩)) with g3 | g3 <;> rcases Bool.eq_false_or_eq_true (o.kind == 4) with q4 | q4 <;> rcases Bool.eq_false_or_eq_true (o.kind == 5) with q5 | q5 <;>
      simp +decide only [c_q2h,h1,h2,q1,q3,g3,q4,q5,Pk.EVL,Pk.EVD,↓reduceIte,reduceCtorEq,Nat.reduceEqDiff,Nat.reduceAdd,Nat.reduceLeDiff,Nat.reduceBNe,Nat.reduceLT,Nat.reduceBEq,Nat.reduceSub,Nat.reduceMul,Int.reduceLT,Int.reduceLE,Int.reduceEq,Int.reduceToNat,Int.reduceNeg,Pk.TY_Opr] <;> rfl)
  ·rcases Bool.eq_false_or_eq_true (decide (o.seq < 1)) with h3 | h3
   ·first
     | (simp +decide only [c_q2h,h1,h2,h3,Pk.EVL,Pk.EVD,↓reduceIte,Pk.TY_Opr]; done)
     | (rcases Bool.eq_false_or_eq_true (o.kind == 1) with q1 | q1 <;> rcases Bool.eq_false_or_eq_true (o.kind == 3) with q3 | q3 <;> rcases Bool.eq_false_or_eq_true (decide (o.data = ⟨#[]⟩)) with g3 | g3 <;> rcases Bool.eq_false_or_eq_true (o.kind == 4) with q4 | q4 <;> rcases Bool.eq_false_or_eq_true (o.kind == 5) with q5 | q5 <;>
       simp +decide only [c_q2h,h1,h2,h3,q1,q3,g3,q4,q5,Pk.EVL,Pk.EVD,↓reduceIte,reduceCtorEq,Nat.reduceEqDiff,Nat.reduceAdd,Nat.reduceLeDiff,Nat.reduceBNe,Nat.reduceLT,Nat.reduceBEq,Nat.reduceSub,Nat.reduceMul,Int.reduceLT,Int.reduceLE,Int.reduceEq,Int.reduceToNat,Int.reduceNeg,Pk.TY_Opr] <;> rfl)
   ·rcases Bool.eq_false_or_eq_true (decide (o.kind < 1)) with h4 | h4
    ·first
      | (simp +decide only [c_q2h,h1,h2,h3,h4,Pk.EVL,Pk.EVD,↓reduceIte,Pk.TY_Opr]; done)
      | (rcases Bool.eq_false_or_eq_true (o.kind == 1) with q1 | q1 <;> rcases Bool.eq_false_or_eq_true (o.kind == 3) with q3 | q3 <;> rcases Bool.eq_false_or_eq_true (decide (o.data = ⟨#[]⟩)) with g3 | g3 <;> rcases Bool.eq_false_or_eq_true (o.kind == 4) with q4 | q4 <;> rcases Bool.eq_false_or_eq_true (o.kind == 5) with q5 | q5 <;>
        simp +decide only [c_q2h,h1,h2,h3,h4,q1,q3,g3,q4,q5,Pk.EVL,Pk.EVD,↓reduceIte,reduceCtorEq,Nat.reduceEqDiff,Nat.reduceAdd,Nat.reduceLeDiff,Nat.reduceBNe,Nat.reduceLT,Nat.reduceBEq,Nat.reduceSub,Nat.reduceMul,Int.reduceLT,Int.reduceLE,Int.reduceEq,Int.reduceToNat,Int.reduceNeg,Pk.TY_Opr] <;> rfl)
    ·rcases Bool.eq_false_or_eq_true (decide (o.kind > 5)) with h5 | h5
     ·first
       | (simp +decide only [c_q2h,h1,h2,h3,h4,h5,Pk.EVL,Pk.EVD,↓reduceIte,Pk.TY_Opr]; done)
       | (rcases Bool.eq_false_or_eq_true (o.kind == 1) with q1 | q1 <;> rcases Bool.eq_false_or_eq_true (o.kind == 3) with q3 | q3 <;> rcases Bool.eq_false_or_eq_true (decide (o.data = ⟨#[]⟩)) with g3 | g3 <;> rcases Bool.eq_false_or_eq_true (o.kind == 4) with q4 | q4 <;> rcases Bool.eq_false_or_eq_true (o.kind == 5) with q5 | q5 <;>
         simp +decide only [c_q2h,h1,h2,h3,h4,h5,q1,q3,g3,q4,q5,Pk.EVL,Pk.EVD,↓reduceIte,reduceCtorEq,Nat.reduceEqDiff,Nat.reduceAdd,Nat.reduceLeDiff,Nat.reduceBNe,Nat.reduceLT,Nat.reduceBEq,Nat.reduceSub,Nat.reduceMul,Int.reduceLT,Int.reduceLE,Int.reduceEq,Int.reduceToNat,Int.reduceNeg,Pk.TY_Opr] <;> rfl)
     ·rcases Bool.eq_false_or_eq_true (decide (o.obj ≥ 6)) with h6 | h6
      ·first
        | (simp +decide only [c_q2h,h1,h2,h3,h4,h5,h6,Pk.EVL,Pk.EVD,↓reduceIte,Pk.TY_Opr]; done)
        | (rcases Bool.eq_false_or_eq_true (o.kind == 1) with q1 | q1 <;> rcases Bool.eq_false_or_eq_true (o.kind == 3) with q3 | q3 <;> rcases Bool.eq_false_or_eq_true (decide (o.data = ⟨#[]⟩)) with g3 | g3 <;> rcases Bool.eq_false_or_eq_true (o.kind == 4) with q4 | q4 <;> rcases Bool.eq_false_or_eq_true (o.kind == 5) with q5 | q5 <;>
          simp +decide only [c_q2h,h1,h2,h3,h4,h5,h6,q1,q3,g3,q4,q5,Pk.EVL,Pk.EVD,↓reduceIte,reduceCtorEq,Nat.reduceEqDiff,Nat.reduceAdd,Nat.reduceLeDiff,Nat.reduceBNe,Nat.reduceLT,Nat.reduceBEq,Nat.reduceSub,Nat.reduceMul,Int.reduceLT,Int.reduceLE,Int.reduceEq,Int.reduceToNat,Int.reduceNeg,Pk.TY_Opr] <;> rfl)
      ·rcases Bool.eq_false_or_eq_true (decide ((o.data.size : Int) > 16)) with h7 | h7
       ·first
         | (simp +decide only [c_q2h,h1,h2,h3,h4,h5,h6,h7,Pk.EVL,Pk.EVD,↓reduceIte,Pk.TY_Opr]; done)
         | (rcases Bool.eq_false_or_eq_true (o.kind == 1) with q1 | q1 <;> rcases Bool.eq_false_or_eq_true (o.kind == 3) with q3 | q3 <;> rcases Bool.eq_false_or_eq_true (decide (o.data = ⟨#[]⟩)) with g3 | g3 <;> rcases Bool.eq_false_or_eq_true (o.kind == 4) with q4 | q4 <;> rcases Bool.eq_false_or_eq_true (o.kind == 5) with q5 | q5 <;>
           simp +decide only [c_q2h,h1,h2,h3,h4,h5,h6,h7,q1,q3,g3,q4,q5,Pk.EVL,Pk.EVD,↓reduceIte,reduceCtorEq,Nat.reduceEqDiff,Nat.reduceAdd,Nat.reduceLeDiff,Nat.reduceBNe,Nat.reduceLT,Nat.reduceBEq,Nat.reduceSub,Nat.reduceMul,Int.reduceLT,Int.reduceLE,Int.reduceEq,Int.reduceToNat,Int.reduceNeg,Pk.TY_Opr] <;> rfl)
       ·first
         | (simp +decide only [c_q2h,h1,h2,h3,h4,h5,h6,h7,Pk.EVL,Pk.EVD,↓reduceIte,Pk.TY_Opr]; done)
         | (rcases Bool.eq_false_or_eq_true (o.kind == 1) with q1 | q1 <;> rcases Bool.eq_false_or_eq_true (o.kind == 3) with q3 | q3 <;> rcases Bool.eq_false_or_eq_true (decide (o.data = ⟨#[]⟩)) with g3 | g3 <;> rcases Bool.eq_false_or_eq_true (o.kind == 4) with q4 | q4 <;> rcases Bool.eq_false_or_eq_true (o.kind == 5) with q5 | q5 <;>
           simp +decide only [c_q2h,h1,h2,h3,h4,h5,h6,h7,q1,q3,g3,q4,q5,Pk.EVL,Pk.EVD,↓reduceIte,Pk.TY_Opr] <;> rfl)
theorem ztg (o : Opr) (ho : o.ok) : evF C F_q2h [.d (.agg o.cs)] [] = some (.d (.b (isOp o)),[]):=by rw [← zr8 o ho]; exact zp4 o

theorem zdi (o : Opr) (ho : o.ok) : evF C F_q2l [.d (.agg o.cs)] [] = some (.d (.b (writes o)),[]):=by
 rw [zaa (rfl : C F_q2l = some a_q2l) _ _ rfl]
 unfold writes
 have:=ztg o ho
 rcases Bool.eq_false_or_eq_true (isOp o) with h1 | h1
 ·simp +decide only [c_q2l, this, h1, Pk.EVL, Pk.EVD, ↓reduceIte, Pk.TY_Opr]
  try simp
 ·simp +decide only [c_q2l, this, h1, Pk.EVL, Pk.EVD, ↓reduceIte, Pk.TY_Opr]
  try simp

theorem zsw (b : Base) (o : Opr) (ho : o.ok) : evF C F_q2j [.d (.agg b.cs),.d (.agg o.cs)] [] = some (.tup [.d (.agg (seen b o).1.cs),.d (.b (seen b o).2)],[]):=by
 rw [zaa (rfl : C F_q2j = some a_q2j) _ _ rfl]
 have hwr:=zdi o ho
 unfold seen
 rcases Bool.eq_false_or_eq_true (writes o) with hw | hw
 ·obtain ⟨k, hk, hk', hk3⟩ := zds hw
  rw [← hk']
  have b1 : (0 ≤ (k : Int) ∧ (k : Int) < ((3 : Nat) : Int)) = True:=by simp; omega
  have b2 : (30 + k * 3 + 3 ≤ 39) = True:=by simp; omega
  by_cases c1 : (b.last.get k).seq < o.seq
  ·simp +decide only [c_q2j,hwr,hw,hk,hk3,b1,b2,c1,Int.toNat_natCast,Pk.EVL,Pk.EVD,↓reduceIte,Nat.reduceAdd,Pk.TY_Opr,Pk.TY_Base,Pk.TY_Res,Pk.TY_Last]
  ·by_cases c2 : (b.last.get k).seq = o.seq
   ·simp +decide only [c_q2j,hwr,hw,hk,hk3,b1,b2,c2,Int.toNat_natCast,Pk.EVL,Pk.EVD,↓reduceIte,Nat.reduceAdd,Pk.TY_Opr,Pk.TY_Base,Pk.TY_Res,Pk.TY_Last]
   ·have c2' : ((b.last.get k).seq == o.seq) = false := by simp [c2]
    simp +decide only [c_q2j,hwr,hw,hk,hk3,b1,b2,c1,c2,c2',Int.toNat_natCast,Pk.EVL,Pk.EVD,↓reduceIte,Nat.reduceAdd,Pk.TY_Opr,Pk.TY_Base,Pk.TY_Res,Pk.TY_Last]
 ·simp +decide only [c_q2j,hwr,hw,Pk.EVL,Pk.EVD,↓reduceIte,Nat.reduceAdd,Pk.TY_Opr,Pk.TY_Res,Pk.TY_Last]

theorem nul_succ (i : Nat) : nul i ++ ⟨#[0]⟩ = nul (i + 1):=by
 apply ByteArray.ext
 simp [nul,ByteArray.data_append]
 apply Array.ext'
 simp [List.replicate_succ']

theorem zi4 (n : Nat) (hn : n ≤ 1000) : evF C F_q2o [.d (.i .i64 (n : Int))] [] = some (.d (.s (nul n)),[]):=by
 rw [zaa (rfl : C F_q2o = some a_q2o) _ _ rfl]
 simp +decide only [c_q2o,Pk.EVL,Pk.EVD,↓reduceIte]
 simp only [Option.bind_assoc]
 refine zaf (zac (fun i T H => lk T 0 = .d (.i .i64 (n : Nat)) ∧ lk T 3 = .d (.s (nul i)) ∧ lk T 4 = .d (.i .i64 (i : Nat)) ∧ H = []) (fun e T H => e = .exit 0 ∧ lk T 3 = .d (.s (nul n)) ∧ H = []) n ?_ ?_ n 0 _ _ (by omega) ⟨rfl,rfl,rfl,rfl⟩) ?_
 ·rintro i T H hi ⟨h0, h3, h4, rfl⟩
  have hd : decide ((i : Int) < (n : Int)) = true:=by simp; omega
  have hw : IntKind.i64.wrap ((i : Int) + 1) = ((i + 1 : Nat) : Int):=wi64 (by omega)
  have hl : ((nul i).size + (ByteArray.mk #[0]).size ≤ LIM) = True:=by simp [zcz,LIM]; show i + 1 ≤ _; omega
  have hs:=nul_succ i
  simp +decide only [zpd,zqc,h0,h3,h4,hd,hw,hl,hs,Pk.EVL,Pk.EVD,↓reduceIte]
  refine ⟨_,_,_,rfl,?_⟩
  exact .inl ⟨rfl,rfl,rfl,rfl,rfl⟩
 ·rintro T H ⟨h0, h3, h4, rfl⟩
  have hd : decide ((n : Int) < (n : Int)) = false:=by simp
  simp +decide only [zpd,zqc,h0,h3,h4,Pk.EVL,Pk.EVD,↓reduceIte]
  refine ⟨_,_,_,rfl,?_⟩
  exact ⟨by simp,rfl,rfl,rfl⟩
 ·rintro e T H ⟨rfl, h3, rfl⟩
  simp +decide only [h3,Pk.EVL,Pk.EVD,↓reduceIte]

def pad (s : ByteArray) (a : Nat) : ByteArray:=if s.size < a then s ++ nul (a - s.size) else s
theorem pad_eq (s : ByteArray) (a : Nat) : pad s a = grown s a:=by
 unfold pad grown
 split
 ·rfl
 ·rw [show a - s.size = 0 by omega]
  apply ByteArray.ext
  simp [nul,ByteArray.data_append]
def refSplice (s : ByteArray) (a : Nat) (d : ByteArray) : ByteArray :=
 (pad s a).extract 0 a ++ d ++ (if (pad s a).size > a + d.size then (pad s a).extract (a + d.size) (pad s a).size else ⟨#[]⟩)

theorem ba_list {x y : ByteArray} (h : x.data.toList = y.data.toList) : x = y:=ByteArray.ext (Array.ext' h)
theorem zjf (x : ByteArray) (a b : Nat) : (x.extract a b).data.toList = (x.data.toList.take b).drop a:=by
 rw [ByteArray.data_extract,Array.toList_extract,List.extract_eq_drop_take,List.drop_take]
theorem ba_append (x y : ByteArray) : (x ++ y).data.toList = x.data.toList ++ y.data.toList:=by
 rw [ByteArray.data_append,Array.toList_append]
theorem ba_nul (n : Nat) : (nul n).data.toList = List.replicate n 0:=rfl
theorem ba_len (x : ByteArray) : x.data.toList.length = x.size:=Array.length_toList

theorem zon (s : ByteArray) (a : Nat) (d : ByteArray) : refSplice s a d = splice s a d:=by
 unfold refSplice splice
 rw [pad_eq]
 have h1 : (grown s a).extract 0 a = (grown s (a + d.size)).extract 0 a:=by
  apply ba_list
  simp only [zjf,grown,ba_append,ba_nul,List.drop_zero]
  have:=ba_len s
  generalize s.data.toList = l at *
  rw [List.take_append,List.take_append,List.take_replicate,List.take_replicate,this]
  congr 2
  omega
 have h2 : (if (grown s a).size > a + d.size then (grown s a).extract (a + d.size) (grown s a).size else ⟨#[]⟩) = (grown s (a + d.size)).extract (a + d.size) (grown s (a + d.size)).size:=by
  have g1:=zba s a
  have g2:=zba s (a + d.size)
  split
  ·have e : grown s a = grown s (a + d.size) := by
    unfold grown
    rw [show a - s.size = 0 by omega,show a + d.size - s.size = 0 by omega]
   rw [e]
  ·apply ba_list
   rw [zjf,List.take_of_length_le (by rw [ba_len]; exact Nat.le_refl _),List.drop_of_length_le (by rw [ba_len]; omega)]
 rw [h1,h2]

theorem change_at (x : Objt) (o : Opr) (ho : o.ok) (hx : x.data.size ≤ 300) (hd : o.data.size ≤ 16) : evF C F_q2m [.d (.agg x.cs),.d (.agg o.cs)] [] =
  some (.tup [.d (.agg (doO x o).1.cs),.d (.i .u8 (doO x o).2)],[]):=by
 rw [zaa (rfl : C F_q2m = some a_q2m) _ _ rfl]
 obtain ⟨a,ha,hal⟩ : ∃ a : Nat,o.at_ = (a : Int) ∧ a < 256:=⟨o.at_.toNat,by have:=ho; simp only [Opr.ok] at this; omega,by have:=ho; simp only [Opr.ok] at this; omega⟩
 have w0 : IntKind.i64.wrap (a : Int) = (a : Int):=wi64 (by omega)
 have w1 : IntKind.i64.wrap ((a : Int) + (o.data.size : Int)) = ((a + o.data.size : Nat) : Int):=by rw [wi64 (by omega)]; omega
 unfold doO
 by_cases k1 : o.kind = 1
 ·rw [if_pos k1]
  unfold writeO
  by_cases c : o.at_ + (o.data.size : Int) > 16
  ·have hd : decide (((a + o.data.size : Nat) : Int) > 16) = true := by simp; omega
   rw [if_pos c]
   simp +decide only [c_q2m,k1,ha,w0,w1,hd,Pk.EVL,Pk.EVD,↓reduceIte,Nat.reduceAdd,Pk.TY_Opr,Pk.TY_Objt]
  ·have hd : decide (((a + o.data.size : Nat) : Int) > 16) = false := by simp; omega
   rw [if_neg c,← zon]
   simp only [ha,Int.toNat_natCast]
   unfold refSplice pad
   by_cases c2 : x.data.size < a
   ·have hd2 : decide ((x.data.size : Int) < (a : Int)) = true := by simp; omega
    have w2 : IntKind.i64.wrap ((a : Int) - (x.data.size : Int)) = ((a - x.data.size : Nat) : Int):=by rw [wi64 (by omega)]; omega
    have hn:=zi4 (a - x.data.size) (by omega)
    have l0 : (x.data.size + (nul (a - x.data.size)).size ≤ LIM) = True:=by simp [zcz,LIM]; omega
    rw [if_pos c2]
    have hg : (x.data ++ nul (a - x.data.size)).size = a:=by rw [ByteArray.size_append,zcz]; omega
    generalize hgg : x.data ++ nul (a - x.data.size) = g at *
    rw [if_neg (by omega)]
    have hd3 : decide ((g.size : Int) > ((a + o.data.size : Nat) : Int)) = false:=by simp; omega
    have b1 : (0 ≤ (a : Int) ∧ (a : Int) ≤ (g.size : Int)) = True:=by simp; omega
    have l1 : ((g.extract 0 a).size + o.data.size ≤ LIM) = True:=by simp [LIM]; omega
    have l2 : ((g.extract 0 a ++ o.data).size + (ByteArray.mk #[]).size ≤ LIM) = True:=by simp [LIM]; show _ + 0 ≤ _; omega
    simp +decide only [c_q2m,k1,ha,w0,w1,hd,hd2,w2,hn,l0,hgg,hd3,b1,l1,l2,Int.toNat_natCast,Pk.EVL,Pk.EVD,↓reduceIte,Nat.reduceAdd,Nat.reduceLeDiff,Pk.TY_Opr,Pk.TY_Objt]
   ·have hd2 : decide ((x.data.size : Int) < (a : Int)) = false := by simp; omega
    rw [if_neg c2]
    have b1 : (0 ≤ (a : Int) ∧ (a : Int) ≤ (x.data.size : Int)) = True:=by simp; omega
    have l1 : ((x.data.extract 0 a).size + o.data.size ≤ LIM) = True:=by simp [LIM]; omega
    by_cases c3 : x.data.size > a + o.data.size
    ·have hd3 : decide ((x.data.size : Int) > ((a + o.data.size : Nat) : Int)) = true := by simp; omega
     rw [if_pos c3]
     have b2 : (0 ≤ ((a + o.data.size : Nat) : Int) ∧ ((a + o.data.size : Nat) : Int) ≤ (x.data.size : Int)) = True:=by simp; omega
     have l2 : ((x.data.extract 0 a ++ o.data).size + (x.data.extract (a + o.data.size) x.data.size).size ≤ LIM) = True:=by simp [LIM]; omega
     simp +decide only [c_q2m,k1,ha,w0,w1,hd,hd2,hd3,b1,b2,l1,l2,Int.toNat_natCast,Pk.EVL,Pk.EVD,↓reduceIte,Nat.reduceAdd,Nat.reduceLeDiff,Pk.TY_Opr,Pk.TY_Objt]
    ·have hd3 : decide ((x.data.size : Int) > ((a + o.data.size : Nat) : Int)) = false := by simp; omega
     rw [if_neg c3]
     have l2 : ((x.data.extract 0 a ++ o.data).size + (ByteArray.mk #[]).size ≤ LIM) = True:=by simp [LIM]; show _ + 0 ≤ _; omega
     simp +decide only [c_q2m,k1,ha,w0,w1,hd,hd2,hd3,b1,l1,l2,Int.toNat_natCast,Pk.EVL,Pk.EVD,↓reduceIte,Nat.reduceAdd,Nat.reduceLeDiff,Pk.TY_Opr,Pk.TY_Objt]
 ·have k1' : (o.kind == 1) = false := by simp [k1]
  rw [if_neg k1]
  by_cases k2 : o.kind = 2
  ·rw [if_pos k2]
   unfold truncO
   by_cases ht : x.there = false
   ·rw [if_pos ht]
    simp +decide only [c_q2m,k2,ht,ha,w0,Pk.EVL,Pk.EVD,↓reduceIte,Nat.reduceAdd,Pk.TY_Opr,Pk.TY_Objt]
   ·have ht' : x.there = true := by simpa using ht
    rw [if_neg ht]
    by_cases c : o.at_ > 16
    ·have hd : decide ((a : Int) > 16) = true := by simp; omega
     rw [if_pos c]
     simp +decide only [c_q2m,k2,ht',ha,w0,hd,Pk.EVL,Pk.EVD,↓reduceIte,Nat.reduceAdd,Pk.TY_Opr,Pk.TY_Objt]
    ·have hd : decide ((a : Int) > 16) = false := by simp; omega
     rw [if_neg c,← pad_eq]
     simp only [ha,Int.toNat_natCast]
     unfold pad
     by_cases c2 : x.data.size < a
     ·have hd2 : decide ((x.data.size : Int) < (a : Int)) = true := by simp; omega
      have w2 : IntKind.i64.wrap ((a : Int) - (x.data.size : Int)) = ((a - x.data.size : Nat) : Int):=by rw [wi64 (by omega)]; omega
      have hn:=zi4 (a - x.data.size) (by omega)
      have l0 : (x.data.size + (nul (a - x.data.size)).size ≤ LIM) = True:=by simp [zcz,LIM]; omega
      rw [if_pos c2]
      have hg : (x.data ++ nul (a - x.data.size)).size = a:=by rw [ByteArray.size_append,zcz]; omega
      generalize hgg : x.data ++ nul (a - x.data.size) = g at *
      have b1 : (0 ≤ (a : Int) ∧ (a : Int) ≤ (g.size : Int)) = True:=by simp; omega
      simp +decide only [c_q2m,k2,ht',ha,w0,hd,hd2,w2,hn,l0,hgg,b1,Int.toNat_natCast,Pk.EVL,Pk.EVD,↓reduceIte,Nat.reduceAdd,Nat.reduceLeDiff,Pk.TY_Opr,Pk.TY_Objt]
     ·have hd2 : decide ((x.data.size : Int) < (a : Int)) = false := by simp; omega
      rw [if_neg c2]
      have b1 : (0 ≤ (a : Int) ∧ (a : Int) ≤ (x.data.size : Int)) = True:=by simp; omega
      simp +decide only [c_q2m,k2,ht',ha,w0,hd,hd2,b1,Int.toNat_natCast,Pk.EVL,Pk.EVD,↓reduceIte,Nat.reduceAdd,Nat.reduceLeDiff,Pk.TY_Opr,Pk.TY_Objt]
  ·have k2' : (o.kind == 2) = false := by simp [k2]
   rw [if_neg k2]
   by_cases k3 : o.kind = 3
   ·rw [if_pos k3]
    unfold attrO
    by_cases c : o.at_ ≥ 3
    ·have hd : decide ((a : Int) ≥ 3) = true := by simp; omega
     rw [if_pos c]
     simp +decide only [c_q2m,k3,ha,w0,hd,Pk.EVL,Pk.EVD,↓reduceIte,Nat.reduceAdd,Pk.TY_Opr,Pk.TY_Objt]
    ·have hd : decide ((a : Int) ≥ 3) = false := by simp; omega
     rw [if_neg c]
     by_cases ht : x.there = false
     ·rw [if_pos ht]
      simp +decide only [c_q2m,k3,ht,ha,w0,hd,Pk.EVL,Pk.EVD,↓reduceIte,Nat.reduceAdd,Pk.TY_Opr,Pk.TY_Objt]
     ·have ht' : x.there = true := by simpa using ht
      rw [if_neg ht]
      simp only [ha,Int.toNat_natCast]
      have hi : a < 3:=by omega
      have hb : (0 ≤ (a : Int) ∧ (a : Int) < ((3 : Nat) : Int)) = True:=by simp; omega
      have hs : (2 + a + 1 ≤ 5) = True:=by simp; omega
      simp +decide only [c_q2m,k3,ht',ha,w0,hd,hi,hb,hs,Nat.mul_one,Int.toNat_natCast,Pk.EVL,Pk.EVD,↓reduceIte,Nat.reduceAdd,Pk.TY_Opr,Pk.TY_Objt]
   ·have k3' : (o.kind == 3) = false := by simp [k3]
    rw [if_neg k3]
    unfold removeO
    by_cases ht : x.there = false
    ·rw [if_pos ht]
     simp +decide only [c_q2m,k1',k2',k3',ht,ha,w0,Pk.EVL,Pk.EVD,↓reduceIte,Nat.reduceAdd,Pk.TY_Opr,Pk.TY_Objt]
    ·have ht' : x.there = true := by simpa using ht
     rw [if_neg ht]
     simp +decide only [c_q2m,k1',k2',k3',ht',ha,w0,Pk.EVL,Pk.EVD,↓reduceIte,Nat.reduceAdd,Pk.TY_Opr,Pk.TY_Objt]
     rfl

theorem refDo_at (b : Base) (o : Opr) (hb : Base.fit b) (ho : o.ok) : evF C F_q2c [.d (.agg b.cs),.d (.agg o.cs)] [] = some (.tup [.d (.agg (doOp b o).1.cs),.d (.agg (doOp b o).2.cs)],[]):=by
 rw [zaa (rfl : C F_q2c = some a_q2c) _ _ rfl]
 have hwr:=zdi o ho
 have hsn:=zsw b o ho
 unfold doOp
 rcases Bool.eq_false_or_eq_true (writes o) with hw | hw
 ·obtain ⟨k, hk, hk', hk3⟩ := zds hw
  obtain ⟨j,hj,hj',hj6⟩:=zks ho hw
  rw [← hk',← hj']
  have b1 : (0 ≤ (k : Int) ∧ (k : Int) < ((3 : Nat) : Int)) = True:=by simp; omega
  have b2 : (30 + k * 3 + 3 ≤ 39) = True:=by simp; omega
  have b3 : (0 ≤ (j : Int) ∧ (j : Int) < ((6 : Nat) : Int)) = True:=by simp; omega
  have b4 : (j * 5 + 5 ≤ 39) = True:=by simp; omega
  rcases Bool.eq_false_or_eq_true (seen b o).2 with hs | hs
  ·simp +decide only [c_q2c,hwr,hsn,hw,hs,Pk.EVL,Pk.EVD,↓reduceIte,Nat.reduceAdd,Pk.TY_Opr,Pk.TY_Base,Pk.TY_Res]
  ·have hdo := change_at (b.objs.get j) o ho (hb j hj6).1 (zei (zbg hw)).1
   simp +decide only [c_q2c,hwr,hsn,hdo,hw,hs,hk,hk3,hj,hj6,b1,b2,b3,b4,Int.toNat_natCast,Pk.EVL,Pk.EVD,↓reduceIte,Nat.reduceAdd,Pk.TY_Opr,Pk.TY_Base,Pk.TY_Res,Pk.TY_Last,Pk.TY_Objt]
 ·simp +decide only [c_q2c,hwr,hw,Pk.EVL,Pk.EVD,↓reduceIte,Nat.reduceAdd,Pk.TY_Opr,Pk.TY_Base,Pk.TY_Res]
end Go.Proofs.YthlpognahlnaaaaGreat

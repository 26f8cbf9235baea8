/- The document's operations on objects compute the same. -/
import Derived.Test.YthlpognahlnaaaaGreatPkEvd
import Derived.Test.YthlpognahlnaaaaGreatObjPlain
set_option linter.all false
namespace Go.Proofs.YthlpognahlnaaaaGreat
open Pv Go Pk
set_option maxRecDepth 10000
set_option maxHeartbeats 1000000

def refIsOp (o : Opr) : Bool :=
 if (decide (o.client < 1) || decide (o.client > 3) || decide (o.seq < 1) || decide (o.kind < 1) || decide (o.kind > 5) || decide (o.obj ≥ 6) || decide ((o.data.size : Int) > 16)) = true then false
 else if (!(o.kind == 1) && !(o.kind == 3) && !decide (o.data = ⟨#[]⟩)) = true then false
 else (!(o.kind == 4) && !(o.kind == 5)) || (o.at_ == 0)

theorem refIsOp_eq (o : Opr) (ho : o.ok) : refIsOp o = isOp o := by
 have hok := ho
 simp only [Opr.ok] at hok
 have e5 : decide (o = ⟨o.client, o.seq, o.kind, o.obj, 0, ⟨#[]⟩⟩) = ((o.at_ == 0) && decide (o.data = ⟨#[]⟩)) := by
  obtain ⟨a, b, c, d, e, f⟩ := o
  by_cases h1 : e = 0 <;> by_cases h2 : f = ⟨#[]⟩ <;> simp [h1, h2]
 unfold refIsOp isOp
 rw [e5, Bool.eq_iff_iff]
 by_cases h : o.data = ⟨#[]⟩
 ·have hs : o.data.size = 0 := by rw [h]; rfl
  simp [h]
  omega
 ·simp [h]
  omega

theorem refIsOp_at' (o : Opr) : evF C F_q2h [.d (.agg o.cs)] [] = some (.d (.b (refIsOp o)), []) := by
 rw [evF_code (rfl : C F_q2h = some a_q2h) _ _ rfl]
 unfold refIsOp
 rcases Bool.eq_false_or_eq_true (decide (o.client < 1)) with h1 | h1
 ·first
   | (simp +decide only [c_q2h, h1, Pk.EVL, Pk.EVD, ↓reduceIte, reduceCtorEq, Nat.reduceEqDiff, Nat.reduceAdd, Nat.reduceLeDiff, Nat.reduceBNe, Nat.reduceLT, Nat.reduceBEq, Nat.reduceSub, Nat.reduceMul, Int.reduceLT, Int.reduceLE, Int.reduceEq, Int.reduceToNat, Int.reduceNeg, Pk.TY_Opr]; done)
   | (rcases Bool.eq_false_or_eq_true (o.kind == 1) with q1 | q1 <;> rcases Bool.eq_false_or_eq_true (o.kind == 3) with q3 | q3 <;> rcases Bool.eq_false_or_eq_true (decide (o.data = ⟨#[]⟩)) with g3 | g3 <;> rcases Bool.eq_false_or_eq_true (o.kind == 4) with q4 | q4 <;> rcases Bool.eq_false_or_eq_true (o.kind == 5) with q5 | q5 <;>
     simp +decide only [c_q2h, h1, q1, q3, g3, q4, q5, Pk.EVL, Pk.EVD, ↓reduceIte, reduceCtorEq, Nat.reduceEqDiff, Nat.reduceAdd, Nat.reduceLeDiff, Nat.reduceBNe, Nat.reduceLT, Nat.reduceBEq, Nat.reduceSub, Nat.reduceMul, Int.reduceLT, Int.reduceLE, Int.reduceEq, Int.reduceToNat, Int.reduceNeg, Pk.TY_Opr] <;> rfl)
 ·rcases Bool.eq_false_or_eq_true (decide (o.client > 3)) with h2 | h2
  ·first
    | (simp +decide only [c_q2h, h1, h2, Pk.EVL, Pk.EVD, ↓reduceIte, reduceCtorEq, Nat.reduceEqDiff, Nat.reduceAdd, Nat.reduceLeDiff, Nat.reduceBNe, Nat.reduceLT, Nat.reduceBEq, Nat.reduceSub, Nat.reduceMul, Int.reduceLT, Int.reduceLE, Int.reduceEq, Int.reduceToNat, Int.reduceNeg, Pk.TY_Opr]; done)
    | (rcases Bool.eq_false_or_eq_true (o.kind == 1) with q1 | q1 <;> rcases Bool.eq_false_or_eq_true (o.kind == 3) with q3 | q3 <;> rcases Bool.eq_false_or_eq_true (decide (o.data = ⟨#[]⟩)) with g3 | g3 <;> rcases Bool.eq_false_or_eq_true (o.kind == 4) with q4 | q4 <;> rcases Bool.eq_false_or_eq_true (o.kind == 5) with q5 | q5 <;>
      simp +decide only [c_q2h, h1, h2, q1, q3, g3, q4, q5, Pk.EVL, Pk.EVD, ↓reduceIte, reduceCtorEq, Nat.reduceEqDiff, Nat.reduceAdd, Nat.reduceLeDiff, Nat.reduceBNe, Nat.reduceLT, Nat.reduceBEq, Nat.reduceSub, Nat.reduceMul, Int.reduceLT, Int.reduceLE, Int.reduceEq, Int.reduceToNat, Int.reduceNeg, Pk.TY_Opr] <;> rfl)
  ·rcases Bool.eq_false_or_eq_true (decide (o.seq < 1)) with h3 | h3
   ·first
     | (simp +decide only [c_q2h, h1, h2, h3, Pk.EVL, Pk.EVD, ↓reduceIte, reduceCtorEq, Nat.reduceEqDiff, Nat.reduceAdd, Nat.reduceLeDiff, Nat.reduceBNe, Nat.reduceLT, Nat.reduceBEq, Nat.reduceSub, Nat.reduceMul, Int.reduceLT, Int.reduceLE, Int.reduceEq, Int.reduceToNat, Int.reduceNeg, Pk.TY_Opr]; done)
     | (rcases Bool.eq_false_or_eq_true (o.kind == 1) with q1 | q1 <;> rcases Bool.eq_false_or_eq_true (o.kind == 3) with q3 | q3 <;> rcases Bool.eq_false_or_eq_true (decide (o.data = ⟨#[]⟩)) with g3 | g3 <;> rcases Bool.eq_false_or_eq_true (o.kind == 4) with q4 | q4 <;> rcases Bool.eq_false_or_eq_true (o.kind == 5) with q5 | q5 <;>
       simp +decide only [c_q2h, h1, h2, h3, q1, q3, g3, q4, q5, Pk.EVL, Pk.EVD, ↓reduceIte, reduceCtorEq, Nat.reduceEqDiff, Nat.reduceAdd, Nat.reduceLeDiff, Nat.reduceBNe, Nat.reduceLT, Nat.reduceBEq, Nat.reduceSub, Nat.reduceMul, Int.reduceLT, Int.reduceLE, Int.reduceEq, Int.reduceToNat, Int.reduceNeg, Pk.TY_Opr] <;> rfl)
   ·rcases Bool.eq_false_or_eq_true (decide (o.kind < 1)) with h4 | h4
    ·first
      | (simp +decide only [c_q2h, h1, h2, h3, h4, Pk.EVL, Pk.EVD, ↓reduceIte, reduceCtorEq, Nat.reduceEqDiff, Nat.reduceAdd, Nat.reduceLeDiff, Nat.reduceBNe, Nat.reduceLT, Nat.reduceBEq, Nat.reduceSub, Nat.reduceMul, Int.reduceLT, Int.reduceLE, Int.reduceEq, Int.reduceToNat, Int.reduceNeg, Pk.TY_Opr]; done)
      | (rcases Bool.eq_false_or_eq_true (o.kind == 1) with q1 | q1 <;> rcases Bool.eq_false_or_eq_true (o.kind == 3) with q3 | q3 <;> rcases Bool.eq_false_or_eq_true (decide (o.data = ⟨#[]⟩)) with g3 | g3 <;> rcases Bool.eq_false_or_eq_true (o.kind == 4) with q4 | q4 <;> rcases Bool.eq_false_or_eq_true (o.kind == 5) with q5 | q5 <;>
        simp +decide only [c_q2h, h1, h2, h3, h4, q1, q3, g3, q4, q5, Pk.EVL, Pk.EVD, ↓reduceIte, reduceCtorEq, Nat.reduceEqDiff, Nat.reduceAdd, Nat.reduceLeDiff, Nat.reduceBNe, Nat.reduceLT, Nat.reduceBEq, Nat.reduceSub, Nat.reduceMul, Int.reduceLT, Int.reduceLE, Int.reduceEq, Int.reduceToNat, Int.reduceNeg, Pk.TY_Opr] <;> rfl)
    ·rcases Bool.eq_false_or_eq_true (decide (o.kind > 5)) with h5 | h5
     ·first
       | (simp +decide only [c_q2h, h1, h2, h3, h4, h5, Pk.EVL, Pk.EVD, ↓reduceIte, reduceCtorEq, Nat.reduceEqDiff, Nat.reduceAdd, Nat.reduceLeDiff, Nat.reduceBNe, Nat.reduceLT, Nat.reduceBEq, Nat.reduceSub, Nat.reduceMul, Int.reduceLT, Int.reduceLE, Int.reduceEq, Int.reduceToNat, Int.reduceNeg, Pk.TY_Opr]; done)
       | (rcases Bool.eq_false_or_eq_true (o.kind == 1) with q1 | q1 <;> rcases Bool.eq_false_or_eq_true (o.kind == 3) with q3 | q3 <;> rcases Bool.eq_false_or_eq_true (decide (o.data = ⟨#[]⟩)) with g3 | g3 <;> rcases Bool.eq_false_or_eq_true (o.kind == 4) with q4 | q4 <;> rcases Bool.eq_false_or_eq_true (o.kind == 5) with q5 | q5 <;>
         simp +decide only [c_q2h, h1, h2, h3, h4, h5, q1, q3, g3, q4, q5, Pk.EVL, Pk.EVD, ↓reduceIte, reduceCtorEq, Nat.reduceEqDiff, Nat.reduceAdd, Nat.reduceLeDiff, Nat.reduceBNe, Nat.reduceLT, Nat.reduceBEq, Nat.reduceSub, Nat.reduceMul, Int.reduceLT, Int.reduceLE, Int.reduceEq, Int.reduceToNat, Int.reduceNeg, Pk.TY_Opr] <;> rfl)
     ·rcases Bool.eq_false_or_eq_true (decide (o.obj ≥ 6)) with h6 | h6
      ·first
        | (simp +decide only [c_q2h, h1, h2, h3, h4, h5, h6, Pk.EVL, Pk.EVD, ↓reduceIte, reduceCtorEq, Nat.reduceEqDiff, Nat.reduceAdd, Nat.reduceLeDiff, Nat.reduceBNe, Nat.reduceLT, Nat.reduceBEq, Nat.reduceSub, Nat.reduceMul, Int.reduceLT, Int.reduceLE, Int.reduceEq, Int.reduceToNat, Int.reduceNeg, Pk.TY_Opr]; done)
        | (rcases Bool.eq_false_or_eq_true (o.kind == 1) with q1 | q1 <;> rcases Bool.eq_false_or_eq_true (o.kind == 3) with q3 | q3 <;> rcases Bool.eq_false_or_eq_true (decide (o.data = ⟨#[]⟩)) with g3 | g3 <;> rcases Bool.eq_false_or_eq_true (o.kind == 4) with q4 | q4 <;> rcases Bool.eq_false_or_eq_true (o.kind == 5) with q5 | q5 <;>
          simp +decide only [c_q2h, h1, h2, h3, h4, h5, h6, q1, q3, g3, q4, q5, Pk.EVL, Pk.EVD, ↓reduceIte, reduceCtorEq, Nat.reduceEqDiff, Nat.reduceAdd, Nat.reduceLeDiff, Nat.reduceBNe, Nat.reduceLT, Nat.reduceBEq, Nat.reduceSub, Nat.reduceMul, Int.reduceLT, Int.reduceLE, Int.reduceEq, Int.reduceToNat, Int.reduceNeg, Pk.TY_Opr] <;> rfl)
      ·rcases Bool.eq_false_or_eq_true (decide ((o.data.size : Int) > 16)) with h7 | h7
       ·first
         | (simp +decide only [c_q2h, h1, h2, h3, h4, h5, h6, h7, Pk.EVL, Pk.EVD, ↓reduceIte, reduceCtorEq, Nat.reduceEqDiff, Nat.reduceAdd, Nat.reduceLeDiff, Nat.reduceBNe, Nat.reduceLT, Nat.reduceBEq, Nat.reduceSub, Nat.reduceMul, Int.reduceLT, Int.reduceLE, Int.reduceEq, Int.reduceToNat, Int.reduceNeg, Pk.TY_Opr]; done)
         | (rcases Bool.eq_false_or_eq_true (o.kind == 1) with q1 | q1 <;> rcases Bool.eq_false_or_eq_true (o.kind == 3) with q3 | q3 <;> rcases Bool.eq_false_or_eq_true (decide (o.data = ⟨#[]⟩)) with g3 | g3 <;> rcases Bool.eq_false_or_eq_true (o.kind == 4) with q4 | q4 <;> rcases Bool.eq_false_or_eq_true (o.kind == 5) with q5 | q5 <;>
           simp +decide only [c_q2h, h1, h2, h3, h4, h5, h6, h7, q1, q3, g3, q4, q5, Pk.EVL, Pk.EVD, ↓reduceIte, reduceCtorEq, Nat.reduceEqDiff, Nat.reduceAdd, Nat.reduceLeDiff, Nat.reduceBNe, Nat.reduceLT, Nat.reduceBEq, Nat.reduceSub, Nat.reduceMul, Int.reduceLT, Int.reduceLE, Int.reduceEq, Int.reduceToNat, Int.reduceNeg, Pk.TY_Opr] <;> rfl)
       ·first
         | (simp +decide only [c_q2h, h1, h2, h3, h4, h5, h6, h7, Pk.EVL, Pk.EVD, ↓reduceIte, reduceCtorEq, Nat.reduceEqDiff, Nat.reduceAdd, Nat.reduceLeDiff, Nat.reduceBNe, Nat.reduceLT, Nat.reduceBEq, Nat.reduceSub, Nat.reduceMul, Int.reduceLT, Int.reduceLE, Int.reduceEq, Int.reduceToNat, Int.reduceNeg, Pk.TY_Opr]; done)
         | (rcases Bool.eq_false_or_eq_true (o.kind == 1) with q1 | q1 <;> rcases Bool.eq_false_or_eq_true (o.kind == 3) with q3 | q3 <;> rcases Bool.eq_false_or_eq_true (decide (o.data = ⟨#[]⟩)) with g3 | g3 <;> rcases Bool.eq_false_or_eq_true (o.kind == 4) with q4 | q4 <;> rcases Bool.eq_false_or_eq_true (o.kind == 5) with q5 | q5 <;>
           simp +decide only [c_q2h, h1, h2, h3, h4, h5, h6, h7, q1, q3, g3, q4, q5, Pk.EVL, Pk.EVD, ↓reduceIte, reduceCtorEq, Nat.reduceEqDiff, Nat.reduceAdd, Nat.reduceLeDiff, Nat.reduceBNe, Nat.reduceLT, Nat.reduceBEq, Nat.reduceSub, Nat.reduceMul, Int.reduceLT, Int.reduceLE, Int.reduceEq, Int.reduceToNat, Int.reduceNeg, Pk.TY_Opr] <;> rfl)
theorem refIsOp_at (o : Opr) (ho : o.ok) : evF C F_q2h [.d (.agg o.cs)] [] = some (.d (.b (isOp o)), []) := by rw [← refIsOp_eq o ho]; exact refIsOp_at' o

theorem refWrites_at (o : Opr) (ho : o.ok) : evF C F_q2l [.d (.agg o.cs)] [] = some (.d (.b (writes o)), []) := by
 rw [evF_code (rfl : C F_q2l = some a_q2l) _ _ rfl]
 unfold writes
 have := refIsOp_at o ho
 rcases Bool.eq_false_or_eq_true (isOp o) with h1 | h1
 ·simp +decide only [c_q2l, this, h1, Pk.EVL, Pk.EVD, ↓reduceIte, reduceCtorEq, Nat.reduceEqDiff, Nat.reduceAdd, Nat.reduceLeDiff, Nat.reduceBNe, Nat.reduceLT, Nat.reduceBEq, Nat.reduceSub, Nat.reduceMul, Int.reduceLT, Int.reduceLE, Int.reduceEq, Int.reduceToNat, Int.reduceNeg, Pk.TY_Opr]
  try simp
 ·simp +decide only [c_q2l, this, h1, Pk.EVL, Pk.EVD, ↓reduceIte, reduceCtorEq, Nat.reduceEqDiff, Nat.reduceAdd, Nat.reduceLeDiff, Nat.reduceBNe, Nat.reduceLT, Nat.reduceBEq, Nat.reduceSub, Nat.reduceMul, Int.reduceLT, Int.reduceLE, Int.reduceEq, Int.reduceToNat, Int.reduceNeg, Pk.TY_Opr]
  try simp

def pad (s : ByteArray) (a : Nat) : ByteArray := if s.size < a then s ++ nul (a - s.size) else s
def refSplice (s : ByteArray) (a : Nat) (d : ByteArray) : ByteArray :=
 (pad s a).extract 0 a ++ d ++ (if (pad s a).size > a + d.size then (pad s a).extract (a + d.size) (pad s a).size else ⟨#[]⟩)

end Go.Proofs.YthlpognahlnaaaaGreat

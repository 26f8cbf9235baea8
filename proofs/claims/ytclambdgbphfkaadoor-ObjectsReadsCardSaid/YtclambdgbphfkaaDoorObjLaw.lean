/- The objects layer's laws answer true. -/
import Derived.Test.YtclambdgbphfkaaDoorObjPlain
import Derived.Test.YtclambdgbphfkaaDoorObjAll
set_option linter.all false
namespace Go.Proofs.YtclambdgbphfkaaDoor
open Pv Go Pk
set_option maxRecDepth 10000
set_option maxHeartbeats 2000000

def kO1 : Opr := ⟨1, 1, 1, 0, 1, ⟨#[97, 98]⟩⟩
def kO2 : Opr := ⟨2, 1, 4, 3, 0, ⟨#[]⟩⟩
theorem known_at : evF C F_paddocklaw6_known [] [] = some (.d (.b true), []) := by
  rw [evF_code (rfl : C F_paddocklaw6_known = some a_paddocklaw6_known) _ _ rfl]
  have h1 := doOp_at Base.zero kO1 zero_fit (by simp [Opr.ok, kO1]; decide)
  have h2 := doOp_at (doOp Base.zero kO1).1 kO2 (doOp_fit zero_fit (by simp [Opr.ok, kO1]; decide)) (by simp [Opr.ok, kO2]; decide)
  have f1 : ((doOp Base.zero kO1).2.code == 0) = true := by decide +kernel
  have f2 : ((doOp Base.zero kO1).1.objs.get 0).there = true := by decide +kernel
  have f3 : decide (((doOp Base.zero kO1).1.objs.get 0).data = ⟨#[0, 97, 98]⟩) = true := by decide +kernel
  have f4 : (((doOp Base.zero kO1).1.last.get 0).seq == 1) = true := by decide +kernel
  have f5 : ((doOp (doOp Base.zero kO1).1 kO2).2.code == 1) = true := by decide +kernel
  have r0 : ∀ b : Base, b.cs[0]? = some (.b (b.objs.get 0).there) := fun _ => rfl
  have r1 : ∀ b : Base, b.cs[1]? = some (.s (b.objs.get 0).data) := fun _ => rfl
  have r30 : ∀ b : Base, b.cs[30]? = some (.i .u32 (b.last.get 0).seq) := fun _ => rfl
  generalize doOp (doOp Base.zero kO1).1 kO2 = q at *
  generalize doOp Base.zero kO1 = p at *
  simp (config := {decide := true}) only [c_paddocklaw6_known, show Opr.mk 1 1 1 0 1 ⟨#[97, 98]⟩ = kO1 from rfl, show Opr.mk 2 1 4 3 0 ⟨#[]⟩ = kO2 from rfl, h1, h2, f1, f2, f3, f4, f5, r0, r1, r30, Nat.zero_mul, Pk.EVL, keepT, enum, ↓reduceIte, ev, act, appT, callee, toDs, toD, loadA, storeA, subA, subD, updA, Eff.on, resA, resVs, resV, lk, finish, frzR, frzVs, frzV, fznR, fzns, fzn, lts, lt, ltO, List.all, pairsOk, indep, reduceCtorEq, Nat.reduceEqDiff, Nat.reduceAdd, Nat.reduceLeDiff, stb, thaws, List.drop, intOfA, binD, binI, unD, mmL, buildA, mkAgg, allD, bslD, behind, behind0, takeAt, frzAs, frzA, adoptR, adopt, isD, isD0, trim, List.take, binS, sliceA, bnd, zOk, elems, Nat.reduceBNe, inpl, Nat.reduceLT, Nat.reduceBEq, Nat.reduceSub, Nat.reduceMul, Int.reduceLT, Int.reduceLE, Int.reduceEq, Int.reduceToNat, Int.reduceNeg, thaw, nodup, refsV, adopts, Pk.TY_Opr, Pk.TY_Base, Pk.TY_Res]

theorem few {l : List Opr} {n : Nat} (h : decide ((l.length : Int) > (n : Int)) = false) : l.length ≤ n := by simp at h; omega

end Go.Proofs.YtclambdgbphfkaaDoor

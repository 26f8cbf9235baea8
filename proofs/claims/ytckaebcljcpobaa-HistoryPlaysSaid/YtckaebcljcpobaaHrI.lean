/- Maps as lists of daemons; none moves of itself. / The document's maps: which are maps (the reference's Is). -/
import Derived.Test.YtckaebcljcpobaaPlaceD
set_option linter.all false
namespace Go.Proofs.Ytckaebcljcpobaa
open Pv Go
set_option maxRecDepth 10000
set_option maxHeartbeats 1000000
def osL (m : Pk.Mp) : List Osd := [⟨m.osds.a0.up, m.osds.a0.weight, m.osds.a0.host⟩, ⟨m.osds.a1.up, m.osds.a1.weight, m.osds.a1.host⟩, ⟨m.osds.a2.up, m.osds.a2.weight, m.osds.a2.host⟩, ⟨m.osds.a3.up, m.osds.a3.weight, m.osds.a3.host⟩, ⟨m.osds.a4.up, m.osds.a4.weight, m.osds.a4.host⟩]
end Go.Proofs.Ytckaebcljcpobaa

namespace Go.Proofs.Ytckaebcljcpobaa
open Pv Go Pk
set_option maxRecDepth 10000
set_option maxHeartbeats 2000000
def okOs (m : Pk.Mp) (i : Nat) : Bool := !(decide ((m.osds.get i).weight < 0) || (decide ((m.osds.get i).weight > 16) || decide ((m.osds.get i).host ≥ 8)))
theorem oks_allR (m : Pk.Mp) : (osL m).all Osd.ok = allN 5 (okOs m) := rfl
theorem refis_at (m : Pk.Mp) : evF C F_paddockref3_Is [.d (.agg m.cs)] [] = some (.d (.b (isM m.epoch (osL m))), []) := by
  rw [evF_code (rfl : C F_paddockref3_Is = some a_paddockref3_Is) _ _ rfl]
  unfold isM
  rw [oks_allR]
  simp (config := {decide := true}) only [c_paddockref3_Is, Pk.EVL, keepT, enum, ↓reduceIte, ev, act, appT, callee, toDs, toD, loadA, storeA, subA, subD, updA, Eff.on, resA, resVs, resV, lk, finish, frzR, frzVs, frzV, fznR, fzns, fzn, lts, lt, ltO, List.all, pairsOk, indep, reduceCtorEq, Nat.reduceEqDiff, Nat.reduceAdd, Nat.reduceLeDiff, stb, thaws, List.drop, intOfA, binD, binI, unD, mmL, buildA, mkAgg, allD, bslD, behind, behind0, takeAt, frzAs, frzA, adoptR, adopt, isD, isD0, trim, List.take, binS, sliceA, bnd, zOk, elems, Nat.reduceBNe, inpl, Nat.reduceLT, Nat.reduceBEq, Nat.reduceSub, Nat.reduceMul, Int.reduceLT, Int.reduceLE, Int.reduceEq, Int.reduceToNat, Int.reduceNeg, thaw, nodup, refsV, adopts, Pk.TY_Mp, Pk.TY_Osd]
  simp only [Option.bind_assoc]
  refine bind_run (loop_run (fun i T H => lk T 1 = .ptr 0 0 ∧ lk T 3 = .d (.i .i64 (i : Nat)) ∧ (∃ J, H = .box (.d (.agg m.cs)) :: J) ∧ ∀ j < i, okOs m j = true)
    (fun e T H => (e = .exit 0 ∧ lk T 1 = .ptr 0 0 ∧ H = [.box (.d (.agg m.cs))] ∧ allN 5 (okOs m) = true) ∨ (e = .ret ∧ lk T 2 = .d (.b false) ∧ (∃ J, H = .box (.d (.agg m.cs)) :: J) ∧ allN 5 (okOs m) = false)) 5 ?_ ?_ 5 0 _ _ (by omega) ⟨rfl, rfl, ⟨[], rfl⟩, by omega⟩) ?_
  · rintro i T H hi ⟨h1, h3, ⟨J, rfl⟩, hj⟩
    have hd : decide ((i : Int) < 5) = true := by simp; omega
    have hw : IntKind.i64.wrap ((i : Int) + 1) = ((i + 1 : Nat) : Int) := wi64 (by omega)
    have b3 : ((i : Int) < ((5 : Nat) : Int)) = True := by simp; omega
    have b3' : (0 ≤ (i : Int)) = True := by simp
    have b4 : (1 + i * 3 + 3 ≤ 16) = True := by simp; omega
    have hok : okOs m i = !(decide ((m.osds.get i).weight < 0) || (decide ((m.osds.get i).weight > 16) || decide ((m.osds.get i).host ≥ 8))) := rfl
    have fin : okOs m i = true → ∀ j < i + 1, okOs m j = true := fun h j hj' => by
      by_cases e : j = i
      · rw [e]; exact h
      · exact hj j (by omega)
    have bad : okOs m i = false → allN 5 (okOs m) = false := fun h => allN_false fun hh => by rw [hh i hi] at h; simp at h
    have hzz : Osd.zero = (⟨false, 0, 0⟩ : Pk.Osd) := rfl
    rcases Bool.eq_false_or_eq_true (decide ((m.osds.get i).weight < 0)) with q1 | q1
    · simp (config := {decide := true}) only [K_paddockref3_Is_0, l_paddockref3_Is_0, h1, h3, hd, hw, b3, b3', b4, hi, q1, Pk.EVL, keepT, enum, ↓reduceIte, ev, act, appT, callee, toDs, toD, loadA, storeA, subA, subD, updA, Eff.on, resA, resVs, resV, lk, finish, frzR, frzVs, frzV, fznR, fzns, fzn, lts, lt, ltO, List.all, pairsOk, indep, reduceCtorEq, Nat.reduceEqDiff, Nat.reduceAdd, Nat.reduceLeDiff, stb, thaws, List.drop, intOfA, binD, binI, unD, mmL, buildA, mkAgg, allD, bslD, behind, behind0, takeAt, frzAs, frzA, adoptR, adopt, isD, isD0, trim, List.take, binS, sliceA, bnd, zOk, elems, Nat.reduceBNe, inpl, Nat.reduceLT, Nat.reduceBEq, Nat.reduceSub, Nat.reduceMul, Int.reduceLT, Int.reduceLE, Int.reduceEq, Int.reduceToNat, Int.reduceNeg, thaw, nodup, refsV, adopts, Pk.TY_Mp, Pk.TY_Osd]
      refine ⟨_, _, _, rfl, ?_⟩
      exact .inr ⟨by simp, .inr ⟨rfl, rfl, ⟨_, rfl⟩, bad (by rw [hok, q1]; simp)⟩⟩
    rcases Bool.eq_false_or_eq_true (decide ((m.osds.get i).weight > 16)) with q2 | q2
    · simp (config := {decide := true}) only [K_paddockref3_Is_0, l_paddockref3_Is_0, h1, h3, hd, hw, b3, b3', b4, hi, q1, q2, Pk.EVL, keepT, enum, ↓reduceIte, ev, act, appT, callee, toDs, toD, loadA, storeA, subA, subD, updA, Eff.on, resA, resVs, resV, lk, finish, frzR, frzVs, frzV, fznR, fzns, fzn, lts, lt, ltO, List.all, pairsOk, indep, reduceCtorEq, Nat.reduceEqDiff, Nat.reduceAdd, Nat.reduceLeDiff, stb, thaws, List.drop, intOfA, binD, binI, unD, mmL, buildA, mkAgg, allD, bslD, behind, behind0, takeAt, frzAs, frzA, adoptR, adopt, isD, isD0, trim, List.take, binS, sliceA, bnd, zOk, elems, Nat.reduceBNe, inpl, Nat.reduceLT, Nat.reduceBEq, Nat.reduceSub, Nat.reduceMul, Int.reduceLT, Int.reduceLE, Int.reduceEq, Int.reduceToNat, Int.reduceNeg, thaw, nodup, refsV, adopts, Pk.TY_Mp, Pk.TY_Osd]
      refine ⟨_, _, _, rfl, ?_⟩
      exact .inr ⟨by simp, .inr ⟨rfl, rfl, ⟨_, rfl⟩, bad (by rw [hok, q1, q2]; simp)⟩⟩
    rcases Bool.eq_false_or_eq_true (decide ((m.osds.get i).host ≥ 8)) with q3 | q3
    · simp (config := {decide := true}) only [K_paddockref3_Is_0, l_paddockref3_Is_0, h1, h3, hd, hw, b3, b3', b4, hi, q1, q2, q3, Pk.EVL, keepT, enum, ↓reduceIte, ev, act, appT, callee, toDs, toD, loadA, storeA, subA, subD, updA, Eff.on, resA, resVs, resV, lk, finish, frzR, frzVs, frzV, fznR, fzns, fzn, lts, lt, ltO, List.all, pairsOk, indep, reduceCtorEq, Nat.reduceEqDiff, Nat.reduceAdd, Nat.reduceLeDiff, stb, thaws, List.drop, intOfA, binD, binI, unD, mmL, buildA, mkAgg, allD, bslD, behind, behind0, takeAt, frzAs, frzA, adoptR, adopt, isD, isD0, trim, List.take, binS, sliceA, bnd, zOk, elems, Nat.reduceBNe, inpl, Nat.reduceLT, Nat.reduceBEq, Nat.reduceSub, Nat.reduceMul, Int.reduceLT, Int.reduceLE, Int.reduceEq, Int.reduceToNat, Int.reduceNeg, thaw, nodup, refsV, adopts, Pk.TY_Mp, Pk.TY_Osd]
      refine ⟨_, _, _, rfl, ?_⟩
      exact .inr ⟨by simp, .inr ⟨rfl, rfl, ⟨_, rfl⟩, bad (by rw [hok, q1, q2, q3]; simp)⟩⟩
    simp (config := {decide := true}) only [K_paddockref3_Is_0, l_paddockref3_Is_0, h1, h3, hd, hw, b3, b3', b4, hi, q1, q2, q3, Pk.EVL, keepT, enum, ↓reduceIte, ev, act, appT, callee, toDs, toD, loadA, storeA, subA, subD, updA, Eff.on, resA, resVs, resV, lk, finish, frzR, frzVs, frzV, fznR, fzns, fzn, lts, lt, ltO, List.all, pairsOk, indep, reduceCtorEq, Nat.reduceEqDiff, Nat.reduceAdd, Nat.reduceLeDiff, stb, thaws, List.drop, intOfA, binD, binI, unD, mmL, buildA, mkAgg, allD, bslD, behind, behind0, takeAt, frzAs, frzA, adoptR, adopt, isD, isD0, trim, List.take, binS, sliceA, bnd, zOk, elems, Nat.reduceBNe, inpl, Nat.reduceLT, Nat.reduceBEq, Nat.reduceSub, Nat.reduceMul, Int.reduceLT, Int.reduceLE, Int.reduceEq, Int.reduceToNat, Int.reduceNeg, thaw, nodup, refsV, adopts, Pk.TY_Mp, Pk.TY_Osd]
    refine ⟨_, _, _, rfl, ?_⟩
    exact .inl ⟨rfl, rfl, rfl, ⟨_, rfl⟩, fin (by rw [hok, q1, q2, q3]; rfl)⟩
  · rintro T H ⟨h1, h3, ⟨J, rfl⟩, hj⟩
    simp (config := {decide := true}) only [K_paddockref3_Is_0, l_paddockref3_Is_0, h1, h3, Pk.EVL, keepT, enum, ↓reduceIte, ev, act, appT, callee, toDs, toD, loadA, storeA, subA, subD, updA, Eff.on, resA, resVs, resV, lk, finish, frzR, frzVs, frzV, fznR, fzns, fzn, lts, lt, ltO, List.all, pairsOk, indep, reduceCtorEq, Nat.reduceEqDiff, Nat.reduceAdd, Nat.reduceLeDiff, stb, thaws, List.drop, intOfA, binD, binI, unD, mmL, buildA, mkAgg, allD, bslD, behind, behind0, takeAt, frzAs, frzA, adoptR, adopt, isD, isD0, trim, List.take, binS, sliceA, bnd, zOk, elems, Nat.reduceBNe, inpl, Nat.reduceLT, Nat.reduceBEq, Nat.reduceSub, Nat.reduceMul, Int.reduceLT, Int.reduceLE, Int.reduceEq, Int.reduceToNat, Int.reduceNeg, thaw, nodup, refsV, adopts, Pk.TY_Mp, Pk.TY_Osd]
    refine ⟨_, _, _, rfl, ?_⟩
    exact ⟨by simp, .inl ⟨rfl, rfl, rfl, allN_true.2 hj⟩⟩
  rintro e T H (⟨rfl, h1, rfl, ha⟩ | ⟨rfl, h2, ⟨J, rfl⟩, ha⟩)
  · rw [ha]
    rcases Bool.eq_false_or_eq_true (decide (m.epoch ≥ 1)) with c | c <;>
      simp (config := {decide := true}) only [h1, c, Pk.EVL, keepT, enum, ↓reduceIte, ev, act, appT, callee, toDs, toD, loadA, storeA, subA, subD, updA, Eff.on, resA, resVs, resV, lk, finish, frzR, frzVs, frzV, fznR, fzns, fzn, lts, lt, ltO, List.all, pairsOk, indep, reduceCtorEq, Nat.reduceEqDiff, Nat.reduceAdd, Nat.reduceLeDiff, stb, thaws, List.drop, intOfA, binD, binI, unD, mmL, buildA, mkAgg, allD, bslD, behind, behind0, takeAt, frzAs, frzA, adoptR, adopt, isD, isD0, trim, List.take, binS, sliceA, bnd, zOk, elems, Nat.reduceBNe, inpl, Nat.reduceLT, Nat.reduceBEq, Nat.reduceSub, Nat.reduceMul, Int.reduceLT, Int.reduceLE, Int.reduceEq, Int.reduceToNat, Int.reduceNeg, thaw, nodup, refsV, adopts, Pk.TY_Mp, Pk.TY_Osd]
  · rw [ha]
    simp (config := {decide := true}) only [h2, Pk.EVL, keepT, enum, ↓reduceIte, ev, act, appT, callee, toDs, toD, loadA, storeA, subA, subD, updA, Eff.on, resA, resVs, resV, lk, finish, frzR, frzVs, frzV, fznR, fzns, fzn, lts, lt, ltO, List.all, pairsOk, indep, reduceCtorEq, Nat.reduceEqDiff, Nat.reduceAdd, Nat.reduceLeDiff, stb, thaws, List.drop, intOfA, binD, binI, unD, mmL, buildA, mkAgg, allD, bslD, behind, behind0, takeAt, frzAs, frzA, adoptR, adopt, isD, isD0, trim, List.take, binS, sliceA, bnd, zOk, elems, Nat.reduceBNe, inpl, Nat.reduceLT, Nat.reduceBEq, Nat.reduceSub, Nat.reduceMul, Int.reduceLT, Int.reduceLE, Int.reduceEq, Int.reduceToNat, Int.reduceNeg, thaw, nodup, refsV, adopts, Pk.TY_Mp, Pk.TY_Osd]

/-! picks -/
end Go.Proofs.Ytckaebcljcpobaa

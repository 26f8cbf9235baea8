/- One order: entries laid behind the first ones. -/
import Derived.Test.YtlihpaegaikoeaaDoorWtC
import Derived.Test.YtlihpaegaikoeaaDoorPkClone
set_option linter.all false
namespace Go.Proofs.YtlihpaegaikoeaaDoor
open Pv Go Pk
set_option maxRecDepth 10000
set_option maxHeartbeats 2000000

theorem concat_at (a b : List Entry) (ha : a.length ≤ 1000) (hb : b.length ≤ 1000) :
    evF C F_slices_Concat_sapi_Entry_api_Entry [.d (.sl [.sl (a.map Entry.d), .sl (b.map Entry.d)])] [] = some (.d (.sl ((a ++ b).map Entry.d)), []) := by
  rw [evF_code (rfl : C F_slices_Concat_sapi_Entry_api_Entry = some a_slices_Concat_sapi_Entry_api_Entry) _ _ rfl]
  simp (config := {decide := true}) only [c_slices_Concat_sapi_Entry_api_Entry, Pk.EVL, keepT, enum, ↓reduceIte, ev, act, appT, callee, toDs, toD, loadA, storeA, subA, subD, updA, Eff.on, resA, resVs, resV, lk, finish, frzR, frzVs, frzV, fznR, fzns, fzn, lts, lt, ltO, List.all, pairsOk, indep, reduceCtorEq, Nat.reduceEqDiff, Nat.reduceAdd, Nat.reduceLeDiff, stb, thaws, List.drop, intOfA, binD, binI, unD, mmL, buildA, mkAgg, allD, bslD, behind, behind0, takeAt, frzAs, frzA, adoptR, adopt, isD, isD0, trim, List.take, binS, sliceA, bnd, zOk, elems, Nat.reduceBNe, inpl, Nat.reduceLT, Nat.reduceBEq, Nat.reduceSub, Nat.reduceMul, Int.reduceLT, Int.reduceLE, Int.reduceEq, Int.reduceToNat, Int.reduceNeg, thaw, nodup, refsV, adopts, Pk.TY_Entry]
  simp only [Option.bind_assoc]
  refine bind_run (loop_run (fun i T H => lk T 0 = .d (.sl [.sl (a.map Entry.d), .sl (b.map Entry.d)]) ∧ lk T 3 = .d (.i .i64 (((if 1 ≤ i then a.length else 0) + (if 2 ≤ i then b.length else 0) : Nat) : Int)) ∧
      lk T 9 = .d (.sl [.sl (a.map Entry.d), .sl (b.map Entry.d)]) ∧ lk T 10 = .d (.i .i64 2) ∧ lk T 11 = .d (.i .i64 (i : Nat)) ∧ H = [])
    (fun e T H => e = .exit 0 ∧ lk T 0 = .d (.sl [.sl (a.map Entry.d), .sl (b.map Entry.d)]) ∧ lk T 3 = .d (.i .i64 ((a.length + b.length : Nat) : Int)) ∧ H = []) 2 ?_ ?_ 2 0 _ _ (by omega) ⟨rfl, rfl, rfl, rfl, rfl, rfl⟩) ?_
  · rintro i T H hi ⟨h0, h3, h9, h10, h11, rfl⟩
    rcases (by omega : i = 0 ∨ i = 1) with rfl | rfl
    · have w1 : IntKind.i64.wrap (((0 : Nat) : Int) + ((a.length : Nat) : Int)) = ((a.length : Nat) : Int) := by rw [wi64 (by omega)]; omega
      have c1 : decide (((a.length : Nat) : Int) < 0) = false := by simp
      have w2 : IntKind.i64.wrap (((0 : Nat) : Int) + 1) = ((1 : Nat) : Int) := by decide
      have h3' : lk T 3 = .d (.i .i64 ((0 : Nat) : Int)) := h3
      simp (config := {decide := true}) only [K_slices_Concat_sapi_Entry_api_Entry_0, l_slices_Concat_sapi_Entry_api_Entry_0, h0, h3', h9, h10, h11, w1, w2, c1, Pk.EVL, keepT, enum, ↓reduceIte, ev, act, appT, callee, toDs, toD, loadA, storeA, subA, subD, updA, Eff.on, resA, resVs, resV, lk, finish, frzR, frzVs, frzV, fznR, fzns, fzn, lts, lt, ltO, List.all, pairsOk, indep, reduceCtorEq, Nat.reduceEqDiff, Nat.reduceAdd, Nat.reduceLeDiff, stb, thaws, List.drop, intOfA, binD, binI, unD, mmL, buildA, mkAgg, allD, bslD, behind, behind0, takeAt, frzAs, frzA, adoptR, adopt, isD, isD0, trim, List.take, binS, sliceA, bnd, zOk, elems, Nat.reduceBNe, inpl, Nat.reduceLT, Nat.reduceBEq, Nat.reduceSub, Nat.reduceMul, Int.reduceLT, Int.reduceLE, Int.reduceEq, Int.reduceToNat, Int.reduceNeg, thaw, nodup, refsV, adopts, Pk.TY_Entry]
      exact ⟨_, _, _, rfl, .inl ⟨rfl, rfl, rfl, rfl, rfl, rfl, rfl⟩⟩
    · have w1 : IntKind.i64.wrap (((a.length : Nat) : Int) + ((b.length : Nat) : Int)) = ((a.length + b.length : Nat) : Int) := by rw [wi64 (by omega)]; omega
      have c1 : decide (((a.length + b.length : Nat) : Int) < 0) = false := by simp; omega
      have w2 : IntKind.i64.wrap (((1 : Nat) : Int) + 1) = ((2 : Nat) : Int) := by decide
      have h3' : lk T 3 = .d (.i .i64 ((a.length : Nat) : Int)) := h3
      simp (config := {decide := true}) only [K_slices_Concat_sapi_Entry_api_Entry_0, l_slices_Concat_sapi_Entry_api_Entry_0, h0, h3', h9, h10, h11, w1, w2, c1, Pk.EVL, keepT, enum, ↓reduceIte, ev, act, appT, callee, toDs, toD, loadA, storeA, subA, subD, updA, Eff.on, resA, resVs, resV, lk, finish, frzR, frzVs, frzV, fznR, fzns, fzn, lts, lt, ltO, List.all, pairsOk, indep, reduceCtorEq, Nat.reduceEqDiff, Nat.reduceAdd, Nat.reduceLeDiff, stb, thaws, List.drop, intOfA, binD, binI, unD, mmL, buildA, mkAgg, allD, bslD, behind, behind0, takeAt, frzAs, frzA, adoptR, adopt, isD, isD0, trim, List.take, binS, sliceA, bnd, zOk, elems, Nat.reduceBNe, inpl, Nat.reduceLT, Nat.reduceBEq, Nat.reduceSub, Nat.reduceMul, Int.reduceLT, Int.reduceLE, Int.reduceEq, Int.reduceToNat, Int.reduceNeg, thaw, nodup, refsV, adopts, Pk.TY_Entry]
      exact ⟨_, _, _, rfl, .inl ⟨rfl, rfl, rfl, rfl, rfl, rfl, rfl⟩⟩
  · rintro T H ⟨h0, h3, h9, h10, h11, rfl⟩
    have h3' : lk T 3 = .d (.i .i64 ((a.length + b.length : Nat) : Int)) := h3
    simp (config := {decide := true}) only [K_slices_Concat_sapi_Entry_api_Entry_0, l_slices_Concat_sapi_Entry_api_Entry_0, h0, h3', h9, h10, h11, Pk.EVL, keepT, enum, ↓reduceIte, ev, act, appT, callee, toDs, toD, loadA, storeA, subA, subD, updA, Eff.on, resA, resVs, resV, lk, finish, frzR, frzVs, frzV, fznR, fzns, fzn, lts, lt, ltO, List.all, pairsOk, indep, reduceCtorEq, Nat.reduceEqDiff, Nat.reduceAdd, Nat.reduceLeDiff, stb, thaws, List.drop, intOfA, binD, binI, unD, mmL, buildA, mkAgg, allD, bslD, behind, behind0, takeAt, frzAs, frzA, adoptR, adopt, isD, isD0, trim, List.take, binS, sliceA, bnd, zOk, elems, Nat.reduceBNe, inpl, Nat.reduceLT, Nat.reduceBEq, Nat.reduceSub, Nat.reduceMul, Int.reduceLT, Int.reduceLE, Int.reduceEq, Int.reduceToNat, Int.reduceNeg, thaw, nodup, refsV, adopts]
    exact ⟨_, _, _, rfl, by simp, rfl, rfl, rfl, rfl⟩
  · rintro e T H ⟨rfl, h0, h3, rfl⟩
    have hg := grow_at (rfl : C F_slices_Grow_sapi_Entry_api_Entry = some (.exth (Pk.growX 8))) (a.length + b.length) (by simp [LIM]; omega) []
    simp (config := {decide := true}) only [h0, h3, hg, Pk.EVL, keepT, enum, ↓reduceIte, ev, act, appT, callee, toDs, toD, loadA, storeA, subA, subD, updA, Eff.on, resA, resVs, resV, lk, finish, frzR, frzVs, frzV, fznR, fzns, fzn, lts, lt, ltO, List.all, pairsOk, indep, reduceCtorEq, Nat.reduceEqDiff, Nat.reduceAdd, Nat.reduceLeDiff, stb, thaws, List.drop, intOfA, binD, binI, unD, mmL, buildA, mkAgg, allD, bslD, behind, behind0, takeAt, frzAs, frzA, adoptR, adopt, isD, isD0, trim, List.take, binS, sliceA, bnd, zOk, elems, Nat.reduceBNe, inpl, Nat.reduceLT, Nat.reduceBEq, Nat.reduceSub, Nat.reduceMul, Int.reduceLT, Int.reduceLE, Int.reduceEq, Int.reduceToNat, Int.reduceNeg, thaw, nodup, refsV, adopts, Pk.TY_Entry]
    simp only [Option.bind_assoc]
    refine bind_run (loop_run (fun i T H => lk T 6 = .view 0 ((if 1 ≤ i then a.length else 0) + (if 2 ≤ i then b.length else 0)) 8 0 ((if 1 ≤ i then a.length else 0) + (if 2 ≤ i then b.length else 0)) ∧
        lk T 25 = .d (.sl [.sl (a.map Entry.d), .sl (b.map Entry.d)]) ∧ lk T 26 = .d (.i .i64 2) ∧ lk T 27 = .d (.i .i64 (i : Nat)) ∧ H = [.arr ((if 1 ≤ i then a.map Entry.d else []) ++ (if 2 ≤ i then b.map Entry.d else [])) true])
      (fun e T H => e = .exit 2 ∧ lk T 6 = .view 0 (a.length + b.length) 8 0 (a.length + b.length) ∧ H = [.arr (a.map Entry.d ++ b.map Entry.d) true]) 2 ?_ ?_ 2 0 _ _ (by omega) ⟨rfl, rfl, rfl, rfl, rfl⟩) ?_
    · rintro i T H hi ⟨h6, h25, h26, h27, rfl⟩
      rcases (by omega : i = 0 ∨ i = 1) with rfl | rfl
      · have w2 : IntKind.i64.wrap (((0 : Nat) : Int) + 1) = ((1 : Nat) : Int) := by decide
        have h6' : lk T 6 = .view 0 0 8 0 0 := h6
        have l1 : (0 + a.length ≤ LIM) = True := eq_true (by simp [LIM]; omega)
        have l2 : (a.length ≤ LIM) = True := eq_true (by simp [LIM]; omega)
        simp (config := {decide := true}) only [K_slices_Concat_sapi_Entry_api_Entry_1, l_slices_Concat_sapi_Entry_api_Entry_1, h6', h25, h26, h27, w2, l1, l2, Entry.all_cells, Pk.EVL, keepT, enum, ↓reduceIte, ev, act, appT, callee, toDs, toD, loadA, storeA, subA, subD, updA, Eff.on, resA, resVs, resV, lk, finish, frzR, frzVs, frzV, fznR, fzns, fzn, lts, lt, ltO, List.all, pairsOk, indep, reduceCtorEq, Nat.reduceEqDiff, Nat.reduceAdd, Nat.reduceLeDiff, stb, thaws, List.drop, intOfA, binD, binI, unD, mmL, buildA, mkAgg, allD, bslD, behind, behind0, takeAt, frzAs, frzA, adoptR, adopt, isD, isD0, trim, List.take, binS, sliceA, bnd, zOk, elems, Nat.reduceBNe, inpl, Nat.reduceLT, Nat.reduceBEq, Nat.reduceSub, Nat.reduceMul, Int.reduceLT, Int.reduceLE, Int.reduceEq, Int.reduceToNat, Int.reduceNeg, thaw, nodup, refsV, adopts, Pk.TY_Entry]
        refine ⟨_, _, _, rfl, .inl ⟨rfl, rfl, rfl, rfl, rfl, ?_⟩⟩
        simp
      · have w2 : IntKind.i64.wrap (((1 : Nat) : Int) + 1) = ((2 : Nat) : Int) := by decide
        have h6' : lk T 6 = .view 0 a.length 8 0 a.length := h6
        have l1 : (a.length + b.length ≤ LIM) = True := eq_true (by simp [LIM]; omega)
        have hH : ([Ob.arr ((if 1 ≤ 1 then a.map Entry.d else []) ++ (if 2 ≤ 1 then b.map Entry.d else [])) true] : Heap) = [.arr (a.map Entry.d) true] := by simp
        rw [hH]
        simp (config := {decide := true}) only [K_slices_Concat_sapi_Entry_api_Entry_1, l_slices_Concat_sapi_Entry_api_Entry_1, h6', h25, h26, h27, w2, l1, Entry.all_cells, Pk.EVL, keepT, enum, ↓reduceIte, ev, act, appT, callee, toDs, toD, loadA, storeA, subA, subD, updA, Eff.on, resA, resVs, resV, lk, finish, frzR, frzVs, frzV, fznR, fzns, fzn, lts, lt, ltO, List.all, pairsOk, indep, reduceCtorEq, Nat.reduceEqDiff, Nat.reduceAdd, Nat.reduceLeDiff, stb, thaws, List.drop, intOfA, binD, binI, unD, mmL, buildA, mkAgg, allD, bslD, behind, behind0, takeAt, frzAs, frzA, adoptR, adopt, isD, isD0, trim, List.take, binS, sliceA, bnd, zOk, elems, Nat.reduceBNe, inpl, Nat.reduceLT, Nat.reduceBEq, Nat.reduceSub, Nat.reduceMul, Int.reduceLT, Int.reduceLE, Int.reduceEq, Int.reduceToNat, Int.reduceNeg, thaw, nodup, refsV, adopts, Pk.TY_Entry]
        exact ⟨_, _, _, rfl, .inl ⟨rfl, rfl, rfl, rfl, rfl, rfl⟩⟩
    · rintro T H ⟨h6, h25, h26, h27, rfl⟩
      have h6' : lk T 6 = .view 0 (a.length + b.length) 8 0 (a.length + b.length) := h6
      simp (config := {decide := true}) only [K_slices_Concat_sapi_Entry_api_Entry_1, l_slices_Concat_sapi_Entry_api_Entry_1, h6', h25, h26, h27, Pk.EVL, keepT, enum, ↓reduceIte, ev, act, appT, callee, toDs, toD, loadA, storeA, subA, subD, updA, Eff.on, resA, resVs, resV, lk, finish, frzR, frzVs, frzV, fznR, fzns, fzn, lts, lt, ltO, List.all, pairsOk, indep, reduceCtorEq, Nat.reduceEqDiff, Nat.reduceAdd, Nat.reduceLeDiff, stb, thaws, List.drop, intOfA, binD, binI, unD, mmL, buildA, mkAgg, allD, bslD, behind, behind0, takeAt, frzAs, frzA, adoptR, adopt, isD, isD0, trim, List.take, binS, sliceA, bnd, zOk, elems, Nat.reduceBNe, inpl, Nat.reduceLT, Nat.reduceBEq, Nat.reduceSub, Nat.reduceMul, Int.reduceLT, Int.reduceLE, Int.reduceEq, Int.reduceToNat, Int.reduceNeg, thaw, nodup, refsV, adopts]
      exact ⟨_, _, _, rfl, by simp, rfl, rfl, rfl⟩
    · rintro e T H ⟨rfl, h6, rfl⟩
      have e1 : (a.map Entry.d ++ b.map Entry.d).length = a.length + b.length := by simp
      have e2 : subL (a.map Entry.d ++ b.map Entry.d) 0 (a.length + b.length) = (a ++ b).map Entry.d := by unfold subL; rw [List.drop_zero, List.take_of_length_le (by simp), List.map_append]
      simp (config := {decide := true}) only [h6, e1, e2, Pk.EVL, keepT, enum, ↓reduceIte, ev, act, appT, callee, toDs, toD, loadA, storeA, subA, subD, updA, Eff.on, resA, resVs, resV, lk, finish, frzR, frzVs, frzV, fznR, fzns, fzn, lts, lt, ltO, List.all, pairsOk, indep, reduceCtorEq, Nat.reduceEqDiff, Nat.reduceAdd, Nat.reduceLeDiff, stb, thaws, List.drop, intOfA, binD, binI, unD, mmL, buildA, mkAgg, allD, bslD, behind, behind0, takeAt, frzAs, frzA, adoptR, adopt, isD, isD0, trim, List.take, binS, sliceA, bnd, zOk, elems, Nat.reduceBNe, inpl, Nat.reduceLT, Nat.reduceBEq, Nat.reduceSub, Nat.reduceMul, Int.reduceLT, Int.reduceLE, Int.reduceEq, Int.reduceToNat, Int.reduceNeg, thaw, nodup, refsV, adopts]

theorem cloneB_at (l : List Base) (hl : l.length ≤ 1000) : evF C F_slices_Clone_sapi_Base_api_Base [.d (.sl (l.map Base.d))] [] = some (.view 0 l.length 39 0 l.length, [.arr (l.map Base.d) true]) := by
  rw [evF_ext (rfl : C F_slices_Clone_sapi_Base_api_Base = some (.ext (Pk.cloneX 39)))]
  show (if _ then _ else _) = _
  rw [if_pos, List.length_map]
  refine ⟨by rw [List.length_map]; unfold LIM; omega, Base.all_cells l⟩
end Go.Proofs.YtlihpaegaikoeaaDoor

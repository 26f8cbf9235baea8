/- Package maps: which maps and increments may be; the next map; the first; the fold. -/
import Derived.Test.YtckaebcljcpobaaHrI
set_option linter.all false
namespace Go.Proofs.Ytckaebcljcpobaa
open Pv Go Pk
set_option maxRecDepth 10000
set_option maxHeartbeats 2000000
def isMp (m : Mp) : Bool := isM m.epoch (osL m)
theorem isMp_at (m : Mp) : evF C F_maps_Is [.d (.agg m.cs)] [] = some (.d (.b (isMp m)), []) := is_at m.epoch (osL m) rfl
def isInc (x : Inc) : Bool :=
  if ((x.kind == 1) || (x.kind == 2)) = true then decide (x.osd < 5) && decide (x = ⟨x.kind, x.osd, 0⟩)
  else if (x.kind == 3) = true then decide (x.osd < 5) && (decide (x.n ≥ 0) && decide (x.n ≤ 16)) else decide (x = ⟨4, 0, 0⟩)
theorem isInc_at (x : Inc) : evF C F_maps_IsInc [.d (.agg x.cs)] [] = some (.d (.b (isInc x)), []) := by
  rw [evF_code (rfl : C F_maps_IsInc = some a_maps_IsInc) _ _ rfl]
  unfold isInc
  rcases Bool.eq_false_or_eq_true (x.kind == 1) with h1 | h1 <;> rcases Bool.eq_false_or_eq_true (x.kind == 2) with h2 | h2 <;> rcases Bool.eq_false_or_eq_true (x.kind == 3) with h3 | h3 <;>
    rcases Bool.eq_false_or_eq_true (decide (x.osd < 5)) with h4 | h4 <;> rcases Bool.eq_false_or_eq_true (decide (x.n ≥ 0)) with h5 | h5 <;>
    simp (config := {decide := true}) only [c_maps_IsInc, h1, h2, h3, h4, h5, Pk.EVL, keepT, enum, ↓reduceIte, ev, act, appT, callee, toDs, toD, loadA, storeA, subA, subD, updA, Eff.on, resA, resVs, resV, lk, finish, frzR, frzVs, frzV, fznR, fzns, fzn, lts, lt, ltO, List.all, pairsOk, indep, reduceCtorEq, Nat.reduceEqDiff, Nat.reduceAdd, Nat.reduceLeDiff, stb, thaws, List.drop, intOfA, binD, binI, unD, mmL, buildA, mkAgg, allD, bslD, behind, behind0, takeAt, frzAs, frzA, adoptR, adopt, isD, isD0, trim, List.take, binS, sliceA, bnd, zOk, elems, Nat.reduceBNe, inpl, Nat.reduceLT, Nat.reduceBEq, Nat.reduceSub, Nat.reduceMul, Int.reduceLT, Int.reduceLE, Int.reduceEq, Int.reduceToNat, Int.reduceNeg, thaw, nodup, refsV, adopts, Pk.TY_Inc]
theorem isInc_osd {x : Inc} (h : isInc x = true) : x.osd < 5 := by
  unfold isInc at h
  split at h
  · simp at h; exact h.1
  · split at h
    · simp at h; exact h.1
    · simp at h; rw [h]; show (0 : Int) < 5; omega
theorem isInc_kind {x : Inc} (h : isInc x = true) : x.kind = 1 ∨ x.kind = 2 ∨ x.kind = 3 ∨ x.kind = 4 := by
  unfold isInc at h
  split at h
  · rename_i c
    simp at c
    omega
  · split at h
    · rename_i c; simp at c; omega
    · simp at h; rw [h]; exact .inr (.inr (.inr rfl))
def nextM (m : Mp) (x : Inc) : Mp :=
  { epoch := m.epoch + 1
    osds := if (x.kind == 1) = true then m.osds.set x.osd.toNat { (m.osds.get x.osd.toNat) with up := true }
      else if (x.kind == 2) = true then m.osds.set x.osd.toNat { (m.osds.get x.osd.toNat) with up := false }
      else if (x.kind == 3) = true then m.osds.set x.osd.toNat { (m.osds.get x.osd.toNat) with weight := x.n } else m.osds }
def nextOf (m : Mp) (x : Inc) : Mp × Int := if (isMp m && (isInc x && !(m.epoch == 60))) = true then (nextM m x, 0) else (Mp.zero, 40)
theorem isMp_epoch {m : Mp} (h : isMp m = true) : 1 ≤ m.epoch ∧ m.epoch ≤ 60 := by
  unfold isMp isM at h
  simp at h
  omega
theorem nextOf_at (m : Mp) (x : Inc) (hx : x.ok) : evF C F_maps_Apply [.d (.agg m.cs), .d (.agg x.cs)] [] = some (.tup [.d (.agg (nextOf m x).1.cs), .d (.i .i64 (nextOf m x).2)], []) := by
  have hm := isMp_at m
  have hi := isInc_at x
  rw [evF_code (rfl : C F_maps_Apply = some a_maps_Apply) _ _ rfl]
  unfold nextOf
  rcases (Bool.eq_false_or_eq_true (isMp m)).symm with h1 | h1
  · simp (config := {decide := true}) only [c_maps_Apply, hm, hi, h1, Pk.EVL, keepT, enum, ↓reduceIte, ev, act, appT, callee, toDs, toD, loadA, storeA, subA, subD, updA, Eff.on, resA, resVs, resV, lk, finish, frzR, frzVs, frzV, fznR, fzns, fzn, lts, lt, ltO, List.all, pairsOk, indep, reduceCtorEq, Nat.reduceEqDiff, Nat.reduceAdd, Nat.reduceLeDiff, stb, thaws, List.drop, intOfA, binD, binI, unD, mmL, buildA, mkAgg, allD, bslD, behind, behind0, takeAt, frzAs, frzA, adoptR, adopt, isD, isD0, trim, List.take, binS, sliceA, bnd, zOk, elems, Nat.reduceBNe, inpl, Nat.reduceLT, Nat.reduceBEq, Nat.reduceSub, Nat.reduceMul, Int.reduceLT, Int.reduceLE, Int.reduceEq, Int.reduceToNat, Int.reduceNeg, thaw, nodup, refsV, adopts, Pk.TY_Mp, Pk.TY_Inc]
    try simp
  rcases (Bool.eq_false_or_eq_true (isInc x)).symm with h2 | h2
  · simp (config := {decide := true}) only [c_maps_Apply, hm, hi, h1, h2, Pk.EVL, keepT, enum, ↓reduceIte, ev, act, appT, callee, toDs, toD, loadA, storeA, subA, subD, updA, Eff.on, resA, resVs, resV, lk, finish, frzR, frzVs, frzV, fznR, fzns, fzn, lts, lt, ltO, List.all, pairsOk, indep, reduceCtorEq, Nat.reduceEqDiff, Nat.reduceAdd, Nat.reduceLeDiff, stb, thaws, List.drop, intOfA, binD, binI, unD, mmL, buildA, mkAgg, allD, bslD, behind, behind0, takeAt, frzAs, frzA, adoptR, adopt, isD, isD0, trim, List.take, binS, sliceA, bnd, zOk, elems, Nat.reduceBNe, inpl, Nat.reduceLT, Nat.reduceBEq, Nat.reduceSub, Nat.reduceMul, Int.reduceLT, Int.reduceLE, Int.reduceEq, Int.reduceToNat, Int.reduceNeg, thaw, nodup, refsV, adopts, Pk.TY_Mp, Pk.TY_Inc]
    try simp
  rcases Bool.eq_false_or_eq_true (m.epoch == 60) with h3 | h3
  · simp (config := {decide := true}) only [c_maps_Apply, hm, hi, h1, h2, h3, Pk.EVL, keepT, enum, ↓reduceIte, ev, act, appT, callee, toDs, toD, loadA, storeA, subA, subD, updA, Eff.on, resA, resVs, resV, lk, finish, frzR, frzVs, frzV, fznR, fzns, fzn, lts, lt, ltO, List.all, pairsOk, indep, reduceCtorEq, Nat.reduceEqDiff, Nat.reduceAdd, Nat.reduceLeDiff, stb, thaws, List.drop, intOfA, binD, binI, unD, mmL, buildA, mkAgg, allD, bslD, behind, behind0, takeAt, frzAs, frzA, adoptR, adopt, isD, isD0, trim, List.take, binS, sliceA, bnd, zOk, elems, Nat.reduceBNe, inpl, Nat.reduceLT, Nat.reduceBEq, Nat.reduceSub, Nat.reduceMul, Int.reduceLT, Int.reduceLE, Int.reduceEq, Int.reduceToNat, Int.reduceNeg, thaw, nodup, refsV, adopts, Pk.TY_Mp, Pk.TY_Inc]
    try simp
  have ho := isInc_osd h2
  have he := isMp_epoch h1
  have hw : IntKind.u32.wrap (m.epoch + 1) = m.epoch + 1 := wu32 (by omega)
  have o0 : (0 ≤ x.osd) = True := eq_true (by have := hx; simp only [Inc.ok] at this; omega)
  have o1 : (x.osd < ((5 : Nat) : Int)) = True := eq_true ho
  have o2 : x.osd.toNat < 5 := by omega
  have o3 : (1 + x.osd.toNat * 3 ≤ 15) = True := eq_true (by omega)
  have o4 : (1 + x.osd.toNat * 3 + 1 ≤ 15) = True := eq_true (by omega)
  have o5 : (1 + x.osd.toNat * 3 ≤ 14) = True := eq_true (by omega)
  unfold nextM
  rcases Bool.eq_false_or_eq_true (x.kind == 1) with k1 | k1
  · simp (config := {decide := true}) only [c_maps_Apply, hm, hi, h1, h2, h3, hw, o0, o1, o2, o3, o4, o5, k1, Pk.EVL, keepT, enum, ↓reduceIte, ev, act, appT, callee, toDs, toD, loadA, storeA, subA, subD, updA, Eff.on, resA, resVs, resV, lk, finish, frzR, frzVs, frzV, fznR, fzns, fzn, lts, lt, ltO, List.all, pairsOk, indep, reduceCtorEq, Nat.reduceEqDiff, Nat.reduceAdd, Nat.reduceLeDiff, stb, thaws, List.drop, intOfA, binD, binI, unD, mmL, buildA, mkAgg, allD, bslD, behind, behind0, takeAt, frzAs, frzA, adoptR, adopt, isD, isD0, trim, List.take, binS, sliceA, bnd, zOk, elems, Nat.reduceBNe, inpl, Nat.reduceLT, Nat.reduceBEq, Nat.reduceSub, Nat.reduceMul, Int.reduceLT, Int.reduceLE, Int.reduceEq, Int.reduceToNat, Int.reduceNeg, thaw, nodup, refsV, adopts, Pk.TY_Mp, Pk.TY_Inc]
    try simp
  · rcases Bool.eq_false_or_eq_true (x.kind == 2) with k2 | k2
    · simp (config := {decide := true}) only [c_maps_Apply, hm, hi, h1, h2, h3, hw, o0, o1, o2, o3, o4, o5, k1, k2, Pk.EVL, keepT, enum, ↓reduceIte, ev, act, appT, callee, toDs, toD, loadA, storeA, subA, subD, updA, Eff.on, resA, resVs, resV, lk, finish, frzR, frzVs, frzV, fznR, fzns, fzn, lts, lt, ltO, List.all, pairsOk, indep, reduceCtorEq, Nat.reduceEqDiff, Nat.reduceAdd, Nat.reduceLeDiff, stb, thaws, List.drop, intOfA, binD, binI, unD, mmL, buildA, mkAgg, allD, bslD, behind, behind0, takeAt, frzAs, frzA, adoptR, adopt, isD, isD0, trim, List.take, binS, sliceA, bnd, zOk, elems, Nat.reduceBNe, inpl, Nat.reduceLT, Nat.reduceBEq, Nat.reduceSub, Nat.reduceMul, Int.reduceLT, Int.reduceLE, Int.reduceEq, Int.reduceToNat, Int.reduceNeg, thaw, nodup, refsV, adopts, Pk.TY_Mp, Pk.TY_Inc]
      try simp
    · rcases Bool.eq_false_or_eq_true (x.kind == 3) with k3 | k3
      · simp (config := {decide := true}) only [c_maps_Apply, hm, hi, h1, h2, h3, hw, o0, o1, o2, o3, o4, o5, k1, k2, k3, Pk.EVL, keepT, enum, ↓reduceIte, ev, act, appT, callee, toDs, toD, loadA, storeA, subA, subD, updA, Eff.on, resA, resVs, resV, lk, finish, frzR, frzVs, frzV, fznR, fzns, fzn, lts, lt, ltO, List.all, pairsOk, indep, reduceCtorEq, Nat.reduceEqDiff, Nat.reduceAdd, Nat.reduceLeDiff, stb, thaws, List.drop, intOfA, binD, binI, unD, mmL, buildA, mkAgg, allD, bslD, behind, behind0, takeAt, frzAs, frzA, adoptR, adopt, isD, isD0, trim, List.take, binS, sliceA, bnd, zOk, elems, Nat.reduceBNe, inpl, Nat.reduceLT, Nat.reduceBEq, Nat.reduceSub, Nat.reduceMul, Int.reduceLT, Int.reduceLE, Int.reduceEq, Int.reduceToNat, Int.reduceNeg, thaw, nodup, refsV, adopts, Pk.TY_Mp, Pk.TY_Inc]
        try simp
      · simp (config := {decide := true}) only [c_maps_Apply, hm, hi, h1, h2, h3, hw, o0, o1, o2, o3, o4, o5, k1, k2, k3, Pk.EVL, keepT, enum, ↓reduceIte, ev, act, appT, callee, toDs, toD, loadA, storeA, subA, subD, updA, Eff.on, resA, resVs, resV, lk, finish, frzR, frzVs, frzV, fznR, fzns, fzn, lts, lt, ltO, List.all, pairsOk, indep, reduceCtorEq, Nat.reduceEqDiff, Nat.reduceAdd, Nat.reduceLeDiff, stb, thaws, List.drop, intOfA, binD, binI, unD, mmL, buildA, mkAgg, allD, bslD, behind, behind0, takeAt, frzAs, frzA, adoptR, adopt, isD, isD0, trim, List.take, binS, sliceA, bnd, zOk, elems, Nat.reduceBNe, inpl, Nat.reduceLT, Nat.reduceBEq, Nat.reduceSub, Nat.reduceMul, Int.reduceLT, Int.reduceLE, Int.reduceEq, Int.reduceToNat, Int.reduceNeg, thaw, nodup, refsV, adopts, Pk.TY_Mp, Pk.TY_Inc]
        try simp
def firstM : Mp := ⟨1, ⟨⟨true, 8, 0⟩, ⟨true, 8, 1⟩, ⟨true, 8, 2⟩, ⟨true, 8, 3⟩, ⟨true, 8, 0⟩⟩⟩
theorem mfirst_at : evF C F_maps_First [] [] = some (.d (.agg firstM.cs), []) := by
  rw [evF_code (rfl : C F_maps_First = some a_maps_First) _ _ rfl]
  simp (config := {decide := true}) only [c_maps_First, Pk.EVL, keepT, enum, ↓reduceIte, ev, act, appT, callee, toDs, toD, loadA, storeA, subA, subD, updA, Eff.on, resA, resVs, resV, lk, finish, frzR, frzVs, frzV, fznR, fzns, fzn, lts, lt, ltO, List.all, pairsOk, indep, reduceCtorEq, Nat.reduceEqDiff, Nat.reduceAdd, Nat.reduceLeDiff, stb, thaws, List.drop, intOfA, binD, binI, unD, mmL, buildA, mkAgg, allD, bslD, behind, behind0, takeAt, frzAs, frzA, adoptR, adopt, isD, isD0, trim, List.take, binS, sliceA, bnd, zOk, elems, Nat.reduceBNe, inpl, Nat.reduceLT, Nat.reduceBEq, Nat.reduceSub, Nat.reduceMul, Int.reduceLT, Int.reduceLE, Int.reduceEq, Int.reduceToNat, Int.reduceNeg, thaw, nodup, refsV, adopts, Pk.TY_Mp]
  simp only [Option.bind_assoc]
  refine bind_run (loop_run (fun i T H => lk T 0 = .ptr 0 0 ∧ lk T 1 = .ptr 1 0 ∧ lk T 4 = .d (.i .i64 (i : Nat)) ∧
      H = [.box (.d (.agg Mp.zero.cs)), .box (.d (.agg (Mp.cs ⟨1, ⟨if 0 < i then firstM.osds.a0 else ⟨false, 0, 0⟩, if 1 < i then firstM.osds.a1 else ⟨false, 0, 0⟩, if 2 < i then firstM.osds.a2 else ⟨false, 0, 0⟩, if 3 < i then firstM.osds.a3 else ⟨false, 0, 0⟩, if 4 < i then firstM.osds.a4 else ⟨false, 0, 0⟩⟩⟩)))])
    (fun e T H => e = .exit 0 ∧ lk T 0 = .ptr 0 0 ∧ lk T 1 = .ptr 1 0 ∧ H = [.box (.d (.agg Mp.zero.cs)), .box (.d (.agg firstM.cs))]) 5 ?_ ?_ 5 0 _ _ (by omega) ⟨rfl, rfl, rfl, rfl⟩) ?_
  · rintro i T H hi ⟨h0, h1, h4, rfl⟩
    obtain rfl | rfl | rfl | rfl | rfl : i = 0 ∨ i = 1 ∨ i = 2 ∨ i = 3 ∨ i = 4 := by omega
    all_goals
      simp (config := {decide := true}) only [K_maps_First_0, l_maps_First_0, h0, h1, h4, Pk.EVL, keepT, enum, ↓reduceIte, ev, act, appT, callee, toDs, toD, loadA, storeA, subA, subD, updA, Eff.on, resA, resVs, resV, lk, finish, frzR, frzVs, frzV, fznR, fzns, fzn, lts, lt, ltO, List.all, pairsOk, indep, reduceCtorEq, Nat.reduceEqDiff, Nat.reduceAdd, Nat.reduceLeDiff, stb, thaws, List.drop, intOfA, binD, binI, unD, mmL, buildA, mkAgg, allD, bslD, behind, behind0, takeAt, frzAs, frzA, adoptR, adopt, isD, isD0, trim, List.take, binS, sliceA, bnd, zOk, elems, Nat.reduceBNe, inpl, Nat.reduceLT, Nat.reduceBEq, Nat.reduceSub, Nat.reduceMul, Int.reduceLT, Int.reduceLE, Int.reduceEq, Int.reduceToNat, Int.reduceNeg, thaw, nodup, refsV, adopts, Pk.TY_Mp, Pk.TY_Osd]
      exact ⟨_, _, _, rfl, .inl ⟨rfl, rfl, rfl, rfl, rfl⟩⟩
  · rintro T H ⟨h0, h1, h4, rfl⟩
    simp (config := {decide := true}) only [K_maps_First_0, l_maps_First_0, h0, h1, h4, Pk.EVL, keepT, enum, ↓reduceIte, ev, act, appT, callee, toDs, toD, loadA, storeA, subA, subD, updA, Eff.on, resA, resVs, resV, lk, finish, frzR, frzVs, frzV, fznR, fzns, fzn, lts, lt, ltO, List.all, pairsOk, indep, reduceCtorEq, Nat.reduceEqDiff, Nat.reduceAdd, Nat.reduceLeDiff, stb, thaws, List.drop, intOfA, binD, binI, unD, mmL, buildA, mkAgg, allD, bslD, behind, behind0, takeAt, frzAs, frzA, adoptR, adopt, isD, isD0, trim, List.take, binS, sliceA, bnd, zOk, elems, Nat.reduceBNe, inpl, Nat.reduceLT, Nat.reduceBEq, Nat.reduceSub, Nat.reduceMul, Int.reduceLT, Int.reduceLE, Int.reduceEq, Int.reduceToNat, Int.reduceNeg, thaw, nodup, refsV, adopts, Pk.TY_Mp, Pk.TY_Osd]
    exact ⟨_, _, _, rfl, by simp, rfl, rfl, rfl, rfl⟩
  rintro e T H ⟨rfl, h0, h1, rfl⟩
  simp (config := {decide := true}) only [h0, h1, Pk.EVL, keepT, enum, ↓reduceIte, ev, act, appT, callee, toDs, toD, loadA, storeA, subA, subD, updA, Eff.on, resA, resVs, resV, lk, finish, frzR, frzVs, frzV, fznR, fzns, fzn, lts, lt, ltO, List.all, pairsOk, indep, reduceCtorEq, Nat.reduceEqDiff, Nat.reduceAdd, Nat.reduceLeDiff, stb, thaws, List.drop, intOfA, binD, binI, unD, mmL, buildA, mkAgg, allD, bslD, behind, behind0, takeAt, frzAs, frzA, adoptR, adopt, isD, isD0, trim, List.take, binS, sliceA, bnd, zOk, elems, Nat.reduceBNe, inpl, Nat.reduceLT, Nat.reduceBEq, Nat.reduceSub, Nat.reduceMul, Int.reduceLT, Int.reduceLE, Int.reduceEq, Int.reduceToNat, Int.reduceNeg, thaw, nodup, refsV, adopts, Pk.TY_Mp]
end Go.Proofs.Ytckaebcljcpobaa

/- All operations of a row, one behind the other. -/
import Derived.Test.YtclambdgbphfkaaDoorObjD
set_option linter.all false
namespace Go.Proofs.YtclambdgbphfkaaDoor
open Pv Go Pk
set_option maxRecDepth 10000
set_option maxHeartbeats 2000000
theorem all_loop (b0 : Base) (R : DV) (l : List Opr) (hl : l.length ≤ 1000) (hb : Base.fit b0) (hok : ∀ o ∈ l, o.ok) (T : Tm) (H : Heap) :
    (lk T 2 = .ptr 0 0 ∧ lk T 4 = .ptr 1 0 ∧ lk T 6 = .view 2 0 2 0 0 ∧ lk T 11 = .d (.sl (l.map Opr.d)) ∧ lk T 12 = .d (.i .i64 (l.length : Nat)) ∧ lk T 13 = .d (.i .i64 0) ∧ H = [.box (.d (.agg b0.cs)), .box (.d R), .arr [] true]) →
    ∃ e T' H', evL C K_objects_All_0 l_objects_All_0 3 T H = some (e, T', H') ∧ (e = .exit 0 ∧ lk T' 2 = .ptr 0 0 ∧ lk T' 4 = .ptr 1 0 ∧ lk T' 6 = .view 2 l.length 2 0 l.length ∧
      H' = [.box (.d (.agg (allOps b0 l).1.cs)), .box (.d R), .arr ((allOps b0 l).2.map Res.d) true]) := by
  intro hT
  refine loop_run (fun i T H => lk T 2 = .ptr 0 0 ∧ lk T 4 = .ptr 1 0 ∧ lk T 6 = .view 2 i 2 0 i ∧ lk T 11 = .d (.sl (l.map Opr.d)) ∧ lk T 12 = .d (.i .i64 (l.length : Nat)) ∧ lk T 13 = .d (.i .i64 (i : Nat)) ∧
      ∃ J, H = .box (.d (.agg (allOps b0 (l.take i)).1.cs)) :: .box (.d R) :: .arr ((allOps b0 (l.take i)).2.map Res.d) true :: J) _ l.length ?_ ?_ l.length 0 T H (by omega) ?_
  · rintro i T H hi ⟨h2, h4, h6, h11, h12, h13, J, rfl⟩
    have hd : decide ((i : Int) < ((l.length : Nat) : Int)) = true := by simp; omega
    have hw : IntKind.i64.wrap ((i : Int) + 1) = ((i + 1 : Nat) : Int) := wi64 (by omega)
    have h0 : (0 ≤ (i : Int)) = True := by simp
    obtain ⟨o, ho⟩ : ∃ o, l[i]? = some o := ⟨l[i], List.getElem?_eq_getElem hi⟩
    have hx := list_idx Opr.d ho
    have hdo := doOp_at (allOps b0 (l.take i)).1 o (allOps_fit hb fun x hx => hok x (List.mem_of_mem_take hx)) (hok o (List.mem_of_getElem? ho))
    have hlen : ((allOps b0 (l.take i)).2.map Res.d).length = i := by simp [allOps_len]; omega
    have hlim : (i + 1 ≤ LIM) = True := by simp [LIM]; omega
    rw [take_succ' ho, allOps_snoc]
    generalize (allOps b0 (l.take i)).1 = b at *
    generalize (allOps b0 (l.take i)).2 = rs at *
    generalize doOp b o = p at *
    simp (config := {decide := true}) only [K_objects_All_0, l_objects_All_0, h2, h4, h6, h11, h12, h13, hd, hw, h0, hx, hdo, hlen, hlim, Pk.EVL, keepT, enum, ↓reduceIte, ev, act, appT, callee, toDs, toD, loadA, storeA, subA, subD, updA, Eff.on, resA, resVs, resV, lk, finish, frzR, frzVs, frzV, fznR, fzns, fzn, lts, lt, ltO, List.all, pairsOk, indep, reduceCtorEq, Nat.reduceEqDiff, Nat.reduceAdd, Nat.reduceLeDiff, stb, thaws, List.drop, intOfA, binD, binI, unD, mmL, buildA, mkAgg, allD, bslD, behind, behind0, takeAt, frzAs, frzA, adoptR, adopt, isD, isD0, trim, List.take, binS, sliceA, bnd, zOk, elems, Nat.reduceBNe, inpl, Nat.reduceLT, Nat.reduceBEq, Nat.reduceSub, Nat.reduceMul, Int.reduceLT, Int.reduceLE, Int.reduceEq, Int.reduceToNat, Int.reduceNeg, thaw, nodup, refsV, adopts, Pk.TY_Opr, Pk.TY_Base, Pk.TY_Res]
    refine ⟨_, _, _, rfl, ?_⟩
    refine .inl ⟨rfl, rfl, rfl, rfl, rfl, rfl, rfl, ?_⟩
    simp only [List.map_append, List.map_cons, List.map_nil, Res.d]
    exact ⟨_, rfl⟩
  · rintro T H ⟨h2, h4, h6, h11, h12, h13, J, rfl⟩
    have hd : decide (((l.length : Nat) : Int) < ((l.length : Nat) : Int)) = false := by simp
    rw [List.take_length]
    simp (config := {decide := true}) only [K_objects_All_0, l_objects_All_0, h2, h4, h6, h11, h12, h13, hd, Pk.EVL, keepT, enum, ↓reduceIte, ev, act, appT, callee, toDs, toD, loadA, storeA, subA, subD, updA, Eff.on, resA, resVs, resV, lk, finish, frzR, frzVs, frzV, fznR, fzns, fzn, lts, lt, ltO, List.all, pairsOk, indep, reduceCtorEq, Nat.reduceEqDiff, Nat.reduceAdd, Nat.reduceLeDiff, stb, thaws, List.drop, intOfA, binD, binI, unD, mmL, buildA, mkAgg, allD, bslD, behind, behind0, takeAt, frzAs, frzA, adoptR, adopt, isD, isD0, trim, List.take, binS, sliceA, bnd, zOk, elems, Nat.reduceBNe, inpl, Nat.reduceLT, Nat.reduceBEq, Nat.reduceSub, Nat.reduceMul, Int.reduceLT, Int.reduceLE, Int.reduceEq, Int.reduceToNat, Int.reduceNeg, thaw, nodup, refsV, adopts, Pk.TY_Opr, Pk.TY_Base, Pk.TY_Res]
    refine ⟨_, _, _, rfl, ?_⟩
    exact ⟨by simp, rfl, rfl, rfl, rfl, rfl⟩
  · obtain ⟨h2, h4, h6, h11, h12, h13, rfl⟩ := hT
    exact ⟨h2, h4, h6, h11, h12, h13, [], rfl⟩

theorem all_at (b : Base) (l : List Opr) (hl : l.length ≤ 1000) (hb : Base.fit b) (hok : ∀ o ∈ l, o.ok) : evF C F_objects_All [.d (.agg b.cs), .d (.sl (l.map Opr.d))] [] =
    some (.tup [.d (.agg (allOps b l).1.cs), .d (.sl ((allOps b l).2.map Res.d))], []) := by
  rw [evF_code (rfl : C F_objects_All = some a_objects_All) _ _ rfl]
  simp (config := {decide := true}) only [c_objects_All, Pk.EVL, keepT, enum, ↓reduceIte, ev, act, appT, callee, toDs, toD, loadA, storeA, subA, subD, updA, Eff.on, resA, resVs, resV, lk, finish, frzR, frzVs, frzV, fznR, fzns, fzn, lts, lt, ltO, List.all, pairsOk, indep, reduceCtorEq, Nat.reduceEqDiff, Nat.reduceAdd, Nat.reduceLeDiff, stb, thaws, List.drop, intOfA, binD, binI, unD, mmL, buildA, mkAgg, allD, bslD, behind, behind0, takeAt, frzAs, frzA, adoptR, adopt, isD, isD0, trim, List.take, binS, sliceA, bnd, zOk, elems, Nat.reduceBNe, inpl, Nat.reduceLT, Nat.reduceBEq, Nat.reduceSub, Nat.reduceMul, Int.reduceLT, Int.reduceLE, Int.reduceEq, Int.reduceToNat, Int.reduceNeg, thaw, nodup, refsV, adopts, Pk.TY_Opr, Pk.TY_Base, Pk.TY_Res]
  simp only [Option.bind_assoc]
  refine bind_run (all_loop b _ l hl hb hok _ _ ⟨rfl, rfl, rfl, rfl, rfl, rfl, rfl⟩) ?_
  rintro e T' H' ⟨rfl, h2, h4, h6, rfl⟩
  have hlen := allOps_len b l
  have htk : List.take l.length ((allOps b l).2.map Res.d) = (allOps b l).2.map Res.d := List.take_of_length_le (by simp [hlen])
  have hsb : subL ((allOps b l).2.map Res.d) 0 l.length = (allOps b l).2.map Res.d := htk
  simp (config := {decide := true}) only [h2, h4, h6, hlen, htk, hsb, Pk.EVL, keepT, enum, ↓reduceIte, ev, act, appT, callee, toDs, toD, loadA, storeA, subA, subD, updA, Eff.on, resA, resVs, resV, lk, finish, frzR, frzVs, frzV, fznR, fzns, fzn, lts, lt, ltO, List.all, pairsOk, indep, reduceCtorEq, Nat.reduceEqDiff, Nat.reduceAdd, Nat.reduceLeDiff, stb, thaws, List.drop, intOfA, binD, binI, unD, mmL, buildA, mkAgg, allD, bslD, behind, behind0, takeAt, frzAs, frzA, adoptR, adopt, isD, isD0, trim, List.take, binS, sliceA, bnd, zOk, elems, Nat.reduceBNe, inpl, Nat.reduceLT, Nat.reduceBEq, Nat.reduceSub, Nat.reduceMul, Int.reduceLT, Int.reduceLE, Int.reduceEq, Int.reduceToNat, Int.reduceNeg, thaw, nodup, refsV, adopts, Pk.TY_Opr, Pk.TY_Base, Pk.TY_Res]
end Go.Proofs.YtclambdgbphfkaaDoor

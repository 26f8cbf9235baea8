/- The law LogBounds. -/
import Derived.Test.YtcbahckkilmpnaaPgRows
set_option linter.all false
namespace Go.Proofs.Ytcbahckkilmpnaa
open Pv Go Pk
set_option maxRecDepth 10000
set_option maxHeartbeats 2000000
theorem mk_snoc_find (st : Int) {E : List Entry} {e : Entry} (hg : goodE (E ++ [e])) {k : Nat} (hk : k ≤ E.length) (h6 : E.length + 1 - k ≤ 6) (hst : st ≤ 60) : findS (mkSt st (E ++ [e]) k) ((E.length + 1 : Nat) : Int) = (e, true) := by
  rw [mk_find st hg (by simp; omega) (by simp; omega) hst, if_pos (by omega)]
  have : (((E.length + 1 : Nat) : Int) - 1).toNat = E.length := by omega
  rw [this, List.getElem?_append_right (Nat.le_refl _)]
  simp
theorem bounds_law (l : List Opr) (ho : ∀ o ∈ l, o.ok) (o : Opr) (oo : o.ok) (since n : Int) (hs : 0 ≤ since ∧ since < 4294967296) (hn : 0 ≤ n ∧ n < 4294967296) :
    evF C F_paddocklaw7_LogBounds [.d (.sl (l.map Opr.d)), .d (.agg o.cs), .d (.i .u32 since), .d (.i .u32 n)] [] = some (.d (.b true), []) := by
  rw [evF_code (rfl : C F_paddocklaw7_LogBounds = some a_paddocklaw7_LogBounds) _ _ rfl]
  rcases Bool.eq_false_or_eq_true (decide (((l.length : Nat) : Int) > 20)) with cl | cl
  · simp (config := {decide := true}) only [c_paddocklaw7_LogBounds, known_at, cl, Pk.EVL, keepT, enum, ↓reduceIte, ev, act, appT, callee, toDs, toD, loadA, storeA, subA, subD, updA, Eff.on, resA, resVs, resV, lk, finish, frzR, frzVs, frzV, fznR, fzns, fzn, lts, lt, ltO, List.all, pairsOk, indep, reduceCtorEq, Nat.reduceEqDiff, Nat.reduceAdd, Nat.reduceLeDiff, stb, thaws, List.drop, intOfA, binD, binI, unD, mmL, buildA, mkAgg, allD, behind, behind0, takeAt, frzAs, frzA, adoptR, adopt, isD, isD0, trim, List.take, binS, sliceA, bnd, zOk, elems, Nat.reduceBNe, inpl, Nat.reduceLT, Nat.reduceBEq, Nat.reduceSub, Nat.reduceMul, Int.reduceLT, Int.reduceLE, Int.reduceEq, Int.reduceToNat, Int.reduceNeg, thaw, nodup, refsV, adopts, Pk.TY_State]
  have hl : l.length ≤ 20 := by have := of_decide_eq_false cl; omega
  have hrow := row_at l (by omega) ho 4 (by omega)
  rw [show Int.tmod 4 60 + 1 = 5 by decide] at hrow
  have f := rowF (S := 5) (by omega) (by omega : l.length ≤ 60) ho
  have hle : (rowE 5 l).length ≤ 20 := Nat.le_trans f.le hl
  have hg := f.good
  have hk : (rowE 5 l).length - 6 ≤ (rowE 5 l).length := by omega
  have hk6 : (rowE 5 l).length - ((rowE 5 l).length - 6) ≤ 6 := by omega
  have hh := head_at (rowS 5 l)
  rw [f.head] at hh
  have ha := add_at (rowS 5 l) ⟨since.tmod 70, n, o⟩ f.stok.log oo
  have q1 : addS (rowS 5 l) ⟨since.tmod 70, n, o⟩ = if nextE (lastOf (rowE 5 l)) ⟨since.tmod 70, n, o⟩ = true then (mkSt 0 (rowE 5 l ++ [⟨since.tmod 70, n, o⟩]) ((rowE 5 l).length + 1 - 6), 0) else (State.zero, 10) := by
    refine (mk_add 0 hg hk hk6 (by omega) _).trans ?_
    rw [show (rowE 5 l).length - 6 + ((rowE 5 l).length - ((rowE 5 l).length - 6) + 1 - 6) = (rowE 5 l).length + 1 - 6 by omega]
  rw [q1] at ha
  have wn1 : IntKind.u32.wrap (((rowE 5 l).length : Int) + 1) = (((rowE 5 l).length + 1 : Nat) : Int) := by rw [show ((rowE 5 l).length : Int) + 1 = (((rowE 5 l).length + 1 : Nat) : Int) by omega]; exact wu32 (by omega)
  have hw := writes_at o
  have hnx : nextE (lastOf (rowE 5 l)) ⟨since.tmod 70, n, o⟩ = ((n == (((rowE 5 l).length + 1 : Nat) : Int)) && (decide (since.tmod 70 ≥ (lastOf (rowE 5 l)).since) && (decide (since.tmod 70 ≤ 60) && writes o))) := by
    unfold nextE
    rw [hg.nums.2.1, wn1]
    by_cases c : n = (((rowE 5 l).length + 1 : Nat) : Int)
    · have h1 : (n == (((rowE 5 l).length + 1 : Nat) : Int)) = true := by simpa using c
      have h2 : decide (n > ((rowE 5 l).length : Int)) = true := by simp; omega
      simp only [h1, h2, Bool.and_true, Bool.true_and]
      cases writes o <;> cases decide (since.tmod 70 ≥ (lastOf (rowE 5 l)).since) <;> cases decide (since.tmod 70 ≤ 60) <;> rfl
    · have h1 : (n == (((rowE 5 l).length + 1 : Nat) : Int)) = false := by rw [beq_eq_false_iff_ne]; exact c
      simp only [h1, Bool.and_false, Bool.false_and]
  have hsz := same_at State.zero State.zero (by decide)
  rw [decide_eq_true rfl] at hsz
  have e10 : ((10 : Int) == 10) = true := by decide
  clear q1 hk hk6
  generalize hE : rowE 5 l = E at *
  rcases (Bool.eq_false_or_eq_true ((n == ((E.length + 1 : Nat) : Int)))).symm with q1 | q1
  · rw [hnx, q1, if_neg (by simp)] at ha
    generalize rowS 5 l = s at *
    generalize (lastOf E).since = sn at *
    generalize E.length = n' at *
    simp (config := {decide := true}) only [c_paddocklaw7_LogBounds, known_at, cl, hrow, hh, wn1, ha, q1, hw, hsz, e10, guardR_und, Pk.EVL, keepT, enum, ↓reduceIte, ev, act, appT, callee, toDs, toD, loadA, storeA, subA, subD, updA, Eff.on, resA, resVs, resV, lk, finish, frzR, frzVs, frzV, fznR, fzns, fzn, lts, lt, ltO, List.all, pairsOk, indep, reduceCtorEq, Nat.reduceEqDiff, Nat.reduceAdd, Nat.reduceLeDiff, stb, thaws, List.drop, intOfA, binD, binI, unD, mmL, buildA, mkAgg, allD, behind, behind0, takeAt, frzAs, frzA, adoptR, adopt, isD, isD0, trim, List.take, binS, sliceA, bnd, zOk, elems, Nat.reduceBNe, inpl, Nat.reduceLT, Nat.reduceBEq, Nat.reduceSub, Nat.reduceMul, Int.reduceLT, Int.reduceLE, Int.reduceEq, Int.reduceToNat, Int.reduceNeg, thaw, nodup, refsV, adopts, Pk.TY_State, Pk.TY_Entry, Pk.TY_Opr]
  rcases (Bool.eq_false_or_eq_true (decide (since.tmod 70 ≥ (lastOf E).since))).symm with q2 | q2
  · rw [hnx, q1, q2, if_neg (by simp)] at ha
    generalize rowS 5 l = s at *
    generalize (lastOf E).since = sn at *
    generalize E.length = n' at *
    simp (config := {decide := true}) only [c_paddocklaw7_LogBounds, known_at, cl, hrow, hh, wn1, ha, q1, q2, hw, hsz, e10, guardR_und, Pk.EVL, keepT, enum, ↓reduceIte, ev, act, appT, callee, toDs, toD, loadA, storeA, subA, subD, updA, Eff.on, resA, resVs, resV, lk, finish, frzR, frzVs, frzV, fznR, fzns, fzn, lts, lt, ltO, List.all, pairsOk, indep, reduceCtorEq, Nat.reduceEqDiff, Nat.reduceAdd, Nat.reduceLeDiff, stb, thaws, List.drop, intOfA, binD, binI, unD, mmL, buildA, mkAgg, allD, behind, behind0, takeAt, frzAs, frzA, adoptR, adopt, isD, isD0, trim, List.take, binS, sliceA, bnd, zOk, elems, Nat.reduceBNe, inpl, Nat.reduceLT, Nat.reduceBEq, Nat.reduceSub, Nat.reduceMul, Int.reduceLT, Int.reduceLE, Int.reduceEq, Int.reduceToNat, Int.reduceNeg, thaw, nodup, refsV, adopts, Pk.TY_State, Pk.TY_Entry, Pk.TY_Opr]
  rcases (Bool.eq_false_or_eq_true (decide (since.tmod 70 ≤ 60))).symm with q3 | q3
  · rw [hnx, q1, q2, q3, if_neg (by simp)] at ha
    generalize rowS 5 l = s at *
    generalize (lastOf E).since = sn at *
    generalize E.length = n' at *
    simp (config := {decide := true}) only [c_paddocklaw7_LogBounds, known_at, cl, hrow, hh, wn1, ha, q1, q2, q3, hw, hsz, e10, guardR_und, Pk.EVL, keepT, enum, ↓reduceIte, ev, act, appT, callee, toDs, toD, loadA, storeA, subA, subD, updA, Eff.on, resA, resVs, resV, lk, finish, frzR, frzVs, frzV, fznR, fzns, fzn, lts, lt, ltO, List.all, pairsOk, indep, reduceCtorEq, Nat.reduceEqDiff, Nat.reduceAdd, Nat.reduceLeDiff, stb, thaws, List.drop, intOfA, binD, binI, unD, mmL, buildA, mkAgg, allD, behind, behind0, takeAt, frzAs, frzA, adoptR, adopt, isD, isD0, trim, List.take, binS, sliceA, bnd, zOk, elems, Nat.reduceBNe, inpl, Nat.reduceLT, Nat.reduceBEq, Nat.reduceSub, Nat.reduceMul, Int.reduceLT, Int.reduceLE, Int.reduceEq, Int.reduceToNat, Int.reduceNeg, thaw, nodup, refsV, adopts, Pk.TY_State, Pk.TY_Entry, Pk.TY_Opr]
  rcases (Bool.eq_false_or_eq_true (writes o)).symm with q4 | q4
  · rw [hnx, q1, q2, q3, q4, if_neg (by simp)] at ha
    generalize rowS 5 l = s at *
    generalize (lastOf E).since = sn at *
    generalize E.length = n' at *
    simp (config := {decide := true}) only [c_paddocklaw7_LogBounds, known_at, cl, hrow, hh, wn1, ha, q1, q2, q3, q4, hw, hsz, e10, guardR_und, Pk.EVL, keepT, enum, ↓reduceIte, ev, act, appT, callee, toDs, toD, loadA, storeA, subA, subD, updA, Eff.on, resA, resVs, resV, lk, finish, frzR, frzVs, frzV, fznR, fzns, fzn, lts, lt, ltO, List.all, pairsOk, indep, reduceCtorEq, Nat.reduceEqDiff, Nat.reduceAdd, Nat.reduceLeDiff, stb, thaws, List.drop, intOfA, binD, binI, unD, mmL, buildA, mkAgg, allD, behind, behind0, takeAt, frzAs, frzA, adoptR, adopt, isD, isD0, trim, List.take, binS, sliceA, bnd, zOk, elems, Nat.reduceBNe, inpl, Nat.reduceLT, Nat.reduceBEq, Nat.reduceSub, Nat.reduceMul, Int.reduceLT, Int.reduceLE, Int.reduceEq, Int.reduceToNat, Int.reduceNeg, thaw, nodup, refsV, adopts, Pk.TY_State, Pk.TY_Entry, Pk.TY_Opr]
  have hnn : nextE (lastOf E) ⟨since.tmod 70, n, o⟩ = true := by rw [hnx, q1, q2, q3, q4]; rfl
  rw [hnn, if_pos rfl] at ha
  have hge := hg.snoc hnn oo
  have hn' : n = ((E.length + 1 : Nat) : Int) := by simpa using q1
  have hh2 := head_at (mkSt 0 (E ++ [⟨since.tmod 70, n, o⟩]) (E.length + 1 - 6))
  rw [mk_head 0 hge (by simp; omega) (by simp; omega) (by omega), lastOf_snoc] at hh2
  have hlen : (E ++ [(⟨since.tmod 70, n, o⟩ : Entry)]).length = E.length + 1 := by simp
  rw [hlen, ← hn'] at hh2
  have hfi := find_at (mkSt 0 (E ++ [⟨since.tmod 70, n, o⟩]) (E.length + 1 - 6)) n (mk_ok 0 hge (by simp; omega))
  have hf2 : findS (mkSt 0 (E ++ [⟨since.tmod 70, n, o⟩]) (E.length + 1 - 6)) n = (⟨since.tmod 70, n, o⟩, true) := by
    have hlen1 := mk_find 0 hge (k := E.length + 1 - 6) (by simp; omega) (by simp; omega) (by omega) n
    rw [hlen1, if_pos (by omega)]
    have h3 : (n - 1).toNat = E.length := by omega
    rw [h3, List.getElem?_append_right (Nat.le_refl _)]
    simp
  rw [hf2] at hfi
  generalize mkSt 0 (E ++ [⟨since.tmod 70, n, o⟩]) (E.length + 1 - 6) = t at *
  have e1 : ∀ x : Int, (x == x) = true := fun x => by simp
  have e2 : ∀ x : Entry, decide (x = x) = true := fun x => by simp
  clear hf2 hlen hnn hnx hge
  generalize rowS 5 l = s at *
  generalize (lastOf E).since = sn at *
  generalize E.length = n' at *
  have hn1 : (n == n) = true := by simp
  simp (config := {decide := true}) only [c_paddocklaw7_LogBounds, known_at, cl, hrow, hh, wn1, ha, q1, q2, q3, q4, hw, hh2, hfi, e1, e2, guardR_und, Pk.EVL, keepT, enum, ↓reduceIte, ev, act, appT, callee, toDs, toD, loadA, storeA, subA, subD, updA, Eff.on, resA, resVs, resV, lk, finish, frzR, frzVs, frzV, fznR, fzns, fzn, lts, lt, ltO, List.all, pairsOk, indep, reduceCtorEq, Nat.reduceEqDiff, Nat.reduceAdd, Nat.reduceLeDiff, stb, thaws, List.drop, intOfA, binD, binI, unD, mmL, buildA, mkAgg, allD, behind, behind0, takeAt, frzAs, frzA, adoptR, adopt, isD, isD0, trim, List.take, binS, sliceA, bnd, zOk, elems, Nat.reduceBNe, inpl, Nat.reduceLT, Nat.reduceBEq, Nat.reduceSub, Nat.reduceMul, Int.reduceLT, Int.reduceLE, Int.reduceEq, Int.reduceToNat, Int.reduceNeg, thaw, nodup, refsV, adopts, Pk.TY_State, Pk.TY_Entry, Pk.TY_Opr]
end Go.Proofs.Ytcbahckkilmpnaa

/- The law LogTails. -/
import Derived.Test.YtcbahckkilmpnaaPgCuts
set_option linter.all false
namespace Go.Proofs.Ytcbahckkilmpnaa
open Pv Go Pk
set_option maxRecDepth 10000
set_option maxHeartbeats 2000000
theorem tails_law (l : List Opr) (ho : ∀ o ∈ l, o.ok) (a b : Int) (ha : 0 ≤ a ∧ a < 256) (hb : 0 ≤ b ∧ b < 256) (o : Opr) (oo : o.ok) :
    evF C F_paddocklaw7_LogTails [.d (.sl (l.map Opr.d)), .d (.i .u8 a), .d (.i .u8 b), .d (.agg o.cs)] [] = some (.d (.b true), []) := by
  rw [evF_code (rfl : C F_paddocklaw7_LogTails = some a_paddocklaw7_LogTails) _ _ rfl]
  rcases Bool.eq_false_or_eq_true (decide (((l.length : Nat) : Int) > 20)) with cl | cl
  · simp (config := {decide := true}) only [c_paddocklaw7_LogTails, known_at, cl, Pk.EVL, keepT, enum, ↓reduceIte, ev, act, appT, callee, toDs, toD, loadA, storeA, subA, subD, updA, Eff.on, resA, resVs, resV, lk, finish, frzR, frzVs, frzV, fznR, fzns, fzn, lts, lt, ltO, List.all, pairsOk, indep, reduceCtorEq, Nat.reduceEqDiff, Nat.reduceAdd, Nat.reduceLeDiff, stb, thaws, List.drop, intOfA, binD, binI, unD, mmL, buildA, mkAgg, allD, behind, behind0, takeAt, frzAs, frzA, adoptR, adopt, isD, isD0, trim, List.take, binS, sliceA, bnd, zOk, elems, Nat.reduceBNe, inpl, Nat.reduceLT, Nat.reduceBEq, Nat.reduceSub, Nat.reduceMul, Int.reduceLT, Int.reduceLE, Int.reduceEq, Int.reduceToNat, Int.reduceNeg, thaw, nodup, refsV, adopts, Pk.TY_State]
  have hl : l.length ≤ 20 := by have := of_decide_eq_false cl; omega
  have hrow := row_at l (by omega) ho 1 (by omega)
  rw [show Int.tmod 1 60 + 1 = 2 by decide] at hrow
  have f := rowF (S := 2) (by omega) (by omega : l.length ≤ 60) ho
  have hle : (rowE 2 l).length ≤ 20 := Nat.le_trans f.le hl
  have hg := f.good
  have hk : (rowE 2 l).length - 6 ≤ (rowE 2 l).length := by omega
  have hk6 : (rowE 2 l).length - ((rowE 2 l).length - 6) ≤ 6 := by omega
  obtain ⟨x, hx1, hx2, -, w1, w2, w3, z1, w4⟩ := span_at hk (by omega) a ha
  obtain ⟨y, hy1, hy2, -, -, -, w5, -, w6⟩ := span_at hk (by omega) b hb
  have hh := head_at (rowS 2 l)
  rw [f.head] at hh
  have ht := f.tailn
  have wn1 : IntKind.u32.wrap (((rowE 2 l).length : Int) + 1) = (((rowE 2 l).length + 1 : Nat) : Int) := by rw [show ((rowE 2 l).length : Int) + 1 = (((rowE 2 l).length + 1 : Nat) : Int) by omega]; exact wu32 (by omega)
  have hadd : ∀ k, k ≤ (rowE 2 l).length → (rowE 2 l).length - k ≤ 6 → ∃ t, evF C F_pglog_Add [.d (.agg (mkSt 0 (rowE 2 l) k).cs), .d (.agg (Entry.cs ⟨50, (((rowE 2 l).length + 1 : Nat) : Int), o⟩))] [] = some (.tup [.d (.agg (State.cs t)), .d (.i .i64 (if writes o = true then 0 else 10))], []) ∧ evF C F_pglog_Fold [.d (.agg t.cs)] [] = some (.d (.agg (if writes o = true then (doOp (baseOf (rowE 2 l)) o).1 else Base.zero).cs), []) := by
    intro k h1 h2
    have hq := add_at (mkSt 0 (rowE 2 l) k) ⟨50, (((rowE 2 l).length + 1 : Nat) : Int), o⟩ (mk_ok 0 hg h1).log oo
    have hn : nextE (lastOf (rowE 2 l)) ⟨50, (((rowE 2 l).length + 1 : Nat) : Int), o⟩ = writes o := by
      rw [nextE_row hg (S' := 50) (by omega) (rowE_since 2 l) (by omega) (by omega) o _ (by omega)]
      simp
    rw [mk_add 0 hg h1 h2 (by omega), hn] at hq
    by_cases c : writes o = true
    · rw [if_pos c] at hq
      rw [if_pos c, if_pos c]
      have hge := hg.snoc (hn.trans c) oo
      refine ⟨_, hq, ?_⟩
      rw [fold_at _ (mk_ok 0 hge (by simp; omega)).log, mk_fold 0 hge (by simp; omega) (by simp; omega) (by omega), baseOf_snoc]
    · rw [if_neg c] at hq
      rw [if_neg c, if_neg c]
      refine ⟨_, hq, ?_⟩
      rw [fold_at State.zero (by intro e he; simp [State.zero] at he)]
      rfl
  have htl : ∀ k j : Nat, k ≤ (rowE 2 l).length → (rowE 2 l).length - k ≤ 6 → k ≤ j → j ≤ (rowE 2 l).length → evF C F_pglog_Tail [.d (.agg (mkSt 0 (rowE 2 l) k).cs), .d (.i .u32 (j : Nat))] [] = some (.tup [.d (.agg (mkSt 0 (rowE 2 l) j).cs), .d (.i .i64 0)], []) := by
    intro k j h1 h2 h3 h4
    rw [tail_at _ _ (mk_ok 0 hg h1), mk_tailS 0 hg h1 h2 (by omega), if_neg (by omega), if_pos (by omega)]
    rfl
  have htl2 : ∀ k j : Nat, k ≤ (rowE 2 l).length → (rowE 2 l).length - k ≤ 6 → j < k → evF C F_pglog_Tail [.d (.agg (mkSt 0 (rowE 2 l) k).cs), .d (.i .u32 (j : Nat))] [] = some (.tup [.d (.agg State.zero.cs), .d (.i .i64 80)], []) := by
    intro k j h1 h2 h3
    rw [tail_at _ _ (mk_ok 0 hg h1), mk_tailS 0 hg h1 h2 (by omega), if_pos (by omega)]
  have hsame := fun s : State => fun h => same_at s s h
  have core : ∀ u v : Nat, (rowE 2 l).length - 6 ≤ u → u ≤ v → v ≤ (rowE 2 l).length → (x = u ∧ y = v ∧ decide ((x : Int) > (y : Int)) = false ∨ x = v ∧ y = u ∧ decide ((x : Int) > (y : Int)) = true) →
      (evC C c_paddocklaw7_LogTails (enum 0 [.d (.sl (l.map Opr.d)), .d (.i .u8 a), .d (.i .u8 b), .d (.agg o.cs)]) []).bind (endF ([] : Heap).length [.tmp 8]) = some (.d (.b true), []) := by
    intro u v h1 h2 h3 hxy
    have t1 := htl _ u hk hk6 h1 (by omega)
    have t2 := htl u v (by omega) (by omega) h2 h3
    have t3 := htl _ v hk hk6 (by omega) h3
    have hsv := hsame (mkSt 0 (rowE 2 l) v) (by simp [mkSt]; omega)
    rw [decide_eq_true rfl] at hsv
    obtain ⟨tv, av, fv⟩ := hadd v h3 (by omega)
    obtain ⟨ts, as1, fs⟩ := hadd _ hk hk6
    have t4 : ∃ z h, evF C F_pglog_Tail [.d (.agg (mkSt 0 (rowE 2 l) v).cs), .d (.i .u32 (u : Nat))] [] = some (.tup [.d (.agg (State.cs z)), .d (.i .i64 h)], []) ∧ ((u = v ∧ h = 0) ∨ (u ≠ v ∧ h = 80)) := by
      by_cases c : u = v
      · subst c; exact ⟨_, _, htl u u (by omega) (by omega) (by omega) h3, .inl ⟨rfl, rfl⟩⟩
      · exact ⟨_, _, htl2 v u (by omega) (by omega) (by omega), .inr ⟨c, rfl⟩⟩
    obtain ⟨z, h, t4, huv⟩ := t4
    have hrs : rowS 2 l = mkSt 0 (rowE 2 l) ((rowE 2 l).length - 6) := rfl
    rw [← hrs] at t1 t3 as1
    clear hrs htl htl2 hadd hsame f hg
    have hss : u = v → mkSt 0 (rowE 2 l) u = mkSt 0 (rowE 2 l) v := fun h => by rw [h]
    generalize mkSt 0 (rowE 2 l) v = sv at *
    generalize mkSt 0 (rowE 2 l) u = su at *
    generalize (if writes o = true then (doOp (baseOf (rowE 2 l)) o).1 else Base.zero) = B at *
    generalize (if writes o = true then (0 : Int) else 10) = er at *
    generalize (lastOf (rowE 2 l)).since = sn at *
    generalize rowS 2 l = s at *
    generalize (rowE 2 l).length = n at *
    have e1 : ∀ x : Int, (x == x) = true := fun x => by simp
    have n0 : ((0 : Int) != 0) = false := by decide
    have n80 : ((80 : Int) != 80) = false := by decide
    have n81 : ((80 : Int) != 0) = true := by decide
    have e81 : ((80 : Int) == 0) = false := by decide
    have e2 : ∀ x : Base, decide (x = x) = true := fun x => by simp
    have eqb : ∀ p q : Bool, eqV .sb (.b p) (.b q) = some (p == q) := fun p q => by simp only [eqV]
    rcases huv with ⟨huv, rfl⟩ | ⟨huv, rfl⟩
    · have hq := hss huv
      clear hss
      subst hq
      subst huv
      rcases hxy with ⟨rfl, rfl, hgt⟩ | ⟨rfl, rfl, hgt⟩
      · simp (config := {decide := true}) only [c_paddocklaw7_LogTails, known_at, cl, hrow, hh, ht, w1, w2, w3, w4, w5, w6, z1, hgt, t1, t2, t3, t4, hsv, wn1, av, as1, fv, fs, e1, e2, n0, eqb, guardR_und, Pk.EVL, keepT, enum, ↓reduceIte, ev, act, appT, callee, toDs, toD, loadA, storeA, subA, subD, updA, Eff.on, resA, resVs, resV, lk, finish, frzR, frzVs, frzV, fznR, fzns, fzn, lts, lt, ltO, List.all, pairsOk, indep, reduceCtorEq, Nat.reduceEqDiff, Nat.reduceAdd, Nat.reduceLeDiff, stb, thaws, List.drop, intOfA, binD, binI, unD, mmL, buildA, mkAgg, allD, behind, behind0, takeAt, frzAs, frzA, adoptR, adopt, isD, isD0, trim, List.take, binS, sliceA, bnd, zOk, elems, Nat.reduceBNe, inpl, Nat.reduceLT, Nat.reduceBEq, Nat.reduceSub, Nat.reduceMul, Int.reduceLT, Int.reduceLE, Int.reduceEq, Int.reduceToNat, Int.reduceNeg, thaw, nodup, refsV, adopts, Pk.TY_State, Pk.TY_Base, Pk.TY_Entry, Pk.TY_Opr]
      · simp (config := {decide := true}) only [c_paddocklaw7_LogTails, known_at, cl, hrow, hh, ht, w1, w2, w3, w4, w5, w6, z1, hgt, t1, t2, t3, t4, hsv, wn1, av, as1, fv, fs, e1, e2, n0, eqb, guardR_und, Pk.EVL, keepT, enum, ↓reduceIte, ev, act, appT, callee, toDs, toD, loadA, storeA, subA, subD, updA, Eff.on, resA, resVs, resV, lk, finish, frzR, frzVs, frzV, fznR, fzns, fzn, lts, lt, ltO, List.all, pairsOk, indep, reduceCtorEq, Nat.reduceEqDiff, Nat.reduceAdd, Nat.reduceLeDiff, stb, thaws, List.drop, intOfA, binD, binI, unD, mmL, buildA, mkAgg, allD, behind, behind0, takeAt, frzAs, frzA, adoptR, adopt, isD, isD0, trim, List.take, binS, sliceA, bnd, zOk, elems, Nat.reduceBNe, inpl, Nat.reduceLT, Nat.reduceBEq, Nat.reduceSub, Nat.reduceMul, Int.reduceLT, Int.reduceLE, Int.reduceEq, Int.reduceToNat, Int.reduceNeg, thaw, nodup, refsV, adopts, Pk.TY_State, Pk.TY_Base, Pk.TY_Entry, Pk.TY_Opr]
    · rcases hxy with ⟨rfl, rfl, hgt⟩ | ⟨rfl, rfl, hgt⟩
      · have euv : (((x : Nat) : Int) == ((y : Nat) : Int)) = false := by rw [beq_eq_false_iff_ne]; omega
        simp (config := {decide := true}) only [c_paddocklaw7_LogTails, known_at, cl, hrow, hh, ht, w1, w2, w3, w4, w5, w6, z1, hgt, t1, t2, t3, t4, hsv, wn1, av, as1, fv, fs, e1, e2, n0, n80, n81, e81, euv, eqb, guardR_und, Pk.EVL, keepT, enum, ↓reduceIte, ev, act, appT, callee, toDs, toD, loadA, storeA, subA, subD, updA, Eff.on, resA, resVs, resV, lk, finish, frzR, frzVs, frzV, fznR, fzns, fzn, lts, lt, ltO, List.all, pairsOk, indep, reduceCtorEq, Nat.reduceEqDiff, Nat.reduceAdd, Nat.reduceLeDiff, stb, thaws, List.drop, intOfA, binD, binI, unD, mmL, buildA, mkAgg, allD, behind, behind0, takeAt, frzAs, frzA, adoptR, adopt, isD, isD0, trim, List.take, binS, sliceA, bnd, zOk, elems, Nat.reduceBNe, inpl, Nat.reduceLT, Nat.reduceBEq, Nat.reduceSub, Nat.reduceMul, Int.reduceLT, Int.reduceLE, Int.reduceEq, Int.reduceToNat, Int.reduceNeg, thaw, nodup, refsV, adopts, Pk.TY_State, Pk.TY_Base, Pk.TY_Entry, Pk.TY_Opr]
      · have euv : (((y : Nat) : Int) == ((x : Nat) : Int)) = false := by rw [beq_eq_false_iff_ne]; omega
        simp (config := {decide := true}) only [c_paddocklaw7_LogTails, known_at, cl, hrow, hh, ht, w1, w2, w3, w4, w5, w6, z1, hgt, t1, t2, t3, t4, hsv, wn1, av, as1, fv, fs, e1, e2, n0, n80, n81, e81, euv, eqb, guardR_und, Pk.EVL, keepT, enum, ↓reduceIte, ev, act, appT, callee, toDs, toD, loadA, storeA, subA, subD, updA, Eff.on, resA, resVs, resV, lk, finish, frzR, frzVs, frzV, fznR, fzns, fzn, lts, lt, ltO, List.all, pairsOk, indep, reduceCtorEq, Nat.reduceEqDiff, Nat.reduceAdd, Nat.reduceLeDiff, stb, thaws, List.drop, intOfA, binD, binI, unD, mmL, buildA, mkAgg, allD, behind, behind0, takeAt, frzAs, frzA, adoptR, adopt, isD, isD0, trim, List.take, binS, sliceA, bnd, zOk, elems, Nat.reduceBNe, inpl, Nat.reduceLT, Nat.reduceBEq, Nat.reduceSub, Nat.reduceMul, Int.reduceLT, Int.reduceLE, Int.reduceEq, Int.reduceToNat, Int.reduceNeg, thaw, nodup, refsV, adopts, Pk.TY_State, Pk.TY_Base, Pk.TY_Entry, Pk.TY_Opr]
  by_cases c : x ≤ y
  · exact core x y hx1 c hy2 (.inl ⟨rfl, rfl, by simp; omega⟩)
  · exact core y x hy1 (by omega) hx2 (.inr ⟨rfl, rfl, by simp; omega⟩)
end Go.Proofs.Ytcbahckkilmpnaa

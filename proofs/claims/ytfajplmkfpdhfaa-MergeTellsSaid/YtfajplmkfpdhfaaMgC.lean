/- How much a difference bears; whether one goes on where another ends. -/
import Derived.Test.YtfajplmkfpdhfaaMgA
import Derived.Test.YtfajplmkfpdhfaaPgS
set_option linter.all false
namespace Go.Proofs.Ytfajplmkfpdhfaa
open Pv Go Pk
set_option maxRecDepth 10000
set_option maxHeartbeats 2000000
def thereN (b : Base) : Nat → Nat
  | 0 => 0
  | i + 1 => thereN b i + (if (b.objs.get i).there = true then 1 else 0)
theorem thereN_le (b : Base) : ∀ i, thereN b i ≤ i
  | 0 => Nat.le_refl _
  | i + 1 => by have := thereN_le b i; simp only [thereN]; split <;> omega
def bytesD (d : Diff) : Nat := d.log.length + d.whole.log.length + thereN d.whole.base 6
theorem bytes_at (d : Diff) (h1 : d.log.length ≤ 1000) (h2 : d.whole.log.length ≤ 1000) : evF C F_merge_Bytes [.d (.agg d.cs)] [] = some (.d (.i .i64 (bytesD d : Nat)), []) := by
  rw [evF_code (rfl : C F_merge_Bytes = some a_merge_Bytes) _ _ rfl]
  have hw0 : IntKind.i64.wrap (((d.log.length : Nat) : Int) + ((d.whole.log.length : Nat) : Int)) = ((d.log.length + d.whole.log.length : Nat) : Int) := wi64 (by omega)
  unfold bytesD
  simp (config := {decide := true}) only [c_merge_Bytes, hw0, Pk.EVL, keepT, enum, ↓reduceIte, ev, act, appT, callee, toDs, toD, loadA, storeA, subA, subD, updA, Eff.on, resA, resVs, resV, lk, finish, frzR, frzVs, frzV, fznR, fzns, fzn, lts, lt, ltO, List.all, pairsOk, indep, reduceCtorEq, Nat.reduceEqDiff, Nat.reduceAdd, Nat.reduceLeDiff, stb, thaws, List.drop, intOfA, binD, binI, unD, mmL, buildA, mkAgg, allD, behind, behind0, takeAt, frzAs, frzA, adoptR, adopt, isD, isD0, trim, List.take, binS, sliceA, bnd, zOk, elems, Nat.reduceBNe, inpl, Nat.reduceLT, Nat.reduceBEq, Nat.reduceSub, Nat.reduceMul, Int.reduceLT, Int.reduceLE, Int.reduceEq, Int.reduceToNat, Int.reduceNeg, thaw, nodup, refsV, adopts, Pk.TY_Diff, Pk.TY_State]
  simp only [Option.bind_assoc]
  generalize hm : d.log.length + d.whole.log.length = m
  refine bind_run (loop_run (fun i T H => lk T 3 = .d (.i .i64 ((m + thereN d.whole.base i : Nat) : Int)) ∧ lk T 17 = .d (.agg (R6.cs Objt.cs d.whole.base.objs)) ∧ lk T 18 = .d (.i .i64 (i : Nat)) ∧ ∃ J, H = .box (.d (.agg d.cs)) :: J)
    (fun e T H => e = .exit 0 ∧ lk T 3 = .d (.i .i64 ((m + thereN d.whole.base 6 : Nat) : Int)) ∧ ∃ J, H = .box (.d (.agg d.cs)) :: J) 6 ?_ ?_ 6 0 _ _ (by omega) ⟨rfl, rfl, rfl, [], rfl⟩) ?_
  · rintro i T H hi ⟨g3, g17, g18, J, rfl⟩
    have hd : decide ((i : Int) < 6) = true := by simp; omega
    have hw : IntKind.i64.wrap ((i : Int) + 1) = ((i + 1 : Nat) : Int) := wi64 (by omega)
    have b3 : ((i : Int) < ((6 : Nat) : Int)) = True := by simp; omega
    have b3' : (0 ≤ (i : Int)) = True := by simp
    have b4 : (i * 5 + 5 ≤ 30) = True := by simp; omega
    have hle := thereN_le d.whole.base i
    have hs : thereN d.whole.base (i + 1) = thereN d.whole.base i + (if (d.whole.base.objs.get i).there = true then 1 else 0) := rfl
    rcases Bool.eq_false_or_eq_true (d.whole.base.objs.get i).there with c | c
    · rw [c, if_pos rfl] at hs
      have hw2 : IntKind.i64.wrap (((m + thereN d.whole.base i : Nat) : Int) + 1) = ((m + thereN d.whole.base (i + 1) : Nat) : Int) := by rw [hs, show ((m + thereN d.whole.base i : Nat) : Int) + 1 = ((m + (thereN d.whole.base i + 1) : Nat) : Int) by omega]; exact wi64 (by omega)
      simp (config := {decide := true}) only [K_merge_Bytes_0, l_merge_Bytes_0, g3, g17, g18, hd, hw, hw2, b3, b3', b4, hi, c, Pk.EVL, keepT, enum, ↓reduceIte, ev, act, appT, callee, toDs, toD, loadA, storeA, subA, subD, updA, Eff.on, resA, resVs, resV, lk, finish, frzR, frzVs, frzV, fznR, fzns, fzn, lts, lt, ltO, List.all, pairsOk, indep, reduceCtorEq, Nat.reduceEqDiff, Nat.reduceAdd, Nat.reduceLeDiff, stb, thaws, List.drop, intOfA, binD, binI, unD, mmL, buildA, mkAgg, allD, behind, behind0, takeAt, frzAs, frzA, adoptR, adopt, isD, isD0, trim, List.take, binS, sliceA, bnd, zOk, elems, Nat.reduceBNe, inpl, Nat.reduceLT, Nat.reduceBEq, Nat.reduceSub, Nat.reduceMul, Int.reduceLT, Int.reduceLE, Int.reduceEq, Int.reduceToNat, Int.reduceNeg, thaw, nodup, refsV, adopts, Pk.TY_Base, Pk.TY_Objt]
      refine ⟨_, _, _, rfl, ?_⟩
      exact .inl ⟨rfl, rfl, rfl, rfl, _, rfl⟩
    · rw [c, if_neg (by simp), Nat.add_zero] at hs
      simp (config := {decide := true}) only [K_merge_Bytes_0, l_merge_Bytes_0, g3, g17, g18, hd, hw, b3, b3', b4, hi, c, Pk.EVL, keepT, enum, ↓reduceIte, ev, act, appT, callee, toDs, toD, loadA, storeA, subA, subD, updA, Eff.on, resA, resVs, resV, lk, finish, frzR, frzVs, frzV, fznR, fzns, fzn, lts, lt, ltO, List.all, pairsOk, indep, reduceCtorEq, Nat.reduceEqDiff, Nat.reduceAdd, Nat.reduceLeDiff, stb, thaws, List.drop, intOfA, binD, binI, unD, mmL, buildA, mkAgg, allD, behind, behind0, takeAt, frzAs, frzA, adoptR, adopt, isD, isD0, trim, List.take, binS, sliceA, bnd, zOk, elems, Nat.reduceBNe, inpl, Nat.reduceLT, Nat.reduceBEq, Nat.reduceSub, Nat.reduceMul, Int.reduceLT, Int.reduceLE, Int.reduceEq, Int.reduceToNat, Int.reduceNeg, thaw, nodup, refsV, adopts, Pk.TY_Base, Pk.TY_Objt]
      refine ⟨_, _, _, rfl, ?_⟩
      refine .inl ⟨rfl, ?_, rfl, rfl, _, rfl⟩
      rw [hs]
      rfl
  · rintro T H ⟨g3, g17, g18, J, rfl⟩
    simp (config := {decide := true}) only [K_merge_Bytes_0, l_merge_Bytes_0, g3, g17, g18, Pk.EVL, keepT, enum, ↓reduceIte, ev, act, appT, callee, toDs, toD, loadA, storeA, subA, subD, updA, Eff.on, resA, resVs, resV, lk, finish, frzR, frzVs, frzV, fznR, fzns, fzn, lts, lt, ltO, List.all, pairsOk, indep, reduceCtorEq, Nat.reduceEqDiff, Nat.reduceAdd, Nat.reduceLeDiff, stb, thaws, List.drop, intOfA, binD, binI, unD, mmL, buildA, mkAgg, allD, behind, behind0, takeAt, frzAs, frzA, adoptR, adopt, isD, isD0, trim, List.take, binS, sliceA, bnd, zOk, elems, Nat.reduceBNe, inpl, Nat.reduceLT, Nat.reduceBEq, Nat.reduceSub, Nat.reduceMul, Int.reduceLT, Int.reduceLE, Int.reduceEq, Int.reduceToNat, Int.reduceNeg, thaw, nodup, refsV, adopts, Pk.TY_Base]
    refine ⟨_, _, _, rfl, ?_⟩
    exact ⟨by simp, rfl, rfl, _, rfl⟩
  rintro e T H ⟨rfl, g3, J, rfl⟩
  simp (config := {decide := true}) only [g3, Pk.EVL, keepT, enum, ↓reduceIte, ev, act, appT, callee, toDs, toD, loadA, storeA, subA, subD, updA, Eff.on, resA, resVs, resV, lk, finish, frzR, frzVs, frzV, fznR, fzns, fzn, lts, lt, ltO, List.all, pairsOk, indep, reduceCtorEq, Nat.reduceEqDiff, Nat.reduceAdd, Nat.reduceLeDiff, stb, thaws, List.drop, intOfA, binD, binI, unD, mmL, buildA, mkAgg, allD, behind, behind0, takeAt, frzAs, frzA, adoptR, adopt, isD, isD0, trim, List.take, binS, sliceA, bnd, zOk, elems, Nat.reduceBNe, inpl, Nat.reduceLT, Nat.reduceBEq, Nat.reduceSub, Nat.reduceMul, Int.reduceLT, Int.reduceLE, Int.reduceEq, Int.reduceToNat, Int.reduceNeg, thaw, nodup, refsV, adopts]
theorem refbytes_at (d : Diff) (h1 : d.log.length ≤ 1000) (h2 : d.whole.log.length ≤ 1000) : evF C F_paddockref8_Bytes [.d (.agg d.cs)] [] = some (.d (.i .i64 (bytesD d : Nat)), []) := by
  rw [evF_code (rfl : C F_paddockref8_Bytes = some a_paddockref8_Bytes) _ _ rfl]
  have hw0 : IntKind.i64.wrap (((d.log.length : Nat) : Int) + ((d.whole.log.length : Nat) : Int)) = ((d.log.length + d.whole.log.length : Nat) : Int) := wi64 (by omega)
  unfold bytesD
  simp (config := {decide := true}) only [c_paddockref8_Bytes, hw0, Pk.EVL, keepT, enum, ↓reduceIte, ev, act, appT, callee, toDs, toD, loadA, storeA, subA, subD, updA, Eff.on, resA, resVs, resV, lk, finish, frzR, frzVs, frzV, fznR, fzns, fzn, lts, lt, ltO, List.all, pairsOk, indep, reduceCtorEq, Nat.reduceEqDiff, Nat.reduceAdd, Nat.reduceLeDiff, stb, thaws, List.drop, intOfA, binD, binI, unD, mmL, buildA, mkAgg, allD, behind, behind0, takeAt, frzAs, frzA, adoptR, adopt, isD, isD0, trim, List.take, binS, sliceA, bnd, zOk, elems, Nat.reduceBNe, inpl, Nat.reduceLT, Nat.reduceBEq, Nat.reduceSub, Nat.reduceMul, Int.reduceLT, Int.reduceLE, Int.reduceEq, Int.reduceToNat, Int.reduceNeg, thaw, nodup, refsV, adopts, Pk.TY_Diff, Pk.TY_State]
  simp only [Option.bind_assoc]
  generalize hm : d.log.length + d.whole.log.length = m
  refine bind_run (loop_run (fun i T H => lk T 1 = .ptr 0 0 ∧ lk T 3 = .d (.i .i64 ((m + thereN d.whole.base i : Nat) : Int)) ∧ lk T 4 = .d (.i .i64 (i : Nat)) ∧ H = [.box (.d (.agg d.cs))])
    (fun e T H => e = .exit 0 ∧ lk T 3 = .d (.i .i64 ((m + thereN d.whole.base 6 : Nat) : Int)) ∧ H = [.box (.d (.agg d.cs))]) 6 ?_ ?_ 6 0 _ _ (by omega) ⟨rfl, rfl, rfl, rfl⟩) ?_
  · rintro i T H hi ⟨g1, g3, g4, rfl⟩
    have hd : decide ((i : Int) < 6) = true := by simp; omega
    have hw : IntKind.i64.wrap ((i : Int) + 1) = ((i + 1 : Nat) : Int) := wi64 (by omega)
    have b3 : ((i : Int) < ((6 : Nat) : Int)) = True := by simp; omega
    have b3' : (0 ≤ (i : Int)) = True := by simp
    have hx : ∀ (d : Diff) (i : Nat), i < 6 → d.cs[4 + i * 5]? = some (.b (d.whole.base.objs.get i).there) := fun s i h => match i, h with
      | 0, _ => rfl | 1, _ => rfl | 2, _ => rfl | 3, _ => rfl | 4, _ => rfl | 5, _ => rfl | _ + 6, h => absurd h (by omega)
    have hx := hx d i hi
    have hle := thereN_le d.whole.base i
    have hs : thereN d.whole.base (i + 1) = thereN d.whole.base i + (if (d.whole.base.objs.get i).there = true then 1 else 0) := rfl
    rcases Bool.eq_false_or_eq_true (d.whole.base.objs.get i).there with c | c
    · rw [c] at hx
      rw [c, if_pos rfl] at hs
      have hw2 : IntKind.i64.wrap (((m + thereN d.whole.base i : Nat) : Int) + 1) = ((m + thereN d.whole.base (i + 1) : Nat) : Int) := by rw [hs, show ((m + thereN d.whole.base i : Nat) : Int) + 1 = ((m + (thereN d.whole.base i + 1) : Nat) : Int) by omega]; exact wi64 (by omega)
      simp (config := {decide := true}) only [K_paddockref8_Bytes_0, l_paddockref8_Bytes_0, g1, g3, g4, hd, hw, hw2, b3, b3', hi, hx, Pk.EVL, keepT, enum, ↓reduceIte, ev, act, appT, callee, toDs, toD, loadA, storeA, subA, subD, updA, Eff.on, resA, resVs, resV, lk, finish, frzR, frzVs, frzV, fznR, fzns, fzn, lts, lt, ltO, List.all, pairsOk, indep, reduceCtorEq, Nat.reduceEqDiff, Nat.reduceAdd, Nat.reduceLeDiff, stb, thaws, List.drop, intOfA, binD, binI, unD, mmL, buildA, mkAgg, allD, behind, behind0, takeAt, frzAs, frzA, adoptR, adopt, isD, isD0, trim, List.take, binS, sliceA, bnd, zOk, elems, Nat.reduceBNe, inpl, Nat.reduceLT, Nat.reduceBEq, Nat.reduceSub, Nat.reduceMul, Int.reduceLT, Int.reduceLE, Int.reduceEq, Int.reduceToNat, Int.reduceNeg, thaw, nodup, refsV, adopts, Pk.TY_Diff]
      refine ⟨_, _, _, rfl, ?_⟩
      exact .inl ⟨rfl, rfl, rfl, rfl, rfl⟩
    · rw [c] at hx
      rw [c, if_neg (by simp), Nat.add_zero] at hs
      simp (config := {decide := true}) only [K_paddockref8_Bytes_0, l_paddockref8_Bytes_0, g1, g3, g4, hd, hw, b3, b3', hi, hx, Pk.EVL, keepT, enum, ↓reduceIte, ev, act, appT, callee, toDs, toD, loadA, storeA, subA, subD, updA, Eff.on, resA, resVs, resV, lk, finish, frzR, frzVs, frzV, fznR, fzns, fzn, lts, lt, ltO, List.all, pairsOk, indep, reduceCtorEq, Nat.reduceEqDiff, Nat.reduceAdd, Nat.reduceLeDiff, stb, thaws, List.drop, intOfA, binD, binI, unD, mmL, buildA, mkAgg, allD, behind, behind0, takeAt, frzAs, frzA, adoptR, adopt, isD, isD0, trim, List.take, binS, sliceA, bnd, zOk, elems, Nat.reduceBNe, inpl, Nat.reduceLT, Nat.reduceBEq, Nat.reduceSub, Nat.reduceMul, Int.reduceLT, Int.reduceLE, Int.reduceEq, Int.reduceToNat, Int.reduceNeg, thaw, nodup, refsV, adopts, Pk.TY_Diff]
      refine ⟨_, _, _, rfl, ?_⟩
      refine .inl ⟨rfl, rfl, ?_, rfl, rfl⟩
      rw [hs]
      rfl
  · rintro T H ⟨g1, g3, g4, rfl⟩
    simp (config := {decide := true}) only [K_paddockref8_Bytes_0, l_paddockref8_Bytes_0, g1, g3, g4, Pk.EVL, keepT, enum, ↓reduceIte, ev, act, appT, callee, toDs, toD, loadA, storeA, subA, subD, updA, Eff.on, resA, resVs, resV, lk, finish, frzR, frzVs, frzV, fznR, fzns, fzn, lts, lt, ltO, List.all, pairsOk, indep, reduceCtorEq, Nat.reduceEqDiff, Nat.reduceAdd, Nat.reduceLeDiff, stb, thaws, List.drop, intOfA, binD, binI, unD, mmL, buildA, mkAgg, allD, behind, behind0, takeAt, frzAs, frzA, adoptR, adopt, isD, isD0, trim, List.take, binS, sliceA, bnd, zOk, elems, Nat.reduceBNe, inpl, Nat.reduceLT, Nat.reduceBEq, Nat.reduceSub, Nat.reduceMul, Int.reduceLT, Int.reduceLE, Int.reduceEq, Int.reduceToNat, Int.reduceNeg, thaw, nodup, refsV, adopts, Pk.TY_Diff]
    refine ⟨_, _, _, rfl, ?_⟩
    exact ⟨by simp, rfl, rfl, rfl⟩
  rintro e T H ⟨rfl, g3, rfl⟩
  simp (config := {decide := true}) only [g3, Pk.EVL, keepT, enum, ↓reduceIte, ev, act, appT, callee, toDs, toD, loadA, storeA, subA, subD, updA, Eff.on, resA, resVs, resV, lk, finish, frzR, frzVs, frzV, fznR, fzns, fzn, lts, lt, ltO, List.all, pairsOk, indep, reduceCtorEq, Nat.reduceEqDiff, Nat.reduceAdd, Nat.reduceLeDiff, stb, thaws, List.drop, intOfA, binD, binI, unD, mmL, buildA, mkAgg, allD, behind, behind0, takeAt, frzAs, frzA, adoptR, adopt, isD, isD0, trim, List.take, binS, sliceA, bnd, zOk, elems, Nat.reduceBNe, inpl, Nat.reduceLT, Nat.reduceBEq, Nat.reduceSub, Nat.reduceMul, Int.reduceLT, Int.reduceLE, Int.reduceEq, Int.reduceToNat, Int.reduceNeg, thaw, nodup, refsV, adopts]
def extendsM (a b : State) : Bool :=
  (isSt a && isSt b) && (decide ((headS b).2 ≥ (headS a).2) && ((makeM a b).kind == 0 || ((makeM a b).kind == 1 && (makeM a b).from_ == (headS a).2)))
theorem extends_at (a b : State) (ha : stOk a) (hb : stOk b) : evF C F_merge_Extends [.d (.agg a.cs), .d (.agg b.cs)] [] = some (.d (.b (extendsM a b)), []) := by
  rw [evF_code (rfl : C F_merge_Extends = some a_merge_Extends) _ _ rfl]
  have h1 := is_st a
  have h2 := is_st b
  have h3 := head_at a
  have h4 := head_at b
  have h5 := make_at a b ha hb
  clear ha hb
  unfold extendsM
  generalize isSt a = I1 at *
  generalize isSt b = I2 at *
  generalize headS a = H1 at *
  generalize headS b = H2 at *
  generalize makeM a b = D at *
  obtain ⟨s1, n1⟩ := H1
  obtain ⟨s2, n2⟩ := H2
  simp only at h3 h4 ⊢
  cases I1 with
  | false => simp (config := {decide := true}) only [c_merge_Extends, h1, guardR_und, Pk.EVL, keepT, enum, ↓reduceIte, ev, act, appT, callee, toDs, toD, loadA, storeA, subA, subD, updA, Eff.on, resA, resVs, resV, lk, finish, frzR, frzVs, frzV, fznR, fzns, fzn, lts, lt, ltO, List.all, pairsOk, indep, reduceCtorEq, Nat.reduceEqDiff, Nat.reduceAdd, Nat.reduceLeDiff, stb, thaws, List.drop, intOfA, binD, binI, unD, mmL, buildA, mkAgg, allD, behind, behind0, takeAt, frzAs, frzA, adoptR, adopt, isD, isD0, trim, List.take, binS, sliceA, bnd, zOk, elems, Nat.reduceBNe, inpl, Nat.reduceLT, Nat.reduceBEq, Nat.reduceSub, Nat.reduceMul, Int.reduceLT, Int.reduceLE, Int.reduceEq, Int.reduceToNat, Int.reduceNeg, thaw, nodup, refsV, adopts, Pk.TY_State, Pk.TY_Diff]; try rfl
  | true =>
  cases I2 with
  | false => simp (config := {decide := true}) only [c_merge_Extends, h1, h2, guardR_und, Pk.EVL, keepT, enum, ↓reduceIte, ev, act, appT, callee, toDs, toD, loadA, storeA, subA, subD, updA, Eff.on, resA, resVs, resV, lk, finish, frzR, frzVs, frzV, fznR, fzns, fzn, lts, lt, ltO, List.all, pairsOk, indep, reduceCtorEq, Nat.reduceEqDiff, Nat.reduceAdd, Nat.reduceLeDiff, stb, thaws, List.drop, intOfA, binD, binI, unD, mmL, buildA, mkAgg, allD, behind, behind0, takeAt, frzAs, frzA, adoptR, adopt, isD, isD0, trim, List.take, binS, sliceA, bnd, zOk, elems, Nat.reduceBNe, inpl, Nat.reduceLT, Nat.reduceBEq, Nat.reduceSub, Nat.reduceMul, Int.reduceLT, Int.reduceLE, Int.reduceEq, Int.reduceToNat, Int.reduceNeg, thaw, nodup, refsV, adopts, Pk.TY_State, Pk.TY_Diff]; try rfl
  | true =>
  rcases Bool.eq_false_or_eq_true (decide (n2 ≥ n1)) with c1 | c1
  case inr => simp (config := {decide := true}) only [c_merge_Extends, h1, h2, h3, h4, h5, c1, guardR_und, Pk.EVL, keepT, enum, ↓reduceIte, ev, act, appT, callee, toDs, toD, loadA, storeA, subA, subD, updA, Eff.on, resA, resVs, resV, lk, finish, frzR, frzVs, frzV, fznR, fzns, fzn, lts, lt, ltO, List.all, pairsOk, indep, reduceCtorEq, Nat.reduceEqDiff, Nat.reduceAdd, Nat.reduceLeDiff, stb, thaws, List.drop, intOfA, binD, binI, unD, mmL, buildA, mkAgg, allD, behind, behind0, takeAt, frzAs, frzA, adoptR, adopt, isD, isD0, trim, List.take, binS, sliceA, bnd, zOk, elems, Nat.reduceBNe, inpl, Nat.reduceLT, Nat.reduceBEq, Nat.reduceSub, Nat.reduceMul, Int.reduceLT, Int.reduceLE, Int.reduceEq, Int.reduceToNat, Int.reduceNeg, thaw, nodup, refsV, adopts, Pk.TY_State, Pk.TY_Diff]; try rfl
  rcases Bool.eq_false_or_eq_true (D.kind == 0) with c2 | c2
  · simp (config := {decide := true}) only [c_merge_Extends, h1, h2, h3, h4, h5, c1, c2, guardR_und, Pk.EVL, keepT, enum, ↓reduceIte, ev, act, appT, callee, toDs, toD, loadA, storeA, subA, subD, updA, Eff.on, resA, resVs, resV, lk, finish, frzR, frzVs, frzV, fznR, fzns, fzn, lts, lt, ltO, List.all, pairsOk, indep, reduceCtorEq, Nat.reduceEqDiff, Nat.reduceAdd, Nat.reduceLeDiff, stb, thaws, List.drop, intOfA, binD, binI, unD, mmL, buildA, mkAgg, allD, behind, behind0, takeAt, frzAs, frzA, adoptR, adopt, isD, isD0, trim, List.take, binS, sliceA, bnd, zOk, elems, Nat.reduceBNe, inpl, Nat.reduceLT, Nat.reduceBEq, Nat.reduceSub, Nat.reduceMul, Int.reduceLT, Int.reduceLE, Int.reduceEq, Int.reduceToNat, Int.reduceNeg, thaw, nodup, refsV, adopts, Pk.TY_State, Pk.TY_Diff]; try rfl
  rcases Bool.eq_false_or_eq_true (D.kind == 1) with c3 | c3
  case inr => simp (config := {decide := true}) only [c_merge_Extends, h1, h2, h3, h4, h5, c1, c2, c3, guardR_und, Pk.EVL, keepT, enum, ↓reduceIte, ev, act, appT, callee, toDs, toD, loadA, storeA, subA, subD, updA, Eff.on, resA, resVs, resV, lk, finish, frzR, frzVs, frzV, fznR, fzns, fzn, lts, lt, ltO, List.all, pairsOk, indep, reduceCtorEq, Nat.reduceEqDiff, Nat.reduceAdd, Nat.reduceLeDiff, stb, thaws, List.drop, intOfA, binD, binI, unD, mmL, buildA, mkAgg, allD, behind, behind0, takeAt, frzAs, frzA, adoptR, adopt, isD, isD0, trim, List.take, binS, sliceA, bnd, zOk, elems, Nat.reduceBNe, inpl, Nat.reduceLT, Nat.reduceBEq, Nat.reduceSub, Nat.reduceMul, Int.reduceLT, Int.reduceLE, Int.reduceEq, Int.reduceToNat, Int.reduceNeg, thaw, nodup, refsV, adopts, Pk.TY_State, Pk.TY_Diff]; try rfl
  rcases Bool.eq_false_or_eq_true (D.from_ == n1) with c4 | c4
  · simp (config := {decide := true}) only [c_merge_Extends, h1, h2, h3, h4, h5, c1, c2, c3, c4, guardR_und, Pk.EVL, keepT, enum, ↓reduceIte, ev, act, appT, callee, toDs, toD, loadA, storeA, subA, subD, updA, Eff.on, resA, resVs, resV, lk, finish, frzR, frzVs, frzV, fznR, fzns, fzn, lts, lt, ltO, List.all, pairsOk, indep, reduceCtorEq, Nat.reduceEqDiff, Nat.reduceAdd, Nat.reduceLeDiff, stb, thaws, List.drop, intOfA, binD, binI, unD, mmL, buildA, mkAgg, allD, behind, behind0, takeAt, frzAs, frzA, adoptR, adopt, isD, isD0, trim, List.take, binS, sliceA, bnd, zOk, elems, Nat.reduceBNe, inpl, Nat.reduceLT, Nat.reduceBEq, Nat.reduceSub, Nat.reduceMul, Int.reduceLT, Int.reduceLE, Int.reduceEq, Int.reduceToNat, Int.reduceNeg, thaw, nodup, refsV, adopts, Pk.TY_State, Pk.TY_Diff]; try rfl
  · simp (config := {decide := true}) only [c_merge_Extends, h1, h2, h3, h4, h5, c1, c2, c3, c4, guardR_und, Pk.EVL, keepT, enum, ↓reduceIte, ev, act, appT, callee, toDs, toD, loadA, storeA, subA, subD, updA, Eff.on, resA, resVs, resV, lk, finish, frzR, frzVs, frzV, fznR, fzns, fzn, lts, lt, ltO, List.all, pairsOk, indep, reduceCtorEq, Nat.reduceEqDiff, Nat.reduceAdd, Nat.reduceLeDiff, stb, thaws, List.drop, intOfA, binD, binI, unD, mmL, buildA, mkAgg, allD, behind, behind0, takeAt, frzAs, frzA, adoptR, adopt, isD, isD0, trim, List.take, binS, sliceA, bnd, zOk, elems, Nat.reduceBNe, inpl, Nat.reduceLT, Nat.reduceBEq, Nat.reduceSub, Nat.reduceMul, Int.reduceLT, Int.reduceLE, Int.reduceEq, Int.reduceToNat, Int.reduceNeg, thaw, nodup, refsV, adopts, Pk.TY_State, Pk.TY_Diff]; try rfl
theorem refextends_of (a b : State) (ha : stFull a) (hb : stFull b) (h5 : evF C F_paddockref8_Make [.d (.agg a.cs), .d (.agg b.cs)] [] = some (.d (.agg (makeM a b).cs), [])) : evF C F_paddockref8_Extends [.d (.agg a.cs), .d (.agg b.cs)] [] = some (.d (.b (extendsM a b)), []) := by
  rw [evF_code (rfl : C F_paddockref8_Extends = some a_paddockref8_Extends) _ _ rfl]
  have h1 := refis_st a ha
  have h2 := refis_st b hb
  have h3 := refhead_at a ha
  have h4 := refhead_at b hb
  clear ha hb
  unfold extendsM
  generalize isSt a = I1 at *
  generalize isSt b = I2 at *
  generalize headS a = H1 at *
  generalize headS b = H2 at *
  generalize makeM a b = D at *
  obtain ⟨s1, n1⟩ := H1
  obtain ⟨s2, n2⟩ := H2
  simp only at h3 h4 ⊢
  cases I1 with
  | false => simp (config := {decide := true}) only [c_paddockref8_Extends, h1, guardR_und, Pk.EVL, keepT, enum, ↓reduceIte, ev, act, appT, callee, toDs, toD, loadA, storeA, subA, subD, updA, Eff.on, resA, resVs, resV, lk, finish, frzR, frzVs, frzV, fznR, fzns, fzn, lts, lt, ltO, List.all, pairsOk, indep, reduceCtorEq, Nat.reduceEqDiff, Nat.reduceAdd, Nat.reduceLeDiff, stb, thaws, List.drop, intOfA, binD, binI, unD, mmL, buildA, mkAgg, allD, behind, behind0, takeAt, frzAs, frzA, adoptR, adopt, isD, isD0, trim, List.take, binS, sliceA, bnd, zOk, elems, Nat.reduceBNe, inpl, Nat.reduceLT, Nat.reduceBEq, Nat.reduceSub, Nat.reduceMul, Int.reduceLT, Int.reduceLE, Int.reduceEq, Int.reduceToNat, Int.reduceNeg, thaw, nodup, refsV, adopts, Pk.TY_State, Pk.TY_Diff]; try rfl
  | true =>
  cases I2 with
  | false => simp (config := {decide := true}) only [c_paddockref8_Extends, h1, h2, guardR_und, Pk.EVL, keepT, enum, ↓reduceIte, ev, act, appT, callee, toDs, toD, loadA, storeA, subA, subD, updA, Eff.on, resA, resVs, resV, lk, finish, frzR, frzVs, frzV, fznR, fzns, fzn, lts, lt, ltO, List.all, pairsOk, indep, reduceCtorEq, Nat.reduceEqDiff, Nat.reduceAdd, Nat.reduceLeDiff, stb, thaws, List.drop, intOfA, binD, binI, unD, mmL, buildA, mkAgg, allD, behind, behind0, takeAt, frzAs, frzA, adoptR, adopt, isD, isD0, trim, List.take, binS, sliceA, bnd, zOk, elems, Nat.reduceBNe, inpl, Nat.reduceLT, Nat.reduceBEq, Nat.reduceSub, Nat.reduceMul, Int.reduceLT, Int.reduceLE, Int.reduceEq, Int.reduceToNat, Int.reduceNeg, thaw, nodup, refsV, adopts, Pk.TY_State, Pk.TY_Diff]; try rfl
  | true =>
  rcases Bool.eq_false_or_eq_true (decide (n2 ≥ n1)) with c1 | c1
  case inr => simp (config := {decide := true}) only [c_paddockref8_Extends, h1, h2, h3, h4, h5, c1, guardR_und, Pk.EVL, keepT, enum, ↓reduceIte, ev, act, appT, callee, toDs, toD, loadA, storeA, subA, subD, updA, Eff.on, resA, resVs, resV, lk, finish, frzR, frzVs, frzV, fznR, fzns, fzn, lts, lt, ltO, List.all, pairsOk, indep, reduceCtorEq, Nat.reduceEqDiff, Nat.reduceAdd, Nat.reduceLeDiff, stb, thaws, List.drop, intOfA, binD, binI, unD, mmL, buildA, mkAgg, allD, behind, behind0, takeAt, frzAs, frzA, adoptR, adopt, isD, isD0, trim, List.take, binS, sliceA, bnd, zOk, elems, Nat.reduceBNe, inpl, Nat.reduceLT, Nat.reduceBEq, Nat.reduceSub, Nat.reduceMul, Int.reduceLT, Int.reduceLE, Int.reduceEq, Int.reduceToNat, Int.reduceNeg, thaw, nodup, refsV, adopts, Pk.TY_State, Pk.TY_Diff]; try rfl
  rcases Bool.eq_false_or_eq_true (D.kind == 0) with c2 | c2
  · simp (config := {decide := true}) only [c_paddockref8_Extends, h1, h2, h3, h4, h5, c1, c2, guardR_und, Pk.EVL, keepT, enum, ↓reduceIte, ev, act, appT, callee, toDs, toD, loadA, storeA, subA, subD, updA, Eff.on, resA, resVs, resV, lk, finish, frzR, frzVs, frzV, fznR, fzns, fzn, lts, lt, ltO, List.all, pairsOk, indep, reduceCtorEq, Nat.reduceEqDiff, Nat.reduceAdd, Nat.reduceLeDiff, stb, thaws, List.drop, intOfA, binD, binI, unD, mmL, buildA, mkAgg, allD, behind, behind0, takeAt, frzAs, frzA, adoptR, adopt, isD, isD0, trim, List.take, binS, sliceA, bnd, zOk, elems, Nat.reduceBNe, inpl, Nat.reduceLT, Nat.reduceBEq, Nat.reduceSub, Nat.reduceMul, Int.reduceLT, Int.reduceLE, Int.reduceEq, Int.reduceToNat, Int.reduceNeg, thaw, nodup, refsV, adopts, Pk.TY_State, Pk.TY_Diff]; try rfl
  rcases Bool.eq_false_or_eq_true (D.kind == 1) with c3 | c3
  case inr => simp (config := {decide := true}) only [c_paddockref8_Extends, h1, h2, h3, h4, h5, c1, c2, c3, guardR_und, Pk.EVL, keepT, enum, ↓reduceIte, ev, act, appT, callee, toDs, toD, loadA, storeA, subA, subD, updA, Eff.on, resA, resVs, resV, lk, finish, frzR, frzVs, frzV, fznR, fzns, fzn, lts, lt, ltO, List.all, pairsOk, indep, reduceCtorEq, Nat.reduceEqDiff, Nat.reduceAdd, Nat.reduceLeDiff, stb, thaws, List.drop, intOfA, binD, binI, unD, mmL, buildA, mkAgg, allD, behind, behind0, takeAt, frzAs, frzA, adoptR, adopt, isD, isD0, trim, List.take, binS, sliceA, bnd, zOk, elems, Nat.reduceBNe, inpl, Nat.reduceLT, Nat.reduceBEq, Nat.reduceSub, Nat.reduceMul, Int.reduceLT, Int.reduceLE, Int.reduceEq, Int.reduceToNat, Int.reduceNeg, thaw, nodup, refsV, adopts, Pk.TY_State, Pk.TY_Diff]; try rfl
  rcases Bool.eq_false_or_eq_true (D.from_ == n1) with c4 | c4
  · simp (config := {decide := true}) only [c_paddockref8_Extends, h1, h2, h3, h4, h5, c1, c2, c3, c4, guardR_und, Pk.EVL, keepT, enum, ↓reduceIte, ev, act, appT, callee, toDs, toD, loadA, storeA, subA, subD, updA, Eff.on, resA, resVs, resV, lk, finish, frzR, frzVs, frzV, fznR, fzns, fzn, lts, lt, ltO, List.all, pairsOk, indep, reduceCtorEq, Nat.reduceEqDiff, Nat.reduceAdd, Nat.reduceLeDiff, stb, thaws, List.drop, intOfA, binD, binI, unD, mmL, buildA, mkAgg, allD, behind, behind0, takeAt, frzAs, frzA, adoptR, adopt, isD, isD0, trim, List.take, binS, sliceA, bnd, zOk, elems, Nat.reduceBNe, inpl, Nat.reduceLT, Nat.reduceBEq, Nat.reduceSub, Nat.reduceMul, Int.reduceLT, Int.reduceLE, Int.reduceEq, Int.reduceToNat, Int.reduceNeg, thaw, nodup, refsV, adopts, Pk.TY_State, Pk.TY_Diff]; try rfl
  · simp (config := {decide := true}) only [c_paddockref8_Extends, h1, h2, h3, h4, h5, c1, c2, c3, c4, guardR_und, Pk.EVL, keepT, enum, ↓reduceIte, ev, act, appT, callee, toDs, toD, loadA, storeA, subA, subD, updA, Eff.on, resA, resVs, resV, lk, finish, frzR, frzVs, frzV, fznR, fzns, fzn, lts, lt, ltO, List.all, pairsOk, indep, reduceCtorEq, Nat.reduceEqDiff, Nat.reduceAdd, Nat.reduceLeDiff, stb, thaws, List.drop, intOfA, binD, binI, unD, mmL, buildA, mkAgg, allD, behind, behind0, takeAt, frzAs, frzA, adoptR, adopt, isD, isD0, trim, List.take, binS, sliceA, bnd, zOk, elems, Nat.reduceBNe, inpl, Nat.reduceLT, Nat.reduceBEq, Nat.reduceSub, Nat.reduceMul, Int.reduceLT, Int.reduceLE, Int.reduceEq, Int.reduceToNat, Int.reduceNeg, thaw, nodup, refsV, adopts, Pk.TY_State, Pk.TY_Diff]; try rfl
end Go.Proofs.Ytfajplmkfpdhfaa

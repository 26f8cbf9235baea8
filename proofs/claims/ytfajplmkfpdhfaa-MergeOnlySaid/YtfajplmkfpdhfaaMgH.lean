/- How much a difference bears; whether one goes on where another ends; what is known. -/
import Derived.Test.YtfajplmkfpdhfaaMgA
set_option linter.all false
namespace Go.Proofs.Ytfajplmkfpdhfaa
open Pv Go Pk
set_option maxRecDepth 10000
set_option maxHeartbeats 2000000
def thereN (b : Base) : Nat → Nat
  | 0 => 0
  | i + 1 => thereN b i + (if (b.objs.get i).there = true then 1 else 0)
theorem thereN_le (b : Base) : ∀ i, thereN b i ≤ i
  | 0 => Nat.le_refl _
  | i + 1 => by have := thereN_le b i; simp only [thereN]; split <;> omega
def bytesD (d : Diff) : Nat := d.log.length + d.whole.log.length + thereN d.whole.base 6
theorem bytes_at (d : Diff) (h1 : d.log.length ≤ 1000) (h2 : d.whole.log.length ≤ 1000) : evF C F_merge_Bytes [.d (.agg d.cs)] [] = some (.d (.i .i64 (bytesD d : Nat)), []) := by
  rw [evF_code (rfl : C F_merge_Bytes = some a_merge_Bytes) _ _ rfl]
  have hw0 : IntKind.i64.wrap (((d.log.length : Nat) : Int) + ((d.whole.log.length : Nat) : Int)) = ((d.log.length + d.whole.log.length : Nat) : Int) := wi64 (by omega)
  unfold bytesD
  simp (config := {decide := true}) only [c_merge_Bytes, hw0, Pk.EVL, keepT, enum, ↓reduceIte, ev, act, appT, callee, toDs, toD, loadA, storeA, subA, subD, updA, Eff.on, resA, resVs, resV, lk, finish, frzR, frzVs, frzV, fznR, fzns, fzn, lts, lt, ltO, List.all, pairsOk, indep, reduceCtorEq, Nat.reduceEqDiff, Nat.reduceAdd, Nat.reduceLeDiff, stb, thaws, List.drop, intOfA, binD, binI, unD, mmL, buildA, mkAgg, allD, behind, behind0, takeAt, frzAs, frzA, adoptR, adopt, isD, isD0, trim, List.take, binS, sliceA, bnd, zOk, elems, Nat.reduceBNe, inpl, Nat.reduceLT, Nat.reduceBEq, Nat.reduceSub, Nat.reduceMul, Int.reduceLT, Int.reduceLE, Int.reduceEq, Int.reduceToNat, Int.reduceNeg, thaw, nodup, refsV, adopts, Pk.TY_Diff, Pk.TY_State]
  simp only [Option.bind_assoc]
  generalize hm : d.log.length + d.whole.log.length = m
  refine bind_run (loop_run (fun i T H => lk T 3 = .d (.i .i64 ((m + thereN d.whole.base i : Nat) : Int)) ∧ lk T 17 = .d (.agg (R6.cs Objt.cs d.whole.base.objs)) ∧ lk T 18 = .d (.i .i64 (i : Nat)) ∧ ∃ J, H = .box (.d (.agg d.cs)) :: J)
    (fun e T H => e = .exit 0 ∧ lk T 3 = .d (.i .i64 ((m + thereN d.whole.base 6 : Nat) : Int)) ∧ ∃ J, H = .box (.d (.agg d.cs)) :: J) 6 ?_ ?_ 6 0 _ _ (by omega) ⟨rfl, rfl, rfl, [], rfl⟩) ?_
  · rintro i T H hi ⟨g3, g17, g18, J, rfl⟩
    have hd : decide ((i : Int) < 6) = true := by simp; omega
    have hw : IntKind.i64.wrap ((i : Int) + 1) = ((i + 1 : Nat) : Int) := wi64 (by omega)
    have b3 : ((i : Int) < ((6 : Nat) : Int)) = True := by simp; omega
    have b3' : (0 ≤ (i : Int)) = True := by simp
    have b4 : (i * 5 + 5 ≤ 30) = True := by simp; omega
    have hle := thereN_le d.whole.base i
    have hs : thereN d.whole.base (i + 1) = thereN d.whole.base i + (if (d.whole.base.objs.get i).there = true then 1 else 0) := rfl
    rcases Bool.eq_false_or_eq_true (d.whole.base.objs.get i).there with c | c
    · rw [c, if_pos rfl] at hs
      have hw2 : IntKind.i64.wrap (((m + thereN d.whole.base i : Nat) : Int) + 1) = ((m + thereN d.whole.base (i + 1) : Nat) : Int) := by rw [hs, show ((m + thereN d.whole.base i : Nat) : Int) + 1 = ((m + (thereN d.whole.base i + 1) : Nat) : Int) by omega]; exact wi64 (by omega)
      simp (config := {decide := true}) only [K_merge_Bytes_0, l_merge_Bytes_0, g3, g17, g18, hd, hw, hw2, b3, b3', b4, hi, c, Pk.EVL, keepT, enum, ↓reduceIte, ev, act, appT, callee, toDs, toD, loadA, storeA, subA, subD, updA, Eff.on, resA, resVs, resV, lk, finish, frzR, frzVs, frzV, fznR, fzns, fzn, lts, lt, ltO, List.all, pairsOk, indep, reduceCtorEq, Nat.reduceEqDiff, Nat.reduceAdd, Nat.reduceLeDiff, stb, thaws, List.drop, intOfA, binD, binI, unD, mmL, buildA, mkAgg, allD, behind, behind0, takeAt, frzAs, frzA, adoptR, adopt, isD, isD0, trim, List.take, binS, sliceA, bnd, zOk, elems, Nat.reduceBNe, inpl, Nat.reduceLT, Nat.reduceBEq, Nat.reduceSub, Nat.reduceMul, Int.reduceLT, Int.reduceLE, Int.reduceEq, Int.reduceToNat, Int.reduceNeg, thaw, nodup, refsV, adopts, Pk.TY_Base, Pk.TY_Objt]
      refine ⟨_, _, _, rfl, ?_⟩
      exact .inl ⟨rfl, rfl, rfl, rfl, _, rfl⟩
    · rw [c, if_neg (by simp), Nat.add_zero] at hs
      simp (config := {decide := true}) only [K_merge_Bytes_0, l_merge_Bytes_0, g3, g17, g18, hd, hw, b3, b3', b4, hi, c, Pk.EVL, keepT, enum, ↓reduceIte, ev, act, appT, callee, toDs, toD, loadA, storeA, subA, subD, updA, Eff.on, resA, resVs, resV, lk, finish, frzR, frzVs, frzV, fznR, fzns, fzn, lts, lt, ltO, List.all, pairsOk, indep, reduceCtorEq, Nat.reduceEqDiff, Nat.reduceAdd, Nat.reduceLeDiff, stb, thaws, List.drop, intOfA, binD, binI, unD, mmL, buildA, mkAgg, allD, behind, behind0, takeAt, frzAs, frzA, adoptR, adopt, isD, isD0, trim, List.take, binS, sliceA, bnd, zOk, elems, Nat.reduceBNe, inpl, Nat.reduceLT, Nat.reduceBEq, Nat.reduceSub, Nat.reduceMul, Int.reduceLT, Int.reduceLE, Int.reduceEq, Int.reduceToNat, Int.reduceNeg, thaw, nodup, refsV, adopts, Pk.TY_Base, Pk.TY_Objt]
      refine ⟨_, _, _, rfl, ?_⟩
      refine .inl ⟨rfl, ?_, rfl, rfl, _, rfl⟩
      rw [hs]
      rfl
  · rintro T H ⟨g3, g17, g18, J, rfl⟩
    simp (config := {decide := true}) only [K_merge_Bytes_0, l_merge_Bytes_0, g3, g17, g18, Pk.EVL, keepT, enum, ↓reduceIte, ev, act, appT, callee, toDs, toD, loadA, storeA, subA, subD, updA, Eff.on, resA, resVs, resV, lk, finish, frzR, frzVs, frzV, fznR, fzns, fzn, lts, lt, ltO, List.all, pairsOk, indep, reduceCtorEq, Nat.reduceEqDiff, Nat.reduceAdd, Nat.reduceLeDiff, stb, thaws, List.drop, intOfA, binD, binI, unD, mmL, buildA, mkAgg, allD, behind, behind0, takeAt, frzAs, frzA, adoptR, adopt, isD, isD0, trim, List.take, binS, sliceA, bnd, zOk, elems, Nat.reduceBNe, inpl, Nat.reduceLT, Nat.reduceBEq, Nat.reduceSub, Nat.reduceMul, Int.reduceLT, Int.reduceLE, Int.reduceEq, Int.reduceToNat, Int.reduceNeg, thaw, nodup, refsV, adopts, Pk.TY_Base]
    refine ⟨_, _, _, rfl, ?_⟩
    exact ⟨by simp, rfl, rfl, _, rfl⟩
  rintro e T H ⟨rfl, g3, J, rfl⟩
  simp (config := {decide := true}) only [g3, Pk.EVL, keepT, enum, ↓reduceIte, ev, act, appT, callee, toDs, toD, loadA, storeA, subA, subD, updA, Eff.on, resA, resVs, resV, lk, finish, frzR, frzVs, frzV, fznR, fzns, fzn, lts, lt, ltO, List.all, pairsOk, indep, reduceCtorEq, Nat.reduceEqDiff, Nat.reduceAdd, Nat.reduceLeDiff, stb, thaws, List.drop, intOfA, binD, binI, unD, mmL, buildA, mkAgg, allD, behind, behind0, takeAt, frzAs, frzA, adoptR, adopt, isD, isD0, trim, List.take, binS, sliceA, bnd, zOk, elems, Nat.reduceBNe, inpl, Nat.reduceLT, Nat.reduceBEq, Nat.reduceSub, Nat.reduceMul, Int.reduceLT, Int.reduceLE, Int.reduceEq, Int.reduceToNat, Int.reduceNeg, thaw, nodup, refsV, adopts]
def extendsM (a b : State) : Bool :=
  (isSt a && isSt b) && (decide ((headS b).2 ≥ (headS a).2) && ((makeM a b).kind == 0 || ((makeM a b).kind == 1 && (makeM a b).from_ == (headS a).2)))
theorem extends_at (a b : State) (ha : stOk a) (hb : stOk b) : evF C F_merge_Extends [.d (.agg a.cs), .d (.agg b.cs)] [] = some (.d (.b (extendsM a b)), []) := by
  rw [evF_code (rfl : C F_merge_Extends = some a_merge_Extends) _ _ rfl]
  have h1 := is_st a
  have h2 := is_st b
  have h3 := head_at a
  have h4 := head_at b
  have h5 := make_at a b ha hb
  clear ha hb
  unfold extendsM
  generalize isSt a = I1 at *
  generalize isSt b = I2 at *
  generalize headS a = H1 at *
  generalize headS b = H2 at *
  generalize makeM a b = D at *
  obtain ⟨s1, n1⟩ := H1
  obtain ⟨s2, n2⟩ := H2
  simp only at h3 h4 ⊢
  cases I1 with
  | false => simp (config := {decide := true}) only [c_merge_Extends, h1, guardR_und, Pk.EVL, keepT, enum, ↓reduceIte, ev, act, appT, callee, toDs, toD, loadA, storeA, subA, subD, updA, Eff.on, resA, resVs, resV, lk, finish, frzR, frzVs, frzV, fznR, fzns, fzn, lts, lt, ltO, List.all, pairsOk, indep, reduceCtorEq, Nat.reduceEqDiff, Nat.reduceAdd, Nat.reduceLeDiff, stb, thaws, List.drop, intOfA, binD, binI, unD, mmL, buildA, mkAgg, allD, behind, behind0, takeAt, frzAs, frzA, adoptR, adopt, isD, isD0, trim, List.take, binS, sliceA, bnd, zOk, elems, Nat.reduceBNe, inpl, Nat.reduceLT, Nat.reduceBEq, Nat.reduceSub, Nat.reduceMul, Int.reduceLT, Int.reduceLE, Int.reduceEq, Int.reduceToNat, Int.reduceNeg, thaw, nodup, refsV, adopts, Pk.TY_State, Pk.TY_Diff]; try rfl
  | true =>
  cases I2 with
  | false => simp (config := {decide := true}) only [c_merge_Extends, h1, h2, guardR_und, Pk.EVL, keepT, enum, ↓reduceIte, ev, act, appT, callee, toDs, toD, loadA, storeA, subA, subD, updA, Eff.on, resA, resVs, resV, lk, finish, frzR, frzVs, frzV, fznR, fzns, fzn, lts, lt, ltO, List.all, pairsOk, indep, reduceCtorEq, Nat.reduceEqDiff, Nat.reduceAdd, Nat.reduceLeDiff, stb, thaws, List.drop, intOfA, binD, binI, unD, mmL, buildA, mkAgg, allD, behind, behind0, takeAt, frzAs, frzA, adoptR, adopt, isD, isD0, trim, List.take, binS, sliceA, bnd, zOk, elems, Nat.reduceBNe, inpl, Nat.reduceLT, Nat.reduceBEq, Nat.reduceSub, Nat.reduceMul, Int.reduceLT, Int.reduceLE, Int.reduceEq, Int.reduceToNat, Int.reduceNeg, thaw, nodup, refsV, adopts, Pk.TY_State, Pk.TY_Diff]; try rfl
  | true =>
  rcases Bool.eq_false_or_eq_true (decide (n2 ≥ n1)) with c1 | c1
  case inr => simp (config := {decide := true}) only [c_merge_Extends, h1, h2, h3, h4, h5, c1, guardR_und, Pk.EVL, keepT, enum, ↓reduceIte, ev, act, appT, callee, toDs, toD, loadA, storeA, subA, subD, updA, Eff.on, resA, resVs, resV, lk, finish, frzR, frzVs, frzV, fznR, fzns, fzn, lts, lt, ltO, List.all, pairsOk, indep, reduceCtorEq, Nat.reduceEqDiff, Nat.reduceAdd, Nat.reduceLeDiff, stb, thaws, List.drop, intOfA, binD, binI, unD, mmL, buildA, mkAgg, allD, behind, behind0, takeAt, frzAs, frzA, adoptR, adopt, isD, isD0, trim, List.take, binS, sliceA, bnd, zOk, elems, Nat.reduceBNe, inpl, Nat.reduceLT, Nat.reduceBEq, Nat.reduceSub, Nat.reduceMul, Int.reduceLT, Int.reduceLE, Int.reduceEq, Int.reduceToNat, Int.reduceNeg, thaw, nodup, refsV, adopts, Pk.TY_State, Pk.TY_Diff]; try rfl
  rcases Bool.eq_false_or_eq_true (D.kind == 0) with c2 | c2
  · simp (config := {decide := true}) only [c_merge_Extends, h1, h2, h3, h4, h5, c1, c2, guardR_und, Pk.EVL, keepT, enum, ↓reduceIte, ev, act, appT, callee, toDs, toD, loadA, storeA, subA, subD, updA, Eff.on, resA, resVs, resV, lk, finish, frzR, frzVs, frzV, fznR, fzns, fzn, lts, lt, ltO, List.all, pairsOk, indep, reduceCtorEq, Nat.reduceEqDiff, Nat.reduceAdd, Nat.reduceLeDiff, stb, thaws, List.drop, intOfA, binD, binI, unD, mmL, buildA, mkAgg, allD, behind, behind0, takeAt, frzAs, frzA, adoptR, adopt, isD, isD0, trim, List.take, binS, sliceA, bnd, zOk, elems, Nat.reduceBNe, inpl, Nat.reduceLT, Nat.reduceBEq, Nat.reduceSub, Nat.reduceMul, Int.reduceLT, Int.reduceLE, Int.reduceEq, Int.reduceToNat, Int.reduceNeg, thaw, nodup, refsV, adopts, Pk.TY_State, Pk.TY_Diff]; try rfl
  rcases Bool.eq_false_or_eq_true (D.kind == 1) with c3 | c3
  case inr => simp (config := {decide := true}) only [c_merge_Extends, h1, h2, h3, h4, h5, c1, c2, c3, guardR_und, Pk.EVL, keepT, enum, ↓reduceIte, ev, act, appT, callee, toDs, toD, loadA, storeA, subA, subD, updA, Eff.on, resA, resVs, resV, lk, finish, frzR, frzVs, frzV, fznR, fzns, fzn, lts, lt, ltO, List.all, pairsOk, indep, reduceCtorEq, Nat.reduceEqDiff, Nat.reduceAdd, Nat.reduceLeDiff, stb, thaws, List.drop, intOfA, binD, binI, unD, mmL, buildA, mkAgg, allD, behind, behind0, takeAt, frzAs, frzA, adoptR, adopt, isD, isD0, trim, List.take, binS, sliceA, bnd, zOk, elems, Nat.reduceBNe, inpl, Nat.reduceLT, Nat.reduceBEq, Nat.reduceSub, Nat.reduceMul, Int.reduceLT, Int.reduceLE, Int.reduceEq, Int.reduceToNat, Int.reduceNeg, thaw, nodup, refsV, adopts, Pk.TY_State, Pk.TY_Diff]; try rfl
  rcases Bool.eq_false_or_eq_true (D.from_ == n1) with c4 | c4
  · simp (config := {decide := true}) only [c_merge_Extends, h1, h2, h3, h4, h5, c1, c2, c3, c4, guardR_und, Pk.EVL, keepT, enum, ↓reduceIte, ev, act, appT, callee, toDs, toD, loadA, storeA, subA, subD, updA, Eff.on, resA, resVs, resV, lk, finish, frzR, frzVs, frzV, fznR, fzns, fzn, lts, lt, ltO, List.all, pairsOk, indep, reduceCtorEq, Nat.reduceEqDiff, Nat.reduceAdd, Nat.reduceLeDiff, stb, thaws, List.drop, intOfA, binD, binI, unD, mmL, buildA, mkAgg, allD, behind, behind0, takeAt, frzAs, frzA, adoptR, adopt, isD, isD0, trim, List.take, binS, sliceA, bnd, zOk, elems, Nat.reduceBNe, inpl, Nat.reduceLT, Nat.reduceBEq, Nat.reduceSub, Nat.reduceMul, Int.reduceLT, Int.reduceLE, Int.reduceEq, Int.reduceToNat, Int.reduceNeg, thaw, nodup, refsV, adopts, Pk.TY_State, Pk.TY_Diff]; try rfl
  · simp (config := {decide := true}) only [c_merge_Extends, h1, h2, h3, h4, h5, c1, c2, c3, c4, guardR_und, Pk.EVL, keepT, enum, ↓reduceIte, ev, act, appT, callee, toDs, toD, loadA, storeA, subA, subD, updA, Eff.on, resA, resVs, resV, lk, finish, frzR, frzVs, frzV, fznR, fzns, fzn, lts, lt, ltO, List.all, pairsOk, indep, reduceCtorEq, Nat.reduceEqDiff, Nat.reduceAdd, Nat.reduceLeDiff, stb, thaws, List.drop, intOfA, binD, binI, unD, mmL, buildA, mkAgg, allD, behind, behind0, takeAt, frzAs, frzA, adoptR, adopt, isD, isD0, trim, List.take, binS, sliceA, bnd, zOk, elems, Nat.reduceBNe, inpl, Nat.reduceLT, Nat.reduceBEq, Nat.reduceSub, Nat.reduceMul, Int.reduceLT, Int.reduceLE, Int.reduceEq, Int.reduceToNat, Int.reduceNeg, thaw, nodup, refsV, adopts, Pk.TY_State, Pk.TY_Diff]; try rfl
def e81 : Entry := ⟨1, 1, ⟨1, 1, 1, 0, 0, ⟨#[97]⟩⟩⟩
def s81 : State := ⟨0, Base.zero, Entry.zero, [e81]⟩
def D81 : Diff := ⟨1, 0, [e81], headM s81⟩
def Z81 : Diff := ⟨0, 0, [], headM s81⟩
def N81 : Diff := ⟨9, 0, [], State.zero⟩
theorem e81_cs : Entry.cs ⟨1, 1, ⟨1, 1, 1, 0, 0, ⟨#[97]⟩⟩⟩ = e81.cs := rfl
theorem s81_add : addS State.zero e81 = (s81, 0) := by decide +kernel
theorem s81_make : makeM State.zero s81 = D81 := by decide +kernel
theorem s81_self : makeM s81 s81 = Z81 := by decide +kernel
theorem s81_app : applyM State.zero D81 = (s81, 0) := by decide +kernel
theorem s81_bad : applyM s81 N81 = (State.zero, 80) := by decide +kernel
theorem s81_ext : extendsM State.zero s81 = true := by decide +kernel
theorem s81_ext0 : extendsM s81 State.zero = false := by decide +kernel
theorem N81_toDs (H : Heap) : toDs H (upd Diff.zeroA 0 [.d (.i .i64 9)]) = some (N81.cs, H) := rfl
theorem N81_allD : allD (upd Diff.zeroA 0 [.d (.i .i64 9)]) = none := rfl
theorem N81_len : (upd Diff.zeroA 0 [.d (.i .i64 9)]).length = 52 := rfl
theorem N81_lts (n : Nat) : lts n (upd Diff.zeroA 0 [.d (.i .i64 9)]) = true := rfl
theorem N81_isD : (upd Diff.zeroA 0 [.d (.i .i64 9)]).all isD0 = true := rfl
theorem N81_frz : frzAs (upd Diff.zeroA 0 [.d (.i .i64 9)]) = [] := rfl
theorem known8_at : evF C F_paddocklaw8_known [] [] = some (.d (.b true), []) := by
  rw [evF_code (rfl : C F_paddocklaw8_known = some a_paddocklaw8_known) _ _ rfl]
  have ho : e81.op.ok := by unfold Opr.ok; refine ⟨by decide, by decide, by decide, by decide, by decide, by decide⟩
  have oz : stOk State.zero := ⟨by decide, okLog_zero⟩
  have os : stOk s81 := ⟨by decide, fun e he => by
    have : e = e81 := by simpa [s81] using he
    rw [this]; exact ho⟩
  have a1 := add_at State.zero e81 okLog_zero ho
  rw [s81_add] at a1
  have a2 := make_at State.zero s81 oz os
  rw [s81_make] at a2
  have a3 := apply_at State.zero D81 oz (fun e he => by
    have : e = e81 := by simpa [D81] using he
    rw [this]; exact ho) (fun _ => trivial) (by decide)
  rw [s81_app] at a3
  have a4 := apply_at s81 N81 os (fun e he => by simp [N81] at he) (fun _ => trivial) (by decide)
  rw [s81_bad] at a4
  have a5 := same_at s81 s81 (by decide)
  rw [decide_eq_true rfl] at a5
  have a6 := make_at s81 s81 os os
  rw [s81_self] at a6
  have a7 := extends_at State.zero s81 oz os
  rw [s81_ext] at a7
  have a8 := extends_at s81 State.zero os oz
  rw [s81_ext0] at a8
  have k1 : (D81.kind == 1) = true := rfl
  have k2 : (((D81.log.length : Nat) : Int) == 1) = true := rfl
  have k3 : (Z81.kind == 0) = true := rfl
  have v0 : ((0 : Int) == 0) = true := rfl
  have v8 : ((80 : Int) == 80) = true := rfl
  simp only at a1 a3 a4
  simp (config := {decide := true}) only [c_paddocklaw8_known, e81_cs, a1, a2, a3, a4, a5, a6, a7, a8, k1, k2, k3, v0, v8, N81_toDs, N81_allD, N81_len, N81_lts, N81_isD, N81_frz, guardR_und, Bool.not_false, Pk.EVL, keepT, enum, ↓reduceIte, ev, act, appT, callee, toDs, toD, loadA, storeA, subA, subD, updA, Eff.on, resA, resVs, resV, lk, finish, frzR, frzVs, frzV, fznR, fzns, fzn, lts, lt, ltO, List.all, pairsOk, indep, reduceCtorEq, Nat.reduceEqDiff, Nat.reduceAdd, Nat.reduceLeDiff, stb, thaws, List.drop, intOfA, binD, binI, unD, mmL, buildA, mkAgg, allD, behind, behind0, takeAt, frzAs, frzA, adoptR, adopt, isD, isD0, trim, List.take, binS, sliceA, bnd, zOk, elems, Nat.reduceBNe, inpl, Nat.reduceLT, Nat.reduceBEq, Nat.reduceSub, Nat.reduceMul, Int.reduceLT, Int.reduceLE, Int.reduceEq, Int.reduceToNat, Int.reduceNeg, thaw, nodup, refsV, adopts, Pk.TY_State, Pk.TY_Diff, Pk.TY_Entry, Pk.TY_Opr]
theorem makeM_len (a b : State) (hb : b.log.length ≤ 100) : (makeM a b).log.length ≤ 100 ∧ (makeM a b).whole.log.length ≤ 100 := by
  unfold makeM
  split
  · split
    · exact ⟨by simp, by simp [headM]⟩
    · split
      · exact ⟨by show (b.log.drop _).length ≤ 100; rw [List.length_drop]; omega, by simp [headM]⟩
      · exact ⟨by simp, hb⟩
  · exact ⟨by decide, by decide⟩
end Go.Proofs.Ytfajplmkfpdhfaa

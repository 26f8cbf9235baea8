/- States of groups: which may be, their heads, folding. -/
import Derived.Test.YtlihpaegaikoeaaDoorPgA
set_option linter.all false
namespace Go.Proofs.YtlihpaegaikoeaaDoor
open Pv Go Pk
set_option maxRecDepth 10000
set_option maxHeartbeats 2000000

def chainE : Entry → List Entry → Bool
  | _, [] => true
  | last, e :: l => nextE last e && chainE e l
def isSt (s : State) : Bool := !decide (s.started > 60) && (!decide (s.tail.since > 60) && (decide (s.tail.op = (⟨0, 0, 0, 0, 0, ⟨#[]⟩⟩ : Opr)) && (!decide ((s.log.length : Int) > 6) && (okBase s.base && chainE s.tail s.log))))

theorem is_st (s : State) : evF C F_pglog_Is [.d (.agg s.cs)] [] = some (.d (.b (isSt s)), []) := by
  rw [evF_code (rfl : C F_pglog_Is = some a_pglog_Is) _ _ rfl]
  unfold isSt
  have hb := base_at s.base
  rcases Bool.eq_false_or_eq_true (decide (s.started > 60)) with q1 | q1
  · simp (config := {decide := true}) only [c_pglog_Is, q1, hb, guardR_und, Pk.EVL, keepT, enum, ↓reduceIte, ev, act, appT, callee, toDs, toD, loadA, storeA, subA, subD, updA, Eff.on, resA, resVs, resV, lk, finish, frzR, frzVs, frzV, fznR, fzns, fzn, lts, lt, ltO, List.all, pairsOk, indep, reduceCtorEq, Nat.reduceEqDiff, Nat.reduceAdd, Nat.reduceLeDiff, stb, thaws, List.drop, intOfA, binD, binI, unD, mmL, buildA, mkAgg, allD, bslD, behind, behind0, takeAt, frzAs, frzA, adoptR, adopt, isD, isD0, trim, List.take, binS, sliceA, bnd, zOk, elems, Nat.reduceBNe, inpl, Nat.reduceLT, Nat.reduceBEq, Nat.reduceSub, Nat.reduceMul, Int.reduceLT, Int.reduceLE, Int.reduceEq, Int.reduceToNat, Int.reduceNeg, thaw, nodup, refsV, adopts, Pk.TY_State, Pk.TY_Opr, Pk.TY_Entry]
  rcases Bool.eq_false_or_eq_true (decide (s.tail.since > 60)) with q2 | q2
  · simp (config := {decide := true}) only [c_pglog_Is, q1, q2, hb, guardR_und, Pk.EVL, keepT, enum, ↓reduceIte, ev, act, appT, callee, toDs, toD, loadA, storeA, subA, subD, updA, Eff.on, resA, resVs, resV, lk, finish, frzR, frzVs, frzV, fznR, fzns, fzn, lts, lt, ltO, List.all, pairsOk, indep, reduceCtorEq, Nat.reduceEqDiff, Nat.reduceAdd, Nat.reduceLeDiff, stb, thaws, List.drop, intOfA, binD, binI, unD, mmL, buildA, mkAgg, allD, bslD, behind, behind0, takeAt, frzAs, frzA, adoptR, adopt, isD, isD0, trim, List.take, binS, sliceA, bnd, zOk, elems, Nat.reduceBNe, inpl, Nat.reduceLT, Nat.reduceBEq, Nat.reduceSub, Nat.reduceMul, Int.reduceLT, Int.reduceLE, Int.reduceEq, Int.reduceToNat, Int.reduceNeg, thaw, nodup, refsV, adopts, Pk.TY_State, Pk.TY_Opr, Pk.TY_Entry]
  rcases (Bool.eq_false_or_eq_true (decide (s.tail.op = (⟨0, 0, 0, 0, 0, ⟨#[]⟩⟩ : Opr)))).symm with q3 | q3
  · simp (config := {decide := true}) only [c_pglog_Is, q1, q2, q3, hb, guardR_und, Pk.EVL, keepT, enum, ↓reduceIte, ev, act, appT, callee, toDs, toD, loadA, storeA, subA, subD, updA, Eff.on, resA, resVs, resV, lk, finish, frzR, frzVs, frzV, fznR, fzns, fzn, lts, lt, ltO, List.all, pairsOk, indep, reduceCtorEq, Nat.reduceEqDiff, Nat.reduceAdd, Nat.reduceLeDiff, stb, thaws, List.drop, intOfA, binD, binI, unD, mmL, buildA, mkAgg, allD, bslD, behind, behind0, takeAt, frzAs, frzA, adoptR, adopt, isD, isD0, trim, List.take, binS, sliceA, bnd, zOk, elems, Nat.reduceBNe, inpl, Nat.reduceLT, Nat.reduceBEq, Nat.reduceSub, Nat.reduceMul, Int.reduceLT, Int.reduceLE, Int.reduceEq, Int.reduceToNat, Int.reduceNeg, thaw, nodup, refsV, adopts, Pk.TY_State, Pk.TY_Opr, Pk.TY_Entry]
  rcases Bool.eq_false_or_eq_true (decide ((s.log.length : Int) > 6)) with q4 | q4
  · simp (config := {decide := true}) only [c_pglog_Is, q1, q2, q3, q4, hb, guardR_und, Pk.EVL, keepT, enum, ↓reduceIte, ev, act, appT, callee, toDs, toD, loadA, storeA, subA, subD, updA, Eff.on, resA, resVs, resV, lk, finish, frzR, frzVs, frzV, fznR, fzns, fzn, lts, lt, ltO, List.all, pairsOk, indep, reduceCtorEq, Nat.reduceEqDiff, Nat.reduceAdd, Nat.reduceLeDiff, stb, thaws, List.drop, intOfA, binD, binI, unD, mmL, buildA, mkAgg, allD, bslD, behind, behind0, takeAt, frzAs, frzA, adoptR, adopt, isD, isD0, trim, List.take, binS, sliceA, bnd, zOk, elems, Nat.reduceBNe, inpl, Nat.reduceLT, Nat.reduceBEq, Nat.reduceSub, Nat.reduceMul, Int.reduceLT, Int.reduceLE, Int.reduceEq, Int.reduceToNat, Int.reduceNeg, thaw, nodup, refsV, adopts, Pk.TY_State, Pk.TY_Opr, Pk.TY_Entry]
  rcases (Bool.eq_false_or_eq_true (okBase s.base)).symm with q5 | q5
  · simp (config := {decide := true}) only [c_pglog_Is, q1, q2, q3, q4, q5, hb, guardR_und, Pk.EVL, keepT, enum, ↓reduceIte, ev, act, appT, callee, toDs, toD, loadA, storeA, subA, subD, updA, Eff.on, resA, resVs, resV, lk, finish, frzR, frzVs, frzV, fznR, fzns, fzn, lts, lt, ltO, List.all, pairsOk, indep, reduceCtorEq, Nat.reduceEqDiff, Nat.reduceAdd, Nat.reduceLeDiff, stb, thaws, List.drop, intOfA, binD, binI, unD, mmL, buildA, mkAgg, allD, bslD, behind, behind0, takeAt, frzAs, frzA, adoptR, adopt, isD, isD0, trim, List.take, binS, sliceA, bnd, zOk, elems, Nat.reduceBNe, inpl, Nat.reduceLT, Nat.reduceBEq, Nat.reduceSub, Nat.reduceMul, Int.reduceLT, Int.reduceLE, Int.reduceEq, Int.reduceToNat, Int.reduceNeg, thaw, nodup, refsV, adopts, Pk.TY_State, Pk.TY_Opr, Pk.TY_Entry]
  have hl : s.log.length ≤ 6 := by have := of_decide_eq_false q4; omega
  simp (config := {decide := true}) only [c_pglog_Is, q1, q2, q3, q4, q5, hb, guardR_und, Pk.EVL, keepT, enum, ↓reduceIte, ev, act, appT, callee, toDs, toD, loadA, storeA, subA, subD, updA, Eff.on, resA, resVs, resV, lk, finish, frzR, frzVs, frzV, fznR, fzns, fzn, lts, lt, ltO, List.all, pairsOk, indep, reduceCtorEq, Nat.reduceEqDiff, Nat.reduceAdd, Nat.reduceLeDiff, stb, thaws, List.drop, intOfA, binD, binI, unD, mmL, buildA, mkAgg, allD, bslD, behind, behind0, takeAt, frzAs, frzA, adoptR, adopt, isD, isD0, trim, List.take, binS, sliceA, bnd, zOk, elems, Nat.reduceBNe, inpl, Nat.reduceLT, Nat.reduceBEq, Nat.reduceSub, Nat.reduceMul, Int.reduceLT, Int.reduceLE, Int.reduceEq, Int.reduceToNat, Int.reduceNeg, thaw, nodup, refsV, adopts, Pk.TY_State, Pk.TY_Opr, Pk.TY_Entry]
  simp only [Option.bind_assoc]
  refine bind_run (loop_run (fun i T H => lk T 3 = .ptr 1 0 ∧ lk T 37 = .d (.sl (s.log.map Entry.d)) ∧ lk T 38 = .d (.i .i64 (s.log.length : Nat)) ∧ lk T 39 = .d (.i .i64 (i : Nat)) ∧ ∃ last J, H = .box (.d (.agg s.cs)) :: .box (.d (.agg last.cs)) :: J ∧ chainE s.tail s.log = chainE last (s.log.drop i))
    (fun e T H => (e = .exit 0 ∧ (∃ last, H = [.box (.d (.agg s.cs)), .box (.d (.agg (Entry.cs last)))]) ∧ chainE s.tail s.log = true) ∨ (e = .ret ∧ lk T 2 = .d (.b false) ∧ (∃ x J, H = .box (.d x) :: J) ∧ chainE s.tail s.log = false)) s.log.length ?_ ?_ s.log.length 0 _ _ (by omega) ⟨rfl, rfl, rfl, rfl, s.tail, [], rfl, rfl⟩) ?_
  · rintro i T H hi ⟨h3, h37, h38, h39, last, J, rfl, hc⟩
    have hd : decide ((i : Int) < ((s.log.length : Nat) : Int)) = true := by simp; omega
    have hw : IntKind.i64.wrap ((i : Int) + 1) = ((i + 1 : Nat) : Int) := wi64 (by omega)
    have b3' : (0 ≤ (i : Int)) = True := by simp
    obtain ⟨e, he⟩ : ∃ e, s.log[i]? = some e := ⟨s.log[i]'hi, List.getElem?_eq_getElem _⟩
    have hx := list_idx Entry.d he
    have hdr : s.log.drop i = e :: s.log.drop (i + 1) := by
      rw [List.drop_eq_getElem_cons hi]
      congr 1
      exact (List.getElem?_eq_some_iff.1 he).2
    rw [hdr] at hc
    have hn := next_at last e
    rcases Bool.eq_false_or_eq_true (nextE last e) with c | c
    · simp (config := {decide := true}) only [K_pglog_Is_0, l_pglog_Is_0, h3, h37, h38, h39, hd, hw, b3', hx, hn, c, Pk.EVL, keepT, enum, ↓reduceIte, ev, act, appT, callee, toDs, toD, loadA, storeA, subA, subD, updA, Eff.on, resA, resVs, resV, lk, finish, frzR, frzVs, frzV, fznR, fzns, fzn, lts, lt, ltO, List.all, pairsOk, indep, reduceCtorEq, Nat.reduceEqDiff, Nat.reduceAdd, Nat.reduceLeDiff, stb, thaws, List.drop, intOfA, binD, binI, unD, mmL, buildA, mkAgg, allD, bslD, behind, behind0, takeAt, frzAs, frzA, adoptR, adopt, isD, isD0, trim, List.take, binS, sliceA, bnd, zOk, elems, Nat.reduceBNe, inpl, Nat.reduceLT, Nat.reduceBEq, Nat.reduceSub, Nat.reduceMul, Int.reduceLT, Int.reduceLE, Int.reduceEq, Int.reduceToNat, Int.reduceNeg, thaw, nodup, refsV, adopts, Pk.TY_State, Pk.TY_Entry]
      refine ⟨_, _, _, rfl, ?_⟩
      refine .inl ⟨rfl, rfl, rfl, rfl, rfl, e, _, rfl, ?_⟩
      rw [hc, chainE, c, Bool.true_and]
    · simp (config := {decide := true}) only [K_pglog_Is_0, l_pglog_Is_0, h3, h37, h38, h39, hd, hw, b3', hx, hn, c, Pk.EVL, keepT, enum, ↓reduceIte, ev, act, appT, callee, toDs, toD, loadA, storeA, subA, subD, updA, Eff.on, resA, resVs, resV, lk, finish, frzR, frzVs, frzV, fznR, fzns, fzn, lts, lt, ltO, List.all, pairsOk, indep, reduceCtorEq, Nat.reduceEqDiff, Nat.reduceAdd, Nat.reduceLeDiff, stb, thaws, List.drop, intOfA, binD, binI, unD, mmL, buildA, mkAgg, allD, bslD, behind, behind0, takeAt, frzAs, frzA, adoptR, adopt, isD, isD0, trim, List.take, binS, sliceA, bnd, zOk, elems, Nat.reduceBNe, inpl, Nat.reduceLT, Nat.reduceBEq, Nat.reduceSub, Nat.reduceMul, Int.reduceLT, Int.reduceLE, Int.reduceEq, Int.reduceToNat, Int.reduceNeg, thaw, nodup, refsV, adopts, Pk.TY_State, Pk.TY_Entry]
      refine ⟨_, _, _, rfl, ?_⟩
      refine .inr ⟨by simp, .inr ⟨rfl, rfl, ⟨_, _, rfl⟩, ?_⟩⟩
      rw [hc, chainE, c, Bool.false_and]
  · rintro T H ⟨h3, h37, h38, h39, last, J, rfl, hc⟩
    have hd : decide (((s.log.length : Nat) : Int) < ((s.log.length : Nat) : Int)) = false := by simp
    simp (config := {decide := true}) only [K_pglog_Is_0, l_pglog_Is_0, h3, h37, h38, h39, hd, Pk.EVL, keepT, enum, ↓reduceIte, ev, act, appT, callee, toDs, toD, loadA, storeA, subA, subD, updA, Eff.on, resA, resVs, resV, lk, finish, frzR, frzVs, frzV, fznR, fzns, fzn, lts, lt, ltO, List.all, pairsOk, indep, reduceCtorEq, Nat.reduceEqDiff, Nat.reduceAdd, Nat.reduceLeDiff, stb, thaws, List.drop, intOfA, binD, binI, unD, mmL, buildA, mkAgg, allD, bslD, behind, behind0, takeAt, frzAs, frzA, adoptR, adopt, isD, isD0, trim, List.take, binS, sliceA, bnd, zOk, elems, Nat.reduceBNe, inpl, Nat.reduceLT, Nat.reduceBEq, Nat.reduceSub, Nat.reduceMul, Int.reduceLT, Int.reduceLE, Int.reduceEq, Int.reduceToNat, Int.reduceNeg, thaw, nodup, refsV, adopts, Pk.TY_State, Pk.TY_Entry]
    refine ⟨_, _, _, rfl, ?_⟩
    rw [List.drop_length] at hc
    exact ⟨by simp, .inl ⟨rfl, ⟨_, rfl⟩, by rw [hc]; rfl⟩⟩
  rintro e T H (⟨rfl, ⟨last, rfl⟩, hc⟩ | ⟨rfl, h2, ⟨x, J, rfl⟩, hc⟩)
  · rw [hc]
    simp (config := {decide := true}) only [Pk.EVL, keepT, enum, ↓reduceIte, ev, act, appT, callee, toDs, toD, loadA, storeA, subA, subD, updA, Eff.on, resA, resVs, resV, lk, finish, frzR, frzVs, frzV, fznR, fzns, fzn, lts, lt, ltO, List.all, pairsOk, indep, reduceCtorEq, Nat.reduceEqDiff, Nat.reduceAdd, Nat.reduceLeDiff, stb, thaws, List.drop, intOfA, binD, binI, unD, mmL, buildA, mkAgg, allD, bslD, behind, behind0, takeAt, frzAs, frzA, adoptR, adopt, isD, isD0, trim, List.take, binS, sliceA, bnd, zOk, elems, Nat.reduceBNe, inpl, Nat.reduceLT, Nat.reduceBEq, Nat.reduceSub, Nat.reduceMul, Int.reduceLT, Int.reduceLE, Int.reduceEq, Int.reduceToNat, Int.reduceNeg, thaw, nodup, refsV, adopts]
  · rw [hc]
    simp (config := {decide := true}) only [h2, Pk.EVL, keepT, enum, ↓reduceIte, ev, act, appT, callee, toDs, toD, loadA, storeA, subA, subD, updA, Eff.on, resA, resVs, resV, lk, finish, frzR, frzVs, frzV, fznR, fzns, fzn, lts, lt, ltO, List.all, pairsOk, indep, reduceCtorEq, Nat.reduceEqDiff, Nat.reduceAdd, Nat.reduceLeDiff, stb, thaws, List.drop, intOfA, binD, binI, unD, mmL, buildA, mkAgg, allD, bslD, behind, behind0, takeAt, frzAs, frzA, adoptR, adopt, isD, isD0, trim, List.take, binS, sliceA, bnd, zOk, elems, Nat.reduceBNe, inpl, Nat.reduceLT, Nat.reduceBEq, Nat.reduceSub, Nat.reduceMul, Int.reduceLT, Int.reduceLE, Int.reduceEq, Int.reduceToNat, Int.reduceNeg, thaw, nodup, refsV, adopts]

def lastE (s : State) : Entry := match s.log.getLast? with
  | some e => e
  | none => s.tail
theorem last_at (s : State) (hl : s.log.length ≤ 100) : evF C F_pglog_last [.d (.agg s.cs)] [] = some (.d (.agg (lastE s).cs), []) := by
  rw [evF_code (rfl : C F_pglog_last = some a_pglog_last) _ _ rfl]
  unfold lastE
  rcases Bool.eq_false_or_eq_true (((s.log.length : Nat) : Int) == 0) with c | c
  · have : s.log = [] := List.length_eq_zero_iff.1 (by simp at c; simpa using c)
    rw [this]
    simp only [List.getLast?_nil]
    simp (config := {decide := true}) only [c_pglog_last, c, Pk.EVL, keepT, enum, ↓reduceIte, ev, act, appT, callee, toDs, toD, loadA, storeA, subA, subD, updA, Eff.on, resA, resVs, resV, lk, finish, frzR, frzVs, frzV, fznR, fzns, fzn, lts, lt, ltO, List.all, pairsOk, indep, reduceCtorEq, Nat.reduceEqDiff, Nat.reduceAdd, Nat.reduceLeDiff, stb, thaws, List.drop, intOfA, binD, binI, unD, mmL, buildA, mkAgg, allD, bslD, behind, behind0, takeAt, frzAs, frzA, adoptR, adopt, isD, isD0, trim, List.take, binS, sliceA, bnd, zOk, elems, Nat.reduceBNe, inpl, Nat.reduceLT, Nat.reduceBEq, Nat.reduceSub, Nat.reduceMul, Int.reduceLT, Int.reduceLE, Int.reduceEq, Int.reduceToNat, Int.reduceNeg, thaw, nodup, refsV, adopts, Pk.TY_State, Pk.TY_Entry]
  · have hn : 0 < s.log.length := by rw [beq_eq_false_iff_ne] at c; omega
    have hw : IntKind.i64.wrap (((s.log.length : Nat) : Int) - 1) = ((s.log.length - 1 : Nat) : Int) := by rw [show ((s.log.length : Nat) : Int) - 1 = ((s.log.length - 1 : Nat) : Int) by omega]; exact wi64 (by omega)
    obtain ⟨e, he⟩ : ∃ e, s.log[s.log.length - 1]? = some e := ⟨s.log[s.log.length - 1]'(by omega), List.getElem?_eq_getElem _⟩
    have hx := list_idx Entry.d he
    rw [List.getLast?_eq_getElem?, he]
    have b3' : (0 ≤ ((s.log.length - 1 : Nat) : Int)) = True := by simp
    simp (config := {decide := true}) only [c_pglog_last, c, hw, b3', hx, Pk.EVL, keepT, enum, ↓reduceIte, ev, act, appT, callee, toDs, toD, loadA, storeA, subA, subD, updA, Eff.on, resA, resVs, resV, lk, finish, frzR, frzVs, frzV, fznR, fzns, fzn, lts, lt, ltO, List.all, pairsOk, indep, reduceCtorEq, Nat.reduceEqDiff, Nat.reduceAdd, Nat.reduceLeDiff, stb, thaws, List.drop, intOfA, binD, binI, unD, mmL, buildA, mkAgg, allD, bslD, behind, behind0, takeAt, frzAs, frzA, adoptR, adopt, isD, isD0, trim, List.take, binS, sliceA, bnd, zOk, elems, Nat.reduceBNe, inpl, Nat.reduceLT, Nat.reduceBEq, Nat.reduceSub, Nat.reduceMul, Int.reduceLT, Int.reduceLE, Int.reduceEq, Int.reduceToNat, Int.reduceNeg, thaw, nodup, refsV, adopts, Pk.TY_State, Pk.TY_Entry]
def headS (s : State) : Int × Int := if isSt s = true then ((lastE s).since, (lastE s).n) else (0, 0)
theorem isSt_len {s : State} (h : isSt s = true) : s.log.length ≤ 6 := by
  unfold isSt at h
  simp only [Bool.and_eq_true, Bool.not_eq_true'] at h
  have := of_decide_eq_false h.2.2.2.1
  omega
theorem head_at (s : State) : evF C F_pglog_Head [.d (.agg s.cs)] [] = some (.tup [.d (.i .u32 (headS s).1), .d (.i .u32 (headS s).2)], []) := by
  rw [evF_code (rfl : C F_pglog_Head = some a_pglog_Head) _ _ rfl]
  have hi := is_st s
  unfold headS
  by_cases c : isSt s = true
  · rw [if_pos c]
    have hla := last_at s (by have := isSt_len c; omega)
    simp (config := {decide := true}) only [c_pglog_Head, hi, c, hla, Pk.EVL, keepT, enum, ↓reduceIte, ev, act, appT, callee, toDs, toD, loadA, storeA, subA, subD, updA, Eff.on, resA, resVs, resV, lk, finish, frzR, frzVs, frzV, fznR, fzns, fzn, lts, lt, ltO, List.all, pairsOk, indep, reduceCtorEq, Nat.reduceEqDiff, Nat.reduceAdd, Nat.reduceLeDiff, stb, thaws, List.drop, intOfA, binD, binI, unD, mmL, buildA, mkAgg, allD, bslD, behind, behind0, takeAt, frzAs, frzA, adoptR, adopt, isD, isD0, trim, List.take, binS, sliceA, bnd, zOk, elems, Nat.reduceBNe, inpl, Nat.reduceLT, Nat.reduceBEq, Nat.reduceSub, Nat.reduceMul, Int.reduceLT, Int.reduceLE, Int.reduceEq, Int.reduceToNat, Int.reduceNeg, thaw, nodup, refsV, adopts, Pk.TY_State, Pk.TY_Entry]
  · rw [if_neg c]
    have c := eq_false_of_ne_true c
    simp (config := {decide := true}) only [c_pglog_Head, hi, c, Pk.EVL, keepT, enum, ↓reduceIte, ev, act, appT, callee, toDs, toD, loadA, storeA, subA, subD, updA, Eff.on, resA, resVs, resV, lk, finish, frzR, frzVs, frzV, fznR, fzns, fzn, lts, lt, ltO, List.all, pairsOk, indep, reduceCtorEq, Nat.reduceEqDiff, Nat.reduceAdd, Nat.reduceLeDiff, stb, thaws, List.drop, intOfA, binD, binI, unD, mmL, buildA, mkAgg, allD, bslD, behind, behind0, takeAt, frzAs, frzA, adoptR, adopt, isD, isD0, trim, List.take, binS, sliceA, bnd, zOk, elems, Nat.reduceBNe, inpl, Nat.reduceLT, Nat.reduceBEq, Nat.reduceSub, Nat.reduceMul, Int.reduceLT, Int.reduceLE, Int.reduceEq, Int.reduceToNat, Int.reduceNeg, thaw, nodup, refsV, adopts, Pk.TY_State, Pk.TY_Entry]

/-! folding -/
def foldE (s : State) (e : Entry) : State := { s with base := (doOp s.base e.op).1, tail := ⟨e.since, e.n, ⟨0, 0, 0, 0, 0, ⟨#[]⟩⟩⟩ }
def foldedS (s : State) (n : Nat) : State := { (s.log.take n).foldl foldE s with log := s.log.drop n }
end Go.Proofs.YtlihpaegaikoeaaDoor

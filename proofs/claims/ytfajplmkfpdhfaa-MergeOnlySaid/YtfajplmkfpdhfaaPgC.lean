/- States of groups: adding, cutting, folding up to a number, finding. -/
import Derived.Test.YtfajplmkfpdhfaaPgB
set_option linter.all false
namespace Go.Proofs.Ytfajplmkfpdhfaa
open Pv Go Pk
set_option maxRecDepth 10000
set_option maxHeartbeats 2000000

theorem okBase_fit {b : Base} (h : okBase b = true) : Base.fit b := by
  unfold okBase at h
  rw [Bool.and_eq_true] at h
  intro i hi
  have := allN_true.1 h.1 i hi
  unfold okObj at this
  split at this
  · rw [Bool.and_eq_true] at this
    refine ⟨by have := of_decide_eq_true this.2; omega, fun j hj => ?_⟩
    have := of_decide_eq_true (allN_true.1 this.1 j hj)
    omega
  · rw [of_decide_eq_true this]
    exact ⟨by decide, fun j hj => by rcases (by omega : j = 0 ∨ j = 1 ∨ j = 2) with rfl | rfl | rfl <;> decide⟩
theorem isSt_fit {s : State} (h : isSt s = true) : Base.fit s.base := by
  unfold isSt at h
  simp only [Bool.and_eq_true] at h
  exact okBase_fit h.2.2.2.2.1
/-- The entries' operations are of Go's kinds. -/
def okLog (s : State) : Prop := ∀ e ∈ s.log, e.op.ok
def addS (s : State) (e : Entry) : State × Int := if (isSt s && nextE (lastE s) e) = true then (foldedS { s with log := s.log ++ [e] } (s.log.length + 1 - 6), 0) else (State.zero, 10)
theorem add_at (s : State) (e : Entry) (hs : okLog s) (he : e.op.ok) : evF C F_pglog_Add [.d (.agg s.cs), .d (.agg e.cs)] [] = some (.tup [.d (.agg (addS s e).1.cs), .d (.i .i64 (addS s e).2)], []) := by
  rw [evF_code (rfl : C F_pglog_Add = some a_pglog_Add) _ _ rfl]
  have hi := is_st s
  unfold addS
  rcases Bool.eq_false_or_eq_true (isSt s) with c | c
  · have hl := isSt_len c
    have hla := last_at s (by omega)
    have hn := next_at (lastE s) e
    rcases Bool.eq_false_or_eq_true (nextE (lastE s) e) with c2 | c2
    · rw [if_pos (by rw [c, c2]; rfl)]
      have hcl := clone_at s.log (by unfold LIM; omega)
      have hfo := folded_at { s with log := s.log ++ [e] } (s.log.length + 1 - 6) (by simp only [List.length_append, List.length_cons, List.length_nil]; omega) (by simp only [List.length_append, List.length_cons, List.length_nil]; omega) (show Base.fit s.base from isSt_fit c)
        (fun x hx => by
          rcases List.mem_append.1 hx with hx | hx
          · exact hs x hx
          · simp only [List.mem_singleton] at hx; rw [hx]; exact he)
      have hap : List.map Entry.d s.log ++ [DV.agg e.cs] = (s.log ++ [e]).map Entry.d := by simp [Entry.d]
      have htk : List.take s.log.length (s.log.map Entry.d) = s.log.map Entry.d := List.take_of_length_le (by simp)
      have htk1 : List.take (s.log.length + 1) ((s.log ++ [e]).map Entry.d) = (s.log ++ [e]).map Entry.d := List.take_of_length_le (by simp)
      have hsb1 : subL ((s.log ++ [e]).map Entry.d) 0 (s.log.length + 1) = (s.log ++ [e]).map Entry.d := htk1
      have hlim : (s.log.length + 1 ≤ LIM) = True := by
        have : s.log.length + 1 ≤ LIM := by unfold LIM; omega
        simp [this]
      have hlen : (s.log ++ [e]).length = s.log.length + 1 := by simp
      have hwd : IntKind.i64.wrap (((s.log.length + 1 : Nat) : Int) - 6) = (s.log.length : Int) + 1 - 6 := by unfold IntKind.wrap; simp [IntKind.signed, IntKind.bits]; omega
      have hmx : mmI true ((s.log.length : Int) + 1 - 6) 0 = ((s.log.length + 1 - 6 : Nat) : Int) := by unfold mmI; rw [if_pos rfl]; split <;> omega
      simp (config := {decide := true}) only [c_pglog_Add, hi, c, hla, hn, c2, hcl, hfo, hap, htk, htk1, hsb1, hlim, hlen, hwd, hmx, elems, or_true, Nat.le_refl, guardR_und, Pk.EVL, keepT, enum, ↓reduceIte, ev, act, appT, callee, toDs, toD, loadA, storeA, subA, subD, updA, Eff.on, resA, resVs, resV, lk, finish, frzR, frzVs, frzV, fznR, fzns, fzn, lts, lt, ltO, List.all, pairsOk, indep, reduceCtorEq, Nat.reduceEqDiff, Nat.reduceAdd, Nat.reduceLeDiff, stb, thaws, List.drop, intOfA, binD, binI, unD, mmL, buildA, mkAgg, allD, behind, behind0, takeAt, frzAs, frzA, adoptR, adopt, isD, isD0, trim, List.take, binS, sliceA, bnd, zOk, elems, Nat.reduceBNe, inpl, Nat.reduceLT, Nat.reduceBEq, Nat.reduceSub, Nat.reduceMul, Int.reduceLT, Int.reduceLE, Int.reduceEq, Int.reduceToNat, Int.reduceNeg, thaw, nodup, refsV, adopts, Pk.TY_State, Pk.TY_Entry]
    · rw [if_neg (by rw [c, c2]; simp)]
      simp (config := {decide := true}) only [c_pglog_Add, hi, c, hla, hn, c2, guardR_und, Pk.EVL, keepT, enum, ↓reduceIte, ev, act, appT, callee, toDs, toD, loadA, storeA, subA, subD, updA, Eff.on, resA, resVs, resV, lk, finish, frzR, frzVs, frzV, fznR, fzns, fzn, lts, lt, ltO, List.all, pairsOk, indep, reduceCtorEq, Nat.reduceEqDiff, Nat.reduceAdd, Nat.reduceLeDiff, stb, thaws, List.drop, intOfA, binD, binI, unD, mmL, buildA, mkAgg, allD, behind, behind0, takeAt, frzAs, frzA, adoptR, adopt, isD, isD0, trim, List.take, binS, sliceA, bnd, zOk, elems, Nat.reduceBNe, inpl, Nat.reduceLT, Nat.reduceBEq, Nat.reduceSub, Nat.reduceMul, Int.reduceLT, Int.reduceLE, Int.reduceEq, Int.reduceToNat, Int.reduceNeg, thaw, nodup, refsV, adopts, Pk.TY_State, Pk.TY_Entry]
  · rw [if_neg (by rw [c]; simp)]
    simp (config := {decide := true}) only [c_pglog_Add, hi, c, guardR_und, Pk.EVL, keepT, enum, ↓reduceIte, ev, act, appT, callee, toDs, toD, loadA, storeA, subA, subD, updA, Eff.on, resA, resVs, resV, lk, finish, frzR, frzVs, frzV, fznR, fzns, fzn, lts, lt, ltO, List.all, pairsOk, indep, reduceCtorEq, Nat.reduceEqDiff, Nat.reduceAdd, Nat.reduceLeDiff, stb, thaws, List.drop, intOfA, binD, binI, unD, mmL, buildA, mkAgg, allD, behind, behind0, takeAt, frzAs, frzA, adoptR, adopt, isD, isD0, trim, List.take, binS, sliceA, bnd, zOk, elems, Nat.reduceBNe, inpl, Nat.reduceLT, Nat.reduceBEq, Nat.reduceSub, Nat.reduceMul, Int.reduceLT, Int.reduceLE, Int.reduceEq, Int.reduceToNat, Int.reduceNeg, thaw, nodup, refsV, adopts, Pk.TY_State, Pk.TY_Entry]
def foldS (s : State) : Base := if isSt s = true then (foldedS s s.log.length).base else Base.zero
/-- How many entries up to a number; none: not there. -/
def placeS (s : State) (n : Int) : Option Nat := if n < s.tail.n ∨ n > (lastE s).n then none else some (IntKind.u32.wrap (n - s.tail.n)).toNat
def optI : Option Nat → Int
  | none => -1
  | some k => (k : Int)
theorem place_at (s : State) (n : Int) (hl : s.log.length ≤ 100) : evF C F_pglog_place [.d (.agg s.cs), .d (.i .u32 n)] [] = some (.d (.i .i64 (optI (placeS s n))), []) := by
  rw [evF_code (rfl : C F_pglog_place = some a_pglog_place) _ _ rfl]
  have hla := last_at s hl
  unfold placeS
  rcases Bool.eq_false_or_eq_true (decide (n < s.tail.n)) with c | c
  · rw [if_pos (.inl (of_decide_eq_true c))]
    simp (config := {decide := true}) only [c_pglog_place, c, optI, guardR_und, Pk.EVL, keepT, enum, ↓reduceIte, ev, act, appT, callee, toDs, toD, loadA, storeA, subA, subD, updA, Eff.on, resA, resVs, resV, lk, finish, frzR, frzVs, frzV, fznR, fzns, fzn, lts, lt, ltO, List.all, pairsOk, indep, reduceCtorEq, Nat.reduceEqDiff, Nat.reduceAdd, Nat.reduceLeDiff, stb, thaws, List.drop, intOfA, binD, binI, unD, mmL, buildA, mkAgg, allD, behind, behind0, takeAt, frzAs, frzA, adoptR, adopt, isD, isD0, trim, List.take, binS, sliceA, bnd, zOk, elems, Nat.reduceBNe, inpl, Nat.reduceLT, Nat.reduceBEq, Nat.reduceSub, Nat.reduceMul, Int.reduceLT, Int.reduceLE, Int.reduceEq, Int.reduceToNat, Int.reduceNeg, thaw, nodup, refsV, adopts, Pk.TY_State, Pk.TY_Entry]
  · rcases Bool.eq_false_or_eq_true (decide (n > (lastE s).n)) with c2 | c2
    · rw [if_pos (.inr (of_decide_eq_true c2))]
      simp (config := {decide := true}) only [c_pglog_place, c, c2, hla, optI, guardR_und, Pk.EVL, keepT, enum, ↓reduceIte, ev, act, appT, callee, toDs, toD, loadA, storeA, subA, subD, updA, Eff.on, resA, resVs, resV, lk, finish, frzR, frzVs, frzV, fznR, fzns, fzn, lts, lt, ltO, List.all, pairsOk, indep, reduceCtorEq, Nat.reduceEqDiff, Nat.reduceAdd, Nat.reduceLeDiff, stb, thaws, List.drop, intOfA, binD, binI, unD, mmL, buildA, mkAgg, allD, behind, behind0, takeAt, frzAs, frzA, adoptR, adopt, isD, isD0, trim, List.take, binS, sliceA, bnd, zOk, elems, Nat.reduceBNe, inpl, Nat.reduceLT, Nat.reduceBEq, Nat.reduceSub, Nat.reduceMul, Int.reduceLT, Int.reduceLE, Int.reduceEq, Int.reduceToNat, Int.reduceNeg, thaw, nodup, refsV, adopts, Pk.TY_State, Pk.TY_Entry]
    · rw [if_neg (fun h => h.elim (of_decide_eq_false c) (of_decide_eq_false c2))]
      have hr := wrap_u32 (n - s.tail.n)
      have hw : IntKind.i64.wrap (IntKind.u32.wrap (n - s.tail.n)) = ((IntKind.u32.wrap (n - s.tail.n)).toNat : Int) := by
        rw [Int.toNat_of_nonneg hr.1]
        generalize IntKind.u32.wrap (n - s.tail.n) = y at *
        unfold IntKind.wrap; simp [IntKind.signed, IntKind.bits]; omega
      simp (config := {decide := true}) only [c_pglog_place, c, c2, hla, hw, optI, guardR_und, Pk.EVL, keepT, enum, ↓reduceIte, ev, act, appT, callee, toDs, toD, loadA, storeA, subA, subD, updA, Eff.on, resA, resVs, resV, lk, finish, frzR, frzVs, frzV, fznR, fzns, fzn, lts, lt, ltO, List.all, pairsOk, indep, reduceCtorEq, Nat.reduceEqDiff, Nat.reduceAdd, Nat.reduceLeDiff, stb, thaws, List.drop, intOfA, binD, binI, unD, mmL, buildA, mkAgg, allD, behind, behind0, takeAt, frzAs, frzA, adoptR, adopt, isD, isD0, trim, List.take, binS, sliceA, bnd, zOk, elems, Nat.reduceBNe, inpl, Nat.reduceLT, Nat.reduceBEq, Nat.reduceSub, Nat.reduceMul, Int.reduceLT, Int.reduceLE, Int.reduceEq, Int.reduceToNat, Int.reduceNeg, thaw, nodup, refsV, adopts, Pk.TY_State, Pk.TY_Entry]
end Go.Proofs.Ytfajplmkfpdhfaa

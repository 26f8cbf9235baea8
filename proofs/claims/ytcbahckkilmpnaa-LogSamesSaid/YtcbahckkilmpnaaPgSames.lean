/- The law LogSames. -/
import Derived.Test.YtcbahckkilmpnaaPgRows
set_option linter.all false
namespace Go.Proofs.Ytcbahckkilmpnaa
open Pv Go Pk
set_option maxRecDepth 10000
set_option maxHeartbeats 2000000
theorem u32_succ_ne {x : Int} (hx : 0 ≤ x ∧ x < 4294967296) : IntKind.u32.wrap (x + 1) ≠ x := by
  rcases Int.lt_or_le (x + 1) 4294967296 with h | h
  · rw [show IntKind.u32.wrap (x + 1) = x + 1 by unfold IntKind.wrap; simp [IntKind.signed, IntKind.bits]; omega]; omega
  · have : x = 4294967295 := by omega
    rw [this]; decide
theorem sames_law (l : List Opr) (ho : ∀ o ∈ l, o.ok) (w : Int) (hw0 : 0 ≤ w ∧ w < 256) (o : Opr) : evF C F_paddocklaw7_LogSames [.d (.sl (l.map Opr.d)), .d (.i .u8 w), .d (.agg o.cs)] [] = some (.d (.b true), []) := by
  rw [evF_code (rfl : C F_paddocklaw7_LogSames = some a_paddocklaw7_LogSames) _ _ rfl]
  rcases Bool.eq_false_or_eq_true (decide (((l.length : Nat) : Int) > 20)) with cl | cl
  · simp (config := {decide := true}) only [c_paddocklaw7_LogSames, known_at, cl, Pk.EVL, keepT, enum, ↓reduceIte, ev, act, appT, callee, toDs, toD, loadA, storeA, subA, subD, updA, Eff.on, resA, resVs, resV, lk, finish, frzR, frzVs, frzV, fznR, fzns, fzn, lts, lt, ltO, List.all, pairsOk, indep, reduceCtorEq, Nat.reduceEqDiff, Nat.reduceAdd, Nat.reduceLeDiff, stb, thaws, List.drop, intOfA, binD, binI, unD, mmL, buildA, mkAgg, allD, behind, behind0, takeAt, frzAs, frzA, adoptR, adopt, isD, isD0, trim, List.take, binS, sliceA, bnd, zOk, elems, Nat.reduceBNe, inpl, Nat.reduceLT, Nat.reduceBEq, Nat.reduceSub, Nat.reduceMul, Int.reduceLT, Int.reduceLE, Int.reduceEq, Int.reduceToNat, Int.reduceNeg, thaw, nodup, refsV, adopts, Pk.TY_State]
  have hl : l.length ≤ 20 := by have := of_decide_eq_false cl; omega
  have hrow := row_at l (by omega) ho 2 (by omega)
  rw [show Int.tmod 2 60 + 1 = 3 by decide] at hrow
  have f := rowF (S := 3) (by omega) (by omega : l.length ≤ 60) ho
  have hle : (rowE 3 l).length ≤ 20 := Nat.le_trans f.le hl
  have hlog : (rowS 3 l).log.length ≤ 6 := by rw [f.log]; omega
  have hst : (rowS 3 l).started = 0 := rfl
  have htn : 0 ≤ (rowS 3 l).tail.n ∧ (rowS 3 l).tail.n < 4294967296 := f.stok.n
  have hlast : 0 ≤ ((rowS 3 l).base.last.get 1).seq ∧ ((rowS 3 l).base.last.get 1).seq < 4294967296 := by
    have gen : ∀ (D : List Opr) (b : Base), (∀ o ∈ D, o.ok) → (0 ≤ (b.last.get 1).seq ∧ (b.last.get 1).seq < 4294967296) → 0 ≤ ((allOps b D).1.last.get 1).seq ∧ ((allOps b D).1.last.get 1).seq < 4294967296 := by
      intro D
      induction D with
      | nil => intro b _ h; exact h
      | cons x D ih =>
        intro b hD h
        refine ih _ (fun o h => hD o (by simp [h])) ?_
        rw [doOp_getL (by omega)]
        split
        · have := hD x (by simp)
          simp only [Opr.ok] at this
          exact this.2.1
        · exact h
    have hb := baseOf_ops 3 l ((rowE 3 l).length - 6)
    have : (rowS 3 l).base = baseOf ((rowE 3 l).take ((rowE 3 l).length - 6)) := rfl
    rw [this, hb]
    exact gen _ _ (fun o h => f.ok o (List.mem_of_mem_take h)) ⟨by decide, by decide⟩
  have hs1 := same_at (rowS 3 l) (rowS 3 l) (by omega)
  rw [decide_eq_true rfl] at hs1
  have hsame := fun t : State => fun (h : rowS 3 l ≠ t) (h2 : t.log.length ≤ 1000) => And.intro (by have := same_at (rowS 3 l) t (by omega); rw [decide_eq_false h] at this; exact this) (by have := same_at t (rowS 3 l) h2; rw [decide_eq_false (fun hh => h hh.symm)] at this; exact this : evF C F_pglog_Same [.d (.agg t.cs), .d (.agg (rowS 3 l).cs)] [] = some (.d (.b false), []))
  have hm : 0 ≤ w.tmod 5 ∧ w.tmod 5 < 5 := by rw [Int.tmod_eq_emod_of_nonneg hw0.1]; omega
  generalize hrm : w.tmod 5 = r at *
  clear f hle
  generalize rowS 3 l = s at *
  have hr : r = 0 ∨ r = 1 ∨ r = 2 ∨ r = 3 ∨ r = 4 := by omega
  have e0 : ∀ (a b : Int), a ≠ b → (a == b) = false := fun a b h => by simpa using h
  rcases hr with rfl | rfl | rfl | rfl | rfl
  · have h1 : IntKind.u32.wrap (s.started + 1) = 1 := by rw [hst]; decide
    obtain ⟨k1, k2⟩ := hsame { s with started := 1 } (by intro h; have := congrArg State.started h; simp [hst] at this) (by show s.log.length ≤ 1000; omega)
    have q0 : ((0 : Int) == 0) = true := by decide
    simp (config := {decide := true}) only [c_paddocklaw7_LogSames, known_at, cl, hrow, hs1, hrm, h1, k1, k2, q0, guardR_und, Bool.not_false, Pk.EVL, keepT, enum, ↓reduceIte, ev, act, appT, callee, toDs, toD, loadA, storeA, subA, subD, updA, Eff.on, resA, resVs, resV, lk, finish, frzR, frzVs, frzV, fznR, fzns, fzn, lts, lt, ltO, List.all, pairsOk, indep, reduceCtorEq, Nat.reduceEqDiff, Nat.reduceAdd, Nat.reduceLeDiff, stb, thaws, List.drop, intOfA, binD, binI, unD, mmL, buildA, mkAgg, allD, behind, behind0, takeAt, frzAs, frzA, adoptR, adopt, isD, isD0, trim, List.take, binS, sliceA, bnd, zOk, elems, Nat.reduceBNe, inpl, Nat.reduceLT, Nat.reduceBEq, Nat.reduceSub, Nat.reduceMul, Int.reduceLT, Int.reduceLE, Int.reduceEq, Int.reduceToNat, Int.reduceNeg, thaw, nodup, refsV, adopts, Pk.TY_State, Pk.TY_Entry, Pk.TY_Opr]
  · have g1 : s.cs[16]? = some (.b (s.base.objs.get 3).there) := rfl
    have g2 : ∀ v : Bool, upd s.cs 16 [.b v] = State.cs { s with base := { s.base with objs := s.base.objs.set 3 { s.base.objs.get 3 with there := v } } } := fun v => rfl
    obtain ⟨k1, k2⟩ := hsame { s with base := { s.base with objs := s.base.objs.set 3 { s.base.objs.get 3 with there := !(s.base.objs.get 3).there } } } (by
      intro h
      have := congrArg (fun s : State => (s.base.objs.get 3).there) h
      simp only [R6.set, R6.get] at this
      cases hh : s.base.objs.a3.there <;> simp [hh] at this) (by show s.log.length ≤ 1000; omega)
    have q0 : ((1 : Int) == 0) = false := by decide
    have q1 : ((1 : Int) == 1) = true := by decide
    have i3 : ((3 : Int) < ((6 : Nat) : Int)) = True := by simp
    simp (config := {decide := true}) only [c_paddocklaw7_LogSames, known_at, cl, hrow, hs1, hrm, g1, g2, k1, k2, q0, q1, i3, guardR_und, Bool.not_false, Pk.EVL, keepT, enum, ↓reduceIte, ev, act, appT, callee, toDs, toD, loadA, storeA, subA, subD, updA, Eff.on, resA, resVs, resV, lk, finish, frzR, frzVs, frzV, fznR, fzns, fzn, lts, lt, ltO, List.all, pairsOk, indep, reduceCtorEq, Nat.reduceEqDiff, Nat.reduceAdd, Nat.reduceLeDiff, stb, thaws, List.drop, intOfA, binD, binI, unD, mmL, buildA, mkAgg, allD, behind, behind0, takeAt, frzAs, frzA, adoptR, adopt, isD, isD0, trim, List.take, binS, sliceA, bnd, zOk, elems, Nat.reduceBNe, inpl, Nat.reduceLT, Nat.reduceBEq, Nat.reduceSub, Nat.reduceMul, Int.reduceLT, Int.reduceLE, Int.reduceEq, Int.reduceToNat, Int.reduceNeg, thaw, nodup, refsV, adopts, Pk.TY_State, Pk.TY_Entry, Pk.TY_Opr]
  · obtain ⟨k1, k2⟩ := hsame { s with tail := { s.tail with n := IntKind.u32.wrap (s.tail.n + 1) } } (by
      intro h
      have := congrArg (fun s : State => s.tail.n) h
      exact u32_succ_ne htn this.symm) (by show s.log.length ≤ 1000; omega)
    have q0 : ((2 : Int) == 0) = false := by decide
    have q1 : ((2 : Int) == 1) = false := by decide
    have q2 : ((2 : Int) == 2) = true := by decide
    simp (config := {decide := true}) only [c_paddocklaw7_LogSames, known_at, cl, hrow, hs1, hrm, k1, k2, q0, q1, q2, guardR_und, Bool.not_false, Pk.EVL, keepT, enum, ↓reduceIte, ev, act, appT, callee, toDs, toD, loadA, storeA, subA, subD, updA, Eff.on, resA, resVs, resV, lk, finish, frzR, frzVs, frzV, fznR, fzns, fzn, lts, lt, ltO, List.all, pairsOk, indep, reduceCtorEq, Nat.reduceEqDiff, Nat.reduceAdd, Nat.reduceLeDiff, stb, thaws, List.drop, intOfA, binD, binI, unD, mmL, buildA, mkAgg, allD, behind, behind0, takeAt, frzAs, frzA, adoptR, adopt, isD, isD0, trim, List.take, binS, sliceA, bnd, zOk, elems, Nat.reduceBNe, inpl, Nat.reduceLT, Nat.reduceBEq, Nat.reduceSub, Nat.reduceMul, Int.reduceLT, Int.reduceLE, Int.reduceEq, Int.reduceToNat, Int.reduceNeg, thaw, nodup, refsV, adopts, Pk.TY_State, Pk.TY_Entry, Pk.TY_Opr]
  · have g1 : s.cs[34]? = some (.i .u32 (s.base.last.get 1).seq) := rfl
    have g2 : ∀ v : Int, upd s.cs 34 [.i .u32 v] = State.cs { s with base := { s.base with last := s.base.last.set 1 { s.base.last.get 1 with seq := v } } } := fun v => rfl
    obtain ⟨k1, k2⟩ := hsame { s with base := { s.base with last := s.base.last.set 1 { s.base.last.get 1 with seq := IntKind.u32.wrap ((s.base.last.get 1).seq + 1) } } } (by
      intro h
      have := congrArg (fun s : State => (s.base.last.get 1).seq) h
      exact u32_succ_ne hlast this.symm) (by show s.log.length ≤ 1000; omega)
    have q0 : ((3 : Int) == 0) = false := by decide
    have q1 : ((3 : Int) == 1) = false := by decide
    have q2 : ((3 : Int) == 2) = false := by decide
    have q3 : ((3 : Int) == 3) = true := by decide
    have i1 : ((1 : Int) < ((3 : Nat) : Int)) = True := by simp
    simp (config := {decide := true}) only [c_paddocklaw7_LogSames, known_at, cl, hrow, hs1, hrm, g1, g2, k1, k2, q0, q1, q2, q3, i1, guardR_und, Bool.not_false, Pk.EVL, keepT, enum, ↓reduceIte, ev, act, appT, callee, toDs, toD, loadA, storeA, subA, subD, updA, Eff.on, resA, resVs, resV, lk, finish, frzR, frzVs, frzV, fznR, fzns, fzn, lts, lt, ltO, List.all, pairsOk, indep, reduceCtorEq, Nat.reduceEqDiff, Nat.reduceAdd, Nat.reduceLeDiff, stb, thaws, List.drop, intOfA, binD, binI, unD, mmL, buildA, mkAgg, allD, behind, behind0, takeAt, frzAs, frzA, adoptR, adopt, isD, isD0, trim, List.take, binS, sliceA, bnd, zOk, elems, Nat.reduceBNe, inpl, Nat.reduceLT, Nat.reduceBEq, Nat.reduceSub, Nat.reduceMul, Int.reduceLT, Int.reduceLE, Int.reduceEq, Int.reduceToNat, Int.reduceNeg, thaw, nodup, refsV, adopts, Pk.TY_State, Pk.TY_Entry, Pk.TY_Opr]
  · obtain ⟨k1, k2⟩ := hsame { s with log := s.log ++ [⟨0, 1, o⟩] } (by
      intro h
      have := congrArg (fun s : State => s.log.length) h
      simp at this) (by simp; omega)
    have q0 : ((4 : Int) == 0) = false := by decide
    have q1 : ((4 : Int) == 1) = false := by decide
    have q2 : ((4 : Int) == 2) = false := by decide
    have q3 : ((4 : Int) == 3) = false := by decide
    have hap : List.map Entry.d s.log ++ [DV.agg (Entry.cs ⟨0, 1, o⟩)] = (s.log ++ [(⟨0, 1, o⟩ : Entry)]).map Entry.d := by simp [Entry.d]
    have hlen : (s.log ++ [(⟨0, 1, o⟩ : Entry)]).length = s.log.length + 1 := by simp
    have htk1 : List.take (s.log.length + 1) ((s.log ++ [(⟨0, 1, o⟩ : Entry)]).map Entry.d) = (s.log ++ [(⟨0, 1, o⟩ : Entry)]).map Entry.d := List.take_of_length_le (by simp)
    have hsb1 : subL ((s.log ++ [(⟨0, 1, o⟩ : Entry)]).map Entry.d) 0 (s.log.length + 1) = (s.log ++ [(⟨0, 1, o⟩ : Entry)]).map Entry.d := htk1
    have hlim : (s.log.length + 1 ≤ LIM) = True := by
      have : s.log.length + 1 ≤ LIM := by unfold LIM; omega
      simp [this]
    have hlim0 : (s.log.length ≤ LIM) = True := by
      have : s.log.length ≤ LIM := by unfold LIM; omega
      simp [this]
    simp (config := {decide := true}) only [c_paddocklaw7_LogSames, known_at, cl, hrow, hs1, hrm, k1, k2, q0, q1, q2, q3, hap, hlen, htk1, hsb1, hlim, hlim0, elems, guardR_und, Bool.not_false, Pk.EVL, keepT, enum, ↓reduceIte, ev, act, appT, callee, toDs, toD, loadA, storeA, subA, subD, updA, Eff.on, resA, resVs, resV, lk, finish, frzR, frzVs, frzV, fznR, fzns, fzn, lts, lt, ltO, List.all, pairsOk, indep, reduceCtorEq, Nat.reduceEqDiff, Nat.reduceAdd, Nat.reduceLeDiff, stb, thaws, List.drop, intOfA, binD, binI, unD, mmL, buildA, mkAgg, allD, behind, behind0, takeAt, frzAs, frzA, adoptR, adopt, isD, isD0, trim, List.take, binS, sliceA, bnd, zOk, elems, Nat.reduceBNe, inpl, Nat.reduceLT, Nat.reduceBEq, Nat.reduceSub, Nat.reduceMul, Int.reduceLT, Int.reduceLE, Int.reduceEq, Int.reduceToNat, Int.reduceNeg, thaw, nodup, refsV, adopts, Pk.TY_State, Pk.TY_Entry, Pk.TY_Opr]
end Go.Proofs.Ytcbahckkilmpnaa

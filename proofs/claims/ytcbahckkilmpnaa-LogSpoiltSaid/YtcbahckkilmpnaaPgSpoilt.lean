/- The law LogSpoilt. -/
import Derived.Test.YtcbahckkilmpnaaPgRows
set_option linter.all false
namespace Go.Proofs.Ytcbahckkilmpnaa
open Pv Go Pk
set_option maxRecDepth 10000
set_option maxHeartbeats 2000000
/-- What is no state: nothing comes of it. -/
theorem spoilt_calls {t : State} (h : isSt t = false) (ho : stOk t) (o : Opr) (oo : o.ok) :
    evF C F_pglog_Head [.d (.agg t.cs)] [] = some (.tup [.d (.i .u32 0), .d (.i .u32 0)], []) ∧
    evF C F_pglog_Add [.d (.agg t.cs), .d (.agg (Entry.cs ⟨50, 1, o⟩))] [] = some (.tup [.d (.agg State.zero.cs), .d (.i .i64 10)], []) ∧
    evF C F_pglog_Cut [.d (.agg t.cs), .d (.i .u32 0)] [] = some (.tup [.d (.agg State.zero.cs), .d (.i .i64 10)], []) ∧
    evF C F_pglog_Upto [.d (.agg t.cs), .d (.i .u32 0)] [] = some (.tup [.d (.agg Base.zero.cs), .d (.b false)], []) ∧
    evF C F_pglog_Is [.d (.agg t.cs)] [] = some (.d (.b false), []) ∧
    evF C F_pglog_Fold [.d (.agg t.cs)] [] = some (.d (.agg Base.zero.cs), []) := by
  have hn : ¬ isSt t = true := by rw [h]; simp
  refine ⟨?_, ?_, ?_, ?_, ?_, ?_⟩
  · rw [head_at]; unfold headS; rw [if_neg hn]
  · rw [add_at t _ ho.log oo]; unfold addS; rw [if_neg (by rw [h]; simp)]
  · rw [cut_at t _ ho]; unfold cutS; rw [if_neg hn]
  · rw [upto_at t _ ho]; unfold uptoS plS; rw [if_neg hn]
  · rw [is_st, h]
  · rw [fold_at t ho.log]; unfold foldS; rw [if_neg hn]
theorem chain_bad : ∀ (l r : List Entry) (last e : Entry), (∀ x, l.getLast? = some x ∨ (l = [] ∧ x = last) → nextE x e = false) → chainE last (l ++ e :: r) = false
  | [], r, last, e, h => by simp [chainE, h last (.inr ⟨rfl, rfl⟩)]
  | y :: l, r, last, e, h => by
    simp only [List.cons_append, chainE]
    rw [chain_bad l r y e, Bool.and_false]
    intro x hx
    refine h x (.inl ?_)
    rcases hx with hx | ⟨rfl, rfl⟩
    · cases l with
      | nil => simp at hx
      | cons z l => rw [List.getLast?_cons_cons]; exact hx
    · rfl
theorem isSt_chain_false {s : State} (h : chainE s.tail s.log = false) : isSt s = false := by
  unfold isSt; rw [h]; simp
theorem row_shape {S : Int} {l : List Opr} (f : RowF S l) (h2 : 2 ≤ (rowE S l).length) : ∃ L e0 e, (rowS S l).log = L ++ [e0, e] ∧ e0.since = S ∧ e.since = S ∧ e.n = e0.n + 1 ∧ (0 ≤ e.n ∧ e.n < 4294967296) ∧ writes e.op = true := by
  have hlog := f.log
  obtain ⟨L, e0, e, hL⟩ : ∃ L e0 e, (rowS S l).log = L ++ [e0, e] := by
    have hn : 2 ≤ (rowS S l).log.length := by omega
    generalize (rowS S l).log = M at *
    have h1 : M ≠ [] := by intro h; rw [h] at hn; simp at hn
    have h3 : M.dropLast ≠ [] := by intro h; have := congrArg List.length h; simp at this; omega
    refine ⟨M.dropLast.dropLast, M.dropLast.getLast h3, M.getLast h1, ?_⟩
    rw [← List.singleton_append, ← List.append_assoc, List.dropLast_concat_getLast, List.dropLast_concat_getLast]
  have hm : ∀ x ∈ (rowS S l).log, x ∈ rowE S l := fun x hx => List.mem_of_mem_drop hx
  have hs := rowE_since S l
  refine ⟨L, e0, e, hL, hs _ (hm _ (by rw [hL]; simp)), hs _ (hm _ (by rw [hL]; simp)), ?_, ?_, ?_⟩
  all_goals
    have hc := isSt_chain f.is
    rw [hL, show L ++ [e0, e] = (L ++ [e0]) ++ [e] by simp, chain_append, Bool.and_eq_true] at hc
    have hn := hc.2
    rw [List.getLast?_append] at hn
    simp only [List.getLast?_singleton, Option.some_or] at hn
  · have hc1 := hc.1
    obtain ⟨a1, _, _⟩ := chain_n f.stok.n hc1
    have h0 := a1 L.length e0 (by simp)
    have hr : 0 ≤ e0.n ∧ e0.n < 4294967296 := by
      obtain ⟨_, _, a3⟩ := chain_n f.stok.n hc1
      have := f.stok.n
      simp only [List.length_append, List.length_cons, List.length_nil] at a3
      omega
    exact (next_n hr hn).1
  · unfold nextE at hn
    simp only [Bool.and_eq_true, beq_iff_eq] at hn
    rw [hn.1.1.1.2]
    exact wrap_u32 _
  · unfold nextE at hn
    simp only [Bool.and_eq_true] at hn
    exact hn.1.1.1.1
theorem spoilt_law (l : List Opr) (ho : ∀ o ∈ l, o.ok) (w : Int) (hw0 : 0 ≤ w ∧ w < 256) (o : Opr) (oo : o.ok) : evF C F_paddocklaw7_LogSpoilt [.d (.sl (l.map Opr.d)), .d (.i .u8 w), .d (.agg o.cs)] [] = some (.d (.b true), []) := by
  rw [evF_code (rfl : C F_paddocklaw7_LogSpoilt = some a_paddocklaw7_LogSpoilt) _ _ rfl]
  rcases Bool.eq_false_or_eq_true (decide (((l.length : Nat) : Int) > 20)) with cl | cl
  · simp (config := {decide := true}) only [c_paddocklaw7_LogSpoilt, known_at, cl, Pk.EVL, keepT, enum, ↓reduceIte, ev, act, appT, callee, toDs, toD, loadA, storeA, subA, subD, updA, Eff.on, resA, resVs, resV, lk, finish, frzR, frzVs, frzV, fznR, fzns, fzn, lts, lt, ltO, List.all, pairsOk, indep, reduceCtorEq, Nat.reduceEqDiff, Nat.reduceAdd, Nat.reduceLeDiff, stb, thaws, List.drop, intOfA, binD, binI, unD, mmL, buildA, mkAgg, allD, behind, behind0, takeAt, frzAs, frzA, adoptR, adopt, isD, isD0, trim, List.take, binS, sliceA, bnd, zOk, elems, Nat.reduceBNe, inpl, Nat.reduceLT, Nat.reduceBEq, Nat.reduceSub, Nat.reduceMul, Int.reduceLT, Int.reduceLE, Int.reduceEq, Int.reduceToNat, Int.reduceNeg, thaw, nodup, refsV, adopts, Pk.TY_State]
  have hl : l.length ≤ 20 := by have := of_decide_eq_false cl; omega
  have hrow := row_at l (by omega) ho 8 (by omega)
  rw [show Int.tmod 8 60 + 1 = 9 by decide] at hrow
  have f := rowF (S := 9) (by omega) (by omega : l.length ≤ 60) ho
  have hle : (rowE 9 l).length ≤ 20 := Nat.le_trans f.le hl
  rcases Bool.eq_false_or_eq_true (decide ((((l.filter writes).length : Nat) : Int) < 2)) with c2 | c2
  · simp (config := {decide := true}) only [c_paddocklaw7_LogSpoilt, known_at, cl, hrow, c2, Pk.EVL, keepT, enum, ↓reduceIte, ev, act, appT, callee, toDs, toD, loadA, storeA, subA, subD, updA, Eff.on, resA, resVs, resV, lk, finish, frzR, frzVs, frzV, fznR, fzns, fzn, lts, lt, ltO, List.all, pairsOk, indep, reduceCtorEq, Nat.reduceEqDiff, Nat.reduceAdd, Nat.reduceLeDiff, stb, thaws, List.drop, intOfA, binD, binI, unD, mmL, buildA, mkAgg, allD, behind, behind0, takeAt, frzAs, frzA, adoptR, adopt, isD, isD0, trim, List.take, binS, sliceA, bnd, zOk, elems, Nat.reduceBNe, inpl, Nat.reduceLT, Nat.reduceBEq, Nat.reduceSub, Nat.reduceMul, Int.reduceLT, Int.reduceLE, Int.reduceEq, Int.reduceToNat, Int.reduceNeg, thaw, nodup, refsV, adopts, Pk.TY_State, Pk.TY_Opr]
  have h2 : 2 ≤ (rowE 9 l).length := by rw [f.len]; have := of_decide_eq_false c2; omega
  obtain ⟨L, e0, e, hL, hs0, hs1, hnn, hnr, hwr⟩ := row_shape f h2
  have hlog6 : (rowS 9 l).log.length ≤ 6 := by rw [f.log]; omega
  have htn := f.stok.n
  have hokl := f.stok.log
  have hch := isSt_chain f.is
  have hm : 0 ≤ w.tmod 6 ∧ w.tmod 6 < 6 := by rw [Int.tmod_eq_emod_of_nonneg hw0.1]; omega
  generalize hrm : w.tmod 6 = r at *
  have hr : r = 0 ∨ r = 1 ∨ r = 2 ∨ r = 3 ∨ r = 4 ∨ r = 5 := by omega
  clear f hle h2
  generalize rowS 9 l = s at *
  have hll : s.log.length = L.length + 2 := by rw [hL]; simp
  have hlen : (s.log.map Entry.d).length = L.length + 2 := by rw [List.length_map, hll]
  have hlim0 : (L.length + 2 ≤ LIM) = True := by
    have : L.length + 2 ≤ LIM := by unfold LIM; omega
    simp [this]
  have hw1 : IntKind.i64.wrap (((L.length + 2 : Nat) : Int) - 1) = ((L.length + 1 : Nat) : Int) := by rw [show ((L.length + 2 : Nat) : Int) - 1 = ((L.length + 1 : Nat) : Int) by omega]; exact wi64 (by omega)
  have hge : s.log[L.length + 1]? = some e := by rw [hL]; simp
  have hgx := list_idx Entry.d hge
  have b1 : ((L.length + 1 : Nat) : Int) < ((L.length + 2 : Nat) : Int) := by omega
  have b1' : (((L.length + 1 : Nat) : Int) < ((L.length + 2 : Nat) : Int)) = True := by simp [b1]
  have b0 : (0 ≤ ((L.length + 1 : Nat) : Int)) = True := by simp; omega
  have hset : ∀ x : Entry, (s.log.map Entry.d).set (L.length + 1) (.agg x.cs) = (L ++ [e0, x]).map Entry.d := by
    intro x
    rw [hL]
    have : (L ++ [e0, e]).set (L.length + 1) x = L ++ [e0, x] := by simp
    rw [← this, List.map_set]
    rfl
  have htk : ∀ x : Entry, List.take (L.length + 2) ((L ++ [e0, x]).map Entry.d) = (L ++ [e0, x]).map Entry.d := fun x => List.take_of_length_le (by simp)
  have hsb : ∀ x : Entry, subL ((L ++ [e0, x]).map Entry.d) 0 (L.length + 2) = (L ++ [e0, x]).map Entry.d := htk
  have hln : ∀ x : Entry, (L ++ [e0, x]).length = L.length + 2 := fun x => by simp
  have htk0 : List.take (L.length + 2) (s.log.map Entry.d) = s.log.map Entry.d := List.take_of_length_le (by simp [hll])
  have hsb0 : subL (s.log.map Entry.d) 0 (L.length + 2) = s.log.map Entry.d := htk0
  have hb0 : ∀ b : Base, decide (b = b) = true := fun b => by simp
  have e10 : ((10 : Int) == 10) = true := by decide
  have e00 : ((0 : Int) == 0) = true := by decide
  have w01 : IntKind.u32.wrap (0 + 1) = 1 := by decide
  have hbad : ∀ x : Entry, nextE e0 x = false → isSt { s with log := L ++ [e0, x] } = false := by
    intro x hx
    refine isSt_chain_false ?_
    show chainE s.tail (L ++ [e0, x]) = false
    rw [show L ++ [e0, x] = (L ++ [e0]) ++ x :: [] by simp]
    refine chain_bad _ _ _ _ fun y hy => ?_
    rcases hy with hy | ⟨hy, _⟩
    · simp at hy; rw [← hy]; exact hx
    · simp at hy
  have hstk : ∀ x : Entry, x.op.ok → stOk { s with log := L ++ [e0, x] } := by
    intro x hx
    refine ⟨htn, fun y hy => ?_⟩
    have hy' : y ∈ L ∨ y = e0 ∨ y = x := by simpa using hy
    rcases hy' with h | h | h
    · exact hokl y (by rw [hL]; simp [h])
    · exact hokl y (by rw [hL]; simp [h])
    · rw [h]; exact hx
  have hoe : e.op.ok := hokl e (by rw [hL]; simp)
  rcases hr with rfl | rfl | rfl | rfl | rfl | rfl
  · obtain ⟨k1, k2, k3, k4, k5, k6⟩ := spoilt_calls (hbad { e with n := IntKind.u32.wrap (e.n + 1) } (by
      unfold nextE
      have : (IntKind.u32.wrap (e.n + 1) == IntKind.u32.wrap (e0.n + 1)) = false := by
        rw [← hnn, show IntKind.u32.wrap e.n = e.n by unfold IntKind.wrap; simp [IntKind.signed, IntKind.bits]; omega, beq_eq_false_iff_ne]
        rcases Int.lt_or_le (e.n + 1) 4294967296 with h | h
        · rw [show IntKind.u32.wrap (e.n + 1) = e.n + 1 by unfold IntKind.wrap; simp [IntKind.signed, IntKind.bits]; omega]; omega
        · have : e.n = 4294967295 := by omega
          rw [this]; decide
      simp [this])) (hstk { e with n := IntKind.u32.wrap (e.n + 1) } hoe) o oo
    have q0 : ((0 : Int) == 0) = true := by decide
    simp (config := {decide := true}) only [c_paddocklaw7_LogSpoilt, known_at, cl, c2, hrow, hlen, hlim0, elems, hrm, q0, k1, k2, k3, k4, k5, k6, hb0, e10, e00, w01, hw1, hgx, b1', b0, hset, htk, hsb, hln, guardR_und, Bool.not_true, Bool.not_false, Pk.EVL, keepT, enum, ↓reduceIte, ev, act, appT, callee, toDs, toD, loadA, storeA, subA, subD, updA, Eff.on, resA, resVs, resV, lk, finish, frzR, frzVs, frzV, fznR, fzns, fzn, lts, lt, ltO, List.all, pairsOk, indep, reduceCtorEq, Nat.reduceEqDiff, Nat.reduceAdd, Nat.reduceLeDiff, stb, thaws, List.drop, intOfA, binD, binI, unD, mmL, buildA, mkAgg, allD, behind, behind0, takeAt, frzAs, frzA, adoptR, adopt, isD, isD0, trim, List.take, binS, sliceA, bnd, zOk, elems, Nat.reduceBNe, inpl, Nat.reduceLT, Nat.reduceBEq, Nat.reduceSub, Nat.reduceMul, Int.reduceLT, Int.reduceLE, Int.reduceEq, Int.reduceToNat, Int.reduceNeg, thaw, nodup, refsV, adopts, Pk.TY_State, Pk.TY_Entry, Pk.TY_Opr, Pk.TY_Base, Pk.TY_Objt]
  · obtain ⟨k1, k2, k3, k4, k5, k6⟩ := spoilt_calls (hbad { e with since := 0 } (by
      unfold nextE
      have : decide ((0 : Int) ≥ e0.since) = false := by rw [hs0]; decide
      simp [this])) (hstk { e with since := 0 } hoe) o oo
    have q0 : ((1 : Int) == 0) = false := by decide
    have q1 : ((1 : Int) == 1) = true := by decide
    simp (config := {decide := true}) only [c_paddocklaw7_LogSpoilt, known_at, cl, c2, hrow, hlen, hlim0, elems, hrm, q0, q1, k1, k2, k3, k4, k5, k6, hb0, e10, e00, w01, hw1, hgx, b1', b0, hset, htk, hsb, hln, guardR_und, Bool.not_true, Bool.not_false, Pk.EVL, keepT, enum, ↓reduceIte, ev, act, appT, callee, toDs, toD, loadA, storeA, subA, subD, updA, Eff.on, resA, resVs, resV, lk, finish, frzR, frzVs, frzV, fznR, fzns, fzn, lts, lt, ltO, List.all, pairsOk, indep, reduceCtorEq, Nat.reduceEqDiff, Nat.reduceAdd, Nat.reduceLeDiff, stb, thaws, List.drop, intOfA, binD, binI, unD, mmL, buildA, mkAgg, allD, behind, behind0, takeAt, frzAs, frzA, adoptR, adopt, isD, isD0, trim, List.take, binS, sliceA, bnd, zOk, elems, Nat.reduceBNe, inpl, Nat.reduceLT, Nat.reduceBEq, Nat.reduceSub, Nat.reduceMul, Int.reduceLT, Int.reduceLE, Int.reduceEq, Int.reduceToNat, Int.reduceNeg, thaw, nodup, refsV, adopts, Pk.TY_State, Pk.TY_Entry, Pk.TY_Opr, Pk.TY_Base, Pk.TY_Objt]
  · have hbs : isSt { s with base := { s.base with objs := s.base.objs.set 1 ⟨true, ⟨(List.replicate 17 (0 : UInt8)).toArray⟩, ⟨⟨#[]⟩, ⟨#[]⟩, ⟨#[]⟩⟩⟩ } } = false := by
      have : okBase { s.base with objs := s.base.objs.set 1 ⟨true, ⟨(List.replicate 17 (0 : UInt8)).toArray⟩, ⟨⟨#[]⟩, ⟨#[]⟩, ⟨#[]⟩⟩⟩ } = false := by
        unfold okBase
        rw [allN_false, Bool.false_and]
        intro h
        have h1 := h 1 (by omega)
        have h2 : okObj ⟨true, ⟨(List.replicate 17 (0 : UInt8)).toArray⟩, ⟨⟨#[]⟩, ⟨#[]⟩, ⟨#[]⟩⟩⟩ = false := by decide
        have h3 : ((s.base.objs.set 1 ⟨true, ⟨(List.replicate 17 (0 : UInt8)).toArray⟩, ⟨⟨#[]⟩, ⟨#[]⟩, ⟨#[]⟩⟩⟩).get 1) = ⟨true, ⟨(List.replicate 17 (0 : UInt8)).toArray⟩, ⟨⟨#[]⟩, ⟨#[]⟩, ⟨#[]⟩⟩⟩ := rfl
        rw [h3, h2] at h1
        simp at h1
      unfold isSt
      simp only [this, Bool.false_and, Bool.and_false]
    obtain ⟨k1, k2, k3, k4, k5, k6⟩ := spoilt_calls hbs ⟨htn, hokl⟩ o oo
    have g2 : ∀ (x : Objt) (v : AV), upd (State.withV s v) 6 (x.cs.map .d) = State.withV { s with base := { s.base with objs := s.base.objs.set 1 x } } v := fun x v => rfl
    have hby : bytesOf (subL (List.replicate 17 (DV.i .u8 0)) 0 17) = some (List.replicate 17 (0 : UInt8)) := rfl
    have hrl : (List.replicate 17 (DV.i .u8 0)).length = 17 := rfl
    have i1 : ((1 : Int) < ((6 : Nat) : Int)) = True := by simp
    have q0 : ((2 : Int) == 0) = false := by decide
    have q1 : ((2 : Int) == 1) = false := by decide
    have q2 : ((2 : Int) == 2) = true := by decide
    simp (config := {decide := true}) only [c_paddocklaw7_LogSpoilt, known_at, cl, c2, hrow, hlen, hlim0, elems, hrm, q0, q1, q2, k1, k2, k3, k4, k5, k6, hb0, e10, e00, w01, g2, hby, hrl, i1, htk0, hsb0, guardR_und, Bool.not_true, Bool.not_false, Pk.EVL, keepT, enum, ↓reduceIte, ev, act, appT, callee, toDs, toD, loadA, storeA, subA, subD, updA, Eff.on, resA, resVs, resV, lk, finish, frzR, frzVs, frzV, fznR, fzns, fzn, lts, lt, ltO, List.all, pairsOk, indep, reduceCtorEq, Nat.reduceEqDiff, Nat.reduceAdd, Nat.reduceLeDiff, stb, thaws, List.drop, intOfA, binD, binI, unD, mmL, buildA, mkAgg, allD, behind, behind0, takeAt, frzAs, frzA, adoptR, adopt, isD, isD0, trim, List.take, binS, sliceA, bnd, zOk, elems, Nat.reduceBNe, inpl, Nat.reduceLT, Nat.reduceBEq, Nat.reduceSub, Nat.reduceMul, Int.reduceLT, Int.reduceLE, Int.reduceEq, Int.reduceToNat, Int.reduceNeg, thaw, nodup, refsV, adopts, Pk.TY_State, Pk.TY_Entry, Pk.TY_Opr, Pk.TY_Base, Pk.TY_Objt]
  · have hbs : isSt { s with started := 61 } = false := by unfold isSt; simp
    obtain ⟨k1, k2, k3, k4, k5, k6⟩ := spoilt_calls hbs ⟨htn, hokl⟩ o oo
    have g2 : ∀ (x : Int) (v : AV), upd (State.withV s v) 0 [.d (.i .u32 x)] = State.withV { s with started := x } v := fun x v => rfl
    have q0 : ((3 : Int) == 0) = false := by decide
    have q1 : ((3 : Int) == 1) = false := by decide
    have q2 : ((3 : Int) == 2) = false := by decide
    have q3 : ((3 : Int) == 3) = true := by decide
    simp (config := {decide := true}) only [c_paddocklaw7_LogSpoilt, known_at, cl, c2, hrow, hlen, hlim0, elems, hrm, q0, q1, q2, q3, k1, k2, k3, k4, k5, k6, hb0, e10, e00, w01, g2, htk0, hsb0, guardR_und, Bool.not_true, Bool.not_false, Pk.EVL, keepT, enum, ↓reduceIte, ev, act, appT, callee, toDs, toD, loadA, storeA, subA, subD, updA, Eff.on, resA, resVs, resV, lk, finish, frzR, frzVs, frzV, fznR, fzns, fzn, lts, lt, ltO, List.all, pairsOk, indep, reduceCtorEq, Nat.reduceEqDiff, Nat.reduceAdd, Nat.reduceLeDiff, stb, thaws, List.drop, intOfA, binD, binI, unD, mmL, buildA, mkAgg, allD, behind, behind0, takeAt, frzAs, frzA, adoptR, adopt, isD, isD0, trim, List.take, binS, sliceA, bnd, zOk, elems, Nat.reduceBNe, inpl, Nat.reduceLT, Nat.reduceBEq, Nat.reduceSub, Nat.reduceMul, Int.reduceLT, Int.reduceLE, Int.reduceEq, Int.reduceToNat, Int.reduceNeg, thaw, nodup, refsV, adopts, Pk.TY_State, Pk.TY_Entry, Pk.TY_Opr, Pk.TY_Base, Pk.TY_Objt]
  · obtain ⟨k1, k2, k3, k4, k5, k6⟩ := spoilt_calls (hbad { e with op := { e.op with kind := 5 } } (by
      unfold nextE
      have : writes { e.op with kind := 5 } = false := by unfold writes; simp
      simp [this])) (hstk { e with op := { e.op with kind := 5 } } (by
        have := hoe
        unfold Opr.ok at this ⊢
        exact ⟨this.1, this.2.1, ⟨by simp, by simp⟩, this.2.2.2⟩)) o oo
    have q0 : ((4 : Int) == 0) = false := by decide
    have q1 : ((4 : Int) == 1) = false := by decide
    have q2 : ((4 : Int) == 2) = false := by decide
    have q3 : ((4 : Int) == 3) = false := by decide
    have q4 : ((4 : Int) == 4) = true := by decide
    simp (config := {decide := true}) only [c_paddocklaw7_LogSpoilt, known_at, cl, c2, hrow, hlen, hlim0, elems, hrm, q0, q1, q2, q3, q4, k1, k2, k3, k4, k5, k6, hb0, e10, e00, w01, hw1, hgx, b1', b0, hset, htk, hsb, hln, guardR_und, Bool.not_true, Bool.not_false, Pk.EVL, keepT, enum, ↓reduceIte, ev, act, appT, callee, toDs, toD, loadA, storeA, subA, subD, updA, Eff.on, resA, resVs, resV, lk, finish, frzR, frzVs, frzV, fznR, fzns, fzn, lts, lt, ltO, List.all, pairsOk, indep, reduceCtorEq, Nat.reduceEqDiff, Nat.reduceAdd, Nat.reduceLeDiff, stb, thaws, List.drop, intOfA, binD, binI, unD, mmL, buildA, mkAgg, allD, behind, behind0, takeAt, frzAs, frzA, adoptR, adopt, isD, isD0, trim, List.take, binS, sliceA, bnd, zOk, elems, Nat.reduceBNe, inpl, Nat.reduceLT, Nat.reduceBEq, Nat.reduceSub, Nat.reduceMul, Int.reduceLT, Int.reduceLE, Int.reduceEq, Int.reduceToNat, Int.reduceNeg, thaw, nodup, refsV, adopts, Pk.TY_State, Pk.TY_Entry, Pk.TY_Opr, Pk.TY_Base, Pk.TY_Objt]
  · have hbs : isSt { s with tail := { s.tail with n := IntKind.u32.wrap (s.tail.n + 1) } } = false := by
      refine isSt_chain_false ?_
      show chainE { s.tail with n := IntKind.u32.wrap (s.tail.n + 1) } s.log = false
      cases hM : s.log with
      | nil => rw [hM] at hll; simp at hll
      | cons x M =>
        rw [hM] at hch
        simp only [chainE, Bool.and_eq_true] at hch
        have hxn := (next_n htn hch.1).1
        have hw : IntKind.u32.wrap (s.tail.n + 1) = s.tail.n + 1 := by
          have := (next_n htn hch.1).2
          unfold IntKind.wrap; simp [IntKind.signed, IntKind.bits]; omega
        simp only [chainE]
        have : nextE { s.tail with n := IntKind.u32.wrap (s.tail.n + 1) } x = false := by
          unfold nextE
          have : decide (x.n > IntKind.u32.wrap (s.tail.n + 1)) = false := by rw [hw]; simp; omega
          simp [this]
        rw [this, Bool.false_and]
    obtain ⟨k1, k2, k3, k4, k5, k6⟩ := spoilt_calls hbs ⟨wrap_u32 _, hokl⟩ o oo
    have g1 : ∀ v : AV, (State.withV s v)[41]? = some (.d (.i .u32 s.tail.n)) := fun v => rfl
    have g2 : ∀ (x : Int) (v : AV), upd (State.withV s v) 41 [.d (.i .u32 x)] = State.withV { s with tail := { s.tail with n := x } } v := fun x v => rfl
    have q0 : ((5 : Int) == 0) = false := by decide
    have q1 : ((5 : Int) == 1) = false := by decide
    have q2 : ((5 : Int) == 2) = false := by decide
    have q3 : ((5 : Int) == 3) = false := by decide
    have q4 : ((5 : Int) == 4) = false := by decide
    simp (config := {decide := true}) only [c_paddocklaw7_LogSpoilt, known_at, cl, c2, hrow, hlen, hlim0, elems, hrm, q0, q1, q2, q3, q4, k1, k2, k3, k4, k5, k6, hb0, e10, e00, w01, g1, g2, htk0, hsb0, guardR_und, Bool.not_true, Bool.not_false, Pk.EVL, keepT, enum, ↓reduceIte, ev, act, appT, callee, toDs, toD, loadA, storeA, subA, subD, updA, Eff.on, resA, resVs, resV, lk, finish, frzR, frzVs, frzV, fznR, fzns, fzn, lts, lt, ltO, List.all, pairsOk, indep, reduceCtorEq, Nat.reduceEqDiff, Nat.reduceAdd, Nat.reduceLeDiff, stb, thaws, List.drop, intOfA, binD, binI, unD, mmL, buildA, mkAgg, allD, behind, behind0, takeAt, frzAs, frzA, adoptR, adopt, isD, isD0, trim, List.take, binS, sliceA, bnd, zOk, elems, Nat.reduceBNe, inpl, Nat.reduceLT, Nat.reduceBEq, Nat.reduceSub, Nat.reduceMul, Int.reduceLT, Int.reduceLE, Int.reduceEq, Int.reduceToNat, Int.reduceNeg, thaw, nodup, refsV, adopts, Pk.TY_State, Pk.TY_Entry, Pk.TY_Opr, Pk.TY_Base, Pk.TY_Objt]
end Go.Proofs.Ytcbahckkilmpnaa

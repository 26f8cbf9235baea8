/- The reference's states: alike, found, cut, folded, added. -/
import Derived.Test.YtfajplmkfpdhfaaPgR
set_option linter.all false
namespace Go.Proofs.Ytfajplmkfpdhfaa
open Pv Go Pk
set_option maxRecDepth 10000
set_option maxHeartbeats 2000000
theorem refsame_at (s t : State) (hl : s.log.length ≤ 1000) : evF C F_paddockref6_Same [.d (.agg s.cs), .d (.agg t.cs)] [] = some (.d (.b (decide (s = t))), []) := by
  rw [evF_code (rfl : C F_paddockref6_Same = some a_paddockref6_Same) _ _ rfl]
  have fin : ∀ {r : Bool}, (s = t ↔ r = true) → decide (s = t) = r := fun {r} h => by
    cases r with
    | true => exact decide_eq_true (h.2 rfl)
    | false => exact decide_eq_false fun hh => by simpa using h.1 hh
  have ext : s = t ↔ s.started = t.started ∧ s.base = t.base ∧ s.tail = t.tail ∧ s.log = t.log := by cases s; cases t; simp
  have nb : ∀ a b : Int, (a != b) = !(a == b) := fun _ _ => rfl
  rcases Bool.eq_false_or_eq_true (s.started == t.started) with c1 | c1
  case inr =>
    have k1 : ¬ s.started = t.started := by simpa using c1
    rw [fin (r := false) (by rw [ext]; simp [k1])]
    simp (config := {decide := true}) only [c_paddockref6_Same, nb, c1, guardR_und, Bool.not_false, Pk.EVL, keepT, enum, ↓reduceIte, ev, act, appT, callee, toDs, toD, loadA, storeA, subA, subD, updA, Eff.on, resA, resVs, resV, lk, finish, frzR, frzVs, frzV, fznR, fzns, fzn, lts, lt, ltO, List.all, pairsOk, indep, reduceCtorEq, Nat.reduceEqDiff, Nat.reduceAdd, Nat.reduceLeDiff, stb, thaws, List.drop, intOfA, binD, binI, unD, mmL, buildA, mkAgg, allD, behind, behind0, takeAt, frzAs, frzA, adoptR, adopt, isD, isD0, trim, List.take, binS, sliceA, bnd, zOk, elems, Nat.reduceBNe, inpl, Nat.reduceLT, Nat.reduceBEq, Nat.reduceSub, Nat.reduceMul, Int.reduceLT, Int.reduceLE, Int.reduceEq, Int.reduceToNat, Int.reduceNeg, thaw, nodup, refsV, adopts, Pk.TY_State, Pk.TY_Base, Pk.TY_Entry]
  have k1 : s.started = t.started := by simpa using c1
  rcases Bool.eq_false_or_eq_true (decide (s.base = t.base)) with c2 | c2
  case inr =>
    rw [fin (r := false) (by rw [ext]; simp [of_decide_eq_false c2])]
    simp (config := {decide := true}) only [c_paddockref6_Same, nb, c1, c2, guardR_und, Bool.not_false, Bool.not_true, Pk.EVL, keepT, enum, ↓reduceIte, ev, act, appT, callee, toDs, toD, loadA, storeA, subA, subD, updA, Eff.on, resA, resVs, resV, lk, finish, frzR, frzVs, frzV, fznR, fzns, fzn, lts, lt, ltO, List.all, pairsOk, indep, reduceCtorEq, Nat.reduceEqDiff, Nat.reduceAdd, Nat.reduceLeDiff, stb, thaws, List.drop, intOfA, binD, binI, unD, mmL, buildA, mkAgg, allD, behind, behind0, takeAt, frzAs, frzA, adoptR, adopt, isD, isD0, trim, List.take, binS, sliceA, bnd, zOk, elems, Nat.reduceBNe, inpl, Nat.reduceLT, Nat.reduceBEq, Nat.reduceSub, Nat.reduceMul, Int.reduceLT, Int.reduceLE, Int.reduceEq, Int.reduceToNat, Int.reduceNeg, thaw, nodup, refsV, adopts, Pk.TY_State, Pk.TY_Base, Pk.TY_Entry]
  rcases Bool.eq_false_or_eq_true (decide (s.tail = t.tail)) with c3 | c3
  case inr =>
    rw [fin (r := false) (by rw [ext]; simp [of_decide_eq_false c3])]
    simp (config := {decide := true}) only [c_paddockref6_Same, nb, c1, c2, c3, guardR_und, Bool.not_false, Bool.not_true, Pk.EVL, keepT, enum, ↓reduceIte, ev, act, appT, callee, toDs, toD, loadA, storeA, subA, subD, updA, Eff.on, resA, resVs, resV, lk, finish, frzR, frzVs, frzV, fznR, fzns, fzn, lts, lt, ltO, List.all, pairsOk, indep, reduceCtorEq, Nat.reduceEqDiff, Nat.reduceAdd, Nat.reduceLeDiff, stb, thaws, List.drop, intOfA, binD, binI, unD, mmL, buildA, mkAgg, allD, behind, behind0, takeAt, frzAs, frzA, adoptR, adopt, isD, isD0, trim, List.take, binS, sliceA, bnd, zOk, elems, Nat.reduceBNe, inpl, Nat.reduceLT, Nat.reduceBEq, Nat.reduceSub, Nat.reduceMul, Int.reduceLT, Int.reduceLE, Int.reduceEq, Int.reduceToNat, Int.reduceNeg, thaw, nodup, refsV, adopts, Pk.TY_State, Pk.TY_Base, Pk.TY_Entry]
  have hred : ∀ {r : Bool}, (s.log = t.log ↔ r = true) → decide (s = t) = r := fun {r} h => fin (by rw [ext]; simp only [k1, of_decide_eq_true c2, of_decide_eq_true c3, true_and]; exact h)
  by_cases c : s.log.length = t.log.length
  case neg =>
    have hne : (((s.log.length : Nat) : Int) == ((t.log.length : Nat) : Int)) = false := by rw [beq_eq_false_iff_ne]; omega
    rw [hred (r := false) (by simp; intro h; exact c (by rw [h]))]
    simp (config := {decide := true}) only [c_paddockref6_Same, nb, c1, c2, c3, hne, guardR_und, Bool.not_false, Bool.not_true, Pk.EVL, keepT, enum, ↓reduceIte, ev, act, appT, callee, toDs, toD, loadA, storeA, subA, subD, updA, Eff.on, resA, resVs, resV, lk, finish, frzR, frzVs, frzV, fznR, fzns, fzn, lts, lt, ltO, List.all, pairsOk, indep, reduceCtorEq, Nat.reduceEqDiff, Nat.reduceAdd, Nat.reduceLeDiff, stb, thaws, List.drop, intOfA, binD, binI, unD, mmL, buildA, mkAgg, allD, behind, behind0, takeAt, frzAs, frzA, adoptR, adopt, isD, isD0, trim, List.take, binS, sliceA, bnd, zOk, elems, Nat.reduceBNe, inpl, Nat.reduceLT, Nat.reduceBEq, Nat.reduceSub, Nat.reduceMul, Int.reduceLT, Int.reduceLE, Int.reduceEq, Int.reduceToNat, Int.reduceNeg, thaw, nodup, refsV, adopts, Pk.TY_State, Pk.TY_Base, Pk.TY_Entry]
  have hne : (((s.log.length : Nat) : Int) == ((t.log.length : Nat) : Int)) = true := by simp; omega
  simp (config := {decide := true}) only [c_paddockref6_Same, nb, c1, c2, c3, hne, guardR_und, Bool.not_false, Bool.not_true, Pk.EVL, keepT, enum, ↓reduceIte, ev, act, appT, callee, toDs, toD, loadA, storeA, subA, subD, updA, Eff.on, resA, resVs, resV, lk, finish, frzR, frzVs, frzV, fznR, fzns, fzn, lts, lt, ltO, List.all, pairsOk, indep, reduceCtorEq, Nat.reduceEqDiff, Nat.reduceAdd, Nat.reduceLeDiff, stb, thaws, List.drop, intOfA, binD, binI, unD, mmL, buildA, mkAgg, allD, behind, behind0, takeAt, frzAs, frzA, adoptR, adopt, isD, isD0, trim, List.take, binS, sliceA, bnd, zOk, elems, Nat.reduceBNe, inpl, Nat.reduceLT, Nat.reduceBEq, Nat.reduceSub, Nat.reduceMul, Int.reduceLT, Int.reduceLE, Int.reduceEq, Int.reduceToNat, Int.reduceNeg, thaw, nodup, refsV, adopts, Pk.TY_State, Pk.TY_Base, Pk.TY_Entry]
  simp only [Option.bind_assoc]
  refine bind_run (loop_run (fun i T H => lk T 2 = .ptr 0 0 ∧ lk T 3 = .ptr 1 0 ∧ lk T 5 = .d (.i .i64 (i : Nat)) ∧ H = [.box (.d (.agg s.cs)), .box (.d (.agg t.cs))] ∧ s.log.take i = t.log.take i)
    (fun e T H => H = [.box (.d (.agg s.cs)), .box (.d (.agg t.cs))] ∧ ((e = .exit 0 ∧ s.log = t.log) ∨ (e = .ret ∧ lk T 4 = .d (.b false) ∧ s.log ≠ t.log))) s.log.length ?_ ?_ s.log.length 0 _ _ (by omega) ⟨rfl, rfl, rfl, rfl, rfl⟩) ?_
  · rintro i T H hi ⟨h2, h3, h5, rfl, ht⟩
    obtain ⟨x, hx⟩ : ∃ x, s.log[i]? = some x := ⟨s.log[i]'hi, List.getElem?_eq_getElem _⟩
    obtain ⟨y, hy⟩ : ∃ y, t.log[i]? = some y := ⟨t.log[i]'(by omega), List.getElem?_eq_getElem _⟩
    have kx := list_idx Entry.d hx
    have ky := list_idx Entry.d hy
    have hd : decide ((i : Int) < ((s.log.length : Nat) : Int)) = true := by simp; omega
    have hw : IntKind.i64.wrap ((i : Int) + 1) = ((i + 1 : Nat) : Int) := wi64 (by omega)
    have b0 : (0 ≤ (i : Int)) = True := by simp
    by_cases e : x = y
    · have hde := decide_eq_true e
      simp (config := {decide := true}) only [K_paddockref6_Same_0, l_paddockref6_Same_0, h2, h3, h5, hd, hw, b0, kx, ky, hde, Pk.EVL, keepT, enum, ↓reduceIte, ev, act, appT, callee, toDs, toD, loadA, storeA, subA, subD, updA, Eff.on, resA, resVs, resV, lk, finish, frzR, frzVs, frzV, fznR, fzns, fzn, lts, lt, ltO, List.all, pairsOk, indep, reduceCtorEq, Nat.reduceEqDiff, Nat.reduceAdd, Nat.reduceLeDiff, stb, thaws, List.drop, intOfA, binD, binI, unD, mmL, buildA, mkAgg, allD, behind, behind0, takeAt, frzAs, frzA, adoptR, adopt, isD, isD0, trim, List.take, binS, sliceA, bnd, zOk, elems, Nat.reduceBNe, inpl, Nat.reduceLT, Nat.reduceBEq, Nat.reduceSub, Nat.reduceMul, Int.reduceLT, Int.reduceLE, Int.reduceEq, Int.reduceToNat, Int.reduceNeg, thaw, nodup, refsV, adopts, Pk.TY_State, Pk.TY_Entry]
      refine ⟨_, _, _, rfl, ?_⟩
      exact .inl ⟨rfl, rfl, rfl, rfl, rfl, (take_eq_succ hx hy).2 ⟨ht, e⟩⟩
    · have hde := decide_eq_false e
      simp (config := {decide := true}) only [K_paddockref6_Same_0, l_paddockref6_Same_0, h2, h3, h5, hd, hw, b0, kx, ky, hde, Bool.not_false, Pk.EVL, keepT, enum, ↓reduceIte, ev, act, appT, callee, toDs, toD, loadA, storeA, subA, subD, updA, Eff.on, resA, resVs, resV, lk, finish, frzR, frzVs, frzV, fznR, fzns, fzn, lts, lt, ltO, List.all, pairsOk, indep, reduceCtorEq, Nat.reduceEqDiff, Nat.reduceAdd, Nat.reduceLeDiff, stb, thaws, List.drop, intOfA, binD, binI, unD, mmL, buildA, mkAgg, allD, behind, behind0, takeAt, frzAs, frzA, adoptR, adopt, isD, isD0, trim, List.take, binS, sliceA, bnd, zOk, elems, Nat.reduceBNe, inpl, Nat.reduceLT, Nat.reduceBEq, Nat.reduceSub, Nat.reduceMul, Int.reduceLT, Int.reduceLE, Int.reduceEq, Int.reduceToNat, Int.reduceNeg, thaw, nodup, refsV, adopts, Pk.TY_State, Pk.TY_Entry]
      refine ⟨_, _, _, rfl, ?_⟩
      refine .inr ⟨by simp, rfl, .inr ⟨rfl, rfl, fun h => ?_⟩⟩
      rw [h, hy] at hx
      exact e (by simpa using hx.symm)
  · rintro T H ⟨h2, h3, h5, rfl, ht⟩
    have hd : decide (((s.log.length : Nat) : Int) < ((s.log.length : Nat) : Int)) = false := by simp
    simp (config := {decide := true}) only [K_paddockref6_Same_0, l_paddockref6_Same_0, h2, h3, h5, hd, Pk.EVL, keepT, enum, ↓reduceIte, ev, act, appT, callee, toDs, toD, loadA, storeA, subA, subD, updA, Eff.on, resA, resVs, resV, lk, finish, frzR, frzVs, frzV, fznR, fzns, fzn, lts, lt, ltO, List.all, pairsOk, indep, reduceCtorEq, Nat.reduceEqDiff, Nat.reduceAdd, Nat.reduceLeDiff, stb, thaws, List.drop, intOfA, binD, binI, unD, mmL, buildA, mkAgg, allD, behind, behind0, takeAt, frzAs, frzA, adoptR, adopt, isD, isD0, trim, List.take, binS, sliceA, bnd, zOk, elems, Nat.reduceBNe, inpl, Nat.reduceLT, Nat.reduceBEq, Nat.reduceSub, Nat.reduceMul, Int.reduceLT, Int.reduceLE, Int.reduceEq, Int.reduceToNat, Int.reduceNeg, thaw, nodup, refsV, adopts, Pk.TY_State, Pk.TY_Entry]
    refine ⟨_, _, _, rfl, ?_⟩
    rw [List.take_length, c, List.take_length] at ht
    exact ⟨by simp, rfl, .inl ⟨rfl, ht⟩⟩
  rintro e T H ⟨rfl, ⟨rfl, h⟩ | ⟨rfl, h4, h⟩⟩
  · rw [hred (r := true) (by simp [h])]
    simp (config := {decide := true}) only [Pk.EVL, keepT, enum, ↓reduceIte, ev, act, appT, callee, toDs, toD, loadA, storeA, subA, subD, updA, Eff.on, resA, resVs, resV, lk, finish, frzR, frzVs, frzV, fznR, fzns, fzn, lts, lt, ltO, List.all, pairsOk, indep, reduceCtorEq, Nat.reduceEqDiff, Nat.reduceAdd, Nat.reduceLeDiff, stb, thaws, List.drop, intOfA, binD, binI, unD, mmL, buildA, mkAgg, allD, behind, behind0, takeAt, frzAs, frzA, adoptR, adopt, isD, isD0, trim, List.take, binS, sliceA, bnd, zOk, elems, Nat.reduceBNe, inpl, Nat.reduceLT, Nat.reduceBEq, Nat.reduceSub, Nat.reduceMul, Int.reduceLT, Int.reduceLE, Int.reduceEq, Int.reduceToNat, Int.reduceNeg, thaw, nodup, refsV, adopts]
  · rw [hred (r := false) (by simp [h])]
    simp (config := {decide := true}) only [h4, Pk.EVL, keepT, enum, ↓reduceIte, ev, act, appT, callee, toDs, toD, loadA, storeA, subA, subD, updA, Eff.on, resA, resVs, resV, lk, finish, frzR, frzVs, frzV, fznR, fzns, fzn, lts, lt, ltO, List.all, pairsOk, indep, reduceCtorEq, Nat.reduceEqDiff, Nat.reduceAdd, Nat.reduceLeDiff, stb, thaws, List.drop, intOfA, binD, binI, unD, mmL, buildA, mkAgg, allD, behind, behind0, takeAt, frzAs, frzA, adoptR, adopt, isD, isD0, trim, List.take, binS, sliceA, bnd, zOk, elems, Nat.reduceBNe, inpl, Nat.reduceLT, Nat.reduceBEq, Nat.reduceSub, Nat.reduceMul, Int.reduceLT, Int.reduceLE, Int.reduceEq, Int.reduceToNat, Int.reduceNeg, thaw, nodup, refsV, adopts]

/-! folding, one by one -/
def popS (s : State) (e : Entry) (l : List Entry) : State := { s with base := (doOp s.base e.op).1, tail := ⟨e.since, e.n, ⟨0, 0, 0, 0, 0, ⟨#[]⟩⟩⟩, log := l }
theorem folded_succ (s : State) (j : Nat) (e : Entry) (h : s.log[j]? = some e) : foldedS s (j + 1) = popS (foldedS s j) e (s.log.drop (j + 1)) := by
  unfold foldedS popS
  rw [take_succ' h, List.foldl_append]
  rfl
theorem folded_tail {s : State} (ho : stOk s) (h : isSt s = true) {j : Nat} (hj : j ≤ s.log.length) : (foldedS s j).tail.n = s.tail.n + j := by
  cases j with
  | zero => show s.tail.n = _; simp
  | succ j =>
    obtain ⟨e, he⟩ : ∃ e, s.log[j]? = some e := ⟨s.log[j]'(by omega), List.getElem?_eq_getElem _⟩
    rw [folded_succ s j e he]
    have := (chain_n ho.n (isSt_chain h)).1 j e he
    show e.n = _
    omega
theorem folded_fit {s : State} (ho : stOk s) (h : isSt s = true) (j : Nat) : Base.fit (foldedS s j).base :=
  foldl_fit (isSt_fit h) fun e he => ho.log e (List.mem_of_mem_take he)
theorem pop_at (s : State) (e : Entry) (l : List Entry) (hs : s.log = e :: l) (hl : l.length ≤ 1000) (hb : Base.fit s.base) (ho : e.op.ok) : evF C F_paddockref6_pop [.d (.agg s.cs)] [] = some (.d (.agg (popS s e l).cs), []) := by
  rw [evF_code (rfl : C F_paddockref6_pop = some a_paddockref6_pop) _ _ rfl]
  have hdo := refDo_at s.base e.op hb ho
  have hx : (s.log.map Entry.d)[0]? = some e.d := by rw [hs]; rfl
  have hlen : s.log.length = l.length + 1 := by rw [hs]; rfl
  have hdr : List.drop 1 (s.log.map Entry.d) = l.map Entry.d := by rw [hs]; rfl
  have htl : List.take (l.length + 1) (s.log.map Entry.d) = s.log.map Entry.d := List.take_of_length_le (by simp [hlen])
  have htk : List.take l.length (l.map Entry.d) = l.map Entry.d := List.take_of_length_le (by simp)
  have hsb : subL (l.map Entry.d) 0 l.length = l.map Entry.d := htk
  have b1 : ((1 : Int) ≤ ((l.length + 1 : Nat) : Int)) = True := by simp; omega
  have hlim : (l.length ≤ LIM) = True := by
    have : l.length ≤ LIM := by unfold LIM; omega
    simp [this]
  have hlast : State.cs { s with base := (doOp s.base e.op).1, tail := ⟨e.since, e.n, ⟨0, 0, 0, 0, 0, ⟨#[]⟩⟩⟩, log := l } = (popS s e l).cs := rfl
  simp (config := {decide := true}) only [c_paddockref6_pop, hx, hdo, hlen, hdr, htl, htk, hsb, b1, hlim, elems, Pk.EVL, keepT, enum, ↓reduceIte, ev, act, appT, callee, toDs, toD, loadA, storeA, subA, subD, updA, Eff.on, resA, resVs, resV, lk, finish, frzR, frzVs, frzV, fznR, fzns, fzn, lts, lt, ltO, List.all, pairsOk, indep, reduceCtorEq, Nat.reduceEqDiff, Nat.reduceAdd, Nat.reduceLeDiff, stb, thaws, List.drop, intOfA, binD, binI, unD, mmL, buildA, mkAgg, allD, behind, behind0, takeAt, frzAs, frzA, adoptR, adopt, isD, isD0, trim, List.take, binS, sliceA, bnd, zOk, elems, Nat.reduceBNe, inpl, Nat.reduceLT, Nat.reduceBEq, Nat.reduceSub, Nat.reduceMul, Int.reduceLT, Int.reduceLE, Int.reduceEq, Int.reduceToNat, Int.reduceNeg, thaw, nodup, refsV, adopts, Pk.TY_State, Pk.TY_Entry, Pk.TY_Base]
  rfl
theorem reffind_at (s : State) (hs : stFull s) (n : Int) (hn : 0 ≤ n ∧ n < 4294967296) (hl : s.log.length ≤ 1000) : evF C F_paddockref6_Find [.d (.agg s.cs), .d (.i .u32 n)] [] = some (.tup [.d (.agg (findS s n).1.cs), .d (.b (findS s n).2)], []) := by
  rw [evF_code (rfl : C F_paddockref6_Find = some a_paddockref6_Find) _ _ rfl]
  have hi := refis_st s hs
  have hz : Entry.zero = (⟨0, 0, ⟨0, 0, 0, 0, 0, ⟨#[]⟩⟩⟩ : Entry) := rfl
  -- who is found
  have hnone : (isSt s = false ∨ ∀ e ∈ s.log, e.n ≠ n) → findS s n = (Entry.zero, false) := by
    intro h
    unfold findS plS
    by_cases c : isSt s = true
    · rw [if_pos c]
      have h := h.resolve_left (by rw [c]; simp)
      cases hp : placeS s n with
      | none => rfl
      | some k =>
        obtain ⟨h1, h2⟩ := place_some hs.ok c hp
        cases k with
        | zero => rfl
        | succ k =>
          exfalso
          obtain ⟨e, he⟩ : ∃ e, s.log[k]? = some e := ⟨s.log[k]'(by omega), List.getElem?_eq_getElem _⟩
          have := (chain_n hs.n (isSt_chain c)).1 k e he
          exact h e (List.mem_of_getElem? he) (by omega)
    · rw [if_neg c]
  have hsome : ∀ (i : Nat) (e : Entry), isSt s = true → s.log[i]? = some e → e.n = n → findS s n = (e, true) := by
    intro i e c he hen
    have h1 := (chain_n hs.n (isSt_chain c)).1 i e he
    have hi' : i < s.log.length := (List.getElem?_eq_some_iff.1 he).1
    unfold findS plS
    rw [if_pos c, ← hen, h1, show s.tail.n + (i : Int) + 1 = s.tail.n + ((i + 1 : Nat) : Int) by omega, place_is hs.ok c (by omega)]
    simp only [he]
  simp (config := {decide := true}) only [c_paddockref6_Find, Pk.EVL, keepT, enum, ↓reduceIte, ev, act, appT, callee, toDs, toD, loadA, storeA, subA, subD, updA, Eff.on, resA, resVs, resV, lk, finish, frzR, frzVs, frzV, fznR, fzns, fzn, lts, lt, ltO, List.all, pairsOk, indep, reduceCtorEq, Nat.reduceEqDiff, Nat.reduceAdd, Nat.reduceLeDiff, stb, thaws, List.drop, intOfA, binD, binI, unD, mmL, buildA, mkAgg, allD, behind, behind0, takeAt, frzAs, frzA, adoptR, adopt, isD, isD0, trim, List.take, binS, sliceA, bnd, zOk, elems, Nat.reduceBNe, inpl, Nat.reduceLT, Nat.reduceBEq, Nat.reduceSub, Nat.reduceMul, Int.reduceLT, Int.reduceLE, Int.reduceEq, Int.reduceToNat, Int.reduceNeg, thaw, nodup, refsV, adopts, Pk.TY_State, Pk.TY_Entry]
  simp only [Option.bind_assoc]
  refine bind_run (loop_run (fun i T H => lk T 1 = .d (.i .u32 n) ∧ lk T 2 = .ptr 0 0 ∧ lk T 4 = .ptr 1 0 ∧ lk T 6 = .d (.i .i64 (i : Nat)) ∧ H = [.box (.d (.agg s.cs)), .box (.d (.agg Entry.zero.cs))] ∧ (isSt s = true ∨ i = 0) ∧ ∀ j e, j < i → s.log[j]? = some e → e.n ≠ n)
    (fun e T H => (e = .exit 0 ∧ lk T 4 = .ptr 1 0 ∧ H = [.box (.d (.agg s.cs)), .box (.d (.agg Entry.zero.cs))] ∧ findS s n = (Entry.zero, false)) ∨ (e = .ret ∧ lk T 4 = .ptr 1 0 ∧ lk T 5 = .d (.b true) ∧ ∃ x, H = [.box (.d (.agg s.cs)), .box (.d (.agg (Entry.cs x)))] ∧ findS s n = (x, true))) s.log.length ?_ ?_ s.log.length 0 _ _ (by omega) ⟨rfl, rfl, rfl, rfl, rfl, .inr rfl, by omega⟩) ?_
  · rintro i T H hi' ⟨h1, h2, h4, h6, rfl, hc, hj⟩
    have hd : decide ((i : Int) < ((s.log.length : Nat) : Int)) = true := by simp; omega
    have hw : IntKind.i64.wrap ((i : Int) + 1) = ((i + 1 : Nat) : Int) := wi64 (by omega)
    have b0 : (0 ≤ (i : Int)) = True := by simp
    obtain ⟨e, he⟩ : ∃ e, s.log[i]? = some e := ⟨s.log[i]'hi', List.getElem?_eq_getElem _⟩
    have hx := list_idx Entry.d he
    rcases Bool.eq_false_or_eq_true (isSt s) with c | c
    · by_cases en : e.n = n
      · have hen : (e.n == n) = true := by simpa using en
        simp (config := {decide := true}) only [K_paddockref6_Find_0, l_paddockref6_Find_0, h1, h2, h4, h6, hd, hw, b0, hi, c, hx, hen, guardR_und, Pk.EVL, keepT, enum, ↓reduceIte, ev, act, appT, callee, toDs, toD, loadA, storeA, subA, subD, updA, Eff.on, resA, resVs, resV, lk, finish, frzR, frzVs, frzV, fznR, fzns, fzn, lts, lt, ltO, List.all, pairsOk, indep, reduceCtorEq, Nat.reduceEqDiff, Nat.reduceAdd, Nat.reduceLeDiff, stb, thaws, List.drop, intOfA, binD, binI, unD, mmL, buildA, mkAgg, allD, behind, behind0, takeAt, frzAs, frzA, adoptR, adopt, isD, isD0, trim, List.take, binS, sliceA, bnd, zOk, elems, Nat.reduceBNe, inpl, Nat.reduceLT, Nat.reduceBEq, Nat.reduceSub, Nat.reduceMul, Int.reduceLT, Int.reduceLE, Int.reduceEq, Int.reduceToNat, Int.reduceNeg, thaw, nodup, refsV, adopts, Pk.TY_State, Pk.TY_Entry]
        refine ⟨_, _, _, rfl, ?_⟩
        exact .inr ⟨by simp, .inr ⟨rfl, rfl, rfl, _, rfl, hsome i e c he en⟩⟩
      · have hen : (e.n == n) = false := by rw [beq_eq_false_iff_ne]; exact en
        simp (config := {decide := true}) only [K_paddockref6_Find_0, l_paddockref6_Find_0, h1, h2, h4, h6, hd, hw, b0, hi, c, hx, hen, guardR_und, Pk.EVL, keepT, enum, ↓reduceIte, ev, act, appT, callee, toDs, toD, loadA, storeA, subA, subD, updA, Eff.on, resA, resVs, resV, lk, finish, frzR, frzVs, frzV, fznR, fzns, fzn, lts, lt, ltO, List.all, pairsOk, indep, reduceCtorEq, Nat.reduceEqDiff, Nat.reduceAdd, Nat.reduceLeDiff, stb, thaws, List.drop, intOfA, binD, binI, unD, mmL, buildA, mkAgg, allD, behind, behind0, takeAt, frzAs, frzA, adoptR, adopt, isD, isD0, trim, List.take, binS, sliceA, bnd, zOk, elems, Nat.reduceBNe, inpl, Nat.reduceLT, Nat.reduceBEq, Nat.reduceSub, Nat.reduceMul, Int.reduceLT, Int.reduceLE, Int.reduceEq, Int.reduceToNat, Int.reduceNeg, thaw, nodup, refsV, adopts, Pk.TY_State, Pk.TY_Entry]
        refine ⟨_, _, _, rfl, ?_⟩
        refine .inl ⟨rfl, rfl, rfl, rfl, rfl, rfl, fun j x hj' hx' => ?_⟩
        by_cases e2 : j = i
        · subst e2; rw [he] at hx'; injection hx' with hx'; rw [← hx']; exact en
        · exact hj j x (by omega) hx'
    · simp (config := {decide := true}) only [K_paddockref6_Find_0, l_paddockref6_Find_0, h1, h2, h4, h6, hd, hw, b0, hi, c, guardR_und, Pk.EVL, keepT, enum, ↓reduceIte, ev, act, appT, callee, toDs, toD, loadA, storeA, subA, subD, updA, Eff.on, resA, resVs, resV, lk, finish, frzR, frzVs, frzV, fznR, fzns, fzn, lts, lt, ltO, List.all, pairsOk, indep, reduceCtorEq, Nat.reduceEqDiff, Nat.reduceAdd, Nat.reduceLeDiff, stb, thaws, List.drop, intOfA, binD, binI, unD, mmL, buildA, mkAgg, allD, behind, behind0, takeAt, frzAs, frzA, adoptR, adopt, isD, isD0, trim, List.take, binS, sliceA, bnd, zOk, elems, Nat.reduceBNe, inpl, Nat.reduceLT, Nat.reduceBEq, Nat.reduceSub, Nat.reduceMul, Int.reduceLT, Int.reduceLE, Int.reduceEq, Int.reduceToNat, Int.reduceNeg, thaw, nodup, refsV, adopts, Pk.TY_State, Pk.TY_Entry]
      refine ⟨_, _, _, rfl, ?_⟩
      first | exact .inr ⟨by simp, .inl ⟨rfl, rfl, rfl, hnone (.inl c)⟩⟩ | exact ⟨by simp, .inl ⟨rfl, rfl, rfl, hnone (.inl c)⟩⟩
  · rintro T H ⟨h1, h2, h4, h6, rfl, hc, hj⟩
    have hd : decide (((s.log.length : Nat) : Int) < ((s.log.length : Nat) : Int)) = false := by simp
    simp (config := {decide := true}) only [K_paddockref6_Find_0, l_paddockref6_Find_0, h1, h2, h4, h6, hd, guardR_und, Pk.EVL, keepT, enum, ↓reduceIte, ev, act, appT, callee, toDs, toD, loadA, storeA, subA, subD, updA, Eff.on, resA, resVs, resV, lk, finish, frzR, frzVs, frzV, fznR, fzns, fzn, lts, lt, ltO, List.all, pairsOk, indep, reduceCtorEq, Nat.reduceEqDiff, Nat.reduceAdd, Nat.reduceLeDiff, stb, thaws, List.drop, intOfA, binD, binI, unD, mmL, buildA, mkAgg, allD, behind, behind0, takeAt, frzAs, frzA, adoptR, adopt, isD, isD0, trim, List.take, binS, sliceA, bnd, zOk, elems, Nat.reduceBNe, inpl, Nat.reduceLT, Nat.reduceBEq, Nat.reduceSub, Nat.reduceMul, Int.reduceLT, Int.reduceLE, Int.reduceEq, Int.reduceToNat, Int.reduceNeg, thaw, nodup, refsV, adopts, Pk.TY_State, Pk.TY_Entry]
    refine ⟨_, _, _, rfl, ?_⟩
    refine ⟨by simp, .inl ⟨rfl, rfl, rfl, hnone (.inr fun e he => ?_)⟩⟩
    obtain ⟨j, hj', hje⟩ := List.mem_iff_getElem.1 he
    exact hj j e hj' (by rw [List.getElem?_eq_getElem hj', hje])
  rintro e T H (⟨rfl, h4, rfl, hf⟩ | ⟨rfl, h4, h5, x, rfl, hf⟩)
  · rw [hf, hz]
    simp (config := {decide := true}) only [h4, Pk.EVL, keepT, enum, ↓reduceIte, ev, act, appT, callee, toDs, toD, loadA, storeA, subA, subD, updA, Eff.on, resA, resVs, resV, lk, finish, frzR, frzVs, frzV, fznR, fzns, fzn, lts, lt, ltO, List.all, pairsOk, indep, reduceCtorEq, Nat.reduceEqDiff, Nat.reduceAdd, Nat.reduceLeDiff, stb, thaws, List.drop, intOfA, binD, binI, unD, mmL, buildA, mkAgg, allD, behind, behind0, takeAt, frzAs, frzA, adoptR, adopt, isD, isD0, trim, List.take, binS, sliceA, bnd, zOk, elems, Nat.reduceBNe, inpl, Nat.reduceLT, Nat.reduceBEq, Nat.reduceSub, Nat.reduceMul, Int.reduceLT, Int.reduceLE, Int.reduceEq, Int.reduceToNat, Int.reduceNeg, thaw, nodup, refsV, adopts, Pk.TY_State, Pk.TY_Entry]
  · rw [hf]
    simp (config := {decide := true}) only [h4, h5, Pk.EVL, keepT, enum, ↓reduceIte, ev, act, appT, callee, toDs, toD, loadA, storeA, subA, subD, updA, Eff.on, resA, resVs, resV, lk, finish, frzR, frzVs, frzV, fznR, fzns, fzn, lts, lt, ltO, List.all, pairsOk, indep, reduceCtorEq, Nat.reduceEqDiff, Nat.reduceAdd, Nat.reduceLeDiff, stb, thaws, List.drop, intOfA, binD, binI, unD, mmL, buildA, mkAgg, allD, behind, behind0, takeAt, frzAs, frzA, adoptR, adopt, isD, isD0, trim, List.take, binS, sliceA, bnd, zOk, elems, Nat.reduceBNe, inpl, Nat.reduceLT, Nat.reduceBEq, Nat.reduceSub, Nat.reduceMul, Int.reduceLT, Int.reduceLE, Int.reduceEq, Int.reduceToNat, Int.reduceNeg, thaw, nodup, refsV, adopts, Pk.TY_State, Pk.TY_Entry]

/-! up to a number -/
theorem refupto_at (s : State) (hs : stFull s) (n : Int) : evF C F_paddockref6_Upto [.d (.agg s.cs), .d (.i .u32 n)] [] = some (.tup [.d (.agg (uptoS s n).1.cs), .d (.b (uptoS s n).2)], []) := by
  rw [evF_code (rfl : C F_paddockref6_Upto = some a_paddockref6_Upto) _ _ rfl]
  have hi := refis_st s hs
  have hh := refhead_at s hs
  unfold uptoS plS
  by_cases c : isSt s = true
  case neg =>
    rw [if_neg c]
    have c := eq_false_of_ne_true c
    simp (config := {decide := true}) only [c_paddockref6_Upto, hi, hh, c, guardR_und, Pk.EVL, keepT, enum, ↓reduceIte, ev, act, appT, callee, toDs, toD, loadA, storeA, subA, subD, updA, Eff.on, resA, resVs, resV, lk, finish, frzR, frzVs, frzV, fznR, fzns, fzn, lts, lt, ltO, List.all, pairsOk, indep, reduceCtorEq, Nat.reduceEqDiff, Nat.reduceAdd, Nat.reduceLeDiff, stb, thaws, List.drop, intOfA, binD, binI, unD, mmL, buildA, mkAgg, allD, behind, behind0, takeAt, frzAs, frzA, adoptR, adopt, isD, isD0, trim, List.take, binS, sliceA, bnd, zOk, elems, Nat.reduceBNe, inpl, Nat.reduceLT, Nat.reduceBEq, Nat.reduceSub, Nat.reduceMul, Int.reduceLT, Int.reduceLE, Int.reduceEq, Int.reduceToNat, Int.reduceNeg, thaw, nodup, refsV, adopts, Pk.TY_State, Pk.TY_Base]
  rw [if_pos c]
  have hhs : headS s = ((lastE s).since, (lastE s).n) := by unfold headS; rw [if_pos c]
  rw [hhs] at hh
  cases hk : placeS s n with
  | none =>
    unfold placeS at hk
    by_cases h1 : n < s.tail.n
    · have h1 := decide_eq_true h1
      simp (config := {decide := true}) only [c_paddockref6_Upto, hi, hh, c, h1, guardR_und, Pk.EVL, keepT, enum, ↓reduceIte, ev, act, appT, callee, toDs, toD, loadA, storeA, subA, subD, updA, Eff.on, resA, resVs, resV, lk, finish, frzR, frzVs, frzV, fznR, fzns, fzn, lts, lt, ltO, List.all, pairsOk, indep, reduceCtorEq, Nat.reduceEqDiff, Nat.reduceAdd, Nat.reduceLeDiff, stb, thaws, List.drop, intOfA, binD, binI, unD, mmL, buildA, mkAgg, allD, behind, behind0, takeAt, frzAs, frzA, adoptR, adopt, isD, isD0, trim, List.take, binS, sliceA, bnd, zOk, elems, Nat.reduceBNe, inpl, Nat.reduceLT, Nat.reduceBEq, Nat.reduceSub, Nat.reduceMul, Int.reduceLT, Int.reduceLE, Int.reduceEq, Int.reduceToNat, Int.reduceNeg, thaw, nodup, refsV, adopts, Pk.TY_State, Pk.TY_Base, Pk.TY_Entry]
    · by_cases h2 : n > (lastE s).n
      · have h1 := decide_eq_false h1
        have h2 := decide_eq_true h2
        simp (config := {decide := true}) only [c_paddockref6_Upto, hi, hh, c, h1, h2, guardR_und, Pk.EVL, keepT, enum, ↓reduceIte, ev, act, appT, callee, toDs, toD, loadA, storeA, subA, subD, updA, Eff.on, resA, resVs, resV, lk, finish, frzR, frzVs, frzV, fznR, fzns, fzn, lts, lt, ltO, List.all, pairsOk, indep, reduceCtorEq, Nat.reduceEqDiff, Nat.reduceAdd, Nat.reduceLeDiff, stb, thaws, List.drop, intOfA, binD, binI, unD, mmL, buildA, mkAgg, allD, behind, behind0, takeAt, frzAs, frzA, adoptR, adopt, isD, isD0, trim, List.take, binS, sliceA, bnd, zOk, elems, Nat.reduceBNe, inpl, Nat.reduceLT, Nat.reduceBEq, Nat.reduceSub, Nat.reduceMul, Int.reduceLT, Int.reduceLE, Int.reduceEq, Int.reduceToNat, Int.reduceNeg, thaw, nodup, refsV, adopts, Pk.TY_State, Pk.TY_Base, Pk.TY_Entry]
      · rw [if_neg (by omega)] at hk
        simp at hk
  | some k =>
    obtain ⟨hn, hkl⟩ := place_some hs.ok c hk
    have hll := isSt_len c
    have hlast := last_n hs.ok c
    have h1 : decide (n < s.tail.n) = false := by simp; omega
    have h2 : decide (n > (lastE s).n) = false := by simp; omega
    have hnum := (chain_n hs.n (isSt_chain c)).1
    have hfit := fun j => folded_fit hs.ok c j
    have hbase : ∀ (j : Nat) (e : Entry), s.log[j]? = some e → (foldedS s (j + 1)).base = (doOp (foldedS s j).base e.op).1 := fun j e h => by rw [folded_succ s j e h]; rfl
    have hb0 : (foldedS s 0).base = s.base := rfl
    simp (config := {decide := true}) only [c_paddockref6_Upto, hi, hh, c, h1, h2, guardR_und, Pk.EVL, keepT, enum, ↓reduceIte, ev, act, appT, callee, toDs, toD, loadA, storeA, subA, subD, updA, Eff.on, resA, resVs, resV, lk, finish, frzR, frzVs, frzV, fznR, fzns, fzn, lts, lt, ltO, List.all, pairsOk, indep, reduceCtorEq, Nat.reduceEqDiff, Nat.reduceAdd, Nat.reduceLeDiff, stb, thaws, List.drop, intOfA, binD, binI, unD, mmL, buildA, mkAgg, allD, behind, behind0, takeAt, frzAs, frzA, adoptR, adopt, isD, isD0, trim, List.take, binS, sliceA, bnd, zOk, elems, Nat.reduceBNe, inpl, Nat.reduceLT, Nat.reduceBEq, Nat.reduceSub, Nat.reduceMul, Int.reduceLT, Int.reduceLE, Int.reduceEq, Int.reduceToNat, Int.reduceNeg, thaw, nodup, refsV, adopts, Pk.TY_State, Pk.TY_Base, Pk.TY_Entry]
    simp only [Option.bind_assoc]
    refine bind_run (loop_run (fun i T H => lk T 1 = .d (.i .u32 n) ∧ lk T 2 = .ptr 0 0 ∧ lk T 4 = .ptr 1 0 ∧ lk T 8 = .ptr 2 0 ∧ lk T 9 = .d (.i .i64 (i : Nat)) ∧ H = [.box (.d (.agg s.cs)), .box (.d (.agg Base.zero.cs)), .box (.d (.agg (foldedS s i).base.cs))])
      (fun e T H => e = .exit 0 ∧ lk T 4 = .ptr 1 0 ∧ lk T 8 = .ptr 2 0 ∧ H = [.box (.d (.agg s.cs)), .box (.d (.agg Base.zero.cs)), .box (.d (.agg (foldedS s k).base.cs))]) k ?_ ?_ k 0 _ _ (by omega) ⟨rfl, rfl, rfl, rfl, rfl, by rw [hb0]⟩) ?_
    · rintro i T H hik ⟨g1, g2, g4, g8, g9, rfl⟩
      obtain ⟨e, he⟩ : ∃ e, s.log[i]? = some e := ⟨s.log[i]'(by omega), List.getElem?_eq_getElem _⟩
      have hx := list_idx Entry.d he
      have heo := hs.log e (List.mem_of_getElem? he)
      have hen := hnum i e he
      have hd : decide ((i : Int) < ((s.log.length : Nat) : Int)) = true := by simp; omega
      have hle : decide (e.n ≤ n) = true := by simp; omega
      have hw : IntKind.i64.wrap ((i : Int) + 1) = ((i + 1 : Nat) : Int) := wi64 (by omega)
      have b0 : (0 ≤ (i : Int)) = True := by simp
      have hdo := refDo_at (foldedS s i).base e.op (hfit i) heo.2.2
      have hdl : (List.drop 2 e.cs).length = 6 := rfl
      rw [hbase i e he]
      generalize (foldedS s i).base = b at *
      simp (config := {decide := true}) only [K_paddockref6_Upto_0, l_paddockref6_Upto_0, g1, g2, g4, g8, g9, hd, hle, hw, b0, hx, hdo, hdl, guardR_und, Pk.EVL, keepT, enum, ↓reduceIte, ev, act, appT, callee, toDs, toD, loadA, storeA, subA, subD, updA, Eff.on, resA, resVs, resV, lk, finish, frzR, frzVs, frzV, fznR, fzns, fzn, lts, lt, ltO, List.all, pairsOk, indep, reduceCtorEq, Nat.reduceEqDiff, Nat.reduceAdd, Nat.reduceLeDiff, stb, thaws, List.drop, intOfA, binD, binI, unD, mmL, buildA, mkAgg, allD, behind, behind0, takeAt, frzAs, frzA, adoptR, adopt, isD, isD0, trim, List.take, binS, sliceA, bnd, zOk, elems, Nat.reduceBNe, inpl, Nat.reduceLT, Nat.reduceBEq, Nat.reduceSub, Nat.reduceMul, Int.reduceLT, Int.reduceLE, Int.reduceEq, Int.reduceToNat, Int.reduceNeg, thaw, nodup, refsV, adopts, Pk.TY_State, Pk.TY_Base, Pk.TY_Entry, Pk.TY_Opr]
      refine ⟨_, _, _, rfl, ?_⟩
      exact .inl ⟨rfl, rfl, rfl, rfl, rfl, rfl, rfl⟩
    · rintro T H ⟨g1, g2, g4, g8, g9, rfl⟩
      generalize (foldedS s k).base = b at *
      rcases Bool.eq_false_or_eq_true (decide ((k : Int) < ((s.log.length : Nat) : Int))) with hd | hd
      · obtain ⟨e, he⟩ : ∃ e, s.log[k]? = some e := ⟨s.log[k]'(by have := of_decide_eq_true hd; omega), List.getElem?_eq_getElem _⟩
        have hx := list_idx Entry.d he
        have hen := hnum k e he
        have hle : decide (e.n ≤ n) = false := by simp; omega
        have b0 : (0 ≤ (k : Int)) = True := by simp
        simp (config := {decide := true}) only [K_paddockref6_Upto_0, l_paddockref6_Upto_0, g1, g2, g4, g8, g9, hd, hle, b0, hx, guardR_und, Pk.EVL, keepT, enum, ↓reduceIte, ev, act, appT, callee, toDs, toD, loadA, storeA, subA, subD, updA, Eff.on, resA, resVs, resV, lk, finish, frzR, frzVs, frzV, fznR, fzns, fzn, lts, lt, ltO, List.all, pairsOk, indep, reduceCtorEq, Nat.reduceEqDiff, Nat.reduceAdd, Nat.reduceLeDiff, stb, thaws, List.drop, intOfA, binD, binI, unD, mmL, buildA, mkAgg, allD, behind, behind0, takeAt, frzAs, frzA, adoptR, adopt, isD, isD0, trim, List.take, binS, sliceA, bnd, zOk, elems, Nat.reduceBNe, inpl, Nat.reduceLT, Nat.reduceBEq, Nat.reduceSub, Nat.reduceMul, Int.reduceLT, Int.reduceLE, Int.reduceEq, Int.reduceToNat, Int.reduceNeg, thaw, nodup, refsV, adopts, Pk.TY_State, Pk.TY_Base, Pk.TY_Entry]
        refine ⟨_, _, _, rfl, ?_⟩
        exact ⟨by simp, rfl, rfl, rfl, rfl⟩
      · simp (config := {decide := true}) only [K_paddockref6_Upto_0, l_paddockref6_Upto_0, g1, g2, g4, g8, g9, hd, guardR_und, Pk.EVL, keepT, enum, ↓reduceIte, ev, act, appT, callee, toDs, toD, loadA, storeA, subA, subD, updA, Eff.on, resA, resVs, resV, lk, finish, frzR, frzVs, frzV, fznR, fzns, fzn, lts, lt, ltO, List.all, pairsOk, indep, reduceCtorEq, Nat.reduceEqDiff, Nat.reduceAdd, Nat.reduceLeDiff, stb, thaws, List.drop, intOfA, binD, binI, unD, mmL, buildA, mkAgg, allD, behind, behind0, takeAt, frzAs, frzA, adoptR, adopt, isD, isD0, trim, List.take, binS, sliceA, bnd, zOk, elems, Nat.reduceBNe, inpl, Nat.reduceLT, Nat.reduceBEq, Nat.reduceSub, Nat.reduceMul, Int.reduceLT, Int.reduceLE, Int.reduceEq, Int.reduceToNat, Int.reduceNeg, thaw, nodup, refsV, adopts, Pk.TY_State, Pk.TY_Base, Pk.TY_Entry]
        refine ⟨_, _, _, rfl, ?_⟩
        exact ⟨by simp, rfl, rfl, rfl, rfl⟩
    rintro e T H ⟨rfl, g4, g8, rfl⟩
    generalize (foldedS s k).base = b at *
    simp (config := {decide := true}) only [g4, g8, Pk.EVL, keepT, enum, ↓reduceIte, ev, act, appT, callee, toDs, toD, loadA, storeA, subA, subD, updA, Eff.on, resA, resVs, resV, lk, finish, frzR, frzVs, frzV, fznR, fzns, fzn, lts, lt, ltO, List.all, pairsOk, indep, reduceCtorEq, Nat.reduceEqDiff, Nat.reduceAdd, Nat.reduceLeDiff, stb, thaws, List.drop, intOfA, binD, binI, unD, mmL, buildA, mkAgg, allD, behind, behind0, takeAt, frzAs, frzA, adoptR, adopt, isD, isD0, trim, List.take, binS, sliceA, bnd, zOk, elems, Nat.reduceBNe, inpl, Nat.reduceLT, Nat.reduceBEq, Nat.reduceSub, Nat.reduceMul, Int.reduceLT, Int.reduceLE, Int.reduceEq, Int.reduceToNat, Int.reduceNeg, thaw, nodup, refsV, adopts, Pk.TY_State, Pk.TY_Base, Pk.TY_Entry]
theorem refcut_at (s : State) (hs : stFull s) (n : Int) : evF C F_paddockref6_Cut [.d (.agg s.cs), .d (.i .u32 n)] [] = some (.tup [.d (.agg (cutS s n).1.cs), .d (.i .i64 (cutS s n).2)], []) := by
  rw [evF_code (rfl : C F_paddockref6_Cut = some a_paddockref6_Cut) _ _ rfl]
  have hi := refis_st s hs
  have hh := refhead_at s hs
  unfold cutS
  by_cases c : isSt s = true
  case neg =>
    rw [if_neg c]
    have c := eq_false_of_ne_true c
    simp (config := {decide := true}) only [c_paddockref6_Cut, hi, hh, c, guardR_und, Pk.EVL, keepT, enum, ↓reduceIte, ev, act, appT, callee, toDs, toD, loadA, storeA, subA, subD, updA, Eff.on, resA, resVs, resV, lk, finish, frzR, frzVs, frzV, fznR, fzns, fzn, lts, lt, ltO, List.all, pairsOk, indep, reduceCtorEq, Nat.reduceEqDiff, Nat.reduceAdd, Nat.reduceLeDiff, stb, thaws, List.drop, intOfA, binD, binI, unD, mmL, buildA, mkAgg, allD, behind, behind0, takeAt, frzAs, frzA, adoptR, adopt, isD, isD0, trim, List.take, binS, sliceA, bnd, zOk, elems, Nat.reduceBNe, inpl, Nat.reduceLT, Nat.reduceBEq, Nat.reduceSub, Nat.reduceMul, Int.reduceLT, Int.reduceLE, Int.reduceEq, Int.reduceToNat, Int.reduceNeg, thaw, nodup, refsV, adopts, Pk.TY_State, Pk.TY_Base]
  rw [if_pos c]
  have hhs : headS s = ((lastE s).since, (lastE s).n) := by unfold headS; rw [if_pos c]
  rw [hhs] at hh
  cases hk : placeS s n with
  | none =>
    unfold placeS at hk
    by_cases h1 : n < s.tail.n
    · have h1 := decide_eq_true h1
      simp (config := {decide := true}) only [c_paddockref6_Cut, hi, hh, c, h1, guardR_und, Pk.EVL, keepT, enum, ↓reduceIte, ev, act, appT, callee, toDs, toD, loadA, storeA, subA, subD, updA, Eff.on, resA, resVs, resV, lk, finish, frzR, frzVs, frzV, fznR, fzns, fzn, lts, lt, ltO, List.all, pairsOk, indep, reduceCtorEq, Nat.reduceEqDiff, Nat.reduceAdd, Nat.reduceLeDiff, stb, thaws, List.drop, intOfA, binD, binI, unD, mmL, buildA, mkAgg, allD, behind, behind0, takeAt, frzAs, frzA, adoptR, adopt, isD, isD0, trim, List.take, binS, sliceA, bnd, zOk, elems, Nat.reduceBNe, inpl, Nat.reduceLT, Nat.reduceBEq, Nat.reduceSub, Nat.reduceMul, Int.reduceLT, Int.reduceLE, Int.reduceEq, Int.reduceToNat, Int.reduceNeg, thaw, nodup, refsV, adopts, Pk.TY_State, Pk.TY_Base, Pk.TY_Entry]
    · by_cases h2 : n > (lastE s).n
      · have h1 := decide_eq_false h1
        have h2 := decide_eq_true h2
        simp (config := {decide := true}) only [c_paddockref6_Cut, hi, hh, c, h1, h2, guardR_und, Pk.EVL, keepT, enum, ↓reduceIte, ev, act, appT, callee, toDs, toD, loadA, storeA, subA, subD, updA, Eff.on, resA, resVs, resV, lk, finish, frzR, frzVs, frzV, fznR, fzns, fzn, lts, lt, ltO, List.all, pairsOk, indep, reduceCtorEq, Nat.reduceEqDiff, Nat.reduceAdd, Nat.reduceLeDiff, stb, thaws, List.drop, intOfA, binD, binI, unD, mmL, buildA, mkAgg, allD, behind, behind0, takeAt, frzAs, frzA, adoptR, adopt, isD, isD0, trim, List.take, binS, sliceA, bnd, zOk, elems, Nat.reduceBNe, inpl, Nat.reduceLT, Nat.reduceBEq, Nat.reduceSub, Nat.reduceMul, Int.reduceLT, Int.reduceLE, Int.reduceEq, Int.reduceToNat, Int.reduceNeg, thaw, nodup, refsV, adopts, Pk.TY_State, Pk.TY_Base, Pk.TY_Entry]
      · rw [if_neg (by omega)] at hk
        simp at hk
  | some k =>
    obtain ⟨hn, hkl⟩ := place_some hs.ok c hk
    have hll := isSt_len c
    have hlast := last_n hs.ok c
    have h1 : decide (n < s.tail.n) = false := by simp; omega
    have h2 : decide (n > (lastE s).n) = false := by simp; omega
    have hw : IntKind.u32.wrap (n - s.tail.n) = (k : Int) := by rw [hn, show s.tail.n + (k : Int) - s.tail.n = (k : Int) by omega]; exact wu32 (by omega)
    have b1 : (0 ≤ (k : Int)) = True := by simp
    have b2 : ((k : Int) ≤ ((s.log.length : Nat) : Int)) = True := by simp; omega
    have htk : List.take k (s.log.map Entry.d) = (s.log.take k).map Entry.d := by rw [List.map_take]
    have hlk : (s.log.take k).length = k := by rw [List.length_take]; omega
    have htk2 : List.take k ((s.log.take k).map Entry.d) = (s.log.take k).map Entry.d := List.take_of_length_le (by simp; omega)
    have hsb2 : subL ((s.log.take k).map Entry.d) 0 k = (s.log.take k).map Entry.d := htk2
    have hlim : (k ≤ LIM) = True := by
      have : k ≤ LIM := by unfold LIM; omega
      simp [this]
    simp (config := {decide := true}) only [c_paddockref6_Cut, hi, hh, c, h1, h2, hw, b1, b2, htk, hlk, htk2, hsb2, hlim, elems, guardR_und, Pk.EVL, keepT, enum, ↓reduceIte, ev, act, appT, callee, toDs, toD, loadA, storeA, subA, subD, updA, Eff.on, resA, resVs, resV, lk, finish, frzR, frzVs, frzV, fznR, fzns, fzn, lts, lt, ltO, List.all, pairsOk, indep, reduceCtorEq, Nat.reduceEqDiff, Nat.reduceAdd, Nat.reduceLeDiff, stb, thaws, List.drop, intOfA, binD, binI, unD, mmL, buildA, mkAgg, allD, behind, behind0, takeAt, frzAs, frzA, adoptR, adopt, isD, isD0, trim, List.take, binS, sliceA, bnd, zOk, elems, Nat.reduceBNe, inpl, Nat.reduceLT, Nat.reduceBEq, Nat.reduceSub, Nat.reduceMul, Int.reduceLT, Int.reduceLE, Int.reduceEq, Int.reduceToNat, Int.reduceNeg, thaw, nodup, refsV, adopts, Pk.TY_State, Pk.TY_Base, Pk.TY_Entry]
theorem reftail_at (s : State) (hs : stFull s) (n : Int) : evF C F_paddockref6_Tail [.d (.agg s.cs), .d (.i .u32 n)] [] = some (.tup [.d (.agg (tailS s n).1.cs), .d (.i .i64 (tailS s n).2)], []) := by
  rw [evF_code (rfl : C F_paddockref6_Tail = some a_paddockref6_Tail) _ _ rfl]
  have hi := refis_st s hs
  have hh := refhead_at s hs
  unfold tailS
  by_cases c : isSt s = true
  case neg =>
    rw [if_neg c]
    have c := eq_false_of_ne_true c
    simp (config := {decide := true}) only [c_paddockref6_Tail, hi, hh, c, guardR_und, Pk.EVL, keepT, enum, ↓reduceIte, ev, act, appT, callee, toDs, toD, loadA, storeA, subA, subD, updA, Eff.on, resA, resVs, resV, lk, finish, frzR, frzVs, frzV, fznR, fzns, fzn, lts, lt, ltO, List.all, pairsOk, indep, reduceCtorEq, Nat.reduceEqDiff, Nat.reduceAdd, Nat.reduceLeDiff, stb, thaws, List.drop, intOfA, binD, binI, unD, mmL, buildA, mkAgg, allD, behind, behind0, takeAt, frzAs, frzA, adoptR, adopt, isD, isD0, trim, List.take, binS, sliceA, bnd, zOk, elems, Nat.reduceBNe, inpl, Nat.reduceLT, Nat.reduceBEq, Nat.reduceSub, Nat.reduceMul, Int.reduceLT, Int.reduceLE, Int.reduceEq, Int.reduceToNat, Int.reduceNeg, thaw, nodup, refsV, adopts, Pk.TY_State, Pk.TY_Entry]
  rw [if_pos c]
  have hhs : headS s = ((lastE s).since, (lastE s).n) := by unfold headS; rw [if_pos c]
  rw [hhs] at hh
  by_cases h1 : n < s.tail.n
  · rw [if_pos h1]
    have h1 := decide_eq_true h1
    simp (config := {decide := true}) only [c_paddockref6_Tail, hi, hh, c, h1, guardR_und, Pk.EVL, keepT, enum, ↓reduceIte, ev, act, appT, callee, toDs, toD, loadA, storeA, subA, subD, updA, Eff.on, resA, resVs, resV, lk, finish, frzR, frzVs, frzV, fznR, fzns, fzn, lts, lt, ltO, List.all, pairsOk, indep, reduceCtorEq, Nat.reduceEqDiff, Nat.reduceAdd, Nat.reduceLeDiff, stb, thaws, List.drop, intOfA, binD, binI, unD, mmL, buildA, mkAgg, allD, behind, behind0, takeAt, frzAs, frzA, adoptR, adopt, isD, isD0, trim, List.take, binS, sliceA, bnd, zOk, elems, Nat.reduceBNe, inpl, Nat.reduceLT, Nat.reduceBEq, Nat.reduceSub, Nat.reduceMul, Int.reduceLT, Int.reduceLE, Int.reduceEq, Int.reduceToNat, Int.reduceNeg, thaw, nodup, refsV, adopts, Pk.TY_State, Pk.TY_Entry]
  rw [if_neg h1]
  have h1' := decide_eq_false h1
  cases hk : placeS s n with
  | none =>
    unfold placeS at hk
    by_cases h2 : n > (lastE s).n
    · have h2 := decide_eq_true h2
      simp (config := {decide := true}) only [c_paddockref6_Tail, hi, hh, c, h1', h2, guardR_und, Pk.EVL, keepT, enum, ↓reduceIte, ev, act, appT, callee, toDs, toD, loadA, storeA, subA, subD, updA, Eff.on, resA, resVs, resV, lk, finish, frzR, frzVs, frzV, fznR, fzns, fzn, lts, lt, ltO, List.all, pairsOk, indep, reduceCtorEq, Nat.reduceEqDiff, Nat.reduceAdd, Nat.reduceLeDiff, stb, thaws, List.drop, intOfA, binD, binI, unD, mmL, buildA, mkAgg, allD, behind, behind0, takeAt, frzAs, frzA, adoptR, adopt, isD, isD0, trim, List.take, binS, sliceA, bnd, zOk, elems, Nat.reduceBNe, inpl, Nat.reduceLT, Nat.reduceBEq, Nat.reduceSub, Nat.reduceMul, Int.reduceLT, Int.reduceLE, Int.reduceEq, Int.reduceToNat, Int.reduceNeg, thaw, nodup, refsV, adopts, Pk.TY_State, Pk.TY_Entry]
    · rw [if_neg (by omega)] at hk
      simp at hk
  | some k =>
    obtain ⟨hn, hkl⟩ := place_some hs.ok c hk
    have hll := isSt_len c
    have hlast := last_n hs.ok c
    have h2 : decide (n > (lastE s).n) = false := by simp; omega
    have hft : ∀ j, j ≤ s.log.length → (foldedS s j).tail.n = s.tail.n + j := fun j h => folded_tail hs.ok c h
    have hpop : ∀ (j : Nat), j < k → evF C F_paddockref6_pop [.d (.agg (foldedS s j).cs)] [] = some (.d (.agg (foldedS s (j + 1)).cs), []) := by
      intro j hj
      obtain ⟨e, he⟩ : ∃ e, s.log[j]? = some e := ⟨s.log[j]'(by omega), List.getElem?_eq_getElem _⟩
      have hdr : s.log.drop j = e :: s.log.drop (j + 1) := by
        rw [List.drop_eq_getElem_cons (by omega)]
        congr 1
        exact (List.getElem?_eq_some_iff.1 he).2
      have := pop_at (foldedS s j) e (s.log.drop (j + 1)) hdr (by rw [List.length_drop]; omega) (folded_fit hs.ok c j) (hs.log e (List.mem_of_getElem? he)).2.2
      rw [folded_succ s j e he]
      exact this
    have h0 : foldedS s 0 = s := rfl
    simp (config := {decide := true}) only [c_paddockref6_Tail, hi, hh, c, h1', h2, guardR_und, Pk.EVL, keepT, enum, ↓reduceIte, ev, act, appT, callee, toDs, toD, loadA, storeA, subA, subD, updA, Eff.on, resA, resVs, resV, lk, finish, frzR, frzVs, frzV, fznR, fzns, fzn, lts, lt, ltO, List.all, pairsOk, indep, reduceCtorEq, Nat.reduceEqDiff, Nat.reduceAdd, Nat.reduceLeDiff, stb, thaws, List.drop, intOfA, binD, binI, unD, mmL, buildA, mkAgg, allD, behind, behind0, takeAt, frzAs, frzA, adoptR, adopt, isD, isD0, trim, List.take, binS, sliceA, bnd, zOk, elems, Nat.reduceBNe, inpl, Nat.reduceLT, Nat.reduceBEq, Nat.reduceSub, Nat.reduceMul, Int.reduceLT, Int.reduceLE, Int.reduceEq, Int.reduceToNat, Int.reduceNeg, thaw, nodup, refsV, adopts, Pk.TY_State, Pk.TY_Entry]
    simp only [Option.bind_assoc]
    refine bind_run (loop_run (fun i T H => lk T 1 = .d (.i .u32 n) ∧ lk T 2 = .ptr 0 0 ∧ lk T 4 = .ptr 1 0 ∧ H = [.box (.d (.agg (foldedS s i).cs)), .box (.agg State.zeroA)])
      (fun e T H => e = .exit 1 ∧ lk T 2 = .ptr 0 0 ∧ lk T 4 = .ptr 1 0 ∧ H = [.box (.d (.agg (foldedS s k).cs)), .box (.agg State.zeroA)]) k ?_ ?_ k 0 _ _ (by omega) ⟨rfl, rfl, rfl, by rw [h0]⟩) ?_
    · rintro i T H hik ⟨g1, g2, g4, rfl⟩
      have hp := hpop i hik
      have hlt : decide ((foldedS s i).tail.n < n) = true := by rw [hft i (by omega)]; simp; omega
      generalize foldedS s i = t at *
      generalize foldedS s (i + 1) = t' at *
      simp (config := {decide := true}) only [K_paddockref6_Tail_0, l_paddockref6_Tail_0, g1, g2, g4, hlt, hp, Pk.EVL, keepT, enum, ↓reduceIte, ev, act, appT, callee, toDs, toD, loadA, storeA, subA, subD, updA, Eff.on, resA, resVs, resV, lk, finish, frzR, frzVs, frzV, fznR, fzns, fzn, lts, lt, ltO, List.all, pairsOk, indep, reduceCtorEq, Nat.reduceEqDiff, Nat.reduceAdd, Nat.reduceLeDiff, stb, thaws, List.drop, intOfA, binD, binI, unD, mmL, buildA, mkAgg, allD, behind, behind0, takeAt, frzAs, frzA, adoptR, adopt, isD, isD0, trim, List.take, binS, sliceA, bnd, zOk, elems, Nat.reduceBNe, inpl, Nat.reduceLT, Nat.reduceBEq, Nat.reduceSub, Nat.reduceMul, Int.reduceLT, Int.reduceLE, Int.reduceEq, Int.reduceToNat, Int.reduceNeg, thaw, nodup, refsV, adopts, Pk.TY_State, Pk.TY_Entry]
      refine ⟨_, _, _, rfl, ?_⟩
      exact .inl ⟨rfl, rfl, rfl, rfl, rfl⟩
    · rintro T H ⟨g1, g2, g4, rfl⟩
      have hlt : decide ((foldedS s k).tail.n < n) = false := by rw [hft k hkl]; simp; omega
      generalize foldedS s k = t at *
      simp (config := {decide := true}) only [K_paddockref6_Tail_0, l_paddockref6_Tail_0, g1, g2, g4, hlt, Pk.EVL, keepT, enum, ↓reduceIte, ev, act, appT, callee, toDs, toD, loadA, storeA, subA, subD, updA, Eff.on, resA, resVs, resV, lk, finish, frzR, frzVs, frzV, fznR, fzns, fzn, lts, lt, ltO, List.all, pairsOk, indep, reduceCtorEq, Nat.reduceEqDiff, Nat.reduceAdd, Nat.reduceLeDiff, stb, thaws, List.drop, intOfA, binD, binI, unD, mmL, buildA, mkAgg, allD, behind, behind0, takeAt, frzAs, frzA, adoptR, adopt, isD, isD0, trim, List.take, binS, sliceA, bnd, zOk, elems, Nat.reduceBNe, inpl, Nat.reduceLT, Nat.reduceBEq, Nat.reduceSub, Nat.reduceMul, Int.reduceLT, Int.reduceLE, Int.reduceEq, Int.reduceToNat, Int.reduceNeg, thaw, nodup, refsV, adopts, Pk.TY_State, Pk.TY_Entry]
      refine ⟨_, _, _, rfl, ?_⟩
      exact ⟨by simp, rfl, rfl, rfl, rfl⟩
    rintro e T H ⟨rfl, g2, g4, rfl⟩
    generalize foldedS s k = t at *
    simp (config := {decide := true}) only [g2, g4, Pk.EVL, keepT, enum, ↓reduceIte, ev, act, appT, callee, toDs, toD, loadA, storeA, subA, subD, updA, Eff.on, resA, resVs, resV, lk, finish, frzR, frzVs, frzV, fznR, fzns, fzn, lts, lt, ltO, List.all, pairsOk, indep, reduceCtorEq, Nat.reduceEqDiff, Nat.reduceAdd, Nat.reduceLeDiff, stb, thaws, List.drop, intOfA, binD, binI, unD, mmL, buildA, mkAgg, allD, behind, behind0, takeAt, frzAs, frzA, adoptR, adopt, isD, isD0, trim, List.take, binS, sliceA, bnd, zOk, elems, Nat.reduceBNe, inpl, Nat.reduceLT, Nat.reduceBEq, Nat.reduceSub, Nat.reduceMul, Int.reduceLT, Int.reduceLE, Int.reduceEq, Int.reduceToNat, Int.reduceNeg, thaw, nodup, refsV, adopts, Pk.TY_State, Pk.TY_Entry]
theorem refadd_at (s : State) (hs : stFull s) (e : Entry) (he : e.ok) : evF C F_paddockref6_Add [.d (.agg s.cs), .d (.agg e.cs)] [] = some (.tup [.d (.agg (addS s e).1.cs), .d (.b ((addS s e).2 == 0))], []) := by
  rw [evF_code (rfl : C F_paddockref6_Add = some a_paddockref6_Add) _ _ rfl]
  have hi := refis_st s hs
  have hh := refhead_at s hs
  unfold addS
  by_cases c : isSt s = true
  case neg =>
    have c := eq_false_of_ne_true c
    rw [if_neg (by rw [c]; simp)]
    have e10 : ((10 : Int) == 0) = false := by decide
    simp (config := {decide := true}) only [c_paddockref6_Add, hi, hh, c, e10, guardR_und, Pk.EVL, keepT, enum, ↓reduceIte, ev, act, appT, callee, toDs, toD, loadA, storeA, subA, subD, updA, Eff.on, resA, resVs, resV, lk, finish, frzR, frzVs, frzV, fznR, fzns, fzn, lts, lt, ltO, List.all, pairsOk, indep, reduceCtorEq, Nat.reduceEqDiff, Nat.reduceAdd, Nat.reduceLeDiff, stb, thaws, List.drop, intOfA, binD, binI, unD, mmL, buildA, mkAgg, allD, behind, behind0, takeAt, frzAs, frzA, adoptR, adopt, isD, isD0, trim, List.take, binS, sliceA, bnd, zOk, elems, Nat.reduceBNe, inpl, Nat.reduceLT, Nat.reduceBEq, Nat.reduceSub, Nat.reduceMul, Int.reduceLT, Int.reduceLE, Int.reduceEq, Int.reduceToNat, Int.reduceNeg, thaw, nodup, refsV, adopts, Pk.TY_State, Pk.TY_Entry]
  have hhs : headS s = ((lastE s).since, (lastE s).n) := by unfold headS; rw [if_pos c]
  rw [hhs] at hh
  rw [c, Bool.true_and]
  have hll := isSt_len c
  have hlast := last_n hs.ok c
  have hwr := refWrites_at e.op he.2.2
  have hnr : nextE (lastE s) e = !(!writes e.op || ((e.n == 0) || ((IntKind.u32.wrap (e.n - 1) != (lastE s).n) || (decide (e.since < (lastE s).since) || decide (e.since > 60))))) := (nextR_eq (lastE s) e (by have := hs.n; omega) he.2.1).symm
  rcases (Bool.eq_false_or_eq_true (writes e.op)).symm with q1 | q1
  · have f : nextE (lastE s) e = false := by rw [hnr, q1]; simp
    have e10 : ((10 : Int) == 0) = false := by decide
    rw [f, if_neg (by simp)]
    simp (config := {decide := true}) only [c_paddockref6_Add, hi, hh, c, hwr, q1, e10, guardR_und, Bool.not_true, Bool.not_false, Pk.EVL, keepT, enum, ↓reduceIte, ev, act, appT, callee, toDs, toD, loadA, storeA, subA, subD, updA, Eff.on, resA, resVs, resV, lk, finish, frzR, frzVs, frzV, fznR, fzns, fzn, lts, lt, ltO, List.all, pairsOk, indep, reduceCtorEq, Nat.reduceEqDiff, Nat.reduceAdd, Nat.reduceLeDiff, stb, thaws, List.drop, intOfA, binD, binI, unD, mmL, buildA, mkAgg, allD, behind, behind0, takeAt, frzAs, frzA, adoptR, adopt, isD, isD0, trim, List.take, binS, sliceA, bnd, zOk, elems, Nat.reduceBNe, inpl, Nat.reduceLT, Nat.reduceBEq, Nat.reduceSub, Nat.reduceMul, Int.reduceLT, Int.reduceLE, Int.reduceEq, Int.reduceToNat, Int.reduceNeg, thaw, nodup, refsV, adopts, Pk.TY_State, Pk.TY_Entry]
  rcases Bool.eq_false_or_eq_true (e.n == 0) with q2 | q2
  · have f : nextE (lastE s) e = false := by rw [hnr, q1, q2]; simp
    have e10 : ((10 : Int) == 0) = false := by decide
    rw [f, if_neg (by simp)]
    simp (config := {decide := true}) only [c_paddockref6_Add, hi, hh, c, hwr, q1, q2, e10, guardR_und, Bool.not_true, Bool.not_false, Pk.EVL, keepT, enum, ↓reduceIte, ev, act, appT, callee, toDs, toD, loadA, storeA, subA, subD, updA, Eff.on, resA, resVs, resV, lk, finish, frzR, frzVs, frzV, fznR, fzns, fzn, lts, lt, ltO, List.all, pairsOk, indep, reduceCtorEq, Nat.reduceEqDiff, Nat.reduceAdd, Nat.reduceLeDiff, stb, thaws, List.drop, intOfA, binD, binI, unD, mmL, buildA, mkAgg, allD, behind, behind0, takeAt, frzAs, frzA, adoptR, adopt, isD, isD0, trim, List.take, binS, sliceA, bnd, zOk, elems, Nat.reduceBNe, inpl, Nat.reduceLT, Nat.reduceBEq, Nat.reduceSub, Nat.reduceMul, Int.reduceLT, Int.reduceLE, Int.reduceEq, Int.reduceToNat, Int.reduceNeg, thaw, nodup, refsV, adopts, Pk.TY_State, Pk.TY_Entry]
  rcases Bool.eq_false_or_eq_true (IntKind.u32.wrap (e.n - 1) != (lastE s).n) with q3 | q3
  · have f : nextE (lastE s) e = false := by rw [hnr, q1, q2, q3]; simp
    have e10 : ((10 : Int) == 0) = false := by decide
    rw [f, if_neg (by simp)]
    simp (config := {decide := true}) only [c_paddockref6_Add, hi, hh, c, hwr, q1, q2, q3, e10, guardR_und, Bool.not_true, Bool.not_false, Pk.EVL, keepT, enum, ↓reduceIte, ev, act, appT, callee, toDs, toD, loadA, storeA, subA, subD, updA, Eff.on, resA, resVs, resV, lk, finish, frzR, frzVs, frzV, fznR, fzns, fzn, lts, lt, ltO, List.all, pairsOk, indep, reduceCtorEq, Nat.reduceEqDiff, Nat.reduceAdd, Nat.reduceLeDiff, stb, thaws, List.drop, intOfA, binD, binI, unD, mmL, buildA, mkAgg, allD, behind, behind0, takeAt, frzAs, frzA, adoptR, adopt, isD, isD0, trim, List.take, binS, sliceA, bnd, zOk, elems, Nat.reduceBNe, inpl, Nat.reduceLT, Nat.reduceBEq, Nat.reduceSub, Nat.reduceMul, Int.reduceLT, Int.reduceLE, Int.reduceEq, Int.reduceToNat, Int.reduceNeg, thaw, nodup, refsV, adopts, Pk.TY_State, Pk.TY_Entry]
  rcases Bool.eq_false_or_eq_true (decide (e.since < (lastE s).since)) with q4 | q4
  · have f : nextE (lastE s) e = false := by rw [hnr, q1, q2, q3, q4]; simp
    have e10 : ((10 : Int) == 0) = false := by decide
    rw [f, if_neg (by simp)]
    simp (config := {decide := true}) only [c_paddockref6_Add, hi, hh, c, hwr, q1, q2, q3, q4, e10, guardR_und, Bool.not_true, Bool.not_false, Pk.EVL, keepT, enum, ↓reduceIte, ev, act, appT, callee, toDs, toD, loadA, storeA, subA, subD, updA, Eff.on, resA, resVs, resV, lk, finish, frzR, frzVs, frzV, fznR, fzns, fzn, lts, lt, ltO, List.all, pairsOk, indep, reduceCtorEq, Nat.reduceEqDiff, Nat.reduceAdd, Nat.reduceLeDiff, stb, thaws, List.drop, intOfA, binD, binI, unD, mmL, buildA, mkAgg, allD, behind, behind0, takeAt, frzAs, frzA, adoptR, adopt, isD, isD0, trim, List.take, binS, sliceA, bnd, zOk, elems, Nat.reduceBNe, inpl, Nat.reduceLT, Nat.reduceBEq, Nat.reduceSub, Nat.reduceMul, Int.reduceLT, Int.reduceLE, Int.reduceEq, Int.reduceToNat, Int.reduceNeg, thaw, nodup, refsV, adopts, Pk.TY_State, Pk.TY_Entry]
  rcases Bool.eq_false_or_eq_true (decide (e.since > 60)) with q5 | q5
  · have f : nextE (lastE s) e = false := by rw [hnr, q1, q2, q3, q4, q5]; simp
    have e10 : ((10 : Int) == 0) = false := by decide
    rw [f, if_neg (by simp)]
    simp (config := {decide := true}) only [c_paddockref6_Add, hi, hh, c, hwr, q1, q2, q3, q4, q5, e10, guardR_und, Bool.not_true, Bool.not_false, Pk.EVL, keepT, enum, ↓reduceIte, ev, act, appT, callee, toDs, toD, loadA, storeA, subA, subD, updA, Eff.on, resA, resVs, resV, lk, finish, frzR, frzVs, frzV, fznR, fzns, fzn, lts, lt, ltO, List.all, pairsOk, indep, reduceCtorEq, Nat.reduceEqDiff, Nat.reduceAdd, Nat.reduceLeDiff, stb, thaws, List.drop, intOfA, binD, binI, unD, mmL, buildA, mkAgg, allD, behind, behind0, takeAt, frzAs, frzA, adoptR, adopt, isD, isD0, trim, List.take, binS, sliceA, bnd, zOk, elems, Nat.reduceBNe, inpl, Nat.reduceLT, Nat.reduceBEq, Nat.reduceSub, Nat.reduceMul, Int.reduceLT, Int.reduceLE, Int.reduceEq, Int.reduceToNat, Int.reduceNeg, thaw, nodup, refsV, adopts, Pk.TY_State, Pk.TY_Entry]
  have f : nextE (lastE s) e = true := by rw [hnr, q1, q2, q3, q4, q5]; rfl
  rw [f, if_pos rfl]
  have e0 : ((0 : Int) == 0) = true := by decide
  have hap : List.map Entry.d s.log ++ [DV.agg e.cs] = (s.log ++ [e]).map Entry.d := by simp [Entry.d]
  have hlen : (s.log ++ [e]).length = s.log.length + 1 := by simp
  have htk1 : List.take (s.log.length + 1) ((s.log ++ [e]).map Entry.d) = (s.log ++ [e]).map Entry.d := List.take_of_length_le (by simp)
  have hsb1 : subL ((s.log ++ [e]).map Entry.d) 0 (s.log.length + 1) = (s.log ++ [e]).map Entry.d := htk1
  have hlim : (s.log.length + 1 ≤ LIM) = True := by
    have : s.log.length + 1 ≤ LIM := by unfold LIM; omega
    simp [this]
  have hlim0 : (s.log.length ≤ LIM) = True := by
    have : s.log.length ≤ LIM := by unfold LIM; omega
    simp [this]
  have hwv : ∀ (v : AV) (x : State), upd (State.withV s v) 0 (List.map AV.d x.cs) = List.map AV.d x.cs := fun v x => rfl
  by_cases c6 : s.log.length = 6
  · have hgt : decide (((s.log.length + 1 : Nat) : Int) > 6) = true := by simp; omega
    obtain ⟨e0', l0, hl0⟩ : ∃ x l, s.log = x :: l := by
      cases hx : s.log with
      | nil => rw [hx] at c6; simp at c6
      | cons x l => exact ⟨x, l, rfl⟩
    have hp := pop_at { s with log := s.log ++ [e] } e0' (l0 ++ [e]) (by simp [hl0]) (by have := congrArg List.length hl0; simp at this; simp; omega) (show Base.fit s.base from isSt_fit c) (hs.log e0' (by rw [hl0]; simp)).2.2
    have hfs : popS { s with log := s.log ++ [e] } e0' (l0 ++ [e]) = foldedS { s with log := s.log ++ [e] } 1 := by
      rw [folded_succ { s with log := s.log ++ [e] } 0 e0' (by simp [hl0])]
      simp [hl0, popS, foldedS]
    rw [hfs] at hp
    rw [show s.log.length + 1 - 6 = 1 by omega]
    generalize foldedS { s with log := s.log ++ [e] } 1 = t at *
    simp (config := {decide := true}) only [c_paddockref6_Add, hi, hh, c, hwr, q1, q2, q3, q4, q5, e0, hap, hlen, htk1, hsb1, hlim, hlim0, hgt, hp, hwv, elems, guardR_und, Bool.not_true, Pk.EVL, keepT, enum, ↓reduceIte, ev, act, appT, callee, toDs, toD, loadA, storeA, subA, subD, updA, Eff.on, resA, resVs, resV, lk, finish, frzR, frzVs, frzV, fznR, fzns, fzn, lts, lt, ltO, List.all, pairsOk, indep, reduceCtorEq, Nat.reduceEqDiff, Nat.reduceAdd, Nat.reduceLeDiff, stb, thaws, List.drop, intOfA, binD, binI, unD, mmL, buildA, mkAgg, allD, behind, behind0, takeAt, frzAs, frzA, adoptR, adopt, isD, isD0, trim, List.take, binS, sliceA, bnd, zOk, elems, Nat.reduceBNe, inpl, Nat.reduceLT, Nat.reduceBEq, Nat.reduceSub, Nat.reduceMul, Int.reduceLT, Int.reduceLE, Int.reduceEq, Int.reduceToNat, Int.reduceNeg, thaw, nodup, refsV, adopts, Pk.TY_State, Pk.TY_Entry]
  · have hgt : decide (((s.log.length + 1 : Nat) : Int) > 6) = false := by simp; omega
    rw [show s.log.length + 1 - 6 = 0 by omega]
    have hf0 : foldedS { s with log := s.log ++ [e] } 0 = { s with log := s.log ++ [e] } := rfl
    rw [hf0]
    simp (config := {decide := true}) only [c_paddockref6_Add, hi, hh, c, hwr, q1, q2, q3, q4, q5, e0, hap, hlen, htk1, hsb1, hlim, hlim0, hgt, elems, guardR_und, Bool.not_true, Pk.EVL, keepT, enum, ↓reduceIte, ev, act, appT, callee, toDs, toD, loadA, storeA, subA, subD, updA, Eff.on, resA, resVs, resV, lk, finish, frzR, frzVs, frzV, fznR, fzns, fzn, lts, lt, ltO, List.all, pairsOk, indep, reduceCtorEq, Nat.reduceEqDiff, Nat.reduceAdd, Nat.reduceLeDiff, stb, thaws, List.drop, intOfA, binD, binI, unD, mmL, buildA, mkAgg, allD, behind, behind0, takeAt, frzAs, frzA, adoptR, adopt, isD, isD0, trim, List.take, binS, sliceA, bnd, zOk, elems, Nat.reduceBNe, inpl, Nat.reduceLT, Nat.reduceBEq, Nat.reduceSub, Nat.reduceMul, Int.reduceLT, Int.reduceLE, Int.reduceEq, Int.reduceToNat, Int.reduceNeg, thaw, nodup, refsV, adopts, Pk.TY_State, Pk.TY_Entry]
end Go.Proofs.Ytfajplmkfpdhfaa

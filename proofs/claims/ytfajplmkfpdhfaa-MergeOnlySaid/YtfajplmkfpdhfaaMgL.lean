/- The laws MergeSteps, MergeBack, MergeRewinds, MergeSelf. -/
import Derived.Test.YtfajplmkfpdhfaaMgH
import Derived.Test.YtfajplmkfpdhfaaMgG
set_option linter.all false
namespace Go.Proofs.Ytfajplmkfpdhfaa
open Pv Go Pk
set_option maxRecDepth 10000
set_option maxHeartbeats 2000000
structure St8 (s : State) : Prop where
  ex : ∃ st E k, s = mkSt st E k ∧ goodE E ∧ k ≤ E.length ∧ E.length - k ≤ 6 ∧ st ≤ 60
theorem St8.ok {s : State} (h : St8 s) : stOk s := by
  obtain ⟨st, E, k, rfl, hE, hk, _, _⟩ := h.ex
  exact mk_ok st hE hk
theorem St8.is {s : State} (h : St8 s) : isSt s = true := by
  obtain ⟨st, E, k, rfl, hE, hk, h6, hst⟩ := h.ex
  exact mk_is st hE hk h6 hst
theorem St8.back {s t : State} (hs : St8 s) (ht : St8 t) : applyM s (makeM s t) = (t, 0) := by
  obtain ⟨st, E, k, rfl, hE, hk, h6, hst⟩ := hs.ex
  obtain ⟨st', F, k', rfl, hF, hk', h6', hst'⟩ := ht.ex
  exact back_mk hE hF hk h6 hst hk' h6' hst'
theorem St8.log {s : State} (h : St8 s) : ∀ e ∈ s.log, e.op.ok := h.ok.log
theorem makeM_ops {a b : State} (hb : ∀ e ∈ b.log, e.op.ok) : ∀ e ∈ (makeM a b).log, e.op.ok := by
  unfold makeM
  split
  · split
    · intro e he; simp at he
    · split
      · intro e he; exact hb e (List.mem_of_mem_drop he)
      · intro e he; simp at he
  · intro e he; simp [Diff.zero] at he
theorem st8_is (l own : List Opr) (hl : ∀ o ∈ l, o.ok) (ho : ∀ o ∈ own, o.ok) (since f started : Int) (hst : 0 ≤ started) : St8 (st8 l own since f started) := by
  have hj := jOf_le (runE (ops8 l own (since.tmod 20 + 2))).length f
  exact ⟨_, _, _, rfl, runE_good (ops8_ok _ hl ho), hj.2, by omega, by rw [Int.tmod_eq_emod_of_nonneg hst]; omega⟩
theorem St8.make_at {a b : State} (ha : St8 a) (hb : St8 b) : evF C F_merge_Make [.d (.agg a.cs), .d (.agg b.cs)] [] = some (.d (.agg (makeM a b).cs), []) := Go.Proofs.Ytfajplmkfpdhfaa.make_at a b ha.ok hb.ok
theorem St8.apply_at {a b : State} (ha : St8 a) (hb : St8 b) : evF C F_merge_Apply [.d (.agg a.cs), .d (.agg (makeM a b).cs)] [] = some (.tup [.d (.agg b.cs), .d (.i .i64 0)], []) := by
  have h := Go.Proofs.Ytfajplmkfpdhfaa.apply_at a (makeM a b) ha.ok (makeM_ops hb.log) (fun _ => trivial) (by have := (makeM_len a b (by have := isSt_len hb.is; omega)).1; omega)
  rw [ha.back hb] at h
  exact h
theorem St8.self_at {a : State} (ha : St8 a) : evF C F_pglog_Same [.d (.agg a.cs), .d (.agg a.cs)] [] = some (.d (.b true), []) := by
  have h := same_at a a (by have := isSt_len ha.is; omega)
  rw [decide_eq_true rfl] at h
  exact h
theorem steps_law (l a b c : List Opr) (hl : ∀ o ∈ l, o.ok) (ha : ∀ o ∈ a, o.ok) (hb : ∀ o ∈ b, o.ok) (hc : ∀ o ∈ c, o.ok) (i j k : Int) (hi : 0 ≤ i) (hj : 0 ≤ j) (hk : 0 ≤ k) :
    evF C F_paddocklaw8_MergeSteps [.d (.sl (l.map Opr.d)), .d (.sl (a.map Opr.d)), .d (.sl (b.map Opr.d)), .d (.sl (c.map Opr.d)), .d (.i .u32 i), .d (.i .u32 j), .d (.i .u32 k)] [] = some (.d (.b true), []) := by
  rw [evF_code (rfl : C F_paddocklaw8_MergeSteps = some a_paddocklaw8_MergeSteps) _ _ rfl]
  rcases Bool.eq_false_or_eq_true (decide (((l.length : Nat) : Int) > 10)) with q1 | q1
  · simp (config := {decide := true}) only [c_paddocklaw8_MergeSteps, known8_at, q1, guardR_und, Pk.EVL, keepT, enum, ↓reduceIte, ev, act, appT, callee, toDs, toD, loadA, storeA, subA, subD, updA, Eff.on, resA, resVs, resV, lk, finish, frzR, frzVs, frzV, fznR, fzns, fzn, lts, lt, ltO, List.all, pairsOk, indep, reduceCtorEq, Nat.reduceEqDiff, Nat.reduceAdd, Nat.reduceLeDiff, stb, thaws, List.drop, intOfA, binD, binI, unD, mmL, buildA, mkAgg, allD, behind, behind0, takeAt, frzAs, frzA, adoptR, adopt, isD, isD0, trim, List.take, binS, sliceA, bnd, zOk, elems, Nat.reduceBNe, inpl, Nat.reduceLT, Nat.reduceBEq, Nat.reduceSub, Nat.reduceMul, Int.reduceLT, Int.reduceLE, Int.reduceEq, Int.reduceToNat, Int.reduceNeg, thaw, nodup, refsV, adopts, Pk.TY_State]
  rcases Bool.eq_false_or_eq_true (decide (((a.length : Nat) : Int) > 6)) with q2 | q2
  · simp (config := {decide := true}) only [c_paddocklaw8_MergeSteps, known8_at, q1, q2, guardR_und, Pk.EVL, keepT, enum, ↓reduceIte, ev, act, appT, callee, toDs, toD, loadA, storeA, subA, subD, updA, Eff.on, resA, resVs, resV, lk, finish, frzR, frzVs, frzV, fznR, fzns, fzn, lts, lt, ltO, List.all, pairsOk, indep, reduceCtorEq, Nat.reduceEqDiff, Nat.reduceAdd, Nat.reduceLeDiff, stb, thaws, List.drop, intOfA, binD, binI, unD, mmL, buildA, mkAgg, allD, behind, behind0, takeAt, frzAs, frzA, adoptR, adopt, isD, isD0, trim, List.take, binS, sliceA, bnd, zOk, elems, Nat.reduceBNe, inpl, Nat.reduceLT, Nat.reduceBEq, Nat.reduceSub, Nat.reduceMul, Int.reduceLT, Int.reduceLE, Int.reduceEq, Int.reduceToNat, Int.reduceNeg, thaw, nodup, refsV, adopts, Pk.TY_State]
  rcases Bool.eq_false_or_eq_true (decide (((b.length : Nat) : Int) > 6)) with q3 | q3
  · simp (config := {decide := true}) only [c_paddocklaw8_MergeSteps, known8_at, q1, q2, q3, guardR_und, Pk.EVL, keepT, enum, ↓reduceIte, ev, act, appT, callee, toDs, toD, loadA, storeA, subA, subD, updA, Eff.on, resA, resVs, resV, lk, finish, frzR, frzVs, frzV, fznR, fzns, fzn, lts, lt, ltO, List.all, pairsOk, indep, reduceCtorEq, Nat.reduceEqDiff, Nat.reduceAdd, Nat.reduceLeDiff, stb, thaws, List.drop, intOfA, binD, binI, unD, mmL, buildA, mkAgg, allD, behind, behind0, takeAt, frzAs, frzA, adoptR, adopt, isD, isD0, trim, List.take, binS, sliceA, bnd, zOk, elems, Nat.reduceBNe, inpl, Nat.reduceLT, Nat.reduceBEq, Nat.reduceSub, Nat.reduceMul, Int.reduceLT, Int.reduceLE, Int.reduceEq, Int.reduceToNat, Int.reduceNeg, thaw, nodup, refsV, adopts, Pk.TY_State]
  rcases Bool.eq_false_or_eq_true (decide (((c.length : Nat) : Int) > 6)) with q4 | q4
  · simp (config := {decide := true}) only [c_paddocklaw8_MergeSteps, known8_at, q1, q2, q3, q4, guardR_und, Pk.EVL, keepT, enum, ↓reduceIte, ev, act, appT, callee, toDs, toD, loadA, storeA, subA, subD, updA, Eff.on, resA, resVs, resV, lk, finish, frzR, frzVs, frzV, fznR, fzns, fzn, lts, lt, ltO, List.all, pairsOk, indep, reduceCtorEq, Nat.reduceEqDiff, Nat.reduceAdd, Nat.reduceLeDiff, stb, thaws, List.drop, intOfA, binD, binI, unD, mmL, buildA, mkAgg, allD, behind, behind0, takeAt, frzAs, frzA, adoptR, adopt, isD, isD0, trim, List.take, binS, sliceA, bnd, zOk, elems, Nat.reduceBNe, inpl, Nat.reduceLT, Nat.reduceBEq, Nat.reduceSub, Nat.reduceMul, Int.reduceLT, Int.reduceLE, Int.reduceEq, Int.reduceToNat, Int.reduceNeg, thaw, nodup, refsV, adopts, Pk.TY_State]
  have l1 : l.length ≤ 10 := by have := of_decide_eq_false q1; omega
  have l2 : a.length ≤ 6 := by have := of_decide_eq_false q2; omega
  have l3 : b.length ≤ 6 := by have := of_decide_eq_false q3; omega
  have l4 : c.length ≤ 6 := by have := of_decide_eq_false q4; omega
  have s1 := state8_at l a (by omega) hl ha i 1 i hi (by omega) hi
  have s2 := state8_at l b (by omega) hl hb j 2 j hj (by omega) hj
  have s3 := state8_at l c (by omega) hl hc k 3 k hk (by omega) hk
  have p1 := st8_is l a hl ha i 1 i hi
  have p2 := st8_is l b hl hb j 2 j hj
  have p3 := st8_is l c hl hc k 3 k hk
  generalize st8 l a i 1 i = s at *
  generalize st8 l b j 2 j = t at *
  generalize st8 l c k 3 k = u at *
  have m1 := p1.make_at p2
  have m2 := p2.make_at p3
  have m3 := p1.make_at p3
  have a1 := p1.apply_at p2
  have a2 := p2.apply_at p3
  have a3 := p1.apply_at p3
  have a4 := p3.self_at
  clear p1 p2 p3 hl ha hb hc
  generalize makeM s t = D1 at *
  generalize makeM t u = D2 at *
  generalize makeM s u = D3 at *
  have n0 : ((0 : Int) != 0) = false := by decide
  have e0 : ((0 : Int) == 0) = true := by decide
  simp (config := {decide := true}) only [c_paddocklaw8_MergeSteps, known8_at, q1, q2, q3, q4, s1, s2, s3, m1, m2, m3, a1, a2, a3, a4, n0, e0, guardR_und, Pk.EVL, keepT, enum, ↓reduceIte, ev, act, appT, callee, toDs, toD, loadA, storeA, subA, subD, updA, Eff.on, resA, resVs, resV, lk, finish, frzR, frzVs, frzV, fznR, fzns, fzn, lts, lt, ltO, List.all, pairsOk, indep, reduceCtorEq, Nat.reduceEqDiff, Nat.reduceAdd, Nat.reduceLeDiff, stb, thaws, List.drop, intOfA, binD, binI, unD, mmL, buildA, mkAgg, allD, behind, behind0, takeAt, frzAs, frzA, adoptR, adopt, isD, isD0, trim, List.take, binS, sliceA, bnd, zOk, elems, Nat.reduceBNe, inpl, Nat.reduceLT, Nat.reduceBEq, Nat.reduceSub, Nat.reduceMul, Int.reduceLT, Int.reduceLE, Int.reduceEq, Int.reduceToNat, Int.reduceNeg, thaw, nodup, refsV, adopts, Pk.TY_State, Pk.TY_Diff]
theorem makeM_facts {s t : State} (hs : St8 s) (ht : St8 t) :
    ((makeM s t).kind = 0 ∧ (makeM s t).log = [] ∧ (makeM s t).whole = headM t) ∨
    ((makeM s t).kind = 1 ∧ (makeM s t).whole = headM t ∧ (makeM s t).log.length ≤ t.log.length ∧ (headS t).2 - (makeM s t).from_ = (((makeM s t).log.length : Nat) : Int)) ∨ (makeM s t).kind = 2 := by
  have i1 := hs.is
  have i2 := ht.is
  obtain ⟨st, E, k, rfl, hE, hk, h6, hst⟩ := hs.ex
  obtain ⟨st', F, k', rfl, hF, hk', h6', hst'⟩ := ht.ex
  have htn : (mkSt st' F k').tail.n = (k' : Int) := mk_tail_n st' hF hk'
  unfold makeM
  rw [if_pos (by rw [i1, i2]; rfl)]
  by_cases c3 : ({ mkSt st E k with started := (mkSt st' F k').started } : State) = mkSt st' F k'
  · rw [if_pos c3]
    exact .inl ⟨rfl, rfl, rfl⟩
  rw [if_neg c3]
  by_cases c4 : standsM (mkSt st E k) (mkSt st' F k') = true
  case neg =>
    rw [if_neg c4]
    exact .inr (.inr rfl)
  rw [if_pos c4]
  obtain ⟨hkk, hkE, hb, ht'⟩ := stands_mk hE hF hk h6 hst hk' c4
  have hlog : (mkSt st' F k').log = F.drop k' := rfl
  have hFn : ∀ (i : Nat) (e : Entry), (F.drop k')[i]? = some e → e.n = ((k' + i + 1 : Nat) : Int) := fun i e he => by
    rw [List.getElem?_drop] at he
    have := hF.nums.1 _ _ he
    omega
  obtain ⟨c, hc1, hc2, hc3, hc4⟩ := common_mk hE hk h6 hst (F.drop k') k' hkE hFn
  rw [htn, hlog, hc3, mk_head st' hF hk' h6' hst']
  rw [show ((((k' + c : Nat) : Int)) - (k' : Int)).toNat = c by omega]
  have hdl : (F.drop k').length = F.length - k' := List.length_drop
  have hdd : ((F.drop k').drop c).length = F.length - k' - c := by rw [List.length_drop, hdl]
  refine .inr (.inl ⟨rfl, rfl, ?_, ?_⟩)
  · show ((F.drop k').drop c).length ≤ (F.drop k').length
    omega
  · show (F.length : Int) - ((k' + c : Nat) : Int) = ((((F.drop k').drop c).length : Nat) : Int)
    rw [hdd]
    omega
theorem there0 : thereN Base.zero 6 = 0 := by decide
theorem back_law (l a b : List Opr) (hl : ∀ o ∈ l, o.ok) (ha : ∀ o ∈ a, o.ok) (hb : ∀ o ∈ b, o.ok) (i k f g : Int) (hi : 0 ≤ i) (hk : 0 ≤ k) (hf : 0 ≤ f ∧ f < 256) (hg : 0 ≤ g ∧ g < 256) :
    evF C F_paddocklaw8_MergeBack [.d (.sl (l.map Opr.d)), .d (.sl (a.map Opr.d)), .d (.sl (b.map Opr.d)), .d (.i .u32 i), .d (.i .u32 k), .d (.i .u8 f), .d (.i .u8 g)] [] = some (.d (.b true), []) := by
  rw [evF_code (rfl : C F_paddocklaw8_MergeBack = some a_paddocklaw8_MergeBack) _ _ rfl]
  rcases Bool.eq_false_or_eq_true (decide (((l.length : Nat) : Int) > 20)) with q1 | q1
  · simp (config := {decide := true}) only [c_paddocklaw8_MergeBack, known8_at, q1, guardR_und, Pk.EVL, keepT, enum, ↓reduceIte, ev, act, appT, callee, toDs, toD, loadA, storeA, subA, subD, updA, Eff.on, resA, resVs, resV, lk, finish, frzR, frzVs, frzV, fznR, fzns, fzn, lts, lt, ltO, List.all, pairsOk, indep, reduceCtorEq, Nat.reduceEqDiff, Nat.reduceAdd, Nat.reduceLeDiff, stb, thaws, List.drop, intOfA, binD, binI, unD, mmL, buildA, mkAgg, allD, behind, behind0, takeAt, frzAs, frzA, adoptR, adopt, isD, isD0, trim, List.take, binS, sliceA, bnd, zOk, elems, Nat.reduceBNe, inpl, Nat.reduceLT, Nat.reduceBEq, Nat.reduceSub, Nat.reduceMul, Int.reduceLT, Int.reduceLE, Int.reduceEq, Int.reduceToNat, Int.reduceNeg, thaw, nodup, refsV, adopts, Pk.TY_State]
  rcases Bool.eq_false_or_eq_true (decide (((a.length : Nat) : Int) > 10)) with q2 | q2
  · simp (config := {decide := true}) only [c_paddocklaw8_MergeBack, known8_at, q1, q2, guardR_und, Pk.EVL, keepT, enum, ↓reduceIte, ev, act, appT, callee, toDs, toD, loadA, storeA, subA, subD, updA, Eff.on, resA, resVs, resV, lk, finish, frzR, frzVs, frzV, fznR, fzns, fzn, lts, lt, ltO, List.all, pairsOk, indep, reduceCtorEq, Nat.reduceEqDiff, Nat.reduceAdd, Nat.reduceLeDiff, stb, thaws, List.drop, intOfA, binD, binI, unD, mmL, buildA, mkAgg, allD, behind, behind0, takeAt, frzAs, frzA, adoptR, adopt, isD, isD0, trim, List.take, binS, sliceA, bnd, zOk, elems, Nat.reduceBNe, inpl, Nat.reduceLT, Nat.reduceBEq, Nat.reduceSub, Nat.reduceMul, Int.reduceLT, Int.reduceLE, Int.reduceEq, Int.reduceToNat, Int.reduceNeg, thaw, nodup, refsV, adopts, Pk.TY_State]
  rcases Bool.eq_false_or_eq_true (decide (((b.length : Nat) : Int) > 10)) with q3 | q3
  · simp (config := {decide := true}) only [c_paddocklaw8_MergeBack, known8_at, q1, q2, q3, guardR_und, Pk.EVL, keepT, enum, ↓reduceIte, ev, act, appT, callee, toDs, toD, loadA, storeA, subA, subD, updA, Eff.on, resA, resVs, resV, lk, finish, frzR, frzVs, frzV, fznR, fzns, fzn, lts, lt, ltO, List.all, pairsOk, indep, reduceCtorEq, Nat.reduceEqDiff, Nat.reduceAdd, Nat.reduceLeDiff, stb, thaws, List.drop, intOfA, binD, binI, unD, mmL, buildA, mkAgg, allD, behind, behind0, takeAt, frzAs, frzA, adoptR, adopt, isD, isD0, trim, List.take, binS, sliceA, bnd, zOk, elems, Nat.reduceBNe, inpl, Nat.reduceLT, Nat.reduceBEq, Nat.reduceSub, Nat.reduceMul, Int.reduceLT, Int.reduceLE, Int.reduceEq, Int.reduceToNat, Int.reduceNeg, thaw, nodup, refsV, adopts, Pk.TY_State]
  have l1 : l.length ≤ 20 := by have := of_decide_eq_false q1; omega
  have l2 : a.length ≤ 10 := by have := of_decide_eq_false q2; omega
  have l3 : b.length ≤ 10 := by have := of_decide_eq_false q3; omega
  have s1 := state8_at l a (by omega) hl ha i f i hi hf hi
  have s2 := state8_at l b (by omega) hl hb k g k hk hg hk
  have p1 := st8_is l a hl ha i f i hi
  have p2 := st8_is l b hl hb k g k hk
  generalize st8 l a i f i = s at *
  generalize st8 l b k g k = t at *
  have m1 := p1.make_at p2
  have m2 := p2.make_at p1
  have a1 := p1.apply_at p2
  have a2 := p2.apply_at p1
  have a3 := p1.self_at
  have a4 := p2.self_at
  have hh := head_at t
  have hfa := makeM_facts p1 p2
  have htl := isSt_len p2.is
  clear p1 p2 hl ha hb
  generalize makeM s t = D at *
  generalize makeM t s = D2 at *
  generalize headS t = Hd at *
  obtain ⟨hs, hn⟩ := Hd
  have n0 : ((0 : Int) != 0) = false := by decide
  have e0 : ((0 : Int) == 0) = true := by decide
  rcases hfa with ⟨x1, x2, x3⟩ | ⟨x1, x2, x3, x4⟩ | x1
  · have y1 : (D.kind == 1) = false := by rw [x1]; decide
    have y2 : (D.kind == 2) = false := by rw [x1]; decide
    have y3 : (((D.whole.log.length : Nat) : Int) == 0) = true := by rw [x3]; rfl
    have hby := bytes_at D (by rw [x2]; simp) (by rw [x3]; simp [headM])
    have hbv : bytesD D = 0 := by unfold bytesD; rw [x2, x3]; exact there0
    rw [hbv] at hby
    have y4 : decide (((0 : Nat) : Int) ≤ ((t.log.length : Nat) : Int)) = true := by simp
    simp (config := {decide := true}) only [c_paddocklaw8_MergeBack, known8_at, q1, q2, q3, s1, s2, m1, m2, a1, a2, a3, a4, n0, e0, y1, y2, y3, y4, hby, guardR_und, Pk.EVL, keepT, enum, ↓reduceIte, ev, act, appT, callee, toDs, toD, loadA, storeA, subA, subD, updA, Eff.on, resA, resVs, resV, lk, finish, frzR, frzVs, frzV, fznR, fzns, fzn, lts, lt, ltO, List.all, pairsOk, indep, reduceCtorEq, Nat.reduceEqDiff, Nat.reduceAdd, Nat.reduceLeDiff, stb, thaws, List.drop, intOfA, binD, binI, unD, mmL, buildA, mkAgg, allD, behind, behind0, takeAt, frzAs, frzA, adoptR, adopt, isD, isD0, trim, List.take, binS, sliceA, bnd, zOk, elems, Nat.reduceBNe, inpl, Nat.reduceLT, Nat.reduceBEq, Nat.reduceSub, Nat.reduceMul, Int.reduceLT, Int.reduceLE, Int.reduceEq, Int.reduceToNat, Int.reduceNeg, thaw, nodup, refsV, adopts, Pk.TY_State, Pk.TY_Diff]
  · have y1 : (D.kind == 1) = true := by rw [x1]; decide
    have y2 : (D.kind == 2) = false := by rw [x1]; decide
    have y3 : (((D.whole.log.length : Nat) : Int) == 0) = true := by rw [x2]; rfl
    have hby := bytes_at D (by omega) (by rw [x2]; simp [headM])
    have hbv : bytesD D = D.log.length := by unfold bytesD; rw [x2]; show D.log.length + 0 + thereN Base.zero 6 = _; rw [there0]; omega
    rw [hbv] at hby
    have y4 : decide (((D.log.length : Nat) : Int) ≤ ((t.log.length : Nat) : Int)) = true := by simp; omega
    have w1 : IntKind.u32.wrap (hn - D.from_) = ((D.log.length : Nat) : Int) := by
      simp only at x4
      rw [x4]; exact wu32 (by omega)
    have w2 : IntKind.i64.wrap ((D.log.length : Nat) : Int) = ((D.log.length : Nat) : Int) := wi64 (by omega)
    have y5 : (((D.log.length : Nat) : Int) != ((D.log.length : Nat) : Int)) = false := by simp
    simp (config := {decide := true}) only [c_paddocklaw8_MergeBack, known8_at, q1, q2, q3, s1, s2, m1, m2, a1, a2, a3, a4, n0, e0, hh, w1, w2, y1, y2, y3, y4, y5, hby, guardR_und, Pk.EVL, keepT, enum, ↓reduceIte, ev, act, appT, callee, toDs, toD, loadA, storeA, subA, subD, updA, Eff.on, resA, resVs, resV, lk, finish, frzR, frzVs, frzV, fznR, fzns, fzn, lts, lt, ltO, List.all, pairsOk, indep, reduceCtorEq, Nat.reduceEqDiff, Nat.reduceAdd, Nat.reduceLeDiff, stb, thaws, List.drop, intOfA, binD, binI, unD, mmL, buildA, mkAgg, allD, behind, behind0, takeAt, frzAs, frzA, adoptR, adopt, isD, isD0, trim, List.take, binS, sliceA, bnd, zOk, elems, Nat.reduceBNe, inpl, Nat.reduceLT, Nat.reduceBEq, Nat.reduceSub, Nat.reduceMul, Int.reduceLT, Int.reduceLE, Int.reduceEq, Int.reduceToNat, Int.reduceNeg, thaw, nodup, refsV, adopts, Pk.TY_State, Pk.TY_Diff]
  · have y1 : (D.kind == 1) = false := by rw [x1]; decide
    have y2 : (D.kind == 2) = true := by rw [x1]; decide
    simp (config := {decide := true}) only [c_paddocklaw8_MergeBack, known8_at, q1, q2, q3, s1, s2, m1, m2, a1, a2, a3, a4, n0, e0, y1, y2, guardR_und, Pk.EVL, keepT, enum, ↓reduceIte, ev, act, appT, callee, toDs, toD, loadA, storeA, subA, subD, updA, Eff.on, resA, resVs, resV, lk, finish, frzR, frzVs, frzV, fznR, fzns, fzn, lts, lt, ltO, List.all, pairsOk, indep, reduceCtorEq, Nat.reduceEqDiff, Nat.reduceAdd, Nat.reduceLeDiff, stb, thaws, List.drop, intOfA, binD, binI, unD, mmL, buildA, mkAgg, allD, behind, behind0, takeAt, frzAs, frzA, adoptR, adopt, isD, isD0, trim, List.take, binS, sliceA, bnd, zOk, elems, Nat.reduceBNe, inpl, Nat.reduceLT, Nat.reduceBEq, Nat.reduceSub, Nat.reduceMul, Int.reduceLT, Int.reduceLE, Int.reduceEq, Int.reduceToNat, Int.reduceNeg, thaw, nodup, refsV, adopts, Pk.TY_State, Pk.TY_Diff]
theorem runE_app (L : List (Int × Opr)) (at_ : Int) (own : List Opr) : ∃ X, runE (L ++ own.map (fun o => (at_, o))) = runE L ++ X ∧ (∀ e ∈ X, e.since = at_) ∧ X.length ≤ own.length := by
  induction own using snoc_ind with
  | h0 => exact ⟨[], by simp, by simp, Nat.le_refl _⟩
  | hs own o ih =>
    obtain ⟨X, h1, h2, h3⟩ := ih
    rw [List.map_append, ← List.append_assoc]
    simp only [List.map_cons, List.map_nil]
    rw [runE_snoc, h1]
    unfold stepE
    split
    · refine ⟨X ++ [_], by rw [List.append_assoc], fun e he => ?_, by simp; omega⟩
      rcases List.mem_append.1 he with he | he
      · exact h2 e he
      · simp only [List.mem_singleton] at he; rw [he]
    · exact ⟨X, rfl, h2, by simp; omega⟩
theorem has_is' {st : Int} {E : List Entry} {k : Nat} (hE : goodE E) (hk : k ≤ E.length) (h6 : E.length - k ≤ 6) (hst : st ≤ 60) {e : Entry} {n : Nat} (hkn : k ≤ n) (hn : e.n = ((n + 1 : Nat) : Int)) (h : E[n]? = some e) : hasE (mkSt st E k) e = true := by
  have hf := mk_find st hE hk h6 hst ((n + 1 : Nat) : Int)
  rw [if_pos (by omega), show (((n + 1 : Nat) : Int) - 1).toNat = n by omega, h] at hf
  unfold hasE
  rw [hn, hf]
  simp
theorem common_pre {st : Int} {E0 A B : List Entry} {k : Nat} (hE : goodE (E0 ++ A)) (hk : k ≤ (E0 ++ A).length) (h6 : (E0 ++ A).length - k ≤ 6) (hst : st ≤ 60) :
    ∀ (d n : Nat), n + d = E0.length → k ≤ n → commonL (mkSt st (E0 ++ A) k) (n : Nat) ((E0 ++ B).drop n) = commonL (mkSt st (E0 ++ A) k) (E0.length : Nat) B := by
  intro d
  induction d with
  | zero =>
    intro n hn _
    have : n = E0.length := by omega
    subst this
    rw [List.drop_append_of_le_length (Nat.le_refl _), List.drop_length, List.nil_append]
  | succ d ih =>
    intro n hn hkn
    obtain ⟨e, he⟩ : ∃ e, E0[n]? = some e := ⟨E0[n]'(by omega), List.getElem?_eq_getElem _⟩
    have heA : (E0 ++ A)[n]? = some e := by rw [List.getElem?_append_left (by omega)]; exact he
    have heB : (E0 ++ B)[n]? = some e := by rw [List.getElem?_append_left (by omega)]; exact he
    have hen : e.n = ((n + 1 : Nat) : Int) := by have := hE.nums.1 _ _ heA; omega
    have hdr : (E0 ++ B).drop n = e :: (E0 ++ B).drop (n + 1) := by
      rw [List.drop_eq_getElem_cons (by rw [List.length_append]; omega)]
      congr 1
      exact (List.getElem?_eq_some_iff.1 heB).2
    rw [hdr]
    simp only [commonL]
    rw [if_pos (has_is' hE hk h6 hst hkn hen heA), hen]
    exact ih (n + 1) (by omega) (by omega)
theorem common_end {st : Int} {E0 A B : List Entry} {k : Nat} (hE : goodE (E0 ++ A)) (hF : goodE (E0 ++ B)) (hk : k ≤ (E0 ++ A).length) (h6 : (E0 ++ A).length - k ≤ 6) (hst : st ≤ 60) (hne : ∀ e ∈ B, e ∉ A) : commonL (mkSt st (E0 ++ A) k) (E0.length : Nat) B = (E0.length : Int) := by
  cases B with
  | nil => rfl
  | cons e B =>
    simp only [commonL]
    have hx : (E0 ++ e :: B)[E0.length]? = some e := by simp
    have hen : e.n = ((E0.length + 1 : Nat) : Int) := by have := hF.nums.1 _ _ hx; omega
    rw [if_neg]
    intro hh
    have := has_mk hE hk h6 hst hen hh
    rw [List.getElem?_append_right (Nat.le_refl _), Nat.sub_self] at this
    exact hne e (by simp) (List.mem_of_getElem? this)
theorem makeM_from {s t : State} (h : (makeM s t).kind = 1) : (makeM s t).from_ = commonL s t.tail.n t.log := by
  unfold makeM at h ⊢
  by_cases c1 : (isSt s && isSt t) = true
  · rw [if_pos c1] at h ⊢
    by_cases c2 : ({ s with started := t.started } : State) = t
    · rw [if_pos c2] at h; exact absurd (show (0 : Int) = 1 from h) (by decide)
    · rw [if_neg c2] at h ⊢
      by_cases c3 : standsM s t = true
      · rw [if_pos c3]
      · rw [if_neg c3] at h; exact absurd (show (2 : Int) = 1 from h) (by decide)
  · rw [if_neg c1] at h; exact absurd (show (0 : Int) = 1 from h) (by decide)
theorem tops_at (s : State) : evF C F_paddocklaw8_tops [.d (.agg s.cs)] [] = some (.d (.i .u32 (headS s).2), []) := by
  rw [evF_code (rfl : C F_paddocklaw8_tops = some a_paddocklaw8_tops) _ _ rfl]
  have hh := head_at s
  simp (config := {decide := true}) only [c_paddocklaw8_tops, hh, Pk.EVL, keepT, enum, ↓reduceIte, ev, act, appT, callee, toDs, toD, loadA, storeA, subA, subD, updA, Eff.on, resA, resVs, resV, lk, finish, frzR, frzVs, frzV, fznR, fzns, fzn, lts, lt, ltO, List.all, pairsOk, indep, reduceCtorEq, Nat.reduceEqDiff, Nat.reduceAdd, Nat.reduceLeDiff, stb, thaws, List.drop, intOfA, binD, binI, unD, mmL, buildA, mkAgg, allD, behind, behind0, takeAt, frzAs, frzA, adoptR, adopt, isD, isD0, trim, List.take, binS, sliceA, bnd, zOk, elems, Nat.reduceBNe, inpl, Nat.reduceLT, Nat.reduceBEq, Nat.reduceSub, Nat.reduceMul, Int.reduceLT, Int.reduceLE, Int.reduceEq, Int.reduceToNat, Int.reduceNeg, thaw, nodup, refsV, adopts, Pk.TY_State]
theorem rew_law (l a b : List Opr) (hl : ∀ o ∈ l, o.ok) (ha : ∀ o ∈ a, o.ok) (hb : ∀ o ∈ b, o.ok) :
    evF C F_paddocklaw8_MergeRewinds [.d (.sl (l.map Opr.d)), .d (.sl (a.map Opr.d)), .d (.sl (b.map Opr.d))] [] = some (.d (.b true), []) := by
  rw [evF_code (rfl : C F_paddocklaw8_MergeRewinds = some a_paddocklaw8_MergeRewinds) _ _ rfl]
  rcases Bool.eq_false_or_eq_true (decide (((l.length : Nat) : Int) > 10)) with q1 | q1
  · simp (config := {decide := true}) only [c_paddocklaw8_MergeRewinds, known8_at, q1, guardR_und, Pk.EVL, keepT, enum, ↓reduceIte, ev, act, appT, callee, toDs, toD, loadA, storeA, subA, subD, updA, Eff.on, resA, resVs, resV, lk, finish, frzR, frzVs, frzV, fznR, fzns, fzn, lts, lt, ltO, List.all, pairsOk, indep, reduceCtorEq, Nat.reduceEqDiff, Nat.reduceAdd, Nat.reduceLeDiff, stb, thaws, List.drop, intOfA, binD, binI, unD, mmL, buildA, mkAgg, allD, behind, behind0, takeAt, frzAs, frzA, adoptR, adopt, isD, isD0, trim, List.take, binS, sliceA, bnd, zOk, elems, Nat.reduceBNe, inpl, Nat.reduceLT, Nat.reduceBEq, Nat.reduceSub, Nat.reduceMul, Int.reduceLT, Int.reduceLE, Int.reduceEq, Int.reduceToNat, Int.reduceNeg, thaw, nodup, refsV, adopts, Pk.TY_State]
  rcases Bool.eq_false_or_eq_true (decide (((a.length : Nat) : Int) > 3)) with q2 | q2
  · simp (config := {decide := true}) only [c_paddocklaw8_MergeRewinds, known8_at, q1, q2, guardR_und, Pk.EVL, keepT, enum, ↓reduceIte, ev, act, appT, callee, toDs, toD, loadA, storeA, subA, subD, updA, Eff.on, resA, resVs, resV, lk, finish, frzR, frzVs, frzV, fznR, fzns, fzn, lts, lt, ltO, List.all, pairsOk, indep, reduceCtorEq, Nat.reduceEqDiff, Nat.reduceAdd, Nat.reduceLeDiff, stb, thaws, List.drop, intOfA, binD, binI, unD, mmL, buildA, mkAgg, allD, behind, behind0, takeAt, frzAs, frzA, adoptR, adopt, isD, isD0, trim, List.take, binS, sliceA, bnd, zOk, elems, Nat.reduceBNe, inpl, Nat.reduceLT, Nat.reduceBEq, Nat.reduceSub, Nat.reduceMul, Int.reduceLT, Int.reduceLE, Int.reduceEq, Int.reduceToNat, Int.reduceNeg, thaw, nodup, refsV, adopts, Pk.TY_State]
  rcases Bool.eq_false_or_eq_true (decide (((b.length : Nat) : Int) > 3)) with q3 | q3
  · simp (config := {decide := true}) only [c_paddocklaw8_MergeRewinds, known8_at, q1, q2, q3, guardR_und, Pk.EVL, keepT, enum, ↓reduceIte, ev, act, appT, callee, toDs, toD, loadA, storeA, subA, subD, updA, Eff.on, resA, resVs, resV, lk, finish, frzR, frzVs, frzV, fznR, fzns, fzn, lts, lt, ltO, List.all, pairsOk, indep, reduceCtorEq, Nat.reduceEqDiff, Nat.reduceAdd, Nat.reduceLeDiff, stb, thaws, List.drop, intOfA, binD, binI, unD, mmL, buildA, mkAgg, allD, behind, behind0, takeAt, frzAs, frzA, adoptR, adopt, isD, isD0, trim, List.take, binS, sliceA, bnd, zOk, elems, Nat.reduceBNe, inpl, Nat.reduceLT, Nat.reduceBEq, Nat.reduceSub, Nat.reduceMul, Int.reduceLT, Int.reduceLE, Int.reduceEq, Int.reduceToNat, Int.reduceNeg, thaw, nodup, refsV, adopts, Pk.TY_State]
  have l1 : l.length ≤ 10 := by have := of_decide_eq_false q1; omega
  have l2 : a.length ≤ 3 := by have := of_decide_eq_false q2; omega
  have l3 : b.length ≤ 3 := by have := of_decide_eq_false q3; omega
  have hnil : ∀ o ∈ ([] : List Opr), o.ok := by simp
  have s1 := state8_at l a (by omega) hl ha 5 0 1 (by omega) (by omega) (by omega)
  have s2 := state8_at l b (by omega) hl hb 6 0 9 (by omega) (by omega) (by omega)
  have s3 := state8_at l [] (by simp; omega) hl hnil 0 0 1 (by omega) (by omega) (by omega)
  have p1 := st8_is l a hl ha 5 0 1 (by omega)
  have p2 := st8_is l b hl hb 6 0 9 (by omega)
  have p3 := st8_is l [] hl hnil 0 0 1 (by omega)
  -- what the lists share
  have key : ∃ n : Nat, (headS (st8 l [] 0 0 1)).2 = (n : Int) ∧ (((makeM (st8 l a 5 0 1) (st8 l b 6 0 9)).kind = 1) → (makeM (st8 l a 5 0 1) (st8 l b 6 0 9)).from_ = (n : Int)) ∧ ((n : Int) ≤ (headS (st8 l b 6 0 9)).2) := by
    obtain ⟨A, hA, hAs, hAl⟩ := runE_app (l.map (fun o => ((1 : Int), o))) 7 a
    obtain ⟨B, hB, hBs, hBl⟩ := runE_app (l.map (fun o => ((1 : Int), o))) 8 b
    have gE : goodE (runE (ops8 l a 7)) := runE_good (ops8_ok _ hl ha)
    have gF : goodE (runE (ops8 l b 8)) := runE_good (ops8_ok _ hl hb)
    have g0 : goodE (runE (ops8 l [] 2)) := runE_good (ops8_ok _ hl hnil)
    have e0 : ops8 l [] 2 = l.map (fun o => ((1 : Int), o)) := by unfold ops8; simp
    have eA : runE (ops8 l a 7) = runE (ops8 l [] 2) ++ A := by rw [e0]; exact hA
    have eB : runE (ops8 l b 8) = runE (ops8 l [] 2) ++ B := by rw [e0]; exact hB
    unfold st8
    rw [show Int.tmod 5 20 + 2 = 7 by decide, show Int.tmod 6 20 + 2 = 8 by decide, show Int.tmod 0 20 + 2 = 2 by decide, show Int.tmod 1 60 = 1 by decide, show Int.tmod 9 60 = 9 by decide, jOf_0, jOf_0, jOf_0, eA, eB]
    rw [eA] at gE
    rw [eB] at gF
    generalize runE (ops8 l [] 2) = E0 at *
    have lA : (E0 ++ A).length = E0.length + A.length := List.length_append
    have lB : (E0 ++ B).length = E0.length + B.length := List.length_append
    refine ⟨E0.length, ?_, ?_, ?_⟩
    · rw [mk_head 1 g0 (by omega) (by omega) (by omega)]
    · intro hk
      rw [makeM_from hk, mk_tail_n 9 gF (by omega)]
      have hlog : (mkSt 9 (E0 ++ B) ((E0 ++ B).length - 6)).log = (E0 ++ B).drop ((E0 ++ B).length - 6) := rfl
      rw [hlog]
      have hs6 : (E0 ++ A).length - 6 ≤ (E0 ++ B).length - 6 ∨ ¬ ((E0 ++ A).length - 6 ≤ (E0 ++ B).length - 6) := by omega
      rcases hs6 with hs6 | hs6
      · rw [common_pre gE (by omega) (by omega) (by omega) (E0.length - ((E0 ++ B).length - 6)) ((E0 ++ B).length - 6) (by omega) hs6]
        exact common_end gE gF (by omega) (by omega) (by omega) fun e h1 h2 => by
          have := hAs e h2
          have := hBs e h1
          omega
      · exfalso
        have i1 := mk_is 1 gE (k := (E0 ++ A).length - 6) (by omega) (by omega) (by omega)
        have i2 := mk_is 9 gF (k := (E0 ++ B).length - 6) (by omega) (by omega) (by omega)
        unfold makeM at hk
        rw [if_pos (by rw [i1, i2]; rfl)] at hk
        by_cases c2 : ({ mkSt 1 (E0 ++ A) ((E0 ++ A).length - 6) with started := (mkSt 9 (E0 ++ B) ((E0 ++ B).length - 6)).started } : State) = mkSt 9 (E0 ++ B) ((E0 ++ B).length - 6)
        · rw [if_pos c2] at hk; exact absurd (show (0 : Int) = 1 from hk) (by decide)
        · rw [if_neg c2] at hk
          by_cases c3 : standsM (mkSt 1 (E0 ++ A) ((E0 ++ A).length - 6)) (mkSt 9 (E0 ++ B) ((E0 ++ B).length - 6)) = true
          · exact hs6 (stands_mk gE gF (by omega) (by omega) (by omega) (by omega) c3).1
          · rw [if_neg c3] at hk; exact absurd (show (2 : Int) = 1 from hk) (by decide)
    · rw [mk_head 9 gF (by omega) (by omega) (by omega)]
      show (E0.length : Int) ≤ ((E0 ++ B).length : Int)
      omega
  generalize st8 l a 5 0 1 = s at *
  generalize st8 l b 6 0 9 = t at *
  generalize st8 l [] 0 0 1 = u at *
  have m1 := p1.make_at p2
  have a1 := p1.apply_at p2
  have a2 := p2.self_at
  have x1 := extends_at s t p1.ok p2.ok
  have x2 := tops_at s
  have x3 := head_at u
  have hext : (makeM s t).kind = 1 → (makeM s t).from_ = (headS u).2 → (headS u).2 ≤ (headS t).2 → extendsM s t = ((headS s).2 == (headS u).2) := by
    intro h1 h2 h3
    unfold extendsM
    rw [p1.is, p2.is, h1, h2]
    by_cases c : (headS u).2 = (headS s).2
    · have c1 : decide ((headS t).2 ≥ (headS s).2) = true := by simp; omega
      rw [c1, c]; simp
    · have c1 : ((headS u).2 == (headS s).2) = false := by rw [beq_eq_false_iff_ne]; exact c
      have c2 : ((headS s).2 == (headS u).2) = false := by rw [beq_eq_false_iff_ne]; omega
      rw [c1, c2]; simp
  obtain ⟨n, k1, k2, k3⟩ := key
  rw [k1] at hext
  clear p1 p2 p3 hl ha hb hnil
  generalize makeM s t = D at *
  generalize extendsM s t = X at *
  generalize headS u = Hu at *
  generalize (headS s).2 = ns at *
  obtain ⟨us, un⟩ := Hu
  simp only at k1 x3
  subst k1
  have n0 : ((0 : Int) != 0) = false := by decide
  have nb : ∀ x y : Int, (x != y) = !(x == y) := fun _ _ => rfl
  have en : (List.map Opr.d []) = [] := rfl
  rw [en] at s3
  have eb : ∀ x : Bool, (x == x) = true := fun x => by simp
  have eqb : ∀ p q : Bool, eqV .sb (.b p) (.b q) = some (p == q) := fun p q => by simp only [eqV]
  by_cases c : D.kind = 1
  · have y1 : (D.kind == 1) = true := by rw [c]; decide
    have y2 : (D.from_ == (n : Int)) = true := by rw [k2 c]; simp
    have hX := hext c (k2 c) k3
    subst hX
    simp (config := {decide := true}) only [c_paddocklaw8_MergeRewinds, known8_at, q1, q2, q3, s1, s2, s3, m1, a1, a2, x1, x2, x3, nb, n0, y1, y2, eb, eqb, beq_self_eq_true, Bool.not_true, guardR_und, Pk.EVL, keepT, enum, ↓reduceIte, ev, act, appT, callee, toDs, toD, loadA, storeA, subA, subD, updA, Eff.on, resA, resVs, resV, lk, finish, frzR, frzVs, frzV, fznR, fzns, fzn, lts, lt, ltO, List.all, pairsOk, indep, reduceCtorEq, Nat.reduceEqDiff, Nat.reduceAdd, Nat.reduceLeDiff, stb, thaws, List.drop, intOfA, binD, binI, unD, mmL, buildA, mkAgg, allD, behind, behind0, takeAt, frzAs, frzA, adoptR, adopt, isD, isD0, trim, List.take, binS, sliceA, bnd, zOk, elems, Nat.reduceBNe, inpl, Nat.reduceLT, Nat.reduceBEq, Nat.reduceSub, Nat.reduceMul, Int.reduceLT, Int.reduceLE, Int.reduceEq, Int.reduceToNat, Int.reduceNeg, thaw, nodup, refsV, adopts, Pk.TY_State, Pk.TY_Diff]
  · have y1 : (D.kind == 1) = false := by rw [beq_eq_false_iff_ne]; exact c
    simp (config := {decide := true}) only [c_paddocklaw8_MergeRewinds, known8_at, q1, q2, q3, s1, s2, s3, m1, a1, a2, x3, nb, n0, y1, eb, eqb, beq_self_eq_true, Bool.not_true, Bool.not_false, guardR_und, Pk.EVL, keepT, enum, ↓reduceIte, ev, act, appT, callee, toDs, toD, loadA, storeA, subA, subD, updA, Eff.on, resA, resVs, resV, lk, finish, frzR, frzVs, frzV, fznR, fzns, fzn, lts, lt, ltO, List.all, pairsOk, indep, reduceCtorEq, Nat.reduceEqDiff, Nat.reduceAdd, Nat.reduceLeDiff, stb, thaws, List.drop, intOfA, binD, binI, unD, mmL, buildA, mkAgg, allD, behind, behind0, takeAt, frzAs, frzA, adoptR, adopt, isD, isD0, trim, List.take, binS, sliceA, bnd, zOk, elems, Nat.reduceBNe, inpl, Nat.reduceLT, Nat.reduceBEq, Nat.reduceSub, Nat.reduceMul, Int.reduceLT, Int.reduceLE, Int.reduceEq, Int.reduceToNat, Int.reduceNeg, thaw, nodup, refsV, adopts, Pk.TY_State, Pk.TY_Diff]
theorem has_is {st : Int} {E : List Entry} {k : Nat} (hE : goodE E) (hk : k ≤ E.length) (h6 : E.length - k ≤ 6) (hst : st ≤ 60) {e : Entry} {n : Nat} (hkn : k ≤ n) (hn : e.n = ((n + 1 : Nat) : Int)) (h : E[n]? = some e) : hasE (mkSt st E k) e = true := by
  have hf := mk_find st hE hk h6 hst ((n + 1 : Nat) : Int)
  rw [if_pos (by omega), show (((n + 1 : Nat) : Int) - 1).toNat = n by omega, h] at hf
  unfold hasE
  rw [hn, hf]
  simp
theorem common_full {st : Int} {E : List Entry} {k : Nat} (hE : goodE E) (hk : k ≤ E.length) (h6 : E.length - k ≤ 6) (hst : st ≤ 60) :
    ∀ (d n : Nat), n + d = E.length → k ≤ n → commonL (mkSt st E k) (n : Nat) (E.drop n) = (E.length : Int) := by
  intro d
  induction d with
  | zero =>
    intro n hn _
    have : n = E.length := by omega
    subst this
    rw [List.drop_length]
    rfl
  | succ d ih =>
    intro n hn hkn
    obtain ⟨e, he⟩ : ∃ e, E[n]? = some e := ⟨E[n]'(by omega), List.getElem?_eq_getElem _⟩
    have hen : e.n = ((n + 1 : Nat) : Int) := by have := hE.nums.1 _ _ he; omega
    have hdr : E.drop n = e :: E.drop (n + 1) := by
      rw [List.drop_eq_getElem_cons (by omega)]
      congr 1
      exact (List.getElem?_eq_some_iff.1 he).2
    rw [hdr]
    simp only [commonL]
    rw [if_pos (has_is hE hk h6 hst hkn hen he), hen]
    exact ih (n + 1) (by omega) (by omega)
theorem stands_self {st st' : Int} {E : List Entry} {k j : Nat} (hE : goodE E) (hk : k ≤ E.length) (h6 : E.length - k ≤ 6) (hst : st ≤ 60) (hkj : k ≤ j) (hj : j ≤ E.length) : standsM (mkSt st E k) (mkSt st' E j) = true := by
  have htn : (mkSt st' E j).tail.n = (j : Int) := mk_tail_n st' hE hj
  have hfd := mk_find st hE hk h6 hst (j : Nat)
  have hup := mk_upto st hE hk h6 hst (j : Nat)
  rw [if_pos (by omega), show (j : Int).toNat = j by omega] at hup
  unfold standsM
  rw [htn, hup]
  have hb : (mkSt st' E j).base = baseOf (E.take j) := rfl
  have ht : (mkSt st' E j).tail = tailOf (E.take j) := rfl
  have hta : (mkSt st E k).tail = tailOf (E.take k) := rfl
  rw [hb, ht, hta]
  by_cases c2 : k < j
  · rw [if_pos (show (k : Int) < (j : Int) by omega)] at hfd
    obtain ⟨i, rfl⟩ : ∃ i, j = i + 1 := ⟨j - 1, by omega⟩
    obtain ⟨e, he⟩ : ∃ e, E[i]? = some e := ⟨E[i]'(by omega), List.getElem?_eq_getElem _⟩
    rw [show (((i + 1 : Nat) : Int) - 1).toNat = i by omega, he] at hfd
    simp only at hfd
    rw [hfd, tail_eq (by omega) he]
    simp
  · have : j = k := by omega
    subst this
    rw [if_neg (show ¬ (j : Int) < (j : Int) by omega)] at hfd
    rw [hfd]
    simp
theorem make_self {s : State} (h : isSt s = true) : makeM s s = ⟨0, 0, [], headM s⟩ := by
  unfold makeM
  rw [if_pos (by rw [h]; rfl), if_pos rfl]
theorem make_fold {st : Int} {E : List Entry} {k j : Nat} (hE : goodE E) (hk : k ≤ E.length) (h6 : E.length - k ≤ 6) (hst : st ≤ 60) (hkj : k ≤ j) (hj : j ≤ E.length) : (makeM (mkSt st E k) (mkSt st E j)).kind ≤ 1 ∧ (makeM (mkSt st E k) (mkSt st E j)).log = [] := by
  have i1 := mk_is st hE hk h6 hst
  have i2 := mk_is st hE hj (by omega) hst
  have htn : (mkSt st E j).tail.n = (j : Int) := mk_tail_n st hE hj
  have hlog : (mkSt st E j).log = E.drop j := rfl
  unfold makeM
  rw [if_pos (by rw [i1, i2]; rfl)]
  by_cases c3 : ({ mkSt st E k with started := (mkSt st E j).started } : State) = mkSt st E j
  · rw [if_pos c3]
    exact ⟨by show (0 : Int) ≤ 1; decide, rfl⟩
  rw [if_neg c3, if_pos (stands_self hE hk h6 hst hkj hj), htn, hlog, common_full hE hk h6 hst (E.length - j) j (by omega) hkj]
  refine ⟨by show (1 : Int) ≤ 1; decide, ?_⟩
  show (E.drop j).drop ((E.length : Int) - (j : Int)).toNat = []
  rw [List.drop_drop]
  exact List.drop_eq_nil_of_le (by omega)
theorem bytes_self (s : State) : bytesD ⟨0, 0, [], headM s⟩ = 0 := by show 0 + 0 + thereN Base.zero 6 = 0; decide
theorem self_law (l : List Opr) (hl : ∀ o ∈ l, o.ok) (f : Int) (hf : 0 ≤ f ∧ f < 256) :
    evF C F_paddocklaw8_MergeSelf [.d (.sl (l.map Opr.d)), .d (.i .u8 f)] [] = some (.d (.b true), []) := by
  rw [evF_code (rfl : C F_paddocklaw8_MergeSelf = some a_paddocklaw8_MergeSelf) _ _ rfl]
  rcases Bool.eq_false_or_eq_true (decide (((l.length : Nat) : Int) > 20)) with q1 | q1
  · simp (config := {decide := true}) only [c_paddocklaw8_MergeSelf, known8_at, q1, guardR_und, Pk.EVL, keepT, enum, ↓reduceIte, ev, act, appT, callee, toDs, toD, loadA, storeA, subA, subD, updA, Eff.on, resA, resVs, resV, lk, finish, frzR, frzVs, frzV, fznR, fzns, fzn, lts, lt, ltO, List.all, pairsOk, indep, reduceCtorEq, Nat.reduceEqDiff, Nat.reduceAdd, Nat.reduceLeDiff, stb, thaws, List.drop, intOfA, binD, binI, unD, mmL, buildA, mkAgg, allD, behind, behind0, takeAt, frzAs, frzA, adoptR, adopt, isD, isD0, trim, List.take, binS, sliceA, bnd, zOk, elems, Nat.reduceBNe, inpl, Nat.reduceLT, Nat.reduceBEq, Nat.reduceSub, Nat.reduceMul, Int.reduceLT, Int.reduceLE, Int.reduceEq, Int.reduceToNat, Int.reduceNeg, thaw, nodup, refsV, adopts, Pk.TY_State]
  have l1 : l.length ≤ 20 := by have := of_decide_eq_false q1; omega
  have hnil : ∀ o ∈ ([] : List Opr), o.ok := by simp
  have s1 := state8_at l [] (by simp; omega) hl hnil 0 0 1 (by omega) (by omega) (by omega)
  have s2 := state8_at l [] (by simp; omega) hl hnil 0 f 1 (by omega) hf (by omega)
  have p1 := st8_is l [] hl hnil 0 0 1 (by omega)
  have p2 := st8_is l [] hl hnil 0 f 1 (by omega)
  have hfo : (makeM (st8 l [] 0 0 1) (st8 l [] 0 f 1)).kind ≤ 1 ∧ (makeM (st8 l [] 0 0 1) (st8 l [] 0 f 1)).log = [] := by
    unfold st8
    have hj := jOf_le (runE (ops8 l [] (Int.tmod 0 20 + 2))).length f
    rw [jOf_0]
    exact make_fold (runE_good (ops8_ok _ hl hnil)) (by omega) (by omega) (by decide) hj.1 hj.2
  generalize st8 l [] 0 0 1 = s at *
  generalize st8 l [] 0 f 1 = t at *
  have m1 := p1.make_at p1
  have m2 := p1.make_at p2
  have a1 := p1.apply_at p2
  have a2 := p2.self_at
  have hself := make_self p1.is
  have hby := bytes_at ⟨0, 0, [], headM s⟩ (by simp) (by simp [headM])
  rw [bytes_self] at hby
  rw [hself] at m1
  clear p1 p2 hl hself
  generalize makeM s t = D2 at *
  generalize hD : (⟨0, 0, [], headM s⟩ : Diff) = D at *
  have k1 : (D.kind == 0) = true := by rw [← hD]; rfl
  have k2 : (((D.log.length : Nat) : Int) == 0) = true := by rw [← hD]; rfl
  have k3 : (D.from_ == 0) = true := by rw [← hD]; rfl
  have k4 : decide (D2.kind ≤ 1) = true := decide_eq_true hfo.1
  have k5 : (((D2.log.length : Nat) : Int) == 0) = true := by rw [hfo.2]; rfl
  clear hD
  have e0 : ((0 : Int) == 0) = true := by decide
  have e0' : (((0 : Nat) : Int) == 0) = true := by decide
  have en : (List.map Opr.d []) = [] := rfl
  rw [en] at s1 s2
  simp (config := {decide := true}) only [c_paddocklaw8_MergeSelf, known8_at, q1, s1, s2, m1, m2, a1, a2, hby, k1, k2, k3, k4, k5, e0, e0', guardR_und, Pk.EVL, keepT, enum, ↓reduceIte, ev, act, appT, callee, toDs, toD, loadA, storeA, subA, subD, updA, Eff.on, resA, resVs, resV, lk, finish, frzR, frzVs, frzV, fznR, fzns, fzn, lts, lt, ltO, List.all, pairsOk, indep, reduceCtorEq, Nat.reduceEqDiff, Nat.reduceAdd, Nat.reduceLeDiff, stb, thaws, List.drop, intOfA, binD, binI, unD, mmL, buildA, mkAgg, allD, behind, behind0, takeAt, frzAs, frzA, adoptR, adopt, isD, isD0, trim, List.take, binS, sliceA, bnd, zOk, elems, Nat.reduceBNe, inpl, Nat.reduceLT, Nat.reduceBEq, Nat.reduceSub, Nat.reduceMul, Int.reduceLT, Int.reduceLE, Int.reduceEq, Int.reduceToNat, Int.reduceNeg, thaw, nodup, refsV, adopts, Pk.TY_State, Pk.TY_Diff]
end Go.Proofs.Ytfajplmkfpdhfaa

/- The reference's difference. -/
import Derived.Test.YtfajplmkfpdhfaaMgA
import Derived.Test.YtfajplmkfpdhfaaPgS
set_option linter.all false
namespace Go.Proofs.Ytfajplmkfpdhfaa
open Pv Go Pk
set_option maxRecDepth 10000
set_option maxHeartbeats 2000000
def inM (a b : State) (i : Nat) : Bool := decide (a.tail = b.tail) || (a.log.take i).any (fun e => (e.since == b.tail.since) && (e.n == b.tail.n))
theorem inM_succ (a b : State) {i : Nat} {e : Entry} (h : a.log[i]? = some e) : inM a b (i + 1) = (inM a b i || ((e.since == b.tail.since) && (e.n == b.tail.n))) := by
  unfold inM
  rw [take_succ' h, List.any_append, Bool.or_assoc]
  simp
theorem tail_op {b : State} (h : isSt b = true) : b.tail.op = ⟨0, 0, 0, 0, 0, ⟨#[]⟩⟩ := by
  unfold isSt at h
  simp only [Bool.and_eq_true, decide_eq_true_eq] at h
  exact h.2.2.1
def findK (a : State) : Nat → Entry × Bool
  | k + 1 => match a.log[k]? with
    | some e => (e, true)
    | none => (Entry.zero, false)
  | 0 => (Entry.zero, false)
theorem find_of {a : State} {n : Int} {k : Nat} (ca : isSt a = true) (hp : placeS a n = some k) : findS a n = findK a k := by
  unfold findS plS
  rw [if_pos ca, hp]
  cases k <;> rfl
theorem shared_eq {a b : State} (ha : stOk a) (ca : isSt a = true) (cb : isSt b = true) : (inM a b a.log.length && ((uptoS a b.tail.n).2 && decide ((uptoS a b.tail.n).1 = b.base))) = standsM a b := by
  have hop := tail_op cb
  have hoa := tail_op ca
  unfold standsM
  have key : (uptoS a b.tail.n).2 = true → inM a b a.log.length = decide ((if (findS a b.tail.n).2 = true then (⟨(findS a b.tail.n).1.since, (findS a b.tail.n).1.n, ⟨0, 0, 0, 0, 0, ⟨#[]⟩⟩⟩ : Entry) else a.tail) = b.tail) := by
    intro hu
    unfold uptoS plS at hu
    rw [if_pos ca] at hu
    cases hp : placeS a b.tail.n with
    | none => rw [hp] at hu; simp at hu
    | some k =>
      obtain ⟨hn, hk⟩ := place_some ha ca hp
      have hnum := (chain_n ha.n (isSt_chain ca)).1
      unfold inM
      rw [List.take_length]
      have hfind := find_of ca hp
      cases k with
      | zero =>
        simp only [findK] at hfind
        rw [hfind, if_neg (by simp)]
        have : (a.log.any fun e => (e.since == b.tail.since) && (e.n == b.tail.n)) = false := by
          rw [List.any_eq_false]
          intro e he
          obtain ⟨j, hj, hje⟩ := List.mem_iff_getElem.1 he
          have := hnum j e (by rw [List.getElem?_eq_getElem hj, hje])
          have h2 : ¬ e.n = b.tail.n := by omega
          simp [h2]
        rw [this, Bool.or_false]
      | succ k =>
        obtain ⟨e, he⟩ : ∃ e, a.log[k]? = some e := ⟨a.log[k]'(by omega), List.getElem?_eq_getElem _⟩
        simp only [findK, he] at hfind
        rw [hfind, if_pos rfl]
        have hen := hnum k e he
        have h1 : ¬ a.tail = b.tail := fun h => by have := congrArg Entry.n h; omega
        have hbt : b.tail = ⟨b.tail.since, b.tail.n, ⟨0, 0, 0, 0, 0, ⟨#[]⟩⟩⟩ := by
          cases hb : b.tail with
          | mk s n o => rw [hb] at hop; simp only at hop; rw [hop]
        rw [decide_eq_false h1, Bool.false_or]
        by_cases hs : e.since = b.tail.since
        · have h3 : (a.log.any fun e => (e.since == b.tail.since) && (e.n == b.tail.n)) = true := by
            rw [List.any_eq_true]
            refine ⟨e, List.mem_of_getElem? he, ?_⟩
            have : e.n = b.tail.n := by omega
            simp [hs, this]
          rw [h3]
          symm
          rw [decide_eq_true_eq, hbt]
          have : e.n = b.tail.n := by omega
          simp only [hs, this]
        · have h3 : (a.log.any fun e => (e.since == b.tail.since) && (e.n == b.tail.n)) = false := by
            rw [List.any_eq_false]
            intro x hx
            obtain ⟨j, hj, hje⟩ := List.mem_iff_getElem.1 hx
            have hxj : a.log[j]? = some x := by rw [List.getElem?_eq_getElem hj, hje]
            have := hnum j x hxj
            by_cases e2 : x.n = b.tail.n
            · have : j = k := by omega
              rw [this, he] at hxj
              injection hxj with hxj
              simp [← hxj, hs]
            · simp [e2]
          rw [h3]
          symm
          rw [decide_eq_false_iff_not]
          intro h
          have h := congrArg Entry.since h
          exact hs h
  cases hu : (uptoS a b.tail.n).2 with
  | false => simp
  | true =>
    rw [key hu]
    cases decide ((if (findS a b.tail.n).2 = true then (⟨(findS a b.tail.n).1.since, (findS a b.tail.n).1.n, ⟨0, 0, 0, 0, 0, ⟨#[]⟩⟩⟩ : Entry) else a.tail) = b.tail) <;> cases decide ((uptoS a b.tail.n).1 = b.base) <;> rfl
theorem shared_at (a b : State) (ha : stFull a) (hl : a.log.length ≤ 1000) : evF C F_paddockref8_shared [.d (.agg a.cs), .d (.agg b.cs)] [] = some (.d (.b (inM a b a.log.length && ((uptoS a b.tail.n).2 && decide ((uptoS a b.tail.n).1 = b.base)))), []) := by
  rw [evF_code (rfl : C F_paddockref8_shared = some a_paddockref8_shared) _ _ rfl]
  have h2 := refupto_at a ha b.tail.n
  generalize uptoS a b.tail.n = U at *
  obtain ⟨u, uo⟩ := U
  simp only at h2 ⊢
  have hi0 : inM a b 0 = decide (a.tail = b.tail) := by unfold inM; simp
  simp (config := {decide := true}) only [c_paddockref8_shared, Pk.EVL, keepT, enum, ↓reduceIte, ev, act, appT, callee, toDs, toD, loadA, storeA, subA, subD, updA, Eff.on, resA, resVs, resV, lk, finish, frzR, frzVs, frzV, fznR, fzns, fzn, lts, lt, ltO, List.all, pairsOk, indep, reduceCtorEq, Nat.reduceEqDiff, Nat.reduceAdd, Nat.reduceLeDiff, stb, thaws, List.drop, intOfA, binD, binI, unD, mmL, buildA, mkAgg, allD, behind, behind0, takeAt, frzAs, frzA, adoptR, adopt, isD, isD0, trim, List.take, binS, sliceA, bnd, zOk, elems, Nat.reduceBNe, inpl, Nat.reduceLT, Nat.reduceBEq, Nat.reduceSub, Nat.reduceMul, Int.reduceLT, Int.reduceLE, Int.reduceEq, Int.reduceToNat, Int.reduceNeg, thaw, nodup, refsV, adopts, Pk.TY_State, Pk.TY_Entry]
  simp only [Option.bind_assoc]
  refine bind_run (loop_run (fun i T H => lk T 2 = .ptr 0 0 ∧ lk T 3 = .ptr 1 0 ∧ lk T 5 = .d (.b (inM a b i)) ∧ lk T 6 = .d (.i .i64 (i : Nat)) ∧ H = [.box (.d (.agg a.cs)), .box (.d (.agg b.cs))])
    (fun e T H => e = .exit 0 ∧ lk T 2 = .ptr 0 0 ∧ lk T 3 = .ptr 1 0 ∧ lk T 5 = .d (.b (inM a b a.log.length)) ∧ H = [.box (.d (.agg a.cs)), .box (.d (.agg b.cs))]) a.log.length ?_ ?_ a.log.length 0 _ _ (by omega) ⟨rfl, rfl, by rw [hi0]; rfl, rfl, rfl⟩) ?_
  · rintro i T H hi ⟨g2, g3, g5, g6, rfl⟩
    obtain ⟨e, he⟩ : ∃ e, a.log[i]? = some e := ⟨a.log[i]'hi, List.getElem?_eq_getElem _⟩
    have hx := list_idx Entry.d he
    have hd : decide ((i : Int) < ((a.log.length : Nat) : Int)) = true := by simp; omega
    have hw : IntKind.i64.wrap ((i : Int) + 1) = ((i + 1 : Nat) : Int) := wi64 (by omega)
    have b0 : (0 ≤ (i : Int)) = True := by simp
    have hs := inM_succ a b he
    have hE2 : e.op.cs.length = 6 := rfl
    have hE : e.cs = .i .u32 e.since :: .i .u32 e.n :: e.op.cs := rfl
    rcases Bool.eq_false_or_eq_true (inM a b i) with r | r
    · rw [r, Bool.true_or] at hs
      simp (config := {decide := true}) only [K_paddockref8_shared_0, l_paddockref8_shared_0, g2, g3, g5, g6, r, hd, hw, b0, hx, hE, hE2, guardR_und, Pk.EVL, keepT, enum, ↓reduceIte, ev, act, appT, callee, toDs, toD, loadA, storeA, subA, subD, updA, Eff.on, resA, resVs, resV, lk, finish, frzR, frzVs, frzV, fznR, fzns, fzn, lts, lt, ltO, List.all, pairsOk, indep, reduceCtorEq, Nat.reduceEqDiff, Nat.reduceAdd, Nat.reduceLeDiff, stb, thaws, List.drop, intOfA, binD, binI, unD, mmL, buildA, mkAgg, allD, behind, behind0, takeAt, frzAs, frzA, adoptR, adopt, isD, isD0, trim, List.take, binS, sliceA, bnd, zOk, elems, Nat.reduceBNe, inpl, Nat.reduceLT, Nat.reduceBEq, Nat.reduceSub, Nat.reduceMul, Int.reduceLT, Int.reduceLE, Int.reduceEq, Int.reduceToNat, Int.reduceNeg, thaw, nodup, refsV, adopts, Pk.TY_State, Pk.TY_Entry]
      refine ⟨_, _, _, rfl, ?_⟩
      exact .inl ⟨rfl, rfl, rfl, by rw [hs]; rfl, rfl, rfl⟩
    · rw [r, Bool.false_or] at hs
      rcases Bool.eq_false_or_eq_true (e.since == b.tail.since) with c1 | c1
      · rcases Bool.eq_false_or_eq_true (e.n == b.tail.n) with c2 | c2
        · rw [c1, c2] at hs
          simp (config := {decide := true}) only [K_paddockref8_shared_0, l_paddockref8_shared_0, g2, g3, g5, g6, r, c1, c2, hd, hw, b0, hx, hE, hE2, guardR_und, Pk.EVL, keepT, enum, ↓reduceIte, ev, act, appT, callee, toDs, toD, loadA, storeA, subA, subD, updA, Eff.on, resA, resVs, resV, lk, finish, frzR, frzVs, frzV, fznR, fzns, fzn, lts, lt, ltO, List.all, pairsOk, indep, reduceCtorEq, Nat.reduceEqDiff, Nat.reduceAdd, Nat.reduceLeDiff, stb, thaws, List.drop, intOfA, binD, binI, unD, mmL, buildA, mkAgg, allD, behind, behind0, takeAt, frzAs, frzA, adoptR, adopt, isD, isD0, trim, List.take, binS, sliceA, bnd, zOk, elems, Nat.reduceBNe, inpl, Nat.reduceLT, Nat.reduceBEq, Nat.reduceSub, Nat.reduceMul, Int.reduceLT, Int.reduceLE, Int.reduceEq, Int.reduceToNat, Int.reduceNeg, thaw, nodup, refsV, adopts, Pk.TY_State, Pk.TY_Entry]
          refine ⟨_, _, _, rfl, ?_⟩
          exact .inl ⟨rfl, rfl, rfl, by rw [hs]; rfl, rfl, rfl⟩
        · rw [c1, c2] at hs
          simp (config := {decide := true}) only [K_paddockref8_shared_0, l_paddockref8_shared_0, g2, g3, g5, g6, r, c1, c2, hd, hw, b0, hx, hE, hE2, guardR_und, Pk.EVL, keepT, enum, ↓reduceIte, ev, act, appT, callee, toDs, toD, loadA, storeA, subA, subD, updA, Eff.on, resA, resVs, resV, lk, finish, frzR, frzVs, frzV, fznR, fzns, fzn, lts, lt, ltO, List.all, pairsOk, indep, reduceCtorEq, Nat.reduceEqDiff, Nat.reduceAdd, Nat.reduceLeDiff, stb, thaws, List.drop, intOfA, binD, binI, unD, mmL, buildA, mkAgg, allD, behind, behind0, takeAt, frzAs, frzA, adoptR, adopt, isD, isD0, trim, List.take, binS, sliceA, bnd, zOk, elems, Nat.reduceBNe, inpl, Nat.reduceLT, Nat.reduceBEq, Nat.reduceSub, Nat.reduceMul, Int.reduceLT, Int.reduceLE, Int.reduceEq, Int.reduceToNat, Int.reduceNeg, thaw, nodup, refsV, adopts, Pk.TY_State, Pk.TY_Entry]
          refine ⟨_, _, _, rfl, ?_⟩
          exact .inl ⟨rfl, rfl, rfl, by rw [hs]; rfl, rfl, rfl⟩
      · rw [c1, Bool.false_and] at hs
        simp (config := {decide := true}) only [K_paddockref8_shared_0, l_paddockref8_shared_0, g2, g3, g5, g6, r, c1, hd, hw, b0, hx, hE, hE2, guardR_und, Pk.EVL, keepT, enum, ↓reduceIte, ev, act, appT, callee, toDs, toD, loadA, storeA, subA, subD, updA, Eff.on, resA, resVs, resV, lk, finish, frzR, frzVs, frzV, fznR, fzns, fzn, lts, lt, ltO, List.all, pairsOk, indep, reduceCtorEq, Nat.reduceEqDiff, Nat.reduceAdd, Nat.reduceLeDiff, stb, thaws, List.drop, intOfA, binD, binI, unD, mmL, buildA, mkAgg, allD, behind, behind0, takeAt, frzAs, frzA, adoptR, adopt, isD, isD0, trim, List.take, binS, sliceA, bnd, zOk, elems, Nat.reduceBNe, inpl, Nat.reduceLT, Nat.reduceBEq, Nat.reduceSub, Nat.reduceMul, Int.reduceLT, Int.reduceLE, Int.reduceEq, Int.reduceToNat, Int.reduceNeg, thaw, nodup, refsV, adopts, Pk.TY_State, Pk.TY_Entry]
        refine ⟨_, _, _, rfl, ?_⟩
        exact .inl ⟨rfl, rfl, rfl, by rw [hs]; rfl, rfl, rfl⟩
  · rintro T H ⟨g2, g3, g5, g6, rfl⟩
    have hd : decide (((a.log.length : Nat) : Int) < ((a.log.length : Nat) : Int)) = false := by simp
    simp (config := {decide := true}) only [K_paddockref8_shared_0, l_paddockref8_shared_0, g2, g3, g5, g6, hd, Pk.EVL, keepT, enum, ↓reduceIte, ev, act, appT, callee, toDs, toD, loadA, storeA, subA, subD, updA, Eff.on, resA, resVs, resV, lk, finish, frzR, frzVs, frzV, fznR, fzns, fzn, lts, lt, ltO, List.all, pairsOk, indep, reduceCtorEq, Nat.reduceEqDiff, Nat.reduceAdd, Nat.reduceLeDiff, stb, thaws, List.drop, intOfA, binD, binI, unD, mmL, buildA, mkAgg, allD, behind, behind0, takeAt, frzAs, frzA, adoptR, adopt, isD, isD0, trim, List.take, binS, sliceA, bnd, zOk, elems, Nat.reduceBNe, inpl, Nat.reduceLT, Nat.reduceBEq, Nat.reduceSub, Nat.reduceMul, Int.reduceLT, Int.reduceLE, Int.reduceEq, Int.reduceToNat, Int.reduceNeg, thaw, nodup, refsV, adopts, Pk.TY_State, Pk.TY_Entry]
    refine ⟨_, _, _, rfl, ?_⟩
    exact ⟨by simp, rfl, rfl, rfl, rfl, rfl⟩
  rintro e T H ⟨rfl, g2, g3, g5, rfl⟩
  rcases Bool.eq_false_or_eq_true (inM a b a.log.length) with r | r
  case inr =>
    rw [r, Bool.false_and]
    simp (config := {decide := true}) only [g2, g3, g5, r, guardR_und, Pk.EVL, keepT, enum, ↓reduceIte, ev, act, appT, callee, toDs, toD, loadA, storeA, subA, subD, updA, Eff.on, resA, resVs, resV, lk, finish, frzR, frzVs, frzV, fznR, fzns, fzn, lts, lt, ltO, List.all, pairsOk, indep, reduceCtorEq, Nat.reduceEqDiff, Nat.reduceAdd, Nat.reduceLeDiff, stb, thaws, List.drop, intOfA, binD, binI, unD, mmL, buildA, mkAgg, allD, behind, behind0, takeAt, frzAs, frzA, adoptR, adopt, isD, isD0, trim, List.take, binS, sliceA, bnd, zOk, elems, Nat.reduceBNe, inpl, Nat.reduceLT, Nat.reduceBEq, Nat.reduceSub, Nat.reduceMul, Int.reduceLT, Int.reduceLE, Int.reduceEq, Int.reduceToNat, Int.reduceNeg, thaw, nodup, refsV, adopts, Pk.TY_State, Pk.TY_Entry, Pk.TY_Base]
  rw [r, Bool.true_and]
  cases uo with
  | false => simp (config := {decide := true}) only [g2, g3, g5, r, h2, guardR_und, Pk.EVL, keepT, enum, ↓reduceIte, ev, act, appT, callee, toDs, toD, loadA, storeA, subA, subD, updA, Eff.on, resA, resVs, resV, lk, finish, frzR, frzVs, frzV, fznR, fzns, fzn, lts, lt, ltO, List.all, pairsOk, indep, reduceCtorEq, Nat.reduceEqDiff, Nat.reduceAdd, Nat.reduceLeDiff, stb, thaws, List.drop, intOfA, binD, binI, unD, mmL, buildA, mkAgg, allD, behind, behind0, takeAt, frzAs, frzA, adoptR, adopt, isD, isD0, trim, List.take, binS, sliceA, bnd, zOk, elems, Nat.reduceBNe, inpl, Nat.reduceLT, Nat.reduceBEq, Nat.reduceSub, Nat.reduceMul, Int.reduceLT, Int.reduceLE, Int.reduceEq, Int.reduceToNat, Int.reduceNeg, thaw, nodup, refsV, adopts, Pk.TY_State, Pk.TY_Entry, Pk.TY_Base]
  | true => simp (config := {decide := true}) only [g2, g3, g5, r, h2, guardR_und, Pk.EVL, keepT, enum, ↓reduceIte, ev, act, appT, callee, toDs, toD, loadA, storeA, subA, subD, updA, Eff.on, resA, resVs, resV, lk, finish, frzR, frzVs, frzV, fznR, fzns, fzn, lts, lt, ltO, List.all, pairsOk, indep, reduceCtorEq, Nat.reduceEqDiff, Nat.reduceAdd, Nat.reduceLeDiff, stb, thaws, List.drop, intOfA, binD, binI, unD, mmL, buildA, mkAgg, allD, behind, behind0, takeAt, frzAs, frzA, adoptR, adopt, isD, isD0, trim, List.take, binS, sliceA, bnd, zOk, elems, Nat.reduceBNe, inpl, Nat.reduceLT, Nat.reduceBEq, Nat.reduceSub, Nat.reduceMul, Int.reduceLT, Int.reduceLE, Int.reduceEq, Int.reduceToNat, Int.reduceNeg, thaw, nodup, refsV, adopts, Pk.TY_State, Pk.TY_Entry, Pk.TY_Base]

/-! the reference's difference -/
def mkE (k f : Int) (v : AV) (w : State) : List AV := .d (.i .i64 k) :: .d (.i .u32 f) :: v :: State.withV w .nilS
theorem mkE_0 (s : State) : upd (upd State.zeroA 0 [.d (.i .u32 s.started)]) 40 (List.map AV.d s.tail.cs) = State.withV (headM s) .nilS := rfl
theorem mkE_00 (x : AV) : (upd State.zeroA 0 [x]).length = 49 := rfl
theorem mkE_1 (w : State) : allD (State.withV w .nilS) = none := rfl
theorem mkE_b (w : State) : upd Diff.zeroA 3 (State.withV w .nilS) = mkE 0 0 .nilS w := rfl
theorem mkE_len (k f : Int) (v : AV) (w : State) : (mkE k f v w).length = 52 := rfl
theorem mkE_w (k f : Int) (v : AV) (w : State) : upd Diff.zeroA 0 (mkE k f v w) = mkE k f v w := rfl
theorem mkE_all (k f : Int) (v : AV) (w : State) : subL (mkE k f v w) 0 52 = mkE k f v w := rfl
theorem mkE_n (k f : Int) (w : State) : allD (mkE k f .nilS w) = none := rfl
theorem mkE_v (k f : Int) (o g z a l : Nat) (w : State) : allD (mkE k f (.view o g z a l) w) = none := rfl
theorem mkE_k (k f k' : Int) (v : AV) (w : State) : upd (mkE k f v w) 0 [.d (.i .i64 k')] = mkE k' f v w := rfl
theorem mkE_f (k f f' : Int) (v : AV) (w : State) : upd (mkE k f v w) 1 [.d (.i .u32 f')] = mkE k f' v w := rfl
theorem mkE_l (k f : Int) (v v' : AV) (w : State) : upd (mkE k f v w) 2 [v'] = mkE k f v' w := rfl
theorem mkE_s (k f : Int) (v : AV) (w s : State) : upd (mkE k f v w) 3 (s.cs.map .d) = mkD k f v s := rfl
theorem mkE_toDs (H : Heap) (k f : Int) (v : AV) (w : State) : toDs H (mkE k f v w) = (toD H v).map fun p => (.i .i64 k :: .i .u32 f :: p.1 :: (w.cs.take 48 ++ [.sl []]), p.2) := by
  unfold mkE
  simp only [toDs, toD, State.withV_toDs]
  cases toD H v <;> rfl
theorem mkE_h (s : State) : (State.cs (headM s)).take 48 ++ [.sl []] = State.cs (headM s) := rfl
theorem mkE_lts (n : Nat) (k f : Int) (v : AV) (w : State) : lts n (mkE k f v w) = lt n v := by
  unfold mkE
  simp only [lts, lt, State.withV_lts, Bool.true_and, Bool.and_true]
theorem refmake_at (a b : State) (ha : stFull a) (hb : stFull b) (hsh : evF C F_paddockref8_shared [.d (.agg a.cs), .d (.agg b.cs)] [] = some (.d (.b (inM a b a.log.length && ((uptoS a b.tail.n).2 && decide ((uptoS a b.tail.n).1 = b.base)))), [])) : evF C F_paddockref8_Make [.d (.agg a.cs), .d (.agg b.cs)] [] = some (.d (.agg (makeM a b).cs), []) := by
  rw [evF_code (rfl : C F_paddockref8_Make = some a_paddockref8_Make) _ _ rfl]
  have h1 := refis_st a ha
  have h2 := refis_st b hb
  unfold makeM
  rcases Bool.eq_false_or_eq_true (isSt a) with c1 | c1
  case inr =>
    rw [if_neg (by rw [c1]; simp)]
    simp (config := {decide := true}) only [c_paddockref8_Make, h1, c1, guardR_und, Pk.EVL, keepT, enum, ↓reduceIte, ev, act, appT, callee, toDs, toD, loadA, storeA, subA, subD, updA, Eff.on, resA, resVs, resV, lk, finish, frzR, frzVs, frzV, fznR, fzns, fzn, lts, lt, ltO, List.all, pairsOk, indep, reduceCtorEq, Nat.reduceEqDiff, Nat.reduceAdd, Nat.reduceLeDiff, stb, thaws, List.drop, intOfA, binD, binI, unD, mmL, buildA, mkAgg, allD, behind, behind0, takeAt, frzAs, frzA, adoptR, adopt, isD, isD0, trim, List.take, binS, sliceA, bnd, zOk, elems, Nat.reduceBNe, inpl, Nat.reduceLT, Nat.reduceBEq, Nat.reduceSub, Nat.reduceMul, Int.reduceLT, Int.reduceLE, Int.reduceEq, Int.reduceToNat, Int.reduceNeg, thaw, nodup, refsV, adopts, Pk.TY_State, Pk.TY_Diff]
  rcases Bool.eq_false_or_eq_true (isSt b) with c2 | c2
  case inr =>
    rw [if_neg (by rw [c2]; simp)]
    simp (config := {decide := true}) only [c_paddockref8_Make, h1, h2, c1, c2, guardR_und, Pk.EVL, keepT, enum, ↓reduceIte, ev, act, appT, callee, toDs, toD, loadA, storeA, subA, subD, updA, Eff.on, resA, resVs, resV, lk, finish, frzR, frzVs, frzV, fznR, fzns, fzn, lts, lt, ltO, List.all, pairsOk, indep, reduceCtorEq, Nat.reduceEqDiff, Nat.reduceAdd, Nat.reduceLeDiff, stb, thaws, List.drop, intOfA, binD, binI, unD, mmL, buildA, mkAgg, allD, behind, behind0, takeAt, frzAs, frzA, adoptR, adopt, isD, isD0, trim, List.take, binS, sliceA, bnd, zOk, elems, Nat.reduceBNe, inpl, Nat.reduceLT, Nat.reduceBEq, Nat.reduceSub, Nat.reduceMul, Int.reduceLT, Int.reduceLE, Int.reduceEq, Int.reduceToNat, Int.reduceNeg, thaw, nodup, refsV, adopts, Pk.TY_State, Pk.TY_Diff]
  rw [if_pos (by rw [c1, c2]; rfl)]
  have l1 := isSt_len c1
  have l2 := isSt_len c2
  have hsm := refsame_at { a with started := b.started } b (by show a.log.length ≤ 1000; omega)
  by_cases c3 : ({ a with started := b.started } : State) = b
  · rw [if_pos c3]
    rw [decide_eq_true c3] at hsm
    simp (config := {decide := true}) only [c_paddockref8_Make, h1, h2, c1, c2, hsm, mkE_00, mkE_0, mkE_1, mkE_b, mkE_len, mkE_w, mkE_all, mkE_n, mkE_toDs, mkE_h, mkE_lts, mkD_fold0, guardR_und, Pk.EVL, keepT, enum, ↓reduceIte, ev, act, appT, callee, toDs, toD, loadA, storeA, subA, subD, updA, Eff.on, resA, resVs, resV, lk, finish, frzR, frzVs, frzV, fznR, fzns, fzn, lts, lt, ltO, List.all, pairsOk, indep, reduceCtorEq, Nat.reduceEqDiff, Nat.reduceAdd, Nat.reduceLeDiff, stb, thaws, List.drop, intOfA, binD, binI, unD, mmL, buildA, mkAgg, allD, behind, behind0, takeAt, frzAs, frzA, adoptR, adopt, isD, isD0, trim, List.take, binS, sliceA, bnd, zOk, elems, Nat.reduceBNe, inpl, Nat.reduceLT, Nat.reduceBEq, Nat.reduceSub, Nat.reduceMul, Int.reduceLT, Int.reduceLE, Int.reduceEq, Int.reduceToNat, Int.reduceNeg, thaw, nodup, refsV, adopts, Pk.TY_State, Pk.TY_Diff, Pk.TY_Entry]
  rw [if_neg c3]
  rw [decide_eq_false c3] at hsm
  have hst := hsh
  rw [shared_eq ha.ok c1 c2] at hst
  rcases Bool.eq_false_or_eq_true (standsM a b) with c4 | c4
  case inr =>
    rw [if_neg (by rw [c4]; simp)]
    simp (config := {decide := true}) only [c_paddockref8_Make, h1, h2, c1, c2, hsm, hst, c4, mkE_00, mkE_0, mkE_1, mkE_b, mkE_len, mkE_w, mkE_all, mkE_n, mkE_k, mkE_f, mkE_l, mkE_s, mkE_lts, mkD_len, mkD_w, mkD_all, mkD_n, mkD_toDs, mkD_fold0, mkD_lts, guardR_und, Pk.EVL, keepT, enum, ↓reduceIte, ev, act, appT, callee, toDs, toD, loadA, storeA, subA, subD, updA, Eff.on, resA, resVs, resV, lk, finish, frzR, frzVs, frzV, fznR, fzns, fzn, lts, lt, ltO, List.all, pairsOk, indep, reduceCtorEq, Nat.reduceEqDiff, Nat.reduceAdd, Nat.reduceLeDiff, stb, thaws, List.drop, intOfA, binD, binI, unD, mmL, buildA, mkAgg, allD, behind, behind0, takeAt, frzAs, frzA, adoptR, adopt, isD, isD0, trim, List.take, binS, sliceA, bnd, zOk, elems, Nat.reduceBNe, inpl, Nat.reduceLT, Nat.reduceBEq, Nat.reduceSub, Nat.reduceMul, Int.reduceLT, Int.reduceLE, Int.reduceEq, Int.reduceToNat, Int.reduceNeg, thaw, nodup, refsV, adopts, Pk.TY_State, Pk.TY_Diff, Pk.TY_Entry]
  rw [if_pos c4]
  have hnum := (chain_n hb.ok.n (isSt_chain c2)).1
  simp (config := {decide := true}) only [c_paddockref8_Make, h1, h2, c1, c2, hsm, hst, c4, mkE_00, mkE_0, mkE_1, mkE_b, mkE_len, mkE_w, mkE_all, mkE_n, mkE_k, mkE_f, guardR_und, Pk.EVL, keepT, enum, ↓reduceIte, ev, act, appT, callee, toDs, toD, loadA, storeA, subA, subD, updA, Eff.on, resA, resVs, resV, lk, finish, frzR, frzVs, frzV, fznR, fzns, fzn, lts, lt, ltO, List.all, pairsOk, indep, reduceCtorEq, Nat.reduceEqDiff, Nat.reduceAdd, Nat.reduceLeDiff, stb, thaws, List.drop, intOfA, binD, binI, unD, mmL, buildA, mkAgg, allD, behind, behind0, takeAt, frzAs, frzA, adoptR, adopt, isD, isD0, trim, List.take, binS, sliceA, bnd, zOk, elems, Nat.reduceBNe, inpl, Nat.reduceLT, Nat.reduceBEq, Nat.reduceSub, Nat.reduceMul, Int.reduceLT, Int.reduceLE, Int.reduceEq, Int.reduceToNat, Int.reduceNeg, thaw, nodup, refsV, adopts, Pk.TY_State, Pk.TY_Diff, Pk.TY_Entry]
  simp only [Option.bind_assoc]
  refine bind_run (loop_run (fun i T H => lk T 2 = .ptr 0 0 ∧ lk T 3 = .ptr 1 0 ∧ lk T 4 = .ptr 2 0 ∧ lk T 5 = .ptr 3 0 ∧ lk T 7 = .d (.i .i64 (i : Nat)) ∧ (∃ J, H = .box (.d (.agg a.cs)) :: .box (.d (.agg b.cs)) :: .box (.agg Diff.zeroA) :: .box (.agg (mkE 1 (b.tail.n + i) .nilS (headM b))) :: .box (.d (.agg { a with started := b.started }.cs)) :: J) ∧ commonL a b.tail.n b.log = commonL a (b.tail.n + i) (b.log.drop i))
    (fun e T H => e = .exit 1 ∧ lk T 3 = .ptr 1 0 ∧ lk T 4 = .ptr 2 0 ∧ lk T 5 = .ptr 3 0 ∧ ∃ j : Nat, j ≤ b.log.length ∧ lk T 7 = .d (.i .i64 (j : Nat)) ∧ (∃ J, H = .box (.d (.agg a.cs)) :: .box (.d (.agg b.cs)) :: .box (.agg Diff.zeroA) :: .box (.agg (mkE 1 (b.tail.n + j) .nilS (headM b))) :: .box (.d (.agg { a with started := b.started }.cs)) :: J) ∧ commonL a b.tail.n b.log = b.tail.n + j) b.log.length ?_ ?_ b.log.length 0 _ _ (by omega) ⟨rfl, rfl, rfl, rfl, rfl, ⟨[], by rw [Int.natCast_zero, Int.add_zero]⟩, by simp⟩) ?_
  · rintro i T H hi ⟨g2, g3, g4, g5, g7, ⟨J, rfl⟩, hc⟩
    obtain ⟨e, he⟩ : ∃ e, b.log[i]? = some e := ⟨b.log[i]'hi, List.getElem?_eq_getElem _⟩
    have hx := list_idx Entry.d he
    have hen := hnum i e he
    have hd : decide ((i : Int) < ((b.log.length : Nat) : Int)) = true := by simp; omega
    have hw : IntKind.i64.wrap ((i : Int) + 1) = ((i + 1 : Nat) : Int) := wi64 (by omega)
    have b0 : (0 ≤ (i : Int)) = True := by simp
    have hdr : b.log.drop i = e :: b.log.drop (i + 1) := by
      rw [List.drop_eq_getElem_cons hi]
      congr 1
      exact (List.getElem?_eq_some_iff.1 he).2
    rw [hdr] at hc
    simp only [commonL] at hc
    have hf := reffind_at a ha e.n (hb.log e (List.mem_of_getElem? he)).2.1 (by omega)
    have hh : hasE a e = ((findS a e.n).2 && decide ((findS a e.n).1 = e)) := rfl
    generalize hFF : findS a e.n = F at *
    obtain ⟨f, fo⟩ := F
    simp only at hf hh
    clear hFF
    cases fo with
    | false =>
      rw [hh, if_neg (by simp)] at hc
      simp (config := {decide := true}) only [K_paddockref8_Make_0, l_paddockref8_Make_0, g2, g3, g4, g5, g7, hd, hw, b0, hx, hf, mkE_lts, guardR_und, Pk.EVL, keepT, enum, ↓reduceIte, ev, act, appT, callee, toDs, toD, loadA, storeA, subA, subD, updA, Eff.on, resA, resVs, resV, lk, finish, frzR, frzVs, frzV, fznR, fzns, fzn, lts, lt, ltO, List.all, pairsOk, indep, reduceCtorEq, Nat.reduceEqDiff, Nat.reduceAdd, Nat.reduceLeDiff, stb, thaws, List.drop, intOfA, binD, binI, unD, mmL, buildA, mkAgg, allD, behind, behind0, takeAt, frzAs, frzA, adoptR, adopt, isD, isD0, trim, List.take, binS, sliceA, bnd, zOk, elems, Nat.reduceBNe, inpl, Nat.reduceLT, Nat.reduceBEq, Nat.reduceSub, Nat.reduceMul, Int.reduceLT, Int.reduceLE, Int.reduceEq, Int.reduceToNat, Int.reduceNeg, thaw, nodup, refsV, adopts, Pk.TY_State, Pk.TY_Entry]
      refine ⟨_, _, _, rfl, ?_⟩
      exact .inr ⟨by simp, rfl, rfl, rfl, rfl, i, by omega, rfl, ⟨_, rfl⟩, hc⟩
    | true =>
      rcases Bool.eq_false_or_eq_true (decide (f = e)) with c | c
      · rw [hh, c, if_pos (show (true && true) = true from rfl)] at hc
        have hfe := of_decide_eq_true c
        subst hfe
        have hn2 : f.n = b.tail.n + ((i + 1 : Nat) : Int) := by omega
        simp (config := {decide := true}) only [K_paddockref8_Make_0, l_paddockref8_Make_0, g2, g3, g4, g5, g7, hd, hw, b0, hx, hf, mkE_lts, c, mkE_len, mkE_f, mkE_n, guardR_und, Pk.EVL, keepT, enum, ↓reduceIte, ev, act, appT, callee, toDs, toD, loadA, storeA, subA, subD, updA, Eff.on, resA, resVs, resV, lk, finish, frzR, frzVs, frzV, fznR, fzns, fzn, lts, lt, ltO, List.all, pairsOk, indep, reduceCtorEq, Nat.reduceEqDiff, Nat.reduceAdd, Nat.reduceLeDiff, stb, thaws, List.drop, intOfA, binD, binI, unD, mmL, buildA, mkAgg, allD, behind, behind0, takeAt, frzAs, frzA, adoptR, adopt, isD, isD0, trim, List.take, binS, sliceA, bnd, zOk, elems, Nat.reduceBNe, inpl, Nat.reduceLT, Nat.reduceBEq, Nat.reduceSub, Nat.reduceMul, Int.reduceLT, Int.reduceLE, Int.reduceEq, Int.reduceToNat, Int.reduceNeg, thaw, nodup, refsV, adopts, Pk.TY_State, Pk.TY_Entry]
        refine ⟨_, _, _, rfl, ?_⟩
        exact .inl ⟨rfl, rfl, rfl, rfl, rfl, rfl, ⟨_, by rw [hn2]⟩, by rw [hc, hn2]⟩
      · rw [hh, c, if_neg (by simp)] at hc
        simp (config := {decide := true}) only [K_paddockref8_Make_0, l_paddockref8_Make_0, g2, g3, g4, g5, g7, hd, hw, b0, hx, hf, mkE_lts, c, guardR_und, Pk.EVL, keepT, enum, ↓reduceIte, ev, act, appT, callee, toDs, toD, loadA, storeA, subA, subD, updA, Eff.on, resA, resVs, resV, lk, finish, frzR, frzVs, frzV, fznR, fzns, fzn, lts, lt, ltO, List.all, pairsOk, indep, reduceCtorEq, Nat.reduceEqDiff, Nat.reduceAdd, Nat.reduceLeDiff, stb, thaws, List.drop, intOfA, binD, binI, unD, mmL, buildA, mkAgg, allD, behind, behind0, takeAt, frzAs, frzA, adoptR, adopt, isD, isD0, trim, List.take, binS, sliceA, bnd, zOk, elems, Nat.reduceBNe, inpl, Nat.reduceLT, Nat.reduceBEq, Nat.reduceSub, Nat.reduceMul, Int.reduceLT, Int.reduceLE, Int.reduceEq, Int.reduceToNat, Int.reduceNeg, thaw, nodup, refsV, adopts, Pk.TY_State, Pk.TY_Entry]
        refine ⟨_, _, _, rfl, ?_⟩
        exact .inr ⟨by simp, rfl, rfl, rfl, rfl, i, by omega, rfl, ⟨_, rfl⟩, hc⟩
  · rintro T H ⟨g2, g3, g4, g5, g7, ⟨J, rfl⟩, hc⟩
    rw [List.drop_length] at hc
    simp only [commonL] at hc
    have hd : decide (((b.log.length : Nat) : Int) < ((b.log.length : Nat) : Int)) = false := by simp
    simp (config := {decide := true}) only [K_paddockref8_Make_0, l_paddockref8_Make_0, g2, g3, g4, g5, g7, hd, mkE_lts, Pk.EVL, keepT, enum, ↓reduceIte, ev, act, appT, callee, toDs, toD, loadA, storeA, subA, subD, updA, Eff.on, resA, resVs, resV, lk, finish, frzR, frzVs, frzV, fznR, fzns, fzn, lts, lt, ltO, List.all, pairsOk, indep, reduceCtorEq, Nat.reduceEqDiff, Nat.reduceAdd, Nat.reduceLeDiff, stb, thaws, List.drop, intOfA, binD, binI, unD, mmL, buildA, mkAgg, allD, behind, behind0, takeAt, frzAs, frzA, adoptR, adopt, isD, isD0, trim, List.take, binS, sliceA, bnd, zOk, elems, Nat.reduceBNe, inpl, Nat.reduceLT, Nat.reduceBEq, Nat.reduceSub, Nat.reduceMul, Int.reduceLT, Int.reduceLE, Int.reduceEq, Int.reduceToNat, Int.reduceNeg, thaw, nodup, refsV, adopts, Pk.TY_State, Pk.TY_Entry]
    refine ⟨_, _, _, rfl, ?_⟩
    exact ⟨by simp, rfl, rfl, rfl, rfl, b.log.length, by omega, rfl, ⟨_, rfl⟩, hc⟩
  rintro e T H ⟨rfl, g3, g4, g5, j, hj, g7, ⟨J, rfl⟩, hc⟩
  have hJ : ∀ x : Ob, (J ++ [x])[J.length]? = some x := fun x => by simp
  have hto : (commonL a b.tail.n b.log - b.tail.n).toNat = j := by rw [hc]; omega
  rw [hto, hc]
  have b0 : (0 ≤ (j : Int)) = True := by simp
  have b1 : ((j : Int) ≤ ((b.log.length : Nat) : Int)) = True := by simp; omega
  have htl : List.take b.log.length (b.log.map Entry.d) = b.log.map Entry.d := List.take_of_length_le (by simp)
  have hdr : List.drop j (b.log.map Entry.d) = (b.log.drop j).map Entry.d := by rw [List.map_drop]
  have hdl : (b.log.drop j).length = b.log.length - j := List.length_drop
  have htk : List.take (b.log.length - j) ((b.log.drop j).map Entry.d) = (b.log.drop j).map Entry.d := List.take_of_length_le (by simp)
  have hsb : subL ((b.log.drop j).map Entry.d) 0 (b.log.length - j) = (b.log.drop j).map Entry.d := htk
  have hlim : (b.log.length - j ≤ LIM) = True := by
    have : b.log.length - j ≤ LIM := by unfold LIM; omega
    simp [this]
  simp (config := {decide := true}) only [g3, g4, g5, g7, hJ, b0, b1, htl, hdr, hdl, htk, hsb, hlim, elems, Int.le_refl, or_true, mkE_len, mkE_w, mkE_all, mkE_n, mkE_v, mkE_l, mkE_toDs, mkE_h, mkE_lts, mkD_fold, guardR_und, Pk.EVL, keepT, enum, ↓reduceIte, ev, act, appT, callee, toDs, toD, loadA, storeA, subA, subD, updA, Eff.on, resA, resVs, resV, lk, finish, frzR, frzVs, frzV, fznR, fzns, fzn, lts, lt, ltO, List.all, pairsOk, indep, reduceCtorEq, Nat.reduceEqDiff, Nat.reduceAdd, Nat.reduceLeDiff, stb, thaws, List.drop, intOfA, binD, binI, unD, mmL, buildA, mkAgg, allD, behind, behind0, takeAt, frzAs, frzA, adoptR, adopt, isD, isD0, trim, List.take, binS, sliceA, bnd, zOk, elems, Nat.reduceBNe, inpl, Nat.reduceLT, Nat.reduceBEq, Nat.reduceSub, Nat.reduceMul, Int.reduceLT, Int.reduceLE, Int.reduceEq, Int.reduceToNat, Int.reduceNeg, thaw, nodup, refsV, adopts, Pk.TY_State, Pk.TY_Diff, Pk.TY_Entry]
theorem full_zero : stFull State.zero := ⟨by decide, by intro e he; simp [State.zero] at he⟩
theorem folded_full {s : State} (hs : stFull s) (c : isSt s = true) {k : Nat} (hk : k ≤ s.log.length) : stFull (foldedS s k) := by
  have h1 := folded_tail hs.ok c hk
  have h2 := last_n hs.ok c
  have h3 := hs.n
  exact ⟨by omega, fun e he => hs.log e (List.mem_of_mem_drop he)⟩
theorem tailS_full {s : State} (hs : stFull s) (n : Int) : stFull (tailS s n).1 := by
  unfold tailS
  split
  · rename_i c
    split
    · exact full_zero
    · split
      · rename_i k hp
        exact folded_full hs c (place_some hs.ok c hp).2
      · exact full_zero
  · exact full_zero
theorem cutS_full {s : State} (hs : stFull s) (n : Int) : stFull (cutS s n).1 := by
  unfold cutS
  split
  · split
    · exact ⟨hs.n, fun e he => hs.log e (List.mem_of_mem_take he)⟩
    · exact full_zero
  · exact full_zero
theorem addS_full {s : State} {e : Entry} (hs : stFull s) (he : e.ok) : stFull (addS s e).1 := by
  refine ⟨(addS_stok hs.ok he.2.2).n, ?_⟩
  unfold addS
  split
  · intro x hx
    have hx : x ∈ s.log ++ [e] := List.mem_of_mem_drop hx
    rcases List.mem_append.1 hx with hx | hx
    · exact hs.log x hx
    · simp only [List.mem_singleton] at hx
      rw [hx]; exact he
  · exact full_zero.log
theorem addedM_full : ∀ {l : List Entry} {s : State}, stFull s → (∀ e ∈ l, e.ok) → stFull (addedM s l).1
  | [], s, hs, _ => hs
  | e :: l, s, hs, ho => by
    simp only [addedM]
    split
    · exact addedM_full (addS_full hs (ho e (by simp))) fun x hx => ho x (by simp [hx])
    · exact full_zero
theorem midM_full {a : State} {d : Diff} (ha : stFull a) (hd : ∀ e ∈ d.log, e.ok) : stFull (midM a d).1 := by
  unfold midM
  split
  · split
    · exact addedM_full (cutS_full ha _) hd
    · exact full_zero
  · exact ha
theorem refapply_at (a : State) (d : Diff) (ha : stFull a) (hd : ∀ e ∈ d.log, e.ok) (hw : stFull d.whole) (hl : d.log.length ≤ 100000) : evF C F_paddockref8_Apply [.d (.agg a.cs), .d (.agg d.cs)] [] = some (.tup [.d (.agg (applyM a d).1.cs), .d (.b ((applyM a d).2 == 0))], []) := by
  rw [evF_code (rfl : C F_paddockref8_Apply = some a_paddockref8_Apply) _ _ rfl]
  have h1 := refis_st a ha
  have nb : ∀ x y : Int, (x != y) = !(x == y) := fun _ _ => rfl
  unfold applyM
  have hf : formD d = !(decide (d.kind < 0) || (decide (d.kind > 2) || ((!(d.kind == 1)) && (decide ((d.log.length : Int) > 0) || !(d.from_ == 0))))) := rfl
  have v0 : ((80 : Int) == 0) = false := by decide
  have v1 : ((0 : Int) == 0) = true := by decide
  have bad : (isSt a && formD d) = false → evF C F_paddockref8_Apply [.d (.agg a.cs), .d (.agg d.cs)] [] = some (.tup [.d (.agg State.zero.cs), .d (.b false)], []) := by
    intro h
    rw [evF_code (rfl : C F_paddockref8_Apply = some a_paddockref8_Apply) _ _ rfl]
    rcases Bool.eq_false_or_eq_true (isSt a) with c1 | c1
    case inr => simp (config := {decide := true}) only [c_paddockref8_Apply, h1, c1, guardR_und, Pk.EVL, keepT, enum, ↓reduceIte, ev, act, appT, callee, toDs, toD, loadA, storeA, subA, subD, updA, Eff.on, resA, resVs, resV, lk, finish, frzR, frzVs, frzV, fznR, fzns, fzn, lts, lt, ltO, List.all, pairsOk, indep, reduceCtorEq, Nat.reduceEqDiff, Nat.reduceAdd, Nat.reduceLeDiff, stb, thaws, List.drop, intOfA, binD, binI, unD, mmL, buildA, mkAgg, allD, behind, behind0, takeAt, frzAs, frzA, adoptR, adopt, isD, isD0, trim, List.take, binS, sliceA, bnd, zOk, elems, Nat.reduceBNe, inpl, Nat.reduceLT, Nat.reduceBEq, Nat.reduceSub, Nat.reduceMul, Int.reduceLT, Int.reduceLE, Int.reduceEq, Int.reduceToNat, Int.reduceNeg, thaw, nodup, refsV, adopts, Pk.TY_State, Pk.TY_Diff]
    rw [c1, Bool.true_and, hf] at h
    rcases Bool.eq_false_or_eq_true (decide (d.kind < 0)) with q1 | q1
    · simp (config := {decide := true}) only [c_paddockref8_Apply, h1, c1, q1, guardR_und, Pk.EVL, keepT, enum, ↓reduceIte, ev, act, appT, callee, toDs, toD, loadA, storeA, subA, subD, updA, Eff.on, resA, resVs, resV, lk, finish, frzR, frzVs, frzV, fznR, fzns, fzn, lts, lt, ltO, List.all, pairsOk, indep, reduceCtorEq, Nat.reduceEqDiff, Nat.reduceAdd, Nat.reduceLeDiff, stb, thaws, List.drop, intOfA, binD, binI, unD, mmL, buildA, mkAgg, allD, behind, behind0, takeAt, frzAs, frzA, adoptR, adopt, isD, isD0, trim, List.take, binS, sliceA, bnd, zOk, elems, Nat.reduceBNe, inpl, Nat.reduceLT, Nat.reduceBEq, Nat.reduceSub, Nat.reduceMul, Int.reduceLT, Int.reduceLE, Int.reduceEq, Int.reduceToNat, Int.reduceNeg, thaw, nodup, refsV, adopts, Pk.TY_State, Pk.TY_Diff]
    rcases Bool.eq_false_or_eq_true (decide (d.kind > 2)) with q2 | q2
    · simp (config := {decide := true}) only [c_paddockref8_Apply, h1, c1, q1, q2, guardR_und, Pk.EVL, keepT, enum, ↓reduceIte, ev, act, appT, callee, toDs, toD, loadA, storeA, subA, subD, updA, Eff.on, resA, resVs, resV, lk, finish, frzR, frzVs, frzV, fznR, fzns, fzn, lts, lt, ltO, List.all, pairsOk, indep, reduceCtorEq, Nat.reduceEqDiff, Nat.reduceAdd, Nat.reduceLeDiff, stb, thaws, List.drop, intOfA, binD, binI, unD, mmL, buildA, mkAgg, allD, behind, behind0, takeAt, frzAs, frzA, adoptR, adopt, isD, isD0, trim, List.take, binS, sliceA, bnd, zOk, elems, Nat.reduceBNe, inpl, Nat.reduceLT, Nat.reduceBEq, Nat.reduceSub, Nat.reduceMul, Int.reduceLT, Int.reduceLE, Int.reduceEq, Int.reduceToNat, Int.reduceNeg, thaw, nodup, refsV, adopts, Pk.TY_State, Pk.TY_Diff]
    rw [q1, q2] at h
    rcases Bool.eq_false_or_eq_true (d.kind == 1) with c3 | c3
    · rw [c3] at h; simp at h
    · rcases Bool.eq_false_or_eq_true (decide ((d.log.length : Int) > 0)) with c4 | c4
      · simp (config := {decide := true}) only [c_paddockref8_Apply, h1, c1, nb, q1, q2, c3, c4, guardR_und, Bool.not_false, Pk.EVL, keepT, enum, ↓reduceIte, ev, act, appT, callee, toDs, toD, loadA, storeA, subA, subD, updA, Eff.on, resA, resVs, resV, lk, finish, frzR, frzVs, frzV, fznR, fzns, fzn, lts, lt, ltO, List.all, pairsOk, indep, reduceCtorEq, Nat.reduceEqDiff, Nat.reduceAdd, Nat.reduceLeDiff, stb, thaws, List.drop, intOfA, binD, binI, unD, mmL, buildA, mkAgg, allD, behind, behind0, takeAt, frzAs, frzA, adoptR, adopt, isD, isD0, trim, List.take, binS, sliceA, bnd, zOk, elems, Nat.reduceBNe, inpl, Nat.reduceLT, Nat.reduceBEq, Nat.reduceSub, Nat.reduceMul, Int.reduceLT, Int.reduceLE, Int.reduceEq, Int.reduceToNat, Int.reduceNeg, thaw, nodup, refsV, adopts, Pk.TY_State, Pk.TY_Diff]
      · rcases Bool.eq_false_or_eq_true (d.from_ == 0) with c5 | c5
        · rw [c3, c4, c5] at h; simp at h
        · simp (config := {decide := true}) only [c_paddockref8_Apply, h1, c1, nb, q1, q2, c3, c4, c5, guardR_und, Bool.not_false, Pk.EVL, keepT, enum, ↓reduceIte, ev, act, appT, callee, toDs, toD, loadA, storeA, subA, subD, updA, Eff.on, resA, resVs, resV, lk, finish, frzR, frzVs, frzV, fznR, fzns, fzn, lts, lt, ltO, List.all, pairsOk, indep, reduceCtorEq, Nat.reduceEqDiff, Nat.reduceAdd, Nat.reduceLeDiff, stb, thaws, List.drop, intOfA, binD, binI, unD, mmL, buildA, mkAgg, allD, behind, behind0, takeAt, frzAs, frzA, adoptR, adopt, isD, isD0, trim, List.take, binS, sliceA, bnd, zOk, elems, Nat.reduceBNe, inpl, Nat.reduceLT, Nat.reduceBEq, Nat.reduceSub, Nat.reduceMul, Int.reduceLT, Int.reduceLE, Int.reduceEq, Int.reduceToNat, Int.reduceNeg, thaw, nodup, refsV, adopts, Pk.TY_State, Pk.TY_Diff]
  by_cases hc : (isSt a && formD d) = true
  case neg =>
    rw [if_neg hc]
    have := bad (eq_false_of_ne_true hc)
    rw [evF_code (rfl : C F_paddockref8_Apply = some a_paddockref8_Apply) _ _ rfl] at this
    exact this
  rw [if_pos hc]
  clear bad
  rw [Bool.and_eq_true] at hc
  obtain ⟨c1, hc⟩ := hc
  rw [hf] at hc
  simp only [Bool.not_eq_true', Bool.or_eq_false_iff] at hc
  obtain ⟨q1, q2, q3⟩ := hc
  have hmf := midM_full ha hd
  have htl := reftail_at (midM a d).1 hmf d.whole.tail.n
  by_cases k2 : d.kind = 2
  · rw [if_pos k2]
    have e1 : (d.kind == 1) = false := by rw [k2]; decide
    have e2 : (d.kind == 2) = true := by rw [k2]; decide
    rw [e1] at q3
    simp only [Bool.not_false, Bool.true_and, Bool.or_eq_false_iff, Bool.not_eq_false'] at q3
    have hi := refis_st d.whole hw
    by_cases cw : isSt d.whole = true
    · rw [if_pos cw]
      simp (config := {decide := true}) only [c_paddockref8_Apply, h1, c1, nb, v1, q1, q2, q3.1, q3.2, e1, e2, hi, cw, guardR_und, Bool.not_false, Bool.not_true, Pk.EVL, keepT, enum, ↓reduceIte, ev, act, appT, callee, toDs, toD, loadA, storeA, subA, subD, updA, Eff.on, resA, resVs, resV, lk, finish, frzR, frzVs, frzV, fznR, fzns, fzn, lts, lt, ltO, List.all, pairsOk, indep, reduceCtorEq, Nat.reduceEqDiff, Nat.reduceAdd, Nat.reduceLeDiff, stb, thaws, List.drop, intOfA, binD, binI, unD, mmL, buildA, mkAgg, allD, behind, behind0, takeAt, frzAs, frzA, adoptR, adopt, isD, isD0, trim, List.take, binS, sliceA, bnd, zOk, elems, Nat.reduceBNe, inpl, Nat.reduceLT, Nat.reduceBEq, Nat.reduceSub, Nat.reduceMul, Int.reduceLT, Int.reduceLE, Int.reduceEq, Int.reduceToNat, Int.reduceNeg, thaw, nodup, refsV, adopts, Pk.TY_State, Pk.TY_Diff]
    · rw [if_neg cw]
      have cw := eq_false_of_ne_true cw
      simp (config := {decide := true}) only [c_paddockref8_Apply, h1, c1, nb, v0, q1, q2, q3.1, q3.2, e1, e2, hi, cw, guardR_und, Bool.not_false, Bool.not_true, Pk.EVL, keepT, enum, ↓reduceIte, ev, act, appT, callee, toDs, toD, loadA, storeA, subA, subD, updA, Eff.on, resA, resVs, resV, lk, finish, frzR, frzVs, frzV, fznR, fzns, fzn, lts, lt, ltO, List.all, pairsOk, indep, reduceCtorEq, Nat.reduceEqDiff, Nat.reduceAdd, Nat.reduceLeDiff, stb, thaws, List.drop, intOfA, binD, binI, unD, mmL, buildA, mkAgg, allD, behind, behind0, takeAt, frzAs, frzA, adoptR, adopt, isD, isD0, trim, List.take, binS, sliceA, bnd, zOk, elems, Nat.reduceBNe, inpl, Nat.reduceLT, Nat.reduceBEq, Nat.reduceSub, Nat.reduceMul, Int.reduceLT, Int.reduceLE, Int.reduceEq, Int.reduceToNat, Int.reduceNeg, thaw, nodup, refsV, adopts, Pk.TY_State, Pk.TY_Diff]
  rw [if_neg k2]
  have e2 : (d.kind == 2) = false := by rw [beq_eq_false_iff_ne]; exact k2
  have hits := refis_st { (tailS (midM a d).1 d.whole.tail.n).1 with started := d.whole.started } ⟨(tailS_full hmf _).n, (tailS_full hmf _).log⟩
  have fin : ∀ T2 : State, ∀ r : Int, tailS (midM a d).1 d.whole.tail.n = (T2, r) →
      (if ((tailS (midM a d).1 d.whole.tail.n).2 = 0 ∧ (tailS (midM a d).1 d.whole.tail.n).1.tail.since = d.whole.tail.since ∧ isSt { (tailS (midM a d).1 d.whole.tail.n).1 with started := d.whole.started } = true) then
          (({ (tailS (midM a d).1 d.whole.tail.n).1 with started := d.whole.started } : State), (0 : Int))
        else (State.zero, 80)) = if (r == 0) = true then (if (T2.tail.since == d.whole.tail.since) = true then (if isSt { T2 with started := d.whole.started } = true then ({ T2 with started := d.whole.started }, 0) else (State.zero, 80)) else (State.zero, 80)) else (State.zero, 80) := by
    intro T2 r h
    rw [h]
    by_cases x1 : r = 0 <;> by_cases x2 : T2.tail.since = d.whole.tail.since <;> by_cases x3 : isSt { T2 with started := d.whole.started } = true <;> simp [x1, x2, x3]
  generalize hT : tailS (midM a d).1 d.whole.tail.n = TT at *
  obtain ⟨T2, r⟩ := TT
  rw [fin T2 r rfl]
  simp only at htl hits
  clear fin hT
  by_cases k1 : d.kind = 1
  · have e1 : (d.kind == 1) = true := by rw [k1]; decide
    have hcut := refcut_at a ha d.from_
    have hcf := cutS_full ha d.from_
    have hmid : midM a d = if (cutS a d.from_).2 = 0 then addedM (cutS a d.from_).1 d.log else (State.zero, 10) := by unfold midM; rw [if_pos k1]
    rw [hmid] at htl ⊢
    clear hmid hmf
    generalize cutS a d.from_ = CC at *
    obtain ⟨C1, cr⟩ := CC
    simp only at hcut htl hcf ⊢
    rcases Bool.eq_false_or_eq_true (cr == 0) with x0 | x0
    case inr =>
      have : ¬ cr = 0 := by simpa using x0
      rw [if_neg this, if_neg (by decide)]
      simp (config := {decide := true}) only [c_paddockref8_Apply, h1, c1, nb, v0, q1, q2, e1, e2, hcut, x0, guardR_und, Bool.not_false, Bool.not_true, Pk.EVL, keepT, enum, ↓reduceIte, ev, act, appT, callee, toDs, toD, loadA, storeA, subA, subD, updA, Eff.on, resA, resVs, resV, lk, finish, frzR, frzVs, frzV, fznR, fzns, fzn, lts, lt, ltO, List.all, pairsOk, indep, reduceCtorEq, Nat.reduceEqDiff, Nat.reduceAdd, Nat.reduceLeDiff, stb, thaws, List.drop, intOfA, binD, binI, unD, mmL, buildA, mkAgg, allD, behind, behind0, takeAt, frzAs, frzA, adoptR, adopt, isD, isD0, trim, List.take, binS, sliceA, bnd, zOk, elems, Nat.reduceBNe, inpl, Nat.reduceLT, Nat.reduceBEq, Nat.reduceSub, Nat.reduceMul, Int.reduceLT, Int.reduceLE, Int.reduceEq, Int.reduceToNat, Int.reduceNeg, thaw, nodup, refsV, adopts, Pk.TY_State, Pk.TY_Diff]
    have x0' : cr = 0 := by simpa using x0
    rw [if_pos x0'] at htl ⊢
    simp (config := {decide := true}) only [c_paddockref8_Apply, h1, c1, nb, q1, q2, e1, e2, hcut, x0, guardR_und, Bool.not_false, Bool.not_true, Pk.EVL, keepT, enum, ↓reduceIte, ev, act, appT, callee, toDs, toD, loadA, storeA, subA, subD, updA, Eff.on, resA, resVs, resV, lk, finish, frzR, frzVs, frzV, fznR, fzns, fzn, lts, lt, ltO, List.all, pairsOk, indep, reduceCtorEq, Nat.reduceEqDiff, Nat.reduceAdd, Nat.reduceLeDiff, stb, thaws, List.drop, intOfA, binD, binI, unD, mmL, buildA, mkAgg, allD, behind, behind0, takeAt, frzAs, frzA, adoptR, adopt, isD, isD0, trim, List.take, binS, sliceA, bnd, zOk, elems, Nat.reduceBNe, inpl, Nat.reduceLT, Nat.reduceBEq, Nat.reduceSub, Nat.reduceMul, Int.reduceLT, Int.reduceLE, Int.reduceEq, Int.reduceToNat, Int.reduceNeg, thaw, nodup, refsV, adopts, Pk.TY_State, Pk.TY_Diff]
    simp only [Option.bind_assoc]
    refine bind_run (loop_run (fun i T H => lk T 3 = .ptr 1 0 ∧ lk T 4 = .ptr 2 0 ∧ lk T 6 = .ptr 3 0 ∧ lk T 9 = .d (.i .i64 (i : Nat)) ∧ ∃ t J, H = .box (.d (.agg a.cs)) :: .box (.d (.agg d.cs)) :: .box (.agg State.zeroA) :: .box (.d (.agg (State.cs t))) :: .box (.d (.agg C1.cs)) :: J ∧ stFull t ∧ addedM C1 d.log = addedM t (d.log.drop i))
      (fun e T H => (e = .exit 0 ∧ lk T 3 = .ptr 1 0 ∧ lk T 4 = .ptr 2 0 ∧ lk T 6 = .ptr 3 0 ∧ ∃ t, H = [.box (.d (.agg a.cs)), .box (.d (.agg d.cs)), .box (.agg State.zeroA), .box (.d (.agg (State.cs t))), .box (.d (.agg C1.cs))] ∧ addedM C1 d.log = (t, 0)) ∨
        (e = .ret ∧ lk T 4 = .ptr 2 0 ∧ lk T 5 = .d (.b false) ∧ (∃ J, H = .box (.d (.agg a.cs)) :: .box (.d (.agg d.cs)) :: .box (.agg State.zeroA) :: J) ∧ addedM C1 d.log = (State.zero, 10))) d.log.length ?_ ?_ d.log.length 0 _ _ (by omega) ⟨rfl, rfl, rfl, rfl, _, [], rfl, hcf, rfl⟩) ?_
    · rintro i T H hi ⟨g3, g4, g6, g9, t, J, rfl, ht, hq⟩
      obtain ⟨e, he⟩ : ∃ e, d.log[i]? = some e := ⟨d.log[i]'hi, List.getElem?_eq_getElem _⟩
      have hx := list_idx Entry.d he
      have heo := hd e (List.mem_of_getElem? he)
      have hdl : decide ((i : Int) < ((d.log.length : Nat) : Int)) = true := by simp; omega
      have hw2 : IntKind.i64.wrap ((i : Int) + 1) = ((i + 1 : Nat) : Int) := wi64 (by omega)
      have b0 : (0 ≤ (i : Int)) = True := by simp
      have hdr : d.log.drop i = e :: d.log.drop (i + 1) := by
        rw [List.drop_eq_getElem_cons hi]
        congr 1
        exact (List.getElem?_eq_some_iff.1 he).2
      rw [hdr] at hq
      simp only [addedM] at hq
      have hadd := refadd_at t ht e heo
      have hfu := addS_full ht heo
      have hcd := addS_code t e
      clear htl
      generalize hAA : addS t e = R at *
      obtain ⟨A1, A2⟩ := R
      simp only at hadd hfu hcd hq
      clear hAA
      rcases hcd with ⟨rfl, _⟩ | ⟨rfl, rfl⟩
      · rw [if_pos rfl] at hq
        simp (config := {decide := true}) only [K_paddockref8_Apply_0, l_paddockref8_Apply_0, g3, g4, g6, g9, hdl, hw2, b0, hx, hadd, v1, guardR_und, Bool.not_true, Pk.EVL, keepT, enum, ↓reduceIte, ev, act, appT, callee, toDs, toD, loadA, storeA, subA, subD, updA, Eff.on, resA, resVs, resV, lk, finish, frzR, frzVs, frzV, fznR, fzns, fzn, lts, lt, ltO, List.all, pairsOk, indep, reduceCtorEq, Nat.reduceEqDiff, Nat.reduceAdd, Nat.reduceLeDiff, stb, thaws, List.drop, intOfA, binD, binI, unD, mmL, buildA, mkAgg, allD, behind, behind0, takeAt, frzAs, frzA, adoptR, adopt, isD, isD0, trim, List.take, binS, sliceA, bnd, zOk, elems, Nat.reduceBNe, inpl, Nat.reduceLT, Nat.reduceBEq, Nat.reduceSub, Nat.reduceMul, Int.reduceLT, Int.reduceLE, Int.reduceEq, Int.reduceToNat, Int.reduceNeg, thaw, nodup, refsV, adopts, Pk.TY_State, Pk.TY_Diff, Pk.TY_Entry]
        refine ⟨_, _, _, rfl, ?_⟩
        exact .inl ⟨rfl, rfl, rfl, rfl, rfl, _, _, rfl, hfu, hq⟩
      · rw [if_neg (by decide)] at hq
        have v10 : ((10 : Int) == 0) = false := by decide
        simp (config := {decide := true}) only [K_paddockref8_Apply_0, l_paddockref8_Apply_0, g3, g4, g6, g9, hdl, hw2, b0, hx, hadd, v10, guardR_und, Bool.not_false, Pk.EVL, keepT, enum, ↓reduceIte, ev, act, appT, callee, toDs, toD, loadA, storeA, subA, subD, updA, Eff.on, resA, resVs, resV, lk, finish, frzR, frzVs, frzV, fznR, fzns, fzn, lts, lt, ltO, List.all, pairsOk, indep, reduceCtorEq, Nat.reduceEqDiff, Nat.reduceAdd, Nat.reduceLeDiff, stb, thaws, List.drop, intOfA, binD, binI, unD, mmL, buildA, mkAgg, allD, behind, behind0, takeAt, frzAs, frzA, adoptR, adopt, isD, isD0, trim, List.take, binS, sliceA, bnd, zOk, elems, Nat.reduceBNe, inpl, Nat.reduceLT, Nat.reduceBEq, Nat.reduceSub, Nat.reduceMul, Int.reduceLT, Int.reduceLE, Int.reduceEq, Int.reduceToNat, Int.reduceNeg, thaw, nodup, refsV, adopts, Pk.TY_State, Pk.TY_Diff, Pk.TY_Entry]
        refine ⟨_, _, _, rfl, ?_⟩
        exact .inr ⟨by simp, .inr ⟨rfl, rfl, rfl, ⟨_, rfl⟩, hq⟩⟩
    · rintro T H ⟨g3, g4, g6, g9, t, J, rfl, ht, hq⟩
      rw [List.drop_length] at hq
      simp only [addedM] at hq
      have hdl : decide (((d.log.length : Nat) : Int) < ((d.log.length : Nat) : Int)) = false := by simp
      simp (config := {decide := true}) only [K_paddockref8_Apply_0, l_paddockref8_Apply_0, g3, g4, g6, g9, hdl, Pk.EVL, keepT, enum, ↓reduceIte, ev, act, appT, callee, toDs, toD, loadA, storeA, subA, subD, updA, Eff.on, resA, resVs, resV, lk, finish, frzR, frzVs, frzV, fznR, fzns, fzn, lts, lt, ltO, List.all, pairsOk, indep, reduceCtorEq, Nat.reduceEqDiff, Nat.reduceAdd, Nat.reduceLeDiff, stb, thaws, List.drop, intOfA, binD, binI, unD, mmL, buildA, mkAgg, allD, behind, behind0, takeAt, frzAs, frzA, adoptR, adopt, isD, isD0, trim, List.take, binS, sliceA, bnd, zOk, elems, Nat.reduceBNe, inpl, Nat.reduceLT, Nat.reduceBEq, Nat.reduceSub, Nat.reduceMul, Int.reduceLT, Int.reduceLE, Int.reduceEq, Int.reduceToNat, Int.reduceNeg, thaw, nodup, refsV, adopts, Pk.TY_State, Pk.TY_Diff, Pk.TY_Entry]
      refine ⟨_, _, _, rfl, ?_⟩
      exact ⟨by simp, .inl ⟨rfl, rfl, rfl, rfl, _, rfl, hq⟩⟩
    rintro e T H (⟨rfl, g3, g4, g6, t, rfl, hq⟩ | ⟨rfl, g4, g5, ⟨J, rfl⟩, hq⟩)
    case inr =>
      rw [hq, if_neg (by decide)]
      simp (config := {decide := true}) only [g4, g5, v0, Pk.EVL, keepT, enum, ↓reduceIte, ev, act, appT, callee, toDs, toD, loadA, storeA, subA, subD, updA, Eff.on, resA, resVs, resV, lk, finish, frzR, frzVs, frzV, fznR, fzns, fzn, lts, lt, ltO, List.all, pairsOk, indep, reduceCtorEq, Nat.reduceEqDiff, Nat.reduceAdd, Nat.reduceLeDiff, stb, thaws, List.drop, intOfA, binD, binI, unD, mmL, buildA, mkAgg, allD, behind, behind0, takeAt, frzAs, frzA, adoptR, adopt, isD, isD0, trim, List.take, binS, sliceA, bnd, zOk, elems, Nat.reduceBNe, inpl, Nat.reduceLT, Nat.reduceBEq, Nat.reduceSub, Nat.reduceMul, Int.reduceLT, Int.reduceLE, Int.reduceEq, Int.reduceToNat, Int.reduceNeg, thaw, nodup, refsV, adopts, Pk.TY_State]
    rw [hq] at htl ⊢
    rw [if_pos rfl]
    simp only at htl
    rcases Bool.eq_false_or_eq_true (r == 0) with z0 | z0
    case inr =>
      rw [z0, if_neg (by simp)]
      simp (config := {decide := true}) only [g3, g4, g6, nb, v0, htl, z0, guardR_und, Bool.not_false, Bool.not_true, Pk.EVL, keepT, enum, ↓reduceIte, ev, act, appT, callee, toDs, toD, loadA, storeA, subA, subD, updA, Eff.on, resA, resVs, resV, lk, finish, frzR, frzVs, frzV, fznR, fzns, fzn, lts, lt, ltO, List.all, pairsOk, indep, reduceCtorEq, Nat.reduceEqDiff, Nat.reduceAdd, Nat.reduceLeDiff, stb, thaws, List.drop, intOfA, binD, binI, unD, mmL, buildA, mkAgg, allD, behind, behind0, takeAt, frzAs, frzA, adoptR, adopt, isD, isD0, trim, List.take, binS, sliceA, bnd, zOk, elems, Nat.reduceBNe, inpl, Nat.reduceLT, Nat.reduceBEq, Nat.reduceSub, Nat.reduceMul, Int.reduceLT, Int.reduceLE, Int.reduceEq, Int.reduceToNat, Int.reduceNeg, thaw, nodup, refsV, adopts, Pk.TY_State, Pk.TY_Diff, Pk.TY_Entry]
    rw [z0, if_pos rfl]
    rcases Bool.eq_false_or_eq_true (T2.tail.since == d.whole.tail.since) with z1 | z1
    case inr =>
      rw [z1, if_neg (by simp)]
      simp (config := {decide := true}) only [g3, g4, g6, nb, v0, htl, z0, z1, guardR_und, Bool.not_false, Bool.not_true, Pk.EVL, keepT, enum, ↓reduceIte, ev, act, appT, callee, toDs, toD, loadA, storeA, subA, subD, updA, Eff.on, resA, resVs, resV, lk, finish, frzR, frzVs, frzV, fznR, fzns, fzn, lts, lt, ltO, List.all, pairsOk, indep, reduceCtorEq, Nat.reduceEqDiff, Nat.reduceAdd, Nat.reduceLeDiff, stb, thaws, List.drop, intOfA, binD, binI, unD, mmL, buildA, mkAgg, allD, behind, behind0, takeAt, frzAs, frzA, adoptR, adopt, isD, isD0, trim, List.take, binS, sliceA, bnd, zOk, elems, Nat.reduceBNe, inpl, Nat.reduceLT, Nat.reduceBEq, Nat.reduceSub, Nat.reduceMul, Int.reduceLT, Int.reduceLE, Int.reduceEq, Int.reduceToNat, Int.reduceNeg, thaw, nodup, refsV, adopts, Pk.TY_State, Pk.TY_Diff, Pk.TY_Entry]
    rw [z1, if_pos rfl]
    rcases Bool.eq_false_or_eq_true (isSt { T2 with started := d.whole.started }) with z2 | z2
    case inr =>
      rw [z2] at hits
      rw [z2, if_neg (by simp)]
      simp (config := {decide := true}) only [g3, g4, g6, nb, v0, htl, z0, z1, hits, guardR_und, Bool.not_false, Bool.not_true, Pk.EVL, keepT, enum, ↓reduceIte, ev, act, appT, callee, toDs, toD, loadA, storeA, subA, subD, updA, Eff.on, resA, resVs, resV, lk, finish, frzR, frzVs, frzV, fznR, fzns, fzn, lts, lt, ltO, List.all, pairsOk, indep, reduceCtorEq, Nat.reduceEqDiff, Nat.reduceAdd, Nat.reduceLeDiff, stb, thaws, List.drop, intOfA, binD, binI, unD, mmL, buildA, mkAgg, allD, behind, behind0, takeAt, frzAs, frzA, adoptR, adopt, isD, isD0, trim, List.take, binS, sliceA, bnd, zOk, elems, Nat.reduceBNe, inpl, Nat.reduceLT, Nat.reduceBEq, Nat.reduceSub, Nat.reduceMul, Int.reduceLT, Int.reduceLE, Int.reduceEq, Int.reduceToNat, Int.reduceNeg, thaw, nodup, refsV, adopts, Pk.TY_State, Pk.TY_Diff, Pk.TY_Entry]
    rw [z2] at hits
    rw [z2, if_pos rfl]
    simp (config := {decide := true}) only [g3, g4, g6, nb, v1, htl, z0, z1, hits, guardR_und, Bool.not_false, Bool.not_true, Pk.EVL, keepT, enum, ↓reduceIte, ev, act, appT, callee, toDs, toD, loadA, storeA, subA, subD, updA, Eff.on, resA, resVs, resV, lk, finish, frzR, frzVs, frzV, fznR, fzns, fzn, lts, lt, ltO, List.all, pairsOk, indep, reduceCtorEq, Nat.reduceEqDiff, Nat.reduceAdd, Nat.reduceLeDiff, stb, thaws, List.drop, intOfA, binD, binI, unD, mmL, buildA, mkAgg, allD, behind, behind0, takeAt, frzAs, frzA, adoptR, adopt, isD, isD0, trim, List.take, binS, sliceA, bnd, zOk, elems, Nat.reduceBNe, inpl, Nat.reduceLT, Nat.reduceBEq, Nat.reduceSub, Nat.reduceMul, Int.reduceLT, Int.reduceLE, Int.reduceEq, Int.reduceToNat, Int.reduceNeg, thaw, nodup, refsV, adopts, Pk.TY_State, Pk.TY_Diff, Pk.TY_Entry]
  · have e1 : (d.kind == 1) = false := by rw [beq_eq_false_iff_ne]; exact k1
    rw [e1] at q3
    simp only [Bool.not_false, Bool.true_and, Bool.or_eq_false_iff, Bool.not_eq_false'] at q3
    have hmid : midM a d = (a, 0) := by unfold midM; rw [if_neg k1]
    rw [hmid] at htl ⊢
    rw [if_pos rfl]
    simp only at htl
    rcases Bool.eq_false_or_eq_true (r == 0) with z0 | z0
    case inr =>
      rw [z0, if_neg (by simp)]
      simp (config := {decide := true}) only [c_paddockref8_Apply, h1, c1, nb, v0, q1, q2, q3.1, q3.2, e1, e2, htl, z0, guardR_und, Bool.not_false, Bool.not_true, Pk.EVL, keepT, enum, ↓reduceIte, ev, act, appT, callee, toDs, toD, loadA, storeA, subA, subD, updA, Eff.on, resA, resVs, resV, lk, finish, frzR, frzVs, frzV, fznR, fzns, fzn, lts, lt, ltO, List.all, pairsOk, indep, reduceCtorEq, Nat.reduceEqDiff, Nat.reduceAdd, Nat.reduceLeDiff, stb, thaws, List.drop, intOfA, binD, binI, unD, mmL, buildA, mkAgg, allD, behind, behind0, takeAt, frzAs, frzA, adoptR, adopt, isD, isD0, trim, List.take, binS, sliceA, bnd, zOk, elems, Nat.reduceBNe, inpl, Nat.reduceLT, Nat.reduceBEq, Nat.reduceSub, Nat.reduceMul, Int.reduceLT, Int.reduceLE, Int.reduceEq, Int.reduceToNat, Int.reduceNeg, thaw, nodup, refsV, adopts, Pk.TY_State, Pk.TY_Diff, Pk.TY_Entry]
    rw [z0, if_pos rfl]
    rcases Bool.eq_false_or_eq_true (T2.tail.since == d.whole.tail.since) with z1 | z1
    case inr =>
      rw [z1, if_neg (by simp)]
      simp (config := {decide := true}) only [c_paddockref8_Apply, h1, c1, nb, v0, q1, q2, q3.1, q3.2, e1, e2, htl, z0, z1, guardR_und, Bool.not_false, Bool.not_true, Pk.EVL, keepT, enum, ↓reduceIte, ev, act, appT, callee, toDs, toD, loadA, storeA, subA, subD, updA, Eff.on, resA, resVs, resV, lk, finish, frzR, frzVs, frzV, fznR, fzns, fzn, lts, lt, ltO, List.all, pairsOk, indep, reduceCtorEq, Nat.reduceEqDiff, Nat.reduceAdd, Nat.reduceLeDiff, stb, thaws, List.drop, intOfA, binD, binI, unD, mmL, buildA, mkAgg, allD, behind, behind0, takeAt, frzAs, frzA, adoptR, adopt, isD, isD0, trim, List.take, binS, sliceA, bnd, zOk, elems, Nat.reduceBNe, inpl, Nat.reduceLT, Nat.reduceBEq, Nat.reduceSub, Nat.reduceMul, Int.reduceLT, Int.reduceLE, Int.reduceEq, Int.reduceToNat, Int.reduceNeg, thaw, nodup, refsV, adopts, Pk.TY_State, Pk.TY_Diff, Pk.TY_Entry]
    rw [z1, if_pos rfl]
    rcases Bool.eq_false_or_eq_true (isSt { T2 with started := d.whole.started }) with z2 | z2
    case inr =>
      rw [z2] at hits
      rw [z2, if_neg (by simp)]
      simp (config := {decide := true}) only [c_paddockref8_Apply, h1, c1, nb, v0, q1, q2, q3.1, q3.2, e1, e2, htl, z0, z1, hits, guardR_und, Bool.not_false, Bool.not_true, Pk.EVL, keepT, enum, ↓reduceIte, ev, act, appT, callee, toDs, toD, loadA, storeA, subA, subD, updA, Eff.on, resA, resVs, resV, lk, finish, frzR, frzVs, frzV, fznR, fzns, fzn, lts, lt, ltO, List.all, pairsOk, indep, reduceCtorEq, Nat.reduceEqDiff, Nat.reduceAdd, Nat.reduceLeDiff, stb, thaws, List.drop, intOfA, binD, binI, unD, mmL, buildA, mkAgg, allD, behind, behind0, takeAt, frzAs, frzA, adoptR, adopt, isD, isD0, trim, List.take, binS, sliceA, bnd, zOk, elems, Nat.reduceBNe, inpl, Nat.reduceLT, Nat.reduceBEq, Nat.reduceSub, Nat.reduceMul, Int.reduceLT, Int.reduceLE, Int.reduceEq, Int.reduceToNat, Int.reduceNeg, thaw, nodup, refsV, adopts, Pk.TY_State, Pk.TY_Diff, Pk.TY_Entry]
    rw [z2] at hits
    rw [z2, if_pos rfl]
    simp (config := {decide := true}) only [c_paddockref8_Apply, h1, c1, nb, v1, q1, q2, q3.1, q3.2, e1, e2, htl, z0, z1, hits, guardR_und, Bool.not_false, Bool.not_true, Pk.EVL, keepT, enum, ↓reduceIte, ev, act, appT, callee, toDs, toD, loadA, storeA, subA, subD, updA, Eff.on, resA, resVs, resV, lk, finish, frzR, frzVs, frzV, fznR, fzns, fzn, lts, lt, ltO, List.all, pairsOk, indep, reduceCtorEq, Nat.reduceEqDiff, Nat.reduceAdd, Nat.reduceLeDiff, stb, thaws, List.drop, intOfA, binD, binI, unD, mmL, buildA, mkAgg, allD, behind, behind0, takeAt, frzAs, frzA, adoptR, adopt, isD, isD0, trim, List.take, binS, sliceA, bnd, zOk, elems, Nat.reduceBNe, inpl, Nat.reduceLT, Nat.reduceBEq, Nat.reduceSub, Nat.reduceMul, Int.reduceLT, Int.reduceLE, Int.reduceEq, Int.reduceToNat, Int.reduceNeg, thaw, nodup, refsV, adopts, Pk.TY_State, Pk.TY_Diff, Pk.TY_Entry]
end Go.Proofs.Ytfajplmkfpdhfaa

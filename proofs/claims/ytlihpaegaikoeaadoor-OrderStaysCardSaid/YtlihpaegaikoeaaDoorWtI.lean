/- One order: Took. -/
import Derived.Test.YtlihpaegaikoeaaDoorWtH
set_option linter.all false
namespace Go.Proofs.YtlihpaegaikoeaaDoor
open Pv Go Pk
set_option maxRecDepth 10000
set_option maxHeartbeats 2000000

def readsL (l : List Entry) (o : Opr) (r : Res) (k : Nat) : Bool := (List.range k).any fun i => decide (readO (baseOf (l.take i)) o = r)
theorem readsL_true {l : List Entry} {o : Opr} {r : Res} {k i : Nat} (hi : i < k) (h : readO (baseOf (l.take i)) o = r) : readsL l o r k = true := by
  unfold readsL
  rw [List.any_eq_true]
  exact ⟨i, by simpa using hi, by simpa using h⟩
theorem readsL_false {l : List Entry} {o : Opr} {r : Res} {k : Nat} (h : ∀ i < k, readO (baseOf (l.take i)) o ≠ r) : readsL l o r k = false := by
  unfold readsL
  rw [List.any_eq_false]
  intro i hi
  have := h i (by simpa using hi)
  simpa using this
def sameO (a : Opr) (e : Entry) : Bool := (e.op.client == a.client) && (e.op.seq == a.seq)
def tookG (L : Nat → Lr) (g : Nat) (a : Ans) : (Nat → Lr) × Int :=
  if isOp a.op = false then (L, 10)
  else if writes a.op = false then (L, if readsL (L g).l a.op a.r ((L g).l.length + 1) = true then 0 else 220)
  else match idxE (sameO a.op) (L g).l with
    | none => (L, 220)
    | some i => if (doOp (baseOf ((L g).l.take i)) (((L g).l[i]?).getD Entry.zero).op).2 = a.r then
        (updL L g { L g with acked := max (L g).acked (i + 1) }, 0) else (L, 220)
def tookL (L : Nat → Lr) (a : Ans) : (Nat → Lr) × Int := tookG L (grpN a.op.obj) a

theorem took1_at {H : Heap} (hok : okH H) {q : Nat} (a : Ans) (hq : H[q]? = some (.box (.d (.agg a.cs)))) (e : Entry) :
    evF C F_witness_Order_Took_1 [.d (.agg e.cs), .ptr q 0] H = some (.d (.b (sameO a.op e)), H) := by
  obtain ⟨n, hn⟩ : ∃ n, H.length = n := ⟨_, rfl⟩
  have hlq : q < n := hn ▸ (List.getElem?_eq_some_iff.1 hq).1
  have R := hf_rules hn
  have K := ok_rules hn hok
  have N := n_rules n
  have Q := o_rules hlq
  have hq' := hf_old hq
  suffices key : evF C F_witness_Order_Took_1 [.d (.agg e.cs), .ptr q 0] (hf H []) = some (.d (.b (sameO a.op e)), hf H []) by rwa [hf_nil] at key
  rw [evF_code (rfl : C F_witness_Order_Took_1 = some a_witness_Order_Took_1) _ _ rfl]
  unfold sameO
  rcases Bool.eq_false_or_eq_true (e.op.client == a.op.client) with c1 | c1
  · simp (config := {decide := true}) only [c_witness_Order_Took_1, R, K, N, Q, hq', c1, Pk.EVL, keepT, enum, ↓reduceIte, ev, act, appT, callee, toDs, toD, loadA, storeA, subA, subD, updA, Eff.on, resA, resVs, resV, lk, finish, frzR, frzVs, frzV, fznR, fzns, fzn, lts, lt, ltO, List.all, pairsOk, indep, reduceCtorEq, Nat.reduceEqDiff, Nat.reduceAdd, Nat.reduceLeDiff, stb, thaws, List.drop, intOfA, binD, binI, unD, mmL, buildA, mkAgg, allD, bslD, behind, behind0, takeAt, frzAs, frzA, adoptR, adopt, isD, isD0, trim, List.take, binS, sliceA, bnd, zOk, elems, Nat.reduceBNe, inpl, Nat.reduceLT, Nat.reduceBEq, Nat.reduceSub, Nat.reduceMul, Int.reduceLT, Int.reduceLE, Int.reduceEq, Int.reduceToNat, Int.reduceNeg, thaw, nodup, refsV, adopts, Pk.TY_Entry, Pk.TY_Ans]
  · simp (config := {decide := true}) only [c_witness_Order_Took_1, R, K, N, Q, hq', c1, Pk.EVL, keepT, enum, ↓reduceIte, ev, act, appT, callee, toDs, toD, loadA, storeA, subA, subD, updA, Eff.on, resA, resVs, resV, lk, finish, frzR, frzVs, frzV, fznR, fzns, fzn, lts, lt, ltO, List.all, pairsOk, indep, reduceCtorEq, Nat.reduceEqDiff, Nat.reduceAdd, Nat.reduceLeDiff, stb, thaws, List.drop, intOfA, binD, binI, unD, mmL, buildA, mkAgg, allD, bslD, behind, behind0, takeAt, frzAs, frzA, adoptR, adopt, isD, isD0, trim, List.take, binS, sliceA, bnd, zOk, elems, Nat.reduceBNe, inpl, Nat.reduceLT, Nat.reduceBEq, Nat.reduceSub, Nat.reduceMul, Int.reduceLT, Int.reduceLE, Int.reduceEq, Int.reduceToNat, Int.reduceNeg, thaw, nodup, refsV, adopts, Pk.TY_Entry, Pk.TY_Ans]

theorem rread_at {H : Heap} (hok : okH H) {o : Nat} {W : W4} (ho : H[o]? = some (.box (.agg W.cs))) {g : Nat} (hg : g < 4) {l : List Entry} (hL : isL (W.get g).l l) (hB : isB H (W.get g).b l)
    (hl : l.length ≤ 1000) (hlo : ∀ e ∈ l, e.op.ok) (a : Ans) (ha : a.op.ok) :
    evF C F_witness_row_read [.ptr o (g * 4), .d (.agg a.cs)] H = some (.d (.i .i64 (if readsL l a.op a.r (l.length + 1) = true then 0 else 220)), H) := by
  obtain ⟨n, hn⟩ : ∃ n, H.length = n := ⟨_, rfl⟩
  have hlt : o < n := hn ▸ (List.getElem?_eq_some_iff.1 ho).1
  have R := hf_rules hn
  have K := ok_rules hn hok
  have N := n_rules n
  have O := o_rules hlt
  have fo := hf_old ho
  have D := W4.rds hg
  suffices key : evF C F_witness_row_read [.ptr o (g * 4), .d (.agg a.cs)] (hf H []) = some (.d (.i .i64 (if readsL l a.op a.r (l.length + 1) = true then 0 else 220)), hf H []) by rwa [hf_nil] at key
  rw [evF_code (rfl : C F_witness_row_read = some a_witness_row_read) _ _ rfl]
  have rb : ∀ (Y : Heap) (i : Nat), okH (hf H Y) → i ≤ l.length → evF C F_witness_row_base [.ptr o (g * 4), .d (.i .u32 (i : Int))] (hf H Y) = some (.d (.agg (baseOf (l.take i)).cs), hf H Y) :=
    fun Y i hY hi => rb_at hY (fo Y) hg (hB.hf Y) i hi hl
  have main : ∀ T : Tm, lk T 0 = .ptr o (g * 4) → lk T 3 = .ptr n 0 → lk T 11 = .d (.i .i64 ((l.length + 1 : Nat) : Int)) → lk T 12 = .d (.i .i64 0) →
      ∃ e T' H', evL C K_witness_row_read_0 l_witness_row_read_0 (n + 1) T (hf H [.box (.d (.agg a.cs))]) = some (e, T', H') ∧ (H' = hf H [.box (.d (.agg a.cs))] ∧ ((e = .ret ∧ readsL l a.op a.r (l.length + 1) = true ∧ lk T' 4 = .d (.i .i64 0)) ∨ (e = .exit 0 ∧ readsL l a.op a.r (l.length + 1) = false))) := by
    intro T t0 t3 t11 t12
    refine loop_run (fun i T H' => lk T 0 = .ptr o (g * 4) ∧ lk T 3 = .ptr n 0 ∧ lk T 11 = .d (.i .i64 ((l.length + 1 : Nat) : Int)) ∧ lk T 12 = .d (.i .i64 (i : Nat)) ∧ H' = hf H [.box (.d (.agg a.cs))] ∧ ∀ j < i, readO (baseOf (l.take j)) a.op ≠ a.r)
      (fun e T' H' => H' = hf H [.box (.d (.agg a.cs))] ∧ ((e = .ret ∧ readsL l a.op a.r (l.length + 1) = true ∧ lk T' 4 = .d (.i .i64 0)) ∨ (e = .exit 0 ∧ readsL l a.op a.r (l.length + 1) = false))) (l.length + 1) ?_ ?_ (l.length + 1) 0 T _ (by omega) ⟨t0, t3, t11, t12, rfl, fun j hj => absurd hj (by omega)⟩
    · rintro i T H' hi ⟨h0, h3, h11, h12, rfl, hall⟩
      have hd : decide ((i : Int) < ((l.length + 1 : Nat) : Int)) = true := by simp; omega
      have hw : IntKind.i64.wrap ((i : Int) + 1) = ((i + 1 : Nat) : Int) := wi64 (by omega)
      have w1 : IntKind.u32.wrap ((i : Nat) : Int) = ((i : Nat) : Int) := wu32 (by omega)
      have hb := fun Y hY => rb Y i hY (by omega)
      have hrd := read_at (baseOf (l.take i)) a.op (base_fit fun e he => hlo e (List.mem_of_mem_take he)) ha
      rcases Bool.eq_false_or_eq_true (decide (readO (baseOf (l.take i)) a.op = a.r)) with c1 | c1
      · have ht := readsL_true (k := l.length + 1) hi (of_decide_eq_true c1)
        simp (config := {decide := true}) only [K_witness_row_read_0, l_witness_row_read_0, R, K, N, O, h0, h3, h11, h12, hd, hw, w1, hb, hrd, c1, sameH_self, Pk.EVL, keepT, enum, ↓reduceIte, ev, act, appT, callee, toDs, toD, loadA, storeA, subA, subD, updA, Eff.on, resA, resVs, resV, lk, finish, frzR, frzVs, frzV, fznR, fzns, fzn, lts, lt, ltO, List.all, pairsOk, indep, reduceCtorEq, Nat.reduceEqDiff, Nat.reduceAdd, Nat.reduceLeDiff, stb, thaws, List.drop, intOfA, binD, binI, unD, mmL, buildA, mkAgg, allD, bslD, behind, behind0, takeAt, frzAs, frzA, adoptR, adopt, isD, isD0, trim, List.take, binS, sliceA, bnd, zOk, elems, Nat.reduceBNe, inpl, Nat.reduceLT, Nat.reduceBEq, Nat.reduceSub, Nat.reduceMul, Int.reduceLT, Int.reduceLE, Int.reduceEq, Int.reduceToNat, Int.reduceNeg, thaw, nodup, refsV, adopts, Pk.TY_Ans, Pk.TY_Res]
        exact ⟨_, _, _, rfl, .inr ⟨by simp, rfl, .inl ⟨rfl, ht, rfl⟩⟩⟩
      · simp (config := {decide := true}) only [K_witness_row_read_0, l_witness_row_read_0, R, K, N, O, h0, h3, h11, h12, hd, hw, w1, hb, hrd, c1, sameH_self, Pk.EVL, keepT, enum, ↓reduceIte, ev, act, appT, callee, toDs, toD, loadA, storeA, subA, subD, updA, Eff.on, resA, resVs, resV, lk, finish, frzR, frzVs, frzV, fznR, fzns, fzn, lts, lt, ltO, List.all, pairsOk, indep, reduceCtorEq, Nat.reduceEqDiff, Nat.reduceAdd, Nat.reduceLeDiff, stb, thaws, List.drop, intOfA, binD, binI, unD, mmL, buildA, mkAgg, allD, bslD, behind, behind0, takeAt, frzAs, frzA, adoptR, adopt, isD, isD0, trim, List.take, binS, sliceA, bnd, zOk, elems, Nat.reduceBNe, inpl, Nat.reduceLT, Nat.reduceBEq, Nat.reduceSub, Nat.reduceMul, Int.reduceLT, Int.reduceLE, Int.reduceEq, Int.reduceToNat, Int.reduceNeg, thaw, nodup, refsV, adopts, Pk.TY_Ans, Pk.TY_Res]
        refine ⟨_, _, _, rfl, .inl ⟨rfl, rfl, rfl, rfl, rfl, rfl, fun j hj => ?_⟩⟩
        rcases Nat.lt_succ_iff_lt_or_eq.1 hj with h | rfl
        · exact hall j h
        · exact of_decide_eq_false c1
    · rintro T H' ⟨h0, h3, h11, h12, rfl, hall⟩
      have hd : decide (((l.length + 1 : Nat) : Int) < ((l.length + 1 : Nat) : Int)) = false := by simp
      have hf2 := readsL_false hall
      simp (config := {decide := true}) only [K_witness_row_read_0, l_witness_row_read_0, R, K, N, O, h0, h3, h11, h12, hd, Pk.EVL, keepT, enum, ↓reduceIte, ev, act, appT, callee, toDs, toD, loadA, storeA, subA, subD, updA, Eff.on, resA, resVs, resV, lk, finish, frzR, frzVs, frzV, fznR, fzns, fzn, lts, lt, ltO, List.all, pairsOk, indep, reduceCtorEq, Nat.reduceEqDiff, Nat.reduceAdd, Nat.reduceLeDiff, stb, thaws, List.drop, intOfA, binD, binI, unD, mmL, buildA, mkAgg, allD, bslD, behind, behind0, takeAt, frzAs, frzA, adoptR, adopt, isD, isD0, trim, List.take, binS, sliceA, bnd, zOk, elems, Nat.reduceBNe, inpl, Nat.reduceLT, Nat.reduceBEq, Nat.reduceSub, Nat.reduceMul, Int.reduceLT, Int.reduceLE, Int.reduceEq, Int.reduceToNat, Int.reduceNeg, thaw, nodup, refsV, adopts]
      exact ⟨_, _, _, rfl, by simp, rfl, .inr ⟨rfl, hf2⟩⟩
  have w2 : IntKind.i64.wrap (((l.length : Nat) : Int) + 1) = ((l.length + 1 : Nat) : Int) := wi64 (by omega)
  rcases hL with ⟨hx, hl0⟩ | hx
  · have hl1 : l.length + 1 = 1 := by rw [hl0]; rfl
    have w3 : IntKind.i64.wrap (0 + 1) = ((l.length + 1 : Nat) : Int) := by rw [hl1]; decide
    simp (config := {decide := true}) only [c_witness_row_read, R, K, N, O, D, fo, hx, w3, Pk.EVL, keepT, enum, ↓reduceIte, ev, act, appT, callee, toDs, toD, loadA, storeA, subA, subD, updA, Eff.on, resA, resVs, resV, lk, finish, frzR, frzVs, frzV, fznR, fzns, fzn, lts, lt, ltO, List.all, pairsOk, indep, reduceCtorEq, Nat.reduceEqDiff, Nat.reduceAdd, Nat.reduceLeDiff, stb, thaws, List.drop, intOfA, binD, binI, unD, mmL, buildA, mkAgg, allD, bslD, behind, behind0, takeAt, frzAs, frzA, adoptR, adopt, isD, isD0, trim, List.take, binS, sliceA, bnd, zOk, elems, Nat.reduceBNe, inpl, Nat.reduceLT, Nat.reduceBEq, Nat.reduceSub, Nat.reduceMul, Int.reduceLT, Int.reduceLE, Int.reduceEq, Int.reduceToNat, Int.reduceNeg, thaw, nodup, refsV, adopts, Pk.TY_Ans]
    simp only [Option.bind_assoc]
    refine bind_run (main _ rfl rfl rfl rfl) ?_
    rintro e T H' ⟨rfl, ⟨rfl, h5, h4⟩ | ⟨rfl, h5⟩⟩
    · rw [h5]
      simp (config := {decide := true}) only [h4, R, K, N, O, Pk.EVL, keepT, enum, ↓reduceIte, ev, act, appT, callee, toDs, toD, loadA, storeA, subA, subD, updA, Eff.on, resA, resVs, resV, lk, finish, frzR, frzVs, frzV, fznR, fzns, fzn, lts, lt, ltO, List.all, pairsOk, indep, reduceCtorEq, Nat.reduceEqDiff, Nat.reduceAdd, Nat.reduceLeDiff, stb, thaws, List.drop, intOfA, binD, binI, unD, mmL, buildA, mkAgg, allD, bslD, behind, behind0, takeAt, frzAs, frzA, adoptR, adopt, isD, isD0, trim, List.take, binS, sliceA, bnd, zOk, elems, Nat.reduceBNe, inpl, Nat.reduceLT, Nat.reduceBEq, Nat.reduceSub, Nat.reduceMul, Int.reduceLT, Int.reduceLE, Int.reduceEq, Int.reduceToNat, Int.reduceNeg, thaw, nodup, refsV, adopts]
    · rw [h5]
      simp (config := {decide := true}) only [R, K, N, O, Pk.EVL, keepT, enum, ↓reduceIte, ev, act, appT, callee, toDs, toD, loadA, storeA, subA, subD, updA, Eff.on, resA, resVs, resV, lk, finish, frzR, frzVs, frzV, fznR, fzns, fzn, lts, lt, ltO, List.all, pairsOk, indep, reduceCtorEq, Nat.reduceEqDiff, Nat.reduceAdd, Nat.reduceLeDiff, stb, thaws, List.drop, intOfA, binD, binI, unD, mmL, buildA, mkAgg, allD, bslD, behind, behind0, takeAt, frzAs, frzA, adoptR, adopt, isD, isD0, trim, List.take, binS, sliceA, bnd, zOk, elems, Nat.reduceBNe, inpl, Nat.reduceLT, Nat.reduceBEq, Nat.reduceSub, Nat.reduceMul, Int.reduceLT, Int.reduceLE, Int.reduceEq, Int.reduceToNat, Int.reduceNeg, thaw, nodup, refsV, adopts]
  · simp (config := {decide := true}) only [c_witness_row_read, R, K, N, O, D, fo, hx, w2, Pk.EVL, keepT, enum, ↓reduceIte, ev, act, appT, callee, toDs, toD, loadA, storeA, subA, subD, updA, Eff.on, resA, resVs, resV, lk, finish, frzR, frzVs, frzV, fznR, fzns, fzn, lts, lt, ltO, List.all, pairsOk, indep, reduceCtorEq, Nat.reduceEqDiff, Nat.reduceAdd, Nat.reduceLeDiff, stb, thaws, List.drop, intOfA, binD, binI, unD, mmL, buildA, mkAgg, allD, bslD, behind, behind0, takeAt, frzAs, frzA, adoptR, adopt, isD, isD0, trim, List.take, binS, sliceA, bnd, zOk, elems, Nat.reduceBNe, inpl, Nat.reduceLT, Nat.reduceBEq, Nat.reduceSub, Nat.reduceMul, Int.reduceLT, Int.reduceLE, Int.reduceEq, Int.reduceToNat, Int.reduceNeg, thaw, nodup, refsV, adopts, Pk.TY_Ans, Pk.TY_Entry]
    simp only [Option.bind_assoc]
    refine bind_run (main _ rfl rfl rfl rfl) ?_
    rintro e T H' ⟨rfl, ⟨rfl, h5, h4⟩ | ⟨rfl, h5⟩⟩
    · rw [h5]
      simp (config := {decide := true}) only [h4, R, K, N, O, Pk.EVL, keepT, enum, ↓reduceIte, ev, act, appT, callee, toDs, toD, loadA, storeA, subA, subD, updA, Eff.on, resA, resVs, resV, lk, finish, frzR, frzVs, frzV, fznR, fzns, fzn, lts, lt, ltO, List.all, pairsOk, indep, reduceCtorEq, Nat.reduceEqDiff, Nat.reduceAdd, Nat.reduceLeDiff, stb, thaws, List.drop, intOfA, binD, binI, unD, mmL, buildA, mkAgg, allD, bslD, behind, behind0, takeAt, frzAs, frzA, adoptR, adopt, isD, isD0, trim, List.take, binS, sliceA, bnd, zOk, elems, Nat.reduceBNe, inpl, Nat.reduceLT, Nat.reduceBEq, Nat.reduceSub, Nat.reduceMul, Int.reduceLT, Int.reduceLE, Int.reduceEq, Int.reduceToNat, Int.reduceNeg, thaw, nodup, refsV, adopts]
    · rw [h5]
      simp (config := {decide := true}) only [R, K, N, O, Pk.EVL, keepT, enum, ↓reduceIte, ev, act, appT, callee, toDs, toD, loadA, storeA, subA, subD, updA, Eff.on, resA, resVs, resV, lk, finish, frzR, frzVs, frzV, fznR, fzns, fzn, lts, lt, ltO, List.all, pairsOk, indep, reduceCtorEq, Nat.reduceEqDiff, Nat.reduceAdd, Nat.reduceLeDiff, stb, thaws, List.drop, intOfA, binD, binI, unD, mmL, buildA, mkAgg, allD, bslD, behind, behind0, takeAt, frzAs, frzA, adoptR, adopt, isD, isD0, trim, List.take, binS, sliceA, bnd, zOk, elems, Nat.reduceBNe, inpl, Nat.reduceLT, Nat.reduceBEq, Nat.reduceSub, Nat.reduceMul, Int.reduceLT, Int.reduceLE, Int.reduceEq, Int.reduceToNat, Int.reduceNeg, thaw, nodup, refsV, adopts]
end Go.Proofs.YtlihpaegaikoeaaDoor

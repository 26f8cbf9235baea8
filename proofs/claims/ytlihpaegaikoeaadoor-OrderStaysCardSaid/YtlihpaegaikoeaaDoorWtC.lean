/- One order: whether a state fits; entries laid behind the first ones. -/
import Derived.Test.YtlihpaegaikoeaaDoorWtB
set_option linter.all false
namespace Go.Proofs.YtlihpaegaikoeaaDoor
open Pv Go Pk
set_option maxRecDepth 10000
set_option maxHeartbeats 2000000

/-- The bases behind each entry. -/
def basesL (l : List Entry) : List Base := (List.range l.length).map fun i => baseOf (l.take (i + 1))
theorem basesL_len (l : List Entry) : (basesL l).length = l.length := by simp [basesL]
theorem basesL_get {l : List Entry} {m : Nat} (h0 : 0 < m) (hm : m ≤ l.length) : ((basesL l).map Base.d)[m - 1]? = some (baseOf (l.take m)).d := by
  rw [List.getElem?_map]
  unfold basesL
  rw [List.getElem?_map, List.getElem?_range (by omega)]
  simp only [Option.map_some]
  rw [show m - 1 + 1 = m by omega]
theorem basesL_take (l : List Entry) (m : Nat) (hm : m ≤ l.length) : (basesL l).take m = basesL (l.take m) := by
  apply List.ext_getElem?
  intro i
  unfold basesL
  rw [List.getElem?_take]
  by_cases hi : i < m
  · rw [if_pos hi, List.getElem?_map, List.getElem?_map, List.getElem?_range (by omega), List.getElem?_range (by rw [List.length_take]; omega)]
    simp only [Option.map_some]
    rw [List.take_take, show min (i + 1) m = i + 1 by omega]
  · rw [if_neg hi, List.getElem?_eq_none (by rw [List.length_map, List.length_range, List.length_take]; omega)]
theorem basesL_snoc (l : List Entry) (e : Entry) : basesL (l ++ [e]) = basesL l ++ [baseOf (l ++ [e])] := by
  unfold basesL
  rw [List.length_append, List.length_singleton, List.range_succ, List.map_append]
  congr 1
  · apply List.map_congr_left
    intro i hi
    rw [List.mem_range] at hi
    rw [List.take_append_of_le_length (by omega)]
  · simp only [List.map_cons, List.map_nil]
    rw [List.take_of_length_le (by simp)]
/-- A row's bases as they are held. -/
def isB (H : Heap) (b : AV) (l : List Entry) : Prop := (b = .nilS ∧ l = []) ∨ ∃ p wr, b = .view p l.length 39 0 l.length ∧ H[p]? = some (.arr ((basesL l).map Base.d) wr)
theorem isB.hf {H : Heap} {b : AV} {l : List Entry} (h : isB H b l) (Y : Heap) : isB (hf H Y) b l := by
  rcases h with h | ⟨p, wr, h1, h2⟩
  · exact .inl h
  · exact .inr ⟨p, wr, h1, hf_old h2 Y⟩
theorem rb_at {H : Heap} (hok : okH H) {o : Nat} {W : W4} (ho : H[o]? = some (.box (.agg W.cs))) {g : Nat} (hg : g < 4) {l : List Entry} (hB : isB H (W.get g).b l) (m : Nat) (hm : m ≤ l.length) (hl : l.length ≤ 1000) :
    evF C F_witness_row_base [.ptr o (g * 4), .d (.i .u32 (m : Nat))] H = some (.d (.agg (baseOf (l.take m)).cs), H) := by
  refine rbase_at hok ho hg m (by omega) _ ?_
  by_cases h0 : m = 0
  · subst h0; exact .inl ⟨rfl, rfl⟩
  · refine .inr ⟨by omega, ?_⟩
    rcases hB with ⟨_, rfl⟩ | ⟨p, wr, h1, h2⟩
    · simp at hm; exact absurd hm h0
    · exact ⟨p, _, wr, by rw [List.length_map, basesL_len]; exact h1, h2, basesL_get (by omega) hm⟩

/-- Can a state be what an active one has? -/
def fitsL (l : List Entry) (acked : Int) (s : State) : Bool :=
  !(decide ((headS s).2 < acked) || (decide (s.tail.n > (l.length : Int)) || !decide (baseOf (l.take s.tail.n.toNat) = s.base))) && !(idxE (partE l acked) s.log).isSome

theorem fits_at {H : Heap} (hok : okH H) {o : Nat} {W : W4} (ho : H[o]? = some (.box (.agg W.cs))) {g : Nat} (hg : g < 4) {l : List Entry} (hL : isL (W.get g).l l) (hB : isB H (W.get g).b l)
    (hl : l.length ≤ 1000) (hac : (W.get g).acked ≤ l.length) (s : State) (hs : isSt s = true) (hso : stOk s) :
    evF C F_witness_row_fits [.ptr o (g * 4), .d (.agg s.cs)] H = some (.d (.b (fitsL l (W.get g).acked s)), H) := by
  obtain ⟨n, hn⟩ : ∃ n, H.length = n := ⟨_, rfl⟩
  have hlt : o < n := hn ▸ (List.getElem?_eq_some_iff.1 ho).1
  obtain ⟨tn, htn⟩ : ∃ tn : Nat, s.tail.n = (tn : Int) := ⟨s.tail.n.toNat, by have := hso.1; omega⟩
  have hlog := isSt_len hs
  have hrange : ∀ e ∈ s.log, 1 ≤ e.n ∧ e.n < 4294967296 := by
    intro e he
    obtain ⟨i, hi⟩ := List.getElem?_of_mem he
    have h1 := (chain_n hso.1 (isSt_chain hs)).1 i e hi
    have h2 := (last_n hso hs)
    have h3 : i < s.log.length := (List.getElem?_eq_some_iff.1 hi).1
    omega
  have key : evF C F_witness_row_fits [.ptr o (g * 4), .d (.agg s.cs)] (hf H []) = some (.d (.b (fitsL l (W.get g).acked s)), hf H []) := by
    have R := hf_rules hn
    have K := ok_rules hn hok
    have N := n_rules n
    have O := o_rules hlt
    have ho' := hf_old ho
    have D := W4.rds hg
    have hh := head_at s
    have w0 : IntKind.u32.wrap 0 = 0 := by decide
    have w1 : IntKind.u32.wrap ((l.length : Nat) : Int) = ((l.length : Nat) : Int) := wu32 (by omega)
    have cf : ∀ Y : Heap, okH (hf H Y) → Y[0]? = some (.box (.ptr o (g * 4))) → evF C F_slices_ContainsFunc_sapi_Entry_api_Entry [.d (.sl (s.log.map Entry.d)), .fn F_witness_row_fits_1 [] [.ptr n 0]] (hf H Y) = some (.d (.b (idxE (partE l (W.get g).acked) s.log).isSome), hf H Y) := by
      intro Y hY h0
      have hq : (hf H Y)[n]? = some (.box (.ptr o (g * 4))) := by rw [hf_at0 hn, h0]
      exact contf_at hY (.inr rfl) (by omega) (List.getElem?_eq_some_iff.1 hq).1 fun e he => fits1_at hY (ho' Y) hg hq hL e (hrange e he) hac hl
    have hlA : ∀ k : Nat, W.lt (n + k) = true := fun k => lts_mono (by omega) _ (hn ▸ okH_at hok ho)
    rw [evF_code (rfl : C F_witness_row_fits = some a_witness_row_fits) _ _ rfl]
    unfold fitsL
    rcases Bool.eq_false_or_eq_true (decide ((headS s).2 < (W.get g).acked)) with c1 | c1
    · simp (config := {decide := true}) only [c_witness_row_fits, R, K, N, O, ho', D, hh, c1, Pk.EVL, keepT, enum, ↓reduceIte, ev, act, appT, callee, toDs, toD, loadA, storeA, subA, subD, updA, Eff.on, resA, resVs, resV, lk, finish, frzR, frzVs, frzV, fznR, fzns, fzn, lts, lt, ltO, List.all, pairsOk, indep, reduceCtorEq, Nat.reduceEqDiff, Nat.reduceAdd, Nat.reduceLeDiff, stb, thaws, List.drop, intOfA, binD, binI, unD, mmL, buildA, mkAgg, allD, bslD, behind, behind0, takeAt, frzAs, frzA, adoptR, adopt, isD, isD0, trim, List.take, binS, sliceA, bnd, zOk, elems, Nat.reduceBNe, inpl, Nat.reduceLT, Nat.reduceBEq, Nat.reduceSub, Nat.reduceMul, Int.reduceLT, Int.reduceLE, Int.reduceEq, Int.reduceToNat, Int.reduceNeg, thaw, nodup, refsV, adopts, Pk.TY_State]
    · rcases Bool.eq_false_or_eq_true (decide (s.tail.n > (l.length : Int))) with c2 | c2
      · rcases hL with ⟨hx, rfl⟩ | hx
        · have c2' : decide (s.tail.n > 0) = true := by simpa using c2
          rw [c2]
          simp (config := {decide := true}) only [c_witness_row_fits, R, K, N, O, ho', D, hh, c1, c2', c2, hx, w0, Pk.EVL, keepT, enum, ↓reduceIte, ev, act, appT, callee, toDs, toD, loadA, storeA, subA, subD, updA, Eff.on, resA, resVs, resV, lk, finish, frzR, frzVs, frzV, fznR, fzns, fzn, lts, lt, ltO, List.all, pairsOk, indep, reduceCtorEq, Nat.reduceEqDiff, Nat.reduceAdd, Nat.reduceLeDiff, stb, thaws, List.drop, intOfA, binD, binI, unD, mmL, buildA, mkAgg, allD, bslD, behind, behind0, takeAt, frzAs, frzA, adoptR, adopt, isD, isD0, trim, List.take, binS, sliceA, bnd, zOk, elems, Nat.reduceBNe, inpl, Nat.reduceLT, Nat.reduceBEq, Nat.reduceSub, Nat.reduceMul, Int.reduceLT, Int.reduceLE, Int.reduceEq, Int.reduceToNat, Int.reduceNeg, thaw, nodup, refsV, adopts, Pk.TY_State]
        · simp (config := {decide := true}) only [c_witness_row_fits, R, K, N, O, ho', D, hh, c1, c2, hx, w1, Pk.EVL, keepT, enum, ↓reduceIte, ev, act, appT, callee, toDs, toD, loadA, storeA, subA, subD, updA, Eff.on, resA, resVs, resV, lk, finish, frzR, frzVs, frzV, fznR, fzns, fzn, lts, lt, ltO, List.all, pairsOk, indep, reduceCtorEq, Nat.reduceEqDiff, Nat.reduceAdd, Nat.reduceLeDiff, stb, thaws, List.drop, intOfA, binD, binI, unD, mmL, buildA, mkAgg, allD, bslD, behind, behind0, takeAt, frzAs, frzA, adoptR, adopt, isD, isD0, trim, List.take, binS, sliceA, bnd, zOk, elems, Nat.reduceBNe, inpl, Nat.reduceLT, Nat.reduceBEq, Nat.reduceSub, Nat.reduceMul, Int.reduceLT, Int.reduceLE, Int.reduceEq, Int.reduceToNat, Int.reduceNeg, thaw, nodup, refsV, adopts, Pk.TY_State, Pk.TY_Entry]
      · have htl : tn ≤ l.length := by
          simp only [htn, decide_eq_false_iff_not] at c2
          omega
        have rb : ∀ Y : Heap, okH (hf H Y) → evF C F_witness_row_base [.ptr o (g * 4), .d (.i .u32 s.tail.n)] (hf H Y) = some (.d (.agg (baseOf (l.take s.tail.n.toNat)).cs), hf H Y) := by
          intro Y hY
          rw [htn, Int.toNat_natCast]
          exact rb_at hY (ho' Y) hg (hB.hf Y) tn htl hl
        rcases hL with ⟨hx, rfl⟩ | hx
        · have c2' : decide (s.tail.n > 0) = false := by simpa using c2
          rw [c2]
          rcases Bool.eq_false_or_eq_true (decide (baseOf (List.take s.tail.n.toNat []) = s.base)) with c3 | c3
          · simp (config := {decide := true}) only [c_witness_row_fits, R, K, N, O, ho', D, hh, c1, c2', c2, c3, hx, w0, rb, cf, sameH_self, Pk.EVL, keepT, enum, ↓reduceIte, ev, act, appT, callee, toDs, toD, loadA, storeA, subA, subD, updA, Eff.on, resA, resVs, resV, lk, finish, frzR, frzVs, frzV, fznR, fzns, fzn, lts, lt, ltO, List.all, pairsOk, indep, reduceCtorEq, Nat.reduceEqDiff, Nat.reduceAdd, Nat.reduceLeDiff, stb, thaws, List.drop, intOfA, binD, binI, unD, mmL, buildA, mkAgg, allD, bslD, behind, behind0, takeAt, frzAs, frzA, adoptR, adopt, isD, isD0, trim, List.take, binS, sliceA, bnd, zOk, elems, Nat.reduceBNe, inpl, Nat.reduceLT, Nat.reduceBEq, Nat.reduceSub, Nat.reduceMul, Int.reduceLT, Int.reduceLE, Int.reduceEq, Int.reduceToNat, Int.reduceNeg, thaw, nodup, refsV, adopts, Pk.TY_State, Pk.TY_Base]
          · simp (config := {decide := true}) only [c_witness_row_fits, R, K, N, O, ho', D, hh, c1, c2', c2, c3, hx, w0, rb, sameH_self, Pk.EVL, keepT, enum, ↓reduceIte, ev, act, appT, callee, toDs, toD, loadA, storeA, subA, subD, updA, Eff.on, resA, resVs, resV, lk, finish, frzR, frzVs, frzV, fznR, fzns, fzn, lts, lt, ltO, List.all, pairsOk, indep, reduceCtorEq, Nat.reduceEqDiff, Nat.reduceAdd, Nat.reduceLeDiff, stb, thaws, List.drop, intOfA, binD, binI, unD, mmL, buildA, mkAgg, allD, bslD, behind, behind0, takeAt, frzAs, frzA, adoptR, adopt, isD, isD0, trim, List.take, binS, sliceA, bnd, zOk, elems, Nat.reduceBNe, inpl, Nat.reduceLT, Nat.reduceBEq, Nat.reduceSub, Nat.reduceMul, Int.reduceLT, Int.reduceLE, Int.reduceEq, Int.reduceToNat, Int.reduceNeg, thaw, nodup, refsV, adopts, Pk.TY_State, Pk.TY_Base]
        · rcases Bool.eq_false_or_eq_true (decide (baseOf (List.take s.tail.n.toNat l) = s.base)) with c3 | c3
          · simp (config := {decide := true}) only [c_witness_row_fits, R, K, N, O, ho', D, hh, c1, c2, c3, hx, w1, rb, cf, sameH_self, Pk.EVL, keepT, enum, ↓reduceIte, ev, act, appT, callee, toDs, toD, loadA, storeA, subA, subD, updA, Eff.on, resA, resVs, resV, lk, finish, frzR, frzVs, frzV, fznR, fzns, fzn, lts, lt, ltO, List.all, pairsOk, indep, reduceCtorEq, Nat.reduceEqDiff, Nat.reduceAdd, Nat.reduceLeDiff, stb, thaws, List.drop, intOfA, binD, binI, unD, mmL, buildA, mkAgg, allD, bslD, behind, behind0, takeAt, frzAs, frzA, adoptR, adopt, isD, isD0, trim, List.take, binS, sliceA, bnd, zOk, elems, Nat.reduceBNe, inpl, Nat.reduceLT, Nat.reduceBEq, Nat.reduceSub, Nat.reduceMul, Int.reduceLT, Int.reduceLE, Int.reduceEq, Int.reduceToNat, Int.reduceNeg, thaw, nodup, refsV, adopts, Pk.TY_State, Pk.TY_Entry, Pk.TY_Base]
          · simp (config := {decide := true}) only [c_witness_row_fits, R, K, N, O, ho', D, hh, c1, c2, c3, hx, w1, rb, sameH_self, Pk.EVL, keepT, enum, ↓reduceIte, ev, act, appT, callee, toDs, toD, loadA, storeA, subA, subD, updA, Eff.on, resA, resVs, resV, lk, finish, frzR, frzVs, frzV, fznR, fzns, fzn, lts, lt, ltO, List.all, pairsOk, indep, reduceCtorEq, Nat.reduceEqDiff, Nat.reduceAdd, Nat.reduceLeDiff, stb, thaws, List.drop, intOfA, binD, binI, unD, mmL, buildA, mkAgg, allD, bslD, behind, behind0, takeAt, frzAs, frzA, adoptR, adopt, isD, isD0, trim, List.take, binS, sliceA, bnd, zOk, elems, Nat.reduceBNe, inpl, Nat.reduceLT, Nat.reduceBEq, Nat.reduceSub, Nat.reduceMul, Int.reduceLT, Int.reduceLE, Int.reduceEq, Int.reduceToNat, Int.reduceNeg, thaw, nodup, refsV, adopts, Pk.TY_State, Pk.TY_Entry, Pk.TY_Base]
  rwa [hf_nil] at key
end Go.Proofs.YtlihpaegaikoeaaDoor

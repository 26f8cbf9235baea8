/- One order: what was acknowledged stays: the loops of the law OrderStays. / One order: what was acknowledged stays: a group's round of the law OrderStays. -/
import Derived.Test.YtlihpaegaikoeaaDoorWtS
set_option linter.all false
namespace Go.Proofs.YtlihpaegaikoeaaDoor
open Pv Go Pk
set_option maxRecDepth 10000
set_option maxHeartbeats 4000000

theorem in_round {G : Heap} {L : Nat → Lr} {c : Nat → Nat} (h : LS G L c) {k : Nat} (hk : k < 4) {j : Nat} (hj : j < (L k).acked) (hc : j + 1 ≤ c k ∨ c k = j) (x0 : List WStep) (i v : Int) :
    ∃ T' H', evC C l_paddocklaw23_OrderStays_0 [(0, .d (.sl (x0.map WStep.d))), (3, .ptr 0 0), (4, .ptr 1 0), (5, .d (.i .i64 i)), (7, .d (.i .i64 v)), (8, .d (.i .u8 (k : Int))), (9, .d (.i .i64 ((L k).acked : Int))), (10, .d (.i .i64 ((j + 1 : Nat) : Int)))] G = some (.nrm, T', H') ∧
      lk T' 0 = .d (.sl (x0.map WStep.d)) ∧ lk T' 3 = .ptr 0 0 ∧ lk T' 4 = .ptr 1 0 ∧ lk T' 5 = .d (.i .i64 i) ∧ lk T' 7 = .d (.i .i64 v) ∧ lk T' 8 = .d (.i .u8 (k : Int)) ∧ lk T' 9 = .d (.i .i64 ((L k).acked : Int)) ∧ lk T' 10 = .d (.i .i64 ((j + 1 + 1 : Nat) : Int)) ∧
      G.length ≤ H'.length ∧ LS H' L (updC c k (max (c k) (j + 1))) := by
  have hS := h
  obtain ⟨⟨V, hO, A, hA, hnd, hr⟩, hok, hle⟩ := h
  obtain ⟨hl990, hlo, hacl⟩ := hok k hk
  obtain ⟨n, hn⟩ : ∃ n, G.length = n := ⟨_, rfl⟩
  have h1n : 1 < n := hn ▸ (List.getElem?_eq_some_iff.1 hA).1
  have R := hf_rules hn
  have K := ok_rules hn hO.1
  have N := n_rules n
  have O0 := o_rules (show 0 < n by omega)
  have O1 := o_rules h1n
  have fA := hf_old hA
  have pg : ∀ x, G ++ [x] = hf G [x] := fun _ => rfl
  obtain ⟨e, he⟩ : ∃ e, (L k).l[j]? = some e := ⟨(L k).l[j]'(by omega), List.getElem?_eq_getElem _⟩
  have hat : evF C F_witness_Order_At [.ptr 0 0, .d (.i .u8 (k : Int)), .d (.i .u32 ((j + 1 : Nat) : Int))] G = some (.tup [.d (.agg e.cs), .d (.b true)], G) := by
    have := at_at hO hok k (j + 1) (by omega)
    unfold atL at this
    rw [if_neg (by simp; omega), show j + 1 - 1 = j by omega, he] at this
    exact this
  have hd : decide (((j + 1 : Nat) : Int) ≤ (((L k).acked : Nat) : Int)) = true := by simp; omega
  have w1 : IntKind.u32.wrap ((j + 1 : Nat) : Int) = ((j + 1 : Nat) : Int) := wu32 (by omega)
  have w2 : IntKind.i64.wrap (((j + 1 : Nat) : Int) + 1) = ((j + 1 + 1 : Nat) : Int) := wi64 (by omega)
  have w3 : IntKind.i64.wrap (((j + 1 : Nat) : Int) - 1) = ((j : Nat) : Int) := by rw [show ((j + 1 : Nat) : Int) - 1 = ((j : Nat) : Int) by omega]; exact wi64 (by omega)
  have bk : (0 ≤ (k : Int) ∧ (k : Int) < ((4 : Nat) : Int)) = True := eq_true (by omega)
  have k4 : (k + 1 ≤ 4) = True := eq_true (by omega)
  have D := Q4.rd hk
  have U := Q4.wr hk
  have bj : (0 ≤ ((j : Nat) : Int)) = True := eq_true (by omega)
  rcases hr k hk with ⟨ha, hc0⟩ | ⟨q, wr, hq1, hq2, hq3, hq4⟩
  · -- the first entry
    have hj0 : j = 0 := by omega
    subst hj0
    have c1 : decide (((0 + 1 : Nat) : Int) ≤ 0) = false := by decide
    have c2 : decide (((0 + 1 : Nat) : Int) > 0) = true := by decide
    have so1 : ∀ (Y : Heap) (y : Ob), (hf G Y).set 1 y = hf (G.set 1 y) Y := fun Y y => hf_setO hn h1n Y y
    have mk := Q4.allD (Q4.nd_set hnd k (x := .view (n + 2) 1 8 0 1) rfl)
    have lim : (1 ≤ LIM) = True := eq_true (by decide)
    have hnew := LS.app0 hO hA hnd hr hok hle hk hc0 he (by omega) (Y := [.box (.d (.agg e.cs)), .arr [.agg e.cs] true, .arr [.agg e.cs] true]) rfl (q := n + 2) (by omega) (by rw [hn, show n + 2 - n = 2 by omega]; rfl)
    rw [show max (c k) (0 + 1) = 1 by omega]
    simp (config := {decide := true}) only [l_paddocklaw23_OrderStays_0, R, K, N, O0, O1, fA, pg, hat, hd, w1, w2, w3, bk, k4, D, U, ha, c1, c2, so1, mk, lim, Q4.len, hn, Nat.mul_one, Int.toNat_natCast, Pk.EVL, keepT, enum, ↓reduceIte, ev, act, appT, callee, toDs, toD, loadA, storeA, subA, subD, updA, Eff.on, resA, resVs, resV, lk, finish, frzR, frzVs, frzV, fznR, fzns, fzn, lts, lt, ltO, List.all, pairsOk, indep, reduceCtorEq, Nat.reduceEqDiff, Nat.reduceAdd, Nat.reduceLeDiff, stb, thaws, List.drop, intOfA, binD, binI, unD, mmL, buildA, mkAgg, allD, bslD, behind, behind0, takeAt, frzAs, frzA, adoptR, adopt, isD, isD0, trim, List.take, binS, sliceA, bnd, zOk, elems, Nat.reduceBNe, inpl, Nat.reduceLT, Nat.reduceBEq, Nat.reduceSub, Nat.reduceMul, Int.reduceLT, Int.reduceLE, Int.reduceEq, Int.reduceToNat, Int.reduceNeg, thaw, nodup, refsV, adopts, Pk.TY_Entry]
    exact ⟨_, _, rfl, rfl, rfl, rfl, rfl, rfl, rfl, rfl, rfl, by rw [hf_len (n := n) (by rw [List.length_set, hn])]; omega, hnew⟩
  · have hqn : q < n := hn ▸ (List.getElem?_eq_some_iff.1 hq2).1
    have hq11 : q ≠ 1 := by rintro rfl; rw [hA] at hq2; cases hq2
    have Oq := o_rules hqn
    have fq := hf_old hq2
    have hlen : (((L k).l.take (c k)).map Entry.d).length = c k := by rw [List.length_map, List.length_take]; have := hle k hk; omega
    have hlen' : min (c k) (L k).l.length = c k := by have := hle k hk; omega
    rcases hc with hc | hc
    · -- it is in the list
      have c1 : decide (((j + 1 : Nat) : Int) ≤ ((c k : Nat) : Int)) = true := by simp; omega
      have c2 : decide (((j + 1 : Nat) : Int) > ((c k : Nat) : Int)) = false := by simp; omega
      have hej : (((L k).l.take (c k)).map Entry.d)[j]? = some e.d := by rw [List.getElem?_map, List.getElem?_take, if_pos (by omega), he]; rfl
      have bjc : (((j : Nat) : Int) < ((c k : Nat) : Int)) = True := eq_true (by omega)
      have d0 : (!decide (e = e)) = false := by simp
      have hup : updC c k (max (c k) (j + 1)) = c := by
        funext x
        unfold updC
        split
        · rename_i hx; rw [hx]; omega
        · rfl
      have hokE : okH (hf G [.box (.d (.agg e.cs))]) := by rw [hf_ok hn hO.1]; rfl
      have hnew := hS.push hokE
      rw [hup]
      simp (config := {decide := true}) only [l_paddocklaw23_OrderStays_0, R, K, N, O0, O1, Oq, fA, fq, pg, hat, hd, w1, w2, w3, bk, k4, D, U, hq1, c1, c2, bj, bjc, hlen, hej, d0, Q4.len, hn, Nat.mul_one, Nat.zero_add, Int.toNat_natCast, Pk.EVL, keepT, enum, ↓reduceIte, ev, act, appT, callee, toDs, toD, loadA, storeA, subA, subD, updA, Eff.on, resA, resVs, resV, lk, finish, frzR, frzVs, frzV, fznR, fzns, fzn, lts, lt, ltO, List.all, pairsOk, indep, reduceCtorEq, Nat.reduceEqDiff, Nat.reduceAdd, Nat.reduceLeDiff, stb, thaws, List.drop, intOfA, binD, binI, unD, mmL, buildA, mkAgg, allD, bslD, behind, behind0, takeAt, frzAs, frzA, adoptR, adopt, isD, isD0, trim, List.take, binS, sliceA, bnd, zOk, elems, Nat.reduceBNe, inpl, Nat.reduceLT, Nat.reduceBEq, Nat.reduceSub, Nat.reduceMul, Int.reduceLT, Int.reduceLE, Int.reduceEq, Int.reduceToNat, Int.reduceNeg, thaw, nodup, refsV, adopts, Pk.TY_Entry]
      exact ⟨_, _, rfl, rfl, rfl, rfl, rfl, rfl, rfl, rfl, rfl, by rw [hf_len hn]; omega, hnew⟩
    · -- the next one
      have c1 : decide (((j + 1 : Nat) : Int) ≤ ((c k : Nat) : Int)) = false := by simp; omega
      have c2 : decide (((j + 1 : Nat) : Int) > ((c k : Nat) : Int)) = true := by simp; omega
      have sp : ∀ (Y : Heap) (x : Ob), (hf G Y).set q x = hf (G.set q x) Y := fun Y x => hf_setO hn hqn Y x
      have fo2 : ∀ (Y : Heap) (x : Ob), (hf (G.set q x) Y)[1]? = some (.box (.agg A.cs)) := fun Y x => hf_old (by rw [List.getElem?_set_ne hq11]; exact hA) Y
      have so2 : ∀ (Y : Heap) (x y : Ob), (hf (G.set q x) Y).set 1 y = hf ((G.set q x).set 1 y) Y := fun Y x y => hf_setO (by rw [List.length_set, hn]) h1n Y y
      have mk := Q4.allD (Q4.nd_set hnd k (x := .view q (c k + 1) 8 0 (c k + 1)) rfl)
      have lim : (c k + 1 ≤ LIM) = True := eq_true (by simp [LIM]; omega)
      have hnew := LS.app1 hO hA hnd hr hok hle hk hq1 hq2 hq3 hq4 (e := e) (by rw [hc]; exact he) (by omega) (Y := [.box (.d (.agg e.cs)), .arr [.agg e.cs] true]) rfl
      rw [show max (c k) (j + 1) = c k + 1 by omega]
      simp (config := {decide := true}) only [l_paddocklaw23_OrderStays_0, R, K, N, O0, O1, Oq, fA, fq, pg, hat, hd, w1, w2, w3, bk, k4, D, U, hq1, c1, c2, bj, hlen, sp, fo2, so2, mk, lim, Q4.len, hn, Nat.mul_one, Nat.zero_add, Int.toNat_natCast, Pk.EVL, keepT, enum, ↓reduceIte, ev, act, appT, callee, toDs, toD, loadA, storeA, subA, subD, updA, Eff.on, resA, resVs, resV, lk, finish, frzR, frzVs, frzV, fznR, fzns, fzn, lts, lt, ltO, List.all, pairsOk, indep, reduceCtorEq, Nat.reduceEqDiff, Nat.reduceAdd, Nat.reduceLeDiff, stb, thaws, List.drop, intOfA, binD, binI, unD, mmL, buildA, mkAgg, allD, bslD, behind, behind0, takeAt, frzAs, frzA, adoptR, adopt, isD, isD0, trim, List.take, binS, sliceA, bnd, zOk, elems, Nat.reduceBNe, inpl, Nat.reduceLT, Nat.reduceBEq, Nat.reduceSub, Nat.reduceMul, Int.reduceLT, Int.reduceLE, Int.reduceEq, Int.reduceToNat, Int.reduceNeg, thaw, nodup, refsV, adopts, Pk.TY_Entry]
      exact ⟨_, _, rfl, rfl, rfl, rfl, rfl, rfl, rfl, rfl, rfl, by rw [hf_len (n := n) (by rw [List.length_set, List.length_set, hn])]; omega, hnew⟩
end Go.Proofs.YtlihpaegaikoeaaDoor

namespace Go.Proofs.YtlihpaegaikoeaaDoor
open Pv Go Pk
set_option maxRecDepth 10000
set_option maxHeartbeats 4000000

theorem trim_len {n : Nat} {H : Heap} (h : n ≤ H.length) (vs : List AV) : n ≤ (trim n vs H).length := by
  rcases trim_cases n vs H with e | ⟨e, _⟩
  · rw [e]; exact h
  · rw [e, List.length_take]; omega

theorem mid_round {G : Heap} {L : Nat → Lr} {c : Nat → Nat} (h : LS G L c) {k : Nat} (hk : k < 4) (x0 : List WStep) (i v : Int) :
    ∃ T' H', evC C l_paddocklaw23_OrderStays_1 [(0, .d (.sl (x0.map WStep.d))), (3, .ptr 0 0), (4, .ptr 1 0), (5, .d (.i .i64 i)), (7, .d (.i .i64 v)), (8, .d (.i .u8 (k : Int)))] G = some (.nrm, T', H') ∧
      lk T' 0 = .d (.sl (x0.map WStep.d)) ∧ lk T' 3 = .ptr 0 0 ∧ lk T' 4 = .ptr 1 0 ∧ lk T' 5 = .d (.i .i64 i) ∧ lk T' 7 = .d (.i .i64 v) ∧ lk T' 8 = .d (.i .u8 ((k + 1 : Nat) : Int)) ∧
      G.length ≤ H'.length ∧ LS H' L (updC c k (L k).acked) := by
  have hS := h
  obtain ⟨⟨V, hO, A, hA, hnd, hr⟩, hok, hle⟩ := h
  obtain ⟨hl990, hlo, hacl⟩ := hok k hk
  have hck := hle k hk
  obtain ⟨n, hn⟩ : ∃ n, G.length = n := ⟨_, rfl⟩
  have h1n : 1 < n := hn ▸ (List.getElem?_eq_some_iff.1 hA).1
  have hak := acked_at hO k
  rw [if_pos hk] at hak
  have hln := len_at hO k
  rw [if_pos hk] at hln
  have bk : (0 ≤ (k : Int) ∧ (k : Int) < ((4 : Nat) : Int)) = True := eq_true (by omega)
  have d4 : decide ((k : Int) < 4) = true := by simp; omega
  have D := Q4.rd hk
  have w1 : IntKind.i64.wrap (((L k).acked : Nat) : Int) = (((L k).acked : Nat) : Int) := wi64 (by omega)
  have w2 : IntKind.u8.wrap ((k : Int) + 1) = ((k + 1 : Nat) : Int) := by rw [show (k : Int) + 1 = ((k + 1 : Nat) : Int) by omega]; exact wu8 (by omega)
  have c2 : decide ((((L k).acked : Nat) : Int) > (((L k).l.length : Nat) : Int)) = false := by simp; omega
  have hallG : G.all (ltO n) = true := by have := hO.1; unfold okH at this; rwa [hn] at this
  have hll : ∀ x, A.get k = x → (x = .nilS ∧ c k = 0) ∨ (∃ q, x = .view q (c k) 8 0 (c k)) := by
    rintro x rfl
    rcases hr k hk with h | ⟨q, _, h, _⟩
    · exact .inl h
    · exact .inr ⟨q, h⟩
  have loop : ∀ T : Tm, lk T 0 = .d (.sl (x0.map WStep.d)) → lk T 3 = .ptr 0 0 → lk T 4 = .ptr 1 0 → lk T 5 = .d (.i .i64 i) → lk T 7 = .d (.i .i64 v) → lk T 8 = .d (.i .u8 (k : Int)) → lk T 9 = .d (.i .i64 ((L k).acked : Int)) → lk T 10 = .d (.i .i64 1) →
      ∃ e T' H', evL C K_paddocklaw23_OrderStays_0 l_paddocklaw23_OrderStays_0 n T G = some (e, T', H') ∧ (e = .exit 4 ∧ lk T' 0 = .d (.sl (x0.map WStep.d)) ∧ lk T' 3 = .ptr 0 0 ∧ lk T' 4 = .ptr 1 0 ∧ lk T' 5 = .d (.i .i64 i) ∧ lk T' 7 = .d (.i .i64 v) ∧ lk T' 8 = .d (.i .u8 (k : Int)) ∧
        n ≤ H'.length ∧ LS H' L (updC c k (L k).acked)) := by
    intro T t0 t3 t4 t5 t7 t8 t9 t10
    have keep : ∀ (T : Tm) (j : Nat), lk T 0 = .d (.sl (x0.map WStep.d)) → lk T 3 = .ptr 0 0 → lk T 4 = .ptr 1 0 → lk T 5 = .d (.i .i64 i) → lk T 7 = .d (.i .i64 v) → lk T 8 = .d (.i .u8 (k : Int)) → lk T 9 = .d (.i .i64 ((L k).acked : Int)) → lk T 10 = .d (.i .i64 ((j + 1 : Nat) : Int)) →
        keepT K_paddocklaw23_OrderStays_0 T = [(0, .d (.sl (x0.map WStep.d))), (3, .ptr 0 0), (4, .ptr 1 0), (5, .d (.i .i64 i)), (7, .d (.i .i64 v)), (8, .d (.i .u8 (k : Int))), (9, .d (.i .i64 ((L k).acked : Int))), (10, .d (.i .i64 ((j + 1 : Nat) : Int)))] := by
      intro T j h0 h3 h4 h5 h7 h8 h9 h10
      simp only [K_paddocklaw23_OrderStays_0, keepT, List.map, h0, h3, h4, h5, h7, h8, h9, h10]
    refine loop_run (fun j T H => lk T 0 = .d (.sl (x0.map WStep.d)) ∧ lk T 3 = .ptr 0 0 ∧ lk T 4 = .ptr 1 0 ∧ lk T 5 = .d (.i .i64 i) ∧ lk T 7 = .d (.i .i64 v) ∧ lk T 8 = .d (.i .u8 (k : Int)) ∧ lk T 9 = .d (.i .i64 ((L k).acked : Int)) ∧ lk T 10 = .d (.i .i64 ((j + 1 : Nat) : Int)) ∧
        n ≤ H.length ∧ LS H L (updC c k (max (c k) j))) _ (L k).acked ?_ ?_ (L k).acked 0 T G (by omega) ⟨t0, t3, t4, t5, t7, t8, t9, t10, by omega, ?_⟩
    · rintro j T H hj ⟨h0, h3, h4, h5, h7, h8, h9, h10, hlen, hL⟩
      rw [keep T j h0 h3 h4 h5 h7 h8 h9 h10]
      generalize List.map (·.2) [(0, AV.d (.sl (x0.map WStep.d))), (3, .ptr 0 0), (4, .ptr 1 0), (5, .d (.i .i64 i)), (7, .d (.i .i64 v)), (8, .d (.i .u8 (k : Int))), (9, .d (.i .i64 ((L k).acked : Int))), (10, .d (.i .i64 ((j + 1 : Nat) : Int)))] = vs
      have hL2 := hL.trim (n := n) (by omega) hlen vs
      have hlen2 := trim_len hlen vs
      generalize Pv.trim n vs H = G2 at *
      have hck2 : updC c k (max (c k) j) k = max (c k) j := if_pos rfl
      obtain ⟨T', H', hr', k0, k3, k4, k5, k7, k8, k9, k10, kl, kL⟩ := in_round hL2 hk hj (by rw [hck2]; omega) x0 i v
      refine ⟨_, _, _, hr', .inl ⟨rfl, k0, k3, k4, k5, k7, k8, k9, k10, by omega, ?_⟩⟩
      have e1 : updC (updC c k (max (c k) j)) k (max (updC c k (max (c k) j) k) (j + 1)) = updC c k (max (c k) (j + 1)) := by
        rw [hck2]
        funext x
        unfold updC
        split
        · omega
        · rfl
      rwa [e1] at kL
    · rintro T H ⟨h0, h3, h4, h5, h7, h8, h9, h10, hlen, hL⟩
      rw [keep T (L k).acked h0 h3 h4 h5 h7 h8 h9 h10]
      generalize List.map (·.2) [(0, AV.d (.sl (x0.map WStep.d))), (3, .ptr 0 0), (4, .ptr 1 0), (5, .d (.i .i64 i)), (7, .d (.i .i64 v)), (8, .d (.i .u8 (k : Int))), (9, .d (.i .i64 ((L k).acked : Int))), (10, .d (.i .i64 (((L k).acked + 1 : Nat) : Int)))] = vs
      have hL2 := hL.trim (n := n) (by omega) hlen vs
      have hlen2 := trim_len hlen vs
      generalize Pv.trim n vs H = G2 at *
      have hd : decide ((((L k).acked + 1 : Nat) : Int) ≤ (((L k).acked : Nat) : Int)) = false := by simp; omega
      simp (config := {decide := true}) only [l_paddocklaw23_OrderStays_0, hd, Pk.EVL, keepT, enum, ↓reduceIte, ev, act, appT, callee, toDs, toD, loadA, storeA, subA, subD, updA, Eff.on, resA, resVs, resV, lk, finish, frzR, frzVs, frzV, fznR, fzns, fzn, lts, lt, ltO, List.all, pairsOk, indep, reduceCtorEq, Nat.reduceEqDiff, Nat.reduceAdd, Nat.reduceLeDiff, stb, thaws, List.drop, intOfA, binD, binI, unD, mmL, buildA, mkAgg, allD, bslD, behind, behind0, takeAt, frzAs, frzA, adoptR, adopt, isD, isD0, trim, List.take, binS, sliceA, bnd, zOk, elems, Nat.reduceBNe, inpl, Nat.reduceLT, Nat.reduceBEq, Nat.reduceSub, Nat.reduceMul, Int.reduceLT, Int.reduceLE, Int.reduceEq, Int.reduceToNat, Int.reduceNeg, thaw, nodup, refsV, adopts]
      refine ⟨_, _, _, rfl, by simp, rfl, rfl, rfl, rfl, rfl, rfl, rfl, hlen2, ?_⟩
      rwa [show max (c k) (L k).acked = (L k).acked by omega] at hL2
    · have e1 : updC c k (max (c k) 0) = c := by
        funext x
        unfold updC
        split
        · rename_i hx; rw [hx]; omega
        · rfl
      rw [e1]
      exact hS
  have key : ∃ r : AExit × Tm × Heap, evC C l_paddocklaw23_OrderStays_1 [(0, .d (.sl (x0.map WStep.d))), (3, .ptr 0 0), (4, .ptr 1 0), (5, .d (.i .i64 i)), (7, .d (.i .i64 v)), (8, .d (.i .u8 (k : Int)))] G = some r ∧
      (r.1 = .nrm ∧ lk r.2.1 0 = .d (.sl (x0.map WStep.d)) ∧ lk r.2.1 3 = .ptr 0 0 ∧ lk r.2.1 4 = .ptr 1 0 ∧ lk r.2.1 5 = .d (.i .i64 i) ∧ lk r.2.1 7 = .d (.i .i64 v) ∧ lk r.2.1 8 = .d (.i .u8 ((k + 1 : Nat) : Int)) ∧
        G.length ≤ r.2.2.length ∧ LS r.2.2 L (updC c k (L k).acked)) := by
    rcases hll _ rfl with ⟨ha, hc0⟩ | ⟨q, hq⟩
    · have c1 : decide ((((L k).acked : Nat) : Int) < 0) = false := by simp
      simp (config := {decide := true}) only [l_paddocklaw23_OrderStays_1, d4, hak, hln, w1, bk, hA, D, ha, c1, c2, hn, hallG, Nat.mul_one, Nat.zero_add, Int.toNat_natCast, sameH_self, Pk.EVL, keepT, enum, ↓reduceIte, ev, act, appT, callee, toDs, toD, loadA, storeA, subA, subD, updA, Eff.on, resA, resVs, resV, lk, finish, frzR, frzVs, frzV, fznR, fzns, fzn, lts, lt, ltO, List.all, pairsOk, indep, reduceCtorEq, Nat.reduceEqDiff, Nat.reduceAdd, Nat.reduceLeDiff, stb, thaws, List.drop, intOfA, binD, binI, unD, mmL, buildA, mkAgg, allD, bslD, behind, behind0, takeAt, frzAs, frzA, adoptR, adopt, isD, isD0, trim, List.take, binS, sliceA, bnd, zOk, elems, Nat.reduceBNe, inpl, Nat.reduceLT, Nat.reduceBEq, Nat.reduceSub, Nat.reduceMul, Int.reduceLT, Int.reduceLE, Int.reduceEq, Int.reduceToNat, Int.reduceNeg, thaw, nodup, refsV, adopts]
      simp only [Option.bind_assoc]
      refine run_ex (loop _ rfl rfl rfl rfl rfl rfl rfl rfl) ?_
      rintro e T' H' ⟨rfl, k0, k3, k4, k5, k7, k8, kl, kL⟩
      simp (config := {decide := true}) only [k0, k3, k4, k5, k7, k8, w2, Pk.EVL, keepT, enum, ↓reduceIte, ev, act, appT, callee, toDs, toD, loadA, storeA, subA, subD, updA, Eff.on, resA, resVs, resV, lk, finish, frzR, frzVs, frzV, fznR, fzns, fzn, lts, lt, ltO, List.all, pairsOk, indep, reduceCtorEq, Nat.reduceEqDiff, Nat.reduceAdd, Nat.reduceLeDiff, stb, thaws, List.drop, intOfA, binD, binI, unD, mmL, buildA, mkAgg, allD, bslD, behind, behind0, takeAt, frzAs, frzA, adoptR, adopt, isD, isD0, trim, List.take, binS, sliceA, bnd, zOk, elems, Nat.reduceBNe, inpl, Nat.reduceLT, Nat.reduceBEq, Nat.reduceSub, Nat.reduceMul, Int.reduceLT, Int.reduceLE, Int.reduceEq, Int.reduceToNat, Int.reduceNeg, thaw, nodup, refsV, adopts]
      exact ⟨_, rfl, rfl, rfl, rfl, rfl, rfl, rfl, rfl, by omega, kL⟩
    · have c1 : decide ((((L k).acked : Nat) : Int) < ((c k : Nat) : Int)) = false := by simp; omega
      simp (config := {decide := true}) only [l_paddocklaw23_OrderStays_1, d4, hak, hln, w1, bk, hA, D, hq, c1, c2, hn, hallG, Nat.mul_one, Nat.zero_add, Int.toNat_natCast, sameH_self, Pk.EVL, keepT, enum, ↓reduceIte, ev, act, appT, callee, toDs, toD, loadA, storeA, subA, subD, updA, Eff.on, resA, resVs, resV, lk, finish, frzR, frzVs, frzV, fznR, fzns, fzn, lts, lt, ltO, List.all, pairsOk, indep, reduceCtorEq, Nat.reduceEqDiff, Nat.reduceAdd, Nat.reduceLeDiff, stb, thaws, List.drop, intOfA, binD, binI, unD, mmL, buildA, mkAgg, allD, bslD, behind, behind0, takeAt, frzAs, frzA, adoptR, adopt, isD, isD0, trim, List.take, binS, sliceA, bnd, zOk, elems, Nat.reduceBNe, inpl, Nat.reduceLT, Nat.reduceBEq, Nat.reduceSub, Nat.reduceMul, Int.reduceLT, Int.reduceLE, Int.reduceEq, Int.reduceToNat, Int.reduceNeg, thaw, nodup, refsV, adopts]
      simp only [Option.bind_assoc]
      refine run_ex (loop _ rfl rfl rfl rfl rfl rfl rfl rfl) ?_
      rintro e T' H' ⟨rfl, k0, k3, k4, k5, k7, k8, kl, kL⟩
      simp (config := {decide := true}) only [k0, k3, k4, k5, k7, k8, w2, Pk.EVL, keepT, enum, ↓reduceIte, ev, act, appT, callee, toDs, toD, loadA, storeA, subA, subD, updA, Eff.on, resA, resVs, resV, lk, finish, frzR, frzVs, frzV, fznR, fzns, fzn, lts, lt, ltO, List.all, pairsOk, indep, reduceCtorEq, Nat.reduceEqDiff, Nat.reduceAdd, Nat.reduceLeDiff, stb, thaws, List.drop, intOfA, binD, binI, unD, mmL, buildA, mkAgg, allD, bslD, behind, behind0, takeAt, frzAs, frzA, adoptR, adopt, isD, isD0, trim, List.take, binS, sliceA, bnd, zOk, elems, Nat.reduceBNe, inpl, Nat.reduceLT, Nat.reduceBEq, Nat.reduceSub, Nat.reduceMul, Int.reduceLT, Int.reduceLE, Int.reduceEq, Int.reduceToNat, Int.reduceNeg, thaw, nodup, refsV, adopts]
      exact ⟨_, rfl, rfl, rfl, rfl, rfl, rfl, rfl, rfl, by omega, kL⟩
  obtain ⟨⟨e, T', H'⟩, hr', he, k0, k3, k4, k5, k7, k8, kl, kL⟩ := key
  dsimp only at he k0 k3 k4 k5 k7 k8 kl kL
  subst he
  exact ⟨T', H', hr', k0, k3, k4, k5, k7, k8, kl, kL⟩
end Go.Proofs.YtlihpaegaikoeaaDoor

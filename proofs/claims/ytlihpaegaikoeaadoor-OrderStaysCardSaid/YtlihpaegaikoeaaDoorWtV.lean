/- One order: what was acknowledged stays: the law OrderStays. -/
import Derived.Test.YtlihpaegaikoeaaDoorWtU
set_option linter.all false
namespace Go.Proofs.YtlihpaegaikoeaaDoor
open Pv Go Pk
set_option maxRecDepth 10000
set_option maxHeartbeats 4000000

theorem zW_w (x : WStep) : upd ([.d (.i .i64 0), .d (.i .u8 0), .d (.i .u32 0), .d (.b false), .d (.s ⟨#[]⟩), .d (.s ⟨#[]⟩), .d (.s ⟨#[]⟩), .d (.s ⟨#[]⟩), .d (.b false), .d (.s ⟨#[]⟩), .d (.s ⟨#[]⟩), .d (.s ⟨#[]⟩), .d (.s ⟨#[]⟩), .d (.b false), .d (.s ⟨#[]⟩), .d (.s ⟨#[]⟩), .d (.s ⟨#[]⟩), .d (.s ⟨#[]⟩), .d (.b false), .d (.s ⟨#[]⟩), .d (.s ⟨#[]⟩), .d (.s ⟨#[]⟩), .d (.s ⟨#[]⟩), .d (.b false), .d (.s ⟨#[]⟩), .d (.s ⟨#[]⟩), .d (.s ⟨#[]⟩), .d (.s ⟨#[]⟩), .d (.b false), .d (.s ⟨#[]⟩), .d (.s ⟨#[]⟩), .d (.s ⟨#[]⟩), .d (.s ⟨#[]⟩), .d (.i .u32 0), .d (.i .u8 0), .d (.s ⟨#[]⟩), .d (.i .u32 0), .d (.i .u8 0), .d (.s ⟨#[]⟩), .d (.i .u32 0), .d (.i .u8 0), .d (.s ⟨#[]⟩), .d (.i .u32 0), .d (.i .u32 0), .d (.i .u8 0), .d (.i .u32 0), .d (.i .u8 0), .d (.i .u8 0), .d (.i .u8 0), .d (.s ⟨#[]⟩), .nilS, .d (.i .u8 0), .d (.i .u32 0), .d (.i .u8 0), .d (.i .u8 0), .d (.i .u8 0), .d (.s ⟨#[]⟩), .d (.i .u8 0), .d (.s ⟨#[]⟩)] : List AV) 0 (List.map AV.d x.cs) = List.map AV.d x.cs := rfl
theorem zW_l : ([.d (.i .i64 0), .d (.i .u8 0), .d (.i .u32 0), .d (.b false), .d (.s ⟨#[]⟩), .d (.s ⟨#[]⟩), .d (.s ⟨#[]⟩), .d (.s ⟨#[]⟩), .d (.b false), .d (.s ⟨#[]⟩), .d (.s ⟨#[]⟩), .d (.s ⟨#[]⟩), .d (.s ⟨#[]⟩), .d (.b false), .d (.s ⟨#[]⟩), .d (.s ⟨#[]⟩), .d (.s ⟨#[]⟩), .d (.s ⟨#[]⟩), .d (.b false), .d (.s ⟨#[]⟩), .d (.s ⟨#[]⟩), .d (.s ⟨#[]⟩), .d (.s ⟨#[]⟩), .d (.b false), .d (.s ⟨#[]⟩), .d (.s ⟨#[]⟩), .d (.s ⟨#[]⟩), .d (.s ⟨#[]⟩), .d (.b false), .d (.s ⟨#[]⟩), .d (.s ⟨#[]⟩), .d (.s ⟨#[]⟩), .d (.s ⟨#[]⟩), .d (.i .u32 0), .d (.i .u8 0), .d (.s ⟨#[]⟩), .d (.i .u32 0), .d (.i .u8 0), .d (.s ⟨#[]⟩), .d (.i .u32 0), .d (.i .u8 0), .d (.s ⟨#[]⟩), .d (.i .u32 0), .d (.i .u32 0), .d (.i .u8 0), .d (.i .u32 0), .d (.i .u8 0), .d (.i .u8 0), .d (.i .u8 0), .d (.s ⟨#[]⟩), .nilS, .d (.i .u8 0), .d (.i .u32 0), .d (.i .u8 0), .d (.i .u8 0), .d (.i .u8 0), .d (.s ⟨#[]⟩), .d (.i .u8 0), .d (.s ⟨#[]⟩)] : List AV).length = 59 := rfl
theorem zW_c : allD ([.d (.i .i64 0), .d (.i .u8 0), .d (.i .u32 0), .d (.b false), .d (.s ⟨#[]⟩), .d (.s ⟨#[]⟩), .d (.s ⟨#[]⟩), .d (.s ⟨#[]⟩), .d (.b false), .d (.s ⟨#[]⟩), .d (.s ⟨#[]⟩), .d (.s ⟨#[]⟩), .d (.s ⟨#[]⟩), .d (.b false), .d (.s ⟨#[]⟩), .d (.s ⟨#[]⟩), .d (.s ⟨#[]⟩), .d (.s ⟨#[]⟩), .d (.b false), .d (.s ⟨#[]⟩), .d (.s ⟨#[]⟩), .d (.s ⟨#[]⟩), .d (.s ⟨#[]⟩), .d (.b false), .d (.s ⟨#[]⟩), .d (.s ⟨#[]⟩), .d (.s ⟨#[]⟩), .d (.s ⟨#[]⟩), .d (.b false), .d (.s ⟨#[]⟩), .d (.s ⟨#[]⟩), .d (.s ⟨#[]⟩), .d (.s ⟨#[]⟩), .d (.i .u32 0), .d (.i .u8 0), .d (.s ⟨#[]⟩), .d (.i .u32 0), .d (.i .u8 0), .d (.s ⟨#[]⟩), .d (.i .u32 0), .d (.i .u8 0), .d (.s ⟨#[]⟩), .d (.i .u32 0), .d (.i .u32 0), .d (.i .u8 0), .d (.i .u32 0), .d (.i .u8 0), .d (.i .u8 0), .d (.i .u8 0), .d (.s ⟨#[]⟩), .nilS, .d (.i .u8 0), .d (.i .u32 0), .d (.i .u8 0), .d (.i .u8 0), .d (.i .u8 0), .d (.s ⟨#[]⟩), .d (.i .u8 0), .d (.s ⟨#[]⟩)] : List AV) = none := rfl

theorem LS.congr {H : Heap} {L : Nat → Lr} {c c' : Nat → Nat} (h : LS H L c) (hc : ∀ k, k < 4 → c k = c' k) : LS H L c' := by
  obtain ⟨⟨V, hO, A, hA, hnd, hr⟩, h2, h3⟩ := h
  exact ⟨⟨V, hO, A, hA, hnd, fun k hk => by rw [← hc k hk]; exact hr k hk⟩, h2, fun k hk => by rw [← hc k hk]; exact h3 k hk⟩

theorem mid_loop {G : Heap} {L : Nat → Lr} {c : Nat → Nat} (h : LS G L c) (x0 : List WStep) (i v : Int) (T : Tm) (t0 : lk T 0 = .d (.sl (x0.map WStep.d))) (t3 : lk T 3 = .ptr 0 0) (t4 : lk T 4 = .ptr 1 0) (t5 : lk T 5 = .d (.i .i64 i)) (t7 : lk T 7 = .d (.i .i64 v)) (t8 : lk T 8 = .d (.i .u8 0)) (n : Nat) (hn : G.length = n) :
    ∃ e T' H', evL C K_paddocklaw23_OrderStays_1 l_paddocklaw23_OrderStays_1 n T G = some (e, T', H') ∧ (e = .exit 2 ∧ lk T' 0 = .d (.sl (x0.map WStep.d)) ∧ lk T' 3 = .ptr 0 0 ∧ lk T' 4 = .ptr 1 0 ∧ lk T' 5 = .d (.i .i64 i) ∧ lk T' 7 = .d (.i .i64 v) ∧
      n ≤ H'.length ∧ LS H' L (fun k => (L k).acked)) := by
  have h1n : 1 < n := by
    obtain ⟨V, hO, A, hA, _⟩ := h.ord
    exact hn ▸ (List.getElem?_eq_some_iff.1 hA).1
  have keep : ∀ (T : Tm) (k : Nat), lk T 0 = .d (.sl (x0.map WStep.d)) → lk T 3 = .ptr 0 0 → lk T 4 = .ptr 1 0 → lk T 5 = .d (.i .i64 i) → lk T 7 = .d (.i .i64 v) → lk T 8 = .d (.i .u8 (k : Int)) →
      keepT K_paddocklaw23_OrderStays_1 T = [(0, .d (.sl (x0.map WStep.d))), (3, .ptr 0 0), (4, .ptr 1 0), (5, .d (.i .i64 i)), (7, .d (.i .i64 v)), (8, .d (.i .u8 (k : Int)))] := by
    intro T k h0 h3 h4 h5 h7 h8
    simp only [K_paddocklaw23_OrderStays_1, keepT, List.map, h0, h3, h4, h5, h7, h8]
  refine loop_run (fun k T H => lk T 0 = .d (.sl (x0.map WStep.d)) ∧ lk T 3 = .ptr 0 0 ∧ lk T 4 = .ptr 1 0 ∧ lk T 5 = .d (.i .i64 i) ∧ lk T 7 = .d (.i .i64 v) ∧ lk T 8 = .d (.i .u8 (k : Int)) ∧ n ≤ H.length ∧ LS H L (fun j => if j < k then (L j).acked else c j)) _ 4 ?_ ?_ 4 0 T G (by omega)
    ⟨t0, t3, t4, t5, t7, t8, by omega, h.congr fun k _ => rfl⟩
  · rintro k T H hk ⟨h0, h3, h4, h5, h7, h8, hlen, hL⟩
    rw [keep T k h0 h3 h4 h5 h7 h8]
    generalize List.map (·.2) [(0, AV.d (.sl (x0.map WStep.d))), (3, .ptr 0 0), (4, .ptr 1 0), (5, .d (.i .i64 i)), (7, .d (.i .i64 v)), (8, .d (.i .u8 (k : Int)))] = vs
    have hL2 := hL.trim (n := n) (by omega) hlen vs
    have hlen2 := trim_len hlen vs
    generalize Pv.trim n vs H = G2 at *
    obtain ⟨T', H', hr', k0, k3, k4, k5, k7, k8, kl, kL⟩ := mid_round hL2 hk x0 i v
    refine ⟨_, _, _, hr', .inl ⟨rfl, k0, k3, k4, k5, k7, k8, by omega, kL.congr fun j _ => ?_⟩⟩
    unfold updC
    dsimp only
    by_cases hjk : j = k
    · rw [if_pos hjk, if_pos (by omega), hjk]
    · rw [if_neg hjk]
      by_cases hj : j < k
      · rw [if_pos hj, if_pos (by omega)]
      · rw [if_neg hj, if_neg (by omega)]
  · rintro T H ⟨h0, h3, h4, h5, h7, h8, hlen, hL⟩
    rw [keep T 4 h0 h3 h4 h5 h7 h8]
    generalize List.map (·.2) [(0, AV.d (.sl (x0.map WStep.d))), (3, .ptr 0 0), (4, .ptr 1 0), (5, .d (.i .i64 i)), (7, .d (.i .i64 v)), (8, .d (.i .u8 ((4 : Nat) : Int)))] = vs
    have hL2 := hL.trim (n := n) (by omega) hlen vs
    have hlen2 := trim_len hlen vs
    generalize Pv.trim n vs H = G2 at *
    have hd : decide (((4 : Nat) : Int) < 4) = false := by decide
    simp (config := {decide := true}) only [l_paddocklaw23_OrderStays_1, hd, Pk.EVL, keepT, enum, ↓reduceIte, ev, act, appT, callee, toDs, toD, loadA, storeA, subA, subD, updA, Eff.on, resA, resVs, resV, lk, finish, frzR, frzVs, frzV, fznR, fzns, fzn, lts, lt, ltO, List.all, pairsOk, indep, reduceCtorEq, Nat.reduceEqDiff, Nat.reduceAdd, Nat.reduceLeDiff, stb, thaws, List.drop, intOfA, binD, binI, unD, mmL, buildA, mkAgg, allD, bslD, behind, behind0, takeAt, frzAs, frzA, adoptR, adopt, isD, isD0, trim, List.take, binS, sliceA, bnd, zOk, elems, Nat.reduceBNe, inpl, Nat.reduceLT, Nat.reduceBEq, Nat.reduceSub, Nat.reduceMul, Int.reduceLT, Int.reduceLE, Int.reduceEq, Int.reduceToNat, Int.reduceNeg, thaw, nodup, refsV, adopts]
    refine ⟨_, _, _, rfl, by simp, rfl, rfl, rfl, rfl, rfl, rfl, hlen2, hL2.congr fun j hj => if_pos hj⟩

/-- A state that is seen, an answer that is taken: the list stays. -/
theorem see_ls {H : Heap} {L : Nat → Lr} {c : Nat → Nat} (h : LS H L c) {M : Nat} (hM : M + 6 ≤ 990) (hl : ∀ k, k < 4 → (L k).l.length ≤ M) (g : Nat) (hg : g < 256) (s : State) (hs : stOk s) :
    ∃ v G, evF C F_witness_Order_See [.ptr 0 0, .d (.i .u8 (g : Int)), .d (.agg s.cs)] H = some (.d (.i .i64 v), G) ∧ (v = 10 ∨ v = 0 ∨ v = 220) ∧ H.length ≤ G.length ∧ Fr 0 H G ∧ ∃ L', LS G L' c ∧ (∀ k, k < 4 → (L' k).l.length ≤ M + 6) := by
  obtain ⟨V, hO, _⟩ := h.ord
  obtain ⟨⟨v, G⟩, hs1, hv1, hO1, hf1⟩ := see_at hO h.ok g hg s hs
  obtain ⟨ok1, len1, st1, e1⟩ := seeL_ok h.ok (g := g) hs hM hl
  dsimp only at hv1 hO1 hf1
  subst hv1
  refine ⟨_, G, hs1, e1, hf1.1, hf1, _, h.step (fun V' hO' => ?_) hf1 ok1 st1, len1⟩
  obtain ⟨⟨v2, G2⟩, hs2, hv2, hO2, hf2⟩ := see_at hO' h.ok g hg s hs
  rw [hs1] at hs2
  injection hs2 with hs2
  injection hs2 with _ hs2
  subst hs2
  exact hO2
theorem took_ls {H : Heap} {L : Nat → Lr} {c : Nat → Nat} (h : LS H L c) {M : Nat} (hl : ∀ k, k < 4 → (L k).l.length ≤ M) (a : Ans) (ha : a.op.ok) :
    ∃ v G, evF C F_witness_Order_Took [.ptr 0 0, .d (.agg a.cs)] H = some (.d (.i .i64 v), G) ∧ (v = 10 ∨ v = 0 ∨ v = 220) ∧ H.length ≤ G.length ∧ Fr 0 H G ∧ ∃ L', LS G L' c ∧ (∀ k, k < 4 → (L' k).l.length ≤ M + 6) := by
  obtain ⟨V, hO, _⟩ := h.ord
  obtain ⟨⟨v, G⟩, hs1, hv1, hO1, hf1⟩ := took_at hO h.ok a ha
  obtain ⟨ok1, len1, st1, e1⟩ := tookL_ok h.ok a
  dsimp only at hv1 hO1 hf1
  subst hv1
  refine ⟨_, G, hs1, e1, hf1.1, hf1, _, h.step (fun V' hO' => ?_) hf1 ok1 (fun k hk => ⟨st1 k hk, by rw [len1]⟩), fun k hk => by rw [len1]; have := hl k hk; omega⟩
  obtain ⟨⟨v2, G2⟩, hs2, hv2, hO2, hf2⟩ := took_at hO' h.ok a ha
  rw [hs1] at hs2
  injection hs2 with hs2
  injection hs2 with _ hs2
  subst hs2
  exact ord_mono hO2 fun p hp => .inl hp

theorem out_round {G : Heap} {L : Nat → Lr} (h : LS G L (fun k => (L k).acked)) {l : List WStep} (hok : ∀ x ∈ l, x.ok) {i : Nat} (hi : i < l.length) (h50 : l.length ≤ 50) (hl : ∀ k, k < 4 → (L k).l.length ≤ 6 * i) :
    ∃ r : AExit × Tm × Heap, evC C l_paddocklaw23_OrderStays_2 [(0, .d (.sl (l.map WStep.d))), (3, .ptr 0 0), (4, .ptr 1 0), (5, .d (.i .i64 (i : Int)))] G = some r ∧
      ((r.1 = .ret ∧ lk r.2.1 2 = .d (.b true)) ∨
       (r.1 = .nrm ∧ lk r.2.1 0 = .d (.sl (l.map WStep.d)) ∧ lk r.2.1 3 = .ptr 0 0 ∧ lk r.2.1 4 = .ptr 1 0 ∧ lk r.2.1 5 = .d (.i .i64 ((i + 1 : Nat) : Int)) ∧ G.length ≤ r.2.2.length ∧ ∃ L', LS r.2.2 L' (fun k => (L' k).acked) ∧ ∀ k, k < 4 → (L' k).l.length ≤ 6 * (i + 1))) := by
  obtain ⟨x, hx⟩ : ∃ x, l[i]? = some x := ⟨l[i], List.getElem?_eq_getElem hi⟩
  have hxok := hok x (List.mem_of_getElem? hx)
  obtain ⟨n, hn⟩ : ∃ n, G.length = n := ⟨_, rfl⟩
  obtain ⟨V, hO, A, hA, hnd, hr⟩ := h.ord
  have h1n : 1 < n := hn ▸ (List.getElem?_eq_some_iff.1 hA).1
  have R := hf_rules hn
  have N := n_rules n
  have O0 := o_rules (show 0 < n by omega)
  have O1 := o_rules h1n
  have pg : ∀ y, G ++ [y] = hf G [y] := fun _ => rfl
  have hd : decide ((i : Int) < ((l.length : Nat) : Int)) = true := by simp; omega
  have hw : IntKind.i64.wrap ((i : Int) + 1) = ((i + 1 : Nat) : Int) := wi64 (by omega)
  have b0 : (0 ≤ (i : Int)) = True := by simp
  have hxe := list_idx WStep.d hx
  have hY : okH (hf G [.box (.d (.agg x.cs))]) := by rw [hf_ok hn hO.1]; rfl
  have hLY := h.push hY
  rcases Bool.eq_false_or_eq_true (decide ((x.s.log.length : Int) > 10)) with c1 | c1
  · simp (config := {decide := true}) only [l_paddocklaw23_OrderStays_2, hd, b0, hxe, pg, R, N, O0, O1, zW_w, zW_l, zW_c, c1, hn, Pk.EVL, keepT, enum, ↓reduceIte, ev, act, appT, callee, toDs, toD, loadA, storeA, subA, subD, updA, Eff.on, resA, resVs, resV, lk, finish, frzR, frzVs, frzV, fznR, fzns, fzn, lts, lt, ltO, List.all, pairsOk, indep, reduceCtorEq, Nat.reduceEqDiff, Nat.reduceAdd, Nat.reduceLeDiff, stb, thaws, List.drop, intOfA, binD, binI, unD, mmL, buildA, mkAgg, allD, bslD, behind, behind0, takeAt, frzAs, frzA, adoptR, adopt, isD, isD0, trim, List.take, binS, sliceA, bnd, zOk, elems, Nat.reduceBNe, inpl, Nat.reduceLT, Nat.reduceBEq, Nat.reduceSub, Nat.reduceMul, Int.reduceLT, Int.reduceLE, Int.reduceEq, Int.reduceToNat, Int.reduceNeg, thaw, nodup, refsV, adopts, Pk.TY_WStep, Pk.TY_Entry]
    exact ⟨_, rfl, .inl ⟨rfl, rfl⟩⟩
  rcases Bool.eq_false_or_eq_true (decide ((x.a.r.data.size : Int) > 200)) with c2 | c2
  · simp (config := {decide := true}) only [l_paddocklaw23_OrderStays_2, hd, b0, hxe, pg, R, N, O0, O1, zW_w, zW_l, zW_c, c1, c2, hn, Pk.EVL, keepT, enum, ↓reduceIte, ev, act, appT, callee, toDs, toD, loadA, storeA, subA, subD, updA, Eff.on, resA, resVs, resV, lk, finish, frzR, frzVs, frzV, fznR, fzns, fzn, lts, lt, ltO, List.all, pairsOk, indep, reduceCtorEq, Nat.reduceEqDiff, Nat.reduceAdd, Nat.reduceLeDiff, stb, thaws, List.drop, intOfA, binD, binI, unD, mmL, buildA, mkAgg, allD, bslD, behind, behind0, takeAt, frzAs, frzA, adoptR, adopt, isD, isD0, trim, List.take, binS, sliceA, bnd, zOk, elems, Nat.reduceBNe, inpl, Nat.reduceLT, Nat.reduceBEq, Nat.reduceSub, Nat.reduceMul, Int.reduceLT, Int.reduceLE, Int.reduceEq, Int.reduceToNat, Int.reduceNeg, thaw, nodup, refsV, adopts, Pk.TY_WStep, Pk.TY_Entry]
    exact ⟨_, rfl, .inl ⟨rfl, rfl⟩⟩
  have hYl : (hf G [.box (.d (.agg x.cs))]).length = n + 1 := hf_len hn _
  rcases Bool.eq_false_or_eq_true (decide (x.what ≤ 5)) with c3 | c3
  · obtain ⟨gn, hgn, hg256⟩ : ∃ gn : Nat, x.group = (gn : Int) ∧ gn < 256 := by
      have := hxok.2.1
      exact ⟨x.group.toNat, by omega, by omega⟩
    obtain ⟨v, G1, hs1, hv, hlen1, hf1, L', hL', hll⟩ := see_ls hLY (M := 6 * i) (by omega) hl gn hg256 x.s ⟨hxok.2.2.1.2.2.1.2.1, fun e he => (hxok.2.2.1.2.2.2.2 e he).2.2⟩
    rw [← hgn] at hs1
    rw [hYl] at hlen1
    have g1 : (n + 1 ≤ G1.length) = True := eq_true hlen1
    obtain ⟨m, hm⟩ : ∃ m, G1.length = m := ⟨_, rfl⟩
    have ml := fun T a b c d e f => mid_loop hL' l (i : Int) v T a b c d e f m hm
    rw [hm] at g1
    simp (config := {decide := true}) only [l_paddocklaw23_OrderStays_2, hd, b0, hxe, pg, R, N, O0, O1, zW_w, zW_l, zW_c, c1, c2, c3, hn, hs1, g1, hm, Pk.EVL, keepT, enum, ↓reduceIte, ev, act, appT, callee, toDs, toD, loadA, storeA, subA, subD, updA, Eff.on, resA, resVs, resV, lk, finish, frzR, frzVs, frzV, fznR, fzns, fzn, lts, lt, ltO, List.all, pairsOk, indep, reduceCtorEq, Nat.reduceEqDiff, Nat.reduceAdd, Nat.reduceLeDiff, stb, thaws, List.drop, intOfA, binD, binI, unD, mmL, buildA, mkAgg, allD, bslD, behind, behind0, takeAt, frzAs, frzA, adoptR, adopt, isD, isD0, trim, List.take, binS, sliceA, bnd, zOk, elems, Nat.reduceBNe, inpl, Nat.reduceLT, Nat.reduceBEq, Nat.reduceSub, Nat.reduceMul, Int.reduceLT, Int.reduceLE, Int.reduceEq, Int.reduceToNat, Int.reduceNeg, thaw, nodup, refsV, adopts, Pk.TY_WStep, Pk.TY_Entry]
    simp only [Option.bind_assoc]
    refine run_ex (ml _ rfl rfl rfl rfl rfl rfl) ?_
    rintro e T' H' ⟨rfl, k0, k3, k4, k5, k7, kl, kL⟩
    rcases hv with rfl | rfl | rfl
    all_goals
      simp (config := {decide := true}) only [k0, k3, k4, k5, k7, hw, Pk.EVL, keepT, enum, ↓reduceIte, ev, act, appT, callee, toDs, toD, loadA, storeA, subA, subD, updA, Eff.on, resA, resVs, resV, lk, finish, frzR, frzVs, frzV, fznR, fzns, fzn, lts, lt, ltO, List.all, pairsOk, indep, reduceCtorEq, Nat.reduceEqDiff, Nat.reduceAdd, Nat.reduceLeDiff, stb, thaws, List.drop, intOfA, binD, binI, unD, mmL, buildA, mkAgg, allD, bslD, behind, behind0, takeAt, frzAs, frzA, adoptR, adopt, isD, isD0, trim, List.take, binS, sliceA, bnd, zOk, elems, Nat.reduceBNe, inpl, Nat.reduceLT, Nat.reduceBEq, Nat.reduceSub, Nat.reduceMul, Int.reduceLT, Int.reduceLE, Int.reduceEq, Int.reduceToNat, Int.reduceNeg, thaw, nodup, refsV, adopts]
      exact ⟨_, rfl, .inr ⟨rfl, rfl, rfl, rfl, rfl, by show n ≤ H'.length; omega, L', kL, fun k hk => by have := hll k hk; omega⟩⟩
  · obtain ⟨v, G1, hs1, hv, hlen1, hf1, L', hL', hll⟩ := took_ls hLY (M := 6 * i) hl x.a hxok.2.2.2.1
    rw [hYl] at hlen1
    have g1 : (n + 1 ≤ G1.length) = True := eq_true hlen1
    obtain ⟨m, hm⟩ : ∃ m, G1.length = m := ⟨_, rfl⟩
    have ml := fun T a b c d e f => mid_loop hL' l (i : Int) v T a b c d e f m hm
    rw [hm] at g1
    simp (config := {decide := true}) only [l_paddocklaw23_OrderStays_2, hd, b0, hxe, pg, R, N, O0, O1, zW_w, zW_l, zW_c, c1, c2, c3, hn, hs1, g1, hm, Pk.EVL, keepT, enum, ↓reduceIte, ev, act, appT, callee, toDs, toD, loadA, storeA, subA, subD, updA, Eff.on, resA, resVs, resV, lk, finish, frzR, frzVs, frzV, fznR, fzns, fzn, lts, lt, ltO, List.all, pairsOk, indep, reduceCtorEq, Nat.reduceEqDiff, Nat.reduceAdd, Nat.reduceLeDiff, stb, thaws, List.drop, intOfA, binD, binI, unD, mmL, buildA, mkAgg, allD, bslD, behind, behind0, takeAt, frzAs, frzA, adoptR, adopt, isD, isD0, trim, List.take, binS, sliceA, bnd, zOk, elems, Nat.reduceBNe, inpl, Nat.reduceLT, Nat.reduceBEq, Nat.reduceSub, Nat.reduceMul, Int.reduceLT, Int.reduceLE, Int.reduceEq, Int.reduceToNat, Int.reduceNeg, thaw, nodup, refsV, adopts, Pk.TY_WStep, Pk.TY_Entry]
    simp only [Option.bind_assoc]
    refine run_ex (ml _ rfl rfl rfl rfl rfl rfl) ?_
    rintro e T' H' ⟨rfl, k0, k3, k4, k5, k7, kl, kL⟩
    rcases hv with rfl | rfl | rfl
    all_goals
      simp (config := {decide := true}) only [k0, k3, k4, k5, k7, hw, Pk.EVL, keepT, enum, ↓reduceIte, ev, act, appT, callee, toDs, toD, loadA, storeA, subA, subD, updA, Eff.on, resA, resVs, resV, lk, finish, frzR, frzVs, frzV, fznR, fzns, fzn, lts, lt, ltO, List.all, pairsOk, indep, reduceCtorEq, Nat.reduceEqDiff, Nat.reduceAdd, Nat.reduceLeDiff, stb, thaws, List.drop, intOfA, binD, binI, unD, mmL, buildA, mkAgg, allD, bslD, behind, behind0, takeAt, frzAs, frzA, adoptR, adopt, isD, isD0, trim, List.take, binS, sliceA, bnd, zOk, elems, Nat.reduceBNe, inpl, Nat.reduceLT, Nat.reduceBEq, Nat.reduceSub, Nat.reduceMul, Int.reduceLT, Int.reduceLE, Int.reduceEq, Int.reduceToNat, Int.reduceNeg, thaw, nodup, refsV, adopts]
      exact ⟨_, rfl, .inr ⟨rfl, rfl, rfl, rfl, rfl, by show n ≤ H'.length; omega, L', kL, fun k hk => by have := hll k hk; omega⟩⟩

theorem stays23_law (l : List WStep) (hok : ∀ x ∈ l, x.ok) : ∃ H, evF C F_paddocklaw23_OrderStays [.d (.sl (l.map WStep.d))] [] = some (.d (.b true), H) := by
  obtain ⟨Hk, hkn⟩ := known_at
  rw [evF_code (rfl : C F_paddocklaw23_OrderStays = some a_paddocklaw23_OrderStays) _ _ rfl]
  rcases Bool.eq_false_or_eq_true (decide ((l.length : Int) > 50)) with c1 | c1
  · exact ⟨_, by simp (config := {decide := true}) only [c_paddocklaw23_OrderStays, hkn, c1, Pk.EVL, keepT, enum, ↓reduceIte, ev, act, appT, callee, toDs, toD, loadA, storeA, subA, subD, updA, Eff.on, resA, resVs, resV, lk, finish, frzR, frzVs, frzV, fznR, fzns, fzn, lts, lt, ltO, List.all, pairsOk, indep, reduceCtorEq, Nat.reduceEqDiff, Nat.reduceAdd, Nat.reduceLeDiff, stb, thaws, List.drop, intOfA, binD, binI, unD, mmL, buildA, mkAgg, allD, bslD, behind, behind0, takeAt, frzAs, frzA, adoptR, adopt, isD, isD0, trim, List.take, binS, sliceA, bnd, zOk, elems, Nat.reduceBNe, inpl, Nat.reduceLT, Nat.reduceBEq, Nat.reduceSub, Nat.reduceMul, Int.reduceLT, Int.reduceLE, Int.reduceEq, Int.reduceToNat, Int.reduceNeg, thaw, nodup, refsV, adopts, Pk.TY_WStep]; rfl⟩
  have h50 : l.length ≤ 50 := by simp at c1; omega
  have hnew := new_at (H := []) rfl
  have e4 : ([.nilS, .nilS, .nilS, .nilS] : List AV) = (Q4.mk .nilS .nilS .nilS .nilS).cs := rfl
  simp (config := {decide := true}) only [c_paddocklaw23_OrderStays, hkn, c1, hnew, e4, Pk.EVL, keepT, enum, ↓reduceIte, ev, act, appT, callee, toDs, toD, loadA, storeA, subA, subD, updA, Eff.on, resA, resVs, resV, lk, finish, frzR, frzVs, frzV, fznR, fzns, fzn, lts, lt, ltO, List.all, pairsOk, indep, reduceCtorEq, Nat.reduceEqDiff, Nat.reduceAdd, Nat.reduceLeDiff, stb, thaws, List.drop, intOfA, binD, binI, unD, mmL, buildA, mkAgg, allD, bslD, behind, behind0, takeAt, frzAs, frzA, adoptR, adopt, isD, isD0, trim, List.take, binS, sliceA, bnd, zOk, elems, Nat.reduceBNe, inpl, Nat.reduceLT, Nat.reduceBEq, Nat.reduceSub, Nat.reduceMul, Int.reduceLT, Int.reduceLE, Int.reduceEq, Int.reduceToNat, Int.reduceNeg, thaw, nodup, refsV, adopts, Pk.TY_WStep]
  simp only [Option.bind_assoc]
  have h0 : LS [.box (.agg Wn.cs), .box (.agg (Q4.mk .nilS .nilS .nilS .nilS).cs)] L0 (fun k => (L0 k).acked) := by
    refine ⟨⟨fun _ => True, ord0 (by rfl) rfl _, _, rfl, rfl, fun k hk => .inl ⟨?_, rfl⟩⟩, L0_ok, fun k _ => Nat.le_refl _⟩
    rcases (by omega : k = 0 ∨ k = 1 ∨ k = 2 ∨ k = 3) with rfl | rfl | rfl | rfl <;> rfl
  have keep : ∀ (T : Tm) (i : Nat), lk T 0 = .d (.sl (l.map WStep.d)) → lk T 3 = .ptr 0 0 → lk T 4 = .ptr 1 0 → lk T 5 = .d (.i .i64 (i : Int)) →
      keepT K_paddocklaw23_OrderStays_2 T = [(0, .d (.sl (l.map WStep.d))), (3, .ptr 0 0), (4, .ptr 1 0), (5, .d (.i .i64 (i : Int)))] := by
    intro T i h0 h3 h4 h5
    simp only [K_paddocklaw23_OrderStays_2, keepT, List.map, h0, h3, h4, h5]
  refine run_ex' (loop_run (fun i T H => lk T 0 = .d (.sl (l.map WStep.d)) ∧ lk T 3 = .ptr 0 0 ∧ lk T 4 = .ptr 1 0 ∧ lk T 5 = .d (.i .i64 (i : Int)) ∧ 2 ≤ H.length ∧ ∃ L, LS H L (fun k => (L k).acked) ∧ ∀ k, k < 4 → (L k).l.length ≤ 6 * i)
    (fun e T _ => (e = .ret ∧ lk T 2 = .d (.b true)) ∨ e = .exit 0) l.length ?_ ?_ l.length 0 _ _ (by omega) ⟨rfl, rfl, rfl, rfl, by simp, L0, h0, fun k hk => by simp [L0]⟩) ?_
  · rintro i T H hi ⟨h0, h3, h4, h5, hlen, L, hL, hll⟩
    rw [keep T i h0 h3 h4 h5]
    generalize List.map (·.2) [(0, AV.d (.sl (l.map WStep.d))), (3, .ptr 0 0), (4, .ptr 1 0), (5, .d (.i .i64 (i : Int)))] = vs
    have hL2 := hL.trim (n := 2) (by omega) hlen vs
    have hlen2 := trim_len hlen vs
    generalize Pv.trim 2 vs H = G2 at *
    obtain ⟨⟨e, T', H'⟩, hr', hcase⟩ := out_round hL2 hok hi h50 hll
    dsimp only at hcase
    rcases hcase with ⟨rfl, k2⟩ | ⟨rfl, k0, k3, k4, k5, kl, L', kL, kll⟩
    · exact ⟨_, _, _, hr', .inr ⟨by simp, .inl ⟨rfl, k2⟩⟩⟩
    · exact ⟨_, _, _, hr', .inl ⟨rfl, k0, k3, k4, k5, by omega, L', kL, kll⟩⟩
  · rintro T H ⟨h0, h3, h4, h5, hlen, L, hL, hll⟩
    rw [keep T l.length h0 h3 h4 h5]
    have hd : decide (((l.length : Nat) : Int) < ((l.length : Nat) : Int)) = false := by simp
    simp (config := {decide := true}) only [l_paddocklaw23_OrderStays_2, hd, Pk.EVL, keepT, enum, ↓reduceIte, ev, act, appT, callee, toDs, toD, loadA, storeA, subA, subD, updA, Eff.on, resA, resVs, resV, lk, finish, frzR, frzVs, frzV, fznR, fzns, fzn, lts, lt, ltO, List.all, pairsOk, indep, reduceCtorEq, Nat.reduceEqDiff, Nat.reduceAdd, Nat.reduceLeDiff, stb, thaws, List.drop, intOfA, binD, binI, unD, mmL, buildA, mkAgg, allD, bslD, behind, behind0, takeAt, frzAs, frzA, adoptR, adopt, isD, isD0, trim, List.take, binS, sliceA, bnd, zOk, elems, Nat.reduceBNe, inpl, Nat.reduceLT, Nat.reduceBEq, Nat.reduceSub, Nat.reduceMul, Int.reduceLT, Int.reduceLE, Int.reduceEq, Int.reduceToNat, Int.reduceNeg, thaw, nodup, refsV, adopts, Pk.TY_WStep]
    exact ⟨_, _, _, rfl, by simp, .inr rfl⟩
  · rintro e T H (⟨rfl, h2⟩ | rfl)
    · simp (config := {decide := true}) only [h2, Pk.EVL, keepT, enum, ↓reduceIte, ev, act, appT, callee, toDs, toD, loadA, storeA, subA, subD, updA, Eff.on, resA, resVs, resV, lk, finish, frzR, frzVs, frzV, fznR, fzns, fzn, lts, lt, ltO, List.all, pairsOk, indep, reduceCtorEq, Nat.reduceEqDiff, Nat.reduceAdd, Nat.reduceLeDiff, stb, thaws, List.drop, intOfA, binD, binI, unD, mmL, buildA, mkAgg, allD, bslD, behind, behind0, takeAt, frzAs, frzA, adoptR, adopt, isD, isD0, trim, List.take, binS, sliceA, bnd, zOk, elems, Nat.reduceBNe, inpl, Nat.reduceLT, Nat.reduceBEq, Nat.reduceSub, Nat.reduceMul, Int.reduceLT, Int.reduceLE, Int.reduceEq, Int.reduceToNat, Int.reduceNeg, thaw, nodup, refsV, adopts]
      exact ⟨_, rfl⟩
    · simp (config := {decide := true}) only [Pk.EVL, keepT, enum, ↓reduceIte, ev, act, appT, callee, toDs, toD, loadA, storeA, subA, subD, updA, Eff.on, resA, resVs, resV, lk, finish, frzR, frzVs, frzV, fznR, fzns, fzn, lts, lt, ltO, List.all, pairsOk, indep, reduceCtorEq, Nat.reduceEqDiff, Nat.reduceAdd, Nat.reduceLeDiff, stb, thaws, List.drop, intOfA, binD, binI, unD, mmL, buildA, mkAgg, allD, bslD, behind, behind0, takeAt, frzAs, frzA, adoptR, adopt, isD, isD0, trim, List.take, binS, sliceA, bnd, zOk, elems, Nat.reduceBNe, inpl, Nat.reduceLT, Nat.reduceBEq, Nat.reduceSub, Nat.reduceMul, Int.reduceLT, Int.reduceLE, Int.reduceEq, Int.reduceToNat, Int.reduceNeg, thaw, nodup, refsV, adopts]
      exact ⟨_, rfl⟩
end Go.Proofs.YtlihpaegaikoeaaDoor

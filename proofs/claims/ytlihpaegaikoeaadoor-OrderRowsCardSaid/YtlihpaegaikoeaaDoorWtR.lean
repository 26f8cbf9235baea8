/- One order: states that go on from one another are seen; what was written is taken with its result, and with no other: the law OrderRows. -/
import Derived.Test.YtlihpaegaikoeaaDoorWtQ
set_option linter.all false
namespace Go.Proofs.YtlihpaegaikoeaaDoor
open Pv Go Pk
set_option maxRecDepth 10000
set_option maxHeartbeats 4000000

theorem rows23_law (g : Int) (l : List Opr) (wrong : Int) (hg : 0 ≤ g ∧ g < 256) (hl : ∀ x ∈ l, x.ok) (hwr : 0 ≤ wrong ∧ wrong < 256) : ∃ H, evF C F_paddocklaw23_OrderRows [.d (.i .u8 g), .d (.sl (l.map Opr.d)), .d (.i .u8 wrong)] [] = some (.d (.b true), H) := by
  obtain ⟨Hk, hkn⟩ := known_at
  rw [evF_code (rfl : C F_paddocklaw23_OrderRows = some a_paddocklaw23_OrderRows) _ _ rfl]
  rcases Bool.eq_false_or_eq_true (decide ((l.length : Int) > 25)) with c1 | c1
  · exact ⟨_, by simp (config := {decide := true}) only [c_paddocklaw23_OrderRows, hkn, c1, Pk.EVL, keepT, enum, ↓reduceIte, ev, act, appT, callee, toDs, toD, loadA, storeA, subA, subD, updA, Eff.on, resA, resVs, resV, lk, finish, frzR, frzVs, frzV, fznR, fzns, fzn, lts, lt, ltO, List.all, pairsOk, indep, reduceCtorEq, Nat.reduceEqDiff, Nat.reduceAdd, Nat.reduceLeDiff, stb, thaws, List.drop, intOfA, binD, binI, unD, mmL, buildA, mkAgg, allD, bslD, behind, behind0, takeAt, frzAs, frzA, adoptR, adopt, isD, isD0, trim, List.take, binS, sliceA, bnd, zOk, elems, Nat.reduceBNe, inpl, Nat.reduceLT, Nat.reduceBEq, Nat.reduceSub, Nat.reduceMul, Int.reduceLT, Int.reduceLE, Int.reduceEq, Int.reduceToNat, Int.reduceNeg, thaw, nodup, refsV, adopts, Pk.TY_Opr]; rfl⟩
  have h25 : l.length ≤ 25 := by simp at c1; omega
  obtain ⟨k, hj, hk⟩ : ∃ k : Nat, g.tmod 4 = (k : Int) ∧ k < 4 := by
    have h1 := Int.tmod_nonneg 4 hg.1
    have h2 := Int.tmod_lt_of_pos g (show (0 : Int) < 4 by omega)
    exact ⟨(g.tmod 4).toNat, by omega, by omega⟩
  have hnew := new_at (H := []) rfl
  have zw : upd State.zeroA 0 ((stN 1 []).withV .nilS) = (stN 1 []).withV .nilS := rfl
  have zl : ((stN 1 []).withV .nilS).length = 49 := rfl
  simp (config := {decide := true}) only [c_paddocklaw23_OrderRows, hkn, c1, hj, hnew, stN_1, stN_3, zw, zl, Pk.EVL, keepT, enum, ↓reduceIte, ev, act, appT, callee, toDs, toD, loadA, storeA, subA, subD, updA, Eff.on, resA, resVs, resV, lk, finish, frzR, frzVs, frzV, fznR, fzns, fzn, lts, lt, ltO, List.all, pairsOk, indep, reduceCtorEq, Nat.reduceEqDiff, Nat.reduceAdd, Nat.reduceLeDiff, stb, thaws, List.drop, intOfA, binD, binI, unD, mmL, buildA, mkAgg, allD, bslD, behind, behind0, takeAt, frzAs, frzA, adoptR, adopt, isD, isD0, trim, List.take, binS, sliceA, bnd, zOk, elems, Nat.reduceBNe, inpl, Nat.reduceLT, Nat.reduceBEq, Nat.reduceSub, Nat.reduceMul, Int.reduceLT, Int.reduceLE, Int.reduceEq, Int.reduceToNat, Int.reduceNeg, thaw, nodup, refsV, adopts, Pk.TY_Opr, Pk.TY_State, Pk.TY_Base]
  simp only [Option.bind_assoc]
  have hR0 : RInv k [.box (.agg Wn.cs), .box (.agg ((stN 1 []).withV .nilS)), .box (.d (.agg Base.zero.cs))] [] 0 :=
    ⟨RI_nil, ⟨L0, fun _ => True, ord0 (by rfl) rfl _, L0_ok, fun j hj => by simp [L0], ⟨0, by omega, rfl⟩, fun _ _ => rfl⟩, ⟨_, .inr ⟨rfl, rfl⟩, rfl⟩, rfl⟩
  refine run_ex' (loop_run (fun i T H => lk T 1 = .d (.sl (l.map Opr.d)) ∧ lk T 2 = .d (.i .u8 wrong) ∧ lk T 7 = .d (.i .u8 (k : Int)) ∧ lk T 8 = .ptr 0 0 ∧ lk T 9 = .ptr 1 0 ∧ lk T 10 = .ptr 2 0 ∧ lk T 12 = .d (.i .i64 (i : Nat)) ∧ 3 ≤ H.length ∧
      ∃ E kk, RInv k H E kk ∧ E.length ≤ i ∧ lk T 11 = .d (.i .u32 (E.length : Int)))
    (fun e T H => e = .exit 0 ∧ lk T 1 = .d (.sl (l.map Opr.d)) ∧ lk T 2 = .d (.i .u8 wrong) ∧ lk T 7 = .d (.i .u8 (k : Int)) ∧ lk T 8 = .ptr 0 0 ∧ lk T 9 = .ptr 1 0 ∧ lk T 10 = .ptr 2 0 ∧ ∃ E kk, RInv k H E kk ∧ E.length ≤ 25 ∧ lk T 11 = .d (.i .u32 (E.length : Int))) l.length ?_ ?_ l.length 0 _ _ (by omega)
    ⟨rfl, rfl, rfl, rfl, rfl, rfl, rfl, by simp, [], 0, hR0, by simp, rfl⟩) ?_
  · rintro i T H hi ⟨h1, h2, h7, h8, h9, h10, h12, hlen, E, kk, hI, hEi, h11⟩
    have hkeep : keepT K_paddocklaw23_OrderRows_0 T = [(1, .d (.sl (l.map Opr.d))), (2, .d (.i .u8 wrong)), (7, .d (.i .u8 (k : Int))), (8, .ptr 0 0), (9, .ptr 1 0), (10, .ptr 2 0), (11, .d (.i .u32 (E.length : Int))), (12, .d (.i .i64 (i : Int)))] := by
      simp only [K_paddocklaw23_OrderRows_0, keepT, List.map, h1, h2, h7, h8, h9, h10, h11, h12]
    rw [hkeep]
    have hI2 := hI.trim (n := 3) (by omega) hlen (List.map (·.2) [(1, AV.d (.sl (l.map Opr.d))), (2, .d (.i .u8 wrong)), (7, .d (.i .u8 (k : Int))), (8, .ptr 0 0), (9, .ptr 1 0), (10, .ptr 2 0), (11, .d (.i .u32 (E.length : Int))), (12, .d (.i .i64 (i : Int)))])
    generalize trim 3 _ H = G at *
    have hG3 : 3 ≤ G.length := by have := (List.getElem?_eq_some_iff.1 hI2.b).1; omega
    obtain ⟨e, T', H', he, rfl, k1, k2, k7, k8, k9, k10, k12, kl, E', kk', kI, kE, k11⟩ := rows_round hk hI2 (by omega) hl wrong hwr hi h25
    exact ⟨_, _, _, he, .inl ⟨rfl, k1, k2, k7, k8, k9, k10, k12, by omega, E', kk', kI, by omega, k11⟩⟩
  · rintro T H ⟨h1, h2, h7, h8, h9, h10, h12, hlen, E, kk, hI, hEi, h11⟩
    have hkeep : keepT K_paddocklaw23_OrderRows_0 T = [(1, .d (.sl (l.map Opr.d))), (2, .d (.i .u8 wrong)), (7, .d (.i .u8 (k : Int))), (8, .ptr 0 0), (9, .ptr 1 0), (10, .ptr 2 0), (11, .d (.i .u32 (E.length : Int))), (12, .d (.i .i64 (l.length : Int)))] := by
      simp only [K_paddocklaw23_OrderRows_0, keepT, List.map, h1, h2, h7, h8, h9, h10, h11, h12]
    rw [hkeep]
    have hI2 := hI.trim (n := 3) (by omega) hlen (List.map (·.2) [(1, AV.d (.sl (l.map Opr.d))), (2, .d (.i .u8 wrong)), (7, .d (.i .u8 (k : Int))), (8, .ptr 0 0), (9, .ptr 1 0), (10, .ptr 2 0), (11, .d (.i .u32 (E.length : Int))), (12, .d (.i .i64 (l.length : Int)))])
    generalize trim 3 _ H = G at *
    have hd : decide (((l.length : Nat) : Int) < ((l.length : Nat) : Int)) = false := by simp
    simp (config := {decide := true}) only [l_paddocklaw23_OrderRows_0, hd, Pk.EVL, keepT, enum, ↓reduceIte, ev, act, appT, callee, toDs, toD, loadA, storeA, subA, subD, updA, Eff.on, resA, resVs, resV, lk, finish, frzR, frzVs, frzV, fznR, fzns, fzn, lts, lt, ltO, List.all, pairsOk, indep, reduceCtorEq, Nat.reduceEqDiff, Nat.reduceAdd, Nat.reduceLeDiff, stb, thaws, List.drop, intOfA, binD, binI, unD, mmL, buildA, mkAgg, allD, bslD, behind, behind0, takeAt, frzAs, frzA, adoptR, adopt, isD, isD0, trim, List.take, binS, sliceA, bnd, zOk, elems, Nat.reduceBNe, inpl, Nat.reduceLT, Nat.reduceBEq, Nat.reduceSub, Nat.reduceMul, Int.reduceLT, Int.reduceLE, Int.reduceEq, Int.reduceToNat, Int.reduceNeg, thaw, nodup, refsV, adopts, Pk.TY_Opr]
    exact ⟨_, _, _, rfl, by simp, rfl, rfl, rfl, rfl, rfl, rfl, rfl, E, kk, hI2, by omega, rfl⟩
  · rintro e T G ⟨rfl, h1, h2, h7, h8, h9, h10, E, kk, hI, hE25, h11⟩
    obtain ⟨hri, ⟨L, V, hO, hLok, hLl, ⟨st, hst, hLk⟩, hLj⟩, -, hGb⟩ := hI
    obtain ⟨n, hn⟩ : ∃ n, G.length = n := ⟨_, rfl⟩
    have R := hf_rules hn
    have K := ok_rules hn hO.1
    have N := n_rules n
    have h2n : 2 < n := by have := (List.getElem?_eq_some_iff.1 hGb).1; omega
    have O0 := o_rules (show 0 < n by omega)
    have O2 := o_rules h2n
    have fb := hf_old hGb
    have pg : ∀ x, G ++ [x] = hf G [x] := fun _ => rfl
    have wn : IntKind.u32.wrap ((E.length : Int) + 1) = ((E.length + 1 : Nat) : Int) := by rw [show (E.length : Int) + 1 = ((E.length + 1 : Nat) : Int) by omega]; exact wu32 (by omega)
    have wn2 : IntKind.i64.wrap ((E.length : Nat) : Int) = ((E.length : Nat) : Int) := wi64 (by omega)
    have wk : IntKind.u8.wrap ((k : Int) + 1) = ((k + 1 : Nat) : Int) := by rw [show (k : Int) + 1 = ((k + 1 : Nat) : Int) by omega]; exact wu8 (by omega)
    have tk : ((k + 1 : Nat) : Int).tmod 4 = (((k + 1) % 4 : Nat) : Int) := by rw [Int.tmod_eq_emod_of_nonneg (by omega)]; omega
    have hb1 : evF C F_witness_Order_Base [.ptr 0 0, .d (.i .u8 (k : Int)), .d (.i .u32 (E.length : Int))] G = some (.tup [.d (.agg (baseOf E).cs), .d (.b true)], G) := by
      have := base_at' hO hLok k E.length (by omega)
      unfold baseL at this
      rw [hLk, if_neg (by simp; omega)] at this
      dsimp only at this
      rw [List.take_length] at this
      exact this
    have hok1 : okH (hf G [.box (.d (.agg (baseOf E).cs))]) := by rw [hf_ok hn hO.1]; rfl
    have hb2 : evF C F_witness_Order_Base [.ptr 0 0, .d (.i .u8 (k : Int)), .d (.i .u32 ((E.length + 1 : Nat) : Int))] (hf G [.box (.d (.agg (baseOf E).cs))]) = some (.tup [.d (.agg Base.zero.cs), .d (.b false)], hf G [.box (.d (.agg (baseOf E).cs))]) := by
      have := base_at' (hO.hf hok1) hLok k (E.length + 1) (by omega)
      unfold baseL at this
      rw [hLk, if_pos (by right; dsimp only; omega)] at this
      exact this
    have hok2 : okH (hf G [.box (.d (.agg (baseOf E).cs)), .box (.d (.agg Base.zero.cs))]) := by rw [hf_ok hn hO.1]; rfl
    have hln : evF C F_witness_Order_Len [.ptr 0 0, .d (.i .u8 (k : Int))] (hf G [.box (.d (.agg (baseOf E).cs)), .box (.d (.agg Base.zero.cs))]) = some (.d (.i .i64 (E.length : Int)), hf G [.box (.d (.agg (baseOf E).cs)), .box (.d (.agg Base.zero.cs))]) := by
      have := len_at (hO.hf hok2) k
      rw [if_pos hk, hLk] at this
      exact this
    have hak : evF C F_witness_Order_Acked [.ptr 0 0, .d (.i .u8 (((k + 1) % 4 : Nat) : Int))] (hf G [.box (.d (.agg (baseOf E).cs)), .box (.d (.agg Base.zero.cs))]) = some (.d (.i .u32 0), hf G [.box (.d (.agg (baseOf E).cs)), .box (.d (.agg Base.zero.cs))]) := by
      have := acked_at (hO.hf hok2) ((k + 1) % 4)
      rw [if_pos (by omega), hLj _ (by omega)] at this
      exact this
    simp (config := {decide := true}) only [h1, h2, h7, h8, h9, h10, h11, hb1, hb2, hln, hak, wn, wn2, wk, tk, hn, pg, R, K, N, O0, O2, fb, sameH_self, Pk.EVL, keepT, enum, ↓reduceIte, ev, act, appT, callee, toDs, toD, loadA, storeA, subA, subD, updA, Eff.on, resA, resVs, resV, lk, finish, frzR, frzVs, frzV, fznR, fzns, fzn, lts, lt, ltO, List.all, pairsOk, indep, reduceCtorEq, Nat.reduceEqDiff, Nat.reduceAdd, Nat.reduceLeDiff, stb, thaws, List.drop, intOfA, binD, binI, unD, mmL, buildA, mkAgg, allD, bslD, behind, behind0, takeAt, frzAs, frzA, adoptR, adopt, isD, isD0, trim, List.take, binS, sliceA, bnd, zOk, elems, Nat.reduceBNe, inpl, Nat.reduceLT, Nat.reduceBEq, Nat.reduceSub, Nat.reduceMul, Int.reduceLT, Int.reduceLE, Int.reduceEq, Int.reduceToNat, Int.reduceNeg, thaw, nodup, refsV, adopts, Pk.TY_Base]
    exact ⟨_, rfl⟩
end Go.Proofs.YtlihpaegaikoeaaDoor

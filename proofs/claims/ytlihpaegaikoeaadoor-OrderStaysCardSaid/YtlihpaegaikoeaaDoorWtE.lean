/- One order: entries laid behind the first ones. / One order: entries laid behind the first ones: the walk. -/
import Derived.Test.YtlihpaegaikoeaaDoorWtC
import Derived.Test.YtlihpaegaikoeaaDoorPkClone
set_option linter.all false
namespace Go.Proofs.YtlihpaegaikoeaaDoor
open Pv Go Pk
set_option maxRecDepth 10000
set_option maxHeartbeats 2000000

theorem concat_at (a b : List Entry) (ha : a.length ≤ 1000) (hb : b.length ≤ 1000) :
    evF C F_slices_Concat_sapi_Entry_api_Entry [.d (.sl [.sl (a.map Entry.d), .sl (b.map Entry.d)])] [] = some (.d (.sl ((a ++ b).map Entry.d)), []) := by
  rw [evF_code (rfl : C F_slices_Concat_sapi_Entry_api_Entry = some a_slices_Concat_sapi_Entry_api_Entry) _ _ rfl]
  simp (config := {decide := true}) only [c_slices_Concat_sapi_Entry_api_Entry, Pk.EVL, keepT, enum, ↓reduceIte, ev, act, appT, callee, toDs, toD, loadA, storeA, subA, subD, updA, Eff.on, resA, resVs, resV, lk, finish, frzR, frzVs, frzV, fznR, fzns, fzn, lts, lt, ltO, List.all, pairsOk, indep, reduceCtorEq, Nat.reduceEqDiff, Nat.reduceAdd, Nat.reduceLeDiff, stb, thaws, List.drop, intOfA, binD, binI, unD, mmL, buildA, mkAgg, allD, bslD, behind, behind0, takeAt, frzAs, frzA, adoptR, adopt, isD, isD0, trim, List.take, binS, sliceA, bnd, zOk, elems, Nat.reduceBNe, inpl, Nat.reduceLT, Nat.reduceBEq, Nat.reduceSub, Nat.reduceMul, Int.reduceLT, Int.reduceLE, Int.reduceEq, Int.reduceToNat, Int.reduceNeg, thaw, nodup, refsV, adopts, Pk.TY_Entry]
  simp only [Option.bind_assoc]
  refine bind_run (loop_run (fun i T H => lk T 0 = .d (.sl [.sl (a.map Entry.d), .sl (b.map Entry.d)]) ∧ lk T 3 = .d (.i .i64 (((if 1 ≤ i then a.length else 0) + (if 2 ≤ i then b.length else 0) : Nat) : Int)) ∧
      lk T 9 = .d (.sl [.sl (a.map Entry.d), .sl (b.map Entry.d)]) ∧ lk T 10 = .d (.i .i64 2) ∧ lk T 11 = .d (.i .i64 (i : Nat)) ∧ H = [])
    (fun e T H => e = .exit 0 ∧ lk T 0 = .d (.sl [.sl (a.map Entry.d), .sl (b.map Entry.d)]) ∧ lk T 3 = .d (.i .i64 ((a.length + b.length : Nat) : Int)) ∧ H = []) 2 ?_ ?_ 2 0 _ _ (by omega) ⟨rfl, rfl, rfl, rfl, rfl, rfl⟩) ?_
  · rintro i T H hi ⟨h0, h3, h9, h10, h11, rfl⟩
    rcases (by omega : i = 0 ∨ i = 1) with rfl | rfl
    · have w1 : IntKind.i64.wrap (((0 : Nat) : Int) + ((a.length : Nat) : Int)) = ((a.length : Nat) : Int) := by rw [wi64 (by omega)]; omega
      have c1 : decide (((a.length : Nat) : Int) < 0) = false := by simp
      have w2 : IntKind.i64.wrap (((0 : Nat) : Int) + 1) = ((1 : Nat) : Int) := by decide
      have h3' : lk T 3 = .d (.i .i64 ((0 : Nat) : Int)) := h3
      simp (config := {decide := true}) only [K_slices_Concat_sapi_Entry_api_Entry_0, l_slices_Concat_sapi_Entry_api_Entry_0, h0, h3', h9, h10, h11, w1, w2, c1, Pk.EVL, keepT, enum, ↓reduceIte, ev, act, appT, callee, toDs, toD, loadA, storeA, subA, subD, updA, Eff.on, resA, resVs, resV, lk, finish, frzR, frzVs, frzV, fznR, fzns, fzn, lts, lt, ltO, List.all, pairsOk, indep, reduceCtorEq, Nat.reduceEqDiff, Nat.reduceAdd, Nat.reduceLeDiff, stb, thaws, List.drop, intOfA, binD, binI, unD, mmL, buildA, mkAgg, allD, bslD, behind, behind0, takeAt, frzAs, frzA, adoptR, adopt, isD, isD0, trim, List.take, binS, sliceA, bnd, zOk, elems, Nat.reduceBNe, inpl, Nat.reduceLT, Nat.reduceBEq, Nat.reduceSub, Nat.reduceMul, Int.reduceLT, Int.reduceLE, Int.reduceEq, Int.reduceToNat, Int.reduceNeg, thaw, nodup, refsV, adopts, Pk.TY_Entry]
      exact ⟨_, _, _, rfl, .inl ⟨rfl, rfl, rfl, rfl, rfl, rfl, rfl⟩⟩
    · have w1 : IntKind.i64.wrap (((a.length : Nat) : Int) + ((b.length : Nat) : Int)) = ((a.length + b.length : Nat) : Int) := by rw [wi64 (by omega)]; omega
      have c1 : decide (((a.length + b.length : Nat) : Int) < 0) = false := by simp; omega
      have w2 : IntKind.i64.wrap (((1 : Nat) : Int) + 1) = ((2 : Nat) : Int) := by decide
      have h3' : lk T 3 = .d (.i .i64 ((a.length : Nat) : Int)) := h3
      simp (config := {decide := true}) only [K_slices_Concat_sapi_Entry_api_Entry_0, l_slices_Concat_sapi_Entry_api_Entry_0, h0, h3', h9, h10, h11, w1, w2, c1, Pk.EVL, keepT, enum, ↓reduceIte, ev, act, appT, callee, toDs, toD, loadA, storeA, subA, subD, updA, Eff.on, resA, resVs, resV, lk, finish, frzR, frzVs, frzV, fznR, fzns, fzn, lts, lt, ltO, List.all, pairsOk, indep, reduceCtorEq, Nat.reduceEqDiff, Nat.reduceAdd, Nat.reduceLeDiff, stb, thaws, List.drop, intOfA, binD, binI, unD, mmL, buildA, mkAgg, allD, bslD, behind, behind0, takeAt, frzAs, frzA, adoptR, adopt, isD, isD0, trim, List.take, binS, sliceA, bnd, zOk, elems, Nat.reduceBNe, inpl, Nat.reduceLT, Nat.reduceBEq, Nat.reduceSub, Nat.reduceMul, Int.reduceLT, Int.reduceLE, Int.reduceEq, Int.reduceToNat, Int.reduceNeg, thaw, nodup, refsV, adopts, Pk.TY_Entry]
      exact ⟨_, _, _, rfl, .inl ⟨rfl, rfl, rfl, rfl, rfl, rfl, rfl⟩⟩
  · rintro T H ⟨h0, h3, h9, h10, h11, rfl⟩
    have h3' : lk T 3 = .d (.i .i64 ((a.length + b.length : Nat) : Int)) := h3
    simp (config := {decide := true}) only [K_slices_Concat_sapi_Entry_api_Entry_0, l_slices_Concat_sapi_Entry_api_Entry_0, h0, h3', h9, h10, h11, Pk.EVL, keepT, enum, ↓reduceIte, ev, act, appT, callee, toDs, toD, loadA, storeA, subA, subD, updA, Eff.on, resA, resVs, resV, lk, finish, frzR, frzVs, frzV, fznR, fzns, fzn, lts, lt, ltO, List.all, pairsOk, indep, reduceCtorEq, Nat.reduceEqDiff, Nat.reduceAdd, Nat.reduceLeDiff, stb, thaws, List.drop, intOfA, binD, binI, unD, mmL, buildA, mkAgg, allD, bslD, behind, behind0, takeAt, frzAs, frzA, adoptR, adopt, isD, isD0, trim, List.take, binS, sliceA, bnd, zOk, elems, Nat.reduceBNe, inpl, Nat.reduceLT, Nat.reduceBEq, Nat.reduceSub, Nat.reduceMul, Int.reduceLT, Int.reduceLE, Int.reduceEq, Int.reduceToNat, Int.reduceNeg, thaw, nodup, refsV, adopts]
    exact ⟨_, _, _, rfl, by simp, rfl, rfl, rfl, rfl⟩
  · rintro e T H ⟨rfl, h0, h3, rfl⟩
    have hg := grow_at (rfl : C F_slices_Grow_sapi_Entry_api_Entry = some (.exth (Pk.growX 8))) (a.length + b.length) (by simp [LIM]; omega) []
    simp (config := {decide := true}) only [h0, h3, hg, Pk.EVL, keepT, enum, ↓reduceIte, ev, act, appT, callee, toDs, toD, loadA, storeA, subA, subD, updA, Eff.on, resA, resVs, resV, lk, finish, frzR, frzVs, frzV, fznR, fzns, fzn, lts, lt, ltO, List.all, pairsOk, indep, reduceCtorEq, Nat.reduceEqDiff, Nat.reduceAdd, Nat.reduceLeDiff, stb, thaws, List.drop, intOfA, binD, binI, unD, mmL, buildA, mkAgg, allD, bslD, behind, behind0, takeAt, frzAs, frzA, adoptR, adopt, isD, isD0, trim, List.take, binS, sliceA, bnd, zOk, elems, Nat.reduceBNe, inpl, Nat.reduceLT, Nat.reduceBEq, Nat.reduceSub, Nat.reduceMul, Int.reduceLT, Int.reduceLE, Int.reduceEq, Int.reduceToNat, Int.reduceNeg, thaw, nodup, refsV, adopts, Pk.TY_Entry]
    simp only [Option.bind_assoc]
    refine bind_run (loop_run (fun i T H => lk T 6 = .view 0 ((if 1 ≤ i then a.length else 0) + (if 2 ≤ i then b.length else 0)) 8 0 ((if 1 ≤ i then a.length else 0) + (if 2 ≤ i then b.length else 0)) ∧
        lk T 25 = .d (.sl [.sl (a.map Entry.d), .sl (b.map Entry.d)]) ∧ lk T 26 = .d (.i .i64 2) ∧ lk T 27 = .d (.i .i64 (i : Nat)) ∧ H = [.arr ((if 1 ≤ i then a.map Entry.d else []) ++ (if 2 ≤ i then b.map Entry.d else [])) true])
      (fun e T H => e = .exit 2 ∧ lk T 6 = .view 0 (a.length + b.length) 8 0 (a.length + b.length) ∧ H = [.arr (a.map Entry.d ++ b.map Entry.d) true]) 2 ?_ ?_ 2 0 _ _ (by omega) ⟨rfl, rfl, rfl, rfl, rfl⟩) ?_
    · rintro i T H hi ⟨h6, h25, h26, h27, rfl⟩
      rcases (by omega : i = 0 ∨ i = 1) with rfl | rfl
      · have w2 : IntKind.i64.wrap (((0 : Nat) : Int) + 1) = ((1 : Nat) : Int) := by decide
        have h6' : lk T 6 = .view 0 0 8 0 0 := h6
        have l1 : (0 + a.length ≤ LIM) = True := eq_true (by simp [LIM]; omega)
        have l2 : (a.length ≤ LIM) = True := eq_true (by simp [LIM]; omega)
        simp (config := {decide := true}) only [K_slices_Concat_sapi_Entry_api_Entry_1, l_slices_Concat_sapi_Entry_api_Entry_1, h6', h25, h26, h27, w2, l1, l2, Entry.all_cells, Pk.EVL, keepT, enum, ↓reduceIte, ev, act, appT, callee, toDs, toD, loadA, storeA, subA, subD, updA, Eff.on, resA, resVs, resV, lk, finish, frzR, frzVs, frzV, fznR, fzns, fzn, lts, lt, ltO, List.all, pairsOk, indep, reduceCtorEq, Nat.reduceEqDiff, Nat.reduceAdd, Nat.reduceLeDiff, stb, thaws, List.drop, intOfA, binD, binI, unD, mmL, buildA, mkAgg, allD, bslD, behind, behind0, takeAt, frzAs, frzA, adoptR, adopt, isD, isD0, trim, List.take, binS, sliceA, bnd, zOk, elems, Nat.reduceBNe, inpl, Nat.reduceLT, Nat.reduceBEq, Nat.reduceSub, Nat.reduceMul, Int.reduceLT, Int.reduceLE, Int.reduceEq, Int.reduceToNat, Int.reduceNeg, thaw, nodup, refsV, adopts, Pk.TY_Entry]
        refine ⟨_, _, _, rfl, .inl ⟨rfl, rfl, rfl, rfl, rfl, ?_⟩⟩
        simp
      · have w2 : IntKind.i64.wrap (((1 : Nat) : Int) + 1) = ((2 : Nat) : Int) := by decide
        have h6' : lk T 6 = .view 0 a.length 8 0 a.length := h6
        have l1 : (a.length + b.length ≤ LIM) = True := eq_true (by simp [LIM]; omega)
        have hH : ([Ob.arr ((if 1 ≤ 1 then a.map Entry.d else []) ++ (if 2 ≤ 1 then b.map Entry.d else [])) true] : Heap) = [.arr (a.map Entry.d) true] := by simp
        rw [hH]
        simp (config := {decide := true}) only [K_slices_Concat_sapi_Entry_api_Entry_1, l_slices_Concat_sapi_Entry_api_Entry_1, h6', h25, h26, h27, w2, l1, Entry.all_cells, Pk.EVL, keepT, enum, ↓reduceIte, ev, act, appT, callee, toDs, toD, loadA, storeA, subA, subD, updA, Eff.on, resA, resVs, resV, lk, finish, frzR, frzVs, frzV, fznR, fzns, fzn, lts, lt, ltO, List.all, pairsOk, indep, reduceCtorEq, Nat.reduceEqDiff, Nat.reduceAdd, Nat.reduceLeDiff, stb, thaws, List.drop, intOfA, binD, binI, unD, mmL, buildA, mkAgg, allD, bslD, behind, behind0, takeAt, frzAs, frzA, adoptR, adopt, isD, isD0, trim, List.take, binS, sliceA, bnd, zOk, elems, Nat.reduceBNe, inpl, Nat.reduceLT, Nat.reduceBEq, Nat.reduceSub, Nat.reduceMul, Int.reduceLT, Int.reduceLE, Int.reduceEq, Int.reduceToNat, Int.reduceNeg, thaw, nodup, refsV, adopts, Pk.TY_Entry]
        exact ⟨_, _, _, rfl, .inl ⟨rfl, rfl, rfl, rfl, rfl, rfl⟩⟩
    · rintro T H ⟨h6, h25, h26, h27, rfl⟩
      have h6' : lk T 6 = .view 0 (a.length + b.length) 8 0 (a.length + b.length) := h6
      simp (config := {decide := true}) only [K_slices_Concat_sapi_Entry_api_Entry_1, l_slices_Concat_sapi_Entry_api_Entry_1, h6', h25, h26, h27, Pk.EVL, keepT, enum, ↓reduceIte, ev, act, appT, callee, toDs, toD, loadA, storeA, subA, subD, updA, Eff.on, resA, resVs, resV, lk, finish, frzR, frzVs, frzV, fznR, fzns, fzn, lts, lt, ltO, List.all, pairsOk, indep, reduceCtorEq, Nat.reduceEqDiff, Nat.reduceAdd, Nat.reduceLeDiff, stb, thaws, List.drop, intOfA, binD, binI, unD, mmL, buildA, mkAgg, allD, bslD, behind, behind0, takeAt, frzAs, frzA, adoptR, adopt, isD, isD0, trim, List.take, binS, sliceA, bnd, zOk, elems, Nat.reduceBNe, inpl, Nat.reduceLT, Nat.reduceBEq, Nat.reduceSub, Nat.reduceMul, Int.reduceLT, Int.reduceLE, Int.reduceEq, Int.reduceToNat, Int.reduceNeg, thaw, nodup, refsV, adopts]
      exact ⟨_, _, _, rfl, by simp, rfl, rfl, rfl⟩
    · rintro e T H ⟨rfl, h6, rfl⟩
      have e1 : (a.map Entry.d ++ b.map Entry.d).length = a.length + b.length := by simp
      have e2 : subL (a.map Entry.d ++ b.map Entry.d) 0 (a.length + b.length) = (a ++ b).map Entry.d := by unfold subL; rw [List.drop_zero, List.take_of_length_le (by simp), List.map_append]
      simp (config := {decide := true}) only [h6, e1, e2, Pk.EVL, keepT, enum, ↓reduceIte, ev, act, appT, callee, toDs, toD, loadA, storeA, subA, subD, updA, Eff.on, resA, resVs, resV, lk, finish, frzR, frzVs, frzV, fznR, fzns, fzn, lts, lt, ltO, List.all, pairsOk, indep, reduceCtorEq, Nat.reduceEqDiff, Nat.reduceAdd, Nat.reduceLeDiff, stb, thaws, List.drop, intOfA, binD, binI, unD, mmL, buildA, mkAgg, allD, bslD, behind, behind0, takeAt, frzAs, frzA, adoptR, adopt, isD, isD0, trim, List.take, binS, sliceA, bnd, zOk, elems, Nat.reduceBNe, inpl, Nat.reduceLT, Nat.reduceBEq, Nat.reduceSub, Nat.reduceMul, Int.reduceLT, Int.reduceLE, Int.reduceEq, Int.reduceToNat, Int.reduceNeg, thaw, nodup, refsV, adopts]

theorem cloneB_at (l : List Base) (hl : l.length ≤ 1000) : evF C F_slices_Clone_sapi_Base_api_Base [.d (.sl (l.map Base.d))] [] = some (.view 0 l.length 39 0 l.length, [.arr (l.map Base.d) true]) := by
  rw [evF_ext (rfl : C F_slices_Clone_sapi_Base_api_Base = some (.ext (Pk.cloneX 39)))]
  show (if _ then _ else _) = _
  rw [if_pos, List.length_map]
  refine ⟨by rw [List.length_map]; unfold LIM; omega, Base.all_cells l⟩
end Go.Proofs.YtlihpaegaikoeaaDoor

namespace Go.Proofs.YtlihpaegaikoeaaDoor
open Pv Go Pk
set_option maxRecDepth 10000
set_option maxHeartbeats 2000000

theorem W4.setB_B (w : W4) (g : Nat) (x y : AV) : (w.setB g x).setB g y = w.setB g y := by
  match g with
  | 0 | 1 | 2 => rfl
  | g + 3 => rfl
theorem W4.lt_upd {w : W4} {n : Nat} (h : w.lt n = true) {g : Nat} (hg : g < 4) (r : Wr) (hl : Pv.lt n r.l = true) (hb : Pv.lt n r.b = true) : (w.set g r).lt n = true := by
  rw [W4.lt_iff] at h ⊢
  intro k hk
  rw [W4.get_set _ _ _ _ hg hk]
  split
  · exact ⟨hl, hb⟩
  · exact h k hk
theorem W4.lt_B {w : W4} {n : Nat} (h : w.lt n = true) {g : Nat} (hg : g < 4) {x : AV} (hx : Pv.lt n x = true) : (w.setB g x).lt n = true :=
  W4.lt_upd h hg _ ((W4.lt_iff _ _).1 h g hg).1 hx
theorem W4.lt_L {w : W4} {n : Nat} (h : w.lt n = true) {g : Nat} (hg : g < 4) {x : AV} (hx : Pv.lt n x = true) : (w.setL g x).lt n = true :=
  W4.lt_upd h hg _ hx ((W4.lt_iff _ _).1 h g hg).2
theorem W4.lt_A {w : W4} {n : Nat} (h : w.lt n = true) {g : Nat} (hg : g < 4) (x : Int) : (w.setA g x).lt n = true :=
  W4.lt_upd h hg _ ((W4.lt_iff _ _).1 h g hg).1 ((W4.lt_iff _ _).1 h g hg).2
theorem W4.lt_S {w : W4} {n : Nat} (h : w.lt n = true) {g : Nat} (hg : g < 4) (x : Int) : (w.setS g x).lt n = true :=
  W4.lt_upd h hg _ ((W4.lt_iff _ _).1 h g hg).1 ((W4.lt_iff _ _).1 h g hg).2

/-- Objects as they stand while entries are laid: the first ones, and some of the new ones, have their bases. -/
structure LG (J : Heap) (o p g : Nat) (W : W4) (E : List Entry) (G : Heap) : Prop where
  len : G.length = J.length
  ok : okH G
  box : G[o]? = some (.box (.agg (W.setB g (.view p E.length 39 0 E.length)).cs))
  arr : G[p]? = some (.arr ((basesL E).map Base.d) true)
  rest : ∀ q, q ≠ o → q ≠ p → G[q]? = J[q]?

theorem base_fit {E : List Entry} (h : ∀ e ∈ E, e.op.ok) : Base.fit (baseOf E) := okBase_fit (baseOf_ok h)

theorem lays_loop {J : Heap} {o p g : Nat} (hop : o ≠ p) (hg : g < 4) {W : W4} (hnd : W.nd = true) {E s : List Entry} (hJ : LG J o p g W E J) (hE : ∀ e ∈ E, e.op.ok) (hs : ∀ e ∈ s, e.op.ok) (hlen : E.length + s.length ≤ 2000)
    (T : Tm) (t0 : lk T 0 = .ptr o (g * 4)) (t32 : lk T 32 = .d (.sl (s.map Entry.d))) (t33 : lk T 33 = .d (.i .i64 (s.length : Nat))) (t34 : lk T 34 = .d (.i .i64 0)) :
    ∃ e T' H', evL C K_witness_row_lays_0 l_witness_row_lays_0 J.length T J = some (e, T', H') ∧ (e = .exit 0 ∧ LG J o p g W (E ++ s) H') := by
  obtain ⟨n, hn⟩ : ∃ n, J.length = n := ⟨_, rfl⟩
  have hlo : o < n := hn ▸ (List.getElem?_eq_some_iff.1 hJ.box).1
  have hlp : p < n := hn ▸ (List.getElem?_eq_some_iff.1 hJ.arr).1
  rw [hn]
  have N := n_rules n
  have O := o_rules hlo
  have Q := o_rules hlp
  have D := W4.rds hg
  have U := W4.wrs hg
  have F := W4.fits hg
  refine loop_run (fun i T H => lk T 0 = .ptr o (g * 4) ∧ lk T 32 = .d (.sl (s.map Entry.d)) ∧ lk T 33 = .d (.i .i64 (s.length : Nat)) ∧ lk T 34 = .d (.i .i64 (i : Nat)) ∧ ∃ G X, H = hf G X ∧ LG J o p g W (E ++ s.take i) G) _ s.length ?_ ?_ s.length 0 T J (by omega)
    ⟨t0, t32, t33, t34, J, [], (hf_nil J).symm, by simpa using hJ⟩
  · rintro i T H hi ⟨h0, h32, h33, h34, G, X, rfl, hG⟩
    have hGn : G.length = n := hG.len.trans hn
    have R := hf_rules hGn
    have K := ok_rules hGn hG.ok
    obtain ⟨e, he⟩ : ∃ e, s[i]? = some e := ⟨s[i], List.getElem?_eq_getElem hi⟩
    have hx := list_idx Entry.d he
    have hd : decide ((i : Int) < ((s.length : Nat) : Int)) = true := by simp; omega
    have hw : IntKind.i64.wrap ((i : Int) + 1) = ((i + 1 : Nat) : Int) := wi64 (by omega)
    have b0 : (0 ≤ (i : Int)) = True := by simp
    have hok' : ∀ x ∈ E ++ s.take i, x.op.ok := by
      intro x hx
      rcases List.mem_append.1 hx with h | h
      · exact hE x h
      · exact hs x (List.mem_of_mem_take h)
    have hnext : (E ++ s.take i) ++ [e] = E ++ s.take (i + 1) := by rw [List.append_assoc, ← take_succ' he]
    have hk : (E ++ s.take i).length ≤ 2000 := by rw [List.length_append, List.length_take]; omega
    have hlast : ((basesL (E ++ s.take i)).map Base.d) ++ [(doOp (baseOf (E ++ s.take i)) e.op).1.d] = (basesL (E ++ s.take (i + 1))).map Base.d := by
      rw [← hnext, basesL_snoc, List.map_append, baseOf_snoc]; rfl
    rw [← hnext] at hlast ⊢
    have hbl := basesL_len (E ++ s.take i)
    have hdo := doOp_at (baseOf (E ++ s.take i)) e.op (base_fit hok') (hs e (List.mem_of_getElem? he))
    have hlenS : (E ++ s.take i ++ [e]).length = (E ++ s.take i).length + 1 := by rw [List.length_append]; rfl
    have hrest := hG.rest
    obtain ⟨-, hGok, hGb, hGa, -⟩ := hG
    have hfull := fun (h0 : 0 < (E ++ s.take i).length) => basesL_get (l := E ++ s.take i) h0 (Nat.le_refl _)
    rw [List.take_length] at hfull
    generalize E ++ s.take i = E' at *
    obtain ⟨es, hes⟩ : ∃ es, (basesL E').map Base.d = es := ⟨_, rfl⟩
    rw [hes] at hlast hGa hfull
    have hel : es.length = E'.length := by rw [← hes, List.length_map, hbl]
    generalize hWW : W.setB g (.view p E'.length 39 0 E'.length) = W' at *
    have hnd' : W'.nd = true := hWW ▸ W4.nd_B hnd g rfl
    have hb' : (W'.get g).b = .view p E'.length 39 0 E'.length := by rw [← hWW, (W4.sets hg).2.1]
    have rb : ∀ Y : Heap, okH (hf G Y) → evF C F_witness_row_base [.ptr o (g * 4), .d (.i .u32 ((E'.length : Nat) : Int))] (hf G Y) = some (.d (.agg (baseOf E').cs), hf G Y) := by
      intro Y hY
      refine rbase_at hY (hf_old hGb Y) hg E'.length (by omega) _ ?_
      by_cases hz : E'.length = 0
      · exact .inl ⟨hz, by rw [List.eq_nil_of_length_eq_zero hz]; rfl⟩
      · exact .inr ⟨by omega, p, es, true, by rw [hb', hel], hf_old hGa Y, hfull (by omega)⟩
    have w1 : IntKind.u32.wrap ((E'.length : Nat) : Int) = ((E'.length : Nat) : Int) := wu32 (by omega)
    have fo := hf_old hGb
    have fp := hf_old hGa
    have sp : ∀ (Y : Heap) (x : Ob), (hf G Y).set p x = hf (G.set p x) Y := fun Y x => hf_setO hGn hlp Y x
    have fo2 : ∀ (Y : Heap) (x : Ob), (hf (G.set p x) Y)[o]? = some (.box (.agg W'.cs)) := fun Y x => hf_old (by rw [List.getElem?_set_ne (Ne.symm hop)]; exact hGb) Y
    have so2 : ∀ (Y : Heap) (x y : Ob), (hf (G.set p x) Y).set o y = hf ((G.set p x).set o y) Y := fun Y x y => hf_setO (by rw [List.length_set, hGn]) hlo Y y
    have lim : (E'.length + 1 ≤ LIM) = True := eq_true (by simp [LIM]; omega)
    have mk := W4.allD (W4.nd_B hnd' g (x := .view p (E'.length + 1) 39 0 (E'.length + 1)) rfl)
    have opn : (o != p) = true := by simpa using hop
    have pon : (p != o) = true := by simpa using Ne.symm hop
    simp (config := {decide := true}) only [K_witness_row_lays_0, l_witness_row_lays_0, R, K, N, O, Q, D, U, F, h0, h32, h33, h34, hd, hw, b0, hx, hb', rb, w1, hdo, fo, fp, sp, fo2, so2, hel, lim, mk, opn, pon, W4.len, sameH_self, Pk.EVL, keepT, enum, ↓reduceIte, ev, act, appT, callee, toDs, toD, loadA, storeA, subA, subD, updA, Eff.on, resA, resVs, resV, lk, finish, frzR, frzVs, frzV, fznR, fzns, fzn, lts, lt, ltO, List.all, pairsOk, indep, reduceCtorEq, Nat.reduceEqDiff, Nat.reduceAdd, Nat.reduceLeDiff, stb, thaws, List.drop, intOfA, binD, binI, unD, mmL, buildA, mkAgg, allD, bslD, behind, behind0, takeAt, frzAs, frzA, adoptR, adopt, isD, isD0, trim, List.take, binS, sliceA, bnd, zOk, elems, Nat.reduceBNe, inpl, Nat.reduceLT, Nat.reduceBEq, Nat.reduceSub, Nat.reduceMul, Int.reduceLT, Int.reduceLE, Int.reduceEq, Int.reduceToNat, Int.reduceNeg, thaw, nodup, refsV, adopts, Pk.TY_Entry, Pk.TY_Base, Pk.TY_Res, Pk.TY_Opr]
    refine ⟨_, _, _, rfl, .inl ⟨rfl, rfl, rfl, rfl, rfl, _, _, rfl, ?_⟩⟩
    have lt1 : W'.lt n = true := by have := okH_at hGok hGb; rw [hGn] at this; exact this
    refine ⟨by rw [List.length_set, List.length_set, hGn, hn], ?_, ?_, ?_, ?_⟩
    · refine okH_set (okH_set hGok p rfl) o ?_
      rw [List.length_set, hGn]
      exact W4.lt_B lt1 hg (by simp [Pv.lt, hlp])
    · rw [List.getElem?_set_self (by rw [List.length_set, hGn]; exact hlo), ← hWW, W4.setB_B, hlenS]
    · rw [List.getElem?_set_ne hop, List.getElem?_set_self (by rw [hGn]; exact hlp), ← hlast]
      rfl
    · intro q h1 h2
      rw [List.getElem?_set_ne (Ne.symm h1), List.getElem?_set_ne (Ne.symm h2)]
      exact hrest q h1 h2
  · rintro T H ⟨h0, h32, h33, h34, G, X, rfl, hG⟩
    have hGn : G.length = n := hG.len.trans hn
    have R := hf_rules hGn
    have K := ok_rules hGn hG.ok
    have hd : decide (((s.length : Nat) : Int) < ((s.length : Nat) : Int)) = false := by simp
    simp (config := {decide := true}) only [K_witness_row_lays_0, l_witness_row_lays_0, R, K, N, O, h0, h32, h33, h34, hd, Pk.EVL, keepT, enum, ↓reduceIte, ev, act, appT, callee, toDs, toD, loadA, storeA, subA, subD, updA, Eff.on, resA, resVs, resV, lk, finish, frzR, frzVs, frzV, fznR, fzns, fzn, lts, lt, ltO, List.all, pairsOk, indep, reduceCtorEq, Nat.reduceEqDiff, Nat.reduceAdd, Nat.reduceLeDiff, stb, thaws, List.drop, intOfA, binD, binI, unD, mmL, buildA, mkAgg, allD, bslD, behind, behind0, takeAt, frzAs, frzA, adoptR, adopt, isD, isD0, trim, List.take, binS, sliceA, bnd, zOk, elems, Nat.reduceBNe, inpl, Nat.reduceLT, Nat.reduceBEq, Nat.reduceSub, Nat.reduceMul, Int.reduceLT, Int.reduceLE, Int.reduceEq, Int.reduceToNat, Int.reduceNeg, thaw, nodup, refsV, adopts]
    refine ⟨_, _, _, rfl, by simp, rfl, ?_⟩
    rw [hf_nil]
    rw [List.take_length] at hG
    exact hG
end Go.Proofs.YtlihpaegaikoeaaDoor

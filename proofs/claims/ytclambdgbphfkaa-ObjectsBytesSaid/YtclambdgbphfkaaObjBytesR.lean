/- For the law ObjectsBytes: an array is filled up with noughts. -/
import Derived.Test.YtclambdgbphfkaaObjBytesQ
set_option linter.all false
namespace Go.Proofs.Ytclambdgbphfkaa
open Pv Go Pk
set_option maxRecDepth 10000
set_option maxHeartbeats 2000000
theorem trim_app (vs : List AV) (H J : Heap) : ∃ J', trim H.length vs (H ++ J) = H ++ J' := by
  unfold trim
  split
  · exact ⟨[], by rw [List.take_left', List.append_nil]; rfl⟩
  · exact ⟨J, rfl⟩
theorem pad_run (o : Opr) (d : ByteArray) (m p i7 : Nat) (T : Tm) (H : Heap) (ho : 0 ≤ o.at_ ∧ o.at_ ≤ 300) (hd : d.size ≤ 300) (hs : o.data.size ≤ 300) (hm : (m : Int) = o.at_ + o.data.size)
    (h7 : lk T 7 = .ptr i7 0) (hH7 : H[i7]? = some (.box (.d (.agg o.cs)))) (h4 : lk T 4 = .view p d.size 1 0 d.size) (hp : H[p]? = some (.arr (bsD d) true)) :
    ∃ e T' H', evL C K_paddocklaw6_ObjectsBytes_0 l_paddocklaw6_ObjectsBytes_0 H.length T H = some (e, T', H') ∧
      e = .exit 3 ∧ lk T' 0 = lk T 0 ∧ lk T' 3 = lk T 3 ∧ lk T' 5 = lk T 5 ∧ lk T' 6 = lk T 6 ∧ lk T' 7 = lk T 7 ∧ lk T' 8 = lk T 8 ∧
      lk T' 4 = .view p (max d.size m) 1 0 (max d.size m) ∧ ∃ J, H' = H.set p (.arr (bsD (grown d m)) true) ++ J := by
  have hpl : p < H.length := (List.getElem?_eq_some_iff.1 hp).1
  have hne : p ≠ i7 := by rintro rfl; rw [hp] at hH7; simp at hH7
  have hg0 : H.set p (.arr (bsD (grown d d.size)) true) = H := by
    rw [grown_self]
    refine List.ext_getElem? fun j => ?_
    rw [List.getElem?_set]
    split
    · rename_i h; subst h; first | rw [if_pos hpl, hp] | rw [hp]
    · rfl
  have hwc : IntKind.i64.wrap o.at_ = o.at_ := wi64 (by omega)
  have hwm : IntKind.i64.wrap (o.at_ + (o.data.size : Int)) = ((m : Nat) : Int) := by rw [← hm]; exact wi64 (by omega)
  refine loop_run (fun i T' H' => lk T' 0 = lk T 0 ∧ lk T' 3 = lk T 3 ∧ lk T' 5 = lk T 5 ∧ lk T' 6 = lk T 6 ∧ lk T' 7 = lk T 7 ∧ lk T' 8 = lk T 8 ∧
      lk T' 4 = .view p (d.size + i) 1 0 (d.size + i) ∧ ∃ J, H' = H.set p (.arr (bsD (grown d (d.size + i))) true) ++ J)
    (fun e T' H' => e = .exit 3 ∧ lk T' 0 = lk T 0 ∧ lk T' 3 = lk T 3 ∧ lk T' 5 = lk T 5 ∧ lk T' 6 = lk T 6 ∧ lk T' 7 = lk T 7 ∧ lk T' 8 = lk T 8 ∧
      lk T' 4 = .view p (max d.size m) 1 0 (max d.size m) ∧ ∃ J, H' = H.set p (.arr (bsD (grown d m)) true) ++ J) (m - d.size) ?_ ?_ (m - d.size) 0 _ _ (by omega) ⟨rfl, rfl, rfl, rfl, rfl, rfl, h4, [], by rw [Nat.add_zero, hg0, List.append_nil]⟩
  · rintro i T' H' hi ⟨g0, g3, g5, g6, g7, g8, g4, J, rfl⟩
    have hl : H.length = (H.set p (.arr (bsD (grown d (d.size + i))) true)).length := by simp
    obtain ⟨J', hJ⟩ := trim_app ((keepT K_paddocklaw6_ObjectsBytes_0 T').map (·.2)) (H.set p (.arr (bsD (grown d (d.size + i))) true)) J
    rw [hl, hJ]
    have hgl : p < (H.set p (.arr (bsD (grown d (d.size + i))) true) ++ J').length := by rw [List.length_append, List.length_set]; omega
    have x7 : (H.set p (.arr (bsD (grown d (d.size + i))) true) ++ J')[i7]? = some (.box (.d (.agg o.cs))) := by
      rw [List.getElem?_append_left (by rw [List.length_set]; exact (List.getElem?_eq_some_iff.1 hH7).1), List.getElem?_set_ne hne]; exact hH7
    have xp : (H.set p (.arr (bsD (grown d (d.size + i))) true) ++ J')[p]? = some (.arr (bsD (grown d (d.size + i))) true) := by
      rw [List.getElem?_append_left (by rw [List.length_set]; exact hpl), List.getElem?_set_self hpl]
    have xs : ∀ y : Ob, (H.set p (.arr (bsD (grown d (d.size + i))) true) ++ J').set p y = H.set p y ++ J' := fun y => by rw [List.set_append_left _ _ (by rw [List.length_set]; exact hpl), List.set_set]
    have hdl : decide (((d.size + i : Nat) : Int) < ((m : Nat) : Int)) = true := by simp; omega
    have hbl : (bsD (grown d (d.size + i))).length = d.size + i := by rw [bsD_len, grown_size]; omega
    have hmore := grown_more d (d.size + i) (by omega)
    have hlim : (d.size + i + 1 ≤ LIM) = True := by
      have : d.size + i + 1 ≤ LIM := by unfold LIM; omega
      simp [this]
    rw [h7] at g7
    generalize H.set p (.arr (bsD (grown d (d.size + i))) true) ++ J' = G at *
    have yp : ∀ X : Heap, (G ++ X)[p]? = some (.arr (bsD (grown d (d.size + i))) true) := fun X => by rw [List.getElem?_append_left hgl]; exact xp
    have ys : ∀ (X : Heap) (y : Ob), (G ++ X).set p y = H.set p y ++ (J' ++ X) := fun X y => by rw [List.set_append_left _ _ hgl, xs, List.append_assoc]
    have yl : ∀ x : Ob, (G ++ [x])[G.length]? = some x := fun x => by simp
    have y0 : ([DV.i .u8 0].all fun e => e.cells.length == 1) = true := by decide
    have y1 : subL [DV.i .u8 0] 0 1 = [DV.i .u8 0] := rfl
    generalize bsD (grown d (d.size + i)) = es at *
    simp (config := {decide := true}) only [K_paddocklaw6_ObjectsBytes_0, l_paddocklaw6_ObjectsBytes_0, g0, g3, g4, g5, g6, g7, g8, x7, xp, yp, ys, yl, y0, y1, hdl, hbl, hwc, hwm, hmore, hlim, elems, Pk.EVL, keepT, enum, ↓reduceIte, ev, act, appT, callee, toDs, toD, loadA, storeA, subA, subD, updA, Eff.on, resA, resVs, resV, lk, finish, frzR, frzVs, frzV, fznR, fzns, fzn, lts, lt, ltO, List.all, pairsOk, indep, reduceCtorEq, Nat.reduceEqDiff, Nat.reduceAdd, Nat.reduceLeDiff, stb, thaws, List.drop, intOfA, binD, binI, unD, mmL, buildA, mkAgg, allD, behind, behind0, takeAt, frzAs, frzA, adoptR, adopt, isD, isD0, trim, List.take, binS, sliceA, bnd, zOk, elems, Nat.reduceBNe, inpl, Nat.reduceLT, Nat.reduceBEq, Nat.reduceSub, Nat.reduceMul, Int.reduceLT, Int.reduceLE, Int.reduceEq, Int.reduceToNat, Int.reduceNeg, thaw, nodup, refsV, adopts, Pk.TY_Opr]
    refine ⟨_, _, _, rfl, ?_⟩
    exact .inl ⟨rfl, rfl, rfl, rfl, rfl, by rw [h7]; rfl, rfl, rfl, _, rfl⟩
  · rintro T' H' ⟨g0, g3, g5, g6, g7, g8, g4, J, rfl⟩
    have hl : H.length = (H.set p (.arr (bsD (grown d (d.size + (m - d.size)))) true)).length := by simp
    obtain ⟨J', hJ⟩ := trim_app ((keepT K_paddocklaw6_ObjectsBytes_0 T').map (·.2)) (H.set p (.arr (bsD (grown d (d.size + (m - d.size)))) true)) J
    rw [hl, hJ]
    have x7 : (H.set p (.arr (bsD (grown d (d.size + (m - d.size)))) true) ++ J')[i7]? = some (.box (.d (.agg o.cs))) := by
      rw [List.getElem?_append_left (by rw [List.length_set]; exact (List.getElem?_eq_some_iff.1 hH7).1), List.getElem?_set_ne hne]; exact hH7
    have hmx : d.size + (m - d.size) = max d.size m := by omega
    have hdl : decide (((d.size + (m - d.size) : Nat) : Int) < ((m : Nat) : Int)) = false := by simp; omega
    have hgm : grown d (d.size + (m - d.size)) = grown d m := by
      unfold grown
      rw [show d.size + (m - d.size) - d.size = m - d.size by omega]
    rw [hgm] at x7 hJ ⊢
    rw [h7] at g7
    generalize H.set p (.arr (bsD (grown d m)) true) = Hi at *
    generalize hG : Hi ++ J' = G at *
    simp (config := {decide := true}) only [K_paddocklaw6_ObjectsBytes_0, l_paddocklaw6_ObjectsBytes_0, g0, g3, g4, g5, g6, g7, g8, x7, hdl, hwc, hwm, Pk.EVL, keepT, enum, ↓reduceIte, ev, act, appT, callee, toDs, toD, loadA, storeA, subA, subD, updA, Eff.on, resA, resVs, resV, lk, finish, frzR, frzVs, frzV, fznR, fzns, fzn, lts, lt, ltO, List.all, pairsOk, indep, reduceCtorEq, Nat.reduceEqDiff, Nat.reduceAdd, Nat.reduceLeDiff, stb, thaws, List.drop, intOfA, binD, binI, unD, mmL, buildA, mkAgg, allD, behind, behind0, takeAt, frzAs, frzA, adoptR, adopt, isD, isD0, trim, List.take, binS, sliceA, bnd, zOk, elems, Nat.reduceBNe, inpl, Nat.reduceLT, Nat.reduceBEq, Nat.reduceSub, Nat.reduceMul, Int.reduceLT, Int.reduceLE, Int.reduceEq, Int.reduceToNat, Int.reduceNeg, thaw, nodup, refsV, adopts, Pk.TY_Opr]
    refine ⟨_, _, _, rfl, ?_⟩
    exact ⟨by simp, rfl, rfl, rfl, rfl, rfl, by rw [h7]; rfl, rfl, by rw [hmx]; rfl, J', hG.symm⟩
theorem pad_run1 (o : Opr) (d : ByteArray) (m p i7 : Nat) (T : Tm) (H : Heap) (ho : 0 ≤ o.at_ ∧ o.at_ ≤ 300) (hd : d.size ≤ 300) (hs : o.data.size ≤ 300) (hm : (m : Int) = o.at_)
    (h7 : lk T 7 = .ptr i7 0) (hH7 : H[i7]? = some (.box (.d (.agg o.cs)))) (h4 : lk T 4 = .view p d.size 1 0 d.size) (hp : H[p]? = some (.arr (bsD d) true)) :
    ∃ e T' H', evL C K_paddocklaw6_ObjectsBytes_1 l_paddocklaw6_ObjectsBytes_1 H.length T H = some (e, T', H') ∧
      e = .exit 5 ∧ lk T' 0 = lk T 0 ∧ lk T' 3 = lk T 3 ∧ lk T' 5 = lk T 5 ∧ lk T' 6 = lk T 6 ∧ lk T' 7 = lk T 7 ∧ lk T' 8 = lk T 8 ∧
      lk T' 4 = .view p (max d.size m) 1 0 (max d.size m) ∧ ∃ J, H' = H.set p (.arr (bsD (grown d m)) true) ++ J := by
  have hpl : p < H.length := (List.getElem?_eq_some_iff.1 hp).1
  have hne : p ≠ i7 := by rintro rfl; rw [hp] at hH7; simp at hH7
  have hg0 : H.set p (.arr (bsD (grown d d.size)) true) = H := by
    rw [grown_self]
    refine List.ext_getElem? fun j => ?_
    rw [List.getElem?_set]
    split
    · rename_i h; subst h; first | rw [if_pos hpl, hp] | rw [hp]
    · rfl
  have hwm : IntKind.i64.wrap o.at_ = ((m : Nat) : Int) := by rw [← hm]; exact wi64 (by omega)
  refine loop_run (fun i T' H' => lk T' 0 = lk T 0 ∧ lk T' 3 = lk T 3 ∧ lk T' 5 = lk T 5 ∧ lk T' 6 = lk T 6 ∧ lk T' 7 = lk T 7 ∧ lk T' 8 = lk T 8 ∧
      lk T' 4 = .view p (d.size + i) 1 0 (d.size + i) ∧ ∃ J, H' = H.set p (.arr (bsD (grown d (d.size + i))) true) ++ J)
    (fun e T' H' => e = .exit 5 ∧ lk T' 0 = lk T 0 ∧ lk T' 3 = lk T 3 ∧ lk T' 5 = lk T 5 ∧ lk T' 6 = lk T 6 ∧ lk T' 7 = lk T 7 ∧ lk T' 8 = lk T 8 ∧
      lk T' 4 = .view p (max d.size m) 1 0 (max d.size m) ∧ ∃ J, H' = H.set p (.arr (bsD (grown d m)) true) ++ J) (m - d.size) ?_ ?_ (m - d.size) 0 _ _ (by omega) ⟨rfl, rfl, rfl, rfl, rfl, rfl, h4, [], by rw [Nat.add_zero, hg0, List.append_nil]⟩
  · rintro i T' H' hi ⟨g0, g3, g5, g6, g7, g8, g4, J, rfl⟩
    have hl : H.length = (H.set p (.arr (bsD (grown d (d.size + i))) true)).length := by simp
    obtain ⟨J', hJ⟩ := trim_app ((keepT K_paddocklaw6_ObjectsBytes_1 T').map (·.2)) (H.set p (.arr (bsD (grown d (d.size + i))) true)) J
    rw [hl, hJ]
    have hgl : p < (H.set p (.arr (bsD (grown d (d.size + i))) true) ++ J').length := by rw [List.length_append, List.length_set]; omega
    have x7 : (H.set p (.arr (bsD (grown d (d.size + i))) true) ++ J')[i7]? = some (.box (.d (.agg o.cs))) := by
      rw [List.getElem?_append_left (by rw [List.length_set]; exact (List.getElem?_eq_some_iff.1 hH7).1), List.getElem?_set_ne hne]; exact hH7
    have xp : (H.set p (.arr (bsD (grown d (d.size + i))) true) ++ J')[p]? = some (.arr (bsD (grown d (d.size + i))) true) := by
      rw [List.getElem?_append_left (by rw [List.length_set]; exact hpl), List.getElem?_set_self hpl]
    have xs : ∀ y : Ob, (H.set p (.arr (bsD (grown d (d.size + i))) true) ++ J').set p y = H.set p y ++ J' := fun y => by rw [List.set_append_left _ _ (by rw [List.length_set]; exact hpl), List.set_set]
    have hdl : decide (((d.size + i : Nat) : Int) < ((m : Nat) : Int)) = true := by simp; omega
    have hbl : (bsD (grown d (d.size + i))).length = d.size + i := by rw [bsD_len, grown_size]; omega
    have hmore := grown_more d (d.size + i) (by omega)
    have hlim : (d.size + i + 1 ≤ LIM) = True := by
      have : d.size + i + 1 ≤ LIM := by unfold LIM; omega
      simp [this]
    rw [h7] at g7
    generalize H.set p (.arr (bsD (grown d (d.size + i))) true) ++ J' = G at *
    have yp : ∀ X : Heap, (G ++ X)[p]? = some (.arr (bsD (grown d (d.size + i))) true) := fun X => by rw [List.getElem?_append_left hgl]; exact xp
    have ys : ∀ (X : Heap) (y : Ob), (G ++ X).set p y = H.set p y ++ (J' ++ X) := fun X y => by rw [List.set_append_left _ _ hgl, xs, List.append_assoc]
    have yl : ∀ x : Ob, (G ++ [x])[G.length]? = some x := fun x => by simp
    have y0 : ([DV.i .u8 0].all fun e => e.cells.length == 1) = true := by decide
    have y1 : subL [DV.i .u8 0] 0 1 = [DV.i .u8 0] := rfl
    generalize bsD (grown d (d.size + i)) = es at *
    simp (config := {decide := true}) only [K_paddocklaw6_ObjectsBytes_1, l_paddocklaw6_ObjectsBytes_1, g0, g3, g4, g5, g6, g7, g8, x7, xp, yp, ys, yl, y0, y1, hdl, hbl, hwm, hmore, hlim, elems, Pk.EVL, keepT, enum, ↓reduceIte, ev, act, appT, callee, toDs, toD, loadA, storeA, subA, subD, updA, Eff.on, resA, resVs, resV, lk, finish, frzR, frzVs, frzV, fznR, fzns, fzn, lts, lt, ltO, List.all, pairsOk, indep, reduceCtorEq, Nat.reduceEqDiff, Nat.reduceAdd, Nat.reduceLeDiff, stb, thaws, List.drop, intOfA, binD, binI, unD, mmL, buildA, mkAgg, allD, behind, behind0, takeAt, frzAs, frzA, adoptR, adopt, isD, isD0, trim, List.take, binS, sliceA, bnd, zOk, elems, Nat.reduceBNe, inpl, Nat.reduceLT, Nat.reduceBEq, Nat.reduceSub, Nat.reduceMul, Int.reduceLT, Int.reduceLE, Int.reduceEq, Int.reduceToNat, Int.reduceNeg, thaw, nodup, refsV, adopts, Pk.TY_Opr]
    refine ⟨_, _, _, rfl, ?_⟩
    exact .inl ⟨rfl, rfl, rfl, rfl, rfl, by rw [h7]; rfl, rfl, rfl, _, rfl⟩
  · rintro T' H' ⟨g0, g3, g5, g6, g7, g8, g4, J, rfl⟩
    have hl : H.length = (H.set p (.arr (bsD (grown d (d.size + (m - d.size)))) true)).length := by simp
    obtain ⟨J', hJ⟩ := trim_app ((keepT K_paddocklaw6_ObjectsBytes_1 T').map (·.2)) (H.set p (.arr (bsD (grown d (d.size + (m - d.size)))) true)) J
    rw [hl, hJ]
    have x7 : (H.set p (.arr (bsD (grown d (d.size + (m - d.size)))) true) ++ J')[i7]? = some (.box (.d (.agg o.cs))) := by
      rw [List.getElem?_append_left (by rw [List.length_set]; exact (List.getElem?_eq_some_iff.1 hH7).1), List.getElem?_set_ne hne]; exact hH7
    have hmx : d.size + (m - d.size) = max d.size m := by omega
    have hdl : decide (((d.size + (m - d.size) : Nat) : Int) < ((m : Nat) : Int)) = false := by simp; omega
    have hgm : grown d (d.size + (m - d.size)) = grown d m := by
      unfold grown
      rw [show d.size + (m - d.size) - d.size = m - d.size by omega]
    rw [hgm] at x7 hJ ⊢
    rw [h7] at g7
    generalize H.set p (.arr (bsD (grown d m)) true) = Hi at *
    generalize hG : Hi ++ J' = G at *
    simp (config := {decide := true}) only [K_paddocklaw6_ObjectsBytes_1, l_paddocklaw6_ObjectsBytes_1, g0, g3, g4, g5, g6, g7, g8, x7, hdl, hwm, Pk.EVL, keepT, enum, ↓reduceIte, ev, act, appT, callee, toDs, toD, loadA, storeA, subA, subD, updA, Eff.on, resA, resVs, resV, lk, finish, frzR, frzVs, frzV, fznR, fzns, fzn, lts, lt, ltO, List.all, pairsOk, indep, reduceCtorEq, Nat.reduceEqDiff, Nat.reduceAdd, Nat.reduceLeDiff, stb, thaws, List.drop, intOfA, binD, binI, unD, mmL, buildA, mkAgg, allD, behind, behind0, takeAt, frzAs, frzA, adoptR, adopt, isD, isD0, trim, List.take, binS, sliceA, bnd, zOk, elems, Nat.reduceBNe, inpl, Nat.reduceLT, Nat.reduceBEq, Nat.reduceSub, Nat.reduceMul, Int.reduceLT, Int.reduceLE, Int.reduceEq, Int.reduceToNat, Int.reduceNeg, thaw, nodup, refsV, adopts, Pk.TY_Opr]
    refine ⟨_, _, _, rfl, ?_⟩
    exact ⟨by simp, rfl, rfl, rfl, rfl, rfl, by rw [h7]; rfl, rfl, by rw [hmx]; rfl, J', hG.symm⟩
end Go.Proofs.Ytclambdgbphfkaa

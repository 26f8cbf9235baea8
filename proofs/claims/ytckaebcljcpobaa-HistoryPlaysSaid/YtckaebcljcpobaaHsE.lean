/- A history by the increments that were taken (plain). / A new history; an increment added. -/
import Derived.Test.YtckaebcljcpobaaHsC
set_option linter.all false
namespace Go.Proofs.Ytckaebcljcpobaa
open Pv Go Pk
set_option maxRecDepth 10000
set_option maxHeartbeats 2000000
theorem list_snoc_ind {α : Type} {M : List α → Prop} (h0 : M []) (hs : ∀ l x, M l → M (l ++ [x])) : ∀ l, M l := by
  have key : ∀ l : List α, M l.reverse := by
    intro l
    induction l with
    | nil => exact h0
    | cons x r ih => rw [List.reverse_cons]; exact hs _ _ ih
  intro l
  have := key l.reverse
  rwa [List.reverse_reverse] at this
theorem getM_setM (kvs : List (Int × DV)) (n : Int) (v : DV) (e : Int) : getM (setM kvs n v) e = if e = n then some v else getM kvs e := by
  induction kvs with
  | nil => simp only [setM, getM]
  | cons p r ih =>
    obtain ⟨j, u⟩ := p
    simp only [setM]
    by_cases h : n = j
    · rw [if_pos h]
      subst h
      simp only [getM]
      by_cases h2 : e = n
      · rw [if_pos h2, if_pos h2]
      · rw [if_neg h2, if_neg h2, if_neg h2]
    · rw [if_neg h]
      simp only [getM, ih]
      by_cases h2 : e = j
      · rw [if_pos h2, if_pos h2, if_neg (by omega)]
      · rw [if_neg h2, if_neg h2]
def mapAt (l : List Inc) : Mp := l.foldl nextM firstM
theorem mapAt_snoc (l : List Inc) (x : Inc) : mapAt (l ++ [x]) = nextM (mapAt l) x := by unfold mapAt; rw [List.foldl_append]; rfl
theorem mapAt_epoch (l : List Inc) : (mapAt l).epoch = (l.length : Int) + 1 := by
  refine list_snoc_ind (M := fun l => (mapAt l).epoch = (l.length : Int) + 1) rfl ?_ l
  intro l x h
  rw [mapAt_snoc]
  show (mapAt l).epoch + 1 = _
  rw [h, List.length_append]
  simp
def goodI (l : List Inc) : Prop := l.length ≤ 59 ∧ ∀ x ∈ l, isInc x = true ∧ 0 ≤ x.osd
theorem goodI_snoc {l : List Inc} {x : Inc} (h : goodI (l ++ [x])) : goodI l := ⟨by have := h.1; simp at this; omega, fun y hy => h.2 y (by simp [hy])⟩
def okO (o : Pk.Osd) : Bool := Osd.ok ⟨o.up, o.weight, o.host⟩
theorem isMp_iff (m : Mp) : isMp m = (okO m.osds.a0 && (okO m.osds.a1 && (okO m.osds.a2 && (okO m.osds.a3 && okO m.osds.a4))) && (decide (m.epoch ≥ 1) && decide (m.epoch ≤ 60))) := by
  unfold isMp isM osL okO
  simp only [List.all_cons, List.all_nil, Bool.and_true]
theorem okO_up {o : Pk.Osd} (h : okO o = true) (b : Bool) : okO { o with up := b } = true := h
theorem okO_weight {o : Pk.Osd} (h : okO o = true) {n : Int} (h0 : 0 ≤ n) (h1 : n ≤ 16) : okO { o with weight := n } = true := by
  unfold okO Osd.ok at h ⊢
  simp at h ⊢
  omega
theorem next_is {m : Mp} {x : Inc} (hm : isMp m = true) (hx : isInc x = true) (h0 : 0 ≤ x.osd) (he : m.epoch < 60) : isMp (nextM m x) = true := by
  have h5 := isInc_osd hx
  rw [isMp_iff] at hm ⊢
  simp only [Bool.and_eq_true, decide_eq_true_eq] at hm ⊢
  obtain ⟨⟨m0, m1, m2, m3, m4⟩, e1, e2⟩ := hm
  refine ⟨?_, by show m.epoch + 1 ≥ 1; omega, by show m.epoch + 1 ≤ 60; omega⟩
  obtain h | h | h | h | h : x.osd.toNat = 0 ∨ x.osd.toNat = 1 ∨ x.osd.toNat = 2 ∨ x.osd.toNat = 3 ∨ x.osd.toNat = 4 := by omega
  all_goals
    unfold nextM
    rw [h]
    simp only
    split
    · exact ⟨by first | exact m0 | exact okO_up m0 _, by first | exact m1 | exact okO_up m1 _, by first | exact m2 | exact okO_up m2 _, by first | exact m3 | exact okO_up m3 _, by first | exact m4 | exact okO_up m4 _⟩
    · split
      · exact ⟨by first | exact m0 | exact okO_up m0 _, by first | exact m1 | exact okO_up m1 _, by first | exact m2 | exact okO_up m2 _, by first | exact m3 | exact okO_up m3 _, by first | exact m4 | exact okO_up m4 _⟩
      · split
        · rename_i k1 k2 k3
          have hn : 0 ≤ x.n ∧ x.n ≤ 16 := by
            unfold isInc at hx
            simp at k3
            rw [if_neg (by simp [k3]), if_pos (by simp [k3])] at hx
            simp at hx
            omega
          exact ⟨by first | exact m0 | exact okO_weight m0 hn.1 hn.2, by first | exact m1 | exact okO_weight m1 hn.1 hn.2, by first | exact m2 | exact okO_weight m2 hn.1 hn.2, by first | exact m3 | exact okO_weight m3 hn.1 hn.2, by first | exact m4 | exact okO_weight m4 hn.1 hn.2⟩
        · exact ⟨m0, m1, m2, m3, m4⟩
theorem mapAt_is {l : List Inc} (h : goodI l) : isMp (mapAt l) = true := by
  revert h
  refine list_snoc_ind (M := fun l => goodI l → isMp (mapAt l) = true) (fun _ => by decide) ?_ l
  intro l x ih h
  rw [mapAt_snoc]
  have hx := h.2 x (by simp)
  refine next_is (ih (goodI_snoc h)) hx.1 hx.2 ?_
  rw [mapAt_epoch]
  have := h.1
  simp at this
  omega
/-- The history behind the increments that were taken. -/
def hs0 : Hst := { last := 1, ms := [(1, firstM.d)], xs := [], iv := ⟨[⟨1, actI firstM 0⟩], [⟨1, actI firstM 1⟩], [⟨1, actI firstM 2⟩], [⟨1, actI firstM 3⟩]⟩ }
def stepS (s : Hst) (m : Mp) (x : Inc) : Hst := laysS { s with xs := setM s.xs m.epoch x.d } m
def hsGo (p : Hst × Mp) (x : Inc) : Hst × Mp := (stepS p.1 (nextM p.2 x) x, nextM p.2 x)
def hsP (l : List Inc) : Hst × Mp := l.foldl hsGo (hs0, firstM)
def hsOf (l : List Inc) : Hst := (hsP l).1
theorem hsP_map (l : List Inc) : (hsP l).2 = mapAt l := by
  refine list_snoc_ind (M := fun l => (hsP l).2 = mapAt l) rfl ?_ l
  intro l x h
  rw [mapAt_snoc, ← h]
  unfold hsP
  rw [List.foldl_append]
  rfl
theorem hsOf_snoc (l : List Inc) (x : Inc) : hsOf (l ++ [x]) = stepS (hsOf l) (mapAt (l ++ [x])) x := by
  rw [mapAt_snoc, ← hsP_map l]
  unfold hsOf hsP
  rw [List.foldl_append]
  rfl
theorem hsOf_last (l : List Inc) : (hsOf l).last = (l.length : Int) + 1 := by
  refine list_snoc_ind (M := fun l => (hsOf l).last = (l.length : Int) + 1) rfl ?_ l
  intro l x h
  rw [hsOf_snoc]
  show (mapAt (l ++ [x])).epoch = _
  exact mapAt_epoch _
theorem hsOf_ms (l : List Inc) (e : Int) : getM (hsOf l).ms e = if 1 ≤ e ∧ e ≤ (l.length : Int) + 1 then some (mapAt (l.take (e - 1).toNat)).d else none := by
  refine list_snoc_ind (M := fun l => getM (hsOf l).ms e = if 1 ≤ e ∧ e ≤ (l.length : Int) + 1 then some (mapAt (l.take (e - 1).toNat)).d else none) ?_ ?_ l
  · show getM [(1, firstM.d)] e = _
    simp only [getM]
    by_cases h : e = 1
    · subst h; rfl
    · rw [if_neg h, if_neg (by simp; omega)]
  · intro l x ih
    rw [hsOf_snoc]
    show getM (setM (hsOf l).ms (mapAt (l ++ [x])).epoch (mapAt (l ++ [x])).d) e = _
    rw [getM_setM, mapAt_epoch, ih]
    have hl : ((l ++ [x]).length : Int) = (l.length : Int) + 1 := by simp
    rw [hl]
    by_cases h : e = (l.length : Int) + 1 + 1
    · rw [if_pos h, if_pos (by omega), List.take_of_length_le (by simp; omega)]
    · rw [if_neg h]
      by_cases h2 : 1 ≤ e ∧ e ≤ (l.length : Int) + 1
      · rw [if_pos h2, if_pos (by omega), List.take_append_of_le_length (by omega)]
      · rw [if_neg h2, if_neg (by omega)]
theorem hsOf_xs (l : List Inc) (e : Int) : getM (hsOf l).xs e = if 2 ≤ e ∧ e ≤ (l.length : Int) + 1 then (l[(e - 2).toNat]?).map Inc.d else none := by
  refine list_snoc_ind (M := fun l => getM (hsOf l).xs e = if 2 ≤ e ∧ e ≤ (l.length : Int) + 1 then (l[(e - 2).toNat]?).map Inc.d else none) ?_ ?_ l
  · show none = _
    rw [if_neg (by simp; omega)]
  · intro l x ih
    rw [hsOf_snoc]
    show getM (setM (hsOf l).xs (mapAt (l ++ [x])).epoch x.d) e = _
    rw [getM_setM, mapAt_epoch, ih]
    have hl : ((l ++ [x]).length : Int) = (l.length : Int) + 1 := by simp
    rw [hl]
    by_cases h : e = (l.length : Int) + 1 + 1
    · rw [if_pos h, if_pos (by omega), show (e - 2).toNat = l.length by omega]
      simp
    · rw [if_neg h]
      by_cases h2 : 2 ≤ e ∧ e ≤ (l.length : Int) + 1
      · rw [if_pos h2, if_pos (by omega), List.getElem?_append_left (by omega)]
      · rw [if_neg h2, if_neg (by omega)]
def okL (k : Nat) (l : List Itv) : Prop := okI l ∧ l.length ≤ k + 1
theorem okL_add {k : Nat} {l : List Itv} (h : okL k l) (hk : k ≤ 900) (e : Int) {a : List Int} (ha : a.length ≤ 3) : okL (k + 1) (ivAdd l e a) :=
  ⟨okI_add h.1 (by have := h.2; omega) e ha, by have := ivAdd_len l e a; have := h.2; omega⟩
theorem okI_one (a : List Int) (h : a.length ≤ 3) : okI [⟨1, a⟩] := ⟨by simp, by simp, fun x hx => by simp at hx; subst hx; exact h⟩
theorem hsOf_okL {l : List Inc} (h : goodI l) : okL l.length (hsOf l).iv.a0 ∧ okL l.length (hsOf l).iv.a1 ∧ okL l.length (hsOf l).iv.a2 ∧ okL l.length (hsOf l).iv.a3 := by
  revert h
  refine list_snoc_ind (M := fun l => goodI l → okL l.length (hsOf l).iv.a0 ∧ okL l.length (hsOf l).iv.a1 ∧ okL l.length (hsOf l).iv.a2 ∧ okL l.length (hsOf l).iv.a3) ?_ ?_ l
  · intro _
    exact ⟨⟨okI_one _ (actI_len _ _), by simp [hsOf, hsP, hs0]⟩, ⟨okI_one _ (actI_len _ _), by simp [hsOf, hsP, hs0]⟩, ⟨okI_one _ (actI_len _ _), by simp [hsOf, hsP, hs0]⟩, ⟨okI_one _ (actI_len _ _), by simp [hsOf, hsP, hs0]⟩⟩
  · intro l x ih h
    obtain ⟨i0, i1, i2, i3⟩ := ih (goodI_snoc h)
    have hk : l.length ≤ 900 := by have := (goodI_snoc h).1; omega
    rw [hsOf_snoc, List.length_append]
    exact ⟨okL_add i0 hk _ (actI_len _ _), okL_add i1 hk _ (actI_len _ _), okL_add i2 hk _ (actI_len _ _), okL_add i3 hk _ (actI_len _ _)⟩
theorem hsOf_ok {l : List Inc} (h : goodI l) : (hsOf l).ok := ⟨(hsOf_okL h).1.1, (hsOf_okL h).2.1.1, (hsOf_okL h).2.2.1.1, (hsOf_okL h).2.2.2.1⟩
/-- What becomes of the increments when one comes for an epoch, and what is told. -/
def addL (l : List Inc) (e : Int) (x : Inc) : List Inc × Int :=
  if e ≤ (l.length : Int) + 1 then (l, 51) else if e > (l.length : Int) + 2 then (l, 50) else if isInc x = true ∧ l.length < 59 then (l ++ [x], 0) else (l, 40)
theorem addL_good {l : List Inc} {e : Int} {x : Inc} (h : goodI l) (hx : x.ok) : goodI (addL l e x).1 := by
  unfold addL
  split
  · exact h
  · split
    · exact h
    · split
      · rename_i hc
        refine ⟨by simp; omega, fun y hy => ?_⟩
        rcases List.mem_append.1 hy with hy | hy
        · exact h.2 y hy
        · simp at hy
          subst hy
          exact ⟨hc.1, by simp only [Inc.ok] at hx; omega⟩
      · exact h
theorem good_nil : goodI [] := ⟨by simp, fun x hx => by simp at hx⟩
end Go.Proofs.Ytckaebcljcpobaa

namespace Go.Proofs.Ytckaebcljcpobaa
open Pv Go Pk
set_option maxRecDepth 10000
set_option maxHeartbeats 4000000
/-- Objects behind P. -/
def hr (P L : Heap) : Heap := P ++ L
section
variable {P : Heap} {p : Nat} (hP : P.length = p)
include hP in
theorem hr_at (L : Heap) (i : Nat) : (hr P L)[p + i]? = L[i]? := by
  unfold hr
  rw [List.getElem?_append_right (by omega)]
  congr 1
  omega
include hP in
theorem hr_at0 (L : Heap) : (hr P L)[p]? = L[0]? := hr_at hP L 0
include hP in
theorem hr_set (L : Heap) (i : Nat) (y : Ob) : (hr P L).set (p + i) y = hr P (L.set i y) := by
  unfold hr
  rw [List.set_append_right _ _ (by omega), show p + i - P.length = i by omega]
include hP in
theorem hr_set0 (L : Heap) (y : Ob) : (hr P L).set p y = hr P (L.set 0 y) := hr_set hP L 0 y
include hP in
theorem hr_len (L : Heap) : (hr P L).length = p + L.length := by
  unfold hr
  rw [List.length_append, hP]
theorem hr_push (L Z : Heap) : hr P L ++ Z = hr P (L ++ Z) := by simp [hr]
include hP in
theorem hr_take (L : Heap) (i : Nat) : List.take (p + i) (hr P L) = hr P (L.take i) := by
  unfold hr
  rw [List.take_append, List.take_of_length_le (by omega), show p + i - P.length = i by omega]
theorem hr_all (f : Ob → Bool) (L : Heap) : (hr P L).all f = (P.all f && L.all f) := by
  unfold hr
  rw [List.all_append]
end
def grb0 : Grb := { g0 := .box (.d (.agg firstM.cs)), g1 := .arr [Itv.d ⟨1, actI firstM 0⟩] true, g2 := .arr [Itv.d ⟨1, actI firstM 1⟩] true, g3 := .arr [Itv.d ⟨1, actI firstM 2⟩] true, g4 := .arr [Itv.d ⟨1, actI firstM 3⟩] true, w0 := true, w1 := true, w2 := true, w3 := true }
theorem grb0_ok (n : Nat) : grb0.ok n := ⟨rfl, rfl, rfl, rfl, rfl⟩
theorem lays_new {P : Heap} {p : Nat} (hP : P.length = p) : evF C F_history_History_lays [.ptr (p + 2) 0, .d (.agg firstM.cs)] (hr P [.map .u32 [], .map .u32 [], .box (.agg [.mp p, .mp (p + 1), .d (.i .u32 0), .nilS, .nilS, .nilS, .nilS])]) = some (.tup [], hq P (hobs p hs0 grb0) []) := by
  have g := hr_at hP
  have g0 := hr_at0 hP
  have st := hr_set hP
  have st0 := hr_set0 hP
  have ln := hr_len hP
  have tk := hr_take hP
  have A0 := acting_ev firstM 0
  have A1 := acting_ev firstM 1
  have A2 := acting_ev firstM 2
  have A3 := acting_ev firstM 3
  have u0 : IntKind.u8.wrap 0 = 0 := by decide
  have u1 : IntKind.u8.wrap 1 = 1 := by decide
  have u2 : IntKind.u8.wrap 2 = 2 := by decide
  have u3 : IntKind.u8.wrap 3 = 3 := by decide
  have i1 : IntKind.i64.wrap 1 = 1 := by decide
  have i0' : IntKind.i64.wrap (0 + 1) = 1 := by decide
  have i1' : IntKind.i64.wrap (1 + 1) = 2 := by decide
  have i2' : IntKind.i64.wrap (2 + 1) = 3 := by decide
  have i3' : IntKind.i64.wrap (3 + 1) = 4 := by decide
  have zU : ∀ v : Int, upd Itv.zeroA 0 [.d (.i .u32 v)] = [.d (.i .u32 v), .nilS] := fun _ => rfl
  have zV : ∀ x y z : AV, upd [x, y] 1 [z] = [x, z] := fun _ _ _ => rfl
  have hf : firstM.epoch = 1 := rfl
  have l1 : (1 ≤ LIM) = True := eq_true (by decide)
  have e0 : ((0 : Int) == 0) = true := rfl
  rw [evF_code (rfl : C F_history_History_lays = some a_history_History_lays) _ _ rfl]
  simp (config := {decide := true}) only [c_history_History_lays, g, g0, st, st0, ln, tk, hr_push, hr_all, setM, thaws, Pk.EVL, keepT, enum, ↓reduceIte, ev, act, appT, callee, toDs, toD, loadA, storeA, subA, subD, updA, Eff.on, resA, resVs, resV, lk, finish, frzR, frzVs, frzV, fznR, fzns, fzn, lts, lt, ltO, List.all, pairsOk, indep, reduceCtorEq, Nat.reduceEqDiff, Nat.reduceAdd, Nat.reduceLeDiff, stb, thaws, List.drop, intOfA, binD, binI, unD, mmL, buildA, mkAgg, allD, bslD, behind, behind0, takeAt, frzAs, frzA, adoptR, adopt, isD, isD0, trim, List.take, binS, sliceA, bnd, zOk, elems, Nat.reduceBNe, inpl, Nat.reduceLT, Nat.reduceBEq, Nat.reduceSub, Nat.reduceMul, Int.reduceLT, Int.reduceLE, Int.reduceEq, Int.reduceToNat, Int.reduceNeg, thaw, nodup, refsV, adopts, Pk.TY_Mp]
  rw [evL_eq]
  simp (config := {decide := true}) only [K_history_History_lays_0, l_history_History_lays_0, g, g0, st, st0, ln, tk, hr_push, hr_all, A0, A1, A2, A3, u0, u1, u2, u3, i1, i0', i1', i2', i3', zU, zV, hf, l1, e0, ite_self, againL_exit, Nat.add_lt_add_iff_left, List.all_append, Pk.EVL, keepT, enum, ↓reduceIte, ev, act, appT, callee, toDs, toD, loadA, storeA, subA, subD, updA, Eff.on, resA, resVs, resV, lk, finish, frzR, frzVs, frzV, fznR, fzns, fzn, lts, lt, ltO, List.all, pairsOk, indep, reduceCtorEq, Nat.reduceEqDiff, Nat.reduceAdd, Nat.reduceLeDiff, stb, thaws, List.drop, intOfA, binD, binI, unD, mmL, buildA, mkAgg, allD, bslD, behind, behind0, takeAt, frzAs, frzA, adoptR, adopt, isD, isD0, trim, List.take, binS, sliceA, bnd, zOk, elems, Nat.reduceBNe, inpl, Nat.reduceLT, Nat.reduceBEq, Nat.reduceSub, Nat.reduceMul, Int.reduceLT, Int.reduceLE, Int.reduceEq, Int.reduceToNat, Int.reduceNeg, thaw, nodup, refsV, adopts, Pk.TY_Mp, Pk.TY_Itv]
  rw [evL_eq]
  simp (config := {decide := true}) only [K_history_History_lays_0, l_history_History_lays_0, g, g0, st, st0, ln, tk, hr_push, hr_all, A0, A1, A2, A3, u0, u1, u2, u3, i1, i0', i1', i2', i3', zU, zV, hf, l1, e0, ite_self, againL_exit, Nat.add_lt_add_iff_left, List.all_append, Pk.EVL, keepT, enum, ↓reduceIte, ev, act, appT, callee, toDs, toD, loadA, storeA, subA, subD, updA, Eff.on, resA, resVs, resV, lk, finish, frzR, frzVs, frzV, fznR, fzns, fzn, lts, lt, ltO, List.all, pairsOk, indep, reduceCtorEq, Nat.reduceEqDiff, Nat.reduceAdd, Nat.reduceLeDiff, stb, thaws, List.drop, intOfA, binD, binI, unD, mmL, buildA, mkAgg, allD, bslD, behind, behind0, takeAt, frzAs, frzA, adoptR, adopt, isD, isD0, trim, List.take, binS, sliceA, bnd, zOk, elems, Nat.reduceBNe, inpl, Nat.reduceLT, Nat.reduceBEq, Nat.reduceSub, Nat.reduceMul, Int.reduceLT, Int.reduceLE, Int.reduceEq, Int.reduceToNat, Int.reduceNeg, thaw, nodup, refsV, adopts, Pk.TY_Mp, Pk.TY_Itv]
  rw [evL_eq]
  simp (config := {decide := true}) only [K_history_History_lays_0, l_history_History_lays_0, g, g0, st, st0, ln, tk, hr_push, hr_all, A0, A1, A2, A3, u0, u1, u2, u3, i1, i0', i1', i2', i3', zU, zV, hf, l1, e0, ite_self, againL_exit, Nat.add_lt_add_iff_left, List.all_append, Pk.EVL, keepT, enum, ↓reduceIte, ev, act, appT, callee, toDs, toD, loadA, storeA, subA, subD, updA, Eff.on, resA, resVs, resV, lk, finish, frzR, frzVs, frzV, fznR, fzns, fzn, lts, lt, ltO, List.all, pairsOk, indep, reduceCtorEq, Nat.reduceEqDiff, Nat.reduceAdd, Nat.reduceLeDiff, stb, thaws, List.drop, intOfA, binD, binI, unD, mmL, buildA, mkAgg, allD, bslD, behind, behind0, takeAt, frzAs, frzA, adoptR, adopt, isD, isD0, trim, List.take, binS, sliceA, bnd, zOk, elems, Nat.reduceBNe, inpl, Nat.reduceLT, Nat.reduceBEq, Nat.reduceSub, Nat.reduceMul, Int.reduceLT, Int.reduceLE, Int.reduceEq, Int.reduceToNat, Int.reduceNeg, thaw, nodup, refsV, adopts, Pk.TY_Mp, Pk.TY_Itv]
  rw [evL_eq]
  simp (config := {decide := true}) only [K_history_History_lays_0, l_history_History_lays_0, g, g0, st, st0, ln, tk, hr_push, hr_all, A0, A1, A2, A3, u0, u1, u2, u3, i1, i0', i1', i2', i3', zU, zV, hf, l1, e0, ite_self, againL_exit, Nat.add_lt_add_iff_left, List.all_append, Pk.EVL, keepT, enum, ↓reduceIte, ev, act, appT, callee, toDs, toD, loadA, storeA, subA, subD, updA, Eff.on, resA, resVs, resV, lk, finish, frzR, frzVs, frzV, fznR, fzns, fzn, lts, lt, ltO, List.all, pairsOk, indep, reduceCtorEq, Nat.reduceEqDiff, Nat.reduceAdd, Nat.reduceLeDiff, stb, thaws, List.drop, intOfA, binD, binI, unD, mmL, buildA, mkAgg, allD, bslD, behind, behind0, takeAt, frzAs, frzA, adoptR, adopt, isD, isD0, trim, List.take, binS, sliceA, bnd, zOk, elems, Nat.reduceBNe, inpl, Nat.reduceLT, Nat.reduceBEq, Nat.reduceSub, Nat.reduceMul, Int.reduceLT, Int.reduceLE, Int.reduceEq, Int.reduceToNat, Int.reduceNeg, thaw, nodup, refsV, adopts, Pk.TY_Mp, Pk.TY_Itv]
  rw [evL_eq]
  simp (config := {decide := true}) only [K_history_History_lays_0, l_history_History_lays_0, g, g0, st, st0, ln, tk, hr_push, hr_all, A0, A1, A2, A3, u0, u1, u2, u3, i1, i0', i1', i2', i3', zU, zV, hf, l1, e0, ite_self, againL_exit, Nat.add_lt_add_iff_left, List.all_append, Pk.EVL, keepT, enum, ↓reduceIte, ev, act, appT, callee, toDs, toD, loadA, storeA, subA, subD, updA, Eff.on, resA, resVs, resV, lk, finish, frzR, frzVs, frzV, fznR, fzns, fzn, lts, lt, ltO, List.all, pairsOk, indep, reduceCtorEq, Nat.reduceEqDiff, Nat.reduceAdd, Nat.reduceLeDiff, stb, thaws, List.drop, intOfA, binD, binI, unD, mmL, buildA, mkAgg, allD, bslD, behind, behind0, takeAt, frzAs, frzA, adoptR, adopt, isD, isD0, trim, List.take, binS, sliceA, bnd, zOk, elems, Nat.reduceBNe, inpl, Nat.reduceLT, Nat.reduceBEq, Nat.reduceSub, Nat.reduceMul, Int.reduceLT, Int.reduceLE, Int.reduceEq, Int.reduceToNat, Int.reduceNeg, thaw, nodup, refsV, adopts, Pk.TY_Mp, Pk.TY_Itv]
  rfl
end Go.Proofs.Ytckaebcljcpobaa

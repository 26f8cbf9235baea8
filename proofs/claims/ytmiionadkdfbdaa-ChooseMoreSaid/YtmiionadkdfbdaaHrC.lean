/- The document's histories: Last, Map, Add (the reference's), amid other objects. / The document's histories: Add (the reference's), amid other objects. -/
import Derived.Test.YtmiionadkdfbdaaHrA
set_option linter.all false
namespace Go.Proofs.Ytmiionadkdfbdaa
open Pv Go Pk
set_option maxRecDepth 10000
set_option maxHeartbeats 4000000
/-- A history's row as it is held: nil, or an array at place o. -/
def isRow (Q : Heap) (m : Nat) (v : AV) (l : List Inc) : Prop := (v = .nilS ∧ l = []) ∨ ∃ o, v = .view o l.length 3 0 l.length ∧ o < m ∧ Q[o]? = some (.arr (l.map Inc.d) true)
theorem goodI_ok {x : Inc} (h : isInc x = true ∧ 0 ≤ x.osd) : x.ok := by
  obtain ⟨a, b, c⟩ := x
  obtain ⟨h, h0⟩ := h
  have hk := isInc_kind h
  have ho := isInc_osd h
  simp only at hk ho h0
  have hn : 0 ≤ c ∧ c ≤ 16 := by
    unfold isInc at h
    split at h
    · simp at h; omega
    · split at h
      · simp at h; exact h.2
      · simp at h; omega
  unfold Inc.ok
  simp only
  omega
section
variable {Q : Heap} {m n0 : Nat} (hQ : Q.length = m) (hn : n0 < m) (hall : ∀ k, Q.all (ltO (m + k)) = true) {v : AV} {l : List Inc} (hv : isRow Q m v l) (hb : Q[n0]? = some (.box (.agg [v]))) (hl : goodI l)
include hQ hn hall hv hb hl
theorem reflast_at : evF C F_paddockref3_History_Last [.ptr n0 0] Q = some (.d (.i .u32 ((l.length : Int) + 1)), Q) := by
  have h59 := hl.1
  have hw : IntKind.u32.wrap (l.length : Int) = (l.length : Int) := wu32 (by omega)
  have hw1 : IntKind.u32.wrap ((l.length : Int) + 1) = (l.length : Int) + 1 := wu32 (by omega)
  have htk : List.take m Q = Q := by rw [← hQ]; exact List.take_length
  have hall0 := hall 0
  rw [Nat.add_zero] at hall0
  rw [evF_code (rfl : C F_paddockref3_History_Last = some a_paddockref3_History_Last) _ _ rfl]
  rcases hv with ⟨rfl, rfl⟩ | ⟨o, rfl, ho, hQo⟩
  · have hw0 : IntKind.u32.wrap 0 = 0 := by decide
    have hw2 : IntKind.u32.wrap (0 + 1) = (((0 : Nat) : Int) + 1) := by decide
    simp (config := {decide := true}) only [c_paddockref3_History_Last, hb, hQ, hw0, hw2, htk, hall0, ite_self, List.length_nil, Pk.EVL, keepT, enum, ↓reduceIte, ev, act, appT, appW, callee, toDs, toD, loadA, storeA, subA, subD, updA, Eff.on, resA, resVs, resV, lk, finish, frzR, frzVs, frzV, fznR, fzns, fzn, lts, lt, ltO, List.all, pairsOk, indep, reduceCtorEq, Nat.reduceEqDiff, Nat.reduceAdd, Nat.reduceLeDiff, stb, thaws, List.drop, intOfA, binD, binI, unD, mmL, buildA, mkAgg, allD, bslD, behind, behind0, takeAt, frzAs, frzA, adoptR, adopt, isD, isD0, trim, List.take, binS, sliceA, bnd, zOk, elems, Nat.reduceBNe, inpl, Nat.reduceLT, Nat.reduceBEq, Nat.reduceSub, Nat.reduceMul, Int.reduceLT, Int.reduceLE, Int.reduceEq, Int.reduceToNat, Int.reduceNeg, thaw, nodup, refsV, adopts, sameH_self]
  · simp (config := {decide := true}) only [c_paddockref3_History_Last, hb, hQ, hw, hw1, htk, hall0, ite_self, Pk.EVL, keepT, enum, ↓reduceIte, ev, act, appT, appW, callee, toDs, toD, loadA, storeA, subA, subD, updA, Eff.on, resA, resVs, resV, lk, finish, frzR, frzVs, frzV, fznR, fzns, fzn, lts, lt, ltO, List.all, pairsOk, indep, reduceCtorEq, Nat.reduceEqDiff, Nat.reduceAdd, Nat.reduceLeDiff, stb, thaws, List.drop, intOfA, binD, binI, unD, mmL, buildA, mkAgg, allD, bslD, behind, behind0, takeAt, frzAs, frzA, adoptR, adopt, isD, isD0, trim, List.take, binS, sliceA, bnd, zOk, elems, Nat.reduceBNe, inpl, Nat.reduceLT, Nat.reduceBEq, Nat.reduceSub, Nat.reduceMul, Int.reduceLT, Int.reduceLE, Int.reduceEq, Int.reduceToNat, Int.reduceNeg, thaw, nodup, refsV, adopts, sameH_self]
theorem refmap_at (k : Nat) (hk : k ≤ l.length) : evF C F_paddockref3_History_Map [.ptr n0 0, .d (.i .u32 ((k : Int) + 1))] Q = some (.d (.agg (mapAt (l.take k)).cs), Q) := by
  have h59 := hl.1
  have hat : ∀ X, (hr Q X)[n0]? = some (.box (.agg [v])) := fun X => by unfold hr; rw [List.getElem?_append_left (by omega)]; exact hb
  have hq1 := hr_at hQ
  have hq0 := hr_at0 hQ
  have hs1 := hr_set hQ
  have hs0 := hr_set0 hQ
  have hln := hr_len hQ
  have htk := hr_take hQ
  have hpush : ∀ Z, Q ++ Z = hr Q Z := fun _ => rfl
  have hwk : IntKind.i64.wrap ((k : Int) + 1) = (k : Int) + 1 := wi64 (by omega)
  have m1 : (m ≤ m + 2) = True := eq_true (by omega)
  have htk0 : ∀ X, List.take m (hr Q X) = Q := fun X => by unfold hr; exact List.take_left' hQ
  have hall0 := hall 0
  rw [Nat.add_zero] at hall0
  rw [evF_code (rfl : C F_paddockref3_History_Map = some a_paddockref3_History_Map) _ _ rfl]
  simp (config := {decide := true}) only [c_paddockref3_History_Map, reffirst_at, hpush, hQ, hr_push, hq1, hq0, hs1, hs0, hln, thaws, ite_self, Pk.EVL, keepT, enum, ↓reduceIte, ev, act, appT, appW, callee, toDs, toD, loadA, storeA, subA, subD, updA, Eff.on, resA, resVs, resV, lk, finish, frzR, frzVs, frzV, fznR, fzns, fzn, lts, lt, ltO, List.all, pairsOk, indep, reduceCtorEq, Nat.reduceEqDiff, Nat.reduceAdd, Nat.reduceLeDiff, stb, thaws, List.drop, intOfA, binD, binI, unD, mmL, buildA, mkAgg, allD, bslD, behind, behind0, takeAt, frzAs, frzA, adoptR, adopt, isD, isD0, trim, List.take, binS, sliceA, bnd, zOk, elems, Nat.reduceBNe, inpl, Nat.reduceLT, Nat.reduceBEq, Nat.reduceSub, Nat.reduceMul, Int.reduceLT, Int.reduceLE, Int.reduceEq, Int.reduceToNat, Int.reduceNeg, thaw, nodup, refsV, adopts, sameH_self, Pk.TY_Mp]
  simp only [Option.bind_assoc]
  have hall2 : ∀ a b : DV, (hr Q [.box (.d a), .box (.d b)]).all (ltO (m + 2)) = true := fun a b => by rw [hr_all, hall 2]; rfl
  refine bind_run (loop_run (fun i T H => lk T 0 = .ptr n0 0 ∧ lk T 1 = .d (.i .u32 ((k : Int) + 1)) ∧ lk T 4 = .ptr m 0 ∧ lk T 5 = .ptr (m + 1) 0 ∧ lk T 6 = .d (.i .i64 (i : Nat)) ∧ H = hr Q [.box (.d (.agg Mp.zero.cs)), .box (.d (.agg (mapAt (l.take i)).cs))])
    (fun e T H => e = .exit 0 ∧ lk T 4 = .ptr m 0 ∧ lk T 5 = .ptr (m + 1) 0 ∧ H = hr Q [.box (.d (.agg Mp.zero.cs)), .box (.d (.agg (mapAt (l.take k)).cs))]) k ?_ ?_ k 0 _ _ (by omega) ⟨rfl, rfl, rfl, rfl, rfl, rfl⟩) ?_
  · rintro i T H hi ⟨h0, h1, h4, h5, h6, rfl⟩
    obtain ⟨x, hx⟩ : ∃ x, l[i]? = some x := ⟨l[i]'(by omega), List.getElem?_eq_getElem _⟩
    have hxd := list_idx Inc.d hx
    have hgood := goodI_take hl (i + 1)
    rw [take_succ' hx] at hgood
    have hxo : x.ok := goodI_ok (hl.2 x (List.mem_of_getElem? hx))
    have hap := refapply_at (mapAt (l.take i)) x hxo
    rw [refNext_eq, apply_good hgood, ← take_succ' hx] at hap
    have hd : decide ((i : Int) + 2 ≤ (k : Int) + 1) = true := by simp; omega
    have hd2 : decide ((i : Int) < ((l.length : Nat) : Int)) = true := by simp; omega
    have hw2 : IntKind.i64.wrap ((i : Int) + 2) = (i : Int) + 2 := wi64 (by omega)
    have hw : IntKind.i64.wrap ((i : Int) + 1) = ((i + 1 : Nat) : Int) := wi64 (by omega)
    have b0 : (0 ≤ (i : Int)) = True := eq_true (Int.natCast_nonneg _)
    have b1 : ((i : Int) < ((l.length : Nat) : Int)) = True := eq_true (by omega)
    have hEl : (l.map Inc.d).length = l.length := List.length_map _
    have n2 : (n0 < m + 2) = True := eq_true (by omega)
    have n3 : (m < m + 2) = True := eq_true (by omega)
    have n4 : (m + 1 < m + 2) = True := eq_true (by omega)
    rcases hv with ⟨rfl, rfl⟩ | ⟨o, rfl, ho, hQo⟩
    · simp at hx
    have hato : ∀ X, (hr Q X)[o]? = some (.arr (l.map Inc.d) true) := fun X => by unfold hr; rw [List.getElem?_append_left (by omega)]; exact hQo
    simp (config := {decide := true}) only [K_paddockref3_History_Map_0, l_paddockref3_History_Map_0, h0, h1, h4, h5, h6, hat, hato, hxd, hap, hd, hd2, hw, hw2, hwk, b0, b1, hEl, n2, n3, n4, hall2, hQ, hr_push, hq1, hq0, hs1, hs0, hln, htk, guardR_und, Nat.zero_add, Int.toNat_natCast, ite_self, Pk.EVL, keepT, enum, ↓reduceIte, ev, act, appT, appW, callee, toDs, toD, loadA, storeA, subA, subD, updA, Eff.on, resA, resVs, resV, lk, finish, frzR, frzVs, frzV, fznR, fzns, fzn, lts, lt, ltO, List.all, pairsOk, indep, reduceCtorEq, Nat.reduceEqDiff, Nat.reduceAdd, Nat.reduceLeDiff, stb, thaws, List.drop, intOfA, binD, binI, unD, mmL, buildA, mkAgg, allD, bslD, behind, behind0, takeAt, frzAs, frzA, adoptR, adopt, isD, isD0, trim, List.take, binS, sliceA, bnd, zOk, elems, Nat.reduceBNe, inpl, Nat.reduceLT, Nat.reduceBEq, Nat.reduceSub, Nat.reduceMul, Int.reduceLT, Int.reduceLE, Int.reduceEq, Int.reduceToNat, Int.reduceNeg, thaw, nodup, refsV, adopts, sameH_self, Pk.TY_Mp, Pk.TY_Inc]
    exact ⟨_, _, _, rfl, .inl ⟨rfl, rfl, rfl, rfl, rfl, rfl, rfl⟩⟩
  · rintro T H ⟨h0, h1, h4, h5, h6, rfl⟩
    have hd : decide ((k : Int) + 2 ≤ (k : Int) + 1) = false := decide_eq_false (by omega)
    have hw2 : IntKind.i64.wrap ((k : Int) + 2) = (k : Int) + 2 := wi64 (by omega)
    have n2 : (n0 < m + 2) = True := eq_true (by omega)
    have n3 : (m < m + 2) = True := eq_true (by omega)
    have n4 : (m + 1 < m + 2) = True := eq_true (by omega)
    simp (config := {decide := true}) only [K_paddockref3_History_Map_0, l_paddockref3_History_Map_0, h0, h1, h4, h5, h6, hd, hw2, hwk, n2, n3, n4, hall2, hQ, hr_push, hq1, hq0, hs1, hs0, hln, htk, guardR_und, ite_self, Pk.EVL, keepT, enum, ↓reduceIte, ev, act, appT, appW, callee, toDs, toD, loadA, storeA, subA, subD, updA, Eff.on, resA, resVs, resV, lk, finish, frzR, frzVs, frzV, fznR, fzns, fzn, lts, lt, ltO, List.all, pairsOk, indep, reduceCtorEq, Nat.reduceEqDiff, Nat.reduceAdd, Nat.reduceLeDiff, stb, thaws, List.drop, intOfA, binD, binI, unD, mmL, buildA, mkAgg, allD, bslD, behind, behind0, takeAt, frzAs, frzA, adoptR, adopt, isD, isD0, trim, List.take, binS, sliceA, bnd, zOk, elems, Nat.reduceBNe, inpl, Nat.reduceLT, Nat.reduceBEq, Nat.reduceSub, Nat.reduceMul, Int.reduceLT, Int.reduceLE, Int.reduceEq, Int.reduceToNat, Int.reduceNeg, thaw, nodup, refsV, adopts, sameH_self, Pk.TY_Mp, Pk.TY_Inc]
    exact ⟨_, _, _, rfl, by simp, rfl, rfl, rfl, rfl⟩
  rintro e T H ⟨rfl, h4, h5, rfl⟩
  simp (config := {decide := true}) only [h4, h5, hQ, hr_push, hq1, hq0, hs1, hs0, hln, htk, htk0, hall0, ite_self, Pk.EVL, keepT, enum, ↓reduceIte, ev, act, appT, appW, callee, toDs, toD, loadA, storeA, subA, subD, updA, Eff.on, resA, resVs, resV, lk, finish, frzR, frzVs, frzV, fznR, fzns, fzn, lts, lt, ltO, List.all, pairsOk, indep, reduceCtorEq, Nat.reduceEqDiff, Nat.reduceAdd, Nat.reduceLeDiff, stb, thaws, List.drop, intOfA, binD, binI, unD, mmL, buildA, mkAgg, allD, bslD, behind, behind0, takeAt, frzAs, frzA, adoptR, adopt, isD, isD0, trim, List.take, binS, sliceA, bnd, zOk, elems, Nat.reduceBNe, inpl, Nat.reduceLT, Nat.reduceBEq, Nat.reduceSub, Nat.reduceMul, Int.reduceLT, Int.reduceLE, Int.reduceEq, Int.reduceToNat, Int.reduceNeg, thaw, nodup, refsV, adopts, sameH_self, Pk.TY_Mp, Pk.TY_Inc]
end
end Go.Proofs.Ytmiionadkdfbdaa

namespace Go.Proofs.Ytmiionadkdfbdaa
open Pv Go Pk
set_option maxRecDepth 10000
set_option maxHeartbeats 4000000
/-- The objects of a reference's history: its box, others, and the array of its row. -/
def rOk (n0 : Nat) (L : Heap) (l : List Inc) : Prop := ∃ (v : AV) (T : Heap), L = .box (.agg [v]) :: T ∧ plain T ∧ ((v = .nilS ∧ l = [] ∧ T = []) ∨ ∃ j : Nat, v = .view (n0 + 1 + j) l.length 3 0 l.length ∧ T[j]? = some (.arr (l.map Inc.d) true))
theorem rOk_new (n0 : Nat) : rOk n0 [.box (.agg [.nilS])] [] := ⟨.nilS, [], rfl, fun _ => rfl, .inl ⟨rfl, rfl, rfl⟩⟩
theorem rOk_pos {n0 : Nat} {L : Heap} {l : List Inc} (h : rOk n0 L l) : 0 < L.length := by
  obtain ⟨v, T, rfl, _⟩ := h
  simp
theorem rOk_all {n0 : Nat} {L : Heap} {l : List Inc} (h : rOk n0 L l) (k : Nat) : L.all (ltO (n0 + L.length + k)) = true := by
  obtain ⟨v, T, rfl, hT, h⟩ := h
  rw [List.all_cons, hT]
  rcases h with ⟨rfl, rfl, _⟩ | ⟨j, rfl, hj⟩
  · rfl
  · have := (List.getElem?_eq_some_iff.1 hj).1
    simp [ltO, lt, lts]
    omega
theorem refNext_good {l : List Inc} (hl : goodI l) (x : Inc) : (refNext (mapAt l) x).2 = decide (isInc x = true ∧ l.length < 59) := by
  unfold refNext
  rw [mapAt_is hl, mapAt_epoch, Bool.true_and]
  by_cases h1 : isInc x = true
  · rw [h1, Bool.true_and]
    by_cases h2 : l.length < 59
    · rw [decide_eq_false (by omega), decide_eq_true (by exact ⟨rfl, h2⟩)]; rfl
    · rw [decide_eq_true (by omega), decide_eq_false (by omega)]; rfl
  · rw [eq_false_of_ne_true h1]; rfl
theorem refadd_at {P0 : Heap} {n0 : Nat} (hP : P0.length = n0) (hPa : ∀ k, P0.all (ltO (n0 + k)) = true) {L : Heap} {l : List Inc} (hL : rOk n0 L l) (hl : goodI l) (x : Inc) (hx : x.ok) :
    ∃ L', rOk n0 L' (takeN l x) ∧ L.length ≤ L'.length ∧ evF C F_paddockref3_History_Add [.ptr n0 0, .d (.i .u32 ((l.length : Int) + 2)), .d (.agg x.cs)] (hr P0 L) = some (.d (.i .i64 (codeN l x)), hr P0 L') := by
  have hLp := rOk_pos hL
  have hLa := rOk_all hL
  obtain ⟨m, hm⟩ : ∃ m, n0 + L.length = m := ⟨_, rfl⟩
  obtain ⟨Q, hQe⟩ : ∃ Q, hr P0 L = Q := ⟨_, rfl⟩
  have hQ : Q.length = m := by rw [← hQe, hr_len hP, hm]
  have hQa : ∀ k, Q.all (ltO (m + k)) = true := fun k => by
    rw [← hQe, hr_all, ← hm, hLa k, Nat.add_assoc, hPa]; rfl
  have hQ1 : (hr Q [.box (.d (.agg x.cs))]).length = m + 1 := by rw [hr_len hQ]; rfl
  have hQ1a : ∀ k, (hr Q [.box (.d (.agg x.cs))]).all (ltO (m + 1 + k)) = true := fun k => by rw [hr_all, Nat.add_assoc, hQa]; rfl
  obtain ⟨v, T, hLe, hT, hv⟩ := hL
  have hb : Q[n0]? = some (.box (.agg [v])) := by rw [← hQe, hLe, hr_at0 hP]; rfl
  have hb1 : ∀ X, (hr Q X)[n0]? = some (.box (.agg [v])) := fun X => by unfold hr; rw [List.getElem?_append_left (by omega)]; exact hb
  have hrow : isRow (hr Q [.box (.d (.agg x.cs))]) (m + 1) v l := by
    rcases hv with ⟨h1, h2, _⟩ | ⟨j, h1, hj⟩
    · exact .inl ⟨h1, h2⟩
    · have hjl := (List.getElem?_eq_some_iff.1 hj).1
      have hl2 : L.length = T.length + 1 := by rw [hLe]; rfl
      refine .inr ⟨n0 + 1 + j, h1, by omega, ?_⟩
      unfold hr
      rw [List.getElem?_append_left (by omega), ← hQe, show n0 + 1 + j = n0 + (j + 1) by omega, hr_at hP, hLe]
      exact hj
  have h59 := hl.1
  have LA := reflast_at hQ1 (by omega) hQ1a hrow (hb1 _) hl
  have MA := refmap_at hQ1 (by omega) hQ1a hrow (hb1 _) hl l.length (Nat.le_refl _)
  rw [List.take_length] at MA
  have AP := refapply_at (mapAt l) x hx
  have hgo := refNext_good hl x
  have had := addL_next l x
  have hw1 : IntKind.u32.wrap (((l.length : Int) + 1) + 1) = (l.length : Int) + 2 := by rw [wu32 (by omega)]; omega
  have d1 : decide ((l.length : Int) + 2 ≤ (l.length : Int) + 1) = false := decide_eq_false (by omega)
  have d2 : decide ((l.length : Int) + 2 > (l.length : Int) + 2) = false := decide_eq_false (by omega)
  have hq1 := hr_at hQ
  have hq0 := hr_at0 hQ
  have hs1 := hr_set hQ
  have hs0 := hr_set0 hQ
  have hln := hr_len hQ
  have htk := hr_take hQ
  have hpush : ∀ Z, Q ++ Z = hr Q Z := fun _ => rfl
  have htk0 : ∀ X, List.take m (hr Q X) = Q := fun X => by unfold hr; exact List.take_left' hQ
  have hall0 := hQa 0
  rw [Nat.add_zero] at hall0
  have hQ1a' : ∀ X, plain X → ∀ k, (hr Q X).all (ltO (m + k)) = true := fun X hX k => by rw [hr_all, hQa, hX]; rfl
  have hall1 : (hr Q [.box (.d (.agg x.cs))]).all (ltO (m + 1)) = true := hQ1a 0
  have em : (m + 1 != m) = true := by simp
  have em0 : (n0 != m + 1) = true := by simp; omega
  have em2 : (m + 2 != n0) = true := by simp; omega
  have e1 : (n0 < m + 1) = True := eq_true (by omega)
  have e2 : (m < m + 1) = True := eq_true (by omega)
  have e3 : (m ≤ m + 1) = True := eq_true (by omega)
  have en0 : (n0 == m) = false := by rw [beq_eq_false_iff_ne]; omega
  rw [evF_code (rfl : C F_paddockref3_History_Add = some a_paddockref3_History_Add) _ _ rfl]
  unfold takeN codeN
  by_cases c : isInc x = true ∧ l.length < 59
  case neg =>
    rw [decide_eq_false c] at hgo
    rw [if_neg c] at had
    rw [had]
    refine ⟨L, ⟨v, T, hLe, hT, hv⟩, Nat.le_refl _, ?_⟩
    rw [hQe]
    simp (config := {decide := true}) only [c_paddockref3_History_Add, LA, MA, AP, hgo, hw1, d1, d2, hpush, hQ, hr_push, hq1, hq0, hs1, hs0, hln, htk, htk0, hall0, hall1, em, em0, em2, hQ1, e1, e2, e3, ite_self, Pk.EVL, keepT, enum, ↓reduceIte, ev, act, appT, appW, callee, toDs, toD, loadA, storeA, subA, subD, updA, Eff.on, resA, resVs, resV, lk, finish, frzR, frzVs, frzV, fznR, fzns, fzn, lts, lt, ltO, List.all, pairsOk, indep, reduceCtorEq, Nat.reduceEqDiff, Nat.reduceAdd, Nat.reduceLeDiff, stb, thaws, List.drop, intOfA, binD, binI, unD, mmL, buildA, mkAgg, allD, bslD, behind, behind0, takeAt, frzAs, frzA, adoptR, adopt, isD, isD0, trim, List.take, binS, sliceA, bnd, zOk, elems, Nat.reduceBNe, inpl, Nat.reduceLT, Nat.reduceBEq, Nat.reduceSub, Nat.reduceMul, Int.reduceLT, Int.reduceLE, Int.reduceEq, Int.reduceToNat, Int.reduceNeg, thaw, nodup, refsV, adopts, sameH_self, Pk.TY_Mp, Pk.TY_Inc]
  rw [decide_eq_true c] at hgo
  rw [if_pos c] at had
  rw [had, hQe]
  have hset0 : ∀ (X : Heap) (b : Ob), (hr Q X).set n0 b = hr (Q.set n0 b) X := fun X b => by unfold hr; rw [List.set_append_left _ _ (by omega)]
  have hlen0 : ∀ (X : Heap) (b : Ob), (hr (Q.set n0 b) X).length = m + X.length := fun X b => by unfold hr; rw [List.length_append, List.length_set, hQ]
  have htk2 : ∀ (Q2 X : Heap), Q2.length = m → List.take m (hr Q2 X) = Q2 := fun Q2 X h => by unfold hr; exact List.take_left' h
  rcases hv with ⟨rfl, hl0, rfl⟩ | ⟨j, rfl, hj⟩
  · have hm1 : m = n0 + 1 := by rw [← hm, hLe]; rfl
    have hQ0 : ∀ b, Q.set n0 b = hr P0 [b] := fun b => by rw [← hQe, hLe, hr_set0 hP]; rfl
    have hlim : (1 ≤ LIM) = True := eq_true (by unfold LIM; omega)
    have hnall : ∀ (X : Heap) a, ((List.take m (hr (Q.set n0 (.box (.agg [.view (m + 3) a 3 0 a]))) X)).all (ltO m)) = false := fun X a => by
      rw [htk2 _ _ (by rw [List.length_set, hQ]), hQ0, hr_all]
      have : ([.box (.agg [.view (m + 3) a 3 0 a])] : Heap).all (ltO m) = false := by simp [ltO, lt, lts]
      rw [this, Bool.and_false]
    refine ⟨[.box (.agg [.view (m + 3) 1 3 0 1]), .box (.d (.agg x.cs)), .box (.d (.agg (refNext (mapAt l) x).1.cs)), .arr [.agg x.cs] true, .arr [.agg x.cs] true], ?_, by rw [hLe]; simp, ?_⟩
    · refine ⟨.view (m + 3) 1 3 0 1, _, rfl, fun _ => rfl, .inr ⟨3, ?_, ?_⟩⟩
      · rw [hl0, hm1]; rfl
      · rw [hl0]; rfl
    have hfin : ∀ b X, hr (Q.set n0 b) X = hr P0 (b :: X) := fun b X => by rw [hQ0]; unfold hr; rw [List.append_assoc]; rfl
    rw [← hfin]
    simp (config := {decide := true}) only [c_paddockref3_History_Add, LA, MA, AP, hgo, hw1, d1, d2, hb1, hset0, hlen0, hnall, hlim, hpush, hQ, hr_push, hq1, hq0, hs1, hs0, hln, htk, htk0, hall0, hall1, em, em0, em2, hQ1, e1, e2, e3, elems, ite_self, Pk.EVL, keepT, enum, ↓reduceIte, ev, act, appT, appW, callee, toDs, toD, loadA, storeA, subA, subD, updA, Eff.on, resA, resVs, resV, lk, finish, frzR, frzVs, frzV, fznR, fzns, fzn, lts, lt, ltO, List.all, pairsOk, indep, reduceCtorEq, Nat.reduceEqDiff, Nat.reduceAdd, Nat.reduceLeDiff, stb, thaws, List.drop, intOfA, binD, binI, unD, mmL, buildA, mkAgg, allD, bslD, behind, behind0, takeAt, frzAs, frzA, adoptR, adopt, isD, isD0, trim, List.take, binS, sliceA, bnd, zOk, elems, Nat.reduceBNe, inpl, Nat.reduceLT, Nat.reduceBEq, Nat.reduceSub, Nat.reduceMul, Int.reduceLT, Int.reduceLE, Int.reduceEq, Int.reduceToNat, Int.reduceNeg, thaw, nodup, refsV, adopts, sameH_self, Pk.TY_Mp, Pk.TY_Inc]
  · have hjl := (List.getElem?_eq_some_iff.1 hj).1
    have hmT : m = n0 + (T.length + 1) := by rw [← hm, hLe]; rfl
    generalize ho : n0 + 1 + j = o at *
    have hom : o < m := by omega
    have hon : o ≠ n0 := by omega
    have hlim : (l.length + 1 ≤ LIM) = True := eq_true (by unfold LIM; omega)
    have hEl : (l.map Inc.d).length = l.length := List.length_map _
    have hato : ∀ X, (hr Q X)[o]? = some (.arr (l.map Inc.d) true) := fun X => by
      unfold hr
      rw [List.getElem?_append_left (by omega), ← hQe, ← ho, show n0 + 1 + j = n0 + (j + 1) by omega, hr_at hP, hLe]
      exact hj
    have hseto : ∀ (X : Heap) (b : Ob), (hr Q X).set o b = hr (Q.set o b) X := fun X b => by unfold hr; rw [List.set_append_left _ _ (by omega)]
    have hb2 : ∀ X c, (hr (Q.set o c) X)[n0]? = some (.box (.agg [.view o l.length 3 0 l.length])) := fun X c => by
      unfold hr
      rw [List.getElem?_append_left (by rw [List.length_set]; omega), List.getElem?_set_ne hon, hb]
    have hset2 : ∀ X c b, (hr (Q.set o c) X).set n0 b = hr ((Q.set o c).set n0 b) X := fun X c b => by unfold hr; rw [List.set_append_left _ _ (by rw [List.length_set]; omega)]
    have hlen2 : ∀ c b X, (hr ((Q.set o c).set n0 b) X).length = m + X.length := fun c b X => by unfold hr; rw [List.length_append, List.length_set, List.length_set, hQ]
    have hlen1 : ∀ c X, (hr (Q.set o c) X).length = m + X.length := fun c X => by unfold hr; rw [List.length_append, List.length_set, hQ]
    have hQ2 : ∀ c b, (Q.set o c).set n0 b = hr P0 (b :: T.set j c) := fun c b => by
      rw [← hQe, hLe, ← ho, show n0 + 1 + j = n0 + (j + 1) by omega, hr_set hP, hr_set0 hP]
      rfl
    have htk3 : ∀ c b X, List.take m (hr ((Q.set o c).set n0 b) X) = (Q.set o c).set n0 b := fun c b X => htk2 _ _ (by rw [List.length_set, List.length_set, hQ])
    have hTs : ∀ es, plain (T.set j (.arr es true)) := fun es k => by
      rw [List.all_eq_true]
      intro y hy
      rcases List.mem_or_eq_of_mem_set hy with h | rfl
      · exact (List.all_eq_true.1 (hT k)) y h
      · rfl
    have hall3 : ∀ es a, ((Q.set o (.arr es true)).set n0 (.box (.agg [.view o a 3 0 a]))).all (ltO m) = true := fun es a => by
      rw [hQ2, hr_all, List.all_cons, hTs, hmT, hPa]
      simp [ltO, lt, lts]
      omega
    refine ⟨.box (.agg [.view o (l.length + 1) 3 0 (l.length + 1)]) :: T.set j (.arr (l.map Inc.d ++ [.agg x.cs]) true), ?_, by rw [hLe]; simp, ?_⟩
    · refine ⟨_, _, rfl, hTs _, .inr ⟨j, ?_, ?_⟩⟩
      · rw [List.length_append, ← ho]; rfl
      · rw [List.getElem?_set_self hjl, List.map_append]; rfl
    rw [← hQ2]
    simp (config := {decide := true}) only [c_paddockref3_History_Add, LA, MA, AP, hgo, hw1, d1, d2, hb1, hato, hseto, hb2, hset2, hlen2, hlen1, htk3, hall3, hEl, hlim, hpush, hQ, hr_push, hq1, hq0, hs1, hs0, hln, htk, htk0, hall0, hall1, em, em0, em2, hQ1, e1, e2, e3, elems, ite_self, Pk.EVL, keepT, enum, ↓reduceIte, ev, act, appT, appW, callee, toDs, toD, loadA, storeA, subA, subD, updA, Eff.on, resA, resVs, resV, lk, finish, frzR, frzVs, frzV, fznR, fzns, fzn, lts, lt, ltO, List.all, pairsOk, indep, reduceCtorEq, Nat.reduceEqDiff, Nat.reduceAdd, Nat.reduceLeDiff, stb, thaws, List.drop, intOfA, binD, binI, unD, mmL, buildA, mkAgg, allD, bslD, behind, behind0, takeAt, frzAs, frzA, adoptR, adopt, isD, isD0, trim, List.take, binS, sliceA, bnd, zOk, elems, Nat.reduceBNe, inpl, Nat.reduceLT, Nat.reduceBEq, Nat.reduceSub, Nat.reduceMul, Int.reduceLT, Int.reduceLE, Int.reduceEq, Int.reduceToNat, Int.reduceNeg, thaw, nodup, refsV, adopts, sameH_self, Pk.TY_Mp, Pk.TY_Inc]
end Go.Proofs.Ytmiionadkdfbdaa

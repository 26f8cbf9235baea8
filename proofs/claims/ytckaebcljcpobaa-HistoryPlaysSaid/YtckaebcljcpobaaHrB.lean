/- The document's histories: Last, Map, Add (the reference's), amid other objects. -/
import Derived.Test.YtckaebcljcpobaaHrA
set_option linter.all false
namespace Go.Proofs.Ytckaebcljcpobaa
open Pv Go Pk
set_option maxRecDepth 10000
set_option maxHeartbeats 4000000
/-- A history's row as it is held: nil, or an array at place o. -/
def isRow (Q : Heap) (m : Nat) (v : AV) (l : List Inc) : Prop := (v = .nilS ∧ l = []) ∨ ∃ o, v = .view o l.length 3 0 l.length ∧ o < m ∧ Q[o]? = some (.arr (l.map Inc.d) true)
theorem goodI_ok {x : Inc} (h : isInc x = true ∧ 0 ≤ x.osd) : x.ok := by
  obtain ⟨a, b, c⟩ := x
  obtain ⟨h, h0⟩ := h
  have hk := isInc_kind h
  have ho := isInc_osd h
  simp only at hk ho h0
  have hn : 0 ≤ c ∧ c ≤ 16 := by
    unfold isInc at h
    split at h
    · simp at h; omega
    · split at h
      · simp at h; exact h.2
      · simp at h; omega
  unfold Inc.ok
  simp only
  omega
section
variable {Q : Heap} {m n0 : Nat} (hQ : Q.length = m) (hn : n0 < m) (hall : ∀ k, Q.all (ltO (m + k)) = true) {v : AV} {l : List Inc} (hv : isRow Q m v l) (hb : Q[n0]? = some (.box (.agg [v]))) (hl : goodI l)
include hQ hn hall hv hb hl
theorem reflast_at : evF C F_paddockref3_History_Last [.ptr n0 0] Q = some (.d (.i .u32 ((l.length : Int) + 1)), Q) := by
  have h59 := hl.1
  have hw : IntKind.u32.wrap (l.length : Int) = (l.length : Int) := wu32 (by omega)
  have hw1 : IntKind.u32.wrap ((l.length : Int) + 1) = (l.length : Int) + 1 := wu32 (by omega)
  have htk : List.take m Q = Q := by rw [← hQ]; exact List.take_length
  have hall0 := hall 0
  rw [Nat.add_zero] at hall0
  rw [evF_code (rfl : C F_paddockref3_History_Last = some a_paddockref3_History_Last) _ _ rfl]
  rcases hv with ⟨rfl, rfl⟩ | ⟨o, rfl, ho, hQo⟩
  · have hw0 : IntKind.u32.wrap 0 = 0 := by decide
    have hw2 : IntKind.u32.wrap (0 + 1) = (((0 : Nat) : Int) + 1) := by decide
    simp (config := {decide := true}) only [c_paddockref3_History_Last, hb, hQ, hw0, hw2, htk, hall0, ite_self, List.length_nil, Pk.EVL, keepT, enum, ↓reduceIte, ev, act, appT, callee, toDs, toD, loadA, storeA, subA, subD, updA, Eff.on, resA, resVs, resV, lk, finish, frzR, frzVs, frzV, fznR, fzns, fzn, lts, lt, ltO, List.all, pairsOk, indep, reduceCtorEq, Nat.reduceEqDiff, Nat.reduceAdd, Nat.reduceLeDiff, stb, thaws, List.drop, intOfA, binD, binI, unD, mmL, buildA, mkAgg, allD, bslD, behind, behind0, takeAt, frzAs, frzA, adoptR, adopt, isD, isD0, trim, List.take, binS, sliceA, bnd, zOk, elems, Nat.reduceBNe, inpl, Nat.reduceLT, Nat.reduceBEq, Nat.reduceSub, Nat.reduceMul, Int.reduceLT, Int.reduceLE, Int.reduceEq, Int.reduceToNat, Int.reduceNeg, thaw, nodup, refsV, adopts]
  · simp (config := {decide := true}) only [c_paddockref3_History_Last, hb, hQ, hw, hw1, htk, hall0, ite_self, Pk.EVL, keepT, enum, ↓reduceIte, ev, act, appT, callee, toDs, toD, loadA, storeA, subA, subD, updA, Eff.on, resA, resVs, resV, lk, finish, frzR, frzVs, frzV, fznR, fzns, fzn, lts, lt, ltO, List.all, pairsOk, indep, reduceCtorEq, Nat.reduceEqDiff, Nat.reduceAdd, Nat.reduceLeDiff, stb, thaws, List.drop, intOfA, binD, binI, unD, mmL, buildA, mkAgg, allD, bslD, behind, behind0, takeAt, frzAs, frzA, adoptR, adopt, isD, isD0, trim, List.take, binS, sliceA, bnd, zOk, elems, Nat.reduceBNe, inpl, Nat.reduceLT, Nat.reduceBEq, Nat.reduceSub, Nat.reduceMul, Int.reduceLT, Int.reduceLE, Int.reduceEq, Int.reduceToNat, Int.reduceNeg, thaw, nodup, refsV, adopts]
theorem refmap_at (k : Nat) (hk : k ≤ l.length) : evF C F_paddockref3_History_Map [.ptr n0 0, .d (.i .u32 ((k : Int) + 1))] Q = some (.d (.agg (mapAt (l.take k)).cs), Q) := by
  have h59 := hl.1
  have hat : ∀ X, (hr Q X)[n0]? = some (.box (.agg [v])) := fun X => by unfold hr; rw [List.getElem?_append_left (by omega)]; exact hb
  have hq1 := hr_at hQ
  have hq0 := hr_at0 hQ
  have hs1 := hr_set hQ
  have hs0 := hr_set0 hQ
  have hln := hr_len hQ
  have htk := hr_take hQ
  have hpush : ∀ Z, Q ++ Z = hr Q Z := fun _ => rfl
  have hwk : IntKind.i64.wrap ((k : Int) + 1) = (k : Int) + 1 := wi64 (by omega)
  have m1 : (m ≤ m + 2) = True := eq_true (by omega)
  have htk0 : ∀ X, List.take m (hr Q X) = Q := fun X => by unfold hr; exact List.take_left' hQ
  have hall0 := hall 0
  rw [Nat.add_zero] at hall0
  rw [evF_code (rfl : C F_paddockref3_History_Map = some a_paddockref3_History_Map) _ _ rfl]
  simp (config := {decide := true}) only [c_paddockref3_History_Map, reffirst_at, hpush, hQ, hr_push, hq1, hq0, hs1, hs0, hln, thaws, ite_self, Pk.EVL, keepT, enum, ↓reduceIte, ev, act, appT, callee, toDs, toD, loadA, storeA, subA, subD, updA, Eff.on, resA, resVs, resV, lk, finish, frzR, frzVs, frzV, fznR, fzns, fzn, lts, lt, ltO, List.all, pairsOk, indep, reduceCtorEq, Nat.reduceEqDiff, Nat.reduceAdd, Nat.reduceLeDiff, stb, thaws, List.drop, intOfA, binD, binI, unD, mmL, buildA, mkAgg, allD, bslD, behind, behind0, takeAt, frzAs, frzA, adoptR, adopt, isD, isD0, trim, List.take, binS, sliceA, bnd, zOk, elems, Nat.reduceBNe, inpl, Nat.reduceLT, Nat.reduceBEq, Nat.reduceSub, Nat.reduceMul, Int.reduceLT, Int.reduceLE, Int.reduceEq, Int.reduceToNat, Int.reduceNeg, thaw, nodup, refsV, adopts, Pk.TY_Mp]
  simp only [Option.bind_assoc]
  have hall2 : ∀ a b : DV, (hr Q [.box (.d a), .box (.d b)]).all (ltO (m + 2)) = true := fun a b => by rw [hr_all, hall 2]; rfl
  refine bind_run (loop_run (fun i T H => lk T 0 = .ptr n0 0 ∧ lk T 1 = .d (.i .u32 ((k : Int) + 1)) ∧ lk T 4 = .ptr m 0 ∧ lk T 5 = .ptr (m + 1) 0 ∧ lk T 6 = .d (.i .i64 (i : Nat)) ∧ H = hr Q [.box (.d (.agg Mp.zero.cs)), .box (.d (.agg (mapAt (l.take i)).cs))])
    (fun e T H => e = .exit 0 ∧ lk T 4 = .ptr m 0 ∧ lk T 5 = .ptr (m + 1) 0 ∧ H = hr Q [.box (.d (.agg Mp.zero.cs)), .box (.d (.agg (mapAt (l.take k)).cs))]) k ?_ ?_ k 0 _ _ (by omega) ⟨rfl, rfl, rfl, rfl, rfl, rfl⟩) ?_
  · rintro i T H hi ⟨h0, h1, h4, h5, h6, rfl⟩
    obtain ⟨x, hx⟩ : ∃ x, l[i]? = some x := ⟨l[i]'(by omega), List.getElem?_eq_getElem _⟩
    have hxd := list_idx Inc.d hx
    have hgood := goodI_take hl (i + 1)
    rw [take_succ' hx] at hgood
    have hxo : x.ok := goodI_ok (hl.2 x (List.mem_of_getElem? hx))
    have hap := refapply_at (mapAt (l.take i)) x hxo
    rw [refNext_eq, apply_good hgood, ← take_succ' hx] at hap
    have hd : decide ((i : Int) + 2 ≤ (k : Int) + 1) = true := by simp; omega
    have hd2 : decide ((i : Int) < ((l.length : Nat) : Int)) = true := by simp; omega
    have hw2 : IntKind.i64.wrap ((i : Int) + 2) = (i : Int) + 2 := wi64 (by omega)
    have hw : IntKind.i64.wrap ((i : Int) + 1) = ((i + 1 : Nat) : Int) := wi64 (by omega)
    have b0 : (0 ≤ (i : Int)) = True := eq_true (Int.natCast_nonneg _)
    have b1 : ((i : Int) < ((l.length : Nat) : Int)) = True := eq_true (by omega)
    have hEl : (l.map Inc.d).length = l.length := List.length_map _
    have n2 : (n0 < m + 2) = True := eq_true (by omega)
    have n3 : (m < m + 2) = True := eq_true (by omega)
    have n4 : (m + 1 < m + 2) = True := eq_true (by omega)
    rcases hv with ⟨rfl, rfl⟩ | ⟨o, rfl, ho, hQo⟩
    · simp at hx
    have hato : ∀ X, (hr Q X)[o]? = some (.arr (l.map Inc.d) true) := fun X => by unfold hr; rw [List.getElem?_append_left (by omega)]; exact hQo
    simp (config := {decide := true}) only [K_paddockref3_History_Map_0, l_paddockref3_History_Map_0, h0, h1, h4, h5, h6, hat, hato, hxd, hap, hd, hd2, hw, hw2, hwk, b0, b1, hEl, n2, n3, n4, hall2, hQ, hr_push, hq1, hq0, hs1, hs0, hln, htk, guardR_und, Nat.zero_add, Int.toNat_natCast, ite_self, Pk.EVL, keepT, enum, ↓reduceIte, ev, act, appT, callee, toDs, toD, loadA, storeA, subA, subD, updA, Eff.on, resA, resVs, resV, lk, finish, frzR, frzVs, frzV, fznR, fzns, fzn, lts, lt, ltO, List.all, pairsOk, indep, reduceCtorEq, Nat.reduceEqDiff, Nat.reduceAdd, Nat.reduceLeDiff, stb, thaws, List.drop, intOfA, binD, binI, unD, mmL, buildA, mkAgg, allD, bslD, behind, behind0, takeAt, frzAs, frzA, adoptR, adopt, isD, isD0, trim, List.take, binS, sliceA, bnd, zOk, elems, Nat.reduceBNe, inpl, Nat.reduceLT, Nat.reduceBEq, Nat.reduceSub, Nat.reduceMul, Int.reduceLT, Int.reduceLE, Int.reduceEq, Int.reduceToNat, Int.reduceNeg, thaw, nodup, refsV, adopts, Pk.TY_Mp, Pk.TY_Inc]
    exact ⟨_, _, _, rfl, .inl ⟨rfl, rfl, rfl, rfl, rfl, rfl, rfl⟩⟩
  · rintro T H ⟨h0, h1, h4, h5, h6, rfl⟩
    have hd : decide ((k : Int) + 2 ≤ (k : Int) + 1) = false := decide_eq_false (by omega)
    have hw2 : IntKind.i64.wrap ((k : Int) + 2) = (k : Int) + 2 := wi64 (by omega)
    have n2 : (n0 < m + 2) = True := eq_true (by omega)
    have n3 : (m < m + 2) = True := eq_true (by omega)
    have n4 : (m + 1 < m + 2) = True := eq_true (by omega)
    simp (config := {decide := true}) only [K_paddockref3_History_Map_0, l_paddockref3_History_Map_0, h0, h1, h4, h5, h6, hd, hw2, hwk, n2, n3, n4, hall2, hQ, hr_push, hq1, hq0, hs1, hs0, hln, htk, guardR_und, ite_self, Pk.EVL, keepT, enum, ↓reduceIte, ev, act, appT, callee, toDs, toD, loadA, storeA, subA, subD, updA, Eff.on, resA, resVs, resV, lk, finish, frzR, frzVs, frzV, fznR, fzns, fzn, lts, lt, ltO, List.all, pairsOk, indep, reduceCtorEq, Nat.reduceEqDiff, Nat.reduceAdd, Nat.reduceLeDiff, stb, thaws, List.drop, intOfA, binD, binI, unD, mmL, buildA, mkAgg, allD, bslD, behind, behind0, takeAt, frzAs, frzA, adoptR, adopt, isD, isD0, trim, List.take, binS, sliceA, bnd, zOk, elems, Nat.reduceBNe, inpl, Nat.reduceLT, Nat.reduceBEq, Nat.reduceSub, Nat.reduceMul, Int.reduceLT, Int.reduceLE, Int.reduceEq, Int.reduceToNat, Int.reduceNeg, thaw, nodup, refsV, adopts, Pk.TY_Mp, Pk.TY_Inc]
    exact ⟨_, _, _, rfl, by simp, rfl, rfl, rfl, rfl⟩
  rintro e T H ⟨rfl, h4, h5, rfl⟩
  simp (config := {decide := true}) only [h4, h5, hQ, hr_push, hq1, hq0, hs1, hs0, hln, htk, htk0, hall0, ite_self, Pk.EVL, keepT, enum, ↓reduceIte, ev, act, appT, callee, toDs, toD, loadA, storeA, subA, subD, updA, Eff.on, resA, resVs, resV, lk, finish, frzR, frzVs, frzV, fznR, fzns, fzn, lts, lt, ltO, List.all, pairsOk, indep, reduceCtorEq, Nat.reduceEqDiff, Nat.reduceAdd, Nat.reduceLeDiff, stb, thaws, List.drop, intOfA, binD, binI, unD, mmL, buildA, mkAgg, allD, bslD, behind, behind0, takeAt, frzAs, frzA, adoptR, adopt, isD, isD0, trim, List.take, binS, sliceA, bnd, zOk, elems, Nat.reduceBNe, inpl, Nat.reduceLT, Nat.reduceBEq, Nat.reduceSub, Nat.reduceMul, Int.reduceLT, Int.reduceLE, Int.reduceEq, Int.reduceToNat, Int.reduceNeg, thaw, nodup, refsV, adopts, Pk.TY_Mp, Pk.TY_Inc]
end
end Go.Proofs.Ytckaebcljcpobaa

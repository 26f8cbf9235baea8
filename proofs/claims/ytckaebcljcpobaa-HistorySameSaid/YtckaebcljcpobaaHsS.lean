/- Two histories, one behind the other. -/
import Derived.Test.YtckaebcljcpobaaHsN
set_option linter.all false
namespace Go.Proofs.Ytckaebcljcpobaa
open Pv Go Pk
set_option maxRecDepth 10000
set_option maxHeartbeats 4000000
/-- A history, another one behind it, and Y. -/
def h2 (p : Nat) (l : List Inc) (q : Grb) (p2 : Nat) (l2 : List Inc) (q2 : Grb) (Y : Heap) : Heap := hobs p (hsOf l) q ++ (hobs p2 (hsOf l2) q2 ++ Y)
theorem h2_push (p : Nat) (l : List Inc) (q : Grb) (p2 : Nat) (l2 : List Inc) (q2 : Grb) (Y Z : Heap) : h2 p l q p2 l2 q2 Y ++ Z = h2 p l q p2 l2 q2 (Y ++ Z) := by simp [h2]
theorem plain_mem {X : Heap} (h : plain X) (n : Nat) : X.all (ltO n) = true := h n
section
variable {p p2 n : Nat} (hp : p = 0) (hp2 : p2 = 12) (hn : n = 24)
include hn in
theorem h2_len (l : List Inc) (q : Grb) (l2 : List Inc) (q2 : Grb) (Y : Heap) : (h2 p l q p2 l2 q2 Y).length = n + Y.length := by
  unfold h2
  rw [List.length_append, List.length_append, hobs_len, hobs_len]
  omega
include hn in
theorem h2_at (l : List Inc) (q : Grb) (l2 : List Inc) (q2 : Grb) (Y : Heap) (j : Nat) : (h2 p l q p2 l2 q2 Y)[n + j]? = Y[j]? := by
  unfold h2
  rw [List.getElem?_append_right (by rw [hobs_len]; omega), List.getElem?_append_right (by rw [hobs_len, hobs_len]; omega), hobs_len, hobs_len]
  congr 1
  omega
include hn in
theorem h2_at0 (l : List Inc) (q : Grb) (l2 : List Inc) (q2 : Grb) (Y : Heap) : (h2 p l q p2 l2 q2 Y)[n]? = Y[0]? := h2_at hn l q l2 q2 Y 0
include hn in
theorem h2_set (l : List Inc) (q : Grb) (l2 : List Inc) (q2 : Grb) (Y : Heap) (j : Nat) (y : Ob) : (h2 p l q p2 l2 q2 Y).set (n + j) y = h2 p l q p2 l2 q2 (Y.set j y) := by
  unfold h2
  rw [List.set_append_right _ _ (by rw [hobs_len]; omega), List.set_append_right _ _ (by rw [hobs_len, hobs_len]; omega), hobs_len, hobs_len]
  congr 3
  omega
include hn in
theorem h2_set0 (l : List Inc) (q : Grb) (l2 : List Inc) (q2 : Grb) (Y : Heap) (y : Ob) : (h2 p l q p2 l2 q2 Y).set n y = h2 p l q p2 l2 q2 (Y.set 0 y) := h2_set hn l q l2 q2 Y 0 y
include hn in
theorem h2_take (l : List Inc) (q : Grb) (l2 : List Inc) (q2 : Grb) (Y : Heap) (j : Nat) : List.take (n + j) (h2 p l q p2 l2 q2 Y) = h2 p l q p2 l2 q2 (Y.take j) := by
  unfold h2
  rw [List.take_append, List.take_of_length_le (by rw [hobs_len]; omega), List.take_append, List.take_of_length_le (by rw [hobs_len, hobs_len]; omega), hobs_len, hobs_len]
  congr 3
  omega
include hn in
theorem h2_take0 (l : List Inc) (q : Grb) (l2 : List Inc) (q2 : Grb) (Y : Heap) : List.take n (h2 p l q p2 l2 q2 Y) = h2 p l q p2 l2 q2 [] := by
  have := h2_take hn (p := p) (p2 := p2) l q l2 q2 Y 0
  simpa using this
theorem hobs_lt (s : Hst) {q : Grb} (hq : q.pl) {p m : Nat} (h : p + 12 ≤ m) : (hobs p s q).all (ltO m) = true := by
  have := hobs_ltO (P := List.replicate p .hole) (p := p) (n := p + 12) (by simp) rfl s hq (m - (p + 12))
  rwa [show p + 12 + (m - (p + 12)) = m by omega] at this
include hp hp2 hn in
theorem h2_all (l : List Inc) {q : Grb} (hq : q.pl) (l2 : List Inc) {q2 : Grb} (hq2 : q2.pl) {Y : Heap} (hY : plain Y) (k : Nat) : (h2 p l q p2 l2 q2 Y).all (ltO (n + k)) = true := by
  unfold h2
  rw [List.all_append, List.all_append, hobs_lt _ hq (by omega), hobs_lt _ hq2 (by omega), hY]
  rfl
include hp hp2 hn in
theorem h2_all0 (l : List Inc) {q : Grb} (hq : q.pl) (l2 : List Inc) {q2 : Grb} (hq2 : q2.pl) {Y : Heap} (hY : plain Y) : (h2 p l q p2 l2 q2 Y).all (ltO n) = true := h2_all hp hp2 hn l hq l2 hq2 hY 0
variable {l : List Inc} {q : Grb} (hq : q.pl) {l2 : List Inc} {q2 : Grb} (hq2 : q2.pl) {X : Heap} (hX : plain X)
include hp hp2 hq hq2 hX
theorem h2a_last : evF C F_history_History_Last [.ptr (p + 2) 0] (h2 p l q p2 l2 q2 X) = some (.d (.i .u32 ((l.length : Int) + 1)), h2 p l q p2 l2 q2 X) := by
  have := last_at (P := []) hp.symm (S := hobs p2 (hsOf l2) q2 ++ X) rfl (by rfl) (by rw [List.all_append, hobs_lt _ hq2 (by rw [List.length_append, hobs_len]; omega), hX]; rfl) (hq _) (hsOf l)
  rwa [hsOf_last] at this
theorem h2b_last : evF C F_history_History_Last [.ptr (p2 + 2) 0] (h2 p l q p2 l2 q2 X) = some (.d (.i .u32 ((l2.length : Int) + 1)), h2 p l q p2 l2 q2 X) := by
  have := last_at (P := hobs p (hsOf l) q) (p := p2) (by rw [hobs_len]; omega) (S := X) rfl (hobs_lt _ hq (by omega)) (hX _) (hq2 _) (hsOf l2)
  rwa [hsOf_last] at this
theorem h2a_inc (e : Int) : evF C F_history_History_Inc [.ptr (p + 2) 0, .d (.i .u32 e)] (h2 p l q p2 l2 q2 X) = some (.tup [.d (.agg (incAt l e).cs), .d (.b (decide (2 ≤ e ∧ e ≤ (l.length : Int) + 1)))], h2 p l q p2 l2 q2 X) := by
  have key := fun x b hx => inc_at (P := []) hp.symm (S := hobs p2 (hsOf l2) q2 ++ X) rfl (by rfl) (by rw [List.all_append, hobs_lt _ hq2 (by rw [List.length_append, hobs_len]; omega), hX]; rfl) (hq _) (hsOf l) e x b hx
  by_cases h : 2 ≤ e ∧ e ≤ (l.length : Int) + 1
  · obtain ⟨x, hx⟩ : ∃ x, l[(e - 2).toNat]? = some x := ⟨l[(e - 2).toNat]'(by omega), List.getElem?_eq_getElem _⟩
    have hi : incAt l e = x := by unfold incAt; rw [if_pos h, hx]; rfl
    rw [hi, decide_eq_true h]
    exact key x true (by rw [hsOf_xs, if_pos h, hx]; rfl)
  · have hi : incAt l e = ⟨0, 0, 0⟩ := by unfold incAt; rw [if_neg h]
    rw [hi, decide_eq_false h]
    exact key ⟨0, 0, 0⟩ false (by rw [hsOf_xs, if_neg h]; rfl)
theorem h2a_map : evF C F_history_History_Map [.ptr (p + 2) 0, .d (.i .u32 ((l.length : Int) + 1))] (h2 p l q p2 l2 q2 X) = some (.tup [.d (.agg (mapAt l).cs), .d (.b true)], h2 p l q p2 l2 q2 X) :=
  map_at (P := []) hp.symm (S := hobs p2 (hsOf l2) q2 ++ X) rfl (by rfl) (by rw [List.all_append, hobs_lt _ hq2 (by rw [List.length_append, hobs_len]; omega), hX]; rfl) (hq _) (hsOf l) _ (mapAt l) true
    (by rw [hsOf_ms, if_pos (by omega), List.take_of_length_le (by omega)]; rfl)
theorem h2b_map : evF C F_history_History_Map [.ptr (p2 + 2) 0, .d (.i .u32 ((l2.length : Int) + 1))] (h2 p l q p2 l2 q2 X) = some (.tup [.d (.agg (mapAt l2).cs), .d (.b true)], h2 p l q p2 l2 q2 X) :=
  map_at (P := hobs p (hsOf l) q) (p := p2) (by rw [hobs_len]; omega) (S := X) rfl (hobs_lt _ hq (by omega)) (hX _) (hq2 _) (hsOf l2) _ (mapAt l2) true
    (by rw [hsOf_ms, if_pos (by omega), List.take_of_length_le (by omega)]; rfl)
theorem h2a_add (hl : goodI l) (e : Int) (he : 0 ≤ e ∧ e < 4294967296) (x : Inc) (hx : x.ok) : evF C F_history_History_Add [.ptr (p + 2) 0, .d (.i .u32 e), .d (.agg x.cs)] (h2 p l q p2 l2 q2 X) = some (.d (.i .i64 (addL l e x).2), h2 p (addL l e x).1 q p2 l2 q2 X) :=
  add_at (P := []) hp.symm (S := hobs p2 (hsOf l2) q2 ++ X) rfl (by rfl) (by rw [List.all_append, hobs_lt _ hq2 (by rw [List.length_append, hobs_len]; omega), hX]; rfl) (hq _) l hl e he x hx
theorem h2b_add (hl : goodI l2) (e : Int) (he : 0 ≤ e ∧ e < 4294967296) (x : Inc) (hx : x.ok) : evF C F_history_History_Add [.ptr (p2 + 2) 0, .d (.i .u32 e), .d (.agg x.cs)] (h2 p l q p2 l2 q2 X) = some (.d (.i .i64 (addL l2 e x).2), h2 p l q p2 (addL l2 e x).1 q2 X) :=
  add_at (P := hobs p (hsOf l) q) (p := p2) (by rw [hobs_len]; omega) (S := X) rfl (hobs_lt _ hq (by omega)) (hX _) (hq2 _) l2 hl e he x hx
theorem h2a_intervals (hl : goodI l) (g : Int) (h0 : 0 ≤ g) : evF C F_history_History_Intervals [.ptr (p + 2) 0, .d (.i .u8 g)] (h2 p l q p2 l2 q2 X) = some (.d (.sl ((ivL l g).map Itv.d)), h2 p l (q.frz g) p2 l2 q2 X) :=
  hintervals_at (P := []) hp.symm (S := hobs p2 (hsOf l2) q2 ++ X) rfl (by rfl) (by rw [List.all_append, hobs_lt _ hq2 (by rw [List.length_append, hobs_len]; omega), hX]; rfl) (hq _) (hsOf l) (hsOf_ok hl) g h0
theorem h2b_intervals (hl : goodI l2) (g : Int) (h0 : 0 ≤ g) : evF C F_history_History_Intervals [.ptr (p2 + 2) 0, .d (.i .u8 g)] (h2 p l q p2 l2 q2 X) = some (.d (.sl ((ivL l2 g).map Itv.d)), h2 p l q p2 l2 (q2.frz g) X) :=
  hintervals_at (P := hobs p (hsOf l) q) (p := p2) (by rw [hobs_len]; omega) (S := X) rfl (hobs_lt _ hq (by omega)) (hX _) (hq2 _) (hsOf l2) (hsOf_ok hl) g h0
end
theorem h2_new {p p2 : Nat} (hp : p = 0) (hp2 : p2 = 12) : evF C F_history_New [] (hh [] p [] grb0 []) = some (.ptr (p2 + 2) 0, h2 p [] grb0 p2 [] grb0 []) := by
  have hlen : (hh [] p [] grb0 []).length = p2 := by unfold hh hq; rw [List.length_append, List.length_append, hobs_len, hp2]; rfl
  have := h_new hlen
  rw [this]
  unfold hh h2 hq
  simp only [List.nil_append, List.append_nil]
/-- Rows of intervals, alike. -/
theorem intervals5_self (V : List Itv) (hV : V.length ≤ 1000) (ha : ∀ x ∈ V, x.acting.length ≤ 1000) : evF C F_paddocklaw5_intervals [.d (.sl (V.map Itv.d)), .d (.sl (V.map Itv.d))] [] = some (.d (.b true), []) := by
  rw [evF_code (rfl : C F_paddocklaw5_intervals = some a_paddocklaw5_intervals) _ _ rfl]
  have hVm : (V.map Itv.d).length = V.length := List.length_map _
  have hne : (((V.length : Nat) : Int) != ((V.length : Nat) : Int)) = false := by simp
  simp (config := {decide := true}) only [c_paddocklaw5_intervals, hVm, hne, thaws, Pk.EVL, keepT, enum, ↓reduceIte, ev, act, appT, callee, toDs, toD, loadA, storeA, subA, subD, updA, Eff.on, resA, resVs, resV, lk, finish, frzR, frzVs, frzV, fznR, fzns, fzn, lts, lt, ltO, List.all, pairsOk, indep, reduceCtorEq, Nat.reduceEqDiff, Nat.reduceAdd, Nat.reduceLeDiff, stb, thaws, List.drop, intOfA, binD, binI, unD, mmL, buildA, mkAgg, allD, behind, behind0, takeAt, frzAs, frzA, adoptR, adopt, isD, isD0, trim, List.take, binS, sliceA, bnd, zOk, elems, Nat.reduceBNe, inpl, Nat.reduceLT, Nat.reduceBEq, Nat.reduceSub, Nat.reduceMul, Int.reduceLT, Int.reduceLE, Int.reduceEq, Int.reduceToNat, Int.reduceNeg, thaw, nodup, refsV, adopts]
  simp only [Option.bind_assoc]
  refine bind_run (loop_run (fun i T H => lk T 0 = .d (.sl (V.map Itv.d)) ∧ lk T 1 = .d (.sl (V.map Itv.d)) ∧ lk T 5 = .d (.i .i64 (i : Nat)) ∧ H = []) (fun e T H => e = .exit 0 ∧ H = []) V.length ?_ ?_ V.length 0 _ _ (by omega) ⟨rfl, rfl, rfl, rfl⟩) ?_
  · rintro i T H hi ⟨h0, h1, h5, rfl⟩
    obtain ⟨x, hx⟩ : ∃ x, V[i]? = some x := ⟨V[i]'hi, List.getElem?_eq_getElem _⟩
    have hxd := list_idx Itv.d hx
    have hd : decide ((i : Int) < ((V.length : Nat) : Int)) = true := by simp; omega
    have hw : IntKind.i64.wrap ((i : Int) + 1) = ((i + 1 : Nat) : Int) := wi64 (by omega)
    have b0 : (0 ≤ (i : Int)) = True := by simp
    have hs : (x.since != x.since) = false := by simp
    have IS := ints5_at x.acting x.acting (ha x (List.mem_of_getElem? hx))
    rw [decide_eq_true rfl] at IS
    simp (config := {decide := true}) only [K_paddocklaw5_intervals_0, l_paddocklaw5_intervals_0, h0, h1, h5, hVm, hd, hw, b0, hxd, hs, IS, eptr_itv, Pk.EVL, keepT, enum, ↓reduceIte, ev, act, appT, callee, toDs, toD, loadA, storeA, subA, subD, updA, Eff.on, resA, resVs, resV, lk, finish, frzR, frzVs, frzV, fznR, fzns, fzn, lts, lt, ltO, List.all, pairsOk, indep, reduceCtorEq, Nat.reduceEqDiff, Nat.reduceAdd, Nat.reduceLeDiff, stb, thaws, List.drop, intOfA, binD, binI, unD, mmL, buildA, mkAgg, allD, behind, behind0, takeAt, frzAs, frzA, adoptR, adopt, isD, isD0, trim, List.take, binS, sliceA, bnd, zOk, elems, Nat.reduceBNe, inpl, Nat.reduceLT, Nat.reduceBEq, Nat.reduceSub, Nat.reduceMul, Int.reduceLT, Int.reduceLE, Int.reduceEq, Int.reduceToNat, Int.reduceNeg, thaw, nodup, refsV, adopts, Pk.TY_Itv]
    exact ⟨_, _, _, rfl, .inl ⟨rfl, rfl, rfl, rfl, rfl⟩⟩
  · rintro T H ⟨h0, h1, h5, rfl⟩
    have hd : decide (((V.length : Nat) : Int) < ((V.length : Nat) : Int)) = false := by simp
    simp (config := {decide := true}) only [K_paddocklaw5_intervals_0, l_paddocklaw5_intervals_0, h0, h1, h5, hVm, hd, Pk.EVL, keepT, enum, ↓reduceIte, ev, act, appT, callee, toDs, toD, loadA, storeA, subA, subD, updA, Eff.on, resA, resVs, resV, lk, finish, frzR, frzVs, frzV, fznR, fzns, fzn, lts, lt, ltO, List.all, pairsOk, indep, reduceCtorEq, Nat.reduceEqDiff, Nat.reduceAdd, Nat.reduceLeDiff, stb, thaws, List.drop, intOfA, binD, binI, unD, mmL, buildA, mkAgg, allD, behind, behind0, takeAt, frzAs, frzA, adoptR, adopt, isD, isD0, trim, List.take, binS, sliceA, bnd, zOk, elems, Nat.reduceBNe, inpl, Nat.reduceLT, Nat.reduceBEq, Nat.reduceSub, Nat.reduceMul, Int.reduceLT, Int.reduceLE, Int.reduceEq, Int.reduceToNat, Int.reduceNeg, thaw, nodup, refsV, adopts]
    exact ⟨_, _, _, rfl, by simp, rfl, rfl⟩
  rintro e T H ⟨rfl, rfl⟩
  simp (config := {decide := true}) only [Pk.EVL, keepT, enum, ↓reduceIte, ev, act, appT, callee, toDs, toD, loadA, storeA, subA, subD, updA, Eff.on, resA, resVs, resV, lk, finish, frzR, frzVs, frzV, fznR, fzns, fzn, lts, lt, ltO, List.all, pairsOk, indep, reduceCtorEq, Nat.reduceEqDiff, Nat.reduceAdd, Nat.reduceLeDiff, stb, thaws, List.drop, intOfA, binD, binI, unD, mmL, buildA, mkAgg, allD, behind, behind0, takeAt, frzAs, frzA, adoptR, adopt, isD, isD0, trim, List.take, binS, sliceA, bnd, zOk, elems, Nat.reduceBNe, inpl, Nat.reduceLT, Nat.reduceBEq, Nat.reduceSub, Nat.reduceMul, Int.reduceLT, Int.reduceLE, Int.reduceEq, Int.reduceToNat, Int.reduceNeg, thaw, nodup, refsV, adopts]
end Go.Proofs.Ytckaebcljcpobaa

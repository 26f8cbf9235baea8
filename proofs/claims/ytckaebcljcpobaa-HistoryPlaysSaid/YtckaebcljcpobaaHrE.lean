/- Functions of a history, with objects behind it that may hold references. / A history and the document's one behind it: what both tell. -/
import Derived.Test.YtckaebcljcpobaaPlaceFst
import Derived.Test.YtckaebcljcpobaaHrD
import Derived.Test.YtckaebcljcpobaaHsM
set_option linter.all false
namespace Go.Proofs.Ytckaebcljcpobaa
open Pv Go Pk
set_option maxRecDepth 10000
set_option maxHeartbeats 4000000
/-- A history behind P, S behind it, Y behind that. -/
def hz (P S : Heap) (p : Nat) (l : List Inc) (q : Grb) (Y : Heap) : Heap := hq P (hobs p (hsOf l) q) (S ++ Y)
theorem hz_push (P S : Heap) (p : Nat) (l : List Inc) (q : Grb) (Y Z : Heap) : hz P S p l q Y ++ Z = hz P S p l q (Y ++ Z) := by simp [hz, hq]
section
variable {P S : Heap} {p n : Nat} (hP : P.length = p) (hn : p + 12 + S.length = n)
include hP hn in
theorem hz_len (l : List Inc) (q : Grb) (Y : Heap) : (hz P S p l q Y).length = n + Y.length := by
  unfold hz hq
  rw [List.length_append, List.length_append, hobs_len, List.length_append]
  omega
include hP hn in
theorem hz_at (l : List Inc) (q : Grb) (Y : Heap) (j : Nat) : (hz P S p l q Y)[n + j]? = Y[j]? := by
  unfold hz
  rw [show n + j = p + (12 + (S.length + j)) by omega, hq_at hP, List.getElem?_append_right (by rw [hobs_len]; omega), hobs_len, List.getElem?_append_right (by omega)]
  congr 1
  omega
include hP hn in
theorem hz_at0 (l : List Inc) (q : Grb) (Y : Heap) : (hz P S p l q Y)[n]? = Y[0]? := hz_at hP hn l q Y 0
include hP hn in
theorem hz_set (l : List Inc) (q : Grb) (Y : Heap) (j : Nat) (y : Ob) : (hz P S p l q Y).set (n + j) y = hz P S p l q (Y.set j y) := by
  unfold hz hq
  rw [List.set_append_right _ _ (by omega), List.set_append_right _ _ (by rw [hobs_len]; omega), hobs_len, List.set_append_right _ _ (by omega)]
  congr 4
  omega
include hP hn in
theorem hz_set0 (l : List Inc) (q : Grb) (Y : Heap) (y : Ob) : (hz P S p l q Y).set n y = hz P S p l q (Y.set 0 y) := hz_set hP hn l q Y 0 y
include hP hn in
theorem hz_take (l : List Inc) (q : Grb) (Y : Heap) (j : Nat) : List.take (n + j) (hz P S p l q Y) = hz P S p l q (Y.take j) := by
  unfold hz hq
  rw [List.take_append, List.take_of_length_le (by omega), List.take_append, List.take_of_length_le (by rw [hobs_len]; omega), hobs_len, List.take_append, List.take_of_length_le (by omega)]
  congr 4
  omega
include hP hn in
theorem hz_take0 (l : List Inc) (q : Grb) (Y : Heap) : List.take n (hz P S p l q Y) = hz P S p l q [] := by
  have := hz_take hP hn l q Y 0
  simpa using this
include hP hn in
theorem hobs_ltZ (s : Hst) {q : Grb} (hq : q.pl) (k : Nat) : (hobs p s q).all (ltO (n + k)) = true := by
  obtain ⟨k0, k1, k2, k3, k4⟩ := hq (n + k)
  unfold hobs hbox
  simp only [List.all_cons, List.all_nil, k0, k1, k2, k3, k4, Bool.true_and, Bool.and_true]
  simp [ltO, lt, lts]
  omega
variable (hPp : plain P) (hS : ∀ k, S.all (ltO (n + k)) = true)
include hP hn hPp hS in
theorem hz_all (l : List Inc) {q : Grb} (hq : q.pl) {Y : Heap} (hY : plain Y) (k : Nat) : (hz P S p l q Y).all (ltO (n + k)) = true := by
  unfold hz Go.Proofs.Ytckaebcljcpobaa.hq
  rw [List.all_append, List.all_append, hPp, hobs_ltZ hP hn _ hq, List.all_append, hS, hY]
  rfl
include hP hn hPp hS in
theorem hz_all0 (l : List Inc) {q : Grb} (hq : q.pl) {Y : Heap} (hY : plain Y) : (hz P S p l q Y).all (ltO n) = true := hz_all hP hn hPp hS l hq hY 0
include hn in
theorem z_n (X : Heap) : p + 12 + (S ++ X).length = n + X.length := by rw [List.length_append]; omega
include hS in
theorem z_S {X : Heap} (hX : plain X) : (S ++ X).all (ltO (n + X.length)) = true := by rw [List.all_append, hS, hX]; rfl
include hP hn hPp hS in
theorem z_last {l : List Inc} {q : Grb} (hq : q.pl) {X : Heap} (hX : plain X) : evF C F_history_History_Last [.ptr (p + 2) 0] (hz P S p l q X) = some (.d (.i .u32 ((l.length : Int) + 1)), hz P S p l q X) := by
  have := hlast_at hP (S := S ++ X) (z_n hn X) (hPp _) (z_S hS hX) (hq _) (hsOf l)
  rwa [hsOf_last] at this
include hP hn hPp hS in
theorem z_add {l : List Inc} (hl : goodI l) {q : Grb} (hq : q.pl) {X : Heap} (hX : plain X) (e : Int) (he : 0 ≤ e ∧ e < 4294967296) (x : Inc) (hx : x.ok) : evF C F_history_History_Add [.ptr (p + 2) 0, .d (.i .u32 e), .d (.agg x.cs)] (hz P S p l q X) =
    some (.d (.i .i64 (addL l e x).2), hz P S p (addL l e x).1 q X) := hadd_at hP (S := S ++ X) (z_n hn X) (hPp _) (z_S hS hX) (hq _) l hl e he x hx
include hP hn hPp hS in
theorem z_since {l : List Inc} (hl : goodI l) {q : Grb} (hq : q.pl) {X : Heap} (hX : plain X) (g : Int) (h0 : 0 ≤ g) : evF C F_history_History_Since [.ptr (p + 2) 0, .d (.i .u8 g)] (hz P S p l q X) = some (.d (.i .u32 (lastI (ivL l g)).since), hz P S p l q X) :=
  since_at hP (S := S ++ X) (z_n hn X) (hPp _) (z_S hS hX) (hq _) (hsOf l) (hsOf_ok hl) g h0
include hP hn hPp hS in
theorem z_acting {l : List Inc} (hl : goodI l) {q : Grb} (hq : q.pl) {X : Heap} (hX : plain X) (g : Int) (h0 : 0 ≤ g) : evF C F_history_History_Acting [.ptr (p + 2) 0, .d (.i .u8 g)] (hz P S p l q X) = some (.d (.sl ((lastI (ivL l g)).acting.map fun x => .i .i64 x)), hz P S p l q X) :=
  hacting_at hP (S := S ++ X) (z_n hn X) (hPp _) (z_S hS hX) (hq _) (hsOf l) (hsOf_ok hl) g h0 (by have := lastI_len hl g; exact Nat.le_trans this (by omega))
end
end Go.Proofs.Ytckaebcljcpobaa

namespace Go.Proofs.Ytckaebcljcpobaa
open Pv Go Pk
set_option maxRecDepth 10000
set_option maxHeartbeats 4000000
theorem refadd_no {Q : Heap} {m n0 : Nat} (hQ : Q.length = m) (hn : n0 < m) (hall : ∀ k, Q.all (ltO (m + k)) = true) {v : AV} {l : List Inc} (hv : isRow Q m v l) (hb : Q[n0]? = some (.box (.agg [v]))) (hl : goodI l) (e : Int) (he : 0 ≤ e ∧ e < 4294967296) (hne : e ≠ (l.length : Int) + 2) (x : Inc) :
    evF C F_paddockref3_History_Add [.ptr n0 0, .d (.i .u32 e), .d (.agg x.cs)] Q = some (.d (.i .i64 (addL l e x).2), Q) := by
  have hat : ∀ X, (hr Q X)[n0]? = some (.box (.agg [v])) := fun X => by unfold hr; rw [List.getElem?_append_left (by omega)]; exact hb
  have hrow : isRow (hr Q [.box (.d (.agg x.cs))]) (m + 1) v l := by
    rcases hv with h | ⟨o, h1, h2, h3⟩
    · exact .inl h
    · exact .inr ⟨o, h1, by omega, by unfold hr; rw [List.getElem?_append_left (by omega)]; exact h3⟩
  have hln := hr_len hQ
  have LA := reflast_at (Q := hr Q [.box (.d (.agg x.cs))]) (m := m + 1) (by rw [hln]; rfl) (by omega) (fun k => by rw [hr_all, Nat.add_assoc, hall]; rfl) hrow (hat _) hl
  have hq1 := hr_at hQ
  have hq0 := hr_at0 hQ
  have hpush : ∀ Z, Q ++ Z = hr Q Z := fun _ => rfl
  have htk0 : ∀ X, List.take m (hr Q X) = Q := fun X => by unfold hr; exact List.take_left' hQ
  have hall0 := hall 0
  rw [Nat.add_zero] at hall0
  have hl59 := hl.1
  have hw1 : IntKind.u32.wrap (((l.length : Int) + 1) + 1) = (l.length : Int) + 2 := by rw [wu32 (by omega)]; omega
  rw [evF_code (rfl : C F_paddockref3_History_Add = some a_paddockref3_History_Add) _ _ rfl]
  unfold addL
  by_cases c1 : e ≤ (l.length : Int) + 1
  · have hc1 := decide_eq_true c1
    rw [if_pos c1]
    simp (config := {decide := true}) only [c_paddockref3_History_Add, LA, hc1, hpush, hQ, hr_push, hq1, hq0, hln, htk0, hall0, sameH_self, ite_self, Pk.EVL, keepT, enum, ↓reduceIte, ev, act, appT, callee, toDs, toD, loadA, storeA, subA, subD, updA, Eff.on, resA, resVs, resV, lk, finish, frzR, frzVs, frzV, fznR, fzns, fzn, lts, lt, ltO, List.all, pairsOk, indep, reduceCtorEq, Nat.reduceEqDiff, Nat.reduceAdd, Nat.reduceLeDiff, stb, thaws, List.drop, intOfA, binD, binI, unD, mmL, buildA, mkAgg, allD, bslD, behind, behind0, takeAt, frzAs, frzA, adoptR, adopt, isD, isD0, trim, List.take, binS, sliceA, bnd, zOk, elems, Nat.reduceBNe, inpl, Nat.reduceLT, Nat.reduceBEq, Nat.reduceSub, Nat.reduceMul, Int.reduceLT, Int.reduceLE, Int.reduceEq, Int.reduceToNat, Int.reduceNeg, thaw, nodup, refsV, adopts, Pk.TY_Inc]
  · have hc1 := decide_eq_false c1
    have hc2 : decide (e > (l.length : Int) + 2) = true := decide_eq_true (by omega)
    rw [if_neg c1, if_pos (by omega)]
    simp (config := {decide := true}) only [c_paddockref3_History_Add, LA, hc1, hc2, hw1, hpush, hQ, hr_push, hq1, hq0, hln, htk0, hall0, sameH_self, ite_self, Pk.EVL, keepT, enum, ↓reduceIte, ev, act, appT, callee, toDs, toD, loadA, storeA, subA, subD, updA, Eff.on, resA, resVs, resV, lk, finish, frzR, frzVs, frzV, fznR, fzns, fzn, lts, lt, ltO, List.all, pairsOk, indep, reduceCtorEq, Nat.reduceEqDiff, Nat.reduceAdd, Nat.reduceLeDiff, stb, thaws, List.drop, intOfA, binD, binI, unD, mmL, buildA, mkAgg, allD, bslD, behind, behind0, takeAt, frzAs, frzA, adoptR, adopt, isD, isD0, trim, List.take, binS, sliceA, bnd, zOk, elems, Nat.reduceBNe, inpl, Nat.reduceLT, Nat.reduceBEq, Nat.reduceSub, Nat.reduceMul, Int.reduceLT, Int.reduceLE, Int.reduceEq, Int.reduceToNat, Int.reduceNeg, thaw, nodup, refsV, adopts, Pk.TY_Inc]
section
variable {P S : Heap} {p n n0 : Nat} (hP : P.length = p) (hn : p + 12 + S.length = n) (hPp : plain P) (hS : ∀ k, S.all (ltO (n + k)) = true)
include hP hn hPp hS in
theorem z_map {l : List Inc} {q : Grb} (hq : q.pl) {X : Heap} (hX : plain X) (e : Int) : evF C F_history_History_Map [.ptr (p + 2) 0, .d (.i .u32 e)] (hz P S p l q X) =
    some (.tup [.d (.agg (if decide (1 ≤ e ∧ e ≤ (l.length : Int) + 1) then (mapAt (l.take (e - 1).toNat)).cs else Mp.zero.cs)), .d (.b (decide (1 ≤ e ∧ e ≤ (l.length : Int) + 1)))], hz P S p l q X) := by
  refine hmap_at hP (S := S ++ X) (z_n hn X) (hPp _) (z_S hS hX) (hq _) (hsOf l) e _ _ ?_
  rw [hsOf_ms]
  by_cases h : 1 ≤ e ∧ e ≤ (l.length : Int) + 1
  · rw [if_pos h, decide_eq_true h]; rfl
  · rw [if_neg h, decide_eq_false h]; rfl
include hP hn hPp hS in
theorem z_inc {l : List Inc} {q : Grb} (hq : q.pl) {X : Heap} (hX : plain X) (e : Int) : evF C F_history_History_Inc [.ptr (p + 2) 0, .d (.i .u32 e)] (hz P S p l q X) =
    some (.tup [.d (.agg (incAt l e).cs), .d (.b (decide (2 ≤ e ∧ e ≤ (l.length : Int) + 1)))], hz P S p l q X) := by
  by_cases h : 2 ≤ e ∧ e ≤ (l.length : Int) + 1
  · obtain ⟨x, hx⟩ : ∃ x, l[(e - 2).toNat]? = some x := ⟨l[(e - 2).toNat]'(by omega), List.getElem?_eq_getElem _⟩
    have hi : incAt l e = x := by unfold incAt; rw [if_pos h, hx]; rfl
    have := hinc_at hP (S := S ++ X) (z_n hn X) (hPp _) (z_S hS hX) (hq _) (hsOf l) e x true (by rw [hsOf_xs, if_pos h, hx]; rfl)
    rw [hi, decide_eq_true h]
    exact this
  · have hi : incAt l e = ⟨0, 0, 0⟩ := by unfold incAt; rw [if_neg h]
    have := hinc_at hP (S := S ++ X) (z_n hn X) (hPp _) (z_S hS hX) (hq _) (hsOf l) e ⟨0, 0, 0⟩ false (by rw [hsOf_xs, if_neg h]; rfl)
    rw [hi, decide_eq_false h]
    exact this
include hP hn hPp hS in
theorem z_ivs {l : List Inc} (hl : goodI l) {q : Grb} (hq : q.pl) {X : Heap} (hX : plain X) (g : Int) (h0 : 0 ≤ g) : evF C F_history_History_Intervals [.ptr (p + 2) 0, .d (.i .u8 g)] (hz P S p l q X) = some (.d (.sl ((ivL l g).map Itv.d)), hz P S p l (q.frz g) X) :=
  hintervals_at hP (S := S ++ X) (z_n hn X) (hPp _) (z_S hS hX) (hq _) (hsOf l) (hsOf_ok hl) g h0
variable (hn0 : p + 12 = n0) {R W : Heap} {G : List Inc} (hSe : S = R ++ W) (hR : rOk n0 R G) (hG : goodI G)
include hP hn hPp hS hn0 hSe hR in
theorem zr_row (G1 : List Inc) {q : Grb} (hq : q.pl) {Y : Heap} (hY : plain Y) : (hz P S p G1 q Y).length = n + Y.length ∧ n0 < n + Y.length ∧ (∀ k, (hz P S p G1 q Y).all (ltO (n + Y.length + k)) = true) ∧
    ∃ v, isRow (hz P S p G1 q Y) (n + Y.length) v G ∧ (hz P S p G1 q Y)[n0]? = some (.box (.agg [v])) := by
  have hRp := rOk_pos hR
  have hSl : S.length = R.length + W.length := by rw [hSe, List.length_append]
  refine ⟨hz_len hP hn _ _ _, by omega, fun k => by rw [Nat.add_assoc]; exact hz_all hP hn hPp hS G1 hq hY _, ?_⟩
  obtain ⟨v, T, hRe, hT, hv⟩ := hR
  have hget : ∀ i : Nat, i < R.length → (hz P S p G1 q Y)[n0 + i]? = R[i]? := fun i hi => by
    unfold hz
    rw [← hn0, show p + 12 + i = p + (12 + i) by omega, hq_at hP, List.getElem?_append_right (by rw [hobs_len]; omega), hobs_len, hSe, List.append_assoc, List.getElem?_append_left (by omega)]
    congr 1
    omega
  refine ⟨v, ?_, ?_⟩
  · rcases hv with ⟨h1, h2, _⟩ | ⟨j, h1, hj⟩
    · exact .inl ⟨h1, h2⟩
    · have hjl := (List.getElem?_eq_some_iff.1 hj).1
      have hl2 : R.length = T.length + 1 := by rw [hRe]; rfl
      refine .inr ⟨n0 + 1 + j, h1, by omega, ?_⟩
      rw [show n0 + 1 + j = n0 + (j + 1) by omega, hget _ (by omega), hRe]
      exact hj
  · have := hget 0 hRp
    rw [Nat.add_zero] at this
    rw [this, hRe]
    rfl
include hP hn hPp hS hn0 hSe hR hG
theorem zq_last (G1 : List Inc) {q : Grb} (hq : q.pl) {Y : Heap} (hY : plain Y) : evF C F_paddockref3_History_Last [.ptr n0 0] (hz P S p G1 q Y) = some (.d (.i .u32 ((G.length : Int) + 1)), hz P S p G1 q Y) := by
  obtain ⟨h1, h2, h3, v, h4, h5⟩ := zr_row hP hn hPp hS hn0 hSe hR G1 hq hY
  exact reflast_at h1 h2 h3 h4 h5 hG
theorem zq_map (G1 : List Inc) {q : Grb} (hq : q.pl) {Y : Heap} (hY : plain Y) (k : Nat) (hk : k ≤ G.length) : evF C F_paddockref3_History_Map [.ptr n0 0, .d (.i .u32 ((k : Int) + 1))] (hz P S p G1 q Y) = some (.d (.agg (mapAt (G.take k)).cs), hz P S p G1 q Y) := by
  obtain ⟨h1, h2, h3, v, h4, h5⟩ := zr_row hP hn hPp hS hn0 hSe hR G1 hq hY
  exact refmap_at h1 h2 h3 h4 h5 hG k hk
theorem zq_ivs (G1 : List Inc) {q : Grb} (hq : q.pl) {Y : Heap} (hY : plain Y) (g : Int) (h0 : 0 ≤ g) : evF C F_paddockref3_History_Intervals [.ptr n0 0, .d (.i .u8 g)] (hz P S p G1 q Y) = some (.d (.sl ((ivL G g).map Itv.d)), hz P S p G1 q Y) := by
  obtain ⟨h1, h2, h3, v, h4, h5⟩ := zr_row hP hn hPp hS hn0 hSe hR G1 hq hY
  exact refivs_at h1 h2 h3 h4 h5 hG g h0
theorem zq_now (G1 : List Inc) {q : Grb} (hq : q.pl) {Y : Heap} (hY : plain Y) (g : Int) (h0 : 0 ≤ g) : evF C F_paddockref3_History_Now [.ptr n0 0, .d (.i .u8 g)] (hz P S p G1 q Y) = some (.d (.agg (lastI (ivL G g)).cs), hz P S p G1 q Y) := by
  obtain ⟨h1, h2, h3, v, h4, h5⟩ := zr_row hP hn hPp hS hn0 hSe hR G1 hq hY
  exact refnow_at h1 h2 h3 h4 h5 hG g h0
theorem zq_no (G1 : List Inc) {q : Grb} (hq : q.pl) {Y : Heap} (hY : plain Y) (e : Int) (he : 0 ≤ e ∧ e < 4294967296) (hne : e ≠ (G.length : Int) + 2) (x : Inc) : evF C F_paddockref3_History_Add [.ptr n0 0, .d (.i .u32 e), .d (.agg x.cs)] (hz P S p G1 q Y) = some (.d (.i .i64 (addL G e x).2), hz P S p G1 q Y) := by
  obtain ⟨h1, h2, h3, v, h4, h5⟩ := zr_row hP hn hPp hS hn0 hSe hR G1 hq hY
  exact refadd_no h1 h2 h3 h4 h5 hG e he hne x
end
end Go.Proofs.Ytckaebcljcpobaa

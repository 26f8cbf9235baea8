/- Functions of a history, where all else holds no reference; what the laws know. -/
import Derived.Test.YtckaebcljcpobaaHsG
set_option linter.all false
namespace Go.Proofs.Ytckaebcljcpobaa
open Pv Go Pk
set_option maxRecDepth 10000
set_option maxHeartbeats 4000000
/-- Objects that refer to none. -/
def plain (X : Heap) : Prop := ∀ n, X.all (ltO n) = true
theorem plain_nil : plain [] = True := eq_true fun _ => rfl
theorem plain_arr (es : List DV) (wr : Bool) (X : Heap) : plain (.arr es wr :: X) = plain X := by
  apply propext
  exact ⟨fun h n => by have := h n; rw [List.all_cons] at this; simpa [ltO] using this, fun h n => by rw [List.all_cons, h n]; rfl⟩
theorem plain_box (d : DV) (X : Heap) : plain (.box (.d d) :: X) = plain X := by
  apply propext
  exact ⟨fun h n => by have := h n; rw [List.all_cons] at this; simpa [ltO, lt] using this, fun h n => by rw [List.all_cons, h n]; rfl⟩
def Grb.pl (q : Grb) : Prop := ∀ n, q.ok n
theorem grb0_pl : grb0.pl := grb0_ok
theorem Grb.frz_pl {q : Grb} (h : q.pl) (g : Int) : (q.frz g).pl := fun n => Grb.frz_ok (h n) g
/-- A history behind P, Y behind it. -/
def hh (P : Heap) (p : Nat) (l : List Inc) (q : Grb) (Y : Heap) : Heap := hq P (hobs p (hsOf l) q) Y
theorem hobs_len (p : Nat) (s : Hst) (q : Grb) : (hobs p s q).length = 12 := rfl
theorem hh_push (P : Heap) (p : Nat) (l : List Inc) (q : Grb) (Y Z : Heap) : hh P p l q Y ++ Z = hh P p l q (Y ++ Z) := by simp [hh, hq]
section
variable {P : Heap} {p n : Nat} (hP : P.length = p) (hn : p + 12 = n)
include hP hn in
theorem hh_len (l : List Inc) (q : Grb) (Y : Heap) : (hh P p l q Y).length = n + Y.length := by
  unfold hh hq
  rw [List.length_append, List.length_append, hobs_len]
  omega
include hP hn in
theorem hh_at (l : List Inc) (q : Grb) (Y : Heap) (j : Nat) : (hh P p l q Y)[n + j]? = Y[j]? := by
  unfold hh
  rw [show n + j = p + (12 + j) by omega, hq_at hP, List.getElem?_append_right (by rw [hobs_len]; omega), hobs_len]
  congr 1
  omega
include hP hn in
theorem hh_at0 (l : List Inc) (q : Grb) (Y : Heap) : (hh P p l q Y)[n]? = Y[0]? := hh_at hP hn l q Y 0
include hP hn in
theorem hh_set (l : List Inc) (q : Grb) (Y : Heap) (j : Nat) (y : Ob) : (hh P p l q Y).set (n + j) y = hh P p l q (Y.set j y) := by
  unfold hh hq
  rw [List.set_append_right _ _ (by omega), List.set_append_right _ _ (by rw [hobs_len]; omega), hobs_len]
  congr 3
  omega
include hP hn in
theorem hh_set0 (l : List Inc) (q : Grb) (Y : Heap) (y : Ob) : (hh P p l q Y).set n y = hh P p l q (Y.set 0 y) := hh_set hP hn l q Y 0 y
include hP hn in
theorem hh_take (l : List Inc) (q : Grb) (Y : Heap) (j : Nat) : List.take (n + j) (hh P p l q Y) = hh P p l q (Y.take j) := by
  unfold hh hq
  rw [List.take_append, List.take_of_length_le (by omega), List.take_append, List.take_of_length_le (by rw [hobs_len]; omega), hobs_len]
  congr 3
  omega
include hP hn in
theorem hh_take0 (l : List Inc) (q : Grb) (Y : Heap) : List.take n (hh P p l q Y) = hh P p l q [] := by
  have := hh_take hP hn l q Y 0
  simpa using this
include hP hn in
theorem hobs_ltO (s : Hst) {q : Grb} (hq : q.pl) (k : Nat) : (hobs p s q).all (ltO (n + k)) = true := by
  obtain ⟨k0, k1, k2, k3, k4⟩ := hq (n + k)
  unfold hobs hbox
  simp only [List.all_cons, List.all_nil, k0, k1, k2, k3, k4, Bool.true_and, Bool.and_true]
  simp [ltO, lt, lts]
  omega
variable (hPp : plain P)
include hP hn hPp in
theorem hh_all (l : List Inc) {q : Grb} (hq : q.pl) {Y : Heap} (hY : plain Y) (k : Nat) : (hh P p l q Y).all (ltO (n + k)) = true := by
  unfold hh Go.Proofs.Ytckaebcljcpobaa.hq
  rw [List.all_append, List.all_append, hPp, hobs_ltO hP hn _ hq, hY]
  rfl
include hP hn hPp in
theorem hh_all0 (l : List Inc) {q : Grb} (hq : q.pl) {Y : Heap} (hY : plain Y) : (hh P p l q Y).all (ltO n) = true := hh_all hP hn hPp l hq hY 0
include hP hPp in
theorem h_last {l : List Inc} {q : Grb} (hq : q.pl) {X : Heap} (hX : plain X) : evF C F_history_History_Last [.ptr (p + 2) 0] (hh P p l q X) = some (.d (.i .u32 ((l.length : Int) + 1)), hh P p l q X) := by
  have := hlast_at hP (S := X) rfl (hPp _) (hX _) (hq _) (hsOf l)
  rwa [hsOf_last] at this
include hP hPp in
theorem h_map {l : List Inc} {q : Grb} (hq : q.pl) {X : Heap} (hX : plain X) (e : Int) : evF C F_history_History_Map [.ptr (p + 2) 0, .d (.i .u32 e)] (hh P p l q X) =
    some (.tup [.d (.agg (if decide (1 ≤ e ∧ e ≤ (l.length : Int) + 1) then (mapAt (l.take (e - 1).toNat)).cs else Mp.zero.cs)), .d (.b (decide (1 ≤ e ∧ e ≤ (l.length : Int) + 1)))], hh P p l q X) := by
  refine hmap_at hP (S := X) rfl (hPp _) (hX _) (hq _) (hsOf l) e _ _ ?_
  rw [hsOf_ms]
  by_cases h : 1 ≤ e ∧ e ≤ (l.length : Int) + 1
  · rw [if_pos h, decide_eq_true h]; rfl
  · rw [if_neg h, decide_eq_false h]; rfl
def incAt (l : List Inc) (e : Int) : Inc := if 2 ≤ e ∧ e ≤ (l.length : Int) + 1 then (l[(e - 2).toNat]?).getD ⟨0, 0, 0⟩ else ⟨0, 0, 0⟩
include hP hPp in
theorem h_add {l : List Inc} (hl : goodI l) {q : Grb} (hq : q.pl) {X : Heap} (hX : plain X) (e : Int) (he : 0 ≤ e ∧ e < 4294967296) (x : Inc) (hx : x.ok) : evF C F_history_History_Add [.ptr (p + 2) 0, .d (.i .u32 e), .d (.agg x.cs)] (hh P p l q X) =
    some (.d (.i .i64 (addL l e x).2), hh P p (addL l e x).1 q X) := hadd_at hP (S := X) rfl (hPp _) (hX _) (hq _) l hl e he x hx
/-- A group's intervals, and the last one. -/
def ivL (l : List Inc) (g : Int) : List Itv := ivOf (hsOf l) g
include hP hPp in
theorem h_since {l : List Inc} (hl : goodI l) {q : Grb} (hq : q.pl) {X : Heap} (hX : plain X) (g : Int) (h0 : 0 ≤ g) : evF C F_history_History_Since [.ptr (p + 2) 0, .d (.i .u8 g)] (hh P p l q X) = some (.d (.i .u32 (lastI (ivL l g)).since), hh P p l q X) :=
  since_at hP (S := X) rfl (hPp _) (hX _) (hq _) (hsOf l) (hsOf_ok hl) g h0
include hP hPp in
theorem h_intervals {l : List Inc} (hl : goodI l) {q : Grb} (hq : q.pl) {X : Heap} (hX : plain X) (g : Int) (h0 : 0 ≤ g) : evF C F_history_History_Intervals [.ptr (p + 2) 0, .d (.i .u8 g)] (hh P p l q X) = some (.d (.sl ((ivL l g).map Itv.d)), hh P p l (q.frz g) X) :=
  hintervals_at hP (S := X) rfl (hPp _) (hX _) (hq _) (hsOf l) (hsOf_ok hl) g h0
include hP in
theorem h_new : evF C F_history_New [] P = some (.ptr (p + 2) 0, hh P p [] grb0 []) := hnew_at hP
end
theorem actI_congr {m k : Mp} (ho : m.osds = k.osds) (hi : isMp m = isMp k) (g : Int) : actI m g = actI k g := by
  have h1 : osL m = osL k := by unfold osL; rw [ho]
  unfold isMp at hi
  rw [h1] at hi
  unfold actI actP pickP
  rw [h1, hi]
end Go.Proofs.Ytckaebcljcpobaa

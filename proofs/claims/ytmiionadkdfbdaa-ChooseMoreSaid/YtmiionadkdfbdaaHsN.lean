/- Functions of a history, where all else holds no reference; what the laws know. / What the laws of histories know. / The fold of increments that were taken; which increments are taken. / Intervals of a history from epoch to epoch (plain). -/
import Derived.Test.YtmiionadkdfbdaaHsG
set_option linter.all false
namespace Go.Proofs.Ytmiionadkdfbdaa
open Pv Go Pk
set_option maxRecDepth 10000
set_option maxHeartbeats 4000000
/-- Objects that refer to none. -/
def plain (X : Heap) : Prop := ∀ n, X.all (ltO n) = true
theorem plain_nil : plain [] = True := eq_true fun _ => rfl
theorem plain_arr (es : List DV) (wr : Bool) (X : Heap) : plain (.arr es wr :: X) = plain X := by
  apply propext
  exact ⟨fun h n => by have := h n; rw [List.all_cons] at this; simpa [ltO] using this, fun h n => by rw [List.all_cons, h n]; rfl⟩
theorem plain_box (d : DV) (X : Heap) : plain (.box (.d d) :: X) = plain X := by
  apply propext
  exact ⟨fun h n => by have := h n; rw [List.all_cons] at this; simpa [ltO, lt] using this, fun h n => by rw [List.all_cons, h n]; rfl⟩
theorem plain_app (X Y : Heap) : plain (X ++ Y) = (plain X ∧ plain Y) := by
  apply propext
  unfold plain
  constructor
  · intro h
    exact ⟨fun n => by have := h n; rw [List.all_append, Bool.and_eq_true] at this; exact this.1, fun n => by have := h n; rw [List.all_append, Bool.and_eq_true] at this; exact this.2⟩
  · rintro ⟨h1, h2⟩ n
    rw [List.all_append, h1 n, h2 n]
    rfl
def Grb.pl (q : Grb) : Prop := ∀ n, q.ok n
theorem grb0_pl : grb0.pl := grb0_ok
theorem Grb.frz_pl {q : Grb} (h : q.pl) (g : Int) : (q.frz g).pl := fun n => Grb.frz_ok (h n) g
/-- A history behind P, Y behind it. -/
def hh (P : Heap) (p : Nat) (l : List Inc) (q : Grb) (Y : Heap) : Heap := hq P (hobs p (hsOf l) q) Y
theorem hobs_len (p : Nat) (s : Hst) (q : Grb) : (hobs p s q).length = 12 := rfl
theorem hh_push (P : Heap) (p : Nat) (l : List Inc) (q : Grb) (Y Z : Heap) : hh P p l q Y ++ Z = hh P p l q (Y ++ Z) := by simp [hh, hq]
section
variable {P : Heap} {p n : Nat} (hP : P.length = p) (hn : p + 12 = n)
include hP hn in
theorem hh_len (l : List Inc) (q : Grb) (Y : Heap) : (hh P p l q Y).length = n + Y.length := by
  unfold hh hq
  rw [List.length_append, List.length_append, hobs_len]
  omega
include hP hn in
theorem hh_at (l : List Inc) (q : Grb) (Y : Heap) (j : Nat) : (hh P p l q Y)[n + j]? = Y[j]? := by
  unfold hh
  rw [show n + j = p + (12 + j) by omega, hq_at hP, List.getElem?_append_right (by rw [hobs_len]; omega), hobs_len]
  congr 1
  omega
include hP hn in
theorem hh_at0 (l : List Inc) (q : Grb) (Y : Heap) : (hh P p l q Y)[n]? = Y[0]? := hh_at hP hn l q Y 0
include hP hn in
theorem hh_set (l : List Inc) (q : Grb) (Y : Heap) (j : Nat) (y : Ob) : (hh P p l q Y).set (n + j) y = hh P p l q (Y.set j y) := by
  unfold hh hq
  rw [List.set_append_right _ _ (by omega), List.set_append_right _ _ (by rw [hobs_len]; omega), hobs_len]
  congr 3
  omega
include hP hn in
theorem hh_set0 (l : List Inc) (q : Grb) (Y : Heap) (y : Ob) : (hh P p l q Y).set n y = hh P p l q (Y.set 0 y) := hh_set hP hn l q Y 0 y
include hP hn in
theorem hh_take (l : List Inc) (q : Grb) (Y : Heap) (j : Nat) : List.take (n + j) (hh P p l q Y) = hh P p l q (Y.take j) := by
  unfold hh hq
  rw [List.take_append, List.take_of_length_le (by omega), List.take_append, List.take_of_length_le (by rw [hobs_len]; omega), hobs_len]
  congr 3
  omega
include hP hn in
theorem hh_take0 (l : List Inc) (q : Grb) (Y : Heap) : List.take n (hh P p l q Y) = hh P p l q [] := by
  have := hh_take hP hn l q Y 0
  simpa using this
include hP hn in
theorem hobs_ltO (s : Hst) {q : Grb} (hq : q.pl) (k : Nat) : (hobs p s q).all (ltO (n + k)) = true := by
  obtain ⟨k0, k1, k2, k3, k4⟩ := hq (n + k)
  unfold hobs hbox
  simp only [List.all_cons, List.all_nil, k0, k1, k2, k3, k4, Bool.true_and, Bool.and_true]
  simp [ltO, lt, lts]
  omega
variable (hPp : plain P)
include hP hn hPp in
theorem hh_all (l : List Inc) {q : Grb} (hq : q.pl) {Y : Heap} (hY : plain Y) (k : Nat) : (hh P p l q Y).all (ltO (n + k)) = true := by
  unfold hh Go.Proofs.Ytmiionadkdfbdaa.hq
  rw [List.all_append, List.all_append, hPp, hobs_ltO hP hn _ hq, hY]
  rfl
include hP hPp in
def incAt (l : List Inc) (e : Int) : Inc := if 2 ≤ e ∧ e ≤ (l.length : Int) + 1 then (l[(e - 2).toNat]?).getD ⟨0, 0, 0⟩ else ⟨0, 0, 0⟩
/-- A group's intervals, and the last one. -/
def ivL (l : List Inc) (g : Int) : List Itv := ivOf (hsOf l) g
theorem ivL_mem {l : List Inc} (hl : goodI l) (g : Int) : ∀ x ∈ ivL l g, x.acting.length ≤ 3 := by
  obtain ⟨h0, h1, h2, h3⟩ := hsOf_ok hl
  unfold ivL ivOf
  split
  · exact h0.2.2
  · split
    · exact h1.2.2
    · split
      · exact h2.2.2
      · split
        · exact h3.2.2
        · intro x hx; simp at hx
theorem lastI_len {l : List Inc} (hl : goodI l) (g : Int) : (lastI (ivL l g)).acting.length ≤ 3 := by
  unfold lastI
  cases h : (ivL l g).getLast? with
  | none => show (0 : Nat) ≤ 3; omega
  | some x => exact ivL_mem hl g x (List.mem_of_getLast? h)
include hP hPp in
theorem h_acting {l : List Inc} (hl : goodI l) {q : Grb} (hq : q.pl) {X : Heap} (hX : plain X) (g : Int) (h0 : 0 ≤ g) : evF C F_history_History_Acting [.ptr (p + 2) 0, .d (.i .u8 g)] (hh P p l q X) = some (.d (.sl ((lastI (ivL l g)).acting.map fun x => .i .i64 x)), hh P p l q X) :=
  hacting_at hP (S := X) rfl (hPp _) (hX _) (hq _) (hsOf l) (hsOf_ok hl) g h0 (by have := lastI_len hl g; exact Nat.le_trans this (by omega))
include hP hPp in
include hP hPp in
theorem hv_intervals {l : List Inc} (hl : goodI l) {q : Grb} (hq : q.pl) {X : Heap} (hX : plain X) (hn2 : p + 12 + X.length = n) (g : Int) (h0 : 0 ≤ g ∧ g < 4) : evF C F_history_History_Intervals [.ptr (p + 2) 0, .d (.i .u8 g)] (hh P p l q X) = some (.view n (ivL l g).length 2 0 (ivL l g).length, hh P p l (q.frz g) (X ++ [.arr ((ivL l g).map Itv.d) true])) :=
  vintervals_at hP (S := X) hn2 (hPp _) (hX _) (hq _) (hsOf l) (hsOf_ok hl) g h0
include hP in
theorem h_new : evF C F_history_New [] P = some (.ptr (p + 2) 0, hh P p [] grb0 []) := hnew_at hP
end
end Go.Proofs.Ytmiionadkdfbdaa

namespace Go.Proofs.Ytmiionadkdfbdaa
open Pv Go Pk
set_option maxRecDepth 10000
set_option maxHeartbeats 4000000
def x4 : Inc := ⟨4, 0, 0⟩
/-- The last interval's daemons are those that act by the last map. -/
theorem last_acting {l : List Inc} (hl : goodI l) (g : Int) (hg : 0 ≤ g ∧ g < 4) : (lastI (ivL l g)).acting = actI (mapAt l) g := by
  revert hl
  refine list_snoc_ind (M := fun l => goodI l → (lastI (ivL l g)).acting = actI (mapAt l) g) ?_ ?_ l
  · intro _
    obtain rfl | rfl | rfl | rfl : g = 0 ∨ g = 1 ∨ g = 2 ∨ g = 3 := by omega
    all_goals rfl
  · intro l x ih hl
    have key : ∀ (iv : List Itv) (e : Int) (a : List Int), (lastI (ivAdd iv e a)).acting = a := by
      intro iv e a
      unfold ivAdd
      split
      · rename_i h
        unfold lastI
        cases hx : iv.getLast? with
        | none => rw [hx] at h; simp at h
        | some x => rw [hx] at h; exact Option.some.inj h
      · unfold lastI; simp
    unfold ivL ivOf
    rw [hsOf_snoc]
    obtain rfl | rfl | rfl | rfl : g = 0 ∨ g = 1 ∨ g = 2 ∨ g = 3 := by omega
    · exact key _ _ _
    · exact key _ _ _
    · exact key _ _ _
    · exact key _ _ _
end Go.Proofs.Ytmiionadkdfbdaa

namespace Go.Proofs.Ytmiionadkdfbdaa
open Pv Go Pk
set_option maxRecDepth 10000
set_option maxHeartbeats 4000000
theorem goodI_take {l : List Inc} (h : goodI l) (i : Nat) : goodI (l.take i) := ⟨by have := h.1; rw [List.length_take]; omega, fun x hx => h.2 x (List.mem_of_mem_take hx)⟩
theorem apply_good {l : List Inc} {x : Inc} (h : goodI (l ++ [x])) : nextOf (mapAt l) x = (mapAt (l ++ [x]), 0) := by
  have hx := h.2 x (by simp)
  have hl := h.1
  simp at hl
  unfold nextOf
  rw [if_pos, mapAt_snoc]
  rw [mapAt_is (goodI_snoc h), mapAt_epoch, hx.1]
  simp
  omega
/-- What is taken of a row of increments, each coming as the next one. -/
def takeN (g : List Inc) (x : Inc) : List Inc := (addL g ((g.length : Int) + 2) x).1
def codeN (g : List Inc) (x : Inc) : Int := (addL g ((g.length : Int) + 2) x).2
def takeAll (l : List Inc) : List Inc := l.foldl takeN []
theorem takeAll_snoc (l : List Inc) (x : Inc) : takeAll (l ++ [x]) = takeN (takeAll l) x := by unfold takeAll; rw [List.foldl_append]; rfl
theorem addL_next (g : List Inc) (x : Inc) : addL g ((g.length : Int) + 2) x = if isInc x = true ∧ g.length < 59 then (g ++ [x], 0) else (g, 40) := by
  unfold addL
  rw [if_neg (by omega), if_neg (by omega)]
theorem takeAll_good {l : List Inc} (h : ∀ x ∈ l, x.ok) : goodI (takeAll l) := by
  revert h
  refine list_snoc_ind (M := fun l => (∀ x ∈ l, x.ok) → goodI (takeAll l)) (fun _ => good_nil) ?_ l
  intro l x ih h
  rw [takeAll_snoc]
  exact addL_good (ih fun y hy => h y (by simp [hy])) (h x (by simp))
end Go.Proofs.Ytmiionadkdfbdaa

namespace Go.Proofs.Ytmiionadkdfbdaa
open Pv Go Pk
set_option maxRecDepth 10000
set_option maxHeartbeats 4000000
theorem ivL_nil (g : Int) (hg : 0 ≤ g ∧ g < 4) : ivL [] g = [⟨1, actI firstM g⟩] := by
  obtain rfl | rfl | rfl | rfl : g = 0 ∨ g = 1 ∨ g = 2 ∨ g = 3 := by omega
  all_goals rfl
theorem ivL_snoc (l : List Inc) (x : Inc) (g : Int) (hg : 0 ≤ g ∧ g < 4) : ivL (l ++ [x]) g = ivAdd (ivL l g) ((l.length : Int) + 2) (actI (mapAt (l ++ [x])) g) := by
  have he : (mapAt (l ++ [x])).epoch = (l.length : Int) + 2 := by rw [mapAt_epoch, List.length_append]; simp; omega
  unfold ivL ivOf
  rw [hsOf_snoc, ← he]
  obtain rfl | rfl | rfl | rfl : g = 0 ∨ g = 1 ∨ g = 2 ∨ g = 3 := by omega
  all_goals rfl
theorem ivL_pre (l : List Inc) (g : Int) (hg : 0 ≤ g ∧ g < 4) : ∀ i : Nat, ∃ r, ivL l g = ivL (l.take i) g ++ r ∧ ∀ x ∈ r, x.since > (i : Int) + 1 := by
  refine list_snoc_ind (M := fun l => ∀ i : Nat, ∃ r, ivL l g = ivL (l.take i) g ++ r ∧ ∀ x ∈ r, x.since > (i : Int) + 1) ?_ ?_ l
  · intro i
    exact ⟨[], by simp, by simp⟩
  · intro l y ih i
    by_cases hi : i ≤ l.length
    · obtain ⟨r, h1, h2⟩ := ih i
      rw [List.take_append_of_le_length hi, ivL_snoc _ _ _ hg]
      unfold ivAdd
      split
      · exact ⟨r, h1, h2⟩
      · refine ⟨r ++ [⟨(l.length : Int) + 2, actI (mapAt (l ++ [y])) g⟩], by rw [h1, List.append_assoc], ?_⟩
        intro x hx
        rcases List.mem_append.1 hx with hx | hx
        · exact h2 x hx
        · simp at hx
          subst hx
          show (l.length : Int) + 2 > _
          omega
    · rw [List.take_of_length_le (by simp; omega)]
      exact ⟨[], by simp, by simp⟩
theorem ivL_ne (l : List Inc) (g : Int) (hg : 0 ≤ g ∧ g < 4) : 0 < (ivL l g).length := by
  obtain ⟨r, h1, _⟩ := ivL_pre l g hg 0
  rw [h1, List.take_zero, ivL_nil g hg]
  simp
theorem ivL_len {l : List Inc} (hl : goodI l) (g : Int) (hg : 0 ≤ g ∧ g < 4) : (ivL l g).length ≤ l.length + 1 := by
  obtain ⟨h0, h1, h2, h3⟩ := hsOf_okL hl
  unfold ivL ivOf
  obtain rfl | rfl | rfl | rfl : g = 0 ∨ g = 1 ∨ g = 2 ∨ g = 3 := by omega
  · exact h0.2
  · exact h1.2
  · exact h2.2
  · exact h3.2
end Go.Proofs.Ytmiionadkdfbdaa

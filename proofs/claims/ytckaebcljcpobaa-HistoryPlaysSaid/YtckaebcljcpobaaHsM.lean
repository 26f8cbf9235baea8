/- Functions of a history, where all else holds no reference; what the laws know. / What the laws of histories know. / The fold of increments that were taken; which increments are taken. -/
import Derived.Test.YtckaebcljcpobaaHsG
set_option linter.all false
namespace Go.Proofs.Ytckaebcljcpobaa
open Pv Go Pk
set_option maxRecDepth 10000
set_option maxHeartbeats 4000000
/-- Objects that refer to none. -/
def plain (X : Heap) : Prop := ∀ n, X.all (ltO n) = true
theorem plain_nil : plain [] = True := eq_true fun _ => rfl
theorem plain_arr (es : List DV) (wr : Bool) (X : Heap) : plain (.arr es wr :: X) = plain X := by
  apply propext
  exact ⟨fun h n => by have := h n; rw [List.all_cons] at this; simpa [ltO] using this, fun h n => by rw [List.all_cons, h n]; rfl⟩
theorem plain_box (d : DV) (X : Heap) : plain (.box (.d d) :: X) = plain X := by
  apply propext
  exact ⟨fun h n => by have := h n; rw [List.all_cons] at this; simpa [ltO, lt] using this, fun h n => by rw [List.all_cons, h n]; rfl⟩
def Grb.pl (q : Grb) : Prop := ∀ n, q.ok n
theorem grb0_pl : grb0.pl := grb0_ok
theorem Grb.frz_pl {q : Grb} (h : q.pl) (g : Int) : (q.frz g).pl := fun n => Grb.frz_ok (h n) g
/-- A history behind P, Y behind it. -/
def hh (P : Heap) (p : Nat) (l : List Inc) (q : Grb) (Y : Heap) : Heap := hq P (hobs p (hsOf l) q) Y
theorem hobs_len (p : Nat) (s : Hst) (q : Grb) : (hobs p s q).length = 12 := rfl
theorem hh_push (P : Heap) (p : Nat) (l : List Inc) (q : Grb) (Y Z : Heap) : hh P p l q Y ++ Z = hh P p l q (Y ++ Z) := by simp [hh, hq]
section
variable {P : Heap} {p n : Nat} (hP : P.length = p) (hn : p + 12 = n)
include hP hn in
theorem hh_len (l : List Inc) (q : Grb) (Y : Heap) : (hh P p l q Y).length = n + Y.length := by
  unfold hh hq
  rw [List.length_append, List.length_append, hobs_len]
  omega
include hP hn in
theorem hh_at (l : List Inc) (q : Grb) (Y : Heap) (j : Nat) : (hh P p l q Y)[n + j]? = Y[j]? := by
  unfold hh
  rw [show n + j = p + (12 + j) by omega, hq_at hP, List.getElem?_append_right (by rw [hobs_len]; omega), hobs_len]
  congr 1
  omega
include hP hn in
theorem hh_at0 (l : List Inc) (q : Grb) (Y : Heap) : (hh P p l q Y)[n]? = Y[0]? := hh_at hP hn l q Y 0
include hP hn in
theorem hh_set (l : List Inc) (q : Grb) (Y : Heap) (j : Nat) (y : Ob) : (hh P p l q Y).set (n + j) y = hh P p l q (Y.set j y) := by
  unfold hh hq
  rw [List.set_append_right _ _ (by omega), List.set_append_right _ _ (by rw [hobs_len]; omega), hobs_len]
  congr 3
  omega
include hP hn in
theorem hh_set0 (l : List Inc) (q : Grb) (Y : Heap) (y : Ob) : (hh P p l q Y).set n y = hh P p l q (Y.set 0 y) := hh_set hP hn l q Y 0 y
include hP hn in
theorem hh_take (l : List Inc) (q : Grb) (Y : Heap) (j : Nat) : List.take (n + j) (hh P p l q Y) = hh P p l q (Y.take j) := by
  unfold hh hq
  rw [List.take_append, List.take_of_length_le (by omega), List.take_append, List.take_of_length_le (by rw [hobs_len]; omega), hobs_len]
  congr 3
  omega
include hP hn in
theorem hh_take0 (l : List Inc) (q : Grb) (Y : Heap) : List.take n (hh P p l q Y) = hh P p l q [] := by
  have := hh_take hP hn l q Y 0
  simpa using this
include hP hn in
theorem hobs_ltO (s : Hst) {q : Grb} (hq : q.pl) (k : Nat) : (hobs p s q).all (ltO (n + k)) = true := by
  obtain ⟨k0, k1, k2, k3, k4⟩ := hq (n + k)
  unfold hobs hbox
  simp only [List.all_cons, List.all_nil, k0, k1, k2, k3, k4, Bool.true_and, Bool.and_true]
  simp [ltO, lt, lts]
  omega
variable (hPp : plain P)
include hP hPp in
theorem h_last {l : List Inc} {q : Grb} (hq : q.pl) {X : Heap} (hX : plain X) : evF C F_history_History_Last [.ptr (p + 2) 0] (hh P p l q X) = some (.d (.i .u32 ((l.length : Int) + 1)), hh P p l q X) := by
  have := hlast_at hP (S := X) rfl (hPp _) (hX _) (hq _) (hsOf l)
  rwa [hsOf_last] at this
include hP hPp in
theorem h_map {l : List Inc} {q : Grb} (hq : q.pl) {X : Heap} (hX : plain X) (e : Int) : evF C F_history_History_Map [.ptr (p + 2) 0, .d (.i .u32 e)] (hh P p l q X) =
    some (.tup [.d (.agg (if decide (1 ≤ e ∧ e ≤ (l.length : Int) + 1) then (mapAt (l.take (e - 1).toNat)).cs else Mp.zero.cs)), .d (.b (decide (1 ≤ e ∧ e ≤ (l.length : Int) + 1)))], hh P p l q X) := by
  refine hmap_at hP (S := X) rfl (hPp _) (hX _) (hq _) (hsOf l) e _ _ ?_
  rw [hsOf_ms]
  by_cases h : 1 ≤ e ∧ e ≤ (l.length : Int) + 1
  · rw [if_pos h, decide_eq_true h]; rfl
  · rw [if_neg h, decide_eq_false h]; rfl
def incAt (l : List Inc) (e : Int) : Inc := if 2 ≤ e ∧ e ≤ (l.length : Int) + 1 then (l[(e - 2).toNat]?).getD ⟨0, 0, 0⟩ else ⟨0, 0, 0⟩
include hP hPp in
theorem h_add {l : List Inc} (hl : goodI l) {q : Grb} (hq : q.pl) {X : Heap} (hX : plain X) (e : Int) (he : 0 ≤ e ∧ e < 4294967296) (x : Inc) (hx : x.ok) : evF C F_history_History_Add [.ptr (p + 2) 0, .d (.i .u32 e), .d (.agg x.cs)] (hh P p l q X) =
    some (.d (.i .i64 (addL l e x).2), hh P p (addL l e x).1 q X) := hadd_at hP (S := X) rfl (hPp _) (hX _) (hq _) l hl e he x hx
/-- A group's intervals, and the last one. -/
def ivL (l : List Inc) (g : Int) : List Itv := ivOf (hsOf l) g
include hP hPp in
theorem h_since {l : List Inc} (hl : goodI l) {q : Grb} (hq : q.pl) {X : Heap} (hX : plain X) (g : Int) (h0 : 0 ≤ g) : evF C F_history_History_Since [.ptr (p + 2) 0, .d (.i .u8 g)] (hh P p l q X) = some (.d (.i .u32 (lastI (ivL l g)).since), hh P p l q X) :=
  since_at hP (S := X) rfl (hPp _) (hX _) (hq _) (hsOf l) (hsOf_ok hl) g h0
theorem ivL_mem {l : List Inc} (hl : goodI l) (g : Int) : ∀ x ∈ ivL l g, x.acting.length ≤ 3 := by
  obtain ⟨h0, h1, h2, h3⟩ := hsOf_ok hl
  unfold ivL ivOf
  split
  · exact h0.2.2
  · split
    · exact h1.2.2
    · split
      · exact h2.2.2
      · split
        · exact h3.2.2
        · intro x hx; simp at hx
theorem lastI_len {l : List Inc} (hl : goodI l) (g : Int) : (lastI (ivL l g)).acting.length ≤ 3 := by
  unfold lastI
  cases h : (ivL l g).getLast? with
  | none => show (0 : Nat) ≤ 3; omega
  | some x => exact ivL_mem hl g x (List.mem_of_getLast? h)
include hP hPp in
theorem h_intervals {l : List Inc} (hl : goodI l) {q : Grb} (hq : q.pl) {X : Heap} (hX : plain X) (g : Int) (h0 : 0 ≤ g) : evF C F_history_History_Intervals [.ptr (p + 2) 0, .d (.i .u8 g)] (hh P p l q X) = some (.d (.sl ((ivL l g).map Itv.d)), hh P p l (q.frz g) X) :=
  hintervals_at hP (S := X) rfl (hPp _) (hX _) (hq _) (hsOf l) (hsOf_ok hl) g h0
include hP in
theorem h_new : evF C F_history_New [] P = some (.ptr (p + 2) 0, hh P p [] grb0 []) := hnew_at hP
end
theorem actI_congr {m k : Mp} (ho : m.osds = k.osds) (hi : isMp m = isMp k) (g : Int) : actI m g = actI k g := by
  have h1 : osL m = osL k := by unfold osL; rw [ho]
  unfold isMp at hi
  rw [h1] at hi
  unfold actI actP pickP
  rw [h1, hi]
end Go.Proofs.Ytckaebcljcpobaa

namespace Go.Proofs.Ytckaebcljcpobaa
open Pv Go Pk
set_option maxRecDepth 10000
set_option maxHeartbeats 4000000
def x4 : Inc := ⟨4, 0, 0⟩
theorem eptr_itv (x : Itv) : AV.eptr x.cs = .eptr [.i .u32 x.since, .sl (x.acting.map fun x => .i .i64 x)] := rfl
theorem x4_fold : Inc.cs ⟨4, 0, 0⟩ = x4.cs := rfl
theorem x4_ok : x4.ok := by unfold Inc.ok x4; refine ⟨?_, ?_, ?_⟩ <;> decide
theorem iv_none {l : List Inc} (hl : goodI (l ++ [x4])) (g : Int) (h : (lastI (ivL l g)).acting = actI (mapAt l) g) (hg : 0 ≤ g ∧ g < 4) : ivL (l ++ [x4]) g = ivL l g := by
  have hm : isMp (mapAt (l ++ [x4])) = isMp (mapAt l) := by rw [mapAt_is hl, mapAt_is (goodI_snoc hl)]
  have ho : (mapAt (l ++ [x4])).osds = (mapAt l).osds := by rw [mapAt_snoc]; rfl
  have ha := fun g => actI_congr ho hm g
  obtain ⟨h0, h1, h2, h3⟩ := hsOf_ok (goodI_snoc hl)
  have key : ∀ (iv : List Itv) (g : Int), okI iv → (lastI iv).acting = actI (mapAt l) g → ivAdd iv (mapAt (l ++ [x4])).epoch (actI (mapAt (l ++ [x4])) g) = iv := by
    intro iv g hi he
    obtain ⟨x, hx, _⟩ := okI_last hi
    unfold ivAdd
    rw [hx, if_pos]
    unfold lastI at he
    rw [hx] at he
    rw [ha g, ← he]
    rfl
  unfold ivL ivOf at h ⊢
  rw [hsOf_snoc]
  obtain rfl | rfl | rfl | rfl : g = 0 ∨ g = 1 ∨ g = 2 ∨ g = 3 := by omega
  · exact key _ 0 h0 h
  · exact key _ 1 h1 h
  · exact key _ 2 h2 h
  · exact key _ 3 h3 h
/-- The last interval's daemons are those that act by the last map. -/
theorem last_acting {l : List Inc} (hl : goodI l) (g : Int) (hg : 0 ≤ g ∧ g < 4) : (lastI (ivL l g)).acting = actI (mapAt l) g := by
  revert hl
  refine list_snoc_ind (M := fun l => goodI l → (lastI (ivL l g)).acting = actI (mapAt l) g) ?_ ?_ l
  · intro _
    obtain rfl | rfl | rfl | rfl : g = 0 ∨ g = 1 ∨ g = 2 ∨ g = 3 := by omega
    all_goals rfl
  · intro l x ih hl
    have key : ∀ (iv : List Itv) (e : Int) (a : List Int), (lastI (ivAdd iv e a)).acting = a := by
      intro iv e a
      unfold ivAdd
      split
      · rename_i h
        unfold lastI
        cases hx : iv.getLast? with
        | none => rw [hx] at h; simp at h
        | some x => rw [hx] at h; exact Option.some.inj h
      · unfold lastI; simp
    unfold ivL ivOf
    rw [hsOf_snoc]
    obtain rfl | rfl | rfl | rfl : g = 0 ∨ g = 1 ∨ g = 2 ∨ g = 3 := by omega
    · exact key _ _ _
    · exact key _ _ _
    · exact key _ _ _
    · exact key _ _ _
theorem good4 : goodI [x4] := ⟨by simp, fun x hx => by simp at hx; subst hx; exact ⟨by decide, by decide⟩⟩
theorem known5_at : evF C F_paddocklaw5_known [] [] = some (.d (.b true), []) := by
  obtain ⟨p, hP⟩ : ∃ p, ([] : Heap).length = p := ⟨_, rfl⟩
  obtain ⟨n, hn⟩ : ∃ n, p + 12 = n := ⟨_, rfl⟩
  have hPp : plain [] := fun _ => rfl
  have hnew := h_new hP
  have L0 : ∀ X, plain X → evF C F_history_History_Last [.ptr (p + 2) 0] (hh [] p [] grb0 X) = some (.d (.i .u32 1), hh [] p [] grb0 X) := fun X hX => h_last hP hPp grb0_pl hX
  have A0 : ∀ X, plain X → evF C F_history_History_Add [.ptr (p + 2) 0, .d (.i .u32 3), .d (.agg x4.cs)] (hh [] p [] grb0 X) = some (.d (.i .i64 50), hh [] p [] grb0 X) := fun X hX => h_add hP hPp good_nil grb0_pl hX 3 (by decide) x4 x4_ok
  have A1 : ∀ X, plain X → evF C F_history_History_Add [.ptr (p + 2) 0, .d (.i .u32 1), .d (.agg x4.cs)] (hh [] p [] grb0 X) = some (.d (.i .i64 51), hh [] p [] grb0 X) := fun X hX => h_add hP hPp good_nil grb0_pl hX 1 (by decide) x4 x4_ok
  have A2 : ∀ X, plain X → evF C F_history_History_Add [.ptr (p + 2) 0, .d (.i .u32 2), .d (.agg x4.cs)] (hh [] p [] grb0 X) = some (.d (.i .i64 0), hh [] p [x4] grb0 X) := fun X hX => h_add hP hPp good_nil grb0_pl hX 2 (by decide) x4 x4_ok
  have hq1 := Grb.frz_pl grb0_pl 0
  have hiv : ivL [x4] 0 = [⟨1, actI firstM 0⟩] := iv_none (l := []) good4 0 (last_acting good_nil 0 (by decide)) (by decide)
  have hiv4 : ivL [x4] 4 = [] := rfl
  have I0 := fun X (hX : plain X) => @h_intervals _ _ hP hPp [x4] good4 _ grb0_pl X hX 0 (by decide)
  rw [hiv] at I0
  have M2 : ∀ X, plain X → evF C F_history_History_Map [.ptr (p + 2) 0, .d (.i .u32 2)] (hh [] p [x4] (grb0.frz 0) X) = some (.tup [.d (.agg (mapAt [x4]).cs), .d (.b true)], hh [] p [x4] (grb0.frz 0) X) := fun X hX => h_map hP hPp hq1 hX 2
  have M3 : ∀ X, plain X → evF C F_history_History_Map [.ptr (p + 2) 0, .d (.i .u32 3)] (hh [] p [x4] (grb0.frz 0) X) = some (.tup [.d (.agg Mp.zero.cs), .d (.b false)], hh [] p [x4] (grb0.frz 0) X) := fun X hX => h_map hP hPp hq1 hX 3
  have S0 : ∀ X, plain X → evF C F_history_History_Since [.ptr (p + 2) 0, .d (.i .u8 0)] (hh [] p [x4] (grb0.frz 0) X) = some (.d (.i .u32 1), hh [] p [x4] (grb0.frz 0) X) := by
    intro X hX
    have := h_since hP hPp good4 hq1 hX 0 (by decide)
    rwa [hiv] at this
  have S4 : ∀ X, plain X → evF C F_history_History_Since [.ptr (p + 2) 0, .d (.i .u8 4)] (hh [] p [x4] (grb0.frz 0) X) = some (.d (.i .u32 0), hh [] p [x4] (grb0.frz 0) X) := fun X hX => h_since hP hPp good4 hq1 hX 4 (by decide)
  have he2 : (mapAt [x4]).epoch = 2 := rfl
  have hl := hh_len hP hn
  have ha := hh_at hP hn
  have ha0 := hh_at0 hP hn
  have hs := hh_set hP hn
  have hs0 := hh_set0 hP hn
  have ht := hh_take hP hn
  have ht0 := hh_take0 hP hn
  rw [evF_code (rfl : C F_paddocklaw5_known = some a_paddocklaw5_known) _ _ rfl]
  simp (config := {decide := true}) only [c_paddocklaw5_known, hnew, L0, A0, A1, A2, I0, M2, M3, S0, S4, hl, ha, ha0, hs, hs0, ht, ht0, hh_push, x4_fold, eptr_itv, he2, Nat.zero_le, Nat.le_refl, List.take_zero, plain_nil, plain_arr, plain_box, Pk.EVL, keepT, enum, ↓reduceIte, ev, act, appT, callee, toDs, toD, loadA, storeA, subA, subD, updA, Eff.on, resA, resVs, resV, lk, finish, frzR, frzVs, frzV, fznR, fzns, fzn, lts, lt, ltO, List.all, pairsOk, indep, reduceCtorEq, Nat.reduceEqDiff, Nat.reduceAdd, Nat.reduceLeDiff, stb, thaws, List.drop, intOfA, binD, binI, unD, mmL, buildA, mkAgg, allD, bslD, behind, behind0, takeAt, frzAs, frzA, adoptR, adopt, isD, isD0, trim, List.take, binS, sliceA, bnd, zOk, elems, Nat.reduceBNe, inpl, Nat.reduceLT, Nat.reduceBEq, Nat.reduceSub, Nat.reduceMul, Int.reduceLT, Int.reduceLE, Int.reduceEq, Int.reduceToNat, Int.reduceNeg, thaw, nodup, refsV, adopts, Pk.TY_Mp, Pk.TY_Inc, Pk.TY_Itv]
end Go.Proofs.Ytckaebcljcpobaa

namespace Go.Proofs.Ytckaebcljcpobaa
open Pv Go Pk
set_option maxRecDepth 10000
set_option maxHeartbeats 4000000
theorem goodI_take {l : List Inc} (h : goodI l) (i : Nat) : goodI (l.take i) := ⟨by have := h.1; rw [List.length_take]; omega, fun x hx => h.2 x (List.mem_of_mem_take hx)⟩
theorem apply_good {l : List Inc} {x : Inc} (h : goodI (l ++ [x])) : nextOf (mapAt l) x = (mapAt (l ++ [x]), 0) := by
  have hx := h.2 x (by simp)
  have hl := h.1
  simp at hl
  unfold nextOf
  rw [if_pos, mapAt_snoc]
  rw [mapAt_is (goodI_snoc h), mapAt_epoch, hx.1]
  simp
  omega
/-- What is taken of a row of increments, each coming as the next one. -/
def takeN (g : List Inc) (x : Inc) : List Inc := (addL g ((g.length : Int) + 2) x).1
def codeN (g : List Inc) (x : Inc) : Int := (addL g ((g.length : Int) + 2) x).2
def takeAll (l : List Inc) : List Inc := l.foldl takeN []
theorem addL_next (g : List Inc) (x : Inc) : addL g ((g.length : Int) + 2) x = if isInc x = true ∧ g.length < 59 then (g ++ [x], 0) else (g, 40) := by
  unfold addL
  rw [if_neg (by omega), if_neg (by omega)]
end Go.Proofs.Ytckaebcljcpobaa

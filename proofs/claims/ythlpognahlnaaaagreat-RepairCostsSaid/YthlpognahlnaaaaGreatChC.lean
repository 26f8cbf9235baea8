/- Functions of a history, where all else holds no reference; what the laws know. / What the laws of histories know. / The fold of increments that were taken; which increments are taken. / Intervals of a history from epoch to epoch (plain). / choose.Lacks, choose.Enough, choose.Serves. -/
import Derived.Test.YthlpognahlnaaaaGreatHsG
import Derived.Test.YthlpognahlnaaaaGreatPkEvd
import Derived.Test.YthlpognahlnaaaaGreatHsF
set_option linter.all false
namespace Go.Proofs.YthlpognahlnaaaaGreat
open Pv Go Pk
set_option maxRecDepth 10000
set_option maxHeartbeats 4000000
/-- Objects that refer to none. -/
def plain (X : Heap) : Prop := ∀ n, X.all (ltO n) = true
theorem plain_nil : plain [] = True := eq_true fun _ => rfl
theorem plain_arr (es : List DV) (wr : Bool) (X : Heap) : plain (.arr es wr :: X) = plain X := by
 apply propext
 exact ⟨fun h n => by have := h n; rw [List.all_cons] at this; simpa [ltO] using this, fun h n => by rw [List.all_cons, h n]; rfl⟩
theorem plain_box (d : DV) (X : Heap) : plain (.box (.d d) :: X) = plain X := by
 apply propext
 exact ⟨fun h n => by have := h n; rw [List.all_cons] at this; simpa [ltO, lt] using this, fun h n => by rw [List.all_cons, h n]; rfl⟩
theorem plain_app (X Y : Heap) : plain (X ++ Y) = (plain X ∧ plain Y) := by
 apply propext
 unfold plain
 constructor
 ·intro h
  exact ⟨fun n => by have := h n; rw [List.all_append, Bool.and_eq_true] at this; exact this.1, fun n => by have := h n; rw [List.all_append, Bool.and_eq_true] at this; exact this.2⟩
 ·rintro ⟨h1, h2⟩ n
  rw [List.all_append, h1 n, h2 n]
  rfl
def Grb.pl (q : Grb) : Prop := ∀ n, q.ok n
theorem grb0_pl : grb0.pl := grb0_ok
theorem Grb.frz_pl {q : Grb} (h : q.pl) (g : Int) : (q.frz g).pl := fun n => Grb.frz_ok (h n) g
/-- A history behind P, Y behind it. -/
def hh (P : Heap) (p : Nat) (l : List Inc) (q : Grb) (Y : Heap) : Heap := hq P (hobs p (hsOf l) q) Y
theorem hobs_len (p : Nat) (s : Hst) (q : Grb) : (hobs p s q).length = 12 := rfl
theorem hh_push (P : Heap) (p : Nat) (l : List Inc) (q : Grb) (Y Z : Heap) : hh P p l q Y ++ Z = hh P p l q (Y ++ Z) := by simp [hh, hq]
section
variable {P : Heap} {p n : Nat} (hP : P.length = p) (hn : p + 12 = n)
include hP hn in
theorem hh_len (l : List Inc) (q : Grb) (Y : Heap) : (hh P p l q Y).length = n + Y.length := by
 unfold hh hq
 rw [List.length_append, List.length_append, hobs_len]
 omega
include hP hn in
theorem hh_at (l : List Inc) (q : Grb) (Y : Heap) (j : Nat) : (hh P p l q Y)[n + j]? = Y[j]? := by
 unfold hh
 rw [show n + j = p + (12 + j) by omega, hq_at hP, List.getElem?_append_right (by rw [hobs_len]; omega), hobs_len]
 congr 1
 omega
include hP hn in
theorem hh_at0 (l : List Inc) (q : Grb) (Y : Heap) : (hh P p l q Y)[n]? = Y[0]? := hh_at hP hn l q Y 0
include hP hn in
theorem hh_set (l : List Inc) (q : Grb) (Y : Heap) (j : Nat) (y : Ob) : (hh P p l q Y).set (n + j) y = hh P p l q (Y.set j y) := by
 unfold hh hq
 rw [List.set_append_right _ _ (by omega), List.set_append_right _ _ (by rw [hobs_len]; omega), hobs_len]
 congr 3
 omega
include hP hn in
theorem hh_set0 (l : List Inc) (q : Grb) (Y : Heap) (y : Ob) : (hh P p l q Y).set n y = hh P p l q (Y.set 0 y) := hh_set hP hn l q Y 0 y
include hP hn in
theorem hh_take (l : List Inc) (q : Grb) (Y : Heap) (j : Nat) : List.take (n + j) (hh P p l q Y) = hh P p l q (Y.take j) := by
 unfold hh hq
 rw [List.take_append, List.take_of_length_le (by omega), List.take_append, List.take_of_length_le (by rw [hobs_len]; omega), hobs_len]
 congr 3
 omega
include hP hn in
theorem hh_take0 (l : List Inc) (q : Grb) (Y : Heap) : List.take n (hh P p l q Y) = hh P p l q [] := by
 have := hh_take hP hn l q Y 0
 simpa using this
include hP hn in
theorem hobs_ltO (s : Hst) {q : Grb} (hq : q.pl) (k : Nat) : (hobs p s q).all (ltO (n + k)) = true := by
 obtain ⟨k0, k1, k2, k3, k4⟩ := hq (n + k)
 unfold hobs hbox
 simp only [List.all_cons, List.all_nil, k0, k1, k2, k3, k4, Bool.true_and, Bool.and_true]
 simp [ltO, lt, lts]
 omega
variable (hPp : plain P)
include hP hn hPp in
theorem hh_all (l : List Inc) {q : Grb} (hq : q.pl) {Y : Heap} (hY : plain Y) (k : Nat) : (hh P p l q Y).all (ltO (n + k)) = true := by
 unfold hh Go.Proofs.YthlpognahlnaaaaGreat.hq
 rw [List.all_append, List.all_append, hPp, hobs_ltO hP hn _ hq, hY]
 rfl
def incAt (l : List Inc) (e : Int) : Inc := if 2 ≤ e ∧ e ≤ (l.length : Int) + 1 then (l[(e - 2).toNat]?).getD ⟨0, 0, 0⟩ else ⟨0, 0, 0⟩
/-- A group's intervals, and the last one. -/
def ivL (l : List Inc) (g : Int) : List Itv := ivOf (hsOf l) g
theorem ivL_mem {l : List Inc} (hl : goodI l) (g : Int) : ∀ x ∈ ivL l g, x.acting.length ≤ 3 := by
 obtain ⟨h0, h1, h2, h3⟩ := hsOf_ok hl
 unfold ivL ivOf
 split
 ·exact h0.2.2
 ·split
  ·exact h1.2.2
  ·split
   ·exact h2.2.2
   ·split
    ·exact h3.2.2
    ·intro x hx; simp at hx
theorem lastI_len {l : List Inc} (hl : goodI l) (g : Int) : (lastI (ivL l g)).acting.length ≤ 3 := by
 unfold lastI
 cases h : (ivL l g).getLast? with
 | none => show (0 : Nat) ≤ 3; omega
 | some x => exact ivL_mem hl g x (List.mem_of_getLast? h)
include hP hPp in
theorem h_acting {l : List Inc} (hl : goodI l) {q : Grb} (hq : q.pl) {X : Heap} (hX : plain X) (g : Int) (h0 : 0 ≤ g) : evF C F_q0f [.ptr (p + 2) 0, .d (.i .u8 g)] (hh P p l q X) = some (.d (.sl ((lastI (ivL l g)).acting.map fun x => .i .i64 x)), hh P p l q X) :=
 hacting_at hP (S := X) rfl (hPp _) (hX _) (hq _) (hsOf l) (hsOf_ok hl) g h0 (by have := lastI_len hl g; exact Nat.le_trans this (by omega))
include hP hPp in
theorem hv_intervals {l : List Inc} (hl : goodI l) {q : Grb} (hq : q.pl) {X : Heap} (hX : plain X) (hn2 : p + 12 + X.length = n) (g : Int) (h0 : 0 ≤ g ∧ g < 4) : evF C F_q0h [.ptr (p + 2) 0, .d (.i .u8 g)] (hh P p l q X) = some (.view n (ivL l g).length 2 0 (ivL l g).length, hh P p l (q.frz g) (X ++ [.arr ((ivL l g).map Itv.d) true])) :=
 vintervals_at hP (S := X) hn2 (hPp _) (hX _) (hq _) (hsOf l) (hsOf_ok hl) g h0
include hP in
theorem h_new : evF C F_q0l [] P = some (.ptr (p + 2) 0, hh P p [] grb0 []) := hnew_at hP
end
end Go.Proofs.YthlpognahlnaaaaGreat

namespace Go.Proofs.YthlpognahlnaaaaGreat
open Pv Go Pk
set_option maxRecDepth 10000
set_option maxHeartbeats 4000000
def x4 : Inc := ⟨4, 0, 0⟩
end Go.Proofs.YthlpognahlnaaaaGreat

namespace Go.Proofs.YthlpognahlnaaaaGreat
open Pv Go Pk
set_option maxRecDepth 10000
set_option maxHeartbeats 4000000
/-- What is taken of a row of increments, each coming as the next one. -/
def takeN (g : List Inc) (x : Inc) : List Inc := (addL g ((g.length : Int) + 2) x).1
def codeN (g : List Inc) (x : Inc) : Int := (addL g ((g.length : Int) + 2) x).2
def takeAll (l : List Inc) : List Inc := l.foldl takeN []
end Go.Proofs.YthlpognahlnaaaaGreat

namespace Go.Proofs.YthlpognahlnaaaaGreat
open Pv Go Pk
set_option maxRecDepth 10000
set_option maxHeartbeats 4000000
theorem ivL_nil (g : Int) (hg : 0 ≤ g ∧ g < 4) : ivL [] g = [⟨1, actI firstM g⟩] := by
 obtain rfl | rfl | rfl | rfl : g = 0 ∨ g = 1 ∨ g = 2 ∨ g = 3 := by omega
 all_goals rfl
theorem ivL_snoc (l : List Inc) (x : Inc) (g : Int) (hg : 0 ≤ g ∧ g < 4) : ivL (l ++ [x]) g = ivAdd (ivL l g) ((l.length : Int) + 2) (actI (mapAt (l ++ [x])) g) := by
 have he : (mapAt (l ++ [x])).epoch = (l.length : Int) + 2 := by rw [mapAt_epoch, List.length_append]; simp; omega
 unfold ivL ivOf
 rw [hsOf_snoc, ← he]
 obtain rfl | rfl | rfl | rfl : g = 0 ∨ g = 1 ∨ g = 2 ∨ g = 3 := by omega
 all_goals rfl
theorem ivL_pre (l : List Inc) (g : Int) (hg : 0 ≤ g ∧ g < 4) : ∀ i : Nat, ∃ r, ivL l g = ivL (l.take i) g ++ r ∧ ∀ x ∈ r, x.since > (i : Int) + 1 := by
 refine list_snoc_ind (M := fun l => ∀ i : Nat, ∃ r, ivL l g = ivL (l.take i) g ++ r ∧ ∀ x ∈ r, x.since > (i : Int) + 1) ?_ ?_ l
 ·intro i
  exact ⟨[], by simp, by simp⟩
 ·intro l y ih i
  by_cases hi : i ≤ l.length
  ·obtain ⟨r, h1, h2⟩ := ih i
   rw [List.take_append_of_le_length hi, ivL_snoc _ _ _ hg]
   unfold ivAdd
   split
   ·exact ⟨r, h1, h2⟩
   ·refine ⟨r ++ [⟨(l.length : Int) + 2, actI (mapAt (l ++ [y])) g⟩], by rw [h1, List.append_assoc], ?_⟩
    intro x hx
    rcases List.mem_append.1 hx with hx | hx
    ·exact h2 x hx
    ·simp at hx
     subst hx
     show (l.length : Int) + 2 > _
     omega
  ·rw [List.take_of_length_le (by simp; omega)]
   exact ⟨[], by simp, by simp⟩
theorem ivL_ne (l : List Inc) (g : Int) (hg : 0 ≤ g ∧ g < 4) : 0 < (ivL l g).length := by
 obtain ⟨r, h1, _⟩ := ivL_pre l g hg 0
 rw [h1, List.take_zero, ivL_nil g hg]
 simp
theorem ivL_len {l : List Inc} (hl : goodI l) (g : Int) (hg : 0 ≤ g ∧ g < 4) : (ivL l g).length ≤ l.length + 1 := by
 obtain ⟨h0, h1, h2, h3⟩ := hsOf_okL hl
 unfold ivL ivOf
 obtain rfl | rfl | rfl | rfl : g = 0 ∨ g = 1 ∨ g = 2 ∨ g = 3 := by omega
 ·exact h0.2
 ·exact h1.2
 ·exact h2.2
 ·exact h3.2
end Go.Proofs.YthlpognahlnaaaaGreat

namespace Go.Proofs.YthlpognahlnaaaaGreat
open Pv Go Pk
set_option maxRecDepth 10000
set_option maxHeartbeats 4000000
/-- The intervals of which nobody was heard. -/
def lacksL (l : List Inc) (g : Int) (A : List Int) (st : Int) : List Itv := ((ivL l g).take ((ivL l g).length - 1)).filter (missB A st)
theorem hrh (P : Heap) (p : Nat) (l : List Inc) (q : Grb) (X L : Heap) : hr (hh P p l q X) L = hh P p l q (X ++ L) := hh_push _ _ _ _ _ _
theorem plain_fn {fe : AV} {A : List Int} {st : Int} (h : isEar fe A st) (X : Heap) (hX : plain X) : plain (.box (fnM fe) :: X) := fun n => by
 rw [List.all_cons, hX n]
 simp [ltO, fnM, lt, lts, isEar_lt h]
/-- How who was heard is handed over: a row, or nil. -/
def isHv (hv : AV) (A : List Int) : Prop := hv = .d (.sl (A.map fun x => .i .i64 x)) ∨ (hv = .nilS ∧ A = [])
theorem frz_hv {hv : AV} {A : List Int} (h : isHv hv A) (H : Heap) (o : Nat) (g st : Int) :
  frzL [false, false, true, false] H [.ptr o 0, .d (.i .u8 g), hv, .d (.i .u32 st)] = ([.ptr o 0, .d (.i .u8 g), .d (.sl (A.map fun x => .i .i64 x)), .d (.i .u32 st)], H) := by
 rcases h with rfl | ⟨rfl, rfl⟩ <;> rfl
section
variable {P : Heap} {p n : Nat} (hP : P.length = p) (hn : p + 12 = n) (hPp : plain P)
include hP hn hPp
theorem lacks_at {l : List Inc} (hl : goodI l) {q : Grb} (hq : q.pl) {X : Heap} (hX : plain X) {m : Nat} (hm : n + X.length = m) (g : Int) (hg : 0 ≤ g ∧ g < 4) {hv : AV} {A : List Int} (hhv : isHv hv A) (hA : A.length ≤ 1000) (st : Int) :
  ∃ r, evF C F_q07 [.ptr (p + 2) 0, .d (.i .u8 g), hv, .d (.i .u32 st)] (hh P p l q X) = some r ∧ ∃ Z fe, isEar fe A st ∧ (lacksL l g A st).length + Z.length = (ivL l g).length ∧
   r = (.view m (ivL l g).length 2 0 (lacksL l g A st).length, hr (hh P p l (q.frz g) X) [.arr ((lacksL l g A st ++ Z).map Itv.d) true, .box (fnM fe)]) := by
 have hI := hv_intervals hP hPp hl hq hX (n := m) (by omega) g hg
 rw [← hrh] at hI
 have hq' := Grb.frz_pl hq g
 generalize q.frz g = q' at *
 have hN := ivL_ne l g hg
 have hN2 := ivL_len hl g hg
 have hl59 := hl.1
 have hlen : (hh P p l q X).length = m := by rw [hh_len hP hn, hm]
 have hmG : (hh P p l q' X).length = m := by rw [hh_len hP hn, hm]
 have hG : ∀ k, (hh P p l q' X).all (ltO (m + k)) = true := fun k => by
  have := hh_all hP hn hPp l hq' hX (X.length + k)
  rwa [show n + (X.length + k) = m + k by omega] at this
 obtain ⟨w, hw⟩ : ∃ w, ivL l g = (ivL l g).take ((ivL l g).length - 1) ++ [w] := by
  refine ⟨(ivL l g)[(ivL l g).length - 1]'(by omega), ?_⟩
  have h := List.take_append_drop ((ivL l g).length - 1) (ivL l g)
  rw [List.drop_eq_getElem_cons (by omega), List.drop_eq_nil_of_le (by omega)] at h
  exact h.symm
 have hmem : ∀ x ∈ (ivL l g).take ((ivL l g).length - 1), x.acting.length ≤ 1000 := fun x hx => by have := ivL_mem hl g x (List.mem_of_mem_take hx); omega
 have hVl : ((ivL l g).take ((ivL l g).length - 1)).length = (ivL l g).length - 1 := by rw [List.length_take]; omega
 have g1 := hr_at hmG
 have g0 := hr_at0 hmG
 have s1 := hr_set hmG
 have s0 := hr_set0 hmG
 have ln := hr_len hmG
 have hw1 : IntKind.i64.wrap (((ivL l g).length : Int) - 1) = (((ivL l g).length - 1 : Nat) : Int) := by rw [wi64 (by omega)]; omega
 have hzl : ((((ivL l g).length : Nat) : Int) == 0) = false := by rw [beq_eq_false_iff_ne]; omega
 have hb0 : (0 ≤ (((ivL l g).length - 1 : Nat) : Int)) = True := eq_true (by omega)
 have hb1 : ((((ivL l g).length - 1 : Nat) : Int) ≤ (((ivL l g).length : Nat) : Int)) = True := eq_true (by omega)
 have mf : (m < m) = False := eq_false (Nat.lt_irrefl m)
 have ml : (m ≤ m + 1) = True := eq_true (by omega)
 have hEl : ((ivL l g).map Itv.d).length = (ivL l g).length := List.length_map _
 have fin : ∀ fe, isEar fe A st → (∀ D : AV × Heap, evF C F_q46 [.view m (ivL l g).length 2 0 ((ivL l g).length - 1), .fn F_q08 [] [.ptr (m + 1) 0]] (hr (hh P p l q' X) [.arr ((ivL l g).map Itv.d) true, .box (fnM fe)]) = some D →
   (∃ k E, D = (.view m (ivL l g).length 2 0 k, hr (hh P p l q' X) [.arr E true, .box (fnM fe)])) → evF C F_q07 [.ptr (p + 2) 0, .d (.i .u8 g), hv, .d (.i .u32 st)] (hh P p l q X) = some D) →
   ∃ r, evF C F_q07 [.ptr (p + 2) 0, .d (.i .u8 g), hv, .d (.i .u32 st)] (hh P p l q X) = some r ∧ ∃ Z fe, isEar fe A st ∧ (lacksL l g A st).length + Z.length = (ivL l g).length ∧
   r = (.view m (ivL l g).length 2 0 (lacksL l g A st).length, hr (hh P p l q' X) [.arr ((lacksL l g A st ++ Z).map Itv.d) true, .box (fnM fe)]) := by
  intro fe hfe h
  obtain ⟨r, hr, Z, hZ, rfl⟩ := delV_at hmG hG hA hfe ((ivL l g).take ((ivL l g).length - 1)) [w] (by omega) hmem
  rw [← hw, hVl] at hr
  rw [hVl] at hZ
  refine ⟨_, h _ hr ⟨_, _, rfl⟩, Z ++ [w], fe, hfe, ?_, rfl⟩
  show (lacksL l g A st).length + (Z ++ [w]).length = _
  rw [List.length_append]
  show _ + (_ + 1) = _
  unfold lacksL
  omega
 have hAe : ∀ A : List Int, (DV.agg [.sl (A.map fun x => .i .i64 x), .i .u32 st]) = .agg (earD A st) := fun _ => rfl
 have hz := frz_hv hhv (hh P p l q X) (p + 2) g st
 refine fin (.d (.agg (earD A st))) (.inl rfl) ?_
 rintro D hD ⟨k, E, rfl⟩
 rw [evF_codef (rfl : C F_q07 = some f_q07) _ _ _ _ hz rfl]
 simp only [fnM] at hD ⊢
 simp +decide only [c_q07, hI, hD, hlen, g1, g0, s1, s0, ln, hr_push, hw1, hzl, hb0, hb1, mf, ml, hEl, hAe, ite_self, Nat.le_refl, Nat.sub_zero, Int.toNat_natCast, Pk.EVL, Pk.EVD, ↓reduceIte, reduceCtorEq, Nat.reduceEqDiff, Nat.reduceAdd, Nat.reduceLeDiff, Nat.reduceBNe, Nat.reduceLT, Nat.reduceBEq, Nat.reduceSub, Nat.reduceMul, Int.reduceLT, Int.reduceLE, Int.reduceEq, Int.reduceToNat, Int.reduceNeg, Pk.TY_Itv]
omit hP hn hPp in
theorem plain_hv {hv : AV} {A : List Int} (h : isHv hv A) : plain [.box hv] := by
 rcases h with rfl | ⟨rfl, _⟩
 ·exact fun _ => rfl
 ·exact fun _ => rfl
omit hP hn hPp in
theorem silent_at {hv : AV} {A : List Int} (hhv : isHv hv A) (hA : A.length ≤ 1000) (x : Int) (H : Heap) (m : Nat) (hb : H[m]? = some (.box hv)) : evF C F_q06 [.d (.i .i64 x), .ptr m 0] H = some (.d (.b (!decide (x ∈ A))), H) := by
 have hc := contains_at A x hA
 rw [evF_code (rfl : C F_q06 = some a_q06) _ _ rfl]
 rcases hhv with rfl | ⟨rfl, rfl⟩
 ·simp +decide only [c_q06, hb, hc, ite_self, List.take_length, Pk.EVL, Pk.EVD, ↓reduceIte, reduceCtorEq, Nat.reduceEqDiff, Nat.reduceAdd, Nat.reduceLeDiff, Nat.reduceBNe, Nat.reduceLT, Nat.reduceBEq, Nat.reduceSub, Nat.reduceMul, Int.reduceLT, Int.reduceLE, Int.reduceEq, Int.reduceToNat, Int.reduceNeg]
 ·have hc : evF C F_q45 [.d (.sl []), .d (.i .i64 x)] [] = some (.d (.b (decide (x ∈ ([] : List Int)))), []) := hc
  simp +decide only [c_q06, hb, hc, ite_self, List.take_length, Pk.EVL, Pk.EVD, ↓reduceIte, reduceCtorEq, Nat.reduceEqDiff, Nat.reduceAdd, Nat.reduceLeDiff, Nat.reduceBNe, Nat.reduceLT, Nat.reduceBEq, Nat.reduceSub, Nat.reduceMul, Int.reduceLT, Int.reduceLE, Int.reduceEq, Int.reduceToNat, Int.reduceNeg]
omit hP hn hPp in
/-- slices.ContainsFunc over whole numbers, of a function that looks at a variable. -/
theorem cfuncP_at (F : FuncId) (m : Nat) (pr : Int → Bool) (B : List Int) (hB : B.length ≤ 1000) (H : Heap) (hcall : ∀ x ∈ B, evF C F [.d (.i .i64 x), .ptr m 0] H = some (.d (.b (pr x)), H)) :
  evF C F_q44 [.d (.sl (B.map fun x => .i .i64 x)), .fn F [] [.ptr m 0]] H = some (.d (.b (B.any pr)), H) := by
 have hidx : evF C F_q4c [.d (.sl (B.map fun x => .i .i64 x)), .fn F [] [.ptr m 0]] H = some (.d (.i .i64 (ixI pr B 0)), H) := by
  have hl : (B.map fun x : Int => DV.i .i64 x).length = B.length := List.length_map _
  rw [evF_code (rfl : C F_q4c = some a_q4c) _ _ rfl]
  simp +decide only [c_q4c, hl, thaws, Pk.EVL, Pk.EVD, ↓reduceIte, reduceCtorEq, Nat.reduceEqDiff, Nat.reduceAdd, Nat.reduceLeDiff, Nat.reduceBNe, Nat.reduceLT, Nat.reduceBEq, Nat.reduceSub, Nat.reduceMul, Int.reduceLT, Int.reduceLE, Int.reduceEq, Int.reduceToNat, Int.reduceNeg]
  simp only [Option.bind_assoc]
  refine bind_run (loop_run (fun i T G => lk T 0 = .d (.sl (B.map fun x => .i .i64 x)) ∧ lk T 1 = .fn F [] [.ptr m 0] ∧ lk T 7 = .d (.i .i64 (B.length : Nat)) ∧ lk T 8 = .d (.i .i64 (i : Nat)) ∧ G = H ∧ ixI pr (B.drop i) i = ixI pr B 0)
   (fun x T G => G = H ∧ ((x = .exit 0 ∧ ixI pr B 0 = -1) ∨ (x = .ret ∧ lk T 4 = .d (.i .i64 (ixI pr B 0))))) B.length ?_ ?_ B.length 0 _ _ (by omega) ⟨rfl, rfl, rfl, rfl, rfl, rfl⟩) ?_
  ·rintro i T G hi ⟨h0, h1, h7, h8, rfl, hni⟩
   obtain ⟨y, hy⟩ : ∃ y, B[i]? = some y := ⟨B[i]'hi, List.getElem?_eq_getElem _⟩
   have hyd := list_idx (fun x : Int => DV.i .i64 x) hy
   have hcl := hcall y (List.mem_of_getElem? hy)
   rw [ixI_drop hy] at hni
   have hd : decide ((i : Int) < ((B.length : Nat) : Int)) = true := by simp; omega
   have hw : IntKind.i64.wrap ((i : Int) + 1) = ((i + 1 : Nat) : Int) := wi64 (by omega)
   have b0 : (0 ≤ (i : Int)) = True := by simp
   cases c : pr y with
   | true =>
    rw [c] at hcl
    rw [if_pos c] at hni
    rw [← hni]
    simp +decide only [K_q4c_0, l_q4c_0, h0, h1, h7, h8, hyd, hcl, hd, hw, b0, ite_self, List.take_length, Nat.le_refl, Pk.EVL, Pk.EVD, ↓reduceIte, reduceCtorEq, Nat.reduceEqDiff, Nat.reduceAdd, Nat.reduceLeDiff, Nat.reduceBNe, Nat.reduceLT, Nat.reduceBEq, Nat.reduceSub, Nat.reduceMul, Int.reduceLT, Int.reduceLE, Int.reduceEq, Int.reduceToNat, Int.reduceNeg]
    exact ⟨_, _, _, rfl, .inr ⟨by simp, rfl, rfl, rfl⟩⟩
   | false =>
    rw [c] at hcl
    rw [if_neg (by simp [c])] at hni
    simp +decide only [K_q4c_0, l_q4c_0, h0, h1, h7, h8, hyd, hcl, hd, hw, b0, ite_self, List.take_length, Nat.le_refl, Pk.EVL, Pk.EVD, ↓reduceIte, reduceCtorEq, Nat.reduceEqDiff, Nat.reduceAdd, Nat.reduceLeDiff, Nat.reduceBNe, Nat.reduceLT, Nat.reduceBEq, Nat.reduceSub, Nat.reduceMul, Int.reduceLT, Int.reduceLE, Int.reduceEq, Int.reduceToNat, Int.reduceNeg]
    exact ⟨_, _, _, rfl, .inl ⟨rfl, rfl, rfl, rfl, rfl, rfl, hni⟩⟩
  ·rintro T G ⟨h0, h1, h7, h8, rfl, hni⟩
   rw [List.drop_length] at hni
   have hd : decide (((B.length : Nat) : Int) < ((B.length : Nat) : Int)) = false := by simp
   simp +decide only [K_q4c_0, l_q4c_0, h0, h1, h7, h8, hd, ite_self, List.take_length, Pk.EVL, Pk.EVD, ↓reduceIte, reduceCtorEq, Nat.reduceEqDiff, Nat.reduceAdd, Nat.reduceLeDiff, Nat.reduceBNe, Nat.reduceLT, Nat.reduceBEq, Nat.reduceSub, Nat.reduceMul, Int.reduceLT, Int.reduceLE, Int.reduceEq, Int.reduceToNat, Int.reduceNeg]
   exact ⟨_, _, _, rfl, by simp, rfl, .inl ⟨rfl, hni.symm⟩⟩
  rintro x T G ⟨rfl, ⟨rfl, h⟩ | ⟨rfl, h4⟩⟩
  ·simp +decide only [h, ite_self, List.take_length, Pk.EVL, Pk.EVD, ↓reduceIte, reduceCtorEq, Nat.reduceEqDiff, Nat.reduceAdd, Nat.reduceLeDiff, Nat.reduceBNe, Nat.reduceLT, Nat.reduceBEq, Nat.reduceSub, Nat.reduceMul, Int.reduceLT, Int.reduceLE, Int.reduceEq, Int.reduceToNat, Int.reduceNeg]
  ·simp +decide only [h4, ite_self, List.take_length, Pk.EVL, Pk.EVD, ↓reduceIte, reduceCtorEq, Nat.reduceEqDiff, Nat.reduceAdd, Nat.reduceLeDiff, Nat.reduceBNe, Nat.reduceLT, Nat.reduceBEq, Nat.reduceSub, Nat.reduceMul, Int.reduceLT, Int.reduceLE, Int.reduceEq, Int.reduceToNat, Int.reduceNeg]
 have hj := ixI_any pr B 0
 rw [evF_code (rfl : C F_q44 = some a_q44) _ _ rfl]
 simp +decide only [c_q44, hidx, hj, ite_self, List.take_length, Nat.le_refl, Pk.EVL, Pk.EVD, ↓reduceIte, reduceCtorEq, Nat.reduceEqDiff, Nat.reduceAdd, Nat.reduceLeDiff, Nat.reduceBNe, Nat.reduceLT, Nat.reduceBEq, Nat.reduceSub, Nat.reduceMul, Int.reduceLT, Int.reduceLE, Int.reduceEq, Int.reduceToNat, Int.reduceNeg]
def enoughB (l : List Inc) (g : Int) (A : List Int) (st : Int) : Bool := decide ((lacksL l g A st).length = 0) && !((lastI (ivL l g)).acting.any fun x => !decide (x ∈ A))
theorem enough_at {l : List Inc} (hl : goodI l) {q : Grb} (hq : q.pl) {X : Heap} (hX : plain X) {m : Nat} (hm : n + X.length = m) (g : Int) (hg : 0 ≤ g ∧ g < 4) {hv : AV} {A : List Int} (hhv : isHv hv A) (hA : A.length ≤ 1000) (st : Int) :
  evF C F_q05 [.ptr (p + 2) 0, .d (.i .u8 g), hv, .d (.i .u32 st)] (hh P p l q X) = some (.d (.b (enoughB l g A st)), hh P p l (q.frz g) X) := by
 have hz := frz_hv hhv (hh P p l q X) (p + 2) g st
 rw [evF_codef (rfl : C F_q05 = some f_q05) _ _ _ _ hz rfl]
 clear hz hhv
 obtain ⟨hv, hve⟩ : ∃ hv, hv = AV.d (.sl (A.map fun x => .i .i64 x)) := ⟨_, rfl⟩
 have hhv : isHv hv A := .inl hve
 rw [← hve]
 have hX1 : plain (X ++ [.box hv]) := by rw [plain_app]; exact ⟨hX, plain_hv hhv⟩
 obtain ⟨r, hr, Z, fe, hfe, hZ, rfl⟩ := lacks_at hP hn hPp hl hq hX1 (m := m + 1) (by rw [List.length_append]; simp; omega) g hg hhv hA st
 have hq' := Grb.frz_pl hq g
 generalize q.frz g = q' at *
 rw [hrh] at hr
 have hX2 : plain (X ++ [.box hv] ++ [.arr ((lacksL l g A st ++ Z).map Itv.d) true, .box (fnM fe)]) := by
  rw [plain_app]
  refine ⟨hX1, ?_⟩
  rw [plain_arr]
  exact plain_fn hfe [] (fun _ => rfl)
 have AC := h_acting hP hPp hl hq' hX2 g hg.1
 have hlen : (hh P p l q X).length = m := by rw [hh_len hP hn, hm]
 have hx0 : (hh P p l q X ++ [.box hv])[m]? = some (.box hv) := by rw [List.getElem?_append_right (by omega), hlen, Nat.sub_self]; rfl
 have hx1 : (hh P p l q' (X ++ [.box hv] ++ [.arr ((lacksL l g A st ++ Z).map Itv.d) true, .box (fnM fe)]))[m]? = some (.box hv) := by
  rw [← hh_push, ← hh_push, List.append_assoc, List.getElem?_append_right (by rw [hh_len hP hn]; omega), hh_len hP hn, hm, Nat.sub_self]
  rfl
 have hlen2 : (hh P p l q' (X ++ [.box hv] ++ [.arr ((lacksL l g A st ++ Z).map Itv.d) true, .box (fnM fe)])).length = m + 3 := by
  rw [hh_len hP hn]; simp only [List.length_append, List.length_cons, List.length_nil]; omega
 have htk : List.take m (hh P p l q' (X ++ [.box hv] ++ [.arr ((lacksL l g A st ++ Z).map Itv.d) true, .box (fnM fe)])) = hh P p l q' X := by
  rw [← hm, hh_take hP hn, List.append_assoc, List.take_left' rfl]
 have hall : (hh P p l q' X).all (ltO m) = true := by have := hh_all hP hn hPp l hq' hX X.length; rwa [hm] at this
 have hlast := lastI_len hl g
 have CF := cfuncP_at F_q06 m (fun x => !decide (x ∈ A)) (lastI (ivL l g)).acting (by omega) _ (fun x _ => silent_at hhv hA x _ m hx1)
 have hpush : hh P p l q X ++ [.box hv] = hh P p l q (X ++ [.box hv]) := hh_push _ _ _ _ _ _
 rw [hpush] at hx0
 have hlen1 : (hh P p l q (X ++ [.box hv])).length = m + 1 := by rw [hh_len hP hn]; simp only [List.length_append, List.length_cons, List.length_nil]; omega
 have ml : (m + 1 ≤ m + 3) = True := eq_true (by omega)
 unfold enoughB
 generalize hh P p l q' (X ++ [.box hv] ++ [.arr ((lacksL l g A st ++ Z).map Itv.d) true, .box (fnM fe)]) = G2 at *
 generalize (lastI (ivL l g)).acting = ac at *
 by_cases c : (lacksL l g A st).length = 0
 ·have hz : ((((lacksL l g A st).length : Nat) : Int) == 0) = true := by simp [c]
  have hz' := decide_eq_true c
  subst hve
  simp +decide only [c_q05, hpush, hlen, hlen1, hlen2, hx0, hx1, hr, AC, CF, htk, hall, hz, hz', ml, ite_self, List.take_length, Nat.le_refl, Pk.EVL, Pk.EVD, ↓reduceIte, reduceCtorEq, Nat.reduceEqDiff, Nat.reduceAdd, Nat.reduceLeDiff, Nat.reduceBNe, Nat.reduceLT, Nat.reduceBEq, Nat.reduceSub, Nat.reduceMul, Int.reduceLT, Int.reduceLE, Int.reduceEq, Int.reduceToNat, Int.reduceNeg]
 ·have hz : ((((lacksL l g A st).length : Nat) : Int) == 0) = false := by rw [beq_eq_false_iff_ne]; omega
  have hz' := decide_eq_false c
  subst hve
  simp +decide only [c_q05, hpush, hlen, hlen1, hlen2, hx0, hx1, hr, AC, CF, htk, hall, hz, hz', ml, ite_self, List.take_length, Nat.le_refl, guardR_und, Pk.EVL, Pk.EVD, ↓reduceIte, reduceCtorEq, Nat.reduceEqDiff, Nat.reduceAdd, Nat.reduceLeDiff, Nat.reduceBNe, Nat.reduceLT, Nat.reduceBEq, Nat.reduceSub, Nat.reduceMul, Int.reduceLT, Int.reduceLE, Int.reduceEq, Int.reduceToNat, Int.reduceNeg]
end
end Go.Proofs.YthlpognahlnaaaaGreat

/- Functions of a history, with objects behind it that may hold references. / choose.Lacks, choose.Enough, choose.Serves, with objects behind the history that may hold references. -/
import Derived.Test.YtmiionadkdfbdaaHsN
import Derived.Test.YtmiionadkdfbdaaChC
set_option linter.all false
namespace Go.Proofs.Ytmiionadkdfbdaa
open Pv Go Pk
set_option maxRecDepth 10000
set_option maxHeartbeats 4000000
/-- A history behind P, S behind it, Y behind that. -/
def hz (P S : Heap) (p : Nat) (l : List Inc) (q : Grb) (Y : Heap) : Heap := hq P (hobs p (hsOf l) q) (S ++ Y)
theorem hz_push (P S : Heap) (p : Nat) (l : List Inc) (q : Grb) (Y Z : Heap) : hz P S p l q Y ++ Z = hz P S p l q (Y ++ Z) := by simp [hz, hq]
section
variable {P S : Heap} {p n : Nat} (hP : P.length = p) (hn : p + 12 + S.length = n)
include hP hn in
theorem hz_len (l : List Inc) (q : Grb) (Y : Heap) : (hz P S p l q Y).length = n + Y.length := by
  unfold hz hq
  rw [List.length_append, List.length_append, hobs_len, List.length_append]
  omega
include hP hn in
theorem hz_at (l : List Inc) (q : Grb) (Y : Heap) (j : Nat) : (hz P S p l q Y)[n + j]? = Y[j]? := by
  unfold hz
  rw [show n + j = p + (12 + (S.length + j)) by omega, hq_at hP, List.getElem?_append_right (by rw [hobs_len]; omega), hobs_len, List.getElem?_append_right (by omega)]
  congr 1
  omega
include hP hn in
theorem hz_at0 (l : List Inc) (q : Grb) (Y : Heap) : (hz P S p l q Y)[n]? = Y[0]? := hz_at hP hn l q Y 0
include hP hn in
theorem hz_set (l : List Inc) (q : Grb) (Y : Heap) (j : Nat) (y : Ob) : (hz P S p l q Y).set (n + j) y = hz P S p l q (Y.set j y) := by
  unfold hz hq
  rw [List.set_append_right _ _ (by omega), List.set_append_right _ _ (by rw [hobs_len]; omega), hobs_len, List.set_append_right _ _ (by omega)]
  congr 4
  omega
include hP hn in
theorem hz_set0 (l : List Inc) (q : Grb) (Y : Heap) (y : Ob) : (hz P S p l q Y).set n y = hz P S p l q (Y.set 0 y) := hz_set hP hn l q Y 0 y
include hP hn in
theorem hz_take (l : List Inc) (q : Grb) (Y : Heap) (j : Nat) : List.take (n + j) (hz P S p l q Y) = hz P S p l q (Y.take j) := by
  unfold hz hq
  rw [List.take_append, List.take_of_length_le (by omega), List.take_append, List.take_of_length_le (by rw [hobs_len]; omega), hobs_len, List.take_append, List.take_of_length_le (by omega)]
  congr 4
  omega
include hP hn in
theorem hz_take0 (l : List Inc) (q : Grb) (Y : Heap) : List.take n (hz P S p l q Y) = hz P S p l q [] := by
  have := hz_take hP hn l q Y 0
  simpa using this
include hP hn in
theorem hobs_ltZ (s : Hst) {q : Grb} (hq : q.pl) (k : Nat) : (hobs p s q).all (ltO (n + k)) = true := by
  obtain ⟨k0, k1, k2, k3, k4⟩ := hq (n + k)
  unfold hobs hbox
  simp only [List.all_cons, List.all_nil, k0, k1, k2, k3, k4, Bool.true_and, Bool.and_true]
  simp [ltO, lt, lts]
  omega
variable (hPp : plain P) (hS : ∀ k, S.all (ltO (n + k)) = true)
include hP hn hPp hS in
theorem hz_all (l : List Inc) {q : Grb} (hq : q.pl) {Y : Heap} (hY : plain Y) (k : Nat) : (hz P S p l q Y).all (ltO (n + k)) = true := by
  unfold hz Go.Proofs.Ytmiionadkdfbdaa.hq
  rw [List.all_append, List.all_append, hPp, hobs_ltZ hP hn _ hq, List.all_append, hS, hY]
  rfl
include hP hn hPp hS in
theorem hz_all0 (l : List Inc) {q : Grb} (hq : q.pl) {Y : Heap} (hY : plain Y) : (hz P S p l q Y).all (ltO n) = true := hz_all hP hn hPp hS l hq hY 0
include hn in
theorem z_n (X : Heap) : p + 12 + (S ++ X).length = n + X.length := by rw [List.length_append]; omega
include hS in
theorem z_S {X : Heap} (hX : plain X) : (S ++ X).all (ltO (n + X.length)) = true := by rw [List.all_append, hS, hX]; rfl
include hP hn hPp hS in
theorem z_last {l : List Inc} {q : Grb} (hq : q.pl) {X : Heap} (hX : plain X) : evF C F_history_History_Last [.ptr (p + 2) 0] (hz P S p l q X) = some (.d (.i .u32 ((l.length : Int) + 1)), hz P S p l q X) := by
  have := hlast_at hP (S := S ++ X) (z_n hn X) (hPp _) (z_S hS hX) (hq _) (hsOf l)
  rwa [hsOf_last] at this
include hP hn hPp hS in
theorem z_add {l : List Inc} (hl : goodI l) {q : Grb} (hq : q.pl) {X : Heap} (hX : plain X) (e : Int) (he : 0 ≤ e ∧ e < 4294967296) (x : Inc) (hx : x.ok) : evF C F_history_History_Add [.ptr (p + 2) 0, .d (.i .u32 e), .d (.agg x.cs)] (hz P S p l q X) =
    some (.d (.i .i64 (addL l e x).2), hz P S p (addL l e x).1 q X) := hadd_at hP (S := S ++ X) (z_n hn X) (hPp _) (z_S hS hX) (hq _) l hl e he x hx
include hP hn hPp hS in
theorem z_acting {l : List Inc} (hl : goodI l) {q : Grb} (hq : q.pl) {X : Heap} (hX : plain X) (g : Int) (h0 : 0 ≤ g) : evF C F_history_History_Acting [.ptr (p + 2) 0, .d (.i .u8 g)] (hz P S p l q X) = some (.d (.sl ((lastI (ivL l g)).acting.map fun x => .i .i64 x)), hz P S p l q X) :=
  hacting_at hP (S := S ++ X) (z_n hn X) (hPp _) (z_S hS hX) (hq _) (hsOf l) (hsOf_ok hl) g h0 (by have := lastI_len hl g; exact Nat.le_trans this (by omega))
include hP hn hPp hS in
theorem zv_intervals {l : List Inc} (hl : goodI l) {q : Grb} (hq : q.pl) {X : Heap} (hX : plain X) {m : Nat} (hn2 : n + X.length = m) (g : Int) (h0 : 0 ≤ g ∧ g < 4) : evF C F_history_History_Intervals [.ptr (p + 2) 0, .d (.i .u8 g)] (hz P S p l q X) = some (.view m (ivL l g).length 2 0 (ivL l g).length, hz P S p l (q.frz g) (X ++ [.arr ((ivL l g).map Itv.d) true])) := by
  have := vintervals_at hP (S := S ++ X) (n := m) (by rw [← hn2]; exact z_n hn X) (hPp _) (by rw [← hn2]; exact z_S hS hX) (hq _) (hsOf l) (hsOf_ok hl) g h0
  rw [List.append_assoc] at this
  exact this
end
end Go.Proofs.Ytmiionadkdfbdaa

namespace Go.Proofs.Ytmiionadkdfbdaa
open Pv Go Pk
set_option maxRecDepth 10000
set_option maxHeartbeats 4000000
theorem hrz (P S : Heap) (p : Nat) (l : List Inc) (q : Grb) (X L : Heap) : hr (hz P S p l q X) L = hz P S p l q (X ++ L) := hz_push _ _ _ _ _ _ _
section
variable {P S : Heap} {p n : Nat} (hP : P.length = p) (hn : p + 12 + S.length = n) (hPp : plain P) (hS : ∀ k, S.all (ltO (n + k)) = true)
include hP hn hPp hS
theorem zlacks_at {l : List Inc} (hl : goodI l) {q : Grb} (hq : q.pl) {X : Heap} (hX : plain X) {m : Nat} (hm : n + X.length = m) (g : Int) (hg : 0 ≤ g ∧ g < 4) {hv : AV} {A : List Int} (hhv : isHv hv A) (hA : A.length ≤ 1000) (st : Int) :
    ∃ r, evF C F_choose_Lacks [.ptr (p + 2) 0, .d (.i .u8 g), hv, .d (.i .u32 st)] (hz P S p l q X) = some r ∧ ∃ Z fe, isEar fe A st ∧ (lacksL l g A st).length + Z.length = (ivL l g).length ∧
      r = (.view m (ivL l g).length 2 0 (lacksL l g A st).length, hr (hz P S p l (q.frz g) X) [.arr ((lacksL l g A st ++ Z).map Itv.d) true, .box (fnM fe)]) := by
  have hI := zv_intervals hP hn hPp hS hl hq hX hm g hg
  rw [← hrz] at hI
  have hq' := Grb.frz_pl hq g
  generalize q.frz g = q' at *
  have hN := ivL_ne l g hg
  have hN2 := ivL_len hl g hg
  have hl59 := hl.1
  have hlen : (hz P S p l q X).length = m := by rw [hz_len hP hn, hm]
  have hmG : (hz P S p l q' X).length = m := by rw [hz_len hP hn, hm]
  have hG : ∀ k, (hz P S p l q' X).all (ltO (m + k)) = true := fun k => by
    have := hz_all hP hn hPp hS l hq' hX (X.length + k)
    rwa [show n + (X.length + k) = m + k by omega] at this
  obtain ⟨w, hw⟩ : ∃ w, ivL l g = (ivL l g).take ((ivL l g).length - 1) ++ [w] := by
    refine ⟨(ivL l g)[(ivL l g).length - 1]'(by omega), ?_⟩
    have h := List.take_append_drop ((ivL l g).length - 1) (ivL l g)
    rw [List.drop_eq_getElem_cons (by omega), List.drop_eq_nil_of_le (by omega)] at h
    exact h.symm
  have hmem : ∀ x ∈ (ivL l g).take ((ivL l g).length - 1), x.acting.length ≤ 1000 := fun x hx => by have := ivL_mem hl g x (List.mem_of_mem_take hx); omega
  have hVl : ((ivL l g).take ((ivL l g).length - 1)).length = (ivL l g).length - 1 := by rw [List.length_take]; omega
  have g1 := hr_at hmG
  have g0 := hr_at0 hmG
  have s1 := hr_set hmG
  have s0 := hr_set0 hmG
  have ln := hr_len hmG
  have hw1 : IntKind.i64.wrap (((ivL l g).length : Int) - 1) = (((ivL l g).length - 1 : Nat) : Int) := by rw [wi64 (by omega)]; omega
  have hzl : ((((ivL l g).length : Nat) : Int) == 0) = false := by rw [beq_eq_false_iff_ne]; omega
  have hb0 : (0 ≤ (((ivL l g).length - 1 : Nat) : Int)) = True := eq_true (by omega)
  have hb1 : ((((ivL l g).length - 1 : Nat) : Int) ≤ (((ivL l g).length : Nat) : Int)) = True := eq_true (by omega)
  have mf : (m < m) = False := eq_false (Nat.lt_irrefl m)
  have ml : (m ≤ m + 1) = True := eq_true (by omega)
  have hEl : ((ivL l g).map Itv.d).length = (ivL l g).length := List.length_map _
  have fin : ∀ fe, isEar fe A st → (∀ D : AV × Heap, evF C F_slices_DeleteFunc_sapi_Interval_api_Interval [.view m (ivL l g).length 2 0 ((ivL l g).length - 1), .fn F_choose_Lacks_1 [] [.ptr (m + 1) 0]] (hr (hz P S p l q' X) [.arr ((ivL l g).map Itv.d) true, .box (fnM fe)]) = some D →
      (∃ k E, D = (.view m (ivL l g).length 2 0 k, hr (hz P S p l q' X) [.arr E true, .box (fnM fe)])) → evF C F_choose_Lacks [.ptr (p + 2) 0, .d (.i .u8 g), hv, .d (.i .u32 st)] (hz P S p l q X) = some D) →
      ∃ r, evF C F_choose_Lacks [.ptr (p + 2) 0, .d (.i .u8 g), hv, .d (.i .u32 st)] (hz P S p l q X) = some r ∧ ∃ Z fe, isEar fe A st ∧ (lacksL l g A st).length + Z.length = (ivL l g).length ∧
      r = (.view m (ivL l g).length 2 0 (lacksL l g A st).length, hr (hz P S p l q' X) [.arr ((lacksL l g A st ++ Z).map Itv.d) true, .box (fnM fe)]) := by
    intro fe hfe h
    obtain ⟨r, hr, Z, hZ, rfl⟩ := delV_at hmG hG hA hfe ((ivL l g).take ((ivL l g).length - 1)) [w] (by omega) hmem
    rw [← hw, hVl] at hr
    rw [hVl] at hZ
    refine ⟨_, h _ hr ⟨_, _, rfl⟩, Z ++ [w], fe, hfe, ?_, rfl⟩
    show (lacksL l g A st).length + (Z ++ [w]).length = _
    rw [List.length_append]
    show _ + (_ + 1) = _
    unfold lacksL
    omega
  have hAe : ∀ A : List Int, (DV.agg [.sl (A.map fun x => .i .i64 x), .i .u32 st]) = .agg (earD A st) := fun _ => rfl
  have hz := frz_hv hhv (hz P S p l q X) (p + 2) g st
  refine fin (.d (.agg (earD A st))) (.inl rfl) ?_
  rintro D hD ⟨k, E, rfl⟩
  rw [evF_codef (rfl : C F_choose_Lacks = some f_choose_Lacks) _ _ _ _ hz rfl]
  simp only [fnM] at hD ⊢
  simp (config := {decide := true}) only [c_choose_Lacks, hI, hD, hlen, g1, g0, s1, s0, ln, hr_push, hw1, hzl, hb0, hb1, mf, ml, hEl, hAe, ite_self, Nat.le_refl, Nat.sub_zero, Int.toNat_natCast, Pk.EVL, keepT, enum, ↓reduceIte, ev, act, appT, appW, callee, toDs, toD, loadA, storeA, subA, subD, updA, Eff.on, resA, resVs, resV, lk, finish, frzR, frzVs, frzV, fznR, fzns, fzn, lts, lt, ltO, List.all, pairsOk, indep, reduceCtorEq, Nat.reduceEqDiff, Nat.reduceAdd, Nat.reduceLeDiff, stb, thaws, List.drop, intOfA, binD, binI, unD, mmL, buildA, mkAgg, allD, bslD, behind, behind0, takeAt, frzAs, frzA, adoptR, adopt, isD, isD0, trim, List.take, binS, sliceA, bnd, zOk, elems, Nat.reduceBNe, inpl, Nat.reduceLT, Nat.reduceBEq, Nat.reduceSub, Nat.reduceMul, Int.reduceLT, Int.reduceLE, Int.reduceEq, Int.reduceToNat, Int.reduceNeg, thaw, nodup, refsV, adopts, sameH_self, Pk.TY_Itv]
theorem zenough_at {l : List Inc} (hl : goodI l) {q : Grb} (hq : q.pl) {X : Heap} (hX : plain X) {m : Nat} (hm : n + X.length = m) (g : Int) (hg : 0 ≤ g ∧ g < 4) {hv : AV} {A : List Int} (hhv : isHv hv A) (hA : A.length ≤ 1000) (st : Int) :
    evF C F_choose_Enough [.ptr (p + 2) 0, .d (.i .u8 g), hv, .d (.i .u32 st)] (hz P S p l q X) = some (.d (.b (enoughB l g A st)), hz P S p l (q.frz g) X) := by
  have hz := frz_hv hhv (hz P S p l q X) (p + 2) g st
  rw [evF_codef (rfl : C F_choose_Enough = some f_choose_Enough) _ _ _ _ hz rfl]
  clear hz hhv
  obtain ⟨hv, hve⟩ : ∃ hv, hv = AV.d (.sl (A.map fun x => .i .i64 x)) := ⟨_, rfl⟩
  have hhv : isHv hv A := .inl hve
  rw [← hve]
  have hX1 : plain (X ++ [.box hv]) := by rw [plain_app]; exact ⟨hX, plain_hv hhv⟩
  obtain ⟨r, hr, Z, fe, hfe, hZ, rfl⟩ := zlacks_at hP hn hPp hS hl hq hX1 (m := m + 1) (by rw [List.length_append]; simp; omega) g hg hhv hA st
  have hq' := Grb.frz_pl hq g
  generalize q.frz g = q' at *
  rw [hrz] at hr
  have hX2 : plain (X ++ [.box hv] ++ [.arr ((lacksL l g A st ++ Z).map Itv.d) true, .box (fnM fe)]) := by
    rw [plain_app]
    refine ⟨hX1, ?_⟩
    rw [plain_arr]
    exact plain_fn hfe [] (fun _ => rfl)
  have AC := z_acting hP hn hPp hS hl hq' hX2 g hg.1
  have hlen : (hz P S p l q X).length = m := by rw [hz_len hP hn, hm]
  have hx0 : (hz P S p l q X ++ [.box hv])[m]? = some (.box hv) := by rw [List.getElem?_append_right (by omega), hlen, Nat.sub_self]; rfl
  have hx1 : (hz P S p l q' (X ++ [.box hv] ++ [.arr ((lacksL l g A st ++ Z).map Itv.d) true, .box (fnM fe)]))[m]? = some (.box hv) := by
    rw [← hz_push, ← hz_push, List.append_assoc, List.getElem?_append_right (by rw [hz_len hP hn]; omega), hz_len hP hn, hm, Nat.sub_self]
    rfl
  have hlen2 : (hz P S p l q' (X ++ [.box hv] ++ [.arr ((lacksL l g A st ++ Z).map Itv.d) true, .box (fnM fe)])).length = m + 3 := by
    rw [hz_len hP hn]; simp only [List.length_append, List.length_cons, List.length_nil]; omega
  have htk : List.take m (hz P S p l q' (X ++ [.box hv] ++ [.arr ((lacksL l g A st ++ Z).map Itv.d) true, .box (fnM fe)])) = hz P S p l q' X := by
    rw [← hm, hz_take hP hn, List.append_assoc, List.take_left' rfl]
  have hall : (hz P S p l q' X).all (ltO m) = true := by have := hz_all hP hn hPp hS l hq' hX X.length; rwa [hm] at this
  have hlast := lastI_len hl g
  have CF := cfuncP_at F_choose_Enough_1 m (fun x => !decide (x ∈ A)) (lastI (ivL l g)).acting (by omega) _ (fun x _ => silent_at hhv hA x _ m hx1)
  have hpush : hz P S p l q X ++ [.box hv] = hz P S p l q (X ++ [.box hv]) := hz_push _ _ _ _ _ _ _
  rw [hpush] at hx0
  have hlen1 : (hz P S p l q (X ++ [.box hv])).length = m + 1 := by rw [hz_len hP hn]; simp only [List.length_append, List.length_cons, List.length_nil]; omega
  have ml : (m + 1 ≤ m + 3) = True := eq_true (by omega)
  unfold enoughB
  generalize hz P S p l q' (X ++ [.box hv] ++ [.arr ((lacksL l g A st ++ Z).map Itv.d) true, .box (fnM fe)]) = G2 at *
  generalize (lastI (ivL l g)).acting = ac at *
  by_cases c : (lacksL l g A st).length = 0
  · have hz : ((((lacksL l g A st).length : Nat) : Int) == 0) = true := by simp [c]
    have hz' := decide_eq_true c
    subst hve
    simp (config := {decide := true}) only [c_choose_Enough, hpush, hlen, hlen1, hlen2, hx0, hx1, hr, AC, CF, htk, hall, hz, hz', ml, ite_self, List.take_length, Nat.le_refl, Pk.EVL, keepT, enum, ↓reduceIte, ev, act, appT, appW, callee, toDs, toD, loadA, storeA, subA, subD, updA, Eff.on, resA, resVs, resV, lk, finish, frzR, frzVs, frzV, fznR, fzns, fzn, lts, lt, ltO, List.all, pairsOk, indep, reduceCtorEq, Nat.reduceEqDiff, Nat.reduceAdd, Nat.reduceLeDiff, stb, thaws, List.drop, intOfA, binD, binI, unD, mmL, buildA, mkAgg, allD, bslD, behind, behind0, takeAt, frzAs, frzA, adoptR, adopt, isD, isD0, trim, List.take, binS, sliceA, bnd, zOk, elems, Nat.reduceBNe, inpl, Nat.reduceLT, Nat.reduceBEq, Nat.reduceSub, Nat.reduceMul, Int.reduceLT, Int.reduceLE, Int.reduceEq, Int.reduceToNat, Int.reduceNeg, thaw, nodup, refsV, adopts, sameH_self]
  · have hz : ((((lacksL l g A st).length : Nat) : Int) == 0) = false := by rw [beq_eq_false_iff_ne]; omega
    have hz' := decide_eq_false c
    subst hve
    simp (config := {decide := true}) only [c_choose_Enough, hpush, hlen, hlen1, hlen2, hx0, hx1, hr, AC, CF, htk, hall, hz, hz', ml, ite_self, List.take_length, Nat.le_refl, guardR_und, Pk.EVL, keepT, enum, ↓reduceIte, ev, act, appT, appW, callee, toDs, toD, loadA, storeA, subA, subD, updA, Eff.on, resA, resVs, resV, lk, finish, frzR, frzVs, frzV, fznR, fzns, fzn, lts, lt, ltO, List.all, pairsOk, indep, reduceCtorEq, Nat.reduceEqDiff, Nat.reduceAdd, Nat.reduceLeDiff, stb, thaws, List.drop, intOfA, binD, binI, unD, mmL, buildA, mkAgg, allD, bslD, behind, behind0, takeAt, frzAs, frzA, adoptR, adopt, isD, isD0, trim, List.take, binS, sliceA, bnd, zOk, elems, Nat.reduceBNe, inpl, Nat.reduceLT, Nat.reduceBEq, Nat.reduceSub, Nat.reduceMul, Int.reduceLT, Int.reduceLE, Int.reduceEq, Int.reduceToNat, Int.reduceNeg, thaw, nodup, refsV, adopts, sameH_self]
end
end Go.Proofs.Ytmiionadkdfbdaa

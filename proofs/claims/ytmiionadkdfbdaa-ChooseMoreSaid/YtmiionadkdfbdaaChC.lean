/- choose.Lacks, choose.Enough, choose.Serves. -/
import Derived.Test.YtmiionadkdfbdaaChB
import Derived.Test.YtmiionadkdfbdaaHsN
set_option linter.all false
namespace Go.Proofs.Ytmiionadkdfbdaa
open Pv Go Pk
set_option maxRecDepth 10000
set_option maxHeartbeats 4000000
/-- The intervals of which nobody was heard. -/
def lacksL (l : List Inc) (g : Int) (A : List Int) (st : Int) : List Itv := ((ivL l g).take ((ivL l g).length - 1)).filter (missB A st)
theorem hrh (P : Heap) (p : Nat) (l : List Inc) (q : Grb) (X L : Heap) : hr (hh P p l q X) L = hh P p l q (X ++ L) := hh_push _ _ _ _ _ _
theorem plain_fn {fe : AV} {A : List Int} {st : Int} (h : isEar fe A st) (X : Heap) (hX : plain X) : plain (.box (fnM fe) :: X) := fun n => by
  rw [List.all_cons, hX n]
  simp [ltO, fnM, lt, lts, isEar_lt h]
/-- How who was heard is handed over: a row, or nil. -/
def isHv (hv : AV) (A : List Int) : Prop := hv = .d (.sl (A.map fun x => .i .i64 x)) ∨ (hv = .nilS ∧ A = [])
theorem frz_hv {hv : AV} {A : List Int} (h : isHv hv A) (H : Heap) (o : Nat) (g st : Int) :
    frzL [false, false, true, false] H [.ptr o 0, .d (.i .u8 g), hv, .d (.i .u32 st)] = ([.ptr o 0, .d (.i .u8 g), .d (.sl (A.map fun x => .i .i64 x)), .d (.i .u32 st)], H) := by
  rcases h with rfl | ⟨rfl, rfl⟩ <;> rfl
/-- Who was heard, handed over as an array that is written no more. -/
theorem frz_view (o j k : Nat) (es : List DV) (wr : Bool) (H : Heap) (g st : Int) (hj : H[j]? = some (.arr es wr)) (hk : es.length = k) :
    frzL [false, false, true, false] H [.ptr o 0, .d (.i .u8 g), .view j k 1 0 k, .d (.i .u32 st)] = ([.ptr o 0, .d (.i .u8 g), .d (.sl es), .d (.i .u32 st)], H.set j (.arr es false)) := by
  have : subL es 0 k = es := by unfold subL; rw [List.drop_zero]; exact List.take_of_length_le (by omega)
  simp [frzL, frzV, toD, hj, hk, this]
theorem lacks_view (o j k : Nat) (A : List Int) (wr : Bool) (H : Heap) (g st : Int) (hj : H[j]? = some (.arr (A.map fun x => .i .i64 x) wr)) (hk : A.length = k) :
    evF C F_choose_Lacks [.ptr o 0, .d (.i .u8 g), .view j k 1 0 k, .d (.i .u32 st)] H = evF C F_choose_Lacks [.ptr o 0, .d (.i .u8 g), .d (.sl (A.map fun x => .i .i64 x)), .d (.i .u32 st)] (H.set j (.arr (A.map fun x => .i .i64 x) false)) := by
  rw [evF_codef (rfl : C F_choose_Lacks = some f_choose_Lacks) _ _ _ _ (frz_view o j k _ wr H g st hj (by rw [List.length_map]; exact hk)) rfl, evF_codef (rfl : C F_choose_Lacks = some f_choose_Lacks) _ _ _ _ (frz_hv (.inl rfl) _ o g st) rfl]
theorem enough_view (o j k : Nat) (A : List Int) (wr : Bool) (H : Heap) (g st : Int) (hj : H[j]? = some (.arr (A.map fun x => .i .i64 x) wr)) (hk : A.length = k) :
    evF C F_choose_Enough [.ptr o 0, .d (.i .u8 g), .view j k 1 0 k, .d (.i .u32 st)] H = evF C F_choose_Enough [.ptr o 0, .d (.i .u8 g), .d (.sl (A.map fun x => .i .i64 x)), .d (.i .u32 st)] (H.set j (.arr (A.map fun x => .i .i64 x) false)) := by
  rw [evF_codef (rfl : C F_choose_Enough = some f_choose_Enough) _ _ _ _ (frz_view o j k _ wr H g st hj (by rw [List.length_map]; exact hk)) rfl, evF_codef (rfl : C F_choose_Enough = some f_choose_Enough) _ _ _ _ (frz_hv (.inl rfl) _ o g st) rfl]
section
variable {P : Heap} {p n : Nat} (hP : P.length = p) (hn : p + 12 = n) (hPp : plain P)
include hP hn hPp
theorem lacks_at {l : List Inc} (hl : goodI l) {q : Grb} (hq : q.pl) {X : Heap} (hX : plain X) {m : Nat} (hm : n + X.length = m) (g : Int) (hg : 0 ≤ g ∧ g < 4) {hv : AV} {A : List Int} (hhv : isHv hv A) (hA : A.length ≤ 1000) (st : Int) :
    ∃ r, evF C F_choose_Lacks [.ptr (p + 2) 0, .d (.i .u8 g), hv, .d (.i .u32 st)] (hh P p l q X) = some r ∧ ∃ Z fe, isEar fe A st ∧ (lacksL l g A st).length + Z.length = (ivL l g).length ∧
      r = (.view m (ivL l g).length 2 0 (lacksL l g A st).length, hr (hh P p l (q.frz g) X) [.arr ((lacksL l g A st ++ Z).map Itv.d) true, .box (fnM fe)]) := by
  have hI := hv_intervals hP hPp hl hq hX (n := m) (by omega) g hg
  rw [← hrh] at hI
  have hq' := Grb.frz_pl hq g
  generalize q.frz g = q' at *
  have hN := ivL_ne l g hg
  have hN2 := ivL_len hl g hg
  have hl59 := hl.1
  have hlen : (hh P p l q X).length = m := by rw [hh_len hP hn, hm]
  have hmG : (hh P p l q' X).length = m := by rw [hh_len hP hn, hm]
  have hG : ∀ k, (hh P p l q' X).all (ltO (m + k)) = true := fun k => by
    have := hh_all hP hn hPp l hq' hX (X.length + k)
    rwa [show n + (X.length + k) = m + k by omega] at this
  obtain ⟨w, hw⟩ : ∃ w, ivL l g = (ivL l g).take ((ivL l g).length - 1) ++ [w] := by
    refine ⟨(ivL l g)[(ivL l g).length - 1]'(by omega), ?_⟩
    have h := List.take_append_drop ((ivL l g).length - 1) (ivL l g)
    rw [List.drop_eq_getElem_cons (by omega), List.drop_eq_nil_of_le (by omega)] at h
    exact h.symm
  have hmem : ∀ x ∈ (ivL l g).take ((ivL l g).length - 1), x.acting.length ≤ 1000 := fun x hx => by have := ivL_mem hl g x (List.mem_of_mem_take hx); omega
  have hVl : ((ivL l g).take ((ivL l g).length - 1)).length = (ivL l g).length - 1 := by rw [List.length_take]; omega
  have g1 := hr_at hmG
  have g0 := hr_at0 hmG
  have s1 := hr_set hmG
  have s0 := hr_set0 hmG
  have ln := hr_len hmG
  have hw1 : IntKind.i64.wrap (((ivL l g).length : Int) - 1) = (((ivL l g).length - 1 : Nat) : Int) := by rw [wi64 (by omega)]; omega
  have hzl : ((((ivL l g).length : Nat) : Int) == 0) = false := by rw [beq_eq_false_iff_ne]; omega
  have hb0 : (0 ≤ (((ivL l g).length - 1 : Nat) : Int)) = True := eq_true (by omega)
  have hb1 : ((((ivL l g).length - 1 : Nat) : Int) ≤ (((ivL l g).length : Nat) : Int)) = True := eq_true (by omega)
  have mf : (m < m) = False := eq_false (Nat.lt_irrefl m)
  have ml : (m ≤ m + 1) = True := eq_true (by omega)
  have hEl : ((ivL l g).map Itv.d).length = (ivL l g).length := List.length_map _
  have fin : ∀ fe, isEar fe A st → (∀ D : AV × Heap, evF C F_slices_DeleteFunc_sapi_Interval_api_Interval [.view m (ivL l g).length 2 0 ((ivL l g).length - 1), .fn F_choose_Lacks_1 [] [.ptr (m + 1) 0]] (hr (hh P p l q' X) [.arr ((ivL l g).map Itv.d) true, .box (fnM fe)]) = some D →
      (∃ k E, D = (.view m (ivL l g).length 2 0 k, hr (hh P p l q' X) [.arr E true, .box (fnM fe)])) → evF C F_choose_Lacks [.ptr (p + 2) 0, .d (.i .u8 g), hv, .d (.i .u32 st)] (hh P p l q X) = some D) →
      ∃ r, evF C F_choose_Lacks [.ptr (p + 2) 0, .d (.i .u8 g), hv, .d (.i .u32 st)] (hh P p l q X) = some r ∧ ∃ Z fe, isEar fe A st ∧ (lacksL l g A st).length + Z.length = (ivL l g).length ∧
      r = (.view m (ivL l g).length 2 0 (lacksL l g A st).length, hr (hh P p l q' X) [.arr ((lacksL l g A st ++ Z).map Itv.d) true, .box (fnM fe)]) := by
    intro fe hfe h
    obtain ⟨r, hr, Z, hZ, rfl⟩ := delV_at hmG hG hA hfe ((ivL l g).take ((ivL l g).length - 1)) [w] (by omega) hmem
    rw [← hw, hVl] at hr
    rw [hVl] at hZ
    refine ⟨_, h _ hr ⟨_, _, rfl⟩, Z ++ [w], fe, hfe, ?_, rfl⟩
    show (lacksL l g A st).length + (Z ++ [w]).length = _
    rw [List.length_append]
    show _ + (_ + 1) = _
    unfold lacksL
    omega
  have hAe : ∀ A : List Int, (DV.agg [.sl (A.map fun x => .i .i64 x), .i .u32 st]) = .agg (earD A st) := fun _ => rfl
  have hz := frz_hv hhv (hh P p l q X) (p + 2) g st
  refine fin (.d (.agg (earD A st))) (.inl rfl) ?_
  rintro D hD ⟨k, E, rfl⟩
  rw [evF_codef (rfl : C F_choose_Lacks = some f_choose_Lacks) _ _ _ _ hz rfl]
  simp only [fnM] at hD ⊢
  simp (config := {decide := true}) only [c_choose_Lacks, hI, hD, hlen, g1, g0, s1, s0, ln, hr_push, hw1, hzl, hb0, hb1, mf, ml, hEl, hAe, ite_self, Nat.le_refl, Nat.sub_zero, Int.toNat_natCast, Pk.EVL, keepT, enum, ↓reduceIte, ev, act, appT, appW, callee, toDs, toD, loadA, storeA, subA, subD, updA, Eff.on, resA, resVs, resV, lk, finish, frzR, frzVs, frzV, fznR, fzns, fzn, lts, lt, ltO, List.all, pairsOk, indep, reduceCtorEq, Nat.reduceEqDiff, Nat.reduceAdd, Nat.reduceLeDiff, stb, thaws, List.drop, intOfA, binD, binI, unD, mmL, buildA, mkAgg, allD, bslD, behind, behind0, takeAt, frzAs, frzA, adoptR, adopt, isD, isD0, trim, List.take, binS, sliceA, bnd, zOk, elems, Nat.reduceBNe, inpl, Nat.reduceLT, Nat.reduceBEq, Nat.reduceSub, Nat.reduceMul, Int.reduceLT, Int.reduceLE, Int.reduceEq, Int.reduceToNat, Int.reduceNeg, thaw, nodup, refsV, adopts, sameH_self, Pk.TY_Itv]
omit hP hn hPp in
theorem plain_hv {hv : AV} {A : List Int} (h : isHv hv A) : plain [.box hv] := by
  rcases h with rfl | ⟨rfl, _⟩
  · exact fun _ => rfl
  · exact fun _ => rfl
omit hP hn hPp in
theorem silent_at {hv : AV} {A : List Int} (hhv : isHv hv A) (hA : A.length ≤ 1000) (x : Int) (H : Heap) (m : Nat) (hb : H[m]? = some (.box hv)) : evF C F_choose_Enough_1 [.d (.i .i64 x), .ptr m 0] H = some (.d (.b (!decide (x ∈ A))), H) := by
  have hc := contains_at A x hA
  rw [evF_code (rfl : C F_choose_Enough_1 = some a_choose_Enough_1) _ _ rfl]
  rcases hhv with rfl | ⟨rfl, rfl⟩
  · simp (config := {decide := true}) only [c_choose_Enough_1, hb, hc, ite_self, List.take_length, Pk.EVL, keepT, enum, ↓reduceIte, ev, act, appT, appW, callee, toDs, toD, loadA, storeA, subA, subD, updA, Eff.on, resA, resVs, resV, lk, finish, frzR, frzVs, frzV, fznR, fzns, fzn, lts, lt, ltO, List.all, pairsOk, indep, reduceCtorEq, Nat.reduceEqDiff, Nat.reduceAdd, Nat.reduceLeDiff, stb, thaws, List.drop, intOfA, binD, binI, unD, mmL, buildA, mkAgg, allD, bslD, behind, behind0, takeAt, frzAs, frzA, adoptR, adopt, isD, isD0, trim, List.take, binS, sliceA, bnd, zOk, elems, Nat.reduceBNe, inpl, Nat.reduceLT, Nat.reduceBEq, Nat.reduceSub, Nat.reduceMul, Int.reduceLT, Int.reduceLE, Int.reduceEq, Int.reduceToNat, Int.reduceNeg, thaw, nodup, refsV, adopts, sameH_self]
  · have hc : evF C F_slices_Contains_sint_int [.d (.sl []), .d (.i .i64 x)] [] = some (.d (.b (decide (x ∈ ([] : List Int)))), []) := hc
    simp (config := {decide := true}) only [c_choose_Enough_1, hb, hc, ite_self, List.take_length, Pk.EVL, keepT, enum, ↓reduceIte, ev, act, appT, appW, callee, toDs, toD, loadA, storeA, subA, subD, updA, Eff.on, resA, resVs, resV, lk, finish, frzR, frzVs, frzV, fznR, fzns, fzn, lts, lt, ltO, List.all, pairsOk, indep, reduceCtorEq, Nat.reduceEqDiff, Nat.reduceAdd, Nat.reduceLeDiff, stb, thaws, List.drop, intOfA, binD, binI, unD, mmL, buildA, mkAgg, allD, bslD, behind, behind0, takeAt, frzAs, frzA, adoptR, adopt, isD, isD0, trim, List.take, binS, sliceA, bnd, zOk, elems, Nat.reduceBNe, inpl, Nat.reduceLT, Nat.reduceBEq, Nat.reduceSub, Nat.reduceMul, Int.reduceLT, Int.reduceLE, Int.reduceEq, Int.reduceToNat, Int.reduceNeg, thaw, nodup, refsV, adopts, sameH_self]
omit hP hn hPp in
/-- slices.ContainsFunc over whole numbers, of a function that looks at a variable. -/
theorem cfuncP_at (F : FuncId) (m : Nat) (pr : Int → Bool) (B : List Int) (hB : B.length ≤ 1000) (H : Heap) (hcall : ∀ x ∈ B, evF C F [.d (.i .i64 x), .ptr m 0] H = some (.d (.b (pr x)), H)) :
    evF C F_slices_ContainsFunc_sint_int [.d (.sl (B.map fun x => .i .i64 x)), .fn F [] [.ptr m 0]] H = some (.d (.b (B.any pr)), H) := by
  have hidx : evF C F_slices_IndexFunc_sint_int [.d (.sl (B.map fun x => .i .i64 x)), .fn F [] [.ptr m 0]] H = some (.d (.i .i64 (ixI pr B 0)), H) := by
    have hl : (B.map fun x : Int => DV.i .i64 x).length = B.length := List.length_map _
    rw [evF_code (rfl : C F_slices_IndexFunc_sint_int = some a_slices_IndexFunc_sint_int) _ _ rfl]
    simp (config := {decide := true}) only [c_slices_IndexFunc_sint_int, hl, thaws, Pk.EVL, keepT, enum, ↓reduceIte, ev, act, appT, appW, callee, toDs, toD, loadA, storeA, subA, subD, updA, Eff.on, resA, resVs, resV, lk, finish, frzR, frzVs, frzV, fznR, fzns, fzn, lts, lt, ltO, List.all, pairsOk, indep, reduceCtorEq, Nat.reduceEqDiff, Nat.reduceAdd, Nat.reduceLeDiff, stb, thaws, List.drop, intOfA, binD, binI, unD, mmL, buildA, mkAgg, allD, bslD, behind, behind0, takeAt, frzAs, frzA, adoptR, adopt, isD, isD0, trim, List.take, binS, sliceA, bnd, zOk, elems, Nat.reduceBNe, inpl, Nat.reduceLT, Nat.reduceBEq, Nat.reduceSub, Nat.reduceMul, Int.reduceLT, Int.reduceLE, Int.reduceEq, Int.reduceToNat, Int.reduceNeg, thaw, nodup, refsV, adopts, sameH_self]
    simp only [Option.bind_assoc]
    refine bind_run (loop_run (fun i T G => lk T 0 = .d (.sl (B.map fun x => .i .i64 x)) ∧ lk T 1 = .fn F [] [.ptr m 0] ∧ lk T 7 = .d (.i .i64 (B.length : Nat)) ∧ lk T 8 = .d (.i .i64 (i : Nat)) ∧ G = H ∧ ixI pr (B.drop i) i = ixI pr B 0)
      (fun x T G => G = H ∧ ((x = .exit 0 ∧ ixI pr B 0 = -1) ∨ (x = .ret ∧ lk T 4 = .d (.i .i64 (ixI pr B 0))))) B.length ?_ ?_ B.length 0 _ _ (by omega) ⟨rfl, rfl, rfl, rfl, rfl, rfl⟩) ?_
    · rintro i T G hi ⟨h0, h1, h7, h8, rfl, hni⟩
      obtain ⟨y, hy⟩ : ∃ y, B[i]? = some y := ⟨B[i]'hi, List.getElem?_eq_getElem _⟩
      have hyd := list_idx (fun x : Int => DV.i .i64 x) hy
      have hcl := hcall y (List.mem_of_getElem? hy)
      rw [ixI_drop hy] at hni
      have hd : decide ((i : Int) < ((B.length : Nat) : Int)) = true := by simp; omega
      have hw : IntKind.i64.wrap ((i : Int) + 1) = ((i + 1 : Nat) : Int) := wi64 (by omega)
      have b0 : (0 ≤ (i : Int)) = True := by simp
      cases c : pr y with
      | true =>
        rw [c] at hcl
        rw [if_pos c] at hni
        rw [← hni]
        simp (config := {decide := true}) only [K_slices_IndexFunc_sint_int_0, l_slices_IndexFunc_sint_int_0, h0, h1, h7, h8, hyd, hcl, hd, hw, b0, ite_self, List.take_length, Nat.le_refl, Pk.EVL, keepT, enum, ↓reduceIte, ev, act, appT, appW, callee, toDs, toD, loadA, storeA, subA, subD, updA, Eff.on, resA, resVs, resV, lk, finish, frzR, frzVs, frzV, fznR, fzns, fzn, lts, lt, ltO, List.all, pairsOk, indep, reduceCtorEq, Nat.reduceEqDiff, Nat.reduceAdd, Nat.reduceLeDiff, stb, thaws, List.drop, intOfA, binD, binI, unD, mmL, buildA, mkAgg, allD, bslD, behind, behind0, takeAt, frzAs, frzA, adoptR, adopt, isD, isD0, trim, List.take, binS, sliceA, bnd, zOk, elems, Nat.reduceBNe, inpl, Nat.reduceLT, Nat.reduceBEq, Nat.reduceSub, Nat.reduceMul, Int.reduceLT, Int.reduceLE, Int.reduceEq, Int.reduceToNat, Int.reduceNeg, thaw, nodup, refsV, adopts, sameH_self]
        exact ⟨_, _, _, rfl, .inr ⟨by simp, rfl, rfl, rfl⟩⟩
      | false =>
        rw [c] at hcl
        rw [if_neg (by simp [c])] at hni
        simp (config := {decide := true}) only [K_slices_IndexFunc_sint_int_0, l_slices_IndexFunc_sint_int_0, h0, h1, h7, h8, hyd, hcl, hd, hw, b0, ite_self, List.take_length, Nat.le_refl, Pk.EVL, keepT, enum, ↓reduceIte, ev, act, appT, appW, callee, toDs, toD, loadA, storeA, subA, subD, updA, Eff.on, resA, resVs, resV, lk, finish, frzR, frzVs, frzV, fznR, fzns, fzn, lts, lt, ltO, List.all, pairsOk, indep, reduceCtorEq, Nat.reduceEqDiff, Nat.reduceAdd, Nat.reduceLeDiff, stb, thaws, List.drop, intOfA, binD, binI, unD, mmL, buildA, mkAgg, allD, bslD, behind, behind0, takeAt, frzAs, frzA, adoptR, adopt, isD, isD0, trim, List.take, binS, sliceA, bnd, zOk, elems, Nat.reduceBNe, inpl, Nat.reduceLT, Nat.reduceBEq, Nat.reduceSub, Nat.reduceMul, Int.reduceLT, Int.reduceLE, Int.reduceEq, Int.reduceToNat, Int.reduceNeg, thaw, nodup, refsV, adopts, sameH_self]
        exact ⟨_, _, _, rfl, .inl ⟨rfl, rfl, rfl, rfl, rfl, rfl, hni⟩⟩
    · rintro T G ⟨h0, h1, h7, h8, rfl, hni⟩
      rw [List.drop_length] at hni
      have hd : decide (((B.length : Nat) : Int) < ((B.length : Nat) : Int)) = false := by simp
      simp (config := {decide := true}) only [K_slices_IndexFunc_sint_int_0, l_slices_IndexFunc_sint_int_0, h0, h1, h7, h8, hd, ite_self, List.take_length, Pk.EVL, keepT, enum, ↓reduceIte, ev, act, appT, appW, callee, toDs, toD, loadA, storeA, subA, subD, updA, Eff.on, resA, resVs, resV, lk, finish, frzR, frzVs, frzV, fznR, fzns, fzn, lts, lt, ltO, List.all, pairsOk, indep, reduceCtorEq, Nat.reduceEqDiff, Nat.reduceAdd, Nat.reduceLeDiff, stb, thaws, List.drop, intOfA, binD, binI, unD, mmL, buildA, mkAgg, allD, bslD, behind, behind0, takeAt, frzAs, frzA, adoptR, adopt, isD, isD0, trim, List.take, binS, sliceA, bnd, zOk, elems, Nat.reduceBNe, inpl, Nat.reduceLT, Nat.reduceBEq, Nat.reduceSub, Nat.reduceMul, Int.reduceLT, Int.reduceLE, Int.reduceEq, Int.reduceToNat, Int.reduceNeg, thaw, nodup, refsV, adopts, sameH_self]
      exact ⟨_, _, _, rfl, by simp, rfl, .inl ⟨rfl, hni.symm⟩⟩
    rintro x T G ⟨rfl, ⟨rfl, h⟩ | ⟨rfl, h4⟩⟩
    · simp (config := {decide := true}) only [h, ite_self, List.take_length, Pk.EVL, keepT, enum, ↓reduceIte, ev, act, appT, appW, callee, toDs, toD, loadA, storeA, subA, subD, updA, Eff.on, resA, resVs, resV, lk, finish, frzR, frzVs, frzV, fznR, fzns, fzn, lts, lt, ltO, List.all, pairsOk, indep, reduceCtorEq, Nat.reduceEqDiff, Nat.reduceAdd, Nat.reduceLeDiff, stb, thaws, List.drop, intOfA, binD, binI, unD, mmL, buildA, mkAgg, allD, bslD, behind, behind0, takeAt, frzAs, frzA, adoptR, adopt, isD, isD0, trim, List.take, binS, sliceA, bnd, zOk, elems, Nat.reduceBNe, inpl, Nat.reduceLT, Nat.reduceBEq, Nat.reduceSub, Nat.reduceMul, Int.reduceLT, Int.reduceLE, Int.reduceEq, Int.reduceToNat, Int.reduceNeg, thaw, nodup, refsV, adopts, sameH_self]
    · simp (config := {decide := true}) only [h4, ite_self, List.take_length, Pk.EVL, keepT, enum, ↓reduceIte, ev, act, appT, appW, callee, toDs, toD, loadA, storeA, subA, subD, updA, Eff.on, resA, resVs, resV, lk, finish, frzR, frzVs, frzV, fznR, fzns, fzn, lts, lt, ltO, List.all, pairsOk, indep, reduceCtorEq, Nat.reduceEqDiff, Nat.reduceAdd, Nat.reduceLeDiff, stb, thaws, List.drop, intOfA, binD, binI, unD, mmL, buildA, mkAgg, allD, bslD, behind, behind0, takeAt, frzAs, frzA, adoptR, adopt, isD, isD0, trim, List.take, binS, sliceA, bnd, zOk, elems, Nat.reduceBNe, inpl, Nat.reduceLT, Nat.reduceBEq, Nat.reduceSub, Nat.reduceMul, Int.reduceLT, Int.reduceLE, Int.reduceEq, Int.reduceToNat, Int.reduceNeg, thaw, nodup, refsV, adopts, sameH_self]
  have hj := ixI_any pr B 0
  rw [evF_code (rfl : C F_slices_ContainsFunc_sint_int = some a_slices_ContainsFunc_sint_int) _ _ rfl]
  simp (config := {decide := true}) only [c_slices_ContainsFunc_sint_int, hidx, hj, ite_self, List.take_length, Nat.le_refl, Pk.EVL, keepT, enum, ↓reduceIte, ev, act, appT, appW, callee, toDs, toD, loadA, storeA, subA, subD, updA, Eff.on, resA, resVs, resV, lk, finish, frzR, frzVs, frzV, fznR, fzns, fzn, lts, lt, ltO, List.all, pairsOk, indep, reduceCtorEq, Nat.reduceEqDiff, Nat.reduceAdd, Nat.reduceLeDiff, stb, thaws, List.drop, intOfA, binD, binI, unD, mmL, buildA, mkAgg, allD, bslD, behind, behind0, takeAt, frzAs, frzA, adoptR, adopt, isD, isD0, trim, List.take, binS, sliceA, bnd, zOk, elems, Nat.reduceBNe, inpl, Nat.reduceLT, Nat.reduceBEq, Nat.reduceSub, Nat.reduceMul, Int.reduceLT, Int.reduceLE, Int.reduceEq, Int.reduceToNat, Int.reduceNeg, thaw, nodup, refsV, adopts, sameH_self]
def enoughB (l : List Inc) (g : Int) (A : List Int) (st : Int) : Bool := decide ((lacksL l g A st).length = 0) && !((lastI (ivL l g)).acting.any fun x => !decide (x ∈ A))
theorem enough_at {l : List Inc} (hl : goodI l) {q : Grb} (hq : q.pl) {X : Heap} (hX : plain X) {m : Nat} (hm : n + X.length = m) (g : Int) (hg : 0 ≤ g ∧ g < 4) {hv : AV} {A : List Int} (hhv : isHv hv A) (hA : A.length ≤ 1000) (st : Int) :
    evF C F_choose_Enough [.ptr (p + 2) 0, .d (.i .u8 g), hv, .d (.i .u32 st)] (hh P p l q X) = some (.d (.b (enoughB l g A st)), hh P p l (q.frz g) X) := by
  have hz := frz_hv hhv (hh P p l q X) (p + 2) g st
  rw [evF_codef (rfl : C F_choose_Enough = some f_choose_Enough) _ _ _ _ hz rfl]
  clear hz hhv
  obtain ⟨hv, hve⟩ : ∃ hv, hv = AV.d (.sl (A.map fun x => .i .i64 x)) := ⟨_, rfl⟩
  have hhv : isHv hv A := .inl hve
  rw [← hve]
  have hX1 : plain (X ++ [.box hv]) := by rw [plain_app]; exact ⟨hX, plain_hv hhv⟩
  obtain ⟨r, hr, Z, fe, hfe, hZ, rfl⟩ := lacks_at hP hn hPp hl hq hX1 (m := m + 1) (by rw [List.length_append]; simp; omega) g hg hhv hA st
  have hq' := Grb.frz_pl hq g
  generalize q.frz g = q' at *
  rw [hrh] at hr
  have hX2 : plain (X ++ [.box hv] ++ [.arr ((lacksL l g A st ++ Z).map Itv.d) true, .box (fnM fe)]) := by
    rw [plain_app]
    refine ⟨hX1, ?_⟩
    rw [plain_arr]
    exact plain_fn hfe [] (fun _ => rfl)
  have AC := h_acting hP hPp hl hq' hX2 g hg.1
  have hlen : (hh P p l q X).length = m := by rw [hh_len hP hn, hm]
  have hx0 : (hh P p l q X ++ [.box hv])[m]? = some (.box hv) := by rw [List.getElem?_append_right (by omega), hlen, Nat.sub_self]; rfl
  have hx1 : (hh P p l q' (X ++ [.box hv] ++ [.arr ((lacksL l g A st ++ Z).map Itv.d) true, .box (fnM fe)]))[m]? = some (.box hv) := by
    rw [← hh_push, ← hh_push, List.append_assoc, List.getElem?_append_right (by rw [hh_len hP hn]; omega), hh_len hP hn, hm, Nat.sub_self]
    rfl
  have hlen2 : (hh P p l q' (X ++ [.box hv] ++ [.arr ((lacksL l g A st ++ Z).map Itv.d) true, .box (fnM fe)])).length = m + 3 := by
    rw [hh_len hP hn]; simp only [List.length_append, List.length_cons, List.length_nil]; omega
  have htk : List.take m (hh P p l q' (X ++ [.box hv] ++ [.arr ((lacksL l g A st ++ Z).map Itv.d) true, .box (fnM fe)])) = hh P p l q' X := by
    rw [← hm, hh_take hP hn, List.append_assoc, List.take_left' rfl]
  have hall : (hh P p l q' X).all (ltO m) = true := by have := hh_all hP hn hPp l hq' hX X.length; rwa [hm] at this
  have hlast := lastI_len hl g
  have CF := cfuncP_at F_choose_Enough_1 m (fun x => !decide (x ∈ A)) (lastI (ivL l g)).acting (by omega) _ (fun x _ => silent_at hhv hA x _ m hx1)
  have hpush : hh P p l q X ++ [.box hv] = hh P p l q (X ++ [.box hv]) := hh_push _ _ _ _ _ _
  rw [hpush] at hx0
  have hlen1 : (hh P p l q (X ++ [.box hv])).length = m + 1 := by rw [hh_len hP hn]; simp only [List.length_append, List.length_cons, List.length_nil]; omega
  have ml : (m + 1 ≤ m + 3) = True := eq_true (by omega)
  unfold enoughB
  generalize hh P p l q' (X ++ [.box hv] ++ [.arr ((lacksL l g A st ++ Z).map Itv.d) true, .box (fnM fe)]) = G2 at *
  generalize (lastI (ivL l g)).acting = ac at *
  by_cases c : (lacksL l g A st).length = 0
  · have hz : ((((lacksL l g A st).length : Nat) : Int) == 0) = true := by simp [c]
    have hz' := decide_eq_true c
    subst hve
    simp (config := {decide := true}) only [c_choose_Enough, hpush, hlen, hlen1, hlen2, hx0, hx1, hr, AC, CF, htk, hall, hz, hz', ml, ite_self, List.take_length, Nat.le_refl, Pk.EVL, keepT, enum, ↓reduceIte, ev, act, appT, appW, callee, toDs, toD, loadA, storeA, subA, subD, updA, Eff.on, resA, resVs, resV, lk, finish, frzR, frzVs, frzV, fznR, fzns, fzn, lts, lt, ltO, List.all, pairsOk, indep, reduceCtorEq, Nat.reduceEqDiff, Nat.reduceAdd, Nat.reduceLeDiff, stb, thaws, List.drop, intOfA, binD, binI, unD, mmL, buildA, mkAgg, allD, bslD, behind, behind0, takeAt, frzAs, frzA, adoptR, adopt, isD, isD0, trim, List.take, binS, sliceA, bnd, zOk, elems, Nat.reduceBNe, inpl, Nat.reduceLT, Nat.reduceBEq, Nat.reduceSub, Nat.reduceMul, Int.reduceLT, Int.reduceLE, Int.reduceEq, Int.reduceToNat, Int.reduceNeg, thaw, nodup, refsV, adopts, sameH_self]
  · have hz : ((((lacksL l g A st).length : Nat) : Int) == 0) = false := by rw [beq_eq_false_iff_ne]; omega
    have hz' := decide_eq_false c
    subst hve
    simp (config := {decide := true}) only [c_choose_Enough, hpush, hlen, hlen1, hlen2, hx0, hx1, hr, AC, CF, htk, hall, hz, hz', ml, ite_self, List.take_length, Nat.le_refl, guardR_und, Pk.EVL, keepT, enum, ↓reduceIte, ev, act, appT, appW, callee, toDs, toD, loadA, storeA, subA, subD, updA, Eff.on, resA, resVs, resV, lk, finish, frzR, frzVs, frzV, fznR, fzns, fzn, lts, lt, ltO, List.all, pairsOk, indep, reduceCtorEq, Nat.reduceEqDiff, Nat.reduceAdd, Nat.reduceLeDiff, stb, thaws, List.drop, intOfA, binD, binI, unD, mmL, buildA, mkAgg, allD, bslD, behind, behind0, takeAt, frzAs, frzA, adoptR, adopt, isD, isD0, trim, List.take, binS, sliceA, bnd, zOk, elems, Nat.reduceBNe, inpl, Nat.reduceLT, Nat.reduceBEq, Nat.reduceSub, Nat.reduceMul, Int.reduceLT, Int.reduceLE, Int.reduceEq, Int.reduceToNat, Int.reduceNeg, thaw, nodup, refsV, adopts, sameH_self]
theorem serves_at {l : List Inc} (hl : goodI l) {q : Grb} (hq : q.pl) {X : Heap} (hX : plain X) {m : Nat} (hm : n + X.length = m) (g : Int) (hg : 0 ≤ g) :
    evF C F_choose_Serves [.ptr (p + 2) 0, .d (.i .u8 g)] (hh P p l q X) = some (.d (.b (decide ((lastI (ivL l g)).acting.length ≥ 2))), hh P p l q X) := by
  have AC := h_acting hP hPp hl hq hX g hg
  have hlen : (hh P p l q X).length = m := by rw [hh_len hP hn, hm]
  have hla : ((lastI (ivL l g)).acting.map fun x => DV.i .i64 x).length = (lastI (ivL l g)).acting.length := List.length_map _
  have hd : decide ((((lastI (ivL l g)).acting.length : Nat) : Int) ≥ 2) = decide ((lastI (ivL l g)).acting.length ≥ 2) := by congr 1; exact propext (by omega)
  rw [evF_code (rfl : C F_choose_Serves = some a_choose_Serves) _ _ rfl]
  generalize hh P p l q X = G at *
  have htk : List.take m G = G := by rw [← hlen]; exact List.take_length
  simp (config := {decide := true}) only [c_choose_Serves, AC, hlen, hla, hd, htk, ite_self, Nat.le_refl, Pk.EVL, keepT, enum, ↓reduceIte, ev, act, appT, appW, callee, toDs, toD, loadA, storeA, subA, subD, updA, Eff.on, resA, resVs, resV, lk, finish, frzR, frzVs, frzV, fznR, fzns, fzn, lts, lt, ltO, List.all, pairsOk, indep, reduceCtorEq, Nat.reduceEqDiff, Nat.reduceAdd, Nat.reduceLeDiff, stb, thaws, List.drop, intOfA, binD, binI, unD, mmL, buildA, mkAgg, allD, bslD, behind, behind0, takeAt, frzAs, frzA, adoptR, adopt, isD, isD0, trim, List.take, binS, sliceA, bnd, zOk, elems, Nat.reduceBNe, inpl, Nat.reduceLT, Nat.reduceBEq, Nat.reduceSub, Nat.reduceMul, Int.reduceLT, Int.reduceLE, Int.reduceEq, Int.reduceToNat, Int.reduceNeg, thaw, nodup, refsV, adopts, sameH_self]
end
end Go.Proofs.Ytmiionadkdfbdaa

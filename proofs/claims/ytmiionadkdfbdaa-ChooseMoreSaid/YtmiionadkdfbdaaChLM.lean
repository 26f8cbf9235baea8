/- The law ChooseMore. -/
import Derived.Test.YtmiionadkdfbdaaHrI
import Derived.Test.YtmiionadkdfbdaaChMp
set_option linter.all false
namespace Go.Proofs.Ytmiionadkdfbdaa
open Pv Go Pk
set_option maxRecDepth 10000
set_option maxHeartbeats 4000000
theorem more_law (l : List Inc) (hok : ∀ x ∈ l, x.ok) (g : Int) (hg0 : 0 ≤ g ∧ g < 256) (A : List Int) (one : Int) (hone : 0 ≤ one ∧ one < 256) (st : Int) (hst : 0 ≤ st ∧ st < 4294967296) :
    evF C F_paddocklaw9_ChooseMore [.d (.sl (l.map Inc.d)), .d (.i .u8 g), .d (.sl (A.map fun x => .i .i64 x)), .d (.i .u8 one), .d (.i .u32 st)] [] = some (.d (.b true), []) := by
  obtain ⟨p, hP⟩ : ∃ p, ([] : Heap).length = p := ⟨_, rfl⟩
  have hPp : plain [] := fun _ => rfl
  have hlm : (l.map Inc.d).length = l.length := List.length_map _
  have hAl : (A.map fun x => DV.i .i64 x).length = A.length := List.length_map _
  rw [evF_code (rfl : C F_paddocklaw9_ChooseMore = some a_paddocklaw9_ChooseMore) _ _ rfl]
  rcases Bool.eq_false_or_eq_true (decide (((l.length : Nat) : Int) > 25)) with c1 | c1
  · simp (config := {decide := true}) only [c_paddocklaw9_ChooseMore, known9_at, hlm, hAl, c1, guardR_und, Pk.EVL, keepT, enum, ↓reduceIte, ev, act, appT, appW, callee, toDs, toD, loadA, storeA, subA, subD, updA, Eff.on, resA, resVs, resV, lk, finish, frzR, frzVs, frzV, fznR, fzns, fzn, lts, lt, ltO, List.all, pairsOk, indep, reduceCtorEq, Nat.reduceEqDiff, Nat.reduceAdd, Nat.reduceLeDiff, stb, thaws, List.drop, intOfA, binD, binI, unD, mmL, buildA, mkAgg, allD, bslD, behind, behind0, takeAt, frzAs, frzA, adoptR, adopt, isD, isD0, trim, List.take, binS, sliceA, bnd, zOk, elems, Nat.reduceBNe, inpl, Nat.reduceLT, Nat.reduceBEq, Nat.reduceSub, Nat.reduceMul, Int.reduceLT, Int.reduceLE, Int.reduceEq, Int.reduceToNat, Int.reduceNeg, thaw, nodup, refsV, adopts, sameH_self]
  rcases Bool.eq_false_or_eq_true (decide (((A.length : Nat) : Int) > 10)) with c2 | c2
  · simp (config := {decide := true}) only [c_paddocklaw9_ChooseMore, known9_at, hlm, hAl, c1, c2, guardR_und, Pk.EVL, keepT, enum, ↓reduceIte, ev, act, appT, appW, callee, toDs, toD, loadA, storeA, subA, subD, updA, Eff.on, resA, resVs, resV, lk, finish, frzR, frzVs, frzV, fznR, fzns, fzn, lts, lt, ltO, List.all, pairsOk, indep, reduceCtorEq, Nat.reduceEqDiff, Nat.reduceAdd, Nat.reduceLeDiff, stb, thaws, List.drop, intOfA, binD, binI, unD, mmL, buildA, mkAgg, allD, bslD, behind, behind0, takeAt, frzAs, frzA, adoptR, adopt, isD, isD0, trim, List.take, binS, sliceA, bnd, zOk, elems, Nat.reduceBNe, inpl, Nat.reduceLT, Nat.reduceBEq, Nat.reduceSub, Nat.reduceMul, Int.reduceLT, Int.reduceLE, Int.reduceEq, Int.reduceToNat, Int.reduceNeg, thaw, nodup, refsV, adopts, sameH_self]
  rcases Bool.eq_false_or_eq_true (decide (g ≥ 4)) with c3 | c3
  · simp (config := {decide := true}) only [c_paddocklaw9_ChooseMore, known9_at, hlm, hAl, c1, c2, c3, guardR_und, Pk.EVL, keepT, enum, ↓reduceIte, ev, act, appT, appW, callee, toDs, toD, loadA, storeA, subA, subD, updA, Eff.on, resA, resVs, resV, lk, finish, frzR, frzVs, frzV, fznR, fzns, fzn, lts, lt, ltO, List.all, pairsOk, indep, reduceCtorEq, Nat.reduceEqDiff, Nat.reduceAdd, Nat.reduceLeDiff, stb, thaws, List.drop, intOfA, binD, binI, unD, mmL, buildA, mkAgg, allD, bslD, behind, behind0, takeAt, frzAs, frzA, adoptR, adopt, isD, isD0, trim, List.take, binS, sliceA, bnd, zOk, elems, Nat.reduceBNe, inpl, Nat.reduceLT, Nat.reduceBEq, Nat.reduceSub, Nat.reduceMul, Int.reduceLT, Int.reduceLE, Int.reduceEq, Int.reduceToNat, Int.reduceNeg, thaw, nodup, refsV, adopts, sameH_self]
  have hlen : l.length ≤ 25 := by have := of_decide_eq_false c1; omega
  have hA10 : A.length ≤ 10 := by have := of_decide_eq_false c2; omega
  have hg : 0 ≤ g ∧ g < 4 := by have := of_decide_eq_false c3; omega
  obtain ⟨S, hS, B⟩ := both9_at l hok (by omega) hP rfl
  have hG := takeAll_good hok
  generalize takeAll l = G at *
  have hSa := rOk_all hS
  obtain ⟨n, hn⟩ : ∃ n, p + 12 + S.length = n := ⟨_, rfl⟩
  rw [hn] at hSa
  obtain ⟨o, ho⟩ : ∃ o, one.tmod 5 = o := ⟨_, rfl⟩
  have ho5 : 0 ≤ o ∧ o < 5 := by
    obtain ⟨k, rfl⟩ := Int.eq_ofNat_of_zero_le hone.1
    rw [← ho]
    show 0 ≤ ((k % 5 : Nat) : Int) ∧ ((k % 5 : Nat) : Int) < 5
    omega
  have hwo : IntKind.u8.wrap o = o := wu8 (by omega)
  have hwo2 : IntKind.i64.wrap o = o := wi64 (by omega)
  obtain ⟨s, hs7⟩ : ∃ s, st.tmod 70 = s := ⟨_, rfl⟩
  have hs70 : 0 ≤ s ∧ s < 70 := by
    obtain ⟨k, rfl⟩ := Int.eq_ofNat_of_zero_le hst.1
    rw [← hs7]
    show 0 ≤ ((k % 70 : Nat) : Int) ∧ ((k % 70 : Nat) : Int) < 70
    omega
  have hws : IntKind.u32.wrap s = s := wu32 (by omega)
  have hws1 : IntKind.u32.wrap (s + 1) = s + 1 := wu32 (by omega)
  have hl := hz_len hP hn
  have ha := hz_at hP hn
  have ha0 := hz_at0 hP hn
  have hs := hz_set hP hn
  have hs0 := hz_set0 hP hn
  have ht := hz_take hP hn
  have ht0 := hz_take0 hP hn
  -- who was heard, and one more
  obtain ⟨M, hM⟩ : ∃ M, A ++ [o] = M := ⟨_, rfl⟩
  have hMl : M.length = A.length + 1 := by rw [← hM, List.length_append]; rfl
  have hMm : A.map (fun x => DV.i .i64 x) ++ [.i .i64 o] = M.map fun x => .i .i64 x := by rw [← hM, List.map_append]; rfl
  have hAM : ∀ y ∈ A, y ∈ M := fun y hy => by rw [← hM]; exact List.mem_append_left _ hy
  have hlimA : (A.length ≤ LIM) = True := eq_true (by unfold LIM; omega)
  have hlimM : (A.length + 1 ≤ LIM) = True := eq_true (by unfold LIM; omega)
  have hlimM' : (1 + A.length ≤ LIM) = True := eq_true (by unfold LIM; omega)
  have q1 := Grb.frz_pl grb0_pl g
  have q2 := Grb.frz_pl q1 g
  have q3 := Grb.frz_pl q2 g
  have q4 := Grb.frz_pl q3 g
  have q5 := Grb.frz_pl q4 g
  have q6 := Grb.frz_pl q5 g
  have q7 := Grb.frz_pl q6 g
  have hIA : isHv (.d (.sl (A.map fun x => .i .i64 x))) A := .inl rfl
  have hIM : isHv (.d (.sl (M.map fun x => .i .i64 x))) M := .inl rfl
  have hI5 : isHv (.d (.sl ([(0 : Int), 1, 2, 3, 4].map fun x => .i .i64 x))) [0, 1, 2, 3, 4] := .inl rfl
  -- the first three
  have pX0 : plain [.arr (M.map fun x => .i .i64 x) true, .arr [.i .i64 o] true] := fun _ => rfl
  obtain ⟨r, R1, Za, fa, hfa, _, rfl⟩ := zlacks_at hP hn hPp hSa hG grb0_pl pX0 (m := n + 2) rfl g hg hIA (by omega) s
  rw [hrz] at R1
  simp only [List.cons_append, List.nil_append] at R1
  generalize hEa : (lacksL G g A s ++ Za).map Itv.d = Ea at *
  have pX1 : plain [.arr (M.map fun x => .i .i64 x) false, .arr [.i .i64 o] true, .arr Ea true, .box (fnM fa)] := by
    rw [plain_arr, plain_arr, plain_arr]; exact plain_fn hfa [] (fun _ => rfl)
  obtain ⟨r, R2, Zb, fb, hfb, _, rfl⟩ := zlacks_at hP hn hPp hSa hG q1 pX1 (m := n + 4) rfl g hg hIM (by omega) s
  have VR2 := lacks_view (p + 2) n (A.length + 1) M true (hz [] S p G (grb0.frz g) [.arr (M.map fun x => .i .i64 x) true, .arr [.i .i64 o] true, .arr Ea true, .box (fnM fa)]) g s (by rw [ha0]; rfl) hMl
  rw [hs0] at VR2
  have R2 := VR2.trans R2
  rw [hrz] at R2
  simp only [List.cons_append, List.nil_append] at R2
  generalize hEb : (lacksL G g M s ++ Zb).map Itv.d = Eb at *
  have pX2 : plain [.arr (M.map fun x => .i .i64 x) false, .arr [.i .i64 o] true, .arr Ea true, .box (fnM fa), .arr Eb true, .box (fnM fb)] := by
    rw [plain_arr, plain_arr, plain_arr]; exact plain_fn hfa _ (by rw [plain_arr]; exact plain_fn hfb [] (fun _ => rfl))
  obtain ⟨r, R3, Zc, fc, hfc, _, rfl⟩ := zlacks_at hP hn hPp hSa hG q2 pX2 (m := n + 6) rfl g hg hIA (by omega) (s + 1)
  rw [hrz] at R3
  simp only [List.cons_append, List.nil_append] at R3
  generalize hEc : (lacksL G g A (s + 1) ++ Zc).map Itv.d = Ec at *
  -- all of them
  obtain ⟨X8, hX8⟩ : ∃ X8 : Heap, [.arr (M.map fun x => .i .i64 x) false, .arr [.i .i64 o] true, .arr Ea true, .box (fnM fa), .arr Eb true, .box (fnM fb), .arr Ec true, .box (fnM fc)] = X8 := ⟨_, rfl⟩
  have hX8l : X8.length = 8 := by rw [← hX8]; rfl
  have hX80 : ∀ Y, (X8 ++ Y)[0]? = some (.arr (M.map fun x => .i .i64 x) false) := fun Y => by rw [← hX8]; rfl
  have hX8s : ∀ Y, (X8 ++ Y).set 0 (.arr (M.map fun x => .i .i64 x) false) = X8 ++ Y := fun Y => by rw [← hX8]; rfl
  have pX8 : plain X8 := by
    rw [← hX8, plain_arr, plain_arr, plain_arr]
    exact plain_fn hfa _ (by rw [plain_arr]; exact plain_fn hfb _ (by rw [plain_arr]; exact plain_fn hfc [] (fun _ => rfl)))
  rw [hX8] at R3
  have pX9 : plain (X8 ++ [.arr ([(0 : Int), 1, 2, 3, 4].map fun x => .i .i64 x) false]) := by rw [plain_app]; exact ⟨pX8, fun _ => rfl⟩
  have hX9l : ∀ e, n + List.length (X8 ++ [e]) = n + 9 := fun e => by rw [List.length_append, hX8l]; rfl
  have hX98 : ∀ wr, (X8 ++ [.arr ([(0 : Int), 1, 2, 3, 4].map fun x => .i .i64 x) wr])[8]? = some (.arr ([(0 : Int), 1, 2, 3, 4].map fun x => .i .i64 x) wr) := fun wr => by rw [List.getElem?_append_right (by omega), hX8l]; rfl
  have hX9s : ∀ wr, List.set (X8 ++ [Ob.arr ([(0 : Int), 1, 2, 3, 4].map fun x => .i .i64 x) wr]) 8 (.arr ([(0 : Int), 1, 2, 3, 4].map fun x => .i .i64 x) false) = X8 ++ [.arr ([(0 : Int), 1, 2, 3, 4].map fun x => .i .i64 x) false] := fun wr => by rw [List.set_append_right _ _ (by omega), hX8l]; rfl
  have E1 := zenough_at hP hn hPp hSa hG q3 pX9 (m := n + 9) (hX9l _) g hg hI5 (by decide) s
  rw [enough_all hG g hg] at E1
  have VE1 := enough_view (p + 2) (n + 8) 5 [0, 1, 2, 3, 4] true (hz [] S p G (((grb0.frz g).frz g).frz g) (X8 ++ [.arr ([(0 : Int), 1, 2, 3, 4].map fun x => .i .i64 x) true])) g s (by rw [ha, hX98]) rfl
  rw [hs, hX9s] at VE1
  have E1 := VE1.trans E1
  obtain ⟨r, R4, Zd, fd, hfd, _, rfl⟩ := zlacks_at hP hn hPp hSa hG q4 pX9 (m := n + 9) (hX9l _) g hg hI5 (by decide) 0
  have VR4 := lacks_view (p + 2) (n + 8) 5 [0, 1, 2, 3, 4] false (hz [] S p G ((((grb0.frz g).frz g).frz g).frz g) (X8 ++ [.arr ([(0 : Int), 1, 2, 3, 4].map fun x => .i .i64 x) false])) g 0 (by rw [ha, hX98]) rfl
  rw [hs, hX9s] at VR4
  have R4 := VR4.trans R4
  rw [hrz, lacks_all G g hg 0, List.append_assoc] at R4
  generalize hEd : ([] ++ Zd).map Itv.d = Ed at *
  have pXb : plain (X8 ++ (([Ob.arr ([(0 : Int), 1, 2, 3, 4].map fun x => .i .i64 x) false] : Heap) ++ [.arr Ed true, .box (fnM fd)])) := by
    rw [plain_app]
    refine ⟨pX8, ?_⟩
    rw [List.cons_append, List.nil_append, plain_arr, plain_arr]
    exact plain_fn hfd [] (fun _ => rfl)
  have hXbl : n + List.length (X8 ++ (([Ob.arr ([(0 : Int), 1, 2, 3, 4].map fun x => .i .i64 x) false] : Heap) ++ [.arr Ed true, .box (fnM fd)])) = n + 11 := by rw [List.length_append, hX8l]; rfl
  have E2 := zenough_at hP hn hPp hSa hG q5 pXb (m := n + 11) hXbl g hg hIA (by omega) s
  have E3 := zenough_at hP hn hPp hSa hG q6 pXb (m := n + 11) hXbl g hg hIM (by omega) s
  have VE3 := enough_view (p + 2) n (A.length + 1) M false (hz [] S p G ((((((grb0.frz g).frz g).frz g).frz g).frz g).frz g) (X8 ++ (([.arr ([(0 : Int), 1, 2, 3, 4].map fun x => .i .i64 x) false] : Heap) ++ [.arr Ed true, .box (fnM fd)]))) g s (by rw [ha0, hX80]) hMl
  rw [hs0, hX8s] at VE3
  have E3 := VE3.trans E3
  have E4 := zenough_at hP hn hPp hSa hG q7 pXb (m := n + 11) hXbl g hg hIA (by omega) (s + 1)
  have k1 : decide (((lacksL G g M s).length : Int) ≤ ((lacksL G g A s).length : Int)) = true := by have := lacks_heard hAM G g s; simp; omega
  have k2 : decide (((lacksL G g A (s + 1)).length : Int) ≤ ((lacksL G g A s).length : Int)) = true := by have := lacks_later A G g s; simp; omega
  have k3 := enough_heard hAM G g s
  have k4 := enough_later A G g s
  have z0 : ((([] : List Itv).length : Nat) : Int) = 0 := rfl
  have hsub5 : ∀ a b c d e : DV, subL [a, b, c, d, e] 0 5 = [a, b, c, d, e] := fun _ _ _ _ _ => rfl
  have n1 : (p + 2 < n) = True := eq_true (by omega)
  have nle : ∀ i j : Nat, i ≤ j → (n + i ≤ n + j) = True := fun i j h => eq_true (by omega)
  have nle0 : ∀ j : Nat, (n ≤ n + j) = True := fun j => eq_true (by omega)
  have hce : (A.map fun x => DV.i .i64 x).all (fun e => e.cells.length == 1) = true := by simp [DV.cells]
  have hXl : ∀ Y, List.length (X8 ++ Y) = 8 + Y.length := fun Y => by rw [List.length_append, hX8l]
  simp only [List.map_cons, List.map_nil, List.cons_append, List.nil_append] at E1 R4 E2 E3 E4
  generalize enoughB G g A (s + 1) = b4 at *
  generalize enoughB G g M s = b3 at *
  generalize enoughB G g A s = b2 at *
  cases b2 with
  | true =>
    obtain rfl := k3 rfl
    obtain rfl := k4 rfl
    simp (config := {decide := true}) only [c_paddocklaw9_ChooseMore, known9_at, hlm, hAl, hce, c1, c2, c3, B, R1, R2, R3, E1, R4, E2, E3, E4, k1, k2, z0, ho, hwo, hwo2, hs7, hws, hws1, guardR_und, hl, ha, ha0, hs, hs0, ht, ht0, hz_push, hlimA, hlimM, hlimM', hMm, elems, hX8l, hXl, hsub5, Nat.zero_le, nle0, n1, Pk.EVL, keepT, enum, ↓reduceIte, ev, act, appT, appW, callee, toDs, toD, loadA, storeA, subA, subD, updA, Eff.on, resA, resVs, resV, lk, finish, frzR, frzVs, frzV, fznR, fzns, fzn, lts, lt, ltO, List.all, pairsOk, indep, reduceCtorEq, Nat.reduceEqDiff, Nat.reduceAdd, Nat.reduceLeDiff, stb, thaws, List.drop, intOfA, binD, binI, unD, mmL, buildA, mkAgg, allD, bslD, behind, behind0, takeAt, frzAs, frzA, adoptR, adopt, isD, isD0, trim, List.take, binS, sliceA, bnd, zOk, elems, Nat.reduceBNe, inpl, Nat.reduceLT, Nat.reduceBEq, Nat.reduceSub, Nat.reduceMul, Int.reduceLT, Int.reduceLE, Int.reduceEq, Int.reduceToNat, Int.reduceNeg, thaw, nodup, refsV, adopts, sameH_self]
  | false =>
    simp (config := {decide := true}) only [c_paddocklaw9_ChooseMore, known9_at, hlm, hAl, hce, c1, c2, c3, B, R1, R2, R3, E1, R4, E2, k1, k2, z0, ho, hwo, hwo2, hs7, hws, hws1, guardR_und, hl, ha, ha0, hs, hs0, ht, ht0, hz_push, hlimA, hlimM, hlimM', hMm, elems, hX8l, hXl, hsub5, Nat.zero_le, nle0, n1, Pk.EVL, keepT, enum, ↓reduceIte, ev, act, appT, appW, callee, toDs, toD, loadA, storeA, subA, subD, updA, Eff.on, resA, resVs, resV, lk, finish, frzR, frzVs, frzV, fznR, fzns, fzn, lts, lt, ltO, List.all, pairsOk, indep, reduceCtorEq, Nat.reduceEqDiff, Nat.reduceAdd, Nat.reduceLeDiff, stb, thaws, List.drop, intOfA, binD, binI, unD, mmL, buildA, mkAgg, allD, bslD, behind, behind0, takeAt, frzAs, frzA, adoptR, adopt, isD, isD0, trim, List.take, binS, sliceA, bnd, zOk, elems, Nat.reduceBNe, inpl, Nat.reduceLT, Nat.reduceBEq, Nat.reduceSub, Nat.reduceMul, Int.reduceLT, Int.reduceLE, Int.reduceEq, Int.reduceToNat, Int.reduceNeg, thaw, nodup, refsV, adopts, sameH_self]
end Go.Proofs.Ytmiionadkdfbdaa

/- Both histories of increments (paddocklaw9.both). / Intervals and who acts (plain): epochs go up; who acts is one each. / Daemons that go down and come back (plain). / Whoever hears all lacks nothing; daemons taken out of an interval end it (plain). / Whoever hears more lacks no more; a later start asks for no more (plain). -/
import Derived.Test.YtmiionadkdfbdaaHrC
import Derived.Test.YtmiionadkdfbdaaChZ
import Derived.Test.YtmiionadkdfbdaaChC
set_option linter.all false
namespace Go.Proofs.Ytmiionadkdfbdaa
open Pv Go Pk
set_option maxRecDepth 10000
set_option maxHeartbeats 4000000
theorem bind_exA {β γ : Type} {x : Option (AExit × Tm × Heap)} {Q : AExit → Tm → Heap → Prop} {f : AExit × Tm × Heap → Option β} {A : γ → Prop} {B : γ → Option β} (h : ∃ e T' H', x = some (e, T', H') ∧ Q e T' H') (hf : ∀ e T' H', Q e T' H' → ∃ c, A c ∧ f (e, T', H') = B c) : ∃ c, A c ∧ x.bind f = B c := by
  obtain ⟨e, T', H', rfl, hp⟩ := h
  exact hf e T' H' hp
theorem plain_nil'' : plain [] := fun _ => rfl
theorem hz_hr (P S : Heap) (p : Nat) (l : List Inc) (q : Grb) : hz P S p l q [] = hr (P ++ hobs p (hsOf l) q) S := by simp [hz, hq, hr]
section
variable {P : Heap} {p n0 : Nat} (hP : P.length = p) (hn0 : p + 12 = n0) (hPp : plain P) {S : Heap} {G : List Inc} (hS : rOk n0 S G) (hG : goodI G) {q : Grb} (hq : q.pl) (G2 : List Inc)
include hP hn0 in
theorem zr_len : (P ++ hobs p (hsOf G2) q).length = n0 := by rw [List.length_append, hobs_len, hP, hn0]
include hP hn0 hPp hq in
theorem zr_all (k : Nat) : (P ++ hobs p (hsOf G2) q).all (ltO (n0 + k)) = true := by
  have := hobs_ltO (n := n0) hP hn0 (hsOf G2) hq k
  rw [List.all_append, hPp, this]; rfl
include hP hn0 hPp hS hG hq in
theorem zr_last : evF C F_paddockref3_History_Last [.ptr n0 0] (hz P S p G2 q []) = some (.d (.i .u32 ((G.length : Int) + 1)), hz P S p G2 q []) := by
  have hSp := rOk_pos hS
  have hSa := rOk_all hS
  have hA := zr_all hP hn0 hPp hq G2
  have hl := zr_len hP hn0 (q := q) G2
  rw [hz_hr]
  obtain ⟨v, T, hLe, hT, hv⟩ := hS
  refine reflast_at (m := n0 + S.length) (by rw [hr_len hl]) (by omega) (fun k => by rw [hr_all, hSa k, Nat.add_assoc, hA]; rfl) (v := v) ?_ (by rw [hr_at0 hl, hLe]; rfl) hG
  rcases hv with ⟨h1, h2, _⟩ | ⟨j, h1, hj⟩
  · exact .inl ⟨h1, h2⟩
  · have hjl := (List.getElem?_eq_some_iff.1 hj).1
    have hl2 : S.length = T.length + 1 := by rw [hLe]; rfl
    exact .inr ⟨n0 + 1 + j, h1, by omega, by rw [show n0 + 1 + j = n0 + (j + 1) by omega, hr_at hl, hLe]; exact hj⟩
include hP hn0 hPp hS hG hq in
theorem zr_add (x : Inc) (hx : x.ok) : ∃ S', rOk n0 S' (takeN G x) ∧ S.length ≤ S'.length ∧ evF C F_paddockref3_History_Add [.ptr n0 0, .d (.i .u32 ((G.length : Int) + 2)), .d (.agg x.cs)] (hz P S p G2 q []) = some (.d (.i .i64 (codeN G x)), hz P S' p G2 q []) := by
  obtain ⟨S', h1, hle, h2⟩ := refadd_at (zr_len hP hn0 (q := q) G2) (zr_all hP hn0 hPp hq G2) hS hG x hx
  exact ⟨S', h1, hle, by rw [hz_hr, hz_hr]; exact h2⟩
include hP hn0 hS in
theorem zr_trim : (if ((List.take (n0 + 1) (hz P S p G2 q [])).all (ltO (n0 + 1))) = true then List.take (n0 + 1) (hz P S p G2 q []) else hz P S p G2 q []) = hz P S p G2 q [] := by
  have hl := zr_len hP hn0 (q := q) G2
  rw [hz_hr]
  obtain ⟨v, T, hLe, hT, hv⟩ := hS
  rcases hv with ⟨h1, h2, h3⟩ | ⟨j, h1, hj⟩
  · rw [List.take_of_length_le (by rw [hr_len hl, hLe, h3]; exact Nat.le_refl _), ite_self]
  · rw [if_neg]
    rw [hr_take hl, hr_all, hLe, h1]
    simp [ltO, lt, lts]
end
theorem both9_at (l : List Inc) (hok : ∀ x ∈ l, x.ok) (hlen : l.length ≤ 1000) {p n0 : Nat} (hP : ([] : Heap).length = p) (hn0 : p + 12 = n0) :
    ∃ S, rOk n0 S (takeAll l) ∧ evF C F_paddocklaw9_both [.d (.sl (l.map Inc.d))] [] = some (.tup [.ptr (p + 2) 0, .ptr n0 0], hz [] S p (takeAll l) grb0 []) := by
  have hPp : plain [] := fun _ => rfl
  have hnew := h_new hP
  have hlm : (l.map Inc.d).length = l.length := List.length_map _
  have hl0 := hh_len hP hn0
  have n1 : (p + 2 < n0 + 1) = True := eq_true (by omega)
  have n2 : (n0 < n0 + 1) = True := eq_true (by omega)
  have hl1 : ∀ R, (hz [] [R] p [] grb0 []).length = n0 + 1 := fun R => hz_len hP (S := [R]) (n := n0 + 1) (by show p + 12 + 1 = n0 + 1; omega) _ _ []
  have hz0 : ∀ R, hh [] p [] grb0 [R] = hz [] [R] p [] grb0 [] := fun _ => rfl
  rw [evF_code (rfl : C F_paddocklaw9_both = some a_paddocklaw9_both) _ _ rfl]
  simp (config := {decide := true}) only [c_paddocklaw9_both, hnew, hl0, hl1, hh_push, hz0, n1, n2, Nat.zero_le, thaws, thaw, ite_self, Pk.EVL, keepT, enum, ↓reduceIte, ev, act, appT, appW, callee, toDs, toD, loadA, storeA, subA, subD, updA, Eff.on, resA, resVs, resV, lk, finish, frzR, frzVs, frzV, fznR, fzns, fzn, lts, lt, ltO, List.all, pairsOk, indep, reduceCtorEq, Nat.reduceEqDiff, Nat.reduceAdd, Nat.reduceLeDiff, stb, thaws, List.drop, intOfA, binD, binI, unD, mmL, buildA, mkAgg, allD, bslD, behind, behind0, takeAt, frzAs, frzA, adoptR, adopt, isD, isD0, trim, List.take, binS, sliceA, bnd, zOk, elems, Nat.reduceBNe, inpl, Nat.reduceLT, Nat.reduceBEq, Nat.reduceSub, Nat.reduceMul, Int.reduceLT, Int.reduceLE, Int.reduceEq, Int.reduceToNat, Int.reduceNeg, thaw, nodup, refsV, adopts, sameH_self]
  simp only [Option.bind_assoc]
  refine bind_exA (loop_run (fun i T H => lk T 0 = .d (.sl (l.map Inc.d)) ∧ lk T 4 = .ptr (p + 2) 0 ∧ lk T 5 = .ptr n0 0 ∧ lk T 6 = .d (.i .i64 (i : Nat)) ∧ ∃ S, rOk n0 S (takeAll (l.take i)) ∧ H = hz [] S p (takeAll (l.take i)) grb0 [])
    (fun e T H => e = .exit 0 ∧ lk T 4 = .ptr (p + 2) 0 ∧ lk T 5 = .ptr n0 0 ∧ ∃ S, rOk n0 S (takeAll l) ∧ H = hz [] S p (takeAll l) grb0 []) l.length ?_ ?_ l.length 0 _ _ (by omega) ⟨rfl, rfl, rfl, rfl, _, rOk_new n0, rfl⟩) ?_
  · rintro i T H hi ⟨h0, h4, h5, h6, S, hS, rfl⟩
    obtain ⟨x, hx⟩ : ∃ x, l[i]? = some x := ⟨l[i]'hi, List.getElem?_eq_getElem _⟩
    have hxd := list_idx Inc.d hx
    have hxo := hok x (List.mem_of_getElem? hx)
    have hG : goodI (takeAll (l.take i)) := takeAll_good fun y hy => hok y (List.mem_of_mem_take hy)
    have hnext : takeAll (l.take (i + 1)) = takeN (takeAll (l.take i)) x := by rw [take_succ' hx, takeAll_snoc]
    have hGl := hG.1
    rw [hnext]
    generalize takeAll (l.take i) = G at *
    have hSp := rOk_pos hS
    have hSa := rOk_all hS
    obtain ⟨m, hm⟩ : ∃ m, p + 12 + S.length = m := ⟨_, rfl⟩
    have hSm : ∀ k, S.all (ltO (m + k)) = true := fun k => by rw [← hm, hn0]; exact hSa k
    have TR := fun G2 => zr_trim hP hn0 hS (q := grb0) G2
    have LN := hz_len hP hm
    have L1 := z_last hP hm hPp hSm (l := G) grb0_pl plain_nil''
    have A1 : evF C F_history_History_Add [.ptr (p + 2) 0, .d (.i .u32 ((G.length : Int) + 2)), .d (.agg x.cs)] (hz [] S p G grb0 []) = some (.d (.i .i64 (codeN G x)), hz [] S p (takeN G x) grb0 []) := z_add hP hm hPp hSm hG grb0_pl plain_nil'' ((G.length : Int) + 2) (by omega) x hxo
    have L2 := zr_last hP hn0 hPp hS hG grb0_pl (takeN G x)
    obtain ⟨S', hS', hSS, A2⟩ := zr_add hP hn0 hPp hS hG grb0_pl (takeN G x) x hxo
    have AL := fun G => hz_all0 hP hm hPp hSm G grb0_pl plain_nil''
    have LN2 := hz_len (S := S') hP rfl
    have hle : m ≤ p + 12 + S'.length := by omega
    have hle' : (m ≤ p + 12 + S'.length) = True := eq_true hle
    have hw1 : IntKind.u32.wrap (((G.length : Int) + 1) + 1) = (G.length : Int) + 2 := by rw [wu32 (by omega)]; omega
    have hd : decide ((i : Int) < ((l.length : Nat) : Int)) = true := by simp; omega
    have hw : IntKind.i64.wrap ((i : Int) + 1) = ((i + 1 : Nat) : Int) := wi64 (by omega)
    have b0 : (0 ≤ (i : Int)) = True := eq_true (Int.natCast_nonneg _)
    have b1 : ((i : Int) < ((l.length : Nat) : Int)) = True := eq_true (by omega)
    have n3 : (p + 2 < m) = True := eq_true (by omega)
    have n4 : (n0 < m) = True := eq_true (by omega)
    simp (config := {decide := true}) only [K_paddocklaw9_both_0, l_paddocklaw9_both_0, h0, h4, h5, h6, hlm, hxd, TR, AL, LN, LN2, L1, A1, L2, A2, hle', hw1, hd, hw, b0, b1, n1, n2, n3, n4, List.length_nil, Nat.add_zero, Nat.le_refl, Int.toNat_natCast, ite_self, Pk.EVL, keepT, enum, ↓reduceIte, ev, act, appT, appW, callee, toDs, toD, loadA, storeA, subA, subD, updA, Eff.on, resA, resVs, resV, lk, finish, frzR, frzVs, frzV, fznR, fzns, fzn, lts, lt, ltO, List.all, pairsOk, indep, reduceCtorEq, Nat.reduceEqDiff, Nat.reduceAdd, Nat.reduceLeDiff, stb, thaws, List.drop, intOfA, binD, binI, unD, mmL, buildA, mkAgg, allD, bslD, behind, behind0, takeAt, frzAs, frzA, adoptR, adopt, isD, isD0, trim, List.take, binS, sliceA, bnd, zOk, elems, Nat.reduceBNe, inpl, Nat.reduceLT, Nat.reduceBEq, Nat.reduceSub, Nat.reduceMul, Int.reduceLT, Int.reduceLE, Int.reduceEq, Int.reduceToNat, Int.reduceNeg, thaw, nodup, refsV, adopts, sameH_self, Pk.TY_Inc]
    exact ⟨_, _, _, rfl, .inl ⟨rfl, rfl, rfl, rfl, rfl, S', hS', rfl⟩⟩
  · rintro T H ⟨h0, h4, h5, h6, S, hS, rfl⟩
    rw [List.take_length] at *
    have TR := fun G2 => zr_trim hP hn0 hS (q := grb0) G2
    have hd : decide (((l.length : Nat) : Int) < ((l.length : Nat) : Int)) = false := by simp
    simp (config := {decide := true}) only [K_paddocklaw9_both_0, l_paddocklaw9_both_0, h0, h4, h5, h6, hlm, TR, hd, n1, n2, ite_self, Pk.EVL, keepT, enum, ↓reduceIte, ev, act, appT, appW, callee, toDs, toD, loadA, storeA, subA, subD, updA, Eff.on, resA, resVs, resV, lk, finish, frzR, frzVs, frzV, fznR, fzns, fzn, lts, lt, ltO, List.all, pairsOk, indep, reduceCtorEq, Nat.reduceEqDiff, Nat.reduceAdd, Nat.reduceLeDiff, stb, thaws, List.drop, intOfA, binD, binI, unD, mmL, buildA, mkAgg, allD, bslD, behind, behind0, takeAt, frzAs, frzA, adoptR, adopt, isD, isD0, trim, List.take, binS, sliceA, bnd, zOk, elems, Nat.reduceBNe, inpl, Nat.reduceLT, Nat.reduceBEq, Nat.reduceSub, Nat.reduceMul, Int.reduceLT, Int.reduceLE, Int.reduceEq, Int.reduceToNat, Int.reduceNeg, thaw, nodup, refsV, adopts, sameH_self, Pk.TY_Inc]
    exact ⟨_, _, _, rfl, by simp, rfl, rfl, rfl, S, hS, rfl⟩
  rintro e T H ⟨rfl, h4, h5, S, hS, rfl⟩
  refine ⟨S, hS, ?_⟩
  have hnl : (p + 2 < 0) = False := eq_false (by omega)
  have hnl2 : (n0 < 0) = False := eq_false (by omega)
  simp (config := {decide := true}) only [h4, h5, hnl, hnl2, ite_self, Pk.EVL, keepT, enum, ↓reduceIte, ev, act, appT, appW, callee, toDs, toD, loadA, storeA, subA, subD, updA, Eff.on, resA, resVs, resV, lk, finish, frzR, frzVs, frzV, fznR, fzns, fzn, lts, lt, ltO, List.all, pairsOk, indep, reduceCtorEq, Nat.reduceEqDiff, Nat.reduceAdd, Nat.reduceLeDiff, stb, thaws, List.drop, intOfA, binD, binI, unD, mmL, buildA, mkAgg, allD, bslD, behind, behind0, takeAt, frzAs, frzA, adoptR, adopt, isD, isD0, trim, List.take, binS, sliceA, bnd, zOk, elems, Nat.reduceBNe, inpl, Nat.reduceLT, Nat.reduceBEq, Nat.reduceSub, Nat.reduceMul, Int.reduceLT, Int.reduceLE, Int.reduceEq, Int.reduceToNat, Int.reduceNeg, thaw, nodup, refsV, adopts, sameH_self]
end Go.Proofs.Ytmiionadkdfbdaa

namespace Go.Proofs.Ytmiionadkdfbdaa
open Pv Go Pk
set_option maxRecDepth 10000
set_option maxHeartbeats 2000000
theorem actI_mem (m : Mp) (g : Int) : ∀ x ∈ actI m g, 0 ≤ x ∧ x < 5 := by
  intro x hx
  unfold actI actP at hx
  obtain ⟨y, hy, rfl⟩ := List.mem_map.1 hx
  have := pickP_mem _ _ _ y (List.mem_filter.1 hy).1
  omega
end Go.Proofs.Ytmiionadkdfbdaa

namespace Go.Proofs.Ytmiionadkdfbdaa
open Pv Go Pk
set_option maxRecDepth 10000
set_option maxHeartbeats 4000000
def kd (k o : Int) : Inc := ⟨k, o, 0⟩
/-- An increment of a kind for each daemon that is marked. -/
def selN (k : Int) (O : List Bool) (i : Nat) : List Inc := (List.range i).flatMap fun j : Nat => if O[j]? = some true then [kd k (j : Int)] else []
end Go.Proofs.Ytmiionadkdfbdaa

namespace Go.Proofs.Ytmiionadkdfbdaa
open Pv Go Pk
set_option maxRecDepth 10000
set_option maxHeartbeats 4000000
theorem ivL_in5 (l : List Inc) (g : Int) (hg : 0 ≤ g ∧ g < 4) : ∀ x ∈ ivL l g, ∀ y ∈ x.acting, 0 ≤ y ∧ y < 5 := by
  refine list_snoc_ind (M := fun l => ∀ x ∈ ivL l g, ∀ y ∈ x.acting, 0 ≤ y ∧ y < 5) ?_ ?_ l
  · rw [ivL_nil g hg]
    intro x hx
    simp at hx
    subst hx
    exact actI_mem firstM g
  · intro l z ih
    rw [ivL_snoc _ _ _ hg]
    unfold ivAdd
    split
    · exact ih
    · intro x hx
      rcases List.mem_append.1 hx with hx | hx
      · exact ih x hx
      · simp at hx
        subst hx
        exact actI_mem _ g
theorem lacks_all (l : List Inc) (g : Int) (hg : 0 ≤ g ∧ g < 4) (st : Int) : lacksL l g [0, 1, 2, 3, 4] st = [] := by
  unfold lacksL
  rw [List.filter_eq_nil_iff]
  intro x hx
  have h5 := ivL_in5 l g hg x (List.mem_of_mem_take hx)
  unfold missB
  cases ha : x.acting with
  | nil => simp
  | cons y r =>
    have := h5 y (by rw [ha]; simp)
    have hy : y ∈ [(0 : Int), 1, 2, 3, 4] := by
      obtain rfl | rfl | rfl | rfl | rfl : y = 0 ∨ y = 1 ∨ y = 2 ∨ y = 3 ∨ y = 4 := by omega
      all_goals simp
    have hany : (y :: r).any (fun z => decide (z ∈ [(0 : Int), 1, 2, 3, 4])) = true := by
      rw [List.any_cons, decide_eq_true hy]; rfl
    simp only [hany]
    simp
def wg0 (o : Int) : Inc := ⟨3, o, 0⟩
/-- The daemons that are not in a row, of the first i. -/
def othL (F : List Int) (i : Nat) : List Int := (List.range i).flatMap fun j : Nat => if F.any (fun z => z == (j : Int)) = true then [] else [(j : Int)]
end Go.Proofs.Ytmiionadkdfbdaa

namespace Go.Proofs.Ytmiionadkdfbdaa
open Pv Go Pk
set_option maxRecDepth 10000
set_option maxHeartbeats 4000000
theorem filter_le {α : Type} (p q : α → Bool) (l : List α) (h : ∀ x, p x = true → q x = true) : (l.filter p).length ≤ (l.filter q).length := by
  rw [← List.countP_eq_length_filter, ← List.countP_eq_length_filter]
  exact List.countP_mono_left fun x _ => h x
theorem miss_heard {A B : List Int} (hAB : ∀ y ∈ A, y ∈ B) (st : Int) (x : Itv) (h : missB B st x = true) : missB A st x = true := by
  unfold missB at *
  simp only [Bool.and_eq_true, decide_eq_true_eq, Bool.not_eq_true', List.any_eq_false] at *
  exact ⟨h.1, h.2.1, fun y hy hyA => h.2.2 y hy (hAB y hyA)⟩
theorem miss_later (A : List Int) (st : Int) (x : Itv) (h : missB A (st + 1) x = true) : missB A st x = true := by
  unfold missB at *
  simp only [Bool.and_eq_true, decide_eq_true_eq] at *
  exact ⟨h.1, by omega, h.2.2⟩
theorem lacks_heard {A B : List Int} (hAB : ∀ y ∈ A, y ∈ B) (l : List Inc) (g st : Int) : (lacksL l g B st).length ≤ (lacksL l g A st).length := filter_le _ _ _ fun x => miss_heard hAB st x
theorem lacks_later (A : List Int) (l : List Inc) (g st : Int) : (lacksL l g A (st + 1)).length ≤ (lacksL l g A st).length := filter_le _ _ _ fun x => miss_later A st x
theorem enough_heard {A B : List Int} (hAB : ∀ y ∈ A, y ∈ B) (l : List Inc) (g st : Int) (h : enoughB l g A st = true) : enoughB l g B st = true := by
  have hl := lacks_heard hAB l g st
  unfold enoughB at *
  simp only [Bool.and_eq_true, decide_eq_true_eq, Bool.not_eq_true', List.any_eq_false, Bool.not_eq_false'] at *
  refine ⟨by omega, fun x hx => ?_⟩
  have := h.2 x hx
  simp only [Bool.not_eq_true, decide_eq_false_iff_not, Classical.not_not] at this ⊢
  exact hAB x this
theorem enough_later (A : List Int) (l : List Inc) (g st : Int) (h : enoughB l g A st = true) : enoughB l g A (st + 1) = true := by
  have hl := lacks_later A l g st
  unfold enoughB at *
  simp only [Bool.and_eq_true, decide_eq_true_eq] at *
  exact ⟨by omega, h.2⟩
theorem enough_all {l : List Inc} (hl : goodI l) (g : Int) (hg : 0 ≤ g ∧ g < 4) (st : Int) : enoughB l g [0, 1, 2, 3, 4] st = true := by
  unfold enoughB
  rw [lacks_all l g hg st]
  simp only [List.length_nil, decide_true, Bool.true_and, Bool.not_eq_true', List.any_eq_false]
  intro x hx
  rw [last_acting hl g hg] at hx
  have := actI_mem _ _ x hx
  have hy : x ∈ [(0 : Int), 1, 2, 3, 4] := by
    obtain rfl | rfl | rfl | rfl | rfl : x = 0 ∨ x = 1 ∨ x = 2 ∨ x = 3 ∨ x = 4 := by omega
    all_goals simp
  rw [decide_eq_true hy]
  decide
end Go.Proofs.Ytmiionadkdfbdaa

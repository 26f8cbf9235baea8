/- The law HistoryPlays. -/
import Derived.Test.YtckaebcljcpobaaHrG
import Derived.Test.YtckaebcljcpobaaHsX
set_option linter.all false
namespace Go.Proofs.Ytckaebcljcpobaa
open Pv Go Pk
set_option maxRecDepth 10000
set_option maxHeartbeats 4000000
/-- The epoch that a step names. -/
def epP (G : List Inc) (s : HStep) : Int := if s.next = true then (G.length : Int) + 2 else s.epoch
def stepP (G : List Inc) (s : HStep) : List Inc := (addL G (epP G s) s.x).1
def plays (l : List HStep) : List Inc := l.foldl stepP []
theorem plays_snoc (l : List HStep) (s : HStep) : plays (l ++ [s]) = stepP (plays l) s := by unfold plays; rw [List.foldl_append]; rfl
theorem plays_good {l : List HStep} (h : ∀ s ∈ l, s.ok) : goodI (plays l) := by
  induction l using list_snoc_ind with
  | h0 => exact good_nil
  | hs l s ih =>
    rw [plays_snoc]
    exact addL_good (ih fun y hy => h y (by simp [hy])) (h s (by simp)).2
theorem addL_len (G : List Inc) (e : Int) (x : Inc) : (addL G e x).1.length ≤ G.length + 1 := by
  unfold addL
  split
  · simp
  · split
    · simp
    · split <;> simp
theorem plays_len (l : List HStep) : (plays l).length ≤ l.length := by
  induction l using list_snoc_ind with
  | h0 => exact Nat.le_refl _
  | hs l s ih =>
    rw [plays_snoc, List.length_append]
    have := addL_len (plays l) (epP (plays l) s) s.x
    show (addL _ _ _).1.length ≤ _
    simp only [List.length_cons, List.length_nil]
    omega
theorem zr_get {P S : Heap} {p n n0 : Nat} (hP : P.length = p) (hn : p + 12 + S.length = n) (hn0 : p + 12 = n0) {G : List Inc} (hR : rOk n0 S G) : ∃ v, (∀ G1 q Y, (hz P S p G1 q Y)[n0]? = some (.box (.agg [v]))) ∧
    ((v = .nilS ∧ G = []) ∨ ∃ o, v = .view o G.length 3 0 G.length ∧ o < n ∧ ∀ G1 q Y, (hz P S p G1 q Y)[o]? = some (.arr (G.map Inc.d) true)) := by
  have hget : ∀ G1 q Y (i : Nat), i < S.length → (hz P S p G1 q Y)[n0 + i]? = S[i]? := fun G1 q Y i hi => by
    unfold hz
    rw [← hn0, show p + 12 + i = p + (12 + i) by omega, hq_at hP, List.getElem?_append_right (by rw [hobs_len]; omega), hobs_len, List.getElem?_append_left (by omega)]
    congr 1
    omega
  have hRp := rOk_pos hR
  obtain ⟨v, T, hRe, hT, hv⟩ := hR
  refine ⟨v, fun G1 q Y => ?_, ?_⟩
  · have := hget G1 q Y 0 hRp
    rw [Nat.add_zero] at this
    rw [this, hRe]
    rfl
  · rcases hv with ⟨h1, h2, _⟩ | ⟨j, h1, hj⟩
    · exact .inl ⟨h1, h2⟩
    · have hjl := (List.getElem?_eq_some_iff.1 hj).1
      have hl2 : S.length = T.length + 1 := by rw [hRe]; rfl
      refine .inr ⟨n0 + 1 + j, h1, by omega, fun G1 q Y => ?_⟩
      rw [show n0 + 1 + j = n0 + (j + 1) by omega, hget _ _ _ _ (by omega), hRe]
      exact hj
theorem plays_law (l : List HStep) (hok : ∀ s ∈ l, s.ok) (gr : Int) (hgr : 0 ≤ gr ∧ gr < 256) (ep : Int) (hep : 0 ≤ ep ∧ ep < 4294967296) : evF C F_paddocklaw5_HistoryPlays [.d (.sl (l.map HStep.d)), .d (.i .u8 gr), .d (.i .u32 ep)] [] = some (.d (.b true), []) := by
  obtain ⟨p, hP⟩ : ∃ p, ([] : Heap).length = p := ⟨_, rfl⟩
  obtain ⟨n0, hn0⟩ : ∃ n0, p + 12 = n0 := ⟨_, rfl⟩
  have hPp : plain [] := fun _ => rfl
  have hnil : plain [] := fun _ => rfl
  have hnew := h_new hP
  have hlm : (l.map HStep.d).length = l.length := List.length_map _
  have hl0 := hh_len hP hn0
  have n1 : (p + 2 < n0 + 1) = True := eq_true (by omega)
  have n2 : (n0 < n0 + 1) = True := eq_true (by omega)
  have hl1 : ∀ R, (hz [] [R] p [] grb0 []).length = n0 + 1 := fun R => hz_len hP (S := [R]) (n := n0 + 1) (by show p + 12 + 1 = n0 + 1; omega) _ _ []
  have hz0 : ∀ R, hh [] p [] grb0 [R] = hz [] [R] p [] grb0 [] := fun _ => rfl
  rw [evF_code (rfl : C F_paddocklaw5_HistoryPlays = some a_paddocklaw5_HistoryPlays) _ _ rfl]
  rcases Bool.eq_false_or_eq_true (decide (((l.length : Nat) : Int) > 30)) with cl | cl
  · simp (config := {decide := true}) only [c_paddocklaw5_HistoryPlays, known5_at, hlm, cl, Pk.EVL, keepT, enum, ↓reduceIte, ev, act, appT, callee, toDs, toD, loadA, storeA, subA, subD, updA, Eff.on, resA, resVs, resV, lk, finish, frzR, frzVs, frzV, fznR, fzns, fzn, lts, lt, ltO, List.all, pairsOk, indep, reduceCtorEq, Nat.reduceEqDiff, Nat.reduceAdd, Nat.reduceLeDiff, stb, thaws, List.drop, intOfA, binD, binI, unD, mmL, buildA, mkAgg, allD, bslD, behind, behind0, takeAt, frzAs, frzA, adoptR, adopt, isD, isD0, trim, List.take, binS, sliceA, bnd, zOk, elems, Nat.reduceBNe, inpl, Nat.reduceLT, Nat.reduceBEq, Nat.reduceSub, Nat.reduceMul, Int.reduceLT, Int.reduceLE, Int.reduceEq, Int.reduceToNat, Int.reduceNeg, thaw, nodup, refsV, adopts]
  have hlen : l.length ≤ 30 := by have := of_decide_eq_false cl; omega
  simp (config := {decide := true}) only [c_paddocklaw5_HistoryPlays, known5_at, hlm, cl, hnew, hl0, hl1, hh_push, hz0, n1, n2, Nat.zero_le, thaws, thaw, ite_self, Pk.EVL, keepT, enum, ↓reduceIte, ev, act, appT, callee, toDs, toD, loadA, storeA, subA, subD, updA, Eff.on, resA, resVs, resV, lk, finish, frzR, frzVs, frzV, fznR, fzns, fzn, lts, lt, ltO, List.all, pairsOk, indep, reduceCtorEq, Nat.reduceEqDiff, Nat.reduceAdd, Nat.reduceLeDiff, stb, thaws, List.drop, intOfA, binD, binI, unD, mmL, buildA, mkAgg, allD, bslD, behind, behind0, takeAt, frzAs, frzA, adoptR, adopt, isD, isD0, trim, List.take, binS, sliceA, bnd, zOk, elems, Nat.reduceBNe, inpl, Nat.reduceLT, Nat.reduceBEq, Nat.reduceSub, Nat.reduceMul, Int.reduceLT, Int.reduceLE, Int.reduceEq, Int.reduceToNat, Int.reduceNeg, thaw, nodup, refsV, adopts]
  simp only [Option.bind_assoc]
  refine bind_run (loop_run (fun i T H => lk T 0 = .d (.sl (l.map HStep.d)) ∧ lk T 1 = .d (.i .u8 gr) ∧ lk T 2 = .d (.i .u32 ep) ∧ lk T 7 = .ptr (p + 2) 0 ∧ lk T 8 = .ptr n0 0 ∧ lk T 9 = .d (.i .i64 (i : Nat)) ∧ ∃ S, rOk n0 S (plays (l.take i)) ∧ H = hz [] S p (plays (l.take i)) grb0 [])
    (fun e T H => e = .exit 0 ∧ lk T 1 = .d (.i .u8 gr) ∧ lk T 2 = .d (.i .u32 ep) ∧ lk T 7 = .ptr (p + 2) 0 ∧ lk T 8 = .ptr n0 0 ∧ ∃ S, rOk n0 S (plays l) ∧ H = hz [] S p (plays l) grb0 []) l.length ?_ ?_ l.length 0 _ _ (by omega) ⟨rfl, rfl, rfl, rfl, rfl, rfl, _, rOk_new n0, rfl⟩) ?_
  · rintro i T H hi ⟨h0, h1, h2, h7, h8, h9, S, hS, rfl⟩
    obtain ⟨s, hs⟩ : ∃ s, l[i]? = some s := ⟨l[i]'hi, List.getElem?_eq_getElem _⟩
    have hsd := list_idx HStep.d hs
    have hso := hok s (List.mem_of_getElem? hs)
    have hG : goodI (plays (l.take i)) := plays_good fun y hy => hok y (List.mem_of_mem_take hy)
    have hnext : plays (l.take (i + 1)) = stepP (plays (l.take i)) s := by rw [take_succ' hs, plays_snoc]
    have hGl := hG.1
    rw [hnext]
    generalize plays (l.take i) = G at *
    have hSp := rOk_pos hS
    have hSa := rOk_all hS
    obtain ⟨m, hm⟩ : ∃ m, p + 12 + S.length = m := ⟨_, rfl⟩
    have hSm : ∀ k, S.all (ltO (m + k)) = true := fun k => by rw [← hm, hn0]; exact hSa k
    have TR := fun G2 => zr_trim hP hn0 hS (q := grb0) G2
    have LN := hz_len hP hm
    have hee : 0 ≤ epP G s ∧ epP G s < 4294967296 := by
      unfold epP
      split
      · omega
      · exact hso.1
    have A1 : evF C F_history_History_Add [.ptr (p + 2) 0, .d (.i .u32 (epP G s)), .d (.agg s.x.cs)] (hz [] S p G grb0 []) = some (.d (.i .i64 (addL G (epP G s) s.x).2), hz [] S p (stepP G s) grb0 []) := z_add hP hm hPp hSm hG grb0_pl hnil (epP G s) hee s.x hso.2
    have L2 := zr_last hP hn0 hPp hS hG grb0_pl G
    have A2' : ∃ S', rOk n0 S' (stepP G s) ∧ S.length ≤ S'.length ∧ evF C F_paddockref3_History_Add [.ptr n0 0, .d (.i .u32 (epP G s)), .d (.agg s.x.cs)] (hz [] S p (stepP G s) grb0 []) = some (.d (.i .i64 (addL G (epP G s) s.x).2), hz [] S' p (stepP G s) grb0 []) := by
      by_cases c : epP G s = (G.length : Int) + 2
      · have := zr_add hP hn0 hPp hS hG grb0_pl (stepP G s) s.x hso.2
        unfold stepP at this ⊢
        rw [c] at this ⊢
        exact this
      · refine ⟨S, ?_, Nat.le_refl _, zq_no hP hm hPp hSm hn0 (W := []) (by rw [List.append_nil]) hS hG (stepP G s) grb0_pl hnil (epP G s) hee c s.x⟩
        have : stepP G s = G := by
          unfold stepP addL
          by_cases c1 : epP G s ≤ (G.length : Int) + 1
          · rw [if_pos c1]
          · rw [if_neg c1, if_pos (by omega)]
        rw [this]
        exact hS
    obtain ⟨S', hS', hSS, A2⟩ := A2'
    have AL := fun G => hz_all0 hP hm hPp hSm G grb0_pl hnil
    have LN2 := hz_len (S := S') hP rfl
    have hle : m ≤ p + 12 + S'.length := by omega
    have hle' : (m ≤ p + 12 + S'.length) = True := eq_true hle
    have hw1 : IntKind.u32.wrap (((G.length : Int) + 1) + 1) = (G.length : Int) + 2 := by rw [wu32 (by omega)]; omega
    have hd : decide ((i : Int) < ((l.length : Nat) : Int)) = true := by simp; omega
    have hw : IntKind.i64.wrap ((i : Int) + 1) = ((i + 1 : Nat) : Int) := wi64 (by omega)
    have b0 : (0 ≤ (i : Int)) = True := eq_true (Int.natCast_nonneg _)
    have b1 : ((i : Int) < ((l.length : Nat) : Int)) = True := eq_true (by omega)
    have n3 : (p + 2 < m) = True := eq_true (by omega)
    have n4 : (n0 < m) = True := eq_true (by omega)
    have ne : ((addL G (epP G s) s.x).2 != (addL G (epP G s) s.x).2) = false := by simp
    have es : AV.eptr s.cs = .eptr (.b s.next :: .i .u32 s.epoch :: Inc.cs s.x) := rfl
    have ex : List.take 3 (Inc.cs s.x) = Inc.cs s.x := rfl
    have exl : (3 ≤ (Inc.cs s.x).length) = True := eq_true (Nat.le_refl 3)
    generalize hcode : (addL G (epP G s) s.x).2 = code at *
    generalize hG' : stepP G s = G' at *
    rcases Bool.eq_false_or_eq_true s.next with c | c
    · have hepP : epP G s = (G.length : Int) + 2 := by unfold epP; rw [if_pos c]
      rw [hepP] at A1 A2
      simp (config := {decide := true}) only [K_paddocklaw5_HistoryPlays_0, l_paddocklaw5_HistoryPlays_0, h0, h1, h2, h7, h8, h9, hlm, hsd, es, ex, exl, c, TR, AL, LN, LN2, L2, A1, A2, hle', hw1, hd, hw, b0, b1, n1, n2, n3, n4, ne, sameH_self, List.length_nil, Nat.add_zero, Nat.le_refl, Int.toNat_natCast, ite_self, Pk.EVL, keepT, enum, ↓reduceIte, ev, act, appT, callee, toDs, toD, loadA, storeA, subA, subD, updA, Eff.on, resA, resVs, resV, lk, finish, frzR, frzVs, frzV, fznR, fzns, fzn, lts, lt, ltO, List.all, pairsOk, indep, reduceCtorEq, Nat.reduceEqDiff, Nat.reduceAdd, Nat.reduceLeDiff, stb, thaws, List.drop, intOfA, binD, binI, unD, mmL, buildA, mkAgg, allD, bslD, behind, behind0, takeAt, frzAs, frzA, adoptR, adopt, isD, isD0, trim, List.take, binS, sliceA, bnd, zOk, elems, Nat.reduceBNe, inpl, Nat.reduceLT, Nat.reduceBEq, Nat.reduceSub, Nat.reduceMul, Int.reduceLT, Int.reduceLE, Int.reduceEq, Int.reduceToNat, Int.reduceNeg, thaw, nodup, refsV, adopts, Pk.TY_HStep, Pk.TY_Inc]
      exact ⟨_, _, _, rfl, .inl ⟨rfl, rfl, rfl, rfl, rfl, rfl, rfl, S', hS', rfl⟩⟩
    · have hepP : epP G s = s.epoch := by unfold epP; rw [if_neg (by rw [c]; simp)]
      rw [hepP] at A1 A2
      simp (config := {decide := true}) only [K_paddocklaw5_HistoryPlays_0, l_paddocklaw5_HistoryPlays_0, h0, h1, h2, h7, h8, h9, hlm, hsd, es, ex, exl, c, TR, AL, LN, LN2, L2, A1, A2, hle', hw1, hd, hw, b0, b1, n1, n2, n3, n4, ne, sameH_self, List.length_nil, Nat.add_zero, Nat.le_refl, Int.toNat_natCast, ite_self, Pk.EVL, keepT, enum, ↓reduceIte, ev, act, appT, callee, toDs, toD, loadA, storeA, subA, subD, updA, Eff.on, resA, resVs, resV, lk, finish, frzR, frzVs, frzV, fznR, fzns, fzn, lts, lt, ltO, List.all, pairsOk, indep, reduceCtorEq, Nat.reduceEqDiff, Nat.reduceAdd, Nat.reduceLeDiff, stb, thaws, List.drop, intOfA, binD, binI, unD, mmL, buildA, mkAgg, allD, bslD, behind, behind0, takeAt, frzAs, frzA, adoptR, adopt, isD, isD0, trim, List.take, binS, sliceA, bnd, zOk, elems, Nat.reduceBNe, inpl, Nat.reduceLT, Nat.reduceBEq, Nat.reduceSub, Nat.reduceMul, Int.reduceLT, Int.reduceLE, Int.reduceEq, Int.reduceToNat, Int.reduceNeg, thaw, nodup, refsV, adopts, Pk.TY_HStep, Pk.TY_Inc]
      exact ⟨_, _, _, rfl, .inl ⟨rfl, rfl, rfl, rfl, rfl, rfl, rfl, S', hS', rfl⟩⟩
  · rintro T H ⟨h0, h1, h2, h7, h8, h9, S, hS, rfl⟩
    rw [List.take_length] at *
    have TR := fun G2 => zr_trim hP hn0 hS (q := grb0) G2
    have hd : decide (((l.length : Nat) : Int) < ((l.length : Nat) : Int)) = false := by simp
    simp (config := {decide := true}) only [K_paddocklaw5_HistoryPlays_0, l_paddocklaw5_HistoryPlays_0, h0, h1, h2, h7, h8, h9, hlm, TR, hd, n1, n2, ite_self, Pk.EVL, keepT, enum, ↓reduceIte, ev, act, appT, callee, toDs, toD, loadA, storeA, subA, subD, updA, Eff.on, resA, resVs, resV, lk, finish, frzR, frzVs, frzV, fznR, fzns, fzn, lts, lt, ltO, List.all, pairsOk, indep, reduceCtorEq, Nat.reduceEqDiff, Nat.reduceAdd, Nat.reduceLeDiff, stb, thaws, List.drop, intOfA, binD, binI, unD, mmL, buildA, mkAgg, allD, bslD, behind, behind0, takeAt, frzAs, frzA, adoptR, adopt, isD, isD0, trim, List.take, binS, sliceA, bnd, zOk, elems, Nat.reduceBNe, inpl, Nat.reduceLT, Nat.reduceBEq, Nat.reduceSub, Nat.reduceMul, Int.reduceLT, Int.reduceLE, Int.reduceEq, Int.reduceToNat, Int.reduceNeg, thaw, nodup, refsV, adopts]
    exact ⟨_, _, _, rfl, by simp, rfl, rfl, rfl, rfl, rfl, S, hS, rfl⟩
  rintro e T H ⟨rfl, h1, h2, h7, h8, S, hS, rfl⟩
  have hG : goodI (plays l) := plays_good hok
  have hGl : (plays l).length ≤ 30 := Nat.le_trans (plays_len l) hlen
  generalize plays l = G at *
  have hSp := rOk_pos hS
  have hSa := rOk_all hS
  obtain ⟨n, hm⟩ : ∃ m, p + 12 + S.length = m := ⟨_, rfl⟩
  have hSm : ∀ k, S.all (ltO (n + k)) = true := fun k => by rw [← hm, hn0]; exact hSa k
  have AK := alike_at hP hm hPp hSm hn0 (W := []) (List.append_nil S).symm hS hG grb0_pl gr hgr
  have q1 := frzI_pl grb0_pl 4
  generalize frzI grb0 4 = q at *
  have hq2 : (q.frzN 4).pl := Grb.frzN_pl q1 4
  have kl := hz_len hP hm
  have ka := hz_at hP hm
  have ka0 := hz_at0 hP hm
  have ks := hz_set hP hm
  have ks0 := hz_set0 hP hm
  have kt := hz_take hP hm
  have kt0 := hz_take0 hP hm
  have n3 : (p + 2 < n) = True := eq_true (by omega)
  have n4 : (n0 < n) = True := eq_true (by omega)
  have n5 : (p + 2 < n + 2) = True := eq_true (by omega)
  have n6 : (n0 < n + 2) = True := eq_true (by omega)
  have n7 : (p + 2 < n + 1) = True := eq_true (by omega)
  have n8 : (n0 < n + 1) = True := eq_true (by omega)
  have pY : ∀ (a b : DV), plain [.box (.d a), .box (.d b)] := fun _ _ _ => rfl
  have pX : ∀ (a : DV), plain [.box (.d a)] := fun _ _ => rfl
  have M1 := @z_map _ _ _ _ hP hm hPp hSm G q q1 _ hnil ep
  have I1 := fun a => @z_inc _ _ _ _ hP hm hPp hSm G q q1 _ (pX a) ep
  have L2 := fun a b => zq_last hP hm hPp hSm hn0 (W := []) (List.append_nil S).symm hS hG G q1 (pY a b)
  have al0 : ∀ Y, plain Y → (hz [] S p G q Y).all (ltO n) = true := fun Y hY => hz_all0 hP hm hPp hSm G q1 hY
  have al2 : ∀ Y, plain Y → (hz [] S p G q Y).all (ltO (n + 2)) = true := fun Y hY => hz_all hP hm hPp hSm G q1 hY 2
  have al1 : ∀ Y, plain Y → (hz [] S p G q Y).all (ltO (n + 1)) = true := fun Y hY => hz_all hP hm hPp hSm G q1 hY 1
  obtain ⟨v, hbx, hrow⟩ := zr_get hP hm hn0 hS
  have CP : ∀ a b : DV, evF C F_history_History_Copy [.ptr (p + 2) 0] (hz [] S p G q [.box (.d a), .box (.d b)]) = some (.ptr (n + 2 + 2) 0, hz [] (S ++ (.box (.d a) :: .box (.d b) :: cobs (n + 2) (hsOf G) grb0)) p G (q.frzN 4) []) := fun a b => by
    have := hcopy_at (S := S ++ [.box (.d a), .box (.d b)]) hP (n := n + 2) (by simp; omega) rfl (by rw [List.all_append, hSm 2]; rfl) (q1 _) (hsOf G) (hsOf_ok hG)
    unfold hz
    rw [this, List.append_assoc, List.append_nil]
    rfl
  obtain ⟨q', hqe⟩ : ∃ q', q.frzN 4 = q' := ⟨_, rfl⟩
  rw [hqe] at hq2 CP
  obtain ⟨x, hx⟩ : ∃ x, x = (⟨4, 0, 0⟩ : Inc) := ⟨_, rfl⟩
  have hxi : isInc x = true := by rw [hx]; decide
  have hxo : x.ok := by rw [hx]; exact x4_ok
  have hkk : ∀ (a b : DV) (G2 : List Inc), hz [] (S ++ (.box (.d a) :: .box (.d b) :: cobs (n + 2) (hsOf G2) grb0)) p G q' [] = hq (hobs p (hsOf G) q' ++ (S ++ [.box (.d a), .box (.d b)])) (cobs (n + 2) (hsOf G2) grb0) [] := fun a b G2 => by
    simp [hz, Go.Proofs.Ytckaebcljcpobaa.hq]
  have hp2 : ∀ a b : DV, (hobs p (hsOf G) q' ++ (S ++ [Ob.box (.d a), Ob.box (.d b)])).length = n + 2 := fun a b => by
    simp only [List.length_append, hobs_len, List.length_cons, List.length_nil] at hP ⊢
    omega
  have hp2a : ∀ a b : DV, (hobs p (hsOf G) q' ++ (S ++ [Ob.box (.d a), Ob.box (.d b)])).all (ltO (n + 2 + 7)) = true := fun a b => by
    have h1 := hobs_ltZ hP hm (hsOf G) hq2 9
    have h2 := hSm 9
    rw [List.all_append, List.all_append, show n + 2 + 7 = n + 9 by omega, h1, h2]
    rfl
  have L3 : ∀ a b : DV, evF C F_history_History_Last [.ptr (n + 2 + 2) 0] (hz [] (S ++ (.box (.d a) :: .box (.d b) :: cobs (n + 2) (hsOf G) grb0)) p G q' []) = some (.d (.i .u32 ((G.length : Int) + 1)), hz [] (S ++ (.box (.d a) :: .box (.d b) :: cobs (n + 2) (hsOf G) grb0)) p G q' []) := fun a b => by
    rw [hkk]
    have := clast_at (S := []) (hp2 a b) (n := n + 2 + 7) rfl (hp2a a b) rfl (grb0_pl _) (hsOf G)
    rwa [hsOf_last] at this
  have A3 : ∀ a b : DV, evF C F_history_History_Add [.ptr (n + 2 + 2) 0, .d (.i .u32 ((G.length : Int) + 2)), .d (.agg x.cs)] (hz [] (S ++ (.box (.d a) :: .box (.d b) :: cobs (n + 2) (hsOf G) grb0)) p G q' []) = some (.d (.i .i64 0), hz [] (S ++ (.box (.d a) :: .box (.d b) :: cobs (n + 2) (hsOf (G ++ [x])) grb0)) p G q' []) := fun a b => by
    rw [hkk, hkk]
    have := cadd_at (S := []) (hp2 a b) (n := n + 2 + 7) rfl (hp2a a b) rfl (grb0_pl _) G hG ((G.length : Int) + 2) (by omega) x hxo
    rwa [addL_next, if_pos ⟨hxi, by omega⟩] at this
  have hS2 : ∀ (a b : DV) (k : Nat), (S ++ (.box (.d a) :: .box (.d b) :: cobs (n + 2) (hsOf (G ++ [x])) grb0)).all (ltO (n + 2 + 7 + k)) = true := fun a b k => by
    have h2 := hSm (9 + k)
    have h3 := cobs_ltO (n + 2) k (hsOf (G ++ [x])) grb0
    rw [List.all_append, show n + 2 + 7 + k = n + (9 + k) by omega, h2, Bool.true_and, List.all_cons, List.all_cons, show n + (9 + k) = n + 2 + 7 + k by omega, h3]
    rfl
  have AK2 := fun a b : DV => alike_at hP (n := n + 2 + 7) (S := S ++ (.box (.d a) :: .box (.d b) :: cobs (n + 2) (hsOf (G ++ [x])) grb0)) (by simp [cobs_len]; omega) hPp (hS2 a b) hn0 (W := .box (.d a) :: .box (.d b) :: cobs (n + 2) (hsOf (G ++ [x])) grb0) rfl hS hG hq2 gr hgr
  have kl2 : ∀ (a b : DV) (G2 : List Inc) (g : Grb), (hz [] (S ++ (.box (.d a) :: .box (.d b) :: cobs (n + 2) (hsOf G2) grb0)) p G g []).length = n + 9 := fun a b G2 g => by
    have := hz_len (S := S ++ (.box (.d a) :: .box (.d b) :: cobs (n + 2) (hsOf G2) grb0)) hP (n := n + 9) (by simp [cobs_len]; omega) G g []
    exact this
  have hxf : Inc.cs ⟨4, 0, 0⟩ = x.cs := by rw [hx]
  have w1 : IntKind.u32.wrap (((G.length : Int) + 1) + 1) = (G.length : Int) + 2 := by rw [wu32 (by omega)]; omega
  have m1 : (n + 2 ≤ n + 9) = True := eq_true (by omega)
  have m2 : (n ≤ n + 2) = True := eq_true (by omega)
  have m3 : (n + 9 ≤ n + 9) = True := eq_true (Nat.le_refl _)
  have e0 : ∀ c : Bool, eqV ETy.sb (.b c) (.b c) = some true := fun c => by cases c <;> rfl
  have d1 : decide (ep ≤ (G.length : Int) + 1) = decide (ep ≤ (G.length : Int) + 1) := rfl
  rcases Int.lt_or_le ep 1 with c1 | c1
  · have k1 : decide (ep ≥ 1) = false := decide_eq_false (by omega)
    have k2 : decide (1 ≤ ep ∧ ep ≤ (G.length : Int) + 1) = false := decide_eq_false (by omega)
    have k3 : decide (2 ≤ ep ∧ ep ≤ (G.length : Int) + 1) = false := decide_eq_false (by omega)
    rw [k2] at M1
    rw [k3] at I1
    generalize incAt G ep = y at *
    simp (config := {decide := true}) only [h1, h2, h7, h8, AK, M1, I1, L2, CP, L3, A3, AK2, kl, kl2, ka, ka0, ks, ks0, kt, kt0, hz_push, al0, al1, al2, pX, pY, n3, n4, n5, n6, n7, n8, m1, m2, m3, k1, e0, hxf, w1, sameH_self, hbx, ite_self, Nat.zero_le, Nat.le_refl, List.take_zero, plain_nil, plain_arr, plain_box, guardR_und, Pk.EVL, keepT, enum, ↓reduceIte, ev, act, appT, callee, toDs, toD, loadA, storeA, subA, subD, updA, Eff.on, resA, resVs, resV, lk, finish, frzR, frzVs, frzV, fznR, fzns, fzn, lts, lt, ltO, List.all, pairsOk, indep, reduceCtorEq, Nat.reduceEqDiff, Nat.reduceAdd, Nat.reduceLeDiff, stb, thaws, List.drop, intOfA, binD, binI, unD, mmL, buildA, mkAgg, allD, bslD, behind, behind0, takeAt, frzAs, frzA, adoptR, adopt, isD, isD0, trim, List.take, binS, sliceA, bnd, zOk, elems, Nat.reduceBNe, inpl, Nat.reduceLT, Nat.reduceBEq, Nat.reduceSub, Nat.reduceMul, Int.reduceLT, Int.reduceLE, Int.reduceEq, Int.reduceToNat, Int.reduceNeg, thaw, nodup, refsV, adopts, Pk.TY_Mp, Pk.TY_Inc]
  rcases Int.lt_or_le ((G.length : Int) + 1) ep with c2 | c2
  · have k1 : decide (ep ≥ 1) = true := decide_eq_true (by omega)
    have k4 : decide (ep ≤ (G.length : Int) + 1) = false := decide_eq_false (by omega)
    have k2 : decide (1 ≤ ep ∧ ep ≤ (G.length : Int) + 1) = false := decide_eq_false (by omega)
    have k3 : decide (2 ≤ ep ∧ ep ≤ (G.length : Int) + 1) = false := decide_eq_false (by omega)
    rw [k2] at M1
    rw [k3] at I1
    generalize incAt G ep = y at *
    simp (config := {decide := true}) only [h1, h2, h7, h8, AK, M1, I1, L2, CP, L3, A3, AK2, kl, kl2, ka, ka0, ks, ks0, kt, kt0, hz_push, al0, al1, al2, pX, pY, n3, n4, n5, n6, n7, n8, m1, m2, m3, k1, k4, e0, hxf, w1, sameH_self, hbx, ite_self, Nat.zero_le, Nat.le_refl, List.take_zero, plain_nil, plain_arr, plain_box, guardR_und, Pk.EVL, keepT, enum, ↓reduceIte, ev, act, appT, callee, toDs, toD, loadA, storeA, subA, subD, updA, Eff.on, resA, resVs, resV, lk, finish, frzR, frzVs, frzV, fznR, fzns, fzn, lts, lt, ltO, List.all, pairsOk, indep, reduceCtorEq, Nat.reduceEqDiff, Nat.reduceAdd, Nat.reduceLeDiff, stb, thaws, List.drop, intOfA, binD, binI, unD, mmL, buildA, mkAgg, allD, bslD, behind, behind0, takeAt, frzAs, frzA, adoptR, adopt, isD, isD0, trim, List.take, binS, sliceA, bnd, zOk, elems, Nat.reduceBNe, inpl, Nat.reduceLT, Nat.reduceBEq, Nat.reduceSub, Nat.reduceMul, Int.reduceLT, Int.reduceLE, Int.reduceEq, Int.reduceToNat, Int.reduceNeg, thaw, nodup, refsV, adopts, Pk.TY_Mp, Pk.TY_Inc]
  obtain ⟨k, rfl⟩ : ∃ k : Nat, ep = (k : Int) + 1 := ⟨(ep - 1).toNat, by omega⟩
  have M2 := fun a b => zq_map hP hm hPp hSm hn0 (W := []) (List.append_nil S).symm hS hG G q1 (pY a b) k (by omega)
  have k1 : decide ((k : Int) + 1 ≥ 1) = true := decide_eq_true (by omega)
  have k4 : decide ((k : Int) + 1 ≤ (G.length : Int) + 1) = true := decide_eq_true (by omega)
  have k2 : decide (1 ≤ (k : Int) + 1 ∧ (k : Int) + 1 ≤ (G.length : Int) + 1) = true := decide_eq_true (by omega)
  rw [k2, if_pos rfl, show ((k : Int) + 1 - 1).toNat = k by omega] at M1
  generalize mapAt (G.take k) = mk at *
  have f1 : (n + 2 == n + 2) = true := by simp
  cases k with
  | zero =>
    have k3 : decide (2 ≤ ((0 : Nat) : Int) + 1 ∧ ((0 : Nat) : Int) + 1 ≤ (G.length : Int) + 1) = false := decide_eq_false (by omega)
    have k5 : decide (((0 : Nat) : Int) + 1 ≥ 2) = false := by decide
    rw [k3] at I1
    generalize incAt G (((0 : Nat) : Int) + 1) = y at *
    simp (config := {decide := true}) only [h1, h2, h7, h8, AK, M1, M2, I1, L2, CP, L3, A3, AK2, kl, kl2, ka, ka0, ks, ks0, kt, kt0, hz_push, al0, al1, al2, pX, pY, n3, n4, n5, n6, n7, n8, m1, m2, m3, k1, k4, k5, e0, f1, hxf, w1, sameH_self, hbx, ite_self, Nat.zero_le, Nat.le_refl, List.take_zero, plain_nil, plain_arr, plain_box, guardR_und, Pk.EVL, keepT, enum, ↓reduceIte, ev, act, appT, callee, toDs, toD, loadA, storeA, subA, subD, updA, Eff.on, resA, resVs, resV, lk, finish, frzR, frzVs, frzV, fznR, fzns, fzn, lts, lt, ltO, List.all, pairsOk, indep, reduceCtorEq, Nat.reduceEqDiff, Nat.reduceAdd, Nat.reduceLeDiff, stb, thaws, List.drop, intOfA, binD, binI, unD, mmL, buildA, mkAgg, allD, bslD, behind, behind0, takeAt, frzAs, frzA, adoptR, adopt, isD, isD0, trim, List.take, binS, sliceA, bnd, zOk, elems, Nat.reduceBNe, inpl, Nat.reduceLT, Nat.reduceBEq, Nat.reduceSub, Nat.reduceMul, Int.reduceLT, Int.reduceLE, Int.reduceEq, Int.reduceToNat, Int.reduceNeg, thaw, nodup, refsV, adopts, Pk.TY_Mp, Pk.TY_Inc]
  | succ j =>
    have hj : j < G.length := by omega
    obtain ⟨y, hy⟩ : ∃ y, G[j]? = some y := ⟨G[j], List.getElem?_eq_getElem hj⟩
    have k3 : decide (2 ≤ ((j + 1 : Nat) : Int) + 1 ∧ ((j + 1 : Nat) : Int) + 1 ≤ (G.length : Int) + 1) = true := decide_eq_true (by omega)
    have k5 : decide (((j + 1 : Nat) : Int) + 1 ≥ 2) = true := decide_eq_true (by omega)
    have hin : incAt G (((j + 1 : Nat) : Int) + 1) = y := by
      unfold incAt
      rw [if_pos (by omega), show (((j + 1 : Nat) : Int) + 1 - 2).toNat = j by omega, hy]
      rfl
    rw [k3, hin] at I1
    rcases hrow with ⟨_, h⟩ | ⟨o, rfl, ho, hao⟩
    · rw [h] at hj; simp at hj
    have hyd := list_idx Inc.d hy
    have hGd : (G.map Inc.d).length = G.length := List.length_map _
    have w2 : IntKind.u32.wrap (((j + 1 : Nat) : Int) + 1 - 2) = (j : Int) := by rw [show ((j + 1 : Nat) : Int) + 1 - 2 = (j : Int) by omega]; exact wu32 (by omega)
    have b0 : (0 ≤ (j : Int)) = True := by simp
    have b1 : ((j : Int) < ((G.length : Nat) : Int)) = True := eq_true (by omega)
    have b2 : (o < n + 2) = True := eq_true (by omega)
    simp (config := {decide := true}) only [h1, h2, h7, h8, AK, M1, M2, I1, L2, CP, L3, A3, AK2, kl, kl2, ka, ka0, ks, ks0, kt, kt0, hz_push, al0, al1, al2, pX, pY, n3, n4, n5, n6, n7, n8, m1, m2, m3, k1, k4, k5, e0, f1, hxf, w1, w2, b0, b1, b2, hyd, hGd, sameH_self, hbx, hao, ite_self, Int.toNat_natCast, Nat.zero_add, Nat.zero_le, Nat.le_refl, List.take_zero, plain_nil, plain_arr, plain_box, guardR_und, Pk.EVL, keepT, enum, ↓reduceIte, ev, act, appT, callee, toDs, toD, loadA, storeA, subA, subD, updA, Eff.on, resA, resVs, resV, lk, finish, frzR, frzVs, frzV, fznR, fzns, fzn, lts, lt, ltO, List.all, pairsOk, indep, reduceCtorEq, Nat.reduceEqDiff, Nat.reduceAdd, Nat.reduceLeDiff, stb, thaws, List.drop, intOfA, binD, binI, unD, mmL, buildA, mkAgg, allD, bslD, behind, behind0, takeAt, frzAs, frzA, adoptR, adopt, isD, isD0, trim, List.take, binS, sliceA, bnd, zOk, elems, Nat.reduceBNe, inpl, Nat.reduceLT, Nat.reduceBEq, Nat.reduceSub, Nat.reduceMul, Int.reduceLT, Int.reduceLE, Int.reduceEq, Int.reduceToNat, Int.reduceNeg, thaw, nodup, refsV, adopts, Pk.TY_Mp, Pk.TY_Inc]
end Go.Proofs.Ytckaebcljcpobaa

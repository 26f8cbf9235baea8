/- The law MergeOnly. -/
import Derived.Test.YtfajplmkfpdhfaaMgL
set_option linter.all false
namespace Go.Proofs.Ytfajplmkfpdhfaa
open Pv Go Pk
set_option maxRecDepth 10000
set_option maxHeartbeats 2000000
theorem S8_step2 (st : Int) (hst : st ≤ 60) {L : List (Int × Opr)} (h : ∀ p ∈ L, p.2.ok) {i : Nat} {p : Int × Opr} (hp : L[i]? = some p) :
    (addS (S8 st (L.take i)) ⟨p.1, (((runE (L.take i)).length + 1 : Nat) : Int), p.2⟩ = (S8 st (L.take (i + 1)), 0) ∧ (runE (L.take (i + 1))).length = (runE (L.take i)).length + 1) ∨
    (addS (S8 st (L.take i)) ⟨p.1, (((runE (L.take i)).length + 1 : Nat) : Int), p.2⟩ = (State.zero, 10) ∧ runE (L.take (i + 1)) = runE (L.take i)) := by
  have hg := runE_good (L := L.take i) fun x hx => h x (List.mem_of_mem_take hx)
  have hsn : runE (L.take (i + 1)) = stepE (runE (L.take i)) p := by rw [take_succ' hp, runE_snoc]
  have ha := mk_add st hg (k := (runE (L.take i)).length - 6) (by omega) (by omega) hst ⟨p.1, (((runE (L.take i)).length + 1 : Nat) : Int), p.2⟩
  unfold S8
  rw [ha, hsn]
  unfold stepE
  by_cases c : nextE (lastOf (runE (L.take i))) ⟨p.1, (((runE (L.take i)).length + 1 : Nat) : Int), p.2⟩ = true
  · rw [if_pos c, if_pos c]
    refine .inl ⟨?_, by simp⟩
    congr 2
    simp only [List.length_append, List.length_cons, List.length_nil]
    omega
  · rw [if_neg c, if_neg c]
    exact .inr ⟨rfl, rfl⟩
theorem only_make {E X : List Entry} (hF : goodE (E ++ X)) (hE : goodE E) (hX : X.length ≤ 6) (h0 : 0 < X.length) :
    (makeM (mkSt 1 E (E.length - 6)) (mkSt 1 (E ++ X) ((E ++ X).length - 6))).kind = 1 ∧ (makeM (mkSt 1 E (E.length - 6)) (mkSt 1 (E ++ X) ((E ++ X).length - 6))).from_ = (E.length : Int) ∧
    (makeM (mkSt 1 E (E.length - 6)) (mkSt 1 (E ++ X) ((E ++ X).length - 6))).log = X ∧ (makeM (mkSt 1 E (E.length - 6)) (mkSt 1 (E ++ X) ((E ++ X).length - 6))).whole = headM (mkSt 1 (E ++ X) ((E ++ X).length - 6)) := by
  have lF : (E ++ X).length = E.length + X.length := List.length_append
  have i1 := mk_is 1 hE (k := E.length - 6) (by omega) (by omega) (by omega)
  have i2 := mk_is 1 hF (k := (E ++ X).length - 6) (by omega) (by omega) (by omega)
  have htn : (mkSt 1 (E ++ X) ((E ++ X).length - 6)).tail.n = (((E ++ X).length - 6 : Nat) : Int) := mk_tail_n 1 hF (by omega)
  have hlog : (mkSt 1 (E ++ X) ((E ++ X).length - 6)).log = (E ++ X).drop ((E ++ X).length - 6) := rfl
  have htk : (E ++ X).take ((E ++ X).length - 6) = E.take ((E ++ X).length - 6) := List.take_append_of_le_length (by omega)
  have hst : standsM (mkSt 1 E (E.length - 6)) (mkSt 1 (E ++ X) ((E ++ X).length - 6)) = true := by
    have h := stands_self (st := 1) (st' := 1) hE (k := E.length - 6) (j := (E ++ X).length - 6) (by omega) (by omega) (by omega) (by omega) (by omega)
    have e1 : (mkSt 1 (E ++ X) ((E ++ X).length - 6)).tail = (mkSt 1 E ((E ++ X).length - 6)).tail := by show tailOf _ = tailOf _; rw [htk]
    have e2 : (mkSt 1 (E ++ X) ((E ++ X).length - 6)).base = (mkSt 1 E ((E ++ X).length - 6)).base := by show baseOf _ = baseOf _; rw [htk]
    unfold standsM at h ⊢
    rw [e1, e2]
    exact h
  have hne : ¬ ({ mkSt 1 E (E.length - 6) with started := (mkSt 1 (E ++ X) ((E ++ X).length - 6)).started } : State) = mkSt 1 (E ++ X) ((E ++ X).length - 6) := by
    intro h
    have h : mkSt 1 E (E.length - 6) = mkSt 1 (E ++ X) ((E ++ X).length - 6) := h
    have h := congrArg headS h
    rw [mk_head 1 hE (by omega) (by omega) (by omega), mk_head 1 hF (by omega) (by omega) (by omega)] at h
    have h := congrArg Prod.snd h
    simp only at h
    omega
  have hcm : commonL (mkSt 1 E (E.length - 6)) (((E ++ X).length - 6 : Nat) : Int) ((E ++ X).drop ((E ++ X).length - 6)) = (E.length : Int) := by
    have g : goodE (E ++ []) := by rw [List.append_nil]; exact hE
    have h1 := common_pre (st := 1) (E0 := E) (A := []) (B := X) (k := E.length - 6) g (by simp) (by simp; omega) (by omega) (E.length - ((E ++ X).length - 6)) ((E ++ X).length - 6) (by omega) (by omega)
    have h2 := common_end (st := 1) (E0 := E) (A := []) (B := X) (k := E.length - 6) g hF (by simp) (by simp; omega) (by omega) (by simp)
    rw [h2, List.append_nil] at h1
    exact h1
  unfold makeM
  rw [if_pos (by rw [i1, i2]; rfl), if_neg hne, if_pos hst, htn, hlog, hcm]
  refine ⟨rfl, rfl, ?_, rfl⟩
  show ((E ++ X).drop ((E ++ X).length - 6)).drop ((E.length : Int) - (((E ++ X).length - 6 : Nat) : Int)).toNat = X
  rw [List.drop_drop, show (E ++ X).length - 6 + ((E.length : Int) - (((E ++ X).length - 6 : Nat) : Int)).toNat = E.length by omega, List.drop_append_of_le_length (Nat.le_refl _), List.drop_length, List.nil_append]
theorem only_twice {E X : List Entry} (hF : goodE (E ++ X)) (hX : X.length ≤ 6) :
    applyM (mkSt 1 (E ++ X) ((E ++ X).length - 6)) ⟨1, (E.length : Int), X, headM (mkSt 1 (E ++ X) ((E ++ X).length - 6))⟩ = (mkSt 1 (E ++ X) ((E ++ X).length - 6), 0) := by
  have lF : (E ++ X).length = E.length + X.length := List.length_append
  have i2 := mk_is 1 hF (k := (E ++ X).length - 6) (by omega) (by omega) (by omega)
  have htn : (headM (mkSt 1 (E ++ X) ((E ++ X).length - 6))).tail.n = (((E ++ X).length - 6 : Nat) : Int) := mk_tail_n 1 hF (by omega)
  have hcut := mk_cut 1 hF (k := (E ++ X).length - 6) (by omega) (by omega) (by omega) (E.length : Int)
  rw [if_pos (by omega), show (E.length : Int).toNat = E.length by omega] at hcut
  obtain ⟨kk, a1, a2, a3, a4, a5⟩ := added_mk 1 (by omega) hF X.length E.length ((E ++ X).length - 6) (by omega) (by omega) (by omega)
  have hdX : (E ++ X).drop E.length = X := by rw [List.drop_append_of_le_length (Nat.le_refl _), List.drop_length, List.nil_append]
  rw [hdX] at a5
  have hkk : kk = (E ++ X).length - 6 := by omega
  rw [hkk] at a5
  have hmid : midM (mkSt 1 (E ++ X) ((E ++ X).length - 6)) ⟨1, (E.length : Int), X, headM (mkSt 1 (E ++ X) ((E ++ X).length - 6))⟩ = (mkSt 1 (E ++ X) ((E ++ X).length - 6), 0) := by
    unfold midM
    rw [if_pos rfl, hcut, if_pos rfl]
    exact a5
  have hts : tailS (mkSt 1 (E ++ X) ((E ++ X).length - 6)) (((E ++ X).length - 6 : Nat) : Int) = (mkSt 1 (E ++ X) ((E ++ X).length - 6), 0) := by
    rw [mk_tailS 1 hF (by omega) (by omega) (by omega), if_neg (by omega), if_pos (by omega)]
    rfl
  unfold applyM
  rw [i2, form_1, if_pos (by rfl), if_neg (by show ¬ (1 : Int) = 2; decide), hmid, if_pos rfl]
  simp only [htn, hts]
  have hm : ({ mkSt 1 (E ++ X) ((E ++ X).length - 6) with started := (headM (mkSt 1 (E ++ X) ((E ++ X).length - 6))).started } : State) = mkSt 1 (E ++ X) ((E ++ X).length - 6) := rfl
  rw [hm, if_pos ⟨trivial, rfl, i2⟩]
theorem ext_self {s : State} (h : isSt s = true) : extendsM s s = true := by
  unfold extendsM
  rw [make_self h, h]
  simp
/-- What the law asks of the two states. -/
theorem only_facts (l more : List Opr) (hl : ∀ o ∈ l, o.ok) (hm : ∀ o ∈ more, o.ok) (hn : more.length ≤ 6) (s t : State) (hs : s = S8 1 (l.map fun o => ((1 : Int), o))) (ht : t = S8 1 (ops8 l more 30)) :
    ∃ n : Nat, (runE (ops8 l more 30)).length - (runE (l.map fun o => ((1 : Int), o))).length = n ∧ (makeM s t).kind = (if n = 0 then 0 else 1) ∧ (makeM s t).log.length = n ∧ (∀ e ∈ (makeM s t).log, e.op.ok) ∧ applyM t (makeM s t) = (t, 0) ∧ extendsM s t = true ∧ extendsM t s = (n == 0) := by
  obtain ⟨X, hX, _, hXl⟩ := runE_app (l.map (fun o => ((1 : Int), o))) 30 more
  have hX : runE (ops8 l more 30) = runE (l.map fun o => ((1 : Int), o)) ++ X := hX
  have gF : goodE (runE (ops8 l more 30)) := runE_good (ops8_ok _ hl hm)
  have gE : goodE (runE (l.map fun o => ((1 : Int), o))) := runE_good fun p hp => by
    obtain ⟨o, h1, rfl⟩ := List.mem_map.1 hp
    exact hl o h1
  unfold S8 at hs ht
  rw [hX] at ht gF ⊢
  generalize runE (l.map fun o => ((1 : Int), o)) = E at *
  have lF : (E ++ X).length = E.length + X.length := List.length_append
  have i1 : isSt s = true := by rw [hs]; exact mk_is 1 gE (by omega) (by omega) (by omega)
  have i2 : isSt t = true := by rw [ht]; exact mk_is 1 gF (by omega) (by omega) (by omega)
  refine ⟨X.length, by omega, ?_⟩
  by_cases c : X.length = 0
  · have hx0 : X = [] := List.eq_nil_of_length_eq_zero c
    have hst : s = t := by rw [hs, ht, hx0, List.append_nil]
    subst hst
    have hap : applyM s (makeM s s) = (s, 0) := by
      have p : St8 s := ⟨1, _, _, hs, gE, by omega, by omega, by omega⟩
      exact p.back p
    rw [make_self i1] at hap ⊢
    rw [ext_self i1, c]
    exact ⟨rfl, rfl, by intro e he; simp at he, hap, rfl, rfl⟩
  · obtain ⟨m1, m2, m3, m4⟩ := only_make gF gE (by omega) (by omega)
    have htw := only_twice gF (by omega)
    have h1 : headS s = ((lastOf E).since, (E.length : Int)) := by rw [hs]; exact mk_head 1 gE (by omega) (by omega) (by omega)
    have h2 : headS t = ((lastOf (E ++ X)).since, ((E ++ X).length : Int)) := by rw [ht]; exact mk_head 1 gF (by omega) (by omega) (by omega)
    rw [← hs, ← ht] at m1 m2 m3 m4
    rw [← ht] at htw
    have hD : makeM s t = ⟨1, (E.length : Int), X, headM t⟩ := by
      cases hM : makeM s t with
      | mk a b c d => rw [hM] at m1 m2 m3 m4; simp only at m1 m2 m3 m4; rw [m1, m2, m3, m4]
    refine ⟨by rw [m1, if_neg c], by rw [m3], by rw [m3]; exact fun e he => gF.ok e (by simp [he]), by rw [hD]; exact htw, ?_, ?_⟩
    · unfold extendsM
      rw [i1, i2, hD, h1, h2]
      have d1 : decide (((E ++ X).length : Int) ≥ (E.length : Int)) = true := by simp only [ge_iff_le, decide_eq_true_eq]; omega
      simp only [d1]
      simp
    · unfold extendsM
      rw [h1, h2]
      have d1 : decide ((E.length : Int) ≥ ((E ++ X).length : Int)) = false := by simp only [ge_iff_le, decide_eq_false_iff_not]; omega
      have d2 : (X.length == 0) = false := by rw [beq_eq_false_iff_ne]; exact c
      rw [d2]
      simp only [d1, Bool.false_and, Bool.and_false]
theorem only_law (l more : List Opr) (hl : ∀ o ∈ l, o.ok) (hm : ∀ o ∈ more, o.ok) (f : Int) :
    evF C F_paddocklaw8_MergeOnly [.d (.sl (l.map Opr.d)), .d (.sl (more.map Opr.d)), .d (.i .u8 f)] [] = some (.d (.b true), []) := by
  rw [evF_code (rfl : C F_paddocklaw8_MergeOnly = some a_paddocklaw8_MergeOnly) _ _ rfl]
  rcases Bool.eq_false_or_eq_true (decide (((l.length : Nat) : Int) > 20)) with q1 | q1
  · simp (config := {decide := true}) only [c_paddocklaw8_MergeOnly, known8_at, q1, guardR_und, Pk.EVL, keepT, enum, ↓reduceIte, ev, act, appT, callee, toDs, toD, loadA, storeA, subA, subD, updA, Eff.on, resA, resVs, resV, lk, finish, frzR, frzVs, frzV, fznR, fzns, fzn, lts, lt, ltO, List.all, pairsOk, indep, reduceCtorEq, Nat.reduceEqDiff, Nat.reduceAdd, Nat.reduceLeDiff, stb, thaws, List.drop, intOfA, binD, binI, unD, mmL, buildA, mkAgg, allD, behind, behind0, takeAt, frzAs, frzA, adoptR, adopt, isD, isD0, trim, List.take, binS, sliceA, bnd, zOk, elems, Nat.reduceBNe, inpl, Nat.reduceLT, Nat.reduceBEq, Nat.reduceSub, Nat.reduceMul, Int.reduceLT, Int.reduceLE, Int.reduceEq, Int.reduceToNat, Int.reduceNeg, thaw, nodup, refsV, adopts, Pk.TY_State]
  rcases Bool.eq_false_or_eq_true (decide (((more.length : Nat) : Int) > 6)) with q2 | q2
  · simp (config := {decide := true}) only [c_paddocklaw8_MergeOnly, known8_at, q1, q2, guardR_und, Pk.EVL, keepT, enum, ↓reduceIte, ev, act, appT, callee, toDs, toD, loadA, storeA, subA, subD, updA, Eff.on, resA, resVs, resV, lk, finish, frzR, frzVs, frzV, fznR, fzns, fzn, lts, lt, ltO, List.all, pairsOk, indep, reduceCtorEq, Nat.reduceEqDiff, Nat.reduceAdd, Nat.reduceLeDiff, stb, thaws, List.drop, intOfA, binD, binI, unD, mmL, buildA, mkAgg, allD, behind, behind0, takeAt, frzAs, frzA, adoptR, adopt, isD, isD0, trim, List.take, binS, sliceA, bnd, zOk, elems, Nat.reduceBNe, inpl, Nat.reduceLT, Nat.reduceBEq, Nat.reduceSub, Nat.reduceMul, Int.reduceLT, Int.reduceLE, Int.reduceEq, Int.reduceToNat, Int.reduceNeg, thaw, nodup, refsV, adopts, Pk.TY_State]
  have l1 : l.length ≤ 20 := by have := of_decide_eq_false q1; omega
  have l2 : more.length ≤ 6 := by have := of_decide_eq_false q2; omega
  have hnil : ∀ o ∈ ([] : List Opr), o.ok := by simp
  have s1 := state8_at l [] (by simp; omega) hl hnil 0 0 1 (by omega) (by omega) (by omega)
  have hS : st8 l [] 0 0 1 = S8 1 (l.map fun o => ((1 : Int), o)) := by
    have e0 : ops8 l [] (Int.tmod 0 20 + 2) = l.map (fun o => ((1 : Int), o)) := by unfold ops8; simp
    unfold st8 S8
    rw [e0, jOf_0]
    rfl
  have p1 := st8_is l [] hl hnil 0 0 1 (by omega)
  rw [hS] at s1 p1
  have en : (List.map Opr.d []) = [] := rfl
  rw [en] at s1
  have hop := ops8_ok (30 : Int) hl hm
  have hln := ops8_len l more (30 : Int)
  have hhi : ∀ {i : Nat} {o : Opr}, more[i]? = some o → (ops8 l more 30)[l.length + i]? = some ((30 : Int), o) := fun {i o} h => ops8_hi 30 (by omega) (by rw [show l.length + i - l.length = i by omega]; exact h)
  have hL0 : (ops8 l more 30).take (l.length + 0) = l.map fun o => ((1 : Int), o) := by
    unfold ops8
    rw [Nat.add_zero, List.take_append_of_le_length (by simp), List.take_of_length_le (by simp)]
  obtain ⟨n, f1, f2, f3, f4, f5, f6, f7⟩ := only_facts l more hl hm l2 _ _ rfl rfl
  generalize hE0 : (runE (l.map fun o => ((1 : Int), o))).length = e0 at *
  have hge : ∀ i, goodE (runE ((ops8 l more 30).take i)) := fun i => runE_good fun p hp => hop p (List.mem_of_mem_take hp)
  have hle : ∀ i, (runE ((ops8 l more 30).take i)).length ≤ 60 := fun i => Nat.le_trans (runE_len _) (by rw [List.length_take]; omega)
  have hst8 : S8 1 ((ops8 l more 30).take (l.length + 0)) = S8 1 (l.map fun o => ((1 : Int), o)) := by rw [hL0]
  have he00 : (runE ((ops8 l more 30).take (l.length + 0))).length = e0 := by rw [hL0]; exact hE0
  have p2 : St8 (S8 1 (ops8 l more 30)) := ⟨1, _, _, rfl, runE_good hop, by omega, by omega, by omega⟩
  have m1 := p1.make_at p2
  have a1 := p1.apply_at p2
  have a2 := Go.Proofs.Ytfajplmkfpdhfaa.apply_at (S8 1 (ops8 l more 30)) (makeM (S8 1 (l.map fun o => ((1 : Int), o))) (S8 1 (ops8 l more 30))) p2.ok f4 (fun _ => trivial) (by rw [f3]; have := hle (ops8 l more 30).length; rw [List.take_length] at this; omega)
  rw [f5] at a2
  have a3 := p2.self_at
  have x1 := extends_at _ _ p1.ok p2.ok
  have x2 := extends_at _ _ p2.ok p1.ok
  rw [f6] at x1
  rw [f7] at x2
  simp only at a2
  have hfull : (ops8 l more 30).take (l.length + more.length) = ops8 l more 30 := List.take_of_length_le (by omega)
  clear p1 p2 f4 f5 f6 f7 hS
  generalize ops8 l more 30 = L at *
  generalize S8 1 (l.map fun o => ((1 : Int), o)) = s at *
  simp (config := {decide := true}) only [c_paddocklaw8_MergeOnly, known8_at, q1, q2, s1, guardR_und, Pk.EVL, keepT, enum, ↓reduceIte, ev, act, appT, callee, toDs, toD, loadA, storeA, subA, subD, updA, Eff.on, resA, resVs, resV, lk, finish, frzR, frzVs, frzV, fznR, fzns, fzn, lts, lt, ltO, List.all, pairsOk, indep, reduceCtorEq, Nat.reduceEqDiff, Nat.reduceAdd, Nat.reduceLeDiff, stb, thaws, List.drop, intOfA, binD, binI, unD, mmL, buildA, mkAgg, allD, behind, behind0, takeAt, frzAs, frzA, adoptR, adopt, isD, isD0, trim, List.take, binS, sliceA, bnd, zOk, elems, Nat.reduceBNe, inpl, Nat.reduceLT, Nat.reduceBEq, Nat.reduceSub, Nat.reduceMul, Int.reduceLT, Int.reduceLE, Int.reduceEq, Int.reduceToNat, Int.reduceNeg, thaw, nodup, refsV, adopts, Pk.TY_State]
  simp only [Option.bind_assoc]
  refine bind_run (loop_run (fun i T H => lk T 1 = .d (.sl (more.map Opr.d)) ∧ lk T 7 = .ptr 0 0 ∧ lk T 8 = .ptr 1 0 ∧ lk T 9 = .d (.i .i64 (((runE (L.take (l.length + i))).length - e0 : Nat) : Int)) ∧ lk T 10 = .d (.i .i64 (i : Nat)) ∧ e0 ≤ (runE (L.take (l.length + i))).length ∧
      ∃ J, H = .box (.d (.agg s.cs)) :: .box (.d (.agg (S8 1 (L.take (l.length + i))).cs)) :: J)
    (fun e T H => e = .exit 0 ∧ lk T 7 = .ptr 0 0 ∧ lk T 8 = .ptr 1 0 ∧ lk T 9 = .d (.i .i64 (n : Int)) ∧ H = [.box (.d (.agg s.cs)), .box (.d (.agg (S8 1 L).cs))]) more.length ?_ ?_ more.length 0 _ _ (by omega) ⟨rfl, rfl, rfl, by rw [he00, Nat.sub_self]; rfl, rfl, by omega, [], by rw [hst8]⟩) ?_
  · rintro i T H hi ⟨h1, h7, h8, h9, h10, hmo, J, rfl⟩
    obtain ⟨o, ho'⟩ : ∃ o, more[i]? = some o := ⟨more[i]'hi, List.getElem?_eq_getElem _⟩
    have hxo := list_idx Opr.d ho'
    have hoo : o.ok := hm o (List.mem_of_getElem? ho')
    have hd : decide ((i : Int) < ((more.length : Nat) : Int)) = true := by simp; omega
    have hw : IntKind.i64.wrap ((i : Int) + 1) = ((i + 1 : Nat) : Int) := wi64 (by omega)
    have b0 : (0 ≤ (i : Int)) = True := by simp
    have hgE := hge (l.length + i)
    have hlE := hle (l.length + i)
    have hh := head_at (S8 1 (L.take (l.length + i)))
    have hhd : headS (S8 1 (L.take (l.length + i))) = ((lastOf (runE (L.take (l.length + i)))).since, ((runE (L.take (l.length + i))).length : Int)) := mk_head 1 hgE (by omega) (by omega) (by omega)
    rw [hhd] at hh
    have hw2 : IntKind.u32.wrap (((runE (L.take (l.length + i))).length : Int) + 1) = (((runE (L.take (l.length + i))).length + 1 : Nat) : Int) := by
      rw [show ((runE (L.take (l.length + i))).length : Int) + 1 = (((runE (L.take (l.length + i))).length + 1 : Nat) : Int) by omega]; exact wu32 (by omega)
    have hok : okLog (S8 1 (L.take (l.length + i))) := (mk_ok 1 hgE (by omega)).log
    have ha := add_at (S8 1 (L.take (l.length + i))) ⟨30, (((runE (L.take (l.length + i))).length + 1 : Nat) : Int), o⟩ hok hoo
    have hst := S8_step2 1 (by omega) hop (hhi ho')
    have v0 : ((0 : Int) == 0) = true := by decide
    have v10 : ((10 : Int) == 0) = false := by decide
    simp only at hst
    have hii : l.length + i + 1 = l.length + (i + 1) := by omega
    rw [hii] at hst
    rcases hst with ⟨q, hlen⟩ | ⟨q, hsame⟩
    · rw [q] at ha
      have hw3 : IntKind.i64.wrap ((((runE (L.take (l.length + i))).length - e0 : Nat) : Int) + 1) = (((runE (L.take (l.length + (i + 1)))).length - e0 : Nat) : Int) := by
        rw [hlen, show (((runE (L.take (l.length + i))).length - e0 : Nat) : Int) + 1 = (((runE (L.take (l.length + i))).length + 1 - e0 : Nat) : Int) by omega]; exact wi64 (by omega)
      have hmo2 : e0 ≤ (runE (L.take (l.length + (i + 1)))).length := by omega
      generalize S8 1 (L.take (l.length + (i + 1))) = s' at *
      generalize (runE (L.take (l.length + (i + 1)))).length = n2 at *
      generalize (lastOf (runE (L.take (l.length + i)))).since = sn at *
      generalize (runE (L.take (l.length + i))).length = n1 at *
      generalize S8 1 (L.take (l.length + i)) = s0 at *
      simp (config := {decide := true}) only [K_paddocklaw8_MergeOnly_0, l_paddocklaw8_MergeOnly_0, h1, h7, h8, h9, h10, hd, hw, hw2, hw3, b0, hxo, hh, ha, v0, Pk.EVL, keepT, enum, ↓reduceIte, ev, act, appT, callee, toDs, toD, loadA, storeA, subA, subD, updA, Eff.on, resA, resVs, resV, lk, finish, frzR, frzVs, frzV, fznR, fzns, fzn, lts, lt, ltO, List.all, pairsOk, indep, reduceCtorEq, Nat.reduceEqDiff, Nat.reduceAdd, Nat.reduceLeDiff, stb, thaws, List.drop, intOfA, binD, binI, unD, mmL, buildA, mkAgg, allD, behind, behind0, takeAt, frzAs, frzA, adoptR, adopt, isD, isD0, trim, List.take, binS, sliceA, bnd, zOk, elems, Nat.reduceBNe, inpl, Nat.reduceLT, Nat.reduceBEq, Nat.reduceSub, Nat.reduceMul, Int.reduceLT, Int.reduceLE, Int.reduceEq, Int.reduceToNat, Int.reduceNeg, thaw, nodup, refsV, adopts, Pk.TY_State, Pk.TY_Opr, Pk.TY_Entry]
      refine ⟨_, _, _, rfl, ?_⟩
      exact .inl ⟨rfl, rfl, rfl, rfl, rfl, rfl, hmo2, _, rfl⟩
    · rw [q] at ha
      have hs2 : S8 1 (L.take (l.length + (i + 1))) = S8 1 (L.take (l.length + i)) := by unfold S8; rw [hsame]
      rw [hsame, hs2]
      generalize (lastOf (runE (L.take (l.length + i)))).since = sn at *
      generalize (runE (L.take (l.length + i))).length = n1 at *
      generalize S8 1 (L.take (l.length + i)) = s0 at *
      simp (config := {decide := true}) only [K_paddocklaw8_MergeOnly_0, l_paddocklaw8_MergeOnly_0, h1, h7, h8, h9, h10, hd, hw, hw2, b0, hxo, hh, ha, v10, Pk.EVL, keepT, enum, ↓reduceIte, ev, act, appT, callee, toDs, toD, loadA, storeA, subA, subD, updA, Eff.on, resA, resVs, resV, lk, finish, frzR, frzVs, frzV, fznR, fzns, fzn, lts, lt, ltO, List.all, pairsOk, indep, reduceCtorEq, Nat.reduceEqDiff, Nat.reduceAdd, Nat.reduceLeDiff, stb, thaws, List.drop, intOfA, binD, binI, unD, mmL, buildA, mkAgg, allD, behind, behind0, takeAt, frzAs, frzA, adoptR, adopt, isD, isD0, trim, List.take, binS, sliceA, bnd, zOk, elems, Nat.reduceBNe, inpl, Nat.reduceLT, Nat.reduceBEq, Nat.reduceSub, Nat.reduceMul, Int.reduceLT, Int.reduceLE, Int.reduceEq, Int.reduceToNat, Int.reduceNeg, thaw, nodup, refsV, adopts, Pk.TY_State, Pk.TY_Opr, Pk.TY_Entry]
      refine ⟨_, _, _, rfl, ?_⟩
      exact .inl ⟨rfl, rfl, rfl, rfl, rfl, rfl, hmo, _, rfl⟩
  · rintro T H ⟨h1, h7, h8, h9, h10, hmo, J, rfl⟩
    rw [hfull, f1] at h9
    rw [hfull]
    have hd : decide (((more.length : Nat) : Int) < ((more.length : Nat) : Int)) = false := by simp
    generalize S8 1 L = t at *
    simp (config := {decide := true}) only [K_paddocklaw8_MergeOnly_0, l_paddocklaw8_MergeOnly_0, h1, h7, h8, h9, h10, hd, Pk.EVL, keepT, enum, ↓reduceIte, ev, act, appT, callee, toDs, toD, loadA, storeA, subA, subD, updA, Eff.on, resA, resVs, resV, lk, finish, frzR, frzVs, frzV, fznR, fzns, fzn, lts, lt, ltO, List.all, pairsOk, indep, reduceCtorEq, Nat.reduceEqDiff, Nat.reduceAdd, Nat.reduceLeDiff, stb, thaws, List.drop, intOfA, binD, binI, unD, mmL, buildA, mkAgg, allD, behind, behind0, takeAt, frzAs, frzA, adoptR, adopt, isD, isD0, trim, List.take, binS, sliceA, bnd, zOk, elems, Nat.reduceBNe, inpl, Nat.reduceLT, Nat.reduceBEq, Nat.reduceSub, Nat.reduceMul, Int.reduceLT, Int.reduceLE, Int.reduceEq, Int.reduceToNat, Int.reduceNeg, thaw, nodup, refsV, adopts, Pk.TY_State]
    refine ⟨_, _, _, rfl, ?_⟩
    exact ⟨by simp, rfl, rfl, rfl, rfl, rfl⟩
  rintro e T H ⟨rfl, h7, h8, h9, rfl⟩
  generalize S8 1 L = t at *
  generalize makeM s t = D at *
  have v0 : ((0 : Int) == 0) = true := by decide
  have k2 : (((D.log.length : Nat) : Int) == (n : Int)) = true := by rw [f3]; simp
  have eb : ∀ x : Bool, (x == x) = true := fun x => by simp
  have eqb : ∀ p q : Bool, eqV .sb (.b p) (.b q) = some (p == q) := fun p q => by simp only [eqV]
  by_cases c : n = 0
  · subst c
    rw [if_pos rfl] at f2
    have k1 : (D.kind == 0) = true := by rw [f2]; rfl
    have k3 : (((0 : Nat) : Int) == 0) = true := by decide
    have x2' : evF C F_merge_Extends [.d (.agg t.cs), .d (.agg s.cs)] [] = some (.d (.b true), []) := x2
    simp (config := {decide := true}) only [h7, h8, h9, m1, a1, a2, a3, x1, x2', k1, k2, k3, v0, eb, eqb, guardR_und, Pk.EVL, keepT, enum, ↓reduceIte, ev, act, appT, callee, toDs, toD, loadA, storeA, subA, subD, updA, Eff.on, resA, resVs, resV, lk, finish, frzR, frzVs, frzV, fznR, fzns, fzn, lts, lt, ltO, List.all, pairsOk, indep, reduceCtorEq, Nat.reduceEqDiff, Nat.reduceAdd, Nat.reduceLeDiff, stb, thaws, List.drop, intOfA, binD, binI, unD, mmL, buildA, mkAgg, allD, behind, behind0, takeAt, frzAs, frzA, adoptR, adopt, isD, isD0, trim, List.take, binS, sliceA, bnd, zOk, elems, Nat.reduceBNe, inpl, Nat.reduceLT, Nat.reduceBEq, Nat.reduceSub, Nat.reduceMul, Int.reduceLT, Int.reduceLE, Int.reduceEq, Int.reduceToNat, Int.reduceNeg, thaw, nodup, refsV, adopts, Pk.TY_State, Pk.TY_Diff]
  · rw [if_neg c] at f2
    have k1 : (D.kind == 1) = true := by rw [f2]; rfl
    have k3 : ((n : Int) == 0) = false := by rw [beq_eq_false_iff_ne]; omega
    have k4 : (n == 0) = false := by rw [beq_eq_false_iff_ne]; exact c
    rw [k4] at x2
    simp (config := {decide := true}) only [h7, h8, h9, m1, a1, a2, a3, x1, x2, k1, k2, k3, v0, eb, eqb, guardR_und, Pk.EVL, keepT, enum, ↓reduceIte, ev, act, appT, callee, toDs, toD, loadA, storeA, subA, subD, updA, Eff.on, resA, resVs, resV, lk, finish, frzR, frzVs, frzV, fznR, fzns, fzn, lts, lt, ltO, List.all, pairsOk, indep, reduceCtorEq, Nat.reduceEqDiff, Nat.reduceAdd, Nat.reduceLeDiff, stb, thaws, List.drop, intOfA, binD, binI, unD, mmL, buildA, mkAgg, allD, behind, behind0, takeAt, frzAs, frzA, adoptR, adopt, isD, isD0, trim, List.take, binS, sliceA, bnd, zOk, elems, Nat.reduceBNe, inpl, Nat.reduceLT, Nat.reduceBEq, Nat.reduceSub, Nat.reduceMul, Int.reduceLT, Int.reduceLE, Int.reduceEq, Int.reduceToNat, Int.reduceNeg, thaw, nodup, refsV, adopts, Pk.TY_State, Pk.TY_Diff]
end Go.Proofs.Ytfajplmkfpdhfaa

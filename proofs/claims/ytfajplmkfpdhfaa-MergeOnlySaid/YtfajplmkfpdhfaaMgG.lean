/- The states that the laws make. -/
import Derived.Test.YtfajplmkfpdhfaaMgA
set_option linter.all false
namespace Go.Proofs.Ytfajplmkfpdhfaa
open Pv Go Pk
set_option maxRecDepth 10000
set_option maxHeartbeats 2000000
def stepE (E : List Entry) (p : Int × Opr) : List Entry := if nextE (lastOf E) ⟨p.1, ((E.length + 1 : Nat) : Int), p.2⟩ = true then E ++ [⟨p.1, ((E.length + 1 : Nat) : Int), p.2⟩] else E
def runE (L : List (Int × Opr)) : List Entry := L.foldl stepE []
theorem runE_snoc (L : List (Int × Opr)) (p : Int × Opr) : runE (L ++ [p]) = stepE (runE L) p := by unfold runE; rw [List.foldl_append]; rfl
theorem runE_good {L : List (Int × Opr)} (h : ∀ p ∈ L, p.2.ok) : goodE (runE L) := by
  induction L using snoc_ind with
  | h0 => exact goodE_nil
  | hs L p ih =>
    rw [runE_snoc]
    unfold stepE
    have ih := ih fun x hx => h x (by simp [hx])
    split
    · rename_i c
      exact ih.snoc c (h p (by simp))
    · exact ih
theorem runE_len (L : List (Int × Opr)) : (runE L).length ≤ L.length := by
  induction L using snoc_ind with
  | h0 => exact Nat.le_refl _
  | hs L p ih =>
    rw [runE_snoc]
    unfold stepE
    split <;> simp <;> omega
def S8 (st : Int) (L : List (Int × Opr)) : State := mkSt st (runE L) ((runE L).length - 6)
theorem S8_step (st : Int) (hst : st ≤ 60) {L : List (Int × Opr)} (h : ∀ p ∈ L, p.2.ok) {i : Nat} {p : Int × Opr} (hp : L[i]? = some p) :
    (addS (S8 st (L.take i)) ⟨p.1, (((runE (L.take i)).length + 1 : Nat) : Int), p.2⟩ = (S8 st (L.take (i + 1)), 0)) ∨
    (addS (S8 st (L.take i)) ⟨p.1, (((runE (L.take i)).length + 1 : Nat) : Int), p.2⟩ = (State.zero, 10) ∧ S8 st (L.take (i + 1)) = S8 st (L.take i)) := by
  have hg := runE_good (L := L.take i) fun x hx => h x (List.mem_of_mem_take hx)
  have hsn : runE (L.take (i + 1)) = stepE (runE (L.take i)) p := by rw [take_succ' hp, runE_snoc]
  have ha := mk_add st hg (k := (runE (L.take i)).length - 6) (by omega) (by omega) hst ⟨p.1, (((runE (L.take i)).length + 1 : Nat) : Int), p.2⟩
  unfold S8
  rw [ha, hsn]
  unfold stepE
  by_cases c : nextE (lastOf (runE (L.take i))) ⟨p.1, (((runE (L.take i)).length + 1 : Nat) : Int), p.2⟩ = true
  · rw [if_pos c, if_pos c]
    refine .inl ?_
    congr 2
    simp only [List.length_append, List.length_cons, List.length_nil]
    omega
  · rw [if_neg c, if_neg c]
    exact .inr ⟨rfl, rfl⟩
def ops8 (l own : List Opr) (at_ : Int) : List (Int × Opr) := l.map (fun o => (1, o)) ++ own.map (fun o => (at_, o))
theorem ops8_ok {l own : List Opr} (at_ : Int) (hl : ∀ o ∈ l, o.ok) (ho : ∀ o ∈ own, o.ok) : ∀ p ∈ ops8 l own at_, p.2.ok := by
  intro p hp
  unfold ops8 at hp
  rcases List.mem_append.1 hp with h | h <;>
  · obtain ⟨o, h1, rfl⟩ := List.mem_map.1 h
    first | exact hl o h1 | exact ho o h1
theorem ops8_len (l own : List Opr) (at_ : Int) : (ops8 l own at_).length = l.length + own.length := by unfold ops8; simp
theorem ops8_lo {l own : List Opr} (at_ : Int) {i : Nat} {o : Opr} (h : l[i]? = some o) : (ops8 l own at_)[i]? = some (1, o) := by
  unfold ops8
  rw [List.getElem?_append_left (by rw [List.length_map]; exact (List.getElem?_eq_some_iff.1 h).1), List.getElem?_map, h]
  rfl
theorem ops8_hi {l own : List Opr} (at_ : Int) {i : Nat} {o : Opr} (hi : l.length ≤ i) (h : own[i - l.length]? = some o) : (ops8 l own at_)[i]? = some (at_, o) := by
  unfold ops8
  rw [List.getElem?_append_right (by rw [List.length_map]; exact hi), List.length_map, List.getElem?_map, h]
  rfl

/-! a state that has but a number -/
def stZ (x : Int) : State := ⟨x, Base.zero, Entry.zero, []⟩
def Zx (x : Int) : List AV := State.withV (stZ x) .nilS
theorem Zx_mk (x : Int) : upd State.zeroA 0 [.d (.i .u32 x)] = Zx x := rfl
theorem Zx_len (x : Int) : (Zx x).length = 49 := rfl
theorem Zx_allD (x : Int) : allD (Zx x) = none := rfl
theorem Zx_w (x : Int) : upd State.zeroA 0 (Zx x) = Zx x := rfl
theorem Zx_s (x : Int) (s : State) : upd (Zx x) 0 (s.cs.map .d) = s.cs.map .d := rfl
theorem Zx_all (x : Int) : subL (Zx x) 0 49 = Zx x := rfl
theorem Zx_toDs (H : Heap) (x : Int) : toDs H (Zx x) = some ((stZ x).cs, H) := rfl
theorem Zx_isD (x : Int) : (Zx x).all isD0 = true := rfl
theorem Zx_frz (x : Int) : frzAs (Zx x) = [] := rfl
theorem Zx_lts (n : Nat) (x : Int) : lts n (Zx x) = true := rfl
theorem Zx_get (x : Int) : (Zx x)[41]? = some (.d (.i .u32 0)) := rfl
def stX (x : Int) (s : State) (z : AV) : Prop := z = .d (.agg s.cs) ∨ (z = .agg (Zx x) ∧ s = stZ x)
theorem wu32j {x : Int} (h : 0 ≤ x ∧ x < 4294967296) : IntKind.u32.wrap x = x := by unfold IntKind.wrap; simp [IntKind.signed, IntKind.bits]; omega
def jOf (n : Nat) (f : Int) : Nat := n - 6 + (f % ((n - (n - 6) + 1 : Nat) : Int)).toNat
theorem jOf_le (n : Nat) (f : Int) : n - 6 ≤ jOf n f ∧ jOf n f ≤ n := by
  unfold jOf
  have h2 : 0 ≤ f % ((n - (n - 6) + 1 : Nat) : Int) := Int.emod_nonneg _ (by omega)
  have h3 : f % ((n - (n - 6) + 1 : Nat) : Int) < ((n - (n - 6) + 1 : Nat) : Int) := Int.emod_lt_of_pos _ (by omega)
  omega
theorem jOf_0 (n : Nat) : jOf n 0 = n - 6 := by unfold jOf; simp
/-- The state that is made. -/
def st8 (l own : List Opr) (since f started : Int) : State := mkSt (started.tmod 60) (runE (ops8 l own (since.tmod 20 + 2))) (jOf (runE (ops8 l own (since.tmod 20 + 2))).length f)
theorem state8_at (l own : List Opr) (hn : l.length + own.length ≤ 60) (hl : ∀ o ∈ l, o.ok) (ho : ∀ o ∈ own, o.ok) (since f started : Int) (hs : 0 ≤ since) (hf : 0 ≤ f ∧ f < 256) (hst : 0 ≤ started) :
    evF C F_paddocklaw8_state [.d (.sl (l.map Opr.d)), .d (.sl (own.map Opr.d)), .d (.i .u32 since), .d (.i .u8 f), .d (.i .u32 started)] [] = some (.d (.agg (st8 l own since f started).cs), []) := by
  rw [evF_code (rfl : C F_paddocklaw8_state = some a_paddocklaw8_state) _ _ rfl]
  have hS : 0 ≤ started.tmod 60 ∧ started.tmod 60 ≤ 60 := by rw [Int.tmod_eq_emod_of_nonneg hst]; omega
  have hT : 0 ≤ since.tmod 20 ∧ since.tmod 20 ≤ 20 := by rw [Int.tmod_eq_emod_of_nonneg hs]; omega
  have hw1 : IntKind.u32.wrap (since.tmod 20 + 2) = since.tmod 20 + 2 := wu32j (by omega)
  unfold st8
  generalize hx : started.tmod 60 = x at *
  generalize hr : since.tmod 20 = r at *
  have hop := ops8_ok (r + 2) hl ho
  have hln := ops8_len l own (r + 2)
  have hlo : ∀ {i : Nat} {o : Opr}, l[i]? = some o → (ops8 l own (r + 2))[i]? = some (1, o) := ops8_lo (r + 2)
  have hhi : ∀ {i : Nat} {o : Opr}, l.length ≤ i → own[i - l.length]? = some o → (ops8 l own (r + 2))[i]? = some (r + 2, o) := ops8_hi (r + 2)
  generalize ops8 l own (r + 2) = L at *
  have hge : ∀ i, goodE (runE (L.take i)) := fun i => runE_good fun p hp => hop p (List.mem_of_mem_take hp)
  have hle : ∀ i, (runE (L.take i)).length ≤ 60 := fun i => Nat.le_trans (runE_len _) (by rw [List.length_take]; omega)
  have hwl : IntKind.i64.wrap (((l.length : Nat) : Int) + ((own.length : Nat) : Int)) = ((L.length : Nat) : Int) := by rw [show ((l.length : Nat) : Int) + ((own.length : Nat) : Int) = ((L.length : Nat) : Int) by omega]; exact wi64 (by omega)
  simp (config := {decide := true}) only [c_paddocklaw8_state, hx, Zx_mk, Zx_len, Zx_allD, Zx_w, Pk.EVL, keepT, enum, ↓reduceIte, ev, act, appT, callee, toDs, toD, loadA, storeA, subA, subD, updA, Eff.on, resA, resVs, resV, lk, finish, frzR, frzVs, frzV, fznR, fzns, fzn, lts, lt, ltO, List.all, pairsOk, indep, reduceCtorEq, Nat.reduceEqDiff, Nat.reduceAdd, Nat.reduceLeDiff, stb, thaws, List.drop, intOfA, binD, binI, unD, mmL, buildA, mkAgg, allD, behind, behind0, takeAt, frzAs, frzA, adoptR, adopt, isD, isD0, trim, List.take, binS, sliceA, bnd, zOk, elems, Nat.reduceBNe, inpl, Nat.reduceLT, Nat.reduceBEq, Nat.reduceSub, Nat.reduceMul, Int.reduceLT, Int.reduceLE, Int.reduceEq, Int.reduceToNat, Int.reduceNeg, thaw, nodup, refsV, adopts, Pk.TY_State]
  simp only [Option.bind_assoc]
  refine bind_run (loop_run (fun i T H => lk T 0 = .d (.sl (l.map Opr.d)) ∧ lk T 1 = .d (.sl (own.map Opr.d)) ∧ lk T 2 = .d (.i .u32 since) ∧ lk T 3 = .d (.i .u8 f) ∧ lk T 10 = .ptr 0 0 ∧ lk T 11 = .ptr 1 0 ∧ lk T 12 = .d (.i .i64 (i : Nat)) ∧
      ∃ z J, H = .box (.agg State.zeroA) :: .box z :: J ∧ stX x (S8 x (L.take i)) z)
    (fun e T H => e = .exit 0 ∧ lk T 3 = .d (.i .u8 f) ∧ lk T 10 = .ptr 0 0 ∧ lk T 11 = .ptr 1 0 ∧
      ∃ z, H = [.box (.agg State.zeroA), .box z] ∧ stX x (S8 x L) z) L.length ?_ ?_ L.length 0 _ _ (by omega) ⟨rfl, rfl, rfl, rfl, rfl, rfl, rfl, _, [], rfl, .inr ⟨rfl, rfl⟩⟩) ?_
  · rintro i T H hi ⟨h0, h1, h2, h3, h10, h11, h12, z, J, rfl, hz⟩
    have hd : decide ((i : Int) < ((L.length : Nat) : Int)) = true := by simp; omega
    have hw : IntKind.i64.wrap ((i : Int) + 1) = ((i + 1 : Nat) : Int) := wi64 (by omega)
    have b0 : (0 ≤ (i : Int)) = True := by simp
    have hgE := hge i
    have hlE := hle i
    have hh := head_at (S8 x (L.take i))
    have hhd : headS (S8 x (L.take i)) = ((lastOf (runE (L.take i))).since, ((runE (L.take i)).length : Int)) := mk_head x hgE (by omega) (by omega) hS.2
    rw [hhd] at hh
    have hw2 : IntKind.u32.wrap (((runE (L.take i)).length : Int) + 1) = (((runE (L.take i)).length + 1 : Nat) : Int) := by
      rw [show ((runE (L.take i)).length : Int) + 1 = (((runE (L.take i)).length + 1 : Nat) : Int) by omega]; exact wu32 (by omega)
    have hok : okLog (S8 x (L.take i)) := (mk_ok x hgE (by omega)).log
    have e0 : ((0 : Int) == 0) = true := by decide
    have e10 : ((10 : Int) == 0) = false := by decide
    by_cases cl : i < l.length
    · obtain ⟨o, ho'⟩ : ∃ o, l[i]? = some o := ⟨l[i]'cl, List.getElem?_eq_getElem _⟩
      have hxo := list_idx Opr.d ho'
      have hoo : o.ok := hl o (List.mem_of_getElem? ho')
      have hdl : decide ((i : Int) < ((l.length : Nat) : Int)) = true := by simp; omega
      have ha := add_at (S8 x (L.take i)) ⟨1, (((runE (L.take i)).length + 1 : Nat) : Int), o⟩ hok hoo
      have hst8 := S8_step x hS.2 hop (hlo ho')
      generalize (lastOf (runE (L.take i))).since = sn at *
      generalize (runE (L.take i)).length = n at *
      generalize S8 x (L.take (i + 1)) = s' at *
      simp only at hst8
      rcases hst8 with q | ⟨q, rfl⟩
      · rw [q] at ha
        rcases hz with rfl | ⟨rfl, hz⟩
        · generalize S8 x (L.take i) = s at *
          simp (config := {decide := true}) only [K_paddocklaw8_state_0, l_paddocklaw8_state_0, h0, h1, h2, h3, h10, h11, h12, hd, hdl, hw, hr, hw1, hw2, hwl, b0, hxo, hh, ha, e0, Pk.EVL, keepT, enum, ↓reduceIte, ev, act, appT, callee, toDs, toD, loadA, storeA, subA, subD, updA, Eff.on, resA, resVs, resV, lk, finish, frzR, frzVs, frzV, fznR, fzns, fzn, lts, lt, ltO, List.all, pairsOk, indep, reduceCtorEq, Nat.reduceEqDiff, Nat.reduceAdd, Nat.reduceLeDiff, stb, thaws, List.drop, intOfA, binD, binI, unD, mmL, buildA, mkAgg, allD, behind, behind0, takeAt, frzAs, frzA, adoptR, adopt, isD, isD0, trim, List.take, binS, sliceA, bnd, zOk, elems, Nat.reduceBNe, inpl, Nat.reduceLT, Nat.reduceBEq, Nat.reduceSub, Nat.reduceMul, Int.reduceLT, Int.reduceLE, Int.reduceEq, Int.reduceToNat, Int.reduceNeg, thaw, nodup, refsV, adopts, Pk.TY_State, Pk.TY_Opr, Pk.TY_Entry]
          refine ⟨_, _, _, rfl, ?_⟩
          exact .inl ⟨rfl, rfl, rfl, rfl, rfl, rfl, rfl, rfl, _, _, rfl, .inl rfl⟩
        · rw [hz] at hh ha
          simp (config := {decide := true}) only [K_paddocklaw8_state_0, l_paddocklaw8_state_0, h0, h1, h2, h3, h10, h11, h12, hd, hdl, hw, hr, hw1, hw2, hwl, b0, hxo, hh, ha, e0, Zx_len, Zx_allD, Zx_w, Zx_s, Zx_all, Zx_toDs, Zx_isD, Zx_frz, Zx_lts, Pk.EVL, keepT, enum, ↓reduceIte, ev, act, appT, callee, toDs, toD, loadA, storeA, subA, subD, updA, Eff.on, resA, resVs, resV, lk, finish, frzR, frzVs, frzV, fznR, fzns, fzn, lts, lt, ltO, List.all, pairsOk, indep, reduceCtorEq, Nat.reduceEqDiff, Nat.reduceAdd, Nat.reduceLeDiff, stb, thaws, List.drop, intOfA, binD, binI, unD, mmL, buildA, mkAgg, allD, behind, behind0, takeAt, frzAs, frzA, adoptR, adopt, isD, isD0, trim, List.take, binS, sliceA, bnd, zOk, elems, Nat.reduceBNe, inpl, Nat.reduceLT, Nat.reduceBEq, Nat.reduceSub, Nat.reduceMul, Int.reduceLT, Int.reduceLE, Int.reduceEq, Int.reduceToNat, Int.reduceNeg, thaw, nodup, refsV, adopts, Pk.TY_State, Pk.TY_Opr, Pk.TY_Entry]
          refine ⟨_, _, _, rfl, ?_⟩
          exact .inl ⟨rfl, rfl, rfl, rfl, rfl, rfl, rfl, rfl, _, _, rfl, .inl rfl⟩
      · rw [q] at ha
        rcases hz with rfl | ⟨rfl, hz⟩
        · generalize S8 x (L.take i) = s at *
          simp (config := {decide := true}) only [K_paddocklaw8_state_0, l_paddocklaw8_state_0, h0, h1, h2, h3, h10, h11, h12, hd, hdl, hw, hr, hw1, hw2, hwl, b0, hxo, hh, ha, e10, Pk.EVL, keepT, enum, ↓reduceIte, ev, act, appT, callee, toDs, toD, loadA, storeA, subA, subD, updA, Eff.on, resA, resVs, resV, lk, finish, frzR, frzVs, frzV, fznR, fzns, fzn, lts, lt, ltO, List.all, pairsOk, indep, reduceCtorEq, Nat.reduceEqDiff, Nat.reduceAdd, Nat.reduceLeDiff, stb, thaws, List.drop, intOfA, binD, binI, unD, mmL, buildA, mkAgg, allD, behind, behind0, takeAt, frzAs, frzA, adoptR, adopt, isD, isD0, trim, List.take, binS, sliceA, bnd, zOk, elems, Nat.reduceBNe, inpl, Nat.reduceLT, Nat.reduceBEq, Nat.reduceSub, Nat.reduceMul, Int.reduceLT, Int.reduceLE, Int.reduceEq, Int.reduceToNat, Int.reduceNeg, thaw, nodup, refsV, adopts, Pk.TY_State, Pk.TY_Opr, Pk.TY_Entry]
          refine ⟨_, _, _, rfl, ?_⟩
          exact .inl ⟨rfl, rfl, rfl, rfl, rfl, rfl, rfl, rfl, _, _, rfl, .inl rfl⟩
        · rw [hz] at hh ha
          simp (config := {decide := true}) only [K_paddocklaw8_state_0, l_paddocklaw8_state_0, h0, h1, h2, h3, h10, h11, h12, hd, hdl, hw, hr, hw1, hw2, hwl, b0, hxo, hh, ha, e10, Zx_len, Zx_allD, Zx_w, Zx_s, Zx_all, Zx_toDs, Zx_isD, Zx_frz, Zx_lts, Pk.EVL, keepT, enum, ↓reduceIte, ev, act, appT, callee, toDs, toD, loadA, storeA, subA, subD, updA, Eff.on, resA, resVs, resV, lk, finish, frzR, frzVs, frzV, fznR, fzns, fzn, lts, lt, ltO, List.all, pairsOk, indep, reduceCtorEq, Nat.reduceEqDiff, Nat.reduceAdd, Nat.reduceLeDiff, stb, thaws, List.drop, intOfA, binD, binI, unD, mmL, buildA, mkAgg, allD, behind, behind0, takeAt, frzAs, frzA, adoptR, adopt, isD, isD0, trim, List.take, binS, sliceA, bnd, zOk, elems, Nat.reduceBNe, inpl, Nat.reduceLT, Nat.reduceBEq, Nat.reduceSub, Nat.reduceMul, Int.reduceLT, Int.reduceLE, Int.reduceEq, Int.reduceToNat, Int.reduceNeg, thaw, nodup, refsV, adopts, Pk.TY_State, Pk.TY_Opr, Pk.TY_Entry]
          refine ⟨_, _, _, rfl, ?_⟩
          exact .inl ⟨rfl, rfl, rfl, rfl, rfl, rfl, rfl, rfl, _, _, rfl, .inr ⟨rfl, hz⟩⟩
    · obtain ⟨o, ho'⟩ : ∃ o, own[i - l.length]? = some o := ⟨own[i - l.length]'(by omega), List.getElem?_eq_getElem _⟩
      have hxo := list_idx Opr.d ho'
      have hoo : o.ok := ho o (List.mem_of_getElem? ho')
      have hdl : decide ((i : Int) < ((l.length : Nat) : Int)) = false := by simp; omega
      have hwi : IntKind.i64.wrap ((i : Int) - ((l.length : Nat) : Int)) = ((i - l.length : Nat) : Int) := by rw [show (i : Int) - ((l.length : Nat) : Int) = ((i - l.length : Nat) : Int) by omega]; exact wi64 (by omega)
      have b1 : (0 ≤ ((i - l.length : Nat) : Int)) = True := by simp
      have ha := add_at (S8 x (L.take i)) ⟨r + 2, (((runE (L.take i)).length + 1 : Nat) : Int), o⟩ hok hoo
      have hst8 := S8_step x hS.2 hop (hhi (by omega) ho')
      generalize (lastOf (runE (L.take i))).since = sn at *
      generalize (runE (L.take i)).length = n at *
      generalize S8 x (L.take (i + 1)) = s' at *
      simp only at hst8
      rcases hst8 with q | ⟨q, rfl⟩
      · rw [q] at ha
        rcases hz with rfl | ⟨rfl, hz⟩
        · generalize S8 x (L.take i) = s at *
          simp (config := {decide := true}) only [K_paddocklaw8_state_0, l_paddocklaw8_state_0, h0, h1, h2, h3, h10, h11, h12, hd, hdl, hw, hwi, hr, hw1, hw2, hwl, b1, hxo, hh, ha, e0, Pk.EVL, keepT, enum, ↓reduceIte, ev, act, appT, callee, toDs, toD, loadA, storeA, subA, subD, updA, Eff.on, resA, resVs, resV, lk, finish, frzR, frzVs, frzV, fznR, fzns, fzn, lts, lt, ltO, List.all, pairsOk, indep, reduceCtorEq, Nat.reduceEqDiff, Nat.reduceAdd, Nat.reduceLeDiff, stb, thaws, List.drop, intOfA, binD, binI, unD, mmL, buildA, mkAgg, allD, behind, behind0, takeAt, frzAs, frzA, adoptR, adopt, isD, isD0, trim, List.take, binS, sliceA, bnd, zOk, elems, Nat.reduceBNe, inpl, Nat.reduceLT, Nat.reduceBEq, Nat.reduceSub, Nat.reduceMul, Int.reduceLT, Int.reduceLE, Int.reduceEq, Int.reduceToNat, Int.reduceNeg, thaw, nodup, refsV, adopts, Pk.TY_State, Pk.TY_Opr, Pk.TY_Entry]
          refine ⟨_, _, _, rfl, ?_⟩
          exact .inl ⟨rfl, rfl, rfl, rfl, rfl, rfl, rfl, rfl, _, _, rfl, .inl rfl⟩
        · rw [hz] at hh ha
          simp (config := {decide := true}) only [K_paddocklaw8_state_0, l_paddocklaw8_state_0, h0, h1, h2, h3, h10, h11, h12, hd, hdl, hw, hwi, hr, hw1, hw2, hwl, b1, hxo, hh, ha, e0, Zx_len, Zx_allD, Zx_w, Zx_s, Zx_all, Zx_toDs, Zx_isD, Zx_frz, Zx_lts, Pk.EVL, keepT, enum, ↓reduceIte, ev, act, appT, callee, toDs, toD, loadA, storeA, subA, subD, updA, Eff.on, resA, resVs, resV, lk, finish, frzR, frzVs, frzV, fznR, fzns, fzn, lts, lt, ltO, List.all, pairsOk, indep, reduceCtorEq, Nat.reduceEqDiff, Nat.reduceAdd, Nat.reduceLeDiff, stb, thaws, List.drop, intOfA, binD, binI, unD, mmL, buildA, mkAgg, allD, behind, behind0, takeAt, frzAs, frzA, adoptR, adopt, isD, isD0, trim, List.take, binS, sliceA, bnd, zOk, elems, Nat.reduceBNe, inpl, Nat.reduceLT, Nat.reduceBEq, Nat.reduceSub, Nat.reduceMul, Int.reduceLT, Int.reduceLE, Int.reduceEq, Int.reduceToNat, Int.reduceNeg, thaw, nodup, refsV, adopts, Pk.TY_State, Pk.TY_Opr, Pk.TY_Entry]
          refine ⟨_, _, _, rfl, ?_⟩
          exact .inl ⟨rfl, rfl, rfl, rfl, rfl, rfl, rfl, rfl, _, _, rfl, .inl rfl⟩
      · rw [q] at ha
        rcases hz with rfl | ⟨rfl, hz⟩
        · generalize S8 x (L.take i) = s at *
          simp (config := {decide := true}) only [K_paddocklaw8_state_0, l_paddocklaw8_state_0, h0, h1, h2, h3, h10, h11, h12, hd, hdl, hw, hwi, hr, hw1, hw2, hwl, b1, hxo, hh, ha, e10, Pk.EVL, keepT, enum, ↓reduceIte, ev, act, appT, callee, toDs, toD, loadA, storeA, subA, subD, updA, Eff.on, resA, resVs, resV, lk, finish, frzR, frzVs, frzV, fznR, fzns, fzn, lts, lt, ltO, List.all, pairsOk, indep, reduceCtorEq, Nat.reduceEqDiff, Nat.reduceAdd, Nat.reduceLeDiff, stb, thaws, List.drop, intOfA, binD, binI, unD, mmL, buildA, mkAgg, allD, behind, behind0, takeAt, frzAs, frzA, adoptR, adopt, isD, isD0, trim, List.take, binS, sliceA, bnd, zOk, elems, Nat.reduceBNe, inpl, Nat.reduceLT, Nat.reduceBEq, Nat.reduceSub, Nat.reduceMul, Int.reduceLT, Int.reduceLE, Int.reduceEq, Int.reduceToNat, Int.reduceNeg, thaw, nodup, refsV, adopts, Pk.TY_State, Pk.TY_Opr, Pk.TY_Entry]
          refine ⟨_, _, _, rfl, ?_⟩
          exact .inl ⟨rfl, rfl, rfl, rfl, rfl, rfl, rfl, rfl, _, _, rfl, .inl rfl⟩
        · rw [hz] at hh ha
          simp (config := {decide := true}) only [K_paddocklaw8_state_0, l_paddocklaw8_state_0, h0, h1, h2, h3, h10, h11, h12, hd, hdl, hw, hwi, hr, hw1, hw2, hwl, b1, hxo, hh, ha, e10, Zx_len, Zx_allD, Zx_w, Zx_s, Zx_all, Zx_toDs, Zx_isD, Zx_frz, Zx_lts, Pk.EVL, keepT, enum, ↓reduceIte, ev, act, appT, callee, toDs, toD, loadA, storeA, subA, subD, updA, Eff.on, resA, resVs, resV, lk, finish, frzR, frzVs, frzV, fznR, fzns, fzn, lts, lt, ltO, List.all, pairsOk, indep, reduceCtorEq, Nat.reduceEqDiff, Nat.reduceAdd, Nat.reduceLeDiff, stb, thaws, List.drop, intOfA, binD, binI, unD, mmL, buildA, mkAgg, allD, behind, behind0, takeAt, frzAs, frzA, adoptR, adopt, isD, isD0, trim, List.take, binS, sliceA, bnd, zOk, elems, Nat.reduceBNe, inpl, Nat.reduceLT, Nat.reduceBEq, Nat.reduceSub, Nat.reduceMul, Int.reduceLT, Int.reduceLE, Int.reduceEq, Int.reduceToNat, Int.reduceNeg, thaw, nodup, refsV, adopts, Pk.TY_State, Pk.TY_Opr, Pk.TY_Entry]
          refine ⟨_, _, _, rfl, ?_⟩
          exact .inl ⟨rfl, rfl, rfl, rfl, rfl, rfl, rfl, rfl, _, _, rfl, .inr ⟨rfl, hz⟩⟩
  · rintro T H ⟨h0, h1, h2, h3, h10, h11, h12, z, J, rfl, hz⟩
    rw [List.take_length] at hz
    have hd : decide (((L.length : Nat) : Int) < ((L.length : Nat) : Int)) = false := by simp
    rcases hz with rfl | ⟨rfl, hz⟩
    · generalize S8 x L = s at *
      simp (config := {decide := true}) only [K_paddocklaw8_state_0, l_paddocklaw8_state_0, h0, h1, h2, h3, h10, h11, h12, hd, hwl, Pk.EVL, keepT, enum, ↓reduceIte, ev, act, appT, callee, toDs, toD, loadA, storeA, subA, subD, updA, Eff.on, resA, resVs, resV, lk, finish, frzR, frzVs, frzV, fznR, fzns, fzn, lts, lt, ltO, List.all, pairsOk, indep, reduceCtorEq, Nat.reduceEqDiff, Nat.reduceAdd, Nat.reduceLeDiff, stb, thaws, List.drop, intOfA, binD, binI, unD, mmL, buildA, mkAgg, allD, behind, behind0, takeAt, frzAs, frzA, adoptR, adopt, isD, isD0, trim, List.take, binS, sliceA, bnd, zOk, elems, Nat.reduceBNe, inpl, Nat.reduceLT, Nat.reduceBEq, Nat.reduceSub, Nat.reduceMul, Int.reduceLT, Int.reduceLE, Int.reduceEq, Int.reduceToNat, Int.reduceNeg, thaw, nodup, refsV, adopts, Pk.TY_State]
      refine ⟨_, _, _, rfl, ?_⟩
      exact ⟨by simp, rfl, rfl, rfl, rfl, _, rfl, .inl rfl⟩
    · simp (config := {decide := true}) only [K_paddocklaw8_state_0, l_paddocklaw8_state_0, h0, h1, h2, h3, h10, h11, h12, hd, hwl, Zx_lts, Pk.EVL, keepT, enum, ↓reduceIte, ev, act, appT, callee, toDs, toD, loadA, storeA, subA, subD, updA, Eff.on, resA, resVs, resV, lk, finish, frzR, frzVs, frzV, fznR, fzns, fzn, lts, lt, ltO, List.all, pairsOk, indep, reduceCtorEq, Nat.reduceEqDiff, Nat.reduceAdd, Nat.reduceLeDiff, stb, thaws, List.drop, intOfA, binD, binI, unD, mmL, buildA, mkAgg, allD, behind, behind0, takeAt, frzAs, frzA, adoptR, adopt, isD, isD0, trim, List.take, binS, sliceA, bnd, zOk, elems, Nat.reduceBNe, inpl, Nat.reduceLT, Nat.reduceBEq, Nat.reduceSub, Nat.reduceMul, Int.reduceLT, Int.reduceLE, Int.reduceEq, Int.reduceToNat, Int.reduceNeg, thaw, nodup, refsV, adopts, Pk.TY_State]
      refine ⟨_, _, _, rfl, ?_⟩
      exact ⟨by simp, rfl, rfl, rfl, rfl, _, rfl, .inr ⟨rfl, hz⟩⟩
  rintro e T H ⟨rfl, h3, h10, h11, z, rfl, hz⟩
  have hgE := hge L.length
  have hlE := hle L.length
  rw [List.take_length] at hgE hlE
  have hh := head_at (S8 x L)
  have hhd : headS (S8 x L) = ((lastOf (runE L)).since, ((runE L).length : Int)) := mk_head x hgE (by omega) (by omega) hS.2
  rw [hhd] at hh
  have htn : (S8 x L).tail.n = (((runE L).length - 6 : Nat) : Int) := mk_tail_n x hgE (by omega)
  have hj := jOf_le (runE L).length f
  have htl := tail_at (S8 x L) (jOf (runE L).length f : Nat) (mk_ok x hgE (by omega))
  have htv : tailS (S8 x L) (jOf (runE L).length f : Nat) = (mkSt x (runE L) (jOf (runE L).length f), 0) := by
    refine (mk_tailS x hgE (by omega) (by omega) hS.2 _).trans ?_
    rw [if_neg (by omega), if_pos (by omega)]; rfl
  rw [htv] at htl
  have w1 : IntKind.u32.wrap (((runE L).length : Int) - (((runE L).length - 6 : Nat) : Int)) = (((runE L).length - ((runE L).length - 6) : Nat) : Int) := by rw [show ((runE L).length : Int) - (((runE L).length - 6 : Nat) : Int) = (((runE L).length - ((runE L).length - 6) : Nat) : Int) by omega]; exact wu32 (by omega)
  have w2 : IntKind.u32.wrap ((((runE L).length - ((runE L).length - 6) : Nat) : Int) + 1) = (((runE L).length - ((runE L).length - 6) + 1 : Nat) : Int) := by rw [show (((runE L).length - ((runE L).length - 6) : Nat) : Int) + 1 = (((runE L).length - ((runE L).length - 6) + 1 : Nat) : Int) by omega]; exact wu32 (by omega)
  have w3 : IntKind.u32.wrap f = f := wu32j (by omega)
  have z1 : ((((runE L).length - ((runE L).length - 6) + 1 : Nat) : Int) = 0) = False := by simp; omega
  have w4 : IntKind.u32.wrap ((((runE L).length - 6 : Nat) : Int) + f.tmod (((runE L).length - ((runE L).length - 6) + 1 : Nat) : Int)) = ((jOf (runE L).length f : Nat) : Int) := by
    rw [Int.tmod_eq_emod_of_nonneg hf.1]
    have h2 : 0 ≤ f % (((runE L).length - ((runE L).length - 6) + 1 : Nat) : Int) := Int.emod_nonneg _ (by omega)
    have : ((jOf (runE L).length f : Nat) : Int) = (((runE L).length - 6 : Nat) : Int) + f % (((runE L).length - ((runE L).length - 6) + 1 : Nat) : Int) := by
      unfold jOf
      omega
    rw [← this]
    exact wu32 (by omega)
  have e0 : ((0 : Int) == 0) = true := by decide
  simp only at htl
  generalize (lastOf (runE L)).since = sn at *
  generalize jOf (runE L).length f = j at *
  generalize mkSt x (runE L) j = s' at *
  generalize hk : (runE L).length - 6 = k at *
  generalize (runE L).length - k + 1 = m at *
  generalize (runE L).length - k = m' at *
  rcases hz with rfl | ⟨rfl, hz⟩
  · generalize (runE L).length = n at *
    generalize S8 x L = s at *
    simp (config := {decide := true}) only [h3, h10, h11, hh, htn, w1, w2, w3, w4, z1, htl, e0, Pk.EVL, keepT, enum, ↓reduceIte, ev, act, appT, callee, toDs, toD, loadA, storeA, subA, subD, updA, Eff.on, resA, resVs, resV, lk, finish, frzR, frzVs, frzV, fznR, fzns, fzn, lts, lt, ltO, List.all, pairsOk, indep, reduceCtorEq, Nat.reduceEqDiff, Nat.reduceAdd, Nat.reduceLeDiff, stb, thaws, List.drop, intOfA, binD, binI, unD, mmL, buildA, mkAgg, allD, behind, behind0, takeAt, frzAs, frzA, adoptR, adopt, isD, isD0, trim, List.take, binS, sliceA, bnd, zOk, elems, Nat.reduceBNe, inpl, Nat.reduceLT, Nat.reduceBEq, Nat.reduceSub, Nat.reduceMul, Int.reduceLT, Int.reduceLE, Int.reduceEq, Int.reduceToNat, Int.reduceNeg, thaw, nodup, refsV, adopts, Pk.TY_State, Pk.TY_Entry]
  · have hk0 : (k : Int) = 0 := by rw [hz] at htn; exact htn.symm
    rw [hk0] at w1 w4
    rw [hz] at hh htl
    generalize (runE L).length = n at *
    simp (config := {decide := true}) only [h3, h10, h11, hh, w1, w2, w3, w4, z1, htl, e0, Zx_len, Zx_allD, Zx_w, Zx_s, Zx_all, Zx_toDs, Zx_isD, Zx_frz, Zx_lts, Zx_get, Pk.EVL, keepT, enum, ↓reduceIte, ev, act, appT, callee, toDs, toD, loadA, storeA, subA, subD, updA, Eff.on, resA, resVs, resV, lk, finish, frzR, frzVs, frzV, fznR, fzns, fzn, lts, lt, ltO, List.all, pairsOk, indep, reduceCtorEq, Nat.reduceEqDiff, Nat.reduceAdd, Nat.reduceLeDiff, stb, thaws, List.drop, intOfA, binD, binI, unD, mmL, buildA, mkAgg, allD, behind, behind0, takeAt, frzAs, frzA, adoptR, adopt, isD, isD0, trim, List.take, binS, sliceA, bnd, zOk, elems, Nat.reduceBNe, inpl, Nat.reduceLT, Nat.reduceBEq, Nat.reduceSub, Nat.reduceMul, Int.reduceLT, Int.reduceLE, Int.reduceEq, Int.reduceToNat, Int.reduceNeg, thaw, nodup, refsV, adopts, Pk.TY_State, Pk.TY_Entry]
theorem tail_eq {E : List Entry} {k : Nat} (hk : k < E.length) {e : Entry} (h : E[k]? = some e) : tailOf (E.take (k + 1)) = ⟨e.since, e.n, ⟨0, 0, 0, 0, 0, ⟨#[]⟩⟩⟩ := by
  unfold tailOf
  rw [take_succ' h, lastOf_snoc]
theorem stands_mk {st st' : Int} {E F : List Entry} {k k' : Nat} (hE : goodE E) (hF : goodE F) (hk : k ≤ E.length) (h6 : E.length - k ≤ 6) (hst : st ≤ 60) (hk' : k' ≤ F.length)
    (h : standsM (mkSt st E k) (mkSt st' F k') = true) : k ≤ k' ∧ k' ≤ E.length ∧ baseOf (E.take k') = baseOf (F.take k') ∧ tailOf (E.take k') = tailOf (F.take k') := by
  have htn : (mkSt st' F k').tail.n = (k' : Int) := mk_tail_n st' hF hk'
  unfold standsM at h
  rw [htn, mk_upto st hE hk h6 hst] at h
  by_cases c : (k : Int) ≤ (k' : Int) ∧ (k' : Int) ≤ (E.length : Int)
  case neg => rw [if_neg c] at h; simp at h
  rw [if_pos c] at h
  simp only [Bool.true_and, Bool.and_eq_true, decide_eq_true_eq] at h
  obtain ⟨h1, h2⟩ := h
  refine ⟨by omega, by omega, h2, ?_⟩
  have hfd := mk_find st hE hk h6 hst (k' : Nat)
  by_cases c2 : k < k'
  · rw [if_pos (show (k : Int) < (k' : Int) by omega)] at hfd
    obtain ⟨j, rfl⟩ : ∃ j, k' = j + 1 := ⟨k' - 1, by omega⟩
    obtain ⟨e, he⟩ : ∃ e, E[j]? = some e := ⟨E[j]'(by omega), List.getElem?_eq_getElem _⟩
    have hj : (((j + 1 : Nat) : Int) - 1).toNat = j := by omega
    rw [hj, he] at hfd
    simp only at hfd
    rw [hfd, if_pos (show ((e, true) : Entry × Bool).2 = true from rfl)] at h1
    rw [tail_eq (by omega) he]
    exact h1
  · have : k' = k := by omega
    subst this
    rw [if_neg (show ¬ (k' : Int) < (k' : Int) by omega)] at hfd
    rw [hfd, if_neg (show ¬ ((Entry.zero, false) : Entry × Bool).2 = true by simp)] at h1
    exact h1
theorem has_mk {st : Int} {E : List Entry} {k : Nat} (hE : goodE E) (hk : k ≤ E.length) (h6 : E.length - k ≤ 6) (hst : st ≤ 60) {e : Entry} {n : Nat} (hn : e.n = ((n + 1 : Nat) : Int)) (h : hasE (mkSt st E k) e = true) : E[n]? = some e := by
  unfold hasE at h
  rw [mk_find st hE hk h6 hst, hn] at h
  split at h
  · rw [show (((n + 1 : Nat) : Int) - 1).toNat = n by omega] at h
    cases hx : E[n]? with
    | none => rw [hx] at h; simp at h
    | some x => rw [hx] at h; simp only [Bool.true_and, decide_eq_true_eq] at h; rw [h]
  · simp at h
theorem common_mk {st : Int} {E : List Entry} {k : Nat} (hE : goodE E) (hk : k ≤ E.length) (h6 : E.length - k ≤ 6) (hst : st ≤ 60) :
    ∀ (l : List Entry) (n : Nat), n ≤ E.length → (∀ (i : Nat) (e : Entry), l[i]? = some e → e.n = ((n + i + 1 : Nat) : Int)) → ∃ c : Nat, c ≤ l.length ∧ n + c ≤ E.length ∧ commonL (mkSt st E k) n l = ((n + c : Nat) : Int) ∧ E.take (n + c) = E.take n ++ l.take c := by
  intro l
  induction l with
  | nil => intro n hn _; exact ⟨0, Nat.le_refl _, hn, rfl, by simp⟩
  | cons e l ih =>
    intro n hn hl
    simp only [commonL]
    split
    · rename_i hh
      have h0 := hl 0 e rfl
      have hx := has_mk hE hk h6 hst (n := n) (by rw [h0, Nat.add_zero]) hh
      have hlt : n < E.length := (List.getElem?_eq_some_iff.1 hx).1
      obtain ⟨c, h1, h2, h3, h4⟩ := ih (n + 1) (by omega) (fun i x hi => by have := hl (i + 1) x (by simpa using hi); omega)
      refine ⟨c + 1, by simp; omega, by omega, ?_, ?_⟩
      · rw [h0, show ((n + 0 + 1 : Nat) : Int) = ((n + 1 : Nat) : Int) by omega, h3, show n + (c + 1) = n + 1 + c by omega]
      · rw [show n + (c + 1) = n + 1 + c by omega, h4, take_succ' hx]; simp
    · exact ⟨0, Nat.zero_le _, hn, rfl, by simp⟩
theorem next_of {G : List Entry} (hG : goodE G) {m : Nat} {e : Entry} (h : G[m]? = some e) : nextE (lastOf (G.take m)) e = true := by
  have h1 := (hG.take (m + 1)).ch
  rw [take_succ' h, chain_append, Bool.and_eq_true] at h1
  have h2 := h1.2
  unfold lastOf
  revert h2
  cases (G.take m).getLast? with
  | none => exact id
  | some x => exact id
theorem added_mk (st : Int) (hst : st ≤ 60) {G : List Entry} (hG : goodE G) : ∀ (d m k : Nat), m + d = G.length → k ≤ m → m - k ≤ 6 → ∃ k', k ≤ k' ∧ (k' = k ∨ k' ≤ G.length - 6) ∧ k' ≤ G.length ∧ G.length - k' ≤ 6 ∧ addedM (mkSt st (G.take m) k) (G.drop m) = (mkSt st G k', 0) := by
  intro d
  induction d with
  | zero =>
    intro m k hm hk h6
    have : m = G.length := by omega
    subst this
    rw [List.take_length, List.drop_length]
    exact ⟨k, Nat.le_refl _, .inl rfl, hk, h6, rfl⟩
  | succ d ih =>
    intro m k hm hk h6
    obtain ⟨e, he⟩ : ∃ e, G[m]? = some e := ⟨G[m]'(by omega), List.getElem?_eq_getElem _⟩
    have hdr : G.drop m = e :: G.drop (m + 1) := by
      rw [List.drop_eq_getElem_cons (by omega)]
      congr 1
      exact (List.getElem?_eq_some_iff.1 he).2
    have hlt : (G.take m).length = m := by rw [List.length_take]; omega
    have ha := mk_add st (hG.take m) (k := k) (by omega) (by omega) hst e
    rw [next_of hG he, if_pos rfl, ← take_succ' he, hlt] at ha
    rw [hdr]
    simp only [addedM]
    rw [ha, if_pos rfl]
    obtain ⟨k', h1, h2, h3, h4, h5⟩ := ih (m + 1) (k + (m - k + 1 - 6)) (by omega) (by omega) (by omega)
    exact ⟨k', by omega, by omega, h3, h4, h5⟩
theorem form_0 (w : State) : formD ⟨0, 0, [], w⟩ = true := rfl
theorem form_2 (w : State) : formD ⟨2, 0, [], w⟩ = true := rfl
theorem form_1 (f : Int) (l : List Entry) (w : State) : formD ⟨1, f, l, w⟩ = true := by
  unfold formD
  simp
theorem back_mk {st st' : Int} {E F : List Entry} {k k' : Nat} (hE : goodE E) (hF : goodE F) (hk : k ≤ E.length) (h6 : E.length - k ≤ 6) (hst : st ≤ 60) (hk' : k' ≤ F.length) (h6' : F.length - k' ≤ 6) (hst' : st' ≤ 60) :
    applyM (mkSt st E k) (makeM (mkSt st E k) (mkSt st' F k')) = (mkSt st' F k', 0) := by
  have i1 := mk_is st hE hk h6 hst
  have i2 := mk_is st' hF hk' h6' hst'
  have htn : (mkSt st' F k').tail.n = (k' : Int) := mk_tail_n st' hF hk'
  unfold makeM
  rw [if_pos (by rw [i1, i2]; rfl)]
  by_cases c3 : ({ mkSt st E k with started := (mkSt st' F k').started } : State) = mkSt st' F k'
  · rw [if_pos c3]
    unfold applyM
    have hmid : midM (mkSt st E k) ⟨0, 0, [], headM (mkSt st' F k')⟩ = (mkSt st E k, 0) := rfl
    have htl : (mkSt st E k).tail = (mkSt st' F k').tail := by have := congrArg State.tail c3; exact this
    have hkk : (k : Int) = (k' : Int) := by rw [← htn, ← htl]; exact (mk_tail_n st hE hk).symm
    have hts : tailS (mkSt st E k) (k' : Nat) = (mkSt st E k, 0) := by
      rw [mk_tailS st hE hk h6 hst, if_neg (by omega), if_pos (by omega)]
      rw [show (k' : Int).toNat = k by omega]
    have hh : (headM (mkSt st' F k')).tail = (mkSt st' F k').tail := rfl
    have hs : (headM (mkSt st' F k')).started = (mkSt st' F k').started := rfl
    rw [i1, form_0, if_pos (by rfl), if_neg (by show ¬ (0 : Int) = 2; decide), hmid, if_pos rfl]
    simp only [hh, hs, htn, hts]
    rw [c3, if_pos ⟨trivial, by rw [htl], i2⟩]
  rw [if_neg c3]
  by_cases c4 : standsM (mkSt st E k) (mkSt st' F k') = true
  case neg =>
    rw [if_neg c4]
    unfold applyM
    rw [i1, form_2, if_pos (by rfl), if_pos (by rfl)]
    simp only
    rw [if_pos i2]
  rw [if_pos c4]
  obtain ⟨hkk, hkE, hb, ht⟩ := stands_mk hE hF hk h6 hst hk' c4
  have hlog : (mkSt st' F k').log = F.drop k' := rfl
  have hFn : ∀ (i : Nat) (e : Entry), (F.drop k')[i]? = some e → e.n = ((k' + i + 1 : Nat) : Int) := fun i e he => by
    rw [List.getElem?_drop] at he
    have := hF.nums.1 _ _ he
    omega
  obtain ⟨c, hc1, hc2, hc3, hc4⟩ := common_mk hE hk h6 hst (F.drop k') k' hkE hFn
  rw [htn, hlog, hc3]
  rw [show ((((k' + c : Nat) : Int)) - (k' : Int)).toNat = c by omega]
  -- the list that comes of it
  have hlk : (E.take k').length = k' := by rw [List.length_take]; omega
  have hG : goodE (E.take k' ++ F.drop k') := by
    refine ⟨?_, fun e he => ?_⟩
    · rw [chain_split, (hE.take k').ch, Bool.true_and, ← hF.drop k']
      have h1 : tailOf (F.take k') = tailOf (E.take k') := ht.symm
      rw [h1]
      refine chainE_congr ?_ ?_ _ <;> unfold tailOf lastOf <;> cases (E.take k').getLast? <;> rfl
    · rcases List.mem_append.1 he with he | he
      · exact hE.ok e (List.mem_of_mem_take he)
      · exact hF.ok e (List.mem_of_mem_drop he)
  have hGt : ∀ j, (E.take k' ++ F.drop k').take (k' + j) = E.take k' ++ (F.drop k').take j := fun j => by
    rw [List.take_append, hlk, List.take_of_length_le (by omega), show k' + j - k' = j by omega]
  have hGd : ∀ j, (E.take k' ++ F.drop k').drop (k' + j) = (F.drop k').drop j := fun j => by
    rw [List.drop_append, hlk, List.drop_eq_nil_of_le (by omega), List.nil_append, show k' + j - k' = j by omega]
  have hGl : (E.take k' ++ F.drop k').length = F.length := by rw [List.length_append, hlk, List.length_drop]; omega
  have hGm : ∀ x, mkSt x (E.take k' ++ F.drop k') k' = { mkSt st' F k' with started := x } := fun x => by
    have g0 := hGt 0
    have g1 := hGd 0
    simp only [Nat.add_zero, List.take_zero, List.append_nil, List.drop_zero] at g0 g1
    unfold mkSt
    rw [g0, g1, hb, ht]
  rw [← hGd c]
  have hEc : E.take (k' + c) = (E.take k' ++ F.drop k').take (k' + c) := by rw [hc4, hGt]
  generalize E.take k' ++ F.drop k' = G at *
  have hcl : c ≤ F.length - k' := by rw [List.length_drop] at hc1; exact hc1
  have hlE : E.length ≤ k + 6 := by omega
  obtain ⟨kk, a1, a2, a3, a4, a5⟩ := added_mk st hst hG (G.length - (k' + c)) (k' + c) k (by omega) (by omega) (by omega)
  have hcut : cutS (mkSt st E k) ((k' + c : Nat) : Int) = (mkSt st (G.take (k' + c)) k, 0) := by
    rw [mk_cut st hE hk h6 hst, if_pos (by omega), show (((k' + c : Nat) : Int)).toNat = k' + c by omega, hEc]
  have hmid : midM (mkSt st E k) ⟨1, ((k' + c : Nat) : Int), G.drop (k' + c), headM (mkSt st' F k')⟩ = (mkSt st G kk, 0) := by
    unfold midM
    rw [if_pos rfl, hcut, if_pos rfl]
    exact a5
  have hkk2 : kk ≤ k' := by omega
  have hts : tailS (mkSt st G kk) (k' : Nat) = (mkSt st G k', 0) := by
    rw [mk_tailS st hG a3 a4 hst, if_neg (by omega), if_pos (by omega)]
    rw [show (k' : Int).toNat = k' by omega]
  have hh : (headM (mkSt st' F k')).tail = (mkSt st' F k').tail := rfl
  have hs : (headM (mkSt st' F k')).started = st' := rfl
  have hm1 := hGm st
  have hm2 := hGm st'
  have hm3 : ({ mkSt st' F k' with started := st' } : State) = mkSt st' F k' := rfl
  unfold applyM
  rw [i1, form_1, if_pos (by rfl), if_neg (by show ¬ (1 : Int) = 2; decide), hmid, if_pos rfl]
  simp only [hh, hs, htn, hts]
  rw [hm1]
  have hm4 : ({ ({ mkSt st' F k' with started := st } : State) with started := st' } : State) = mkSt st' F k' := rfl
  rw [hm4, if_pos ⟨trivial, rfl, i2⟩]
end Go.Proofs.Ytfajplmkfpdhfaa

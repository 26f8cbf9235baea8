/- choose.Best, choose.Started. -/
import Derived.Test.YthlpognahlnaaaaGreatPkEvd
import Derived.Test.YthlpognahlnaaaaGreatChC
import Derived.Test.YthlpognahlnaaaaGreatPgB
set_option linter.all false
namespace Go.Proofs.YthlpognahlnaaaaGreat
open Pv Go Pk
set_option maxRecDepth 10000
set_option maxHeartbeats 4000000
/-- The place of the first state of which it holds. -/
def ixS (pr : State → Bool) : List State → Nat → Int
 | [], _ => -1
 | x :: r, i => if pr x then (i : Int) else ixS pr r (i + 1)
theorem ixS_any (pr : State → Bool) : ∀ (A : List State) (i : Nat), decide (ixS pr A i ≥ 0) = A.any pr
 | [], _ => rfl
 | x :: r, i => by
  rw [List.any_cons]
  unfold ixS
  cases h : pr x with
  | true => simp
  | false => simpa using ixS_any pr r (i + 1)
theorem ixS_drop {pr : State → Bool} {A : List State} {i : Nat} {y : State} (hy : A[i]? = some y) : ixS pr (A.drop i) i = if pr y then (i : Int) else ixS pr (A.drop (i + 1)) (i + 1) := by
 have hi := (List.getElem?_eq_some_iff.1 hy).1
 rw [List.drop_eq_getElem_cons hi, (List.getElem?_eq_some_iff.1 hy).2]
 rfl
theorem cfuncS_at (F : FuncId) (pr : State → Bool) (B : List State) (hB : B.length ≤ 1000) (H : Heap) (hcall : ∀ x ∈ B, evF C F [.d (.agg x.cs)] [] = some (.d (.b (pr x)), [])) :
  evF C F_q43 [.d (.sl (B.map State.d)), .fn F [] []] H = some (.d (.b (B.any pr)), H) := by
 have hidx : evF C F_q4b [.d (.sl (B.map State.d)), .fn F [] []] H = some (.d (.i .i64 (ixS pr B 0)), H) := by
  have hl : (B.map State.d).length = B.length := List.length_map _
  rw [evF_code (rfl : C F_q4b = some a_q4b) _ _ rfl]
  simp +decide only [c_q4b, hl, thaws, Pk.EVL, Pk.EVD, ↓reduceIte, reduceCtorEq, Nat.reduceEqDiff, Nat.reduceAdd, Nat.reduceLeDiff, Nat.reduceBNe, Nat.reduceLT, Nat.reduceBEq, Nat.reduceSub, Nat.reduceMul, Int.reduceLT, Int.reduceLE, Int.reduceEq, Int.reduceToNat, Int.reduceNeg]
  simp only [Option.bind_assoc]
  refine bind_run (loop_run (fun i T G => lk T 0 = .d (.sl (B.map State.d)) ∧ lk T 1 = .fn F [] [] ∧ lk T 7 = .d (.i .i64 (B.length : Nat)) ∧ lk T 8 = .d (.i .i64 (i : Nat)) ∧ G = H ∧ ixS pr (B.drop i) i = ixS pr B 0)
   (fun x T G => G = H ∧ ((x = .exit 0 ∧ ixS pr B 0 = -1) ∨ (x = .ret ∧ lk T 4 = .d (.i .i64 (ixS pr B 0))))) B.length ?_ ?_ B.length 0 _ _ (by omega) ⟨rfl, rfl, rfl, rfl, rfl, rfl⟩) ?_
  ·rintro i T G hi ⟨h0, h1, h7, h8, rfl, hni⟩
   obtain ⟨y, hy⟩ : ∃ y, B[i]? = some y := ⟨B[i]'hi, List.getElem?_eq_getElem _⟩
   have hyd := list_idx State.d hy
   have hcl := hcall y (List.mem_of_getElem? hy)
   rw [ixS_drop hy] at hni
   have hd : decide ((i : Int) < ((B.length : Nat) : Int)) = true := by simp; omega
   have hw : IntKind.i64.wrap ((i : Int) + 1) = ((i + 1 : Nat) : Int) := wi64 (by omega)
   have b0 : (0 ≤ (i : Int)) = True := by simp
   cases c : pr y with
   | true =>
    rw [c] at hcl
    rw [if_pos c] at hni
    rw [← hni]
    simp +decide only [K_q4b_0, l_q4b_0, h0, h1, h7, h8, hyd, hcl, hd, hw, b0, ite_self, List.take_length, Pk.EVL, Pk.EVD, ↓reduceIte, reduceCtorEq, Nat.reduceEqDiff, Nat.reduceAdd, Nat.reduceLeDiff, Nat.reduceBNe, Nat.reduceLT, Nat.reduceBEq, Nat.reduceSub, Nat.reduceMul, Int.reduceLT, Int.reduceLE, Int.reduceEq, Int.reduceToNat, Int.reduceNeg, Pk.TY_State]
    exact ⟨_, _, _, rfl, .inr ⟨by simp, rfl, rfl, rfl⟩⟩
   | false =>
    rw [c] at hcl
    rw [if_neg (by simp [c])] at hni
    simp +decide only [K_q4b_0, l_q4b_0, h0, h1, h7, h8, hyd, hcl, hd, hw, b0, ite_self, List.take_length, Pk.EVL, Pk.EVD, ↓reduceIte, reduceCtorEq, Nat.reduceEqDiff, Nat.reduceAdd, Nat.reduceLeDiff, Nat.reduceBNe, Nat.reduceLT, Nat.reduceBEq, Nat.reduceSub, Nat.reduceMul, Int.reduceLT, Int.reduceLE, Int.reduceEq, Int.reduceToNat, Int.reduceNeg, Pk.TY_State]
    exact ⟨_, _, _, rfl, .inl ⟨rfl, rfl, rfl, rfl, rfl, rfl, hni⟩⟩
  ·rintro T G ⟨h0, h1, h7, h8, rfl, hni⟩
   rw [List.drop_length] at hni
   have hd : decide (((B.length : Nat) : Int) < ((B.length : Nat) : Int)) = false := by simp
   simp +decide only [K_q4b_0, l_q4b_0, h0, h1, h7, h8, hd, ite_self, List.take_length, Pk.EVL, Pk.EVD, ↓reduceIte, reduceCtorEq, Nat.reduceEqDiff, Nat.reduceAdd, Nat.reduceLeDiff, Nat.reduceBNe, Nat.reduceLT, Nat.reduceBEq, Nat.reduceSub, Nat.reduceMul, Int.reduceLT, Int.reduceLE, Int.reduceEq, Int.reduceToNat, Int.reduceNeg]
   exact ⟨_, _, _, rfl, by simp, rfl, .inl ⟨rfl, hni.symm⟩⟩
  rintro x T G ⟨rfl, ⟨rfl, h⟩ | ⟨rfl, h4⟩⟩
  ·simp +decide only [h, ite_self, List.take_length, Pk.EVL, Pk.EVD, ↓reduceIte, reduceCtorEq, Nat.reduceEqDiff, Nat.reduceAdd, Nat.reduceLeDiff, Nat.reduceBNe, Nat.reduceLT, Nat.reduceBEq, Nat.reduceSub, Nat.reduceMul, Int.reduceLT, Int.reduceLE, Int.reduceEq, Int.reduceToNat, Int.reduceNeg]
  ·simp +decide only [h4, ite_self, List.take_length, Pk.EVL, Pk.EVD, ↓reduceIte, reduceCtorEq, Nat.reduceEqDiff, Nat.reduceAdd, Nat.reduceLeDiff, Nat.reduceBNe, Nat.reduceLT, Nat.reduceBEq, Nat.reduceSub, Nat.reduceMul, Int.reduceLT, Int.reduceLE, Int.reduceEq, Int.reduceToNat, Int.reduceNeg]
 have hj := ixS_any pr B 0
 rw [evF_code (rfl : C F_q43 = some a_q43) _ _ rfl]
 simp +decide only [c_q43, hidx, hj, ite_self, List.take_length, Nat.le_refl, Pk.EVL, Pk.EVD, ↓reduceIte, reduceCtorEq, Nat.reduceEqDiff, Nat.reduceAdd, Nat.reduceLeDiff, Nat.reduceBNe, Nat.reduceLT, Nat.reduceBEq, Nat.reduceSub, Nat.reduceMul, Int.reduceLT, Int.reduceLE, Int.reduceEq, Int.reduceToNat, Int.reduceNeg]
theorem best1_at (s : State) : evF C F_q04 [.d (.agg s.cs)] [] = some (.d (.b (!isSt s)), []) := by
 have hi := is_st s
 rw [evF_code (rfl : C F_q04 = some a_q04) _ _ rfl]
 simp +decide only [c_q04, hi, Pk.EVL, Pk.EVD, ↓reduceIte, reduceCtorEq, Nat.reduceEqDiff, Nat.reduceAdd, Nat.reduceLeDiff, Nat.reduceBNe, Nat.reduceLT, Nat.reduceBEq, Nat.reduceSub, Nat.reduceMul, Int.reduceLT, Int.reduceLE, Int.reduceEq, Int.reduceToNat, Int.reduceNeg, Pk.TY_State]
/-- A daemon's state as it counts: the daemon, when it started, the last entry's interval and number. -/
structure Cand where
 osd : Int
 started : Int
 since : Int
 n : Int
 deriving DecidableEq
def Cand.cs (c : Cand) : List DV := [.i .i64 c.osd, .i .u32 c.started, .i .u32 c.since, .i .u32 c.n]
def beats (c d : Cand) : Bool :=
 if (c.started != d.started) = true then decide (c.started > d.started) else if (c.since != d.since) = true then decide (c.since > d.since) else if (c.n != d.n) = true then decide (c.n > d.n) else decide (c.osd < d.osd)
theorem beats_at (c d : Cand) : evF C F_q0a [.d (.agg c.cs), .d (.agg d.cs)] [] = some (.d (.b (beats c d)), []) := by
 rw [evF_code (rfl : C F_q0a = some a_q0a) _ _ rfl]
 unfold beats
 rcases Bool.eq_false_or_eq_true (c.started != d.started) with h1 | h1 <;> rcases Bool.eq_false_or_eq_true (c.since != d.since) with h2 | h2 <;> rcases Bool.eq_false_or_eq_true (c.n != d.n) with h3 | h3 <;>
  simp +decide only [c_q0a, Cand.cs, h1, h2, h3, Pk.EVL, Pk.EVD, ↓reduceIte, reduceCtorEq, Nat.reduceEqDiff, Nat.reduceAdd, Nat.reduceLeDiff, Nat.reduceBNe, Nat.reduceLT, Nat.reduceBEq, Nat.reduceSub, Nat.reduceMul, Int.reduceLT, Int.reduceLE, Int.reduceEq, Int.reduceToNat, Int.reduceNeg]
def candOf (o : Int) (s : State) : Cand := ⟨o, s.started, (headS s).1, (headS s).2⟩
/-- The best so far: its place, and how it counts. -/
def bestFold (os : List Int) (L : List State) : Int × Cand := ((os.zip L).zipIdx).foldl (fun b x => if b.1 < 0 || beats (candOf x.1.1 x.1.2) b.2 then ((x.2 : Int), candOf x.1.1 x.1.2) else b) (-1, ⟨0, 0, 0, 0⟩)
def bestS (os : List Int) (L : List State) : Int := if os.length ≠ L.length ∨ L.any (fun s => !isSt s) then -1 else (bestFold os L).1
theorem bestFold_snoc (os : List Int) (L : List State) (o : Int) (s : State) (h : os.length = L.length) : bestFold (os ++ [o]) (L ++ [s]) = if (bestFold os L).1 < 0 || beats (candOf o s) (bestFold os L).2 then ((L.length : Int), candOf o s) else bestFold os L := by
 unfold bestFold
 rw [List.zip_append h, List.zipIdx_append, List.foldl_append]
 have : (os.zip L).length = L.length := by rw [List.length_zip]; omega
 simp [this]
theorem bestFold_fst (os : List Int) (L : List State) (h : os.length = L.length) : -1 ≤ (bestFold os L).1 ∧ (bestFold os L).1 < (L.length : Int) := by
 revert os
 refine list_snoc_ind (M := fun L => ∀ os : List Int, os.length = L.length → -1 ≤ (bestFold os L).1 ∧ (bestFold os L).1 < (L.length : Int)) ?_ ?_ L
 ·intro os h
  have : os = [] := List.eq_nil_of_length_eq_zero h
  subst this
  decide
 ·intro L s ih os h
  obtain ⟨o, os', rfl⟩ : ∃ o os', os = os' ++ [o] := by
   have hne : os ≠ [] := by intro hh; rw [hh] at h; simp at h
   exact ⟨os.getLast hne, os.dropLast, (List.dropLast_concat_getLast hne).symm⟩
  have hl : os'.length = L.length := by simp at h; exact h
  rw [bestFold_snoc _ _ _ _ hl]
  have := ih os' hl
  split
  ·rw [List.length_append]; simp; omega
  ·rw [List.length_append]; simp; omega
theorem cbest_at (os : List Int) (L : List State) (hL : L.length ≤ 1000) (ho : os.length ≤ 1000) : evF C F_q03 [.d (.sl (os.map fun x => .i .i64 x)), .d (.sl (L.map State.d))] [] = some (.d (.i .i64 (bestS os L)), []) := by
 have hol : (os.map fun x : Int => DV.i .i64 x).length = os.length := List.length_map _
 have hLl : (L.map State.d).length = L.length := List.length_map _
 have hcf := fun H => cfuncS_at F_q04 (fun s => !isSt s) L hL H (fun s _ => best1_at s)
 rw [evF_code (rfl : C F_q03 = some a_q03) _ _ rfl]
 unfold bestS
 by_cases hne : os.length = L.length
 case neg =>
  have h1 : (((os.length : Nat) : Int) != ((L.length : Nat) : Int)) = true := by simp; omega
  rw [if_pos (.inl hne)]
  simp +decide only [c_q03, hol, hLl, h1, guardR_und, Pk.EVL, Pk.EVD, ↓reduceIte, reduceCtorEq, Nat.reduceEqDiff, Nat.reduceAdd, Nat.reduceLeDiff, Nat.reduceBNe, Nat.reduceLT, Nat.reduceBEq, Nat.reduceSub, Nat.reduceMul, Int.reduceLT, Int.reduceLE, Int.reduceEq, Int.reduceToNat, Int.reduceNeg]
 have h1 : (((os.length : Nat) : Int) != ((L.length : Nat) : Int)) = false := by simp; omega
 cases ha : (L.any fun s => !isSt s) with
 | true =>
  rw [ha] at hcf
  rw [if_pos (.inr rfl)]
  simp +decide only [c_q03, hol, hLl, h1, hcf, guardR_und, Pk.EVL, Pk.EVD, ↓reduceIte, reduceCtorEq, Nat.reduceEqDiff, Nat.reduceAdd, Nat.reduceLeDiff, Nat.reduceBNe, Nat.reduceLT, Nat.reduceBEq, Nat.reduceSub, Nat.reduceMul, Int.reduceLT, Int.reduceLE, Int.reduceEq, Int.reduceToNat, Int.reduceNeg]
 | false =>
  rw [ha] at hcf
  rw [if_neg (by simp [hne])]
  simp +decide only [c_q03, hol, hLl, h1, hcf, thaws, Pk.EVL, Pk.EVD, ↓reduceIte, reduceCtorEq, Nat.reduceEqDiff, Nat.reduceAdd, Nat.reduceLeDiff, Nat.reduceBNe, Nat.reduceLT, Nat.reduceBEq, Nat.reduceSub, Nat.reduceMul, Int.reduceLT, Int.reduceLE, Int.reduceEq, Int.reduceToNat, Int.reduceNeg]
  simp only [Option.bind_assoc]
  refine bind_run (loop_run (fun i T H => lk T 0 = .d (.sl (os.map fun x => .i .i64 x)) ∧ lk T 5 = .d (.i .i64 (bestFold (os.take i) (L.take i)).1) ∧ lk T 6 = .ptr 0 0 ∧ lk T 21 = .d (.sl (L.map State.d)) ∧ lk T 22 = .d (.i .i64 (L.length : Nat)) ∧ lk T 23 = .d (.i .i64 (i : Nat)) ∧ ∃ J, H = .box (.d (.agg (bestFold (os.take i) (L.take i)).2.cs)) :: J)
   (fun e T H => e = .exit 0 ∧ lk T 5 = .d (.i .i64 (bestFold os L).1)) L.length ?_ ?_ L.length 0 _ _ (by omega) ⟨rfl, rfl, rfl, rfl, rfl, rfl, [], rfl⟩) ?_
  ·rintro i T H hi ⟨h0, h5, h6, h21, h22, h23, J, rfl⟩
   obtain ⟨s, hs⟩ : ∃ s, L[i]? = some s := ⟨L[i]'hi, List.getElem?_eq_getElem _⟩
   obtain ⟨o, ho'⟩ : ∃ o, os[i]? = some o := ⟨os[i]'(by omega), List.getElem?_eq_getElem _⟩
   have hsd := list_idx State.d hs
   have hod := list_idx (fun x : Int => DV.i .i64 x) ho'
   have hh := head_at s
   have hlt : (os.take i).length = (L.take i).length := by rw [List.length_take, List.length_take]; omega
   have hil : (L.take i).length = i := by rw [List.length_take]; omega
   rw [take_succ' hs, take_succ' ho', bestFold_snoc _ _ _ _ hlt, hil]
   have hb := beats_at (candOf o s) (bestFold (os.take i) (L.take i)).2
   generalize bestFold (os.take i) (L.take i) = bb at *
   obtain ⟨b1, b2⟩ := bb
   simp only at hb h5 ⊢
   have hd : decide ((i : Int) < ((L.length : Nat) : Int)) = true := by simp; omega
   have hw : IntKind.i64.wrap ((i : Int) + 1) = ((i + 1 : Nat) : Int) := wi64 (by omega)
   have b0 : (0 ≤ (i : Int)) = True := by simp
   have hcc : ([.i .i64 o, .i .u32 s.started, .i .u32 (headS s).1, .i .u32 (headS s).2] : List DV) = (candOf o s).cs := rfl
   have hcl : (candOf o s).cs.length = 4 := rfl
   have hcl2 : b2.cs.length = 4 := rfl
   have hsub : ∀ c : Cand, subL c.cs 0 4 = c.cs := fun _ => rfl
   have hupd : ∀ c d : Cand, upd c.cs 0 d.cs = d.cs := fun _ _ => rfl
   have hz4 : ([.i .i64 0, .i .u32 0, .i .u32 0, .i .u32 0] : List DV) = (Cand.mk 0 0 0 0).cs := rfl
   have hcl4 : ∀ c : Cand, c.cs.length = 4 := fun _ => rfl
   rcases Bool.eq_false_or_eq_true (decide (b1 < 0)) with c1 | c1 <;> rcases Bool.eq_false_or_eq_true (beats (candOf o s) b2) with c2 | c2 <;>
    simp +decide only [K_q03_0, l_q03_0, h0, h5, h6, h21, h22, h23, hsd, hod, hh, hb, hd, hw, b0, hcc, hsub, hupd, hz4, hcl4, c1, c2, guardR_und, Pk.EVL, Pk.EVD, ↓reduceIte, reduceCtorEq, Nat.reduceEqDiff, Nat.reduceAdd, Nat.reduceLeDiff, Nat.reduceBNe, Nat.reduceLT, Nat.reduceBEq, Nat.reduceSub, Nat.reduceMul, Int.reduceLT, Int.reduceLE, Int.reduceEq, Int.reduceToNat, Int.reduceNeg, Pk.TY_State] <;>
    exact ⟨_, _, _, rfl, .inl ⟨rfl, rfl, rfl, rfl, rfl, rfl, rfl, _, rfl⟩⟩
  ·rintro T H ⟨h0, h5, h6, h21, h22, h23, J, rfl⟩
   rw [List.take_length, show os.take L.length = os by rw [← hne]; exact List.take_length] at h5
   have hd : decide (((L.length : Nat) : Int) < ((L.length : Nat) : Int)) = false := by simp
   simp +decide only [K_q03_0, l_q03_0, h0, h5, h6, h21, h22, h23, hd, Pk.EVL, Pk.EVD, ↓reduceIte, reduceCtorEq, Nat.reduceEqDiff, Nat.reduceAdd, Nat.reduceLeDiff, Nat.reduceBNe, Nat.reduceLT, Nat.reduceBEq, Nat.reduceSub, Nat.reduceMul, Int.reduceLT, Int.reduceLE, Int.reduceEq, Int.reduceToNat, Int.reduceNeg]
   exact ⟨_, _, _, rfl, by simp, rfl, rfl⟩
  rintro e T H ⟨rfl, h5⟩
  simp +decide only [h5, List.take_zero, Pk.EVL, Pk.EVD, ↓reduceIte, reduceCtorEq, Nat.reduceEqDiff, Nat.reduceAdd, Nat.reduceLeDiff, Nat.reduceBNe, Nat.reduceLT, Nat.reduceBEq, Nat.reduceSub, Nat.reduceMul, Int.reduceLT, Int.reduceLE, Int.reduceEq, Int.reduceToNat, Int.reduceNeg]
def startedS (L : List State) : Int := L.foldl (fun n s => mmI true n s.started) 0
theorem cstarted_at (L : List State) (hL : L.length ≤ 1000) : evF C F_q09 [.d (.sl (L.map State.d))] [] = some (.d (.i .u32 (startedS L)), []) := by
 have hLl : (L.map State.d).length = L.length := List.length_map _
 rw [evF_code (rfl : C F_q09 = some a_q09) _ _ rfl]
 simp +decide only [c_q09, hLl, thaws, Pk.EVL, Pk.EVD, ↓reduceIte, reduceCtorEq, Nat.reduceEqDiff, Nat.reduceAdd, Nat.reduceLeDiff, Nat.reduceBNe, Nat.reduceLT, Nat.reduceBEq, Nat.reduceSub, Nat.reduceMul, Int.reduceLT, Int.reduceLE, Int.reduceEq, Int.reduceToNat, Int.reduceNeg]
 simp only [Option.bind_assoc]
 refine bind_run (loop_run (fun i T H => lk T 3 = .d (.i .u32 (startedS (L.take i))) ∧ lk T 6 = .d (.sl (L.map State.d)) ∧ lk T 7 = .d (.i .i64 (L.length : Nat)) ∧ lk T 8 = .d (.i .i64 (i : Nat)))
  (fun e T H => e = .exit 0 ∧ lk T 3 = .d (.i .u32 (startedS L))) L.length ?_ ?_ L.length 0 _ _ (by omega) ⟨rfl, rfl, rfl, rfl⟩) ?_
 ·rintro i T H hi ⟨h3, h6, h7, h8⟩
  obtain ⟨s, hs⟩ : ∃ s, L[i]? = some s := ⟨L[i]'hi, List.getElem?_eq_getElem _⟩
  have hsd := list_idx State.d hs
  have hd : decide ((i : Int) < ((L.length : Nat) : Int)) = true := by simp; omega
  have hw : IntKind.i64.wrap ((i : Int) + 1) = ((i + 1 : Nat) : Int) := wi64 (by omega)
  have b0 : (0 ≤ (i : Int)) = True := by simp
  have hst : startedS (L.take (i + 1)) = mmI true (startedS (L.take i)) s.started := by rw [take_succ' hs]; unfold startedS; rw [List.foldl_append]; rfl
  rw [hst]
  have tr : trim 0 (List.map (fun x => x.2) (keepT K_q09_0 T)) H = [] ∨ True := .inr trivial
  generalize startedS (L.take i) = n at *
  simp +decide only [K_q09_0, l_q09_0, h3, h6, h7, h8, hsd, hd, hw, b0, List.take_zero, Pk.EVL, Pk.EVD, ↓reduceIte, reduceCtorEq, Nat.reduceEqDiff, Nat.reduceAdd, Nat.reduceLeDiff, Nat.reduceBNe, Nat.reduceLT, Nat.reduceBEq, Nat.reduceSub, Nat.reduceMul, Int.reduceLT, Int.reduceLE, Int.reduceEq, Int.reduceToNat, Int.reduceNeg, Pk.TY_State]
  exact ⟨_, _, _, rfl, .inl ⟨rfl, rfl, rfl, rfl, rfl⟩⟩
 ·rintro T H ⟨h3, h6, h7, h8⟩
  rw [List.take_length] at h3
  have hd : decide (((L.length : Nat) : Int) < ((L.length : Nat) : Int)) = false := by simp
  simp +decide only [K_q09_0, l_q09_0, h3, h6, h7, h8, hd, List.take_zero, Pk.EVL, Pk.EVD, ↓reduceIte, reduceCtorEq, Nat.reduceEqDiff, Nat.reduceAdd, Nat.reduceLeDiff, Nat.reduceBNe, Nat.reduceLT, Nat.reduceBEq, Nat.reduceSub, Nat.reduceMul, Int.reduceLT, Int.reduceLE, Int.reduceEq, Int.reduceToNat, Int.reduceNeg]
  exact ⟨_, _, _, rfl, by simp, rfl, rfl⟩
 rintro e T H ⟨rfl, h3⟩
 simp +decide only [h3, List.take_zero, Pk.EVL, Pk.EVD, ↓reduceIte, reduceCtorEq, Nat.reduceEqDiff, Nat.reduceAdd, Nat.reduceLeDiff, Nat.reduceBNe, Nat.reduceLT, Nat.reduceBEq, Nat.reduceSub, Nat.reduceMul, Int.reduceLT, Int.reduceLE, Int.reduceEq, Int.reduceToNat, Int.reduceNeg]
end Go.Proofs.YthlpognahlnaaaaGreat

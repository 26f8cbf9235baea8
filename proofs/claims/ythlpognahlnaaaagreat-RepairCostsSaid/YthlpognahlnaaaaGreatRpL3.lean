/- The law RepairCosts. -/
import Derived.Test.YthlpognahlnaaaaGreatPkEvd
import Derived.Test.YthlpognahlnaaaaGreatRpM
set_option linter.all false
namespace Go.Proofs.YthlpognahlnaaaaGreat
open Pv Go Pk
set_option maxRecDepth 10000
set_option maxHeartbeats 4000000
/-- How many operations a daemon's state is made of. -/
def numN (m : Nat) (V : List Int) (i : Nat) : Nat := m - (V.getD i 0).toNat % (m + 1)
def opsL (ops : List Opr) : List (Int × Opr) := ops.map fun o => (1, o)
def entN (ops : List Opr) (V : List Int) (i : Nat) : List Entry := runE ((opsL ops).take (numN ops.length V i))
def staN (ops : List Opr) (V : List Int) (i : Nat) : State := mkSt 0 (entN ops V i) 0
def rowS (ops : List Opr) (V : List Int) (k : Nat) : List State := (List.range k).map fun i => staN ops V i
def mostN (ops : List Opr) (V : List Int) : Nat → Nat
 | 0 => 0
 | i + 1 => max (mostN ops V i) (entN ops V i).length
def wantN (ops : List Opr) (V : List Int) (M : Nat) : Nat → Nat
 | 0 => 0
 | i + 1 => wantN ops V M i + (M - (entN ops V i).length)
theorem opsL_ok {ops : List Opr} (h : ∀ o ∈ ops, o.ok) : ∀ p ∈ opsL ops, p.2.ok := by
 intro p hp
 obtain ⟨o, ho, rfl⟩ := List.mem_map.1 hp
 exact h o ho
theorem entN_good {ops : List Opr} (h : ∀ o ∈ ops, o.ok) (V : List Int) (i : Nat) : goodE (entN ops V i) := runE_good fun p hp => opsL_ok h p (List.mem_of_mem_take hp)
theorem opsL_len (ops : List Opr) : (opsL ops).length = ops.length := List.length_map _
theorem entN_len {ops : List Opr} (h6 : ops.length ≤ 6) (V : List Int) (i : Nat) : (entN ops V i).length ≤ 6 := by
 have := runE_len ((opsL ops).take (numN ops.length V i))
 rw [List.length_take, opsL_len] at this
 unfold entN
 omega
theorem S8_small {ops : List Opr} (h6 : ops.length ≤ 6) (k : Nat) : S8 0 ((opsL ops).take k) = mkSt 0 (runE ((opsL ops).take k)) 0 := by
 have := runE_len ((opsL ops).take k)
 rw [List.length_take, opsL_len] at this
 unfold S8
 rw [show (runE ((opsL ops).take k)).length - 6 = 0 by omega]
theorem staN_ok {ops : List Opr} (h : ∀ o ∈ ops, o.ok) (h6 : ops.length ≤ 6) (V : List Int) (i : Nat) : stOk (staN ops V i) ∧ isSt (staN ops V i) = true :=
 ⟨mk_ok 0 (entN_good h V i) (Nat.zero_le _), mk_is 0 (entN_good h V i) (Nat.zero_le _) (by have := entN_len h6 V i; omega) (by decide)⟩
theorem staN_head {ops : List Opr} (h : ∀ o ∈ ops, o.ok) (h6 : ops.length ≤ 6) (V : List Int) (i : Nat) : headS (staN ops V i) = ((lastOf (entN ops V i)).since, ((entN ops V i).length : Int)) :=
 mk_head 0 (entN_good h V i) (Nat.zero_le _) (by have := entN_len h6 V i; omega) (by decide)
theorem rowS_succ (ops : List Opr) (V : List Int) (k : Nat) : rowS ops V (k + 1) = rowS ops V k ++ [staN ops V k] := by unfold rowS; rw [List.range_succ, List.map_append]; rfl
theorem rowS_len (ops : List Opr) (V : List Int) (k : Nat) : (rowS ops V k).length = k := by unfold rowS; rw [List.length_map, List.length_range]
theorem rowS_at {ops : List Opr} {V : List Int} {k i : Nat} (h : i < k) : (rowS ops V k)[i]? = some (staN ops V i) := by unfold rowS; rw [List.getElem?_map, List.getElem?_range h]; rfl
theorem most_ge (ops : List Opr) (V : List Int) : ∀ (k i : Nat), i < k → (entN ops V i).length ≤ mostN ops V k
 | 0, i, h => by omega
 | k + 1, i, h => by
  unfold mostN
  by_cases c : i < k
  ·have := most_ge ops V k i c; omega
  ·have : i = k := by omega
   subst this
   omega
theorem most_is (ops : List Opr) (V : List Int) : ∀ (k : Nat), 0 < k → ∃ i, i < k ∧ (entN ops V i).length = mostN ops V k
 | 1, _ => ⟨0, by omega, by unfold mostN; unfold mostN; omega⟩
 | k + 2, _ => by
  obtain ⟨i, h1, h2⟩ := most_is ops V (k + 1) (by omega)
  unfold mostN
  by_cases c : (entN ops V (k + 1)).length ≤ mostN ops V (k + 1)
  ·exact ⟨i, by omega, by rw [h2]; omega⟩
  ·exact ⟨k + 1, by omega, by omega⟩
theorem most_le {ops : List Opr} (h6 : ops.length ≤ 6) (V : List Int) : ∀ k, mostN ops V k ≤ 6
 | 0 => by unfold mostN; omega
 | k + 1 => by
  have := most_le h6 V k
  have := entN_len h6 V k
  unfold mostN
  omega
theorem cost_row {ops : List Opr} (h : ∀ o ∈ ops, o.ok) (h6 : ops.length ≤ 6) (V : List Int) (b : Nat) : ∀ k, (∀ i, i < k → (entN ops V i).length ≤ (entN ops V b).length) →
  costD ((rowS ops V k).map fun s => makeM s (staN ops V b)) = wantN ops V (entN ops V b).length k
 | 0, _ => rfl
 | k + 1, hk => by
  rw [rowS_succ, List.map_append, List.map_cons, List.map_nil, costD_snoc, cost_row h h6 V b k fun i hi => hk i (by omega)]
  have hw : wantN ops V (entN ops V b).length (k + 1) = wantN ops V (entN ops V b).length k + ((entN ops V b).length - (entN ops V k).length) := rfl
  rw [hw]
  congr 1
  have hpre := runE_pre (opsL ops) _ _ (hk k (by omega))
  have hb := bytes_take (st := 0) (by decide) (entN_good h V b) (entN_len h6 V b) (hk k (by omega))
  unfold staN
  conv => lhs; rw [show entN ops V k = (entN ops V b).take (entN ops V k).length from hpre]
  exact hb
/-- The best one has the most. -/
theorem best_most {ops : List Opr} (h : ∀ o ∈ ops, o.ok) (h6 : ops.length ≤ 6) (V : List Int) : ∃ b : Nat, b < 5 ∧ bestS O5 (rowS ops V 5) = (b : Int) ∧ (entN ops V b).length = mostN ops V 5 := by
 have hst : ∀ s ∈ rowS ops V 5, isSt s = true := fun s hs => by
  unfold rowS at hs
  obtain ⟨i, _, rfl⟩ := List.mem_map.1 hs
  exact (staN_ok h h6 V i).2
 have hany : ((rowS ops V 5).any fun s => !isSt s) = false := by
  rw [List.any_eq_false]
  intro x hx
  rw [hst x hx]
  decide
 rcases best_top (rowS ops V 5) O5 (by rw [rowS_len]; rfl) with ⟨h1, _⟩ | ⟨b, o, s, h1, h2, h3, _, h5⟩
 ·have := rowS_len ops V 5; rw [h1] at this; simp at this
 ·have hb : b < 5 := by have := (List.getElem?_eq_some_iff.1 h3).1; rwa [rowS_len] at this
  rw [rowS_at hb] at h3
  cases h3
  refine ⟨b, hb, ?_, ?_⟩
  ·unfold bestS
   rw [if_neg (by rw [hany, rowS_len]; simp [O5]), h1]
  ·obtain ⟨i, hi, hm⟩ := most_is ops V 5 (by omega)
   have hge := most_ge ops V 5 b hb
   have hbt := h5 i (O5.getD i 0) (staN ops V i) (by
    rw [List.getD_eq_getElem?_getD, List.getElem?_eq_getElem (show i < O5.length from hi)]; rfl) (rowS_at hi)
   have hsi : sinceE (entN ops V i) := runE_since fun p hp => by
    have := List.mem_of_mem_take hp
    obtain ⟨o, _, rfl⟩ := List.mem_map.1 this
    rfl
   have hsb : sinceE (entN ops V b) := runE_since fun p hp => by
    have := List.mem_of_mem_take hp
    obtain ⟨o, _, rfl⟩ := List.mem_map.1 this
    rfl
   by_cases c : (entN ops V b).length = mostN ops V 5
   ·exact c
   ·exfalso
    rw [← hm] at hge c
    have hbe : beats (candOf (O5.getD i 0) (staN ops V i)) (candOf o (staN ops V b)) = true := by
     rw [beats_iff]
     refine .inr ⟨rfl, ?_⟩
     unfold candOf
     simp only [staN_head h h6, last_since hsi, last_since hsb]
     by_cases z : (entN ops V b).length = 0
     ·refine .inl ?_
      rw [if_pos z, if_neg (by omega)]
      decide
     ·refine .inr ⟨?_, .inl ?_⟩
      ·rw [if_neg z, if_neg (by omega)]
      ·show ((entN ops V i).length : Int) > ((entN ops V b).length : Int)
       omega
    rw [hbe] at hbt
    simp at hbt
theorem r5_rng (r : R5 Int) (w : (0 ≤ r.a0 ∧ r.a0 < 256) ∧ (0 ≤ r.a1 ∧ r.a1 < 256) ∧ (0 ≤ r.a2 ∧ r.a2 < 256) ∧ (0 ≤ r.a3 ∧ r.a3 < 256) ∧ (0 ≤ r.a4 ∧ r.a4 < 256)) : ∀ x ∈ r.l, 0 ≤ x ∧ x < 256 := by
 intro x hx
 simp only [R5.l, List.mem_cons, List.not_mem_nil, or_false] at hx
 rcases hx with rfl | rfl | rfl | rfl | rfl
 ·exact w.1
 ·exact w.2.1
 ·exact w.2.2.1
 ·exact w.2.2.2.1
 ·exact w.2.2.2.2
theorem rowN_d (k : Nat) : ((rowN (k + 1)).map fun x : Int => DV.i .i64 x) = ((rowN k).map fun x : Int => DV.i .i64 x) ++ [.i .i64 (k : Int)] := by rw [rowN_succ, List.map_append]; rfl
theorem rowS_d (ops : List Opr) (V : List Int) (k : Nat) : ((rowS ops V (k + 1)).map State.d) = ((rowS ops V k).map State.d) ++ [.agg (staN ops V k).cs] := by rw [rowS_succ, List.map_append]; rfl
theorem want_le {ops : List Opr} (h6 : ops.length ≤ 6) (V : List Int) (M : Nat) (hM : M ≤ 6) : ∀ k, wantN ops V M k ≤ 6 * k
 | 0 => Nat.le_refl _
 | k + 1 => by
  have := want_le h6 V M hM k
  have hw : wantN ops V M (k + 1) = wantN ops V M k + (M - (entN ops V k).length) := rfl
  omega
theorem costs_law (ops : List Opr) (hok : ∀ o ∈ ops, o.ok) (V : List Int) (hV : V.length = 5) (hv : ∀ x ∈ V, 0 ≤ x ∧ x < 256) : evF C F_q1o [.d (.sl (ops.map Opr.d)), .d (.agg (V.map fun x => .i .u8 x))] [] = some (.d (.b true), []) := by
 have hkn := known25_at
 have hol : (ops.map Opr.d).length = ops.length := List.length_map _
 have hVl : (V.map fun x : Int => DV.i .u8 x).length = 5 := by rw [List.length_map]; exact hV
 rw [evF_code (rfl : C F_q1o = some a_q1o) _ _ rfl]
 rcases Bool.eq_false_or_eq_true (decide (((ops.length : Nat) : Int) > 6)) with c1 | c1
 ·simp +decide only [c_q1o, hkn, hol, c1, Pk.EVL, Pk.EVD, ↓reduceIte, reduceCtorEq, Nat.reduceEqDiff, Nat.reduceAdd, Nat.reduceLeDiff, Nat.reduceBNe, Nat.reduceLT, Nat.reduceBEq, Nat.reduceSub, Nat.reduceMul, Int.reduceLT, Int.reduceLE, Int.reduceEq, Int.reduceToNat, Int.reduceNeg]
 have h6 : ops.length ≤ 6 := by have := of_decide_eq_false c1; omega
 obtain ⟨D, hD⟩ : ∃ D, (V.map fun x : Int => DV.i .u8 x) = D := ⟨_, rfl⟩
 have hDl : D.length = 5 := by rw [← hD]; exact hVl
 rw [hD]
 have c1 : decide (((ops.length : Nat) : Int) > 6) = false := c1
 simp +decide only [c_q1o, hkn, hol, c1, thaws, thaw, Pk.EVL, Pk.EVD, ↓reduceIte, reduceCtorEq, Nat.reduceEqDiff, Nat.reduceAdd, Nat.reduceLeDiff, Nat.reduceBNe, Nat.reduceLT, Nat.reduceBEq, Nat.reduceSub, Nat.reduceMul, Int.reduceLT, Int.reduceLE, Int.reduceEq, Int.reduceToNat, Int.reduceNeg]
 simp only [Option.bind_assoc]
 refine bind_run (loop_run (fun i T H => lk T 0 = .d (.sl (ops.map Opr.d)) ∧ lk T 3 = .ptr 0 0 ∧ lk T 5 = .view 1 i 49 0 i ∧ lk T 6 = .view 2 i 1 0 i ∧ lk T 7 = .d (.i .u32 (mostN ops V i : Nat)) ∧ lk T 8 = .d (.i .i64 (i : Nat)) ∧
   ∃ J, H = .box (.d (.agg D)) :: .arr ((rowS ops V i).map State.d) true :: .arr ((rowN i).map fun x => .i .i64 x) true :: J)
  (fun e T H => e = .exit 0 ∧ lk T 5 = .view 1 5 49 0 5 ∧ lk T 6 = .view 2 5 1 0 5 ∧ lk T 7 = .d (.i .u32 (mostN ops V 5 : Nat)) ∧
   H = [.box (.d (.agg D)), .arr ((rowS ops V 5).map State.d) true, .arr ((rowN 5).map fun x => .i .i64 x) true]) 5 ?_ ?_ 5 0 _ _ (by omega) ⟨rfl, rfl, rfl, rfl, rfl, rfl, [], rfl⟩) ?_
 ·rintro i T H hi ⟨h0, h3, h5, h6', h7, h8, J, rfl⟩
  have hd : decide ((i : Int) < 5) = true := by simp; omega
  have hw : IntKind.i64.wrap ((i : Int) + 1) = ((i + 1 : Nat) : Int) := wi64 (by omega)
  obtain ⟨v, hvi⟩ : ∃ v, V[i]? = some v := ⟨V[i]'(by omega), List.getElem?_eq_getElem _⟩
  have hvr := hv v (List.mem_of_getElem? hvi)
  obtain ⟨u, rfl⟩ := Int.eq_ofNat_of_zero_le hvr.1
  have hVd : D[i]? = some (.i .u8 (u : Int)) := by rw [← hD]; exact list_idx (fun x : Int => DV.i .u8 x) hvi
  have hN : numN ops.length V i = ops.length - u % (ops.length + 1) := by unfold numN; rw [List.getD_eq_getElem?_getD, hvi]; rfl
  have hmod : u % (ops.length + 1) < ops.length + 1 := Nat.mod_lt _ (by omega)
  have w1 : IntKind.i64.wrap (u : Int) = (u : Int) := wi64 (by omega)
  have w2 : IntKind.i64.wrap ((ops.length : Int) + 1) = ((ops.length + 1 : Nat) : Int) := wi64 (by omega)
  have w3 : (u : Int).tmod ((ops.length + 1 : Nat) : Int) = ((u % (ops.length + 1) : Nat) : Int) := rfl
  have w4 : IntKind.i64.wrap ((u % (ops.length + 1) : Nat) : Int) = ((u % (ops.length + 1) : Nat) : Int) := wi64 (by omega)
  have w5 : IntKind.i64.wrap ((ops.length : Int) - ((u % (ops.length + 1) : Nat) : Int)) = ((numN ops.length V i : Nat) : Int) := by rw [hN]; rw [wi64 (by omega)]; omega
  have wz : (((ops.length + 1 : Nat) : Int) = 0) = False := eq_false (by omega)
  have y0 : (0 ≤ (i : Int)) = True := by simp
  have y1 : ((i : Int) < ((5 : Nat) : Int)) = True := eq_true (by omega)
  have y2 : (i * 1 + 1 ≤ 5) = True := eq_true (by omega)
  have y3 : (i + 1 ≤ 5) = True := eq_true (by omega)
  have hNle : numN ops.length V i ≤ ops.length := by omega
  have hrS := rowS_d ops V i
  have hrN := rowN_d i
  have hmo : mostN ops V (i + 1) = max (mostN ops V i) (entN ops V i).length := rfl
  have hme := most_le h6 V i
  have hle := entN_len h6 V i
  have hhd := head_at (staN ops V i)
  rw [staN_head hok h6] at hhd
  have hen : entN ops V i = runE ((opsL ops).take (numN ops.length V i)) := rfl
  have hsta : staN ops V i = mkSt 0 (runE ((opsL ops).take (numN ops.length V i))) 0 := rfl
  have hSl : ((rowS ops V i).map State.d).length = i := by rw [List.length_map, rowS_len]
  have hNl : ((rowN i).map fun x : Int => DV.i .i64 x).length = i := by rw [List.length_map, rowN_len]
  have hlim : (i + 1 ≤ LIM) = True := eq_true (by unfold LIM; omega)
  have hmm : mmI true ((mostN ops V i : Nat) : Int) (((entN ops V i).length : Nat) : Int) = ((mostN ops V (i + 1) : Nat) : Int) := by
   rw [hmo]
   unfold mmI
   rw [if_pos rfl]
   split <;> omega
  rw [hrS, hrN]
  generalize (rowS ops V i).map State.d = ES at *
  generalize ((rowN i).map fun x : Int => DV.i .i64 x) = EN at *
  generalize mostN ops V i = mo at *
  generalize mostN ops V (i + 1) = mo' at *
  generalize numN ops.length V i = N at *
  simp +decide only [K_q1o_1, l_q1o_1, h0, h3, h5, h6', h7, h8, hd, thaws, Pk.EVL, Pk.EVD, ↓reduceIte, reduceCtorEq, Nat.reduceEqDiff, Nat.reduceAdd, Nat.reduceLeDiff, Nat.reduceBNe, Nat.reduceLT, Nat.reduceBEq, Nat.reduceSub, Nat.reduceMul, Int.reduceLT, Int.reduceLE, Int.reduceEq, Int.reduceToNat, Int.reduceNeg, Pk.TY_State]
  simp only [Option.bind_assoc]
  refine ex_run (loop_run (fun k T H => lk T 0 = .d (.sl (ops.map Opr.d)) ∧ lk T 3 = .ptr 0 0 ∧ lk T 5 = .view 1 i 49 0 i ∧ lk T 6 = .view 2 i 1 0 i ∧ lk T 7 = .d (.i .u32 (mo : Nat)) ∧ lk T 8 = .d (.i .i64 (i : Nat)) ∧ lk T 9 = .ptr 3 0 ∧ lk T 10 = .d (.i .i64 (k : Nat)) ∧
    ∃ z J, H = .box (.d (.agg D)) :: .arr ES true :: .arr EN true :: .box z :: J ∧ stV (mkSt 0 (runE ((opsL ops).take k)) 0) z)
   (fun e T H => e = .exit 2 ∧ lk T 0 = .d (.sl (ops.map Opr.d)) ∧ lk T 3 = .ptr 0 0 ∧ lk T 5 = .view 1 i 49 0 i ∧ lk T 6 = .view 2 i 1 0 i ∧ lk T 7 = .d (.i .u32 (mo : Nat)) ∧ lk T 8 = .d (.i .i64 (i : Nat)) ∧ lk T 9 = .ptr 3 0 ∧
    ∃ z, H = [.box (.d (.agg D)), .arr ES true, .arr EN true, .box z] ∧ stV (mkSt 0 (runE ((opsL ops).take N)) 0) z) N ?_ ?_ N 0 _ _ (by omega) ⟨rfl, rfl, rfl, rfl, rfl, rfl, rfl, rfl, _, [], rfl, .inr ⟨rfl, rfl⟩⟩) ?_
  ·rintro k T H hk ⟨g0, g3, g5, g6, g7, g8, g9, g10, z, J, rfl, hz⟩
   obtain ⟨o, ho⟩ : ∃ o, ops[k]? = some o := ⟨ops[k]'(by omega), List.getElem?_eq_getElem _⟩
   have hoo := hok o (List.mem_of_getElem? ho)
   have hod := list_idx Opr.d ho
   have hop : (opsL ops)[k]? = some (1, o) := by unfold opsL; rw [List.getElem?_map, ho]; rfl
   have hgE : goodE (runE ((opsL ops).take k)) := runE_good fun p hp => opsL_ok hok p (List.mem_of_mem_take hp)
   have hlE : (runE ((opsL ops).take k)).length ≤ 6 := Nat.le_trans (runE_len _) (by rw [List.length_take, opsL_len]; omega)
   have hh := head_at (mkSt 0 (runE ((opsL ops).take k)) 0)
   rw [mk_head 0 hgE (Nat.zero_le _) (by omega) (by decide)] at hh
   have ha := add_at (mkSt 0 (runE ((opsL ops).take k)) 0) ⟨1, (((runE ((opsL ops).take k)).length + 1 : Nat) : Int), o⟩ (mk_ok 0 hgE (Nat.zero_le _)).log hoo
   have hst8 := S8_step 0 (by decide) (opsL_ok hok) hop
   rw [S8_small h6, S8_small h6] at hst8
   have hdk : decide ((k : Int) < ((N : Nat) : Int)) = true := by simp; omega
   have hwk : IntKind.i64.wrap ((k : Int) + 1) = ((k + 1 : Nat) : Int) := wi64 (by omega)
   have hwl : IntKind.u32.wrap ((((runE ((opsL ops).take k)).length : Nat) : Int) + 1) = (((runE ((opsL ops).take k)).length + 1 : Nat) : Int) := by
    rw [show (((runE ((opsL ops).take k)).length : Nat) : Int) + 1 = (((runE ((opsL ops).take k)).length + 1 : Nat) : Int) by omega]
    exact wu32 (by omega)
   have z0 : (0 ≤ (k : Int)) = True := by simp
   have z1 : ((k : Int) < ((ops.length : Nat) : Int)) = True := eq_true (by omega)
   have e0 : ((0 : Int) == 0) = true := by decide
   have e10 : ((10 : Int) == 0) = false := by decide
   generalize (lastOf (runE ((opsL ops).take k))).since = sn at *
   generalize (runE ((opsL ops).take k)).length = nn at *
   generalize mkSt 0 (runE ((opsL ops).take (k + 1))) 0 = s' at *
   simp only at hst8
   rcases hst8 with r | ⟨r, rfl⟩
   ·rw [r] at ha
    rcases hz with rfl | ⟨rfl, hz⟩
    ·generalize mkSt 0 (runE ((opsL ops).take k)) 0 = s at *
     simp +decide only [K_q1o_0, l_q1o_0, g0, g3, g5, g6, g7, g8, g9, g10, hol, hDl, hVd, hod, hh, ha, hdk, hwk, hwl, w1, w2, w3, w4, w5, wz, y0, y1, y2, y3, z0, z1, e0, Nat.zero_add, Nat.mul_one, Int.toNat_natCast, Pk.EVL, Pk.EVD, ↓reduceIte, reduceCtorEq, Nat.reduceEqDiff, Nat.reduceAdd, Nat.reduceLeDiff, Nat.reduceBNe, Nat.reduceLT, Nat.reduceBEq, Nat.reduceSub, Nat.reduceMul, Int.reduceLT, Int.reduceLE, Int.reduceEq, Int.reduceToNat, Int.reduceNeg, Pk.TY_State, Pk.TY_Opr, Pk.TY_Entry]
     exact ⟨_, _, _, rfl, .inl ⟨rfl, rfl, rfl, rfl, rfl, rfl, rfl, rfl, rfl, _, _, rfl, .inl rfl⟩⟩
    ·rw [hz] at hh ha
     simp +decide only [K_q1o_0, l_q1o_0, g0, g3, g5, g6, g7, g8, g9, g10, hol, hDl, hVd, hod, hh, ha, hdk, hwk, hwl, w1, w2, w3, w4, w5, wz, y0, y1, y2, y3, z0, z1, e0, Nat.zero_add, Nat.mul_one, Int.toNat_natCast, Pk.EVL, Pk.EVD, ↓reduceIte, reduceCtorEq, Nat.reduceEqDiff, Nat.reduceAdd, Nat.reduceLeDiff, Nat.reduceBNe, Nat.reduceLT, Nat.reduceBEq, Nat.reduceSub, Nat.reduceMul, Int.reduceLT, Int.reduceLE, Int.reduceEq, Int.reduceToNat, Int.reduceNeg, Pk.TY_State, Pk.TY_Opr, Pk.TY_Entry]
     exact ⟨_, _, _, rfl, .inl ⟨rfl, rfl, rfl, rfl, rfl, rfl, rfl, rfl, rfl, _, _, rfl, .inl rfl⟩⟩
   ·rw [r] at ha
    rcases hz with rfl | ⟨rfl, hz⟩
    ·generalize mkSt 0 (runE ((opsL ops).take k)) 0 = s at *
     simp +decide only [K_q1o_0, l_q1o_0, g0, g3, g5, g6, g7, g8, g9, g10, hol, hDl, hVd, hod, hh, ha, hdk, hwk, hwl, w1, w2, w3, w4, w5, wz, y0, y1, y2, y3, z0, z1, e10, Nat.zero_add, Nat.mul_one, Int.toNat_natCast, Pk.EVL, Pk.EVD, ↓reduceIte, reduceCtorEq, Nat.reduceEqDiff, Nat.reduceAdd, Nat.reduceLeDiff, Nat.reduceBNe, Nat.reduceLT, Nat.reduceBEq, Nat.reduceSub, Nat.reduceMul, Int.reduceLT, Int.reduceLE, Int.reduceEq, Int.reduceToNat, Int.reduceNeg, Pk.TY_State, Pk.TY_Opr, Pk.TY_Entry]
     exact ⟨_, _, _, rfl, .inl ⟨rfl, rfl, rfl, rfl, rfl, rfl, rfl, rfl, rfl, _, _, rfl, .inl rfl⟩⟩
    ·rw [hz] at hh ha
     simp +decide only [K_q1o_0, l_q1o_0, g0, g3, g5, g6, g7, g8, g9, g10, hol, hDl, hVd, hod, hh, ha, hdk, hwk, hwl, w1, w2, w3, w4, w5, wz, y0, y1, y2, y3, z0, z1, e10, Nat.zero_add, Nat.mul_one, Int.toNat_natCast, Pk.EVL, Pk.EVD, ↓reduceIte, reduceCtorEq, Nat.reduceEqDiff, Nat.reduceAdd, Nat.reduceLeDiff, Nat.reduceBNe, Nat.reduceLT, Nat.reduceBEq, Nat.reduceSub, Nat.reduceMul, Int.reduceLT, Int.reduceLE, Int.reduceEq, Int.reduceToNat, Int.reduceNeg, Pk.TY_State, Pk.TY_Opr, Pk.TY_Entry]
     exact ⟨_, _, _, rfl, .inl ⟨rfl, rfl, rfl, rfl, rfl, rfl, rfl, rfl, rfl, _, _, rfl, .inr ⟨rfl, hz⟩⟩⟩
  ·rintro T H ⟨g0, g3, g5, g6, g7, g8, g9, g10, z, J, rfl, hz⟩
   have hdk : decide (((N : Nat) : Int) < ((N : Nat) : Int)) = false := by simp
   rcases hz with rfl | ⟨rfl, hz⟩
   ·simp +decide only [K_q1o_0, l_q1o_0, g0, g3, g5, g6, g7, g8, g9, g10, hol, hDl, hVd, hdk, w1, w2, w3, w4, w5, wz, y0, y1, y2, y3, Nat.zero_add, Nat.mul_one, Int.toNat_natCast, Pk.EVL, Pk.EVD, ↓reduceIte, reduceCtorEq, Nat.reduceEqDiff, Nat.reduceAdd, Nat.reduceLeDiff, Nat.reduceBNe, Nat.reduceLT, Nat.reduceBEq, Nat.reduceSub, Nat.reduceMul, Int.reduceLT, Int.reduceLE, Int.reduceEq, Int.reduceToNat, Int.reduceNeg, Pk.TY_State]
    exact ⟨_, _, _, rfl, by simp, rfl, rfl, rfl, rfl, rfl, rfl, rfl, rfl, _, rfl, .inl rfl⟩
   ·simp +decide only [K_q1o_0, l_q1o_0, g0, g3, g5, g6, g7, g8, g9, g10, hol, hDl, hVd, hdk, w1, w2, w3, w4, w5, wz, y0, y1, y2, y3, Nat.zero_add, Nat.mul_one, Int.toNat_natCast, Pk.EVL, Pk.EVD, ↓reduceIte, reduceCtorEq, Nat.reduceEqDiff, Nat.reduceAdd, Nat.reduceLeDiff, Nat.reduceBNe, Nat.reduceLT, Nat.reduceBEq, Nat.reduceSub, Nat.reduceMul, Int.reduceLT, Int.reduceLE, Int.reduceEq, Int.reduceToNat, Int.reduceNeg, Pk.TY_State]
    exact ⟨_, _, _, rfl, by simp, rfl, rfl, rfl, rfl, rfl, rfl, rfl, rfl, _, rfl, .inr ⟨rfl, hz⟩⟩
  rintro e T H ⟨rfl, g0, g3, g5, g6, g7, g8, g9, z, rfl, hz⟩
  rw [← hsta] at hz
  generalize (lastOf (entN ops V i)).since = sn at *
  generalize (entN ops V i).length = nn at *
  rcases hz with rfl | ⟨rfl, hz⟩
  ·generalize staN ops V i = s at *
   simp +decide only [g0, g3, g5, g6, g7, g8, g9, hhd, hmm, hw, hSl, hNl, hlim, elems, Nat.zero_le, Nat.le_refl, Pk.EVL, Pk.EVD, ↓reduceIte, reduceCtorEq, Nat.reduceEqDiff, Nat.reduceAdd, Nat.reduceLeDiff, Nat.reduceBNe, Nat.reduceLT, Nat.reduceBEq, Nat.reduceSub, Nat.reduceMul, Int.reduceLT, Int.reduceLE, Int.reduceEq, Int.reduceToNat, Int.reduceNeg, Pk.TY_State]
   exact ⟨_, _, _, rfl, .inl ⟨rfl, rfl, rfl, rfl, rfl, rfl, rfl, _, rfl⟩⟩
  ·rw [hz] at hhd ⊢
   simp +decide only [g0, g3, g5, g6, g7, g8, g9, hhd, hmm, hw, hSl, hNl, hlim, elems, Nat.zero_le, Nat.le_refl, Pk.EVL, Pk.EVD, ↓reduceIte, reduceCtorEq, Nat.reduceEqDiff, Nat.reduceAdd, Nat.reduceLeDiff, Nat.reduceBNe, Nat.reduceLT, Nat.reduceBEq, Nat.reduceSub, Nat.reduceMul, Int.reduceLT, Int.reduceLE, Int.reduceEq, Int.reduceToNat, Int.reduceNeg, Pk.TY_State]
   exact ⟨_, _, _, rfl, .inl ⟨rfl, rfl, rfl, rfl, rfl, rfl, rfl, _, rfl⟩⟩
 ·rintro T H ⟨h0, h3, h5, h6', h7, h8, J, rfl⟩
  simp +decide only [K_q1o_1, l_q1o_1, h0, h3, h5, h6', h7, h8, Pk.EVL, Pk.EVD, ↓reduceIte, reduceCtorEq, Nat.reduceEqDiff, Nat.reduceAdd, Nat.reduceLeDiff, Nat.reduceBNe, Nat.reduceLT, Nat.reduceBEq, Nat.reduceSub, Nat.reduceMul, Int.reduceLT, Int.reduceLE, Int.reduceEq, Int.reduceToNat, Int.reduceNeg]
  exact ⟨_, _, _, rfl, by simp, rfl, rfl, rfl, rfl, rfl⟩
 rintro e T H ⟨rfl, h5, h6', h7, rfl⟩
 have hO5 : ((rowN 5).map fun x : Int => DV.i .i64 x) = O5.map fun x => .i .i64 x := rfl
 rw [hO5]
 obtain ⟨b, hb5, hb, hbm⟩ := best_most hok h6 V
 have hRl : (rowS ops V 5).length = 5 := rowS_len ops V 5
 have hst : ∀ s ∈ rowS ops V 5, stOk s ∧ isSt s = true := fun s hs => by
  unfold rowS at hs
  obtain ⟨i, _, rfl⟩ := List.mem_map.1 hs
  exact staN_ok hok h6 V i
 have hbt := rowS_at (ops := ops) (V := V) hb5
 have hpl := plan_some (l := []) (g := 1) hb hbt
 rw [enough5 1 (.inr rfl)] at hpl
 have hco := cost_row hok h6 V b 5 fun i hi => by rw [hbm]; exact most_ge ops V 5 i hi
 have hml := most_le h6 V 5
 obtain ⟨P, hPe⟩ : ∃ P : Heap, [.box (.d (.agg D)), .arr ((rowS ops V 5).map State.d) true, .arr (O5.map fun x => .i .i64 x) true] = P := ⟨_, rfl⟩
 obtain ⟨P', hPe'⟩ : ∃ P : Heap, [.box (.d (.agg D)), .arr ((rowS ops V 5).map State.d) false, .arr (O5.map fun x => .i .i64 x) false] = P := ⟨_, rfl⟩
 obtain ⟨p, hp3⟩ : ∃ p, p = 3 := ⟨_, rfl⟩
 have hP : P.length = p := by rw [← hPe, hp3]; rfl
 have hP' : P'.length = p := by rw [← hPe', hp3]; rfl
 obtain ⟨n, hn⟩ : ∃ n, p + 12 = n := ⟨_, rfl⟩
 have hPp' : plain P' := by rw [← hPe']; exact fun _ => rfl
 have hPp : plain P := by rw [← hPe]; exact fun _ => rfl
 have hnew0 := h_new (P := []) rfl
 have hnew := h_new hP
 have hset : ∀ q, ((hh P p [] q []).set 2 (.arr (O5.map fun x => .i .i64 x) false)).set 1 (.arr ((rowS ops V 5).map State.d) false) = hh P' p [] q [] := fun q => by
  rw [← hPe, ← hPe']; rfl
 have hg2 : ∀ q Y, (hh P p [] q Y)[2]? = some (.arr (O5.map fun x => .i .i64 x) true) := fun q Y => by rw [← hPe]; rfl
 have hg1 : ∀ q Y, (hh P p [] q Y)[1]? = some (.arr ((rowS ops V 5).map State.d) true) := fun q Y => by rw [← hPe]; rfl
 have hg1' : ∀ q Y, (hh P' p [] q Y)[1]? = some (.arr ((rowS ops V 5).map State.d) false) := fun q Y => by rw [← hPe']; rfl
 have q1 := Grb.frz_pl grb0_pl 1
 have hPL : planOf [] 1 O5 (rowS ops V 5) = ⟨(b : Int), !true, (rowS ops V 5).map fun s => makeM s (staN ops V b)⟩ := hpl
 have MK : evF C F_q3l [.ptr (p + 2) 0, .d (.i .u8 1), .view 2 5 1 0 5, .view 1 5 49 0 5] (hh P p [] grb0 []) = some (.d (.agg (planOf [] 1 O5 (rowS ops V 5)).cs), hh P' p [] (grb0.frz 1) []) := by
  rw [rmake_view (p + 2) 2 1 5 (by omega) O5 (rowS ops V 5) true true _ 1 (hg2 _ _) (hg1 _ _) rfl hRl, hset]
  exact rmake_at hP' hn hPp' good_nil grb0_pl (X := []) (fun _ => rfl) (m := n) rfl 1 (by decide) O5 (rowS ops V 5) (by omega) (by rw [hRl]; rfl) O5_asc hst
 have CO := rcost_at (planOf [] 1 O5 (rowS ops V 5)) (by rw [hPL]; show (List.map _ _).length ≤ 1000; rw [List.length_map]; omega) (fun d hd => by
  rw [hPL] at hd
  obtain ⟨s, _, rfl⟩ := List.mem_map.1 hd
  have := makeM_len s (staN ops V b) (by have := isSt_len (staN_ok hok h6 V b).2; omega)
  omega)
 have hcd : costD (planOf [] 1 O5 (rowS ops V 5)).diffs = wantN ops V (mostN ops V 5) 5 := by rw [hPL, ← hbm]; exact hco
 rw [hcd] at CO
 have hPb : (planOf [] 1 O5 (rowS ops V 5)).best = (b : Int) := by rw [hPL]
 have hPk : (planOf [] 1 O5 (rowS ops V 5)).blocked = false := by rw [hPL]; rfl
 generalize planOf [] 1 O5 (rowS ops V 5) = PL at *
 have hl := hh_len hP' hn
 have ha := hh_at hP' hn
 have ha0 := hh_at0 hP' hn
 have hs := hh_set hP' hn
 have hs0 := hh_set0 hP' hn
 have hl2 := hh_len hP hn
 have ht := hh_take hP' hn
 have ht0 := hh_take0 hP' hn
 have hPl3 : P.length = 3 := by rw [hP, hp3]
 have m1 : (p + 2 == 3) = false := by rw [beq_eq_false_iff_ne]; omega
 have m3 : (3 ≤ n) = True := eq_true (by omega)
 have m4 : (3 ≤ n + 1) = True := eq_true (by omega)
 have m5 : (1 < n + 1) = True := eq_true (by omega)
 have hRd : ((rowS ops V 5).map State.d).length = 5 := by rw [List.length_map, hRl]
 rw [hPe]
 simp +decide only [h5, h6', h7, hnew0, hnew, MK, hl, ha, ha0, hs, hs0, hl2, hPl3, m1, m3, m4, hh_push, thaws, thaw, Nat.zero_le, Nat.le_refl, Pk.EVL, Pk.EVD, ↓reduceIte, reduceCtorEq, Nat.reduceEqDiff, Nat.reduceAdd, Nat.reduceLeDiff, Nat.reduceBNe, Nat.reduceLT, Nat.reduceBEq, Nat.reduceSub, Nat.reduceMul, Int.reduceLT, Int.reduceLE, Int.reduceEq, Int.reduceToNat, Int.reduceNeg, Pk.TY_Plan]
 simp only [Option.bind_assoc]
 obtain ⟨M, hM⟩ : ∃ M, mostN ops V 5 = M := ⟨_, rfl⟩
 have hge : ∀ i, i < 5 → (entN ops V i).length ≤ M := fun i hi => by rw [← hM]; exact most_ge ops V 5 i hi
 rw [hM] at CO hml hbm ⊢
 have htk := ht [] (grb0.frz 1) [Ob.box (.d (.agg PL.cs))] 1
 have hal : (hh P' p [] (grb0.frz 1) [Ob.box (.d (.agg PL.cs))]).all (ltO (n + 1)) = true := hh_all hP' hn hPp' [] q1 (Y := [Ob.box (.d (.agg PL.cs))]) (fun _ => rfl) 1
 refine bind_run (loop_run (fun i T H => lk T 5 = .view 1 5 49 0 5 ∧ lk T 7 = .d (.i .u32 (M : Nat)) ∧ lk T 17 = .ptr n 0 ∧ lk T 18 = .d (.i .i64 (wantN ops V M i : Nat)) ∧ lk T 19 = .d (.i .i64 (i : Nat)) ∧ H = hh P' p [] (grb0.frz 1) [.box (.d (.agg PL.cs))])
  (fun e T H => e = .exit 4 ∧ lk T 5 = .view 1 5 49 0 5 ∧ lk T 7 = .d (.i .u32 (M : Nat)) ∧ lk T 17 = .ptr n 0 ∧ lk T 18 = .d (.i .i64 (wantN ops V M 5 : Nat)) ∧ H = hh P' p [] (grb0.frz 1) [.box (.d (.agg PL.cs))]) 5 ?_ ?_ 5 0 _ _ (by omega) ⟨rfl, rfl, rfl, rfl, rfl, rfl⟩) ?_
 ·rintro i T H hi ⟨g5, g7, g17, g18, g19, rfl⟩
  have hsd := list_idx State.d (rowS_at (ops := ops) (V := V) hi)
  have hhd := head_at (staN ops V i)
  rw [staN_head hok h6] at hhd
  have hwle := want_le h6 V M hml i
  have hgi := hge i hi
  have hw1 : wantN ops V M (i + 1) = wantN ops V M i + (M - (entN ops V i).length) := rfl
  have d1 : IntKind.u32.wrap (((M : Nat) : Int) - (((entN ops V i).length : Nat) : Int)) = ((M - (entN ops V i).length : Nat) : Int) := by
   rw [show ((M : Nat) : Int) - (((entN ops V i).length : Nat) : Int) = ((M - (entN ops V i).length : Nat) : Int) by omega]; exact wu32 (by omega)
  have d2 : IntKind.i64.wrap ((M - (entN ops V i).length : Nat) : Int) = ((M - (entN ops V i).length : Nat) : Int) := wi64 (by omega)
  have d3 : IntKind.i64.wrap (((wantN ops V M i : Nat) : Int) + ((M - (entN ops V i).length : Nat) : Int)) = ((wantN ops V M (i + 1) : Nat) : Int) := by rw [hw1, wi64 (by omega)]; omega
  have hd : decide ((i : Int) < 5) = true := by simp; omega
  have hw : IntKind.i64.wrap ((i : Int) + 1) = ((i + 1 : Nat) : Int) := wi64 (by omega)
  have y0 : (0 ≤ (i : Int)) = True := by simp
  have y1 : ((i : Int) < ((5 : Nat) : Int)) = True := eq_true (by omega)
  simp +decide only [K_q1o_2, l_q1o_2, g5, g7, g17, g18, g19, hsd, hhd, hg1', hRd, d1, d2, d3, hd, hw, y0, y1, htk, hal, m5, Nat.zero_add, Int.toNat_natCast, ite_self, Pk.EVL, Pk.EVD, ↓reduceIte, reduceCtorEq, Nat.reduceEqDiff, Nat.reduceAdd, Nat.reduceLeDiff, Nat.reduceBNe, Nat.reduceLT, Nat.reduceBEq, Nat.reduceSub, Nat.reduceMul, Int.reduceLT, Int.reduceLE, Int.reduceEq, Int.reduceToNat, Int.reduceNeg, Pk.TY_State]
  exact ⟨_, _, _, rfl, .inl ⟨rfl, rfl, rfl, rfl, rfl, rfl, rfl⟩⟩
 ·rintro T H ⟨g5, g7, g17, g18, g19, rfl⟩
  simp +decide only [K_q1o_2, l_q1o_2, g5, g7, g17, g18, g19, htk, hal, m5, ite_self, Pk.EVL, Pk.EVD, ↓reduceIte, reduceCtorEq, Nat.reduceEqDiff, Nat.reduceAdd, Nat.reduceLeDiff, Nat.reduceBNe, Nat.reduceLT, Nat.reduceBEq, Nat.reduceSub, Nat.reduceMul, Int.reduceLT, Int.reduceLE, Int.reduceEq, Int.reduceToNat, Int.reduceNeg]
  exact ⟨_, _, _, rfl, by simp, rfl, rfl, rfl, rfl, rfl, rfl⟩
 rintro e T H ⟨rfl, g5, g7, g17, g18, rfl⟩
 have hsd := list_idx State.d hbt
 have hhd := head_at (staN ops V b)
 rw [staN_head hok h6, hbm] at hhd
 have y0 : (0 ≤ (b : Int)) = True := by simp
 have y1 : ((b : Int) < ((5 : Nat) : Int)) = True := eq_true (by omega)
 have v1 : (((M : Nat) : Int) == ((M : Nat) : Int)) = true := by simp
 have v2 : (((wantN ops V M 5 : Nat) : Int) == ((wantN ops V M 5 : Nat) : Int)) = true := by simp
 simp +decide only [g5, g7, g17, g18, CO, hPb, hPk, hsd, hhd, hg1', hRd, y0, y1, v1, v2, hl, ha, ha0, hs, hs0, ht, ht0, htk, hal, m5, Nat.zero_add, Int.toNat_natCast, ite_self, Nat.zero_le, Nat.le_refl, List.take_zero, guardR_und, Pk.EVL, Pk.EVD, ↓reduceIte, reduceCtorEq, Nat.reduceEqDiff, Nat.reduceAdd, Nat.reduceLeDiff, Nat.reduceBNe, Nat.reduceLT, Nat.reduceBEq, Nat.reduceSub, Nat.reduceMul, Int.reduceLT, Int.reduceLE, Int.reduceEq, Int.reduceToNat, Int.reduceNeg, Pk.TY_State, Pk.TY_Plan]
end Go.Proofs.YthlpognahlnaaaaGreat

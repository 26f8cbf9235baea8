/- Maps whose daemons go up and down: picks stay. -/
import Derived.Test.YtfafafocnnhmpaaPlaceMoves
set_option linter.all false
namespace Go.Proofs.Ytfafafocnnhmpaa
open Pv Go Pk
set_option maxRecDepth 10000
set_option maxHeartbeats 1000000
theorem bools_get (x : R5 Bool) {i : Nat} (h : i < 5) : (R5.cs (fun b => [DV.b b]) x)[i]? = some (.b (x.get i)) := match i, h with
  | 0, _ => rfl | 1, _ => rfl | 2, _ => rfl | 3, _ => rfl | 4, _ => rfl | _ + 5, h => absurd h (by omega)
def setU (m : Pk.Mp) (i : Nat) (u : Bool) : Pk.Mp := { m with osds := m.osds.set i { m.osds.get i with up := u } }
theorem wOf_setU (m : Pk.Mp) (i : Nat) (h : i < 5) (u : Bool) (j : Nat) : wOf (osL (setU m i u)) j = wOf (osL m) j := by
  have hi : i = 0 ∨ i = 1 ∨ i = 2 ∨ i = 3 ∨ i = 4 := by omega
  have hj : j = 0 ∨ j = 1 ∨ j = 2 ∨ j = 3 ∨ j = 4 ∨ 5 ≤ j := by omega
  rcases hj with rfl | rfl | rfl | rfl | rfl | hj
  case inr.inr.inr.inr.inr =>
    have h1 : ∀ m, (osL m)[j]? = none := fun m => List.getElem?_eq_none (by exact hj)
    simp only [wOf, h1]
  all_goals rcases hi with rfl | rfl | rfl | rfl | rfl <;> rfl
theorem hostOf_setU (m : Pk.Mp) (i : Nat) (h : i < 5) (u : Bool) (j : Nat) : hostOf (osL (setU m i u)) j = hostOf (osL m) j := by
  have hi : i = 0 ∨ i = 1 ∨ i = 2 ∨ i = 3 ∨ i = 4 := by omega
  have hj : j = 0 ∨ j = 1 ∨ j = 2 ∨ j = 3 ∨ j = 4 ∨ 5 ≤ j := by omega
  rcases hj with rfl | rfl | rfl | rfl | rfl | hj
  case inr.inr.inr.inr.inr =>
    have h1 : ∀ m, (osL m)[j]? = none := fun m => List.getElem?_eq_none (by exact hj)
    simp only [hostOf, h1]
  all_goals rcases hi with rfl | rfl | rfl | rfl | rfl <;> rfl
theorem upOf_setU (m : Pk.Mp) (i : Nat) (h : i < 5) (u : Bool) (j : Nat) : upOf (osL (setU m i u)) j = if j = i then u else upOf (osL m) j := by
  have hi : i = 0 ∨ i = 1 ∨ i = 2 ∨ i = 3 ∨ i = 4 := by omega
  have hj : j = 0 ∨ j = 1 ∨ j = 2 ∨ j = 3 ∨ j = 4 ∨ 5 ≤ j := by omega
  rcases hj with rfl | rfl | rfl | rfl | rfl | hj
  case inr.inr.inr.inr.inr =>
    have h1 : ∀ m, (osL m)[j]? = none := fun m => List.getElem?_eq_none (by exact hj)
    rw [if_neg (by omega)]
    simp only [upOf, h1]
  all_goals rcases hi with rfl | rfl | rfl | rfl | rfl <;> rfl
theorem oks_setU (m : Pk.Mp) (i : Nat) (h : i < 5) (u : Bool) : (osL (setU m i u)).all Osd.ok = (osL m).all Osd.ok := by
  have hi : i = 0 ∨ i = 1 ∨ i = 2 ∨ i = 3 ∨ i = 4 := by omega
  rcases hi with rfl | rfl | rfl | rfl | rfl <;> rfl
/-- The daemons below i are up as told. -/
def upsM (m : Pk.Mp) (up : Nat → Bool) : Nat → Pk.Mp
  | 0 => m
  | i + 1 => setU (upsM m up i) i (up i)
theorem ups_w (m : Pk.Mp) (up : Nat → Bool) (j : Nat) : ∀ i, i ≤ 5 → wOf (osL (upsM m up i)) j = wOf (osL m) j
  | 0, _ => rfl
  | i + 1, h => by rw [upsM, wOf_setU _ i (by omega), ups_w m up j i (by omega)]
theorem ups_h (m : Pk.Mp) (up : Nat → Bool) (j : Nat) : ∀ i, i ≤ 5 → hostOf (osL (upsM m up i)) j = hostOf (osL m) j
  | 0, _ => rfl
  | i + 1, h => by rw [upsM, hostOf_setU _ i (by omega), ups_h m up j i (by omega)]
theorem ups_oks (m : Pk.Mp) (up : Nat → Bool) : ∀ i, i ≤ 5 → (osL (upsM m up i)).all Osd.ok = (osL m).all Osd.ok
  | 0, _ => rfl
  | i + 1, h => by rw [upsM, oks_setU _ i (by omega), ups_oks m up i (by omega)]
theorem ups_epoch (m : Pk.Mp) (up : Nat → Bool) : ∀ i, (upsM m up i).epoch = m.epoch
  | 0 => rfl
  | i + 1 => ups_epoch m up i
theorem ups_up (m : Pk.Mp) (up : Nat → Bool) (j : Nat) : ∀ i, i ≤ 5 → j < i → upOf (osL (upsM m up i)) j = up j
  | 0, _, h => by omega
  | i + 1, h, hj => by
    rw [upsM, upOf_setU _ i (by omega)]
    by_cases c : j = i
    · rw [if_pos c, c]
    · rw [if_neg c]; exact ups_up m up j i (by omega) (by omega)
theorem ups_pick (m : Pk.Mp) (up : Nat → Bool) (g : Int) : pickP (upsM m up 5).epoch (osL (upsM m up 5)) g = pickP m.epoch (osL m) g :=
  pickP_congr g (by unfold isM; rw [ups_oks m up 5 (by omega), ups_epoch]) (fun i => ups_w m up i 5 (by omega)) (fun i => ups_h m up i 5 (by omega))
end Go.Proofs.Ytfafafocnnhmpaa

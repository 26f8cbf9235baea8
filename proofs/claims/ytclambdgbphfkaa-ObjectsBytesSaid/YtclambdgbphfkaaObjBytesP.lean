/- For the law ObjectsBytes: what one operation on object 2 comes to (plain). -/
import Derived.Test.YtclambdgbphfkaaObjPlain
set_option linter.all false
namespace Go.Proofs.Ytclambdgbphfkaa
open Pv Go Pk
def bOp (o : Opr) (i : Nat) : Opr := { o with client := 1, seq := ((i + 1 : Nat) : Int), obj := 2 }
theorem bOp_writes {o : Opr} {i : Nat} (hk : o.kind = 1 ∨ o.kind = 2 ∨ o.kind = 4) (hop : isOp (bOp o i) = true) : writes (bOp o i) = true := by
  unfold writes
  rw [hop, Bool.true_and]
  show (o.kind != 5) = true
  rcases hk with h | h | h <;> rw [h] <;> decide
theorem bytes_do {b : Base} {o : Opr} {i : Nat} (hk : o.kind = 1 ∨ o.kind = 2 ∨ o.kind = 4) (hop : isOp (bOp o i) = true) (hq : (b.last.get 0).seq ≤ (i : Int)) :
    doOp b (bOp o i) = ({ objs := b.objs.set 2 (doO (b.objs.get 2) (bOp o i)).1, last := b.last.set 0 ⟨((i + 1 : Nat) : Int), ⟨(doO (b.objs.get 2) (bOp o i)).2, ⟨#[]⟩⟩⟩ }, ⟨(doO (b.objs.get 2) (bOp o i)).2, ⟨#[]⟩⟩) := by
  have hw := bOp_writes hk hop
  have hs : (seen b (bOp o i)).2 = false := by
    unfold seen
    rw [if_neg (by simp [hw]), if_pos (by show (b.last.get 0).seq < ((i + 1 : Nat) : Int); omega)]
  unfold doOp
  rw [if_neg (by simp [hw]), if_neg (by rw [hs]; simp)]
  rfl
/-- What the law's own count of there and of the bytes becomes. -/
def stepB (p : Bool × ByteArray) (o : Opr) : Bool × ByteArray :=
  if o.kind = 1 ∧ o.at_ + o.data.size ≤ 16 then (true, splice p.2 o.at_.toNat o.data)
  else if o.kind = 2 ∧ p.1 = true ∧ o.at_ ≤ 16 then (p.1, (grown p.2 o.at_.toNat).extract 0 o.at_.toNat)
  else if o.kind = 4 ∧ p.1 = true then (false, ⟨#[]⟩)
  else p
theorem bytes_step {b : Base} {o : Opr} {i : Nat} {p : Bool × ByteArray} (hk : o.kind = 1 ∨ o.kind = 2 ∨ o.kind = 4) (hop : isOp (bOp o i) = true) (hq : (b.last.get 0).seq ≤ (i : Int))
    (hp : (b.objs.get 2).there = p.1 ∧ (b.objs.get 2).data = p.2) :
    ((doOp b (bOp o i)).1.objs.get 2).there = (stepB p o).1 ∧ ((doOp b (bOp o i)).1.objs.get 2).data = (stepB p o).2 ∧ ((doOp b (bOp o i)).1.last.get 0).seq = ((i + 1 : Nat) : Int) := by
  rw [bytes_do hk hop hq]
  obtain ⟨t, d⟩ := p
  obtain ⟨h1, h2⟩ := hp
  simp only at h1 h2
  have fin : ∀ (x : Objt) (q : Bool × ByteArray), (doO (b.objs.get 2) (bOp o i)).1 = x → stepB (t, d) o = q → x.there = q.1 → x.data = q.2 →
      (((b.objs.set 2 (doO (b.objs.get 2) (bOp o i)).1).get 2).there = (stepB (t, d) o).1 ∧ ((b.objs.set 2 (doO (b.objs.get 2) (bOp o i)).1).get 2).data = (stepB (t, d) o).2 ∧ ((b.last.set 0 ⟨((i + 1 : Nat) : Int), ⟨(doO (b.objs.get 2) (bOp o i)).2, ⟨#[]⟩⟩⟩).get 0).seq = ((i + 1 : Nat) : Int)) := by
    intro x q e1 e2 e3 e4
    rw [R6.get_set _ _ _ _ (by omega) (by omega), if_pos rfl, R3.get_set _ _ _ _ (by omega) (by omega), if_pos rfl, e1, e2]
    exact ⟨e3, e4, rfl⟩
  rcases hk with h | h | h
  · have e1 : (bOp o i).kind = 1 := h
    by_cases c : o.at_ + o.data.size ≤ 16
    · refine fin { b.objs.get 2 with there := true, data := splice (b.objs.get 2).data o.at_.toNat o.data } (true, splice d o.at_.toNat o.data) ?_ ?_ rfl (by rw [h2])
      · unfold doO writeO
        rw [if_pos e1, if_neg (show ¬ (bOp o i).at_ + ((bOp o i).data.size : Int) > 16 by show ¬ o.at_ + (o.data.size : Int) > 16; omega)]
        rfl
      · unfold stepB
        rw [if_pos ⟨h, c⟩]
    · refine fin (b.objs.get 2) (t, d) ?_ ?_ h1 h2
      · unfold doO writeO
        rw [if_pos e1, if_pos (show (bOp o i).at_ + ((bOp o i).data.size : Int) > 16 by show o.at_ + (o.data.size : Int) > 16; omega)]
      · unfold stepB
        rw [if_neg (fun hh => c hh.2), if_neg (fun hh => by have := hh.1; omega), if_neg (fun hh => by have := hh.1; omega)]
  · have e1 : ¬ (bOp o i).kind = 1 := by show ¬ o.kind = 1; omega
    have e2 : (bOp o i).kind = 2 := h
    cases t with
    | false =>
      refine fin (b.objs.get 2) (false, d) ?_ ?_ h1 h2
      · unfold doO truncO
        rw [if_neg e1, if_pos e2, if_pos h1]
      · unfold stepB
        rw [if_neg (fun hh => by have := hh.1; omega), if_neg (fun hh => by simp at hh), if_neg (fun hh => by have := hh.1; omega)]
    | true =>
      by_cases c : o.at_ ≤ 16
      · refine fin { b.objs.get 2 with data := (grown (b.objs.get 2).data o.at_.toNat).extract 0 o.at_.toNat } (true, (grown d o.at_.toNat).extract 0 o.at_.toNat) ?_ ?_ h1 (by rw [h2])
        · unfold doO truncO
          rw [if_neg e1, if_pos e2, if_neg (by rw [h1]; simp), if_neg (show ¬ (bOp o i).at_ > 16 by show ¬ o.at_ > 16; omega)]
          rfl
        · unfold stepB
          rw [if_neg (fun hh => by have := hh.1; omega), if_pos ⟨h, rfl, c⟩]
      · refine fin (b.objs.get 2) (true, d) ?_ ?_ h1 h2
        · unfold doO truncO
          rw [if_neg e1, if_pos e2, if_neg (by rw [h1]; simp), if_pos (show (bOp o i).at_ > 16 by show o.at_ > 16; omega)]
        · unfold stepB
          rw [if_neg (fun hh => by have := hh.1; omega), if_neg (fun hh => c hh.2.2), if_neg (fun hh => by have := hh.1; omega)]
  · have e1 : ¬ (bOp o i).kind = 1 := by show ¬ o.kind = 1; omega
    have e2 : ¬ (bOp o i).kind = 2 := by show ¬ o.kind = 2; omega
    have e3 : ¬ (bOp o i).kind = 3 := by show ¬ o.kind = 3; omega
    cases t with
    | false =>
      refine fin (b.objs.get 2) (false, d) ?_ ?_ h1 h2
      · unfold doO removeO
        rw [if_neg e1, if_neg e2, if_neg e3, if_pos h1]
      · unfold stepB
        rw [if_neg (fun hh => by have := hh.1; omega), if_neg (fun hh => by have := hh.1; omega), if_neg (fun hh => by simp at hh)]
    | true =>
      refine fin Objt.zero (false, ⟨#[]⟩) ?_ ?_ rfl rfl
      · unfold doO removeO
        rw [if_neg e1, if_neg e2, if_neg e3, if_neg (by rw [h1]; simp)]
      · unfold stepB
        rw [if_neg (fun hh => by have := hh.1; omega), if_neg (fun hh => by have := hh.1; omega), if_pos ⟨h, rfl⟩]
/-- Where the law's count stays, the answer isn't 'done'. -/
theorem bytes_code {b : Base} {o : Opr} {i : Nat} {p : Bool × ByteArray} (hk : o.kind = 1 ∨ o.kind = 2 ∨ o.kind = 4) (hop : isOp (bOp o i) = true) (hq : (b.last.get 0).seq ≤ (i : Int)) (hp : (b.objs.get 2).there = p.1)
    (h1 : ¬ (o.kind = 1 ∧ o.at_ + o.data.size ≤ 16)) (h2 : ¬ (o.kind = 2 ∧ p.1 = true ∧ o.at_ ≤ 16)) (h3 : ¬ (o.kind = 4 ∧ p.1 = true)) : (doOp b (bOp o i)).2.code ≠ 0 := by
  rw [bytes_do hk hop hq]
  show (doO (b.objs.get 2) (bOp o i)).2 ≠ 0
  unfold doO
  rcases hk with h | h | h
  · have e1 : (bOp o i).kind = 1 := h
    rw [if_pos e1]
    unfold writeO
    rw [if_pos (by show o.at_ + o.data.size > 16; omega)]
    simp
  · have e1 : ¬ (bOp o i).kind = 1 := by show ¬ o.kind = 1; omega
    have e2 : (bOp o i).kind = 2 := h
    rw [if_neg e1, if_pos e2]
    unfold truncO
    cases ht : p.1 with
    | false => rw [if_pos (by rw [hp, ht])]; simp
    | true =>
      rw [if_neg (by rw [hp, ht]; simp), if_pos]
      · simp
      · show o.at_ > 16
        have : ¬ o.at_ ≤ 16 := fun hh => h2 ⟨h, ht, hh⟩
        omega
  · have e1 : ¬ (bOp o i).kind = 1 := by show ¬ o.kind = 1; omega
    have e2 : ¬ (bOp o i).kind = 2 := by show ¬ o.kind = 2; omega
    have e3 : ¬ (bOp o i).kind = 3 := by show ¬ o.kind = 3; omega
    rw [if_neg e1, if_neg e2, if_neg e3]
    unfold removeO
    rw [if_pos]
    · simp
    · rw [hp]
      cases ht : p.1 with
      | false => rfl
      | true => exact absurd ⟨h, ht⟩ h3
end Go.Proofs.Ytclambdgbphfkaa

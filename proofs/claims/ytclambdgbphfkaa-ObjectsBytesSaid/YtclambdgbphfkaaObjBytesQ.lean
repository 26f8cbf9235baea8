/- Bytes in an array as a string (plain). -/
import Derived.Test.YtclambdgbphfkaaObjBytesP
set_option linter.all false
namespace Go.Proofs.Ytclambdgbphfkaa
open Pv Go Pk
def bsD (s : ByteArray) : List DV := s.data.toList.map fun c => .i .u8 (c.toNat : Int)
theorem bsD_len (s : ByteArray) : (bsD s).length = s.size := by unfold bsD; rw [List.length_map, Array.length_toList]; rfl
theorem bsD_app (s t : ByteArray) : bsD (s ++ t) = bsD s ++ bsD t := by unfold bsD; rw [ByteArray.data_append, Array.toList_append, List.map_append]
theorem bsD_ext (s : ByteArray) (a b : Nat) : bsD (s.extract a b) = ((bsD s).drop a).take (b - a) := by
  unfold bsD
  rw [ByteArray.data_extract, Array.toList_extract, List.extract_eq_drop_take, List.map_take, List.map_drop]
theorem bytesOf_bsD (s : ByteArray) : bytesOf (bsD s) = some s.data.toList := by
  unfold bsD
  induction s.data.toList with
  | nil => rfl
  | cons c l ih => simp [bytesOf, ih]
theorem bsD_back (s : ByteArray) : (⟨s.data.toList.toArray⟩ : ByteArray) = s := by cases s; simp
theorem bsD_cells (s : ByteArray) : (bsD s).all (fun e => e.cells.length == 1) = true := by
  unfold bsD
  rw [List.all_map, List.all_eq_true]
  intro x _
  rfl
theorem bsD_splice (d x : ByteArray) (a : Nat) : bsD (splice d a x) = upd (bsD (grown d (a + x.size))) a (bsD x) := by
  have h : (grown d (a + x.size)).size = max d.size (a + x.size) := grown_size d _
  unfold splice upd
  rw [bsD_app, bsD_app, bsD_ext, bsD_ext, List.drop_zero, Nat.sub_zero, bsD_len]
  rw [List.take_of_length_le (l := (bsD (grown d (a + x.size))).drop (a + x.size)) (by rw [List.length_drop, bsD_len]; omega)]
  try simp
theorem bsD_cut (d : ByteArray) (a : Nat) : bsD ((grown d a).extract 0 a) = subL (bsD (grown d a)) 0 a := by
  rw [bsD_ext]
  rfl
theorem bsD_nul (n : Nat) : bsD (nul n) = List.replicate n (.i .u8 0) := by
  unfold bsD nul
  simp
theorem grown_more (d : ByteArray) (k : Nat) (h : d.size ≤ k) : bsD (grown d k) ++ [.i .u8 0] = bsD (grown d (k + 1)) := by
  unfold grown
  rw [bsD_app, bsD_app, bsD_nul, bsD_nul, List.append_assoc, show k + 1 - d.size = k - d.size + 1 by omega, List.replicate_succ']
theorem grown_self (d : ByteArray) : bsD (grown d d.size) = bsD d := by
  unfold grown
  rw [bsD_app, Nat.sub_self, bsD_nul]
  simp
end Go.Proofs.Ytclambdgbphfkaa

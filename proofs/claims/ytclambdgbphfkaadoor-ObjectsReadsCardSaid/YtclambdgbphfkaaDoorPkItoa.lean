/- strconv.Itoa of one figure as an outside function. -/
import Derived.Test.YtclambdgbphfkaaDoorPkLib
import Derived.Shelf.Strconv.Itoa3
set_option linter.all false
namespace Pk
open Pv Go Go.RowKit

/-- A figure's text. -/
def fig (n : Nat) : ByteArray := ⟨#[UInt8.ofNat (48 + n)]⟩
/-- strconv.Itoa of one figure. -/
def itoaX : List AV → Option (AV × Heap)
  | [.d (.i .i64 c)] => if 0 ≤ c ∧ c < 10 then some (.d (.s (fig c.toNat)), []) else none
  | _ => none
theorem dec_fig : ∀ i < 10, (⟨(Lib.decDigits i).toArray⟩ : ByteArray) = fig i := by decide +kernel
theorem itoaX_ok {P : Program} {f : FuncId} (hc : Callable P f) (h : ∀ (i : Nat) (w : World), i < 100 →
    Calls P f #[.int .i64 i] w fun e w' => e = .returned (.string ⟨(Lib.decDigits i).toArray⟩) ∧ w' = w) :
    ∀ args r, itoaX args = some r → SRet P f args [] r := by
  intro args r hr
  unfold itoaX at hr
  split at hr
  · split at hr
    · rename_i c hcond
      obtain ⟨h0, h1⟩ := hcond
      injection hr with hr
      subst hr
      refine sret_lib hc fun γ w vs hvs hH => ?_
      obtain ⟨v1, rfl, a⟩ : ∃ v1, vs = [v1] ∧ RV γ w (.d (.i .i64 c)) v1 := by
        cases hvs with
        | cons a hvs => cases hvs; exact ⟨_, rfl, a⟩
      cases a with
      | d a => cases a with
        | i k x =>
          obtain ⟨n, rfl⟩ : ∃ n : Nat, c = n := ⟨c.toNat, by omega⟩
          refine (h n w (by omega)).mono ?_
          rintro e w' ⟨he, rfl⟩
          refine ⟨_, he, fun γ w => ?_, Below.refl _ _⟩
          rw [dec_fig n (by omega), show Int.toNat (n : Int) = n by simp]
          exact .s _
    · simp at hr
  · simp at hr
theorem itoa_at {C : FuncId → Option AFn} {f : FuncId} (h : C f = some (.ext itoaX)) (n : Nat) (hn : n < 10) : evF C f [.d (.i .i64 (n : Int))] [] = some (.d (.s (fig n)), []) := by
  rw [evF_ext h]
  show (if _ then _ else _) = _
  rw [if_pos ⟨by omega, by omega⟩]
  simp
end Pk

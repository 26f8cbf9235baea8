/- maps.Clone as an outside function of the evaluator: a new map with the same entries. -/
import Derived.Test.YtckaebcljcpobaaPkEv
import Derived.Test.YtckaebcljcpobaaPvSound
set_option linter.all false
namespace Pk
open Pv Go
/-- What maps.Clone answers. -/
def mapCloneX : List AV → Heap → Option (AV × Heap)
  | [.mp o], H => match H[o]? with
    | some (.map k kvs) => some (.mp H.length, H ++ [.map k kvs])
    | _ => none
  | _, _ => none
theorem mapCloneX_ok {P : Program} {f : FuncId} (hf : Callable P f)
    (h : ∀ (b : Nat) (es : Array MapEntry) (clock : Nat) (w : World), w.heap[b]? = some (.map es clock) → Calls P f #[.map (some b)] w fun e w' => e = .returned (.map (some w.heap.size)) ∧ w' = w.alloc (.map es clock)) :
    ∀ args H r, mapCloneX args H = some r → SRet P f args H r := by
  intro args H r hr
  unfold mapCloneX at hr
  split at hr
  · rename_i o
    split at hr
    · rename_i k kvs hob
      injection hr with hr
      subst hr
      refine ⟨hf, fun γ w vs hvs hH => ?_⟩
      cases hvs with
      | cons a hvs =>
        cases hvs
        cases a with
        | @mp _ b hp =>
          have hro := hH.ob _ _ hob
          rw [hp] at hro
          obtain ⟨⟨es, clock, hb, hm⟩, hnf⟩ := hro
          refine (h b es clock w hb).mono ?_
          rintro e w' ⟨rfl, rfl⟩
          have hgw : w.grownBy (w.alloc (.map es clock)) none := World.grownBy_alloc w _ none
          have hown : ∀ c, (Pl.map w.heap.size).own = some c → w.heap.size ≤ c := by intro c hc; simp [Pl.own] at hc; omega
          have hst := Stp.new hH hgw hown
          have hro2 : RO (γ.put H.length (.map w.heap.size)) (w.alloc (.map es clock)) (.map w.heap.size) (.map k kvs) := by
            refine ⟨⟨es, clock, heap_alloc_new w _, hm.mono hst.fix⟩, ?_⟩
            intro j hj
            have := hH.fixb _ j hj
            omega
          exact ⟨_, _, rfl, .mp (γ.put_same _ _), RH.push hH hgw hown hro2, hst⟩
    · simp at hr
  · simp at hr
end Pk

/-
  No cell of these rows narrows 'for every input' (looked for: loops, veiled, ifaces, maps, wideKeys, modest, calm, conditions, laid).
  DERIVED. THE GIVEN ROWS OF THIS SEAT. 7 by the template 'for every input the law returns true; each argument reads behind the call as it read before'; 0 by the template 'total and deterministic' (their statements: YtfajplmkfpdhfaaTotals.lean).
  GIVEN WITH THE SEED: the statements are not yours to turn. If you find one false, say at which input.
  Laid BY PROGRAM, IN A SANDBOX (cutbox-rows.mjs): the forced cells as the released guide's own fill.sh prints them over the translation e8a049147593639a… (all of the seat's roots in one cut). By AI agents, Wed Nov 11 2026. No macro, syntax, notation, axiom, sorry.
-/
import Derived.Test.YtfajplmkfpdhfaaChecked
import GoSem.Claim
import GoSem.ClaimJoined
import GoSem.ClaimMapViews
import Derived.JoinedTies
import Derived.KernelRfl
namespace Go.Proofs.Ytfajplmkfpdhfaa
/- THE CELL 'sum', in the pinned program and in every row, IS THE sha256 OF THE DUMP (.gsa) THAT YtfajplmkfpdhfaaProg.lean LOADS. Nothing in Lean hashes anything: it is a label: what it is worth is what the hold of that sum in a sandbox is worth. -/
noncomputable def Try.pinned : Pinned := { name := "ytfajplmkfpdhfaa", sum := "e8a049147593639ad28b0996702d81917ee4553eaeb324f32c2b5b16103c06b8", checked := Try.checked }
namespace Rows
def none {H : Type} : Left H := { results := [], args := [] }

/-- 'paddocklaw8.MergeOnly': WHATEVER THE INPUT: true; the input reads as it did. -/
def mergeOnlySpec : ChangeSpec := { name := "mergeOnly", fn := fun _ => fun
  | [d1, d2, d3] => { results := [.lit (.bool true)], args := [d1, d2, d3] }
  | _ => none }
def mergeOnlyRow : OpenClaim := { program := "ytfajplmkfpdhfaa", sum := "e8a049147593639ad28b0996702d81917ee4553eaeb324f32c2b5b16103c06b8", func := "paddock/paddocklaw8.MergeOnly", spec := "mergeOnly", inPlace := ["internal/abi.NoEscape", "internal/bytealg.MakeNoZero"], unfollowed := true, recurses := true, apart := false }
def MergeOnlySaid : Prop := mergeOnlyRow.holds Try.pinned (OpenSpec.ofChange mergeOnlySpec)

/-- ITS FALSE NEIGHBOUR: 'it returns false'. Refute it at one input. -/
def mergeOnlyWrong : ChangeSpec := { name := "mergeOnly", fn := fun _ => fun
  | [d1, d2, d3] => { results := [.lit (.bool false)], args := [d1, d2, d3] }
  | _ => none }
def MergeOnlyWrongFalsely : Prop := mergeOnlyRow.holds Try.pinned (OpenSpec.ofChange mergeOnlyWrong)

/-- 'paddocklaw8.MergeRewinds': WHATEVER THE INPUT: true; the input reads as it did. -/
def mergeRewindsSpec : ChangeSpec := { name := "mergeRewinds", fn := fun _ => fun
  | [d1, d2, d3] => { results := [.lit (.bool true)], args := [d1, d2, d3] }
  | _ => none }
def mergeRewindsRow : OpenClaim := { program := "ytfajplmkfpdhfaa", sum := "e8a049147593639ad28b0996702d81917ee4553eaeb324f32c2b5b16103c06b8", func := "paddock/paddocklaw8.MergeRewinds", spec := "mergeRewinds", inPlace := ["internal/abi.NoEscape", "internal/bytealg.MakeNoZero"], unfollowed := true, recurses := true, apart := false }
def MergeRewindsSaid : Prop := mergeRewindsRow.holds Try.pinned (OpenSpec.ofChange mergeRewindsSpec)

/-- ITS FALSE NEIGHBOUR: 'it returns false'. Refute it at one input. -/
def mergeRewindsWrong : ChangeSpec := { name := "mergeRewinds", fn := fun _ => fun
  | [d1, d2, d3] => { results := [.lit (.bool false)], args := [d1, d2, d3] }
  | _ => none }
def MergeRewindsWrongFalsely : Prop := mergeRewindsRow.holds Try.pinned (OpenSpec.ofChange mergeRewindsWrong)

/-- 'paddocklaw8.MergeRefuses': WHATEVER THE INPUT: true; the input reads as it did. -/
def mergeRefusesSpec : ChangeSpec := { name := "mergeRefuses", fn := fun _ => fun
  | [d1, d2, d3, d4] => { results := [.lit (.bool true)], args := [d1, d2, d3, d4] }
  | _ => none }
def mergeRefusesRow : OpenClaim := { program := "ytfajplmkfpdhfaa", sum := "e8a049147593639ad28b0996702d81917ee4553eaeb324f32c2b5b16103c06b8", func := "paddock/paddocklaw8.MergeRefuses", spec := "mergeRefuses", inPlace := ["internal/abi.NoEscape", "internal/bytealg.MakeNoZero"], unfollowed := true, recurses := true, apart := false }
def MergeRefusesSaid : Prop := mergeRefusesRow.holds Try.pinned (OpenSpec.ofChange mergeRefusesSpec)

/-- ITS FALSE NEIGHBOUR: 'it returns false'. Refute it at one input. -/
def mergeRefusesWrong : ChangeSpec := { name := "mergeRefuses", fn := fun _ => fun
  | [d1, d2, d3, d4] => { results := [.lit (.bool false)], args := [d1, d2, d3, d4] }
  | _ => none }
def MergeRefusesWrongFalsely : Prop := mergeRefusesRow.holds Try.pinned (OpenSpec.ofChange mergeRefusesWrong)

/-- 'paddocklaw8.MergeSteps': WHATEVER THE INPUT: true; the input reads as it did. -/
def mergeStepsSpec : ChangeSpec := { name := "mergeSteps", fn := fun _ => fun
  | [d1, d2, d3, d4, d5, d6, d7] => { results := [.lit (.bool true)], args := [d1, d2, d3, d4, d5, d6, d7] }
  | _ => none }
def mergeStepsRow : OpenClaim := { program := "ytfajplmkfpdhfaa", sum := "e8a049147593639ad28b0996702d81917ee4553eaeb324f32c2b5b16103c06b8", func := "paddock/paddocklaw8.MergeSteps", spec := "mergeSteps", inPlace := ["internal/abi.NoEscape", "internal/bytealg.MakeNoZero"], unfollowed := true, recurses := true, apart := false }
def MergeStepsSaid : Prop := mergeStepsRow.holds Try.pinned (OpenSpec.ofChange mergeStepsSpec)

/-- ITS FALSE NEIGHBOUR: 'it returns false'. Refute it at one input. -/
def mergeStepsWrong : ChangeSpec := { name := "mergeSteps", fn := fun _ => fun
  | [d1, d2, d3, d4, d5, d6, d7] => { results := [.lit (.bool false)], args := [d1, d2, d3, d4, d5, d6, d7] }
  | _ => none }
def MergeStepsWrongFalsely : Prop := mergeStepsRow.holds Try.pinned (OpenSpec.ofChange mergeStepsWrong)

/-- 'paddocklaw8.MergeTells': WHATEVER THE INPUT: true; the input reads as it did. -/
def mergeTellsSpec : ChangeSpec := { name := "mergeTells", fn := fun _ => fun
  | [d1, d2, d3] => { results := [.lit (.bool true)], args := [d1, d2, d3] }
  | _ => none }
def mergeTellsRow : OpenClaim := { program := "ytfajplmkfpdhfaa", sum := "e8a049147593639ad28b0996702d81917ee4553eaeb324f32c2b5b16103c06b8", func := "paddock/paddocklaw8.MergeTells", spec := "mergeTells", inPlace := ["internal/abi.NoEscape", "internal/bytealg.MakeNoZero"], unfollowed := true, recurses := true, apart := false }
def MergeTellsSaid : Prop := mergeTellsRow.holds Try.pinned (OpenSpec.ofChange mergeTellsSpec)

/-- ITS FALSE NEIGHBOUR: 'it returns false'. Refute it at one input. -/
def mergeTellsWrong : ChangeSpec := { name := "mergeTells", fn := fun _ => fun
  | [d1, d2, d3] => { results := [.lit (.bool false)], args := [d1, d2, d3] }
  | _ => none }
def MergeTellsWrongFalsely : Prop := mergeTellsRow.holds Try.pinned (OpenSpec.ofChange mergeTellsWrong)

/-- 'paddocklaw8.MergeBack': WHATEVER THE INPUT: true; the input reads as it did. -/
def mergeBackSpec : ChangeSpec := { name := "mergeBack", fn := fun _ => fun
  | [d1, d2, d3, d4, d5, d6, d7] => { results := [.lit (.bool true)], args := [d1, d2, d3, d4, d5, d6, d7] }
  | _ => none }
def mergeBackRow : OpenClaim := { program := "ytfajplmkfpdhfaa", sum := "e8a049147593639ad28b0996702d81917ee4553eaeb324f32c2b5b16103c06b8", func := "paddock/paddocklaw8.MergeBack", spec := "mergeBack", inPlace := ["internal/abi.NoEscape", "internal/bytealg.MakeNoZero"], unfollowed := true, recurses := true, apart := false }
def MergeBackSaid : Prop := mergeBackRow.holds Try.pinned (OpenSpec.ofChange mergeBackSpec)

/-- ITS FALSE NEIGHBOUR: 'it returns false'. Refute it at one input. -/
def mergeBackWrong : ChangeSpec := { name := "mergeBack", fn := fun _ => fun
  | [d1, d2, d3, d4, d5, d6, d7] => { results := [.lit (.bool false)], args := [d1, d2, d3, d4, d5, d6, d7] }
  | _ => none }
def MergeBackWrongFalsely : Prop := mergeBackRow.holds Try.pinned (OpenSpec.ofChange mergeBackWrong)

/-- 'paddocklaw8.MergeSelf': WHATEVER THE INPUT: true; the input reads as it did. -/
def mergeSelfSpec : ChangeSpec := { name := "mergeSelf", fn := fun _ => fun
  | [d1, d2] => { results := [.lit (.bool true)], args := [d1, d2] }
  | _ => none }
def mergeSelfRow : OpenClaim := { program := "ytfajplmkfpdhfaa", sum := "e8a049147593639ad28b0996702d81917ee4553eaeb324f32c2b5b16103c06b8", func := "paddock/paddocklaw8.MergeSelf", spec := "mergeSelf", inPlace := ["internal/abi.NoEscape", "internal/bytealg.MakeNoZero"], unfollowed := true, recurses := true, apart := false }
def MergeSelfSaid : Prop := mergeSelfRow.holds Try.pinned (OpenSpec.ofChange mergeSelfSpec)

/-- ITS FALSE NEIGHBOUR: 'it returns false'. Refute it at one input. -/
def mergeSelfWrong : ChangeSpec := { name := "mergeSelf", fn := fun _ => fun
  | [d1, d2] => { results := [.lit (.bool false)], args := [d1, d2] }
  | _ => none }
def MergeSelfWrongFalsely : Prop := mergeSelfRow.holds Try.pinned (OpenSpec.ofChange mergeSelfWrong)

/- THE SECOND FORM. 'bulk': how many values and letters a reading holds, each counted each time it is reached (what is shared counts as often as it is met; a slice's spare places count too). A statement '..UptoSaid' is the law's where the arguments, and the package variables that the reading takes, are together of bulk at most 1048576: NARROWER than '..Said'. Prove '..Said' where nothing that the law and all that it calls make is longer than what came in: it says more and counts as full. Else prove '..UptoSaid'. A law counts once. -/
mutual
def uptoBulk {H : Type} : DataW H → Nat
  | .lit (.string bytes) => bytes.length + 1
  | .lit _ => 1
  | .nil => 1
  | .ptr d => uptoBulk d + 1
  | .slice elems spare => uptoBulkAll elems + uptoBulkAll spare + 1
  | .agg parts => uptoBulkAll parts + 1
  | .iface _ d => uptoBulk d + 1
  | .map entries => uptoBulkEntries entries + 1
  | .held _ => 1
def uptoBulkAll {H : Type} : List (DataW H) → Nat
  | [] => 0
  | d :: r => uptoBulk d + uptoBulkAll r
def uptoBulkEntries {H : Type} : List (Lit × DataW H) → Nat
  | [] => 0
  | x :: r => uptoBulkEntry x + uptoBulkEntries r
def uptoBulkEntry {H : Type} : Lit × DataW H → Nat
  | (.string bytes, d) => bytes.length + uptoBulk d + 1
  | (_, d) => uptoBulk d + 1
 end
def uptoSmall : (H : Type) → List (DataW H) → Bool := fun _ ds => decide (uptoBulkAll ds ≤ 1048576)
def OpenSpec.upto (s : _root_.Go.ChangeSpec) : _root_.Go.OpenSpec := { _root_.Go.OpenSpec.ofChange s with cond := some uptoSmall }

/-- 'paddocklaw8.MergeOnly', WHERE WHAT IT READS IS OF BULK AT MOST 1048576: true; the input reads as it did. -/
def mergeOnlyUptoRow : OpenClaim := { program := "ytfajplmkfpdhfaa", sum := "e8a049147593639ad28b0996702d81917ee4553eaeb324f32c2b5b16103c06b8", func := "paddock/paddocklaw8.MergeOnly", spec := "mergeOnly", inPlace := ["internal/abi.NoEscape", "internal/bytealg.MakeNoZero"], unfollowed := true, recurses := true, apart := false, narrowed := true }
def MergeOnlyUptoSaid : Prop := mergeOnlyUptoRow.holds Try.pinned (OpenSpec.upto mergeOnlySpec)

/-- 'paddocklaw8.MergeRewinds', WHERE WHAT IT READS IS OF BULK AT MOST 1048576: true; the input reads as it did. -/
def mergeRewindsUptoRow : OpenClaim := { program := "ytfajplmkfpdhfaa", sum := "e8a049147593639ad28b0996702d81917ee4553eaeb324f32c2b5b16103c06b8", func := "paddock/paddocklaw8.MergeRewinds", spec := "mergeRewinds", inPlace := ["internal/abi.NoEscape", "internal/bytealg.MakeNoZero"], unfollowed := true, recurses := true, apart := false, narrowed := true }
def MergeRewindsUptoSaid : Prop := mergeRewindsUptoRow.holds Try.pinned (OpenSpec.upto mergeRewindsSpec)

/-- 'paddocklaw8.MergeRefuses', WHERE WHAT IT READS IS OF BULK AT MOST 1048576: true; the input reads as it did. -/
def mergeRefusesUptoRow : OpenClaim := { program := "ytfajplmkfpdhfaa", sum := "e8a049147593639ad28b0996702d81917ee4553eaeb324f32c2b5b16103c06b8", func := "paddock/paddocklaw8.MergeRefuses", spec := "mergeRefuses", inPlace := ["internal/abi.NoEscape", "internal/bytealg.MakeNoZero"], unfollowed := true, recurses := true, apart := false, narrowed := true }
def MergeRefusesUptoSaid : Prop := mergeRefusesUptoRow.holds Try.pinned (OpenSpec.upto mergeRefusesSpec)

/-- 'paddocklaw8.MergeSteps', WHERE WHAT IT READS IS OF BULK AT MOST 1048576: true; the input reads as it did. -/
def mergeStepsUptoRow : OpenClaim := { program := "ytfajplmkfpdhfaa", sum := "e8a049147593639ad28b0996702d81917ee4553eaeb324f32c2b5b16103c06b8", func := "paddock/paddocklaw8.MergeSteps", spec := "mergeSteps", inPlace := ["internal/abi.NoEscape", "internal/bytealg.MakeNoZero"], unfollowed := true, recurses := true, apart := false, narrowed := true }
def MergeStepsUptoSaid : Prop := mergeStepsUptoRow.holds Try.pinned (OpenSpec.upto mergeStepsSpec)

/-- 'paddocklaw8.MergeTells', WHERE WHAT IT READS IS OF BULK AT MOST 1048576: true; the input reads as it did. -/
def mergeTellsUptoRow : OpenClaim := { program := "ytfajplmkfpdhfaa", sum := "e8a049147593639ad28b0996702d81917ee4553eaeb324f32c2b5b16103c06b8", func := "paddock/paddocklaw8.MergeTells", spec := "mergeTells", inPlace := ["internal/abi.NoEscape", "internal/bytealg.MakeNoZero"], unfollowed := true, recurses := true, apart := false, narrowed := true }
def MergeTellsUptoSaid : Prop := mergeTellsUptoRow.holds Try.pinned (OpenSpec.upto mergeTellsSpec)

/-- 'paddocklaw8.MergeBack', WHERE WHAT IT READS IS OF BULK AT MOST 1048576: true; the input reads as it did. -/
def mergeBackUptoRow : OpenClaim := { program := "ytfajplmkfpdhfaa", sum := "e8a049147593639ad28b0996702d81917ee4553eaeb324f32c2b5b16103c06b8", func := "paddock/paddocklaw8.MergeBack", spec := "mergeBack", inPlace := ["internal/abi.NoEscape", "internal/bytealg.MakeNoZero"], unfollowed := true, recurses := true, apart := false, narrowed := true }
def MergeBackUptoSaid : Prop := mergeBackUptoRow.holds Try.pinned (OpenSpec.upto mergeBackSpec)

/-- 'paddocklaw8.MergeSelf', WHERE WHAT IT READS IS OF BULK AT MOST 1048576: true; the input reads as it did. -/
def mergeSelfUptoRow : OpenClaim := { program := "ytfajplmkfpdhfaa", sum := "e8a049147593639ad28b0996702d81917ee4553eaeb324f32c2b5b16103c06b8", func := "paddock/paddocklaw8.MergeSelf", spec := "mergeSelf", inPlace := ["internal/abi.NoEscape", "internal/bytealg.MakeNoZero"], unfollowed := true, recurses := true, apart := false, narrowed := true }
def MergeSelfUptoSaid : Prop := mergeSelfUptoRow.holds Try.pinned (OpenSpec.upto mergeSelfSpec)

end Rows
end Go.Proofs.Ytfajplmkfpdhfaa

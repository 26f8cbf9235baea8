/-
  No cell of these rows narrows 'for every input' (looked for: loops, veiled, ifaces, maps, wideKeys, modest, calm, conditions, laid).
  DERIVED. THE GIVEN ROWS OF THIS SEAT. 8 by the template 'for every input the law returns true; each argument reads behind the call as it read before'; 0 by the template 'total and deterministic' (their statements: YtcbahckkilmpnaaTotals.lean).
  GIVEN WITH THE SEED: the statements are not yours to turn. If you find one false, say at which input.
  Laid BY PROGRAM, IN A SANDBOX (cutbox-rows.mjs): the forced cells as the released guide's own fill.sh prints them over the translation 9338f6a9eb83bd5d… (all of the seat's roots in one cut). By AI agents, Wed Nov 11 2026. No macro, syntax, notation, axiom, sorry.
-/
import Derived.Test.YtcbahckkilmpnaaChecked
import GoSem.Claim
import GoSem.ClaimJoined
import GoSem.ClaimMapViews
import Derived.JoinedTies
import Derived.KernelRfl
namespace Go.Proofs.Ytcbahckkilmpnaa
/- THE CELL 'sum', in the pinned program and in every row, IS THE sha256 OF THE DUMP (.gsa) THAT YtcbahckkilmpnaaProg.lean LOADS. Nothing in Lean hashes anything: it is a label: what it is worth is what the hold of that sum in a sandbox is worth. -/
noncomputable def Try.pinned : Pinned := { name := "ytcbahckkilmpnaa", sum := "9338f6a9eb83bd5d1fa2e9a7336c9b9faaf301d1c84664cbe11fa1f968a45c03", checked := Try.checked }
namespace Rows
def none {H : Type} : Left H := { results := [], args := [] }

/-- 'paddocklaw7.LogRows': WHATEVER THE INPUT: true; the input reads as it did. -/
def logRowsSpec : ChangeSpec := { name := "logRows", fn := fun _ => fun
  | [d1, d2] => { results := [.lit (.bool true)], args := [d1, d2] }
  | _ => none }
def logRowsRow : OpenClaim := { program := "ytcbahckkilmpnaa", sum := "9338f6a9eb83bd5d1fa2e9a7336c9b9faaf301d1c84664cbe11fa1f968a45c03", func := "paddock/paddocklaw7.LogRows", spec := "logRows", inPlace := ["internal/abi.NoEscape", "internal/bytealg.MakeNoZero"], unfollowed := true, recurses := true, apart := false }
def LogRowsSaid : Prop := logRowsRow.holds Try.pinned (OpenSpec.ofChange logRowsSpec)

/-- ITS FALSE NEIGHBOUR: 'it returns false'. Refute it at one input. -/
def logRowsWrong : ChangeSpec := { name := "logRows", fn := fun _ => fun
  | [d1, d2] => { results := [.lit (.bool false)], args := [d1, d2] }
  | _ => none }
def LogRowsWrongFalsely : Prop := logRowsRow.holds Try.pinned (OpenSpec.ofChange logRowsWrong)

/-- 'paddocklaw7.LogFinds': WHATEVER THE INPUT: true; the input reads as it did. -/
def logFindsSpec : ChangeSpec := { name := "logFinds", fn := fun _ => fun
  | [d1, d2] => { results := [.lit (.bool true)], args := [d1, d2] }
  | _ => none }
def logFindsRow : OpenClaim := { program := "ytcbahckkilmpnaa", sum := "9338f6a9eb83bd5d1fa2e9a7336c9b9faaf301d1c84664cbe11fa1f968a45c03", func := "paddock/paddocklaw7.LogFinds", spec := "logFinds", inPlace := ["internal/abi.NoEscape", "internal/bytealg.MakeNoZero"], unfollowed := true, recurses := true, apart := false }
def LogFindsSaid : Prop := logFindsRow.holds Try.pinned (OpenSpec.ofChange logFindsSpec)

/-- ITS FALSE NEIGHBOUR: 'it returns false'. Refute it at one input. -/
def logFindsWrong : ChangeSpec := { name := "logFinds", fn := fun _ => fun
  | [d1, d2] => { results := [.lit (.bool false)], args := [d1, d2] }
  | _ => none }
def LogFindsWrongFalsely : Prop := logFindsRow.holds Try.pinned (OpenSpec.ofChange logFindsWrong)

/-- 'paddocklaw7.LogSames': WHATEVER THE INPUT: true; the input reads as it did. -/
def logSamesSpec : ChangeSpec := { name := "logSames", fn := fun _ => fun
  | [d1, d2, d3] => { results := [.lit (.bool true)], args := [d1, d2, d3] }
  | _ => none }
def logSamesRow : OpenClaim := { program := "ytcbahckkilmpnaa", sum := "9338f6a9eb83bd5d1fa2e9a7336c9b9faaf301d1c84664cbe11fa1f968a45c03", func := "paddock/paddocklaw7.LogSames", spec := "logSames", inPlace := ["internal/abi.NoEscape", "internal/bytealg.MakeNoZero"], unfollowed := true, recurses := true, apart := false }
def LogSamesSaid : Prop := logSamesRow.holds Try.pinned (OpenSpec.ofChange logSamesSpec)

/-- ITS FALSE NEIGHBOUR: 'it returns false'. Refute it at one input. -/
def logSamesWrong : ChangeSpec := { name := "logSames", fn := fun _ => fun
  | [d1, d2, d3] => { results := [.lit (.bool false)], args := [d1, d2, d3] }
  | _ => none }
def LogSamesWrongFalsely : Prop := logSamesRow.holds Try.pinned (OpenSpec.ofChange logSamesWrong)

/-- 'paddocklaw7.LogSpoilt': WHATEVER THE INPUT: true; the input reads as it did. -/
def logSpoiltSpec : ChangeSpec := { name := "logSpoilt", fn := fun _ => fun
  | [d1, d2, d3] => { results := [.lit (.bool true)], args := [d1, d2, d3] }
  | _ => none }
def logSpoiltRow : OpenClaim := { program := "ytcbahckkilmpnaa", sum := "9338f6a9eb83bd5d1fa2e9a7336c9b9faaf301d1c84664cbe11fa1f968a45c03", func := "paddock/paddocklaw7.LogSpoilt", spec := "logSpoilt", inPlace := ["internal/abi.NoEscape", "internal/bytealg.MakeNoZero"], unfollowed := true, recurses := true, apart := false }
def LogSpoiltSaid : Prop := logSpoiltRow.holds Try.pinned (OpenSpec.ofChange logSpoiltSpec)

/-- ITS FALSE NEIGHBOUR: 'it returns false'. Refute it at one input. -/
def logSpoiltWrong : ChangeSpec := { name := "logSpoilt", fn := fun _ => fun
  | [d1, d2, d3] => { results := [.lit (.bool false)], args := [d1, d2, d3] }
  | _ => none }
def LogSpoiltWrongFalsely : Prop := logSpoiltRow.holds Try.pinned (OpenSpec.ofChange logSpoiltWrong)

/-- 'paddocklaw7.LogBounds': WHATEVER THE INPUT: true; the input reads as it did. -/
def logBoundsSpec : ChangeSpec := { name := "logBounds", fn := fun _ => fun
  | [d1, d2, d3, d4] => { results := [.lit (.bool true)], args := [d1, d2, d3, d4] }
  | _ => none }
def logBoundsRow : OpenClaim := { program := "ytcbahckkilmpnaa", sum := "9338f6a9eb83bd5d1fa2e9a7336c9b9faaf301d1c84664cbe11fa1f968a45c03", func := "paddock/paddocklaw7.LogBounds", spec := "logBounds", inPlace := ["internal/abi.NoEscape", "internal/bytealg.MakeNoZero"], unfollowed := true, recurses := true, apart := false }
def LogBoundsSaid : Prop := logBoundsRow.holds Try.pinned (OpenSpec.ofChange logBoundsSpec)

/-- ITS FALSE NEIGHBOUR: 'it returns false'. Refute it at one input. -/
def logBoundsWrong : ChangeSpec := { name := "logBounds", fn := fun _ => fun
  | [d1, d2, d3, d4] => { results := [.lit (.bool false)], args := [d1, d2, d3, d4] }
  | _ => none }
def LogBoundsWrongFalsely : Prop := logBoundsRow.holds Try.pinned (OpenSpec.ofChange logBoundsWrong)

/-- 'paddocklaw7.LogTails': WHATEVER THE INPUT: true; the input reads as it did. -/
def logTailsSpec : ChangeSpec := { name := "logTails", fn := fun _ => fun
  | [d1, d2, d3, d4] => { results := [.lit (.bool true)], args := [d1, d2, d3, d4] }
  | _ => none }
def logTailsRow : OpenClaim := { program := "ytcbahckkilmpnaa", sum := "9338f6a9eb83bd5d1fa2e9a7336c9b9faaf301d1c84664cbe11fa1f968a45c03", func := "paddock/paddocklaw7.LogTails", spec := "logTails", inPlace := ["internal/abi.NoEscape", "internal/bytealg.MakeNoZero"], unfollowed := true, recurses := true, apart := false }
def LogTailsSaid : Prop := logTailsRow.holds Try.pinned (OpenSpec.ofChange logTailsSpec)

/-- ITS FALSE NEIGHBOUR: 'it returns false'. Refute it at one input. -/
def logTailsWrong : ChangeSpec := { name := "logTails", fn := fun _ => fun
  | [d1, d2, d3, d4] => { results := [.lit (.bool false)], args := [d1, d2, d3, d4] }
  | _ => none }
def LogTailsWrongFalsely : Prop := logTailsRow.holds Try.pinned (OpenSpec.ofChange logTailsWrong)

/-- 'paddocklaw7.LogCuts': WHATEVER THE INPUT: true; the input reads as it did. -/
def logCutsSpec : ChangeSpec := { name := "logCuts", fn := fun _ => fun
  | [d1, d2] => { results := [.lit (.bool true)], args := [d1, d2] }
  | _ => none }
def logCutsRow : OpenClaim := { program := "ytcbahckkilmpnaa", sum := "9338f6a9eb83bd5d1fa2e9a7336c9b9faaf301d1c84664cbe11fa1f968a45c03", func := "paddock/paddocklaw7.LogCuts", spec := "logCuts", inPlace := ["internal/abi.NoEscape", "internal/bytealg.MakeNoZero"], unfollowed := true, recurses := true, apart := false }
def LogCutsSaid : Prop := logCutsRow.holds Try.pinned (OpenSpec.ofChange logCutsSpec)

/-- ITS FALSE NEIGHBOUR: 'it returns false'. Refute it at one input. -/
def logCutsWrong : ChangeSpec := { name := "logCuts", fn := fun _ => fun
  | [d1, d2] => { results := [.lit (.bool false)], args := [d1, d2] }
  | _ => none }
def LogCutsWrongFalsely : Prop := logCutsRow.holds Try.pinned (OpenSpec.ofChange logCutsWrong)

/-- 'paddocklaw7.LogTells': WHATEVER THE INPUT: true; the input reads as it did. -/
def logTellsSpec : ChangeSpec := { name := "logTells", fn := fun _ => fun
  | [d1, d2, d3, d4] => { results := [.lit (.bool true)], args := [d1, d2, d3, d4] }
  | _ => none }
def logTellsRow : OpenClaim := { program := "ytcbahckkilmpnaa", sum := "9338f6a9eb83bd5d1fa2e9a7336c9b9faaf301d1c84664cbe11fa1f968a45c03", func := "paddock/paddocklaw7.LogTells", spec := "logTells", inPlace := ["internal/abi.NoEscape", "internal/bytealg.MakeNoZero"], unfollowed := true, recurses := true, apart := false }
def LogTellsSaid : Prop := logTellsRow.holds Try.pinned (OpenSpec.ofChange logTellsSpec)

/-- ITS FALSE NEIGHBOUR: 'it returns false'. Refute it at one input. -/
def logTellsWrong : ChangeSpec := { name := "logTells", fn := fun _ => fun
  | [d1, d2, d3, d4] => { results := [.lit (.bool false)], args := [d1, d2, d3, d4] }
  | _ => none }
def LogTellsWrongFalsely : Prop := logTellsRow.holds Try.pinned (OpenSpec.ofChange logTellsWrong)

/- THE SECOND FORM. 'bulk': how many values and letters a reading holds, each counted each time it is reached (what is shared counts as often as it is met; a slice's spare places count too). A statement '..UptoSaid' is the law's where the arguments, and the package variables that the reading takes, are together of bulk at most 1048576: NARROWER than '..Said'. Prove '..Said' where nothing that the law and all that it calls make is longer than what came in: it says more and counts as full. Else prove '..UptoSaid'. A law counts once. -/
mutual
def uptoBulk {H : Type} : DataW H → Nat
  | .lit (.string bytes) => bytes.length + 1
  | .lit _ => 1
  | .nil => 1
  | .ptr d => uptoBulk d + 1
  | .slice elems spare => uptoBulkAll elems + uptoBulkAll spare + 1
  | .agg parts => uptoBulkAll parts + 1
  | .iface _ d => uptoBulk d + 1
  | .map entries => uptoBulkEntries entries + 1
  | .held _ => 1
def uptoBulkAll {H : Type} : List (DataW H) → Nat
  | [] => 0
  | d :: r => uptoBulk d + uptoBulkAll r
def uptoBulkEntries {H : Type} : List (Lit × DataW H) → Nat
  | [] => 0
  | x :: r => uptoBulkEntry x + uptoBulkEntries r
def uptoBulkEntry {H : Type} : Lit × DataW H → Nat
  | (.string bytes, d) => bytes.length + uptoBulk d + 1
  | (_, d) => uptoBulk d + 1
 end
def uptoSmall : (H : Type) → List (DataW H) → Bool := fun _ ds => decide (uptoBulkAll ds ≤ 1048576)
def OpenSpec.upto (s : _root_.Go.ChangeSpec) : _root_.Go.OpenSpec := { _root_.Go.OpenSpec.ofChange s with cond := some uptoSmall }

/-- 'paddocklaw7.LogRows', WHERE WHAT IT READS IS OF BULK AT MOST 1048576: true; the input reads as it did. -/
def logRowsUptoRow : OpenClaim := { program := "ytcbahckkilmpnaa", sum := "9338f6a9eb83bd5d1fa2e9a7336c9b9faaf301d1c84664cbe11fa1f968a45c03", func := "paddock/paddocklaw7.LogRows", spec := "logRows", inPlace := ["internal/abi.NoEscape", "internal/bytealg.MakeNoZero"], unfollowed := true, recurses := true, apart := false, narrowed := true }
def LogRowsUptoSaid : Prop := logRowsUptoRow.holds Try.pinned (OpenSpec.upto logRowsSpec)

/-- 'paddocklaw7.LogFinds', WHERE WHAT IT READS IS OF BULK AT MOST 1048576: true; the input reads as it did. -/
def logFindsUptoRow : OpenClaim := { program := "ytcbahckkilmpnaa", sum := "9338f6a9eb83bd5d1fa2e9a7336c9b9faaf301d1c84664cbe11fa1f968a45c03", func := "paddock/paddocklaw7.LogFinds", spec := "logFinds", inPlace := ["internal/abi.NoEscape", "internal/bytealg.MakeNoZero"], unfollowed := true, recurses := true, apart := false, narrowed := true }
def LogFindsUptoSaid : Prop := logFindsUptoRow.holds Try.pinned (OpenSpec.upto logFindsSpec)

/-- 'paddocklaw7.LogSames', WHERE WHAT IT READS IS OF BULK AT MOST 1048576: true; the input reads as it did. -/
def logSamesUptoRow : OpenClaim := { program := "ytcbahckkilmpnaa", sum := "9338f6a9eb83bd5d1fa2e9a7336c9b9faaf301d1c84664cbe11fa1f968a45c03", func := "paddock/paddocklaw7.LogSames", spec := "logSames", inPlace := ["internal/abi.NoEscape", "internal/bytealg.MakeNoZero"], unfollowed := true, recurses := true, apart := false, narrowed := true }
def LogSamesUptoSaid : Prop := logSamesUptoRow.holds Try.pinned (OpenSpec.upto logSamesSpec)

/-- 'paddocklaw7.LogSpoilt', WHERE WHAT IT READS IS OF BULK AT MOST 1048576: true; the input reads as it did. -/
def logSpoiltUptoRow : OpenClaim := { program := "ytcbahckkilmpnaa", sum := "9338f6a9eb83bd5d1fa2e9a7336c9b9faaf301d1c84664cbe11fa1f968a45c03", func := "paddock/paddocklaw7.LogSpoilt", spec := "logSpoilt", inPlace := ["internal/abi.NoEscape", "internal/bytealg.MakeNoZero"], unfollowed := true, recurses := true, apart := false, narrowed := true }
def LogSpoiltUptoSaid : Prop := logSpoiltUptoRow.holds Try.pinned (OpenSpec.upto logSpoiltSpec)

/-- 'paddocklaw7.LogBounds', WHERE WHAT IT READS IS OF BULK AT MOST 1048576: true; the input reads as it did. -/
def logBoundsUptoRow : OpenClaim := { program := "ytcbahckkilmpnaa", sum := "9338f6a9eb83bd5d1fa2e9a7336c9b9faaf301d1c84664cbe11fa1f968a45c03", func := "paddock/paddocklaw7.LogBounds", spec := "logBounds", inPlace := ["internal/abi.NoEscape", "internal/bytealg.MakeNoZero"], unfollowed := true, recurses := true, apart := false, narrowed := true }
def LogBoundsUptoSaid : Prop := logBoundsUptoRow.holds Try.pinned (OpenSpec.upto logBoundsSpec)

/-- 'paddocklaw7.LogTails', WHERE WHAT IT READS IS OF BULK AT MOST 1048576: true; the input reads as it did. -/
def logTailsUptoRow : OpenClaim := { program := "ytcbahckkilmpnaa", sum := "9338f6a9eb83bd5d1fa2e9a7336c9b9faaf301d1c84664cbe11fa1f968a45c03", func := "paddock/paddocklaw7.LogTails", spec := "logTails", inPlace := ["internal/abi.NoEscape", "internal/bytealg.MakeNoZero"], unfollowed := true, recurses := true, apart := false, narrowed := true }
def LogTailsUptoSaid : Prop := logTailsUptoRow.holds Try.pinned (OpenSpec.upto logTailsSpec)

/-- 'paddocklaw7.LogCuts', WHERE WHAT IT READS IS OF BULK AT MOST 1048576: true; the input reads as it did. -/
def logCutsUptoRow : OpenClaim := { program := "ytcbahckkilmpnaa", sum := "9338f6a9eb83bd5d1fa2e9a7336c9b9faaf301d1c84664cbe11fa1f968a45c03", func := "paddock/paddocklaw7.LogCuts", spec := "logCuts", inPlace := ["internal/abi.NoEscape", "internal/bytealg.MakeNoZero"], unfollowed := true, recurses := true, apart := false, narrowed := true }
def LogCutsUptoSaid : Prop := logCutsUptoRow.holds Try.pinned (OpenSpec.upto logCutsSpec)

/-- 'paddocklaw7.LogTells', WHERE WHAT IT READS IS OF BULK AT MOST 1048576: true; the input reads as it did. -/
def logTellsUptoRow : OpenClaim := { program := "ytcbahckkilmpnaa", sum := "9338f6a9eb83bd5d1fa2e9a7336c9b9faaf301d1c84664cbe11fa1f968a45c03", func := "paddock/paddocklaw7.LogTells", spec := "logTells", inPlace := ["internal/abi.NoEscape", "internal/bytealg.MakeNoZero"], unfollowed := true, recurses := true, apart := false, narrowed := true }
def LogTellsUptoSaid : Prop := logTellsUptoRow.holds Try.pinned (OpenSpec.upto logTellsSpec)

end Rows
end Go.Proofs.Ytcbahckkilmpnaa

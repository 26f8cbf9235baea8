/-
  No cell of these rows narrows 'for every input' (looked for: loops, veiled, ifaces, maps, wideKeys, modest, calm, conditions, laid).
  DERIVED. THE GIVEN ROWS OF THIS SEAT. 4 by the template 'for every input the law returns true; each argument reads behind the call as it read before'; 0 by the template 'total and deterministic' (their statements: YthlpognahlnaaaaGreatTotals.lean).
  GIVEN WITH THE SEED: the statements are not yours to turn. If you find one false, say at which input.
  Laid BY PROGRAM, IN A SANDBOX (cutbox-rows.mjs): the forced cells as the released guide's own fill.sh prints them over the translation 89387e55a763036e… (all of the seat's roots in one cut). By AI agents, Wed Nov 11 2026. No macro, syntax, notation, axiom, sorry.
-/
import Derived.Test.YthlpognahlnaaaaGreatChecked
import GoSem.Claim
import GoSem.ClaimJoined
import GoSem.ClaimMapViews
import Derived.JoinedTies
import Derived.KernelRfl
namespace Go.Proofs.YthlpognahlnaaaaGreat
/- THE CELL 'sum', in the pinned program and in every row, IS THE sha256 OF THE DUMP (.gsa) THAT YthlpognahlnaaaaGreatProg.lean LOADS. Nothing in Lean hashes anything: it is a label: what it is worth is what the hold of that sum in a sandbox is worth. -/
noncomputable def Tryz.pinned : Pinned := { name := "ythlpognahlnaaaagreat", sum := "89387e55a763036e712472ad8f9b5cf2a79d7b4ddacb734b80774cf9da806e21", checked := Tryz.checked }
namespace Rows
def none {H : Type} : Left H := { results := [], args := [] }

/-- 'paddocklaw25.RepairCosts': WHATEVER THE INPUT: true; the input reads as it did. -/
def repairCostsSpec : ChangeSpec := { name := "repairCosts", fn := fun _ => fun
  | [d1, d2] => { results := [.lit (.bool true)], args := [d1, d2] }
  | _ => none }
def repairCostsRow : OpenClaim := { program := "ythlpognahlnaaaagreat", sum := "89387e55a763036e712472ad8f9b5cf2a79d7b4ddacb734b80774cf9da806e21", func := "paddock/paddocklaw25.RepairCosts", spec := "repairCosts", inPlace := ["internal/abi.NoEscape", "internal/bytealg.MakeNoZero"], unfollowed := true, recurses := true, apart := false }
def RepairCostsSaid : Prop := repairCostsRow.holds Tryz.pinned (OpenSpec.ofChange repairCostsSpec)

/-- ITS FALSE NEIGHBOUR: 'it returns false'. Refute it at one input. -/
def repairCostsWrong : ChangeSpec := { name := "repairCosts", fn := fun _ => fun
  | [d1, d2] => { results := [.lit (.bool false)], args := [d1, d2] }
  | _ => none }
def RepairCostsWrongFalsely : Prop := repairCostsRow.holds Tryz.pinned (OpenSpec.ofChange repairCostsWrong)

/-- 'paddocklaw25.RepairLoses': WHATEVER THE INPUT: true; the input reads as it did. -/
def repairLosesSpec : ChangeSpec := { name := "repairLoses", fn := fun _ => fun
  | [d] => { results := [.lit (.bool true)], args := [d] }
  | _ => none }
def repairLosesRow : OpenClaim := { program := "ythlpognahlnaaaagreat", sum := "89387e55a763036e712472ad8f9b5cf2a79d7b4ddacb734b80774cf9da806e21", func := "paddock/paddocklaw25.RepairLoses", spec := "repairLoses", inPlace := ["internal/abi.NoEscape", "internal/bytealg.MakeNoZero"], unfollowed := true, recurses := true, apart := false }
def RepairLosesSaid : Prop := repairLosesRow.holds Tryz.pinned (OpenSpec.ofChange repairLosesSpec)

/-- ITS FALSE NEIGHBOUR: 'it returns false'. Refute it at one input. -/
def repairLosesWrong : ChangeSpec := { name := "repairLoses", fn := fun _ => fun
  | [d] => { results := [.lit (.bool false)], args := [d] }
  | _ => none }
def RepairLosesWrongFalsely : Prop := repairLosesRow.holds Tryz.pinned (OpenSpec.ofChange repairLosesWrong)

/-- 'paddocklaw25.RepairBlocked': WHATEVER THE INPUT: true; the input reads as it did. -/
def repairBlockedSpec : ChangeSpec := { name := "repairBlocked", fn := fun _ => fun
  | [d1, d2, d3] => { results := [.lit (.bool true)], args := [d1, d2, d3] }
  | _ => none }
def repairBlockedRow : OpenClaim := { program := "ythlpognahlnaaaagreat", sum := "89387e55a763036e712472ad8f9b5cf2a79d7b4ddacb734b80774cf9da806e21", func := "paddock/paddocklaw25.RepairBlocked", spec := "repairBlocked", inPlace := ["internal/abi.NoEscape", "internal/bytealg.MakeNoZero"], unfollowed := true, recurses := true, apart := false }
def RepairBlockedSaid : Prop := repairBlockedRow.holds Tryz.pinned (OpenSpec.ofChange repairBlockedSpec)

/-- ITS FALSE NEIGHBOUR: 'it returns false'. Refute it at one input. -/
def repairBlockedWrong : ChangeSpec := { name := "repairBlocked", fn := fun _ => fun
  | [d1, d2, d3] => { results := [.lit (.bool false)], args := [d1, d2, d3] }
  | _ => none }
def RepairBlockedWrongFalsely : Prop := repairBlockedRow.holds Tryz.pinned (OpenSpec.ofChange repairBlockedWrong)

/-- 'paddocklaw25.RepairTells': WHATEVER THE INPUT: true; the input reads as it did. -/
def repairTellsSpec : ChangeSpec := { name := "repairTells", fn := fun _ => fun
  | [d1, d2, d3, d4, d5] => { results := [.lit (.bool true)], args := [d1, d2, d3, d4, d5] }
  | _ => none }
def repairTellsRow : OpenClaim := { program := "ythlpognahlnaaaagreat", sum := "89387e55a763036e712472ad8f9b5cf2a79d7b4ddacb734b80774cf9da806e21", func := "paddock/paddocklaw25.RepairTells", spec := "repairTells", inPlace := ["internal/abi.NoEscape", "internal/bytealg.MakeNoZero"], unfollowed := true, recurses := true, apart := false }
def RepairTellsSaid : Prop := repairTellsRow.holds Tryz.pinned (OpenSpec.ofChange repairTellsSpec)

/-- ITS FALSE NEIGHBOUR: 'it returns false'. Refute it at one input. -/
def repairTellsWrong : ChangeSpec := { name := "repairTells", fn := fun _ => fun
  | [d1, d2, d3, d4, d5] => { results := [.lit (.bool false)], args := [d1, d2, d3, d4, d5] }
  | _ => none }
def RepairTellsWrongFalsely : Prop := repairTellsRow.holds Tryz.pinned (OpenSpec.ofChange repairTellsWrong)

/- THE SECOND FORM. 'bulk': how many values and letters a reading holds, each counted each time it is reached (what is shared counts as often as it is met; a slice's spare places count too). A statement '..UptoSaid' is the law's where the arguments, and the package variables that the reading takes, are together of bulk at most 1048576: NARROWER than '..Said'. Prove '..Said' where nothing that the law and all that it calls make is longer than what came in: it says more and counts as full. Else prove '..UptoSaid'. A law counts once. -/
mutual
def uptoBulk {H : Type} : DataW H → Nat
  | .lit (.string bytes) => bytes.length + 1
  | .lit _ => 1
  | .nil => 1
  | .ptr d => uptoBulk d + 1
  | .slice elems spare => uptoBulkAll elems + uptoBulkAll spare + 1
  | .agg parts => uptoBulkAll parts + 1
  | .iface _ d => uptoBulk d + 1
  | .map entries => uptoBulkEntries entries + 1
  | .held _ => 1
def uptoBulkAll {H : Type} : List (DataW H) → Nat
  | [] => 0
  | d :: r => uptoBulk d + uptoBulkAll r
def uptoBulkEntries {H : Type} : List (Lit × DataW H) → Nat
  | [] => 0
  | x :: r => uptoBulkEntry x + uptoBulkEntries r
def uptoBulkEntry {H : Type} : Lit × DataW H → Nat
  | (.string bytes, d) => bytes.length + uptoBulk d + 1
  | (_, d) => uptoBulk d + 1
 end
def uptoSmall : (H : Type) → List (DataW H) → Bool := fun _ ds => decide (uptoBulkAll ds ≤ 1048576)
def OpenSpec.upto (s : _root_.Go.ChangeSpec) : _root_.Go.OpenSpec := { _root_.Go.OpenSpec.ofChange s with cond := some uptoSmall }

/-- 'paddocklaw25.RepairCosts', WHERE WHAT IT READS IS OF BULK AT MOST 1048576: true; the input reads as it did. -/
def repairCostsUptoRow : OpenClaim := { program := "ythlpognahlnaaaagreat", sum := "89387e55a763036e712472ad8f9b5cf2a79d7b4ddacb734b80774cf9da806e21", func := "paddock/paddocklaw25.RepairCosts", spec := "repairCosts", inPlace := ["internal/abi.NoEscape", "internal/bytealg.MakeNoZero"], unfollowed := true, recurses := true, apart := false, narrowed := true }
def RepairCostsUptoSaid : Prop := repairCostsUptoRow.holds Tryz.pinned (OpenSpec.upto repairCostsSpec)

/-- 'paddocklaw25.RepairLoses', WHERE WHAT IT READS IS OF BULK AT MOST 1048576: true; the input reads as it did. -/
def repairLosesUptoRow : OpenClaim := { program := "ythlpognahlnaaaagreat", sum := "89387e55a763036e712472ad8f9b5cf2a79d7b4ddacb734b80774cf9da806e21", func := "paddock/paddocklaw25.RepairLoses", spec := "repairLoses", inPlace := ["internal/abi.NoEscape", "internal/bytealg.MakeNoZero"], unfollowed := true, recurses := true, apart := false, narrowed := true }
def RepairLosesUptoSaid : Prop := repairLosesUptoRow.holds Tryz.pinned (OpenSpec.upto repairLosesSpec)

/-- 'paddocklaw25.RepairBlocked', WHERE WHAT IT READS IS OF BULK AT MOST 1048576: true; the input reads as it did. -/
def repairBlockedUptoRow : OpenClaim := { program := "ythlpognahlnaaaagreat", sum := "89387e55a763036e712472ad8f9b5cf2a79d7b4ddacb734b80774cf9da806e21", func := "paddock/paddocklaw25.RepairBlocked", spec := "repairBlocked", inPlace := ["internal/abi.NoEscape", "internal/bytealg.MakeNoZero"], unfollowed := true, recurses := true, apart := false, narrowed := true }
def RepairBlockedUptoSaid : Prop := repairBlockedUptoRow.holds Tryz.pinned (OpenSpec.upto repairBlockedSpec)

/-- 'paddocklaw25.RepairTells', WHERE WHAT IT READS IS OF BULK AT MOST 1048576: true; the input reads as it did. -/
def repairTellsUptoRow : OpenClaim := { program := "ythlpognahlnaaaagreat", sum := "89387e55a763036e712472ad8f9b5cf2a79d7b4ddacb734b80774cf9da806e21", func := "paddock/paddocklaw25.RepairTells", spec := "repairTells", inPlace := ["internal/abi.NoEscape", "internal/bytealg.MakeNoZero"], unfollowed := true, recurses := true, apart := false, narrowed := true }
def RepairTellsUptoSaid : Prop := repairTellsUptoRow.holds Tryz.pinned (OpenSpec.upto repairTellsSpec)

end Rows
end Go.Proofs.YthlpognahlnaaaaGreat

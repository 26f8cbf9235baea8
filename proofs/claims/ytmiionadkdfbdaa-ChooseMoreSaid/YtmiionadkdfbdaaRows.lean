/-
  No cell of these rows narrows 'for every input' (looked for: loops, veiled, ifaces, maps, wideKeys, modest, calm, conditions, laid).
  DERIVED. THE GIVEN ROWS OF THIS SEAT. 5 by the template 'for every input the law returns true; each argument reads behind the call as it read before'; 0 by the template 'total and deterministic' (their statements: YtmiionadkdfbdaaTotals.lean).
  GIVEN WITH THE SEED: the statements are not yours to turn. If you find one false, say at which input.
  Laid BY PROGRAM, IN A SANDBOX (cutbox-rows.mjs): the forced cells as the released guide's own fill.sh prints them over the translation b64f7cc6c4e29184… (all of the seat's roots in one cut). By AI agents, Wed Nov 11 2026. No macro, syntax, notation, axiom, sorry.
-/
import Derived.Test.YtmiionadkdfbdaaChecked
import GoSem.Claim
import GoSem.ClaimJoined
import GoSem.ClaimMapViews
import Derived.JoinedTies
import Derived.KernelRfl
namespace Go.Proofs.Ytmiionadkdfbdaa
/- THE CELL 'sum', in the pinned program and in every row, IS THE sha256 OF THE DUMP (.gsa) THAT YtmiionadkdfbdaaProg.lean LOADS. Nothing in Lean hashes anything: it is a label: what it is worth is what the hold of that sum in a sandbox is worth. -/
noncomputable def Try.pinned : Pinned := { name := "ytmiionadkdfbdaa", sum := "b64f7cc6c4e29184990abac3d208e9bdb7b907e732b2a5019580786b7c326c6c", checked := Try.checked }
namespace Rows
def none {H : Type} : Left H := { results := [], args := [] }

/-- 'paddocklaw9.ChooseBest': WHATEVER THE INPUT: true; the input reads as it did. -/
def chooseBestSpec : ChangeSpec := { name := "chooseBest", fn := fun _ => fun
  | [d1, d2] => { results := [.lit (.bool true)], args := [d1, d2] }
  | _ => none }
def chooseBestRow : OpenClaim := { program := "ytmiionadkdfbdaa", sum := "b64f7cc6c4e29184990abac3d208e9bdb7b907e732b2a5019580786b7c326c6c", func := "paddock/paddocklaw9.ChooseBest", spec := "chooseBest", unfollowed := true, recurses := true, apart := false }
def ChooseBestSaid : Prop := chooseBestRow.holds Try.pinned (OpenSpec.ofChange chooseBestSpec)

/-- ITS FALSE NEIGHBOUR: 'it returns false'. Refute it at one input. -/
def chooseBestWrong : ChangeSpec := { name := "chooseBest", fn := fun _ => fun
  | [d1, d2] => { results := [.lit (.bool false)], args := [d1, d2] }
  | _ => none }
def ChooseBestWrongFalsely : Prop := chooseBestRow.holds Try.pinned (OpenSpec.ofChange chooseBestWrong)

/-- 'paddocklaw9.ChooseHears': WHATEVER THE INPUT: true; the input reads as it did. -/
def chooseHearsSpec : ChangeSpec := { name := "chooseHears", fn := fun _ => fun
  | [d1, d2, d3, d4] => { results := [.lit (.bool true)], args := [d1, d2, d3, d4] }
  | _ => none }
def chooseHearsRow : OpenClaim := { program := "ytmiionadkdfbdaa", sum := "b64f7cc6c4e29184990abac3d208e9bdb7b907e732b2a5019580786b7c326c6c", func := "paddock/paddocklaw9.ChooseHears", spec := "chooseHears", unfollowed := true, recurses := true, apart := false }
def ChooseHearsSaid : Prop := chooseHearsRow.holds Try.pinned (OpenSpec.ofChange chooseHearsSpec)

/-- ITS FALSE NEIGHBOUR: 'it returns false'. Refute it at one input. -/
def chooseHearsWrong : ChangeSpec := { name := "chooseHears", fn := fun _ => fun
  | [d1, d2, d3, d4] => { results := [.lit (.bool false)], args := [d1, d2, d3, d4] }
  | _ => none }
def ChooseHearsWrongFalsely : Prop := chooseHearsRow.holds Try.pinned (OpenSpec.ofChange chooseHearsWrong)

/-- 'paddocklaw9.ChooseFew': WHATEVER THE INPUT: true; the input reads as it did. -/
def chooseFewSpec : ChangeSpec := { name := "chooseFew", fn := fun _ => fun
  | [d1, d2] => { results := [.lit (.bool true)], args := [d1, d2] }
  | _ => none }
def chooseFewRow : OpenClaim := { program := "ytmiionadkdfbdaa", sum := "b64f7cc6c4e29184990abac3d208e9bdb7b907e732b2a5019580786b7c326c6c", func := "paddock/paddocklaw9.ChooseFew", spec := "chooseFew", unfollowed := true, recurses := true, apart := false }
def ChooseFewSaid : Prop := chooseFewRow.holds Try.pinned (OpenSpec.ofChange chooseFewSpec)

/-- ITS FALSE NEIGHBOUR: 'it returns false'. Refute it at one input. -/
def chooseFewWrong : ChangeSpec := { name := "chooseFew", fn := fun _ => fun
  | [d1, d2] => { results := [.lit (.bool false)], args := [d1, d2] }
  | _ => none }
def ChooseFewWrongFalsely : Prop := chooseFewRow.holds Try.pinned (OpenSpec.ofChange chooseFewWrong)

/-- 'paddocklaw9.ChooseMore': WHATEVER THE INPUT: true; the input reads as it did. -/
def chooseMoreSpec : ChangeSpec := { name := "chooseMore", fn := fun _ => fun
  | [d1, d2, d3, d4, d5] => { results := [.lit (.bool true)], args := [d1, d2, d3, d4, d5] }
  | _ => none }
def chooseMoreRow : OpenClaim := { program := "ytmiionadkdfbdaa", sum := "b64f7cc6c4e29184990abac3d208e9bdb7b907e732b2a5019580786b7c326c6c", func := "paddock/paddocklaw9.ChooseMore", spec := "chooseMore", unfollowed := true, recurses := true, apart := false }
def ChooseMoreSaid : Prop := chooseMoreRow.holds Try.pinned (OpenSpec.ofChange chooseMoreSpec)

/-- ITS FALSE NEIGHBOUR: 'it returns false'. Refute it at one input. -/
def chooseMoreWrong : ChangeSpec := { name := "chooseMore", fn := fun _ => fun
  | [d1, d2, d3, d4, d5] => { results := [.lit (.bool false)], args := [d1, d2, d3, d4, d5] }
  | _ => none }
def ChooseMoreWrongFalsely : Prop := chooseMoreRow.holds Try.pinned (OpenSpec.ofChange chooseMoreWrong)

/-- 'paddocklaw9.ChooseStarted': WHATEVER THE INPUT: true; the input reads as it did. -/
def chooseStartedSpec : ChangeSpec := { name := "chooseStarted", fn := fun _ => fun
  | [d1, d2] => { results := [.lit (.bool true)], args := [d1, d2] }
  | _ => none }
def chooseStartedRow : OpenClaim := { program := "ytmiionadkdfbdaa", sum := "b64f7cc6c4e29184990abac3d208e9bdb7b907e732b2a5019580786b7c326c6c", func := "paddock/paddocklaw9.ChooseStarted", spec := "chooseStarted", unfollowed := true, recurses := true, apart := false }
def ChooseStartedSaid : Prop := chooseStartedRow.holds Try.pinned (OpenSpec.ofChange chooseStartedSpec)

/-- ITS FALSE NEIGHBOUR: 'it returns false'. Refute it at one input. -/
def chooseStartedWrong : ChangeSpec := { name := "chooseStarted", fn := fun _ => fun
  | [d1, d2] => { results := [.lit (.bool false)], args := [d1, d2] }
  | _ => none }
def ChooseStartedWrongFalsely : Prop := chooseStartedRow.holds Try.pinned (OpenSpec.ofChange chooseStartedWrong)

/- THE SECOND FORM. 'bulk': how many values and letters a reading holds, each counted each time it is reached (what is shared counts as often as it is met; a slice's spare places count too). A statement '..UptoSaid' is the law's where the arguments, and the package variables that the reading takes, are together of bulk at most 1048576: NARROWER than '..Said'. Prove '..Said' where nothing that the law and all that it calls make is longer than what came in: it says more and counts as full. Else prove '..UptoSaid'. A law counts once. -/
mutual
def uptoBulk {H : Type} : DataW H → Nat
  | .lit (.string bytes) => bytes.length + 1
  | .lit _ => 1
  | .nil => 1
  | .ptr d => uptoBulk d + 1
  | .slice elems spare => uptoBulkAll elems + uptoBulkAll spare + 1
  | .agg parts => uptoBulkAll parts + 1
  | .iface _ d => uptoBulk d + 1
  | .map entries => uptoBulkEntries entries + 1
  | .held _ => 1
def uptoBulkAll {H : Type} : List (DataW H) → Nat
  | [] => 0
  | d :: r => uptoBulk d + uptoBulkAll r
def uptoBulkEntries {H : Type} : List (Lit × DataW H) → Nat
  | [] => 0
  | x :: r => uptoBulkEntry x + uptoBulkEntries r
def uptoBulkEntry {H : Type} : Lit × DataW H → Nat
  | (.string bytes, d) => bytes.length + uptoBulk d + 1
  | (_, d) => uptoBulk d + 1
 end
def uptoSmall : (H : Type) → List (DataW H) → Bool := fun _ ds => decide (uptoBulkAll ds ≤ 1048576)
def OpenSpec.upto (s : _root_.Go.ChangeSpec) : _root_.Go.OpenSpec := { _root_.Go.OpenSpec.ofChange s with cond := some uptoSmall }

/-- 'paddocklaw9.ChooseBest', WHERE WHAT IT READS IS OF BULK AT MOST 1048576: true; the input reads as it did. -/
def chooseBestUptoRow : OpenClaim := { program := "ytmiionadkdfbdaa", sum := "b64f7cc6c4e29184990abac3d208e9bdb7b907e732b2a5019580786b7c326c6c", func := "paddock/paddocklaw9.ChooseBest", spec := "chooseBest", unfollowed := true, recurses := true, apart := false, narrowed := true }
def ChooseBestUptoSaid : Prop := chooseBestUptoRow.holds Try.pinned (OpenSpec.upto chooseBestSpec)

/-- 'paddocklaw9.ChooseHears', WHERE WHAT IT READS IS OF BULK AT MOST 1048576: true; the input reads as it did. -/
def chooseHearsUptoRow : OpenClaim := { program := "ytmiionadkdfbdaa", sum := "b64f7cc6c4e29184990abac3d208e9bdb7b907e732b2a5019580786b7c326c6c", func := "paddock/paddocklaw9.ChooseHears", spec := "chooseHears", unfollowed := true, recurses := true, apart := false, narrowed := true }
def ChooseHearsUptoSaid : Prop := chooseHearsUptoRow.holds Try.pinned (OpenSpec.upto chooseHearsSpec)

/-- 'paddocklaw9.ChooseFew', WHERE WHAT IT READS IS OF BULK AT MOST 1048576: true; the input reads as it did. -/
def chooseFewUptoRow : OpenClaim := { program := "ytmiionadkdfbdaa", sum := "b64f7cc6c4e29184990abac3d208e9bdb7b907e732b2a5019580786b7c326c6c", func := "paddock/paddocklaw9.ChooseFew", spec := "chooseFew", unfollowed := true, recurses := true, apart := false, narrowed := true }
def ChooseFewUptoSaid : Prop := chooseFewUptoRow.holds Try.pinned (OpenSpec.upto chooseFewSpec)

/-- 'paddocklaw9.ChooseMore', WHERE WHAT IT READS IS OF BULK AT MOST 1048576: true; the input reads as it did. -/
def chooseMoreUptoRow : OpenClaim := { program := "ytmiionadkdfbdaa", sum := "b64f7cc6c4e29184990abac3d208e9bdb7b907e732b2a5019580786b7c326c6c", func := "paddock/paddocklaw9.ChooseMore", spec := "chooseMore", unfollowed := true, recurses := true, apart := false, narrowed := true }
def ChooseMoreUptoSaid : Prop := chooseMoreUptoRow.holds Try.pinned (OpenSpec.upto chooseMoreSpec)

/-- 'paddocklaw9.ChooseStarted', WHERE WHAT IT READS IS OF BULK AT MOST 1048576: true; the input reads as it did. -/
def chooseStartedUptoRow : OpenClaim := { program := "ytmiionadkdfbdaa", sum := "b64f7cc6c4e29184990abac3d208e9bdb7b907e732b2a5019580786b7c326c6c", func := "paddock/paddocklaw9.ChooseStarted", spec := "chooseStarted", unfollowed := true, recurses := true, apart := false, narrowed := true }
def ChooseStartedUptoSaid : Prop := chooseStartedUptoRow.holds Try.pinned (OpenSpec.upto chooseStartedSpec)

end Rows
end Go.Proofs.Ytmiionadkdfbdaa

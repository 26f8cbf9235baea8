/-
  No cell of these rows narrows 'for every input' (looked for: loops, veiled, ifaces, maps, wideKeys, modest, calm, conditions, laid).
  DERIVED. THE GIVEN ROWS OF THIS SEAT. 6 by the template 'for every input the law returns true; each argument reads behind the call as it read before'; 0 by the template 'total and deterministic' (their statements: YtclambdgbphfkaaTotals.lean).
  GIVEN WITH THE SEED: the statements are not yours to turn. If you find one false, say at which input.
  Laid BY PROGRAM, IN A SANDBOX (cutbox-rows.mjs): the forced cells as the released guide's own fill.sh prints them over the translation 10bc75880dfb7f6c… (all of the seat's roots in one cut). By AI agents, Wed Nov 11 2026. No macro, syntax, notation, axiom, sorry.
-/
import Derived.Test.YtclambdgbphfkaaChecked
import GoSem.Claim
import GoSem.ClaimJoined
import GoSem.ClaimMapViews
import Derived.JoinedTies
import Derived.KernelRfl
namespace Go.Proofs.Ytclambdgbphfkaa
/- THE CELL 'sum', in the pinned program and in every row, IS THE sha256 OF THE DUMP (.gsa) THAT YtclambdgbphfkaaProg.lean LOADS. Nothing in Lean hashes anything: it is a label: what it is worth is what the hold of that sum in a sandbox is worth. -/
noncomputable def Try.pinned : Pinned := { name := "ytclambdgbphfkaa", sum := "10bc75880dfb7f6ce8c8b97b99d15da370985ebebbbdaaae0347883ea7b9c813", checked := Try.checked }
namespace Rows
def none {H : Type} : Left H := { results := [], args := [] }

/-- 'paddocklaw6.ObjectsBytes': WHATEVER THE INPUT: true; the input reads as it did. -/
def objectsBytesSpec : ChangeSpec := { name := "objectsBytes", fn := fun _ => fun
  | [d] => { results := [.lit (.bool true)], args := [d] }
  | _ => none }
def objectsBytesRow : OpenClaim := { program := "ytclambdgbphfkaa", sum := "10bc75880dfb7f6ce8c8b97b99d15da370985ebebbbdaaae0347883ea7b9c813", func := "paddock/paddocklaw6.ObjectsBytes", spec := "objectsBytes", inPlace := ["internal/abi.NoEscape", "internal/bytealg.MakeNoZero"], unfollowed := true, recurses := true, apart := false }
def ObjectsBytesSaid : Prop := objectsBytesRow.holds Try.pinned (OpenSpec.ofChange objectsBytesSpec)

/-- ITS FALSE NEIGHBOUR: 'it returns false'. Refute it at one input. -/
def objectsBytesWrong : ChangeSpec := { name := "objectsBytes", fn := fun _ => fun
  | [d] => { results := [.lit (.bool false)], args := [d] }
  | _ => none }
def ObjectsBytesWrongFalsely : Prop := objectsBytesRow.holds Try.pinned (OpenSpec.ofChange objectsBytesWrong)

/-- 'paddocklaw6.ObjectsBounds': WHATEVER THE INPUT: true; the input reads as it did. -/
def objectsBoundsSpec : ChangeSpec := { name := "objectsBounds", fn := fun _ => fun
  | [d1, d2, d3] => { results := [.lit (.bool true)], args := [d1, d2, d3] }
  | _ => none }
def objectsBoundsRow : OpenClaim := { program := "ytclambdgbphfkaa", sum := "10bc75880dfb7f6ce8c8b97b99d15da370985ebebbbdaaae0347883ea7b9c813", func := "paddock/paddocklaw6.ObjectsBounds", spec := "objectsBounds", inPlace := ["internal/abi.NoEscape", "internal/bytealg.MakeNoZero"], unfollowed := true, recurses := true, apart := false }
def ObjectsBoundsSaid : Prop := objectsBoundsRow.holds Try.pinned (OpenSpec.ofChange objectsBoundsSpec)

/-- ITS FALSE NEIGHBOUR: 'it returns false'. Refute it at one input. -/
def objectsBoundsWrong : ChangeSpec := { name := "objectsBounds", fn := fun _ => fun
  | [d1, d2, d3] => { results := [.lit (.bool false)], args := [d1, d2, d3] }
  | _ => none }
def ObjectsBoundsWrongFalsely : Prop := objectsBoundsRow.holds Try.pinned (OpenSpec.ofChange objectsBoundsWrong)

/-- 'paddocklaw6.ObjectsAll': WHATEVER THE INPUT: true; the input reads as it did. -/
def objectsAllSpec : ChangeSpec := { name := "objectsAll", fn := fun _ => fun
  | [d] => { results := [.lit (.bool true)], args := [d] }
  | _ => none }
def objectsAllRow : OpenClaim := { program := "ytclambdgbphfkaa", sum := "10bc75880dfb7f6ce8c8b97b99d15da370985ebebbbdaaae0347883ea7b9c813", func := "paddock/paddocklaw6.ObjectsAll", spec := "objectsAll", inPlace := ["internal/abi.NoEscape", "internal/bytealg.MakeNoZero"], unfollowed := true, recurses := true, apart := false }
def ObjectsAllSaid : Prop := objectsAllRow.holds Try.pinned (OpenSpec.ofChange objectsAllSpec)

/-- ITS FALSE NEIGHBOUR: 'it returns false'. Refute it at one input. -/
def objectsAllWrong : ChangeSpec := { name := "objectsAll", fn := fun _ => fun
  | [d] => { results := [.lit (.bool false)], args := [d] }
  | _ => none }
def ObjectsAllWrongFalsely : Prop := objectsAllRow.holds Try.pinned (OpenSpec.ofChange objectsAllWrong)

/-- 'paddocklaw6.ObjectsTwice': WHATEVER THE INPUT: true; the input reads as it did. -/
def objectsTwiceSpec : ChangeSpec := { name := "objectsTwice", fn := fun _ => fun
  | [d1, d2] => { results := [.lit (.bool true)], args := [d1, d2] }
  | _ => none }
def objectsTwiceRow : OpenClaim := { program := "ytclambdgbphfkaa", sum := "10bc75880dfb7f6ce8c8b97b99d15da370985ebebbbdaaae0347883ea7b9c813", func := "paddock/paddocklaw6.ObjectsTwice", spec := "objectsTwice", inPlace := ["internal/abi.NoEscape", "internal/bytealg.MakeNoZero"], unfollowed := true, recurses := true, apart := false }
def ObjectsTwiceSaid : Prop := objectsTwiceRow.holds Try.pinned (OpenSpec.ofChange objectsTwiceSpec)

/-- ITS FALSE NEIGHBOUR: 'it returns false'. Refute it at one input. -/
def objectsTwiceWrong : ChangeSpec := { name := "objectsTwice", fn := fun _ => fun
  | [d1, d2] => { results := [.lit (.bool false)], args := [d1, d2] }
  | _ => none }
def ObjectsTwiceWrongFalsely : Prop := objectsTwiceRow.holds Try.pinned (OpenSpec.ofChange objectsTwiceWrong)

/-- 'paddocklaw6.ObjectsApart': WHATEVER THE INPUT: true; the input reads as it did. -/
def objectsApartSpec : ChangeSpec := { name := "objectsApart", fn := fun _ => fun
  | [d1, d2] => { results := [.lit (.bool true)], args := [d1, d2] }
  | _ => none }
def objectsApartRow : OpenClaim := { program := "ytclambdgbphfkaa", sum := "10bc75880dfb7f6ce8c8b97b99d15da370985ebebbbdaaae0347883ea7b9c813", func := "paddock/paddocklaw6.ObjectsApart", spec := "objectsApart", inPlace := ["internal/abi.NoEscape", "internal/bytealg.MakeNoZero"], unfollowed := true, recurses := true, apart := false }
def ObjectsApartSaid : Prop := objectsApartRow.holds Try.pinned (OpenSpec.ofChange objectsApartSpec)

/-- ITS FALSE NEIGHBOUR: 'it returns false'. Refute it at one input. -/
def objectsApartWrong : ChangeSpec := { name := "objectsApart", fn := fun _ => fun
  | [d1, d2] => { results := [.lit (.bool false)], args := [d1, d2] }
  | _ => none }
def ObjectsApartWrongFalsely : Prop := objectsApartRow.holds Try.pinned (OpenSpec.ofChange objectsApartWrong)

/-- 'paddocklaw6.ObjectsEither': WHATEVER THE INPUT: true; the input reads as it did. -/
def objectsEitherSpec : ChangeSpec := { name := "objectsEither", fn := fun _ => fun
  | [d1, d2, d3] => { results := [.lit (.bool true)], args := [d1, d2, d3] }
  | _ => none }
def objectsEitherRow : OpenClaim := { program := "ytclambdgbphfkaa", sum := "10bc75880dfb7f6ce8c8b97b99d15da370985ebebbbdaaae0347883ea7b9c813", func := "paddock/paddocklaw6.ObjectsEither", spec := "objectsEither", inPlace := ["internal/abi.NoEscape", "internal/bytealg.MakeNoZero"], unfollowed := true, recurses := true, apart := false }
def ObjectsEitherSaid : Prop := objectsEitherRow.holds Try.pinned (OpenSpec.ofChange objectsEitherSpec)

/-- ITS FALSE NEIGHBOUR: 'it returns false'. Refute it at one input. -/
def objectsEitherWrong : ChangeSpec := { name := "objectsEither", fn := fun _ => fun
  | [d1, d2, d3] => { results := [.lit (.bool false)], args := [d1, d2, d3] }
  | _ => none }
def ObjectsEitherWrongFalsely : Prop := objectsEitherRow.holds Try.pinned (OpenSpec.ofChange objectsEitherWrong)

/- THE SECOND FORM. 'bulk': how many values and letters a reading holds, each counted each time it is reached (what is shared counts as often as it is met; a slice's spare places count too). A statement '..UptoSaid' is the law's where the arguments, and the package variables that the reading takes, are together of bulk at most 1048576: NARROWER than '..Said'. Prove '..Said' where nothing that the law and all that it calls make is longer than what came in: it says more and counts as full. Else prove '..UptoSaid'. A law counts once. -/
mutual
def uptoBulk {H : Type} : DataW H → Nat
  | .lit (.string bytes) => bytes.length + 1
  | .lit _ => 1
  | .nil => 1
  | .ptr d => uptoBulk d + 1
  | .slice elems spare => uptoBulkAll elems + uptoBulkAll spare + 1
  | .agg parts => uptoBulkAll parts + 1
  | .iface _ d => uptoBulk d + 1
  | .map entries => uptoBulkEntries entries + 1
  | .held _ => 1
def uptoBulkAll {H : Type} : List (DataW H) → Nat
  | [] => 0
  | d :: r => uptoBulk d + uptoBulkAll r
def uptoBulkEntries {H : Type} : List (Lit × DataW H) → Nat
  | [] => 0
  | x :: r => uptoBulkEntry x + uptoBulkEntries r
def uptoBulkEntry {H : Type} : Lit × DataW H → Nat
  | (.string bytes, d) => bytes.length + uptoBulk d + 1
  | (_, d) => uptoBulk d + 1
 end
def uptoSmall : (H : Type) → List (DataW H) → Bool := fun _ ds => decide (uptoBulkAll ds ≤ 1048576)
def OpenSpec.upto (s : _root_.Go.ChangeSpec) : _root_.Go.OpenSpec := { _root_.Go.OpenSpec.ofChange s with cond := some uptoSmall }

/-- 'paddocklaw6.ObjectsBytes', WHERE WHAT IT READS IS OF BULK AT MOST 1048576: true; the input reads as it did. -/
def objectsBytesUptoRow : OpenClaim := { program := "ytclambdgbphfkaa", sum := "10bc75880dfb7f6ce8c8b97b99d15da370985ebebbbdaaae0347883ea7b9c813", func := "paddock/paddocklaw6.ObjectsBytes", spec := "objectsBytes", inPlace := ["internal/abi.NoEscape", "internal/bytealg.MakeNoZero"], unfollowed := true, recurses := true, apart := false, narrowed := true }
def ObjectsBytesUptoSaid : Prop := objectsBytesUptoRow.holds Try.pinned (OpenSpec.upto objectsBytesSpec)

/-- 'paddocklaw6.ObjectsBounds', WHERE WHAT IT READS IS OF BULK AT MOST 1048576: true; the input reads as it did. -/
def objectsBoundsUptoRow : OpenClaim := { program := "ytclambdgbphfkaa", sum := "10bc75880dfb7f6ce8c8b97b99d15da370985ebebbbdaaae0347883ea7b9c813", func := "paddock/paddocklaw6.ObjectsBounds", spec := "objectsBounds", inPlace := ["internal/abi.NoEscape", "internal/bytealg.MakeNoZero"], unfollowed := true, recurses := true, apart := false, narrowed := true }
def ObjectsBoundsUptoSaid : Prop := objectsBoundsUptoRow.holds Try.pinned (OpenSpec.upto objectsBoundsSpec)

/-- 'paddocklaw6.ObjectsAll', WHERE WHAT IT READS IS OF BULK AT MOST 1048576: true; the input reads as it did. -/
def objectsAllUptoRow : OpenClaim := { program := "ytclambdgbphfkaa", sum := "10bc75880dfb7f6ce8c8b97b99d15da370985ebebbbdaaae0347883ea7b9c813", func := "paddock/paddocklaw6.ObjectsAll", spec := "objectsAll", inPlace := ["internal/abi.NoEscape", "internal/bytealg.MakeNoZero"], unfollowed := true, recurses := true, apart := false, narrowed := true }
def ObjectsAllUptoSaid : Prop := objectsAllUptoRow.holds Try.pinned (OpenSpec.upto objectsAllSpec)

/-- 'paddocklaw6.ObjectsTwice', WHERE WHAT IT READS IS OF BULK AT MOST 1048576: true; the input reads as it did. -/
def objectsTwiceUptoRow : OpenClaim := { program := "ytclambdgbphfkaa", sum := "10bc75880dfb7f6ce8c8b97b99d15da370985ebebbbdaaae0347883ea7b9c813", func := "paddock/paddocklaw6.ObjectsTwice", spec := "objectsTwice", inPlace := ["internal/abi.NoEscape", "internal/bytealg.MakeNoZero"], unfollowed := true, recurses := true, apart := false, narrowed := true }
def ObjectsTwiceUptoSaid : Prop := objectsTwiceUptoRow.holds Try.pinned (OpenSpec.upto objectsTwiceSpec)

/-- 'paddocklaw6.ObjectsApart', WHERE WHAT IT READS IS OF BULK AT MOST 1048576: true; the input reads as it did. -/
def objectsApartUptoRow : OpenClaim := { program := "ytclambdgbphfkaa", sum := "10bc75880dfb7f6ce8c8b97b99d15da370985ebebbbdaaae0347883ea7b9c813", func := "paddock/paddocklaw6.ObjectsApart", spec := "objectsApart", inPlace := ["internal/abi.NoEscape", "internal/bytealg.MakeNoZero"], unfollowed := true, recurses := true, apart := false, narrowed := true }
def ObjectsApartUptoSaid : Prop := objectsApartUptoRow.holds Try.pinned (OpenSpec.upto objectsApartSpec)

/-- 'paddocklaw6.ObjectsEither', WHERE WHAT IT READS IS OF BULK AT MOST 1048576: true; the input reads as it did. -/
def objectsEitherUptoRow : OpenClaim := { program := "ytclambdgbphfkaa", sum := "10bc75880dfb7f6ce8c8b97b99d15da370985ebebbbdaaae0347883ea7b9c813", func := "paddock/paddocklaw6.ObjectsEither", spec := "objectsEither", inPlace := ["internal/abi.NoEscape", "internal/bytealg.MakeNoZero"], unfollowed := true, recurses := true, apart := false, narrowed := true }
def ObjectsEitherUptoSaid : Prop := objectsEitherUptoRow.holds Try.pinned (OpenSpec.upto objectsEitherSpec)

end Rows
end Go.Proofs.Ytclambdgbphfkaa

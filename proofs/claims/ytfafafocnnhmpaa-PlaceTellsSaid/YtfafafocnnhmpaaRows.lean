/-
  No cell of these rows narrows 'for every input' (looked for: loops, veiled, ifaces, maps, wideKeys, modest, calm, conditions, laid).
  DERIVED. THE GIVEN ROWS OF THIS SEAT. 8 by the template 'for every input the law returns true; each argument reads behind the call as it read before'; 0 by the template 'total and deterministic' (their statements: YtfafafocnnhmpaaTotals.lean).
  GIVEN WITH THE SEED: the statements are not yours to turn. If you find one false, say at which input.
  Laid BY PROGRAM, IN A SANDBOX (cutbox-rows.mjs): the forced cells as the released guide's own fill.sh prints them over the translation ad0d522f37c3c0ac… (all of the seat's roots in one cut). By AI agents, Wed Nov 11 2026. No macro, syntax, notation, axiom, sorry.
-/
import Derived.Test.YtfafafocnnhmpaaChecked
import GoSem.Claim
import GoSem.ClaimJoined
import GoSem.ClaimMapViews
import Derived.JoinedTies
import Derived.KernelRfl
namespace Go.Proofs.Ytfafafocnnhmpaa
/- THE CELL 'sum', in the pinned program and in every row, IS THE sha256 OF THE DUMP (.gsa) THAT YtfafafocnnhmpaaProg.lean LOADS. Nothing in Lean hashes anything: it is a label: what it is worth is what the hold of that sum in a sandbox is worth. -/
noncomputable def Try.pinned : Pinned := { name := "ytfafafocnnhmpaa", sum := "ad0d522f37c3c0ac4e759262458f4b94565454238f834db42f6b4615a01fefd4", checked := Try.checked }
namespace Rows
def none {H : Type} : Left H := { results := [], args := [] }

/-- 'paddocklaw4.PlaceRaw': WHATEVER THE INPUT: true; the input reads as it did. -/
def placeRawSpec : ChangeSpec := { name := "placeRaw", fn := fun _ => fun
  | [d1, d2] => { results := [.lit (.bool true)], args := [d1, d2] }
  | _ => none }
def placeRawRow : OpenClaim := { program := "ytfafafocnnhmpaa", sum := "ad0d522f37c3c0ac4e759262458f4b94565454238f834db42f6b4615a01fefd4", func := "paddock/paddocklaw4.PlaceRaw", spec := "placeRaw", unfollowed := true, recurses := true, apart := false }
def PlaceRawSaid : Prop := placeRawRow.holds Try.pinned (OpenSpec.ofChange placeRawSpec)

/-- ITS FALSE NEIGHBOUR: 'it returns false'. Refute it at one input. -/
def placeRawWrong : ChangeSpec := { name := "placeRaw", fn := fun _ => fun
  | [d1, d2] => { results := [.lit (.bool false)], args := [d1, d2] }
  | _ => none }
def PlaceRawWrongFalsely : Prop := placeRawRow.holds Try.pinned (OpenSpec.ofChange placeRawWrong)

/-- 'paddocklaw4.PlaceTells': WHATEVER THE INPUT: true; the input reads as it did. -/
def placeTellsSpec : ChangeSpec := { name := "placeTells", fn := fun _ => fun
  | [d1, d2, d3] => { results := [.lit (.bool true)], args := [d1, d2, d3] }
  | _ => none }
def placeTellsRow : OpenClaim := { program := "ytfafafocnnhmpaa", sum := "ad0d522f37c3c0ac4e759262458f4b94565454238f834db42f6b4615a01fefd4", func := "paddock/paddocklaw4.PlaceTells", spec := "placeTells", unfollowed := true, recurses := true, apart := false }
def PlaceTellsSaid : Prop := placeTellsRow.holds Try.pinned (OpenSpec.ofChange placeTellsSpec)

/-- ITS FALSE NEIGHBOUR: 'it returns false'. Refute it at one input. -/
def placeTellsWrong : ChangeSpec := { name := "placeTells", fn := fun _ => fun
  | [d1, d2, d3] => { results := [.lit (.bool false)], args := [d1, d2, d3] }
  | _ => none }
def PlaceTellsWrongFalsely : Prop := placeTellsRow.holds Try.pinned (OpenSpec.ofChange placeTellsWrong)

/-- 'paddocklaw4.PlaceApart': WHATEVER THE INPUT: true; the input reads as it did. -/
def placeApartSpec : ChangeSpec := { name := "placeApart", fn := fun _ => fun
  | [d1, d2] => { results := [.lit (.bool true)], args := [d1, d2] }
  | _ => none }
def placeApartRow : OpenClaim := { program := "ytfafafocnnhmpaa", sum := "ad0d522f37c3c0ac4e759262458f4b94565454238f834db42f6b4615a01fefd4", func := "paddock/paddocklaw4.PlaceApart", spec := "placeApart", unfollowed := true, recurses := true, apart := false }
def PlaceApartSaid : Prop := placeApartRow.holds Try.pinned (OpenSpec.ofChange placeApartSpec)

/-- ITS FALSE NEIGHBOUR: 'it returns false'. Refute it at one input. -/
def placeApartWrong : ChangeSpec := { name := "placeApart", fn := fun _ => fun
  | [d1, d2] => { results := [.lit (.bool false)], args := [d1, d2] }
  | _ => none }
def PlaceApartWrongFalsely : Prop := placeApartRow.holds Try.pinned (OpenSpec.ofChange placeApartWrong)

/-- 'paddocklaw4.PlaceStays': WHATEVER THE INPUT: true; the input reads as it did. -/
def placeStaysSpec : ChangeSpec := { name := "placeStays", fn := fun _ => fun
  | [d1, d2, d3, d4] => { results := [.lit (.bool true)], args := [d1, d2, d3, d4] }
  | _ => none }
def placeStaysRow : OpenClaim := { program := "ytfafafocnnhmpaa", sum := "ad0d522f37c3c0ac4e759262458f4b94565454238f834db42f6b4615a01fefd4", func := "paddock/paddocklaw4.PlaceStays", spec := "placeStays", unfollowed := true, recurses := true, apart := false }
def PlaceStaysSaid : Prop := placeStaysRow.holds Try.pinned (OpenSpec.ofChange placeStaysSpec)

/-- ITS FALSE NEIGHBOUR: 'it returns false'. Refute it at one input. -/
def placeStaysWrong : ChangeSpec := { name := "placeStays", fn := fun _ => fun
  | [d1, d2, d3, d4] => { results := [.lit (.bool false)], args := [d1, d2, d3, d4] }
  | _ => none }
def PlaceStaysWrongFalsely : Prop := placeStaysRow.holds Try.pinned (OpenSpec.ofChange placeStaysWrong)

/-- 'paddocklaw4.PlaceWeight': WHATEVER THE INPUT: true; the input reads as it did. -/
def placeWeightSpec : ChangeSpec := { name := "placeWeight", fn := fun _ => fun
  | [d1, d2, d3] => { results := [.lit (.bool true)], args := [d1, d2, d3] }
  | _ => none }
def placeWeightRow : OpenClaim := { program := "ytfafafocnnhmpaa", sum := "ad0d522f37c3c0ac4e759262458f4b94565454238f834db42f6b4615a01fefd4", func := "paddock/paddocklaw4.PlaceWeight", spec := "placeWeight", unfollowed := true, recurses := true, apart := false }
def PlaceWeightSaid : Prop := placeWeightRow.holds Try.pinned (OpenSpec.ofChange placeWeightSpec)

/-- ITS FALSE NEIGHBOUR: 'it returns false'. Refute it at one input. -/
def placeWeightWrong : ChangeSpec := { name := "placeWeight", fn := fun _ => fun
  | [d1, d2, d3] => { results := [.lit (.bool false)], args := [d1, d2, d3] }
  | _ => none }
def PlaceWeightWrongFalsely : Prop := placeWeightRow.holds Try.pinned (OpenSpec.ofChange placeWeightWrong)

/-- 'paddocklaw4.PlaceDown': WHATEVER THE INPUT: true; the input reads as it did. -/
def placeDownSpec : ChangeSpec := { name := "placeDown", fn := fun _ => fun
  | [d1, d2] => { results := [.lit (.bool true)], args := [d1, d2] }
  | _ => none }
def placeDownRow : OpenClaim := { program := "ytfafafocnnhmpaa", sum := "ad0d522f37c3c0ac4e759262458f4b94565454238f834db42f6b4615a01fefd4", func := "paddock/paddocklaw4.PlaceDown", spec := "placeDown", unfollowed := true, recurses := true, apart := false }
def PlaceDownSaid : Prop := placeDownRow.holds Try.pinned (OpenSpec.ofChange placeDownSpec)

/-- ITS FALSE NEIGHBOUR: 'it returns false'. Refute it at one input. -/
def placeDownWrong : ChangeSpec := { name := "placeDown", fn := fun _ => fun
  | [d1, d2] => { results := [.lit (.bool false)], args := [d1, d2] }
  | _ => none }
def PlaceDownWrongFalsely : Prop := placeDownRow.holds Try.pinned (OpenSpec.ofChange placeDownWrong)

/-- 'paddocklaw4.PlaceFew': WHATEVER THE INPUT: true; the input reads as it did. -/
def placeFewSpec : ChangeSpec := { name := "placeFew", fn := fun _ => fun
  | [d1, d2, d3] => { results := [.lit (.bool true)], args := [d1, d2, d3] }
  | _ => none }
def placeFewRow : OpenClaim := { program := "ytfafafocnnhmpaa", sum := "ad0d522f37c3c0ac4e759262458f4b94565454238f834db42f6b4615a01fefd4", func := "paddock/paddocklaw4.PlaceFew", spec := "placeFew", unfollowed := true, recurses := true, apart := false }
def PlaceFewSaid : Prop := placeFewRow.holds Try.pinned (OpenSpec.ofChange placeFewSpec)

/-- ITS FALSE NEIGHBOUR: 'it returns false'. Refute it at one input. -/
def placeFewWrong : ChangeSpec := { name := "placeFew", fn := fun _ => fun
  | [d1, d2, d3] => { results := [.lit (.bool false)], args := [d1, d2, d3] }
  | _ => none }
def PlaceFewWrongFalsely : Prop := placeFewRow.holds Try.pinned (OpenSpec.ofChange placeFewWrong)

/-- 'paddocklaw4.PlaceMoves': WHATEVER THE INPUT: true; the input reads as it did. -/
def placeMovesSpec : ChangeSpec := { name := "placeMoves", fn := fun _ => fun
  | [d1, d2] => { results := [.lit (.bool true)], args := [d1, d2] }
  | _ => none }
def placeMovesRow : OpenClaim := { program := "ytfafafocnnhmpaa", sum := "ad0d522f37c3c0ac4e759262458f4b94565454238f834db42f6b4615a01fefd4", func := "paddock/paddocklaw4.PlaceMoves", spec := "placeMoves", unfollowed := true, recurses := true, apart := false }
def PlaceMovesSaid : Prop := placeMovesRow.holds Try.pinned (OpenSpec.ofChange placeMovesSpec)

/-- ITS FALSE NEIGHBOUR: 'it returns false'. Refute it at one input. -/
def placeMovesWrong : ChangeSpec := { name := "placeMoves", fn := fun _ => fun
  | [d1, d2] => { results := [.lit (.bool false)], args := [d1, d2] }
  | _ => none }
def PlaceMovesWrongFalsely : Prop := placeMovesRow.holds Try.pinned (OpenSpec.ofChange placeMovesWrong)

/- THE SECOND FORM. 'bulk': how many values and letters a reading holds, each counted each time it is reached (what is shared counts as often as it is met; a slice's spare places count too). A statement '..UptoSaid' is the law's where the arguments, and the package variables that the reading takes, are together of bulk at most 1048576: NARROWER than '..Said'. Prove '..Said' where nothing that the law and all that it calls make is longer than what came in: it says more and counts as full. Else prove '..UptoSaid'. A law counts once. -/
mutual
def uptoBulk {H : Type} : DataW H → Nat
  | .lit (.string bytes) => bytes.length + 1
  | .lit _ => 1
  | .nil => 1
  | .ptr d => uptoBulk d + 1
  | .slice elems spare => uptoBulkAll elems + uptoBulkAll spare + 1
  | .agg parts => uptoBulkAll parts + 1
  | .iface _ d => uptoBulk d + 1
  | .map entries => uptoBulkEntries entries + 1
  | .held _ => 1
def uptoBulkAll {H : Type} : List (DataW H) → Nat
  | [] => 0
  | d :: r => uptoBulk d + uptoBulkAll r
def uptoBulkEntries {H : Type} : List (Lit × DataW H) → Nat
  | [] => 0
  | x :: r => uptoBulkEntry x + uptoBulkEntries r
def uptoBulkEntry {H : Type} : Lit × DataW H → Nat
  | (.string bytes, d) => bytes.length + uptoBulk d + 1
  | (_, d) => uptoBulk d + 1
 end
def uptoSmall : (H : Type) → List (DataW H) → Bool := fun _ ds => decide (uptoBulkAll ds ≤ 1048576)
def OpenSpec.upto (s : _root_.Go.ChangeSpec) : _root_.Go.OpenSpec := { _root_.Go.OpenSpec.ofChange s with cond := some uptoSmall }

/-- 'paddocklaw4.PlaceRaw', WHERE WHAT IT READS IS OF BULK AT MOST 1048576: true; the input reads as it did. -/
def placeRawUptoRow : OpenClaim := { program := "ytfafafocnnhmpaa", sum := "ad0d522f37c3c0ac4e759262458f4b94565454238f834db42f6b4615a01fefd4", func := "paddock/paddocklaw4.PlaceRaw", spec := "placeRaw", unfollowed := true, recurses := true, apart := false, narrowed := true }
def PlaceRawUptoSaid : Prop := placeRawUptoRow.holds Try.pinned (OpenSpec.upto placeRawSpec)

/-- 'paddocklaw4.PlaceTells', WHERE WHAT IT READS IS OF BULK AT MOST 1048576: true; the input reads as it did. -/
def placeTellsUptoRow : OpenClaim := { program := "ytfafafocnnhmpaa", sum := "ad0d522f37c3c0ac4e759262458f4b94565454238f834db42f6b4615a01fefd4", func := "paddock/paddocklaw4.PlaceTells", spec := "placeTells", unfollowed := true, recurses := true, apart := false, narrowed := true }
def PlaceTellsUptoSaid : Prop := placeTellsUptoRow.holds Try.pinned (OpenSpec.upto placeTellsSpec)

/-- 'paddocklaw4.PlaceApart', WHERE WHAT IT READS IS OF BULK AT MOST 1048576: true; the input reads as it did. -/
def placeApartUptoRow : OpenClaim := { program := "ytfafafocnnhmpaa", sum := "ad0d522f37c3c0ac4e759262458f4b94565454238f834db42f6b4615a01fefd4", func := "paddock/paddocklaw4.PlaceApart", spec := "placeApart", unfollowed := true, recurses := true, apart := false, narrowed := true }
def PlaceApartUptoSaid : Prop := placeApartUptoRow.holds Try.pinned (OpenSpec.upto placeApartSpec)

/-- 'paddocklaw4.PlaceStays', WHERE WHAT IT READS IS OF BULK AT MOST 1048576: true; the input reads as it did. -/
def placeStaysUptoRow : OpenClaim := { program := "ytfafafocnnhmpaa", sum := "ad0d522f37c3c0ac4e759262458f4b94565454238f834db42f6b4615a01fefd4", func := "paddock/paddocklaw4.PlaceStays", spec := "placeStays", unfollowed := true, recurses := true, apart := false, narrowed := true }
def PlaceStaysUptoSaid : Prop := placeStaysUptoRow.holds Try.pinned (OpenSpec.upto placeStaysSpec)

/-- 'paddocklaw4.PlaceWeight', WHERE WHAT IT READS IS OF BULK AT MOST 1048576: true; the input reads as it did. -/
def placeWeightUptoRow : OpenClaim := { program := "ytfafafocnnhmpaa", sum := "ad0d522f37c3c0ac4e759262458f4b94565454238f834db42f6b4615a01fefd4", func := "paddock/paddocklaw4.PlaceWeight", spec := "placeWeight", unfollowed := true, recurses := true, apart := false, narrowed := true }
def PlaceWeightUptoSaid : Prop := placeWeightUptoRow.holds Try.pinned (OpenSpec.upto placeWeightSpec)

/-- 'paddocklaw4.PlaceDown', WHERE WHAT IT READS IS OF BULK AT MOST 1048576: true; the input reads as it did. -/
def placeDownUptoRow : OpenClaim := { program := "ytfafafocnnhmpaa", sum := "ad0d522f37c3c0ac4e759262458f4b94565454238f834db42f6b4615a01fefd4", func := "paddock/paddocklaw4.PlaceDown", spec := "placeDown", unfollowed := true, recurses := true, apart := false, narrowed := true }
def PlaceDownUptoSaid : Prop := placeDownUptoRow.holds Try.pinned (OpenSpec.upto placeDownSpec)

/-- 'paddocklaw4.PlaceFew', WHERE WHAT IT READS IS OF BULK AT MOST 1048576: true; the input reads as it did. -/
def placeFewUptoRow : OpenClaim := { program := "ytfafafocnnhmpaa", sum := "ad0d522f37c3c0ac4e759262458f4b94565454238f834db42f6b4615a01fefd4", func := "paddock/paddocklaw4.PlaceFew", spec := "placeFew", unfollowed := true, recurses := true, apart := false, narrowed := true }
def PlaceFewUptoSaid : Prop := placeFewUptoRow.holds Try.pinned (OpenSpec.upto placeFewSpec)

/-- 'paddocklaw4.PlaceMoves', WHERE WHAT IT READS IS OF BULK AT MOST 1048576: true; the input reads as it did. -/
def placeMovesUptoRow : OpenClaim := { program := "ytfafafocnnhmpaa", sum := "ad0d522f37c3c0ac4e759262458f4b94565454238f834db42f6b4615a01fefd4", func := "paddock/paddocklaw4.PlaceMoves", spec := "placeMoves", unfollowed := true, recurses := true, apart := false, narrowed := true }
def PlaceMovesUptoSaid : Prop := placeMovesUptoRow.holds Try.pinned (OpenSpec.upto placeMovesSpec)

end Rows
end Go.Proofs.Ytfafafocnnhmpaa

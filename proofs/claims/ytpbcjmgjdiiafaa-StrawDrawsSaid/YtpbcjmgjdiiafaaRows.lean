/-
  No cell of these rows narrows 'for every input' (looked for: loops, veiled, ifaces, maps, wideKeys, modest, calm, conditions, laid).
  DERIVED. THE GIVEN ROWS OF THIS SEAT. 6 by the template 'for every input the law returns true; each argument reads behind the call as it read before'; 0 by the template 'total and deterministic' (their statements: YtpbcjmgjdiiafaaTotals.lean).
  GIVEN WITH THE SEED: the statements are not yours to turn. If you find one false, say at which input.
  Laid BY PROGRAM, IN A SANDBOX (cutbox-rows.mjs): the forced cells as the released guide's own fill.sh prints them over the translation 8aee3231e3fedd97… (all of the seat's roots in one cut). By AI agents, Wed Nov 11 2026. No macro, syntax, notation, axiom, sorry.
-/
import Derived.Test.YtpbcjmgjdiiafaaChecked
import GoSem.Claim
import GoSem.ClaimJoined
import GoSem.ClaimMapViews
import Derived.JoinedTies
import Derived.KernelRfl
namespace Go.Proofs.Ytpbcjmgjdiiafaa
/- THE CELL 'sum', in the pinned program and in every row, IS THE sha256 OF THE DUMP (.gsa) THAT YtpbcjmgjdiiafaaProg.lean LOADS. Nothing in Lean hashes anything: it is a label: what it is worth is what the hold of that sum in a sandbox is worth. -/
noncomputable def Try.pinned : Pinned := { name := "ytpbcjmgjdiiafaa", sum := "8aee3231e3fedd974b49c4c96165c3b0ee7b0f04b4ab85a5c3aca3dd8e34cd91", checked := Try.checked }
namespace Rows
def none {H : Type} : Left H := { results := [], args := [] }

/-- 'paddocklaw2.StrawGrows': WHATEVER THE INPUT: true; the input reads as it did. -/
def strawGrowsSpec : ChangeSpec := { name := "strawGrows", fn := fun _ => fun
  | [d1, d2, d3] => { results := [.lit (.bool true)], args := [d1, d2, d3] }
  | _ => none }
def strawGrowsRow : OpenClaim := { program := "ytpbcjmgjdiiafaa", sum := "8aee3231e3fedd974b49c4c96165c3b0ee7b0f04b4ab85a5c3aca3dd8e34cd91", func := "paddock/paddocklaw2.StrawGrows", spec := "strawGrows", unfollowed := true, recurses := true, apart := false }
def StrawGrowsSaid : Prop := strawGrowsRow.holds Try.pinned (OpenSpec.ofChange strawGrowsSpec)

/-- ITS FALSE NEIGHBOUR: 'it returns false'. Refute it at one input. -/
def strawGrowsWrong : ChangeSpec := { name := "strawGrows", fn := fun _ => fun
  | [d1, d2, d3] => { results := [.lit (.bool false)], args := [d1, d2, d3] }
  | _ => none }
def StrawGrowsWrongFalsely : Prop := strawGrowsRow.holds Try.pinned (OpenSpec.ofChange strawGrowsWrong)

/-- 'paddocklaw2.StrawBest': WHATEVER THE INPUT: true; the input reads as it did. -/
def strawBestSpec : ChangeSpec := { name := "strawBest", fn := fun _ => fun
  | [d] => { results := [.lit (.bool true)], args := [d] }
  | _ => none }
def strawBestRow : OpenClaim := { program := "ytpbcjmgjdiiafaa", sum := "8aee3231e3fedd974b49c4c96165c3b0ee7b0f04b4ab85a5c3aca3dd8e34cd91", func := "paddock/paddocklaw2.StrawBest", spec := "strawBest", unfollowed := true, recurses := true, apart := false }
def StrawBestSaid : Prop := strawBestRow.holds Try.pinned (OpenSpec.ofChange strawBestSpec)

/-- ITS FALSE NEIGHBOUR: 'it returns false'. Refute it at one input. -/
def strawBestWrong : ChangeSpec := { name := "strawBest", fn := fun _ => fun
  | [d] => { results := [.lit (.bool false)], args := [d] }
  | _ => none }
def StrawBestWrongFalsely : Prop := strawBestRow.holds Try.pinned (OpenSpec.ofChange strawBestWrong)

/-- 'paddocklaw2.StrawSpans': WHATEVER THE INPUT: true; the input reads as it did. -/
def strawSpansSpec : ChangeSpec := { name := "strawSpans", fn := fun _ => fun
  | [d1, d2] => { results := [.lit (.bool true)], args := [d1, d2] }
  | _ => none }
def strawSpansRow : OpenClaim := { program := "ytpbcjmgjdiiafaa", sum := "8aee3231e3fedd974b49c4c96165c3b0ee7b0f04b4ab85a5c3aca3dd8e34cd91", func := "paddock/paddocklaw2.StrawSpans", spec := "strawSpans", unfollowed := true, recurses := true, apart := false }
def StrawSpansSaid : Prop := strawSpansRow.holds Try.pinned (OpenSpec.ofChange strawSpansSpec)

/-- ITS FALSE NEIGHBOUR: 'it returns false'. Refute it at one input. -/
def strawSpansWrong : ChangeSpec := { name := "strawSpans", fn := fun _ => fun
  | [d1, d2] => { results := [.lit (.bool false)], args := [d1, d2] }
  | _ => none }
def StrawSpansWrongFalsely : Prop := strawSpansRow.holds Try.pinned (OpenSpec.ofChange strawSpansWrong)

/-- 'paddocklaw2.StrawTells': WHATEVER THE INPUT: true; the input reads as it did. -/
def strawTellsSpec : ChangeSpec := { name := "strawTells", fn := fun _ => fun
  | [d1, d2, d3, d4, d5, d6] => { results := [.lit (.bool true)], args := [d1, d2, d3, d4, d5, d6] }
  | _ => none }
def strawTellsRow : OpenClaim := { program := "ytpbcjmgjdiiafaa", sum := "8aee3231e3fedd974b49c4c96165c3b0ee7b0f04b4ab85a5c3aca3dd8e34cd91", func := "paddock/paddocklaw2.StrawTells", spec := "strawTells", unfollowed := true, recurses := true, apart := false }
def StrawTellsSaid : Prop := strawTellsRow.holds Try.pinned (OpenSpec.ofChange strawTellsSpec)

/-- ITS FALSE NEIGHBOUR: 'it returns false'. Refute it at one input. -/
def strawTellsWrong : ChangeSpec := { name := "strawTells", fn := fun _ => fun
  | [d1, d2, d3, d4, d5, d6] => { results := [.lit (.bool false)], args := [d1, d2, d3, d4, d5, d6] }
  | _ => none }
def StrawTellsWrongFalsely : Prop := strawTellsRow.holds Try.pinned (OpenSpec.ofChange strawTellsWrong)

/-- 'paddocklaw2.StrawWeighs': WHATEVER THE INPUT: true; the input reads as it did. -/
def strawWeighsSpec : ChangeSpec := { name := "strawWeighs", fn := fun _ => fun
  | [d1, d2, d3] => { results := [.lit (.bool true)], args := [d1, d2, d3] }
  | _ => none }
def strawWeighsRow : OpenClaim := { program := "ytpbcjmgjdiiafaa", sum := "8aee3231e3fedd974b49c4c96165c3b0ee7b0f04b4ab85a5c3aca3dd8e34cd91", func := "paddock/paddocklaw2.StrawWeighs", spec := "strawWeighs", unfollowed := true, recurses := true, apart := false }
def StrawWeighsSaid : Prop := strawWeighsRow.holds Try.pinned (OpenSpec.ofChange strawWeighsSpec)

/-- ITS FALSE NEIGHBOUR: 'it returns false'. Refute it at one input. -/
def strawWeighsWrong : ChangeSpec := { name := "strawWeighs", fn := fun _ => fun
  | [d1, d2, d3] => { results := [.lit (.bool false)], args := [d1, d2, d3] }
  | _ => none }
def StrawWeighsWrongFalsely : Prop := strawWeighsRow.holds Try.pinned (OpenSpec.ofChange strawWeighsWrong)

/-- 'paddocklaw2.StrawDraws': WHATEVER THE INPUT: true; the input reads as it did. -/
def strawDrawsSpec : ChangeSpec := { name := "strawDraws", fn := fun _ => fun
  | [d1, d2, d3] => { results := [.lit (.bool true)], args := [d1, d2, d3] }
  | _ => none }
def strawDrawsRow : OpenClaim := { program := "ytpbcjmgjdiiafaa", sum := "8aee3231e3fedd974b49c4c96165c3b0ee7b0f04b4ab85a5c3aca3dd8e34cd91", func := "paddock/paddocklaw2.StrawDraws", spec := "strawDraws", unfollowed := true, recurses := true, apart := false }
def StrawDrawsSaid : Prop := strawDrawsRow.holds Try.pinned (OpenSpec.ofChange strawDrawsSpec)

/-- ITS FALSE NEIGHBOUR: 'it returns false'. Refute it at one input. -/
def strawDrawsWrong : ChangeSpec := { name := "strawDraws", fn := fun _ => fun
  | [d1, d2, d3] => { results := [.lit (.bool false)], args := [d1, d2, d3] }
  | _ => none }
def StrawDrawsWrongFalsely : Prop := strawDrawsRow.holds Try.pinned (OpenSpec.ofChange strawDrawsWrong)

/- THE SECOND FORM. 'bulk': how many values and letters a reading holds, each counted each time it is reached (what is shared counts as often as it is met; a slice's spare places count too). A statement '..UptoSaid' is the law's where the arguments, and the package variables that the reading takes, are together of bulk at most 1048576: NARROWER than '..Said'. Prove '..Said' where nothing that the law and all that it calls make is longer than what came in: it says more and counts as full. Else prove '..UptoSaid'. A law counts once. -/
mutual
def uptoBulk {H : Type} : DataW H → Nat
  | .lit (.string bytes) => bytes.length + 1
  | .lit _ => 1
  | .nil => 1
  | .ptr d => uptoBulk d + 1
  | .slice elems spare => uptoBulkAll elems + uptoBulkAll spare + 1
  | .agg parts => uptoBulkAll parts + 1
  | .iface _ d => uptoBulk d + 1
  | .map entries => uptoBulkEntries entries + 1
  | .held _ => 1
def uptoBulkAll {H : Type} : List (DataW H) → Nat
  | [] => 0
  | d :: r => uptoBulk d + uptoBulkAll r
def uptoBulkEntries {H : Type} : List (Lit × DataW H) → Nat
  | [] => 0
  | x :: r => uptoBulkEntry x + uptoBulkEntries r
def uptoBulkEntry {H : Type} : Lit × DataW H → Nat
  | (.string bytes, d) => bytes.length + uptoBulk d + 1
  | (_, d) => uptoBulk d + 1
 end
def uptoSmall : (H : Type) → List (DataW H) → Bool := fun _ ds => decide (uptoBulkAll ds ≤ 1048576)
def OpenSpec.upto (s : _root_.Go.ChangeSpec) : _root_.Go.OpenSpec := { _root_.Go.OpenSpec.ofChange s with cond := some uptoSmall }

/-- 'paddocklaw2.StrawGrows', WHERE WHAT IT READS IS OF BULK AT MOST 1048576: true; the input reads as it did. -/
def strawGrowsUptoRow : OpenClaim := { program := "ytpbcjmgjdiiafaa", sum := "8aee3231e3fedd974b49c4c96165c3b0ee7b0f04b4ab85a5c3aca3dd8e34cd91", func := "paddock/paddocklaw2.StrawGrows", spec := "strawGrows", unfollowed := true, recurses := true, apart := false, narrowed := true }
def StrawGrowsUptoSaid : Prop := strawGrowsUptoRow.holds Try.pinned (OpenSpec.upto strawGrowsSpec)

/-- 'paddocklaw2.StrawBest', WHERE WHAT IT READS IS OF BULK AT MOST 1048576: true; the input reads as it did. -/
def strawBestUptoRow : OpenClaim := { program := "ytpbcjmgjdiiafaa", sum := "8aee3231e3fedd974b49c4c96165c3b0ee7b0f04b4ab85a5c3aca3dd8e34cd91", func := "paddock/paddocklaw2.StrawBest", spec := "strawBest", unfollowed := true, recurses := true, apart := false, narrowed := true }
def StrawBestUptoSaid : Prop := strawBestUptoRow.holds Try.pinned (OpenSpec.upto strawBestSpec)

/-- 'paddocklaw2.StrawSpans', WHERE WHAT IT READS IS OF BULK AT MOST 1048576: true; the input reads as it did. -/
def strawSpansUptoRow : OpenClaim := { program := "ytpbcjmgjdiiafaa", sum := "8aee3231e3fedd974b49c4c96165c3b0ee7b0f04b4ab85a5c3aca3dd8e34cd91", func := "paddock/paddocklaw2.StrawSpans", spec := "strawSpans", unfollowed := true, recurses := true, apart := false, narrowed := true }
def StrawSpansUptoSaid : Prop := strawSpansUptoRow.holds Try.pinned (OpenSpec.upto strawSpansSpec)

/-- 'paddocklaw2.StrawTells', WHERE WHAT IT READS IS OF BULK AT MOST 1048576: true; the input reads as it did. -/
def strawTellsUptoRow : OpenClaim := { program := "ytpbcjmgjdiiafaa", sum := "8aee3231e3fedd974b49c4c96165c3b0ee7b0f04b4ab85a5c3aca3dd8e34cd91", func := "paddock/paddocklaw2.StrawTells", spec := "strawTells", unfollowed := true, recurses := true, apart := false, narrowed := true }
def StrawTellsUptoSaid : Prop := strawTellsUptoRow.holds Try.pinned (OpenSpec.upto strawTellsSpec)

/-- 'paddocklaw2.StrawWeighs', WHERE WHAT IT READS IS OF BULK AT MOST 1048576: true; the input reads as it did. -/
def strawWeighsUptoRow : OpenClaim := { program := "ytpbcjmgjdiiafaa", sum := "8aee3231e3fedd974b49c4c96165c3b0ee7b0f04b4ab85a5c3aca3dd8e34cd91", func := "paddock/paddocklaw2.StrawWeighs", spec := "strawWeighs", unfollowed := true, recurses := true, apart := false, narrowed := true }
def StrawWeighsUptoSaid : Prop := strawWeighsUptoRow.holds Try.pinned (OpenSpec.upto strawWeighsSpec)

/-- 'paddocklaw2.StrawDraws', WHERE WHAT IT READS IS OF BULK AT MOST 1048576: true; the input reads as it did. -/
def strawDrawsUptoRow : OpenClaim := { program := "ytpbcjmgjdiiafaa", sum := "8aee3231e3fedd974b49c4c96165c3b0ee7b0f04b4ab85a5c3aca3dd8e34cd91", func := "paddock/paddocklaw2.StrawDraws", spec := "strawDraws", unfollowed := true, recurses := true, apart := false, narrowed := true }
def StrawDrawsUptoSaid : Prop := strawDrawsUptoRow.holds Try.pinned (OpenSpec.upto strawDrawsSpec)

end Rows
end Go.Proofs.Ytpbcjmgjdiiafaa

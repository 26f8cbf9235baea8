/-
  No cell of these rows narrows 'for every input' (looked for: loops, veiled, ifaces, maps, wideKeys, modest, calm, conditions, laid).
  DERIVED. THE GIVEN ROWS OF THIS SEAT. 7 by the template 'for every input the law returns true; each argument reads behind the call as it read before'; 0 by the template 'total and deterministic' (their statements: YtckaebcljcpobaaTotals.lean).
  GIVEN WITH THE SEED: the statements are not yours to turn. If you find one false, say at which input.
  Laid BY PROGRAM, IN A SANDBOX (cutbox-rows.mjs): the forced cells as the released guide's own fill.sh prints them over the translation 7cb685bb39002908… (all of the seat's roots in one cut). By AI agents, Wed Nov 11 2026. No macro, syntax, notation, axiom, sorry.
-/
import Derived.Test.YtckaebcljcpobaaChecked
import GoSem.Claim
import GoSem.ClaimJoined
import GoSem.ClaimMapViews
import Derived.JoinedTies
import Derived.KernelRfl
namespace Go.Proofs.Ytckaebcljcpobaa
/- THE CELL 'sum', in the pinned program and in every row, IS THE sha256 OF THE DUMP (.gsa) THAT YtckaebcljcpobaaProg.lean LOADS. Nothing in Lean hashes anything: it is a label: what it is worth is what the hold of that sum in a sandbox is worth. -/
noncomputable def Try.pinned : Pinned := { name := "ytckaebcljcpobaa", sum := "7cb685bb39002908ba661d1abdec142a5060c93efe2a9f7378f24c24f3673c5e", checked := Try.checked }
namespace Rows
def none {H : Type} : Left H := { results := [], args := [] }

/-- 'paddocklaw5.HistoryCuts': WHATEVER THE INPUT: true; the input reads as it did. -/
def historyCutsSpec : ChangeSpec := { name := "historyCuts", fn := fun _ => fun
  | [d1, d2] => { results := [.lit (.bool true)], args := [d1, d2] }
  | _ => none }
def historyCutsRow : OpenClaim := { program := "ytckaebcljcpobaa", sum := "7cb685bb39002908ba661d1abdec142a5060c93efe2a9f7378f24c24f3673c5e", func := "paddock/paddocklaw5.HistoryCuts", spec := "historyCuts", unfollowed := true, recurses := true, apart := false }
def HistoryCutsSaid : Prop := historyCutsRow.holds Try.pinned (OpenSpec.ofChange historyCutsSpec)

/-- ITS FALSE NEIGHBOUR: 'it returns false'. Refute it at one input. -/
def historyCutsWrong : ChangeSpec := { name := "historyCuts", fn := fun _ => fun
  | [d1, d2] => { results := [.lit (.bool false)], args := [d1, d2] }
  | _ => none }
def HistoryCutsWrongFalsely : Prop := historyCutsRow.holds Try.pinned (OpenSpec.ofChange historyCutsWrong)

/-- 'paddocklaw5.HistoryFull': WHATEVER THE INPUT: true; the input reads as it did. -/
def historyFullSpec : ChangeSpec := { name := "historyFull", fn := fun _ => fun
  | [d] => { results := [.lit (.bool true)], args := [d] }
  | _ => none }
def historyFullRow : OpenClaim := { program := "ytckaebcljcpobaa", sum := "7cb685bb39002908ba661d1abdec142a5060c93efe2a9f7378f24c24f3673c5e", func := "paddock/paddocklaw5.HistoryFull", spec := "historyFull", unfollowed := true, recurses := true, apart := false }
def HistoryFullSaid : Prop := historyFullRow.holds Try.pinned (OpenSpec.ofChange historyFullSpec)

/-- ITS FALSE NEIGHBOUR: 'it returns false'. Refute it at one input. -/
def historyFullWrong : ChangeSpec := { name := "historyFull", fn := fun _ => fun
  | [d] => { results := [.lit (.bool false)], args := [d] }
  | _ => none }
def HistoryFullWrongFalsely : Prop := historyFullRow.holds Try.pinned (OpenSpec.ofChange historyFullWrong)

/-- 'paddocklaw5.HistoryDown': WHATEVER THE INPUT: true; the input reads as it did. -/
def historyDownSpec : ChangeSpec := { name := "historyDown", fn := fun _ => fun
  | [d1, d2] => { results := [.lit (.bool true)], args := [d1, d2] }
  | _ => none }
def historyDownRow : OpenClaim := { program := "ytckaebcljcpobaa", sum := "7cb685bb39002908ba661d1abdec142a5060c93efe2a9f7378f24c24f3673c5e", func := "paddock/paddocklaw5.HistoryDown", spec := "historyDown", unfollowed := true, recurses := true, apart := false }
def HistoryDownSaid : Prop := historyDownRow.holds Try.pinned (OpenSpec.ofChange historyDownSpec)

/-- ITS FALSE NEIGHBOUR: 'it returns false'. Refute it at one input. -/
def historyDownWrong : ChangeSpec := { name := "historyDown", fn := fun _ => fun
  | [d1, d2] => { results := [.lit (.bool false)], args := [d1, d2] }
  | _ => none }
def HistoryDownWrongFalsely : Prop := historyDownRow.holds Try.pinned (OpenSpec.ofChange historyDownWrong)

/-- 'paddocklaw5.HistoryMaps': WHATEVER THE INPUT: true; the input reads as it did. -/
def historyMapsSpec : ChangeSpec := { name := "historyMaps", fn := fun _ => fun
  | [d1, d2] => { results := [.lit (.bool true)], args := [d1, d2] }
  | _ => none }
def historyMapsRow : OpenClaim := { program := "ytckaebcljcpobaa", sum := "7cb685bb39002908ba661d1abdec142a5060c93efe2a9f7378f24c24f3673c5e", func := "paddock/paddocklaw5.HistoryMaps", spec := "historyMaps", unfollowed := true, recurses := true, apart := false }
def HistoryMapsSaid : Prop := historyMapsRow.holds Try.pinned (OpenSpec.ofChange historyMapsSpec)

/-- ITS FALSE NEIGHBOUR: 'it returns false'. Refute it at one input. -/
def historyMapsWrong : ChangeSpec := { name := "historyMaps", fn := fun _ => fun
  | [d1, d2] => { results := [.lit (.bool false)], args := [d1, d2] }
  | _ => none }
def HistoryMapsWrongFalsely : Prop := historyMapsRow.holds Try.pinned (OpenSpec.ofChange historyMapsWrong)

/-- 'paddocklaw5.HistorySame': WHATEVER THE INPUT: true; the input reads as it did. -/
def historySameSpec : ChangeSpec := { name := "historySame", fn := fun _ => fun
  | [d1, d2] => { results := [.lit (.bool true)], args := [d1, d2] }
  | _ => none }
def historySameRow : OpenClaim := { program := "ytckaebcljcpobaa", sum := "7cb685bb39002908ba661d1abdec142a5060c93efe2a9f7378f24c24f3673c5e", func := "paddock/paddocklaw5.HistorySame", spec := "historySame", unfollowed := true, recurses := true, apart := false }
def HistorySameSaid : Prop := historySameRow.holds Try.pinned (OpenSpec.ofChange historySameSpec)

/-- ITS FALSE NEIGHBOUR: 'it returns false'. Refute it at one input. -/
def historySameWrong : ChangeSpec := { name := "historySame", fn := fun _ => fun
  | [d1, d2] => { results := [.lit (.bool false)], args := [d1, d2] }
  | _ => none }
def HistorySameWrongFalsely : Prop := historySameRow.holds Try.pinned (OpenSpec.ofChange historySameWrong)

/-- 'paddocklaw5.HistoryCopies': WHATEVER THE INPUT: true; the input reads as it did. -/
def historyCopiesSpec : ChangeSpec := { name := "historyCopies", fn := fun _ => fun
  | [d1, d2] => { results := [.lit (.bool true)], args := [d1, d2] }
  | _ => none }
def historyCopiesRow : OpenClaim := { program := "ytckaebcljcpobaa", sum := "7cb685bb39002908ba661d1abdec142a5060c93efe2a9f7378f24c24f3673c5e", func := "paddock/paddocklaw5.HistoryCopies", spec := "historyCopies", inPlace := ["maps.clone"], unfollowed := true, recurses := true, apart := false }
def HistoryCopiesSaid : Prop := historyCopiesRow.holds Try.pinned (OpenSpec.ofChange historyCopiesSpec)

/-- ITS FALSE NEIGHBOUR: 'it returns false'. Refute it at one input. -/
def historyCopiesWrong : ChangeSpec := { name := "historyCopies", fn := fun _ => fun
  | [d1, d2] => { results := [.lit (.bool false)], args := [d1, d2] }
  | _ => none }
def HistoryCopiesWrongFalsely : Prop := historyCopiesRow.holds Try.pinned (OpenSpec.ofChange historyCopiesWrong)

/-- 'paddocklaw5.HistoryPlays': WHATEVER THE INPUT: true; the input reads as it did. -/
def historyPlaysSpec : ChangeSpec := { name := "historyPlays", fn := fun _ => fun
  | [d1, d2, d3] => { results := [.lit (.bool true)], args := [d1, d2, d3] }
  | _ => none }
def historyPlaysRow : OpenClaim := { program := "ytckaebcljcpobaa", sum := "7cb685bb39002908ba661d1abdec142a5060c93efe2a9f7378f24c24f3673c5e", func := "paddock/paddocklaw5.HistoryPlays", spec := "historyPlays", inPlace := ["maps.clone"], unfollowed := true, recurses := true, apart := false }
def HistoryPlaysSaid : Prop := historyPlaysRow.holds Try.pinned (OpenSpec.ofChange historyPlaysSpec)

/-- ITS FALSE NEIGHBOUR: 'it returns false'. Refute it at one input. -/
def historyPlaysWrong : ChangeSpec := { name := "historyPlays", fn := fun _ => fun
  | [d1, d2, d3] => { results := [.lit (.bool false)], args := [d1, d2, d3] }
  | _ => none }
def HistoryPlaysWrongFalsely : Prop := historyPlaysRow.holds Try.pinned (OpenSpec.ofChange historyPlaysWrong)

/- THE SECOND FORM. 'bulk': how many values and letters a reading holds, each counted each time it is reached (what is shared counts as often as it is met; a slice's spare places count too). A statement '..UptoSaid' is the law's where the arguments, and the package variables that the reading takes, are together of bulk at most 1048576: NARROWER than '..Said'. Prove '..Said' where nothing that the law and all that it calls make is longer than what came in: it says more and counts as full. Else prove '..UptoSaid'. A law counts once. -/
mutual
def uptoBulk {H : Type} : DataW H → Nat
  | .lit (.string bytes) => bytes.length + 1
  | .lit _ => 1
  | .nil => 1
  | .ptr d => uptoBulk d + 1
  | .slice elems spare => uptoBulkAll elems + uptoBulkAll spare + 1
  | .agg parts => uptoBulkAll parts + 1
  | .iface _ d => uptoBulk d + 1
  | .map entries => uptoBulkEntries entries + 1
  | .held _ => 1
def uptoBulkAll {H : Type} : List (DataW H) → Nat
  | [] => 0
  | d :: r => uptoBulk d + uptoBulkAll r
def uptoBulkEntries {H : Type} : List (Lit × DataW H) → Nat
  | [] => 0
  | x :: r => uptoBulkEntry x + uptoBulkEntries r
def uptoBulkEntry {H : Type} : Lit × DataW H → Nat
  | (.string bytes, d) => bytes.length + uptoBulk d + 1
  | (_, d) => uptoBulk d + 1
 end
def uptoSmall : (H : Type) → List (DataW H) → Bool := fun _ ds => decide (uptoBulkAll ds ≤ 1048576)
def OpenSpec.upto (s : _root_.Go.ChangeSpec) : _root_.Go.OpenSpec := { _root_.Go.OpenSpec.ofChange s with cond := some uptoSmall }

/-- 'paddocklaw5.HistoryCuts', WHERE WHAT IT READS IS OF BULK AT MOST 1048576: true; the input reads as it did. -/
def historyCutsUptoRow : OpenClaim := { program := "ytckaebcljcpobaa", sum := "7cb685bb39002908ba661d1abdec142a5060c93efe2a9f7378f24c24f3673c5e", func := "paddock/paddocklaw5.HistoryCuts", spec := "historyCuts", unfollowed := true, recurses := true, apart := false, narrowed := true }
def HistoryCutsUptoSaid : Prop := historyCutsUptoRow.holds Try.pinned (OpenSpec.upto historyCutsSpec)

/-- 'paddocklaw5.HistoryFull', WHERE WHAT IT READS IS OF BULK AT MOST 1048576: true; the input reads as it did. -/
def historyFullUptoRow : OpenClaim := { program := "ytckaebcljcpobaa", sum := "7cb685bb39002908ba661d1abdec142a5060c93efe2a9f7378f24c24f3673c5e", func := "paddock/paddocklaw5.HistoryFull", spec := "historyFull", unfollowed := true, recurses := true, apart := false, narrowed := true }
def HistoryFullUptoSaid : Prop := historyFullUptoRow.holds Try.pinned (OpenSpec.upto historyFullSpec)

/-- 'paddocklaw5.HistoryDown', WHERE WHAT IT READS IS OF BULK AT MOST 1048576: true; the input reads as it did. -/
def historyDownUptoRow : OpenClaim := { program := "ytckaebcljcpobaa", sum := "7cb685bb39002908ba661d1abdec142a5060c93efe2a9f7378f24c24f3673c5e", func := "paddock/paddocklaw5.HistoryDown", spec := "historyDown", unfollowed := true, recurses := true, apart := false, narrowed := true }
def HistoryDownUptoSaid : Prop := historyDownUptoRow.holds Try.pinned (OpenSpec.upto historyDownSpec)

/-- 'paddocklaw5.HistoryMaps', WHERE WHAT IT READS IS OF BULK AT MOST 1048576: true; the input reads as it did. -/
def historyMapsUptoRow : OpenClaim := { program := "ytckaebcljcpobaa", sum := "7cb685bb39002908ba661d1abdec142a5060c93efe2a9f7378f24c24f3673c5e", func := "paddock/paddocklaw5.HistoryMaps", spec := "historyMaps", unfollowed := true, recurses := true, apart := false, narrowed := true }
def HistoryMapsUptoSaid : Prop := historyMapsUptoRow.holds Try.pinned (OpenSpec.upto historyMapsSpec)

/-- 'paddocklaw5.HistorySame', WHERE WHAT IT READS IS OF BULK AT MOST 1048576: true; the input reads as it did. -/
def historySameUptoRow : OpenClaim := { program := "ytckaebcljcpobaa", sum := "7cb685bb39002908ba661d1abdec142a5060c93efe2a9f7378f24c24f3673c5e", func := "paddock/paddocklaw5.HistorySame", spec := "historySame", unfollowed := true, recurses := true, apart := false, narrowed := true }
def HistorySameUptoSaid : Prop := historySameUptoRow.holds Try.pinned (OpenSpec.upto historySameSpec)

/-- 'paddocklaw5.HistoryCopies', WHERE WHAT IT READS IS OF BULK AT MOST 1048576: true; the input reads as it did. -/
def historyCopiesUptoRow : OpenClaim := { program := "ytckaebcljcpobaa", sum := "7cb685bb39002908ba661d1abdec142a5060c93efe2a9f7378f24c24f3673c5e", func := "paddock/paddocklaw5.HistoryCopies", spec := "historyCopies", inPlace := ["maps.clone"], unfollowed := true, recurses := true, apart := false, narrowed := true }
def HistoryCopiesUptoSaid : Prop := historyCopiesUptoRow.holds Try.pinned (OpenSpec.upto historyCopiesSpec)

/-- 'paddocklaw5.HistoryPlays', WHERE WHAT IT READS IS OF BULK AT MOST 1048576: true; the input reads as it did. -/
def historyPlaysUptoRow : OpenClaim := { program := "ytckaebcljcpobaa", sum := "7cb685bb39002908ba661d1abdec142a5060c93efe2a9f7378f24c24f3673c5e", func := "paddock/paddocklaw5.HistoryPlays", spec := "historyPlays", inPlace := ["maps.clone"], unfollowed := true, recurses := true, apart := false, narrowed := true }
def HistoryPlaysUptoSaid : Prop := historyPlaysUptoRow.holds Try.pinned (OpenSpec.upto historyPlaysSpec)

end Rows
end Go.Proofs.Ytckaebcljcpobaa

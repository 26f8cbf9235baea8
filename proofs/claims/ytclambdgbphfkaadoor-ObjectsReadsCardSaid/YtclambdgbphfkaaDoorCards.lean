/-
  DERIVED. GIVEN WITH THE SEED: THE CARDS: each row of YtclambdgbphfkaaDoorRows.lean that lists a variable, with what it lists TIED to the program's text (the seventh form; the later family's looks); each row that meets fmt, with fmt's text TOLD by the authors' own Lean function (tested against real Go, not proved from fmt's source: count such statements apart). THE CARD IS WHAT COUNTS. Prove the row's statement (the work); the ties are given (YtclambdgbphfkaaDoorTie.lean); close each card by the builder's one call (the guide's Derived/Test/ToyasCard.lean, 'card_holds'). Laid BY PROGRAM, IN A SANDBOX (cutbox-door.mjs). By AI agents, Wed Nov 11 2026. No macro, syntax, notation, axiom, sorry.
-/
import Derived.Test.YtclambdgbphfkaaDoorRows
import GoSem.ClaimSeven
namespace Go.Proofs.YtclambdgbphfkaaDoor
namespace Rows

/-- THE TIED CARD OF 'paddocklaw6.ObjectsTell'. -/
def objectsTellCard : Claim7 := { stood := { row := objectsTellRow, standIns := [], harness := (true, "8d14cd386b2540f98ec112cd76c956122279c94324ada73fc370268fc1f2a178"), looks := false }, kinds := [], alts := [], laidByText := true, laidKinds := [.data, .data, .data], laidTests := true, laidLooks := .later }
def ObjectsTellCardSaid : Prop := Claim7.holds Tryd.pinned (.plain (OpenSpec.ofChange objectsTellSpec)) objectsTellCard

/-- THE TIED CARD OF 'paddocklaw6.ObjectsAttrs'. -/
def objectsAttrsCard : Claim7 := { stood := { row := objectsAttrsRow, standIns := [], harness := (true, "8d14cd386b2540f98ec112cd76c956122279c94324ada73fc370268fc1f2a178"), looks := false }, kinds := [], alts := [], laidByText := true, laidKinds := [.data, .data, .data], laidTests := true, laidLooks := .later }
def ObjectsAttrsCardSaid : Prop := Claim7.holds Tryd.pinned (.plain (OpenSpec.ofChange objectsAttrsSpec)) objectsAttrsCard

/-- THE TIED CARD OF 'paddocklaw6.ObjectsReads'. -/
def objectsReadsCard : Claim7 := { stood := { row := objectsReadsRow, standIns := [], harness := (true, "8d14cd386b2540f98ec112cd76c956122279c94324ada73fc370268fc1f2a178"), looks := false }, kinds := [], alts := [], laidByText := true, laidKinds := [.data, .data, .data], laidTests := true, laidLooks := .later }
def ObjectsReadsCardSaid : Prop := Claim7.holds Tryd.pinned (.plain (OpenSpec.ofChange objectsReadsSpec)) objectsReadsCard

/-- THE SECOND FORM's CARD OF 'paddocklaw6.ObjectsTell'. -/
def objectsTellUptoCard : Claim7 := { stood := { row := objectsTellUptoRow, standIns := [], harness := (true, "8d14cd386b2540f98ec112cd76c956122279c94324ada73fc370268fc1f2a178"), looks := false }, kinds := [], alts := [], laidByText := true, laidKinds := [.data, .data, .data], laidTests := true, laidLooks := .later }
def ObjectsTellUptoCardSaid : Prop := Claim7.holds Tryd.pinned (.plain (OpenSpec.upto objectsTellSpec)) objectsTellUptoCard

/-- THE SECOND FORM's CARD OF 'paddocklaw6.ObjectsAttrs'. -/
def objectsAttrsUptoCard : Claim7 := { stood := { row := objectsAttrsUptoRow, standIns := [], harness := (true, "8d14cd386b2540f98ec112cd76c956122279c94324ada73fc370268fc1f2a178"), looks := false }, kinds := [], alts := [], laidByText := true, laidKinds := [.data, .data, .data], laidTests := true, laidLooks := .later }
def ObjectsAttrsUptoCardSaid : Prop := Claim7.holds Tryd.pinned (.plain (OpenSpec.upto objectsAttrsSpec)) objectsAttrsUptoCard

/-- THE SECOND FORM's CARD OF 'paddocklaw6.ObjectsReads'. -/
def objectsReadsUptoCard : Claim7 := { stood := { row := objectsReadsUptoRow, standIns := [], harness := (true, "8d14cd386b2540f98ec112cd76c956122279c94324ada73fc370268fc1f2a178"), looks := false }, kinds := [], alts := [], laidByText := true, laidKinds := [.data, .data, .data], laidTests := true, laidLooks := .later }
def ObjectsReadsUptoCardSaid : Prop := Claim7.holds Tryd.pinned (.plain (OpenSpec.upto objectsReadsSpec)) objectsReadsUptoCard
end Rows
end Go.Proofs.YtclambdgbphfkaaDoor

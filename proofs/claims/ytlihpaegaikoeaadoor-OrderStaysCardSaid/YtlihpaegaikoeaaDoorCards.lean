/-
  DERIVED. GIVEN WITH THE SEED: THE CARDS: each row of YtlihpaegaikoeaaDoorRows.lean that lists a variable, with what it lists TIED to the program's text (the seventh form; the later family's looks); each row that meets fmt, with fmt's text TOLD by the authors' own Lean function (tested against real Go, not proved from fmt's source: count such statements apart). THE CARD IS WHAT COUNTS. Prove the row's statement (the work); the ties are given (YtlihpaegaikoeaaDoorTie.lean); close each card by the builder's one call (the guide's Derived/Test/ToyasCard.lean, 'card_holds'). Laid BY PROGRAM, IN A SANDBOX (cutbox-door.mjs). By AI agents, Wed Nov 11 2026. No macro, syntax, notation, axiom, sorry.
-/
import Derived.Test.YtlihpaegaikoeaaDoorRows
import GoSem.ClaimSeven
namespace Go.Proofs.YtlihpaegaikoeaaDoor
namespace Rows

/-- THE TIED CARD OF 'paddocklaw23.OrderStays'. -/
def orderStaysCard : Claim7 := { stood := { row := orderStaysRow, standIns := [], harness := (true, "4c3abbc99b8799b6e3fe7d1a0c082cce55c5d81dd2f3a5f1d336617568907a73"), looks := false }, kinds := [], alts := [], laidByText := true, laidKinds := [.data, .data, .data], laidTests := true, laidLooks := .later }
def OrderStaysCardSaid : Prop := Claim7.holds Tryd.pinned (.plain (OpenSpec.ofChange orderStaysSpec)) orderStaysCard

/-- THE TIED CARD OF 'paddocklaw23.OrderForks'. -/
def orderForksCard : Claim7 := { stood := { row := orderForksRow, standIns := [], harness := (true, "4c3abbc99b8799b6e3fe7d1a0c082cce55c5d81dd2f3a5f1d336617568907a73"), looks := false }, kinds := [], alts := [], laidByText := true, laidKinds := [.data, .data, .data], laidTests := true, laidLooks := .later }
def OrderForksCardSaid : Prop := Claim7.holds Tryd.pinned (.plain (OpenSpec.ofChange orderForksSpec)) orderForksCard

/-- THE TIED CARD OF 'paddocklaw23.OrderReads'. -/
def orderReadsCard : Claim7 := { stood := { row := orderReadsRow, standIns := [], harness := (true, "4c3abbc99b8799b6e3fe7d1a0c082cce55c5d81dd2f3a5f1d336617568907a73"), looks := false }, kinds := [], alts := [], laidByText := true, laidKinds := [.data, .data, .data], laidTests := true, laidLooks := .later }
def OrderReadsCardSaid : Prop := Claim7.holds Tryd.pinned (.plain (OpenSpec.ofChange orderReadsSpec)) orderReadsCard

/-- THE TIED CARD OF 'paddocklaw23.OrderRows'. -/
def orderRowsCard : Claim7 := { stood := { row := orderRowsRow, standIns := [], harness := (true, "4c3abbc99b8799b6e3fe7d1a0c082cce55c5d81dd2f3a5f1d336617568907a73"), looks := false }, kinds := [], alts := [], laidByText := true, laidKinds := [.data, .data, .data], laidTests := true, laidLooks := .later }
def OrderRowsCardSaid : Prop := Claim7.holds Tryd.pinned (.plain (OpenSpec.ofChange orderRowsSpec)) orderRowsCard

/-- THE SECOND FORM's CARD OF 'paddocklaw23.OrderStays'. -/
def orderStaysUptoCard : Claim7 := { stood := { row := orderStaysUptoRow, standIns := [], harness := (true, "4c3abbc99b8799b6e3fe7d1a0c082cce55c5d81dd2f3a5f1d336617568907a73"), looks := false }, kinds := [], alts := [], laidByText := true, laidKinds := [.data, .data, .data], laidTests := true, laidLooks := .later }
def OrderStaysUptoCardSaid : Prop := Claim7.holds Tryd.pinned (.plain (OpenSpec.upto orderStaysSpec)) orderStaysUptoCard

/-- THE SECOND FORM's CARD OF 'paddocklaw23.OrderForks'. -/
def orderForksUptoCard : Claim7 := { stood := { row := orderForksUptoRow, standIns := [], harness := (true, "4c3abbc99b8799b6e3fe7d1a0c082cce55c5d81dd2f3a5f1d336617568907a73"), looks := false }, kinds := [], alts := [], laidByText := true, laidKinds := [.data, .data, .data], laidTests := true, laidLooks := .later }
def OrderForksUptoCardSaid : Prop := Claim7.holds Tryd.pinned (.plain (OpenSpec.upto orderForksSpec)) orderForksUptoCard

/-- THE SECOND FORM's CARD OF 'paddocklaw23.OrderReads'. -/
def orderReadsUptoCard : Claim7 := { stood := { row := orderReadsUptoRow, standIns := [], harness := (true, "4c3abbc99b8799b6e3fe7d1a0c082cce55c5d81dd2f3a5f1d336617568907a73"), looks := false }, kinds := [], alts := [], laidByText := true, laidKinds := [.data, .data, .data], laidTests := true, laidLooks := .later }
def OrderReadsUptoCardSaid : Prop := Claim7.holds Tryd.pinned (.plain (OpenSpec.upto orderReadsSpec)) orderReadsUptoCard

/-- THE SECOND FORM's CARD OF 'paddocklaw23.OrderRows'. -/
def orderRowsUptoCard : Claim7 := { stood := { row := orderRowsUptoRow, standIns := [], harness := (true, "4c3abbc99b8799b6e3fe7d1a0c082cce55c5d81dd2f3a5f1d336617568907a73"), looks := false }, kinds := [], alts := [], laidByText := true, laidKinds := [.data, .data, .data], laidTests := true, laidLooks := .later }
def OrderRowsUptoCardSaid : Prop := Claim7.holds Tryd.pinned (.plain (OpenSpec.upto orderRowsSpec)) orderRowsUptoCard
end Rows
end Go.Proofs.YtlihpaegaikoeaaDoor

/-
  DERIVED. GIVEN WITH THE SEED: THE CARDS: each row of YtjncnppbaldmiaaGreatDoorRows.lean that lists a variable, with what it lists TIED to the program's text (the seventh form; the later family's looks); each row that meets fmt, with fmt's text TOLD by the authors' own Lean function (tested against real Go, not proved from fmt's source: count such statements apart). THE CARD IS WHAT COUNTS. Prove the row's statement (the work); the ties are given (YtjncnppbaldmiaaGreatDoorTie.lean); close each card by the builder's one call (the guide's Derived/Test/ToyasCard.lean, 'card_holds'). Laid BY PROGRAM, IN A SANDBOX (cutbox-door.mjs). By AI agents, Wed Nov 11 2026. No macro, syntax, notation, axiom, sorry.
-/
import Derived.Test.YtjncnppbaldmiaaGreatDoorRows
import GoSem.ClaimSeven
namespace Go.Proofs.YtjncnppbaldmiaaGreatDoor
namespace Rows

/-- THE TIED CARD OF 'pithlaw20.OrderEncodes'. -/
def orderEncodesCard : Claim7 := { stood := { row := orderEncodesRow, standIns := [], harness := (true, "ee3cfc85403c3f9c62f2dc3cb78ed6c18cf17aa611327bd05a77c21445afd27a"), looks := true }, kinds := [], alts := [], laidByText := true, laidKinds := [.data, .data, .data, .data, .data, .sentinel, .sentinel, .widerDeep, .pinned], laidTests := true, laidLooks := .later }
def OrderEncodesCardSaid : Prop := Claim7.holds Tryz.pinned (.plain (OpenSpec.ofChange orderEncodesSpec)) orderEncodesCard

/-- THE TIED CARD OF 'pithlaw20.OrderDecodes'. -/
def orderDecodesCard : Claim7 := { stood := { row := orderDecodesRow, standIns := [], harness := (true, "ee3cfc85403c3f9c62f2dc3cb78ed6c18cf17aa611327bd05a77c21445afd27a"), looks := true }, kinds := [], alts := [], laidByText := true, laidKinds := [.data, .data, .data, .data, .data, .sentinel, .sentinel, .widerDeep, .pinned], laidTests := true, laidLooks := .later }
def OrderDecodesCardSaid : Prop := Claim7.holds Tryz.pinned (.plain (OpenSpec.ofChange orderDecodesSpec)) orderDecodesCard

/-- THE TIED CARD OF 'pithlaw20.OrderBack'. -/
def orderBackCard : Claim7 := { stood := { row := orderBackRow, standIns := [], harness := (true, "ee3cfc85403c3f9c62f2dc3cb78ed6c18cf17aa611327bd05a77c21445afd27a"), looks := true }, kinds := [], alts := [], laidByText := true, laidKinds := [.data, .data, .data, .data, .data, .sentinel, .sentinel, .widerDeep, .pinned], laidTests := true, laidLooks := .later }
def OrderBackCardSaid : Prop := Claim7.holds Tryz.pinned (.plain (OpenSpec.ofChange orderBackSpec)) orderBackCard

/-- THE SECOND FORM's CARD OF 'pithlaw20.OrderEncodes'. -/
def orderEncodesUptoCard : Claim7 := { stood := { row := orderEncodesUptoRow, standIns := [], harness := (true, "ee3cfc85403c3f9c62f2dc3cb78ed6c18cf17aa611327bd05a77c21445afd27a"), looks := true }, kinds := [], alts := [], laidByText := true, laidKinds := [.data, .data, .data, .data, .data, .sentinel, .sentinel, .widerDeep, .pinned], laidTests := true, laidLooks := .later }
def OrderEncodesUptoCardSaid : Prop := Claim7.holds Tryz.pinned (.plain (OpenSpec.upto orderEncodesSpec)) orderEncodesUptoCard

/-- THE SECOND FORM's CARD OF 'pithlaw20.OrderDecodes'. -/
def orderDecodesUptoCard : Claim7 := { stood := { row := orderDecodesUptoRow, standIns := [], harness := (true, "ee3cfc85403c3f9c62f2dc3cb78ed6c18cf17aa611327bd05a77c21445afd27a"), looks := true }, kinds := [], alts := [], laidByText := true, laidKinds := [.data, .data, .data, .data, .data, .sentinel, .sentinel, .widerDeep, .pinned], laidTests := true, laidLooks := .later }
def OrderDecodesUptoCardSaid : Prop := Claim7.holds Tryz.pinned (.plain (OpenSpec.upto orderDecodesSpec)) orderDecodesUptoCard

/-- THE SECOND FORM's CARD OF 'pithlaw20.OrderBack'. -/
def orderBackUptoCard : Claim7 := { stood := { row := orderBackUptoRow, standIns := [], harness := (true, "ee3cfc85403c3f9c62f2dc3cb78ed6c18cf17aa611327bd05a77c21445afd27a"), looks := true }, kinds := [], alts := [], laidByText := true, laidKinds := [.data, .data, .data, .data, .data, .sentinel, .sentinel, .widerDeep, .pinned], laidTests := true, laidLooks := .later }
def OrderBackUptoCardSaid : Prop := Claim7.holds Tryz.pinned (.plain (OpenSpec.upto orderBackSpec)) orderBackUptoCard
end Rows
end Go.Proofs.YtjncnppbaldmiaaGreatDoor

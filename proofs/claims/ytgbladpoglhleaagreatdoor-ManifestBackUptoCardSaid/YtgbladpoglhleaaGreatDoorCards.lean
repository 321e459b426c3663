/-
  DERIVED. GIVEN WITH THE SEED: THE CARDS: each row of YtgbladpoglhleaaGreatDoorRows.lean that lists a variable, with what it lists TIED to the program's text (the seventh form; the later family's looks); each row that meets fmt, with fmt's text TOLD by the authors' own Lean function (tested against real Go, not proved from fmt's source: count such statements apart). THE CARD IS WHAT COUNTS. Prove the row's statement (the work); the ties are given (YtgbladpoglhleaaGreatDoorTie.lean); close each card by the builder's one call (the guide's Derived/Test/ToyasCard.lean, 'card_holds'). Laid BY PROGRAM, IN A SANDBOX (cutbox-door.mjs). By AI agents, Wed Nov 11 2026. No macro, syntax, notation, axiom, sorry.
-/
import Derived.Test.YtgbladpoglhleaaGreatDoorRows
import GoSem.ClaimSeven
namespace Go.Proofs.YtgbladpoglhleaaGreatDoor
namespace Rows

/-- THE TIED CARD OF 'pithlaw14.ManifestNames'. -/
def manifestNamesCard : Claim7 := { stood := { row := manifestNamesRow, standIns := [], harness := (true, "0bf9e5da0601cd06a1c71e5ea599134d37d9f4c850c31800d5ea84df94f3ffd5"), looks := true }, kinds := [], alts := [], laidByText := true, laidKinds := [.data, .data, .data, .data, .data, .sentinel, .sentinel, .widerDeep, .pinned], laidTests := true, laidLooks := .later }
def ManifestNamesCardSaid : Prop := Claim7.holds Tryz.pinned (.plain (OpenSpec.ofChange manifestNamesSpec)) manifestNamesCard

/-- THE TIED CARD OF 'pithlaw14.ManifestNext'. -/
def manifestNextCard : Claim7 := { stood := { row := manifestNextRow, standIns := [], harness := (true, "0bf9e5da0601cd06a1c71e5ea599134d37d9f4c850c31800d5ea84df94f3ffd5"), looks := true }, kinds := [], alts := [], laidByText := true, laidKinds := [.data, .data, .data, .data, .data, .sentinel, .sentinel, .widerDeep, .pinned], laidTests := true, laidLooks := .later }
def ManifestNextCardSaid : Prop := Claim7.holds Tryz.pinned (.plain (OpenSpec.ofChange manifestNextSpec)) manifestNextCard

/-- THE TIED CARD OF 'pithlaw14.ManifestEncodes'. -/
def manifestEncodesCard : Claim7 := { stood := { row := manifestEncodesRow, standIns := [], harness := (true, "0bf9e5da0601cd06a1c71e5ea599134d37d9f4c850c31800d5ea84df94f3ffd5"), looks := true }, kinds := [], alts := [], laidByText := true, laidKinds := [.data, .data, .data, .data, .data, .sentinel, .sentinel, .widerDeep, .pinned], laidTests := true, laidLooks := .later }
def ManifestEncodesCardSaid : Prop := Claim7.holds Tryz.pinned (.plain (OpenSpec.ofChange manifestEncodesSpec)) manifestEncodesCard

/-- THE TIED CARD OF 'pithlaw14.ManifestDecodes'. -/
def manifestDecodesCard : Claim7 := { stood := { row := manifestDecodesRow, standIns := [], harness := (true, "0bf9e5da0601cd06a1c71e5ea599134d37d9f4c850c31800d5ea84df94f3ffd5"), looks := true }, kinds := [], alts := [], laidByText := true, laidKinds := [.data, .data, .data, .data, .data, .sentinel, .sentinel, .widerDeep, .pinned], laidTests := true, laidLooks := .later }
def ManifestDecodesCardSaid : Prop := Claim7.holds Tryz.pinned (.plain (OpenSpec.ofChange manifestDecodesSpec)) manifestDecodesCard

/-- THE TIED CARD OF 'pithlaw14.ManifestBack'. -/
def manifestBackCard : Claim7 := { stood := { row := manifestBackRow, standIns := [], harness := (true, "0bf9e5da0601cd06a1c71e5ea599134d37d9f4c850c31800d5ea84df94f3ffd5"), looks := true }, kinds := [], alts := [], laidByText := true, laidKinds := [.data, .data, .data, .data, .data, .sentinel, .sentinel, .widerDeep, .pinned], laidTests := true, laidLooks := .later }
def ManifestBackCardSaid : Prop := Claim7.holds Tryz.pinned (.plain (OpenSpec.ofChange manifestBackSpec)) manifestBackCard

/-- THE TIED CARD OF 'pithlaw14.ManifestApart'. -/
def manifestApartCard : Claim7 := { stood := { row := manifestApartRow, standIns := [], harness := (true, "0bf9e5da0601cd06a1c71e5ea599134d37d9f4c850c31800d5ea84df94f3ffd5"), looks := true }, kinds := [], alts := [], laidByText := true, laidKinds := [.data, .data, .data, .data, .data, .sentinel, .sentinel, .widerDeep, .pinned], laidTests := true, laidLooks := .later }
def ManifestApartCardSaid : Prop := Claim7.holds Tryz.pinned (.plain (OpenSpec.ofChange manifestApartSpec)) manifestApartCard

/-- THE SECOND FORM's CARD OF 'pithlaw14.ManifestNames'. -/
def manifestNamesUptoCard : Claim7 := { stood := { row := manifestNamesUptoRow, standIns := [], harness := (true, "0bf9e5da0601cd06a1c71e5ea599134d37d9f4c850c31800d5ea84df94f3ffd5"), looks := true }, kinds := [], alts := [], laidByText := true, laidKinds := [.data, .data, .data, .data, .data, .sentinel, .sentinel, .widerDeep, .pinned], laidTests := true, laidLooks := .later }
def ManifestNamesUptoCardSaid : Prop := Claim7.holds Tryz.pinned (.plain (OpenSpec.upto manifestNamesSpec)) manifestNamesUptoCard

/-- THE SECOND FORM's CARD OF 'pithlaw14.ManifestNext'. -/
def manifestNextUptoCard : Claim7 := { stood := { row := manifestNextUptoRow, standIns := [], harness := (true, "0bf9e5da0601cd06a1c71e5ea599134d37d9f4c850c31800d5ea84df94f3ffd5"), looks := true }, kinds := [], alts := [], laidByText := true, laidKinds := [.data, .data, .data, .data, .data, .sentinel, .sentinel, .widerDeep, .pinned], laidTests := true, laidLooks := .later }
def ManifestNextUptoCardSaid : Prop := Claim7.holds Tryz.pinned (.plain (OpenSpec.upto manifestNextSpec)) manifestNextUptoCard

/-- THE SECOND FORM's CARD OF 'pithlaw14.ManifestEncodes'. -/
def manifestEncodesUptoCard : Claim7 := { stood := { row := manifestEncodesUptoRow, standIns := [], harness := (true, "0bf9e5da0601cd06a1c71e5ea599134d37d9f4c850c31800d5ea84df94f3ffd5"), looks := true }, kinds := [], alts := [], laidByText := true, laidKinds := [.data, .data, .data, .data, .data, .sentinel, .sentinel, .widerDeep, .pinned], laidTests := true, laidLooks := .later }
def ManifestEncodesUptoCardSaid : Prop := Claim7.holds Tryz.pinned (.plain (OpenSpec.upto manifestEncodesSpec)) manifestEncodesUptoCard

/-- THE SECOND FORM's CARD OF 'pithlaw14.ManifestDecodes'. -/
def manifestDecodesUptoCard : Claim7 := { stood := { row := manifestDecodesUptoRow, standIns := [], harness := (true, "0bf9e5da0601cd06a1c71e5ea599134d37d9f4c850c31800d5ea84df94f3ffd5"), looks := true }, kinds := [], alts := [], laidByText := true, laidKinds := [.data, .data, .data, .data, .data, .sentinel, .sentinel, .widerDeep, .pinned], laidTests := true, laidLooks := .later }
def ManifestDecodesUptoCardSaid : Prop := Claim7.holds Tryz.pinned (.plain (OpenSpec.upto manifestDecodesSpec)) manifestDecodesUptoCard

/-- THE SECOND FORM's CARD OF 'pithlaw14.ManifestBack'. -/
def manifestBackUptoCard : Claim7 := { stood := { row := manifestBackUptoRow, standIns := [], harness := (true, "0bf9e5da0601cd06a1c71e5ea599134d37d9f4c850c31800d5ea84df94f3ffd5"), looks := true }, kinds := [], alts := [], laidByText := true, laidKinds := [.data, .data, .data, .data, .data, .sentinel, .sentinel, .widerDeep, .pinned], laidTests := true, laidLooks := .later }
def ManifestBackUptoCardSaid : Prop := Claim7.holds Tryz.pinned (.plain (OpenSpec.upto manifestBackSpec)) manifestBackUptoCard

/-- THE SECOND FORM's CARD OF 'pithlaw14.ManifestApart'. -/
def manifestApartUptoCard : Claim7 := { stood := { row := manifestApartUptoRow, standIns := [], harness := (true, "0bf9e5da0601cd06a1c71e5ea599134d37d9f4c850c31800d5ea84df94f3ffd5"), looks := true }, kinds := [], alts := [], laidByText := true, laidKinds := [.data, .data, .data, .data, .data, .sentinel, .sentinel, .widerDeep, .pinned], laidTests := true, laidLooks := .later }
def ManifestApartUptoCardSaid : Prop := Claim7.holds Tryz.pinned (.plain (OpenSpec.upto manifestApartSpec)) manifestApartUptoCard
end Rows
end Go.Proofs.YtgbladpoglhleaaGreatDoor

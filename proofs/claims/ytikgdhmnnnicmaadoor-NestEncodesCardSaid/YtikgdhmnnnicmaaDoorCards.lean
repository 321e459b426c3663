/-
  DERIVED. GIVEN WITH THE SEED: THE CARDS: each row of YtikgdhmnnnicmaaDoorRows.lean that lists a variable, with what it lists TIED to the program's text (the seventh form; the later family's looks); each row that meets fmt, with fmt's text TOLD by the authors' own Lean function (tested against real Go, not proved from fmt's source: count such statements apart). THE CARD IS WHAT COUNTS. Prove the row's statement (the work); the ties are given (YtikgdhmnnnicmaaDoorTie.lean); close each card by the builder's one call (the guide's Derived/Test/ToyasCard.lean, 'card_holds'). Laid BY PROGRAM, IN A SANDBOX (cutbox-door.mjs). By AI agents, Wed Nov 11 2026. No macro, syntax, notation, axiom, sorry.
-/
import Derived.Test.YtikgdhmnnnicmaaDoorRows
import GoSem.ClaimSeven
namespace Go.Proofs.YtikgdhmnnnicmaaDoor
namespace Rows

/-- THE TIED CARD OF 'pithlaw22.NestEncodes'. -/
def nestEncodesCard : Claim7 := { stood := { row := nestEncodesRow, standIns := [], harness := (true, "fec16af17a0f6a667fd1c9b9dece35686f3dd3317ead624e01b70fa6f563af13"), looks := false }, kinds := [], alts := [], laidByText := true, laidKinds := [.data, .data, .data], laidTests := true, laidLooks := .later }
def NestEncodesCardSaid : Prop := Claim7.holds Tryd.pinned (.plain (OpenSpec.ofChange nestEncodesSpec)) nestEncodesCard

/-- THE SECOND FORM's CARD OF 'pithlaw22.NestEncodes'. -/
def nestEncodesUptoCard : Claim7 := { stood := { row := nestEncodesUptoRow, standIns := [], harness := (true, "fec16af17a0f6a667fd1c9b9dece35686f3dd3317ead624e01b70fa6f563af13"), looks := false }, kinds := [], alts := [], laidByText := true, laidKinds := [.data, .data, .data], laidTests := true, laidLooks := .later }
def NestEncodesUptoCardSaid : Prop := Claim7.holds Tryd.pinned (.plain (OpenSpec.upto nestEncodesSpec)) nestEncodesUptoCard
end Rows
end Go.Proofs.YtikgdhmnnnicmaaDoor

/-
  DERIVED. GIVEN WITH THE SEED: THE CARDS: each row of YtnnohacnlkdlgaaGreatDoorRows.lean that lists a variable, with what it lists TIED to the program's text (the seventh form; the later family's looks); each row that meets fmt, with fmt's text TOLD by the authors' own Lean function (tested against real Go, not proved from fmt's source: count such statements apart). THE CARD IS WHAT COUNTS. Prove the row's statement (the work); the ties are given (YtnnohacnlkdlgaaGreatDoorTie.lean); close each card by the builder's one call (the guide's Derived/Test/ToyasCard.lean, 'card_holds'). Laid BY PROGRAM, IN A SANDBOX (cutbox-door.mjs). By AI agents, Wed Nov 11 2026. No macro, syntax, notation, axiom, sorry.
-/
import Derived.Test.YtnnohacnlkdlgaaGreatDoorRows
import GoSem.ClaimSeven
namespace Go.Proofs.YtnnohacnlkdlgaaGreatDoor
namespace Rows

/-- THE TIED CARD OF 'passkeylaw36.ClientNew'. -/
def clientNewCard : Claim7 := { stood := { row := clientNewRow, standIns := [], harness := (true, "f8c28afaf2d3e1f949df0b16a4a1c5471113577500290521f3c55e78640c7fe0"), looks := false }, kinds := [], alts := [], laidByText := true, laidKinds := [.data, .data, .data, .data, .data, .pinned], laidTests := true, laidLooks := .later }
def ClientNewCardSaid : Prop := Claim7.holds Tryz.pinned (.plain (OpenSpec.ofChange clientNewSpec)) clientNewCard

/-- THE SECOND FORM's CARD OF 'passkeylaw36.ClientNew'. -/
def clientNewUptoCard : Claim7 := { stood := { row := clientNewUptoRow, standIns := [], harness := (true, "f8c28afaf2d3e1f949df0b16a4a1c5471113577500290521f3c55e78640c7fe0"), looks := false }, kinds := [], alts := [], laidByText := true, laidKinds := [.data, .data, .data, .data, .data, .pinned], laidTests := true, laidLooks := .later }
def ClientNewUptoCardSaid : Prop := Claim7.holds Tryz.pinned (.plain (OpenSpec.upto clientNewSpec)) clientNewUptoCard
end Rows
end Go.Proofs.YtnnohacnlkdlgaaGreatDoor

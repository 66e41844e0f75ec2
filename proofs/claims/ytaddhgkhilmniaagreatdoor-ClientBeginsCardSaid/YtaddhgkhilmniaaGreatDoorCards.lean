/-
  DERIVED. GIVEN WITH THE SEED: THE CARDS: each row of YtaddhgkhilmniaaGreatDoorRows.lean that lists a variable, with what it lists TIED to the program's text (the seventh form; the later family's looks); each row that meets fmt, with fmt's text TOLD by the authors' own Lean function (tested against real Go, not proved from fmt's source: count such statements apart). THE CARD IS WHAT COUNTS. Prove the row's statement (the work); the ties are given (YtaddhgkhilmniaaGreatDoorTie.lean); close each card by the builder's one call (the guide's Derived/Test/ToyasCard.lean, 'card_holds'). Laid BY PROGRAM, IN A SANDBOX (cutbox-door.mjs). By AI agents, Wed Nov 11 2026. No macro, syntax, notation, axiom, sorry.
-/
import Derived.Test.YtaddhgkhilmniaaGreatDoorRows
import GoSem.ClaimSeven
namespace Go.Proofs.YtaddhgkhilmniaaGreatDoor
namespace Rows

/-- THE TIED CARD OF 'passkeylaw36.ClientBegins'. -/
def clientBeginsCard : Claim7 := { stood := { row := clientBeginsRow, standIns := [], harness := (true, "c796515881c983d78265a86018231e598562faf42f5019e0fed0228097c612be"), looks := false }, kinds := [], alts := [], laidByText := true, laidKinds := [.data, .data, .data, .data, .data, .pinned], laidTests := true, laidLooks := .later }
def ClientBeginsCardSaid : Prop := Claim7.holds Tryz.pinned (.plain (OpenSpec.ofChange clientBeginsSpec)) clientBeginsCard

/-- THE SECOND FORM's CARD OF 'passkeylaw36.ClientBegins'. -/
def clientBeginsUptoCard : Claim7 := { stood := { row := clientBeginsUptoRow, standIns := [], harness := (true, "c796515881c983d78265a86018231e598562faf42f5019e0fed0228097c612be"), looks := false }, kinds := [], alts := [], laidByText := true, laidKinds := [.data, .data, .data, .data, .data, .pinned], laidTests := true, laidLooks := .later }
def ClientBeginsUptoCardSaid : Prop := Claim7.holds Tryz.pinned (.plain (OpenSpec.upto clientBeginsSpec)) clientBeginsUptoCard
end Rows
end Go.Proofs.YtaddhgkhilmniaaGreatDoor

/-
  DERIVED. GIVEN WITH THE SEED: THE CARDS: each row of YthoblablopmhfaaGreatDoorRows.lean that lists a variable, with what it lists TIED to the program's text (the seventh form; the later family's looks); each row that meets fmt, with fmt's text TOLD by the authors' own Lean function (tested against real Go, not proved from fmt's source: count such statements apart). THE CARD IS WHAT COUNTS. Prove the row's statement (the work); the ties are given (YthoblablopmhfaaGreatDoorTie.lean); close each card by the builder's one call (the guide's Derived/Test/ToyasCard.lean, 'card_holds'). Laid BY PROGRAM, IN A SANDBOX (cutbox-door.mjs). By AI agents, Wed Nov 11 2026. No macro, syntax, notation, axiom, sorry.
-/
import Derived.Test.YthoblablopmhfaaGreatDoorRows
import GoSem.ClaimSeven
namespace Go.Proofs.YthoblablopmhfaaGreatDoor
namespace Rows

/-- THE TIED CARD OF 'passkeylaw16.MessageReplies'. -/
def messageRepliesCard : Claim7 := { stood := { row := messageRepliesRow, standIns := [], harness := (true, "b53ccae01adf35d39296c4974f5bf1be59c65e389c168a22750d2d073c2c29f7"), looks := false }, kinds := [], alts := [], laidByText := true, laidKinds := [.data, .data, .pinned], laidTests := true, laidLooks := .later }
def MessageRepliesCardSaid : Prop := Claim7.holds Tryz.pinned (.plain (OpenSpec.ofChange messageRepliesSpec)) messageRepliesCard

/-- THE TIED CARD OF 'passkeylaw16.MessageAnswers'. -/
def messageAnswersCard : Claim7 := { stood := { row := messageAnswersRow, standIns := [], harness := (true, "b53ccae01adf35d39296c4974f5bf1be59c65e389c168a22750d2d073c2c29f7"), looks := false }, kinds := [], alts := [], laidByText := true, laidKinds := [.data, .data, .pinned], laidTests := true, laidLooks := .later }
def MessageAnswersCardSaid : Prop := Claim7.holds Tryz.pinned (.plain (OpenSpec.ofChange messageAnswersSpec)) messageAnswersCard

/-- THE SECOND FORM's CARD OF 'passkeylaw16.MessageReplies'. -/
def messageRepliesUptoCard : Claim7 := { stood := { row := messageRepliesUptoRow, standIns := [], harness := (true, "b53ccae01adf35d39296c4974f5bf1be59c65e389c168a22750d2d073c2c29f7"), looks := false }, kinds := [], alts := [], laidByText := true, laidKinds := [.data, .data, .pinned], laidTests := true, laidLooks := .later }
def MessageRepliesUptoCardSaid : Prop := Claim7.holds Tryz.pinned (.plain (OpenSpec.upto messageRepliesSpec)) messageRepliesUptoCard

/-- THE SECOND FORM's CARD OF 'passkeylaw16.MessageAnswers'. -/
def messageAnswersUptoCard : Claim7 := { stood := { row := messageAnswersUptoRow, standIns := [], harness := (true, "b53ccae01adf35d39296c4974f5bf1be59c65e389c168a22750d2d073c2c29f7"), looks := false }, kinds := [], alts := [], laidByText := true, laidKinds := [.data, .data, .pinned], laidTests := true, laidLooks := .later }
def MessageAnswersUptoCardSaid : Prop := Claim7.holds Tryz.pinned (.plain (OpenSpec.upto messageAnswersSpec)) messageAnswersUptoCard
end Rows
end Go.Proofs.YthoblablopmhfaaGreatDoor

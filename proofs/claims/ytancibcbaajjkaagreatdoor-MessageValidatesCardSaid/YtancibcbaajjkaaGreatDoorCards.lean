/-
  DERIVED. GIVEN WITH THE SEED: THE CARDS: each row of YtancibcbaajjkaaGreatDoorRows.lean that lists a variable, with what it lists TIED to the program's text (the seventh form; the later family's looks); each row that meets fmt, with fmt's text TOLD by the authors' own Lean function (tested against real Go, not proved from fmt's source: count such statements apart). THE CARD IS WHAT COUNTS. Prove the row's statement (the work); the ties are given (YtancibcbaajjkaaGreatDoorTie.lean); close each card by the builder's one call (the guide's Derived/Test/ToyasCard.lean, 'card_holds'). Laid BY PROGRAM, IN A SANDBOX (cutbox-door.mjs). By AI agents, Wed Nov 11 2026. No macro, syntax, notation, axiom, sorry.
-/
import Derived.Test.YtancibcbaajjkaaGreatDoorRows
import GoSem.ClaimSeven
namespace Go.Proofs.YtancibcbaajjkaaGreatDoor
namespace Rows

/-- THE TIED CARD OF 'passkeylaw16.MessageValidates'. -/
def messageValidatesCard : Claim7 := { stood := { row := messageValidatesRow, standIns := [], harness := (true, "5a28c7604228615f1b90d977b8ae1ade1720db30cd7e421eee04a25600dceb27"), looks := false }, kinds := [], alts := [], laidByText := true, laidKinds := [.data, .data, .pinned], laidTests := true, laidLooks := .later }
def MessageValidatesCardSaid : Prop := Claim7.holds Tryz.pinned (.plain (OpenSpec.ofChange messageValidatesSpec)) messageValidatesCard

/-- THE TIED CARD OF 'passkeylaw16.MessageDigest'. -/
def messageDigestCard : Claim7 := { stood := { row := messageDigestRow, standIns := [], harness := (true, "5a28c7604228615f1b90d977b8ae1ade1720db30cd7e421eee04a25600dceb27"), looks := false }, kinds := [], alts := [], laidByText := true, laidKinds := [.data, .data, .pinned], laidTests := true, laidLooks := .later }
def MessageDigestCardSaid : Prop := Claim7.holds Tryz.pinned (.plain (OpenSpec.ofChange messageDigestSpec)) messageDigestCard

/-- THE SECOND FORM's CARD OF 'passkeylaw16.MessageValidates'. -/
def messageValidatesUptoCard : Claim7 := { stood := { row := messageValidatesUptoRow, standIns := [], harness := (true, "5a28c7604228615f1b90d977b8ae1ade1720db30cd7e421eee04a25600dceb27"), looks := false }, kinds := [], alts := [], laidByText := true, laidKinds := [.data, .data, .pinned], laidTests := true, laidLooks := .later }
def MessageValidatesUptoCardSaid : Prop := Claim7.holds Tryz.pinned (.plain (OpenSpec.upto messageValidatesSpec)) messageValidatesUptoCard

/-- THE SECOND FORM's CARD OF 'passkeylaw16.MessageDigest'. -/
def messageDigestUptoCard : Claim7 := { stood := { row := messageDigestUptoRow, standIns := [], harness := (true, "5a28c7604228615f1b90d977b8ae1ade1720db30cd7e421eee04a25600dceb27"), looks := false }, kinds := [], alts := [], laidByText := true, laidKinds := [.data, .data, .pinned], laidTests := true, laidLooks := .later }
def MessageDigestUptoCardSaid : Prop := Claim7.holds Tryz.pinned (.plain (OpenSpec.upto messageDigestSpec)) messageDigestUptoCard
end Rows
end Go.Proofs.YtancibcbaajjkaaGreatDoor

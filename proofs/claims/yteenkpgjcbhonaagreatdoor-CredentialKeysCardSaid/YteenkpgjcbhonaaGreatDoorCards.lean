/-
  DERIVED. GIVEN WITH THE SEED: THE CARDS: each row of YteenkpgjcbhonaaGreatDoorRows.lean that lists a variable, with what it lists TIED to the program's text (the seventh form; the later family's looks); each row that meets fmt, with fmt's text TOLD by the authors' own Lean function (tested against real Go, not proved from fmt's source: count such statements apart). THE CARD IS WHAT COUNTS. Prove the row's statement (the work); the ties are given (YteenkpgjcbhonaaGreatDoorTie.lean); close each card by the builder's one call (the guide's Derived/Test/ToyasCard.lean, 'card_holds'). Laid BY PROGRAM, IN A SANDBOX (cutbox-door.mjs). By AI agents, Wed Nov 11 2026. No macro, syntax, notation, axiom, sorry.
-/
import Derived.Test.YteenkpgjcbhonaaGreatDoorRows
import GoSem.ClaimSeven
namespace Go.Proofs.YteenkpgjcbhonaaGreatDoor
namespace Rows

/-- THE TIED CARD OF 'passkeylaw15.CredentialKeys'. -/
def credentialKeysCard : Claim7 := { stood := { row := credentialKeysRow, standIns := [], harness := (true, "d1429215c2595560766ebb39ff1fe1a29007efdc403f73ea72783e16fb331e6d"), looks := false }, kinds := [], alts := [], laidByText := true, laidKinds := [.data, .pinned], laidTests := true, laidLooks := .later }
def CredentialKeysCardSaid : Prop := Claim7.holds Tryz.pinned (.plain (OpenSpec.ofChange credentialKeysSpec)) credentialKeysCard

/-- THE SECOND FORM's CARD OF 'passkeylaw15.CredentialKeys'. -/
def credentialKeysUptoCard : Claim7 := { stood := { row := credentialKeysUptoRow, standIns := [], harness := (true, "d1429215c2595560766ebb39ff1fe1a29007efdc403f73ea72783e16fb331e6d"), looks := false }, kinds := [], alts := [], laidByText := true, laidKinds := [.data, .pinned], laidTests := true, laidLooks := .later }
def CredentialKeysUptoCardSaid : Prop := Claim7.holds Tryz.pinned (.plain (OpenSpec.upto credentialKeysSpec)) credentialKeysUptoCard
end Rows
end Go.Proofs.YteenkpgjcbhonaaGreatDoor

/-
  DERIVED. GIVEN WITH THE SEED: THE CARDS: each row of YtghfcfjnfgmkgaaDoorRows.lean that lists a variable, with what it lists TIED to the program's text (the seventh form; the later family's looks); each row that meets fmt, with fmt's text TOLD by the authors' own Lean function (tested against real Go, not proved from fmt's source: count such statements apart). THE CARD IS WHAT COUNTS. Prove the row's statement (the work); the ties are given (YtghfcfjnfgmkgaaDoorTie.lean); close each card by the builder's one call (the guide's Derived/Test/ToyasCard.lean, 'card_holds'). Laid BY PROGRAM, IN A SANDBOX (cutbox-door.mjs). By AI agents, Wed Nov 11 2026. No macro, syntax, notation, axiom, sorry.
-/
import Derived.Test.YtghfcfjnfgmkgaaDoorRows
import GoSem.ClaimSeven
namespace Go.Proofs.YtghfcfjnfgmkgaaDoor
namespace Rows

/-- THE TIED CARD OF 'passkeylaw15.CredentialBack'. -/
def credentialBackCard : Claim7 := { stood := { row := credentialBackRow, standIns := [], harness := (true, "8ec2ae2479a02f5787b4c09030f6bec7d6df3ae87f3915fa6054b1b5410e7591"), looks := false }, kinds := [], alts := [], laidByText := true, laidKinds := [.data, .pinned], laidTests := true, laidLooks := .later }
def CredentialBackCardSaid : Prop := Claim7.holds Tryd.pinned (.plain (OpenSpec.ofChange credentialBackSpec)) credentialBackCard

/-- THE SECOND FORM's CARD OF 'passkeylaw15.CredentialBack'. -/
def credentialBackUptoCard : Claim7 := { stood := { row := credentialBackUptoRow, standIns := [], harness := (true, "8ec2ae2479a02f5787b4c09030f6bec7d6df3ae87f3915fa6054b1b5410e7591"), looks := false }, kinds := [], alts := [], laidByText := true, laidKinds := [.data, .pinned], laidTests := true, laidLooks := .later }
def CredentialBackUptoCardSaid : Prop := Claim7.holds Tryd.pinned (.plain (OpenSpec.upto credentialBackSpec)) credentialBackUptoCard
end Rows
end Go.Proofs.YtghfcfjnfgmkgaaDoor

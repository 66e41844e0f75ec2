/-
  DERIVED. GIVEN WITH THE SEED: THE CARDS: each row of YtlbafgkhnhkanaaDoorRows.lean that lists a variable, with what it lists TIED to the program's text (the seventh form; the later family's looks); each row that meets fmt, with fmt's text TOLD by the authors' own Lean function (tested against real Go, not proved from fmt's source: count such statements apart). THE CARD IS WHAT COUNTS. Prove the row's statement (the work); the ties are given (YtlbafgkhnhkanaaDoorTie.lean); close each card by the builder's one call (the guide's Derived/Test/ToyasCard.lean, 'card_holds'). Laid BY PROGRAM, IN A SANDBOX (cutbox-door.mjs). By AI agents, Wed Nov 11 2026. No macro, syntax, notation, axiom, sorry.
-/
import Derived.Test.YtlbafgkhnhkanaaDoorRows
import GoSem.ClaimSeven
namespace Go.Proofs.YtlbafgkhnhkanaaDoor
namespace Rows

/-- THE TIED CARD OF 'passkeylaw11.PinCharges'. -/
def pinChargesCard : Claim7 := { stood := { row := pinChargesRow, standIns := [], harness := (true, "1d4bc5cf90f45f466fd24a25a5c4958421c0918f7c8015ba649aed547702df74"), looks := false }, kinds := [], alts := [], laidByText := true, laidKinds := [.data, .pinned], laidTests := true, laidLooks := .later }
def PinChargesCardSaid : Prop := Claim7.holds Tryd.pinned (.plain (OpenSpec.ofChange pinChargesSpec)) pinChargesCard

/-- THE TIED CARD OF 'passkeylaw11.PinBound'. -/
def pinBoundCard : Claim7 := { stood := { row := pinBoundRow, standIns := [], harness := (true, "1d4bc5cf90f45f466fd24a25a5c4958421c0918f7c8015ba649aed547702df74"), looks := false }, kinds := [], alts := [], laidByText := true, laidKinds := [.data, .pinned], laidTests := true, laidLooks := .later }
def PinBoundCardSaid : Prop := Claim7.holds Tryd.pinned (.plain (OpenSpec.ofChange pinBoundSpec)) pinBoundCard

/-- THE TIED CARD OF 'passkeylaw11.PinRow'. -/
def pinRowCard : Claim7 := { stood := { row := pinRowRow, standIns := [], harness := (true, "1d4bc5cf90f45f466fd24a25a5c4958421c0918f7c8015ba649aed547702df74"), looks := false }, kinds := [], alts := [], laidByText := true, laidKinds := [.data, .pinned], laidTests := true, laidLooks := .later }
def PinRowCardSaid : Prop := Claim7.holds Tryd.pinned (.plain (OpenSpec.ofChange pinRowSpec)) pinRowCard

/-- THE TIED CARD OF 'passkeylaw11.PinWeak'. -/
def pinWeakCard : Claim7 := { stood := { row := pinWeakRow, standIns := [], harness := (true, "1d4bc5cf90f45f466fd24a25a5c4958421c0918f7c8015ba649aed547702df74"), looks := false }, kinds := [], alts := [], laidByText := true, laidKinds := [.data, .pinned], laidTests := true, laidLooks := .later }
def PinWeakCardSaid : Prop := Claim7.holds Tryd.pinned (.plain (OpenSpec.ofChange pinWeakSpec)) pinWeakCard

/-- THE TIED CARD OF 'passkeylaw11.PinHashes'. -/
def pinHashesCard : Claim7 := { stood := { row := pinHashesRow, standIns := [], harness := (true, "1d4bc5cf90f45f466fd24a25a5c4958421c0918f7c8015ba649aed547702df74"), looks := false }, kinds := [], alts := [], laidByText := true, laidKinds := [.data, .pinned], laidTests := true, laidLooks := .later }
def PinHashesCardSaid : Prop := Claim7.holds Tryd.pinned (.plain (OpenSpec.ofChange pinHashesSpec)) pinHashesCard

/-- THE SECOND FORM's CARD OF 'passkeylaw11.PinCharges'. -/
def pinChargesUptoCard : Claim7 := { stood := { row := pinChargesUptoRow, standIns := [], harness := (true, "1d4bc5cf90f45f466fd24a25a5c4958421c0918f7c8015ba649aed547702df74"), looks := false }, kinds := [], alts := [], laidByText := true, laidKinds := [.data, .pinned], laidTests := true, laidLooks := .later }
def PinChargesUptoCardSaid : Prop := Claim7.holds Tryd.pinned (.plain (OpenSpec.upto pinChargesSpec)) pinChargesUptoCard

/-- THE SECOND FORM's CARD OF 'passkeylaw11.PinBound'. -/
def pinBoundUptoCard : Claim7 := { stood := { row := pinBoundUptoRow, standIns := [], harness := (true, "1d4bc5cf90f45f466fd24a25a5c4958421c0918f7c8015ba649aed547702df74"), looks := false }, kinds := [], alts := [], laidByText := true, laidKinds := [.data, .pinned], laidTests := true, laidLooks := .later }
def PinBoundUptoCardSaid : Prop := Claim7.holds Tryd.pinned (.plain (OpenSpec.upto pinBoundSpec)) pinBoundUptoCard

/-- THE SECOND FORM's CARD OF 'passkeylaw11.PinRow'. -/
def pinRowUptoCard : Claim7 := { stood := { row := pinRowUptoRow, standIns := [], harness := (true, "1d4bc5cf90f45f466fd24a25a5c4958421c0918f7c8015ba649aed547702df74"), looks := false }, kinds := [], alts := [], laidByText := true, laidKinds := [.data, .pinned], laidTests := true, laidLooks := .later }
def PinRowUptoCardSaid : Prop := Claim7.holds Tryd.pinned (.plain (OpenSpec.upto pinRowSpec)) pinRowUptoCard

/-- THE SECOND FORM's CARD OF 'passkeylaw11.PinWeak'. -/
def pinWeakUptoCard : Claim7 := { stood := { row := pinWeakUptoRow, standIns := [], harness := (true, "1d4bc5cf90f45f466fd24a25a5c4958421c0918f7c8015ba649aed547702df74"), looks := false }, kinds := [], alts := [], laidByText := true, laidKinds := [.data, .pinned], laidTests := true, laidLooks := .later }
def PinWeakUptoCardSaid : Prop := Claim7.holds Tryd.pinned (.plain (OpenSpec.upto pinWeakSpec)) pinWeakUptoCard

/-- THE SECOND FORM's CARD OF 'passkeylaw11.PinHashes'. -/
def pinHashesUptoCard : Claim7 := { stood := { row := pinHashesUptoRow, standIns := [], harness := (true, "1d4bc5cf90f45f466fd24a25a5c4958421c0918f7c8015ba649aed547702df74"), looks := false }, kinds := [], alts := [], laidByText := true, laidKinds := [.data, .pinned], laidTests := true, laidLooks := .later }
def PinHashesUptoCardSaid : Prop := Claim7.holds Tryd.pinned (.plain (OpenSpec.upto pinHashesSpec)) pinHashesUptoCard
end Rows
end Go.Proofs.YtlbafgkhnhkanaaDoor

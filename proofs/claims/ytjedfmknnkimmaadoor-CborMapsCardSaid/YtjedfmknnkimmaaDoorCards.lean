/-
  DERIVED. GIVEN WITH THE SEED: THE CARDS: each row of YtjedfmknnkimmaaDoorRows.lean that lists a variable, with what it lists TIED to the program's text (the seventh form; the later family's looks); each row that meets fmt, with fmt's text TOLD by the authors' own Lean function (tested against real Go, not proved from fmt's source: count such statements apart). THE CARD IS WHAT COUNTS. Prove the row's statement (the work); the ties are given (YtjedfmknnkimmaaDoorTie.lean); close each card by the builder's one call (the guide's Derived/Test/ToyasCard.lean, 'card_holds'). Laid BY PROGRAM, IN A SANDBOX (cutbox-door.mjs). By AI agents, Wed Nov 11 2026. No macro, syntax, notation, axiom, sorry.
-/
import Derived.Test.YtjedfmknnkimmaaDoorRows
import GoSem.ClaimSeven
namespace Go.Proofs.YtjedfmknnkimmaaDoor
namespace Rows

/-- THE TIED CARD OF 'passkeylaw1.CborValidates'. -/
def cborValidatesCard : Claim7 := { stood := { row := cborValidatesRow, standIns := [], harness := (true, "6d7071e6ba90a923b5415f3cb504824dfc88a4d13dc74e9d807ef1f650b330ec"), looks := false }, kinds := [], alts := [], laidByText := true, laidKinds := [.data, .pinned], laidTests := true, laidLooks := .later }
def CborValidatesCardSaid : Prop := Claim7.holds Tryd.pinned (.plain (OpenSpec.ofChange cborValidatesSpec)) cborValidatesCard

/-- THE TIED CARD OF 'passkeylaw1.CborEncodes'. -/
def cborEncodesCard : Claim7 := { stood := { row := cborEncodesRow, standIns := [], harness := (true, "6d7071e6ba90a923b5415f3cb504824dfc88a4d13dc74e9d807ef1f650b330ec"), looks := false }, kinds := [], alts := [], laidByText := true, laidKinds := [.data, .pinned], laidTests := true, laidLooks := .later }
def CborEncodesCardSaid : Prop := Claim7.holds Tryd.pinned (.plain (OpenSpec.ofChange cborEncodesSpec)) cborEncodesCard

/-- THE TIED CARD OF 'passkeylaw1.CborDecodes'. -/
def cborDecodesCard : Claim7 := { stood := { row := cborDecodesRow, standIns := [], harness := (true, "6d7071e6ba90a923b5415f3cb504824dfc88a4d13dc74e9d807ef1f650b330ec"), looks := false }, kinds := [], alts := [], laidByText := true, laidKinds := [.data, .pinned], laidTests := true, laidLooks := .later }
def CborDecodesCardSaid : Prop := Claim7.holds Tryd.pinned (.plain (OpenSpec.ofChange cborDecodesSpec)) cborDecodesCard

/-- THE TIED CARD OF 'passkeylaw1.CborBack'. -/
def cborBackCard : Claim7 := { stood := { row := cborBackRow, standIns := [], harness := (true, "6d7071e6ba90a923b5415f3cb504824dfc88a4d13dc74e9d807ef1f650b330ec"), looks := false }, kinds := [], alts := [], laidByText := true, laidKinds := [.data, .pinned], laidTests := true, laidLooks := .later }
def CborBackCardSaid : Prop := Claim7.holds Tryd.pinned (.plain (OpenSpec.ofChange cborBackSpec)) cborBackCard

/-- THE TIED CARD OF 'passkeylaw1.CborUnique'. -/
def cborUniqueCard : Claim7 := { stood := { row := cborUniqueRow, standIns := [], harness := (true, "6d7071e6ba90a923b5415f3cb504824dfc88a4d13dc74e9d807ef1f650b330ec"), looks := false }, kinds := [], alts := [], laidByText := true, laidKinds := [.data, .pinned], laidTests := true, laidLooks := .later }
def CborUniqueCardSaid : Prop := Claim7.holds Tryd.pinned (.plain (OpenSpec.ofChange cborUniqueSpec)) cborUniqueCard

/-- THE TIED CARD OF 'passkeylaw1.CborCuts'. -/
def cborCutsCard : Claim7 := { stood := { row := cborCutsRow, standIns := [], harness := (true, "6d7071e6ba90a923b5415f3cb504824dfc88a4d13dc74e9d807ef1f650b330ec"), looks := false }, kinds := [], alts := [], laidByText := true, laidKinds := [.data, .pinned], laidTests := true, laidLooks := .later }
def CborCutsCardSaid : Prop := Claim7.holds Tryd.pinned (.plain (OpenSpec.ofChange cborCutsSpec)) cborCutsCard

/-- THE TIED CARD OF 'passkeylaw1.CborDepth'. -/
def cborDepthCard : Claim7 := { stood := { row := cborDepthRow, standIns := [], harness := (true, "6d7071e6ba90a923b5415f3cb504824dfc88a4d13dc74e9d807ef1f650b330ec"), looks := false }, kinds := [], alts := [], laidByText := true, laidKinds := [.data, .pinned], laidTests := true, laidLooks := .later }
def CborDepthCardSaid : Prop := Claim7.holds Tryd.pinned (.plain (OpenSpec.ofChange cborDepthSpec)) cborDepthCard

/-- THE TIED CARD OF 'passkeylaw1.CborItems'. -/
def cborItemsCard : Claim7 := { stood := { row := cborItemsRow, standIns := [], harness := (true, "6d7071e6ba90a923b5415f3cb504824dfc88a4d13dc74e9d807ef1f650b330ec"), looks := false }, kinds := [], alts := [], laidByText := true, laidKinds := [.data, .pinned], laidTests := true, laidLooks := .later }
def CborItemsCardSaid : Prop := Claim7.holds Tryd.pinned (.plain (OpenSpec.ofChange cborItemsSpec)) cborItemsCard

/-- THE TIED CARD OF 'passkeylaw1.CborSkips'. -/
def cborSkipsCard : Claim7 := { stood := { row := cborSkipsRow, standIns := [], harness := (true, "6d7071e6ba90a923b5415f3cb504824dfc88a4d13dc74e9d807ef1f650b330ec"), looks := false }, kinds := [], alts := [], laidByText := true, laidKinds := [.data, .pinned], laidTests := true, laidLooks := .later }
def CborSkipsCardSaid : Prop := Claim7.holds Tryd.pinned (.plain (OpenSpec.ofChange cborSkipsSpec)) cborSkipsCard

/-- THE TIED CARD OF 'passkeylaw1.CborLookups'. -/
def cborLookupsCard : Claim7 := { stood := { row := cborLookupsRow, standIns := [], harness := (true, "6d7071e6ba90a923b5415f3cb504824dfc88a4d13dc74e9d807ef1f650b330ec"), looks := false }, kinds := [], alts := [], laidByText := true, laidKinds := [.data, .pinned], laidTests := true, laidLooks := .later }
def CborLookupsCardSaid : Prop := Claim7.holds Tryd.pinned (.plain (OpenSpec.ofChange cborLookupsSpec)) cborLookupsCard

/-- THE TIED CARD OF 'passkeylaw1.CborMaps'. -/
def cborMapsCard : Claim7 := { stood := { row := cborMapsRow, standIns := [], harness := (true, "6d7071e6ba90a923b5415f3cb504824dfc88a4d13dc74e9d807ef1f650b330ec"), looks := false }, kinds := [], alts := [], laidByText := true, laidKinds := [.data, .pinned], laidTests := true, laidLooks := .later }
def CborMapsCardSaid : Prop := Claim7.holds Tryd.pinned (.plain (OpenSpec.ofChange cborMapsSpec)) cborMapsCard

/-- THE SECOND FORM's CARD OF 'passkeylaw1.CborValidates'. -/
def cborValidatesUptoCard : Claim7 := { stood := { row := cborValidatesUptoRow, standIns := [], harness := (true, "6d7071e6ba90a923b5415f3cb504824dfc88a4d13dc74e9d807ef1f650b330ec"), looks := false }, kinds := [], alts := [], laidByText := true, laidKinds := [.data, .pinned], laidTests := true, laidLooks := .later }
def CborValidatesUptoCardSaid : Prop := Claim7.holds Tryd.pinned (.plain (OpenSpec.upto cborValidatesSpec)) cborValidatesUptoCard

/-- THE SECOND FORM's CARD OF 'passkeylaw1.CborEncodes'. -/
def cborEncodesUptoCard : Claim7 := { stood := { row := cborEncodesUptoRow, standIns := [], harness := (true, "6d7071e6ba90a923b5415f3cb504824dfc88a4d13dc74e9d807ef1f650b330ec"), looks := false }, kinds := [], alts := [], laidByText := true, laidKinds := [.data, .pinned], laidTests := true, laidLooks := .later }
def CborEncodesUptoCardSaid : Prop := Claim7.holds Tryd.pinned (.plain (OpenSpec.upto cborEncodesSpec)) cborEncodesUptoCard

/-- THE SECOND FORM's CARD OF 'passkeylaw1.CborDecodes'. -/
def cborDecodesUptoCard : Claim7 := { stood := { row := cborDecodesUptoRow, standIns := [], harness := (true, "6d7071e6ba90a923b5415f3cb504824dfc88a4d13dc74e9d807ef1f650b330ec"), looks := false }, kinds := [], alts := [], laidByText := true, laidKinds := [.data, .pinned], laidTests := true, laidLooks := .later }
def CborDecodesUptoCardSaid : Prop := Claim7.holds Tryd.pinned (.plain (OpenSpec.upto cborDecodesSpec)) cborDecodesUptoCard

/-- THE SECOND FORM's CARD OF 'passkeylaw1.CborBack'. -/
def cborBackUptoCard : Claim7 := { stood := { row := cborBackUptoRow, standIns := [], harness := (true, "6d7071e6ba90a923b5415f3cb504824dfc88a4d13dc74e9d807ef1f650b330ec"), looks := false }, kinds := [], alts := [], laidByText := true, laidKinds := [.data, .pinned], laidTests := true, laidLooks := .later }
def CborBackUptoCardSaid : Prop := Claim7.holds Tryd.pinned (.plain (OpenSpec.upto cborBackSpec)) cborBackUptoCard

/-- THE SECOND FORM's CARD OF 'passkeylaw1.CborUnique'. -/
def cborUniqueUptoCard : Claim7 := { stood := { row := cborUniqueUptoRow, standIns := [], harness := (true, "6d7071e6ba90a923b5415f3cb504824dfc88a4d13dc74e9d807ef1f650b330ec"), looks := false }, kinds := [], alts := [], laidByText := true, laidKinds := [.data, .pinned], laidTests := true, laidLooks := .later }
def CborUniqueUptoCardSaid : Prop := Claim7.holds Tryd.pinned (.plain (OpenSpec.upto cborUniqueSpec)) cborUniqueUptoCard

/-- THE SECOND FORM's CARD OF 'passkeylaw1.CborCuts'. -/
def cborCutsUptoCard : Claim7 := { stood := { row := cborCutsUptoRow, standIns := [], harness := (true, "6d7071e6ba90a923b5415f3cb504824dfc88a4d13dc74e9d807ef1f650b330ec"), looks := false }, kinds := [], alts := [], laidByText := true, laidKinds := [.data, .pinned], laidTests := true, laidLooks := .later }
def CborCutsUptoCardSaid : Prop := Claim7.holds Tryd.pinned (.plain (OpenSpec.upto cborCutsSpec)) cborCutsUptoCard

/-- THE SECOND FORM's CARD OF 'passkeylaw1.CborDepth'. -/
def cborDepthUptoCard : Claim7 := { stood := { row := cborDepthUptoRow, standIns := [], harness := (true, "6d7071e6ba90a923b5415f3cb504824dfc88a4d13dc74e9d807ef1f650b330ec"), looks := false }, kinds := [], alts := [], laidByText := true, laidKinds := [.data, .pinned], laidTests := true, laidLooks := .later }
def CborDepthUptoCardSaid : Prop := Claim7.holds Tryd.pinned (.plain (OpenSpec.upto cborDepthSpec)) cborDepthUptoCard

/-- THE SECOND FORM's CARD OF 'passkeylaw1.CborItems'. -/
def cborItemsUptoCard : Claim7 := { stood := { row := cborItemsUptoRow, standIns := [], harness := (true, "6d7071e6ba90a923b5415f3cb504824dfc88a4d13dc74e9d807ef1f650b330ec"), looks := false }, kinds := [], alts := [], laidByText := true, laidKinds := [.data, .pinned], laidTests := true, laidLooks := .later }
def CborItemsUptoCardSaid : Prop := Claim7.holds Tryd.pinned (.plain (OpenSpec.upto cborItemsSpec)) cborItemsUptoCard

/-- THE SECOND FORM's CARD OF 'passkeylaw1.CborSkips'. -/
def cborSkipsUptoCard : Claim7 := { stood := { row := cborSkipsUptoRow, standIns := [], harness := (true, "6d7071e6ba90a923b5415f3cb504824dfc88a4d13dc74e9d807ef1f650b330ec"), looks := false }, kinds := [], alts := [], laidByText := true, laidKinds := [.data, .pinned], laidTests := true, laidLooks := .later }
def CborSkipsUptoCardSaid : Prop := Claim7.holds Tryd.pinned (.plain (OpenSpec.upto cborSkipsSpec)) cborSkipsUptoCard

/-- THE SECOND FORM's CARD OF 'passkeylaw1.CborLookups'. -/
def cborLookupsUptoCard : Claim7 := { stood := { row := cborLookupsUptoRow, standIns := [], harness := (true, "6d7071e6ba90a923b5415f3cb504824dfc88a4d13dc74e9d807ef1f650b330ec"), looks := false }, kinds := [], alts := [], laidByText := true, laidKinds := [.data, .pinned], laidTests := true, laidLooks := .later }
def CborLookupsUptoCardSaid : Prop := Claim7.holds Tryd.pinned (.plain (OpenSpec.upto cborLookupsSpec)) cborLookupsUptoCard

/-- THE SECOND FORM's CARD OF 'passkeylaw1.CborMaps'. -/
def cborMapsUptoCard : Claim7 := { stood := { row := cborMapsUptoRow, standIns := [], harness := (true, "6d7071e6ba90a923b5415f3cb504824dfc88a4d13dc74e9d807ef1f650b330ec"), looks := false }, kinds := [], alts := [], laidByText := true, laidKinds := [.data, .pinned], laidTests := true, laidLooks := .later }
def CborMapsUptoCardSaid : Prop := Claim7.holds Tryd.pinned (.plain (OpenSpec.upto cborMapsSpec)) cborMapsUptoCard
end Rows
end Go.Proofs.YtjedfmknnkimmaaDoor

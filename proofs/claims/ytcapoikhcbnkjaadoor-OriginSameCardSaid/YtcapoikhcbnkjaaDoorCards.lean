/-
  DERIVED. GIVEN WITH THE SEED: THE CARDS: each row of YtcapoikhcbnkjaaDoorRows.lean that lists a variable, with what it lists TIED to the program's text (the seventh form; the later family's looks); each row that meets fmt, with fmt's text TOLD by the authors' own Lean function (tested against real Go, not proved from fmt's source: count such statements apart). THE CARD IS WHAT COUNTS. Prove the row's statement (the work); the ties are given (YtcapoikhcbnkjaaDoorTie.lean); close each card by the builder's one call (the guide's Derived/Test/ToyasCard.lean, 'card_holds'). Laid BY PROGRAM, IN A SANDBOX (cutbox-door.mjs). By AI agents, Wed Nov 11 2026. No macro, syntax, notation, axiom, sorry.
-/
import Derived.Test.YtcapoikhcbnkjaaDoorRows
import GoSem.ClaimSeven
namespace Go.Proofs.YtcapoikhcbnkjaaDoor
namespace Rows

/-- THE TIED CARD OF 'passkeylaw24.OriginParses'. -/
def originParsesCard : Claim7 := { stood := { row := originParsesRow, standIns := [], harness := (true, "caea99143be22f87049b1fe152bba5543887afd9368387312940845a6a4c4695"), looks := false }, kinds := [], alts := [], laidByText := true, laidKinds := [.data, .data, .data, .data, .pinned], laidTests := true, laidLooks := .later }
def OriginParsesCardSaid : Prop := Claim7.holds Tryd.pinned (.plain (OpenSpec.ofChange originParsesSpec)) originParsesCard

/-- THE TIED CARD OF 'passkeylaw24.OriginFormats'. -/
def originFormatsCard : Claim7 := { stood := { row := originFormatsRow, standIns := [], harness := (true, "caea99143be22f87049b1fe152bba5543887afd9368387312940845a6a4c4695"), looks := false }, kinds := [], alts := [], laidByText := true, laidKinds := [.data, .data, .data, .data, .pinned], laidTests := true, laidLooks := .later }
def OriginFormatsCardSaid : Prop := Claim7.holds Tryd.pinned (.plain (OpenSpec.ofChange originFormatsSpec)) originFormatsCard

/-- THE TIED CARD OF 'passkeylaw24.OriginPermits'. -/
def originPermitsCard : Claim7 := { stood := { row := originPermitsRow, standIns := [], harness := (true, "caea99143be22f87049b1fe152bba5543887afd9368387312940845a6a4c4695"), looks := false }, kinds := [], alts := [], laidByText := true, laidKinds := [.data, .data, .data, .data, .pinned], laidTests := true, laidLooks := .later }
def OriginPermitsCardSaid : Prop := Claim7.holds Tryd.pinned (.plain (OpenSpec.ofChange originPermitsSpec)) originPermitsCard

/-- THE TIED CARD OF 'passkeylaw24.OriginSame'. -/
def originSameCard : Claim7 := { stood := { row := originSameRow, standIns := [], harness := (true, "caea99143be22f87049b1fe152bba5543887afd9368387312940845a6a4c4695"), looks := false }, kinds := [], alts := [], laidByText := true, laidKinds := [.data, .data, .data, .data, .pinned], laidTests := true, laidLooks := .later }
def OriginSameCardSaid : Prop := Claim7.holds Tryd.pinned (.plain (OpenSpec.ofChange originSameSpec)) originSameCard

/-- THE TIED CARD OF 'passkeylaw24.OriginRelated'. -/
def originRelatedCard : Claim7 := { stood := { row := originRelatedRow, standIns := [], harness := (true, "caea99143be22f87049b1fe152bba5543887afd9368387312940845a6a4c4695"), looks := false }, kinds := [], alts := [], laidByText := true, laidKinds := [.data, .data, .data, .data, .pinned], laidTests := true, laidLooks := .later }
def OriginRelatedCardSaid : Prop := Claim7.holds Tryd.pinned (.plain (OpenSpec.ofChange originRelatedSpec)) originRelatedCard

/-- THE TIED CARD OF 'passkeylaw24.OriginFew'. -/
def originFewCard : Claim7 := { stood := { row := originFewRow, standIns := [], harness := (true, "caea99143be22f87049b1fe152bba5543887afd9368387312940845a6a4c4695"), looks := false }, kinds := [], alts := [], laidByText := true, laidKinds := [.data, .data, .data, .data, .pinned], laidTests := true, laidLooks := .later }
def OriginFewCardSaid : Prop := Claim7.holds Tryd.pinned (.plain (OpenSpec.ofChange originFewSpec)) originFewCard

/-- THE SECOND FORM's CARD OF 'passkeylaw24.OriginParses'. -/
def originParsesUptoCard : Claim7 := { stood := { row := originParsesUptoRow, standIns := [], harness := (true, "caea99143be22f87049b1fe152bba5543887afd9368387312940845a6a4c4695"), looks := false }, kinds := [], alts := [], laidByText := true, laidKinds := [.data, .data, .data, .data, .pinned], laidTests := true, laidLooks := .later }
def OriginParsesUptoCardSaid : Prop := Claim7.holds Tryd.pinned (.plain (OpenSpec.upto originParsesSpec)) originParsesUptoCard

/-- THE SECOND FORM's CARD OF 'passkeylaw24.OriginFormats'. -/
def originFormatsUptoCard : Claim7 := { stood := { row := originFormatsUptoRow, standIns := [], harness := (true, "caea99143be22f87049b1fe152bba5543887afd9368387312940845a6a4c4695"), looks := false }, kinds := [], alts := [], laidByText := true, laidKinds := [.data, .data, .data, .data, .pinned], laidTests := true, laidLooks := .later }
def OriginFormatsUptoCardSaid : Prop := Claim7.holds Tryd.pinned (.plain (OpenSpec.upto originFormatsSpec)) originFormatsUptoCard

/-- THE SECOND FORM's CARD OF 'passkeylaw24.OriginPermits'. -/
def originPermitsUptoCard : Claim7 := { stood := { row := originPermitsUptoRow, standIns := [], harness := (true, "caea99143be22f87049b1fe152bba5543887afd9368387312940845a6a4c4695"), looks := false }, kinds := [], alts := [], laidByText := true, laidKinds := [.data, .data, .data, .data, .pinned], laidTests := true, laidLooks := .later }
def OriginPermitsUptoCardSaid : Prop := Claim7.holds Tryd.pinned (.plain (OpenSpec.upto originPermitsSpec)) originPermitsUptoCard

/-- THE SECOND FORM's CARD OF 'passkeylaw24.OriginSame'. -/
def originSameUptoCard : Claim7 := { stood := { row := originSameUptoRow, standIns := [], harness := (true, "caea99143be22f87049b1fe152bba5543887afd9368387312940845a6a4c4695"), looks := false }, kinds := [], alts := [], laidByText := true, laidKinds := [.data, .data, .data, .data, .pinned], laidTests := true, laidLooks := .later }
def OriginSameUptoCardSaid : Prop := Claim7.holds Tryd.pinned (.plain (OpenSpec.upto originSameSpec)) originSameUptoCard

/-- THE SECOND FORM's CARD OF 'passkeylaw24.OriginRelated'. -/
def originRelatedUptoCard : Claim7 := { stood := { row := originRelatedUptoRow, standIns := [], harness := (true, "caea99143be22f87049b1fe152bba5543887afd9368387312940845a6a4c4695"), looks := false }, kinds := [], alts := [], laidByText := true, laidKinds := [.data, .data, .data, .data, .pinned], laidTests := true, laidLooks := .later }
def OriginRelatedUptoCardSaid : Prop := Claim7.holds Tryd.pinned (.plain (OpenSpec.upto originRelatedSpec)) originRelatedUptoCard

/-- THE SECOND FORM's CARD OF 'passkeylaw24.OriginFew'. -/
def originFewUptoCard : Claim7 := { stood := { row := originFewUptoRow, standIns := [], harness := (true, "caea99143be22f87049b1fe152bba5543887afd9368387312940845a6a4c4695"), looks := false }, kinds := [], alts := [], laidByText := true, laidKinds := [.data, .data, .data, .data, .pinned], laidTests := true, laidLooks := .later }
def OriginFewUptoCardSaid : Prop := Claim7.holds Tryd.pinned (.plain (OpenSpec.upto originFewSpec)) originFewUptoCard
end Rows
end Go.Proofs.YtcapoikhcbnkjaaDoor

/-
  DERIVED. GIVEN WITH THE SEED: THE CARDS: each row of YtjmaldfcmggblaaDoorRows.lean that lists a variable, with what it lists TIED to the program's text (the seventh form; the later family's looks); each row that meets fmt, with fmt's text TOLD by the authors' own Lean function (tested against real Go, not proved from fmt's source: count such statements apart). THE CARD IS WHAT COUNTS. Prove the row's statement (the work); the ties are given (YtjmaldfcmggblaaDoorTie.lean); close each card by the builder's one call (the guide's Derived/Test/ToyasCard.lean, 'card_holds'). Laid BY PROGRAM, IN A SANDBOX (cutbox-door.mjs). By AI agents, Wed Nov 11 2026. No macro, syntax, notation, axiom, sorry.
-/
import Derived.Test.YtjmaldfcmggblaaDoorRows
import GoSem.ClaimSeven
namespace Go.Proofs.YtjmaldfcmggblaaDoor
namespace Rows

/-- THE TIED CARD OF 'passkeylaw24.OriginRelated'. -/
def originRelatedCard : Claim7 := { stood := { row := originRelatedRow, standIns := [], harness := (true, "016c6a446b470245318f4be16a1d13f869c28424e7cae2d7b2d540c8442e3f66"), looks := false }, kinds := [], alts := [], laidByText := true, laidKinds := [.data, .data, .data, .data, .pinned], laidTests := true, laidLooks := .later }
def OriginRelatedCardSaid : Prop := Claim7.holds Tryd.pinned (.plain (OpenSpec.ofChange originRelatedSpec)) originRelatedCard

/-- THE TIED CARD OF 'passkeylaw24.OriginFew'. -/
def originFewCard : Claim7 := { stood := { row := originFewRow, standIns := [], harness := (true, "016c6a446b470245318f4be16a1d13f869c28424e7cae2d7b2d540c8442e3f66"), looks := false }, kinds := [], alts := [], laidByText := true, laidKinds := [.data, .data, .data, .data, .pinned], laidTests := true, laidLooks := .later }
def OriginFewCardSaid : Prop := Claim7.holds Tryd.pinned (.plain (OpenSpec.ofChange originFewSpec)) originFewCard

/-- THE SECOND FORM's CARD OF 'passkeylaw24.OriginRelated'. -/
def originRelatedUptoCard : Claim7 := { stood := { row := originRelatedUptoRow, standIns := [], harness := (true, "016c6a446b470245318f4be16a1d13f869c28424e7cae2d7b2d540c8442e3f66"), looks := false }, kinds := [], alts := [], laidByText := true, laidKinds := [.data, .data, .data, .data, .pinned], laidTests := true, laidLooks := .later }
def OriginRelatedUptoCardSaid : Prop := Claim7.holds Tryd.pinned (.plain (OpenSpec.upto originRelatedSpec)) originRelatedUptoCard

/-- THE SECOND FORM's CARD OF 'passkeylaw24.OriginFew'. -/
def originFewUptoCard : Claim7 := { stood := { row := originFewUptoRow, standIns := [], harness := (true, "016c6a446b470245318f4be16a1d13f869c28424e7cae2d7b2d540c8442e3f66"), looks := false }, kinds := [], alts := [], laidByText := true, laidKinds := [.data, .data, .data, .data, .pinned], laidTests := true, laidLooks := .later }
def OriginFewUptoCardSaid : Prop := Claim7.holds Tryd.pinned (.plain (OpenSpec.upto originFewSpec)) originFewUptoCard
end Rows
end Go.Proofs.YtjmaldfcmggblaaDoor

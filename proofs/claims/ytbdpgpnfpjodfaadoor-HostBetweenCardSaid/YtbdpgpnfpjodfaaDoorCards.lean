/-
  DERIVED. GIVEN WITH THE SEED: THE CARDS: each row of YtbdpgpnfpjodfaaDoorRows.lean that lists a variable, with what it lists TIED to the program's text (the seventh form; the later family's looks); each row that meets fmt, with fmt's text TOLD by the authors' own Lean function (tested against real Go, not proved from fmt's source: count such statements apart). THE CARD IS WHAT COUNTS. Prove the row's statement (the work); the ties are given (YtbdpgpnfpjodfaaDoorTie.lean); close each card by the builder's one call (the guide's Derived/Test/ToyasCard.lean, 'card_holds'). Laid BY PROGRAM, IN A SANDBOX (cutbox-door.mjs). By AI agents, Wed Nov 11 2026. No macro, syntax, notation, axiom, sorry.
-/
import Derived.Test.YtbdpgpnfpjodfaaDoorRows
import GoSem.ClaimSeven
namespace Go.Proofs.YtbdpgpnfpjodfaaDoor
namespace Rows

/-- THE TIED CARD OF 'passkeylaw23.HostPublic'. -/
def hostPublicCard : Claim7 := { stood := { row := hostPublicRow, standIns := [], harness := (true, "3038bb58676799669a1972220dd5d6ae051ee7206f654520086ae474cf73c50f"), looks := false }, kinds := [], alts := [], laidByText := true, laidKinds := [.data, .pinned], laidTests := true, laidLooks := .later }
def HostPublicCardSaid : Prop := Claim7.holds Tryd.pinned (.plain (OpenSpec.ofChange hostPublicSpec)) hostPublicCard

/-- THE TIED CARD OF 'passkeylaw23.HostMore'. -/
def hostMoreCard : Claim7 := { stood := { row := hostMoreRow, standIns := [], harness := (true, "3038bb58676799669a1972220dd5d6ae051ee7206f654520086ae474cf73c50f"), looks := false }, kinds := [], alts := [], laidByText := true, laidKinds := [.data, .pinned], laidTests := true, laidLooks := .later }
def HostMoreCardSaid : Prop := Claim7.holds Tryd.pinned (.plain (OpenSpec.ofChange hostMoreSpec)) hostMoreCard

/-- THE TIED CARD OF 'passkeylaw23.HostNames'. -/
def hostNamesCard : Claim7 := { stood := { row := hostNamesRow, standIns := [], harness := (true, "3038bb58676799669a1972220dd5d6ae051ee7206f654520086ae474cf73c50f"), looks := false }, kinds := [], alts := [], laidByText := true, laidKinds := [.data, .pinned], laidTests := true, laidLooks := .later }
def HostNamesCardSaid : Prop := Claim7.holds Tryd.pinned (.plain (OpenSpec.ofChange hostNamesSpec)) hostNamesCard

/-- THE TIED CARD OF 'passkeylaw23.HostBetween'. -/
def hostBetweenCard : Claim7 := { stood := { row := hostBetweenRow, standIns := [], harness := (true, "3038bb58676799669a1972220dd5d6ae051ee7206f654520086ae474cf73c50f"), looks := false }, kinds := [], alts := [], laidByText := true, laidKinds := [.data, .pinned], laidTests := true, laidLooks := .later }
def HostBetweenCardSaid : Prop := Claim7.holds Tryd.pinned (.plain (OpenSpec.ofChange hostBetweenSpec)) hostBetweenCard

/-- THE TIED CARD OF 'passkeylaw23.HostRules'. -/
def hostRulesCard : Claim7 := { stood := { row := hostRulesRow, standIns := [], harness := (true, "3038bb58676799669a1972220dd5d6ae051ee7206f654520086ae474cf73c50f"), looks := false }, kinds := [], alts := [], laidByText := true, laidKinds := [.data, .pinned], laidTests := true, laidLooks := .later }
def HostRulesCardSaid : Prop := Claim7.holds Tryd.pinned (.plain (OpenSpec.ofChange hostRulesSpec)) hostRulesCard

/-- THE TIED CARD OF 'passkeylaw23.HostRulesBack'. -/
def hostRulesBackCard : Claim7 := { stood := { row := hostRulesBackRow, standIns := [], harness := (true, "3038bb58676799669a1972220dd5d6ae051ee7206f654520086ae474cf73c50f"), looks := false }, kinds := [], alts := [], laidByText := true, laidKinds := [.data, .pinned], laidTests := true, laidLooks := .later }
def HostRulesBackCardSaid : Prop := Claim7.holds Tryd.pinned (.plain (OpenSpec.ofChange hostRulesBackSpec)) hostRulesBackCard

/-- THE SECOND FORM's CARD OF 'passkeylaw23.HostPublic'. -/
def hostPublicUptoCard : Claim7 := { stood := { row := hostPublicUptoRow, standIns := [], harness := (true, "3038bb58676799669a1972220dd5d6ae051ee7206f654520086ae474cf73c50f"), looks := false }, kinds := [], alts := [], laidByText := true, laidKinds := [.data, .pinned], laidTests := true, laidLooks := .later }
def HostPublicUptoCardSaid : Prop := Claim7.holds Tryd.pinned (.plain (OpenSpec.upto hostPublicSpec)) hostPublicUptoCard

/-- THE SECOND FORM's CARD OF 'passkeylaw23.HostMore'. -/
def hostMoreUptoCard : Claim7 := { stood := { row := hostMoreUptoRow, standIns := [], harness := (true, "3038bb58676799669a1972220dd5d6ae051ee7206f654520086ae474cf73c50f"), looks := false }, kinds := [], alts := [], laidByText := true, laidKinds := [.data, .pinned], laidTests := true, laidLooks := .later }
def HostMoreUptoCardSaid : Prop := Claim7.holds Tryd.pinned (.plain (OpenSpec.upto hostMoreSpec)) hostMoreUptoCard

/-- THE SECOND FORM's CARD OF 'passkeylaw23.HostNames'. -/
def hostNamesUptoCard : Claim7 := { stood := { row := hostNamesUptoRow, standIns := [], harness := (true, "3038bb58676799669a1972220dd5d6ae051ee7206f654520086ae474cf73c50f"), looks := false }, kinds := [], alts := [], laidByText := true, laidKinds := [.data, .pinned], laidTests := true, laidLooks := .later }
def HostNamesUptoCardSaid : Prop := Claim7.holds Tryd.pinned (.plain (OpenSpec.upto hostNamesSpec)) hostNamesUptoCard

/-- THE SECOND FORM's CARD OF 'passkeylaw23.HostBetween'. -/
def hostBetweenUptoCard : Claim7 := { stood := { row := hostBetweenUptoRow, standIns := [], harness := (true, "3038bb58676799669a1972220dd5d6ae051ee7206f654520086ae474cf73c50f"), looks := false }, kinds := [], alts := [], laidByText := true, laidKinds := [.data, .pinned], laidTests := true, laidLooks := .later }
def HostBetweenUptoCardSaid : Prop := Claim7.holds Tryd.pinned (.plain (OpenSpec.upto hostBetweenSpec)) hostBetweenUptoCard

/-- THE SECOND FORM's CARD OF 'passkeylaw23.HostRules'. -/
def hostRulesUptoCard : Claim7 := { stood := { row := hostRulesUptoRow, standIns := [], harness := (true, "3038bb58676799669a1972220dd5d6ae051ee7206f654520086ae474cf73c50f"), looks := false }, kinds := [], alts := [], laidByText := true, laidKinds := [.data, .pinned], laidTests := true, laidLooks := .later }
def HostRulesUptoCardSaid : Prop := Claim7.holds Tryd.pinned (.plain (OpenSpec.upto hostRulesSpec)) hostRulesUptoCard

/-- THE SECOND FORM's CARD OF 'passkeylaw23.HostRulesBack'. -/
def hostRulesBackUptoCard : Claim7 := { stood := { row := hostRulesBackUptoRow, standIns := [], harness := (true, "3038bb58676799669a1972220dd5d6ae051ee7206f654520086ae474cf73c50f"), looks := false }, kinds := [], alts := [], laidByText := true, laidKinds := [.data, .pinned], laidTests := true, laidLooks := .later }
def HostRulesBackUptoCardSaid : Prop := Claim7.holds Tryd.pinned (.plain (OpenSpec.upto hostRulesBackSpec)) hostRulesBackUptoCard
end Rows
end Go.Proofs.YtbdpgpnfpjodfaaDoor

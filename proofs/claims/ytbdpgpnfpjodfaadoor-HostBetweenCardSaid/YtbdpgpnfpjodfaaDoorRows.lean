/-
  NARROWER THAN 'FOR EVERY INPUT', by the rows' own cells (each row's printed sentence says how): HostPublic: laid · HostMore: laid · HostNames: laid · HostBetween: laid · HostRules: laid · HostRulesBack: laid.
  DERIVED. THE GIVEN ROWS OF THIS SEAT. 6 by the template 'for every input the law returns true; each argument reads behind the call as it read before'; 0 by the template 'total and deterministic' (their statements: YtbdpgpnfpjodfaaDoorTotals.lean).
  GIVEN WITH THE SEED: the statements are not yours to turn. If you find one false, say at which input.
  Laid BY PROGRAM, IN A SANDBOX (cutbox-rows.mjs): the forced cells as the released guide's own fill.sh prints them over the translation d73b626c1e0aa6de… (all of the seat's roots in one cut). By AI agents, Wed Nov 11 2026. No macro, syntax, notation, axiom, sorry.
-/
import Derived.Test.YtbdpgpnfpjodfaaDoorChecked
import GoSem.PinnedTables
import GoSem.Claim
import GoSem.ClaimJoined
import GoSem.ClaimMapViews
import Derived.JoinedTies
import Derived.KernelRfl
namespace Go.Proofs.YtbdpgpnfpjodfaaDoor
/- THE CELL 'sum', in the pinned program and in every row, IS THE sha256 OF THE DUMP (.gsa) THAT YtbdpgpnfpjodfaaDoorProg.lean LOADS. Nothing in Lean hashes anything: it is a label: what it is worth is what the hold of that sum in a sandbox is worth. -/
noncomputable def Tryd.pinned : Pinned := { name := "ytbdpgpnfpjodfaadoor", sum := "d73b626c1e0aa6dec9ca873518e619fd980472c4e4abdaadeb940d56f6567ed6", checked := Tryd.checked }
namespace Rows
def none {H : Type} : Left H := { results := [], args := [] }

/- WHAT THE LISTED PACKAGE-LEVEL VARIABLES READ AS WHEN THE CALL BEGINS. Each datum BY PROGRAM (the guide's laid-datum.mjs) off the statement by which the dump's own 'gosem.cut.vars' lays the variable. In a bare row this is a premise. The card (YtbdpgpnfpjodfaaDoorCards.lean) ties it to the program's text. -/
def laid_unicode_utf8_acceptRanges {H : Type} : DataW H := .agg [.agg [.lit (.int .u8 128), .lit (.int .u8 191)], .agg [.lit (.int .u8 160), .lit (.int .u8 191)], .agg [.lit (.int .u8 128), .lit (.int .u8 159)], .agg [.lit (.int .u8 144), .lit (.int .u8 191)], .agg [.lit (.int .u8 128), .lit (.int .u8 143)], .agg [.lit (.int .u8 0), .lit (.int .u8 0)], .agg [.lit (.int .u8 0), .lit (.int .u8 0)], .agg [.lit (.int .u8 0), .lit (.int .u8 0)], .agg [.lit (.int .u8 0), .lit (.int .u8 0)], .agg [.lit (.int .u8 0), .lit (.int .u8 0)], .agg [.lit (.int .u8 0), .lit (.int .u8 0)], .agg [.lit (.int .u8 0), .lit (.int .u8 0)], .agg [.lit (.int .u8 0), .lit (.int .u8 0)], .agg [.lit (.int .u8 0), .lit (.int .u8 0)], .agg [.lit (.int .u8 0), .lit (.int .u8 0)], .agg [.lit (.int .u8 0), .lit (.int .u8 0)]]
/-- One of Go's own tables, pinned by name: the form's constant. -/
def laid_unicode_utf8_first : DataW Unit := Go.Pinned.utf8First

/-- 'passkeylaw23.HostPublic': WHATEVER THE INPUT: true; the input reads as it did. -/
def hostPublicSpec : ChangeSpec := { name := "hostPublic", fn := fun _ => fun
  | [d1, d2, d3, d4] => { results := [.lit (.bool true)], args := [d1, d2, d3, d4] }
  | _ => none }
def hostPublicRow : OpenClaim := { program := "ytbdpgpnfpjodfaadoor", sum := "d73b626c1e0aa6dec9ca873518e619fd980472c4e4abdaadeb940d56f6567ed6", func := "passkey/passkeylaw23.HostPublic", spec := "hostPublic", inPlace := ["internal/bytealg.CountString", "internal/bytealg.IndexByteString", "internal/bytealg.IndexString", "internal/abi.NoEscape", "internal/bytealg.MakeNoZero"], named := ["unicode/utf8.first", "unicode/utf8.acceptRanges", "internal/bytealg.MaxLen"], apart := false, laid := [("unicode/utf8.acceptRanges", laid_unicode_utf8_acceptRanges), ("unicode/utf8.first", laid_unicode_utf8_first)] }
def HostPublicSaid : Prop := hostPublicRow.holds Tryd.pinned (OpenSpec.ofChange hostPublicSpec)

/-- ITS FALSE NEIGHBOUR: 'it returns false'. Refute it at one input. -/
def hostPublicWrong : ChangeSpec := { name := "hostPublic", fn := fun _ => fun
  | [d1, d2, d3, d4] => { results := [.lit (.bool false)], args := [d1, d2, d3, d4] }
  | _ => none }
def HostPublicWrongFalsely : Prop := hostPublicRow.holds Tryd.pinned (OpenSpec.ofChange hostPublicWrong)

/-- 'passkeylaw23.HostMore': WHATEVER THE INPUT: true; the input reads as it did. -/
def hostMoreSpec : ChangeSpec := { name := "hostMore", fn := fun _ => fun
  | [d1, d2, d3] => { results := [.lit (.bool true)], args := [d1, d2, d3] }
  | _ => none }
def hostMoreRow : OpenClaim := { program := "ytbdpgpnfpjodfaadoor", sum := "d73b626c1e0aa6dec9ca873518e619fd980472c4e4abdaadeb940d56f6567ed6", func := "passkey/passkeylaw23.HostMore", spec := "hostMore", inPlace := ["internal/bytealg.CountString", "internal/bytealg.IndexByteString", "internal/bytealg.IndexString", "internal/abi.NoEscape", "internal/bytealg.MakeNoZero"], named := ["unicode/utf8.first", "unicode/utf8.acceptRanges", "internal/bytealg.MaxLen"], apart := false, laid := [("unicode/utf8.acceptRanges", laid_unicode_utf8_acceptRanges), ("unicode/utf8.first", laid_unicode_utf8_first)] }
def HostMoreSaid : Prop := hostMoreRow.holds Tryd.pinned (OpenSpec.ofChange hostMoreSpec)

/-- ITS FALSE NEIGHBOUR: 'it returns false'. Refute it at one input. -/
def hostMoreWrong : ChangeSpec := { name := "hostMore", fn := fun _ => fun
  | [d1, d2, d3] => { results := [.lit (.bool false)], args := [d1, d2, d3] }
  | _ => none }
def HostMoreWrongFalsely : Prop := hostMoreRow.holds Tryd.pinned (OpenSpec.ofChange hostMoreWrong)

/-- 'passkeylaw23.HostNames': WHATEVER THE INPUT: true; the input reads as it did. -/
def hostNamesSpec : ChangeSpec := { name := "hostNames", fn := fun _ => fun
  | [d1, d2, d3, d4] => { results := [.lit (.bool true)], args := [d1, d2, d3, d4] }
  | _ => none }
def hostNamesRow : OpenClaim := { program := "ytbdpgpnfpjodfaadoor", sum := "d73b626c1e0aa6dec9ca873518e619fd980472c4e4abdaadeb940d56f6567ed6", func := "passkey/passkeylaw23.HostNames", spec := "hostNames", inPlace := ["internal/bytealg.CountString", "internal/bytealg.IndexByteString", "internal/bytealg.IndexString", "internal/abi.NoEscape", "internal/bytealg.MakeNoZero"], named := ["unicode/utf8.first", "unicode/utf8.acceptRanges", "internal/bytealg.MaxLen"], apart := false, laid := [("unicode/utf8.acceptRanges", laid_unicode_utf8_acceptRanges), ("unicode/utf8.first", laid_unicode_utf8_first)] }
def HostNamesSaid : Prop := hostNamesRow.holds Tryd.pinned (OpenSpec.ofChange hostNamesSpec)

/-- ITS FALSE NEIGHBOUR: 'it returns false'. Refute it at one input. -/
def hostNamesWrong : ChangeSpec := { name := "hostNames", fn := fun _ => fun
  | [d1, d2, d3, d4] => { results := [.lit (.bool false)], args := [d1, d2, d3, d4] }
  | _ => none }
def HostNamesWrongFalsely : Prop := hostNamesRow.holds Tryd.pinned (OpenSpec.ofChange hostNamesWrong)

/-- 'passkeylaw23.HostBetween': WHATEVER THE INPUT: true; the input reads as it did. -/
def hostBetweenSpec : ChangeSpec := { name := "hostBetween", fn := fun _ => fun
  | [d1, d2, d3] => { results := [.lit (.bool true)], args := [d1, d2, d3] }
  | _ => none }
def hostBetweenRow : OpenClaim := { program := "ytbdpgpnfpjodfaadoor", sum := "d73b626c1e0aa6dec9ca873518e619fd980472c4e4abdaadeb940d56f6567ed6", func := "passkey/passkeylaw23.HostBetween", spec := "hostBetween", inPlace := ["internal/bytealg.CountString", "internal/bytealg.IndexByteString", "internal/bytealg.IndexString", "internal/abi.NoEscape", "internal/bytealg.MakeNoZero"], named := ["unicode/utf8.first", "unicode/utf8.acceptRanges", "internal/bytealg.MaxLen"], apart := false, laid := [("unicode/utf8.acceptRanges", laid_unicode_utf8_acceptRanges), ("unicode/utf8.first", laid_unicode_utf8_first)] }
def HostBetweenSaid : Prop := hostBetweenRow.holds Tryd.pinned (OpenSpec.ofChange hostBetweenSpec)

/-- ITS FALSE NEIGHBOUR: 'it returns false'. Refute it at one input. -/
def hostBetweenWrong : ChangeSpec := { name := "hostBetween", fn := fun _ => fun
  | [d1, d2, d3] => { results := [.lit (.bool false)], args := [d1, d2, d3] }
  | _ => none }
def HostBetweenWrongFalsely : Prop := hostBetweenRow.holds Tryd.pinned (OpenSpec.ofChange hostBetweenWrong)

/-- 'passkeylaw23.HostRules': WHATEVER THE INPUT: true; the input reads as it did. -/
def hostRulesSpec : ChangeSpec := { name := "hostRules", fn := fun _ => fun
  | [d1, d2, d3, d4] => { results := [.lit (.bool true)], args := [d1, d2, d3, d4] }
  | _ => none }
def hostRulesRow : OpenClaim := { program := "ytbdpgpnfpjodfaadoor", sum := "d73b626c1e0aa6dec9ca873518e619fd980472c4e4abdaadeb940d56f6567ed6", func := "passkey/passkeylaw23.HostRules", spec := "hostRules", inPlace := ["internal/bytealg.CountString", "internal/bytealg.IndexByteString", "internal/bytealg.IndexString", "internal/abi.NoEscape", "internal/bytealg.MakeNoZero"], named := ["unicode/utf8.first", "unicode/utf8.acceptRanges", "internal/bytealg.MaxLen"], apart := false, laid := [("unicode/utf8.acceptRanges", laid_unicode_utf8_acceptRanges), ("unicode/utf8.first", laid_unicode_utf8_first)] }
def HostRulesSaid : Prop := hostRulesRow.holds Tryd.pinned (OpenSpec.ofChange hostRulesSpec)

/-- ITS FALSE NEIGHBOUR: 'it returns false'. Refute it at one input. -/
def hostRulesWrong : ChangeSpec := { name := "hostRules", fn := fun _ => fun
  | [d1, d2, d3, d4] => { results := [.lit (.bool false)], args := [d1, d2, d3, d4] }
  | _ => none }
def HostRulesWrongFalsely : Prop := hostRulesRow.holds Tryd.pinned (OpenSpec.ofChange hostRulesWrong)

/-- 'passkeylaw23.HostRulesBack': WHATEVER THE INPUT: true; the input reads as it did. -/
def hostRulesBackSpec : ChangeSpec := { name := "hostRulesBack", fn := fun _ => fun
  | [d1, d2, d3] => { results := [.lit (.bool true)], args := [d1, d2, d3] }
  | _ => none }
def hostRulesBackRow : OpenClaim := { program := "ytbdpgpnfpjodfaadoor", sum := "d73b626c1e0aa6dec9ca873518e619fd980472c4e4abdaadeb940d56f6567ed6", func := "passkey/passkeylaw23.HostRulesBack", spec := "hostRulesBack", inPlace := ["internal/bytealg.CountString", "internal/bytealg.IndexByteString", "internal/bytealg.IndexString", "internal/abi.NoEscape", "internal/bytealg.MakeNoZero"], named := ["unicode/utf8.first", "unicode/utf8.acceptRanges", "internal/bytealg.MaxLen"], apart := false, laid := [("unicode/utf8.acceptRanges", laid_unicode_utf8_acceptRanges), ("unicode/utf8.first", laid_unicode_utf8_first)] }
def HostRulesBackSaid : Prop := hostRulesBackRow.holds Tryd.pinned (OpenSpec.ofChange hostRulesBackSpec)

/-- ITS FALSE NEIGHBOUR: 'it returns false'. Refute it at one input. -/
def hostRulesBackWrong : ChangeSpec := { name := "hostRulesBack", fn := fun _ => fun
  | [d1, d2, d3] => { results := [.lit (.bool false)], args := [d1, d2, d3] }
  | _ => none }
def HostRulesBackWrongFalsely : Prop := hostRulesBackRow.holds Tryd.pinned (OpenSpec.ofChange hostRulesBackWrong)

/- THE SECOND FORM. 'bulk': how many values and letters a reading holds, each counted each time it is reached (what is shared counts as often as it is met; a slice's spare places count too). A statement '..UptoSaid' is the law's where the arguments, and the package variables that the reading takes, are together of bulk at most 1048576: NARROWER than '..Said'. Prove '..Said' where nothing that the law and all that it calls make is longer than what came in: it says more and counts as full. Else prove '..UptoSaid'. A law counts once. -/
mutual
def uptoBulk {H : Type} : DataW H → Nat
  | .lit (.string bytes) => bytes.length + 1
  | .lit _ => 1
  | .nil => 1
  | .ptr d => uptoBulk d + 1
  | .slice elems spare => uptoBulkAll elems + uptoBulkAll spare + 1
  | .agg parts => uptoBulkAll parts + 1
  | .iface _ d => uptoBulk d + 1
  | .map entries => uptoBulkEntries entries + 1
  | .held _ => 1
def uptoBulkAll {H : Type} : List (DataW H) → Nat
  | [] => 0
  | d :: r => uptoBulk d + uptoBulkAll r
def uptoBulkEntries {H : Type} : List (Lit × DataW H) → Nat
  | [] => 0
  | x :: r => uptoBulkEntry x + uptoBulkEntries r
def uptoBulkEntry {H : Type} : Lit × DataW H → Nat
  | (.string bytes, d) => bytes.length + uptoBulk d + 1
  | (_, d) => uptoBulk d + 1
 end
def uptoSmall : (H : Type) → List (DataW H) → Bool := fun _ ds => decide (uptoBulkAll ds ≤ 1048576)
def OpenSpec.upto (s : _root_.Go.ChangeSpec) : _root_.Go.OpenSpec := { _root_.Go.OpenSpec.ofChange s with cond := some uptoSmall }

/-- 'passkeylaw23.HostPublic', WHERE WHAT IT READS IS OF BULK AT MOST 1048576: true; the input reads as it did. -/
def hostPublicUptoRow : OpenClaim := { program := "ytbdpgpnfpjodfaadoor", sum := "d73b626c1e0aa6dec9ca873518e619fd980472c4e4abdaadeb940d56f6567ed6", func := "passkey/passkeylaw23.HostPublic", spec := "hostPublic", inPlace := ["internal/bytealg.CountString", "internal/bytealg.IndexByteString", "internal/bytealg.IndexString", "internal/abi.NoEscape", "internal/bytealg.MakeNoZero"], named := ["unicode/utf8.first", "unicode/utf8.acceptRanges", "internal/bytealg.MaxLen"], apart := false, laid := [("unicode/utf8.acceptRanges", laid_unicode_utf8_acceptRanges), ("unicode/utf8.first", laid_unicode_utf8_first)], narrowed := true }
def HostPublicUptoSaid : Prop := hostPublicUptoRow.holds Tryd.pinned (OpenSpec.upto hostPublicSpec)

/-- 'passkeylaw23.HostMore', WHERE WHAT IT READS IS OF BULK AT MOST 1048576: true; the input reads as it did. -/
def hostMoreUptoRow : OpenClaim := { program := "ytbdpgpnfpjodfaadoor", sum := "d73b626c1e0aa6dec9ca873518e619fd980472c4e4abdaadeb940d56f6567ed6", func := "passkey/passkeylaw23.HostMore", spec := "hostMore", inPlace := ["internal/bytealg.CountString", "internal/bytealg.IndexByteString", "internal/bytealg.IndexString", "internal/abi.NoEscape", "internal/bytealg.MakeNoZero"], named := ["unicode/utf8.first", "unicode/utf8.acceptRanges", "internal/bytealg.MaxLen"], apart := false, laid := [("unicode/utf8.acceptRanges", laid_unicode_utf8_acceptRanges), ("unicode/utf8.first", laid_unicode_utf8_first)], narrowed := true }
def HostMoreUptoSaid : Prop := hostMoreUptoRow.holds Tryd.pinned (OpenSpec.upto hostMoreSpec)

/-- 'passkeylaw23.HostNames', WHERE WHAT IT READS IS OF BULK AT MOST 1048576: true; the input reads as it did. -/
def hostNamesUptoRow : OpenClaim := { program := "ytbdpgpnfpjodfaadoor", sum := "d73b626c1e0aa6dec9ca873518e619fd980472c4e4abdaadeb940d56f6567ed6", func := "passkey/passkeylaw23.HostNames", spec := "hostNames", inPlace := ["internal/bytealg.CountString", "internal/bytealg.IndexByteString", "internal/bytealg.IndexString", "internal/abi.NoEscape", "internal/bytealg.MakeNoZero"], named := ["unicode/utf8.first", "unicode/utf8.acceptRanges", "internal/bytealg.MaxLen"], apart := false, laid := [("unicode/utf8.acceptRanges", laid_unicode_utf8_acceptRanges), ("unicode/utf8.first", laid_unicode_utf8_first)], narrowed := true }
def HostNamesUptoSaid : Prop := hostNamesUptoRow.holds Tryd.pinned (OpenSpec.upto hostNamesSpec)

/-- 'passkeylaw23.HostBetween', WHERE WHAT IT READS IS OF BULK AT MOST 1048576: true; the input reads as it did. -/
def hostBetweenUptoRow : OpenClaim := { program := "ytbdpgpnfpjodfaadoor", sum := "d73b626c1e0aa6dec9ca873518e619fd980472c4e4abdaadeb940d56f6567ed6", func := "passkey/passkeylaw23.HostBetween", spec := "hostBetween", inPlace := ["internal/bytealg.CountString", "internal/bytealg.IndexByteString", "internal/bytealg.IndexString", "internal/abi.NoEscape", "internal/bytealg.MakeNoZero"], named := ["unicode/utf8.first", "unicode/utf8.acceptRanges", "internal/bytealg.MaxLen"], apart := false, laid := [("unicode/utf8.acceptRanges", laid_unicode_utf8_acceptRanges), ("unicode/utf8.first", laid_unicode_utf8_first)], narrowed := true }
def HostBetweenUptoSaid : Prop := hostBetweenUptoRow.holds Tryd.pinned (OpenSpec.upto hostBetweenSpec)

/-- 'passkeylaw23.HostRules', WHERE WHAT IT READS IS OF BULK AT MOST 1048576: true; the input reads as it did. -/
def hostRulesUptoRow : OpenClaim := { program := "ytbdpgpnfpjodfaadoor", sum := "d73b626c1e0aa6dec9ca873518e619fd980472c4e4abdaadeb940d56f6567ed6", func := "passkey/passkeylaw23.HostRules", spec := "hostRules", inPlace := ["internal/bytealg.CountString", "internal/bytealg.IndexByteString", "internal/bytealg.IndexString", "internal/abi.NoEscape", "internal/bytealg.MakeNoZero"], named := ["unicode/utf8.first", "unicode/utf8.acceptRanges", "internal/bytealg.MaxLen"], apart := false, laid := [("unicode/utf8.acceptRanges", laid_unicode_utf8_acceptRanges), ("unicode/utf8.first", laid_unicode_utf8_first)], narrowed := true }
def HostRulesUptoSaid : Prop := hostRulesUptoRow.holds Tryd.pinned (OpenSpec.upto hostRulesSpec)

/-- 'passkeylaw23.HostRulesBack', WHERE WHAT IT READS IS OF BULK AT MOST 1048576: true; the input reads as it did. -/
def hostRulesBackUptoRow : OpenClaim := { program := "ytbdpgpnfpjodfaadoor", sum := "d73b626c1e0aa6dec9ca873518e619fd980472c4e4abdaadeb940d56f6567ed6", func := "passkey/passkeylaw23.HostRulesBack", spec := "hostRulesBack", inPlace := ["internal/bytealg.CountString", "internal/bytealg.IndexByteString", "internal/bytealg.IndexString", "internal/abi.NoEscape", "internal/bytealg.MakeNoZero"], named := ["unicode/utf8.first", "unicode/utf8.acceptRanges", "internal/bytealg.MaxLen"], apart := false, laid := [("unicode/utf8.acceptRanges", laid_unicode_utf8_acceptRanges), ("unicode/utf8.first", laid_unicode_utf8_first)], narrowed := true }
def HostRulesBackUptoSaid : Prop := hostRulesBackUptoRow.holds Tryd.pinned (OpenSpec.upto hostRulesBackSpec)

end Rows
end Go.Proofs.YtbdpgpnfpjodfaaDoor

/-
  NARROWER THAN 'FOR EVERY INPUT', by the rows' own cells (each row's printed sentence says how): CborValidates: laid · CborEncodes: laid · CborDecodes: laid · CborBack: laid · CborUnique: laid · CborCuts: laid · CborDepth: laid · CborItems: laid · CborSkips: laid · CborLookups: laid · CborMaps: laid.
  DERIVED. THE GIVEN ROWS OF THIS SEAT. 11 by the template 'for every input the law returns true; each argument reads behind the call as it read before'; 0 by the template 'total and deterministic' (their statements: YtjedfmknnkimmaaDoorTotals.lean).
  GIVEN WITH THE SEED: the statements are not yours to turn. If you find one false, say at which input.
  Laid BY PROGRAM, IN A SANDBOX (cutbox-rows.mjs): the forced cells as the released guide's own fill.sh prints them over the translation 9b546ff67a01a7bc… (all of the seat's roots in one cut). By AI agents, Wed Nov 11 2026. No macro, syntax, notation, axiom, sorry.
-/
import Derived.Test.YtjedfmknnkimmaaDoorChecked
import GoSem.PinnedTables
import GoSem.Claim
import GoSem.ClaimJoined
import GoSem.ClaimMapViews
import Derived.JoinedTies
import Derived.KernelRfl
namespace Go.Proofs.YtjedfmknnkimmaaDoor
/- THE CELL 'sum', in the pinned program and in every row, IS THE sha256 OF THE DUMP (.gsa) THAT YtjedfmknnkimmaaDoorProg.lean LOADS. Nothing in Lean hashes anything: it is a label: what it is worth is what the hold of that sum in a sandbox is worth. -/
noncomputable def Tryd.pinned : Pinned := { name := "ytjedfmknnkimmaadoor", sum := "9b546ff67a01a7bc4285f305c401cdf59b44e6f07978ac1f97f010285a32094b", checked := Tryd.checked }
namespace Rows
def none {H : Type} : Left H := { results := [], args := [] }

/- WHAT THE LISTED PACKAGE-LEVEL VARIABLES READ AS WHEN THE CALL BEGINS. Each datum BY PROGRAM (the guide's laid-datum.mjs) off the statement by which the dump's own 'gosem.cut.vars' lays the variable. In a bare row this is a premise. The card (YtjedfmknnkimmaaDoorCards.lean) ties it to the program's text. -/
def laid_unicode_utf8_acceptRanges {H : Type} : DataW H := .agg [.agg [.lit (.int .u8 128), .lit (.int .u8 191)], .agg [.lit (.int .u8 160), .lit (.int .u8 191)], .agg [.lit (.int .u8 128), .lit (.int .u8 159)], .agg [.lit (.int .u8 144), .lit (.int .u8 191)], .agg [.lit (.int .u8 128), .lit (.int .u8 143)], .agg [.lit (.int .u8 0), .lit (.int .u8 0)], .agg [.lit (.int .u8 0), .lit (.int .u8 0)], .agg [.lit (.int .u8 0), .lit (.int .u8 0)], .agg [.lit (.int .u8 0), .lit (.int .u8 0)], .agg [.lit (.int .u8 0), .lit (.int .u8 0)], .agg [.lit (.int .u8 0), .lit (.int .u8 0)], .agg [.lit (.int .u8 0), .lit (.int .u8 0)], .agg [.lit (.int .u8 0), .lit (.int .u8 0)], .agg [.lit (.int .u8 0), .lit (.int .u8 0)], .agg [.lit (.int .u8 0), .lit (.int .u8 0)], .agg [.lit (.int .u8 0), .lit (.int .u8 0)]]
/-- One of Go's own tables, pinned by name: the form's constant. -/
def laid_unicode_utf8_first : DataW Unit := Go.Pinned.utf8First

/-- 'passkeylaw1.CborValidates': WHATEVER THE INPUT: true; the input reads as it did. -/
def cborValidatesSpec : ChangeSpec := { name := "cborValidates", fn := fun _ => fun
  | [d] => { results := [.lit (.bool true)], args := [d] }
  | _ => none }
def cborValidatesRow : OpenClaim := { program := "ytjedfmknnkimmaadoor", sum := "9b546ff67a01a7bc4285f305c401cdf59b44e6f07978ac1f97f010285a32094b", func := "passkey/passkeylaw1.CborValidates", spec := "cborValidates", inPlace := ["internal/bytealg.Compare"], unfollowed := true, recurses := true, named := ["unicode/utf8.first", "unicode/utf8.acceptRanges"], apart := false, laid := [("unicode/utf8.acceptRanges", laid_unicode_utf8_acceptRanges), ("unicode/utf8.first", laid_unicode_utf8_first)] }
def CborValidatesSaid : Prop := cborValidatesRow.holds Tryd.pinned (OpenSpec.ofChange cborValidatesSpec)

/-- ITS FALSE NEIGHBOUR: 'it returns false'. Refute it at one input. -/
def cborValidatesWrong : ChangeSpec := { name := "cborValidates", fn := fun _ => fun
  | [d] => { results := [.lit (.bool false)], args := [d] }
  | _ => none }
def CborValidatesWrongFalsely : Prop := cborValidatesRow.holds Tryd.pinned (OpenSpec.ofChange cborValidatesWrong)

/-- 'passkeylaw1.CborEncodes': WHATEVER THE INPUT: true; the input reads as it did. -/
def cborEncodesSpec : ChangeSpec := { name := "cborEncodes", fn := fun _ => fun
  | [d1, d2] => { results := [.lit (.bool true)], args := [d1, d2] }
  | _ => none }
def cborEncodesRow : OpenClaim := { program := "ytjedfmknnkimmaadoor", sum := "9b546ff67a01a7bc4285f305c401cdf59b44e6f07978ac1f97f010285a32094b", func := "passkey/passkeylaw1.CborEncodes", spec := "cborEncodes", inPlace := ["internal/bytealg.Compare"], unfollowed := true, recurses := true, named := ["unicode/utf8.first", "unicode/utf8.acceptRanges"], apart := false, laid := [("unicode/utf8.acceptRanges", laid_unicode_utf8_acceptRanges), ("unicode/utf8.first", laid_unicode_utf8_first)] }
def CborEncodesSaid : Prop := cborEncodesRow.holds Tryd.pinned (OpenSpec.ofChange cborEncodesSpec)

/-- ITS FALSE NEIGHBOUR: 'it returns false'. Refute it at one input. -/
def cborEncodesWrong : ChangeSpec := { name := "cborEncodes", fn := fun _ => fun
  | [d1, d2] => { results := [.lit (.bool false)], args := [d1, d2] }
  | _ => none }
def CborEncodesWrongFalsely : Prop := cborEncodesRow.holds Tryd.pinned (OpenSpec.ofChange cborEncodesWrong)

/-- 'passkeylaw1.CborDecodes': WHATEVER THE INPUT: true; the input reads as it did. -/
def cborDecodesSpec : ChangeSpec := { name := "cborDecodes", fn := fun _ => fun
  | [d1, d2, d3, d4] => { results := [.lit (.bool true)], args := [d1, d2, d3, d4] }
  | _ => none }
def cborDecodesRow : OpenClaim := { program := "ytjedfmknnkimmaadoor", sum := "9b546ff67a01a7bc4285f305c401cdf59b44e6f07978ac1f97f010285a32094b", func := "passkey/passkeylaw1.CborDecodes", spec := "cborDecodes", inPlace := ["internal/bytealg.Compare"], unfollowed := true, recurses := true, named := ["unicode/utf8.first", "unicode/utf8.acceptRanges"], apart := false, laid := [("unicode/utf8.acceptRanges", laid_unicode_utf8_acceptRanges), ("unicode/utf8.first", laid_unicode_utf8_first)] }
def CborDecodesSaid : Prop := cborDecodesRow.holds Tryd.pinned (OpenSpec.ofChange cborDecodesSpec)

/-- ITS FALSE NEIGHBOUR: 'it returns false'. Refute it at one input. -/
def cborDecodesWrong : ChangeSpec := { name := "cborDecodes", fn := fun _ => fun
  | [d1, d2, d3, d4] => { results := [.lit (.bool false)], args := [d1, d2, d3, d4] }
  | _ => none }
def CborDecodesWrongFalsely : Prop := cborDecodesRow.holds Tryd.pinned (OpenSpec.ofChange cborDecodesWrong)

/-- 'passkeylaw1.CborBack': WHATEVER THE INPUT: true; the input reads as it did. -/
def cborBackSpec : ChangeSpec := { name := "cborBack", fn := fun _ => fun
  | [d1, d2] => { results := [.lit (.bool true)], args := [d1, d2] }
  | _ => none }
def cborBackRow : OpenClaim := { program := "ytjedfmknnkimmaadoor", sum := "9b546ff67a01a7bc4285f305c401cdf59b44e6f07978ac1f97f010285a32094b", func := "passkey/passkeylaw1.CborBack", spec := "cborBack", inPlace := ["internal/bytealg.Compare"], unfollowed := true, recurses := true, named := ["unicode/utf8.first", "unicode/utf8.acceptRanges"], apart := false, laid := [("unicode/utf8.acceptRanges", laid_unicode_utf8_acceptRanges), ("unicode/utf8.first", laid_unicode_utf8_first)] }
def CborBackSaid : Prop := cborBackRow.holds Tryd.pinned (OpenSpec.ofChange cborBackSpec)

/-- ITS FALSE NEIGHBOUR: 'it returns false'. Refute it at one input. -/
def cborBackWrong : ChangeSpec := { name := "cborBack", fn := fun _ => fun
  | [d1, d2] => { results := [.lit (.bool false)], args := [d1, d2] }
  | _ => none }
def CborBackWrongFalsely : Prop := cborBackRow.holds Tryd.pinned (OpenSpec.ofChange cborBackWrong)

/-- 'passkeylaw1.CborUnique': WHATEVER THE INPUT: true; the input reads as it did. -/
def cborUniqueSpec : ChangeSpec := { name := "cborUnique", fn := fun _ => fun
  | [d] => { results := [.lit (.bool true)], args := [d] }
  | _ => none }
def cborUniqueRow : OpenClaim := { program := "ytjedfmknnkimmaadoor", sum := "9b546ff67a01a7bc4285f305c401cdf59b44e6f07978ac1f97f010285a32094b", func := "passkey/passkeylaw1.CborUnique", spec := "cborUnique", inPlace := ["internal/bytealg.Compare"], unfollowed := true, recurses := true, named := ["unicode/utf8.first", "unicode/utf8.acceptRanges"], apart := false, laid := [("unicode/utf8.acceptRanges", laid_unicode_utf8_acceptRanges), ("unicode/utf8.first", laid_unicode_utf8_first)] }
def CborUniqueSaid : Prop := cborUniqueRow.holds Tryd.pinned (OpenSpec.ofChange cborUniqueSpec)

/-- ITS FALSE NEIGHBOUR: 'it returns false'. Refute it at one input. -/
def cborUniqueWrong : ChangeSpec := { name := "cborUnique", fn := fun _ => fun
  | [d] => { results := [.lit (.bool false)], args := [d] }
  | _ => none }
def CborUniqueWrongFalsely : Prop := cborUniqueRow.holds Tryd.pinned (OpenSpec.ofChange cborUniqueWrong)

/-- 'passkeylaw1.CborCuts': WHATEVER THE INPUT: true; the input reads as it did. -/
def cborCutsSpec : ChangeSpec := { name := "cborCuts", fn := fun _ => fun
  | [d] => { results := [.lit (.bool true)], args := [d] }
  | _ => none }
def cborCutsRow : OpenClaim := { program := "ytjedfmknnkimmaadoor", sum := "9b546ff67a01a7bc4285f305c401cdf59b44e6f07978ac1f97f010285a32094b", func := "passkey/passkeylaw1.CborCuts", spec := "cborCuts", inPlace := ["internal/bytealg.Compare"], unfollowed := true, recurses := true, named := ["unicode/utf8.first", "unicode/utf8.acceptRanges"], apart := false, laid := [("unicode/utf8.acceptRanges", laid_unicode_utf8_acceptRanges), ("unicode/utf8.first", laid_unicode_utf8_first)] }
def CborCutsSaid : Prop := cborCutsRow.holds Tryd.pinned (OpenSpec.ofChange cborCutsSpec)

/-- ITS FALSE NEIGHBOUR: 'it returns false'. Refute it at one input. -/
def cborCutsWrong : ChangeSpec := { name := "cborCuts", fn := fun _ => fun
  | [d] => { results := [.lit (.bool false)], args := [d] }
  | _ => none }
def CborCutsWrongFalsely : Prop := cborCutsRow.holds Tryd.pinned (OpenSpec.ofChange cborCutsWrong)

/-- 'passkeylaw1.CborDepth': WHATEVER THE INPUT: true; the input reads as it did. -/
def cborDepthSpec : ChangeSpec := { name := "cborDepth", fn := fun _ => fun
  | [d1, d2] => { results := [.lit (.bool true)], args := [d1, d2] }
  | _ => none }
def cborDepthRow : OpenClaim := { program := "ytjedfmknnkimmaadoor", sum := "9b546ff67a01a7bc4285f305c401cdf59b44e6f07978ac1f97f010285a32094b", func := "passkey/passkeylaw1.CborDepth", spec := "cborDepth", inPlace := ["internal/bytealg.Compare"], unfollowed := true, recurses := true, named := ["unicode/utf8.first", "unicode/utf8.acceptRanges"], apart := false, laid := [("unicode/utf8.acceptRanges", laid_unicode_utf8_acceptRanges), ("unicode/utf8.first", laid_unicode_utf8_first)] }
def CborDepthSaid : Prop := cborDepthRow.holds Tryd.pinned (OpenSpec.ofChange cborDepthSpec)

/-- ITS FALSE NEIGHBOUR: 'it returns false'. Refute it at one input. -/
def cborDepthWrong : ChangeSpec := { name := "cborDepth", fn := fun _ => fun
  | [d1, d2] => { results := [.lit (.bool false)], args := [d1, d2] }
  | _ => none }
def CborDepthWrongFalsely : Prop := cborDepthRow.holds Tryd.pinned (OpenSpec.ofChange cborDepthWrong)

/-- 'passkeylaw1.CborItems': WHATEVER THE INPUT: true; the input reads as it did. -/
def cborItemsSpec : ChangeSpec := { name := "cborItems", fn := fun _ => fun
  | [d1, d2, d3, d4] => { results := [.lit (.bool true)], args := [d1, d2, d3, d4] }
  | _ => none }
def cborItemsRow : OpenClaim := { program := "ytjedfmknnkimmaadoor", sum := "9b546ff67a01a7bc4285f305c401cdf59b44e6f07978ac1f97f010285a32094b", func := "passkey/passkeylaw1.CborItems", spec := "cborItems", inPlace := ["internal/bytealg.Compare"], unfollowed := true, recurses := true, named := ["unicode/utf8.first", "unicode/utf8.acceptRanges"], apart := false, laid := [("unicode/utf8.acceptRanges", laid_unicode_utf8_acceptRanges), ("unicode/utf8.first", laid_unicode_utf8_first)] }
def CborItemsSaid : Prop := cborItemsRow.holds Tryd.pinned (OpenSpec.ofChange cborItemsSpec)

/-- ITS FALSE NEIGHBOUR: 'it returns false'. Refute it at one input. -/
def cborItemsWrong : ChangeSpec := { name := "cborItems", fn := fun _ => fun
  | [d1, d2, d3, d4] => { results := [.lit (.bool false)], args := [d1, d2, d3, d4] }
  | _ => none }
def CborItemsWrongFalsely : Prop := cborItemsRow.holds Tryd.pinned (OpenSpec.ofChange cborItemsWrong)

/-- 'passkeylaw1.CborSkips': WHATEVER THE INPUT: true; the input reads as it did. -/
def cborSkipsSpec : ChangeSpec := { name := "cborSkips", fn := fun _ => fun
  | [d1, d2, d3, d4] => { results := [.lit (.bool true)], args := [d1, d2, d3, d4] }
  | _ => none }
def cborSkipsRow : OpenClaim := { program := "ytjedfmknnkimmaadoor", sum := "9b546ff67a01a7bc4285f305c401cdf59b44e6f07978ac1f97f010285a32094b", func := "passkey/passkeylaw1.CborSkips", spec := "cborSkips", inPlace := ["internal/bytealg.Compare"], unfollowed := true, recurses := true, named := ["unicode/utf8.first", "unicode/utf8.acceptRanges"], apart := false, laid := [("unicode/utf8.acceptRanges", laid_unicode_utf8_acceptRanges), ("unicode/utf8.first", laid_unicode_utf8_first)] }
def CborSkipsSaid : Prop := cborSkipsRow.holds Tryd.pinned (OpenSpec.ofChange cborSkipsSpec)

/-- ITS FALSE NEIGHBOUR: 'it returns false'. Refute it at one input. -/
def cborSkipsWrong : ChangeSpec := { name := "cborSkips", fn := fun _ => fun
  | [d1, d2, d3, d4] => { results := [.lit (.bool false)], args := [d1, d2, d3, d4] }
  | _ => none }
def CborSkipsWrongFalsely : Prop := cborSkipsRow.holds Tryd.pinned (OpenSpec.ofChange cborSkipsWrong)

/-- 'passkeylaw1.CborLookups': WHATEVER THE INPUT: true; the input reads as it did. -/
def cborLookupsSpec : ChangeSpec := { name := "cborLookups", fn := fun _ => fun
  | [d1, d2, d3] => { results := [.lit (.bool true)], args := [d1, d2, d3] }
  | _ => none }
def cborLookupsRow : OpenClaim := { program := "ytjedfmknnkimmaadoor", sum := "9b546ff67a01a7bc4285f305c401cdf59b44e6f07978ac1f97f010285a32094b", func := "passkey/passkeylaw1.CborLookups", spec := "cborLookups", inPlace := ["internal/bytealg.Compare"], unfollowed := true, recurses := true, named := ["unicode/utf8.first", "unicode/utf8.acceptRanges"], apart := false, laid := [("unicode/utf8.acceptRanges", laid_unicode_utf8_acceptRanges), ("unicode/utf8.first", laid_unicode_utf8_first)] }
def CborLookupsSaid : Prop := cborLookupsRow.holds Tryd.pinned (OpenSpec.ofChange cborLookupsSpec)

/-- ITS FALSE NEIGHBOUR: 'it returns false'. Refute it at one input. -/
def cborLookupsWrong : ChangeSpec := { name := "cborLookups", fn := fun _ => fun
  | [d1, d2, d3] => { results := [.lit (.bool false)], args := [d1, d2, d3] }
  | _ => none }
def CborLookupsWrongFalsely : Prop := cborLookupsRow.holds Tryd.pinned (OpenSpec.ofChange cborLookupsWrong)

/-- 'passkeylaw1.CborMaps': WHATEVER THE INPUT: true; the input reads as it did. -/
def cborMapsSpec : ChangeSpec := { name := "cborMaps", fn := fun _ => fun
  | [d1, d2, d3] => { results := [.lit (.bool true)], args := [d1, d2, d3] }
  | _ => none }
def cborMapsRow : OpenClaim := { program := "ytjedfmknnkimmaadoor", sum := "9b546ff67a01a7bc4285f305c401cdf59b44e6f07978ac1f97f010285a32094b", func := "passkey/passkeylaw1.CborMaps", spec := "cborMaps", inPlace := ["internal/bytealg.Compare"], unfollowed := true, recurses := true, named := ["unicode/utf8.first", "unicode/utf8.acceptRanges"], apart := false, laid := [("unicode/utf8.acceptRanges", laid_unicode_utf8_acceptRanges), ("unicode/utf8.first", laid_unicode_utf8_first)] }
def CborMapsSaid : Prop := cborMapsRow.holds Tryd.pinned (OpenSpec.ofChange cborMapsSpec)

/-- ITS FALSE NEIGHBOUR: 'it returns false'. Refute it at one input. -/
def cborMapsWrong : ChangeSpec := { name := "cborMaps", fn := fun _ => fun
  | [d1, d2, d3] => { results := [.lit (.bool false)], args := [d1, d2, d3] }
  | _ => none }
def CborMapsWrongFalsely : Prop := cborMapsRow.holds Tryd.pinned (OpenSpec.ofChange cborMapsWrong)

/- THE SECOND FORM. 'bulk': how many values and letters a reading holds, each counted each time it is reached (what is shared counts as often as it is met; a slice's spare places count too). A statement '..UptoSaid' is the law's where the arguments, and the package variables that the reading takes, are together of bulk at most 1048576: NARROWER than '..Said'. Prove '..Said' where nothing that the law and all that it calls make is longer than what came in: it says more and counts as full. Else prove '..UptoSaid'. A law counts once. -/
mutual
def uptoBulk {H : Type} : DataW H → Nat
  | .lit (.string bytes) => bytes.length + 1
  | .lit _ => 1
  | .nil => 1
  | .ptr d => uptoBulk d + 1
  | .slice elems spare => uptoBulkAll elems + uptoBulkAll spare + 1
  | .agg parts => uptoBulkAll parts + 1
  | .iface _ d => uptoBulk d + 1
  | .map entries => uptoBulkEntries entries + 1
  | .held _ => 1
def uptoBulkAll {H : Type} : List (DataW H) → Nat
  | [] => 0
  | d :: r => uptoBulk d + uptoBulkAll r
def uptoBulkEntries {H : Type} : List (Lit × DataW H) → Nat
  | [] => 0
  | x :: r => uptoBulkEntry x + uptoBulkEntries r
def uptoBulkEntry {H : Type} : Lit × DataW H → Nat
  | (.string bytes, d) => bytes.length + uptoBulk d + 1
  | (_, d) => uptoBulk d + 1
 end
def uptoSmall : (H : Type) → List (DataW H) → Bool := fun _ ds => decide (uptoBulkAll ds ≤ 1048576)
def OpenSpec.upto (s : _root_.Go.ChangeSpec) : _root_.Go.OpenSpec := { _root_.Go.OpenSpec.ofChange s with cond := some uptoSmall }

/-- 'passkeylaw1.CborValidates', WHERE WHAT IT READS IS OF BULK AT MOST 1048576: true; the input reads as it did. -/
def cborValidatesUptoRow : OpenClaim := { program := "ytjedfmknnkimmaadoor", sum := "9b546ff67a01a7bc4285f305c401cdf59b44e6f07978ac1f97f010285a32094b", func := "passkey/passkeylaw1.CborValidates", spec := "cborValidates", inPlace := ["internal/bytealg.Compare"], unfollowed := true, recurses := true, named := ["unicode/utf8.first", "unicode/utf8.acceptRanges"], apart := false, laid := [("unicode/utf8.acceptRanges", laid_unicode_utf8_acceptRanges), ("unicode/utf8.first", laid_unicode_utf8_first)], narrowed := true }
def CborValidatesUptoSaid : Prop := cborValidatesUptoRow.holds Tryd.pinned (OpenSpec.upto cborValidatesSpec)

/-- 'passkeylaw1.CborEncodes', WHERE WHAT IT READS IS OF BULK AT MOST 1048576: true; the input reads as it did. -/
def cborEncodesUptoRow : OpenClaim := { program := "ytjedfmknnkimmaadoor", sum := "9b546ff67a01a7bc4285f305c401cdf59b44e6f07978ac1f97f010285a32094b", func := "passkey/passkeylaw1.CborEncodes", spec := "cborEncodes", inPlace := ["internal/bytealg.Compare"], unfollowed := true, recurses := true, named := ["unicode/utf8.first", "unicode/utf8.acceptRanges"], apart := false, laid := [("unicode/utf8.acceptRanges", laid_unicode_utf8_acceptRanges), ("unicode/utf8.first", laid_unicode_utf8_first)], narrowed := true }
def CborEncodesUptoSaid : Prop := cborEncodesUptoRow.holds Tryd.pinned (OpenSpec.upto cborEncodesSpec)

/-- 'passkeylaw1.CborDecodes', WHERE WHAT IT READS IS OF BULK AT MOST 1048576: true; the input reads as it did. -/
def cborDecodesUptoRow : OpenClaim := { program := "ytjedfmknnkimmaadoor", sum := "9b546ff67a01a7bc4285f305c401cdf59b44e6f07978ac1f97f010285a32094b", func := "passkey/passkeylaw1.CborDecodes", spec := "cborDecodes", inPlace := ["internal/bytealg.Compare"], unfollowed := true, recurses := true, named := ["unicode/utf8.first", "unicode/utf8.acceptRanges"], apart := false, laid := [("unicode/utf8.acceptRanges", laid_unicode_utf8_acceptRanges), ("unicode/utf8.first", laid_unicode_utf8_first)], narrowed := true }
def CborDecodesUptoSaid : Prop := cborDecodesUptoRow.holds Tryd.pinned (OpenSpec.upto cborDecodesSpec)

/-- 'passkeylaw1.CborBack', WHERE WHAT IT READS IS OF BULK AT MOST 1048576: true; the input reads as it did. -/
def cborBackUptoRow : OpenClaim := { program := "ytjedfmknnkimmaadoor", sum := "9b546ff67a01a7bc4285f305c401cdf59b44e6f07978ac1f97f010285a32094b", func := "passkey/passkeylaw1.CborBack", spec := "cborBack", inPlace := ["internal/bytealg.Compare"], unfollowed := true, recurses := true, named := ["unicode/utf8.first", "unicode/utf8.acceptRanges"], apart := false, laid := [("unicode/utf8.acceptRanges", laid_unicode_utf8_acceptRanges), ("unicode/utf8.first", laid_unicode_utf8_first)], narrowed := true }
def CborBackUptoSaid : Prop := cborBackUptoRow.holds Tryd.pinned (OpenSpec.upto cborBackSpec)

/-- 'passkeylaw1.CborUnique', WHERE WHAT IT READS IS OF BULK AT MOST 1048576: true; the input reads as it did. -/
def cborUniqueUptoRow : OpenClaim := { program := "ytjedfmknnkimmaadoor", sum := "9b546ff67a01a7bc4285f305c401cdf59b44e6f07978ac1f97f010285a32094b", func := "passkey/passkeylaw1.CborUnique", spec := "cborUnique", inPlace := ["internal/bytealg.Compare"], unfollowed := true, recurses := true, named := ["unicode/utf8.first", "unicode/utf8.acceptRanges"], apart := false, laid := [("unicode/utf8.acceptRanges", laid_unicode_utf8_acceptRanges), ("unicode/utf8.first", laid_unicode_utf8_first)], narrowed := true }
def CborUniqueUptoSaid : Prop := cborUniqueUptoRow.holds Tryd.pinned (OpenSpec.upto cborUniqueSpec)

/-- 'passkeylaw1.CborCuts', WHERE WHAT IT READS IS OF BULK AT MOST 1048576: true; the input reads as it did. -/
def cborCutsUptoRow : OpenClaim := { program := "ytjedfmknnkimmaadoor", sum := "9b546ff67a01a7bc4285f305c401cdf59b44e6f07978ac1f97f010285a32094b", func := "passkey/passkeylaw1.CborCuts", spec := "cborCuts", inPlace := ["internal/bytealg.Compare"], unfollowed := true, recurses := true, named := ["unicode/utf8.first", "unicode/utf8.acceptRanges"], apart := false, laid := [("unicode/utf8.acceptRanges", laid_unicode_utf8_acceptRanges), ("unicode/utf8.first", laid_unicode_utf8_first)], narrowed := true }
def CborCutsUptoSaid : Prop := cborCutsUptoRow.holds Tryd.pinned (OpenSpec.upto cborCutsSpec)

/-- 'passkeylaw1.CborDepth', WHERE WHAT IT READS IS OF BULK AT MOST 1048576: true; the input reads as it did. -/
def cborDepthUptoRow : OpenClaim := { program := "ytjedfmknnkimmaadoor", sum := "9b546ff67a01a7bc4285f305c401cdf59b44e6f07978ac1f97f010285a32094b", func := "passkey/passkeylaw1.CborDepth", spec := "cborDepth", inPlace := ["internal/bytealg.Compare"], unfollowed := true, recurses := true, named := ["unicode/utf8.first", "unicode/utf8.acceptRanges"], apart := false, laid := [("unicode/utf8.acceptRanges", laid_unicode_utf8_acceptRanges), ("unicode/utf8.first", laid_unicode_utf8_first)], narrowed := true }
def CborDepthUptoSaid : Prop := cborDepthUptoRow.holds Tryd.pinned (OpenSpec.upto cborDepthSpec)

/-- 'passkeylaw1.CborItems', WHERE WHAT IT READS IS OF BULK AT MOST 1048576: true; the input reads as it did. -/
def cborItemsUptoRow : OpenClaim := { program := "ytjedfmknnkimmaadoor", sum := "9b546ff67a01a7bc4285f305c401cdf59b44e6f07978ac1f97f010285a32094b", func := "passkey/passkeylaw1.CborItems", spec := "cborItems", inPlace := ["internal/bytealg.Compare"], unfollowed := true, recurses := true, named := ["unicode/utf8.first", "unicode/utf8.acceptRanges"], apart := false, laid := [("unicode/utf8.acceptRanges", laid_unicode_utf8_acceptRanges), ("unicode/utf8.first", laid_unicode_utf8_first)], narrowed := true }
def CborItemsUptoSaid : Prop := cborItemsUptoRow.holds Tryd.pinned (OpenSpec.upto cborItemsSpec)

/-- 'passkeylaw1.CborSkips', WHERE WHAT IT READS IS OF BULK AT MOST 1048576: true; the input reads as it did. -/
def cborSkipsUptoRow : OpenClaim := { program := "ytjedfmknnkimmaadoor", sum := "9b546ff67a01a7bc4285f305c401cdf59b44e6f07978ac1f97f010285a32094b", func := "passkey/passkeylaw1.CborSkips", spec := "cborSkips", inPlace := ["internal/bytealg.Compare"], unfollowed := true, recurses := true, named := ["unicode/utf8.first", "unicode/utf8.acceptRanges"], apart := false, laid := [("unicode/utf8.acceptRanges", laid_unicode_utf8_acceptRanges), ("unicode/utf8.first", laid_unicode_utf8_first)], narrowed := true }
def CborSkipsUptoSaid : Prop := cborSkipsUptoRow.holds Tryd.pinned (OpenSpec.upto cborSkipsSpec)

/-- 'passkeylaw1.CborLookups', WHERE WHAT IT READS IS OF BULK AT MOST 1048576: true; the input reads as it did. -/
def cborLookupsUptoRow : OpenClaim := { program := "ytjedfmknnkimmaadoor", sum := "9b546ff67a01a7bc4285f305c401cdf59b44e6f07978ac1f97f010285a32094b", func := "passkey/passkeylaw1.CborLookups", spec := "cborLookups", inPlace := ["internal/bytealg.Compare"], unfollowed := true, recurses := true, named := ["unicode/utf8.first", "unicode/utf8.acceptRanges"], apart := false, laid := [("unicode/utf8.acceptRanges", laid_unicode_utf8_acceptRanges), ("unicode/utf8.first", laid_unicode_utf8_first)], narrowed := true }
def CborLookupsUptoSaid : Prop := cborLookupsUptoRow.holds Tryd.pinned (OpenSpec.upto cborLookupsSpec)

/-- 'passkeylaw1.CborMaps', WHERE WHAT IT READS IS OF BULK AT MOST 1048576: true; the input reads as it did. -/
def cborMapsUptoRow : OpenClaim := { program := "ytjedfmknnkimmaadoor", sum := "9b546ff67a01a7bc4285f305c401cdf59b44e6f07978ac1f97f010285a32094b", func := "passkey/passkeylaw1.CborMaps", spec := "cborMaps", inPlace := ["internal/bytealg.Compare"], unfollowed := true, recurses := true, named := ["unicode/utf8.first", "unicode/utf8.acceptRanges"], apart := false, laid := [("unicode/utf8.acceptRanges", laid_unicode_utf8_acceptRanges), ("unicode/utf8.first", laid_unicode_utf8_first)], narrowed := true }
def CborMapsUptoSaid : Prop := cborMapsUptoRow.holds Tryd.pinned (OpenSpec.upto cborMapsSpec)

end Rows
end Go.Proofs.YtjedfmknnkimmaaDoor

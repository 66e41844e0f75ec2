/-
  NARROWER THAN 'FOR EVERY INPUT', by the rows' own cells (each row's printed sentence says how): PinCharges: laid · PinBound: laid · PinRow: laid · PinWeak: laid · PinHashes: laid.
  DERIVED. THE GIVEN ROWS OF THIS SEAT. 5 by the template 'for every input the law returns true; each argument reads behind the call as it read before'; 0 by the template 'total and deterministic' (their statements: YtlbafgkhnhkanaaDoorTotals.lean).
  GIVEN WITH THE SEED: the statements are not yours to turn. If you find one false, say at which input.
  Laid BY PROGRAM, IN A SANDBOX (cutbox-rows.mjs): the forced cells as the released guide's own fill.sh prints them over the translation 0018324308421b31… (all of the seat's roots in one cut). By AI agents, Wed Nov 11 2026. No macro, syntax, notation, axiom, sorry.
-/
import Derived.Test.YtlbafgkhnhkanaaDoorChecked
import GoSem.PinnedTables
import GoSem.Claim
import GoSem.ClaimJoined
import GoSem.ClaimMapViews
import Derived.JoinedTies
import Derived.KernelRfl
namespace Go.Proofs.YtlbafgkhnhkanaaDoor
/- THE CELL 'sum', in the pinned program and in every row, IS THE sha256 OF THE DUMP (.gsa) THAT YtlbafgkhnhkanaaDoorProg.lean LOADS. Nothing in Lean hashes anything: it is a label: what it is worth is what the hold of that sum in a sandbox is worth. -/
noncomputable def Tryd.pinned : Pinned := { name := "ytlbafgkhnhkanaadoor", sum := "0018324308421b318757b22b44cee91ece359a6b1c010179235993e93c964034", checked := Tryd.checked }
namespace Rows
def none {H : Type} : Left H := { results := [], args := [] }

/- WHAT THE LISTED PACKAGE-LEVEL VARIABLES READ AS WHEN THE CALL BEGINS. Each datum BY PROGRAM (the guide's laid-datum.mjs) off the statement by which the dump's own 'gosem.cut.vars' lays the variable. In a bare row this is a premise. The card (YtlbafgkhnhkanaaDoorCards.lean) ties it to the program's text. -/
def laid_unicode_utf8_acceptRanges {H : Type} : DataW H := .agg [.agg [.lit (.int .u8 128), .lit (.int .u8 191)], .agg [.lit (.int .u8 160), .lit (.int .u8 191)], .agg [.lit (.int .u8 128), .lit (.int .u8 159)], .agg [.lit (.int .u8 144), .lit (.int .u8 191)], .agg [.lit (.int .u8 128), .lit (.int .u8 143)], .agg [.lit (.int .u8 0), .lit (.int .u8 0)], .agg [.lit (.int .u8 0), .lit (.int .u8 0)], .agg [.lit (.int .u8 0), .lit (.int .u8 0)], .agg [.lit (.int .u8 0), .lit (.int .u8 0)], .agg [.lit (.int .u8 0), .lit (.int .u8 0)], .agg [.lit (.int .u8 0), .lit (.int .u8 0)], .agg [.lit (.int .u8 0), .lit (.int .u8 0)], .agg [.lit (.int .u8 0), .lit (.int .u8 0)], .agg [.lit (.int .u8 0), .lit (.int .u8 0)], .agg [.lit (.int .u8 0), .lit (.int .u8 0)], .agg [.lit (.int .u8 0), .lit (.int .u8 0)]]
/-- One of Go's own tables, pinned by name: the form's constant. -/
def laid_unicode_utf8_first : DataW Unit := Go.Pinned.utf8First

/-- 'passkeylaw11.PinCharges': WHATEVER THE INPUT: true; the input reads as it did. -/
def pinChargesSpec : ChangeSpec := { name := "pinCharges", fn := fun _ => fun
  | [d1, d2, d3] => { results := [.lit (.bool true)], args := [d1, d2, d3] }
  | _ => none }
def pinChargesRow : OpenClaim := { program := "ytlbafgkhnhkanaadoor", sum := "0018324308421b318757b22b44cee91ece359a6b1c010179235993e93c964034", func := "passkey/passkeylaw11.PinCharges", spec := "pinCharges", inPlace := ["internal/bytealg.IndexByteString"], named := ["unicode/utf8.first", "unicode/utf8.acceptRanges"], apart := false, laid := [("unicode/utf8.acceptRanges", laid_unicode_utf8_acceptRanges), ("unicode/utf8.first", laid_unicode_utf8_first)] }
def PinChargesSaid : Prop := pinChargesRow.holds Tryd.pinned (OpenSpec.ofChange pinChargesSpec)

/-- ITS FALSE NEIGHBOUR: 'it returns false'. Refute it at one input. -/
def pinChargesWrong : ChangeSpec := { name := "pinCharges", fn := fun _ => fun
  | [d1, d2, d3] => { results := [.lit (.bool false)], args := [d1, d2, d3] }
  | _ => none }
def PinChargesWrongFalsely : Prop := pinChargesRow.holds Tryd.pinned (OpenSpec.ofChange pinChargesWrong)

/-- 'passkeylaw11.PinBound': WHATEVER THE INPUT: true; the input reads as it did. -/
def pinBoundSpec : ChangeSpec := { name := "pinBound", fn := fun _ => fun
  | [d] => { results := [.lit (.bool true)], args := [d] }
  | _ => none }
def pinBoundRow : OpenClaim := { program := "ytlbafgkhnhkanaadoor", sum := "0018324308421b318757b22b44cee91ece359a6b1c010179235993e93c964034", func := "passkey/passkeylaw11.PinBound", spec := "pinBound", inPlace := ["internal/bytealg.IndexByteString"], named := ["unicode/utf8.first", "unicode/utf8.acceptRanges"], apart := false, laid := [("unicode/utf8.acceptRanges", laid_unicode_utf8_acceptRanges), ("unicode/utf8.first", laid_unicode_utf8_first)] }
def PinBoundSaid : Prop := pinBoundRow.holds Tryd.pinned (OpenSpec.ofChange pinBoundSpec)

/-- ITS FALSE NEIGHBOUR: 'it returns false'. Refute it at one input. -/
def pinBoundWrong : ChangeSpec := { name := "pinBound", fn := fun _ => fun
  | [d] => { results := [.lit (.bool false)], args := [d] }
  | _ => none }
def PinBoundWrongFalsely : Prop := pinBoundRow.holds Tryd.pinned (OpenSpec.ofChange pinBoundWrong)

/-- 'passkeylaw11.PinRow': WHATEVER THE INPUT: true; the input reads as it did. -/
def pinRowSpec : ChangeSpec := { name := "pinRow", fn := fun _ => fun
  | [d1, d2] => { results := [.lit (.bool true)], args := [d1, d2] }
  | _ => none }
def pinRowRow : OpenClaim := { program := "ytlbafgkhnhkanaadoor", sum := "0018324308421b318757b22b44cee91ece359a6b1c010179235993e93c964034", func := "passkey/passkeylaw11.PinRow", spec := "pinRow", inPlace := ["internal/bytealg.IndexByteString"], named := ["unicode/utf8.first", "unicode/utf8.acceptRanges"], apart := false, laid := [("unicode/utf8.acceptRanges", laid_unicode_utf8_acceptRanges), ("unicode/utf8.first", laid_unicode_utf8_first)] }
def PinRowSaid : Prop := pinRowRow.holds Tryd.pinned (OpenSpec.ofChange pinRowSpec)

/-- ITS FALSE NEIGHBOUR: 'it returns false'. Refute it at one input. -/
def pinRowWrong : ChangeSpec := { name := "pinRow", fn := fun _ => fun
  | [d1, d2] => { results := [.lit (.bool false)], args := [d1, d2] }
  | _ => none }
def PinRowWrongFalsely : Prop := pinRowRow.holds Tryd.pinned (OpenSpec.ofChange pinRowWrong)

/-- 'passkeylaw11.PinWeak': WHATEVER THE INPUT: true; the input reads as it did. -/
def pinWeakSpec : ChangeSpec := { name := "pinWeak", fn := fun _ => fun
  | [d1, d2, d3] => { results := [.lit (.bool true)], args := [d1, d2, d3] }
  | _ => none }
def pinWeakRow : OpenClaim := { program := "ytlbafgkhnhkanaadoor", sum := "0018324308421b318757b22b44cee91ece359a6b1c010179235993e93c964034", func := "passkey/passkeylaw11.PinWeak", spec := "pinWeak", inPlace := ["internal/bytealg.IndexByteString"], named := ["unicode/utf8.first", "unicode/utf8.acceptRanges"], apart := false, laid := [("unicode/utf8.acceptRanges", laid_unicode_utf8_acceptRanges), ("unicode/utf8.first", laid_unicode_utf8_first)] }
def PinWeakSaid : Prop := pinWeakRow.holds Tryd.pinned (OpenSpec.ofChange pinWeakSpec)

/-- ITS FALSE NEIGHBOUR: 'it returns false'. Refute it at one input. -/
def pinWeakWrong : ChangeSpec := { name := "pinWeak", fn := fun _ => fun
  | [d1, d2, d3] => { results := [.lit (.bool false)], args := [d1, d2, d3] }
  | _ => none }
def PinWeakWrongFalsely : Prop := pinWeakRow.holds Tryd.pinned (OpenSpec.ofChange pinWeakWrong)

/-- 'passkeylaw11.PinHashes': WHATEVER THE INPUT: true; the input reads as it did. -/
def pinHashesSpec : ChangeSpec := { name := "pinHashes", fn := fun _ => fun
  | [d1, d2, d3] => { results := [.lit (.bool true)], args := [d1, d2, d3] }
  | _ => none }
def pinHashesRow : OpenClaim := { program := "ytlbafgkhnhkanaadoor", sum := "0018324308421b318757b22b44cee91ece359a6b1c010179235993e93c964034", func := "passkey/passkeylaw11.PinHashes", spec := "pinHashes", inPlace := ["internal/bytealg.IndexByteString"], named := ["unicode/utf8.first", "unicode/utf8.acceptRanges"], apart := false, laid := [("unicode/utf8.acceptRanges", laid_unicode_utf8_acceptRanges), ("unicode/utf8.first", laid_unicode_utf8_first)] }
def PinHashesSaid : Prop := pinHashesRow.holds Tryd.pinned (OpenSpec.ofChange pinHashesSpec)

/-- ITS FALSE NEIGHBOUR: 'it returns false'. Refute it at one input. -/
def pinHashesWrong : ChangeSpec := { name := "pinHashes", fn := fun _ => fun
  | [d1, d2, d3] => { results := [.lit (.bool false)], args := [d1, d2, d3] }
  | _ => none }
def PinHashesWrongFalsely : Prop := pinHashesRow.holds Tryd.pinned (OpenSpec.ofChange pinHashesWrong)

/- THE SECOND FORM. 'bulk': how many values and letters a reading holds, each counted each time it is reached (what is shared counts as often as it is met; a slice's spare places count too). A statement '..UptoSaid' is the law's where the arguments, and the package variables that the reading takes, are together of bulk at most 1048576: NARROWER than '..Said'. Prove '..Said' where nothing that the law and all that it calls make is longer than what came in: it says more and counts as full. Else prove '..UptoSaid'. A law counts once. -/
mutual
def uptoBulk {H : Type} : DataW H → Nat
  | .lit (.string bytes) => bytes.length + 1
  | .lit _ => 1
  | .nil => 1
  | .ptr d => uptoBulk d + 1
  | .slice elems spare => uptoBulkAll elems + uptoBulkAll spare + 1
  | .agg parts => uptoBulkAll parts + 1
  | .iface _ d => uptoBulk d + 1
  | .map entries => uptoBulkEntries entries + 1
  | .held _ => 1
def uptoBulkAll {H : Type} : List (DataW H) → Nat
  | [] => 0
  | d :: r => uptoBulk d + uptoBulkAll r
def uptoBulkEntries {H : Type} : List (Lit × DataW H) → Nat
  | [] => 0
  | x :: r => uptoBulkEntry x + uptoBulkEntries r
def uptoBulkEntry {H : Type} : Lit × DataW H → Nat
  | (.string bytes, d) => bytes.length + uptoBulk d + 1
  | (_, d) => uptoBulk d + 1
 end
def uptoSmall : (H : Type) → List (DataW H) → Bool := fun _ ds => decide (uptoBulkAll ds ≤ 1048576)
def OpenSpec.upto (s : _root_.Go.ChangeSpec) : _root_.Go.OpenSpec := { _root_.Go.OpenSpec.ofChange s with cond := some uptoSmall }

/-- 'passkeylaw11.PinCharges', WHERE WHAT IT READS IS OF BULK AT MOST 1048576: true; the input reads as it did. -/
def pinChargesUptoRow : OpenClaim := { program := "ytlbafgkhnhkanaadoor", sum := "0018324308421b318757b22b44cee91ece359a6b1c010179235993e93c964034", func := "passkey/passkeylaw11.PinCharges", spec := "pinCharges", inPlace := ["internal/bytealg.IndexByteString"], named := ["unicode/utf8.first", "unicode/utf8.acceptRanges"], apart := false, laid := [("unicode/utf8.acceptRanges", laid_unicode_utf8_acceptRanges), ("unicode/utf8.first", laid_unicode_utf8_first)], narrowed := true }
def PinChargesUptoSaid : Prop := pinChargesUptoRow.holds Tryd.pinned (OpenSpec.upto pinChargesSpec)

/-- 'passkeylaw11.PinBound', WHERE WHAT IT READS IS OF BULK AT MOST 1048576: true; the input reads as it did. -/
def pinBoundUptoRow : OpenClaim := { program := "ytlbafgkhnhkanaadoor", sum := "0018324308421b318757b22b44cee91ece359a6b1c010179235993e93c964034", func := "passkey/passkeylaw11.PinBound", spec := "pinBound", inPlace := ["internal/bytealg.IndexByteString"], named := ["unicode/utf8.first", "unicode/utf8.acceptRanges"], apart := false, laid := [("unicode/utf8.acceptRanges", laid_unicode_utf8_acceptRanges), ("unicode/utf8.first", laid_unicode_utf8_first)], narrowed := true }
def PinBoundUptoSaid : Prop := pinBoundUptoRow.holds Tryd.pinned (OpenSpec.upto pinBoundSpec)

/-- 'passkeylaw11.PinRow', WHERE WHAT IT READS IS OF BULK AT MOST 1048576: true; the input reads as it did. -/
def pinRowUptoRow : OpenClaim := { program := "ytlbafgkhnhkanaadoor", sum := "0018324308421b318757b22b44cee91ece359a6b1c010179235993e93c964034", func := "passkey/passkeylaw11.PinRow", spec := "pinRow", inPlace := ["internal/bytealg.IndexByteString"], named := ["unicode/utf8.first", "unicode/utf8.acceptRanges"], apart := false, laid := [("unicode/utf8.acceptRanges", laid_unicode_utf8_acceptRanges), ("unicode/utf8.first", laid_unicode_utf8_first)], narrowed := true }
def PinRowUptoSaid : Prop := pinRowUptoRow.holds Tryd.pinned (OpenSpec.upto pinRowSpec)

/-- 'passkeylaw11.PinWeak', WHERE WHAT IT READS IS OF BULK AT MOST 1048576: true; the input reads as it did. -/
def pinWeakUptoRow : OpenClaim := { program := "ytlbafgkhnhkanaadoor", sum := "0018324308421b318757b22b44cee91ece359a6b1c010179235993e93c964034", func := "passkey/passkeylaw11.PinWeak", spec := "pinWeak", inPlace := ["internal/bytealg.IndexByteString"], named := ["unicode/utf8.first", "unicode/utf8.acceptRanges"], apart := false, laid := [("unicode/utf8.acceptRanges", laid_unicode_utf8_acceptRanges), ("unicode/utf8.first", laid_unicode_utf8_first)], narrowed := true }
def PinWeakUptoSaid : Prop := pinWeakUptoRow.holds Tryd.pinned (OpenSpec.upto pinWeakSpec)

/-- 'passkeylaw11.PinHashes', WHERE WHAT IT READS IS OF BULK AT MOST 1048576: true; the input reads as it did. -/
def pinHashesUptoRow : OpenClaim := { program := "ytlbafgkhnhkanaadoor", sum := "0018324308421b318757b22b44cee91ece359a6b1c010179235993e93c964034", func := "passkey/passkeylaw11.PinHashes", spec := "pinHashes", inPlace := ["internal/bytealg.IndexByteString"], named := ["unicode/utf8.first", "unicode/utf8.acceptRanges"], apart := false, laid := [("unicode/utf8.acceptRanges", laid_unicode_utf8_acceptRanges), ("unicode/utf8.first", laid_unicode_utf8_first)], narrowed := true }
def PinHashesUptoSaid : Prop := pinHashesUptoRow.holds Tryd.pinned (OpenSpec.upto pinHashesSpec)

end Rows
end Go.Proofs.YtlbafgkhnhkanaaDoor

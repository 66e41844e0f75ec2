/-
  No cell of these rows narrows 'for every input' (looked for: loops, veiled, ifaces, maps, wideKeys, modest, calm, conditions, laid).
  DERIVED. THE GIVEN ROWS OF THIS SEAT. 4 by the template 'for every input the law returns true; each argument reads behind the call as it read before'; 0 by the template 'total and deterministic' (their statements: YtlinfghjilpcdaaTotals.lean).
  GIVEN WITH THE SEED: the statements are not yours to turn. If you find one false, say at which input.
  Laid BY PROGRAM, IN A SANDBOX (cutbox-rows.mjs): the forced cells as the released guide's own fill.sh prints them over the translation c38b956c14d68e30… (all of the seat's roots in one cut). By AI agents, Wed Nov 11 2026. No macro, syntax, notation, axiom, sorry.
-/
import Derived.Test.YtlinfghjilpcdaaChecked
import GoSem.Claim
import GoSem.ClaimJoined
import GoSem.ClaimMapViews
import Derived.JoinedTies
import Derived.KernelRfl
namespace Go.Proofs.Ytlinfghjilpcdaa
/- THE CELL 'sum', in the pinned program and in every row, IS THE sha256 OF THE DUMP (.gsa) THAT YtlinfghjilpcdaaProg.lean LOADS. Nothing in Lean hashes anything: it is a label: what it is worth is what the hold of that sum in a sandbox is worth. -/
noncomputable def Try.pinned : Pinned := { name := "ytlinfghjilpcdaa", sum := "c38b956c14d68e306ae8ac537a59e180ef82ea8fd419a75ea964f113d38c545e", checked := Try.checked }
namespace Rows
def none {H : Type} : Left H := { results := [], args := [] }

/-- 'passkeylaw29.ChallengePlays': WHATEVER THE INPUT: true; the input reads as it did. -/
def challengePlaysSpec : ChangeSpec := { name := "challengePlays", fn := fun _ => fun
  | [d1, d2, d3, d4, d5] => { results := [.lit (.bool true)], args := [d1, d2, d3, d4, d5] }
  | _ => none }
def challengePlaysRow : OpenClaim := { program := "ytlinfghjilpcdaa", sum := "c38b956c14d68e306ae8ac537a59e180ef82ea8fd419a75ea964f113d38c545e", func := "passkey/passkeylaw29.ChallengePlays", spec := "challengePlays", apart := false }
def ChallengePlaysSaid : Prop := challengePlaysRow.holds Try.pinned (OpenSpec.ofChange challengePlaysSpec)

/-- ITS FALSE NEIGHBOUR: 'it returns false'. Refute it at one input. -/
def challengePlaysWrong : ChangeSpec := { name := "challengePlays", fn := fun _ => fun
  | [d1, d2, d3, d4, d5] => { results := [.lit (.bool false)], args := [d1, d2, d3, d4, d5] }
  | _ => none }
def ChallengePlaysWrongFalsely : Prop := challengePlaysRow.holds Try.pinned (OpenSpec.ofChange challengePlaysWrong)

/-- 'passkeylaw29.ChallengeBytes': WHATEVER THE INPUT: true; the input reads as it did. -/
def challengeBytesSpec : ChangeSpec := { name := "challengeBytes", fn := fun _ => fun
  | [d1, d2] => { results := [.lit (.bool true)], args := [d1, d2] }
  | _ => none }
def challengeBytesRow : OpenClaim := { program := "ytlinfghjilpcdaa", sum := "c38b956c14d68e306ae8ac537a59e180ef82ea8fd419a75ea964f113d38c545e", func := "passkey/passkeylaw29.ChallengeBytes", spec := "challengeBytes", apart := false }
def ChallengeBytesSaid : Prop := challengeBytesRow.holds Try.pinned (OpenSpec.ofChange challengeBytesSpec)

/-- ITS FALSE NEIGHBOUR: 'it returns false'. Refute it at one input. -/
def challengeBytesWrong : ChangeSpec := { name := "challengeBytes", fn := fun _ => fun
  | [d1, d2] => { results := [.lit (.bool false)], args := [d1, d2] }
  | _ => none }
def ChallengeBytesWrongFalsely : Prop := challengeBytesRow.holds Try.pinned (OpenSpec.ofChange challengeBytesWrong)

/-- 'passkeylaw29.ChallengeOnce': WHATEVER THE INPUT: true; the input reads as it did. -/
def challengeOnceSpec : ChangeSpec := { name := "challengeOnce", fn := fun _ => fun
  | [d1, d2, d3, d4] => { results := [.lit (.bool true)], args := [d1, d2, d3, d4] }
  | _ => none }
def challengeOnceRow : OpenClaim := { program := "ytlinfghjilpcdaa", sum := "c38b956c14d68e306ae8ac537a59e180ef82ea8fd419a75ea964f113d38c545e", func := "passkey/passkeylaw29.ChallengeOnce", spec := "challengeOnce", apart := false }
def ChallengeOnceSaid : Prop := challengeOnceRow.holds Try.pinned (OpenSpec.ofChange challengeOnceSpec)

/-- ITS FALSE NEIGHBOUR: 'it returns false'. Refute it at one input. -/
def challengeOnceWrong : ChangeSpec := { name := "challengeOnce", fn := fun _ => fun
  | [d1, d2, d3, d4] => { results := [.lit (.bool false)], args := [d1, d2, d3, d4] }
  | _ => none }
def ChallengeOnceWrongFalsely : Prop := challengeOnceRow.holds Try.pinned (OpenSpec.ofChange challengeOnceWrong)

/-- 'passkeylaw29.ChallengeFull': WHATEVER THE INPUT: true; the input reads as it did. -/
def challengeFullSpec : ChangeSpec := { name := "challengeFull", fn := fun _ => fun
  | [d1, d2, d3] => { results := [.lit (.bool true)], args := [d1, d2, d3] }
  | _ => none }
def challengeFullRow : OpenClaim := { program := "ytlinfghjilpcdaa", sum := "c38b956c14d68e306ae8ac537a59e180ef82ea8fd419a75ea964f113d38c545e", func := "passkey/passkeylaw29.ChallengeFull", spec := "challengeFull", apart := false }
def ChallengeFullSaid : Prop := challengeFullRow.holds Try.pinned (OpenSpec.ofChange challengeFullSpec)

/-- ITS FALSE NEIGHBOUR: 'it returns false'. Refute it at one input. -/
def challengeFullWrong : ChangeSpec := { name := "challengeFull", fn := fun _ => fun
  | [d1, d2, d3] => { results := [.lit (.bool false)], args := [d1, d2, d3] }
  | _ => none }
def ChallengeFullWrongFalsely : Prop := challengeFullRow.holds Try.pinned (OpenSpec.ofChange challengeFullWrong)

/- THE SECOND FORM. 'bulk': how many values and letters a reading holds, each counted each time it is reached (what is shared counts as often as it is met; a slice's spare places count too). A statement '..UptoSaid' is the law's where the arguments, and the package variables that the reading takes, are together of bulk at most 1048576: NARROWER than '..Said'. Prove '..Said' where nothing that the law and all that it calls make is longer than what came in: it says more and counts as full. Else prove '..UptoSaid'. A law counts once. -/
mutual
def uptoBulk {H : Type} : DataW H → Nat
  | .lit (.string bytes) => bytes.length + 1
  | .lit _ => 1
  | .nil => 1
  | .ptr d => uptoBulk d + 1
  | .slice elems spare => uptoBulkAll elems + uptoBulkAll spare + 1
  | .agg parts => uptoBulkAll parts + 1
  | .iface _ d => uptoBulk d + 1
  | .map entries => uptoBulkEntries entries + 1
  | .held _ => 1
def uptoBulkAll {H : Type} : List (DataW H) → Nat
  | [] => 0
  | d :: r => uptoBulk d + uptoBulkAll r
def uptoBulkEntries {H : Type} : List (Lit × DataW H) → Nat
  | [] => 0
  | x :: r => uptoBulkEntry x + uptoBulkEntries r
def uptoBulkEntry {H : Type} : Lit × DataW H → Nat
  | (.string bytes, d) => bytes.length + uptoBulk d + 1
  | (_, d) => uptoBulk d + 1
 end
def uptoSmall : (H : Type) → List (DataW H) → Bool := fun _ ds => decide (uptoBulkAll ds ≤ 1048576)
def OpenSpec.upto (s : _root_.Go.ChangeSpec) : _root_.Go.OpenSpec := { _root_.Go.OpenSpec.ofChange s with cond := some uptoSmall }

/-- 'passkeylaw29.ChallengePlays', WHERE WHAT IT READS IS OF BULK AT MOST 1048576: true; the input reads as it did. -/
def challengePlaysUptoRow : OpenClaim := { program := "ytlinfghjilpcdaa", sum := "c38b956c14d68e306ae8ac537a59e180ef82ea8fd419a75ea964f113d38c545e", func := "passkey/passkeylaw29.ChallengePlays", spec := "challengePlays", apart := false, narrowed := true }
def ChallengePlaysUptoSaid : Prop := challengePlaysUptoRow.holds Try.pinned (OpenSpec.upto challengePlaysSpec)

/-- 'passkeylaw29.ChallengeBytes', WHERE WHAT IT READS IS OF BULK AT MOST 1048576: true; the input reads as it did. -/
def challengeBytesUptoRow : OpenClaim := { program := "ytlinfghjilpcdaa", sum := "c38b956c14d68e306ae8ac537a59e180ef82ea8fd419a75ea964f113d38c545e", func := "passkey/passkeylaw29.ChallengeBytes", spec := "challengeBytes", apart := false, narrowed := true }
def ChallengeBytesUptoSaid : Prop := challengeBytesUptoRow.holds Try.pinned (OpenSpec.upto challengeBytesSpec)

/-- 'passkeylaw29.ChallengeOnce', WHERE WHAT IT READS IS OF BULK AT MOST 1048576: true; the input reads as it did. -/
def challengeOnceUptoRow : OpenClaim := { program := "ytlinfghjilpcdaa", sum := "c38b956c14d68e306ae8ac537a59e180ef82ea8fd419a75ea964f113d38c545e", func := "passkey/passkeylaw29.ChallengeOnce", spec := "challengeOnce", apart := false, narrowed := true }
def ChallengeOnceUptoSaid : Prop := challengeOnceUptoRow.holds Try.pinned (OpenSpec.upto challengeOnceSpec)

/-- 'passkeylaw29.ChallengeFull', WHERE WHAT IT READS IS OF BULK AT MOST 1048576: true; the input reads as it did. -/
def challengeFullUptoRow : OpenClaim := { program := "ytlinfghjilpcdaa", sum := "c38b956c14d68e306ae8ac537a59e180ef82ea8fd419a75ea964f113d38c545e", func := "passkey/passkeylaw29.ChallengeFull", spec := "challengeFull", apart := false, narrowed := true }
def ChallengeFullUptoSaid : Prop := challengeFullUptoRow.holds Try.pinned (OpenSpec.upto challengeFullSpec)

end Rows
end Go.Proofs.Ytlinfghjilpcdaa

/- The law ChallengeFull: for every input it returns true, and the arguments read as they did. No condition. -/
import Derived.Test.YtlinfghjilpcdaaChalOnce
import Derived.Test.YtlinfghjilpcdaaRows
import Derived.ProofKit
import Derived.LaidMore
import Derived.OpenShut
import Derived.Stop.Joined
import Derived.Lib.LaidIn
namespace Go.Proofs.Ytlinfghjilpcdaa
open Go Go.Abs
theorem passkeylaw29_ChallengeFull_true (x : tySs T (slots [.u64, .u8, .u8])) (hd : ArgD cd [.u64, .u8, .u8] x) : ∃ o, passkeylaw29_ChallengeFull x.1 x.2.1 x.2.2.1 = some (o, true, ()) := by
  obtain ⟨⟨o, b, u⟩, h1, h2⟩ := ChallengeFull_plain x.1 x.2.1 x.2.2.1 hd
  refine ⟨o, h1.trans ?_⟩
  simp only at h2
  rw [h2]
end Go.Proofs.Ytlinfghjilpcdaa
namespace Go.Proofs.Ytlinfghjilpcdaa.challengeFull
open Go Go.Abs Go.ChangeShapes Go.WideShapes Go.ChangeAt Go.RowKit
set_option linter.unusedVariables false
set_option maxRecDepth 100000

theorem own : ownKnob Try.prog.godebug = Option.none := by kernel_rfl
def fsOf : Option TypeDesc → Array Field
  | some (.struct fs) => fs
  | _ => #[]
theorem und4 : Try.prog.underlying 4 = some .bool := by kernel_rfl
theorem und5 : Try.prog.underlying 5 = some (.int .u8) := by kernel_rfl
theorem und22 : Try.prog.underlying 22 = some (.int .u64) := by kernel_rfl
theorem opens22 : Opens Try.prog cd 22 [.u64] := opens_u64 (by kernel_rfl)
theorem opens5 : Opens Try.prog cd 5 [.u8] := opens_u8 (by kernel_rfl)
theorem argsok : ArgsOk Try.prog cd [22, 5, 5] [.u64, .u8, .u8] := (argsOk_cons (arg_leaf opens22 (fun _ h => by rw [und22] at h; cases h) (fun _ _ h => by rw [und22] at h; cases h) (fun x => x) (fun _ => rfl)) (argsOk_cons (arg_leaf opens5 (fun _ h => by rw [und5] at h; cases h) (fun _ _ h => by rw [und5] at h; cases h) (fun x => x) (fun _ => rfl)) (argsOk_cons (arg_leaf opens5 (fun _ h => by rw [und5] at h; cases h) (fun _ _ h => by rw [und5] at h; cases h) (fun x => x) (fun _ => rfl)) argsOk_nil)))
theorem sp (H : Type) : ∀ ds : List (DataW H), ds.length = 3 → Rows.challengeFullSpec.fn H ds = { results := [.lit (.bool true)], args := ds }
  | [d0, d1, d2], _ => rfl
theorem lifted (os : Os) (started : os.Started) (H : Type) (enc : TypeId × Value → H) :
    ReturnsInHanded {} Try.checked os 6 .any (Rows.challengeFullSpec.pre6 enc Try.prog Try.f6 Rows.challengeFullRow.domain false) (Rows.challengeFullSpec.post enc Try.prog Try.f6 false true false false) := by
  refine returnsInHanded_of_change (C := Try.checked) own started (by kernel_rfl) Try.func6
    (ChangeSpec.witness6 (enc := enc) (C := Try.checked) false ⟨#[], #[.int .u64 0, .int .u8 0, .int .u8 0], []⟩ 8 (by kernel_rfl) (by kernel_rfl) (by kernel_rfl) (by kernel_rfl)) ?_
  intro W base args ds gs before hval hW _ _
  exact law_post (C := cd) (G := gdn) (vts := [.u64, .u8, .u8]) (F := fun x => passkeylaw29_ChallengeFull x.1 x.2.1 x.2.2.1) (by kernel_rfl) (by kernel_rfl) (tb := 4) (by kernel_rfl) und4 (ts := [22, 5, 5]) (by kernel_rfl) argsok rfl (sp H) passkeylaw29_ChallengeFull_ok passkeylaw29_ChallengeFull_true hval hW (fun g cs h => by cases h)

theorem said : Rows.ChallengeFullSaid :=
  OpenClaim.holds_of_wide 6 Try.f6 rfl rfl rfl rfl rfl rfl rfl ⟨rfl, rfl, rfl, rfl, rfl⟩ rfl rfl rfl rfl rfl (by kernel_rfl) Try.func6 (by kernel_rfl)
    (of_decide_eq_true (by kernel_rfl)) (by unfold Func.isWrapper; first | (rw [if_pos (by decide +kernel)]; kernel_rfl) | (rw [if_neg (by decide +kernel)]; exact ⟨rfl, rfl⟩))
    (fun os started H enc _ => lifted os started H enc)

theorem proved : Rows.ChallengeFullSaid := said
#print axioms proved
end Go.Proofs.Ytlinfghjilpcdaa.challengeFull

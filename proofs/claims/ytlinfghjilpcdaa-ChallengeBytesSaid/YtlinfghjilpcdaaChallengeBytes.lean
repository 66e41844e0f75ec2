/- The law ChallengeBytes: for every input it returns true, and the arguments read as they did. No condition. -/
import Derived.Test.YtlinfghjilpcdaaChalLaw
import Derived.Test.YtlinfghjilpcdaaRows
import Derived.ProofKit
import Derived.LaidMore
import Derived.OpenShut
import Derived.Stop.Joined
import Derived.Lib.LaidIn
namespace Go.Proofs.Ytlinfghjilpcdaa
open Go Go.Abs
theorem passkeylaw29_ChallengeBytes_true (x : tySs T (slots [(.agg 3), (.agg 2)])) (hd : ArgD cd [(.agg 3), (.agg 2)] x) : ∃ o, passkeylaw29_ChallengeBytes x.1 x.2.1 = some (o, true, ()) := by
  obtain ⟨⟨o, b, u⟩, h1, h2⟩ := ChallengeBytes_plain x.1 x.2.1 hd
  refine ⟨o, h1.trans ?_⟩
  simp only at h2
  rw [h2]
end Go.Proofs.Ytlinfghjilpcdaa
namespace Go.Proofs.Ytlinfghjilpcdaa.challengeBytes
open Go Go.Abs Go.ChangeShapes Go.WideShapes Go.ChangeAt Go.RowKit
set_option linter.unusedVariables false
set_option maxRecDepth 100000

theorem own : ownKnob Try.prog.godebug = Option.none := by kernel_rfl
def fsOf : Option TypeDesc → Array Field
  | some (.struct fs) => fs
  | _ => #[]
theorem und3 : Try.prog.underlying 3 = some (.int .i64) := by kernel_rfl
theorem und4 : Try.prog.underlying 4 = some .bool := by kernel_rfl
theorem und9 : Try.prog.underlying 9 = some .string := by kernel_rfl
theorem und22 : Try.prog.underlying 22 = some (.int .u64) := by kernel_rfl
theorem und28 : Try.prog.underlying 28 = some (.slice 39) := by kernel_rfl
theorem und30 : Try.prog.underlying 30 = some (.struct (fsOf (Try.prog.underlying 30))) := by kernel_rfl
theorem und39 : Try.prog.underlying 39 = some (.struct (fsOf (Try.prog.underlying 39))) := by kernel_rfl
theorem opens22 : Opens Try.prog cd 22 [.u64] := opens_u64 (by kernel_rfl)
theorem opens3 : Opens Try.prog cd 3 [.int .i64] := opens_int (by kernel_rfl)
theorem opens9 : Opens Try.prog cd 9 [.str] := opens_str (by kernel_rfl)
theorem opens4 : Opens Try.prog cd 4 [.bool] := opens_bool (by kernel_rfl)
theorem opensT39 : OpensTs Try.prog cd [(3, 0), (3, 1), (9, 2), (4, 3), (3, 4)] 0 ([.int .i64] ++ ([.int .i64] ++ ([.str] ++ ([.bool] ++ ([.int .i64] ++ []))))) := (opensTs_cons rfl (by kernel_rfl) opens3 (opensTs_cons rfl (by kernel_rfl) opens3 (opensTs_cons rfl (by kernel_rfl) opens9 (opensTs_cons rfl (by kernel_rfl) opens4 (opensTs_cons rfl (by kernel_rfl) opens3 opensTs_nil)))))
theorem opens39 : Opens Try.prog cd 39 [.int .i64, .int .i64, .str, .bool, .int .i64] := opens_struct2 und39 (by kernel_rfl) opensT39 (by kernel_rfl)
theorem opens28 : Opens Try.prog cd 28 [.rs 2] := opens_slice (ls := lfs 2) (of := of2) (by kernel_rfl) opens39 (fun _ => rfl) (by kernel_rfl) (by kernel_rfl) (by decide)
theorem opensT30 : OpensTs Try.prog cd [(22, 0), (3, 1), (28, 2)] 0 ([.u64] ++ ([.int .i64] ++ ([.rs 2] ++ []))) := (opensTs_cons rfl (by kernel_rfl) opens22 (opensTs_cons rfl (by kernel_rfl) opens3 (opensTs_cons rfl (by kernel_rfl) opens28 opensTs_nil)))
theorem opens30 : Opens Try.prog cd 30 [.u64, .int .i64, .rs 2] := opens_struct2 und30 (by kernel_rfl) opensT30 (by kernel_rfl)
theorem argsok : ArgsOk Try.prog cd [30, 39] [(.agg 3), (.agg 2)] := (argsOk_cons (arg_struct (ls := lfs 3) (of := of3) und30 opens30 (fun _ => rfl) cd_ok) (argsOk_cons (arg_struct (ls := lfs 2) (of := of2) und39 opens39 (fun _ => rfl) cd_ok) argsOk_nil))
theorem sp (H : Type) : ∀ ds : List (DataW H), ds.length = 2 → Rows.challengeBytesSpec.fn H ds = { results := [.lit (.bool true)], args := ds }
  | [d0, d1], _ => rfl
theorem lifted (os : Os) (started : os.Started) (H : Type) (enc : TypeId × Value → H) :
    ReturnsInHanded {} Try.checked os 4 .any (Rows.challengeBytesSpec.pre6 enc Try.prog Try.f4 Rows.challengeBytesRow.domain false) (Rows.challengeBytesSpec.post enc Try.prog Try.f4 false true false false) := by
  refine returnsInHanded_of_change (C := Try.checked) own started (by kernel_rfl) Try.func4
    (ChangeSpec.witness6 (enc := enc) (C := Try.checked) false ⟨#[], #[.agg #[.int .u64 0, .int .i64 0, .slice none 0 0], .agg #[.int .i64 0, .int .i64 0, .string ⟨#[]⟩, .bool false, .int .i64 0]], []⟩ 8 (by kernel_rfl) (by kernel_rfl) (by kernel_rfl) (by kernel_rfl)) ?_
  intro W base args ds gs before hval hW _ _
  exact law_post (C := cd) (G := gdn) (vts := [(.agg 3), (.agg 2)]) (F := fun x => passkeylaw29_ChallengeBytes x.1 x.2.1) (by kernel_rfl) (by kernel_rfl) (tb := 4) (by kernel_rfl) und4 (ts := [30, 39]) (by kernel_rfl) argsok rfl (sp H) passkeylaw29_ChallengeBytes_ok passkeylaw29_ChallengeBytes_true hval hW (fun g cs h => by cases h)

theorem said : Rows.ChallengeBytesSaid :=
  OpenClaim.holds_of_wide 4 Try.f4 rfl rfl rfl rfl rfl rfl rfl ⟨rfl, rfl, rfl, rfl, rfl⟩ rfl rfl rfl rfl rfl (by kernel_rfl) Try.func4 (by kernel_rfl)
    (of_decide_eq_true (by kernel_rfl)) (by unfold Func.isWrapper; first | (rw [if_pos (by decide +kernel)]; kernel_rfl) | (rw [if_neg (by decide +kernel)]; exact ⟨rfl, rfl⟩))
    (fun os started H enc _ => lifted os started H enc)

theorem proved : Rows.ChallengeBytesSaid := said
#print axioms proved
end Go.Proofs.Ytlinfghjilpcdaa.challengeBytes

/- The law ChallengePlays: for every input it returns true, and the arguments read as they did. No condition. -/
import Derived.Test.YtlinfghjilpcdaaChalPlays
import Derived.Test.YtlinfghjilpcdaaRows
import Derived.ProofKit
import Derived.LaidMore
import Derived.OpenShut
import Derived.Stop.Joined
import Derived.Lib.LaidIn
namespace Go.Proofs.Ytlinfghjilpcdaa
open Go Go.Abs
theorem passkeylaw29_ChallengePlays_true (x : tySs T (slots [.u64, (.rs 1), (.rs 0), .str, (.int .i64)])) (hd : ArgD cd [.u64, (.rs 1), (.rs 0), .str, (.int .i64)] x) : ∃ o, passkeylaw29_ChallengePlays x.1 x.2.1 x.2.2.1 x.2.2.2.1 x.2.2.2.2.1 = some (o, true, ()) := by
  obtain ⟨⟨o, b, u⟩, h1, h2⟩ := ChallengePlays_plain x.1 x.2.1 x.2.2.1 x.2.2.2.1 x.2.2.2.2.1 hd
  refine ⟨o, h1.trans ?_⟩
  simp only at h2
  rw [h2]
end Go.Proofs.Ytlinfghjilpcdaa
namespace Go.Proofs.Ytlinfghjilpcdaa.challengePlays
open Go Go.Abs Go.ChangeShapes Go.WideShapes Go.ChangeAt Go.RowKit
set_option linter.unusedVariables false
set_option maxRecDepth 100000

theorem own : ownKnob Try.prog.godebug = Option.none := by kernel_rfl
def fsOf : Option TypeDesc → Array Field
  | some (.struct fs) => fs
  | _ => #[]
theorem und3 : Try.prog.underlying 3 = some (.int .i64) := by kernel_rfl
theorem und4 : Try.prog.underlying 4 = some .bool := by kernel_rfl
theorem und5 : Try.prog.underlying 5 = some (.int .u8) := by kernel_rfl
theorem und9 : Try.prog.underlying 9 = some .string := by kernel_rfl
theorem und22 : Try.prog.underlying 22 = some (.int .u64) := by kernel_rfl
theorem und23 : Try.prog.underlying 23 = some (.slice 3) := by kernel_rfl
theorem und24 : Try.prog.underlying 24 = some (.slice 5) := by kernel_rfl
theorem opens22 : Opens Try.prog cd 22 [.u64] := opens_u64 (by kernel_rfl)
theorem opens3 : Opens Try.prog cd 3 [.int .i64] := opens_int (by kernel_rfl)
theorem opens23 : Opens Try.prog cd 23 [.rs 1] := opens_slice (ls := lfs 1) (of := of1) (by kernel_rfl) opens3 (fun _ => rfl) (by kernel_rfl) (by kernel_rfl) (by decide)
theorem opens5 : Opens Try.prog cd 5 [.u8] := opens_u8 (by kernel_rfl)
theorem opens24 : Opens Try.prog cd 24 [.rs 0] := opens_slice (ls := lfs 0) (of := of0) (by kernel_rfl) opens5 (fun _ => rfl) (by kernel_rfl) (by kernel_rfl) (by decide)
theorem opens9 : Opens Try.prog cd 9 [.str] := opens_str (by kernel_rfl)
theorem argsok : ArgsOk Try.prog cd [22, 23, 24, 9, 3] [.u64, (.rs 1), (.rs 0), .str, (.int .i64)] := (argsOk_cons (arg_leaf opens22 (fun _ h => by rw [und22] at h; cases h) (fun _ _ h => by rw [und22] at h; cases h) (fun x => x) (fun _ => rfl)) (argsOk_cons (arg_leaf opens23 (fun _ h => by rw [und23] at h; cases h) (fun _ _ h => by rw [und23] at h; cases h) (fun x => x) (fun _ => rfl)) (argsOk_cons (arg_leaf opens24 (fun _ h => by rw [und24] at h; cases h) (fun _ _ h => by rw [und24] at h; cases h) (fun x => x) (fun _ => rfl)) (argsOk_cons (arg_leaf opens9 (fun _ h => by rw [und9] at h; cases h) (fun _ _ h => by rw [und9] at h; cases h) (fun x => x) (fun _ => rfl)) (argsOk_cons (arg_leaf opens3 (fun _ h => by rw [und3] at h; cases h) (fun _ _ h => by rw [und3] at h; cases h) (fun x => x) (fun _ => rfl)) argsOk_nil)))))
theorem sp (H : Type) : ∀ ds : List (DataW H), ds.length = 5 → Rows.challengePlaysSpec.fn H ds = { results := [.lit (.bool true)], args := ds }
  | [d0, d1, d2, d3, d4], _ => rfl
theorem lifted (os : Os) (started : os.Started) (H : Type) (enc : TypeId × Value → H) :
    ReturnsInHanded {} Try.checked os 3 .any (Rows.challengePlaysSpec.pre6 enc Try.prog Try.f3 Rows.challengePlaysRow.domain false) (Rows.challengePlaysSpec.post enc Try.prog Try.f3 false true false false) := by
  refine returnsInHanded_of_change (C := Try.checked) own started (by kernel_rfl) Try.func3
    (ChangeSpec.witness6 (enc := enc) (C := Try.checked) false ⟨#[], #[.int .u64 0, .slice none 0 0, .slice none 0 0, .string ⟨#[]⟩, .int .i64 0], []⟩ 8 (by kernel_rfl) (by kernel_rfl) (by kernel_rfl) (by kernel_rfl)) ?_
  intro W base args ds gs before hval hW _ _
  exact law_post (C := cd) (G := gdn) (vts := [.u64, (.rs 1), (.rs 0), .str, (.int .i64)]) (F := fun x => passkeylaw29_ChallengePlays x.1 x.2.1 x.2.2.1 x.2.2.2.1 x.2.2.2.2.1) (by kernel_rfl) (by kernel_rfl) (tb := 4) (by kernel_rfl) und4 (ts := [22, 23, 24, 9, 3]) (by kernel_rfl) argsok rfl (sp H) passkeylaw29_ChallengePlays_ok passkeylaw29_ChallengePlays_true hval hW (fun g cs h => by cases h)

theorem said : Rows.ChallengePlaysSaid :=
  OpenClaim.holds_of_wide 3 Try.f3 rfl rfl rfl rfl rfl rfl rfl ⟨rfl, rfl, rfl, rfl, rfl⟩ rfl rfl rfl rfl rfl (by kernel_rfl) Try.func3 (by kernel_rfl)
    (of_decide_eq_true (by kernel_rfl)) (by unfold Func.isWrapper; first | (rw [if_pos (by decide +kernel)]; kernel_rfl) | (rw [if_neg (by decide +kernel)]; exact ⟨rfl, rfl⟩))
    (fun os started H enc _ => lifted os started H enc)

theorem proved : Rows.ChallengePlaysSaid := said
#print axioms proved
end Go.Proofs.Ytlinfghjilpcdaa.challengePlays

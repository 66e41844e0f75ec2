/- The law SessionBytes: for every input it returns true, and the arguments read as they did. No condition. -/
import Derived.Test.YtgenglnebkjhfaaSessLaw
import Derived.Test.YtgenglnebkjhfaaRows
import Derived.ProofKit
import Derived.LaidMore
import Derived.OpenShut
import Derived.Stop.Joined
import Derived.Lib.LaidIn
namespace Go.Proofs.Ytgenglnebkjhfaa
open Go Go.Abs
theorem passkeylaw34_SessionBytes_true (x : tySs T (slots [(.agg 2), (.agg 1)])) (hd : ArgD cd [(.agg 2), (.agg 1)] x) : ∃ o, passkeylaw34_SessionBytes x.1 x.2.1 = some (o, true, ()) := by
  obtain ⟨⟨o, b, u⟩, h1, h2⟩ := SessionBytes_plain x.1 x.2.1 hd
  refine ⟨o, h1.trans ?_⟩
  simp only at h2
  rw [h2]
end Go.Proofs.Ytgenglnebkjhfaa
namespace Go.Proofs.Ytgenglnebkjhfaa.sessionBytes
open Go Go.Abs Go.ChangeShapes Go.WideShapes Go.ChangeAt Go.RowKit
set_option linter.unusedVariables false
set_option maxRecDepth 100000

theorem own : ownKnob Try.prog.godebug = Option.none := by kernel_rfl
def fsOf : Option TypeDesc → Array Field
  | some (.struct fs) => fs
  | _ => #[]
theorem und3 : Try.prog.underlying 3 = some (.int .i64) := by kernel_rfl
theorem und4 : Try.prog.underlying 4 = some .bool := by kernel_rfl
theorem und5 : Try.prog.underlying 5 = some (.int .u8) := by kernel_rfl
theorem und9 : Try.prog.underlying 9 = some .string := by kernel_rfl
theorem und22 : Try.prog.underlying 22 = some (.int .u64) := by kernel_rfl
theorem und23 : Try.prog.underlying 23 = some (.slice 28) := by kernel_rfl
theorem und25 : Try.prog.underlying 25 = some (.struct (fsOf (Try.prog.underlying 25))) := by kernel_rfl
theorem und26 : Try.prog.underlying 26 = some (.slice 5) := by kernel_rfl
theorem und28 : Try.prog.underlying 28 = some (.struct (fsOf (Try.prog.underlying 28))) := by kernel_rfl
theorem opens22 : Opens Try.prog cd 22 [.u64] := opens_u64 (by kernel_rfl)
theorem opens3 : Opens Try.prog cd 3 [.int .i64] := opens_int (by kernel_rfl)
theorem opens9 : Opens Try.prog cd 9 [.str] := opens_str (by kernel_rfl)
theorem opens5 : Opens Try.prog cd 5 [.u8] := opens_u8 (by kernel_rfl)
theorem opens26 : Opens Try.prog cd 26 [.rs 0] := opens_slice (ls := lfs 0) (of := of0) (by kernel_rfl) opens5 (fun _ => rfl) (by kernel_rfl) (by kernel_rfl) (by decide)
theorem opensT28 : OpensTs Try.prog cd [(3, 0), (9, 1), (26, 2), (22, 3), (3, 4), (3, 5)] 0 ([.int .i64] ++ ([.str] ++ ([.rs 0] ++ ([.u64] ++ ([.int .i64] ++ ([.int .i64] ++ [])))))) := (opensTs_cons rfl (by kernel_rfl) opens3 (opensTs_cons rfl (by kernel_rfl) opens9 (opensTs_cons rfl (by kernel_rfl) opens26 (opensTs_cons rfl (by kernel_rfl) opens22 (opensTs_cons rfl (by kernel_rfl) opens3 (opensTs_cons rfl (by kernel_rfl) opens3 opensTs_nil))))))
theorem opens28 : Opens Try.prog cd 28 [.int .i64, .str, .rs 0, .u64, .int .i64, .int .i64] := opens_struct2 und28 (by kernel_rfl) opensT28 (by kernel_rfl)
theorem opens23 : Opens Try.prog cd 23 [.rs 1] := opens_slice (ls := lfs 1) (of := of1) (by kernel_rfl) opens28 (fun _ => rfl) (by kernel_rfl) (by kernel_rfl) (by decide)
theorem opensT25 : OpensTs Try.prog cd [(22, 0), (3, 1), (23, 2)] 0 ([.u64] ++ ([.int .i64] ++ ([.rs 1] ++ []))) := (opensTs_cons rfl (by kernel_rfl) opens22 (opensTs_cons rfl (by kernel_rfl) opens3 (opensTs_cons rfl (by kernel_rfl) opens23 opensTs_nil)))
theorem opens25 : Opens Try.prog cd 25 [.u64, .int .i64, .rs 1] := opens_struct2 und25 (by kernel_rfl) opensT25 (by kernel_rfl)
theorem argsok : ArgsOk Try.prog cd [25, 28] [(.agg 2), (.agg 1)] := (argsOk_cons (arg_struct (ls := lfs 2) (of := of2) und25 opens25 (fun _ => rfl) cd_ok) (argsOk_cons (arg_struct (ls := lfs 1) (of := of1) und28 opens28 (fun _ => rfl) cd_ok) argsOk_nil))
theorem sp (H : Type) : ∀ ds : List (DataW H), ds.length = 2 → Rows.sessionBytesSpec.fn H ds = { results := [.lit (.bool true)], args := ds }
  | [d0, d1], _ => rfl
theorem lifted (os : Os) (started : os.Started) (H : Type) (enc : TypeId × Value → H) :
    ReturnsInHanded {} Try.checked os 3 .any (Rows.sessionBytesSpec.pre6 enc Try.prog Try.f3 Rows.sessionBytesRow.domain false) (Rows.sessionBytesSpec.post enc Try.prog Try.f3 false true false false) := by
  refine returnsInHanded_of_change (C := Try.checked) own started (by kernel_rfl) Try.func3
    (ChangeSpec.witness6 (enc := enc) (C := Try.checked) false ⟨#[], #[.agg #[.int .u64 0, .int .i64 0, .slice none 0 0], .agg #[.int .i64 0, .string ⟨#[]⟩, .slice none 0 0, .int .u64 0, .int .i64 0, .int .i64 0]], []⟩ 8 (by kernel_rfl) (by kernel_rfl) (by kernel_rfl) (by kernel_rfl)) ?_
  intro W base args ds gs before hval hW _ _
  exact law_post (C := cd) (G := gdn) (vts := [(.agg 2), (.agg 1)]) (F := fun x => passkeylaw34_SessionBytes x.1 x.2.1) (by kernel_rfl) (by kernel_rfl) (tb := 4) (by kernel_rfl) und4 (ts := [25, 28]) (by kernel_rfl) argsok rfl (sp H) passkeylaw34_SessionBytes_ok passkeylaw34_SessionBytes_true hval hW (fun g cs h => by cases h)

theorem said : Rows.SessionBytesSaid :=
  OpenClaim.holds_of_wide 3 Try.f3 rfl rfl rfl rfl rfl rfl rfl ⟨rfl, rfl, rfl, rfl, rfl⟩ rfl rfl rfl rfl rfl (by kernel_rfl) Try.func3 (by kernel_rfl)
    (of_decide_eq_true (by kernel_rfl)) (by unfold Func.isWrapper; first | (rw [if_pos (by decide +kernel)]; kernel_rfl) | (rw [if_neg (by decide +kernel)]; exact ⟨rfl, rfl⟩))
    (fun os started H enc _ => lifted os started H enc)

theorem proved : Rows.SessionBytesSaid := said
#print axioms proved
end Go.Proofs.Ytgenglnebkjhfaa.sessionBytes

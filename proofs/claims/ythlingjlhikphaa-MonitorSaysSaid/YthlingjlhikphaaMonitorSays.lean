/- The law MonitorSays: for every input it returns true, and the arguments read as they did. No condition. -/
import Derived.Test.YthlingjlhikphaaMonD
import Derived.Test.YthlingjlhikphaaRows
import Derived.ProofKit
import Derived.LaidMore
import Derived.OpenShut
import Derived.Stop.Joined
import Derived.Lib.LaidIn
namespace Go.Proofs.Ythlingjlhikphaa
open Go Go.Abs
theorem passkeylaw41_MonitorSays_true (x : tySs T (slots [(.rs 1), (.rs 2), (.int .i64)])) (hd : ArgD cd [(.rs 1), (.rs 2), (.int .i64)] x) : ∃ o, passkeylaw41_MonitorSays x.1 x.2.1 x.2.2.1 = some (o, true, ()) := by
  obtain ⟨⟨o, b, u⟩, h1, h2⟩ := MonitorSays_plain x.1 x.2.1 x.2.2.1 hd
  refine ⟨o, h1.trans ?_⟩
  simp only at h2
  rw [h2]
end Go.Proofs.Ythlingjlhikphaa
namespace Go.Proofs.Ythlingjlhikphaa.monitorSays
open Go Go.Abs Go.ChangeShapes Go.WideShapes Go.ChangeAt Go.RowKit
set_option linter.unusedVariables false
set_option maxRecDepth 100000

theorem own : ownKnob Try.prog.godebug = Option.none := by kernel_rfl
def fsOf : Option TypeDesc → Array Field
  | some (.struct fs) => fs
  | _ => #[]
theorem und3 : Try.prog.underlying 3 = some (.int .i64) := by kernel_rfl
theorem und4 : Try.prog.underlying 4 = some .bool := by kernel_rfl
theorem und5 : Try.prog.underlying 5 = some (.int .u8) := by kernel_rfl
theorem und9 : Try.prog.underlying 9 = some .string := by kernel_rfl
theorem und22 : Try.prog.underlying 22 = some (.slice 29) := by kernel_rfl
theorem und23 : Try.prog.underlying 23 = some (.slice 3) := by kernel_rfl
theorem und25 : Try.prog.underlying 25 = some (.slice 5) := by kernel_rfl
theorem und26 : Try.prog.underlying 26 = some (.int .u64) := by kernel_rfl
theorem und27 : Try.prog.underlying 27 = some (.int .i64) := by kernel_rfl
theorem und29 : Try.prog.underlying 29 = some (.struct (fsOf (Try.prog.underlying 29))) := by kernel_rfl
theorem opens3 : Opens Try.prog cd 3 [.int .i64] := opens_int (by kernel_rfl)
theorem opens9 : Opens Try.prog cd 9 [.str] := opens_str (by kernel_rfl)
theorem opens5 : Opens Try.prog cd 5 [.u8] := opens_u8 (by kernel_rfl)
theorem opens25 : Opens Try.prog cd 25 [.rs 0] := opens_slice (ls := lfs 0) (of := of0) (by kernel_rfl) opens5 (fun _ => rfl) (by kernel_rfl) (by kernel_rfl) (by decide)
theorem opens26 : Opens Try.prog cd 26 [.u64] := opens_u64 (by kernel_rfl)
theorem opens27 : Opens Try.prog cd 27 [.int .i64] := opens_int (by kernel_rfl)
theorem opensT29 : OpensTs Try.prog cd [(3, 0), (3, 1), (3, 2), (3, 3), (3, 4), (9, 5), (25, 6), (25, 7), (26, 8), (26, 9), (3, 10), (3, 11), (3, 12), (27, 13)] 0 ([.int .i64] ++ ([.int .i64] ++ ([.int .i64] ++ ([.int .i64] ++ ([.int .i64] ++ ([.str] ++ ([.rs 0] ++ ([.rs 0] ++ ([.u64] ++ ([.u64] ++ ([.int .i64] ++ ([.int .i64] ++ ([.int .i64] ++ ([.int .i64] ++ [])))))))))))))) := (opensTs_cons rfl (by kernel_rfl) opens3 (opensTs_cons rfl (by kernel_rfl) opens3 (opensTs_cons rfl (by kernel_rfl) opens3 (opensTs_cons rfl (by kernel_rfl) opens3 (opensTs_cons rfl (by kernel_rfl) opens3 (opensTs_cons rfl (by kernel_rfl) opens9 (opensTs_cons rfl (by kernel_rfl) opens25 (opensTs_cons rfl (by kernel_rfl) opens25 (opensTs_cons rfl (by kernel_rfl) opens26 (opensTs_cons rfl (by kernel_rfl) opens26 (opensTs_cons rfl (by kernel_rfl) opens3 (opensTs_cons rfl (by kernel_rfl) opens3 (opensTs_cons rfl (by kernel_rfl) opens3 (opensTs_cons rfl (by kernel_rfl) opens27 opensTs_nil))))))))))))))
theorem opens29 : Opens Try.prog cd 29 [.int .i64, .int .i64, .int .i64, .int .i64, .int .i64, .str, .rs 0, .rs 0, .u64, .u64, .int .i64, .int .i64, .int .i64, .int .i64] := opens_struct2 und29 (by kernel_rfl) opensT29 (by kernel_rfl)
theorem opens22 : Opens Try.prog cd 22 [.rs 1] := opens_slice (ls := lfs 1) (of := of1) (by kernel_rfl) opens29 (fun _ => rfl) (by kernel_rfl) (by kernel_rfl) (by decide)
theorem opens23 : Opens Try.prog cd 23 [.rs 2] := opens_slice (ls := lfs 2) (of := of2) (by kernel_rfl) opens3 (fun _ => rfl) (by kernel_rfl) (by kernel_rfl) (by decide)
theorem argsok : ArgsOk Try.prog cd [22, 23, 3] [(.rs 1), (.rs 2), (.int .i64)] := (argsOk_cons (arg_leaf opens22 (fun _ h => by rw [und22] at h; cases h) (fun _ _ h => by rw [und22] at h; cases h) (fun x => x) (fun _ => rfl)) (argsOk_cons (arg_leaf opens23 (fun _ h => by rw [und23] at h; cases h) (fun _ _ h => by rw [und23] at h; cases h) (fun x => x) (fun _ => rfl)) (argsOk_cons (arg_leaf opens3 (fun _ h => by rw [und3] at h; cases h) (fun _ _ h => by rw [und3] at h; cases h) (fun x => x) (fun _ => rfl)) argsOk_nil)))
theorem sp (H : Type) : ∀ ds : List (DataW H), ds.length = 3 → Rows.monitorSaysSpec.fn H ds = { results := [.lit (.bool true)], args := ds }
  | [d0, d1, d2], _ => rfl
theorem lifted (os : Os) (started : os.Started) (H : Type) (enc : TypeId × Value → H) :
    ReturnsInHanded {} Try.checked os 3 .any (Rows.monitorSaysSpec.pre6 enc Try.prog Try.f3 Rows.monitorSaysRow.domain false) (Rows.monitorSaysSpec.post enc Try.prog Try.f3 false true false false) := by
  refine returnsInHanded_of_change (C := Try.checked) own started (by kernel_rfl) Try.func3
    (ChangeSpec.witness6 (enc := enc) (C := Try.checked) false ⟨#[], #[.slice none 0 0, .slice none 0 0, .int .i64 0], []⟩ 8 (by kernel_rfl) (by kernel_rfl) (by kernel_rfl) (by kernel_rfl)) ?_
  intro W base args ds gs before hval hW _ _
  exact law_post (C := cd) (G := gdn) (vts := [(.rs 1), (.rs 2), (.int .i64)]) (F := fun x => passkeylaw41_MonitorSays x.1 x.2.1 x.2.2.1) (by kernel_rfl) (by kernel_rfl) (tb := 4) (by kernel_rfl) und4 (ts := [22, 23, 3]) (by kernel_rfl) argsok rfl (sp H) passkeylaw41_MonitorSays_ok passkeylaw41_MonitorSays_true hval hW (fun g cs h => by cases h)

theorem said : Rows.MonitorSaysSaid :=
  OpenClaim.holds_of_wide 3 Try.f3 rfl rfl rfl rfl rfl rfl rfl ⟨rfl, rfl, rfl, rfl, rfl⟩ rfl rfl rfl rfl rfl (by kernel_rfl) Try.func3 (by kernel_rfl)
    (of_decide_eq_true (by kernel_rfl)) (by unfold Func.isWrapper; first | (rw [if_pos (by decide +kernel)]; kernel_rfl) | (rw [if_neg (by decide +kernel)]; exact ⟨rfl, rfl⟩))
    (fun os started H enc _ => lifted os started H enc)

theorem proved : Rows.MonitorSaysSaid := said
#print axioms proved
end Go.Proofs.Ythlingjlhikphaa.monitorSays

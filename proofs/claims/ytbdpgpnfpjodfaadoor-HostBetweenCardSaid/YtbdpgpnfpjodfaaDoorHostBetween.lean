/- The law HostBetween: for every input it returns true, and the arguments read as they did. No condition. -/
import Derived.Test.YtbdpgpnfpjodfaaDoorHostF
import Derived.Test.YtbdpgpnfpjodfaaDoorRows
import Derived.ProofKit
import Derived.LaidMore
import Derived.OpenShut
import Derived.Stop.Joined
import Derived.Lib.LaidIn
import Derived.Test.YtbdpgpnfpjodfaaDoorCards
import Derived.Test.YtbdpgpnfpjodfaaDoorTie
import Derived.Lib.LaidU8
import Derived.Lib.LaidU8T
import Derived.Lib.DecodeN
import Derived.SevenTiedAt
import Derived.MakeChecks
namespace Go.Proofs.YtbdpgpnfpjodfaaDoor
open Go Go.Abs
theorem passkeylaw23_HostBetween_true (x : tySs T (slots [(.int .i64), (.int .i64), (.rs 4)])) (hd : ArgD cd [(.int .i64), (.int .i64), (.rs 4)] x) : ∃ o, passkeylaw23_HostBetween x.1 x.2.1 x.2.2.1 = some (o, true, ()) := by
  obtain ⟨⟨o, b, u⟩, h1, h2⟩ := HostBetween_plain x.1 x.2.1 x.2.2.1 hd
  refine ⟨o, h1.trans ?_⟩
  simp only at h2
  rw [h2]
end Go.Proofs.YtbdpgpnfpjodfaaDoor
namespace Go.Proofs.YtbdpgpnfpjodfaaDoor.hostBetween
open Go Go.Abs Go.ChangeShapes Go.WideShapes Go.ChangeAt Go.RowKit
set_option linter.unusedVariables false
set_option maxRecDepth 100000

theorem own : ownKnob Tryd.prog.godebug = Option.none := by kernel_rfl
def fsOf : Option TypeDesc → Array Field
  | some (.struct fs) => fs
  | _ => #[]
theorem und3 : Tryd.prog.underlying 3 = some (.int .i64) := by kernel_rfl
theorem und4 : Tryd.prog.underlying 4 = some .bool := by kernel_rfl
theorem und39 : Tryd.prog.underlying 39 = some (.slice 3) := by kernel_rfl
theorem opens3 : Opens Tryd.prog cd 3 [.int .i64] := opens_int (by kernel_rfl)
theorem opens39 : Opens Tryd.prog cd 39 [.rs 4] := opens_slice (ls := lfs 4) (of := of4) (by kernel_rfl) opens3 (fun _ => rfl) (by kernel_rfl) (by kernel_rfl) (by decide)
theorem argsok : ArgsOk Tryd.prog cd [3, 3, 39] [(.int .i64), (.int .i64), (.rs 4)] := (argsOk_cons (arg_leaf opens3 (fun _ h => by rw [und3] at h; cases h) (fun _ _ h => by rw [und3] at h; cases h) (fun x => x) (fun _ => rfl)) (argsOk_cons (arg_leaf opens3 (fun _ h => by rw [und3] at h; cases h) (fun _ _ h => by rw [und3] at h; cases h) (fun x => x) (fun _ => rfl)) (argsOk_cons (arg_leaf opens39 (fun _ h => by rw [und39] at h; cases h) (fun _ _ h => by rw [und39] at h; cases h) (fun x => x) (fun _ => rfl)) argsOk_nil)))
theorem sp (H : Type) : ∀ ds : List (DataW H), ds.length = 3 → Rows.hostBetweenSpec.fn H ds = { results := [.lit (.bool true)], args := ds }
  | [d0, d1, d2], _ => rfl
noncomputable def laidWorld (os : Os) : World :=
  let w0 := World.holding Tryd.prog os ⟨#[], #[], []⟩
  let put (h : Array Obj) (g : Nat) (cs : Array Value) : Array Obj := h.modify g fun
    | .cells _ t frozen => .cells cs t frozen
    | o => o
  let h1 := put w0.heap 1 (Lib.firstTab.map fun z => Value.int .u8 z).toArray
  let h2 := put h1 2 ((List.range 16).flatMap fun i => [Value.int .u8 (Lib.accLo i), Value.int .u8 (Lib.accHi i)]).toArray
  { w0 with heap := h2 }
theorem door_met (os : Os) (args : Array Value) : laidMetH Tryd.prog Rows.hostBetweenRow.laid ((laidWorld os).forCall (fun _ _ => 0) ⟨#[], args, []⟩).memory :=
  laidMetH_of_parts3 (fuel := 8) (LaidIn.of_run [1, 2] 8 (by kernel_rfl) (by kernel_rfl) (by kernel_rfl) (by kernel_rfl)).met (by kernel_rfl) (by kernel_rfl)

theorem lifted (os : Os) (started : os.Started) (H : Type) (enc : TypeId × Value → H) :
    ReturnsInHanded {} Tryd.checked os 6 .any (fun w args => (Rows.hostBetweenSpec.pre enc Tryd.prog Tryd.f6 [] false w args ∧ laidMetH Tryd.prog Rows.hostBetweenRow.laid w) ∧ sizedMet enc Tryd.prog Tryd.f6 (OpenSpec.ofChange Rows.hostBetweenSpec) false w args) (Rows.hostBetweenSpec.post enc Tryd.prog Tryd.f6 false true false false) := by
  refine returnsInHanded_of_change_and (C := Tryd.checked) (X := fun w _ => laidMetH Tryd.prog Rows.hostBetweenRow.laid w) (fun _ _ _ hh h => h.of_heap hh) own started (by kernel_rfl) Tryd.func6
    (ChangeSpec.witness_shaped (enc := enc) (C := Tryd.checked) (os := os) (X := fun w _ => laidMetH Tryd.prog Rows.hostBetweenRow.laid w) false (laidWorld os) #[.int .i64 0, .int .i64 0, .slice none 0 0] 8 rfl (World.shaped_of_RefB (by kernel_rfl) (by kernel_rfl)) (by kernel_rfl) (by kernel_rfl) (by kernel_rfl) (door_met os _)) ?_
  intro W base args ds gs before hval hW _ _ hL _
  exact law_post (C := cd) (G := gdn) (vts := [(.int .i64), (.int .i64), (.rs 4)]) (F := fun x => passkeylaw23_HostBetween x.1 x.2.1 x.2.2.1) (by kernel_rfl) (by kernel_rfl) (tb := 4) (by kernel_rfl) und4 (ts := [3, 3, 39]) (by kernel_rfl) argsok rfl (sp H) passkeylaw23_HostBetween_ok passkeylaw23_HostBetween_true hval hW (fun g cs h => by cases h)

theorem said : Rows.HostBetweenSaid :=
  OpenClaim.holds_of_wide 6 Tryd.f6 rfl rfl rfl rfl rfl rfl rfl ⟨rfl, rfl, rfl, rfl, rfl⟩ rfl rfl rfl rfl rfl (by kernel_rfl) Tryd.func6 (by kernel_rfl)
    (of_decide_eq_true (by kernel_rfl)) (by unfold Func.isWrapper; first | (rw [if_pos (by decide +kernel)]; kernel_rfl) | (rw [if_neg (by decide +kernel)]; exact ⟨rfl, rfl⟩))
    (fun os started H enc _ => lifted os started H enc)

theorem proved : Rows.HostBetweenCardSaid :=
  Claim7.holds_tied_plain_at .later [] [.data, .pinned] true Rows.hostBetweenCard.stood.harness false
    said (fun _ h => by cases h) (by kernel_rfl) (fun _ h => by cases h) hostBetween_row_tie rfl ⟨rfl, rfl⟩ (by kernel_rfl) rfl
    (fun f fn hf hfn => by
      obtain rfl : f = 6 := Option.some.inj ((show Tryd.prog.funcNamed Rows.hostBetweenRow.func = some 6 by kernel_rfl).symm.trans hf) |>.symm
      obtain rfl : fn = Tryd.f6 := (Option.some.inj (Tryd.func6.symm.trans hfn)).symm
      exact ⟨by kernel_rfl, fun j t ht => by
        rw [Tryd.params6] at ht
        have hm : t ∈ ([3, 3, 39] : List Nat) := by simpa using Array.mem_of_getElem? ht
        have hall : (([3, 3, 39] : List Nat).all fun u => !Tryd.prog.wantsStandIn u) = true := by kernel_rfl
        exact (show Tryd.prog.wantsStandIn t = false by simpa using List.all_eq_true.1 hall t hm)⟩)
    (by kernel_rfl)

#print axioms proved
end Go.Proofs.YtbdpgpnfpjodfaaDoor.hostBetween

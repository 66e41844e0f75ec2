/- The law PinWeak: for every input it returns true, and the arguments read as they did. No condition. -/
import Derived.Test.YtlbafgkhnhkanaaDoorWeakLaw
import Derived.Test.YtlbafgkhnhkanaaDoorRows
import Derived.ProofKit
import Derived.LaidMore
import Derived.OpenShut
import Derived.Stop.Joined
import Derived.Lib.LaidIn
import Derived.Test.YtlbafgkhnhkanaaDoorCards
import Derived.Test.YtlbafgkhnhkanaaDoorTie
import Derived.Lib.LaidU8
import Derived.Lib.LaidU8T
import Derived.Lib.DecodeN
import Derived.SevenTiedAt
import Derived.MakeChecks
namespace Go.Proofs.YtlbafgkhnhkanaaDoor
open Go Go.Abs
theorem passkeylaw11_PinWeak_true (x : tySs T (slots [.str, .u8, .u8])) (hd : ArgD cd [.str, .u8, .u8] x) : ∃ o, passkeylaw11_PinWeak x.1 x.2.1 x.2.2.1 = some (o, true, ()) := by
  obtain ⟨⟨o, b, u⟩, h1, h2⟩ := PinWeak_plain x.1 x.2.1 x.2.2.1 hd
  refine ⟨o, h1.trans ?_⟩
  simp only at h2
  rw [h2]
end Go.Proofs.YtlbafgkhnhkanaaDoor
namespace Go.Proofs.YtlbafgkhnhkanaaDoor.pinWeak
open Go Go.Abs Go.ChangeShapes Go.WideShapes Go.ChangeAt Go.RowKit
set_option linter.unusedVariables false
set_option maxRecDepth 100000

theorem own : ownKnob Tryd.prog.godebug = Option.none := by kernel_rfl
def fsOf : Option TypeDesc → Array Field
  | some (.struct fs) => fs
  | _ => #[]
theorem und4 : Tryd.prog.underlying 4 = some .bool := by kernel_rfl
theorem und5 : Tryd.prog.underlying 5 = some (.int .u8) := by kernel_rfl
theorem und9 : Tryd.prog.underlying 9 = some .string := by kernel_rfl
theorem opens9 : Opens Tryd.prog cd 9 [.str] := opens_str (by kernel_rfl)
theorem opens5 : Opens Tryd.prog cd 5 [.u8] := opens_u8 (by kernel_rfl)
theorem argsok : ArgsOk Tryd.prog cd [9, 5, 5] [.str, .u8, .u8] := (argsOk_cons (arg_leaf opens9 (fun _ h => by rw [und9] at h; cases h) (fun _ _ h => by rw [und9] at h; cases h) (fun x => x) (fun _ => rfl)) (argsOk_cons (arg_leaf opens5 (fun _ h => by rw [und5] at h; cases h) (fun _ _ h => by rw [und5] at h; cases h) (fun x => x) (fun _ => rfl)) (argsOk_cons (arg_leaf opens5 (fun _ h => by rw [und5] at h; cases h) (fun _ _ h => by rw [und5] at h; cases h) (fun x => x) (fun _ => rfl)) argsOk_nil)))
theorem sp (H : Type) : ∀ ds : List (DataW H), ds.length = 3 → Rows.pinWeakSpec.fn H ds = { results := [.lit (.bool true)], args := ds }
  | [d0, d1, d2], _ => rfl
noncomputable def laidWorld (os : Os) : World :=
  let w0 := World.holding Tryd.prog os ⟨#[], #[], []⟩
  let put (h : Array Obj) (g : Nat) (cs : Array Value) : Array Obj := h.modify g fun
    | .cells _ t frozen => .cells cs t frozen
    | o => o
  let h1 := put w0.heap 0 (Lib.firstTab.map fun z => Value.int .u8 z).toArray
  let h2 := put h1 1 ((List.range 16).flatMap fun i => [Value.int .u8 (Lib.accLo i), Value.int .u8 (Lib.accHi i)]).toArray
  { w0 with heap := h2 }
theorem door_met (os : Os) (args : Array Value) : laidMetH Tryd.prog Rows.pinWeakRow.laid ((laidWorld os).forCall (fun _ _ => 0) ⟨#[], args, []⟩).memory :=
  laidMetH_of_parts3 (fuel := 8) (LaidIn.of_run [0, 1] 8 (by kernel_rfl) (by kernel_rfl) (by kernel_rfl) (by kernel_rfl)).met (by kernel_rfl) (by kernel_rfl)
theorem extra : Go.Proofs.U8Extra Tryd.prog Tryd.lays196_ren := ⟨by kernel_rfl, by kernel_rfl, by kernel_rfl, by kernel_rfl, by kernel_rfl, by kernel_rfl, by kernel_rfl⟩
theorem tabsL {w : World} (hL : laidMetH Tryd.prog Rows.pinWeakRow.laid w) : Lib.Utf8Tabs 0 1 w := by
  rw [Go.MakeChecks.laidMetH_plain _ _ _ (by kernel_rfl)] at hL
  have e1 : Rows.laid_unicode_utf8_first = Lib.firstData := by kernel_rfl
  have e2 : (Rows.laid_unicode_utf8_acceptRanges : DataW Unit) = Lib.acceptData := by kernel_rfl
  have h3 : Lib.VarReads Tryd.prog w "unicode/utf8.first" Lib.firstData := by rw [← e1]; exact Lib.laidMet.reads hL (.tail _ (.head _))
  have h4 : Lib.VarReads Tryd.prog w "unicode/utf8.acceptRanges" Lib.acceptData := by rw [← e2]; exact Lib.laidMet.reads hL (.head _)
  exact utf8Tabs_of_readsT (U8Types.of196 Tryd.lays196) extra h3 h4
theorem globL {w : World} (hL : laidMetH Tryd.prog Rows.pinWeakRow.laid w) : Glob gdn (All w) w := by
  have h := tabsL hL
  have sz : ∀ b v, w.cell? ⟨b, 0, Option.none⟩ = some v → b < w.heap.size := by
    intro b v hv
    unfold World.cell? at hv
    split at hv
    · rename_i c t fz hq
      exact (Array.getElem?_eq_some_iff.1 hq).1
    · cases hv
  exact glob_of h (sz 0 _ (h.1 0 (by omega))) (sz 1 _ (h.2 0 (by omega)).1)

theorem lifted (os : Os) (started : os.Started) (H : Type) (enc : TypeId × Value → H) :
    ReturnsInHanded {} Tryd.checked os 6 .any (fun w args => (Rows.pinWeakSpec.pre enc Tryd.prog Tryd.f6 [] false w args ∧ laidMetH Tryd.prog Rows.pinWeakRow.laid w) ∧ sizedMet enc Tryd.prog Tryd.f6 (OpenSpec.ofChange Rows.pinWeakSpec) false w args) (Rows.pinWeakSpec.post enc Tryd.prog Tryd.f6 false true false false) := by
  refine returnsInHanded_of_change_and (C := Tryd.checked) (X := fun w _ => laidMetH Tryd.prog Rows.pinWeakRow.laid w) (fun _ _ _ hh h => h.of_heap hh) own started (by kernel_rfl) Tryd.func6
    (ChangeSpec.witness_shaped (enc := enc) (C := Tryd.checked) (os := os) (X := fun w _ => laidMetH Tryd.prog Rows.pinWeakRow.laid w) false (laidWorld os) #[.string ⟨#[]⟩, .int .u8 0, .int .u8 0] 8 rfl (World.shaped_of_RefB (by kernel_rfl) (by kernel_rfl)) (by kernel_rfl) (by kernel_rfl) (by kernel_rfl) (door_met os _)) ?_
  intro W base args ds gs before hval hW _ _ hL _
  exact law_post (C := cd) (G := gdn) (vts := [.str, .u8, .u8]) (F := fun x => passkeylaw11_PinWeak x.1 x.2.1 x.2.2.1) (by kernel_rfl) (by kernel_rfl) (tb := 4) (by kernel_rfl) und4 (ts := [9, 5, 5]) (by kernel_rfl) argsok rfl (sp H) passkeylaw11_PinWeak_ok passkeylaw11_PinWeak_true hval hW (globL hL)

theorem said : Rows.PinWeakSaid :=
  OpenClaim.holds_of_wide 6 Tryd.f6 rfl rfl rfl rfl rfl rfl rfl ⟨rfl, rfl, rfl, rfl, rfl⟩ rfl rfl rfl rfl rfl (by kernel_rfl) Tryd.func6 (by kernel_rfl)
    (of_decide_eq_true (by kernel_rfl)) (by unfold Func.isWrapper; first | (rw [if_pos (by decide +kernel)]; kernel_rfl) | (rw [if_neg (by decide +kernel)]; exact ⟨rfl, rfl⟩))
    (fun os started H enc _ => lifted os started H enc)

theorem proved : Rows.PinWeakCardSaid :=
  Claim7.holds_tied_plain_at .later [] [.data, .pinned] true Rows.pinWeakCard.stood.harness false
    said (fun _ h => by cases h) (by kernel_rfl) (fun _ h => by cases h) pinWeak_row_tie rfl ⟨rfl, rfl⟩ (by kernel_rfl) rfl
    (fun f fn hf hfn => by
      obtain rfl : f = 6 := Option.some.inj ((show Tryd.prog.funcNamed Rows.pinWeakRow.func = some 6 by kernel_rfl).symm.trans hf) |>.symm
      obtain rfl : fn = Tryd.f6 := (Option.some.inj (Tryd.func6.symm.trans hfn)).symm
      exact ⟨by kernel_rfl, fun j t ht => by
        rw [Tryd.params6] at ht
        have hm : t ∈ ([9, 5, 5] : List Nat) := by simpa using Array.mem_of_getElem? ht
        have hall : (([9, 5, 5] : List Nat).all fun u => !Tryd.prog.wantsStandIn u) = true := by kernel_rfl
        exact (show Tryd.prog.wantsStandIn t = false by simpa using List.all_eq_true.1 hall t hm)⟩)
    (by kernel_rfl)

#print axioms proved
end Go.Proofs.YtlbafgkhnhkanaaDoor.pinWeak

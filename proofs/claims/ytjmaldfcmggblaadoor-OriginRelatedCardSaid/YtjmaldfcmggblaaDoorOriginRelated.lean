/- The law OriginRelated: for every input it returns true, and the arguments read as they did. No condition. -/
import Derived.Test.YtjmaldfcmggblaaDoorOgC
import Derived.Test.YtjmaldfcmggblaaDoorRows
import Derived.ProofKit
import Derived.LaidMore
import Derived.OpenShut
import Derived.Stop.Joined
import Derived.Lib.LaidIn
import Derived.Test.YtjmaldfcmggblaaDoorCards
import Derived.Test.YtjmaldfcmggblaaDoorTie
import Derived.Lib.LaidU8
import Derived.Lib.LaidU8T
import Derived.Lib.DecodeN
import Derived.SevenTiedAt
import Derived.MakeChecks
import Derived.Lib.LaidTab
namespace Go.Proofs.YtjmaldfcmggblaaDoor
open Go Go.Abs
theorem passkeylaw24_OriginRelated_true (x : tySs T (slots [(.int .i64), (.int .i64), (.rs 1), (.rs 2)])) (hd : ArgD cd [(.int .i64), (.int .i64), (.rs 1), (.rs 2)] x) : ∃ o, passkeylaw24_OriginRelated x.1 x.2.1 x.2.2.1 x.2.2.2.1 = some (o, true, ()) := by
  obtain ⟨⟨o, b, u⟩, h1, h2⟩ := OriginRelated_plain x.1 x.2.1 x.2.2.1 x.2.2.2.1 hd
  refine ⟨o, h1.trans ?_⟩
  simp only at h2
  rw [h2]
end Go.Proofs.YtjmaldfcmggblaaDoor
namespace Go.Proofs.YtjmaldfcmggblaaDoor.originRelated
open Go Go.Abs Go.ChangeShapes Go.WideShapes Go.ChangeAt Go.RowKit
set_option linter.unusedVariables false
set_option maxRecDepth 100000

theorem own : ownKnob Tryd.prog.godebug = Option.none := by kernel_rfl
def fsOf : Option TypeDesc → Array Field
  | some (.struct fs) => fs
  | _ => #[]
theorem und3 : Tryd.prog.underlying 3 = some (.int .i64) := by kernel_rfl
theorem und4 : Tryd.prog.underlying 4 = some .bool := by kernel_rfl
theorem und9 : Tryd.prog.underlying 9 = some .string := by kernel_rfl
theorem und22 : Tryd.prog.underlying 22 = some (.slice 9) := by kernel_rfl
theorem und23 : Tryd.prog.underlying 23 = some (.slice 3) := by kernel_rfl
theorem opens3 : Opens Tryd.prog cd 3 [.int .i64] := opens_int (by kernel_rfl)
theorem opens9 : Opens Tryd.prog cd 9 [.str] := opens_str (by kernel_rfl)
theorem opens22 : Opens Tryd.prog cd 22 [.rs 1] := opens_slice (ls := lfs 1) (of := of1) (by kernel_rfl) opens9 (fun _ => rfl) (by kernel_rfl) (by kernel_rfl) (by decide)
theorem opens23 : Opens Tryd.prog cd 23 [.rs 2] := opens_slice (ls := lfs 2) (of := of2) (by kernel_rfl) opens3 (fun _ => rfl) (by kernel_rfl) (by kernel_rfl) (by decide)
theorem argsok : ArgsOk Tryd.prog cd [3, 3, 22, 23] [(.int .i64), (.int .i64), (.rs 1), (.rs 2)] := (argsOk_cons (arg_leaf opens3 (fun _ h => by rw [und3] at h; cases h) (fun _ _ h => by rw [und3] at h; cases h) (fun x => x) (fun _ => rfl)) (argsOk_cons (arg_leaf opens3 (fun _ h => by rw [und3] at h; cases h) (fun _ _ h => by rw [und3] at h; cases h) (fun x => x) (fun _ => rfl)) (argsOk_cons (arg_leaf opens22 (fun _ h => by rw [und22] at h; cases h) (fun _ _ h => by rw [und22] at h; cases h) (fun x => x) (fun _ => rfl)) (argsOk_cons (arg_leaf opens23 (fun _ h => by rw [und23] at h; cases h) (fun _ _ h => by rw [und23] at h; cases h) (fun x => x) (fun _ => rfl)) argsOk_nil))))
theorem sp (H : Type) : ∀ ds : List (DataW H), ds.length = 4 → Rows.originRelatedSpec.fn H ds = { results := [.lit (.bool true)], args := ds }
  | [d0, d1, d2, d3], _ => rfl
noncomputable def laidWorld (os : Os) : World :=
  let w0 := World.holding Tryd.prog os ⟨#[], #[], []⟩
  let put (h : Array Obj) (g : Nat) (cs : Array Value) : Array Obj := h.modify g fun
    | .cells _ t frozen => .cells cs t frozen
    | o => o
  let h1 := put w0.heap 2 (Lib.firstTab.map fun z => Value.int .u8 z).toArray
  let h2 := put h1 3 ((List.range 16).flatMap fun i => [Value.int .u8 (Lib.accLo i), Value.int .u8 (Lib.accHi i)]).toArray
  let h3 := put h2 1 (Lib.pow10Tab.map fun z => Value.int .u64 z).toArray
  let h4 := put h3 4 (([0, 1, 28, 2, 29, 14, 24, 3, 30, 22, 20, 15, 25, 17, 4, 8, 31, 27, 13, 23, 21, 19, 16, 7, 26, 12, 18, 6, 11, 5, 10, 9] : List Int).map fun z => Value.int .u8 z).toArray
  let h5 := put h4 5 (([0, 1, 56, 2, 57, 49, 28, 3, 61, 58, 42, 50, 38, 29, 17, 4, 62, 47, 59, 36, 45, 43, 51, 22, 53, 39, 33, 30, 24, 18, 12, 5, 63, 55, 48, 27, 60, 41, 37, 16, 46, 35, 44, 21, 52, 32, 23, 11, 54, 26, 40, 15, 34, 20, 31, 10, 25, 14, 19, 9, 13, 8, 7, 6] : List Int).map fun z => Value.int .u8 z).toArray
  { w0 with heap := h5 }
theorem door_met (os : Os) (args : Array Value) : laidMetH Tryd.prog Rows.originRelatedRow.laid ((laidWorld os).forCall (fun _ _ => 0) ⟨#[], args, []⟩).memory :=
  laidMetH_of_parts3 (fuel := 8) (LaidIn.of_run [1, 2, 3, 4, 5] 8 (by kernel_rfl) (by kernel_rfl) (by kernel_rfl) (by kernel_rfl)).met (by kernel_rfl) (by kernel_rfl)
theorem globL {w : World} (hL : laidMetH Tryd.prog Rows.originRelatedRow.laid w) : Glob gdn (All w) w := by
  rw [Go.MakeChecks.laidMetH_plain _ _ _ (by kernel_rfl)] at hL
  have e1 : (Rows.laid_internal_strconv_uint64pow10 : DataW Unit) = Lib.tabData .u64 Lib.pow10Tab := by kernel_rfl
  obtain ⟨g', t', cs, fuel, p, hg', ht', hvar, hd⟩ : Lib.VarReads Tryd.prog w "internal/strconv.uint64pow10" (Lib.tabData .u64 Lib.pow10Tab) := by rw [← e1]; exact Lib.laidMet.reads hL (by repeat (first | exact .head _ | apply List.Mem.tail))
  have hg : Tryd.prog.globalNamed "internal/strconv.uint64pow10" = some 1 := by kernel_rfl
  have hty : (Tryd.prog.globals[1]?).map (·.type) = some 112 := by kernel_rfl
  obtain rfl := Option.some.inj (hg.symm.trans hg')
  obtain rfl := Option.some.inj (hty.symm.trans ht')
  refine glob_of ?_
  unfold Lib.TabIs
  rw [hvar, ← Lib.cells_of_tab (e := 99) (n := 20) (by kernel_rfl) (by kernel_rfl) (by kernel_rfl) (by kernel_rfl) hd]

theorem lifted (os : Os) (started : os.Started) (H : Type) (enc : TypeId × Value → H) :
    ReturnsInHanded {} Tryd.checked os 3 .any (fun w args => (Rows.originRelatedSpec.pre enc Tryd.prog Tryd.f3 [] false w args ∧ laidMetH Tryd.prog Rows.originRelatedRow.laid w) ∧ sizedMet enc Tryd.prog Tryd.f3 (OpenSpec.ofChange Rows.originRelatedSpec) false w args) (Rows.originRelatedSpec.post enc Tryd.prog Tryd.f3 false true false false) := by
  refine returnsInHanded_of_change_and (C := Tryd.checked) (X := fun w _ => laidMetH Tryd.prog Rows.originRelatedRow.laid w) (fun _ _ _ hh h => h.of_heap hh) own started (by kernel_rfl) Tryd.func3
    (ChangeSpec.witness_shaped (enc := enc) (C := Tryd.checked) (os := os) (X := fun w _ => laidMetH Tryd.prog Rows.originRelatedRow.laid w) false (laidWorld os) #[.int .i64 0, .int .i64 0, .slice none 0 0, .slice none 0 0] 8 rfl (World.shaped_of_RefB (by kernel_rfl) (by kernel_rfl)) (by kernel_rfl) (by kernel_rfl) (by kernel_rfl) (door_met os _)) ?_
  intro W base args ds gs before hval hW _ hwt hL _
  exact law_post (C := cd) (G := gdn) (vts := [(.int .i64), (.int .i64), (.rs 1), (.rs 2)]) (F := fun x => passkeylaw24_OriginRelated x.1 x.2.1 x.2.2.1 x.2.2.2.1) (by kernel_rfl) (by kernel_rfl) (tb := 4) (by kernel_rfl) und4 (ts := [3, 3, 22, 23]) (by kernel_rfl) argsok rfl (sp H) passkeylaw24_OriginRelated_ok passkeylaw24_OriginRelated_true hval hW (globL hL)

theorem said : Rows.OriginRelatedSaid :=
  OpenClaim.holds_of_wide 3 Tryd.f3 rfl rfl rfl rfl rfl rfl rfl ⟨rfl, rfl, rfl, rfl, rfl⟩ rfl rfl rfl rfl rfl (by kernel_rfl) Tryd.func3 (by kernel_rfl)
    (of_decide_eq_true (by kernel_rfl)) (by unfold Func.isWrapper; first | (rw [if_pos (by decide +kernel)]; kernel_rfl) | (rw [if_neg (by decide +kernel)]; exact ⟨rfl, rfl⟩))
    (fun os started H enc _ => lifted os started H enc)

theorem proved : Rows.OriginRelatedCardSaid :=
  Claim7.holds_tied_plain_at .later [] [.data, .data, .data, .data, .pinned] true Rows.originRelatedCard.stood.harness false
    said (fun _ h => by cases h) (by kernel_rfl) (fun _ h => by cases h) originRelated_row_tie rfl ⟨rfl, rfl⟩ (by kernel_rfl) rfl
    (fun f fn hf hfn => by
      obtain rfl : f = 3 := Option.some.inj ((show Tryd.prog.funcNamed Rows.originRelatedRow.func = some 3 by kernel_rfl).symm.trans hf) |>.symm
      obtain rfl : fn = Tryd.f3 := (Option.some.inj (Tryd.func3.symm.trans hfn)).symm
      exact ⟨by kernel_rfl, fun j t ht => by
        rw [Tryd.params3] at ht
        have hm : t ∈ ([3, 3, 22, 23] : List Nat) := by simpa using Array.mem_of_getElem? ht
        have hall : (([3, 3, 22, 23] : List Nat).all fun u => !Tryd.prog.wantsStandIn u) = true := by kernel_rfl
        exact (show Tryd.prog.wantsStandIn t = false by simpa using List.all_eq_true.1 hall t hm)⟩)
    (by kernel_rfl)

#print axioms proved
end Go.Proofs.YtjmaldfcmggblaaDoor.originRelated

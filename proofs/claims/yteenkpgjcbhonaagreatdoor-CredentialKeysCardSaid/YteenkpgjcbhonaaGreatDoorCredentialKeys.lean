/- The law CredentialKeys: for every input it returns true, and the arguments read as they did. No condition. -/
import Derived.Test.YteenkpgjcbhonaaGreatDoorKeB
import Derived.Test.YteenkpgjcbhonaaGreatDoorRows
import Derived.ProofKit
import Derived.LaidMore
import Derived.OpenShut
import Derived.Stop.Joined
import Derived.Lib.LaidIn
import Derived.Test.YteenkpgjcbhonaaGreatDoorCards
import Derived.Test.YteenkpgjcbhonaaGreatDoorTie
import Derived.Lib.LaidU8
import Derived.Lib.LaidU8T
import Derived.Lib.DecodeN
import Derived.SevenTiedAt
import Derived.MakeChecks
namespace Go.Proofs.YteenkpgjcbhonaaGreatDoor
open Go Go.Abs
theorem passkeylaw15_CredentialKeys_true (x : tySs T (slots [(.int .i64), (.int .i64)])) (hd : ArgD cd [(.int .i64), (.int .i64)] x) : ∃ o, passkeylaw15_CredentialKeys x.1 x.2.1 = some (o, true, ()) := by
  obtain ⟨⟨o, b, u⟩, h1, h2⟩ := CredentialKeys_plain x.1 x.2.1 hd
  refine ⟨o, h1.trans ?_⟩
  simp only at h2
  rw [h2]
end Go.Proofs.YteenkpgjcbhonaaGreatDoor
namespace Go.Proofs.YteenkpgjcbhonaaGreatDoor.credentialKeys
open Go Go.Abs Go.ChangeShapes Go.WideShapes Go.ChangeAt Go.RowKit
set_option linter.unusedVariables false
set_option maxRecDepth 100000

theorem own : ownKnob Tryz.prog.godebug = Option.none := by kernel_rfl
def fsOf : Option TypeDesc → Array Field
  | some (.struct fs) => fs
  | _ => #[]
theorem und3 : Tryz.prog.underlying 3 = some (.int .i64) := by kernel_rfl
theorem und4 : Tryz.prog.underlying 4 = some .bool := by kernel_rfl
theorem opens3 : Opens Tryz.prog cd 3 [.int .i64] := opens_int (by kernel_rfl)
theorem argsok : ArgsOk Tryz.prog cd [3, 3] [(.int .i64), (.int .i64)] := (argsOk_cons (arg_leaf opens3 (fun _ h => by rw [und3] at h; cases h) (fun _ _ h => by rw [und3] at h; cases h) (fun x => x) (fun _ => rfl)) (argsOk_cons (arg_leaf opens3 (fun _ h => by rw [und3] at h; cases h) (fun _ _ h => by rw [und3] at h; cases h) (fun x => x) (fun _ => rfl)) argsOk_nil))
theorem sp (H : Type) : ∀ ds : List (DataW H), ds.length = 2 → Rows.credentialKeysSpec.fn H ds = { results := [.lit (.bool true)], args := ds }
  | [d0, d1], _ => rfl
noncomputable def laidWorld (os : Os) : World :=
  let w0 := World.holding Tryz.prog os ⟨#[], #[], []⟩
  let put (h : Array Obj) (g : Nat) (cs : Array Value) : Array Obj := h.modify g fun
    | .cells _ t frozen => .cells cs t frozen
    | o => o
  let h1 := put w0.heap 0 (Lib.firstTab.map fun z => Value.int .u8 z).toArray
  let h2 := put h1 1 ((List.range 16).flatMap fun i => [Value.int .u8 (Lib.accLo i), Value.int .u8 (Lib.accHi i)]).toArray
  { w0 with heap := h2 }
theorem door_met (os : Os) (args : Array Value) : laidMetH Tryz.prog Rows.credentialKeysRow.laid ((laidWorld os).forCall (fun _ _ => 0) ⟨#[], args, []⟩).memory :=
  laidMetH_of_parts3 (fuel := 8) (LaidIn.of_run [0, 1] 8 (by kernel_rfl) (by kernel_rfl) (by kernel_rfl) (by kernel_rfl)).met (by kernel_rfl) (by kernel_rfl)
theorem extra : Go.Proofs.U8Extra Tryz.prog Tryz.lays196_ren := ⟨by kernel_rfl, by kernel_rfl, by kernel_rfl, by kernel_rfl, by kernel_rfl, by kernel_rfl, by kernel_rfl⟩
theorem tabsL {w : World} (hL : laidMetH Tryz.prog Rows.credentialKeysRow.laid w) : Lib.Utf8Tabs 0 1 w := by
  rw [Go.MakeChecks.laidMetH_plain _ _ _ (by kernel_rfl)] at hL
  have e1 : Rows.laid_unicode_utf8_first = Lib.firstData := by kernel_rfl
  have e2 : (Rows.laid_unicode_utf8_acceptRanges : DataW Unit) = Lib.acceptData := by kernel_rfl
  have h3 : Lib.VarReads Tryz.prog w "unicode/utf8.first" Lib.firstData := by rw [← e1]; exact Lib.laidMet.reads hL (by repeat (first | exact .head _ | apply List.Mem.tail))
  have h4 : Lib.VarReads Tryz.prog w "unicode/utf8.acceptRanges" Lib.acceptData := by rw [← e2]; exact Lib.laidMet.reads hL (by repeat (first | exact .head _ | apply List.Mem.tail))
  exact utf8Tabs_of_readsT (U8Types.of196 Tryz.lays196) extra h3 h4
theorem row_of_reads {P : Program} {w : World} {name : String} {d : DataW Unit} {g n : Nat} {t e : TypeId} (hg : P.globalNamed name = some g) (hty : (P.globals[g]?).map (·.type) = some t) (ht : P.underlying t = some (.array n e)) (h : Lib.VarReads P w name d) : rowSize w g = P.cellsOf t := by
  obtain ⟨g', t', cs, fuel, p, hg', ht', hvar, hd⟩ := h
  obtain rfl := Option.some.inj (hg.symm.trans hg')
  obtain rfl := Option.some.inj (hty.symm.trans ht')
  have hl : cs.size = P.cellsOf t := by
    cases fuel with
    | zero => simp [DataW.trod] at hd
    | succ fuel =>
      simp only [DataW.trod, ht] at hd
      split at hd
      · rename_i hl; simpa using hl
      · cases hd
  unfold World.var? at hvar
  rw [hg] at hvar
  simp only [Option.bind_some] at hvar
  unfold rowSize
  cases hh : w.heap[g]? with
  | none => rw [hh] at hvar; cases hvar
  | some o =>
    cases o with
    | cells c t fz =>
      rw [hh] at hvar
      simp only [Option.some.injEq] at hvar
      rw [← hvar] at hl
      exact hl
    | _ => rw [hh] at hvar; cases hvar
theorem globL {w : World} (hL : laidMetH Tryz.prog Rows.credentialKeysRow.laid w) : Glob gdn (All w) w := by
  have h := tabsL hL
  rw [Go.MakeChecks.laidMetH_plain _ _ _ (by kernel_rfl)] at hL
  have h3 : Lib.VarReads Tryz.prog w "unicode/utf8.first" Rows.laid_unicode_utf8_first := Lib.laidMet.reads hL (by repeat (first | exact .head _ | apply List.Mem.tail))
  have h4 : Lib.VarReads Tryz.prog w "unicode/utf8.acceptRanges" Rows.laid_unicode_utf8_acceptRanges := Lib.laidMet.reads hL (by repeat (first | exact .head _ | apply List.Mem.tail))
  exact glob_of h ((row_of_reads (g := 0) (t := 65) (n := 256) (e := 5) (by kernel_rfl) (by kernel_rfl) (by kernel_rfl) h3).trans (by kernel_rfl)) ((row_of_reads (g := 1) (t := 68) (n := 16) (e := 67) (by kernel_rfl) (by kernel_rfl) (by kernel_rfl) h4).trans (by kernel_rfl))

theorem lifted (os : Os) (started : os.Started) (H : Type) (enc : TypeId × Value → H) :
    ReturnsInHanded {} Tryz.checked os 3 .any (fun w args => (Rows.credentialKeysSpec.pre enc Tryz.prog Tryz.f3 [] false w args ∧ laidMetH Tryz.prog Rows.credentialKeysRow.laid w) ∧ sizedMet enc Tryz.prog Tryz.f3 (OpenSpec.ofChange Rows.credentialKeysSpec) false w args) (Rows.credentialKeysSpec.post enc Tryz.prog Tryz.f3 false true false false) := by
  refine returnsInHanded_of_change_and (C := Tryz.checked) (X := fun w _ => laidMetH Tryz.prog Rows.credentialKeysRow.laid w) (fun _ _ _ hh h => h.of_heap hh) own started (by kernel_rfl) Tryz.func3
    (ChangeSpec.witness_shaped (enc := enc) (C := Tryz.checked) (os := os) (X := fun w _ => laidMetH Tryz.prog Rows.credentialKeysRow.laid w) false (laidWorld os) #[.int .i64 0, .int .i64 0] 8 rfl (World.shaped_of_RefB (by kernel_rfl) (by kernel_rfl)) (by kernel_rfl) (by kernel_rfl) (by kernel_rfl) (door_met os _)) ?_
  intro W base args ds gs before hval hW _ hwt hL _
  exact law_post (C := cd) (G := gdn) (vts := [(.int .i64), (.int .i64)]) (F := fun x => passkeylaw15_CredentialKeys x.1 x.2.1) (by kernel_rfl) (by kernel_rfl) (tb := 4) (by kernel_rfl) und4 (ts := [3, 3]) (by kernel_rfl) argsok rfl (sp H) passkeylaw15_CredentialKeys_ok passkeylaw15_CredentialKeys_true hval hW (globL hL)

theorem said : Rows.CredentialKeysSaid :=
  OpenClaim.holds_of_wide 3 Tryz.f3 rfl rfl rfl rfl rfl rfl rfl ⟨rfl, rfl, rfl, rfl, rfl⟩ rfl rfl rfl rfl rfl (by kernel_rfl) Tryz.func3 (by kernel_rfl)
    (of_decide_eq_true (by kernel_rfl)) (by unfold Func.isWrapper; first | (rw [if_pos (by decide +kernel)]; kernel_rfl) | (rw [if_neg (by decide +kernel)]; exact ⟨rfl, rfl⟩))
    (fun os started H enc _ => lifted os started H enc)

theorem proved : Rows.CredentialKeysCardSaid :=
  Claim7.holds_tied_plain_at .later [] [.data, .pinned] true Rows.credentialKeysCard.stood.harness false
    said (fun _ h => by cases h) (by kernel_rfl) (fun _ h => by cases h) credentialKeys_row_tie rfl ⟨rfl, rfl⟩ (by kernel_rfl) rfl
    (fun f fn hf hfn => by
      obtain rfl : f = 3 := Option.some.inj ((show Tryz.prog.funcNamed Rows.credentialKeysRow.func = some 3 by kernel_rfl).symm.trans hf) |>.symm
      obtain rfl : fn = Tryz.f3 := (Option.some.inj (Tryz.func3.symm.trans hfn)).symm
      exact ⟨by kernel_rfl, fun j t ht => by
        rw [Tryz.params3] at ht
        have hm : t ∈ ([3, 3] : List Nat) := by simpa using Array.mem_of_getElem? ht
        have hall : (([3, 3] : List Nat).all fun u => !Tryz.prog.wantsStandIn u) = true := by kernel_rfl
        exact (show Tryz.prog.wantsStandIn t = false by simpa using List.all_eq_true.1 hall t hm)⟩)
    (by kernel_rfl)

#print axioms proved
end Go.Proofs.YteenkpgjcbhonaaGreatDoor.credentialKeys

/- The law CredentialValidates: for every input it returns true, and the arguments read as they did. No condition. -/
import Derived.Test.YtghfcfjnfgmkgaaGreatDoorCredB
import Derived.Test.YtghfcfjnfgmkgaaGreatDoorRows
import Derived.ProofKit
import Derived.LaidMore
import Derived.OpenShut
import Derived.Stop.Joined
import Derived.Lib.LaidIn
import Derived.Test.YtghfcfjnfgmkgaaGreatDoorCards
import Derived.Test.YtghfcfjnfgmkgaaGreatDoorTie
import Derived.Lib.LaidU8
import Derived.Lib.LaidU8T
import Derived.Lib.DecodeN
import Derived.SevenTiedAt
import Derived.MakeChecks
namespace Go.Proofs.YtghfcfjnfgmkgaaGreatDoor
open Go Go.Abs
theorem passkeylaw15_CredentialValidates_true (x : tySs T (slots [(.agg 2), (.int .i64), (.int .i64)])) (hd : ArgD cd [(.agg 2), (.int .i64), (.int .i64)] x) : ∃ o, passkeylaw15_CredentialValidates x.1 x.2.1 x.2.2.1 = some (o, true, ()) := by
  obtain ⟨⟨o, b, u⟩, h1, h2⟩ := CredentialValidates_plain x.1 x.2.1 x.2.2.1 hd
  refine ⟨o, h1.trans ?_⟩
  simp only at h2
  rw [h2]
end Go.Proofs.YtghfcfjnfgmkgaaGreatDoor
namespace Go.Proofs.YtghfcfjnfgmkgaaGreatDoor.credentialValidates
open Go Go.Abs Go.ChangeShapes Go.WideShapes Go.ChangeAt Go.RowKit
set_option linter.unusedVariables false
set_option maxRecDepth 100000

theorem own : ownKnob Tryz.prog.godebug = Option.none := by kernel_rfl
def fsOf : Option TypeDesc → Array Field
  | some (.struct fs) => fs
  | _ => #[]
theorem und3 : Tryz.prog.underlying 3 = some (.int .i64) := by kernel_rfl
theorem und4 : Tryz.prog.underlying 4 = some .bool := by kernel_rfl
theorem und9 : Tryz.prog.underlying 9 = some .string := by kernel_rfl
theorem und22 : Tryz.prog.underlying 22 = some (.int .u64) := by kernel_rfl
theorem und24 : Tryz.prog.underlying 24 = some (.struct (fsOf (Tryz.prog.underlying 24))) := by kernel_rfl
theorem opens9 : Opens Tryz.prog cd 9 [.str] := opens_str (by kernel_rfl)
theorem opens22 : Opens Tryz.prog cd 22 [.u64] := opens_u64 (by kernel_rfl)
theorem opens3 : Opens Tryz.prog cd 3 [.int .i64] := opens_int (by kernel_rfl)
theorem opens4 : Opens Tryz.prog cd 4 [.bool] := opens_bool (by kernel_rfl)
theorem opensT24 : OpensTs Tryz.prog cd [(9, 0), (9, 1), (9, 2), (22, 3), (3, 4), (4, 5), (3, 6), (4, 7), (4, 8)] 0 ([.str] ++ ([.str] ++ ([.str] ++ ([.u64] ++ ([.int .i64] ++ ([.bool] ++ ([.int .i64] ++ ([.bool] ++ ([.bool] ++ []))))))))) := (opensTs_cons rfl (by kernel_rfl) opens9 (opensTs_cons rfl (by kernel_rfl) opens9 (opensTs_cons rfl (by kernel_rfl) opens9 (opensTs_cons rfl (by kernel_rfl) opens22 (opensTs_cons rfl (by kernel_rfl) opens3 (opensTs_cons rfl (by kernel_rfl) opens4 (opensTs_cons rfl (by kernel_rfl) opens3 (opensTs_cons rfl (by kernel_rfl) opens4 (opensTs_cons rfl (by kernel_rfl) opens4 opensTs_nil)))))))))
theorem opens24 : Opens Tryz.prog cd 24 [.str, .str, .str, .u64, .int .i64, .bool, .int .i64, .bool, .bool] := opens_struct2 und24 (by kernel_rfl) opensT24 (by kernel_rfl)
theorem argsok : ArgsOk Tryz.prog cd [24, 3, 3] [(.agg 2), (.int .i64), (.int .i64)] := (argsOk_cons (arg_struct (ls := lfs 2) (of := of2) und24 opens24 (fun _ => rfl) cd_ok) (argsOk_cons (arg_leaf opens3 (fun _ h => by rw [und3] at h; cases h) (fun _ _ h => by rw [und3] at h; cases h) (fun x => x) (fun _ => rfl)) (argsOk_cons (arg_leaf opens3 (fun _ h => by rw [und3] at h; cases h) (fun _ _ h => by rw [und3] at h; cases h) (fun x => x) (fun _ => rfl)) argsOk_nil)))
theorem sp (H : Type) : ∀ ds : List (DataW H), ds.length = 3 → Rows.credentialValidatesSpec.fn H ds = { results := [.lit (.bool true)], args := ds }
  | [d0, d1, d2], _ => rfl
noncomputable def laidWorld (os : Os) : World :=
  let w0 := World.holding Tryz.prog os ⟨#[], #[], []⟩
  let put (h : Array Obj) (g : Nat) (cs : Array Value) : Array Obj := h.modify g fun
    | .cells _ t frozen => .cells cs t frozen
    | o => o
  let h1 := put w0.heap 0 (Lib.firstTab.map fun z => Value.int .u8 z).toArray
  let h2 := put h1 1 ((List.range 16).flatMap fun i => [Value.int .u8 (Lib.accLo i), Value.int .u8 (Lib.accHi i)]).toArray
  { w0 with heap := h2 }
theorem door_met (os : Os) (args : Array Value) : laidMetH Tryz.prog Rows.credentialValidatesRow.laid ((laidWorld os).forCall (fun _ _ => 0) ⟨#[], args, []⟩).memory :=
  laidMetH_of_parts3 (fuel := 8) (LaidIn.of_run [0, 1] 8 (by kernel_rfl) (by kernel_rfl) (by kernel_rfl) (by kernel_rfl)).met (by kernel_rfl) (by kernel_rfl)
theorem extra : Go.Proofs.U8Extra Tryz.prog Tryz.lays196_ren := ⟨by kernel_rfl, by kernel_rfl, by kernel_rfl, by kernel_rfl, by kernel_rfl, by kernel_rfl, by kernel_rfl⟩
theorem tabsL {w : World} (hL : laidMetH Tryz.prog Rows.credentialValidatesRow.laid w) : Lib.Utf8Tabs 0 1 w := by
  rw [Go.MakeChecks.laidMetH_plain _ _ _ (by kernel_rfl)] at hL
  have e1 : Rows.laid_unicode_utf8_first = Lib.firstData := by kernel_rfl
  have e2 : (Rows.laid_unicode_utf8_acceptRanges : DataW Unit) = Lib.acceptData := by kernel_rfl
  have h3 : Lib.VarReads Tryz.prog w "unicode/utf8.first" Lib.firstData := by rw [← e1]; exact Lib.laidMet.reads hL (by repeat (first | exact .head _ | apply List.Mem.tail))
  have h4 : Lib.VarReads Tryz.prog w "unicode/utf8.acceptRanges" Lib.acceptData := by rw [← e2]; exact Lib.laidMet.reads hL (by repeat (first | exact .head _ | apply List.Mem.tail))
  exact utf8Tabs_of_readsT (U8Types.of196 Tryz.lays196) extra h3 h4
theorem row_of_reads {P : Program} {w : World} {name : String} {d : DataW Unit} {g n : Nat} {t e : TypeId} (hg : P.globalNamed name = some g) (hty : (P.globals[g]?).map (·.type) = some t) (ht : P.underlying t = some (.array n e)) (h : Lib.VarReads P w name d) : rowSize w g = P.cellsOf t := by
  obtain ⟨g', t', cs, fuel, p, hg', ht', hvar, hd⟩ := h
  obtain rfl := Option.some.inj (hg.symm.trans hg')
  obtain rfl := Option.some.inj (hty.symm.trans ht')
  have hl : cs.size = P.cellsOf t := by
    cases fuel with
    | zero => simp [DataW.trod] at hd
    | succ fuel =>
      simp only [DataW.trod, ht] at hd
      split at hd
      · rename_i hl; simpa using hl
      · cases hd
  unfold World.var? at hvar
  rw [hg] at hvar
  simp only [Option.bind_some] at hvar
  unfold rowSize
  cases hh : w.heap[g]? with
  | none => rw [hh] at hvar; cases hvar
  | some o =>
    cases o with
    | cells c t fz =>
      rw [hh] at hvar
      simp only [Option.some.injEq] at hvar
      rw [← hvar] at hl
      exact hl
    | _ => rw [hh] at hvar; cases hvar
theorem globL {w : World} (hL : laidMetH Tryz.prog Rows.credentialValidatesRow.laid w) : Glob gdn (All w) w := by
  have h := tabsL hL
  rw [Go.MakeChecks.laidMetH_plain _ _ _ (by kernel_rfl)] at hL
  have h3 : Lib.VarReads Tryz.prog w "unicode/utf8.first" Rows.laid_unicode_utf8_first := Lib.laidMet.reads hL (by repeat (first | exact .head _ | apply List.Mem.tail))
  have h4 : Lib.VarReads Tryz.prog w "unicode/utf8.acceptRanges" Rows.laid_unicode_utf8_acceptRanges := Lib.laidMet.reads hL (by repeat (first | exact .head _ | apply List.Mem.tail))
  exact glob_of h ((row_of_reads (g := 0) (t := 101) (n := 256) (e := 5) (by kernel_rfl) (by kernel_rfl) (by kernel_rfl) h3).trans (by kernel_rfl)) ((row_of_reads (g := 1) (t := 104) (n := 16) (e := 103) (by kernel_rfl) (by kernel_rfl) (by kernel_rfl) h4).trans (by kernel_rfl))

theorem lifted (os : Os) (started : os.Started) (H : Type) (enc : TypeId × Value → H) :
    ReturnsInHanded {} Tryz.checked os 3 .any (fun w args => (Rows.credentialValidatesSpec.pre enc Tryz.prog Tryz.f3 [] false w args ∧ laidMetH Tryz.prog Rows.credentialValidatesRow.laid w) ∧ sizedMet enc Tryz.prog Tryz.f3 (OpenSpec.ofChange Rows.credentialValidatesSpec) false w args) (Rows.credentialValidatesSpec.post enc Tryz.prog Tryz.f3 false true false false) := by
  refine returnsInHanded_of_change_and (C := Tryz.checked) (X := fun w _ => laidMetH Tryz.prog Rows.credentialValidatesRow.laid w) (fun _ _ _ hh h => h.of_heap hh) own started (by kernel_rfl) Tryz.func3
    (ChangeSpec.witness_shaped (enc := enc) (C := Tryz.checked) (os := os) (X := fun w _ => laidMetH Tryz.prog Rows.credentialValidatesRow.laid w) false (laidWorld os) #[.agg #[.string ⟨#[]⟩, .string ⟨#[]⟩, .string ⟨#[]⟩, .int .u64 0, .int .i64 0, .bool false, .int .i64 0, .bool false, .bool false], .int .i64 0, .int .i64 0] 8 rfl (World.shaped_of_RefB (by kernel_rfl) (by kernel_rfl)) (by kernel_rfl) (by kernel_rfl) (by kernel_rfl) (door_met os _)) ?_
  intro W base args ds gs before hval hW _ hwt hL _
  exact law_post (C := cd) (G := gdn) (vts := [(.agg 2), (.int .i64), (.int .i64)]) (F := fun x => passkeylaw15_CredentialValidates x.1 x.2.1 x.2.2.1) (by kernel_rfl) (by kernel_rfl) (tb := 4) (by kernel_rfl) und4 (ts := [24, 3, 3]) (by kernel_rfl) argsok rfl (sp H) passkeylaw15_CredentialValidates_ok passkeylaw15_CredentialValidates_true hval hW (globL hL)

theorem said : Rows.CredentialValidatesSaid :=
  OpenClaim.holds_of_wide 3 Tryz.f3 rfl rfl rfl rfl rfl rfl rfl ⟨rfl, rfl, rfl, rfl, rfl⟩ rfl rfl rfl rfl rfl (by kernel_rfl) Tryz.func3 (by kernel_rfl)
    (of_decide_eq_true (by kernel_rfl)) (by unfold Func.isWrapper; first | (rw [if_pos (by decide +kernel)]; kernel_rfl) | (rw [if_neg (by decide +kernel)]; exact ⟨rfl, rfl⟩))
    (fun os started H enc _ => lifted os started H enc)

theorem proved : Rows.CredentialValidatesCardSaid :=
  Claim7.holds_tied_plain_at .later [] [.data, .pinned] true Rows.credentialValidatesCard.stood.harness false
    said (fun _ h => by cases h) (by kernel_rfl) (fun _ h => by cases h) credentialValidates_row_tie rfl ⟨rfl, rfl⟩ (by kernel_rfl) rfl
    (fun f fn hf hfn => by
      obtain rfl : f = 3 := Option.some.inj ((show Tryz.prog.funcNamed Rows.credentialValidatesRow.func = some 3 by kernel_rfl).symm.trans hf) |>.symm
      obtain rfl : fn = Tryz.f3 := (Option.some.inj (Tryz.func3.symm.trans hfn)).symm
      exact ⟨by kernel_rfl, fun j t ht => by
        rw [Tryz.params3] at ht
        have hm : t ∈ ([24, 3, 3] : List Nat) := by simpa using Array.mem_of_getElem? ht
        have hall : (([24, 3, 3] : List Nat).all fun u => !Tryz.prog.wantsStandIn u) = true := by kernel_rfl
        exact (show Tryz.prog.wantsStandIn t = false by simpa using List.all_eq_true.1 hall t hm)⟩)
    (by kernel_rfl)

#print axioms proved
end Go.Proofs.YtghfcfjnfgmkgaaGreatDoor.credentialValidates

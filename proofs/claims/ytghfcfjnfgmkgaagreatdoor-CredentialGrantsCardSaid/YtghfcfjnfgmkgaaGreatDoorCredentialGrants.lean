/- The law CredentialGrants: for every input it returns true, and the arguments read as they did. No condition. -/
import Derived.Test.YtghfcfjnfgmkgaaGreatDoorCredF
import Derived.Test.YtghfcfjnfgmkgaaGreatDoorRows
import Derived.ProofKit
import Derived.LaidMore
import Derived.OpenShut
import Derived.Stop.Joined
import Derived.Lib.LaidIn
import Derived.Test.YtghfcfjnfgmkgaaGreatDoorCards
import Derived.Test.YtghfcfjnfgmkgaaGreatDoorTie
import Derived.Lib.LaidU8
import Derived.Lib.LaidU8T
import Derived.Lib.DecodeN
import Derived.SevenTiedAt
import Derived.MakeChecks
namespace Go.Proofs.YtghfcfjnfgmkgaaGreatDoor
open Go Go.Abs
theorem Zac_true (x:tySs T (slots [(.int .i64),(.int .i64),(.int .i64),(.int .i64),(.rs 0),(.int .i64),.u8])) (hd:ArgD cd [(.int .i64),(.int .i64),(.int .i64),(.int .i64),(.rs 0),(.int .i64),.u8] x):∃ o,Zac x.1 x.2.1 x.2.2.1 x.2.2.2.1 x.2.2.2.2.1 x.2.2.2.2.2.1 x.2.2.2.2.2.2.1=some (o,true,()):=by
  obtain ⟨⟨o,b,u⟩,h1,h2⟩:=CredentialGrants_plain x.1 x.2.1 x.2.2.1 x.2.2.2.1 x.2.2.2.2.1 x.2.2.2.2.2.1 x.2.2.2.2.2.2.1 hd
  refine ⟨o,h1.trans ?_⟩
  simp only at h2
  rw [h2]
end Go.Proofs.YtghfcfjnfgmkgaaGreatDoor
namespace Go.Proofs.YtghfcfjnfgmkgaaGreatDoor.credentialGrants
open Go Go.Abs Go.ChangeShapes Go.WideShapes Go.ChangeAt Go.RowKit
set_option linter.unusedVariables false
set_option maxRecDepth 100000

theorem own:ownKnob Tryz.prog.godebug=Option.none:=by kernel_rfl
def fsOf:Option TypeDesc → Array Field
  | some (.struct fs)=>fs
  | _=>#[]
theorem und3:Tryz.prog.underlying 3=some (.int .i64):=by kernel_rfl
theorem und4:Tryz.prog.underlying 4=some .bool:=by kernel_rfl
theorem und5:Tryz.prog.underlying 5=some (.int .u8):=by kernel_rfl
theorem und28:Tryz.prog.underlying 28=some (.slice 5):=by kernel_rfl
theorem opens3:Opens Tryz.prog cd 3 [.int .i64]:=opens_int (by kernel_rfl)
theorem opens5:Opens Tryz.prog cd 5 [.u8]:=opens_u8 (by kernel_rfl)
theorem opens28:Opens Tryz.prog cd 28 [.rs 0]:=opens_slice (ls:=lfs 0) (of:=of0) (by kernel_rfl) opens5 (fun _=>rfl) (by kernel_rfl) (by kernel_rfl) (by decide)
theorem argsok:ArgsOk Tryz.prog cd [3,3,3,3,28,3,5] [(.int .i64),(.int .i64),(.int .i64),(.int .i64),(.rs 0),(.int .i64),.u8]:=(argsOk_cons (arg_leaf opens3 (fun _ h=>by rw [und3] at h; cases h) (fun _ _ h=>by rw [und3] at h; cases h) (fun x=>x) (fun _=>rfl)) (argsOk_cons (arg_leaf opens3 (fun _ h=>by rw [und3] at h; cases h) (fun _ _ h=>by rw [und3] at h; cases h) (fun x=>x) (fun _=>rfl)) (argsOk_cons (arg_leaf opens3 (fun _ h=>by rw [und3] at h; cases h) (fun _ _ h=>by rw [und3] at h; cases h) (fun x=>x) (fun _=>rfl)) (argsOk_cons (arg_leaf opens3 (fun _ h=>by rw [und3] at h; cases h) (fun _ _ h=>by rw [und3] at h; cases h) (fun x=>x) (fun _=>rfl)) (argsOk_cons (arg_leaf opens28 (fun _ h=>by rw [und28] at h; cases h) (fun _ _ h=>by rw [und28] at h; cases h) (fun x=>x) (fun _=>rfl)) (argsOk_cons (arg_leaf opens3 (fun _ h=>by rw [und3] at h; cases h) (fun _ _ h=>by rw [und3] at h; cases h) (fun x=>x) (fun _=>rfl)) (argsOk_cons (arg_leaf opens5 (fun _ h=>by rw [und5] at h; cases h) (fun _ _ h=>by rw [und5] at h; cases h) (fun x=>x) (fun _=>rfl)) argsOk_nil)))))))
theorem sp (H:Type):∀ ds:List (DataW H),ds.length=7 → Rows.credentialGrantsSpec.fn H ds = { results:=[.lit (.bool true)],args:=ds }
  | [d0,d1,d2,d3,d4,d5,d6],_=>rfl
noncomputable def laidWorld (os:Os):World:=
  let w0:=World.holding Tryz.prog os ⟨#[],#[],[]⟩
  let put (h:Array Obj) (g:Nat) (cs:Array Value):Array Obj:=h.modify g fun
    | .cells _ t frozen=>.cells cs t frozen
    | o=>o
  let h1:=put w0.heap 0 (Lib.firstTab.map fun z=>Value.int .u8 z).toArray
  let h2:=put h1 1 ((List.range 16).flatMap fun i=>[Value.int .u8 (Lib.accLo i),Value.int .u8 (Lib.accHi i)]).toArray
  { w0 with heap:=h2 }
theorem door_met (os:Os) (args:Array Value):laidMetH Tryz.prog Rows.credentialGrantsRow.laid ((laidWorld os).forCall (fun _ _=>0) ⟨#[],args,[]⟩).memory:=
  laidMetH_of_parts3 (fuel:=8) (LaidIn.of_run [0,1] 8 (by kernel_rfl) (by kernel_rfl) (by kernel_rfl) (by kernel_rfl)).met (by kernel_rfl) (by kernel_rfl)
theorem extra:Go.Proofs.U8Extra Tryz.prog Tryz.lays196_ren:=⟨by kernel_rfl,by kernel_rfl,by kernel_rfl,by kernel_rfl,by kernel_rfl,by kernel_rfl,by kernel_rfl⟩
theorem tabsL {w:World} (hL:laidMetH Tryz.prog Rows.credentialGrantsRow.laid w):Lib.Utf8Tabs 0 1 w:=by
  rw [Go.MakeChecks.laidMetH_plain _ _ _ (by kernel_rfl)] at hL
  have e1:Rows.laid_unicode_utf8_first=Lib.firstData:=by kernel_rfl
  have e2:(Rows.laid_unicode_utf8_acceptRanges:DataW Unit)=Lib.acceptData:=by kernel_rfl
  have h3 : Lib.VarReads Tryz.prog w "unicode/utf8.first" Lib.firstData := by rw [← e1]; exact Lib.laidMet.reads hL (by repeat (first | exact .head _ | apply List.Mem.tail))
  have h4 : Lib.VarReads Tryz.prog w "unicode/utf8.acceptRanges" Lib.acceptData := by rw [← e2]; exact Lib.laidMet.reads hL (by repeat (first | exact .head _ | apply List.Mem.tail))
  exact utf8Tabs_of_readsT (U8Types.of196 Tryz.lays196) extra h3 h4
theorem row_of_reads {P:Program} {w:World} {name:String} {d:DataW Unit} {g n:Nat} {t e:TypeId} (hg:P.globalNamed name=some g) (hty:(P.globals[g]?).map (·.type)=some t) (ht:P.underlying t=some (.array n e)) (h:Lib.VarReads P w name d):rowSize w g=P.cellsOf t:=by
  obtain ⟨g',t',cs,fuel,p,hg',ht',hvar,hd⟩:=h
  obtain rfl:=Option.some.inj (hg.symm.trans hg')
  obtain rfl:=Option.some.inj (hty.symm.trans ht')
  have hl:cs.size=P.cellsOf t:=by
    cases fuel with
    | zero=>simp [DataW.trod] at hd
    | succ fuel=>
      simp only [DataW.trod,ht] at hd
      split at hd
      · rename_i hl; simpa using hl
      · cases hd
  unfold World.var? at hvar
  rw [hg] at hvar
  simp only [Option.bind_some] at hvar
  unfold rowSize
  cases hh:w.heap[g]? with
  | none=>rw [hh] at hvar; cases hvar
  | some o=>
    cases o with
    | cells c t fz=>
      rw [hh] at hvar
      simp only [Option.some.injEq] at hvar
      rw [← hvar] at hl
      exact hl
    | _=>rw [hh] at hvar; cases hvar
theorem globL {w:World} (hL:laidMetH Tryz.prog Rows.credentialGrantsRow.laid w):Glob gdn (All w) w:=by
  have h:=tabsL hL
  rw [Go.MakeChecks.laidMetH_plain _ _ _ (by kernel_rfl)] at hL
  have h3 : Lib.VarReads Tryz.prog w "unicode/utf8.first" Rows.laid_unicode_utf8_first := Lib.laidMet.reads hL (by repeat (first | exact .head _ | apply List.Mem.tail))
  have h4 : Lib.VarReads Tryz.prog w "unicode/utf8.acceptRanges" Rows.laid_unicode_utf8_acceptRanges := Lib.laidMet.reads hL (by repeat (first | exact .head _ | apply List.Mem.tail))
  exact glob_of h ((row_of_reads (g:=0) (t:=101) (n:=256) (e:=5) (by kernel_rfl) (by kernel_rfl) (by kernel_rfl) h3).trans (by kernel_rfl)) ((row_of_reads (g:=1) (t:=104) (n:=16) (e:=103) (by kernel_rfl) (by kernel_rfl) (by kernel_rfl) h4).trans (by kernel_rfl))

theorem lifted (os:Os) (started:os.Started) (H:Type) (enc:TypeId × Value → H) :
    ReturnsInHanded {} Tryz.checked os 7 .any (fun w args=>(Rows.credentialGrantsSpec.pre enc Tryz.prog Tryz.f7 [] false w args ∧ laidMetH Tryz.prog Rows.credentialGrantsRow.laid w) ∧ sizedMet enc Tryz.prog Tryz.f7 (OpenSpec.ofChange Rows.credentialGrantsSpec) false w args) (Rows.credentialGrantsSpec.post enc Tryz.prog Tryz.f7 false true false false):=by
  refine returnsInHanded_of_change_and (C:=Tryz.checked) (X:=fun w _=>laidMetH Tryz.prog Rows.credentialGrantsRow.laid w) (fun _ _ _ hh h=>h.of_heap hh) own started (by kernel_rfl) Tryz.func7
    (ChangeSpec.witness_shaped (enc:=enc) (C:=Tryz.checked) (os:=os) (X:=fun w _=>laidMetH Tryz.prog Rows.credentialGrantsRow.laid w) false (laidWorld os) #[.int .i64 0,.int .i64 0,.int .i64 0,.int .i64 0,.slice none 0 0,.int .i64 0,.int .u8 0] 8 rfl (World.shaped_of_RefB (by kernel_rfl) (by kernel_rfl)) (by kernel_rfl) (by kernel_rfl) (by kernel_rfl) (door_met os _)) ?_
  intro W base args ds gs before hval hW _ hwt hL _
  exact law_post (C:=cd) (G:=gdn) (vts:=[(.int .i64),(.int .i64),(.int .i64),(.int .i64),(.rs 0),(.int .i64),.u8]) (F:=fun x=>Zac x.1 x.2.1 x.2.2.1 x.2.2.2.1 x.2.2.2.2.1 x.2.2.2.2.2.1 x.2.2.2.2.2.2.1) (by kernel_rfl) (by kernel_rfl) (tb:=4) (by kernel_rfl) und4 (ts:=[3,3,3,3,28,3,5]) (by kernel_rfl) argsok rfl (sp H) Zac_ok Zac_true hval hW (globL hL)

theorem said:Rows.CredentialGrantsSaid:=
  OpenClaim.holds_of_wide 7 Tryz.f7 rfl rfl rfl rfl rfl rfl rfl ⟨rfl,rfl,rfl,rfl,rfl⟩ rfl rfl rfl rfl rfl (by kernel_rfl) Tryz.func7 (by kernel_rfl)
    (of_decide_eq_true (by kernel_rfl)) (by unfold Func.isWrapper; first | (rw [if_pos (by decide +kernel)]; kernel_rfl) | (rw [if_neg (by decide +kernel)]; exact ⟨rfl,rfl⟩))
    (fun os started H enc _=>lifted os started H enc)

theorem proved:Rows.CredentialGrantsCardSaid:=
  Claim7.holds_tied_plain_at .later [] [.data,.pinned] true Rows.credentialGrantsCard.stood.harness false
    said (fun _ h=>by cases h) (by kernel_rfl) (fun _ h=>by cases h) credentialGrants_row_tie rfl ⟨rfl,rfl⟩ (by kernel_rfl) rfl
    (fun f fn hf hfn=>by
      obtain rfl:f=7:=Option.some.inj ((show Tryz.prog.funcNamed Rows.credentialGrantsRow.func=some 7 by kernel_rfl).symm.trans hf) |>.symm
      obtain rfl:fn=Tryz.f7:=(Option.some.inj (Tryz.func7.symm.trans hfn)).symm
      exact ⟨by kernel_rfl,fun j t ht=>by
        rw [Tryz.params7] at ht
        have hm:t ∈ ([3,3,3,3,28,3,5]:List Nat):=by simpa using Array.mem_of_getElem? ht
        have hall:(([3,3,3,3,28,3,5]:List Nat).all fun u=>!Tryz.prog.wantsStandIn u)=true:=by kernel_rfl
        exact (show Tryz.prog.wantsStandIn t=false by simpa using List.all_eq_true.1 hall t hm)⟩)
    (by kernel_rfl)

#print axioms proved
end Go.Proofs.YtghfcfjnfgmkgaaGreatDoor.credentialGrants

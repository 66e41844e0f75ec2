/- The law MessageAnswers: for every input it returns true, and the arguments read as they did. No condition. -/
import Derived.Test.YthoblablopmhfaaGreatDoorMs
import Derived.Test.YthoblablopmhfaaGreatDoorRows
import Derived.ProofKit
import Derived.LaidMore
import Derived.OpenShut
import Derived.Stop.Joined
import Derived.Lib.LaidIn
import Derived.Test.YthoblablopmhfaaGreatDoorCards
import Derived.Test.YthoblablopmhfaaGreatDoorTie
import Derived.Lib.LaidU8
import Derived.Lib.LaidU8T
import Derived.Lib.DecodeN
import Derived.SevenTiedAt
import Derived.MakeChecks
import Derived.Lib.LaidTab
namespace Go.Proofs.YthoblablopmhfaaGreatDoor
open Go Go.Abs
theorem Vw3 (x:tySs T (slots [(.rs 0),(.int .i64),(.int .i64),(.int .i64),.u8])) (hd:ArgD cd [(.rs 0),(.int .i64),(.int .i64),(.int .i64),.u8] x):∃ o,Zae x.1 x.2.1 x.2.2.1 x.2.2.2.1 x.2.2.2.2.1=some (o,true,()):=by
 obtain ⟨⟨o,b,u⟩,h1,h2⟩:=Ve3 x.1 x.2.1 x.2.2.1 x.2.2.2.1 x.2.2.2.2.1 hd
 refine ⟨o,h1.trans ?_⟩
 simp only at h2
 rw [h2]
end Go.Proofs.YthoblablopmhfaaGreatDoor
namespace Go.Proofs.YthoblablopmhfaaGreatDoor.messageAnswers
open Go Go.Abs Go.ChangeShapes Go.WideShapes Go.ChangeAt Go.RowKit
set_option linter.unusedVariables false
set_option maxRecDepth 100000

theorem own:ownKnob Tryz.prog.godebug=Option.none:=by kernel_rfl
def fsOf:Option TypeDesc→Array Field
 | some (.struct fs)=>fs
 | _=>#[]
theorem und3:Tryz.prog.underlying 3=some (.int .i64):=by kernel_rfl
theorem und4:Tryz.prog.underlying 4=some .bool:=by kernel_rfl
theorem und5:Tryz.prog.underlying 5=some (.int .u8):=by kernel_rfl
theorem und23:Tryz.prog.underlying 23=some (.slice 5):=by kernel_rfl
theorem Vyg:Opens Tryz.prog cd 5 [.u8]:=Vw1 (by kernel_rfl)
theorem Vada:Opens Tryz.prog cd 23 [.rs 0]:=Vnw (ls:=lfs 0) (of:=of0) (by kernel_rfl) Vyg (fun _=>rfl) (by kernel_rfl) (by kernel_rfl) (by decide)
theorem Vut:Opens Tryz.prog cd 3 [.int .i64]:=Vuq (by kernel_rfl)
theorem Vd4a:ArgsOk Tryz.prog cd [23,3,3,3,5] [(.rs 0),(.int .i64),(.int .i64),(.int .i64),.u8]:=(Vcx (Vfz Vada (fun _ h=>by rw [und23] at h; cases h) (fun _ _ h=>by rw [und23] at h; cases h) (fun x=>x) (fun _=>rfl)) (Vcx (Vfz Vut (fun _ h=>by rw [und3] at h; cases h) (fun _ _ h=>by rw [und3] at h; cases h) (fun x=>x) (fun _=>rfl)) (Vcx (Vfz Vut (fun _ h=>by rw [und3] at h; cases h) (fun _ _ h=>by rw [und3] at h; cases h) (fun x=>x) (fun _=>rfl)) (Vcx (Vfz Vut (fun _ h=>by rw [und3] at h; cases h) (fun _ _ h=>by rw [und3] at h; cases h) (fun x=>x) (fun _=>rfl)) (Vcx (Vfz Vyg (fun _ h=>by rw [und5] at h; cases h) (fun _ _ h=>by rw [und5] at h; cases h) (fun x=>x) (fun _=>rfl)) Vqk)))))
theorem sp (H:Type):∀ ds:List (DataW H),ds.length=5→Rows.messageAnswersSpec.fn H ds = { results:=[.lit (.bool true)],args:=ds }
 | [d0,d1,d2,d3,d4],_=>rfl
noncomputable def laidWorld (os:Os):World:=
 let w0:=World.holding Tryz.prog os ⟨#[],#[],[]⟩
 let put (h:Array Obj) (g:Nat) (cs:Array Value):Array Obj:=h.modify g fun
  | .cells _ t frozen=>.cells cs t frozen
  | o=>o
 let h1:=put w0.heap 1 (Lib.firstTab.map fun z=>Value.int .u8 z).toArray
 let h2:=put h1 2 ((List.range 16).flatMap fun i=>[Value.int .u8 (Lib.accLo i),Value.int .u8 (Lib.accHi i)]).toArray
 let h3:=put h2 0 (belTab.map fun z=>Value.int .u32 z).toArray
 { w0 with heap:=h3 }
theorem Vw4 (os:Os) (args:Array Value):laidMetH Tryz.prog Rows.messageAnswersRow.laid ((laidWorld os).forCall (fun _ _=>0) ⟨#[],args,[]⟩).memory:=
 laidMetH_of_parts3 (fuel:=8) (LaidIn.of_run [0,1,2] 8 (by kernel_rfl) (by kernel_rfl) (by kernel_rfl) (by kernel_rfl)).met (by kernel_rfl) (by kernel_rfl)
theorem extra:Go.Proofs.U8Extra Tryz.prog Tryz.lays196_ren:=⟨by kernel_rfl,by kernel_rfl,by kernel_rfl,by kernel_rfl,by kernel_rfl,by kernel_rfl,by kernel_rfl⟩
theorem tabsL {w:World} (hL:laidMetH Tryz.prog Rows.messageAnswersRow.laid w):Lib.Utf8Tabs 1 2 w:=by
 rw [Go.MakeChecks.laidMetH_plain _ _ _ (by kernel_rfl)] at hL
 have e1:Rows.laid_unicode_utf8_first=Lib.firstData:=by kernel_rfl
 have e2:(Rows.laid_unicode_utf8_acceptRanges:DataW Unit)=Lib.acceptData:=by kernel_rfl
 have h3 : Lib.VarReads Tryz.prog w "unicode/utf8.first" Lib.firstData := by rw [← e1]; exact Lib.laidMet.reads hL (by repeat (first | exact .head _ | apply List.Mem.tail))
 have h4 : Lib.VarReads Tryz.prog w "unicode/utf8.acceptRanges" Lib.acceptData := by rw [← e2]; exact Lib.laidMet.reads hL (by repeat (first | exact .head _ | apply List.Mem.tail))
 exact utf8Tabs_of_readsT (U8Types.of196 Tryz.lays196) extra h3 h4
theorem Vek {P:Program} {w:World} {name:String} {d:DataW Unit} {g n:Nat} {t e:TypeId} (hg:P.globalNamed name=some g) (hty:(P.globals[g]?).map (·.type)=some t) (ht:P.underlying t=some (.array n e)) (h:Lib.VarReads P w name d):rowSize w g=P.cellsOf t:=by
 obtain ⟨g',t',cs,fuel,p,hg',ht',hvar,hd⟩:=h
 obtain rfl:=Option.some.inj (hg.symm.trans hg')
 obtain rfl:=Option.some.inj (hty.symm.trans ht')
 have hl:cs.size=P.cellsOf t:=by
  cases fuel with
  | zero=>simp [DataW.trod] at hd
  | succ fuel=>
   simp only [DataW.trod,ht] at hd
   split at hd
   ·rename_i hl; simpa using hl
   ·cases hd
 unfold World.var? at hvar
 rw [hg] at hvar
 simp only [Option.bind_some] at hvar
 unfold rowSize
 cases hh:w.heap[g]? with
 | none=>rw [hh] at hvar; cases hvar
 | some o=>
  cases o with
  | cells c t fz=>
   rw [hh] at hvar
   simp only [Option.some.injEq] at hvar
   rw [← hvar] at hl
   exact hl
  | _=>rw [hh] at hvar; cases hvar
theorem globL {w:World} (hL:laidMetH Tryz.prog Rows.messageAnswersRow.laid w):Glob gdn (All w) w:=by
 have h:=tabsL hL
 rw [Go.MakeChecks.laidMetH_plain _ _ _ (by kernel_rfl)] at hL
 have h3 : Lib.VarReads Tryz.prog w "unicode/utf8.first" Rows.laid_unicode_utf8_first := Lib.laidMet.reads hL (by repeat (first | exact .head _ | apply List.Mem.tail))
 have h4 : Lib.VarReads Tryz.prog w "unicode/utf8.acceptRanges" Rows.laid_unicode_utf8_acceptRanges := Lib.laidMet.reads hL (by repeat (first | exact .head _ | apply List.Mem.tail))
 have e5:(Rows.laid_passkey_message_belongs:DataW Unit)=Lib.tabData .u32 belTab:=by kernel_rfl
 have h5 : Lib.VarReads Tryz.prog w "passkey/message.belongs" (Lib.tabData .u32 belTab) := by rw [← e5]; exact Lib.laidMet.reads hL (by repeat (first | exact .head _ | apply List.Mem.tail))
 have hb0 : Lib.TabIs Tryz.prog w "passkey/message.belongs" .u32 belTab := by
  obtain ⟨g',t',cs,fuel,p,hg',ht',hvar,hd⟩:=h5
  have hg : Tryz.prog.globalNamed "passkey/message.belongs" = some 0 := by kernel_rfl
  have hty:(Tryz.prog.globals[0]?).map (·.type)=some 71:=by kernel_rfl
  obtain rfl:=Option.some.inj (hg.symm.trans hg')
  obtain rfl:=Option.some.inj (hty.symm.trans ht')
  unfold Lib.TabIs
  rw [hvar,← Lib.cells_of_tab (e:=57) (n:=15) (by kernel_rfl) (by kernel_rfl) (by kernel_rfl) (by kernel_rfl) hd]
 have hb:∀ (i:Nat) (n:Int),belTab[i]? = some n→w.cell? ⟨0,i,none⟩=some (.int .u32 n):=fun i n hn=>by
  have hlt:=(List.getElem?_eq_some_iff.1 hn).1
  have hc:=hb0.cell (g:=0) (by kernel_rfl) i hlt
  rw [List.getD_eq_getElem?_getD,hn] at hc
  exact hc
 exact Vze h ((Vek (g:=1) (t:=111) (n:=256) (e:=5) (by kernel_rfl) (by kernel_rfl) (by kernel_rfl) h3).trans (by kernel_rfl)) ((Vek (g:=2) (t:=114) (n:=16) (e:=113) (by kernel_rfl) (by kernel_rfl) (by kernel_rfl) h4).trans (by kernel_rfl)) hb ((Vek (g:=0) (t:=71) (n:=15) (e:=57) (by kernel_rfl) (by kernel_rfl) (by kernel_rfl) h5).trans (by kernel_rfl))

theorem Vd5a (os:Os) (started:os.Started) (H:Type) (enc:TypeId×Value→H) :
  ReturnsInHanded {} Tryz.checked os 4 .any (fun w args=>(Rows.messageAnswersSpec.pre enc Tryz.prog Tryz.f4 [] false w args∧laidMetH Tryz.prog Rows.messageAnswersRow.laid w)∧sizedMet enc Tryz.prog Tryz.f4 (OpenSpec.ofChange Rows.messageAnswersSpec) false w args) (Rows.messageAnswersSpec.post enc Tryz.prog Tryz.f4 false true false false):=by
 refine returnsInHanded_of_change_and (C:=Tryz.checked) (X:=fun w _=>laidMetH Tryz.prog Rows.messageAnswersRow.laid w) (fun _ _ _ hh h=>h.of_heap hh) own started (by kernel_rfl) Tryz.func4
  (ChangeSpec.witness_shaped (enc:=enc) (C:=Tryz.checked) (os:=os) (X:=fun w _=>laidMetH Tryz.prog Rows.messageAnswersRow.laid w) false (laidWorld os) #[.slice none 0 0,.int .i64 0,.int .i64 0,.int .i64 0,.int .u8 0] 8 rfl (World.shaped_of_RefB (by kernel_rfl) (by kernel_rfl)) (by kernel_rfl) (by kernel_rfl) (by kernel_rfl) (Vw4 os _)) ?_
 intro W base args ds gs before hval hW _ hwt hL _
 exact Vw2 (C:=cd) (G:=gdn) (vts:=[(.rs 0),(.int .i64),(.int .i64),(.int .i64),.u8]) (F:=fun x=>Zae x.1 x.2.1 x.2.2.1 x.2.2.2.1 x.2.2.2.2.1) (by kernel_rfl) (by kernel_rfl) (tb:=4) (by kernel_rfl) und4 (ts:=[23,3,3,3,5]) (by kernel_rfl) Vd4a rfl (sp H) Vbpa Vw3 hval hW (globL hL)

theorem said:Rows.MessageAnswersSaid:=
 OpenClaim.holds_of_wide 4 Tryz.f4 rfl rfl rfl rfl rfl rfl rfl ⟨rfl,rfl,rfl,rfl,rfl⟩ rfl rfl rfl rfl rfl (by kernel_rfl) Tryz.func4 (by kernel_rfl)
  (of_decide_eq_true (by kernel_rfl)) (by unfold Func.isWrapper; first | (rw [if_pos (by decide +kernel)]; kernel_rfl) | (rw [if_neg (by decide +kernel)]; exact ⟨rfl,rfl⟩))
  (fun os started H enc _=>Vd5a os started H enc)

theorem proved:Rows.MessageAnswersCardSaid:=
 Claim7.holds_tied_plain_at .later [] [.data,.data,.pinned] true Rows.messageAnswersCard.stood.harness false
  said (fun _ h=>by cases h) (by kernel_rfl) (fun _ h=>by cases h) messageAnswers_row_tie rfl ⟨rfl,rfl⟩ (by kernel_rfl) rfl
  (fun f fn hf hfn=>by
   obtain rfl:f=4:=Option.some.inj ((show Tryz.prog.funcNamed Rows.messageAnswersRow.func=some 4 by kernel_rfl).symm.trans hf) |>.symm
   obtain rfl:fn=Tryz.f4:=(Option.some.inj (Tryz.func4.symm.trans hfn)).symm
   exact ⟨by kernel_rfl,fun j t ht=>by
    rw [Tryz.params4] at ht
    have hm:t∈([23,3,3,3,5]:List Nat):=by simpa using Array.mem_of_getElem? ht
    have hall:(([23,3,3,3,5]:List Nat).all fun u=>!Tryz.prog.wantsStandIn u)=true:=by kernel_rfl
    exact (show Tryz.prog.wantsStandIn t=false by simpa using List.all_eq_true.1 hall t hm)⟩)
  (by kernel_rfl)

#print axioms proved
end Go.Proofs.YthoblablopmhfaaGreatDoor.messageAnswers

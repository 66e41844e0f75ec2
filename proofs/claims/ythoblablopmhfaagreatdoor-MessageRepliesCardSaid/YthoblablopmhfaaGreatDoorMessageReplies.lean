import Derived.Test.YthoblablopmhfaaGreatDoorMsU
import Derived.Test.YthoblablopmhfaaGreatDoorRows
import Derived.ProofKit
import Derived.LaidMore
import Derived.OpenShut
import Derived.Stop.Joined
import Derived.Lib.LaidIn
import Derived.Test.YthoblablopmhfaaGreatDoorCards
import Derived.Test.YthoblablopmhfaaGreatDoorTie
import Derived.Lib.LaidU8
import Derived.Lib.LaidU8T
import Derived.Lib.DecodeN
import Derived.SevenTiedAt
import Derived.MakeChecks
import Derived.Lib.LaidTab
namespace Go.Proofs.YthoblablopmhfaaGreatDoor
open Go Go.Abs
theorem Vy5 (x:tySs T (slots [(.agg 4),(.int .i64),(.int .i64)])) (hd:ArgD cd [(.agg 4),(.int .i64),(.int .i64)] x):∃ o,Zae x.1 x.2.1 x.2.2.1=some (o,true,()):=by
 obtain ⟨⟨o,b,u⟩,h1,h2⟩:=Vfa x.1 x.2.1 x.2.2.1 hd
 refine ⟨o,h1.trans ?_⟩
 simp only at h2
 rw [h2]
end Go.Proofs.YthoblablopmhfaaGreatDoor
namespace Go.Proofs.YthoblablopmhfaaGreatDoor.messageReplies
open Go Go.Abs Go.ChangeShapes Go.WideShapes Go.ChangeAt Go.RowKit
set_option linter.unusedVariables false
set_option maxRecDepth 100000
theorem own:ownKnob Tryz.prog.godebug=Option.none:=by kernel_rfl
def fsOf:Option TypeDesc→Array Field
 | some (.struct fs)=>fs
 | _=>#[]
theorem u3:Tryz.prog.underlying 3=some (.int .i64):=by kernel_rfl
theorem u4:Tryz.prog.underlying 4=some .bool:=by kernel_rfl
theorem u5:Tryz.prog.underlying 5=some (.int .u8):=by kernel_rfl
theorem u9:Tryz.prog.underlying 9=some .string:=by kernel_rfl
theorem u22:Tryz.prog.underlying 22=some (.int .i64):=by kernel_rfl
theorem u23:Tryz.prog.underlying 23=some (.slice 5):=by kernel_rfl
theorem u24:Tryz.prog.underlying 24=some (.slice 23):=by kernel_rfl
theorem u25:Tryz.prog.underlying 25=some (.int .u64):=by kernel_rfl
theorem u26:Tryz.prog.underlying 26=some (.slice 31):=by kernel_rfl
theorem u28:Tryz.prog.underlying 28=some (.struct (fsOf (Tryz.prog.underlying 28))):=by kernel_rfl
theorem u31:Tryz.prog.underlying 31=some (.struct (fsOf (Tryz.prog.underlying 31))):=by kernel_rfl
theorem W1:Opens Tryz.prog cd 22 [.int .i64]:=Vm3 (by kernel_rfl)
theorem W2:Opens Tryz.prog cd 5 [.u8]:=Vy3 (by kernel_rfl)
theorem Vgw:Opens Tryz.prog cd 23 [.rs 0]:=Vfm (ls:=lfs 0) (of:=of0) (by kernel_rfl) W2 (fun _=>rfl) (by kernel_rfl) (by kernel_rfl) (by decide)
theorem W3:Opens Tryz.prog cd 24 [.rs 2]:=Vfm (ls:=lfs 2) (of:=of2) (by kernel_rfl) Vgw (fun _=>rfl) (by kernel_rfl) (by kernel_rfl) (by decide)
theorem Vg7:Opens Tryz.prog cd 3 [.int .i64]:=Vm3 (by kernel_rfl)
theorem Vm7:Opens Tryz.prog cd 9 [.str]:=Vw0 (by kernel_rfl)
theorem Vw3:Opens Tryz.prog cd 25 [.u64]:=Vwz (by kernel_rfl)
theorem Vaua:Opens Tryz.prog cd 4 [.bool]:=Vqz (by kernel_rfl)
theorem Vy6:OpensTs Tryz.prog cd [(9,0),(9,1),(9,2),(23,3),(3,4)] 0 ([.str]++([.str]++([.str]++([.rs 0]++([.int .i64]++[]))))):=(Vag rfl (by kernel_rfl) Vm7 (Vag rfl (by kernel_rfl) Vm7 (Vag rfl (by kernel_rfl) Vm7 (Vag rfl (by kernel_rfl) Vgw (Vag rfl (by kernel_rfl) Vg7 Viu)))))
theorem Vefa:Opens Tryz.prog cd 31 [.str,.str,.str,.rs 0,.int .i64]:=Vga u31 (by kernel_rfl) Vy6 (by kernel_rfl)
theorem Vega:Opens Tryz.prog cd 26 [.rs 3]:=Vfm (ls:=lfs 3) (of:=of3) (by kernel_rfl) Vefa (fun _=>rfl) (by kernel_rfl) (by kernel_rfl) (by decide)
theorem Vy7:OpensTs Tryz.prog cd [(22,0),(23,1),(23,2),(24,3),(3,4),(23,5),(9,6),(9,7),(3,8),(25,9),(23,10),(25,11),(3,12),(3,13),(3,14),(4,15),(4,16),(26,17)] 0 ([.int .i64]++([.rs 0]++([.rs 0]++([.rs 2]++([.int .i64]++([.rs 0]++([.str]++([.str]++([.int .i64]++([.u64]++([.rs 0]++([.u64]++([.int .i64]++([.int .i64]++([.int .i64]++([.bool]++([.bool]++([.rs 3]++[])))))))))))))))))):=(Vag rfl (by kernel_rfl) W1 (Vag rfl (by kernel_rfl) Vgw (Vag rfl (by kernel_rfl) Vgw (Vag rfl (by kernel_rfl) W3 (Vag rfl (by kernel_rfl) Vg7 (Vag rfl (by kernel_rfl) Vgw (Vag rfl (by kernel_rfl) Vm7 (Vag rfl (by kernel_rfl) Vm7 (Vag rfl (by kernel_rfl) Vg7 (Vag rfl (by kernel_rfl) Vw3 (Vag rfl (by kernel_rfl) Vgw (Vag rfl (by kernel_rfl) Vw3 (Vag rfl (by kernel_rfl) Vg7 (Vag rfl (by kernel_rfl) Vg7 (Vag rfl (by kernel_rfl) Vg7 (Vag rfl (by kernel_rfl) Vaua (Vag rfl (by kernel_rfl) Vaua (Vag rfl (by kernel_rfl) Vega Viu))))))))))))))))))
theorem Veha:Opens Tryz.prog cd 28 [.int .i64,.rs 0,.rs 0,.rs 2,.int .i64,.rs 0,.str,.str,.int .i64,.u64,.rs 0,.u64,.int .i64,.int .i64,.int .i64,.bool,.bool,.rs 3]:=Vga u28 (by kernel_rfl) Vy7 (by kernel_rfl)
theorem Vjua:ArgsOk Tryz.prog cd [28,3,3] [(.agg 4),(.int .i64),(.int .i64)]:=(Vfn (Vq0 (ls:=lfs 4) (of:=of4) u28 Veha (fun _=>rfl) cd_ok) (Vfn (Vpy Vg7 (fun _ h=>by rw [u3] at h; cases h) (fun _ _ h=>by rw [u3] at h; cases h) (fun x=>x) (fun _=>rfl)) (Vfn (Vpy Vg7 (fun _ h=>by rw [u3] at h; cases h) (fun _ _ h=>by rw [u3] at h; cases h) (fun x=>x) (fun _=>rfl)) Vq1)))
theorem sp (H:Type):∀ ds:List (DataW H),ds.length=3→Rows.messageRepliesSpec.fn H ds = { results:=[.lit (.bool true)],args:=ds }
 | [d0,d1,d2],_=>rfl
noncomputable def lW (os:Os):World:=
 let w0:=World.holding Tryz.prog os ⟨#[],#[],[]⟩
 let put (h:Array Obj) (g:Nat) (cs:Array Value):Array Obj:=h.modify g fun
  | .cells _ t frozen=>.cells cs t frozen
  | o=>o
 let h1:=put w0.heap 1 (Lib.firstTab.map fun z=>Value.int .u8 z).toArray
 let h2:=put h1 2 ((List.range 16).flatMap fun i=>[Value.int .u8 (Lib.accLo i),Value.int .u8 (Lib.accHi i)]).toArray
 let h3:=put h2 0 (belTab.map fun z=>Value.int .u32 z).toArray
 { w0 with heap:=h3 }
theorem Vy8 (os:Os) (args:Array Value):laidMetH Tryz.prog Rows.messageRepliesRow.laid ((lW os).forCall (fun _ _=>0) ⟨#[],args,[]⟩).memory:=
 laidMetH_of_parts3 (fuel:=8) (LaidIn.of_run [0,1,2] 8 (by kernel_rfl) (by kernel_rfl) (by kernel_rfl) (by kernel_rfl)).met (by kernel_rfl) (by kernel_rfl)
theorem eX:Go.Proofs.U8Extra Tryz.prog Tryz.lays196_ren:=⟨by kernel_rfl,by kernel_rfl,by kernel_rfl,by kernel_rfl,by kernel_rfl,by kernel_rfl,by kernel_rfl⟩
theorem tL {w:World} (hL:laidMetH Tryz.prog Rows.messageRepliesRow.laid w):Lib.Utf8Tabs 1 2 w:=by
 rw [Go.MakeChecks.laidMetH_plain _ _ _ (by kernel_rfl)] at hL
 have e1:Rows.laid_unicode_utf8_first=Lib.firstData:=by kernel_rfl
 have e2:(Rows.laid_unicode_utf8_acceptRanges:DataW Unit)=Lib.acceptData:=by kernel_rfl
 have h3 : Lib.VarReads Tryz.prog w "unicode/utf8.first" Lib.firstData:=by rw [← e1]; exact Lib.laidMet.reads hL (by repeat (first|exact .head _|apply List.Mem.tail))
 have h4 : Lib.VarReads Tryz.prog w "unicode/utf8.acceptRanges" Lib.acceptData:=by rw [← e2]; exact Lib.laidMet.reads hL (by repeat (first|exact .head _|apply List.Mem.tail))
 exact utf8Tabs_of_readsT (U8Types.of196 Tryz.lays196) eX h3 h4
theorem Vev {P:Program} {w:World} {name:String} {d:DataW Unit} {g n:Nat} {t e:TypeId} (hg:P.globalNamed name=some g) (hty:(P.globals[g]?).map (·.type)=some t) (ht:P.underlying t=some (.array n e)) (h:Lib.VarReads P w name d):rowSize w g=P.cellsOf t:=by
 obtain ⟨g',t',cs,fuel,p,hg',ht',hvar,hd⟩:=h
 obtain rfl:=Option.some.inj (hg.symm.trans hg')
 obtain rfl:=Option.some.inj (hty.symm.trans ht')
 have hl:cs.size=P.cellsOf t:=by
  cases fuel with
  | zero=>simp [DataW.trod] at hd
  | succ fuel=>
   simp only [DataW.trod,ht] at hd
   split at hd
   ·rename_i hl; simpa using hl
   ·cases hd
 unfold World.var? at hvar
 rw [hg] at hvar
 simp only [Option.bind_some] at hvar
 unfold rowSize
 cases hh:w.heap[g]? with
 | none=>rw [hh] at hvar; cases hvar
 | some o=>
  cases o with
  | cells c t fz=>
   rw [hh] at hvar
   simp only [Option.some.injEq] at hvar
   rw [← hvar] at hl
   exact hl
  | _=>rw [hh] at hvar; cases hvar
theorem gL {w:World} (hL:laidMetH Tryz.prog Rows.messageRepliesRow.laid w):Glob gdn (All w) w:=by
 have h:=tL hL
 rw [Go.MakeChecks.laidMetH_plain _ _ _ (by kernel_rfl)] at hL
 have h3 : Lib.VarReads Tryz.prog w "unicode/utf8.first" Rows.laid_unicode_utf8_first:=Lib.laidMet.reads hL (by repeat (first|exact .head _|apply List.Mem.tail))
 have h4 : Lib.VarReads Tryz.prog w "unicode/utf8.acceptRanges" Rows.laid_unicode_utf8_acceptRanges:=Lib.laidMet.reads hL (by repeat (first|exact .head _|apply List.Mem.tail))
 have e5:(Rows.laid_passkey_message_belongs:DataW Unit)=Lib.tabData .u32 belTab:=by kernel_rfl
 have h5 : Lib.VarReads Tryz.prog w "passkey/message.belongs" (Lib.tabData .u32 belTab):=by rw [← e5]; exact Lib.laidMet.reads hL (by repeat (first|exact .head _|apply List.Mem.tail))
 have hb0 : Lib.TabIs Tryz.prog w "passkey/message.belongs" .u32 belTab:=by
  obtain ⟨g',t',cs,fuel,p,hg',ht',hvar,hd⟩:=h5
  have hg : Tryz.prog.globalNamed "passkey/message.belongs" = some 0:=by kernel_rfl
  have hty:(Tryz.prog.globals[0]?).map (·.type)=some 71:=by kernel_rfl
  obtain rfl:=Option.some.inj (hg.symm.trans hg')
  obtain rfl:=Option.some.inj (hty.symm.trans ht')
  unfold Lib.TabIs
  rw [hvar,← Lib.cells_of_tab (e:=57) (n:=15) (by kernel_rfl) (by kernel_rfl) (by kernel_rfl) (by kernel_rfl) hd]
 have hb:∀ (i:Nat) (n:Int),belTab[i]? = some n→w.cell? ⟨0,i,none⟩=some (.int .u32 n):=fun i n hn=>by
  have hlt:=(List.getElem?_eq_some_iff.1 hn).1
  have hc:=hb0.cell (g:=0) (by kernel_rfl) i hlt
  rw [List.getD_eq_getElem?_getD,hn] at hc
  exact hc
 exact Vbpa h ((Vev (g:=1) (t:=111) (n:=256) (e:=5) (by kernel_rfl) (by kernel_rfl) (by kernel_rfl) h3).trans (by kernel_rfl)) ((Vev (g:=2) (t:=114) (n:=16) (e:=113) (by kernel_rfl) (by kernel_rfl) (by kernel_rfl) h4).trans (by kernel_rfl)) hb ((Vev (g:=0) (t:=71) (n:=15) (e:=57) (by kernel_rfl) (by kernel_rfl) (by kernel_rfl) h5).trans (by kernel_rfl))
theorem Vjva (os:Os) (started:os.Started) (H:Type) (enc:TypeId×Value→H) :
  ReturnsInHanded {} Tryz.checked os 3 .any (fun w args=>(Rows.messageRepliesSpec.pre enc Tryz.prog Tryz.f3 [] false w args∧laidMetH Tryz.prog Rows.messageRepliesRow.laid w)∧sizedMet enc Tryz.prog Tryz.f3 (OpenSpec.ofChange Rows.messageRepliesSpec) false w args) (Rows.messageRepliesSpec.post enc Tryz.prog Tryz.f3 false true false false):=by
 refine returnsInHanded_of_change_and (C:=Tryz.checked) (X:=fun w _=>laidMetH Tryz.prog Rows.messageRepliesRow.laid w) (fun _ _ _ hh h=>h.of_heap hh) own started (by kernel_rfl) Tryz.func3
  (ChangeSpec.witness_shaped (enc:=enc) (C:=Tryz.checked) (os:=os) (X:=fun w _=>laidMetH Tryz.prog Rows.messageRepliesRow.laid w) false (lW os) #[.agg #[.int .i64 0,.slice none 0 0,.slice none 0 0,.slice none 0 0,.int .i64 0,.slice none 0 0,.string ⟨#[]⟩,.string ⟨#[]⟩,.int .i64 0,.int .u64 0,.slice none 0 0,.int .u64 0,.int .i64 0,.int .i64 0,.int .i64 0,.bool false,.bool false,.slice none 0 0],.int .i64 0,.int .i64 0] 8 rfl (World.shaped_of_RefB (by kernel_rfl) (by kernel_rfl)) (by kernel_rfl) (by kernel_rfl) (by kernel_rfl) (Vy8 os _)) ?_
 intro W base args ds gs before hval hW _ hwt hL _
 exact Vy4 (C:=cd) (G:=gdn) (vts:=[(.agg 4),(.int .i64),(.int .i64)]) (F:=fun x=>Zae x.1 x.2.1 x.2.2.1) (by kernel_rfl) (by kernel_rfl) (tb:=4) (by kernel_rfl) u4 (ts:=[28,3,3]) (by kernel_rfl) Vjua rfl (sp H) Ve8a Vy5 hval hW (gL hL)
theorem said:Rows.MessageRepliesSaid:=
 OpenClaim.holds_of_wide 3 Tryz.f3 rfl rfl rfl rfl rfl rfl rfl ⟨rfl,rfl,rfl,rfl,rfl⟩ rfl rfl rfl rfl rfl (by kernel_rfl) Tryz.func3 (by kernel_rfl)
  (of_decide_eq_true (by kernel_rfl)) (by unfold Func.isWrapper; first | (rw [if_pos (by decide +kernel)]; kernel_rfl) | (rw [if_neg (by decide +kernel)]; exact ⟨rfl,rfl⟩))
  (fun os started H enc _=>Vjva os started H enc)
theorem proved:Rows.MessageRepliesCardSaid:=
 Claim7.holds_tied_plain_at .later [] [.data,.data,.pinned] true Rows.messageRepliesCard.stood.harness false
  said (fun _ h=>by cases h) (by kernel_rfl) (fun _ h=>by cases h) messageReplies_row_tie rfl ⟨rfl,rfl⟩ (by kernel_rfl) rfl
  (fun f fn hf hfn=>by
   obtain rfl:f=3:=Option.some.inj ((show Tryz.prog.funcNamed Rows.messageRepliesRow.func=some 3 by kernel_rfl).symm.trans hf) |>.symm
   obtain rfl:fn=Tryz.f3:=(Option.some.inj (Tryz.func3.symm.trans hfn)).symm
   exact ⟨by kernel_rfl,fun j t ht=>by
    rw [Tryz.params3] at ht
    have hm:t∈([28,3,3]:List Nat):=by simpa using Array.mem_of_getElem? ht
    have hall:(([28,3,3]:List Nat).all fun u=>!Tryz.prog.wantsStandIn u)=true:=by kernel_rfl
    exact (show Tryz.prog.wantsStandIn t=false by simpa using List.all_eq_true.1 hall t hm)⟩)
  (by kernel_rfl)
#print axioms proved
end Go.Proofs.YthoblablopmhfaaGreatDoor.messageReplies

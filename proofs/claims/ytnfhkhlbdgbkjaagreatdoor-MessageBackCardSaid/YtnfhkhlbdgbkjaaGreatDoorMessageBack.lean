/- The law MessageBack: for every input it returns true, and the arguments read as they did. No condition. -/
import Derived.Test.YtnfhkhlbdgbkjaaGreatDoorMbH
import Derived.Test.YtnfhkhlbdgbkjaaGreatDoorRows
import Derived.ProofKit
import Derived.LaidMore
import Derived.OpenShut
import Derived.Stop.Joined
import Derived.Lib.LaidIn
import Derived.Test.YtnfhkhlbdgbkjaaGreatDoorCards
import Derived.Test.YtnfhkhlbdgbkjaaGreatDoorTie
import Derived.Lib.LaidU8
import Derived.Lib.LaidU8T
import Derived.Lib.DecodeN
import Derived.SevenTiedAt
import Derived.MakeChecks
import Derived.Lib.LaidTab
namespace Go.Proofs.YtnfhkhlbdgbkjaaGreatDoor
open Go Go.Abs
theorem Vzo(x:tySs T (slots [(.int .i64),(.int .i64)]))(hd:ArgD cd [(.int .i64),(.int .i64)] x):∃o,Zak x.1 x.2.1=some (o,true,()):=by
 obtain⟨⟨o,b,u⟩,h1,h2⟩:=Vgd x.1 x.2.1 hd;refine⟨o,h1.trans ?_⟩;simp only at h2;rw[h2]
end Go.Proofs.YtnfhkhlbdgbkjaaGreatDoor
namespace Go.Proofs.YtnfhkhlbdgbkjaaGreatDoor.messageBack
open Go Go.Abs Go.ChangeShapes Go.WideShapes Go.ChangeAt Go.RowKit
set_option linter.unusedVariables false
set_option maxRecDepth 100000

theorem own:ownKnob Tryz.prog.godebug=Option.none:=by kernel_rfl
def fsOf:Option TypeDesc->Array Field
 |some (.struct fs)=>fs
 |_=>#[]
theorem und3:Tryz.prog.underlying 3=some (.int .i64):=by kernel_rfl
theorem und4:Tryz.prog.underlying 4=some .bool:=by kernel_rfl
theorem Vb1a:Opens Tryz.prog cd 3 [.int .i64]:=Vvv (by kernel_rfl)
theorem Vgja:ArgsOk Tryz.prog cd [3,3] [(.int .i64),(.int .i64)]:=(Vh4 (Vpq Vb1a (λ_ h=>by rw[und3]at h;cases h) (λ_ _ h=>by rw[und3]at h;cases h) (λx=>x) (λ_=>rfl)) (Vh4 (Vpq Vb1a (λ_ h=>by rw[und3]at h;cases h) (λ_ _ h=>by rw[und3]at h;cases h) (λx=>x) (λ_=>rfl)) Vq9))
theorem sp(H:Type):∀ds:List (DataW H),ds.length=2->Rows.messageBackSpec.fn H ds = { results:=[.lit (.bool true)],args:=ds }
 |[d0,d1],_=>rfl
noncomputable def laidWorld(os:Os):World:=
 let w0:=World.holding Tryz.prog os ⟨#[],#[],[]⟩;let put (h:Array Obj) (g:Nat) (cs:Array Value):Array Obj:=h.modify g fun
  |.cells _ t frozen=>.cells cs t frozen
  |o=>o
 let h1:=put w0.heap 1 (Lib.firstTab.map λz=>Value.int .u8 z).toArray;let h2:=put h1 2 ((List.range 16).flatMap λi=>[Value.int .u8 (Lib.accLo i),Value.int .u8 (Lib.accHi i)]).toArray;let h3:=put h2 0 (belTab.map λz=>Value.int .u32 z).toArray
 { w0 with heap:=h3 }
theorem Vzp(os:Os)(args:Array Value):laidMetH Tryz.prog Rows.messageBackRow.laid ((laidWorld os).forCall (λ_ _=>0) ⟨#[],args,[]⟩).memory:=
 laidMetH_of_parts3 (fuel:=8) (LaidIn.of_run [0,1,2] 8 (by kernel_rfl) (by kernel_rfl) (by kernel_rfl) (by kernel_rfl)).met (by kernel_rfl) (by kernel_rfl)
theorem extra:Go.Proofs.U8Extra Tryz.prog Tryz.lays196_ren:=⟨by kernel_rfl,by kernel_rfl,by kernel_rfl,by kernel_rfl,by kernel_rfl,by kernel_rfl,by kernel_rfl⟩
theorem tabsL{w:World}(hL:laidMetH Tryz.prog Rows.messageBackRow.laid w):Lib.Utf8Tabs 1 2 w:=by
 rw[Go.MakeChecks.laidMetH_plain _ _ _ (by kernel_rfl)]at hL;have e1:Rows.laid_unicode_utf8_first=Lib.firstData:=by kernel_rfl
 have e2:(Rows.laid_unicode_utf8_acceptRanges:DataW Unit)=Lib.acceptData:=by kernel_rfl
 have h3 : Lib.VarReads Tryz.prog w "unicode/utf8.first" Lib.firstData := by rw [← e1]; exact Lib.laidMet.reads hL (by repeat (first | exact .head _ | apply List.Mem.tail))
 have h4 : Lib.VarReads Tryz.prog w "unicode/utf8.acceptRanges" Lib.acceptData := by rw [← e2]; exact Lib.laidMet.reads hL (by repeat (first | exact .head _ | apply List.Mem.tail))
 exact utf8Tabs_of_readsT (U8Types.of196 Tryz.lays196) extra h3 h4
theorem Veg{P:Program}{w:World}{name:String}{d:DataW Unit}{g n:Nat}{t e:TypeId}(hg:P.globalNamed name=some g)(hty:(P.globals[g]?).map (·.type)=some t)(ht:P.underlying t=some (.array n e))(h:Lib.VarReads P w name d):rowSize w g=P.cellsOf t:=by
 obtain⟨g',t',cs,fuel,p,hg',ht',hvar,hd⟩:=h;obtain rfl:=Option.some.inj (hg.symm.trans hg');obtain rfl:=Option.some.inj (hty.symm.trans ht');have hl:cs.size=P.cellsOf t:=by
  cases fuel with
  |zero=>simp[DataW.trod]at hd
  |succ fuel=>
   simp only[DataW.trod,ht]at hd;split at hd
   ·rename_i hl;simpa using hl
   ·cases hd
 unfold World.var? at hvar;rw[hg]at hvar;simp only[Option.bind_some]at hvar;unfold rowSize;cases hh:w.heap[g]? with
 |none=>rw[hh]at hvar;cases hvar
 |some o=>
  cases o with
  |cells c t fz=>
   rw[hh]at hvar;simp only[Option.some.injEq]at hvar;rw[<-hvar]at hl;exact hl
  |_=>rw[hh]at hvar;cases hvar
theorem globL{w:World}(hL:laidMetH Tryz.prog Rows.messageBackRow.laid w):Glob gdn (All w) w:=by
 have h:=tabsL hL;rw [Go.MakeChecks.laidMetH_plain _ _ _ (by kernel_rfl)] at hL;have h3 : Lib.VarReads Tryz.prog w "unicode/utf8.first" Rows.laid_unicode_utf8_first := Lib.laidMet.reads hL (by repeat (first | exact .head _ | apply List.Mem.tail))
 have h4 : Lib.VarReads Tryz.prog w "unicode/utf8.acceptRanges" Rows.laid_unicode_utf8_acceptRanges := Lib.laidMet.reads hL (by repeat (first | exact .head _ | apply List.Mem.tail))
 have e5:(Rows.laid_passkey_message_belongs:DataW Unit)=Lib.tabData .u32 belTab:=by kernel_rfl
 have h5 : Lib.VarReads Tryz.prog w "passkey/message.belongs" (Lib.tabData .u32 belTab) := by rw [← e5]; exact Lib.laidMet.reads hL (by repeat (first | exact .head _ | apply List.Mem.tail))
 have hb0 : Lib.TabIs Tryz.prog w "passkey/message.belongs" .u32 belTab := by
  obtain ⟨g',t',cs,fuel,p,hg',ht',hvar,hd⟩:=h5;have hg : Tryz.prog.globalNamed "passkey/message.belongs" = some 0 := by kernel_rfl
  have hty:(Tryz.prog.globals[0]?).map (·.type)=some 92:=by kernel_rfl
  obtain rfl:=Option.some.inj (hg.symm.trans hg');obtain rfl:=Option.some.inj (hty.symm.trans ht');unfold Lib.TabIs;rw[hvar,<-Lib.cells_of_tab (e:=72) (n:=15) (by kernel_rfl) (by kernel_rfl) (by kernel_rfl) (by kernel_rfl) hd]
 have hb:∀(i:Nat) (n:Int),belTab[i]? = some n->w.cell? ⟨0,i,none⟩=some (.int .u32 n):=λi n hn=>by
  have hlt:=(List.getElem?_eq_some_iff.1 hn).1;have hc:=hb0.cell (g:=0) (by kernel_rfl) i hlt;rw[List.getD_eq_getElem?_getD,hn]at hc;exact hc
 exact Vcca h ((Veg (g:=1) (t:=139) (n:=256) (e:=5) (by kernel_rfl) (by kernel_rfl) (by kernel_rfl) h3).trans (by kernel_rfl)) ((Veg (g:=2) (t:=142) (n:=16) (e:=141) (by kernel_rfl) (by kernel_rfl) (by kernel_rfl) h4).trans (by kernel_rfl)) hb ((Veg (g:=0) (t:=92) (n:=15) (e:=72) (by kernel_rfl) (by kernel_rfl) (by kernel_rfl) h5).trans (by kernel_rfl))

theorem Vgka(os:Os)(started:os.Started)(H:Type)(enc:TypeId×Value->H) :
  ReturnsInHanded {} Tryz.checked os 4 .any (λw args=>(Rows.messageBackSpec.pre enc Tryz.prog Tryz.f4 [] false w args/\laidMetH Tryz.prog Rows.messageBackRow.laid w)/\sizedMet enc Tryz.prog Tryz.f4 (OpenSpec.ofChange Rows.messageBackSpec) false w args) (Rows.messageBackSpec.post enc Tryz.prog Tryz.f4 false true false false):=by
 refine returnsInHanded_of_change_and (C:=Tryz.checked) (X:=λw _=>laidMetH Tryz.prog Rows.messageBackRow.laid w) (λ_ _ _ hh h=>h.of_heap hh) own started (by kernel_rfl) Tryz.func4
  (ChangeSpec.witness_shaped (enc:=enc) (C:=Tryz.checked) (os:=os) (X:=λw _=>laidMetH Tryz.prog Rows.messageBackRow.laid w) false (laidWorld os) #[.int .i64 0,.int .i64 0] 8 rfl (World.shaped_of_RefB (by kernel_rfl) (by kernel_rfl)) (by kernel_rfl) (by kernel_rfl) (by kernel_rfl) (Vzp os _)) ?_
 intro W base args ds gs before hval hW _ hwt hL _;exact Vy2 (C:=cd) (G:=gdn) (vts:=[(.int .i64),(.int .i64)]) (F:=λx=>Zak x.1 x.2.1) (by kernel_rfl) (by kernel_rfl) (tb:=4) (by kernel_rfl) und4 (ts:=[3,3]) (by kernel_rfl) Vgja rfl (sp H) Vfba Vzo hval hW (globL hL)

theorem an{a b:Bool}(h:a=true)(k:b=true):(a&&b)=true:=by rw[h,k];rfl
set_option maxHeartbeats 8000000 in
theorem Vgla:joinedFacts Tryz.prog 4 Tryz.f4 Rows.messageBackSpec Rows.messageBackRow=true:=by
 unfold joinedFacts;repeat' with_reducible refine an ?_ ?_
 all_goals as_aux_lemma=>kernel_rfl

theorem said:Rows.MessageBackSaid:=
 OpenClaim.holds_of_wide 4 Tryz.f4 rfl rfl rfl rfl rfl rfl rfl ⟨rfl,rfl,rfl,rfl,rfl⟩ rfl rfl rfl rfl rfl (by kernel_rfl) Tryz.func4 Vgla
  (of_decide_eq_true (by kernel_rfl)) (by unfold Func.isWrapper;first|(rw[if_pos (by decide +kernel)];kernel_rfl)|(rw[if_neg (by decide +kernel)];exact⟨rfl,rfl⟩))
  (λos started H enc _=>Vgka os started H enc)

theorem proved:Rows.MessageBackCardSaid:=
 Claim7.holds_tied_plain_at .later [] [.data,.data,.pinned] true Rows.messageBackCard.stood.harness false
  said (λ_ h=>by cases h) (by as_aux_lemma=>kernel_rfl) (λ_ h=>by cases h) messageBack_row_tie rfl ⟨rfl,rfl⟩ (by as_aux_lemma=>kernel_rfl) rfl
  (λf fn hf hfn=>by
   obtain rfl:f=4:=Option.some.inj ((show Tryz.prog.funcNamed Rows.messageBackRow.func=some 4 by as_aux_lemma=>kernel_rfl).symm.trans hf) |>.symm;obtain rfl:fn=Tryz.f4:=(Option.some.inj (Tryz.func4.symm.trans hfn)).symm;exact⟨by as_aux_lemma=>kernel_rfl,λj t ht=>by
    rw[Tryz.params4]at ht;have hm:t∈([3,3]:List Nat):=by simpa using Array.mem_of_getElem? ht
    have hall:(([3,3]:List Nat).all λu=>!Tryz.prog.wantsStandIn u)=true:=by as_aux_lemma=>kernel_rfl
    exact (show Tryz.prog.wantsStandIn t=false by simpa using List.all_eq_true.1 hall t hm)⟩)
  (by as_aux_lemma=>kernel_rfl)

#print axioms proved
end Go.Proofs.YtnfhkhlbdgbkjaaGreatDoor.messageBack

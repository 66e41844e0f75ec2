/- The law ClientBegins: for every input it returns true, and the arguments read as they did. No condition. -/
import Derived.Test.YtaddhgkhilmniaaGreatDoorCbF
import Derived.Test.YtaddhgkhilmniaaGreatDoorRows
import Derived.ProofKit
import Derived.LaidMore
import Derived.OpenShut
import Derived.Stop.Joined
import Derived.Lib.LaidIn
import Derived.Test.YtaddhgkhilmniaaGreatDoorCards
import Derived.Test.YtaddhgkhilmniaaGreatDoorTie
import Derived.Lib.LaidU8
import Derived.Lib.LaidU8T
import Derived.Lib.DecodeN
import Derived.SevenTiedAt
import Derived.MakeChecks
import Derived.Lib.LaidTab
namespace Go.Proofs.YtaddhgkhilmniaaGreatDoor
open Go Go.Abs
theorem Vwd (x:tySs T (slots [.u64,(.int .i64),(.agg 9),.bool,.str,(.agg 10),(.rs 11)])) (hd:ArgD cd [.u64,(.int .i64),(.agg 9),.bool,.str,(.agg 10),(.rs 11)] x) (hw:ArgW cd [.u64,(.int .i64),(.agg 9),.bool,.str,(.agg 10),(.rs 11)] x):∃ o,Zaj x.1 x.2.1 x.2.2.1 x.2.2.2.1 x.2.2.2.2.1 x.2.2.2.2.2.1 x.2.2.2.2.2.2.1=some (o,true,()):=by
 obtain ⟨⟨o,b,u⟩,h1,h2⟩:=ClientBegins_plain x.1 x.2.1 x.2.2.1 x.2.2.2.1 x.2.2.2.2.1 x.2.2.2.2.2.1 x.2.2.2.2.2.2.1 hd hw;refine ⟨o,h1.trans ?_⟩;simp only at h2;rw [h2]
end Go.Proofs.YtaddhgkhilmniaaGreatDoor
namespace Go.Proofs.YtaddhgkhilmniaaGreatDoor.clientBegins
open Go Go.Abs Go.ChangeShapes Go.WideShapes Go.ChangeAt Go.RowKit
set_option linter.unusedVariables false
set_option maxRecDepth 100000

theorem own:ownKnob Tryz.prog.godebug=Option.none:=by kernel_rfl
def fsOf:Option TypeDesc->Array Field
 | some (.struct fs)=>fs
 | _=>#[]
theorem und3:Tryz.prog.underlying 3=some (.int .i64):=by kernel_rfl
theorem und4:Tryz.prog.underlying 4=some .bool:=by kernel_rfl
theorem und5:Tryz.prog.underlying 5=some (.int .u8):=by kernel_rfl
theorem und9:Tryz.prog.underlying 9=some .string:=by kernel_rfl
theorem und22:Tryz.prog.underlying 22=some (.int .u64):=by kernel_rfl
theorem und24:Tryz.prog.underlying 24=some (.struct (fsOf (Tryz.prog.underlying 24))):=by kernel_rfl
theorem und25:Tryz.prog.underlying 25=some (.slice 5):=by kernel_rfl
theorem und26:Tryz.prog.underlying 26=some (.slice 25):=by kernel_rfl
theorem und28:Tryz.prog.underlying 28=some (.struct (fsOf (Tryz.prog.underlying 28))):=by kernel_rfl
theorem und29:Tryz.prog.underlying 29=some (.slice 3):=by kernel_rfl
theorem Vwe:OpensW Tryz.prog cd 22 [.u64]:=Vcb (Vvs und22) (λ_=>trivial)
theorem Vdp:OpensW Tryz.prog cd 3 [.int .i64]:=Vcb (Vvr und3) (λ_=>trivial)
theorem Vi8:OpensW Tryz.prog cd 4 [.bool]:=Vcb (Vpf und4) (λ_=>trivial)
theorem Vgz:OpensW Tryz.prog cd 9 [.str]:=Vcb (Vvt und9) (λ_=>trivial)
theorem Vp6:OpensTsW Tryz.prog cd [(4,0),(9,1),(3,2)] 0 ([.bool]++([.str]++([.int .i64]++[]))):=(Vai rfl (by kernel_rfl) Vi8 (Vai rfl (by kernel_rfl) Vgz (Vai rfl (by kernel_rfl) Vdp Vf0)))
theorem Vwf:OpensW Tryz.prog cd 24 [.bool,.str,.int .i64]:=Vei und24 (by kernel_rfl) Vp6 (by kernel_rfl)
theorem Vzy:OpensW Tryz.prog cd 5 [.u8]:=Vcb (Vxo und5) (λ_=>trivial)
theorem Vna:OpensW Tryz.prog cd 25 [.rs 0]:=Vdh (ls:=lfs 0) (of:=of0) und25 Vzy (λ_=>rfl) (by kernel_rfl) (by kernel_rfl) (by decide) (of_decide_eq_true (by kernel_rfl))
theorem Vwg:OpensW Tryz.prog cd 26 [.rs 8]:=Vdh (ls:=lfs 8) (of:=of8) und26 Vna (λ_=>rfl) (by kernel_rfl) (by kernel_rfl) (by decide) (of_decide_eq_true (by kernel_rfl))
theorem Vp7:OpensTsW Tryz.prog cd [(3,0),(9,1),(25,2),(9,3),(9,4),(26,5),(3,6),(3,7),(4,8),(3,9),(4,10),(3,11)] 0 ([.int .i64]++([.str]++([.rs 0]++([.str]++([.str]++([.rs 8]++([.int .i64]++([.int .i64]++([.bool]++([.int .i64]++([.bool]++([.int .i64]++[])))))))))))):=(Vai rfl (by kernel_rfl) Vdp (Vai rfl (by kernel_rfl) Vgz (Vai rfl (by kernel_rfl) Vna (Vai rfl (by kernel_rfl) Vgz (Vai rfl (by kernel_rfl) Vgz (Vai rfl (by kernel_rfl) Vwg (Vai rfl (by kernel_rfl) Vdp (Vai rfl (by kernel_rfl) Vdp (Vai rfl (by kernel_rfl) Vi8 (Vai rfl (by kernel_rfl) Vdp (Vai rfl (by kernel_rfl) Vi8 (Vai rfl (by kernel_rfl) Vdp Vf0))))))))))))
theorem Vwh:OpensW Tryz.prog cd 28 [.int .i64,.str,.rs 0,.str,.str,.rs 8,.int .i64,.int .i64,.bool,.int .i64,.bool,.int .i64]:=Vei und28 (by kernel_rfl) Vp7 (by kernel_rfl)
theorem Vwi:OpensW Tryz.prog cd 29 [.rs 11]:=Vdh (ls:=lfs 11) (of:=of11) und29 Vdp (λ_=>rfl) (by kernel_rfl) (by kernel_rfl) (by decide) (of_decide_eq_true (by kernel_rfl))
theorem Vbpa:ArgsOkW Tryz.prog cd [22,3,24,4,9,28,29] [.u64,(.int .i64),(.agg 9),.bool,.str,(.agg 10),(.rs 11)]:=(Va7 (Vdi Vwe (λ_ h=>by rw [und22] at h; cases h) (λ_ _ h=>by rw [und22] at h; cases h) (λx=>x) (λ_=>rfl)) (Va7 (Vdi Vdp (λ_ h=>by rw [und3] at h; cases h) (λ_ _ h=>by rw [und3] at h; cases h) (λx=>x) (λ_=>rfl)) (Va7 (Vgq (ls:=lfs 9) (of:=of9) und24 Vwf (λ_=>rfl) cd_ok) (Va7 (Vdi Vi8 (λ_ h=>by rw [und4] at h; cases h) (λ_ _ h=>by rw [und4] at h; cases h) (λx=>x) (λ_=>rfl)) (Va7 (Vdi Vgz (λ_ h=>by rw [und9] at h; cases h) (λ_ _ h=>by rw [und9] at h; cases h) (λx=>x) (λ_=>rfl)) (Va7 (Vgq (ls:=lfs 10) (of:=of10) und28 Vwh (λ_=>rfl) cd_ok) (Va7 (Vdi Vwi (λ_ h=>by rw [und29] at h; cases h) (λ_ _ h=>by rw [und29] at h; cases h) (λx=>x) (λ_=>rfl)) Vlu)))))))
theorem sp (H:Type):∀ ds:List (DataW H),ds.length=7->Rows.clientBeginsSpec.fn H ds = { results:=[.lit (.bool true)],args:=ds }
 | [d0,d1,d2,d3,d4,d5,d6],_=>rfl
def litVal:DataW Unit->Value
 | .lit (.int k n)=>.int k n
 | _=>.int .u8 0
def litsOf:DataW Unit->Array Value
 | .agg l=>(l.map litVal).toArray
 | _=>#[]
noncomputable def laidWorld (os:Os):World:=
 let w0:=World.holding Tryz.prog os ⟨#[],#[],[]⟩;let put (h:Array Obj) (g:Nat) (cs:Array Value):Array Obj:=h.modify g fun
  | .cells _ t frozen=>.cells cs t frozen
  | o=>o
 let h1:=put w0.heap 2 (Lib.firstTab.map λz=>Value.int .u8 z).toArray;let h2:=put h1 3 ((List.range 16).flatMap λi=>[Value.int .u8 (Lib.accLo i),Value.int .u8 (Lib.accHi i)]).toArray;let h3:=put h2 4 (litsOf Rows.laid_internal_strconv_uint64pow10);let h4:=put h3 7 (litsOf Rows.laid_math_bits_deBruijn32tab);let h5:=put h4 8 (litsOf Rows.laid_math_bits_deBruijn64tab);let h6:=put h5 0 (litsOf Rows.laid_passkey_message_belongs)
 { w0 with heap:=h6 }
theorem Vwj (os:Os) (args:Array Value):laidMetH Tryz.prog Rows.clientBeginsRow.laid ((laidWorld os).forCall (λ_ _=>0) ⟨#[],args,[]⟩).memory:=
 laidMetH_of_parts3 (fuel:=8) (LaidIn.of_run [0,2,3,4,7,8] 8 (by kernel_rfl) (by kernel_rfl) (by kernel_rfl) (by kernel_rfl)).met (by kernel_rfl) (by kernel_rfl)
theorem extra:Go.Proofs.U8Extra Tryz.prog Tryz.lays196_ren:=⟨by kernel_rfl,by kernel_rfl,by kernel_rfl,by kernel_rfl,by kernel_rfl,by kernel_rfl,by kernel_rfl⟩
theorem tabsL {w:World} (hL:laidMetH Tryz.prog Rows.clientBeginsRow.laid w):Lib.Utf8Tabs 2 3 w:=by
 rw [Go.MakeChecks.laidMetH_plain _ _ _ (by kernel_rfl)] at hL;have e1:Rows.laid_unicode_utf8_first=Lib.firstData:=by kernel_rfl
 have e2:(Rows.laid_unicode_utf8_acceptRanges:DataW Unit)=Lib.acceptData:=by kernel_rfl
 have h3 : Lib.VarReads Tryz.prog w "unicode/utf8.first" Lib.firstData := by rw [← e1]; exact Lib.laidMet.reads hL (by repeat (first | exact .head _ | apply List.Mem.tail))
 have h4 : Lib.VarReads Tryz.prog w "unicode/utf8.acceptRanges" Lib.acceptData := by rw [← e2]; exact Lib.laidMet.reads hL (by repeat (first | exact .head _ | apply List.Mem.tail))
 exact utf8Tabs_of_readsT (U8Types.of196 Tryz.lays196) extra h3 h4
theorem Vcp {P:Program} {w:World} {name:String} {d:DataW Unit} {g n:Nat} {t e:TypeId} (hg:P.globalNamed name=some g) (hty:(P.globals[g]?).map (·.type)=some t) (ht:P.underlying t=some (.array n e)) (h:Lib.VarReads P w name d):rowSize w g=P.cellsOf t:=by
 obtain ⟨g',t',cs,fuel,p,hg',ht',hvar,hd⟩:=h;obtain rfl:=Option.some.inj (hg.symm.trans hg');obtain rfl:=Option.some.inj (hty.symm.trans ht');have hl:cs.size=P.cellsOf t:=by
  cases fuel with
  | zero=>simp [DataW.trod] at hd
  | succ fuel=>
   simp only [DataW.trod,ht] at hd;split at hd
   ·rename_i hl; simpa using hl
   ·cases hd
 unfold World.var? at hvar;rw [hg] at hvar;simp only [Option.bind_some] at hvar;unfold rowSize;cases hh:w.heap[g]? with
 | none=>rw [hh] at hvar; cases hvar
 | some o=>
  cases o with
  | cells c t fz=>
   rw [hh] at hvar;simp only [Option.some.injEq] at hvar;rw [<- hvar] at hl;exact hl
  | _=>rw [hh] at hvar; cases hvar
theorem globL {w:World} (hL:laidMetH Tryz.prog Rows.clientBeginsRow.laid w):Glob gdn (All w) w:=by
 have h:=tabsL hL;rw [Go.MakeChecks.laidMetH_plain _ _ _ (by kernel_rfl)] at hL;have h3 : Lib.VarReads Tryz.prog w "unicode/utf8.first" Rows.laid_unicode_utf8_first := Lib.laidMet.reads hL (by repeat (first | exact .head _ | apply List.Mem.tail))
 have h4 : Lib.VarReads Tryz.prog w "unicode/utf8.acceptRanges" Rows.laid_unicode_utf8_acceptRanges := Lib.laidMet.reads hL (by repeat (first | exact .head _ | apply List.Mem.tail))
 have e5:(Rows.laid_passkey_message_belongs:DataW Unit)=Lib.tabData .u32 belTab:=by kernel_rfl
 have h5 : Lib.VarReads Tryz.prog w "passkey/message.belongs" (Lib.tabData .u32 belTab) := by rw [← e5]; exact Lib.laidMet.reads hL (by repeat (first | exact .head _ | apply List.Mem.tail))
 have hb0 : Lib.TabIs Tryz.prog w "passkey/message.belongs" .u32 belTab := by
  obtain ⟨g',t',cs,fuel,p,hg',ht',hvar,hd⟩:=h5;have hg : Tryz.prog.globalNamed "passkey/message.belongs" = some 0 := by kernel_rfl
  have hty:(Tryz.prog.globals[0]?).map (·.type)=some 366:=by kernel_rfl
  obtain rfl:=Option.some.inj (hg.symm.trans hg');obtain rfl:=Option.some.inj (hty.symm.trans ht');unfold Lib.TabIs;rw [hvar,<- Lib.cells_of_tab (e:=36) (n:=15) (by kernel_rfl) (by kernel_rfl) (by kernel_rfl) (by kernel_rfl) hd]
 have hb:∀ (i:Nat) (n:Int),belTab[i]? = some n->w.cell? ⟨0,i,none⟩=some (.int .u32 n):=λi n hn=>by
  have hlt:=(List.getElem?_eq_some_iff.1 hn).1;have hc:=hb0.cell (g:=0) (by kernel_rfl) i hlt;rw [List.getD_eq_getElem?_getD,hn] at hc;exact hc
 have e6:(Rows.laid_internal_strconv_uint64pow10:DataW Unit)=Lib.tabData .u64 Lib.pow10Tab:=by kernel_rfl
 have h6 : Lib.VarReads Tryz.prog w "internal/strconv.uint64pow10" (Lib.tabData .u64 Lib.pow10Tab) := by rw [← e6]; exact Lib.laidMet.reads hL (by repeat (first | exact .head _ | apply List.Mem.tail))
 have hp0 : Lib.TabIs Tryz.prog w "internal/strconv.uint64pow10" .u64 Lib.pow10Tab := by
  obtain ⟨g',t',cs,fuel,p,hg',ht',hvar,hd⟩:=h6;have hg : Tryz.prog.globalNamed "internal/strconv.uint64pow10" = some 4 := by kernel_rfl
  have hty:(Tryz.prog.globals[4]?).map (·.type)=some 225:=by kernel_rfl
  obtain rfl:=Option.some.inj (hg.symm.trans hg');obtain rfl:=Option.some.inj (hty.symm.trans ht');unfold Lib.TabIs;rw [hvar,<- Lib.cells_of_tab (e:=22) (n:=20) (by kernel_rfl) (by kernel_rfl) (by kernel_rfl) (by kernel_rfl) hd]
 have hp:∀ (i:Nat) (n:Int),Lib.pow10Tab[i]? = some n->w.cell? ⟨4,i,none⟩=some (.int .u64 n):=λi n hn=>by
  have hlt:=(List.getElem?_eq_some_iff.1 hn).1;have hc:=hp0.cell (g:=4) (by kernel_rfl) i hlt;rw [List.getD_eq_getElem?_getD,hn] at hc;exact hc
 exact Vz2 h ((Vcp (g:=2) (t:=475) (n:=256) (e:=5) (by kernel_rfl) (by kernel_rfl) (by kernel_rfl) h3).trans (by kernel_rfl)) ((Vcp (g:=3) (t:=478) (n:=16) (e:=477) (by kernel_rfl) (by kernel_rfl) (by kernel_rfl) h4).trans (by kernel_rfl)) hb ((Vcp (g:=0) (t:=366) (n:=15) (e:=36) (by kernel_rfl) (by kernel_rfl) (by kernel_rfl) h5).trans (by kernel_rfl)) hp ((Vcp (g:=4) (t:=225) (n:=20) (e:=22) (by kernel_rfl) (by kernel_rfl) (by kernel_rfl) h6).trans (by kernel_rfl))

theorem Vbqa (os:Os) (started:os.Started) (H:Type) (enc:TypeId×Value->H) :
  ReturnsInHanded {} Tryz.checked os 3 .any (λw args=>(Rows.clientBeginsSpec.pre enc Tryz.prog Tryz.f3 [] false w args/\laidMetH Tryz.prog Rows.clientBeginsRow.laid w)/\sizedMet enc Tryz.prog Tryz.f3 (OpenSpec.ofChange Rows.clientBeginsSpec) false w args) (Rows.clientBeginsSpec.post enc Tryz.prog Tryz.f3 false true false false):=by
 refine returnsInHanded_of_change_and (C:=Tryz.checked) (X:=λw _=>laidMetH Tryz.prog Rows.clientBeginsRow.laid w) (λ_ _ _ hh h=>h.of_heap hh) own started (by kernel_rfl) Tryz.func3
  (ChangeSpec.witness_shaped (enc:=enc) (C:=Tryz.checked) (os:=os) (X:=λw _=>laidMetH Tryz.prog Rows.clientBeginsRow.laid w) false (laidWorld os) #[.int .u64 0,.int .i64 0,.agg #[.bool false,.string ⟨#[]⟩,.int .i64 0],.bool false,.string ⟨#[]⟩,.agg #[.int .i64 0,.string ⟨#[]⟩,.slice none 0 0,.string ⟨#[]⟩,.string ⟨#[]⟩,.slice none 0 0,.int .i64 0,.int .i64 0,.bool false,.int .i64 0,.bool false,.int .i64 0],.slice none 0 0] 8 rfl (World.shaped_of_RefB (by kernel_rfl) (by kernel_rfl)) (by kernel_rfl) (by kernel_rfl) (by kernel_rfl) (Vwj os _)) ?_
 intro W base args ds gs before hval hW _ hwt hL _;exact Vpl (C:=cd) (G:=gdn) (vts:=[.u64,(.int .i64),(.agg 9),.bool,.str,(.agg 10),(.rs 11)]) (F:=λx=>Zaj x.1 x.2.1 x.2.2.1 x.2.2.2.1 x.2.2.2.2.1 x.2.2.2.2.2.1 x.2.2.2.2.2.2.1) (by kernel_rfl) (by kernel_rfl) (tb:=4) (by kernel_rfl) und4 (ts:=[22,3,24,4,9,28,29]) (by kernel_rfl) Vbpa rfl (sp H) Vbsa Vwd hval hW hwt (globL hL)

theorem an {a b:Bool} (h:a=true) (k:b=true):(a&&b)=true:=by rw [h,k]; rfl
set_option maxHeartbeats 8000000 in
theorem Vbra:joinedFacts Tryz.prog 3 Tryz.f3 Rows.clientBeginsSpec Rows.clientBeginsRow=true:=by
 unfold joinedFacts;repeat' with_reducible refine an ?_ ?_
 all_goals as_aux_lemma=>kernel_rfl

theorem said:Rows.ClientBeginsSaid:=
 OpenClaim.holds_of_wide 3 Tryz.f3 rfl rfl rfl rfl rfl rfl rfl ⟨rfl,rfl,rfl,rfl,rfl⟩ rfl rfl rfl rfl rfl (by kernel_rfl) Tryz.func3 Vbra
  (of_decide_eq_true (by kernel_rfl)) (by unfold Func.isWrapper; first | (rw [if_pos (by decide +kernel)]; kernel_rfl) | (rw [if_neg (by decide +kernel)]; exact ⟨rfl,rfl⟩))
  (λos started H enc _=>Vbqa os started H enc)

theorem Vnb:Tryz.prog.funcs.any Func.goes=false:=by kernel_rfl
theorem Vzz (f:FuncId):Tryz.prog.goes f=false:=by
 have h:∀ g:FuncId,((Tryz.prog.funcs[g]?).any Func.goes)=false:=λg=>by
  cases hg:Tryz.prog.funcs[g]? with
  | none=>rfl
  | some fn=>
   have:=Vnb;rw [Array.any_eq_false] at this;obtain ⟨hlt,he⟩:=Array.getElem?_eq_some_iff.1 hg;have h2:=this g hlt;rw [he] at h2;simpa using h2
 unfold Program.goes;rw [Vnb,Bool.and_false,Bool.or_false,List.any_eq_false];intro g _;rw [h g];exact Bool.false_ne_true
theorem Vz0 (c:String):Tryz.prog.goesAt .entering c=false:=by
 unfold Program.goesAt Program.goesFrom;cases Tryz.prog.funcNamed c with
 | none=>rfl
 | some f=>simp only [Option.any_some,Vzz,Bool.or_false]
set_option maxHeartbeats 8000000 in
theorem proved:Rows.ClientBeginsCardSaid:=
 Claim7.holds_tied_plain_at .later [] [.data,.data,.data,.data,.data,.pinned] true Rows.clientBeginsCard.stood.harness false
  said (λ_ h=>by cases h) (by as_aux_lemma=>kernel_rfl) (λ_ h=>by cases h) clientBegins_row_tie rfl ⟨rfl,rfl⟩ (by as_aux_lemma=>kernel_rfl) rfl
  (λf fn hf hfn=>by
   obtain rfl:f=3:=Option.some.inj ((show Tryz.prog.funcNamed Rows.clientBeginsRow.func=some 3 by as_aux_lemma=>kernel_rfl).symm.trans hf) |>.symm;obtain rfl:fn=Tryz.f3:=(Option.some.inj (Tryz.func3.symm.trans hfn)).symm;exact ⟨by as_aux_lemma=>kernel_rfl,λj t ht=>by
    rw [Tryz.params3] at ht;have hm:t∈([22,3,24,4,9,28,29]:List Nat):=by simpa using Array.mem_of_getElem? ht
    have hall:(([22,3,24,4,9,28,29]:List Nat).all λu=>!Tryz.prog.wantsStandIn u)=true:=by as_aux_lemma=>kernel_rfl
    exact (show Tryz.prog.wantsStandIn t=false by simpa using List.all_eq_true.1 hall t hm)⟩)
  (Vz0 _).symm

#print axioms proved
end Go.Proofs.YtaddhgkhilmniaaGreatDoor.clientBegins

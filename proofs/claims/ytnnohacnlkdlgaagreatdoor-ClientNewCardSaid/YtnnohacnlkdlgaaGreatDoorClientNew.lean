/- The law ClientNew: for every input it returns true, and the arguments read as they did. No condition. -/
import Derived.Test.YtnnohacnlkdlgaaGreatDoorClP
import Derived.Test.YtnnohacnlkdlgaaGreatDoorRows
import Derived.ProofKit
import Derived.LaidMore
import Derived.OpenShut
import Derived.Stop.Joined
import Derived.Lib.LaidIn
import Derived.Test.YtnnohacnlkdlgaaGreatDoorCards
import Derived.Test.YtnnohacnlkdlgaaGreatDoorTie
import Derived.Lib.LaidU8
import Derived.Lib.LaidU8T
import Derived.Lib.DecodeN
import Derived.SevenTiedAt
import Derived.MakeChecks
import Derived.Lib.LaidTab
namespace Go.Proofs.YtnnohacnlkdlgaaGreatDoor
open Go Go.Abs
theorem Vt1 (x:tySs T (slots [.u64,(.rs 9),(.int .i64),(.int .i64)])) (hd:ArgD cd [.u64,(.rs 9),(.int .i64),(.int .i64)] x):∃ o,Zbh x.1 x.2.1 x.2.2.1 x.2.2.2.1=some (o,true,()):=by
 obtain ⟨⟨o,b,u⟩,h1,h2⟩:=Vfz x.1 x.2.1 x.2.2.1 x.2.2.2.1 hd
 refine ⟨o,h1.trans ?_⟩
 simp only at h2
 rw [h2]
end Go.Proofs.YtnnohacnlkdlgaaGreatDoor
namespace Go.Proofs.YtnnohacnlkdlgaaGreatDoor.clientNew
open Go Go.Abs Go.ChangeShapes Go.WideShapes Go.ChangeAt Go.RowKit
set_option linter.unusedVariables false
set_option maxRecDepth 100000

theorem own:ownKnob Tryz.prog.godebug=Option.none:=by kernel_rfl
def fsOf:Option TypeDesc->Array Field
 | some (.struct fs)=>fs
 | _=>#[]
theorem und3:Tryz.prog.underlying 3=some (.int .i64):=by kernel_rfl
theorem und4:Tryz.prog.underlying 4=some .bool:=by kernel_rfl
theorem und9:Tryz.prog.underlying 9=some .string:=by kernel_rfl
theorem und22:Tryz.prog.underlying 22=some (.int .u64):=by kernel_rfl
theorem und23:Tryz.prog.underlying 23=some (.slice 27):=by kernel_rfl
theorem und25:Tryz.prog.underlying 25=some (.slice 9):=by kernel_rfl
theorem und27:Tryz.prog.underlying 27=some (.struct (fsOf (Tryz.prog.underlying 27))):=by kernel_rfl
theorem Vw7:Opens Tryz.prog cd 22 [.u64]:=Vtk (by kernel_rfl)
theorem Vyq:Opens Tryz.prog cd 9 [.str]:=Vtl (by kernel_rfl)
theorem Vw8:Opens Tryz.prog cd 25 [.rs 2]:=Vg5 (ls:=lfs 2) (of:=of2) (by kernel_rfl) Vyq (λ_=>rfl) (by kernel_rfl) (by kernel_rfl) (by decide)
theorem Vvc:Opens Tryz.prog cd 4 [.bool]:=Vnp (by kernel_rfl)
theorem Vt2:OpensTs Tryz.prog cd [(25,0),(4,1),(4,2)] 0 ([.rs 2]++([.bool]++([.bool]++[]))):=(Vds rfl (by kernel_rfl) Vw8 (Vds rfl (by kernel_rfl) Vvc (Vds rfl (by kernel_rfl) Vvc Vlp)))
theorem Vw9:Opens Tryz.prog cd 27 [.rs 2,.bool,.bool]:=Vi3 und27 (by kernel_rfl) Vt2 (by kernel_rfl)
theorem Vxa:Opens Tryz.prog cd 23 [.rs 9]:=Vg5 (ls:=lfs 9) (of:=of9) (by kernel_rfl) Vw9 (λ_=>rfl) (by kernel_rfl) (by kernel_rfl) (by decide)
theorem Vvd:Opens Tryz.prog cd 3 [.int .i64]:=Vtj (by kernel_rfl)
theorem Vyr:ArgsOk Tryz.prog cd [22,23,3,3] [.u64,(.rs 9),(.int .i64),(.int .i64)]:=(Vcy (Vfv Vw7 (λ_ h=>by rw [und22] at h; cases h) (λ_ _ h=>by rw [und22] at h; cases h) (λx=>x) (λ_=>rfl)) (Vcy (Vfv Vxa (λ_ h=>by rw [und23] at h; cases h) (λ_ _ h=>by rw [und23] at h; cases h) (λx=>x) (λ_=>rfl)) (Vcy (Vfv Vvd (λ_ h=>by rw [und3] at h; cases h) (λ_ _ h=>by rw [und3] at h; cases h) (λx=>x) (λ_=>rfl)) (Vcy (Vfv Vvd (λ_ h=>by rw [und3] at h; cases h) (λ_ _ h=>by rw [und3] at h; cases h) (λx=>x) (λ_=>rfl)) Vnq))))
theorem sp (H:Type):∀ ds:List (DataW H),ds.length=4->Rows.clientNewSpec.fn H ds = { results:=[.lit (.bool true)],args:=ds }
 | [d0,d1,d2,d3],_=>rfl
def litVal:DataW Unit->Value
 | .lit (.int k n)=>.int k n
 | _=>.int .u8 0
def litsOf:DataW Unit->Array Value
 | .agg l=>(l.map litVal).toArray
 | _=>#[]
noncomputable def laidWorld (os:Os):World:=
 let w0:=World.holding Tryz.prog os ⟨#[],#[],[]⟩
 let put (h:Array Obj) (g:Nat) (cs:Array Value):Array Obj:=h.modify g fun
  | .cells _ t frozen=>.cells cs t frozen
  | o=>o
 let h1:=put w0.heap 2 (Lib.firstTab.map λz=>Value.int .u8 z).toArray
 let h2:=put h1 3 ((List.range 16).flatMap λi=>[Value.int .u8 (Lib.accLo i),Value.int .u8 (Lib.accHi i)]).toArray
 let h3:=put h2 4 (litsOf Rows.laid_internal_strconv_uint64pow10)
 let h4:=put h3 7 (litsOf Rows.laid_math_bits_deBruijn32tab)
 let h5:=put h4 8 (litsOf Rows.laid_math_bits_deBruijn64tab)
 let h6:=put h5 0 (litsOf Rows.laid_passkey_message_belongs)
 { w0 with heap:=h6 }
theorem Vt3 (os:Os) (args:Array Value):laidMetH Tryz.prog Rows.clientNewRow.laid ((laidWorld os).forCall (λ_ _=>0) ⟨#[],args,[]⟩).memory:=
 laidMetH_of_parts3 (fuel:=8) (LaidIn.of_run [0,2,3,4,7,8] 8 (by kernel_rfl) (by kernel_rfl) (by kernel_rfl) (by kernel_rfl)).met (by kernel_rfl) (by kernel_rfl)
theorem extra:Go.Proofs.U8Extra Tryz.prog Tryz.lays196_ren:=⟨by kernel_rfl,by kernel_rfl,by kernel_rfl,by kernel_rfl,by kernel_rfl,by kernel_rfl,by kernel_rfl⟩
theorem tabsL {w:World} (hL:laidMetH Tryz.prog Rows.clientNewRow.laid w):Lib.Utf8Tabs 2 3 w:=by
 rw [Go.MakeChecks.laidMetH_plain _ _ _ (by kernel_rfl)] at hL
 have e1:Rows.laid_unicode_utf8_first=Lib.firstData:=by kernel_rfl
 have e2:(Rows.laid_unicode_utf8_acceptRanges:DataW Unit)=Lib.acceptData:=by kernel_rfl
 have h3 : Lib.VarReads Tryz.prog w "unicode/utf8.first" Lib.firstData := by rw [← e1]; exact Lib.laidMet.reads hL (by repeat (first | exact .head _ | apply List.Mem.tail))
 have h4 : Lib.VarReads Tryz.prog w "unicode/utf8.acceptRanges" Lib.acceptData := by rw [← e2]; exact Lib.laidMet.reads hL (by repeat (first | exact .head _ | apply List.Mem.tail))
 exact utf8Tabs_of_readsT (U8Types.of196 Tryz.lays196) extra h3 h4
theorem Vdb {P:Program} {w:World} {name:String} {d:DataW Unit} {g n:Nat} {t e:TypeId} (hg:P.globalNamed name=some g) (hty:(P.globals[g]?).map (·.type)=some t) (ht:P.underlying t=some (.array n e)) (h:Lib.VarReads P w name d):rowSize w g=P.cellsOf t:=by
 obtain ⟨g',t',cs,fuel,p,hg',ht',hvar,hd⟩:=h
 obtain rfl:=Option.some.inj (hg.symm.trans hg')
 obtain rfl:=Option.some.inj (hty.symm.trans ht')
 have hl:cs.size=P.cellsOf t:=by
  cases fuel with
  | zero=>simp [DataW.trod] at hd
  | succ fuel=>
   simp only [DataW.trod,ht] at hd
   split at hd
   ·rename_i hl; simpa using hl
   ·cases hd
 unfold World.var? at hvar
 rw [hg] at hvar
 simp only [Option.bind_some] at hvar
 unfold rowSize
 cases hh:w.heap[g]? with
 | none=>rw [hh] at hvar; cases hvar
 | some o=>
  cases o with
  | cells c t fz=>
   rw [hh] at hvar
   simp only [Option.some.injEq] at hvar
   rw [<- hvar] at hl
   exact hl
  | _=>rw [hh] at hvar; cases hvar
theorem globL {w:World} (hL:laidMetH Tryz.prog Rows.clientNewRow.laid w):Glob gdn (All w) w:=by
 have h:=tabsL hL
 rw [Go.MakeChecks.laidMetH_plain _ _ _ (by kernel_rfl)] at hL
 have h3 : Lib.VarReads Tryz.prog w "unicode/utf8.first" Rows.laid_unicode_utf8_first := Lib.laidMet.reads hL (by repeat (first | exact .head _ | apply List.Mem.tail))
 have h4 : Lib.VarReads Tryz.prog w "unicode/utf8.acceptRanges" Rows.laid_unicode_utf8_acceptRanges := Lib.laidMet.reads hL (by repeat (first | exact .head _ | apply List.Mem.tail))
 have e5:(Rows.laid_passkey_message_belongs:DataW Unit)=Lib.tabData .u32 belTab:=by kernel_rfl
 have h5 : Lib.VarReads Tryz.prog w "passkey/message.belongs" (Lib.tabData .u32 belTab) := by rw [← e5]; exact Lib.laidMet.reads hL (by repeat (first | exact .head _ | apply List.Mem.tail))
 have hb0 : Lib.TabIs Tryz.prog w "passkey/message.belongs" .u32 belTab := by
  obtain ⟨g',t',cs,fuel,p,hg',ht',hvar,hd⟩:=h5
  have hg : Tryz.prog.globalNamed "passkey/message.belongs" = some 0 := by kernel_rfl
  have hty:(Tryz.prog.globals[0]?).map (·.type)=some 341:=by kernel_rfl
  obtain rfl:=Option.some.inj (hg.symm.trans hg')
  obtain rfl:=Option.some.inj (hty.symm.trans ht')
  unfold Lib.TabIs
  rw [hvar,<- Lib.cells_of_tab (e:=31) (n:=15) (by kernel_rfl) (by kernel_rfl) (by kernel_rfl) (by kernel_rfl) hd]
 have hb:∀ (i:Nat) (n:Int),belTab[i]? = some n->w.cell? ⟨0,i,none⟩=some (.int .u32 n):=λi n hn=>by
  have hlt:=(List.getElem?_eq_some_iff.1 hn).1
  have hc:=hb0.cell (g:=0) (by kernel_rfl) i hlt
  rw [List.getD_eq_getElem?_getD,hn] at hc
  exact hc
 exact Vxe h ((Vdb (g:=2) (t:=451) (n:=256) (e:=5) (by kernel_rfl) (by kernel_rfl) (by kernel_rfl) h3).trans (by kernel_rfl)) ((Vdb (g:=3) (t:=454) (n:=16) (e:=453) (by kernel_rfl) (by kernel_rfl) (by kernel_rfl) h4).trans (by kernel_rfl)) hb ((Vdb (g:=0) (t:=341) (n:=15) (e:=31) (by kernel_rfl) (by kernel_rfl) (by kernel_rfl) h5).trans (by kernel_rfl))

theorem Vys (os:Os) (started:os.Started) (H:Type) (enc:TypeId×Value->H) :
  ReturnsInHanded {} Tryz.checked os 3 .any (λw args=>(Rows.clientNewSpec.pre enc Tryz.prog Tryz.f3 [] false w args/\laidMetH Tryz.prog Rows.clientNewRow.laid w)/\sizedMet enc Tryz.prog Tryz.f3 (OpenSpec.ofChange Rows.clientNewSpec) false w args) (Rows.clientNewSpec.post enc Tryz.prog Tryz.f3 false true false false):=by
 refine returnsInHanded_of_change_and (C:=Tryz.checked) (X:=λw _=>laidMetH Tryz.prog Rows.clientNewRow.laid w) (λ_ _ _ hh h=>h.of_heap hh) own started (by kernel_rfl) Tryz.func3
  (ChangeSpec.witness_shaped (enc:=enc) (C:=Tryz.checked) (os:=os) (X:=λw _=>laidMetH Tryz.prog Rows.clientNewRow.laid w) false (laidWorld os) #[.int .u64 0,.slice none 0 0,.int .i64 0,.int .i64 0] 8 rfl (World.shaped_of_RefB (by kernel_rfl) (by kernel_rfl)) (by kernel_rfl) (by kernel_rfl) (by kernel_rfl) (Vt3 os _)) ?_
 intro W base args ds gs before hval hW _ hwt hL _
 exact Vu9 (C:=cd) (G:=gdn) (vts:=[.u64,(.rs 9),(.int .i64),(.int .i64)]) (F:=λx=>Zbh x.1 x.2.1 x.2.2.1 x.2.2.2.1) (by kernel_rfl) (by kernel_rfl) (tb:=4) (by kernel_rfl) und4 (ts:=[22,23,3,3]) (by kernel_rfl) Vyr rfl (sp H) Vyu Vt1 hval hW (globL hL)

theorem an {a b:Bool} (h:a=true) (k:b=true):(a&&b)=true:=by rw [h,k]; rfl
set_option maxHeartbeats 8000000 in
theorem Vyt:joinedFacts Tryz.prog 3 Tryz.f3 Rows.clientNewSpec Rows.clientNewRow=true:=by
 unfold joinedFacts
 repeat' with_reducible refine an ?_ ?_
 all_goals as_aux_lemma=>kernel_rfl

theorem said:Rows.ClientNewSaid:=
 OpenClaim.holds_of_wide 3 Tryz.f3 rfl rfl rfl rfl rfl rfl rfl ⟨rfl,rfl,rfl,rfl,rfl⟩ rfl rfl rfl rfl rfl (by kernel_rfl) Tryz.func3 Vyt
  (of_decide_eq_true (by kernel_rfl)) (by unfold Func.isWrapper; first | (rw [if_pos (by decide +kernel)]; kernel_rfl) | (rw [if_neg (by decide +kernel)]; exact ⟨rfl,rfl⟩))
  (λos started H enc _=>Vys os started H enc)

theorem Vlx:Tryz.prog.funcs.any Func.goes=false:=by kernel_rfl
theorem Vxb (f:FuncId):Tryz.prog.goes f=false:=by
 have h:∀ g:FuncId,((Tryz.prog.funcs[g]?).any Func.goes)=false:=λg=>by
  cases hg:Tryz.prog.funcs[g]? with
  | none=>rfl
  | some fn=>
   have:=Vlx
   rw [Array.any_eq_false] at this
   obtain ⟨hlt,he⟩:=Array.getElem?_eq_some_iff.1 hg
   have h2:=this g hlt
   rw [he] at h2
   simpa using h2
 unfold Program.goes
 rw [Vlx,Bool.and_false,Bool.or_false,List.any_eq_false]
 intro g _
 rw [h g]
 exact Bool.false_ne_true
theorem Vxc (c:String):Tryz.prog.goesAt .entering c=false:=by
 unfold Program.goesAt Program.goesFrom
 cases Tryz.prog.funcNamed c with
 | none=>rfl
 | some f=>simp only [Option.any_some,Vxb,Bool.or_false]
theorem proved:Rows.ClientNewCardSaid:=
 Claim7.holds_tied_plain_at .later [] [.data,.data,.data,.data,.data,.pinned] true Rows.clientNewCard.stood.harness false
  said (λ_ h=>by cases h) (by as_aux_lemma=>kernel_rfl) (λ_ h=>by cases h) clientNew_row_tie rfl ⟨rfl,rfl⟩ (by as_aux_lemma=>kernel_rfl) rfl
  (λf fn hf hfn=>by
   obtain rfl:f=3:=Option.some.inj ((show Tryz.prog.funcNamed Rows.clientNewRow.func=some 3 by as_aux_lemma=>kernel_rfl).symm.trans hf) |>.symm
   obtain rfl:fn=Tryz.f3:=(Option.some.inj (Tryz.func3.symm.trans hfn)).symm
   exact ⟨by as_aux_lemma=>kernel_rfl,λj t ht=>by
    rw [Tryz.params3] at ht
    have hm:t∈([22,23,3,3]:List Nat):=by simpa using Array.mem_of_getElem? ht
    have hall:(([22,23,3,3]:List Nat).all λu=>!Tryz.prog.wantsStandIn u)=true:=by as_aux_lemma=>kernel_rfl
    exact (show Tryz.prog.wantsStandIn t=false by simpa using List.all_eq_true.1 hall t hm)⟩)
  (Vxc _).symm

#print axioms proved
end Go.Proofs.YtnnohacnlkdlgaaGreatDoor.clientNew

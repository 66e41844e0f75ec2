/- The functions of the program, as plain functions, and that the program computes them. Written by a program. -/
import Derived.Test.YtnfhkhlbdgbkjaaGreatDoorFns1
set_option linter.unusedVariables false
set_option maxRecDepth 100000
namespace Go.Proofs.YtnfhkhlbdgbkjaaGreatDoor
open Go Go.Abs
open Go.IntKind renaming bits → Qa, wrap → Qb
open _root_.BitVec renaming ofInt → Qc
open _root_.Int renaming tmod → Qd, fdiv → Qe
open _root_.Sum renaming inr → Qf, inl → Qg, elim → Ql
open _root_.UInt8 renaming ofBitVec → Qh
open _root_.List renaming drop → Qi, take → Qj, replicate → Qk, set → Qm
abbrev Y_Zgy_L0:=(Ub×Int×(List Ub)×Int×Unit)
abbrev Z_Zgy_L0:=(Int×(List Ub)×Unit)
def Zgy_L0b(y0:Ub)(y1:Int)(y2:List Ub)(y3:Int):Option (Y_Zgy_L0⊕Z_Zgy_L0):=
 cond (decide (y3<18)) ((Zeo y0 y1 y3).bind λr1=>(Zhz y1 y3 0 15 r1.2.1).bind λr2=>cond (small (y2.length+([r2.2.1]).length) 8) (some (Qg (y0,y1,y2++[r2.2.1],Qb .i64 (y3+1),()))) none) (some (Qf (y1,y2,())))
def Zgy_L0:=Yi4 Zgy_L0b
def ZgyG(k_Zeo:Ub->Int->Int->O1 Ub)(k_Zhz:Int->Int->Int->Int->Ub->O1 Ub)(k_Zhb:Int->List Ub->O1 Ub)(l_Zgy_L0:Y_Zgy_L0->Option Z_Zgy_L0)(a0:Ub)(a1:Int):O1 Ub:=
 (l_Zgy_L0 (a0,a1,[],(0:Int),())).bind λz3=>(k_Zhb z3.1 z3.2.1).bind λr4=>rt r4.2.1
def Zgy(a0:Ub)(a1:Int):O1 Ub:=
 ZgyG Zeo Zhz Zhb Zgy_L0 a0 a1
def S_Zgy:FSpec T:=⟨[qd,qc],[qr],λx=>Zgy x.1 x.2.1⟩
def EG_Zgy(k_Zeo:Ub->Int->Int->Option ((Unit)×(Ub×Unit)))(k_Zhz:Int->Int->Int->Int->Ub->Option ((Unit)×(Ub×Unit)))(k_Zhb:Int->(List Ub)->Option ((Unit)×(Ub×Unit)))(l_Zgy_L0:Y_Zgy_L0->Option Z_Zgy_L0):Env T:=⟨tab.find,cd,globs,flc,λf ds=>match f with
  |292=>some ⟨S_Zhz.ps,S_Zhz.rs,λx=>k_Zhz x.1 x.2.1 x.2.2.1 x.2.2.2.1 x.2.2.2.2.1⟩
  |293=>some ⟨S_Zeo.ps,S_Zeo.rs,λx=>k_Zeo x.1 x.2.1 x.2.2.1⟩
  |294=>some ⟨S_Zhb.ps,S_Zhb.rs,λx=>k_Zhb x.1 x.2.1⟩
  |_=>none,λf=>match f with
  |292=>true
  |293=>true
  |294=>true
  |_=>false⟩
def E_Zgy:Env T:=EG_Zgy Zeo Zhz Zhb Zgy_L0
def AG_Zgy(k_Zeo:Ub->Int->Int->Option ((Unit)×(Ub×Unit)))(k_Zhz:Int->Int->Int->Int->Ub->Option ((Unit)×(Ub×Unit)))(k_Zhb:Int->(List Ub)->Option ((Unit)×(Ub×Unit)))(l_Zgy_L0:Y_Zgy_L0->Option Z_Zgy_L0):Loc2 T:=⟨λid=>match id with
  |0=>some ⟨[(0,.f (.v .u64)),(1,.f (.v (.int .i64))),(5,.f (.own 10)),(6,.f (.v (.int .i64)))],[(.exit 0,[(1,.f (.v (.int .i64))),(5,.f (.own 10))])],l_Zgy_L0,[]⟩
  |_=>none,λr=>match r with
  |_=>none⟩
def A_Zgy:Loc2 T:=AG_Zgy Zeo Zhz Zhb Zgy_L0
theorem Vse(y0:Ub)(y1:Int)(y2:(List Ub))(y3:Int):run E_Zgy A_Zgy (loopAt 0 (Tryz.f289.body.getD .skip)) (layC cd [(0,.f (.v .u64)),(1,.f (.v (.int .i64))),(5,.f (.own 10)),(6,.f (.v (.int .i64)))] [] (y0,y1,y2,y3,())) (roundK cd [(0,.f (.v .u64)),(1,.f (.v (.int .i64))),(5,.f (.own 10)),(6,.f (.v (.int .i64)))] [] [(.exit 0,[(1,.f (.v (.int .i64))),(5,.f (.own 10))])])=Zgy_L0b y0 y1 y2 y3:=by kernel_rfl
theorem Vdca(k_Zeo:Ub->Int->Int->Option ((Unit)×(Ub×Unit)))(k_Zhz:Int->Int->Int->Int->Ub->Option ((Unit)×(Ub×Unit)))(k_Zhb:Int->(List Ub)->Option ((Unit)×(Ub×Unit)))(l_Zgy_L0:Y_Zgy_L0->Option Z_Zgy_L0)(x:tySs T S_Zgy.ps):run (EG_Zgy k_Zeo k_Zhz k_Zhb l_Zgy_L0) (AG_Zgy k_Zeo k_Zhz k_Zhb l_Zgy_L0) (Tryz.f289.body.getD .skip) (enterT (EG_Zgy k_Zeo k_Zhz k_Zhb l_Zgy_L0).C S_Zgy.ps x) (retK (EG_Zgy k_Zeo k_Zhz k_Zhb l_Zgy_L0) Tryz.f289.results.toList S_Zgy.ps S_Zgy.rs)=ZgyG k_Zeo k_Zhz k_Zhb l_Zgy_L0 x.1 x.2.1:=by kernel_rfl
theorem Vgaa(x:tySs T S_Zgy.ps):run E_Zgy A_Zgy (Tryz.f289.body.getD .skip) (enterT E_Zgy.C S_Zgy.ps x) (retK E_Zgy Tryz.f289.results.toList S_Zgy.ps S_Zgy.rs)=S_Zgy.fn x:=Eq.mp (by kernel_rfl) (Vdca Zeo Zhz Zhb Zgy_L0 x)
theorem Vsf:EnvOk Tryz.prog E_Zgy:=envOk (E:=E_Zgy) cd_ok tys fl_ok λf ds S h=>by
  dsimp only[E_Zgy,EG_Zgy]at h;split at h
  ·cases h;exact Vb4a
  ·cases h;exact Vb3a
  ·cases h;exact Vb5a
  ·cases h
theorem Vsg:LoopOk Tryz.prog E_Zgy Tryz.f289.ntmps (kqOf S_Zgy.ps 0) (loopAt 0 (Tryz.f289.body.getD .skip)) ⟨[(0,.f (.v .u64)),(1,.f (.v (.int .i64))),(5,.f (.own 10)),(6,.f (.v (.int .i64)))],[(.exit 0,[(1,.f (.v (.int .i64))),(5,.f (.own 10))])],Zgy_L0,[]⟩:=
 Vic (A:=A_Zgy) (done:=[]) (c0:=(Tryz.f289.body.getD .skip)) hmix Vsf Vag rounds (by kernel_rfl) (by kernel_rfl) (λx=>Vse x.1 x.2.1 x.2.2.1 x.2.2.2.1) (λ_=>rfl)
theorem Vbja:SoundT Tryz.prog cd gdn 289 S_Zgy:=
 Vc2 (E:=E_Zgy) (A:=A_Zgy) (done:=[0]) (c:=(Tryz.f289.body.getD .skip)) (S:=S_Zgy) (fn:=Tryz.f289) hmix Vsf Tryz.func289 rfl (by kernel_rfl) (by kernel_rfl) (Vbx rfl Vsg Vag) (by kernel_rfl) (by kernel_rfl) Vgaa
def c175:List (Ct T):=⟨289,none,S_Zgy,true⟩::c174
theorem o175:EnvOk Tryz.prog (mE c175):=eCons Vbja o174
def Zes(a0:Int)(a1 a2:Ub):O1 Ub:=
 (passkeyref1_Words [Qc 64 a0,a1,a2]).bind λr1=>(Zgt 3 r1.2.1).bind λr2=>rt r2.2.1
def S_Zes:FSpec T:=⟨[qc,qd,qd],[qr],λx=>Zes x.1 x.2.1 x.2.2.1⟩
theorem Vbka:SoundT Tryz.prog cd gdn 290 S_Zes:=
 sndC hmix o175 (lcA [] []) Tryz.func290 Vag (by kernel_rfl) (by kernel_rfl) λx=>by kernel_rfl
def c176:List (Ct T):=⟨290,none,S_Zes,true⟩::c175
theorem o176:EnvOk Tryz.prog (mE c176):=eCons Vbka o175
def Zhc_R(k_rec:Ub->Int->Int->O1 Ub)(a0:Ub)(a1 a2:Int):O1 Ub:=
 cond (decide (a1=0)) ((Zgy a0 a2).bind λr1=>rt r1.2.1) ((k_rec a0 (Qb .i64 (a1-1)) (Qb .i64 (2*a2))).bind λr2=>let v3:=Qb .i64 (Qb .i64 (2*a2)+1);(k_rec a0 (Qb .i64 (a1-1)) v3).bind λr4=>(Zes a1 r2.2.1 r4.2.1).bind λr5=>rt r5.2.1)
abbrev ps_Zhc:List Slot:=[qd,qc,qc]
abbrev rs_Zhc:List Fld:=[qr]
def Zhc_RG(k_rec:Ub->Int->Int->O1 Ub)(k_Zgy:Ub->Int->O1 Ub)(k_Zes:Int->Ub->Ub->O1 Ub)(a0:Ub)(a1 a2:Int):O1 Ub:=
 cond (decide (a1=0)) ((k_Zgy a0 a2).bind λr1=>rt r1.2.1) ((k_rec a0 (Qb .i64 (a1-1)) (Qb .i64 (2*a2))).bind λr2=>let v3:=Qb .i64 (Qb .i64 (2*a2)+1);(k_rec a0 (Qb .i64 (a1-1)) v3).bind λr4=>(k_Zes a1 r2.2.1 r4.2.1).bind λr5=>rt r5.2.1)
def EG_Zhc(k_rec:Ub->Int->Int->Option ((Unit)×(Ub×Unit)))(k_Zgy:Ub->Int->Option ((Unit)×(Ub×Unit)))(k_Zes:Int->Ub->Ub->Option ((Unit)×(Ub×Unit))):Env T:=⟨tab.find,cd,globs,flc,λf ds=>match f with
  |284=>some ⟨ps_Zhc,rs_Zhc,λx=>k_rec x.1 x.2.1 x.2.2.1⟩
  |289=>some ⟨S_Zgy.ps,S_Zgy.rs,λx=>k_Zgy x.1 x.2.1⟩
  |290=>some ⟨S_Zes.ps,S_Zes.rs,λx=>k_Zes x.1 x.2.1 x.2.2.1⟩
  |_=>none,λf=>match f with
  |284=>true
  |289=>true
  |290=>true
  |_=>false⟩
def E_Zhc(k_rec:Ub->Int->Int->Option ((Unit)×(Ub×Unit))):Env T:=EG_Zhc k_rec Zgy Zes
def A_Zhc(k_rec:Ub->Int->Int->Option ((Unit)×(Ub×Unit))):Loc2 T:=⟨λid=>match id with
  |_=>none,λr=>match r with
  |_=>none⟩
theorem Vyw(k_rec:Ub->Int->Int->Option ((Unit)×(Ub×Unit)))(k_Zgy:Ub->Int->Option ((Unit)×(Ub×Unit)))(k_Zes:Int->Ub->Ub->Option ((Unit)×(Ub×Unit)))(x:tySs T ps_Zhc):run (EG_Zhc k_rec k_Zgy k_Zes) (A_Zhc k_rec) (Tryz.f284.body.getD .skip) (enterT (EG_Zhc k_rec k_Zgy k_Zes).C ps_Zhc x) (retK (EG_Zhc k_rec k_Zgy k_Zes) Tryz.f284.results.toList ps_Zhc rs_Zhc)=Zhc_RG k_rec k_Zgy k_Zes x.1 x.2.1 x.2.2.1:=by kernel_rfl
theorem Vdda(k_rec:Ub->Int->Int->Option ((Unit)×(Ub×Unit)))(x:tySs T ps_Zhc):run (E_Zhc k_rec) (A_Zhc k_rec) (Tryz.f284.body.getD .skip) (enterT (E_Zhc k_rec).C ps_Zhc x) (retK (E_Zhc k_rec) Tryz.f284.results.toList ps_Zhc rs_Zhc)=Zhc_R k_rec x.1 x.2.1 x.2.2.1:=Eq.mp (by kernel_rfl) (Vyw k_rec Zgy Zes x)
def Zhc_n:Nat->Ub->Int->Int->Option ((Unit)×(Ub×Unit))
 |0=>λ_ _ _=>none
 |n+1=>Zhc_R (Zhc_n n)
def Zhc(a0:Ub)(a1:Int)(a2:Int):=Zhc_n 8 a0 a1 a2
def S_Zhc:FSpec T:=⟨ps_Zhc,rs_Zhc,λx=>Zhc x.1 x.2.1 x.2.2.1⟩
theorem Vdea(k_rec:Ub->Int->Int->Option ((Unit)×(Ub×Unit)))(hk:SoundT Tryz.prog cd gdn 284 ⟨ps_Zhc,rs_Zhc,λx=>k_rec x.1 x.2.1 x.2.2.1⟩):EnvOk Tryz.prog (E_Zhc k_rec):=envOk (E:=(E_Zhc k_rec)) cd_ok tys fl_ok λf ds S h=>by
  dsimp only[E_Zhc,EG_Zhc]at h;split at h
  ·cases h;exact hk
  ·cases h;exact Vbja
  ·cases h;exact Vbka
  ·cases h
theorem Vsh:∀n:Nat,SoundT Tryz.prog cd gdn 284 ⟨ps_Zhc,rs_Zhc,λx=>Zhc_n n x.1 x.2.1 x.2.2.1⟩
 |0=>Vgj ⟨_,Tryz.func284,by kernel_rfl,by kernel_rfl⟩
 |n+1=>Vc2 (E:=E_Zhc (Zhc_n n)) (A:=A_Zhc (Zhc_n n)) (done:=[]) (c:=(Tryz.f284.body.getD .skip)) (S:=⟨ps_Zhc,rs_Zhc,λx=>Zhc_n (n+1) x.1 x.2.1 x.2.2.1⟩) (fn:=Tryz.f284) hmix (Vdea _ (Vsh n)) Tryz.func284 rfl (by kernel_rfl) (by kernel_rfl) Vag (by kernel_rfl) (by kernel_rfl) (Vdda (Zhc_n n))
theorem Vgba:SoundT Tryz.prog cd gdn 284 S_Zhc:=Vsh 8
def c177:List (Ct T):=⟨284,none,S_Zhc,true⟩::c176
theorem o177:EnvOk Tryz.prog (mE c177):=eCons Vgba o176
def Zen(a0:Ub)(a1:Int):O2 Js Int:=
 (Zer a1).bind λr1=>cond (!r1.2.1) (some ((),{},9,())) ((Zhc a0 a1 0).bind λr2=>ru ⟨a1,r2.2.1⟩ 0)
def c178:=ct c177 260 [qd,qc] [qbd,qa] (u2 Zen)
theorem o178:EO c178:=sz o177 Tryz.func260
def Zgl(a0:Jg):O2 Js Int:=
 (Zaa a0).bind λr1=>cond (!(decide (r1.2.1=0))) (some ((),{},r1.2.1,())) ((Zen a0.jah a0.jc).bind λr2=>ru r2.2.1 r2.2.2.1)
def c179:=ct c178 199 [(.f qak)] [qbd,qa] (u1 Zgl)
theorem o179:EO c179:=sz o178 Tryz.func199
def Zca(a0:Js):O2 Ua Int:=
 (Zer a0.jc).bind λr1=>cond (!r1.2.1) (ru [] 9) (let v2:Ua:=[Qh (Qc 8 a0.jc)];(passkeyref1_Words [a0.jbb]).bind λr3=>cond (small (v2.length+(r3.2.1:Ua).length) 1) (ru (v2++r3.2.1) 0) none)
def c180:=cf c179 261 [(.f qbd)] [qk,qa] (u1 Zca)
theorem o180:EO c180:=sx o179 (lcA [] []) Tryz.func261 dn
def Zai(a0:Jr):O1 Int:=
 let v1:=Qb .i64 ((Qc (Qa .i64) a0.jan&&&~~~(Qc (Qa .i64) 93)).toNat:Int);cond (!(decide (v1=0))) (rt 9) ((Zdh a0.jbc 0 16).bind λr2=>cond (!r2.2.1) (rt 9) ((Zdh a0.range 0 15).bind λr3=>cond (!r3.2.1) (rt 9) (let v4:=Qb .i64 ((Qc (Qa .i64) a0.jan&&&Qc (Qa .i64) 16).toNat:Int);cond (!(decide (v4=0))) (let v5:=Qb .i64 ((Qc (Qa .i64) a0.jan&&&Qc (Qa .i64) 8).toNat:Int);cond (decide (v5=0)) (rt 18) (let v6:=Qb .i64 ((Qc (Qa .i64) a0.jan&&&Qc (Qa .i64) 64).toNat:Int);cond (decide (v6=0)) (cond (!(decide (a0.jae=0#64))) (rt 4) (cond (decide (0<(a0.iD.length:Int))) (rt 4) (cond (!(decide (a0.key.jc=0)&&(decide (a0.key.jbb=0#64)&&true))) (rt 4) (rt 0)))) (cond (!(decide ((a0.iD.length:Int)=176))) (rt 4) ((Zca a0.key).bind λr7=>rt r7.2.2.1)))) (let v8:=Qb .i64 ((Qc (Qa .i64) a0.jan&&&Qc (Qa .i64) 64).toNat:Int);cond (decide (v8=0)) (cond (!(decide (a0.jae=0#64))) (rt 4) (cond (decide (0<(a0.iD.length:Int))) (rt 4) (cond (!(decide (a0.key.jc=0)&&(decide (a0.key.jbb=0#64)&&true))) (rt 4) (rt 0)))) (cond (!(decide ((a0.iD.length:Int)=176))) (rt 4) ((Zca a0.key).bind λr9=>rt r9.2.2.1))))))
def c181:=ct c180 226 [(.f qbe)] [qa] (u1 Zai)
theorem o181:EO c181:=sz o180 Tryz.func226
def Zaw(a0:Jr):O2 Ua Int:=
 (Zai a0).bind λr1=>cond (!(decide (r1.2.1=0))) (ru [] r1.2.1) ((passkeyref1_Words [a0.rP]).bind λr2=>let v3:Ua:=[Qh (Qc 8 a0.jan),Qh (Qc 8 a0.jbc),Qh (Qc 8 a0.range)];cond (small (r2.2.1.length+(v3:Ua).length) 1) (let v4:=Qb .i64 ((Qc (Qa .i64) a0.jan&&&Qc (Qa .i64) 64).toNat:Int);cond (!(decide (v4=0))) ((Zca a0.key).bind λr5=>(passkeyref1_Words [a0.jae]).bind λr6=>cond (small ((r2.2.1++v3).length+(r6.2.1:Ua).length) 1) (cond (small ((r2.2.1++v3++r6.2.1).length+(a0.iD:Ua).length) 1) (cond (small ((r2.2.1++v3++r6.2.1++a0.iD).length+(r5.2.1:Ua).length) 1) (let v7:=r2.2.1++v3++r6.2.1++a0.iD++r5.2.1;ru v7 0) none) none) none) (ru (r2.2.1++v3) 0)) none)
def c182:=cf c181 200 [(.f qbe)] [qk,qa] (u1 Zaw)
theorem o182:EO c182:=sx o181 (lcA [] []) Tryz.func200 dn
def Zcj(a0:Ua)(a1:Ub):O1 Ub:=
 cond (small a0.length 1) ((passkeyref1_Words [a1]).bind λr1=>cond (small (a0.length+(r1.2.1:Ua).length) 1) ((Zgt 13 (a0++r1.2.1)).bind λr2=>rt r2.2.1) none) none
def c183:=ct c182 202 [qg,qd] [qr] (u2 Zcj)
theorem o183:EO c183:=sz o182 Tryz.func202
def Zgk(a0:Jt)(a1:Int):O1 Jt:=
 cond (decide (a1<0)) (rt a0) (cond (decide (7<a1)) (rt a0) (let v1:=Qb .i64 ((Qc (Qa .i64) a0.jb&&&~~~(Qc (Qa .i64) a1)).toNat:Int);cond (decide (v1=0)) (rt ⟨a0.jaq,false,0#64,v1,[],0⟩) (rt {a0 with jb:=v1})))
def c184:=ct c183 264 [(.f qa1),qc] [qa1] (u2 Zgk)
theorem o184:EO c184:=sz o183 Tryz.func264
def Zaz(a0:Je×Unit)(a1:Int):Option (((Je×Unit)×Unit)×Unit):=
 cond (decide (a0.1.err=0)) (cond a0.1.r.jj ((Zgk a0.1.d.ju a1).bind λr1=>some ((({a0.1 with d:={a0.1.d with ju:=r1.2.1}},()),()),())) (some (((a0.1,()),()),()))) (some (((a0.1,()),()),()))
def c185:=cf c184 204 [ql,qc] [] (u2 Zaz)
theorem o185:EO c185:=sz o184 Tryz.func204
def Zfm_L0b(y0:Jd×Unit)(y1:Jb×Unit)(y2:Jd×Unit)(y3:Jj×Unit)(y4:Je×Unit)(y5:Jg×Unit)(y6:Bool)(y7:Jn×Unit)(y8:Int):Option (((Jd×Unit)×(Jb×Unit)×(Jd×Unit)×(Jj×Unit)×(Je×Unit)×(Jg×Unit)×Bool×(Jn×Unit)×Int×Unit)⊕((Jd×Unit)×(Jb×Unit)×(Jd×Unit)×(Jj×Unit)×(Je×Unit)×(Jg×Unit)×Bool×(Jn×Unit)×Unit)):=
 (cond (decide (y8<y1.1.list.length)) (cond (decide (y4.1.err=0)) (some (Qg ((y0.1,()),(y1.1,()),(y2.1,()),(y3.1,()),(y4.1,()),(y5.1,()),y6,(y7.1,()),y8,()))) ((some (Qf ((y0.1,()),(y1.1,()),(y2.1,()),(y3.1,()),(y4.1,()),(y5.1,()),y6,(y7.1,()),()))).bind λq=>some (Qf q))) ((some (Qf ((y0.1,()),(y1.1,()),(y2.1,()),(y3.1,()),(y4.1,()),(y5.1,()),y6,(y7.1,()),()))).bind λq=>some (Qf q))).bind (Ql (λj14=>(getI j14.2.1.1.list j14.2.2.2.2.2.2.2.2.1).bind λx15=>none) some)
def Zfm_L0:=Yi9 Zfm_L0b
def Zfm(a0:Jd)(a1:Int)(a2:Jb)(a3:List Jl)(a4:Int):Option (Unit×Jd×Jj×Int×Unit):=
 (Zef a0 a1 a2 a3 a4 2).bind λr1=>cond (!(decide (r1.2.2.1=0))) (some ((),a0,{err:=r1.2.2.1},a4,())) ((Zaa {a2 with jah:=0#64,jai:=false}).bind λr2=>(Zbj (r1.2.1,()) r2.2.1).bind λr3=>cond r3.2.1 ((Zby (r3.1.1.1,())).bind λr4=>some ((),r4.2.1,r4.2.2.1,r4.2.2.2.1,())) (cond (decide (2<a2.jk)) ((Zbj (r3.1.1.1,()) 9).bind λr5=>(Zby (r5.1.1.1,())).bind λr6=>some ((),r6.2.1,r6.2.2.1,r6.2.2.2.1,())) ((Zae (r3.1.1.1,()) 1 a2.rP).bind λr7=>(cond (!a2.jj) (cond (!a2.jt) ((Zgr r7.1.1.1.d).bind λr8=>cond r8.2.1.set ((Zbj (r7.1.1.1,()) 23).bind λr9=>some ((a0,()),(a2,()),(({}:Jd),()),(({}:Jj),()),(r9.1.1.1,()),(({a2 with jah:=0#64,jai:=false}:Jg),()),r7.2.1,())) (some ((a0,()),(a2,()),(({}:Jd),()),(({}:Jj),()),(r7.1.1.1,()),(({a2 with jah:=0#64,jai:=false}:Jg),()),r7.2.1,()))) (some ((a0,()),(a2,()),(({}:Jd),()),(({}:Jj),()),(r7.1.1.1,()),(({a2 with jah:=0#64,jai:=false}:Jg),()),r7.2.1,()))) (some ((a0,()),(a2,()),(({}:Jd),()),(({}:Jj),()),(r7.1.1.1,()),(({a2 with jah:=0#64,jai:=false}:Jg),()),r7.2.1,()))).bind λj10=>(cond j10.2.1.1.jt ((Zax (j10.2.2.2.2.1.1,()) (!j10.2.1.1.jj)).bind λr11=>some ((j10.1.1,()),(j10.2.1.1,()),(j10.2.2.1.1,()),(j10.2.2.2.1.1,()),(r11.1.1.1,()),(j10.2.2.2.2.2.1.1,()),j10.2.2.2.2.2.2.1,(r11.2.1,()),())) ((Zax (j10.2.2.2.2.1.1,()) false).bind λr12=>some ((j10.1.1,()),(j10.2.1.1,()),(j10.2.2.1.1,()),(j10.2.2.2.1.1,()),(r12.1.1.1,()),(j10.2.2.2.2.2.1.1,()),j10.2.2.2.2.2.2.1,(r12.2.1,()),()))).bind λj13=>(Zfm_L0 ((j13.1.1,()),(j13.2.1.1,()),(j13.2.2.1.1,()),(j13.2.2.2.1.1,()),(j13.2.2.2.2.1.1,()),(j13.2.2.2.2.2.1.1,()),j13.2.2.2.2.2.2.1,(j13.2.2.2.2.2.2.2.1.1,()),0,())).bind λz16=>((cond (decide (z16.2.2.2.2.1.1.err=0)) (some ((z16.1.1,()),(z16.2.1.1,()),(z16.2.2.1.1,()),(z16.2.2.2.1.1,()),(z16.2.2.2.2.1.1,()),(z16.2.2.2.2.2.1.1,()),z16.2.2.2.2.2.2.1,(z16.2.2.2.2.2.2.2.1.1,()),(0:Int),decide (z16.2.1.1.jk=2),())) (some ((z16.1.1,()),(z16.2.1.1,()),(z16.2.2.1.1,()),(z16.2.2.2.1.1,()),(z16.2.2.2.2.1.1,()),(z16.2.2.2.2.2.1.1,()),z16.2.2.2.2.2.2.1,(z16.2.2.2.2.2.2.2.1.1,()),(0:Int),false,()))).bind λj17=>cond j17.2.2.2.2.2.2.2.2.2.1 none (some ((j17.1.1,()),(j17.2.1.1,()),(j17.2.2.1.1,()),(j17.2.2.2.1.1,()),(j17.2.2.2.2.1.1,()),(j17.2.2.2.2.2.1.1,()),j17.2.2.2.2.2.2.1,(j17.2.2.2.2.2.2.2.1.1,()),j17.2.2.2.2.2.2.2.2.1,()))).bind λj18=>cond (!(decide (j18.2.2.2.2.1.1.err=0))) ((Zby (j18.2.2.2.2.1.1,())).bind λr19=>some ((),r19.2.1,r19.2.2.1,r19.2.2.2.1,())) ((Zbi (j18.2.2.2.2.1.1,())).bind λr20=>(Zbi (r20.1.1.1,())).bind λr21=>(Zdi r21.1.1.1.d).bind λr22=>(Zhu r22.2.1 r21.2.1 {j18.2.2.2.2.2.1.1 with jah:=r20.2.1}).bind λr23=>(cond (decide (j18.2.1.1.jk=1)) (some ((j18.1.1,()),(j18.2.1.1,()),(j18.2.2.1.1,()),(j18.2.2.2.1.1,()),(r21.1.1.1,()),(({j18.2.2.2.2.2.1.1 with jah:=r20.2.1}:Jg),()),j18.2.2.2.2.2.2.1,(j18.2.2.2.2.2.2.2.1.1,()),j18.2.2.2.2.2.2.2.2.1,r23.2.1,(1:Int),())) (some ((j18.1.1,()),(j18.2.1.1,()),(j18.2.2.1.1,()),(j18.2.2.2.1.1,()),(r21.1.1.1,()),(({j18.2.2.2.2.2.1.1 with jah:=r20.2.1}:Jg),()),j18.2.2.2.2.2.2.1,(j18.2.2.2.2.2.2.2.1.1,()),j18.2.2.2.2.2.2.2.2.1,r23.2.1,(0:Int),()))).bind λj24=>let v25:=Qb .i64 (1*2^min (Qc 64 j24.2.2.2.2.2.1.1.jc).toNat (Qa .i64));(Zgo j24.2.2.2.2.1.1.d j24.2.2.2.2.2.1.1 j24.2.2.2.2.2.2.2.2.2.1 0 v25 j24.2.2.2.2.2.2.2.2.2.2.1 j24.2.2.2.2.1.1.jaa).bind λr26=>(Zbk (j24.2.2.2.2.1.1,()) r26.2.1 r26.2.2.1 r26.2.2.2.1).bind λr27=>cond (!(decide (r27.1.1.1.err=0))) ((Zby (r27.1.1.1,())).bind λr28=>some ((),r28.2.1,r28.2.2.1,r28.2.2.2.1,())) ((cond j24.2.2.2.2.2.2.1 (let v29:=Qb .i64 ((Qc (Qa .i64) 65|||Qc (Qa .i64) 4).toNat:Int);some ((j24.1.1,()),(j24.2.1.1,()),(j24.2.2.1.1,()),(j24.2.2.2.1.1,()),(r27.1.1.1,()),(j24.2.2.2.2.2.1.1,()),j24.2.2.2.2.2.2.2.2.1,j24.2.2.2.2.2.2.2.2.2.1,j24.2.2.2.2.2.2.2.2.2.2.1,v29,())) (cond j24.2.2.2.2.2.2.2.1.1.jbd (let v30:=Qb .i64 ((Qc (Qa .i64) 65|||Qc (Qa .i64) 4).toNat:Int);some ((j24.1.1,()),(j24.2.1.1,()),(j24.2.2.1.1,()),(j24.2.2.2.1.1,()),(r27.1.1.1,()),(j24.2.2.2.2.2.1.1,()),j24.2.2.2.2.2.2.2.2.1,j24.2.2.2.2.2.2.2.2.2.1,j24.2.2.2.2.2.2.2.2.2.2.1,v30,())) (some ((j24.1.1,()),(j24.2.1.1,()),(j24.2.2.1.1,()),(j24.2.2.2.1.1,()),(r27.1.1.1,()),(j24.2.2.2.2.2.1.1,()),j24.2.2.2.2.2.2.2.2.1,j24.2.2.2.2.2.2.2.2.2.1,j24.2.2.2.2.2.2.2.2.2.2.1,(65:Int),())))).bind λj31=>(cond j31.2.2.2.2.2.1.1.jm (let v32:=Qb .i64 ((Qc (Qa .i64) j31.2.2.2.2.2.2.2.2.2.1|||Qc (Qa .i64) 8).toNat:Int);some ((j31.1.1,()),(j31.2.1.1,()),(j31.2.2.1.1,()),(j31.2.2.2.1.1,()),(j31.2.2.2.2.1.1,()),(j31.2.2.2.2.2.1.1,()),j31.2.2.2.2.2.2.1,j31.2.2.2.2.2.2.2.1,j31.2.2.2.2.2.2.2.2.1,v32,())) (some ((j31.1.1,()),(j31.2.1.1,()),(j31.2.2.1.1,()),(j31.2.2.2.1.1,()),(j31.2.2.2.2.1.1,()),(j31.2.2.2.2.2.1.1,()),j31.2.2.2.2.2.2.1,j31.2.2.2.2.2.2.2.1,j31.2.2.2.2.2.2.2.2.1,j31.2.2.2.2.2.2.2.2.2.1,()))).bind λj33=>(Zgl j33.2.2.2.2.2.1.1).bind λr34=>(Zdd j33.2.1.1.rP).bind λr35=>(Zaw ⟨r35.2.1,j33.2.2.2.2.2.2.2.2.2.1,j33.2.2.2.2.2.2.2.2.1,0,j33.1.1.jl.jae,j33.2.2.2.2.2.2.2.1,r34.2.1⟩).bind λr36=>(Zcj r36.2.1 j33.2.1.1.jx).bind λr37=>(cond (decide (j33.2.1.1.jk=1)) none (cond (decide (j33.2.1.1.jk=2)) none (some ((j33.2.2.1.1,()),(j33.2.2.2.1.1,()),(j33.2.2.2.2.1.1.d,j33.2.2.2.2.1.1.r,j33.2.2.2.2.1.1.g,j33.2.2.2.2.1.1.jaa,j33.2.2.2.2.1.1.ji.err,r36.2.1,j33.2.2.2.2.1.1.ji.jad,j33.2.2.2.2.1.1.ji.jp,j33.2.1.1.jk,j33.2.2.2.2.1.1.ji.iD,j33.2.2.2.2.1.1.ji.user,j33.2.2.2.2.1.1.ji.name,j33.2.2.2.2.1.1.ji.count,j33.2.2.2.2.1.1.ji.jv,j33.2.2.2.2.1.1.ji.box,j33.2.2.2.2.1.1.ji.jae,j33.2.2.2.2.1.1.ji.jy,j33.2.2.2.2.1.1.ji.jaz,j33.2.2.2.2.1.1.ji.jaw,j33.2.2.2.2.1.1.ji.jax,j33.2.2.2.2.1.1.ji.jal,j33.2.2.2.2.1.1.ji.jz,j33.2.2.2.2.1.1.err,()),())))).bind λj38=>(Zaz (⟨j38.2.2.1.1,j38.2.2.1.2.1,j38.2.2.1.2.2.1,j38.2.2.1.2.2.2.1,⟨j38.2.2.1.2.2.2.2.1,j38.2.2.1.2.2.2.2.2.1,j38.2.2.1.2.2.2.2.2.2.1,j38.2.2.1.2.2.2.2.2.2.2.1,j38.2.2.1.2.2.2.2.2.2.2.2.1,j38.2.2.1.2.2.2.2.2.2.2.2.2.1,j38.2.2.1.2.2.2.2.2.2.2.2.2.2.1,j38.2.2.1.2.2.2.2.2.2.2.2.2.2.2.1,j38.2.2.1.2.2.2.2.2.2.2.2.2.2.2.2.1,j38.2.2.1.2.2.2.2.2.2.2.2.2.2.2.2.2.1,j38.2.2.1.2.2.2.2.2.2.2.2.2.2.2.2.2.2.1,j38.2.2.1.2.2.2.2.2.2.2.2.2.2.2.2.2.2.2.1,j38.2.2.1.2.2.2.2.2.2.2.2.2.2.2.2.2.2.2.2.1,j38.2.2.1.2.2.2.2.2.2.2.2.2.2.2.2.2.2.2.2.2.1,j38.2.2.1.2.2.2.2.2.2.2.2.2.2.2.2.2.2.2.2.2.2.1,j38.2.2.1.2.2.2.2.2.2.2.2.2.2.2.2.2.2.2.2.2.2.2.1,j38.2.2.1.2.2.2.2.2.2.2.2.2.2.2.2.2.2.2.2.2.2.2.2.1,j38.2.2.1.2.2.2.2.2.2.2.2.2.2.2.2.2.2.2.2.2.2.2.2.2.1⟩,j38.2.2.1.2.2.2.2.2.2.2.2.2.2.2.2.2.2.2.2.2.2.2.2.2.2.1⟩,()) 1).bind λr39=>(Zby (r39.1.1.1,())).bind λr40=>some ((),r40.2.1,r40.2.2.1,r40.2.2.2.1,()))))))
def c186:=cf c185 136 qaw [qo,qaf,qa] (u5 Zfm)
def s_Zfm_L0:LSpec T:=⟨[(5,qe),(7,qz),(10,qe),(11,qi),(13,ql),(15,qu),(16,qs),(17,qq),(18,qc)],[(.exit 0,[(5,qe),(7,qz),(10,qe),(11,qi),(13,ql),(15,qu),(16,qs),(17,qq)])],Zfm_L0,[]⟩
def A_Zfm:Loc2 T:=lcA [(0,s_Zfm_L0)] [(13,[(5,qe),(7,qz),(10,qe),(11,qi),(13,ql),(15,qu),(16,qs)],true),(14,[(5,qe),(7,qz),(10,qe),(11,qi),(13,ql),(15,qu),(16,qs),(17,qq)],true),(17,[(5,qe),(7,qz),(10,qe),(11,qi),(13,ql),(15,qu),(16,qs),(17,qq),(18,qc)],false),(23,[(5,qe),(7,qz),(10,qe),(11,qi),(13,ql),(15,qu),(16,qs),(17,qq),(23,qc),(175,qs)],true),(26,[(5,qe),(7,qz),(10,qe),(11,qi),(13,ql),(15,qu),(16,qs),(17,qq),(23,qc)],true),(34,[(5,qe),(7,qz),(10,qe),(11,qi),(13,ql),(15,qu),(16,qs),(17,qq),(23,qc),(29,qah),(31,qc)],true),(40,[(5,qe),(7,qz),(10,qe),(11,qi),(13,ql),(15,qu),(23,qc),(29,qg),(31,qc),(32,qc)],true),(42,[(5,qe),(7,qz),(10,qe),(11,qi),(13,ql),(15,qu),(23,qc),(29,qg),(31,qc),(32,qc)],true),(55,[(10,qe),(11,qi),(13,(.ptr [qo,qh,(.v (.rs 25)),qa,qa,qk,qay,(.v (.rs 2)),qa,qay,qt,qt,qa,qr,qay,qr,qa,qa,qa,qf,qf,(.v (.rs 11)),qa]))],true)]
theorem Vsi:LO c186 Tryz.f136 0 s_Zfm_L0:=lx o185 A_Zfm dn (λ_=>rfl)
theorem o186:EO c186:=sx o185 A_Zfm Tryz.func136 (dc rfl Vsi dn)
def Zar(a0:Je×Unit):Option (((Je×Unit)×Unit)×Ub×Unit):=
 cond (!(decide (a0.1.err=0))) (some (((a0.1,()),()),0#64,())) ((Zep a0.1.d.ju.jaq a0.1.r.jv).bind λr1=>(Zbj (a0.1,()) r1.2.2.1).bind λr2=>cond r2.2.1 (some (((r2.1.1.1,()),()),0#64,())) ((Zbi (r2.1.1.1,())).bind λr3=>some ((({r3.1.1.1 with d:={r3.1.1.1.d with ju:={r3.1.1.1.d.ju with jaq:=r3.2.1}}},()),()),r1.2.1,())))
def c187:=cf c186 209 [ql] [qr] (u1 Zar)
theorem o187:EO c187:=sz o186 Tryz.func209
def Zgz(a0:Ub)(a1 a2:Ua):O2 Ua Int:=
 cond (decide ((a2.length:Int)<16)) (ru [] 1) (cond (decide (1040<(a2.length:Int))) (ru [] 8) (cond (decide (1024<(a1.length:Int))) (ru [] 8) (cond (decide (8<=(a2.length:Int))) ((Zgv (Qj 8 a2)).bind λr1=>cond (decide (0<=Qb .i64 ((a2.length:Int)-8))&&decide (Qb .i64 ((a2.length:Int)-8)<=a2.length)) (cond (decide (8<=((Qb .i64 ((a2.length:Int)-8)).toNat:Int))) (let v2:=Qi 8 (Qj (Qb .i64 ((a2.length:Int)-8)).toNat a2);cond (decide (0<=Qb .i64 ((a2.length:Int)-8))&&decide (Qb .i64 ((a2.length:Int)-8)<=a2.length)) (let v3:=Qi (Qb .i64 ((a2.length:Int)-8)).toNat a2;(Zgv v3).bind λr4=>(Zib a0 r1.2.1 a1 v2).bind λr5=>cond (!(decide (r4.2.1=r5.2.1))) (ru [] 14) ((Zia a0 r1.2.1 v2).bind λr6=>ru r6.2.1 0)) none) none) none) none)))
def c188:=cf c187 222 [qd,qg,qg] [qk,qa] (u3 Zgz)
theorem o188:EO c188:=sz o187 Tryz.func222
def Zch_L0b(y0:Ua)(y1:Int):Option ((Ua×Int×Unit)⊕(Ua×Int×Unit)):=
 cond (decide (y1<y0.length)) (cond (decide (0<=y1)&&decide (y1<y0.length)) (y0[y1.toNat]?.bind λx2=>cond (!(decide (x2.toBitVec=(0:UInt8).toBitVec))) (some (Qg (y0,Qb .i64 (y1+1),()))) (some (Qf (y0,y1,())))) none) (some (Qf (y0,y1,())))
def Zch_L0:=Yi2 Zch_L0b
def Zch_L2b(y0:Ua)(y1 y2:Int):Option ((Ua×Int×Int×Unit)⊕((Ua×Int×Unit)⊕(Ua×Int×Unit))):=
 cond (decide (y2<y0.length)) (cond (decide (0<=y2)&&decide (y2<y0.length)) (y0[y2.toNat]?.bind λx4=>cond (!(decide (x4.toBitVec=(0:UInt8).toBitVec))) (some (Qf (Qg ([],2,())))) (some (Qg (y0,y1,Qb .i64 (y2+1),())))) none) (some (Qf (Qf (y0,y1,()))))
def Zch_L2:=Yi3 Zch_L2b
def Zch(a0:Ub)(a1:Ua):O2 Ua Int:=
 (Zgz a0 [] a1).bind λr1=>cond (!(decide (r1.2.2.1=0))) (ru [] r1.2.2.1) ((Zch_L0 (r1.2.1,0,())).bind λz3=>cond (!(decide ((z3.1.length:Int)=64))) (ru [] 2) (cond (decide (z3.2.1=z3.1.length)) (ru [] 2) ((Zch_L2 (z3.1,z3.2.1,z3.2.1,())).bind (Ql (λz5=>ru z5.1 z5.2.1) (λz6=>cond (decide (0<=z6.2.1)&&decide (z6.2.1<=z6.1.length)) (cond (decide (z6.2.1.toNat<=z6.1.length)) (ru (Qj z6.2.1.toNat z6.1) 0) none) none)))))
def c189:=ct c188 210 [qd,qg] [qt,qa] (u2 Zch)
def s_Zch_L0:LSpec T:=⟨[(6,qah),(8,qc)],[(.exit 0,[(6,qah),(8,qc)])],Zch_L0,[]⟩
def s_Zch_L2:LSpec T:=⟨[(6,qah),(8,qc),(9,qc)],[(.ret,[(4,qas),(5,qc)]),(.exit 2,[(6,qah),(8,qc)])],Zch_L2,[]⟩
def A_Zch:Loc2 T:=lcA [(0,s_Zch_L0),(2,s_Zch_L2)] []
theorem Vl2:LO c189 Tryz.f210 0 s_Zch_L0:=lx o188 A_Zch dn (λ_=>rfl)
theorem Vsj:LO c189 Tryz.f210 2 s_Zch_L2:=lx o188 A_Zch (dc rfl Vl2 dn) (λ_=>rfl)
theorem o189:EO c189:=sx o188 A_Zch Tryz.func210 (dc rfl Vl2 (dc rfl Vsj dn))
def c190:List (Ct T):=⟨265,none,S_Zbn,true⟩::c189
theorem o190:EnvOk Tryz.prog (mE c190):=eCons Vgia o189
def c191:List (Ct T):=⟨266,none,S_Zbf,true⟩::c190
theorem o191:EnvOk Tryz.prog (mE c191):=eCons Vgja o190
def Zfe_L0b(y0:Int)(y1:Bool)(y2:(Ua×Nat)):Option ((Int×Bool×(Ua×Nat)×Unit)⊕((Bool×Unit)⊕(Bool×Unit))):=
 (bif decide (y2.2<(y2.1).length) then (let v4:Nat:=(y2.2+(Utf8.decode ⟨(y2.1).toArray⟩ y2.2).2)
 (bif (decide (((Utf8.decode ⟨(y2.1).toArray⟩ y2.2).1:Int)=(0:Int))) then (some (Qf (Qg (true,()))))
 else (bif y1 then (some (Qg (y0,(decide (((Utf8.decode ⟨(y2.1).toArray⟩ y2.2).1:Int)=y0)),(y2.1,v4),())))
 else (some (Qg (y0,false,(y2.1,v4),()))))))
 else (some (Qf (Qf (y1,())))))
def Zfe_L0:=Yi3 Zfe_L0b
def Zfe(a0:Ua):O1 Bool:=
 cond (decide ((a0.length:Int)<4)) (rt true) (cond (decide (63<(a0.length:Int))) (rt true) ((Zhk a0).bind λr1=>cond (!r1.2.1) (rt true) ((Zbn a0).bind λr2=>cond (decide (r2.2.1<4)) (rt true) ((Zbf a0).bind λr3=>(Zfe_L0 (r3.2.1,true,(a0,0),())).bind (Ql (λz5=>rt z5.1) (λz6=>rt z6.1))))))
def c192:=ct c191 211 [qas] [qf] (u1 Zfe)
def s_Zfe_L0:LSpec T:=⟨[(3,(.f (.v (.int .i32)))),(5,qs),(32,.iter)],[(.ret,[(2,qs)]),(.exit 0,[(5,qs)])],Zfe_L0,[]⟩
def A_Zfe:Loc2 T:=lcA [(0,s_Zfe_L0)] []
theorem Vsk:LO c192 Tryz.f211 0 s_Zfe_L0:=lx o191 A_Zfe dn (λ_=>rfl)
theorem o192:EO c192:=sx o191 A_Zfe Tryz.func211 (dc rfl Vsk dn)
def Zcg(a0:Ua):O1 Ub:=
 (Zgt 8 a0).bind λr1=>rt r1.2.1
def c193:=ct c192 58 [qas] [qr] (u1 Zcg)
theorem o193:EO c193:=sz o192 Tryz.func58
def Zbu(a0 a1:Ub):O1 Ub:=
 (passkeyref1_Words [a1]).bind λr1=>(Zhw a0 8 r1.2.1).bind λr2=>rt r2.2.1
def S_Zbu:FSpec T:=⟨[qd,qd],[qr],λx=>Zbu x.1 x.2.1⟩
theorem Vbla:SoundT Tryz.prog cd gdn 267 S_Zbu:=
 sndC hmix o193 (lcA [] []) Tryz.func267 Vag (by kernel_rfl) (by kernel_rfl) λx=>by kernel_rfl
def c194:List (Ct T):=⟨267,none,S_Zbu,true⟩::c193
theorem o194:EnvOk Tryz.prog (mE c194):=eCons Vbla o193
def Zay(a0:Je×Unit)(a1:Ua):Option (((Je×Unit)×Unit)×Jf×Unit):=
 (Zdi a0.1.d).bind λr1=>(Zcg a1).bind λr2=>(Zbu r1.2.1 r2.2.1).bind λr3=>(passkeyref1_Words [r3.2.1]).bind λr4=>some (((a0.1,()),()),⟨3,r4.2.1⟩,())
def c195:=cf c194 213 [ql,qas] [(.v (.agg 15))] (u2 Zay)
theorem o195:EO c195:=sz o194 Tryz.func213
def Zfo(a0:Int):O1 Jf:=
 rt ⟨4,[Qh (Qc 8 a0)]⟩
def S_Zfo:FSpec T:=⟨[qc],[(.v (.agg 15))],λx=>Zfo x.1⟩
theorem Vbma:SoundT Tryz.prog cd gdn 214 S_Zfo:=
 sndC hmix o195 (lcA [] []) Tryz.func214 Vag (by kernel_rfl) (by kernel_rfl) λx=>by kernel_rfl
def c196:List (Ct T):=⟨214,none,S_Zfo,false⟩::c195
theorem o196:EnvOk Tryz.prog (mE c196):=eCons Vbma o195
def Zba(a0:Je×Unit)(a1:List Jf):Option (((Je×Unit)×Unit)×Bool×Unit):=
 cond (!(decide (a0.1.err=0))) (some (((a0.1,()),()),true,())) ((Zed a0.1.d a1 a0.1.jaa).bind λr1=>(Zbk (a0.1,()) r1.2.1 r1.2.2.1 r1.2.2.2.1).bind λr2=>some (((r2.1.1.1,()),()),!(decide (r2.1.1.1.err=0)),()))
def S_Zba:FSpec T:=⟨[ql,qn],[qf],λx=>Zba x.1 x.2.1⟩
theorem Vbna:SoundT Tryz.prog cd gdn 212 S_Zba:=
 sndC hmix o196 (lcA [] []) Tryz.func212 Vag (by kernel_rfl) (by kernel_rfl) λx=>by kernel_rfl
def c197:List (Ct T):=⟨212,none,S_Zba,false⟩::c196
theorem o197:EnvOk Tryz.prog (mE c197):=eCons Vbna o196
def Zdk(a0:Jd)(a1:Int)(a2:Jb)(a3:List Jl)(a4:Int):Option (Unit×Jd×Jj×Int×Unit):=
 (Zef a0 a1 a2 a3 a4 7).bind λr1=>cond (!(decide (r1.2.2.1=0))) (some ((),a0,{err:=r1.2.2.1},a4,())) (((Zgr r1.2.1.d).bind λr2=>cond r2.2.1.set ((Zbj (r1.2.1,()) 18).bind λr3=>some ((a2,()),(({}:Jd),()),(({}:Jj),()),(r3.1.1.1,()),())) (some ((a2,()),(({}:Jd),()),(({}:Jj),()),(r1.2.1,()),()))).bind λj4=>(Zar (j4.2.2.2.1.1,())).bind λr5=>cond (!(decide (r5.1.1.1.err=0))) ((Zby (r5.1.1.1,())).bind λr6=>some ((),r6.2.1,r6.2.2.1,r6.2.2.2.1,())) ((Zch r5.2.1 j4.1.1.box).bind λr7=>(Zbj (r5.1.1.1,()) r7.2.2.1).bind λr8=>cond r8.2.1 ((Zby (r8.1.1.1,())).bind λr9=>some ((),r9.2.1,r9.2.2.1,r9.2.2.2.1,())) ((Zfe r7.2.1).bind λr10=>cond r10.2.1 ((Zbj (r8.1.1.1,()) 26).bind λr11=>(Zby (r11.1.1.1,())).bind λr12=>some ((),r12.2.1,r12.2.2.1,r12.2.2.2.1,())) ((Zay (r8.1.1.1,()) r7.2.1).bind λr13=>(Zfo 8).bind λr14=>(Zba (r13.1.1.1,()) [r13.2.1,r14.2.1]).bind λr15=>cond (!r15.2.1) ((Zby ({r15.1.1.1 with d:={r15.1.1.1.d with jac:=0}},())).bind λr16=>some ((),r16.2.1,r16.2.2.1,r16.2.2.2.1,())) ((Zby (r15.1.1.1,())).bind λr17=>some ((),r17.2.1,r17.2.2.1,r17.2.2.2.1,()))))))
def c198:=cf c197 141 qaw [qo,qaf,qa] (u5 Zdk)
theorem o198:EO c198:=sx o197 (lcA [] [(6,[(7,qz),(10,qe),(11,qi),(13,ql)],true)]) Tryz.func141 dn
def Zbv(a0:Ub)(a1:Ua):O2 Ub Int:=
 (Zgz a0 [] a1).bind λr1=>cond (!(decide (r1.2.2.1=0))) (ru 0#64 r1.2.2.1) (cond (!(decide ((r1.2.1.length:Int)=8))) (ru 0#64 2) ((Zgv r1.2.1).bind λr2=>ru r2.2.1 0))
def c199:=ct c198 215 [qd,qg] [qr,qa] (u2 Zbv)
theorem o199:EO c199:=sz o198 Tryz.func215
def Zda(a0:Jo):O2 Jo Int:=
 cond (!a0.set) (some ((),{},25,())) (cond (decide (a0.jy<1)) (some ((),{},27,())) (cond (decide (3<=a0.jac)) (some ((),{},28,())) (ru {a0 with jy:=Qb .i64 (a0.jy-1)} 0)))
def S_Zda:FSpec T:=⟨[(.f qbc)],[qbc,qa],λx=>Zda x.1⟩
theorem Vboa:SoundT Tryz.prog cd gdn 268 S_Zda:=
 sndC hmix o199 (lcA [] []) Tryz.func268 Vag (by kernel_rfl) (by kernel_rfl) λx=>by kernel_rfl
def c200:List (Ct T):=⟨268,none,S_Zda,true⟩::c199
theorem o200:EnvOk Tryz.prog (mE c200):=eCons Vboa o199
def Zdb(a0:Jo)(a1:Bool):O2 Jo Int:=
 cond a1 (ru ⟨a0.set,a0.jbf,8,0⟩ 0) ((cond (decide (a0.jac<3)) (some ((({a0 with jac:=Qb .i64 (a0.jac+1)}:Jo),()),(({}:Jo),()),())) (some ((({a0 with jac:=3}:Jo),()),(({}:Jo),()),()))).bind λj1=>cond (decide (j1.1.1.jy<1)) (ru j1.1.1 27) (cond (decide (3<=j1.1.1.jac)) (ru j1.1.1 28) (ru j1.1.1 24)))
def S_Zdb:FSpec T:=⟨[(.f qbc),qs],[qbc,qa],λx=>Zdb x.1 x.2.1⟩
theorem Vbpa:SoundT Tryz.prog cd gdn 269 S_Zdb:=
 sndC hmix o200 (lcA [] [(7,[(2,.ptr [(.v (.agg 31))]),(4,.ptr [(.v (.agg 31))])],true)]) Tryz.func269 Vag (by kernel_rfl) (by kernel_rfl) λx=>by kernel_rfl
def c201:List (Ct T):=⟨269,none,S_Zdb,true⟩::c200
theorem o201:EnvOk Tryz.prog (mE c201):=eCons Vbpa o200
def ZajG(k_Zgr:Jd->O1 Jo)(k_Zda:Jo->O2 Jo Int)(k_Zbj:Je×Unit->Int->Option (((Je×Unit)×Unit)×Bool×Unit))(k_Zfo:Int->O1 Jf)(k_Zba:Je×Unit->List Jf->Option (((Je×Unit)×Unit)×Bool×Unit))(k_Zdi:Jd->O1 Ub)(k_Zbu:Ub->Ub->O1 Ub)(k_Zdb:Jo->Bool->O2 Jo Int)(a0:Je×Unit)(a1:Ub):Option (((Je×Unit)×Unit)×Unit):=
 (k_Zgr a0.1.d).bind λr1=>(k_Zda r1.2.1).bind λr2=>(k_Zbj (a0.1,()) r2.2.2.1).bind λr3=>cond r3.2.1 (some (((r3.1.1.1,()),()),())) ((k_Zfo r2.2.1.jy).bind λr4=>(k_Zba (r3.1.1.1,()) [r4.2.1]).bind λr5=>cond r5.2.1 (some (((r5.1.1.1,()),()),())) ((k_Zdi r5.1.1.1.d).bind λr6=>(k_Zbu r6.2.1 a1).bind λr7=>(k_Zdb r2.2.1 (decide (r7.2.1=r2.2.1.jbf))).bind λr8=>(k_Zbj (({r5.1.1.1 with d:={r5.1.1.1.d with jac:=r8.2.1.jac}}:Je),()) r8.2.2.1).bind λr9=>some (((r9.1.1.1,()),()),())))
def Zaj(a0:Je×Unit)(a1:Ub):Option (((Je×Unit)×Unit)×Unit):=
 ZajG Zgr Zda Zbj Zfo Zba Zdi Zbu Zdb a0 a1
def S_Zaj:FSpec T:=⟨[ql,qd],[],λx=>Zaj x.1 x.2.1⟩
def EG_Zaj(k_Zgr:Jd->Option ((Unit)×(Jo×Unit)))(k_Zda:Jo->Option ((Unit)×(Jo×Int×Unit)))(k_Zbj:(Je×Unit)->Int->Option (((Je×Unit)×Unit)×(Bool×Unit)))(k_Zfo:Int->Option ((Unit)×(Jf×Unit)))(k_Zba:(Je×Unit)->(List (Jf))->Option (((Je×Unit)×Unit)×(Bool×Unit)))(k_Zdi:Jd->Option ((Unit)×(Ub×Unit)))(k_Zbu:Ub->Ub->Option ((Unit)×(Ub×Unit)))(k_Zdb:Jo->Bool->Option ((Unit)×(Jo×Int×Unit))):Env T:=⟨tab.find,cd,globs,flc,λf ds=>match f with
  |183=>some ⟨S_Zdi.ps,S_Zdi.rs,λx=>k_Zdi x.1⟩
  |185=>some ⟨S_Zgr.ps,S_Zgr.rs,λx=>k_Zgr x.1⟩
  |189=>some ⟨S_Zbj.ps,S_Zbj.rs,λx=>k_Zbj x.1 x.2.1⟩
  |212=>some ⟨S_Zba.ps,S_Zba.rs,λx=>k_Zba x.1 x.2.1⟩
  |214=>some ⟨S_Zfo.ps,S_Zfo.rs,λx=>k_Zfo x.1⟩
  |267=>some ⟨S_Zbu.ps,S_Zbu.rs,λx=>k_Zbu x.1 x.2.1⟩
  |268=>some ⟨S_Zda.ps,S_Zda.rs,λx=>k_Zda x.1⟩
  |269=>some ⟨S_Zdb.ps,S_Zdb.rs,λx=>k_Zdb x.1 x.2.1⟩
  |_=>none,λf=>match f with
  |183=>true
  |185=>true
  |267=>true
  |268=>true
  |269=>true
  |_=>false⟩
def E_Zaj:Env T:=⟨tab.find,cd,globs,flc,λf ds=>match f with
  |183=>some S_Zdi
  |185=>some S_Zgr
  |189=>some S_Zbj
  |212=>some S_Zba
  |214=>some S_Zfo
  |267=>some S_Zbu
  |268=>some S_Zda
  |269=>some S_Zdb
  |_=>none,λf=>match f with
  |183=>true
  |185=>true
  |267=>true
  |268=>true
  |269=>true
  |_=>false⟩
def A_Zaj:Loc2 T:=⟨λid=>match id with
  |_=>none,λr=>match r with
  |_=>none⟩
def AG_Zaj(k_Zgr:Jd->Option ((Unit)×(Jo×Unit)))(k_Zda:Jo->Option ((Unit)×(Jo×Int×Unit)))(k_Zbj:(Je×Unit)->Int->Option (((Je×Unit)×Unit)×(Bool×Unit)))(k_Zfo:Int->Option ((Unit)×(Jf×Unit)))(k_Zba:(Je×Unit)->(List (Jf))->Option (((Je×Unit)×Unit)×(Bool×Unit)))(k_Zdi:Jd->Option ((Unit)×(Ub×Unit)))(k_Zbu:Ub->Ub->Option ((Unit)×(Ub×Unit)))(k_Zdb:Jo->Bool->Option ((Unit)×(Jo×Int×Unit))):Loc2 T:=⟨λid=>match id with
  |_=>none,λr=>match r with
  |_=>none⟩
theorem Vdfa(k_Zgr:Jd->Option ((Unit)×(Jo×Unit)))(k_Zda:Jo->Option ((Unit)×(Jo×Int×Unit)))(k_Zbj:(Je×Unit)->Int->Option (((Je×Unit)×Unit)×(Bool×Unit)))(k_Zfo:Int->Option ((Unit)×(Jf×Unit)))(k_Zba:(Je×Unit)->(List (Jf))->Option (((Je×Unit)×Unit)×(Bool×Unit)))(k_Zdi:Jd->Option ((Unit)×(Ub×Unit)))(k_Zbu:Ub->Ub->Option ((Unit)×(Ub×Unit)))(k_Zdb:Jo->Bool->Option ((Unit)×(Jo×Int×Unit)))(x:tySs T S_Zaj.ps):run (EG_Zaj k_Zgr k_Zda k_Zbj k_Zfo k_Zba k_Zdi k_Zbu k_Zdb) (AG_Zaj k_Zgr k_Zda k_Zbj k_Zfo k_Zba k_Zdi k_Zbu k_Zdb) (Tryz.f216.body.getD .skip) (enterT (EG_Zaj k_Zgr k_Zda k_Zbj k_Zfo k_Zba k_Zdi k_Zbu k_Zdb).C S_Zaj.ps x) (retK (EG_Zaj k_Zgr k_Zda k_Zbj k_Zfo k_Zba k_Zdi k_Zbu k_Zdb) Tryz.f216.results.toList S_Zaj.ps S_Zaj.rs)=ZajG k_Zgr k_Zda k_Zbj k_Zfo k_Zba k_Zdi k_Zbu k_Zdb x.1 x.2.1:=by kernel_rfl
theorem Vgca(x:tySs T S_Zaj.ps):run E_Zaj A_Zaj (Tryz.f216.body.getD .skip) (enterT E_Zaj.C S_Zaj.ps x) (retK E_Zaj Tryz.f216.results.toList S_Zaj.ps S_Zaj.rs)=S_Zaj.fn x:=Vdfa Zgr Zda Zbj Zfo Zba Zdi Zbu Zdb x
theorem Vdga:EnvOk Tryz.prog E_Zaj:=envOk (E:=E_Zaj) cd_ok tys fl_ok λf ds S h=>by
  dsimp only[E_Zaj]at h;split at h
  ·cases h;exact Vbva
  ·cases h;exact Vb1a
  ·cases h;exact Vbxa
  ·cases h;exact Vbna
  ·cases h;exact Vbma
  ·cases h;exact Vbla
  ·cases h;exact Vboa
  ·cases h;exact Vbpa
  ·cases h
theorem Vgda:SoundT Tryz.prog cd gdn 216 S_Zaj:=
 Vc2 (E:=E_Zaj) (A:=A_Zaj) (done:=[]) (c:=(Tryz.f216.body.getD .skip)) (S:=S_Zaj) (fn:=Tryz.f216) hmix Vdga Tryz.func216 rfl (by kernel_rfl) (by kernel_rfl) Vag (by kernel_rfl) (by kernel_rfl) Vgca
def c202:List (Ct T):=⟨216,none,S_Zaj,false⟩::c201
theorem o202:EnvOk Tryz.prog (mE c202):=eCons Vgda o201
def Zea(a0:Jt)(a1:Ub)(a2:Int)(a3:Ua)(a4:Int):O2 Jt Int:=
 cond (decide (a2<1)) (some ((),{},9,())) (cond (decide (7<a2)) (some ((),{},9,())) (cond (decide (a4<0)) (some ((),{},9,())) (cond (decide (1099511627776<a4)) (some ((),{},9,())) (cond (decide (64<(a3.length:Int))) (some ((),{},8,())) (ru ⟨a0.jaq,true,a1,a2,a3,a4⟩ 0)))))
def c203:=ct c202 217 [(.f qa1),qd,qc,qas,qc] [qa1,qa] (u5 Zea)
theorem o203:EO c203:=sz o202 Tryz.func217
def Zbw(a0 a1 a2:Ub):O1 Ua:=
 (passkeyref1_Words [a2]).bind λr1=>(Zha a0 a1 [] r1.2.1).bind λr2=>rt r2.2.1
def c204:=cf c203 57 [qd,qd,qd] [qk] (u3 Zbw)
theorem o204:EO c204:=sz o203 Tryz.func57
def Zee(a0:Jd)(a1:Int)(a2:Jb)(a3:List Jl)(a4:Int):Option (Unit×Jd×Jj×Int×Unit):=
 (Zef a0 a1 a2 a3 a4 9).bind λr1=>cond (!(decide (r1.2.2.1=0))) (some ((),a0,{err:=r1.2.2.1},a4,())) ((cond (decide (a2.jb<1)) ((Zbj (r1.2.1,()) 9).bind λr2=>some ((a2,()),(({}:Jd),()),(({}:Jj),()),(r2.1.1.1,()),())) (cond (decide (7<a2.jb)) ((Zbj (r1.2.1,()) 9).bind λr3=>some ((a2,()),(({}:Jd),()),(({}:Jj),()),(r3.1.1.1,()),())) (some ((a2,()),(({}:Jd),()),(({}:Jj),()),(r1.2.1,()),())))).bind λj4=>((Zgr j4.2.2.2.1.1.d).bind λr5=>cond (!r5.2.1.set) ((Zbj (j4.2.2.2.1.1,()) 25).bind λr6=>some ((j4.1.1,()),(j4.2.1.1,()),(j4.2.2.1.1,()),(r6.1.1.1,()),())) (some ((j4.1.1,()),(j4.2.1.1,()),(j4.2.2.1.1,()),(j4.2.2.2.1.1,()),()))).bind λj7=>(Zar (j7.2.2.2.1.1,())).bind λr8=>cond (!(decide (r8.1.1.1.err=0))) ((Zby (r8.1.1.1,())).bind λr9=>some ((),r9.2.1,r9.2.2.1,r9.2.2.2.1,())) ((Zbv r8.2.1 j7.1.1.proof).bind λr10=>(Zbj (r8.1.1.1,()) r10.2.2.1).bind λr11=>cond r11.2.1 ((Zby (r11.1.1.1,())).bind λr12=>some ((),r12.2.1,r12.2.2.1,r12.2.2.2.1,())) ((Zaj (r11.1.1.1,()) r10.2.1).bind λr13=>cond (!(decide (r13.1.1.1.err=0))) ((Zby (r13.1.1.1,())).bind λr14=>some ((),r14.2.1,r14.2.2.1,r14.2.2.2.1,())) ((Zfo 8).bind λr15=>(Zba (r13.1.1.1,()) [r15.2.1]).bind λr16=>cond r16.2.1 ((Zby (r16.1.1.1,())).bind λr17=>some ((),r17.2.1,r17.2.2.1,r17.2.2.2.1,())) ((Zbi (r16.1.1.1,())).bind λr18=>(Zea r18.1.1.1.d.ju r18.2.1 j7.1.1.jb j7.1.1.rP r18.1.1.1.d.now).bind λr19=>(Zbi ({r18.1.1.1 with d:={r18.1.1.1.d with ju:=r19.2.1}},())).bind λr20=>(Zbw r8.2.1 r20.2.1 r18.2.1).bind λr21=>(Zby ({r20.1.1.1 with ji:={r20.1.1.1.ji with box:=r21.2.1}},())).bind λr22=>some ((),r22.2.1,r22.2.2.1,r22.2.2.2.1,()))))))
def c205:=cf c204 143 qaw [qo,qaf,qa] (u5 Zee)
theorem o205:EO c205:=sx o204 (lcA [] [(6,[(7,qz),(10,qe),(11,qi),(13,ql)],true),(8,[(7,qz),(10,qe),(11,qi),(13,ql)],true)]) Tryz.func143 dn
def Zgs(a0:Jd)(a1:Int)(a2:Jb)(a3:List Jl)(a4:Int):Option (Unit×Jd×Jj×Int×Unit):=
 cond (decide (a2.kind=1)) none (cond (decide (a2.kind=2)) ((Zfm a0 a1 a2 a3 a4).bind λr1=>some ((),r1.2.1,r1.2.2.1,r1.2.2.2.1,())) (cond (decide (a2.kind=3)) none (cond (decide (a2.kind=4)) none (cond (decide (a2.kind=5)) none (cond (decide (a2.kind=6)) none (cond (decide (a2.kind=7)) ((Zdk a0 a1 a2 a3 a4).bind λr2=>some ((),r2.2.1,r2.2.2.1,r2.2.2.2.1,())) (cond (decide (a2.kind=8)) none (cond (decide (a2.kind=9)) ((Zee a0 a1 a2 a3 a4).bind λr3=>some ((),r3.2.1,r3.2.2.1,r3.2.2.2.1,())) (cond (decide (a2.kind=10)) none (cond (decide (a2.kind=11)) none (cond (decide (a2.kind=12)) none (cond (decide (a2.kind=13)) none (cond (decide (a2.kind=14)) none (cond (!a0.on) (some ((),a0,{err:=17},a4,())) (some ((),a0,{err:=3},a4,()))))))))))))))))
def c206:=cf c205 96 qaw [qo,qaf,qa] (u5 Zgs)
theorem o206:EO c206:=sz o205 Tryz.func96
def Zbz(a0:Ua):O2 Js Int:=
 cond (!(decide ((a0.length:Int)=9))) (some ((),{},2,())) ((getI a0 (0:Int)).bind λx1=>(Zer (x1.toBitVec.toNat:Int)).bind λr2=>cond (!r2.2.1) (some ((),{},2,())) ((getI a0 (0:Int)).bind λx3=>cond (decide (1<=(a0.length:Int))) ((Zgv (Qi 1 a0)).bind λr4=>ru ⟨(x3.toBitVec.toNat:Int),r4.2.1⟩ 0) none))
def c207:=ct c206 225 [qg] [qbd,qa] (u1 Zbz)
theorem o207:EO c207:=sz o206 Tryz.func225
def Zav(a0:Ua):O2 Jr Int:=
 (cond (!(decide ((a0.length:Int)=11))) (cond (!(decide ((a0.length:Int)=204))) ((ru ({}:Jr) (2:Int)).bind λq=>some (Qf q)) (some (Qg (a0,(({}:Jr),()),())))) (some (Qg (a0,(({}:Jr),()),())))).bind (Ql (λj1=>cond (decide (8<=(j1.1.length:Int))) ((Zgv (Qj 8 j1.1)).bind λr2=>(getI j1.1 (8:Int)).bind λx3=>(getI j1.1 (9:Int)).bind λx4=>(getI j1.1 (10:Int)).bind λx5=>(cond (decide (11<(j1.1.length:Int))) (cond (decide (195<=(j1.1.length:Int))) ((Zbz (Qi 195 j1.1)).bind λr6=>cond (!(decide (r6.2.2.1=0))) ((ru ({}:Jr) (2:Int)).bind λq=>some (Qf q)) (cond (decide (19<=(j1.1.length:Int))) ((Zgv (Qi 11 (Qj 19 j1.1))).bind λr7=>cond (decide (195<=(j1.1.length:Int))) (cond (small (Qi 19 (Qj 195 j1.1)).length 1) (some (Qg (j1.1,(j1.2.1.1,()),(r2.2.1,(x3.toBitVec.toNat:Int),(x4.toBitVec.toNat:Int),(x5.toBitVec.toNat:Int),r7.2.1,Qi 19 (Qj 195 j1.1),r6.2.1,()),()))) none) none) none)) none) (some (Qg (j1.1,(j1.2.1.1,()),(r2.2.1,(x3.toBitVec.toNat:Int),(x4.toBitVec.toNat:Int),(x5.toBitVec.toNat:Int),0#64,[],({}:Js),()),())))).bind (Ql (λj8=>(Zai ⟨j8.2.2.1.1,j8.2.2.1.2.1,j8.2.2.1.2.2.1,j8.2.2.1.2.2.2.1,j8.2.2.1.2.2.2.2.1,j8.2.2.1.2.2.2.2.2.1,j8.2.2.1.2.2.2.2.2.2.1⟩).bind λr9=>cond (!(decide (r9.2.1=0))) (some ((),{},2,())) (let v10:=Qb .i64 ((Qc (Qa .i64) j8.2.2.1.2.1&&&Qc (Qa .i64) 64).toNat:Int);cond (!(decide (11<(j8.1.length:Int))==(!(decide (v10=0))))) (some ((),{},2,())) (ru ⟨j8.2.2.1.1,j8.2.2.1.2.1,j8.2.2.1.2.2.1,j8.2.2.1.2.2.2.1,j8.2.2.1.2.2.2.2.1,j8.2.2.1.2.2.2.2.2.1,j8.2.2.1.2.2.2.2.2.2.1⟩ 0))) some)) none) some)
def c208:=cf c207 149 [qg] [qbe,qa] (u1 Zav)
theorem o208:EO c208:=sx o207 (lcA [] [(3,[(0,qg),(2,(.ptr [qbe]))],false),(9,[(0,qg),(2,(.ptr [qbe])),(4,(.ptr [qr,qa,qa,qa,qr,qk,qbd]))],false)]) Tryz.func149 dn
def Zfb(a0:Ji)(a1:Jj):O1 Ji:=
 (Zav a1.jaf).bind λr1=>(cond (decide (r1.2.2.1=0)) (cond (decide (0<(r1.2.1.iD.length:Int))) (cond (small a0.iDs.length 24) (cond (small (a0.iDs.length+([r1.2.1.iD]).length) 24) (let v2:=a0.iDs++[r1.2.1.iD];some ((({a0 with iDs:=v2}:Ji),()),(a1,()),(({}:Ji),()),())) none) none) (some ((a0,()),(a1,()),(({}:Ji),()),()))) (some ((a0,()),(a1,()),(({}:Ji),()),()))).bind λj3=>cond (decide (0<(j3.2.1.1.iD.length:Int))) (cond (decide ((j3.2.1.1.jaf.length:Int)=0)) (cond (small j3.1.1.iDs.length 24) (cond (small (j3.1.1.iDs.length+([j3.2.1.1.iD]).length) 24) (let v4:=j3.1.1.iDs++[j3.2.1.1.iD];rt ⟨j3.1.1.jg,v4⟩) none) none) (rt j3.1.1)) (rt j3.1.1)
def c209:=cf c208 97 [(.f qab),(.f qaf)] [qab] (u2 Zfb)
theorem o209:EO c209:=sx o208 (lcA [] [(4,[(2,qat),(3,qi),(4,qat)],true)]) Tryz.func97 dn
def Zig(a0:Ji)(a1:Jy):O2 Ji Jj:=
 cond a1.jbh ((Zgq a0.jg).bind λr1=>(Zfk r1.2.1 a1.now a1.jaa).bind λr2=>ru ⟨r2.2.1,a0.iDs⟩ {err:=r2.2.2.2.1}) ((Zgs a0.jg a1.now a1.js a1.jbe a1.jaa).bind λr3=>(Zfb ⟨r3.2.1,a0.iDs⟩ r3.2.2.1).bind λr4=>ru r4.2.1 r3.2.2.1)
def c210:=cf c209 51 [(.f qab),(.f (.v (.agg 26)))] [qab,qaf] (u2 Zig)
theorem o210:EO c210:=sx o209 (lcA [] []) Tryz.func51 dn
def Zdw(a0:Ji)(a1:Int):O1 Ji:=
 (Zht a0.jg).bind λr1=>(Zhs 0).bind λr2=>(Zcg r2.2.1).bind λr3=>(Zbw r1.2.1 3#64 r3.2.1).bind λr4=>(Zbl 4711#64).bind λr5=>(Zig a0 ⟨false,a0.jg.now,{kind:=9,jv:=r5.2.1,proof:=r4.2.1,jb:=a1},[],-1⟩).bind λr6=>rt r6.2.1
def c211:=cf c210 52 [(.f qab),qc] [qab] (u2 Zdw)
theorem o211:EO c211:=sz o210 Tryz.func52
def Zii(a0:Int):O1 Ua:=
 let v1:List Ua:=[[97,46,101,120,97,109,112,108,101],[98,46,101,120,97,109,112,108,101],[115,104,111,112,46,116,101,115,116]];let v2:=Qb .i64 ((Qc (Qa .i64) a0&&&Qc (Qa .i64) 65535).toNat:Int);cond (decide (0<=Qd v2 3)&&decide (Qd v2 3<3)) (v1[(Qd v2 3).toNat]?.bind λx3=>rt x3) none
def c212:=ct c211 53 [qc] [qt] (u1 Zii)
theorem o212:EO c212:=sz o211 Tryz.func53
def Zgi(a0:Int):O1 Ua:=
 let v1:List Ua:=[[117,49],[117,50],[0,255]];let v2:=Qb .i64 ((Qc (Qa .i64) a0&&&Qc (Qa .i64) 65535).toNat:Int);cond (decide (0<=Qd v2 3)&&decide (Qd v2 3<3)) (v1[(Qd v2 3).toNat]?.bind λx3=>rt x3) none
def c213:=ct c212 54 [qc] [qt] (u1 Zgi)
theorem o213:EO c213:=sz o212 Tryz.func54
def Zgj(a0:Int):O1 Ub:=
 (passkeyref1_Words [Qc 64 a0]).bind λr1=>(Zgt 99 r1.2.1).bind λr2=>rt r2.2.1
def c214:=ct c213 55 [qc] [qr] (u1 Zgj)
theorem o214:EO c214:=sz o213 Tryz.func55
def Zbt(a0:Jd)(a1:Jb):O1 Jb:=
 (Zdc a1).bind λr1=>(Zbh a0.ju.value r1.2.1).bind λr2=>rt {a1 with auth:=r2.2.1,jj:=true}
def c215:=cf c214 56 [qa4,qbf] [qh] (u2 Zbt)
theorem o215:EO c215:=sz o214 Tryz.func56
def Zgg_L0b(y0:Int)(y1 y2:Ji×Unit)(y3:Int):Option ((Int×(Ji×Unit)×(Ji×Unit)×Int×Unit)⊕((Ji×Unit)×(Ji×Unit)×Unit)):=
 cond (decide (y3<3)) ((Zdw y2.1 1).bind λr7=>let v8:=Qe y0 (2^min (Qc 64 (Qb .i64 (2*y3))).toNat (Qa .i64));let v9:=Qb .i64 ((Qc (Qa .i64) v8&&&Qc (Qa .i64) 3).toNat:Int);(Zii (Qb .i64 (Int.tdiv v9 3))).bind λr10=>(Zgi y3).bind λr11=>(Zgj y3).bind λr12=>let v13:=Qe y0 (2^min (Qc 64 (Qb .i64 (6+y3))).toNat (Qa .i64));let v14:=Qb .i64 ((Qc (Qa .i64) v13&&&Qc (Qa .i64) 1).toNat:Int);let v15:=Qe y0 (2^min (Qc 64 (Qb .i64 (9+y3))).toNat (Qa .i64));let v16:=Qb .i64 ((Qc (Qa .i64) v15&&&Qc (Qa .i64) 1).toNat:Int);(Zbt r7.2.1.jg ⟨2,r10.2.1,r11.2.1,[],r12.2.1,Qb .i64 (1+v14),Qb .i64 (1+v16),[],decide (y3<2),false,false,decide (y3=0),0,0#64,false,0#64,[],[],0,[],0⟩).bind λr17=>let v18:List Jl:=[⟨Qb .i64 (r7.2.1.jg.now+1),1⟩];(Zig r7.2.1 ⟨false,r7.2.1.jg.now,r17.2.1,v18,-1⟩).bind λr19=>some (Qg (y0,(y1.1,()),(r19.2.1,()),Qb .i64 (y3+1),()))) (some (Qf ((y1.1,()),(y2.1,()),())))
def Zgg_L0:=Yi4 Zgg_L0b
def Zgg(a0 a1:Int):O1 Ji:=
 (Zfd a0).bind λr1=>(Zht r1.2.1.jg).bind λr2=>(Zbl 4711#64).bind λr3=>(Zhs 0).bind λr4=>(Zci r2.2.1 1#64 r4.2.1).bind λr5=>(Zig r1.2.1 ⟨false,r1.2.1.jg.now,{kind:=7,jv:=r3.2.1,box:=r5.2.1},[],-1⟩).bind λr6=>(Zgg_L0 (a1,({},()),(r6.2.1,()),0,())).bind λz20=>(Zdw z20.2.1.1 7).bind λr21=>rt r21.2.1
def c216:=cf c215 18 [qc,qc] [qab] (u2 Zgg)
def s_Zgg_L0:LSpec T:=⟨[(1,qc),(4,qat),(5,qat),(10,qc)],[(.exit 0,[(4,qat),(5,qat)])],Zgg_L0,[]⟩
def A_Zgg:Loc2 T:=lcA [(0,s_Zgg_L0)] []
theorem Vsl:LO c216 Tryz.f18 0 s_Zgg_L0:=lx o215 A_Zgg dn (λ_=>rfl)
theorem o216:EO c216:=sx o215 A_Zgg Tryz.func18 (dc rfl Vsl dn)
def Zgh(a0:Int):O1 Ua:=
 let v1:List Ua:=[[],[97],[98],[108,111,103,105,110],[107,101,121],[101,120,97,109,112,108,101,46,111,114,103],[195,169],[48,49,50,51,52,53,54,55,56,57,48,49,50,51,52,53]];let v2:=Qb .i64 ((Qc (Qa .i64) a0&&&Qc (Qa .i64) 7).toNat:Int);cond (decide (0<=v2)&&decide (v2<8)) (v1[v2.toNat]?.bind λx3=>let v4:=Qb .i64 ((Qc (Qa .i64) (Qe a0 (2^min 3 (Qa .i64)))&&&Qc (Qa .i64) 7).toNat:Int);cond (decide (0<=v4)&&decide (v4<8)) (v1[v4.toNat]?.bind λx5=>cond (Nat.ble (x3.length+x5.length) 9223372036854775807) (rt (x3++x5)) none) none) none
def c217:=ct c216 59 [qc] [qt] (u1 Zgh)
theorem o217:EO c217:=sz o216 Tryz.func59
def Zih(a0:Int):O1 Ua:=
 let v1:=Qb .i64 ((Qc (Qa .i64) a0&&&Qc (Qa .i64) 7).toNat:Int);(Zeq (Qc 64 v1+1#64) 5#64 176).bind λr2=>rt r2.2.1
def c218:=cf c217 102 [qc] [qk] (u1 Zih)
theorem o218:EO c218:=sz o217 Tryz.func102
def Zcy(a0:Ji)(a1:Int):O1 Ua:=
 cond (decide ((a0.iDs.length:Int)=0)) ((Zih a1).bind λr1=>rt r1.2.1) (let v2:=Qb .i64 ((Qc (Qa .i64) a1&&&Qc (Qa .i64) 15).toNat:Int);cond (decide (v2=15)) ((Zih a1).bind λr3=>rt r3.2.1) (let v4:=Qb .i64 ((Qc (Qa .i64) a1&&&Qc (Qa .i64) 15).toNat:Int);cond (decide ((a0.iDs.length:Int)=0)) none ((getI a0.iDs (Qd v4 (a0.iDs.length:Int))).bind λx5=>rt x5)))
def c219:=cf c218 60 [(.f qab),qc] [qay] (u2 Zcy)
theorem o219:EO c219:=sz o218 Tryz.func60
def Zbg(a0:Int):O1 Jg:=
 (Zii a0).bind λr1=>(Zgi (Qe a0 (2^min 2 (Qa .i64)))).bind λr2=>(Zgh (Qe a0 (2^min 4 (Qa .i64)))).bind λr3=>let v4:=Qb .i64 ((Qc (Qa .i64) (Qe a0 (2^min 3 (Qa .i64)))&&&Qc (Qa .i64) 1).toNat:Int);let v5:=Qd (Qe a0 (2^min 5 (Qa .i64))) 3;let v6:=Qb .i64 ((Qc (Qa .i64) (Qe a0 (2^min 7 (Qa .i64)))&&&Qc (Qa .i64) 1).toNat:Int);cond (decide (v6=1)) (let v7:=Qb .i64 ((Qc (Qa .i64) (Qe a0 (2^min 8 (Qa .i64)))&&&Qc (Qa .i64) 1).toNat:Int);cond (decide (v7=1)) (let v8:=Qb .i64 ((Qc (Qa .i64) (Qe a0 (2^min 9 (Qa .i64)))&&&Qc (Qa .i64) 1).toNat:Int);rt ⟨r1.2.1,r2.2.1,r3.2.1,Qc 64 a0*11400714819323198485#64,Qb .i64 (1+v4),decide (v6=1),Qb .i64 (1+v5),decide (v7=1),decide (v8=1)⟩) (rt ⟨r1.2.1,r2.2.1,r3.2.1,Qc 64 a0*11400714819323198485#64,Qb .i64 (1+v4),decide (v6=1),Qb .i64 (1+v5),decide (v7=1),false⟩)) (rt ⟨r1.2.1,r2.2.1,r3.2.1,Qc 64 a0*11400714819323198485#64,Qb .i64 (1+v4),decide (v6=1),Qb .i64 (1+v5),false,false⟩)
def c220:=ct c219 61 [qc] [qak] (u1 Zbg)
theorem o220:EO c220:=sz o219 Tryz.func61
def Zap(a0:Jg)(a1 a2:Int):O2 Ua Int:=
 (Zad a0).bind λr1=>cond (!(decide (r1.2.2.1=0))) (ru [] r1.2.2.1) (cond (!a0.jai) (ru [] 18) (cond (decide (a1<0)) (ru [] 9) (cond (decide (a2<a1)) (ru [] 9) (let v2:=Qb .i64 (1*2^min (Qc 64 a0.jc).toNat (Qa .i64));cond (decide (v2<a2)) (ru [] 9) (let v3:Ua:=[Qh (Qc 8 a1),Qh (Qc 8 a2)];cond (small (v3.length+(r1.2.1:Ua).length) 1) (ru (v3++r1.2.1) 0) none)))))
def c221:=cf c220 62 [(.f qak),qc,qc] [qk,qa] (u3 Zap)
theorem o221:EO c221:=sz o220 Tryz.func62
def Zfc(a0:Jb)(a1:Int):O1 Jb:=
 let v1:=Qb .i64 ((Qc (Qa .i64) (Qe a1 (2^min 5 (Qa .i64)))&&&Qc (Qa .i64) 65535).toNat:Int);let v2:=Qb .i64 ((Qc (Qa .i64) a1&&&Qc (Qa .i64) 31).toNat:Int);cond (decide (v2=0)) (rt {a0 with kind:=Qb .i64 (Qd v1 20-2)}) (cond (decide (v2=1)) (let v3:=Qk 65 (0:UInt8);let v4:List Ua:=[[],[99,46,101,120,97,109,112,108,101],[255],v3];let v5:=Qb .i64 ((Qc (Qa .i64) v1&&&Qc (Qa .i64) 3).toNat:Int);cond (decide (0<=v5)&&decide (v5<4)) (v4[v5.toNat]?.bind λx6=>rt {a0 with rP:=x6}) none) (cond (decide (v2=2)) (let v7:List Ua:=[[],[117,49],[48,49,50,51,52,53,54,55,56,57,48,49,50,51,52,53,54]];cond (decide (0<=Qd v1 3)&&decide (Qd v1 3<3)) (v7[(Qd v1 3).toNat]?.bind λx8=>rt {a0 with user:=x8}) none) (cond (decide (v2=3)) (let v9:=Qk 33 (0:UInt8);let v10:List Ua:=[[],[192],v9];cond (decide (0<=Qd v1 3)&&decide (Qd v1 3<3)) (v10[(Qd v1 3).toNat]?.bind λx11=>rt {a0 with name:=x11}) none) (cond (decide (v2=4)) (rt {a0 with jc:=Qb .i64 (Qd v1 8-1)}) (cond (decide (v2=5)) (rt {a0 with jd:=Qb .i64 (Qd v1 6-1)}) (cond (decide (v2=6)) (cond (small a0.list.length 24) (cond (decide (0<=Qb .i64 (175+Qd v1 3))&&(decide (Qb .i64 (175+Qd v1 3)<=Qb .i64 (175+Qd v1 3))&&decide (1*Qb .i64 (175+Qd v1 3)<=281474976710656/\Qb .i64 (175+Qd v1 3)<=9223372036854775807))) (let v12:=Qk (Qb .i64 (175+Qd v1 3)).toNat (0:UInt8);cond (small (a0.list.length+([v12]).length) 24) (rt {a0 with list:=a0.list++[v12]}) none) none) none) (cond (decide (v2=7)) (cond (decide (0<=Qd v1 10)&&(decide (Qd v1 10<=Qd v1 10)&&decide (24*Qd v1 10<=281474976710656/\Qd v1 10<=9223372036854775807))) (let v13:=Qk (Qd v1 10).toNat [];rt {a0 with list:=v13}) none) (cond (decide (v2=8)) (rt {a0 with jk:=Qb .i64 (Qd v1 5-1)}) (cond (decide (v2=9)) (rt {a0 with auth:=a0.auth+1#64}) (cond (decide (v2=10)) (rt {a0 with jj:=!a0.jj}) (cond (decide (v2=11)) (let v14:List Ub:=[0#64,1#64,2#64,2305843009213693950#64,2305843009213693949#64,2305843009213693951#64];cond (decide (0<=Qd v1 6)&&decide (Qd v1 6<6)) (v14[(Qd v1 6).toNat]?.bind λx15=>rt {a0 with jv:=x15}) none) (cond (decide (v2=12)) (let v16:List Int:=[0,16,1024,1025];let v17:=Qb .i64 ((Qc (Qa .i64) v1&&&Qc (Qa .i64) 3).toNat:Int);cond (decide (0<=v17)&&decide (v17<4)) (v16[v17.toNat]?.bind λx18=>cond (decide (0<=x18)&&(decide (x18<=x18)&&decide (1*x18<=281474976710656/\x18<=9223372036854775807))) (let v19:=Qk x18.toNat (0:UInt8);rt {a0 with box:=v19}) none) none) (cond (decide (v2=13)) (cond (small a0.proof.length 1) (cond (small (a0.proof.length+([Qh (Qc 8 v1)]).length) 1) (let v20:=a0.proof++[Qh (Qc 8 v1)];rt {a0 with proof:=v20}) none) none) (cond (decide (v2=14)) (let v21:List Int:=[0,7,8,256,-1];cond (decide (0<=Qd v1 5)&&decide (Qd v1 5<5)) (v21[(Qd v1 5).toNat]?.bind λx22=>rt {a0 with jb:=x22}) none) (cond (decide (v2=15)) (cond (decide (0<=Qb .i64 (175+Qd v1 3))&&(decide (Qb .i64 (175+Qd v1 3)<=Qb .i64 (175+Qd v1 3))&&decide (1*Qb .i64 (175+Qd v1 3)<=281474976710656/\Qb .i64 (175+Qd v1 3)<=9223372036854775807))) (let v23:=Qk (Qb .i64 (175+Qd v1 3)).toNat (0:UInt8);rt {a0 with iD:=v23}) none) (cond (decide (v2=16)) (let v24:List Int:=[0,16,256,-1];let v25:=Qb .i64 ((Qc (Qa .i64) v1&&&Qc (Qa .i64) 3).toNat:Int);cond (decide (0<=v25)&&decide (v25<4)) (v24[v25.toNat]?.bind λx26=>rt {a0 with count:=x26}) none) (cond (decide (v2=17)) (rt {a0 with jm:=!a0.jm}) (cond (decide (v2=18)) (rt {a0 with jt:=!a0.jt}) (cond (decide (v2=19)) (cond (decide (0<(a0.box.length:Int))) (cond (small a0.box.length 1) (cond (decide ((a0.box.length:Int)=0)) none (cond (decide (0<=Qd v1 (a0.box.length:Int))&&decide (Qd v1 (a0.box.length:Int)<a0.box.length)) (a0.box[(Qd v1 (a0.box.length:Int)).toNat]?.bind λx27=>let v28:=Qb .i64 ((Qc (Qa .i64) v1&&&Qc (Qa .i64) 7).toNat:Int);let v29:=Qh (Qc 8 (Qb .i64 (1+v28)));cond (decide (0<=Qd v1 (a0.box.length:Int))&&decide (Qd v1 (a0.box.length:Int)<a0.box.length)) (a0.box[(Qd v1 (a0.box.length:Int)).toNat]?.bind λx30=>let v31:=Qm a0.box (Qd v1 (a0.box.length:Int)).toNat (Qh (x27.toBitVec^^^v29.toBitVec));rt {a0 with box:=v31}) none) none)) none) (rt a0)) (cond (decide (v2=20)) (rt {a0 with je:=!a0.je}) (cond (decide (v2=21)) (rt {a0 with jq:=!a0.jq}) (rt a0))))))))))))))))))))))
def c222:=cf c221 20 [qbf,qc] [qh] (u2 Zfc)
theorem o222:EO c222:=sx o221 (lcA [] []) Tryz.func20 dn
def Zcz_L1b(y0 y1:Int)(y2:Ji×Unit)(y3:Int×Ua×Ua×Ua×Ub×Int×Int×List Ua×Bool×Bool×Bool×Bool×Int×Ub×Bool×Ub×Ua×Ua×Int×Ua×Int×Unit)(y4:Jd×Unit)(y5:Int×Ua×Ua×Ua×Ub×Int×Int×List Ua×Bool×Bool×Bool×Bool×Int×Ub×Bool×Ub×Ua×Ua×Int×Ua×Int×Unit)(y6:Int):Option ((Int×Int×(Ji×Unit)×Yaq×(Jd×Unit)×Yaq×Int×Unit)⊕(Int×Int×Yaq×(Jd×Unit)×Yaq×Unit)):=
 let v39:=Qb .i64 ((Qc (Qa .i64) (Qe y1 (2^min 7 (Qa .i64)))&&&Qc (Qa .i64) 3).toNat:Int);cond (decide (y6<v39)) (let v40:=Qb .i64 (4+Qb .i64 (3*y6));let v41:=Qe y0 (2^min (Qc 64 v40).toNat (Qa .i64));(Zcy y2.1 v41).bind λr42=>cond (small (y5.2.2.2.2.2.2.2.1.length+([r42.2.1]).length) 24) (let v43:=y5.2.2.2.2.2.2.2.1++[r42.2.1];some (Qg (y0,y1,(y2.1,()),y3,(y4.1,()),(y5.1,y5.2.1,y5.2.2.1,y5.2.2.2.1,y5.2.2.2.2.1,y5.2.2.2.2.2.1,y5.2.2.2.2.2.2.1,v43,y5.2.2.2.2.2.2.2.2),Qb .i64 (y6+1),()))) none) (some (Qf (y0,y1,y3,(y4.1,()),y5,())))
def Zcz_L1:=Yi7 Zcz_L1b
def Zcz(a0:Ji)(a1 a2:Int):O1 Jb:=
 (Zht a0.jg).bind λr1=>(Zbl 4711#64).bind λr2=>let v3:=Qb .i64 ((Qc (Qa .i64) (Qe a2 (2^min 3 (Qa .i64)))&&&Qc (Qa .i64) 1).toNat:Int);(Zhs v3).bind λr4=>(Zcg r4.2.1).bind λr5=>(Zbw r1.2.1 (Qc 64 a2) r5.2.1).bind λr6=>let v7:=Qb .i64 ((Qc (Qa .i64) (Qe a2 (2^min 4 (Qa .i64)))&&&Qc (Qa .i64) 1).toNat:Int);(Zhs v7).bind λr8=>let v9:=Qb .i64 ((Qc (Qa .i64) (Qe a2 (2^min 5 (Qa .i64)))&&&Qc (Qa .i64) 3).toNat:Int);(Zhs v9).bind λr10=>(Zhs 0).bind λr11=>let v12:List Ua:=[r8.2.1,r10.2.1,[49,49,49],r11.2.1];let v13:=Qb .i64 ((Qc (Qa .i64) (Qe a2 (2^min 7 (Qa .i64)))&&&Qc (Qa .i64) 3).toNat:Int);cond (decide (0<=v13)&&decide (v13<4)) (v12[v13.toNat]?.bind λx14=>(Zci r1.2.1 (Qc 64 a2+1#64) x14).bind λr15=>(let v16:=Qb .i64 ((Qc (Qa .i64) a1&&&Qc (Qa .i64) 15).toNat:Int);(cond (decide (v16=0)) (some (a1,a2,(a0,()),((0:Int),([]:Ua),([]:Ua),([]:Ua),0#64,(0:Int),(0:Int),[],false,false,false,false,(0:Int),0#64,false,0#64,[],[],(0:Int),[],(0:Int),()),(a0.jg,()),r1.2.1,r2.2.1,r6.2.1,r15.2.1,((0:Int),([]:Ua),([]:Ua),([]:Ua),0#64,(0:Int),(0:Int),[],false,false,false,false,(0:Int),0#64,false,0#64,[],[],(0:Int),[],(0:Int),()),v16,decide (v16=0),())) (cond (decide (v16=1)) (some (a1,a2,(a0,()),((0:Int),([]:Ua),([]:Ua),([]:Ua),0#64,(0:Int),(0:Int),[],false,false,false,false,(0:Int),0#64,false,0#64,[],[],(0:Int),[],(0:Int),()),(a0.jg,()),r1.2.1,r2.2.1,r6.2.1,r15.2.1,((0:Int),([]:Ua),([]:Ua),([]:Ua),0#64,(0:Int),(0:Int),[],false,false,false,false,(0:Int),0#64,false,0#64,[],[],(0:Int),[],(0:Int),()),v16,decide (v16=1),())) (some (a1,a2,(a0,()),((0:Int),([]:Ua),([]:Ua),([]:Ua),0#64,(0:Int),(0:Int),[],false,false,false,false,(0:Int),0#64,false,0#64,[],[],(0:Int),[],(0:Int),()),(a0.jg,()),r1.2.1,r2.2.1,r6.2.1,r15.2.1,((0:Int),([]:Ua),([]:Ua),([]:Ua),0#64,(0:Int),(0:Int),[],false,false,false,false,(0:Int),0#64,false,0#64,[],[],(0:Int),[],(0:Int),()),v16,decide (v16=2),())))).bind λ(j17:Int×Int×(Ji×Unit)×(Int×Ua×Ua×Ua×Ub×Int×Int×List Ua×Bool×Bool×Bool×Bool×Int×Ub×Bool×Ub×Ua×Ua×Int×Ua×Int×Unit)×(Jd×Unit)×Ub×Ub×Ua×Ua×(Int×Ua×Ua×Ua×Ub×Int×Int×List Ua×Bool×Bool×Bool×Bool×Int×Ub×Bool×Ub×Ua×Ua×Int×Ua×Int×Unit)×Int×Bool×Unit)=>cond j17.2.2.2.2.2.2.2.2.2.2.2.1 ((Zii j17.2.1).bind λr18=>(Zgi (Qe j17.2.1 (2^min 2 (Qa .i64)))).bind λr19=>(Zgh (Qe j17.2.1 (2^min 4 (Qa .i64)))).bind λr20=>(Zgj j17.2.1).bind λr21=>let v22:=Qb .i64 ((Qc (Qa .i64) (Qe j17.2.1 (2^min 5 (Qa .i64)))&&&Qc (Qa .i64) 1).toNat:Int);let v23:=Qd (Qe j17.2.1 (2^min 6 (Qa .i64))) 3;let v24:=Qb .i64 ((Qc (Qa .i64) (Qe j17.2.1 (2^min 8 (Qa .i64)))&&&Qc (Qa .i64) 1).toNat:Int);let v25:=Qb .i64 ((Qc (Qa .i64) (Qe j17.2.1 (2^min 9 (Qa .i64)))&&&Qc (Qa .i64) 3).toNat:Int);let v26:=Qd (Qe j17.2.1 (2^min 11 (Qa .i64))) 3;cond (decide (v24=1)) (let v27:=Qb .i64 ((Qc (Qa .i64) (Qe j17.2.1 (2^min 13 (Qa .i64)))&&&Qc (Qa .i64) 1).toNat:Int);let v28:=Qb .i64 ((Qc (Qa .i64) (Qe j17.2.1 (2^min 3 (Qa .i64)))&&&Qc (Qa .i64) 7).toNat:Int);cond (decide (v28=7)) ((Zcy j17.2.2.1.1 (Qe j17.1 (2^min 8 (Qa .i64)))).bind λr29=>(Zcy j17.2.2.1.1 (Qe j17.1 (2^min 9 (Qa .i64)))).bind λr30=>some (j17.1,j17.2.1,j17.2.2.2.1,(j17.2.2.2.2.1.1,()),((⟨2,r18.2.1,r19.2.1,r20.2.1,r21.2.1,Qb .i64 (1+v22),Qb .i64 (1+v23),[r29.2.1,r30.2.1],decide (v24=1),false,decide (v25=3),decide (v27=1),v26,0#64,false,0#64,[],[],0,[],0⟩:Jb),()),())) (some (j17.1,j17.2.1,j17.2.2.2.1,(j17.2.2.2.2.1.1,()),((⟨2,r18.2.1,r19.2.1,r20.2.1,r21.2.1,Qb .i64 (1+v22),Qb .i64 (1+v23),[],decide (v24=1),false,decide (v25=3),decide (v27=1),v26,0#64,false,0#64,[],[],0,[],0⟩:Jb),()),()))) (let v31:=Qb .i64 ((Qc (Qa .i64) (Qe j17.2.1 (2^min 3 (Qa .i64)))&&&Qc (Qa .i64) 7).toNat:Int);cond (decide (v31=7)) ((Zcy j17.2.2.1.1 (Qe j17.1 (2^min 8 (Qa .i64)))).bind λr32=>(Zcy j17.2.2.1.1 (Qe j17.1 (2^min 9 (Qa .i64)))).bind λr33=>some (j17.1,j17.2.1,j17.2.2.2.1,(j17.2.2.2.2.1.1,()),((⟨2,r18.2.1,r19.2.1,r20.2.1,r21.2.1,Qb .i64 (1+v22),Qb .i64 (1+v23),[r32.2.1,r33.2.1],decide (v24=1),false,decide (v25=3),false,v26,0#64,false,0#64,[],[],0,[],0⟩:Jb),()),())) (some (j17.1,j17.2.1,j17.2.2.2.1,(j17.2.2.2.2.1.1,()),((⟨2,r18.2.1,r19.2.1,r20.2.1,r21.2.1,Qb .i64 (1+v22),Qb .i64 (1+v23),[],decide (v24=1),false,decide (v25=3),false,v26,0#64,false,0#64,[],[],0,[],0⟩:Jb),()),())))) ((cond (decide (j17.2.2.2.2.2.2.2.2.2.2.1=3)) (some (j17.1,j17.2.1,(j17.2.2.1.1,()),j17.2.2.2.1,(j17.2.2.2.2.1.1,()),j17.2.2.2.2.2.1,j17.2.2.2.2.2.2.1,j17.2.2.2.2.2.2.2.1,j17.2.2.2.2.2.2.2.2.1,j17.2.2.2.2.2.2.2.2.2.1,j17.2.2.2.2.2.2.2.2.2.2.1,decide (j17.2.2.2.2.2.2.2.2.2.2.1=3),())) (cond (decide (j17.2.2.2.2.2.2.2.2.2.2.1=4)) (some (j17.1,j17.2.1,(j17.2.2.1.1,()),j17.2.2.2.1,(j17.2.2.2.2.1.1,()),j17.2.2.2.2.2.1,j17.2.2.2.2.2.2.1,j17.2.2.2.2.2.2.2.1,j17.2.2.2.2.2.2.2.2.1,j17.2.2.2.2.2.2.2.2.2.1,j17.2.2.2.2.2.2.2.2.2.2.1,decide (j17.2.2.2.2.2.2.2.2.2.2.1=4),())) (some (j17.1,j17.2.1,(j17.2.2.1.1,()),j17.2.2.2.1,(j17.2.2.2.2.1.1,()),j17.2.2.2.2.2.1,j17.2.2.2.2.2.2.1,j17.2.2.2.2.2.2.2.1,j17.2.2.2.2.2.2.2.2.1,j17.2.2.2.2.2.2.2.2.2.1,j17.2.2.2.2.2.2.2.2.2.2.1,decide (j17.2.2.2.2.2.2.2.2.2.2.1=5),())))).bind λj34=>cond j34.2.2.2.2.2.2.2.2.2.2.2.1 ((Zii j34.2.1).bind λr35=>(Zgj j34.2.1).bind λr36=>let v37:=Qb .i64 ((Qc (Qa .i64) (Qe j34.2.1 (2^min 3 (Qa .i64)))&&&Qc (Qa .i64) 3).toNat:Int);let v38:=Qb .i64 ((Qc (Qa .i64) (Qe j34.2.1 (2^min 5 (Qa .i64)))&&&Qc (Qa .i64) 3).toNat:Int);(Zcz_L1 (j34.1,j34.2.1,(j34.2.2.1.1,()),j34.2.2.2.1,(j34.2.2.2.2.1.1,()),(3,r35.2.1,[],[],r36.2.1,0,0,[],false,!(decide (v37=3)),decide (v38=3),false,0,0#64,false,0#64,[],[],0,[],0,()),0,())).bind λz39=>some (z39.1,z39.2.1,z39.2.2.1,(z39.2.2.2.1.1,()),((⟨z39.2.2.2.2.1.1,z39.2.2.2.2.1.2.1,z39.2.2.2.2.1.2.2.1,z39.2.2.2.2.1.2.2.2.1,z39.2.2.2.2.1.2.2.2.2.1,z39.2.2.2.2.1.2.2.2.2.2.1,z39.2.2.2.2.1.2.2.2.2.2.2.1,z39.2.2.2.2.1.2.2.2.2.2.2.2.1,z39.2.2.2.2.1.2.2.2.2.2.2.2.2.1,z39.2.2.2.2.1.2.2.2.2.2.2.2.2.2.1,z39.2.2.2.2.1.2.2.2.2.2.2.2.2.2.2.1,z39.2.2.2.2.1.2.2.2.2.2.2.2.2.2.2.2.1,z39.2.2.2.2.1.2.2.2.2.2.2.2.2.2.2.2.2.1,z39.2.2.2.2.1.2.2.2.2.2.2.2.2.2.2.2.2.2.1,z39.2.2.2.2.1.2.2.2.2.2.2.2.2.2.2.2.2.2.2.1,z39.2.2.2.2.1.2.2.2.2.2.2.2.2.2.2.2.2.2.2.2.1,z39.2.2.2.2.1.2.2.2.2.2.2.2.2.2.2.2.2.2.2.2.2.1,z39.2.2.2.2.1.2.2.2.2.2.2.2.2.2.2.2.2.2.2.2.2.2.1,z39.2.2.2.2.1.2.2.2.2.2.2.2.2.2.2.2.2.2.2.2.2.2.2.1,z39.2.2.2.2.1.2.2.2.2.2.2.2.2.2.2.2.2.2.2.2.2.2.2.2.1,z39.2.2.2.2.1.2.2.2.2.2.2.2.2.2.2.2.2.2.2.2.2.2.2.2.2.1⟩:Jb),()),())) (cond (decide (j34.2.2.2.2.2.2.2.2.2.2.1=6)) (some (j34.1,j34.2.1,j34.2.2.2.1,(j34.2.2.2.2.1.1,()),(({kind:=4}:Jb),()),())) (cond (decide (j34.2.2.2.2.2.2.2.2.2.2.1=7)) (some (j34.1,j34.2.1,j34.2.2.2.1,(j34.2.2.2.2.1.1,()),(({kind:=7,jv:=j34.2.2.2.2.2.2.1,box:=j34.2.2.2.2.2.2.2.2.1}:Jb),()),())) ((cond (decide (j34.2.2.2.2.2.2.2.2.2.2.1=8)) (some (j34.1,j34.2.1,(j34.2.2.1.1,()),j34.2.2.2.1,(j34.2.2.2.2.1.1,()),j34.2.2.2.2.2.1,j34.2.2.2.2.2.2.1,j34.2.2.2.2.2.2.2.1,j34.2.2.2.2.2.2.2.2.1,j34.2.2.2.2.2.2.2.2.2.1,j34.2.2.2.2.2.2.2.2.2.2.1,decide (j34.2.2.2.2.2.2.2.2.2.2.1=8),())) (some (j34.1,j34.2.1,(j34.2.2.1.1,()),j34.2.2.2.1,(j34.2.2.2.2.1.1,()),j34.2.2.2.2.2.1,j34.2.2.2.2.2.2.1,j34.2.2.2.2.2.2.2.1,j34.2.2.2.2.2.2.2.2.1,j34.2.2.2.2.2.2.2.2.2.1,j34.2.2.2.2.2.2.2.2.2.2.1,decide (j34.2.2.2.2.2.2.2.2.2.2.1=9),()))).bind λj40=>cond j40.2.2.2.2.2.2.2.2.2.2.2.1 (let v41:=Qd (Qe j40.2.1 (2^min 8 (Qa .i64))) 7;(Zii (Qe j40.2.1 (2^min 1 (Qa .i64)))).bind λr42=>let v43:=Qb .i64 ((Qc (Qa .i64) (Qe j40.2.1 (2^min 2 (Qa .i64)))&&&Qc (Qa .i64) 1).toNat:Int);cond (decide (0<=v43)&&decide (v43<2)) (([[],r42.2.1]:List Ua)[v43.toNat]?.bind λx44=>some (j40.1,j40.2.1,j40.2.2.2.1,(j40.2.2.2.2.1.1,()),(({kind:=9,rP:=x44,jv:=j40.2.2.2.2.2.2.1,proof:=j40.2.2.2.2.2.2.2.1,jb:=Qb .i64 (1+v41)}:Jb),()),())) none) (cond (decide (j40.2.2.2.2.2.2.2.2.2.2.1=10)) (some (j40.1,j40.2.1,j40.2.2.2.1,(j40.2.2.2.2.1.1,()),(({kind:=8,jv:=j40.2.2.2.2.2.2.1,box:=j40.2.2.2.2.2.2.2.2.1,proof:=j40.2.2.2.2.2.2.2.1}:Jb),()),())) (cond (decide (j40.2.2.2.2.2.2.2.2.2.2.1=11)) (let v45:=Qb .i64 ((Qc (Qa .i64) j40.2.1&&&Qc (Qa .i64) 3).toNat:Int);cond (decide (0<=v45)&&decide (v45<4)) (([1,5,6,10]:List Int)[v45.toNat]?.bind λx46=>some (j40.1,j40.2.1,j40.2.2.2.1,(j40.2.2.2.2.1.1,()),(({kind:=x46}:Jb),()),())) none) (cond (decide (j40.2.2.2.2.2.2.2.2.2.2.1=12)) (some (j40.1,j40.2.1,j40.2.2.2.1,(j40.2.2.2.2.1.1,()),(({kind:=11}:Jb),()),())) (cond (decide (j40.2.2.2.2.2.2.2.2.2.2.1=13)) ((Zcy j40.2.2.1.1 j40.2.1).bind λr47=>some (j40.1,j40.2.1,j40.2.2.2.1,(j40.2.2.2.2.1.1,()),(({kind:=12,iD:=r47.2.1}:Jb),()),())) (cond (decide (j40.2.2.2.2.2.2.2.2.2.2.1=14)) ((Zcy j40.2.2.1.1 j40.2.1).bind λr48=>let v49:=Qb .i64 ((Qc (Qa .i64) (Qe j40.2.1 (2^min 5 (Qa .i64)))&&&Qc (Qa .i64) 3).toNat:Int);some (j40.1,j40.2.1,j40.2.2.2.1,(j40.2.2.2.2.1.1,()),(({kind:=13,jv:=j40.2.2.2.2.2.2.1,iD:=r48.2.1,count:=v49}:Jb),()),())) (cond (decide (j40.2.2.2.2.2.2.2.2.2.2.1=15)) (let v50:=Qb .i64 ((Qc (Qa .i64) j40.2.1|||Qc (Qa .i64) 896).toNat:Int);(Zbg v50).bind λr51=>let v52:=Qb .i64 ((Qc (Qa .i64) j40.2.1&&&Qc (Qa .i64) 1).toNat:Int);let v53:=Qb .i64 ((Qc (Qa .i64) (Qe j40.2.1 (2^min 1 (Qa .i64)))&&&Qc (Qa .i64) 1).toNat:Int);(Zap r51.2.1 v52 (Qb .i64 (1+v53))).bind λr54=>(Zha j40.2.2.2.2.2.1 (Qc 64 j40.2.1) [] r54.2.1).bind λr55=>some (j40.1,j40.2.1,j40.2.2.2.1,(j40.2.2.2.2.1.1,()),(({kind:=14,jv:=j40.2.2.2.2.2.2.1,box:=r55.2.1}:Jb),()),())) (some (j40.1,j40.2.1,j40.2.2.2.1,(j40.2.2.2.2.1.1,()),((⟨j40.2.2.2.2.2.2.2.2.2.1.1,j40.2.2.2.2.2.2.2.2.2.1.2.1,j40.2.2.2.2.2.2.2.2.2.1.2.2.1,j40.2.2.2.2.2.2.2.2.2.1.2.2.2.1,j40.2.2.2.2.2.2.2.2.2.1.2.2.2.2.1,j40.2.2.2.2.2.2.2.2.2.1.2.2.2.2.2.1,j40.2.2.2.2.2.2.2.2.2.1.2.2.2.2.2.2.1,j40.2.2.2.2.2.2.2.2.2.1.2.2.2.2.2.2.2.1,j40.2.2.2.2.2.2.2.2.2.1.2.2.2.2.2.2.2.2.1,j40.2.2.2.2.2.2.2.2.2.1.2.2.2.2.2.2.2.2.2.1,j40.2.2.2.2.2.2.2.2.2.1.2.2.2.2.2.2.2.2.2.2.1,j40.2.2.2.2.2.2.2.2.2.1.2.2.2.2.2.2.2.2.2.2.2.1,j40.2.2.2.2.2.2.2.2.2.1.2.2.2.2.2.2.2.2.2.2.2.2.1,j40.2.2.2.2.2.2.2.2.2.1.2.2.2.2.2.2.2.2.2.2.2.2.2.1,j40.2.2.2.2.2.2.2.2.2.1.2.2.2.2.2.2.2.2.2.2.2.2.2.2.1,j40.2.2.2.2.2.2.2.2.2.1.2.2.2.2.2.2.2.2.2.2.2.2.2.2.2.1,j40.2.2.2.2.2.2.2.2.2.1.2.2.2.2.2.2.2.2.2.2.2.2.2.2.2.2.1,j40.2.2.2.2.2.2.2.2.2.1.2.2.2.2.2.2.2.2.2.2.2.2.2.2.2.2.2.1,j40.2.2.2.2.2.2.2.2.2.1.2.2.2.2.2.2.2.2.2.2.2.2.2.2.2.2.2.2.1,j40.2.2.2.2.2.2.2.2.2.1.2.2.2.2.2.2.2.2.2.2.2.2.2.2.2.2.2.2.2.1,j40.2.2.2.2.2.2.2.2.2.1.2.2.2.2.2.2.2.2.2.2.2.2.2.2.2.2.2.2.2.2.1⟩:Jb),()),()))))))))))))).bind λj56=>(let v57:=Qb .i64 ((Qc (Qa .i64) j56.1&&&Qc (Qa .i64) 15).toNat:Int);cond (decide (12<=v57)) ((Zbt j56.2.2.2.1.1 j56.2.2.2.2.1.1).bind λr58=>some (j56.1,j56.2.1,j56.2.2.1,(r58.2.1.kind,r58.2.1.rP,r58.2.1.user,r58.2.1.name,r58.2.1.jx,r58.2.1.jc,r58.2.1.jd,r58.2.1.list,r58.2.1.je,r58.2.1.jq,r58.2.1.jt,r58.2.1.jm,r58.2.1.jk,r58.2.1.auth,r58.2.1.jj,r58.2.1.jv,r58.2.1.box,r58.2.1.proof,r58.2.1.jb,r58.2.1.iD,r58.2.1.count,()),())) (let v59:=Qb .i64 ((Qc (Qa .i64) (Qe j56.1 (2^min 4 (Qa .i64)))&&&Qc (Qa .i64) 1).toNat:Int);cond (decide (v59=1)) (let v60:=Qb .i64 ((Qc (Qa .i64) j56.1&&&Qc (Qa .i64) 15).toNat:Int);cond (decide (v60<6)) ((Zbt j56.2.2.2.1.1 j56.2.2.2.2.1.1).bind λr61=>some (j56.1,j56.2.1,j56.2.2.1,(r61.2.1.kind,r61.2.1.rP,r61.2.1.user,r61.2.1.name,r61.2.1.jx,r61.2.1.jc,r61.2.1.jd,r61.2.1.list,r61.2.1.je,r61.2.1.jq,r61.2.1.jt,r61.2.1.jm,r61.2.1.jk,r61.2.1.auth,r61.2.1.jj,r61.2.1.jv,r61.2.1.box,r61.2.1.proof,r61.2.1.jb,r61.2.1.iD,r61.2.1.count,()),())) (some (j56.1,j56.2.1,j56.2.2.1,(j56.2.2.2.2.1.1.kind,j56.2.2.2.2.1.1.rP,j56.2.2.2.2.1.1.user,j56.2.2.2.2.1.1.name,j56.2.2.2.2.1.1.jx,j56.2.2.2.2.1.1.jc,j56.2.2.2.2.1.1.jd,j56.2.2.2.2.1.1.list,j56.2.2.2.2.1.1.je,j56.2.2.2.2.1.1.jq,j56.2.2.2.2.1.1.jt,j56.2.2.2.2.1.1.jm,j56.2.2.2.2.1.1.jk,j56.2.2.2.2.1.1.auth,j56.2.2.2.2.1.1.jj,j56.2.2.2.2.1.1.jv,j56.2.2.2.2.1.1.box,j56.2.2.2.2.1.1.proof,j56.2.2.2.2.1.1.jb,j56.2.2.2.2.1.1.iD,j56.2.2.2.2.1.1.count,()),()))) (some (j56.1,j56.2.1,j56.2.2.1,(j56.2.2.2.2.1.1.kind,j56.2.2.2.2.1.1.rP,j56.2.2.2.2.1.1.user,j56.2.2.2.2.1.1.name,j56.2.2.2.2.1.1.jx,j56.2.2.2.2.1.1.jc,j56.2.2.2.2.1.1.jd,j56.2.2.2.2.1.1.list,j56.2.2.2.2.1.1.je,j56.2.2.2.2.1.1.jq,j56.2.2.2.2.1.1.jt,j56.2.2.2.2.1.1.jm,j56.2.2.2.2.1.1.jk,j56.2.2.2.2.1.1.auth,j56.2.2.2.2.1.1.jj,j56.2.2.2.2.1.1.jv,j56.2.2.2.2.1.1.box,j56.2.2.2.2.1.1.proof,j56.2.2.2.2.1.1.jb,j56.2.2.2.2.1.1.iD,j56.2.2.2.2.1.1.count,()),())))).bind λj62=>(let v63:=Qb .i64 ((Qc (Qa .i64) (Qe j62.1 (2^min 10 (Qa .i64)))&&&Qc (Qa .i64) 15).toNat:Int);cond (decide (v63=15)) ((Zfc ⟨j62.2.2.2.1.1,j62.2.2.2.1.2.1,j62.2.2.2.1.2.2.1,j62.2.2.2.1.2.2.2.1,j62.2.2.2.1.2.2.2.2.1,j62.2.2.2.1.2.2.2.2.2.1,j62.2.2.2.1.2.2.2.2.2.2.1,j62.2.2.2.1.2.2.2.2.2.2.2.1,j62.2.2.2.1.2.2.2.2.2.2.2.2.1,j62.2.2.2.1.2.2.2.2.2.2.2.2.2.1,j62.2.2.2.1.2.2.2.2.2.2.2.2.2.2.1,j62.2.2.2.1.2.2.2.2.2.2.2.2.2.2.2.1,j62.2.2.2.1.2.2.2.2.2.2.2.2.2.2.2.2.1,j62.2.2.2.1.2.2.2.2.2.2.2.2.2.2.2.2.2.1,j62.2.2.2.1.2.2.2.2.2.2.2.2.2.2.2.2.2.2.1,j62.2.2.2.1.2.2.2.2.2.2.2.2.2.2.2.2.2.2.2.1,j62.2.2.2.1.2.2.2.2.2.2.2.2.2.2.2.2.2.2.2.2.1,j62.2.2.2.1.2.2.2.2.2.2.2.2.2.2.2.2.2.2.2.2.2.1,j62.2.2.2.1.2.2.2.2.2.2.2.2.2.2.2.2.2.2.2.2.2.2.1,j62.2.2.2.1.2.2.2.2.2.2.2.2.2.2.2.2.2.2.2.2.2.2.2.1,j62.2.2.2.1.2.2.2.2.2.2.2.2.2.2.2.2.2.2.2.2.2.2.2.2.1⟩ j62.2.1).bind λr64=>some (j62.2.2.1,(r64.2.1.kind,r64.2.1.rP,r64.2.1.user,r64.2.1.name,r64.2.1.jx,r64.2.1.jc,r64.2.1.jd,r64.2.1.list,r64.2.1.je,r64.2.1.jq,r64.2.1.jt,r64.2.1.jm,r64.2.1.jk,r64.2.1.auth,r64.2.1.jj,r64.2.1.jv,r64.2.1.box,r64.2.1.proof,r64.2.1.jb,r64.2.1.iD,r64.2.1.count,()),())) (some (j62.2.2.1,j62.2.2.2.1,()))).bind λj65=>rt ⟨j65.2.1.1,j65.2.1.2.1,j65.2.1.2.2.1,j65.2.1.2.2.2.1,j65.2.1.2.2.2.2.1,j65.2.1.2.2.2.2.2.1,j65.2.1.2.2.2.2.2.2.1,j65.2.1.2.2.2.2.2.2.2.1,j65.2.1.2.2.2.2.2.2.2.2.1,j65.2.1.2.2.2.2.2.2.2.2.2.1,j65.2.1.2.2.2.2.2.2.2.2.2.2.1,j65.2.1.2.2.2.2.2.2.2.2.2.2.2.1,j65.2.1.2.2.2.2.2.2.2.2.2.2.2.2.1,j65.2.1.2.2.2.2.2.2.2.2.2.2.2.2.2.1,j65.2.1.2.2.2.2.2.2.2.2.2.2.2.2.2.2.1,j65.2.1.2.2.2.2.2.2.2.2.2.2.2.2.2.2.2.1,j65.2.1.2.2.2.2.2.2.2.2.2.2.2.2.2.2.2.2.1,j65.2.1.2.2.2.2.2.2.2.2.2.2.2.2.2.2.2.2.2.1,j65.2.1.2.2.2.2.2.2.2.2.2.2.2.2.2.2.2.2.2.2.1,j65.2.1.2.2.2.2.2.2.2.2.2.2.2.2.2.2.2.2.2.2.2.1,j65.2.1.2.2.2.2.2.2.2.2.2.2.2.2.2.2.2.2.2.2.2.2.1⟩) none
def c223:=cf c222 19 [(.f qab),qc,qc] [qh] (u3 Zcz)
def s_Zcz_L1:LSpec T:=⟨[(1,qc),(2,qc),(3,qat),(6,qb),(7,qe),(13,qb),(14,qc)],[(.exit 1,[(1,qc),(2,qc),(6,qb),(7,qe),(13,qb)])],Zcz_L1,[]⟩
def A_Zcz:Loc2 T:=lcA [(1,s_Zcz_L1)] [(11,[(1,qc),(2,qc),(3,qat),(6,qb),(7,qe),(8,qd),(9,qd),(10,qah),(11,qah),(13,qb),(56,qc),(57,qs)],true),(18,[(1,qc),(2,qc),(3,qat),(6,qb),(7,qe),(8,qd),(9,qd),(10,qah),(11,qah),(13,qb),(56,qc),(114,qs)],true),(29,[(1,qc),(2,qc),(3,qat),(6,qb),(7,qe),(8,qd),(9,qd),(10,qah),(11,qah),(13,qb),(56,qc),(159,qs)],true),(45,[(1,qc),(2,qc),(6,qb),(7,qe),(13,qz)],true),(47,[(1,qc),(2,qc),(6,qb),(13,qaj)],true),(49,[(6,qb),(13,qaj)],true)]
theorem Vsm:LO c223 Tryz.f19 1 s_Zcz_L1:=lx o222 A_Zcz dn (λ_=>rfl)
theorem o223:EO c223:=sx o222 A_Zcz Tryz.func19 (dc rfl Vsm dn)
def Zcf(a0 a1:Int):O1 Jb:=
 let v1:=Qb .i64 ((Qc (Qa .i64) (Qe a0 (2^min 12 (Qa .i64)))&&&Qc (Qa .i64) 255).toNat:Int);(Zgg v1 5).bind λr2=>let v3:=Qb .i64 ((Qc (Qa .i64) a0&&&Qc (Qa .i64) 1023).toNat:Int);let v4:=Qb .i64 ((Qc (Qa .i64) a1&&&Qc (Qa .i64) 1048575).toNat:Int);(Zcz r2.2.1 v3 v4).bind λr5=>let v6:=Qb .i64 ((Qc (Qa .i64) (Qe a0 (2^min 20 (Qa .i64)))&&&Qc (Qa .i64) 3).toNat:Int);cond (decide (v6=0)) (let v7:=Qb .i64 ((Qc (Qa .i64) (Qe a1 (2^min 3 (Qa .i64)))&&&Qc (Qa .i64) 1048575).toNat:Int);(Zfc r5.2.1 v7).bind λr8=>rt r8.2.1) (rt r5.2.1)
def c224:=cf c223 7 [qc,qc] [qh] (u2 Zcf)
theorem o224:EO c224:=sz o223 Tryz.func7
def cbor_Skip_L0b(y0:List Ja)(y1 y2:Int):Option (((List (Ja))×Int×Int×Unit)⊕((Int×Bool×Unit)⊕(Int×Unit))):=
 cond (decide (0<y2)) (cond (decide (y0.length<=y1)) (some (Qf (Qg (0,false,())))) ((getI y0 y1).bind λx1=>cond (!(decide (x1.kind=5))) (cond (!(decide (x1.kind=6))) (some (Qg (y0,Qb .i64 (y1+1),Qb .i64 (y2-1),()))) (cond (decide ((512#64).toNat<x1.number.toNat)) (some (Qf (Qg (0,false,())))) (let v2:=Qb .i64 (Qb .i64 (y2-1)+Qb .i64 (x1.number.toNat:Int));cond (decide (x1.kind=6)) (let v3:=Qb .i64 (v2+Qb .i64 (x1.number.toNat:Int));some (Qg (y0,Qb .i64 (y1+1),v3,()))) (some (Qg (y0,Qb .i64 (y1+1),v2,())))))) (cond (decide ((512#64).toNat<x1.number.toNat)) (some (Qf (Qg (0,false,())))) (let v4:=Qb .i64 (Qb .i64 (y2-1)+Qb .i64 (x1.number.toNat:Int));cond (decide (x1.kind=6)) (let v5:=Qb .i64 (v4+Qb .i64 (x1.number.toNat:Int));some (Qg (y0,Qb .i64 (y1+1),v5,()))) (some (Qg (y0,Qb .i64 (y1+1),v4,()))))))) (some (Qf (Qf (y1,()))))
def cbor_Skip_L0:=Yi3 cbor_Skip_L0b
def cbor_Skip(a0:List Ja)(a1:Int):O2 Int Bool:=
 cond (decide (a1<0)) (ru 0 false) (cond (decide (a0.length<=a1)) (ru 0 false) ((cbor_Skip_L0 (a0,a1,1,())).bind (Ql (λz6=>ru z6.1 z6.2.1) (λz7=>ru z7.1 true))))
def S_cbor_Skip:FSpec T:=⟨[qm,qc],[qa,qf],λx=>cbor_Skip x.1 x.2.1⟩
def s_cbor_Skip_L0:LSpec T:=⟨[(0,qm),(4,qc),(6,qc)],[(.ret,[(4,qc),(5,qs)]),(.exit 0,[(4,qc)])],cbor_Skip_L0,[]⟩
def A_cbor_Skip:Loc2 T:=lcA [(0,s_cbor_Skip_L0)] []
theorem Vhd:LoopOk Tryz.prog (mE c224) Tryz.f121.ntmps (kqOf S_cbor_Skip.ps 0) (loopAt 0 (bodyOf Tryz.f121)) s_cbor_Skip_L0:=
 lpC hmix o224 A_cbor_Skip Vag 0 (st:=λy=>cbor_Skip_L0b y.1 y.2.1 y.2.2.1) (λ_=>rfl) (by kernel_rfl) (by kernel_rfl) λx=>by kernel_rfl
theorem Vgq:SoundT Tryz.prog cd gdn 121 S_cbor_Skip:=
 sndC hmix o224 A_cbor_Skip Tryz.func121 (Vbx rfl Vhd Vag) (by kernel_rfl) (by kernel_rfl) λx=>by kernel_rfl
def c225:List (Ct T):=⟨121,none,S_cbor_Skip,true⟩::c224
theorem o225:EnvOk Tryz.prog (mE c225):=eCons Vgq o224
def c226:List (Ct T):=⟨167,none,S_Zir,false⟩::c225
theorem o226:EnvOk Tryz.prog (mE c226):=eCons Vbta o225
def Ziv_L0b(y0:List Ja)(y1:Ub)(y2:Int)(y3 y4:Ub):Option (((List (Ja))×Ub×Int×Ub×Ub×Unit)⊕(((List (Ja))×Bool×Unit)⊕(Unit))):=
 cond (decide (y4.toNat<y3.toNat)) ((cbor_Skip y0 (Qb .i64 (y2+1))).bind λr4=>cond (!r4.2.2.1) (some (Qf (Qg ([],false,())))) ((getI y0 y2).bind λx5=>cond (decide (x5.kind=1)) ((getI y0 y2).bind λx6=>cond (decide (x6.number=y1)) (cond (decide (0<=r4.2.1)&&decide (r4.2.1<=y0.length)) (cond (decide (0<=Qb .i64 (y2+1))&&decide (Qb .i64 (y2+1)<=r4.2.1.toNat)) (let v7:=Qi (Qb .i64 (y2+1)).toNat (Qj r4.2.1.toNat y0);(Zir v7).bind λr8=>some (Qf (Qg (r8.2.1,true,())))) none) none) (some (Qg (y0,y1,r4.2.1,y3,y4+1#64,())))) (some (Qg (y0,y1,r4.2.1,y3,y4+1#64,()))))) (some (Qf (Qf ())))
def Ziv_L0:=Yi5 Ziv_L0b
def Ziv(a0:List Ja)(a1:Ub):O2 (List Ja) Bool:=
 (Zik a0).bind λr1=>cond (!(decide (r1.2.1=0))) (ru [] false) ((getI a0 (0:Int)).bind λx2=>cond (!(decide (x2.kind=6))) (ru [] false) ((getI a0 (0:Int)).bind λx3=>(Ziv_L0 (a0,a1,1,x3.number,0#64,())).bind (Ql (λz9=>ru z9.1 z9.2.1) (λz10=>ru [] false))))
def S_Ziv:FSpec T:=⟨[qm,qd],[qae,qf],λx=>Ziv x.1 x.2.1⟩
def E_Ziv:Env T:=⟨tab.find,cd,globs,flc,λf ds=>match f with
  |113=>some S_Zik
  |121=>some S_cbor_Skip
  |167=>some S_Zir
  |_=>none,λf=>match f with
  |113=>true
  |121=>true
  |_=>false⟩
def A_Ziv:Loc2 T:=⟨λid=>match id with
  |0=>some ⟨[(0,.f (.v (.rs 1))),(1,.f (.v .u64)),(6,.f (.v (.int .i64))),(22,.f (.v .u64)),(23,.f (.v .u64))],[(.ret,[(4,.f (.own 1)),(5,.f (.v .bool))]),(.exit 0,[])],Ziv_L0,[]⟩
  |_=>none,λr=>match r with
  |_=>none⟩
theorem Vsn(y0:(List (Ja)))(y1:Ub)(y2:Int)(y3:Ub)(y4:Ub):run E_Ziv A_Ziv (loopAt 0 (Tryz.f120.body.getD .skip)) (layC cd [(0,.f (.v (.rs 1))),(1,.f (.v .u64)),(6,.f (.v (.int .i64))),(22,.f (.v .u64)),(23,.f (.v .u64))] [] (y0,y1,y2,y3,y4,())) (roundK cd [(0,.f (.v (.rs 1))),(1,.f (.v .u64)),(6,.f (.v (.int .i64))),(22,.f (.v .u64)),(23,.f (.v .u64))] [] [(.ret,[(4,.f (.own 1)),(5,.f (.v .bool))]),(.exit 0,[])])=Ziv_L0b y0 y1 y2 y3 y4:=by kernel_rfl
theorem Vgea(x:tySs T S_Ziv.ps):run E_Ziv A_Ziv (Tryz.f120.body.getD .skip) (enterT E_Ziv.C S_Ziv.ps x) (retK E_Ziv Tryz.f120.results.toList S_Ziv.ps S_Ziv.rs)=S_Ziv.fn x:=by kernel_rfl
theorem Vso:EnvOk Tryz.prog E_Ziv:=envOk (E:=E_Ziv) cd_ok tys fl_ok λf ds S h=>by
  dsimp only[E_Ziv]at h;split at h
  ·cases h;exact Vbua
  ·cases h;exact Vgq
  ·cases h;exact Vbta
  ·cases h
theorem Vsp:LoopOk Tryz.prog E_Ziv Tryz.f120.ntmps (kqOf S_Ziv.ps 0) (loopAt 0 (Tryz.f120.body.getD .skip)) ⟨[(0,.f (.v (.rs 1))),(1,.f (.v .u64)),(6,.f (.v (.int .i64))),(22,.f (.v .u64)),(23,.f (.v .u64))],[(.ret,[(4,.f (.own 1)),(5,.f (.v .bool))]),(.exit 0,[])],Ziv_L0,[]⟩:=
 Vic (A:=A_Ziv) (done:=[]) (c0:=(Tryz.f120.body.getD .skip)) hmix Vso Vag rounds (by kernel_rfl) (by kernel_rfl) (λx=>Vsn x.1 x.2.1 x.2.2.1 x.2.2.2.1 x.2.2.2.2.1) (λ_=>rfl)
theorem Vgfa:SoundT Tryz.prog cd gdn 120 S_Ziv:=
 Vc2 (E:=E_Ziv) (A:=A_Ziv) (done:=[0]) (c:=(Tryz.f120.body.getD .skip)) (S:=S_Ziv) (fn:=Tryz.f120) hmix Vso Tryz.func120 rfl (by kernel_rfl) (by kernel_rfl) (Vbx rfl Vsp Vag) (by kernel_rfl) (by kernel_rfl) Vgea
def c227:List (Ct T):=⟨120,none,S_Ziv,false⟩::c226
theorem o227:EnvOk Tryz.prog (mE c227):=eCons Vgfa o226
def Zct(a0:List Ja)(a1:Ub):O1 Ja:=
 (Ziv a0 a1).bind λr1=>cond (!r1.2.2.1) (some ((),{},())) (cond (decide ((r1.2.1.length:Int)=0)) (some ((),{},())) (cond (decide (0<(r1.2.1.length:Int))) (r1.2.1[0]?.bind λx2=>rt x2) none))
def c228:=ct c227 119 [qm,qd] [qv] (u2 Zct)
theorem o228:EO c228:=sz o227 Tryz.func119
def Zcv(a0:List Ja)(a1:Ub):O1 Ua:=
 (Zct a0 a1).bind λr1=>rt r1.2.1.data
def c229:=ct c228 76 [qm,qd] [qt] (u2 Zcv)
theorem o229:EO c229:=sz o228 Tryz.func76
def Zcw(a0:List Ja)(a1:Ub):O1 Ub:=
 (Zct a0 a1).bind λr1=>rt r1.2.1.number
def c230:=ct c229 77 [qm,qd] [qr] (u2 Zcw)
theorem o230:EO c230:=sz o229 Tryz.func77
def Zbr(a0:List Ja)(a1:Ub):O1 Int:=
 (Zct a0 a1).bind λr1=>rt (Qb .i64 (r1.2.1.number.toNat:Int))
def c231:=ct c230 78 [qm,qd] [qa] (u2 Zbr)
theorem o231:EO c231:=sz o230 Tryz.func78
def Zat_L0b(y0:List Ja)(y1:List (List Ja))(y2:Int):Option (((List (Ja))×(List (List Ja))×Int×Unit)⊕((List (List Ja))×Unit)):=
 cond (decide (y2<y0.length)) ((cbor_Skip y0 y2).bind λr4=>cond (!r4.2.2.1) (some (Qf (y1,()))) (cond (decide (r4.2.1<=y2)) (some (Qf (y1,()))) (cond (decide (y0.length<r4.2.1)) (some (Qf (y1,()))) (cond (decide (0<=r4.2.1)&&decide (r4.2.1<=y0.length)) (cond (decide (0<=y2)&&decide (y2<=r4.2.1.toNat)) (let v5:List (List Ja):=[Qi y2.toNat (Qj r4.2.1.toNat y0)];cond (small (y1.length+(v5:List (List Ja)).length) 24) (some (Qg (y0,y1++v5,r4.2.1,()))) none) none) none)))) (some (Qf (y1,())))
def Zat_L0:=Yi3 Zat_L0b
def Zat(a0:List Ja)(a1:Ub):O1 (List (List Ja)):=
 (Ziv a0 a1).bind λr1=>cond (!r1.2.2.1) (rt []) ((Zat_L0 (r1.2.1,[],1,())).bind λz6=>rt z6.1)
def c232:=cf c231 86 [qm,qd] [(.own 6)] (u2 Zat)
def s_Zat_L0:LSpec T:=⟨[(5,qm),(7,qa5),(8,qc)],[(.exit 0,[(7,qa5)])],Zat_L0,[]⟩
def A_Zat:Loc2 T:=lcA [(0,s_Zat_L0)] []
theorem Vsq:LO c232 Tryz.f86 0 s_Zat_L0:=lx o231 A_Zat dn (λ_=>rfl)
theorem o232:EO c232:=sx o231 A_Zat Tryz.func86 (dc rfl Vsq dn)
def Zcu_L0b(y0:List Ua)(y1:List (List Ja))(y2 y3:Int):Option (((List Ua)×(List (List Ja))×Int×Int×Unit)⊕((List Ua)×Unit)):=
 cond (decide (y3<y2)) (cond (decide (0<=y3)&&decide (y3<y1.length)) (y1[y3.toNat]?.bind λx2=>(getI x2 (0:Int)).bind λx3=>cond (small (y0.length+([x3.data]).length) 24) (some (Qg (y0++[x3.data],y1,y2,Qb .i64 (y3+1),()))) none) none) (some (Qf (y0,())))
def Zcu_L0:=Yi4 Zcu_L0b
def Zcu(a0:List Ja)(a1:Ub):O1 (List Ua):=
 (Zat a0 a1).bind λr1=>(Zcu_L0 ([],r1.2.1,(r1.2.1.length:Int),0,())).bind λz4=>rt z4.1
def c233:=cf c232 79 [qm,qd] [(.own 2)] (u2 Zcu)
def s_Zcu_L0:LSpec T:=⟨[(5,qav),(10,qa5),(11,qc),(12,qc)],[(.exit 0,[(5,qav)])],Zcu_L0,[]⟩
def A_Zcu:Loc2 T:=lcA [(0,s_Zcu_L0)] []
theorem Vsr:LO c233 Tryz.f79 0 s_Zcu_L0:=lx o232 A_Zcu dn (λ_=>rfl)
theorem o233:EO c233:=sx o232 A_Zcu Tryz.func79 (dc rfl Vsr dn)
def Zcs(a0:List Ja)(a1:Ub):O1 Bool:=
 (Zct a0 a1).bind λr1=>rt (decide (r1.2.1.number=1#64))
def c234:=ct c233 80 [qm,qd] [qf] (u2 Zcs)
theorem o234:EO c234:=sz o233 Tryz.func80
def Zdt(a0:List Ja)(a1:Ub):O1 Bool:=
 (Ziv a0 a1).bind λr1=>rt r1.2.2.1
def c235:=ct c234 81 [qm,qd] [qf] (u2 Zdt)
theorem o235:EO c235:=sz o234 Tryz.func81
def Zcd(a0:List Ja)(a1:Ub):O1 Ua:=
 (Zct a0 a1).bind λr1=>rt r1.2.1.data
def c236:=cf c235 82 [qm,qd] [qk] (u2 Zcd)
theorem o236:EO c236:=sz o235 Tryz.func82
def Zhq(a0:Int)(a1:List Ja):O1 Jb:=
 (Zcv a1 1#64).bind λr1=>(Zcv a1 2#64).bind λr2=>(Zcv a1 3#64).bind λr3=>(Zcw a1 4#64).bind λr4=>(Zbr a1 5#64).bind λr5=>(Zbr a1 6#64).bind λr6=>(Zcu a1 7#64).bind λr7=>(Zcs a1 8#64).bind λr8=>(Zcs a1 9#64).bind λr9=>(Zcs a1 10#64).bind λr10=>(Zcs a1 11#64).bind λr11=>(Zbr a1 12#64).bind λr12=>(Zcw a1 13#64).bind λr13=>(Zdt a1 13#64).bind λr14=>(Zcw a1 14#64).bind λr15=>(Zcd a1 15#64).bind λr16=>(Zcd a1 16#64).bind λr17=>(Zbr a1 17#64).bind λr18=>(Zcd a1 18#64).bind λr19=>(Zbr a1 19#64).bind λr20=>rt ⟨a0,r1.2.1,r2.2.1,r3.2.1,r4.2.1,r5.2.1,r6.2.1,r7.2.1,r8.2.1,r9.2.1,r10.2.1,r11.2.1,r12.2.1,r13.2.1,r14.2.1,r15.2.1,r16.2.1,r17.2.1,r18.2.1,r19.2.1,r20.2.1⟩
def c237:=cf c236 33 [qc,qm] [qh] (u2 Zhq)
theorem o237:EO c237:=sz o236 Tryz.func33
def Zbo(a0:Ua):O2 Jb Int:=
 cond (decide ((a0.length:Int)=0)) (some ((),{},1,())) (cond (decide (4096<(a0.length:Int))) (some ((),{},8,())) ((getI a0 (0:Int)).bind λx1=>cond (decide ((x1.toBitVec.toNat:Int)<1)) (some ((),{},3,())) ((getI a0 (0:Int)).bind λx2=>cond (decide (14<(x2.toBitVec.toNat:Int))) (some ((),{},3,())) (cond (decide (1<=(a0.length:Int))) ((Zit (Qi 1 a0)).bind λr3=>cond (!(decide (r3.2.2.2.1=0))) (some ((),{},r3.2.2.2.1,())) ((getI a0 (0:Int)).bind λx4=>(Zhq (x4.toBitVec.toNat:Int) r3.2.1).bind λr5=>(Zbp r5.2.1).bind λr6=>cond (!(decide (r6.2.2.1=0))) (some ((),{},2,())) ((Zis r6.2.1 a0).bind λr7=>cond (!r7.2.1) (some ((),{},2,())) (ru r5.2.1 0)))) none))))
def c238:=cf c237 11 [qg] [qh,qa] (u1 Zbo)
theorem o238:EO c238:=sz o237 Tryz.func11
def passkeyref1_Skip_L0b(y0:List Ja)(y1:Int)(y2:Ub):Option (((List (Ja))×Int×Ub×Unit)⊕((Int×Bool×Unit)⊕(Int×Unit))):=
 cond (decide ((0#64).toNat<y2.toNat)) (cond (decide (y0.length<=y1)) (some (Qf (Qg (0,false,())))) ((getI y0 y1).bind λx1=>cond (decide (x1.kind=5)) (cond (decide ((512#64).toNat<x1.number.toNat)) (some (Qf (Qg (0,false,())))) ((cond (decide (x1.kind=5)) (some (y0,y1,y2-1#64+x1.number,(x1,()),())) (some (y0,y1,y2-1#64,(x1,()),()))).bind λj2=>cond (decide (j2.2.2.2.1.1.kind=6)) (some (Qg (j2.1,Qb .i64 (j2.2.1+1),j2.2.2.1+2#64*j2.2.2.2.1.1.number,()))) (some (Qg (j2.1,Qb .i64 (j2.2.1+1),j2.2.2.1,()))))) (cond (decide (x1.kind=6)) (cond (decide ((512#64).toNat<x1.number.toNat)) (some (Qf (Qg (0,false,())))) ((cond (decide (x1.kind=5)) (some (y0,y1,y2-1#64+x1.number,(x1,()),())) (some (y0,y1,y2-1#64,(x1,()),()))).bind λj3=>cond (decide (j3.2.2.2.1.1.kind=6)) (some (Qg (j3.1,Qb .i64 (j3.2.1+1),j3.2.2.1+2#64*j3.2.2.2.1.1.number,()))) (some (Qg (j3.1,Qb .i64 (j3.2.1+1),j3.2.2.1,()))))) ((cond (decide (x1.kind=5)) (some (y0,y1,y2-1#64+x1.number,(x1,()),())) (some (y0,y1,y2-1#64,(x1,()),()))).bind λj4=>cond (decide (j4.2.2.2.1.1.kind=6)) (some (Qg (j4.1,Qb .i64 (j4.2.1+1),j4.2.2.1+2#64*j4.2.2.2.1.1.number,()))) (some (Qg (j4.1,Qb .i64 (j4.2.1+1),j4.2.2.1,()))))))) (some (Qf (Qf (y1,()))))
def passkeyref1_Skip_L0:=Yi3 passkeyref1_Skip_L0b
def passkeyref1_Skip(a0:List Ja)(a1:Int):O2 Int Bool:=
 cond (decide (a1<0)) (ru 0 false) (cond (decide (a0.length<=a1)) (ru 0 false) ((passkeyref1_Skip_L0 (a0,a1,1#64,())).bind (Ql (λz5=>ru z5.1 z5.2.1) (λz6=>ru z6.1 true))))
def c239:=ct c238 157 [qm,qc] [qa,qf] (u2 passkeyref1_Skip)
def s_passkeyref1_Skip_L0:LSpec T:=⟨[(0,qm),(1,qc),(6,qd)],[(.ret,[(4,qc),(5,qs)]),(.exit 0,[(1,qc)])],passkeyref1_Skip_L0,[]⟩
def A_passkeyref1_Skip:Loc2 T:=lcA [(0,s_passkeyref1_Skip_L0)] [(14,[(0,qm),(1,qc),(6,qd),(7,qar)],true)]
theorem Vdy:LO c239 Tryz.f157 0 s_passkeyref1_Skip_L0:=lx o238 A_passkeyref1_Skip dn (λ_=>rfl)
theorem o239:EO c239:=sx o238 A_passkeyref1_Skip Tryz.func157 (dc rfl Vdy dn)
def Zel_L0b(y0:List Ja)(y1:Ub)(y2:Int)(y3:Ub):Option (((List (Ja))×Ub×Int×Ub×Unit)⊕(((List (Ja))×Bool×Unit)⊕(Unit))):=
 (getI y0 (0:Int)).bind λx3=>cond (decide (y3.toNat<x3.number.toNat)) ((passkeyref1_Skip y0 y2).bind λr4=>(passkeyref1_Skip y0 r4.2.1).bind λr5=>(getI y0 y2).bind λx6=>cond (decide (x6.kind=1)) ((getI y0 y2).bind λx7=>cond (decide (x7.number=y1)) (cond (decide (0<=r5.2.1)&&decide (r5.2.1<=y0.length)) (cond (decide (0<=r4.2.1)&&decide (r4.2.1<=r5.2.1.toNat)) (let v8:=Qi r4.2.1.toNat (Qj r5.2.1.toNat y0);cond (small v8.length 32) (some (Qf (Qg (v8,true,())))) none) none) none) (some (Qg (y0,y1,r5.2.1,y3+1#64,())))) (some (Qg (y0,y1,r5.2.1,y3+1#64,())))) (some (Qf (Qf ())))
def Zel_L0:=Yi4 Zel_L0b
def Zel(a0:List Ja)(a1:Ub):O2 (List Ja) Bool:=
 (Zcm a0).bind λr1=>cond (!(decide (r1.2.1=0))) (ru [] false) ((getI a0 (0:Int)).bind λx2=>cond (!(decide (x2.kind=6))) (ru [] false) ((Zel_L0 (a0,a1,1,0#64,())).bind (Ql (λz9=>ru z9.1 z9.2.1) (λz10=>ru [] false))))
def c240:=cf c239 107 [qm,qd] [qae,qf] (u2 Zel)
def s_Zel_L0:LSpec T:=⟨[(0,qm),(1,qd),(6,qc),(7,qd)],[(.ret,[(4,qau),(5,qs)]),(.exit 0,[])],Zel_L0,[]⟩
def A_Zel:Loc2 T:=lcA [(0,s_Zel_L0)] []
theorem Vss:LO c240 Tryz.f107 0 s_Zel_L0:=lx o239 A_Zel dn (λ_=>rfl)
theorem o240:EO c240:=sx o239 A_Zel Tryz.func107 (dc rfl Vss dn)
def Zde_L0b(y0:List Ja)(y1:List Ua)(y2:Int):Option (((List (Ja))×(List Ua)×Int×Unit)⊕((List Ua)×Unit)):=
 cond (decide (y2<y0.length)) (cond (decide (0<=y2)&&decide (y2<y0.length)) (y0[y2.toNat]?.bind λx2=>cond (small (y1.length+([x2.data]).length) 24) (some (Qg (y0,y1++[x2.data],Qb .i64 (y2+1),()))) none) none) (some (Qf (y1,())))
def Zde_L0:=Yi3 Zde_L0b
def Zde(a0:List Ja)(a1:Int):O1 (List Ua):=
 (Zel a0 (Qc 64 a1)).bind λr1=>(Zde_L0 (r1.2.1,[],1,())).bind λz3=>rt z3.1
def c241:=cf c240 65 [qm,qc] [(.own 2)] (u2 Zde)
def s_Zde_L0:LSpec T:=⟨[(5,qau),(7,qav),(8,qc)],[(.exit 0,[(7,qav)])],Zde_L0,[]⟩
def A_Zde:Loc2 T:=lcA [(0,s_Zde_L0)] []
theorem Vst:LO c241 Tryz.f65 0 s_Zde_L0:=lx o240 A_Zde dn (λ_=>rfl)
theorem o241:EO c241:=sx o240 A_Zde Tryz.func65 (dc rfl Vst dn)
def Zgn(a0:List Ja)(a1:Int):Option (Unit×Ub×Ua×Bool×Unit):=
 (Zel a0 (Qc 64 a1)).bind λr1=>cond (!r1.2.2.1) (some ((),0#64,[],false,())) (cond (decide (0<(r1.2.1.length:Int))) (r1.2.1[0]?.bind λx2=>cond (decide (0<(r1.2.1.length:Int))) (r1.2.1[0]?.bind λx3=>some ((),x2.number,x3.data,true,())) none) none)
def c242:=ct c241 66 [qm,qc] [qr,qt,qf] (u2 Zgn)
theorem o242:EO c242:=sz o241 Tryz.func66
abbrev Y_Zaf_L1:=(Ua×(Jb×Unit)×(List (Ja))×Yaq×(List Ub)×(List Ua)×Int×Unit)
def Zaf_L1b(y0:Ua)(y1:Jb×Unit)(y2:List Ja)(y3:Int×Ua×Ua×Ua×Ub×Int×Int×List Ua×Bool×Bool×Bool×Bool×Int×Ub×Bool×Ub×Ua×Ua×Int×Ua×Int×Unit)(y4:List Ub)(y5:List Ua)(y6:Int):Option (Y_Zaf_L1⊕(Ua×(Jb×Unit)×(List (Ja))×Yaq×(List Ub)×(List Ua)×Unit)):=
 cond (decide (y6<20)) ((Zgn y2 y6).bind λr6=>cond (decide (0<=y6)&&decide (y6<20)) (y4[y6.toNat]?.bind λx7=>cond (decide (0<=y6)&&decide (y6<20)) (y5[y6.toNat]?.bind λx8=>some (Qg (y0,(y1.1,()),y2,y3,Qm y4 y6.toNat r6.2.1,Qm y5 y6.toNat r6.2.2.1,Qb .i64 (y6+1),()))) none) none) (some (Qf (y0,(y1.1,()),y2,y3,y4,y5,())))
def Zaf_L1:=Yi7 Zaf_L1b
def Zaf(a0:Ua):O2 Jb Int:=
 cond (decide ((a0.length:Int)=0)) (some ((),{},1,())) (cond (decide (4096<(a0.length:Int))) (some ((),{},8,())) ((getI a0 (0:Int)).bind λx1=>(Zdh (x1.toBitVec.toNat:Int) 1 14).bind λr2=>cond (!r2.2.1) (some ((),{},3,())) (cond (decide (1<=(a0.length:Int))) ((Zei (Qi 1 a0)).bind λr3=>cond (!(decide (r3.2.2.2.1=0))) (some ((),{},r3.2.2.2.1,())) ((getI a0 (0:Int)).bind λx4=>(Zde r3.2.1 7).bind λr5=>(Zaf_L1 (a0,({},()),r3.2.1,((x4.toBitVec.toNat:Int),[],[],[],0#64,0,0,r5.2.1,false,false,false,false,0,0#64,false,0#64,[],[],0,[],0,()),[0#64,0#64,0#64,0#64,0#64,0#64,0#64,0#64,0#64,0#64,0#64,0#64,0#64,0#64,0#64,0#64,0#64,0#64,0#64,0#64],[[],[],[],[],[],[],[],[],[],[],[],[],[],[],[],[],[],[],[],[]],1,())).bind λz9=>(Zgn z9.2.2.1 13).bind λr10=>z9.2.2.2.2.2.1[1]?.bind λx11=>z9.2.2.2.2.2.1[2]?.bind λx12=>z9.2.2.2.2.2.1[3]?.bind λx13=>z9.2.2.2.2.1[4]?.bind λx14=>z9.2.2.2.2.1[5]?.bind λx15=>(Zec x15).bind λr16=>z9.2.2.2.2.1[6]?.bind λx17=>(Zec x17).bind λr18=>z9.2.2.2.2.1[8]?.bind λx19=>z9.2.2.2.2.1[9]?.bind λx20=>z9.2.2.2.2.1[10]?.bind λx21=>z9.2.2.2.2.1[11]?.bind λx22=>z9.2.2.2.2.1[12]?.bind λx23=>(Zec x23).bind λr24=>z9.2.2.2.2.1[13]?.bind λx25=>z9.2.2.2.2.1[14]?.bind λx26=>z9.2.2.2.2.2.1[15]?.bind λx27=>z9.2.2.2.2.2.1[16]?.bind λx28=>z9.2.2.2.2.1[17]?.bind λx29=>(Zec x29).bind λr30=>z9.2.2.2.2.2.1[18]?.bind λx31=>z9.2.2.2.2.1[19]?.bind λx32=>(Zec x32).bind λr33=>(Zag ⟨z9.2.2.2.1.1,x11,x12,x13,x14,r16.2.1,r18.2.1,z9.2.2.2.1.2.2.2.2.2.2.2.1,decide (x19=1#64),decide (x20=1#64),decide (x21=1#64),decide (x22=1#64),r24.2.1,x25,r10.2.2.2.1,x26,x27,x28,r30.2.1,x31,r33.2.1⟩).bind λr34=>cond (!(decide (r34.2.2.1=0))) (some ((),{},2,())) (cond (!(decide (r34.2.1=z9.1))) (some ((),{},2,())) (ru ⟨z9.2.2.2.1.1,x11,x12,x13,x14,r16.2.1,r18.2.1,z9.2.2.2.1.2.2.2.2.2.2.2.1,decide (x19=1#64),decide (x20=1#64),decide (x21=1#64),decide (x22=1#64),r24.2.1,x25,r10.2.2.2.1,x26,x27,x28,r30.2.1,x31,r33.2.1⟩ 0)))) none)))
def c243:=cf c242 21 [qg] [qh,qa] (u1 Zaf)
def s_Zaf_L1:LSpec T:=⟨[(0,qg),(2,qz),(4,qm),(7,qb),(8,(.lar 10)),(9,(.lar 24)),(10,qc)],[(.exit 1,[(0,qg),(2,qz),(4,qm),(7,qb),(8,(.lar 10)),(9,(.lar 24))])],Zaf_L1,[]⟩
def A_Zaf:Loc2 T:=lcA [(1,s_Zaf_L1)] []
theorem Vsu:LO c243 Tryz.f21 1 s_Zaf_L1:=lx o242 A_Zaf dn (λ_=>rfl)
theorem o243:EO c243:=sx o242 A_Zaf Tryz.func21 (dc rfl Vsu dn)
abbrev Y_Zaq_L0:=((Jb×Unit)×(Jb×Unit)×Int×Unit)
def Zaq_L0b(y0 y1:Jb×Unit)(y2:Int):Option (Y_Zaq_L0⊕((Bool×Unit)⊕((Jb×Unit)×(Jb×Unit)×Unit))):=
 cond (decide (y2<y0.1.list.length)) ((getI y0.1.list y2).bind λx1=>(getI y1.1.list y2).bind λx2=>cond (!(decide (x1=x2))) (some (Qf (Qg (false,())))) (some (Qg ((y0.1,()),(y1.1,()),Qb .i64 (y2+1),())))) (some (Qf (Qf ((y0.1,()),(y1.1,()),()))))
def Zaq_L0:=Yi3 Zaq_L0b
def Zaq(a0 a1:Jb):O1 Bool:=
 cond (!(decide ((a0.list.length:Int)=(a1.list.length:Int)))) (rt false) ((Zaq_L0 ((a0,()),(a1,()),0,())).bind (Ql (λz3=>rt z3.1) (λz4=>cond (decide (z4.1.1.kind=z4.2.1.1.kind)) (cond (decide (z4.1.1.rP=z4.2.1.1.rP)) (cond (decide (z4.1.1.user=z4.2.1.1.user)) (cond (decide (z4.1.1.name=z4.2.1.1.name)) (cond (decide (z4.1.1.jx=z4.2.1.1.jx)) (cond (decide (z4.1.1.jc=z4.2.1.1.jc)) (cond (decide (z4.1.1.jd=z4.2.1.1.jd)) (cond (z4.1.1.je==z4.2.1.1.je) (cond (z4.1.1.jq==z4.2.1.1.jq) (cond (z4.1.1.jt==z4.2.1.1.jt) (cond (z4.1.1.jm==z4.2.1.1.jm) (cond (decide (z4.1.1.jk=z4.2.1.1.jk)) (cond (decide (z4.1.1.auth=z4.2.1.1.auth)) (cond (z4.1.1.jj==z4.2.1.1.jj) (cond (decide (z4.1.1.jv=z4.2.1.1.jv)) (cond (decide (z4.1.1.box=z4.2.1.1.box)) (cond (decide (z4.1.1.proof=z4.2.1.1.proof)) (cond (decide (z4.1.1.jb=z4.2.1.1.jb)) (cond (decide (z4.1.1.iD=z4.2.1.1.iD)) (rt (decide (z4.1.1.count=z4.2.1.1.count))) (rt false)) (rt false)) (rt false)) (rt false)) (rt false)) (rt false)) (rt false)) (rt false)) (rt false)) (rt false)) (rt false)) (rt false)) (rt false)) (rt false)) (rt false)) (rt false)) (rt false)) (rt false)) (rt false))))
def c244:=ct c243 12 [qbf,qbf] [qf] (u2 Zaq)
def s_Zaq_L0:LSpec T:=⟨[(2,qz),(3,qz),(5,qc)],[(.ret,[(4,qs)]),(.exit 0,[(2,qz),(3,qz)])],Zaq_L0,[]⟩
def A_Zaq:Loc2 T:=lcA [(0,s_Zaq_L0)] []
theorem Vsv:LO c244 Tryz.f12 0 s_Zaq_L0:=lx o243 A_Zaq dn (λ_=>rfl)
theorem o244:EO c244:=sx o243 A_Zaq Tryz.func12 (dc rfl Vsv dn)
def Zdy(a0:Ua):O1 Bool:=
 (Zbo a0).bind λr1=>(Zaf a0).bind λr2=>cond (decide (r1.2.2.1=r2.2.2.1)) ((Zaq r1.2.1 r2.2.1).bind λr3=>rt r3.2.1) (rt false)
def c245:=ct c244 8 [qg] [qf] (u1 Zdy)
theorem o245:EO c245:=sz o244 Tryz.func8
def Zah(a0:Ua)(a1 a2 a3:Int)(a4:UInt8):O1 Bool:=
 cond (decide (600<(a0.length:Int))) (Zdx.bind λr1=>rt r1.2.1) ((Zcf a1 a2).bind λr2=>(Zag r2.2.1).bind λr3=>(cond (decide (0<(r3.2.1.length:Int))) (let v4:=Qb .i64 ((Qc (Qa .i64) a3&&&Qc (Qa .i64) 65535).toNat:Int);cond (decide ((r3.2.1.length:Int)=0)) none (cond (decide (0<=Qd v4 (r3.2.1.length:Int))&&decide (Qd v4 (r3.2.1.length:Int)<r3.2.1.length)) (r3.2.1[(Qd v4 (r3.2.1.length:Int)).toNat]?.bind λx5=>cond (decide (0<=Qd v4 (r3.2.1.length:Int))&&decide (Qd v4 (r3.2.1.length:Int)<r3.2.1.length)) (r3.2.1[(Qd v4 (r3.2.1.length:Int)).toNat]?.bind λx6=>let v7:=Qm r3.2.1 (Qd v4 (r3.2.1.length:Int)).toNat (Qh (x5.toBitVec^^^a4.toBitVec));some (a0,a4,v7,())) none) none)) (some (a0,a4,r3.2.1,()))).bind λj8=>(Zdy j8.1).bind λr9=>cond r9.2.1 ((Zdy j8.2.2.1).bind λr10=>cond r10.2.1 (cond (small (j8.2.2.1.length+([j8.2.1]).length) 1) ((Zdy (j8.2.2.1++[j8.2.1])).bind λr11=>cond r11.2.1 (Zdx.bind λr12=>rt r12.2.1) (rt false)) none) (rt false)) (rt false))
def S_Zah:FSpec T:=⟨[.f (.v (.rs 0)),.f (.v (.int .i64)),.f (.v (.int .i64)),.f (.v (.int .i64)),.f (.v .u8)],[(.v .bool)],λx=>Zah x.1 x.2.1 x.2.2.1 x.2.2.2.1 x.2.2.2.2.1⟩
theorem Vgga:SoundT Tryz.prog cd gdn 3 S_Zah:=
 sndC hmix o245 (lcA [] [(6,[(0,.f (.v (.rs 0))),(4,.f (.v .u8)),(11,.f (.own 0))],true)]) Tryz.func3 Vag (by kernel_rfl) (by kernel_rfl) λx=>by kernel_rfl
def MessageReads_dom(a0:Ua)(a1:Int)(a2:Int)(a3:Int)(a4:UInt8):Prop:=ArgD cd [(.rs 0),(.int .i64),(.int .i64),(.int .i64),.u8] (a0,a1,a2,a3,a4,())
end Go.Proofs.YtnfhkhlbdgbkjaaGreatDoor

/- The functions of the program, as plain functions, and that the program computes them. Written by a program. -/
import Derived.Test.YtnfhkhlbdgbkjaaGreatDoorFns0
set_option linter.unusedVariables false
set_option maxRecDepth 100000
namespace Go.Proofs.YtnfhkhlbdgbkjaaGreatDoor
open Go Go.Abs
open Go.IntKind renaming wrap → Qa, bits → Qc
open _root_.BitVec renaming ofInt → Qb, setWidth → Qm
open _root_.Sum renaming inr → Qd, inl → Qe, elim → Qh
open _root_.Int renaming tmod → Qf, fdiv → Qj
open _root_.UInt8 renaming ofBitVec → Qg
open _root_.List renaming replicate → Qi, take → Qk, drop → Ql
def Zfn(a0:Ja)(a1 a2:Int)(a3:Bool)(a4:Ua):O1 Int:=
 (cond (decide (a0.kind=3)) (some (a1,a2,a3,a4,(a0,()),true,())) (some (a1,a2,a3,a4,(a0,()),decide (a0.kind=4),()))).bind λj1=>(cond (decide (j1.2.2.2.2.1.1.kind=5)) (some (j1.1,j1.2.1,j1.2.2.1,j1.2.2.2.1,(j1.2.2.2.2.1.1,()),j1.2.2.2.2.2.1,true,())) (some (j1.1,j1.2.1,j1.2.2.1,j1.2.2.2.1,(j1.2.2.2.2.1.1,()),j1.2.2.2.2.2.1,decide (j1.2.2.2.2.1.1.kind=6),()))).bind λj2=>cond (decide (512<=j2.1)) (rt 8) (((Zei j2.2.2.2.2.1.1.kind 1 8).bind λr3=>cond (!r3.2.1) (some (j2.2.1,j2.2.2.1,j2.2.2.2.1,(j2.2.2.2.2.1.1,()),j2.2.2.2.2.2.1,j2.2.2.2.2.2.2.1,true,())) (cond j2.2.2.1 ((Zfo j2.2.2.2.2.1.1.kind).bind λr4=>some (j2.2.1,j2.2.2.1,j2.2.2.2.1,(j2.2.2.2.2.1.1,()),j2.2.2.2.2.2.1,j2.2.2.2.2.2.2.1,!r4.2.1,())) (some (j2.2.1,j2.2.2.1,j2.2.2.2.1,(j2.2.2.2.2.1.1,()),j2.2.2.2.2.2.1,j2.2.2.2.2.2.2.1,false,())))).bind λj5=>cond j5.2.2.2.2.2.2.1 (rt 3) (cond (decide (8<j5.1)) (rt 5) ((cond j5.2.2.2.2.1 (cond (!(decide (j5.2.2.2.1.1.number=0#64))) (some (j5.2.1,j5.2.2.1,(j5.2.2.2.1.1,()),j5.2.2.2.2.2.1,true,())) (cond (decide (j5.2.2.2.1.1.kind=7)) (cond (decide ((1#64).toNat<j5.2.2.2.1.1.number.toNat)) (some (j5.2.1,j5.2.2.1,(j5.2.2.2.1.1,()),j5.2.2.2.2.2.1,true,())) (cond (!j5.2.2.2.2.1) (some (j5.2.1,j5.2.2.1,(j5.2.2.2.1.1,()),j5.2.2.2.2.2.1,!(decide (j5.2.2.2.1.1.data=([]:Ua))),())) (some (j5.2.1,j5.2.2.1,(j5.2.2.2.1.1,()),j5.2.2.2.2.2.1,false,())))) (cond (!j5.2.2.2.2.1) (some (j5.2.1,j5.2.2.1,(j5.2.2.2.1.1,()),j5.2.2.2.2.2.1,!(decide (j5.2.2.2.1.1.data=([]:Ua))),())) (some (j5.2.1,j5.2.2.1,(j5.2.2.2.1.1,()),j5.2.2.2.2.2.1,false,()))))) (cond (decide (j5.2.2.2.1.1.kind=8)) (cond (!(decide (j5.2.2.2.1.1.number=0#64))) (some (j5.2.1,j5.2.2.1,(j5.2.2.2.1.1,()),j5.2.2.2.2.2.1,true,())) (cond (decide (j5.2.2.2.1.1.kind=7)) (cond (decide ((1#64).toNat<j5.2.2.2.1.1.number.toNat)) (some (j5.2.1,j5.2.2.1,(j5.2.2.2.1.1,()),j5.2.2.2.2.2.1,true,())) (cond (!j5.2.2.2.2.1) (some (j5.2.1,j5.2.2.1,(j5.2.2.2.1.1,()),j5.2.2.2.2.2.1,!(decide (j5.2.2.2.1.1.data=([]:Ua))),())) (some (j5.2.1,j5.2.2.1,(j5.2.2.2.1.1,()),j5.2.2.2.2.2.1,false,())))) (cond (!j5.2.2.2.2.1) (some (j5.2.1,j5.2.2.1,(j5.2.2.2.1.1,()),j5.2.2.2.2.2.1,!(decide (j5.2.2.2.1.1.data=([]:Ua))),())) (some (j5.2.1,j5.2.2.1,(j5.2.2.2.1.1,()),j5.2.2.2.2.2.1,false,()))))) (cond (decide (j5.2.2.2.1.1.kind=7)) (cond (decide ((1#64).toNat<j5.2.2.2.1.1.number.toNat)) (some (j5.2.1,j5.2.2.1,(j5.2.2.2.1.1,()),j5.2.2.2.2.2.1,true,())) (cond (!j5.2.2.2.2.1) (some (j5.2.1,j5.2.2.1,(j5.2.2.2.1.1,()),j5.2.2.2.2.2.1,!(decide (j5.2.2.2.1.1.data=([]:Ua))),())) (some (j5.2.1,j5.2.2.1,(j5.2.2.2.1.1,()),j5.2.2.2.2.2.1,false,())))) (cond (!j5.2.2.2.2.1) (some (j5.2.1,j5.2.2.1,(j5.2.2.2.1.1,()),j5.2.2.2.2.2.1,!(decide (j5.2.2.2.1.1.data=([]:Ua))),())) (some (j5.2.1,j5.2.2.1,(j5.2.2.2.1.1,()),j5.2.2.2.2.2.1,false,())))))).bind λj6=>cond j6.2.2.2.2.1 (rt 4) ((cond (decide (1024<(j6.2.2.1.1.data.length:Int))) (some (j6.1,j6.2.1,(j6.2.2.1.1,()),true,())) (cond j6.2.2.2.1 (some (j6.1,j6.2.1,(j6.2.2.1.1,()),decide ((512#64).toNat<j6.2.2.1.1.number.toNat),())) (some (j6.1,j6.2.1,(j6.2.2.1.1,()),false,())))).bind λj7=>cond j7.2.2.2.1 (rt 8) ((cond (decide (j7.2.2.1.1.kind=4)) ((Zhf j7.2.2.1.1.data).bind λr8=>some (j7.1,j7.2.1,(j7.2.2.1.1,()),!r8.2.1,())) (some (j7.1,j7.2.1,(j7.2.2.1.1,()),false,()))).bind λj9=>cond j9.2.2.2.1 (rt 6) ((cond j9.1 (cond (!(decide (j9.2.1=([]:Ua)))) ((Zfm j9.2.2.1.1).bind λr10=>(Zgr j9.2.1 r10.2.1).bind λr11=>some (!r11.2.1,())) (some (false,()))) (some (false,()))).bind λj12=>cond j12.1 (rt 7) (rt 0)))))))
def S_Zfn:FSpec T:=⟨[qbh,qc,qc,qs,qar],[qa],λx=>Zfn x.1 x.2.1 x.2.2.1 x.2.2.2.1 x.2.2.2.2.1⟩
theorem Vaua:SoundT Tryz.prog cd gdn 168 S_Zfn:=
 sndC hmix o85 (lcA [] [(2,[(1,.f (.v (.int .i64))),(2,.f (.v (.int .i64))),(3,.f (.v .bool)),(4,.f (.v .str)),(5,.ptr [(.v (.agg 1))]),(11,.f (.v .bool))],true),(3,[(1,.f (.v (.int .i64))),(2,.f (.v (.int .i64))),(3,.f (.v .bool)),(4,.f (.v .str)),(5,.ptr [(.v (.agg 1))]),(11,.f (.v .bool)),(12,.f (.v .bool))],true),(6,[(2,.f (.v (.int .i64))),(3,.f (.v .bool)),(4,.f (.v .str)),(5,.ptr [(.v (.agg 1))]),(11,.f (.v .bool)),(12,.f (.v .bool)),(32,.f (.v .bool))],true),(10,[(3,.f (.v .bool)),(4,.f (.v .str)),(5,.ptr [(.v (.agg 1))]),(12,.f (.v .bool)),(49,.f (.v .bool))],true),(12,[(3,.f (.v .bool)),(4,.f (.v .str)),(5,.ptr [(.v (.agg 1))]),(80,.f (.v .bool))],true),(14,[(3,.f (.v .bool)),(4,.f (.v .str)),(5,.ptr [(.v (.agg 1))]),(93,.f (.v .bool))],true),(16,[(103,.f (.v .bool))],true)]) Tryz.func168 Vag (by kernel_rfl) (by kernel_rfl) λx=>by kernel_rfl
def c86:List (Ct T):=⟨168,none,S_Zfn,true⟩::c85
theorem o86:EnvOk Tryz.prog (mE c86):=eCons Vaua o85
def passkeyref1_walk_L0b(k_rec:List Ja->Int->Int->Bool->Ua->O2 Int Int)(y0:List Ja)(y1:Int)(y2:Ja×Unit)(y3:Int)(y4:Ua)(y5:Ub):Option (List Ja×Int×(Ja×Unit)×Int×Ua×Ub×Unit⊕Int×Int×Unit⊕Int×Unit):=
 cond (decide (y5.toNat<y2.1.number.toNat)) (cond (decide (y2.1.kind=5)) ((cond (decide (y2.1.kind=6)) ((k_rec y0 y3 (Qa .i64 (y1+1)) true y4).bind λr3=>cond (!(decide (r3.2.2.1=0))) ((some (Qd (Qe (r3.2.1,r3.2.2.1,())))).bind λq=>some (Qd q)) ((getI y0 y3).bind λx4=>(Zfm x4).bind λr5=>some (Qe (y0,y1,(y2.1,()),r3.2.1,r5.2.1,y5,())))) (some (Qe (y0,y1,(y2.1,()),y3,y4,y5,())))).bind (Qh (λj6=>(k_rec j6.1 j6.2.2.2.1 (Qa .i64 (j6.2.1+1)) false ([]:Ua)).bind λr7=>cond (!(decide (r7.2.2.1=0))) (some (Qd (Qe (r7.2.1,r7.2.2.1,())))) (some (Qe (j6.1,j6.2.1,(j6.2.2.1.1,()),r7.2.1,j6.2.2.2.2.1,j6.2.2.2.2.2.1+1#64,())))) some)) (cond (decide (y2.1.kind=6)) ((cond (decide (y2.1.kind=6)) ((k_rec y0 y3 (Qa .i64 (y1+1)) true y4).bind λr8=>cond (!(decide (r8.2.2.1=0))) ((some (Qd (Qe (r8.2.1,r8.2.2.1,())))).bind λq=>some (Qd q)) ((getI y0 y3).bind λx9=>(Zfm x9).bind λr10=>some (Qe (y0,y1,(y2.1,()),r8.2.1,r10.2.1,y5,())))) (some (Qe (y0,y1,(y2.1,()),y3,y4,y5,())))).bind (Qh (λj11=>(k_rec j11.1 j11.2.2.2.1 (Qa .i64 (j11.2.1+1)) false ([]:Ua)).bind λr12=>cond (!(decide (r12.2.2.1=0))) (some (Qd (Qe (r12.2.1,r12.2.2.1,())))) (some (Qe (j11.1,j11.2.1,(j11.2.2.1.1,()),r12.2.1,j11.2.2.2.2.1,j11.2.2.2.2.2.1+1#64,())))) some)) (some (Qd (Qd (y3,())))))) (some (Qd (Qd (y3,()))))
def passkeyref1_walk_L0(k_rec:List Ja->Int->Int->Bool->Ua->O2 Int Int)(y:List Ja×Int×(Ja×Unit)×Int×Ua×Ub×Unit):Option (Int×Int×Unit⊕Int×Unit):=
 iter (λ(y:List Ja×Int×(Ja×Unit)×Int×Ua×Ub×Unit)=>passkeyref1_walk_L0b k_rec y.1 y.2.1 y.2.2.1 y.2.2.2.1 y.2.2.2.2.1 y.2.2.2.2.2.1) rounds y
def passkeyref1_walk_R(k_rec:List Ja->Int->Int->Bool->Ua->O2 Int Int)(a0:List Ja)(a1 a2:Int)(a3:Bool)(a4:Ua):O2 Int Int:=
 cond (decide (a0.length<=a1)) (ru a1 1) ((getI a0 a1).bind λx1=>(Zfn x1 a1 a2 a3 a4).bind λr2=>cond (!(decide (r2.2.1=0))) (ru a1 r2.2.1) ((passkeyref1_walk_L0 k_rec (a0,a2,(x1,()),Qa .i64 (a1+1),[],0#64,())).bind (Qh (λz13=>ru z13.1 z13.2.1) (λz14=>ru z14.1 0))))
abbrev ps_passkeyref1_walk:List Slot:=[qq,qc,qc,qs,qar]
abbrev rs_passkeyref1_walk:List Fld:=[qa,qa]
def E_passkeyref1_walk(k_rec:(List (Ja))->Int->Int->Bool->Ua->Option ((Unit)×(Int×Int×Unit))):Env T:=⟨tab.find,cd,globs,flc,λf ds=>match f with
  |88=>some S_Zfm
  |122=>some ⟨ps_passkeyref1_walk,rs_passkeyref1_walk,λx=>k_rec x.1 x.2.1 x.2.2.1 x.2.2.2.1 x.2.2.2.2.1⟩
  |168=>some S_Zfn
  |_=>none,λf=>match f with
  |88=>true
  |122=>true
  |168=>true
  |_=>false⟩
def A_passkeyref1_walk(k_rec:(List (Ja))->Int->Int->Bool->Ua->Option ((Unit)×(Int×Int×Unit))):Loc2 T:=⟨λid=>match id with
  |0=>some ⟨[(0,.f (.v (.rs 1))),(2,.f (.v (.int .i64))),(12,.ptr [(.v (.agg 1))]),(14,.f (.v (.int .i64))),(15,.f (.v .str)),(16,.f (.v .u64))],[(.ret,[(10,.f (.v (.int .i64))),(11,.f (.v (.int .i64)))]),(.exit 0,[(14,.f (.v (.int .i64)))])],passkeyref1_walk_L0 k_rec,[]⟩
  |_=>none,λr=>match r with
  |19=>some ([(0,.f (.v (.rs 1))),(2,.f (.v (.int .i64))),(12,.ptr [(.v (.agg 1))]),(14,.f (.v (.int .i64))),(15,.f (.v .str)),(16,.f (.v .u64))],false)
  |_=>none⟩
theorem Vdv(k_rec:(List (Ja))->Int->Int->Bool->Ua->Option ((Unit)×(Int×Int×Unit)))(y0:(List (Ja)))(y1:Int)(y2:(Ja×Unit))(y3:Int)(y4:Ua)(y5:Ub):run (E_passkeyref1_walk k_rec) (A_passkeyref1_walk k_rec) (loopAt 0 (Tryz.f122.body.getD .skip)) (layC cd [(0,.f (.v (.rs 1))),(2,.f (.v (.int .i64))),(12,.ptr [(.v (.agg 1))]),(14,.f (.v (.int .i64))),(15,.f (.v .str)),(16,.f (.v .u64))] [] (y0,y1,y2,y3,y4,y5,())) (roundK cd [(0,.f (.v (.rs 1))),(2,.f (.v (.int .i64))),(12,.ptr [(.v (.agg 1))]),(14,.f (.v (.int .i64))),(15,.f (.v .str)),(16,.f (.v .u64))] [] [(.ret,[(10,.f (.v (.int .i64))),(11,.f (.v (.int .i64)))]),(.exit 0,[(14,.f (.v (.int .i64)))])])=passkeyref1_walk_L0b k_rec y0 y1 y2 y3 y4 y5:=by kernel_rfl
theorem Vet(k_rec:(List (Ja))->Int->Int->Bool->Ua->Option ((Unit)×(Int×Int×Unit)))(x:tySs T ps_passkeyref1_walk):run (E_passkeyref1_walk k_rec) (A_passkeyref1_walk k_rec) (Tryz.f122.body.getD .skip) (enterT (E_passkeyref1_walk k_rec).C ps_passkeyref1_walk x) (retK (E_passkeyref1_walk k_rec) Tryz.f122.results.toList ps_passkeyref1_walk rs_passkeyref1_walk)=passkeyref1_walk_R k_rec x.1 x.2.1 x.2.2.1 x.2.2.2.1 x.2.2.2.2.1:=by kernel_rfl
def passkeyref1_walk_n:Nat->(List (Ja))->Int->Int->Bool->Ua->Option ((Unit)×(Int×Int×Unit))
 |0=>λ_ _ _ _ _=>none
 |n+1=>passkeyref1_walk_R (passkeyref1_walk_n n)
def passkeyref1_walk(a0:(List (Ja)))(a1:Int)(a2:Int)(a3:Bool)(a4:Ua):=passkeyref1_walk_n 12 a0 a1 a2 a3 a4
def S_passkeyref1_walk:FSpec T:=⟨ps_passkeyref1_walk,rs_passkeyref1_walk,λx=>passkeyref1_walk x.1 x.2.1 x.2.2.1 x.2.2.2.1 x.2.2.2.2.1⟩
theorem Vb6(k_rec:(List (Ja))->Int->Int->Bool->Ua->Option ((Unit)×(Int×Int×Unit)))(hk:SoundT Tryz.prog cd gdn 122 ⟨ps_passkeyref1_walk,rs_passkeyref1_walk,λx=>k_rec x.1 x.2.1 x.2.2.1 x.2.2.2.1 x.2.2.2.2.1⟩):EnvOk Tryz.prog (E_passkeyref1_walk k_rec):=envOk (E:=(E_passkeyref1_walk k_rec)) cd_ok tys fl_ok λf ds S h=>by
  dsimp only[E_passkeyref1_walk]at h;split at h
  ·cases h;exact Vtg
  ·cases h;exact hk
  ·cases h;exact Vaua
  ·cases h
theorem Vdw(k_rec:(List (Ja))->Int->Int->Bool->Ua->Option ((Unit)×(Int×Int×Unit)))(hk:SoundT Tryz.prog cd gdn 122 ⟨ps_passkeyref1_walk,rs_passkeyref1_walk,λx=>k_rec x.1 x.2.1 x.2.2.1 x.2.2.2.1 x.2.2.2.2.1⟩):LoopOk Tryz.prog (E_passkeyref1_walk k_rec) Tryz.f122.ntmps (kqOf ps_passkeyref1_walk 0) (loopAt 0 (Tryz.f122.body.getD .skip)) ⟨[(0,.f (.v (.rs 1))),(2,.f (.v (.int .i64))),(12,.ptr [(.v (.agg 1))]),(14,.f (.v (.int .i64))),(15,.f (.v .str)),(16,.f (.v .u64))],[(.ret,[(10,.f (.v (.int .i64))),(11,.f (.v (.int .i64)))]),(.exit 0,[(14,.f (.v (.int .i64)))])],passkeyref1_walk_L0 k_rec,[]⟩:=
 Vh2 (A:=(A_passkeyref1_walk k_rec)) (done:=[]) (c0:=(Tryz.f122.body.getD .skip)) hmix (Vb6 k_rec hk) Vag rounds (by kernel_rfl) (by kernel_rfl) (λx=>Vdv k_rec x.1 x.2.1 x.2.2.1 x.2.2.2.1 x.2.2.2.2.1 x.2.2.2.2.2.1) (λ_=>rfl)
theorem Vbg:∀n:Nat,SoundT Tryz.prog cd gdn 122 ⟨ps_passkeyref1_walk,rs_passkeyref1_walk,λx=>passkeyref1_walk_n n x.1 x.2.1 x.2.2.1 x.2.2.2.1 x.2.2.2.2.1⟩
 |0=>Vf9 ⟨_,Tryz.func122,by kernel_rfl,by kernel_rfl⟩
 |n+1=>Vcw (E:=E_passkeyref1_walk (passkeyref1_walk_n n)) (A:=A_passkeyref1_walk (passkeyref1_walk_n n)) (done:=[0]) (c:=(Tryz.f122.body.getD .skip)) (S:=⟨ps_passkeyref1_walk,rs_passkeyref1_walk,λx=>passkeyref1_walk_n (n+1) x.1 x.2.1 x.2.2.1 x.2.2.2.1 x.2.2.2.2.1⟩) (fn:=Tryz.f122) hmix (Vb6 _ (Vbg n)) Tryz.func122 rfl (by kernel_rfl) (by kernel_rfl) (Vbt rfl (Vdw _ (Vbg n)) Vag) (by kernel_rfl) (by kernel_rfl) (Vet (passkeyref1_walk_n n))
theorem Vey:SoundT Tryz.prog cd gdn 122 S_passkeyref1_walk:=Vbg 12
def c87:List (Ct T):=⟨122,none,S_passkeyref1_walk,true⟩::c86
theorem o87:EnvOk Tryz.prog (mE c87):=eCons Vey o86
def Zcl(a0:List Ja):O1 Int:=
 (passkeyref1_walk a0 0 0 false []).bind λr1=>cond (!(decide (r1.2.2.1=0))) (rt r1.2.2.1) (cond (decide (r1.2.1<a0.length)) (rt 2) (rt 0))
def c88:=ct c87 87 [qq] [qa] (u1 Zcl)
theorem o88:EO c88:=sz o87 Tryz.func87
def Zeh_L0b(y0:List Ja)(y1:Ua)(y2:Int):Option (((List (Ja))×Ua×Int×Unit)⊕(Ua×Unit)):=
 cond (decide (y2<y0.length)) ((getI y0 y2).bind λx2=>(Zfm x2).bind λr3=>cond (small (y1.length+(r3.2.1:Ua).length) 1) (some (Qe (y0,y1++r3.2.1,Qa .i64 (y2+1),()))) none) (some (Qd (y1,())))
def Zeh_L0:=i3 Zeh_L0b
def Zeh(a0:List Ja):O2 Ua Int:=
 (Zcl a0).bind λr1=>cond (!(decide (r1.2.1=0))) (ru [] r1.2.1) ((Zeh_L0 (a0,[],0,())).bind λz4=>ru z4.1 0)
def c89:=cf c88 45 [qq] [qk,qa] (u1 Zeh)
def s_Zeh_L0:LSpec T:=⟨[(0,qq),(5,qag),(6,qc)],[(.exit 0,[(5,qag)])],Zeh_L0,[]⟩
def A_Zeh:Loc2 T:=lcA [(0,s_Zeh_L0)] []
theorem Vth:LO c89 Tryz.f45 0 s_Zeh_L0:=lx o88 A_Zeh dn (λ_=>rfl)
theorem o89:EO c89:=sx o88 A_Zeh Tryz.func45 (dc rfl Vth dn)
def passkeyref14_encode_L0b(y0:List (List Ja))(y1:List Ja)(y2:Int):Option (((List (List Ja))×(List (Ja))×Int×Unit)⊕((List (Ja))×Unit)):=
 cond (decide (y2<y0.length)) ((getI y0 y2).bind λx2=>cond (decide (0<(x2.length:Int))) (cond (decide (0<(y1.length:Int))) (y1[0]?.bind λx3=>cond (decide (0<(y1.length:Int))) (y1[0]?.bind λx4=>let v5:=List.set y1 0 ({x4 with number:=x3.number+1#64}:Ja);(Zde (Qb 64 y2)).bind λr6=>cond (small (v5.length+([r6.2.1]).length) 32) ((getI y0 y2).bind λx7=>cond (small ((v5++[r6.2.1]).length+(x7:List Ja).length) 32) (let v8:=v5++[r6.2.1]++x7;some (Qe (y0,v8,Qa .i64 (y2+1),()))) none) none) none) none) (some (Qe (y0,y1,Qa .i64 (y2+1),())))) (some (Qd (y1,())))
def passkeyref14_encode_L0:=i3 passkeyref14_encode_L0b
def passkeyref14_encode(a0:List (List Ja)):O1 Ua:=
 let v1:List Ja:=[{kind:=6}];(passkeyref14_encode_L0 (a0,v1,1,())).bind λz9=>(Zeh z9.1).bind λr10=>rt r10.2.1
def c90:=cf c89 17 [qab] [qk] (u1 passkeyref14_encode)
def s_passkeyref14_encode_L0:LSpec T:=⟨[(0,qab),(3,qay),(4,qc)],[(.exit 0,[(3,qay)])],passkeyref14_encode_L0,[]⟩
def A_passkeyref14_encode:Loc2 T:=lcA [(0,s_passkeyref14_encode_L0)] []
theorem Vc1:LO c90 Tryz.f17 0 s_passkeyref14_encode_L0:=lx o89 A_passkeyref14_encode dn (λ_=>rfl)
theorem o90:EO c90:=sx o89 A_passkeyref14_encode Tryz.func17 (dc rfl Vc1 dn)
def Zaf(a0:Jb):O2 Ua Int:=
 (Zbw a0).bind λr1=>cond (!(decide (r1.2.1=0))) (ru [] r1.2.1) ((Zdd a0).bind λr2=>(passkeyref14_encode [r2.2.1.a0,r2.2.1.a1,r2.2.1.a2,r2.2.1.a3,r2.2.1.a4,r2.2.1.a5,r2.2.1.a6,r2.2.1.a7,r2.2.1.a8,r2.2.1.a9,r2.2.1.a10,r2.2.1.a11,r2.2.1.a12,r2.2.1.a13,r2.2.1.a14,r2.2.1.a15,r2.2.1.a16,r2.2.1.a17,r2.2.1.a18,r2.2.1.a19]).bind λr3=>cond (small (([Qg (Qb 8 a0.kind)]).length+(r3.2.1:Ua).length) 1) (let v4:=[Qg (Qb 8 a0.kind)]++r3.2.1;ru v4 0) none)
def c91:=cf c90 6 [qa5] [qk,qa] (u1 Zaf)
theorem o91:EO c91:=sx o90 (lcA [] []) Tryz.func6 dn
def Zdb(a0:Jb):O1 Ub:=
 (Zbw a0).bind λr1=>cond (!(decide (r1.2.1=0))) (rt 0#64) ((Zaf {a0 with auth:=0#64,jl:=false}).bind λr2=>(Zgo 21 r2.2.1).bind λr3=>rt r3.2.1)
def c92:=ct c91 101 [qa5] [qr] (u1 Zdb)
theorem o92:EO c92:=sz o91 Tryz.func101
def Zbg(a0 a1:Ub):O1 Ub:=
 (passkeyref1_Words [a1]).bind λr1=>(Zhr a0 12 r1.2.1).bind λr2=>rt r2.2.1
def c93:=ct c92 100 [qd,qd] [qr] (u2 Zbg)
theorem o93:EO c93:=sz o92 Tryz.func100
def Zan(a0:Jv)(a1 a2:Int)(a3:Ua)(a4 a5:Ub):O1 Int:=
 (cond (decide (a0.jar<=a1)) (some (a1,a2,a3,a4,a5,(a0,()),decide ((100#64).toNat<(Qb 64 a1-Qb 64 a0.jar).toNat),())) (some (a1,a2,a3,a4,a5,(a0,()),false,()))).bind λj1=>cond (!j1.2.2.2.2.2.1.1.jaq) (rt 29) (cond (decide (j1.1<j1.2.2.2.2.2.1.1.jar)) (rt 29) (cond j1.2.2.2.2.2.2.1 (rt 29) (cond (decide (j1.2.1<1)) (rt 29) (cond (decide (7<j1.2.1)) (rt 29) (let v2:=Qa .i64 ((Qb (Qc .i64) j1.2.2.2.2.2.1.1.jb&&&Qb (Qc .i64) j1.2.1).toNat:Int);cond (!(decide (v2=j1.2.1))) (rt 29) (cond (!(decide (j1.2.2.2.2.2.1.1.rP=([]:Ua)))) (cond (!(decide (j1.2.2.2.2.2.1.1.rP=j1.2.2.1))) (rt 29) ((Zbg j1.2.2.2.2.2.1.1.value j1.2.2.2.1).bind λr3=>cond (!(decide (j1.2.2.2.2.1=r3.2.1))) (rt 29) (rt 0))) ((Zbg j1.2.2.2.2.2.1.1.value j1.2.2.2.1).bind λr4=>cond (!(decide (j1.2.2.2.2.1=r4.2.1))) (rt 29) (rt 0))))))))
def c94:=ct c93 254 [(.f qa0),qc,qc,qar,qd,qd] [qa] λx=>Zan x.1 x.2.1 x.2.2.1 x.2.2.2.1 x.2.2.2.2.1 x.2.2.2.2.2.1
theorem o94:EO c94:=sx o93 (lcA [] [(2,[(1,qc),(2,qc),(3,qar),(4,qd),(5,qd),(6,(.ptr [qa0])),(13,qs)],true)]) Tryz.func254 dn
def Zae(a0:Je×Unit)(a1:Int)(a2:Ua):Option (((Je×Unit)×Unit)×Bool×Unit):=
 cond (!a0.1.r.jl) (some (((a0.1,()),()),false,())) ((Zdb a0.1.r).bind λr1=>(Zan a0.1.d.ju a0.1.d.now a1 a2 r1.2.1 a0.1.r.auth).bind λr2=>(Zbi (a0.1,()) r2.2.1).bind λr3=>some (((r3.1.1.1,()),()),decide (r3.1.1.1.err=0),()))
def c95:=cf c94 190 [ql,qc,qar] [qf] (u3 Zae)
theorem o95:EO c95:=sz o94 Tryz.func190
def Zgm(a0:Jd):O1 Jo:=
 (Zhx a0.jp 3).bind λr1=>cond (decide ((r1.2.1.length:Int)=0)) (rt {jad:=a0.jad}) ((Zgq r1.2.1).bind λr2=>(Zhx a0.jp 4).bind λr3=>cond (decide ((r3.2.1.length:Int)=1)) (cond (decide (0<(r3.2.1.length:Int))) (r3.2.1[0]?.bind λx4=>rt ⟨true,r2.2.1,(x4.toBitVec.toNat:Int),a0.jad⟩) none) (rt ⟨true,r2.2.1,0,a0.jad⟩))
def S_Zgm:FSpec T:=⟨[qau],[qbc],λx=>Zgm x.1⟩
theorem Vava:SoundT Tryz.prog cd gdn 185 S_Zgm:=
 sndC hmix o95 (lcA [] []) Tryz.func185 Vag (by kernel_rfl) (by kernel_rfl) λx=>by kernel_rfl
def c96:List (Ct T):=⟨185,none,S_Zgm,true⟩::c95
theorem o96:EnvOk Tryz.prog (mE c96):=eCons Vava o95
abbrev Y_Zdw_L2:=(Int×Bool×Bool×(List (Jl))×(Jn×Unit)×Int×Int×Unit)
def Zdw_L2b(y0:Int)(y1 y2:Bool)(y3:List Jl)(y4:Jn×Unit)(y5 y6:Int):Option (Y_Zdw_L2⊕(((Jn×Unit)×Int×Unit)⊕(Int×Bool×Bool×(List (Jl))×(Jn×Unit)×Int×Unit))):=
 cond (decide (y6<y3.length)) ((getI y3 y6).bind λx4=>cond (!(decide (x4.at_=y5))) (some (Qe (y0,y1,y2,y3,(y4.1,()),y5,Qa .i64 (y6+1),()))) (((getI y3 y6).bind λx5=>cond (decide (x5.kind=1)) (some (y0,y1,y2,y3,(y4.1,()),y5,y6,true,())) ((getI y3 y6).bind λx6=>cond (decide (x6.kind=2)) (cond (!y1) (some (y0,y1,y2,y3,(y4.1,()),y5,y6,true,())) ((getI y3 y6).bind λx7=>cond (decide (x7.kind=3)) (some (y0,y1,y2,y3,(y4.1,()),y5,y6,!y2,())) (some (y0,y1,y2,y3,(y4.1,()),y5,y6,false,())))) ((getI y3 y6).bind λx8=>cond (decide (x8.kind=3)) (some (y0,y1,y2,y3,(y4.1,()),y5,y6,!y2,())) (some (y0,y1,y2,y3,(y4.1,()),y5,y6,false,()))))).bind λj9=>(cond j9.2.2.2.2.2.2.2.1 (some (j9.1,j9.2.1,j9.2.2.1,j9.2.2.2.1,(j9.2.2.2.2.1.1,()),j9.2.2.2.2.2.1,j9.2.2.2.2.2.2.1,!j9.2.2.1,())) (some (j9.1,j9.2.1,j9.2.2.1,j9.2.2.2.1,(j9.2.2.2.2.1.1,()),j9.2.2.2.2.2.1,j9.2.2.2.2.2.2.1,false,()))).bind λj10=>cond j10.2.2.2.2.2.2.2.1 (some (Qd (Qe ((⟨true,false,j10.2.2.2.2.2.1⟩,()),0,())))) (((getI j10.2.2.2.1 j10.2.2.2.2.2.2.1).bind λx11=>cond (decide (x11.kind=2)) (some (j10.1,j10.2.1,j10.2.2.1,j10.2.2.2.1,(j10.2.2.2.2.1.1,()),j10.2.2.2.2.2.1,j10.2.2.2.2.2.2.1,j10.2.1,())) (some (j10.1,j10.2.1,j10.2.2.1,j10.2.2.2.1,(j10.2.2.2.2.1.1,()),j10.2.2.2.2.2.1,j10.2.2.2.2.2.2.1,false,()))).bind λj12=>cond j12.2.2.2.2.2.2.2.1 (some (Qd (Qe ((⟨true,true,j12.2.2.2.2.2.1⟩,()),0,())))) (((getI j12.2.2.2.1 j12.2.2.2.2.2.2.1).bind λx13=>cond (decide (x13.kind=3)) (cond j12.2.2.1 (some (j12.1,j12.2.1,j12.2.2.1,j12.2.2.2.1,(j12.2.2.2.2.1.1,()),j12.2.2.2.2.2.1,j12.2.2.2.2.2.2.1,true,())) ((getI j12.2.2.2.1 j12.2.2.2.2.2.2.1).bind λx14=>some (j12.1,j12.2.1,j12.2.2.1,j12.2.2.2.1,(j12.2.2.2.2.1.1,()),j12.2.2.2.2.2.1,j12.2.2.2.2.2.2.1,decide (x14.kind=4),()))) ((getI j12.2.2.2.1 j12.2.2.2.2.2.2.1).bind λx15=>some (j12.1,j12.2.1,j12.2.2.1,j12.2.2.2.1,(j12.2.2.2.2.1.1,()),j12.2.2.2.2.2.1,j12.2.2.2.2.2.2.1,decide (x15.kind=4),()))).bind λj16=>cond j16.2.2.2.2.2.2.2.1 (some (Qd (Qe (({},()),20,())))) ((getI j16.2.2.2.1 j16.2.2.2.2.2.2.1).bind λx17=>cond (decide (x17.kind=5)) (some (Qd (Qe (({},()),21,())))) (some (Qe (j16.1,j16.2.1,j16.2.2.1,j16.2.2.2.1,(j16.2.2.2.2.1.1,()),j16.2.2.2.2.2.1,Qa .i64 (j16.2.2.2.2.2.2.1+1),())))))))) (some (Qd (Qd (y0,y1,y2,y3,(y4.1,()),y5,()))))
def Zdw_L2:=i7 Zdw_L2b
def Zdw_L0b(y0:Int)(y1 y2:Bool)(y3:List Jl)(y4:Jn×Unit)(y5:Int):Option ((Int×Bool×Bool×(List (Jl))×(Jn×Unit)×Int×Unit)⊕(((Jn×Unit)×Int×Unit)⊕((Jn×Unit)×Unit))):=
 let v3:Int:=cond (decide (1099511627776<Qa .i64 (y0+30))) 1099511627776 (Qa .i64 (y0+30));cond (decide (y5<=v3)) ((Zdw_L2 (y0,y1,y2,y3,(y4.1,()),y5,0,())).bind (Qh (λz4=>some (Qd (Qe ((z4.1.1,()),z4.2.1,())))) (λz5=>some (Qe (z5.1,z5.2.1,z5.2.2.1,z5.2.2.2.1,(z5.2.2.2.2.1.1,()),Qa .i64 (z5.2.2.2.2.2.1+1),()))))) (some (Qd (Qd ((y4.1,()),()))))
def Zdw_L0:=i6 Zdw_L0b
def Zdw(a0:Int)(a1 a2:Bool)(a3:List Jl):O2 Jn Int:=
 (cond (decide (a0<0)) ((ru ({}:Jn) (9:Int)).bind λq=>some (Qd q)) (cond (decide (1099511627776<a0)) ((ru ({}:Jn) (9:Int)).bind λq=>some (Qd q)) (some (Qe (a0,a1,a2,a3,(({}:Jn),()),()))))).bind (Qh (λj1=>(cond j1.2.2.1 (cond (!j1.2.1) ((ru ({}:Jn) (23:Int)).bind λq=>some (Qd q)) (some (Qe (j1.1,j1.2.1,j1.2.2.1,j1.2.2.2.1,(j1.2.2.2.2.1.1,()),())))) (some (Qe (j1.1,j1.2.1,j1.2.2.1,j1.2.2.2.1,(j1.2.2.2.2.1.1,()),())))).bind (Qh (λj2=>(Zdw_L0 (j2.1,j2.2.1,j2.2.2.1,j2.2.2.2.1,(j2.2.2.2.2.1.1,()),Qa .i64 (j2.1+1),())).bind (Qh (λz6=>ru z6.1.1 z6.2.1) (λz7=>some ((),{},19,())))) some)) some)
def c97:=ct c96 255 [qc,qs,qs,qz] [(.v (.agg 28)),qa] (u4 Zdw)
def s_Zdw_L2:LSpec T:=⟨[(0,qc),(1,qs),(2,qs),(3,qz),(8,qo),(10,qc),(11,qc)],[(.ret,[(8,qo),(9,qc)]),(.exit 2,[(0,qc),(1,qs),(2,qs),(3,qz),(8,qo),(10,qc)])],Zdw_L2,[]⟩
def s_Zdw_L0:LSpec T:=⟨[(0,qc),(1,qs),(2,qs),(3,qz),(8,qo),(10,qc)],[(.ret,[(8,qo),(9,qc)]),(.exit 0,[(8,qo)])],Zdw_L0,[]⟩
def A_Zdw:Loc2 T:=lcA [(2,s_Zdw_L2),(0,s_Zdw_L0)] [(3,[(0,qc),(1,qs),(2,qs),(3,qz),(8,qo)],false),(5,[(0,qc),(1,qs),(2,qs),(3,qz),(8,qo)],false),(13,[(0,qc),(1,qs),(2,qs),(3,qz),(8,qo),(10,qc),(11,qc),(12,qs)],true),(14,[(0,qc),(1,qs),(2,qs),(3,qz),(8,qo),(10,qc),(11,qc),(78,qs)],true),(16,[(0,qc),(1,qs),(2,qs),(3,qz),(8,qo),(10,qc),(11,qc),(86,qs)],true),(18,[(0,qc),(1,qs),(2,qs),(3,qz),(8,qo),(10,qc),(11,qc),(98,qs)],true)]
theorem Vlr:LO c97 Tryz.f255 2 s_Zdw_L2:=lx o96 A_Zdw dn (λ_=>rfl)
theorem Vti:LO c97 Tryz.f255 0 s_Zdw_L0:=lx o96 A_Zdw (dc rfl Vlr dn) (λ_=>rfl)
theorem o97:EO c97:=sx o96 A_Zdw Tryz.func255 (dc rfl Vlr (dc rfl Vti dn))
def Zaw(a0:Je×Unit)(a1:Bool):Option (((Je×Unit)×Unit)×Jn×Unit):=
 cond (!(decide (a0.1.err=0))) (some (((a0.1,()),()),{},())) ((Zdw a0.1.d.now a0.1.d.jm.jaj a1 a0.1.g).bind λr1=>cond (decide (r1.2.2.1=0)) ((Zbi ({a0.1 with d:={a0.1.d with now:=r1.2.1.at_}},()) r1.2.2.1).bind λr2=>some (((r2.1.1.1,()),()),r1.2.1,())) ((Zbi (a0.1,()) r1.2.2.1).bind λr3=>some (((r3.1.1.1,()),()),r1.2.1,())))
def c98:=cf c97 191 [ql,qs] [(.v (.agg 28))] (u2 Zaw)
theorem o98:EO c98:=sx o97 (lcA [] []) Tryz.func191 dn
def Zbh(a0:Je×Unit):Option (((Je×Unit)×Unit)×Ub×Unit):=
 (Zfh a0.1.d).bind λr1=>some ((({a0.1 with d:=r1.2.1},()),()),r1.2.2.1,())
def c99:=cf c98 196 [ql] [qr] (u1 Zbh)
theorem o99:EO c99:=sz o98 Tryz.func196
def Zad_L0b(y0 y1:List Ja)(y2:Int):Option (((List (Ja))×(List (Ja))×Int×Unit)⊕((List (Ja))×Unit)):=
 cond (decide (y2<y0.length)) ((Zde (Qb 64 (Qa .i64 (y2+1)))).bind λr13=>cond (decide (0<=y2)&&decide (y2<y0.length)) (y0[y2.toNat]?.bind λx14=>cond (small (y1.length+([r13.2.1,x14]).length) 32) (let v15:=y1++[r13.2.1,x14];some (Qe (y0,v15,Qa .i64 (y2+1),()))) none) none) (some (Qd (y1,())))
def Zad_L0:=i3 Zad_L0b
def Zad(a0:Jg):O2 Ua Int:=
 (Zaa a0).bind λr1=>cond (!(decide (r1.2.1=0))) (ru [] r1.2.1) ((Zfe a0.rP).bind λr2=>(Zfb a0.user).bind λr3=>(Zfe a0.name).bind λr4=>(Zde a0.jah).bind λr5=>(Zde (Qb 64 a0.jd)).bind λr6=>(Zcj a0.jg).bind λr7=>(Zde (Qb 64 a0.je)).bind λr8=>(Zcj a0.jo).bind λr9=>(Zcj a0.jag).bind λr10=>let v11:List Ja:=[r2.2.1,r3.2.1,r4.2.1,r5.2.1,r6.2.1,r7.2.1,r8.2.1,r9.2.1,r10.2.1];let v12:List Ja:=[⟨6,9#64,[]⟩];(Zad_L0 (v11,v12,0,())).bind λz16=>(Zeh z16.1).bind λr17=>ru r17.2.1 r17.2.2.1)
def c100:=cf c99 103 [(.f qak)] [qk,qa] (u1 Zad)
def s_Zad_L0:LSpec T:=⟨[(5,qay),(6,qay),(7,qc)],[(.exit 0,[(6,qay)])],Zad_L0,[]⟩
def A_Zad:Loc2 T:=lcA [(0,s_Zad_L0)] []
theorem Vtj:LO c100 Tryz.f103 0 s_Zad_L0:=lx o99 A_Zad dn (λ_=>rfl)
theorem o100:EO c100:=sx o99 A_Zad Tryz.func103 (dc rfl Vtj dn)
def Zck(a0:Ub):O1 Ub:=
 (Zeg a0 [119,114,97,112] 0).bind λr1=>rt r1.2.1
def c101:=ct c100 259 [qd] [qr] (u1 Zck)
theorem o101:EO c101:=sz o100 Tryz.func259
def Zdc(a0:Ua):O1 Ub:=
 (Zgo 9 a0).bind λr1=>rt r1.2.1
def c102:=ct c101 201 [qar] [qr] (u1 Zdc)
theorem o102:EO c102:=sz o101 Tryz.func201
def Zhp(a0 a1:Ub)(a2:Jg):O2 Ua Int:=
 (Zad a2).bind λr1=>cond (!(decide (r1.2.2.1=0))) (ru [] r1.2.2.1) (cond a2.jg ((Zeg a2.jah [105,100] 0).bind λr2=>(Zem r2.2.1 0#64 176).bind λr3=>ru r3.2.1 0) (let v4:=Qi 160 (0:UInt8);cond (decide ((r1.2.1:Ua).length<=v4.length)) (let v5:=r1.2.1++Ql (r1.2.1:Ua).length v4;(Zck a0).bind λr6=>(Zdc a2.rP).bind λr7=>(passkeyref1_Words [r7.2.1]).bind λr8=>(Zgv r6.2.1 a1 r8.2.1 v5).bind λr9=>ru r9.2.1 r9.2.2.1) none))
def c103:=cf c102 197 [qd,qd,(.f qak)] [qk,qa] (u3 Zhp)
theorem o103:EO c103:=sz o102 Tryz.func197
def Zgi(a0:Ua):O1 Ub:=
 (Zgo 10 a0).bind λr1=>rt r1.2.1
def c104:=ct c103 257 [qg] [qr] (u1 Zgi)
theorem o104:EO c104:=sz o103 Tryz.func257
def Zba_L1b(y0:Ua×Int×List Ja×Unit)(y1:Ja×Unit)(y2 y3:Int)(y4:Ub)(y5:Int):Option (((Ua×Int×(List (Ja))×Unit)×(Ja×Unit)×Int×Int×Ub×Int×Unit)⊕((Ua×Int×(List (Ja))×Unit)×(Ja×Unit)×Int×Int×Ub×Unit)):=
 cond (decide (y5<y3)) (let v12:=Qa .i64 (Qa .i64 (y0.2.1+1)+y5);(getI y0.1 v12).bind λx13=>some (Qe ((y0.1,y0.2.1,y0.2.2.1,()),(y1.1,()),y2,y3,y4<<<8|||Qm 64 x13.toBitVec,Qa .i64 (y5+1),()))) (some (Qd ((y0.1,y0.2.1,y0.2.2.1,()),(y1.1,()),y2,y3,y4,())))
def Zba_L1:=i6 Zba_L1b
def Zba(a0:Ua×Int×List Ja×Unit):Option (((Ua×Int×List Ja×Unit)×Unit)×Ja×Int×Unit):=
 cond (decide (a0.1.length<=a0.2.1)) (some (((a0.1,a0.2.1,a0.2.2.1,()),()),{},1,())) ((getI a0.1 a0.2.1).bind λx1=>(cond (decide (x1.toBitVec=(244:UInt8).toBitVec)) (cond (decide (x1.toBitVec=(244:UInt8).toBitVec)) (let v2:=Qm 64 (Qg (x1.toBitVec-(244:UInt8).toBitVec)).toBitVec;(some (((a0.1,Qa .i64 (a0.2.1+1),a0.2.2.1,()),()),(⟨7,v2,[]⟩:Ja),(0:Int),())).bind λq=>some (Qd q)) (cond (decide (x1.toBitVec=(246:UInt8).toBitVec)) ((some (((a0.1,Qa .i64 (a0.2.1+1),a0.2.2.1,()),()),({kind:=8}:Ja),(0:Int),())).bind λq=>some (Qd q)) (some (Qe ((a0.1,a0.2.1,a0.2.2.1,()),(({}:Ja),()),x1,()))))) (cond (decide (x1.toBitVec=(245:UInt8).toBitVec)) (let v3:=Qm 64 (Qg (x1.toBitVec-(244:UInt8).toBitVec)).toBitVec;(some (((a0.1,Qa .i64 (a0.2.1+1),a0.2.2.1,()),()),(⟨7,v3,[]⟩:Ja),(0:Int),())).bind λq=>some (Qd q)) (cond (decide (x1.toBitVec=(246:UInt8).toBitVec)) ((some (((a0.1,Qa .i64 (a0.2.1+1),a0.2.2.1,()),()),({kind:=8}:Ja),(0:Int),())).bind λq=>some (Qd q)) (some (Qe ((a0.1,a0.2.1,a0.2.2.1,()),(({}:Ja),()),x1,())))))).bind (Qh (λj4=>let v5:=((Qg (j4.2.2.1.toBitVec>>>5)).toBitVec.toNat:Int);let v6:=Qg (j4.2.2.1.toBitVec&&&(31:UInt8).toBitVec);cond (decide (5<v5)) (some (((j4.1.1,j4.1.2.1,j4.1.2.2.1,()),()),{},2,())) (cond (decide (27<(v6.toBitVec.toNat:Int))) (some (((j4.1.1,j4.1.2.1,j4.1.2.2.1,()),()),{},2,())) ((cond (decide (24<=(v6.toBitVec.toNat:Int))) (let v7:=Qb 64 (Qa .i64 ((v6.toBitVec.toNat:Int)-24));let v8:=Qa .i64 (1*2^min v7.toNat (Qc .i64));some ((j4.1.1,j4.1.2.1,j4.1.2.2.1,()),(j4.2.1.1,()),v5,(v6.toBitVec.toNat:Int),v8,())) (some ((j4.1.1,j4.1.2.1,j4.1.2.2.1,()),(j4.2.1.1,()),v5,(v6.toBitVec.toNat:Int),(0:Int),()))).bind λj9=>let v10:=Qa .i64 (Qa .i64 ((j9.1.1.length:Int)-j9.1.2.1)-1);cond (decide (v10<j9.2.2.2.2.1)) (some (((j9.1.1,j9.1.2.1,j9.1.2.2.1,()),()),{},1,())) ((cond (decide (0<j9.2.2.2.2.1)) (some ((j9.1.1,j9.1.2.1,j9.1.2.2.1,()),(j9.2.1.1,()),j9.2.2.1,j9.2.2.2.2.1,0#64,())) (some ((j9.1.1,j9.1.2.1,j9.1.2.2.1,()),(j9.2.1.1,()),j9.2.2.1,j9.2.2.2.2.1,Qb 64 j9.2.2.2.1,()))).bind λj11=>(Zba_L1 ((j11.1.1,j11.1.2.1,j11.1.2.2.1,()),(j11.2.1.1,()),j11.2.2.1,j11.2.2.2.1,j11.2.2.2.2.1,0,())).bind λz14=>let v15:List Ub:=[0#64,24#64,256#64,0#64,65536#64,0#64,0#64,0#64,4294967296#64];cond (decide (0<=z14.2.2.2.1)&&decide (z14.2.2.2.1<9)) (v15[z14.2.2.2.1.toNat]?.bind λx16=>cond (decide (z14.2.2.2.2.1.toNat<x16.toNat)) (some (((z14.1.1,z14.1.2.1,z14.1.2.2.1,()),()),{},2,())) (let v17:=Qa .i64 (z14.1.2.1+Qa .i64 (1+z14.2.2.2.1));let v18:List Int:=[1,2,3,4,5,6];cond (decide (0<=z14.2.2.1)&&decide (z14.2.2.1<6)) (v18[z14.2.2.1.toNat]?.bind λx19=>some (((z14.1.1,v17,z14.1.2.2.1,()),()),⟨x19,z14.2.2.2.2.1,[]⟩,0,())) none)) none)))) some))
def S_Zba:FSpec T:=⟨[qao],[qv,qa],λx=>Zba x.1⟩
def s_Zba_L1:LSpec T:=⟨[(0,qao),(2,qat),(5,qc),(7,qc),(8,qd),(9,qc)],[(.exit 1,[(0,qao),(2,qat),(5,qc),(7,qc),(8,qd)])],Zba_L1,[]⟩
def A_Zba:Loc2 T:=lcA [(1,s_Zba_L1)] [(12,[(0,qao),(2,qat),(4,qaz)],false),(18,[(0,qao),(2,qat),(5,qc),(6,qc),(7,qc)],true),(23,[(0,qao),(2,qat),(5,qc),(7,qc),(8,qd)],true)]
theorem Vtk:LoopOk Tryz.prog (mE c104) Tryz.f154.ntmps (kqOf S_Zba.ps 0) (loopAt 1 (bodyOf Tryz.f154)) s_Zba_L1:=
 lpC hmix o104 A_Zba Vag 1 (st:=λy=>Zba_L1b y.1 y.2.1 y.2.2.1 y.2.2.2.1 y.2.2.2.2.1 y.2.2.2.2.2.1) (λ_=>rfl) (by kernel_rfl) (by kernel_rfl) λx=>by kernel_rfl
theorem Vawa:SoundT Tryz.prog cd gdn 154 S_Zba:=
 sndC hmix o104 A_Zba Tryz.func154 (Vbt rfl Vtk Vag) (by kernel_rfl) (by kernel_rfl) λx=>by kernel_rfl
def c105:List (Ct T):=⟨154,none,S_Zba,false⟩::c104
theorem o105:EnvOk Tryz.prog (mE c105):=eCons Vawa o104
def Zbb_L1b(k_rec:Ua×Int×List Ja×Unit->Int->Bool->Ua->Option (((Ua×Int×List Ja×Unit)×Unit)×Int×Unit))(y0:Ua×Int×List Ja×Unit)(y1:Int)(y2:Ja×Unit)(y3:Ub)(y4:Bool)(y5:Ua)(y6:Ub):Option ((Ua×Int×List Ja×Unit)×Int×(Ja×Unit)×Ub×Bool×Ua×Ub×Unit⊕(Ua×Int×List Ja×Unit)×Int×Unit⊕(Ua×Int×List Ja×Unit)×Unit):=
 cond y4 (cond (decide (y6.toNat<y3.toNat)) (cond (decide (y2.1.kind=6)) ((k_rec (y0.1,y0.2.1,y0.2.2.1,()) (Qa .i64 (y1+1)) true y5).bind λr18=>cond (!(decide (r18.2.1=0))) (some (Qd (Qe ((r18.1.1.1,r18.1.1.2.1,r18.1.1.2.2.1,()),r18.2.1,())))) (cond (decide (0<=(y0.2.2.1.length:Int))&&decide ((y0.2.2.1.length:Int)<(r18.1.1.2.2.1.length:Int))) (r18.1.1.2.2.1[(y0.2.2.1.length:Int).toNat]?.bind λx19=>(Zfm x19).bind λr20=>(k_rec (r18.1.1.1,r18.1.1.2.1,r18.1.1.2.2.1,()) (Qa .i64 (y1+1)) false ([]:Ua)).bind λr21=>cond (!(decide (r21.2.1=0))) (some (Qd (Qe ((r21.1.1.1,r21.1.1.2.1,r21.1.1.2.2.1,()),r21.2.1,())))) (some (Qe ((r21.1.1.1,r21.1.1.2.1,r21.1.1.2.2.1,()),y1,(y2.1,()),y3,y4,r20.2.1,y6+1#64,())))) none)) ((k_rec (y0.1,y0.2.1,y0.2.2.1,()) (Qa .i64 (y1+1)) false ([]:Ua)).bind λr22=>cond (!(decide (r22.2.1=0))) (some (Qd (Qe ((r22.1.1.1,r22.1.1.2.1,r22.1.1.2.2.1,()),r22.2.1,())))) (some (Qe ((r22.1.1.1,r22.1.1.2.1,r22.1.1.2.2.1,()),y1,(y2.1,()),y3,y4,y5,y6+1#64,()))))) (some (Qd (Qd ((y0.1,y0.2.1,y0.2.2.1,()),()))))) (some (Qd (Qd ((y0.1,y0.2.1,y0.2.2.1,()),()))))
def Zbb_L1(k_rec:Ua×Int×List Ja×Unit->Int->Bool->Ua->Option (((Ua×Int×List Ja×Unit)×Unit)×Int×Unit))(y:(Ua×Int×List Ja×Unit)×Int×(Ja×Unit)×Ub×Bool×Ua×Ub×Unit):Option ((Ua×Int×List Ja×Unit)×Int×Unit⊕(Ua×Int×List Ja×Unit)×Unit):=
 iter (λ(y:(Ua×Int×List Ja×Unit)×Int×(Ja×Unit)×Ub×Bool×Ua×Ub×Unit)=>Zbb_L1b k_rec y.1 y.2.1 y.2.2.1 y.2.2.2.1 y.2.2.2.2.1 y.2.2.2.2.2.1 y.2.2.2.2.2.2.1) rounds y
def Zbb_R(k_rec:Ua×Int×List Ja×Unit->Int->Bool->Ua->Option (((Ua×Int×List Ja×Unit)×Unit)×Int×Unit))(a0:Ua×Int×List Ja×Unit)(a1:Int)(a2:Bool)(a3:Ua):Option (((Ua×Int×List Ja×Unit)×Unit)×Int×Unit):=
 (Zba (a0.1,a0.2.1,a0.2.2.1,())).bind λr1=>cond (!(decide (r1.2.2.1=0))) (some (((r1.1.1.1,r1.1.1.2.1,r1.1.1.2.2.1,()),()),r1.2.2.1,())) ((cond (decide (r1.2.1.kind=3)) (some ((r1.1.1.1,r1.1.1.2.1,r1.1.1.2.2.1,()),a1,a2,a3,(r1.2.1,()),r1.2.1.number,true,())) (some ((r1.1.1.1,r1.1.1.2.1,r1.1.1.2.2.1,()),a1,a2,a3,(r1.2.1,()),r1.2.1.number,decide (r1.2.1.kind=4),()))).bind λj2=>(cond (decide (j2.2.2.2.2.1.1.kind=5)) (some ((j2.1.1,j2.1.2.1,j2.1.2.2.1,()),j2.2.1,j2.2.2.1,j2.2.2.2.1,(j2.2.2.2.2.1.1,()),j2.2.2.2.2.2.1,j2.2.2.2.2.2.2.1,true,())) (some ((j2.1.1,j2.1.2.1,j2.1.2.2.1,()),j2.2.1,j2.2.2.1,j2.2.2.2.1,(j2.2.2.2.2.1.1,()),j2.2.2.2.2.2.1,j2.2.2.2.2.2.2.1,decide (j2.2.2.2.2.1.1.kind=6),()))).bind λj3=>cond (decide (512<=(j3.1.2.2.1.length:Int))) (some (((j3.1.1,j3.1.2.1,j3.1.2.2.1,()),()),8,())) ((cond j3.2.2.1 ((Zfo j3.2.2.2.2.1.1.kind).bind λr4=>some ((j3.1.1,j3.1.2.1,j3.1.2.2.1,()),j3.2.1,j3.2.2.1,j3.2.2.2.1,(j3.2.2.2.2.1.1,()),j3.2.2.2.2.2.1,j3.2.2.2.2.2.2.1,j3.2.2.2.2.2.2.2.1,!r4.2.1,())) (some ((j3.1.1,j3.1.2.1,j3.1.2.2.1,()),j3.2.1,j3.2.2.1,j3.2.2.2.1,(j3.2.2.2.2.1.1,()),j3.2.2.2.2.2.1,j3.2.2.2.2.2.2.1,j3.2.2.2.2.2.2.2.1,false,()))).bind λj5=>cond j5.2.2.2.2.2.2.2.2.1 (some (((j5.1.1,j5.1.2.1,j5.1.2.2.1,()),()),3,())) (cond (decide (8<j5.2.1)) (some (((j5.1.1,j5.1.2.1,j5.1.2.2.1,()),()),5,())) ((cond j5.2.2.2.2.2.2.1 (cond (decide ((1024#64).toNat<j5.2.2.2.2.2.1.toNat)) (some ((j5.1.1,j5.1.2.1,j5.1.2.2.1,()),j5.2.1,j5.2.2.1,j5.2.2.2.1,(j5.2.2.2.2.1.1,()),j5.2.2.2.2.2.1,j5.2.2.2.2.2.2.1,j5.2.2.2.2.2.2.2.1,true,())) (cond j5.2.2.2.2.2.2.2.1 (some ((j5.1.1,j5.1.2.1,j5.1.2.2.1,()),j5.2.1,j5.2.2.1,j5.2.2.2.1,(j5.2.2.2.2.1.1,()),j5.2.2.2.2.2.1,j5.2.2.2.2.2.2.1,j5.2.2.2.2.2.2.2.1,decide ((512#64).toNat<j5.2.2.2.2.2.1.toNat),())) (some ((j5.1.1,j5.1.2.1,j5.1.2.2.1,()),j5.2.1,j5.2.2.1,j5.2.2.2.1,(j5.2.2.2.2.1.1,()),j5.2.2.2.2.2.1,j5.2.2.2.2.2.2.1,j5.2.2.2.2.2.2.2.1,false,())))) (cond j5.2.2.2.2.2.2.2.1 (some ((j5.1.1,j5.1.2.1,j5.1.2.2.1,()),j5.2.1,j5.2.2.1,j5.2.2.2.1,(j5.2.2.2.2.1.1,()),j5.2.2.2.2.2.1,j5.2.2.2.2.2.2.1,j5.2.2.2.2.2.2.2.1,decide ((512#64).toNat<j5.2.2.2.2.2.1.toNat),())) (some ((j5.1.1,j5.1.2.1,j5.1.2.2.1,()),j5.2.1,j5.2.2.1,j5.2.2.2.1,(j5.2.2.2.2.1.1,()),j5.2.2.2.2.2.1,j5.2.2.2.2.2.2.1,j5.2.2.2.2.2.2.2.1,false,())))).bind λj6=>cond j6.2.2.2.2.2.2.2.2.1 (some (((j6.1.1,j6.1.2.1,j6.1.2.2.1,()),()),8,())) ((cond j6.2.2.2.2.2.2.1 (let v7:=Qb 64 (Qa .i64 ((j6.1.1.length:Int)-j6.1.2.1));some ((j6.1.1,j6.1.2.1,j6.1.2.2.1,()),j6.2.1,j6.2.2.1,j6.2.2.2.1,(j6.2.2.2.2.1.1,()),j6.2.2.2.2.2.1,j6.2.2.2.2.2.2.1,j6.2.2.2.2.2.2.2.1,decide (v7.toNat<j6.2.2.2.2.2.1.toNat),())) (some ((j6.1.1,j6.1.2.1,j6.1.2.2.1,()),j6.2.1,j6.2.2.1,j6.2.2.2.1,(j6.2.2.2.2.1.1,()),j6.2.2.2.2.2.1,j6.2.2.2.2.2.2.1,j6.2.2.2.2.2.2.2.1,false,()))).bind λj8=>cond j8.2.2.2.2.2.2.2.2.1 (some (((j8.1.1,j8.1.2.1,j8.1.2.2.1,()),()),1,())) ((cond j8.2.2.2.2.2.2.1 (let v9:=Qa .i64 (j8.1.2.1+Qa .i64 (j8.2.2.2.2.2.1.toNat:Int));cond (decide (0<=v9)&&decide (v9<=j8.1.1.length)) (cond (decide (0<=j8.1.2.1)&&decide (j8.1.2.1<=v9.toNat)) (let v10:=Qa .i64 (j8.1.2.1+Qa .i64 (j8.2.2.2.2.2.1.toNat:Int));some ((j8.1.1,v10,j8.1.2.2.1,()),j8.2.1,j8.2.2.1,j8.2.2.2.1,((⟨j8.2.2.2.2.1.1.kind,0#64,Ql j8.1.2.1.toNat (Qk v9.toNat j8.1.1)⟩:Ja),()),j8.2.2.2.2.2.1,j8.2.2.2.2.2.2.2.1,())) none) none) (some ((j8.1.1,j8.1.2.1,j8.1.2.2.1,()),j8.2.1,j8.2.2.1,j8.2.2.2.1,(j8.2.2.2.2.1.1,()),j8.2.2.2.2.2.1,j8.2.2.2.2.2.2.2.1,()))).bind λj11=>(cond (decide (j11.2.2.2.2.1.1.kind=4)) ((Zhf j11.2.2.2.2.1.1.data).bind λr12=>some ((j11.1.1,j11.1.2.1,j11.1.2.2.1,()),j11.2.1,j11.2.2.1,j11.2.2.2.1,(j11.2.2.2.2.1.1,()),j11.2.2.2.2.2.1,j11.2.2.2.2.2.2.1,!r12.2.1,())) (some ((j11.1.1,j11.1.2.1,j11.1.2.2.1,()),j11.2.1,j11.2.2.1,j11.2.2.2.1,(j11.2.2.2.2.1.1,()),j11.2.2.2.2.2.1,j11.2.2.2.2.2.2.1,false,()))).bind λj13=>cond j13.2.2.2.2.2.2.2.1 (some (((j13.1.1,j13.1.2.1,j13.1.2.2.1,()),()),6,())) ((cond j13.2.2.1 (cond (!(decide (j13.2.2.2.1=([]:Ua)))) ((Zfm j13.2.2.2.2.1.1).bind λr14=>(Zgr j13.2.2.2.1 r14.2.1).bind λr15=>some ((j13.1.1,j13.1.2.1,j13.1.2.2.1,()),j13.2.1,(j13.2.2.2.2.1.1,()),j13.2.2.2.2.2.1,j13.2.2.2.2.2.2.1,!r15.2.1,())) (some ((j13.1.1,j13.1.2.1,j13.1.2.2.1,()),j13.2.1,(j13.2.2.2.2.1.1,()),j13.2.2.2.2.2.1,j13.2.2.2.2.2.2.1,false,()))) (some ((j13.1.1,j13.1.2.1,j13.1.2.2.1,()),j13.2.1,(j13.2.2.2.2.1.1,()),j13.2.2.2.2.2.1,j13.2.2.2.2.2.2.1,false,()))).bind λj16=>cond j16.2.2.2.2.2.1 (some (((j16.1.1,j16.1.2.1,j16.1.2.2.1,()),()),7,())) (cond (small (j16.1.2.2.1.length+([j16.2.2.1.1]).length) 32) (let v17:=j16.1.2.2.1++[j16.2.2.1.1];(Zbb_L1 k_rec ((j16.1.1,j16.1.2.1,v17,()),j16.2.1,(j16.2.2.1.1,()),j16.2.2.2.1,j16.2.2.2.2.1,[],0#64,())).bind (Qh (λz23=>some (((z23.1.1,z23.1.2.1,z23.1.2.2.1,()),()),z23.2.1,())) (λz24=>some (((z24.1.1,z24.1.2.1,z24.1.2.2.1,()),()),0,())))) none))))))))
abbrev ps_Zbb:List Slot:=[qao,qc,qs,qar]
abbrev rs_Zbb:List Fld:=[qa]
def E_Zbb(k_rec:(Ua×Int×(List (Ja))×Unit)->Int->Bool->Ua->Option Ybq):Env T:=⟨tab.find,cd,globs,flc,λf ds=>match f with
  |31=>some S_Zhf
  |88=>some S_Zfm
  |106=>some ⟨ps_Zbb,rs_Zbb,λx=>k_rec x.1 x.2.1 x.2.2.1 x.2.2.2.1⟩
  |154=>some S_Zba
  |155=>some S_Zfo
  |156=>some S_Zgr
  |_=>none,λf=>match f with
  |31=>true
  |88=>true
  |155=>true
  |156=>true
  |_=>false⟩
def A_Zbb(k_rec:(Ua×Int×(List (Ja))×Unit)->Int->Bool->Ua->Option Ybq):Loc2 T:=⟨λid=>match id with
  |1=>some ⟨[(0,.ptr [(.v .str),(.v (.int .i64)),(.own 1)]),(1,.f (.v (.int .i64))),(9,.ptr [(.v (.agg 1))]),(11,.f (.v .u64)),(13,.f (.v .bool)),(14,.f (.v .str)),(15,.f (.v .u64))],[(.ret,[(0,.ptr [(.v .str),(.v (.int .i64)),(.own 1)]),(8,.f (.v (.int .i64)))]),(.exit 1,[(0,.ptr [(.v .str),(.v (.int .i64)),(.own 1)])])],Zbb_L1 k_rec,[]⟩
  |_=>none,λr=>match r with
  |6=>some ([(0,.ptr [(.v .str),(.v (.int .i64)),(.own 1)]),(1,.f (.v (.int .i64))),(2,.f (.v .bool)),(3,.f (.v .str)),(9,.ptr [(.v (.agg 1))]),(11,.f (.v .u64)),(12,.f (.v .bool))],true)
  |7=>some ([(0,.ptr [(.v .str),(.v (.int .i64)),(.own 1)]),(1,.f (.v (.int .i64))),(2,.f (.v .bool)),(3,.f (.v .str)),(9,.ptr [(.v (.agg 1))]),(11,.f (.v .u64)),(12,.f (.v .bool)),(13,.f (.v .bool))],true)
  |10=>some ([(0,.ptr [(.v .str),(.v (.int .i64)),(.own 1)]),(1,.f (.v (.int .i64))),(2,.f (.v .bool)),(3,.f (.v .str)),(9,.ptr [(.v (.agg 1))]),(11,.f (.v .u64)),(12,.f (.v .bool)),(13,.f (.v .bool)),(52,.f (.v .bool))],true)
  |14=>some ([(0,.ptr [(.v .str),(.v (.int .i64)),(.own 1)]),(1,.f (.v (.int .i64))),(2,.f (.v .bool)),(3,.f (.v .str)),(9,.ptr [(.v (.agg 1))]),(11,.f (.v .u64)),(12,.f (.v .bool)),(13,.f (.v .bool)),(63,.f (.v .bool))],true)
  |16=>some ([(0,.ptr [(.v .str),(.v (.int .i64)),(.own 1)]),(1,.f (.v (.int .i64))),(2,.f (.v .bool)),(3,.f (.v .str)),(9,.ptr [(.v (.agg 1))]),(11,.f (.v .u64)),(12,.f (.v .bool)),(13,.f (.v .bool)),(76,.f (.v .bool))],true)
  |20=>some ([(0,.ptr [(.v .str),(.v (.int .i64)),(.own 1)]),(1,.f (.v (.int .i64))),(2,.f (.v .bool)),(3,.f (.v .str)),(9,.ptr [(.v (.agg 1))]),(11,.f (.v .u64)),(13,.f (.v .bool))],true)
  |21=>some ([(0,.ptr [(.v .str),(.v (.int .i64)),(.own 1)]),(1,.f (.v (.int .i64))),(2,.f (.v .bool)),(3,.f (.v .str)),(9,.ptr [(.v (.agg 1))]),(11,.f (.v .u64)),(13,.f (.v .bool)),(129,.f (.v .bool))],true)
  |23=>some ([(0,.ptr [(.v .str),(.v (.int .i64)),(.own 1)]),(1,.f (.v (.int .i64))),(9,.ptr [(.v (.agg 1))]),(11,.f (.v .u64)),(13,.f (.v .bool)),(141,.f (.v .bool))],true)
  |_=>none⟩
theorem Vtl(k_rec:(Ua×Int×(List (Ja))×Unit)->Int->Bool->Ua->Option Ybq)(y0:(Ua×Int×(List (Ja))×Unit))(y1:Int)(y2:(Ja×Unit))(y3:Ub)(y4:Bool)(y5:Ua)(y6:Ub):run (E_Zbb k_rec) (A_Zbb k_rec) (loopAt 1 (Tryz.f106.body.getD .skip)) (layC cd [(0,.ptr [(.v .str),(.v (.int .i64)),(.own 1)]),(1,.f (.v (.int .i64))),(9,.ptr [(.v (.agg 1))]),(11,.f (.v .u64)),(13,.f (.v .bool)),(14,.f (.v .str)),(15,.f (.v .u64))] [] (y0,y1,y2,y3,y4,y5,y6,())) (roundK cd [(0,.ptr [(.v .str),(.v (.int .i64)),(.own 1)]),(1,.f (.v (.int .i64))),(9,.ptr [(.v (.agg 1))]),(11,.f (.v .u64)),(13,.f (.v .bool)),(14,.f (.v .str)),(15,.f (.v .u64))] [] [(.ret,[(0,.ptr [(.v .str),(.v (.int .i64)),(.own 1)]),(8,.f (.v (.int .i64)))]),(.exit 1,[(0,.ptr [(.v .str),(.v (.int .i64)),(.own 1)])])])=Zbb_L1b k_rec y0 y1 y2 y3 y4 y5 y6:=by kernel_rfl
theorem Vcfa(k_rec:(Ua×Int×(List (Ja))×Unit)->Int->Bool->Ua->Option Ybq)(x:tySs T ps_Zbb):run (E_Zbb k_rec) (A_Zbb k_rec) (Tryz.f106.body.getD .skip) (enterT (E_Zbb k_rec).C ps_Zbb x) (retK (E_Zbb k_rec) Tryz.f106.results.toList ps_Zbb rs_Zbb)=Zbb_R k_rec x.1 x.2.1 x.2.2.1 x.2.2.2.1:=by kernel_rfl
def Zbb_n:Nat->(Ua×Int×(List (Ja))×Unit)->Int->Bool->Ua->Option Ybq
 |0=>λ_ _ _ _=>none
 |n+1=>Zbb_R (Zbb_n n)
def Zbb(a0:(Ua×Int×(List (Ja))×Unit))(a1:Int)(a2:Bool)(a3:Ua):=Zbb_n 12 a0 a1 a2 a3
def S_Zbb:FSpec T:=⟨ps_Zbb,rs_Zbb,λx=>Zbb x.1 x.2.1 x.2.2.1 x.2.2.2.1⟩
theorem Vtm(k_rec:(Ua×Int×(List (Ja))×Unit)->Int->Bool->Ua->Option Ybq)(hk:SoundT Tryz.prog cd gdn 106 ⟨ps_Zbb,rs_Zbb,λx=>k_rec x.1 x.2.1 x.2.2.1 x.2.2.2.1⟩):EnvOk Tryz.prog (E_Zbb k_rec):=envOk (E:=(E_Zbb k_rec)) cd_ok tys fl_ok λf ds S h=>by
  dsimp only[E_Zbb]at h;split at h
  ·cases h;exact Vana
  ·cases h;exact Vtg
  ·cases h;exact hk
  ·cases h;exact Vawa
  ·cases h;exact Vasa
  ·cases h;exact Vata
  ·cases h
theorem Vtn(k_rec:(Ua×Int×(List (Ja))×Unit)->Int->Bool->Ua->Option Ybq)(hk:SoundT Tryz.prog cd gdn 106 ⟨ps_Zbb,rs_Zbb,λx=>k_rec x.1 x.2.1 x.2.2.1 x.2.2.2.1⟩):LoopOk Tryz.prog (E_Zbb k_rec) Tryz.f106.ntmps (kqOf ps_Zbb 0) (loopAt 1 (Tryz.f106.body.getD .skip)) ⟨[(0,.ptr [(.v .str),(.v (.int .i64)),(.own 1)]),(1,.f (.v (.int .i64))),(9,.ptr [(.v (.agg 1))]),(11,.f (.v .u64)),(13,.f (.v .bool)),(14,.f (.v .str)),(15,.f (.v .u64))],[(.ret,[(0,.ptr [(.v .str),(.v (.int .i64)),(.own 1)]),(8,.f (.v (.int .i64)))]),(.exit 1,[(0,.ptr [(.v .str),(.v (.int .i64)),(.own 1)])])],Zbb_L1 k_rec,[]⟩:=
 Vh2 (A:=(A_Zbb k_rec)) (done:=[]) (c0:=(Tryz.f106.body.getD .skip)) hmix (Vtm k_rec hk) Vag rounds (by kernel_rfl) (by kernel_rfl) (λx=>Vtl k_rec x.1 x.2.1 x.2.2.1 x.2.2.2.1 x.2.2.2.2.1 x.2.2.2.2.2.1 x.2.2.2.2.2.2.1) (λ_=>rfl)
theorem Vng:∀n:Nat,SoundT Tryz.prog cd gdn 106 ⟨ps_Zbb,rs_Zbb,λx=>Zbb_n n x.1 x.2.1 x.2.2.1 x.2.2.2.1⟩
 |0=>Vf9 ⟨_,Tryz.func106,by kernel_rfl,by kernel_rfl⟩
 |n+1=>Vcw (E:=E_Zbb (Zbb_n n)) (A:=A_Zbb (Zbb_n n)) (done:=[1]) (c:=(Tryz.f106.body.getD .skip)) (S:=⟨ps_Zbb,rs_Zbb,λx=>Zbb_n (n+1) x.1 x.2.1 x.2.2.1 x.2.2.2.1⟩) (fn:=Tryz.f106) hmix (Vtm _ (Vng n)) Tryz.func106 rfl (by kernel_rfl) (by kernel_rfl) (Vbt rfl (Vtn _ (Vng n)) Vag) (by kernel_rfl) (by kernel_rfl) (Vcfa (Zbb_n n))
theorem Vfha:SoundT Tryz.prog cd gdn 106 S_Zbb:=Vng 12
def c106:List (Ct T):=⟨106,none,S_Zbb,false⟩::c105
theorem o106:EnvOk Tryz.prog (mE c106):=eCons Vfha o105
def Zef(a0:Ua):Option (Unit×List Ja×Int×Int×Unit):=
 (Zbb (a0,0,[],()) 0 false []).bind λr1=>cond (!(decide (r1.2.1=0))) (some ((),[],0,r1.2.1,())) (some ((),r1.1.1.2.2.1,r1.1.1.2.1,0,()))
def c107:=cf c106 64 [qg] [qah,qa,qa] (u1 Zef)
theorem o107:EO c107:=sz o106 Tryz.func64
def Zdz(a0:Ub):O1 Int:=
 let v1:Ub:=cond (decide ((1048576#64).toNat<a0.toNat)) 1048576#64 a0;rt (Qa .i64 (v1.toNat:Int))
def c108:=ct c107 67 [qd] [qa] (u1 Zdz)
theorem o108:EO c108:=sz o107 Tryz.func67
def Zfd(a0:Ua):Option (Unit×Jg×Int×Bool×Unit):=
 (Zef a0).bind λr1=>cond (!(decide (r1.2.2.2.1=0))) (some ((),{},0,false,())) (cond (!(decide ((r1.2.1.length:Int)=19))) (some ((),{},0,false,())) (cond (decide (2<(r1.2.1.length:Int))) (r1.2.1[2]?.bind λx2=>cond (decide (4<(r1.2.1.length:Int))) (r1.2.1[4]?.bind λx3=>cond (decide (6<(r1.2.1.length:Int))) (r1.2.1[6]?.bind λx4=>cond (decide (8<(r1.2.1.length:Int))) (r1.2.1[8]?.bind λx5=>cond (decide (10<(r1.2.1.length:Int))) (r1.2.1[10]?.bind λx6=>(Zdz x6.number).bind λr7=>cond (decide (12<(r1.2.1.length:Int))) (r1.2.1[12]?.bind λx8=>cond (decide (14<(r1.2.1.length:Int))) (r1.2.1[14]?.bind λx9=>(Zdz x9.number).bind λr10=>cond (decide (16<(r1.2.1.length:Int))) (r1.2.1[16]?.bind λx11=>cond (decide (18<(r1.2.1.length:Int))) (r1.2.1[18]?.bind λx12=>(Zad ⟨x2.data,x3.data,x4.data,x5.number,r7.2.1,decide (x8.number=1#64),r10.2.1,decide (x11.number=1#64),decide (x12.number=1#64)⟩).bind λr13=>cond (decide (r13.2.2.1=0)) (cond (decide (0<=r1.2.2.1)&&decide (r1.2.2.1<=a0.length)) (some ((),⟨x2.data,x3.data,x4.data,x5.number,r7.2.1,decide (x8.number=1#64),r10.2.1,decide (x11.number=1#64),decide (x12.number=1#64)⟩,r1.2.2.1,decide (r13.2.1=Qk r1.2.2.1.toNat a0),())) none) (some ((),⟨x2.data,x3.data,x4.data,x5.number,r7.2.1,decide (x8.number=1#64),r10.2.1,decide (x11.number=1#64),decide (x12.number=1#64)⟩,r1.2.2.1,false,()))) none) none) none) none) none) none) none) none) none))
def c109:=ct c108 283 [qg] [qak,qa,qf] (u1 Zfd)
theorem o109:EO c109:=sx o108 (lcA [] []) Tryz.func283 dn
def Zac(a0:Ua):O2 Jg Int:=
 (Zfd a0).bind λr1=>cond (!r1.2.2.2.1) (some ((),{},2,())) (cond (!(decide (r1.2.2.1=a0.length))) (some ((),{},2,())) (ru r1.2.1 0))
def c110:=ct c109 271 [qg] [qak,qa] (u1 Zac)
theorem o110:EO c110:=sz o109 Tryz.func271
def Zfl(a0:Jd)(a1:Int):O2 Jg Bool:=
 (Zhx a0.jp (Qa .i64 (64+a1))).bind λr1=>(Zac r1.2.1).bind λr2=>ru r2.2.1 (decide (r2.2.2.1=0))
def c111:=ct c110 253 [qau,qc] [qak,qf] (u2 Zfl)
theorem o111:EO c111:=sz o110 Tryz.func253
def Zfj(a0:Jg):O1 Ua:=
 (Zhp 0#64 0#64 a0).bind λr1=>rt r1.2.1
def c112:=cf c111 219 [(.f qak)] [qk] (u1 Zfj)
theorem o112:EO c112:=sz o111 Tryz.func219
def Zal(a0:Ua):O2 Jp Int:=
 cond (!(decide ((a0.length:Int)=11))) (some ((),{},2,())) (cond (decide (8<=(a0.length:Int))) ((Zgq (Qk 8 a0)).bind λr1=>(getI a0 (8:Int)).bind λx2=>(getI a0 (9:Int)).bind λx3=>(getI a0 (10:Int)).bind λx4=>(Zdy ⟨r1.2.1,(x2.toBitVec.toNat:Int),(x3.toBitVec.toNat:Int),(x4.toBitVec.toNat:Int)⟩).bind λr5=>cond (!r5.2.1) (some ((),{},2,())) (ru ⟨r1.2.1,(x2.toBitVec.toNat:Int),(x3.toBitVec.toNat:Int),(x4.toBitVec.toNat:Int)⟩ 0)) none)
def c113:=ct c112 270 [qg] [qbb,qa] (u1 Zal)
theorem o113:EO c113:=sx o112 (lcA [] []) Tryz.func270 dn
def Zee(a0:Jd)(a1:Int):O2 Jp Bool:=
 (Zhx a0.jp (Qa .i64 (16+a1))).bind λr1=>(Zal r1.2.1).bind λr2=>ru r2.2.1 (decide (r2.2.2.1=0))
def c114:=ct c113 220 [qau,qc] [qbb,qf] (u2 Zee)
theorem o114:EO c114:=sz o113 Tryz.func220
def Zdh_L0b(y0:Ua)(y1:Jd×Unit)(y2:Int):Option ((Ua×(Jd×Unit)×Int×Unit)⊕((Int×Bool×Unit)⊕(Unit))):=
 cond (decide (y2<16)) ((Zee y1.1 y2).bind λr1=>cond r1.2.2.1 ((Zgi y0).bind λr2=>cond (decide (r1.2.1.tag=r2.2.1)) (some (Qd (Qe (y2,true,())))) (some (Qe (y0,(y1.1,()),Qa .i64 (y2+1),())))) (some (Qe (y0,(y1.1,()),Qa .i64 (y2+1),())))) (some (Qd (Qd ())))
def Zdh_L0:=i3 Zdh_L0b
def Zdh(a0:Jd)(a1:Ua):O2 Int Bool:=
 (Zdh_L0 (a1,(a0,()),1,())).bind (Qh (λz3=>ru z3.1 z3.2.1) (λz4=>ru 0 false))
def c115:=ct c114 193 [qau,qg] [qa,qf] (u2 Zdh)
def s_Zdh_L0:LSpec T:=⟨[(1,qg),(2,qe),(6,qc)],[(.ret,[(4,qc),(5,qs)]),(.exit 0,[])],Zdh_L0,[]⟩
def A_Zdh:Loc2 T:=lcA [(0,s_Zdh_L0)] []
theorem Vto:LO c115 Tryz.f193 0 s_Zdh_L0:=lx o114 A_Zdh dn (λ_=>rfl)
theorem o115:EO c115:=sx o114 A_Zdh Tryz.func193 (dc rfl Vto dn)
def Zea(a0:Jd)(a1:List Jf)(a2:Int):Option (Unit×Jd×Int×Int×Unit):=
 cond (!a0.on) (some ((),a0,0,17,())) ((Zhy a0.jp a1 a2).bind λr1=>cond (!(decide (r1.2.2.2.1=0))) ((Zdj a0 r1.2.1 r1.2.2.2.1).bind λr2=>some ((),r2.2.1,r2.2.2.1,r2.2.2.2.1,())) (some ((),{a0 with jp:=r1.2.1},r1.2.2.1,0,())))
def c116:=cf c115 258 [qau,qm,qc] [qp,qa,qa] (u3 Zea)
theorem o116:EO c116:=sz o115 Tryz.func258
def Zgj_L0b(y0:Ua)(y1:Int)(y2:Jd×Unit)(y3:Jg×Unit)(y4:Jd×Unit)(y5:Ua)(y6:Jp×Unit)(y7 y8 y9:Int):Option ((Ua×Int×(Jd×Unit)×(Jg×Unit)×(Jd×Unit)×Ua×(Jp×Unit)×Int×Int×Int×Unit)⊕(Ua×Int×(Jd×Unit)×(Jg×Unit)×(Jd×Unit)×Ua×(Jp×Unit)×Int×Int×Unit)):=
 cond (decide (0<=y9)) (cond y3.1.jg ((Zfl y2.1 y9).bind λr4=>cond (!r4.2.2.1) (some (Qe (y0,y1,(y2.1,()),(y3.1,()),(y4.1,()),y5,(y6.1,()),y9,y8,Qa .i64 (y9-1),()))) (some (Qe (y0,y1,(y2.1,()),(y3.1,()),(y4.1,()),y5,(y6.1,()),y7,y8,Qa .i64 (y9-1),())))) (some (Qd (y0,y1,(y2.1,()),(y3.1,()),(y4.1,()),y5,(y6.1,()),y7,y8,())))) (some (Qd (y0,y1,(y2.1,()),(y3.1,()),(y4.1,()),y5,(y6.1,()),y7,y8,())))
def Zgj_L0:=i10 Zgj_L0b
def Zgj_L2b(y0:Ua)(y1:Int)(y2:Jd×Unit)(y3:Jg×Unit)(y4:Jd×Unit)(y5:Ua)(y6:Jp×Unit)(y7 y8 y9:Int):Option ((Ua×Int×(Jd×Unit)×(Jg×Unit)×(Jd×Unit)×Ua×(Jp×Unit)×Int×Int×Int×Unit)⊕(Ua×Int×(Jd×Unit)×(Jg×Unit)×(Jd×Unit)×Ua×(Jp×Unit)×Int×Int×Unit)):=
 cond (decide (0<=y9)) (cond y3.1.jg ((Zfl y2.1 y9).bind λr6=>cond r6.2.2.1 (cond (decide (r6.2.1.rP=y3.1.rP)) (cond (decide (r6.2.1.user=y3.1.user)) ((Zfj r6.2.1).bind λr7=>(Zdh y2.1 r7.2.1).bind λr8=>some (Qe (y0,y1,(y2.1,()),(y3.1,()),(y4.1,()),y5,(y6.1,()),y9,r8.2.1,Qa .i64 (y9-1),()))) (some (Qe (y0,y1,(y2.1,()),(y3.1,()),(y4.1,()),y5,(y6.1,()),y7,y8,Qa .i64 (y9-1),())))) (some (Qe (y0,y1,(y2.1,()),(y3.1,()),(y4.1,()),y5,(y6.1,()),y7,y8,Qa .i64 (y9-1),())))) (some (Qe (y0,y1,(y2.1,()),(y3.1,()),(y4.1,()),y5,(y6.1,()),y7,y8,Qa .i64 (y9-1),())))) (some (Qd (y0,y1,(y2.1,()),(y3.1,()),(y4.1,()),y5,(y6.1,()),y7,y8,())))) (some (Qd (y0,y1,(y2.1,()),(y3.1,()),(y4.1,()),y5,(y6.1,()),y7,y8,())))
def Zgj_L2:=i10 Zgj_L2b
def Zgj_L4b(y0:Int)(y1:Jd×Unit)(y2:Jg×Unit)(y3:Jd×Unit)(y4:Ua)(y5:Jp×Unit)(y6 y7 y8 y9:Int):Option ((Int×(Jd×Unit)×(Jg×Unit)×(Jd×Unit)×Ua×(Jp×Unit)×Int×Int×Int×Int×Unit)⊕(Int×(Jd×Unit)×(Jg×Unit)×(Jd×Unit)×Ua×(Jp×Unit)×Int×Int×Int×Unit)):=
 cond (decide (1<=y9)) ((Zee y1.1 y9).bind λr11=>cond (!r11.2.2.1) (some (Qe (y0,(y1.1,()),(y2.1,()),(y3.1,()),y4,(y5.1,()),y6,y7,y9,Qa .i64 (y9-1),()))) (cond (decide (y9=y7)) (some (Qe (y0,(y1.1,()),(y2.1,()),(y3.1,()),y4,(y5.1,()),y6,y7,y9,Qa .i64 (y9-1),()))) (some (Qe (y0,(y1.1,()),(y2.1,()),(y3.1,()),y4,(y5.1,()),y6,y7,y8,Qa .i64 (y9-1),()))))) (some (Qd (y0,(y1.1,()),(y2.1,()),(y3.1,()),y4,(y5.1,()),y6,y7,y8,())))
def Zgj_L4:=i10 Zgj_L4b
def Zgj(a0:Jd)(a1:Jg)(a2:Ua)(a3 a4 a5 a6:Int):Option (Unit×Jd×Int×Int×Unit):=
 cond (!a0.on) (some ((),a0,0,17,())) ((Zad a1).bind λr1=>cond (!(decide (r1.2.2.1=0))) (some ((),a0,0,r1.2.2.1,())) ((Zgi a2).bind λr2=>(Zdy ⟨r2.2.1,a3,a4,a5⟩).bind λr3=>cond (!r3.2.1) (some ((),a0,0,9,())) ((Zgj_L0 (a2,a6,(a0,()),(a1,()),({},()),r1.2.1,(⟨r2.2.1,a3,a4,a5⟩,()),-1,0,7,())).bind λz5=>(Zgj_L2 (z5.1,z5.2.1,(z5.2.2.1.1,()),(z5.2.2.2.1.1,()),(z5.2.2.2.2.1.1,()),z5.2.2.2.2.2.1,(z5.2.2.2.2.2.2.1.1,()),z5.2.2.2.2.2.2.2.1,z5.2.2.2.2.2.2.2.2.1,7,())).bind λz9=>(Zdh z9.2.2.1.1 z9.1).bind λr10=>cond r10.2.2.1 (some ((),z9.2.2.1.1,0,10,())) ((Zgj_L4 (z9.2.1,(z9.2.2.1.1,()),(z9.2.2.2.1.1,()),(z9.2.2.2.2.1.1,()),z9.2.2.2.2.2.1,(z9.2.2.2.2.2.2.1.1,()),z9.2.2.2.2.2.2.2.1,z9.2.2.2.2.2.2.2.2.1,0,15,())).bind λz12=>cond (decide (z12.2.2.2.2.2.2.2.2.1=0)) (some ((),z12.2.1.1,0,12,())) (cond z12.2.2.1.1.jg (cond (decide (z12.2.2.2.2.2.2.1<0)) (some ((),z12.2.1.1,0,12,())) ((cond z12.2.2.1.1.jg (let v13:List Jf:=[⟨Qa .i64 (64+z12.2.2.2.2.2.2.1),z12.2.2.2.2.1⟩];cond (small v13.length 32) (some (z12.1,(z12.2.1.1,()),(z12.2.2.2.1.1,()),(z12.2.2.2.2.2.1.1,()),z12.2.2.2.2.2.2.2.1,z12.2.2.2.2.2.2.2.2.1,v13,())) none) (some (z12.1,(z12.2.1.1,()),(z12.2.2.2.1.1,()),(z12.2.2.2.2.2.1.1,()),z12.2.2.2.2.2.2.2.1,z12.2.2.2.2.2.2.2.2.1,[],()))).bind λj14=>(Zam j14.2.2.2.1.1).bind λr15=>let v16:List Jf:=[⟨Qa .i64 (16+j14.2.2.2.2.2.1),r15.2.1⟩];cond (small (j14.2.2.2.2.2.2.1.length+(v16:List Jf).length) 32) ((cond (!(decide (j14.2.2.2.2.1=0))) (cond (!(decide (j14.2.2.2.2.1=j14.2.2.2.2.2.1))) (let v17:List Jf:=[{key:=Qa .i64 (16+j14.2.2.2.2.1)}];cond (small ((j14.2.2.2.2.2.2.1++v16).length+(v17:List Jf).length) 32) (some (j14.1,(j14.2.1.1,()),(j14.2.2.1.1,()),j14.2.2.2.2.2.2.1++v16++v17,())) none) (some (j14.1,(j14.2.1.1,()),(j14.2.2.1.1,()),j14.2.2.2.2.2.2.1++v16,()))) (some (j14.1,(j14.2.1.1,()),(j14.2.2.1.1,()),j14.2.2.2.2.2.2.1++v16,()))).bind λj18=>(Zea j18.2.1.1 j18.2.2.2.1 j18.1).bind λr19=>some ((),r19.2.1,r19.2.2.1,r19.2.2.2.1,())) none)) ((cond z12.2.2.1.1.jg (let v20:List Jf:=[⟨Qa .i64 (64+z12.2.2.2.2.2.2.1),z12.2.2.2.2.1⟩];cond (small v20.length 32) (some (z12.1,(z12.2.1.1,()),(z12.2.2.2.1.1,()),(z12.2.2.2.2.2.1.1,()),z12.2.2.2.2.2.2.2.1,z12.2.2.2.2.2.2.2.2.1,v20,())) none) (some (z12.1,(z12.2.1.1,()),(z12.2.2.2.1.1,()),(z12.2.2.2.2.2.1.1,()),z12.2.2.2.2.2.2.2.1,z12.2.2.2.2.2.2.2.2.1,[],()))).bind λj21=>(Zam j21.2.2.2.1.1).bind λr22=>let v23:List Jf:=[⟨Qa .i64 (16+j21.2.2.2.2.2.1),r22.2.1⟩];cond (small (j21.2.2.2.2.2.2.1.length+(v23:List Jf).length) 32) ((cond (!(decide (j21.2.2.2.2.1=0))) (cond (!(decide (j21.2.2.2.2.1=j21.2.2.2.2.2.1))) (let v24:List Jf:=[{key:=Qa .i64 (16+j21.2.2.2.2.1)}];cond (small ((j21.2.2.2.2.2.2.1++v23).length+(v24:List Jf).length) 32) (some (j21.1,(j21.2.1.1,()),(j21.2.2.1.1,()),j21.2.2.2.2.2.2.1++v23++v24,())) none) (some (j21.1,(j21.2.1.1,()),(j21.2.2.1.1,()),j21.2.2.2.2.2.2.1++v23,()))) (some (j21.1,(j21.2.1.1,()),(j21.2.2.1.1,()),j21.2.2.2.2.2.2.1++v23,()))).bind λj25=>(Zea j25.2.1.1 j25.2.2.2.1 j25.1).bind λr26=>some ((),r26.2.1,r26.2.2.1,r26.2.2.2.1,())) none))))))
def c117:=cf c116 198 [qau,(.f qak),qg,qc,qc,qc,qc] [qp,qa,qa] λx=>Zgj x.1 x.2.1 x.2.2.1 x.2.2.2.1 x.2.2.2.2.1 x.2.2.2.2.2.1 x.2.2.2.2.2.2.1
def s_Zgj_L0:LSpec T:=⟨[(2,qg),(6,qc),(7,qe),(8,qu),(14,qe),(17,qag),(19,qal),(20,qc),(21,qc),(22,qc)],[(.exit 0,[(2,qg),(6,qc),(7,qe),(8,qu),(14,qe),(17,qag),(19,qal),(20,qc),(21,qc)])],Zgj_L0,[]⟩
def s_Zgj_L2:LSpec T:=⟨[(2,qg),(6,qc),(7,qe),(8,qu),(14,qe),(17,qag),(19,qal),(20,qc),(21,qc),(25,qc)],[(.exit 2,[(2,qg),(6,qc),(7,qe),(8,qu),(14,qe),(17,qag),(19,qal),(20,qc),(21,qc)])],Zgj_L2,[]⟩
def s_Zgj_L4:LSpec T:=⟨[(6,qc),(7,qe),(8,qu),(14,qe),(17,qag),(19,qal),(20,qc),(21,qc),(30,qc),(31,qc)],[(.exit 4,[(6,qc),(7,qe),(8,qu),(14,qe),(17,qag),(19,qal),(20,qc),(21,qc),(30,qc)])],Zgj_L4,[]⟩
def A_Zgj:Loc2 T:=lcA [(0,s_Zgj_L0),(2,s_Zgj_L2),(4,s_Zgj_L4)] [(38,[(6,qc),(7,qe),(14,qe),(19,qal),(21,qc),(30,qc),(34,qap)],true),(41,[(6,qc),(7,qe),(14,qe),(34,qap)],true)]
theorem Vg5:LO c117 Tryz.f198 0 s_Zgj_L0:=lx o116 A_Zgj dn (λ_=>rfl)
theorem Vls:LO c117 Tryz.f198 2 s_Zgj_L2:=lx o116 A_Zgj (dc rfl Vg5 dn) (λ_=>rfl)
theorem Vtp:LO c117 Tryz.f198 4 s_Zgj_L4:=lx o116 A_Zgj (dc rfl Vg5 (dc rfl Vls dn)) (λ_=>rfl)
theorem o117:EO c117:=sx o116 A_Zgj Tryz.func198 (dc rfl Vg5 (dc rfl Vls (dc rfl Vtp dn)))
def Zbj(a0:Je×Unit)(a1:Jd)(a2 a3:Int):Option (((Je×Unit)×Unit)×Unit):=
 cond (decide (a3=0)) ((Zbi ({a0.1 with d:=a1,jaa:=a2},()) a3).bind λr1=>some (((r1.1.1.1,()),()),())) (cond (decide (a3=16)) ((Zbi ({a0.1 with d:=a1,jaa:=a2},()) a3).bind λr2=>some (((r2.1.1.1,()),()),())) ((Zbi ({a0.1 with d:=a1},()) a3).bind λr3=>some (((r3.1.1.1,()),()),())))
def c118:=cf c117 195 [ql,qau,qc,qc] [] (u4 Zbj)
theorem o118:EO c118:=sz o117 Tryz.func195
def Zen(a0:Int):O1 Bool:=
 cond (decide (0<=a0)) (rt (decide (a0<=4))) (rt false)
def c119:=ct c118 272 [qc] [qf] (u1 Zen)
theorem o119:EO c119:=sz o118 Tryz.func272
def Zek(a0:Ub)(a1 a2:Int):O1 Ub:=
 let v1:List Ub:=[Qb 64 a1,Qb 64 a2];(passkeyref1_Words v1).bind λr2=>(Zhr a0 1 r2.2.1).bind λr3=>rt r3.2.1
def S_Zek:FSpec T:=⟨[qd,qc,qc],[qr],λx=>Zek x.1 x.2.1 x.2.2.1⟩
theorem Vaxa:SoundT Tryz.prog cd gdn 293 S_Zek:=
 sndC hmix o119 (lcA [] []) Tryz.func293 Vag (by kernel_rfl) (by kernel_rfl) λx=>by kernel_rfl
def c120:List (Ct T):=⟨293,none,S_Zek,true⟩::c119
theorem o120:EnvOk Tryz.prog (mE c120):=eCons Vaxa o119
def Zhu_L0b(y0 y1 y2:Int)(y3:Ub)(y4:Int):Option ((Int×Int×Int×Ub×Int×Unit)⊕(Ub×Unit)):=
 cond (decide (y4<(cond (decide (15<y2)) (15:Int) y2))) (let v1:List Ub:=[Qb 64 y0,Qb 64 y1,Qb 64 y4,y3];(passkeyref1_Words v1).bind λr2=>(Zgo 1 r2.2.1).bind λr3=>some (Qe (y0,y1,y2,r3.2.1,Qa .i64 (y4+1),()))) (some (Qd (y3,())))
def Zhu_L0:=i5 Zhu_L0b
def Zhu(a0 a1 a2 a3:Int)(a4:Ub):O1 Ub:=
 (Zhu_L0 (a0,a1,a3,a4,cond (decide (a2<0)) 0 a2,())).bind λz4=>rt z4.1
def S_Zhu:FSpec T:=⟨[qc,qc,qc,qc,qd],[qr],λx=>Zhu x.1 x.2.1 x.2.2.1 x.2.2.2.1 x.2.2.2.2.1⟩
def s_Zhu_L0:LSpec T:=⟨[(0,qc),(1,qc),(3,qc),(4,qd),(11,qc)],[(.exit 0,[(4,qd)])],Zhu_L0,[]⟩
def A_Zhu:Loc2 T:=lcA [(0,s_Zhu_L0)] []
theorem Vtq:LoopOk Tryz.prog (mE c120) Tryz.f292.ntmps (kqOf S_Zhu.ps 0) (loopAt 0 (bodyOf Tryz.f292)) s_Zhu_L0:=
 lpC hmix o120 A_Zhu Vag 0 (st:=λy=>Zhu_L0b y.1 y.2.1 y.2.2.1 y.2.2.2.1 y.2.2.2.2.1) (λ_=>rfl) (by kernel_rfl) (by kernel_rfl) λx=>by kernel_rfl
theorem Vaya:SoundT Tryz.prog cd gdn 292 S_Zhu:=
 sndC hmix o120 A_Zhu Tryz.func292 (Vbt rfl Vtq Vag) (by kernel_rfl) (by kernel_rfl) λx=>by kernel_rfl
def c121:List (Ct T):=⟨292,none,S_Zhu,true⟩::c120
theorem o121:EnvOk Tryz.prog (mE c121):=eCons Vaya o120
def Zgw(a0:Int)(a1:List Ub):O1 Ub:=
 (passkeyref1_Words [Qb 64 a0]).bind λr1=>(passkeyref1_Words a1).bind λr2=>cond (small (r1.2.1.length+(r2.2.1:Ua).length) 1) ((Zgo 2 (r1.2.1++r2.2.1)).bind λr3=>rt r3.2.1) none
def S_Zgw:FSpec T:=⟨[qc,qax],[qr],λx=>Zgw x.1 x.2.1⟩
theorem Vaza:SoundT Tryz.prog cd gdn 294 S_Zgw:=
 sndC hmix o121 (lcA [] []) Tryz.func294 Vag (by kernel_rfl) (by kernel_rfl) λx=>by kernel_rfl
def c122:List (Ct T):=⟨294,none,S_Zgw,true⟩::c121
theorem o122:EnvOk Tryz.prog (mE c122):=eCons Vaza o121
abbrev Y_Zgt_L0:=(Ub×Int×(List Ub)×Int×Unit)
abbrev Z_Zgt_L0:=(Int×(List Ub)×Unit)
def Zgt_L0b(y0:Ub)(y1:Int)(y2:List Ub)(y3:Int):Option (Y_Zgt_L0⊕Z_Zgt_L0):=
 cond (decide (y3<18)) ((Zek y0 y1 y3).bind λr1=>(Zhu y1 y3 0 15 r1.2.1).bind λr2=>cond (small (y2.length+([r2.2.1]).length) 8) (some (Qe (y0,y1,y2++[r2.2.1],Qa .i64 (y3+1),()))) none) (some (Qd (y1,y2,())))
def Zgt_L0:=i4 Zgt_L0b
def ZgtG(k_Zek:Ub->Int->Int->O1 Ub)(k_Zhu:Int->Int->Int->Int->Ub->O1 Ub)(k_Zgw:Int->List Ub->O1 Ub)(l_Zgt_L0:Y_Zgt_L0->Option Z_Zgt_L0)(a0:Ub)(a1:Int):O1 Ub:=
 (l_Zgt_L0 (a0,a1,[],(0:Int),())).bind λz3=>(k_Zgw z3.1 z3.2.1).bind λr4=>rt r4.2.1
def Zgt(a0:Ub)(a1:Int):O1 Ub:=
 ZgtG Zek Zhu Zgw Zgt_L0 a0 a1
def S_Zgt:FSpec T:=⟨[qd,qc],[qr],λx=>Zgt x.1 x.2.1⟩
def EG_Zgt(k_Zek:Ub->Int->Int->Option ((Unit)×(Ub×Unit)))(k_Zhu:Int->Int->Int->Int->Ub->Option ((Unit)×(Ub×Unit)))(k_Zgw:Int->(List Ub)->Option ((Unit)×(Ub×Unit)))(l_Zgt_L0:Y_Zgt_L0->Option Z_Zgt_L0):Env T:=⟨tab.find,cd,globs,flc,λf ds=>match f with
  |292=>some ⟨S_Zhu.ps,S_Zhu.rs,λx=>k_Zhu x.1 x.2.1 x.2.2.1 x.2.2.2.1 x.2.2.2.2.1⟩
  |293=>some ⟨S_Zek.ps,S_Zek.rs,λx=>k_Zek x.1 x.2.1 x.2.2.1⟩
  |294=>some ⟨S_Zgw.ps,S_Zgw.rs,λx=>k_Zgw x.1 x.2.1⟩
  |_=>none,λf=>match f with
  |292=>true
  |293=>true
  |294=>true
  |_=>false⟩
def E_Zgt:Env T:=EG_Zgt Zek Zhu Zgw Zgt_L0
def AG_Zgt(k_Zek:Ub->Int->Int->Option ((Unit)×(Ub×Unit)))(k_Zhu:Int->Int->Int->Int->Ub->Option ((Unit)×(Ub×Unit)))(k_Zgw:Int->(List Ub)->Option ((Unit)×(Ub×Unit)))(l_Zgt_L0:Y_Zgt_L0->Option Z_Zgt_L0):Loc2 T:=⟨λid=>match id with
  |0=>some ⟨[(0,.f (.v .u64)),(1,.f (.v (.int .i64))),(5,.f (.own 8)),(6,.f (.v (.int .i64)))],[(.exit 0,[(1,.f (.v (.int .i64))),(5,.f (.own 8))])],l_Zgt_L0,[]⟩
  |_=>none,λr=>match r with
  |_=>none⟩
def A_Zgt:Loc2 T:=AG_Zgt Zek Zhu Zgw Zgt_L0
theorem Vtr(y0:Ub)(y1:Int)(y2:(List Ub))(y3:Int):run E_Zgt A_Zgt (loopAt 0 (Tryz.f289.body.getD .skip)) (layC cd [(0,.f (.v .u64)),(1,.f (.v (.int .i64))),(5,.f (.own 8)),(6,.f (.v (.int .i64)))] [] (y0,y1,y2,y3,())) (roundK cd [(0,.f (.v .u64)),(1,.f (.v (.int .i64))),(5,.f (.own 8)),(6,.f (.v (.int .i64)))] [] [(.exit 0,[(1,.f (.v (.int .i64))),(5,.f (.own 8))])])=Zgt_L0b y0 y1 y2 y3:=by kernel_rfl
theorem Vcga(k_Zek:Ub->Int->Int->Option ((Unit)×(Ub×Unit)))(k_Zhu:Int->Int->Int->Int->Ub->Option ((Unit)×(Ub×Unit)))(k_Zgw:Int->(List Ub)->Option ((Unit)×(Ub×Unit)))(l_Zgt_L0:Y_Zgt_L0->Option Z_Zgt_L0)(x:tySs T S_Zgt.ps):run (EG_Zgt k_Zek k_Zhu k_Zgw l_Zgt_L0) (AG_Zgt k_Zek k_Zhu k_Zgw l_Zgt_L0) (Tryz.f289.body.getD .skip) (enterT (EG_Zgt k_Zek k_Zhu k_Zgw l_Zgt_L0).C S_Zgt.ps x) (retK (EG_Zgt k_Zek k_Zhu k_Zgw l_Zgt_L0) Tryz.f289.results.toList S_Zgt.ps S_Zgt.rs)=ZgtG k_Zek k_Zhu k_Zgw l_Zgt_L0 x.1 x.2.1:=by kernel_rfl
theorem Vfia(x:tySs T S_Zgt.ps):run E_Zgt A_Zgt (Tryz.f289.body.getD .skip) (enterT E_Zgt.C S_Zgt.ps x) (retK E_Zgt Tryz.f289.results.toList S_Zgt.ps S_Zgt.rs)=S_Zgt.fn x:=Eq.mp (by kernel_rfl) (Vcga Zek Zhu Zgw Zgt_L0 x)
theorem Vts:EnvOk Tryz.prog E_Zgt:=envOk (E:=E_Zgt) cd_ok tys fl_ok λf ds S h=>by
  dsimp only[E_Zgt,EG_Zgt]at h;split at h
  ·cases h;exact Vaya
  ·cases h;exact Vaxa
  ·cases h;exact Vaza
  ·cases h
theorem Vtt:LoopOk Tryz.prog E_Zgt Tryz.f289.ntmps (kqOf S_Zgt.ps 0) (loopAt 0 (Tryz.f289.body.getD .skip)) ⟨[(0,.f (.v .u64)),(1,.f (.v (.int .i64))),(5,.f (.own 8)),(6,.f (.v (.int .i64)))],[(.exit 0,[(1,.f (.v (.int .i64))),(5,.f (.own 8))])],Zgt_L0,[]⟩:=
 Vh2 (A:=A_Zgt) (done:=[]) (c0:=(Tryz.f289.body.getD .skip)) hmix Vts Vag rounds (by kernel_rfl) (by kernel_rfl) (λx=>Vtr x.1 x.2.1 x.2.2.1 x.2.2.2.1) (λ_=>rfl)
theorem Va0a:SoundT Tryz.prog cd gdn 289 S_Zgt:=
 Vcw (E:=E_Zgt) (A:=A_Zgt) (done:=[0]) (c:=(Tryz.f289.body.getD .skip)) (S:=S_Zgt) (fn:=Tryz.f289) hmix Vts Tryz.func289 rfl (by kernel_rfl) (by kernel_rfl) (Vbt rfl Vtt Vag) (by kernel_rfl) (by kernel_rfl) Vfia
def c123:List (Ct T):=⟨289,none,S_Zgt,true⟩::c122
theorem o123:EnvOk Tryz.prog (mE c123):=eCons Va0a o122
def Zeo(a0:Int)(a1 a2:Ub):O1 Ub:=
 (passkeyref1_Words [Qb 64 a0,a1,a2]).bind λr1=>(Zgo 3 r1.2.1).bind λr2=>rt r2.2.1
def S_Zeo:FSpec T:=⟨[qc,qd,qd],[qr],λx=>Zeo x.1 x.2.1 x.2.2.1⟩
theorem Va1a:SoundT Tryz.prog cd gdn 290 S_Zeo:=
 sndC hmix o123 (lcA [] []) Tryz.func290 Vag (by kernel_rfl) (by kernel_rfl) λx=>by kernel_rfl
def c124:List (Ct T):=⟨290,none,S_Zeo,true⟩::c123
theorem o124:EnvOk Tryz.prog (mE c124):=eCons Va1a o123
def Zgx_R(k_rec:Ub->Int->Int->O1 Ub)(a0:Ub)(a1 a2:Int):O1 Ub:=
 cond (decide (a1=0)) ((Zgt a0 a2).bind λr1=>rt r1.2.1) ((k_rec a0 (Qa .i64 (a1-1)) (Qa .i64 (2*a2))).bind λr2=>let v3:=Qa .i64 (Qa .i64 (2*a2)+1);(k_rec a0 (Qa .i64 (a1-1)) v3).bind λr4=>(Zeo a1 r2.2.1 r4.2.1).bind λr5=>rt r5.2.1)
abbrev ps_Zgx:List Slot:=[qd,qc,qc]
abbrev rs_Zgx:List Fld:=[qr]
def Zgx_RG(k_rec:Ub->Int->Int->O1 Ub)(k_Zgt:Ub->Int->O1 Ub)(k_Zeo:Int->Ub->Ub->O1 Ub)(a0:Ub)(a1 a2:Int):O1 Ub:=
 cond (decide (a1=0)) ((k_Zgt a0 a2).bind λr1=>rt r1.2.1) ((k_rec a0 (Qa .i64 (a1-1)) (Qa .i64 (2*a2))).bind λr2=>let v3:=Qa .i64 (Qa .i64 (2*a2)+1);(k_rec a0 (Qa .i64 (a1-1)) v3).bind λr4=>(k_Zeo a1 r2.2.1 r4.2.1).bind λr5=>rt r5.2.1)
def EG_Zgx(k_rec:Ub->Int->Int->Option ((Unit)×(Ub×Unit)))(k_Zgt:Ub->Int->Option ((Unit)×(Ub×Unit)))(k_Zeo:Int->Ub->Ub->Option ((Unit)×(Ub×Unit))):Env T:=⟨tab.find,cd,globs,flc,λf ds=>match f with
  |284=>some ⟨ps_Zgx,rs_Zgx,λx=>k_rec x.1 x.2.1 x.2.2.1⟩
  |289=>some ⟨S_Zgt.ps,S_Zgt.rs,λx=>k_Zgt x.1 x.2.1⟩
  |290=>some ⟨S_Zeo.ps,S_Zeo.rs,λx=>k_Zeo x.1 x.2.1 x.2.2.1⟩
  |_=>none,λf=>match f with
  |284=>true
  |289=>true
  |290=>true
  |_=>false⟩
def E_Zgx(k_rec:Ub->Int->Int->Option ((Unit)×(Ub×Unit))):Env T:=EG_Zgx k_rec Zgt Zeo
def A_Zgx(k_rec:Ub->Int->Int->Option ((Unit)×(Ub×Unit))):Loc2 T:=⟨λid=>match id with
  |_=>none,λr=>match r with
  |_=>none⟩
theorem Vxy(k_rec:Ub->Int->Int->Option ((Unit)×(Ub×Unit)))(k_Zgt:Ub->Int->Option ((Unit)×(Ub×Unit)))(k_Zeo:Int->Ub->Ub->Option ((Unit)×(Ub×Unit)))(x:tySs T ps_Zgx):run (EG_Zgx k_rec k_Zgt k_Zeo) (A_Zgx k_rec) (Tryz.f284.body.getD .skip) (enterT (EG_Zgx k_rec k_Zgt k_Zeo).C ps_Zgx x) (retK (EG_Zgx k_rec k_Zgt k_Zeo) Tryz.f284.results.toList ps_Zgx rs_Zgx)=Zgx_RG k_rec k_Zgt k_Zeo x.1 x.2.1 x.2.2.1:=by kernel_rfl
theorem Vcha(k_rec:Ub->Int->Int->Option ((Unit)×(Ub×Unit)))(x:tySs T ps_Zgx):run (E_Zgx k_rec) (A_Zgx k_rec) (Tryz.f284.body.getD .skip) (enterT (E_Zgx k_rec).C ps_Zgx x) (retK (E_Zgx k_rec) Tryz.f284.results.toList ps_Zgx rs_Zgx)=Zgx_R k_rec x.1 x.2.1 x.2.2.1:=Eq.mp (by kernel_rfl) (Vxy k_rec Zgt Zeo x)
def Zgx_n:Nat->Ub->Int->Int->Option ((Unit)×(Ub×Unit))
 |0=>λ_ _ _=>none
 |n+1=>Zgx_R (Zgx_n n)
def Zgx(a0:Ub)(a1:Int)(a2:Int):=Zgx_n 8 a0 a1 a2
def S_Zgx:FSpec T:=⟨ps_Zgx,rs_Zgx,λx=>Zgx x.1 x.2.1 x.2.2.1⟩
theorem Vcia(k_rec:Ub->Int->Int->Option ((Unit)×(Ub×Unit)))(hk:SoundT Tryz.prog cd gdn 284 ⟨ps_Zgx,rs_Zgx,λx=>k_rec x.1 x.2.1 x.2.2.1⟩):EnvOk Tryz.prog (E_Zgx k_rec):=envOk (E:=(E_Zgx k_rec)) cd_ok tys fl_ok λf ds S h=>by
  dsimp only[E_Zgx,EG_Zgx]at h;split at h
  ·cases h;exact hk
  ·cases h;exact Va0a
  ·cases h;exact Va1a
  ·cases h
theorem Vtu:∀n:Nat,SoundT Tryz.prog cd gdn 284 ⟨ps_Zgx,rs_Zgx,λx=>Zgx_n n x.1 x.2.1 x.2.2.1⟩
 |0=>Vf9 ⟨_,Tryz.func284,by kernel_rfl,by kernel_rfl⟩
 |n+1=>Vcw (E:=E_Zgx (Zgx_n n)) (A:=A_Zgx (Zgx_n n)) (done:=[]) (c:=(Tryz.f284.body.getD .skip)) (S:=⟨ps_Zgx,rs_Zgx,λx=>Zgx_n (n+1) x.1 x.2.1 x.2.2.1⟩) (fn:=Tryz.f284) hmix (Vcia _ (Vtu n)) Tryz.func284 rfl (by kernel_rfl) (by kernel_rfl) Vag (by kernel_rfl) (by kernel_rfl) (Vcha (Zgx_n n))
theorem Vfja:SoundT Tryz.prog cd gdn 284 S_Zgx:=Vtu 8
def c125:List (Ct T):=⟨284,none,S_Zgx,true⟩::c124
theorem o125:EnvOk Tryz.prog (mE c125):=eCons Vfja o124
def Zej(a0:Ub)(a1:Int):O2 Js Int:=
 (Zen a1).bind λr1=>cond (!r1.2.1) (some ((),{},9,())) ((Zgx a0 a1 0).bind λr2=>ru ⟨a1,r2.2.1⟩ 0)
def c126:=ct c125 260 [qd,qc] [qbd,qa] (u2 Zej)
theorem o126:EO c126:=sz o125 Tryz.func260
def Zgh(a0:Jg):O2 Js Int:=
 (Zaa a0).bind λr1=>cond (!(decide (r1.2.1=0))) (some ((),{},r1.2.1,())) ((Zej a0.jah a0.jd).bind λr2=>ru r2.2.1 r2.2.2.1)
def c127:=ct c126 199 [(.f qak)] [qbd,qa] (u1 Zgh)
theorem o127:EO c127:=sz o126 Tryz.func199
def Zbz(a0:Js):O2 Ua Int:=
 (Zen a0.jd).bind λr1=>cond (!r1.2.1) (ru [] 9) (let v2:Ua:=[Qg (Qb 8 a0.jd)];(passkeyref1_Words [a0.jbb]).bind λr3=>cond (small (v2.length+(r3.2.1:Ua).length) 1) (ru (v2++r3.2.1) 0) none)
def c128:=cf c127 261 [(.f qbd)] [qk,qa] (u1 Zbz)
theorem o128:EO c128:=sx o127 (lcA [] []) Tryz.func261 dn
def Zag(a0:Jr):O1 Int:=
 let v1:=Qa .i64 ((Qb (Qc .i64) a0.jan&&&~~~(Qb (Qc .i64) 93)).toNat:Int);cond (!(decide (v1=0))) (rt 9) ((Zdf a0.jbc 0 16).bind λr2=>cond (!r2.2.1) (rt 9) ((Zdf a0.range 0 15).bind λr3=>cond (!r3.2.1) (rt 9) (let v4:=Qa .i64 ((Qb (Qc .i64) a0.jan&&&Qb (Qc .i64) 16).toNat:Int);cond (!(decide (v4=0))) (let v5:=Qa .i64 ((Qb (Qc .i64) a0.jan&&&Qb (Qc .i64) 8).toNat:Int);cond (decide (v5=0)) (rt 18) (let v6:=Qa .i64 ((Qb (Qc .i64) a0.jan&&&Qb (Qc .i64) 64).toNat:Int);cond (decide (v6=0)) (cond (!(decide (a0.jaf=0#64))) (rt 4) (cond (decide (0<(a0.iD.length:Int))) (rt 4) (cond (!(decide (a0.key.jd=0)&&(decide (a0.key.jbb=0#64)&&true))) (rt 4) (rt 0)))) (cond (!(decide ((a0.iD.length:Int)=176))) (rt 4) ((Zbz a0.key).bind λr7=>rt r7.2.2.1)))) (let v8:=Qa .i64 ((Qb (Qc .i64) a0.jan&&&Qb (Qc .i64) 64).toNat:Int);cond (decide (v8=0)) (cond (!(decide (a0.jaf=0#64))) (rt 4) (cond (decide (0<(a0.iD.length:Int))) (rt 4) (cond (!(decide (a0.key.jd=0)&&(decide (a0.key.jbb=0#64)&&true))) (rt 4) (rt 0)))) (cond (!(decide ((a0.iD.length:Int)=176))) (rt 4) ((Zbz a0.key).bind λr9=>rt r9.2.2.1))))))
def c129:=ct c128 226 [(.f qbe)] [qa] (u1 Zag)
theorem o129:EO c129:=sz o128 Tryz.func226
def Zav(a0:Jr):O2 Ua Int:=
 (Zag a0).bind λr1=>cond (!(decide (r1.2.1=0))) (ru [] r1.2.1) ((passkeyref1_Words [a0.rP]).bind λr2=>let v3:Ua:=[Qg (Qb 8 a0.jan),Qg (Qb 8 a0.jbc),Qg (Qb 8 a0.range)];cond (small (r2.2.1.length+(v3:Ua).length) 1) (let v4:=Qa .i64 ((Qb (Qc .i64) a0.jan&&&Qb (Qc .i64) 64).toNat:Int);cond (!(decide (v4=0))) ((Zbz a0.key).bind λr5=>(passkeyref1_Words [a0.jaf]).bind λr6=>cond (small ((r2.2.1++v3).length+(r6.2.1:Ua).length) 1) (cond (small ((r2.2.1++v3++r6.2.1).length+(a0.iD:Ua).length) 1) (cond (small ((r2.2.1++v3++r6.2.1++a0.iD).length+(r5.2.1:Ua).length) 1) (let v7:=r2.2.1++v3++r6.2.1++a0.iD++r5.2.1;ru v7 0) none) none) none) (ru (r2.2.1++v3) 0)) none)
def c130:=cf c129 200 [(.f qbe)] [qk,qa] (u1 Zav)
theorem o130:EO c130:=sx o129 (lcA [] []) Tryz.func200 dn
def Zci(a0:Ua)(a1:Ub):O1 Ub:=
 cond (small a0.length 1) ((passkeyref1_Words [a1]).bind λr1=>cond (small (a0.length+(r1.2.1:Ua).length) 1) ((Zgo 13 (a0++r1.2.1)).bind λr2=>rt r2.2.1) none) none
def c131:=ct c130 202 [qg,qd] [qr] (u2 Zci)
theorem o131:EO c131:=sz o130 Tryz.func202
def Zgg(a0:Jv)(a1:Int):O1 Jv:=
 cond (decide (a1<0)) (rt a0) (cond (decide (7<a1)) (rt a0) (let v1:=Qa .i64 ((Qb (Qc .i64) a0.jb&&&~~~(Qb (Qc .i64) a1)).toNat:Int);cond (decide (v1=0)) (rt ⟨a0.jap,false,0#64,v1,[],0⟩) (rt {a0 with jb:=v1})))
def c132:=ct c131 264 [(.f qa0),qc] [qa0] (u2 Zgg)
theorem o132:EO c132:=sz o131 Tryz.func264
def Zay(a0:Je×Unit)(a1:Int):Option (((Je×Unit)×Unit)×Unit):=
 cond (decide (a0.1.err=0)) (cond a0.1.r.jl ((Zgg a0.1.d.ju a1).bind λr1=>some ((({a0.1 with d:={a0.1.d with ju:=r1.2.1}},()),()),())) (some (((a0.1,()),()),()))) (some (((a0.1,()),()),()))
def c133:=cf c132 204 [ql,qc] [] (u2 Zay)
theorem o133:EO c133:=sz o132 Tryz.func204
def Zfi_L0b(y0:Jd×Unit)(y1:Jb×Unit)(y2:Jd×Unit)(y3:Jj×Unit)(y4:Je×Unit)(y5:Jg×Unit)(y6:Bool)(y7:Jn×Unit)(y8:Int):Option (((Jd×Unit)×(Jb×Unit)×(Jd×Unit)×(Jj×Unit)×(Je×Unit)×(Jg×Unit)×Bool×(Jn×Unit)×Int×Unit)⊕((Jd×Unit)×(Jb×Unit)×(Jd×Unit)×(Jj×Unit)×(Je×Unit)×(Jg×Unit)×Bool×(Jn×Unit)×Unit)):=
 (cond (decide (y8<y1.1.list.length)) (cond (decide (y4.1.err=0)) (some (Qe ((y0.1,()),(y1.1,()),(y2.1,()),(y3.1,()),(y4.1,()),(y5.1,()),y6,(y7.1,()),y8,()))) ((some (Qd ((y0.1,()),(y1.1,()),(y2.1,()),(y3.1,()),(y4.1,()),(y5.1,()),y6,(y7.1,()),()))).bind λq=>some (Qd q))) ((some (Qd ((y0.1,()),(y1.1,()),(y2.1,()),(y3.1,()),(y4.1,()),(y5.1,()),y6,(y7.1,()),()))).bind λq=>some (Qd q))).bind (Qh (λj14=>(getI j14.2.1.1.list j14.2.2.2.2.2.2.2.2.1).bind λx15=>none) some)
def Zfi_L0:=i9 Zfi_L0b
def Zfi(a0:Jd)(a1:Int)(a2:Jb)(a3:List Jl)(a4:Int):Option (Unit×Jd×Jj×Int×Unit):=
 (Zec a0 a1 a2 a3 a4 2).bind λr1=>cond (!(decide (r1.2.2.1=0))) (some ((),a0,{err:=r1.2.2.1},a4,())) ((Zaa {a2 with jah:=0#64,jag:=false}).bind λr2=>(Zbi (r1.2.1,()) r2.2.1).bind λr3=>cond r3.2.1 ((Zbx (r3.1.1.1,())).bind λr4=>some ((),r4.2.1,r4.2.2.1,r4.2.2.2.1,())) (cond (decide (2<a2.jk)) ((Zbi (r3.1.1.1,()) 9).bind λr5=>(Zbx (r5.1.1.1,())).bind λr6=>some ((),r6.2.1,r6.2.2.1,r6.2.2.2.1,())) ((Zae (r3.1.1.1,()) 1 a2.rP).bind λr7=>(cond (!a2.jl) (cond (!a2.jt) ((Zgm r7.1.1.1.d).bind λr8=>cond r8.2.1.set ((Zbi (r7.1.1.1,()) 23).bind λr9=>some ((a0,()),(a2,()),(({}:Jd),()),(({}:Jj),()),(r9.1.1.1,()),(({a2 with jah:=0#64,jag:=false}:Jg),()),r7.2.1,())) (some ((a0,()),(a2,()),(({}:Jd),()),(({}:Jj),()),(r7.1.1.1,()),(({a2 with jah:=0#64,jag:=false}:Jg),()),r7.2.1,()))) (some ((a0,()),(a2,()),(({}:Jd),()),(({}:Jj),()),(r7.1.1.1,()),(({a2 with jah:=0#64,jag:=false}:Jg),()),r7.2.1,()))) (some ((a0,()),(a2,()),(({}:Jd),()),(({}:Jj),()),(r7.1.1.1,()),(({a2 with jah:=0#64,jag:=false}:Jg),()),r7.2.1,()))).bind λj10=>(cond j10.2.1.1.jt ((Zaw (j10.2.2.2.2.1.1,()) (!j10.2.1.1.jl)).bind λr11=>some ((j10.1.1,()),(j10.2.1.1,()),(j10.2.2.1.1,()),(j10.2.2.2.1.1,()),(r11.1.1.1,()),(j10.2.2.2.2.2.1.1,()),j10.2.2.2.2.2.2.1,(r11.2.1,()),())) ((Zaw (j10.2.2.2.2.1.1,()) false).bind λr12=>some ((j10.1.1,()),(j10.2.1.1,()),(j10.2.2.1.1,()),(j10.2.2.2.1.1,()),(r12.1.1.1,()),(j10.2.2.2.2.2.1.1,()),j10.2.2.2.2.2.2.1,(r12.2.1,()),()))).bind λj13=>(Zfi_L0 ((j13.1.1,()),(j13.2.1.1,()),(j13.2.2.1.1,()),(j13.2.2.2.1.1,()),(j13.2.2.2.2.1.1,()),(j13.2.2.2.2.2.1.1,()),j13.2.2.2.2.2.2.1,(j13.2.2.2.2.2.2.2.1.1,()),0,())).bind λz16=>((cond (decide (z16.2.2.2.2.1.1.err=0)) (some ((z16.1.1,()),(z16.2.1.1,()),(z16.2.2.1.1,()),(z16.2.2.2.1.1,()),(z16.2.2.2.2.1.1,()),(z16.2.2.2.2.2.1.1,()),z16.2.2.2.2.2.2.1,(z16.2.2.2.2.2.2.2.1.1,()),(0:Int),decide (z16.2.1.1.jk=2),())) (some ((z16.1.1,()),(z16.2.1.1,()),(z16.2.2.1.1,()),(z16.2.2.2.1.1,()),(z16.2.2.2.2.1.1,()),(z16.2.2.2.2.2.1.1,()),z16.2.2.2.2.2.2.1,(z16.2.2.2.2.2.2.2.1.1,()),(0:Int),false,()))).bind λj17=>cond j17.2.2.2.2.2.2.2.2.2.1 none (some ((j17.1.1,()),(j17.2.1.1,()),(j17.2.2.1.1,()),(j17.2.2.2.1.1,()),(j17.2.2.2.2.1.1,()),(j17.2.2.2.2.2.1.1,()),j17.2.2.2.2.2.2.1,(j17.2.2.2.2.2.2.2.1.1,()),j17.2.2.2.2.2.2.2.2.1,()))).bind λj18=>cond (!(decide (j18.2.2.2.2.1.1.err=0))) ((Zbx (j18.2.2.2.2.1.1,())).bind λr19=>some ((),r19.2.1,r19.2.2.1,r19.2.2.2.1,())) ((Zbh (j18.2.2.2.2.1.1,())).bind λr20=>(Zbh (r20.1.1.1,())).bind λr21=>(Zdg r21.1.1.1.d).bind λr22=>(Zhp r22.2.1 r21.2.1 {j18.2.2.2.2.2.1.1 with jah:=r20.2.1}).bind λr23=>(cond (decide (j18.2.1.1.jk=1)) (some ((j18.1.1,()),(j18.2.1.1,()),(j18.2.2.1.1,()),(j18.2.2.2.1.1,()),(r21.1.1.1,()),(({j18.2.2.2.2.2.1.1 with jah:=r20.2.1}:Jg),()),j18.2.2.2.2.2.2.1,(j18.2.2.2.2.2.2.2.1.1,()),j18.2.2.2.2.2.2.2.2.1,r23.2.1,(1:Int),())) (some ((j18.1.1,()),(j18.2.1.1,()),(j18.2.2.1.1,()),(j18.2.2.2.1.1,()),(r21.1.1.1,()),(({j18.2.2.2.2.2.1.1 with jah:=r20.2.1}:Jg),()),j18.2.2.2.2.2.2.1,(j18.2.2.2.2.2.2.2.1.1,()),j18.2.2.2.2.2.2.2.2.1,r23.2.1,(0:Int),()))).bind λj24=>let v25:=Qa .i64 (1*2^min (Qb 64 j24.2.2.2.2.2.1.1.jd).toNat (Qc .i64));(Zgj j24.2.2.2.2.1.1.d j24.2.2.2.2.2.1.1 j24.2.2.2.2.2.2.2.2.2.1 0 v25 j24.2.2.2.2.2.2.2.2.2.2.1 j24.2.2.2.2.1.1.jaa).bind λr26=>(Zbj (j24.2.2.2.2.1.1,()) r26.2.1 r26.2.2.1 r26.2.2.2.1).bind λr27=>cond (!(decide (r27.1.1.1.err=0))) ((Zbx (r27.1.1.1,())).bind λr28=>some ((),r28.2.1,r28.2.2.1,r28.2.2.2.1,())) ((cond j24.2.2.2.2.2.2.1 (let v29:=Qa .i64 ((Qb (Qc .i64) 65|||Qb (Qc .i64) 4).toNat:Int);some ((j24.1.1,()),(j24.2.1.1,()),(j24.2.2.1.1,()),(j24.2.2.2.1.1,()),(r27.1.1.1,()),(j24.2.2.2.2.2.1.1,()),j24.2.2.2.2.2.2.2.2.1,j24.2.2.2.2.2.2.2.2.2.1,j24.2.2.2.2.2.2.2.2.2.2.1,v29,())) (cond j24.2.2.2.2.2.2.2.1.1.jbe (let v30:=Qa .i64 ((Qb (Qc .i64) 65|||Qb (Qc .i64) 4).toNat:Int);some ((j24.1.1,()),(j24.2.1.1,()),(j24.2.2.1.1,()),(j24.2.2.2.1.1,()),(r27.1.1.1,()),(j24.2.2.2.2.2.1.1,()),j24.2.2.2.2.2.2.2.2.1,j24.2.2.2.2.2.2.2.2.2.1,j24.2.2.2.2.2.2.2.2.2.2.1,v30,())) (some ((j24.1.1,()),(j24.2.1.1,()),(j24.2.2.1.1,()),(j24.2.2.2.1.1,()),(r27.1.1.1,()),(j24.2.2.2.2.2.1.1,()),j24.2.2.2.2.2.2.2.2.1,j24.2.2.2.2.2.2.2.2.2.1,j24.2.2.2.2.2.2.2.2.2.2.1,(65:Int),())))).bind λj31=>(cond j31.2.2.2.2.2.1.1.jo (let v32:=Qa .i64 ((Qb (Qc .i64) j31.2.2.2.2.2.2.2.2.2.1|||Qb (Qc .i64) 8).toNat:Int);some ((j31.1.1,()),(j31.2.1.1,()),(j31.2.2.1.1,()),(j31.2.2.2.1.1,()),(j31.2.2.2.2.1.1,()),(j31.2.2.2.2.2.1.1,()),j31.2.2.2.2.2.2.1,j31.2.2.2.2.2.2.2.1,j31.2.2.2.2.2.2.2.2.1,v32,())) (some ((j31.1.1,()),(j31.2.1.1,()),(j31.2.2.1.1,()),(j31.2.2.2.1.1,()),(j31.2.2.2.2.1.1,()),(j31.2.2.2.2.2.1.1,()),j31.2.2.2.2.2.2.1,j31.2.2.2.2.2.2.2.1,j31.2.2.2.2.2.2.2.2.1,j31.2.2.2.2.2.2.2.2.2.1,()))).bind λj33=>(Zgh j33.2.2.2.2.2.1.1).bind λr34=>(Zdc j33.2.1.1.rP).bind λr35=>(Zav ⟨r35.2.1,j33.2.2.2.2.2.2.2.2.2.1,j33.2.2.2.2.2.2.2.2.1,0,j33.1.1.jm.jaf,j33.2.2.2.2.2.2.2.1,r34.2.1⟩).bind λr36=>(Zci r36.2.1 j33.2.1.1.jz).bind λr37=>(cond (decide (j33.2.1.1.jk=1)) none (cond (decide (j33.2.1.1.jk=2)) none (some ((j33.2.2.1.1,()),(j33.2.2.2.1.1,()),(j33.2.2.2.2.1.1.d,j33.2.2.2.2.1.1.r,j33.2.2.2.2.1.1.g,j33.2.2.2.2.1.1.jaa,j33.2.2.2.2.1.1.jc.err,r36.2.1,j33.2.2.2.2.1.1.jc.jac,j33.2.2.2.2.1.1.jc.jq,j33.2.1.1.jk,j33.2.2.2.2.1.1.jc.iD,j33.2.2.2.2.1.1.jc.user,j33.2.2.2.2.1.1.jc.name,j33.2.2.2.2.1.1.jc.count,j33.2.2.2.2.1.1.jc.jv,j33.2.2.2.2.1.1.jc.box,j33.2.2.2.2.1.1.jc.jaf,j33.2.2.2.2.1.1.jc.jx,j33.2.2.2.2.1.1.jc.jay,j33.2.2.2.2.1.1.jc.jau,j33.2.2.2.2.1.1.jc.jax,j33.2.2.2.2.1.1.jc.jaj,j33.2.2.2.2.1.1.jc.jy,j33.2.2.2.2.1.1.err,()),())))).bind λj38=>(Zay (⟨j38.2.2.1.1,j38.2.2.1.2.1,j38.2.2.1.2.2.1,j38.2.2.1.2.2.2.1,⟨j38.2.2.1.2.2.2.2.1,j38.2.2.1.2.2.2.2.2.1,j38.2.2.1.2.2.2.2.2.2.1,j38.2.2.1.2.2.2.2.2.2.2.1,j38.2.2.1.2.2.2.2.2.2.2.2.1,j38.2.2.1.2.2.2.2.2.2.2.2.2.1,j38.2.2.1.2.2.2.2.2.2.2.2.2.2.1,j38.2.2.1.2.2.2.2.2.2.2.2.2.2.2.1,j38.2.2.1.2.2.2.2.2.2.2.2.2.2.2.2.1,j38.2.2.1.2.2.2.2.2.2.2.2.2.2.2.2.2.1,j38.2.2.1.2.2.2.2.2.2.2.2.2.2.2.2.2.2.1,j38.2.2.1.2.2.2.2.2.2.2.2.2.2.2.2.2.2.2.1,j38.2.2.1.2.2.2.2.2.2.2.2.2.2.2.2.2.2.2.2.1,j38.2.2.1.2.2.2.2.2.2.2.2.2.2.2.2.2.2.2.2.2.1,j38.2.2.1.2.2.2.2.2.2.2.2.2.2.2.2.2.2.2.2.2.2.1,j38.2.2.1.2.2.2.2.2.2.2.2.2.2.2.2.2.2.2.2.2.2.2.1,j38.2.2.1.2.2.2.2.2.2.2.2.2.2.2.2.2.2.2.2.2.2.2.2.1,j38.2.2.1.2.2.2.2.2.2.2.2.2.2.2.2.2.2.2.2.2.2.2.2.2.1⟩,j38.2.2.1.2.2.2.2.2.2.2.2.2.2.2.2.2.2.2.2.2.2.2.2.2.2.1⟩,()) 1).bind λr39=>(Zbx (r39.1.1.1,())).bind λr40=>some ((),r40.2.1,r40.2.2.1,r40.2.2.2.1,()))))))
def c134:=cf c133 136 [qau,qc,qa5,qz,qc] [qp,qae,qa] (u5 Zfi)
def s_Zfi_L0:LSpec T:=⟨[(5,qe),(7,qac),(10,qe),(11,qj),(13,ql),(15,qu),(16,qs),(17,qo),(18,qc)],[(.exit 0,[(5,qe),(7,qac),(10,qe),(11,qj),(13,ql),(15,qu),(16,qs),(17,qo)])],Zfi_L0,[]⟩
def A_Zfi:Loc2 T:=lcA [(0,s_Zfi_L0)] [(13,[(5,qe),(7,qac),(10,qe),(11,qj),(13,ql),(15,qu),(16,qs)],true),(14,[(5,qe),(7,qac),(10,qe),(11,qj),(13,ql),(15,qu),(16,qs),(17,qo)],true),(17,[(5,qe),(7,qac),(10,qe),(11,qj),(13,ql),(15,qu),(16,qs),(17,qo),(18,qc)],false),(23,[(5,qe),(7,qac),(10,qe),(11,qj),(13,ql),(15,qu),(16,qs),(17,qo),(23,qc),(175,qs)],true),(26,[(5,qe),(7,qac),(10,qe),(11,qj),(13,ql),(15,qu),(16,qs),(17,qo),(23,qc)],true),(34,[(5,qe),(7,qac),(10,qe),(11,qj),(13,ql),(15,qu),(16,qs),(17,qo),(23,qc),(29,qag),(31,qc)],true),(40,[(5,qe),(7,qac),(10,qe),(11,qj),(13,ql),(15,qu),(23,qc),(29,qg),(31,qc),(32,qc)],true),(42,[(5,qe),(7,qac),(10,qe),(11,qj),(13,ql),(15,qu),(23,qc),(29,qg),(31,qc),(32,qc)],true),(55,[(10,qe),(11,qj),(13,(.ptr [qp,qh,(.v (.rs 16)),qa,qa,qk,qav,(.v (.rs 3)),qa,qav,qt,qt,qa,qr,qav,qr,qa,qa,qa,qf,qf,(.v (.rs 23)),qa]))],true)]
theorem Vtv:LO c134 Tryz.f136 0 s_Zfi_L0:=lx o133 A_Zfi dn (λ_=>rfl)
theorem o134:EO c134:=sx o133 A_Zfi Tryz.func136 (dc rfl Vtv dn)
def Zaq(a0:Je×Unit):Option (((Je×Unit)×Unit)×Ub×Unit):=
 cond (!(decide (a0.1.err=0))) (some (((a0.1,()),()),0#64,())) ((Zel a0.1.d.ju.jap a0.1.r.jv).bind λr1=>(Zbi (a0.1,()) r1.2.2.1).bind λr2=>cond r2.2.1 (some (((r2.1.1.1,()),()),0#64,())) ((Zbh (r2.1.1.1,())).bind λr3=>some ((({r3.1.1.1 with d:={r3.1.1.1.d with ju:={r3.1.1.1.d.ju with jap:=r3.2.1}}},()),()),r1.2.1,())))
def c135:=cf c134 209 [ql] [qr] (u1 Zaq)
theorem o135:EO c135:=sz o134 Tryz.func209
def Zgu(a0:Ub)(a1 a2:Ua):O2 Ua Int:=
 cond (decide ((a2.length:Int)<16)) (ru [] 1) (cond (decide (1040<(a2.length:Int))) (ru [] 8) (cond (decide (1024<(a1.length:Int))) (ru [] 8) (cond (decide (8<=(a2.length:Int))) ((Zgq (Qk 8 a2)).bind λr1=>cond (decide (0<=Qa .i64 ((a2.length:Int)-8))&&decide (Qa .i64 ((a2.length:Int)-8)<=a2.length)) (cond (decide (8<=((Qa .i64 ((a2.length:Int)-8)).toNat:Int))) (let v2:=Ql 8 (Qk (Qa .i64 ((a2.length:Int)-8)).toNat a2);cond (decide (0<=Qa .i64 ((a2.length:Int)-8))&&decide (Qa .i64 ((a2.length:Int)-8)<=a2.length)) (let v3:=Ql (Qa .i64 ((a2.length:Int)-8)).toNat a2;(Zgq v3).bind λr4=>(Zhw a0 r1.2.1 a1 v2).bind λr5=>cond (!(decide (r4.2.1=r5.2.1))) (ru [] 14) ((Zhv a0 r1.2.1 v2).bind λr6=>ru r6.2.1 0)) none) none) none) none)))
def c136:=cf c135 222 [qd,qg,qg] [qk,qa] (u3 Zgu)
theorem o136:EO c136:=sz o135 Tryz.func222
def Zcg_L0b(y0:Ua)(y1:Int):Option ((Ua×Int×Unit)⊕(Ua×Int×Unit)):=
 cond (decide (y1<y0.length)) (cond (decide (0<=y1)&&decide (y1<y0.length)) (y0[y1.toNat]?.bind λx2=>cond (!(decide (x2.toBitVec=(0:UInt8).toBitVec))) (some (Qe (y0,Qa .i64 (y1+1),()))) (some (Qd (y0,y1,())))) none) (some (Qd (y0,y1,())))
def Zcg_L0:=i2 Zcg_L0b
def Zcg_L2b(y0:Ua)(y1 y2:Int):Option ((Ua×Int×Int×Unit)⊕((Ua×Int×Unit)⊕(Ua×Int×Unit))):=
 cond (decide (y2<y0.length)) (cond (decide (0<=y2)&&decide (y2<y0.length)) (y0[y2.toNat]?.bind λx4=>cond (!(decide (x4.toBitVec=(0:UInt8).toBitVec))) (some (Qd (Qe ([],2,())))) (some (Qe (y0,y1,Qa .i64 (y2+1),())))) none) (some (Qd (Qd (y0,y1,()))))
def Zcg_L2:=i3 Zcg_L2b
def Zcg(a0:Ub)(a1:Ua):O2 Ua Int:=
 (Zgu a0 [] a1).bind λr1=>cond (!(decide (r1.2.2.1=0))) (ru [] r1.2.2.1) ((Zcg_L0 (r1.2.1,0,())).bind λz3=>cond (!(decide ((z3.1.length:Int)=64))) (ru [] 2) (cond (decide (z3.2.1=z3.1.length)) (ru [] 2) ((Zcg_L2 (z3.1,z3.2.1,z3.2.1,())).bind (Qh (λz5=>ru z5.1 z5.2.1) (λz6=>cond (decide (0<=z6.2.1)&&decide (z6.2.1<=z6.1.length)) (cond (decide (z6.2.1.toNat<=z6.1.length)) (ru (Qk z6.2.1.toNat z6.1) 0) none) none)))))
def c137:=ct c136 210 [qd,qg] [qt,qa] (u2 Zcg)
def s_Zcg_L0:LSpec T:=⟨[(6,qag),(8,qc)],[(.exit 0,[(6,qag),(8,qc)])],Zcg_L0,[]⟩
def s_Zcg_L2:LSpec T:=⟨[(6,qag),(8,qc),(9,qc)],[(.ret,[(4,qar),(5,qc)]),(.exit 2,[(6,qag),(8,qc)])],Zcg_L2,[]⟩
def A_Zcg:Loc2 T:=lcA [(0,s_Zcg_L0),(2,s_Zcg_L2)] []
theorem Vlt:LO c137 Tryz.f210 0 s_Zcg_L0:=lx o136 A_Zcg dn (λ_=>rfl)
theorem Vtw:LO c137 Tryz.f210 2 s_Zcg_L2:=lx o136 A_Zcg (dc rfl Vlt dn) (λ_=>rfl)
theorem o137:EO c137:=sx o136 A_Zcg Tryz.func210 (dc rfl Vlt (dc rfl Vtw dn))
def c138:List (Ct T):=⟨265,none,S_Zbm,true⟩::c137
theorem o138:EnvOk Tryz.prog (mE c138):=eCons Vfda o137
def c139:List (Ct T):=⟨266,none,S_Zbe,true⟩::c138
theorem o139:EnvOk Tryz.prog (mE c139):=eCons Vfea o138
def Zfa_L0b(y0:Int)(y1:Bool)(y2:(Ua×Nat)):Option ((Int×Bool×(Ua×Nat)×Unit)⊕((Bool×Unit)⊕(Bool×Unit))):=
 (bif decide (y2.2<(y2.1).length) then (let v4:Nat:=(y2.2+(Utf8.decode ⟨(y2.1).toArray⟩ y2.2).2)
 (bif (decide (((Utf8.decode ⟨(y2.1).toArray⟩ y2.2).1:Int)=(0:Int))) then (some (Qd (Qe (true,()))))
 else (bif y1 then (some (Qe (y0,(decide (((Utf8.decode ⟨(y2.1).toArray⟩ y2.2).1:Int)=y0)),(y2.1,v4),())))
 else (some (Qe (y0,false,(y2.1,v4),()))))))
 else (some (Qd (Qd (y1,())))))
def Zfa_L0:=i3 Zfa_L0b
def Zfa(a0:Ua):O1 Bool:=
 cond (decide ((a0.length:Int)<4)) (rt true) (cond (decide (63<(a0.length:Int))) (rt true) ((Zhf a0).bind λr1=>cond (!r1.2.1) (rt true) ((Zbm a0).bind λr2=>cond (decide (r2.2.1<4)) (rt true) ((Zbe a0).bind λr3=>(Zfa_L0 (r3.2.1,true,(a0,0),())).bind (Qh (λz5=>rt z5.1) (λz6=>rt z6.1))))))
def c140:=ct c139 211 [qar] [qf] (u1 Zfa)
def s_Zfa_L0:LSpec T:=⟨[(3,(.f (.v (.int .i32)))),(5,qs),(32,.iter)],[(.ret,[(2,qs)]),(.exit 0,[(5,qs)])],Zfa_L0,[]⟩
def A_Zfa:Loc2 T:=lcA [(0,s_Zfa_L0)] []
theorem Vtx:LO c140 Tryz.f211 0 s_Zfa_L0:=lx o139 A_Zfa dn (λ_=>rfl)
theorem o140:EO c140:=sx o139 A_Zfa Tryz.func211 (dc rfl Vtx dn)
def Zcf(a0:Ua):O1 Ub:=
 (Zgo 8 a0).bind λr1=>rt r1.2.1
def c141:=ct c140 58 [qar] [qr] (u1 Zcf)
theorem o141:EO c141:=sz o140 Tryz.func58
def Zbt(a0 a1:Ub):O1 Ub:=
 (passkeyref1_Words [a1]).bind λr1=>(Zhr a0 8 r1.2.1).bind λr2=>rt r2.2.1
def S_Zbt:FSpec T:=⟨[qd,qd],[qr],λx=>Zbt x.1 x.2.1⟩
theorem Va2a:SoundT Tryz.prog cd gdn 267 S_Zbt:=
 sndC hmix o141 (lcA [] []) Tryz.func267 Vag (by kernel_rfl) (by kernel_rfl) λx=>by kernel_rfl
def c142:List (Ct T):=⟨267,none,S_Zbt,true⟩::c141
theorem o142:EnvOk Tryz.prog (mE c142):=eCons Va2a o141
def Zax(a0:Je×Unit)(a1:Ua):Option (((Je×Unit)×Unit)×Jf×Unit):=
 (Zdg a0.1.d).bind λr1=>(Zcf a1).bind λr2=>(Zbt r1.2.1 r2.2.1).bind λr3=>(passkeyref1_Words [r3.2.1]).bind λr4=>some (((a0.1,()),()),⟨3,r4.2.1⟩,())
def c143:=cf c142 213 [ql,qar] [(.v (.agg 5))] (u2 Zax)
theorem o143:EO c143:=sz o142 Tryz.func213
def Zfk(a0:Int):O1 Jf:=
 rt ⟨4,[Qg (Qb 8 a0)]⟩
def S_Zfk:FSpec T:=⟨[qc],[(.v (.agg 5))],λx=>Zfk x.1⟩
theorem Va3a:SoundT Tryz.prog cd gdn 214 S_Zfk:=
 sndC hmix o143 (lcA [] []) Tryz.func214 Vag (by kernel_rfl) (by kernel_rfl) λx=>by kernel_rfl
def c144:List (Ct T):=⟨214,none,S_Zfk,false⟩::c143
theorem o144:EnvOk Tryz.prog (mE c144):=eCons Va3a o143
def Zaz(a0:Je×Unit)(a1:List Jf):Option (((Je×Unit)×Unit)×Bool×Unit):=
 cond (!(decide (a0.1.err=0))) (some (((a0.1,()),()),true,())) ((Zea a0.1.d a1 a0.1.jaa).bind λr1=>(Zbj (a0.1,()) r1.2.1 r1.2.2.1 r1.2.2.2.1).bind λr2=>some (((r2.1.1.1,()),()),!(decide (r2.1.1.1.err=0)),()))
def S_Zaz:FSpec T:=⟨[ql,qm],[qf],λx=>Zaz x.1 x.2.1⟩
theorem Va4a:SoundT Tryz.prog cd gdn 212 S_Zaz:=
 sndC hmix o144 (lcA [] []) Tryz.func212 Vag (by kernel_rfl) (by kernel_rfl) λx=>by kernel_rfl
def c145:List (Ct T):=⟨212,none,S_Zaz,false⟩::c144
theorem o145:EnvOk Tryz.prog (mE c145):=eCons Va4a o144
def Zdi(a0:Jd)(a1:Int)(a2:Jb)(a3:List Jl)(a4:Int):Option (Unit×Jd×Jj×Int×Unit):=
 (Zec a0 a1 a2 a3 a4 7).bind λr1=>cond (!(decide (r1.2.2.1=0))) (some ((),a0,{err:=r1.2.2.1},a4,())) (((Zgm r1.2.1.d).bind λr2=>cond r2.2.1.set ((Zbi (r1.2.1,()) 18).bind λr3=>some ((a2,()),(({}:Jd),()),(({}:Jj),()),(r3.1.1.1,()),())) (some ((a2,()),(({}:Jd),()),(({}:Jj),()),(r1.2.1,()),()))).bind λj4=>(Zaq (j4.2.2.2.1.1,())).bind λr5=>cond (!(decide (r5.1.1.1.err=0))) ((Zbx (r5.1.1.1,())).bind λr6=>some ((),r6.2.1,r6.2.2.1,r6.2.2.2.1,())) ((Zcg r5.2.1 j4.1.1.box).bind λr7=>(Zbi (r5.1.1.1,()) r7.2.2.1).bind λr8=>cond r8.2.1 ((Zbx (r8.1.1.1,())).bind λr9=>some ((),r9.2.1,r9.2.2.1,r9.2.2.2.1,())) ((Zfa r7.2.1).bind λr10=>cond r10.2.1 ((Zbi (r8.1.1.1,()) 26).bind λr11=>(Zbx (r11.1.1.1,())).bind λr12=>some ((),r12.2.1,r12.2.2.1,r12.2.2.2.1,())) ((Zax (r8.1.1.1,()) r7.2.1).bind λr13=>(Zfk 8).bind λr14=>(Zaz (r13.1.1.1,()) [r13.2.1,r14.2.1]).bind λr15=>cond (!r15.2.1) ((Zbx ({r15.1.1.1 with d:={r15.1.1.1.d with jad:=0}},())).bind λr16=>some ((),r16.2.1,r16.2.2.1,r16.2.2.2.1,())) ((Zbx (r15.1.1.1,())).bind λr17=>some ((),r17.2.1,r17.2.2.1,r17.2.2.2.1,()))))))
def c146:=cf c145 141 [qau,qc,qa5,qz,qc] [qp,qae,qa] (u5 Zdi)
theorem o146:EO c146:=sx o145 (lcA [] [(6,[(7,qac),(10,qe),(11,qj),(13,ql)],true)]) Tryz.func141 dn
def Zbu(a0:Ub)(a1:Ua):O2 Ub Int:=
 (Zgu a0 [] a1).bind λr1=>cond (!(decide (r1.2.2.1=0))) (ru 0#64 r1.2.2.1) (cond (!(decide ((r1.2.1.length:Int)=8))) (ru 0#64 2) ((Zgq r1.2.1).bind λr2=>ru r2.2.1 0))
def c147:=ct c146 215 [qd,qg] [qr,qa] (u2 Zbu)
theorem o147:EO c147:=sz o146 Tryz.func215
def Zcz(a0:Jo):O2 Jo Int:=
 cond (!a0.set) (some ((),{},25,())) (cond (decide (a0.jx<1)) (some ((),{},27,())) (cond (decide (3<=a0.jad)) (some ((),{},28,())) (ru {a0 with jx:=Qa .i64 (a0.jx-1)} 0)))
def S_Zcz:FSpec T:=⟨[(.f qbc)],[qbc,qa],λx=>Zcz x.1⟩
theorem Va5a:SoundT Tryz.prog cd gdn 268 S_Zcz:=
 sndC hmix o147 (lcA [] []) Tryz.func268 Vag (by kernel_rfl) (by kernel_rfl) λx=>by kernel_rfl
def c148:List (Ct T):=⟨268,none,S_Zcz,true⟩::c147
theorem o148:EnvOk Tryz.prog (mE c148):=eCons Va5a o147
def Zda(a0:Jo)(a1:Bool):O2 Jo Int:=
 cond a1 (ru ⟨a0.set,a0.jbf,8,0⟩ 0) ((cond (decide (a0.jad<3)) (some ((({a0 with jad:=Qa .i64 (a0.jad+1)}:Jo),()),(({}:Jo),()),())) (some ((({a0 with jad:=3}:Jo),()),(({}:Jo),()),()))).bind λj1=>cond (decide (j1.1.1.jx<1)) (ru j1.1.1 27) (cond (decide (3<=j1.1.1.jad)) (ru j1.1.1 28) (ru j1.1.1 24)))
def S_Zda:FSpec T:=⟨[(.f qbc),qs],[qbc,qa],λx=>Zda x.1 x.2.1⟩
theorem Va6a:SoundT Tryz.prog cd gdn 269 S_Zda:=
 sndC hmix o148 (lcA [] [(7,[(2,.ptr [(.v (.agg 27))]),(4,.ptr [(.v (.agg 27))])],true)]) Tryz.func269 Vag (by kernel_rfl) (by kernel_rfl) λx=>by kernel_rfl
def c149:List (Ct T):=⟨269,none,S_Zda,true⟩::c148
theorem o149:EnvOk Tryz.prog (mE c149):=eCons Va6a o148
def ZahG(k_Zgm:Jd->O1 Jo)(k_Zcz:Jo->O2 Jo Int)(k_Zbi:Je×Unit->Int->Option (((Je×Unit)×Unit)×Bool×Unit))(k_Zfk:Int->O1 Jf)(k_Zaz:Je×Unit->List Jf->Option (((Je×Unit)×Unit)×Bool×Unit))(k_Zdg:Jd->O1 Ub)(k_Zbt:Ub->Ub->O1 Ub)(k_Zda:Jo->Bool->O2 Jo Int)(a0:Je×Unit)(a1:Ub):Option (((Je×Unit)×Unit)×Unit):=
 (k_Zgm a0.1.d).bind λr1=>(k_Zcz r1.2.1).bind λr2=>(k_Zbi (a0.1,()) r2.2.2.1).bind λr3=>cond r3.2.1 (some (((r3.1.1.1,()),()),())) ((k_Zfk r2.2.1.jx).bind λr4=>(k_Zaz (r3.1.1.1,()) [r4.2.1]).bind λr5=>cond r5.2.1 (some (((r5.1.1.1,()),()),())) ((k_Zdg r5.1.1.1.d).bind λr6=>(k_Zbt r6.2.1 a1).bind λr7=>(k_Zda r2.2.1 (decide (r7.2.1=r2.2.1.jbf))).bind λr8=>(k_Zbi (({r5.1.1.1 with d:={r5.1.1.1.d with jad:=r8.2.1.jad}}:Je),()) r8.2.2.1).bind λr9=>some (((r9.1.1.1,()),()),())))
def Zah(a0:Je×Unit)(a1:Ub):Option (((Je×Unit)×Unit)×Unit):=
 ZahG Zgm Zcz Zbi Zfk Zaz Zdg Zbt Zda a0 a1
def S_Zah:FSpec T:=⟨[ql,qd],[],λx=>Zah x.1 x.2.1⟩
def EG_Zah(k_Zgm:Jd->Option ((Unit)×(Jo×Unit)))(k_Zcz:Jo->Option ((Unit)×(Jo×Int×Unit)))(k_Zbi:(Je×Unit)->Int->Option (((Je×Unit)×Unit)×(Bool×Unit)))(k_Zfk:Int->Option ((Unit)×(Jf×Unit)))(k_Zaz:(Je×Unit)->(List (Jf))->Option (((Je×Unit)×Unit)×(Bool×Unit)))(k_Zdg:Jd->Option ((Unit)×(Ub×Unit)))(k_Zbt:Ub->Ub->Option ((Unit)×(Ub×Unit)))(k_Zda:Jo->Bool->Option ((Unit)×(Jo×Int×Unit))):Env T:=⟨tab.find,cd,globs,flc,λf ds=>match f with
  |183=>some ⟨S_Zdg.ps,S_Zdg.rs,λx=>k_Zdg x.1⟩
  |185=>some ⟨S_Zgm.ps,S_Zgm.rs,λx=>k_Zgm x.1⟩
  |189=>some ⟨S_Zbi.ps,S_Zbi.rs,λx=>k_Zbi x.1 x.2.1⟩
  |212=>some ⟨S_Zaz.ps,S_Zaz.rs,λx=>k_Zaz x.1 x.2.1⟩
  |214=>some ⟨S_Zfk.ps,S_Zfk.rs,λx=>k_Zfk x.1⟩
  |267=>some ⟨S_Zbt.ps,S_Zbt.rs,λx=>k_Zbt x.1 x.2.1⟩
  |268=>some ⟨S_Zcz.ps,S_Zcz.rs,λx=>k_Zcz x.1⟩
  |269=>some ⟨S_Zda.ps,S_Zda.rs,λx=>k_Zda x.1 x.2.1⟩
  |_=>none,λf=>match f with
  |183=>true
  |185=>true
  |267=>true
  |268=>true
  |269=>true
  |_=>false⟩
def E_Zah:Env T:=⟨tab.find,cd,globs,flc,λf ds=>match f with
  |183=>some S_Zdg
  |185=>some S_Zgm
  |189=>some S_Zbi
  |212=>some S_Zaz
  |214=>some S_Zfk
  |267=>some S_Zbt
  |268=>some S_Zcz
  |269=>some S_Zda
  |_=>none,λf=>match f with
  |183=>true
  |185=>true
  |267=>true
  |268=>true
  |269=>true
  |_=>false⟩
def A_Zah:Loc2 T:=⟨λid=>match id with
  |_=>none,λr=>match r with
  |_=>none⟩
def AG_Zah(k_Zgm:Jd->Option ((Unit)×(Jo×Unit)))(k_Zcz:Jo->Option ((Unit)×(Jo×Int×Unit)))(k_Zbi:(Je×Unit)->Int->Option (((Je×Unit)×Unit)×(Bool×Unit)))(k_Zfk:Int->Option ((Unit)×(Jf×Unit)))(k_Zaz:(Je×Unit)->(List (Jf))->Option (((Je×Unit)×Unit)×(Bool×Unit)))(k_Zdg:Jd->Option ((Unit)×(Ub×Unit)))(k_Zbt:Ub->Ub->Option ((Unit)×(Ub×Unit)))(k_Zda:Jo->Bool->Option ((Unit)×(Jo×Int×Unit))):Loc2 T:=⟨λid=>match id with
  |_=>none,λr=>match r with
  |_=>none⟩
theorem Vcja(k_Zgm:Jd->Option ((Unit)×(Jo×Unit)))(k_Zcz:Jo->Option ((Unit)×(Jo×Int×Unit)))(k_Zbi:(Je×Unit)->Int->Option (((Je×Unit)×Unit)×(Bool×Unit)))(k_Zfk:Int->Option ((Unit)×(Jf×Unit)))(k_Zaz:(Je×Unit)->(List (Jf))->Option (((Je×Unit)×Unit)×(Bool×Unit)))(k_Zdg:Jd->Option ((Unit)×(Ub×Unit)))(k_Zbt:Ub->Ub->Option ((Unit)×(Ub×Unit)))(k_Zda:Jo->Bool->Option ((Unit)×(Jo×Int×Unit)))(x:tySs T S_Zah.ps):run (EG_Zah k_Zgm k_Zcz k_Zbi k_Zfk k_Zaz k_Zdg k_Zbt k_Zda) (AG_Zah k_Zgm k_Zcz k_Zbi k_Zfk k_Zaz k_Zdg k_Zbt k_Zda) (Tryz.f216.body.getD .skip) (enterT (EG_Zah k_Zgm k_Zcz k_Zbi k_Zfk k_Zaz k_Zdg k_Zbt k_Zda).C S_Zah.ps x) (retK (EG_Zah k_Zgm k_Zcz k_Zbi k_Zfk k_Zaz k_Zdg k_Zbt k_Zda) Tryz.f216.results.toList S_Zah.ps S_Zah.rs)=ZahG k_Zgm k_Zcz k_Zbi k_Zfk k_Zaz k_Zdg k_Zbt k_Zda x.1 x.2.1:=by kernel_rfl
theorem Vfka(x:tySs T S_Zah.ps):run E_Zah A_Zah (Tryz.f216.body.getD .skip) (enterT E_Zah.C S_Zah.ps x) (retK E_Zah Tryz.f216.results.toList S_Zah.ps S_Zah.rs)=S_Zah.fn x:=Vcja Zgm Zcz Zbi Zfk Zaz Zdg Zbt Zda x
theorem Vcka:EnvOk Tryz.prog E_Zah:=envOk (E:=E_Zah) cd_ok tys fl_ok λf ds S h=>by
  dsimp only[E_Zah]at h;split at h
  ·cases h;exact Vapa
  ·cases h;exact Vava
  ·cases h;exact Vara
  ·cases h;exact Va4a
  ·cases h;exact Va3a
  ·cases h;exact Va2a
  ·cases h;exact Va5a
  ·cases h;exact Va6a
  ·cases h
theorem Vfla:SoundT Tryz.prog cd gdn 216 S_Zah:=
 Vcw (E:=E_Zah) (A:=A_Zah) (done:=[]) (c:=(Tryz.f216.body.getD .skip)) (S:=S_Zah) (fn:=Tryz.f216) hmix Vcka Tryz.func216 rfl (by kernel_rfl) (by kernel_rfl) Vag (by kernel_rfl) (by kernel_rfl) Vfka
def c150:List (Ct T):=⟨216,none,S_Zah,false⟩::c149
theorem o150:EnvOk Tryz.prog (mE c150):=eCons Vfla o149
def Zdx(a0:Jv)(a1:Ub)(a2:Int)(a3:Ua)(a4:Int):O2 Jv Int:=
 cond (decide (a2<1)) (some ((),{},9,())) (cond (decide (7<a2)) (some ((),{},9,())) (cond (decide (a4<0)) (some ((),{},9,())) (cond (decide (1099511627776<a4)) (some ((),{},9,())) (cond (decide (64<(a3.length:Int))) (some ((),{},8,())) (ru ⟨a0.jap,true,a1,a2,a3,a4⟩ 0)))))
def c151:=ct c150 217 [(.f qa0),qd,qc,qar,qc] [qa0,qa] (u5 Zdx)
theorem o151:EO c151:=sz o150 Tryz.func217
def Zbv(a0 a1 a2:Ub):O1 Ua:=
 (passkeyref1_Words [a2]).bind λr1=>(Zgv a0 a1 [] r1.2.1).bind λr2=>rt r2.2.1
def c152:=cf c151 57 [qd,qd,qd] [qk] (u3 Zbv)
theorem o152:EO c152:=sz o151 Tryz.func57
def Zeb(a0:Jd)(a1:Int)(a2:Jb)(a3:List Jl)(a4:Int):Option (Unit×Jd×Jj×Int×Unit):=
 (Zec a0 a1 a2 a3 a4 9).bind λr1=>cond (!(decide (r1.2.2.1=0))) (some ((),a0,{err:=r1.2.2.1},a4,())) ((cond (decide (a2.jb<1)) ((Zbi (r1.2.1,()) 9).bind λr2=>some ((a2,()),(({}:Jd),()),(({}:Jj),()),(r2.1.1.1,()),())) (cond (decide (7<a2.jb)) ((Zbi (r1.2.1,()) 9).bind λr3=>some ((a2,()),(({}:Jd),()),(({}:Jj),()),(r3.1.1.1,()),())) (some ((a2,()),(({}:Jd),()),(({}:Jj),()),(r1.2.1,()),())))).bind λj4=>((Zgm j4.2.2.2.1.1.d).bind λr5=>cond (!r5.2.1.set) ((Zbi (j4.2.2.2.1.1,()) 25).bind λr6=>some ((j4.1.1,()),(j4.2.1.1,()),(j4.2.2.1.1,()),(r6.1.1.1,()),())) (some ((j4.1.1,()),(j4.2.1.1,()),(j4.2.2.1.1,()),(j4.2.2.2.1.1,()),()))).bind λj7=>(Zaq (j7.2.2.2.1.1,())).bind λr8=>cond (!(decide (r8.1.1.1.err=0))) ((Zbx (r8.1.1.1,())).bind λr9=>some ((),r9.2.1,r9.2.2.1,r9.2.2.2.1,())) ((Zbu r8.2.1 j7.1.1.proof).bind λr10=>(Zbi (r8.1.1.1,()) r10.2.2.1).bind λr11=>cond r11.2.1 ((Zbx (r11.1.1.1,())).bind λr12=>some ((),r12.2.1,r12.2.2.1,r12.2.2.2.1,())) ((Zah (r11.1.1.1,()) r10.2.1).bind λr13=>cond (!(decide (r13.1.1.1.err=0))) ((Zbx (r13.1.1.1,())).bind λr14=>some ((),r14.2.1,r14.2.2.1,r14.2.2.2.1,())) ((Zfk 8).bind λr15=>(Zaz (r13.1.1.1,()) [r15.2.1]).bind λr16=>cond r16.2.1 ((Zbx (r16.1.1.1,())).bind λr17=>some ((),r17.2.1,r17.2.2.1,r17.2.2.2.1,())) ((Zbh (r16.1.1.1,())).bind λr18=>(Zdx r18.1.1.1.d.ju r18.2.1 j7.1.1.jb j7.1.1.rP r18.1.1.1.d.now).bind λr19=>(Zbh ({r18.1.1.1 with d:={r18.1.1.1.d with ju:=r19.2.1}},())).bind λr20=>(Zbv r8.2.1 r20.2.1 r18.2.1).bind λr21=>(Zbx ({r20.1.1.1 with jc:={r20.1.1.1.jc with box:=r21.2.1}},())).bind λr22=>some ((),r22.2.1,r22.2.2.1,r22.2.2.2.1,()))))))
def c153:=cf c152 143 [qau,qc,qa5,qz,qc] [qp,qae,qa] (u5 Zeb)
theorem o153:EO c153:=sx o152 (lcA [] [(6,[(7,qac),(10,qe),(11,qj),(13,ql)],true),(8,[(7,qac),(10,qe),(11,qj),(13,ql)],true)]) Tryz.func143 dn
def Zgn(a0:Jd)(a1:Int)(a2:Jb)(a3:List Jl)(a4:Int):Option (Unit×Jd×Jj×Int×Unit):=
 cond (decide (a2.kind=1)) none (cond (decide (a2.kind=2)) ((Zfi a0 a1 a2 a3 a4).bind λr1=>some ((),r1.2.1,r1.2.2.1,r1.2.2.2.1,())) (cond (decide (a2.kind=3)) none (cond (decide (a2.kind=4)) none (cond (decide (a2.kind=5)) none (cond (decide (a2.kind=6)) none (cond (decide (a2.kind=7)) ((Zdi a0 a1 a2 a3 a4).bind λr2=>some ((),r2.2.1,r2.2.2.1,r2.2.2.2.1,())) (cond (decide (a2.kind=8)) none (cond (decide (a2.kind=9)) ((Zeb a0 a1 a2 a3 a4).bind λr3=>some ((),r3.2.1,r3.2.2.1,r3.2.2.2.1,())) (cond (decide (a2.kind=10)) none (cond (decide (a2.kind=11)) none (cond (decide (a2.kind=12)) none (cond (decide (a2.kind=13)) none (cond (decide (a2.kind=14)) none (cond (!a0.on) (some ((),a0,{err:=17},a4,())) (some ((),a0,{err:=3},a4,()))))))))))))))))
def c154:=cf c153 96 [qau,qc,qa5,qz,qc] [qp,qae,qa] (u5 Zgn)
theorem o154:EO c154:=sz o153 Tryz.func96
def Zby(a0:Ua):O2 Js Int:=
 cond (!(decide ((a0.length:Int)=9))) (some ((),{},2,())) ((getI a0 (0:Int)).bind λx1=>(Zen (x1.toBitVec.toNat:Int)).bind λr2=>cond (!r2.2.1) (some ((),{},2,())) ((getI a0 (0:Int)).bind λx3=>cond (decide (1<=(a0.length:Int))) ((Zgq (Ql 1 a0)).bind λr4=>ru ⟨(x3.toBitVec.toNat:Int),r4.2.1⟩ 0) none))
def c155:=ct c154 225 [qg] [qbd,qa] (u1 Zby)
theorem o155:EO c155:=sz o154 Tryz.func225
def Zau(a0:Ua):O2 Jr Int:=
 (cond (!(decide ((a0.length:Int)=11))) (cond (!(decide ((a0.length:Int)=204))) ((ru ({}:Jr) (2:Int)).bind λq=>some (Qd q)) (some (Qe (a0,(({}:Jr),()),())))) (some (Qe (a0,(({}:Jr),()),())))).bind (Qh (λj1=>cond (decide (8<=(j1.1.length:Int))) ((Zgq (Qk 8 j1.1)).bind λr2=>(getI j1.1 (8:Int)).bind λx3=>(getI j1.1 (9:Int)).bind λx4=>(getI j1.1 (10:Int)).bind λx5=>(cond (decide (11<(j1.1.length:Int))) (cond (decide (195<=(j1.1.length:Int))) ((Zby (Ql 195 j1.1)).bind λr6=>cond (!(decide (r6.2.2.1=0))) ((ru ({}:Jr) (2:Int)).bind λq=>some (Qd q)) (cond (decide (19<=(j1.1.length:Int))) ((Zgq (Ql 11 (Qk 19 j1.1))).bind λr7=>cond (decide (195<=(j1.1.length:Int))) (cond (small (Ql 19 (Qk 195 j1.1)).length 1) (some (Qe (j1.1,(j1.2.1.1,()),(r2.2.1,(x3.toBitVec.toNat:Int),(x4.toBitVec.toNat:Int),(x5.toBitVec.toNat:Int),r7.2.1,Ql 19 (Qk 195 j1.1),r6.2.1,()),()))) none) none) none)) none) (some (Qe (j1.1,(j1.2.1.1,()),(r2.2.1,(x3.toBitVec.toNat:Int),(x4.toBitVec.toNat:Int),(x5.toBitVec.toNat:Int),0#64,[],({}:Js),()),())))).bind (Qh (λj8=>(Zag ⟨j8.2.2.1.1,j8.2.2.1.2.1,j8.2.2.1.2.2.1,j8.2.2.1.2.2.2.1,j8.2.2.1.2.2.2.2.1,j8.2.2.1.2.2.2.2.2.1,j8.2.2.1.2.2.2.2.2.2.1⟩).bind λr9=>cond (!(decide (r9.2.1=0))) (some ((),{},2,())) (let v10:=Qa .i64 ((Qb (Qc .i64) j8.2.2.1.2.1&&&Qb (Qc .i64) 64).toNat:Int);cond (!(decide (11<(j8.1.length:Int))==(!(decide (v10=0))))) (some ((),{},2,())) (ru ⟨j8.2.2.1.1,j8.2.2.1.2.1,j8.2.2.1.2.2.1,j8.2.2.1.2.2.2.1,j8.2.2.1.2.2.2.2.1,j8.2.2.1.2.2.2.2.2.1,j8.2.2.1.2.2.2.2.2.2.1⟩ 0))) some)) none) some)
def c156:=cf c155 149 [qg] [qbe,qa] (u1 Zau)
theorem o156:EO c156:=sx o155 (lcA [] [(3,[(0,qg),(2,(.ptr [qbe]))],false),(9,[(0,qg),(2,(.ptr [qbe])),(4,(.ptr [qr,qa,qa,qa,qr,qk,qbd]))],false)]) Tryz.func149 dn
def Zex(a0:Ji)(a1:Jj):O1 Ji:=
 (Zau a1.jae).bind λr1=>(cond (decide (r1.2.2.1=0)) (cond (decide (0<(r1.2.1.iD.length:Int))) (cond (small a0.iDs.length 24) (cond (small (a0.iDs.length+([r1.2.1.iD]).length) 24) (let v2:=a0.iDs++[r1.2.1.iD];some ((({a0 with iDs:=v2}:Ji),()),(a1,()),(({}:Ji),()),())) none) none) (some ((a0,()),(a1,()),(({}:Ji),()),()))) (some ((a0,()),(a1,()),(({}:Ji),()),()))).bind λj3=>cond (decide (0<(j3.2.1.1.iD.length:Int))) (cond (decide ((j3.2.1.1.jae.length:Int)=0)) (cond (small j3.1.1.iDs.length 24) (cond (small (j3.1.1.iDs.length+([j3.2.1.1.iD]).length) 24) (let v4:=j3.1.1.iDs++[j3.2.1.1.iD];rt ⟨j3.1.1.jh,v4⟩) none) none) (rt j3.1.1)) (rt j3.1.1)
def c157:=cf c156 97 [(.f qaa),(.f qae)] [qaa] (u2 Zex)
theorem o157:EO c157:=sx o156 (lcA [] [(4,[(2,qas),(3,qj),(4,qas)],true)]) Tryz.func97 dn
def Zib(a0:Ji)(a1:Jy):O2 Ji Jj:=
 cond a1.jbh ((Zgl a0.jh).bind λr1=>(Zfg r1.2.1 a1.now a1.jaa).bind λr2=>ru ⟨r2.2.1,a0.iDs⟩ {err:=r2.2.2.2.1}) ((Zgn a0.jh a1.now a1.jj a1.jbd a1.jaa).bind λr3=>(Zex ⟨r3.2.1,a0.iDs⟩ r3.2.2.1).bind λr4=>ru r4.2.1 r3.2.2.1)
def c158:=cf c157 51 [(.f qaa),(.f (.v (.agg 17)))] [qaa,qae] (u2 Zib)
theorem o158:EO c158:=sx o157 (lcA [] []) Tryz.func51 dn
def Zdu(a0:Ji)(a1:Int):O1 Ji:=
 (Zho a0.jh).bind λr1=>(Zhn 0).bind λr2=>(Zcf r2.2.1).bind λr3=>(Zbv r1.2.1 3#64 r3.2.1).bind λr4=>(Zbk 4711#64).bind λr5=>(Zib a0 ⟨false,a0.jh.now,{kind:=9,jv:=r5.2.1,proof:=r4.2.1,jb:=a1},[],-1⟩).bind λr6=>rt r6.2.1
def c159:=cf c158 52 [(.f qaa),qc] [qaa] (u2 Zdu)
theorem o159:EO c159:=sz o158 Tryz.func52
def Zid(a0:Int):O1 Ua:=
 let v1:List Ua:=[[97,46,101,120,97,109,112,108,101],[98,46,101,120,97,109,112,108,101],[115,104,111,112,46,116,101,115,116]];let v2:=Qa .i64 ((Qb (Qc .i64) a0&&&Qb (Qc .i64) 65535).toNat:Int);cond (decide (0<=Qf v2 3)&&decide (Qf v2 3<3)) (v1[(Qf v2 3).toNat]?.bind λx3=>rt x3) none
def c160:=ct c159 53 [qc] [qt] (u1 Zid)
theorem o160:EO c160:=sz o159 Tryz.func53
def Zge(a0:Int):O1 Ua:=
 let v1:List Ua:=[[117,49],[117,50],[0,255]];let v2:=Qa .i64 ((Qb (Qc .i64) a0&&&Qb (Qc .i64) 65535).toNat:Int);cond (decide (0<=Qf v2 3)&&decide (Qf v2 3<3)) (v1[(Qf v2 3).toNat]?.bind λx3=>rt x3) none
def c161:=ct c160 54 [qc] [qt] (u1 Zge)
theorem o161:EO c161:=sz o160 Tryz.func54
def Zgf(a0:Int):O1 Ub:=
 (passkeyref1_Words [Qb 64 a0]).bind λr1=>(Zgo 99 r1.2.1).bind λr2=>rt r2.2.1
def c162:=ct c161 55 [qc] [qr] (u1 Zgf)
theorem o162:EO c162:=sz o161 Tryz.func55
def Zbs(a0:Jd)(a1:Jb):O1 Jb:=
 (Zdb a1).bind λr1=>(Zbg a0.ju.value r1.2.1).bind λr2=>rt {a1 with auth:=r2.2.1,jl:=true}
def c163:=cf c162 56 [qau,qa5] [qh] (u2 Zbs)
theorem o163:EO c163:=sz o162 Tryz.func56
def Zgc_L0b(y0:Int)(y1 y2:Ji×Unit)(y3:Int):Option ((Int×(Ji×Unit)×(Ji×Unit)×Int×Unit)⊕((Ji×Unit)×(Ji×Unit)×Unit)):=
 cond (decide (y3<3)) ((Zdu y2.1 1).bind λr7=>let v8:=Qj y0 (2^min (Qb 64 (Qa .i64 (2*y3))).toNat (Qc .i64));let v9:=Qa .i64 ((Qb (Qc .i64) v8&&&Qb (Qc .i64) 3).toNat:Int);(Zid (Qa .i64 (Int.tdiv v9 3))).bind λr10=>(Zge y3).bind λr11=>(Zgf y3).bind λr12=>let v13:=Qj y0 (2^min (Qb 64 (Qa .i64 (6+y3))).toNat (Qc .i64));let v14:=Qa .i64 ((Qb (Qc .i64) v13&&&Qb (Qc .i64) 1).toNat:Int);let v15:=Qj y0 (2^min (Qb 64 (Qa .i64 (9+y3))).toNat (Qc .i64));let v16:=Qa .i64 ((Qb (Qc .i64) v15&&&Qb (Qc .i64) 1).toNat:Int);(Zbs r7.2.1.jh ⟨2,r10.2.1,r11.2.1,[],r12.2.1,Qa .i64 (1+v14),Qa .i64 (1+v16),[],decide (y3<2),false,false,decide (y3=0),0,0#64,false,0#64,[],[],0,[],0⟩).bind λr17=>let v18:List Jl:=[⟨Qa .i64 (r7.2.1.jh.now+1),1⟩];(Zib r7.2.1 ⟨false,r7.2.1.jh.now,r17.2.1,v18,-1⟩).bind λr19=>some (Qe (y0,(y1.1,()),(r19.2.1,()),Qa .i64 (y3+1),()))) (some (Qd ((y1.1,()),(y2.1,()),())))
def Zgc_L0:=i4 Zgc_L0b
def Zgc(a0 a1:Int):O1 Ji:=
 (Zez a0).bind λr1=>(Zho r1.2.1.jh).bind λr2=>(Zbk 4711#64).bind λr3=>(Zhn 0).bind λr4=>(Zch r2.2.1 1#64 r4.2.1).bind λr5=>(Zib r1.2.1 ⟨false,r1.2.1.jh.now,{kind:=7,jv:=r3.2.1,box:=r5.2.1},[],-1⟩).bind λr6=>(Zgc_L0 (a1,({},()),(r6.2.1,()),0,())).bind λz20=>(Zdu z20.2.1.1 7).bind λr21=>rt r21.2.1
def c164:=cf c163 18 [qc,qc] [qaa] (u2 Zgc)
def s_Zgc_L0:LSpec T:=⟨[(1,qc),(4,qas),(5,qas),(10,qc)],[(.exit 0,[(4,qas),(5,qas)])],Zgc_L0,[]⟩
def A_Zgc:Loc2 T:=lcA [(0,s_Zgc_L0)] []
theorem Vty:LO c164 Tryz.f18 0 s_Zgc_L0:=lx o163 A_Zgc dn (λ_=>rfl)
theorem o164:EO c164:=sx o163 A_Zgc Tryz.func18 (dc rfl Vty dn)
def Zgd(a0:Int):O1 Ua:=
 let v1:List Ua:=[[],[97],[98],[108,111,103,105,110],[107,101,121],[101,120,97,109,112,108,101,46,111,114,103],[195,169],[48,49,50,51,52,53,54,55,56,57,48,49,50,51,52,53]];let v2:=Qa .i64 ((Qb (Qc .i64) a0&&&Qb (Qc .i64) 7).toNat:Int);cond (decide (0<=v2)&&decide (v2<8)) (v1[v2.toNat]?.bind λx3=>let v4:=Qa .i64 ((Qb (Qc .i64) (Qj a0 (2^min 3 (Qc .i64)))&&&Qb (Qc .i64) 7).toNat:Int);cond (decide (0<=v4)&&decide (v4<8)) (v1[v4.toNat]?.bind λx5=>cond (Nat.ble (x3.length+x5.length) 9223372036854775807) (rt (x3++x5)) none) none) none
def c165:=ct c164 59 [qc] [qt] (u1 Zgd)
theorem o165:EO c165:=sz o164 Tryz.func59
def Zic(a0:Int):O1 Ua:=
 let v1:=Qa .i64 ((Qb (Qc .i64) a0&&&Qb (Qc .i64) 7).toNat:Int);(Zem (Qb 64 v1+1#64) 5#64 176).bind λr2=>rt r2.2.1
def c166:=cf c165 102 [qc] [qk] (u1 Zic)
theorem o166:EO c166:=sz o165 Tryz.func102
def Zcx(a0:Ji)(a1:Int):O1 Ua:=
 cond (decide ((a0.iDs.length:Int)=0)) ((Zic a1).bind λr1=>rt r1.2.1) (let v2:=Qa .i64 ((Qb (Qc .i64) a1&&&Qb (Qc .i64) 15).toNat:Int);cond (decide (v2=15)) ((Zic a1).bind λr3=>rt r3.2.1) (let v4:=Qa .i64 ((Qb (Qc .i64) a1&&&Qb (Qc .i64) 15).toNat:Int);cond (decide ((a0.iDs.length:Int)=0)) none ((getI a0.iDs (Qf v4 (a0.iDs.length:Int))).bind λx5=>rt x5)))
def c167:=cf c166 60 [(.f qaa),qc] [qav] (u2 Zcx)
theorem o167:EO c167:=sz o166 Tryz.func60
def Zbf(a0:Int):O1 Jg:=
 (Zid a0).bind λr1=>(Zge (Qj a0 (2^min 2 (Qc .i64)))).bind λr2=>(Zgd (Qj a0 (2^min 4 (Qc .i64)))).bind λr3=>let v4:=Qa .i64 ((Qb (Qc .i64) (Qj a0 (2^min 3 (Qc .i64)))&&&Qb (Qc .i64) 1).toNat:Int);let v5:=Qf (Qj a0 (2^min 5 (Qc .i64))) 3;let v6:=Qa .i64 ((Qb (Qc .i64) (Qj a0 (2^min 7 (Qc .i64)))&&&Qb (Qc .i64) 1).toNat:Int);cond (decide (v6=1)) (let v7:=Qa .i64 ((Qb (Qc .i64) (Qj a0 (2^min 8 (Qc .i64)))&&&Qb (Qc .i64) 1).toNat:Int);cond (decide (v7=1)) (let v8:=Qa .i64 ((Qb (Qc .i64) (Qj a0 (2^min 9 (Qc .i64)))&&&Qb (Qc .i64) 1).toNat:Int);rt ⟨r1.2.1,r2.2.1,r3.2.1,Qb 64 a0*11400714819323198485#64,Qa .i64 (1+v4),decide (v6=1),Qa .i64 (1+v5),decide (v7=1),decide (v8=1)⟩) (rt ⟨r1.2.1,r2.2.1,r3.2.1,Qb 64 a0*11400714819323198485#64,Qa .i64 (1+v4),decide (v6=1),Qa .i64 (1+v5),decide (v7=1),false⟩)) (rt ⟨r1.2.1,r2.2.1,r3.2.1,Qb 64 a0*11400714819323198485#64,Qa .i64 (1+v4),decide (v6=1),Qa .i64 (1+v5),false,false⟩)
def c168:=ct c167 61 [qc] [qak] (u1 Zbf)
theorem o168:EO c168:=sz o167 Tryz.func61
def Zao(a0:Jg)(a1 a2:Int):O2 Ua Int:=
 (Zad a0).bind λr1=>cond (!(decide (r1.2.2.1=0))) (ru [] r1.2.2.1) (cond (!a0.jag) (ru [] 18) (cond (decide (a1<0)) (ru [] 9) (cond (decide (a2<a1)) (ru [] 9) (let v2:=Qa .i64 (1*2^min (Qb 64 a0.jd).toNat (Qc .i64));cond (decide (v2<a2)) (ru [] 9) (let v3:Ua:=[Qg (Qb 8 a1),Qg (Qb 8 a2)];cond (small (v3.length+(r1.2.1:Ua).length) 1) (ru (v3++r1.2.1) 0) none)))))
def c169:=cf c168 62 [(.f qak),qc,qc] [qk,qa] (u3 Zao)
theorem o169:EO c169:=sz o168 Tryz.func62
def Zey(a0:Jb)(a1:Int):O1 Jb:=
 let v1:=Qa .i64 ((Qb (Qc .i64) (Qj a1 (2^min 5 (Qc .i64)))&&&Qb (Qc .i64) 65535).toNat:Int);let v2:=Qa .i64 ((Qb (Qc .i64) a1&&&Qb (Qc .i64) 31).toNat:Int);cond (decide (v2=0)) (rt {a0 with kind:=Qa .i64 (Qf v1 20-2)}) (cond (decide (v2=1)) (let v3:=Qi 65 (0:UInt8);let v4:List Ua:=[[],[99,46,101,120,97,109,112,108,101],[255],v3];let v5:=Qa .i64 ((Qb (Qc .i64) v1&&&Qb (Qc .i64) 3).toNat:Int);cond (decide (0<=v5)&&decide (v5<4)) (v4[v5.toNat]?.bind λx6=>rt {a0 with rP:=x6}) none) (cond (decide (v2=2)) (let v7:List Ua:=[[],[117,49],[48,49,50,51,52,53,54,55,56,57,48,49,50,51,52,53,54]];cond (decide (0<=Qf v1 3)&&decide (Qf v1 3<3)) (v7[(Qf v1 3).toNat]?.bind λx8=>rt {a0 with user:=x8}) none) (cond (decide (v2=3)) (let v9:=Qi 33 (0:UInt8);let v10:List Ua:=[[],[192],v9];cond (decide (0<=Qf v1 3)&&decide (Qf v1 3<3)) (v10[(Qf v1 3).toNat]?.bind λx11=>rt {a0 with name:=x11}) none) (cond (decide (v2=4)) (rt {a0 with jd:=Qa .i64 (Qf v1 8-1)}) (cond (decide (v2=5)) (rt {a0 with je:=Qa .i64 (Qf v1 6-1)}) (cond (decide (v2=6)) (cond (small a0.list.length 24) (cond (decide (0<=Qa .i64 (175+Qf v1 3))&&(decide (Qa .i64 (175+Qf v1 3)<=Qa .i64 (175+Qf v1 3))&&decide (1*Qa .i64 (175+Qf v1 3)<=281474976710656/\Qa .i64 (175+Qf v1 3)<=9223372036854775807))) (let v12:=Qi (Qa .i64 (175+Qf v1 3)).toNat (0:UInt8);cond (small (a0.list.length+([v12]).length) 24) (rt {a0 with list:=a0.list++[v12]}) none) none) none) (cond (decide (v2=7)) (cond (decide (0<=Qf v1 10)&&(decide (Qf v1 10<=Qf v1 10)&&decide (24*Qf v1 10<=281474976710656/\Qf v1 10<=9223372036854775807))) (let v13:=Qi (Qf v1 10).toNat [];rt {a0 with list:=v13}) none) (cond (decide (v2=8)) (rt {a0 with jk:=Qa .i64 (Qf v1 5-1)}) (cond (decide (v2=9)) (rt {a0 with auth:=a0.auth+1#64}) (cond (decide (v2=10)) (rt {a0 with jl:=!a0.jl}) (cond (decide (v2=11)) (let v14:List Ub:=[0#64,1#64,2#64,2305843009213693950#64,2305843009213693949#64,2305843009213693951#64];cond (decide (0<=Qf v1 6)&&decide (Qf v1 6<6)) (v14[(Qf v1 6).toNat]?.bind λx15=>rt {a0 with jv:=x15}) none) (cond (decide (v2=12)) (let v16:List Int:=[0,16,1024,1025];let v17:=Qa .i64 ((Qb (Qc .i64) v1&&&Qb (Qc .i64) 3).toNat:Int);cond (decide (0<=v17)&&decide (v17<4)) (v16[v17.toNat]?.bind λx18=>cond (decide (0<=x18)&&(decide (x18<=x18)&&decide (1*x18<=281474976710656/\x18<=9223372036854775807))) (let v19:=Qi x18.toNat (0:UInt8);rt {a0 with box:=v19}) none) none) (cond (decide (v2=13)) (cond (small a0.proof.length 1) (cond (small (a0.proof.length+([Qg (Qb 8 v1)]).length) 1) (let v20:=a0.proof++[Qg (Qb 8 v1)];rt {a0 with proof:=v20}) none) none) (cond (decide (v2=14)) (let v21:List Int:=[0,7,8,256,-1];cond (decide (0<=Qf v1 5)&&decide (Qf v1 5<5)) (v21[(Qf v1 5).toNat]?.bind λx22=>rt {a0 with jb:=x22}) none) (cond (decide (v2=15)) (cond (decide (0<=Qa .i64 (175+Qf v1 3))&&(decide (Qa .i64 (175+Qf v1 3)<=Qa .i64 (175+Qf v1 3))&&decide (1*Qa .i64 (175+Qf v1 3)<=281474976710656/\Qa .i64 (175+Qf v1 3)<=9223372036854775807))) (let v23:=Qi (Qa .i64 (175+Qf v1 3)).toNat (0:UInt8);rt {a0 with iD:=v23}) none) (cond (decide (v2=16)) (let v24:List Int:=[0,16,256,-1];let v25:=Qa .i64 ((Qb (Qc .i64) v1&&&Qb (Qc .i64) 3).toNat:Int);cond (decide (0<=v25)&&decide (v25<4)) (v24[v25.toNat]?.bind λx26=>rt {a0 with count:=x26}) none) (cond (decide (v2=17)) (rt {a0 with jo:=!a0.jo}) (cond (decide (v2=18)) (rt {a0 with jt:=!a0.jt}) (cond (decide (v2=19)) (cond (decide (0<(a0.box.length:Int))) (cond (small a0.box.length 1) (cond (decide ((a0.box.length:Int)=0)) none (cond (decide (0<=Qf v1 (a0.box.length:Int))&&decide (Qf v1 (a0.box.length:Int)<a0.box.length)) (a0.box[(Qf v1 (a0.box.length:Int)).toNat]?.bind λx27=>let v28:=Qa .i64 ((Qb (Qc .i64) v1&&&Qb (Qc .i64) 7).toNat:Int);let v29:=Qg (Qb 8 (Qa .i64 (1+v28)));cond (decide (0<=Qf v1 (a0.box.length:Int))&&decide (Qf v1 (a0.box.length:Int)<a0.box.length)) (a0.box[(Qf v1 (a0.box.length:Int)).toNat]?.bind λx30=>let v31:=List.set a0.box (Qf v1 (a0.box.length:Int)).toNat (Qg (x27.toBitVec^^^v29.toBitVec));rt {a0 with box:=v31}) none) none)) none) (rt a0)) (cond (decide (v2=20)) (rt {a0 with jg:=!a0.jg}) (cond (decide (v2=21)) (rt {a0 with js:=!a0.js}) (rt a0))))))))))))))))))))))
def c170:=cf c169 20 [qa5,qc] [qh] (u2 Zey)
theorem o170:EO c170:=sx o169 (lcA [] []) Tryz.func20 dn
end Go.Proofs.YtnfhkhlbdgbkjaaGreatDoor

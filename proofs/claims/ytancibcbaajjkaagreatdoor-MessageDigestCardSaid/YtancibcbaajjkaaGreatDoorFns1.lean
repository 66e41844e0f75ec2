/- The functions of the program, as plain functions, and that the program computes them. Written by a program. -/
import Derived.Test.YtancibcbaajjkaaGreatDoorFns0
set_option linter.unusedVariables false
set_option maxRecDepth 100000
namespace Go.Proofs.YtancibcbaajjkaaGreatDoor
open Go Go.Abs
open Go.IntKind renaming wrap → Qa, bits → Qc
open _root_.BitVec renaming ofInt → Qb, setWidth → Qm
open _root_.Sum renaming inr → Qd, inl → Qe, elim → Qh
open _root_.Int renaming tmod → Qf, fdiv → Qj
open _root_.UInt8 renaming ofBitVec → Qg
open _root_.List renaming replicate → Qi, take → Qk, drop → Ql
def Zfe (a0:Ja) (a1 a2:Int) (a3:Bool) (a4:List UInt8):Option (Unit×Int×Unit):=
 (bif decide (a0.kind=3) then some (a1,a2,a3,a4,(a0,()),true,()) else some (a1,a2,a3,a4,(a0,()),decide (a0.kind=4),())).bind λj1=>(bif decide (j1.2.2.2.2.1.1.kind=5) then some (j1.1,j1.2.1,j1.2.2.1,j1.2.2.2.1,(j1.2.2.2.2.1.1,()),j1.2.2.2.2.2.1,true,()) else some (j1.1,j1.2.1,j1.2.2.1,j1.2.2.2.1,(j1.2.2.2.2.1.1,()),j1.2.2.2.2.2.1,decide (j1.2.2.2.2.1.1.kind=6),())).bind λj2=>bif decide (512<=j2.1) then some ((),8,()) else ((Zdz j2.2.2.2.2.1.1.kind 1 8).bind λr3=>bif !r3.2.1 then some (j2.2.1,j2.2.2.1,j2.2.2.2.1,(j2.2.2.2.2.1.1,()),j2.2.2.2.2.2.1,j2.2.2.2.2.2.2.1,true,()) else bif j2.2.2.1 then (Zff j2.2.2.2.2.1.1.kind).bind λr4=>some (j2.2.1,j2.2.2.1,j2.2.2.2.1,(j2.2.2.2.2.1.1,()),j2.2.2.2.2.2.1,j2.2.2.2.2.2.2.1,!r4.2.1,()) else some (j2.2.1,j2.2.2.1,j2.2.2.2.1,(j2.2.2.2.2.1.1,()),j2.2.2.2.2.2.1,j2.2.2.2.2.2.2.1,false,())).bind λj5=>bif j5.2.2.2.2.2.2.1 then some ((),3,()) else bif decide (8 < j5.1) then some ((),5,()) else (bif j5.2.2.2.2.1 then bif !(decide (j5.2.2.2.1.1.number=0#64)) then some (j5.2.1,j5.2.2.1,(j5.2.2.2.1.1,()),j5.2.2.2.2.2.1,true,()) else bif decide (j5.2.2.2.1.1.kind=7) then bif decide ((1#64).toNat < j5.2.2.2.1.1.number.toNat) then some (j5.2.1,j5.2.2.1,(j5.2.2.2.1.1,()),j5.2.2.2.2.2.1,true,()) else bif !j5.2.2.2.2.1 then some (j5.2.1,j5.2.2.1,(j5.2.2.2.1.1,()),j5.2.2.2.2.2.1,!(decide (j5.2.2.2.1.1.data=([]:List UInt8))),()) else some (j5.2.1,j5.2.2.1,(j5.2.2.2.1.1,()),j5.2.2.2.2.2.1,false,()) else bif !j5.2.2.2.2.1 then some (j5.2.1,j5.2.2.1,(j5.2.2.2.1.1,()),j5.2.2.2.2.2.1,!(decide (j5.2.2.2.1.1.data=([]:List UInt8))),()) else some (j5.2.1,j5.2.2.1,(j5.2.2.2.1.1,()),j5.2.2.2.2.2.1,false,()) else bif decide (j5.2.2.2.1.1.kind=8) then bif !(decide (j5.2.2.2.1.1.number=0#64)) then some (j5.2.1,j5.2.2.1,(j5.2.2.2.1.1,()),j5.2.2.2.2.2.1,true,()) else bif decide (j5.2.2.2.1.1.kind=7) then bif decide ((1#64).toNat < j5.2.2.2.1.1.number.toNat) then some (j5.2.1,j5.2.2.1,(j5.2.2.2.1.1,()),j5.2.2.2.2.2.1,true,()) else bif !j5.2.2.2.2.1 then some (j5.2.1,j5.2.2.1,(j5.2.2.2.1.1,()),j5.2.2.2.2.2.1,!(decide (j5.2.2.2.1.1.data=([]:List UInt8))),()) else some (j5.2.1,j5.2.2.1,(j5.2.2.2.1.1,()),j5.2.2.2.2.2.1,false,()) else bif !j5.2.2.2.2.1 then some (j5.2.1,j5.2.2.1,(j5.2.2.2.1.1,()),j5.2.2.2.2.2.1,!(decide (j5.2.2.2.1.1.data=([]:List UInt8))),()) else some (j5.2.1,j5.2.2.1,(j5.2.2.2.1.1,()),j5.2.2.2.2.2.1,false,()) else bif decide (j5.2.2.2.1.1.kind=7) then bif decide ((1#64).toNat < j5.2.2.2.1.1.number.toNat) then some (j5.2.1,j5.2.2.1,(j5.2.2.2.1.1,()),j5.2.2.2.2.2.1,true,()) else bif !j5.2.2.2.2.1 then some (j5.2.1,j5.2.2.1,(j5.2.2.2.1.1,()),j5.2.2.2.2.2.1,!(decide (j5.2.2.2.1.1.data=([]:List UInt8))),()) else some (j5.2.1,j5.2.2.1,(j5.2.2.2.1.1,()),j5.2.2.2.2.2.1,false,()) else bif !j5.2.2.2.2.1 then some (j5.2.1,j5.2.2.1,(j5.2.2.2.1.1,()),j5.2.2.2.2.2.1,!(decide (j5.2.2.2.1.1.data=([]:List UInt8))),()) else some (j5.2.1,j5.2.2.1,(j5.2.2.2.1.1,()),j5.2.2.2.2.2.1,false,())).bind λj6=>bif j6.2.2.2.2.1 then some ((),4,()) else (bif decide (1024 < (j6.2.2.1.1.data.length:Int)) then some (j6.1,j6.2.1,(j6.2.2.1.1,()),true,()) else bif j6.2.2.2.1 then some (j6.1,j6.2.1,(j6.2.2.1.1,()),decide ((512#64).toNat < j6.2.2.1.1.number.toNat),()) else some (j6.1,j6.2.1,(j6.2.2.1.1,()),false,())).bind λj7=>bif j7.2.2.2.1 then some ((),8,()) else (bif decide (j7.2.2.1.1.kind=4) then (Zgt j7.2.2.1.1.data).bind λr8=>some (j7.1,j7.2.1,(j7.2.2.1.1,()),!r8.2.1,()) else some (j7.1,j7.2.1,(j7.2.2.1.1,()),false,())).bind λj9=>bif j9.2.2.2.1 then some ((),6,()) else (bif j9.1 then bif !(decide (j9.2.1=([]:List UInt8))) then (Zfd j9.2.2.1.1).bind λr10=>(Zgf j9.2.1 r10.2.1).bind λr11=>some (!r11.2.1,()) else some (false,()) else some (false,())).bind λj12=>bif j12.1 then some ((),7,()) else some ((),0,())
def S_Zfe:FSpec T:=⟨[(.f qz),qc,qc,qr,qar],[qa],λx=>Zfe x.1 x.2.1 x.2.2.1 x.2.2.2.1 x.2.2.2.2.1⟩
theorem Vzg:SoundT Tryz.prog cd gdn 233 S_Zfe:=
 sndC hmix o85 (lcA [] [(2,[(1,.f (.v (.int .i64))),(2,.f (.v (.int .i64))),(3,.f (.v .bool)),(4,.f (.v .str)),(5,.ptr [(.v (.agg 1))]),(11,.f (.v .bool))],true),(3,[(1,.f (.v (.int .i64))),(2,.f (.v (.int .i64))),(3,.f (.v .bool)),(4,.f (.v .str)),(5,.ptr [(.v (.agg 1))]),(11,.f (.v .bool)),(12,.f (.v .bool))],true),(6,[(2,.f (.v (.int .i64))),(3,.f (.v .bool)),(4,.f (.v .str)),(5,.ptr [(.v (.agg 1))]),(11,.f (.v .bool)),(12,.f (.v .bool)),(32,.f (.v .bool))],true),(10,[(3,.f (.v .bool)),(4,.f (.v .str)),(5,.ptr [(.v (.agg 1))]),(12,.f (.v .bool)),(49,.f (.v .bool))],true),(12,[(3,.f (.v .bool)),(4,.f (.v .str)),(5,.ptr [(.v (.agg 1))]),(80,.f (.v .bool))],true),(14,[(3,.f (.v .bool)),(4,.f (.v .str)),(5,.ptr [(.v (.agg 1))]),(93,.f (.v .bool))],true),(16,[(103,.f (.v .bool))],true)] []) Tryz.func233 Vai (by kernel_rfl) (by kernel_rfl) λx=>by kernel_rfl
def c86:List (Ct T):=⟨233,none,S_Zfe,true⟩::c85
theorem o86:EnvOk Tryz.prog (mE c86):=eCons Vzg o85
def passkeyref1_walk_L0b (k_rec:List Ja->Int->Int->Bool->List UInt8->Option (Unit×Int×Int×Unit)) (y0:List Ja) (y1:Int) (y2:Ja×Unit) (y3:Int) (y4:List UInt8) (y5:BitVec 64):Option (List Ja×Int×(Ja×Unit)×Int×List UInt8×BitVec 64×Unit⊕Int×Int×Unit⊕Int×Unit):=
 bif decide (y5.toNat < y2.1.number.toNat) then bif decide (y2.1.kind=5) then (bif decide (y2.1.kind=6) then (k_rec y0 y3 (Qa .i64 (y1+1)) true y4).bind λr3=>bif !(decide (r3.2.2.1=0)) then (some (Qd (Qe (r3.2.1,r3.2.2.1,())))).bind λq=>some (Qd q) else (getI y0 y3).bind λx4=>(Zfd x4).bind λr5=>some (Qe (y0,y1,(y2.1,()),r3.2.1,r5.2.1,y5,())) else some (Qe (y0,y1,(y2.1,()),y3,y4,y5,()))).bind (Qh (λj6=>(k_rec j6.1 j6.2.2.2.1 (Qa .i64 (j6.2.1+1)) false ([]:List UInt8)).bind λr7=>bif !(decide (r7.2.2.1=0)) then some (Qd (Qe (r7.2.1,r7.2.2.1,()))) else some (Qe (j6.1,j6.2.1,(j6.2.2.1.1,()),r7.2.1,j6.2.2.2.2.1,j6.2.2.2.2.2.1+1#64,()))) some) else bif decide (y2.1.kind=6) then (bif decide (y2.1.kind=6) then (k_rec y0 y3 (Qa .i64 (y1+1)) true y4).bind λr8=>bif !(decide (r8.2.2.1=0)) then (some (Qd (Qe (r8.2.1,r8.2.2.1,())))).bind λq=>some (Qd q) else (getI y0 y3).bind λx9=>(Zfd x9).bind λr10=>some (Qe (y0,y1,(y2.1,()),r8.2.1,r10.2.1,y5,())) else some (Qe (y0,y1,(y2.1,()),y3,y4,y5,()))).bind (Qh (λj11=>(k_rec j11.1 j11.2.2.2.1 (Qa .i64 (j11.2.1+1)) false ([]:List UInt8)).bind λr12=>bif !(decide (r12.2.2.1=0)) then some (Qd (Qe (r12.2.1,r12.2.2.1,()))) else some (Qe (j11.1,j11.2.1,(j11.2.2.1.1,()),r12.2.1,j11.2.2.2.2.1,j11.2.2.2.2.2.1+1#64,()))) some) else some (Qd (Qd (y3,()))) else some (Qd (Qd (y3,())))
def passkeyref1_walk_L0 (k_rec:List Ja->Int->Int->Bool->List UInt8->Option (Unit×Int×Int×Unit)) (y:List Ja×Int×(Ja×Unit)×Int×List UInt8×BitVec 64×Unit):Option (Int×Int×Unit⊕Int×Unit):=
 iter (λ(y:List Ja×Int×(Ja×Unit)×Int×List UInt8×BitVec 64×Unit)=>passkeyref1_walk_L0b k_rec y.1 y.2.1 y.2.2.1 y.2.2.2.1 y.2.2.2.2.1 y.2.2.2.2.2.1) rounds y
def passkeyref1_walk_R (k_rec:List Ja->Int->Int->Bool->List UInt8->Option (Unit×Int×Int×Unit)) (a0:List Ja) (a1 a2:Int) (a3:Bool) (a4:List UInt8):Option (Unit×Int×Int×Unit):=
 bif decide (a0.length<=a1) then some ((),a1,1,()) else (getI a0 a1).bind λx1=>(Zfe x1 a1 a2 a3 a4).bind λr2=>bif !(decide (r2.2.1=0)) then some ((),a1,r2.2.1,()) else (passkeyref1_walk_L0 k_rec (a0,a2,(x1,()),Qa .i64 (a1+1),[],0#64,())).bind (Qh (λz13=>some ((),z13.1,z13.2.1,())) (λz14=>some ((),z14.1,0,())))
abbrev ps_passkeyref1_walk:List Slot:=[qa7,qc,qc,qr,qar]
abbrev rs_passkeyref1_walk:List Fld:=[qa,qa]
def E_passkeyref1_walk (k_rec:(List (Ja))->Int->Int->Bool->(List UInt8)->Option ((Unit)×(Int×Int×Unit))):Env T:=⟨tab.find,cd,globs,flc,λf ds=>match f with
  | 119=>some S_Zfd
  | 161=>some ⟨ps_passkeyref1_walk,rs_passkeyref1_walk,λx=>k_rec x.1 x.2.1 x.2.2.1 x.2.2.2.1 x.2.2.2.2.1⟩
  | 233=>some S_Zfe
  | _=>none,λf=>match f with
  | 119=>true
  | 161=>true
  | 233=>true
  | _=>false⟩
def A_passkeyref1_walk (k_rec:(List (Ja))->Int->Int->Bool->(List UInt8)->Option ((Unit)×(Int×Int×Unit))):Loc2 T:=⟨λid=>match id with
  | 0=>some ⟨[(0,.f (.v (.rs 1))),(2,.f (.v (.int .i64))),(12,.ptr [(.v (.agg 1))]),(14,.f (.v (.int .i64))),(15,.f (.v .str)),(16,.f (.v .u64))],[(.ret,[(10,.f (.v (.int .i64))),(11,.f (.v (.int .i64)))]),(.exit 0,[(14,.f (.v (.int .i64)))])],passkeyref1_walk_L0 k_rec,[]⟩
  | _=>none,λr=>match r with
  | 19=>some ([(0,.f (.v (.rs 1))),(2,.f (.v (.int .i64))),(12,.ptr [(.v (.agg 1))]),(14,.f (.v (.int .i64))),(15,.f (.v .str)),(16,.f (.v .u64))],false)
  | _=>none,λr=>match r with
  | _=>false⟩
theorem Vdo (k_rec:(List (Ja))->Int->Int->Bool->(List UInt8)->Option ((Unit)×(Int×Int×Unit))) (y0:(List (Ja))) (y1:Int) (y2:(Ja×Unit)) (y3:Int) (y4:(List UInt8)) (y5:(BitVec 64)):run (E_passkeyref1_walk k_rec) (A_passkeyref1_walk k_rec) (loopAt 0 (Tryz.f161.body.getD .skip)) (layC cd [(0,.f (.v (.rs 1))),(2,.f (.v (.int .i64))),(12,.ptr [(.v (.agg 1))]),(14,.f (.v (.int .i64))),(15,.f (.v .str)),(16,.f (.v .u64))] [] (y0,y1,y2,y3,y4,y5,())) (roundK cd [(0,.f (.v (.rs 1))),(2,.f (.v (.int .i64))),(12,.ptr [(.v (.agg 1))]),(14,.f (.v (.int .i64))),(15,.f (.v .str)),(16,.f (.v .u64))] [] [(.ret,[(10,.f (.v (.int .i64))),(11,.f (.v (.int .i64)))]),(.exit 0,[(14,.f (.v (.int .i64)))])])=passkeyref1_walk_L0b k_rec y0 y1 y2 y3 y4 y5:=by kernel_rfl
theorem Vel (k_rec:(List (Ja))->Int->Int->Bool->(List UInt8)->Option ((Unit)×(Int×Int×Unit))) (x:tySs T ps_passkeyref1_walk):run (E_passkeyref1_walk k_rec) (A_passkeyref1_walk k_rec) (Tryz.f161.body.getD .skip) (enterT (E_passkeyref1_walk k_rec).C ps_passkeyref1_walk x) (retK (E_passkeyref1_walk k_rec) Tryz.f161.results.toList ps_passkeyref1_walk rs_passkeyref1_walk)=passkeyref1_walk_R k_rec x.1 x.2.1 x.2.2.1 x.2.2.2.1 x.2.2.2.2.1:=by kernel_rfl
def passkeyref1_walk_n:Nat->(List (Ja))->Int->Int->Bool->(List UInt8)->Option ((Unit)×(Int×Int×Unit))
 | 0=>λ_ _ _ _ _=>none
 | n+1=>passkeyref1_walk_R (passkeyref1_walk_n n)
def passkeyref1_walk (a0:(List (Ja))) (a1:Int) (a2:Int) (a3:Bool) (a4:(List UInt8)):=passkeyref1_walk_n 12 a0 a1 a2 a3 a4
def S_passkeyref1_walk:FSpec T:=⟨ps_passkeyref1_walk,rs_passkeyref1_walk,λx=>passkeyref1_walk x.1 x.2.1 x.2.2.1 x.2.2.2.1 x.2.2.2.2.1⟩
theorem Vb2 (k_rec:(List (Ja))->Int->Int->Bool->(List UInt8)->Option ((Unit)×(Int×Int×Unit))) (hk:SoundT Tryz.prog cd gdn 161 ⟨ps_passkeyref1_walk,rs_passkeyref1_walk,λx=>k_rec x.1 x.2.1 x.2.2.1 x.2.2.2.1 x.2.2.2.2.1⟩):EnvOk Tryz.prog (E_passkeyref1_walk k_rec):=envOk (E:=(E_passkeyref1_walk k_rec)) cd_ok tys fl_ok λf ds S h=>by
  dsimp only [E_passkeyref1_walk] at h
  split at h
  ·cases h; exact Vsi
  ·cases h; exact hk
  ·cases h; exact Vzg
  ·cases h
theorem Vdp (k_rec:(List (Ja))->Int->Int->Bool->(List UInt8)->Option ((Unit)×(Int×Int×Unit))) (hk:SoundT Tryz.prog cd gdn 161 ⟨ps_passkeyref1_walk,rs_passkeyref1_walk,λx=>k_rec x.1 x.2.1 x.2.2.1 x.2.2.2.1 x.2.2.2.2.1⟩):LoopOk Tryz.prog (E_passkeyref1_walk k_rec) Tryz.f161.ntmps (kqOf ps_passkeyref1_walk 0) (loopAt 0 (Tryz.f161.body.getD .skip)) ⟨[(0,.f (.v (.rs 1))),(2,.f (.v (.int .i64))),(12,.ptr [(.v (.agg 1))]),(14,.f (.v (.int .i64))),(15,.f (.v .str)),(16,.f (.v .u64))],[(.ret,[(10,.f (.v (.int .i64))),(11,.f (.v (.int .i64)))]),(.exit 0,[(14,.f (.v (.int .i64)))])],passkeyref1_walk_L0 k_rec,[]⟩:=
 Vko (A:=(A_passkeyref1_walk k_rec)) (done:=[]) (c0:=(Tryz.f161.body.getD .skip)) hmix (Vb2 k_rec hk) Vai rounds (by kernel_rfl) (by kernel_rfl) (λx=>Vdo k_rec x.1 x.2.1 x.2.2.1 x.2.2.2.1 x.2.2.2.2.1 x.2.2.2.2.2.1) (λ_=>rfl)
theorem Vbc:∀ n:Nat,SoundT Tryz.prog cd gdn 161 ⟨ps_passkeyref1_walk,rs_passkeyref1_walk,λx=>passkeyref1_walk_n n x.1 x.2.1 x.2.2.1 x.2.2.2.1 x.2.2.2.2.1⟩
 | 0=>Vf4 ⟨_,Tryz.func161,by kernel_rfl,by kernel_rfl⟩
 | n+1=>Vdd (E:=E_passkeyref1_walk (passkeyref1_walk_n n)) (A:=A_passkeyref1_walk (passkeyref1_walk_n n)) (done:=[0]) (c:=(Tryz.f161.body.getD .skip)) (S:=⟨ps_passkeyref1_walk,rs_passkeyref1_walk,λx=>passkeyref1_walk_n (n+1) x.1 x.2.1 x.2.2.1 x.2.2.2.1 x.2.2.2.2.1⟩) (fn:=Tryz.f161) hmix (Vb2 _ (Vbc n)) Tryz.func161 rfl (by kernel_rfl) (by kernel_rfl) (Vc0 rfl (Vdp _ (Vbc n)) Vai) (by kernel_rfl) (by kernel_rfl) (Vel (passkeyref1_walk_n n))
theorem Veq:SoundT Tryz.prog cd gdn 161 S_passkeyref1_walk:=Vbc 12
def c87:List (Ct T):=⟨161,none,S_passkeyref1_walk,true⟩::c86
theorem o87:EnvOk Tryz.prog (mE c87):=eCons Veq o86
def Zch (a0:List Ja):Option (Unit×Int×Unit):=
 (passkeyref1_walk a0 0 0 false []).bind λr1=>bif !(decide (r1.2.2.1=0)) then some ((),r1.2.2.1,()) else bif decide (r1.2.1 < a0.length) then some ((),2,()) else some ((),0,())
def c88:=ct c87 118 [qa7] [qa] (u1 Zch)
theorem o88:EO c88:=sz o87 Tryz.func118
abbrev Y_Zdy_L0:=((List (Ja))×(List (UInt8))×Int×Unit)
abbrev Z_Zdy_L0:=((List (UInt8))×Unit)
def Zdy_L0b (y0:List Ja) (y1:List UInt8) (y2:Int):Option (Y_Zdy_L0⊕Z_Zdy_L0):=
 bif decide (y2 < y0.length) then (getI y0 y2).bind λx2=>(Zfd x2).bind λr3=>bif small (y1.length+(r3.2.1:List UInt8).length) 1 then some (Qe (y0,y1++r3.2.1,Qa .i64 (y2+1),())) else none else some (Qd (y1,()))
def Zdy_L0 (y:Y_Zdy_L0):Option Z_Zdy_L0:=
 iter (λ(y:Y_Zdy_L0)=>Zdy_L0b y.1 y.2.1 y.2.2.1) rounds y
def Zdy (a0:List Ja):Option (Unit×List UInt8×Int×Unit):=
 (Zch a0).bind λr1=>bif !(decide (r1.2.1=0)) then some ((),[],r1.2.1,()) else (Zdy_L0 (a0,[],0,())).bind λz4=>some ((),z4.1,0,())
def c89:=cf c88 84 [qa7] [qj,qa] (u1 Zdy)
def s_Zdy_L0:LSpec T:=⟨[(0,qa7),(5,qae),(6,qc)],[(.exit 0,[(5,qae)])],Zdy_L0,[]⟩
def A_Zdy:Loc2 T:=lcA [(0,s_Zdy_L0)] [] []
theorem Vsj:LO c89 Tryz.f84 0 s_Zdy_L0:=lx o88 A_Zdy dn (λ_=>rfl)
theorem o89:EO c89:=sx o88 A_Zdy Tryz.func84 (dc rfl Vsj dn)
abbrev Y_passkeyref14_encode_L0:=((List (List Ja))×(List (Ja))×Int×Unit)
abbrev Z_passkeyref14_encode_L0:=((List (Ja))×Unit)
def passkeyref14_encode_L0b (y0:List (List Ja)) (y1:List Ja) (y2:Int):Option (Y_passkeyref14_encode_L0⊕Z_passkeyref14_encode_L0):=
 bif decide (y2 < y0.length) then (getI y0 y2).bind λx2=>bif decide (0 < (x2.length:Int)) then bif decide (0 < (y1.length:Int)) then y1[0]?.bind λx3=>bif decide (0 < (y1.length:Int)) then y1[0]?.bind λx4=>let v5:=List.set y1 0 ({x4 with number:=x3.number+1#64}:Ja);(Zcx (Qb 64 y2)).bind λr6=>bif small (v5.length+([r6.2.1]).length) 32 then (getI y0 y2).bind λx7=>bif small ((v5++[r6.2.1]).length+(x7:List Ja).length) 32 then let v8:=v5++[r6.2.1]++x7;some (Qe (y0,v8,Qa .i64 (y2+1),())) else none else none else none else none else some (Qe (y0,y1,Qa .i64 (y2+1),())) else some (Qd (y1,()))
def passkeyref14_encode_L0 (y:Y_passkeyref14_encode_L0):Option Z_passkeyref14_encode_L0:=
 iter (λ(y:Y_passkeyref14_encode_L0)=>passkeyref14_encode_L0b y.1 y.2.1 y.2.2.1) rounds y
def passkeyref14_encode (a0:List (List Ja)):Option (Unit×List UInt8×Unit):=
 let v1:List Ja:=[{kind:=6}];(passkeyref14_encode_L0 (a0,v1,1,())).bind λz9=>(Zdy z9.1).bind λr10=>some ((),r10.2.1,())
def c90:=cf c89 40 [qy] [qj] (u1 passkeyref14_encode)
def s_passkeyref14_encode_L0:LSpec T:=⟨[(0,qy),(3,qal),(4,qc)],[(.exit 0,[(3,qal)])],passkeyref14_encode_L0,[]⟩
def A_passkeyref14_encode:Loc2 T:=lcA [(0,s_passkeyref14_encode_L0)] [] [7]
theorem Vcr:LO c90 Tryz.f40 0 s_passkeyref14_encode_L0:=lx o89 A_passkeyref14_encode dn (λ_=>rfl)
theorem o90:EO c90:=sx o89 A_passkeyref14_encode Tryz.func40 (dc rfl Vcr dn)
def Zag (a0:Jb):Option (Unit×List UInt8×Int×Unit):=
 (Zbt a0).bind λr1=>bif !(decide (r1.2.1=0)) then some ((),[],r1.2.1,()) else (Zcw a0).bind λr2=>(passkeyref14_encode [r2.2.1.a0,r2.2.1.a1,r2.2.1.a2,r2.2.1.a3,r2.2.1.a4,r2.2.1.a5,r2.2.1.a6,r2.2.1.a7,r2.2.1.a8,r2.2.1.a9,r2.2.1.a10,r2.2.1.a11,r2.2.1.a12,r2.2.1.a13,r2.2.1.a14,r2.2.1.a15,r2.2.1.a16,r2.2.1.a17,r2.2.1.a18,r2.2.1.a19]).bind λr3=>bif small (([Qg (Qb 8 a0.kind)]).length+(r3.2.1:List UInt8).length) 1 then let v4:=[Qg (Qb 8 a0.kind)]++r3.2.1;some ((),v4,0,()) else none
def c91:=cf c90 16 [qa3] [qj,qa] (u1 Zag)
theorem o91:EO c91:=sx o90 (lcA [] [] [5]) Tryz.func16 dn
def Zcu (a0:Jb):Option (Unit×BitVec 64×Unit):=
 (Zbt a0).bind λr1=>bif !(decide (r1.2.1=0)) then some ((),0#64,()) else (Zag {a0 with auth:=0#64,jk:=false}).bind λr2=>(Zgc 21 r2.2.1).bind λr3=>some ((),r3.2.1,())
def c92:=ct c91 11 [qa3] [qp] (u1 Zcu)
theorem o92:EO c92:=sz o91 Tryz.func11
def Zbf (a0 a1:BitVec 64):Option (Unit×BitVec 64×Unit):=
 (passkeyref1_Words [a1]).bind λr1=>(Zhe a0 12 r1.2.1).bind λr2=>some ((),r2.2.1,())
def c93:=ct c92 95 [qd,qd] [qp] (u2 Zbf)
theorem o93:EO c93:=sz o92 Tryz.func95
def Zan (a0:Ju) (a1 a2:Int) (a3:List UInt8) (a4 a5:BitVec 64):Option (Unit×Int×Unit):=
 (bif decide (a0.jar<=a1) then some (a1,a2,a3,a4,a5,(a0,()),decide ((100#64).toNat < (Qb 64 a1 - Qb 64 a0.jar).toNat),()) else some (a1,a2,a3,a4,a5,(a0,()),false,())).bind λj1=>bif !j1.2.2.2.2.2.1.1.jao then some ((),29,()) else bif decide (j1.1 < j1.2.2.2.2.2.1.1.jar) then some ((),29,()) else bif j1.2.2.2.2.2.2.1 then some ((),29,()) else bif decide (j1.2.1 < 1) then some ((),29,()) else bif decide (7 < j1.2.1) then some ((),29,()) else let v2:=Qa .i64 ((Qb (Qc .i64) j1.2.2.2.2.2.1.1.jb&&&Qb (Qc .i64) j1.2.1).toNat:Int);bif !(decide (v2=j1.2.1)) then some ((),29,()) else bif !(decide (j1.2.2.2.2.2.1.1.rP=([]:List UInt8))) then bif !(decide (j1.2.2.2.2.2.1.1.rP=j1.2.2.1)) then some ((),29,()) else (Zbf j1.2.2.2.2.2.1.1.value j1.2.2.2.1).bind λr3=>bif !(decide (j1.2.2.2.2.1=r3.2.1)) then some ((),29,()) else some ((),0,()) else (Zbf j1.2.2.2.2.2.1.1.value j1.2.2.2.1).bind λr4=>bif !(decide (j1.2.2.2.2.1=r4.2.1)) then some ((),29,()) else some ((),0,())
def c94:=ct c93 247 [(.f qaw),qc,qc,qar,qd,qd] [qa] λx=>Zan x.1 x.2.1 x.2.2.1 x.2.2.2.1 x.2.2.2.2.1 x.2.2.2.2.2.1
theorem o94:EO c94:=sx o93 (lcA [] [(2,[(1,qc),(2,qc),(3,qar),(4,qd),(5,qd),(6,(.ptr [qaw])),(13,qr)],true)] []) Tryz.func247 dn
def Zae (a0:Jd×Unit) (a1:Int) (a2:List UInt8):Option (((Jd×Unit)×Unit)×Bool×Unit):=
 bif !a0.1.r.jk then some (((a0.1,()),()),false,()) else (Zcu a0.1.r).bind λr1=>(Zan a0.1.d.jt a0.1.d.now a1 a2 r1.2.1 a0.1.r.auth).bind λr2=>(Zbh (a0.1,()) r2.2.1).bind λr3=>some (((r3.1.1.1,()),()),decide (r3.1.1.1.err=0),())
def c95:=cf c94 184 [qk,qc,qar] [qf] (u3 Zae)
theorem o95:EO c95:=sz o94 Tryz.func184
def Zga (a0:Jc):Option (Unit×Jq×Unit):=
 (Zhk a0.jo 3).bind λr1=>bif decide ((r1.2.1.length:Int)=0) then some ((),{jac:=a0.jac},()) else (Zge r1.2.1).bind λr2=>(Zhk a0.jo 4).bind λr3=>bif decide ((r3.2.1.length:Int)=1) then bif decide (0 < (r3.2.1.length:Int)) then r3.2.1[0]?.bind λx4=>some ((),⟨true,r2.2.1,(x4.toBitVec.toNat:Int),a0.jac⟩,()) else none else some ((),⟨true,r2.2.1,0,a0.jac⟩,())
def S_Zga:FSpec T:=⟨[qas],[qa9],λx=>Zga x.1⟩
theorem Vzh:SoundT Tryz.prog cd gdn 179 S_Zga:=
 sndC hmix o95 (lcA [] [] [4]) Tryz.func179 Vai (by kernel_rfl) (by kernel_rfl) λx=>by kernel_rfl
def c96:List (Ct T):=⟨179,none,S_Zga,true⟩::c95
theorem o96:EnvOk Tryz.prog (mE c96):=eCons Vzh o95
abbrev Y_Zdn_L2:=(Int×Bool×Bool×(List (Jl))×(Jo×Unit)×Int×Int×Unit)
abbrev Z_Zdn_L2:=(((Jo×Unit)×Int×Unit)⊕(Int×Bool×Bool×(List (Jl))×(Jo×Unit)×Int×Unit))
def Zdn_L2b (y0:Int) (y1 y2:Bool) (y3:List Jl) (y4:Jo×Unit) (y5 y6:Int):Option (Y_Zdn_L2⊕Z_Zdn_L2):=
 bif decide (y6 < y3.length) then (getI y3 y6).bind λx4=>bif !(decide (x4.at_=y5)) then some (Qe (y0,y1,y2,y3,(y4.1,()),y5,Qa .i64 (y6+1),())) else ((getI y3 y6).bind λx5=>bif decide (x5.kind=1) then some (y0,y1,y2,y3,(y4.1,()),y5,y6,true,()) else (getI y3 y6).bind λx6=>bif decide (x6.kind=2) then bif !y1 then some (y0,y1,y2,y3,(y4.1,()),y5,y6,true,()) else (getI y3 y6).bind λx7=>bif decide (x7.kind=3) then some (y0,y1,y2,y3,(y4.1,()),y5,y6,!y2,()) else some (y0,y1,y2,y3,(y4.1,()),y5,y6,false,()) else (getI y3 y6).bind λx8=>bif decide (x8.kind=3) then some (y0,y1,y2,y3,(y4.1,()),y5,y6,!y2,()) else some (y0,y1,y2,y3,(y4.1,()),y5,y6,false,())).bind λj9=>(bif j9.2.2.2.2.2.2.2.1 then some (j9.1,j9.2.1,j9.2.2.1,j9.2.2.2.1,(j9.2.2.2.2.1.1,()),j9.2.2.2.2.2.1,j9.2.2.2.2.2.2.1,!j9.2.2.1,()) else some (j9.1,j9.2.1,j9.2.2.1,j9.2.2.2.1,(j9.2.2.2.2.1.1,()),j9.2.2.2.2.2.1,j9.2.2.2.2.2.2.1,false,())).bind λj10=>bif j10.2.2.2.2.2.2.2.1 then some (Qd (Qe ((⟨true,false,j10.2.2.2.2.2.1⟩,()),0,()))) else ((getI j10.2.2.2.1 j10.2.2.2.2.2.2.1).bind λx11=>bif decide (x11.kind=2) then some (j10.1,j10.2.1,j10.2.2.1,j10.2.2.2.1,(j10.2.2.2.2.1.1,()),j10.2.2.2.2.2.1,j10.2.2.2.2.2.2.1,j10.2.1,()) else some (j10.1,j10.2.1,j10.2.2.1,j10.2.2.2.1,(j10.2.2.2.2.1.1,()),j10.2.2.2.2.2.1,j10.2.2.2.2.2.2.1,false,())).bind λj12=>bif j12.2.2.2.2.2.2.2.1 then some (Qd (Qe ((⟨true,true,j12.2.2.2.2.2.1⟩,()),0,()))) else ((getI j12.2.2.2.1 j12.2.2.2.2.2.2.1).bind λx13=>bif decide (x13.kind=3) then bif j12.2.2.1 then some (j12.1,j12.2.1,j12.2.2.1,j12.2.2.2.1,(j12.2.2.2.2.1.1,()),j12.2.2.2.2.2.1,j12.2.2.2.2.2.2.1,true,()) else (getI j12.2.2.2.1 j12.2.2.2.2.2.2.1).bind λx14=>some (j12.1,j12.2.1,j12.2.2.1,j12.2.2.2.1,(j12.2.2.2.2.1.1,()),j12.2.2.2.2.2.1,j12.2.2.2.2.2.2.1,decide (x14.kind=4),()) else (getI j12.2.2.2.1 j12.2.2.2.2.2.2.1).bind λx15=>some (j12.1,j12.2.1,j12.2.2.1,j12.2.2.2.1,(j12.2.2.2.2.1.1,()),j12.2.2.2.2.2.1,j12.2.2.2.2.2.2.1,decide (x15.kind=4),())).bind λj16=>bif j16.2.2.2.2.2.2.2.1 then some (Qd (Qe (({},()),20,()))) else (getI j16.2.2.2.1 j16.2.2.2.2.2.2.1).bind λx17=>bif decide (x17.kind=5) then some (Qd (Qe (({},()),21,()))) else some (Qe (j16.1,j16.2.1,j16.2.2.1,j16.2.2.2.1,(j16.2.2.2.2.1.1,()),j16.2.2.2.2.2.1,Qa .i64 (j16.2.2.2.2.2.2.1+1),())) else some (Qd (Qd (y0,y1,y2,y3,(y4.1,()),y5,())))
def Zdn_L2 (y:Y_Zdn_L2):Option Z_Zdn_L2:=
 iter (λ(y:Y_Zdn_L2)=>Zdn_L2b y.1 y.2.1 y.2.2.1 y.2.2.2.1 y.2.2.2.2.1 y.2.2.2.2.2.1 y.2.2.2.2.2.2.1) rounds y
abbrev Y_Zdn_L0:=(Int×Bool×Bool×(List (Jl))×(Jo×Unit)×Int×Unit)
abbrev Z_Zdn_L0:=(((Jo×Unit)×Int×Unit)⊕((Jo×Unit)×Unit))
def Zdn_L0b (y0:Int) (y1 y2:Bool) (y3:List Jl) (y4:Jo×Unit) (y5:Int):Option (Y_Zdn_L0⊕Z_Zdn_L0):=
 let v3:Int:=bif decide (1099511627776 < Qa .i64 (y0+30)) then 1099511627776 else Qa .i64 (y0+30);bif decide (y5<=v3) then (Zdn_L2 (y0,y1,y2,y3,(y4.1,()),y5,0,())).bind (Qh (λz4=>some (Qd (Qe ((z4.1.1,()),z4.2.1,())))) (λz5=>some (Qe (z5.1,z5.2.1,z5.2.2.1,z5.2.2.2.1,(z5.2.2.2.2.1.1,()),Qa .i64 (z5.2.2.2.2.2.1+1),())))) else some (Qd (Qd ((y4.1,()),())))
def Zdn_L0 (y:Y_Zdn_L0):Option Z_Zdn_L0:=
 iter (λ(y:Y_Zdn_L0)=>Zdn_L0b y.1 y.2.1 y.2.2.1 y.2.2.2.1 y.2.2.2.2.1 y.2.2.2.2.2.1) rounds y
def Zdn (a0:Int) (a1 a2:Bool) (a3:List Jl):Option (Unit×Jo×Int×Unit):=
 (bif decide (a0 < 0) then (some ((),({}:Jo),(9:Int),())).bind λq=>some (Qd q) else bif decide (1099511627776 < a0) then (some ((),({}:Jo),(9:Int),())).bind λq=>some (Qd q) else some (Qe (a0,a1,a2,a3,(({}:Jo),()),()))).bind (Qh (λj1=>(bif j1.2.2.1 then bif !j1.2.1 then (some ((),({}:Jo),(23:Int),())).bind λq=>some (Qd q) else some (Qe (j1.1,j1.2.1,j1.2.2.1,j1.2.2.2.1,(j1.2.2.2.2.1.1,()),())) else some (Qe (j1.1,j1.2.1,j1.2.2.1,j1.2.2.2.1,(j1.2.2.2.2.1.1,()),()))).bind (Qh (λj2=>(Zdn_L0 (j2.1,j2.2.1,j2.2.2.1,j2.2.2.2.1,(j2.2.2.2.2.1.1,()),Qa .i64 (j2.1+1),())).bind (Qh (λz6=>some ((),z6.1.1,z6.2.1,())) (λz7=>some ((),{},19,())))) some)) some)
def c97:=ct c96 248 [qc,qr,qr,qw] [(.v (.agg 28)),qa] (u4 Zdn)
def s_Zdn_L2:LSpec T:=⟨[(0,qc),(1,qr),(2,qr),(3,qw),(8,qn),(10,qc),(11,qc)],[(.ret,[(8,qn),(9,qc)]),(.exit 2,[(0,qc),(1,qr),(2,qr),(3,qw),(8,qn),(10,qc)])],Zdn_L2,[]⟩
def s_Zdn_L0:LSpec T:=⟨[(0,qc),(1,qr),(2,qr),(3,qw),(8,qn),(10,qc)],[(.ret,[(8,qn),(9,qc)]),(.exit 0,[(8,qn)])],Zdn_L0,[]⟩
def A_Zdn:Loc2 T:=lcA [(2,s_Zdn_L2),(0,s_Zdn_L0)] [(3,[(0,qc),(1,qr),(2,qr),(3,qw),(8,qn)],false),(5,[(0,qc),(1,qr),(2,qr),(3,qw),(8,qn)],false),(13,[(0,qc),(1,qr),(2,qr),(3,qw),(8,qn),(10,qc),(11,qc),(12,qr)],true),(14,[(0,qc),(1,qr),(2,qr),(3,qw),(8,qn),(10,qc),(11,qc),(78,qr)],true),(16,[(0,qc),(1,qr),(2,qr),(3,qw),(8,qn),(10,qc),(11,qc),(86,qr)],true),(18,[(0,qc),(1,qr),(2,qr),(3,qw),(8,qn),(10,qc),(11,qc),(98,qr)],true)] []
theorem Vlg:LO c97 Tryz.f248 2 s_Zdn_L2:=lx o96 A_Zdn dn (λ_=>rfl)
theorem Vsk:LO c97 Tryz.f248 0 s_Zdn_L0:=lx o96 A_Zdn (dc rfl Vlg dn) (λ_=>rfl)
theorem o97:EO c97:=sx o96 A_Zdn Tryz.func248 (dc rfl Vlg (dc rfl Vsk dn))
def Zau (a0:Jd×Unit) (a1:Bool):Option (((Jd×Unit)×Unit)×Jo×Unit):=
 bif !(decide (a0.1.err=0)) then some (((a0.1,()),()),{},()) else (Zdn a0.1.d.now a0.1.d.jm.jai a1 a0.1.g).bind λr1=>bif decide (r1.2.2.1=0) then (Zbh ({a0.1 with d:={a0.1.d with now:=r1.2.1.at_}},()) r1.2.2.1).bind λr2=>some (((r2.1.1.1,()),()),r1.2.1,()) else (Zbh (a0.1,()) r1.2.2.1).bind λr3=>some (((r3.1.1.1,()),()),r1.2.1,())
def c98:=cf c97 185 [qk,qr] [(.v (.agg 28))] (u2 Zau)
theorem o98:EO c98:=sx o97 (lcA [] [] [3]) Tryz.func185 dn
def Zbg (a0:Jd×Unit):Option (((Jd×Unit)×Unit)×BitVec 64×Unit):=
 (Zey a0.1.d).bind λr1=>some ((({a0.1 with d:=r1.2.1},()),()),r1.2.2.1,())
def c99:=cf c98 190 [qk] [qp] (u1 Zbg)
theorem o99:EO c99:=sz o98 Tryz.func190
abbrev Y_Zad_L0:=((List (Ja))×(List (Ja))×Int×Unit)
abbrev Z_Zad_L0:=((List (Ja))×Unit)
def Zad_L0b (y0 y1:List Ja) (y2:Int):Option (Y_Zad_L0⊕Z_Zad_L0):=
 bif decide (y2 < y0.length) then (Zcx (Qb 64 (Qa .i64 (y2+1)))).bind λr13=>bif decide (0<=y2)&&decide (y2 < y0.length) then y0[y2.toNat]?.bind λx14=>bif small (y1.length+([r13.2.1,x14]).length) 32 then let v15:=y1++[r13.2.1,x14];some (Qe (y0,v15,Qa .i64 (y2+1),())) else none else none else some (Qd (y1,()))
def Zad_L0 (y:Y_Zad_L0):Option Z_Zad_L0:=
 iter (λ(y:Y_Zad_L0)=>Zad_L0b y.1 y.2.1 y.2.2.1) rounds y
def Zad (a0:Jg):Option (Unit×List UInt8×Int×Unit):=
 (Zaa a0).bind λr1=>bif !(decide (r1.2.1=0)) then some ((),[],r1.2.1,()) else (Zev a0.rP).bind λr2=>(Zes a0.user).bind λr3=>(Zev a0.name).bind λr4=>(Zcx a0.jah).bind λr5=>(Zcx (Qb 64 a0.jd)).bind λr6=>(Zcf a0.jj).bind λr7=>(Zcx (Qb 64 a0.jg)).bind λr8=>(Zcf a0.jp).bind λr9=>(Zcf a0.jaf).bind λr10=>let v11:List Ja:=[r2.2.1,r3.2.1,r4.2.1,r5.2.1,r6.2.1,r7.2.1,r8.2.1,r9.2.1,r10.2.1];let v12:List Ja:=[⟨6,9#64,[]⟩];(Zad_L0 (v11,v12,0,())).bind λz16=>(Zdy z16.1).bind λr17=>some ((),r17.2.1,r17.2.2.1,())
def c100:=cf c99 97 [(.f qaj)] [qj,qa] (u1 Zad)
def s_Zad_L0:LSpec T:=⟨[(5,qal),(6,qal),(7,qc)],[(.exit 0,[(6,qal)])],Zad_L0,[]⟩
def A_Zad:Loc2 T:=lcA [(0,s_Zad_L0)] [] []
theorem Vsl:LO c100 Tryz.f97 0 s_Zad_L0:=lx o99 A_Zad dn (λ_=>rfl)
theorem o100:EO c100:=sx o99 A_Zad Tryz.func97 (dc rfl Vsl dn)
def Zcg (a0:BitVec 64):Option (Unit×BitVec 64×Unit):=
 (Zdx a0 [119,114,97,112] 0).bind λr1=>some ((),r1.2.1,())
def c101:=ct c100 252 [qd] [qp] (u1 Zcg)
theorem o101:EO c101:=sz o100 Tryz.func252
def Zcv (a0:List UInt8):Option (Unit×BitVec 64×Unit):=
 (Zgc 9 a0).bind λr1=>some ((),r1.2.1,())
def c102:=ct c101 195 [qar] [qp] (u1 Zcv)
theorem o102:EO c102:=sz o101 Tryz.func195
def Zhc (a0 a1:BitVec 64) (a2:Jg):Option (Unit×List UInt8×Int×Unit):=
 (Zad a2).bind λr1=>bif !(decide (r1.2.2.1=0)) then some ((),[],r1.2.2.1,()) else bif a2.jj then (Zdx a2.jah [105,100] 0).bind λr2=>(Zed r2.2.1 0#64 176).bind λr3=>some ((),r3.2.1,0,()) else let v4:=Qi 160 (0:UInt8);bif decide ((r1.2.1:List UInt8).length<=v4.length) then let v5:=r1.2.1++Ql (r1.2.1:List UInt8).length v4;(Zcg a0).bind λr6=>(Zcv a2.rP).bind λr7=>(passkeyref1_Words [r7.2.1]).bind λr8=>(Zgj r6.2.1 a1 r8.2.1 v5).bind λr9=>some ((),r9.2.1,r9.2.2.1,()) else none
def c103:=cf c102 191 [qd,qd,(.f qaj)] [qj,qa] (u3 Zhc)
theorem o103:EO c103:=sz o102 Tryz.func191
def Zfw (a0:List UInt8):Option (Unit×BitVec 64×Unit):=
 (Zgc 10 a0).bind λr1=>some ((),r1.2.1,())
def c104:=ct c103 250 [qg] [qp] (u1 Zfw)
theorem o104:EO c104:=sz o103 Tryz.func250
abbrev Y_Zay_L1:=(((List UInt8)×Int×(List (Ja))×Unit)×(Ja×Unit)×Int×Int×(BitVec 64)×Int×Unit)
abbrev Z_Zay_L1:=(((List UInt8)×Int×(List (Ja))×Unit)×(Ja×Unit)×Int×Int×(BitVec 64)×Unit)
def Zay_L1b (y0:List UInt8×Int×List Ja×Unit) (y1:Ja×Unit) (y2 y3:Int) (y4:BitVec 64) (y5:Int):Option (Y_Zay_L1⊕Z_Zay_L1):=
 bif decide (y5 < y3) then let v12:=Qa .i64 (Qa .i64 (y0.2.1+1)+y5);(getI y0.1 v12).bind λx13=>some (Qe ((y0.1,y0.2.1,y0.2.2.1,()),(y1.1,()),y2,y3,y4 <<< 8 ||| Qm 64 x13.toBitVec,Qa .i64 (y5+1),())) else some (Qd ((y0.1,y0.2.1,y0.2.2.1,()),(y1.1,()),y2,y3,y4,()))
def Zay_L1 (y:Y_Zay_L1):Option Z_Zay_L1:=
 iter (λ(y:Y_Zay_L1)=>Zay_L1b y.1 y.2.1 y.2.2.1 y.2.2.2.1 y.2.2.2.2.1 y.2.2.2.2.2.1) rounds y
def Zay (a0:List UInt8×Int×List Ja×Unit):Option (((List UInt8×Int×List Ja×Unit)×Unit)×Ja×Int×Unit):=
 bif decide (a0.1.length<=a0.2.1) then some (((a0.1,a0.2.1,a0.2.2.1,()),()),{},1,()) else (getI a0.1 a0.2.1).bind λx1=>(bif decide (x1.toBitVec=(244:UInt8).toBitVec) then bif decide (x1.toBitVec=(244:UInt8).toBitVec) then let v2:=Qm 64 (Qg (x1.toBitVec - (244:UInt8).toBitVec)).toBitVec;(some (((a0.1,Qa .i64 (a0.2.1+1),a0.2.2.1,()),()),(⟨7,v2,[]⟩:Ja),(0:Int),())).bind λq=>some (Qd q) else bif decide (x1.toBitVec=(246:UInt8).toBitVec) then (some (((a0.1,Qa .i64 (a0.2.1+1),a0.2.2.1,()),()),({kind:=8}:Ja),(0:Int),())).bind λq=>some (Qd q) else some (Qe ((a0.1,a0.2.1,a0.2.2.1,()),(({}:Ja),()),x1,())) else bif decide (x1.toBitVec=(245:UInt8).toBitVec) then let v3:=Qm 64 (Qg (x1.toBitVec - (244:UInt8).toBitVec)).toBitVec;(some (((a0.1,Qa .i64 (a0.2.1+1),a0.2.2.1,()),()),(⟨7,v3,[]⟩:Ja),(0:Int),())).bind λq=>some (Qd q) else bif decide (x1.toBitVec=(246:UInt8).toBitVec) then (some (((a0.1,Qa .i64 (a0.2.1+1),a0.2.2.1,()),()),({kind:=8}:Ja),(0:Int),())).bind λq=>some (Qd q) else some (Qe ((a0.1,a0.2.1,a0.2.2.1,()),(({}:Ja),()),x1,()))).bind (Qh (λj4=>let v5:=((Qg (j4.2.2.1.toBitVec>>>5)).toBitVec.toNat:Int);let v6:=Qg (j4.2.2.1.toBitVec&&&(31:UInt8).toBitVec);bif decide (5 < v5) then some (((j4.1.1,j4.1.2.1,j4.1.2.2.1,()),()),{},2,()) else bif decide (27 < (v6.toBitVec.toNat:Int)) then some (((j4.1.1,j4.1.2.1,j4.1.2.2.1,()),()),{},2,()) else (bif decide (24<=(v6.toBitVec.toNat:Int)) then let v7:=Qb 64 (Qa .i64 ((v6.toBitVec.toNat:Int) - 24));let v8:=Qa .i64 (1*2 ^ min v7.toNat (Qc .i64));some ((j4.1.1,j4.1.2.1,j4.1.2.2.1,()),(j4.2.1.1,()),v5,(v6.toBitVec.toNat:Int),v8,()) else some ((j4.1.1,j4.1.2.1,j4.1.2.2.1,()),(j4.2.1.1,()),v5,(v6.toBitVec.toNat:Int),(0:Int),())).bind λj9=>let v10:=Qa .i64 (Qa .i64 ((j9.1.1.length:Int) - j9.1.2.1) - 1);bif decide (v10 < j9.2.2.2.2.1) then some (((j9.1.1,j9.1.2.1,j9.1.2.2.1,()),()),{},1,()) else (bif decide (0 < j9.2.2.2.2.1) then some ((j9.1.1,j9.1.2.1,j9.1.2.2.1,()),(j9.2.1.1,()),j9.2.2.1,j9.2.2.2.2.1,0#64,()) else some ((j9.1.1,j9.1.2.1,j9.1.2.2.1,()),(j9.2.1.1,()),j9.2.2.1,j9.2.2.2.2.1,Qb 64 j9.2.2.2.1,())).bind λj11=>(Zay_L1 ((j11.1.1,j11.1.2.1,j11.1.2.2.1,()),(j11.2.1.1,()),j11.2.2.1,j11.2.2.2.1,j11.2.2.2.2.1,0,())).bind λz14=>let v15:List (BitVec 64):=[0#64,24#64,256#64,0#64,65536#64,0#64,0#64,0#64,4294967296#64];bif decide (0<=z14.2.2.2.1)&&decide (z14.2.2.2.1 < 9) then v15[z14.2.2.2.1.toNat]?.bind λx16=>bif decide (z14.2.2.2.2.1.toNat < x16.toNat) then some (((z14.1.1,z14.1.2.1,z14.1.2.2.1,()),()),{},2,()) else let v17:=Qa .i64 (z14.1.2.1+Qa .i64 (1+z14.2.2.2.1));let v18:List Int:=[1,2,3,4,5,6];bif decide (0<=z14.2.2.1)&&decide (z14.2.2.1 < 6) then v18[z14.2.2.1.toNat]?.bind λx19=>some (((z14.1.1,v17,z14.1.2.2.1,()),()),⟨x19,z14.2.2.2.2.1,[]⟩,0,()) else none else none) some)
def S_Zay:FSpec T:=⟨[qag],[qz,qa],λx=>Zay x.1⟩
def s_Zay_L1:LSpec T:=⟨[(0,qag),(2,qa5),(5,qc),(7,qc),(8,qd),(9,qc)],[(.exit 1,[(0,qag),(2,qa5),(5,qc),(7,qc),(8,qd)])],Zay_L1,[]⟩
def A_Zay:Loc2 T:=lcA [(1,s_Zay_L1)] [(12,[(0,qag),(2,qa5),(4,qa0)],false),(18,[(0,qag),(2,qa5),(5,qc),(6,qc),(7,qc)],true),(23,[(0,qag),(2,qa5),(5,qc),(7,qc),(8,qd)],true)] []
theorem Vsm:LoopOk Tryz.prog (mE c104) Tryz.f293.ntmps (kqOf S_Zay.ps 0) (loopAt 1 (bodyOf Tryz.f293)) s_Zay_L1:=
 lpC hmix o104 A_Zay Vai 1 (st:=λy=>Zay_L1b y.1 y.2.1 y.2.2.1 y.2.2.2.1 y.2.2.2.2.1 y.2.2.2.2.2.1) (λ_=>rfl) (by kernel_rfl) (by kernel_rfl) λx=>by kernel_rfl
theorem Vzi:SoundT Tryz.prog cd gdn 293 S_Zay:=
 sndC hmix o104 A_Zay Tryz.func293 (Vc0 rfl Vsm Vai) (by kernel_rfl) (by kernel_rfl) λx=>by kernel_rfl
def c105:List (Ct T):=⟨293,none,S_Zay,false⟩::c104
theorem o105:EnvOk Tryz.prog (mE c105):=eCons Vzi o104
def Zaz_L1b (k_rec:List UInt8×Int×List Ja×Unit->Int->Bool->List UInt8->Option (((List UInt8×Int×List Ja×Unit)×Unit)×Int×Unit)) (y0:List UInt8×Int×List Ja×Unit) (y1:Int) (y2:Ja×Unit) (y3:BitVec 64) (y4:Bool) (y5:List UInt8) (y6:BitVec 64):Option ((List UInt8×Int×List Ja×Unit)×Int×(Ja×Unit)×BitVec 64×Bool×List UInt8×BitVec 64×Unit⊕(List UInt8×Int×List Ja×Unit)×Int×Unit⊕(List UInt8×Int×List Ja×Unit)×Unit):=
 bif y4 then bif decide (y6.toNat < y3.toNat) then bif decide (y2.1.kind=6) then (k_rec (y0.1,y0.2.1,y0.2.2.1,()) (Qa .i64 (y1+1)) true y5).bind λr18=>bif !(decide (r18.2.1=0)) then some (Qd (Qe ((r18.1.1.1,r18.1.1.2.1,r18.1.1.2.2.1,()),r18.2.1,()))) else bif decide (0<=(y0.2.2.1.length:Int))&&decide ((y0.2.2.1.length:Int) < (r18.1.1.2.2.1.length:Int)) then r18.1.1.2.2.1[(y0.2.2.1.length:Int).toNat]?.bind λx19=>(Zfd x19).bind λr20=>(k_rec (r18.1.1.1,r18.1.1.2.1,r18.1.1.2.2.1,()) (Qa .i64 (y1+1)) false ([]:List UInt8)).bind λr21=>bif !(decide (r21.2.1=0)) then some (Qd (Qe ((r21.1.1.1,r21.1.1.2.1,r21.1.1.2.2.1,()),r21.2.1,()))) else some (Qe ((r21.1.1.1,r21.1.1.2.1,r21.1.1.2.2.1,()),y1,(y2.1,()),y3,y4,r20.2.1,y6+1#64,())) else none else (k_rec (y0.1,y0.2.1,y0.2.2.1,()) (Qa .i64 (y1+1)) false ([]:List UInt8)).bind λr22=>bif !(decide (r22.2.1=0)) then some (Qd (Qe ((r22.1.1.1,r22.1.1.2.1,r22.1.1.2.2.1,()),r22.2.1,()))) else some (Qe ((r22.1.1.1,r22.1.1.2.1,r22.1.1.2.2.1,()),y1,(y2.1,()),y3,y4,y5,y6+1#64,())) else some (Qd (Qd ((y0.1,y0.2.1,y0.2.2.1,()),()))) else some (Qd (Qd ((y0.1,y0.2.1,y0.2.2.1,()),())))
def Zaz_L1 (k_rec:List UInt8×Int×List Ja×Unit->Int->Bool->List UInt8->Option (((List UInt8×Int×List Ja×Unit)×Unit)×Int×Unit)) (y:(List UInt8×Int×List Ja×Unit)×Int×(Ja×Unit)×BitVec 64×Bool×List UInt8×BitVec 64×Unit):Option ((List UInt8×Int×List Ja×Unit)×Int×Unit⊕(List UInt8×Int×List Ja×Unit)×Unit):=
 iter (λ(y:(List UInt8×Int×List Ja×Unit)×Int×(Ja×Unit)×BitVec 64×Bool×List UInt8×BitVec 64×Unit)=>Zaz_L1b k_rec y.1 y.2.1 y.2.2.1 y.2.2.2.1 y.2.2.2.2.1 y.2.2.2.2.2.1 y.2.2.2.2.2.2.1) rounds y
def Zaz_R (k_rec:List UInt8×Int×List Ja×Unit->Int->Bool->List UInt8->Option (((List UInt8×Int×List Ja×Unit)×Unit)×Int×Unit)) (a0:List UInt8×Int×List Ja×Unit) (a1:Int) (a2:Bool) (a3:List UInt8):Option (((List UInt8×Int×List Ja×Unit)×Unit)×Int×Unit):=
 (Zay (a0.1,a0.2.1,a0.2.2.1,())).bind λr1=>bif !(decide (r1.2.2.1=0)) then some (((r1.1.1.1,r1.1.1.2.1,r1.1.1.2.2.1,()),()),r1.2.2.1,()) else (bif decide (r1.2.1.kind=3) then some ((r1.1.1.1,r1.1.1.2.1,r1.1.1.2.2.1,()),a1,a2,a3,(r1.2.1,()),r1.2.1.number,true,()) else some ((r1.1.1.1,r1.1.1.2.1,r1.1.1.2.2.1,()),a1,a2,a3,(r1.2.1,()),r1.2.1.number,decide (r1.2.1.kind=4),())).bind λj2=>(bif decide (j2.2.2.2.2.1.1.kind=5) then some ((j2.1.1,j2.1.2.1,j2.1.2.2.1,()),j2.2.1,j2.2.2.1,j2.2.2.2.1,(j2.2.2.2.2.1.1,()),j2.2.2.2.2.2.1,j2.2.2.2.2.2.2.1,true,()) else some ((j2.1.1,j2.1.2.1,j2.1.2.2.1,()),j2.2.1,j2.2.2.1,j2.2.2.2.1,(j2.2.2.2.2.1.1,()),j2.2.2.2.2.2.1,j2.2.2.2.2.2.2.1,decide (j2.2.2.2.2.1.1.kind=6),())).bind λj3=>bif decide (512<=(j3.1.2.2.1.length:Int)) then some (((j3.1.1,j3.1.2.1,j3.1.2.2.1,()),()),8,()) else (bif j3.2.2.1 then (Zff j3.2.2.2.2.1.1.kind).bind λr4=>some ((j3.1.1,j3.1.2.1,j3.1.2.2.1,()),j3.2.1,j3.2.2.1,j3.2.2.2.1,(j3.2.2.2.2.1.1,()),j3.2.2.2.2.2.1,j3.2.2.2.2.2.2.1,j3.2.2.2.2.2.2.2.1,!r4.2.1,()) else some ((j3.1.1,j3.1.2.1,j3.1.2.2.1,()),j3.2.1,j3.2.2.1,j3.2.2.2.1,(j3.2.2.2.2.1.1,()),j3.2.2.2.2.2.1,j3.2.2.2.2.2.2.1,j3.2.2.2.2.2.2.2.1,false,())).bind λj5=>bif j5.2.2.2.2.2.2.2.2.1 then some (((j5.1.1,j5.1.2.1,j5.1.2.2.1,()),()),3,()) else bif decide (8 < j5.2.1) then some (((j5.1.1,j5.1.2.1,j5.1.2.2.1,()),()),5,()) else (bif j5.2.2.2.2.2.2.1 then bif decide ((1024#64).toNat < j5.2.2.2.2.2.1.toNat) then some ((j5.1.1,j5.1.2.1,j5.1.2.2.1,()),j5.2.1,j5.2.2.1,j5.2.2.2.1,(j5.2.2.2.2.1.1,()),j5.2.2.2.2.2.1,j5.2.2.2.2.2.2.1,j5.2.2.2.2.2.2.2.1,true,()) else bif j5.2.2.2.2.2.2.2.1 then some ((j5.1.1,j5.1.2.1,j5.1.2.2.1,()),j5.2.1,j5.2.2.1,j5.2.2.2.1,(j5.2.2.2.2.1.1,()),j5.2.2.2.2.2.1,j5.2.2.2.2.2.2.1,j5.2.2.2.2.2.2.2.1,decide ((512#64).toNat < j5.2.2.2.2.2.1.toNat),()) else some ((j5.1.1,j5.1.2.1,j5.1.2.2.1,()),j5.2.1,j5.2.2.1,j5.2.2.2.1,(j5.2.2.2.2.1.1,()),j5.2.2.2.2.2.1,j5.2.2.2.2.2.2.1,j5.2.2.2.2.2.2.2.1,false,()) else bif j5.2.2.2.2.2.2.2.1 then some ((j5.1.1,j5.1.2.1,j5.1.2.2.1,()),j5.2.1,j5.2.2.1,j5.2.2.2.1,(j5.2.2.2.2.1.1,()),j5.2.2.2.2.2.1,j5.2.2.2.2.2.2.1,j5.2.2.2.2.2.2.2.1,decide ((512#64).toNat < j5.2.2.2.2.2.1.toNat),()) else some ((j5.1.1,j5.1.2.1,j5.1.2.2.1,()),j5.2.1,j5.2.2.1,j5.2.2.2.1,(j5.2.2.2.2.1.1,()),j5.2.2.2.2.2.1,j5.2.2.2.2.2.2.1,j5.2.2.2.2.2.2.2.1,false,())).bind λj6=>bif j6.2.2.2.2.2.2.2.2.1 then some (((j6.1.1,j6.1.2.1,j6.1.2.2.1,()),()),8,()) else (bif j6.2.2.2.2.2.2.1 then let v7:=Qb 64 (Qa .i64 ((j6.1.1.length:Int) - j6.1.2.1));some ((j6.1.1,j6.1.2.1,j6.1.2.2.1,()),j6.2.1,j6.2.2.1,j6.2.2.2.1,(j6.2.2.2.2.1.1,()),j6.2.2.2.2.2.1,j6.2.2.2.2.2.2.1,j6.2.2.2.2.2.2.2.1,decide (v7.toNat < j6.2.2.2.2.2.1.toNat),()) else some ((j6.1.1,j6.1.2.1,j6.1.2.2.1,()),j6.2.1,j6.2.2.1,j6.2.2.2.1,(j6.2.2.2.2.1.1,()),j6.2.2.2.2.2.1,j6.2.2.2.2.2.2.1,j6.2.2.2.2.2.2.2.1,false,())).bind λj8=>bif j8.2.2.2.2.2.2.2.2.1 then some (((j8.1.1,j8.1.2.1,j8.1.2.2.1,()),()),1,()) else (bif j8.2.2.2.2.2.2.1 then let v9:=Qa .i64 (j8.1.2.1+Qa .i64 (j8.2.2.2.2.2.1.toNat:Int));bif decide (0<=v9)&&decide (v9<=j8.1.1.length) then bif decide (0<=j8.1.2.1)&&decide (j8.1.2.1<=v9.toNat) then let v10:=Qa .i64 (j8.1.2.1+Qa .i64 (j8.2.2.2.2.2.1.toNat:Int));some ((j8.1.1,v10,j8.1.2.2.1,()),j8.2.1,j8.2.2.1,j8.2.2.2.1,((⟨j8.2.2.2.2.1.1.kind,0#64,Ql j8.1.2.1.toNat (Qk v9.toNat j8.1.1)⟩:Ja),()),j8.2.2.2.2.2.1,j8.2.2.2.2.2.2.2.1,()) else none else none else some ((j8.1.1,j8.1.2.1,j8.1.2.2.1,()),j8.2.1,j8.2.2.1,j8.2.2.2.1,(j8.2.2.2.2.1.1,()),j8.2.2.2.2.2.1,j8.2.2.2.2.2.2.2.1,())).bind λj11=>(bif decide (j11.2.2.2.2.1.1.kind=4) then (Zgt j11.2.2.2.2.1.1.data).bind λr12=>some ((j11.1.1,j11.1.2.1,j11.1.2.2.1,()),j11.2.1,j11.2.2.1,j11.2.2.2.1,(j11.2.2.2.2.1.1,()),j11.2.2.2.2.2.1,j11.2.2.2.2.2.2.1,!r12.2.1,()) else some ((j11.1.1,j11.1.2.1,j11.1.2.2.1,()),j11.2.1,j11.2.2.1,j11.2.2.2.1,(j11.2.2.2.2.1.1,()),j11.2.2.2.2.2.1,j11.2.2.2.2.2.2.1,false,())).bind λj13=>bif j13.2.2.2.2.2.2.2.1 then some (((j13.1.1,j13.1.2.1,j13.1.2.2.1,()),()),6,()) else (bif j13.2.2.1 then bif !(decide (j13.2.2.2.1=([]:List UInt8))) then (Zfd j13.2.2.2.2.1.1).bind λr14=>(Zgf j13.2.2.2.1 r14.2.1).bind λr15=>some ((j13.1.1,j13.1.2.1,j13.1.2.2.1,()),j13.2.1,(j13.2.2.2.2.1.1,()),j13.2.2.2.2.2.1,j13.2.2.2.2.2.2.1,!r15.2.1,()) else some ((j13.1.1,j13.1.2.1,j13.1.2.2.1,()),j13.2.1,(j13.2.2.2.2.1.1,()),j13.2.2.2.2.2.1,j13.2.2.2.2.2.2.1,false,()) else some ((j13.1.1,j13.1.2.1,j13.1.2.2.1,()),j13.2.1,(j13.2.2.2.2.1.1,()),j13.2.2.2.2.2.1,j13.2.2.2.2.2.2.1,false,())).bind λj16=>bif j16.2.2.2.2.2.1 then some (((j16.1.1,j16.1.2.1,j16.1.2.2.1,()),()),7,()) else bif small (j16.1.2.2.1.length+([j16.2.2.1.1]).length) 32 then let v17:=j16.1.2.2.1++[j16.2.2.1.1];(Zaz_L1 k_rec ((j16.1.1,j16.1.2.1,v17,()),j16.2.1,(j16.2.2.1.1,()),j16.2.2.2.1,j16.2.2.2.2.1,[],0#64,())).bind (Qh (λz23=>some (((z23.1.1,z23.1.2.1,z23.1.2.2.1,()),()),z23.2.1,())) (λz24=>some (((z24.1.1,z24.1.2.1,z24.1.2.2.1,()),()),0,()))) else none
abbrev ps_Zaz:List Slot:=[qag,qc,qr,qar]
abbrev rs_Zaz:List Fld:=[qa]
def E_Zaz (k_rec:((List UInt8)×Int×(List (Ja))×Unit)->Int->Bool->(List UInt8)->Option Ybq):Env T:=⟨tab.find,cd,globs,flc,λf ds=>match f with
  | 23=>some S_Zgt
  | 119=>some S_Zfd
  | 273=>some S_Zff
  | 274=>some S_Zgf
  | 291=>some ⟨ps_Zaz,rs_Zaz,λx=>k_rec x.1 x.2.1 x.2.2.1 x.2.2.2.1⟩
  | 293=>some S_Zay
  | _=>none,λf=>match f with
  | 23=>true
  | 119=>true
  | 273=>true
  | 274=>true
  | _=>false⟩
def A_Zaz (k_rec:((List UInt8)×Int×(List (Ja))×Unit)->Int->Bool->(List UInt8)->Option Ybq):Loc2 T:=⟨λid=>match id with
  | 1=>some ⟨[(0,.ptr [(.v .str),(.v (.int .i64)),(.own 1)]),(1,.f (.v (.int .i64))),(9,.ptr [(.v (.agg 1))]),(11,.f (.v .u64)),(13,.f (.v .bool)),(14,.f (.v .str)),(15,.f (.v .u64))],[(.ret,[(0,.ptr [(.v .str),(.v (.int .i64)),(.own 1)]),(8,.f (.v (.int .i64)))]),(.exit 1,[(0,.ptr [(.v .str),(.v (.int .i64)),(.own 1)])])],Zaz_L1 k_rec,[]⟩
  | _=>none,λr=>match r with
  | 6=>some ([(0,.ptr [(.v .str),(.v (.int .i64)),(.own 1)]),(1,.f (.v (.int .i64))),(2,.f (.v .bool)),(3,.f (.v .str)),(9,.ptr [(.v (.agg 1))]),(11,.f (.v .u64)),(12,.f (.v .bool))],true)
  | 7=>some ([(0,.ptr [(.v .str),(.v (.int .i64)),(.own 1)]),(1,.f (.v (.int .i64))),(2,.f (.v .bool)),(3,.f (.v .str)),(9,.ptr [(.v (.agg 1))]),(11,.f (.v .u64)),(12,.f (.v .bool)),(13,.f (.v .bool))],true)
  | 10=>some ([(0,.ptr [(.v .str),(.v (.int .i64)),(.own 1)]),(1,.f (.v (.int .i64))),(2,.f (.v .bool)),(3,.f (.v .str)),(9,.ptr [(.v (.agg 1))]),(11,.f (.v .u64)),(12,.f (.v .bool)),(13,.f (.v .bool)),(52,.f (.v .bool))],true)
  | 14=>some ([(0,.ptr [(.v .str),(.v (.int .i64)),(.own 1)]),(1,.f (.v (.int .i64))),(2,.f (.v .bool)),(3,.f (.v .str)),(9,.ptr [(.v (.agg 1))]),(11,.f (.v .u64)),(12,.f (.v .bool)),(13,.f (.v .bool)),(63,.f (.v .bool))],true)
  | 16=>some ([(0,.ptr [(.v .str),(.v (.int .i64)),(.own 1)]),(1,.f (.v (.int .i64))),(2,.f (.v .bool)),(3,.f (.v .str)),(9,.ptr [(.v (.agg 1))]),(11,.f (.v .u64)),(12,.f (.v .bool)),(13,.f (.v .bool)),(76,.f (.v .bool))],true)
  | 20=>some ([(0,.ptr [(.v .str),(.v (.int .i64)),(.own 1)]),(1,.f (.v (.int .i64))),(2,.f (.v .bool)),(3,.f (.v .str)),(9,.ptr [(.v (.agg 1))]),(11,.f (.v .u64)),(13,.f (.v .bool))],true)
  | 21=>some ([(0,.ptr [(.v .str),(.v (.int .i64)),(.own 1)]),(1,.f (.v (.int .i64))),(2,.f (.v .bool)),(3,.f (.v .str)),(9,.ptr [(.v (.agg 1))]),(11,.f (.v .u64)),(13,.f (.v .bool)),(129,.f (.v .bool))],true)
  | 23=>some ([(0,.ptr [(.v .str),(.v (.int .i64)),(.own 1)]),(1,.f (.v (.int .i64))),(9,.ptr [(.v (.agg 1))]),(11,.f (.v .u64)),(13,.f (.v .bool)),(141,.f (.v .bool))],true)
  | _=>none,λr=>match r with
  | 18=>true
  | 24=>true
  | _=>false⟩
theorem Vsn (k_rec:((List UInt8)×Int×(List (Ja))×Unit)->Int->Bool->(List UInt8)->Option Ybq) (y0:((List UInt8)×Int×(List (Ja))×Unit)) (y1:Int) (y2:(Ja×Unit)) (y3:(BitVec 64)) (y4:Bool) (y5:(List UInt8)) (y6:(BitVec 64)):run (E_Zaz k_rec) (A_Zaz k_rec) (loopAt 1 (Tryz.f291.body.getD .skip)) (layC cd [(0,.ptr [(.v .str),(.v (.int .i64)),(.own 1)]),(1,.f (.v (.int .i64))),(9,.ptr [(.v (.agg 1))]),(11,.f (.v .u64)),(13,.f (.v .bool)),(14,.f (.v .str)),(15,.f (.v .u64))] [] (y0,y1,y2,y3,y4,y5,y6,())) (roundK cd [(0,.ptr [(.v .str),(.v (.int .i64)),(.own 1)]),(1,.f (.v (.int .i64))),(9,.ptr [(.v (.agg 1))]),(11,.f (.v .u64)),(13,.f (.v .bool)),(14,.f (.v .str)),(15,.f (.v .u64))] [] [(.ret,[(0,.ptr [(.v .str),(.v (.int .i64)),(.own 1)]),(8,.f (.v (.int .i64)))]),(.exit 1,[(0,.ptr [(.v .str),(.v (.int .i64)),(.own 1)])])])=Zaz_L1b k_rec y0 y1 y2 y3 y4 y5 y6:=by kernel_rfl
theorem Vava (k_rec:((List UInt8)×Int×(List (Ja))×Unit)->Int->Bool->(List UInt8)->Option Ybq) (x:tySs T ps_Zaz):run (E_Zaz k_rec) (A_Zaz k_rec) (Tryz.f291.body.getD .skip) (enterT (E_Zaz k_rec).C ps_Zaz x) (retK (E_Zaz k_rec) Tryz.f291.results.toList ps_Zaz rs_Zaz)=Zaz_R k_rec x.1 x.2.1 x.2.2.1 x.2.2.2.1:=by kernel_rfl
def Zaz_n:Nat->((List UInt8)×Int×(List (Ja))×Unit)->Int->Bool->(List UInt8)->Option Ybq
 | 0=>λ_ _ _ _=>none
 | n+1=>Zaz_R (Zaz_n n)
def Zaz (a0:((List UInt8)×Int×(List (Ja))×Unit)) (a1:Int) (a2:Bool) (a3:(List UInt8)):=Zaz_n 12 a0 a1 a2 a3
def S_Zaz:FSpec T:=⟨ps_Zaz,rs_Zaz,λx=>Zaz x.1 x.2.1 x.2.2.1 x.2.2.2.1⟩
theorem Vso (k_rec:((List UInt8)×Int×(List (Ja))×Unit)->Int->Bool->(List UInt8)->Option Ybq) (hk:SoundT Tryz.prog cd gdn 291 ⟨ps_Zaz,rs_Zaz,λx=>k_rec x.1 x.2.1 x.2.2.1 x.2.2.2.1⟩):EnvOk Tryz.prog (E_Zaz k_rec):=envOk (E:=(E_Zaz k_rec)) cd_ok tys fl_ok λf ds S h=>by
  dsimp only [E_Zaz] at h
  split at h
  ·cases h; exact Vza
  ·cases h; exact Vsi
  ·cases h; exact Vze
  ·cases h; exact Vzf
  ·cases h; exact hk
  ·cases h; exact Vzi
  ·cases h
theorem Vsp (k_rec:((List UInt8)×Int×(List (Ja))×Unit)->Int->Bool->(List UInt8)->Option Ybq) (hk:SoundT Tryz.prog cd gdn 291 ⟨ps_Zaz,rs_Zaz,λx=>k_rec x.1 x.2.1 x.2.2.1 x.2.2.2.1⟩):LoopOk Tryz.prog (E_Zaz k_rec) Tryz.f291.ntmps (kqOf ps_Zaz 0) (loopAt 1 (Tryz.f291.body.getD .skip)) ⟨[(0,.ptr [(.v .str),(.v (.int .i64)),(.own 1)]),(1,.f (.v (.int .i64))),(9,.ptr [(.v (.agg 1))]),(11,.f (.v .u64)),(13,.f (.v .bool)),(14,.f (.v .str)),(15,.f (.v .u64))],[(.ret,[(0,.ptr [(.v .str),(.v (.int .i64)),(.own 1)]),(8,.f (.v (.int .i64)))]),(.exit 1,[(0,.ptr [(.v .str),(.v (.int .i64)),(.own 1)])])],Zaz_L1 k_rec,[]⟩:=
 Vko (A:=(A_Zaz k_rec)) (done:=[]) (c0:=(Tryz.f291.body.getD .skip)) hmix (Vso k_rec hk) Vai rounds (by kernel_rfl) (by kernel_rfl) (λx=>Vsn k_rec x.1 x.2.1 x.2.2.1 x.2.2.2.1 x.2.2.2.2.1 x.2.2.2.2.2.1 x.2.2.2.2.2.2.1) (λ_=>rfl)
theorem Vm5:∀ n:Nat,SoundT Tryz.prog cd gdn 291 ⟨ps_Zaz,rs_Zaz,λx=>Zaz_n n x.1 x.2.1 x.2.2.1 x.2.2.2.1⟩
 | 0=>Vf4 ⟨_,Tryz.func291,by kernel_rfl,by kernel_rfl⟩
 | n+1=>Vdd (E:=E_Zaz (Zaz_n n)) (A:=A_Zaz (Zaz_n n)) (done:=[1]) (c:=(Tryz.f291.body.getD .skip)) (S:=⟨ps_Zaz,rs_Zaz,λx=>Zaz_n (n+1) x.1 x.2.1 x.2.2.1 x.2.2.2.1⟩) (fn:=Tryz.f291) hmix (Vso _ (Vm5 n)) Tryz.func291 rfl (by kernel_rfl) (by kernel_rfl) (Vc0 rfl (Vsp _ (Vm5 n)) Vai) (by kernel_rfl) (by kernel_rfl) (Vava (Zaz_n n))
theorem Vdma:SoundT Tryz.prog cd gdn 291 S_Zaz:=Vm5 12
def c106:List (Ct T):=⟨291,none,S_Zaz,false⟩::c105
theorem o106:EnvOk Tryz.prog (mE c106):=eCons Vdma o105
def Zdw (a0:List UInt8):Option (Unit×List Ja×Int×Int×Unit):=
 (Zaz (a0,0,[],()) 0 false []).bind λr1=>bif !(decide (r1.2.1=0)) then some ((),[],0,r1.2.1,()) else some ((),r1.1.1.2.2.1,r1.1.1.2.1,0,())
def c107:=cf c106 284 [qg] [qbf,qa,qa] (u1 Zdw)
theorem o107:EO c107:=sz o106 Tryz.func284
def Zdq (a0:BitVec 64):Option (Unit×Int×Unit):=
 let v1:BitVec 64:=bif decide ((1048576#64).toNat < a0.toNat) then 1048576#64 else a0;some ((),Qa .i64 (v1.toNat:Int),())
def c108:=ct c107 285 [qd] [qa] (u1 Zdq)
theorem o108:EO c108:=sz o107 Tryz.func285
def Zeu (a0:List UInt8):Option (Unit×Jg×Int×Bool×Unit):=
 (Zdw a0).bind λr1=>bif !(decide (r1.2.2.2.1=0)) then some ((),{},0,false,()) else bif !(decide ((r1.2.1.length:Int)=19)) then some ((),{},0,false,()) else bif decide (2 < (r1.2.1.length:Int)) then r1.2.1[2]?.bind λx2=>bif decide (4 < (r1.2.1.length:Int)) then r1.2.1[4]?.bind λx3=>bif decide (6 < (r1.2.1.length:Int)) then r1.2.1[6]?.bind λx4=>bif decide (8 < (r1.2.1.length:Int)) then r1.2.1[8]?.bind λx5=>bif decide (10 < (r1.2.1.length:Int)) then r1.2.1[10]?.bind λx6=>(Zdq x6.number).bind λr7=>bif decide (12 < (r1.2.1.length:Int)) then r1.2.1[12]?.bind λx8=>bif decide (14 < (r1.2.1.length:Int)) then r1.2.1[14]?.bind λx9=>(Zdq x9.number).bind λr10=>bif decide (16 < (r1.2.1.length:Int)) then r1.2.1[16]?.bind λx11=>bif decide (18 < (r1.2.1.length:Int)) then r1.2.1[18]?.bind λx12=>(Zad ⟨x2.data,x3.data,x4.data,x5.number,r7.2.1,decide (x8.number=1#64),r10.2.1,decide (x11.number=1#64),decide (x12.number=1#64)⟩).bind λr13=>bif decide (r13.2.2.1=0) then bif decide (0<=r1.2.2.1)&&decide (r1.2.2.1<=a0.length) then some ((),⟨x2.data,x3.data,x4.data,x5.number,r7.2.1,decide (x8.number=1#64),r10.2.1,decide (x11.number=1#64),decide (x12.number=1#64)⟩,r1.2.2.1,decide (r13.2.1=Qk r1.2.2.1.toNat a0),()) else none else some ((),⟨x2.data,x3.data,x4.data,x5.number,r7.2.1,decide (x8.number=1#64),r10.2.1,decide (x11.number=1#64),decide (x12.number=1#64)⟩,r1.2.2.1,false,()) else none else none else none else none else none else none else none else none else none
def c109:=ct c108 278 [qg] [qaj,qa,qf] (u1 Zeu)
theorem o109:EO c109:=sx o108 (lcA [] [] [4,6]) Tryz.func278 dn
def Zac (a0:List UInt8):Option (Unit×Jg×Int×Unit):=
 (Zeu a0).bind λr1=>bif !r1.2.2.2.1 then some ((),{},2,()) else bif !(decide (r1.2.2.1=a0.length)) then some ((),{},2,()) else some ((),r1.2.1,0,())
def c110:=ct c109 264 [qg] [qaj,qa] (u1 Zac)
theorem o110:EO c110:=sz o109 Tryz.func264
def Zfc (a0:Jc) (a1:Int):Option (Unit×Jg×Bool×Unit):=
 (Zhk a0.jo (Qa .i64 (64+a1))).bind λr1=>(Zac r1.2.1).bind λr2=>some ((),r2.2.1,decide (r2.2.2.1=0),())
def c111:=ct c110 246 [qas,qc] [qaj,qf] (u2 Zfc)
theorem o111:EO c111:=sz o110 Tryz.func246
def Zfa (a0:Jg):Option (Unit×List UInt8×Unit):=
 (Zhc 0#64 0#64 a0).bind λr1=>some ((),r1.2.1,())
def c112:=cf c111 213 [(.f qaj)] [qj] (u1 Zfa)
theorem o112:EO c112:=sz o111 Tryz.func213
def Zal (a0:List UInt8):Option (Unit×Jr×Int×Unit):=
 bif !(decide ((a0.length:Int)=11)) then some ((),{},2,()) else bif decide (8<=(a0.length:Int)) then (Zge (Qk 8 a0)).bind λr1=>(getI a0 (8:Int)).bind λx2=>(getI a0 (9:Int)).bind λx3=>(getI a0 (10:Int)).bind λx4=>(Zdp ⟨r1.2.1,(x2.toBitVec.toNat:Int),(x3.toBitVec.toNat:Int),(x4.toBitVec.toNat:Int)⟩).bind λr5=>bif !r5.2.1 then some ((),{},2,()) else some ((),⟨r1.2.1,(x2.toBitVec.toNat:Int),(x3.toBitVec.toNat:Int),(x4.toBitVec.toNat:Int)⟩,0,()) else none
def c113:=ct c112 263 [qg] [qa8,qa] (u1 Zal)
theorem o113:EO c113:=sx o112 (lcA [] [] [3]) Tryz.func263 dn
def Zdv (a0:Jc) (a1:Int):Option (Unit×Jr×Bool×Unit):=
 (Zhk a0.jo (Qa .i64 (16+a1))).bind λr1=>(Zal r1.2.1).bind λr2=>some ((),r2.2.1,decide (r2.2.2.1=0),())
def c114:=ct c113 214 [qas,qc] [qa8,qf] (u2 Zdv)
theorem o114:EO c114:=sz o113 Tryz.func214
abbrev Y_Zda_L0:=((List (UInt8))×(Jc×Unit)×Int×Unit)
abbrev Z_Zda_L0:=((Int×Bool×Unit)⊕(Unit))
def Zda_L0b (y0:List UInt8) (y1:Jc×Unit) (y2:Int):Option (Y_Zda_L0⊕Z_Zda_L0):=
 bif decide (y2 < 16) then (Zdv y1.1 y2).bind λr1=>bif r1.2.2.1 then (Zfw y0).bind λr2=>bif decide (r1.2.1.tag=r2.2.1) then some (Qd (Qe (y2,true,()))) else some (Qe (y0,(y1.1,()),Qa .i64 (y2+1),())) else some (Qe (y0,(y1.1,()),Qa .i64 (y2+1),())) else some (Qd (Qd ()))
def Zda_L0 (y:Y_Zda_L0):Option Z_Zda_L0:=
 iter (λ(y:Y_Zda_L0)=>Zda_L0b y.1 y.2.1 y.2.2.1) rounds y
def Zda (a0:Jc) (a1:List UInt8):Option (Unit×Int×Bool×Unit):=
 (Zda_L0 (a1,(a0,()),1,())).bind (Qh (λz3=>some ((),z3.1,z3.2.1,())) (λz4=>some ((),0,false,())))
def c115:=ct c114 187 [qas,qg] [qa,qf] (u2 Zda)
def s_Zda_L0:LSpec T:=⟨[(1,qg),(2,qe),(6,qc)],[(.ret,[(4,qc),(5,qr)]),(.exit 0,[])],Zda_L0,[]⟩
def A_Zda:Loc2 T:=lcA [(0,s_Zda_L0)] [] []
theorem Vsq:LO c115 Tryz.f187 0 s_Zda_L0:=lx o114 A_Zda dn (λ_=>rfl)
theorem o115:EO c115:=sx o114 A_Zda Tryz.func187 (dc rfl Vsq dn)
def Zdr (a0:Jc) (a1:List Jf) (a2:Int):Option (Unit×Jc×Int×Int×Unit):=
 bif !a0.on then some ((),a0,0,17,()) else (Zhl a0.jo a1 a2).bind λr1=>bif !(decide (r1.2.2.2.1=0)) then (Zdc a0 r1.2.1 r1.2.2.2.1).bind λr2=>some ((),r2.2.1,r2.2.2.1,r2.2.2.2.1,()) else some ((),{a0 with jo:=r1.2.1},r1.2.2.1,0,())
def c116:=cf c115 251 [qas,ql,qc] [qo,qa,qa] (u3 Zdr)
theorem o116:EO c116:=sz o115 Tryz.func251
abbrev Y_Zfx_L0:=((List (UInt8))×Int×(Jc×Unit)×(Jg×Unit)×(Jc×Unit)×(List (UInt8))×(Jr×Unit)×Int×Int×Int×Unit)
abbrev Z_Zfx_L0:=((List (UInt8))×Int×(Jc×Unit)×(Jg×Unit)×(Jc×Unit)×(List (UInt8))×(Jr×Unit)×Int×Int×Unit)
def Zfx_L0b (y0:List UInt8) (y1:Int) (y2:Jc×Unit) (y3:Jg×Unit) (y4:Jc×Unit) (y5:List UInt8) (y6:Jr×Unit) (y7 y8 y9:Int):Option (Y_Zfx_L0⊕Z_Zfx_L0):=
 bif decide (0<=y9) then bif y3.1.jj then (Zfc y2.1 y9).bind λr4=>bif !r4.2.2.1 then some (Qe (y0,y1,(y2.1,()),(y3.1,()),(y4.1,()),y5,(y6.1,()),y9,y8,Qa .i64 (y9 - 1),())) else some (Qe (y0,y1,(y2.1,()),(y3.1,()),(y4.1,()),y5,(y6.1,()),y7,y8,Qa .i64 (y9 - 1),())) else some (Qd (y0,y1,(y2.1,()),(y3.1,()),(y4.1,()),y5,(y6.1,()),y7,y8,())) else some (Qd (y0,y1,(y2.1,()),(y3.1,()),(y4.1,()),y5,(y6.1,()),y7,y8,()))
def Zfx_L0 (y:Y_Zfx_L0):Option Z_Zfx_L0:=
 iter (λ(y:Y_Zfx_L0)=>Zfx_L0b y.1 y.2.1 y.2.2.1 y.2.2.2.1 y.2.2.2.2.1 y.2.2.2.2.2.1 y.2.2.2.2.2.2.1 y.2.2.2.2.2.2.2.1 y.2.2.2.2.2.2.2.2.1 y.2.2.2.2.2.2.2.2.2.1) rounds y
abbrev Y_Zfx_L2:=((List (UInt8))×Int×(Jc×Unit)×(Jg×Unit)×(Jc×Unit)×(List (UInt8))×(Jr×Unit)×Int×Int×Int×Unit)
abbrev Z_Zfx_L2:=((List (UInt8))×Int×(Jc×Unit)×(Jg×Unit)×(Jc×Unit)×(List (UInt8))×(Jr×Unit)×Int×Int×Unit)
def Zfx_L2b (y0:List UInt8) (y1:Int) (y2:Jc×Unit) (y3:Jg×Unit) (y4:Jc×Unit) (y5:List UInt8) (y6:Jr×Unit) (y7 y8 y9:Int):Option (Y_Zfx_L2⊕Z_Zfx_L2):=
 bif decide (0<=y9) then bif y3.1.jj then (Zfc y2.1 y9).bind λr6=>bif r6.2.2.1 then bif decide (r6.2.1.rP=y3.1.rP) then bif decide (r6.2.1.user=y3.1.user) then (Zfa r6.2.1).bind λr7=>(Zda y2.1 r7.2.1).bind λr8=>some (Qe (y0,y1,(y2.1,()),(y3.1,()),(y4.1,()),y5,(y6.1,()),y9,r8.2.1,Qa .i64 (y9 - 1),())) else some (Qe (y0,y1,(y2.1,()),(y3.1,()),(y4.1,()),y5,(y6.1,()),y7,y8,Qa .i64 (y9 - 1),())) else some (Qe (y0,y1,(y2.1,()),(y3.1,()),(y4.1,()),y5,(y6.1,()),y7,y8,Qa .i64 (y9 - 1),())) else some (Qe (y0,y1,(y2.1,()),(y3.1,()),(y4.1,()),y5,(y6.1,()),y7,y8,Qa .i64 (y9 - 1),())) else some (Qd (y0,y1,(y2.1,()),(y3.1,()),(y4.1,()),y5,(y6.1,()),y7,y8,())) else some (Qd (y0,y1,(y2.1,()),(y3.1,()),(y4.1,()),y5,(y6.1,()),y7,y8,()))
def Zfx_L2 (y:Y_Zfx_L2):Option Z_Zfx_L2:=
 iter (λ(y:Y_Zfx_L2)=>Zfx_L2b y.1 y.2.1 y.2.2.1 y.2.2.2.1 y.2.2.2.2.1 y.2.2.2.2.2.1 y.2.2.2.2.2.2.1 y.2.2.2.2.2.2.2.1 y.2.2.2.2.2.2.2.2.1 y.2.2.2.2.2.2.2.2.2.1) rounds y
abbrev Y_Zfx_L4:=(Int×(Jc×Unit)×(Jg×Unit)×(Jc×Unit)×(List (UInt8))×(Jr×Unit)×Int×Int×Int×Int×Unit)
abbrev Z_Zfx_L4:=(Int×(Jc×Unit)×(Jg×Unit)×(Jc×Unit)×(List (UInt8))×(Jr×Unit)×Int×Int×Int×Unit)
def Zfx_L4b (y0:Int) (y1:Jc×Unit) (y2:Jg×Unit) (y3:Jc×Unit) (y4:List UInt8) (y5:Jr×Unit) (y6 y7 y8 y9:Int):Option (Y_Zfx_L4⊕Z_Zfx_L4):=
 bif decide (1<=y9) then (Zdv y1.1 y9).bind λr11=>bif !r11.2.2.1 then some (Qe (y0,(y1.1,()),(y2.1,()),(y3.1,()),y4,(y5.1,()),y6,y7,y9,Qa .i64 (y9 - 1),())) else bif decide (y9=y7) then some (Qe (y0,(y1.1,()),(y2.1,()),(y3.1,()),y4,(y5.1,()),y6,y7,y9,Qa .i64 (y9 - 1),())) else some (Qe (y0,(y1.1,()),(y2.1,()),(y3.1,()),y4,(y5.1,()),y6,y7,y8,Qa .i64 (y9 - 1),())) else some (Qd (y0,(y1.1,()),(y2.1,()),(y3.1,()),y4,(y5.1,()),y6,y7,y8,()))
def Zfx_L4 (y:Y_Zfx_L4):Option Z_Zfx_L4:=
 iter (λ(y:Y_Zfx_L4)=>Zfx_L4b y.1 y.2.1 y.2.2.1 y.2.2.2.1 y.2.2.2.2.1 y.2.2.2.2.2.1 y.2.2.2.2.2.2.1 y.2.2.2.2.2.2.2.1 y.2.2.2.2.2.2.2.2.1 y.2.2.2.2.2.2.2.2.2.1) rounds y
def Zfx (a0:Jc) (a1:Jg) (a2:List UInt8) (a3 a4 a5 a6:Int):Option (Unit×Jc×Int×Int×Unit):=
 bif !a0.on then some ((),a0,0,17,()) else (Zad a1).bind λr1=>bif !(decide (r1.2.2.1=0)) then some ((),a0,0,r1.2.2.1,()) else (Zfw a2).bind λr2=>(Zdp ⟨r2.2.1,a3,a4,a5⟩).bind λr3=>bif !r3.2.1 then some ((),a0,0,9,()) else (Zfx_L0 (a2,a6,(a0,()),(a1,()),({},()),r1.2.1,(⟨r2.2.1,a3,a4,a5⟩,()),-1,0,7,())).bind λz5=>(Zfx_L2 (z5.1,z5.2.1,(z5.2.2.1.1,()),(z5.2.2.2.1.1,()),(z5.2.2.2.2.1.1,()),z5.2.2.2.2.2.1,(z5.2.2.2.2.2.2.1.1,()),z5.2.2.2.2.2.2.2.1,z5.2.2.2.2.2.2.2.2.1,7,())).bind λz9=>(Zda z9.2.2.1.1 z9.1).bind λr10=>bif r10.2.2.1 then some ((),z9.2.2.1.1,0,10,()) else (Zfx_L4 (z9.2.1,(z9.2.2.1.1,()),(z9.2.2.2.1.1,()),(z9.2.2.2.2.1.1,()),z9.2.2.2.2.2.1,(z9.2.2.2.2.2.2.1.1,()),z9.2.2.2.2.2.2.2.1,z9.2.2.2.2.2.2.2.2.1,0,15,())).bind λz12=>bif decide (z12.2.2.2.2.2.2.2.2.1=0) then some ((),z12.2.1.1,0,12,()) else bif z12.2.2.1.1.jj then bif decide (z12.2.2.2.2.2.2.1 < 0) then some ((),z12.2.1.1,0,12,()) else (bif z12.2.2.1.1.jj then let v13:List Jf:=[⟨Qa .i64 (64+z12.2.2.2.2.2.2.1),z12.2.2.2.2.1⟩];bif small v13.length 32 then some (z12.1,(z12.2.1.1,()),(z12.2.2.2.1.1,()),(z12.2.2.2.2.2.1.1,()),z12.2.2.2.2.2.2.2.1,z12.2.2.2.2.2.2.2.2.1,v13,()) else none else some (z12.1,(z12.2.1.1,()),(z12.2.2.2.1.1,()),(z12.2.2.2.2.2.1.1,()),z12.2.2.2.2.2.2.2.1,z12.2.2.2.2.2.2.2.2.1,[],())).bind λj14=>(Zam j14.2.2.2.1.1).bind λr15=>let v16:List Jf:=[⟨Qa .i64 (16+j14.2.2.2.2.2.1),r15.2.1⟩];bif small (j14.2.2.2.2.2.2.1.length+(v16:List Jf).length) 32 then (bif !(decide (j14.2.2.2.2.1=0)) then bif !(decide (j14.2.2.2.2.1=j14.2.2.2.2.2.1)) then let v17:List Jf:=[{key:=Qa .i64 (16+j14.2.2.2.2.1)}];bif small ((j14.2.2.2.2.2.2.1++v16).length+(v17:List Jf).length) 32 then some (j14.1,(j14.2.1.1,()),(j14.2.2.1.1,()),j14.2.2.2.2.2.2.1++v16++v17,()) else none else some (j14.1,(j14.2.1.1,()),(j14.2.2.1.1,()),j14.2.2.2.2.2.2.1++v16,()) else some (j14.1,(j14.2.1.1,()),(j14.2.2.1.1,()),j14.2.2.2.2.2.2.1++v16,())).bind λj18=>(Zdr j18.2.1.1 j18.2.2.2.1 j18.1).bind λr19=>some ((),r19.2.1,r19.2.2.1,r19.2.2.2.1,()) else none else (bif z12.2.2.1.1.jj then let v20:List Jf:=[⟨Qa .i64 (64+z12.2.2.2.2.2.2.1),z12.2.2.2.2.1⟩];bif small v20.length 32 then some (z12.1,(z12.2.1.1,()),(z12.2.2.2.1.1,()),(z12.2.2.2.2.2.1.1,()),z12.2.2.2.2.2.2.2.1,z12.2.2.2.2.2.2.2.2.1,v20,()) else none else some (z12.1,(z12.2.1.1,()),(z12.2.2.2.1.1,()),(z12.2.2.2.2.2.1.1,()),z12.2.2.2.2.2.2.2.1,z12.2.2.2.2.2.2.2.2.1,[],())).bind λj21=>(Zam j21.2.2.2.1.1).bind λr22=>let v23:List Jf:=[⟨Qa .i64 (16+j21.2.2.2.2.2.1),r22.2.1⟩];bif small (j21.2.2.2.2.2.2.1.length+(v23:List Jf).length) 32 then (bif !(decide (j21.2.2.2.2.1=0)) then bif !(decide (j21.2.2.2.2.1=j21.2.2.2.2.2.1)) then let v24:List Jf:=[{key:=Qa .i64 (16+j21.2.2.2.2.1)}];bif small ((j21.2.2.2.2.2.2.1++v23).length+(v24:List Jf).length) 32 then some (j21.1,(j21.2.1.1,()),(j21.2.2.1.1,()),j21.2.2.2.2.2.2.1++v23++v24,()) else none else some (j21.1,(j21.2.1.1,()),(j21.2.2.1.1,()),j21.2.2.2.2.2.2.1++v23,()) else some (j21.1,(j21.2.1.1,()),(j21.2.2.1.1,()),j21.2.2.2.2.2.2.1++v23,())).bind λj25=>(Zdr j25.2.1.1 j25.2.2.2.1 j25.1).bind λr26=>some ((),r26.2.1,r26.2.2.1,r26.2.2.2.1,()) else none
def c117:=cf c116 192 [qas,(.f qaj),qg,qc,qc,qc,qc] [qo,qa,qa] λx=>Zfx x.1 x.2.1 x.2.2.1 x.2.2.2.1 x.2.2.2.2.1 x.2.2.2.2.2.1 x.2.2.2.2.2.2.1
def s_Zfx_L0:LSpec T:=⟨[(2,qg),(6,qc),(7,qe),(8,qs),(14,qe),(17,qae),(19,qak),(20,qc),(21,qc),(22,qc)],[(.exit 0,[(2,qg),(6,qc),(7,qe),(8,qs),(14,qe),(17,qae),(19,qak),(20,qc),(21,qc)])],Zfx_L0,[]⟩
def s_Zfx_L2:LSpec T:=⟨[(2,qg),(6,qc),(7,qe),(8,qs),(14,qe),(17,qae),(19,qak),(20,qc),(21,qc),(25,qc)],[(.exit 2,[(2,qg),(6,qc),(7,qe),(8,qs),(14,qe),(17,qae),(19,qak),(20,qc),(21,qc)])],Zfx_L2,[]⟩
def s_Zfx_L4:LSpec T:=⟨[(6,qc),(7,qe),(8,qs),(14,qe),(17,qae),(19,qak),(20,qc),(21,qc),(30,qc),(31,qc)],[(.exit 4,[(6,qc),(7,qe),(8,qs),(14,qe),(17,qae),(19,qak),(20,qc),(21,qc),(30,qc)])],Zfx_L4,[]⟩
def A_Zfx:Loc2 T:=lcA [(0,s_Zfx_L0),(2,s_Zfx_L2),(4,s_Zfx_L4)] [(38,[(6,qc),(7,qe),(14,qe),(19,qak),(21,qc),(30,qc),(34,qap)],true),(41,[(6,qc),(7,qe),(14,qe),(34,qap)],true)] [22]
theorem Vgy:LO c117 Tryz.f192 0 s_Zfx_L0:=lx o116 A_Zfx dn (λ_=>rfl)
theorem Vlh:LO c117 Tryz.f192 2 s_Zfx_L2:=lx o116 A_Zfx (dc rfl Vgy dn) (λ_=>rfl)
theorem Vsr:LO c117 Tryz.f192 4 s_Zfx_L4:=lx o116 A_Zfx (dc rfl Vgy (dc rfl Vlh dn)) (λ_=>rfl)
theorem o117:EO c117:=sx o116 A_Zfx Tryz.func192 (dc rfl Vgy (dc rfl Vlh (dc rfl Vsr dn)))
def Zbi (a0:Jd×Unit) (a1:Jc) (a2 a3:Int):Option (((Jd×Unit)×Unit)×Unit):=
 bif decide (a3=0) then (Zbh ({a0.1 with d:=a1,jz:=a2},()) a3).bind λr1=>some (((r1.1.1.1,()),()),()) else bif decide (a3=16) then (Zbh ({a0.1 with d:=a1,jz:=a2},()) a3).bind λr2=>some (((r2.1.1.1,()),()),()) else (Zbh ({a0.1 with d:=a1},()) a3).bind λr3=>some (((r3.1.1.1,()),()),())
def c118:=cf c117 189 [qk,qas,qc,qc] [] (u4 Zbi)
theorem o118:EO c118:=sz o117 Tryz.func189
def Zee (a0:Int):Option (Unit×Bool×Unit):=
 bif decide (0<=a0) then some ((),decide (a0<=4),()) else some ((),false,())
def c119:=ct c118 265 [qc] [qf] (u1 Zee)
theorem o119:EO c119:=sz o118 Tryz.func265
def Zeb (a0:BitVec 64) (a1 a2:Int):Option (Unit×BitVec 64×Unit):=
 let v1:List (BitVec 64):=[Qb 64 a1,Qb 64 a2];(passkeyref1_Words v1).bind λr2=>(Zhe a0 1 r2.2.1).bind λr3=>some ((),r3.2.1,())
def S_Zeb:FSpec T:=⟨[qd,qc,qc],[qp],λx=>Zeb x.1 x.2.1 x.2.2.1⟩
theorem Vzj:SoundT Tryz.prog cd gdn 290 S_Zeb:=
 sndC hmix o119 (lcA [] [] []) Tryz.func290 Vai (by kernel_rfl) (by kernel_rfl) λx=>by kernel_rfl
def c120:List (Ct T):=⟨290,none,S_Zeb,true⟩::c119
theorem o120:EnvOk Tryz.prog (mE c120):=eCons Vzj o119
abbrev Y_Zhh_L0:=(Int×Int×Int×(BitVec 64)×Int×Unit)
abbrev Z_Zhh_L0:=((BitVec 64)×Unit)
def Zhh_L0b (y0 y1 y2:Int) (y3:BitVec 64) (y4:Int):Option (Y_Zhh_L0⊕Z_Zhh_L0):=
 bif decide (y4 < (bif decide (15 < y2) then (15:Int) else y2)) then let v1:List (BitVec 64):=[Qb 64 y0,Qb 64 y1,Qb 64 y4,y3];(passkeyref1_Words v1).bind λr2=>(Zgc 1 r2.2.1).bind λr3=>some (Qe (y0,y1,y2,r3.2.1,Qa .i64 (y4+1),())) else some (Qd (y3,()))
def Zhh_L0 (y:Y_Zhh_L0):Option Z_Zhh_L0:=
 iter (λ(y:Y_Zhh_L0)=>Zhh_L0b y.1 y.2.1 y.2.2.1 y.2.2.2.1 y.2.2.2.2.1) rounds y
def Zhh (a0 a1 a2 a3:Int) (a4:BitVec 64):Option (Unit×BitVec 64×Unit):=
 (Zhh_L0 (a0,a1,a3,a4,bif decide (a2 < 0) then 0 else a2,())).bind λz4=>some ((),z4.1,())
def S_Zhh:FSpec T:=⟨[qc,qc,qc,qc,qd],[qp],λx=>Zhh x.1 x.2.1 x.2.2.1 x.2.2.2.1 x.2.2.2.2.1⟩
def s_Zhh_L0:LSpec T:=⟨[(0,qc),(1,qc),(3,qc),(4,qd),(11,qc)],[(.exit 0,[(4,qd)])],Zhh_L0,[]⟩
def A_Zhh:Loc2 T:=lcA [(0,s_Zhh_L0)] [] []
theorem Vss:LoopOk Tryz.prog (mE c120) Tryz.f289.ntmps (kqOf S_Zhh.ps 0) (loopAt 0 (bodyOf Tryz.f289)) s_Zhh_L0:=
 lpC hmix o120 A_Zhh Vai 0 (st:=λy=>Zhh_L0b y.1 y.2.1 y.2.2.1 y.2.2.2.1 y.2.2.2.2.1) (λ_=>rfl) (by kernel_rfl) (by kernel_rfl) λx=>by kernel_rfl
theorem Vzk:SoundT Tryz.prog cd gdn 289 S_Zhh:=
 sndC hmix o120 A_Zhh Tryz.func289 (Vc0 rfl Vss Vai) (by kernel_rfl) (by kernel_rfl) λx=>by kernel_rfl
def c121:List (Ct T):=⟨289,none,S_Zhh,true⟩::c120
theorem o121:EnvOk Tryz.prog (mE c121):=eCons Vzk o120
def Zgk (a0:Int) (a1:List (BitVec 64)):Option (Unit×BitVec 64×Unit):=
 (passkeyref1_Words [Qb 64 a0]).bind λr1=>(passkeyref1_Words a1).bind λr2=>bif small (r1.2.1.length+(r2.2.1:List UInt8).length) 1 then (Zgc 2 (r1.2.1++r2.2.1)).bind λr3=>some ((),r3.2.1,()) else none
def S_Zgk:FSpec T:=⟨[qc,qav],[qp],λx=>Zgk x.1 x.2.1⟩
theorem Vzl:SoundT Tryz.prog cd gdn 292 S_Zgk:=
 sndC hmix o121 (lcA [] [] []) Tryz.func292 Vai (by kernel_rfl) (by kernel_rfl) λx=>by kernel_rfl
def c122:List (Ct T):=⟨292,none,S_Zgk,true⟩::c121
theorem o122:EnvOk Tryz.prog (mE c122):=eCons Vzl o121
abbrev Y_Zgh_L0:=((BitVec 64)×Int×(List (BitVec 64))×Int×Unit)
abbrev Z_Zgh_L0:=(Int×(List (BitVec 64))×Unit)
def Zgh_L0b (y0:BitVec 64) (y1:Int) (y2:List (BitVec 64)) (y3:Int):Option (Y_Zgh_L0⊕Z_Zgh_L0):=
 bif decide (y3 < 18) then (Zeb y0 y1 y3).bind λr1=>(Zhh y1 y3 0 15 r1.2.1).bind λr2=>bif small (y2.length+([r2.2.1]).length) 8 then some (Qe (y0,y1,y2++[r2.2.1],Qa .i64 (y3+1),())) else none else some (Qd (y1,y2,()))
def Zgh_L0 (y:Y_Zgh_L0):Option Z_Zgh_L0:=
 iter (λ(y:Y_Zgh_L0)=>Zgh_L0b y.1 y.2.1 y.2.2.1 y.2.2.2.1) rounds y
def ZghG (k_Zeb:BitVec 64->Int->Int->Option (Unit×BitVec 64×Unit)) (k_Zhh:Int->Int->Int->Int->BitVec 64->Option (Unit×BitVec 64×Unit)) (k_Zgk:Int->List (BitVec 64)->Option (Unit×BitVec 64×Unit)) (l_Zgh_L0:Y_Zgh_L0->Option Z_Zgh_L0) (a0:BitVec 64) (a1:Int):Option (Unit×BitVec 64×Unit):=
 (l_Zgh_L0 (a0,a1,[],(0:Int),())).bind λz3=>(k_Zgk z3.1 z3.2.1).bind λr4=>some ((),r4.2.1,())
def Zgh (a0:BitVec 64) (a1:Int):Option (Unit×BitVec 64×Unit):=
 ZghG Zeb Zhh Zgk Zgh_L0 a0 a1
def S_Zgh:FSpec T:=⟨[qd,qc],[qp],λx=>Zgh x.1 x.2.1⟩
def EG_Zgh (k_Zeb:(BitVec 64)->Int->Int->Option ((Unit)×((BitVec 64)×Unit))) (k_Zhh:Int->Int->Int->Int->(BitVec 64)->Option ((Unit)×((BitVec 64)×Unit))) (k_Zgk:Int->(List (BitVec 64))->Option ((Unit)×((BitVec 64)×Unit))) (l_Zgh_L0:Y_Zgh_L0->Option Z_Zgh_L0):Env T:=⟨tab.find,cd,globs,flc,λf ds=>match f with
  | 289=>some ⟨S_Zhh.ps,S_Zhh.rs,λx=>k_Zhh x.1 x.2.1 x.2.2.1 x.2.2.2.1 x.2.2.2.2.1⟩
  | 290=>some ⟨S_Zeb.ps,S_Zeb.rs,λx=>k_Zeb x.1 x.2.1 x.2.2.1⟩
  | 292=>some ⟨S_Zgk.ps,S_Zgk.rs,λx=>k_Zgk x.1 x.2.1⟩
  | _=>none,λf=>match f with
  | 289=>true
  | 290=>true
  | 292=>true
  | _=>false⟩
def E_Zgh:Env T:=EG_Zgh Zeb Zhh Zgk Zgh_L0
def AG_Zgh (k_Zeb:(BitVec 64)->Int->Int->Option ((Unit)×((BitVec 64)×Unit))) (k_Zhh:Int->Int->Int->Int->(BitVec 64)->Option ((Unit)×((BitVec 64)×Unit))) (k_Zgk:Int->(List (BitVec 64))->Option ((Unit)×((BitVec 64)×Unit))) (l_Zgh_L0:Y_Zgh_L0->Option Z_Zgh_L0):Loc2 T:=⟨λid=>match id with
  | 0=>some ⟨[(0,.f (.v .u64)),(1,.f (.v (.int .i64))),(5,.f (.own 8)),(6,.f (.v (.int .i64)))],[(.exit 0,[(1,.f (.v (.int .i64))),(5,.f (.own 8))])],l_Zgh_L0,[]⟩
  | _=>none,λr=>match r with
  | _=>none,λr=>match r with
  | _=>false⟩
def A_Zgh:Loc2 T:=AG_Zgh Zeb Zhh Zgk Zgh_L0
theorem Vst (y0:(BitVec 64)) (y1:Int) (y2:(List (BitVec 64))) (y3:Int):run E_Zgh A_Zgh (loopAt 0 (Tryz.f286.body.getD .skip)) (layC cd [(0,.f (.v .u64)),(1,.f (.v (.int .i64))),(5,.f (.own 8)),(6,.f (.v (.int .i64)))] [] (y0,y1,y2,y3,())) (roundK cd [(0,.f (.v .u64)),(1,.f (.v (.int .i64))),(5,.f (.own 8)),(6,.f (.v (.int .i64)))] [] [(.exit 0,[(1,.f (.v (.int .i64))),(5,.f (.own 8))])])=Zgh_L0b y0 y1 y2 y3:=by kernel_rfl
theorem Vawa (k_Zeb:(BitVec 64)->Int->Int->Option ((Unit)×((BitVec 64)×Unit))) (k_Zhh:Int->Int->Int->Int->(BitVec 64)->Option ((Unit)×((BitVec 64)×Unit))) (k_Zgk:Int->(List (BitVec 64))->Option ((Unit)×((BitVec 64)×Unit))) (l_Zgh_L0:Y_Zgh_L0->Option Z_Zgh_L0) (x:tySs T S_Zgh.ps):run (EG_Zgh k_Zeb k_Zhh k_Zgk l_Zgh_L0) (AG_Zgh k_Zeb k_Zhh k_Zgk l_Zgh_L0) (Tryz.f286.body.getD .skip) (enterT (EG_Zgh k_Zeb k_Zhh k_Zgk l_Zgh_L0).C S_Zgh.ps x) (retK (EG_Zgh k_Zeb k_Zhh k_Zgk l_Zgh_L0) Tryz.f286.results.toList S_Zgh.ps S_Zgh.rs)=ZghG k_Zeb k_Zhh k_Zgk l_Zgh_L0 x.1 x.2.1:=by kernel_rfl
theorem Vdna (x:tySs T S_Zgh.ps):run E_Zgh A_Zgh (Tryz.f286.body.getD .skip) (enterT E_Zgh.C S_Zgh.ps x) (retK E_Zgh Tryz.f286.results.toList S_Zgh.ps S_Zgh.rs)=S_Zgh.fn x:=Eq.mp (by kernel_rfl) (Vawa Zeb Zhh Zgk Zgh_L0 x)
theorem Vsu:EnvOk Tryz.prog E_Zgh:=envOk (E:=E_Zgh) cd_ok tys fl_ok λf ds S h=>by
  dsimp only [E_Zgh,EG_Zgh] at h
  split at h
  ·cases h; exact Vzk
  ·cases h; exact Vzj
  ·cases h; exact Vzl
  ·cases h
theorem Vsv:LoopOk Tryz.prog E_Zgh Tryz.f286.ntmps (kqOf S_Zgh.ps 0) (loopAt 0 (Tryz.f286.body.getD .skip)) ⟨[(0,.f (.v .u64)),(1,.f (.v (.int .i64))),(5,.f (.own 8)),(6,.f (.v (.int .i64)))],[(.exit 0,[(1,.f (.v (.int .i64))),(5,.f (.own 8))])],Zgh_L0,[]⟩:=
 Vko (A:=A_Zgh) (done:=[]) (c0:=(Tryz.f286.body.getD .skip)) hmix Vsu Vai rounds (by kernel_rfl) (by kernel_rfl) (λx=>Vst x.1 x.2.1 x.2.2.1 x.2.2.2.1) (λ_=>rfl)
theorem Vzm:SoundT Tryz.prog cd gdn 286 S_Zgh:=
 Vdd (E:=E_Zgh) (A:=A_Zgh) (done:=[0]) (c:=(Tryz.f286.body.getD .skip)) (S:=S_Zgh) (fn:=Tryz.f286) hmix Vsu Tryz.func286 rfl (by kernel_rfl) (by kernel_rfl) (Vc0 rfl Vsv Vai) (by kernel_rfl) (by kernel_rfl) Vdna
def c123:List (Ct T):=⟨286,none,S_Zgh,true⟩::c122
theorem o123:EnvOk Tryz.prog (mE c123):=eCons Vzm o122
def Zef (a0:Int) (a1 a2:BitVec 64):Option (Unit×BitVec 64×Unit):=
 (passkeyref1_Words [Qb 64 a0,a1,a2]).bind λr1=>(Zgc 3 r1.2.1).bind λr2=>some ((),r2.2.1,())
def S_Zef:FSpec T:=⟨[qc,qd,qd],[qp],λx=>Zef x.1 x.2.1 x.2.2.1⟩
theorem Vzn:SoundT Tryz.prog cd gdn 287 S_Zef:=
 sndC hmix o123 (lcA [] [] []) Tryz.func287 Vai (by kernel_rfl) (by kernel_rfl) λx=>by kernel_rfl
def c124:List (Ct T):=⟨287,none,S_Zef,true⟩::c123
theorem o124:EnvOk Tryz.prog (mE c124):=eCons Vzn o123
def Zgl_R (k_rec:BitVec 64->Int->Int->Option (Unit×BitVec 64×Unit)) (a0:BitVec 64) (a1 a2:Int):Option (Unit×BitVec 64×Unit):=
 bif decide (a1=0) then (Zgh a0 a2).bind λr1=>some ((),r1.2.1,()) else (k_rec a0 (Qa .i64 (a1 - 1)) (Qa .i64 (2*a2))).bind λr2=>let v3:=Qa .i64 (Qa .i64 (2*a2)+1);(k_rec a0 (Qa .i64 (a1 - 1)) v3).bind λr4=>(Zef a1 r2.2.1 r4.2.1).bind λr5=>some ((),r5.2.1,())
abbrev ps_Zgl:List Slot:=[qd,qc,qc]
abbrev rs_Zgl:List Fld:=[qp]
def Zgl_RG (k_rec:BitVec 64->Int->Int->Option (Unit×BitVec 64×Unit)) (k_Zgh:BitVec 64->Int->Option (Unit×BitVec 64×Unit)) (k_Zef:Int->BitVec 64->BitVec 64->Option (Unit×BitVec 64×Unit)) (a0:BitVec 64) (a1 a2:Int):Option (Unit×BitVec 64×Unit):=
 bif decide (a1=0) then (k_Zgh a0 a2).bind λr1=>some ((),r1.2.1,()) else (k_rec a0 (Qa .i64 (a1 - 1)) (Qa .i64 (2*a2))).bind λr2=>let v3:=Qa .i64 (Qa .i64 (2*a2)+1);(k_rec a0 (Qa .i64 (a1 - 1)) v3).bind λr4=>(k_Zef a1 r2.2.1 r4.2.1).bind λr5=>some ((),r5.2.1,())
def EG_Zgl (k_rec:(BitVec 64)->Int->Int->Option ((Unit)×((BitVec 64)×Unit))) (k_Zgh:(BitVec 64)->Int->Option ((Unit)×((BitVec 64)×Unit))) (k_Zef:Int->(BitVec 64)->(BitVec 64)->Option ((Unit)×((BitVec 64)×Unit))):Env T:=⟨tab.find,cd,globs,flc,λf ds=>match f with
  | 279=>some ⟨ps_Zgl,rs_Zgl,λx=>k_rec x.1 x.2.1 x.2.2.1⟩
  | 286=>some ⟨S_Zgh.ps,S_Zgh.rs,λx=>k_Zgh x.1 x.2.1⟩
  | 287=>some ⟨S_Zef.ps,S_Zef.rs,λx=>k_Zef x.1 x.2.1 x.2.2.1⟩
  | _=>none,λf=>match f with
  | 279=>true
  | 286=>true
  | 287=>true
  | _=>false⟩
def E_Zgl (k_rec:(BitVec 64)->Int->Int->Option ((Unit)×((BitVec 64)×Unit))):Env T:=EG_Zgl k_rec Zgh Zef
def A_Zgl (k_rec:(BitVec 64)->Int->Int->Option ((Unit)×((BitVec 64)×Unit))):Loc2 T:=⟨λid=>match id with
  | _=>none,λr=>match r with
  | _=>none,λr=>match r with
  | _=>false⟩
theorem Vwt (k_rec:(BitVec 64)->Int->Int->Option ((Unit)×((BitVec 64)×Unit))) (k_Zgh:(BitVec 64)->Int->Option ((Unit)×((BitVec 64)×Unit))) (k_Zef:Int->(BitVec 64)->(BitVec 64)->Option ((Unit)×((BitVec 64)×Unit))) (x:tySs T ps_Zgl):run (EG_Zgl k_rec k_Zgh k_Zef) (A_Zgl k_rec) (Tryz.f279.body.getD .skip) (enterT (EG_Zgl k_rec k_Zgh k_Zef).C ps_Zgl x) (retK (EG_Zgl k_rec k_Zgh k_Zef) Tryz.f279.results.toList ps_Zgl rs_Zgl)=Zgl_RG k_rec k_Zgh k_Zef x.1 x.2.1 x.2.2.1:=by kernel_rfl
theorem Vaxa (k_rec:(BitVec 64)->Int->Int->Option ((Unit)×((BitVec 64)×Unit))) (x:tySs T ps_Zgl):run (E_Zgl k_rec) (A_Zgl k_rec) (Tryz.f279.body.getD .skip) (enterT (E_Zgl k_rec).C ps_Zgl x) (retK (E_Zgl k_rec) Tryz.f279.results.toList ps_Zgl rs_Zgl)=Zgl_R k_rec x.1 x.2.1 x.2.2.1:=Eq.mp (by kernel_rfl) (Vwt k_rec Zgh Zef x)
def Zgl_n:Nat->(BitVec 64)->Int->Int->Option ((Unit)×((BitVec 64)×Unit))
 | 0=>λ_ _ _=>none
 | n+1=>Zgl_R (Zgl_n n)
def Zgl (a0:(BitVec 64)) (a1:Int) (a2:Int):=Zgl_n 8 a0 a1 a2
def S_Zgl:FSpec T:=⟨ps_Zgl,rs_Zgl,λx=>Zgl x.1 x.2.1 x.2.2.1⟩
theorem Vaya (k_rec:(BitVec 64)->Int->Int->Option ((Unit)×((BitVec 64)×Unit))) (hk:SoundT Tryz.prog cd gdn 279 ⟨ps_Zgl,rs_Zgl,λx=>k_rec x.1 x.2.1 x.2.2.1⟩):EnvOk Tryz.prog (E_Zgl k_rec):=envOk (E:=(E_Zgl k_rec)) cd_ok tys fl_ok λf ds S h=>by
  dsimp only [E_Zgl,EG_Zgl] at h
  split at h
  ·cases h; exact hk
  ·cases h; exact Vzm
  ·cases h; exact Vzn
  ·cases h
theorem Vsw:∀ n:Nat,SoundT Tryz.prog cd gdn 279 ⟨ps_Zgl,rs_Zgl,λx=>Zgl_n n x.1 x.2.1 x.2.2.1⟩
 | 0=>Vf4 ⟨_,Tryz.func279,by kernel_rfl,by kernel_rfl⟩
 | n+1=>Vdd (E:=E_Zgl (Zgl_n n)) (A:=A_Zgl (Zgl_n n)) (done:=[]) (c:=(Tryz.f279.body.getD .skip)) (S:=⟨ps_Zgl,rs_Zgl,λx=>Zgl_n (n+1) x.1 x.2.1 x.2.2.1⟩) (fn:=Tryz.f279) hmix (Vaya _ (Vsw n)) Tryz.func279 rfl (by kernel_rfl) (by kernel_rfl) Vai (by kernel_rfl) (by kernel_rfl) (Vaxa (Zgl_n n))
theorem Vdoa:SoundT Tryz.prog cd gdn 279 S_Zgl:=Vsw 8
def c125:List (Ct T):=⟨279,none,S_Zgl,true⟩::c124
theorem o125:EnvOk Tryz.prog (mE c125):=eCons Vdoa o124
def Zea (a0:BitVec 64) (a1:Int):Option (Unit×Jt×Int×Unit):=
 (Zee a1).bind λr1=>bif !r1.2.1 then some ((),{},9,()) else (Zgl a0 a1 0).bind λr2=>some ((),⟨a1,r2.2.1⟩,0,())
def c126:=ct c125 253 [qd,qc] [qba,qa] (u2 Zea)
theorem o126:EO c126:=sz o125 Tryz.func253
def Zfv (a0:Jg):Option (Unit×Jt×Int×Unit):=
 (Zaa a0).bind λr1=>bif !(decide (r1.2.1=0)) then some ((),{},r1.2.1,()) else (Zea a0.jah a0.jd).bind λr2=>some ((),r2.2.1,r2.2.2.1,())
def c127:=ct c126 193 [(.f qaj)] [qba,qa] (u1 Zfv)
theorem o127:EO c127:=sz o126 Tryz.func193
def Zbw (a0:Jt):Option (Unit×List UInt8×Int×Unit):=
 (Zee a0.jd).bind λr1=>bif !r1.2.1 then some ((),[],9,()) else let v2:List UInt8:=[Qg (Qb 8 a0.jd)];(passkeyref1_Words [a0.jba]).bind λr3=>bif small (v2.length+(r3.2.1:List UInt8).length) 1 then some ((),v2++r3.2.1,0,()) else none
def c128:=cf c127 254 [(.f qba)] [qj,qa] (u1 Zbw)
theorem o128:EO c128:=sx o127 (lcA [] [] [3]) Tryz.func254 dn
def Zah (a0:Js):Option (Unit×Int×Unit):=
 let v1:=Qa .i64 ((Qb (Qc .i64) a0.jan&&&~~~(Qb (Qc .i64) 93)).toNat:Int);bif !(decide (v1=0)) then some ((),9,()) else (Zcy a0.jbb 0 16).bind λr2=>bif !r2.2.1 then some ((),9,()) else (Zcy a0.range 0 15).bind λr3=>bif !r3.2.1 then some ((),9,()) else let v4:=Qa .i64 ((Qb (Qc .i64) a0.jan&&&Qb (Qc .i64) 16).toNat:Int);bif !(decide (v4=0)) then let v5:=Qa .i64 ((Qb (Qc .i64) a0.jan&&&Qb (Qc .i64) 8).toNat:Int);bif decide (v5=0) then some ((),18,()) else let v6:=Qa .i64 ((Qb (Qc .i64) a0.jan&&&Qb (Qc .i64) 64).toNat:Int);bif decide (v6=0) then bif !(decide (a0.jae=0#64)) then some ((),4,()) else bif decide (0 < (a0.iD.length:Int)) then some ((),4,()) else bif !(decide (a0.key.jd=0)&&(decide (a0.key.jba=0#64)&&true)) then some ((),4,()) else some ((),0,()) else bif !(decide ((a0.iD.length:Int)=176)) then some ((),4,()) else (Zbw a0.key).bind λr7=>some ((),r7.2.2.1,()) else let v8:=Qa .i64 ((Qb (Qc .i64) a0.jan&&&Qb (Qc .i64) 64).toNat:Int);bif decide (v8=0) then bif !(decide (a0.jae=0#64)) then some ((),4,()) else bif decide (0 < (a0.iD.length:Int)) then some ((),4,()) else bif !(decide (a0.key.jd=0)&&(decide (a0.key.jba=0#64)&&true)) then some ((),4,()) else some ((),0,()) else bif !(decide ((a0.iD.length:Int)=176)) then some ((),4,()) else (Zbw a0.key).bind λr9=>some ((),r9.2.2.1,())
def c129:=ct c128 220 [(.f qbb)] [qa] (u1 Zah)
theorem o129:EO c129:=sz o128 Tryz.func220
def Zat (a0:Js):Option (Unit×List UInt8×Int×Unit):=
 (Zah a0).bind λr1=>bif !(decide (r1.2.1=0)) then some ((),[],r1.2.1,()) else (passkeyref1_Words [a0.rP]).bind λr2=>let v3:List UInt8:=[Qg (Qb 8 a0.jan),Qg (Qb 8 a0.jbb),Qg (Qb 8 a0.range)];bif small (r2.2.1.length+(v3:List UInt8).length) 1 then let v4:=Qa .i64 ((Qb (Qc .i64) a0.jan&&&Qb (Qc .i64) 64).toNat:Int);bif !(decide (v4=0)) then (Zbw a0.key).bind λr5=>(passkeyref1_Words [a0.jae]).bind λr6=>bif small ((r2.2.1++v3).length+(r6.2.1:List UInt8).length) 1 then bif small ((r2.2.1++v3++r6.2.1).length+(a0.iD:List UInt8).length) 1 then bif small ((r2.2.1++v3++r6.2.1++a0.iD).length+(r5.2.1:List UInt8).length) 1 then let v7:=r2.2.1++v3++r6.2.1++a0.iD++r5.2.1;some ((),v7,0,()) else none else none else none else some ((),r2.2.1++v3,0,()) else none
def c130:=cf c129 194 [(.f qbb)] [qj,qa] (u1 Zat)
theorem o130:EO c130:=sx o129 (lcA [] [] [4,7]) Tryz.func194 dn
def Zce (a0:List UInt8) (a1:BitVec 64):Option (Unit×BitVec 64×Unit):=
 bif small a0.length 1 then (passkeyref1_Words [a1]).bind λr1=>bif small (a0.length+(r1.2.1:List UInt8).length) 1 then (Zgc 13 (a0++r1.2.1)).bind λr2=>some ((),r2.2.1,()) else none else none
def c131:=ct c130 196 [qg,qd] [qp] (u2 Zce)
theorem o131:EO c131:=sz o130 Tryz.func196
def Zfu (a0:Ju) (a1:Int):Option (Unit×Ju×Unit):=
 bif decide (a1 < 0) then some ((),a0,()) else bif decide (7 < a1) then some ((),a0,()) else let v1:=Qa .i64 ((Qb (Qc .i64) a0.jb&&&~~~(Qb (Qc .i64) a1)).toNat:Int);bif decide (v1=0) then some ((),⟨a0.jap,false,0#64,v1,[],0⟩,()) else some ((),{a0 with jb:=v1},())
def c132:=ct c131 257 [(.f qaw),qc] [qaw] (u2 Zfu)
theorem o132:EO c132:=sz o131 Tryz.func257
def Zaw (a0:Jd×Unit) (a1:Int):Option (((Jd×Unit)×Unit)×Unit):=
 bif decide (a0.1.err=0) then bif a0.1.r.jk then (Zfu a0.1.d.jt a1).bind λr1=>some ((({a0.1 with d:={a0.1.d with jt:=r1.2.1}},()),()),()) else some (((a0.1,()),()),()) else some (((a0.1,()),()),())
def c133:=cf c132 198 [qk,qc] [] (u2 Zaw)
theorem o133:EO c133:=sz o132 Tryz.func198
abbrev Y_Zez_L0:=((Jc×Unit)×(Jb×Unit)×(Jc×Unit)×(Jj×Unit)×(Jd×Unit)×(Jg×Unit)×Bool×(Jo×Unit)×Int×Unit)
abbrev Z_Zez_L0:=((Jc×Unit)×(Jb×Unit)×(Jc×Unit)×(Jj×Unit)×(Jd×Unit)×(Jg×Unit)×Bool×(Jo×Unit)×Unit)
def Zez_L0b (y0:Jc×Unit) (y1:Jb×Unit) (y2:Jc×Unit) (y3:Jj×Unit) (y4:Jd×Unit) (y5:Jg×Unit) (y6:Bool) (y7:Jo×Unit) (y8:Int):Option (Y_Zez_L0⊕Z_Zez_L0):=
 (bif decide (y8 < y1.1.list.length) then bif decide (y4.1.err=0) then some (Qe ((y0.1,()),(y1.1,()),(y2.1,()),(y3.1,()),(y4.1,()),(y5.1,()),y6,(y7.1,()),y8,())) else (some (Qd ((y0.1,()),(y1.1,()),(y2.1,()),(y3.1,()),(y4.1,()),(y5.1,()),y6,(y7.1,()),()))).bind λq=>some (Qd q) else (some (Qd ((y0.1,()),(y1.1,()),(y2.1,()),(y3.1,()),(y4.1,()),(y5.1,()),y6,(y7.1,()),()))).bind λq=>some (Qd q)).bind (Qh (λj14=>(getI j14.2.1.1.list j14.2.2.2.2.2.2.2.2.1).bind λx15=>none) some)
def Zez_L0 (y:Y_Zez_L0):Option Z_Zez_L0:=
 iter (λ(y:Y_Zez_L0)=>Zez_L0b y.1 y.2.1 y.2.2.1 y.2.2.2.1 y.2.2.2.2.1 y.2.2.2.2.2.1 y.2.2.2.2.2.2.1 y.2.2.2.2.2.2.2.1 y.2.2.2.2.2.2.2.2.1) rounds y
def Zez (a0:Jc) (a1:Int) (a2:Jb) (a3:List Jl) (a4:Int):Option (Unit×Jc×Jj×Int×Unit):=
 (Zdt a0 a1 a2 a3 a4 2).bind λr1=>bif !(decide (r1.2.2.1=0)) then some ((),a0,{err:=r1.2.2.1},a4,()) else (Zaa {a2 with jah:=0#64,jaf:=false}).bind λr2=>(Zbh (r1.2.1,()) r2.2.1).bind λr3=>bif r3.2.1 then (Zbu (r3.1.1.1,())).bind λr4=>some ((),r4.2.1,r4.2.2.1,r4.2.2.2.1,()) else bif decide (2 < a2.jl) then (Zbh (r3.1.1.1,()) 9).bind λr5=>(Zbu (r5.1.1.1,())).bind λr6=>some ((),r6.2.1,r6.2.2.1,r6.2.2.2.1,()) else (Zae (r3.1.1.1,()) 1 a2.rP).bind λr7=>(bif !a2.jk then bif !a2.ju then (Zga r7.1.1.1.d).bind λr8=>bif r8.2.1.set then (Zbh (r7.1.1.1,()) 23).bind λr9=>some ((a0,()),(a2,()),(({}:Jc),()),(({}:Jj),()),(r9.1.1.1,()),(({a2 with jah:=0#64,jaf:=false}:Jg),()),r7.2.1,()) else some ((a0,()),(a2,()),(({}:Jc),()),(({}:Jj),()),(r7.1.1.1,()),(({a2 with jah:=0#64,jaf:=false}:Jg),()),r7.2.1,()) else some ((a0,()),(a2,()),(({}:Jc),()),(({}:Jj),()),(r7.1.1.1,()),(({a2 with jah:=0#64,jaf:=false}:Jg),()),r7.2.1,()) else some ((a0,()),(a2,()),(({}:Jc),()),(({}:Jj),()),(r7.1.1.1,()),(({a2 with jah:=0#64,jaf:=false}:Jg),()),r7.2.1,())).bind λj10=>(bif j10.2.1.1.ju then (Zau (j10.2.2.2.2.1.1,()) (!j10.2.1.1.jk)).bind λr11=>some ((j10.1.1,()),(j10.2.1.1,()),(j10.2.2.1.1,()),(j10.2.2.2.1.1,()),(r11.1.1.1,()),(j10.2.2.2.2.2.1.1,()),j10.2.2.2.2.2.2.1,(r11.2.1,()),()) else (Zau (j10.2.2.2.2.1.1,()) false).bind λr12=>some ((j10.1.1,()),(j10.2.1.1,()),(j10.2.2.1.1,()),(j10.2.2.2.1.1,()),(r12.1.1.1,()),(j10.2.2.2.2.2.1.1,()),j10.2.2.2.2.2.2.1,(r12.2.1,()),())).bind λj13=>(Zez_L0 ((j13.1.1,()),(j13.2.1.1,()),(j13.2.2.1.1,()),(j13.2.2.2.1.1,()),(j13.2.2.2.2.1.1,()),(j13.2.2.2.2.2.1.1,()),j13.2.2.2.2.2.2.1,(j13.2.2.2.2.2.2.2.1.1,()),0,())).bind λz16=>((bif decide (z16.2.2.2.2.1.1.err=0) then some ((z16.1.1,()),(z16.2.1.1,()),(z16.2.2.1.1,()),(z16.2.2.2.1.1,()),(z16.2.2.2.2.1.1,()),(z16.2.2.2.2.2.1.1,()),z16.2.2.2.2.2.2.1,(z16.2.2.2.2.2.2.2.1.1,()),(0:Int),decide (z16.2.1.1.jl=2),()) else some ((z16.1.1,()),(z16.2.1.1,()),(z16.2.2.1.1,()),(z16.2.2.2.1.1,()),(z16.2.2.2.2.1.1,()),(z16.2.2.2.2.2.1.1,()),z16.2.2.2.2.2.2.1,(z16.2.2.2.2.2.2.2.1.1,()),(0:Int),false,())).bind λj17=>bif j17.2.2.2.2.2.2.2.2.2.1 then none else some ((j17.1.1,()),(j17.2.1.1,()),(j17.2.2.1.1,()),(j17.2.2.2.1.1,()),(j17.2.2.2.2.1.1,()),(j17.2.2.2.2.2.1.1,()),j17.2.2.2.2.2.2.1,(j17.2.2.2.2.2.2.2.1.1,()),j17.2.2.2.2.2.2.2.2.1,())).bind λj18=>bif !(decide (j18.2.2.2.2.1.1.err=0)) then (Zbu (j18.2.2.2.2.1.1,())).bind λr19=>some ((),r19.2.1,r19.2.2.1,r19.2.2.2.1,()) else (Zbg (j18.2.2.2.2.1.1,())).bind λr20=>(Zbg (r20.1.1.1,())).bind λr21=>(Zcz r21.1.1.1.d).bind λr22=>(Zhc r22.2.1 r21.2.1 {j18.2.2.2.2.2.1.1 with jah:=r20.2.1}).bind λr23=>(bif decide (j18.2.1.1.jl=1) then some ((j18.1.1,()),(j18.2.1.1,()),(j18.2.2.1.1,()),(j18.2.2.2.1.1,()),(r21.1.1.1,()),(({j18.2.2.2.2.2.1.1 with jah:=r20.2.1}:Jg),()),j18.2.2.2.2.2.2.1,(j18.2.2.2.2.2.2.2.1.1,()),j18.2.2.2.2.2.2.2.2.1,r23.2.1,(1:Int),()) else some ((j18.1.1,()),(j18.2.1.1,()),(j18.2.2.1.1,()),(j18.2.2.2.1.1,()),(r21.1.1.1,()),(({j18.2.2.2.2.2.1.1 with jah:=r20.2.1}:Jg),()),j18.2.2.2.2.2.2.1,(j18.2.2.2.2.2.2.2.1.1,()),j18.2.2.2.2.2.2.2.2.1,r23.2.1,(0:Int),())).bind λj24=>let v25:=Qa .i64 (1*2 ^ min (Qb 64 j24.2.2.2.2.2.1.1.jd).toNat (Qc .i64));(Zfx j24.2.2.2.2.1.1.d j24.2.2.2.2.2.1.1 j24.2.2.2.2.2.2.2.2.2.1 0 v25 j24.2.2.2.2.2.2.2.2.2.2.1 j24.2.2.2.2.1.1.jz).bind λr26=>(Zbi (j24.2.2.2.2.1.1,()) r26.2.1 r26.2.2.1 r26.2.2.2.1).bind λr27=>bif !(decide (r27.1.1.1.err=0)) then (Zbu (r27.1.1.1,())).bind λr28=>some ((),r28.2.1,r28.2.2.1,r28.2.2.2.1,()) else (bif j24.2.2.2.2.2.2.1 then let v29:=Qa .i64 ((Qb (Qc .i64) 65 ||| Qb (Qc .i64) 4).toNat:Int);some ((j24.1.1,()),(j24.2.1.1,()),(j24.2.2.1.1,()),(j24.2.2.2.1.1,()),(r27.1.1.1,()),(j24.2.2.2.2.2.1.1,()),j24.2.2.2.2.2.2.2.2.1,j24.2.2.2.2.2.2.2.2.2.1,j24.2.2.2.2.2.2.2.2.2.2.1,v29,()) else bif j24.2.2.2.2.2.2.2.1.1.jbc then let v30:=Qa .i64 ((Qb (Qc .i64) 65 ||| Qb (Qc .i64) 4).toNat:Int);some ((j24.1.1,()),(j24.2.1.1,()),(j24.2.2.1.1,()),(j24.2.2.2.1.1,()),(r27.1.1.1,()),(j24.2.2.2.2.2.1.1,()),j24.2.2.2.2.2.2.2.2.1,j24.2.2.2.2.2.2.2.2.2.1,j24.2.2.2.2.2.2.2.2.2.2.1,v30,()) else some ((j24.1.1,()),(j24.2.1.1,()),(j24.2.2.1.1,()),(j24.2.2.2.1.1,()),(r27.1.1.1,()),(j24.2.2.2.2.2.1.1,()),j24.2.2.2.2.2.2.2.2.1,j24.2.2.2.2.2.2.2.2.2.1,j24.2.2.2.2.2.2.2.2.2.2.1,(65:Int),())).bind λj31=>(bif j31.2.2.2.2.2.1.1.jp then let v32:=Qa .i64 ((Qb (Qc .i64) j31.2.2.2.2.2.2.2.2.2.1 ||| Qb (Qc .i64) 8).toNat:Int);some ((j31.1.1,()),(j31.2.1.1,()),(j31.2.2.1.1,()),(j31.2.2.2.1.1,()),(j31.2.2.2.2.1.1,()),(j31.2.2.2.2.2.1.1,()),j31.2.2.2.2.2.2.1,j31.2.2.2.2.2.2.2.1,j31.2.2.2.2.2.2.2.2.1,v32,()) else some ((j31.1.1,()),(j31.2.1.1,()),(j31.2.2.1.1,()),(j31.2.2.2.1.1,()),(j31.2.2.2.2.1.1,()),(j31.2.2.2.2.2.1.1,()),j31.2.2.2.2.2.2.1,j31.2.2.2.2.2.2.2.1,j31.2.2.2.2.2.2.2.2.1,j31.2.2.2.2.2.2.2.2.2.1,())).bind λj33=>(Zfv j33.2.2.2.2.2.1.1).bind λr34=>(Zcv j33.2.1.1.rP).bind λr35=>(Zat ⟨r35.2.1,j33.2.2.2.2.2.2.2.2.2.1,j33.2.2.2.2.2.2.2.2.1,0,j33.1.1.jm.jae,j33.2.2.2.2.2.2.2.1,r34.2.1⟩).bind λr36=>(Zce r36.2.1 j33.2.1.1.jaa).bind λr37=>(bif decide (j33.2.1.1.jl=1) then none else bif decide (j33.2.1.1.jl=2) then none else some ((j33.2.2.1.1,()),(j33.2.2.2.1.1,()),(j33.2.2.2.2.1.1.d,j33.2.2.2.2.1.1.r,j33.2.2.2.2.1.1.g,j33.2.2.2.2.1.1.jz,j33.2.2.2.2.1.1.jc.err,r36.2.1,j33.2.2.2.2.1.1.jc.jab,j33.2.2.2.2.1.1.jc.jq,j33.2.1.1.jl,j33.2.2.2.2.1.1.jc.iD,j33.2.2.2.2.1.1.jc.user,j33.2.2.2.2.1.1.jc.name,j33.2.2.2.2.1.1.jc.count,j33.2.2.2.2.1.1.jc.jv,j33.2.2.2.2.1.1.jc.box,j33.2.2.2.2.1.1.jc.jae,j33.2.2.2.2.1.1.jc.jx,j33.2.2.2.2.1.1.jc.jay,j33.2.2.2.2.1.1.jc.jau,j33.2.2.2.2.1.1.jc.jaw,j33.2.2.2.2.1.1.jc.jai,j33.2.2.2.2.1.1.jc.jy,j33.2.2.2.2.1.1.err,()),())).bind λj38=>(Zaw (⟨j38.2.2.1.1,j38.2.2.1.2.1,j38.2.2.1.2.2.1,j38.2.2.1.2.2.2.1,⟨j38.2.2.1.2.2.2.2.1,j38.2.2.1.2.2.2.2.2.1,j38.2.2.1.2.2.2.2.2.2.1,j38.2.2.1.2.2.2.2.2.2.2.1,j38.2.2.1.2.2.2.2.2.2.2.2.1,j38.2.2.1.2.2.2.2.2.2.2.2.2.1,j38.2.2.1.2.2.2.2.2.2.2.2.2.2.1,j38.2.2.1.2.2.2.2.2.2.2.2.2.2.2.1,j38.2.2.1.2.2.2.2.2.2.2.2.2.2.2.2.1,j38.2.2.1.2.2.2.2.2.2.2.2.2.2.2.2.2.1,j38.2.2.1.2.2.2.2.2.2.2.2.2.2.2.2.2.2.1,j38.2.2.1.2.2.2.2.2.2.2.2.2.2.2.2.2.2.2.1,j38.2.2.1.2.2.2.2.2.2.2.2.2.2.2.2.2.2.2.2.1,j38.2.2.1.2.2.2.2.2.2.2.2.2.2.2.2.2.2.2.2.2.1,j38.2.2.1.2.2.2.2.2.2.2.2.2.2.2.2.2.2.2.2.2.2.1,j38.2.2.1.2.2.2.2.2.2.2.2.2.2.2.2.2.2.2.2.2.2.2.1,j38.2.2.1.2.2.2.2.2.2.2.2.2.2.2.2.2.2.2.2.2.2.2.2.1,j38.2.2.1.2.2.2.2.2.2.2.2.2.2.2.2.2.2.2.2.2.2.2.2.2.1⟩,j38.2.2.1.2.2.2.2.2.2.2.2.2.2.2.2.2.2.2.2.2.2.2.2.2.2.1⟩,()) 1).bind λr39=>(Zbu (r39.1.1.1,())).bind λr40=>some ((),r40.2.1,r40.2.2.1,r40.2.2.2.1,())
def c134:=cf c133 132 [qas,qc,qa3,qw,qc] [qo,qac,qa] (u5 Zez)
def s_Zez_L0:LSpec T:=⟨[(5,qe),(7,qaa),(10,qe),(11,qh),(13,qk),(15,qs),(16,qr),(17,qn),(18,qc)],[(.exit 0,[(5,qe),(7,qaa),(10,qe),(11,qh),(13,qk),(15,qs),(16,qr),(17,qn)])],Zez_L0,[]⟩
def A_Zez:Loc2 T:=lcA [(0,s_Zez_L0)] [(13,[(5,qe),(7,qaa),(10,qe),(11,qh),(13,qk),(15,qs),(16,qr)],true),(14,[(5,qe),(7,qaa),(10,qe),(11,qh),(13,qk),(15,qs),(16,qr),(17,qn)],true),(17,[(5,qe),(7,qaa),(10,qe),(11,qh),(13,qk),(15,qs),(16,qr),(17,qn),(18,qc)],false),(23,[(5,qe),(7,qaa),(10,qe),(11,qh),(13,qk),(15,qs),(16,qr),(17,qn),(23,qc),(175,qr)],true),(26,[(5,qe),(7,qaa),(10,qe),(11,qh),(13,qk),(15,qs),(16,qr),(17,qn),(23,qc)],true),(34,[(5,qe),(7,qaa),(10,qe),(11,qh),(13,qk),(15,qs),(16,qr),(17,qn),(23,qc),(29,qae),(31,qc)],true),(40,[(5,qe),(7,qaa),(10,qe),(11,qh),(13,qk),(15,qs),(23,qc),(29,qg),(31,qc),(32,qc)],true),(42,[(5,qe),(7,qaa),(10,qe),(11,qh),(13,qk),(15,qs),(23,qc),(29,qg),(31,qc),(32,qc)],true),(55,[(10,qe),(11,qh),(13,(.ptr [qo,qi,(.v (.rs 16)),qa,qa,qj,qaz,(.v (.rs 3)),qa,qaz,qq,qq,qa,qp,qaz,qp,qa,qa,qa,qf,qf,(.v (.rs 23)),qa]))],true)] [17,23,54]
theorem Vsx:LO c134 Tryz.f132 0 s_Zez_L0:=lx o133 A_Zez dn (λ_=>rfl)
theorem o134:EO c134:=sx o133 A_Zez Tryz.func132 (dc rfl Vsx dn)
def Zap (a0:Jd×Unit):Option (((Jd×Unit)×Unit)×BitVec 64×Unit):=
 bif !(decide (a0.1.err=0)) then some (((a0.1,()),()),0#64,()) else (Zec a0.1.d.jt.jap a0.1.r.jv).bind λr1=>(Zbh (a0.1,()) r1.2.2.1).bind λr2=>bif r2.2.1 then some (((r2.1.1.1,()),()),0#64,()) else (Zbg (r2.1.1.1,())).bind λr3=>some ((({r3.1.1.1 with d:={r3.1.1.1.d with jt:={r3.1.1.1.d.jt with jap:=r3.2.1}}},()),()),r1.2.1,())
def c135:=cf c134 203 [qk] [qp] (u1 Zap)
theorem o135:EO c135:=sz o134 Tryz.func203
def Zgi (a0:BitVec 64) (a1 a2:List UInt8):Option (Unit×List UInt8×Int×Unit):=
 bif decide ((a2.length:Int) < 16) then some ((),[],1,()) else bif decide (1040 < (a2.length:Int)) then some ((),[],8,()) else bif decide (1024 < (a1.length:Int)) then some ((),[],8,()) else bif decide (8<=(a2.length:Int)) then (Zge (Qk 8 a2)).bind λr1=>bif decide (0<=Qa .i64 ((a2.length:Int) - 8))&&decide (Qa .i64 ((a2.length:Int) - 8)<=a2.length) then bif decide (8<=((Qa .i64 ((a2.length:Int) - 8)).toNat:Int)) then let v2:=Ql 8 (Qk (Qa .i64 ((a2.length:Int) - 8)).toNat a2);bif decide (0<=Qa .i64 ((a2.length:Int) - 8))&&decide (Qa .i64 ((a2.length:Int) - 8)<=a2.length) then let v3:=Ql (Qa .i64 ((a2.length:Int) - 8)).toNat a2;(Zge v3).bind λr4=>(Zhj a0 r1.2.1 a1 v2).bind λr5=>bif !(decide (r4.2.1=r5.2.1)) then some ((),[],14,()) else (Zhi a0 r1.2.1 v2).bind λr6=>some ((),r6.2.1,0,()) else none else none else none else none
def c136:=cf c135 216 [qd,qg,qg] [qj,qa] (u3 Zgi)
theorem o136:EO c136:=sz o135 Tryz.func216
abbrev Y_Zcc_L0:=((List (UInt8))×Int×Unit)
abbrev Z_Zcc_L0:=((List (UInt8))×Int×Unit)
def Zcc_L0b (y0:List UInt8) (y1:Int):Option (Y_Zcc_L0⊕Z_Zcc_L0):=
 bif decide (y1 < y0.length) then bif decide (0<=y1)&&decide (y1 < y0.length) then y0[y1.toNat]?.bind λx2=>bif !(decide (x2.toBitVec=(0:UInt8).toBitVec)) then some (Qe (y0,Qa .i64 (y1+1),())) else some (Qd (y0,y1,())) else none else some (Qd (y0,y1,()))
def Zcc_L0 (y:Y_Zcc_L0):Option Z_Zcc_L0:=
 iter (λ(y:Y_Zcc_L0)=>Zcc_L0b y.1 y.2.1) rounds y
abbrev Y_Zcc_L2:=((List (UInt8))×Int×Int×Unit)
abbrev Z_Zcc_L2:=(((List UInt8)×Int×Unit)⊕((List (UInt8))×Int×Unit))
def Zcc_L2b (y0:List UInt8) (y1 y2:Int):Option (Y_Zcc_L2⊕Z_Zcc_L2):=
 bif decide (y2 < y0.length) then bif decide (0<=y2)&&decide (y2 < y0.length) then y0[y2.toNat]?.bind λx4=>bif !(decide (x4.toBitVec=(0:UInt8).toBitVec)) then some (Qd (Qe ([],2,()))) else some (Qe (y0,y1,Qa .i64 (y2+1),())) else none else some (Qd (Qd (y0,y1,())))
def Zcc_L2 (y:Y_Zcc_L2):Option Z_Zcc_L2:=
 iter (λ(y:Y_Zcc_L2)=>Zcc_L2b y.1 y.2.1 y.2.2.1) rounds y
def Zcc (a0:BitVec 64) (a1:List UInt8):Option (Unit×List UInt8×Int×Unit):=
 (Zgi a0 [] a1).bind λr1=>bif !(decide (r1.2.2.1=0)) then some ((),[],r1.2.2.1,()) else (Zcc_L0 (r1.2.1,0,())).bind λz3=>bif !(decide ((z3.1.length:Int)=64)) then some ((),[],2,()) else bif decide (z3.2.1=z3.1.length) then some ((),[],2,()) else (Zcc_L2 (z3.1,z3.2.1,z3.2.1,())).bind (Qh (λz5=>some ((),z5.1,z5.2.1,())) (λz6=>bif decide (0<=z6.2.1)&&decide (z6.2.1<=z6.1.length) then bif decide (z6.2.1.toNat<=z6.1.length) then some ((),Qk z6.2.1.toNat z6.1,0,()) else none else none))
def c137:=ct c136 204 [qd,qg] [qq,qa] (u2 Zcc)
def s_Zcc_L0:LSpec T:=⟨[(6,qae),(8,qc)],[(.exit 0,[(6,qae),(8,qc)])],Zcc_L0,[]⟩
def s_Zcc_L2:LSpec T:=⟨[(6,qae),(8,qc),(9,qc)],[(.ret,[(4,qar),(5,qc)]),(.exit 2,[(6,qae),(8,qc)])],Zcc_L2,[]⟩
def A_Zcc:Loc2 T:=lcA [(0,s_Zcc_L0),(2,s_Zcc_L2)] [] []
theorem Vli:LO c137 Tryz.f204 0 s_Zcc_L0:=lx o136 A_Zcc dn (λ_=>rfl)
theorem Vsy:LO c137 Tryz.f204 2 s_Zcc_L2:=lx o136 A_Zcc (dc rfl Vli dn) (λ_=>rfl)
theorem o137:EO c137:=sx o136 A_Zcc Tryz.func204 (dc rfl Vli (dc rfl Vsy dn))
def c138:List (Ct T):=⟨258,none,S_Zbl,true⟩::c137
theorem o138:EnvOk Tryz.prog (mE c138):=eCons Vdia o137
def c139:List (Ct T):=⟨259,none,S_Zbc,true⟩::c138
theorem o139:EnvOk Tryz.prog (mE c139):=eCons Vdja o138
abbrev Y_Zer_L0:=(Int×Bool×(List UInt8×Nat)×Unit)
abbrev Z_Zer_L0:=((Bool×Unit)⊕(Bool×Unit))
def Zer_L0b (y0:Int) (y1:Bool) (y2:(List UInt8 × Nat)):Option (Y_Zer_L0 ⊕ Z_Zer_L0):=
 (bif decide (y2.2 < (y2.1).length) then (let v4:Nat:=(y2.2 + (Utf8.decode ⟨(y2.1).toArray⟩ y2.2).2)
 (bif (decide (((Utf8.decode ⟨(y2.1).toArray⟩ y2.2).1:Int)=(0:Int))) then (some (Qd (Qe (true,()))))
 else (bif y1 then (some (Qe (y0,(decide (((Utf8.decode ⟨(y2.1).toArray⟩ y2.2).1:Int)=y0)),(y2.1,v4),())))
 else (some (Qe (y0,false,(y2.1,v4),()))))))
 else (some (Qd (Qd (y1,())))))
def Zer_L0 (y:Y_Zer_L0):Option Z_Zer_L0:=
 iter (λ(y:Y_Zer_L0)=>Zer_L0b y.1 y.2.1 y.2.2.1) rounds y
def Zer (a0:List UInt8):Option (Unit×Bool×Unit):=
 bif decide ((a0.length:Int) < 4) then some ((),true,()) else bif decide (63 < (a0.length:Int)) then some ((),true,()) else (Zgt a0).bind λr1=>bif !r1.2.1 then some ((),true,()) else (Zbl a0).bind λr2=>bif decide (r2.2.1 < 4) then some ((),true,()) else (Zbc a0).bind λr3=>(Zer_L0 (r3.2.1,true,(a0,0),())).bind (Qh (λz5=>some ((),z5.1,())) (λz6=>some ((),z6.1,())))
def c140:=ct c139 205 [qar] [qf] (u1 Zer)
def s_Zer_L0:LSpec T:=⟨[(3,(.f (.v (.int .i32)))),(5,qr),(32,.iter)],[(.ret,[(2,qr)]),(.exit 0,[(5,qr)])],Zer_L0,[]⟩
def A_Zer:Loc2 T:=lcA [(0,s_Zer_L0)] [] []
theorem Vsz:LO c140 Tryz.f205 0 s_Zer_L0:=lx o139 A_Zer dn (λ_=>rfl)
theorem o140:EO c140:=sx o139 A_Zer Tryz.func205 (dc rfl Vsz dn)
def Zcb (a0:List UInt8):Option (Unit×BitVec 64×Unit):=
 (Zgc 8 a0).bind λr1=>some ((),r1.2.1,())
def c141:=ct c140 53 [qar] [qp] (u1 Zcb)
theorem o141:EO c141:=sz o140 Tryz.func53
def Zbq (a0 a1:BitVec 64):Option (Unit×BitVec 64×Unit):=
 (passkeyref1_Words [a1]).bind λr1=>(Zhe a0 8 r1.2.1).bind λr2=>some ((),r2.2.1,())
def S_Zbq:FSpec T:=⟨[qd,qd],[qp],λx=>Zbq x.1 x.2.1⟩
theorem Vzo:SoundT Tryz.prog cd gdn 260 S_Zbq:=
 sndC hmix o141 (lcA [] [] []) Tryz.func260 Vai (by kernel_rfl) (by kernel_rfl) λx=>by kernel_rfl
def c142:List (Ct T):=⟨260,none,S_Zbq,true⟩::c141
theorem o142:EnvOk Tryz.prog (mE c142):=eCons Vzo o141
def Zav (a0:Jd×Unit) (a1:List UInt8):Option (((Jd×Unit)×Unit)×Jf×Unit):=
 (Zcz a0.1.d).bind λr1=>(Zcb a1).bind λr2=>(Zbq r1.2.1 r2.2.1).bind λr3=>(passkeyref1_Words [r3.2.1]).bind λr4=>some (((a0.1,()),()),⟨3,r4.2.1⟩,())
def c143:=cf c142 207 [qk,qar] [(.v (.agg 5))] (u2 Zav)
theorem o143:EO c143:=sz o142 Tryz.func207
def Zfb (a0:Int):Option (Unit×Jf×Unit):=
 some ((),⟨4,[Qg (Qb 8 a0)]⟩,())
def S_Zfb:FSpec T:=⟨[qc],[(.v (.agg 5))],λx=>Zfb x.1⟩
theorem Vzp:SoundT Tryz.prog cd gdn 208 S_Zfb:=
 sndC hmix o143 (lcA [] [] []) Tryz.func208 Vai (by kernel_rfl) (by kernel_rfl) λx=>by kernel_rfl
def c144:List (Ct T):=⟨208,none,S_Zfb,false⟩::c143
theorem o144:EnvOk Tryz.prog (mE c144):=eCons Vzp o143
def Zax (a0:Jd×Unit) (a1:List Jf):Option (((Jd×Unit)×Unit)×Bool×Unit):=
 bif !(decide (a0.1.err=0)) then some (((a0.1,()),()),true,()) else (Zdr a0.1.d a1 a0.1.jz).bind λr1=>(Zbi (a0.1,()) r1.2.1 r1.2.2.1 r1.2.2.2.1).bind λr2=>some (((r2.1.1.1,()),()),!(decide (r2.1.1.1.err=0)),())
def S_Zax:FSpec T:=⟨[qk,ql],[qf],λx=>Zax x.1 x.2.1⟩
theorem Vzq:SoundT Tryz.prog cd gdn 206 S_Zax:=
 sndC hmix o144 (lcA [] [] []) Tryz.func206 Vai (by kernel_rfl) (by kernel_rfl) λx=>by kernel_rfl
def c145:List (Ct T):=⟨206,none,S_Zax,false⟩::c144
theorem o145:EnvOk Tryz.prog (mE c145):=eCons Vzq o144
def Zdb (a0:Jc) (a1:Int) (a2:Jb) (a3:List Jl) (a4:Int):Option (Unit×Jc×Jj×Int×Unit):=
 (Zdt a0 a1 a2 a3 a4 7).bind λr1=>bif !(decide (r1.2.2.1=0)) then some ((),a0,{err:=r1.2.2.1},a4,()) else ((Zga r1.2.1.d).bind λr2=>bif r2.2.1.set then (Zbh (r1.2.1,()) 18).bind λr3=>some ((a2,()),(({}:Jc),()),(({}:Jj),()),(r3.1.1.1,()),()) else some ((a2,()),(({}:Jc),()),(({}:Jj),()),(r1.2.1,()),())).bind λj4=>(Zap (j4.2.2.2.1.1,())).bind λr5=>bif !(decide (r5.1.1.1.err=0)) then (Zbu (r5.1.1.1,())).bind λr6=>some ((),r6.2.1,r6.2.2.1,r6.2.2.2.1,()) else (Zcc r5.2.1 j4.1.1.box).bind λr7=>(Zbh (r5.1.1.1,()) r7.2.2.1).bind λr8=>bif r8.2.1 then (Zbu (r8.1.1.1,())).bind λr9=>some ((),r9.2.1,r9.2.2.1,r9.2.2.2.1,()) else (Zer r7.2.1).bind λr10=>bif r10.2.1 then (Zbh (r8.1.1.1,()) 26).bind λr11=>(Zbu (r11.1.1.1,())).bind λr12=>some ((),r12.2.1,r12.2.2.1,r12.2.2.2.1,()) else (Zav (r8.1.1.1,()) r7.2.1).bind λr13=>(Zfb 8).bind λr14=>(Zax (r13.1.1.1,()) [r13.2.1,r14.2.1]).bind λr15=>bif !r15.2.1 then (Zbu ({r15.1.1.1 with d:={r15.1.1.1.d with jac:=0}},())).bind λr16=>some ((),r16.2.1,r16.2.2.1,r16.2.2.2.1,()) else (Zbu (r15.1.1.1,())).bind λr17=>some ((),r17.2.1,r17.2.2.1,r17.2.2.2.1,())
def c146:=cf c145 137 [qas,qc,qa3,qw,qc] [qo,qac,qa] (u5 Zdb)
theorem o146:EO c146:=sx o145 (lcA [] [(6,[(7,qaa),(10,qe),(11,qh),(13,qk)],true)] []) Tryz.func137 dn
def Zbr (a0:BitVec 64) (a1:List UInt8):Option (Unit×BitVec 64×Int×Unit):=
 (Zgi a0 [] a1).bind λr1=>bif !(decide (r1.2.2.1=0)) then some ((),0#64,r1.2.2.1,()) else bif !(decide ((r1.2.1.length:Int)=8)) then some ((),0#64,2,()) else (Zge r1.2.1).bind λr2=>some ((),r2.2.1,0,())
def c147:=ct c146 209 [qd,qg] [qp,qa] (u2 Zbr)
theorem o147:EO c147:=sz o146 Tryz.func209
def Zcs (a0:Jq):Option (Unit×Jq×Int×Unit):=
 bif !a0.set then some ((),{},25,()) else bif decide (a0.jx < 1) then some ((),{},27,()) else bif decide (3<=a0.jac) then some ((),{},28,()) else some ((),{a0 with jx:=Qa .i64 (a0.jx - 1)},0,())
def S_Zcs:FSpec T:=⟨[(.f qa9)],[qa9,qa],λx=>Zcs x.1⟩
theorem Vzr:SoundT Tryz.prog cd gdn 261 S_Zcs:=
 sndC hmix o147 (lcA [] [] []) Tryz.func261 Vai (by kernel_rfl) (by kernel_rfl) λx=>by kernel_rfl
def c148:List (Ct T):=⟨261,none,S_Zcs,true⟩::c147
theorem o148:EnvOk Tryz.prog (mE c148):=eCons Vzr o147
def Zct (a0:Jq) (a1:Bool):Option (Unit×Jq×Int×Unit):=
 bif a1 then some ((),⟨a0.set,a0.jbe,8,0⟩,0,()) else (bif decide (a0.jac < 3) then some ((({a0 with jac:=Qa .i64 (a0.jac+1)}:Jq),()),(({}:Jq),()),()) else some ((({a0 with jac:=3}:Jq),()),(({}:Jq),()),())).bind λj1=>bif decide (j1.1.1.jx < 1) then some ((),j1.1.1,27,()) else bif decide (3<=j1.1.1.jac) then some ((),j1.1.1,28,()) else some ((),j1.1.1,24,())
def S_Zct:FSpec T:=⟨[(.f qa9),qr],[qa9,qa],λx=>Zct x.1 x.2.1⟩
theorem Vzs:SoundT Tryz.prog cd gdn 262 S_Zct:=
 sndC hmix o148 (lcA [] [(7,[(2,.ptr [(.v (.agg 27))]),(4,.ptr [(.v (.agg 27))])],true)] []) Tryz.func262 Vai (by kernel_rfl) (by kernel_rfl) λx=>by kernel_rfl
def c149:List (Ct T):=⟨262,none,S_Zct,true⟩::c148
theorem o149:EnvOk Tryz.prog (mE c149):=eCons Vzs o148
def ZaiG (k_Zga:Jc->Option (Unit×Jq×Unit)) (k_Zcs:Jq->Option (Unit×Jq×Int×Unit)) (k_Zbh:Jd×Unit->Int->Option (((Jd×Unit)×Unit)×Bool×Unit)) (k_Zfb:Int->Option (Unit×Jf×Unit)) (k_Zax:Jd×Unit->List Jf->Option (((Jd×Unit)×Unit)×Bool×Unit)) (k_Zcz:Jc->Option (Unit×BitVec 64×Unit)) (k_Zbq:BitVec 64->BitVec 64->Option (Unit×BitVec 64×Unit)) (k_Zct:Jq->Bool->Option (Unit×Jq×Int×Unit)) (a0:Jd×Unit) (a1:BitVec 64):Option (((Jd×Unit)×Unit)×Unit):=
 (k_Zga a0.1.d).bind λr1=>(k_Zcs r1.2.1).bind λr2=>(k_Zbh (a0.1,()) r2.2.2.1).bind λr3=>bif r3.2.1 then some (((r3.1.1.1,()),()),()) else (k_Zfb r2.2.1.jx).bind λr4=>(k_Zax (r3.1.1.1,()) [r4.2.1]).bind λr5=>bif r5.2.1 then some (((r5.1.1.1,()),()),()) else (k_Zcz r5.1.1.1.d).bind λr6=>(k_Zbq r6.2.1 a1).bind λr7=>(k_Zct r2.2.1 (decide (r7.2.1=r2.2.1.jbe))).bind λr8=>(k_Zbh (({r5.1.1.1 with d:={r5.1.1.1.d with jac:=r8.2.1.jac}}:Jd),()) r8.2.2.1).bind λr9=>some (((r9.1.1.1,()),()),())
def Zai (a0:Jd×Unit) (a1:BitVec 64):Option (((Jd×Unit)×Unit)×Unit):=
 ZaiG Zga Zcs Zbh Zfb Zax Zcz Zbq Zct a0 a1
def S_Zai:FSpec T:=⟨[qk,qd],[],λx=>Zai x.1 x.2.1⟩
def EG_Zai (k_Zga:Jc->Option ((Unit)×(Jq×Unit))) (k_Zcs:Jq->Option ((Unit)×(Jq×Int×Unit))) (k_Zbh:(Jd×Unit)->Int->Option (((Jd×Unit)×Unit)×(Bool×Unit))) (k_Zfb:Int->Option ((Unit)×(Jf×Unit))) (k_Zax:(Jd×Unit)->(List (Jf))->Option (((Jd×Unit)×Unit)×(Bool×Unit))) (k_Zcz:Jc->Option ((Unit)×((BitVec 64)×Unit))) (k_Zbq:(BitVec 64)->(BitVec 64)->Option ((Unit)×((BitVec 64)×Unit))) (k_Zct:Jq->Bool->Option ((Unit)×(Jq×Int×Unit))):Env T:=⟨tab.find,cd,globs,flc,λf ds=>match f with
  | 177=>some ⟨S_Zcz.ps,S_Zcz.rs,λx=>k_Zcz x.1⟩
  | 179=>some ⟨S_Zga.ps,S_Zga.rs,λx=>k_Zga x.1⟩
  | 183=>some ⟨S_Zbh.ps,S_Zbh.rs,λx=>k_Zbh x.1 x.2.1⟩
  | 206=>some ⟨S_Zax.ps,S_Zax.rs,λx=>k_Zax x.1 x.2.1⟩
  | 208=>some ⟨S_Zfb.ps,S_Zfb.rs,λx=>k_Zfb x.1⟩
  | 260=>some ⟨S_Zbq.ps,S_Zbq.rs,λx=>k_Zbq x.1 x.2.1⟩
  | 261=>some ⟨S_Zcs.ps,S_Zcs.rs,λx=>k_Zcs x.1⟩
  | 262=>some ⟨S_Zct.ps,S_Zct.rs,λx=>k_Zct x.1 x.2.1⟩
  | _=>none,λf=>match f with
  | 177=>true
  | 179=>true
  | 260=>true
  | 261=>true
  | 262=>true
  | _=>false⟩
def E_Zai:Env T:=⟨tab.find,cd,globs,flc,λf ds=>match f with
  | 177=>some S_Zcz
  | 179=>some S_Zga
  | 183=>some S_Zbh
  | 206=>some S_Zax
  | 208=>some S_Zfb
  | 260=>some S_Zbq
  | 261=>some S_Zcs
  | 262=>some S_Zct
  | _=>none,λf=>match f with
  | 177=>true
  | 179=>true
  | 260=>true
  | 261=>true
  | 262=>true
  | _=>false⟩
def A_Zai:Loc2 T:=⟨λid=>match id with
  | _=>none,λr=>match r with
  | _=>none,λr=>match r with
  | 2=>true
  | _=>false⟩
def AG_Zai (k_Zga:Jc->Option ((Unit)×(Jq×Unit))) (k_Zcs:Jq->Option ((Unit)×(Jq×Int×Unit))) (k_Zbh:(Jd×Unit)->Int->Option (((Jd×Unit)×Unit)×(Bool×Unit))) (k_Zfb:Int->Option ((Unit)×(Jf×Unit))) (k_Zax:(Jd×Unit)->(List (Jf))->Option (((Jd×Unit)×Unit)×(Bool×Unit))) (k_Zcz:Jc->Option ((Unit)×((BitVec 64)×Unit))) (k_Zbq:(BitVec 64)->(BitVec 64)->Option ((Unit)×((BitVec 64)×Unit))) (k_Zct:Jq->Bool->Option ((Unit)×(Jq×Int×Unit))):Loc2 T:=⟨λid=>match id with
  | _=>none,λr=>match r with
  | _=>none,λr=>match r with
  | 2=>true
  | _=>false⟩
theorem Vaza (k_Zga:Jc->Option ((Unit)×(Jq×Unit))) (k_Zcs:Jq->Option ((Unit)×(Jq×Int×Unit))) (k_Zbh:(Jd×Unit)->Int->Option (((Jd×Unit)×Unit)×(Bool×Unit))) (k_Zfb:Int->Option ((Unit)×(Jf×Unit))) (k_Zax:(Jd×Unit)->(List (Jf))->Option (((Jd×Unit)×Unit)×(Bool×Unit))) (k_Zcz:Jc->Option ((Unit)×((BitVec 64)×Unit))) (k_Zbq:(BitVec 64)->(BitVec 64)->Option ((Unit)×((BitVec 64)×Unit))) (k_Zct:Jq->Bool->Option ((Unit)×(Jq×Int×Unit))) (x:tySs T S_Zai.ps):run (EG_Zai k_Zga k_Zcs k_Zbh k_Zfb k_Zax k_Zcz k_Zbq k_Zct) (AG_Zai k_Zga k_Zcs k_Zbh k_Zfb k_Zax k_Zcz k_Zbq k_Zct) (Tryz.f210.body.getD .skip) (enterT (EG_Zai k_Zga k_Zcs k_Zbh k_Zfb k_Zax k_Zcz k_Zbq k_Zct).C S_Zai.ps x) (retK (EG_Zai k_Zga k_Zcs k_Zbh k_Zfb k_Zax k_Zcz k_Zbq k_Zct) Tryz.f210.results.toList S_Zai.ps S_Zai.rs)=ZaiG k_Zga k_Zcs k_Zbh k_Zfb k_Zax k_Zcz k_Zbq k_Zct x.1 x.2.1:=by kernel_rfl
theorem Vdpa (x:tySs T S_Zai.ps):run E_Zai A_Zai (Tryz.f210.body.getD .skip) (enterT E_Zai.C S_Zai.ps x) (retK E_Zai Tryz.f210.results.toList S_Zai.ps S_Zai.rs)=S_Zai.fn x:=Vaza Zga Zcs Zbh Zfb Zax Zcz Zbq Zct x
theorem Va0a:EnvOk Tryz.prog E_Zai:=envOk (E:=E_Zai) cd_ok tys fl_ok λf ds S h=>by
  dsimp only [E_Zai] at h
  split at h
  ·cases h; exact Vzb
  ·cases h; exact Vzh
  ·cases h; exact Vzd
  ·cases h; exact Vzq
  ·cases h; exact Vzp
  ·cases h; exact Vzo
  ·cases h; exact Vzr
  ·cases h; exact Vzs
  ·cases h
theorem Vdqa:SoundT Tryz.prog cd gdn 210 S_Zai:=
 Vdd (E:=E_Zai) (A:=A_Zai) (done:=[]) (c:=(Tryz.f210.body.getD .skip)) (S:=S_Zai) (fn:=Tryz.f210) hmix Va0a Tryz.func210 rfl (by kernel_rfl) (by kernel_rfl) Vai (by kernel_rfl) (by kernel_rfl) Vdpa
def c150:List (Ct T):=⟨210,none,S_Zai,false⟩::c149
theorem o150:EnvOk Tryz.prog (mE c150):=eCons Vdqa o149
def Zdo (a0:Ju) (a1:BitVec 64) (a2:Int) (a3:List UInt8) (a4:Int):Option (Unit×Ju×Int×Unit):=
 bif decide (a2 < 1) then some ((),{},9,()) else bif decide (7 < a2) then some ((),{},9,()) else bif decide (a4 < 0) then some ((),{},9,()) else bif decide (1099511627776 < a4) then some ((),{},9,()) else bif decide (64 < (a3.length:Int)) then some ((),{},8,()) else some ((),⟨a0.jap,true,a1,a2,a3,a4⟩,0,())
def c151:=ct c150 211 [(.f qaw),qd,qc,qar,qc] [qaw,qa] (u5 Zdo)
theorem o151:EO c151:=sz o150 Tryz.func211
def Zbs (a0 a1 a2:BitVec 64):Option (Unit×List UInt8×Unit):=
 (passkeyref1_Words [a2]).bind λr1=>(Zgj a0 a1 [] r1.2.1).bind λr2=>some ((),r2.2.1,())
def c152:=cf c151 52 [qd,qd,qd] [qj] (u3 Zbs)
theorem o152:EO c152:=sz o151 Tryz.func52
def Zds (a0:Jc) (a1:Int) (a2:Jb) (a3:List Jl) (a4:Int):Option (Unit×Jc×Jj×Int×Unit):=
 (Zdt a0 a1 a2 a3 a4 9).bind λr1=>bif !(decide (r1.2.2.1=0)) then some ((),a0,{err:=r1.2.2.1},a4,()) else (bif decide (a2.jb < 1) then (Zbh (r1.2.1,()) 9).bind λr2=>some ((a2,()),(({}:Jc),()),(({}:Jj),()),(r2.1.1.1,()),()) else bif decide (7 < a2.jb) then (Zbh (r1.2.1,()) 9).bind λr3=>some ((a2,()),(({}:Jc),()),(({}:Jj),()),(r3.1.1.1,()),()) else some ((a2,()),(({}:Jc),()),(({}:Jj),()),(r1.2.1,()),())).bind λj4=>((Zga j4.2.2.2.1.1.d).bind λr5=>bif !r5.2.1.set then (Zbh (j4.2.2.2.1.1,()) 25).bind λr6=>some ((j4.1.1,()),(j4.2.1.1,()),(j4.2.2.1.1,()),(r6.1.1.1,()),()) else some ((j4.1.1,()),(j4.2.1.1,()),(j4.2.2.1.1,()),(j4.2.2.2.1.1,()),())).bind λj7=>(Zap (j7.2.2.2.1.1,())).bind λr8=>bif !(decide (r8.1.1.1.err=0)) then (Zbu (r8.1.1.1,())).bind λr9=>some ((),r9.2.1,r9.2.2.1,r9.2.2.2.1,()) else (Zbr r8.2.1 j7.1.1.proof).bind λr10=>(Zbh (r8.1.1.1,()) r10.2.2.1).bind λr11=>bif r11.2.1 then (Zbu (r11.1.1.1,())).bind λr12=>some ((),r12.2.1,r12.2.2.1,r12.2.2.2.1,()) else (Zai (r11.1.1.1,()) r10.2.1).bind λr13=>bif !(decide (r13.1.1.1.err=0)) then (Zbu (r13.1.1.1,())).bind λr14=>some ((),r14.2.1,r14.2.2.1,r14.2.2.2.1,()) else (Zfb 8).bind λr15=>(Zax (r13.1.1.1,()) [r15.2.1]).bind λr16=>bif r16.2.1 then (Zbu (r16.1.1.1,())).bind λr17=>some ((),r17.2.1,r17.2.2.1,r17.2.2.2.1,()) else (Zbg (r16.1.1.1,())).bind λr18=>(Zdo r18.1.1.1.d.jt r18.2.1 j7.1.1.jb j7.1.1.rP r18.1.1.1.d.now).bind λr19=>(Zbg ({r18.1.1.1 with d:={r18.1.1.1.d with jt:=r19.2.1}},())).bind λr20=>(Zbs r8.2.1 r20.2.1 r18.2.1).bind λr21=>(Zbu ({r20.1.1.1 with jc:={r20.1.1.1.jc with box:=r21.2.1}},())).bind λr22=>some ((),r22.2.1,r22.2.2.1,r22.2.2.2.1,())
def c153:=cf c152 139 [qas,qc,qa3,qw,qc] [qo,qac,qa] (u5 Zds)
theorem o153:EO c153:=sx o152 (lcA [] [(6,[(7,qaa),(10,qe),(11,qh),(13,qk)],true),(8,[(7,qaa),(10,qe),(11,qh),(13,qk)],true)] []) Tryz.func139 dn
def Zgb (a0:Jc) (a1:Int) (a2:Jb) (a3:List Jl) (a4:Int):Option (Unit×Jc×Jj×Int×Unit):=
 bif decide (a2.kind=1) then none else bif decide (a2.kind=2) then (Zez a0 a1 a2 a3 a4).bind λr1=>some ((),r1.2.1,r1.2.2.1,r1.2.2.2.1,()) else bif decide (a2.kind=3) then none else bif decide (a2.kind=4) then none else bif decide (a2.kind=5) then none else bif decide (a2.kind=6) then none else bif decide (a2.kind=7) then (Zdb a0 a1 a2 a3 a4).bind λr2=>some ((),r2.2.1,r2.2.2.1,r2.2.2.2.1,()) else bif decide (a2.kind=8) then none else bif decide (a2.kind=9) then (Zds a0 a1 a2 a3 a4).bind λr3=>some ((),r3.2.1,r3.2.2.1,r3.2.2.2.1,()) else bif decide (a2.kind=10) then none else bif decide (a2.kind=11) then none else bif decide (a2.kind=12) then none else bif decide (a2.kind=13) then none else bif decide (a2.kind=14) then none else bif !a0.on then some ((),a0,{err:=17},a4,()) else some ((),a0,{err:=3},a4,())
def c154:=cf c153 92 [qas,qc,qa3,qw,qc] [qo,qac,qa] (u5 Zgb)
theorem o154:EO c154:=sz o153 Tryz.func92
def Zbv (a0:List UInt8):Option (Unit×Jt×Int×Unit):=
 bif !(decide ((a0.length:Int)=9)) then some ((),{},2,()) else (getI a0 (0:Int)).bind λx1=>(Zee (x1.toBitVec.toNat:Int)).bind λr2=>bif !r2.2.1 then some ((),{},2,()) else (getI a0 (0:Int)).bind λx3=>bif decide (1<=(a0.length:Int)) then (Zge (Ql 1 a0)).bind λr4=>some ((),⟨(x3.toBitVec.toNat:Int),r4.2.1⟩,0,()) else none
def c155:=ct c154 219 [qg] [qba,qa] (u1 Zbv)
theorem o155:EO c155:=sz o154 Tryz.func219
def Zas (a0:List UInt8):Option (Unit×Js×Int×Unit):=
 (bif !(decide ((a0.length:Int)=11)) then bif !(decide ((a0.length:Int)=204)) then (some ((),({}:Js),(2:Int),())).bind λq=>some (Qd q) else some (Qe (a0,(({}:Js),()),())) else some (Qe (a0,(({}:Js),()),()))).bind (Qh (λj1=>bif decide (8<=(j1.1.length:Int)) then (Zge (Qk 8 j1.1)).bind λr2=>(getI j1.1 (8:Int)).bind λx3=>(getI j1.1 (9:Int)).bind λx4=>(getI j1.1 (10:Int)).bind λx5=>(bif decide (11 < (j1.1.length:Int)) then bif decide (195<=(j1.1.length:Int)) then (Zbv (Ql 195 j1.1)).bind λr6=>bif !(decide (r6.2.2.1=0)) then (some ((),({}:Js),(2:Int),())).bind λq=>some (Qd q) else bif decide (19<=(j1.1.length:Int)) then (Zge (Ql 11 (Qk 19 j1.1))).bind λr7=>bif decide (195<=(j1.1.length:Int)) then bif small (Ql 19 (Qk 195 j1.1)).length 1 then some (Qe (j1.1,(j1.2.1.1,()),(r2.2.1,(x3.toBitVec.toNat:Int),(x4.toBitVec.toNat:Int),(x5.toBitVec.toNat:Int),r7.2.1,Ql 19 (Qk 195 j1.1),r6.2.1,()),())) else none else none else none else none else some (Qe (j1.1,(j1.2.1.1,()),(r2.2.1,(x3.toBitVec.toNat:Int),(x4.toBitVec.toNat:Int),(x5.toBitVec.toNat:Int),0#64,[],({}:Jt),()),()))).bind (Qh (λj8=>(Zah ⟨j8.2.2.1.1,j8.2.2.1.2.1,j8.2.2.1.2.2.1,j8.2.2.1.2.2.2.1,j8.2.2.1.2.2.2.2.1,j8.2.2.1.2.2.2.2.2.1,j8.2.2.1.2.2.2.2.2.2.1⟩).bind λr9=>bif !(decide (r9.2.1=0)) then some ((),{},2,()) else let v10:=Qa .i64 ((Qb (Qc .i64) j8.2.2.1.2.1&&&Qb (Qc .i64) 64).toNat:Int);bif !(decide (11 < (j8.1.length:Int))==(!(decide (v10=0)))) then some ((),{},2,()) else some ((),⟨j8.2.2.1.1,j8.2.2.1.2.1,j8.2.2.1.2.2.1,j8.2.2.1.2.2.2.1,j8.2.2.1.2.2.2.2.1,j8.2.2.1.2.2.2.2.2.1,j8.2.2.1.2.2.2.2.2.2.1⟩,0,())) some) else none) some)
def c156:=cf c155 145 [qg] [qbb,qa] (u1 Zas)
theorem o156:EO c156:=sx o155 (lcA [] [(3,[(0,qg),(2,(.ptr [qbb]))],false),(9,[(0,qg),(2,(.ptr [qbb])),(4,(.ptr [qp,qa,qa,qa,qp,qj,qba]))],false)] [3,8]) Tryz.func145 dn
def Zeo (a0:Ji) (a1:Jj):Option (Unit×Ji×Unit):=
 (Zas a1.jad).bind λr1=>(bif decide (r1.2.2.1=0) then bif decide (0 < (r1.2.1.iD.length:Int)) then bif small a0.iDs.length 24 then bif small (a0.iDs.length+([r1.2.1.iD]).length) 24 then let v2:=a0.iDs++[r1.2.1.iD];some ((({a0 with iDs:=v2}:Ji),()),(a1,()),(({}:Ji),()),()) else none else none else some ((a0,()),(a1,()),(({}:Ji),()),()) else some ((a0,()),(a1,()),(({}:Ji),()),())).bind λj3=>bif decide (0 < (j3.2.1.1.iD.length:Int)) then bif decide ((j3.2.1.1.jad.length:Int)=0) then bif small j3.1.1.iDs.length 24 then bif small (j3.1.1.iDs.length+([j3.2.1.1.iD]).length) 24 then let v4:=j3.1.1.iDs++[j3.2.1.1.iD];some ((),⟨j3.1.1.jf,v4⟩,()) else none else none else some ((),j3.1.1,()) else some ((),j3.1.1,())
def c157:=cf c156 93 [(.f qx),(.f qac)] [qx] (u2 Zeo)
theorem o157:EO c157:=sx o156 (lcA [] [(4,[(2,qau),(3,qh),(4,qau)],true)] [3,5]) Tryz.func93 dn
def Zhp (a0:Ji) (a1:Jz):Option (Unit×Ji×Jj×Unit):=
 bif a1.jbg then (Zfz a0.jf).bind λr1=>(Zex r1.2.1 a1.now a1.jz).bind λr2=>some ((),⟨r2.2.1,a0.iDs⟩,{err:=r2.2.2.2.1},()) else (Zgb a0.jf a1.now a1.jh a1.jbd a1.jz).bind λr3=>(Zeo ⟨r3.2.1,a0.iDs⟩ r3.2.2.1).bind λr4=>some ((),r4.2.1,r3.2.2.1,())
def c158:=cf c157 46 [(.f qx),(.f (.v (.agg 17)))] [qx,qac] (u2 Zhp)
theorem o158:EO c158:=sx o157 (lcA [] [] [2,7]) Tryz.func46 dn
def Zdl (a0:Ji) (a1:Int):Option (Unit×Ji×Unit):=
 (Zhb a0.jf).bind λr1=>(Zha 0).bind λr2=>(Zcb r2.2.1).bind λr3=>(Zbs r1.2.1 3#64 r3.2.1).bind λr4=>(Zbj 4711#64).bind λr5=>(Zhp a0 ⟨false,a0.jf.now,{kind:=9,jv:=r5.2.1,proof:=r4.2.1,jb:=a1},[],-1⟩).bind λr6=>some ((),r6.2.1,())
def c159:=cf c158 47 [(.f qx),qc] [qx] (u2 Zdl)
theorem o159:EO c159:=sz o158 Tryz.func47
def Zhr (a0:Int):Option (Unit×List UInt8×Unit):=
 let v1:List (List UInt8):=[[97,46,101,120,97,109,112,108,101],[98,46,101,120,97,109,112,108,101],[115,104,111,112,46,116,101,115,116]];let v2:=Qa .i64 ((Qb (Qc .i64) a0&&&Qb (Qc .i64) 65535).toNat:Int);bif decide (0<=Qf v2 3)&&decide (Qf v2 3 < 3) then v1[(Qf v2 3).toNat]?.bind λx3=>some ((),x3,()) else none
def c160:=ct c159 48 [qc] [qq] (u1 Zhr)
theorem o160:EO c160:=sz o159 Tryz.func48
def Zfs (a0:Int):Option (Unit×List UInt8×Unit):=
 let v1:List (List UInt8):=[[117,49],[117,50],[0,255]];let v2:=Qa .i64 ((Qb (Qc .i64) a0&&&Qb (Qc .i64) 65535).toNat:Int);bif decide (0<=Qf v2 3)&&decide (Qf v2 3 < 3) then v1[(Qf v2 3).toNat]?.bind λx3=>some ((),x3,()) else none
def c161:=ct c160 49 [qc] [qq] (u1 Zfs)
theorem o161:EO c161:=sz o160 Tryz.func49
def Zft (a0:Int):Option (Unit×BitVec 64×Unit):=
 (passkeyref1_Words [Qb 64 a0]).bind λr1=>(Zgc 99 r1.2.1).bind λr2=>some ((),r2.2.1,())
def c162:=ct c161 50 [qc] [qp] (u1 Zft)
theorem o162:EO c162:=sz o161 Tryz.func50
def Zbp (a0:Jc) (a1:Jb):Option (Unit×Jb×Unit):=
 (Zcu a1).bind λr1=>(Zbf a0.jt.value r1.2.1).bind λr2=>some ((),{a1 with auth:=r2.2.1,jk:=true},())
def c163:=cf c162 51 [qas,qa3] [qi] (u2 Zbp)
theorem o163:EO c163:=sz o162 Tryz.func51
abbrev Y_Zfq_L0:=(Int×(Ji×Unit)×(Ji×Unit)×Int×Unit)
abbrev Z_Zfq_L0:=((Ji×Unit)×(Ji×Unit)×Unit)
def Zfq_L0b (y0:Int) (y1 y2:Ji×Unit) (y3:Int):Option (Y_Zfq_L0⊕Z_Zfq_L0):=
 bif decide (y3 < 3) then (Zdl y2.1 1).bind λr7=>let v8:=Qj y0 (2 ^ min (Qb 64 (Qa .i64 (2*y3))).toNat (Qc .i64));let v9:=Qa .i64 ((Qb (Qc .i64) v8&&&Qb (Qc .i64) 3).toNat:Int);(Zhr (Qa .i64 (Int.tdiv v9 3))).bind λr10=>(Zfs y3).bind λr11=>(Zft y3).bind λr12=>let v13:=Qj y0 (2 ^ min (Qb 64 (Qa .i64 (6+y3))).toNat (Qc .i64));let v14:=Qa .i64 ((Qb (Qc .i64) v13&&&Qb (Qc .i64) 1).toNat:Int);let v15:=Qj y0 (2 ^ min (Qb 64 (Qa .i64 (9+y3))).toNat (Qc .i64));let v16:=Qa .i64 ((Qb (Qc .i64) v15&&&Qb (Qc .i64) 1).toNat:Int);(Zbp r7.2.1.jf ⟨2,r10.2.1,r11.2.1,[],r12.2.1,Qa .i64 (1+v14),Qa .i64 (1+v16),[],decide (y3 < 2),false,false,decide (y3=0),0,0#64,false,0#64,[],[],0,[],0⟩).bind λr17=>let v18:List Jl:=[⟨Qa .i64 (r7.2.1.jf.now+1),1⟩];(Zhp r7.2.1 ⟨false,r7.2.1.jf.now,r17.2.1,v18,-1⟩).bind λr19=>some (Qe (y0,(y1.1,()),(r19.2.1,()),Qa .i64 (y3+1),())) else some (Qd ((y1.1,()),(y2.1,()),()))
def Zfq_L0 (y:Y_Zfq_L0):Option Z_Zfq_L0:=
 iter (λ(y:Y_Zfq_L0)=>Zfq_L0b y.1 y.2.1 y.2.2.1 y.2.2.2.1) rounds y
def Zfq (a0 a1:Int):Option (Unit×Ji×Unit):=
 (Zeq a0).bind λr1=>(Zhb r1.2.1.jf).bind λr2=>(Zbj 4711#64).bind λr3=>(Zha 0).bind λr4=>(Zcd r2.2.1 1#64 r4.2.1).bind λr5=>(Zhp r1.2.1 ⟨false,r1.2.1.jf.now,{kind:=7,jv:=r3.2.1,box:=r5.2.1},[],-1⟩).bind λr6=>(Zfq_L0 (a1,({},()),(r6.2.1,()),0,())).bind λz20=>(Zdl z20.2.1.1 7).bind λr21=>some ((),r21.2.1,())
def c164:=cf c163 17 [qc,qc] [qx] (u2 Zfq)
def s_Zfq_L0:LSpec T:=⟨[(1,qc),(4,qau),(5,qau),(10,qc)],[(.exit 0,[(4,qau),(5,qau)])],Zfq_L0,[]⟩
def A_Zfq:Loc2 T:=lcA [(0,s_Zfq_L0)] [] [11]
theorem Vs0:LO c164 Tryz.f17 0 s_Zfq_L0:=lx o163 A_Zfq dn (λ_=>rfl)
theorem o164:EO c164:=sx o163 A_Zfq Tryz.func17 (dc rfl Vs0 dn)
def Zfr (a0:Int):Option (Unit×List UInt8×Unit):=
 let v1:List (List UInt8):=[[],[97],[98],[108,111,103,105,110],[107,101,121],[101,120,97,109,112,108,101,46,111,114,103],[195,169],[48,49,50,51,52,53,54,55,56,57,48,49,50,51,52,53]];let v2:=Qa .i64 ((Qb (Qc .i64) a0&&&Qb (Qc .i64) 7).toNat:Int);bif decide (0<=v2)&&decide (v2 < 8) then v1[v2.toNat]?.bind λx3=>let v4:=Qa .i64 ((Qb (Qc .i64) (Qj a0 (2 ^ min 3 (Qc .i64)))&&&Qb (Qc .i64) 7).toNat:Int);bif decide (0<=v4)&&decide (v4 < 8) then v1[v4.toNat]?.bind λx5=>bif Nat.ble (x3.length+x5.length) 9223372036854775807 then some ((),x3++x5,()) else none else none else none
def c165:=ct c164 54 [qc] [qq] (u1 Zfr)
theorem o165:EO c165:=sz o164 Tryz.func54
def Zhq (a0:Int):Option (Unit×List UInt8×Unit):=
 let v1:=Qa .i64 ((Qb (Qc .i64) a0&&&Qb (Qc .i64) 7).toNat:Int);(Zed (Qb 64 v1+1#64) 5#64 176).bind λr2=>some ((),r2.2.1,())
def c166:=cf c165 96 [qc] [qj] (u1 Zhq)
theorem o166:EO c166:=sz o165 Tryz.func96
def Zcq (a0:Ji) (a1:Int):Option (Unit×List UInt8×Unit):=
 bif decide ((a0.iDs.length:Int)=0) then (Zhq a1).bind λr1=>some ((),r1.2.1,()) else let v2:=Qa .i64 ((Qb (Qc .i64) a1&&&Qb (Qc .i64) 15).toNat:Int);bif decide (v2=15) then (Zhq a1).bind λr3=>some ((),r3.2.1,()) else let v4:=Qa .i64 ((Qb (Qc .i64) a1&&&Qb (Qc .i64) 15).toNat:Int);bif decide ((a0.iDs.length:Int)=0) then none else (getI a0.iDs (Qf v4 (a0.iDs.length:Int))).bind λx5=>some ((),x5,())
def c167:=cf c166 55 [(.f qx),qc] [qaz] (u2 Zcq)
theorem o167:EO c167:=sz o166 Tryz.func55
def Zbe (a0:Int):Option (Unit×Jg×Unit):=
 (Zhr a0).bind λr1=>(Zfs (Qj a0 (2 ^ min 2 (Qc .i64)))).bind λr2=>(Zfr (Qj a0 (2 ^ min 4 (Qc .i64)))).bind λr3=>let v4:=Qa .i64 ((Qb (Qc .i64) (Qj a0 (2 ^ min 3 (Qc .i64)))&&&Qb (Qc .i64) 1).toNat:Int);let v5:=Qf (Qj a0 (2 ^ min 5 (Qc .i64))) 3;let v6:=Qa .i64 ((Qb (Qc .i64) (Qj a0 (2 ^ min 7 (Qc .i64)))&&&Qb (Qc .i64) 1).toNat:Int);bif decide (v6=1) then let v7:=Qa .i64 ((Qb (Qc .i64) (Qj a0 (2 ^ min 8 (Qc .i64)))&&&Qb (Qc .i64) 1).toNat:Int);bif decide (v7=1) then let v8:=Qa .i64 ((Qb (Qc .i64) (Qj a0 (2 ^ min 9 (Qc .i64)))&&&Qb (Qc .i64) 1).toNat:Int);some ((),⟨r1.2.1,r2.2.1,r3.2.1,Qb 64 a0*11400714819323198485#64,Qa .i64 (1+v4),decide (v6=1),Qa .i64 (1+v5),decide (v7=1),decide (v8=1)⟩,()) else some ((),⟨r1.2.1,r2.2.1,r3.2.1,Qb 64 a0*11400714819323198485#64,Qa .i64 (1+v4),decide (v6=1),Qa .i64 (1+v5),decide (v7=1),false⟩,()) else some ((),⟨r1.2.1,r2.2.1,r3.2.1,Qb 64 a0*11400714819323198485#64,Qa .i64 (1+v4),decide (v6=1),Qa .i64 (1+v5),false,false⟩,())
def c168:=ct c167 56 [qc] [qaj] (u1 Zbe)
theorem o168:EO c168:=sz o167 Tryz.func56
def Zao (a0:Jg) (a1 a2:Int):Option (Unit×List UInt8×Int×Unit):=
 (Zad a0).bind λr1=>bif !(decide (r1.2.2.1=0)) then some ((),[],r1.2.2.1,()) else bif !a0.jaf then some ((),[],18,()) else bif decide (a1 < 0) then some ((),[],9,()) else bif decide (a2 < a1) then some ((),[],9,()) else let v2:=Qa .i64 (1*2 ^ min (Qb 64 a0.jd).toNat (Qc .i64));bif decide (v2 < a2) then some ((),[],9,()) else let v3:List UInt8:=[Qg (Qb 8 a1),Qg (Qb 8 a2)];bif small (v3.length+(r1.2.1:List UInt8).length) 1 then some ((),v3++r1.2.1,0,()) else none
def c169:=cf c168 57 [(.f qaj),qc,qc] [qj,qa] (u3 Zao)
theorem o169:EO c169:=sz o168 Tryz.func57
def Zep (a0:Jb) (a1:Int):Option (Unit×Jb×Unit):=
 let v1:=Qa .i64 ((Qb (Qc .i64) (Qj a1 (2 ^ min 5 (Qc .i64)))&&&Qb (Qc .i64) 65535).toNat:Int);let v2:=Qa .i64 ((Qb (Qc .i64) a1&&&Qb (Qc .i64) 31).toNat:Int);bif decide (v2=0) then some ((),{a0 with kind:=Qa .i64 (Qf v1 20 - 2)},()) else bif decide (v2=1) then let v3:=Qi 65 (0:UInt8);let v4:List (List UInt8):=[[],[99,46,101,120,97,109,112,108,101],[255],v3];let v5:=Qa .i64 ((Qb (Qc .i64) v1&&&Qb (Qc .i64) 3).toNat:Int);bif decide (0<=v5)&&decide (v5 < 4) then v4[v5.toNat]?.bind λx6=>some ((),{a0 with rP:=x6},()) else none else bif decide (v2=2) then let v7:List (List UInt8):=[[],[117,49],[48,49,50,51,52,53,54,55,56,57,48,49,50,51,52,53,54]];bif decide (0<=Qf v1 3)&&decide (Qf v1 3 < 3) then v7[(Qf v1 3).toNat]?.bind λx8=>some ((),{a0 with user:=x8},()) else none else bif decide (v2=3) then let v9:=Qi 33 (0:UInt8);let v10:List (List UInt8):=[[],[192],v9];bif decide (0<=Qf v1 3)&&decide (Qf v1 3 < 3) then v10[(Qf v1 3).toNat]?.bind λx11=>some ((),{a0 with name:=x11},()) else none else bif decide (v2=4) then some ((),{a0 with jd:=Qa .i64 (Qf v1 8 - 1)},()) else bif decide (v2=5) then some ((),{a0 with jg:=Qa .i64 (Qf v1 6 - 1)},()) else bif decide (v2=6) then bif small a0.list.length 24 then bif decide (0<=Qa .i64 (175+Qf v1 3))&&(decide (Qa .i64 (175+Qf v1 3)<=Qa .i64 (175+Qf v1 3))&&decide (1*Qa .i64 (175+Qf v1 3)<=281474976710656/\Qa .i64 (175+Qf v1 3)<=9223372036854775807)) then let v12:=Qi (Qa .i64 (175+Qf v1 3)).toNat (0:UInt8);bif small (a0.list.length+([v12]).length) 24 then some ((),{a0 with list:=a0.list++[v12]},()) else none else none else none else bif decide (v2=7) then bif decide (0<=Qf v1 10)&&(decide (Qf v1 10<=Qf v1 10)&&decide (24*Qf v1 10<=281474976710656/\Qf v1 10<=9223372036854775807)) then let v13:=Qi (Qf v1 10).toNat [];some ((),{a0 with list:=v13},()) else none else bif decide (v2=8) then some ((),{a0 with jl:=Qa .i64 (Qf v1 5 - 1)},()) else bif decide (v2=9) then some ((),{a0 with auth:=a0.auth+1#64},()) else bif decide (v2=10) then some ((),{a0 with jk:=!a0.jk},()) else bif decide (v2=11) then let v14:List (BitVec 64):=[0#64,1#64,2#64,2305843009213693950#64,2305843009213693949#64,2305843009213693951#64];bif decide (0<=Qf v1 6)&&decide (Qf v1 6 < 6) then v14[(Qf v1 6).toNat]?.bind λx15=>some ((),{a0 with jv:=x15},()) else none else bif decide (v2=12) then let v16:List Int:=[0,16,1024,1025];let v17:=Qa .i64 ((Qb (Qc .i64) v1&&&Qb (Qc .i64) 3).toNat:Int);bif decide (0<=v17)&&decide (v17 < 4) then v16[v17.toNat]?.bind λx18=>bif decide (0<=x18)&&(decide (x18<=x18)&&decide (1*x18<=281474976710656/\x18<=9223372036854775807)) then let v19:=Qi x18.toNat (0:UInt8);some ((),{a0 with box:=v19},()) else none else none else bif decide (v2=13) then bif small a0.proof.length 1 then bif small (a0.proof.length+([Qg (Qb 8 v1)]).length) 1 then let v20:=a0.proof++[Qg (Qb 8 v1)];some ((),{a0 with proof:=v20},()) else none else none else bif decide (v2=14) then let v21:List Int:=[0,7,8,256,-1];bif decide (0<=Qf v1 5)&&decide (Qf v1 5 < 5) then v21[(Qf v1 5).toNat]?.bind λx22=>some ((),{a0 with jb:=x22},()) else none else bif decide (v2=15) then bif decide (0<=Qa .i64 (175+Qf v1 3))&&(decide (Qa .i64 (175+Qf v1 3)<=Qa .i64 (175+Qf v1 3))&&decide (1*Qa .i64 (175+Qf v1 3)<=281474976710656/\Qa .i64 (175+Qf v1 3)<=9223372036854775807)) then let v23:=Qi (Qa .i64 (175+Qf v1 3)).toNat (0:UInt8);some ((),{a0 with iD:=v23},()) else none else bif decide (v2=16) then let v24:List Int:=[0,16,256,-1];let v25:=Qa .i64 ((Qb (Qc .i64) v1&&&Qb (Qc .i64) 3).toNat:Int);bif decide (0<=v25)&&decide (v25 < 4) then v24[v25.toNat]?.bind λx26=>some ((),{a0 with count:=x26},()) else none else bif decide (v2=17) then some ((),{a0 with jp:=!a0.jp},()) else bif decide (v2=18) then some ((),{a0 with ju:=!a0.ju},()) else bif decide (v2=19) then bif decide (0 < (a0.box.length:Int)) then bif small a0.box.length 1 then bif decide ((a0.box.length:Int)=0) then none else bif decide (0<=Qf v1 (a0.box.length:Int))&&decide (Qf v1 (a0.box.length:Int) < a0.box.length) then a0.box[(Qf v1 (a0.box.length:Int)).toNat]?.bind λx27=>let v28:=Qa .i64 ((Qb (Qc .i64) v1&&&Qb (Qc .i64) 7).toNat:Int);let v29:=Qg (Qb 8 (Qa .i64 (1+v28)));bif decide (0<=Qf v1 (a0.box.length:Int))&&decide (Qf v1 (a0.box.length:Int) < a0.box.length) then a0.box[(Qf v1 (a0.box.length:Int)).toNat]?.bind λx30=>let v31:=List.set a0.box (Qf v1 (a0.box.length:Int)).toNat (Qg (x27.toBitVec ^^^ v29.toBitVec));some ((),{a0 with box:=v31},()) else none else none else none else some ((),a0,()) else bif decide (v2=20) then some ((),{a0 with jj:=!a0.jj},()) else bif decide (v2=21) then some ((),{a0 with js:=!a0.js},()) else some ((),a0,())
def c170:=cf c169 19 [qa3,qc] [qi] (u2 Zep)
theorem o170:EO c170:=sx o169 (lcA [] [] [16]) Tryz.func19 dn
end Go.Proofs.YtancibcbaajjkaaGreatDoor

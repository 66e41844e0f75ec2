/- The functions of the program, as plain functions, and that the program computes them. Written by a program. -/
import Derived.Test.YtaddhgkhilmniaaGreatDoorFns0
import Derived.Test.YtaddhgkhilmniaaGreatDoorClF
set_option linter.unusedVariables false
set_option maxRecDepth 100000
namespace Go.Proofs.YtaddhgkhilmniaaGreatDoor
open Go Go.Abs
open Go.IntKind renaming wrap → Qa, bits → Qf
open _root_.BitVec renaming ofInt → Qb
open _root_.Sum renaming inr → Qc, inl → Qd
open _root_.List renaming take → Qg, drop → Qi
open _root_.UInt8 renaming ofBitVec → Qh
def c11:List (Ct T):=⟨186,none,S_passkeyref1_SumF,true⟩::c10
theorem o11:EnvOk Tryz.prog (mE c11):=eCons Ven o10
def c12:List (Ct T):=⟨41,none,S_passkeyref1_WordsF,false⟩::c11
theorem o12:EnvOk Tryz.prog (mE c12):=eCons Vdl o11
def Zdf_L0b (y0 y1:Int) (y2 y3:Int×List UInt8×Unit) (y4:Int):Option ((Int × Int × (Int × (List (UInt8)) × Unit) × (Int × (List (UInt8)) × Unit) × Int × Unit)⊕((Int × (List (UInt8)) × Unit) × (Int × (List (UInt8)) × Unit) × Unit)):=
 bif decide (y4 < Qa .i64 (y0*y1)) then bif small (y3.2.1.length+([255]:List UInt8).length) 1 then let v1:=y3.2.1++[255];some (Qd (y0,y1,(y2.1,y2.2.1,()),(y3.1,v1,()),Qa .i64 (y4+1),())) else none else some (Qc ((y2.1,y2.2.1,()),(y3.1,y3.2.1,()),()))
def Zdf_L0:=Yi5 Zdf_L0b
def Zdf (a0 a1:Int):O2 Js Int:=
 bif decide (a0 < 512) then some ((),{},9,()) else bif decide (8192 < a0) then some ((),{},9,()) else bif decide (a1 < 1) then some ((),{},9,()) else bif decide (8 < a1) then some ((),{},9,()) else (Zdf_L0 (a0,a1,(0,[],()),(a0,[],()),0,())).bind λz2=>ru ⟨z2.2.1.1,z2.2.1.2.1⟩ 0
def S_Zdf:FSpec T:=⟨[qb,qb],[qag,qa],λx=>Zdf x.1 x.2.1⟩
def s_Zdf_L0:LSpec T:=⟨[(0,qb),(1,qb),(4,qbf),(6,qbf),(7,qb)],[(.exit 0,[(4,qbf),(6,qbf)])],Zdf_L0,[]⟩
def A_Zdf:Loc2 T:=lcA [(0,s_Zdf_L0)] [] []
theorem Vqt:LoopOk Tryz.prog (mE c12) Tryz.f166.ntmps (kqOf S_Zdf.ps 0) (loopAt 0 (bodyOf Tryz.f166)) s_Zdf_L0:=
 lpC hmix o12 A_Zdf Vaa 0 (st:=λy=>Zdf_L0b y.1 y.2.1 y.2.2.1 y.2.2.2.1 y.2.2.2.2.1) (λ_=>rfl) (by kernel_rfl) (by kernel_rfl) λx=>by kernel_rfl
theorem Vx4:SoundT Tryz.prog cd gdn 166 S_Zdf:=
 sndC hmix o12 A_Zdf Tryz.func166 (Vah rfl Vqt Vaa) (by kernel_rfl) (by kernel_rfl) λx=>by kernel_rfl
def c13:List (Ct T):=⟨166,none,S_Zdf,false⟩::c12
theorem o13:EnvOk Tryz.prog (mE c13):=eCons Vx4 o12
def Zfx_L0b (y0 y1:Int) (y2:List UInt8) (y3:Int) (y4:Int×List UInt8×Unit) (y5:Js×Unit) (y6:Int):Option ((Int × Int × (List (UInt8)) × Int × (Int × (List (UInt8)) × Unit) × (Js × Unit) × Int × Unit)⊕(((Int × (List (UInt8)) × Unit) × Int × Int × Unit) ⊕ (Int × (Int × (List (UInt8)) × Unit) × (Js × Unit) × Unit))):=
 bif decide (y6 < y1) then bif decide (y3=0) then some (Qc (Qd ((y4.1,y4.2.1,()),0,16,()))) else bif decide ((y2.length:Int)=0) then bif decide (0<=Qa .i64 (y0+y6))&&decide (Qa .i64 (y0+y6) < y4.2.1.length) then y4.2.1[(Qa .i64 (y0+y6)).toNat]?.bind λx1=>let v2:=List.set y4.2.1 (Qa .i64 (y0+y6)).toNat (255:UInt8);bif decide (0 < y3) then some (Qd (y0,y1,y2,Qa .i64 (y3 - 1),(y4.1,v2,()),(y5.1,()),Qa .i64 (y6+1),())) else some (Qd (y0,y1,y2,y3,(y4.1,v2,()),(y5.1,()),Qa .i64 (y6+1),())) else none else bif decide (0<=Qa .i64 (y0+y6))&&decide (Qa .i64 (y0+y6) < y4.2.1.length) then y4.2.1[(Qa .i64 (y0+y6)).toNat]?.bind λx3=>(getI y2 y6).bind λx4=>bif decide (0<=Qa .i64 (y0+y6))&&decide (Qa .i64 (y0+y6) < y4.2.1.length) then y4.2.1[(Qa .i64 (y0+y6)).toNat]?.bind λx5=>let v6:=List.set y4.2.1 (Qa .i64 (y0+y6)).toNat (Qh (x3.toBitVec&&&x4.toBitVec));bif decide (0 < y3) then some (Qd (y0,y1,y2,Qa .i64 (y3 - 1),(y4.1,v6,()),(y5.1,()),Qa .i64 (y6+1),())) else some (Qd (y0,y1,y2,y3,(y4.1,v6,()),(y5.1,()),Qa .i64 (y6+1),())) else none else none else some (Qc (Qc (y3,(y4.1,y4.2.1,()),(y5.1,()),())))
def Zfx_L0:=Yi7 Zfx_L0b
def Zfx (a0:Js) (a1 a2:Int) (a3:List UInt8) (a4:Int):Option (Unit×Js×Int×Int×Unit):=
 bif small a0.bytes.length 1 then (Zfx_L0 (a1,a2,a3,a4,(a0.jc,a0.bytes,()),({},()),0,())).bind (Sum.elim (λz7=>some ((),⟨z7.1.1,z7.1.2.1⟩,z7.2.1,z7.2.2.1,())) (λz8=>some ((),⟨z8.2.1.1,z8.2.1.2.1⟩,z8.1,0,()))) else none
def S_Zfx:FSpec T:=⟨[qbs,qb,qb,qe,qb],[qag,qa,qa],λx=>Zfx x.1 x.2.1 x.2.2.1 x.2.2.2.1 x.2.2.2.2.1⟩
def s_Zfx_L0:LSpec T:=⟨[(1,qb),(2,qb),(3,qe),(4,qb),(5,qbf),(10,qb2),(13,qb)],[(.ret,[(10,qbf),(11,qb),(12,qb)]),(.exit 0,[(4,qb),(5,qbf),(10,qb2)])],Zfx_L0,[]⟩
def A_Zfx:Loc2 T:=lcA [(0,s_Zfx_L0)] [] []
theorem Vqu:LoopOk Tryz.prog (mE c13) Tryz.f435.ntmps (kqOf S_Zfx.ps 0) (loopAt 0 (bodyOf Tryz.f435)) s_Zfx_L0:=
 lpC hmix o13 A_Zfx Vaa 0 (st:=λy=>Zfx_L0b y.1 y.2.1 y.2.2.1 y.2.2.2.1 y.2.2.2.2.1 y.2.2.2.2.2.1 y.2.2.2.2.2.2.1) (λ_=>rfl) (by kernel_rfl) (by kernel_rfl) λx=>by kernel_rfl
theorem Vx5:SoundT Tryz.prog cd gdn 435 S_Zfx:=
 sndC hmix o13 A_Zfx Tryz.func435 (Vah rfl Vqu Vaa) (by kernel_rfl) (by kernel_rfl) λx=>by kernel_rfl
def c14:List (Ct T):=⟨435,none,S_Zfx,false⟩::c13
theorem o14:EnvOk Tryz.prog (mE c14):=eCons Vx5 o13
def Zan (a0:Js):O1 Int:=
 bif decide (a0.jc < 512) then rt 9 else bif decide (8192 < a0.jc) then rt 9 else bif decide ((a0.bytes.length:Int)=0) then rt 4 else bif decide (a0.jc=0) then none else bif !(decide (Int.tmod (a0.bytes.length:Int) a0.jc=0)) then rt 4 else bif decide (a0.jc=0) then none else let v1:=Qa .i64 (Int.tdiv (a0.bytes.length:Int) a0.jc);bif decide (8 < v1) then rt 4 else rt 0
def c15:=ct c14 371 [qbs] [qa] (u1 Zan)
theorem o15:EO c15:=sz o14 Tryz.func371
def Zie_L0b (y0:List UInt8) (y1:BitVec 64) (y2:Int):Option (((List (UInt8)) × (BitVec 64) × Int × Unit)⊕((BitVec 64) × Unit)):=
 bif decide (y2 < 8) then bif decide (y2 < y0.length) then (getI y0 y2).bind λx1=>some (Qd (y0,y1 <<< 8 ||| BitVec.setWidth 64 x1.toBitVec,Qa .i64 (y2+1),())) else some (Qc (y1,())) else some (Qc (y1,()))
def Zie_L0:=Yi3 Zie_L0b
def Zie (a0:List UInt8):O1 (BitVec 64):=
 (Zie_L0 (a0,0#64,0,())).bind λz2=>rt z2.1
def c16:=ct c15 52 [qe] [qu] (u1 Zie)
def s_Zie_L0:LSpec T:=⟨[(0,qe),(3,qf),(4,qb)],[(.exit 0,[(3,qf)])],Zie_L0,[]⟩
def A_Zie:Loc2 T:=lcA [(0,s_Zie_L0)] [] []
theorem Vqv:LO c16 Tryz.f52 0 s_Zie_L0:=lx o15 A_Zie dn (λ_=>rfl)
theorem o16:EO c16:=sx o15 A_Zie Tryz.func52 (dc rfl Vqv dn)
def Zib (a0:Int) (a1:List UInt8):O1 (BitVec 64):=
 (passkeyref1_SumF (Qb 64 a0) 0#64 a1).bind λr1=>rt r1.2.1
def c17:=ct c16 163 [qb,qe] [qu] (u2 Zib)
theorem o17:EO c17:=sz o16 Tryz.func163
def Zfy (a0:Int):O1 (List UInt8):=
 (passkeyref1_WordsF [Qb 64 a0]).bind λr1=>(Zib 7 r1.2.1).bind λr2=>(passkeyref1_WordsF [Qb 64 a0,r2.2.1>>>1]).bind λr3=>rt r3.2.1
def c18:=cf c17 377 [qb] [qj] (u1 Zfy)
theorem o18:EO c18:=sz o17 Tryz.func377
def Zca (a0:Js) (a1:Int):O1 Int:=
 let v1:=Qa .i64 (Qa .i64 (a1*a0.jc)+16);bif decide (0<=v1)&&decide (v1<=a0.bytes.length) then bif decide (0<=Qa .i64 (a1*a0.jc))&&decide (Qa .i64 (a1*a0.jc)<=v1.toNat) then let v2:=Qi (Qa .i64 (a1*a0.jc)).toNat (Qg v1.toNat a0.bytes);bif decide (8<=(v2.length:Int)) then (Zie (Qg 8 v2)).bind λr3=>bif decide (r3.2.1.toNat < (1#64).toNat) then rt 0 else bif decide ((1099511627776#64).toNat < r3.2.1.toNat) then rt 0 else (Zfy (Qa .i64 (r3.2.1.toNat:Int))).bind λr4=>bif !(decide (r4.2.1=v2)) then rt 0 else rt (Qa .i64 (r3.2.1.toNat:Int)) else none else none else none
def c19:=ct c18 372 [qbs,qb] [qa] (u2 Zca)
theorem o19:EO c19:=sx o18 (lcA [] [] [3]) Tryz.func372 dn
def Zjl (a0:BitVec 64) (a1:Int) (a2:List UInt8):O1 (BitVec 64):=
 (passkeyref1_SumF a0 (1#64+Qb 64 a1) a2).bind λr1=>rt r1.2.1
def c20:=ct c19 117 [qf,qb,qe] [qu] (u3 Zjl)
theorem o20:EO c20:=sz o19 Tryz.func117
def Zhd (a0:Int) (a1:List UInt8):O1 (List UInt8):=
 let v1:=Int.fdiv (a1.length:Int) (2 ^ min 8 (Qf .i64));let v2:List UInt8:=[Qh (Qb 8 v1),Qh (Qb 8 (a1.length:Int))];bif small (v2.length+(a1:List UInt8).length) 1 then (Zjl (Qb 64 a0) 7 a1).bind λr3=>(passkeyref1_WordsF [r3.2.1>>>1]).bind λr4=>bif small ((v2++a1).length+(r4.2.1:List UInt8).length) 1 then rt (v2++a1++r4.2.1) else none else none
def c21:=cf c20 381 [qb,qe] [qj] (u2 Zhd)
theorem o21:EO c21:=sz o20 Tryz.func381
def Zis_L0b (y0:Int) (y1:List UInt8) (y2:List (List UInt8)) (y3:Int):Option ((Int × (List (UInt8)) × (List (List UInt8)) × Int × Unit)⊕((List (List UInt8)) × Int × Unit)):=
 bif decide (Qa .i64 (y3+10) < y1.length) then (getI y1 y3).bind λx3=>let v4:=Qa .i64 ((x3.toBitVec.toNat:Int)*2 ^ min 8 (Qf .i64));(getI y1 (Qa .i64 (y3+1))).bind λx5=>let v6:=Qa .i64 ((Qb (Qf .i64) v4 ||| Qb (Qf .i64) (x5.toBitVec.toNat:Int)).toNat:Int);bif decide (v6 < 1) then some (Qc (y2,y3,())) else bif decide (256 < v6) then some (Qc (y2,y3,())) else let v7:=Qa .i64 (Qa .i64 (y3+10)+v6);bif decide (y1.length < v7) then some (Qc (y2,y3,())) else let v8:=Qa .i64 (Qa .i64 (y3+2)+v6);bif decide (0<=v8)&&decide (v8<=y1.length) then bif decide (0<=Qa .i64 (y3+2))&&decide (Qa .i64 (y3+2)<=v8.toNat) then let v9:=Qi (Qa .i64 (y3+2)).toNat (Qg v8.toNat y1);bif small v9.length 1 then (Zhd y0 v9).bind λr10=>let v11:=Qa .i64 (Qa .i64 (y3+10)+v6);bif decide (0<=v11)&&decide (v11<=y1.length) then bif decide (0<=y3)&&decide (y3<=v11.toNat) then bif !(decide (r10.2.1=Qi y3.toNat (Qg v11.toNat y1))) then some (Qc (y2,y3,())) else bif small (y2.length+([v9]).length) 24 then let v12:=Qa .i64 (Qa .i64 (y3+10)+v6);some (Qd (y0,y1,y2++[v9],v12,())) else none else none else none else none else none else none else some (Qc (y2,y3,()))
def Zis_L0:=Yi4 Zis_L0b
def Zis (a0:Js) (a1 a2:Int):O2 (List (List UInt8)) Int:=
 let v1:=Qa .i64 (Qa .i64 (a1+1)*a0.jc);bif decide (0<=v1)&&decide (v1<=a0.bytes.length) then bif decide (0<=Qa .i64 (a1*a0.jc))&&decide (Qa .i64 (a1*a0.jc)<=v1.toNat) then let v2:=Qi (Qa .i64 (a1*a0.jc)).toNat (Qg v1.toNat a0.bytes);(Zis_L0 (a2,v2,[],16,())).bind λz13=>ru z13.1 z13.2.1 else none else none
def c22:=cf c21 373 [qbs,qb,qb] [qbg,qa] (u3 Zis)
def s_Zis_L0:LSpec T:=⟨[(2,qb),(8,qe),(9,(.f qbg)),(10,qb)],[(.exit 0,[(9,(.f qbg)),(10,qb)])],Zis_L0,[]⟩
def A_Zis:Loc2 T:=lcA [(0,s_Zis_L0)] [] [8]
theorem Vqw:LO c22 Tryz.f373 0 s_Zis_L0:=lx o21 A_Zis dn (λ_=>rfl)
theorem o22:EO c22:=sx o21 A_Zis Tryz.func373 (dc rfl Vqw dn)
def Zhc_L0b (y0:Js×Unit) (y1:Jq×Unit) (y2:Int×List UInt8×Int×Int×Int×Bool×Unit) (y3:Int):Option (((Js × Unit) × (Jq × Unit) × (Int × (List (UInt8)) × Int × Int × Int × Bool × Unit) × Int × Unit)⊕((Jq × Unit) × (Int × (List (UInt8)) × Int × Int × Int × Bool × Unit) × Unit)):=
 bif decide (y3 < y0.1.jc) then bif y2.2.2.2.2.2.1 then some (Qd ((y0.1,()),(y1.1,()),(y2.1,y2.2.1,y2.2.2.1,y2.2.2.2.1,y2.2.2.2.2.1,true,()),Qa .i64 (y3+1),())) else let v6:=Qa .i64 (Qa .i64 (y2.2.2.1*y0.1.jc)+y3);(getI y0.1.bytes v6).bind λx7=>some (Qd ((y0.1,()),(y1.1,()),(y2.1,y2.2.1,y2.2.2.1,y2.2.2.2.1,y2.2.2.2.2.1,!(decide (x7.toBitVec=(255:UInt8).toBitVec)),()),Qa .i64 (y3+1),())) else some (Qc ((y1.1,()),y2,()))
def Zhc_L0:=Yi4 Zhc_L0b
def Zhc (a0:Js):O2 Jq Int:=
 (Zan a0).bind λr1=>bif !(decide (r1.2.1=0)) then some ((),{},r1.2.1,()) else bif decide (a0.bytes.length < Qa .i64 (2*a0.jc)) then some ((),{},4,()) else (Zca a0 0).bind λr2=>(Zca a0 1).bind λr3=>bif decide (r2.2.1=0) then bif decide (r3.2.1=0) then some ((),{},11,()) else bif small a0.bytes.length 1 then (bif decide (r2.2.1 < r3.2.1) then some ((a0,()),(({}:Jq),()),(a0.jc,a0.bytes,(1:Int),r3.2.1,(0:Int),false,()),()) else some ((a0,()),(({}:Jq),()),(a0.jc,a0.bytes,(0:Int),r2.2.1,(0:Int),false,()),())).bind λj4=>(Zis j4.1.1 j4.2.2.1.2.2.1 j4.2.2.1.2.2.2.1).bind λr5=>(Zhc_L0 ((j4.1.1,()),(j4.2.1.1,()),(j4.2.2.1.1,j4.2.2.1.2.1,j4.2.2.1.2.2.1,j4.2.2.1.2.2.2.1,r5.2.2.1,j4.2.2.1.2.2.2.2.2.1,()),r5.2.2.1,())).bind λz8=>ru ⟨⟨z8.2.1.1,z8.2.1.2.1⟩,z8.2.1.2.2.1,z8.2.1.2.2.2.1,z8.2.1.2.2.2.2.1,z8.2.1.2.2.2.2.2.1⟩ 0 else none else bif small a0.bytes.length 1 then (bif decide (r2.2.1 < r3.2.1) then some ((a0,()),(({}:Jq),()),(a0.jc,a0.bytes,(1:Int),r3.2.1,(0:Int),false,()),()) else some ((a0,()),(({}:Jq),()),(a0.jc,a0.bytes,(0:Int),r2.2.1,(0:Int),false,()),())).bind λj9=>(Zis j9.1.1 j9.2.2.1.2.2.1 j9.2.2.1.2.2.2.1).bind λr10=>(Zhc_L0 ((j9.1.1,()),(j9.2.1.1,()),(j9.2.2.1.1,j9.2.2.1.2.1,j9.2.2.1.2.2.1,j9.2.2.1.2.2.2.1,r10.2.2.1,j9.2.2.1.2.2.2.2.2.1,()),r10.2.2.1,())).bind λz11=>ru ⟨⟨z11.2.1.1,z11.2.1.2.1⟩,z11.2.1.2.2.1,z11.2.1.2.2.2.1,z11.2.1.2.2.2.2.1,z11.2.1.2.2.2.2.2.1⟩ 0 else none
def S_Zhc:FSpec T:=⟨[qbs],[qam,qa],λx=>Zhc x.1⟩
def s_Zhc_L0:LSpec T:=⟨[(1,qb2),(2,qbv),(7,qbq),(8,qb)],[(.exit 0,[(2,qbv),(7,qbq)])],Zhc_L0,[]⟩
def A_Zhc:Loc2 T:=lcA [(0,s_Zhc_L0)] [(12,[(1,qb2),(2,qbv),(7,qbq)],true)] [9]
theorem Vqx:LoopOk Tryz.prog (mE c22) Tryz.f258.ntmps (kqOf S_Zhc.ps 0) (loopAt 0 (bodyOf Tryz.f258)) s_Zhc_L0:=
 lpC hmix o22 A_Zhc Vaa 0 (st:=λy=>Zhc_L0b y.1 y.2.1 y.2.2.1 y.2.2.2.1) (λ_=>rfl) (by kernel_rfl) (by kernel_rfl) λx=>by kernel_rfl
theorem Vx6:SoundT Tryz.prog cd gdn 258 S_Zhc:=
 sndC hmix o22 A_Zhc Tryz.func258 (Vah rfl Vqx Vaa) (by kernel_rfl) (by kernel_rfl) λx=>by kernel_rfl
def c23:List (Ct T):=⟨258,none,S_Zhc,false⟩::c22
theorem o23:EnvOk Tryz.prog (mE c23):=eCons Vx6 o22
end Go.Proofs.YtaddhgkhilmniaaGreatDoor

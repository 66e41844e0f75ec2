/- The functions of the program, as plain functions, and that the program computes them. Written by a program. -/
import Derived.Test.YtancibcbaajjkaaGreatDoorFns0
set_option linter.unusedVariables false
set_option maxRecDepth 100000
namespace Go.Proofs.YtancibcbaajjkaaGreatDoor
open Go Go.Abs
open Go.IntKind renaming wrap → Qa, bits → Qc
open _root_.BitVec renaming ofInt → Qb, setWidth → Qi
open _root_.Sum renaming inr → Qd, inl → Qe, elim → Qh
open _root_.UInt8 renaming ofBitVec → Qf
open _root_.List renaming take → Qg, drop → Qj, replicate → Qm
open _root_.Int renaming fdiv → Qk, tdiv → Ql
abbrev Y_Zcn_L0:=((Jn×Unit)×Int×Int×Unit)
abbrev Z_Zcn_L0:=((Jn×Unit)×Unit)
def Zcn_L0b (y0:Jn×Unit) (y1 y2:Int):Option (Y_Zcn_L0⊕Z_Zcn_L0):=
 bif decide (y2 < y1) then (Zbd y0.1.v1 13).bind λr1=>(Zbd (y0.1.v0+y0.1.v1) 32).bind λr2=>(Zbd y0.1.v3 16).bind λr3=>(Zbd (r3.2.1 ^^^ y0.1.v2+y0.1.v3) 21).bind λr4=>(Zbd (r1.2.1 ^^^ y0.1.v0+y0.1.v1) 17).bind λr5=>let v6:=r5.2.1 ^^^ y0.1.v2+y0.1.v3+(r1.2.1 ^^^ y0.1.v0+y0.1.v1);(Zbd (y0.1.v2+y0.1.v3+(r1.2.1 ^^^ y0.1.v0+y0.1.v1)) 32).bind λr7=>some (Qe ((⟨r2.2.1+(r3.2.1 ^^^ y0.1.v2+y0.1.v3),v6,r7.2.1,r4.2.1 ^^^ r2.2.1+(r3.2.1 ^^^ y0.1.v2+y0.1.v3)⟩,()),y1,Qa .i64 (y2+1),())) else some (Qd ((y0.1,()),()))
def Zcn_L0 (y:Y_Zcn_L0):Option Z_Zcn_L0:=
 iter (λ(y:Y_Zcn_L0)=>Zcn_L0b y.1 y.2.1 y.2.2.1) rounds y
def Zcn (a0:Jn×Unit) (a1:Int):Option (((Jn×Unit)×Unit)×Unit):=
 (Zcn_L0 ((a0.1,()),a1,0,())).bind λz8=>some (((z8.1.1,()),()),())
def c73:=cf c72 102 [qao,qc] [] (u2 Zcn)
def s_Zcn_L0:LSpec T:=⟨[(0,qao),(4,qc),(5,qc)],[(.exit 0,[(0,qao)])],Zcn_L0,[]⟩
def A_Zcn:Loc2 T:=lcA [(0,s_Zcn_L0)] [] []
theorem Vsk:LO c73 Tryz.f102 0 s_Zcn_L0:=lx o72 A_Zcn dn (λ_=>rfl)
theorem o73:EO c73:=sx o72 A_Zcn Tryz.func102 (dc rfl Vsk dn)
def Zcm (a0:Jn×Unit) (a1:BitVec 64):Option (((Jn×Unit)×Unit)×Unit):=
 (Zcn ({a0.1 with v3:=a0.1.v3 ^^^ a1},()) 2).bind λr1=>some ((({r1.1.1.1 with v0:=r1.1.1.1.v0 ^^^ a1},()),()),())
def c74:=cf c73 100 [qao,qd] [] (u2 Zcm)
theorem o74:EO c74:=sz o73 Tryz.func100
abbrev Y_Zil_L0:=((List (UInt8))×(Jn×Unit)×Int×Int×Int×Unit)
abbrev Z_Zil_L0:=((List (UInt8))×(Jn×Unit)×Int×Unit)
def Zil_L0b (y0:List UInt8) (y1:Jn×Unit) (y2 y3 y4:Int):Option (Y_Zil_L0⊕Z_Zil_L0):=
 bif decide (y4 < y3) then let v1:=Qa .i64 (Qa .i64 (8*y4)+8);bif decide (0<=v1)&&decide (v1<=y0.length) then bif decide (0<=Qa .i64 (8*y4))&&decide (Qa .i64 (8*y4)<=v1.toNat) then let v2:=Qj (Qa .i64 (8*y4)).toNat (Qg v1.toNat y0);(Zhw v2).bind λr3=>(Zcm (y1.1,()) r3.2.1).bind λr4=>some (Qe (y0,(r4.1.1.1,()),y2,y3,Qa .i64 (y4+1),())) else none else none else some (Qd (y0,(y1.1,()),y2,()))
def Zil_L0 (y:Y_Zil_L0):Option Z_Zil_L0:=
 iter (λ(y:Y_Zil_L0)=>Zil_L0b y.1 y.2.1 y.2.2.1 y.2.2.2.1 y.2.2.2.2.1) rounds y
def Zil (a0 a1:BitVec 64) (a2:List UInt8):Option (Unit×BitVec 64×Unit):=
 (Zil_L0 (a2,(⟨a0 ^^^ 8317987319222330741#64,a1 ^^^ 7237128888997146477#64,a0 ^^^ 7816392313619706465#64,a1 ^^^ 8387220255154660723#64⟩,()),Qa .i64 (Ql (a2.length:Int) 8),Qa .i64 (Ql (a2.length:Int) 8),0,())).bind λz5=>bif decide (0<=Qa .i64 (8*z5.2.2.1))&&decide (Qa .i64 (8*z5.2.2.1)<=z5.1.length) then let v6:=Qj (Qa .i64 (8*z5.2.2.1)).toNat z5.1;(Zhw v6).bind λr7=>let v8:=r7.2.1 ||| Qb 64 (z5.1.length:Int) <<< 56;(Zcm (z5.2.1.1,()) v8).bind λr9=>(Zcn ({r9.1.1.1 with v2:=r9.1.1.1.v2 ^^^ 255#64},()) 4).bind λr10=>let v11:=r10.1.1.1.v0 ^^^ r10.1.1.1.v1 ^^^ r10.1.1.1.v2 ^^^ r10.1.1.1.v3;some ((),v11,()) else none
def c75:=ct c74 66 [qd,qd,qg] [qp] (u3 Zil)
def s_Zil_L0:LSpec T:=⟨[(2,qg),(7,qao),(8,qc),(22,qc),(23,qc)],[(.exit 0,[(2,qg),(7,qao),(8,qc)])],Zil_L0,[]⟩
def A_Zil:Loc2 T:=lcA [(0,s_Zil_L0)] [] []
theorem Vsl:LO c75 Tryz.f66 0 s_Zil_L0:=lx o74 A_Zil dn (λ_=>rfl)
theorem o75:EO c75:=sx o74 A_Zil Tryz.func66 (dc rfl Vsl dn)
def Zih (a0:Int) (a1:List UInt8):Option (Unit×BitVec 64×Unit):=
 (Zil (Qb 64 a0) 0#64 a1).bind λr1=>some ((),r1.2.1,())
def c76:=ct c75 24 [qc,qg] [qp] (u2 Zih)
theorem o76:EO c76:=sz o75 Tryz.func24
def Zhq (a0:Jb):Option (Unit×BitVec 64×Unit):=
 (Zfq a0).bind λr1=>bif !(decide (r1.2.1=0)) then some ((),0#64,()) else (Zbm {a0 with auth:=0#64,jk:=false}).bind λr2=>bif !(decide (r2.2.2.1=0)) then some ((),0#64,()) else (Zih 21 r2.2.1).bind λr3=>some ((),r3.2.1,())
def c77:=ct c76 10 [qay] [qp] (u1 Zhq)
theorem o77:EO c77:=sz o76 Tryz.func10
def Zgi (a0 a1:BitVec 64):Option (Unit×BitVec 64×Unit):=
 some ((),a0 <<< a1.toNat ||| a0>>>(64#64 - a1).toNat,())
def c78:=ct c77 150 [qd,qd] [qp] (u2 Zgi)
theorem o78:EO c78:=sz o77 Tryz.func150
def Zfi (a0:Jp):Option (Unit×Jp×Unit):=
 (Zgi a0.a1 13#64).bind λr1=>(Zgi (a0.a0+a0.a1) 32#64).bind λr2=>(Zgi a0.a3 16#64).bind λr3=>(Zgi (r3.2.1 ^^^ a0.a2+a0.a3) 21#64).bind λr4=>(Zgi (r1.2.1 ^^^ a0.a0+a0.a1) 17#64).bind λr5=>let v6:=r5.2.1 ^^^ a0.a2+a0.a3+(r1.2.1 ^^^ a0.a0+a0.a1);(Zgi (a0.a2+a0.a3+(r1.2.1 ^^^ a0.a0+a0.a1)) 32#64).bind λr7=>some ((),⟨r2.2.1+(r3.2.1 ^^^ a0.a2+a0.a3),v6,r7.2.1,r4.2.1 ^^^ r2.2.1+(r3.2.1 ^^^ a0.a2+a0.a3)⟩,())
def c79:=ct c78 103 [(.f (.v (.agg 17)))] [(.v (.agg 17))] (u1 Zfi)
theorem o79:EO c79:=sz o78 Tryz.func103
abbrev Y_Zhh_L2:=((List (UInt8))×(Jp×Unit)×Int×(BitVec 64)×Int×Unit)
abbrev Z_Zhh_L2:=((List (UInt8))×(Jp×Unit)×Int×(BitVec 64)×Unit)
def Zhh_L2b (y0:List UInt8) (y1:Jp×Unit) (y2:Int) (y3:BitVec 64) (y4:Int):Option (Y_Zhh_L2⊕Z_Zhh_L2):=
 bif decide (0<=y4) then bif decide (Qa .i64 (y2+y4) < y0.length) then (getI y0 (Qa .i64 (y2+y4))).bind λx1=>some (Qe (y0,(y1.1,()),y2,y3 <<< 8 ||| Qi 64 x1.toBitVec,Qa .i64 (y4 - 1),())) else bif decide (y4=7) then let v2:=Qi 64 (Qf (Qb 8 (y0.length:Int))).toBitVec;some (Qe (y0,(y1.1,()),y2,y3 <<< 8 ||| v2,Qa .i64 (y4 - 1),())) else some (Qe (y0,(y1.1,()),y2,y3 <<< 8 ||| Qi 64 (0:UInt8).toBitVec,Qa .i64 (y4 - 1),())) else some (Qd (y0,(y1.1,()),y2,y3,()))
def Zhh_L2 (y:Y_Zhh_L2):Option Z_Zhh_L2:=
 iter (λ(y:Y_Zhh_L2)=>Zhh_L2b y.1 y.2.1 y.2.2.1 y.2.2.2.1 y.2.2.2.2.1) rounds y
abbrev Y_Zhh_L0:=((List (UInt8))×(Jp×Unit)×Int×Unit)
abbrev Z_Zhh_L0:=((Jp×Unit)×Unit)
def Zhh_L0b (y0:List UInt8) (y1:Jp×Unit) (y2:Int):Option (Y_Zhh_L0⊕Z_Zhh_L0):=
 bif decide (y2<=y0.length) then (Zhh_L2 (y0,(y1.1,()),y2,0#64,7,())).bind λz1=>(Zfi {z1.2.1.1 with a3:=z1.2.1.1.a3 ^^^ z1.2.2.2.1}).bind λr2=>(Zfi r2.2.1).bind λr3=>some (Qe (z1.1,({r3.2.1 with a0:=r3.2.1.a0 ^^^ z1.2.2.2.1},()),Qa .i64 (z1.2.2.1+8),())) else some (Qd ((y1.1,()),()))
def Zhh_L0 (y:Y_Zhh_L0):Option Z_Zhh_L0:=
 iter (λ(y:Y_Zhh_L0)=>Zhh_L0b y.1 y.2.1 y.2.2.1) rounds y
def Zhh (a0 a1:BitVec 64) (a2:List UInt8):Option (Unit×BitVec 64×Unit):=
 (Zhh_L0 (a2,(⟨a0 ^^^ 8317987319222330741#64,a1 ^^^ 7237128888997146477#64,a0 ^^^ 7816392313619706465#64,a1 ^^^ 8387220255154660723#64⟩,()),0,())).bind λz4=>(Zfi {z4.1.1 with a2:=z4.1.1.a2 ^^^ 255#64}).bind λr5=>(Zfi r5.2.1).bind λr6=>(Zfi r6.2.1).bind λr7=>(Zfi r7.2.1).bind λr8=>some ((),r8.2.1.a0 ^^^ r8.2.1.a1 ^^^ r8.2.1.a2 ^^^ r8.2.1.a3,())
def c80:=ct c79 67 [qd,qd,qg] [qp] (u3 Zhh)
def s_Zhh_L2:LSpec T:=⟨[(2,qg),(7,qa2),(8,qc),(9,qd),(10,qc)],[(.exit 2,[(2,qg),(7,qa2),(8,qc),(9,qd)])],Zhh_L2,[]⟩
def s_Zhh_L0:LSpec T:=⟨[(2,qg),(7,qa2),(8,qc)],[(.exit 0,[(7,qa2)])],Zhh_L0,[]⟩
def A_Zhh:Loc2 T:=lcA [(2,s_Zhh_L2),(0,s_Zhh_L0)] [] []
theorem Vlp:LO c80 Tryz.f67 2 s_Zhh_L2:=lx o79 A_Zhh dn (λ_=>rfl)
theorem Vsm:LO c80 Tryz.f67 0 s_Zhh_L0:=lx o79 A_Zhh (dc rfl Vlp dn) (λ_=>rfl)
theorem o80:EO c80:=sx o79 A_Zhh Tryz.func67 (dc rfl Vlp (dc rfl Vsm dn))
def Zge (a0:Int) (a1:List UInt8):Option (Unit×BitVec 64×Unit):=
 (Zhh (Qb 64 a0) 0#64 a1).bind λr1=>some ((),r1.2.1,())
def c81:=ct c80 25 [qc,qg] [qp] (u2 Zge)
theorem o81:EO c81:=sz o80 Tryz.func25
def Zcv (a0:Jb):Option (Unit×BitVec 64×Unit):=
 (Zbu a0).bind λr1=>bif !(decide (r1.2.1=0)) then some ((),0#64,()) else (Zag {a0 with auth:=0#64,jk:=false}).bind λr2=>(Zge 21 r2.2.1).bind λr3=>some ((),r3.2.1,())
def c82:=ct c81 11 [qay] [qp] (u1 Zcv)
theorem o82:EO c82:=sz o81 Tryz.func11
def Zbq (a0:Jb):Option (Unit×Bool×Unit):=
 (Zbm a0).bind λr1=>(Zag a0).bind λr2=>(Zfq a0).bind λr3=>(Zbu a0).bind λr4=>bif decide (r3.2.1=r4.2.1) then bif decide (r1.2.2.1=r2.2.2.1) then bif decide (r1.2.1=r2.2.1) then (Zhq a0).bind λr5=>(Zcv a0).bind λr6=>some ((),decide (r5.2.1=r6.2.1),()) else some ((),false,()) else some ((),false,()) else some ((),false,())
def c83:=ct c82 7 [qay] [qf] (u1 Zbq)
theorem o83:EO c83:=sz o82 Tryz.func7
def Zcq (a0:Int):Option (Unit×Jv×Unit):=
 let v1:=Qa .i64 ((Qb (Qc .i64) a0&&&Qb (Qc .i64) 3).toNat:Int);let v2:=Qa .i64 ((Qb (Qc .i64) (Qk a0 (2 ^ min 2 (Qc .i64)))&&&Qb (Qc .i64) 255).toNat:Int);let v3:List Int:=[2048,1024,512,640];let v4:=Qa .i64 ((Qb (Qc .i64) (Qk a0 (2 ^ min 4 (Qc .i64)))&&&Qb (Qc .i64) 3).toNat:Int);bif decide (0<=v4)&&decide (v4 < 4) then v3[v4.toNat]?.bind λx5=>let v6:=Qa .i64 ((Qb (Qc .i64) (Qk a0 (2 ^ min 6 (Qc .i64)))&&&Qb (Qc .i64) 1).toNat:Int);let v7:=Qa .i64 ((Qb (Qc .i64) (Qk a0 (2 ^ min 7 (Qc .i64)))&&&Qb (Qc .i64) 1).toNat:Int);let v8:=Qa .i64 ((Qb (Qc .i64) (Qk a0 (2 ^ min 8 (Qc .i64)))&&&Qb (Qc .i64) 1).toNat:Int);let v9:List UInt8:=[111,110,101];let v10:List UInt8:=[116,119,111];let v11:=Qa .i64 ((Qb (Qc .i64) (Qk a0 (2 ^ min 9 (Qc .i64)))&&&Qb (Qc .i64) 1).toNat:Int);bif decide (0<=Qa .i64 (1+v11))&&decide (Qa .i64 (1+v11)<=2) then bif decide ((Qa .i64 (1+v11)).toNat<=([v9,v10]).length) then some ((),⟨Qb 64 v1,Qb 64 v2+1#64,x5,decide (v6=1),77#64,2,v7,Qa .i64 (2+v8),Qg (Qa .i64 (1+v11)).toNat [v9,v10]⟩,()) else none else none else none
def c84:=cf c83 86 [qc] [qbg] (u1 Zcq)
theorem o84:EO c84:=sz o83 Tryz.func86
abbrev Y_Zck_L0:=(Int×Int×(Int×(List (UInt8))×Unit)×(Int×(List (UInt8))×Unit)×Int×Unit)
abbrev Z_Zck_L0:=((Int×(List (UInt8))×Unit)×(Int×(List (UInt8))×Unit)×Unit)
def Zck_L0b (y0 y1:Int) (y2 y3:Int×List UInt8×Unit) (y4:Int):Option (Y_Zck_L0⊕Z_Zck_L0):=
 bif decide (y4 < Qa .i64 (y0*y1)) then bif small (y3.2.1.length+([255]:List UInt8).length) 1 then let v1:=y3.2.1++[255];some (Qe (y0,y1,(y2.1,y2.2.1,()),(y3.1,v1,()),Qa .i64 (y4+1),())) else none else some (Qd ((y2.1,y2.2.1,()),(y3.1,y3.2.1,()),()))
def Zck_L0 (y:Y_Zck_L0):Option Z_Zck_L0:=
 iter (λ(y:Y_Zck_L0)=>Zck_L0b y.1 y.2.1 y.2.2.1 y.2.2.2.1 y.2.2.2.2.1) rounds y
def Zck (a0 a1:Int):Option (Unit×Jk×Int×Unit):=
 bif decide (a0 < 512) then some ((),{},9,()) else bif decide (8192 < a0) then some ((),{},9,()) else bif decide (a1 < 1) then some ((),{},9,()) else bif decide (8 < a1) then some ((),{},9,()) else (Zck_L0 (a0,a1,(0,[],()),(a0,[],()),0,())).bind λz2=>some ((),⟨z2.2.1.1,z2.2.1.2.1⟩,0,())
def c85:=cf c84 120 [qc,qc] [qt,qa] (u2 Zck)
def s_Zck_L0:LSpec T:=⟨[(0,qc),(1,qc),(4,qau),(6,qau),(7,qc)],[(.exit 0,[(4,qau),(6,qau)])],Zck_L0,[]⟩
def A_Zck:Loc2 T:=lcA [(0,s_Zck_L0)] [] []
theorem Vsn:LO c85 Tryz.f120 0 s_Zck_L0:=lx o84 A_Zck dn (λ_=>rfl)
theorem o85:EO c85:=sx o84 A_Zck Tryz.func120 (dc rfl Vsn dn)
abbrev Y_Zga_L0:=((Jv×Unit)×(Jc×Unit)×Int×Unit)
abbrev Z_Zga_L0:=(((Jc×Unit)×Int×Unit)⊕((Jv×Unit)×(Jc×Unit)×Unit))
def Zga_L0b (y0:Jv×Unit) (y1:Jc×Unit) (y2:Int):Option (Y_Zga_L0⊕Z_Zga_L0):=
 bif decide (y2 < y0.1.jp.length) then (getI y0.1.jp y2).bind λx2=>bif decide (512 < (x2.length:Int)) then some (Qd (Qe (({},()),8,()))) else some (Qe ((y0.1,()),(y1.1,()),Qa .i64 (y2+1),())) else some (Qd (Qd ((y0.1,()),(y1.1,()),())))
def Zga_L0 (y:Y_Zga_L0):Option Z_Zga_L0:=
 iter (λ(y:Y_Zga_L0)=>Zga_L0b y.1 y.2.1 y.2.2.1) rounds y
def Zga (a0:Jv):Option (Unit×Jc×Int×Unit):=
 bif decide (a0.ja < 512) then some ((),{},9,()) else bif decide (8192 < a0.ja) then some ((),{},9,()) else bif decide (a0.jaf < 0) then some ((),{},9,()) else bif decide (4 < a0.jaf) then some ((),{},9,()) else bif decide (a0.jai < 0) then some ((),{},9,()) else bif decide (a0.jas < a0.jai) then some ((),{},9,()) else let v1:=Qa .i64 (1*2 ^ min (Qb 64 a0.jaf).toNat (Qc .i64));bif decide (v1 < a0.jas) then some ((),{},9,()) else bif decide (3 < (a0.jp.length:Int)) then some ((),{},8,()) else (Zga_L0 ((a0,()),({},()),0,())).bind (Qh (λz3=>some ((),z3.1.1,z3.2.1,())) (λz4=>(Zck z4.1.1.ja 2).bind λr5=>some ((),{jl:=z4.1.1,jm:=⟨{jd:=r5.2.1},[]⟩},0,())))
def c86:=cf c85 85 [(.f qbg)] [qm,qa] (u1 Zga)
def s_Zga_L0:LSpec T:=⟨[(1,(.ptr [qbg])),(2,qe),(4,qc)],[(.ret,[(2,qe),(3,qc)]),(.exit 0,[(1,(.ptr [qbg])),(2,qe)])],Zga_L0,[]⟩
def A_Zga:Loc2 T:=lcA [(0,s_Zga_L0)] [] []
theorem Vso:LO c86 Tryz.f85 0 s_Zga_L0:=lx o85 A_Zga dn (λ_=>rfl)
theorem o86:EO c86:=sx o85 A_Zga Tryz.func85 (dc rfl Vso dn)
def Zaj (a0:Jk):Option (Unit×Int×Unit):=
 bif decide (a0.ja < 512) then some ((),9,()) else bif decide (8192 < a0.ja) then some ((),9,()) else bif decide ((a0.bytes.length:Int)=0) then some ((),4,()) else bif decide (a0.ja=0) then none else bif !(decide (Int.tmod (a0.bytes.length:Int) a0.ja=0)) then some ((),4,()) else bif decide (a0.ja=0) then none else let v1:=Qa .i64 (Ql (a0.bytes.length:Int) a0.ja);bif decide (8 < v1) then some ((),4,()) else some ((),0,())
def c87:=ct c86 234 [qa5] [qa] (u1 Zaj)
theorem o87:EO c87:=sz o86 Tryz.func234
abbrev Y_Zgg_L0:=((List (UInt8))×(BitVec 64)×Int×Unit)
abbrev Z_Zgg_L0:=((BitVec 64)×Unit)
def Zgg_L0b (y0:List UInt8) (y1:BitVec 64) (y2:Int):Option (Y_Zgg_L0⊕Z_Zgg_L0):=
 bif decide (y2 < 8) then bif decide (y2 < y0.length) then (getI y0 y2).bind λx1=>some (Qe (y0,y1 <<< 8 ||| Qi 64 x1.toBitVec,Qa .i64 (y2+1),())) else some (Qd (y1,())) else some (Qd (y1,()))
def Zgg_L0 (y:Y_Zgg_L0):Option Z_Zgg_L0:=
 iter (λ(y:Y_Zgg_L0)=>Zgg_L0b y.1 y.2.1 y.2.2.1) rounds y
def Zgg (a0:List UInt8):Option (Unit×BitVec 64×Unit):=
 (Zgg_L0 (a0,0#64,0,())).bind λz2=>some ((),z2.1,())
def c88:=ct c87 218 [qg] [qp] (u1 Zgg)
def s_Zgg_L0:LSpec T:=⟨[(0,qg),(3,qd),(4,qc)],[(.exit 0,[(3,qd)])],Zgg_L0,[]⟩
def A_Zgg:Loc2 T:=lcA [(0,s_Zgg_L0)] [] []
theorem Vsp:LO c88 Tryz.f218 0 s_Zgg_L0:=lx o87 A_Zgg dn (λ_=>rfl)
theorem o88:EO c88:=sx o87 A_Zgg Tryz.func218 (dc rfl Vsp dn)
def Zen (a0:Int):Option (Unit×List UInt8×Unit):=
 (passkeyref1_Words [Qb 64 a0]).bind λr1=>(Zge 7 r1.2.1).bind λr2=>(passkeyref1_Words [Qb 64 a0,r2.2.1>>>1]).bind λr3=>some ((),r3.2.1,())
def c89:=cf c88 240 [qc] [qj] (u1 Zen)
theorem o89:EO c89:=sz o88 Tryz.func240
def Zbk (a0:Jk) (a1:Int):Option (Unit×Int×Unit):=
 let v1:=Qa .i64 (Qa .i64 (a1*a0.ja)+16);bif decide (0<=v1)&&decide (v1<=a0.bytes.length) then bif decide (0<=Qa .i64 (a1*a0.ja))&&decide (Qa .i64 (a1*a0.ja)<=v1.toNat) then let v2:=Qj (Qa .i64 (a1*a0.ja)).toNat (Qg v1.toNat a0.bytes);bif decide (8<=(v2.length:Int)) then (Zgg (Qg 8 v2)).bind λr3=>bif decide (r3.2.1.toNat < (1#64).toNat) then some ((),0,()) else bif decide ((1099511627776#64).toNat < r3.2.1.toNat) then some ((),0,()) else (Zen (Qa .i64 (r3.2.1.toNat:Int))).bind λr4=>bif !(decide (r4.2.1=v2)) then some ((),0,()) else some ((),Qa .i64 (r3.2.1.toNat:Int),()) else none else none else none
def c90:=ct c89 235 [qa5,qc] [qa] (u2 Zbk)
theorem o90:EO c90:=sx o89 (lcA [] [] [3]) Tryz.func235 dn
def Zhg (a0:BitVec 64) (a1:Int) (a2:List UInt8):Option (Unit×BitVec 64×Unit):=
 (Zhh a0 (1#64+Qb 64 a1) a2).bind λr1=>some ((),r1.2.1,())
def c91:=ct c90 146 [qd,qc,qg] [qp] (u3 Zhg)
theorem o91:EO c91:=sz o90 Tryz.func146
def Zfm (a0:Int) (a1:List UInt8):Option (Unit×List UInt8×Unit):=
 let v1:=Qk (a1.length:Int) (2 ^ min 8 (Qc .i64));let v2:List UInt8:=[Qf (Qb 8 v1),Qf (Qb 8 (a1.length:Int))];bif small (v2.length+(a1:List UInt8).length) 1 then (Zhg (Qb 64 a0) 7 a1).bind λr3=>(passkeyref1_Words [r3.2.1>>>1]).bind λr4=>bif small ((v2++a1).length+(r4.2.1:List UInt8).length) 1 then some ((),v2++a1++r4.2.1,()) else none else none
def c92:=cf c91 244 [qc,qg] [qj] (u2 Zfm)
theorem o92:EO c92:=sz o91 Tryz.func244
abbrev Y_Zgu_L0:=(Int×(List (UInt8))×(List (List UInt8))×Int×Unit)
abbrev Z_Zgu_L0:=((List (List UInt8))×Int×Unit)
def Zgu_L0b (y0:Int) (y1:List UInt8) (y2:List (List UInt8)) (y3:Int):Option (Y_Zgu_L0⊕Z_Zgu_L0):=
 bif decide (Qa .i64 (y3+10) < y1.length) then (getI y1 y3).bind λx3=>let v4:=Qa .i64 ((x3.toBitVec.toNat:Int)*2 ^ min 8 (Qc .i64));(getI y1 (Qa .i64 (y3+1))).bind λx5=>let v6:=Qa .i64 ((Qb (Qc .i64) v4 ||| Qb (Qc .i64) (x5.toBitVec.toNat:Int)).toNat:Int);bif decide (v6 < 1) then some (Qd (y2,y3,())) else bif decide (256 < v6) then some (Qd (y2,y3,())) else let v7:=Qa .i64 (Qa .i64 (y3+10)+v6);bif decide (y1.length < v7) then some (Qd (y2,y3,())) else let v8:=Qa .i64 (Qa .i64 (y3+2)+v6);bif decide (0<=v8)&&decide (v8<=y1.length) then bif decide (0<=Qa .i64 (y3+2))&&decide (Qa .i64 (y3+2)<=v8.toNat) then let v9:=Qj (Qa .i64 (y3+2)).toNat (Qg v8.toNat y1);bif small v9.length 1 then (Zfm y0 v9).bind λr10=>let v11:=Qa .i64 (Qa .i64 (y3+10)+v6);bif decide (0<=v11)&&decide (v11<=y1.length) then bif decide (0<=y3)&&decide (y3<=v11.toNat) then bif !(decide (r10.2.1=Qj y3.toNat (Qg v11.toNat y1))) then some (Qd (y2,y3,())) else bif small (y2.length+([v9]).length) 24 then let v12:=Qa .i64 (Qa .i64 (y3+10)+v6);some (Qe (y0,y1,y2++[v9],v12,())) else none else none else none else none else none else none else some (Qd (y2,y3,()))
def Zgu_L0 (y:Y_Zgu_L0):Option Z_Zgu_L0:=
 iter (λ(y:Y_Zgu_L0)=>Zgu_L0b y.1 y.2.1 y.2.2.1 y.2.2.2.1) rounds y
def Zgu (a0:Jk) (a1 a2:Int):Option (Unit×List (List UInt8)×Int×Unit):=
 let v1:=Qa .i64 (Qa .i64 (a1+1)*a0.ja);bif decide (0<=v1)&&decide (v1<=a0.bytes.length) then bif decide (0<=Qa .i64 (a1*a0.ja))&&decide (Qa .i64 (a1*a0.ja)<=v1.toNat) then let v2:=Qj (Qa .i64 (a1*a0.ja)).toNat (Qg v1.toNat a0.bytes);(Zgu_L0 (a2,v2,[],16,())).bind λz13=>some ((),z13.1,z13.2.1,()) else none else none
def c93:=cf c92 236 [qa5,qc,qc] [qbe,qa] (u3 Zgu)
def s_Zgu_L0:LSpec T:=⟨[(2,qc),(8,qg),(9,(.f qbe)),(10,qc)],[(.exit 0,[(9,(.f qbe)),(10,qc)])],Zgu_L0,[]⟩
def A_Zgu:Loc2 T:=lcA [(0,s_Zgu_L0)] [] [8]
theorem Vsq:LO c93 Tryz.f236 0 s_Zgu_L0:=lx o92 A_Zgu dn (λ_=>rfl)
theorem o93:EO c93:=sx o92 A_Zgu Tryz.func236 (dc rfl Vsq dn)
abbrev Y_Zfl_L0:=((Jk×Unit)×(Jh×Unit)×(Int×(List (UInt8))×Int×Int×Int×Bool×Unit)×Int×Unit)
abbrev Z_Zfl_L0:=((Jh×Unit)×(Int×(List (UInt8))×Int×Int×Int×Bool×Unit)×Unit)
def Zfl_L0b (y0:Jk×Unit) (y1:Jh×Unit) (y2:Int×List UInt8×Int×Int×Int×Bool×Unit) (y3:Int):Option (Y_Zfl_L0⊕Z_Zfl_L0):=
 bif decide (y3 < y0.1.ja) then bif y2.2.2.2.2.2.1 then some (Qe ((y0.1,()),(y1.1,()),(y2.1,y2.2.1,y2.2.2.1,y2.2.2.2.1,y2.2.2.2.2.1,true,()),Qa .i64 (y3+1),())) else let v6:=Qa .i64 (Qa .i64 (y2.2.2.1*y0.1.ja)+y3);(getI y0.1.bytes v6).bind λx7=>some (Qe ((y0.1,()),(y1.1,()),(y2.1,y2.2.1,y2.2.2.1,y2.2.2.2.1,y2.2.2.2.2.1,!(decide (x7.toBitVec=(255:UInt8).toBitVec)),()),Qa .i64 (y3+1),())) else some (Qd ((y1.1,()),y2,()))
def Zfl_L0 (y:Y_Zfl_L0):Option Z_Zfl_L0:=
 iter (λ(y:Y_Zfl_L0)=>Zfl_L0b y.1 y.2.1 y.2.2.1 y.2.2.2.1) rounds y
def Zfl (a0:Jk):Option (Unit×Jh×Int×Unit):=
 (Zaj a0).bind λr1=>bif !(decide (r1.2.1=0)) then some ((),{},r1.2.1,()) else bif decide (a0.bytes.length < Qa .i64 (2*a0.ja)) then some ((),{},4,()) else (Zbk a0 0).bind λr2=>(Zbk a0 1).bind λr3=>bif decide (r2.2.1=0) then bif decide (r3.2.1=0) then some ((),{},11,()) else bif small a0.bytes.length 1 then (bif decide (r2.2.1 < r3.2.1) then some ((a0,()),(({}:Jh),()),(a0.ja,a0.bytes,(1:Int),r3.2.1,(0:Int),false,()),()) else some ((a0,()),(({}:Jh),()),(a0.ja,a0.bytes,(0:Int),r2.2.1,(0:Int),false,()),())).bind λj4=>(Zgu j4.1.1 j4.2.2.1.2.2.1 j4.2.2.1.2.2.2.1).bind λr5=>(Zfl_L0 ((j4.1.1,()),(j4.2.1.1,()),(j4.2.2.1.1,j4.2.2.1.2.1,j4.2.2.1.2.2.1,j4.2.2.1.2.2.2.1,r5.2.2.1,j4.2.2.1.2.2.2.2.2.1,()),r5.2.2.1,())).bind λz8=>some ((),⟨⟨z8.2.1.1,z8.2.1.2.1⟩,z8.2.1.2.2.1,z8.2.1.2.2.2.1,z8.2.1.2.2.2.2.1,z8.2.1.2.2.2.2.2.1⟩,0,()) else none else bif small a0.bytes.length 1 then (bif decide (r2.2.1 < r3.2.1) then some ((a0,()),(({}:Jh),()),(a0.ja,a0.bytes,(1:Int),r3.2.1,(0:Int),false,()),()) else some ((a0,()),(({}:Jh),()),(a0.ja,a0.bytes,(0:Int),r2.2.1,(0:Int),false,()),())).bind λj9=>(Zgu j9.1.1 j9.2.2.1.2.2.1 j9.2.2.1.2.2.2.1).bind λr10=>(Zfl_L0 ((j9.1.1,()),(j9.2.1.1,()),(j9.2.2.1.1,j9.2.2.1.2.1,j9.2.2.1.2.2.1,j9.2.2.1.2.2.2.1,r10.2.2.1,j9.2.2.1.2.2.2.2.2.1,()),r10.2.2.1,())).bind λz11=>some ((),⟨⟨z11.2.1.1,z11.2.1.2.1⟩,z11.2.1.2.2.1,z11.2.1.2.2.2.1,z11.2.1.2.2.2.2.1,z11.2.1.2.2.2.2.2.1⟩,0,()) else none
def c94:=cf c93 163 [qa5] [qn,qa] (u1 Zfl)
def s_Zfl_L0:LSpec T:=⟨[(1,qaz),(2,qaf),(7,qa3),(8,qc)],[(.exit 0,[(2,qaf),(7,qa3)])],Zfl_L0,[]⟩
def A_Zfl:Loc2 T:=lcA [(0,s_Zfl_L0)] [(12,[(1,qaz),(2,qaf),(7,qa3)],true)] [9]
theorem Vsr:LO c94 Tryz.f163 0 s_Zfl_L0:=lx o93 A_Zfl dn (λ_=>rfl)
theorem o94:EO c94:=sx o93 A_Zfl Tryz.func163 (dc rfl Vsr dn)
def Zel (a0:Jk) (a1:Int):Option (Unit×Jh×Int×Int×Unit):=
 bif decide (a1=16) then some ((),{jd:=a0},0,a1,()) else some ((),{},0,a1,())
def c95:=cf c94 237 [qa5,qc] [qn,qa,qa] (u2 Zel)
theorem o95:EO c95:=sz o94 Tryz.func237
def Zgs (a0:Jk) (a1 a2 a3:Int):Option (Unit×Int×Unit):=
 (Zaj a0).bind λr1=>bif !(decide (r1.2.1=0)) then some ((),r1.2.1,()) else bif decide (a1 < 0) then some ((),9,()) else bif decide (a0.ja=0) then none else let v2:=Qa .i64 (Ql (a0.bytes.length:Int) a0.ja);bif decide (v2<=a1) then some ((),9,()) else bif decide (a2 < 0) then some ((),9,()) else bif decide (a3 < 0) then some ((),9,()) else bif decide (a0.ja < a2) then some ((),9,()) else bif decide (Qa .i64 (a0.ja - a2) < a3) then some ((),9,()) else some ((),0,())
def c96:=ct c95 275 [qa5,qc,qc,qc] [qa] (u4 Zgs)
theorem o96:EO c96:=sz o95 Tryz.func275
abbrev Y_Zem_L0:=(Int×Int×(List (UInt8))×Int×(Int×(List (UInt8))×Unit)×(Jk×Unit)×Int×Unit)
abbrev Z_Zem_L0:=(((Int×(List (UInt8))×Unit)×Int×Int×Unit)⊕(Int×(Int×(List (UInt8))×Unit)×(Jk×Unit)×Unit))
def Zem_L0b (y0 y1:Int) (y2:List UInt8) (y3:Int) (y4:Int×List UInt8×Unit) (y5:Jk×Unit) (y6:Int):Option (Y_Zem_L0⊕Z_Zem_L0):=
 bif decide (y6 < y1) then bif decide (y3=0) then some (Qd (Qe ((y4.1,y4.2.1,()),0,16,()))) else bif decide ((y2.length:Int)=0) then bif decide (0<=Qa .i64 (y0+y6))&&decide (Qa .i64 (y0+y6) < y4.2.1.length) then y4.2.1[(Qa .i64 (y0+y6)).toNat]?.bind λx1=>let v2:=List.set y4.2.1 (Qa .i64 (y0+y6)).toNat (255:UInt8);bif decide (0 < y3) then some (Qe (y0,y1,y2,Qa .i64 (y3 - 1),(y4.1,v2,()),(y5.1,()),Qa .i64 (y6+1),())) else some (Qe (y0,y1,y2,y3,(y4.1,v2,()),(y5.1,()),Qa .i64 (y6+1),())) else none else bif decide (0<=Qa .i64 (y0+y6))&&decide (Qa .i64 (y0+y6) < y4.2.1.length) then y4.2.1[(Qa .i64 (y0+y6)).toNat]?.bind λx3=>(getI y2 y6).bind λx4=>bif decide (0<=Qa .i64 (y0+y6))&&decide (Qa .i64 (y0+y6) < y4.2.1.length) then y4.2.1[(Qa .i64 (y0+y6)).toNat]?.bind λx5=>let v6:=List.set y4.2.1 (Qa .i64 (y0+y6)).toNat (Qf (x3.toBitVec&&&x4.toBitVec));bif decide (0 < y3) then some (Qe (y0,y1,y2,Qa .i64 (y3 - 1),(y4.1,v6,()),(y5.1,()),Qa .i64 (y6+1),())) else some (Qe (y0,y1,y2,y3,(y4.1,v6,()),(y5.1,()),Qa .i64 (y6+1),())) else none else none else some (Qd (Qd (y3,(y4.1,y4.2.1,()),(y5.1,()),())))
def Zem_L0 (y:Y_Zem_L0):Option Z_Zem_L0:=
 iter (λ(y:Y_Zem_L0)=>Zem_L0b y.1 y.2.1 y.2.2.1 y.2.2.2.1 y.2.2.2.2.1 y.2.2.2.2.2.1 y.2.2.2.2.2.2.1) rounds y
def Zem (a0:Jk) (a1 a2:Int) (a3:List UInt8) (a4:Int):Option (Unit×Jk×Int×Int×Unit):=
 bif small a0.bytes.length 1 then (Zem_L0 (a1,a2,a3,a4,(a0.ja,a0.bytes,()),({},()),0,())).bind (Qh (λz7=>some ((),⟨z7.1.1,z7.1.2.1⟩,z7.2.1,z7.2.2.1,())) (λz8=>some ((),⟨z8.2.1.1,z8.2.1.2.1⟩,z8.1,0,()))) else none
def c97:=cf c96 276 [qa5,qc,qc,qg,qc] [qt,qa,qa] (u5 Zem)
def s_Zem_L0:LSpec T:=⟨[(1,qc),(2,qc),(3,qg),(4,qc),(5,qau),(10,qaz),(13,qc)],[(.ret,[(10,qau),(11,qc),(12,qc)]),(.exit 0,[(4,qc),(5,qau),(10,qaz)])],Zem_L0,[]⟩
def A_Zem:Loc2 T:=lcA [(0,s_Zem_L0)] [] []
theorem Vss:LO c97 Tryz.f276 0 s_Zem_L0:=lx o96 A_Zem dn (λ_=>rfl)
theorem o97:EO c97:=sx o96 A_Zem Tryz.func276 (dc rfl Vss dn)
def Zfk (a0:Jk) (a1 a2:Int):Option (Unit×Jk×Int×Int×Unit):=
 (Zgs a0 a1 0 0).bind λr1=>bif !(decide (r1.2.1=0)) then some ((),{},0,r1.2.1,()) else (Zem a0 (Qa .i64 (a1*a0.ja)) a0.ja [] a2).bind λr2=>some ((),r2.2.1,r2.2.2.1,r2.2.2.2.1,())
def c98:=cf c97 238 [qa5,qc,qc] [qt,qa,qa] (u3 Zfk)
theorem o98:EO c98:=sz o97 Tryz.func238
def Zdg (a0:Jk) (a1 a2:Int) (a3:List UInt8) (a4:Int):Option (Unit×Jk×Int×Int×Unit):=
 (Zgs a0 a1 a2 (a3.length:Int)).bind λr1=>bif !(decide (r1.2.1=0)) then some ((),{},0,r1.2.1,()) else let v2:=Qa .i64 (Qa .i64 (a1*a0.ja)+a2);(Zem a0 v2 (a3.length:Int) a3 a4).bind λr3=>some ((),r3.2.1,r3.2.2.1,r3.2.2.2.1,())
def c99:=cf c98 239 [qa5,qc,qc,qg,qc] [qt,qa,qa] (u5 Zdg)
theorem o99:EO c99:=sz o98 Tryz.func239
def Zej (a0:Jk) (a1:Int):Option (Unit×Jh×Int×Int×Unit):=
 (Zaj a0).bind λr1=>bif !(decide (r1.2.1=0)) then (Zel a0 r1.2.1).bind λr2=>some ((),r2.2.1,r2.2.2.1,r2.2.2.2.1,()) else bif decide (a0.bytes.length < Qa .i64 (2*a0.ja)) then (Zel a0 4).bind λr3=>some ((),r3.2.1,r3.2.2.1,r3.2.2.2.1,()) else (Zfk a0 0 a1).bind λr4=>(bif decide (r4.2.2.2.1=0) then (Zfk r4.2.1 1 r4.2.2.1).bind λr5=>some (r5.2.2.1,(r5.2.1,()),(({}:Jh),()),r5.2.2.2.1,()) else some (r4.2.2.1,(r4.2.1,()),(({}:Jh),()),r4.2.2.2.1,())).bind λj6=>(bif decide (j6.2.2.2.1=0) then (Zen 1).bind λr7=>(Zdg j6.2.1.1 0 0 r7.2.1 j6.1).bind λr8=>some (r8.2.2.1,(r8.2.1,()),(j6.2.2.1.1,()),r8.2.2.2.1,()) else some (j6.1,(j6.2.1.1,()),(j6.2.2.1.1,()),j6.2.2.2.1,())).bind λj9=>bif !(decide (j9.2.2.2.1=0)) then (Zel j9.2.1.1 j9.2.2.2.1).bind λr10=>some ((),r10.2.1,r10.2.2.1,r10.2.2.2.1,()) else (Zfl j9.2.1.1).bind λr11=>some ((),r11.2.1,j9.1,0,())
def c100:=cf c99 164 [qa5,qc] [qn,qa,qa] (u2 Zej)
theorem o100:EO c100:=sx o99 (lcA [] [(9,[(1,qc),(2,qaz),(4,qaf),(8,qc)],true),(11,[(1,qc),(2,qaz),(4,qaf),(8,qc)],true)] [10]) Tryz.func164 dn
def Zgt (a0:Jh) (a1:Int):Option (Unit×Jm×Int×Int×Unit):=
 bif decide (a1=16) then some ((),⟨{jd:=a0.jd},[]⟩,0,a1,()) else some ((),{},0,a1,())
def c101:=cf c100 165 [(.f qn),qc] [qaq,qa,qa] (u2 Zgt)
theorem o101:EO c101:=sz o100 Tryz.func165
def Zby (a0 a1:Jk):Option (Unit×Bool×Unit):=
 bif decide (a0.ja=a1.ja) then some ((),decide (a0.bytes=a1.bytes),()) else some ((),false,())
def c102:=ct c101 283 [qa5,qa5] [qf] (u2 Zby)
theorem o102:EO c102:=sz o101 Tryz.func283
def Zba (a0 a1:Jh):Option (Unit×Bool×Unit):=
 (Zby a0.jd a1.jd).bind λr1=>bif r1.2.1 then bif decide (a0.jaj=a1.jaj) then bif decide (a0.jr=a1.jr) then bif decide (a0.tail=a1.tail) then some ((),a0.jat==a1.jat,()) else some ((),false,()) else some ((),false,()) else some ((),false,()) else some ((),false,())
def c103:=ct c102 277 [(.f qn),(.f qn)] [qf] (u2 Zba)
theorem o103:EO c103:=sz o102 Tryz.func277
def Zdf (a0:Jh):Option (Unit×Bool×Unit):=
 (Zfl a0.jd).bind λr1=>bif decide (r1.2.2.1=0) then (Zba a0 r1.2.1).bind λr2=>some ((),r2.2.1,()) else some ((),false,())
def c104:=ct c103 243 [(.f qn)] [qf] (u1 Zdf)
theorem o104:EO c104:=sz o103 Tryz.func243
def Zdh (a0:Jh):Option (Unit×List (List UInt8)×Unit):=
 (Zdf a0).bind λr1=>bif !r1.2.1 then some ((),[],()) else (Zgu a0.jd a0.jaj a0.jr).bind λr2=>some ((),r2.2.1,())
def c105:=cf c104 241 [(.f qn)] [qbe] (u1 Zdh)
theorem o105:EO c105:=sz o104 Tryz.func241
abbrev Y_Zfn_L0:=((List (UInt8))×(List (Jf))×Unit)
abbrev Z_Zfn_L0:=(((List (Jf))×Bool×Unit)⊕((List (Jf))×Unit))
def Zfn_L0b (y0:List UInt8) (y1:List Jf):Option (Y_Zfn_L0⊕Z_Zfn_L0):=
 bif decide (0 < (y0.length:Int)) then bif decide ((y0.length:Int) < 3) then some (Qd (Qe ([],false,()))) else (getI y0 (1:Int)).bind λx1=>let v2:=Qa .i64 ((x1.toBitVec.toNat:Int)*2 ^ min 8 (Qc .i64));(getI y0 (2:Int)).bind λx3=>let v4:=Qa .i64 ((Qb (Qc .i64) v2 ||| Qb (Qc .i64) (x3.toBitVec.toNat:Int)).toNat:Int);bif decide (Qa .i64 ((y0.length:Int) - 3) < v4) then some (Qd (Qe ([],false,()))) else (getI y0 (1:Int)).bind λx5=>let v6:=Qa .i64 ((x5.toBitVec.toNat:Int)*2 ^ min 8 (Qc .i64));(getI y0 (2:Int)).bind λx7=>let v8:=Qa .i64 ((Qb (Qc .i64) v6 ||| Qb (Qc .i64) (x7.toBitVec.toNat:Int)).toNat:Int);(getI y0 (0:Int)).bind λx9=>bif decide (0<=Qa .i64 (3+v8))&&decide (Qa .i64 (3+v8)<=y0.length) then bif decide (3<=((Qa .i64 (3+v8)).toNat:Int)) then let v10:=Qj 3 (Qg (Qa .i64 (3+v8)).toNat y0);bif small v10.length 1 then let v11:List Jf:=[⟨(x9.toBitVec.toNat:Int),v10⟩];bif small (y1.length+(v11:List Jf).length) 32 then bif decide (0<=Qa .i64 (3+v8))&&decide (Qa .i64 (3+v8)<=y0.length) then some (Qe (Qj (Qa .i64 (3+v8)).toNat y0,y1++v11,())) else none else none else none else none else none else some (Qd (Qd (y1,())))
def Zfn_L0 (y:Y_Zfn_L0):Option Z_Zfn_L0:=
 iter (λ(y:Y_Zfn_L0)=>Zfn_L0b y.1 y.2.1) rounds y
def Zfn (a0:List UInt8):Option (Unit×List Jf×Bool×Unit):=
 (Zfn_L0 (a0,[],())).bind (Qh (λz12=>some ((),z12.1,z12.2.1,())) (λz13=>some ((),z13.1,true,())))
def c106:=cf c105 242 [qg] [(.own 19),qf] (u1 Zfn)
def s_Zfn_L0:LSpec T:=⟨[(0,qg),(4,qap)],[(.ret,[(2,qap),(3,qr)]),(.exit 0,[(4,qap)])],Zfn_L0,[]⟩
def A_Zfn:Loc2 T:=lcA [(0,s_Zfn_L0)] [] [6]
theorem Vst:LO c106 Tryz.f242 0 s_Zfn_L0:=lx o105 A_Zfn dn (λ_=>rfl)
theorem o106:EO c106:=sx o105 A_Zfn Tryz.func242 (dc rfl Vst dn)
abbrev Y_Zgr_L2:=((List (Jf))×(List (Jf))×Int×(List (Jf))×Bool×Int×Unit)
abbrev Z_Zgr_L2:=((List (Jf))×Int×(List (Jf))×Bool×Unit)
def Zgr_L2b (y0 y1:List Jf) (y2:Int) (y3:List Jf) (y4:Bool) (y5:Int):Option (Y_Zgr_L2⊕Z_Zgr_L2):=
 bif decide (y5 < y0.length) then (bif !y4 then (getI y0 y5).bind λx2=>(getI y1 y2).bind λx3=>bif decide (x3.key<=x2.key) then (getI y1 y2).bind λx4=>bif small (y3.length+([x4]).length) 32 then some (y0,y1,y2,y3++[x4],true,y5,()) else none else some (y0,y1,y2,y3,y4,y5,()) else some (y0,y1,y2,y3,y4,y5,())).bind λj5=>(getI j5.1 j5.2.2.2.2.2.1).bind λx6=>(getI j5.2.1 j5.2.2.1).bind λx7=>bif !(decide (x6.key=x7.key)) then (getI j5.1 j5.2.2.2.2.2.1).bind λx8=>bif small (j5.2.2.2.1.length+([x8]).length) 32 then some (Qe (j5.1,j5.2.1,j5.2.2.1,j5.2.2.2.1++[x8],j5.2.2.2.2.1,Qa .i64 (j5.2.2.2.2.2.1+1),())) else none else some (Qe (j5.1,j5.2.1,j5.2.2.1,j5.2.2.2.1,j5.2.2.2.2.1,Qa .i64 (j5.2.2.2.2.2.1+1),())) else some (Qd (y1,y2,y3,y4,()))
def Zgr_L2 (y:Y_Zgr_L2):Option Z_Zgr_L2:=
 iter (λ(y:Y_Zgr_L2)=>Zgr_L2b y.1 y.2.1 y.2.2.1 y.2.2.2.1 y.2.2.2.2.1 y.2.2.2.2.2.1) rounds y
abbrev Y_Zgr_L0:=((List (Jf))×(List (Jf))×Int×Unit)
abbrev Z_Zgr_L0:=((List (Jf))×Unit)
def Zgr_L0b (y0 y1:List Jf) (y2:Int):Option (Y_Zgr_L0⊕Z_Zgr_L0):=
 bif decide (y2 < y1.length) then (getI y1 y2).bind λx1=>(Zgr_L2 (y0,y1,y2,[],decide ((x1.value.length:Int)=0),0,())).bind λz2=>bif !z2.2.2.2.1 then (getI z2.1 z2.2.1).bind λx3=>bif small (z2.2.2.1.length+([x3]).length) 32 then some (Qe (z2.2.2.1++[x3],z2.1,Qa .i64 (z2.2.1+1),())) else none else some (Qe (z2.2.2.1,z2.1,Qa .i64 (z2.2.1+1),())) else some (Qd (y0,()))
def Zgr_L0 (y:Y_Zgr_L0):Option Z_Zgr_L0:=
 iter (λ(y:Y_Zgr_L0)=>Zgr_L0b y.1 y.2.1 y.2.2.1) rounds y
def Zgr (a0 a1:List Jf):Option (Unit×List Jf×Unit):=
 (Zgr_L0 (a0,a1,0,())).bind λz4=>some ((),z4.1,())
def c107:=cf c106 173 [ql,ql] [(.v (.rs 19))] (u2 Zgr)
def s_Zgr_L2:LSpec T:=⟨[(0,ql),(1,ql),(5,qc),(6,qap),(7,qr),(8,qc)],[(.exit 2,[(1,ql),(5,qc),(6,qap),(7,qr)])],Zgr_L2,[]⟩
def s_Zgr_L0:LSpec T:=⟨[(0,ql),(1,ql),(5,qc)],[(.exit 0,[(0,ql)])],Zgr_L0,[]⟩
def A_Zgr:Loc2 T:=lcA [(2,s_Zgr_L2),(0,s_Zgr_L0)] [(11,[(0,ql),(1,ql),(5,qc),(6,qap),(7,qr),(8,qc)],true)] []
theorem Vlq:LO c107 Tryz.f173 2 s_Zgr_L2:=lx o106 A_Zgr dn (λ_=>rfl)
theorem Vsu:LO c107 Tryz.f173 0 s_Zgr_L0:=lx o106 A_Zgr (dc rfl Vlq dn) (λ_=>rfl)
theorem o107:EO c107:=sx o106 A_Zgr Tryz.func173 (dc rfl Vlq (dc rfl Vsu dn))
abbrev Y_Zek_L0:=((List (Jf))×(List (List UInt8))×Int×Unit)
abbrev Z_Zek_L0:=((List (Jf))×Unit)
def Zek_L0b (y0:List Jf) (y1:List (List UInt8)) (y2:Int):Option (Y_Zek_L0⊕Z_Zek_L0):=
 bif decide (y2 < y1.length) then bif decide (0<=y2)&&decide (y2 < y1.length) then y1[y2.toNat]?.bind λx5=>(Zfn x5).bind λr6=>bif r6.2.2.1 then (Zgr y0 r6.2.1).bind λr7=>some (Qe (r7.2.1,y1,Qa .i64 (y2+1),())) else some (Qe (y0,y1,Qa .i64 (y2+1),())) else none else some (Qd (y0,()))
def Zek_L0 (y:Y_Zek_L0):Option Z_Zek_L0:=
 iter (λ(y:Y_Zek_L0)=>Zek_L0b y.1 y.2.1 y.2.2.1) rounds y
def Zek (a0:Jh):Option (Unit×List Jf×Unit):=
 (Zdh a0).bind λr1=>(Zek_L0 ([],r1.2.1,0,())).bind λz8=>some ((),z8.1,())
def c108:=cf c107 166 [(.f qn)] [(.v (.rs 19))] (u1 Zek)
def s_Zek_L0:LSpec T:=⟨[(3,ql),(4,(.f qbe)),(5,qc)],[(.exit 0,[(3,ql)])],Zek_L0,[]⟩
def A_Zek:Loc2 T:=lcA [(0,s_Zek_L0)] [] []
theorem Vsv:LO c108 Tryz.f166 0 s_Zek_L0:=lx o107 A_Zek dn (λ_=>rfl)
theorem o108:EO c108:=sx o107 A_Zek Tryz.func166 (dc rfl Vsv dn)
abbrev Y_Zeo_L0:=((List (Jf))×(List (UInt8))×Int×Unit)
abbrev Z_Zeo_L0:=((List (UInt8))×Unit)
def Zeo_L0b (y0:List Jf) (y1:List UInt8) (y2:Int):Option (Y_Zeo_L0⊕Z_Zeo_L0):=
 bif decide (y2 < y0.length) then (getI y0 y2).bind λx1=>(getI y0 y2).bind λx2=>let v3:=Qk (x2.value.length:Int) (2 ^ min 8 (Qc .i64));(getI y0 y2).bind λx4=>let v5:List UInt8:=[Qf (Qb 8 x1.key),Qf (Qb 8 v3),Qf (Qb 8 (x4.value.length:Int))];bif small (y1.length+(v5:List UInt8).length) 1 then (getI y0 y2).bind λx6=>bif small ((y1++v5).length+(x6.value:List UInt8).length) 1 then some (Qe (y0,y1++v5++x6.value,Qa .i64 (y2+1),())) else none else none else some (Qd (y1,()))
def Zeo_L0 (y:Y_Zeo_L0):Option Z_Zeo_L0:=
 iter (λ(y:Y_Zeo_L0)=>Zeo_L0b y.1 y.2.1 y.2.2.1) rounds y
def Zeo (a0:List Jf):Option (Unit×List UInt8×Unit):=
 (Zeo_L0 (a0,[],0,())).bind λz7=>some ((),z7.1,())
def c109:=cf c108 176 [ql] [qj] (u1 Zeo)
def s_Zeo_L0:LSpec T:=⟨[(0,ql),(3,qae),(4,qc)],[(.exit 0,[(3,qae)])],Zeo_L0,[]⟩
def A_Zeo:Loc2 T:=lcA [(0,s_Zeo_L0)] [] []
theorem Vsw:LO c109 Tryz.f176 0 s_Zeo_L0:=lx o108 A_Zeo dn (λ_=>rfl)
theorem o109:EO c109:=sx o108 A_Zeo Tryz.func176 (dc rfl Vsw dn)
abbrev Y_Zcl_L0:=((List (Jf))×(List (List UInt8))×Int×Unit)
abbrev Z_Zcl_L0:=((List (List UInt8))×Unit)
def Zcl_L0b (y0:List Jf) (y1:List (List UInt8)) (y2:Int):Option (Y_Zcl_L0⊕Z_Zcl_L0):=
 bif decide (y2 < y0.length) then bif decide (0<=Qa .i64 (y2+1))&&decide (Qa .i64 (y2+1)<=y0.length) then bif decide (0<=y2)&&decide (y2<=(Qa .i64 (y2+1)).toNat) then let v1:=Qj y2.toNat (Qg (Qa .i64 (y2+1)).toNat y0);(Zeo v1).bind λr2=>bif small (y1.length+([r2.2.1]).length) 24 then some (Qe (y0,y1++[r2.2.1],Qa .i64 (y2+1),())) else none else none else none else some (Qd (y1,()))
def Zcl_L0 (y:Y_Zcl_L0):Option Z_Zcl_L0:=
 iter (λ(y:Y_Zcl_L0)=>Zcl_L0b y.1 y.2.1 y.2.2.1) rounds y
def Zcl (a0:List Jf):Option (Unit×List (List UInt8)×Unit):=
 (Zcl_L0 (a0,[],0,())).bind λz3=>some ((),z3.1,())
def c110:=cf c109 168 [ql] [qbe] (u1 Zcl)
def s_Zcl_L0:LSpec T:=⟨[(0,ql),(3,(.f qbe)),(4,qc)],[(.exit 0,[(3,(.f qbe))])],Zcl_L0,[]⟩
def A_Zcl:Loc2 T:=lcA [(0,s_Zcl_L0)] [] []
theorem Vsx:LO c110 Tryz.f168 0 s_Zcl_L0:=lx o109 A_Zcl dn (λ_=>rfl)
theorem o110:EO c110:=sx o109 A_Zcl Tryz.func168 (dc rfl Vsx dn)
abbrev Y_Zdi_L0:=((List (List UInt8))×Int×(Jh×Unit)×(Jh×Unit)×Int×Int×Unit)
abbrev Z_Zdi_L0:=(((Jh×Unit)×Int×Int×Unit)⊕((List (List UInt8))×Int×(Jh×Unit)×(Jh×Unit)×Int×Unit))
def Zdi_L0b (y0:List (List UInt8)) (y1:Int) (y2 y3:Jh×Unit) (y4 y5:Int):Option (Y_Zdi_L0⊕Z_Zdi_L0):=
 bif decide (y5 < y0.length) then (getI y0 y5).bind λx3=>bif decide ((x3.length:Int) < 1) then (Zel y2.1.jd 9).bind λr4=>some (Qd (Qe ((r4.2.1,()),r4.2.2.1,r4.2.2.2.1,()))) else (getI y0 y5).bind λx5=>bif decide (256 < (x5.length:Int)) then (Zel y2.1.jd 9).bind λr6=>some (Qd (Qe ((r6.2.1,()),r6.2.2.1,r6.2.2.2.1,()))) else some (Qe (y0,y1,(y2.1,()),(y3.1,()),y4,Qa .i64 (y5+1),())) else some (Qd (Qd (y0,y1,(y2.1,()),(y3.1,()),y4,())))
def Zdi_L0 (y:Y_Zdi_L0):Option Z_Zdi_L0:=
 iter (λ(y:Y_Zdi_L0)=>Zdi_L0b y.1 y.2.1 y.2.2.1 y.2.2.2.1 y.2.2.2.2.1 y.2.2.2.2.2.1) rounds y
abbrev Y_Zdi_L2:=((List (List UInt8))×Int×(Jh×Unit)×(Jh×Unit)×Int×Int×Unit)
abbrev Z_Zdi_L2:=((List (List UInt8))×Int×(Jh×Unit)×(Jh×Unit)×Int×Unit)
def Zdi_L2b (y0:List (List UInt8)) (y1:Int) (y2 y3:Jh×Unit) (y4 y5:Int):Option (Y_Zdi_L2⊕Z_Zdi_L2):=
 bif decide (y5 < y0.length) then bif decide (y4<=y2.1.jd.ja) then (getI y0 y5).bind λx9=>let v10:=Qa .i64 (y4+Qa .i64 (10+(x9.length:Int)));some (Qe (y0,y1,(y2.1,()),(y3.1,()),v10,Qa .i64 (y5+1),())) else some (Qd (y0,y1,(y2.1,()),(y3.1,()),y4,())) else some (Qd (y0,y1,(y2.1,()),(y3.1,()),y4,()))
def Zdi_L2 (y:Y_Zdi_L2):Option Z_Zdi_L2:=
 iter (λ(y:Y_Zdi_L2)=>Zdi_L2b y.1 y.2.1 y.2.2.1 y.2.2.2.1 y.2.2.2.2.1 y.2.2.2.2.2.1) rounds y
abbrev Y_Zdi_L4:=((List (List UInt8))×Int×(Jh×Unit)×Int×Int×Int×(Jk×Unit)×Int×Int×Unit)
abbrev Z_Zdi_L4:=(Int×(Jh×Unit)×Int×Int×Int×(Jk×Unit)×Int×Unit)
def Zdi_L4b (y0:List (List UInt8)) (y1:Int) (y2:Jh×Unit) (y3 y4 y5:Int) (y6:Jk×Unit) (y7 y8:Int):Option (Y_Zdi_L4⊕Z_Zdi_L4):=
 bif decide (y8 < y0.length) then bif decide (y7=0) then (getI y0 y8).bind λx15=>(Zfm y4 x15).bind λr16=>(Zdg y6.1 y3 y5 r16.2.1 y1).bind λr17=>(getI y0 y8).bind λx18=>let v19:=Qa .i64 (y5+Qa .i64 (10+(x18.length:Int)));some (Qe (y0,r17.2.2.1,(y2.1,()),y3,y4,v19,(r17.2.1,()),r17.2.2.2.1,Qa .i64 (y8+1),())) else some (Qd (y1,(y2.1,()),y3,y4,y5,(y6.1,()),y7,())) else some (Qd (y1,(y2.1,()),y3,y4,y5,(y6.1,()),y7,()))
def Zdi_L4 (y:Y_Zdi_L4):Option Z_Zdi_L4:=
 iter (λ(y:Y_Zdi_L4)=>Zdi_L4b y.1 y.2.1 y.2.2.1 y.2.2.2.1 y.2.2.2.2.1 y.2.2.2.2.2.1 y.2.2.2.2.2.2.1 y.2.2.2.2.2.2.2.1 y.2.2.2.2.2.2.2.2.1) rounds y
def Zdi (a0:Jh) (a1:List (List UInt8)) (a2:Int):Option (Unit×Jh×Int×Int×Unit):=
 (Zdf a0).bind λr1=>bif !r1.2.1 then (Zel a0.jd 18).bind λr2=>some ((),r2.2.1,r2.2.2.1,r2.2.2.2.1,()) else (Zdi_L0 (a1,a2,(a0,()),({},()),16,0,())).bind (Qh (λz7=>some ((),z7.1.1,z7.2.1,z7.2.2.1,())) (λz8=>(Zdi_L2 (z8.1,z8.2.1,(z8.2.2.1.1,()),(z8.2.2.2.1.1,()),z8.2.2.2.2.1,0,())).bind λz11=>bif decide (z11.2.2.1.1.jd.ja < z11.2.2.2.2.1) then (Zel z11.2.2.1.1.jd 12).bind λr12=>some ((),r12.2.1,r12.2.2.1,r12.2.2.2.1,()) else bif decide (1099511627776<=z11.2.2.1.1.jr) then (Zel z11.2.2.1.1.jd 13).bind λr13=>some ((),r13.2.1,r13.2.2.1,r13.2.2.2.1,()) else (Zfk z11.2.2.1.1.jd (Qa .i64 (1 - z11.2.2.1.1.jaj)) z11.2.1).bind λr14=>(Zdi_L4 (z11.1,r14.2.2.1,(z11.2.2.2.1.1,()),Qa .i64 (1 - z11.2.2.1.1.jaj),Qa .i64 (z11.2.2.1.1.jr+1),16,(r14.2.1,()),r14.2.2.2.1,0,())).bind λz20=>(bif decide (z20.2.2.2.2.2.2.1=0) then (Zen z20.2.2.2.1).bind λr21=>(Zdg z20.2.2.2.2.2.1.1 z20.2.2.1 0 r21.2.1 z20.1).bind λr22=>some (r22.2.2.1,(z20.2.1.1,()),z20.2.2.1,z20.2.2.2.1,z20.2.2.2.2.1,(r22.2.1,()),r22.2.2.2.1,()) else some (z20.1,(z20.2.1.1,()),z20.2.2.1,z20.2.2.2.1,z20.2.2.2.2.1,(z20.2.2.2.2.2.1.1,()),z20.2.2.2.2.2.2.1,())).bind λj23=>bif !(decide (j23.2.2.2.2.2.2.1=0)) then (Zel j23.2.2.2.2.2.1.1 j23.2.2.2.2.2.2.1).bind λr24=>some ((),r24.2.1,r24.2.2.1,r24.2.2.2.1,()) else some ((),⟨j23.2.2.2.2.2.1.1,j23.2.2.1,j23.2.2.2.1,j23.2.2.2.2.1,false⟩,j23.1,0,())))
def c111:=cf c110 167 [(.f qn),qad,qc] [qn,qa,qa] (u3 Zdi)
def s_Zdi_L0:LSpec T:=⟨[(1,qad),(2,qc),(3,qaf),(6,qaf),(9,qc),(10,qc)],[(.ret,[(6,qaf),(7,qc),(8,qc)]),(.exit 0,[(1,qad),(2,qc),(3,qaf),(6,qaf),(9,qc)])],Zdi_L0,[]⟩
def s_Zdi_L2:LSpec T:=⟨[(1,qad),(2,qc),(3,qaf),(6,qaf),(9,qc),(11,qc)],[(.exit 2,[(1,qad),(2,qc),(3,qaf),(6,qaf),(9,qc)])],Zdi_L2,[]⟩
def s_Zdi_L4:LSpec T:=⟨[(1,qad),(2,qc),(6,qaf),(12,qc),(13,qc),(14,qc),(15,qaz),(16,qc),(17,qc)],[(.exit 4,[(2,qc),(6,qaf),(12,qc),(13,qc),(14,qc),(15,qaz),(16,qc)])],Zdi_L4,[]⟩
def A_Zdi:Loc2 T:=lcA [(0,s_Zdi_L0),(2,s_Zdi_L2),(4,s_Zdi_L4)] [(26,[(2,qc),(6,qaf),(12,qc),(13,qc),(14,qc),(15,qaz),(16,qc)],true)] [22,25]
theorem Vg0:LO c111 Tryz.f167 0 s_Zdi_L0:=lx o110 A_Zdi dn (λ_=>rfl)
theorem Vlr:LO c111 Tryz.f167 2 s_Zdi_L2:=lx o110 A_Zdi (dc rfl Vg0 dn) (λ_=>rfl)
theorem Vsy:LO c111 Tryz.f167 4 s_Zdi_L4:=lx o110 A_Zdi (dc rfl Vg0 (dc rfl Vlr dn)) (λ_=>rfl)
theorem o111:EO c111:=sx o110 A_Zdi Tryz.func167 (dc rfl Vg0 (dc rfl Vlr (dc rfl Vsy dn)))
def Zgo (a0:Jk) (a1:Int):Option (Unit×Jm×Int×Int×Unit):=
 (Zfl a0).bind λr1=>(bif decide (r1.2.2.1=11) then (Zej a0 a1).bind λr2=>some (r2.2.2.1,(({}:Jm),()),(r2.2.1,()),r2.2.2.2.1,()) else some (a1,(({}:Jm),()),(r1.2.1,()),r1.2.2.1,())).bind λj3=>bif !(decide (j3.2.2.2.1=0)) then (Zgt j3.2.2.1.1 j3.2.2.2.1).bind λr4=>some ((),r4.2.1,r4.2.2.1,r4.2.2.2.1,()) else (Zek j3.2.2.1.1).bind λr5=>bif j3.2.2.1.1.jat then (Zcl r5.2.1).bind λr6=>(Zdi j3.2.2.1.1 r6.2.1 j3.1).bind λr7=>bif !(decide (r7.2.2.2.1=0)) then (Zgt r7.2.1 r7.2.2.2.1).bind λr8=>some ((),r8.2.1,r8.2.2.1,r8.2.2.2.1,()) else some ((),⟨r7.2.1,r5.2.1⟩,r7.2.2.1,0,()) else some ((),⟨j3.2.2.1.1,r5.2.1⟩,j3.1,0,())
def c112:=cf c111 121 [qa5,qc] [qaq,qa,qa] (u2 Zgo)
theorem o112:EO c112:=sx o111 (lcA [] [(4,[(1,qc),(4,qu),(7,qaf),(8,qc)],true)] [8]) Tryz.func121 dn
def Zgb (a0:Jc):Option (Unit×Jc×Unit):=
 some ((),{jl:=a0.jl,jm:=⟨{jd:=a0.jm.jg.jd},[]⟩,now:=a0.now},())
def c113:=cf c112 91 [qas] [qm] (u1 Zgb)
theorem o113:EO c113:=sz o112 Tryz.func91
def Zdd (a0:Jc) (a1:Jm) (a2:Int):Option (Unit×Jc×Int×Int×Unit):=
 bif decide (a2=16) then (Zgb {a0 with jm:=a1}).bind λr1=>some ((),r1.2.1,0,a2,()) else some ((),a0,0,a2,())
def c114:=cf c113 122 [qas,(.f qaq),qc] [qm,qa,qa] (u3 Zdd)
theorem o114:EO c114:=sz o113 Tryz.func122
abbrev Y_Zhm_L0:=(Int×(Jm×Unit)×Int×Unit)
abbrev Z_Zhm_L0:=(((List (UInt8))×Unit)⊕(Unit))
def Zhm_L0b (y0:Int) (y1:Jm×Unit) (y2:Int):Option (Y_Zhm_L0⊕Z_Zhm_L0):=
 bif decide (y2 < y1.1.jw.length) then (getI y1.1.jw y2).bind λx1=>bif decide (x1.key=y0) then (getI y1.1.jw y2).bind λx2=>bif small x2.value.length 1 then some (Qd (Qe (x2.value,()))) else none else some (Qe (y0,(y1.1,()),Qa .i64 (y2+1),())) else some (Qd (Qd ()))
def Zhm_L0 (y:Y_Zhm_L0):Option Z_Zhm_L0:=
 iter (λ(y:Y_Zhm_L0)=>Zhm_L0b y.1 y.2.1 y.2.2.1) rounds y
def Zhm (a0:Jm) (a1:Int):Option (Unit×List UInt8×Unit):=
 (Zhm_L0 (a1,(a0,()),0,())).bind (Qh (λz3=>some ((),z3.1,())) (λz4=>some ((),[],())))
def c115:=cf c114 124 [(.f qaq),qc] [qj] (u2 Zhm)
def s_Zhm_L0:LSpec T:=⟨[(1,qc),(2,qu),(5,qc)],[(.ret,[(4,qae)]),(.exit 0,[])],Zhm_L0,[]⟩
def A_Zhm:Loc2 T:=lcA [(0,s_Zhm_L0)] [] []
theorem Vsz:LO c115 Tryz.f124 0 s_Zhm_L0:=lx o114 A_Zhm dn (λ_=>rfl)
theorem o115:EO c115:=sx o114 A_Zhm Tryz.func124 (dc rfl Vsz dn)
abbrev Y_Zdw_L0:=(Int×(List (UInt8))×Int×Unit)
abbrev Z_Zdw_L0:=(Int×Unit)
def Zdw_L0b (y0:Int) (y1:List UInt8) (y2:Int):Option (Y_Zdw_L0⊕Z_Zdw_L0):=
 bif decide (y2 < y1.length) then bif decide (0<=y2)&&decide (y2 < y1.length) then y1[y2.toNat]?.bind λx2=>let v3:=Qa .i64 ((Qb (Qc .i64) (Qa .i64 (y0*2 ^ min 8 (Qc .i64))) ||| Qb (Qc .i64) (x2.toBitVec.toNat:Int)).toNat:Int);some (Qe (v3,y1,Qa .i64 (y2+1),())) else none else some (Qd (y0,()))
def Zdw_L0 (y:Y_Zdw_L0):Option Z_Zdw_L0:=
 iter (λ(y:Y_Zdw_L0)=>Zdw_L0b y.1 y.2.1 y.2.2.1) rounds y
def Zdw (a0:Jm):Option (Unit×Int×Unit):=
 (Zhm a0 2).bind λr1=>(Zdw_L0 (0,r1.2.1,0,())).bind λz4=>some ((),z4.1,())
def c116:=ct c115 123 [(.f qaq)] [qa] (u1 Zdw)
def s_Zdw_L0:LSpec T:=⟨[(3,qc),(4,qae),(5,qc)],[(.exit 0,[(3,qc)])],Zdw_L0,[]⟩
def A_Zdw:Loc2 T:=lcA [(0,s_Zdw_L0)] [] []
theorem Vs0:LO c116 Tryz.f123 0 s_Zdw_L0:=lx o115 A_Zdw dn (λ_=>rfl)
theorem o116:EO c116:=sx o115 A_Zdw Tryz.func123 (dc rfl Vs0 dn)
def Zdz (a0:BitVec 64) (a1:List UInt8) (a2:Int):Option (Unit×BitVec 64×Unit):=
 bif small (a1.length+([0]:List UInt8).length) 1 then (passkeyref1_Words [Qb 64 a2]).bind λr1=>bif small ((a1++[0]).length+(r1.2.1:List UInt8).length) 1 then let v2:=a1++[0]++r1.2.1;(Zhg a0 4 v2).bind λr3=>some ((),r3.2.1,()) else none else none
def c117:=ct c116 169 [qd,qar,qc] [qp] (u3 Zdz)
theorem o117:EO c117:=sz o116 Tryz.func169
def Zde (a0:Jc) (a1:Int):Option (Unit×List UInt8×Unit):=
 (Zdz a0.jl.jag [109,97,115,116,101,114] a1).bind λr1=>(passkeyref1_Words [r1.2.1]).bind λr2=>some ((),r2.2.1,())
def c118:=cf c117 125 [qas,qc] [qj] (u2 Zde)
theorem o118:EO c118:=sz o117 Tryz.func125
def Zdr (a0:Jr):Option (Unit×Bool×Unit):=
 bif decide (0<=a0.jau) then bif decide (a0.jau<=a0.next) then bif decide (a0.next<=a0.to_) then some ((),decide (a0.to_<=16),()) else some ((),false,()) else some ((),false,()) else some ((),false,())
def c119:=ct c118 170 [(.f qa8)] [qf] (u1 Zdr)
theorem o119:EO c119:=sz o118 Tryz.func170
def Zam (a0:Jr):Option (Unit×List UInt8×Unit):=
 (Zdr a0).bind λr1=>bif !r1.2.1 then some ((),[],()) else (passkeyref1_Words [a0.tag]).bind λr2=>let v3:List UInt8:=[Qf (Qb 8 a0.jau),Qf (Qb 8 a0.to_),Qf (Qb 8 a0.next)];bif small (r2.2.1.length+(v3:List UInt8).length) 1 then some ((),r2.2.1++v3,()) else none
def c120:=cf c119 126 [(.f qa8)] [qj] (u1 Zam)
theorem o120:EO c120:=sx o119 (lcA [] [] [3]) Tryz.func126 dn
abbrev Y_Zbz_L0:=((List (Jf))×(List (Jf))×Int×Unit)
abbrev Z_Zbz_L0:=((Bool×Unit)⊕(Unit))
def Zbz_L0b (y0 y1:List Jf) (y2:Int):Option (Y_Zbz_L0⊕Z_Zbz_L0):=
 bif decide (y2 < y0.length) then (getI y0 y2).bind λx1=>(getI y1 y2).bind λx2=>bif !(decide (x1.key=x2.key)) then some (Qd (Qe (false,()))) else (getI y0 y2).bind λx3=>(getI y1 y2).bind λx4=>bif !(decide (x3.value=x4.value)) then some (Qd (Qe (false,()))) else some (Qe (y0,y1,Qa .i64 (y2+1),())) else some (Qd (Qd ()))
def Zbz_L0 (y:Y_Zbz_L0):Option Z_Zbz_L0:=
 iter (λ(y:Y_Zbz_L0)=>Zbz_L0b y.1 y.2.1 y.2.2.1) rounds y
def Zbz (a0 a1:List Jf):Option (Unit×Bool×Unit):=
 bif !(decide ((a0.length:Int)=(a1.length:Int))) then some ((),false,()) else (Zbz_L0 (a0,a1,0,())).bind (Qh (λz5=>some ((),z5.1,())) (λz6=>some ((),true,())))
def c121:=ct c120 245 [ql,ql] [qf] (u2 Zbz)
def s_Zbz_L0:LSpec T:=⟨[(0,ql),(1,ql),(5,qc)],[(.ret,[(4,qr)]),(.exit 0,[])],Zbz_L0,[]⟩
def A_Zbz:Loc2 T:=lcA [(0,s_Zbz_L0)] [] []
theorem Vs1:LO c121 Tryz.f245 0 s_Zbz_L0:=lx o120 A_Zbz dn (λ_=>rfl)
theorem o121:EO c121:=sx o120 A_Zbz Tryz.func245 (dc rfl Vs1 dn)
def Zaq (a0:Jm):Option (Unit×Bool×Unit):=
 (Zdf a0.jg).bind λr1=>bif r1.2.1 then (Zek a0.jg).bind λr2=>(Zbz a0.jw r2.2.1).bind λr3=>some ((),r3.2.1,()) else some ((),false,())
def c122:=ct c121 171 [(.f qaq)] [qf] (u1 Zaq)
theorem o122:EO c122:=sx o121 (lcA [] [] [1]) Tryz.func171 dn
abbrev Y_Zgq_L0:=((List (Jf))×Int×Int×Unit)
abbrev Z_Zgq_L0:=(Int×Unit)
def Zgq_L0b (y0:List Jf) (y1 y2:Int):Option (Y_Zgq_L0⊕Z_Zgq_L0):=
 bif decide (y2 < y0.length) then (getI y0 y2).bind λx1=>let v2:=Qa .i64 (y1+Qa .i64 (3+(x1.value.length:Int)));some (Qe (y0,v2,Qa .i64 (y2+1),())) else some (Qd (y1,()))
def Zgq_L0 (y:Y_Zgq_L0):Option Z_Zgq_L0:=
 iter (λ(y:Y_Zgq_L0)=>Zgq_L0b y.1 y.2.1 y.2.2.1) rounds y
def Zgq (a0:List Jf):Option (Unit×Int×Unit):=
 (Zgq_L0 (a0,0,0,())).bind λz3=>some ((),z3.1,())
def c123:=ct c122 172 [ql] [qa] (u1 Zgq)
def s_Zgq_L0:LSpec T:=⟨[(0,ql),(3,qc),(4,qc)],[(.exit 0,[(3,qc)])],Zgq_L0,[]⟩
def A_Zgq:Loc2 T:=lcA [(0,s_Zgq_L0)] [] []
theorem Vs2:LO c123 Tryz.f172 0 s_Zgq_L0:=lx o122 A_Zgq dn (λ_=>rfl)
theorem o123:EO c123:=sx o122 A_Zgq Tryz.func172 (dc rfl Vs2 dn)
def Zgp (a0:Jh):Option (Unit×Int×Unit):=
 (Zdf a0).bind λr1=>bif !r1.2.1 then some ((),0,()) else bif a0.jat then some ((),0,()) else let v2:=Qa .i64 (Qa .i64 (a0.jd.ja - a0.tail) - 10);let v3:Int:=bif decide ((bif decide (v2 < 256) then v2 else (256:Int)) < 0) then 0 else bif decide (v2 < 256) then v2 else 256;some ((),v3,())
def c124:=ct c123 174 [(.f qn)] [qa] (u1 Zgp)
theorem o124:EO c124:=sz o123 Tryz.func174
def Zei (a0:Jh) (a1:List UInt8) (a2:Int):Option (Unit×Jh×Int×Int×Unit):=
 (Zdf a0).bind λr1=>bif !r1.2.1 then (Zel a0.jd 18).bind λr2=>some ((),r2.2.1,r2.2.2.1,r2.2.2.2.1,()) else bif decide ((a1.length:Int) < 1) then (Zel a0.jd 9).bind λr3=>some ((),r3.2.1,r3.2.2.1,r3.2.2.2.1,()) else bif decide (256 < (a1.length:Int)) then (Zel a0.jd 9).bind λr4=>some ((),r4.2.1,r4.2.2.1,r4.2.2.2.1,()) else bif a0.jat then (Zel a0.jd 18).bind λr5=>some ((),r5.2.1,r5.2.2.1,r5.2.2.2.1,()) else (Zgp a0).bind λr6=>bif decide (r6.2.1 < a1.length) then (Zel a0.jd 12).bind λr7=>some ((),r7.2.1,r7.2.2.1,r7.2.2.2.1,()) else (Zfm a0.jr a1).bind λr8=>(Zdg a0.jd a0.jaj a0.tail r8.2.1 a2).bind λr9=>bif !(decide (r9.2.2.2.1=0)) then (Zel r9.2.1 r9.2.2.2.1).bind λr10=>some ((),r10.2.1,r10.2.2.1,r10.2.2.2.1,()) else let v11:=Qa .i64 (Qa .i64 (a0.tail+10)+(a1.length:Int));some ((),{a0 with jd:=r9.2.1,tail:=v11},r9.2.2.1,0,())
def c125:=cf c124 175 [(.f qn),qg,qc] [qn,qa,qa] (u3 Zei)
theorem o125:EO c125:=sx o124 (lcA [] [] [9]) Tryz.func175 dn
abbrev Y_Zhn_L2:=((List (Jf))×Int×(Jm×Unit)×(Jm×Unit)×Int×Int×Unit)
abbrev Z_Zhn_L2:=(((Jm×Unit)×Int×Int×Unit)⊕((List (Jf))×Int×(Jm×Unit)×(Jm×Unit)×Int×Unit))
def Zhn_L2b (y0:List Jf) (y1:Int) (y2 y3:Jm×Unit) (y4 y5:Int):Option (Y_Zhn_L2⊕Z_Zhn_L2):=
 bif decide (y5 < y4) then (getI y0 y5).bind λx8=>(getI y0 y4).bind λx9=>bif decide (x8.key=x9.key) then (Zgt y2.1.jg 10).bind λr10=>some (Qd (Qe ((r10.2.1,()),r10.2.2.1,r10.2.2.2.1,()))) else some (Qe (y0,y1,(y2.1,()),(y3.1,()),y4,Qa .i64 (y5+1),())) else some (Qd (Qd (y0,y1,(y2.1,()),(y3.1,()),y4,())))
def Zhn_L2 (y:Y_Zhn_L2):Option Z_Zhn_L2:=
 iter (λ(y:Y_Zhn_L2)=>Zhn_L2b y.1 y.2.1 y.2.2.1 y.2.2.2.1 y.2.2.2.2.1 y.2.2.2.2.2.1) rounds y
abbrev Y_Zhn_L0:=((List (Jf))×Int×(Jm×Unit)×(Jm×Unit)×Int×Unit)
abbrev Z_Zhn_L0:=(((Jm×Unit)×Int×Int×Unit)⊕((List (Jf))×Int×(Jm×Unit)×(Jm×Unit)×Unit))
def Zhn_L0b (y0:List Jf) (y1:Int) (y2 y3:Jm×Unit) (y4:Int):Option (Y_Zhn_L0⊕Z_Zhn_L0):=
 bif decide (y4 < y0.length) then (getI y0 y4).bind λx4=>bif decide (x4.key < 0) then (Zgt y2.1.jg 9).bind λr5=>some (Qd (Qe ((r5.2.1,()),r5.2.2.1,r5.2.2.2.1,()))) else (getI y0 y4).bind λx6=>bif decide (255 < x6.key) then (Zgt y2.1.jg 9).bind λr7=>some (Qd (Qe ((r7.2.1,()),r7.2.2.1,r7.2.2.2.1,()))) else (Zhn_L2 (y0,y1,(y2.1,()),(y3.1,()),y4,0,())).bind (Qh (λz8=>some (Qd (Qe ((z8.1.1,()),z8.2.1,z8.2.2.1,())))) (λz9=>some (Qe (z9.1,z9.2.1,(z9.2.2.1.1,()),(z9.2.2.2.1.1,()),Qa .i64 (z9.2.2.2.2.1+1),())))) else some (Qd (Qd (y0,y1,(y2.1,()),(y3.1,()),())))
def Zhn_L0 (y:Y_Zhn_L0):Option Z_Zhn_L0:=
 iter (λ(y:Y_Zhn_L0)=>Zhn_L0b y.1 y.2.1 y.2.2.1 y.2.2.2.1 y.2.2.2.2.1) rounds y
def Zhn (a0:Jm) (a1:List Jf) (a2:Int):Option (Unit×Jm×Int×Int×Unit):=
 (Zaq a0).bind λr1=>bif !r1.2.1 then (Zgt a0.jg 18).bind λr2=>some ((),r2.2.1,r2.2.2.1,r2.2.2.2.1,()) else bif decide ((a1.length:Int)=0) then (Zgt a0.jg 4).bind λr3=>some ((),r3.2.1,r3.2.2.1,r3.2.2.2.1,()) else (Zhn_L0 (a1,a2,(a0,()),({},()),0,())).bind (Qh (λz10=>some ((),z10.1.1,z10.2.1,z10.2.2.1,())) (λz11=>(Zgq z11.1).bind λr12=>bif decide (256 < r12.2.1) then (Zgt z11.2.2.1.1.jg 8).bind λr13=>some ((),r13.2.1,r13.2.2.1,r13.2.2.2.1,()) else (Zgr z11.2.2.1.1.jw z11.1).bind λr14=>let v15:=Qa .i64 (16+Qa .i64 (10*(r14.2.1.length:Int)));(Zgq r14.2.1).bind λr16=>bif decide (z11.2.2.1.1.jg.jd.ja < Qa .i64 (v15+r16.2.1)) then (Zgt z11.2.2.1.1.jg 12).bind λr17=>some ((),r17.2.1,r17.2.2.1,r17.2.2.2.1,()) else ((Zgq z11.1).bind λr18=>(Zgp z11.2.2.1.1.jg).bind λr19=>bif decide (r18.2.1<=r19.2.1) then (Zeo z11.1).bind λr20=>(Zei z11.2.2.1.1.jg r20.2.1 z11.2.1).bind λr21=>some (r21.2.2.1,(z11.2.2.2.1.1,()),(r21.2.1,()),r21.2.2.2.1,()) else (Zcl r14.2.1).bind λr22=>(Zdi z11.2.2.1.1.jg r22.2.1 z11.2.1).bind λr23=>some (r23.2.2.1,(z11.2.2.2.1.1,()),(r23.2.1,()),r23.2.2.2.1,())).bind λj24=>bif !(decide (j24.2.2.2.1=0)) then (Zgt j24.2.2.1.1 j24.2.2.2.1).bind λr25=>some ((),r25.2.1,r25.2.2.1,r25.2.2.2.1,()) else (Zek j24.2.2.1.1).bind λr26=>some ((),⟨j24.2.2.1.1,r26.2.1⟩,j24.1,0,())))
def c126:=cf c125 127 [(.f qaq),ql,qc] [qaq,qa,qa] (u3 Zhn)
def s_Zhn_L2:LSpec T:=⟨[(1,ql),(2,qc),(3,qu),(6,qu),(9,qc),(10,qc)],[(.ret,[(6,qu),(7,qc),(8,qc)]),(.exit 2,[(1,ql),(2,qc),(3,qu),(6,qu),(9,qc)])],Zhn_L2,[]⟩
def s_Zhn_L0:LSpec T:=⟨[(1,ql),(2,qc),(3,qu),(6,qu),(9,qc)],[(.ret,[(6,qu),(7,qc),(8,qc)]),(.exit 0,[(1,ql),(2,qc),(3,qu),(6,qu)])],Zhn_L0,[]⟩
def A_Zhn:Loc2 T:=lcA [(2,s_Zhn_L2),(0,s_Zhn_L0)] [(24,[(2,qc),(6,qu),(12,qaf),(13,qc)],true)] [22,23,26]
theorem Vls:LO c126 Tryz.f127 2 s_Zhn_L2:=lx o125 A_Zhn dn (λ_=>rfl)
theorem Vs3:LO c126 Tryz.f127 0 s_Zhn_L0:=lx o125 A_Zhn (dc rfl Vls dn) (λ_=>rfl)
theorem o126:EO c126:=sx o125 A_Zhn Tryz.func127 (dc rfl Vls (dc rfl Vs3 dn))
def Zda (a0:Jc):Option (Unit×BitVec 64×Unit):=
 (Zhm a0.jm 1).bind λr1=>(Zgg r1.2.1).bind λr2=>some ((),r2.2.1,())
def S_Zda:FSpec T:=⟨[qas],[qp],λx=>Zda x.1⟩
theorem Vz6:SoundT Tryz.prog cd gdn 177 S_Zda:=
 sndC hmix o126 (lcA [] [] []) Tryz.func177 Vaj (by kernel_rfl) (by kernel_rfl) λx=>by kernel_rfl
def c127:List (Ct T):=⟨177,none,S_Zda,true⟩::c126
theorem o127:EnvOk Tryz.prog (mE c127):=eCons Vz6 o126
def Zfa (a0:Jc):Option (Unit×Jc×BitVec 64×Unit):=
 (Zda a0).bind λr1=>(Zdw a0.jm).bind λr2=>let v3:=Qa .i64 (r2.2.1*2 ^ min 20 (Qc .i64));let v4:=Qa .i64 ((Qb (Qc .i64) a0.jan&&&Qb (Qc .i64) 1048575).toNat:Int);(Zdz r1.2.1 [100,114,97,119] (Qa .i64 (v3+v4))).bind λr5=>some ((),{a0 with jan:=Qa .i64 (a0.jan+1)},r5.2.1,())
def c128:=cf c127 128 [qas] [qm,qp] (u1 Zfa)
theorem o128:EO c128:=sz o127 Tryz.func128
def Zar (a0:BitVec 64):Option (Unit×Jw×Unit):=
 some ((),{jao:=a0},())
def c129:=ct c128 129 [qd] [qaw] (u1 Zar)
theorem o129:EO c129:=sz o128 Tryz.func129
def Zez (a0:Jc) (a1 a2:Int):Option (Unit×Jc×Int×Int×Unit):=
 bif a0.on then some ((),a0,0,18,()) else bif decide (a1 < 0) then some ((),a0,0,9,()) else bif decide (1099511627776 < a1) then some ((),a0,0,9,()) else (Zgo a0.jm.jg.jd a2).bind λr1=>bif !(decide (r1.2.2.2.1=0)) then (Zdd a0 r1.2.1 r1.2.2.2.1).bind λr2=>some ((),r2.2.1,r2.2.2.1,r2.2.2.2.1,()) else (Zdw r1.2.1).bind λr3=>bif decide (r3.2.1=4294967295) then some ((),a0,0,13,()) else (Zhm r1.2.1 1).bind λr4=>(bif decide ((r4.2.1.length:Int)=0) then let v5:=Qa .i64 (Qa .i64 (r3.2.1+1)*2 ^ min 20 (Qc .i64));(Zde a0 v5).bind λr6=>let v7:List Jf:=[⟨1,r6.2.1⟩];bif small v7.length 32 then some (a1,r1.2.2.1,(a0,()),(({}:Jc),()),(r1.2.1,()),Qa .i64 (r3.2.1+1),v7,decide ((r4.2.1.length:Int)=0),()) else none else some (a1,r1.2.2.1,(a0,()),(({}:Jc),()),(r1.2.1,()),Qa .i64 (r3.2.1+1),[],decide ((r4.2.1.length:Int)=0),())).bind λj8=>let v9:=Qf (Qb 8 (Qk j8.2.2.2.2.2.1 (2 ^ min 24 (Qc .i64))));let v10:=Qf (Qb 8 (Qk j8.2.2.2.2.2.1 (2 ^ min 16 (Qc .i64))));let v11:=Qf (Qb 8 (Qk j8.2.2.2.2.2.1 (2 ^ min 8 (Qc .i64))));let v12:List UInt8:=[v9,v10,v11,Qf (Qb 8 j8.2.2.2.2.2.1)];bif small (j8.2.2.2.2.2.2.1.length+([⟨2,v12⟩]:List Jf).length) 32 then let v13:=j8.2.2.2.2.2.2.1++[⟨2,v12⟩];(bif j8.2.2.2.2.2.2.2.1 then (Zam ⟨0#64,j8.2.2.1.1.jl.jai,j8.2.2.1.1.jl.jas,j8.2.2.1.1.jl.jai⟩).bind λr14=>bif small (v13.length+([⟨16,r14.2.1⟩]:List Jf).length) 32 then let v15:=v13++[⟨16,r14.2.1⟩];some (j8.1,j8.2.1,(j8.2.2.1.1,()),(j8.2.2.2.1.1,()),(j8.2.2.2.2.1.1,()),v15,()) else none else some (j8.1,j8.2.1,(j8.2.2.1.1,()),(j8.2.2.2.1.1,()),(j8.2.2.2.2.1.1,()),v13,())).bind λj16=>(Zhn j16.2.2.2.2.1.1 j16.2.2.2.2.2.1 j16.2.1).bind λr17=>bif !(decide (r17.2.2.2.1=0)) then (Zdd j16.2.2.1.1 r17.2.1 r17.2.2.2.1).bind λr18=>some ((),r18.2.1,r18.2.2.1,r18.2.2.2.1,()) else let v19:Int:=bif decide (j16.2.2.1.1.now < j16.1) then j16.1 else j16.2.2.1.1.now;(Zfa ⟨j16.2.2.1.1.jl,r17.2.1,true,v19,v19,0,0,{},{}⟩).bind λr20=>(Zar r20.2.2.1).bind λr21=>some ((),{r20.2.1 with jt:=r21.2.1},r17.2.2.1,0,()) else none
def c130:=cf c129 87 [qas,qc,qc] [qm,qa,qa] (u3 Zez)
theorem o130:EO c130:=sx o129 (lcA [] [(16,[(1,qc),(2,qc),(3,qe),(6,qe),(9,qu),(11,qc),(12,qap),(13,qr)],true),(20,[(1,qc),(2,qc),(3,qe),(6,qe),(9,qu),(12,qap)],true)] []) Tryz.func87 dn
def Zes (a0:Int):Option (Unit×Ji×Unit):=
 (Zcq a0).bind λr1=>(Zga r1.2.1).bind λr2=>let v3:=Qa .i64 ((Qb (Qc .i64) a0&&&Qb (Qc .i64) 7).toNat:Int);(Zez r2.2.1 v3 (-1)).bind λr4=>some ((),⟨r4.2.1,[]⟩,())
def c131:=cf c130 41 [qc] [qx] (u1 Zes)
theorem o131:EO c131:=sz o130 Tryz.func41
def Zcj (a0:BitVec 64):Option (Unit×BitVec 64×Unit):=
 some ((),2#64+a0%2305843009213693948#64,())
def c132:=ct c131 90 [qd] [qp] (u1 Zcj)
theorem o132:EO c132:=sz o131 Tryz.func90
abbrev Y_Zhi_L0:=((BitVec 64)×(BitVec 64)×(BitVec 64)×Int×Unit)
abbrev Z_Zhi_L0:=((BitVec 64)×Unit)
def Zhi_L0b (y0 y1 y2:BitVec 64) (y3:Int):Option (Y_Zhi_L0⊕Z_Zhi_L0):=
 bif decide (0<=y3) then bif decide (y1>>>(Qb 64 y3).toNat&&&1#64=1#64) then let v1:=(y2*2#64%2305843009213693951#64+y0)%2305843009213693951#64;some (Qe (y0,y1,v1,Qa .i64 (y3 - 1),())) else some (Qe (y0,y1,y2*2#64%2305843009213693951#64,Qa .i64 (y3 - 1),())) else some (Qd (y2,()))
def Zhi_L0 (y:Y_Zhi_L0):Option Z_Zhi_L0:=
 iter (λ(y:Y_Zhi_L0)=>Zhi_L0b y.1 y.2.1 y.2.2.1 y.2.2.2.1) rounds y
def Zhi (a0 a1:BitVec 64):Option (Unit×BitVec 64×Unit):=
 (Zhi_L0 (a0%2305843009213693951#64,a1%2305843009213693951#64,0#64,60,())).bind λz2=>some ((),z2.1,())
def c133:=ct c132 130 [qd,qd] [qp] (u2 Zhi)
def s_Zhi_L0:LSpec T:=⟨[(0,qd),(1,qd),(5,qd),(6,qc)],[(.exit 0,[(5,qd)])],Zhi_L0,[]⟩
def A_Zhi:Loc2 T:=lcA [(0,s_Zhi_L0)] [] []
theorem Vs4:LO c133 Tryz.f130 0 s_Zhi_L0:=lx o132 A_Zhi dn (λ_=>rfl)
theorem o133:EO c133:=sx o132 A_Zhi Tryz.func130 (dc rfl Vs4 dn)
abbrev Y_Zfj_L0:=((BitVec 64)×(BitVec 64)×(BitVec 64)×Int×Unit)
abbrev Z_Zfj_L0:=((BitVec 64)×Unit)
def Zfj_L0b (y0 y1 y2:BitVec 64) (y3:Int):Option (Y_Zfj_L0⊕Z_Zfj_L0):=
 bif decide (0<=y3) then (Zhi y2 y2).bind λr1=>bif decide (y1>>>(Qb 64 y3).toNat&&&1#64=1#64) then (Zhi r1.2.1 y0).bind λr2=>some (Qe (y0,y1,r2.2.1,Qa .i64 (y3 - 1),())) else some (Qe (y0,y1,r1.2.1,Qa .i64 (y3 - 1),())) else some (Qd (y2,()))
def Zfj_L0 (y:Y_Zfj_L0):Option Z_Zfj_L0:=
 iter (λ(y:Y_Zfj_L0)=>Zfj_L0b y.1 y.2.1 y.2.2.1 y.2.2.2.1) rounds y
def Zfj (a0 a1:BitVec 64):Option (Unit×BitVec 64×Unit):=
 (Zfj_L0 (a0,a1,1#64,63,())).bind λz3=>some ((),z3.1,())
def c134:=ct c133 89 [qd,qd] [qp] (u2 Zfj)
def s_Zfj_L0:LSpec T:=⟨[(0,qd),(1,qd),(5,qd),(6,qc)],[(.exit 0,[(5,qd)])],Zfj_L0,[]⟩
def A_Zfj:Loc2 T:=lcA [(0,s_Zfj_L0)] [] []
theorem Vs5:LO c134 Tryz.f89 0 s_Zfj_L0:=lx o133 A_Zfj dn (λ_=>rfl)
theorem o134:EO c134:=sx o133 A_Zfj Tryz.func89 (dc rfl Vs5 dn)
def Zbj (a0:BitVec 64):Option (Unit×BitVec 64×Unit):=
 (Zcj a0).bind λr1=>(Zfj 37#64 r1.2.1).bind λr2=>some ((),r2.2.1,())
def c135:=ct c134 43 [qd] [qp] (u1 Zbj)
theorem o135:EO c135:=sz o134 Tryz.func43
def Zee (a0 a1:BitVec 64):Option (Unit×BitVec 64×Int×Unit):=
 bif decide (a1.toNat < (2#64).toNat) then some ((),0#64,9,()) else bif decide ((2305843009213693949#64).toNat < a1.toNat) then some ((),0#64,9,()) else (Zcj a0).bind λr1=>(Zfj a1 r1.2.1).bind λr2=>(passkeyref1_Words [r2.2.1]).bind λr3=>(Zge 12 r3.2.1).bind λr4=>some ((),r4.2.1,0,())
def c136:=ct c135 88 [qd,qd] [qp,qa] (u2 Zee)
theorem o136:EO c136:=sz o135 Tryz.func88
def Zhd (a0:Jc):Option (Unit×BitVec 64×Unit):=
 (Zbj a0.jt.jao).bind λr1=>(Zee 4711#64 r1.2.1).bind λr2=>some ((),r2.2.1,())
def c137:=ct c136 42 [qas] [qp] (u1 Zhd)
theorem o137:EO c137:=sz o136 Tryz.func42
def Zhc (a0:Int):Option (Unit×List UInt8×Unit):=
 let v1:List (List UInt8):=[[49,50,51,52],[53,54,55,56,97],[195,169,195,168,195,169,195,168],[48,48,48,48,48,48,48,48,48,49]];let v2:=Qa .i64 ((Qb (Qc .i64) a0&&&Qb (Qc .i64) 3).toNat:Int);bif decide (0<=v2)&&decide (v2 < 4) then v1[v2.toNat]?.bind λx3=>some ((),x3,()) else none
def c138:=ct c137 45 [qc] [qq] (u1 Zhc)
theorem o138:EO c138:=sz o137 Tryz.func45
abbrev Y_Zef_L0:=((BitVec 64)×(BitVec 64)×Int×(List (UInt8))×Int×Unit)
abbrev Z_Zef_L0:=(Int×(List (UInt8))×Unit)
def Zef_L0b (y0 y1:BitVec 64) (y2:Int) (y3:List UInt8) (y4:Int):Option (Y_Zef_L0⊕Z_Zef_L0):=
 bif decide (y3.length < y2) then (passkeyref1_Words [y1,Qb 64 y4]).bind λr2=>(Zhg y0 5 r2.2.1).bind λr3=>(passkeyref1_Words [r3.2.1]).bind λr4=>bif small (y3.length+(r4.2.1:List UInt8).length) 1 then some (Qe (y0,y1,y2,y3++r4.2.1,Qa .i64 (y4+1),())) else none else some (Qd (y2,y3,()))
def Zef_L0 (y:Y_Zef_L0):Option Z_Zef_L0:=
 iter (λ(y:Y_Zef_L0)=>Zef_L0b y.1 y.2.1 y.2.2.1 y.2.2.2.1 y.2.2.2.2.1) rounds y
def Zef (a0 a1:BitVec 64) (a2:Int):Option (Unit×List UInt8×Unit):=
 let v1:Int:=bif decide (1024 < (bif decide (a2 < 0) then (0:Int) else a2)) then 1024 else bif decide (a2 < 0) then 0 else a2;(Zef_L0 (a0,a1,v1,[],0,())).bind λz5=>bif decide (0<=z5.1)&&decide (z5.1<=z5.2.1.length) then bif decide (z5.1.toNat<=z5.2.1.length) then some ((),Qg z5.1.toNat z5.2.1,()) else none else none
def c139:=cf c138 147 [qd,qd,qc] [qj] (u3 Zef)
def s_Zef_L0:LSpec T:=⟨[(0,qd),(1,qd),(2,qc),(7,qae),(8,qc)],[(.exit 0,[(2,qc),(7,qae)])],Zef_L0,[]⟩
def A_Zef:Loc2 T:=lcA [(0,s_Zef_L0)] [] []
theorem Vs6:LO c139 Tryz.f147 0 s_Zef_L0:=lx o138 A_Zef dn (λ_=>rfl)
theorem o139:EO c139:=sx o138 A_Zef Tryz.func147 (dc rfl Vs6 dn)
abbrev Y_Zhk_L0:=((List (UInt8))×(List (UInt8))×(List (UInt8))×Int×Unit)
abbrev Z_Zhk_L0:=((List (UInt8))×Unit)
def Zhk_L0b (y0 y1 y2:List UInt8) (y3:Int):Option (Y_Zhk_L0⊕Z_Zhk_L0):=
 bif decide (y3 < y0.length) then (getI y0 y3).bind λx2=>bif decide (0<=y3)&&decide (y3 < y1.length) then y1[y3.toNat]?.bind λx3=>let v4:List UInt8:=[Qf (x2.toBitVec ^^^ x3.toBitVec)];bif small (y2.length+(v4:List UInt8).length) 1 then some (Qe (y0,y1,y2++v4,Qa .i64 (y3+1),())) else none else none else some (Qd (y2,()))
def Zhk_L0 (y:Y_Zhk_L0):Option Z_Zhk_L0:=
 iter (λ(y:Y_Zhk_L0)=>Zhk_L0b y.1 y.2.1 y.2.2.1 y.2.2.2.1) rounds y
def Zhk (a0 a1:BitVec 64) (a2:List UInt8):Option (Unit×List UInt8×Unit):=
 (Zef a0 a1 (a2.length:Int)).bind λr1=>(Zhk_L0 (a2,r1.2.1,[],0,())).bind λz5=>some ((),z5.1,())
def c140:=cf c139 98 [qd,qd,qg] [qj] (u3 Zhk)
def s_Zhk_L0:LSpec T:=⟨[(2,qg),(7,qae),(8,qae),(9,qc)],[(.exit 0,[(8,qae)])],Zhk_L0,[]⟩
def A_Zhk:Loc2 T:=lcA [(0,s_Zhk_L0)] [] []
theorem Vs7:LO c140 Tryz.f98 0 s_Zhk_L0:=lx o139 A_Zhk dn (λ_=>rfl)
theorem o140:EO c140:=sx o139 A_Zhk Tryz.func98 (dc rfl Vs7 dn)
def Zhl (a0 a1:BitVec 64) (a2 a3:List UInt8):Option (Unit×BitVec 64×Unit):=
 let v1:List (BitVec 64):=[a1,Qb 64 (a2.length:Int)];(passkeyref1_Words v1).bind λr2=>bif small (r2.2.1.length+(a2:List UInt8).length) 1 then bif small ((r2.2.1++a2).length+(a3:List UInt8).length) 1 then (Zhg a0 6 (r2.2.1++a2++a3)).bind λr3=>some ((),r3.2.1,()) else none else none
def c141:=ct c140 99 [qd,qd,qg,qg] [qp] (u4 Zhl)
theorem o141:EO c141:=sz o140 Tryz.func99
def Zgl (a0 a1:BitVec 64) (a2 a3:List UInt8):Option (Unit×List UInt8×Int×Unit):=
 bif decide (1024 < (a3.length:Int)) then some ((),[],8,()) else bif decide (1024 < (a2.length:Int)) then some ((),[],8,()) else (Zhk a0 a1 a3).bind λr1=>(passkeyref1_Words [a1]).bind λr2=>bif small (r2.2.1.length+(r1.2.1:List UInt8).length) 1 then (Zhl a0 a1 a2 r1.2.1).bind λr3=>(passkeyref1_Words [r3.2.1]).bind λr4=>bif small ((r2.2.1++r1.2.1).length+(r4.2.1:List UInt8).length) 1 then some ((),r2.2.1++r1.2.1++r4.2.1,0,()) else none else none
def c142:=cf c141 58 [qd,qd,qg,qg] [qj,qa] (u4 Zgl)
theorem o142:EO c142:=sz o141 Tryz.func58
def Zce (a0 a1:BitVec 64) (a2:List UInt8):Option (Unit×List UInt8×Int×Unit):=
 bif decide (63 < (a2.length:Int)) then some ((),[],8,()) else let v1:=Qm 64 (0:UInt8);bif decide ((a2:List UInt8).length<=v1.length) then let v2:=a2++Qj (a2:List UInt8).length v1;(Zgl a0 a1 [] v2).bind λr3=>some ((),r3.2.1,r3.2.2.1,()) else none
def c143:=cf c142 44 [qd,qd,qar] [qj,qa] (u3 Zce)
theorem o143:EO c143:=sz o142 Tryz.func44
def Zdv (a0:Jc) (a1:Int) (a2:Jb) (a3:List Jl) (a4 a5:Int):Option (Unit×Jd×Int×Unit):=
 (bif !a0.on then some (a1,a3,a4,a5,(a0,()),(a2,()),(17:Int),()) else bif decide (a1 < 0) then some (a1,a3,a4,a5,(a0,()),(a2,()),(9:Int),()) else bif decide (1099511627776 < a1) then some (a1,a3,a4,a5,(a0,()),(a2,()),(9:Int),()) else bif !(decide (a2.kind=a5)) then some (a1,a3,a4,a5,(a0,()),(a2,()),(3:Int),()) else (Zbu a2).bind λr1=>some (a1,a3,a4,a5,(a0,()),(a2,()),r1.2.1,())).bind λj2=>bif !(decide (j2.2.2.2.2.2.2.1=0)) then none else let v3:Int:=bif decide (j2.2.2.2.2.1.1.now < j2.1) then j2.1 else j2.2.2.2.2.1.1.now;bif !(decide (j2.2.2.2.1=4)) then some ((),⟨{j2.2.2.2.2.1.1 with now:=v3,next:={}},j2.2.2.2.2.2.1.1,j2.2.1,j2.2.2.1,{},0⟩,0,()) else some ((),⟨{j2.2.2.2.2.1.1 with now:=v3},j2.2.2.2.2.2.1.1,j2.2.1,j2.2.2.1,{},0⟩,0,())
def c144:=cf c143 178 [qas,qc,qay,qw,qc,qc] [(.pt (.agg 29)),qa] λx=>Zdv x.1 x.2.1 x.2.2.1 x.2.2.2.1 x.2.2.2.2.1 x.2.2.2.2.2.1
theorem o144:EO c144:=sx o143 (lcA [] [(9,[(1,qc),(3,qw),(4,qc),(5,qc),(6,qe),(8,qy),(14,qc)],true)] []) Tryz.func178 dn
def Zaa (a0:Jg):Option (Unit×Int×Unit):=
 (Zcz (a0.rP.length:Int) 1 64).bind λr1=>bif !r1.2.1 then some ((),9,()) else (Zcz (a0.user.length:Int) 1 16).bind λr2=>bif !r2.2.1 then some ((),9,()) else bif decide (32 < (a0.name.length:Int)) then some ((),9,()) else (Zcz a0.jc 1 4).bind λr3=>bif !r3.2.1 then some ((),9,()) else (Zcz a0.jf 1 3).bind λr4=>bif !r4.2.1 then some ((),9,()) else (Zgv a0.rP).bind λr5=>bif !r5.2.1 then some ((),6,()) else (Zgv a0.name).bind λr6=>bif !r6.2.1 then some ((),6,()) else bif a0.jo then bif !a0.ji then some ((),18,()) else bif a0.jah then bif !a0.jo then some ((),18,()) else some ((),0,()) else some ((),0,()) else bif a0.jah then bif !a0.jo then some ((),18,()) else some ((),0,()) else some ((),0,())
def c145:=ct c144 148 [(.f qaj)] [qa] (u1 Zaa)
theorem o145:EO c145:=sz o144 Tryz.func148
def Zbh (a0:Jd×Unit) (a1:Int):Option (((Jd×Unit)×Unit)×Bool×Unit):=
 bif decide (a0.1.err=0) then some ((({a0.1 with err:=a1},()),()),!(decide (a1=0)),()) else some (((a0.1,()),()),!(decide (a0.1.err=0)),())
def S_Zbh:FSpec T:=⟨[qk,qc],[qf],λx=>Zbh x.1 x.2.1⟩
theorem Vz7:SoundT Tryz.prog cd gdn 183 S_Zbh:=
 sndC hmix o145 (lcA [] [] []) Tryz.func183 Vaj (by kernel_rfl) (by kernel_rfl) λx=>by kernel_rfl
def c146:List (Ct T):=⟨183,none,S_Zbh,false⟩::c145
theorem o146:EnvOk Tryz.prog (mE c146):=eCons Vz7 o145
def Zbv (a0:Jd×Unit):Option (((Jd×Unit)×Unit)×Jc×Jj×Int×Unit):=
 bif !(decide (a0.1.err=0)) then some (((a0.1,()),()),a0.1.d,{err:=a0.1.err},a0.1.jz,()) else some (((a0.1,()),()),a0.1.d,a0.1.jh,a0.1.jz,())
def c147:=cf c146 182 [qk] [qm,qac,qa] (u1 Zbv)
theorem o147:EO c147:=sx o146 (lcA [] [] [2,3]) Tryz.func182 dn
def Zbf (a0 a1:BitVec 64):Option (Unit×BitVec 64×Unit):=
 (passkeyref1_Words [a1]).bind λr1=>(Zhg a0 12 r1.2.1).bind λr2=>some ((),r2.2.1,())
def c148:=ct c147 95 [qd,qd] [qp] (u2 Zbf)
theorem o148:EO c148:=sz o147 Tryz.func95
def Zan (a0:Jw) (a1 a2:Int) (a3:List UInt8) (a4 a5:BitVec 64):Option (Unit×Int×Unit):=
 (bif decide (a0.jaq<=a1) then some (a1,a2,a3,a4,a5,(a0,()),decide ((100#64).toNat < (Qb 64 a1 - Qb 64 a0.jaq).toNat),()) else some (a1,a2,a3,a4,a5,(a0,()),false,())).bind λj1=>bif !j1.2.2.2.2.2.1.1.jap then some ((),29,()) else bif decide (j1.1 < j1.2.2.2.2.2.1.1.jaq) then some ((),29,()) else bif j1.2.2.2.2.2.2.1 then some ((),29,()) else bif decide (j1.2.1 < 1) then some ((),29,()) else bif decide (7 < j1.2.1) then some ((),29,()) else let v2:=Qa .i64 ((Qb (Qc .i64) j1.2.2.2.2.2.1.1.jb&&&Qb (Qc .i64) j1.2.1).toNat:Int);bif !(decide (v2=j1.2.1)) then some ((),29,()) else bif !(decide (j1.2.2.2.2.2.1.1.rP=([]:List UInt8))) then bif !(decide (j1.2.2.2.2.2.1.1.rP=j1.2.2.1)) then some ((),29,()) else (Zbf j1.2.2.2.2.2.1.1.value j1.2.2.2.1).bind λr3=>bif !(decide (j1.2.2.2.2.1=r3.2.1)) then some ((),29,()) else some ((),0,()) else (Zbf j1.2.2.2.2.2.1.1.value j1.2.2.2.1).bind λr4=>bif !(decide (j1.2.2.2.2.1=r4.2.1)) then some ((),29,()) else some ((),0,())
def c149:=ct c148 247 [(.f qaw),qc,qc,qar,qd,qd] [qa] λx=>Zan x.1 x.2.1 x.2.2.1 x.2.2.2.1 x.2.2.2.2.1 x.2.2.2.2.2.1
theorem o149:EO c149:=sx o148 (lcA [] [(2,[(1,qc),(2,qc),(3,qar),(4,qd),(5,qd),(6,(.ptr [qaw])),(13,qr)],true)] []) Tryz.func247 dn
def Zaf (a0:Jd×Unit) (a1:Int) (a2:List UInt8):Option (((Jd×Unit)×Unit)×Bool×Unit):=
 bif !a0.1.r.jk then some (((a0.1,()),()),false,()) else (Zcv a0.1.r).bind λr1=>(Zan a0.1.d.jt a0.1.d.now a1 a2 r1.2.1 a0.1.r.auth).bind λr2=>(Zbh (a0.1,()) r2.2.1).bind λr3=>some (((r3.1.1.1,()),()),decide (r3.1.1.1.err=0),())
def c150:=cf c149 184 [qk,qc,qar] [qf] (u3 Zaf)
theorem o150:EO c150:=sz o149 Tryz.func184
def Zgc (a0:Jc):Option (Unit×Jq×Unit):=
 (Zhm a0.jm 3).bind λr1=>bif decide ((r1.2.1.length:Int)=0) then some ((),{jab:=a0.jab},()) else (Zgg r1.2.1).bind λr2=>(Zhm a0.jm 4).bind λr3=>bif decide ((r3.2.1.length:Int)=1) then bif decide (0 < (r3.2.1.length:Int)) then r3.2.1[0]?.bind λx4=>some ((),⟨true,r2.2.1,(x4.toBitVec.toNat:Int),a0.jab⟩,()) else none else some ((),⟨true,r2.2.1,0,a0.jab⟩,())
def S_Zgc:FSpec T:=⟨[qas],[qa9],λx=>Zgc x.1⟩
theorem Vz8:SoundT Tryz.prog cd gdn 179 S_Zgc:=
 sndC hmix o150 (lcA [] [] [4]) Tryz.func179 Vaj (by kernel_rfl) (by kernel_rfl) λx=>by kernel_rfl
def c151:List (Ct T):=⟨179,none,S_Zgc,true⟩::c150
theorem o151:EnvOk Tryz.prog (mE c151):=eCons Vz8 o150
abbrev Y_Zdp_L2:=(Int×Bool×Bool×(List (Jl))×(Jo×Unit)×Int×Int×Unit)
abbrev Z_Zdp_L2:=(((Jo×Unit)×Int×Unit)⊕(Int×Bool×Bool×(List (Jl))×(Jo×Unit)×Int×Unit))
def Zdp_L2b (y0:Int) (y1 y2:Bool) (y3:List Jl) (y4:Jo×Unit) (y5 y6:Int):Option (Y_Zdp_L2⊕Z_Zdp_L2):=
 bif decide (y6 < y3.length) then (getI y3 y6).bind λx4=>bif !(decide (x4.at_=y5)) then some (Qe (y0,y1,y2,y3,(y4.1,()),y5,Qa .i64 (y6+1),())) else ((getI y3 y6).bind λx5=>bif decide (x5.kind=1) then some (y0,y1,y2,y3,(y4.1,()),y5,y6,true,()) else (getI y3 y6).bind λx6=>bif decide (x6.kind=2) then bif !y1 then some (y0,y1,y2,y3,(y4.1,()),y5,y6,true,()) else (getI y3 y6).bind λx7=>bif decide (x7.kind=3) then some (y0,y1,y2,y3,(y4.1,()),y5,y6,!y2,()) else some (y0,y1,y2,y3,(y4.1,()),y5,y6,false,()) else (getI y3 y6).bind λx8=>bif decide (x8.kind=3) then some (y0,y1,y2,y3,(y4.1,()),y5,y6,!y2,()) else some (y0,y1,y2,y3,(y4.1,()),y5,y6,false,())).bind λj9=>(bif j9.2.2.2.2.2.2.2.1 then some (j9.1,j9.2.1,j9.2.2.1,j9.2.2.2.1,(j9.2.2.2.2.1.1,()),j9.2.2.2.2.2.1,j9.2.2.2.2.2.2.1,!j9.2.2.1,()) else some (j9.1,j9.2.1,j9.2.2.1,j9.2.2.2.1,(j9.2.2.2.2.1.1,()),j9.2.2.2.2.2.1,j9.2.2.2.2.2.2.1,false,())).bind λj10=>bif j10.2.2.2.2.2.2.2.1 then some (Qd (Qe ((⟨true,false,j10.2.2.2.2.2.1⟩,()),0,()))) else ((getI j10.2.2.2.1 j10.2.2.2.2.2.2.1).bind λx11=>bif decide (x11.kind=2) then some (j10.1,j10.2.1,j10.2.2.1,j10.2.2.2.1,(j10.2.2.2.2.1.1,()),j10.2.2.2.2.2.1,j10.2.2.2.2.2.2.1,j10.2.1,()) else some (j10.1,j10.2.1,j10.2.2.1,j10.2.2.2.1,(j10.2.2.2.2.1.1,()),j10.2.2.2.2.2.1,j10.2.2.2.2.2.2.1,false,())).bind λj12=>bif j12.2.2.2.2.2.2.2.1 then some (Qd (Qe ((⟨true,true,j12.2.2.2.2.2.1⟩,()),0,()))) else ((getI j12.2.2.2.1 j12.2.2.2.2.2.2.1).bind λx13=>bif decide (x13.kind=3) then bif j12.2.2.1 then some (j12.1,j12.2.1,j12.2.2.1,j12.2.2.2.1,(j12.2.2.2.2.1.1,()),j12.2.2.2.2.2.1,j12.2.2.2.2.2.2.1,true,()) else (getI j12.2.2.2.1 j12.2.2.2.2.2.2.1).bind λx14=>some (j12.1,j12.2.1,j12.2.2.1,j12.2.2.2.1,(j12.2.2.2.2.1.1,()),j12.2.2.2.2.2.1,j12.2.2.2.2.2.2.1,decide (x14.kind=4),()) else (getI j12.2.2.2.1 j12.2.2.2.2.2.2.1).bind λx15=>some (j12.1,j12.2.1,j12.2.2.1,j12.2.2.2.1,(j12.2.2.2.2.1.1,()),j12.2.2.2.2.2.1,j12.2.2.2.2.2.2.1,decide (x15.kind=4),())).bind λj16=>bif j16.2.2.2.2.2.2.2.1 then some (Qd (Qe (({},()),20,()))) else (getI j16.2.2.2.1 j16.2.2.2.2.2.2.1).bind λx17=>bif decide (x17.kind=5) then some (Qd (Qe (({},()),21,()))) else some (Qe (j16.1,j16.2.1,j16.2.2.1,j16.2.2.2.1,(j16.2.2.2.2.1.1,()),j16.2.2.2.2.2.1,Qa .i64 (j16.2.2.2.2.2.2.1+1),())) else some (Qd (Qd (y0,y1,y2,y3,(y4.1,()),y5,())))
def Zdp_L2 (y:Y_Zdp_L2):Option Z_Zdp_L2:=
 iter (λ(y:Y_Zdp_L2)=>Zdp_L2b y.1 y.2.1 y.2.2.1 y.2.2.2.1 y.2.2.2.2.1 y.2.2.2.2.2.1 y.2.2.2.2.2.2.1) rounds y
abbrev Y_Zdp_L0:=(Int×Bool×Bool×(List (Jl))×(Jo×Unit)×Int×Unit)
abbrev Z_Zdp_L0:=(((Jo×Unit)×Int×Unit)⊕((Jo×Unit)×Unit))
def Zdp_L0b (y0:Int) (y1 y2:Bool) (y3:List Jl) (y4:Jo×Unit) (y5:Int):Option (Y_Zdp_L0⊕Z_Zdp_L0):=
 let v3:Int:=bif decide (1099511627776 < Qa .i64 (y0+30)) then 1099511627776 else Qa .i64 (y0+30);bif decide (y5<=v3) then (Zdp_L2 (y0,y1,y2,y3,(y4.1,()),y5,0,())).bind (Qh (λz4=>some (Qd (Qe ((z4.1.1,()),z4.2.1,())))) (λz5=>some (Qe (z5.1,z5.2.1,z5.2.2.1,z5.2.2.2.1,(z5.2.2.2.2.1.1,()),Qa .i64 (z5.2.2.2.2.2.1+1),())))) else some (Qd (Qd ((y4.1,()),())))
def Zdp_L0 (y:Y_Zdp_L0):Option Z_Zdp_L0:=
 iter (λ(y:Y_Zdp_L0)=>Zdp_L0b y.1 y.2.1 y.2.2.1 y.2.2.2.1 y.2.2.2.2.1 y.2.2.2.2.2.1) rounds y
def Zdp (a0:Int) (a1 a2:Bool) (a3:List Jl):Option (Unit×Jo×Int×Unit):=
 (bif decide (a0 < 0) then (some ((),({}:Jo),(9:Int),())).bind λq=>some (Qd q) else bif decide (1099511627776 < a0) then (some ((),({}:Jo),(9:Int),())).bind λq=>some (Qd q) else some (Qe (a0,a1,a2,a3,(({}:Jo),()),()))).bind (Qh (λj1=>(bif j1.2.2.1 then bif !j1.2.1 then (some ((),({}:Jo),(23:Int),())).bind λq=>some (Qd q) else some (Qe (j1.1,j1.2.1,j1.2.2.1,j1.2.2.2.1,(j1.2.2.2.2.1.1,()),())) else some (Qe (j1.1,j1.2.1,j1.2.2.1,j1.2.2.2.1,(j1.2.2.2.2.1.1,()),()))).bind (Qh (λj2=>(Zdp_L0 (j2.1,j2.2.1,j2.2.2.1,j2.2.2.2.1,(j2.2.2.2.2.1.1,()),Qa .i64 (j2.1+1),())).bind (Qh (λz6=>some ((),z6.1.1,z6.2.1,())) (λz7=>some ((),{},19,())))) some)) some)
def c152:=ct c151 248 [qc,qr,qr,qw] [(.v (.agg 32)),qa] (u4 Zdp)
def s_Zdp_L2:LSpec T:=⟨[(0,qc),(1,qr),(2,qr),(3,qw),(8,qo),(10,qc),(11,qc)],[(.ret,[(8,qo),(9,qc)]),(.exit 2,[(0,qc),(1,qr),(2,qr),(3,qw),(8,qo),(10,qc)])],Zdp_L2,[]⟩
def s_Zdp_L0:LSpec T:=⟨[(0,qc),(1,qr),(2,qr),(3,qw),(8,qo),(10,qc)],[(.ret,[(8,qo),(9,qc)]),(.exit 0,[(8,qo)])],Zdp_L0,[]⟩
def A_Zdp:Loc2 T:=lcA [(2,s_Zdp_L2),(0,s_Zdp_L0)] [(3,[(0,qc),(1,qr),(2,qr),(3,qw),(8,qo)],false),(5,[(0,qc),(1,qr),(2,qr),(3,qw),(8,qo)],false),(13,[(0,qc),(1,qr),(2,qr),(3,qw),(8,qo),(10,qc),(11,qc),(12,qr)],true),(14,[(0,qc),(1,qr),(2,qr),(3,qw),(8,qo),(10,qc),(11,qc),(78,qr)],true),(16,[(0,qc),(1,qr),(2,qr),(3,qw),(8,qo),(10,qc),(11,qc),(86,qr)],true),(18,[(0,qc),(1,qr),(2,qr),(3,qw),(8,qo),(10,qc),(11,qc),(98,qr)],true)] []
theorem Vlt:LO c152 Tryz.f248 2 s_Zdp_L2:=lx o151 A_Zdp dn (λ_=>rfl)
theorem Vs8:LO c152 Tryz.f248 0 s_Zdp_L0:=lx o151 A_Zdp (dc rfl Vlt dn) (λ_=>rfl)
theorem o152:EO c152:=sx o151 A_Zdp Tryz.func248 (dc rfl Vlt (dc rfl Vs8 dn))
def Zau (a0:Jd×Unit) (a1:Bool):Option (((Jd×Unit)×Unit)×Jo×Unit):=
 bif !(decide (a0.1.err=0)) then some (((a0.1,()),()),{},()) else (Zdp a0.1.d.now a0.1.d.jl.jak a1 a0.1.g).bind λr1=>bif decide (r1.2.2.1=0) then (Zbh ({a0.1 with d:={a0.1.d with now:=r1.2.1.at_}},()) r1.2.2.1).bind λr2=>some (((r2.1.1.1,()),()),r1.2.1,()) else (Zbh (a0.1,()) r1.2.2.1).bind λr3=>some (((r3.1.1.1,()),()),r1.2.1,())
def c153:=cf c152 185 [qk,qr] [(.v (.agg 32))] (u2 Zau)
theorem o153:EO c153:=sx o152 (lcA [] [] [3]) Tryz.func185 dn
def Zbg (a0:Jd×Unit):Option (((Jd×Unit)×Unit)×BitVec 64×Unit):=
 (Zfa a0.1.d).bind λr1=>some ((({a0.1 with d:=r1.2.1},()),()),r1.2.2.1,())
def c154:=cf c153 190 [qk] [qp] (u1 Zbg)
theorem o154:EO c154:=sz o153 Tryz.func190
abbrev Y_Zae_L0:=((List (Ja))×(List (Ja))×Int×Unit)
abbrev Z_Zae_L0:=((List (Ja))×Unit)
def Zae_L0b (y0 y1:List Ja) (y2:Int):Option (Y_Zae_L0⊕Z_Zae_L0):=
 bif decide (y2 < y0.length) then (Zcy (Qb 64 (Qa .i64 (y2+1)))).bind λr13=>bif decide (0<=y2)&&decide (y2 < y0.length) then y0[y2.toNat]?.bind λx14=>bif small (y1.length+([r13.2.1,x14]).length) 32 then let v15:=y1++[r13.2.1,x14];some (Qe (y0,v15,Qa .i64 (y2+1),())) else none else none else some (Qd (y1,()))
def Zae_L0 (y:Y_Zae_L0):Option Z_Zae_L0:=
 iter (λ(y:Y_Zae_L0)=>Zae_L0b y.1 y.2.1 y.2.2.1) rounds y
def Zae (a0:Jg):Option (Unit×List UInt8×Int×Unit):=
 (Zaa a0).bind λr1=>bif !(decide (r1.2.1=0)) then some ((),[],r1.2.1,()) else (Zex a0.rP).bind λr2=>(Zeu a0.user).bind λr3=>(Zex a0.name).bind λr4=>(Zcy a0.jag).bind λr5=>(Zcy (Qb 64 a0.jc)).bind λr6=>(Zcg a0.ji).bind λr7=>(Zcy (Qb 64 a0.jf)).bind λr8=>(Zcg a0.jo).bind λr9=>(Zcg a0.jah).bind λr10=>let v11:List Ja:=[r2.2.1,r3.2.1,r4.2.1,r5.2.1,r6.2.1,r7.2.1,r8.2.1,r9.2.1,r10.2.1];let v12:List Ja:=[⟨6,9#64,[]⟩];(Zae_L0 (v11,v12,0,())).bind λz16=>(Zea z16.1).bind λr17=>some ((),r17.2.1,r17.2.2.1,())
def c155:=cf c154 97 [(.f qaj)] [qj,qa] (u1 Zae)
def s_Zae_L0:LSpec T:=⟨[(5,qal),(6,qal),(7,qc)],[(.exit 0,[(6,qal)])],Zae_L0,[]⟩
def A_Zae:Loc2 T:=lcA [(0,s_Zae_L0)] [] []
theorem Vs9:LO c155 Tryz.f97 0 s_Zae_L0:=lx o154 A_Zae dn (λ_=>rfl)
theorem o155:EO c155:=sx o154 A_Zae Tryz.func97 (dc rfl Vs9 dn)
def Zch (a0:BitVec 64):Option (Unit×BitVec 64×Unit):=
 (Zdz a0 [119,114,97,112] 0).bind λr1=>some ((),r1.2.1,())
def c156:=ct c155 252 [qd] [qp] (u1 Zch)
theorem o156:EO c156:=sz o155 Tryz.func252
def Zcw (a0:List UInt8):Option (Unit×BitVec 64×Unit):=
 (Zge 9 a0).bind λr1=>some ((),r1.2.1,())
def c157:=ct c156 195 [qar] [qp] (u1 Zcw)
theorem o157:EO c157:=sz o156 Tryz.func195
def Zhe (a0 a1:BitVec 64) (a2:Jg):Option (Unit×List UInt8×Int×Unit):=
 (Zae a2).bind λr1=>bif !(decide (r1.2.2.1=0)) then some ((),[],r1.2.2.1,()) else bif a2.ji then (Zdz a2.jag [105,100] 0).bind λr2=>(Zef r2.2.1 0#64 176).bind λr3=>some ((),r3.2.1,0,()) else let v4:=Qm 160 (0:UInt8);bif decide ((r1.2.1:List UInt8).length<=v4.length) then let v5:=r1.2.1++Qj (r1.2.1:List UInt8).length v4;(Zch a0).bind λr6=>(Zcw a2.rP).bind λr7=>(passkeyref1_Words [r7.2.1]).bind λr8=>(Zgl r6.2.1 a1 r8.2.1 v5).bind λr9=>some ((),r9.2.1,r9.2.2.1,()) else none
def c158:=cf c157 191 [qd,qd,(.f qaj)] [qj,qa] (u3 Zhe)
theorem o158:EO c158:=sz o157 Tryz.func191
def Zfy (a0:List UInt8):Option (Unit×BitVec 64×Unit):=
 (Zge 10 a0).bind λr1=>some ((),r1.2.1,())
def c159:=ct c158 250 [qg] [qp] (u1 Zfy)
theorem o159:EO c159:=sz o158 Tryz.func250
abbrev Y_Zay_L1:=(((List UInt8)×Int×(List (Ja))×Unit)×(Ja×Unit)×Int×Int×(BitVec 64)×Int×Unit)
abbrev Z_Zay_L1:=(((List UInt8)×Int×(List (Ja))×Unit)×(Ja×Unit)×Int×Int×(BitVec 64)×Unit)
def Zay_L1b (y0:List UInt8×Int×List Ja×Unit) (y1:Ja×Unit) (y2 y3:Int) (y4:BitVec 64) (y5:Int):Option (Y_Zay_L1⊕Z_Zay_L1):=
 bif decide (y5 < y3) then let v12:=Qa .i64 (Qa .i64 (y0.2.1+1)+y5);(getI y0.1 v12).bind λx13=>some (Qe ((y0.1,y0.2.1,y0.2.2.1,()),(y1.1,()),y2,y3,y4 <<< 8 ||| Qi 64 x13.toBitVec,Qa .i64 (y5+1),())) else some (Qd ((y0.1,y0.2.1,y0.2.2.1,()),(y1.1,()),y2,y3,y4,()))
def Zay_L1 (y:Y_Zay_L1):Option Z_Zay_L1:=
 iter (λ(y:Y_Zay_L1)=>Zay_L1b y.1 y.2.1 y.2.2.1 y.2.2.2.1 y.2.2.2.2.1 y.2.2.2.2.2.1) rounds y
def Zay (a0:List UInt8×Int×List Ja×Unit):Option (((List UInt8×Int×List Ja×Unit)×Unit)×Ja×Int×Unit):=
 bif decide (a0.1.length<=a0.2.1) then some (((a0.1,a0.2.1,a0.2.2.1,()),()),{},1,()) else (getI a0.1 a0.2.1).bind λx1=>(bif decide (x1.toBitVec=(244:UInt8).toBitVec) then bif decide (x1.toBitVec=(244:UInt8).toBitVec) then let v2:=Qi 64 (Qf (x1.toBitVec - (244:UInt8).toBitVec)).toBitVec;(some (((a0.1,Qa .i64 (a0.2.1+1),a0.2.2.1,()),()),(⟨7,v2,[]⟩:Ja),(0:Int),())).bind λq=>some (Qd q) else bif decide (x1.toBitVec=(246:UInt8).toBitVec) then (some (((a0.1,Qa .i64 (a0.2.1+1),a0.2.2.1,()),()),({kind:=8}:Ja),(0:Int),())).bind λq=>some (Qd q) else some (Qe ((a0.1,a0.2.1,a0.2.2.1,()),(({}:Ja),()),x1,())) else bif decide (x1.toBitVec=(245:UInt8).toBitVec) then let v3:=Qi 64 (Qf (x1.toBitVec - (244:UInt8).toBitVec)).toBitVec;(some (((a0.1,Qa .i64 (a0.2.1+1),a0.2.2.1,()),()),(⟨7,v3,[]⟩:Ja),(0:Int),())).bind λq=>some (Qd q) else bif decide (x1.toBitVec=(246:UInt8).toBitVec) then (some (((a0.1,Qa .i64 (a0.2.1+1),a0.2.2.1,()),()),({kind:=8}:Ja),(0:Int),())).bind λq=>some (Qd q) else some (Qe ((a0.1,a0.2.1,a0.2.2.1,()),(({}:Ja),()),x1,()))).bind (Qh (λj4=>let v5:=((Qf (j4.2.2.1.toBitVec>>>5)).toBitVec.toNat:Int);let v6:=Qf (j4.2.2.1.toBitVec&&&(31:UInt8).toBitVec);bif decide (5 < v5) then some (((j4.1.1,j4.1.2.1,j4.1.2.2.1,()),()),{},2,()) else bif decide (27 < (v6.toBitVec.toNat:Int)) then some (((j4.1.1,j4.1.2.1,j4.1.2.2.1,()),()),{},2,()) else (bif decide (24<=(v6.toBitVec.toNat:Int)) then let v7:=Qb 64 (Qa .i64 ((v6.toBitVec.toNat:Int) - 24));let v8:=Qa .i64 (1*2 ^ min v7.toNat (Qc .i64));some ((j4.1.1,j4.1.2.1,j4.1.2.2.1,()),(j4.2.1.1,()),v5,(v6.toBitVec.toNat:Int),v8,()) else some ((j4.1.1,j4.1.2.1,j4.1.2.2.1,()),(j4.2.1.1,()),v5,(v6.toBitVec.toNat:Int),(0:Int),())).bind λj9=>let v10:=Qa .i64 (Qa .i64 ((j9.1.1.length:Int) - j9.1.2.1) - 1);bif decide (v10 < j9.2.2.2.2.1) then some (((j9.1.1,j9.1.2.1,j9.1.2.2.1,()),()),{},1,()) else (bif decide (0 < j9.2.2.2.2.1) then some ((j9.1.1,j9.1.2.1,j9.1.2.2.1,()),(j9.2.1.1,()),j9.2.2.1,j9.2.2.2.2.1,0#64,()) else some ((j9.1.1,j9.1.2.1,j9.1.2.2.1,()),(j9.2.1.1,()),j9.2.2.1,j9.2.2.2.2.1,Qb 64 j9.2.2.2.1,())).bind λj11=>(Zay_L1 ((j11.1.1,j11.1.2.1,j11.1.2.2.1,()),(j11.2.1.1,()),j11.2.2.1,j11.2.2.2.1,j11.2.2.2.2.1,0,())).bind λz14=>let v15:List (BitVec 64):=[0#64,24#64,256#64,0#64,65536#64,0#64,0#64,0#64,4294967296#64];bif decide (0<=z14.2.2.2.1)&&decide (z14.2.2.2.1 < 9) then v15[z14.2.2.2.1.toNat]?.bind λx16=>bif decide (z14.2.2.2.2.1.toNat < x16.toNat) then some (((z14.1.1,z14.1.2.1,z14.1.2.2.1,()),()),{},2,()) else let v17:=Qa .i64 (z14.1.2.1+Qa .i64 (1+z14.2.2.2.1));let v18:List Int:=[1,2,3,4,5,6];bif decide (0<=z14.2.2.1)&&decide (z14.2.2.1 < 6) then v18[z14.2.2.1.toNat]?.bind λx19=>some (((z14.1.1,v17,z14.1.2.2.1,()),()),⟨x19,z14.2.2.2.2.1,[]⟩,0,()) else none else none) some)
def S_Zay:FSpec T:=⟨[qag],[qz,qa],λx=>Zay x.1⟩
def s_Zay_L1:LSpec T:=⟨[(0,qag),(2,qa4),(5,qc),(7,qc),(8,qd),(9,qc)],[(.exit 1,[(0,qag),(2,qa4),(5,qc),(7,qc),(8,qd)])],Zay_L1,[]⟩
def A_Zay:Loc2 T:=lcA [(1,s_Zay_L1)] [(12,[(0,qag),(2,qa4),(4,qa1)],false),(18,[(0,qag),(2,qa4),(5,qc),(6,qc),(7,qc)],true),(23,[(0,qag),(2,qa4),(5,qc),(7,qc),(8,qd)],true)] []
theorem Vta:LoopOk Tryz.prog (mE c159) Tryz.f293.ntmps (kqOf S_Zay.ps 0) (loopAt 1 (bodyOf Tryz.f293)) s_Zay_L1:=
 lpC hmix o159 A_Zay Vaj 1 (st:=λy=>Zay_L1b y.1 y.2.1 y.2.2.1 y.2.2.2.1 y.2.2.2.2.1 y.2.2.2.2.2.1) (λ_=>rfl) (by kernel_rfl) (by kernel_rfl) λx=>by kernel_rfl
theorem Vz9:SoundT Tryz.prog cd gdn 293 S_Zay:=
 sndC hmix o159 A_Zay Tryz.func293 (Vc1 rfl Vta Vaj) (by kernel_rfl) (by kernel_rfl) λx=>by kernel_rfl
def c160:List (Ct T):=⟨293,none,S_Zay,false⟩::c159
theorem o160:EnvOk Tryz.prog (mE c160):=eCons Vz9 o159
def Zaz_L1b (k_rec:List UInt8×Int×List Ja×Unit->Int->Bool->List UInt8->Option (((List UInt8×Int×List Ja×Unit)×Unit)×Int×Unit)) (y0:List UInt8×Int×List Ja×Unit) (y1:Int) (y2:Ja×Unit) (y3:BitVec 64) (y4:Bool) (y5:List UInt8) (y6:BitVec 64):Option ((List UInt8×Int×List Ja×Unit)×Int×(Ja×Unit)×BitVec 64×Bool×List UInt8×BitVec 64×Unit⊕(List UInt8×Int×List Ja×Unit)×Int×Unit⊕(List UInt8×Int×List Ja×Unit)×Unit):=
 bif y4 then bif decide (y6.toNat < y3.toNat) then bif decide (y2.1.kind=6) then (k_rec (y0.1,y0.2.1,y0.2.2.1,()) (Qa .i64 (y1+1)) true y5).bind λr18=>bif !(decide (r18.2.1=0)) then some (Qd (Qe ((r18.1.1.1,r18.1.1.2.1,r18.1.1.2.2.1,()),r18.2.1,()))) else bif decide (0<=(y0.2.2.1.length:Int))&&decide ((y0.2.2.1.length:Int) < (r18.1.1.2.2.1.length:Int)) then r18.1.1.2.2.1[(y0.2.2.1.length:Int).toNat]?.bind λx19=>(Zff x19).bind λr20=>(k_rec (r18.1.1.1,r18.1.1.2.1,r18.1.1.2.2.1,()) (Qa .i64 (y1+1)) false ([]:List UInt8)).bind λr21=>bif !(decide (r21.2.1=0)) then some (Qd (Qe ((r21.1.1.1,r21.1.1.2.1,r21.1.1.2.2.1,()),r21.2.1,()))) else some (Qe ((r21.1.1.1,r21.1.1.2.1,r21.1.1.2.2.1,()),y1,(y2.1,()),y3,y4,r20.2.1,y6+1#64,())) else none else (k_rec (y0.1,y0.2.1,y0.2.2.1,()) (Qa .i64 (y1+1)) false ([]:List UInt8)).bind λr22=>bif !(decide (r22.2.1=0)) then some (Qd (Qe ((r22.1.1.1,r22.1.1.2.1,r22.1.1.2.2.1,()),r22.2.1,()))) else some (Qe ((r22.1.1.1,r22.1.1.2.1,r22.1.1.2.2.1,()),y1,(y2.1,()),y3,y4,y5,y6+1#64,())) else some (Qd (Qd ((y0.1,y0.2.1,y0.2.2.1,()),()))) else some (Qd (Qd ((y0.1,y0.2.1,y0.2.2.1,()),())))
def Zaz_L1 (k_rec:List UInt8×Int×List Ja×Unit->Int->Bool->List UInt8->Option (((List UInt8×Int×List Ja×Unit)×Unit)×Int×Unit)) (y:(List UInt8×Int×List Ja×Unit)×Int×(Ja×Unit)×BitVec 64×Bool×List UInt8×BitVec 64×Unit):Option ((List UInt8×Int×List Ja×Unit)×Int×Unit⊕(List UInt8×Int×List Ja×Unit)×Unit):=
 iter (λ(y:(List UInt8×Int×List Ja×Unit)×Int×(Ja×Unit)×BitVec 64×Bool×List UInt8×BitVec 64×Unit)=>Zaz_L1b k_rec y.1 y.2.1 y.2.2.1 y.2.2.2.1 y.2.2.2.2.1 y.2.2.2.2.2.1 y.2.2.2.2.2.2.1) rounds y
def Zaz_R (k_rec:List UInt8×Int×List Ja×Unit->Int->Bool->List UInt8->Option (((List UInt8×Int×List Ja×Unit)×Unit)×Int×Unit)) (a0:List UInt8×Int×List Ja×Unit) (a1:Int) (a2:Bool) (a3:List UInt8):Option (((List UInt8×Int×List Ja×Unit)×Unit)×Int×Unit):=
 (Zay (a0.1,a0.2.1,a0.2.2.1,())).bind λr1=>bif !(decide (r1.2.2.1=0)) then some (((r1.1.1.1,r1.1.1.2.1,r1.1.1.2.2.1,()),()),r1.2.2.1,()) else (bif decide (r1.2.1.kind=3) then some ((r1.1.1.1,r1.1.1.2.1,r1.1.1.2.2.1,()),a1,a2,a3,(r1.2.1,()),r1.2.1.number,true,()) else some ((r1.1.1.1,r1.1.1.2.1,r1.1.1.2.2.1,()),a1,a2,a3,(r1.2.1,()),r1.2.1.number,decide (r1.2.1.kind=4),())).bind λj2=>(bif decide (j2.2.2.2.2.1.1.kind=5) then some ((j2.1.1,j2.1.2.1,j2.1.2.2.1,()),j2.2.1,j2.2.2.1,j2.2.2.2.1,(j2.2.2.2.2.1.1,()),j2.2.2.2.2.2.1,j2.2.2.2.2.2.2.1,true,()) else some ((j2.1.1,j2.1.2.1,j2.1.2.2.1,()),j2.2.1,j2.2.2.1,j2.2.2.2.1,(j2.2.2.2.2.1.1,()),j2.2.2.2.2.2.1,j2.2.2.2.2.2.2.1,decide (j2.2.2.2.2.1.1.kind=6),())).bind λj3=>bif decide (512<=(j3.1.2.2.1.length:Int)) then some (((j3.1.1,j3.1.2.1,j3.1.2.2.1,()),()),8,()) else (bif j3.2.2.1 then (Zfh j3.2.2.2.2.1.1.kind).bind λr4=>some ((j3.1.1,j3.1.2.1,j3.1.2.2.1,()),j3.2.1,j3.2.2.1,j3.2.2.2.1,(j3.2.2.2.2.1.1,()),j3.2.2.2.2.2.1,j3.2.2.2.2.2.2.1,j3.2.2.2.2.2.2.2.1,!r4.2.1,()) else some ((j3.1.1,j3.1.2.1,j3.1.2.2.1,()),j3.2.1,j3.2.2.1,j3.2.2.2.1,(j3.2.2.2.2.1.1,()),j3.2.2.2.2.2.1,j3.2.2.2.2.2.2.1,j3.2.2.2.2.2.2.2.1,false,())).bind λj5=>bif j5.2.2.2.2.2.2.2.2.1 then some (((j5.1.1,j5.1.2.1,j5.1.2.2.1,()),()),3,()) else bif decide (8 < j5.2.1) then some (((j5.1.1,j5.1.2.1,j5.1.2.2.1,()),()),5,()) else (bif j5.2.2.2.2.2.2.1 then bif decide ((1024#64).toNat < j5.2.2.2.2.2.1.toNat) then some ((j5.1.1,j5.1.2.1,j5.1.2.2.1,()),j5.2.1,j5.2.2.1,j5.2.2.2.1,(j5.2.2.2.2.1.1,()),j5.2.2.2.2.2.1,j5.2.2.2.2.2.2.1,j5.2.2.2.2.2.2.2.1,true,()) else bif j5.2.2.2.2.2.2.2.1 then some ((j5.1.1,j5.1.2.1,j5.1.2.2.1,()),j5.2.1,j5.2.2.1,j5.2.2.2.1,(j5.2.2.2.2.1.1,()),j5.2.2.2.2.2.1,j5.2.2.2.2.2.2.1,j5.2.2.2.2.2.2.2.1,decide ((512#64).toNat < j5.2.2.2.2.2.1.toNat),()) else some ((j5.1.1,j5.1.2.1,j5.1.2.2.1,()),j5.2.1,j5.2.2.1,j5.2.2.2.1,(j5.2.2.2.2.1.1,()),j5.2.2.2.2.2.1,j5.2.2.2.2.2.2.1,j5.2.2.2.2.2.2.2.1,false,()) else bif j5.2.2.2.2.2.2.2.1 then some ((j5.1.1,j5.1.2.1,j5.1.2.2.1,()),j5.2.1,j5.2.2.1,j5.2.2.2.1,(j5.2.2.2.2.1.1,()),j5.2.2.2.2.2.1,j5.2.2.2.2.2.2.1,j5.2.2.2.2.2.2.2.1,decide ((512#64).toNat < j5.2.2.2.2.2.1.toNat),()) else some ((j5.1.1,j5.1.2.1,j5.1.2.2.1,()),j5.2.1,j5.2.2.1,j5.2.2.2.1,(j5.2.2.2.2.1.1,()),j5.2.2.2.2.2.1,j5.2.2.2.2.2.2.1,j5.2.2.2.2.2.2.2.1,false,())).bind λj6=>bif j6.2.2.2.2.2.2.2.2.1 then some (((j6.1.1,j6.1.2.1,j6.1.2.2.1,()),()),8,()) else (bif j6.2.2.2.2.2.2.1 then let v7:=Qb 64 (Qa .i64 ((j6.1.1.length:Int) - j6.1.2.1));some ((j6.1.1,j6.1.2.1,j6.1.2.2.1,()),j6.2.1,j6.2.2.1,j6.2.2.2.1,(j6.2.2.2.2.1.1,()),j6.2.2.2.2.2.1,j6.2.2.2.2.2.2.1,j6.2.2.2.2.2.2.2.1,decide (v7.toNat < j6.2.2.2.2.2.1.toNat),()) else some ((j6.1.1,j6.1.2.1,j6.1.2.2.1,()),j6.2.1,j6.2.2.1,j6.2.2.2.1,(j6.2.2.2.2.1.1,()),j6.2.2.2.2.2.1,j6.2.2.2.2.2.2.1,j6.2.2.2.2.2.2.2.1,false,())).bind λj8=>bif j8.2.2.2.2.2.2.2.2.1 then some (((j8.1.1,j8.1.2.1,j8.1.2.2.1,()),()),1,()) else (bif j8.2.2.2.2.2.2.1 then let v9:=Qa .i64 (j8.1.2.1+Qa .i64 (j8.2.2.2.2.2.1.toNat:Int));bif decide (0<=v9)&&decide (v9<=j8.1.1.length) then bif decide (0<=j8.1.2.1)&&decide (j8.1.2.1<=v9.toNat) then let v10:=Qa .i64 (j8.1.2.1+Qa .i64 (j8.2.2.2.2.2.1.toNat:Int));some ((j8.1.1,v10,j8.1.2.2.1,()),j8.2.1,j8.2.2.1,j8.2.2.2.1,((⟨j8.2.2.2.2.1.1.kind,0#64,Qj j8.1.2.1.toNat (Qg v9.toNat j8.1.1)⟩:Ja),()),j8.2.2.2.2.2.1,j8.2.2.2.2.2.2.2.1,()) else none else none else some ((j8.1.1,j8.1.2.1,j8.1.2.2.1,()),j8.2.1,j8.2.2.1,j8.2.2.2.1,(j8.2.2.2.2.1.1,()),j8.2.2.2.2.2.1,j8.2.2.2.2.2.2.2.1,())).bind λj11=>(bif decide (j11.2.2.2.2.1.1.kind=4) then (Zgv j11.2.2.2.2.1.1.data).bind λr12=>some ((j11.1.1,j11.1.2.1,j11.1.2.2.1,()),j11.2.1,j11.2.2.1,j11.2.2.2.1,(j11.2.2.2.2.1.1,()),j11.2.2.2.2.2.1,j11.2.2.2.2.2.2.1,!r12.2.1,()) else some ((j11.1.1,j11.1.2.1,j11.1.2.2.1,()),j11.2.1,j11.2.2.1,j11.2.2.2.1,(j11.2.2.2.2.1.1,()),j11.2.2.2.2.2.1,j11.2.2.2.2.2.2.1,false,())).bind λj13=>bif j13.2.2.2.2.2.2.2.1 then some (((j13.1.1,j13.1.2.1,j13.1.2.2.1,()),()),6,()) else (bif j13.2.2.1 then bif !(decide (j13.2.2.2.1=([]:List UInt8))) then (Zff j13.2.2.2.2.1.1).bind λr14=>(Zgh j13.2.2.2.1 r14.2.1).bind λr15=>some ((j13.1.1,j13.1.2.1,j13.1.2.2.1,()),j13.2.1,(j13.2.2.2.2.1.1,()),j13.2.2.2.2.2.1,j13.2.2.2.2.2.2.1,!r15.2.1,()) else some ((j13.1.1,j13.1.2.1,j13.1.2.2.1,()),j13.2.1,(j13.2.2.2.2.1.1,()),j13.2.2.2.2.2.1,j13.2.2.2.2.2.2.1,false,()) else some ((j13.1.1,j13.1.2.1,j13.1.2.2.1,()),j13.2.1,(j13.2.2.2.2.1.1,()),j13.2.2.2.2.2.1,j13.2.2.2.2.2.2.1,false,())).bind λj16=>bif j16.2.2.2.2.2.1 then some (((j16.1.1,j16.1.2.1,j16.1.2.2.1,()),()),7,()) else bif small (j16.1.2.2.1.length+([j16.2.2.1.1]).length) 32 then let v17:=j16.1.2.2.1++[j16.2.2.1.1];(Zaz_L1 k_rec ((j16.1.1,j16.1.2.1,v17,()),j16.2.1,(j16.2.2.1.1,()),j16.2.2.2.1,j16.2.2.2.2.1,[],0#64,())).bind (Qh (λz23=>some (((z23.1.1,z23.1.2.1,z23.1.2.2.1,()),()),z23.2.1,())) (λz24=>some (((z24.1.1,z24.1.2.1,z24.1.2.2.1,()),()),0,()))) else none
abbrev ps_Zaz:List Slot:=[qag,qc,qr,qar]
abbrev rs_Zaz:List Fld:=[qa]
def E_Zaz (k_rec:((List UInt8)×Int×(List (Ja))×Unit)->Int->Bool->(List UInt8)->Option Ybq):Env T:=⟨tab.find,cd,globs,flc,λf ds=>match f with
  | 23=>some S_Zgv
  | 119=>some S_Zff
  | 273=>some S_Zfh
  | 274=>some S_Zgh
  | 291=>some ⟨ps_Zaz,rs_Zaz,λx=>k_rec x.1 x.2.1 x.2.2.1 x.2.2.2.1⟩
  | 293=>some S_Zay
  | _=>none,λf=>match f with
  | 23=>true
  | 119=>true
  | 273=>true
  | 274=>true
  | _=>false⟩
def A_Zaz (k_rec:((List UInt8)×Int×(List (Ja))×Unit)->Int->Bool->(List UInt8)->Option Ybq):Loc2 T:=⟨λid=>match id with
  | 1=>some ⟨[(0,.ptr [(.v .str),(.v (.int .i64)),(.own 1)]),(1,.f (.v (.int .i64))),(9,.ptr [(.v (.agg 1))]),(11,.f (.v .u64)),(13,.f (.v .bool)),(14,.f (.v .str)),(15,.f (.v .u64))],[(.ret,[(0,.ptr [(.v .str),(.v (.int .i64)),(.own 1)]),(8,.f (.v (.int .i64)))]),(.exit 1,[(0,.ptr [(.v .str),(.v (.int .i64)),(.own 1)])])],Zaz_L1 k_rec,[]⟩
  | _=>none,λr=>match r with
  | 6=>some ([(0,.ptr [(.v .str),(.v (.int .i64)),(.own 1)]),(1,.f (.v (.int .i64))),(2,.f (.v .bool)),(3,.f (.v .str)),(9,.ptr [(.v (.agg 1))]),(11,.f (.v .u64)),(12,.f (.v .bool))],true)
  | 7=>some ([(0,.ptr [(.v .str),(.v (.int .i64)),(.own 1)]),(1,.f (.v (.int .i64))),(2,.f (.v .bool)),(3,.f (.v .str)),(9,.ptr [(.v (.agg 1))]),(11,.f (.v .u64)),(12,.f (.v .bool)),(13,.f (.v .bool))],true)
  | 10=>some ([(0,.ptr [(.v .str),(.v (.int .i64)),(.own 1)]),(1,.f (.v (.int .i64))),(2,.f (.v .bool)),(3,.f (.v .str)),(9,.ptr [(.v (.agg 1))]),(11,.f (.v .u64)),(12,.f (.v .bool)),(13,.f (.v .bool)),(52,.f (.v .bool))],true)
  | 14=>some ([(0,.ptr [(.v .str),(.v (.int .i64)),(.own 1)]),(1,.f (.v (.int .i64))),(2,.f (.v .bool)),(3,.f (.v .str)),(9,.ptr [(.v (.agg 1))]),(11,.f (.v .u64)),(12,.f (.v .bool)),(13,.f (.v .bool)),(63,.f (.v .bool))],true)
  | 16=>some ([(0,.ptr [(.v .str),(.v (.int .i64)),(.own 1)]),(1,.f (.v (.int .i64))),(2,.f (.v .bool)),(3,.f (.v .str)),(9,.ptr [(.v (.agg 1))]),(11,.f (.v .u64)),(12,.f (.v .bool)),(13,.f (.v .bool)),(76,.f (.v .bool))],true)
  | 20=>some ([(0,.ptr [(.v .str),(.v (.int .i64)),(.own 1)]),(1,.f (.v (.int .i64))),(2,.f (.v .bool)),(3,.f (.v .str)),(9,.ptr [(.v (.agg 1))]),(11,.f (.v .u64)),(13,.f (.v .bool))],true)
  | 21=>some ([(0,.ptr [(.v .str),(.v (.int .i64)),(.own 1)]),(1,.f (.v (.int .i64))),(2,.f (.v .bool)),(3,.f (.v .str)),(9,.ptr [(.v (.agg 1))]),(11,.f (.v .u64)),(13,.f (.v .bool)),(129,.f (.v .bool))],true)
  | 23=>some ([(0,.ptr [(.v .str),(.v (.int .i64)),(.own 1)]),(1,.f (.v (.int .i64))),(9,.ptr [(.v (.agg 1))]),(11,.f (.v .u64)),(13,.f (.v .bool)),(141,.f (.v .bool))],true)
  | _=>none,λr=>match r with
  | 18=>true
  | 24=>true
  | _=>false⟩
theorem Vtb (k_rec:((List UInt8)×Int×(List (Ja))×Unit)->Int->Bool->(List UInt8)->Option Ybq) (y0:((List UInt8)×Int×(List (Ja))×Unit)) (y1:Int) (y2:(Ja×Unit)) (y3:(BitVec 64)) (y4:Bool) (y5:(List UInt8)) (y6:(BitVec 64)):run (E_Zaz k_rec) (A_Zaz k_rec) (loopAt 1 (Tryz.f291.body.getD .skip)) (layC cd [(0,.ptr [(.v .str),(.v (.int .i64)),(.own 1)]),(1,.f (.v (.int .i64))),(9,.ptr [(.v (.agg 1))]),(11,.f (.v .u64)),(13,.f (.v .bool)),(14,.f (.v .str)),(15,.f (.v .u64))] [] (y0,y1,y2,y3,y4,y5,y6,())) (roundK cd [(0,.ptr [(.v .str),(.v (.int .i64)),(.own 1)]),(1,.f (.v (.int .i64))),(9,.ptr [(.v (.agg 1))]),(11,.f (.v .u64)),(13,.f (.v .bool)),(14,.f (.v .str)),(15,.f (.v .u64))] [] [(.ret,[(0,.ptr [(.v .str),(.v (.int .i64)),(.own 1)]),(8,.f (.v (.int .i64)))]),(.exit 1,[(0,.ptr [(.v .str),(.v (.int .i64)),(.own 1)])])])=Zaz_L1b k_rec y0 y1 y2 y3 y4 y5 y6:=by kernel_rfl
theorem Vbka (k_rec:((List UInt8)×Int×(List (Ja))×Unit)->Int->Bool->(List UInt8)->Option Ybq) (x:tySs T ps_Zaz):run (E_Zaz k_rec) (A_Zaz k_rec) (Tryz.f291.body.getD .skip) (enterT (E_Zaz k_rec).C ps_Zaz x) (retK (E_Zaz k_rec) Tryz.f291.results.toList ps_Zaz rs_Zaz)=Zaz_R k_rec x.1 x.2.1 x.2.2.1 x.2.2.2.1:=by kernel_rfl
def Zaz_n:Nat->((List UInt8)×Int×(List (Ja))×Unit)->Int->Bool->(List UInt8)->Option Ybq
 | 0=>λ_ _ _ _=>none
 | n+1=>Zaz_R (Zaz_n n)
def Zaz (a0:((List UInt8)×Int×(List (Ja))×Unit)) (a1:Int) (a2:Bool) (a3:(List UInt8)):=Zaz_n 12 a0 a1 a2 a3
def S_Zaz:FSpec T:=⟨ps_Zaz,rs_Zaz,λx=>Zaz x.1 x.2.1 x.2.2.1 x.2.2.2.1⟩
theorem Vtc (k_rec:((List UInt8)×Int×(List (Ja))×Unit)->Int->Bool->(List UInt8)->Option Ybq) (hk:SoundT Tryz.prog cd gdn 291 ⟨ps_Zaz,rs_Zaz,λx=>k_rec x.1 x.2.1 x.2.2.1 x.2.2.2.1⟩):EnvOk Tryz.prog (E_Zaz k_rec):=envOk (E:=(E_Zaz k_rec)) cd_ok tys fl_ok λf ds S h=>by
  dsimp only [E_Zaz] at h
  split at h
  ·cases h; exact Vz1
  ·cases h; exact Vsh
  ·cases h; exact Vz3
  ·cases h; exact Vz4
  ·cases h; exact hk
  ·cases h; exact Vz9
  ·cases h
theorem Vtd (k_rec:((List UInt8)×Int×(List (Ja))×Unit)->Int->Bool->(List UInt8)->Option Ybq) (hk:SoundT Tryz.prog cd gdn 291 ⟨ps_Zaz,rs_Zaz,λx=>k_rec x.1 x.2.1 x.2.2.1 x.2.2.2.1⟩):LoopOk Tryz.prog (E_Zaz k_rec) Tryz.f291.ntmps (kqOf ps_Zaz 0) (loopAt 1 (Tryz.f291.body.getD .skip)) ⟨[(0,.ptr [(.v .str),(.v (.int .i64)),(.own 1)]),(1,.f (.v (.int .i64))),(9,.ptr [(.v (.agg 1))]),(11,.f (.v .u64)),(13,.f (.v .bool)),(14,.f (.v .str)),(15,.f (.v .u64))],[(.ret,[(0,.ptr [(.v .str),(.v (.int .i64)),(.own 1)]),(8,.f (.v (.int .i64)))]),(.exit 1,[(0,.ptr [(.v .str),(.v (.int .i64)),(.own 1)])])],Zaz_L1 k_rec,[]⟩:=
 Vkz (A:=(A_Zaz k_rec)) (done:=[]) (c0:=(Tryz.f291.body.getD .skip)) hmix (Vtc k_rec hk) Vaj rounds (by kernel_rfl) (by kernel_rfl) (λx=>Vtb k_rec x.1 x.2.1 x.2.2.1 x.2.2.2.1 x.2.2.2.2.1 x.2.2.2.2.2.1 x.2.2.2.2.2.2.1) (λ_=>rfl)
theorem Vnk:∀ n:Nat,SoundT Tryz.prog cd gdn 291 ⟨ps_Zaz,rs_Zaz,λx=>Zaz_n n x.1 x.2.1 x.2.2.1 x.2.2.2.1⟩
 | 0=>Vf8 ⟨_,Tryz.func291,by kernel_rfl,by kernel_rfl⟩
 | n+1=>Vde (E:=E_Zaz (Zaz_n n)) (A:=A_Zaz (Zaz_n n)) (done:=[1]) (c:=(Tryz.f291.body.getD .skip)) (S:=⟨ps_Zaz,rs_Zaz,λx=>Zaz_n (n+1) x.1 x.2.1 x.2.2.1 x.2.2.2.1⟩) (fn:=Tryz.f291) hmix (Vtc _ (Vnk n)) Tryz.func291 rfl (by kernel_rfl) (by kernel_rfl) (Vc1 rfl (Vtd _ (Vnk n)) Vaj) (by kernel_rfl) (by kernel_rfl) (Vbka (Zaz_n n))
theorem Veda:SoundT Tryz.prog cd gdn 291 S_Zaz:=Vnk 12
def c161:List (Ct T):=⟨291,none,S_Zaz,false⟩::c160
theorem o161:EnvOk Tryz.prog (mE c161):=eCons Veda o160
def Zdy (a0:List UInt8):Option (Unit×List Ja×Int×Int×Unit):=
 (Zaz (a0,0,[],()) 0 false []).bind λr1=>bif !(decide (r1.2.1=0)) then some ((),[],0,r1.2.1,()) else some ((),r1.1.1.2.2.1,r1.1.1.2.1,0,())
def c162:=cf c161 284 [qg] [qbf,qa,qa] (u1 Zdy)
theorem o162:EO c162:=sz o161 Tryz.func284
def Zds (a0:BitVec 64):Option (Unit×Int×Unit):=
 let v1:BitVec 64:=bif decide ((1048576#64).toNat < a0.toNat) then 1048576#64 else a0;some ((),Qa .i64 (v1.toNat:Int),())
def c163:=ct c162 285 [qd] [qa] (u1 Zds)
theorem o163:EO c163:=sz o162 Tryz.func285
def Zew (a0:List UInt8):Option (Unit×Jg×Int×Bool×Unit):=
 (Zdy a0).bind λr1=>bif !(decide (r1.2.2.2.1=0)) then some ((),{},0,false,()) else bif !(decide ((r1.2.1.length:Int)=19)) then some ((),{},0,false,()) else bif decide (2 < (r1.2.1.length:Int)) then r1.2.1[2]?.bind λx2=>bif decide (4 < (r1.2.1.length:Int)) then r1.2.1[4]?.bind λx3=>bif decide (6 < (r1.2.1.length:Int)) then r1.2.1[6]?.bind λx4=>bif decide (8 < (r1.2.1.length:Int)) then r1.2.1[8]?.bind λx5=>bif decide (10 < (r1.2.1.length:Int)) then r1.2.1[10]?.bind λx6=>(Zds x6.number).bind λr7=>bif decide (12 < (r1.2.1.length:Int)) then r1.2.1[12]?.bind λx8=>bif decide (14 < (r1.2.1.length:Int)) then r1.2.1[14]?.bind λx9=>(Zds x9.number).bind λr10=>bif decide (16 < (r1.2.1.length:Int)) then r1.2.1[16]?.bind λx11=>bif decide (18 < (r1.2.1.length:Int)) then r1.2.1[18]?.bind λx12=>(Zae ⟨x2.data,x3.data,x4.data,x5.number,r7.2.1,decide (x8.number=1#64),r10.2.1,decide (x11.number=1#64),decide (x12.number=1#64)⟩).bind λr13=>bif decide (r13.2.2.1=0) then bif decide (0<=r1.2.2.1)&&decide (r1.2.2.1<=a0.length) then some ((),⟨x2.data,x3.data,x4.data,x5.number,r7.2.1,decide (x8.number=1#64),r10.2.1,decide (x11.number=1#64),decide (x12.number=1#64)⟩,r1.2.2.1,decide (r13.2.1=Qg r1.2.2.1.toNat a0),()) else none else some ((),⟨x2.data,x3.data,x4.data,x5.number,r7.2.1,decide (x8.number=1#64),r10.2.1,decide (x11.number=1#64),decide (x12.number=1#64)⟩,r1.2.2.1,false,()) else none else none else none else none else none else none else none else none else none
def c164:=ct c163 278 [qg] [qaj,qa,qf] (u1 Zew)
theorem o164:EO c164:=sx o163 (lcA [] [] [4,6]) Tryz.func278 dn
def Zad (a0:List UInt8):Option (Unit×Jg×Int×Unit):=
 (Zew a0).bind λr1=>bif !r1.2.2.2.1 then some ((),{},2,()) else bif !(decide (r1.2.2.1=a0.length)) then some ((),{},2,()) else some ((),r1.2.1,0,())
def c165:=ct c164 264 [qg] [qaj,qa] (u1 Zad)
theorem o165:EO c165:=sz o164 Tryz.func264
def Zfe (a0:Jc) (a1:Int):Option (Unit×Jg×Bool×Unit):=
 (Zhm a0.jm (Qa .i64 (64+a1))).bind λr1=>(Zad r1.2.1).bind λr2=>some ((),r2.2.1,decide (r2.2.2.1=0),())
def c166:=ct c165 246 [qas,qc] [qaj,qf] (u2 Zfe)
theorem o166:EO c166:=sz o165 Tryz.func246
def Zfc (a0:Jg):Option (Unit×List UInt8×Unit):=
 (Zhe 0#64 0#64 a0).bind λr1=>some ((),r1.2.1,())
def c167:=cf c166 213 [(.f qaj)] [qj] (u1 Zfc)
theorem o167:EO c167:=sz o166 Tryz.func213
def Zal (a0:List UInt8):Option (Unit×Jr×Int×Unit):=
 bif !(decide ((a0.length:Int)=11)) then some ((),{},2,()) else bif decide (8<=(a0.length:Int)) then (Zgg (Qg 8 a0)).bind λr1=>(getI a0 (8:Int)).bind λx2=>(getI a0 (9:Int)).bind λx3=>(getI a0 (10:Int)).bind λx4=>(Zdr ⟨r1.2.1,(x2.toBitVec.toNat:Int),(x3.toBitVec.toNat:Int),(x4.toBitVec.toNat:Int)⟩).bind λr5=>bif !r5.2.1 then some ((),{},2,()) else some ((),⟨r1.2.1,(x2.toBitVec.toNat:Int),(x3.toBitVec.toNat:Int),(x4.toBitVec.toNat:Int)⟩,0,()) else none
def c168:=ct c167 263 [qg] [qa8,qa] (u1 Zal)
theorem o168:EO c168:=sx o167 (lcA [] [] [3]) Tryz.func263 dn
def Zdx (a0:Jc) (a1:Int):Option (Unit×Jr×Bool×Unit):=
 (Zhm a0.jm (Qa .i64 (16+a1))).bind λr1=>(Zal r1.2.1).bind λr2=>some ((),r2.2.1,decide (r2.2.2.1=0),())
def c169:=ct c168 214 [qas,qc] [qa8,qf] (u2 Zdx)
theorem o169:EO c169:=sz o168 Tryz.func214
abbrev Y_Zdb_L0:=((List (UInt8))×(Jc×Unit)×Int×Unit)
abbrev Z_Zdb_L0:=((Int×Bool×Unit)⊕(Unit))
def Zdb_L0b (y0:List UInt8) (y1:Jc×Unit) (y2:Int):Option (Y_Zdb_L0⊕Z_Zdb_L0):=
 bif decide (y2 < 16) then (Zdx y1.1 y2).bind λr1=>bif r1.2.2.1 then (Zfy y0).bind λr2=>bif decide (r1.2.1.tag=r2.2.1) then some (Qd (Qe (y2,true,()))) else some (Qe (y0,(y1.1,()),Qa .i64 (y2+1),())) else some (Qe (y0,(y1.1,()),Qa .i64 (y2+1),())) else some (Qd (Qd ()))
def Zdb_L0 (y:Y_Zdb_L0):Option Z_Zdb_L0:=
 iter (λ(y:Y_Zdb_L0)=>Zdb_L0b y.1 y.2.1 y.2.2.1) rounds y
def Zdb (a0:Jc) (a1:List UInt8):Option (Unit×Int×Bool×Unit):=
 (Zdb_L0 (a1,(a0,()),1,())).bind (Qh (λz3=>some ((),z3.1,z3.2.1,())) (λz4=>some ((),0,false,())))
def c170:=ct c169 187 [qas,qg] [qa,qf] (u2 Zdb)
def s_Zdb_L0:LSpec T:=⟨[(1,qg),(2,qe),(6,qc)],[(.ret,[(4,qc),(5,qr)]),(.exit 0,[])],Zdb_L0,[]⟩
def A_Zdb:Loc2 T:=lcA [(0,s_Zdb_L0)] [] []
theorem Vte:LO c170 Tryz.f187 0 s_Zdb_L0:=lx o169 A_Zdb dn (λ_=>rfl)
theorem o170:EO c170:=sx o169 A_Zdb Tryz.func187 (dc rfl Vte dn)
def Zdt (a0:Jc) (a1:List Jf) (a2:Int):Option (Unit×Jc×Int×Int×Unit):=
 bif !a0.on then some ((),a0,0,17,()) else (Zhn a0.jm a1 a2).bind λr1=>bif !(decide (r1.2.2.2.1=0)) then (Zdd a0 r1.2.1 r1.2.2.2.1).bind λr2=>some ((),r2.2.1,r2.2.2.1,r2.2.2.2.1,()) else some ((),{a0 with jm:=r1.2.1},r1.2.2.1,0,())
def c171:=cf c170 251 [qas,ql,qc] [qm,qa,qa] (u3 Zdt)
theorem o171:EO c171:=sz o170 Tryz.func251
abbrev Y_Zfz_L0:=((List (UInt8))×Int×(Jc×Unit)×(Jg×Unit)×(Jc×Unit)×(List (UInt8))×(Jr×Unit)×Int×Int×Int×Unit)
abbrev Z_Zfz_L0:=((List (UInt8))×Int×(Jc×Unit)×(Jg×Unit)×(Jc×Unit)×(List (UInt8))×(Jr×Unit)×Int×Int×Unit)
def Zfz_L0b (y0:List UInt8) (y1:Int) (y2:Jc×Unit) (y3:Jg×Unit) (y4:Jc×Unit) (y5:List UInt8) (y6:Jr×Unit) (y7 y8 y9:Int):Option (Y_Zfz_L0⊕Z_Zfz_L0):=
 bif decide (0<=y9) then bif y3.1.ji then (Zfe y2.1 y9).bind λr4=>bif !r4.2.2.1 then some (Qe (y0,y1,(y2.1,()),(y3.1,()),(y4.1,()),y5,(y6.1,()),y9,y8,Qa .i64 (y9 - 1),())) else some (Qe (y0,y1,(y2.1,()),(y3.1,()),(y4.1,()),y5,(y6.1,()),y7,y8,Qa .i64 (y9 - 1),())) else some (Qd (y0,y1,(y2.1,()),(y3.1,()),(y4.1,()),y5,(y6.1,()),y7,y8,())) else some (Qd (y0,y1,(y2.1,()),(y3.1,()),(y4.1,()),y5,(y6.1,()),y7,y8,()))
def Zfz_L0 (y:Y_Zfz_L0):Option Z_Zfz_L0:=
 iter (λ(y:Y_Zfz_L0)=>Zfz_L0b y.1 y.2.1 y.2.2.1 y.2.2.2.1 y.2.2.2.2.1 y.2.2.2.2.2.1 y.2.2.2.2.2.2.1 y.2.2.2.2.2.2.2.1 y.2.2.2.2.2.2.2.2.1 y.2.2.2.2.2.2.2.2.2.1) rounds y
abbrev Y_Zfz_L2:=((List (UInt8))×Int×(Jc×Unit)×(Jg×Unit)×(Jc×Unit)×(List (UInt8))×(Jr×Unit)×Int×Int×Int×Unit)
abbrev Z_Zfz_L2:=((List (UInt8))×Int×(Jc×Unit)×(Jg×Unit)×(Jc×Unit)×(List (UInt8))×(Jr×Unit)×Int×Int×Unit)
def Zfz_L2b (y0:List UInt8) (y1:Int) (y2:Jc×Unit) (y3:Jg×Unit) (y4:Jc×Unit) (y5:List UInt8) (y6:Jr×Unit) (y7 y8 y9:Int):Option (Y_Zfz_L2⊕Z_Zfz_L2):=
 bif decide (0<=y9) then bif y3.1.ji then (Zfe y2.1 y9).bind λr6=>bif r6.2.2.1 then bif decide (r6.2.1.rP=y3.1.rP) then bif decide (r6.2.1.user=y3.1.user) then (Zfc r6.2.1).bind λr7=>(Zdb y2.1 r7.2.1).bind λr8=>some (Qe (y0,y1,(y2.1,()),(y3.1,()),(y4.1,()),y5,(y6.1,()),y9,r8.2.1,Qa .i64 (y9 - 1),())) else some (Qe (y0,y1,(y2.1,()),(y3.1,()),(y4.1,()),y5,(y6.1,()),y7,y8,Qa .i64 (y9 - 1),())) else some (Qe (y0,y1,(y2.1,()),(y3.1,()),(y4.1,()),y5,(y6.1,()),y7,y8,Qa .i64 (y9 - 1),())) else some (Qe (y0,y1,(y2.1,()),(y3.1,()),(y4.1,()),y5,(y6.1,()),y7,y8,Qa .i64 (y9 - 1),())) else some (Qd (y0,y1,(y2.1,()),(y3.1,()),(y4.1,()),y5,(y6.1,()),y7,y8,())) else some (Qd (y0,y1,(y2.1,()),(y3.1,()),(y4.1,()),y5,(y6.1,()),y7,y8,()))
def Zfz_L2 (y:Y_Zfz_L2):Option Z_Zfz_L2:=
 iter (λ(y:Y_Zfz_L2)=>Zfz_L2b y.1 y.2.1 y.2.2.1 y.2.2.2.1 y.2.2.2.2.1 y.2.2.2.2.2.1 y.2.2.2.2.2.2.1 y.2.2.2.2.2.2.2.1 y.2.2.2.2.2.2.2.2.1 y.2.2.2.2.2.2.2.2.2.1) rounds y
abbrev Y_Zfz_L4:=(Int×(Jc×Unit)×(Jg×Unit)×(Jc×Unit)×(List (UInt8))×(Jr×Unit)×Int×Int×Int×Int×Unit)
abbrev Z_Zfz_L4:=(Int×(Jc×Unit)×(Jg×Unit)×(Jc×Unit)×(List (UInt8))×(Jr×Unit)×Int×Int×Int×Unit)
def Zfz_L4b (y0:Int) (y1:Jc×Unit) (y2:Jg×Unit) (y3:Jc×Unit) (y4:List UInt8) (y5:Jr×Unit) (y6 y7 y8 y9:Int):Option (Y_Zfz_L4⊕Z_Zfz_L4):=
 bif decide (1<=y9) then (Zdx y1.1 y9).bind λr11=>bif !r11.2.2.1 then some (Qe (y0,(y1.1,()),(y2.1,()),(y3.1,()),y4,(y5.1,()),y6,y7,y9,Qa .i64 (y9 - 1),())) else bif decide (y9=y7) then some (Qe (y0,(y1.1,()),(y2.1,()),(y3.1,()),y4,(y5.1,()),y6,y7,y9,Qa .i64 (y9 - 1),())) else some (Qe (y0,(y1.1,()),(y2.1,()),(y3.1,()),y4,(y5.1,()),y6,y7,y8,Qa .i64 (y9 - 1),())) else some (Qd (y0,(y1.1,()),(y2.1,()),(y3.1,()),y4,(y5.1,()),y6,y7,y8,()))
def Zfz_L4 (y:Y_Zfz_L4):Option Z_Zfz_L4:=
 iter (λ(y:Y_Zfz_L4)=>Zfz_L4b y.1 y.2.1 y.2.2.1 y.2.2.2.1 y.2.2.2.2.1 y.2.2.2.2.2.1 y.2.2.2.2.2.2.1 y.2.2.2.2.2.2.2.1 y.2.2.2.2.2.2.2.2.1 y.2.2.2.2.2.2.2.2.2.1) rounds y
def Zfz (a0:Jc) (a1:Jg) (a2:List UInt8) (a3 a4 a5 a6:Int):Option (Unit×Jc×Int×Int×Unit):=
 bif !a0.on then some ((),a0,0,17,()) else (Zae a1).bind λr1=>bif !(decide (r1.2.2.1=0)) then some ((),a0,0,r1.2.2.1,()) else (Zfy a2).bind λr2=>(Zdr ⟨r2.2.1,a3,a4,a5⟩).bind λr3=>bif !r3.2.1 then some ((),a0,0,9,()) else (Zfz_L0 (a2,a6,(a0,()),(a1,()),({},()),r1.2.1,(⟨r2.2.1,a3,a4,a5⟩,()),-1,0,7,())).bind λz5=>(Zfz_L2 (z5.1,z5.2.1,(z5.2.2.1.1,()),(z5.2.2.2.1.1,()),(z5.2.2.2.2.1.1,()),z5.2.2.2.2.2.1,(z5.2.2.2.2.2.2.1.1,()),z5.2.2.2.2.2.2.2.1,z5.2.2.2.2.2.2.2.2.1,7,())).bind λz9=>(Zdb z9.2.2.1.1 z9.1).bind λr10=>bif r10.2.2.1 then some ((),z9.2.2.1.1,0,10,()) else (Zfz_L4 (z9.2.1,(z9.2.2.1.1,()),(z9.2.2.2.1.1,()),(z9.2.2.2.2.1.1,()),z9.2.2.2.2.2.1,(z9.2.2.2.2.2.2.1.1,()),z9.2.2.2.2.2.2.2.1,z9.2.2.2.2.2.2.2.2.1,0,15,())).bind λz12=>bif decide (z12.2.2.2.2.2.2.2.2.1=0) then some ((),z12.2.1.1,0,12,()) else bif z12.2.2.1.1.ji then bif decide (z12.2.2.2.2.2.2.1 < 0) then some ((),z12.2.1.1,0,12,()) else (bif z12.2.2.1.1.ji then let v13:List Jf:=[⟨Qa .i64 (64+z12.2.2.2.2.2.2.1),z12.2.2.2.2.1⟩];bif small v13.length 32 then some (z12.1,(z12.2.1.1,()),(z12.2.2.2.1.1,()),(z12.2.2.2.2.2.1.1,()),z12.2.2.2.2.2.2.2.1,z12.2.2.2.2.2.2.2.2.1,v13,()) else none else some (z12.1,(z12.2.1.1,()),(z12.2.2.2.1.1,()),(z12.2.2.2.2.2.1.1,()),z12.2.2.2.2.2.2.2.1,z12.2.2.2.2.2.2.2.2.1,[],())).bind λj14=>(Zam j14.2.2.2.1.1).bind λr15=>let v16:List Jf:=[⟨Qa .i64 (16+j14.2.2.2.2.2.1),r15.2.1⟩];bif small (j14.2.2.2.2.2.2.1.length+(v16:List Jf).length) 32 then (bif !(decide (j14.2.2.2.2.1=0)) then bif !(decide (j14.2.2.2.2.1=j14.2.2.2.2.2.1)) then let v17:List Jf:=[{key:=Qa .i64 (16+j14.2.2.2.2.1)}];bif small ((j14.2.2.2.2.2.2.1++v16).length+(v17:List Jf).length) 32 then some (j14.1,(j14.2.1.1,()),(j14.2.2.1.1,()),j14.2.2.2.2.2.2.1++v16++v17,()) else none else some (j14.1,(j14.2.1.1,()),(j14.2.2.1.1,()),j14.2.2.2.2.2.2.1++v16,()) else some (j14.1,(j14.2.1.1,()),(j14.2.2.1.1,()),j14.2.2.2.2.2.2.1++v16,())).bind λj18=>(Zdt j18.2.1.1 j18.2.2.2.1 j18.1).bind λr19=>some ((),r19.2.1,r19.2.2.1,r19.2.2.2.1,()) else none else (bif z12.2.2.1.1.ji then let v20:List Jf:=[⟨Qa .i64 (64+z12.2.2.2.2.2.2.1),z12.2.2.2.2.1⟩];bif small v20.length 32 then some (z12.1,(z12.2.1.1,()),(z12.2.2.2.1.1,()),(z12.2.2.2.2.2.1.1,()),z12.2.2.2.2.2.2.2.1,z12.2.2.2.2.2.2.2.2.1,v20,()) else none else some (z12.1,(z12.2.1.1,()),(z12.2.2.2.1.1,()),(z12.2.2.2.2.2.1.1,()),z12.2.2.2.2.2.2.2.1,z12.2.2.2.2.2.2.2.2.1,[],())).bind λj21=>(Zam j21.2.2.2.1.1).bind λr22=>let v23:List Jf:=[⟨Qa .i64 (16+j21.2.2.2.2.2.1),r22.2.1⟩];bif small (j21.2.2.2.2.2.2.1.length+(v23:List Jf).length) 32 then (bif !(decide (j21.2.2.2.2.1=0)) then bif !(decide (j21.2.2.2.2.1=j21.2.2.2.2.2.1)) then let v24:List Jf:=[{key:=Qa .i64 (16+j21.2.2.2.2.1)}];bif small ((j21.2.2.2.2.2.2.1++v23).length+(v24:List Jf).length) 32 then some (j21.1,(j21.2.1.1,()),(j21.2.2.1.1,()),j21.2.2.2.2.2.2.1++v23++v24,()) else none else some (j21.1,(j21.2.1.1,()),(j21.2.2.1.1,()),j21.2.2.2.2.2.2.1++v23,()) else some (j21.1,(j21.2.1.1,()),(j21.2.2.1.1,()),j21.2.2.2.2.2.2.1++v23,())).bind λj25=>(Zdt j25.2.1.1 j25.2.2.2.1 j25.1).bind λr26=>some ((),r26.2.1,r26.2.2.1,r26.2.2.2.1,()) else none
def c172:=cf c171 192 [qas,(.f qaj),qg,qc,qc,qc,qc] [qm,qa,qa] λx=>Zfz x.1 x.2.1 x.2.2.1 x.2.2.2.1 x.2.2.2.2.1 x.2.2.2.2.2.1 x.2.2.2.2.2.2.1
def s_Zfz_L0:LSpec T:=⟨[(2,qg),(6,qc),(7,qe),(8,qs),(14,qe),(17,qae),(19,qak),(20,qc),(21,qc),(22,qc)],[(.exit 0,[(2,qg),(6,qc),(7,qe),(8,qs),(14,qe),(17,qae),(19,qak),(20,qc),(21,qc)])],Zfz_L0,[]⟩
def s_Zfz_L2:LSpec T:=⟨[(2,qg),(6,qc),(7,qe),(8,qs),(14,qe),(17,qae),(19,qak),(20,qc),(21,qc),(25,qc)],[(.exit 2,[(2,qg),(6,qc),(7,qe),(8,qs),(14,qe),(17,qae),(19,qak),(20,qc),(21,qc)])],Zfz_L2,[]⟩
def s_Zfz_L4:LSpec T:=⟨[(6,qc),(7,qe),(8,qs),(14,qe),(17,qae),(19,qak),(20,qc),(21,qc),(30,qc),(31,qc)],[(.exit 4,[(6,qc),(7,qe),(8,qs),(14,qe),(17,qae),(19,qak),(20,qc),(21,qc),(30,qc)])],Zfz_L4,[]⟩
def A_Zfz:Loc2 T:=lcA [(0,s_Zfz_L0),(2,s_Zfz_L2),(4,s_Zfz_L4)] [(38,[(6,qc),(7,qe),(14,qe),(19,qak),(21,qc),(30,qc),(34,qap)],true),(41,[(6,qc),(7,qe),(14,qe),(34,qap)],true)] [22]
theorem Vg1:LO c172 Tryz.f192 0 s_Zfz_L0:=lx o171 A_Zfz dn (λ_=>rfl)
theorem Vlu:LO c172 Tryz.f192 2 s_Zfz_L2:=lx o171 A_Zfz (dc rfl Vg1 dn) (λ_=>rfl)
theorem Vtf:LO c172 Tryz.f192 4 s_Zfz_L4:=lx o171 A_Zfz (dc rfl Vg1 (dc rfl Vlu dn)) (λ_=>rfl)
theorem o172:EO c172:=sx o171 A_Zfz Tryz.func192 (dc rfl Vg1 (dc rfl Vlu (dc rfl Vtf dn)))
def Zbi (a0:Jd×Unit) (a1:Jc) (a2 a3:Int):Option (((Jd×Unit)×Unit)×Unit):=
 bif decide (a3=0) then (Zbh ({a0.1 with d:=a1,jz:=a2},()) a3).bind λr1=>some (((r1.1.1.1,()),()),()) else bif decide (a3=16) then (Zbh ({a0.1 with d:=a1,jz:=a2},()) a3).bind λr2=>some (((r2.1.1.1,()),()),()) else (Zbh ({a0.1 with d:=a1},()) a3).bind λr3=>some (((r3.1.1.1,()),()),())
def c173:=cf c172 189 [qk,qas,qc,qc] [] (u4 Zbi)
theorem o173:EO c173:=sz o172 Tryz.func189
def Zeg (a0:Int):Option (Unit×Bool×Unit):=
 bif decide (0<=a0) then some ((),decide (a0<=4),()) else some ((),false,())
def c174:=ct c173 265 [qc] [qf] (u1 Zeg)
theorem o174:EO c174:=sz o173 Tryz.func265
def Zed (a0:BitVec 64) (a1 a2:Int):Option (Unit×BitVec 64×Unit):=
 let v1:List (BitVec 64):=[Qb 64 a1,Qb 64 a2];(passkeyref1_Words v1).bind λr2=>(Zhg a0 1 r2.2.1).bind λr3=>some ((),r3.2.1,())
def S_Zed:FSpec T:=⟨[qd,qc,qc],[qp],λx=>Zed x.1 x.2.1 x.2.2.1⟩
theorem Vaaa:SoundT Tryz.prog cd gdn 290 S_Zed:=
 sndC hmix o174 (lcA [] [] []) Tryz.func290 Vaj (by kernel_rfl) (by kernel_rfl) λx=>by kernel_rfl
def c175:List (Ct T):=⟨290,none,S_Zed,true⟩::c174
theorem o175:EnvOk Tryz.prog (mE c175):=eCons Vaaa o174
abbrev Y_Zhj_L0:=(Int×Int×Int×(BitVec 64)×Int×Unit)
abbrev Z_Zhj_L0:=((BitVec 64)×Unit)
def Zhj_L0b (y0 y1 y2:Int) (y3:BitVec 64) (y4:Int):Option (Y_Zhj_L0⊕Z_Zhj_L0):=
 bif decide (y4 < (bif decide (15 < y2) then (15:Int) else y2)) then let v1:List (BitVec 64):=[Qb 64 y0,Qb 64 y1,Qb 64 y4,y3];(passkeyref1_Words v1).bind λr2=>(Zge 1 r2.2.1).bind λr3=>some (Qe (y0,y1,y2,r3.2.1,Qa .i64 (y4+1),())) else some (Qd (y3,()))
def Zhj_L0 (y:Y_Zhj_L0):Option Z_Zhj_L0:=
 iter (λ(y:Y_Zhj_L0)=>Zhj_L0b y.1 y.2.1 y.2.2.1 y.2.2.2.1 y.2.2.2.2.1) rounds y
def Zhj (a0 a1 a2 a3:Int) (a4:BitVec 64):Option (Unit×BitVec 64×Unit):=
 (Zhj_L0 (a0,a1,a3,a4,bif decide (a2 < 0) then 0 else a2,())).bind λz4=>some ((),z4.1,())
def S_Zhj:FSpec T:=⟨[qc,qc,qc,qc,qd],[qp],λx=>Zhj x.1 x.2.1 x.2.2.1 x.2.2.2.1 x.2.2.2.2.1⟩
def s_Zhj_L0:LSpec T:=⟨[(0,qc),(1,qc),(3,qc),(4,qd),(11,qc)],[(.exit 0,[(4,qd)])],Zhj_L0,[]⟩
def A_Zhj:Loc2 T:=lcA [(0,s_Zhj_L0)] [] []
theorem Vtg:LoopOk Tryz.prog (mE c175) Tryz.f289.ntmps (kqOf S_Zhj.ps 0) (loopAt 0 (bodyOf Tryz.f289)) s_Zhj_L0:=
 lpC hmix o175 A_Zhj Vaj 0 (st:=λy=>Zhj_L0b y.1 y.2.1 y.2.2.1 y.2.2.2.1 y.2.2.2.2.1) (λ_=>rfl) (by kernel_rfl) (by kernel_rfl) λx=>by kernel_rfl
theorem Vaba:SoundT Tryz.prog cd gdn 289 S_Zhj:=
 sndC hmix o175 A_Zhj Tryz.func289 (Vc1 rfl Vtg Vaj) (by kernel_rfl) (by kernel_rfl) λx=>by kernel_rfl
def c176:List (Ct T):=⟨289,none,S_Zhj,true⟩::c175
theorem o176:EnvOk Tryz.prog (mE c176):=eCons Vaba o175
def Zgm (a0:Int) (a1:List (BitVec 64)):Option (Unit×BitVec 64×Unit):=
 (passkeyref1_Words [Qb 64 a0]).bind λr1=>(passkeyref1_Words a1).bind λr2=>bif small (r1.2.1.length+(r2.2.1:List UInt8).length) 1 then (Zge 2 (r1.2.1++r2.2.1)).bind λr3=>some ((),r3.2.1,()) else none
def S_Zgm:FSpec T:=⟨[qc,qat],[qp],λx=>Zgm x.1 x.2.1⟩
theorem Vaca:SoundT Tryz.prog cd gdn 292 S_Zgm:=
 sndC hmix o176 (lcA [] [] []) Tryz.func292 Vaj (by kernel_rfl) (by kernel_rfl) λx=>by kernel_rfl
def c177:List (Ct T):=⟨292,none,S_Zgm,true⟩::c176
theorem o177:EnvOk Tryz.prog (mE c177):=eCons Vaca o176
abbrev Y_Zgj_L0:=((BitVec 64)×Int×(List (BitVec 64))×Int×Unit)
abbrev Z_Zgj_L0:=(Int×(List (BitVec 64))×Unit)
def Zgj_L0b (y0:BitVec 64) (y1:Int) (y2:List (BitVec 64)) (y3:Int):Option (Y_Zgj_L0⊕Z_Zgj_L0):=
 bif decide (y3 < 18) then (Zed y0 y1 y3).bind λr1=>(Zhj y1 y3 0 15 r1.2.1).bind λr2=>bif small (y2.length+([r2.2.1]).length) 8 then some (Qe (y0,y1,y2++[r2.2.1],Qa .i64 (y3+1),())) else none else some (Qd (y1,y2,()))
def Zgj_L0 (y:Y_Zgj_L0):Option Z_Zgj_L0:=
 iter (λ(y:Y_Zgj_L0)=>Zgj_L0b y.1 y.2.1 y.2.2.1 y.2.2.2.1) rounds y
def ZgjG (k_Zed:BitVec 64->Int->Int->Option (Unit×BitVec 64×Unit)) (k_Zhj:Int->Int->Int->Int->BitVec 64->Option (Unit×BitVec 64×Unit)) (k_Zgm:Int->List (BitVec 64)->Option (Unit×BitVec 64×Unit)) (l_Zgj_L0:Y_Zgj_L0->Option Z_Zgj_L0) (a0:BitVec 64) (a1:Int):Option (Unit×BitVec 64×Unit):=
 (l_Zgj_L0 (a0,a1,[],(0:Int),())).bind λz3=>(k_Zgm z3.1 z3.2.1).bind λr4=>some ((),r4.2.1,())
def Zgj (a0:BitVec 64) (a1:Int):Option (Unit×BitVec 64×Unit):=
 ZgjG Zed Zhj Zgm Zgj_L0 a0 a1
def S_Zgj:FSpec T:=⟨[qd,qc],[qp],λx=>Zgj x.1 x.2.1⟩
def EG_Zgj (k_Zed:(BitVec 64)->Int->Int->Option ((Unit)×((BitVec 64)×Unit))) (k_Zhj:Int->Int->Int->Int->(BitVec 64)->Option ((Unit)×((BitVec 64)×Unit))) (k_Zgm:Int->(List (BitVec 64))->Option ((Unit)×((BitVec 64)×Unit))) (l_Zgj_L0:Y_Zgj_L0->Option Z_Zgj_L0):Env T:=⟨tab.find,cd,globs,flc,λf ds=>match f with
  | 289=>some ⟨S_Zhj.ps,S_Zhj.rs,λx=>k_Zhj x.1 x.2.1 x.2.2.1 x.2.2.2.1 x.2.2.2.2.1⟩
  | 290=>some ⟨S_Zed.ps,S_Zed.rs,λx=>k_Zed x.1 x.2.1 x.2.2.1⟩
  | 292=>some ⟨S_Zgm.ps,S_Zgm.rs,λx=>k_Zgm x.1 x.2.1⟩
  | _=>none,λf=>match f with
  | 289=>true
  | 290=>true
  | 292=>true
  | _=>false⟩
def E_Zgj:Env T:=EG_Zgj Zed Zhj Zgm Zgj_L0
def AG_Zgj (k_Zed:(BitVec 64)->Int->Int->Option ((Unit)×((BitVec 64)×Unit))) (k_Zhj:Int->Int->Int->Int->(BitVec 64)->Option ((Unit)×((BitVec 64)×Unit))) (k_Zgm:Int->(List (BitVec 64))->Option ((Unit)×((BitVec 64)×Unit))) (l_Zgj_L0:Y_Zgj_L0->Option Z_Zgj_L0):Loc2 T:=⟨λid=>match id with
  | 0=>some ⟨[(0,.f (.v .u64)),(1,.f (.v (.int .i64))),(5,.f (.own 10)),(6,.f (.v (.int .i64)))],[(.exit 0,[(1,.f (.v (.int .i64))),(5,.f (.own 10))])],l_Zgj_L0,[]⟩
  | _=>none,λr=>match r with
  | _=>none,λr=>match r with
  | _=>false⟩
def A_Zgj:Loc2 T:=AG_Zgj Zed Zhj Zgm Zgj_L0
theorem Vth (y0:(BitVec 64)) (y1:Int) (y2:(List (BitVec 64))) (y3:Int):run E_Zgj A_Zgj (loopAt 0 (Tryz.f286.body.getD .skip)) (layC cd [(0,.f (.v .u64)),(1,.f (.v (.int .i64))),(5,.f (.own 10)),(6,.f (.v (.int .i64)))] [] (y0,y1,y2,y3,())) (roundK cd [(0,.f (.v .u64)),(1,.f (.v (.int .i64))),(5,.f (.own 10)),(6,.f (.v (.int .i64)))] [] [(.exit 0,[(1,.f (.v (.int .i64))),(5,.f (.own 10))])])=Zgj_L0b y0 y1 y2 y3:=by kernel_rfl
theorem Vbla (k_Zed:(BitVec 64)->Int->Int->Option ((Unit)×((BitVec 64)×Unit))) (k_Zhj:Int->Int->Int->Int->(BitVec 64)->Option ((Unit)×((BitVec 64)×Unit))) (k_Zgm:Int->(List (BitVec 64))->Option ((Unit)×((BitVec 64)×Unit))) (l_Zgj_L0:Y_Zgj_L0->Option Z_Zgj_L0) (x:tySs T S_Zgj.ps):run (EG_Zgj k_Zed k_Zhj k_Zgm l_Zgj_L0) (AG_Zgj k_Zed k_Zhj k_Zgm l_Zgj_L0) (Tryz.f286.body.getD .skip) (enterT (EG_Zgj k_Zed k_Zhj k_Zgm l_Zgj_L0).C S_Zgj.ps x) (retK (EG_Zgj k_Zed k_Zhj k_Zgm l_Zgj_L0) Tryz.f286.results.toList S_Zgj.ps S_Zgj.rs)=ZgjG k_Zed k_Zhj k_Zgm l_Zgj_L0 x.1 x.2.1:=by kernel_rfl
theorem Veea (x:tySs T S_Zgj.ps):run E_Zgj A_Zgj (Tryz.f286.body.getD .skip) (enterT E_Zgj.C S_Zgj.ps x) (retK E_Zgj Tryz.f286.results.toList S_Zgj.ps S_Zgj.rs)=S_Zgj.fn x:=Eq.mp (by kernel_rfl) (Vbla Zed Zhj Zgm Zgj_L0 x)
theorem Vti:EnvOk Tryz.prog E_Zgj:=envOk (E:=E_Zgj) cd_ok tys fl_ok λf ds S h=>by
  dsimp only [E_Zgj,EG_Zgj] at h
  split at h
  ·cases h; exact Vaba
  ·cases h; exact Vaaa
  ·cases h; exact Vaca
  ·cases h
theorem Vtj:LoopOk Tryz.prog E_Zgj Tryz.f286.ntmps (kqOf S_Zgj.ps 0) (loopAt 0 (Tryz.f286.body.getD .skip)) ⟨[(0,.f (.v .u64)),(1,.f (.v (.int .i64))),(5,.f (.own 10)),(6,.f (.v (.int .i64)))],[(.exit 0,[(1,.f (.v (.int .i64))),(5,.f (.own 10))])],Zgj_L0,[]⟩:=
 Vkz (A:=A_Zgj) (done:=[]) (c0:=(Tryz.f286.body.getD .skip)) hmix Vti Vaj rounds (by kernel_rfl) (by kernel_rfl) (λx=>Vth x.1 x.2.1 x.2.2.1 x.2.2.2.1) (λ_=>rfl)
theorem Vada:SoundT Tryz.prog cd gdn 286 S_Zgj:=
 Vde (E:=E_Zgj) (A:=A_Zgj) (done:=[0]) (c:=(Tryz.f286.body.getD .skip)) (S:=S_Zgj) (fn:=Tryz.f286) hmix Vti Tryz.func286 rfl (by kernel_rfl) (by kernel_rfl) (Vc1 rfl Vtj Vaj) (by kernel_rfl) (by kernel_rfl) Veea
def c178:List (Ct T):=⟨286,none,S_Zgj,true⟩::c177
theorem o178:EnvOk Tryz.prog (mE c178):=eCons Vada o177
def Zeh (a0:Int) (a1 a2:BitVec 64):Option (Unit×BitVec 64×Unit):=
 (passkeyref1_Words [Qb 64 a0,a1,a2]).bind λr1=>(Zge 3 r1.2.1).bind λr2=>some ((),r2.2.1,())
def S_Zeh:FSpec T:=⟨[qc,qd,qd],[qp],λx=>Zeh x.1 x.2.1 x.2.2.1⟩
theorem Vaea:SoundT Tryz.prog cd gdn 287 S_Zeh:=
 sndC hmix o178 (lcA [] [] []) Tryz.func287 Vaj (by kernel_rfl) (by kernel_rfl) λx=>by kernel_rfl
def c179:List (Ct T):=⟨287,none,S_Zeh,true⟩::c178
theorem o179:EnvOk Tryz.prog (mE c179):=eCons Vaea o178
def Zgn_R (k_rec:BitVec 64->Int->Int->Option (Unit×BitVec 64×Unit)) (a0:BitVec 64) (a1 a2:Int):Option (Unit×BitVec 64×Unit):=
 bif decide (a1=0) then (Zgj a0 a2).bind λr1=>some ((),r1.2.1,()) else (k_rec a0 (Qa .i64 (a1 - 1)) (Qa .i64 (2*a2))).bind λr2=>let v3:=Qa .i64 (Qa .i64 (2*a2)+1);(k_rec a0 (Qa .i64 (a1 - 1)) v3).bind λr4=>(Zeh a1 r2.2.1 r4.2.1).bind λr5=>some ((),r5.2.1,())
abbrev ps_Zgn:List Slot:=[qd,qc,qc]
abbrev rs_Zgn:List Fld:=[qp]
def Zgn_RG (k_rec:BitVec 64->Int->Int->Option (Unit×BitVec 64×Unit)) (k_Zgj:BitVec 64->Int->Option (Unit×BitVec 64×Unit)) (k_Zeh:Int->BitVec 64->BitVec 64->Option (Unit×BitVec 64×Unit)) (a0:BitVec 64) (a1 a2:Int):Option (Unit×BitVec 64×Unit):=
 bif decide (a1=0) then (k_Zgj a0 a2).bind λr1=>some ((),r1.2.1,()) else (k_rec a0 (Qa .i64 (a1 - 1)) (Qa .i64 (2*a2))).bind λr2=>let v3:=Qa .i64 (Qa .i64 (2*a2)+1);(k_rec a0 (Qa .i64 (a1 - 1)) v3).bind λr4=>(k_Zeh a1 r2.2.1 r4.2.1).bind λr5=>some ((),r5.2.1,())
def EG_Zgn (k_rec:(BitVec 64)->Int->Int->Option ((Unit)×((BitVec 64)×Unit))) (k_Zgj:(BitVec 64)->Int->Option ((Unit)×((BitVec 64)×Unit))) (k_Zeh:Int->(BitVec 64)->(BitVec 64)->Option ((Unit)×((BitVec 64)×Unit))):Env T:=⟨tab.find,cd,globs,flc,λf ds=>match f with
  | 279=>some ⟨ps_Zgn,rs_Zgn,λx=>k_rec x.1 x.2.1 x.2.2.1⟩
  | 286=>some ⟨S_Zgj.ps,S_Zgj.rs,λx=>k_Zgj x.1 x.2.1⟩
  | 287=>some ⟨S_Zeh.ps,S_Zeh.rs,λx=>k_Zeh x.1 x.2.1 x.2.2.1⟩
  | _=>none,λf=>match f with
  | 279=>true
  | 286=>true
  | 287=>true
  | _=>false⟩
def E_Zgn (k_rec:(BitVec 64)->Int->Int->Option ((Unit)×((BitVec 64)×Unit))):Env T:=EG_Zgn k_rec Zgj Zeh
def A_Zgn (k_rec:(BitVec 64)->Int->Int->Option ((Unit)×((BitVec 64)×Unit))):Loc2 T:=⟨λid=>match id with
  | _=>none,λr=>match r with
  | _=>none,λr=>match r with
  | _=>false⟩
theorem Vxc (k_rec:(BitVec 64)->Int->Int->Option ((Unit)×((BitVec 64)×Unit))) (k_Zgj:(BitVec 64)->Int->Option ((Unit)×((BitVec 64)×Unit))) (k_Zeh:Int->(BitVec 64)->(BitVec 64)->Option ((Unit)×((BitVec 64)×Unit))) (x:tySs T ps_Zgn):run (EG_Zgn k_rec k_Zgj k_Zeh) (A_Zgn k_rec) (Tryz.f279.body.getD .skip) (enterT (EG_Zgn k_rec k_Zgj k_Zeh).C ps_Zgn x) (retK (EG_Zgn k_rec k_Zgj k_Zeh) Tryz.f279.results.toList ps_Zgn rs_Zgn)=Zgn_RG k_rec k_Zgj k_Zeh x.1 x.2.1 x.2.2.1:=by kernel_rfl
theorem Vbma (k_rec:(BitVec 64)->Int->Int->Option ((Unit)×((BitVec 64)×Unit))) (x:tySs T ps_Zgn):run (E_Zgn k_rec) (A_Zgn k_rec) (Tryz.f279.body.getD .skip) (enterT (E_Zgn k_rec).C ps_Zgn x) (retK (E_Zgn k_rec) Tryz.f279.results.toList ps_Zgn rs_Zgn)=Zgn_R k_rec x.1 x.2.1 x.2.2.1:=Eq.mp (by kernel_rfl) (Vxc k_rec Zgj Zeh x)
def Zgn_n:Nat->(BitVec 64)->Int->Int->Option ((Unit)×((BitVec 64)×Unit))
 | 0=>λ_ _ _=>none
 | n+1=>Zgn_R (Zgn_n n)
def Zgn (a0:(BitVec 64)) (a1:Int) (a2:Int):=Zgn_n 8 a0 a1 a2
def S_Zgn:FSpec T:=⟨ps_Zgn,rs_Zgn,λx=>Zgn x.1 x.2.1 x.2.2.1⟩
theorem Vbna (k_rec:(BitVec 64)->Int->Int->Option ((Unit)×((BitVec 64)×Unit))) (hk:SoundT Tryz.prog cd gdn 279 ⟨ps_Zgn,rs_Zgn,λx=>k_rec x.1 x.2.1 x.2.2.1⟩):EnvOk Tryz.prog (E_Zgn k_rec):=envOk (E:=(E_Zgn k_rec)) cd_ok tys fl_ok λf ds S h=>by
  dsimp only [E_Zgn,EG_Zgn] at h
  split at h
  ·cases h; exact hk
  ·cases h; exact Vada
  ·cases h; exact Vaea
  ·cases h
theorem Vtk:∀ n:Nat,SoundT Tryz.prog cd gdn 279 ⟨ps_Zgn,rs_Zgn,λx=>Zgn_n n x.1 x.2.1 x.2.2.1⟩
 | 0=>Vf8 ⟨_,Tryz.func279,by kernel_rfl,by kernel_rfl⟩
 | n+1=>Vde (E:=E_Zgn (Zgn_n n)) (A:=A_Zgn (Zgn_n n)) (done:=[]) (c:=(Tryz.f279.body.getD .skip)) (S:=⟨ps_Zgn,rs_Zgn,λx=>Zgn_n (n+1) x.1 x.2.1 x.2.2.1⟩) (fn:=Tryz.f279) hmix (Vbna _ (Vtk n)) Tryz.func279 rfl (by kernel_rfl) (by kernel_rfl) Vaj (by kernel_rfl) (by kernel_rfl) (Vbma (Zgn_n n))
theorem Vefa:SoundT Tryz.prog cd gdn 279 S_Zgn:=Vtk 8
def c180:List (Ct T):=⟨279,none,S_Zgn,true⟩::c179
theorem o180:EnvOk Tryz.prog (mE c180):=eCons Vefa o179
def Zec (a0:BitVec 64) (a1:Int):Option (Unit×Jt×Int×Unit):=
 (Zeg a1).bind λr1=>bif !r1.2.1 then some ((),{},9,()) else (Zgn a0 a1 0).bind λr2=>some ((),⟨a1,r2.2.1⟩,0,())
def c181:=ct c180 253 [qd,qc] [qba,qa] (u2 Zec)
theorem o181:EO c181:=sz o180 Tryz.func253
def Zfx (a0:Jg):Option (Unit×Jt×Int×Unit):=
 (Zaa a0).bind λr1=>bif !(decide (r1.2.1=0)) then some ((),{},r1.2.1,()) else (Zec a0.jag a0.jc).bind λr2=>some ((),r2.2.1,r2.2.2.1,())
def c182:=ct c181 193 [(.f qaj)] [qba,qa] (u1 Zfx)
theorem o182:EO c182:=sz o181 Tryz.func193
def Zbx (a0:Jt):Option (Unit×List UInt8×Int×Unit):=
 (Zeg a0.jc).bind λr1=>bif !r1.2.1 then some ((),[],9,()) else let v2:List UInt8:=[Qf (Qb 8 a0.jc)];(passkeyref1_Words [a0.jba]).bind λr3=>bif small (v2.length+(r3.2.1:List UInt8).length) 1 then some ((),v2++r3.2.1,0,()) else none
def c183:=cf c182 254 [(.f qba)] [qj,qa] (u1 Zbx)
theorem o183:EO c183:=sx o182 (lcA [] [] [3]) Tryz.func254 dn
end Go.Proofs.YtancibcbaajjkaaGreatDoor

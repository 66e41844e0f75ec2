/- The functions of the program, as plain functions, and that the program computes them. Written by a program. -/
import Derived.Test.YtnfhkhlbdgbkjaaGreatDoorFns0
set_option linter.unusedVariables false
set_option maxRecDepth 100000
namespace Go.Proofs.YtnfhkhlbdgbkjaaGreatDoor
open Go Go.Abs
open Go.IntKind renaming wrap → Qa, bits → Qf
open _root_.Sum renaming inl → Qb, inr → Qd, elim → Qh
open _root_.BitVec renaming ofInt → Qc, setWidth → Qg
open _root_.UInt8 renaming ofBitVec → Qe
open _root_.List renaming set → Qi, take → Qj, drop → Qk, replicate → Qm
open _root_.Int renaming fdiv → Ql
def Zhh(a0:Jk)(a1 a2 a3:Int):O1 Int:=
 (Zak a0).bind λr1=>cond (!(decide (r1.2.1=0))) (rt r1.2.1) (cond (decide (a1<0)) (rt 9) (cond (decide (a0.ja=0)) none (let v2:=Qa .i64 (Int.tdiv (a0.bytes.length:Int) a0.ja);cond (decide (v2<=a1)) (rt 9) (cond (decide (a2<0)) (rt 9) (cond (decide (a3<0)) (rt 9) (cond (decide (a0.ja<a2)) (rt 9) (cond (decide (Qa .i64 (a0.ja-a2)<a3)) (rt 9) (rt 0))))))))
def c71:=ct c70 280 [qa8,qc,qc,qc] [qa] (u4 Zhh)
theorem o71:EO c71:=sz o70 Tryz.func280
def Zex_L0b(y0 y1:Int)(y2:Ua)(y3:Int)(y4:Int×Ua×Unit)(y5:Jk×Unit)(y6:Int):Option ((Int×Int×Ua×Int×(Int×Ua×Unit)×(Jk×Unit)×Int×Unit)⊕(((Int×Ua×Unit)×Int×Int×Unit)⊕(Int×(Int×Ua×Unit)×(Jk×Unit)×Unit))):=
 cond (decide (y6<y1)) (cond (decide (y3=0)) (some (Qd (Qb ((y4.1,y4.2.1,()),0,16,())))) (cond (decide ((y2.length:Int)=0)) (cond (decide (0<=Qa .i64 (y0+y6))&&decide (Qa .i64 (y0+y6)<y4.2.1.length)) (y4.2.1[(Qa .i64 (y0+y6)).toNat]?.bind λx1=>let v2:=Qi y4.2.1 (Qa .i64 (y0+y6)).toNat (255:UInt8);cond (decide (0<y3)) (some (Qb (y0,y1,y2,Qa .i64 (y3-1),(y4.1,v2,()),(y5.1,()),Qa .i64 (y6+1),()))) (some (Qb (y0,y1,y2,y3,(y4.1,v2,()),(y5.1,()),Qa .i64 (y6+1),())))) none) (cond (decide (0<=Qa .i64 (y0+y6))&&decide (Qa .i64 (y0+y6)<y4.2.1.length)) (y4.2.1[(Qa .i64 (y0+y6)).toNat]?.bind λx3=>(getI y2 y6).bind λx4=>cond (decide (0<=Qa .i64 (y0+y6))&&decide (Qa .i64 (y0+y6)<y4.2.1.length)) (y4.2.1[(Qa .i64 (y0+y6)).toNat]?.bind λx5=>let v6:=Qi y4.2.1 (Qa .i64 (y0+y6)).toNat (Qe (x3.toBitVec&&&x4.toBitVec));cond (decide (0<y3)) (some (Qb (y0,y1,y2,Qa .i64 (y3-1),(y4.1,v6,()),(y5.1,()),Qa .i64 (y6+1),()))) (some (Qb (y0,y1,y2,y3,(y4.1,v6,()),(y5.1,()),Qa .i64 (y6+1),())))) none) none))) (some (Qd (Qd (y3,(y4.1,y4.2.1,()),(y5.1,()),()))))
def Zex_L0:=Yi7 Zex_L0b
def Zex(a0:Jk)(a1 a2:Int)(a3:Ua)(a4:Int):Option (Unit×Jk×Int×Int×Unit):=
 cond (small a0.bytes.length 1) ((Zex_L0 (a1,a2,a3,a4,(a0.ja,a0.bytes,()),({},()),0,())).bind (Qh (λz7=>some ((),⟨z7.1.1,z7.1.2.1⟩,z7.2.1,z7.2.2.1,())) (λz8=>some ((),⟨z8.2.1.1,z8.2.1.2.1⟩,z8.1,0,())))) none
def c72:=cf c71 281 [qa8,qc,qc,qg,qc] [qw,qa,qa] (u5 Zex)
def s_Zex_L0:LSpec T:=⟨[(1,qc),(2,qc),(3,qg),(4,qc),(5,qaz),(10,qa3),(13,qc)],[(.ret,[(10,qaz),(11,qc),(12,qc)]),(.exit 0,[(4,qc),(5,qaz),(10,qa3)])],Zex_L0,[]⟩
def A_Zex:Loc2 T:=lcA [(0,s_Zex_L0)] []
theorem Vto:LO c72 Tryz.f281 0 s_Zex_L0:=lx o71 A_Zex dn (λ_=>rfl)
theorem o72:EO c72:=sx o71 A_Zex Tryz.func281 (dc rfl Vto dn)
def Zfv(a0:Jk)(a1 a2:Int):Option (Unit×Jk×Int×Int×Unit):=
 (Zhh a0 a1 0 0).bind λr1=>cond (!(decide (r1.2.1=0))) (some ((),{},0,r1.2.1,())) ((Zex a0 (Qa .i64 (a1*a0.ja)) a0.ja [] a2).bind λr2=>some ((),r2.2.1,r2.2.2.1,r2.2.2.2.1,()))
def c73:=cf c72 245 [qa8,qc,qc] [qw,qa,qa] (u3 Zfv)
theorem o73:EO c73:=sz o72 Tryz.func245
def Zdo(a0:Jk)(a1 a2:Int)(a3:Ua)(a4:Int):Option (Unit×Jk×Int×Int×Unit):=
 (Zhh a0 a1 a2 (a3.length:Int)).bind λr1=>cond (!(decide (r1.2.1=0))) (some ((),{},0,r1.2.1,())) (let v2:=Qa .i64 (Qa .i64 (a1*a0.ja)+a2);(Zex a0 v2 (a3.length:Int) a3 a4).bind λr3=>some ((),r3.2.1,r3.2.2.1,r3.2.2.2.1,()))
def c74:=cf c73 246 [qa8,qc,qc,qg,qc] [qw,qa,qa] (u5 Zdo)
theorem o74:EO c74:=sz o73 Tryz.func246
def Zeu(a0:Jk)(a1:Int):Option (Unit×Jh×Int×Int×Unit):=
 (Zak a0).bind λr1=>cond (!(decide (r1.2.1=0))) ((Zew a0 r1.2.1).bind λr2=>some ((),r2.2.1,r2.2.2.1,r2.2.2.2.1,())) (cond (decide (a0.bytes.length<Qa .i64 (2*a0.ja))) ((Zew a0 4).bind λr3=>some ((),r3.2.1,r3.2.2.1,r3.2.2.2.1,())) ((Zfv a0 0 a1).bind λr4=>(cond (decide (r4.2.2.2.1=0)) ((Zfv r4.2.1 1 r4.2.2.1).bind λr5=>some (r5.2.2.1,(r5.2.1,()),(({}:Jh),()),r5.2.2.2.1,())) (some (r4.2.2.1,(r4.2.1,()),(({}:Jh),()),r4.2.2.2.1,()))).bind λj6=>(cond (decide (j6.2.2.2.1=0)) ((Zey 1).bind λr7=>(Zdo j6.2.1.1 0 0 r7.2.1 j6.1).bind λr8=>some (r8.2.2.1,(r8.2.1,()),(j6.2.2.1.1,()),r8.2.2.2.1,())) (some (j6.1,(j6.2.1.1,()),(j6.2.2.1.1,()),j6.2.2.2.1,()))).bind λj9=>cond (!(decide (j9.2.2.2.1=0))) ((Zew j9.2.1.1 j9.2.2.2.1).bind λr10=>some ((),r10.2.1,r10.2.2.1,r10.2.2.2.1,())) ((Zfw j9.2.1.1).bind λr11=>some ((),r11.2.1,j9.1,0,()))))
def c75:=cf c74 170 [qa8,qc] [qp,qa,qa] (u2 Zeu)
theorem o75:EO c75:=sx o74 (lcA [] [(9,[(1,qc),(2,qa3),(4,qai),(8,qc)],true),(11,[(1,qc),(2,qa3),(4,qai),(8,qc)],true)]) Tryz.func170 dn
def Zhi(a0:Jh)(a1:Int):Option (Unit×Jm×Int×Int×Unit):=
 cond (decide (a1=16)) (some ((),⟨{jf:=a0.jf},[]⟩,0,a1,())) (some ((),{},0,a1,()))
def c76:=cf c75 171 [(.f qp),qc] [qaq,qa,qa] (u2 Zhi)
theorem o76:EO c76:=sz o75 Tryz.func171
def Zcb(a0 a1:Jk):O1 Bool:=
 cond (decide (a0.ja=a1.ja)) (rt (decide (a0.bytes=a1.bytes))) (rt false)
def c77:=ct c76 288 [qa8,qa8] [qf] (u2 Zcb)
theorem o77:EO c77:=sz o76 Tryz.func288
def Zbd(a0 a1:Jh):O1 Bool:=
 (Zcb a0.jf a1.jf).bind λr1=>cond r1.2.1 (cond (decide (a0.jak=a1.jak)) (cond (decide (a0.jr=a1.jr)) (cond (decide (a0.tail=a1.tail)) (rt (a0.jat==a1.jat)) (rt false)) (rt false)) (rt false)) (rt false)
def c78:=ct c77 282 [(.f qp),(.f qp)] [qf] (u2 Zbd)
theorem o78:EO c78:=sz o77 Tryz.func282
def Zdn(a0:Jh):O1 Bool:=
 (Zfw a0.jf).bind λr1=>cond (decide (r1.2.2.1=0)) ((Zbd a0 r1.2.1).bind λr2=>rt r2.2.1) (rt false)
def c79:=ct c78 250 [(.f qp)] [qf] (u1 Zdn)
theorem o79:EO c79:=sz o78 Tryz.func250
def Zdp(a0:Jh):O1 (List Ua):=
 (Zdn a0).bind λr1=>cond (!r1.2.1) (rt []) ((Zhj a0.jf a0.jak a0.jr).bind λr2=>rt r2.2.1)
def c80:=cf c79 248 [(.f qp)] [(.own 2)] (u1 Zdp)
theorem o80:EO c80:=sz o79 Tryz.func248
def Zfy_L0b(y0:Ua)(y1:List Jf):Option ((Ua×(List (Jf))×Unit)⊕(((List (Jf))×Bool×Unit)⊕((List (Jf))×Unit))):=
 cond (decide (0<(y0.length:Int))) (cond (decide ((y0.length:Int)<3)) (some (Qd (Qb ([],false,())))) ((getI y0 (1:Int)).bind λx1=>let v2:=Qa .i64 ((x1.toBitVec.toNat:Int)*2^min 8 (Qf .i64));(getI y0 (2:Int)).bind λx3=>let v4:=Qa .i64 ((Qc (Qf .i64) v2|||Qc (Qf .i64) (x3.toBitVec.toNat:Int)).toNat:Int);cond (decide (Qa .i64 ((y0.length:Int)-3)<v4)) (some (Qd (Qb ([],false,())))) ((getI y0 (1:Int)).bind λx5=>let v6:=Qa .i64 ((x5.toBitVec.toNat:Int)*2^min 8 (Qf .i64));(getI y0 (2:Int)).bind λx7=>let v8:=Qa .i64 ((Qc (Qf .i64) v6|||Qc (Qf .i64) (x7.toBitVec.toNat:Int)).toNat:Int);(getI y0 (0:Int)).bind λx9=>cond (decide (0<=Qa .i64 (3+v8))&&decide (Qa .i64 (3+v8)<=y0.length)) (cond (decide (3<=((Qa .i64 (3+v8)).toNat:Int))) (let v10:=Qk 3 (Qj (Qa .i64 (3+v8)).toNat y0);cond (small v10.length 1) (let v11:List Jf:=[⟨(x9.toBitVec.toNat:Int),v10⟩];cond (small (y1.length+(v11:List Jf).length) 32) (cond (decide (0<=Qa .i64 (3+v8))&&decide (Qa .i64 (3+v8)<=y0.length)) (some (Qb (Qk (Qa .i64 (3+v8)).toNat y0,y1++v11,()))) none) none) none) none) none))) (some (Qd (Qd (y1,()))))
def Zfy_L0:=Yi2 Zfy_L0b
def Zfy(a0:Ua):O2 (List Jf) Bool:=
 (Zfy_L0 (a0,[],())).bind (Qh (λz12=>ru z12.1 z12.2.1) (λz13=>ru z13.1 true))
def c81:=cf c80 249 [qg] [(.own 15),qf] (u1 Zfy)
def s_Zfy_L0:LSpec T:=⟨[(0,qg),(4,qap)],[(.ret,[(2,qap),(3,qs)]),(.exit 0,[(4,qap)])],Zfy_L0,[]⟩
def A_Zfy:Loc2 T:=lcA [(0,s_Zfy_L0)] []
theorem Vtp:LO c81 Tryz.f249 0 s_Zfy_L0:=lx o80 A_Zfy dn (λ_=>rfl)
theorem o81:EO c81:=sx o80 A_Zfy Tryz.func249 (dc rfl Vtp dn)
abbrev Y_Zhg_L2:=((List (Jf))×(List (Jf))×Int×(List (Jf))×Bool×Int×Unit)
abbrev Z_Zhg_L2:=((List (Jf))×Int×(List (Jf))×Bool×Unit)
def Zhg_L2b(y0 y1:List Jf)(y2:Int)(y3:List Jf)(y4:Bool)(y5:Int):Option (Y_Zhg_L2⊕Z_Zhg_L2):=
 cond (decide (y5<y0.length)) ((cond (!y4) ((getI y0 y5).bind λx2=>(getI y1 y2).bind λx3=>cond (decide (x3.key<=x2.key)) ((getI y1 y2).bind λx4=>cond (small (y3.length+([x4]).length) 32) (some (y0,y1,y2,y3++[x4],true,y5,())) none) (some (y0,y1,y2,y3,y4,y5,()))) (some (y0,y1,y2,y3,y4,y5,()))).bind λj5=>(getI j5.1 j5.2.2.2.2.2.1).bind λx6=>(getI j5.2.1 j5.2.2.1).bind λx7=>cond (!(decide (x6.key=x7.key))) ((getI j5.1 j5.2.2.2.2.2.1).bind λx8=>cond (small (j5.2.2.2.1.length+([x8]).length) 32) (some (Qb (j5.1,j5.2.1,j5.2.2.1,j5.2.2.2.1++[x8],j5.2.2.2.2.1,Qa .i64 (j5.2.2.2.2.2.1+1),()))) none) (some (Qb (j5.1,j5.2.1,j5.2.2.1,j5.2.2.2.1,j5.2.2.2.2.1,Qa .i64 (j5.2.2.2.2.2.1+1),())))) (some (Qd (y1,y2,y3,y4,())))
def Zhg_L2:=Yi6 Zhg_L2b
def Zhg_L0b(y0 y1:List Jf)(y2:Int):Option (((List (Jf))×(List (Jf))×Int×Unit)⊕((List (Jf))×Unit)):=
 cond (decide (y2<y1.length)) ((getI y1 y2).bind λx1=>(Zhg_L2 (y0,y1,y2,[],decide ((x1.value.length:Int)=0),0,())).bind λz2=>cond (!z2.2.2.2.1) ((getI z2.1 z2.2.1).bind λx3=>cond (small (z2.2.2.1.length+([x3]).length) 32) (some (Qb (z2.2.2.1++[x3],z2.1,Qa .i64 (z2.2.1+1),()))) none) (some (Qb (z2.2.2.1,z2.1,Qa .i64 (z2.2.1+1),())))) (some (Qd (y0,())))
def Zhg_L0:=Yi3 Zhg_L0b
def Zhg(a0 a1:List Jf):O1 (List Jf):=
 (Zhg_L0 (a0,a1,0,())).bind λz4=>rt z4.1
def c82:=cf c81 179 [qn,qn] [(.v (.rs 15))] (u2 Zhg)
def s_Zhg_L2:LSpec T:=⟨[(0,qn),(1,qn),(5,qc),(6,qap),(7,qs),(8,qc)],[(.exit 2,[(1,qn),(5,qc),(6,qap),(7,qs)])],Zhg_L2,[]⟩
def s_Zhg_L0:LSpec T:=⟨[(0,qn),(1,qn),(5,qc)],[(.exit 0,[(0,qn)])],Zhg_L0,[]⟩
def A_Zhg:Loc2 T:=lcA [(2,s_Zhg_L2),(0,s_Zhg_L0)] [(11,[(0,qn),(1,qn),(5,qc),(6,qap),(7,qs),(8,qc)],true)]
theorem Vl6:LO c82 Tryz.f179 2 s_Zhg_L2:=lx o81 A_Zhg dn (λ_=>rfl)
theorem Vtq:LO c82 Tryz.f179 0 s_Zhg_L0:=lx o81 A_Zhg (dc rfl Vl6 dn) (λ_=>rfl)
theorem o82:EO c82:=sx o81 A_Zhg Tryz.func179 (dc rfl Vl6 (dc rfl Vtq dn))
def Zev_L0b(y0:List Jf)(y1:List Ua)(y2:Int):Option (((List (Jf))×(List Ua)×Int×Unit)⊕((List (Jf))×Unit)):=
 cond (decide (y2<y1.length)) (cond (decide (0<=y2)&&decide (y2<y1.length)) (y1[y2.toNat]?.bind λx5=>(Zfy x5).bind λr6=>cond r6.2.2.1 ((Zhg y0 r6.2.1).bind λr7=>some (Qb (r7.2.1,y1,Qa .i64 (y2+1),()))) (some (Qb (y0,y1,Qa .i64 (y2+1),())))) none) (some (Qd (y0,())))
def Zev_L0:=Yi3 Zev_L0b
def Zev(a0:Jh):O1 (List Jf):=
 (Zdp a0).bind λr1=>(Zev_L0 ([],r1.2.1,0,())).bind λz8=>rt z8.1
def c83:=cf c82 172 [(.f qp)] [(.v (.rs 15))] (u1 Zev)
def s_Zev_L0:LSpec T:=⟨[(3,qn),(4,qav),(5,qc)],[(.exit 0,[(3,qn)])],Zev_L0,[]⟩
def A_Zev:Loc2 T:=lcA [(0,s_Zev_L0)] []
theorem Vtr:LO c83 Tryz.f172 0 s_Zev_L0:=lx o82 A_Zev dn (λ_=>rfl)
theorem o83:EO c83:=sx o82 A_Zev Tryz.func172 (dc rfl Vtr dn)
def Zez_L0b(y0:List Jf)(y1:Ua)(y2:Int):Option (((List (Jf))×Ua×Int×Unit)⊕(Ua×Unit)):=
 cond (decide (y2<y0.length)) ((getI y0 y2).bind λx1=>(getI y0 y2).bind λx2=>let v3:=Ql (x2.value.length:Int) (2^min 8 (Qf .i64));(getI y0 y2).bind λx4=>let v5:Ua:=[Qe (Qc 8 x1.key),Qe (Qc 8 v3),Qe (Qc 8 (x4.value.length:Int))];cond (small (y1.length+(v5:Ua).length) 1) ((getI y0 y2).bind λx6=>cond (small ((y1++v5).length+(x6.value:Ua).length) 1) (some (Qb (y0,y1++v5++x6.value,Qa .i64 (y2+1),()))) none) none) (some (Qd (y1,())))
def Zez_L0:=Yi3 Zez_L0b
def Zez(a0:List Jf):O1 Ua:=
 (Zez_L0 (a0,[],0,())).bind λz7=>rt z7.1
def c84:=cf c83 182 [qn] [qk] (u1 Zez)
def s_Zez_L0:LSpec T:=⟨[(0,qn),(3,qah),(4,qc)],[(.exit 0,[(3,qah)])],Zez_L0,[]⟩
def A_Zez:Loc2 T:=lcA [(0,s_Zez_L0)] []
theorem Vts:LO c84 Tryz.f182 0 s_Zez_L0:=lx o83 A_Zez dn (λ_=>rfl)
theorem o84:EO c84:=sx o83 A_Zez Tryz.func182 (dc rfl Vts dn)
def Zcp_L0b(y0:List Jf)(y1:List Ua)(y2:Int):Option (((List (Jf))×(List Ua)×Int×Unit)⊕((List Ua)×Unit)):=
 cond (decide (y2<y0.length)) (cond (decide (0<=Qa .i64 (y2+1))&&decide (Qa .i64 (y2+1)<=y0.length)) (cond (decide (0<=y2)&&decide (y2<=(Qa .i64 (y2+1)).toNat)) (let v1:=Qk y2.toNat (Qj (Qa .i64 (y2+1)).toNat y0);(Zez v1).bind λr2=>cond (small (y1.length+([r2.2.1]).length) 24) (some (Qb (y0,y1++[r2.2.1],Qa .i64 (y2+1),()))) none) none) none) (some (Qd (y1,())))
def Zcp_L0:=Yi3 Zcp_L0b
def Zcp(a0:List Jf):O1 (List Ua):=
 (Zcp_L0 (a0,[],0,())).bind λz3=>rt z3.1
def c85:=cf c84 174 [qn] [(.own 2)] (u1 Zcp)
def s_Zcp_L0:LSpec T:=⟨[(0,qn),(3,qav),(4,qc)],[(.exit 0,[(3,qav)])],Zcp_L0,[]⟩
def A_Zcp:Loc2 T:=lcA [(0,s_Zcp_L0)] []
theorem Vtt:LO c85 Tryz.f174 0 s_Zcp_L0:=lx o84 A_Zcp dn (λ_=>rfl)
theorem o85:EO c85:=sx o84 A_Zcp Tryz.func174 (dc rfl Vtt dn)
def Zdq_L0b(y0:List Ua)(y1:Int)(y2 y3:Jh×Unit)(y4 y5:Int):Option (((List Ua)×Int×(Jh×Unit)×(Jh×Unit)×Int×Int×Unit)⊕(((Jh×Unit)×Int×Int×Unit)⊕((List Ua)×Int×(Jh×Unit)×(Jh×Unit)×Int×Unit))):=
 cond (decide (y5<y0.length)) ((getI y0 y5).bind λx3=>cond (decide ((x3.length:Int)<1)) ((Zew y2.1.jf 9).bind λr4=>some (Qd (Qb ((r4.2.1,()),r4.2.2.1,r4.2.2.2.1,())))) ((getI y0 y5).bind λx5=>cond (decide (256<(x5.length:Int))) ((Zew y2.1.jf 9).bind λr6=>some (Qd (Qb ((r6.2.1,()),r6.2.2.1,r6.2.2.2.1,())))) (some (Qb (y0,y1,(y2.1,()),(y3.1,()),y4,Qa .i64 (y5+1),()))))) (some (Qd (Qd (y0,y1,(y2.1,()),(y3.1,()),y4,()))))
def Zdq_L0:=Yi6 Zdq_L0b
def Zdq_L2b(y0:List Ua)(y1:Int)(y2 y3:Jh×Unit)(y4 y5:Int):Option (((List Ua)×Int×(Jh×Unit)×(Jh×Unit)×Int×Int×Unit)⊕((List Ua)×Int×(Jh×Unit)×(Jh×Unit)×Int×Unit)):=
 cond (decide (y5<y0.length)) (cond (decide (y4<=y2.1.jf.ja)) ((getI y0 y5).bind λx9=>let v10:=Qa .i64 (y4+Qa .i64 (10+(x9.length:Int)));some (Qb (y0,y1,(y2.1,()),(y3.1,()),v10,Qa .i64 (y5+1),()))) (some (Qd (y0,y1,(y2.1,()),(y3.1,()),y4,())))) (some (Qd (y0,y1,(y2.1,()),(y3.1,()),y4,())))
def Zdq_L2:=Yi6 Zdq_L2b
abbrev Z_Zdq_L4:=(Int×(Jh×Unit)×Int×Int×Int×(Jk×Unit)×Int×Unit)
def Zdq_L4b(y0:List Ua)(y1:Int)(y2:Jh×Unit)(y3 y4 y5:Int)(y6:Jk×Unit)(y7 y8:Int):Option (((List Ua)×Int×(Jh×Unit)×Int×Int×Int×(Jk×Unit)×Int×Int×Unit)⊕Z_Zdq_L4):=
 cond (decide (y8<y0.length)) (cond (decide (y7=0)) ((getI y0 y8).bind λx15=>(Zfx y4 x15).bind λr16=>(Zdo y6.1 y3 y5 r16.2.1 y1).bind λr17=>(getI y0 y8).bind λx18=>let v19:=Qa .i64 (y5+Qa .i64 (10+(x18.length:Int)));some (Qb (y0,r17.2.2.1,(y2.1,()),y3,y4,v19,(r17.2.1,()),r17.2.2.2.1,Qa .i64 (y8+1),()))) (some (Qd (y1,(y2.1,()),y3,y4,y5,(y6.1,()),y7,())))) (some (Qd (y1,(y2.1,()),y3,y4,y5,(y6.1,()),y7,())))
def Zdq_L4:=Yi9 Zdq_L4b
def Zdq(a0:Jh)(a1:List Ua)(a2:Int):Option (Unit×Jh×Int×Int×Unit):=
 (Zdn a0).bind λr1=>cond (!r1.2.1) ((Zew a0.jf 18).bind λr2=>some ((),r2.2.1,r2.2.2.1,r2.2.2.2.1,())) ((Zdq_L0 (a1,a2,(a0,()),({},()),16,0,())).bind (Qh (λz7=>some ((),z7.1.1,z7.2.1,z7.2.2.1,())) (λz8=>(Zdq_L2 (z8.1,z8.2.1,(z8.2.2.1.1,()),(z8.2.2.2.1.1,()),z8.2.2.2.2.1,0,())).bind λz11=>cond (decide (z11.2.2.1.1.jf.ja<z11.2.2.2.2.1)) ((Zew z11.2.2.1.1.jf 12).bind λr12=>some ((),r12.2.1,r12.2.2.1,r12.2.2.2.1,())) (cond (decide (1099511627776<=z11.2.2.1.1.jr)) ((Zew z11.2.2.1.1.jf 13).bind λr13=>some ((),r13.2.1,r13.2.2.1,r13.2.2.2.1,())) ((Zfv z11.2.2.1.1.jf (Qa .i64 (1-z11.2.2.1.1.jak)) z11.2.1).bind λr14=>(Zdq_L4 (z11.1,r14.2.2.1,(z11.2.2.2.1.1,()),Qa .i64 (1-z11.2.2.1.1.jak),Qa .i64 (z11.2.2.1.1.jr+1),16,(r14.2.1,()),r14.2.2.2.1,0,())).bind λz20=>(cond (decide (z20.2.2.2.2.2.2.1=0)) ((Zey z20.2.2.2.1).bind λr21=>(Zdo z20.2.2.2.2.2.1.1 z20.2.2.1 0 r21.2.1 z20.1).bind λr22=>some (r22.2.2.1,(z20.2.1.1,()),z20.2.2.1,z20.2.2.2.1,z20.2.2.2.2.1,(r22.2.1,()),r22.2.2.2.1,())) (some (z20.1,(z20.2.1.1,()),z20.2.2.1,z20.2.2.2.1,z20.2.2.2.2.1,(z20.2.2.2.2.2.1.1,()),z20.2.2.2.2.2.2.1,()))).bind λj23=>cond (!(decide (j23.2.2.2.2.2.2.1=0))) ((Zew j23.2.2.2.2.2.1.1 j23.2.2.2.2.2.2.1).bind λr24=>some ((),r24.2.1,r24.2.2.1,r24.2.2.2.1,())) (some ((),⟨j23.2.2.2.2.2.1.1,j23.2.2.1,j23.2.2.2.1,j23.2.2.2.2.1,false⟩,j23.1,0,())))))))
def c86:=cf c85 173 [(.f qp),qag,qc] [qp,qa,qa] (u3 Zdq)
def s_Zdq_L0:LSpec T:=⟨[(1,qag),(2,qc),(3,qai),(6,qai),(9,qc),(10,qc)],[(.ret,[(6,qai),(7,qc),(8,qc)]),(.exit 0,[(1,qag),(2,qc),(3,qai),(6,qai),(9,qc)])],Zdq_L0,[]⟩
def s_Zdq_L2:LSpec T:=⟨[(1,qag),(2,qc),(3,qai),(6,qai),(9,qc),(11,qc)],[(.exit 2,[(1,qag),(2,qc),(3,qai),(6,qai),(9,qc)])],Zdq_L2,[]⟩
def s_Zdq_L4:LSpec T:=⟨[(1,qag),(2,qc),(6,qai),(12,qc),(13,qc),(14,qc),(15,qa3),(16,qc),(17,qc)],[(.exit 4,[(2,qc),(6,qai),(12,qc),(13,qc),(14,qc),(15,qa3),(16,qc)])],Zdq_L4,[]⟩
def A_Zdq:Loc2 T:=lcA [(0,s_Zdq_L0),(2,s_Zdq_L2),(4,s_Zdq_L4)] [(26,[(2,qc),(6,qai),(12,qc),(13,qc),(14,qc),(15,qa3),(16,qc)],true)]
theorem Vhe:LO c86 Tryz.f173 0 s_Zdq_L0:=lx o85 A_Zdq dn (λ_=>rfl)
theorem Vl7:LO c86 Tryz.f173 2 s_Zdq_L2:=lx o85 A_Zdq (dc rfl Vhe dn) (λ_=>rfl)
theorem Vtu:LO c86 Tryz.f173 4 s_Zdq_L4:=lx o85 A_Zdq (dc rfl Vhe (dc rfl Vl7 dn)) (λ_=>rfl)
theorem o86:EO c86:=sx o85 A_Zdq Tryz.func173 (dc rfl Vhe (dc rfl Vl7 (dc rfl Vtu dn)))
def Zhd(a0:Jk)(a1:Int):Option (Unit×Jm×Int×Int×Unit):=
 (Zfw a0).bind λr1=>(cond (decide (r1.2.2.1=11)) ((Zeu a0 a1).bind λr2=>some (r2.2.2.1,(({}:Jm),()),(r2.2.1,()),r2.2.2.2.1,())) (some (a1,(({}:Jm),()),(r1.2.1,()),r1.2.2.1,()))).bind λj3=>cond (!(decide (j3.2.2.2.1=0))) ((Zhi j3.2.2.1.1 j3.2.2.2.1).bind λr4=>some ((),r4.2.1,r4.2.2.1,r4.2.2.2.1,())) ((Zev j3.2.2.1.1).bind λr5=>cond j3.2.2.1.1.jat ((Zcp r5.2.1).bind λr6=>(Zdq j3.2.2.1.1 r6.2.1 j3.1).bind λr7=>cond (!(decide (r7.2.2.2.1=0))) ((Zhi r7.2.1 r7.2.2.2.1).bind λr8=>some ((),r8.2.1,r8.2.2.1,r8.2.2.2.1,())) (some ((),⟨r7.2.1,r5.2.1⟩,r7.2.2.1,0,()))) (some ((),⟨j3.2.2.1.1,r5.2.1⟩,j3.1,0,())))
def c87:=cf c86 125 [qa8,qc] [qaq,qa,qa] (u2 Zhd)
theorem o87:EO c87:=sx o86 (lcA [] [(4,[(1,qc),(4,qx),(7,qai),(8,qc)],true)]) Tryz.func125 dn
def Zgq(a0:Jd):O1 Jd:=
 rt {jl:=a0.jl,jo:=⟨{jf:=a0.jo.jh.jf},[]⟩,now:=a0.now}
def c88:=cf c87 95 [qa4] [qo] (u1 Zgq)
theorem o88:EO c88:=sz o87 Tryz.func95
def Zdl(a0:Jd)(a1:Jm)(a2:Int):Option (Unit×Jd×Int×Int×Unit):=
 cond (decide (a2=16)) ((Zgq {a0 with jo:=a1}).bind λr1=>some ((),r1.2.1,0,a2,())) (some ((),a0,0,a2,()))
def c89:=cf c88 126 [qa4,(.f qaq),qc] [qo,qa,qa] (u3 Zdl)
theorem o89:EO c89:=sz o88 Tryz.func126
def Zic_L0b(y0:Int)(y1:Jm×Unit)(y2:Int):Option ((Int×(Jm×Unit)×Int×Unit)⊕((Ua×Unit)⊕(Unit))):=
 cond (decide (y2<y1.1.jw.length)) ((getI y1.1.jw y2).bind λx1=>cond (decide (x1.key=y0)) ((getI y1.1.jw y2).bind λx2=>cond (small x2.value.length 1) (some (Qd (Qb (x2.value,())))) none) (some (Qb (y0,(y1.1,()),Qa .i64 (y2+1),())))) (some (Qd (Qd ())))
def Zic_L0:=Yi3 Zic_L0b
def Zic(a0:Jm)(a1:Int):O1 Ua:=
 (Zic_L0 (a1,(a0,()),0,())).bind (Qh (λz3=>rt z3.1) (λz4=>rt []))
def c90:=cf c89 128 [(.f qaq),qc] [qk] (u2 Zic)
def s_Zic_L0:LSpec T:=⟨[(1,qc),(2,qx),(5,qc)],[(.ret,[(4,qah)]),(.exit 0,[])],Zic_L0,[]⟩
def A_Zic:Loc2 T:=lcA [(0,s_Zic_L0)] []
theorem Vtv:LO c90 Tryz.f128 0 s_Zic_L0:=lx o89 A_Zic dn (λ_=>rfl)
theorem o90:EO c90:=sx o89 A_Zic Tryz.func128 (dc rfl Vtv dn)
def Zeg_L0b(y0:Int)(y1:Ua)(y2:Int):Option ((Int×Ua×Int×Unit)⊕(Int×Unit)):=
 cond (decide (y2<y1.length)) (cond (decide (0<=y2)&&decide (y2<y1.length)) (y1[y2.toNat]?.bind λx2=>let v3:=Qa .i64 ((Qc (Qf .i64) (Qa .i64 (y0*2^min 8 (Qf .i64)))|||Qc (Qf .i64) (x2.toBitVec.toNat:Int)).toNat:Int);some (Qb (v3,y1,Qa .i64 (y2+1),()))) none) (some (Qd (y0,())))
def Zeg_L0:=Yi3 Zeg_L0b
def Zeg(a0:Jm):O1 Int:=
 (Zic a0 2).bind λr1=>(Zeg_L0 (0,r1.2.1,0,())).bind λz4=>rt z4.1
def c91:=ct c90 127 [(.f qaq)] [qa] (u1 Zeg)
def s_Zeg_L0:LSpec T:=⟨[(3,qc),(4,qah),(5,qc)],[(.exit 0,[(3,qc)])],Zeg_L0,[]⟩
def A_Zeg:Loc2 T:=lcA [(0,s_Zeg_L0)] []
theorem Vtw:LO c91 Tryz.f127 0 s_Zeg_L0:=lx o90 A_Zeg dn (λ_=>rfl)
theorem o91:EO c91:=sx o90 A_Zeg Tryz.func127 (dc rfl Vtw dn)
def Zej(a0:Ub)(a1:Ua)(a2:Int):O1 Ub:=
 cond (small (a1.length+([0]:Ua).length) 1) ((passkeyref1_Words [Qc 64 a2]).bind λr1=>cond (small ((a1++[0]).length+(r1.2.1:Ua).length) 1) (let v2:=a1++[0]++r1.2.1;(Zhw a0 4 v2).bind λr3=>rt r3.2.1) none) none
def c92:=ct c91 175 [qd,qas,qc] [qr] (u3 Zej)
theorem o92:EO c92:=sz o91 Tryz.func175
def Zdm(a0:Jd)(a1:Int):O1 Ua:=
 (Zej a0.jl.jah [109,97,115,116,101,114] a1).bind λr1=>(passkeyref1_Words [r1.2.1]).bind λr2=>rt r2.2.1
def c93:=cf c92 129 [qa4,qc] [qk] (u2 Zdm)
theorem o93:EO c93:=sz o92 Tryz.func129
def Zeb(a0:Jp):O1 Bool:=
 cond (decide (0<=a0.jau)) (cond (decide (a0.jau<=a0.next)) (cond (decide (a0.next<=a0.to_)) (rt (decide (a0.to_<=16))) (rt false)) (rt false)) (rt false)
def c94:=ct c93 176 [(.f qbb)] [qf] (u1 Zeb)
theorem o94:EO c94:=sz o93 Tryz.func176
def Zan(a0:Jp):O1 Ua:=
 (Zeb a0).bind λr1=>cond (!r1.2.1) (rt []) ((passkeyref1_Words [a0.tag]).bind λr2=>let v3:Ua:=[Qe (Qc 8 a0.jau),Qe (Qc 8 a0.to_),Qe (Qc 8 a0.next)];cond (small (r2.2.1.length+(v3:Ua).length) 1) (rt (r2.2.1++v3)) none)
def c95:=cf c94 130 [(.f qbb)] [qk] (u1 Zan)
theorem o95:EO c95:=sx o94 (lcA [] []) Tryz.func130 dn
def Zcc_L0b(y0 y1:List Jf)(y2:Int):Option (((List (Jf))×(List (Jf))×Int×Unit)⊕((Bool×Unit)⊕(Unit))):=
 cond (decide (y2<y0.length)) ((getI y0 y2).bind λx1=>(getI y1 y2).bind λx2=>cond (!(decide (x1.key=x2.key))) (some (Qd (Qb (false,())))) ((getI y0 y2).bind λx3=>(getI y1 y2).bind λx4=>cond (!(decide (x3.value=x4.value))) (some (Qd (Qb (false,())))) (some (Qb (y0,y1,Qa .i64 (y2+1),()))))) (some (Qd (Qd ())))
def Zcc_L0:=Yi3 Zcc_L0b
def Zcc(a0 a1:List Jf):O1 Bool:=
 cond (!(decide ((a0.length:Int)=(a1.length:Int)))) (rt false) ((Zcc_L0 (a0,a1,0,())).bind (Qh (λz5=>rt z5.1) (λz6=>rt true)))
def c96:=ct c95 252 [qn,qn] [qf] (u2 Zcc)
def s_Zcc_L0:LSpec T:=⟨[(0,qn),(1,qn),(5,qc)],[(.ret,[(4,qs)]),(.exit 0,[])],Zcc_L0,[]⟩
def A_Zcc:Loc2 T:=lcA [(0,s_Zcc_L0)] []
theorem Vtx:LO c96 Tryz.f252 0 s_Zcc_L0:=lx o95 A_Zcc dn (λ_=>rfl)
theorem o96:EO c96:=sx o95 A_Zcc Tryz.func252 (dc rfl Vtx dn)
def Zas(a0:Jm):O1 Bool:=
 (Zdn a0.jh).bind λr1=>cond r1.2.1 ((Zev a0.jh).bind λr2=>(Zcc a0.jw r2.2.1).bind λr3=>rt r3.2.1) (rt false)
def c97:=ct c96 177 [(.f qaq)] [qf] (u1 Zas)
theorem o97:EO c97:=sx o96 (lcA [] []) Tryz.func177 dn
def Zhf_L0b(y0:List Jf)(y1 y2:Int):Option (((List (Jf))×Int×Int×Unit)⊕(Int×Unit)):=
 cond (decide (y2<y0.length)) ((getI y0 y2).bind λx1=>let v2:=Qa .i64 (y1+Qa .i64 (3+(x1.value.length:Int)));some (Qb (y0,v2,Qa .i64 (y2+1),()))) (some (Qd (y1,())))
def Zhf_L0:=Yi3 Zhf_L0b
def Zhf(a0:List Jf):O1 Int:=
 (Zhf_L0 (a0,0,0,())).bind λz3=>rt z3.1
def c98:=ct c97 178 [qn] [qa] (u1 Zhf)
def s_Zhf_L0:LSpec T:=⟨[(0,qn),(3,qc),(4,qc)],[(.exit 0,[(3,qc)])],Zhf_L0,[]⟩
def A_Zhf:Loc2 T:=lcA [(0,s_Zhf_L0)] []
theorem Vty:LO c98 Tryz.f178 0 s_Zhf_L0:=lx o97 A_Zhf dn (λ_=>rfl)
theorem o98:EO c98:=sx o97 A_Zhf Tryz.func178 (dc rfl Vty dn)
def Zhe(a0:Jh):O1 Int:=
 (Zdn a0).bind λr1=>cond (!r1.2.1) (rt 0) (cond a0.jat (rt 0) (let v2:=Qa .i64 (Qa .i64 (a0.jf.ja-a0.tail)-10);let v3:Int:=cond (decide ((cond (decide (v2<256)) v2 (256:Int))<0)) 0 (cond (decide (v2<256)) v2 256);rt v3))
def c99:=ct c98 180 [(.f qp)] [qa] (u1 Zhe)
theorem o99:EO c99:=sz o98 Tryz.func180
def Zet(a0:Jh)(a1:Ua)(a2:Int):Option (Unit×Jh×Int×Int×Unit):=
 (Zdn a0).bind λr1=>cond (!r1.2.1) ((Zew a0.jf 18).bind λr2=>some ((),r2.2.1,r2.2.2.1,r2.2.2.2.1,())) (cond (decide ((a1.length:Int)<1)) ((Zew a0.jf 9).bind λr3=>some ((),r3.2.1,r3.2.2.1,r3.2.2.2.1,())) (cond (decide (256<(a1.length:Int))) ((Zew a0.jf 9).bind λr4=>some ((),r4.2.1,r4.2.2.1,r4.2.2.2.1,())) (cond a0.jat ((Zew a0.jf 18).bind λr5=>some ((),r5.2.1,r5.2.2.1,r5.2.2.2.1,())) ((Zhe a0).bind λr6=>cond (decide (r6.2.1<a1.length)) ((Zew a0.jf 12).bind λr7=>some ((),r7.2.1,r7.2.2.1,r7.2.2.2.1,())) ((Zfx a0.jr a1).bind λr8=>(Zdo a0.jf a0.jak a0.tail r8.2.1 a2).bind λr9=>cond (!(decide (r9.2.2.2.1=0))) ((Zew r9.2.1 r9.2.2.2.1).bind λr10=>some ((),r10.2.1,r10.2.2.1,r10.2.2.2.1,())) (let v11:=Qa .i64 (Qa .i64 (a0.tail+10)+(a1.length:Int));some ((),{a0 with jf:=r9.2.1,tail:=v11},r9.2.2.1,0,())))))))
def c100:=cf c99 181 [(.f qp),qg,qc] [qp,qa,qa] (u3 Zet)
theorem o100:EO c100:=sx o99 (lcA [] []) Tryz.func181 dn
def Zid_L2b(y0:List Jf)(y1:Int)(y2 y3:Jm×Unit)(y4 y5:Int):Option (((List (Jf))×Int×(Jm×Unit)×(Jm×Unit)×Int×Int×Unit)⊕(((Jm×Unit)×Int×Int×Unit)⊕((List (Jf))×Int×(Jm×Unit)×(Jm×Unit)×Int×Unit))):=
 cond (decide (y5<y4)) ((getI y0 y5).bind λx8=>(getI y0 y4).bind λx9=>cond (decide (x8.key=x9.key)) ((Zhi y2.1.jh 10).bind λr10=>some (Qd (Qb ((r10.2.1,()),r10.2.2.1,r10.2.2.2.1,())))) (some (Qb (y0,y1,(y2.1,()),(y3.1,()),y4,Qa .i64 (y5+1),())))) (some (Qd (Qd (y0,y1,(y2.1,()),(y3.1,()),y4,()))))
def Zid_L2:=Yi6 Zid_L2b
def Zid_L0b(y0:List Jf)(y1:Int)(y2 y3:Jm×Unit)(y4:Int):Option (((List (Jf))×Int×(Jm×Unit)×(Jm×Unit)×Int×Unit)⊕(((Jm×Unit)×Int×Int×Unit)⊕((List (Jf))×Int×(Jm×Unit)×(Jm×Unit)×Unit))):=
 cond (decide (y4<y0.length)) ((getI y0 y4).bind λx4=>cond (decide (x4.key<0)) ((Zhi y2.1.jh 9).bind λr5=>some (Qd (Qb ((r5.2.1,()),r5.2.2.1,r5.2.2.2.1,())))) ((getI y0 y4).bind λx6=>cond (decide (255<x6.key)) ((Zhi y2.1.jh 9).bind λr7=>some (Qd (Qb ((r7.2.1,()),r7.2.2.1,r7.2.2.2.1,())))) ((Zid_L2 (y0,y1,(y2.1,()),(y3.1,()),y4,0,())).bind (Qh (λz8=>some (Qd (Qb ((z8.1.1,()),z8.2.1,z8.2.2.1,())))) (λz9=>some (Qb (z9.1,z9.2.1,(z9.2.2.1.1,()),(z9.2.2.2.1.1,()),Qa .i64 (z9.2.2.2.2.1+1),()))))))) (some (Qd (Qd (y0,y1,(y2.1,()),(y3.1,()),()))))
def Zid_L0:=Yi5 Zid_L0b
def Zid(a0:Jm)(a1:List Jf)(a2:Int):Option (Unit×Jm×Int×Int×Unit):=
 (Zas a0).bind λr1=>cond (!r1.2.1) ((Zhi a0.jh 18).bind λr2=>some ((),r2.2.1,r2.2.2.1,r2.2.2.2.1,())) (cond (decide ((a1.length:Int)=0)) ((Zhi a0.jh 4).bind λr3=>some ((),r3.2.1,r3.2.2.1,r3.2.2.2.1,())) ((Zid_L0 (a1,a2,(a0,()),({},()),0,())).bind (Qh (λz10=>some ((),z10.1.1,z10.2.1,z10.2.2.1,())) (λz11=>(Zhf z11.1).bind λr12=>cond (decide (256<r12.2.1)) ((Zhi z11.2.2.1.1.jh 8).bind λr13=>some ((),r13.2.1,r13.2.2.1,r13.2.2.2.1,())) ((Zhg z11.2.2.1.1.jw z11.1).bind λr14=>let v15:=Qa .i64 (16+Qa .i64 (10*(r14.2.1.length:Int)));(Zhf r14.2.1).bind λr16=>cond (decide (z11.2.2.1.1.jh.jf.ja<Qa .i64 (v15+r16.2.1))) ((Zhi z11.2.2.1.1.jh 12).bind λr17=>some ((),r17.2.1,r17.2.2.1,r17.2.2.2.1,())) (((Zhf z11.1).bind λr18=>(Zhe z11.2.2.1.1.jh).bind λr19=>cond (decide (r18.2.1<=r19.2.1)) ((Zez z11.1).bind λr20=>(Zet z11.2.2.1.1.jh r20.2.1 z11.2.1).bind λr21=>some (r21.2.2.1,(z11.2.2.2.1.1,()),(r21.2.1,()),r21.2.2.2.1,())) ((Zcp r14.2.1).bind λr22=>(Zdq z11.2.2.1.1.jh r22.2.1 z11.2.1).bind λr23=>some (r23.2.2.1,(z11.2.2.2.1.1,()),(r23.2.1,()),r23.2.2.2.1,()))).bind λj24=>cond (!(decide (j24.2.2.2.1=0))) ((Zhi j24.2.2.1.1 j24.2.2.2.1).bind λr25=>some ((),r25.2.1,r25.2.2.1,r25.2.2.2.1,())) ((Zev j24.2.2.1.1).bind λr26=>some ((),⟨j24.2.2.1.1,r26.2.1⟩,j24.1,0,()))))))))
def c101:=cf c100 131 [(.f qaq),qn,qc] [qaq,qa,qa] (u3 Zid)
def s_Zid_L2:LSpec T:=⟨[(1,qn),(2,qc),(3,qx),(6,qx),(9,qc),(10,qc)],[(.ret,[(6,qx),(7,qc),(8,qc)]),(.exit 2,[(1,qn),(2,qc),(3,qx),(6,qx),(9,qc)])],Zid_L2,[]⟩
def s_Zid_L0:LSpec T:=⟨[(1,qn),(2,qc),(3,qx),(6,qx),(9,qc)],[(.ret,[(6,qx),(7,qc),(8,qc)]),(.exit 0,[(1,qn),(2,qc),(3,qx),(6,qx)])],Zid_L0,[]⟩
def A_Zid:Loc2 T:=lcA [(2,s_Zid_L2),(0,s_Zid_L0)] [(24,[(2,qc),(6,qx),(12,qai),(13,qc)],true)]
theorem Vl8:LO c101 Tryz.f131 2 s_Zid_L2:=lx o100 A_Zid dn (λ_=>rfl)
theorem Vtz:LO c101 Tryz.f131 0 s_Zid_L0:=lx o100 A_Zid (dc rfl Vl8 dn) (λ_=>rfl)
theorem o101:EO c101:=sx o100 A_Zid Tryz.func131 (dc rfl Vl8 (dc rfl Vtz dn))
def Zdi(a0:Jd):O1 Ub:=
 (Zic a0.jo 1).bind λr1=>(Zgv r1.2.1).bind λr2=>rt r2.2.1
def S_Zdi:FSpec T:=⟨[qa4],[qr],λx=>Zdi x.1⟩
theorem Vbva:SoundT Tryz.prog cd gdn 183 S_Zdi:=
 sndC hmix o101 (lcA [] []) Tryz.func183 Vag (by kernel_rfl) (by kernel_rfl) λx=>by kernel_rfl
def c102:List (Ct T):=⟨183,none,S_Zdi,true⟩::c101
theorem o102:EnvOk Tryz.prog (mE c102):=eCons Vbva o101
def Zfl(a0:Jd):O2 Jd Ub:=
 (Zdi a0).bind λr1=>(Zeg a0.jo).bind λr2=>let v3:=Qa .i64 (r2.2.1*2^min 20 (Qf .i64));let v4:=Qa .i64 ((Qc (Qf .i64) a0.jao&&&Qc (Qf .i64) 1048575).toNat:Int);(Zej r1.2.1 [100,114,97,119] (Qa .i64 (v3+v4))).bind λr5=>ru {a0 with jao:=Qa .i64 (a0.jao+1)} r5.2.1
def c103:=cf c102 132 [qa4] [qo,qr] (u1 Zfl)
theorem o103:EO c103:=sz o102 Tryz.func132
def Zau(a0:Ub):O1 Jt:=
 rt {jaq:=a0}
def c104:=ct c103 133 [qd] [qa1] (u1 Zau)
theorem o104:EO c104:=sz o103 Tryz.func133
def Zfk(a0:Jd)(a1 a2:Int):Option (Unit×Jd×Int×Int×Unit):=
 cond a0.on (some ((),a0,0,18,())) (cond (decide (a1<0)) (some ((),a0,0,9,())) (cond (decide (1099511627776<a1)) (some ((),a0,0,9,())) ((Zhd a0.jo.jh.jf a2).bind λr1=>cond (!(decide (r1.2.2.2.1=0))) ((Zdl a0 r1.2.1 r1.2.2.2.1).bind λr2=>some ((),r2.2.1,r2.2.2.1,r2.2.2.2.1,())) ((Zeg r1.2.1).bind λr3=>cond (decide (r3.2.1=4294967295)) (some ((),a0,0,13,())) ((Zic r1.2.1 1).bind λr4=>(cond (decide ((r4.2.1.length:Int)=0)) (let v5:=Qa .i64 (Qa .i64 (r3.2.1+1)*2^min 20 (Qf .i64));(Zdm a0 v5).bind λr6=>let v7:List Jf:=[⟨1,r6.2.1⟩];cond (small v7.length 32) (some (a1,r1.2.2.1,(a0,()),(({}:Jd),()),(r1.2.1,()),Qa .i64 (r3.2.1+1),v7,decide ((r4.2.1.length:Int)=0),())) none) (some (a1,r1.2.2.1,(a0,()),(({}:Jd),()),(r1.2.1,()),Qa .i64 (r3.2.1+1),[],decide ((r4.2.1.length:Int)=0),()))).bind λj8=>let v9:=Qe (Qc 8 (Ql j8.2.2.2.2.2.1 (2^min 24 (Qf .i64))));let v10:=Qe (Qc 8 (Ql j8.2.2.2.2.2.1 (2^min 16 (Qf .i64))));let v11:=Qe (Qc 8 (Ql j8.2.2.2.2.2.1 (2^min 8 (Qf .i64))));let v12:Ua:=[v9,v10,v11,Qe (Qc 8 j8.2.2.2.2.2.1)];cond (small (j8.2.2.2.2.2.2.1.length+([⟨2,v12⟩]:List Jf).length) 32) (let v13:=j8.2.2.2.2.2.2.1++[⟨2,v12⟩];(cond j8.2.2.2.2.2.2.2.1 ((Zan ⟨0#64,j8.2.2.1.1.jl.jaj,j8.2.2.1.1.jl.jas,j8.2.2.1.1.jl.jaj⟩).bind λr14=>cond (small (v13.length+([⟨16,r14.2.1⟩]:List Jf).length) 32) (let v15:=v13++[⟨16,r14.2.1⟩];some (j8.1,j8.2.1,(j8.2.2.1.1,()),(j8.2.2.2.1.1,()),(j8.2.2.2.2.1.1,()),v15,())) none) (some (j8.1,j8.2.1,(j8.2.2.1.1,()),(j8.2.2.2.1.1,()),(j8.2.2.2.2.1.1,()),v13,()))).bind λj16=>(Zid j16.2.2.2.2.1.1 j16.2.2.2.2.2.1 j16.2.1).bind λr17=>cond (!(decide (r17.2.2.2.1=0))) ((Zdl j16.2.2.1.1 r17.2.1 r17.2.2.2.1).bind λr18=>some ((),r18.2.1,r18.2.2.1,r18.2.2.2.1,())) (let v19:Int:=cond (decide (j16.2.2.1.1.now<j16.1)) j16.1 j16.2.2.1.1.now;(Zfl ⟨j16.2.2.1.1.jl,r17.2.1,true,v19,v19,0,0,{},{}⟩).bind λr20=>(Zau r20.2.2.1).bind λr21=>some ((),{r20.2.1 with ju:=r21.2.1},r17.2.2.1,0,()))) none)))))
def c105:=cf c104 91 [qa4,qc,qc] [qo,qa,qa] (u3 Zfk)
theorem o105:EO c105:=sx o104 (lcA [] [(16,[(1,qc),(2,qc),(3,qe),(6,qe),(9,qx),(11,qc),(12,qap),(13,qs)],true),(20,[(1,qc),(2,qc),(3,qe),(6,qe),(9,qx),(12,qap)],true)]) Tryz.func91 dn
def Zfd(a0:Int):O1 Ji:=
 (Zcx a0).bind λr1=>(Zgp r1.2.1).bind λr2=>let v3:=Qa .i64 ((Qc (Qf .i64) a0&&&Qc (Qf .i64) 7).toNat:Int);(Zfk r2.2.1 v3 (-1)).bind λr4=>rt ⟨r4.2.1,[]⟩
def c106:=cf c105 46 [qc] [qab] (u1 Zfd)
theorem o106:EO c106:=sz o105 Tryz.func46
def Zcn(a0:Ub):O1 Ub:=
 rt (2#64+a0%2305843009213693948#64)
def c107:=ct c106 94 [qd] [qr] (u1 Zcn)
theorem o107:EO c107:=sz o106 Tryz.func94
abbrev Y_Zhy_L0:=(Ub×Ub×Ub×Int×Unit)
def Zhy_L0b(y0 y1 y2:Ub)(y3:Int):Option (Y_Zhy_L0⊕(Ub×Unit)):=
 cond (decide (0<=y3)) (cond (decide (y1>>>(Qc 64 y3).toNat&&&1#64=1#64)) (let v1:=(y2*2#64%2305843009213693951#64+y0)%2305843009213693951#64;some (Qb (y0,y1,v1,Qa .i64 (y3-1),()))) (some (Qb (y0,y1,y2*2#64%2305843009213693951#64,Qa .i64 (y3-1),())))) (some (Qd (y2,())))
def Zhy_L0:=Yi4 Zhy_L0b
def Zhy(a0 a1:Ub):O1 Ub:=
 (Zhy_L0 (a0%2305843009213693951#64,a1%2305843009213693951#64,0#64,60,())).bind λz2=>rt z2.1
def c108:=ct c107 134 [qd,qd] [qr] (u2 Zhy)
def s_Zhy_L0:LSpec T:=⟨[(0,qd),(1,qd),(5,qd),(6,qc)],[(.exit 0,[(5,qd)])],Zhy_L0,[]⟩
def A_Zhy:Loc2 T:=lcA [(0,s_Zhy_L0)] []
theorem Vt0:LO c108 Tryz.f134 0 s_Zhy_L0:=lx o107 A_Zhy dn (λ_=>rfl)
theorem o108:EO c108:=sx o107 A_Zhy Tryz.func134 (dc rfl Vt0 dn)
abbrev Y_Zfu_L0:=(Ub×Ub×Ub×Int×Unit)
def Zfu_L0b(y0 y1 y2:Ub)(y3:Int):Option (Y_Zfu_L0⊕(Ub×Unit)):=
 cond (decide (0<=y3)) ((Zhy y2 y2).bind λr1=>cond (decide (y1>>>(Qc 64 y3).toNat&&&1#64=1#64)) ((Zhy r1.2.1 y0).bind λr2=>some (Qb (y0,y1,r2.2.1,Qa .i64 (y3-1),()))) (some (Qb (y0,y1,r1.2.1,Qa .i64 (y3-1),())))) (some (Qd (y2,())))
def Zfu_L0:=Yi4 Zfu_L0b
def Zfu(a0 a1:Ub):O1 Ub:=
 (Zfu_L0 (a0,a1,1#64,63,())).bind λz3=>rt z3.1
def c109:=ct c108 93 [qd,qd] [qr] (u2 Zfu)
def s_Zfu_L0:LSpec T:=⟨[(0,qd),(1,qd),(5,qd),(6,qc)],[(.exit 0,[(5,qd)])],Zfu_L0,[]⟩
def A_Zfu:Loc2 T:=lcA [(0,s_Zfu_L0)] []
theorem Vt1:LO c109 Tryz.f93 0 s_Zfu_L0:=lx o108 A_Zfu dn (λ_=>rfl)
theorem o109:EO c109:=sx o108 A_Zfu Tryz.func93 (dc rfl Vt1 dn)
def Zbl(a0:Ub):O1 Ub:=
 (Zcn a0).bind λr1=>(Zfu 37#64 r1.2.1).bind λr2=>rt r2.2.1
def c110:=ct c109 48 [qd] [qr] (u1 Zbl)
theorem o110:EO c110:=sz o109 Tryz.func48
def Zep(a0 a1:Ub):O2 Ub Int:=
 cond (decide (a1.toNat<(2#64).toNat)) (ru 0#64 9) (cond (decide ((2305843009213693949#64).toNat<a1.toNat)) (ru 0#64 9) ((Zcn a0).bind λr1=>(Zfu a1 r1.2.1).bind λr2=>(passkeyref1_Words [r2.2.1]).bind λr3=>(Zgt 12 r3.2.1).bind λr4=>ru r4.2.1 0))
def c111:=ct c110 92 [qd,qd] [qr,qa] (u2 Zep)
theorem o111:EO c111:=sz o110 Tryz.func92
def Zht(a0:Jd):O1 Ub:=
 (Zbl a0.ju.jaq).bind λr1=>(Zep 4711#64 r1.2.1).bind λr2=>rt r2.2.1
def c112:=ct c111 47 [qa4] [qr] (u1 Zht)
theorem o112:EO c112:=sz o111 Tryz.func47
def Zhs(a0:Int):O1 Ua:=
 let v1:List Ua:=[[49,50,51,52],[53,54,55,56,97],[195,169,195,168,195,169,195,168],[48,48,48,48,48,48,48,48,48,49]];let v2:=Qa .i64 ((Qc (Qf .i64) a0&&&Qc (Qf .i64) 3).toNat:Int);cond (decide (0<=v2)&&decide (v2<4)) (v1[v2.toNat]?.bind λx3=>rt x3) none
def c113:=ct c112 50 [qc] [qt] (u1 Zhs)
theorem o113:EO c113:=sz o112 Tryz.func50
def Zeq_L0b(y0 y1:Ub)(y2:Int)(y3:Ua)(y4:Int):Option ((Ub×Ub×Int×Ua×Int×Unit)⊕(Int×Ua×Unit)):=
 cond (decide (y3.length<y2)) ((passkeyref1_Words [y1,Qc 64 y4]).bind λr2=>(Zhw y0 5 r2.2.1).bind λr3=>(passkeyref1_Words [r3.2.1]).bind λr4=>cond (small (y3.length+(r4.2.1:Ua).length) 1) (some (Qb (y0,y1,y2,y3++r4.2.1,Qa .i64 (y4+1),()))) none) (some (Qd (y2,y3,())))
def Zeq_L0:=Yi5 Zeq_L0b
def Zeq(a0 a1:Ub)(a2:Int):O1 Ua:=
 let v1:Int:=cond (decide (1024<(cond (decide (a2<0)) (0:Int) a2))) 1024 (cond (decide (a2<0)) 0 a2);(Zeq_L0 (a0,a1,v1,[],0,())).bind λz5=>cond (decide (0<=z5.1)&&decide (z5.1<=z5.2.1.length)) (cond (decide (z5.1.toNat<=z5.2.1.length)) (rt (Qj z5.1.toNat z5.2.1)) none) none
def c114:=cf c113 152 [qd,qd,qc] [qk] (u3 Zeq)
def s_Zeq_L0:LSpec T:=⟨[(0,qd),(1,qd),(2,qc),(7,qah),(8,qc)],[(.exit 0,[(2,qc),(7,qah)])],Zeq_L0,[]⟩
def A_Zeq:Loc2 T:=lcA [(0,s_Zeq_L0)] []
theorem Vt2:LO c114 Tryz.f152 0 s_Zeq_L0:=lx o113 A_Zeq dn (λ_=>rfl)
theorem o114:EO c114:=sx o113 A_Zeq Tryz.func152 (dc rfl Vt2 dn)
def Zia_L0b(y0 y1 y2:Ua)(y3:Int):Option ((Ua×Ua×Ua×Int×Unit)⊕(Ua×Unit)):=
 cond (decide (y3<y0.length)) ((getI y0 y3).bind λx2=>cond (decide (0<=y3)&&decide (y3<y1.length)) (y1[y3.toNat]?.bind λx3=>let v4:Ua:=[Qe (x2.toBitVec^^^x3.toBitVec)];cond (small (y2.length+(v4:Ua).length) 1) (some (Qb (y0,y1,y2++v4,Qa .i64 (y3+1),()))) none) none) (some (Qd (y2,())))
def Zia_L0:=Yi4 Zia_L0b
def Zia(a0 a1:Ub)(a2:Ua):O1 Ua:=
 (Zeq a0 a1 (a2.length:Int)).bind λr1=>(Zia_L0 (a2,r1.2.1,[],0,())).bind λz5=>rt z5.1
def c115:=cf c114 104 [qd,qd,qg] [qk] (u3 Zia)
def s_Zia_L0:LSpec T:=⟨[(2,qg),(7,qah),(8,qah),(9,qc)],[(.exit 0,[(8,qah)])],Zia_L0,[]⟩
def A_Zia:Loc2 T:=lcA [(0,s_Zia_L0)] []
theorem Vt3:LO c115 Tryz.f104 0 s_Zia_L0:=lx o114 A_Zia dn (λ_=>rfl)
theorem o115:EO c115:=sx o114 A_Zia Tryz.func104 (dc rfl Vt3 dn)
def Zib(a0 a1:Ub)(a2 a3:Ua):O1 Ub:=
 let v1:List Ub:=[a1,Qc 64 (a2.length:Int)];(passkeyref1_Words v1).bind λr2=>cond (small (r2.2.1.length+(a2:Ua).length) 1) (cond (small ((r2.2.1++a2).length+(a3:Ua).length) 1) ((Zhw a0 6 (r2.2.1++a2++a3)).bind λr3=>rt r3.2.1) none) none
def c116:=ct c115 105 [qd,qd,qg,qg] [qr] (u4 Zib)
theorem o116:EO c116:=sz o115 Tryz.func105
def Zha(a0 a1:Ub)(a2 a3:Ua):O2 Ua Int:=
 cond (decide (1024<(a3.length:Int))) (ru [] 8) (cond (decide (1024<(a2.length:Int))) (ru [] 8) ((Zia a0 a1 a3).bind λr1=>(passkeyref1_Words [a1]).bind λr2=>cond (small (r2.2.1.length+(r1.2.1:Ua).length) 1) ((Zib a0 a1 a2 r1.2.1).bind λr3=>(passkeyref1_Words [r3.2.1]).bind λr4=>cond (small ((r2.2.1++r1.2.1).length+(r4.2.1:Ua).length) 1) (ru (r2.2.1++r1.2.1++r4.2.1) 0) none) none))
def c117:=cf c116 63 [qd,qd,qg,qg] [qk,qa] (u4 Zha)
theorem o117:EO c117:=sz o116 Tryz.func63
def Zci(a0 a1:Ub)(a2:Ua):O2 Ua Int:=
 cond (decide (63<(a2.length:Int))) (ru [] 8) (let v1:=Qm 64 (0:UInt8);cond (decide ((a2:Ua).length<=v1.length)) (let v2:=a2++Qk (a2:Ua).length v1;(Zha a0 a1 [] v2).bind λr3=>ru r3.2.1 r3.2.2.1) none)
def c118:=cf c117 49 [qd,qd,qas] [qk,qa] (u3 Zci)
theorem o118:EO c118:=sz o117 Tryz.func49
def Zdh(a0 a1 a2:Int):O1 Bool:=
 cond (decide (a1<=a0)) (rt (decide (a0<=a2))) (rt false)
def c119:=ct c118 29 [qc,qc,qc] [qf] (u3 Zdh)
theorem o119:EO c119:=sz o118 Tryz.func29
def Zhv_L0b(y0:Int)(y1:List Int)(y2:Int):Option ((Int×(List (Int))×Int×Unit)⊕((Bool×Unit)⊕(Unit))):=
 cond (decide (y2<y1.length)) ((getI y1 y2).bind λx1=>cond (decide (x1=y0)) (some (Qd (Qb (true,())))) (some (Qb (y0,y1,Qa .i64 (y2+1),())))) (some (Qd (Qd ())))
def Zhv_L0:=Yi3 Zhv_L0b
def Zhv(a0:Int)(a1:List Int):O1 Bool:=
 (Zhv_L0 (a0,a1,0,())).bind (Qh (λz2=>rt z2.1) (λz3=>rt false))
def S_Zhv:FSpec T:=⟨[qc,qbh],[qf],λx=>Zhv x.1 x.2.1⟩
def s_Zhv_L0:LSpec T:=⟨[(0,qc),(1,qbh),(5,qc)],[(.ret,[(4,qs)]),(.exit 0,[])],Zhv_L0,[]⟩
def A_Zhv:Loc2 T:=lcA [(0,s_Zhv_L0)] []
theorem Vt4:LoopOk Tryz.prog (mE c119) Tryz.f72.ntmps (kqOf S_Zhv.ps 0) (loopAt 0 (bodyOf Tryz.f72)) s_Zhv_L0:=
 lpC hmix o119 A_Zhv Vag 0 (st:=λy=>Zhv_L0b y.1 y.2.1 y.2.2.1) (λ_=>rfl) (by kernel_rfl) (by kernel_rfl) λx=>by kernel_rfl
theorem Vbwa:SoundT Tryz.prog cd gdn 72 S_Zhv:=
 sndC hmix o119 A_Zhv Tryz.func72 (Vbx rfl Vt4 Vag) (by kernel_rfl) (by kernel_rfl) λx=>by kernel_rfl
def c120:List (Ct T):=⟨72,none,S_Zhv,true⟩::c119
theorem o120:EnvOk Tryz.prog (mE c120):=eCons Vbwa o119
def ZfjG(k_Zhv:Int->List Int->O1 Bool)(a0:Int):O1 Jz:=
 let v1:List Int:=[2,3,11,12,13,14];(k_Zhv a0 v1).bind λr2=>(k_Zhv a0 ([2,3]:List Int)).bind λr3=>cond r3.2.1 (let v4:List Int:=[7,8,9,13,14];(k_Zhv a0 v4).bind λr5=>(k_Zhv a0 ([7,8,14]:List Int)).bind λr6=>(k_Zhv a0 ([8,9]:List Int)).bind λr7=>(k_Zhv a0 ([12,13]:List Int)).bind λr8=>rt ⟨false,true,decide (a0=2),decide (a0=2),r3.2.1,decide (a0=2),decide (a0=2),r3.2.1,decide (a0=2),decide (a0=3),r3.2.1,decide (a0=2),decide (a0=2),r2.2.1,r5.2.1,r6.2.1,r7.2.1,decide (a0=9),r8.2.1,decide (a0=13)⟩) (let v9:List Int:=[7,8,9,13,14];(k_Zhv a0 v9).bind λr10=>(k_Zhv a0 ([7,8,14]:List Int)).bind λr11=>(k_Zhv a0 ([8,9]:List Int)).bind λr12=>(k_Zhv a0 ([12,13]:List Int)).bind λr13=>rt ⟨false,decide (a0=9),decide (a0=2),decide (a0=2),r3.2.1,decide (a0=2),decide (a0=2),r3.2.1,decide (a0=2),decide (a0=3),r3.2.1,decide (a0=2),decide (a0=2),r2.2.1,r10.2.1,r11.2.1,r12.2.1,decide (a0=9),r13.2.1,decide (a0=13)⟩)
def Zfj(a0:Int):O1 Jz:=
 ZfjG Zhv a0
def S_Zfj:FSpec T:=⟨[qc],[(.v (.agg 27))],λx=>Zfj x.1⟩
def EG_Zfj(k_Zhv:Int->(List (Int))->Option ((Unit)×(Bool×Unit))):Env T:=⟨tab.find,cd,globs,flc,λf ds=>match f with
  |72=>some ⟨S_Zhv.ps,S_Zhv.rs,λx=>k_Zhv x.1 x.2.1⟩
  |_=>none,λf=>match f with
  |72=>true
  |_=>false⟩
def E_Zfj:Env T:=⟨tab.find,cd,globs,flc,λf ds=>match f with
  |72=>some S_Zhv
  |_=>none,λf=>match f with
  |72=>true
  |_=>false⟩
def A_Zfj:Loc2 T:=⟨λid=>match id with
  |_=>none,λr=>match r with
  |_=>none⟩
def AG_Zfj(k_Zhv:Int->(List (Int))->Option ((Unit)×(Bool×Unit))):Loc2 T:=⟨λid=>match id with
  |_=>none,λr=>match r with
  |_=>none⟩
theorem Vdia(k_Zhv:Int->(List (Int))->Option ((Unit)×(Bool×Unit)))(x:tySs T S_Zfj.ps):run (EG_Zfj k_Zhv) (AG_Zfj k_Zhv) (Tryz.f30.body.getD .skip) (enterT (EG_Zfj k_Zhv).C S_Zfj.ps x) (retK (EG_Zfj k_Zhv) Tryz.f30.results.toList S_Zfj.ps S_Zfj.rs)=ZfjG k_Zhv x.1:=by kernel_rfl
theorem Vgka(x:tySs T S_Zfj.ps):run E_Zfj A_Zfj (Tryz.f30.body.getD .skip) (enterT E_Zfj.C S_Zfj.ps x) (retK E_Zfj Tryz.f30.results.toList S_Zfj.ps S_Zfj.rs)=S_Zfj.fn x:=Vdia Zhv x
theorem Vdja:EnvOk Tryz.prog E_Zfj:=envOk (E:=E_Zfj) cd_ok tys fl_ok λf ds S h=>by
  dsimp only[E_Zfj]at h;split at h
  ·cases h;exact Vbwa
  ·cases h
theorem Vgla:SoundT Tryz.prog cd gdn 30 S_Zfj:=
 Vc2 (E:=E_Zfj) (A:=A_Zfj) (done:=[]) (c:=(Tryz.f30.body.getD .skip)) (S:=S_Zfj) (fn:=Tryz.f30) hmix Vdja Tryz.func30 rfl (by kernel_rfl) (by kernel_rfl) Vag (by kernel_rfl) (by kernel_rfl) Vgka
def c121:List (Ct T):=⟨30,none,S_Zfj,true⟩::c120
theorem o121:EnvOk Tryz.prog (mE c121):=eCons Vgla o120
def Zdg(a0:Ub):O1 Ja:=
 rt ⟨1,a0,[]⟩
def c122:=ct c121 40 [qd] [qv] (u1 Zdg)
theorem o122:EO c122:=sz o121 Tryz.func40
def Zfi(a0:Ua):O1 Ja:=
 rt ⟨4,0#64,a0⟩
def c123:=ct c122 41 [qas] [qv] (u1 Zfi)
theorem o123:EO c123:=sz o122 Tryz.func41
def Zff(a0:Ua):O1 Ja:=
 rt ⟨3,0#64,a0⟩
def c124:=ct c123 42 [qas] [qv] (u1 Zff)
theorem o124:EO c124:=sz o123 Tryz.func42
def Zck(a0:Bool):O1 Ja:=
 cond a0 (rt ⟨7,1#64,[]⟩) (rt {kind:=7})
def c125:=ct c124 43 [qs] [qv] (u1 Zck)
theorem o125:EO c125:=sz o124 Tryz.func43
def Zfg_L0b(y0:List Ua)(y1:List Ja)(y2:Int):Option (((List Ua)×(List (Ja))×Int×Unit)⊕((List (Ja))×Unit)):=
 cond (decide (y2<y0.length)) ((getI y0 y2).bind λx2=>(Zff x2).bind λr3=>cond (small (y1.length+([r3.2.1]).length) 32) (some (Qb (y0,y1++[r3.2.1],Qa .i64 (y2+1),()))) none) (some (Qd (y1,())))
def Zfg_L0:=Yi3 Zfg_L0b
def Zfg(a0:List Ua):O1 (List Ja):=
 let v1:List Ja:=[⟨5,Qc 64 (a0.length:Int),[]⟩];(Zfg_L0 (a0,v1,0,())).bind λz4=>rt z4.1
def c126:=cf c125 44 [qag] [qae] (u1 Zfg)
def s_Zfg_L0:LSpec T:=⟨[(0,qag),(3,qau),(4,qc)],[(.exit 0,[(3,qau)])],Zfg_L0,[]⟩
def A_Zfg:Loc2 T:=lcA [(0,s_Zfg_L0)] []
theorem Vt5:LO c126 Tryz.f44 0 s_Zfg_L0:=lx o125 A_Zfg dn (λ_=>rfl)
theorem o126:EO c126:=sx o125 A_Zfg Tryz.func44 (dc rfl Vt5 dn)
def Zdf_L0b(y0:Jb×Unit)(y1 y2:List (List Ja))(y3:List Ub)(y4:List Ua)(y5:List Bool)(y6:Int):Option (((Jb×Unit)×(List (List Ja))×(List (List Ja))×(List Ub)×(List Ua)×(List (Bool))×Int×Unit)⊕((List (List Ja))×(List (List Ja))×Unit)):=
 cond (decide (y6<20)) (cond (decide (0<=y6)&&decide (y6<20)) (y3[y6.toNat]?.bind λx1=>cond (!(decide (x1=0#64))) (cond (decide (0<=y6)&&decide (y6<20)) (y3[y6.toNat]?.bind λx2=>(Zdg x2).bind λr3=>cond (decide (0<=y6)&&decide (y6<20)) (y2[y6.toNat]?.bind λx4=>let v5:=Qi y2 y6.toNat [r3.2.1];some (Qb ((y0.1,()),y1,v5,y3,y4,y5,Qa .i64 (y6+1),()))) none) none) (cond (decide (0<=y6)&&decide (y6<20)) (y4[y6.toNat]?.bind λx6=>cond (!(decide (x6=([]:Ua)))) (cond (decide (y6=1)) (cond (decide (0<=y6)&&decide (y6<20)) (y4[y6.toNat]?.bind λx7=>(Zfi x7).bind λr8=>cond (decide (0<=y6)&&decide (y6<20)) (y2[y6.toNat]?.bind λx9=>let v10:=Qi y2 y6.toNat [r8.2.1];some (Qb ((y0.1,()),y1,v10,y3,y4,y5,Qa .i64 (y6+1),()))) none) none) (cond (decide (y6=3)) (cond (decide (0<=y6)&&decide (y6<20)) (y4[y6.toNat]?.bind λx11=>(Zfi x11).bind λr12=>cond (decide (0<=y6)&&decide (y6<20)) (y2[y6.toNat]?.bind λx13=>let v14:=Qi y2 y6.toNat [r12.2.1];some (Qb ((y0.1,()),y1,v14,y3,y4,y5,Qa .i64 (y6+1),()))) none) none) (cond (decide (0<=y6)&&decide (y6<20)) (y4[y6.toNat]?.bind λx15=>cond (!(decide (x15=([]:Ua)))) (cond (decide (0<=y6)&&decide (y6<20)) (y4[y6.toNat]?.bind λx16=>(Zff x16).bind λr17=>cond (decide (0<=y6)&&decide (y6<20)) (y2[y6.toNat]?.bind λx18=>let v19:=Qi y2 y6.toNat [r17.2.1];some (Qb ((y0.1,()),y1,v19,y3,y4,y5,Qa .i64 (y6+1),()))) none) none) (cond (decide (0<=y6)&&decide (y6<20)) (y5[y6.toNat]?.bind λx20=>cond x20 ((Zck true).bind λr21=>cond (decide (0<=y6)&&decide (y6<20)) (y2[y6.toNat]?.bind λx22=>let v23:=Qi y2 y6.toNat [r21.2.1];some (Qb ((y0.1,()),y1,v23,y3,y4,y5,Qa .i64 (y6+1),()))) none) (cond (decide (y6=7)) (cond (decide (0<(y0.1.list.length:Int))) ((Zfg y0.1.list).bind λr24=>cond (decide (0<=y6)&&decide (y6<20)) (y2[y6.toNat]?.bind λx25=>some (Qb ((y0.1,()),y1,Qi y2 y6.toNat r24.2.1,y3,y4,y5,Qa .i64 (y6+1),()))) none) (cond (decide (y6=13)) (cond y0.1.jj ((Zdg y0.1.auth).bind λr26=>cond (decide (0<=y6)&&decide (y6<20)) (y2[y6.toNat]?.bind λx27=>let v28:=Qi y2 y6.toNat [r26.2.1];some (Qb ((y0.1,()),y1,v28,y3,y4,y5,Qa .i64 (y6+1),()))) none) (some (Qb ((y0.1,()),y1,y2,y3,y4,y5,Qa .i64 (y6+1),())))) (some (Qb ((y0.1,()),y1,y2,y3,y4,y5,Qa .i64 (y6+1),()))))) (cond (decide (y6=13)) (cond y0.1.jj ((Zdg y0.1.auth).bind λr29=>cond (decide (0<=y6)&&decide (y6<20)) (y2[y6.toNat]?.bind λx30=>let v31:=Qi y2 y6.toNat [r29.2.1];some (Qb ((y0.1,()),y1,v31,y3,y4,y5,Qa .i64 (y6+1),()))) none) (some (Qb ((y0.1,()),y1,y2,y3,y4,y5,Qa .i64 (y6+1),())))) (some (Qb ((y0.1,()),y1,y2,y3,y4,y5,Qa .i64 (y6+1),())))))) none)) none))) (cond (decide (0<=y6)&&decide (y6<20)) (y4[y6.toNat]?.bind λx32=>cond (!(decide (x32=([]:Ua)))) (cond (decide (0<=y6)&&decide (y6<20)) (y4[y6.toNat]?.bind λx33=>(Zff x33).bind λr34=>cond (decide (0<=y6)&&decide (y6<20)) (y2[y6.toNat]?.bind λx35=>let v36:=Qi y2 y6.toNat [r34.2.1];some (Qb ((y0.1,()),y1,v36,y3,y4,y5,Qa .i64 (y6+1),()))) none) none) (cond (decide (0<=y6)&&decide (y6<20)) (y5[y6.toNat]?.bind λx37=>cond x37 ((Zck true).bind λr38=>cond (decide (0<=y6)&&decide (y6<20)) (y2[y6.toNat]?.bind λx39=>let v40:=Qi y2 y6.toNat [r38.2.1];some (Qb ((y0.1,()),y1,v40,y3,y4,y5,Qa .i64 (y6+1),()))) none) (cond (decide (y6=7)) (cond (decide (0<(y0.1.list.length:Int))) ((Zfg y0.1.list).bind λr41=>cond (decide (0<=y6)&&decide (y6<20)) (y2[y6.toNat]?.bind λx42=>some (Qb ((y0.1,()),y1,Qi y2 y6.toNat r41.2.1,y3,y4,y5,Qa .i64 (y6+1),()))) none) (cond (decide (y6=13)) (cond y0.1.jj ((Zdg y0.1.auth).bind λr43=>cond (decide (0<=y6)&&decide (y6<20)) (y2[y6.toNat]?.bind λx44=>let v45:=Qi y2 y6.toNat [r43.2.1];some (Qb ((y0.1,()),y1,v45,y3,y4,y5,Qa .i64 (y6+1),()))) none) (some (Qb ((y0.1,()),y1,y2,y3,y4,y5,Qa .i64 (y6+1),())))) (some (Qb ((y0.1,()),y1,y2,y3,y4,y5,Qa .i64 (y6+1),()))))) (cond (decide (y6=13)) (cond y0.1.jj ((Zdg y0.1.auth).bind λr46=>cond (decide (0<=y6)&&decide (y6<20)) (y2[y6.toNat]?.bind λx47=>let v48:=Qi y2 y6.toNat [r46.2.1];some (Qb ((y0.1,()),y1,v48,y3,y4,y5,Qa .i64 (y6+1),()))) none) (some (Qb ((y0.1,()),y1,y2,y3,y4,y5,Qa .i64 (y6+1),())))) (some (Qb ((y0.1,()),y1,y2,y3,y4,y5,Qa .i64 (y6+1),())))))) none)) none)) none)) none) (some (Qd (y1,y2,())))
def Zdf_L0:=Yi7 Zdf_L0b
def Zdf(a0:Jb):O1 Jw:=
 (Zdf_L0 ((a0,()),[[],[],[],[],[],[],[],[],[],[],[],[],[],[],[],[],[],[],[],[]],[[],[],[],[],[],[],[],[],[],[],[],[],[],[],[],[],[],[],[],[]],[0#64,0#64,0#64,0#64,a0.jx,Qc 64 a0.jc,Qc 64 a0.jd,0#64,0#64,0#64,0#64,0#64,Qc 64 a0.jk,0#64,a0.jv,0#64,0#64,Qc 64 a0.jb,0#64,Qc 64 a0.count],[[],a0.rP,a0.user,a0.name,[],[],[],[],[],[],[],[],[],[],[],a0.box,a0.proof,[],a0.iD,[]],[false,false,false,false,false,false,false,false,a0.je,a0.jq,a0.jt,a0.jm,false,false,false,false,false,false,false,false],1,())).bind λz49=>z49.2.1[0]?.bind λx50=>z49.2.1[1]?.bind λx51=>z49.2.1[2]?.bind λx52=>z49.2.1[3]?.bind λx53=>z49.2.1[4]?.bind λx54=>z49.2.1[5]?.bind λx55=>z49.2.1[6]?.bind λx56=>z49.2.1[7]?.bind λx57=>z49.2.1[8]?.bind λx58=>z49.2.1[9]?.bind λx59=>z49.2.1[10]?.bind λx60=>z49.2.1[11]?.bind λx61=>z49.2.1[12]?.bind λx62=>z49.2.1[13]?.bind λx63=>z49.2.1[14]?.bind λx64=>z49.2.1[15]?.bind λx65=>z49.2.1[16]?.bind λx66=>z49.2.1[17]?.bind λx67=>z49.2.1[18]?.bind λx68=>z49.2.1[19]?.bind λx69=>cond (decide (z49.1.length=20)) (rt ⟨x50,x51,x52,x53,x54,x55,x56,x57,x58,x59,x60,x61,x62,x63,x64,x65,x66,x67,x68,x69⟩) none
def c127:=cf c126 16 [qbf] [(.v (.agg 28))] (u1 Zdf)
def s_Zdf_L0:LSpec T:=⟨[(1,qz),(2,(.lar 6)),(3,(.lar 6)),(4,(.lar 10)),(5,(.lar 24)),(6,(.lar 4)),(7,qc)],[(.exit 0,[(2,(.lar 6)),(3,(.lar 6))])],Zdf_L0,[]⟩
def A_Zdf:Loc2 T:=lcA [(0,s_Zdf_L0)] []
theorem Vt6:LO c127 Tryz.f16 0 s_Zdf_L0:=lx o126 A_Zdf dn (λ_=>rfl)
theorem o127:EO c127:=sx o126 A_Zdf Tryz.func16 (dc rfl Vt6 dn)
def Zbx_L0b(y0:Jb×Unit)(y1:List Bool)(y2:List (List Ja))(y3:Int):Option (((Jb×Unit)×(List (Bool))×(List (List Ja))×Int×Unit)⊕((Int×Unit)⊕((Jb×Unit)×(List (Bool))×Unit))):=
 cond (decide (y3<20)) (cond (decide (0<=y3)&&decide (y3<20)) (y1[y3.toNat]?.bind λx4=>cond (!x4) (cond (decide (0<=y3)&&decide (y3<20)) (y2[y3.toNat]?.bind λx5=>cond (decide (0<(x5.length:Int))) (some (Qd (Qb (4,())))) (some (Qb ((y0.1,()),y1,y2,Qa .i64 (y3+1),())))) none) (some (Qb ((y0.1,()),y1,y2,Qa .i64 (y3+1),())))) none) (some (Qd (Qd ((y0.1,()),y1,()))))
def Zbx_L0:=Yi4 Zbx_L0b
def Zbx_L2b(y0:Jb×Unit)(y1:List Bool)(y2:Int):Option (((Jb×Unit)×(List (Bool))×Int×Unit)⊕((Int×Unit)⊕((Jb×Unit)×(List (Bool))×Unit))):=
 cond (decide (y2<y0.1.list.length)) ((getI y0.1.list y2).bind λx15=>cond (!(decide ((x15.length:Int)=176))) (some (Qd (Qb (4,())))) (some (Qb ((y0.1,()),y1,Qa .i64 (y2+1),())))) (some (Qd (Qd ((y0.1,()),y1,()))))
def Zbx_L2:=Yi3 Zbx_L2b
def Zbx(a0:Jb):O1 Int:=
 (Zdh a0.kind 1 14).bind λr1=>cond (!r1.2.1) (rt 3) ((Zfj a0.kind).bind λr2=>(Zdf a0).bind λr3=>(Zbx_L0 ((a0,()),[r2.2.1.a0,r2.2.1.a1,r2.2.1.a2,r2.2.1.a3,r2.2.1.a4,r2.2.1.a5,r2.2.1.a6,r2.2.1.a7,r2.2.1.a8,r2.2.1.a9,r2.2.1.a10,r2.2.1.a11,r2.2.1.a12,r2.2.1.a13,r2.2.1.a14,r2.2.1.a15,r2.2.1.a16,r2.2.1.a17,r2.2.1.a18,r2.2.1.a19],[r3.2.1.a0,r3.2.1.a1,r3.2.1.a2,r3.2.1.a3,r3.2.1.a4,r3.2.1.a5,r3.2.1.a6,r3.2.1.a7,r3.2.1.a8,r3.2.1.a9,r3.2.1.a10,r3.2.1.a11,r3.2.1.a12,r3.2.1.a13,r3.2.1.a14,r3.2.1.a15,r3.2.1.a16,r3.2.1.a17,r3.2.1.a18,r3.2.1.a19],1,())).bind (Qh (λz6=>rt z6.1) (λz7=>cond (!(decide (z7.1.1.auth=0#64))) (cond (!z7.1.1.jj) (rt 4) ((Zdh z7.1.1.jc 0 255).bind λr8=>cond (!r8.2.1) (rt 9) ((Zdh z7.1.1.jd 0 255).bind λr9=>cond (!r9.2.1) (rt 9) ((Zdh z7.1.1.jk 0 255).bind λr10=>cond (!r10.2.1) (rt 9) ((Zdh z7.1.1.jb 0 255).bind λr11=>cond (!r11.2.1) (rt 9) ((Zdh z7.1.1.count 0 255).bind λr12=>cond (!r12.2.1) (rt 9) (cond (decide (64<(z7.1.1.rP.length:Int))) (rt 8) (cond (decide (16<(z7.1.1.user.length:Int))) (rt 8) (cond (decide (32<(z7.1.1.name.length:Int))) (rt 8) (cond (decide (8<(z7.1.1.list.length:Int))) (rt 8) (cond (decide (1024<(z7.1.1.box.length:Int))) (rt 8) (cond (decide (1024<(z7.1.1.proof.length:Int))) (rt 8) ((Zhk z7.1.1.rP).bind λr13=>cond (!r13.2.1) (rt 6) ((Zhk z7.1.1.name).bind λr14=>cond (!r14.2.1) (rt 6) ((Zbx_L2 ((z7.1.1,()),z7.2.1,0,())).bind (Qh (λz16=>rt z16.1) (λz17=>z17.2.1[18]?.bind λx18=>cond x18 (cond (!(decide ((z17.1.1.iD.length:Int)=176))) (rt 4) (rt 0)) (rt 0)))))))))))))))))) ((Zdh z7.1.1.jc 0 255).bind λr19=>cond (!r19.2.1) (rt 9) ((Zdh z7.1.1.jd 0 255).bind λr20=>cond (!r20.2.1) (rt 9) ((Zdh z7.1.1.jk 0 255).bind λr21=>cond (!r21.2.1) (rt 9) ((Zdh z7.1.1.jb 0 255).bind λr22=>cond (!r22.2.1) (rt 9) ((Zdh z7.1.1.count 0 255).bind λr23=>cond (!r23.2.1) (rt 9) (cond (decide (64<(z7.1.1.rP.length:Int))) (rt 8) (cond (decide (16<(z7.1.1.user.length:Int))) (rt 8) (cond (decide (32<(z7.1.1.name.length:Int))) (rt 8) (cond (decide (8<(z7.1.1.list.length:Int))) (rt 8) (cond (decide (1024<(z7.1.1.box.length:Int))) (rt 8) (cond (decide (1024<(z7.1.1.proof.length:Int))) (rt 8) ((Zhk z7.1.1.rP).bind λr24=>cond (!r24.2.1) (rt 6) ((Zhk z7.1.1.name).bind λr25=>cond (!r25.2.1) (rt 6) ((Zbx_L2 ((z7.1.1,()),z7.2.1,0,())).bind (Qh (λz26=>rt z26.1) (λz27=>z27.2.1[18]?.bind λx28=>cond x28 (cond (!(decide ((z27.1.1.iD.length:Int)=176))) (rt 4) (rt 0)) (rt 0))))))))))))))))))))
def c128:=ct c127 10 [qbf] [qa] (u1 Zbx)
def s_Zbx_L0:LSpec T:=⟨[(1,qz),(3,(.lar 4)),(4,(.lar 6)),(5,qc)],[(.ret,[(2,qc)]),(.exit 0,[(1,qz),(3,(.lar 4))])],Zbx_L0,[]⟩
def s_Zbx_L2:LSpec T:=⟨[(1,qz),(3,(.lar 4)),(6,qc)],[(.ret,[(2,qc)]),(.exit 2,[(1,qz),(3,(.lar 4))])],Zbx_L2,[]⟩
def A_Zbx:Loc2 T:=lcA [(0,s_Zbx_L0),(2,s_Zbx_L2)] []
theorem Vl9:LO c128 Tryz.f10 0 s_Zbx_L0:=lx o127 A_Zbx dn (λ_=>rfl)
theorem Vt7:LO c128 Tryz.f10 2 s_Zbx_L2:=lx o127 A_Zbx (dc rfl Vl9 dn) (λ_=>rfl)
theorem o128:EO c128:=sx o127 A_Zbx Tryz.func10 (dc rfl Vl9 (dc rfl Vt7 dn))
def Zef(a0:Jd)(a1:Int)(a2:Jb)(a3:List Jl)(a4 a5:Int):O2 Je Int:=
 (cond (!a0.on) (some (a1,a3,a4,a5,(a0,()),(a2,()),(17:Int),())) (cond (decide (a1<0)) (some (a1,a3,a4,a5,(a0,()),(a2,()),(9:Int),())) (cond (decide (1099511627776<a1)) (some (a1,a3,a4,a5,(a0,()),(a2,()),(9:Int),())) (cond (!(decide (a2.kind=a5))) (some (a1,a3,a4,a5,(a0,()),(a2,()),(3:Int),())) ((Zbx a2).bind λr1=>some (a1,a3,a4,a5,(a0,()),(a2,()),r1.2.1,())))))).bind λj2=>cond (!(decide (j2.2.2.2.2.2.2.1=0))) none (let v3:Int:=cond (decide (j2.2.2.2.2.1.1.now<j2.1)) j2.1 j2.2.2.2.2.1.1.now;cond (!(decide (j2.2.2.2.1=4))) (ru ⟨{j2.2.2.2.2.1.1 with now:=v3,next:={}},j2.2.2.2.2.2.1.1,j2.2.1,j2.2.2.1,{},0⟩ 0) (ru ⟨{j2.2.2.2.2.1.1 with now:=v3},j2.2.2.2.2.2.1.1,j2.2.1,j2.2.2.1,{},0⟩ 0))
def c129:=cf c128 184 [qa4,qc,qbf,qaa,qc,qc] [(.pt (.agg 29)),qa] λx=>Zef x.1 x.2.1 x.2.2.1 x.2.2.2.1 x.2.2.2.2.1 x.2.2.2.2.2.1
theorem o129:EO c129:=sx o128 (lcA [] [(9,[(1,qc),(3,qaa),(4,qc),(5,qc),(6,qe),(8,qz),(14,qc)],true)]) Tryz.func184 dn
def Zaa(a0:Jg):O1 Int:=
 (Zdh (a0.rP.length:Int) 1 64).bind λr1=>cond (!r1.2.1) (rt 9) ((Zdh (a0.user.length:Int) 1 16).bind λr2=>cond (!r2.2.1) (rt 9) (cond (decide (32<(a0.name.length:Int))) (rt 9) ((Zdh a0.jc 1 4).bind λr3=>cond (!r3.2.1) (rt 9) ((Zdh a0.jd 1 3).bind λr4=>cond (!r4.2.1) (rt 9) ((Zhk a0.rP).bind λr5=>cond (!r5.2.1) (rt 6) ((Zhk a0.name).bind λr6=>cond (!r6.2.1) (rt 6) (cond a0.jm (cond (!a0.je) (rt 18) (cond a0.jai (cond (!a0.jm) (rt 18) (rt 0)) (rt 0))) (cond a0.jai (cond (!a0.jm) (rt 18) (rt 0)) (rt 0)))))))))
def c130:=ct c129 153 [(.f qak)] [qa] (u1 Zaa)
theorem o130:EO c130:=sz o129 Tryz.func153
def Zbj(a0:Je×Unit)(a1:Int):Option (((Je×Unit)×Unit)×Bool×Unit):=
 cond (decide (a0.1.err=0)) (some ((({a0.1 with err:=a1},()),()),!(decide (a1=0)),())) (some (((a0.1,()),()),!(decide (a0.1.err=0)),()))
def S_Zbj:FSpec T:=⟨[ql,qc],[qf],λx=>Zbj x.1 x.2.1⟩
theorem Vbxa:SoundT Tryz.prog cd gdn 189 S_Zbj:=
 sndC hmix o130 (lcA [] []) Tryz.func189 Vag (by kernel_rfl) (by kernel_rfl) λx=>by kernel_rfl
def c131:List (Ct T):=⟨189,none,S_Zbj,false⟩::c130
theorem o131:EnvOk Tryz.prog (mE c131):=eCons Vbxa o130
def Zby(a0:Je×Unit):Option (((Je×Unit)×Unit)×Jd×Jj×Int×Unit):=
 cond (!(decide (a0.1.err=0))) (some (((a0.1,()),()),a0.1.d,{err:=a0.1.err},a0.1.jaa,())) (some (((a0.1,()),()),a0.1.d,a0.1.ji,a0.1.jaa,()))
def c132:=cf c131 188 [ql] [qo,qaf,qa] (u1 Zby)
theorem o132:EO c132:=sx o131 (lcA [] []) Tryz.func188 dn
def Zem(a0 a1 a2:Int):O1 Bool:=
 cond (decide (a1<=a0)) (rt (decide (a0<=a2))) (rt false)
def c133:=ct c132 240 [qc,qc,qc] [qf] (u3 Zem)
theorem o133:EO c133:=sz o132 Tryz.func240
def Zfs(a0:Int):O1 Bool:=
 cond (decide (a0=1)) (rt true) (cond (decide (a0=2)) (rt true) (rt (decide (a0=4))))
def S_Zfs:FSpec T:=⟨[qc],[qf],λx=>Zfs x.1⟩
theorem Vbya:SoundT Tryz.prog cd gdn 155 S_Zfs:=
 sndC hmix o133 (lcA [] []) Tryz.func155 Vag (by kernel_rfl) (by kernel_rfl) λx=>by kernel_rfl
def c134:List (Ct T):=⟨155,none,S_Zfs,true⟩::c133
theorem o134:EnvOk Tryz.prog (mE c134):=eCons Vbya o133
def Zgu(a0:Ja):O1 Ua:=
 (cond (decide (a0.kind=7)) (let v1:=Qe ((244:UInt8).toBitVec+(Qe (Qg 8 a0.number)).toBitVec);(rt [v1]).bind λq=>some (Qd q)) (cond (decide (a0.kind=8)) ((rt ([246]:Ua)).bind λq=>some (Qd q)) (cond (decide (a0.kind=2)) (some (Qb (a0.number,(32:UInt8),()))) (cond (decide (a0.kind=3)) (some (Qb (Qc 64 (a0.data.length:Int),(64:UInt8),()))) (cond (decide (a0.kind=4)) (some (Qb (Qc 64 (a0.data.length:Int),(96:UInt8),()))) (cond (decide (a0.kind=5)) (some (Qb (a0.number,(128:UInt8),()))) (cond (decide (a0.kind=6)) (some (Qb (a0.number,(160:UInt8),()))) (some (Qb (a0.number,(0:UInt8),())))))))))).bind (Qh (λj2=>cond (decide (j2.1.toNat<(24#64).toNat)) (let v3:=Qe (j2.2.1.toBitVec+(Qe (Qg 8 j2.1)).toBitVec);rt [v3]) (cond (decide (j2.1.toNat<(256#64).toNat)) (let v4:Ua:=[Qe (j2.2.1.toBitVec+(24:UInt8).toBitVec),Qe (Qg 8 j2.1)];rt v4) (cond (decide (j2.1.toNat<(65536#64).toNat)) (let v5:Ua:=[Qe (j2.2.1.toBitVec+(25:UInt8).toBitVec),Qe (Qg 8 (j2.1>>>8)),Qe (Qg 8 j2.1)];rt v5) (cond (decide (j2.1.toNat<(4294967296#64).toNat)) (let v6:Ua:=[Qe (j2.2.1.toBitVec+(26:UInt8).toBitVec),Qe (Qg 8 (j2.1>>>24)),Qe (Qg 8 (j2.1>>>16)),Qe (Qg 8 (j2.1>>>8)),Qe (Qg 8 j2.1)];rt v6) (let v7:Ua:=[Qe (j2.2.1.toBitVec+(27:UInt8).toBitVec)];(passkeyref1_Words [j2.1]).bind λr8=>cond (small (v7.length+(r8.2.1:Ua).length) 1) (rt (v7++r8.2.1)) none))))) some)
def c135:=cf c134 123 [qbi] [qk] (u1 Zgu)
theorem o135:EO c135:=sx o134 (lcA [] [(18,[(3,qd),(4,qa0)],false)]) Tryz.func123 dn
def Zfq(a0:Ja):O1 Ua:=
 (Zgu a0).bind λr1=>cond (Nat.ble (r1.2.1.length+a0.data.length) 9223372036854775807) (rt (r1.2.1++a0.data)) none
def S_Zfq:FSpec T:=⟨[qbi],[qt],λx=>Zfq x.1⟩
theorem Vt8:SoundT Tryz.prog cd gdn 88 S_Zfq:=
 sndC hmix o135 (lcA [] []) Tryz.func88 Vag (by kernel_rfl) (by kernel_rfl) λx=>by kernel_rfl
def c136:List (Ct T):=⟨88,none,S_Zfq,true⟩::c135
theorem o136:EnvOk Tryz.prog (mE c136):=eCons Vt8 o135
def Zgw(a0 a1:Ua):O1 Bool:=
 cond (!(decide ((a0.length:Int)=(a1.length:Int)))) (rt (decide ((a0.length:Int)<(a1.length:Int)))) (rt (Op.bytesLess a0 a1))
def S_Zgw:FSpec T:=⟨[qas,qas],[qf],λx=>Zgw x.1 x.2.1⟩
theorem Vbza:SoundT Tryz.prog cd gdn 156 S_Zgw:=
 sndC hmix o136 (lcA [] []) Tryz.func156 Vag (by kernel_rfl) (by kernel_rfl) λx=>by kernel_rfl
def c137:List (Ct T):=⟨156,none,S_Zgw,true⟩::c136
theorem o137:EnvOk Tryz.prog (mE c137):=eCons Vbza o136
def Zfr(a0:Ja)(a1 a2:Int)(a3:Bool)(a4:Ua):O1 Int:=
 (cond (decide (a0.kind=3)) (some (a1,a2,a3,a4,(a0,()),true,())) (some (a1,a2,a3,a4,(a0,()),decide (a0.kind=4),()))).bind λj1=>(cond (decide (j1.2.2.2.2.1.1.kind=5)) (some (j1.1,j1.2.1,j1.2.2.1,j1.2.2.2.1,(j1.2.2.2.2.1.1,()),j1.2.2.2.2.2.1,true,())) (some (j1.1,j1.2.1,j1.2.2.1,j1.2.2.2.1,(j1.2.2.2.2.1.1,()),j1.2.2.2.2.2.1,decide (j1.2.2.2.2.1.1.kind=6),()))).bind λj2=>cond (decide (512<=j2.1)) (rt 8) (((Zem j2.2.2.2.2.1.1.kind 1 8).bind λr3=>cond (!r3.2.1) (some (j2.2.1,j2.2.2.1,j2.2.2.2.1,(j2.2.2.2.2.1.1,()),j2.2.2.2.2.2.1,j2.2.2.2.2.2.2.1,true,())) (cond j2.2.2.1 ((Zfs j2.2.2.2.2.1.1.kind).bind λr4=>some (j2.2.1,j2.2.2.1,j2.2.2.2.1,(j2.2.2.2.2.1.1,()),j2.2.2.2.2.2.1,j2.2.2.2.2.2.2.1,!r4.2.1,())) (some (j2.2.1,j2.2.2.1,j2.2.2.2.1,(j2.2.2.2.2.1.1,()),j2.2.2.2.2.2.1,j2.2.2.2.2.2.2.1,false,())))).bind λj5=>cond j5.2.2.2.2.2.2.1 (rt 3) (cond (decide (8<j5.1)) (rt 5) ((cond j5.2.2.2.2.1 (cond (!(decide (j5.2.2.2.1.1.number=0#64))) (some (j5.2.1,j5.2.2.1,(j5.2.2.2.1.1,()),j5.2.2.2.2.2.1,true,())) (cond (decide (j5.2.2.2.1.1.kind=7)) (cond (decide ((1#64).toNat<j5.2.2.2.1.1.number.toNat)) (some (j5.2.1,j5.2.2.1,(j5.2.2.2.1.1,()),j5.2.2.2.2.2.1,true,())) (cond (!j5.2.2.2.2.1) (some (j5.2.1,j5.2.2.1,(j5.2.2.2.1.1,()),j5.2.2.2.2.2.1,!(decide (j5.2.2.2.1.1.data=([]:Ua))),())) (some (j5.2.1,j5.2.2.1,(j5.2.2.2.1.1,()),j5.2.2.2.2.2.1,false,())))) (cond (!j5.2.2.2.2.1) (some (j5.2.1,j5.2.2.1,(j5.2.2.2.1.1,()),j5.2.2.2.2.2.1,!(decide (j5.2.2.2.1.1.data=([]:Ua))),())) (some (j5.2.1,j5.2.2.1,(j5.2.2.2.1.1,()),j5.2.2.2.2.2.1,false,()))))) (cond (decide (j5.2.2.2.1.1.kind=8)) (cond (!(decide (j5.2.2.2.1.1.number=0#64))) (some (j5.2.1,j5.2.2.1,(j5.2.2.2.1.1,()),j5.2.2.2.2.2.1,true,())) (cond (decide (j5.2.2.2.1.1.kind=7)) (cond (decide ((1#64).toNat<j5.2.2.2.1.1.number.toNat)) (some (j5.2.1,j5.2.2.1,(j5.2.2.2.1.1,()),j5.2.2.2.2.2.1,true,())) (cond (!j5.2.2.2.2.1) (some (j5.2.1,j5.2.2.1,(j5.2.2.2.1.1,()),j5.2.2.2.2.2.1,!(decide (j5.2.2.2.1.1.data=([]:Ua))),())) (some (j5.2.1,j5.2.2.1,(j5.2.2.2.1.1,()),j5.2.2.2.2.2.1,false,())))) (cond (!j5.2.2.2.2.1) (some (j5.2.1,j5.2.2.1,(j5.2.2.2.1.1,()),j5.2.2.2.2.2.1,!(decide (j5.2.2.2.1.1.data=([]:Ua))),())) (some (j5.2.1,j5.2.2.1,(j5.2.2.2.1.1,()),j5.2.2.2.2.2.1,false,()))))) (cond (decide (j5.2.2.2.1.1.kind=7)) (cond (decide ((1#64).toNat<j5.2.2.2.1.1.number.toNat)) (some (j5.2.1,j5.2.2.1,(j5.2.2.2.1.1,()),j5.2.2.2.2.2.1,true,())) (cond (!j5.2.2.2.2.1) (some (j5.2.1,j5.2.2.1,(j5.2.2.2.1.1,()),j5.2.2.2.2.2.1,!(decide (j5.2.2.2.1.1.data=([]:Ua))),())) (some (j5.2.1,j5.2.2.1,(j5.2.2.2.1.1,()),j5.2.2.2.2.2.1,false,())))) (cond (!j5.2.2.2.2.1) (some (j5.2.1,j5.2.2.1,(j5.2.2.2.1.1,()),j5.2.2.2.2.2.1,!(decide (j5.2.2.2.1.1.data=([]:Ua))),())) (some (j5.2.1,j5.2.2.1,(j5.2.2.2.1.1,()),j5.2.2.2.2.2.1,false,())))))).bind λj6=>cond j6.2.2.2.2.1 (rt 4) ((cond (decide (1024<(j6.2.2.1.1.data.length:Int))) (some (j6.1,j6.2.1,(j6.2.2.1.1,()),true,())) (cond j6.2.2.2.1 (some (j6.1,j6.2.1,(j6.2.2.1.1,()),decide ((512#64).toNat<j6.2.2.1.1.number.toNat),())) (some (j6.1,j6.2.1,(j6.2.2.1.1,()),false,())))).bind λj7=>cond j7.2.2.2.1 (rt 8) ((cond (decide (j7.2.2.1.1.kind=4)) ((Zhk j7.2.2.1.1.data).bind λr8=>some (j7.1,j7.2.1,(j7.2.2.1.1,()),!r8.2.1,())) (some (j7.1,j7.2.1,(j7.2.2.1.1,()),false,()))).bind λj9=>cond j9.2.2.2.1 (rt 6) ((cond j9.1 (cond (!(decide (j9.2.1=([]:Ua)))) ((Zfq j9.2.2.1.1).bind λr10=>(Zgw j9.2.1 r10.2.1).bind λr11=>some (!r11.2.1,())) (some (false,()))) (some (false,()))).bind λj12=>cond j12.1 (rt 7) (rt 0)))))))
def S_Zfr:FSpec T:=⟨[qbi,qc,qc,qs,qas],[qa],λx=>Zfr x.1 x.2.1 x.2.2.1 x.2.2.2.1 x.2.2.2.2.1⟩
theorem Vb0a:SoundT Tryz.prog cd gdn 168 S_Zfr:=
 sndC hmix o137 (lcA [] [(2,[(1,.f (.v (.int .i64))),(2,.f (.v (.int .i64))),(3,.f (.v .bool)),(4,.f (.v .str)),(5,.ptr [(.v (.agg 1))]),(11,.f (.v .bool))],true),(3,[(1,.f (.v (.int .i64))),(2,.f (.v (.int .i64))),(3,.f (.v .bool)),(4,.f (.v .str)),(5,.ptr [(.v (.agg 1))]),(11,.f (.v .bool)),(12,.f (.v .bool))],true),(6,[(2,.f (.v (.int .i64))),(3,.f (.v .bool)),(4,.f (.v .str)),(5,.ptr [(.v (.agg 1))]),(11,.f (.v .bool)),(12,.f (.v .bool)),(32,.f (.v .bool))],true),(10,[(3,.f (.v .bool)),(4,.f (.v .str)),(5,.ptr [(.v (.agg 1))]),(12,.f (.v .bool)),(49,.f (.v .bool))],true),(12,[(3,.f (.v .bool)),(4,.f (.v .str)),(5,.ptr [(.v (.agg 1))]),(80,.f (.v .bool))],true),(14,[(3,.f (.v .bool)),(4,.f (.v .str)),(5,.ptr [(.v (.agg 1))]),(93,.f (.v .bool))],true),(16,[(103,.f (.v .bool))],true)]) Tryz.func168 Vag (by kernel_rfl) (by kernel_rfl) λx=>by kernel_rfl
def c138:List (Ct T):=⟨168,none,S_Zfr,true⟩::c137
theorem o138:EnvOk Tryz.prog (mE c138):=eCons Vb0a o137
def passkeyref1_walk_L0b(k_rec:List Ja->Int->Int->Bool->Ua->O2 Int Int)(y0:List Ja)(y1:Int)(y2:Ja×Unit)(y3:Int)(y4:Ua)(y5:Ub):Option (List Ja×Int×(Ja×Unit)×Int×Ua×Ub×Unit⊕Int×Int×Unit⊕Int×Unit):=
 cond (decide (y5.toNat<y2.1.number.toNat)) (cond (decide (y2.1.kind=5)) ((cond (decide (y2.1.kind=6)) ((k_rec y0 y3 (Qa .i64 (y1+1)) true y4).bind λr3=>cond (!(decide (r3.2.2.1=0))) ((some (Qd (Qb (r3.2.1,r3.2.2.1,())))).bind λq=>some (Qd q)) ((getI y0 y3).bind λx4=>(Zfq x4).bind λr5=>some (Qb (y0,y1,(y2.1,()),r3.2.1,r5.2.1,y5,())))) (some (Qb (y0,y1,(y2.1,()),y3,y4,y5,())))).bind (Qh (λj6=>(k_rec j6.1 j6.2.2.2.1 (Qa .i64 (j6.2.1+1)) false ([]:Ua)).bind λr7=>cond (!(decide (r7.2.2.1=0))) (some (Qd (Qb (r7.2.1,r7.2.2.1,())))) (some (Qb (j6.1,j6.2.1,(j6.2.2.1.1,()),r7.2.1,j6.2.2.2.2.1,j6.2.2.2.2.2.1+1#64,())))) some)) (cond (decide (y2.1.kind=6)) ((cond (decide (y2.1.kind=6)) ((k_rec y0 y3 (Qa .i64 (y1+1)) true y4).bind λr8=>cond (!(decide (r8.2.2.1=0))) ((some (Qd (Qb (r8.2.1,r8.2.2.1,())))).bind λq=>some (Qd q)) ((getI y0 y3).bind λx9=>(Zfq x9).bind λr10=>some (Qb (y0,y1,(y2.1,()),r8.2.1,r10.2.1,y5,())))) (some (Qb (y0,y1,(y2.1,()),y3,y4,y5,())))).bind (Qh (λj11=>(k_rec j11.1 j11.2.2.2.1 (Qa .i64 (j11.2.1+1)) false ([]:Ua)).bind λr12=>cond (!(decide (r12.2.2.1=0))) (some (Qd (Qb (r12.2.1,r12.2.2.1,())))) (some (Qb (j11.1,j11.2.1,(j11.2.2.1.1,()),r12.2.1,j11.2.2.2.2.1,j11.2.2.2.2.2.1+1#64,())))) some)) (some (Qd (Qd (y3,())))))) (some (Qd (Qd (y3,()))))
def passkeyref1_walk_L0(k_rec:List Ja->Int->Int->Bool->Ua->O2 Int Int)(y:List Ja×Int×(Ja×Unit)×Int×Ua×Ub×Unit):Option (Int×Int×Unit⊕Int×Unit):=
 iter (λ(y:List Ja×Int×(Ja×Unit)×Int×Ua×Ub×Unit)=>passkeyref1_walk_L0b k_rec y.1 y.2.1 y.2.2.1 y.2.2.2.1 y.2.2.2.2.1 y.2.2.2.2.2.1) rounds y
def passkeyref1_walk_R(k_rec:List Ja->Int->Int->Bool->Ua->O2 Int Int)(a0:List Ja)(a1 a2:Int)(a3:Bool)(a4:Ua):O2 Int Int:=
 cond (decide (a0.length<=a1)) (ru a1 1) ((getI a0 a1).bind λx1=>(Zfr x1 a1 a2 a3 a4).bind λr2=>cond (!(decide (r2.2.1=0))) (ru a1 r2.2.1) ((passkeyref1_walk_L0 k_rec (a0,a2,(x1,()),Qa .i64 (a1+1),[],0#64,())).bind (Qh (λz13=>ru z13.1 z13.2.1) (λz14=>ru z14.1 0))))
abbrev ps_passkeyref1_walk:List Slot:=[qm,qc,qc,qs,qas]
abbrev rs_passkeyref1_walk:List Fld:=[qa,qa]
def E_passkeyref1_walk(k_rec:(List (Ja))->Int->Int->Bool->Ua->Option ((Unit)×(Int×Int×Unit))):Env T:=⟨tab.find,cd,globs,flc,λf ds=>match f with
  |88=>some S_Zfq
  |122=>some ⟨ps_passkeyref1_walk,rs_passkeyref1_walk,λx=>k_rec x.1 x.2.1 x.2.2.1 x.2.2.2.1 x.2.2.2.2.1⟩
  |168=>some S_Zfr
  |_=>none,λf=>match f with
  |88=>true
  |122=>true
  |168=>true
  |_=>false⟩
def A_passkeyref1_walk(k_rec:(List (Ja))->Int->Int->Bool->Ua->Option ((Unit)×(Int×Int×Unit))):Loc2 T:=⟨λid=>match id with
  |0=>some ⟨[(0,.f (.v (.rs 1))),(2,.f (.v (.int .i64))),(12,.ptr [(.v (.agg 1))]),(14,.f (.v (.int .i64))),(15,.f (.v .str)),(16,.f (.v .u64))],[(.ret,[(10,.f (.v (.int .i64))),(11,.f (.v (.int .i64)))]),(.exit 0,[(14,.f (.v (.int .i64)))])],passkeyref1_walk_L0 k_rec,[]⟩
  |_=>none,λr=>match r with
  |19=>some ([(0,.f (.v (.rs 1))),(2,.f (.v (.int .i64))),(12,.ptr [(.v (.agg 1))]),(14,.f (.v (.int .i64))),(15,.f (.v .str)),(16,.f (.v .u64))],false)
  |_=>none⟩
theorem Vdz(k_rec:(List (Ja))->Int->Int->Bool->Ua->Option ((Unit)×(Int×Int×Unit)))(y0:(List (Ja)))(y1:Int)(y2:(Ja×Unit))(y3:Int)(y4:Ua)(y5:Ub):run (E_passkeyref1_walk k_rec) (A_passkeyref1_walk k_rec) (loopAt 0 (Tryz.f122.body.getD .skip)) (layC cd [(0,.f (.v (.rs 1))),(2,.f (.v (.int .i64))),(12,.ptr [(.v (.agg 1))]),(14,.f (.v (.int .i64))),(15,.f (.v .str)),(16,.f (.v .u64))] [] (y0,y1,y2,y3,y4,y5,())) (roundK cd [(0,.f (.v (.rs 1))),(2,.f (.v (.int .i64))),(12,.ptr [(.v (.agg 1))]),(14,.f (.v (.int .i64))),(15,.f (.v .str)),(16,.f (.v .u64))] [] [(.ret,[(10,.f (.v (.int .i64))),(11,.f (.v (.int .i64)))]),(.exit 0,[(14,.f (.v (.int .i64)))])])=passkeyref1_walk_L0b k_rec y0 y1 y2 y3 y4 y5:=by kernel_rfl
theorem Vez(k_rec:(List (Ja))->Int->Int->Bool->Ua->Option ((Unit)×(Int×Int×Unit)))(x:tySs T ps_passkeyref1_walk):run (E_passkeyref1_walk k_rec) (A_passkeyref1_walk k_rec) (Tryz.f122.body.getD .skip) (enterT (E_passkeyref1_walk k_rec).C ps_passkeyref1_walk x) (retK (E_passkeyref1_walk k_rec) Tryz.f122.results.toList ps_passkeyref1_walk rs_passkeyref1_walk)=passkeyref1_walk_R k_rec x.1 x.2.1 x.2.2.1 x.2.2.2.1 x.2.2.2.2.1:=by kernel_rfl
def passkeyref1_walk_n:Nat->(List (Ja))->Int->Int->Bool->Ua->Option ((Unit)×(Int×Int×Unit))
 |0=>λ_ _ _ _ _=>none
 |n+1=>passkeyref1_walk_R (passkeyref1_walk_n n)
def passkeyref1_walk(a0:(List (Ja)))(a1:Int)(a2:Int)(a3:Bool)(a4:Ua):=passkeyref1_walk_n 12 a0 a1 a2 a3 a4
def S_passkeyref1_walk:FSpec T:=⟨ps_passkeyref1_walk,rs_passkeyref1_walk,λx=>passkeyref1_walk x.1 x.2.1 x.2.2.1 x.2.2.2.1 x.2.2.2.2.1⟩
theorem Vcd(k_rec:(List (Ja))->Int->Int->Bool->Ua->Option ((Unit)×(Int×Int×Unit)))(hk:SoundT Tryz.prog cd gdn 122 ⟨ps_passkeyref1_walk,rs_passkeyref1_walk,λx=>k_rec x.1 x.2.1 x.2.2.1 x.2.2.2.1 x.2.2.2.2.1⟩):EnvOk Tryz.prog (E_passkeyref1_walk k_rec):=envOk (E:=(E_passkeyref1_walk k_rec)) cd_ok tys fl_ok λf ds S h=>by
  dsimp only[E_passkeyref1_walk]at h;split at h
  ·cases h;exact Vt8
  ·cases h;exact hk
  ·cases h;exact Vb0a
  ·cases h
theorem Vd0(k_rec:(List (Ja))->Int->Int->Bool->Ua->Option ((Unit)×(Int×Int×Unit)))(hk:SoundT Tryz.prog cd gdn 122 ⟨ps_passkeyref1_walk,rs_passkeyref1_walk,λx=>k_rec x.1 x.2.1 x.2.2.1 x.2.2.2.1 x.2.2.2.2.1⟩):LoopOk Tryz.prog (E_passkeyref1_walk k_rec) Tryz.f122.ntmps (kqOf ps_passkeyref1_walk 0) (loopAt 0 (Tryz.f122.body.getD .skip)) ⟨[(0,.f (.v (.rs 1))),(2,.f (.v (.int .i64))),(12,.ptr [(.v (.agg 1))]),(14,.f (.v (.int .i64))),(15,.f (.v .str)),(16,.f (.v .u64))],[(.ret,[(10,.f (.v (.int .i64))),(11,.f (.v (.int .i64)))]),(.exit 0,[(14,.f (.v (.int .i64)))])],passkeyref1_walk_L0 k_rec,[]⟩:=
 Vic (A:=(A_passkeyref1_walk k_rec)) (done:=[]) (c0:=(Tryz.f122.body.getD .skip)) hmix (Vcd k_rec hk) Vag rounds (by kernel_rfl) (by kernel_rfl) (λx=>Vdz k_rec x.1 x.2.1 x.2.2.1 x.2.2.2.1 x.2.2.2.2.1 x.2.2.2.2.2.1) (λ_=>rfl)
theorem Vbj:∀n:Nat,SoundT Tryz.prog cd gdn 122 ⟨ps_passkeyref1_walk,rs_passkeyref1_walk,λx=>passkeyref1_walk_n n x.1 x.2.1 x.2.2.1 x.2.2.2.1 x.2.2.2.2.1⟩
 |0=>Vgj ⟨_,Tryz.func122,by kernel_rfl,by kernel_rfl⟩
 |n+1=>Vc2 (E:=E_passkeyref1_walk (passkeyref1_walk_n n)) (A:=A_passkeyref1_walk (passkeyref1_walk_n n)) (done:=[0]) (c:=(Tryz.f122.body.getD .skip)) (S:=⟨ps_passkeyref1_walk,rs_passkeyref1_walk,λx=>passkeyref1_walk_n (n+1) x.1 x.2.1 x.2.2.1 x.2.2.2.1 x.2.2.2.2.1⟩) (fn:=Tryz.f122) hmix (Vcd _ (Vbj n)) Tryz.func122 rfl (by kernel_rfl) (by kernel_rfl) (Vbx rfl (Vd0 _ (Vbj n)) Vag) (by kernel_rfl) (by kernel_rfl) (Vez (passkeyref1_walk_n n))
theorem Ve5:SoundT Tryz.prog cd gdn 122 S_passkeyref1_walk:=Vbj 12
def c139:List (Ct T):=⟨122,none,S_passkeyref1_walk,true⟩::c138
theorem o139:EnvOk Tryz.prog (mE c139):=eCons Ve5 o138
def Zcm(a0:List Ja):O1 Int:=
 (passkeyref1_walk a0 0 0 false []).bind λr1=>cond (!(decide (r1.2.2.1=0))) (rt r1.2.2.1) (cond (decide (r1.2.1<a0.length)) (rt 2) (rt 0))
def c140:=ct c139 87 [qm] [qa] (u1 Zcm)
theorem o140:EO c140:=sz o139 Tryz.func87
def Zek_L0b(y0:List Ja)(y1:Ua)(y2:Int):Option (((List (Ja))×Ua×Int×Unit)⊕(Ua×Unit)):=
 cond (decide (y2<y0.length)) ((getI y0 y2).bind λx2=>(Zfq x2).bind λr3=>cond (small (y1.length+(r3.2.1:Ua).length) 1) (some (Qb (y0,y1++r3.2.1,Qa .i64 (y2+1),()))) none) (some (Qd (y1,())))
def Zek_L0:=Yi3 Zek_L0b
def Zek(a0:List Ja):O2 Ua Int:=
 (Zcm a0).bind λr1=>cond (!(decide (r1.2.1=0))) (ru [] r1.2.1) ((Zek_L0 (a0,[],0,())).bind λz4=>ru z4.1 0)
def c141:=cf c140 45 [qm] [qk,qa] (u1 Zek)
def s_Zek_L0:LSpec T:=⟨[(0,qm),(5,qah),(6,qc)],[(.exit 0,[(5,qah)])],Zek_L0,[]⟩
def A_Zek:Loc2 T:=lcA [(0,s_Zek_L0)] []
theorem Vt9:LO c141 Tryz.f45 0 s_Zek_L0:=lx o140 A_Zek dn (λ_=>rfl)
theorem o141:EO c141:=sx o140 A_Zek Tryz.func45 (dc rfl Vt9 dn)
def passkeyref14_encode_L0b(y0:List (List Ja))(y1:List Ja)(y2:Int):Option (((List (List Ja))×(List (Ja))×Int×Unit)⊕((List (Ja))×Unit)):=
 cond (decide (y2<y0.length)) ((getI y0 y2).bind λx2=>cond (decide (0<(x2.length:Int))) (cond (decide (0<(y1.length:Int))) (y1[0]?.bind λx3=>cond (decide (0<(y1.length:Int))) (y1[0]?.bind λx4=>let v5:=Qi y1 0 ({x4 with number:=x3.number+1#64}:Ja);(Zdg (Qc 64 y2)).bind λr6=>cond (small (v5.length+([r6.2.1]).length) 32) ((getI y0 y2).bind λx7=>cond (small ((v5++[r6.2.1]).length+(x7:List Ja).length) 32) (let v8:=v5++[r6.2.1]++x7;some (Qb (y0,v8,Qa .i64 (y2+1),()))) none) none) none) none) (some (Qb (y0,y1,Qa .i64 (y2+1),())))) (some (Qd (y1,())))
def passkeyref14_encode_L0:=Yi3 passkeyref14_encode_L0b
def passkeyref14_encode(a0:List (List Ja)):O1 Ua:=
 let v1:List Ja:=[{kind:=6}];(passkeyref14_encode_L0 (a0,v1,1,())).bind λz9=>(Zek z9.1).bind λr10=>rt r10.2.1
def c142:=cf c141 17 [qac] [qk] (u1 passkeyref14_encode)
def s_passkeyref14_encode_L0:LSpec T:=⟨[(0,qac),(3,qau),(4,qc)],[(.exit 0,[(3,qau)])],passkeyref14_encode_L0,[]⟩
def A_passkeyref14_encode:Loc2 T:=lcA [(0,s_passkeyref14_encode_L0)] []
theorem Vc6:LO c142 Tryz.f17 0 s_passkeyref14_encode_L0:=lx o141 A_passkeyref14_encode dn (λ_=>rfl)
theorem o142:EO c142:=sx o141 A_passkeyref14_encode Tryz.func17 (dc rfl Vc6 dn)
def Zag(a0:Jb):O2 Ua Int:=
 (Zbx a0).bind λr1=>cond (!(decide (r1.2.1=0))) (ru [] r1.2.1) ((Zdf a0).bind λr2=>(passkeyref14_encode [r2.2.1.a0,r2.2.1.a1,r2.2.1.a2,r2.2.1.a3,r2.2.1.a4,r2.2.1.a5,r2.2.1.a6,r2.2.1.a7,r2.2.1.a8,r2.2.1.a9,r2.2.1.a10,r2.2.1.a11,r2.2.1.a12,r2.2.1.a13,r2.2.1.a14,r2.2.1.a15,r2.2.1.a16,r2.2.1.a17,r2.2.1.a18,r2.2.1.a19]).bind λr3=>cond (small (([Qe (Qc 8 a0.kind)]).length+(r3.2.1:Ua).length) 1) (let v4:=[Qe (Qc 8 a0.kind)]++r3.2.1;ru v4 0) none)
def c143:=cf c142 6 [qbf] [qk,qa] (u1 Zag)
theorem o143:EO c143:=sx o142 (lcA [] []) Tryz.func6 dn
def Zdc(a0:Jb):O1 Ub:=
 (Zbx a0).bind λr1=>cond (!(decide (r1.2.1=0))) (rt 0#64) ((Zag {a0 with auth:=0#64,jj:=false}).bind λr2=>(Zgt 21 r2.2.1).bind λr3=>rt r3.2.1)
def c144:=ct c143 101 [qbf] [qr] (u1 Zdc)
theorem o144:EO c144:=sz o143 Tryz.func101
def Zbh(a0 a1:Ub):O1 Ub:=
 (passkeyref1_Words [a1]).bind λr1=>(Zhw a0 12 r1.2.1).bind λr2=>rt r2.2.1
def c145:=ct c144 100 [qd,qd] [qr] (u2 Zbh)
theorem o145:EO c145:=sz o144 Tryz.func100
def Zao(a0:Jt)(a1 a2:Int)(a3:Ua)(a4 a5:Ub):O1 Int:=
 (cond (decide (a0.jar<=a1)) (some (a1,a2,a3,a4,a5,(a0,()),decide ((100#64).toNat<(Qc 64 a1-Qc 64 a0.jar).toNat),())) (some (a1,a2,a3,a4,a5,(a0,()),false,()))).bind λj1=>cond (!j1.2.2.2.2.2.1.1.jap) (rt 29) (cond (decide (j1.1<j1.2.2.2.2.2.1.1.jar)) (rt 29) (cond j1.2.2.2.2.2.2.1 (rt 29) (cond (decide (j1.2.1<1)) (rt 29) (cond (decide (7<j1.2.1)) (rt 29) (let v2:=Qa .i64 ((Qc (Qf .i64) j1.2.2.2.2.2.1.1.jb&&&Qc (Qf .i64) j1.2.1).toNat:Int);cond (!(decide (v2=j1.2.1))) (rt 29) (cond (!(decide (j1.2.2.2.2.2.1.1.rP=([]:Ua)))) (cond (!(decide (j1.2.2.2.2.2.1.1.rP=j1.2.2.1))) (rt 29) ((Zbh j1.2.2.2.2.2.1.1.value j1.2.2.2.1).bind λr3=>cond (!(decide (j1.2.2.2.2.1=r3.2.1))) (rt 29) (rt 0))) ((Zbh j1.2.2.2.2.2.1.1.value j1.2.2.2.1).bind λr4=>cond (!(decide (j1.2.2.2.2.1=r4.2.1))) (rt 29) (rt 0))))))))
def c146:=ct c145 254 [(.f qa1),qc,qc,qas,qd,qd] [qa] λx=>Zao x.1 x.2.1 x.2.2.1 x.2.2.2.1 x.2.2.2.2.1 x.2.2.2.2.2.1
theorem o146:EO c146:=sx o145 (lcA [] [(2,[(1,qc),(2,qc),(3,qas),(4,qd),(5,qd),(6,(.ptr [qa1])),(13,qs)],true)]) Tryz.func254 dn
def Zae(a0:Je×Unit)(a1:Int)(a2:Ua):Option (((Je×Unit)×Unit)×Bool×Unit):=
 cond (!a0.1.r.jj) (some (((a0.1,()),()),false,())) ((Zdc a0.1.r).bind λr1=>(Zao a0.1.d.ju a0.1.d.now a1 a2 r1.2.1 a0.1.r.auth).bind λr2=>(Zbj (a0.1,()) r2.2.1).bind λr3=>some (((r3.1.1.1,()),()),decide (r3.1.1.1.err=0),()))
def c147:=cf c146 190 [ql,qc,qas] [qf] (u3 Zae)
theorem o147:EO c147:=sz o146 Tryz.func190
def Zgr(a0:Jd):O1 Jo:=
 (Zic a0.jo 3).bind λr1=>cond (decide ((r1.2.1.length:Int)=0)) (rt {jac:=a0.jac}) ((Zgv r1.2.1).bind λr2=>(Zic a0.jo 4).bind λr3=>cond (decide ((r3.2.1.length:Int)=1)) (cond (decide (0<(r3.2.1.length:Int))) (r3.2.1[0]?.bind λx4=>rt ⟨true,r2.2.1,(x4.toBitVec.toNat:Int),a0.jac⟩) none) (rt ⟨true,r2.2.1,0,a0.jac⟩))
def S_Zgr:FSpec T:=⟨[qa4],[qbc],λx=>Zgr x.1⟩
theorem Vb1a:SoundT Tryz.prog cd gdn 185 S_Zgr:=
 sndC hmix o147 (lcA [] []) Tryz.func185 Vag (by kernel_rfl) (by kernel_rfl) λx=>by kernel_rfl
def c148:List (Ct T):=⟨185,none,S_Zgr,true⟩::c147
theorem o148:EnvOk Tryz.prog (mE c148):=eCons Vb1a o147
abbrev Y_Zdz_L2:=(Int×Bool×Bool×(List (Jl))×(Jn×Unit)×Int×Int×Unit)
def Zdz_L2b(y0:Int)(y1 y2:Bool)(y3:List Jl)(y4:Jn×Unit)(y5 y6:Int):Option (Y_Zdz_L2⊕(((Jn×Unit)×Int×Unit)⊕(Int×Bool×Bool×(List (Jl))×(Jn×Unit)×Int×Unit))):=
 cond (decide (y6<y3.length)) ((getI y3 y6).bind λx4=>cond (!(decide (x4.at_=y5))) (some (Qb (y0,y1,y2,y3,(y4.1,()),y5,Qa .i64 (y6+1),()))) (((getI y3 y6).bind λx5=>cond (decide (x5.kind=1)) (some (y0,y1,y2,y3,(y4.1,()),y5,y6,true,())) ((getI y3 y6).bind λx6=>cond (decide (x6.kind=2)) (cond (!y1) (some (y0,y1,y2,y3,(y4.1,()),y5,y6,true,())) ((getI y3 y6).bind λx7=>cond (decide (x7.kind=3)) (some (y0,y1,y2,y3,(y4.1,()),y5,y6,!y2,())) (some (y0,y1,y2,y3,(y4.1,()),y5,y6,false,())))) ((getI y3 y6).bind λx8=>cond (decide (x8.kind=3)) (some (y0,y1,y2,y3,(y4.1,()),y5,y6,!y2,())) (some (y0,y1,y2,y3,(y4.1,()),y5,y6,false,()))))).bind λj9=>(cond j9.2.2.2.2.2.2.2.1 (some (j9.1,j9.2.1,j9.2.2.1,j9.2.2.2.1,(j9.2.2.2.2.1.1,()),j9.2.2.2.2.2.1,j9.2.2.2.2.2.2.1,!j9.2.2.1,())) (some (j9.1,j9.2.1,j9.2.2.1,j9.2.2.2.1,(j9.2.2.2.2.1.1,()),j9.2.2.2.2.2.1,j9.2.2.2.2.2.2.1,false,()))).bind λj10=>cond j10.2.2.2.2.2.2.2.1 (some (Qd (Qb ((⟨true,false,j10.2.2.2.2.2.1⟩,()),0,())))) (((getI j10.2.2.2.1 j10.2.2.2.2.2.2.1).bind λx11=>cond (decide (x11.kind=2)) (some (j10.1,j10.2.1,j10.2.2.1,j10.2.2.2.1,(j10.2.2.2.2.1.1,()),j10.2.2.2.2.2.1,j10.2.2.2.2.2.2.1,j10.2.1,())) (some (j10.1,j10.2.1,j10.2.2.1,j10.2.2.2.1,(j10.2.2.2.2.1.1,()),j10.2.2.2.2.2.1,j10.2.2.2.2.2.2.1,false,()))).bind λj12=>cond j12.2.2.2.2.2.2.2.1 (some (Qd (Qb ((⟨true,true,j12.2.2.2.2.2.1⟩,()),0,())))) (((getI j12.2.2.2.1 j12.2.2.2.2.2.2.1).bind λx13=>cond (decide (x13.kind=3)) (cond j12.2.2.1 (some (j12.1,j12.2.1,j12.2.2.1,j12.2.2.2.1,(j12.2.2.2.2.1.1,()),j12.2.2.2.2.2.1,j12.2.2.2.2.2.2.1,true,())) ((getI j12.2.2.2.1 j12.2.2.2.2.2.2.1).bind λx14=>some (j12.1,j12.2.1,j12.2.2.1,j12.2.2.2.1,(j12.2.2.2.2.1.1,()),j12.2.2.2.2.2.1,j12.2.2.2.2.2.2.1,decide (x14.kind=4),()))) ((getI j12.2.2.2.1 j12.2.2.2.2.2.2.1).bind λx15=>some (j12.1,j12.2.1,j12.2.2.1,j12.2.2.2.1,(j12.2.2.2.2.1.1,()),j12.2.2.2.2.2.1,j12.2.2.2.2.2.2.1,decide (x15.kind=4),()))).bind λj16=>cond j16.2.2.2.2.2.2.2.1 (some (Qd (Qb (({},()),20,())))) ((getI j16.2.2.2.1 j16.2.2.2.2.2.2.1).bind λx17=>cond (decide (x17.kind=5)) (some (Qd (Qb (({},()),21,())))) (some (Qb (j16.1,j16.2.1,j16.2.2.1,j16.2.2.2.1,(j16.2.2.2.2.1.1,()),j16.2.2.2.2.2.1,Qa .i64 (j16.2.2.2.2.2.2.1+1),())))))))) (some (Qd (Qd (y0,y1,y2,y3,(y4.1,()),y5,()))))
def Zdz_L2:=Yi7 Zdz_L2b
def Zdz_L0b(y0:Int)(y1 y2:Bool)(y3:List Jl)(y4:Jn×Unit)(y5:Int):Option ((Int×Bool×Bool×(List (Jl))×(Jn×Unit)×Int×Unit)⊕(((Jn×Unit)×Int×Unit)⊕((Jn×Unit)×Unit))):=
 let v3:Int:=cond (decide (1099511627776<Qa .i64 (y0+30))) 1099511627776 (Qa .i64 (y0+30));cond (decide (y5<=v3)) ((Zdz_L2 (y0,y1,y2,y3,(y4.1,()),y5,0,())).bind (Qh (λz4=>some (Qd (Qb ((z4.1.1,()),z4.2.1,())))) (λz5=>some (Qb (z5.1,z5.2.1,z5.2.2.1,z5.2.2.2.1,(z5.2.2.2.2.1.1,()),Qa .i64 (z5.2.2.2.2.2.1+1),()))))) (some (Qd (Qd ((y4.1,()),()))))
def Zdz_L0:=Yi6 Zdz_L0b
def Zdz(a0:Int)(a1 a2:Bool)(a3:List Jl):O2 Jn Int:=
 (cond (decide (a0<0)) ((ru ({}:Jn) (9:Int)).bind λq=>some (Qd q)) (cond (decide (1099511627776<a0)) ((ru ({}:Jn) (9:Int)).bind λq=>some (Qd q)) (some (Qb (a0,a1,a2,a3,(({}:Jn),()),()))))).bind (Qh (λj1=>(cond j1.2.2.1 (cond (!j1.2.1) ((ru ({}:Jn) (23:Int)).bind λq=>some (Qd q)) (some (Qb (j1.1,j1.2.1,j1.2.2.1,j1.2.2.2.1,(j1.2.2.2.2.1.1,()),())))) (some (Qb (j1.1,j1.2.1,j1.2.2.1,j1.2.2.2.1,(j1.2.2.2.2.1.1,()),())))).bind (Qh (λj2=>(Zdz_L0 (j2.1,j2.2.1,j2.2.2.1,j2.2.2.2.1,(j2.2.2.2.2.1.1,()),Qa .i64 (j2.1+1),())).bind (Qh (λz6=>ru z6.1.1 z6.2.1) (λz7=>some ((),{},19,())))) some)) some)
def c149:=ct c148 255 [qc,qs,qs,qaa] [(.v (.agg 32)),qa] (u4 Zdz)
def s_Zdz_L2:LSpec T:=⟨[(0,qc),(1,qs),(2,qs),(3,qaa),(8,qq),(10,qc),(11,qc)],[(.ret,[(8,qq),(9,qc)]),(.exit 2,[(0,qc),(1,qs),(2,qs),(3,qaa),(8,qq),(10,qc)])],Zdz_L2,[]⟩
def s_Zdz_L0:LSpec T:=⟨[(0,qc),(1,qs),(2,qs),(3,qaa),(8,qq),(10,qc)],[(.ret,[(8,qq),(9,qc)]),(.exit 0,[(8,qq)])],Zdz_L0,[]⟩
def A_Zdz:Loc2 T:=lcA [(2,s_Zdz_L2),(0,s_Zdz_L0)] [(3,[(0,qc),(1,qs),(2,qs),(3,qaa),(8,qq)],false),(5,[(0,qc),(1,qs),(2,qs),(3,qaa),(8,qq)],false),(13,[(0,qc),(1,qs),(2,qs),(3,qaa),(8,qq),(10,qc),(11,qc),(12,qs)],true),(14,[(0,qc),(1,qs),(2,qs),(3,qaa),(8,qq),(10,qc),(11,qc),(78,qs)],true),(16,[(0,qc),(1,qs),(2,qs),(3,qaa),(8,qq),(10,qc),(11,qc),(86,qs)],true),(18,[(0,qc),(1,qs),(2,qs),(3,qaa),(8,qq),(10,qc),(11,qc),(98,qs)],true)]
theorem Vma:LO c149 Tryz.f255 2 s_Zdz_L2:=lx o148 A_Zdz dn (λ_=>rfl)
theorem Vua:LO c149 Tryz.f255 0 s_Zdz_L0:=lx o148 A_Zdz (dc rfl Vma dn) (λ_=>rfl)
theorem o149:EO c149:=sx o148 A_Zdz Tryz.func255 (dc rfl Vma (dc rfl Vua dn))
def Zax(a0:Je×Unit)(a1:Bool):Option (((Je×Unit)×Unit)×Jn×Unit):=
 cond (!(decide (a0.1.err=0))) (some (((a0.1,()),()),{},())) ((Zdz a0.1.d.now a0.1.d.jl.jal a1 a0.1.g).bind λr1=>cond (decide (r1.2.2.1=0)) ((Zbj ({a0.1 with d:={a0.1.d with now:=r1.2.1.at_}},()) r1.2.2.1).bind λr2=>some (((r2.1.1.1,()),()),r1.2.1,())) ((Zbj (a0.1,()) r1.2.2.1).bind λr3=>some (((r3.1.1.1,()),()),r1.2.1,())))
def c150:=cf c149 191 [ql,qs] [(.v (.agg 32))] (u2 Zax)
theorem o150:EO c150:=sx o149 (lcA [] []) Tryz.func191 dn
def Zbi(a0:Je×Unit):Option (((Je×Unit)×Unit)×Ub×Unit):=
 (Zfl a0.1.d).bind λr1=>some ((({a0.1 with d:=r1.2.1},()),()),r1.2.2.1,())
def c151:=cf c150 196 [ql] [qr] (u1 Zbi)
theorem o151:EO c151:=sz o150 Tryz.func196
def Zad_L0b(y0 y1:List Ja)(y2:Int):Option (((List (Ja))×(List (Ja))×Int×Unit)⊕((List (Ja))×Unit)):=
 cond (decide (y2<y0.length)) ((Zdg (Qc 64 (Qa .i64 (y2+1)))).bind λr13=>cond (decide (0<=y2)&&decide (y2<y0.length)) (y0[y2.toNat]?.bind λx14=>cond (small (y1.length+([r13.2.1,x14]).length) 32) (let v15:=y1++[r13.2.1,x14];some (Qb (y0,v15,Qa .i64 (y2+1),()))) none) none) (some (Qd (y1,())))
def Zad_L0:=Yi3 Zad_L0b
def Zad(a0:Jg):O2 Ua Int:=
 (Zaa a0).bind λr1=>cond (!(decide (r1.2.1=0))) (ru [] r1.2.1) ((Zfi a0.rP).bind λr2=>(Zff a0.user).bind λr3=>(Zfi a0.name).bind λr4=>(Zdg a0.jah).bind λr5=>(Zdg (Qc 64 a0.jc)).bind λr6=>(Zck a0.je).bind λr7=>(Zdg (Qc 64 a0.jd)).bind λr8=>(Zck a0.jm).bind λr9=>(Zck a0.jai).bind λr10=>let v11:List Ja:=[r2.2.1,r3.2.1,r4.2.1,r5.2.1,r6.2.1,r7.2.1,r8.2.1,r9.2.1,r10.2.1];let v12:List Ja:=[⟨6,9#64,[]⟩];(Zad_L0 (v11,v12,0,())).bind λz16=>(Zek z16.1).bind λr17=>ru r17.2.1 r17.2.2.1)
def c152:=cf c151 103 [(.f qak)] [qk,qa] (u1 Zad)
def s_Zad_L0:LSpec T:=⟨[(5,qau),(6,qau),(7,qc)],[(.exit 0,[(6,qau)])],Zad_L0,[]⟩
def A_Zad:Loc2 T:=lcA [(0,s_Zad_L0)] []
theorem Vub:LO c152 Tryz.f103 0 s_Zad_L0:=lx o151 A_Zad dn (λ_=>rfl)
theorem o152:EO c152:=sx o151 A_Zad Tryz.func103 (dc rfl Vub dn)
def Zcl(a0:Ub):O1 Ub:=
 (Zej a0 [119,114,97,112] 0).bind λr1=>rt r1.2.1
def c153:=ct c152 259 [qd] [qr] (u1 Zcl)
theorem o153:EO c153:=sz o152 Tryz.func259
def Zdd(a0:Ua):O1 Ub:=
 (Zgt 9 a0).bind λr1=>rt r1.2.1
def c154:=ct c153 201 [qas] [qr] (u1 Zdd)
theorem o154:EO c154:=sz o153 Tryz.func201
def Zhu(a0 a1:Ub)(a2:Jg):O2 Ua Int:=
 (Zad a2).bind λr1=>cond (!(decide (r1.2.2.1=0))) (ru [] r1.2.2.1) (cond a2.je ((Zej a2.jah [105,100] 0).bind λr2=>(Zeq r2.2.1 0#64 176).bind λr3=>ru r3.2.1 0) (let v4:=Qm 160 (0:UInt8);cond (decide ((r1.2.1:Ua).length<=v4.length)) (let v5:=r1.2.1++Qk (r1.2.1:Ua).length v4;(Zcl a0).bind λr6=>(Zdd a2.rP).bind λr7=>(passkeyref1_Words [r7.2.1]).bind λr8=>(Zha r6.2.1 a1 r8.2.1 v5).bind λr9=>ru r9.2.1 r9.2.2.1) none))
def c155:=cf c154 197 [qd,qd,(.f qak)] [qk,qa] (u3 Zhu)
theorem o155:EO c155:=sz o154 Tryz.func197
def Zgm(a0:Ua):O1 Ub:=
 (Zgt 10 a0).bind λr1=>rt r1.2.1
def c156:=ct c155 257 [qg] [qr] (u1 Zgm)
theorem o156:EO c156:=sz o155 Tryz.func257
def Zbb_L1b(y0:Ua×Int×List Ja×Unit)(y1:Ja×Unit)(y2 y3:Int)(y4:Ub)(y5:Int):Option (((Ua×Int×(List (Ja))×Unit)×(Ja×Unit)×Int×Int×Ub×Int×Unit)⊕((Ua×Int×(List (Ja))×Unit)×(Ja×Unit)×Int×Int×Ub×Unit)):=
 cond (decide (y5<y3)) (let v12:=Qa .i64 (Qa .i64 (y0.2.1+1)+y5);(getI y0.1 v12).bind λx13=>some (Qb ((y0.1,y0.2.1,y0.2.2.1,()),(y1.1,()),y2,y3,y4<<<8|||Qg 64 x13.toBitVec,Qa .i64 (y5+1),()))) (some (Qd ((y0.1,y0.2.1,y0.2.2.1,()),(y1.1,()),y2,y3,y4,())))
def Zbb_L1:=Yi6 Zbb_L1b
def Zbb(a0:Ua×Int×List Ja×Unit):Option (((Ua×Int×List Ja×Unit)×Unit)×Ja×Int×Unit):=
 cond (decide (a0.1.length<=a0.2.1)) (some (((a0.1,a0.2.1,a0.2.2.1,()),()),{},1,())) ((getI a0.1 a0.2.1).bind λx1=>(cond (decide (x1.toBitVec=(244:UInt8).toBitVec)) (cond (decide (x1.toBitVec=(244:UInt8).toBitVec)) (let v2:=Qg 64 (Qe (x1.toBitVec-(244:UInt8).toBitVec)).toBitVec;(some (((a0.1,Qa .i64 (a0.2.1+1),a0.2.2.1,()),()),(⟨7,v2,[]⟩:Ja),(0:Int),())).bind λq=>some (Qd q)) (cond (decide (x1.toBitVec=(246:UInt8).toBitVec)) ((some (((a0.1,Qa .i64 (a0.2.1+1),a0.2.2.1,()),()),({kind:=8}:Ja),(0:Int),())).bind λq=>some (Qd q)) (some (Qb ((a0.1,a0.2.1,a0.2.2.1,()),(({}:Ja),()),x1,()))))) (cond (decide (x1.toBitVec=(245:UInt8).toBitVec)) (let v3:=Qg 64 (Qe (x1.toBitVec-(244:UInt8).toBitVec)).toBitVec;(some (((a0.1,Qa .i64 (a0.2.1+1),a0.2.2.1,()),()),(⟨7,v3,[]⟩:Ja),(0:Int),())).bind λq=>some (Qd q)) (cond (decide (x1.toBitVec=(246:UInt8).toBitVec)) ((some (((a0.1,Qa .i64 (a0.2.1+1),a0.2.2.1,()),()),({kind:=8}:Ja),(0:Int),())).bind λq=>some (Qd q)) (some (Qb ((a0.1,a0.2.1,a0.2.2.1,()),(({}:Ja),()),x1,())))))).bind (Qh (λj4=>let v5:=((Qe (j4.2.2.1.toBitVec>>>5)).toBitVec.toNat:Int);let v6:=Qe (j4.2.2.1.toBitVec&&&(31:UInt8).toBitVec);cond (decide (5<v5)) (some (((j4.1.1,j4.1.2.1,j4.1.2.2.1,()),()),{},2,())) (cond (decide (27<(v6.toBitVec.toNat:Int))) (some (((j4.1.1,j4.1.2.1,j4.1.2.2.1,()),()),{},2,())) ((cond (decide (24<=(v6.toBitVec.toNat:Int))) (let v7:=Qc 64 (Qa .i64 ((v6.toBitVec.toNat:Int)-24));let v8:=Qa .i64 (1*2^min v7.toNat (Qf .i64));some ((j4.1.1,j4.1.2.1,j4.1.2.2.1,()),(j4.2.1.1,()),v5,(v6.toBitVec.toNat:Int),v8,())) (some ((j4.1.1,j4.1.2.1,j4.1.2.2.1,()),(j4.2.1.1,()),v5,(v6.toBitVec.toNat:Int),(0:Int),()))).bind λj9=>let v10:=Qa .i64 (Qa .i64 ((j9.1.1.length:Int)-j9.1.2.1)-1);cond (decide (v10<j9.2.2.2.2.1)) (some (((j9.1.1,j9.1.2.1,j9.1.2.2.1,()),()),{},1,())) ((cond (decide (0<j9.2.2.2.2.1)) (some ((j9.1.1,j9.1.2.1,j9.1.2.2.1,()),(j9.2.1.1,()),j9.2.2.1,j9.2.2.2.2.1,0#64,())) (some ((j9.1.1,j9.1.2.1,j9.1.2.2.1,()),(j9.2.1.1,()),j9.2.2.1,j9.2.2.2.2.1,Qc 64 j9.2.2.2.1,()))).bind λj11=>(Zbb_L1 ((j11.1.1,j11.1.2.1,j11.1.2.2.1,()),(j11.2.1.1,()),j11.2.2.1,j11.2.2.2.1,j11.2.2.2.2.1,0,())).bind λz14=>let v15:List Ub:=[0#64,24#64,256#64,0#64,65536#64,0#64,0#64,0#64,4294967296#64];cond (decide (0<=z14.2.2.2.1)&&decide (z14.2.2.2.1<9)) (v15[z14.2.2.2.1.toNat]?.bind λx16=>cond (decide (z14.2.2.2.2.1.toNat<x16.toNat)) (some (((z14.1.1,z14.1.2.1,z14.1.2.2.1,()),()),{},2,())) (let v17:=Qa .i64 (z14.1.2.1+Qa .i64 (1+z14.2.2.2.1));let v18:List Int:=[1,2,3,4,5,6];cond (decide (0<=z14.2.2.1)&&decide (z14.2.2.1<6)) (v18[z14.2.2.1.toNat]?.bind λx19=>some (((z14.1.1,v17,z14.1.2.2.1,()),()),⟨x19,z14.2.2.2.2.1,[]⟩,0,())) none)) none)))) some))
def S_Zbb:FSpec T:=⟨[qao],[qv,qa],λx=>Zbb x.1⟩
def s_Zbb_L1:LSpec T:=⟨[(0,qao),(2,qar),(5,qc),(7,qc),(8,qd),(9,qc)],[(.exit 1,[(0,qao),(2,qar),(5,qc),(7,qc),(8,qd)])],Zbb_L1,[]⟩
def A_Zbb:Loc2 T:=lcA [(1,s_Zbb_L1)] [(12,[(0,qao),(2,qar),(4,qa0)],false),(18,[(0,qao),(2,qar),(5,qc),(6,qc),(7,qc)],true),(23,[(0,qao),(2,qar),(5,qc),(7,qc),(8,qd)],true)]
theorem Vuc:LoopOk Tryz.prog (mE c156) Tryz.f154.ntmps (kqOf S_Zbb.ps 0) (loopAt 1 (bodyOf Tryz.f154)) s_Zbb_L1:=
 lpC hmix o156 A_Zbb Vag 1 (st:=λy=>Zbb_L1b y.1 y.2.1 y.2.2.1 y.2.2.2.1 y.2.2.2.2.1 y.2.2.2.2.2.1) (λ_=>rfl) (by kernel_rfl) (by kernel_rfl) λx=>by kernel_rfl
theorem Vb2a:SoundT Tryz.prog cd gdn 154 S_Zbb:=
 sndC hmix o156 A_Zbb Tryz.func154 (Vbx rfl Vuc Vag) (by kernel_rfl) (by kernel_rfl) λx=>by kernel_rfl
def c157:List (Ct T):=⟨154,none,S_Zbb,false⟩::c156
theorem o157:EnvOk Tryz.prog (mE c157):=eCons Vb2a o156
def Zbc_L1b(k_rec:Ua×Int×List Ja×Unit->Int->Bool->Ua->Option (((Ua×Int×List Ja×Unit)×Unit)×Int×Unit))(y0:Ua×Int×List Ja×Unit)(y1:Int)(y2:Ja×Unit)(y3:Ub)(y4:Bool)(y5:Ua)(y6:Ub):Option ((Ua×Int×List Ja×Unit)×Int×(Ja×Unit)×Ub×Bool×Ua×Ub×Unit⊕(Ua×Int×List Ja×Unit)×Int×Unit⊕(Ua×Int×List Ja×Unit)×Unit):=
 cond y4 (cond (decide (y6.toNat<y3.toNat)) (cond (decide (y2.1.kind=6)) ((k_rec (y0.1,y0.2.1,y0.2.2.1,()) (Qa .i64 (y1+1)) true y5).bind λr18=>cond (!(decide (r18.2.1=0))) (some (Qd (Qb ((r18.1.1.1,r18.1.1.2.1,r18.1.1.2.2.1,()),r18.2.1,())))) (cond (decide (0<=(y0.2.2.1.length:Int))&&decide ((y0.2.2.1.length:Int)<(r18.1.1.2.2.1.length:Int))) (r18.1.1.2.2.1[(y0.2.2.1.length:Int).toNat]?.bind λx19=>(Zfq x19).bind λr20=>(k_rec (r18.1.1.1,r18.1.1.2.1,r18.1.1.2.2.1,()) (Qa .i64 (y1+1)) false ([]:Ua)).bind λr21=>cond (!(decide (r21.2.1=0))) (some (Qd (Qb ((r21.1.1.1,r21.1.1.2.1,r21.1.1.2.2.1,()),r21.2.1,())))) (some (Qb ((r21.1.1.1,r21.1.1.2.1,r21.1.1.2.2.1,()),y1,(y2.1,()),y3,y4,r20.2.1,y6+1#64,())))) none)) ((k_rec (y0.1,y0.2.1,y0.2.2.1,()) (Qa .i64 (y1+1)) false ([]:Ua)).bind λr22=>cond (!(decide (r22.2.1=0))) (some (Qd (Qb ((r22.1.1.1,r22.1.1.2.1,r22.1.1.2.2.1,()),r22.2.1,())))) (some (Qb ((r22.1.1.1,r22.1.1.2.1,r22.1.1.2.2.1,()),y1,(y2.1,()),y3,y4,y5,y6+1#64,()))))) (some (Qd (Qd ((y0.1,y0.2.1,y0.2.2.1,()),()))))) (some (Qd (Qd ((y0.1,y0.2.1,y0.2.2.1,()),()))))
def Zbc_L1(k_rec:Ua×Int×List Ja×Unit->Int->Bool->Ua->Option (((Ua×Int×List Ja×Unit)×Unit)×Int×Unit))(y:(Ua×Int×List Ja×Unit)×Int×(Ja×Unit)×Ub×Bool×Ua×Ub×Unit):Option ((Ua×Int×List Ja×Unit)×Int×Unit⊕(Ua×Int×List Ja×Unit)×Unit):=
 iter (λ(y:(Ua×Int×List Ja×Unit)×Int×(Ja×Unit)×Ub×Bool×Ua×Ub×Unit)=>Zbc_L1b k_rec y.1 y.2.1 y.2.2.1 y.2.2.2.1 y.2.2.2.2.1 y.2.2.2.2.2.1 y.2.2.2.2.2.2.1) rounds y
def Zbc_R(k_rec:Ua×Int×List Ja×Unit->Int->Bool->Ua->Option (((Ua×Int×List Ja×Unit)×Unit)×Int×Unit))(a0:Ua×Int×List Ja×Unit)(a1:Int)(a2:Bool)(a3:Ua):Option (((Ua×Int×List Ja×Unit)×Unit)×Int×Unit):=
 (Zbb (a0.1,a0.2.1,a0.2.2.1,())).bind λr1=>cond (!(decide (r1.2.2.1=0))) (some (((r1.1.1.1,r1.1.1.2.1,r1.1.1.2.2.1,()),()),r1.2.2.1,())) ((cond (decide (r1.2.1.kind=3)) (some ((r1.1.1.1,r1.1.1.2.1,r1.1.1.2.2.1,()),a1,a2,a3,(r1.2.1,()),r1.2.1.number,true,())) (some ((r1.1.1.1,r1.1.1.2.1,r1.1.1.2.2.1,()),a1,a2,a3,(r1.2.1,()),r1.2.1.number,decide (r1.2.1.kind=4),()))).bind λj2=>(cond (decide (j2.2.2.2.2.1.1.kind=5)) (some ((j2.1.1,j2.1.2.1,j2.1.2.2.1,()),j2.2.1,j2.2.2.1,j2.2.2.2.1,(j2.2.2.2.2.1.1,()),j2.2.2.2.2.2.1,j2.2.2.2.2.2.2.1,true,())) (some ((j2.1.1,j2.1.2.1,j2.1.2.2.1,()),j2.2.1,j2.2.2.1,j2.2.2.2.1,(j2.2.2.2.2.1.1,()),j2.2.2.2.2.2.1,j2.2.2.2.2.2.2.1,decide (j2.2.2.2.2.1.1.kind=6),()))).bind λj3=>cond (decide (512<=(j3.1.2.2.1.length:Int))) (some (((j3.1.1,j3.1.2.1,j3.1.2.2.1,()),()),8,())) ((cond j3.2.2.1 ((Zfs j3.2.2.2.2.1.1.kind).bind λr4=>some ((j3.1.1,j3.1.2.1,j3.1.2.2.1,()),j3.2.1,j3.2.2.1,j3.2.2.2.1,(j3.2.2.2.2.1.1,()),j3.2.2.2.2.2.1,j3.2.2.2.2.2.2.1,j3.2.2.2.2.2.2.2.1,!r4.2.1,())) (some ((j3.1.1,j3.1.2.1,j3.1.2.2.1,()),j3.2.1,j3.2.2.1,j3.2.2.2.1,(j3.2.2.2.2.1.1,()),j3.2.2.2.2.2.1,j3.2.2.2.2.2.2.1,j3.2.2.2.2.2.2.2.1,false,()))).bind λj5=>cond j5.2.2.2.2.2.2.2.2.1 (some (((j5.1.1,j5.1.2.1,j5.1.2.2.1,()),()),3,())) (cond (decide (8<j5.2.1)) (some (((j5.1.1,j5.1.2.1,j5.1.2.2.1,()),()),5,())) ((cond j5.2.2.2.2.2.2.1 (cond (decide ((1024#64).toNat<j5.2.2.2.2.2.1.toNat)) (some ((j5.1.1,j5.1.2.1,j5.1.2.2.1,()),j5.2.1,j5.2.2.1,j5.2.2.2.1,(j5.2.2.2.2.1.1,()),j5.2.2.2.2.2.1,j5.2.2.2.2.2.2.1,j5.2.2.2.2.2.2.2.1,true,())) (cond j5.2.2.2.2.2.2.2.1 (some ((j5.1.1,j5.1.2.1,j5.1.2.2.1,()),j5.2.1,j5.2.2.1,j5.2.2.2.1,(j5.2.2.2.2.1.1,()),j5.2.2.2.2.2.1,j5.2.2.2.2.2.2.1,j5.2.2.2.2.2.2.2.1,decide ((512#64).toNat<j5.2.2.2.2.2.1.toNat),())) (some ((j5.1.1,j5.1.2.1,j5.1.2.2.1,()),j5.2.1,j5.2.2.1,j5.2.2.2.1,(j5.2.2.2.2.1.1,()),j5.2.2.2.2.2.1,j5.2.2.2.2.2.2.1,j5.2.2.2.2.2.2.2.1,false,())))) (cond j5.2.2.2.2.2.2.2.1 (some ((j5.1.1,j5.1.2.1,j5.1.2.2.1,()),j5.2.1,j5.2.2.1,j5.2.2.2.1,(j5.2.2.2.2.1.1,()),j5.2.2.2.2.2.1,j5.2.2.2.2.2.2.1,j5.2.2.2.2.2.2.2.1,decide ((512#64).toNat<j5.2.2.2.2.2.1.toNat),())) (some ((j5.1.1,j5.1.2.1,j5.1.2.2.1,()),j5.2.1,j5.2.2.1,j5.2.2.2.1,(j5.2.2.2.2.1.1,()),j5.2.2.2.2.2.1,j5.2.2.2.2.2.2.1,j5.2.2.2.2.2.2.2.1,false,())))).bind λj6=>cond j6.2.2.2.2.2.2.2.2.1 (some (((j6.1.1,j6.1.2.1,j6.1.2.2.1,()),()),8,())) ((cond j6.2.2.2.2.2.2.1 (let v7:=Qc 64 (Qa .i64 ((j6.1.1.length:Int)-j6.1.2.1));some ((j6.1.1,j6.1.2.1,j6.1.2.2.1,()),j6.2.1,j6.2.2.1,j6.2.2.2.1,(j6.2.2.2.2.1.1,()),j6.2.2.2.2.2.1,j6.2.2.2.2.2.2.1,j6.2.2.2.2.2.2.2.1,decide (v7.toNat<j6.2.2.2.2.2.1.toNat),())) (some ((j6.1.1,j6.1.2.1,j6.1.2.2.1,()),j6.2.1,j6.2.2.1,j6.2.2.2.1,(j6.2.2.2.2.1.1,()),j6.2.2.2.2.2.1,j6.2.2.2.2.2.2.1,j6.2.2.2.2.2.2.2.1,false,()))).bind λj8=>cond j8.2.2.2.2.2.2.2.2.1 (some (((j8.1.1,j8.1.2.1,j8.1.2.2.1,()),()),1,())) ((cond j8.2.2.2.2.2.2.1 (let v9:=Qa .i64 (j8.1.2.1+Qa .i64 (j8.2.2.2.2.2.1.toNat:Int));cond (decide (0<=v9)&&decide (v9<=j8.1.1.length)) (cond (decide (0<=j8.1.2.1)&&decide (j8.1.2.1<=v9.toNat)) (let v10:=Qa .i64 (j8.1.2.1+Qa .i64 (j8.2.2.2.2.2.1.toNat:Int));some ((j8.1.1,v10,j8.1.2.2.1,()),j8.2.1,j8.2.2.1,j8.2.2.2.1,((⟨j8.2.2.2.2.1.1.kind,0#64,Qk j8.1.2.1.toNat (Qj v9.toNat j8.1.1)⟩:Ja),()),j8.2.2.2.2.2.1,j8.2.2.2.2.2.2.2.1,())) none) none) (some ((j8.1.1,j8.1.2.1,j8.1.2.2.1,()),j8.2.1,j8.2.2.1,j8.2.2.2.1,(j8.2.2.2.2.1.1,()),j8.2.2.2.2.2.1,j8.2.2.2.2.2.2.2.1,()))).bind λj11=>(cond (decide (j11.2.2.2.2.1.1.kind=4)) ((Zhk j11.2.2.2.2.1.1.data).bind λr12=>some ((j11.1.1,j11.1.2.1,j11.1.2.2.1,()),j11.2.1,j11.2.2.1,j11.2.2.2.1,(j11.2.2.2.2.1.1,()),j11.2.2.2.2.2.1,j11.2.2.2.2.2.2.1,!r12.2.1,())) (some ((j11.1.1,j11.1.2.1,j11.1.2.2.1,()),j11.2.1,j11.2.2.1,j11.2.2.2.1,(j11.2.2.2.2.1.1,()),j11.2.2.2.2.2.1,j11.2.2.2.2.2.2.1,false,()))).bind λj13=>cond j13.2.2.2.2.2.2.2.1 (some (((j13.1.1,j13.1.2.1,j13.1.2.2.1,()),()),6,())) ((cond j13.2.2.1 (cond (!(decide (j13.2.2.2.1=([]:Ua)))) ((Zfq j13.2.2.2.2.1.1).bind λr14=>(Zgw j13.2.2.2.1 r14.2.1).bind λr15=>some ((j13.1.1,j13.1.2.1,j13.1.2.2.1,()),j13.2.1,(j13.2.2.2.2.1.1,()),j13.2.2.2.2.2.1,j13.2.2.2.2.2.2.1,!r15.2.1,())) (some ((j13.1.1,j13.1.2.1,j13.1.2.2.1,()),j13.2.1,(j13.2.2.2.2.1.1,()),j13.2.2.2.2.2.1,j13.2.2.2.2.2.2.1,false,()))) (some ((j13.1.1,j13.1.2.1,j13.1.2.2.1,()),j13.2.1,(j13.2.2.2.2.1.1,()),j13.2.2.2.2.2.1,j13.2.2.2.2.2.2.1,false,()))).bind λj16=>cond j16.2.2.2.2.2.1 (some (((j16.1.1,j16.1.2.1,j16.1.2.2.1,()),()),7,())) (cond (small (j16.1.2.2.1.length+([j16.2.2.1.1]).length) 32) (let v17:=j16.1.2.2.1++[j16.2.2.1.1];(Zbc_L1 k_rec ((j16.1.1,j16.1.2.1,v17,()),j16.2.1,(j16.2.2.1.1,()),j16.2.2.2.1,j16.2.2.2.2.1,[],0#64,())).bind (Qh (λz23=>some (((z23.1.1,z23.1.2.1,z23.1.2.2.1,()),()),z23.2.1,())) (λz24=>some (((z24.1.1,z24.1.2.1,z24.1.2.2.1,()),()),0,())))) none))))))))
abbrev ps_Zbc:List Slot:=[qao,qc,qs,qas]
abbrev rs_Zbc:List Fld:=[qa]
def E_Zbc(k_rec:(Ua×Int×(List (Ja))×Unit)->Int->Bool->Ua->Option Ybq):Env T:=⟨tab.find,cd,globs,flc,λf ds=>match f with
  |31=>some S_Zhk
  |88=>some S_Zfq
  |106=>some ⟨ps_Zbc,rs_Zbc,λx=>k_rec x.1 x.2.1 x.2.2.1 x.2.2.2.1⟩
  |154=>some S_Zbb
  |155=>some S_Zfs
  |156=>some S_Zgw
  |_=>none,λf=>match f with
  |31=>true
  |88=>true
  |155=>true
  |156=>true
  |_=>false⟩
def A_Zbc(k_rec:(Ua×Int×(List (Ja))×Unit)->Int->Bool->Ua->Option Ybq):Loc2 T:=⟨λid=>match id with
  |1=>some ⟨[(0,.ptr [(.v .str),(.v (.int .i64)),(.own 1)]),(1,.f (.v (.int .i64))),(9,.ptr [(.v (.agg 1))]),(11,.f (.v .u64)),(13,.f (.v .bool)),(14,.f (.v .str)),(15,.f (.v .u64))],[(.ret,[(0,.ptr [(.v .str),(.v (.int .i64)),(.own 1)]),(8,.f (.v (.int .i64)))]),(.exit 1,[(0,.ptr [(.v .str),(.v (.int .i64)),(.own 1)])])],Zbc_L1 k_rec,[]⟩
  |_=>none,λr=>match r with
  |6=>some ([(0,.ptr [(.v .str),(.v (.int .i64)),(.own 1)]),(1,.f (.v (.int .i64))),(2,.f (.v .bool)),(3,.f (.v .str)),(9,.ptr [(.v (.agg 1))]),(11,.f (.v .u64)),(12,.f (.v .bool))],true)
  |7=>some ([(0,.ptr [(.v .str),(.v (.int .i64)),(.own 1)]),(1,.f (.v (.int .i64))),(2,.f (.v .bool)),(3,.f (.v .str)),(9,.ptr [(.v (.agg 1))]),(11,.f (.v .u64)),(12,.f (.v .bool)),(13,.f (.v .bool))],true)
  |10=>some ([(0,.ptr [(.v .str),(.v (.int .i64)),(.own 1)]),(1,.f (.v (.int .i64))),(2,.f (.v .bool)),(3,.f (.v .str)),(9,.ptr [(.v (.agg 1))]),(11,.f (.v .u64)),(12,.f (.v .bool)),(13,.f (.v .bool)),(52,.f (.v .bool))],true)
  |14=>some ([(0,.ptr [(.v .str),(.v (.int .i64)),(.own 1)]),(1,.f (.v (.int .i64))),(2,.f (.v .bool)),(3,.f (.v .str)),(9,.ptr [(.v (.agg 1))]),(11,.f (.v .u64)),(12,.f (.v .bool)),(13,.f (.v .bool)),(63,.f (.v .bool))],true)
  |16=>some ([(0,.ptr [(.v .str),(.v (.int .i64)),(.own 1)]),(1,.f (.v (.int .i64))),(2,.f (.v .bool)),(3,.f (.v .str)),(9,.ptr [(.v (.agg 1))]),(11,.f (.v .u64)),(12,.f (.v .bool)),(13,.f (.v .bool)),(76,.f (.v .bool))],true)
  |20=>some ([(0,.ptr [(.v .str),(.v (.int .i64)),(.own 1)]),(1,.f (.v (.int .i64))),(2,.f (.v .bool)),(3,.f (.v .str)),(9,.ptr [(.v (.agg 1))]),(11,.f (.v .u64)),(13,.f (.v .bool))],true)
  |21=>some ([(0,.ptr [(.v .str),(.v (.int .i64)),(.own 1)]),(1,.f (.v (.int .i64))),(2,.f (.v .bool)),(3,.f (.v .str)),(9,.ptr [(.v (.agg 1))]),(11,.f (.v .u64)),(13,.f (.v .bool)),(129,.f (.v .bool))],true)
  |23=>some ([(0,.ptr [(.v .str),(.v (.int .i64)),(.own 1)]),(1,.f (.v (.int .i64))),(9,.ptr [(.v (.agg 1))]),(11,.f (.v .u64)),(13,.f (.v .bool)),(141,.f (.v .bool))],true)
  |_=>none⟩
theorem Vud(k_rec:(Ua×Int×(List (Ja))×Unit)->Int->Bool->Ua->Option Ybq)(y0:(Ua×Int×(List (Ja))×Unit))(y1:Int)(y2:(Ja×Unit))(y3:Ub)(y4:Bool)(y5:Ua)(y6:Ub):run (E_Zbc k_rec) (A_Zbc k_rec) (loopAt 1 (Tryz.f106.body.getD .skip)) (layC cd [(0,.ptr [(.v .str),(.v (.int .i64)),(.own 1)]),(1,.f (.v (.int .i64))),(9,.ptr [(.v (.agg 1))]),(11,.f (.v .u64)),(13,.f (.v .bool)),(14,.f (.v .str)),(15,.f (.v .u64))] [] (y0,y1,y2,y3,y4,y5,y6,())) (roundK cd [(0,.ptr [(.v .str),(.v (.int .i64)),(.own 1)]),(1,.f (.v (.int .i64))),(9,.ptr [(.v (.agg 1))]),(11,.f (.v .u64)),(13,.f (.v .bool)),(14,.f (.v .str)),(15,.f (.v .u64))] [] [(.ret,[(0,.ptr [(.v .str),(.v (.int .i64)),(.own 1)]),(8,.f (.v (.int .i64)))]),(.exit 1,[(0,.ptr [(.v .str),(.v (.int .i64)),(.own 1)])])])=Zbc_L1b k_rec y0 y1 y2 y3 y4 y5 y6:=by kernel_rfl
theorem Vdka(k_rec:(Ua×Int×(List (Ja))×Unit)->Int->Bool->Ua->Option Ybq)(x:tySs T ps_Zbc):run (E_Zbc k_rec) (A_Zbc k_rec) (Tryz.f106.body.getD .skip) (enterT (E_Zbc k_rec).C ps_Zbc x) (retK (E_Zbc k_rec) Tryz.f106.results.toList ps_Zbc rs_Zbc)=Zbc_R k_rec x.1 x.2.1 x.2.2.1 x.2.2.2.1:=by kernel_rfl
def Zbc_n:Nat->(Ua×Int×(List (Ja))×Unit)->Int->Bool->Ua->Option Ybq
 |0=>λ_ _ _ _=>none
 |n+1=>Zbc_R (Zbc_n n)
def Zbc(a0:(Ua×Int×(List (Ja))×Unit))(a1:Int)(a2:Bool)(a3:Ua):=Zbc_n 12 a0 a1 a2 a3
def S_Zbc:FSpec T:=⟨ps_Zbc,rs_Zbc,λx=>Zbc x.1 x.2.1 x.2.2.1 x.2.2.2.1⟩
theorem Vue(k_rec:(Ua×Int×(List (Ja))×Unit)->Int->Bool->Ua->Option Ybq)(hk:SoundT Tryz.prog cd gdn 106 ⟨ps_Zbc,rs_Zbc,λx=>k_rec x.1 x.2.1 x.2.2.1 x.2.2.2.1⟩):EnvOk Tryz.prog (E_Zbc k_rec):=envOk (E:=(E_Zbc k_rec)) cd_ok tys fl_ok λf ds S h=>by
  dsimp only[E_Zbc]at h;split at h
  ·cases h;exact Vbsa
  ·cases h;exact Vt8
  ·cases h;exact hk
  ·cases h;exact Vb2a
  ·cases h;exact Vbya
  ·cases h;exact Vbza
  ·cases h
theorem Vuf(k_rec:(Ua×Int×(List (Ja))×Unit)->Int->Bool->Ua->Option Ybq)(hk:SoundT Tryz.prog cd gdn 106 ⟨ps_Zbc,rs_Zbc,λx=>k_rec x.1 x.2.1 x.2.2.1 x.2.2.2.1⟩):LoopOk Tryz.prog (E_Zbc k_rec) Tryz.f106.ntmps (kqOf ps_Zbc 0) (loopAt 1 (Tryz.f106.body.getD .skip)) ⟨[(0,.ptr [(.v .str),(.v (.int .i64)),(.own 1)]),(1,.f (.v (.int .i64))),(9,.ptr [(.v (.agg 1))]),(11,.f (.v .u64)),(13,.f (.v .bool)),(14,.f (.v .str)),(15,.f (.v .u64))],[(.ret,[(0,.ptr [(.v .str),(.v (.int .i64)),(.own 1)]),(8,.f (.v (.int .i64)))]),(.exit 1,[(0,.ptr [(.v .str),(.v (.int .i64)),(.own 1)])])],Zbc_L1 k_rec,[]⟩:=
 Vic (A:=(A_Zbc k_rec)) (done:=[]) (c0:=(Tryz.f106.body.getD .skip)) hmix (Vue k_rec hk) Vag rounds (by kernel_rfl) (by kernel_rfl) (λx=>Vud k_rec x.1 x.2.1 x.2.2.1 x.2.2.2.1 x.2.2.2.2.1 x.2.2.2.2.2.1 x.2.2.2.2.2.2.1) (λ_=>rfl)
theorem Vnz:∀n:Nat,SoundT Tryz.prog cd gdn 106 ⟨ps_Zbc,rs_Zbc,λx=>Zbc_n n x.1 x.2.1 x.2.2.1 x.2.2.2.1⟩
 |0=>Vgj ⟨_,Tryz.func106,by kernel_rfl,by kernel_rfl⟩
 |n+1=>Vc2 (E:=E_Zbc (Zbc_n n)) (A:=A_Zbc (Zbc_n n)) (done:=[1]) (c:=(Tryz.f106.body.getD .skip)) (S:=⟨ps_Zbc,rs_Zbc,λx=>Zbc_n (n+1) x.1 x.2.1 x.2.2.1 x.2.2.2.1⟩) (fn:=Tryz.f106) hmix (Vue _ (Vnz n)) Tryz.func106 rfl (by kernel_rfl) (by kernel_rfl) (Vbx rfl (Vuf _ (Vnz n)) Vag) (by kernel_rfl) (by kernel_rfl) (Vdka (Zbc_n n))
theorem Vgma:SoundT Tryz.prog cd gdn 106 S_Zbc:=Vnz 12
def c158:List (Ct T):=⟨106,none,S_Zbc,false⟩::c157
theorem o158:EnvOk Tryz.prog (mE c158):=eCons Vgma o157
def Zei(a0:Ua):Option (Unit×List Ja×Int×Int×Unit):=
 (Zbc (a0,0,[],()) 0 false []).bind λr1=>cond (!(decide (r1.2.1=0))) (some ((),[],0,r1.2.1,())) (some ((),r1.1.1.2.2.1,r1.1.1.2.1,0,()))
def c159:=cf c158 64 [qg] [qae,qa,qa] (u1 Zei)
theorem o159:EO c159:=sz o158 Tryz.func64
def Zec(a0:Ub):O1 Int:=
 let v1:Ub:=cond (decide ((1048576#64).toNat<a0.toNat)) 1048576#64 a0;rt (Qa .i64 (v1.toNat:Int))
def c160:=ct c159 67 [qd] [qa] (u1 Zec)
theorem o160:EO c160:=sz o159 Tryz.func67
def Zfh(a0:Ua):Option (Unit×Jg×Int×Bool×Unit):=
 (Zei a0).bind λr1=>cond (!(decide (r1.2.2.2.1=0))) (some ((),{},0,false,())) (cond (!(decide ((r1.2.1.length:Int)=19))) (some ((),{},0,false,())) (cond (decide (2<(r1.2.1.length:Int))) (r1.2.1[2]?.bind λx2=>cond (decide (4<(r1.2.1.length:Int))) (r1.2.1[4]?.bind λx3=>cond (decide (6<(r1.2.1.length:Int))) (r1.2.1[6]?.bind λx4=>cond (decide (8<(r1.2.1.length:Int))) (r1.2.1[8]?.bind λx5=>cond (decide (10<(r1.2.1.length:Int))) (r1.2.1[10]?.bind λx6=>(Zec x6.number).bind λr7=>cond (decide (12<(r1.2.1.length:Int))) (r1.2.1[12]?.bind λx8=>cond (decide (14<(r1.2.1.length:Int))) (r1.2.1[14]?.bind λx9=>(Zec x9.number).bind λr10=>cond (decide (16<(r1.2.1.length:Int))) (r1.2.1[16]?.bind λx11=>cond (decide (18<(r1.2.1.length:Int))) (r1.2.1[18]?.bind λx12=>(Zad ⟨x2.data,x3.data,x4.data,x5.number,r7.2.1,decide (x8.number=1#64),r10.2.1,decide (x11.number=1#64),decide (x12.number=1#64)⟩).bind λr13=>cond (decide (r13.2.2.1=0)) (cond (decide (0<=r1.2.2.1)&&decide (r1.2.2.1<=a0.length)) (some ((),⟨x2.data,x3.data,x4.data,x5.number,r7.2.1,decide (x8.number=1#64),r10.2.1,decide (x11.number=1#64),decide (x12.number=1#64)⟩,r1.2.2.1,decide (r13.2.1=Qj r1.2.2.1.toNat a0),())) none) (some ((),⟨x2.data,x3.data,x4.data,x5.number,r7.2.1,decide (x8.number=1#64),r10.2.1,decide (x11.number=1#64),decide (x12.number=1#64)⟩,r1.2.2.1,false,()))) none) none) none) none) none) none) none) none) none))
def c161:=ct c160 283 [qg] [qak,qa,qf] (u1 Zfh)
theorem o161:EO c161:=sx o160 (lcA [] []) Tryz.func283 dn
def Zac(a0:Ua):O2 Jg Int:=
 (Zfh a0).bind λr1=>cond (!r1.2.2.2.1) (some ((),{},2,())) (cond (!(decide (r1.2.2.1=a0.length))) (some ((),{},2,())) (ru r1.2.1 0))
def c162:=ct c161 271 [qg] [qak,qa] (u1 Zac)
theorem o162:EO c162:=sz o161 Tryz.func271
def Zfp(a0:Jd)(a1:Int):O2 Jg Bool:=
 (Zic a0.jo (Qa .i64 (64+a1))).bind λr1=>(Zac r1.2.1).bind λr2=>ru r2.2.1 (decide (r2.2.2.1=0))
def c163:=ct c162 253 [qa4,qc] [qak,qf] (u2 Zfp)
theorem o163:EO c163:=sz o162 Tryz.func253
def Zfn(a0:Jg):O1 Ua:=
 (Zhu 0#64 0#64 a0).bind λr1=>rt r1.2.1
def c164:=cf c163 219 [(.f qak)] [qk] (u1 Zfn)
theorem o164:EO c164:=sz o163 Tryz.func219
def Zam(a0:Ua):O2 Jp Int:=
 cond (!(decide ((a0.length:Int)=11))) (some ((),{},2,())) (cond (decide (8<=(a0.length:Int))) ((Zgv (Qj 8 a0)).bind λr1=>(getI a0 (8:Int)).bind λx2=>(getI a0 (9:Int)).bind λx3=>(getI a0 (10:Int)).bind λx4=>(Zeb ⟨r1.2.1,(x2.toBitVec.toNat:Int),(x3.toBitVec.toNat:Int),(x4.toBitVec.toNat:Int)⟩).bind λr5=>cond (!r5.2.1) (some ((),{},2,())) (ru ⟨r1.2.1,(x2.toBitVec.toNat:Int),(x3.toBitVec.toNat:Int),(x4.toBitVec.toNat:Int)⟩ 0)) none)
def c165:=ct c164 270 [qg] [qbb,qa] (u1 Zam)
theorem o165:EO c165:=sx o164 (lcA [] []) Tryz.func270 dn
def Zeh(a0:Jd)(a1:Int):O2 Jp Bool:=
 (Zic a0.jo (Qa .i64 (16+a1))).bind λr1=>(Zam r1.2.1).bind λr2=>ru r2.2.1 (decide (r2.2.2.1=0))
def c166:=ct c165 220 [qa4,qc] [qbb,qf] (u2 Zeh)
theorem o166:EO c166:=sz o165 Tryz.func220
def Zdj_L0b(y0:Ua)(y1:Jd×Unit)(y2:Int):Option ((Ua×(Jd×Unit)×Int×Unit)⊕((Int×Bool×Unit)⊕(Unit))):=
 cond (decide (y2<16)) ((Zeh y1.1 y2).bind λr1=>cond r1.2.2.1 ((Zgm y0).bind λr2=>cond (decide (r1.2.1.tag=r2.2.1)) (some (Qd (Qb (y2,true,())))) (some (Qb (y0,(y1.1,()),Qa .i64 (y2+1),())))) (some (Qb (y0,(y1.1,()),Qa .i64 (y2+1),())))) (some (Qd (Qd ())))
def Zdj_L0:=Yi3 Zdj_L0b
def Zdj(a0:Jd)(a1:Ua):O2 Int Bool:=
 (Zdj_L0 (a1,(a0,()),1,())).bind (Qh (λz3=>ru z3.1 z3.2.1) (λz4=>ru 0 false))
def c167:=ct c166 193 [qa4,qg] [qa,qf] (u2 Zdj)
def s_Zdj_L0:LSpec T:=⟨[(1,qg),(2,qe),(6,qc)],[(.ret,[(4,qc),(5,qs)]),(.exit 0,[])],Zdj_L0,[]⟩
def A_Zdj:Loc2 T:=lcA [(0,s_Zdj_L0)] []
theorem Vug:LO c167 Tryz.f193 0 s_Zdj_L0:=lx o166 A_Zdj dn (λ_=>rfl)
theorem o167:EO c167:=sx o166 A_Zdj Tryz.func193 (dc rfl Vug dn)
def Zed(a0:Jd)(a1:List Jf)(a2:Int):Option (Unit×Jd×Int×Int×Unit):=
 cond (!a0.on) (some ((),a0,0,17,())) ((Zid a0.jo a1 a2).bind λr1=>cond (!(decide (r1.2.2.2.1=0))) ((Zdl a0 r1.2.1 r1.2.2.2.1).bind λr2=>some ((),r2.2.1,r2.2.2.1,r2.2.2.2.1,())) (some ((),{a0 with jo:=r1.2.1},r1.2.2.1,0,())))
def c168:=cf c167 258 [qa4,qn,qc] [qo,qa,qa] (u3 Zed)
theorem o168:EO c168:=sz o167 Tryz.func258
def Zgo_L0b(y0:Ua)(y1:Int)(y2:Jd×Unit)(y3:Jg×Unit)(y4:Jd×Unit)(y5:Ua)(y6:Jp×Unit)(y7 y8 y9:Int):Option ((Ua×Int×(Jd×Unit)×(Jg×Unit)×(Jd×Unit)×Ua×(Jp×Unit)×Int×Int×Int×Unit)⊕(Ua×Int×(Jd×Unit)×(Jg×Unit)×(Jd×Unit)×Ua×(Jp×Unit)×Int×Int×Unit)):=
 cond (decide (0<=y9)) (cond y3.1.je ((Zfp y2.1 y9).bind λr4=>cond (!r4.2.2.1) (some (Qb (y0,y1,(y2.1,()),(y3.1,()),(y4.1,()),y5,(y6.1,()),y9,y8,Qa .i64 (y9-1),()))) (some (Qb (y0,y1,(y2.1,()),(y3.1,()),(y4.1,()),y5,(y6.1,()),y7,y8,Qa .i64 (y9-1),())))) (some (Qd (y0,y1,(y2.1,()),(y3.1,()),(y4.1,()),y5,(y6.1,()),y7,y8,())))) (some (Qd (y0,y1,(y2.1,()),(y3.1,()),(y4.1,()),y5,(y6.1,()),y7,y8,())))
def Zgo_L0:=Yi10 Zgo_L0b
def Zgo_L2b(y0:Ua)(y1:Int)(y2:Jd×Unit)(y3:Jg×Unit)(y4:Jd×Unit)(y5:Ua)(y6:Jp×Unit)(y7 y8 y9:Int):Option ((Ua×Int×(Jd×Unit)×(Jg×Unit)×(Jd×Unit)×Ua×(Jp×Unit)×Int×Int×Int×Unit)⊕(Ua×Int×(Jd×Unit)×(Jg×Unit)×(Jd×Unit)×Ua×(Jp×Unit)×Int×Int×Unit)):=
 cond (decide (0<=y9)) (cond y3.1.je ((Zfp y2.1 y9).bind λr6=>cond r6.2.2.1 (cond (decide (r6.2.1.rP=y3.1.rP)) (cond (decide (r6.2.1.user=y3.1.user)) ((Zfn r6.2.1).bind λr7=>(Zdj y2.1 r7.2.1).bind λr8=>some (Qb (y0,y1,(y2.1,()),(y3.1,()),(y4.1,()),y5,(y6.1,()),y9,r8.2.1,Qa .i64 (y9-1),()))) (some (Qb (y0,y1,(y2.1,()),(y3.1,()),(y4.1,()),y5,(y6.1,()),y7,y8,Qa .i64 (y9-1),())))) (some (Qb (y0,y1,(y2.1,()),(y3.1,()),(y4.1,()),y5,(y6.1,()),y7,y8,Qa .i64 (y9-1),())))) (some (Qb (y0,y1,(y2.1,()),(y3.1,()),(y4.1,()),y5,(y6.1,()),y7,y8,Qa .i64 (y9-1),())))) (some (Qd (y0,y1,(y2.1,()),(y3.1,()),(y4.1,()),y5,(y6.1,()),y7,y8,())))) (some (Qd (y0,y1,(y2.1,()),(y3.1,()),(y4.1,()),y5,(y6.1,()),y7,y8,())))
def Zgo_L2:=Yi10 Zgo_L2b
def Zgo_L4b(y0:Int)(y1:Jd×Unit)(y2:Jg×Unit)(y3:Jd×Unit)(y4:Ua)(y5:Jp×Unit)(y6 y7 y8 y9:Int):Option ((Int×(Jd×Unit)×(Jg×Unit)×(Jd×Unit)×Ua×(Jp×Unit)×Int×Int×Int×Int×Unit)⊕(Int×(Jd×Unit)×(Jg×Unit)×(Jd×Unit)×Ua×(Jp×Unit)×Int×Int×Int×Unit)):=
 cond (decide (1<=y9)) ((Zeh y1.1 y9).bind λr11=>cond (!r11.2.2.1) (some (Qb (y0,(y1.1,()),(y2.1,()),(y3.1,()),y4,(y5.1,()),y6,y7,y9,Qa .i64 (y9-1),()))) (cond (decide (y9=y7)) (some (Qb (y0,(y1.1,()),(y2.1,()),(y3.1,()),y4,(y5.1,()),y6,y7,y9,Qa .i64 (y9-1),()))) (some (Qb (y0,(y1.1,()),(y2.1,()),(y3.1,()),y4,(y5.1,()),y6,y7,y8,Qa .i64 (y9-1),()))))) (some (Qd (y0,(y1.1,()),(y2.1,()),(y3.1,()),y4,(y5.1,()),y6,y7,y8,())))
def Zgo_L4:=Yi10 Zgo_L4b
def Zgo(a0:Jd)(a1:Jg)(a2:Ua)(a3 a4 a5 a6:Int):Option (Unit×Jd×Int×Int×Unit):=
 cond (!a0.on) (some ((),a0,0,17,())) ((Zad a1).bind λr1=>cond (!(decide (r1.2.2.1=0))) (some ((),a0,0,r1.2.2.1,())) ((Zgm a2).bind λr2=>(Zeb ⟨r2.2.1,a3,a4,a5⟩).bind λr3=>cond (!r3.2.1) (some ((),a0,0,9,())) ((Zgo_L0 (a2,a6,(a0,()),(a1,()),({},()),r1.2.1,(⟨r2.2.1,a3,a4,a5⟩,()),-1,0,7,())).bind λz5=>(Zgo_L2 (z5.1,z5.2.1,(z5.2.2.1.1,()),(z5.2.2.2.1.1,()),(z5.2.2.2.2.1.1,()),z5.2.2.2.2.2.1,(z5.2.2.2.2.2.2.1.1,()),z5.2.2.2.2.2.2.2.1,z5.2.2.2.2.2.2.2.2.1,7,())).bind λz9=>(Zdj z9.2.2.1.1 z9.1).bind λr10=>cond r10.2.2.1 (some ((),z9.2.2.1.1,0,10,())) ((Zgo_L4 (z9.2.1,(z9.2.2.1.1,()),(z9.2.2.2.1.1,()),(z9.2.2.2.2.1.1,()),z9.2.2.2.2.2.1,(z9.2.2.2.2.2.2.1.1,()),z9.2.2.2.2.2.2.2.1,z9.2.2.2.2.2.2.2.2.1,0,15,())).bind λz12=>cond (decide (z12.2.2.2.2.2.2.2.2.1=0)) (some ((),z12.2.1.1,0,12,())) (cond z12.2.2.1.1.je (cond (decide (z12.2.2.2.2.2.2.1<0)) (some ((),z12.2.1.1,0,12,())) ((cond z12.2.2.1.1.je (let v13:List Jf:=[⟨Qa .i64 (64+z12.2.2.2.2.2.2.1),z12.2.2.2.2.1⟩];cond (small v13.length 32) (some (z12.1,(z12.2.1.1,()),(z12.2.2.2.1.1,()),(z12.2.2.2.2.2.1.1,()),z12.2.2.2.2.2.2.2.1,z12.2.2.2.2.2.2.2.2.1,v13,())) none) (some (z12.1,(z12.2.1.1,()),(z12.2.2.2.1.1,()),(z12.2.2.2.2.2.1.1,()),z12.2.2.2.2.2.2.2.1,z12.2.2.2.2.2.2.2.2.1,[],()))).bind λj14=>(Zan j14.2.2.2.1.1).bind λr15=>let v16:List Jf:=[⟨Qa .i64 (16+j14.2.2.2.2.2.1),r15.2.1⟩];cond (small (j14.2.2.2.2.2.2.1.length+(v16:List Jf).length) 32) ((cond (!(decide (j14.2.2.2.2.1=0))) (cond (!(decide (j14.2.2.2.2.1=j14.2.2.2.2.2.1))) (let v17:List Jf:=[{key:=Qa .i64 (16+j14.2.2.2.2.1)}];cond (small ((j14.2.2.2.2.2.2.1++v16).length+(v17:List Jf).length) 32) (some (j14.1,(j14.2.1.1,()),(j14.2.2.1.1,()),j14.2.2.2.2.2.2.1++v16++v17,())) none) (some (j14.1,(j14.2.1.1,()),(j14.2.2.1.1,()),j14.2.2.2.2.2.2.1++v16,()))) (some (j14.1,(j14.2.1.1,()),(j14.2.2.1.1,()),j14.2.2.2.2.2.2.1++v16,()))).bind λj18=>(Zed j18.2.1.1 j18.2.2.2.1 j18.1).bind λr19=>some ((),r19.2.1,r19.2.2.1,r19.2.2.2.1,())) none)) ((cond z12.2.2.1.1.je (let v20:List Jf:=[⟨Qa .i64 (64+z12.2.2.2.2.2.2.1),z12.2.2.2.2.1⟩];cond (small v20.length 32) (some (z12.1,(z12.2.1.1,()),(z12.2.2.2.1.1,()),(z12.2.2.2.2.2.1.1,()),z12.2.2.2.2.2.2.2.1,z12.2.2.2.2.2.2.2.2.1,v20,())) none) (some (z12.1,(z12.2.1.1,()),(z12.2.2.2.1.1,()),(z12.2.2.2.2.2.1.1,()),z12.2.2.2.2.2.2.2.1,z12.2.2.2.2.2.2.2.2.1,[],()))).bind λj21=>(Zan j21.2.2.2.1.1).bind λr22=>let v23:List Jf:=[⟨Qa .i64 (16+j21.2.2.2.2.2.1),r22.2.1⟩];cond (small (j21.2.2.2.2.2.2.1.length+(v23:List Jf).length) 32) ((cond (!(decide (j21.2.2.2.2.1=0))) (cond (!(decide (j21.2.2.2.2.1=j21.2.2.2.2.2.1))) (let v24:List Jf:=[{key:=Qa .i64 (16+j21.2.2.2.2.1)}];cond (small ((j21.2.2.2.2.2.2.1++v23).length+(v24:List Jf).length) 32) (some (j21.1,(j21.2.1.1,()),(j21.2.2.1.1,()),j21.2.2.2.2.2.2.1++v23++v24,())) none) (some (j21.1,(j21.2.1.1,()),(j21.2.2.1.1,()),j21.2.2.2.2.2.2.1++v23,()))) (some (j21.1,(j21.2.1.1,()),(j21.2.2.1.1,()),j21.2.2.2.2.2.2.1++v23,()))).bind λj25=>(Zed j25.2.1.1 j25.2.2.2.1 j25.1).bind λr26=>some ((),r26.2.1,r26.2.2.1,r26.2.2.2.1,())) none))))))
def c169:=cf c168 198 [qa4,(.f qak),qg,qc,qc,qc,qc] [qo,qa,qa] λx=>Zgo x.1 x.2.1 x.2.2.1 x.2.2.2.1 x.2.2.2.2.1 x.2.2.2.2.2.1 x.2.2.2.2.2.2.1
def s_Zgo_L0:LSpec T:=⟨[(2,qg),(6,qc),(7,qe),(8,qu),(14,qe),(17,qah),(19,qal),(20,qc),(21,qc),(22,qc)],[(.exit 0,[(2,qg),(6,qc),(7,qe),(8,qu),(14,qe),(17,qah),(19,qal),(20,qc),(21,qc)])],Zgo_L0,[]⟩
def s_Zgo_L2:LSpec T:=⟨[(2,qg),(6,qc),(7,qe),(8,qu),(14,qe),(17,qah),(19,qal),(20,qc),(21,qc),(25,qc)],[(.exit 2,[(2,qg),(6,qc),(7,qe),(8,qu),(14,qe),(17,qah),(19,qal),(20,qc),(21,qc)])],Zgo_L2,[]⟩
def s_Zgo_L4:LSpec T:=⟨[(6,qc),(7,qe),(8,qu),(14,qe),(17,qah),(19,qal),(20,qc),(21,qc),(30,qc),(31,qc)],[(.exit 4,[(6,qc),(7,qe),(8,qu),(14,qe),(17,qah),(19,qal),(20,qc),(21,qc),(30,qc)])],Zgo_L4,[]⟩
def A_Zgo:Loc2 T:=lcA [(0,s_Zgo_L0),(2,s_Zgo_L2),(4,s_Zgo_L4)] [(38,[(6,qc),(7,qe),(14,qe),(19,qal),(21,qc),(30,qc),(34,qap)],true),(41,[(6,qc),(7,qe),(14,qe),(34,qap)],true)]
theorem Vhf:LO c169 Tryz.f198 0 s_Zgo_L0:=lx o168 A_Zgo dn (λ_=>rfl)
theorem Vmb:LO c169 Tryz.f198 2 s_Zgo_L2:=lx o168 A_Zgo (dc rfl Vhf dn) (λ_=>rfl)
theorem Vuh:LO c169 Tryz.f198 4 s_Zgo_L4:=lx o168 A_Zgo (dc rfl Vhf (dc rfl Vmb dn)) (λ_=>rfl)
theorem o169:EO c169:=sx o168 A_Zgo Tryz.func198 (dc rfl Vhf (dc rfl Vmb (dc rfl Vuh dn)))
def Zbk(a0:Je×Unit)(a1:Jd)(a2 a3:Int):Option (((Je×Unit)×Unit)×Unit):=
 cond (decide (a3=0)) ((Zbj ({a0.1 with d:=a1,jaa:=a2},()) a3).bind λr1=>some (((r1.1.1.1,()),()),())) (cond (decide (a3=16)) ((Zbj ({a0.1 with d:=a1,jaa:=a2},()) a3).bind λr2=>some (((r2.1.1.1,()),()),())) ((Zbj ({a0.1 with d:=a1},()) a3).bind λr3=>some (((r3.1.1.1,()),()),())))
def c170:=cf c169 195 [ql,qa4,qc,qc] [] (u4 Zbk)
theorem o170:EO c170:=sz o169 Tryz.func195
def Zer(a0:Int):O1 Bool:=
 cond (decide (0<=a0)) (rt (decide (a0<=4))) (rt false)
def c171:=ct c170 272 [qc] [qf] (u1 Zer)
theorem o171:EO c171:=sz o170 Tryz.func272
def Zeo(a0:Ub)(a1 a2:Int):O1 Ub:=
 let v1:List Ub:=[Qc 64 a1,Qc 64 a2];(passkeyref1_Words v1).bind λr2=>(Zhw a0 1 r2.2.1).bind λr3=>rt r3.2.1
def S_Zeo:FSpec T:=⟨[qd,qc,qc],[qr],λx=>Zeo x.1 x.2.1 x.2.2.1⟩
theorem Vb3a:SoundT Tryz.prog cd gdn 293 S_Zeo:=
 sndC hmix o171 (lcA [] []) Tryz.func293 Vag (by kernel_rfl) (by kernel_rfl) λx=>by kernel_rfl
def c172:List (Ct T):=⟨293,none,S_Zeo,true⟩::c171
theorem o172:EnvOk Tryz.prog (mE c172):=eCons Vb3a o171
def Zhz_L0b(y0 y1 y2:Int)(y3:Ub)(y4:Int):Option ((Int×Int×Int×Ub×Int×Unit)⊕(Ub×Unit)):=
 cond (decide (y4<(cond (decide (15<y2)) (15:Int) y2))) (let v1:List Ub:=[Qc 64 y0,Qc 64 y1,Qc 64 y4,y3];(passkeyref1_Words v1).bind λr2=>(Zgt 1 r2.2.1).bind λr3=>some (Qb (y0,y1,y2,r3.2.1,Qa .i64 (y4+1),()))) (some (Qd (y3,())))
def Zhz_L0:=Yi5 Zhz_L0b
def Zhz(a0 a1 a2 a3:Int)(a4:Ub):O1 Ub:=
 (Zhz_L0 (a0,a1,a3,a4,cond (decide (a2<0)) 0 a2,())).bind λz4=>rt z4.1
def S_Zhz:FSpec T:=⟨[qc,qc,qc,qc,qd],[qr],λx=>Zhz x.1 x.2.1 x.2.2.1 x.2.2.2.1 x.2.2.2.2.1⟩
def s_Zhz_L0:LSpec T:=⟨[(0,qc),(1,qc),(3,qc),(4,qd),(11,qc)],[(.exit 0,[(4,qd)])],Zhz_L0,[]⟩
def A_Zhz:Loc2 T:=lcA [(0,s_Zhz_L0)] []
theorem Vui:LoopOk Tryz.prog (mE c172) Tryz.f292.ntmps (kqOf S_Zhz.ps 0) (loopAt 0 (bodyOf Tryz.f292)) s_Zhz_L0:=
 lpC hmix o172 A_Zhz Vag 0 (st:=λy=>Zhz_L0b y.1 y.2.1 y.2.2.1 y.2.2.2.1 y.2.2.2.2.1) (λ_=>rfl) (by kernel_rfl) (by kernel_rfl) λx=>by kernel_rfl
theorem Vb4a:SoundT Tryz.prog cd gdn 292 S_Zhz:=
 sndC hmix o172 A_Zhz Tryz.func292 (Vbx rfl Vui Vag) (by kernel_rfl) (by kernel_rfl) λx=>by kernel_rfl
def c173:List (Ct T):=⟨292,none,S_Zhz,true⟩::c172
theorem o173:EnvOk Tryz.prog (mE c173):=eCons Vb4a o172
def Zhb(a0:Int)(a1:List Ub):O1 Ub:=
 (passkeyref1_Words [Qc 64 a0]).bind λr1=>(passkeyref1_Words a1).bind λr2=>cond (small (r1.2.1.length+(r2.2.1:Ua).length) 1) ((Zgt 2 (r1.2.1++r2.2.1)).bind λr3=>rt r3.2.1) none
def S_Zhb:FSpec T:=⟨[qc,qax],[qr],λx=>Zhb x.1 x.2.1⟩
theorem Vb5a:SoundT Tryz.prog cd gdn 294 S_Zhb:=
 sndC hmix o173 (lcA [] []) Tryz.func294 Vag (by kernel_rfl) (by kernel_rfl) λx=>by kernel_rfl
def c174:List (Ct T):=⟨294,none,S_Zhb,true⟩::c173
theorem o174:EnvOk Tryz.prog (mE c174):=eCons Vb5a o173
end Go.Proofs.YtnfhkhlbdgbkjaaGreatDoor

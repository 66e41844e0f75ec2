/- The functions of the program, as plain functions, and that the program computes them. Written by a program. -/
import Derived.Test.YtnfhkhlbdgbkjaaGreatDoorFns1
set_option linter.unusedVariables false
set_option maxRecDepth 100000
namespace Go.Proofs.YtnfhkhlbdgbkjaaGreatDoor
open Go Go.Abs
open Go.IntKind renaming wrap → Qa, bits → Qb
open _root_.Sum renaming inr → Qc, inl → Qe, elim → Qh
open _root_.BitVec renaming ofInt → Qd, setWidth → Qi
open _root_.UInt8 renaming ofBitVec → Qf
open _root_.Int renaming fdiv → Qg, tmod → Qm
open _root_.List renaming set → Qj, take → Qk, drop → Ql
def Zcy_L1b(y0 y1:Int)(y2:Ji×Unit)(y3:Int×Ua×Ua×Ua×Ub×Int×Int×List Ua×Bool×Bool×Bool×Bool×Int×Ub×Bool×Ub×Ua×Ua×Int×Ua×Int×Unit)(y4:Jd×Unit)(y5:Int×Ua×Ua×Ua×Ub×Int×Int×List Ua×Bool×Bool×Bool×Bool×Int×Ub×Bool×Ub×Ua×Ua×Int×Ua×Int×Unit)(y6:Int):Option ((Int×Int×(Ji×Unit)×Yaq×(Jd×Unit)×Yaq×Int×Unit)⊕(Int×Int×Yaq×(Jd×Unit)×Yaq×Unit)):=
 let v39:=Qa .i64 ((Qd (Qb .i64) (Qg y1 (2^min 7 (Qb .i64)))&&&Qd (Qb .i64) 3).toNat:Int);cond (decide (y6<v39)) (let v40:=Qa .i64 (4+Qa .i64 (3*y6));let v41:=Qg y0 (2^min (Qd 64 v40).toNat (Qb .i64));(Zcx y2.1 v41).bind λr42=>cond (small (y5.2.2.2.2.2.2.2.1.length+([r42.2.1]).length) 24) (let v43:=y5.2.2.2.2.2.2.2.1++[r42.2.1];some (Qe (y0,y1,(y2.1,()),y3,(y4.1,()),(y5.1,y5.2.1,y5.2.2.1,y5.2.2.2.1,y5.2.2.2.2.1,y5.2.2.2.2.2.1,y5.2.2.2.2.2.2.1,v43,y5.2.2.2.2.2.2.2.2),Qa .i64 (y6+1),()))) none) (some (Qc (y0,y1,y3,(y4.1,()),y5,())))
def Zcy_L1:=i7 Zcy_L1b
def Zcy(a0:Ji)(a1 a2:Int):O1 Jb:=
 (Zho a0.jh).bind λr1=>(Zbk 4711#64).bind λr2=>let v3:=Qa .i64 ((Qd (Qb .i64) (Qg a2 (2^min 3 (Qb .i64)))&&&Qd (Qb .i64) 1).toNat:Int);(Zhn v3).bind λr4=>(Zcf r4.2.1).bind λr5=>(Zbv r1.2.1 (Qd 64 a2) r5.2.1).bind λr6=>let v7:=Qa .i64 ((Qd (Qb .i64) (Qg a2 (2^min 4 (Qb .i64)))&&&Qd (Qb .i64) 1).toNat:Int);(Zhn v7).bind λr8=>let v9:=Qa .i64 ((Qd (Qb .i64) (Qg a2 (2^min 5 (Qb .i64)))&&&Qd (Qb .i64) 3).toNat:Int);(Zhn v9).bind λr10=>(Zhn 0).bind λr11=>let v12:List Ua:=[r8.2.1,r10.2.1,[49,49,49],r11.2.1];let v13:=Qa .i64 ((Qd (Qb .i64) (Qg a2 (2^min 7 (Qb .i64)))&&&Qd (Qb .i64) 3).toNat:Int);cond (decide (0<=v13)&&decide (v13<4)) (v12[v13.toNat]?.bind λx14=>(Zch r1.2.1 (Qd 64 a2+1#64) x14).bind λr15=>(let v16:=Qa .i64 ((Qd (Qb .i64) a1&&&Qd (Qb .i64) 15).toNat:Int);(cond (decide (v16=0)) (some (a1,a2,(a0,()),((0:Int),([]:Ua),([]:Ua),([]:Ua),0#64,(0:Int),(0:Int),[],false,false,false,false,(0:Int),0#64,false,0#64,[],[],(0:Int),[],(0:Int),()),(a0.jh,()),r1.2.1,r2.2.1,r6.2.1,r15.2.1,((0:Int),([]:Ua),([]:Ua),([]:Ua),0#64,(0:Int),(0:Int),[],false,false,false,false,(0:Int),0#64,false,0#64,[],[],(0:Int),[],(0:Int),()),v16,decide (v16=0),())) (cond (decide (v16=1)) (some (a1,a2,(a0,()),((0:Int),([]:Ua),([]:Ua),([]:Ua),0#64,(0:Int),(0:Int),[],false,false,false,false,(0:Int),0#64,false,0#64,[],[],(0:Int),[],(0:Int),()),(a0.jh,()),r1.2.1,r2.2.1,r6.2.1,r15.2.1,((0:Int),([]:Ua),([]:Ua),([]:Ua),0#64,(0:Int),(0:Int),[],false,false,false,false,(0:Int),0#64,false,0#64,[],[],(0:Int),[],(0:Int),()),v16,decide (v16=1),())) (some (a1,a2,(a0,()),((0:Int),([]:Ua),([]:Ua),([]:Ua),0#64,(0:Int),(0:Int),[],false,false,false,false,(0:Int),0#64,false,0#64,[],[],(0:Int),[],(0:Int),()),(a0.jh,()),r1.2.1,r2.2.1,r6.2.1,r15.2.1,((0:Int),([]:Ua),([]:Ua),([]:Ua),0#64,(0:Int),(0:Int),[],false,false,false,false,(0:Int),0#64,false,0#64,[],[],(0:Int),[],(0:Int),()),v16,decide (v16=2),())))).bind λ(j17:Int×Int×(Ji×Unit)×(Int×Ua×Ua×Ua×Ub×Int×Int×List Ua×Bool×Bool×Bool×Bool×Int×Ub×Bool×Ub×Ua×Ua×Int×Ua×Int×Unit)×(Jd×Unit)×Ub×Ub×Ua×Ua×(Int×Ua×Ua×Ua×Ub×Int×Int×List Ua×Bool×Bool×Bool×Bool×Int×Ub×Bool×Ub×Ua×Ua×Int×Ua×Int×Unit)×Int×Bool×Unit)=>cond j17.2.2.2.2.2.2.2.2.2.2.2.1 ((Zid j17.2.1).bind λr18=>(Zge (Qg j17.2.1 (2^min 2 (Qb .i64)))).bind λr19=>(Zgd (Qg j17.2.1 (2^min 4 (Qb .i64)))).bind λr20=>(Zgf j17.2.1).bind λr21=>let v22:=Qa .i64 ((Qd (Qb .i64) (Qg j17.2.1 (2^min 5 (Qb .i64)))&&&Qd (Qb .i64) 1).toNat:Int);let v23:=Qm (Qg j17.2.1 (2^min 6 (Qb .i64))) 3;let v24:=Qa .i64 ((Qd (Qb .i64) (Qg j17.2.1 (2^min 8 (Qb .i64)))&&&Qd (Qb .i64) 1).toNat:Int);let v25:=Qa .i64 ((Qd (Qb .i64) (Qg j17.2.1 (2^min 9 (Qb .i64)))&&&Qd (Qb .i64) 3).toNat:Int);let v26:=Qm (Qg j17.2.1 (2^min 11 (Qb .i64))) 3;cond (decide (v24=1)) (let v27:=Qa .i64 ((Qd (Qb .i64) (Qg j17.2.1 (2^min 13 (Qb .i64)))&&&Qd (Qb .i64) 1).toNat:Int);let v28:=Qa .i64 ((Qd (Qb .i64) (Qg j17.2.1 (2^min 3 (Qb .i64)))&&&Qd (Qb .i64) 7).toNat:Int);cond (decide (v28=7)) ((Zcx j17.2.2.1.1 (Qg j17.1 (2^min 8 (Qb .i64)))).bind λr29=>(Zcx j17.2.2.1.1 (Qg j17.1 (2^min 9 (Qb .i64)))).bind λr30=>some (j17.1,j17.2.1,j17.2.2.2.1,(j17.2.2.2.2.1.1,()),((⟨2,r18.2.1,r19.2.1,r20.2.1,r21.2.1,Qa .i64 (1+v22),Qa .i64 (1+v23),[r29.2.1,r30.2.1],decide (v24=1),false,decide (v25=3),decide (v27=1),v26,0#64,false,0#64,[],[],0,[],0⟩:Jb),()),())) (some (j17.1,j17.2.1,j17.2.2.2.1,(j17.2.2.2.2.1.1,()),((⟨2,r18.2.1,r19.2.1,r20.2.1,r21.2.1,Qa .i64 (1+v22),Qa .i64 (1+v23),[],decide (v24=1),false,decide (v25=3),decide (v27=1),v26,0#64,false,0#64,[],[],0,[],0⟩:Jb),()),()))) (let v31:=Qa .i64 ((Qd (Qb .i64) (Qg j17.2.1 (2^min 3 (Qb .i64)))&&&Qd (Qb .i64) 7).toNat:Int);cond (decide (v31=7)) ((Zcx j17.2.2.1.1 (Qg j17.1 (2^min 8 (Qb .i64)))).bind λr32=>(Zcx j17.2.2.1.1 (Qg j17.1 (2^min 9 (Qb .i64)))).bind λr33=>some (j17.1,j17.2.1,j17.2.2.2.1,(j17.2.2.2.2.1.1,()),((⟨2,r18.2.1,r19.2.1,r20.2.1,r21.2.1,Qa .i64 (1+v22),Qa .i64 (1+v23),[r32.2.1,r33.2.1],decide (v24=1),false,decide (v25=3),false,v26,0#64,false,0#64,[],[],0,[],0⟩:Jb),()),())) (some (j17.1,j17.2.1,j17.2.2.2.1,(j17.2.2.2.2.1.1,()),((⟨2,r18.2.1,r19.2.1,r20.2.1,r21.2.1,Qa .i64 (1+v22),Qa .i64 (1+v23),[],decide (v24=1),false,decide (v25=3),false,v26,0#64,false,0#64,[],[],0,[],0⟩:Jb),()),())))) ((cond (decide (j17.2.2.2.2.2.2.2.2.2.2.1=3)) (some (j17.1,j17.2.1,(j17.2.2.1.1,()),j17.2.2.2.1,(j17.2.2.2.2.1.1,()),j17.2.2.2.2.2.1,j17.2.2.2.2.2.2.1,j17.2.2.2.2.2.2.2.1,j17.2.2.2.2.2.2.2.2.1,j17.2.2.2.2.2.2.2.2.2.1,j17.2.2.2.2.2.2.2.2.2.2.1,decide (j17.2.2.2.2.2.2.2.2.2.2.1=3),())) (cond (decide (j17.2.2.2.2.2.2.2.2.2.2.1=4)) (some (j17.1,j17.2.1,(j17.2.2.1.1,()),j17.2.2.2.1,(j17.2.2.2.2.1.1,()),j17.2.2.2.2.2.1,j17.2.2.2.2.2.2.1,j17.2.2.2.2.2.2.2.1,j17.2.2.2.2.2.2.2.2.1,j17.2.2.2.2.2.2.2.2.2.1,j17.2.2.2.2.2.2.2.2.2.2.1,decide (j17.2.2.2.2.2.2.2.2.2.2.1=4),())) (some (j17.1,j17.2.1,(j17.2.2.1.1,()),j17.2.2.2.1,(j17.2.2.2.2.1.1,()),j17.2.2.2.2.2.1,j17.2.2.2.2.2.2.1,j17.2.2.2.2.2.2.2.1,j17.2.2.2.2.2.2.2.2.1,j17.2.2.2.2.2.2.2.2.2.1,j17.2.2.2.2.2.2.2.2.2.2.1,decide (j17.2.2.2.2.2.2.2.2.2.2.1=5),())))).bind λj34=>cond j34.2.2.2.2.2.2.2.2.2.2.2.1 ((Zid j34.2.1).bind λr35=>(Zgf j34.2.1).bind λr36=>let v37:=Qa .i64 ((Qd (Qb .i64) (Qg j34.2.1 (2^min 3 (Qb .i64)))&&&Qd (Qb .i64) 3).toNat:Int);let v38:=Qa .i64 ((Qd (Qb .i64) (Qg j34.2.1 (2^min 5 (Qb .i64)))&&&Qd (Qb .i64) 3).toNat:Int);(Zcy_L1 (j34.1,j34.2.1,(j34.2.2.1.1,()),j34.2.2.2.1,(j34.2.2.2.2.1.1,()),(3,r35.2.1,[],[],r36.2.1,0,0,[],false,!(decide (v37=3)),decide (v38=3),false,0,0#64,false,0#64,[],[],0,[],0,()),0,())).bind λz39=>some (z39.1,z39.2.1,z39.2.2.1,(z39.2.2.2.1.1,()),((⟨z39.2.2.2.2.1.1,z39.2.2.2.2.1.2.1,z39.2.2.2.2.1.2.2.1,z39.2.2.2.2.1.2.2.2.1,z39.2.2.2.2.1.2.2.2.2.1,z39.2.2.2.2.1.2.2.2.2.2.1,z39.2.2.2.2.1.2.2.2.2.2.2.1,z39.2.2.2.2.1.2.2.2.2.2.2.2.1,z39.2.2.2.2.1.2.2.2.2.2.2.2.2.1,z39.2.2.2.2.1.2.2.2.2.2.2.2.2.2.1,z39.2.2.2.2.1.2.2.2.2.2.2.2.2.2.2.1,z39.2.2.2.2.1.2.2.2.2.2.2.2.2.2.2.2.1,z39.2.2.2.2.1.2.2.2.2.2.2.2.2.2.2.2.2.1,z39.2.2.2.2.1.2.2.2.2.2.2.2.2.2.2.2.2.2.1,z39.2.2.2.2.1.2.2.2.2.2.2.2.2.2.2.2.2.2.2.1,z39.2.2.2.2.1.2.2.2.2.2.2.2.2.2.2.2.2.2.2.2.1,z39.2.2.2.2.1.2.2.2.2.2.2.2.2.2.2.2.2.2.2.2.2.1,z39.2.2.2.2.1.2.2.2.2.2.2.2.2.2.2.2.2.2.2.2.2.2.1,z39.2.2.2.2.1.2.2.2.2.2.2.2.2.2.2.2.2.2.2.2.2.2.2.1,z39.2.2.2.2.1.2.2.2.2.2.2.2.2.2.2.2.2.2.2.2.2.2.2.2.1,z39.2.2.2.2.1.2.2.2.2.2.2.2.2.2.2.2.2.2.2.2.2.2.2.2.2.1⟩:Jb),()),())) (cond (decide (j34.2.2.2.2.2.2.2.2.2.2.1=6)) (some (j34.1,j34.2.1,j34.2.2.2.1,(j34.2.2.2.2.1.1,()),(({kind:=4}:Jb),()),())) (cond (decide (j34.2.2.2.2.2.2.2.2.2.2.1=7)) (some (j34.1,j34.2.1,j34.2.2.2.1,(j34.2.2.2.2.1.1,()),(({kind:=7,jv:=j34.2.2.2.2.2.2.1,box:=j34.2.2.2.2.2.2.2.2.1}:Jb),()),())) ((cond (decide (j34.2.2.2.2.2.2.2.2.2.2.1=8)) (some (j34.1,j34.2.1,(j34.2.2.1.1,()),j34.2.2.2.1,(j34.2.2.2.2.1.1,()),j34.2.2.2.2.2.1,j34.2.2.2.2.2.2.1,j34.2.2.2.2.2.2.2.1,j34.2.2.2.2.2.2.2.2.1,j34.2.2.2.2.2.2.2.2.2.1,j34.2.2.2.2.2.2.2.2.2.2.1,decide (j34.2.2.2.2.2.2.2.2.2.2.1=8),())) (some (j34.1,j34.2.1,(j34.2.2.1.1,()),j34.2.2.2.1,(j34.2.2.2.2.1.1,()),j34.2.2.2.2.2.1,j34.2.2.2.2.2.2.1,j34.2.2.2.2.2.2.2.1,j34.2.2.2.2.2.2.2.2.1,j34.2.2.2.2.2.2.2.2.2.1,j34.2.2.2.2.2.2.2.2.2.2.1,decide (j34.2.2.2.2.2.2.2.2.2.2.1=9),()))).bind λj40=>cond j40.2.2.2.2.2.2.2.2.2.2.2.1 (let v41:=Qm (Qg j40.2.1 (2^min 8 (Qb .i64))) 7;(Zid (Qg j40.2.1 (2^min 1 (Qb .i64)))).bind λr42=>let v43:=Qa .i64 ((Qd (Qb .i64) (Qg j40.2.1 (2^min 2 (Qb .i64)))&&&Qd (Qb .i64) 1).toNat:Int);cond (decide (0<=v43)&&decide (v43<2)) (([[],r42.2.1]:List Ua)[v43.toNat]?.bind λx44=>some (j40.1,j40.2.1,j40.2.2.2.1,(j40.2.2.2.2.1.1,()),(({kind:=9,rP:=x44,jv:=j40.2.2.2.2.2.2.1,proof:=j40.2.2.2.2.2.2.2.1,jb:=Qa .i64 (1+v41)}:Jb),()),())) none) (cond (decide (j40.2.2.2.2.2.2.2.2.2.2.1=10)) (some (j40.1,j40.2.1,j40.2.2.2.1,(j40.2.2.2.2.1.1,()),(({kind:=8,jv:=j40.2.2.2.2.2.2.1,box:=j40.2.2.2.2.2.2.2.2.1,proof:=j40.2.2.2.2.2.2.2.1}:Jb),()),())) (cond (decide (j40.2.2.2.2.2.2.2.2.2.2.1=11)) (let v45:=Qa .i64 ((Qd (Qb .i64) j40.2.1&&&Qd (Qb .i64) 3).toNat:Int);cond (decide (0<=v45)&&decide (v45<4)) (([1,5,6,10]:List Int)[v45.toNat]?.bind λx46=>some (j40.1,j40.2.1,j40.2.2.2.1,(j40.2.2.2.2.1.1,()),(({kind:=x46}:Jb),()),())) none) (cond (decide (j40.2.2.2.2.2.2.2.2.2.2.1=12)) (some (j40.1,j40.2.1,j40.2.2.2.1,(j40.2.2.2.2.1.1,()),(({kind:=11}:Jb),()),())) (cond (decide (j40.2.2.2.2.2.2.2.2.2.2.1=13)) ((Zcx j40.2.2.1.1 j40.2.1).bind λr47=>some (j40.1,j40.2.1,j40.2.2.2.1,(j40.2.2.2.2.1.1,()),(({kind:=12,iD:=r47.2.1}:Jb),()),())) (cond (decide (j40.2.2.2.2.2.2.2.2.2.2.1=14)) ((Zcx j40.2.2.1.1 j40.2.1).bind λr48=>let v49:=Qa .i64 ((Qd (Qb .i64) (Qg j40.2.1 (2^min 5 (Qb .i64)))&&&Qd (Qb .i64) 3).toNat:Int);some (j40.1,j40.2.1,j40.2.2.2.1,(j40.2.2.2.2.1.1,()),(({kind:=13,jv:=j40.2.2.2.2.2.2.1,iD:=r48.2.1,count:=v49}:Jb),()),())) (cond (decide (j40.2.2.2.2.2.2.2.2.2.2.1=15)) (let v50:=Qa .i64 ((Qd (Qb .i64) j40.2.1|||Qd (Qb .i64) 896).toNat:Int);(Zbf v50).bind λr51=>let v52:=Qa .i64 ((Qd (Qb .i64) j40.2.1&&&Qd (Qb .i64) 1).toNat:Int);let v53:=Qa .i64 ((Qd (Qb .i64) (Qg j40.2.1 (2^min 1 (Qb .i64)))&&&Qd (Qb .i64) 1).toNat:Int);(Zao r51.2.1 v52 (Qa .i64 (1+v53))).bind λr54=>(Zgv j40.2.2.2.2.2.1 (Qd 64 j40.2.1) [] r54.2.1).bind λr55=>some (j40.1,j40.2.1,j40.2.2.2.1,(j40.2.2.2.2.1.1,()),(({kind:=14,jv:=j40.2.2.2.2.2.2.1,box:=r55.2.1}:Jb),()),())) (some (j40.1,j40.2.1,j40.2.2.2.1,(j40.2.2.2.2.1.1,()),((⟨j40.2.2.2.2.2.2.2.2.2.1.1,j40.2.2.2.2.2.2.2.2.2.1.2.1,j40.2.2.2.2.2.2.2.2.2.1.2.2.1,j40.2.2.2.2.2.2.2.2.2.1.2.2.2.1,j40.2.2.2.2.2.2.2.2.2.1.2.2.2.2.1,j40.2.2.2.2.2.2.2.2.2.1.2.2.2.2.2.1,j40.2.2.2.2.2.2.2.2.2.1.2.2.2.2.2.2.1,j40.2.2.2.2.2.2.2.2.2.1.2.2.2.2.2.2.2.1,j40.2.2.2.2.2.2.2.2.2.1.2.2.2.2.2.2.2.2.1,j40.2.2.2.2.2.2.2.2.2.1.2.2.2.2.2.2.2.2.2.1,j40.2.2.2.2.2.2.2.2.2.1.2.2.2.2.2.2.2.2.2.2.1,j40.2.2.2.2.2.2.2.2.2.1.2.2.2.2.2.2.2.2.2.2.2.1,j40.2.2.2.2.2.2.2.2.2.1.2.2.2.2.2.2.2.2.2.2.2.2.1,j40.2.2.2.2.2.2.2.2.2.1.2.2.2.2.2.2.2.2.2.2.2.2.2.1,j40.2.2.2.2.2.2.2.2.2.1.2.2.2.2.2.2.2.2.2.2.2.2.2.2.1,j40.2.2.2.2.2.2.2.2.2.1.2.2.2.2.2.2.2.2.2.2.2.2.2.2.2.1,j40.2.2.2.2.2.2.2.2.2.1.2.2.2.2.2.2.2.2.2.2.2.2.2.2.2.2.1,j40.2.2.2.2.2.2.2.2.2.1.2.2.2.2.2.2.2.2.2.2.2.2.2.2.2.2.2.1,j40.2.2.2.2.2.2.2.2.2.1.2.2.2.2.2.2.2.2.2.2.2.2.2.2.2.2.2.2.1,j40.2.2.2.2.2.2.2.2.2.1.2.2.2.2.2.2.2.2.2.2.2.2.2.2.2.2.2.2.2.1,j40.2.2.2.2.2.2.2.2.2.1.2.2.2.2.2.2.2.2.2.2.2.2.2.2.2.2.2.2.2.2.1⟩:Jb),()),()))))))))))))).bind λj56=>(let v57:=Qa .i64 ((Qd (Qb .i64) j56.1&&&Qd (Qb .i64) 15).toNat:Int);cond (decide (12<=v57)) ((Zbs j56.2.2.2.1.1 j56.2.2.2.2.1.1).bind λr58=>some (j56.1,j56.2.1,j56.2.2.1,(r58.2.1.kind,r58.2.1.rP,r58.2.1.user,r58.2.1.name,r58.2.1.jz,r58.2.1.jd,r58.2.1.je,r58.2.1.list,r58.2.1.jg,r58.2.1.js,r58.2.1.jt,r58.2.1.jo,r58.2.1.jk,r58.2.1.auth,r58.2.1.jl,r58.2.1.jv,r58.2.1.box,r58.2.1.proof,r58.2.1.jb,r58.2.1.iD,r58.2.1.count,()),())) (let v59:=Qa .i64 ((Qd (Qb .i64) (Qg j56.1 (2^min 4 (Qb .i64)))&&&Qd (Qb .i64) 1).toNat:Int);cond (decide (v59=1)) (let v60:=Qa .i64 ((Qd (Qb .i64) j56.1&&&Qd (Qb .i64) 15).toNat:Int);cond (decide (v60<6)) ((Zbs j56.2.2.2.1.1 j56.2.2.2.2.1.1).bind λr61=>some (j56.1,j56.2.1,j56.2.2.1,(r61.2.1.kind,r61.2.1.rP,r61.2.1.user,r61.2.1.name,r61.2.1.jz,r61.2.1.jd,r61.2.1.je,r61.2.1.list,r61.2.1.jg,r61.2.1.js,r61.2.1.jt,r61.2.1.jo,r61.2.1.jk,r61.2.1.auth,r61.2.1.jl,r61.2.1.jv,r61.2.1.box,r61.2.1.proof,r61.2.1.jb,r61.2.1.iD,r61.2.1.count,()),())) (some (j56.1,j56.2.1,j56.2.2.1,(j56.2.2.2.2.1.1.kind,j56.2.2.2.2.1.1.rP,j56.2.2.2.2.1.1.user,j56.2.2.2.2.1.1.name,j56.2.2.2.2.1.1.jz,j56.2.2.2.2.1.1.jd,j56.2.2.2.2.1.1.je,j56.2.2.2.2.1.1.list,j56.2.2.2.2.1.1.jg,j56.2.2.2.2.1.1.js,j56.2.2.2.2.1.1.jt,j56.2.2.2.2.1.1.jo,j56.2.2.2.2.1.1.jk,j56.2.2.2.2.1.1.auth,j56.2.2.2.2.1.1.jl,j56.2.2.2.2.1.1.jv,j56.2.2.2.2.1.1.box,j56.2.2.2.2.1.1.proof,j56.2.2.2.2.1.1.jb,j56.2.2.2.2.1.1.iD,j56.2.2.2.2.1.1.count,()),()))) (some (j56.1,j56.2.1,j56.2.2.1,(j56.2.2.2.2.1.1.kind,j56.2.2.2.2.1.1.rP,j56.2.2.2.2.1.1.user,j56.2.2.2.2.1.1.name,j56.2.2.2.2.1.1.jz,j56.2.2.2.2.1.1.jd,j56.2.2.2.2.1.1.je,j56.2.2.2.2.1.1.list,j56.2.2.2.2.1.1.jg,j56.2.2.2.2.1.1.js,j56.2.2.2.2.1.1.jt,j56.2.2.2.2.1.1.jo,j56.2.2.2.2.1.1.jk,j56.2.2.2.2.1.1.auth,j56.2.2.2.2.1.1.jl,j56.2.2.2.2.1.1.jv,j56.2.2.2.2.1.1.box,j56.2.2.2.2.1.1.proof,j56.2.2.2.2.1.1.jb,j56.2.2.2.2.1.1.iD,j56.2.2.2.2.1.1.count,()),())))).bind λj62=>(let v63:=Qa .i64 ((Qd (Qb .i64) (Qg j62.1 (2^min 10 (Qb .i64)))&&&Qd (Qb .i64) 15).toNat:Int);cond (decide (v63=15)) ((Zey ⟨j62.2.2.2.1.1,j62.2.2.2.1.2.1,j62.2.2.2.1.2.2.1,j62.2.2.2.1.2.2.2.1,j62.2.2.2.1.2.2.2.2.1,j62.2.2.2.1.2.2.2.2.2.1,j62.2.2.2.1.2.2.2.2.2.2.1,j62.2.2.2.1.2.2.2.2.2.2.2.1,j62.2.2.2.1.2.2.2.2.2.2.2.2.1,j62.2.2.2.1.2.2.2.2.2.2.2.2.2.1,j62.2.2.2.1.2.2.2.2.2.2.2.2.2.2.1,j62.2.2.2.1.2.2.2.2.2.2.2.2.2.2.2.1,j62.2.2.2.1.2.2.2.2.2.2.2.2.2.2.2.2.1,j62.2.2.2.1.2.2.2.2.2.2.2.2.2.2.2.2.2.1,j62.2.2.2.1.2.2.2.2.2.2.2.2.2.2.2.2.2.2.1,j62.2.2.2.1.2.2.2.2.2.2.2.2.2.2.2.2.2.2.2.1,j62.2.2.2.1.2.2.2.2.2.2.2.2.2.2.2.2.2.2.2.2.1,j62.2.2.2.1.2.2.2.2.2.2.2.2.2.2.2.2.2.2.2.2.2.1,j62.2.2.2.1.2.2.2.2.2.2.2.2.2.2.2.2.2.2.2.2.2.2.1,j62.2.2.2.1.2.2.2.2.2.2.2.2.2.2.2.2.2.2.2.2.2.2.2.1,j62.2.2.2.1.2.2.2.2.2.2.2.2.2.2.2.2.2.2.2.2.2.2.2.2.1⟩ j62.2.1).bind λr64=>some (j62.2.2.1,(r64.2.1.kind,r64.2.1.rP,r64.2.1.user,r64.2.1.name,r64.2.1.jz,r64.2.1.jd,r64.2.1.je,r64.2.1.list,r64.2.1.jg,r64.2.1.js,r64.2.1.jt,r64.2.1.jo,r64.2.1.jk,r64.2.1.auth,r64.2.1.jl,r64.2.1.jv,r64.2.1.box,r64.2.1.proof,r64.2.1.jb,r64.2.1.iD,r64.2.1.count,()),())) (some (j62.2.2.1,j62.2.2.2.1,()))).bind λj65=>rt ⟨j65.2.1.1,j65.2.1.2.1,j65.2.1.2.2.1,j65.2.1.2.2.2.1,j65.2.1.2.2.2.2.1,j65.2.1.2.2.2.2.2.1,j65.2.1.2.2.2.2.2.2.1,j65.2.1.2.2.2.2.2.2.2.1,j65.2.1.2.2.2.2.2.2.2.2.1,j65.2.1.2.2.2.2.2.2.2.2.2.1,j65.2.1.2.2.2.2.2.2.2.2.2.2.1,j65.2.1.2.2.2.2.2.2.2.2.2.2.2.1,j65.2.1.2.2.2.2.2.2.2.2.2.2.2.2.1,j65.2.1.2.2.2.2.2.2.2.2.2.2.2.2.2.1,j65.2.1.2.2.2.2.2.2.2.2.2.2.2.2.2.2.1,j65.2.1.2.2.2.2.2.2.2.2.2.2.2.2.2.2.2.1,j65.2.1.2.2.2.2.2.2.2.2.2.2.2.2.2.2.2.2.1,j65.2.1.2.2.2.2.2.2.2.2.2.2.2.2.2.2.2.2.2.1,j65.2.1.2.2.2.2.2.2.2.2.2.2.2.2.2.2.2.2.2.2.1,j65.2.1.2.2.2.2.2.2.2.2.2.2.2.2.2.2.2.2.2.2.2.1,j65.2.1.2.2.2.2.2.2.2.2.2.2.2.2.2.2.2.2.2.2.2.2.1⟩) none
def c171:=cf c170 19 [(.f qaa),qc,qc] [qh] (u3 Zcy)
def s_Zcy_L1:LSpec T:=⟨[(1,qc),(2,qc),(3,qas),(6,qb),(7,qe),(13,qb),(14,qc)],[(.exit 1,[(1,qc),(2,qc),(6,qb),(7,qe),(13,qb)])],Zcy_L1,[]⟩
def A_Zcy:Loc2 T:=lcA [(1,s_Zcy_L1)] [(11,[(1,qc),(2,qc),(3,qas),(6,qb),(7,qe),(8,qd),(9,qd),(10,qag),(11,qag),(13,qb),(56,qc),(57,qs)],true),(18,[(1,qc),(2,qc),(3,qas),(6,qb),(7,qe),(8,qd),(9,qd),(10,qag),(11,qag),(13,qb),(56,qc),(114,qs)],true),(29,[(1,qc),(2,qc),(3,qas),(6,qb),(7,qe),(8,qd),(9,qd),(10,qag),(11,qag),(13,qb),(56,qc),(159,qs)],true),(45,[(1,qc),(2,qc),(6,qb),(7,qe),(13,qac)],true),(47,[(1,qc),(2,qc),(6,qb),(13,qaj)],true),(49,[(6,qb),(13,qaj)],true)]
theorem Vrx:LO c171 Tryz.f19 1 s_Zcy_L1:=lx o170 A_Zcy dn (λ_=>rfl)
theorem o171:EO c171:=sx o170 A_Zcy Tryz.func19 (dc rfl Vrx dn)
def Zce(a0 a1:Int):O1 Jb:=
 let v1:=Qa .i64 ((Qd (Qb .i64) (Qg a0 (2^min 12 (Qb .i64)))&&&Qd (Qb .i64) 255).toNat:Int);(Zgc v1 5).bind λr2=>let v3:=Qa .i64 ((Qd (Qb .i64) a0&&&Qd (Qb .i64) 1023).toNat:Int);let v4:=Qa .i64 ((Qd (Qb .i64) a1&&&Qd (Qb .i64) 1048575).toNat:Int);(Zcy r2.2.1 v3 v4).bind λr5=>let v6:=Qa .i64 ((Qd (Qb .i64) (Qg a0 (2^min 20 (Qb .i64)))&&&Qd (Qb .i64) 3).toNat:Int);cond (decide (v6=0)) (let v7:=Qa .i64 ((Qd (Qb .i64) (Qg a1 (2^min 3 (Qb .i64)))&&&Qd (Qb .i64) 1048575).toNat:Int);(Zey r5.2.1 v7).bind λr8=>rt r8.2.1) (rt r5.2.1)
def c172:=cf c171 7 [qc,qc] [qh] (u2 Zce)
theorem o172:EO c172:=sz o171 Tryz.func7
def Zil_L0b(y0:BitVec 32)(y1:List Bool)(y2 y3:Int):Option (((BitVec 32)×(List (Bool))×Int×Int×Unit)⊕((BitVec 32)×Unit)):=
 cond (decide (y3<y2)) ((getI y1 y3).bind λx1=>cond x1 (cond (decide (0<=Qa .i64 (y3+1))) (let v2:=y0|||1#32<<<(Qa .i64 (y3+1)).toNat;some (Qe (v2,y1,y2,Qa .i64 (y3+1),()))) none) (some (Qe (y0,y1,y2,Qa .i64 (y3+1),())))) (some (Qc (y0,())))
def Zil_L0:=i4 Zil_L0b
def Zil(a0:List Bool):O1 (BitVec 32):=
 (Zil_L0 (0#32,a0,(a0.length:Int),0,())).bind λz3=>rt z3.1
def c173:=ct c172 70 [(.f (.v (.rs 19)))] [(.v .u32)] (u1 Zil)
def s_Zil_L0:LSpec T:=⟨[(3,qa1),(6,(.f (.v (.rs 19)))),(7,qc),(8,qc)],[(.exit 0,[(3,qa1)])],Zil_L0,[]⟩
def A_Zil:Loc2 T:=lcA [(0,s_Zil_L0)] []
theorem Vry:LO c173 Tryz.f70 0 s_Zil_L0:=lx o172 A_Zil dn (λ_=>rfl)
theorem o173:EO c173:=sx o172 A_Zil Tryz.func70 (dc rfl Vry dn)
def Zii(a0:Jb):O1 (BitVec 32):=
 cond a0.jl (let v1:List Bool:=[!(decide (a0.rP=([]:Ua))),!(decide (a0.user=([]:Ua))),!(decide (a0.name=([]:Ua))),!(decide (a0.jz=0#64)),!(decide (a0.jd=0)),!(decide (a0.je=0)),decide (0<(a0.list.length:Int)),a0.jg,a0.js,a0.jt,a0.jo,!(decide (a0.jk=0)),true,!(decide (a0.jv=0#64)),decide (0<(a0.box.length:Int)),decide (0<(a0.proof.length:Int)),!(decide (a0.jb=0)),decide (0<(a0.iD.length:Int)),!(decide (a0.count=0))];(Zil v1).bind λr2=>rt r2.2.1) (let v3:List Bool:=[!(decide (a0.rP=([]:Ua))),!(decide (a0.user=([]:Ua))),!(decide (a0.name=([]:Ua))),!(decide (a0.jz=0#64)),!(decide (a0.jd=0)),!(decide (a0.je=0)),decide (0<(a0.list.length:Int)),a0.jg,a0.js,a0.jt,a0.jo,!(decide (a0.jk=0)),!(decide (a0.auth=0#64)),!(decide (a0.jv=0#64)),decide (0<(a0.box.length:Int)),decide (0<(a0.proof.length:Int)),!(decide (a0.jb=0)),decide (0<(a0.iD.length:Int)),!(decide (a0.count=0))];(Zil v3).bind λr4=>rt r4.2.1)
def c174:=ct c173 23 [qa5] [(.v .u32)] (u1 Zii)
theorem o174:EO c174:=sz o173 Tryz.func23
def Zgb_L0b(y0:List Int)(y1 y2:Int):Option (((List (Int))×Int×Int×Unit)⊕((Bool×Unit)⊕(Unit))):=
 cond (decide (y2<y1)) ((getI y0 y2).bind λx1=>cond (decide (x1<0)) (some (Qc (Qe (false,())))) (cond (decide (255<x1)) (some (Qc (Qe (false,())))) (some (Qe (y0,y1,Qa .i64 (y2+1),()))))) (some (Qc (Qc ())))
def Zgb_L0:=i3 Zgb_L0b
def Zgb(a0:List Int):O1 Bool:=
 (Zgb_L0 (a0,(a0.length:Int),0,())).bind (Qh (λz2=>rt z2.1) (λz3=>rt true))
def c175:=ct c174 39 [qbg] [qf] (u1 Zgb)
def s_Zgb_L0:LSpec T:=⟨[(5,qbg),(6,qc),(7,qc)],[(.ret,[(2,qs)]),(.exit 0,[])],Zgb_L0,[]⟩
def A_Zgb:Loc2 T:=lcA [(0,s_Zgb_L0)] []
theorem Vrz:LO c175 Tryz.f39 0 s_Zgb_L0:=lx o174 A_Zgb dn (λ_=>rfl)
theorem o175:EO c175:=sx o174 A_Zgb Tryz.func39 (dc rfl Vrz dn)
def Zga_L1b(y0:Jb×Unit)(y1:BitVec 32)(y2:List Ua)(y3 y4:Int):Option (((Jb×Unit)×(BitVec 32)×(List Ua)×Int×Int×Unit)⊕((Int×Unit)⊕((Jb×Unit)×(BitVec 32)×Unit))):=
 cond (decide (y4<y3)) ((getI y2 y4).bind λx46=>cond (!(decide ((x46.length:Int)=176))) (some (Qc (Qe (4,())))) (some (Qe ((y0.1,()),y1,y2,y3,Qa .i64 (y4+1),())))) (some (Qc (Qc ((y0.1,()),y1,()))))
def Zga_L1:=i5 Zga_L1b
def Zga(a0:Jb):O1 Int:=
 cond (decide (a0.kind<1)) (rt 3) (cond (decide (14<a0.kind)) (rt 3) (cond (decide (0<=a0.kind)&&decide (a0.kind<15)) ([0#32,0#32,15870#32,9874#32,0#32,0#32,0#32,49152#32,114688#32,212994#32,0#32,8192#32,270336#32,811008#32,57344#32][a0.kind.toNat]?.bind λx1=>((Zii a0).bind λr2=>cond (!(decide (r2.2.1&&&~~~x1=0#32))) (cond (!(decide (r2.2.1&&&~~~x1=0#32))) ((rt (4:Int)).bind λq=>some (Qc q)) (let v3:List Int:=[a0.jd,a0.je,a0.jk,a0.jb,a0.count];(Zgb v3).bind λr4=>cond (!r4.2.1) ((rt (9:Int)).bind λq=>some (Qc q)) (cond (decide (64<(a0.rP.length:Int))) (cond (decide (64<(a0.rP.length:Int))) ((rt (8:Int)).bind λq=>some (Qc q)) ((Zhf a0.rP).bind λr5=>cond (!r5.2.1) (cond (!r5.2.1) ((rt (6:Int)).bind λq=>some (Qc q)) (some (Qe ((a0,()),x1,())))) ((Zhf a0.name).bind λr6=>cond (!r6.2.1) ((rt (6:Int)).bind λq=>some (Qc q)) (some (Qe ((a0,()),x1,())))))) (cond (decide (16<(a0.user.length:Int))) (cond (decide (16<(a0.user.length:Int))) ((rt (8:Int)).bind λq=>some (Qc q)) ((Zhf a0.rP).bind λr7=>cond (!r7.2.1) (cond (!r7.2.1) ((rt (6:Int)).bind λq=>some (Qc q)) (some (Qe ((a0,()),x1,())))) ((Zhf a0.name).bind λr8=>cond (!r8.2.1) ((rt (6:Int)).bind λq=>some (Qc q)) (some (Qe ((a0,()),x1,())))))) (cond (decide (32<(a0.name.length:Int))) (cond (decide (32<(a0.name.length:Int))) ((rt (8:Int)).bind λq=>some (Qc q)) ((Zhf a0.rP).bind λr9=>cond (!r9.2.1) (cond (!r9.2.1) ((rt (6:Int)).bind λq=>some (Qc q)) (some (Qe ((a0,()),x1,())))) ((Zhf a0.name).bind λr10=>cond (!r10.2.1) ((rt (6:Int)).bind λq=>some (Qc q)) (some (Qe ((a0,()),x1,())))))) (cond (decide (8<(a0.list.length:Int))) (cond (decide (8<(a0.list.length:Int))) ((rt (8:Int)).bind λq=>some (Qc q)) ((Zhf a0.rP).bind λr11=>cond (!r11.2.1) (cond (!r11.2.1) ((rt (6:Int)).bind λq=>some (Qc q)) (some (Qe ((a0,()),x1,())))) ((Zhf a0.name).bind λr12=>cond (!r12.2.1) ((rt (6:Int)).bind λq=>some (Qc q)) (some (Qe ((a0,()),x1,())))))) (cond (decide (1024<(a0.box.length:Int))) (cond (decide (1024<(a0.box.length:Int))) ((rt (8:Int)).bind λq=>some (Qc q)) ((Zhf a0.rP).bind λr13=>cond (!r13.2.1) (cond (!r13.2.1) ((rt (6:Int)).bind λq=>some (Qc q)) (some (Qe ((a0,()),x1,())))) ((Zhf a0.name).bind λr14=>cond (!r14.2.1) ((rt (6:Int)).bind λq=>some (Qc q)) (some (Qe ((a0,()),x1,())))))) (cond (decide (1024<(a0.proof.length:Int))) ((rt (8:Int)).bind λq=>some (Qc q)) ((Zhf a0.rP).bind λr15=>cond (!r15.2.1) (cond (!r15.2.1) ((rt (6:Int)).bind λq=>some (Qc q)) (some (Qe ((a0,()),x1,())))) ((Zhf a0.name).bind λr16=>cond (!r16.2.1) ((rt (6:Int)).bind λq=>some (Qc q)) (some (Qe ((a0,()),x1,()))))))))))))) (cond (!(decide (a0.auth=0#64))) (cond (!a0.jl) ((rt (4:Int)).bind λq=>some (Qc q)) (let v17:List Int:=[a0.jd,a0.je,a0.jk,a0.jb,a0.count];(Zgb v17).bind λr18=>cond (!r18.2.1) ((rt (9:Int)).bind λq=>some (Qc q)) (cond (decide (64<(a0.rP.length:Int))) (cond (decide (64<(a0.rP.length:Int))) ((rt (8:Int)).bind λq=>some (Qc q)) ((Zhf a0.rP).bind λr19=>cond (!r19.2.1) (cond (!r19.2.1) ((rt (6:Int)).bind λq=>some (Qc q)) (some (Qe ((a0,()),x1,())))) ((Zhf a0.name).bind λr20=>cond (!r20.2.1) ((rt (6:Int)).bind λq=>some (Qc q)) (some (Qe ((a0,()),x1,())))))) (cond (decide (16<(a0.user.length:Int))) (cond (decide (16<(a0.user.length:Int))) ((rt (8:Int)).bind λq=>some (Qc q)) ((Zhf a0.rP).bind λr21=>cond (!r21.2.1) (cond (!r21.2.1) ((rt (6:Int)).bind λq=>some (Qc q)) (some (Qe ((a0,()),x1,())))) ((Zhf a0.name).bind λr22=>cond (!r22.2.1) ((rt (6:Int)).bind λq=>some (Qc q)) (some (Qe ((a0,()),x1,())))))) (cond (decide (32<(a0.name.length:Int))) (cond (decide (32<(a0.name.length:Int))) ((rt (8:Int)).bind λq=>some (Qc q)) ((Zhf a0.rP).bind λr23=>cond (!r23.2.1) (cond (!r23.2.1) ((rt (6:Int)).bind λq=>some (Qc q)) (some (Qe ((a0,()),x1,())))) ((Zhf a0.name).bind λr24=>cond (!r24.2.1) ((rt (6:Int)).bind λq=>some (Qc q)) (some (Qe ((a0,()),x1,())))))) (cond (decide (8<(a0.list.length:Int))) (cond (decide (8<(a0.list.length:Int))) ((rt (8:Int)).bind λq=>some (Qc q)) ((Zhf a0.rP).bind λr25=>cond (!r25.2.1) (cond (!r25.2.1) ((rt (6:Int)).bind λq=>some (Qc q)) (some (Qe ((a0,()),x1,())))) ((Zhf a0.name).bind λr26=>cond (!r26.2.1) ((rt (6:Int)).bind λq=>some (Qc q)) (some (Qe ((a0,()),x1,())))))) (cond (decide (1024<(a0.box.length:Int))) (cond (decide (1024<(a0.box.length:Int))) ((rt (8:Int)).bind λq=>some (Qc q)) ((Zhf a0.rP).bind λr27=>cond (!r27.2.1) (cond (!r27.2.1) ((rt (6:Int)).bind λq=>some (Qc q)) (some (Qe ((a0,()),x1,())))) ((Zhf a0.name).bind λr28=>cond (!r28.2.1) ((rt (6:Int)).bind λq=>some (Qc q)) (some (Qe ((a0,()),x1,())))))) (cond (decide (1024<(a0.proof.length:Int))) ((rt (8:Int)).bind λq=>some (Qc q)) ((Zhf a0.rP).bind λr29=>cond (!r29.2.1) (cond (!r29.2.1) ((rt (6:Int)).bind λq=>some (Qc q)) (some (Qe ((a0,()),x1,())))) ((Zhf a0.name).bind λr30=>cond (!r30.2.1) ((rt (6:Int)).bind λq=>some (Qc q)) (some (Qe ((a0,()),x1,()))))))))))))) (let v31:List Int:=[a0.jd,a0.je,a0.jk,a0.jb,a0.count];(Zgb v31).bind λr32=>cond (!r32.2.1) ((rt (9:Int)).bind λq=>some (Qc q)) (cond (decide (64<(a0.rP.length:Int))) (cond (decide (64<(a0.rP.length:Int))) ((rt (8:Int)).bind λq=>some (Qc q)) ((Zhf a0.rP).bind λr33=>cond (!r33.2.1) (cond (!r33.2.1) ((rt (6:Int)).bind λq=>some (Qc q)) (some (Qe ((a0,()),x1,())))) ((Zhf a0.name).bind λr34=>cond (!r34.2.1) ((rt (6:Int)).bind λq=>some (Qc q)) (some (Qe ((a0,()),x1,())))))) (cond (decide (16<(a0.user.length:Int))) (cond (decide (16<(a0.user.length:Int))) ((rt (8:Int)).bind λq=>some (Qc q)) ((Zhf a0.rP).bind λr35=>cond (!r35.2.1) (cond (!r35.2.1) ((rt (6:Int)).bind λq=>some (Qc q)) (some (Qe ((a0,()),x1,())))) ((Zhf a0.name).bind λr36=>cond (!r36.2.1) ((rt (6:Int)).bind λq=>some (Qc q)) (some (Qe ((a0,()),x1,())))))) (cond (decide (32<(a0.name.length:Int))) (cond (decide (32<(a0.name.length:Int))) ((rt (8:Int)).bind λq=>some (Qc q)) ((Zhf a0.rP).bind λr37=>cond (!r37.2.1) (cond (!r37.2.1) ((rt (6:Int)).bind λq=>some (Qc q)) (some (Qe ((a0,()),x1,())))) ((Zhf a0.name).bind λr38=>cond (!r38.2.1) ((rt (6:Int)).bind λq=>some (Qc q)) (some (Qe ((a0,()),x1,())))))) (cond (decide (8<(a0.list.length:Int))) (cond (decide (8<(a0.list.length:Int))) ((rt (8:Int)).bind λq=>some (Qc q)) ((Zhf a0.rP).bind λr39=>cond (!r39.2.1) (cond (!r39.2.1) ((rt (6:Int)).bind λq=>some (Qc q)) (some (Qe ((a0,()),x1,())))) ((Zhf a0.name).bind λr40=>cond (!r40.2.1) ((rt (6:Int)).bind λq=>some (Qc q)) (some (Qe ((a0,()),x1,())))))) (cond (decide (1024<(a0.box.length:Int))) (cond (decide (1024<(a0.box.length:Int))) ((rt (8:Int)).bind λq=>some (Qc q)) ((Zhf a0.rP).bind λr41=>cond (!r41.2.1) (cond (!r41.2.1) ((rt (6:Int)).bind λq=>some (Qc q)) (some (Qe ((a0,()),x1,())))) ((Zhf a0.name).bind λr42=>cond (!r42.2.1) ((rt (6:Int)).bind λq=>some (Qc q)) (some (Qe ((a0,()),x1,())))))) (cond (decide (1024<(a0.proof.length:Int))) ((rt (8:Int)).bind λq=>some (Qc q)) ((Zhf a0.rP).bind λr43=>cond (!r43.2.1) (cond (!r43.2.1) ((rt (6:Int)).bind λq=>some (Qc q)) (some (Qe ((a0,()),x1,())))) ((Zhf a0.name).bind λr44=>cond (!r44.2.1) ((rt (6:Int)).bind λq=>some (Qc q)) (some (Qe ((a0,()),x1,())))))))))))))).bind (Qh (λj45=>(Zga_L1 ((j45.1.1,()),j45.2.1,j45.1.1.list,(j45.1.1.list.length:Int),0,())).bind (Qh (λz47=>rt z47.1) (λz48=>cond (!(decide (z48.2.1&&&262144#32=0#32))) (cond (!(decide ((z48.1.1.iD.length:Int)=176))) (rt 4) (rt 0)) (rt 0)))) some)) none))
def c176:=ct c175 15 [qa5] [qa] (u1 Zga)
def s_Zga_L1:LSpec T:=⟨[(1,qac),(3,qa1),(81,qaf),(82,qc),(83,qc)],[(.ret,[(2,qc)]),(.exit 1,[(1,qac),(3,qa1)])],Zga_L1,[]⟩
def A_Zga:Loc2 T:=lcA [(1,s_Zga_L1)] [(19,[(1,qac),(3,qa1)],false)]
theorem Vr0:LO c176 Tryz.f15 1 s_Zga_L1:=lx o175 A_Zga dn (λ_=>rfl)
theorem o176:EO c176:=sx o175 A_Zga Tryz.func15 (dc rfl Vr0 dn)
def Ziy(a0:Ua):O1 (List Ja):=
 rt [⟨4,0#64,a0⟩]
def c177:=cf c176 24 [qar] [qah] (u1 Ziy)
theorem o177:EO c177:=sz o176 Tryz.func24
def Ziu(a0:Ua):O1 (List Ja):=
 rt [⟨3,0#64,a0⟩]
def c178:=cf c177 25 [qg] [qah] (u1 Ziu)
theorem o178:EO c178:=sz o177 Tryz.func25
def Ziz(a0:Ub):O1 (List Ja):=
 let v1:List Ja:=[⟨1,a0,[]⟩];rt v1
def c179:=cf c178 26 [qd] [qah] (u1 Ziz)
theorem o179:EO c179:=sz o178 Tryz.func26
def Zhz(a0:Jx):O1 Bool:=
 cond (decide (0<a0.count)) (rt (decide ((a0.jam.length:Int)=0))) (rt false)
def c180:=ct c179 74 [qa9] [qf] (u1 Zhz)
theorem o180:EO c180:=sz o179 Tryz.func74
def Zhj(a0:Jx):O1 Bool:=
 cond (decide (0<(a0.jam.length:Int))) ((getI a0.jam (Qa .i64 ((a0.jam.length:Int)-1))).bind λx1=>cond x1.jw ((getI a0.jam (Qa .i64 ((a0.jam.length:Int)-1))).bind λx2=>rt (decide (Qm x2.left 2=0))) (rt false)) (rt false)
def c181:=ct c180 164 [qa9] [qf] (u1 Zhj)
theorem o181:EO c181:=sz o180 Tryz.func164
def Zhi(a0:Jx)(a1:Int):O1 Int:=
 cond (decide (512<=a0.count)) (rt 8) (cond (decide (a1<1)) (rt 3) (cond (decide (8<a1)) (rt 3) ((Zhj a0).bind λr1=>cond r1.2.1 (cond (!(decide (a1=1))) (cond (!(decide (a1=2))) (cond (!(decide (a1=4))) (rt 3) (cond (decide (8<(a0.jam.length:Int))) (rt 5) (rt 0))) (cond (decide (8<(a0.jam.length:Int))) (rt 5) (rt 0))) (cond (decide (8<(a0.jam.length:Int))) (rt 5) (rt 0))) (cond (decide (8<(a0.jam.length:Int))) (rt 5) (rt 0)))))
def c182:=ct c181 117 [qa9,qc] [qa] (u2 Zhi)
theorem o182:EO c182:=sz o181 Tryz.func117
def Zis(a0:Ja):O1 Bool:=
 cond (decide (a0.kind=3)) (cond (decide (a0.kind=3)) (rt (decide (a0.number=0#64))) (cond (decide (a0.kind=8)) (cond (decide (a0.number=0#64)) (rt (decide (a0.data=([]:Ua)))) (rt false)) (cond (decide (a0.kind=7)) (cond (decide (a0.number.toNat<=(1#64).toNat)) (rt (decide (a0.data=([]:Ua)))) (rt false)) (rt (decide (a0.data=([]:Ua))))))) (cond (decide (a0.kind=4)) (rt (decide (a0.number=0#64))) (cond (decide (a0.kind=8)) (cond (decide (a0.number=0#64)) (rt (decide (a0.data=([]:Ua)))) (rt false)) (cond (decide (a0.kind=7)) (cond (decide (a0.number.toNat<=(1#64).toNat)) (rt (decide (a0.data=([]:Ua)))) (rt false)) (rt (decide (a0.data=([]:Ua)))))))
def c183:=ct c182 238 [qbh] [qf] (u1 Zis)
theorem o183:EO c183:=sz o182 Tryz.func238
def Zhg_L1b(y0:Ua)(y1:Ub)(y2:Int):Option ((Ua×Ub×Int×Unit)⊕(Ua×Unit)):=
 cond (decide (0<=y2)) (cond (decide (0<=Qa .i64 (8*y2))) (let v7:=Qf (Qi 8 (y1>>>(Qa .i64 (8*y2)).toNat));cond (small (y0.length+([v7]).length) 1) (some (Qe (y0++[v7],y1,Qa .i64 (y2-1),()))) none) none) (some (Qc (y0,())))
def Zhg_L1:=i3 Zhg_L1b
def Zhg(a0:Ua)(a1:UInt8)(a2:Ub):O1 Ua:=
 (cond (decide (a2.toNat<(24#64).toNat)) (let v1:=Qf ((Qf (a1.toBitVec<<<5)).toBitVec+(Qf (Qi 8 a2)).toBitVec);cond (small (a0.length+([v1]).length) 1) ((rt (a0++[v1])).bind λq=>some (Qc q)) none) (cond (decide (a2.toNat<(256#64).toNat)) (let v2:=Qf ((Qf (a1.toBitVec<<<5)).toBitVec+(24:UInt8).toBitVec);some (Qe (a0,a2,v2,(1:Int),()))) (cond (decide (a2.toNat<(65536#64).toNat)) (let v3:=Qf ((Qf (a1.toBitVec<<<5)).toBitVec+(25:UInt8).toBitVec);some (Qe (a0,a2,v3,(2:Int),()))) (cond (decide (a2.toNat<(4294967296#64).toNat)) (let v4:=Qf ((Qf (a1.toBitVec<<<5)).toBitVec+(26:UInt8).toBitVec);some (Qe (a0,a2,v4,(4:Int),()))) (let v5:=Qf ((Qf (a1.toBitVec<<<5)).toBitVec+(27:UInt8).toBitVec);some (Qe (a0,a2,v5,(8:Int),()))))))).bind (Qh (λj6=>cond (small (j6.1.length+([j6.2.2.1]).length) 1) ((Zhg_L1 (j6.1++[j6.2.2.1],j6.2.1,Qa .i64 (j6.2.2.2.1-1),())).bind λz8=>rt z8.1) none) some)
def c184:=cf c183 162 [qag,qaz,qd] [qk] (u3 Zhg)
def s_Zhg_L1:LSpec T:=⟨[(0,qag),(2,qd),(9,qc)],[(.exit 1,[(0,qag)])],Zhg_L1,[]⟩
def A_Zhg:Loc2 T:=lcA [(1,s_Zhg_L1)] [(12,[(0,qag),(2,qd),(7,qaz),(8,qc)],false)]
theorem Vr1:LO c184 Tryz.f162 1 s_Zhg_L1:=lx o183 A_Zhg dn (λ_=>rfl)
theorem o184:EO c184:=sx o183 A_Zhg Tryz.func162 (dc rfl Vr1 dn)
def Zhh(a0:Ua)(a1:Ja):O1 Ua:=
 cond (decide (a1.kind=7)) (let v1:=Qf ((244:UInt8).toBitVec+(Qf (Qi 8 a1.number)).toBitVec);cond (small (a0.length+([v1]).length) 1) (rt (a0++[v1])) none) (cond (decide (a1.kind=8)) (cond (small (a0.length+([246]:Ua).length) 1) (rt (a0++[246])) none) (cond (decide (a1.kind=3)) (cond (decide (a1.kind=3)) (let v2:=Qf (Qd 8 (Qa .i64 (a1.kind-1)));(Zhg a0 v2 (Qd 64 (a1.data.length:Int))).bind λr3=>cond (small (r3.2.1.length+(a1.data:Ua).length) 1) (rt (r3.2.1++a1.data)) none) (let v4:=Qf (Qd 8 (Qa .i64 (a1.kind-1)));(Zhg a0 v4 a1.number).bind λr5=>rt r5.2.1)) (cond (decide (a1.kind=4)) (let v6:=Qf (Qd 8 (Qa .i64 (a1.kind-1)));(Zhg a0 v6 (Qd 64 (a1.data.length:Int))).bind λr7=>cond (small (r7.2.1.length+(a1.data:Ua).length) 1) (rt (r7.2.1++a1.data)) none) (let v8:=Qf (Qd 8 (Qa .i64 (a1.kind-1)));(Zhg a0 v8 a1.number).bind λr9=>rt r9.2.1))))
def c185:=cf c184 114 [qag,qbh] [qk] (u2 Zhh)
theorem o185:EO c185:=sz o184 Tryz.func114
def c186:List (Ct T):=⟨239,none,S_Zie,true⟩::c185
theorem o186:EnvOk Tryz.prog (mE c186):=eCons Vfca o185
def Zik(a0 a1:Ua):O1 Bool:=
 cond (!(decide ((a0.length:Int)=(a1.length:Int)))) (rt (decide ((a0.length:Int)<(a1.length:Int)))) ((Zie a0 a1).bind λr1=>rt (decide (r1.2.1<0)))
def c187:=ct c186 165 [qg,qg] [qf] (u2 Zik)
theorem o187:EO c187:=sz o186 Tryz.func165
def Zia_L0b(y0:List Jc×Int×Unit)(y1:Int):Option ((((List (Jc))×Int×Unit)×Int×Unit)⊕(((List (Jc))×Int×Unit)×Unit)):=
 cond (decide (0<y1)) (cond (decide (0<=Qa .i64 (y1-1))&&decide (Qa .i64 (y1-1)<y0.1.length)) (y0.1[(Qa .i64 (y1-1)).toNat]?.bind λx10=>cond (decide (x10.left=0)) (cond (decide (0<=Qa .i64 (y1-1))&&decide (Qa .i64 (y1-1)<=y0.1.length)) (cond (decide ((Qa .i64 (y1-1)).toNat<=y0.1.length)) (some (Qe ((Qk (Qa .i64 (y1-1)).toNat y0.1,y0.2.1,()),Qa .i64 (y1-1),()))) none) none) (some (Qc ((y0.1,y0.2.1,()),())))) none) (some (Qc ((y0.1,y0.2.1,()),())))
def Zia_L0:=i2 Zia_L0b
def Zia(a0:List Jc×Int×Unit)(a1:Ja):Option (((List Jc×Int×Unit)×Unit)×Unit):=
 (cond (decide (0<(a0.1.length:Int))) (cond (decide (0<=Qa .i64 ((a0.1.length:Int)-1))&&decide (Qa .i64 ((a0.1.length:Int)-1)<a0.1.length)) (a0.1[(Qa .i64 ((a0.1.length:Int)-1)).toNat]?.bind λx1=>cond (decide (0<=Qa .i64 ((a0.1.length:Int)-1))&&decide (Qa .i64 ((a0.1.length:Int)-1)<a0.1.length)) (a0.1[(Qa .i64 ((a0.1.length:Int)-1)).toNat]?.bind λx2=>let v3:=Qj a0.1 (Qa .i64 ((a0.1.length:Int)-1)).toNat ({x2 with left:=Qa .i64 (x1.left-1)}:Jc);some ((v3,Qa .i64 (a0.2.1+1),()),(a1,()),())) none) none) (some ((a0.1,Qa .i64 (a0.2.1+1),()),(a1,()),()))).bind λj4=>(cond (decide (j4.2.1.1.kind=5)) (cond (decide ((0#64).toNat<j4.2.1.1.number.toNat)) (let v5:List Jc:=[{left:=Qa .i64 (j4.2.1.1.number.toNat:Int)}];cond (small (j4.1.1.length+(v5:List Jc).length) 40) (some ((j4.1.1++v5,j4.1.2.1,()),(j4.2.1.1,()),())) none) (some ((j4.1.1,j4.1.2.1,()),(j4.2.1.1,()),()))) (some ((j4.1.1,j4.1.2.1,()),(j4.2.1.1,()),()))).bind λj6=>(cond (decide (j6.2.1.1.kind=6)) (cond (decide ((0#64).toNat<j6.2.1.1.number.toNat)) (let v7:=Qa .i64 (2*Qa .i64 (j6.2.1.1.number.toNat:Int));cond (small (j6.1.1.length+([⟨true,v7,[]⟩]:List Jc).length) 40) (let v8:=j6.1.1++[⟨true,v7,[]⟩];some ((v8,j6.1.2.1,()),())) none) (some ((j6.1.1,j6.1.2.1,()),()))) (some ((j6.1.1,j6.1.2.1,()),()))).bind λj9=>(Zia_L0 ((j9.1.1,j9.1.2.1,()),(j9.1.1.length:Int),())).bind λz11=>some (((z11.1.1,z11.1.2.1,()),()),())
def c188:=cf c187 166 [qad,qbh] [] (u2 Zia)
def s_Zia_L0:LSpec T:=⟨[(0,qad),(5,qc)],[(.exit 0,[(0,qad)])],Zia_L0,[]⟩
def A_Zia:Loc2 T:=lcA [(0,s_Zia_L0)] [(5,[(0,qad),(3,qat)],true),(7,[(0,qad),(3,qat)],true),(9,[(0,qad)],true)]
theorem Vr2:LO c188 Tryz.f166 0 s_Zia_L0:=lx o187 A_Zia dn (λ_=>rfl)
theorem o188:EO c188:=sx o187 A_Zia Tryz.func166 (dc rfl Vr2 dn)
def Zfx(a0:List Jc×Int×Unit)(a1:Ja):Option (((List Jc×Int×Unit)×Unit)×Int×Unit):=
 cond (decide (a1.kind=4)) ((Zhf a1.data).bind λr1=>cond (!r1.2.1) (some (((a0.1,a0.2.1,()),()),6,())) ((Zhj ⟨a0.1,a0.2.1⟩).bind λr2=>cond r2.2.1 (cond (decide (0<=Qa .i64 ((a0.1.length:Int)-1))&&decide (Qa .i64 ((a0.1.length:Int)-1)<a0.1.length)) ((Zhh [] a1).bind λr3=>a0.1[(Qa .i64 ((a0.1.length:Int)-1)).toNat]?.bind λx4=>cond (!x4.jab.isEmpty) (a0.1[(Qa .i64 ((a0.1.length:Int)-1)).toNat]?.bind λx5=>(Zik x5.jab r3.2.1).bind λr6=>cond (!r6.2.1) (some (((a0.1,a0.2.1,()),()),7,())) (a0.1[(Qa .i64 ((a0.1.length:Int)-1)).toNat]?.bind λx7=>cond r3.2.1.isEmpty none (let v8:=Qj a0.1 (Qa .i64 ((a0.1.length:Int)-1)).toNat ({x7 with jab:=r3.2.1}:Jc);(Zia (v8,a0.2.1,()) a1).bind λr9=>some (((r9.1.1.1,r9.1.1.2.1,()),()),0,())))) (a0.1[(Qa .i64 ((a0.1.length:Int)-1)).toNat]?.bind λx10=>cond r3.2.1.isEmpty none (let v11:=Qj a0.1 (Qa .i64 ((a0.1.length:Int)-1)).toNat ({x10 with jab:=r3.2.1}:Jc);(Zia (v11,a0.2.1,()) a1).bind λr12=>some (((r12.1.1.1,r12.1.1.2.1,()),()),0,())))) none) ((Zia (a0.1,a0.2.1,()) a1).bind λr13=>some (((r13.1.1.1,r13.1.1.2.1,()),()),0,())))) ((Zhj ⟨a0.1,a0.2.1⟩).bind λr14=>cond r14.2.1 (cond (decide (0<=Qa .i64 ((a0.1.length:Int)-1))&&decide (Qa .i64 ((a0.1.length:Int)-1)<a0.1.length)) ((Zhh [] a1).bind λr15=>a0.1[(Qa .i64 ((a0.1.length:Int)-1)).toNat]?.bind λx16=>cond (!x16.jab.isEmpty) (a0.1[(Qa .i64 ((a0.1.length:Int)-1)).toNat]?.bind λx17=>(Zik x17.jab r15.2.1).bind λr18=>cond (!r18.2.1) (some (((a0.1,a0.2.1,()),()),7,())) (a0.1[(Qa .i64 ((a0.1.length:Int)-1)).toNat]?.bind λx19=>cond r15.2.1.isEmpty none (let v20:=Qj a0.1 (Qa .i64 ((a0.1.length:Int)-1)).toNat ({x19 with jab:=r15.2.1}:Jc);(Zia (v20,a0.2.1,()) a1).bind λr21=>some (((r21.1.1.1,r21.1.1.2.1,()),()),0,())))) (a0.1[(Qa .i64 ((a0.1.length:Int)-1)).toNat]?.bind λx22=>cond r15.2.1.isEmpty none (let v23:=Qj a0.1 (Qa .i64 ((a0.1.length:Int)-1)).toNat ({x22 with jab:=r15.2.1}:Jc);(Zia (v23,a0.2.1,()) a1).bind λr24=>some (((r24.1.1.1,r24.1.1.2.1,()),()),0,())))) none) ((Zia (a0.1,a0.2.1,()) a1).bind λr25=>some (((r25.1.1.1,r25.1.1.2.1,()),()),0,())))
def c189:=cf c188 118 [qad,qbh] [qa] (u2 Zfx)
theorem o189:EO c189:=sz o188 Tryz.func118
def Zew(a0:List Jc×Int×Unit)(a1:Ja):Option (((List Jc×Int×Unit)×Unit)×Int×Unit):=
 (Zhz ⟨a0.1,a0.2.1⟩).bind λr1=>cond r1.2.1 (some (((a0.1,a0.2.1,()),()),2,())) ((Zhi ⟨a0.1,a0.2.1⟩ a1.kind).bind λr2=>cond (!(decide (r2.2.1=0))) (some (((a0.1,a0.2.1,()),()),r2.2.1,())) ((Zis a1).bind λr3=>cond (!r3.2.1) (some (((a0.1,a0.2.1,()),()),4,())) (cond (decide (1024<(a1.data.length:Int))) (some (((a0.1,a0.2.1,()),()),8,())) (cond (decide (a1.kind=5)) (cond (decide ((512#64).toNat<a1.number.toNat)) (some (((a0.1,a0.2.1,()),()),8,())) ((Zfx (a0.1,a0.2.1,()) a1).bind λr4=>some (((r4.1.1.1,r4.1.1.2.1,()),()),r4.2.1,()))) (cond (decide (a1.kind=6)) (cond (decide ((512#64).toNat<a1.number.toNat)) (some (((a0.1,a0.2.1,()),()),8,())) ((Zfx (a0.1,a0.2.1,()) a1).bind λr5=>some (((r5.1.1.1,r5.1.1.2.1,()),()),r5.2.1,()))) ((Zfx (a0.1,a0.2.1,()) a1).bind λr6=>some (((r6.1.1.1,r6.1.1.2.1,()),()),r6.2.1,())))))))
def c190:=cf c189 161 [qad,qbh] [qa] (u2 Zew)
theorem o190:EO c190:=sz o189 Tryz.func161
def Zif_L0b(y0:List Jc×Int×Unit)(y1:List Ja)(y2 y3:Int):Option ((((List (Jc))×Int×Unit)×(List (Ja))×Int×Int×Unit)⊕((Int×Unit)⊕(((List (Jc))×Int×Unit)×Unit))):=
 cond (decide (y3<y2)) ((getI y1 y3).bind λx1=>(Zew (y0.1,y0.2.1,()) x1).bind λr2=>cond (!(decide (r2.2.1=0))) (some (Qc (Qe (r2.2.1,())))) (some (Qe ((r2.1.1.1,r2.1.1.2.1,()),y1,y2,Qa .i64 (y3+1),())))) (some (Qc (Qc ((y0.1,y0.2.1,()),()))))
def Zif_L0:=i4 Zif_L0b
def Zif(a0:List Ja):O1 Int:=
 (Zif_L0 (([],0,()),a0,(a0.length:Int),0,())).bind (Qh (λz3=>rt z3.1) (λz4=>(Zhz ⟨z4.1.1,z4.1.2.1⟩).bind λr5=>cond (!r5.2.1) (rt 1) (rt 0)))
def S_Zif:FSpec T:=⟨[qq],[qa],λx=>Zif x.1⟩
def s_Zif_L0:LSpec T:=⟨[(3,qad),(7,qq),(8,qc),(9,qc)],[(.ret,[(2,qc)]),(.exit 0,[(3,qad)])],Zif_L0,[]⟩
def A_Zif:Loc2 T:=lcA [(0,s_Zif_L0)] []
theorem Vr3:LoopOk Tryz.prog (mE c190) Tryz.f113.ntmps (kqOf S_Zif.ps 0) (loopAt 0 (bodyOf Tryz.f113)) s_Zif_L0:=
 lpC hmix o190 A_Zif Vag 0 (st:=λy=>Zif_L0b y.1 y.2.1 y.2.2.1 y.2.2.2.1) (λ_=>rfl) (by kernel_rfl) (by kernel_rfl) λx=>by kernel_rfl
theorem Vaka:SoundT Tryz.prog cd gdn 113 S_Zif:=
 sndC hmix o190 A_Zif Tryz.func113 (Vbt rfl Vr3 Vag) (by kernel_rfl) (by kernel_rfl) λx=>by kernel_rfl
def c191:List (Ct T):=⟨113,none,S_Zif,true⟩::c190
theorem o191:EnvOk Tryz.prog (mE c191):=eCons Vaka o190
def Zir_L0b(y0:List (List Ja))(y1 y2:Int):Option (((List (List Ja))×Int×Int×Unit)⊕((Int×Unit)⊕(Unit))):=
 cond (decide (y2<y1)) ((getI y0 y2).bind λx1=>(Zif x1).bind λr2=>cond (!(decide (r2.2.1=0))) (some (Qc (Qe (r2.2.1,())))) (some (Qe (y0,y1,Qa .i64 (y2+1),())))) (some (Qc (Qc ())))
def Zir_L0:=i3 Zir_L0b
def Zir(a0:List (List Ja)):O1 Int:=
 (Zir_L0 (a0,(a0.length:Int),0,())).bind (Qh (λz3=>rt z3.1) (λz4=>rt 0))
def c192:=ct c191 111 [qab] [qa] (u1 Zir)
def s_Zir_L0:LSpec T:=⟨[(6,qab),(7,qc),(8,qc)],[(.ret,[(2,qc)]),(.exit 0,[])],Zir_L0,[]⟩
def A_Zir:Loc2 T:=lcA [(0,s_Zir_L0)] []
theorem Vr4:LO c192 Tryz.f111 0 s_Zir_L0:=lx o191 A_Zir dn (λ_=>rfl)
theorem o192:EO c192:=sx o191 A_Zir Tryz.func111 (dc rfl Vr4 dn)
def Zij(a0:List Ja):O2 (List Ja) Int:=
 (Zif a0).bind λr1=>cond (!(decide (r1.2.1=0))) (ru [] r1.2.1) (ru a0 0)
def c193:=cf c192 112 [qq] [qba,qa] (u1 Zij)
theorem o193:EO c193:=sz o192 Tryz.func112
def Zit_L0b(y0:List Ja)(y1:List (List Ja))(y2 y3:Int):Option (((List (Ja))×(List (List Ja))×Int×Int×Unit)⊕((List (Ja))×Unit)):=
 cond (decide (y3<y2)) ((getI y1 y3).bind λx3=>cond (decide (512<(y0.length:Int))) (some (Qc (y0,()))) (cond (small (y0.length+(x3:List Ja).length) 32) (some (Qe (y0++x3,y1,y2,Qa .i64 (y3+1),()))) none)) (some (Qc (y0,())))
def Zit_L0:=i4 Zit_L0b
def Zit(a0:List (List Ja)):O2 (List Ja) Int:=
 (Zir a0).bind λr1=>cond (!(decide (r1.2.1=0))) (ru [] r1.2.1) (let v2:List Ja:=[⟨5,Qd 64 (a0.length:Int),[]⟩];(Zit_L0 (v2,a0,(a0.length:Int),0,())).bind λz4=>(Zij z4.1).bind λr5=>ru r5.2.1 r5.2.2.1)
def c194:=cf c193 115 [qab] [qba,qa] (u1 Zit)
def s_Zit_L0:LSpec T:=⟨[(5,qay),(18,qab),(19,qc),(20,qc)],[(.exit 0,[(5,qay)])],Zit_L0,[]⟩
def A_Zit:Loc2 T:=lcA [(0,s_Zit_L0)] []
theorem Vr5:LO c194 Tryz.f115 0 s_Zit_L0:=lx o193 A_Zit dn (λ_=>rfl)
theorem o194:EO c194:=sx o193 A_Zit Tryz.func115 (dc rfl Vr5 dn)
def Zih(a0:List (List Ja)):O1 (List Ja):=
 (Zit a0).bind λr1=>cond (!(decide (r1.2.2.1=0))) (rt []) (rt r1.2.1)
def c195:=cf c194 71 [qab] [qba] (u1 Zih)
theorem o195:EO c195:=sz o194 Tryz.func71
def Zhm_L0b(y0:List (List Ja))(y1:List Ua)(y2 y3:Int):Option (((List (List Ja))×(List Ua)×Int×Int×Unit)⊕((List (List Ja))×Unit)):=
 cond (decide (y3<y2)) ((getI y1 y3).bind λx1=>(Ziu x1).bind λr2=>cond (small (y0.length+([r2.2.1]).length) 24) (some (Qe (y0++[r2.2.1],y1,y2,Qa .i64 (y3+1),()))) none) (some (Qc (y0,())))
def Zhm_L0:=i4 Zhm_L0b
def Zhm(a0:List Ua):O1 (List Ja):=
 (Zhm_L0 ([],a0,(a0.length:Int),0,())).bind λz3=>(Zih z3.1).bind λr4=>rt r4.2.1
def c196:=cf c195 27 [qaf] [qba] (u1 Zhm)
def s_Zhm_L0:LSpec T:=⟨[(3,qa2),(6,qaf),(7,qc),(8,qc)],[(.exit 0,[(3,qa2)])],Zhm_L0,[]⟩
def A_Zhm:Loc2 T:=lcA [(0,s_Zhm_L0)] []
theorem Vr6:LO c196 Tryz.f27 0 s_Zhm_L0:=lx o195 A_Zhm dn (λ_=>rfl)
theorem o196:EO c196:=sx o195 A_Zhm Tryz.func27 (dc rfl Vr6 dn)
def Zix(a0:Bool):O1 (List Ja):=
 cond a0 (let v1:List Ja:=[⟨7,1#64,[]⟩];rt v1) (let v2:List Ja:=[{kind:=7}];rt v2)
def c197:=cf c196 28 [qs] [qah] (u1 Zix)
theorem o197:EO c197:=sz o196 Tryz.func28
def Zhk(a0:Ub):O1 Int:=
 (cond (decide ((4294967296#64).toNat<=a0.toNat)) (some (a0>>>32,(32:Int),())) (some (a0,(0:Int),()))).bind λj1=>(cond (decide ((65536#64).toNat<=j1.1.toNat)) (some (j1.1>>>16,Qa .i64 (j1.2.1+16),())) (some (j1.1,j1.2.1,()))).bind λj2=>cond (decide ((256#64).toNat<=j2.1.toNat)) (([0,1,2,2,3,3,3,3,4,4,4,4,4,4,4,4,5,5,5,5,5,5,5,5,5,5,5,5,5,5,5,5,6,6,6,6,6,6,6,6,6,6,6,6,6,6,6,6,6,6,6,6,6,6,6,6,6,6,6,6,6,6,6,6,7,7,7,7,7,7,7,7,7,7,7,7,7,7,7,7,7,7,7,7,7,7,7,7,7,7,7,7,7,7,7,7,7,7,7,7,7,7,7,7,7,7,7,7,7,7,7,7,7,7,7,7,7,7,7,7,7,7,7,7,7,7,7,7,8,8,8,8,8,8,8,8,8,8,8,8,8,8,8,8,8,8,8,8,8,8,8,8,8,8,8,8,8,8,8,8,8,8,8,8,8,8,8,8,8,8,8,8,8,8,8,8,8,8,8,8,8,8,8,8,8,8,8,8,8,8,8,8,8,8,8,8,8,8,8,8,8,8,8,8,8,8,8,8,8,8,8,8,8,8,8,8,8,8,8,8,8,8,8,8,8,8,8,8,8,8,8,8,8,8,8,8,8,8,8,8,8,8,8,8,8,8,8,8,8,8,8,8,8,8,8,8]:Ua)[(Qf (Qi 8 (j2.1>>>8))).toNat]?.bind λx3=>let v4:=Qa .i64 (Qa .i64 (j2.2.1+8)+(x3.toBitVec.toNat:Int));rt v4) (([0,1,2,2,3,3,3,3,4,4,4,4,4,4,4,4,5,5,5,5,5,5,5,5,5,5,5,5,5,5,5,5,6,6,6,6,6,6,6,6,6,6,6,6,6,6,6,6,6,6,6,6,6,6,6,6,6,6,6,6,6,6,6,6,7,7,7,7,7,7,7,7,7,7,7,7,7,7,7,7,7,7,7,7,7,7,7,7,7,7,7,7,7,7,7,7,7,7,7,7,7,7,7,7,7,7,7,7,7,7,7,7,7,7,7,7,7,7,7,7,7,7,7,7,7,7,7,7,8,8,8,8,8,8,8,8,8,8,8,8,8,8,8,8,8,8,8,8,8,8,8,8,8,8,8,8,8,8,8,8,8,8,8,8,8,8,8,8,8,8,8,8,8,8,8,8,8,8,8,8,8,8,8,8,8,8,8,8,8,8,8,8,8,8,8,8,8,8,8,8,8,8,8,8,8,8,8,8,8,8,8,8,8,8,8,8,8,8,8,8,8,8,8,8,8,8,8,8,8,8,8,8,8,8,8,8,8,8,8,8,8,8,8,8,8,8,8,8,8,8,8,8,8,8,8,8]:Ua)[(Qf (Qi 8 j2.1)).toNat]?.bind λx5=>rt (Qa .i64 (j2.2.1+(x5.toBitVec.toNat:Int))))
def c198:=ct c197 237 [qd] [qa] (u1 Zhk)
theorem o198:EO c198:=sx o197 (lcA [] [(4,[(0,qd),(2,qc)],true),(7,[(0,qd),(2,qc)],true)]) Tryz.func237 dn
def Zig(a0:Ub):O1 Int:=
 (Zhk a0).bind λr1=>rt r1.2.1
def c199:=ct c198 159 [qd] [qa] (u1 Zig)
theorem o199:EO c199:=sz o198 Tryz.func159
def Zfz(a0:Ub):O1 Bool:=
 rt (!(decide (a0=a0)))
def c200:=ct c199 160 [qd] [qf] (u1 Zfz)
theorem o200:EO c200:=sz o199 Tryz.func160
def Zdq(a0 a1:Ub):O1 Int:=
 (Zfz a0).bind λr1=>(Zfz a1).bind λr2=>cond r1.2.1 (cond r2.2.1 (rt 0) (rt (-1))) (cond r2.2.1 (rt 1) (cond (decide (a0.toNat<a1.toNat)) (rt (-1)) (cond (decide (a1.toNat<a0.toNat)) (rt 1) (rt 0))))
def c201:=ct c200 110 [qd,qd] [qa] (u2 Zdq)
theorem o201:EO c201:=sz o200 Tryz.func110
def Ziv(a0 a1:Int)(a2:List Ub):O1 Int:=
 (getI a2 a0).bind λx1=>(getI a2 a1).bind λx2=>(Zdq x1 x2).bind λr3=>rt r3.2.1
def c202:=ct c201 109 [qc,qc,qan] [qa] (u3 Ziv)
theorem o202:EO c202:=sz o201 Tryz.func109
def Zab_L2b(y0:List Int)(y1 y2:Int)(y3:List Ub×Unit)(y4 y5:Int):Option (((List (Int))×Int×Int×((List Ub)×Unit)×Int×Int×Unit)⊕((List (Int))×Int×Int×((List Ub)×Unit)×Int×Unit)):=
 cond (decide (y1<y5)) (cond (decide (0<=y5)&&decide (y5<y0.length)) (y0[y5.toNat]?.bind λx1=>cond (decide (0<=Qa .i64 (y5-1))&&decide (Qa .i64 (y5-1)<y0.length)) (y0[(Qa .i64 (y5-1)).toNat]?.bind λx2=>(Ziv x1 x2 y3.1).bind λr3=>cond (decide (r3.2.1<0)) (cond (decide (0<=Qa .i64 (y5-1))&&decide (Qa .i64 (y5-1)<y0.length)) (y0[(Qa .i64 (y5-1)).toNat]?.bind λx4=>cond (decide (0<=y5)&&decide (y5<y0.length)) (y0[y5.toNat]?.bind λx5=>cond (decide (0<=y5)&&decide (y5<y0.length)) (y0[y5.toNat]?.bind λx6=>cond (decide (0<=Qa .i64 (y5-1))&&decide (Qa .i64 (y5-1)<y0.length)) ((Qj y0 y5.toNat x4)[(Qa .i64 (y5-1)).toNat]?.bind λx7=>let v8:=Qj (Qj y0 y5.toNat x4) (Qa .i64 (y5-1)).toNat x5;some (Qe (v8,y1,y2,(y3.1,()),y4,Qa .i64 (y5-1),()))) none) none) none) none) (some (Qc (y0,y1,y2,(y3.1,()),y4,())))) none) none) (some (Qc (y0,y1,y2,(y3.1,()),y4,())))
def Zab_L2:=i6 Zab_L2b
def Zab_L0b(y0:List Int)(y1 y2:Int)(y3:List Ub×Unit)(y4:Int):Option (((List (Int))×Int×Int×((List Ub)×Unit)×Int×Unit)⊕((List (Int))×Unit)):=
 cond (decide (y4<y2)) ((Zab_L2 (y0,y1,y2,(y3.1,()),y4,y4,())).bind λz1=>some (Qe (z1.1,z1.2.1,z1.2.2.1,(z1.2.2.2.1.1,()),Qa .i64 (z1.2.2.2.2.1+1),()))) (some (Qc (y0,())))
def Zab_L0:=i5 Zab_L0b
def Zab(a0:List Int)(a1 a2:Int)(a3:List Ub×Unit):Option ((List Int×Unit)×Unit):=
 (Zab_L0 (a0,a1,a2,(a3.1,()),Qa .i64 (a1+1),())).bind λz2=>some ((z2.1,()),())
def c203:List (Ct T):=⟨228,(some (3,109)),⟨[(.inp 2),qc,qc,.f qx],[],(u4 Zab)⟩,false⟩::c202
def s_Zab_L2:LSpec T:=⟨[(0,qam),(1,qc),(2,qc),(3,.f qx),(8,qc),(9,qc)],[(.exit 2,[(0,qam),(1,qc),(2,qc),(3,.f qx),(8,qc)])],Zab_L2,[]⟩
def s_Zab_L0:LSpec T:=⟨[(0,qam),(1,qc),(2,qc),(3,.f qx),(8,qc)],[(.exit 0,[(0,qam)])],Zab_L0,[]⟩
def A_Zab:Loc2 T:=lcA [(2,s_Zab_L2),(0,s_Zab_L0)] []
theorem Vlk:LO c203 Tryz.f228 2 s_Zab_L2:=lx o202 A_Zab dn (λ_=>rfl)
theorem Vr7:LO c203 Tryz.f228 0 s_Zab_L0:=lx o202 A_Zab (dc rfl Vlk dn) (λ_=>rfl)
theorem o203:EO c203:=sx o202 A_Zab Tryz.func228 (dc rfl Vlk (dc rfl Vr7 dn))
def Zaj_L0b(y0:List Int)(y1 y2 y3:Int)(y4:List Ub×Unit)(y5 y6:Bool):Option (((List (Int))×Int×Int×Int×((List Ub)×Unit)×Bool×Bool×Unit)⊕((List (Int))×Unit)):=
 cond (decide (Qa .i64 (y2-y1)<=12)) ((Zab y0 y1 y2 (y4.1,())).bind λr1=>some (Qc (r1.1.1,()))) (cond (decide (y3=0)) none ((cond (!y5) none (some (y0,y1,y2,y3,(y4.1,()),y5,y6,Qa .i64 (y2-y1),()))).bind λj2=>none))
def Zaj_L0:=i7 Zaj_L0b
def Zaj(a0:List Int)(a1 a2 a3:Int)(a4:List Ub×Unit):Option ((List Int×Unit)×Unit):=
 (Zaj_L0 (a0,a1,a2,a3,(a4.1,()),true,true,())).bind λz3=>some ((z3.1,()),())
def c204:List (Ct T):=⟨158,(some (4,109)),⟨[(.inp 2),qc,qc,qc,.f qx],[],(u5 Zaj)⟩,false⟩::c203
def s_Zaj_L0:LSpec T:=⟨[(0,qam),(1,qc),(2,qc),(3,qc),(4,.f qx),(10,qs),(11,qs)],[(.ret,[(0,qam)])],Zaj_L0,[]⟩
def A_Zaj:Loc2 T:=lcA [(0,s_Zaj_L0)] [(10,[(0,qam),(1,qc),(2,qc),(3,qc),(4,.f qx),(10,qs),(11,qs),(12,qc)],true)]
theorem Vr8:LO c204 Tryz.f158 0 s_Zaj_L0:=lx o203 A_Zaj dn (λ_=>rfl)
theorem o204:EO c204:=sx o203 A_Zaj Tryz.func158 (dc rfl Vr8 dn)
def Zbd(a0:List Int)(a1:List Ub×Unit):Option ((List Int×Unit)×Unit):=
 (Zig (Qd 64 (a0.length:Int))).bind λr1=>(Zaj a0 0 (a0.length:Int) r1.2.1 (a1.1,())).bind λr2=>some ((r2.1.1,()),())
def c205:List (Ct T):=⟨108,(some (1,109)),⟨[(.inp 2),.f qx],[],(u2 Zbd)⟩,false⟩::c204
theorem o205:EO c205:=sz o204 Tryz.func108
def cbor_Map_L0b(y0:List (List Ja))(y1:List Ub)(y2:List Int)(y3 y4:Int):Option (((List (List Ja))×(List Ub)×(List (Int))×Int×Int×Unit)⊕((List (List Ja))×(List Ub)×(List (Int))×Unit)):=
 cond (decide (y4<y3)) (cond (decide (0<=y4)&&decide (y4<y2.length)) (y2[y4.toNat]?.bind λx2=>some (Qe (y0,y1,Qj y2 y4.toNat y4,y3,Qa .i64 (y4+1),()))) none) (some (Qc (y0,y1,y2,())))
def cbor_Map_L0:=i5 cbor_Map_L0b
def cbor_Map_L2b(y0:List (List Ja))(y1:List Ub)(y2:List Int)(y3:Int):Option (((List (List Ja))×(List Ub)×(List (Int))×Int×Unit)⊕(((List (Ja))×Int×Unit)⊕((List (List Ja))×(List Ub)×(List (Int))×Unit))):=
 cond (decide (y3<y2.length)) (cond (decide (0<=Qa .i64 (y3-1))&&decide (Qa .i64 (y3-1)<y2.length)) (y2[(Qa .i64 (y3-1)).toNat]?.bind λx5=>(getI y1 x5).bind λx6=>cond (decide (0<=y3)&&decide (y3<y2.length)) (y2[y3.toNat]?.bind λx7=>(getI y1 x7).bind λx8=>cond (decide (x6=x8)) (some (Qc (Qe ([],10,())))) (some (Qe (y0,y1,y2,Qa .i64 (y3+1),())))) none) none) (some (Qc (Qc (y0,y1,y2,()))))
def cbor_Map_L2:=i4 cbor_Map_L2b
def cbor_Map_L4b(y0:List (List Ja))(y1:List Ub)(y2:List Ja)(y3:List Int)(y4 y5:Int):Option (((List (List Ja))×(List Ub)×(List (Ja))×(List (Int))×Int×Int×Unit)⊕((List (Ja))×Unit)):=
 cond (decide (y5<y4)) (cond (decide (0<=y5)&&decide (y5<y3.length)) (y3[y5.toNat]?.bind λx13=>cond (decide (512<(y2.length:Int))) (some (Qc (y2,()))) ((getI y1 x13).bind λx14=>(Ziz x14).bind λr15=>cond (small (y2.length+(r15.2.1:List Ja).length) 32) ((getI y0 x13).bind λx16=>cond (small ((y2++r15.2.1).length+(x16:List Ja).length) 32) (some (Qe (y0,y1,y2++r15.2.1++x16,y3,y4,Qa .i64 (y5+1),()))) none) none)) none) (some (Qc (y2,())))
def cbor_Map_L4:=i6 cbor_Map_L4b
def cbor_Map(a0:List Ub)(a1:List (List Ja)):O2 (List Ja) Int:=
 cond (!(decide ((a0.length:Int)=(a1.length:Int)))) (ru [] 4) (cond (decide (0<=(a0.length:Int))&&(decide ((a0.length:Int)<=(a0.length:Int))&&decide (8*(a0.length:Int)<=281474976710656/\(a0.length:Int)<=9223372036854775807))) (let v1:=List.replicate (a0.length:Int).toNat (0:Int);(cbor_Map_L0 (a1,a0,v1,((a0.length:Int).toNat:Int),0,())).bind λz3=>(Zbd z3.2.2.1 (z3.2.1,())).bind λr4=>(cbor_Map_L2 (z3.1,z3.2.1,r4.1.1,1,())).bind (Qh (λz9=>ru z9.1 z9.2.1) (λz10=>(Zir z10.1).bind λr11=>cond (!(decide (r11.2.1=0))) (ru [] r11.2.1) (let v12:List Ja:=[⟨6,Qd 64 (z10.2.1.length:Int),[]⟩];(cbor_Map_L4 (z10.1,z10.2.1,v12,z10.2.2.1,(z10.2.2.1.length:Int),0,())).bind λz17=>(Zij z17.1).bind λr18=>ru r18.2.1 r18.2.2.1)))) none)
def c206:=cf c205 68 [qax,qab] [qba,qa] (u2 cbor_Map)
def s_cbor_Map_L0:LSpec T:=⟨[(1,qab),(2,qan),(6,qam),(22,qc),(23,qc)],[(.exit 0,[(1,qab),(2,qan),(6,qam)])],cbor_Map_L0,[]⟩
def s_cbor_Map_L2:LSpec T:=⟨[(1,qab),(2,qan),(6,qam),(8,qc)],[(.ret,[(4,qay),(5,qc)]),(.exit 2,[(1,qab),(2,qan),(6,qam)])],cbor_Map_L2,[]⟩
def s_cbor_Map_L4:LSpec T:=⟨[(1,qab),(2,qan),(10,qay),(66,qam),(67,qc),(68,qc)],[(.exit 4,[(10,qay)])],cbor_Map_L4,[]⟩
def A_cbor_Map:Loc2 T:=lcA [(0,s_cbor_Map_L0),(2,s_cbor_Map_L2),(4,s_cbor_Map_L4)] []
theorem Vc0:LO c206 Tryz.f68 0 s_cbor_Map_L0:=lx o205 A_cbor_Map dn (λ_=>rfl)
theorem Veu:LO c206 Tryz.f68 2 s_cbor_Map_L2:=lx o205 A_cbor_Map (dc rfl Vc0 dn) (λ_=>rfl)
theorem Viv:LO c206 Tryz.f68 4 s_cbor_Map_L4:=lx o205 A_cbor_Map (dc rfl Vc0 (dc rfl Veu dn)) (λ_=>rfl)
theorem o206:EO c206:=sx o205 A_cbor_Map Tryz.func68 (dc rfl Vc0 (dc rfl Veu (dc rfl Viv dn)))
def Zip_L0b(y0:Ua)(y1:List Ja)(y2 y3:Int):Option ((Ua×(List (Ja))×Int×Int×Unit)⊕(Ua×Unit)):=
 cond (decide (y3<y2)) ((getI y1 y3).bind λx2=>(Zhh y0 x2).bind λr3=>some (Qe (r3.2.1,y1,y2,Qa .i64 (y3+1),()))) (some (Qc (y0,())))
def Zip_L0:=i4 Zip_L0b
def Zip(a0:List Ja):O2 Ua Int:=
 (Zif a0).bind λr1=>cond (!(decide (r1.2.1=0))) (ru [] r1.2.1) ((Zip_L0 ([],a0,(a0.length:Int),0,())).bind λz4=>ru z4.1 0)
def c207:=cf c206 69 [qq] [qk,qa] (u1 Zip)
def s_Zip_L0:LSpec T:=⟨[(5,qag),(13,qq),(14,qc),(15,qc)],[(.exit 0,[(5,qag)])],Zip_L0,[]⟩
def A_Zip:Loc2 T:=lcA [(0,s_Zip_L0)] []
theorem Vr9:LO c207 Tryz.f69 0 s_Zip_L0:=lx o206 A_Zip dn (λ_=>rfl)
theorem o207:EO c207:=sx o206 A_Zip Tryz.func69 (dc rfl Vr9 dn)
def message_encode_L0b(y0:UInt8)(y1:BitVec 32)(y2:List Ub)(y3 y4:List (List Ja))(y5 y6:Int):Option ((UInt8×(BitVec 32)×(List Ub)×(List (List Ja))×(List (List Ja))×Int×Int×Unit)⊕(UInt8×(List Ub)×(List (List Ja))×Unit)):=
 cond (decide (y6<y5)) ((getI y4 y6).bind λx1=>cond (decide (0<=Qa .i64 (y6+1))) (let v2:=y1>>>(Qa .i64 (y6+1)).toNat&&&1#32;cond (decide (v2=1#32)) (let v3:List Ub:=[Qd 64 (Qa .i64 (y6+1))];cond (small (y2.length+(v3:List Ub).length) 8) (cond (small (y3.length+([x1]).length) 24) (some (Qe (y0,y1,y2++v3,y3++[x1],y4,y5,Qa .i64 (y6+1),()))) none) none) (some (Qe (y0,y1,y2,y3,y4,y5,Qa .i64 (y6+1),())))) none) (some (Qc (y0,y2,y3,())))
def message_encode_L0:=i7 message_encode_L0b
def message_encode(a0:UInt8)(a1:BitVec 32)(a2:List (List Ja)):O2 Ua Int:=
 (message_encode_L0 (a0,a1,[],[],a2,(a2.length:Int),0,())).bind λz4=>(cbor_Map z4.2.1 z4.2.2.1).bind λr5=>cond (!(decide (r5.2.2.1=0))) (ru [] r5.2.2.1) ((Zip r5.2.1).bind λr6=>cond (!(decide (r6.2.2.1=0))) (ru [] r6.2.2.1) (cond (small (([z4.1]).length+(r6.2.1:Ua).length) 1) (ru ([z4.1]++r6.2.1) 0) none))
def c208:=cf c207 22 [qaz,qa1,qab] [qk,qa] (u3 message_encode)
def s_message_encode_L0:LSpec T:=⟨[(0,qaz),(1,qa1),(8,(.f (.own 8))),(9,qa2),(15,qab),(16,qc),(17,qc)],[(.exit 0,[(0,qaz),(8,(.f (.own 8))),(9,qa2)])],message_encode_L0,[]⟩
def A_message_encode:Loc2 T:=lcA [(0,s_message_encode_L0)] []
theorem Ves:LO c208 Tryz.f22 0 s_message_encode_L0:=lx o207 A_message_encode dn (λ_=>rfl)
theorem o208:EO c208:=sx o207 A_message_encode Tryz.func22 (dc rfl Ves dn)
def Zbo(a0:Jb):O2 Ua Int:=
 (Zga a0).bind λr1=>cond (!(decide (r1.2.1=0))) (ru [] r1.2.1) ((Zii a0).bind λr2=>(Ziy a0.rP).bind λr3=>(Ziu a0.user).bind λr4=>(Ziy a0.name).bind λr5=>(Ziz a0.jz).bind λr6=>(Ziz (Qd 64 a0.jd)).bind λr7=>(Ziz (Qd 64 a0.je)).bind λr8=>(Zhm a0.list).bind λr9=>(Zix a0.jg).bind λr10=>(Zix a0.js).bind λr11=>(Zix a0.jt).bind λr12=>(Zix a0.jo).bind λr13=>(Ziz (Qd 64 a0.jk)).bind λr14=>(Ziz a0.auth).bind λr15=>(Ziz a0.jv).bind λr16=>(Ziu a0.box).bind λr17=>(Ziu a0.proof).bind λr18=>(Ziz (Qd 64 a0.jb)).bind λr19=>(Ziu a0.iD).bind λr20=>(Ziz (Qd 64 a0.count)).bind λr21=>let v22:List (List Ja):=[r3.2.1,r4.2.1,r5.2.1,r6.2.1,r7.2.1,r8.2.1,r9.2.1,r10.2.1,r11.2.1,r12.2.1,r13.2.1,r14.2.1,r15.2.1,r16.2.1,r17.2.1,r18.2.1,r19.2.1,r20.2.1,r21.2.1];(message_encode (Qf (Qd 8 a0.kind)) r2.2.1 v22).bind λr23=>ru r23.2.1 r23.2.2.1)
def c209:=cf c208 9 [qa5] [qk,qa] (u1 Zbo)
theorem o209:EO c209:=sx o208 (lcA [] []) Tryz.func9 dn
def Zds(a0:Jj):O1 (BitVec 32):=
 let v1:List Bool:=[decide (0<(a0.jae.length:Int)),decide (0<(a0.jac.length:Int)),decide (0<(a0.jq.length:Int)),!(decide (a0.jk=0)),decide (0<(a0.iD.length:Int)),!(decide (a0.user=([]:Ua))),!(decide (a0.name=([]:Ua))),!(decide (a0.count=0)),!(decide (a0.jv=0#64)),decide (0<(a0.box.length:Int)),!(decide (a0.jaf=0#64)),!(decide (a0.jx=0)),!(decide (a0.jay=0)),!(decide (a0.jau=0)),a0.jax,a0.jaj,decide (0<(a0.jy.length:Int))];(Zil v1).bind λr2=>rt r2.2.1
def c210:=ct c209 36 [(.f qae)] [(.v .u32)] (u1 Zds)
theorem o210:EO c210:=sz o209 Tryz.func36
def Zbr_L0b(y0:Jj×Unit)(y1:List Ua)(y2 y3:Int):Option (((Jj×Unit)×(List Ua)×Int×Int×Unit)⊕((Bool×Unit)⊕((Jj×Unit)×Unit))):=
 cond (decide (y3<y2)) ((getI y1 y3).bind λx1=>cond (decide (1024<(x1.length:Int))) (some (Qc (Qe (true,())))) (some (Qe ((y0.1,()),y1,y2,Qa .i64 (y3+1),())))) (some (Qc (Qc ((y0.1,()),()))))
def Zbr_L0:=i4 Zbr_L0b
def Zbr_L2b(y0:Jj×Unit)(y1:List Ju)(y2 y3:Int):Option (((Jj×Unit)×(List (Ju))×Int×Int×Unit)⊕((Bool×Unit)⊕((Jj×Unit)×Unit))):=
 cond (decide (y3<y2)) ((getI y1 y3).bind λx4=>cond (decide (64<(x4.rP.length:Int))) (some (Qc (Qe (true,())))) (cond (decide (16<(x4.user.length:Int))) (some (Qc (Qe (true,())))) (cond (decide (32<(x4.name.length:Int))) (some (Qc (Qe (true,())))) (some (Qe ((y0.1,()),y1,y2,Qa .i64 (y3+1),())))))) (some (Qc (Qc ((y0.1,()),()))))
def Zbr_L2:=i4 Zbr_L2b
def Zbr(a0:Jj):O1 Bool:=
 (Zbr_L0 ((a0,()),a0.jq,(a0.jq.length:Int),0,())).bind (Qh (λz2=>rt z2.1) (λz3=>(Zbr_L2 ((z3.1.1,()),z3.1.1.jy,(z3.1.1.jy.length:Int),0,())).bind (Qh (λz5=>rt z5.1) (λz6=>let v7:Int:=cond (decide ((cond (decide ((z6.1.1.jae.length:Int)<(z6.1.1.jac.length:Int))) (z6.1.1.jac.length:Int) (z6.1.1.jae.length:Int))<z6.1.1.box.length)) (z6.1.1.box.length:Int) (cond (decide ((z6.1.1.jae.length:Int)<(z6.1.1.jac.length:Int))) (z6.1.1.jac.length:Int) (z6.1.1.jae.length:Int));cond (decide (1024<v7)) (rt true) (cond (decide (3<(z6.1.1.jq.length:Int))) (rt true) (cond (decide (8<(z6.1.1.jy.length:Int))) (rt true) (cond (decide (16<(z6.1.1.user.length:Int))) (rt true) (rt (decide (32<(z6.1.1.name.length:Int)))))))))))
def c211:=ct c210 84 [(.f qae)] [qf] (u1 Zbr)
def s_Zbr_L0:LSpec T:=⟨[(1,qj),(8,qaf),(9,qc),(10,qc)],[(.ret,[(2,qs)]),(.exit 0,[(1,qj)])],Zbr_L0,[]⟩
def s_Zbr_L2:LSpec T:=⟨[(1,qj),(19,qbf),(20,qc),(21,qc)],[(.ret,[(2,qs)]),(.exit 2,[(1,qj)])],Zbr_L2,[]⟩
def A_Zbr:Loc2 T:=lcA [(0,s_Zbr_L0),(2,s_Zbr_L2)] []
theorem Vll:LO c211 Tryz.f84 0 s_Zbr_L0:=lx o210 A_Zbr dn (λ_=>rfl)
theorem Vsa:LO c211 Tryz.f84 2 s_Zbr_L2:=lx o210 A_Zbr (dc rfl Vll dn) (λ_=>rfl)
theorem o211:EO c211:=sx o210 A_Zbr Tryz.func84 (dc rfl Vll (dc rfl Vsa dn))
def Zdt_L0b(y0:Jj×Unit)(y1:List Ju)(y2 y3:Int):Option (((Jj×Unit)×(List (Ju))×Int×Int×Unit)⊕((Bool×Unit)⊕((Jj×Unit)×Unit))):=
 cond (decide (y3<y2)) ((getI y1 y3).bind λx1=>(Zhf x1.rP).bind λr2=>cond (!r2.2.1) (some (Qc (Qe (false,())))) ((Zhf x1.name).bind λr3=>cond (!r3.2.1) (some (Qc (Qe (false,())))) (some (Qe ((y0.1,()),y1,y2,Qa .i64 (y3+1),()))))) (some (Qc (Qc ((y0.1,()),()))))
def Zdt_L0:=i4 Zdt_L0b
def Zdt(a0:Jj):O1 Bool:=
 (Zdt_L0 ((a0,()),a0.jy,(a0.jy.length:Int),0,())).bind (Qh (λz4=>rt z4.1) (λz5=>(Zhf z5.1.1.name).bind λr6=>rt r6.2.1))
def c212:=ct c211 85 [(.f qae)] [qf] (u1 Zdt)
def s_Zdt_L0:LSpec T:=⟨[(1,qj),(6,qbf),(7,qc),(8,qc)],[(.ret,[(2,qs)]),(.exit 0,[(1,qj)])],Zdt_L0,[]⟩
def A_Zdt:Loc2 T:=lcA [(0,s_Zdt_L0)] []
theorem Vsb:LO c212 Tryz.f85 0 s_Zdt_L0:=lx o211 A_Zdt dn (λ_=>rfl)
theorem o212:EO c212:=sx o211 A_Zdt Tryz.func85 (dc rfl Vsb dn)
def Zcd_L0b(y0:Jj×Unit)(y1:List Ju)(y2 y3:Int):Option (((Jj×Unit)×(List (Ju))×Int×Int×Unit)⊕((Bool×Unit)⊕((Jj×Unit)×Unit))):=
 cond (decide (y3<y2)) ((getI y1 y3).bind λx1=>(Zgb [x1.left]).bind λr2=>cond (!r2.2.1) (some (Qc (Qe (false,())))) (some (Qe ((y0.1,()),y1,y2,Qa .i64 (y3+1),())))) (some (Qc (Qc ((y0.1,()),()))))
def Zcd_L0:=i4 Zcd_L0b
def Zcd(a0:Jj):O1 Bool:=
 (Zcd_L0 ((a0,()),a0.jy,(a0.jy.length:Int),0,())).bind (Qh (λz3=>rt z3.1) (λz4=>let v5:List Int:=[z4.1.1.jk,z4.1.1.count,z4.1.1.jx,z4.1.1.jay,z4.1.1.jau];(Zgb v5).bind λr6=>rt r6.2.1))
def c213:=ct c212 83 [(.f qae)] [qf] (u1 Zcd)
def s_Zcd_L0:LSpec T:=⟨[(1,qj),(6,qbf),(7,qc),(8,qc)],[(.ret,[(2,qs)]),(.exit 0,[(1,qj)])],Zcd_L0,[]⟩
def A_Zcd:Loc2 T:=lcA [(0,s_Zcd_L0)] []
theorem Vsc:LO c213 Tryz.f83 0 s_Zcd_L0:=lx o212 A_Zcd dn (λ_=>rfl)
theorem o213:EO c213:=sx o212 A_Zcd Tryz.func83 (dc rfl Vsc dn)
def Zbp_L1b(y0:List Ju)(y1 y2:Int):Option (((List (Ju))×Int×Int×Unit)⊕((Int×Unit)⊕(Unit))):=
 cond (decide (y2<y1)) ((getI y0 y2).bind λx18=>cond (!(decide ((x18.iD.length:Int)=176))) (some (Qc (Qe (4,())))) (some (Qe (y0,y1,Qa .i64 (y2+1),())))) (some (Qc (Qc ())))
def Zbp_L1:=i3 Zbp_L1b
def Zbp(a0:Jj):O1 Int:=
 (cond (decide (a0.err<0)) (cond (decide (a0.err<0)) ((rt (9:Int)).bind λq=>some (Qc q)) (cond (!(decide (a0.err=0))) ((Zds a0).bind λr1=>cond (!(decide (r1.2.1=0#32))) ((rt (4:Int)).bind λq=>some (Qc q)) ((Zbr a0).bind λr2=>cond r2.2.1 ((rt (8:Int)).bind λq=>some (Qc q)) ((Zdt a0).bind λr3=>cond (!r3.2.1) ((rt (6:Int)).bind λq=>some (Qc q)) (cond (decide (0<(a0.iD.length:Int))) (cond (!(decide ((a0.iD.length:Int)=176))) ((rt (4:Int)).bind λq=>some (Qc q)) (some (Qe ((a0,()),())))) (some (Qe ((a0,()),()))))))) ((Zbr a0).bind λr4=>cond r4.2.1 ((rt (8:Int)).bind λq=>some (Qc q)) ((Zdt a0).bind λr5=>cond (!r5.2.1) ((rt (6:Int)).bind λq=>some (Qc q)) (cond (decide (0<(a0.iD.length:Int))) (cond (!(decide ((a0.iD.length:Int)=176))) ((rt (4:Int)).bind λq=>some (Qc q)) (some (Qe ((a0,()),())))) (some (Qe ((a0,()),())))))))) (cond (decide (42<a0.err)) (cond (decide (42<a0.err)) ((rt (9:Int)).bind λq=>some (Qc q)) (cond (!(decide (a0.err=0))) ((Zds a0).bind λr6=>cond (!(decide (r6.2.1=0#32))) ((rt (4:Int)).bind λq=>some (Qc q)) ((Zbr a0).bind λr7=>cond r7.2.1 ((rt (8:Int)).bind λq=>some (Qc q)) ((Zdt a0).bind λr8=>cond (!r8.2.1) ((rt (6:Int)).bind λq=>some (Qc q)) (cond (decide (0<(a0.iD.length:Int))) (cond (!(decide ((a0.iD.length:Int)=176))) ((rt (4:Int)).bind λq=>some (Qc q)) (some (Qe ((a0,()),())))) (some (Qe ((a0,()),()))))))) ((Zbr a0).bind λr9=>cond r9.2.1 ((rt (8:Int)).bind λq=>some (Qc q)) ((Zdt a0).bind λr10=>cond (!r10.2.1) ((rt (6:Int)).bind λq=>some (Qc q)) (cond (decide (0<(a0.iD.length:Int))) (cond (!(decide ((a0.iD.length:Int)=176))) ((rt (4:Int)).bind λq=>some (Qc q)) (some (Qe ((a0,()),())))) (some (Qe ((a0,()),())))))))) ((Zcd a0).bind λr11=>cond (!r11.2.1) ((rt (9:Int)).bind λq=>some (Qc q)) (cond (!(decide (a0.err=0))) ((Zds a0).bind λr12=>cond (!(decide (r12.2.1=0#32))) ((rt (4:Int)).bind λq=>some (Qc q)) ((Zbr a0).bind λr13=>cond r13.2.1 ((rt (8:Int)).bind λq=>some (Qc q)) ((Zdt a0).bind λr14=>cond (!r14.2.1) ((rt (6:Int)).bind λq=>some (Qc q)) (cond (decide (0<(a0.iD.length:Int))) (cond (!(decide ((a0.iD.length:Int)=176))) ((rt (4:Int)).bind λq=>some (Qc q)) (some (Qe ((a0,()),())))) (some (Qe ((a0,()),()))))))) ((Zbr a0).bind λr15=>cond r15.2.1 ((rt (8:Int)).bind λq=>some (Qc q)) ((Zdt a0).bind λr16=>cond (!r16.2.1) ((rt (6:Int)).bind λq=>some (Qc q)) (cond (decide (0<(a0.iD.length:Int))) (cond (!(decide ((a0.iD.length:Int)=176))) ((rt (4:Int)).bind λq=>some (Qc q)) (some (Qe ((a0,()),())))) (some (Qe ((a0,()),())))))))))).bind (Qh (λj17=>(Zbp_L1 (j17.1.1.jy,(j17.1.1.jy.length:Int),0,())).bind (Qh (λz19=>rt z19.1) (λz20=>rt 0))) some)
def c214:=ct c213 35 [(.f qae)] [qa] (u1 Zbp)
def s_Zbp_L1:LSpec T:=⟨[(43,qbf),(44,qc),(45,qc)],[(.ret,[(2,qc)]),(.exit 1,[])],Zbp_L1,[]⟩
def A_Zbp:Loc2 T:=lcA [(1,s_Zbp_L1)] [(13,[(1,qj)],false)]
theorem Vsd:LO c214 Tryz.f35 1 s_Zbp_L1:=lx o213 A_Zbp dn (λ_=>rfl)
theorem o214:EO c214:=sx o213 A_Zbp Tryz.func35 (dc rfl Vsd dn)
def Zcq(a0:Jj):O2 Ua Int:=
 (Zbp a0).bind λr1=>cond (!(decide (r1.2.1=0))) (ru [] r1.2.1) (cond (!(decide (a0.err=0))) (ru [Qf (Qd 8 a0.err)] 0) ((Zds a0).bind λr2=>(Ziu a0.jae).bind λr3=>(Ziu a0.jac).bind λr4=>(Zhm a0.jq).bind λr5=>(Ziz (Qd 64 a0.jk)).bind λr6=>(Ziu a0.iD).bind λr7=>(Ziu a0.user).bind λr8=>(Ziy a0.name).bind λr9=>(Ziz (Qd 64 a0.count)).bind λr10=>(Ziz a0.jv).bind λr11=>(Ziu a0.box).bind λr12=>(Ziz a0.jaf).bind λr13=>(Ziz (Qd 64 a0.jx)).bind λr14=>(Ziz (Qd 64 a0.jay)).bind λr15=>(Ziz (Qd 64 a0.jau)).bind λr16=>(Zix a0.jax).bind λr17=>(Zix a0.jaj).bind λr18=>none))
def c215:=cf c214 13 [(.f qae)] [qk,qa] (u1 Zcq)
theorem o215:EO c215:=sx o214 (lcA [] []) Tryz.func13 dn
def Ziw(a0:Ub):O1 Int:=
 cond (decide (a0.toNat<(24#64).toNat)) (rt 0) (cond (decide (a0.toNat<(256#64).toNat)) (rt 1) (cond (decide (a0.toNat<(65536#64).toNat)) (rt 2) (cond (decide (a0.toNat<(4294967296#64).toNat)) (rt 4) (rt 8))))
def c216:=ct c215 163 [qd] [qa] (u1 Ziw)
theorem o216:EO c216:=sz o215 Tryz.func163
def Zfv_L1b(y0:List Jc×Int×Ua×Int×Unit)(y1:Int)(y2:Ub)(y3:Int)(y4:Ua)(y5 y6:Int):Option ((((List (Jc))×Int×Ua×Int×Unit)×Int×Ub×Int×Ua×Int×Int×Unit)⊕(((List (Jc))×Int×Ua×Int×Unit)×Int×Ub×Int×Unit)):=
 cond (decide (y6<y5)) ((getI y4 y6).bind λx10=>some (Qe ((y0.1,y0.2.1,y0.2.2.1,y0.2.2.2.1,()),y1,y2<<<8|||Qi 64 x10.toBitVec,y3,y4,y5,Qa .i64 (y6+1),()))) (some (Qc ((y0.1,y0.2.1,y0.2.2.1,y0.2.2.2.1,()),y1,y2,y3,())))
def Zfv_L1:=i7 Zfv_L1b
def Zfv(a0:List Jc×Int×Ua×Int×Unit):Option (((List Jc×Int×Ua×Int×Unit)×Unit)×Int×Ub×Int×Unit):=
 cond (decide (a0.2.2.1.length<=a0.2.2.2.1)) (some (((a0.1,a0.2.1,a0.2.2.1,a0.2.2.2.1,()),()),0,0#64,1,())) ((getI a0.2.2.1 a0.2.2.2.1).bind λx1=>(cond (decide (x1.toBitVec=(244:UInt8).toBitVec)) (cond (decide (x1.toBitVec=(244:UInt8).toBitVec)) (let v2:=Qi 64 (Qf (x1.toBitVec-(244:UInt8).toBitVec)).toBitVec;(some (((a0.1,a0.2.1,a0.2.2.1,Qa .i64 (a0.2.2.2.1+1),()),()),(7:Int),v2,(0:Int),())).bind λq=>some (Qc q)) (cond (decide (x1.toBitVec=(246:UInt8).toBitVec)) ((some (((a0.1,a0.2.1,a0.2.2.1,Qa .i64 (a0.2.2.2.1+1),()),()),(8:Int),0#64,(0:Int),())).bind λq=>some (Qc q)) (some (Qe ((a0.1,a0.2.1,a0.2.2.1,Qa .i64 (a0.2.2.2.1+1),()),0#64,x1,()))))) (cond (decide (x1.toBitVec=(245:UInt8).toBitVec)) (let v3:=Qi 64 (Qf (x1.toBitVec-(244:UInt8).toBitVec)).toBitVec;(some (((a0.1,a0.2.1,a0.2.2.1,Qa .i64 (a0.2.2.2.1+1),()),()),(7:Int),v3,(0:Int),())).bind λq=>some (Qc q)) (cond (decide (x1.toBitVec=(246:UInt8).toBitVec)) ((some (((a0.1,a0.2.1,a0.2.2.1,Qa .i64 (a0.2.2.2.1+1),()),()),(8:Int),0#64,(0:Int),())).bind λq=>some (Qc q)) (some (Qe ((a0.1,a0.2.1,a0.2.2.1,Qa .i64 (a0.2.2.2.1+1),()),0#64,x1,())))))).bind (Qh (λj4=>let v5:=Qf (j4.2.2.1.toBitVec&&&(31:UInt8).toBitVec);cond (decide ((5:UInt8).toBitVec.toNat<(Qf (j4.2.2.1.toBitVec>>>5)).toBitVec.toNat)) (some (((j4.1.1,j4.1.2.1,j4.1.2.2.1,j4.1.2.2.2.1,()),()),0,0#64,2,())) (cond (decide ((27:UInt8).toBitVec.toNat<v5.toBitVec.toNat)) (some (((j4.1.1,j4.1.2.1,j4.1.2.2.1,j4.1.2.2.2.1,()),()),0,0#64,2,())) (let v6:=((Qf (j4.2.2.1.toBitVec>>>5)).toBitVec.toNat:Int);cond (decide (v5.toBitVec.toNat<(24:UInt8).toBitVec.toNat)) (some (((j4.1.1,j4.1.2.1,j4.1.2.2.1,j4.1.2.2.2.1,()),()),Qa .i64 (1+v6),Qi 64 v5.toBitVec,0,())) (let v7:=Qa .i64 (1*2^min (Qf (v5.toBitVec-(24:UInt8).toBitVec)).toNat (Qb .i64));let v8:=Qa .i64 ((j4.1.2.2.1.length:Int)-j4.1.2.2.2.1);cond (decide (v8<v7)) (some (((j4.1.1,j4.1.2.1,j4.1.2.2.1,j4.1.2.2.2.1,()),()),0,0#64,1,())) (cond (decide (0<=Qa .i64 (j4.1.2.2.2.1+v7))&&decide (Qa .i64 (j4.1.2.2.2.1+v7)<=j4.1.2.2.1.length)) (cond (decide (0<=j4.1.2.2.2.1)&&decide (j4.1.2.2.2.1<=(Qa .i64 (j4.1.2.2.2.1+v7)).toNat)) (let v9:=Ql j4.1.2.2.2.1.toNat (Qk (Qa .i64 (j4.1.2.2.2.1+v7)).toNat j4.1.2.2.1);(Zfv_L1 ((j4.1.1,j4.1.2.1,j4.1.2.2.1,j4.1.2.2.2.1,()),Qa .i64 (1+v6),j4.2.1,v7,v9,(v9.length:Int),0,())).bind λz11=>(Ziw z11.2.2.1).bind λr12=>cond (decide (r12.2.1<z11.2.2.2.1)) (some (((z11.1.1,z11.1.2.1,z11.1.2.2.1,Qa .i64 (z11.1.2.2.2.1+z11.2.2.2.1),()),()),0,0#64,2,())) (some (((z11.1.1,z11.1.2.1,z11.1.2.2.1,Qa .i64 (z11.1.2.2.2.1+z11.2.2.2.1),()),()),z11.2.1,z11.2.2.1,0,()))) none) none))))) some))
def c217:=cf c216 116 [qi] [qa,qr,qa] (u1 Zfv)
def s_Zfv_L1:LSpec T:=⟨[(0,qi),(2,qc),(3,qd),(8,qc),(94,qg),(95,qc),(96,qc)],[(.exit 1,[(0,qi),(2,qc),(3,qd),(8,qc)])],Zfv_L1,[]⟩
def A_Zfv:Loc2 T:=lcA [(1,s_Zfv_L1)] [(11,[(0,qi),(3,qd),(5,qaz)],false)]
theorem Vse:LO c217 Tryz.f116 1 s_Zfv_L1:=lx o216 A_Zfv dn (λ_=>rfl)
theorem o217:EO c217:=sx o216 A_Zfv Tryz.func116 (dc rfl Vse dn)
def Zfy_L0b(y0:List Jc×Int×Ua×Int×Unit)(y1:Int):Option ((((List (Jc))×Int×Ua×Int×Unit)×Int×Unit)⊕(((List (Jc))×Int×Ua×Int×Unit)×Unit)):=
 cond (decide (0<y1)) (cond (decide (0<=Qa .i64 (y1-1))&&decide (Qa .i64 (y1-1)<y0.1.length)) (y0.1[(Qa .i64 (y1-1)).toNat]?.bind λx10=>cond (decide (x10.left=0)) (cond (decide (0<=Qa .i64 (y1-1))&&decide (Qa .i64 (y1-1)<=y0.1.length)) (cond (decide ((Qa .i64 (y1-1)).toNat<=y0.1.length)) (some (Qe ((Qk (Qa .i64 (y1-1)).toNat y0.1,y0.2.1,y0.2.2.1,y0.2.2.2.1,()),Qa .i64 (y1-1),()))) none) none) (some (Qc ((y0.1,y0.2.1,y0.2.2.1,y0.2.2.2.1,()),())))) none) (some (Qc ((y0.1,y0.2.1,y0.2.2.1,y0.2.2.2.1,()),())))
def Zfy_L0:=i2 Zfy_L0b
def Zfy(a0:List Jc×Int×Ua×Int×Unit)(a1:Ja):Option (((List Jc×Int×Ua×Int×Unit)×Unit)×Unit):=
 (cond (decide (0<(a0.1.length:Int))) (cond (decide (0<=Qa .i64 ((a0.1.length:Int)-1))&&decide (Qa .i64 ((a0.1.length:Int)-1)<a0.1.length)) (a0.1[(Qa .i64 ((a0.1.length:Int)-1)).toNat]?.bind λx1=>cond (decide (0<=Qa .i64 ((a0.1.length:Int)-1))&&decide (Qa .i64 ((a0.1.length:Int)-1)<a0.1.length)) (a0.1[(Qa .i64 ((a0.1.length:Int)-1)).toNat]?.bind λx2=>let v3:=Qj a0.1 (Qa .i64 ((a0.1.length:Int)-1)).toNat ({x2 with left:=Qa .i64 (x1.left-1)}:Jc);some ((v3,Qa .i64 (a0.2.1+1),a0.2.2.1,a0.2.2.2.1,()),(a1,()),())) none) none) (some ((a0.1,Qa .i64 (a0.2.1+1),a0.2.2.1,a0.2.2.2.1,()),(a1,()),()))).bind λj4=>(cond (decide (j4.2.1.1.kind=5)) (cond (decide ((0#64).toNat<j4.2.1.1.number.toNat)) (let v5:List Jc:=[{left:=Qa .i64 (j4.2.1.1.number.toNat:Int)}];cond (small (j4.1.1.length+(v5:List Jc).length) 40) (some ((j4.1.1++v5,j4.1.2.1,j4.1.2.2.1,j4.1.2.2.2.1,()),(j4.2.1.1,()),())) none) (some ((j4.1.1,j4.1.2.1,j4.1.2.2.1,j4.1.2.2.2.1,()),(j4.2.1.1,()),()))) (some ((j4.1.1,j4.1.2.1,j4.1.2.2.1,j4.1.2.2.2.1,()),(j4.2.1.1,()),()))).bind λj6=>(cond (decide (j6.2.1.1.kind=6)) (cond (decide ((0#64).toNat<j6.2.1.1.number.toNat)) (let v7:=Qa .i64 (2*Qa .i64 (j6.2.1.1.number.toNat:Int));cond (small (j6.1.1.length+([⟨true,v7,[]⟩]:List Jc).length) 40) (let v8:=j6.1.1++[⟨true,v7,[]⟩];some ((v8,j6.1.2.1,j6.1.2.2.1,j6.1.2.2.2.1,()),())) none) (some ((j6.1.1,j6.1.2.1,j6.1.2.2.1,j6.1.2.2.2.1,()),()))) (some ((j6.1.1,j6.1.2.1,j6.1.2.2.1,j6.1.2.2.2.1,()),()))).bind λj9=>(Zfy_L0 ((j9.1.1,j9.1.2.1,j9.1.2.2.1,j9.1.2.2.2.1,()),(j9.1.1.length:Int),())).bind λz11=>some (((z11.1.1,z11.1.2.1,z11.1.2.2.1,z11.1.2.2.2.1,()),()),())
def c218:=cf c217 166 [qi,qbh] [] (u2 Zfy)
def s_Zfy_L0:LSpec T:=⟨[(0,qi),(5,qc)],[(.exit 0,[(0,qi)])],Zfy_L0,[]⟩
def A_Zfy:Loc2 T:=lcA [(0,s_Zfy_L0)] [(5,[(0,qi),(3,qat)],true),(7,[(0,qi),(3,qat)],true),(9,[(0,qi)],true)]
theorem Vsf:LO c218 Tryz.f166 0 s_Zfy_L0:=lx o217 A_Zfy dn (λ_=>rfl)
theorem o218:EO c218:=sx o217 A_Zfy Tryz.func166 (dc rfl Vsf dn)
def Zdp(a0:List Jc×Int×Ua×Int×Unit)(a1:Ja):Option (((List Jc×Int×Ua×Int×Unit)×Unit)×Int×Unit):=
 cond (decide (a1.kind=4)) ((Zhf a1.data).bind λr1=>cond (!r1.2.1) (some (((a0.1,a0.2.1,a0.2.2.1,a0.2.2.2.1,()),()),6,())) ((Zhj ⟨a0.1,a0.2.1⟩).bind λr2=>cond r2.2.1 (cond (decide (0<=Qa .i64 ((a0.1.length:Int)-1))&&decide (Qa .i64 ((a0.1.length:Int)-1)<a0.1.length)) ((Zhh [] a1).bind λr3=>a0.1[(Qa .i64 ((a0.1.length:Int)-1)).toNat]?.bind λx4=>cond (!x4.jab.isEmpty) (a0.1[(Qa .i64 ((a0.1.length:Int)-1)).toNat]?.bind λx5=>(Zik x5.jab r3.2.1).bind λr6=>cond (!r6.2.1) (some (((a0.1,a0.2.1,a0.2.2.1,a0.2.2.2.1,()),()),7,())) (a0.1[(Qa .i64 ((a0.1.length:Int)-1)).toNat]?.bind λx7=>cond r3.2.1.isEmpty none (let v8:=Qj a0.1 (Qa .i64 ((a0.1.length:Int)-1)).toNat ({x7 with jab:=r3.2.1}:Jc);(Zfy (v8,a0.2.1,a0.2.2.1,a0.2.2.2.1,()) a1).bind λr9=>some (((r9.1.1.1,r9.1.1.2.1,r9.1.1.2.2.1,r9.1.1.2.2.2.1,()),()),0,())))) (a0.1[(Qa .i64 ((a0.1.length:Int)-1)).toNat]?.bind λx10=>cond r3.2.1.isEmpty none (let v11:=Qj a0.1 (Qa .i64 ((a0.1.length:Int)-1)).toNat ({x10 with jab:=r3.2.1}:Jc);(Zfy (v11,a0.2.1,a0.2.2.1,a0.2.2.2.1,()) a1).bind λr12=>some (((r12.1.1.1,r12.1.1.2.1,r12.1.1.2.2.1,r12.1.1.2.2.2.1,()),()),0,())))) none) ((Zfy (a0.1,a0.2.1,a0.2.2.1,a0.2.2.2.1,()) a1).bind λr13=>some (((r13.1.1.1,r13.1.1.2.1,r13.1.1.2.2.1,r13.1.1.2.2.2.1,()),()),0,())))) ((Zhj ⟨a0.1,a0.2.1⟩).bind λr14=>cond r14.2.1 (cond (decide (0<=Qa .i64 ((a0.1.length:Int)-1))&&decide (Qa .i64 ((a0.1.length:Int)-1)<a0.1.length)) ((Zhh [] a1).bind λr15=>a0.1[(Qa .i64 ((a0.1.length:Int)-1)).toNat]?.bind λx16=>cond (!x16.jab.isEmpty) (a0.1[(Qa .i64 ((a0.1.length:Int)-1)).toNat]?.bind λx17=>(Zik x17.jab r15.2.1).bind λr18=>cond (!r18.2.1) (some (((a0.1,a0.2.1,a0.2.2.1,a0.2.2.2.1,()),()),7,())) (a0.1[(Qa .i64 ((a0.1.length:Int)-1)).toNat]?.bind λx19=>cond r15.2.1.isEmpty none (let v20:=Qj a0.1 (Qa .i64 ((a0.1.length:Int)-1)).toNat ({x19 with jab:=r15.2.1}:Jc);(Zfy (v20,a0.2.1,a0.2.2.1,a0.2.2.2.1,()) a1).bind λr21=>some (((r21.1.1.1,r21.1.1.2.1,r21.1.1.2.2.1,r21.1.1.2.2.2.1,()),()),0,())))) (a0.1[(Qa .i64 ((a0.1.length:Int)-1)).toNat]?.bind λx22=>cond r15.2.1.isEmpty none (let v23:=Qj a0.1 (Qa .i64 ((a0.1.length:Int)-1)).toNat ({x22 with jab:=r15.2.1}:Jc);(Zfy (v23,a0.2.1,a0.2.2.1,a0.2.2.2.1,()) a1).bind λr24=>some (((r24.1.1.1,r24.1.1.2.1,r24.1.1.2.2.1,r24.1.1.2.2.2.1,()),()),0,())))) none) ((Zfy (a0.1,a0.2.1,a0.2.2.1,a0.2.2.2.1,()) a1).bind λr25=>some (((r25.1.1.1,r25.1.1.2.1,r25.1.1.2.2.1,r25.1.1.2.2.2.1,()),()),0,())))
def c219:=cf c218 118 [qi,qbh] [qa] (u2 Zdp)
theorem o219:EO c219:=sz o218 Tryz.func118
def Zfw(a0:List Jc×Int×Ua×Int×Unit):Option (((List Jc×Int×Ua×Int×Unit)×Unit)×Ja×Int×Unit):=
 (Zfv (a0.1,a0.2.1,a0.2.2.1,a0.2.2.2.1,())).bind λr1=>cond (!(decide (r1.2.2.2.1=0))) (some (((r1.1.1.1,r1.1.1.2.1,r1.1.1.2.2.1,r1.1.1.2.2.2.1,()),()),{},r1.2.2.2.1,())) ((Zhi ⟨r1.1.1.1,r1.1.1.2.1⟩ r1.2.1).bind λr2=>cond (!(decide (r2.2.1=0))) (some (((r1.1.1.1,r1.1.1.2.1,r1.1.1.2.2.1,r1.1.1.2.2.2.1,()),()),{},r2.2.1,())) ((cond (decide (r1.2.1=5)) (cond (decide (r1.2.1=5)) (cond (decide ((512#64).toNat<r1.2.2.1.toNat)) ((some (((r1.1.1.1,r1.1.1.2.1,r1.1.1.2.2.1,r1.1.1.2.2.2.1,()),()),({}:Ja),(8:Int),())).bind λq=>some (Qc q)) (some (Qe ((r1.1.1.1,r1.1.1.2.1,r1.1.1.2.2.1,r1.1.1.2.2.2.1,()),(({}:Ja),()),((⟨r1.2.1,r1.2.2.1,[]⟩:Ja),()),())))) (cond (decide (r1.2.1=3)) (cond (decide (r1.2.1=3)) (cond (decide ((1024#64).toNat<r1.2.2.1.toNat)) ((some (((r1.1.1.1,r1.1.1.2.1,r1.1.1.2.2.1,r1.1.1.2.2.2.1,()),()),({}:Ja),(8:Int),())).bind λq=>some (Qc q)) (let v3:=Qa .i64 ((r1.1.1.2.2.1.length:Int)-r1.1.1.2.2.2.1);cond (decide (v3<Qa .i64 (r1.2.2.1.toNat:Int))) ((some (((r1.1.1.1,r1.1.1.2.1,r1.1.1.2.2.1,r1.1.1.2.2.2.1,()),()),({}:Ja),(1:Int),())).bind λq=>some (Qc q)) (let v4:=Qa .i64 (r1.1.1.2.2.2.1+Qa .i64 (r1.2.2.1.toNat:Int));cond (decide (0<=v4)&&decide (v4<=r1.1.1.2.2.1.length)) (cond (decide (0<=r1.1.1.2.2.2.1)&&decide (r1.1.1.2.2.2.1<=v4.toNat)) (let v5:=Ql r1.1.1.2.2.2.1.toNat (Qk v4.toNat r1.1.1.2.2.1);let v6:=Qa .i64 (r1.1.1.2.2.2.1+Qa .i64 (r1.2.2.1.toNat:Int));some (Qe ((r1.1.1.1,r1.1.1.2.1,r1.1.1.2.2.1,v6,()),(({}:Ja),()),((⟨r1.2.1,0#64,v5⟩:Ja),()),()))) none) none))) (some (Qe ((r1.1.1.1,r1.1.1.2.1,r1.1.1.2.2.1,r1.1.1.2.2.2.1,()),(({}:Ja),()),((⟨r1.2.1,r1.2.2.1,[]⟩:Ja),()),())))) (cond (decide (r1.2.1=4)) (cond (decide ((1024#64).toNat<r1.2.2.1.toNat)) ((some (((r1.1.1.1,r1.1.1.2.1,r1.1.1.2.2.1,r1.1.1.2.2.2.1,()),()),({}:Ja),(8:Int),())).bind λq=>some (Qc q)) (let v7:=Qa .i64 ((r1.1.1.2.2.1.length:Int)-r1.1.1.2.2.2.1);cond (decide (v7<Qa .i64 (r1.2.2.1.toNat:Int))) ((some (((r1.1.1.1,r1.1.1.2.1,r1.1.1.2.2.1,r1.1.1.2.2.2.1,()),()),({}:Ja),(1:Int),())).bind λq=>some (Qc q)) (let v8:=Qa .i64 (r1.1.1.2.2.2.1+Qa .i64 (r1.2.2.1.toNat:Int));cond (decide (0<=v8)&&decide (v8<=r1.1.1.2.2.1.length)) (cond (decide (0<=r1.1.1.2.2.2.1)&&decide (r1.1.1.2.2.2.1<=v8.toNat)) (let v9:=Ql r1.1.1.2.2.2.1.toNat (Qk v8.toNat r1.1.1.2.2.1);let v10:=Qa .i64 (r1.1.1.2.2.2.1+Qa .i64 (r1.2.2.1.toNat:Int));some (Qe ((r1.1.1.1,r1.1.1.2.1,r1.1.1.2.2.1,v10,()),(({}:Ja),()),((⟨r1.2.1,0#64,v9⟩:Ja),()),()))) none) none))) (some (Qe ((r1.1.1.1,r1.1.1.2.1,r1.1.1.2.2.1,r1.1.1.2.2.2.1,()),(({}:Ja),()),((⟨r1.2.1,r1.2.2.1,[]⟩:Ja),()),())))))) (cond (decide (r1.2.1=6)) (cond (decide ((512#64).toNat<r1.2.2.1.toNat)) ((some (((r1.1.1.1,r1.1.1.2.1,r1.1.1.2.2.1,r1.1.1.2.2.2.1,()),()),({}:Ja),(8:Int),())).bind λq=>some (Qc q)) (some (Qe ((r1.1.1.1,r1.1.1.2.1,r1.1.1.2.2.1,r1.1.1.2.2.2.1,()),(({}:Ja),()),((⟨r1.2.1,r1.2.2.1,[]⟩:Ja),()),())))) (cond (decide (r1.2.1=3)) (cond (decide (r1.2.1=3)) (cond (decide ((1024#64).toNat<r1.2.2.1.toNat)) ((some (((r1.1.1.1,r1.1.1.2.1,r1.1.1.2.2.1,r1.1.1.2.2.2.1,()),()),({}:Ja),(8:Int),())).bind λq=>some (Qc q)) (let v11:=Qa .i64 ((r1.1.1.2.2.1.length:Int)-r1.1.1.2.2.2.1);cond (decide (v11<Qa .i64 (r1.2.2.1.toNat:Int))) ((some (((r1.1.1.1,r1.1.1.2.1,r1.1.1.2.2.1,r1.1.1.2.2.2.1,()),()),({}:Ja),(1:Int),())).bind λq=>some (Qc q)) (let v12:=Qa .i64 (r1.1.1.2.2.2.1+Qa .i64 (r1.2.2.1.toNat:Int));cond (decide (0<=v12)&&decide (v12<=r1.1.1.2.2.1.length)) (cond (decide (0<=r1.1.1.2.2.2.1)&&decide (r1.1.1.2.2.2.1<=v12.toNat)) (let v13:=Ql r1.1.1.2.2.2.1.toNat (Qk v12.toNat r1.1.1.2.2.1);let v14:=Qa .i64 (r1.1.1.2.2.2.1+Qa .i64 (r1.2.2.1.toNat:Int));some (Qe ((r1.1.1.1,r1.1.1.2.1,r1.1.1.2.2.1,v14,()),(({}:Ja),()),((⟨r1.2.1,0#64,v13⟩:Ja),()),()))) none) none))) (some (Qe ((r1.1.1.1,r1.1.1.2.1,r1.1.1.2.2.1,r1.1.1.2.2.2.1,()),(({}:Ja),()),((⟨r1.2.1,r1.2.2.1,[]⟩:Ja),()),())))) (cond (decide (r1.2.1=4)) (cond (decide ((1024#64).toNat<r1.2.2.1.toNat)) ((some (((r1.1.1.1,r1.1.1.2.1,r1.1.1.2.2.1,r1.1.1.2.2.2.1,()),()),({}:Ja),(8:Int),())).bind λq=>some (Qc q)) (let v15:=Qa .i64 ((r1.1.1.2.2.1.length:Int)-r1.1.1.2.2.2.1);cond (decide (v15<Qa .i64 (r1.2.2.1.toNat:Int))) ((some (((r1.1.1.1,r1.1.1.2.1,r1.1.1.2.2.1,r1.1.1.2.2.2.1,()),()),({}:Ja),(1:Int),())).bind λq=>some (Qc q)) (let v16:=Qa .i64 (r1.1.1.2.2.2.1+Qa .i64 (r1.2.2.1.toNat:Int));cond (decide (0<=v16)&&decide (v16<=r1.1.1.2.2.1.length)) (cond (decide (0<=r1.1.1.2.2.2.1)&&decide (r1.1.1.2.2.2.1<=v16.toNat)) (let v17:=Ql r1.1.1.2.2.2.1.toNat (Qk v16.toNat r1.1.1.2.2.1);let v18:=Qa .i64 (r1.1.1.2.2.2.1+Qa .i64 (r1.2.2.1.toNat:Int));some (Qe ((r1.1.1.1,r1.1.1.2.1,r1.1.1.2.2.1,v18,()),(({}:Ja),()),((⟨r1.2.1,0#64,v17⟩:Ja),()),()))) none) none))) (some (Qe ((r1.1.1.1,r1.1.1.2.1,r1.1.1.2.2.1,r1.1.1.2.2.2.1,()),(({}:Ja),()),((⟨r1.2.1,r1.2.2.1,[]⟩:Ja),()),()))))))).bind (Qh (λj19=>(Zdp (j19.1.1,j19.1.2.1,j19.1.2.2.1,j19.1.2.2.2.1,()) j19.2.2.1.1).bind λr20=>cond (!(decide (r20.2.1=0))) (some (((r20.1.1.1,r20.1.1.2.1,r20.1.1.2.2.1,r20.1.1.2.2.2.1,()),()),{},r20.2.1,())) (some (((r20.1.1.1,r20.1.1.2.1,r20.1.1.2.2.1,r20.1.1.2.2.2.1,()),()),j19.2.2.1.1,0,()))) some)))
def c220:=cf c219 75 [qi] [qv,qa] (u1 Zfw)
theorem o220:EO c220:=sx o219 (lcA [] [(21,[(0,qi),(2,qat),(8,qat)],false)]) Tryz.func75 dn
def Zio_L0b(y0:List Ja)(y1:List Jc×Int×Ua×Int×Unit):Option (((List (Ja))×((List (Jc))×Int×Ua×Int×Unit)×Unit)⊕(((List (Ja))×Int×Int×Unit)⊕((List (Ja))×((List (Jc))×Int×Ua×Int×Unit)×Unit))):=
 (Zhz ⟨y1.1,y1.2.1⟩).bind λr1=>cond (!r1.2.1) ((Zfw (y1.1,y1.2.1,y1.2.2.1,y1.2.2.2.1,())).bind λr2=>cond (!(decide (r2.2.2.1=0))) (some (Qc (Qe ([],0,r2.2.2.1,())))) (cond (small (y0.length+([r2.2.1]).length) 32) (some (Qe (y0++[r2.2.1],(r2.1.1.1,r2.1.1.2.1,r2.1.1.2.2.1,r2.1.1.2.2.2.1,()),()))) none)) (some (Qc (Qc (y0,(y1.1,y1.2.1,y1.2.2.1,y1.2.2.2.1,()),()))))
def Zio_L0:=i2 Zio_L0b
def Zio(a0:Ua):Option (Unit×List Ja×Int×Int×Unit):=
 (Zio_L0 ([],([],0,a0,0,()),())).bind (Qh (λz3=>some ((),z3.1,z3.2.1,z3.2.2.1,())) (λz4=>some ((),z4.1,z4.2.1.2.2.2.1,0,())))
def c221:=cf c220 32 [qg] [qah,qa,qa] (u1 Zio)
def s_Zio_L0:LSpec T:=⟨[(2,qay),(5,qi)],[(.ret,[(2,qay),(3,qc),(4,qc)]),(.exit 0,[(2,qay),(5,qi)])],Zio_L0,[]⟩
def A_Zio:Loc2 T:=lcA [(0,s_Zio_L0)] []
theorem Vsg:LO c221 Tryz.f32 0 s_Zio_L0:=lx o220 A_Zio dn (λ_=>rfl)
theorem o221:EO c221:=sx o220 A_Zio Tryz.func32 (dc rfl Vsg dn)
def Zin(a0 a1:Ua):O1 Bool:=
 rt (decide (a0=a1))
def c222:=ct c221 34 [qg,qg] [qf] (u2 Zin)
theorem o222:EO c222:=sz o221 Tryz.func34
def Zcp(a0:Ua):O2 Jj Int:=
 cond (decide ((a0.length:Int)=0)) (some ((),{},1,())) (cond (decide (4096<(a0.length:Int))) (some ((),{},8,())) ((getI a0 (0:Int)).bind λx1=>cond (decide (42<(x1.toBitVec.toNat:Int))) (some ((),{},2,())) ((getI a0 (0:Int)).bind λx2=>(cond (decide ((x2.toBitVec.toNat:Int)=0)) (cond (decide (1<=(a0.length:Int))) ((Zio (Ql 1 a0)).bind λr3=>cond (!(decide (r3.2.2.2.1=0))) ((ru ({}:Jj) r3.2.2.2.1).bind λq=>some (Qc q)) none) none) (some (Qe (a0,(({}:Jj),()),(({err:=(x2.toBitVec.toNat:Int)}:Jj),()),())))).bind (Qh (λj4=>(Zcq j4.2.2.1.1).bind λr5=>cond (!(decide (r5.2.2.1=0))) (some ((),{},2,())) ((Zin r5.2.1 j4.1).bind λr6=>cond (!r6.2.1) (some ((),{},2,())) (ru j4.2.2.1.1 0))) some))))
def c223:=cf c222 14 [qg] [qae,qa] (u1 Zcp)
theorem o223:EO c223:=sx o222 (lcA [] [(13,[(0,qg),(2,qj),(4,qj)],false)]) Tryz.func14 dn
def Zdv:O1 Bool:=
 (Zbo {kind:=1}).bind λr1=>(Zcq {err:=24}).bind λr2=>(Zcp r2.2.1).bind λr3=>cond (decide (r1.2.2.1=0)) (cond (decide (r2.2.2.1=0)) (cond (decide (r3.2.2.1=0)) (cond (decide (r1.2.1=([1,160]:Ua))) (cond (decide ((r2.2.1.length:Int)=1)) (cond (decide (r3.2.1.err=24)) ((Zga {}).bind λr4=>rt (decide (r4.2.1=3))) (rt false)) (rt false)) (rt false)) (rt false)) (rt false)) (rt false)
def c224:=ct c223 5 [] [qf] λx=>Zdv 
theorem o224:EO c224:=sz o223 Tryz.func5
def cbor_Skip_L0b(y0:List Ja)(y1 y2:Int):Option (((List (Ja))×Int×Int×Unit)⊕((Int×Bool×Unit)⊕(Int×Unit))):=
 cond (decide (0<y2)) (cond (decide (y0.length<=y1)) (some (Qc (Qe (0,false,())))) ((getI y0 y1).bind λx1=>cond (!(decide (x1.kind=5))) (cond (!(decide (x1.kind=6))) (some (Qe (y0,Qa .i64 (y1+1),Qa .i64 (y2-1),()))) (cond (decide ((512#64).toNat<x1.number.toNat)) (some (Qc (Qe (0,false,())))) (let v2:=Qa .i64 (Qa .i64 (y2-1)+Qa .i64 (x1.number.toNat:Int));cond (decide (x1.kind=6)) (let v3:=Qa .i64 (v2+Qa .i64 (x1.number.toNat:Int));some (Qe (y0,Qa .i64 (y1+1),v3,()))) (some (Qe (y0,Qa .i64 (y1+1),v2,())))))) (cond (decide ((512#64).toNat<x1.number.toNat)) (some (Qc (Qe (0,false,())))) (let v4:=Qa .i64 (Qa .i64 (y2-1)+Qa .i64 (x1.number.toNat:Int));cond (decide (x1.kind=6)) (let v5:=Qa .i64 (v4+Qa .i64 (x1.number.toNat:Int));some (Qe (y0,Qa .i64 (y1+1),v5,()))) (some (Qe (y0,Qa .i64 (y1+1),v4,()))))))) (some (Qc (Qc (y1,()))))
def cbor_Skip_L0:=i3 cbor_Skip_L0b
def cbor_Skip(a0:List Ja)(a1:Int):O2 Int Bool:=
 cond (decide (a1<0)) (ru 0 false) (cond (decide (a0.length<=a1)) (ru 0 false) ((cbor_Skip_L0 (a0,a1,1,())).bind (Qh (λz6=>ru z6.1 z6.2.1) (λz7=>ru z7.1 true))))
def S_cbor_Skip:FSpec T:=⟨[qq,qc],[qa,qf],λx=>cbor_Skip x.1 x.2.1⟩
def s_cbor_Skip_L0:LSpec T:=⟨[(0,qq),(4,qc),(6,qc)],[(.ret,[(4,qc),(5,qs)]),(.exit 0,[(4,qc)])],cbor_Skip_L0,[]⟩
def A_cbor_Skip:Loc2 T:=lcA [(0,s_cbor_Skip_L0)] []
theorem Vg3:LoopOk Tryz.prog (mE c224) Tryz.f121.ntmps (kqOf S_cbor_Skip.ps 0) (loopAt 0 (bodyOf Tryz.f121)) s_cbor_Skip_L0:=
 lpC hmix o224 A_cbor_Skip Vag 0 (st:=λy=>cbor_Skip_L0b y.1 y.2.1 y.2.2.1) (λ_=>rfl) (by kernel_rfl) (by kernel_rfl) λx=>by kernel_rfl
theorem Vgi:SoundT Tryz.prog cd gdn 121 S_cbor_Skip:=
 sndC hmix o224 A_cbor_Skip Tryz.func121 (Vbt rfl Vg3 Vag) (by kernel_rfl) (by kernel_rfl) λx=>by kernel_rfl
def c225:List (Ct T):=⟨121,none,S_cbor_Skip,true⟩::c224
theorem o225:EnvOk Tryz.prog (mE c225):=eCons Vgi o224
def c226:List (Ct T):=⟨167,none,S_Zim,false⟩::c225
theorem o226:EnvOk Tryz.prog (mE c226):=eCons Vaoa o225
def Ziq_L0b(y0:List Ja)(y1:Ub)(y2:Int)(y3 y4:Ub):Option (((List (Ja))×Ub×Int×Ub×Ub×Unit)⊕(((List (Ja))×Bool×Unit)⊕(Unit))):=
 cond (decide (y4.toNat<y3.toNat)) ((cbor_Skip y0 (Qa .i64 (y2+1))).bind λr4=>cond (!r4.2.2.1) (some (Qc (Qe ([],false,())))) ((getI y0 y2).bind λx5=>cond (decide (x5.kind=1)) ((getI y0 y2).bind λx6=>cond (decide (x6.number=y1)) (cond (decide (0<=r4.2.1)&&decide (r4.2.1<=y0.length)) (cond (decide (0<=Qa .i64 (y2+1))&&decide (Qa .i64 (y2+1)<=r4.2.1.toNat)) (let v7:=Ql (Qa .i64 (y2+1)).toNat (Qk r4.2.1.toNat y0);(Zim v7).bind λr8=>some (Qc (Qe (r8.2.1,true,())))) none) none) (some (Qe (y0,y1,r4.2.1,y3,y4+1#64,())))) (some (Qe (y0,y1,r4.2.1,y3,y4+1#64,()))))) (some (Qc (Qc ())))
def Ziq_L0:=i5 Ziq_L0b
def Ziq(a0:List Ja)(a1:Ub):O2 (List Ja) Bool:=
 (Zif a0).bind λr1=>cond (!(decide (r1.2.1=0))) (ru [] false) ((getI a0 (0:Int)).bind λx2=>cond (!(decide (x2.kind=6))) (ru [] false) ((getI a0 (0:Int)).bind λx3=>(Ziq_L0 (a0,a1,1,x3.number,0#64,())).bind (Qh (λz9=>ru z9.1 z9.2.1) (λz10=>ru [] false))))
def S_Ziq:FSpec T:=⟨[qq,qd],[qah,qf],λx=>Ziq x.1 x.2.1⟩
def E_Ziq:Env T:=⟨tab.find,cd,globs,flc,λf ds=>match f with
  |113=>some S_Zif
  |121=>some S_cbor_Skip
  |167=>some S_Zim
  |_=>none,λf=>match f with
  |113=>true
  |121=>true
  |_=>false⟩
def A_Ziq:Loc2 T:=⟨λid=>match id with
  |0=>some ⟨[(0,.f (.v (.rs 1))),(1,.f (.v .u64)),(6,.f (.v (.int .i64))),(22,.f (.v .u64)),(23,.f (.v .u64))],[(.ret,[(4,.f (.own 1)),(5,.f (.v .bool))]),(.exit 0,[])],Ziq_L0,[]⟩
  |_=>none,λr=>match r with
  |_=>none⟩
theorem Vsh(y0:(List (Ja)))(y1:Ub)(y2:Int)(y3:Ub)(y4:Ub):run E_Ziq A_Ziq (loopAt 0 (Tryz.f120.body.getD .skip)) (layC cd [(0,.f (.v (.rs 1))),(1,.f (.v .u64)),(6,.f (.v (.int .i64))),(22,.f (.v .u64)),(23,.f (.v .u64))] [] (y0,y1,y2,y3,y4,())) (roundK cd [(0,.f (.v (.rs 1))),(1,.f (.v .u64)),(6,.f (.v (.int .i64))),(22,.f (.v .u64)),(23,.f (.v .u64))] [] [(.ret,[(4,.f (.own 1)),(5,.f (.v .bool))]),(.exit 0,[])])=Ziq_L0b y0 y1 y2 y3 y4:=by kernel_rfl
theorem Ve9a(x:tySs T S_Ziq.ps):run E_Ziq A_Ziq (Tryz.f120.body.getD .skip) (enterT E_Ziq.C S_Ziq.ps x) (retK E_Ziq Tryz.f120.results.toList S_Ziq.ps S_Ziq.rs)=S_Ziq.fn x:=by kernel_rfl
theorem Vsi:EnvOk Tryz.prog E_Ziq:=envOk (E:=E_Ziq) cd_ok tys fl_ok λf ds S h=>by
  dsimp only[E_Ziq]at h;split at h
  ·cases h;exact Vaka
  ·cases h;exact Vgi
  ·cases h;exact Vaoa
  ·cases h
theorem Vsj:LoopOk Tryz.prog E_Ziq Tryz.f120.ntmps (kqOf S_Ziq.ps 0) (loopAt 0 (Tryz.f120.body.getD .skip)) ⟨[(0,.f (.v (.rs 1))),(1,.f (.v .u64)),(6,.f (.v (.int .i64))),(22,.f (.v .u64)),(23,.f (.v .u64))],[(.ret,[(4,.f (.own 1)),(5,.f (.v .bool))]),(.exit 0,[])],Ziq_L0,[]⟩:=
 Vh2 (A:=A_Ziq) (done:=[]) (c0:=(Tryz.f120.body.getD .skip)) hmix Vsi Vag rounds (by kernel_rfl) (by kernel_rfl) (λx=>Vsh x.1 x.2.1 x.2.2.1 x.2.2.2.1 x.2.2.2.2.1) (λ_=>rfl)
theorem Vfaa:SoundT Tryz.prog cd gdn 120 S_Ziq:=
 Vcw (E:=E_Ziq) (A:=A_Ziq) (done:=[0]) (c:=(Tryz.f120.body.getD .skip)) (S:=S_Ziq) (fn:=Tryz.f120) hmix Vsi Tryz.func120 rfl (by kernel_rfl) (by kernel_rfl) (Vbt rfl Vsj Vag) (by kernel_rfl) (by kernel_rfl) Ve9a
def c227:List (Ct T):=⟨120,none,S_Ziq,false⟩::c226
theorem o227:EnvOk Tryz.prog (mE c227):=eCons Vfaa o226
def Zcs(a0:List Ja)(a1:Ub):O1 Ja:=
 (Ziq a0 a1).bind λr1=>cond (!r1.2.2.1) (some ((),{},())) (cond (decide ((r1.2.1.length:Int)=0)) (some ((),{},())) (cond (decide (0<(r1.2.1.length:Int))) (r1.2.1[0]?.bind λx2=>rt x2) none))
def c228:=ct c227 119 [qq,qd] [qv] (u2 Zcs)
theorem o228:EO c228:=sz o227 Tryz.func119
def Zcu(a0:List Ja)(a1:Ub):O1 Ua:=
 (Zcs a0 a1).bind λr1=>rt r1.2.1.data
def c229:=ct c228 76 [qq,qd] [qt] (u2 Zcu)
theorem o229:EO c229:=sz o228 Tryz.func76
def Zcv(a0:List Ja)(a1:Ub):O1 Ub:=
 (Zcs a0 a1).bind λr1=>rt r1.2.1.number
def c230:=ct c229 77 [qq,qd] [qr] (u2 Zcv)
theorem o230:EO c230:=sz o229 Tryz.func77
def Zbq(a0:List Ja)(a1:Ub):O1 Int:=
 (Zcs a0 a1).bind λr1=>rt (Qa .i64 (r1.2.1.number.toNat:Int))
def c231:=ct c230 78 [qq,qd] [qa] (u2 Zbq)
theorem o231:EO c231:=sz o230 Tryz.func78
def Zas_L0b(y0:List Ja)(y1:List (List Ja))(y2:Int):Option (((List (Ja))×(List (List Ja))×Int×Unit)⊕((List (List Ja))×Unit)):=
 cond (decide (y2<y0.length)) ((cbor_Skip y0 y2).bind λr4=>cond (!r4.2.2.1) (some (Qc (y1,()))) (cond (decide (r4.2.1<=y2)) (some (Qc (y1,()))) (cond (decide (y0.length<r4.2.1)) (some (Qc (y1,()))) (cond (decide (0<=r4.2.1)&&decide (r4.2.1<=y0.length)) (cond (decide (0<=y2)&&decide (y2<=r4.2.1.toNat)) (let v5:List (List Ja):=[Ql y2.toNat (Qk r4.2.1.toNat y0)];cond (small (y1.length+(v5:List (List Ja)).length) 24) (some (Qe (y0,y1++v5,r4.2.1,()))) none) none) none)))) (some (Qc (y1,())))
def Zas_L0:=i3 Zas_L0b
def Zas(a0:List Ja)(a1:Ub):O1 (List (List Ja)):=
 (Ziq a0 a1).bind λr1=>cond (!r1.2.2.1) (rt []) ((Zas_L0 (r1.2.1,[],1,())).bind λz6=>rt z6.1)
def c232:=cf c231 86 [qq,qd] [(.own 21)] (u2 Zas)
def s_Zas_L0:LSpec T:=⟨[(5,qq),(7,qa2),(8,qc)],[(.exit 0,[(7,qa2)])],Zas_L0,[]⟩
def A_Zas:Loc2 T:=lcA [(0,s_Zas_L0)] []
theorem Vsk:LO c232 Tryz.f86 0 s_Zas_L0:=lx o231 A_Zas dn (λ_=>rfl)
theorem o232:EO c232:=sx o231 A_Zas Tryz.func86 (dc rfl Vsk dn)
def Zct_L0b(y0:List Ua)(y1:List (List Ja))(y2 y3:Int):Option (((List Ua)×(List (List Ja))×Int×Int×Unit)⊕((List Ua)×Unit)):=
 cond (decide (y3<y2)) (cond (decide (0<=y3)&&decide (y3<y1.length)) (y1[y3.toNat]?.bind λx2=>(getI x2 (0:Int)).bind λx3=>cond (small (y0.length+([x3.data]).length) 24) (some (Qe (y0++[x3.data],y1,y2,Qa .i64 (y3+1),()))) none) none) (some (Qc (y0,())))
def Zct_L0:=i4 Zct_L0b
def Zct(a0:List Ja)(a1:Ub):O1 (List Ua):=
 (Zas a0 a1).bind λr1=>(Zct_L0 ([],r1.2.1,(r1.2.1.length:Int),0,())).bind λz4=>rt z4.1
def c233:=cf c232 79 [qq,qd] [(.own 3)] (u2 Zct)
def s_Zct_L0:LSpec T:=⟨[(5,qa4),(10,qa2),(11,qc),(12,qc)],[(.exit 0,[(5,qa4)])],Zct_L0,[]⟩
def A_Zct:Loc2 T:=lcA [(0,s_Zct_L0)] []
theorem Vsl:LO c233 Tryz.f79 0 s_Zct_L0:=lx o232 A_Zct dn (λ_=>rfl)
theorem o233:EO c233:=sx o232 A_Zct Tryz.func79 (dc rfl Vsl dn)
def Zcr(a0:List Ja)(a1:Ub):O1 Bool:=
 (Zcs a0 a1).bind λr1=>rt (decide (r1.2.1.number=1#64))
def c234:=ct c233 80 [qq,qd] [qf] (u2 Zcr)
theorem o234:EO c234:=sz o233 Tryz.func80
def Zdr(a0:List Ja)(a1:Ub):O1 Bool:=
 (Ziq a0 a1).bind λr1=>rt r1.2.2.1
def c235:=ct c234 81 [qq,qd] [qf] (u2 Zdr)
theorem o235:EO c235:=sz o234 Tryz.func81
def Zcc(a0:List Ja)(a1:Ub):O1 Ua:=
 (Zcs a0 a1).bind λr1=>rt r1.2.1.data
def c236:=cf c235 82 [qq,qd] [qk] (u2 Zcc)
theorem o236:EO c236:=sz o235 Tryz.func82
def Zhl(a0:Int)(a1:List Ja):O1 Jb:=
 (Zcu a1 1#64).bind λr1=>(Zcu a1 2#64).bind λr2=>(Zcu a1 3#64).bind λr3=>(Zcv a1 4#64).bind λr4=>(Zbq a1 5#64).bind λr5=>(Zbq a1 6#64).bind λr6=>(Zct a1 7#64).bind λr7=>(Zcr a1 8#64).bind λr8=>(Zcr a1 9#64).bind λr9=>(Zcr a1 10#64).bind λr10=>(Zcr a1 11#64).bind λr11=>(Zbq a1 12#64).bind λr12=>(Zcv a1 13#64).bind λr13=>(Zdr a1 13#64).bind λr14=>(Zcv a1 14#64).bind λr15=>(Zcc a1 15#64).bind λr16=>(Zcc a1 16#64).bind λr17=>(Zbq a1 17#64).bind λr18=>(Zcc a1 18#64).bind λr19=>(Zbq a1 19#64).bind λr20=>rt ⟨a0,r1.2.1,r2.2.1,r3.2.1,r4.2.1,r5.2.1,r6.2.1,r7.2.1,r8.2.1,r9.2.1,r10.2.1,r11.2.1,r12.2.1,r13.2.1,r14.2.1,r15.2.1,r16.2.1,r17.2.1,r18.2.1,r19.2.1,r20.2.1⟩
def c237:=cf c236 33 [qc,qq] [qh] (u2 Zhl)
theorem o237:EO c237:=sz o236 Tryz.func33
def Zbn(a0:Ua):O2 Jb Int:=
 cond (decide ((a0.length:Int)=0)) (some ((),{},1,())) (cond (decide (4096<(a0.length:Int))) (some ((),{},8,())) ((getI a0 (0:Int)).bind λx1=>cond (decide ((x1.toBitVec.toNat:Int)<1)) (some ((),{},3,())) ((getI a0 (0:Int)).bind λx2=>cond (decide (14<(x2.toBitVec.toNat:Int))) (some ((),{},3,())) (cond (decide (1<=(a0.length:Int))) ((Zio (Ql 1 a0)).bind λr3=>cond (!(decide (r3.2.2.2.1=0))) (some ((),{},r3.2.2.2.1,())) ((getI a0 (0:Int)).bind λx4=>(Zhl (x4.toBitVec.toNat:Int) r3.2.1).bind λr5=>(Zbo r5.2.1).bind λr6=>cond (!(decide (r6.2.2.1=0))) (some ((),{},2,())) ((Zin r6.2.1 a0).bind λr7=>cond (!r7.2.1) (some ((),{},2,())) (ru r5.2.1 0)))) none))))
def c238:=cf c237 11 [qg] [qh,qa] (u1 Zbn)
theorem o238:EO c238:=sz o237 Tryz.func11
abbrev Y_Zap_L0:=((Jb×Unit)×(Jb×Unit)×Int×Unit)
def Zap_L0b(y0 y1:Jb×Unit)(y2:Int):Option (Y_Zap_L0⊕((Bool×Unit)⊕((Jb×Unit)×(Jb×Unit)×Unit))):=
 cond (decide (y2<y0.1.list.length)) ((getI y0.1.list y2).bind λx1=>(getI y1.1.list y2).bind λx2=>cond (!(decide (x1=x2))) (some (Qc (Qe (false,())))) (some (Qe ((y0.1,()),(y1.1,()),Qa .i64 (y2+1),())))) (some (Qc (Qc ((y0.1,()),(y1.1,()),()))))
def Zap_L0:=i3 Zap_L0b
def Zap(a0 a1:Jb):O1 Bool:=
 cond (!(decide ((a0.list.length:Int)=(a1.list.length:Int)))) (rt false) ((Zap_L0 ((a0,()),(a1,()),0,())).bind (Qh (λz3=>rt z3.1) (λz4=>cond (decide (z4.1.1.kind=z4.2.1.1.kind)) (cond (decide (z4.1.1.rP=z4.2.1.1.rP)) (cond (decide (z4.1.1.user=z4.2.1.1.user)) (cond (decide (z4.1.1.name=z4.2.1.1.name)) (cond (decide (z4.1.1.jz=z4.2.1.1.jz)) (cond (decide (z4.1.1.jd=z4.2.1.1.jd)) (cond (decide (z4.1.1.je=z4.2.1.1.je)) (cond (z4.1.1.jg==z4.2.1.1.jg) (cond (z4.1.1.js==z4.2.1.1.js) (cond (z4.1.1.jt==z4.2.1.1.jt) (cond (z4.1.1.jo==z4.2.1.1.jo) (cond (decide (z4.1.1.jk=z4.2.1.1.jk)) (cond (decide (z4.1.1.auth=z4.2.1.1.auth)) (cond (z4.1.1.jl==z4.2.1.1.jl) (cond (decide (z4.1.1.jv=z4.2.1.1.jv)) (cond (decide (z4.1.1.box=z4.2.1.1.box)) (cond (decide (z4.1.1.proof=z4.2.1.1.proof)) (cond (decide (z4.1.1.jb=z4.2.1.1.jb)) (cond (decide (z4.1.1.iD=z4.2.1.1.iD)) (rt (decide (z4.1.1.count=z4.2.1.1.count))) (rt false)) (rt false)) (rt false)) (rt false)) (rt false)) (rt false)) (rt false)) (rt false)) (rt false)) (rt false)) (rt false)) (rt false)) (rt false)) (rt false)) (rt false)) (rt false)) (rt false)) (rt false)) (rt false))))
def c239:=ct c238 12 [qa5,qa5] [qf] (u2 Zap)
def s_Zap_L0:LSpec T:=⟨[(2,qac),(3,qac),(5,qc)],[(.ret,[(4,qs)]),(.exit 0,[(2,qac),(3,qac)])],Zap_L0,[]⟩
def A_Zap:Loc2 T:=lcA [(0,s_Zap_L0)] []
theorem Vsm:LO c239 Tryz.f12 0 s_Zap_L0:=lx o238 A_Zap dn (λ_=>rfl)
theorem o239:EO c239:=sx o238 A_Zap Tryz.func12 (dc rfl Vsm dn)
def Zak(a0 a1:Int):O1 Bool:=
 (Zce a0 a1).bind λr1=>(Zbo r1.2.1).bind λr2=>cond (!(decide (r2.2.2.1=0))) ((Zbw r1.2.1).bind λr3=>cond (decide (r2.2.2.1=r3.2.1)) (Zdv.bind λr4=>rt r4.2.1) (rt false)) ((Zbn r2.2.1).bind λr5=>cond (decide (r5.2.2.1=0)) (cond (decide ((r2.2.1.length:Int)<=4096)) ((Zap r1.2.1 r5.2.1).bind λr6=>cond r6.2.1 (Zdv.bind λr7=>rt r7.2.1) (rt false)) (rt false)) (rt false))
def S_Zak:FSpec T:=⟨[.f (.v (.int .i64)),.f (.v (.int .i64))],[(.v .bool)],λx=>Zak x.1 x.2.1⟩
theorem Vfba:SoundT Tryz.prog cd gdn 4 S_Zak:=
 sndC hmix o239 (lcA [] []) Tryz.func4 Vag (by kernel_rfl) (by kernel_rfl) λx=>by kernel_rfl
def MessageBack_dom(a0:Int)(a1:Int):Prop:=ArgD cd [(.int .i64),(.int .i64)] (a0,a1,())
end Go.Proofs.YtnfhkhlbdgbkjaaGreatDoor

/- The functions of the program, as plain functions, and that the program computes them. Written by a program. -/
import Derived.Test.YtancibcbaajjkaaGreatDoorFns1
set_option linter.unusedVariables false
set_option maxRecDepth 100000
namespace Go.Proofs.YtancibcbaajjkaaGreatDoor
open Go Go.Abs
open Go.IntKind renaming wrap → Qa, bits → Qb
open _root_.BitVec renaming ofInt → Qc, setWidth → Qi
open _root_.Sum renaming inr → Qd, inl → Qe, elim → Qh
open _root_.UInt8 renaming ofBitVec → Qf
open _root_.Int renaming fdiv → Qg, tmod → Qk
open _root_.List renaming set → Qj
abbrev Y_Zcr_L1:=(Int×Int×(Ji×Unit)×Yaq×(Jc×Unit)×Yaq×Int×Unit)
abbrev Z_Zcr_L1:=(Int×Int×Yaq×(Jc×Unit)×Yaq×Unit)
def Zcr_L1b (y0 y1:Int) (y2:Ji×Unit) (y3:Int×List UInt8×List UInt8×List UInt8×BitVec 64×Int×Int×List (List UInt8)×Bool×Bool×Bool×Bool×Int×BitVec 64×Bool×BitVec 64×List UInt8×List UInt8×Int×List UInt8×Int×Unit) (y4:Jc×Unit) (y5:Int×List UInt8×List UInt8×List UInt8×BitVec 64×Int×Int×List (List UInt8)×Bool×Bool×Bool×Bool×Int×BitVec 64×Bool×BitVec 64×List UInt8×List UInt8×Int×List UInt8×Int×Unit) (y6:Int):Option (Y_Zcr_L1⊕Z_Zcr_L1):=
 let v39:=Qa .i64 ((Qc (Qb .i64) (Qg y1 (2 ^ min 7 (Qb .i64)))&&&Qc (Qb .i64) 3).toNat:Int);bif decide (y6 < v39) then let v40:=Qa .i64 (4+Qa .i64 (3*y6));let v41:=Qg y0 (2 ^ min (Qc 64 v40).toNat (Qb .i64));(Zcq y2.1 v41).bind λr42=>bif small (y5.2.2.2.2.2.2.2.1.length+([r42.2.1]).length) 24 then let v43:=y5.2.2.2.2.2.2.2.1++[r42.2.1];some (Qe (y0,y1,(y2.1,()),y3,(y4.1,()),(y5.1,y5.2.1,y5.2.2.1,y5.2.2.2.1,y5.2.2.2.2.1,y5.2.2.2.2.2.1,y5.2.2.2.2.2.2.1,v43,y5.2.2.2.2.2.2.2.2),Qa .i64 (y6+1),())) else none else some (Qd (y0,y1,y3,(y4.1,()),y5,()))
def Zcr_L1 (y:Y_Zcr_L1):Option Z_Zcr_L1:=
 iter (λ(y:Y_Zcr_L1)=>Zcr_L1b y.1 y.2.1 y.2.2.1 y.2.2.2.1 y.2.2.2.2.1 y.2.2.2.2.2.1 y.2.2.2.2.2.2.1) rounds y
def Zcr (a0:Ji) (a1 a2:Int):Option (Unit×Jb×Unit):=
 (Zhb a0.jf).bind λr1=>(Zbj 4711#64).bind λr2=>let v3:=Qa .i64 ((Qc (Qb .i64) (Qg a2 (2 ^ min 3 (Qb .i64)))&&&Qc (Qb .i64) 1).toNat:Int);(Zha v3).bind λr4=>(Zcb r4.2.1).bind λr5=>(Zbs r1.2.1 (Qc 64 a2) r5.2.1).bind λr6=>let v7:=Qa .i64 ((Qc (Qb .i64) (Qg a2 (2 ^ min 4 (Qb .i64)))&&&Qc (Qb .i64) 1).toNat:Int);(Zha v7).bind λr8=>let v9:=Qa .i64 ((Qc (Qb .i64) (Qg a2 (2 ^ min 5 (Qb .i64)))&&&Qc (Qb .i64) 3).toNat:Int);(Zha v9).bind λr10=>(Zha 0).bind λr11=>let v12:List (List UInt8):=[r8.2.1,r10.2.1,[49,49,49],r11.2.1];let v13:=Qa .i64 ((Qc (Qb .i64) (Qg a2 (2 ^ min 7 (Qb .i64)))&&&Qc (Qb .i64) 3).toNat:Int);bif decide (0<=v13)&&decide (v13 < 4) then v12[v13.toNat]?.bind λx14=>(Zcd r1.2.1 (Qc 64 a2+1#64) x14).bind λr15=>(let v16:=Qa .i64 ((Qc (Qb .i64) a1&&&Qc (Qb .i64) 15).toNat:Int);(bif decide (v16=0) then some (a1,a2,(a0,()),((0:Int),([]:List UInt8),([]:List UInt8),([]:List UInt8),0#64,(0:Int),(0:Int),[],false,false,false,false,(0:Int),0#64,false,0#64,[],[],(0:Int),[],(0:Int),()),(a0.jf,()),r1.2.1,r2.2.1,r6.2.1,r15.2.1,((0:Int),([]:List UInt8),([]:List UInt8),([]:List UInt8),0#64,(0:Int),(0:Int),[],false,false,false,false,(0:Int),0#64,false,0#64,[],[],(0:Int),[],(0:Int),()),v16,decide (v16=0),()) else bif decide (v16=1) then some (a1,a2,(a0,()),((0:Int),([]:List UInt8),([]:List UInt8),([]:List UInt8),0#64,(0:Int),(0:Int),[],false,false,false,false,(0:Int),0#64,false,0#64,[],[],(0:Int),[],(0:Int),()),(a0.jf,()),r1.2.1,r2.2.1,r6.2.1,r15.2.1,((0:Int),([]:List UInt8),([]:List UInt8),([]:List UInt8),0#64,(0:Int),(0:Int),[],false,false,false,false,(0:Int),0#64,false,0#64,[],[],(0:Int),[],(0:Int),()),v16,decide (v16=1),()) else some (a1,a2,(a0,()),((0:Int),([]:List UInt8),([]:List UInt8),([]:List UInt8),0#64,(0:Int),(0:Int),[],false,false,false,false,(0:Int),0#64,false,0#64,[],[],(0:Int),[],(0:Int),()),(a0.jf,()),r1.2.1,r2.2.1,r6.2.1,r15.2.1,((0:Int),([]:List UInt8),([]:List UInt8),([]:List UInt8),0#64,(0:Int),(0:Int),[],false,false,false,false,(0:Int),0#64,false,0#64,[],[],(0:Int),[],(0:Int),()),v16,decide (v16=2),())).bind λ(j17:Int×Int×(Ji×Unit)×(Int×List UInt8×List UInt8×List UInt8×BitVec 64×Int×Int×List (List UInt8)×Bool×Bool×Bool×Bool×Int×BitVec 64×Bool×BitVec 64×List UInt8×List UInt8×Int×List UInt8×Int×Unit)×(Jc×Unit)×BitVec 64×BitVec 64×List UInt8×List UInt8×(Int×List UInt8×List UInt8×List UInt8×BitVec 64×Int×Int×List (List UInt8)×Bool×Bool×Bool×Bool×Int×BitVec 64×Bool×BitVec 64×List UInt8×List UInt8×Int×List UInt8×Int×Unit)×Int×Bool×Unit)=>bif j17.2.2.2.2.2.2.2.2.2.2.2.1 then (Zhr j17.2.1).bind λr18=>(Zfs (Qg j17.2.1 (2 ^ min 2 (Qb .i64)))).bind λr19=>(Zfr (Qg j17.2.1 (2 ^ min 4 (Qb .i64)))).bind λr20=>(Zft j17.2.1).bind λr21=>let v22:=Qa .i64 ((Qc (Qb .i64) (Qg j17.2.1 (2 ^ min 5 (Qb .i64)))&&&Qc (Qb .i64) 1).toNat:Int);let v23:=Qk (Qg j17.2.1 (2 ^ min 6 (Qb .i64))) 3;let v24:=Qa .i64 ((Qc (Qb .i64) (Qg j17.2.1 (2 ^ min 8 (Qb .i64)))&&&Qc (Qb .i64) 1).toNat:Int);let v25:=Qa .i64 ((Qc (Qb .i64) (Qg j17.2.1 (2 ^ min 9 (Qb .i64)))&&&Qc (Qb .i64) 3).toNat:Int);let v26:=Qk (Qg j17.2.1 (2 ^ min 11 (Qb .i64))) 3;bif decide (v24=1) then let v27:=Qa .i64 ((Qc (Qb .i64) (Qg j17.2.1 (2 ^ min 13 (Qb .i64)))&&&Qc (Qb .i64) 1).toNat:Int);let v28:=Qa .i64 ((Qc (Qb .i64) (Qg j17.2.1 (2 ^ min 3 (Qb .i64)))&&&Qc (Qb .i64) 7).toNat:Int);bif decide (v28=7) then (Zcq j17.2.2.1.1 (Qg j17.1 (2 ^ min 8 (Qb .i64)))).bind λr29=>(Zcq j17.2.2.1.1 (Qg j17.1 (2 ^ min 9 (Qb .i64)))).bind λr30=>some (j17.1,j17.2.1,j17.2.2.2.1,(j17.2.2.2.2.1.1,()),((⟨2,r18.2.1,r19.2.1,r20.2.1,r21.2.1,Qa .i64 (1+v22),Qa .i64 (1+v23),[r29.2.1,r30.2.1],decide (v24=1),false,decide (v25=3),decide (v27=1),v26,0#64,false,0#64,[],[],0,[],0⟩:Jb),()),()) else some (j17.1,j17.2.1,j17.2.2.2.1,(j17.2.2.2.2.1.1,()),((⟨2,r18.2.1,r19.2.1,r20.2.1,r21.2.1,Qa .i64 (1+v22),Qa .i64 (1+v23),[],decide (v24=1),false,decide (v25=3),decide (v27=1),v26,0#64,false,0#64,[],[],0,[],0⟩:Jb),()),()) else let v31:=Qa .i64 ((Qc (Qb .i64) (Qg j17.2.1 (2 ^ min 3 (Qb .i64)))&&&Qc (Qb .i64) 7).toNat:Int);bif decide (v31=7) then (Zcq j17.2.2.1.1 (Qg j17.1 (2 ^ min 8 (Qb .i64)))).bind λr32=>(Zcq j17.2.2.1.1 (Qg j17.1 (2 ^ min 9 (Qb .i64)))).bind λr33=>some (j17.1,j17.2.1,j17.2.2.2.1,(j17.2.2.2.2.1.1,()),((⟨2,r18.2.1,r19.2.1,r20.2.1,r21.2.1,Qa .i64 (1+v22),Qa .i64 (1+v23),[r32.2.1,r33.2.1],decide (v24=1),false,decide (v25=3),false,v26,0#64,false,0#64,[],[],0,[],0⟩:Jb),()),()) else some (j17.1,j17.2.1,j17.2.2.2.1,(j17.2.2.2.2.1.1,()),((⟨2,r18.2.1,r19.2.1,r20.2.1,r21.2.1,Qa .i64 (1+v22),Qa .i64 (1+v23),[],decide (v24=1),false,decide (v25=3),false,v26,0#64,false,0#64,[],[],0,[],0⟩:Jb),()),()) else (bif decide (j17.2.2.2.2.2.2.2.2.2.2.1=3) then some (j17.1,j17.2.1,(j17.2.2.1.1,()),j17.2.2.2.1,(j17.2.2.2.2.1.1,()),j17.2.2.2.2.2.1,j17.2.2.2.2.2.2.1,j17.2.2.2.2.2.2.2.1,j17.2.2.2.2.2.2.2.2.1,j17.2.2.2.2.2.2.2.2.2.1,j17.2.2.2.2.2.2.2.2.2.2.1,decide (j17.2.2.2.2.2.2.2.2.2.2.1=3),()) else bif decide (j17.2.2.2.2.2.2.2.2.2.2.1=4) then some (j17.1,j17.2.1,(j17.2.2.1.1,()),j17.2.2.2.1,(j17.2.2.2.2.1.1,()),j17.2.2.2.2.2.1,j17.2.2.2.2.2.2.1,j17.2.2.2.2.2.2.2.1,j17.2.2.2.2.2.2.2.2.1,j17.2.2.2.2.2.2.2.2.2.1,j17.2.2.2.2.2.2.2.2.2.2.1,decide (j17.2.2.2.2.2.2.2.2.2.2.1=4),()) else some (j17.1,j17.2.1,(j17.2.2.1.1,()),j17.2.2.2.1,(j17.2.2.2.2.1.1,()),j17.2.2.2.2.2.1,j17.2.2.2.2.2.2.1,j17.2.2.2.2.2.2.2.1,j17.2.2.2.2.2.2.2.2.1,j17.2.2.2.2.2.2.2.2.2.1,j17.2.2.2.2.2.2.2.2.2.2.1,decide (j17.2.2.2.2.2.2.2.2.2.2.1=5),())).bind λj34=>bif j34.2.2.2.2.2.2.2.2.2.2.2.1 then (Zhr j34.2.1).bind λr35=>(Zft j34.2.1).bind λr36=>let v37:=Qa .i64 ((Qc (Qb .i64) (Qg j34.2.1 (2 ^ min 3 (Qb .i64)))&&&Qc (Qb .i64) 3).toNat:Int);let v38:=Qa .i64 ((Qc (Qb .i64) (Qg j34.2.1 (2 ^ min 5 (Qb .i64)))&&&Qc (Qb .i64) 3).toNat:Int);(Zcr_L1 (j34.1,j34.2.1,(j34.2.2.1.1,()),j34.2.2.2.1,(j34.2.2.2.2.1.1,()),(3,r35.2.1,[],[],r36.2.1,0,0,[],false,!(decide (v37=3)),decide (v38=3),false,0,0#64,false,0#64,[],[],0,[],0,()),0,())).bind λz39=>some (z39.1,z39.2.1,z39.2.2.1,(z39.2.2.2.1.1,()),((⟨z39.2.2.2.2.1.1,z39.2.2.2.2.1.2.1,z39.2.2.2.2.1.2.2.1,z39.2.2.2.2.1.2.2.2.1,z39.2.2.2.2.1.2.2.2.2.1,z39.2.2.2.2.1.2.2.2.2.2.1,z39.2.2.2.2.1.2.2.2.2.2.2.1,z39.2.2.2.2.1.2.2.2.2.2.2.2.1,z39.2.2.2.2.1.2.2.2.2.2.2.2.2.1,z39.2.2.2.2.1.2.2.2.2.2.2.2.2.2.1,z39.2.2.2.2.1.2.2.2.2.2.2.2.2.2.2.1,z39.2.2.2.2.1.2.2.2.2.2.2.2.2.2.2.2.1,z39.2.2.2.2.1.2.2.2.2.2.2.2.2.2.2.2.2.1,z39.2.2.2.2.1.2.2.2.2.2.2.2.2.2.2.2.2.2.1,z39.2.2.2.2.1.2.2.2.2.2.2.2.2.2.2.2.2.2.2.1,z39.2.2.2.2.1.2.2.2.2.2.2.2.2.2.2.2.2.2.2.2.1,z39.2.2.2.2.1.2.2.2.2.2.2.2.2.2.2.2.2.2.2.2.2.1,z39.2.2.2.2.1.2.2.2.2.2.2.2.2.2.2.2.2.2.2.2.2.2.1,z39.2.2.2.2.1.2.2.2.2.2.2.2.2.2.2.2.2.2.2.2.2.2.2.1,z39.2.2.2.2.1.2.2.2.2.2.2.2.2.2.2.2.2.2.2.2.2.2.2.2.1,z39.2.2.2.2.1.2.2.2.2.2.2.2.2.2.2.2.2.2.2.2.2.2.2.2.2.1⟩:Jb),()),()) else bif decide (j34.2.2.2.2.2.2.2.2.2.2.1=6) then some (j34.1,j34.2.1,j34.2.2.2.1,(j34.2.2.2.2.1.1,()),(({kind:=4}:Jb),()),()) else bif decide (j34.2.2.2.2.2.2.2.2.2.2.1=7) then some (j34.1,j34.2.1,j34.2.2.2.1,(j34.2.2.2.2.1.1,()),(({kind:=7,jv:=j34.2.2.2.2.2.2.1,box:=j34.2.2.2.2.2.2.2.2.1}:Jb),()),()) else (bif decide (j34.2.2.2.2.2.2.2.2.2.2.1=8) then some (j34.1,j34.2.1,(j34.2.2.1.1,()),j34.2.2.2.1,(j34.2.2.2.2.1.1,()),j34.2.2.2.2.2.1,j34.2.2.2.2.2.2.1,j34.2.2.2.2.2.2.2.1,j34.2.2.2.2.2.2.2.2.1,j34.2.2.2.2.2.2.2.2.2.1,j34.2.2.2.2.2.2.2.2.2.2.1,decide (j34.2.2.2.2.2.2.2.2.2.2.1=8),()) else some (j34.1,j34.2.1,(j34.2.2.1.1,()),j34.2.2.2.1,(j34.2.2.2.2.1.1,()),j34.2.2.2.2.2.1,j34.2.2.2.2.2.2.1,j34.2.2.2.2.2.2.2.1,j34.2.2.2.2.2.2.2.2.1,j34.2.2.2.2.2.2.2.2.2.1,j34.2.2.2.2.2.2.2.2.2.2.1,decide (j34.2.2.2.2.2.2.2.2.2.2.1=9),())).bind λj40=>bif j40.2.2.2.2.2.2.2.2.2.2.2.1 then let v41:=Qk (Qg j40.2.1 (2 ^ min 8 (Qb .i64))) 7;(Zhr (Qg j40.2.1 (2 ^ min 1 (Qb .i64)))).bind λr42=>let v43:=Qa .i64 ((Qc (Qb .i64) (Qg j40.2.1 (2 ^ min 2 (Qb .i64)))&&&Qc (Qb .i64) 1).toNat:Int);bif decide (0<=v43)&&decide (v43 < 2) then ([[],r42.2.1]:List (List UInt8))[v43.toNat]?.bind λx44=>some (j40.1,j40.2.1,j40.2.2.2.1,(j40.2.2.2.2.1.1,()),(({kind:=9,rP:=x44,jv:=j40.2.2.2.2.2.2.1,proof:=j40.2.2.2.2.2.2.2.1,jb:=Qa .i64 (1+v41)}:Jb),()),()) else none else bif decide (j40.2.2.2.2.2.2.2.2.2.2.1=10) then some (j40.1,j40.2.1,j40.2.2.2.1,(j40.2.2.2.2.1.1,()),(({kind:=8,jv:=j40.2.2.2.2.2.2.1,box:=j40.2.2.2.2.2.2.2.2.1,proof:=j40.2.2.2.2.2.2.2.1}:Jb),()),()) else bif decide (j40.2.2.2.2.2.2.2.2.2.2.1=11) then let v45:=Qa .i64 ((Qc (Qb .i64) j40.2.1&&&Qc (Qb .i64) 3).toNat:Int);bif decide (0<=v45)&&decide (v45 < 4) then ([1,5,6,10]:List Int)[v45.toNat]?.bind λx46=>some (j40.1,j40.2.1,j40.2.2.2.1,(j40.2.2.2.2.1.1,()),(({kind:=x46}:Jb),()),()) else none else bif decide (j40.2.2.2.2.2.2.2.2.2.2.1=12) then some (j40.1,j40.2.1,j40.2.2.2.1,(j40.2.2.2.2.1.1,()),(({kind:=11}:Jb),()),()) else bif decide (j40.2.2.2.2.2.2.2.2.2.2.1=13) then (Zcq j40.2.2.1.1 j40.2.1).bind λr47=>some (j40.1,j40.2.1,j40.2.2.2.1,(j40.2.2.2.2.1.1,()),(({kind:=12,iD:=r47.2.1}:Jb),()),()) else bif decide (j40.2.2.2.2.2.2.2.2.2.2.1=14) then (Zcq j40.2.2.1.1 j40.2.1).bind λr48=>let v49:=Qa .i64 ((Qc (Qb .i64) (Qg j40.2.1 (2 ^ min 5 (Qb .i64)))&&&Qc (Qb .i64) 3).toNat:Int);some (j40.1,j40.2.1,j40.2.2.2.1,(j40.2.2.2.2.1.1,()),(({kind:=13,jv:=j40.2.2.2.2.2.2.1,iD:=r48.2.1,count:=v49}:Jb),()),()) else bif decide (j40.2.2.2.2.2.2.2.2.2.2.1=15) then let v50:=Qa .i64 ((Qc (Qb .i64) j40.2.1 ||| Qc (Qb .i64) 896).toNat:Int);(Zbe v50).bind λr51=>let v52:=Qa .i64 ((Qc (Qb .i64) j40.2.1&&&Qc (Qb .i64) 1).toNat:Int);let v53:=Qa .i64 ((Qc (Qb .i64) (Qg j40.2.1 (2 ^ min 1 (Qb .i64)))&&&Qc (Qb .i64) 1).toNat:Int);(Zao r51.2.1 v52 (Qa .i64 (1+v53))).bind λr54=>(Zgj j40.2.2.2.2.2.1 (Qc 64 j40.2.1) [] r54.2.1).bind λr55=>some (j40.1,j40.2.1,j40.2.2.2.1,(j40.2.2.2.2.1.1,()),(({kind:=14,jv:=j40.2.2.2.2.2.2.1,box:=r55.2.1}:Jb),()),()) else some (j40.1,j40.2.1,j40.2.2.2.1,(j40.2.2.2.2.1.1,()),((⟨j40.2.2.2.2.2.2.2.2.2.1.1,j40.2.2.2.2.2.2.2.2.2.1.2.1,j40.2.2.2.2.2.2.2.2.2.1.2.2.1,j40.2.2.2.2.2.2.2.2.2.1.2.2.2.1,j40.2.2.2.2.2.2.2.2.2.1.2.2.2.2.1,j40.2.2.2.2.2.2.2.2.2.1.2.2.2.2.2.1,j40.2.2.2.2.2.2.2.2.2.1.2.2.2.2.2.2.1,j40.2.2.2.2.2.2.2.2.2.1.2.2.2.2.2.2.2.1,j40.2.2.2.2.2.2.2.2.2.1.2.2.2.2.2.2.2.2.1,j40.2.2.2.2.2.2.2.2.2.1.2.2.2.2.2.2.2.2.2.1,j40.2.2.2.2.2.2.2.2.2.1.2.2.2.2.2.2.2.2.2.2.1,j40.2.2.2.2.2.2.2.2.2.1.2.2.2.2.2.2.2.2.2.2.2.1,j40.2.2.2.2.2.2.2.2.2.1.2.2.2.2.2.2.2.2.2.2.2.2.1,j40.2.2.2.2.2.2.2.2.2.1.2.2.2.2.2.2.2.2.2.2.2.2.2.1,j40.2.2.2.2.2.2.2.2.2.1.2.2.2.2.2.2.2.2.2.2.2.2.2.2.1,j40.2.2.2.2.2.2.2.2.2.1.2.2.2.2.2.2.2.2.2.2.2.2.2.2.2.1,j40.2.2.2.2.2.2.2.2.2.1.2.2.2.2.2.2.2.2.2.2.2.2.2.2.2.2.1,j40.2.2.2.2.2.2.2.2.2.1.2.2.2.2.2.2.2.2.2.2.2.2.2.2.2.2.2.1,j40.2.2.2.2.2.2.2.2.2.1.2.2.2.2.2.2.2.2.2.2.2.2.2.2.2.2.2.2.1,j40.2.2.2.2.2.2.2.2.2.1.2.2.2.2.2.2.2.2.2.2.2.2.2.2.2.2.2.2.2.1,j40.2.2.2.2.2.2.2.2.2.1.2.2.2.2.2.2.2.2.2.2.2.2.2.2.2.2.2.2.2.2.1⟩:Jb),()),())).bind λj56=>(let v57:=Qa .i64 ((Qc (Qb .i64) j56.1&&&Qc (Qb .i64) 15).toNat:Int);bif decide (12<=v57) then (Zbp j56.2.2.2.1.1 j56.2.2.2.2.1.1).bind λr58=>some (j56.1,j56.2.1,j56.2.2.1,(r58.2.1.kind,r58.2.1.rP,r58.2.1.user,r58.2.1.name,r58.2.1.jaa,r58.2.1.jd,r58.2.1.jg,r58.2.1.list,r58.2.1.jj,r58.2.1.js,r58.2.1.ju,r58.2.1.jp,r58.2.1.jl,r58.2.1.auth,r58.2.1.jk,r58.2.1.jv,r58.2.1.box,r58.2.1.proof,r58.2.1.jb,r58.2.1.iD,r58.2.1.count,()),()) else let v59:=Qa .i64 ((Qc (Qb .i64) (Qg j56.1 (2 ^ min 4 (Qb .i64)))&&&Qc (Qb .i64) 1).toNat:Int);bif decide (v59=1) then let v60:=Qa .i64 ((Qc (Qb .i64) j56.1&&&Qc (Qb .i64) 15).toNat:Int);bif decide (v60 < 6) then (Zbp j56.2.2.2.1.1 j56.2.2.2.2.1.1).bind λr61=>some (j56.1,j56.2.1,j56.2.2.1,(r61.2.1.kind,r61.2.1.rP,r61.2.1.user,r61.2.1.name,r61.2.1.jaa,r61.2.1.jd,r61.2.1.jg,r61.2.1.list,r61.2.1.jj,r61.2.1.js,r61.2.1.ju,r61.2.1.jp,r61.2.1.jl,r61.2.1.auth,r61.2.1.jk,r61.2.1.jv,r61.2.1.box,r61.2.1.proof,r61.2.1.jb,r61.2.1.iD,r61.2.1.count,()),()) else some (j56.1,j56.2.1,j56.2.2.1,(j56.2.2.2.2.1.1.kind,j56.2.2.2.2.1.1.rP,j56.2.2.2.2.1.1.user,j56.2.2.2.2.1.1.name,j56.2.2.2.2.1.1.jaa,j56.2.2.2.2.1.1.jd,j56.2.2.2.2.1.1.jg,j56.2.2.2.2.1.1.list,j56.2.2.2.2.1.1.jj,j56.2.2.2.2.1.1.js,j56.2.2.2.2.1.1.ju,j56.2.2.2.2.1.1.jp,j56.2.2.2.2.1.1.jl,j56.2.2.2.2.1.1.auth,j56.2.2.2.2.1.1.jk,j56.2.2.2.2.1.1.jv,j56.2.2.2.2.1.1.box,j56.2.2.2.2.1.1.proof,j56.2.2.2.2.1.1.jb,j56.2.2.2.2.1.1.iD,j56.2.2.2.2.1.1.count,()),()) else some (j56.1,j56.2.1,j56.2.2.1,(j56.2.2.2.2.1.1.kind,j56.2.2.2.2.1.1.rP,j56.2.2.2.2.1.1.user,j56.2.2.2.2.1.1.name,j56.2.2.2.2.1.1.jaa,j56.2.2.2.2.1.1.jd,j56.2.2.2.2.1.1.jg,j56.2.2.2.2.1.1.list,j56.2.2.2.2.1.1.jj,j56.2.2.2.2.1.1.js,j56.2.2.2.2.1.1.ju,j56.2.2.2.2.1.1.jp,j56.2.2.2.2.1.1.jl,j56.2.2.2.2.1.1.auth,j56.2.2.2.2.1.1.jk,j56.2.2.2.2.1.1.jv,j56.2.2.2.2.1.1.box,j56.2.2.2.2.1.1.proof,j56.2.2.2.2.1.1.jb,j56.2.2.2.2.1.1.iD,j56.2.2.2.2.1.1.count,()),())).bind λj62=>(let v63:=Qa .i64 ((Qc (Qb .i64) (Qg j62.1 (2 ^ min 10 (Qb .i64)))&&&Qc (Qb .i64) 15).toNat:Int);bif decide (v63=15) then (Zep ⟨j62.2.2.2.1.1,j62.2.2.2.1.2.1,j62.2.2.2.1.2.2.1,j62.2.2.2.1.2.2.2.1,j62.2.2.2.1.2.2.2.2.1,j62.2.2.2.1.2.2.2.2.2.1,j62.2.2.2.1.2.2.2.2.2.2.1,j62.2.2.2.1.2.2.2.2.2.2.2.1,j62.2.2.2.1.2.2.2.2.2.2.2.2.1,j62.2.2.2.1.2.2.2.2.2.2.2.2.2.1,j62.2.2.2.1.2.2.2.2.2.2.2.2.2.2.1,j62.2.2.2.1.2.2.2.2.2.2.2.2.2.2.2.1,j62.2.2.2.1.2.2.2.2.2.2.2.2.2.2.2.2.1,j62.2.2.2.1.2.2.2.2.2.2.2.2.2.2.2.2.2.1,j62.2.2.2.1.2.2.2.2.2.2.2.2.2.2.2.2.2.2.1,j62.2.2.2.1.2.2.2.2.2.2.2.2.2.2.2.2.2.2.2.1,j62.2.2.2.1.2.2.2.2.2.2.2.2.2.2.2.2.2.2.2.2.1,j62.2.2.2.1.2.2.2.2.2.2.2.2.2.2.2.2.2.2.2.2.2.1,j62.2.2.2.1.2.2.2.2.2.2.2.2.2.2.2.2.2.2.2.2.2.2.1,j62.2.2.2.1.2.2.2.2.2.2.2.2.2.2.2.2.2.2.2.2.2.2.2.1,j62.2.2.2.1.2.2.2.2.2.2.2.2.2.2.2.2.2.2.2.2.2.2.2.2.1⟩ j62.2.1).bind λr64=>some (j62.2.2.1,(r64.2.1.kind,r64.2.1.rP,r64.2.1.user,r64.2.1.name,r64.2.1.jaa,r64.2.1.jd,r64.2.1.jg,r64.2.1.list,r64.2.1.jj,r64.2.1.js,r64.2.1.ju,r64.2.1.jp,r64.2.1.jl,r64.2.1.auth,r64.2.1.jk,r64.2.1.jv,r64.2.1.box,r64.2.1.proof,r64.2.1.jb,r64.2.1.iD,r64.2.1.count,()),()) else some (j62.2.2.1,j62.2.2.2.1,())).bind λj65=>some ((),⟨j65.2.1.1,j65.2.1.2.1,j65.2.1.2.2.1,j65.2.1.2.2.2.1,j65.2.1.2.2.2.2.1,j65.2.1.2.2.2.2.2.1,j65.2.1.2.2.2.2.2.2.1,j65.2.1.2.2.2.2.2.2.2.1,j65.2.1.2.2.2.2.2.2.2.2.1,j65.2.1.2.2.2.2.2.2.2.2.2.1,j65.2.1.2.2.2.2.2.2.2.2.2.2.1,j65.2.1.2.2.2.2.2.2.2.2.2.2.2.1,j65.2.1.2.2.2.2.2.2.2.2.2.2.2.2.1,j65.2.1.2.2.2.2.2.2.2.2.2.2.2.2.2.1,j65.2.1.2.2.2.2.2.2.2.2.2.2.2.2.2.2.1,j65.2.1.2.2.2.2.2.2.2.2.2.2.2.2.2.2.2.1,j65.2.1.2.2.2.2.2.2.2.2.2.2.2.2.2.2.2.2.1,j65.2.1.2.2.2.2.2.2.2.2.2.2.2.2.2.2.2.2.2.1,j65.2.1.2.2.2.2.2.2.2.2.2.2.2.2.2.2.2.2.2.2.1,j65.2.1.2.2.2.2.2.2.2.2.2.2.2.2.2.2.2.2.2.2.2.1,j65.2.1.2.2.2.2.2.2.2.2.2.2.2.2.2.2.2.2.2.2.2.2.1⟩,()) else none
def c171:=cf c170 18 [(.f qx),qc,qc] [qi] (u3 Zcr)
def s_Zcr_L1:LSpec T:=⟨[(1,qc),(2,qc),(3,qau),(6,qb),(7,qe),(13,qb),(14,qc)],[(.exit 1,[(1,qc),(2,qc),(6,qb),(7,qe),(13,qb)])],Zcr_L1,[]⟩
def A_Zcr:Loc2 T:=lcA [(1,s_Zcr_L1)] [(11,[(1,qc),(2,qc),(3,qau),(6,qb),(7,qe),(8,qd),(9,qd),(10,qae),(11,qae),(13,qb),(56,qc),(57,qr)],true),(18,[(1,qc),(2,qc),(3,qau),(6,qb),(7,qe),(8,qd),(9,qd),(10,qae),(11,qae),(13,qb),(56,qc),(114,qr)],true),(29,[(1,qc),(2,qc),(3,qau),(6,qb),(7,qe),(8,qd),(9,qd),(10,qae),(11,qae),(13,qb),(56,qc),(159,qr)],true),(45,[(1,qc),(2,qc),(6,qb),(7,qe),(13,qaa)],true),(47,[(1,qc),(2,qc),(6,qb),(13,qah)],true),(49,[(6,qb),(13,qah)],true)] [14,22]
theorem Vq5:LO c171 Tryz.f18 1 s_Zcr_L1:=lx o170 A_Zcr dn (λ_=>rfl)
theorem o171:EO c171:=sx o170 A_Zcr Tryz.func18 (dc rfl Vq5 dn)
def Zca (a0 a1:Int):Option (Unit×Jb×Unit):=
 let v1:=Qa .i64 ((Qc (Qb .i64) (Qg a0 (2 ^ min 12 (Qb .i64)))&&&Qc (Qb .i64) 255).toNat:Int);(Zfq v1 5).bind λr2=>let v3:=Qa .i64 ((Qc (Qb .i64) a0&&&Qc (Qb .i64) 1023).toNat:Int);let v4:=Qa .i64 ((Qc (Qb .i64) a1&&&Qc (Qb .i64) 1048575).toNat:Int);(Zcr r2.2.1 v3 v4).bind λr5=>let v6:=Qa .i64 ((Qc (Qb .i64) (Qg a0 (2 ^ min 20 (Qb .i64)))&&&Qc (Qb .i64) 3).toNat:Int);bif decide (v6=0) then let v7:=Qa .i64 ((Qc (Qb .i64) (Qg a1 (2 ^ min 3 (Qb .i64)))&&&Qc (Qb .i64) 1048575).toNat:Int);(Zep r5.2.1 v7).bind λr8=>some ((),r8.2.1,()) else some ((),r5.2.1,())
def c172:=cf c171 8 [qc,qc] [qi] (u2 Zca)
theorem o172:EO c172:=sz o171 Tryz.func8
abbrev Y_Zia_L0:=((BitVec 32)×(List (Bool))×Int×Int×Unit)
abbrev Z_Zia_L0:=((BitVec 32)×Unit)
def Zia_L0b (y0:BitVec 32) (y1:List Bool) (y2 y3:Int):Option (Y_Zia_L0⊕Z_Zia_L0):=
 bif decide (y3 < y2) then (getI y1 y3).bind λx1=>bif x1 then bif decide (0<=Qa .i64 (y3+1)) then let v2:=y0 ||| 1#32 <<< (Qa .i64 (y3+1)).toNat;some (Qe (v2,y1,y2,Qa .i64 (y3+1),())) else none else some (Qe (y0,y1,y2,Qa .i64 (y3+1),())) else some (Qd (y0,()))
def Zia_L0 (y:Y_Zia_L0):Option Z_Zia_L0:=
 iter (λ(y:Y_Zia_L0)=>Zia_L0b y.1 y.2.1 y.2.2.1 y.2.2.2.1) rounds y
def Zia (a0:List Bool):Option (Unit×BitVec 32×Unit):=
 (Zia_L0 (0#32,a0,(a0.length:Int),0,())).bind λz3=>some ((),z3.1,())
def c173:=ct c172 70 [(.f (.v (.rs 19)))] [(.v .u32)] (u1 Zia)
def s_Zia_L0:LSpec T:=⟨[(3,qax),(6,(.f (.v (.rs 19)))),(7,qc),(8,qc)],[(.exit 0,[(3,qax)])],Zia_L0,[]⟩
def A_Zia:Loc2 T:=lcA [(0,s_Zia_L0)] [] []
theorem Vq6:LO c173 Tryz.f70 0 s_Zia_L0:=lx o172 A_Zia dn (λ_=>rfl)
theorem o173:EO c173:=sx o172 A_Zia Tryz.func70 (dc rfl Vq6 dn)
def Zhx (a0:Jb):Option (Unit×BitVec 32×Unit):=
 bif a0.jk then let v1:List Bool:=[!(decide (a0.rP=([]:List UInt8))),!(decide (a0.user=([]:List UInt8))),!(decide (a0.name=([]:List UInt8))),!(decide (a0.jaa=0#64)),!(decide (a0.jd=0)),!(decide (a0.jg=0)),decide (0 < (a0.list.length:Int)),a0.jj,a0.js,a0.ju,a0.jp,!(decide (a0.jl=0)),true,!(decide (a0.jv=0#64)),decide (0 < (a0.box.length:Int)),decide (0 < (a0.proof.length:Int)),!(decide (a0.jb=0)),decide (0 < (a0.iD.length:Int)),!(decide (a0.count=0))];(Zia v1).bind λr2=>some ((),r2.2.1,()) else let v3:List Bool:=[!(decide (a0.rP=([]:List UInt8))),!(decide (a0.user=([]:List UInt8))),!(decide (a0.name=([]:List UInt8))),!(decide (a0.jaa=0#64)),!(decide (a0.jd=0)),!(decide (a0.jg=0)),decide (0 < (a0.list.length:Int)),a0.jj,a0.js,a0.ju,a0.jp,!(decide (a0.jl=0)),!(decide (a0.auth=0#64)),!(decide (a0.jv=0#64)),decide (0 < (a0.box.length:Int)),decide (0 < (a0.proof.length:Int)),!(decide (a0.jb=0)),decide (0 < (a0.iD.length:Int)),!(decide (a0.count=0))];(Zia v3).bind λr4=>some ((),r4.2.1,())
def c174:=ct c173 27 [qa3] [(.v .u32)] (u1 Zhx)
theorem o174:EO c174:=sz o173 Tryz.func27
abbrev Y_Zfp_L0:=((List (Int))×Int×Int×Unit)
abbrev Z_Zfp_L0:=((Bool×Unit)⊕(Unit))
def Zfp_L0b (y0:List Int) (y1 y2:Int):Option (Y_Zfp_L0⊕Z_Zfp_L0):=
 bif decide (y2 < y1) then (getI y0 y2).bind λx1=>bif decide (x1 < 0) then some (Qd (Qe (false,()))) else bif decide (255 < x1) then some (Qd (Qe (false,()))) else some (Qe (y0,y1,Qa .i64 (y2+1),())) else some (Qd (Qd ()))
def Zfp_L0 (y:Y_Zfp_L0):Option Z_Zfp_L0:=
 iter (λ(y:Y_Zfp_L0)=>Zfp_L0b y.1 y.2.1 y.2.2.1) rounds y
def Zfp (a0:List Int):Option (Unit×Bool×Unit):=
 (Zfp_L0 (a0,(a0.length:Int),0,())).bind (Qh (λz2=>some ((),z2.1,())) (λz3=>some ((),true,())))
def c175:=ct c174 39 [qbd] [qf] (u1 Zfp)
def s_Zfp_L0:LSpec T:=⟨[(5,qbd),(6,qc),(7,qc)],[(.ret,[(2,qr)]),(.exit 0,[])],Zfp_L0,[]⟩
def A_Zfp:Loc2 T:=lcA [(0,s_Zfp_L0)] [] []
theorem Vq7:LO c175 Tryz.f39 0 s_Zfp_L0:=lx o174 A_Zfp dn (λ_=>rfl)
theorem o175:EO c175:=sx o174 A_Zfp Tryz.func39 (dc rfl Vq7 dn)
abbrev Y_Zfo_L1:=((Jb×Unit)×(BitVec 32)×(List (List UInt8))×Int×Int×Unit)
abbrev Z_Zfo_L1:=((Int×Unit)⊕((Jb×Unit)×(BitVec 32)×Unit))
def Zfo_L1b (y0:Jb×Unit) (y1:BitVec 32) (y2:List (List UInt8)) (y3 y4:Int):Option (Y_Zfo_L1⊕Z_Zfo_L1):=
 bif decide (y4 < y3) then (getI y2 y4).bind λx46=>bif !(decide ((x46.length:Int)=176)) then some (Qd (Qe (4,()))) else some (Qe ((y0.1,()),y1,y2,y3,Qa .i64 (y4+1),())) else some (Qd (Qd ((y0.1,()),y1,())))
def Zfo_L1 (y:Y_Zfo_L1):Option Z_Zfo_L1:=
 iter (λ(y:Y_Zfo_L1)=>Zfo_L1b y.1 y.2.1 y.2.2.1 y.2.2.2.1 y.2.2.2.2.1) rounds y
def Zfo (a0:Jb):Option (Unit×Int×Unit):=
 bif decide (a0.kind < 1) then some ((),3,()) else bif decide (14 < a0.kind) then some ((),3,()) else bif decide (0<=a0.kind)&&decide (a0.kind < 15) then [0#32,0#32,15870#32,9874#32,0#32,0#32,0#32,49152#32,114688#32,212994#32,0#32,8192#32,270336#32,811008#32,57344#32][a0.kind.toNat]?.bind λx1=>((Zhx a0).bind λr2=>bif !(decide (r2.2.1&&&~~~x1=0#32)) then bif !(decide (r2.2.1&&&~~~x1=0#32)) then (some ((),(4:Int),())).bind λq=>some (Qd q) else let v3:List Int:=[a0.jd,a0.jg,a0.jl,a0.jb,a0.count];(Zfp v3).bind λr4=>bif !r4.2.1 then (some ((),(9:Int),())).bind λq=>some (Qd q) else bif decide (64 < (a0.rP.length:Int)) then bif decide (64 < (a0.rP.length:Int)) then (some ((),(8:Int),())).bind λq=>some (Qd q) else (Zgt a0.rP).bind λr5=>bif !r5.2.1 then bif !r5.2.1 then (some ((),(6:Int),())).bind λq=>some (Qd q) else some (Qe ((a0,()),x1,())) else (Zgt a0.name).bind λr6=>bif !r6.2.1 then (some ((),(6:Int),())).bind λq=>some (Qd q) else some (Qe ((a0,()),x1,())) else bif decide (16 < (a0.user.length:Int)) then bif decide (16 < (a0.user.length:Int)) then (some ((),(8:Int),())).bind λq=>some (Qd q) else (Zgt a0.rP).bind λr7=>bif !r7.2.1 then bif !r7.2.1 then (some ((),(6:Int),())).bind λq=>some (Qd q) else some (Qe ((a0,()),x1,())) else (Zgt a0.name).bind λr8=>bif !r8.2.1 then (some ((),(6:Int),())).bind λq=>some (Qd q) else some (Qe ((a0,()),x1,())) else bif decide (32 < (a0.name.length:Int)) then bif decide (32 < (a0.name.length:Int)) then (some ((),(8:Int),())).bind λq=>some (Qd q) else (Zgt a0.rP).bind λr9=>bif !r9.2.1 then bif !r9.2.1 then (some ((),(6:Int),())).bind λq=>some (Qd q) else some (Qe ((a0,()),x1,())) else (Zgt a0.name).bind λr10=>bif !r10.2.1 then (some ((),(6:Int),())).bind λq=>some (Qd q) else some (Qe ((a0,()),x1,())) else bif decide (8 < (a0.list.length:Int)) then bif decide (8 < (a0.list.length:Int)) then (some ((),(8:Int),())).bind λq=>some (Qd q) else (Zgt a0.rP).bind λr11=>bif !r11.2.1 then bif !r11.2.1 then (some ((),(6:Int),())).bind λq=>some (Qd q) else some (Qe ((a0,()),x1,())) else (Zgt a0.name).bind λr12=>bif !r12.2.1 then (some ((),(6:Int),())).bind λq=>some (Qd q) else some (Qe ((a0,()),x1,())) else bif decide (1024 < (a0.box.length:Int)) then bif decide (1024 < (a0.box.length:Int)) then (some ((),(8:Int),())).bind λq=>some (Qd q) else (Zgt a0.rP).bind λr13=>bif !r13.2.1 then bif !r13.2.1 then (some ((),(6:Int),())).bind λq=>some (Qd q) else some (Qe ((a0,()),x1,())) else (Zgt a0.name).bind λr14=>bif !r14.2.1 then (some ((),(6:Int),())).bind λq=>some (Qd q) else some (Qe ((a0,()),x1,())) else bif decide (1024 < (a0.proof.length:Int)) then (some ((),(8:Int),())).bind λq=>some (Qd q) else (Zgt a0.rP).bind λr15=>bif !r15.2.1 then bif !r15.2.1 then (some ((),(6:Int),())).bind λq=>some (Qd q) else some (Qe ((a0,()),x1,())) else (Zgt a0.name).bind λr16=>bif !r16.2.1 then (some ((),(6:Int),())).bind λq=>some (Qd q) else some (Qe ((a0,()),x1,())) else bif !(decide (a0.auth=0#64)) then bif !a0.jk then (some ((),(4:Int),())).bind λq=>some (Qd q) else let v17:List Int:=[a0.jd,a0.jg,a0.jl,a0.jb,a0.count];(Zfp v17).bind λr18=>bif !r18.2.1 then (some ((),(9:Int),())).bind λq=>some (Qd q) else bif decide (64 < (a0.rP.length:Int)) then bif decide (64 < (a0.rP.length:Int)) then (some ((),(8:Int),())).bind λq=>some (Qd q) else (Zgt a0.rP).bind λr19=>bif !r19.2.1 then bif !r19.2.1 then (some ((),(6:Int),())).bind λq=>some (Qd q) else some (Qe ((a0,()),x1,())) else (Zgt a0.name).bind λr20=>bif !r20.2.1 then (some ((),(6:Int),())).bind λq=>some (Qd q) else some (Qe ((a0,()),x1,())) else bif decide (16 < (a0.user.length:Int)) then bif decide (16 < (a0.user.length:Int)) then (some ((),(8:Int),())).bind λq=>some (Qd q) else (Zgt a0.rP).bind λr21=>bif !r21.2.1 then bif !r21.2.1 then (some ((),(6:Int),())).bind λq=>some (Qd q) else some (Qe ((a0,()),x1,())) else (Zgt a0.name).bind λr22=>bif !r22.2.1 then (some ((),(6:Int),())).bind λq=>some (Qd q) else some (Qe ((a0,()),x1,())) else bif decide (32 < (a0.name.length:Int)) then bif decide (32 < (a0.name.length:Int)) then (some ((),(8:Int),())).bind λq=>some (Qd q) else (Zgt a0.rP).bind λr23=>bif !r23.2.1 then bif !r23.2.1 then (some ((),(6:Int),())).bind λq=>some (Qd q) else some (Qe ((a0,()),x1,())) else (Zgt a0.name).bind λr24=>bif !r24.2.1 then (some ((),(6:Int),())).bind λq=>some (Qd q) else some (Qe ((a0,()),x1,())) else bif decide (8 < (a0.list.length:Int)) then bif decide (8 < (a0.list.length:Int)) then (some ((),(8:Int),())).bind λq=>some (Qd q) else (Zgt a0.rP).bind λr25=>bif !r25.2.1 then bif !r25.2.1 then (some ((),(6:Int),())).bind λq=>some (Qd q) else some (Qe ((a0,()),x1,())) else (Zgt a0.name).bind λr26=>bif !r26.2.1 then (some ((),(6:Int),())).bind λq=>some (Qd q) else some (Qe ((a0,()),x1,())) else bif decide (1024 < (a0.box.length:Int)) then bif decide (1024 < (a0.box.length:Int)) then (some ((),(8:Int),())).bind λq=>some (Qd q) else (Zgt a0.rP).bind λr27=>bif !r27.2.1 then bif !r27.2.1 then (some ((),(6:Int),())).bind λq=>some (Qd q) else some (Qe ((a0,()),x1,())) else (Zgt a0.name).bind λr28=>bif !r28.2.1 then (some ((),(6:Int),())).bind λq=>some (Qd q) else some (Qe ((a0,()),x1,())) else bif decide (1024 < (a0.proof.length:Int)) then (some ((),(8:Int),())).bind λq=>some (Qd q) else (Zgt a0.rP).bind λr29=>bif !r29.2.1 then bif !r29.2.1 then (some ((),(6:Int),())).bind λq=>some (Qd q) else some (Qe ((a0,()),x1,())) else (Zgt a0.name).bind λr30=>bif !r30.2.1 then (some ((),(6:Int),())).bind λq=>some (Qd q) else some (Qe ((a0,()),x1,())) else let v31:List Int:=[a0.jd,a0.jg,a0.jl,a0.jb,a0.count];(Zfp v31).bind λr32=>bif !r32.2.1 then (some ((),(9:Int),())).bind λq=>some (Qd q) else bif decide (64 < (a0.rP.length:Int)) then bif decide (64 < (a0.rP.length:Int)) then (some ((),(8:Int),())).bind λq=>some (Qd q) else (Zgt a0.rP).bind λr33=>bif !r33.2.1 then bif !r33.2.1 then (some ((),(6:Int),())).bind λq=>some (Qd q) else some (Qe ((a0,()),x1,())) else (Zgt a0.name).bind λr34=>bif !r34.2.1 then (some ((),(6:Int),())).bind λq=>some (Qd q) else some (Qe ((a0,()),x1,())) else bif decide (16 < (a0.user.length:Int)) then bif decide (16 < (a0.user.length:Int)) then (some ((),(8:Int),())).bind λq=>some (Qd q) else (Zgt a0.rP).bind λr35=>bif !r35.2.1 then bif !r35.2.1 then (some ((),(6:Int),())).bind λq=>some (Qd q) else some (Qe ((a0,()),x1,())) else (Zgt a0.name).bind λr36=>bif !r36.2.1 then (some ((),(6:Int),())).bind λq=>some (Qd q) else some (Qe ((a0,()),x1,())) else bif decide (32 < (a0.name.length:Int)) then bif decide (32 < (a0.name.length:Int)) then (some ((),(8:Int),())).bind λq=>some (Qd q) else (Zgt a0.rP).bind λr37=>bif !r37.2.1 then bif !r37.2.1 then (some ((),(6:Int),())).bind λq=>some (Qd q) else some (Qe ((a0,()),x1,())) else (Zgt a0.name).bind λr38=>bif !r38.2.1 then (some ((),(6:Int),())).bind λq=>some (Qd q) else some (Qe ((a0,()),x1,())) else bif decide (8 < (a0.list.length:Int)) then bif decide (8 < (a0.list.length:Int)) then (some ((),(8:Int),())).bind λq=>some (Qd q) else (Zgt a0.rP).bind λr39=>bif !r39.2.1 then bif !r39.2.1 then (some ((),(6:Int),())).bind λq=>some (Qd q) else some (Qe ((a0,()),x1,())) else (Zgt a0.name).bind λr40=>bif !r40.2.1 then (some ((),(6:Int),())).bind λq=>some (Qd q) else some (Qe ((a0,()),x1,())) else bif decide (1024 < (a0.box.length:Int)) then bif decide (1024 < (a0.box.length:Int)) then (some ((),(8:Int),())).bind λq=>some (Qd q) else (Zgt a0.rP).bind λr41=>bif !r41.2.1 then bif !r41.2.1 then (some ((),(6:Int),())).bind λq=>some (Qd q) else some (Qe ((a0,()),x1,())) else (Zgt a0.name).bind λr42=>bif !r42.2.1 then (some ((),(6:Int),())).bind λq=>some (Qd q) else some (Qe ((a0,()),x1,())) else bif decide (1024 < (a0.proof.length:Int)) then (some ((),(8:Int),())).bind λq=>some (Qd q) else (Zgt a0.rP).bind λr43=>bif !r43.2.1 then bif !r43.2.1 then (some ((),(6:Int),())).bind λq=>some (Qd q) else some (Qe ((a0,()),x1,())) else (Zgt a0.name).bind λr44=>bif !r44.2.1 then (some ((),(6:Int),())).bind λq=>some (Qd q) else some (Qe ((a0,()),x1,()))).bind (Qh (λj45=>(Zfo_L1 ((j45.1.1,()),j45.2.1,j45.1.1.list,(j45.1.1.list.length:Int),0,())).bind (Qh (λz47=>some ((),z47.1,())) (λz48=>bif !(decide (z48.2.1&&&262144#32=0#32)) then bif !(decide ((z48.1.1.iD.length:Int)=176)) then some ((),4,()) else some ((),0,()) else some ((),0,())))) some) else none
def c176:=ct c175 15 [qa3] [qa] (u1 Zfo)
def s_Zfo_L1:LSpec T:=⟨[(1,qaa),(3,qax),(81,qad),(82,qc),(83,qc)],[(.ret,[(2,qc)]),(.exit 1,[(1,qaa),(3,qax)])],Zfo_L1,[]⟩
def A_Zfo:Loc2 T:=lcA [(1,s_Zfo_L1)] [(19,[(1,qaa),(3,qax)],false)] []
theorem Vq8:LO c176 Tryz.f15 1 s_Zfo_L1:=lx o175 A_Zfo dn (λ_=>rfl)
theorem o176:EO c176:=sx o175 A_Zfo Tryz.func15 (dc rfl Vq8 dn)
def Zil (a0:List UInt8):Option (Unit×List Ja×Unit):=
 some ((),[⟨4,0#64,a0⟩],())
def c177:=cf c176 28 [qar] [qbf] (u1 Zil)
theorem o177:EO c177:=sz o176 Tryz.func28
def Zih (a0:List UInt8):Option (Unit×List Ja×Unit):=
 some ((),[⟨3,0#64,a0⟩],())
def c178:=cf c177 29 [qg] [qbf] (u1 Zih)
theorem o178:EO c178:=sz o177 Tryz.func29
def Zim (a0:BitVec 64):Option (Unit×List Ja×Unit):=
 let v1:List Ja:=[⟨1,a0,[]⟩];some ((),v1,())
def c179:=cf c178 30 [qd] [qbf] (u1 Zim)
theorem o179:EO c179:=sz o178 Tryz.func30
def Zhm (a0:Jy):Option (Unit×Bool×Unit):=
 bif decide (0 < a0.count) then some ((),decide ((a0.jaq.length:Int)=0),()) else some ((),false,())
def c180:=ct c179 75 [qa6] [qf] (u1 Zhm)
theorem o180:EO c180:=sz o179 Tryz.func75
def Zgx (a0:Jy):Option (Unit×Bool×Unit):=
 bif decide (0 < (a0.jaq.length:Int)) then (getI a0.jaq (Qa .i64 ((a0.jaq.length:Int) - 1))).bind λx1=>bif x1.jw then (getI a0.jaq (Qa .i64 ((a0.jaq.length:Int) - 1))).bind λx2=>some ((),decide (Qk x2.left 2=0),()) else some ((),false,()) else some ((),false,())
def c181:=ct c180 157 [qa6] [qf] (u1 Zgx)
theorem o181:EO c181:=sz o180 Tryz.func157
def Zgw (a0:Jy) (a1:Int):Option (Unit×Int×Unit):=
 bif decide (512<=a0.count) then some ((),8,()) else bif decide (a1 < 1) then some ((),3,()) else bif decide (8 < a1) then some ((),3,()) else (Zgx a0).bind λr1=>bif r1.2.1 then bif !(decide (a1=1)) then bif !(decide (a1=2)) then bif !(decide (a1=4)) then some ((),3,()) else bif decide (8 < (a0.jaq.length:Int)) then some ((),5,()) else some ((),0,()) else bif decide (8 < (a0.jaq.length:Int)) then some ((),5,()) else some ((),0,()) else bif decide (8 < (a0.jaq.length:Int)) then some ((),5,()) else some ((),0,()) else bif decide (8 < (a0.jaq.length:Int)) then some ((),5,()) else some ((),0,())
def c182:=ct c181 113 [qa6,qc] [qa] (u2 Zgw)
theorem o182:EO c182:=sz o181 Tryz.func113
def Zie (a0:Ja):Option (Unit×Bool×Unit):=
 bif decide (a0.kind=3) then bif decide (a0.kind=3) then some ((),decide (a0.number=0#64),()) else bif decide (a0.kind=8) then bif decide (a0.number=0#64) then some ((),decide (a0.data=([]:List UInt8)),()) else some ((),false,()) else bif decide (a0.kind=7) then bif decide (a0.number.toNat<=(1#64).toNat) then some ((),decide (a0.data=([]:List UInt8)),()) else some ((),false,()) else some ((),decide (a0.data=([]:List UInt8)),()) else bif decide (a0.kind=4) then some ((),decide (a0.number=0#64),()) else bif decide (a0.kind=8) then bif decide (a0.number=0#64) then some ((),decide (a0.data=([]:List UInt8)),()) else some ((),false,()) else bif decide (a0.kind=7) then bif decide (a0.number.toNat<=(1#64).toNat) then some ((),decide (a0.data=([]:List UInt8)),()) else some ((),false,()) else some ((),decide (a0.data=([]:List UInt8)),())
def c183:=ct c182 231 [(.f qz)] [qf] (u1 Zie)
theorem o183:EO c183:=sz o182 Tryz.func231
abbrev Y_Zgu_L1:=((List (UInt8))×(BitVec 64)×Int×Unit)
abbrev Z_Zgu_L1:=((List (UInt8))×Unit)
def Zgu_L1b (y0:List UInt8) (y1:BitVec 64) (y2:Int):Option (Y_Zgu_L1⊕Z_Zgu_L1):=
 bif decide (0<=y2) then bif decide (0<=Qa .i64 (8*y2)) then let v7:=Qf (Qi 8 (y1>>>(Qa .i64 (8*y2)).toNat));bif small (y0.length+([v7]).length) 1 then some (Qe (y0++[v7],y1,Qa .i64 (y2 - 1),())) else none else none else some (Qd (y0,()))
def Zgu_L1 (y:Y_Zgu_L1):Option Z_Zgu_L1:=
 iter (λ(y:Y_Zgu_L1)=>Zgu_L1b y.1 y.2.1 y.2.2.1) rounds y
def Zgu (a0:List UInt8) (a1:UInt8) (a2:BitVec 64):Option (Unit×List UInt8×Unit):=
 (bif decide (a2.toNat < (24#64).toNat) then let v1:=Qf ((Qf (a1.toBitVec <<< 5)).toBitVec+(Qf (Qi 8 a2)).toBitVec);bif small (a0.length+([v1]).length) 1 then (some ((),a0++[v1],())).bind λq=>some (Qd q) else none else bif decide (a2.toNat < (256#64).toNat) then let v2:=Qf ((Qf (a1.toBitVec <<< 5)).toBitVec+(24:UInt8).toBitVec);some (Qe (a0,a2,v2,(1:Int),())) else bif decide (a2.toNat < (65536#64).toNat) then let v3:=Qf ((Qf (a1.toBitVec <<< 5)).toBitVec+(25:UInt8).toBitVec);some (Qe (a0,a2,v3,(2:Int),())) else bif decide (a2.toNat < (4294967296#64).toNat) then let v4:=Qf ((Qf (a1.toBitVec <<< 5)).toBitVec+(26:UInt8).toBitVec);some (Qe (a0,a2,v4,(4:Int),())) else let v5:=Qf ((Qf (a1.toBitVec <<< 5)).toBitVec+(27:UInt8).toBitVec);some (Qe (a0,a2,v5,(8:Int),()))).bind (Qh (λj6=>bif small (j6.1.length+([j6.2.2.1]).length) 1 then (Zgu_L1 (j6.1++[j6.2.2.1],j6.2.1,Qa .i64 (j6.2.2.2.1 - 1),())).bind λz8=>some ((),z8.1,()) else none) some)
def c184:=cf c183 155 [qae,qa0,qd] [qj] (u3 Zgu)
def s_Zgu_L1:LSpec T:=⟨[(0,qae),(2,qd),(9,qc)],[(.exit 1,[(0,qae)])],Zgu_L1,[]⟩
def A_Zgu:Loc2 T:=lcA [(1,s_Zgu_L1)] [(12,[(0,qae),(2,qd),(7,qa0),(8,qc)],false)] []
theorem Vq9:LO c184 Tryz.f155 1 s_Zgu_L1:=lx o183 A_Zgu dn (λ_=>rfl)
theorem o184:EO c184:=sx o183 A_Zgu Tryz.func155 (dc rfl Vq9 dn)
def Zgv (a0:List UInt8) (a1:Ja):Option (Unit×List UInt8×Unit):=
 bif decide (a1.kind=7) then let v1:=Qf ((244:UInt8).toBitVec+(Qf (Qi 8 a1.number)).toBitVec);bif small (a0.length+([v1]).length) 1 then some ((),a0++[v1],()) else none else bif decide (a1.kind=8) then bif small (a0.length+([246]:List UInt8).length) 1 then some ((),a0++[246],()) else none else bif decide (a1.kind=3) then bif decide (a1.kind=3) then let v2:=Qf (Qc 8 (Qa .i64 (a1.kind - 1)));(Zgu a0 v2 (Qc 64 (a1.data.length:Int))).bind λr3=>bif small (r3.2.1.length+(a1.data:List UInt8).length) 1 then some ((),r3.2.1++a1.data,()) else none else let v4:=Qf (Qc 8 (Qa .i64 (a1.kind - 1)));(Zgu a0 v4 a1.number).bind λr5=>some ((),r5.2.1,()) else bif decide (a1.kind=4) then let v6:=Qf (Qc 8 (Qa .i64 (a1.kind - 1)));(Zgu a0 v6 (Qc 64 (a1.data.length:Int))).bind λr7=>bif small (r7.2.1.length+(a1.data:List UInt8).length) 1 then some ((),r7.2.1++a1.data,()) else none else let v8:=Qf (Qc 8 (Qa .i64 (a1.kind - 1)));(Zgu a0 v8 a1.number).bind λr9=>some ((),r9.2.1,())
def c185:=cf c184 110 [qae,(.f qz)] [qj] (u2 Zgv)
theorem o185:EO c185:=sz o184 Tryz.func110
def c186:List (Ct T):=⟨232,none,S_Zhs,true⟩::c185
theorem o186:EnvOk Tryz.prog (mE c186):=eCons Vdha o185
def Zhz (a0 a1:List UInt8):Option (Unit×Bool×Unit):=
 bif !(decide ((a0.length:Int)=(a1.length:Int))) then some ((),decide ((a0.length:Int) < (a1.length:Int)),()) else (Zhs a0 a1).bind λr1=>some ((),decide (r1.2.1 < 0),())
def c187:=ct c186 158 [qg,qg] [qf] (u2 Zhz)
theorem o187:EO c187:=sz o186 Tryz.func158
abbrev Y_Zhn_L0:=(((List (Je))×Int×Unit)×Int×Unit)
abbrev Z_Zhn_L0:=(((List (Je))×Int×Unit)×Unit)
def Zhn_L0b (y0:List Je×Int×Unit) (y1:Int):Option (Y_Zhn_L0⊕Z_Zhn_L0):=
 bif decide (0 < y1) then bif decide (0<=Qa .i64 (y1 - 1))&&decide (Qa .i64 (y1 - 1) < y0.1.length) then y0.1[(Qa .i64 (y1 - 1)).toNat]?.bind λx10=>bif decide (x10.left=0) then bif decide (0<=Qa .i64 (y1 - 1))&&decide (Qa .i64 (y1 - 1)<=y0.1.length) then bif decide ((Qa .i64 (y1 - 1)).toNat<=y0.1.length) then some (Qe ((List.take (Qa .i64 (y1 - 1)).toNat y0.1,y0.2.1,()),Qa .i64 (y1 - 1),())) else none else none else some (Qd ((y0.1,y0.2.1,()),())) else none else some (Qd ((y0.1,y0.2.1,()),()))
def Zhn_L0 (y:Y_Zhn_L0):Option Z_Zhn_L0:=
 iter (λ(y:Y_Zhn_L0)=>Zhn_L0b y.1 y.2.1) rounds y
def Zhn (a0:List Je×Int×Unit) (a1:Ja):Option (((List Je×Int×Unit)×Unit)×Unit):=
 (bif decide (0 < (a0.1.length:Int)) then bif decide (0<=Qa .i64 ((a0.1.length:Int) - 1))&&decide (Qa .i64 ((a0.1.length:Int) - 1) < a0.1.length) then a0.1[(Qa .i64 ((a0.1.length:Int) - 1)).toNat]?.bind λx1=>bif decide (0<=Qa .i64 ((a0.1.length:Int) - 1))&&decide (Qa .i64 ((a0.1.length:Int) - 1) < a0.1.length) then a0.1[(Qa .i64 ((a0.1.length:Int) - 1)).toNat]?.bind λx2=>let v3:=Qj a0.1 (Qa .i64 ((a0.1.length:Int) - 1)).toNat ({x2 with left:=Qa .i64 (x1.left - 1)}:Je);some ((v3,Qa .i64 (a0.2.1+1),()),(a1,()),()) else none else none else some ((a0.1,Qa .i64 (a0.2.1+1),()),(a1,()),())).bind λj4=>(bif decide (j4.2.1.1.kind=5) then bif decide ((0#64).toNat < j4.2.1.1.number.toNat) then let v5:List Je:=[{left:=Qa .i64 (j4.2.1.1.number.toNat:Int)}];bif small (j4.1.1.length+(v5:List Je).length) 40 then some ((j4.1.1++v5,j4.1.2.1,()),(j4.2.1.1,()),()) else none else some ((j4.1.1,j4.1.2.1,()),(j4.2.1.1,()),()) else some ((j4.1.1,j4.1.2.1,()),(j4.2.1.1,()),())).bind λj6=>(bif decide (j6.2.1.1.kind=6) then bif decide ((0#64).toNat < j6.2.1.1.number.toNat) then let v7:=Qa .i64 (2*Qa .i64 (j6.2.1.1.number.toNat:Int));bif small (j6.1.1.length+([⟨true,v7,[]⟩]:List Je).length) 40 then let v8:=j6.1.1++[⟨true,v7,[]⟩];some ((v8,j6.1.2.1,()),()) else none else some ((j6.1.1,j6.1.2.1,()),()) else some ((j6.1.1,j6.1.2.1,()),())).bind λj9=>(Zhn_L0 ((j9.1.1,j9.1.2.1,()),(j9.1.1.length:Int),())).bind λz11=>some (((z11.1.1,z11.1.2.1,()),()),())
def c188:=cf c187 159 [qab,(.f qz)] [] (u2 Zhn)
def s_Zhn_L0:LSpec T:=⟨[(0,qab),(5,qc)],[(.exit 0,[(0,qab)])],Zhn_L0,[]⟩
def A_Zhn:Loc2 T:=lcA [(0,s_Zhn_L0)] [(5,[(0,qab),(3,qa5)],true),(7,[(0,qab),(3,qa5)],true),(9,[(0,qab)],true)] [6,8]
theorem Vra:LO c188 Tryz.f159 0 s_Zhn_L0:=lx o187 A_Zhn dn (λ_=>rfl)
theorem o188:EO c188:=sx o187 A_Zhn Tryz.func159 (dc rfl Vra dn)
def Zfm (a0:List Je×Int×Unit) (a1:Ja):Option (((List Je×Int×Unit)×Unit)×Int×Unit):=
 bif decide (a1.kind=4) then (Zgt a1.data).bind λr1=>bif !r1.2.1 then some (((a0.1,a0.2.1,()),()),6,()) else (Zgx ⟨a0.1,a0.2.1⟩).bind λr2=>bif r2.2.1 then bif decide (0<=Qa .i64 ((a0.1.length:Int) - 1))&&decide (Qa .i64 ((a0.1.length:Int) - 1) < a0.1.length) then (Zgv [] a1).bind λr3=>a0.1[(Qa .i64 ((a0.1.length:Int) - 1)).toNat]?.bind λx4=>bif !x4.jal.isEmpty then a0.1[(Qa .i64 ((a0.1.length:Int) - 1)).toNat]?.bind λx5=>(Zhz x5.jal r3.2.1).bind λr6=>bif !r6.2.1 then some (((a0.1,a0.2.1,()),()),7,()) else a0.1[(Qa .i64 ((a0.1.length:Int) - 1)).toNat]?.bind λx7=>bif r3.2.1.isEmpty then none else let v8:=Qj a0.1 (Qa .i64 ((a0.1.length:Int) - 1)).toNat ({x7 with jal:=r3.2.1}:Je);(Zhn (v8,a0.2.1,()) a1).bind λr9=>some (((r9.1.1.1,r9.1.1.2.1,()),()),0,()) else a0.1[(Qa .i64 ((a0.1.length:Int) - 1)).toNat]?.bind λx10=>bif r3.2.1.isEmpty then none else let v11:=Qj a0.1 (Qa .i64 ((a0.1.length:Int) - 1)).toNat ({x10 with jal:=r3.2.1}:Je);(Zhn (v11,a0.2.1,()) a1).bind λr12=>some (((r12.1.1.1,r12.1.1.2.1,()),()),0,()) else none else (Zhn (a0.1,a0.2.1,()) a1).bind λr13=>some (((r13.1.1.1,r13.1.1.2.1,()),()),0,()) else (Zgx ⟨a0.1,a0.2.1⟩).bind λr14=>bif r14.2.1 then bif decide (0<=Qa .i64 ((a0.1.length:Int) - 1))&&decide (Qa .i64 ((a0.1.length:Int) - 1) < a0.1.length) then (Zgv [] a1).bind λr15=>a0.1[(Qa .i64 ((a0.1.length:Int) - 1)).toNat]?.bind λx16=>bif !x16.jal.isEmpty then a0.1[(Qa .i64 ((a0.1.length:Int) - 1)).toNat]?.bind λx17=>(Zhz x17.jal r15.2.1).bind λr18=>bif !r18.2.1 then some (((a0.1,a0.2.1,()),()),7,()) else a0.1[(Qa .i64 ((a0.1.length:Int) - 1)).toNat]?.bind λx19=>bif r15.2.1.isEmpty then none else let v20:=Qj a0.1 (Qa .i64 ((a0.1.length:Int) - 1)).toNat ({x19 with jal:=r15.2.1}:Je);(Zhn (v20,a0.2.1,()) a1).bind λr21=>some (((r21.1.1.1,r21.1.1.2.1,()),()),0,()) else a0.1[(Qa .i64 ((a0.1.length:Int) - 1)).toNat]?.bind λx22=>bif r15.2.1.isEmpty then none else let v23:=Qj a0.1 (Qa .i64 ((a0.1.length:Int) - 1)).toNat ({x22 with jal:=r15.2.1}:Je);(Zhn (v23,a0.2.1,()) a1).bind λr24=>some (((r24.1.1.1,r24.1.1.2.1,()),()),0,()) else none else (Zhn (a0.1,a0.2.1,()) a1).bind λr25=>some (((r25.1.1.1,r25.1.1.2.1,()),()),0,())
def c189:=cf c188 114 [qab,(.f qz)] [qa] (u2 Zfm)
theorem o189:EO c189:=sz o188 Tryz.func114
def Zen (a0:List Je×Int×Unit) (a1:Ja):Option (((List Je×Int×Unit)×Unit)×Int×Unit):=
 (Zhm ⟨a0.1,a0.2.1⟩).bind λr1=>bif r1.2.1 then some (((a0.1,a0.2.1,()),()),2,()) else (Zgw ⟨a0.1,a0.2.1⟩ a1.kind).bind λr2=>bif !(decide (r2.2.1=0)) then some (((a0.1,a0.2.1,()),()),r2.2.1,()) else (Zie a1).bind λr3=>bif !r3.2.1 then some (((a0.1,a0.2.1,()),()),4,()) else bif decide (1024 < (a1.data.length:Int)) then some (((a0.1,a0.2.1,()),()),8,()) else bif decide (a1.kind=5) then bif decide ((512#64).toNat < a1.number.toNat) then some (((a0.1,a0.2.1,()),()),8,()) else (Zfm (a0.1,a0.2.1,()) a1).bind λr4=>some (((r4.1.1.1,r4.1.1.2.1,()),()),r4.2.1,()) else bif decide (a1.kind=6) then bif decide ((512#64).toNat < a1.number.toNat) then some (((a0.1,a0.2.1,()),()),8,()) else (Zfm (a0.1,a0.2.1,()) a1).bind λr5=>some (((r5.1.1.1,r5.1.1.2.1,()),()),r5.2.1,()) else (Zfm (a0.1,a0.2.1,()) a1).bind λr6=>some (((r6.1.1.1,r6.1.1.2.1,()),()),r6.2.1,())
def c190:=cf c189 154 [qab,(.f qz)] [qa] (u2 Zen)
theorem o190:EO c190:=sz o189 Tryz.func154
abbrev Y_Zht_L0:=(((List (Je))×Int×Unit)×(List (Ja))×Int×Int×Unit)
abbrev Z_Zht_L0:=((Int×Unit)⊕(((List (Je))×Int×Unit)×Unit))
def Zht_L0b (y0:List Je×Int×Unit) (y1:List Ja) (y2 y3:Int):Option (Y_Zht_L0⊕Z_Zht_L0):=
 bif decide (y3 < y2) then (getI y1 y3).bind λx1=>(Zen (y0.1,y0.2.1,()) x1).bind λr2=>bif !(decide (r2.2.1=0)) then some (Qd (Qe (r2.2.1,()))) else some (Qe ((r2.1.1.1,r2.1.1.2.1,()),y1,y2,Qa .i64 (y3+1),())) else some (Qd (Qd ((y0.1,y0.2.1,()),())))
def Zht_L0 (y:Y_Zht_L0):Option Z_Zht_L0:=
 iter (λ(y:Y_Zht_L0)=>Zht_L0b y.1 y.2.1 y.2.2.1 y.2.2.2.1) rounds y
def Zht (a0:List Ja):Option (Unit×Int×Unit):=
 (Zht_L0 (([],0,()),a0,(a0.length:Int),0,())).bind (Qh (λz3=>some ((),z3.1,())) (λz4=>(Zhm ⟨z4.1.1,z4.1.2.1⟩).bind λr5=>bif !r5.2.1 then some ((),1,()) else some ((),0,())))
def c191:=ct c190 109 [qa7] [qa] (u1 Zht)
def s_Zht_L0:LSpec T:=⟨[(3,qab),(7,qa7),(8,qc),(9,qc)],[(.ret,[(2,qc)]),(.exit 0,[(3,qab)])],Zht_L0,[]⟩
def A_Zht:Loc2 T:=lcA [(0,s_Zht_L0)] [] []
theorem Vrb:LO c191 Tryz.f109 0 s_Zht_L0:=lx o190 A_Zht dn (λ_=>rfl)
theorem o191:EO c191:=sx o190 A_Zht Tryz.func109 (dc rfl Vrb dn)
abbrev Y_Zid_L0:=((List (List Ja))×Int×Int×Unit)
abbrev Z_Zid_L0:=((Int×Unit)⊕(Unit))
def Zid_L0b (y0:List (List Ja)) (y1 y2:Int):Option (Y_Zid_L0⊕Z_Zid_L0):=
 bif decide (y2 < y1) then (getI y0 y2).bind λx1=>(Zht x1).bind λr2=>bif !(decide (r2.2.1=0)) then some (Qd (Qe (r2.2.1,()))) else some (Qe (y0,y1,Qa .i64 (y2+1),())) else some (Qd (Qd ()))
def Zid_L0 (y:Y_Zid_L0):Option Z_Zid_L0:=
 iter (λ(y:Y_Zid_L0)=>Zid_L0b y.1 y.2.1 y.2.2.1) rounds y
def Zid (a0:List (List Ja)):Option (Unit×Int×Unit):=
 (Zid_L0 (a0,(a0.length:Int),0,())).bind (Qh (λz3=>some ((),z3.1,())) (λz4=>some ((),0,())))
def c192:=ct c191 107 [qy] [qa] (u1 Zid)
def s_Zid_L0:LSpec T:=⟨[(6,qy),(7,qc),(8,qc)],[(.ret,[(2,qc)]),(.exit 0,[])],Zid_L0,[]⟩
def A_Zid:Loc2 T:=lcA [(0,s_Zid_L0)] [] []
theorem Vrc:LO c192 Tryz.f107 0 s_Zid_L0:=lx o191 A_Zid dn (λ_=>rfl)
theorem o192:EO c192:=sx o191 A_Zid Tryz.func107 (dc rfl Vrc dn)
def Zhy (a0:List Ja):Option (Unit×List Ja×Int×Unit):=
 (Zht a0).bind λr1=>bif !(decide (r1.2.1=0)) then some ((),[],r1.2.1,()) else some ((),a0,0,())
def c193:=cf c192 108 [qa7] [qai,qa] (u1 Zhy)
theorem o193:EO c193:=sz o192 Tryz.func108
abbrev Y_Zig_L0:=((List (Ja))×(List (List Ja))×Int×Int×Unit)
abbrev Z_Zig_L0:=((List (Ja))×Unit)
def Zig_L0b (y0:List Ja) (y1:List (List Ja)) (y2 y3:Int):Option (Y_Zig_L0⊕Z_Zig_L0):=
 bif decide (y3 < y2) then (getI y1 y3).bind λx3=>bif decide (512 < (y0.length:Int)) then some (Qd (y0,())) else bif small (y0.length+(x3:List Ja).length) 32 then some (Qe (y0++x3,y1,y2,Qa .i64 (y3+1),())) else none else some (Qd (y0,()))
def Zig_L0 (y:Y_Zig_L0):Option Z_Zig_L0:=
 iter (λ(y:Y_Zig_L0)=>Zig_L0b y.1 y.2.1 y.2.2.1 y.2.2.2.1) rounds y
def Zig (a0:List (List Ja)):Option (Unit×List Ja×Int×Unit):=
 (Zid a0).bind λr1=>bif !(decide (r1.2.1=0)) then some ((),[],r1.2.1,()) else let v2:List Ja:=[⟨5,Qc 64 (a0.length:Int),[]⟩];(Zig_L0 (v2,a0,(a0.length:Int),0,())).bind λz4=>(Zhy z4.1).bind λr5=>some ((),r5.2.1,r5.2.2.1,())
def c194:=cf c193 111 [qy] [qai,qa] (u1 Zig)
def s_Zig_L0:LSpec T:=⟨[(5,qal),(18,qy),(19,qc),(20,qc)],[(.exit 0,[(5,qal)])],Zig_L0,[]⟩
def A_Zig:Loc2 T:=lcA [(0,s_Zig_L0)] [] []
theorem Vrd:LO c194 Tryz.f111 0 s_Zig_L0:=lx o193 A_Zig dn (λ_=>rfl)
theorem o194:EO c194:=sx o193 A_Zig Tryz.func111 (dc rfl Vrd dn)
def Zhw (a0:List (List Ja)):Option (Unit×List Ja×Unit):=
 (Zig a0).bind λr1=>bif !(decide (r1.2.2.1=0)) then some ((),[],()) else some ((),r1.2.1,())
def c195:=cf c194 71 [qy] [qai] (u1 Zhw)
theorem o195:EO c195:=sz o194 Tryz.func71
abbrev Y_Zgz_L0:=((List (List Ja))×(List (List UInt8))×Int×Int×Unit)
abbrev Z_Zgz_L0:=((List (List Ja))×Unit)
def Zgz_L0b (y0:List (List Ja)) (y1:List (List UInt8)) (y2 y3:Int):Option (Y_Zgz_L0⊕Z_Zgz_L0):=
 bif decide (y3 < y2) then (getI y1 y3).bind λx1=>(Zih x1).bind λr2=>bif small (y0.length+([r2.2.1]).length) 24 then some (Qe (y0++[r2.2.1],y1,y2,Qa .i64 (y3+1),())) else none else some (Qd (y0,()))
def Zgz_L0 (y:Y_Zgz_L0):Option Z_Zgz_L0:=
 iter (λ(y:Y_Zgz_L0)=>Zgz_L0b y.1 y.2.1 y.2.2.1 y.2.2.2.1) rounds y
def Zgz (a0:List (List UInt8)):Option (Unit×List Ja×Unit):=
 (Zgz_L0 ([],a0,(a0.length:Int),0,())).bind λz3=>(Zhw z3.1).bind λr4=>some ((),r4.2.1,())
def c196:=cf c195 31 [qad] [qai] (u1 Zgz)
def s_Zgz_L0:LSpec T:=⟨[(3,qbg),(6,qad),(7,qc),(8,qc)],[(.exit 0,[(3,qbg)])],Zgz_L0,[]⟩
def A_Zgz:Loc2 T:=lcA [(0,s_Zgz_L0)] [] []
theorem Vre:LO c196 Tryz.f31 0 s_Zgz_L0:=lx o195 A_Zgz dn (λ_=>rfl)
theorem o196:EO c196:=sx o195 A_Zgz Tryz.func31 (dc rfl Vre dn)
def Zik (a0:Bool):Option (Unit×List Ja×Unit):=
 bif a0 then let v1:List Ja:=[⟨7,1#64,[]⟩];some ((),v1,()) else let v2:List Ja:=[{kind:=7}];some ((),v2,())
def c197:=cf c196 32 [qr] [qbf] (u1 Zik)
theorem o197:EO c197:=sz o196 Tryz.func32
def Zgy (a0:BitVec 64):Option (Unit×Int×Unit):=
 (bif decide ((4294967296#64).toNat<=a0.toNat) then some (a0>>>32,(32:Int),()) else some (a0,(0:Int),())).bind λj1=>(bif decide ((65536#64).toNat<=j1.1.toNat) then some (j1.1>>>16,Qa .i64 (j1.2.1+16),()) else some (j1.1,j1.2.1,())).bind λj2=>bif decide ((256#64).toNat<=j2.1.toNat) then ([0,1,2,2,3,3,3,3,4,4,4,4,4,4,4,4,5,5,5,5,5,5,5,5,5,5,5,5,5,5,5,5,6,6,6,6,6,6,6,6,6,6,6,6,6,6,6,6,6,6,6,6,6,6,6,6,6,6,6,6,6,6,6,6,7,7,7,7,7,7,7,7,7,7,7,7,7,7,7,7,7,7,7,7,7,7,7,7,7,7,7,7,7,7,7,7,7,7,7,7,7,7,7,7,7,7,7,7,7,7,7,7,7,7,7,7,7,7,7,7,7,7,7,7,7,7,7,7,8,8,8,8,8,8,8,8,8,8,8,8,8,8,8,8,8,8,8,8,8,8,8,8,8,8,8,8,8,8,8,8,8,8,8,8,8,8,8,8,8,8,8,8,8,8,8,8,8,8,8,8,8,8,8,8,8,8,8,8,8,8,8,8,8,8,8,8,8,8,8,8,8,8,8,8,8,8,8,8,8,8,8,8,8,8,8,8,8,8,8,8,8,8,8,8,8,8,8,8,8,8,8,8,8,8,8,8,8,8,8,8,8,8,8,8,8,8,8,8,8,8,8,8,8,8,8,8]:List UInt8)[(Qf (Qi 8 (j2.1>>>8))).toNat]?.bind λx3=>let v4:=Qa .i64 (Qa .i64 (j2.2.1+8)+(x3.toBitVec.toNat:Int));some ((),v4,()) else ([0,1,2,2,3,3,3,3,4,4,4,4,4,4,4,4,5,5,5,5,5,5,5,5,5,5,5,5,5,5,5,5,6,6,6,6,6,6,6,6,6,6,6,6,6,6,6,6,6,6,6,6,6,6,6,6,6,6,6,6,6,6,6,6,7,7,7,7,7,7,7,7,7,7,7,7,7,7,7,7,7,7,7,7,7,7,7,7,7,7,7,7,7,7,7,7,7,7,7,7,7,7,7,7,7,7,7,7,7,7,7,7,7,7,7,7,7,7,7,7,7,7,7,7,7,7,7,7,8,8,8,8,8,8,8,8,8,8,8,8,8,8,8,8,8,8,8,8,8,8,8,8,8,8,8,8,8,8,8,8,8,8,8,8,8,8,8,8,8,8,8,8,8,8,8,8,8,8,8,8,8,8,8,8,8,8,8,8,8,8,8,8,8,8,8,8,8,8,8,8,8,8,8,8,8,8,8,8,8,8,8,8,8,8,8,8,8,8,8,8,8,8,8,8,8,8,8,8,8,8,8,8,8,8,8,8,8,8,8,8,8,8,8,8,8,8,8,8,8,8,8,8,8,8,8,8]:List UInt8)[(Qf (Qi 8 j2.1)).toNat]?.bind λx5=>some ((),Qa .i64 (j2.2.1+(x5.toBitVec.toNat:Int)),())
def c198:=ct c197 230 [qd] [qa] (u1 Zgy)
theorem o198:EO c198:=sx o197 (lcA [] [(4,[(0,qd),(2,qc)],true),(7,[(0,qd),(2,qc)],true)] []) Tryz.func230 dn
def Zhv (a0:BitVec 64):Option (Unit×Int×Unit):=
 (Zgy a0).bind λr1=>some ((),r1.2.1,())
def c199:=ct c198 152 [qd] [qa] (u1 Zhv)
theorem o199:EO c199:=sz o198 Tryz.func152
def Zfn (a0:BitVec 64):Option (Unit×Bool×Unit):=
 some ((),!(decide (a0=a0)),())
def c200:=ct c199 153 [qd] [qf] (u1 Zfn)
theorem o200:EO c200:=sz o199 Tryz.func153
def Zdi (a0 a1:BitVec 64):Option (Unit×Int×Unit):=
 (Zfn a0).bind λr1=>(Zfn a1).bind λr2=>bif r1.2.1 then bif r2.2.1 then some ((),0,()) else some ((),-1,()) else bif r2.2.1 then some ((),1,()) else bif decide (a0.toNat < a1.toNat) then some ((),-1,()) else bif decide (a1.toNat < a0.toNat) then some ((),1,()) else some ((),0,())
def c201:=ct c200 106 [qd,qd] [qa] (u2 Zdi)
theorem o201:EO c201:=sz o200 Tryz.func106
def Zii (a0 a1:Int) (a2:List (BitVec 64)):Option (Unit×Int×Unit):=
 (getI a2 a0).bind λx1=>(getI a2 a1).bind λx2=>(Zdi x1 x2).bind λr3=>some ((),r3.2.1,())
def c202:=ct c201 105 [qc,qc,qan] [qa] (u3 Zii)
theorem o202:EO c202:=sz o201 Tryz.func105
abbrev Y_Zab_L2:=((List (Int))×Int×Int×((List (BitVec 64))×Unit)×Int×Int×Unit)
abbrev Z_Zab_L2:=((List (Int))×Int×Int×((List (BitVec 64))×Unit)×Int×Unit)
def Zab_L2b (y0:List Int) (y1 y2:Int) (y3:List (BitVec 64)×Unit) (y4 y5:Int):Option (Y_Zab_L2⊕Z_Zab_L2):=
 bif decide (y1 < y5) then bif decide (0<=y5)&&decide (y5 < y0.length) then y0[y5.toNat]?.bind λx1=>bif decide (0<=Qa .i64 (y5 - 1))&&decide (Qa .i64 (y5 - 1) < y0.length) then y0[(Qa .i64 (y5 - 1)).toNat]?.bind λx2=>(Zii x1 x2 y3.1).bind λr3=>bif decide (r3.2.1 < 0) then bif decide (0<=Qa .i64 (y5 - 1))&&decide (Qa .i64 (y5 - 1) < y0.length) then y0[(Qa .i64 (y5 - 1)).toNat]?.bind λx4=>bif decide (0<=y5)&&decide (y5 < y0.length) then y0[y5.toNat]?.bind λx5=>bif decide (0<=y5)&&decide (y5 < y0.length) then y0[y5.toNat]?.bind λx6=>bif decide (0<=Qa .i64 (y5 - 1))&&decide (Qa .i64 (y5 - 1) < y0.length) then (Qj y0 y5.toNat x4)[(Qa .i64 (y5 - 1)).toNat]?.bind λx7=>let v8:=Qj (Qj y0 y5.toNat x4) (Qa .i64 (y5 - 1)).toNat x5;some (Qe (v8,y1,y2,(y3.1,()),y4,Qa .i64 (y5 - 1),())) else none else none else none else none else some (Qd (y0,y1,y2,(y3.1,()),y4,())) else none else none else some (Qd (y0,y1,y2,(y3.1,()),y4,()))
def Zab_L2 (y:Y_Zab_L2):Option Z_Zab_L2:=
 iter (λ(y:Y_Zab_L2)=>Zab_L2b y.1 y.2.1 y.2.2.1 y.2.2.2.1 y.2.2.2.2.1 y.2.2.2.2.2.1) rounds y
abbrev Y_Zab_L0:=((List (Int))×Int×Int×((List (BitVec 64))×Unit)×Int×Unit)
abbrev Z_Zab_L0:=((List (Int))×Unit)
def Zab_L0b (y0:List Int) (y1 y2:Int) (y3:List (BitVec 64)×Unit) (y4:Int):Option (Y_Zab_L0⊕Z_Zab_L0):=
 bif decide (y4 < y2) then (Zab_L2 (y0,y1,y2,(y3.1,()),y4,y4,())).bind λz1=>some (Qe (z1.1,z1.2.1,z1.2.2.1,(z1.2.2.2.1.1,()),Qa .i64 (z1.2.2.2.2.1+1),())) else some (Qd (y0,()))
def Zab_L0 (y:Y_Zab_L0):Option Z_Zab_L0:=
 iter (λ(y:Y_Zab_L0)=>Zab_L0b y.1 y.2.1 y.2.2.1 y.2.2.2.1 y.2.2.2.2.1) rounds y
def Zab (a0:List Int) (a1 a2:Int) (a3:List (BitVec 64)×Unit):Option ((List Int×Unit)×Unit):=
 (Zab_L0 (a0,a1,a2,(a3.1,()),Qa .i64 (a1+1),())).bind λz2=>some ((z2.1,()),())
def c203:List (Ct T):=⟨221,(some (3,105)),⟨[(.inp 2),qc,qc,.f qu],[],(u4 Zab)⟩,false⟩::c202
def s_Zab_L2:LSpec T:=⟨[(0,qam),(1,qc),(2,qc),(3,.f qu),(8,qc),(9,qc)],[(.exit 2,[(0,qam),(1,qc),(2,qc),(3,.f qu),(8,qc)])],Zab_L2,[]⟩
def s_Zab_L0:LSpec T:=⟨[(0,qam),(1,qc),(2,qc),(3,.f qu),(8,qc)],[(.exit 0,[(0,qam)])],Zab_L0,[]⟩
def A_Zab:Loc2 T:=lcA [(2,s_Zab_L2),(0,s_Zab_L0)] [] []
theorem Vk9:LO c203 Tryz.f221 2 s_Zab_L2:=lx o202 A_Zab dn (λ_=>rfl)
theorem Vrf:LO c203 Tryz.f221 0 s_Zab_L0:=lx o202 A_Zab (dc rfl Vk9 dn) (λ_=>rfl)
theorem o203:EO c203:=sx o202 A_Zab Tryz.func221 (dc rfl Vk9 (dc rfl Vrf dn))
abbrev Y_Zak_L0:=((List (Int))×Int×Int×Int×((List (BitVec 64))×Unit)×Bool×Bool×Unit)
abbrev Z_Zak_L0:=((List (Int))×Unit)
def Zak_L0b (y0:List Int) (y1 y2 y3:Int) (y4:List (BitVec 64)×Unit) (y5 y6:Bool):Option (Y_Zak_L0⊕Z_Zak_L0):=
 bif decide (Qa .i64 (y2 - y1)<=12) then (Zab y0 y1 y2 (y4.1,())).bind λr1=>some (Qd (r1.1.1,())) else bif decide (y3=0) then none else (bif !y5 then none else some (y0,y1,y2,y3,(y4.1,()),y5,y6,Qa .i64 (y2 - y1),())).bind λj2=>none
def Zak_L0 (y:Y_Zak_L0):Option Z_Zak_L0:=
 iter (λ(y:Y_Zak_L0)=>Zak_L0b y.1 y.2.1 y.2.2.1 y.2.2.2.1 y.2.2.2.2.1 y.2.2.2.2.2.1 y.2.2.2.2.2.2.1) rounds y
def Zak (a0:List Int) (a1 a2 a3:Int) (a4:List (BitVec 64)×Unit):Option ((List Int×Unit)×Unit):=
 (Zak_L0 (a0,a1,a2,a3,(a4.1,()),true,true,())).bind λz3=>some ((z3.1,()),())
def c204:List (Ct T):=⟨151,(some (4,105)),⟨[(.inp 2),qc,qc,qc,.f qu],[],(u5 Zak)⟩,false⟩::c203
def s_Zak_L0:LSpec T:=⟨[(0,qam),(1,qc),(2,qc),(3,qc),(4,.f qu),(10,qr),(11,qr)],[(.ret,[(0,qam)])],Zak_L0,[]⟩
def A_Zak:Loc2 T:=lcA [(0,s_Zak_L0)] [(10,[(0,qam),(1,qc),(2,qc),(3,qc),(4,.f qu),(10,qr),(11,qr),(12,qc)],true)] []
theorem Vrg:LO c204 Tryz.f151 0 s_Zak_L0:=lx o203 A_Zak dn (λ_=>rfl)
theorem o204:EO c204:=sx o203 A_Zak Tryz.func151 (dc rfl Vrg dn)
def Zbb (a0:List Int) (a1:List (BitVec 64)×Unit):Option ((List Int×Unit)×Unit):=
 (Zhv (Qc 64 (a0.length:Int))).bind λr1=>(Zak a0 0 (a0.length:Int) r1.2.1 (a1.1,())).bind λr2=>some ((r2.1.1,()),())
def c205:List (Ct T):=⟨104,(some (1,105)),⟨[(.inp 2),.f qu],[],(u2 Zbb)⟩,false⟩::c204
theorem o205:EO c205:=sz o204 Tryz.func104
abbrev Y_cbor_Map_L0:=((List (List Ja))×(List (BitVec 64))×(List (Int))×Int×Int×Unit)
abbrev Z_cbor_Map_L0:=((List (List Ja))×(List (BitVec 64))×(List (Int))×Unit)
def cbor_Map_L0b (y0:List (List Ja)) (y1:List (BitVec 64)) (y2:List Int) (y3 y4:Int):Option (Y_cbor_Map_L0⊕Z_cbor_Map_L0):=
 bif decide (y4 < y3) then bif decide (0<=y4)&&decide (y4 < y2.length) then y2[y4.toNat]?.bind λx2=>some (Qe (y0,y1,Qj y2 y4.toNat y4,y3,Qa .i64 (y4+1),())) else none else some (Qd (y0,y1,y2,()))
def cbor_Map_L0 (y:Y_cbor_Map_L0):Option Z_cbor_Map_L0:=
 iter (λ(y:Y_cbor_Map_L0)=>cbor_Map_L0b y.1 y.2.1 y.2.2.1 y.2.2.2.1 y.2.2.2.2.1) rounds y
abbrev Y_cbor_Map_L2:=((List (List Ja))×(List (BitVec 64))×(List (Int))×Int×Unit)
abbrev Z_cbor_Map_L2:=(((List (Ja))×Int×Unit)⊕((List (List Ja))×(List (BitVec 64))×(List (Int))×Unit))
def cbor_Map_L2b (y0:List (List Ja)) (y1:List (BitVec 64)) (y2:List Int) (y3:Int):Option (Y_cbor_Map_L2⊕Z_cbor_Map_L2):=
 bif decide (y3 < y2.length) then bif decide (0<=Qa .i64 (y3 - 1))&&decide (Qa .i64 (y3 - 1) < y2.length) then y2[(Qa .i64 (y3 - 1)).toNat]?.bind λx5=>(getI y1 x5).bind λx6=>bif decide (0<=y3)&&decide (y3 < y2.length) then y2[y3.toNat]?.bind λx7=>(getI y1 x7).bind λx8=>bif decide (x6=x8) then some (Qd (Qe ([],10,()))) else some (Qe (y0,y1,y2,Qa .i64 (y3+1),())) else none else none else some (Qd (Qd (y0,y1,y2,())))
def cbor_Map_L2 (y:Y_cbor_Map_L2):Option Z_cbor_Map_L2:=
 iter (λ(y:Y_cbor_Map_L2)=>cbor_Map_L2b y.1 y.2.1 y.2.2.1 y.2.2.2.1) rounds y
abbrev Y_cbor_Map_L4:=((List (List Ja))×(List (BitVec 64))×(List (Ja))×(List (Int))×Int×Int×Unit)
abbrev Z_cbor_Map_L4:=((List (Ja))×Unit)
def cbor_Map_L4b (y0:List (List Ja)) (y1:List (BitVec 64)) (y2:List Ja) (y3:List Int) (y4 y5:Int):Option (Y_cbor_Map_L4⊕Z_cbor_Map_L4):=
 bif decide (y5 < y4) then bif decide (0<=y5)&&decide (y5 < y3.length) then y3[y5.toNat]?.bind λx13=>bif decide (512 < (y2.length:Int)) then some (Qd (y2,())) else (getI y1 x13).bind λx14=>(Zim x14).bind λr15=>bif small (y2.length+(r15.2.1:List Ja).length) 32 then (getI y0 x13).bind λx16=>bif small ((y2++r15.2.1).length+(x16:List Ja).length) 32 then some (Qe (y0,y1,y2++r15.2.1++x16,y3,y4,Qa .i64 (y5+1),())) else none else none else none else some (Qd (y2,()))
def cbor_Map_L4 (y:Y_cbor_Map_L4):Option Z_cbor_Map_L4:=
 iter (λ(y:Y_cbor_Map_L4)=>cbor_Map_L4b y.1 y.2.1 y.2.2.1 y.2.2.2.1 y.2.2.2.2.1 y.2.2.2.2.2.1) rounds y
def cbor_Map (a0:List (BitVec 64)) (a1:List (List Ja)):Option (Unit×List Ja×Int×Unit):=
 bif !(decide ((a0.length:Int)=(a1.length:Int))) then some ((),[],4,()) else bif decide (0<=(a0.length:Int))&&(decide ((a0.length:Int)<=(a0.length:Int))&&decide (8*(a0.length:Int)<=281474976710656/\(a0.length:Int)<=9223372036854775807)) then let v1:=List.replicate (a0.length:Int).toNat (0:Int);(cbor_Map_L0 (a1,a0,v1,((a0.length:Int).toNat:Int),0,())).bind λz3=>(Zbb z3.2.2.1 (z3.2.1,())).bind λr4=>(cbor_Map_L2 (z3.1,z3.2.1,r4.1.1,1,())).bind (Qh (λz9=>some ((),z9.1,z9.2.1,())) (λz10=>(Zid z10.1).bind λr11=>bif !(decide (r11.2.1=0)) then some ((),[],r11.2.1,()) else let v12:List Ja:=[⟨6,Qc 64 (z10.2.1.length:Int),[]⟩];(cbor_Map_L4 (z10.1,z10.2.1,v12,z10.2.2.1,(z10.2.2.1.length:Int),0,())).bind λz17=>(Zhy z17.1).bind λr18=>some ((),r18.2.1,r18.2.2.1,()))) else none
def c206:=cf c205 68 [qav,qy] [qai,qa] (u2 cbor_Map)
def s_cbor_Map_L0:LSpec T:=⟨[(1,qy),(2,qan),(6,qam),(22,qc),(23,qc)],[(.exit 0,[(1,qy),(2,qan),(6,qam)])],cbor_Map_L0,[]⟩
def s_cbor_Map_L2:LSpec T:=⟨[(1,qy),(2,qan),(6,qam),(8,qc)],[(.ret,[(4,qal),(5,qc)]),(.exit 2,[(1,qy),(2,qan),(6,qam)])],cbor_Map_L2,[]⟩
def s_cbor_Map_L4:LSpec T:=⟨[(1,qy),(2,qan),(10,qal),(66,qam),(67,qc),(68,qc)],[(.exit 4,[(10,qal)])],cbor_Map_L4,[]⟩
def A_cbor_Map:Loc2 T:=lcA [(0,s_cbor_Map_L0),(2,s_cbor_Map_L2),(4,s_cbor_Map_L4)] [] []
theorem Vcq:LO c206 Tryz.f68 0 s_cbor_Map_L0:=lx o205 A_cbor_Map dn (λ_=>rfl)
theorem Vem:LO c206 Tryz.f68 2 s_cbor_Map_L2:=lx o205 A_cbor_Map (dc rfl Vcq dn) (λ_=>rfl)
theorem Vip:LO c206 Tryz.f68 4 s_cbor_Map_L4:=lx o205 A_cbor_Map (dc rfl Vcq (dc rfl Vem dn)) (λ_=>rfl)
theorem o206:EO c206:=sx o205 A_cbor_Map Tryz.func68 (dc rfl Vcq (dc rfl Vem (dc rfl Vip dn)))
abbrev Y_Zic_L0:=((List (UInt8))×(List (Ja))×Int×Int×Unit)
abbrev Z_Zic_L0:=((List (UInt8))×Unit)
def Zic_L0b (y0:List UInt8) (y1:List Ja) (y2 y3:Int):Option (Y_Zic_L0⊕Z_Zic_L0):=
 bif decide (y3 < y2) then (getI y1 y3).bind λx2=>(Zgv y0 x2).bind λr3=>some (Qe (r3.2.1,y1,y2,Qa .i64 (y3+1),())) else some (Qd (y0,()))
def Zic_L0 (y:Y_Zic_L0):Option Z_Zic_L0:=
 iter (λ(y:Y_Zic_L0)=>Zic_L0b y.1 y.2.1 y.2.2.1 y.2.2.2.1) rounds y
def Zic (a0:List Ja):Option (Unit×List UInt8×Int×Unit):=
 (Zht a0).bind λr1=>bif !(decide (r1.2.1=0)) then some ((),[],r1.2.1,()) else (Zic_L0 ([],a0,(a0.length:Int),0,())).bind λz4=>some ((),z4.1,0,())
def c207:=cf c206 69 [qa7] [qj,qa] (u1 Zic)
def s_Zic_L0:LSpec T:=⟨[(5,qae),(13,qa7),(14,qc),(15,qc)],[(.exit 0,[(5,qae)])],Zic_L0,[]⟩
def A_Zic:Loc2 T:=lcA [(0,s_Zic_L0)] [] []
theorem Vrh:LO c207 Tryz.f69 0 s_Zic_L0:=lx o206 A_Zic dn (λ_=>rfl)
theorem o207:EO c207:=sx o206 A_Zic Tryz.func69 (dc rfl Vrh dn)
abbrev Y_message_encode_L0:=(UInt8×(BitVec 32)×(List (BitVec 64))×(List (List Ja))×(List (List Ja))×Int×Int×Unit)
abbrev Z_message_encode_L0:=(UInt8×(List (BitVec 64))×(List (List Ja))×Unit)
def message_encode_L0b (y0:UInt8) (y1:BitVec 32) (y2:List (BitVec 64)) (y3 y4:List (List Ja)) (y5 y6:Int):Option (Y_message_encode_L0⊕Z_message_encode_L0):=
 bif decide (y6 < y5) then (getI y4 y6).bind λx1=>bif decide (0<=Qa .i64 (y6+1)) then let v2:=y1>>>(Qa .i64 (y6+1)).toNat&&&1#32;bif decide (v2=1#32) then let v3:List (BitVec 64):=[Qc 64 (Qa .i64 (y6+1))];bif small (y2.length+(v3:List (BitVec 64)).length) 8 then bif small (y3.length+([x1]).length) 24 then some (Qe (y0,y1,y2++v3,y3++[x1],y4,y5,Qa .i64 (y6+1),())) else none else none else some (Qe (y0,y1,y2,y3,y4,y5,Qa .i64 (y6+1),())) else none else some (Qd (y0,y2,y3,()))
def message_encode_L0 (y:Y_message_encode_L0):Option Z_message_encode_L0:=
 iter (λ(y:Y_message_encode_L0)=>message_encode_L0b y.1 y.2.1 y.2.2.1 y.2.2.2.1 y.2.2.2.2.1 y.2.2.2.2.2.1 y.2.2.2.2.2.2.1) rounds y
def message_encode (a0:UInt8) (a1:BitVec 32) (a2:List (List Ja)):Option (Unit×List UInt8×Int×Unit):=
 (message_encode_L0 (a0,a1,[],[],a2,(a2.length:Int),0,())).bind λz4=>(cbor_Map z4.2.1 z4.2.2.1).bind λr5=>bif !(decide (r5.2.2.1=0)) then some ((),[],r5.2.2.1,()) else (Zic r5.2.1).bind λr6=>bif !(decide (r6.2.2.1=0)) then some ((),[],r6.2.2.1,()) else bif small (([z4.1]).length+(r6.2.1:List UInt8).length) 1 then some ((),[z4.1]++r6.2.1,0,()) else none
def c208:=cf c207 26 [qa0,qax,qy] [qj,qa] (u3 message_encode)
def s_message_encode_L0:LSpec T:=⟨[(0,qa0),(1,qax),(8,(.f (.own 8))),(9,qbg),(15,qy),(16,qc),(17,qc)],[(.exit 0,[(0,qa0),(8,(.f (.own 8))),(9,qbg)])],message_encode_L0,[]⟩
def A_message_encode:Loc2 T:=lcA [(0,s_message_encode_L0)] [] []
theorem Vek:LO c208 Tryz.f26 0 s_message_encode_L0:=lx o207 A_message_encode dn (λ_=>rfl)
theorem o208:EO c208:=sx o207 A_message_encode Tryz.func26 (dc rfl Vek dn)
def Zbm (a0:Jb):Option (Unit×List UInt8×Int×Unit):=
 (Zfo a0).bind λr1=>bif !(decide (r1.2.1=0)) then some ((),[],r1.2.1,()) else (Zhx a0).bind λr2=>(Zil a0.rP).bind λr3=>(Zih a0.user).bind λr4=>(Zil a0.name).bind λr5=>(Zim a0.jaa).bind λr6=>(Zim (Qc 64 a0.jd)).bind λr7=>(Zim (Qc 64 a0.jg)).bind λr8=>(Zgz a0.list).bind λr9=>(Zik a0.jj).bind λr10=>(Zik a0.js).bind λr11=>(Zik a0.ju).bind λr12=>(Zik a0.jp).bind λr13=>(Zim (Qc 64 a0.jl)).bind λr14=>(Zim a0.auth).bind λr15=>(Zim a0.jv).bind λr16=>(Zih a0.box).bind λr17=>(Zih a0.proof).bind λr18=>(Zim (Qc 64 a0.jb)).bind λr19=>(Zih a0.iD).bind λr20=>(Zim (Qc 64 a0.count)).bind λr21=>let v22:List (List Ja):=[r3.2.1,r4.2.1,r5.2.1,r6.2.1,r7.2.1,r8.2.1,r9.2.1,r10.2.1,r11.2.1,r12.2.1,r13.2.1,r14.2.1,r15.2.1,r16.2.1,r17.2.1,r18.2.1,r19.2.1,r20.2.1,r21.2.1];(message_encode (Qf (Qc 8 a0.kind)) r2.2.1 v22).bind λr23=>some ((),r23.2.1,r23.2.2.1,())
def c209:=cf c208 12 [qa3] [qj,qa] (u1 Zbm)
theorem o209:EO c209:=sx o208 (lcA [] [] [4]) Tryz.func12 dn
abbrev Y_Zhu_L0:=((BitVec 64)×(List (UInt8))×Int×Int×Unit)
abbrev Z_Zhu_L0:=((BitVec 64)×Unit)
def Zhu_L0b (y0:BitVec 64) (y1:List UInt8) (y2 y3:Int):Option (Y_Zhu_L0⊕Z_Zhu_L0):=
 bif decide (y3 < y2) then (getI y1 y3).bind λx1=>bif decide (0<=Qa .i64 (8*y3)) then let v2:=Qi 64 x1.toBitVec <<< (Qa .i64 (8*y3)).toNat;some (Qe (y0 ||| v2,y1,y2,Qa .i64 (y3+1),())) else none else some (Qd (y0,()))
def Zhu_L0 (y:Y_Zhu_L0):Option Z_Zhu_L0:=
 iter (λ(y:Y_Zhu_L0)=>Zhu_L0b y.1 y.2.1 y.2.2.1 y.2.2.2.1) rounds y
def Zhu (a0:List UInt8):Option (Unit×BitVec 64×Unit):=
 (Zhu_L0 (0#64,a0,(a0.length:Int),0,())).bind λz3=>some ((),z3.1,())
def c210:=ct c209 101 [qg] [qp] (u1 Zhu)
def s_Zhu_L0:LSpec T:=⟨[(3,qd),(6,qg),(7,qc),(8,qc)],[(.exit 0,[(3,qd)])],Zhu_L0,[]⟩
def A_Zhu:Loc2 T:=lcA [(0,s_Zhu_L0)] [] []
theorem Vri:LO c210 Tryz.f101 0 s_Zhu_L0:=lx o209 A_Zhu dn (λ_=>rfl)
theorem o210:EO c210:=sx o209 A_Zhu Tryz.func101 (dc rfl Vri dn)
def Zbd (a0:BitVec 64) (a1:Int):Option (Unit×BitVec 64×Unit):=
 let v1:=a0 <<< (Qc 64 a1&&&63#64).toNat ||| a0>>>(64#64 - (Qc 64 a1&&&63#64)).toNat;some ((),v1,())
def c211:=ct c210 149 [qd,qc] [qp] (u2 Zbd)
theorem o211:EO c211:=sz o210 Tryz.func149
abbrev Y_Zcm_L0:=((Jn×Unit)×Int×Int×Unit)
abbrev Z_Zcm_L0:=((Jn×Unit)×Unit)
def Zcm_L0b (y0:Jn×Unit) (y1 y2:Int):Option (Y_Zcm_L0⊕Z_Zcm_L0):=
 bif decide (y2 < y1) then (Zbd y0.1.v1 13).bind λr1=>(Zbd (y0.1.v0+y0.1.v1) 32).bind λr2=>(Zbd y0.1.v3 16).bind λr3=>(Zbd (r3.2.1 ^^^ y0.1.v2+y0.1.v3) 21).bind λr4=>(Zbd (r1.2.1 ^^^ y0.1.v0+y0.1.v1) 17).bind λr5=>let v6:=r5.2.1 ^^^ y0.1.v2+y0.1.v3+(r1.2.1 ^^^ y0.1.v0+y0.1.v1);(Zbd (y0.1.v2+y0.1.v3+(r1.2.1 ^^^ y0.1.v0+y0.1.v1)) 32).bind λr7=>some (Qe ((⟨r2.2.1+(r3.2.1 ^^^ y0.1.v2+y0.1.v3),v6,r7.2.1,r4.2.1 ^^^ r2.2.1+(r3.2.1 ^^^ y0.1.v2+y0.1.v3)⟩,()),y1,Qa .i64 (y2+1),())) else some (Qd ((y0.1,()),()))
def Zcm_L0 (y:Y_Zcm_L0):Option Z_Zcm_L0:=
 iter (λ(y:Y_Zcm_L0)=>Zcm_L0b y.1 y.2.1 y.2.2.1) rounds y
def Zcm (a0:Jn×Unit) (a1:Int):Option (((Jn×Unit)×Unit)×Unit):=
 (Zcm_L0 ((a0.1,()),a1,0,())).bind λz8=>some (((z8.1.1,()),()),())
def c212:=cf c211 102 [qao,qc] [] (u2 Zcm)
def s_Zcm_L0:LSpec T:=⟨[(0,qao),(4,qc),(5,qc)],[(.exit 0,[(0,qao)])],Zcm_L0,[]⟩
def A_Zcm:Loc2 T:=lcA [(0,s_Zcm_L0)] [] []
theorem Vrj:LO c212 Tryz.f102 0 s_Zcm_L0:=lx o211 A_Zcm dn (λ_=>rfl)
theorem o212:EO c212:=sx o211 A_Zcm Tryz.func102 (dc rfl Vrj dn)
def Zcl (a0:Jn×Unit) (a1:BitVec 64):Option (((Jn×Unit)×Unit)×Unit):=
 (Zcm ({a0.1 with v3:=a0.1.v3 ^^^ a1},()) 2).bind λr1=>some ((({r1.1.1.1 with v0:=r1.1.1.1.v0 ^^^ a1},()),()),())
def c213:=cf c212 100 [qao,qd] [] (u2 Zcl)
theorem o213:EO c213:=sz o212 Tryz.func100
abbrev Y_Zij_L0:=((List (UInt8))×(Jn×Unit)×Int×Int×Int×Unit)
abbrev Z_Zij_L0:=((List (UInt8))×(Jn×Unit)×Int×Unit)
def Zij_L0b (y0:List UInt8) (y1:Jn×Unit) (y2 y3 y4:Int):Option (Y_Zij_L0⊕Z_Zij_L0):=
 bif decide (y4 < y3) then let v1:=Qa .i64 (Qa .i64 (8*y4)+8);bif decide (0<=v1)&&decide (v1<=y0.length) then bif decide (0<=Qa .i64 (8*y4))&&decide (Qa .i64 (8*y4)<=v1.toNat) then let v2:=List.drop (Qa .i64 (8*y4)).toNat (List.take v1.toNat y0);(Zhu v2).bind λr3=>(Zcl (y1.1,()) r3.2.1).bind λr4=>some (Qe (y0,(r4.1.1.1,()),y2,y3,Qa .i64 (y4+1),())) else none else none else some (Qd (y0,(y1.1,()),y2,()))
def Zij_L0 (y:Y_Zij_L0):Option Z_Zij_L0:=
 iter (λ(y:Y_Zij_L0)=>Zij_L0b y.1 y.2.1 y.2.2.1 y.2.2.2.1 y.2.2.2.2.1) rounds y
def Zij (a0 a1:BitVec 64) (a2:List UInt8):Option (Unit×BitVec 64×Unit):=
 (Zij_L0 (a2,(⟨a0 ^^^ 8317987319222330741#64,a1 ^^^ 7237128888997146477#64,a0 ^^^ 7816392313619706465#64,a1 ^^^ 8387220255154660723#64⟩,()),Qa .i64 (Int.tdiv (a2.length:Int) 8),Qa .i64 (Int.tdiv (a2.length:Int) 8),0,())).bind λz5=>bif decide (0<=Qa .i64 (8*z5.2.2.1))&&decide (Qa .i64 (8*z5.2.2.1)<=z5.1.length) then let v6:=List.drop (Qa .i64 (8*z5.2.2.1)).toNat z5.1;(Zhu v6).bind λr7=>let v8:=r7.2.1 ||| Qc 64 (z5.1.length:Int) <<< 56;(Zcl (z5.2.1.1,()) v8).bind λr9=>(Zcm ({r9.1.1.1 with v2:=r9.1.1.1.v2 ^^^ 255#64},()) 4).bind λr10=>let v11:=r10.1.1.1.v0 ^^^ r10.1.1.1.v1 ^^^ r10.1.1.1.v2 ^^^ r10.1.1.1.v3;some ((),v11,()) else none
def c214:=ct c213 66 [qd,qd,qg] [qp] (u3 Zij)
def s_Zij_L0:LSpec T:=⟨[(2,qg),(7,qao),(8,qc),(22,qc),(23,qc)],[(.exit 0,[(2,qg),(7,qao),(8,qc)])],Zij_L0,[]⟩
def A_Zij:Loc2 T:=lcA [(0,s_Zij_L0)] [] []
theorem Vrk:LO c214 Tryz.f66 0 s_Zij_L0:=lx o213 A_Zij dn (λ_=>rfl)
theorem o214:EO c214:=sx o213 A_Zij Tryz.func66 (dc rfl Vrk dn)
def Zif (a0:Int) (a1:List UInt8):Option (Unit×BitVec 64×Unit):=
 (Zij (Qc 64 a0) 0#64 a1).bind λr1=>some ((),r1.2.1,())
def c215:=ct c214 24 [qc,qg] [qp] (u2 Zif)
theorem o215:EO c215:=sz o214 Tryz.func24
def Zho (a0:Jb):Option (Unit×BitVec 64×Unit):=
 (Zfo a0).bind λr1=>bif !(decide (r1.2.1=0)) then some ((),0#64,()) else (Zbm {a0 with auth:=0#64,jk:=false}).bind λr2=>bif !(decide (r2.2.2.1=0)) then some ((),0#64,()) else (Zif 21 r2.2.1).bind λr3=>some ((),r3.2.1,())
def c216:=ct c215 10 [qa3] [qp] (u1 Zho)
theorem o216:EO c216:=sz o215 Tryz.func10
def Zdj (a0:Jj):Option (Unit×BitVec 32×Unit):=
 let v1:List Bool:=[decide (0 < (a0.jad.length:Int)),decide (0 < (a0.jab.length:Int)),decide (0 < (a0.jq.length:Int)),!(decide (a0.jl=0)),decide (0 < (a0.iD.length:Int)),!(decide (a0.user=([]:List UInt8))),!(decide (a0.name=([]:List UInt8))),!(decide (a0.count=0)),!(decide (a0.jv=0#64)),decide (0 < (a0.box.length:Int)),!(decide (a0.jae=0#64)),!(decide (a0.jx=0)),!(decide (a0.jay=0)),!(decide (a0.jau=0)),a0.jaw,a0.jai,decide (0 < (a0.jy.length:Int))];(Zia v1).bind λr2=>some ((),r2.2.1,())
def c217:=ct c216 34 [(.f qac)] [(.v .u32)] (u1 Zdj)
theorem o217:EO c217:=sz o216 Tryz.func34
abbrev Y_Zbo_L0:=((Jj×Unit)×(List (List UInt8))×Int×Int×Unit)
abbrev Z_Zbo_L0:=((Bool×Unit)⊕((Jj×Unit)×Unit))
def Zbo_L0b (y0:Jj×Unit) (y1:List (List UInt8)) (y2 y3:Int):Option (Y_Zbo_L0⊕Z_Zbo_L0):=
 bif decide (y3 < y2) then (getI y1 y3).bind λx1=>bif decide (1024 < (x1.length:Int)) then some (Qd (Qe (true,()))) else some (Qe ((y0.1,()),y1,y2,Qa .i64 (y3+1),())) else some (Qd (Qd ((y0.1,()),())))
def Zbo_L0 (y:Y_Zbo_L0):Option Z_Zbo_L0:=
 iter (λ(y:Y_Zbo_L0)=>Zbo_L0b y.1 y.2.1 y.2.2.1 y.2.2.2.1) rounds y
abbrev Y_Zbo_L2:=((Jj×Unit)×(List (Jw))×Int×Int×Unit)
abbrev Z_Zbo_L2:=((Bool×Unit)⊕((Jj×Unit)×Unit))
def Zbo_L2b (y0:Jj×Unit) (y1:List Jw) (y2 y3:Int):Option (Y_Zbo_L2⊕Z_Zbo_L2):=
 bif decide (y3 < y2) then (getI y1 y3).bind λx4=>bif decide (64 < (x4.rP.length:Int)) then some (Qd (Qe (true,()))) else bif decide (16 < (x4.user.length:Int)) then some (Qd (Qe (true,()))) else bif decide (32 < (x4.name.length:Int)) then some (Qd (Qe (true,()))) else some (Qe ((y0.1,()),y1,y2,Qa .i64 (y3+1),())) else some (Qd (Qd ((y0.1,()),())))
def Zbo_L2 (y:Y_Zbo_L2):Option Z_Zbo_L2:=
 iter (λ(y:Y_Zbo_L2)=>Zbo_L2b y.1 y.2.1 y.2.2.1 y.2.2.2.1) rounds y
def Zbo (a0:Jj):Option (Unit×Bool×Unit):=
 (Zbo_L0 ((a0,()),a0.jq,(a0.jq.length:Int),0,())).bind (Qh (λz2=>some ((),z2.1,())) (λz3=>(Zbo_L2 ((z3.1.1,()),z3.1.1.jy,(z3.1.1.jy.length:Int),0,())).bind (Qh (λz5=>some ((),z5.1,())) (λz6=>let v7:Int:=bif decide ((bif decide ((z6.1.1.jad.length:Int) < (z6.1.1.jab.length:Int)) then (z6.1.1.jab.length:Int) else (z6.1.1.jad.length:Int)) < z6.1.1.box.length) then (z6.1.1.box.length:Int) else bif decide ((z6.1.1.jad.length:Int) < (z6.1.1.jab.length:Int)) then (z6.1.1.jab.length:Int) else (z6.1.1.jad.length:Int);bif decide (1024 < v7) then some ((),true,()) else bif decide (3 < (z6.1.1.jq.length:Int)) then some ((),true,()) else bif decide (8 < (z6.1.1.jy.length:Int)) then some ((),true,()) else bif decide (16 < (z6.1.1.user.length:Int)) then some ((),true,()) else some ((),decide (32 < (z6.1.1.name.length:Int)),())))))
def c218:=ct c217 73 [(.f qac)] [qf] (u1 Zbo)
def s_Zbo_L0:LSpec T:=⟨[(1,qh),(8,qad),(9,qc),(10,qc)],[(.ret,[(2,qr)]),(.exit 0,[(1,qh)])],Zbo_L0,[]⟩
def s_Zbo_L2:LSpec T:=⟨[(1,qh),(19,qbc),(20,qc),(21,qc)],[(.ret,[(2,qr)]),(.exit 2,[(1,qh)])],Zbo_L2,[]⟩
def A_Zbo:Loc2 T:=lcA [(0,s_Zbo_L0),(2,s_Zbo_L2)] [] []
theorem Vla:LO c218 Tryz.f73 0 s_Zbo_L0:=lx o217 A_Zbo dn (λ_=>rfl)
theorem Vrl:LO c218 Tryz.f73 2 s_Zbo_L2:=lx o217 A_Zbo (dc rfl Vla dn) (λ_=>rfl)
theorem o218:EO c218:=sx o217 A_Zbo Tryz.func73 (dc rfl Vla (dc rfl Vrl dn))
abbrev Y_Zdk_L0:=((Jj×Unit)×(List (Jw))×Int×Int×Unit)
abbrev Z_Zdk_L0:=((Bool×Unit)⊕((Jj×Unit)×Unit))
def Zdk_L0b (y0:Jj×Unit) (y1:List Jw) (y2 y3:Int):Option (Y_Zdk_L0⊕Z_Zdk_L0):=
 bif decide (y3 < y2) then (getI y1 y3).bind λx1=>(Zgt x1.rP).bind λr2=>bif !r2.2.1 then some (Qd (Qe (false,()))) else (Zgt x1.name).bind λr3=>bif !r3.2.1 then some (Qd (Qe (false,()))) else some (Qe ((y0.1,()),y1,y2,Qa .i64 (y3+1),())) else some (Qd (Qd ((y0.1,()),())))
def Zdk_L0 (y:Y_Zdk_L0):Option Z_Zdk_L0:=
 iter (λ(y:Y_Zdk_L0)=>Zdk_L0b y.1 y.2.1 y.2.2.1 y.2.2.2.1) rounds y
def Zdk (a0:Jj):Option (Unit×Bool×Unit):=
 (Zdk_L0 ((a0,()),a0.jy,(a0.jy.length:Int),0,())).bind (Qh (λz4=>some ((),z4.1,())) (λz5=>(Zgt z5.1.1.name).bind λr6=>some ((),r6.2.1,())))
def c219:=ct c218 74 [(.f qac)] [qf] (u1 Zdk)
def s_Zdk_L0:LSpec T:=⟨[(1,qh),(6,qbc),(7,qc),(8,qc)],[(.ret,[(2,qr)]),(.exit 0,[(1,qh)])],Zdk_L0,[]⟩
def A_Zdk:Loc2 T:=lcA [(0,s_Zdk_L0)] [] []
theorem Vrm:LO c219 Tryz.f74 0 s_Zdk_L0:=lx o218 A_Zdk dn (λ_=>rfl)
theorem o219:EO c219:=sx o218 A_Zdk Tryz.func74 (dc rfl Vrm dn)
abbrev Y_Zbz_L0:=((Jj×Unit)×(List (Jw))×Int×Int×Unit)
abbrev Z_Zbz_L0:=((Bool×Unit)⊕((Jj×Unit)×Unit))
def Zbz_L0b (y0:Jj×Unit) (y1:List Jw) (y2 y3:Int):Option (Y_Zbz_L0⊕Z_Zbz_L0):=
 bif decide (y3 < y2) then (getI y1 y3).bind λx1=>(Zfp [x1.left]).bind λr2=>bif !r2.2.1 then some (Qd (Qe (false,()))) else some (Qe ((y0.1,()),y1,y2,Qa .i64 (y3+1),())) else some (Qd (Qd ((y0.1,()),())))
def Zbz_L0 (y:Y_Zbz_L0):Option Z_Zbz_L0:=
 iter (λ(y:Y_Zbz_L0)=>Zbz_L0b y.1 y.2.1 y.2.2.1 y.2.2.2.1) rounds y
def Zbz (a0:Jj):Option (Unit×Bool×Unit):=
 (Zbz_L0 ((a0,()),a0.jy,(a0.jy.length:Int),0,())).bind (Qh (λz3=>some ((),z3.1,())) (λz4=>let v5:List Int:=[z4.1.1.jl,z4.1.1.count,z4.1.1.jx,z4.1.1.jay,z4.1.1.jau];(Zfp v5).bind λr6=>some ((),r6.2.1,())))
def c220:=ct c219 72 [(.f qac)] [qf] (u1 Zbz)
def s_Zbz_L0:LSpec T:=⟨[(1,qh),(6,qbc),(7,qc),(8,qc)],[(.ret,[(2,qr)]),(.exit 0,[(1,qh)])],Zbz_L0,[]⟩
def A_Zbz:Loc2 T:=lcA [(0,s_Zbz_L0)] [] []
theorem Vrn:LO c220 Tryz.f72 0 s_Zbz_L0:=lx o219 A_Zbz dn (λ_=>rfl)
theorem o220:EO c220:=sx o219 A_Zbz Tryz.func72 (dc rfl Vrn dn)
abbrev Y_Zbn_L1:=((List (Jw))×Int×Int×Unit)
abbrev Z_Zbn_L1:=((Int×Unit)⊕(Unit))
def Zbn_L1b (y0:List Jw) (y1 y2:Int):Option (Y_Zbn_L1⊕Z_Zbn_L1):=
 bif decide (y2 < y1) then (getI y0 y2).bind λx18=>bif !(decide ((x18.iD.length:Int)=176)) then some (Qd (Qe (4,()))) else some (Qe (y0,y1,Qa .i64 (y2+1),())) else some (Qd (Qd ()))
def Zbn_L1 (y:Y_Zbn_L1):Option Z_Zbn_L1:=
 iter (λ(y:Y_Zbn_L1)=>Zbn_L1b y.1 y.2.1 y.2.2.1) rounds y
def Zbn (a0:Jj):Option (Unit×Int×Unit):=
 (bif decide (a0.err < 0) then bif decide (a0.err < 0) then (some ((),(9:Int),())).bind λq=>some (Qd q) else bif !(decide (a0.err=0)) then (Zdj a0).bind λr1=>bif !(decide (r1.2.1=0#32)) then (some ((),(4:Int),())).bind λq=>some (Qd q) else (Zbo a0).bind λr2=>bif r2.2.1 then (some ((),(8:Int),())).bind λq=>some (Qd q) else (Zdk a0).bind λr3=>bif !r3.2.1 then (some ((),(6:Int),())).bind λq=>some (Qd q) else bif decide (0 < (a0.iD.length:Int)) then bif !(decide ((a0.iD.length:Int)=176)) then (some ((),(4:Int),())).bind λq=>some (Qd q) else some (Qe ((a0,()),())) else some (Qe ((a0,()),())) else (Zbo a0).bind λr4=>bif r4.2.1 then (some ((),(8:Int),())).bind λq=>some (Qd q) else (Zdk a0).bind λr5=>bif !r5.2.1 then (some ((),(6:Int),())).bind λq=>some (Qd q) else bif decide (0 < (a0.iD.length:Int)) then bif !(decide ((a0.iD.length:Int)=176)) then (some ((),(4:Int),())).bind λq=>some (Qd q) else some (Qe ((a0,()),())) else some (Qe ((a0,()),())) else bif decide (42 < a0.err) then bif decide (42 < a0.err) then (some ((),(9:Int),())).bind λq=>some (Qd q) else bif !(decide (a0.err=0)) then (Zdj a0).bind λr6=>bif !(decide (r6.2.1=0#32)) then (some ((),(4:Int),())).bind λq=>some (Qd q) else (Zbo a0).bind λr7=>bif r7.2.1 then (some ((),(8:Int),())).bind λq=>some (Qd q) else (Zdk a0).bind λr8=>bif !r8.2.1 then (some ((),(6:Int),())).bind λq=>some (Qd q) else bif decide (0 < (a0.iD.length:Int)) then bif !(decide ((a0.iD.length:Int)=176)) then (some ((),(4:Int),())).bind λq=>some (Qd q) else some (Qe ((a0,()),())) else some (Qe ((a0,()),())) else (Zbo a0).bind λr9=>bif r9.2.1 then (some ((),(8:Int),())).bind λq=>some (Qd q) else (Zdk a0).bind λr10=>bif !r10.2.1 then (some ((),(6:Int),())).bind λq=>some (Qd q) else bif decide (0 < (a0.iD.length:Int)) then bif !(decide ((a0.iD.length:Int)=176)) then (some ((),(4:Int),())).bind λq=>some (Qd q) else some (Qe ((a0,()),())) else some (Qe ((a0,()),())) else (Zbz a0).bind λr11=>bif !r11.2.1 then (some ((),(9:Int),())).bind λq=>some (Qd q) else bif !(decide (a0.err=0)) then (Zdj a0).bind λr12=>bif !(decide (r12.2.1=0#32)) then (some ((),(4:Int),())).bind λq=>some (Qd q) else (Zbo a0).bind λr13=>bif r13.2.1 then (some ((),(8:Int),())).bind λq=>some (Qd q) else (Zdk a0).bind λr14=>bif !r14.2.1 then (some ((),(6:Int),())).bind λq=>some (Qd q) else bif decide (0 < (a0.iD.length:Int)) then bif !(decide ((a0.iD.length:Int)=176)) then (some ((),(4:Int),())).bind λq=>some (Qd q) else some (Qe ((a0,()),())) else some (Qe ((a0,()),())) else (Zbo a0).bind λr15=>bif r15.2.1 then (some ((),(8:Int),())).bind λq=>some (Qd q) else (Zdk a0).bind λr16=>bif !r16.2.1 then (some ((),(6:Int),())).bind λq=>some (Qd q) else bif decide (0 < (a0.iD.length:Int)) then bif !(decide ((a0.iD.length:Int)=176)) then (some ((),(4:Int),())).bind λq=>some (Qd q) else some (Qe ((a0,()),())) else some (Qe ((a0,()),()))).bind (Qh (λj17=>(Zbn_L1 (j17.1.1.jy,(j17.1.1.jy.length:Int),0,())).bind (Qh (λz19=>some ((),z19.1,())) (λz20=>some ((),0,())))) some)
def c221:=ct c220 33 [(.f qac)] [qa] (u1 Zbn)
def s_Zbn_L1:LSpec T:=⟨[(43,qbc),(44,qc),(45,qc)],[(.ret,[(2,qc)]),(.exit 1,[])],Zbn_L1,[]⟩
def A_Zbn:Loc2 T:=lcA [(1,s_Zbn_L1)] [(13,[(1,qh)],false)] []
theorem Vro:LO c221 Tryz.f33 1 s_Zbn_L1:=lx o220 A_Zbn dn (λ_=>rfl)
theorem o221:EO c221:=sx o220 A_Zbn Tryz.func33 (dc rfl Vro dn)
def Zco (a0:Jj):Option (Unit×List UInt8×Int×Unit):=
 (Zbn a0).bind λr1=>bif !(decide (r1.2.1=0)) then some ((),[],r1.2.1,()) else bif !(decide (a0.err=0)) then some ((),[Qf (Qc 8 a0.err)],0,()) else (Zdj a0).bind λr2=>(Zih a0.jad).bind λr3=>(Zih a0.jab).bind λr4=>(Zgz a0.jq).bind λr5=>(Zim (Qc 64 a0.jl)).bind λr6=>(Zih a0.iD).bind λr7=>(Zih a0.user).bind λr8=>(Zil a0.name).bind λr9=>(Zim (Qc 64 a0.count)).bind λr10=>(Zim a0.jv).bind λr11=>(Zih a0.box).bind λr12=>(Zim a0.jae).bind λr13=>(Zim (Qc 64 a0.jx)).bind λr14=>(Zim (Qc 64 a0.jay)).bind λr15=>(Zim (Qc 64 a0.jau)).bind λr16=>(Zik a0.jaw).bind λr17=>(Zik a0.jai).bind λr18=>none
def c222:=cf c221 13 [(.f qac)] [qj,qa] (u1 Zco)
theorem o222:EO c222:=sx o221 (lcA [] [] [6]) Tryz.func13 dn
def Zib (a0 a1:List UInt8):Option (Unit×Bool×Unit):=
 some ((),decide (a0=a1),())
def c223:=ct c222 38 [qg,qg] [qf] (u2 Zib)
theorem o223:EO c223:=sz o222 Tryz.func38
def Zcn (a0:List UInt8):Option (Unit×Jj×Int×Unit):=
 bif decide ((a0.length:Int)=0) then some ((),{},1,()) else bif decide (4096 < (a0.length:Int)) then some ((),{},8,()) else (getI a0 (0:Int)).bind λx1=>bif decide (42 < (x1.toBitVec.toNat:Int)) then some ((),{},2,()) else (getI a0 (0:Int)).bind λx2=>(bif decide ((x2.toBitVec.toNat:Int)=0) then bif decide (1<=(a0.length:Int)) then none else none else some (Qe (a0,(({}:Jj),()),(({err:=(x2.toBitVec.toNat:Int)}:Jj),()),()))).bind (Qh (λj3=>(Zco j3.2.2.1.1).bind λr4=>bif !(decide (r4.2.2.1=0)) then some ((),{},2,()) else (Zib r4.2.1 j3.1).bind λr5=>bif !r5.2.1 then some ((),{},2,()) else some ((),j3.2.2.1.1,0,())) some)
def c224:=cf c223 14 [qg] [qac,qa] (u1 Zcn)
theorem o224:EO c224:=sx o223 (lcA [] [(13,[(0,qg),(2,qh),(4,qh)],false)] []) Tryz.func14 dn
def Zdm:Option (Unit×Bool×Unit):=
 (Zbm {kind:=1}).bind λr1=>(Zco {err:=24}).bind λr2=>(Zcn r2.2.1).bind λr3=>bif decide (r1.2.2.1=0) then bif decide (r2.2.2.1=0) then bif decide (r3.2.2.1=0) then bif decide (r1.2.1=([1,160]:List UInt8)) then bif decide ((r2.2.1.length:Int)=1) then bif decide (r3.2.1.err=24) then (Zfo {}).bind λr4=>some ((),decide (r4.2.1=3),()) else some ((),false,()) else some ((),false,()) else some ((),false,()) else some ((),false,()) else some ((),false,()) else some ((),false,())
def c225:=ct c224 6 [] [qf] λx=>Zdm 
theorem o225:EO c225:=sz o224 Tryz.func6
def Zaf (a0 a1:Int) (a2:BitVec 64):Option (Unit×Bool×Unit):=
 (Zca a0 a1).bind λr1=>bif !(decide (r1.2.1.kind=2)) then bif !(decide (r1.2.1.kind=3)) then (Zho r1.2.1).bind λr2=>(Zcu r1.2.1).bind λr3=>bif decide (r2.2.1=r3.2.1) then Zdm.bind λr4=>some ((),r4.2.1,()) else some ((),false,()) else (Zbt r1.2.1).bind λr5=>bif !(decide (r5.2.1=0)) then (Zho r1.2.1).bind λr6=>(Zcu r1.2.1).bind λr7=>bif decide (r6.2.1=r7.2.1) then Zdm.bind λr8=>some ((),r8.2.1,()) else some ((),false,()) else (Zho {r1.2.1 with auth:=0#64,jk:=false}).bind λr9=>(Zho {r1.2.1 with auth:=a2,jk:=true}).bind λr10=>bif decide (r9.2.1=r10.2.1) then (Zho {r1.2.1 with auth:=0#64,jk:=false}).bind λr11=>(Zcu r1.2.1).bind λr12=>bif decide (r11.2.1=r12.2.1) then Zdm.bind λr13=>some ((),r13.2.1,()) else some ((),false,()) else some ((),false,()) else (Zbt r1.2.1).bind λr14=>bif !(decide (r14.2.1=0)) then (Zho r1.2.1).bind λr15=>(Zcu r1.2.1).bind λr16=>bif decide (r15.2.1=r16.2.1) then Zdm.bind λr17=>some ((),r17.2.1,()) else some ((),false,()) else (Zho {r1.2.1 with auth:=0#64,jk:=false}).bind λr18=>(Zho {r1.2.1 with auth:=a2,jk:=true}).bind λr19=>bif decide (r18.2.1=r19.2.1) then (Zho {r1.2.1 with auth:=0#64,jk:=false}).bind λr20=>(Zcu r1.2.1).bind λr21=>bif decide (r20.2.1=r21.2.1) then Zdm.bind λr22=>some ((),r22.2.1,()) else some ((),false,()) else some ((),false,())
def S_Zaf:FSpec T:=⟨[.f (.v (.int .i64)),.f (.v (.int .i64)),.f (.v .u64)],[(.v .bool)],λx=>Zaf x.1 x.2.1 x.2.2.1⟩
theorem Vdga:SoundT Tryz.prog cd gdn 4 S_Zaf:=
 sndC hmix o225 (lcA [] [] [4]) Tryz.func4 Vai (by kernel_rfl) (by kernel_rfl) λx=>by kernel_rfl
def MessageDigest_dom (a0:Int) (a1:Int) (a2:(BitVec 64)):Prop:=ArgD cd [(.int .i64),(.int .i64),.u64] (a0,a1,a2,())
end Go.Proofs.YtancibcbaajjkaaGreatDoor

/- The functions of the program, as plain functions, and that the program computes them. Written by a program. -/
import Derived.Test.YtaddhgkhilmniaaGreatDoorFns3
set_option linter.unusedVariables false
set_option maxRecDepth 100000
namespace Go.Proofs.YtaddhgkhilmniaaGreatDoor
open Go Go.Abs
open Go.IntKind renaming wrap → Qa, bits → Qk
open _root_.Sum renaming inr → Qb, inl → Qc, elim → Qh
open _root_.UInt8 renaming ofBitVec → Qd
open _root_.BitVec renaming ofInt → Qf, setWidth → Qg
open _root_.List renaming drop → Qi, take → Qj, set → Ql, replicate → Qo
open _root_.Nat renaming ble → Qm
open _root_.Int renaming tdiv → Qn
def Zls (a0:Jaj) (a1:Je):Option (Unit×Jaj×Int×List UInt8×Bool×Unit):=
 (Zmj a1).bind λr1=>bif !r1.2.2.1 then some ((),a0,0,[],false,()) else bif !(decide (r1.2.1.je=a0.je)) then some ((),a0,0,[],false,()) else (bif r1.2.1.first then bif decide (4096 < r1.2.1.length) then bif decide (4096 < r1.2.1.length) then (some ((),a0,(0:Int),[],false,())).bind λq=>some (Qb q) else bif r1.2.1.first then (Zlt [] r1.2.1.data r1.2.1.length).bind λr2=>some (Qc ((a0,()),(a0.je,r1.2.1.jf,r1.2.1.length,r2.2.1,(0:Int),()),())) else bif !(decide (r1.2.1.seq=a0.seq)) then (Zmd a0.je).bind λr3=>(some ((),r3.2.1,(0:Int),[],false,())).bind λq=>some (Qb q) else (Zlt a0.data r1.2.1.data a0.length).bind λr4=>some (Qc ((a0,()),(a0.je,a0.jf,a0.length,r4.2.1,Qa .i64 (a0.seq+1),()),())) else bif !r1.2.1.first then bif decide (a0.length < 0) then (some ((),a0,(0:Int),[],false,())).bind λq=>some (Qb q) else bif r1.2.1.first then (Zlt [] r1.2.1.data r1.2.1.length).bind λr5=>some (Qc ((a0,()),(a0.je,r1.2.1.jf,r1.2.1.length,r5.2.1,(0:Int),()),())) else bif !(decide (r1.2.1.seq=a0.seq)) then (Zmd a0.je).bind λr6=>(some ((),r6.2.1,(0:Int),[],false,())).bind λq=>some (Qb q) else (Zlt a0.data r1.2.1.data a0.length).bind λr7=>some (Qc ((a0,()),(a0.je,a0.jf,a0.length,r7.2.1,Qa .i64 (a0.seq+1),()),())) else bif r1.2.1.first then (Zlt [] r1.2.1.data r1.2.1.length).bind λr8=>some (Qc ((a0,()),(a0.je,r1.2.1.jf,r1.2.1.length,r8.2.1,(0:Int),()),())) else bif !(decide (r1.2.1.seq=a0.seq)) then (Zmd a0.je).bind λr9=>(some ((),r9.2.1,(0:Int),[],false,())).bind λq=>some (Qb q) else (Zlt a0.data r1.2.1.data a0.length).bind λr10=>some (Qc ((a0,()),(a0.je,a0.jf,a0.length,r10.2.1,Qa .i64 (a0.seq+1),()),())) else bif !r1.2.1.first then bif decide (a0.length < 0) then (some ((),a0,(0:Int),[],false,())).bind λq=>some (Qb q) else bif r1.2.1.first then (Zlt [] r1.2.1.data r1.2.1.length).bind λr11=>some (Qc ((a0,()),(a0.je,r1.2.1.jf,r1.2.1.length,r11.2.1,(0:Int),()),())) else bif !(decide (r1.2.1.seq=a0.seq)) then (Zmd a0.je).bind λr12=>(some ((),r12.2.1,(0:Int),[],false,())).bind λq=>some (Qb q) else (Zlt a0.data r1.2.1.data a0.length).bind λr13=>some (Qc ((a0,()),(a0.je,a0.jf,a0.length,r13.2.1,Qa .i64 (a0.seq+1),()),())) else bif r1.2.1.first then (Zlt [] r1.2.1.data r1.2.1.length).bind λr14=>some (Qc ((a0,()),(a0.je,r1.2.1.jf,r1.2.1.length,r14.2.1,(0:Int),()),())) else bif !(decide (r1.2.1.seq=a0.seq)) then (Zmd a0.je).bind λr15=>(some ((),r15.2.1,(0:Int),[],false,())).bind λq=>some (Qb q) else (Zlt a0.data r1.2.1.data a0.length).bind λr16=>some (Qc ((a0,()),(a0.je,a0.jf,a0.length,r16.2.1,Qa .i64 (a0.seq+1),()),()))).bind (Qh (λj17=>bif decide (j17.2.1.2.2.2.1.length < j17.2.1.2.2.1) then some ((),⟨j17.2.1.1,j17.2.1.2.1,j17.2.1.2.2.1,j17.2.1.2.2.2.1,j17.2.1.2.2.2.2.1⟩,0,[],false,()) else (Zmd j17.1.1.je).bind λr18=>some ((),r18.2.1,j17.2.1.2.1,j17.2.1.2.2.2.1,true,())) some)
def c197:=cf c196 85 [(.f qbk),qbt] [qbk,qa,qj,qd] (u2 Zls)
theorem o197:EO c197:=sx o196 (lcA [] [(14,[(2,(.ptr [qbk])),(4,(.ptr [(.v .u32),qa,qa,qj,qa]))],false)] [11,16]) Tryz.func85 dn
def Zlg (a0 a1:List UInt8):O1 Bool:=
 rt (decide (a0=a1))
def c198:=ct c197 144 [qe,qe] [qd] (u2 Zlg)
theorem o198:EO c198:=sz o197 Tryz.func144
def Zkv_L0b (y0:BitVec 32) (y1:List Bool) (y2 y3:Int):Option (((BitVec 32) × (List (Bool)) × Int × Int × Unit)⊕((BitVec 32) × Unit)):=
 bif decide (y3 < y2) then (getI y1 y3).bind λx1=>bif x1 then bif decide (0<=Qa .i64 (y3+1)) then let v2:=y0 ||| 1#32 <<< (Qa .i64 (y3+1)).toNat;some (Qc (v2,y1,y2,Qa .i64 (y3+1),())) else none else some (Qc (y0,y1,y2,Qa .i64 (y3+1),())) else some (Qb (y0,()))
def Zkv_L0:=Yi4 Zkv_L0b
def Zkv (a0:List Bool):O1 (BitVec 32):=
 (Zkv_L0 (0#32,a0,(a0.length:Int),0,())).bind λz3=>rt z3.1
def c199:=ct c198 293 [(.f (.v (.rs 29)))] [(.v .u32)] (u1 Zkv)
def s_Zkv_L0:LSpec T:=⟨[(3,qal),(6,(.f (.v (.rs 29)))),(7,qb),(8,qb)],[(.exit 0,[(3,qal)])],Zkv_L0,[]⟩
def A_Zkv:Loc2 T:=lcA [(0,s_Zkv_L0)] [] []
theorem Vsn:LO c199 Tryz.f293 0 s_Zkv_L0:=lx o198 A_Zkv dn (λ_=>rfl)
theorem o199:EO c199:=sx o198 A_Zkv Tryz.func293 (dc rfl Vsn dn)
def Zkh (a0:Jm):O1 (BitVec 32):=
 bif a0.jas then let v1:List Bool:=[!(decide (a0.rP=([]:List UInt8))),!(decide (a0.user=([]:List UInt8))),!(decide (a0.name=([]:List UInt8))),!(decide (a0.jbl=0#64)),!(decide (a0.jr=0)),!(decide (a0.jag=0)),decide (0 < (a0.list.length:Int)),a0.jw,a0.jbg,a0.jo,a0.jal,!(decide (a0.jm=0)),true,!(decide (a0.jbi=0#64)),decide (0 < (a0.box.length:Int)),decide (0 < (a0.proof.length:Int)),!(decide (a0.jq=0)),decide (0 < (a0.iD.length:Int)),!(decide (a0.count=0))];(Zkv v1).bind λr2=>rt r2.2.1 else let v3:List Bool:=[!(decide (a0.rP=([]:List UInt8))),!(decide (a0.user=([]:List UInt8))),!(decide (a0.name=([]:List UInt8))),!(decide (a0.jbl=0#64)),!(decide (a0.jr=0)),!(decide (a0.jag=0)),decide (0 < (a0.list.length:Int)),a0.jw,a0.jbg,a0.jo,a0.jal,!(decide (a0.jm=0)),!(decide (a0.auth=0#64)),!(decide (a0.jbi=0#64)),decide (0 < (a0.box.length:Int)),decide (0 < (a0.proof.length:Int)),!(decide (a0.jq=0)),decide (0 < (a0.iD.length:Int)),!(decide (a0.count=0))];(Zkv v3).bind λr4=>rt r4.2.1
def c200:=ct c199 197 [qan] [(.v .u32)] (u1 Zkh)
theorem o200:EO c200:=sz o199 Tryz.func197
def Zhq_L0b (y0:List Int) (y1 y2:Int):Option (((List (Int)) × Int × Int × Unit)⊕((Bool × Unit) ⊕ (Unit))):=
 bif decide (y2 < y1) then (getI y0 y2).bind λx1=>bif decide (x1 < 0) then some (Qb (Qc (false,()))) else bif decide (255 < x1) then some (Qb (Qc (false,()))) else some (Qc (y0,y1,Qa .i64 (y2+1),())) else some (Qb (Qb ()))
def Zhq_L0:=Yi3 Zhq_L0b
def Zhq (a0:List Int):O1 Bool:=
 (Zhq_L0 (a0,(a0.length:Int),0,())).bind (Qh (λz2=>rt z2.1) (λz3=>rt true))
def c201:=ct c200 289 [qbo] [qd] (u1 Zhq)
def s_Zhq_L0:LSpec T:=⟨[(5,qbo),(6,qb),(7,qb)],[(.ret,[(2,qm)]),(.exit 0,[])],Zhq_L0,[]⟩
def A_Zhq:Loc2 T:=lcA [(0,s_Zhq_L0)] [] []
theorem Vso:LO c201 Tryz.f289 0 s_Zhq_L0:=lx o200 A_Zhq dn (λ_=>rfl)
theorem o201:EO c201:=sx o200 A_Zhq Tryz.func289 (dc rfl Vso dn)
def Zhp_L1b (y0:Jm×Unit) (y1:BitVec 32) (y2:List (List UInt8)) (y3 y4:Int):Option (((Jm × Unit) × (BitVec 32) × (List (List UInt8)) × Int × Int × Unit)⊕((Int × Unit) ⊕ ((Jm × Unit) × (BitVec 32) × Unit))):=
 bif decide (y4 < y3) then (getI y2 y4).bind λx46=>bif !(decide ((x46.length:Int)=176)) then some (Qb (Qc (4,()))) else some (Qc ((y0.1,()),y1,y2,y3,Qa .i64 (y4+1),())) else some (Qb (Qb ((y0.1,()),y1,())))
def Zhp_L1:=Yi5 Zhp_L1b
def Zhp (a0:Jm):O1 Int:=
 bif decide (a0.kind < 1) then rt 3 else bif decide (14 < a0.kind) then rt 3 else bif decide (0<=a0.kind)&&decide (a0.kind < 15) then [0#32,0#32,15870#32,9874#32,0#32,0#32,0#32,49152#32,114688#32,212994#32,0#32,8192#32,270336#32,811008#32,57344#32][a0.kind.toNat]?.bind λx1=>((Zkh a0).bind λr2=>bif !(decide (r2.2.1&&&~~~x1=0#32)) then bif !(decide (r2.2.1&&&~~~x1=0#32)) then (rt (4:Int)).bind λq=>some (Qb q) else let v3:List Int:=[a0.jr,a0.jag,a0.jm,a0.jq,a0.count];(Zhq v3).bind λr4=>bif !r4.2.1 then (rt (9:Int)).bind λq=>some (Qb q) else bif decide (64 < (a0.rP.length:Int)) then bif decide (64 < (a0.rP.length:Int)) then (rt (8:Int)).bind λq=>some (Qb q) else (Zit a0.rP).bind λr5=>bif !r5.2.1 then bif !r5.2.1 then (rt (6:Int)).bind λq=>some (Qb q) else some (Qc ((a0,()),x1,())) else (Zit a0.name).bind λr6=>bif !r6.2.1 then (rt (6:Int)).bind λq=>some (Qb q) else some (Qc ((a0,()),x1,())) else bif decide (16 < (a0.user.length:Int)) then bif decide (16 < (a0.user.length:Int)) then (rt (8:Int)).bind λq=>some (Qb q) else (Zit a0.rP).bind λr7=>bif !r7.2.1 then bif !r7.2.1 then (rt (6:Int)).bind λq=>some (Qb q) else some (Qc ((a0,()),x1,())) else (Zit a0.name).bind λr8=>bif !r8.2.1 then (rt (6:Int)).bind λq=>some (Qb q) else some (Qc ((a0,()),x1,())) else bif decide (32 < (a0.name.length:Int)) then bif decide (32 < (a0.name.length:Int)) then (rt (8:Int)).bind λq=>some (Qb q) else (Zit a0.rP).bind λr9=>bif !r9.2.1 then bif !r9.2.1 then (rt (6:Int)).bind λq=>some (Qb q) else some (Qc ((a0,()),x1,())) else (Zit a0.name).bind λr10=>bif !r10.2.1 then (rt (6:Int)).bind λq=>some (Qb q) else some (Qc ((a0,()),x1,())) else bif decide (8 < (a0.list.length:Int)) then bif decide (8 < (a0.list.length:Int)) then (rt (8:Int)).bind λq=>some (Qb q) else (Zit a0.rP).bind λr11=>bif !r11.2.1 then bif !r11.2.1 then (rt (6:Int)).bind λq=>some (Qb q) else some (Qc ((a0,()),x1,())) else (Zit a0.name).bind λr12=>bif !r12.2.1 then (rt (6:Int)).bind λq=>some (Qb q) else some (Qc ((a0,()),x1,())) else bif decide (1024 < (a0.box.length:Int)) then bif decide (1024 < (a0.box.length:Int)) then (rt (8:Int)).bind λq=>some (Qb q) else (Zit a0.rP).bind λr13=>bif !r13.2.1 then bif !r13.2.1 then (rt (6:Int)).bind λq=>some (Qb q) else some (Qc ((a0,()),x1,())) else (Zit a0.name).bind λr14=>bif !r14.2.1 then (rt (6:Int)).bind λq=>some (Qb q) else some (Qc ((a0,()),x1,())) else bif decide (1024 < (a0.proof.length:Int)) then (rt (8:Int)).bind λq=>some (Qb q) else (Zit a0.rP).bind λr15=>bif !r15.2.1 then bif !r15.2.1 then (rt (6:Int)).bind λq=>some (Qb q) else some (Qc ((a0,()),x1,())) else (Zit a0.name).bind λr16=>bif !r16.2.1 then (rt (6:Int)).bind λq=>some (Qb q) else some (Qc ((a0,()),x1,())) else bif !(decide (a0.auth=0#64)) then bif !a0.jas then (rt (4:Int)).bind λq=>some (Qb q) else let v17:List Int:=[a0.jr,a0.jag,a0.jm,a0.jq,a0.count];(Zhq v17).bind λr18=>bif !r18.2.1 then (rt (9:Int)).bind λq=>some (Qb q) else bif decide (64 < (a0.rP.length:Int)) then bif decide (64 < (a0.rP.length:Int)) then (rt (8:Int)).bind λq=>some (Qb q) else (Zit a0.rP).bind λr19=>bif !r19.2.1 then bif !r19.2.1 then (rt (6:Int)).bind λq=>some (Qb q) else some (Qc ((a0,()),x1,())) else (Zit a0.name).bind λr20=>bif !r20.2.1 then (rt (6:Int)).bind λq=>some (Qb q) else some (Qc ((a0,()),x1,())) else bif decide (16 < (a0.user.length:Int)) then bif decide (16 < (a0.user.length:Int)) then (rt (8:Int)).bind λq=>some (Qb q) else (Zit a0.rP).bind λr21=>bif !r21.2.1 then bif !r21.2.1 then (rt (6:Int)).bind λq=>some (Qb q) else some (Qc ((a0,()),x1,())) else (Zit a0.name).bind λr22=>bif !r22.2.1 then (rt (6:Int)).bind λq=>some (Qb q) else some (Qc ((a0,()),x1,())) else bif decide (32 < (a0.name.length:Int)) then bif decide (32 < (a0.name.length:Int)) then (rt (8:Int)).bind λq=>some (Qb q) else (Zit a0.rP).bind λr23=>bif !r23.2.1 then bif !r23.2.1 then (rt (6:Int)).bind λq=>some (Qb q) else some (Qc ((a0,()),x1,())) else (Zit a0.name).bind λr24=>bif !r24.2.1 then (rt (6:Int)).bind λq=>some (Qb q) else some (Qc ((a0,()),x1,())) else bif decide (8 < (a0.list.length:Int)) then bif decide (8 < (a0.list.length:Int)) then (rt (8:Int)).bind λq=>some (Qb q) else (Zit a0.rP).bind λr25=>bif !r25.2.1 then bif !r25.2.1 then (rt (6:Int)).bind λq=>some (Qb q) else some (Qc ((a0,()),x1,())) else (Zit a0.name).bind λr26=>bif !r26.2.1 then (rt (6:Int)).bind λq=>some (Qb q) else some (Qc ((a0,()),x1,())) else bif decide (1024 < (a0.box.length:Int)) then bif decide (1024 < (a0.box.length:Int)) then (rt (8:Int)).bind λq=>some (Qb q) else (Zit a0.rP).bind λr27=>bif !r27.2.1 then bif !r27.2.1 then (rt (6:Int)).bind λq=>some (Qb q) else some (Qc ((a0,()),x1,())) else (Zit a0.name).bind λr28=>bif !r28.2.1 then (rt (6:Int)).bind λq=>some (Qb q) else some (Qc ((a0,()),x1,())) else bif decide (1024 < (a0.proof.length:Int)) then (rt (8:Int)).bind λq=>some (Qb q) else (Zit a0.rP).bind λr29=>bif !r29.2.1 then bif !r29.2.1 then (rt (6:Int)).bind λq=>some (Qb q) else some (Qc ((a0,()),x1,())) else (Zit a0.name).bind λr30=>bif !r30.2.1 then (rt (6:Int)).bind λq=>some (Qb q) else some (Qc ((a0,()),x1,())) else let v31:List Int:=[a0.jr,a0.jag,a0.jm,a0.jq,a0.count];(Zhq v31).bind λr32=>bif !r32.2.1 then (rt (9:Int)).bind λq=>some (Qb q) else bif decide (64 < (a0.rP.length:Int)) then bif decide (64 < (a0.rP.length:Int)) then (rt (8:Int)).bind λq=>some (Qb q) else (Zit a0.rP).bind λr33=>bif !r33.2.1 then bif !r33.2.1 then (rt (6:Int)).bind λq=>some (Qb q) else some (Qc ((a0,()),x1,())) else (Zit a0.name).bind λr34=>bif !r34.2.1 then (rt (6:Int)).bind λq=>some (Qb q) else some (Qc ((a0,()),x1,())) else bif decide (16 < (a0.user.length:Int)) then bif decide (16 < (a0.user.length:Int)) then (rt (8:Int)).bind λq=>some (Qb q) else (Zit a0.rP).bind λr35=>bif !r35.2.1 then bif !r35.2.1 then (rt (6:Int)).bind λq=>some (Qb q) else some (Qc ((a0,()),x1,())) else (Zit a0.name).bind λr36=>bif !r36.2.1 then (rt (6:Int)).bind λq=>some (Qb q) else some (Qc ((a0,()),x1,())) else bif decide (32 < (a0.name.length:Int)) then bif decide (32 < (a0.name.length:Int)) then (rt (8:Int)).bind λq=>some (Qb q) else (Zit a0.rP).bind λr37=>bif !r37.2.1 then bif !r37.2.1 then (rt (6:Int)).bind λq=>some (Qb q) else some (Qc ((a0,()),x1,())) else (Zit a0.name).bind λr38=>bif !r38.2.1 then (rt (6:Int)).bind λq=>some (Qb q) else some (Qc ((a0,()),x1,())) else bif decide (8 < (a0.list.length:Int)) then bif decide (8 < (a0.list.length:Int)) then (rt (8:Int)).bind λq=>some (Qb q) else (Zit a0.rP).bind λr39=>bif !r39.2.1 then bif !r39.2.1 then (rt (6:Int)).bind λq=>some (Qb q) else some (Qc ((a0,()),x1,())) else (Zit a0.name).bind λr40=>bif !r40.2.1 then (rt (6:Int)).bind λq=>some (Qb q) else some (Qc ((a0,()),x1,())) else bif decide (1024 < (a0.box.length:Int)) then bif decide (1024 < (a0.box.length:Int)) then (rt (8:Int)).bind λq=>some (Qb q) else (Zit a0.rP).bind λr41=>bif !r41.2.1 then bif !r41.2.1 then (rt (6:Int)).bind λq=>some (Qb q) else some (Qc ((a0,()),x1,())) else (Zit a0.name).bind λr42=>bif !r42.2.1 then (rt (6:Int)).bind λq=>some (Qb q) else some (Qc ((a0,()),x1,())) else bif decide (1024 < (a0.proof.length:Int)) then (rt (8:Int)).bind λq=>some (Qb q) else (Zit a0.rP).bind λr43=>bif !r43.2.1 then bif !r43.2.1 then (rt (6:Int)).bind λq=>some (Qb q) else some (Qc ((a0,()),x1,())) else (Zit a0.name).bind λr44=>bif !r44.2.1 then (rt (6:Int)).bind λq=>some (Qb q) else some (Qc ((a0,()),x1,()))).bind (Qh (λj45=>(Zhp_L1 ((j45.1.1,()),j45.2.1,j45.1.1.list,(j45.1.1.list.length:Int),0,())).bind (Qh (λz47=>rt z47.1) (λz48=>bif !(decide (z48.2.1&&&262144#32=0#32)) then bif !(decide ((z48.1.1.iD.length:Int)=176)) then rt 4 else rt 0 else rt 0))) some) else none
def c202:=ct c201 195 [qan] [qa] (u1 Zhp)
def s_Zhp_L1:LSpec T:=⟨[(1,qo),(3,qal),(81,qa3),(82,qb),(83,qb)],[(.ret,[(2,qb)]),(.exit 1,[(1,qo),(3,qal)])],Zhp_L1,[]⟩
def A_Zhp:Loc2 T:=lcA [(1,s_Zhp_L1)] [(19,[(1,qo),(3,qal)],false)] []
theorem Vsp:LO c202 Tryz.f195 1 s_Zhp_L1:=lx o201 A_Zhp dn (λ_=>rfl)
theorem o202:EO c202:=sx o201 A_Zhp Tryz.func195 (dc rfl Vsp dn)
def Zmg (a0:List UInt8):O1 (List Ja):=
 rt [⟨4,0#64,a0⟩]
def c203:=cf c202 198 [qg] [qx] (u1 Zmg)
theorem o203:EO c203:=sz o202 Tryz.func198
def Zlw (a0:List UInt8):O1 (List Ja):=
 rt [⟨3,0#64,a0⟩]
def c204:=cf c203 199 [qe] [qx] (u1 Zlw)
theorem o204:EO c204:=sz o203 Tryz.func199
def Zmh (a0:BitVec 64):O1 (List Ja):=
 let v1:List Ja:=[⟨1,a0,[]⟩];rt v1
def c205:=cf c204 200 [qf] [qx] (u1 Zmh)
theorem o205:EO c205:=sz o204 Tryz.func200
def Zjt (a0:Jak):O1 Bool:=
 bif decide (0 < a0.count) then rt (decide ((a0.jba.length:Int)=0)) else rt false
def c206:=ct c205 231 [qb1] [qd] (u1 Zjt)
theorem o206:EO c206:=sz o205 Tryz.func231
def Ziy (a0:Jak):O1 Bool:=
 bif decide (0 < (a0.jba.length:Int)) then (getI a0.jba (Qa .i64 ((a0.jba.length:Int) - 1))).bind λx1=>bif x1.jaz then (getI a0.jba (Qa .i64 ((a0.jba.length:Int) - 1))).bind λx2=>rt (decide (Int.tmod x2.left 2=0)) else rt false else rt false
def c207:=ct c206 426 [qb1] [qd] (u1 Ziy)
theorem o207:EO c207:=sz o206 Tryz.func426
def Zix (a0:Jak) (a1:Int):O1 Int:=
 bif decide (512<=a0.count) then rt 8 else bif decide (a1 < 1) then rt 3 else bif decide (8 < a1) then rt 3 else (Ziy a0).bind λr1=>bif r1.2.1 then bif !(decide (a1=1)) then bif !(decide (a1=2)) then bif !(decide (a1=4)) then rt 3 else bif decide (8 < (a0.jba.length:Int)) then rt 5 else rt 0 else bif decide (8 < (a0.jba.length:Int)) then rt 5 else rt 0 else bif decide (8 < (a0.jba.length:Int)) then rt 5 else rt 0 else bif decide (8 < (a0.jba.length:Int)) then rt 5 else rt 0
def c208:=ct c207 355 [qb1,qb] [qa] (u2 Zix)
theorem o208:EO c208:=sz o207 Tryz.func355
def Zll (a0:Ja):O1 Bool:=
 bif decide (a0.kind=3) then bif decide (a0.kind=3) then rt (decide (a0.number=0#64)) else bif decide (a0.kind=8) then bif decide (a0.number=0#64) then rt (decide (a0.data=([]:List UInt8))) else rt false else bif decide (a0.kind=7) then bif decide (a0.number.toNat<=(1#64).toNat) then rt (decide (a0.data=([]:List UInt8))) else rt false else rt (decide (a0.data=([]:List UInt8))) else bif decide (a0.kind=4) then rt (decide (a0.number=0#64)) else bif decide (a0.kind=8) then bif decide (a0.number=0#64) then rt (decide (a0.data=([]:List UInt8))) else rt false else bif decide (a0.kind=7) then bif decide (a0.number.toNat<=(1#64).toNat) then rt (decide (a0.data=([]:List UInt8))) else rt false else rt (decide (a0.data=([]:List UInt8)))
def c209:=ct c208 473 [qb7] [qd] (u1 Zll)
theorem o209:EO c209:=sz o208 Tryz.func473
def Ziv_L1b (y0:List UInt8) (y1:BitVec 64) (y2:Int):Option (((List (UInt8)) × (BitVec 64) × Int × Unit)⊕((List (UInt8)) × Unit)):=
 bif decide (0<=y2) then bif decide (0<=Qa .i64 (8*y2)) then let v7:=Qd (Qg 8 (y1>>>(Qa .i64 (8*y2)).toNat));bif small (y0.length+([v7]).length) 1 then some (Qc (y0++[v7],y1,Qa .i64 (y2 - 1),())) else none else none else some (Qb (y0,()))
def Ziv_L1:=Yi3 Ziv_L1b
def Ziv (a0:List UInt8) (a1:UInt8) (a2:BitVec 64):O1 (List UInt8):=
 (bif decide (a2.toNat < (24#64).toNat) then let v1:=Qd ((Qd (a1.toBitVec <<< 5)).toBitVec+(Qd (Qg 8 a2)).toBitVec);bif small (a0.length+([v1]).length) 1 then (rt (a0++[v1])).bind λq=>some (Qb q) else none else bif decide (a2.toNat < (256#64).toNat) then let v2:=Qd ((Qd (a1.toBitVec <<< 5)).toBitVec+(24:UInt8).toBitVec);some (Qc (a0,a2,v2,(1:Int),())) else bif decide (a2.toNat < (65536#64).toNat) then let v3:=Qd ((Qd (a1.toBitVec <<< 5)).toBitVec+(25:UInt8).toBitVec);some (Qc (a0,a2,v3,(2:Int),())) else bif decide (a2.toNat < (4294967296#64).toNat) then let v4:=Qd ((Qd (a1.toBitVec <<< 5)).toBitVec+(26:UInt8).toBitVec);some (Qc (a0,a2,v4,(4:Int),())) else let v5:=Qd ((Qd (a1.toBitVec <<< 5)).toBitVec+(27:UInt8).toBitVec);some (Qc (a0,a2,v5,(8:Int),()))).bind (Qh (λj6=>bif small (j6.1.length+([j6.2.2.1]).length) 1 then (Ziv_L1 (j6.1++[j6.2.2.1],j6.2.1,Qa .i64 (j6.2.2.2.1 - 1),())).bind λz8=>rt z8.1 else none) some)
def c210:=cf c209 452 [qao,qa0,qf] [qj] (u3 Ziv)
def s_Ziv_L1:LSpec T:=⟨[(0,qao),(2,qf),(9,qb)],[(.exit 1,[(0,qao)])],Ziv_L1,[]⟩
def A_Ziv:Loc2 T:=lcA [(1,s_Ziv_L1)] [(12,[(0,qao),(2,qf),(7,qa0),(8,qb)],false)] []
theorem Vsq:LO c210 Tryz.f452 1 s_Ziv_L1:=lx o209 A_Ziv dn (λ_=>rfl)
theorem o210:EO c210:=sx o209 A_Ziv Tryz.func452 (dc rfl Vsq dn)
def Ziw (a0:List UInt8) (a1:Ja):O1 (List UInt8):=
 bif decide (a1.kind=7) then let v1:=Qd ((244:UInt8).toBitVec+(Qd (Qg 8 a1.number)).toBitVec);bif small (a0.length+([v1]).length) 1 then rt (a0++[v1]) else none else bif decide (a1.kind=8) then bif small (a0.length+([246]:List UInt8).length) 1 then rt (a0++[246]) else none else bif decide (a1.kind=3) then bif decide (a1.kind=3) then let v2:=Qd (Qf 8 (Qa .i64 (a1.kind - 1)));(Ziv a0 v2 (Qf 64 (a1.data.length:Int))).bind λr3=>bif small (r3.2.1.length+(a1.data:List UInt8).length) 1 then rt (r3.2.1++a1.data) else none else let v4:=Qd (Qf 8 (Qa .i64 (a1.kind - 1)));(Ziv a0 v4 a1.number).bind λr5=>rt r5.2.1 else bif decide (a1.kind=4) then let v6:=Qd (Qf 8 (Qa .i64 (a1.kind - 1)));(Ziv a0 v6 (Qf 64 (a1.data.length:Int))).bind λr7=>bif small (r7.2.1.length+(a1.data:List UInt8).length) 1 then rt (r7.2.1++a1.data) else none else let v8:=Qd (Qf 8 (Qa .i64 (a1.kind - 1)));(Ziv a0 v8 a1.number).bind λr9=>rt r9.2.1
def c211:=cf c210 403 [qao,qb7] [qj] (u2 Ziw)
theorem o211:EO c211:=sz o210 Tryz.func403
def c212:List (Ct T):=⟨457,none,S_Zka,true⟩::c211
theorem o212:EnvOk Tryz.prog (mE c212):=eCons Vbta o211
def Zkr (a0 a1:List UInt8):O1 Bool:=
 bif !(decide ((a0.length:Int)=(a1.length:Int))) then rt (decide ((a0.length:Int) < (a1.length:Int))) else (Zka a0 a1).bind λr1=>rt (decide (r1.2.1 < 0))
def c213:=ct c212 427 [qe,qe] [qd] (u2 Zkr)
theorem o213:EO c213:=sz o212 Tryz.func427
def Zju_L0b (y0:List Jh×Int×Unit) (y1:Int):Option ((((List (Jh)) × Int × Unit) × Int × Unit)⊕(((List (Jh)) × Int × Unit) × Unit)):=
 bif decide (0 < y1) then bif decide (0<=Qa .i64 (y1 - 1))&&decide (Qa .i64 (y1 - 1) < y0.1.length) then y0.1[(Qa .i64 (y1 - 1)).toNat]?.bind λx10=>bif decide (x10.left=0) then bif decide (0<=Qa .i64 (y1 - 1))&&decide (Qa .i64 (y1 - 1)<=y0.1.length) then bif decide ((Qa .i64 (y1 - 1)).toNat<=y0.1.length) then some (Qc ((Qj (Qa .i64 (y1 - 1)).toNat y0.1,y0.2.1,()),Qa .i64 (y1 - 1),())) else none else none else some (Qb ((y0.1,y0.2.1,()),())) else none else some (Qb ((y0.1,y0.2.1,()),()))
def Zju_L0:=Yi2 Zju_L0b
def Zju (a0:List Jh×Int×Unit) (a1:Ja):Option (((List Jh×Int×Unit)×Unit)×Unit):=
 (bif decide (0 < (a0.1.length:Int)) then bif decide (0<=Qa .i64 ((a0.1.length:Int) - 1))&&decide (Qa .i64 ((a0.1.length:Int) - 1) < a0.1.length) then a0.1[(Qa .i64 ((a0.1.length:Int) - 1)).toNat]?.bind λx1=>bif decide (0<=Qa .i64 ((a0.1.length:Int) - 1))&&decide (Qa .i64 ((a0.1.length:Int) - 1) < a0.1.length) then a0.1[(Qa .i64 ((a0.1.length:Int) - 1)).toNat]?.bind λx2=>let v3:=Ql a0.1 (Qa .i64 ((a0.1.length:Int) - 1)).toNat ({x2 with left:=Qa .i64 (x1.left - 1)}:Jh);some ((v3,Qa .i64 (a0.2.1+1),()),(a1,()),()) else none else none else some ((a0.1,Qa .i64 (a0.2.1+1),()),(a1,()),())).bind λj4=>(bif decide (j4.2.1.1.kind=5) then bif decide ((0#64).toNat < j4.2.1.1.number.toNat) then let v5:List Jh:=[{left:=Qa .i64 (j4.2.1.1.number.toNat:Int)}];bif small (j4.1.1.length+(v5:List Jh).length) 40 then some ((j4.1.1++v5,j4.1.2.1,()),(j4.2.1.1,()),()) else none else some ((j4.1.1,j4.1.2.1,()),(j4.2.1.1,()),()) else some ((j4.1.1,j4.1.2.1,()),(j4.2.1.1,()),())).bind λj6=>(bif decide (j6.2.1.1.kind=6) then bif decide ((0#64).toNat < j6.2.1.1.number.toNat) then let v7:=Qa .i64 (2*Qa .i64 (j6.2.1.1.number.toNat:Int));bif small (j6.1.1.length+([⟨true,v7,[]⟩]:List Jh).length) 40 then let v8:=j6.1.1++[⟨true,v7,[]⟩];some ((v8,j6.1.2.1,()),()) else none else some ((j6.1.1,j6.1.2.1,()),()) else some ((j6.1.1,j6.1.2.1,()),())).bind λj9=>(Zju_L0 ((j9.1.1,j9.1.2.1,()),(j9.1.1.length:Int),())).bind λz11=>some (((z11.1.1,z11.1.2.1,()),()),())
def c214:=cf c213 428 [qak,qb7] [] (u2 Zju)
def s_Zju_L0:LSpec T:=⟨[(0,qak),(5,qb)],[(.exit 0,[(0,qak)])],Zju_L0,[]⟩
def A_Zju:Loc2 T:=lcA [(0,s_Zju_L0)] [(5,[(0,qak),(3,qbb)],true),(7,[(0,qak),(3,qbb)],true),(9,[(0,qak)],true)] [6,8]
theorem Vsr:LO c214 Tryz.f428 0 s_Zju_L0:=lx o213 A_Zju dn (λ_=>rfl)
theorem o214:EO c214:=sx o213 A_Zju Tryz.func428 (dc rfl Vsr dn)
def Zhl (a0:List Jh×Int×Unit) (a1:Ja):Option (((List Jh×Int×Unit)×Unit)×Int×Unit):=
 bif decide (a1.kind=4) then (Zit a1.data).bind λr1=>bif !r1.2.1 then some (((a0.1,a0.2.1,()),()),6,()) else (Ziy ⟨a0.1,a0.2.1⟩).bind λr2=>bif r2.2.1 then bif decide (0<=Qa .i64 ((a0.1.length:Int) - 1))&&decide (Qa .i64 ((a0.1.length:Int) - 1) < a0.1.length) then (Ziw [] a1).bind λr3=>a0.1[(Qa .i64 ((a0.1.length:Int) - 1)).toNat]?.bind λx4=>bif !x4.jax.isEmpty then a0.1[(Qa .i64 ((a0.1.length:Int) - 1)).toNat]?.bind λx5=>(Zkr x5.jax r3.2.1).bind λr6=>bif !r6.2.1 then some (((a0.1,a0.2.1,()),()),7,()) else a0.1[(Qa .i64 ((a0.1.length:Int) - 1)).toNat]?.bind λx7=>bif r3.2.1.isEmpty then none else let v8:=Ql a0.1 (Qa .i64 ((a0.1.length:Int) - 1)).toNat ({x7 with jax:=r3.2.1}:Jh);(Zju (v8,a0.2.1,()) a1).bind λr9=>some (((r9.1.1.1,r9.1.1.2.1,()),()),0,()) else a0.1[(Qa .i64 ((a0.1.length:Int) - 1)).toNat]?.bind λx10=>bif r3.2.1.isEmpty then none else let v11:=Ql a0.1 (Qa .i64 ((a0.1.length:Int) - 1)).toNat ({x10 with jax:=r3.2.1}:Jh);(Zju (v11,a0.2.1,()) a1).bind λr12=>some (((r12.1.1.1,r12.1.1.2.1,()),()),0,()) else none else (Zju (a0.1,a0.2.1,()) a1).bind λr13=>some (((r13.1.1.1,r13.1.1.2.1,()),()),0,()) else (Ziy ⟨a0.1,a0.2.1⟩).bind λr14=>bif r14.2.1 then bif decide (0<=Qa .i64 ((a0.1.length:Int) - 1))&&decide (Qa .i64 ((a0.1.length:Int) - 1) < a0.1.length) then (Ziw [] a1).bind λr15=>a0.1[(Qa .i64 ((a0.1.length:Int) - 1)).toNat]?.bind λx16=>bif !x16.jax.isEmpty then a0.1[(Qa .i64 ((a0.1.length:Int) - 1)).toNat]?.bind λx17=>(Zkr x17.jax r15.2.1).bind λr18=>bif !r18.2.1 then some (((a0.1,a0.2.1,()),()),7,()) else a0.1[(Qa .i64 ((a0.1.length:Int) - 1)).toNat]?.bind λx19=>bif r15.2.1.isEmpty then none else let v20:=Ql a0.1 (Qa .i64 ((a0.1.length:Int) - 1)).toNat ({x19 with jax:=r15.2.1}:Jh);(Zju (v20,a0.2.1,()) a1).bind λr21=>some (((r21.1.1.1,r21.1.1.2.1,()),()),0,()) else a0.1[(Qa .i64 ((a0.1.length:Int) - 1)).toNat]?.bind λx22=>bif r15.2.1.isEmpty then none else let v23:=Ql a0.1 (Qa .i64 ((a0.1.length:Int) - 1)).toNat ({x22 with jax:=r15.2.1}:Jh);(Zju (v23,a0.2.1,()) a1).bind λr24=>some (((r24.1.1.1,r24.1.1.2.1,()),()),0,()) else none else (Zju (a0.1,a0.2.1,()) a1).bind λr25=>some (((r25.1.1.1,r25.1.1.2.1,()),()),0,())
def c215:=cf c214 356 [qak,qb7] [qa] (u2 Zhl)
theorem o215:EO c215:=sz o214 Tryz.func356
def Zgb (a0:List Jh×Int×Unit) (a1:Ja):Option (((List Jh×Int×Unit)×Unit)×Int×Unit):=
 (Zjt ⟨a0.1,a0.2.1⟩).bind λr1=>bif r1.2.1 then some (((a0.1,a0.2.1,()),()),2,()) else (Zix ⟨a0.1,a0.2.1⟩ a1.kind).bind λr2=>bif !(decide (r2.2.1=0)) then some (((a0.1,a0.2.1,()),()),r2.2.1,()) else (Zll a1).bind λr3=>bif !r3.2.1 then some (((a0.1,a0.2.1,()),()),4,()) else bif decide (1024 < (a1.data.length:Int)) then some (((a0.1,a0.2.1,()),()),8,()) else bif decide (a1.kind=5) then bif decide ((512#64).toNat < a1.number.toNat) then some (((a0.1,a0.2.1,()),()),8,()) else (Zhl (a0.1,a0.2.1,()) a1).bind λr4=>some (((r4.1.1.1,r4.1.1.2.1,()),()),r4.2.1,()) else bif decide (a1.kind=6) then bif decide ((512#64).toNat < a1.number.toNat) then some (((a0.1,a0.2.1,()),()),8,()) else (Zhl (a0.1,a0.2.1,()) a1).bind λr5=>some (((r5.1.1.1,r5.1.1.2.1,()),()),r5.2.1,()) else (Zhl (a0.1,a0.2.1,()) a1).bind λr6=>some (((r6.1.1.1,r6.1.1.2.1,()),()),r6.2.1,())
def c216:=cf c215 451 [qak,qb7] [qa] (u2 Zgb)
theorem o216:EO c216:=sz o215 Tryz.func451
def Zkb_L0b (y0:List Jh×Int×Unit) (y1:List Ja) (y2 y3:Int):Option ((((List (Jh)) × Int × Unit) × (List (Ja)) × Int × Int × Unit)⊕((Int × Unit) ⊕ (((List (Jh)) × Int × Unit) × Unit))):=
 bif decide (y3 < y2) then (getI y1 y3).bind λx1=>(Zgb (y0.1,y0.2.1,()) x1).bind λr2=>bif !(decide (r2.2.1=0)) then some (Qb (Qc (r2.2.1,()))) else some (Qc ((r2.1.1.1,r2.1.1.2.1,()),y1,y2,Qa .i64 (y3+1),())) else some (Qb (Qb ((y0.1,y0.2.1,()),())))
def Zkb_L0:=Yi4 Zkb_L0b
def Zkb (a0:List Ja):O1 Int:=
 (Zkb_L0 (([],0,()),a0,(a0.length:Int),0,())).bind (Qh (λz3=>rt z3.1) (λz4=>(Zjt ⟨z4.1.1,z4.1.2.1⟩).bind λr5=>bif !r5.2.1 then rt 1 else rt 0))
def S_Zkb:FSpec T:=⟨[qn],[qa],λx=>Zkb x.1⟩
def s_Zkb_L0:LSpec T:=⟨[(3,qak),(7,qn),(8,qb),(9,qb)],[(.ret,[(2,qb)]),(.exit 0,[(3,qak)])],Zkb_L0,[]⟩
def A_Zkb:Loc2 T:=lcA [(0,s_Zkb_L0)] [] []
theorem Vss:LoopOk Tryz.prog (mE c216) Tryz.f402.ntmps (kqOf S_Zkb.ps 0) (loopAt 0 (bodyOf Tryz.f402)) s_Zkb_L0:=
 lpC hmix o216 A_Zkb Vaa 0 (st:=λy=>Zkb_L0b y.1 y.2.1 y.2.2.1 y.2.2.2.1) (λ_=>rfl) (by kernel_rfl) (by kernel_rfl) λx=>by kernel_rfl
theorem Vyo:SoundT Tryz.prog cd gdn 402 S_Zkb:=
 sndC hmix o216 A_Zkb Tryz.func402 (Vah rfl Vss Vaa) (by kernel_rfl) (by kernel_rfl) λx=>by kernel_rfl
def c217:List (Ct T):=⟨402,none,S_Zkb,true⟩::c216
theorem o217:EnvOk Tryz.prog (mE c217):=eCons Vyo o216
def Zlk_L0b (y0:List (List Ja)) (y1 y2:Int):Option (((List (List Ja)) × Int × Int × Unit)⊕((Int × Unit) ⊕ (Unit))):=
 bif decide (y2 < y1) then (getI y0 y2).bind λx1=>(Zkb x1).bind λr2=>bif !(decide (r2.2.1=0)) then some (Qb (Qc (r2.2.1,()))) else some (Qc (y0,y1,Qa .i64 (y2+1),())) else some (Qb (Qb ()))
def Zlk_L0:=Yi3 Zlk_L0b
def Zlk (a0:List (List Ja)):O1 Int:=
 (Zlk_L0 (a0,(a0.length:Int),0,())).bind (Qh (λz3=>rt z3.1) (λz4=>rt 0))
def c218:=ct c217 400 [qai] [qa] (u1 Zlk)
def s_Zlk_L0:LSpec T:=⟨[(6,qai),(7,qb),(8,qb)],[(.ret,[(2,qb)]),(.exit 0,[])],Zlk_L0,[]⟩
def A_Zlk:Loc2 T:=lcA [(0,s_Zlk_L0)] [] []
theorem Vst:LO c218 Tryz.f400 0 s_Zlk_L0:=lx o217 A_Zlk dn (λ_=>rfl)
theorem o218:EO c218:=sx o217 A_Zlk Tryz.func400 (dc rfl Vst dn)
def Zkq (a0:List Ja):O2 (List Ja) Int:=
 (Zkb a0).bind λr1=>bif !(decide (r1.2.1=0)) then ru [] r1.2.1 else ru a0 0
def c219:=cf c218 401 [qn] [qbu,qa] (u1 Zkq)
theorem o219:EO c219:=sz o218 Tryz.func401
def Zlv_L0b (y0:List Ja) (y1:List (List Ja)) (y2 y3:Int):Option (((List (Ja)) × (List (List Ja)) × Int × Int × Unit)⊕((List (Ja)) × Unit)):=
 bif decide (y3 < y2) then (getI y1 y3).bind λx3=>bif decide (512 < (y0.length:Int)) then some (Qb (y0,())) else bif small (y0.length+(x3:List Ja).length) 32 then some (Qc (y0++x3,y1,y2,Qa .i64 (y3+1),())) else none else some (Qb (y0,()))
def Zlv_L0:=Yi4 Zlv_L0b
def Zlv (a0:List (List Ja)):O2 (List Ja) Int:=
 (Zlk a0).bind λr1=>bif !(decide (r1.2.1=0)) then ru [] r1.2.1 else let v2:List Ja:=[⟨5,Qf 64 (a0.length:Int),[]⟩];(Zlv_L0 (v2,a0,(a0.length:Int),0,())).bind λz4=>(Zkq z4.1).bind λr5=>ru r5.2.1 r5.2.2.1
def c220:=cf c219 404 [qai] [qbu,qa] (u1 Zlv)
def s_Zlv_L0:LSpec T:=⟨[(5,qbn),(18,qai),(19,qb),(20,qb)],[(.exit 0,[(5,qbn)])],Zlv_L0,[]⟩
def A_Zlv:Loc2 T:=lcA [(0,s_Zlv_L0)] [] []
theorem Vsu:LO c220 Tryz.f404 0 s_Zlv_L0:=lx o219 A_Zlv dn (λ_=>rfl)
theorem o220:EO c220:=sx o219 A_Zlv Tryz.func404 (dc rfl Vsu dn)
def Zkg (a0:List (List Ja)):O1 (List Ja):=
 (Zlv a0).bind λr1=>bif !(decide (r1.2.2.1=0)) then rt [] else rt r1.2.1
def c221:=cf c220 294 [qai] [qbu] (u1 Zkg)
theorem o221:EO c221:=sz o220 Tryz.func294
def Zjf_L0b (y0:List (List Ja)) (y1:List (List UInt8)) (y2 y3:Int):Option (((List (List Ja)) × (List (List UInt8)) × Int × Int × Unit)⊕((List (List Ja)) × Unit)):=
 bif decide (y3 < y2) then (getI y1 y3).bind λx1=>(Zlw x1).bind λr2=>bif small (y0.length+([r2.2.1]).length) 24 then some (Qc (y0++[r2.2.1],y1,y2,Qa .i64 (y3+1),())) else none else some (Qb (y0,()))
def Zjf_L0:=Yi4 Zjf_L0b
def Zjf (a0:List (List UInt8)):O1 (List Ja):=
 (Zjf_L0 ([],a0,(a0.length:Int),0,())).bind λz3=>(Zkg z3.1).bind λr4=>rt r4.2.1
def c222:=cf c221 201 [qa3] [qbu] (u1 Zjf)
def s_Zjf_L0:LSpec T:=⟨[(3,qa2),(6,qa3),(7,qb),(8,qb)],[(.exit 0,[(3,qa2)])],Zjf_L0,[]⟩
def A_Zjf:Loc2 T:=lcA [(0,s_Zjf_L0)] [] []
theorem Vsv:LO c222 Tryz.f201 0 s_Zjf_L0:=lx o221 A_Zjf dn (λ_=>rfl)
theorem o222:EO c222:=sx o221 A_Zjf Tryz.func201 (dc rfl Vsv dn)
def Zme (a0:Bool):O1 (List Ja):=
 bif a0 then let v1:List Ja:=[⟨7,1#64,[]⟩];rt v1 else let v2:List Ja:=[{kind:=7}];rt v2
def c223:=cf c222 202 [qm] [qx] (u1 Zme)
theorem o223:EO c223:=sz o222 Tryz.func202
def Zje (a0:BitVec 64):O1 Int:=
 (bif decide ((4294967296#64).toNat<=a0.toNat) then some (a0>>>32,(32:Int),()) else some (a0,(0:Int),())).bind λj1=>(bif decide ((65536#64).toNat<=j1.1.toNat) then some (j1.1>>>16,Qa .i64 (j1.2.1+16),()) else some (j1.1,j1.2.1,())).bind λj2=>bif decide ((256#64).toNat<=j2.1.toNat) then ([0,1,2,2,3,3,3,3,4,4,4,4,4,4,4,4,5,5,5,5,5,5,5,5,5,5,5,5,5,5,5,5,6,6,6,6,6,6,6,6,6,6,6,6,6,6,6,6,6,6,6,6,6,6,6,6,6,6,6,6,6,6,6,6,7,7,7,7,7,7,7,7,7,7,7,7,7,7,7,7,7,7,7,7,7,7,7,7,7,7,7,7,7,7,7,7,7,7,7,7,7,7,7,7,7,7,7,7,7,7,7,7,7,7,7,7,7,7,7,7,7,7,7,7,7,7,7,7,8,8,8,8,8,8,8,8,8,8,8,8,8,8,8,8,8,8,8,8,8,8,8,8,8,8,8,8,8,8,8,8,8,8,8,8,8,8,8,8,8,8,8,8,8,8,8,8,8,8,8,8,8,8,8,8,8,8,8,8,8,8,8,8,8,8,8,8,8,8,8,8,8,8,8,8,8,8,8,8,8,8,8,8,8,8,8,8,8,8,8,8,8,8,8,8,8,8,8,8,8,8,8,8,8,8,8,8,8,8,8,8,8,8,8,8,8,8,8,8,8,8,8,8,8,8,8,8]:List UInt8)[(Qd (Qg 8 (j2.1>>>8))).toNat]?.bind λx3=>let v4:=Qa .i64 (Qa .i64 (j2.2.1+8)+(x3.toBitVec.toNat:Int));rt v4 else ([0,1,2,2,3,3,3,3,4,4,4,4,4,4,4,4,5,5,5,5,5,5,5,5,5,5,5,5,5,5,5,5,6,6,6,6,6,6,6,6,6,6,6,6,6,6,6,6,6,6,6,6,6,6,6,6,6,6,6,6,6,6,6,6,7,7,7,7,7,7,7,7,7,7,7,7,7,7,7,7,7,7,7,7,7,7,7,7,7,7,7,7,7,7,7,7,7,7,7,7,7,7,7,7,7,7,7,7,7,7,7,7,7,7,7,7,7,7,7,7,7,7,7,7,7,7,7,7,8,8,8,8,8,8,8,8,8,8,8,8,8,8,8,8,8,8,8,8,8,8,8,8,8,8,8,8,8,8,8,8,8,8,8,8,8,8,8,8,8,8,8,8,8,8,8,8,8,8,8,8,8,8,8,8,8,8,8,8,8,8,8,8,8,8,8,8,8,8,8,8,8,8,8,8,8,8,8,8,8,8,8,8,8,8,8,8,8,8,8,8,8,8,8,8,8,8,8,8,8,8,8,8,8,8,8,8,8,8,8,8,8,8,8,8,8,8,8,8,8,8,8,8,8,8,8,8]:List UInt8)[(Qd (Qg 8 j2.1)).toNat]?.bind λx5=>rt (Qa .i64 (j2.2.1+(x5.toBitVec.toNat:Int)))
def c224:=ct c223 444 [qf] [qa] (u1 Zje)
theorem o224:EO c224:=sx o223 (lcA [] [(4,[(0,qf),(2,qb)],true),(7,[(0,qf),(2,qb)],true)] []) Tryz.func444 dn
def Zkf (a0:BitVec 64):O1 Int:=
 (Zje a0).bind λr1=>rt r1.2.1
def c225:=ct c224 449 [qf] [qa] (u1 Zkf)
theorem o225:EO c225:=sz o224 Tryz.func449
def Zho (a0:BitVec 64):O1 Bool:=
 rt (!(decide (a0=a0)))
def c226:=ct c225 450 [qf] [qd] (u1 Zho)
theorem o226:EO c226:=sz o225 Tryz.func450
def Zeo (a0 a1:BitVec 64):O1 Int:=
 (Zho a0).bind λr1=>(Zho a1).bind λr2=>bif r1.2.1 then bif r2.2.1 then rt 0 else rt (-1) else bif r2.2.1 then rt 1 else bif decide (a0.toNat < a1.toNat) then rt (-1) else bif decide (a1.toNat < a0.toNat) then rt 1 else rt 0
def c227:=ct c226 399 [qf,qf] [qa] (u2 Zeo)
theorem o227:EO c227:=sz o226 Tryz.func399
def Zlx (a0 a1:Int) (a2:List (BitVec 64)):O1 Int:=
 (getI a2 a0).bind λx1=>(getI a2 a1).bind λx2=>(Zeo x1 x2).bind λr3=>rt r3.2.1
def c228:=ct c227 398 [qb,qb,qay] [qa] (u3 Zlx)
theorem o228:EO c228:=sz o227 Tryz.func398
def Zab_L2b (y0:List Int) (y1 y2:Int) (y3:List (BitVec 64)×Unit) (y4 y5:Int):Option (((List (Int)) × Int × Int × ((List (BitVec 64)) × Unit) × Int × Int × Unit)⊕((List (Int)) × Int × Int × ((List (BitVec 64)) × Unit) × Int × Unit)):=
 bif decide (y1 < y5) then bif decide (0<=y5)&&decide (y5 < y0.length) then y0[y5.toNat]?.bind λx1=>bif decide (0<=Qa .i64 (y5 - 1))&&decide (Qa .i64 (y5 - 1) < y0.length) then y0[(Qa .i64 (y5 - 1)).toNat]?.bind λx2=>(Zlx x1 x2 y3.1).bind λr3=>bif decide (r3.2.1 < 0) then bif decide (0<=Qa .i64 (y5 - 1))&&decide (Qa .i64 (y5 - 1) < y0.length) then y0[(Qa .i64 (y5 - 1)).toNat]?.bind λx4=>bif decide (0<=y5)&&decide (y5 < y0.length) then y0[y5.toNat]?.bind λx5=>bif decide (0<=y5)&&decide (y5 < y0.length) then y0[y5.toNat]?.bind λx6=>bif decide (0<=Qa .i64 (y5 - 1))&&decide (Qa .i64 (y5 - 1) < y0.length) then (Ql y0 y5.toNat x4)[(Qa .i64 (y5 - 1)).toNat]?.bind λx7=>let v8:=Ql (Ql y0 y5.toNat x4) (Qa .i64 (y5 - 1)).toNat x5;some (Qc (v8,y1,y2,(y3.1,()),y4,Qa .i64 (y5 - 1),())) else none else none else none else none else some (Qb (y0,y1,y2,(y3.1,()),y4,())) else none else none else some (Qb (y0,y1,y2,(y3.1,()),y4,()))
def Zab_L2:=Yi6 Zab_L2b
def Zab_L0b (y0:List Int) (y1 y2:Int) (y3:List (BitVec 64)×Unit) (y4:Int):Option (((List (Int)) × Int × Int × ((List (BitVec 64)) × Unit) × Int × Unit)⊕((List (Int)) × Unit)):=
 bif decide (y4 < y2) then (Zab_L2 (y0,y1,y2,(y3.1,()),y4,y4,())).bind λz1=>some (Qc (z1.1,z1.2.1,z1.2.2.1,(z1.2.2.2.1.1,()),Qa .i64 (z1.2.2.2.2.1+1),())) else some (Qb (y0,()))
def Zab_L0:=Yi5 Zab_L0b
def Zab (a0:List Int) (a1 a2:Int) (a3:List (BitVec 64)×Unit):Option ((List Int×Unit)×Unit):=
 (Zab_L0 (a0,a1,a2,(a3.1,()),Qa .i64 (a1+1),())).bind λz2=>some ((z2.1,()),())
def c229:List (Ct T):=⟨464,(some (3,398)),⟨[(.inp 11),qb,qb,.f qz],[],(u4 Zab)⟩,false⟩::c228
def s_Zab_L2:LSpec T:=⟨[(0,qat),(1,qb),(2,qb),(3,.f qz),(8,qb),(9,qb)],[(.exit 2,[(0,qat),(1,qb),(2,qb),(3,.f qz),(8,qb)])],Zab_L2,[]⟩
def s_Zab_L0:LSpec T:=⟨[(0,qat),(1,qb),(2,qb),(3,.f qz),(8,qb)],[(.exit 0,[(0,qat)])],Zab_L0,[]⟩
def A_Zab:Loc2 T:=lcA [(2,s_Zab_L2),(0,s_Zab_L0)] [] []
theorem Vkv:LO c229 Tryz.f464 2 s_Zab_L2:=lx o228 A_Zab dn (λ_=>rfl)
theorem Vsw:LO c229 Tryz.f464 0 s_Zab_L0:=lx o228 A_Zab (dc rfl Vkv dn) (λ_=>rfl)
theorem o229:EO c229:=sx o228 A_Zab Tryz.func464 (dc rfl Vkv (dc rfl Vsw dn))
def Zao_L0b (y0:List Int) (y1 y2 y3:Int) (y4:List (BitVec 64)×Unit) (y5 y6:Bool):Option (((List (Int)) × Int × Int × Int × ((List (BitVec 64)) × Unit) × Bool × Bool × Unit)⊕((List (Int)) × Unit)):=
 bif decide (Qa .i64 (y2 - y1)<=12) then (Zab y0 y1 y2 (y4.1,())).bind λr1=>some (Qb (r1.1.1,())) else bif decide (y3=0) then none else (bif !y5 then none else some (y0,y1,y2,y3,(y4.1,()),y5,y6,Qa .i64 (y2 - y1),())).bind λj2=>none
def Zao_L0:=Yi7 Zao_L0b
def Zao (a0:List Int) (a1 a2 a3:Int) (a4:List (BitVec 64)×Unit):Option ((List Int×Unit)×Unit):=
 (Zao_L0 (a0,a1,a2,a3,(a4.1,()),true,true,())).bind λz3=>some ((z3.1,()),())
def c230:List (Ct T):=⟨448,(some (4,398)),⟨[(.inp 11),qb,qb,qb,.f qz],[],(u5 Zao)⟩,false⟩::c229
def s_Zao_L0:LSpec T:=⟨[(0,qat),(1,qb),(2,qb),(3,qb),(4,.f qz),(10,qm),(11,qm)],[(.ret,[(0,qat)])],Zao_L0,[]⟩
def A_Zao:Loc2 T:=lcA [(0,s_Zao_L0)] [(10,[(0,qat),(1,qb),(2,qb),(3,qb),(4,.f qz),(10,qm),(11,qm),(12,qb)],true)] []
theorem Vsx:LO c230 Tryz.f448 0 s_Zao_L0:=lx o229 A_Zao dn (λ_=>rfl)
theorem o230:EO c230:=sx o229 A_Zao Tryz.func448 (dc rfl Vsx dn)
def Zbp (a0:List Int) (a1:List (BitVec 64)×Unit):Option ((List Int×Unit)×Unit):=
 (Zkf (Qf 64 (a0.length:Int))).bind λr1=>(Zao a0 0 (a0.length:Int) r1.2.1 (a1.1,())).bind λr2=>some ((r2.1.1,()),())
def c231:List (Ct T):=⟨397,(some (1,398)),⟨[(.inp 11),.f qz],[],(u2 Zbp)⟩,false⟩::c230
theorem o231:EO c231:=sz o230 Tryz.func397
def Zmk_L0b (y0:List (List Ja)) (y1:List (BitVec 64)) (y2:List Int) (y3 y4:Int):Option (((List (List Ja)) × (List (BitVec 64)) × (List (Int)) × Int × Int × Unit)⊕((List (List Ja)) × (List (BitVec 64)) × (List (Int)) × Unit)):=
 bif decide (y4 < y3) then bif decide (0<=y4)&&decide (y4 < y2.length) then y2[y4.toNat]?.bind λx2=>some (Qc (y0,y1,Ql y2 y4.toNat y4,y3,Qa .i64 (y4+1),())) else none else some (Qb (y0,y1,y2,()))
def Zmk_L0:=Yi5 Zmk_L0b
def Zmk_L2b (y0:List (List Ja)) (y1:List (BitVec 64)) (y2:List Int) (y3:Int):Option (((List (List Ja)) × (List (BitVec 64)) × (List (Int)) × Int × Unit)⊕(((List (Ja)) × Int × Unit) ⊕ ((List (List Ja)) × (List (BitVec 64)) × (List (Int)) × Unit))):=
 bif decide (y3 < y2.length) then bif decide (0<=Qa .i64 (y3 - 1))&&decide (Qa .i64 (y3 - 1) < y2.length) then y2[(Qa .i64 (y3 - 1)).toNat]?.bind λx5=>(getI y1 x5).bind λx6=>bif decide (0<=y3)&&decide (y3 < y2.length) then y2[y3.toNat]?.bind λx7=>(getI y1 x7).bind λx8=>bif decide (x6=x8) then some (Qb (Qc ([],10,()))) else some (Qc (y0,y1,y2,Qa .i64 (y3+1),())) else none else none else some (Qb (Qb (y0,y1,y2,())))
def Zmk_L2:=Yi4 Zmk_L2b
def Zmk_L4b (y0:List (List Ja)) (y1:List (BitVec 64)) (y2:List Ja) (y3:List Int) (y4 y5:Int):Option (((List (List Ja)) × (List (BitVec 64)) × (List (Ja)) × (List (Int)) × Int × Int × Unit)⊕((List (Ja)) × Unit)):=
 bif decide (y5 < y4) then bif decide (0<=y5)&&decide (y5 < y3.length) then y3[y5.toNat]?.bind λx13=>bif decide (512 < (y2.length:Int)) then some (Qb (y2,())) else (getI y1 x13).bind λx14=>(Zmh x14).bind λr15=>bif small (y2.length+(r15.2.1:List Ja).length) 32 then (getI y0 x13).bind λx16=>bif small ((y2++r15.2.1).length+(x16:List Ja).length) 32 then some (Qc (y0,y1,y2++r15.2.1++x16,y3,y4,Qa .i64 (y5+1),())) else none else none else none else some (Qb (y2,()))
def Zmk_L4:=Yi6 Zmk_L4b
def Zmk (a0:List (BitVec 64)) (a1:List (List Ja)):O2 (List Ja) Int:=
 bif !(decide ((a0.length:Int)=(a1.length:Int))) then ru [] 4 else bif decide (0<=(a0.length:Int))&&(decide ((a0.length:Int)<=(a0.length:Int))&&decide (8*(a0.length:Int)<=281474976710656/\(a0.length:Int)<=9223372036854775807)) then let v1:=Qo (a0.length:Int).toNat (0:Int);(Zmk_L0 (a1,a0,v1,((a0.length:Int).toNat:Int),0,())).bind λz3=>(Zbp z3.2.2.1 (z3.2.1,())).bind λr4=>(Zmk_L2 (z3.1,z3.2.1,r4.1.1,1,())).bind (Qh (λz9=>ru z9.1 z9.2.1) (λz10=>(Zlk z10.1).bind λr11=>bif !(decide (r11.2.1=0)) then ru [] r11.2.1 else let v12:List Ja:=[⟨6,Qf 64 (z10.2.1.length:Int),[]⟩];(Zmk_L4 (z10.1,z10.2.1,v12,z10.2.2.1,(z10.2.2.1.length:Int),0,())).bind λz17=>(Zkq z17.1).bind λr18=>ru r18.2.1 r18.2.2.1)) else none
def c232:=cf c231 291 [qar,qai] [qbu,qa] (u2 Zmk)
def s_Zmk_L0:LSpec T:=⟨[(1,qai),(2,qay),(6,qat),(22,qb),(23,qb)],[(.exit 0,[(1,qai),(2,qay),(6,qat)])],Zmk_L0,[]⟩
def s_Zmk_L2:LSpec T:=⟨[(1,qai),(2,qay),(6,qat),(8,qb)],[(.ret,[(4,qbn),(5,qb)]),(.exit 2,[(1,qai),(2,qay),(6,qat)])],Zmk_L2,[]⟩
def s_Zmk_L4:LSpec T:=⟨[(1,qai),(2,qay),(10,qbn),(66,qat),(67,qb),(68,qb)],[(.exit 4,[(10,qbn)])],Zmk_L4,[]⟩
def A_Zmk:Loc2 T:=lcA [(0,s_Zmk_L0),(2,s_Zmk_L2),(4,s_Zmk_L4)] [] []
theorem Vg2:LO c232 Tryz.f291 0 s_Zmk_L0:=lx o231 A_Zmk dn (λ_=>rfl)
theorem Vkw:LO c232 Tryz.f291 2 s_Zmk_L2:=lx o231 A_Zmk (dc rfl Vg2 dn) (λ_=>rfl)
theorem Vsy:LO c232 Tryz.f291 4 s_Zmk_L4:=lx o231 A_Zmk (dc rfl Vg2 (dc rfl Vkw dn)) (λ_=>rfl)
theorem o232:EO c232:=sx o231 A_Zmk Tryz.func291 (dc rfl Vg2 (dc rfl Vkw (dc rfl Vsy dn)))
def Zli_L0b (y0:List UInt8) (y1:List Ja) (y2 y3:Int):Option (((List (UInt8)) × (List (Ja)) × Int × Int × Unit)⊕((List (UInt8)) × Unit)):=
 bif decide (y3 < y2) then (getI y1 y3).bind λx2=>(Ziw y0 x2).bind λr3=>some (Qc (r3.2.1,y1,y2,Qa .i64 (y3+1),())) else some (Qb (y0,()))
def Zli_L0:=Yi4 Zli_L0b
def Zli (a0:List Ja):O2 (List UInt8) Int:=
 (Zkb a0).bind λr1=>bif !(decide (r1.2.1=0)) then ru [] r1.2.1 else (Zli_L0 ([],a0,(a0.length:Int),0,())).bind λz4=>ru z4.1 0
def c233:=cf c232 292 [qn] [qj,qa] (u1 Zli)
def s_Zli_L0:LSpec T:=⟨[(5,qao),(13,qn),(14,qb),(15,qb)],[(.exit 0,[(5,qao)])],Zli_L0,[]⟩
def A_Zli:Loc2 T:=lcA [(0,s_Zli_L0)] [] []
theorem Vsz:LO c233 Tryz.f292 0 s_Zli_L0:=lx o232 A_Zli dn (λ_=>rfl)
theorem o233:EO c233:=sx o232 A_Zli Tryz.func292 (dc rfl Vsz dn)
def Zjx_L0b (y0:UInt8) (y1:BitVec 32) (y2:List (BitVec 64)) (y3 y4:List (List Ja)) (y5 y6:Int):Option ((UInt8 × (BitVec 32) × (List (BitVec 64)) × (List (List Ja)) × (List (List Ja)) × Int × Int × Unit)⊕(UInt8 × (List (BitVec 64)) × (List (List Ja)) × Unit)):=
 bif decide (y6 < y5) then (getI y4 y6).bind λx1=>bif decide (0<=Qa .i64 (y6+1)) then let v2:=y1>>>(Qa .i64 (y6+1)).toNat&&&1#32;bif decide (v2=1#32) then let v3:List (BitVec 64):=[Qf 64 (Qa .i64 (y6+1))];bif small (y2.length+(v3:List (BitVec 64)).length) 8 then bif small (y3.length+([x1]).length) 24 then some (Qc (y0,y1,y2++v3,y3++[x1],y4,y5,Qa .i64 (y6+1),())) else none else none else some (Qc (y0,y1,y2,y3,y4,y5,Qa .i64 (y6+1),())) else none else some (Qb (y0,y2,y3,()))
def Zjx_L0:=Yi7 Zjx_L0b
def Zjx (a0:UInt8) (a1:BitVec 32) (a2:List (List Ja)):O2 (List UInt8) Int:=
 (Zjx_L0 (a0,a1,[],[],a2,(a2.length:Int),0,())).bind λz4=>(Zmk z4.2.1 z4.2.2.1).bind λr5=>bif !(decide (r5.2.2.1=0)) then ru [] r5.2.2.1 else (Zli r5.2.1).bind λr6=>bif !(decide (r6.2.2.1=0)) then ru [] r6.2.2.1 else bif small (([z4.1]).length+(r6.2.1:List UInt8).length) 1 then ru ([z4.1]++r6.2.1) 0 else none
def c234:=cf c233 196 [qa0,qal,qai] [qj,qa] (u3 Zjx)
def s_Zjx_L0:LSpec T:=⟨[(0,qa0),(1,qal),(8,qb0),(9,qa2),(15,qai),(16,qb),(17,qb)],[(.exit 0,[(0,qa0),(8,qb0),(9,qa2)])],Zjx_L0,[]⟩
def A_Zjx:Loc2 T:=lcA [(0,s_Zjx_L0)] [] []
theorem Vs0:LO c234 Tryz.f196 0 s_Zjx_L0:=lx o233 A_Zjx dn (λ_=>rfl)
theorem o234:EO c234:=sx o233 A_Zjx Tryz.func196 (dc rfl Vs0 dn)
def Zcc (a0:Jm):O2 (List UInt8) Int:=
 (Zhp a0).bind λr1=>bif !(decide (r1.2.1=0)) then ru [] r1.2.1 else (Zkh a0).bind λr2=>(Zmg a0.rP).bind λr3=>(Zlw a0.user).bind λr4=>(Zmg a0.name).bind λr5=>(Zmh a0.jbl).bind λr6=>(Zmh (Qf 64 a0.jr)).bind λr7=>(Zmh (Qf 64 a0.jag)).bind λr8=>(Zjf a0.list).bind λr9=>(Zme a0.jw).bind λr10=>(Zme a0.jbg).bind λr11=>(Zme a0.jo).bind λr12=>(Zme a0.jal).bind λr13=>(Zmh (Qf 64 a0.jm)).bind λr14=>(Zmh a0.auth).bind λr15=>(Zmh a0.jbi).bind λr16=>(Zlw a0.box).bind λr17=>(Zlw a0.proof).bind λr18=>(Zmh (Qf 64 a0.jq)).bind λr19=>(Zlw a0.iD).bind λr20=>(Zmh (Qf 64 a0.count)).bind λr21=>let v22:List (List Ja):=[r3.2.1,r4.2.1,r5.2.1,r6.2.1,r7.2.1,r8.2.1,r9.2.1,r10.2.1,r11.2.1,r12.2.1,r13.2.1,r14.2.1,r15.2.1,r16.2.1,r17.2.1,r18.2.1,r19.2.1,r20.2.1,r21.2.1];(Zjx (Qd (Qf 8 a0.kind)) r2.2.1 v22).bind λr23=>ru r23.2.1 r23.2.2.1
def c235:=cf c234 129 [qan] [qj,qa] (u1 Zcc)
theorem o235:EO c235:=sx o234 (lcA [] [] [4]) Tryz.func129 dn
def Zma (a0:Jb) (a1:Jm):Option (Unit×Jb×List Je×Jp×Unit):=
 (Zcc a1).bind λr1=>bif !(decide (r1.2.2.1=0)) then none else (Zmd a0.ji.je).bind λr2=>(Zkx a0.ji.je (3:Int) r1.2.1).bind λr3=>some ((),{a0 with ji:=r2.2.1},r3.2.1,{},())
def c236:=cf c235 80 [qb4,qan] [ql,qax,qab] (u2 Zma)
theorem o236:EO c236:=sz o235 Tryz.func80
def Zhn (a0:Jb) (a1:Int) (a2:List UInt8):Option (Unit×Jb×List Je×Jp×Unit):=
 bif !(decide (a1=6)) then some ((),a0,[],{},()) else bif !(decide ((a2.length:Int)=12)) then some ((),a0,[],{},()) else bif decide (8<=(a2.length:Int)) then (Zkt [a0.jbw]).bind λr1=>(Zlg (Qj 8 a2) r1.2.1).bind λr2=>bif !r2.2.1 then some ((),a0,[],{},()) else (getI a2 (8:Int)).bind λx3=>(getI a2 (9:Int)).bind λx4=>let v5:=Qg 32 x3.toBitVec <<< 24 ||| Qg 32 x4.toBitVec <<< 16;(getI a2 (10:Int)).bind λx6=>(getI a2 (11:Int)).bind λx7=>let v8:=v5 ||| Qg 32 x6.toBitVec <<< 8 ||| Qg 32 x7.toBitVec;(Zmd v8).bind λr9=>(Zma ({a0 with jy:=2,ji:=r9.2.1}:Jb) ({kind:=1}:Jm)).bind λr10=>some ((),r10.2.1,r10.2.2.1,r10.2.2.2.1,()) else none
def c237:=cf c236 87 [qb4,qb,qe] [ql,qax,qab] (u3 Zhn)
theorem o237:EO c237:=sz o236 Tryz.func87
def Zly (a0:BitVec 64):O1 Int:=
 bif decide (a0.toNat < (24#64).toNat) then rt 0 else bif decide (a0.toNat < (256#64).toNat) then rt 1 else bif decide (a0.toNat < (65536#64).toNat) then rt 2 else bif decide (a0.toNat < (4294967296#64).toNat) then rt 4 else rt 8
def c238:=ct c237 425 [qf] [qa] (u1 Zly)
theorem o238:EO c238:=sz o237 Tryz.func425
def Zhj_L1b (y0:List Jh×Int×List UInt8×Int×Unit) (y1:Int) (y2:BitVec 64) (y3:Int) (y4:List UInt8) (y5 y6:Int):Option ((((List (Jh)) × Int × (List (UInt8)) × Int × Unit) × Int × (BitVec 64) × Int × (List (UInt8)) × Int × Int × Unit)⊕(((List (Jh)) × Int × (List (UInt8)) × Int × Unit) × Int × (BitVec 64) × Int × Unit)):=
 bif decide (y6 < y5) then (getI y4 y6).bind λx10=>some (Qc ((y0.1,y0.2.1,y0.2.2.1,y0.2.2.2.1,()),y1,y2 <<< 8 ||| Qg 64 x10.toBitVec,y3,y4,y5,Qa .i64 (y6+1),())) else some (Qb ((y0.1,y0.2.1,y0.2.2.1,y0.2.2.2.1,()),y1,y2,y3,()))
def Zhj_L1:=Yi7 Zhj_L1b
def Zhj (a0:List Jh×Int×List UInt8×Int×Unit):Option (((List Jh×Int×List UInt8×Int×Unit)×Unit)×Int×BitVec 64×Int×Unit):=
 bif decide (a0.2.2.1.length<=a0.2.2.2.1) then some (((a0.1,a0.2.1,a0.2.2.1,a0.2.2.2.1,()),()),0,0#64,1,()) else (getI a0.2.2.1 a0.2.2.2.1).bind λx1=>(bif decide (x1.toBitVec=(244:UInt8).toBitVec) then bif decide (x1.toBitVec=(244:UInt8).toBitVec) then let v2:=Qg 64 (Qd (x1.toBitVec - (244:UInt8).toBitVec)).toBitVec;(some (((a0.1,a0.2.1,a0.2.2.1,Qa .i64 (a0.2.2.2.1+1),()),()),(7:Int),v2,(0:Int),())).bind λq=>some (Qb q) else bif decide (x1.toBitVec=(246:UInt8).toBitVec) then (some (((a0.1,a0.2.1,a0.2.2.1,Qa .i64 (a0.2.2.2.1+1),()),()),(8:Int),0#64,(0:Int),())).bind λq=>some (Qb q) else some (Qc ((a0.1,a0.2.1,a0.2.2.1,Qa .i64 (a0.2.2.2.1+1),()),0#64,x1,())) else bif decide (x1.toBitVec=(245:UInt8).toBitVec) then let v3:=Qg 64 (Qd (x1.toBitVec - (244:UInt8).toBitVec)).toBitVec;(some (((a0.1,a0.2.1,a0.2.2.1,Qa .i64 (a0.2.2.2.1+1),()),()),(7:Int),v3,(0:Int),())).bind λq=>some (Qb q) else bif decide (x1.toBitVec=(246:UInt8).toBitVec) then (some (((a0.1,a0.2.1,a0.2.2.1,Qa .i64 (a0.2.2.2.1+1),()),()),(8:Int),0#64,(0:Int),())).bind λq=>some (Qb q) else some (Qc ((a0.1,a0.2.1,a0.2.2.1,Qa .i64 (a0.2.2.2.1+1),()),0#64,x1,()))).bind (Qh (λj4=>let v5:=Qd (j4.2.2.1.toBitVec&&&(31:UInt8).toBitVec);bif decide ((5:UInt8).toBitVec.toNat < (Qd (j4.2.2.1.toBitVec>>>5)).toBitVec.toNat) then some (((j4.1.1,j4.1.2.1,j4.1.2.2.1,j4.1.2.2.2.1,()),()),0,0#64,2,()) else bif decide ((27:UInt8).toBitVec.toNat < v5.toBitVec.toNat) then some (((j4.1.1,j4.1.2.1,j4.1.2.2.1,j4.1.2.2.2.1,()),()),0,0#64,2,()) else let v6:=((Qd (j4.2.2.1.toBitVec>>>5)).toBitVec.toNat:Int);bif decide (v5.toBitVec.toNat < (24:UInt8).toBitVec.toNat) then some (((j4.1.1,j4.1.2.1,j4.1.2.2.1,j4.1.2.2.2.1,()),()),Qa .i64 (1+v6),Qg 64 v5.toBitVec,0,()) else let v7:=Qa .i64 (1*2 ^ min (Qd (v5.toBitVec - (24:UInt8).toBitVec)).toNat (Qk .i64));let v8:=Qa .i64 ((j4.1.2.2.1.length:Int) - j4.1.2.2.2.1);bif decide (v8 < v7) then some (((j4.1.1,j4.1.2.1,j4.1.2.2.1,j4.1.2.2.2.1,()),()),0,0#64,1,()) else bif decide (0<=Qa .i64 (j4.1.2.2.2.1+v7))&&decide (Qa .i64 (j4.1.2.2.2.1+v7)<=j4.1.2.2.1.length) then bif decide (0<=j4.1.2.2.2.1)&&decide (j4.1.2.2.2.1<=(Qa .i64 (j4.1.2.2.2.1+v7)).toNat) then let v9:=Qi j4.1.2.2.2.1.toNat (Qj (Qa .i64 (j4.1.2.2.2.1+v7)).toNat j4.1.2.2.1);(Zhj_L1 ((j4.1.1,j4.1.2.1,j4.1.2.2.1,j4.1.2.2.2.1,()),Qa .i64 (1+v6),j4.2.1,v7,v9,(v9.length:Int),0,())).bind λz11=>(Zly z11.2.2.1).bind λr12=>bif decide (r12.2.1 < z11.2.2.2.1) then some (((z11.1.1,z11.1.2.1,z11.1.2.2.1,Qa .i64 (z11.1.2.2.2.1+z11.2.2.2.1),()),()),0,0#64,2,()) else some (((z11.1.1,z11.1.2.1,z11.1.2.2.1,Qa .i64 (z11.1.2.2.2.1+z11.2.2.2.1),()),()),z11.2.1,z11.2.2.1,0,()) else none else none) some)
def c239:=cf c238 354 [qk] [qa,qu,qa] (u1 Zhj)
def s_Zhj_L1:LSpec T:=⟨[(0,qk),(2,qb),(3,qf),(8,qb),(94,qe),(95,qb),(96,qb)],[(.exit 1,[(0,qk),(2,qb),(3,qf),(8,qb)])],Zhj_L1,[]⟩
def A_Zhj:Loc2 T:=lcA [(1,s_Zhj_L1)] [(11,[(0,qk),(3,qf),(5,qa0)],false)] []
theorem Vs1:LO c239 Tryz.f354 1 s_Zhj_L1:=lx o238 A_Zhj dn (λ_=>rfl)
theorem o239:EO c239:=sx o238 A_Zhj Tryz.func354 (dc rfl Vs1 dn)
def Zhm_L0b (y0:List Jh×Int×List UInt8×Int×Unit) (y1:Int):Option ((((List (Jh)) × Int × (List (UInt8)) × Int × Unit) × Int × Unit)⊕(((List (Jh)) × Int × (List (UInt8)) × Int × Unit) × Unit)):=
 bif decide (0 < y1) then bif decide (0<=Qa .i64 (y1 - 1))&&decide (Qa .i64 (y1 - 1) < y0.1.length) then y0.1[(Qa .i64 (y1 - 1)).toNat]?.bind λx10=>bif decide (x10.left=0) then bif decide (0<=Qa .i64 (y1 - 1))&&decide (Qa .i64 (y1 - 1)<=y0.1.length) then bif decide ((Qa .i64 (y1 - 1)).toNat<=y0.1.length) then some (Qc ((Qj (Qa .i64 (y1 - 1)).toNat y0.1,y0.2.1,y0.2.2.1,y0.2.2.2.1,()),Qa .i64 (y1 - 1),())) else none else none else some (Qb ((y0.1,y0.2.1,y0.2.2.1,y0.2.2.2.1,()),())) else none else some (Qb ((y0.1,y0.2.1,y0.2.2.1,y0.2.2.2.1,()),()))
def Zhm_L0:=Yi2 Zhm_L0b
def Zhm (a0:List Jh×Int×List UInt8×Int×Unit) (a1:Ja):Option (((List Jh×Int×List UInt8×Int×Unit)×Unit)×Unit):=
 (bif decide (0 < (a0.1.length:Int)) then bif decide (0<=Qa .i64 ((a0.1.length:Int) - 1))&&decide (Qa .i64 ((a0.1.length:Int) - 1) < a0.1.length) then a0.1[(Qa .i64 ((a0.1.length:Int) - 1)).toNat]?.bind λx1=>bif decide (0<=Qa .i64 ((a0.1.length:Int) - 1))&&decide (Qa .i64 ((a0.1.length:Int) - 1) < a0.1.length) then a0.1[(Qa .i64 ((a0.1.length:Int) - 1)).toNat]?.bind λx2=>let v3:=Ql a0.1 (Qa .i64 ((a0.1.length:Int) - 1)).toNat ({x2 with left:=Qa .i64 (x1.left - 1)}:Jh);some ((v3,Qa .i64 (a0.2.1+1),a0.2.2.1,a0.2.2.2.1,()),(a1,()),()) else none else none else some ((a0.1,Qa .i64 (a0.2.1+1),a0.2.2.1,a0.2.2.2.1,()),(a1,()),())).bind λj4=>(bif decide (j4.2.1.1.kind=5) then bif decide ((0#64).toNat < j4.2.1.1.number.toNat) then let v5:List Jh:=[{left:=Qa .i64 (j4.2.1.1.number.toNat:Int)}];bif small (j4.1.1.length+(v5:List Jh).length) 40 then some ((j4.1.1++v5,j4.1.2.1,j4.1.2.2.1,j4.1.2.2.2.1,()),(j4.2.1.1,()),()) else none else some ((j4.1.1,j4.1.2.1,j4.1.2.2.1,j4.1.2.2.2.1,()),(j4.2.1.1,()),()) else some ((j4.1.1,j4.1.2.1,j4.1.2.2.1,j4.1.2.2.2.1,()),(j4.2.1.1,()),())).bind λj6=>(bif decide (j6.2.1.1.kind=6) then bif decide ((0#64).toNat < j6.2.1.1.number.toNat) then let v7:=Qa .i64 (2*Qa .i64 (j6.2.1.1.number.toNat:Int));bif small (j6.1.1.length+([⟨true,v7,[]⟩]:List Jh).length) 40 then let v8:=j6.1.1++[⟨true,v7,[]⟩];some ((v8,j6.1.2.1,j6.1.2.2.1,j6.1.2.2.2.1,()),()) else none else some ((j6.1.1,j6.1.2.1,j6.1.2.2.1,j6.1.2.2.2.1,()),()) else some ((j6.1.1,j6.1.2.1,j6.1.2.2.1,j6.1.2.2.2.1,()),())).bind λj9=>(Zhm_L0 ((j9.1.1,j9.1.2.1,j9.1.2.2.1,j9.1.2.2.2.1,()),(j9.1.1.length:Int),())).bind λz11=>some (((z11.1.1,z11.1.2.1,z11.1.2.2.1,z11.1.2.2.2.1,()),()),())
def c240:=cf c239 428 [qk,qb7] [] (u2 Zhm)
def s_Zhm_L0:LSpec T:=⟨[(0,qk),(5,qb)],[(.exit 0,[(0,qk)])],Zhm_L0,[]⟩
def A_Zhm:Loc2 T:=lcA [(0,s_Zhm_L0)] [(5,[(0,qk),(3,qbb)],true),(7,[(0,qk),(3,qbb)],true),(9,[(0,qk)],true)] [6,8]
theorem Vs2:LO c240 Tryz.f428 0 s_Zhm_L0:=lx o239 A_Zhm dn (λ_=>rfl)
theorem o240:EO c240:=sx o239 A_Zhm Tryz.func428 (dc rfl Vs2 dn)
def Zen (a0:List Jh×Int×List UInt8×Int×Unit) (a1:Ja):Option (((List Jh×Int×List UInt8×Int×Unit)×Unit)×Int×Unit):=
 bif decide (a1.kind=4) then (Zit a1.data).bind λr1=>bif !r1.2.1 then some (((a0.1,a0.2.1,a0.2.2.1,a0.2.2.2.1,()),()),6,()) else (Ziy ⟨a0.1,a0.2.1⟩).bind λr2=>bif r2.2.1 then bif decide (0<=Qa .i64 ((a0.1.length:Int) - 1))&&decide (Qa .i64 ((a0.1.length:Int) - 1) < a0.1.length) then (Ziw [] a1).bind λr3=>a0.1[(Qa .i64 ((a0.1.length:Int) - 1)).toNat]?.bind λx4=>bif !x4.jax.isEmpty then a0.1[(Qa .i64 ((a0.1.length:Int) - 1)).toNat]?.bind λx5=>(Zkr x5.jax r3.2.1).bind λr6=>bif !r6.2.1 then some (((a0.1,a0.2.1,a0.2.2.1,a0.2.2.2.1,()),()),7,()) else a0.1[(Qa .i64 ((a0.1.length:Int) - 1)).toNat]?.bind λx7=>bif r3.2.1.isEmpty then none else let v8:=Ql a0.1 (Qa .i64 ((a0.1.length:Int) - 1)).toNat ({x7 with jax:=r3.2.1}:Jh);(Zhm (v8,a0.2.1,a0.2.2.1,a0.2.2.2.1,()) a1).bind λr9=>some (((r9.1.1.1,r9.1.1.2.1,r9.1.1.2.2.1,r9.1.1.2.2.2.1,()),()),0,()) else a0.1[(Qa .i64 ((a0.1.length:Int) - 1)).toNat]?.bind λx10=>bif r3.2.1.isEmpty then none else let v11:=Ql a0.1 (Qa .i64 ((a0.1.length:Int) - 1)).toNat ({x10 with jax:=r3.2.1}:Jh);(Zhm (v11,a0.2.1,a0.2.2.1,a0.2.2.2.1,()) a1).bind λr12=>some (((r12.1.1.1,r12.1.1.2.1,r12.1.1.2.2.1,r12.1.1.2.2.2.1,()),()),0,()) else none else (Zhm (a0.1,a0.2.1,a0.2.2.1,a0.2.2.2.1,()) a1).bind λr13=>some (((r13.1.1.1,r13.1.1.2.1,r13.1.1.2.2.1,r13.1.1.2.2.2.1,()),()),0,()) else (Ziy ⟨a0.1,a0.2.1⟩).bind λr14=>bif r14.2.1 then bif decide (0<=Qa .i64 ((a0.1.length:Int) - 1))&&decide (Qa .i64 ((a0.1.length:Int) - 1) < a0.1.length) then (Ziw [] a1).bind λr15=>a0.1[(Qa .i64 ((a0.1.length:Int) - 1)).toNat]?.bind λx16=>bif !x16.jax.isEmpty then a0.1[(Qa .i64 ((a0.1.length:Int) - 1)).toNat]?.bind λx17=>(Zkr x17.jax r15.2.1).bind λr18=>bif !r18.2.1 then some (((a0.1,a0.2.1,a0.2.2.1,a0.2.2.2.1,()),()),7,()) else a0.1[(Qa .i64 ((a0.1.length:Int) - 1)).toNat]?.bind λx19=>bif r15.2.1.isEmpty then none else let v20:=Ql a0.1 (Qa .i64 ((a0.1.length:Int) - 1)).toNat ({x19 with jax:=r15.2.1}:Jh);(Zhm (v20,a0.2.1,a0.2.2.1,a0.2.2.2.1,()) a1).bind λr21=>some (((r21.1.1.1,r21.1.1.2.1,r21.1.1.2.2.1,r21.1.1.2.2.2.1,()),()),0,()) else a0.1[(Qa .i64 ((a0.1.length:Int) - 1)).toNat]?.bind λx22=>bif r15.2.1.isEmpty then none else let v23:=Ql a0.1 (Qa .i64 ((a0.1.length:Int) - 1)).toNat ({x22 with jax:=r15.2.1}:Jh);(Zhm (v23,a0.2.1,a0.2.2.1,a0.2.2.2.1,()) a1).bind λr24=>some (((r24.1.1.1,r24.1.1.2.1,r24.1.1.2.2.1,r24.1.1.2.2.2.1,()),()),0,()) else none else (Zhm (a0.1,a0.2.1,a0.2.2.1,a0.2.2.2.1,()) a1).bind λr25=>some (((r25.1.1.1,r25.1.1.2.1,r25.1.1.2.2.1,r25.1.1.2.2.2.1,()),()),0,())
def c241:=cf c240 356 [qk,qb7] [qa] (u2 Zen)
theorem o241:EO c241:=sz o240 Tryz.func356
def Zhk (a0:List Jh×Int×List UInt8×Int×Unit):Option (((List Jh×Int×List UInt8×Int×Unit)×Unit)×Ja×Int×Unit):=
 (Zhj (a0.1,a0.2.1,a0.2.2.1,a0.2.2.2.1,())).bind λr1=>bif !(decide (r1.2.2.2.1=0)) then some (((r1.1.1.1,r1.1.1.2.1,r1.1.1.2.2.1,r1.1.1.2.2.2.1,()),()),{},r1.2.2.2.1,()) else (Zix ⟨r1.1.1.1,r1.1.1.2.1⟩ r1.2.1).bind λr2=>bif !(decide (r2.2.1=0)) then some (((r1.1.1.1,r1.1.1.2.1,r1.1.1.2.2.1,r1.1.1.2.2.2.1,()),()),{},r2.2.1,()) else (bif decide (r1.2.1=5) then bif decide (r1.2.1=5) then bif decide ((512#64).toNat < r1.2.2.1.toNat) then (some (((r1.1.1.1,r1.1.1.2.1,r1.1.1.2.2.1,r1.1.1.2.2.2.1,()),()),({}:Ja),(8:Int),())).bind λq=>some (Qb q) else some (Qc ((r1.1.1.1,r1.1.1.2.1,r1.1.1.2.2.1,r1.1.1.2.2.2.1,()),(({}:Ja),()),((⟨r1.2.1,r1.2.2.1,[]⟩:Ja),()),())) else bif decide (r1.2.1=3) then bif decide (r1.2.1=3) then bif decide ((1024#64).toNat < r1.2.2.1.toNat) then (some (((r1.1.1.1,r1.1.1.2.1,r1.1.1.2.2.1,r1.1.1.2.2.2.1,()),()),({}:Ja),(8:Int),())).bind λq=>some (Qb q) else let v3:=Qa .i64 ((r1.1.1.2.2.1.length:Int) - r1.1.1.2.2.2.1);bif decide (v3 < Qa .i64 (r1.2.2.1.toNat:Int)) then (some (((r1.1.1.1,r1.1.1.2.1,r1.1.1.2.2.1,r1.1.1.2.2.2.1,()),()),({}:Ja),(1:Int),())).bind λq=>some (Qb q) else let v4:=Qa .i64 (r1.1.1.2.2.2.1+Qa .i64 (r1.2.2.1.toNat:Int));bif decide (0<=v4)&&decide (v4<=r1.1.1.2.2.1.length) then bif decide (0<=r1.1.1.2.2.2.1)&&decide (r1.1.1.2.2.2.1<=v4.toNat) then let v5:=Qi r1.1.1.2.2.2.1.toNat (Qj v4.toNat r1.1.1.2.2.1);let v6:=Qa .i64 (r1.1.1.2.2.2.1+Qa .i64 (r1.2.2.1.toNat:Int));some (Qc ((r1.1.1.1,r1.1.1.2.1,r1.1.1.2.2.1,v6,()),(({}:Ja),()),((⟨r1.2.1,0#64,v5⟩:Ja),()),())) else none else none else some (Qc ((r1.1.1.1,r1.1.1.2.1,r1.1.1.2.2.1,r1.1.1.2.2.2.1,()),(({}:Ja),()),((⟨r1.2.1,r1.2.2.1,[]⟩:Ja),()),())) else bif decide (r1.2.1=4) then bif decide ((1024#64).toNat < r1.2.2.1.toNat) then (some (((r1.1.1.1,r1.1.1.2.1,r1.1.1.2.2.1,r1.1.1.2.2.2.1,()),()),({}:Ja),(8:Int),())).bind λq=>some (Qb q) else let v7:=Qa .i64 ((r1.1.1.2.2.1.length:Int) - r1.1.1.2.2.2.1);bif decide (v7 < Qa .i64 (r1.2.2.1.toNat:Int)) then (some (((r1.1.1.1,r1.1.1.2.1,r1.1.1.2.2.1,r1.1.1.2.2.2.1,()),()),({}:Ja),(1:Int),())).bind λq=>some (Qb q) else let v8:=Qa .i64 (r1.1.1.2.2.2.1+Qa .i64 (r1.2.2.1.toNat:Int));bif decide (0<=v8)&&decide (v8<=r1.1.1.2.2.1.length) then bif decide (0<=r1.1.1.2.2.2.1)&&decide (r1.1.1.2.2.2.1<=v8.toNat) then let v9:=Qi r1.1.1.2.2.2.1.toNat (Qj v8.toNat r1.1.1.2.2.1);let v10:=Qa .i64 (r1.1.1.2.2.2.1+Qa .i64 (r1.2.2.1.toNat:Int));some (Qc ((r1.1.1.1,r1.1.1.2.1,r1.1.1.2.2.1,v10,()),(({}:Ja),()),((⟨r1.2.1,0#64,v9⟩:Ja),()),())) else none else none else some (Qc ((r1.1.1.1,r1.1.1.2.1,r1.1.1.2.2.1,r1.1.1.2.2.2.1,()),(({}:Ja),()),((⟨r1.2.1,r1.2.2.1,[]⟩:Ja),()),())) else bif decide (r1.2.1=6) then bif decide ((512#64).toNat < r1.2.2.1.toNat) then (some (((r1.1.1.1,r1.1.1.2.1,r1.1.1.2.2.1,r1.1.1.2.2.2.1,()),()),({}:Ja),(8:Int),())).bind λq=>some (Qb q) else some (Qc ((r1.1.1.1,r1.1.1.2.1,r1.1.1.2.2.1,r1.1.1.2.2.2.1,()),(({}:Ja),()),((⟨r1.2.1,r1.2.2.1,[]⟩:Ja),()),())) else bif decide (r1.2.1=3) then bif decide (r1.2.1=3) then bif decide ((1024#64).toNat < r1.2.2.1.toNat) then (some (((r1.1.1.1,r1.1.1.2.1,r1.1.1.2.2.1,r1.1.1.2.2.2.1,()),()),({}:Ja),(8:Int),())).bind λq=>some (Qb q) else let v11:=Qa .i64 ((r1.1.1.2.2.1.length:Int) - r1.1.1.2.2.2.1);bif decide (v11 < Qa .i64 (r1.2.2.1.toNat:Int)) then (some (((r1.1.1.1,r1.1.1.2.1,r1.1.1.2.2.1,r1.1.1.2.2.2.1,()),()),({}:Ja),(1:Int),())).bind λq=>some (Qb q) else let v12:=Qa .i64 (r1.1.1.2.2.2.1+Qa .i64 (r1.2.2.1.toNat:Int));bif decide (0<=v12)&&decide (v12<=r1.1.1.2.2.1.length) then bif decide (0<=r1.1.1.2.2.2.1)&&decide (r1.1.1.2.2.2.1<=v12.toNat) then let v13:=Qi r1.1.1.2.2.2.1.toNat (Qj v12.toNat r1.1.1.2.2.1);let v14:=Qa .i64 (r1.1.1.2.2.2.1+Qa .i64 (r1.2.2.1.toNat:Int));some (Qc ((r1.1.1.1,r1.1.1.2.1,r1.1.1.2.2.1,v14,()),(({}:Ja),()),((⟨r1.2.1,0#64,v13⟩:Ja),()),())) else none else none else some (Qc ((r1.1.1.1,r1.1.1.2.1,r1.1.1.2.2.1,r1.1.1.2.2.2.1,()),(({}:Ja),()),((⟨r1.2.1,r1.2.2.1,[]⟩:Ja),()),())) else bif decide (r1.2.1=4) then bif decide ((1024#64).toNat < r1.2.2.1.toNat) then (some (((r1.1.1.1,r1.1.1.2.1,r1.1.1.2.2.1,r1.1.1.2.2.2.1,()),()),({}:Ja),(8:Int),())).bind λq=>some (Qb q) else let v15:=Qa .i64 ((r1.1.1.2.2.1.length:Int) - r1.1.1.2.2.2.1);bif decide (v15 < Qa .i64 (r1.2.2.1.toNat:Int)) then (some (((r1.1.1.1,r1.1.1.2.1,r1.1.1.2.2.1,r1.1.1.2.2.2.1,()),()),({}:Ja),(1:Int),())).bind λq=>some (Qb q) else let v16:=Qa .i64 (r1.1.1.2.2.2.1+Qa .i64 (r1.2.2.1.toNat:Int));bif decide (0<=v16)&&decide (v16<=r1.1.1.2.2.1.length) then bif decide (0<=r1.1.1.2.2.2.1)&&decide (r1.1.1.2.2.2.1<=v16.toNat) then let v17:=Qi r1.1.1.2.2.2.1.toNat (Qj v16.toNat r1.1.1.2.2.1);let v18:=Qa .i64 (r1.1.1.2.2.2.1+Qa .i64 (r1.2.2.1.toNat:Int));some (Qc ((r1.1.1.1,r1.1.1.2.1,r1.1.1.2.2.1,v18,()),(({}:Ja),()),((⟨r1.2.1,0#64,v17⟩:Ja),()),())) else none else none else some (Qc ((r1.1.1.1,r1.1.1.2.1,r1.1.1.2.2.1,r1.1.1.2.2.2.1,()),(({}:Ja),()),((⟨r1.2.1,r1.2.2.1,[]⟩:Ja),()),()))).bind (Qh (λj19=>(Zen (j19.1.1,j19.1.2.1,j19.1.2.2.1,j19.1.2.2.2.1,()) j19.2.2.1.1).bind λr20=>bif !(decide (r20.2.1=0)) then some (((r20.1.1.1,r20.1.1.2.1,r20.1.1.2.2.1,r20.1.1.2.2.2.1,()),()),{},r20.2.1,()) else some (((r20.1.1.1,r20.1.1.2.1,r20.1.1.2.2.1,r20.1.1.2.2.2.1,()),()),j19.2.2.1.1,0,())) some)
def c242:=cf c241 232 [qk] [qw,qa] (u1 Zhk)
theorem o242:EO c242:=sx o241 (lcA [] [(21,[(0,qk),(2,qbb),(8,qbb)],false)] [19]) Tryz.func232 dn
def Zlh_L0b (y0:List Ja) (y1:List Jh×Int×List UInt8×Int×Unit):Option (((List (Ja)) × ((List (Jh)) × Int × (List (UInt8)) × Int × Unit) × Unit)⊕(((List (Ja)) × Int × Int × Unit) ⊕ ((List (Ja)) × ((List (Jh)) × Int × (List (UInt8)) × Int × Unit) × Unit))):=
 (Zjt ⟨y1.1,y1.2.1⟩).bind λr1=>bif !r1.2.1 then (Zhk (y1.1,y1.2.1,y1.2.2.1,y1.2.2.2.1,())).bind λr2=>bif !(decide (r2.2.2.1=0)) then some (Qb (Qc ([],0,r2.2.2.1,()))) else bif small (y0.length+([r2.2.1]).length) 32 then some (Qc (y0++[r2.2.1],(r2.1.1.1,r2.1.1.2.1,r2.1.1.2.2.1,r2.1.1.2.2.2.1,()),())) else none else some (Qb (Qb (y0,(y1.1,y1.2.1,y1.2.2.1,y1.2.2.2.1,()),())))
def Zlh_L0:=Yi2 Zlh_L0b
def Zlh (a0:List UInt8):Option (Unit×List Ja×Int×Int×Unit):=
 (Zlh_L0 ([],([],0,a0,0,()),())).bind (Qh (λz3=>some ((),z3.1,z3.2.1,z3.2.2.1,())) (λz4=>some ((),z4.1,z4.2.1.2.2.2.1,0,())))
def c243:=cf c242 145 [qe] [qx,qa,qa] (u1 Zlh)
def s_Zlh_L0:LSpec T:=⟨[(2,qbn),(5,qk)],[(.ret,[(2,qbn),(3,qb),(4,qb)]),(.exit 0,[(2,qbn),(5,qk)])],Zlh_L0,[]⟩
def A_Zlh:Loc2 T:=lcA [(0,s_Zlh_L0)] [] []
theorem Vs3:LO c243 Tryz.f145 0 s_Zlh_L0:=lx o242 A_Zlh dn (λ_=>rfl)
theorem o243:EO c243:=sx o242 A_Zlh Tryz.func145 (dc rfl Vs3 dn)
def Zmf_L0b (y0:List Ja) (y1 y2:Int):Option (((List (Ja)) × Int × Int × Unit)⊕((Int × Bool × Unit) ⊕ (Int × Unit))):=
 bif decide (0 < y2) then bif decide (y0.length<=y1) then some (Qb (Qc (0,false,()))) else (getI y0 y1).bind λx1=>bif !(decide (x1.kind=5)) then bif !(decide (x1.kind=6)) then some (Qc (y0,Qa .i64 (y1+1),Qa .i64 (y2 - 1),())) else bif decide ((512#64).toNat < x1.number.toNat) then some (Qb (Qc (0,false,()))) else let v2:=Qa .i64 (Qa .i64 (y2 - 1)+Qa .i64 (x1.number.toNat:Int));bif decide (x1.kind=6) then let v3:=Qa .i64 (v2+Qa .i64 (x1.number.toNat:Int));some (Qc (y0,Qa .i64 (y1+1),v3,())) else some (Qc (y0,Qa .i64 (y1+1),v2,())) else bif decide ((512#64).toNat < x1.number.toNat) then some (Qb (Qc (0,false,()))) else let v4:=Qa .i64 (Qa .i64 (y2 - 1)+Qa .i64 (x1.number.toNat:Int));bif decide (x1.kind=6) then let v5:=Qa .i64 (v4+Qa .i64 (x1.number.toNat:Int));some (Qc (y0,Qa .i64 (y1+1),v5,())) else some (Qc (y0,Qa .i64 (y1+1),v4,())) else some (Qb (Qb (y1,())))
def Zmf_L0:=Yi3 Zmf_L0b
def Zmf (a0:List Ja) (a1:Int):O2 Int Bool:=
 bif decide (a1 < 0) then ru 0 false else bif decide (a0.length<=a1) then ru 0 false else (Zmf_L0 (a0,a1,1,())).bind (Qh (λz6=>ru z6.1 z6.2.1) (λz7=>ru z7.1 true))
def S_Zmf:FSpec T:=⟨[qn,qb],[qa,qd],λx=>Zmf x.1 x.2.1⟩
def s_Zmf_L0:LSpec T:=⟨[(0,qn),(4,qb),(6,qb)],[(.ret,[(4,qb),(5,qm)]),(.exit 0,[(4,qb)])],Zmf_L0,[]⟩
def A_Zmf:Loc2 T:=lcA [(0,s_Zmf_L0)] [] []
theorem Vs4:LoopOk Tryz.prog (mE c243) Tryz.f359.ntmps (kqOf S_Zmf.ps 0) (loopAt 0 (bodyOf Tryz.f359)) s_Zmf_L0:=
 lpC hmix o243 A_Zmf Vaa 0 (st:=λy=>Zmf_L0b y.1 y.2.1 y.2.2.1) (λ_=>rfl) (by kernel_rfl) (by kernel_rfl) λx=>by kernel_rfl
theorem Vyp:SoundT Tryz.prog cd gdn 359 S_Zmf:=
 sndC hmix o243 A_Zmf Tryz.func359 (Vah rfl Vs4 Vaa) (by kernel_rfl) (by kernel_rfl) λx=>by kernel_rfl
def c244:List (Ct T):=⟨359,none,S_Zmf,true⟩::c243
theorem o244:EnvOk Tryz.prog (mE c244):=eCons Vyp o243
def c245:List (Ct T):=⟨429,none,S_Zla,false⟩::c244
theorem o245:EnvOk Tryz.prog (mE c245):=eCons Vxy o244
def Zlj_L0b (y0:List Ja) (y1:BitVec 64) (y2:Int) (y3 y4:BitVec 64):Option (((List (Ja)) × (BitVec 64) × Int × (BitVec 64) × (BitVec 64) × Unit)⊕(((List (Ja)) × Bool × Unit) ⊕ (Unit))):=
 bif decide (y4.toNat < y3.toNat) then (Zmf y0 (Qa .i64 (y2+1))).bind λr4=>bif !r4.2.2.1 then some (Qb (Qc ([],false,()))) else (getI y0 y2).bind λx5=>bif decide (x5.kind=1) then (getI y0 y2).bind λx6=>bif decide (x6.number=y1) then bif decide (0<=r4.2.1)&&decide (r4.2.1<=y0.length) then bif decide (0<=Qa .i64 (y2+1))&&decide (Qa .i64 (y2+1)<=r4.2.1.toNat) then let v7:=Qi (Qa .i64 (y2+1)).toNat (Qj r4.2.1.toNat y0);(Zla v7).bind λr8=>some (Qb (Qc (r8.2.1,true,()))) else none else none else some (Qc (y0,y1,r4.2.1,y3,y4+1#64,())) else some (Qc (y0,y1,r4.2.1,y3,y4+1#64,())) else some (Qb (Qb ()))
def Zlj_L0:=Yi5 Zlj_L0b
def Zlj (a0:List Ja) (a1:BitVec 64):O2 (List Ja) Bool:=
 (Zkb a0).bind λr1=>bif !(decide (r1.2.1=0)) then ru [] false else (getI a0 (0:Int)).bind λx2=>bif !(decide (x2.kind=6)) then ru [] false else (getI a0 (0:Int)).bind λx3=>(Zlj_L0 (a0,a1,1,x3.number,0#64,())).bind (Qh (λz9=>ru z9.1 z9.2.1) (λz10=>ru [] false))
def S_Zlj:FSpec T:=⟨[qn,qf],[qx,qd],λx=>Zlj x.1 x.2.1⟩
def E_Zlj:Env T:=⟨tab.find,cd,globs,flc,λf ds=>match f with
  | 359=>some S_Zmf
  | 402=>some S_Zkb
  | 429=>some S_Zla
  | _=>none,λf=>match f with
  | 359=>true
  | 402=>true
  | _=>false⟩
def A_Zlj:Loc2 T:=⟨λid=>match id with
  | 0=>some ⟨[(0,.f (.v (.rs 1))),(1,.f (.v .u64)),(6,.f (.v (.int .i64))),(22,.f (.v .u64)),(23,.f (.v .u64))],[(.ret,[(4,.f (.own 1)),(5,.f (.v .bool))]),(.exit 0,[])],Zlj_L0,[]⟩
  | _=>none,λr=>match r with
  | _=>none,λr=>match r with
  | _=>false⟩
theorem Vs5 (y0:(List (Ja))) (y1:(BitVec 64)) (y2:Int) (y3:(BitVec 64)) (y4:(BitVec 64)):run E_Zlj A_Zlj (loopAt 0 (Tryz.f358.body.getD .skip)) (layC cd [(0,.f (.v (.rs 1))),(1,.f (.v .u64)),(6,.f (.v (.int .i64))),(22,.f (.v .u64)),(23,.f (.v .u64))] [] (y0,y1,y2,y3,y4,())) (roundK cd [(0,.f (.v (.rs 1))),(1,.f (.v .u64)),(6,.f (.v (.int .i64))),(22,.f (.v .u64)),(23,.f (.v .u64))] [] [(.ret,[(4,.f (.own 1)),(5,.f (.v .bool))]),(.exit 0,[])])=Zlj_L0b y0 y1 y2 y3 y4:=by kernel_rfl
theorem Vcca (x:tySs T S_Zlj.ps):run E_Zlj A_Zlj (Tryz.f358.body.getD .skip) (enterT E_Zlj.C S_Zlj.ps x) (retK E_Zlj Tryz.f358.results.toList S_Zlj.ps S_Zlj.rs)=S_Zlj.fn x:=by kernel_rfl
theorem Vs6:EnvOk Tryz.prog E_Zlj:=envOk (E:=E_Zlj) cd_ok tys fl_ok λf ds S h=>by
  dsimp only [E_Zlj] at h;split at h
  ·cases h; exact Vyp
  ·cases h; exact Vyo
  ·cases h; exact Vxy
  ·cases h
theorem Vs7:LoopOk Tryz.prog E_Zlj Tryz.f358.ntmps (kqOf S_Zlj.ps 0) (loopAt 0 (Tryz.f358.body.getD .skip)) ⟨[(0,.f (.v (.rs 1))),(1,.f (.v .u64)),(6,.f (.v (.int .i64))),(22,.f (.v .u64)),(23,.f (.v .u64))],[(.ret,[(4,.f (.own 1)),(5,.f (.v .bool))]),(.exit 0,[])],Zlj_L0,[]⟩:=
 Vd5 (A:=A_Zlj) (done:=[]) (c0:=(Tryz.f358.body.getD .skip)) hmix Vs6 Vaa rounds (by kernel_rfl) (by kernel_rfl) (λx=>Vs5 x.1 x.2.1 x.2.2.1 x.2.2.2.1 x.2.2.2.2.1) (λ_=>rfl)
theorem Vcda:SoundT Tryz.prog cd gdn 358 S_Zlj:=
 Vbi (E:=E_Zlj) (A:=A_Zlj) (done:=[0]) (c:=(Tryz.f358.body.getD .skip)) (S:=S_Zlj) (fn:=Tryz.f358) hmix Vs6 Tryz.func358 rfl (by kernel_rfl) (by kernel_rfl) (Vah rfl Vs7 Vaa) (by kernel_rfl) (by kernel_rfl) Vcca
def c246:List (Ct T):=⟨358,none,S_Zlj,false⟩::c245
theorem o246:EnvOk Tryz.prog (mE c246):=eCons Vcda o245
def Zdl (a0:List Ja) (a1:BitVec 64):O1 Ja:=
 (Zlj a0 a1).bind λr1=>bif !r1.2.2.1 then some ((),{},()) else bif decide ((r1.2.1.length:Int)=0) then some ((),{},()) else bif decide (0 < (r1.2.1.length:Int)) then r1.2.1[0]?.bind λx2=>rt x2 else none
def c247:=ct c246 357 [qn,qf] [qw] (u2 Zdl)
theorem o247:EO c247:=sz o246 Tryz.func357
def Zcv (a0:List Ja) (a1:BitVec 64):O1 (List UInt8):=
 (Zdl a0 a1).bind λr1=>rt r1.2.1.data
def c248:=cf c247 233 [qn,qf] [qj] (u2 Zcv)
theorem o248:EO c248:=sz o247 Tryz.func233
def Zba_L0b (y0:List Ja) (y1:List (List Ja)) (y2:Int):Option (((List (Ja)) × (List (List Ja)) × Int × Unit)⊕((List (List Ja)) × Unit)):=
 bif decide (y2 < y0.length) then (Zmf y0 y2).bind λr4=>bif !r4.2.2.1 then some (Qb (y1,())) else bif decide (r4.2.1<=y2) then some (Qb (y1,())) else bif decide (y0.length < r4.2.1) then some (Qb (y1,())) else bif decide (0<=r4.2.1)&&decide (r4.2.1<=y0.length) then bif decide (0<=y2)&&decide (y2<=r4.2.1.toNat) then let v5:List (List Ja):=[Qi y2.toNat (Qj r4.2.1.toNat y0)];bif small (y1.length+(v5:List (List Ja)).length) 24 then some (Qc (y0,y1++v5,r4.2.1,())) else none else none else none else some (Qb (y1,()))
def Zba_L0:=Yi3 Zba_L0b
def Zba (a0:List Ja) (a1:BitVec 64):O1 (List (List Ja)):=
 (Zlj a0 a1).bind λr1=>bif !r1.2.2.1 then rt [] else (Zba_L0 (r1.2.1,[],1,())).bind λz6=>rt z6.1
def c249:=cf c248 239 [qn,qf] [(.own 31)] (u2 Zba)
def s_Zba_L0:LSpec T:=⟨[(5,qn),(7,qa2),(8,qb)],[(.exit 0,[(7,qa2)])],Zba_L0,[]⟩
def A_Zba:Loc2 T:=lcA [(0,s_Zba_L0)] [] []
theorem Vs8:LO c249 Tryz.f239 0 s_Zba_L0:=lx o248 A_Zba dn (λ_=>rfl)
theorem o249:EO c249:=sx o248 A_Zba Tryz.func239 (dc rfl Vs8 dn)
def Zdm_L0b (y0:List (List UInt8)) (y1:List (List Ja)) (y2 y3:Int):Option (((List (List UInt8)) × (List (List Ja)) × Int × Int × Unit)⊕((List (List UInt8)) × Unit)):=
 bif decide (y3 < y2) then bif decide (0<=y3)&&decide (y3 < y1.length) then y1[y3.toNat]?.bind λx2=>(getI x2 (0:Int)).bind λx3=>bif small (y0.length+([x3.data]).length) 24 then some (Qc (y0++[x3.data],y1,y2,Qa .i64 (y3+1),())) else none else none else some (Qb (y0,()))
def Zdm_L0:=Yi4 Zdm_L0b
def Zdm (a0:List Ja) (a1:BitVec 64):O1 (List (List UInt8)):=
 (Zba a0 a1).bind λr1=>(Zdm_L0 ([],r1.2.1,(r1.2.1.length:Int),0,())).bind λz4=>rt z4.1
def c250:=cf c249 234 [qn,qf] [qbg] (u2 Zdm)
def s_Zdm_L0:LSpec T:=⟨[(5,(.f qbg)),(10,qa2),(11,qb),(12,qb)],[(.exit 0,[(5,(.f qbg))])],Zdm_L0,[]⟩
def A_Zdm:Loc2 T:=lcA [(0,s_Zdm_L0)] [] []
theorem Vs9:LO c250 Tryz.f234 0 s_Zdm_L0:=lx o249 A_Zdm dn (λ_=>rfl)
theorem o250:EO c250:=sx o249 A_Zdm Tryz.func234 (dc rfl Vs9 dn)
def Zce (a0:List Ja) (a1:BitVec 64):O1 Int:=
 (Zdl a0 a1).bind λr1=>rt (Qa .i64 (r1.2.1.number.toNat:Int))
def c251:=ct c250 235 [qn,qf] [qa] (u2 Zce)
theorem o251:EO c251:=sz o250 Tryz.func235
def Zdn (a0:List Ja) (a1:BitVec 64):O1 (List UInt8):=
 (Zdl a0 a1).bind λr1=>rt r1.2.1.data
def c252:=ct c251 236 [qn,qf] [qs] (u2 Zdn)
theorem o252:EO c252:=sz o251 Tryz.func236
def Zdo (a0:List Ja) (a1:BitVec 64):O1 (BitVec 64):=
 (Zdl a0 a1).bind λr1=>rt r1.2.1.number
def c253:=ct c252 237 [qn,qf] [qu] (u2 Zdo)
theorem o253:EO c253:=sz o252 Tryz.func237
def Zdk (a0:List Ja) (a1:BitVec 64):O1 Bool:=
 (Zdl a0 a1).bind λr1=>rt (decide (r1.2.1.number=1#64))
def c254:=ct c253 238 [qn,qf] [qd] (u2 Zdk)
theorem o254:EO c254:=sz o253 Tryz.func238
def Zki_L0b (y0:Jg×Unit) (y1:Int×List UInt8×List UInt8×List (List UInt8)×Int×List UInt8×List UInt8×List UInt8×Int×BitVec 64×List UInt8×BitVec 64×Int×Int×Int×Bool×Bool×List Jy×Unit) (y2:List (List Ja)) (y3 y4:Int):Option (((Jg × Unit) × (Int × (List (UInt8)) × (List (UInt8)) × (List (List UInt8)) × Int × (List (UInt8)) × (List UInt8) × (List UInt8) × Int × (BitVec 64) × (List (UInt8)) × (BitVec 64) × Int × Int × Int × Bool × Bool × (List (Jy)) × Unit) × (List (List Ja)) × Int × Int × Unit)⊕((Jg × Unit) × (Int × (List (UInt8)) × (List (UInt8)) × (List (List UInt8)) × Int × (List (UInt8)) × (List UInt8) × (List UInt8) × Int × (BitVec 64) × (List (UInt8)) × (BitVec 64) × Int × Int × Int × Bool × Bool × (List (Jy)) × Unit) × Unit)):=
 bif decide (y4 < y3) then bif decide (0<=y4)&&decide (y4 < y2.length) then y2[y4.toNat]?.bind λx18=>(Zdn x18 1#64).bind λr19=>(Zdn x18 2#64).bind λr20=>(Zdn x18 3#64).bind λr21=>(Zcv x18 4#64).bind λr22=>(Zce x18 5#64).bind λr23=>let v24:List Jy:=[⟨r19.2.1,r20.2.1,r21.2.1,r22.2.1,r23.2.1⟩];bif small (y1.2.2.2.2.2.2.2.2.2.2.2.2.2.2.2.2.2.1.length+(v24:List Jy).length) 80 then let v25:=y1.2.2.2.2.2.2.2.2.2.2.2.2.2.2.2.2.2.1++v24;some (Qc ((y0.1,()),(y1.1,y1.2.1,y1.2.2.1,y1.2.2.2.1,y1.2.2.2.2.1,y1.2.2.2.2.2.1,y1.2.2.2.2.2.2.1,y1.2.2.2.2.2.2.2.1,y1.2.2.2.2.2.2.2.2.1,y1.2.2.2.2.2.2.2.2.2.1,y1.2.2.2.2.2.2.2.2.2.2.1,y1.2.2.2.2.2.2.2.2.2.2.2.1,y1.2.2.2.2.2.2.2.2.2.2.2.2.1,y1.2.2.2.2.2.2.2.2.2.2.2.2.2.1,y1.2.2.2.2.2.2.2.2.2.2.2.2.2.2.1,y1.2.2.2.2.2.2.2.2.2.2.2.2.2.2.2.1,y1.2.2.2.2.2.2.2.2.2.2.2.2.2.2.2.2.1,v25,()),y2,y3,Qa .i64 (y4+1),())) else none else none else some (Qb ((y0.1,()),y1,()))
def Zki_L0:=Yi5 Zki_L0b
def Zki (a0:List Ja):O1 Jg:=
 (Zcv a0 1#64).bind λr1=>(Zcv a0 2#64).bind λr2=>(Zdm a0 3#64).bind λr3=>(Zce a0 4#64).bind λr4=>(Zcv a0 5#64).bind λr5=>(Zdn a0 6#64).bind λr6=>(Zdn a0 7#64).bind λr7=>(Zce a0 8#64).bind λr8=>(Zdo a0 9#64).bind λr9=>(Zcv a0 10#64).bind λr10=>(Zdo a0 11#64).bind λr11=>(Zce a0 12#64).bind λr12=>(Zce a0 13#64).bind λr13=>(Zce a0 14#64).bind λr14=>(Zdk a0 15#64).bind λr15=>(Zdk a0 16#64).bind λr16=>(Zba a0 17#64).bind λr17=>(Zki_L0 (({},()),(0,r1.2.1,r2.2.1,r3.2.1,r4.2.1,r5.2.1,r6.2.1,r7.2.1,r8.2.1,r9.2.1,r10.2.1,r11.2.1,r12.2.1,r13.2.1,r14.2.1,r15.2.1,r16.2.1,[],()),r17.2.1,(r17.2.1.length:Int),0,())).bind λz26=>rt ⟨z26.2.1.1,z26.2.1.2.1,z26.2.1.2.2.1,z26.2.1.2.2.2.1,z26.2.1.2.2.2.2.1,z26.2.1.2.2.2.2.2.1,z26.2.1.2.2.2.2.2.2.1,z26.2.1.2.2.2.2.2.2.2.1,z26.2.1.2.2.2.2.2.2.2.2.1,z26.2.1.2.2.2.2.2.2.2.2.2.1,z26.2.1.2.2.2.2.2.2.2.2.2.2.1,z26.2.1.2.2.2.2.2.2.2.2.2.2.2.1,z26.2.1.2.2.2.2.2.2.2.2.2.2.2.2.1,z26.2.1.2.2.2.2.2.2.2.2.2.2.2.2.2.1,z26.2.1.2.2.2.2.2.2.2.2.2.2.2.2.2.2.1,z26.2.1.2.2.2.2.2.2.2.2.2.2.2.2.2.2.2.1,z26.2.1.2.2.2.2.2.2.2.2.2.2.2.2.2.2.2.2.1,z26.2.1.2.2.2.2.2.2.2.2.2.2.2.2.2.2.2.2.2.1⟩
def c255:=cf c254 146 [qn] [qaj] (u1 Zki)
def s_Zki_L0:LSpec T:=⟨[(2,qi),(3,qba),(41,qa2),(42,qb),(43,qb)],[(.exit 0,[(2,qi),(3,qba)])],Zki_L0,[]⟩
def A_Zki:Loc2 T:=lcA [(0,s_Zki_L0)] [] [6]
theorem Vta:LO c255 Tryz.f146 0 s_Zki_L0:=lx o254 A_Zki dn (λ_=>rfl)
theorem o255:EO c255:=sx o254 A_Zki Tryz.func146 (dc rfl Vta dn)
def Zeq (a0:Jg):O1 (BitVec 32):=
 let v1:List Bool:=[decide (0 < (a0.jaf.length:Int)),decide (0 < (a0.jab.length:Int)),decide (0 < (a0.jh.length:Int)),!(decide (a0.jm=0)),decide (0 < (a0.iD.length:Int)),!(decide (a0.user=([]:List UInt8))),!(decide (a0.name=([]:List UInt8))),!(decide (a0.count=0)),!(decide (a0.jbi=0#64)),decide (0 < (a0.box.length:Int)),!(decide (a0.jan=0#64)),!(decide (a0.jav=0)),!(decide (a0.jbp=0)),!(decide (a0.jbm=0)),a0.jap,a0.jai,decide (0 < (a0.jae.length:Int))];(Zkv v1).bind λr2=>rt r2.2.1
def c256:=ct c255 241 qbz [(.v .u32)] (u1 Zeq)
theorem o256:EO c256:=sz o255 Tryz.func241
def Zcf_L0b (y0:Jg×Unit) (y1:List (List UInt8)) (y2 y3:Int):Option (((Jg × Unit) × (List (List UInt8)) × Int × Int × Unit)⊕((Bool × Unit) ⊕ ((Jg × Unit) × Unit))):=
 bif decide (y3 < y2) then (getI y1 y3).bind λx1=>bif decide (1024 < (x1.length:Int)) then some (Qb (Qc (true,()))) else some (Qc ((y0.1,()),y1,y2,Qa .i64 (y3+1),())) else some (Qb (Qb ((y0.1,()),())))
def Zcf_L0:=Yi4 Zcf_L0b
def Zcf_L2b (y0:Jg×Unit) (y1:List Jy) (y2 y3:Int):Option (((Jg × Unit) × (List (Jy)) × Int × Int × Unit)⊕((Bool × Unit) ⊕ ((Jg × Unit) × Unit))):=
 bif decide (y3 < y2) then (getI y1 y3).bind λx4=>bif decide (64 < (x4.rP.length:Int)) then some (Qb (Qc (true,()))) else bif decide (16 < (x4.user.length:Int)) then some (Qb (Qc (true,()))) else bif decide (32 < (x4.name.length:Int)) then some (Qb (Qc (true,()))) else some (Qc ((y0.1,()),y1,y2,Qa .i64 (y3+1),())) else some (Qb (Qb ((y0.1,()),())))
def Zcf_L2:=Yi4 Zcf_L2b
def Zcf (a0:Jg):O1 Bool:=
 (Zcf_L0 ((a0,()),a0.jh,(a0.jh.length:Int),0,())).bind (Qh (λz2=>rt z2.1) (λz3=>(Zcf_L2 ((z3.1.1,()),z3.1.1.jae,(z3.1.1.jae.length:Int),0,())).bind (Qh (λz5=>rt z5.1) (λz6=>let v7:Int:=bif decide ((bif decide ((z6.1.1.jaf.length:Int) < (z6.1.1.jab.length:Int)) then (z6.1.1.jab.length:Int) else (z6.1.1.jaf.length:Int)) < z6.1.1.box.length) then (z6.1.1.box.length:Int) else bif decide ((z6.1.1.jaf.length:Int) < (z6.1.1.jab.length:Int)) then (z6.1.1.jab.length:Int) else (z6.1.1.jaf.length:Int);bif decide (1024 < v7) then rt true else bif decide (3 < (z6.1.1.jh.length:Int)) then rt true else bif decide (8 < (z6.1.1.jae.length:Int)) then rt true else bif decide (16 < (z6.1.1.user.length:Int)) then rt true else rt (decide (32 < (z6.1.1.name.length:Int)))))))
def c257:=ct c256 361 qbz [qd] (u1 Zcf)
def s_Zcf_L0:LSpec T:=⟨[(1,qi),(8,qa3),(9,qb),(10,qb)],[(.ret,[(2,qm)]),(.exit 0,[(1,qi)])],Zcf_L0,[]⟩
def s_Zcf_L2:LSpec T:=⟨[(1,qi),(19,qbe),(20,qb),(21,qb)],[(.ret,[(2,qm)]),(.exit 2,[(1,qi)])],Zcf_L2,[]⟩
def A_Zcf:Loc2 T:=lcA [(0,s_Zcf_L0),(2,s_Zcf_L2)] [] []
theorem Vkx:LO c257 Tryz.f361 0 s_Zcf_L0:=lx o256 A_Zcf dn (λ_=>rfl)
theorem Vtb:LO c257 Tryz.f361 2 s_Zcf_L2:=lx o256 A_Zcf (dc rfl Vkx dn) (λ_=>rfl)
theorem o257:EO c257:=sx o256 A_Zcf Tryz.func361 (dc rfl Vkx (dc rfl Vtb dn))
def Zer_L0b (y0:Jg×Unit) (y1:List Jy) (y2 y3:Int):Option (((Jg × Unit) × (List (Jy)) × Int × Int × Unit)⊕((Bool × Unit) ⊕ ((Jg × Unit) × Unit))):=
 bif decide (y3 < y2) then (getI y1 y3).bind λx1=>(Zit x1.rP).bind λr2=>bif !r2.2.1 then some (Qb (Qc (false,()))) else (Zit x1.name).bind λr3=>bif !r3.2.1 then some (Qb (Qc (false,()))) else some (Qc ((y0.1,()),y1,y2,Qa .i64 (y3+1),())) else some (Qb (Qb ((y0.1,()),())))
def Zer_L0:=Yi4 Zer_L0b
def Zer (a0:Jg):O1 Bool:=
 (Zer_L0 ((a0,()),a0.jae,(a0.jae.length:Int),0,())).bind (Qh (λz4=>rt z4.1) (λz5=>(Zit z5.1.1.name).bind λr6=>rt r6.2.1))
def c258:=ct c257 362 qbz [qd] (u1 Zer)
def s_Zer_L0:LSpec T:=⟨[(1,qi),(6,qbe),(7,qb),(8,qb)],[(.ret,[(2,qm)]),(.exit 0,[(1,qi)])],Zer_L0,[]⟩
def A_Zer:Loc2 T:=lcA [(0,s_Zer_L0)] [] []
theorem Vtc:LO c258 Tryz.f362 0 s_Zer_L0:=lx o257 A_Zer dn (λ_=>rfl)
theorem o258:EO c258:=sx o257 A_Zer Tryz.func362 (dc rfl Vtc dn)
def Zcw_L0b (y0:Jg×Unit) (y1:List Jy) (y2 y3:Int):Option (((Jg × Unit) × (List (Jy)) × Int × Int × Unit)⊕((Bool × Unit) ⊕ ((Jg × Unit) × Unit))):=
 bif decide (y3 < y2) then (getI y1 y3).bind λx1=>(Zhq [x1.left]).bind λr2=>bif !r2.2.1 then some (Qb (Qc (false,()))) else some (Qc ((y0.1,()),y1,y2,Qa .i64 (y3+1),())) else some (Qb (Qb ((y0.1,()),())))
def Zcw_L0:=Yi4 Zcw_L0b
def Zcw (a0:Jg):O1 Bool:=
 (Zcw_L0 ((a0,()),a0.jae,(a0.jae.length:Int),0,())).bind (Qh (λz3=>rt z3.1) (λz4=>let v5:List Int:=[z4.1.1.jm,z4.1.1.count,z4.1.1.jav,z4.1.1.jbp,z4.1.1.jbm];(Zhq v5).bind λr6=>rt r6.2.1))
def c259:=ct c258 360 qbz [qd] (u1 Zcw)
def s_Zcw_L0:LSpec T:=⟨[(1,qi),(6,qbe),(7,qb),(8,qb)],[(.ret,[(2,qm)]),(.exit 0,[(1,qi)])],Zcw_L0,[]⟩
def A_Zcw:Loc2 T:=lcA [(0,s_Zcw_L0)] [] []
theorem Vtd:LO c259 Tryz.f360 0 s_Zcw_L0:=lx o258 A_Zcw dn (λ_=>rfl)
theorem o259:EO c259:=sx o258 A_Zcw Tryz.func360 (dc rfl Vtd dn)
def Zcd_L1b (y0:List Jy) (y1 y2:Int):Option (((List (Jy)) × Int × Int × Unit)⊕((Int × Unit) ⊕ (Unit))):=
 bif decide (y2 < y1) then (getI y0 y2).bind λx18=>bif !(decide ((x18.iD.length:Int)=176)) then some (Qb (Qc (4,()))) else some (Qc (y0,y1,Qa .i64 (y2+1),())) else some (Qb (Qb ()))
def Zcd_L1:=Yi3 Zcd_L1b
def Zcd (a0:Jg):O1 Int:=
 (bif decide (a0.err < 0) then bif decide (a0.err < 0) then (rt (9:Int)).bind λq=>some (Qb q) else bif !(decide (a0.err=0)) then (Zeq a0).bind λr1=>bif !(decide (r1.2.1=0#32)) then (rt (4:Int)).bind λq=>some (Qb q) else (Zcf a0).bind λr2=>bif r2.2.1 then (rt (8:Int)).bind λq=>some (Qb q) else (Zer a0).bind λr3=>bif !r3.2.1 then (rt (6:Int)).bind λq=>some (Qb q) else bif decide (0 < (a0.iD.length:Int)) then bif !(decide ((a0.iD.length:Int)=176)) then (rt (4:Int)).bind λq=>some (Qb q) else some (Qc ((a0,()),())) else some (Qc ((a0,()),())) else (Zcf a0).bind λr4=>bif r4.2.1 then (rt (8:Int)).bind λq=>some (Qb q) else (Zer a0).bind λr5=>bif !r5.2.1 then (rt (6:Int)).bind λq=>some (Qb q) else bif decide (0 < (a0.iD.length:Int)) then bif !(decide ((a0.iD.length:Int)=176)) then (rt (4:Int)).bind λq=>some (Qb q) else some (Qc ((a0,()),())) else some (Qc ((a0,()),())) else bif decide (42 < a0.err) then bif decide (42 < a0.err) then (rt (9:Int)).bind λq=>some (Qb q) else bif !(decide (a0.err=0)) then (Zeq a0).bind λr6=>bif !(decide (r6.2.1=0#32)) then (rt (4:Int)).bind λq=>some (Qb q) else (Zcf a0).bind λr7=>bif r7.2.1 then (rt (8:Int)).bind λq=>some (Qb q) else (Zer a0).bind λr8=>bif !r8.2.1 then (rt (6:Int)).bind λq=>some (Qb q) else bif decide (0 < (a0.iD.length:Int)) then bif !(decide ((a0.iD.length:Int)=176)) then (rt (4:Int)).bind λq=>some (Qb q) else some (Qc ((a0,()),())) else some (Qc ((a0,()),())) else (Zcf a0).bind λr9=>bif r9.2.1 then (rt (8:Int)).bind λq=>some (Qb q) else (Zer a0).bind λr10=>bif !r10.2.1 then (rt (6:Int)).bind λq=>some (Qb q) else bif decide (0 < (a0.iD.length:Int)) then bif !(decide ((a0.iD.length:Int)=176)) then (rt (4:Int)).bind λq=>some (Qb q) else some (Qc ((a0,()),())) else some (Qc ((a0,()),())) else (Zcw a0).bind λr11=>bif !r11.2.1 then (rt (9:Int)).bind λq=>some (Qb q) else bif !(decide (a0.err=0)) then (Zeq a0).bind λr12=>bif !(decide (r12.2.1=0#32)) then (rt (4:Int)).bind λq=>some (Qb q) else (Zcf a0).bind λr13=>bif r13.2.1 then (rt (8:Int)).bind λq=>some (Qb q) else (Zer a0).bind λr14=>bif !r14.2.1 then (rt (6:Int)).bind λq=>some (Qb q) else bif decide (0 < (a0.iD.length:Int)) then bif !(decide ((a0.iD.length:Int)=176)) then (rt (4:Int)).bind λq=>some (Qb q) else some (Qc ((a0,()),())) else some (Qc ((a0,()),())) else (Zcf a0).bind λr15=>bif r15.2.1 then (rt (8:Int)).bind λq=>some (Qb q) else (Zer a0).bind λr16=>bif !r16.2.1 then (rt (6:Int)).bind λq=>some (Qb q) else bif decide (0 < (a0.iD.length:Int)) then bif !(decide ((a0.iD.length:Int)=176)) then (rt (4:Int)).bind λq=>some (Qb q) else some (Qc ((a0,()),())) else some (Qc ((a0,()),()))).bind (Qh (λj17=>(Zcd_L1 (j17.1.1.jae,(j17.1.1.jae.length:Int),0,())).bind (Qh (λz19=>rt z19.1) (λz20=>rt 0))) some)
def c260:=ct c259 240 qbz [qa] (u1 Zcd)
def s_Zcd_L1:LSpec T:=⟨[(43,qbe),(44,qb),(45,qb)],[(.ret,[(2,qb)]),(.exit 1,[])],Zcd_L1,[]⟩
def A_Zcd:Loc2 T:=lcA [(1,s_Zcd_L1)] [(13,[(1,qi)],false)] []
theorem Vte:LO c260 Tryz.f240 1 s_Zcd_L1:=lx o259 A_Zcd dn (λ_=>rfl)
theorem o260:EO c260:=sx o259 A_Zcd Tryz.func240 (dc rfl Vte dn)
def Zep_L0b (y0:List (List Ja)) (y1:List Jy) (y2 y3:Int):Option (((List (List Ja)) × (List (Jy)) × Int × Int × Unit)⊕(((List (Ja)) × Unit) ⊕ ((List (List Ja)) × Unit))):=
 bif decide (y3 < y2) then (getI y1 y3).bind λx1=>(Zmg x1.rP).bind λr2=>(Zlw x1.user).bind λr3=>(Zmg x1.name).bind λr4=>(Zlw x1.iD).bind λr5=>(Zmh (Qf 64 x1.left)).bind λr6=>let v7:List (List Ja):=[r2.2.1,r3.2.1,r4.2.1,r5.2.1,r6.2.1];(Zmk [1#64,2#64,3#64,4#64,5#64] v7).bind λr8=>bif !(decide (r8.2.2.1=0)) then some (Qb (Qc ([],()))) else bif small (y0.length+([r8.2.1]).length) 24 then some (Qc (y0++[r8.2.1],y1,y2,Qa .i64 (y3+1),())) else none else some (Qb (Qb (y0,())))
def Zep_L0:=Yi4 Zep_L0b
def Zep (a0:List Jy):O1 (List Ja):=
 (Zep_L0 ([],a0,(a0.length:Int),0,())).bind (Qh (λz9=>rt z9.1) (λz10=>(Zkg z10.1).bind λr11=>rt r11.2.1))
def c261:=cf c260 242 [qbe] [qbu] (u1 Zep)
def s_Zep_L0:LSpec T:=⟨[(3,qa2),(9,qbe),(10,qb),(11,qb)],[(.ret,[(2,qbn)]),(.exit 0,[(3,qa2)])],Zep_L0,[]⟩
def A_Zep:Loc2 T:=lcA [(0,s_Zep_L0)] [] [6]
theorem Vtf:LO c261 Tryz.f242 0 s_Zep_L0:=lx o260 A_Zep dn (λ_=>rfl)
theorem o261:EO c261:=sx o260 A_Zep Tryz.func242 (dc rfl Vtf dn)
def Zdj (a0:Jg):O2 (List UInt8) Int:=
 (Zcd a0).bind λr1=>bif !(decide (r1.2.1=0)) then ru [] r1.2.1 else bif !(decide (a0.err=0)) then ru [Qd (Qf 8 a0.err)] 0 else (Zeq a0).bind λr2=>(Zlw a0.jaf).bind λr3=>(Zlw a0.jab).bind λr4=>(Zjf a0.jh).bind λr5=>(Zmh (Qf 64 a0.jm)).bind λr6=>(Zlw a0.iD).bind λr7=>(Zlw a0.user).bind λr8=>(Zmg a0.name).bind λr9=>(Zmh (Qf 64 a0.count)).bind λr10=>(Zmh a0.jbi).bind λr11=>(Zlw a0.box).bind λr12=>(Zmh a0.jan).bind λr13=>(Zmh (Qf 64 a0.jav)).bind λr14=>(Zmh (Qf 64 a0.jbp)).bind λr15=>(Zmh (Qf 64 a0.jbm)).bind λr16=>(Zme a0.jap).bind λr17=>(Zme a0.jai).bind λr18=>(Zep a0.jae).bind λr19=>let v20:List (List Ja):=[r3.2.1,r4.2.1,r5.2.1,r6.2.1,r7.2.1,r8.2.1,r9.2.1,r10.2.1,r11.2.1,r12.2.1,r13.2.1,r14.2.1,r15.2.1,r16.2.1,r17.2.1,r18.2.1,r19.2.1];(Zjx 0 r2.2.1 v20).bind λr21=>bif decide (r21.2.2.1=0) then bif decide (4096 < (r21.2.1.length:Int)) then ru [] 8 else ru r21.2.1 r21.2.2.1 else ru r21.2.1 r21.2.2.1
def c262:=cf c261 147 qbz [qj,qa] (u1 Zdj)
theorem o262:EO c262:=sx o261 (lcA [] [] [6]) Tryz.func147 dn
def Zdi (a0:List UInt8):O2 Jg Int:=
 bif decide ((a0.length:Int)=0) then some ((),{},1,()) else bif decide (4096 < (a0.length:Int)) then some ((),{},8,()) else (getI a0 (0:Int)).bind λx1=>bif decide (42 < (x1.toBitVec.toNat:Int)) then some ((),{},2,()) else (getI a0 (0:Int)).bind λx2=>(bif decide ((x2.toBitVec.toNat:Int)=0) then bif decide (1<=(a0.length:Int)) then (Zlh (Qi 1 a0)).bind λr3=>bif !(decide (r3.2.2.2.1=0)) then (ru ({}:Jg) r3.2.2.2.1).bind λq=>some (Qb q) else (Zki r3.2.1).bind λr4=>some (Qc (a0,(({}:Jg),()),(r4.2.1,()),())) else none else some (Qc (a0,(({}:Jg),()),(({err:=(x2.toBitVec.toNat:Int)}:Jg),()),()))).bind (Qh (λj5=>(Zdj j5.2.2.1.1).bind λr6=>bif !(decide (r6.2.2.1=0)) then some ((),{},2,()) else (Zlg r6.2.1 j5.1).bind λr7=>bif !r7.2.1 then some ((),{},2,()) else ru j5.2.2.1.1 0) some)
def c263:=cf c262 88 [qe] [qaj,qa] (u1 Zdi)
theorem o263:EO c263:=sx o262 (lcA [] [(13,[(0,qe),(2,qi),(4,qi)],false)] []) Tryz.func88 dn
def Zlo (a0:Int) (a1:List UInt8):O1 (BitVec 64):=
 (Zmc (Qf 64 a0) 0#64 a1).bind λr1=>rt r1.2.1
def c264:=ct c263 246 [qb,qe] [qu] (u2 Zlo)
theorem o264:EO c264:=sz o263 Tryz.func246
def Zjb (a0:List UInt8):O1 (BitVec 64):=
 (Zlo 11 a0).bind λr1=>rt r1.2.1
def c265:=ct c264 243 [qg] [qu] (u1 Zjb)
theorem o265:EO c265:=sz o264 Tryz.func243
def Zjw (a0:Jb):Option (Unit×Jb×List Je×Jp×Unit):=
 (Zjb a0.data).bind λr1=>(bif decide (a0.js.kind=1) then some ((a0,()),(({}:Jb),()),(({}:Jp),()),(({a0.js with kind:=2,jbl:=r1.2.1,jbg:=false,jo:=a0.jo,auth:=0#64,jas:=false,jbi:=0#64,box:=[],proof:=[],jq:=0,iD:=[],count:=0}:Jm),()),()) else some ((a0,()),(({}:Jb),()),(({}:Jp),()),(({kind:=3,rP:=a0.js.rP,jbl:=r1.2.1,list:=a0.js.list,jbg:=true,jo:=a0.jo}:Jm),()),())).bind λj2=>(bif j2.1.1.jbu then none else some ((j2.1.1,()),(j2.2.1.1,()),(j2.2.2.1.1,()),(j2.2.2.2.1.1,()),())).bind λj3=>(Zma ({j3.1.1 with jy:=6}:Jb) j3.2.2.2.1.1).bind λr4=>some ((),r4.2.1,r4.2.2.1,r4.2.2.2.1,())
def c266:=cf c265 148 [qb4] [ql,qax,qab] (u1 Zjw)
theorem o266:EO c266:=sx o265 (lcA [] [(13,[(1,qav),(2,qav),(4,qbc),(6,qo)],true),(16,[(1,qav),(2,qav),(4,qbc),(6,qo)],true)] [2,14]) Tryz.func148 dn
def Ziz (a0:Jb) (a1:Jg):Option (Unit×Jb×List Je×Jp×Unit):=
 bif decide (a0.js.jo=2) then bif !a1.jai then bif !a1.jap then none else some ((),{a0 with jy:=3},[],{},()) else (Zjw ({a0 with jo:=true}:Jb)).bind λr1=>some ((),r1.2.1,r1.2.2.1,r1.2.2.2.1,()) else bif decide (a0.js.jo=1) then bif a1.jai then bif !a1.jai then bif !a1.jap then none else some ((),{a0 with jy:=3},[],{},()) else (Zjw ({a0 with jo:=true}:Jb)).bind λr2=>some ((),r2.2.1,r2.2.2.1,r2.2.2.2.1,()) else bif a1.jap then bif !a1.jai then bif !a1.jap then none else some ((),{a0 with jy:=3},[],{},()) else (Zjw ({a0 with jo:=true}:Jb)).bind λr3=>some ((),r3.2.1,r3.2.2.1,r3.2.2.2.1,()) else bif decide (a0.js.kind=1) then bif a1.jap then bif !a1.jai then bif !a1.jap then none else some ((),{a0 with jy:=3},[],{},()) else bif a1.jap then (Zjw ({a0 with jo:=true}:Jb)).bind λr4=>some ((),r4.2.1,r4.2.2.1,r4.2.2.2.1,()) else (Zjw a0).bind λr5=>some ((),r5.2.1,r5.2.2.1,r5.2.2.2.1,()) else bif a1.jap then (Zjw ({a0 with jo:=true}:Jb)).bind λr6=>some ((),r6.2.1,r6.2.2.1,r6.2.2.2.1,()) else (Zjw a0).bind λr7=>some ((),r7.2.1,r7.2.2.1,r7.2.2.2.1,()) else (Zjw a0).bind λr8=>some ((),r8.2.1,r8.2.2.1,r8.2.2.2.1,()) else bif decide (a0.js.kind=1) then bif a1.jap then bif !a1.jai then bif !a1.jap then none else some ((),{a0 with jy:=3},[],{},()) else bif a1.jap then (Zjw ({a0 with jo:=true}:Jb)).bind λr9=>some ((),r9.2.1,r9.2.2.1,r9.2.2.2.1,()) else (Zjw a0).bind λr10=>some ((),r10.2.1,r10.2.2.1,r10.2.2.2.1,()) else bif a1.jap then (Zjw ({a0 with jo:=true}:Jb)).bind λr11=>some ((),r11.2.1,r11.2.2.1,r11.2.2.2.1,()) else (Zjw a0).bind λr12=>some ((),r12.2.1,r12.2.2.1,r12.2.2.2.1,()) else (Zjw a0).bind λr13=>some ((),r13.2.1,r13.2.2.1,r13.2.2.2.1,())
def c267:=cf c266 89 [qb4,(.f qaj)] [ql,qax,qab] (u2 Ziz)
theorem o267:EO c267:=sz o266 Tryz.func89
def Zln (a0:Jb):O1 Jb:=
 rt {jah:=a0.jah,jak:=a0.jak,jaa:=a0.jaa}
def c268:=cf c267 92 [qb4] [ql] (u1 Zln)
theorem o268:EO c268:=sz o267 Tryz.func92
def Zjz_L0b (y0:BitVec 64) (y1:List UInt8) (y2 y3:Int):Option (((BitVec 64) × (List (UInt8)) × Int × Int × Unit)⊕((BitVec 64) × Unit)):=
 bif decide (y3 < y2) then (getI y1 y3).bind λx1=>some (Qc (y0 <<< 8 ||| Qg 64 x1.toBitVec,y1,y2,Qa .i64 (y3+1),())) else some (Qb (y0,()))
def Zjz_L0:=Yi4 Zjz_L0b
def Zjz (a0:List UInt8):O1 (BitVec 64):=
 (Zjz_L0 (0#64,a0,(a0.length:Int),(0:Int),())).bind λz2=>rt z2.1
def S_Zjz:FSpec T:=⟨[qe],[qu],λx=>Zjz x.1⟩
def s_Zjz_L0:LSpec T:=⟨[(3,qf),(6,qe),(7,qb),(8,qb)],[(.exit 0,[(3,qf)])],Zjz_L0,[]⟩
def A_Zjz:Loc2 T:=lcA [(0,s_Zjz_L0)] [] []
theorem Vtg:LoopOk Tryz.prog (mE c268) Tryz.f251.ntmps (kqOf S_Zjz.ps 0) (loopAt 0 (bodyOf Tryz.f251)) s_Zjz_L0:=
 lpC hmix o268 A_Zjz Vaa 0 (st:=λy=>Zjz_L0b y.1 y.2.1 y.2.2.1 y.2.2.2.1) (λ_=>rfl) (by kernel_rfl) (by kernel_rfl) λx=>by kernel_rfl
theorem Vyq:SoundT Tryz.prog cd gdn 251 S_Zjz:=
 sndC hmix o268 A_Zjz Tryz.func251 (Vah rfl Vtg Vaa) (by kernel_rfl) (by kernel_rfl) λx=>by kernel_rfl
def c269:List (Ct T):=⟨251,none,S_Zjz,true⟩::c268
theorem o269:EnvOk Tryz.prog (mE c269):=eCons Vyq o268
def Zkp (a0:Jw) (a1:Int):O1 Bool:=
 let v1:=Qa .i64 ((Qf (Qk .i64) a0.jay&&&Qf (Qk .i64) a1).toNat:Int);rt (!(decide (v1=0)))
def S_Zkp:FSpec T:=⟨[(.f qbd),qb],[qd],λx=>Zkp x.1 x.2.1⟩
theorem Vyr:SoundT Tryz.prog cd gdn 252 S_Zkp:=
 sndC hmix o269 (lcA [] [] []) Tryz.func252 Vaa (by kernel_rfl) (by kernel_rfl) λx=>by kernel_rfl
def c270:List (Ct T):=⟨252,none,S_Zkp,true⟩::c269
theorem o270:EnvOk Tryz.prog (mE c270):=eCons Vyr o269
def Zle (a0:Int):O1 Bool:=
 bif decide (a0 < 0) then rt true else rt (decide (4 < a0))
def c271:=ct c270 368 [qb] [qd] (u1 Zle)
theorem o271:EO c271:=sz o270 Tryz.func368
def Zko_L2b (y0:List UInt8) (y1:List (BitVec 64)) (y2 y3 y4:Int) (y5:List UInt8) (y6 y7:Int):Option (((List (UInt8)) × (List (BitVec 64)) × Int × Int × Int × (List (UInt8)) × Int × Int × Unit)⊕((List (UInt8)) × (List (BitVec 64)) × Int × Int × Unit)):=
 bif decide (y7 < y6) then (getI y5 y7).bind λx5=>bif decide (0<=y2)&&decide (y2 < y1.length) then y1[y2.toNat]?.bind λx6=>bif decide (0<=y2)&&decide (y2 < y1.length) then y1[y2.toNat]?.bind λx7=>let v8:=Ql y1 y2.toNat (x6 <<< 8 ||| Qg 64 x5.toBitVec);some (Qc (y0,v8,y2,y3,y4,y5,y6,Qa .i64 (y7+1),())) else none else none else some (Qb (y0,y1,y3,y4,()))
def Zko_L2:=Yi8 Zko_L2b
def Zko_L0b (y0:List UInt8) (y1:List (BitVec 64)) (y2 y3:Int):Option (((List (UInt8)) × (List (BitVec 64)) × Int × Int × Unit)⊕((List (BitVec 64)) × Unit)):=
 bif decide (y3 < y2) then let v3:=Qa .i64 (Qa .i64 (8*y3)+8);bif decide (0<=v3)&&decide (v3<=y0.length) then bif decide (0<=Qa .i64 (8*y3))&&decide (Qa .i64 (8*y3)<=v3.toNat) then let v4:=Qi (Qa .i64 (8*y3)).toNat (Qj v3.toNat y0);(Zko_L2 (y0,y1,y3,y2,y3,v4,(v4.length:Int),(0:Int),())).bind λz5=>some (Qc (z5.1,z5.2.1,z5.2.2.1,Qa .i64 (z5.2.2.2.1+1),())) else none else none else some (Qb (y1,()))
def Zko_L0:=Yi4 Zko_L0b
def Zko (a0:List UInt8):O1 (List (BitVec 64)):=
 bif decide (0<=Qa .i64 (Qn (a0.length:Int) 8))&&(decide (Qa .i64 (Qn (a0.length:Int) 8)<=Qa .i64 (Qn (a0.length:Int) 8))&&decide (8*Qa .i64 (Qn (a0.length:Int) 8)<=281474976710656/\Qa .i64 (Qn (a0.length:Int) 8)<=9223372036854775807)) then let v1:=Qo (Qa .i64 (Qn (a0.length:Int) 8)).toNat 0#64;let v2:=((Qa .i64 (Qn (a0.length:Int) 8)).toNat:Int);(Zko_L0 (a0,v1,v2,(0:Int),())).bind λz6=>rt z6.1 else none
def c272:=cf c271 369 [qe] [(.own 4)] (u1 Zko)
def s_Zko_L2:LSpec T:=⟨[(0,qe),(3,qb0),(4,qb),(12,qb),(13,qb),(22,qe),(23,qb),(24,qb)],[(.exit 2,[(0,qe),(3,qb0),(12,qb),(13,qb)])],Zko_L2,[]⟩
def s_Zko_L0:LSpec T:=⟨[(0,qe),(3,qb0),(12,qb),(13,qb)],[(.exit 0,[(3,qb0)])],Zko_L0,[]⟩
def A_Zko:Loc2 T:=lcA [(2,s_Zko_L2),(0,s_Zko_L0)] [] []
theorem Vky:LO c272 Tryz.f369 2 s_Zko_L2:=lx o271 A_Zko dn (λ_=>rfl)
theorem Vth:LO c272 Tryz.f369 0 s_Zko_L0:=lx o271 A_Zko (dc rfl Vky dn) (λ_=>rfl)
theorem o272:EO c272:=sx o271 A_Zko Tryz.func369 (dc rfl Vky (dc rfl Vth dn))
def Zhh (a0:List UInt8):O2 Jab Int:=
 bif !(decide ((a0.length:Int)=9)) then some ((),{},2,()) else (getI a0 (0:Int)).bind λx1=>(Zle (x1.toBitVec.toNat:Int)).bind λr2=>bif r2.2.1 then some ((),{},2,()) else (getI a0 (0:Int)).bind λx3=>bif decide (1<=(a0.length:Int)) then (Zko (Qi 1 a0)).bind λr4=>bif decide (0 < (r4.2.1.length:Int)) then r4.2.1[0]?.bind λx5=>ru ⟨(x3.toBitVec.toNat:Int),x5⟩ 0 else none else none
def S_Zhh:FSpec T:=⟨[qe],[qbl,qa],λx=>Zhh x.1⟩
theorem Vys:SoundT Tryz.prog cd gdn 253 S_Zhh:=
 sndC hmix o272 (lcA [] [] [3]) Tryz.func253 Vaa (by kernel_rfl) (by kernel_rfl) λx=>by kernel_rfl
def c273:List (Ct T):=⟨253,none,S_Zhh,true⟩::c272
theorem o273:EnvOk Tryz.prog (mE c273):=eCons Vys o272
def Zhi (a0:Jab):O2 (List UInt8) Int:=
 (Zle a0.jr).bind λr1=>bif r1.2.1 then ru [] 9 else let v2:List UInt8:=[Qd (Qf 8 a0.jr)];(Zkt [a0.jbv]).bind λr3=>bif small (v2.length+(r3.2.1:List UInt8).length) 1 then ru (v2++r3.2.1) 0 else none
def c274:=cf c273 370 [(.f qbl)] [qj,qa] (u1 Zhi)
theorem o274:EO c274:=sx o273 (lcA [] [] [3]) Tryz.func370 dn
def Zga (a0:Jw):O1 Int:=
 let v1:=Qa .i64 ((Qf (Qk .i64) a0.jay&&&~~~(Qf (Qk .i64) 93)).toNat:Int);bif !(decide (v1=0)) then rt 9 else bif decide (a0.jbr < 0) then rt 9 else bif decide (16 < a0.jbr) then rt 9 else bif decide (a0.range < 0) then rt 9 else bif decide (16<=a0.range) then rt 9 else (Zkp a0 (16:Int)).bind λr2=>bif r2.2.1 then (Zkp a0 (8:Int)).bind λr3=>bif !r3.2.1 then rt 18 else (Zkp a0 (64:Int)).bind λr4=>bif !r4.2.1 then bif !(decide (a0.jan=0#64)) then rt 4 else bif !(decide ((a0.iD.length:Int)=0)) then rt 4 else bif !(decide (a0.key.jr=0)&&(decide (a0.key.jbv=0#64)&&true)) then rt 4 else rt 0 else bif !(decide ((a0.iD.length:Int)=176)) then rt 4 else (Zhi a0.key).bind λr5=>rt r5.2.2.1 else (Zkp a0 (64:Int)).bind λr6=>bif !r6.2.1 then bif !(decide (a0.jan=0#64)) then rt 4 else bif !(decide ((a0.iD.length:Int)=0)) then rt 4 else bif !(decide (a0.key.jr=0)&&(decide (a0.key.jbv=0#64)&&true)) then rt 4 else rt 0 else bif !(decide ((a0.iD.length:Int)=176)) then rt 4 else (Zhi a0.key).bind λr7=>rt r7.2.2.1
def S_Zga:FSpec T:=⟨[(.f qbd)],[qa],λx=>Zga x.1⟩
theorem Vyt:SoundT Tryz.prog cd gdn 254 S_Zga:=
 sndC hmix o274 (lcA [] [] []) Tryz.func254 Vaa (by kernel_rfl) (by kernel_rfl) λx=>by kernel_rfl
def c275:List (Ct T):=⟨254,none,S_Zga,true⟩::c274
theorem o275:EnvOk Tryz.prog (mE c275):=eCons Vyt o274
def Ziu (a0:List UInt8):O2 Jw Int:=
 bif decide ((a0.length:Int) < 11) then some ((),{},2,()) else bif decide (8<=(a0.length:Int)) then (Zjz (Qj 8 a0)).bind λr1=>(getI a0 (8:Int)).bind λx2=>(getI a0 (9:Int)).bind λx3=>(getI a0 (10:Int)).bind λx4=>(Zkp (⟨r1.2.1,(x2.toBitVec.toNat:Int),(x3.toBitVec.toNat:Int),(x4.toBitVec.toNat:Int),0#64,[],{}⟩:Jw) (64:Int)).bind λr5=>bif r5.2.1 then bif decide ((a0.length:Int) < 195) then some ((),{},2,()) else bif decide (195<=(a0.length:Int)) then (Zhh (Qi 195 a0)).bind λr6=>bif !(decide (r6.2.2.1=0)) then some ((),{},2,()) else bif decide (19<=(a0.length:Int)) then (Zjz (Qi 11 (Qj 19 a0))).bind λr7=>bif decide (195<=(a0.length:Int)) then (Zlf (Qi 19 (Qj 195 a0))).bind λr8=>(Zga (⟨r1.2.1,(x2.toBitVec.toNat:Int),(x3.toBitVec.toNat:Int),(x4.toBitVec.toNat:Int),r7.2.1,r8.2.1,r6.2.1⟩:Jw)).bind λr9=>bif !(decide (r9.2.1=0)) then some ((),{},2,()) else ru ⟨r1.2.1,(x2.toBitVec.toNat:Int),(x3.toBitVec.toNat:Int),(x4.toBitVec.toNat:Int),r7.2.1,r8.2.1,r6.2.1⟩ 0 else none else none else none else bif decide (11 < (a0.length:Int)) then some ((),{},2,()) else (Zga (⟨r1.2.1,(x2.toBitVec.toNat:Int),(x3.toBitVec.toNat:Int),(x4.toBitVec.toNat:Int),0#64,[],{}⟩:Jw)).bind λr10=>bif !(decide (r10.2.1=0)) then some ((),{},2,()) else ru ⟨r1.2.1,(x2.toBitVec.toNat:Int),(x3.toBitVec.toNat:Int),(x4.toBitVec.toNat:Int),0#64,[],{}⟩ 0 else none
def S_Ziu:FSpec T:=⟨[qe],[qbd,qa],λx=>Ziu x.1⟩
def E_Ziu:Env T:=⟨tab.find,cd,globs,flc,λf ds=>match f with
  | 30=>some S_Zlf
  | 251=>some S_Zjz
  | 252=>some S_Zkp
  | 253=>some S_Zhh
  | 254=>some S_Zga
  | _=>none,λf=>match f with
  | 251=>true
  | 252=>true
  | 253=>true
  | 254=>true
  | _=>false⟩
def A_Ziu:Loc2 T:=⟨λid=>match id with
  | _=>none,λr=>match r with
  | _=>none,λr=>match r with
  | 3=>true
  | _=>false⟩
theorem Vcea (x:tySs T S_Ziu.ps):run E_Ziu A_Ziu (Tryz.f154.body.getD .skip) (enterT E_Ziu.C S_Ziu.ps x) (retK E_Ziu Tryz.f154.results.toList S_Ziu.ps S_Ziu.rs)=S_Ziu.fn x:=by kernel_rfl
theorem Vaba:EnvOk Tryz.prog E_Ziu:=envOk (E:=E_Ziu) cd_ok tys fl_ok λf ds S h=>by
  dsimp only [E_Ziu] at h;split at h
  ·cases h; exact Vqm
  ·cases h; exact Vyq
  ·cases h; exact Vyr
  ·cases h; exact Vys
  ·cases h; exact Vyt
  ·cases h
theorem Vcfa:SoundT Tryz.prog cd gdn 154 S_Ziu:=
 Vbi (E:=E_Ziu) (A:=A_Ziu) (done:=[]) (c:=(Tryz.f154.body.getD .skip)) (S:=S_Ziu) (fn:=Tryz.f154) hmix Vaba Tryz.func154 rfl (by kernel_rfl) (by kernel_rfl) Vaa (by kernel_rfl) (by kernel_rfl) Vcea
def c276:List (Ct T):=⟨154,none,S_Ziu,false⟩::c275
theorem o276:EnvOk Tryz.prog (mE c276):=eCons Vcfa o275
def Zja (a0:Jb) (a1:Jg):O1 Jah:=
 bif decide (a0.js.kind=2) then rt {a1 with kind:=a0.js.kind,jaw:=a0.data} else (Ziu a1.jaf).bind λr1=>bif decide (r1.2.2.1=0) then rt {a1 with kind:=a0.js.kind,jaw:=a0.data,iD:=r1.2.1.iD} else rt {a1 with kind:=a0.js.kind,jaw:=a0.data,iD:=[]}
def c277:=cf c276 93 [qb4,(.f qaj)] [(.v (.agg 47))] (u2 Zja)
theorem o277:EO c277:=sz o276 Tryz.func93
def Zjv (a0:Jb) (a1:Int) (a2:Je):Option (Unit×Jb×List Je×Jp×Unit):=
 bif decide (a0.jy=0) then some ((),a0,[],{},()) else bif decide (a0.jy=3) then some ((),a0,[],{},()) else (Zls a0.ji a2).bind λr1=>bif !r1.2.2.2.2.1 then some ((),{a0 with ji:=r1.2.1},[],{},()) else bif decide (r1.2.2.1=63) then bif decide ((r1.2.2.2.1.length:Int)=1) then bif decide (0 < (r1.2.2.2.1.length:Int)) then r1.2.2.2.1[0]?.bind λx2=>bif decide ((1:UInt8).toBitVec.toNat<=x2.toBitVec.toNat) then bif decide (0 < (r1.2.2.2.1.length:Int)) then r1.2.2.2.1[0]?.bind λx3=>bif decide ((x3.toBitVec.toNat:Int)<=42) then bif decide (0 < (r1.2.2.2.1.length:Int)) then r1.2.2.2.1[0]?.bind λx4=>none else none else bif decide (a0.jy=1) then (Zhn ({a0 with ji:=r1.2.1}:Jb) r1.2.2.1 r1.2.2.2.1).bind λr5=>some ((),r5.2.1,r5.2.2.1,r5.2.2.2.1,()) else bif !(decide (r1.2.2.1=3)) then none else (Zdi r1.2.2.2.1).bind λr6=>bif !(decide (r6.2.2.1=0)) then none else bif !(decide (r6.2.1.err=0)) then none else bif decide (a0.jy=2) then (Ziz ({a0 with ji:=r1.2.1}:Jb) r6.2.1).bind λr7=>some ((),r7.2.1,r7.2.2.1,r7.2.2.2.1,()) else bif decide (a0.jy=4) then none else bif decide (a0.jy=5) then none else bif decide (a0.jy=6) then (Zln ({a0 with ji:=r1.2.1}:Jb)).bind λr8=>(Zja ({a0 with ji:=r1.2.1}:Jb) r6.2.1).bind λr9=>some ((),r8.2.1,[],⟨true,0,r9.2.1⟩,()) else some ((),{a0 with ji:=r1.2.1},[],{},()) else none else bif decide (a0.jy=1) then (Zhn ({a0 with ji:=r1.2.1}:Jb) r1.2.2.1 r1.2.2.2.1).bind λr10=>some ((),r10.2.1,r10.2.2.1,r10.2.2.2.1,()) else bif !(decide (r1.2.2.1=3)) then none else (Zdi r1.2.2.2.1).bind λr11=>bif !(decide (r11.2.2.1=0)) then none else bif !(decide (r11.2.1.err=0)) then none else bif decide (a0.jy=2) then (Ziz ({a0 with ji:=r1.2.1}:Jb) r11.2.1).bind λr12=>some ((),r12.2.1,r12.2.2.1,r12.2.2.2.1,()) else bif decide (a0.jy=4) then none else bif decide (a0.jy=5) then none else bif decide (a0.jy=6) then (Zln ({a0 with ji:=r1.2.1}:Jb)).bind λr13=>(Zja ({a0 with ji:=r1.2.1}:Jb) r11.2.1).bind λr14=>some ((),r13.2.1,[],⟨true,0,r14.2.1⟩,()) else some ((),{a0 with ji:=r1.2.1},[],{},()) else none else bif decide (a0.jy=1) then (Zhn ({a0 with ji:=r1.2.1}:Jb) r1.2.2.1 r1.2.2.2.1).bind λr15=>some ((),r15.2.1,r15.2.2.1,r15.2.2.2.1,()) else bif !(decide (r1.2.2.1=3)) then none else (Zdi r1.2.2.2.1).bind λr16=>bif !(decide (r16.2.2.1=0)) then none else bif !(decide (r16.2.1.err=0)) then none else bif decide (a0.jy=2) then (Ziz ({a0 with ji:=r1.2.1}:Jb) r16.2.1).bind λr17=>some ((),r17.2.1,r17.2.2.1,r17.2.2.2.1,()) else bif decide (a0.jy=4) then none else bif decide (a0.jy=5) then none else bif decide (a0.jy=6) then (Zln ({a0 with ji:=r1.2.1}:Jb)).bind λr18=>(Zja ({a0 with ji:=r1.2.1}:Jb) r16.2.1).bind λr19=>some ((),r18.2.1,[],⟨true,0,r19.2.1⟩,()) else some ((),{a0 with ji:=r1.2.1},[],{},()) else bif decide (a0.jy=1) then (Zhn ({a0 with ji:=r1.2.1}:Jb) r1.2.2.1 r1.2.2.2.1).bind λr20=>some ((),r20.2.1,r20.2.2.1,r20.2.2.2.1,()) else bif !(decide (r1.2.2.1=3)) then none else (Zdi r1.2.2.2.1).bind λr21=>bif !(decide (r21.2.2.1=0)) then none else bif !(decide (r21.2.1.err=0)) then none else bif decide (a0.jy=2) then (Ziz ({a0 with ji:=r1.2.1}:Jb) r21.2.1).bind λr22=>some ((),r22.2.1,r22.2.2.1,r22.2.2.2.1,()) else bif decide (a0.jy=4) then none else bif decide (a0.jy=5) then none else bif decide (a0.jy=6) then (Zln ({a0 with ji:=r1.2.1}:Jb)).bind λr23=>(Zja ({a0 with ji:=r1.2.1}:Jb) r21.2.1).bind λr24=>some ((),r23.2.1,[],⟨true,0,r24.2.1⟩,()) else some ((),{a0 with ji:=r1.2.1},[],{},())
def c278:=cf c277 49 [qb4,qb,qbt] [ql,qax,qab] (u3 Zjv)
theorem o278:EO c278:=sx o277 (lcA [] [] [26]) Tryz.func49 dn
def Zch_L2b (y0:Int) (y1:List UInt8) (y2:Bool) (y3:Jb×Unit) (y4 y5:Jn×Unit) (y6:Jp×Unit) (y7:List Je) (y8:Jp×Unit) (y9 y10:Int) (y11:List Je) (y12:Int):Option ((Int × (List UInt8) × Bool × (Jb × Unit) × (Jn × Unit) × (Jn × Unit) × (Jp × Unit) × (List (Je)) × (Jp × Unit) × Int × Int × (List (Je)) × Int × Unit)⊕(Int × (List UInt8) × Bool × (Jb × Unit) × (Jn × Unit) × (Jn × Unit) × (Jp × Unit) × (List (Je)) × (Jp × Unit) × Int × Int × Unit)):=
 bif decide (y12 < y11.length) then bif !y8.1.done then (getI y11 y12).bind λx5=>(Zjv y3.1 y0 x5).bind λr6=>bif small (y7.length+(r6.2.2.1:List Je).length) 56 then some (Qc (y0,y1,y2,(r6.2.1,()),(y4.1,()),(y5.1,()),(y6.1,()),y7++r6.2.2.1,(r6.2.2.2.1,()),Qa .i64 (y9+(r6.2.2.1.length:Int)),y10,y11,Qa .i64 (y12+1),())) else none else some (Qb (y0,y1,y2,(y3.1,()),(y4.1,()),(y5.1,()),(y6.1,()),y7,(y8.1,()),y9,y10,())) else some (Qb (y0,y1,y2,(y3.1,()),(y4.1,()),(y5.1,()),(y6.1,()),y7,(y8.1,()),y9,y10,()))
def Zch_L2:=Yi13 Zch_L2b
def Zch_L0b (y0:Int) (y1:List UInt8) (y2:Bool) (y3:Jb×Unit) (y4 y5:Jn×Unit) (y6:Jp×Unit) (y7:List Je) (y8:Jp×Unit) (y9 y10:Int):Option ((Int × (List UInt8) × Bool × (Jb × Unit) × (Jn × Unit) × (Jn × Unit) × (Jp × Unit) × (List (Je)) × (Jp × Unit) × Int × Int × Unit)⊕((Jn × Unit) × (Jn × Unit) × (Jp × Unit) × (Jp × Unit) × Int × Unit)):=
 bif decide (y10 < 600) then bif !y8.1.done then bif decide ((y7.length:Int)=0) then bif !(decide (y3.1.jy=3)) then some (Qb ((y4.1,()),(y5.1,()),(y6.1,()),(y8.1,()),y9,())) else bif decide (500 < y10) then some (Qb ((y4.1,()),(y5.1,()),(y6.1,()),(y8.1,()),y9,())) else none else bif decide (0 < (y7.length:Int)) then y7[0]?.bind λx2=>bif decide (1<=(y7.length:Int)) then bif decide (y7.length - 1+1<=y7.length) then let v3:=Qj (y7.length - 1) (Qi 1 y7);bif small v3.length 56 then (Zbr y4.1 y0 x2 y2).bind λr4=>(Zch_L2 (y0,y1,y2,(y3.1,()),(r4.2.1,()),(y5.1,()),(y6.1,()),v3,(y8.1,()),y9,y10,r4.2.2.1,0,())).bind λz5=>some (Qc (z5.1,z5.2.1,z5.2.2.1,(z5.2.2.2.1.1,()),(z5.2.2.2.2.1.1,()),(z5.2.2.2.2.2.1.1,()),(z5.2.2.2.2.2.2.1.1,()),z5.2.2.2.2.2.2.2.1,(z5.2.2.2.2.2.2.2.2.1.1,()),z5.2.2.2.2.2.2.2.2.2.1,Qa .i64 (z5.2.2.2.2.2.2.2.2.2.2.1+1),())) else none else none else none else none else some (Qb ((y4.1,()),(y5.1,()),(y6.1,()),(y8.1,()),y9,())) else some (Qb ((y4.1,()),(y5.1,()),(y6.1,()),(y8.1,()),y9,()))
def Zch_L0:=Yi11 Zch_L0b
def Zch (a0:Jb) (a1:Jn) (a2:Int) (a3:Jf) (a4:Jr) (a5:List UInt8) (a6:Bool):Option (Unit×Jn×Jp×Int×Unit):=
 (Zks a0 a2 a3 false ([]:List UInt8) a4).bind λr1=>(Zch_L0 (a2,a5,a6,(r1.2.1,()),(a1,()),({},()),({},()),r1.2.2.1,(r1.2.2.2.1,()),(r1.2.2.1.length:Int),0,())).bind λz6=>some ((),z6.1.1,z6.2.2.2.1.1,z6.2.2.2.2.1,())
def c279:=cf c278 18 [qb4,(.f qbr),qb,(.f qad),(.f qap),qg,qm] [qbr,qab,qa] λx=>Zch x.1 x.2.1 x.2.2.1 x.2.2.2.1 x.2.2.2.2.1 x.2.2.2.2.2.1 x.2.2.2.2.2.2.1
def s_Zch_L2:LSpec T:=⟨[(2,qb),(5,qg),(6,qm),(7,qav),(8,qaf),(14,qaf),(15,qbc),(17,(.f qax)),(18,qbc),(19,qb),(20,qb),(22,qa8),(23,qb)],[(.exit 2,[(2,qb),(5,qg),(6,qm),(7,qav),(8,qaf),(14,qaf),(15,qbc),(17,(.f qax)),(18,qbc),(19,qb),(20,qb)])],Zch_L2,[]⟩
def s_Zch_L0:LSpec T:=⟨[(2,qb),(5,qg),(6,qm),(7,qav),(8,qaf),(14,qaf),(15,qbc),(17,(.f qax)),(18,qbc),(19,qb),(20,qb)],[(.exit 0,[(8,qaf),(14,qaf),(15,qbc),(18,qbc),(19,qb)])],Zch_L0,[]⟩
def A_Zch:Loc2 T:=lcA [(2,s_Zch_L2),(0,s_Zch_L0)] [] [22]
theorem Vkz:LO c279 Tryz.f18 2 s_Zch_L2:=lx o278 A_Zch dn (λ_=>rfl)
theorem Vti:LO c279 Tryz.f18 0 s_Zch_L0:=lx o278 A_Zch (dc rfl Vkz dn) (λ_=>rfl)
theorem o279:EO c279:=sx o278 A_Zch Tryz.func18 (dc rfl Vkz (dc rfl Vti dn))
def Zcp (a0:List UInt8):O2 Jab Int:=
 bif !(decide ((a0.length:Int)=9)) then some ((),{},2,()) else (getI a0 (0:Int)).bind λx1=>(Zfs (x1.toBitVec.toNat:Int)).bind λr2=>bif !r2.2.1 then some ((),{},2,()) else (getI a0 (0:Int)).bind λx3=>bif decide (1<=(a0.length:Int)) then (Zie (Qi 1 a0)).bind λr4=>ru ⟨(x3.toBitVec.toNat:Int),r4.2.1⟩ 0 else none
def c280:=ct c279 53 [qe] [qbl,qa] (u1 Zcp)
theorem o280:EO c280:=sz o279 Tryz.func53
def Zbc (a0:List UInt8):O2 Jw Int:=
 (bif !(decide ((a0.length:Int)=11)) then bif !(decide ((a0.length:Int)=204)) then (ru ({}:Jw) (2:Int)).bind λq=>some (Qb q) else some (Qc (a0,(({}:Jw),()),())) else some (Qc (a0,(({}:Jw),()),()))).bind (Qh (λj1=>bif decide (8<=(j1.1.length:Int)) then (Zie (Qj 8 j1.1)).bind λr2=>(getI j1.1 (8:Int)).bind λx3=>(getI j1.1 (9:Int)).bind λx4=>(getI j1.1 (10:Int)).bind λx5=>(bif decide (11 < (j1.1.length:Int)) then bif decide (195<=(j1.1.length:Int)) then (Zcp (Qi 195 j1.1)).bind λr6=>bif !(decide (r6.2.2.1=0)) then (ru ({}:Jw) (2:Int)).bind λq=>some (Qb q) else bif decide (19<=(j1.1.length:Int)) then (Zie (Qi 11 (Qj 19 j1.1))).bind λr7=>bif decide (195<=(j1.1.length:Int)) then bif small (Qi 19 (Qj 195 j1.1)).length 1 then some (Qc (j1.1,(j1.2.1.1,()),(r2.2.1,(x3.toBitVec.toNat:Int),(x4.toBitVec.toNat:Int),(x5.toBitVec.toNat:Int),r7.2.1,Qi 19 (Qj 195 j1.1),r6.2.1,()),())) else none else none else none else none else some (Qc (j1.1,(j1.2.1.1,()),(r2.2.1,(x3.toBitVec.toNat:Int),(x4.toBitVec.toNat:Int),(x5.toBitVec.toNat:Int),0#64,[],({}:Jab),()),()))).bind (Qh (λj8=>(Zak ⟨j8.2.2.1.1,j8.2.2.1.2.1,j8.2.2.1.2.2.1,j8.2.2.1.2.2.2.1,j8.2.2.1.2.2.2.2.1,j8.2.2.1.2.2.2.2.2.1,j8.2.2.1.2.2.2.2.2.2.1⟩).bind λr9=>bif !(decide (r9.2.1=0)) then some ((),{},2,()) else let v10:=Qa .i64 ((Qf (Qk .i64) j8.2.2.1.2.1&&&Qf (Qk .i64) 64).toNat:Int);bif !(decide (11 < (j8.1.length:Int))==(!(decide (v10=0)))) then some ((),{},2,()) else ru ⟨j8.2.2.1.1,j8.2.2.1.2.1,j8.2.2.1.2.2.1,j8.2.2.1.2.2.2.1,j8.2.2.1.2.2.2.2.1,j8.2.2.1.2.2.2.2.2.1,j8.2.2.1.2.2.2.2.2.2.1⟩ 0) some) else none) some)
def c281:=cf c280 21 [qe] [qbd,qa] (u1 Zbc)
theorem o281:EO c281:=sx o280 (lcA [] [(3,[(0,qe),(2,(.ptr [qbd]))],false),(9,[(0,qe),(2,(.ptr [qbd])),(4,(.ptr [qu,qa,qa,qa,qu,qj,qbl]))],false)] [3,8]) Tryz.func21 dn
def Zeu:O1 Bool:=
 (Zlz 3#64 []).bind λr1=>(Zcx 0 0 false).bind λr2=>Zgh.bind λr3=>(Zch r1.2.1 r2.2.1 20 r3.2.1 ⟨1,[101,120,97,109,112,108,101,46,99,111,109],[1],[117],[],[],1,1,false,0,false,0⟩ [] false).bind λr4=>(Zbc r4.2.2.1.jad.jaf).bind λr5=>bif decide (r1.2.2.1=0) then bif decide (1 < r4.2.2.2.1) then bif r4.2.2.1.done then bif decide (r4.2.2.1.err=0) then bif decide (r5.2.2.1=0) then bif decide ((r5.2.1.iD.length:Int)=176) then rt (decide (r4.2.2.1.jad.iD=r5.2.1.iD)) else rt false else rt false else rt false else rt false else rt false else rt false
def c282:=ct c281 4 [] [qd] λx=>Zeu 
theorem o282:EO c282:=sx o281 (lcA [] [] [3]) Tryz.func4 dn
def Zji (a0:List Int):O1 Jl:=
 rt {l:=a0}
def c283:=cf c282 5 [qbo] [(.pt (.agg 48))] (u1 Zji)
theorem o283:EO c283:=sz o282 Tryz.func5
def Zcg (a0:Jl×Unit) (a1:Int):Option (((Jl×Unit)×Unit)×Int×Unit):=
 bif decide (a0.1.l.length<=a0.1.at_) then some (((a0.1,()),()),0,()) else let v1:=Qa .i64 (Qa .i64 (a0.1.at_+1) - 1);(getI a0.1.l v1).bind λx2=>(Zjh x2 a1).bind λr3=>some (((⟨a0.1.l,Qa .i64 (a0.1.at_+1)⟩,()),()),r3.2.1,())
def c284:=cf c283 7 [qaw,qb] [qa] (u2 Zcg)
theorem o284:EO c284:=sz o283 Tryz.func7
def Zgg_L0b (y0:Int) (y1 y2:List Jc) (y3:Int):Option ((Int × (List (Jc)) × (List (Jc)) × Int × Unit)⊕((List (Jc)) × Unit)):=
 bif decide (y3 < y1.length) then let v6:=Int.fdiv y0 (2 ^ min (Qf 64 y3).toNat (Qk .i64));let v7:=Qa .i64 ((Qf (Qk .i64) v6&&&Qf (Qk .i64) 1).toNat:Int);bif decide (v7=0) then bif decide (0<=y3)&&decide (y3 < y1.length) then y1[y3.toNat]?.bind λx8=>bif small (y2.length+([x8]).length) 32 then some (Qc (y0,y1,y2++[x8],Qa .i64 (y3+1),())) else none else none else some (Qc (y0,y1,y2,Qa .i64 (y3+1),())) else some (Qb (y2,()))
def Zgg_L0:=Yi4 Zgg_L0b
def Zgg (a0:Int):O1 (List Jc):=
 let v1:List (List UInt8):=[[99,111],[117,107]];let v2:List (List UInt8):=[[119,119,119],[99,107]];let v3:List (List UInt8):=[[103,105,116,104,117,98],[105,111]];let v4:List (List UInt8):=[[98],[99,111],[117,107]];let v5:List Jc:=[{jd:=[[99,111,109]]},{jd:=[[117,107]]},{jd:=v1},⟨[[99,107]],true,false⟩,⟨v2,false,true⟩,{jd:=v3},{jd:=[[116,101,115,116]]},⟨v4,false,true⟩];(Zgg_L0 (a0,v5,[],0,())).bind λz9=>rt z9.1
def c285:=cf c284 6 [qb] [(.own 12)] (u1 Zgg)
def s_Zgg_L0:LSpec T:=⟨[(0,qb),(3,(.f (.own 12))),(4,(.f (.own 12))),(5,qb)],[(.exit 0,[(4,(.f (.own 12)))])],Zgg_L0,[]⟩
def A_Zgg:Loc2 T:=lcA [(0,s_Zgg_L0)] [] []
theorem Vtj:LO c285 Tryz.f6 0 s_Zgg_L0:=lx o284 A_Zgg dn (λ_=>rfl)
theorem o285:EO c285:=sx o284 A_Zgg Tryz.func6 (dc rfl Vtj dn)
def Zfl (a0:UInt8):O1 Bool:=
 bif decide ((48:UInt8).toBitVec.toNat<=a0.toBitVec.toNat) then rt (decide (a0.toBitVec.toNat<=(57:UInt8).toBitVec.toNat)) else rt false
def c286:=ct c285 115 [qa0] [qd] (u1 Zfl)
theorem o286:EO c286:=sz o285 Tryz.func115
def Zfm_L0b (y0:List UInt8) (y1:Int):Option (((List UInt8) × Int × Unit)⊕((Bool × Unit) ⊕ (Unit))):=
 bif decide (y1 < y0.length) then (getI y0 y1).bind λx3=>bif decide ((97:UInt8).toBitVec.toNat<=x3.toBitVec.toNat) then (getI y0 y1).bind λx4=>bif !(decide (x4.toBitVec.toNat<=(122:UInt8).toBitVec.toNat)) then (getI y0 y1).bind λx5=>(Zfl x5).bind λr6=>bif !r6.2.1 then (getI y0 y1).bind λx7=>bif !(decide (x7.toBitVec=(45:UInt8).toBitVec)) then some (Qb (Qc (false,()))) else some (Qc (y0,Qa .i64 (y1+1),())) else some (Qc (y0,Qa .i64 (y1+1),())) else some (Qc (y0,Qa .i64 (y1+1),())) else (getI y0 y1).bind λx8=>(Zfl x8).bind λr9=>bif !r9.2.1 then (getI y0 y1).bind λx10=>bif !(decide (x10.toBitVec=(45:UInt8).toBitVec)) then some (Qb (Qc (false,()))) else some (Qc (y0,Qa .i64 (y1+1),())) else some (Qc (y0,Qa .i64 (y1+1),())) else some (Qb (Qb ()))
def Zfm_L0:=Yi2 Zfm_L0b
def Zfm (a0:List UInt8):O1 Bool:=
 bif decide ((a0.length:Int) < 1) then rt false else bif decide (63 < (a0.length:Int)) then rt false else (getI a0 (0:Int)).bind λx1=>bif decide (x1.toBitVec=(45:UInt8).toBitVec) then rt false else (getI a0 (Qa .i64 ((a0.length:Int) - 1))).bind λx2=>bif decide (x2.toBitVec=(45:UInt8).toBitVec) then rt false else (Zfm_L0 (a0,0,())).bind (Qh (λz11=>rt z11.1) (λz12=>rt true))
def c287:=ct c286 58 [qg] [qd] (u1 Zfm)
def s_Zfm_L0:LSpec T:=⟨[(0,qg),(3,qb)],[(.ret,[(2,qm)]),(.exit 0,[])],Zfm_L0,[]⟩
def A_Zfm:Loc2 T:=lcA [(0,s_Zfm_L0)] [] []
theorem Vtk:LO c287 Tryz.f58 0 s_Zfm_L0:=lx o286 A_Zfm dn (λ_=>rfl)
theorem o287:EO c287:=sx o286 A_Zfm Tryz.func58 (dc rfl Vtk dn)
def Zgz_L0b (y0:List (List UInt8)) (y1:List UInt8) (y2:Int):Option (((List (List UInt8)) × (List UInt8) × Int × Unit)⊕((List UInt8) × Unit)):=
 bif decide (y2 < y0.length) then bif decide (0 < y2) then bif Qm (y1.length+([46]:List UInt8).length) 9223372036854775807 then (getI y0 y2).bind λx1=>bif Qm ((y1++[46]).length+x1.length) 9223372036854775807 then some (Qc (y0,y1++[46]++x1,Qa .i64 (y2+1),())) else none else none else (getI y0 y2).bind λx2=>bif Qm (y1.length+x2.length) 9223372036854775807 then some (Qc (y0,y1++x2,Qa .i64 (y2+1),())) else none else some (Qb (y1,()))
def Zgz_L0:=Yi3 Zgz_L0b
def Zgz (a0:List (List UInt8)):O1 (List UInt8):=
 (Zgz_L0 (a0,[],0,())).bind λz3=>rt z3.1
def c288:=ct c287 59 [qy] [qs] (u1 Zgz)
def s_Zgz_L0:LSpec T:=⟨[(0,qy),(3,qg),(4,qb)],[(.exit 0,[(3,qg)])],Zgz_L0,[]⟩
def A_Zgz:Loc2 T:=lcA [(0,s_Zgz_L0)] [] []
theorem Vtl:LO c288 Tryz.f59 0 s_Zgz_L0:=lx o287 A_Zgz dn (λ_=>rfl)
theorem o288:EO c288:=sx o287 A_Zgz Tryz.func59 (dc rfl Vtl dn)
def Zfn_L0b (y0:List UInt8) (y1:UInt8) (y2:List (List UInt8)) (y3 y4:Int):Option (((List UInt8) × UInt8 × (List (List UInt8)) × Int × Int × Unit)⊕((List UInt8) × (List (List UInt8)) × Int × Unit)):=
 bif decide (y4 < y0.length) then (getI y0 y4).bind λx1=>bif decide (x1.toBitVec=y1.toBitVec) then bif decide (0<=y4)&&decide (y4<=y0.length) then bif decide (0<=y3)&&decide (y3<=y4.toNat) then let v2:List (List UInt8):=[Qi y3.toNat (Qj y4.toNat y0)];bif small (y2.length+(v2:List (List UInt8)).length) 16 then some (Qc (y0,y1,y2++v2,Qa .i64 (y4+1),Qa .i64 (y4+1),())) else none else none else none else some (Qc (y0,y1,y2,y3,Qa .i64 (y4+1),())) else some (Qb (y0,y2,y3,()))
def Zfn_L0:=Yi5 Zfn_L0b
def Zfn (a0:List UInt8) (a1:UInt8):O1 (List (List UInt8)):=
 (Zfn_L0 (a0,a1,[],0,0,())).bind λz3=>bif decide (0<=z3.2.2.1)&&decide (z3.2.2.1<=z3.1.length) then bif small (z3.2.1.length+([Qi z3.2.2.1.toNat z3.1]).length) 16 then let v4:=z3.2.1++[Qi z3.2.2.1.toNat z3.1];rt v4 else none else none
def c289:=cf c288 116 [qg,qa0] [(.own 2)] (u2 Zfn)
def s_Zfn_L0:LSpec T:=⟨[(0,qg),(1,qa0),(5,qbm),(6,qb),(7,qb)],[(.exit 0,[(0,qg),(5,qbm),(6,qb)])],Zfn_L0,[]⟩
def A_Zfn:Loc2 T:=lcA [(0,s_Zfn_L0)] [] []
theorem Vtm:LO c289 Tryz.f116 0 s_Zfn_L0:=lx o288 A_Zfn dn (λ_=>rfl)
theorem o289:EO c289:=sx o288 A_Zfn Tryz.func116 (dc rfl Vtm dn)
def Zcn_L0b (y0:List (List UInt8)) (y1:Int):Option (((List (List UInt8)) × Int × Unit)⊕((Int × Unit) ⊕ ((List (List UInt8)) × Unit))):=
 bif decide (y1 < y0.length) then bif decide (0<=y1)&&decide (y1 < y0.length) then y0[y1.toNat]?.bind λx2=>(Zfm x2).bind λr3=>bif !r3.2.1 then some (Qb (Qc (2,()))) else some (Qc (y0,Qa .i64 (y1+1),())) else none else some (Qb (Qb (y0,())))
def Zcn_L0:=Yi2 Zcn_L0b
def Zcn_L2b (y0:List UInt8) (y1:Int):Option (((List UInt8) × Int × Unit)⊕((Int × Unit) ⊕ (Unit))):=
 bif decide (y1 < y0.length) then (getI y0 y1).bind λx7=>(Zfl x7).bind λr8=>bif !r8.2.1 then some (Qb (Qc (0,()))) else some (Qc (y0,Qa .i64 (y1+1),())) else some (Qb (Qb ()))
def Zcn_L2:=Yi2 Zcn_L2b
def Zcn (a0:List UInt8):O1 Int:=
 bif decide (100 < (a0.length:Int)) then rt 8 else (Zfn a0 46).bind λr1=>(Zcn_L0 (r1.2.1,0,())).bind (Qh (λz4=>rt z4.1) (λz5=>bif decide (0<=Qa .i64 ((z5.1.length:Int) - 1))&&decide (Qa .i64 ((z5.1.length:Int) - 1) < z5.1.length) then z5.1[(Qa .i64 ((z5.1.length:Int) - 1)).toNat]?.bind λx6=>(Zcn_L2 (x6,0,())).bind (Qh (λz9=>rt z9.1) (λz10=>rt 2)) else none))
def c290:=ct c289 60 [qg] [qa] (u1 Zcn)
def s_Zcn_L0:LSpec T:=⟨[(3,qbm),(4,qb)],[(.ret,[(2,qb)]),(.exit 0,[(3,qbm)])],Zcn_L0,[]⟩
def s_Zcn_L2:LSpec T:=⟨[(5,qg),(6,qb)],[(.ret,[(2,qb)]),(.exit 2,[])],Zcn_L2,[]⟩
def A_Zcn:Loc2 T:=lcA [(0,s_Zcn_L0),(2,s_Zcn_L2)] [] []
theorem Vk0:LO c290 Tryz.f60 0 s_Zcn_L0:=lx o289 A_Zcn dn (λ_=>rfl)
theorem Vtn:LO c290 Tryz.f60 2 s_Zcn_L2:=lx o289 A_Zcn (dc rfl Vk0 dn) (λ_=>rfl)
theorem o290:EO c290:=sx o289 A_Zcn Tryz.func60 (dc rfl Vk0 (dc rfl Vtn dn))
def Zbl_L0b (y0:Jc×Unit) (y1:Int):Option (((Jc × Unit) × Int × Unit)⊕(((List UInt8) × Int × Unit) ⊕ ((Jc × Unit) × Unit))):=
 bif decide (y1 < y0.1.jd.length) then (getI y0.1.jd y1).bind λx1=>(Zfm x1).bind λr2=>bif !r2.2.1 then some (Qb (Qc ([],4,()))) else some (Qc ((y0.1,()),Qa .i64 (y1+1),())) else some (Qb (Qb ((y0.1,()),())))
def Zbl_L0:=Yi2 Zbl_L0b
def Zbl (a0:Jc):O2 (List UInt8) Int:=
 (Zbl_L0 ((a0,()),0,())).bind (Qh (λz3=>ru z3.1 z3.2.1) (λz4=>(Zgz z4.1.1.jd).bind λr5=>(Zcn r5.2.1).bind λr6=>bif !(decide (r6.2.1=0)) then ru [] 4 else bif z4.1.1.jaj then bif z4.1.1.jv then ru [] 4 else bif z4.1.1.jv then bif decide ((z4.1.1.jd.length:Int) < 2) then ru [] 4 else bif z4.1.1.jaj then bif Qm (([42,46]:List UInt8).length+r5.2.1.length) 9223372036854775807 then ru (([42,46]:List UInt8)++r5.2.1) 0 else none else bif z4.1.1.jv then bif Qm (([33]:List UInt8).length+r5.2.1.length) 9223372036854775807 then ru (([33]:List UInt8)++r5.2.1) 0 else none else ru r5.2.1 0 else bif z4.1.1.jaj then bif Qm (([42,46]:List UInt8).length+r5.2.1.length) 9223372036854775807 then ru (([42,46]:List UInt8)++r5.2.1) 0 else none else bif z4.1.1.jv then bif Qm (([33]:List UInt8).length+r5.2.1.length) 9223372036854775807 then ru (([33]:List UInt8)++r5.2.1) 0 else none else ru r5.2.1 0 else bif z4.1.1.jv then bif decide ((z4.1.1.jd.length:Int) < 2) then ru [] 4 else bif z4.1.1.jaj then bif Qm (([42,46]:List UInt8).length+r5.2.1.length) 9223372036854775807 then ru (([42,46]:List UInt8)++r5.2.1) 0 else none else bif z4.1.1.jv then bif Qm (([33]:List UInt8).length+r5.2.1.length) 9223372036854775807 then ru (([33]:List UInt8)++r5.2.1) 0 else none else ru r5.2.1 0 else bif z4.1.1.jaj then bif Qm (([42,46]:List UInt8).length+r5.2.1.length) 9223372036854775807 then ru (([42,46]:List UInt8)++r5.2.1) 0 else none else bif z4.1.1.jv then bif Qm (([33]:List UInt8).length+r5.2.1.length) 9223372036854775807 then ru (([33]:List UInt8)++r5.2.1) 0 else none else ru r5.2.1 0))
def c291:=ct c290 25 [(.f qaz)] [qs,qa] (u1 Zbl)
def s_Zbl_L0:LSpec T:=⟨[(1,qb6),(4,qb)],[(.ret,[(2,qg),(3,qb)]),(.exit 0,[(1,qb6)])],Zbl_L0,[]⟩
def A_Zbl:Loc2 T:=lcA [(0,s_Zbl_L0)] [] []
theorem Vto:LO c291 Tryz.f25 0 s_Zbl_L0:=lx o290 A_Zbl dn (λ_=>rfl)
theorem o291:EO c291:=sx o290 A_Zbl Tryz.func25 (dc rfl Vto dn)
def Zii_L0b (y0:BitVec 64) (y1:List Jc) (y2:Jb×Unit) (y3:Int):Option (((BitVec 64) × (List (Jc)) × (Jb × Unit) × Int × Unit)⊕(((Jb × Unit) × Int × Unit) ⊕ ((BitVec 64) × (List (Jc)) × (Jb × Unit) × Unit))):=
 bif decide (y3 < y1.length) then (getI y1 y3).bind λx1=>(Zbl x1).bind λr2=>bif !(decide (r2.2.2.1=0)) then some (Qb (Qc (({},()),r2.2.2.1,()))) else some (Qc (y0,y1,(y2.1,()),Qa .i64 (y3+1),())) else some (Qb (Qb (y0,y1,(y2.1,()),())))
def Zii_L0:=Yi4 Zii_L0b
def Zii (a0:BitVec 64) (a1:List Jc):O2 Jb Int:=
 bif decide (64 < (a1.length:Int)) then some ((),{},8,()) else (Zii_L0 (a0,a1,({},()),0,())).bind (Qh (λz3=>ru z3.1.1 z3.2.1) (λz4=>bif small z4.2.1.length 32 then ru {jah:=z4.2.1,jak:=z4.1} 0 else none))
def c292:=cf c291 9 [qf,qah] [ql,qa] (u2 Zii)
def s_Zii_L0:LSpec T:=⟨[(0,qf),(1,qah),(4,qav),(6,qb)],[(.ret,[(4,qav),(5,qb)]),(.exit 0,[(0,qf),(1,qah),(4,qav)])],Zii_L0,[]⟩
def A_Zii:Loc2 T:=lcA [(0,s_Zii_L0)] [] []
theorem Vtp:LO c292 Tryz.f9 0 s_Zii_L0:=lx o291 A_Zii dn (λ_=>rfl)
theorem o292:EO c292:=sx o291 A_Zii Tryz.func9 (dc rfl Vtp dn)
end Go.Proofs.YtaddhgkhilmniaaGreatDoor

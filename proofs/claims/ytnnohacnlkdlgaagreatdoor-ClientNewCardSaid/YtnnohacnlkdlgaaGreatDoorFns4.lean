/- The functions of the program, as plain functions, and that the program computes them. Written by a program. -/
import Derived.Test.YtnnohacnlkdlgaaGreatDoorFns3
set_option linter.unusedVariables false
set_option maxRecDepth 100000
namespace Go.Proofs.YtnnohacnlkdlgaaGreatDoor
open Go Go.Abs
open Go.IntKind renaming wrap → Qa, bits → Qk
open _root_.Sum renaming inr → Qb, inl → Qc, elim → Qh
open _root_.UInt8 renaming ofBitVec → Qd
open _root_.BitVec renaming ofInt → Qf, setWidth → Qg
open _root_.List renaming drop → Qi, take → Qj, set → Ql, replicate → Qo
open _root_.Nat renaming ble → Qm
open _root_.Int renaming tdiv → Qn
def Zjc (a0:Jj):O1 (BitVec 32):=
 bif a0.jal then let v1:List Bool:=[!(decide (a0.rP=([]:List UInt8))),!(decide (a0.user=([]:List UInt8))),!(decide (a0.name=([]:List UInt8))),!(decide (a0.jbh=0#64)),!(decide (a0.jl=0)),!(decide (a0.jw=0)),decide (0 < (a0.list.length:Int)),a0.jp,a0.jbb,a0.jo,a0.jab,!(decide (a0.jk=0)),true,!(decide (a0.jbe=0#64)),decide (0 < (a0.box.length:Int)),decide (0 < (a0.proof.length:Int)),!(decide (a0.jm=0)),decide (0 < (a0.iD.length:Int)),!(decide (a0.count=0))];(Zjq v1).bind λr2=>rt r2.2.1 else let v3:List Bool:=[!(decide (a0.rP=([]:List UInt8))),!(decide (a0.user=([]:List UInt8))),!(decide (a0.name=([]:List UInt8))),!(decide (a0.jbh=0#64)),!(decide (a0.jl=0)),!(decide (a0.jw=0)),decide (0 < (a0.list.length:Int)),a0.jp,a0.jbb,a0.jo,a0.jab,!(decide (a0.jk=0)),!(decide (a0.auth=0#64)),!(decide (a0.jbe=0#64)),decide (0 < (a0.box.length:Int)),decide (0 < (a0.proof.length:Int)),!(decide (a0.jm=0)),decide (0 < (a0.iD.length:Int)),!(decide (a0.count=0))];(Zjq v3).bind λr4=>rt r4.2.1
def c198:=ct c197 155 [qal] [(.v .u32)] (u1 Zjc)
theorem o198:EO c198:=sz o197 Tryz.func155
def Zgp_L0b (y0:List Int) (y1 y2:Int):Option (((List (Int)) × Int × Int × Unit)⊕((Bool × Unit) ⊕ (Unit))):=
 bif decide (y2 < y1) then (getI y0 y2).bind λx1=>bif decide (x1 < 0) then some (Qb (Qc (false,()))) else bif decide (255 < x1) then some (Qb (Qc (false,()))) else some (Qc (y0,y1,Qa .i64 (y2+1),())) else some (Qb (Qb ()))
def Zgp_L0:=Yi3 Zgp_L0b
def Zgp (a0:List Int):O1 Bool:=
 (Zgp_L0 (a0,(a0.length:Int),0,())).bind (Qh (λz2=>rt z2.1) (λz3=>rt true))
def c199:=ct c198 250 [qbx] [qd] (u1 Zgp)
def s_Zgp_L0:LSpec T:=⟨[(5,qbx),(6,qb),(7,qb)],[(.ret,[(2,qn)]),(.exit 0,[])],Zgp_L0,[]⟩
def A_Zgp:Loc2 T:=lcA [(0,s_Zgp_L0)] [] []
theorem Vqd:LO c199 Tryz.f250 0 s_Zgp_L0:=lx o198 A_Zgp dn (λ_=>rfl)
theorem o199:EO c199:=sx o198 A_Zgp Tryz.func250 (dc rfl Vqd dn)
def Zgo_L1b (y0:Jj×Unit) (y1:BitVec 32) (y2:List (List UInt8)) (y3 y4:Int):Option (((Jj × Unit) × (BitVec 32) × (List (List UInt8)) × Int × Int × Unit)⊕((Int × Unit) ⊕ ((Jj × Unit) × (BitVec 32) × Unit))):=
 bif decide (y4 < y3) then (getI y2 y4).bind λx46=>bif !(decide ((x46.length:Int)=176)) then some (Qb (Qc (4,()))) else some (Qc ((y0.1,()),y1,y2,y3,Qa .i64 (y4+1),())) else some (Qb (Qb ((y0.1,()),y1,())))
def Zgo_L1:=Yi5 Zgo_L1b
def Zgo (a0:Jj):O1 Int:=
 bif decide (a0.kind < 1) then rt 3 else bif decide (14 < a0.kind) then rt 3 else bif decide (0<=a0.kind)&&decide (a0.kind < 15) then [0#32,0#32,15870#32,9874#32,0#32,0#32,0#32,49152#32,114688#32,212994#32,0#32,8192#32,270336#32,811008#32,57344#32][a0.kind.toNat]?.bind λx1=>((Zjc a0).bind λr2=>bif !(decide (r2.2.1&&&~~~x1=0#32)) then bif !(decide (r2.2.1&&&~~~x1=0#32)) then (rt (4:Int)).bind λq=>some (Qb q) else let v3:List Int:=[a0.jl,a0.jw,a0.jk,a0.jm,a0.count];(Zgp v3).bind λr4=>bif !r4.2.1 then (rt (9:Int)).bind λq=>some (Qb q) else bif decide (64 < (a0.rP.length:Int)) then bif decide (64 < (a0.rP.length:Int)) then (rt (8:Int)).bind λq=>some (Qb q) else (Zhp a0.rP).bind λr5=>bif !r5.2.1 then bif !r5.2.1 then (rt (6:Int)).bind λq=>some (Qb q) else some (Qc ((a0,()),x1,())) else (Zhp a0.name).bind λr6=>bif !r6.2.1 then (rt (6:Int)).bind λq=>some (Qb q) else some (Qc ((a0,()),x1,())) else bif decide (16 < (a0.user.length:Int)) then bif decide (16 < (a0.user.length:Int)) then (rt (8:Int)).bind λq=>some (Qb q) else (Zhp a0.rP).bind λr7=>bif !r7.2.1 then bif !r7.2.1 then (rt (6:Int)).bind λq=>some (Qb q) else some (Qc ((a0,()),x1,())) else (Zhp a0.name).bind λr8=>bif !r8.2.1 then (rt (6:Int)).bind λq=>some (Qb q) else some (Qc ((a0,()),x1,())) else bif decide (32 < (a0.name.length:Int)) then bif decide (32 < (a0.name.length:Int)) then (rt (8:Int)).bind λq=>some (Qb q) else (Zhp a0.rP).bind λr9=>bif !r9.2.1 then bif !r9.2.1 then (rt (6:Int)).bind λq=>some (Qb q) else some (Qc ((a0,()),x1,())) else (Zhp a0.name).bind λr10=>bif !r10.2.1 then (rt (6:Int)).bind λq=>some (Qb q) else some (Qc ((a0,()),x1,())) else bif decide (8 < (a0.list.length:Int)) then bif decide (8 < (a0.list.length:Int)) then (rt (8:Int)).bind λq=>some (Qb q) else (Zhp a0.rP).bind λr11=>bif !r11.2.1 then bif !r11.2.1 then (rt (6:Int)).bind λq=>some (Qb q) else some (Qc ((a0,()),x1,())) else (Zhp a0.name).bind λr12=>bif !r12.2.1 then (rt (6:Int)).bind λq=>some (Qb q) else some (Qc ((a0,()),x1,())) else bif decide (1024 < (a0.box.length:Int)) then bif decide (1024 < (a0.box.length:Int)) then (rt (8:Int)).bind λq=>some (Qb q) else (Zhp a0.rP).bind λr13=>bif !r13.2.1 then bif !r13.2.1 then (rt (6:Int)).bind λq=>some (Qb q) else some (Qc ((a0,()),x1,())) else (Zhp a0.name).bind λr14=>bif !r14.2.1 then (rt (6:Int)).bind λq=>some (Qb q) else some (Qc ((a0,()),x1,())) else bif decide (1024 < (a0.proof.length:Int)) then (rt (8:Int)).bind λq=>some (Qb q) else (Zhp a0.rP).bind λr15=>bif !r15.2.1 then bif !r15.2.1 then (rt (6:Int)).bind λq=>some (Qb q) else some (Qc ((a0,()),x1,())) else (Zhp a0.name).bind λr16=>bif !r16.2.1 then (rt (6:Int)).bind λq=>some (Qb q) else some (Qc ((a0,()),x1,())) else bif !(decide (a0.auth=0#64)) then bif !a0.jal then (rt (4:Int)).bind λq=>some (Qb q) else let v17:List Int:=[a0.jl,a0.jw,a0.jk,a0.jm,a0.count];(Zgp v17).bind λr18=>bif !r18.2.1 then (rt (9:Int)).bind λq=>some (Qb q) else bif decide (64 < (a0.rP.length:Int)) then bif decide (64 < (a0.rP.length:Int)) then (rt (8:Int)).bind λq=>some (Qb q) else (Zhp a0.rP).bind λr19=>bif !r19.2.1 then bif !r19.2.1 then (rt (6:Int)).bind λq=>some (Qb q) else some (Qc ((a0,()),x1,())) else (Zhp a0.name).bind λr20=>bif !r20.2.1 then (rt (6:Int)).bind λq=>some (Qb q) else some (Qc ((a0,()),x1,())) else bif decide (16 < (a0.user.length:Int)) then bif decide (16 < (a0.user.length:Int)) then (rt (8:Int)).bind λq=>some (Qb q) else (Zhp a0.rP).bind λr21=>bif !r21.2.1 then bif !r21.2.1 then (rt (6:Int)).bind λq=>some (Qb q) else some (Qc ((a0,()),x1,())) else (Zhp a0.name).bind λr22=>bif !r22.2.1 then (rt (6:Int)).bind λq=>some (Qb q) else some (Qc ((a0,()),x1,())) else bif decide (32 < (a0.name.length:Int)) then bif decide (32 < (a0.name.length:Int)) then (rt (8:Int)).bind λq=>some (Qb q) else (Zhp a0.rP).bind λr23=>bif !r23.2.1 then bif !r23.2.1 then (rt (6:Int)).bind λq=>some (Qb q) else some (Qc ((a0,()),x1,())) else (Zhp a0.name).bind λr24=>bif !r24.2.1 then (rt (6:Int)).bind λq=>some (Qb q) else some (Qc ((a0,()),x1,())) else bif decide (8 < (a0.list.length:Int)) then bif decide (8 < (a0.list.length:Int)) then (rt (8:Int)).bind λq=>some (Qb q) else (Zhp a0.rP).bind λr25=>bif !r25.2.1 then bif !r25.2.1 then (rt (6:Int)).bind λq=>some (Qb q) else some (Qc ((a0,()),x1,())) else (Zhp a0.name).bind λr26=>bif !r26.2.1 then (rt (6:Int)).bind λq=>some (Qb q) else some (Qc ((a0,()),x1,())) else bif decide (1024 < (a0.box.length:Int)) then bif decide (1024 < (a0.box.length:Int)) then (rt (8:Int)).bind λq=>some (Qb q) else (Zhp a0.rP).bind λr27=>bif !r27.2.1 then bif !r27.2.1 then (rt (6:Int)).bind λq=>some (Qb q) else some (Qc ((a0,()),x1,())) else (Zhp a0.name).bind λr28=>bif !r28.2.1 then (rt (6:Int)).bind λq=>some (Qb q) else some (Qc ((a0,()),x1,())) else bif decide (1024 < (a0.proof.length:Int)) then (rt (8:Int)).bind λq=>some (Qb q) else (Zhp a0.rP).bind λr29=>bif !r29.2.1 then bif !r29.2.1 then (rt (6:Int)).bind λq=>some (Qb q) else some (Qc ((a0,()),x1,())) else (Zhp a0.name).bind λr30=>bif !r30.2.1 then (rt (6:Int)).bind λq=>some (Qb q) else some (Qc ((a0,()),x1,())) else let v31:List Int:=[a0.jl,a0.jw,a0.jk,a0.jm,a0.count];(Zgp v31).bind λr32=>bif !r32.2.1 then (rt (9:Int)).bind λq=>some (Qb q) else bif decide (64 < (a0.rP.length:Int)) then bif decide (64 < (a0.rP.length:Int)) then (rt (8:Int)).bind λq=>some (Qb q) else (Zhp a0.rP).bind λr33=>bif !r33.2.1 then bif !r33.2.1 then (rt (6:Int)).bind λq=>some (Qb q) else some (Qc ((a0,()),x1,())) else (Zhp a0.name).bind λr34=>bif !r34.2.1 then (rt (6:Int)).bind λq=>some (Qb q) else some (Qc ((a0,()),x1,())) else bif decide (16 < (a0.user.length:Int)) then bif decide (16 < (a0.user.length:Int)) then (rt (8:Int)).bind λq=>some (Qb q) else (Zhp a0.rP).bind λr35=>bif !r35.2.1 then bif !r35.2.1 then (rt (6:Int)).bind λq=>some (Qb q) else some (Qc ((a0,()),x1,())) else (Zhp a0.name).bind λr36=>bif !r36.2.1 then (rt (6:Int)).bind λq=>some (Qb q) else some (Qc ((a0,()),x1,())) else bif decide (32 < (a0.name.length:Int)) then bif decide (32 < (a0.name.length:Int)) then (rt (8:Int)).bind λq=>some (Qb q) else (Zhp a0.rP).bind λr37=>bif !r37.2.1 then bif !r37.2.1 then (rt (6:Int)).bind λq=>some (Qb q) else some (Qc ((a0,()),x1,())) else (Zhp a0.name).bind λr38=>bif !r38.2.1 then (rt (6:Int)).bind λq=>some (Qb q) else some (Qc ((a0,()),x1,())) else bif decide (8 < (a0.list.length:Int)) then bif decide (8 < (a0.list.length:Int)) then (rt (8:Int)).bind λq=>some (Qb q) else (Zhp a0.rP).bind λr39=>bif !r39.2.1 then bif !r39.2.1 then (rt (6:Int)).bind λq=>some (Qb q) else some (Qc ((a0,()),x1,())) else (Zhp a0.name).bind λr40=>bif !r40.2.1 then (rt (6:Int)).bind λq=>some (Qb q) else some (Qc ((a0,()),x1,())) else bif decide (1024 < (a0.box.length:Int)) then bif decide (1024 < (a0.box.length:Int)) then (rt (8:Int)).bind λq=>some (Qb q) else (Zhp a0.rP).bind λr41=>bif !r41.2.1 then bif !r41.2.1 then (rt (6:Int)).bind λq=>some (Qb q) else some (Qc ((a0,()),x1,())) else (Zhp a0.name).bind λr42=>bif !r42.2.1 then (rt (6:Int)).bind λq=>some (Qb q) else some (Qc ((a0,()),x1,())) else bif decide (1024 < (a0.proof.length:Int)) then (rt (8:Int)).bind λq=>some (Qb q) else (Zhp a0.rP).bind λr43=>bif !r43.2.1 then bif !r43.2.1 then (rt (6:Int)).bind λq=>some (Qb q) else some (Qc ((a0,()),x1,())) else (Zhp a0.name).bind λr44=>bif !r44.2.1 then (rt (6:Int)).bind λq=>some (Qb q) else some (Qc ((a0,()),x1,()))).bind (Qh (λj45=>(Zgo_L1 ((j45.1.1,()),j45.2.1,j45.1.1.list,(j45.1.1.list.length:Int),0,())).bind (Qh (λz47=>rt z47.1) (λz48=>bif !(decide (z48.2.1&&&262144#32=0#32)) then bif !(decide ((z48.1.1.iD.length:Int)=176)) then rt 4 else rt 0 else rt 0))) some) else none
def c200:=ct c199 153 [qal] [qa] (u1 Zgo)
def s_Zgo_L1:LSpec T:=⟨[(1,qm),(3,qan),(81,qay),(82,qb),(83,qb)],[(.ret,[(2,qb)]),(.exit 1,[(1,qm),(3,qan)])],Zgo_L1,[]⟩
def A_Zgo:Loc2 T:=lcA [(1,s_Zgo_L1)] [(19,[(1,qm),(3,qan)],false)] []
theorem Vqe:LO c200 Tryz.f153 1 s_Zgo_L1:=lx o199 A_Zgo dn (λ_=>rfl)
theorem o200:EO c200:=sx o199 A_Zgo Tryz.func153 (dc rfl Vqe dn)
def Zla (a0:List UInt8):O1 (List Ja):=
 rt [⟨4,0#64,a0⟩]
def c201:=cf c200 156 [qh] [qw] (u1 Zla)
theorem o201:EO c201:=sz o200 Tryz.func156
def Zkq (a0:List UInt8):O1 (List Ja):=
 rt [⟨3,0#64,a0⟩]
def c202:=cf c201 157 [qe] [qw] (u1 Zkq)
theorem o202:EO c202:=sz o201 Tryz.func157
def Zlb (a0:BitVec 64):O1 (List Ja):=
 let v1:List Ja:=[⟨1,a0,[]⟩];rt v1
def c203:=cf c202 158 [qf] [qw] (u1 Zlb)
theorem o203:EO c203:=sz o202 Tryz.func158
def Zio (a0:Jah):O1 Bool:=
 bif decide (0 < a0.count) then rt (decide ((a0.jas.length:Int)=0)) else rt false
def c204:=ct c203 189 [qbt] [qd] (u1 Zio)
theorem o204:EO c204:=sz o203 Tryz.func189
def Zhu (a0:Jah):O1 Bool:=
 bif decide (0 < (a0.jas.length:Int)) then (getI a0.jas (Qa .i64 ((a0.jas.length:Int) - 1))).bind λx1=>bif x1.jat then (getI a0.jas (Qa .i64 ((a0.jas.length:Int) - 1))).bind λx2=>rt (decide (Int.tmod x2.left 2=0)) else rt false else rt false
def c205:=ct c204 389 [qbt] [qd] (u1 Zhu)
theorem o205:EO c205:=sz o204 Tryz.func389
def Zht (a0:Jah) (a1:Int):O1 Int:=
 bif decide (512<=a0.count) then rt 8 else bif decide (a1 < 1) then rt 3 else bif decide (8 < a1) then rt 3 else (Zhu a0).bind λr1=>bif r1.2.1 then bif !(decide (a1=1)) then bif !(decide (a1=2)) then bif !(decide (a1=4)) then rt 3 else bif decide (8 < (a0.jas.length:Int)) then rt 5 else rt 0 else bif decide (8 < (a0.jas.length:Int)) then rt 5 else rt 0 else bif decide (8 < (a0.jas.length:Int)) then rt 5 else rt 0 else bif decide (8 < (a0.jas.length:Int)) then rt 5 else rt 0
def c206:=ct c205 316 [qbt,qb] [qa] (u2 Zht)
theorem o206:EO c206:=sz o205 Tryz.func316
def Zkf (a0:Ja):O1 Bool:=
 bif decide (a0.kind=3) then bif decide (a0.kind=3) then rt (decide (a0.number=0#64)) else bif decide (a0.kind=8) then bif decide (a0.number=0#64) then rt (decide (a0.data=([]:List UInt8))) else rt false else bif decide (a0.kind=7) then bif decide (a0.number.toNat<=(1#64).toNat) then rt (decide (a0.data=([]:List UInt8))) else rt false else rt (decide (a0.data=([]:List UInt8))) else bif decide (a0.kind=4) then rt (decide (a0.number=0#64)) else bif decide (a0.kind=8) then bif decide (a0.number=0#64) then rt (decide (a0.data=([]:List UInt8))) else rt false else bif decide (a0.kind=7) then bif decide (a0.number.toNat<=(1#64).toNat) then rt (decide (a0.data=([]:List UInt8))) else rt false else rt (decide (a0.data=([]:List UInt8)))
def c207:=ct c206 441 [qb1] [qd] (u1 Zkf)
theorem o207:EO c207:=sz o206 Tryz.func441
def Zhr_L1b (y0:List UInt8) (y1:BitVec 64) (y2:Int):Option (((List (UInt8)) × (BitVec 64) × Int × Unit)⊕((List (UInt8)) × Unit)):=
 bif decide (0<=y2) then bif decide (0<=Qa .i64 (8*y2)) then let v7:=Qd (Qg 8 (y1>>>(Qa .i64 (8*y2)).toNat));bif small (y0.length+([v7]).length) 1 then some (Qc (y0++[v7],y1,Qa .i64 (y2 - 1),())) else none else none else some (Qb (y0,()))
def Zhr_L1:=Yi3 Zhr_L1b
def Zhr (a0:List UInt8) (a1:UInt8) (a2:BitVec 64):O1 (List UInt8):=
 (bif decide (a2.toNat < (24#64).toNat) then let v1:=Qd ((Qd (a1.toBitVec <<< 5)).toBitVec+(Qd (Qg 8 a2)).toBitVec);bif small (a0.length+([v1]).length) 1 then (rt (a0++[v1])).bind λq=>some (Qb q) else none else bif decide (a2.toNat < (256#64).toNat) then let v2:=Qd ((Qd (a1.toBitVec <<< 5)).toBitVec+(24:UInt8).toBitVec);some (Qc (a0,a2,v2,(1:Int),())) else bif decide (a2.toNat < (65536#64).toNat) then let v3:=Qd ((Qd (a1.toBitVec <<< 5)).toBitVec+(25:UInt8).toBitVec);some (Qc (a0,a2,v3,(2:Int),())) else bif decide (a2.toNat < (4294967296#64).toNat) then let v4:=Qd ((Qd (a1.toBitVec <<< 5)).toBitVec+(26:UInt8).toBitVec);some (Qc (a0,a2,v4,(4:Int),())) else let v5:=Qd ((Qd (a1.toBitVec <<< 5)).toBitVec+(27:UInt8).toBitVec);some (Qc (a0,a2,v5,(8:Int),()))).bind (Qh (λj6=>bif small (j6.1.length+([j6.2.2.1]).length) 1 then (Zhr_L1 (j6.1++[j6.2.2.1],j6.2.1,Qa .i64 (j6.2.2.2.1 - 1),())).bind λz8=>rt z8.1 else none) some)
def c208:=cf c207 417 [qam,qav,qf] [qj] (u3 Zhr)
def s_Zhr_L1:LSpec T:=⟨[(0,qam),(2,qf),(9,qb)],[(.exit 1,[(0,qam)])],Zhr_L1,[]⟩
def A_Zhr:Loc2 T:=lcA [(1,s_Zhr_L1)] [(12,[(0,qam),(2,qf),(7,qav),(8,qb)],false)] []
theorem Vqf:LO c208 Tryz.f417 1 s_Zhr_L1:=lx o207 A_Zhr dn (λ_=>rfl)
theorem o208:EO c208:=sx o207 A_Zhr Tryz.func417 (dc rfl Vqf dn)
def Zhs (a0:List UInt8) (a1:Ja):O1 (List UInt8):=
 bif decide (a1.kind=7) then let v1:=Qd ((244:UInt8).toBitVec+(Qd (Qg 8 a1.number)).toBitVec);bif small (a0.length+([v1]).length) 1 then rt (a0++[v1]) else none else bif decide (a1.kind=8) then bif small (a0.length+([246]:List UInt8).length) 1 then rt (a0++[246]) else none else bif decide (a1.kind=3) then bif decide (a1.kind=3) then let v2:=Qd (Qf 8 (Qa .i64 (a1.kind - 1)));(Zhr a0 v2 (Qf 64 (a1.data.length:Int))).bind λr3=>bif small (r3.2.1.length+(a1.data:List UInt8).length) 1 then rt (r3.2.1++a1.data) else none else let v4:=Qd (Qf 8 (Qa .i64 (a1.kind - 1)));(Zhr a0 v4 a1.number).bind λr5=>rt r5.2.1 else bif decide (a1.kind=4) then let v6:=Qd (Qf 8 (Qa .i64 (a1.kind - 1)));(Zhr a0 v6 (Qf 64 (a1.data.length:Int))).bind λr7=>bif small (r7.2.1.length+(a1.data:List UInt8).length) 1 then rt (r7.2.1++a1.data) else none else let v8:=Qd (Qf 8 (Qa .i64 (a1.kind - 1)));(Zhr a0 v8 a1.number).bind λr9=>rt r9.2.1
def c209:=cf c208 366 [qam,qb1] [qj] (u2 Zhs)
theorem o209:EO c209:=sz o208 Tryz.func366
def c210:List (Ct T):=⟨422,none,S_Ziv,true⟩::c209
theorem o210:EnvOk Tryz.prog (mE c210):=eCons Vyv o209
def Zjm (a0 a1:List UInt8):O1 Bool:=
 bif !(decide ((a0.length:Int)=(a1.length:Int))) then rt (decide ((a0.length:Int) < (a1.length:Int))) else (Ziv a0 a1).bind λr1=>rt (decide (r1.2.1 < 0))
def c211:=ct c210 390 [qe,qe] [qd] (u2 Zjm)
theorem o211:EO c211:=sz o210 Tryz.func390
def Zip_L0b (y0:List Jg×Int×Unit) (y1:Int):Option ((((List (Jg)) × Int × Unit) × Int × Unit)⊕(((List (Jg)) × Int × Unit) × Unit)):=
 bif decide (0 < y1) then bif decide (0<=Qa .i64 (y1 - 1))&&decide (Qa .i64 (y1 - 1) < y0.1.length) then y0.1[(Qa .i64 (y1 - 1)).toNat]?.bind λx10=>bif decide (x10.left=0) then bif decide (0<=Qa .i64 (y1 - 1))&&decide (Qa .i64 (y1 - 1)<=y0.1.length) then bif decide ((Qa .i64 (y1 - 1)).toNat<=y0.1.length) then some (Qc ((Qj (Qa .i64 (y1 - 1)).toNat y0.1,y0.2.1,()),Qa .i64 (y1 - 1),())) else none else none else some (Qb ((y0.1,y0.2.1,()),())) else none else some (Qb ((y0.1,y0.2.1,()),()))
def Zip_L0:=Yi2 Zip_L0b
def Zip (a0:List Jg×Int×Unit) (a1:Ja):Option (((List Jg×Int×Unit)×Unit)×Unit):=
 (bif decide (0 < (a0.1.length:Int)) then bif decide (0<=Qa .i64 ((a0.1.length:Int) - 1))&&decide (Qa .i64 ((a0.1.length:Int) - 1) < a0.1.length) then a0.1[(Qa .i64 ((a0.1.length:Int) - 1)).toNat]?.bind λx1=>bif decide (0<=Qa .i64 ((a0.1.length:Int) - 1))&&decide (Qa .i64 ((a0.1.length:Int) - 1) < a0.1.length) then a0.1[(Qa .i64 ((a0.1.length:Int) - 1)).toNat]?.bind λx2=>let v3:=Ql a0.1 (Qa .i64 ((a0.1.length:Int) - 1)).toNat ({x2 with left:=Qa .i64 (x1.left - 1)}:Jg);some ((v3,Qa .i64 (a0.2.1+1),()),(a1,()),()) else none else none else some ((a0.1,Qa .i64 (a0.2.1+1),()),(a1,()),())).bind λj4=>(bif decide (j4.2.1.1.kind=5) then bif decide ((0#64).toNat < j4.2.1.1.number.toNat) then let v5:List Jg:=[{left:=Qa .i64 (j4.2.1.1.number.toNat:Int)}];bif small (j4.1.1.length+(v5:List Jg).length) 40 then some ((j4.1.1++v5,j4.1.2.1,()),(j4.2.1.1,()),()) else none else some ((j4.1.1,j4.1.2.1,()),(j4.2.1.1,()),()) else some ((j4.1.1,j4.1.2.1,()),(j4.2.1.1,()),())).bind λj6=>(bif decide (j6.2.1.1.kind=6) then bif decide ((0#64).toNat < j6.2.1.1.number.toNat) then let v7:=Qa .i64 (2*Qa .i64 (j6.2.1.1.number.toNat:Int));bif small (j6.1.1.length+([⟨true,v7,[]⟩]:List Jg).length) 40 then let v8:=j6.1.1++[⟨true,v7,[]⟩];some ((v8,j6.1.2.1,()),()) else none else some ((j6.1.1,j6.1.2.1,()),()) else some ((j6.1.1,j6.1.2.1,()),())).bind λj9=>(Zip_L0 ((j9.1.1,j9.1.2.1,()),(j9.1.1.length:Int),())).bind λz11=>some (((z11.1.1,z11.1.2.1,()),()),())
def c212:=cf c211 391 [qaj,qb1] [] (u2 Zip)
def s_Zip_L0:LSpec T:=⟨[(0,qaj),(5,qb)],[(.exit 0,[(0,qaj)])],Zip_L0,[]⟩
def A_Zip:Loc2 T:=lcA [(0,s_Zip_L0)] [(5,[(0,qaj),(3,qa5)],true),(7,[(0,qaj),(3,qa5)],true),(9,[(0,qaj)],true)] [6,8]
theorem Vqg:LO c212 Tryz.f391 0 s_Zip_L0:=lx o211 A_Zip dn (λ_=>rfl)
theorem o212:EO c212:=sx o211 A_Zip Tryz.func391 (dc rfl Vqg dn)
def Zgk (a0:List Jg×Int×Unit) (a1:Ja):Option (((List Jg×Int×Unit)×Unit)×Int×Unit):=
 bif decide (a1.kind=4) then (Zhp a1.data).bind λr1=>bif !r1.2.1 then some (((a0.1,a0.2.1,()),()),6,()) else (Zhu ⟨a0.1,a0.2.1⟩).bind λr2=>bif r2.2.1 then bif decide (0<=Qa .i64 ((a0.1.length:Int) - 1))&&decide (Qa .i64 ((a0.1.length:Int) - 1) < a0.1.length) then (Zhs [] a1).bind λr3=>a0.1[(Qa .i64 ((a0.1.length:Int) - 1)).toNat]?.bind λx4=>bif !x4.jap.isEmpty then a0.1[(Qa .i64 ((a0.1.length:Int) - 1)).toNat]?.bind λx5=>(Zjm x5.jap r3.2.1).bind λr6=>bif !r6.2.1 then some (((a0.1,a0.2.1,()),()),7,()) else a0.1[(Qa .i64 ((a0.1.length:Int) - 1)).toNat]?.bind λx7=>bif r3.2.1.isEmpty then none else let v8:=Ql a0.1 (Qa .i64 ((a0.1.length:Int) - 1)).toNat ({x7 with jap:=r3.2.1}:Jg);(Zip (v8,a0.2.1,()) a1).bind λr9=>some (((r9.1.1.1,r9.1.1.2.1,()),()),0,()) else a0.1[(Qa .i64 ((a0.1.length:Int) - 1)).toNat]?.bind λx10=>bif r3.2.1.isEmpty then none else let v11:=Ql a0.1 (Qa .i64 ((a0.1.length:Int) - 1)).toNat ({x10 with jap:=r3.2.1}:Jg);(Zip (v11,a0.2.1,()) a1).bind λr12=>some (((r12.1.1.1,r12.1.1.2.1,()),()),0,()) else none else (Zip (a0.1,a0.2.1,()) a1).bind λr13=>some (((r13.1.1.1,r13.1.1.2.1,()),()),0,()) else (Zhu ⟨a0.1,a0.2.1⟩).bind λr14=>bif r14.2.1 then bif decide (0<=Qa .i64 ((a0.1.length:Int) - 1))&&decide (Qa .i64 ((a0.1.length:Int) - 1) < a0.1.length) then (Zhs [] a1).bind λr15=>a0.1[(Qa .i64 ((a0.1.length:Int) - 1)).toNat]?.bind λx16=>bif !x16.jap.isEmpty then a0.1[(Qa .i64 ((a0.1.length:Int) - 1)).toNat]?.bind λx17=>(Zjm x17.jap r15.2.1).bind λr18=>bif !r18.2.1 then some (((a0.1,a0.2.1,()),()),7,()) else a0.1[(Qa .i64 ((a0.1.length:Int) - 1)).toNat]?.bind λx19=>bif r15.2.1.isEmpty then none else let v20:=Ql a0.1 (Qa .i64 ((a0.1.length:Int) - 1)).toNat ({x19 with jap:=r15.2.1}:Jg);(Zip (v20,a0.2.1,()) a1).bind λr21=>some (((r21.1.1.1,r21.1.1.2.1,()),()),0,()) else a0.1[(Qa .i64 ((a0.1.length:Int) - 1)).toNat]?.bind λx22=>bif r15.2.1.isEmpty then none else let v23:=Ql a0.1 (Qa .i64 ((a0.1.length:Int) - 1)).toNat ({x22 with jap:=r15.2.1}:Jg);(Zip (v23,a0.2.1,()) a1).bind λr24=>some (((r24.1.1.1,r24.1.1.2.1,()),()),0,()) else none else (Zip (a0.1,a0.2.1,()) a1).bind λr25=>some (((r25.1.1.1,r25.1.1.2.1,()),()),0,())
def c213:=cf c212 317 [qaj,qb1] [qa] (u2 Zgk)
theorem o213:EO c213:=sz o212 Tryz.func317
def Zfd (a0:List Jg×Int×Unit) (a1:Ja):Option (((List Jg×Int×Unit)×Unit)×Int×Unit):=
 (Zio ⟨a0.1,a0.2.1⟩).bind λr1=>bif r1.2.1 then some (((a0.1,a0.2.1,()),()),2,()) else (Zht ⟨a0.1,a0.2.1⟩ a1.kind).bind λr2=>bif !(decide (r2.2.1=0)) then some (((a0.1,a0.2.1,()),()),r2.2.1,()) else (Zkf a1).bind λr3=>bif !r3.2.1 then some (((a0.1,a0.2.1,()),()),4,()) else bif decide (1024 < (a1.data.length:Int)) then some (((a0.1,a0.2.1,()),()),8,()) else bif decide (a1.kind=5) then bif decide ((512#64).toNat < a1.number.toNat) then some (((a0.1,a0.2.1,()),()),8,()) else (Zgk (a0.1,a0.2.1,()) a1).bind λr4=>some (((r4.1.1.1,r4.1.1.2.1,()),()),r4.2.1,()) else bif decide (a1.kind=6) then bif decide ((512#64).toNat < a1.number.toNat) then some (((a0.1,a0.2.1,()),()),8,()) else (Zgk (a0.1,a0.2.1,()) a1).bind λr5=>some (((r5.1.1.1,r5.1.1.2.1,()),()),r5.2.1,()) else (Zgk (a0.1,a0.2.1,()) a1).bind λr6=>some (((r6.1.1.1,r6.1.1.2.1,()),()),r6.2.1,())
def c214:=cf c213 416 [qaj,qb1] [qa] (u2 Zfd)
theorem o214:EO c214:=sz o213 Tryz.func416
def Ziw_L0b (y0:List Jg×Int×Unit) (y1:List Ja) (y2 y3:Int):Option ((((List (Jg)) × Int × Unit) × (List (Ja)) × Int × Int × Unit)⊕((Int × Unit) ⊕ (((List (Jg)) × Int × Unit) × Unit))):=
 bif decide (y3 < y2) then (getI y1 y3).bind λx1=>(Zfd (y0.1,y0.2.1,()) x1).bind λr2=>bif !(decide (r2.2.1=0)) then some (Qb (Qc (r2.2.1,()))) else some (Qc ((r2.1.1.1,r2.1.1.2.1,()),y1,y2,Qa .i64 (y3+1),())) else some (Qb (Qb ((y0.1,y0.2.1,()),())))
def Ziw_L0:=Yi4 Ziw_L0b
def Ziw (a0:List Ja):O1 Int:=
 (Ziw_L0 (([],0,()),a0,(a0.length:Int),0,())).bind (Qh (λz3=>rt z3.1) (λz4=>(Zio ⟨z4.1.1,z4.1.2.1⟩).bind λr5=>bif !r5.2.1 then rt 1 else rt 0))
def S_Ziw:FSpec T:=⟨[ql],[qa],λx=>Ziw x.1⟩
def s_Ziw_L0:LSpec T:=⟨[(3,qaj),(7,ql),(8,qb),(9,qb)],[(.ret,[(2,qb)]),(.exit 0,[(3,qaj)])],Ziw_L0,[]⟩
def A_Ziw:Loc2 T:=lcA [(0,s_Ziw_L0)] [] []
theorem Vqh:LoopOk Tryz.prog (mE c214) Tryz.f365.ntmps (kqOf S_Ziw.ps 0) (loopAt 0 (bodyOf Tryz.f365)) s_Ziw_L0:=
 lpC hmix o214 A_Ziw Vaa 0 (st:=λy=>Ziw_L0b y.1 y.2.1 y.2.2.1 y.2.2.2.1) (λ_=>rfl) (by kernel_rfl) (by kernel_rfl) λx=>by kernel_rfl
theorem Vv7:SoundT Tryz.prog cd gdn 365 S_Ziw:=
 sndC hmix o214 A_Ziw Tryz.func365 (Vab rfl Vqh Vaa) (by kernel_rfl) (by kernel_rfl) λx=>by kernel_rfl
def c215:List (Ct T):=⟨365,none,S_Ziw,true⟩::c214
theorem o215:EnvOk Tryz.prog (mE c215):=eCons Vv7 o214
def Zke_L0b (y0:List (List Ja)) (y1 y2:Int):Option (((List (List Ja)) × Int × Int × Unit)⊕((Int × Unit) ⊕ (Unit))):=
 bif decide (y2 < y1) then (getI y0 y2).bind λx1=>(Ziw x1).bind λr2=>bif !(decide (r2.2.1=0)) then some (Qb (Qc (r2.2.1,()))) else some (Qc (y0,y1,Qa .i64 (y2+1),())) else some (Qb (Qb ()))
def Zke_L0:=Yi3 Zke_L0b
def Zke (a0:List (List Ja)):O1 Int:=
 (Zke_L0 (a0,(a0.length:Int),0,())).bind (Qh (λz3=>rt z3.1) (λz4=>rt 0))
def c216:=ct c215 363 [qae] [qa] (u1 Zke)
def s_Zke_L0:LSpec T:=⟨[(6,qae),(7,qb),(8,qb)],[(.ret,[(2,qb)]),(.exit 0,[])],Zke_L0,[]⟩
def A_Zke:Loc2 T:=lcA [(0,s_Zke_L0)] [] []
theorem Vqi:LO c216 Tryz.f363 0 s_Zke_L0:=lx o215 A_Zke dn (λ_=>rfl)
theorem o216:EO c216:=sx o215 A_Zke Tryz.func363 (dc rfl Vqi dn)
def Zjl (a0:List Ja):O2 (List Ja) Int:=
 (Ziw a0).bind λr1=>bif !(decide (r1.2.1=0)) then ru [] r1.2.1 else ru a0 0
def c217:=cf c216 364 [ql] [qbn,qa] (u1 Zjl)
theorem o217:EO c217:=sz o216 Tryz.func364
def Zkp_L0b (y0:List Ja) (y1:List (List Ja)) (y2 y3:Int):Option (((List (Ja)) × (List (List Ja)) × Int × Int × Unit)⊕((List (Ja)) × Unit)):=
 bif decide (y3 < y2) then (getI y1 y3).bind λx3=>bif decide (512 < (y0.length:Int)) then some (Qb (y0,())) else bif small (y0.length+(x3:List Ja).length) 32 then some (Qc (y0++x3,y1,y2,Qa .i64 (y3+1),())) else none else some (Qb (y0,()))
def Zkp_L0:=Yi4 Zkp_L0b
def Zkp (a0:List (List Ja)):O2 (List Ja) Int:=
 (Zke a0).bind λr1=>bif !(decide (r1.2.1=0)) then ru [] r1.2.1 else let v2:List Ja:=[⟨5,Qf 64 (a0.length:Int),[]⟩];(Zkp_L0 (v2,a0,(a0.length:Int),0,())).bind λz4=>(Zjl z4.1).bind λr5=>ru r5.2.1 r5.2.2.1
def c218:=cf c217 367 [qae] [qbn,qa] (u1 Zkp)
def s_Zkp_L0:LSpec T:=⟨[(5,qbh),(18,qae),(19,qb),(20,qb)],[(.exit 0,[(5,qbh)])],Zkp_L0,[]⟩
def A_Zkp:Loc2 T:=lcA [(0,s_Zkp_L0)] [] []
theorem Vqj:LO c218 Tryz.f367 0 s_Zkp_L0:=lx o217 A_Zkp dn (λ_=>rfl)
theorem o218:EO c218:=sx o217 A_Zkp Tryz.func367 (dc rfl Vqj dn)
def Zjb (a0:List (List Ja)):O1 (List Ja):=
 (Zkp a0).bind λr1=>bif !(decide (r1.2.2.1=0)) then rt [] else rt r1.2.1
def c219:=cf c218 255 [qae] [qbn] (u1 Zjb)
theorem o219:EO c219:=sz o218 Tryz.func255
def Zib_L0b (y0:List (List Ja)) (y1:List (List UInt8)) (y2 y3:Int):Option (((List (List Ja)) × (List (List UInt8)) × Int × Int × Unit)⊕((List (List Ja)) × Unit)):=
 bif decide (y3 < y2) then (getI y1 y3).bind λx1=>(Zkq x1).bind λr2=>bif small (y0.length+([r2.2.1]).length) 24 then some (Qc (y0++[r2.2.1],y1,y2,Qa .i64 (y3+1),())) else none else some (Qb (y0,()))
def Zib_L0:=Yi4 Zib_L0b
def Zib (a0:List (List UInt8)):O1 (List Ja):=
 (Zib_L0 ([],a0,(a0.length:Int),0,())).bind λz3=>(Zjb z3.1).bind λr4=>rt r4.2.1
def c220:=cf c219 159 [qay] [qbn] (u1 Zib)
def s_Zib_L0:LSpec T:=⟨[(3,qax),(6,qay),(7,qb),(8,qb)],[(.exit 0,[(3,qax)])],Zib_L0,[]⟩
def A_Zib:Loc2 T:=lcA [(0,s_Zib_L0)] [] []
theorem Vqk:LO c220 Tryz.f159 0 s_Zib_L0:=lx o219 A_Zib dn (λ_=>rfl)
theorem o220:EO c220:=sx o219 A_Zib Tryz.func159 (dc rfl Vqk dn)
def Zky (a0:Bool):O1 (List Ja):=
 bif a0 then let v1:List Ja:=[⟨7,1#64,[]⟩];rt v1 else let v2:List Ja:=[{kind:=7}];rt v2
def c221:=cf c220 160 [qn] [qw] (u1 Zky)
theorem o221:EO c221:=sz o220 Tryz.func160
def Zia (a0:BitVec 64):O1 Int:=
 (bif decide ((4294967296#64).toNat<=a0.toNat) then some (a0>>>32,(32:Int),()) else some (a0,(0:Int),())).bind λj1=>(bif decide ((65536#64).toNat<=j1.1.toNat) then some (j1.1>>>16,Qa .i64 (j1.2.1+16),()) else some (j1.1,j1.2.1,())).bind λj2=>bif decide ((256#64).toNat<=j2.1.toNat) then ([0,1,2,2,3,3,3,3,4,4,4,4,4,4,4,4,5,5,5,5,5,5,5,5,5,5,5,5,5,5,5,5,6,6,6,6,6,6,6,6,6,6,6,6,6,6,6,6,6,6,6,6,6,6,6,6,6,6,6,6,6,6,6,6,7,7,7,7,7,7,7,7,7,7,7,7,7,7,7,7,7,7,7,7,7,7,7,7,7,7,7,7,7,7,7,7,7,7,7,7,7,7,7,7,7,7,7,7,7,7,7,7,7,7,7,7,7,7,7,7,7,7,7,7,7,7,7,7,8,8,8,8,8,8,8,8,8,8,8,8,8,8,8,8,8,8,8,8,8,8,8,8,8,8,8,8,8,8,8,8,8,8,8,8,8,8,8,8,8,8,8,8,8,8,8,8,8,8,8,8,8,8,8,8,8,8,8,8,8,8,8,8,8,8,8,8,8,8,8,8,8,8,8,8,8,8,8,8,8,8,8,8,8,8,8,8,8,8,8,8,8,8,8,8,8,8,8,8,8,8,8,8,8,8,8,8,8,8,8,8,8,8,8,8,8,8,8,8,8,8,8,8,8,8,8,8]:List UInt8)[(Qd (Qg 8 (j2.1>>>8))).toNat]?.bind λx3=>let v4:=Qa .i64 (Qa .i64 (j2.2.1+8)+(x3.toBitVec.toNat:Int));rt v4 else ([0,1,2,2,3,3,3,3,4,4,4,4,4,4,4,4,5,5,5,5,5,5,5,5,5,5,5,5,5,5,5,5,6,6,6,6,6,6,6,6,6,6,6,6,6,6,6,6,6,6,6,6,6,6,6,6,6,6,6,6,6,6,6,6,7,7,7,7,7,7,7,7,7,7,7,7,7,7,7,7,7,7,7,7,7,7,7,7,7,7,7,7,7,7,7,7,7,7,7,7,7,7,7,7,7,7,7,7,7,7,7,7,7,7,7,7,7,7,7,7,7,7,7,7,7,7,7,7,8,8,8,8,8,8,8,8,8,8,8,8,8,8,8,8,8,8,8,8,8,8,8,8,8,8,8,8,8,8,8,8,8,8,8,8,8,8,8,8,8,8,8,8,8,8,8,8,8,8,8,8,8,8,8,8,8,8,8,8,8,8,8,8,8,8,8,8,8,8,8,8,8,8,8,8,8,8,8,8,8,8,8,8,8,8,8,8,8,8,8,8,8,8,8,8,8,8,8,8,8,8,8,8,8,8,8,8,8,8,8,8,8,8,8,8,8,8,8,8,8,8,8,8,8,8,8,8]:List UInt8)[(Qd (Qg 8 j2.1)).toNat]?.bind λx5=>rt (Qa .i64 (j2.2.1+(x5.toBitVec.toNat:Int)))
def c222:=ct c221 428 [qf] [qa] (u1 Zia)
theorem o222:EO c222:=sx o221 (lcA [] [(4,[(0,qf),(2,qb)],true),(7,[(0,qf),(2,qb)],true)] []) Tryz.func428 dn
def Zja (a0:BitVec 64):O1 Int:=
 (Zia a0).bind λr1=>rt r1.2.1
def c223:=ct c222 414 [qf] [qa] (u1 Zja)
theorem o223:EO c223:=sz o222 Tryz.func414
def Zgn (a0:BitVec 64):O1 Bool:=
 rt (!(decide (a0=a0)))
def c224:=ct c223 415 [qf] [qd] (u1 Zgn)
theorem o224:EO c224:=sz o223 Tryz.func415
def Zdt (a0 a1:BitVec 64):O1 Int:=
 (Zgn a0).bind λr1=>(Zgn a1).bind λr2=>bif r1.2.1 then bif r2.2.1 then rt 0 else rt (-1) else bif r2.2.1 then rt 1 else bif decide (a0.toNat < a1.toNat) then rt (-1) else bif decide (a1.toNat < a0.toNat) then rt 1 else rt 0
def c225:=ct c224 362 [qf,qf] [qa] (u2 Zdt)
theorem o225:EO c225:=sz o224 Tryz.func362
def Zkr (a0 a1:Int) (a2:List (BitVec 64)):O1 Int:=
 (getI a2 a0).bind λx1=>(getI a2 a1).bind λx2=>(Zdt x1 x2).bind λr3=>rt r3.2.1
def c226:=ct c225 361 [qb,qb,qat] [qa] (u3 Zkr)
theorem o226:EO c226:=sz o225 Tryz.func361
def Zab_L2b (y0:List Int) (y1 y2:Int) (y3:List (BitVec 64)×Unit) (y4 y5:Int):Option (((List (Int)) × Int × Int × ((List (BitVec 64)) × Unit) × Int × Int × Unit)⊕((List (Int)) × Int × Int × ((List (BitVec 64)) × Unit) × Int × Unit)):=
 bif decide (y1 < y5) then bif decide (0<=y5)&&decide (y5 < y0.length) then y0[y5.toNat]?.bind λx1=>bif decide (0<=Qa .i64 (y5 - 1))&&decide (Qa .i64 (y5 - 1) < y0.length) then y0[(Qa .i64 (y5 - 1)).toNat]?.bind λx2=>(Zkr x1 x2 y3.1).bind λr3=>bif decide (r3.2.1 < 0) then bif decide (0<=Qa .i64 (y5 - 1))&&decide (Qa .i64 (y5 - 1) < y0.length) then y0[(Qa .i64 (y5 - 1)).toNat]?.bind λx4=>bif decide (0<=y5)&&decide (y5 < y0.length) then y0[y5.toNat]?.bind λx5=>bif decide (0<=y5)&&decide (y5 < y0.length) then y0[y5.toNat]?.bind λx6=>bif decide (0<=Qa .i64 (y5 - 1))&&decide (Qa .i64 (y5 - 1) < y0.length) then (Ql y0 y5.toNat x4)[(Qa .i64 (y5 - 1)).toNat]?.bind λx7=>let v8:=Ql (Ql y0 y5.toNat x4) (Qa .i64 (y5 - 1)).toNat x5;some (Qc (v8,y1,y2,(y3.1,()),y4,Qa .i64 (y5 - 1),())) else none else none else none else none else some (Qb (y0,y1,y2,(y3.1,()),y4,())) else none else none else some (Qb (y0,y1,y2,(y3.1,()),y4,()))
def Zab_L2:=Yi6 Zab_L2b
def Zab_L0b (y0:List Int) (y1 y2:Int) (y3:List (BitVec 64)×Unit) (y4:Int):Option (((List (Int)) × Int × Int × ((List (BitVec 64)) × Unit) × Int × Unit)⊕((List (Int)) × Unit)):=
 bif decide (y4 < y2) then (Zab_L2 (y0,y1,y2,(y3.1,()),y4,y4,())).bind λz1=>some (Qc (z1.1,z1.2.1,z1.2.2.1,(z1.2.2.2.1.1,()),Qa .i64 (z1.2.2.2.2.1+1),())) else some (Qb (y0,()))
def Zab_L0:=Yi5 Zab_L0b
def Zab (a0:List Int) (a1 a2:Int) (a3:List (BitVec 64)×Unit):Option ((List Int×Unit)×Unit):=
 (Zab_L0 (a0,a1,a2,(a3.1,()),Qa .i64 (a1+1),())).bind λz2=>some ((z2.1,()),())
def c227:List (Ct T):=⟨432,(some (3,361)),⟨[(.inp 11),qb,qb,.f qx],[],(u4 Zab)⟩,false⟩::c226
def s_Zab_L2:LSpec T:=⟨[(0,qar),(1,qb),(2,qb),(3,.f qx),(8,qb),(9,qb)],[(.exit 2,[(0,qar),(1,qb),(2,qb),(3,.f qx),(8,qb)])],Zab_L2,[]⟩
def s_Zab_L0:LSpec T:=⟨[(0,qar),(1,qb),(2,qb),(3,.f qx),(8,qb)],[(.exit 0,[(0,qar)])],Zab_L0,[]⟩
def A_Zab:Loc2 T:=lcA [(2,s_Zab_L2),(0,s_Zab_L0)] [] []
theorem Vjp:LO c227 Tryz.f432 2 s_Zab_L2:=lx o226 A_Zab dn (λ_=>rfl)
theorem Vql:LO c227 Tryz.f432 0 s_Zab_L0:=lx o226 A_Zab (dc rfl Vjp dn) (λ_=>rfl)
theorem o227:EO c227:=sx o226 A_Zab Tryz.func432 (dc rfl Vjp (dc rfl Vql dn))
def Zal_L0b (y0:List Int) (y1 y2 y3:Int) (y4:List (BitVec 64)×Unit) (y5 y6:Bool):Option (((List (Int)) × Int × Int × Int × ((List (BitVec 64)) × Unit) × Bool × Bool × Unit)⊕((List (Int)) × Unit)):=
 bif decide (Qa .i64 (y2 - y1)<=12) then (Zab y0 y1 y2 (y4.1,())).bind λr1=>some (Qb (r1.1.1,())) else bif decide (y3=0) then none else (bif !y5 then none else some (y0,y1,y2,y3,(y4.1,()),y5,y6,Qa .i64 (y2 - y1),())).bind λj2=>none
def Zal_L0:=Yi7 Zal_L0b
def Zal (a0:List Int) (a1 a2 a3:Int) (a4:List (BitVec 64)×Unit):Option ((List Int×Unit)×Unit):=
 (Zal_L0 (a0,a1,a2,a3,(a4.1,()),true,true,())).bind λz3=>some ((z3.1,()),())
def c228:List (Ct T):=⟨413,(some (4,361)),⟨[(.inp 11),qb,qb,qb,.f qx],[],(u5 Zal)⟩,false⟩::c227
def s_Zal_L0:LSpec T:=⟨[(0,qar),(1,qb),(2,qb),(3,qb),(4,.f qx),(10,qn),(11,qn)],[(.ret,[(0,qar)])],Zal_L0,[]⟩
def A_Zal:Loc2 T:=lcA [(0,s_Zal_L0)] [(10,[(0,qar),(1,qb),(2,qb),(3,qb),(4,.f qx),(10,qn),(11,qn),(12,qb)],true)] []
theorem Vqm:LO c228 Tryz.f413 0 s_Zal_L0:=lx o227 A_Zal dn (λ_=>rfl)
theorem o228:EO c228:=sx o227 A_Zal Tryz.func413 (dc rfl Vqm dn)
def Zbe (a0:List Int) (a1:List (BitVec 64)×Unit):Option ((List Int×Unit)×Unit):=
 (Zja (Qf 64 (a0.length:Int))).bind λr1=>(Zal a0 0 (a0.length:Int) r1.2.1 (a1.1,())).bind λr2=>some ((r2.1.1,()),())
def c229:List (Ct T):=⟨360,(some (1,361)),⟨[(.inp 11),.f qx],[],(u2 Zbe)⟩,false⟩::c228
theorem o229:EO c229:=sz o228 Tryz.func360
def Zle_L0b (y0:List (List Ja)) (y1:List (BitVec 64)) (y2:List Int) (y3 y4:Int):Option (((List (List Ja)) × (List (BitVec 64)) × (List (Int)) × Int × Int × Unit)⊕((List (List Ja)) × (List (BitVec 64)) × (List (Int)) × Unit)):=
 bif decide (y4 < y3) then bif decide (0<=y4)&&decide (y4 < y2.length) then y2[y4.toNat]?.bind λx2=>some (Qc (y0,y1,Ql y2 y4.toNat y4,y3,Qa .i64 (y4+1),())) else none else some (Qb (y0,y1,y2,()))
def Zle_L0:=Yi5 Zle_L0b
def Zle_L2b (y0:List (List Ja)) (y1:List (BitVec 64)) (y2:List Int) (y3:Int):Option (((List (List Ja)) × (List (BitVec 64)) × (List (Int)) × Int × Unit)⊕(((List (Ja)) × Int × Unit) ⊕ ((List (List Ja)) × (List (BitVec 64)) × (List (Int)) × Unit))):=
 bif decide (y3 < y2.length) then bif decide (0<=Qa .i64 (y3 - 1))&&decide (Qa .i64 (y3 - 1) < y2.length) then y2[(Qa .i64 (y3 - 1)).toNat]?.bind λx5=>(getI y1 x5).bind λx6=>bif decide (0<=y3)&&decide (y3 < y2.length) then y2[y3.toNat]?.bind λx7=>(getI y1 x7).bind λx8=>bif decide (x6=x8) then some (Qb (Qc ([],10,()))) else some (Qc (y0,y1,y2,Qa .i64 (y3+1),())) else none else none else some (Qb (Qb (y0,y1,y2,())))
def Zle_L2:=Yi4 Zle_L2b
def Zle_L4b (y0:List (List Ja)) (y1:List (BitVec 64)) (y2:List Ja) (y3:List Int) (y4 y5:Int):Option (((List (List Ja)) × (List (BitVec 64)) × (List (Ja)) × (List (Int)) × Int × Int × Unit)⊕((List (Ja)) × Unit)):=
 bif decide (y5 < y4) then bif decide (0<=y5)&&decide (y5 < y3.length) then y3[y5.toNat]?.bind λx13=>bif decide (512 < (y2.length:Int)) then some (Qb (y2,())) else (getI y1 x13).bind λx14=>(Zlb x14).bind λr15=>bif small (y2.length+(r15.2.1:List Ja).length) 32 then (getI y0 x13).bind λx16=>bif small ((y2++r15.2.1).length+(x16:List Ja).length) 32 then some (Qc (y0,y1,y2++r15.2.1++x16,y3,y4,Qa .i64 (y5+1),())) else none else none else none else some (Qb (y2,()))
def Zle_L4:=Yi6 Zle_L4b
def Zle (a0:List (BitVec 64)) (a1:List (List Ja)):O2 (List Ja) Int:=
 bif !(decide ((a0.length:Int)=(a1.length:Int))) then ru [] 4 else bif decide (0<=(a0.length:Int))&&(decide ((a0.length:Int)<=(a0.length:Int))&&decide (8*(a0.length:Int)<=281474976710656/\(a0.length:Int)<=9223372036854775807)) then let v1:=Qo (a0.length:Int).toNat (0:Int);(Zle_L0 (a1,a0,v1,((a0.length:Int).toNat:Int),0,())).bind λz3=>(Zbe z3.2.2.1 (z3.2.1,())).bind λr4=>(Zle_L2 (z3.1,z3.2.1,r4.1.1,1,())).bind (Qh (λz9=>ru z9.1 z9.2.1) (λz10=>(Zke z10.1).bind λr11=>bif !(decide (r11.2.1=0)) then ru [] r11.2.1 else let v12:List Ja:=[⟨6,Qf 64 (z10.2.1.length:Int),[]⟩];(Zle_L4 (z10.1,z10.2.1,v12,z10.2.2.1,(z10.2.2.1.length:Int),0,())).bind λz17=>(Zjl z17.1).bind λr18=>ru r18.2.1 r18.2.2.1)) else none
def c230:=cf c229 252 [qap,qae] [qbn,qa] (u2 Zle)
def s_Zle_L0:LSpec T:=⟨[(1,qae),(2,qat),(6,qar),(22,qb),(23,qb)],[(.exit 0,[(1,qae),(2,qat),(6,qar)])],Zle_L0,[]⟩
def s_Zle_L2:LSpec T:=⟨[(1,qae),(2,qat),(6,qar),(8,qb)],[(.ret,[(4,qbh),(5,qb)]),(.exit 2,[(1,qae),(2,qat),(6,qar)])],Zle_L2,[]⟩
def s_Zle_L4:LSpec T:=⟨[(1,qae),(2,qat),(10,qbh),(66,qar),(67,qb),(68,qb)],[(.exit 4,[(10,qbh)])],Zle_L4,[]⟩
def A_Zle:Loc2 T:=lcA [(0,s_Zle_L0),(2,s_Zle_L2),(4,s_Zle_L4)] [] []
theorem Vf3:LO c230 Tryz.f252 0 s_Zle_L0:=lx o229 A_Zle dn (λ_=>rfl)
theorem Vjq:LO c230 Tryz.f252 2 s_Zle_L2:=lx o229 A_Zle (dc rfl Vf3 dn) (λ_=>rfl)
theorem Vqn:LO c230 Tryz.f252 4 s_Zle_L4:=lx o229 A_Zle (dc rfl Vf3 (dc rfl Vjq dn)) (λ_=>rfl)
theorem o230:EO c230:=sx o229 A_Zle Tryz.func252 (dc rfl Vf3 (dc rfl Vjq (dc rfl Vqn dn)))
def Zkc_L0b (y0:List UInt8) (y1:List Ja) (y2 y3:Int):Option (((List (UInt8)) × (List (Ja)) × Int × Int × Unit)⊕((List (UInt8)) × Unit)):=
 bif decide (y3 < y2) then (getI y1 y3).bind λx2=>(Zhs y0 x2).bind λr3=>some (Qc (r3.2.1,y1,y2,Qa .i64 (y3+1),())) else some (Qb (y0,()))
def Zkc_L0:=Yi4 Zkc_L0b
def Zkc (a0:List Ja):O2 (List UInt8) Int:=
 (Ziw a0).bind λr1=>bif !(decide (r1.2.1=0)) then ru [] r1.2.1 else (Zkc_L0 ([],a0,(a0.length:Int),0,())).bind λz4=>ru z4.1 0
def c231:=cf c230 253 [ql] [qj,qa] (u1 Zkc)
def s_Zkc_L0:LSpec T:=⟨[(5,qam),(13,ql),(14,qb),(15,qb)],[(.exit 0,[(5,qam)])],Zkc_L0,[]⟩
def A_Zkc:Loc2 T:=lcA [(0,s_Zkc_L0)] [] []
theorem Vqo:LO c231 Tryz.f253 0 s_Zkc_L0:=lx o230 A_Zkc dn (λ_=>rfl)
theorem o231:EO c231:=sx o230 A_Zkc Tryz.func253 (dc rfl Vqo dn)
def Zis_L0b (y0:UInt8) (y1:BitVec 32) (y2:List (BitVec 64)) (y3 y4:List (List Ja)) (y5 y6:Int):Option ((UInt8 × (BitVec 32) × (List (BitVec 64)) × (List (List Ja)) × (List (List Ja)) × Int × Int × Unit)⊕(UInt8 × (List (BitVec 64)) × (List (List Ja)) × Unit)):=
 bif decide (y6 < y5) then (getI y4 y6).bind λx1=>bif decide (0<=Qa .i64 (y6+1)) then let v2:=y1>>>(Qa .i64 (y6+1)).toNat&&&1#32;bif decide (v2=1#32) then let v3:List (BitVec 64):=[Qf 64 (Qa .i64 (y6+1))];bif small (y2.length+(v3:List (BitVec 64)).length) 8 then bif small (y3.length+([x1]).length) 24 then some (Qc (y0,y1,y2++v3,y3++[x1],y4,y5,Qa .i64 (y6+1),())) else none else none else some (Qc (y0,y1,y2,y3,y4,y5,Qa .i64 (y6+1),())) else none else some (Qb (y0,y2,y3,()))
def Zis_L0:=Yi7 Zis_L0b
def Zis (a0:UInt8) (a1:BitVec 32) (a2:List (List Ja)):O2 (List UInt8) Int:=
 (Zis_L0 (a0,a1,[],[],a2,(a2.length:Int),0,())).bind λz4=>(Zle z4.2.1 z4.2.2.1).bind λr5=>bif !(decide (r5.2.2.1=0)) then ru [] r5.2.2.1 else (Zkc r5.2.1).bind λr6=>bif !(decide (r6.2.2.1=0)) then ru [] r6.2.2.1 else bif small (([z4.1]).length+(r6.2.1:List UInt8).length) 1 then ru ([z4.1]++r6.2.1) 0 else none
def c232:=cf c231 154 [qav,qan,qae] [qj,qa] (u3 Zis)
def s_Zis_L0:LSpec T:=⟨[(0,qav),(1,qan),(8,qbr),(9,qax),(15,qae),(16,qb),(17,qb)],[(.exit 0,[(0,qav),(8,qbr),(9,qax)])],Zis_L0,[]⟩
def A_Zis:Loc2 T:=lcA [(0,s_Zis_L0)] [] []
theorem Vqp:LO c232 Tryz.f154 0 s_Zis_L0:=lx o231 A_Zis dn (λ_=>rfl)
theorem o232:EO c232:=sx o231 A_Zis Tryz.func154 (dc rfl Vqp dn)
def Zbp (a0:Jj):O2 (List UInt8) Int:=
 (Zgo a0).bind λr1=>bif !(decide (r1.2.1=0)) then ru [] r1.2.1 else (Zjc a0).bind λr2=>(Zla a0.rP).bind λr3=>(Zkq a0.user).bind λr4=>(Zla a0.name).bind λr5=>(Zlb a0.jbh).bind λr6=>(Zlb (Qf 64 a0.jl)).bind λr7=>(Zlb (Qf 64 a0.jw)).bind λr8=>(Zib a0.list).bind λr9=>(Zky a0.jp).bind λr10=>(Zky a0.jbb).bind λr11=>(Zky a0.jo).bind λr12=>(Zky a0.jab).bind λr13=>(Zlb (Qf 64 a0.jk)).bind λr14=>(Zlb a0.auth).bind λr15=>(Zlb a0.jbe).bind λr16=>(Zkq a0.box).bind λr17=>(Zkq a0.proof).bind λr18=>(Zlb (Qf 64 a0.jm)).bind λr19=>(Zkq a0.iD).bind λr20=>(Zlb (Qf 64 a0.count)).bind λr21=>let v22:List (List Ja):=[r3.2.1,r4.2.1,r5.2.1,r6.2.1,r7.2.1,r8.2.1,r9.2.1,r10.2.1,r11.2.1,r12.2.1,r13.2.1,r14.2.1,r15.2.1,r16.2.1,r17.2.1,r18.2.1,r19.2.1,r20.2.1,r21.2.1];(Zis (Qd (Qf 8 a0.kind)) r2.2.1 v22).bind λr23=>ru r23.2.1 r23.2.2.1
def c233:=cf c232 86 [qal] [qj,qa] (u1 Zbp)
theorem o233:EO c233:=sx o232 (lcA [] [] [4]) Tryz.func86 dn
def Zku (a0:Jc) (a1:Jj):Option (Unit×Jc×List Je×Jp×Unit):=
 (Zbp a1).bind λr1=>bif !(decide (r1.2.2.1=0)) then none else (Zkx a0.ju.jc).bind λr2=>(Zjs a0.ju.jc (3:Int) r1.2.1).bind λr3=>some ((),{a0 with ju:=r2.2.1},r3.2.1,{},())
def c234:=cf c233 43 [qbs,qal] [qp,qa1,qa7] (u2 Zku)
theorem o234:EO c234:=sz o233 Tryz.func43
def Zgm (a0:Jc) (a1:Int) (a2:List UInt8):Option (Unit×Jc×List Je×Jp×Unit):=
 bif !(decide (a1=6)) then some ((),a0,[],{},()) else bif !(decide ((a2.length:Int)=12)) then some ((),a0,[],{},()) else bif decide (8<=(a2.length:Int)) then (Zjo [a0.jbx]).bind λr1=>(Zka (Qj 8 a2) r1.2.1).bind λr2=>bif !r2.2.1 then some ((),a0,[],{},()) else (getI a2 (8:Int)).bind λx3=>(getI a2 (9:Int)).bind λx4=>let v5:=Qg 32 x3.toBitVec <<< 24 ||| Qg 32 x4.toBitVec <<< 16;(getI a2 (10:Int)).bind λx6=>(getI a2 (11:Int)).bind λx7=>let v8:=v5 ||| Qg 32 x6.toBitVec <<< 8 ||| Qg 32 x7.toBitVec;(Zkx v8).bind λr9=>(Zku ({a0 with jt:=2,ju:=r9.2.1}:Jc) ({kind:=1}:Jj)).bind λr10=>some ((),r10.2.1,r10.2.2.1,r10.2.2.2.1,()) else none
def c235:=cf c234 50 [qbs,qb,qe] [qp,qa1,qa7] (u3 Zgm)
theorem o235:EO c235:=sz o234 Tryz.func50
def Zks (a0:BitVec 64):O1 Int:=
 bif decide (a0.toNat < (24#64).toNat) then rt 0 else bif decide (a0.toNat < (256#64).toNat) then rt 1 else bif decide (a0.toNat < (65536#64).toNat) then rt 2 else bif decide (a0.toNat < (4294967296#64).toNat) then rt 4 else rt 8
def c236:=ct c235 388 [qf] [qa] (u1 Zks)
theorem o236:EO c236:=sz o235 Tryz.func388
def Zgi_L1b (y0:List Jg×Int×List UInt8×Int×Unit) (y1:Int) (y2:BitVec 64) (y3:Int) (y4:List UInt8) (y5 y6:Int):Option ((((List (Jg)) × Int × (List (UInt8)) × Int × Unit) × Int × (BitVec 64) × Int × (List (UInt8)) × Int × Int × Unit)⊕(((List (Jg)) × Int × (List (UInt8)) × Int × Unit) × Int × (BitVec 64) × Int × Unit)):=
 bif decide (y6 < y5) then (getI y4 y6).bind λx10=>some (Qc ((y0.1,y0.2.1,y0.2.2.1,y0.2.2.2.1,()),y1,y2 <<< 8 ||| Qg 64 x10.toBitVec,y3,y4,y5,Qa .i64 (y6+1),())) else some (Qb ((y0.1,y0.2.1,y0.2.2.1,y0.2.2.2.1,()),y1,y2,y3,()))
def Zgi_L1:=Yi7 Zgi_L1b
def Zgi (a0:List Jg×Int×List UInt8×Int×Unit):Option (((List Jg×Int×List UInt8×Int×Unit)×Unit)×Int×BitVec 64×Int×Unit):=
 bif decide (a0.2.2.1.length<=a0.2.2.2.1) then some (((a0.1,a0.2.1,a0.2.2.1,a0.2.2.2.1,()),()),0,0#64,1,()) else (getI a0.2.2.1 a0.2.2.2.1).bind λx1=>(bif decide (x1.toBitVec=(244:UInt8).toBitVec) then bif decide (x1.toBitVec=(244:UInt8).toBitVec) then let v2:=Qg 64 (Qd (x1.toBitVec - (244:UInt8).toBitVec)).toBitVec;(some (((a0.1,a0.2.1,a0.2.2.1,Qa .i64 (a0.2.2.2.1+1),()),()),(7:Int),v2,(0:Int),())).bind λq=>some (Qb q) else bif decide (x1.toBitVec=(246:UInt8).toBitVec) then (some (((a0.1,a0.2.1,a0.2.2.1,Qa .i64 (a0.2.2.2.1+1),()),()),(8:Int),0#64,(0:Int),())).bind λq=>some (Qb q) else some (Qc ((a0.1,a0.2.1,a0.2.2.1,Qa .i64 (a0.2.2.2.1+1),()),0#64,x1,())) else bif decide (x1.toBitVec=(245:UInt8).toBitVec) then let v3:=Qg 64 (Qd (x1.toBitVec - (244:UInt8).toBitVec)).toBitVec;(some (((a0.1,a0.2.1,a0.2.2.1,Qa .i64 (a0.2.2.2.1+1),()),()),(7:Int),v3,(0:Int),())).bind λq=>some (Qb q) else bif decide (x1.toBitVec=(246:UInt8).toBitVec) then (some (((a0.1,a0.2.1,a0.2.2.1,Qa .i64 (a0.2.2.2.1+1),()),()),(8:Int),0#64,(0:Int),())).bind λq=>some (Qb q) else some (Qc ((a0.1,a0.2.1,a0.2.2.1,Qa .i64 (a0.2.2.2.1+1),()),0#64,x1,()))).bind (Qh (λj4=>let v5:=Qd (j4.2.2.1.toBitVec&&&(31:UInt8).toBitVec);bif decide ((5:UInt8).toBitVec.toNat < (Qd (j4.2.2.1.toBitVec>>>5)).toBitVec.toNat) then some (((j4.1.1,j4.1.2.1,j4.1.2.2.1,j4.1.2.2.2.1,()),()),0,0#64,2,()) else bif decide ((27:UInt8).toBitVec.toNat < v5.toBitVec.toNat) then some (((j4.1.1,j4.1.2.1,j4.1.2.2.1,j4.1.2.2.2.1,()),()),0,0#64,2,()) else let v6:=((Qd (j4.2.2.1.toBitVec>>>5)).toBitVec.toNat:Int);bif decide (v5.toBitVec.toNat < (24:UInt8).toBitVec.toNat) then some (((j4.1.1,j4.1.2.1,j4.1.2.2.1,j4.1.2.2.2.1,()),()),Qa .i64 (1+v6),Qg 64 v5.toBitVec,0,()) else let v7:=Qa .i64 (1*2 ^ min (Qd (v5.toBitVec - (24:UInt8).toBitVec)).toNat (Qk .i64));let v8:=Qa .i64 ((j4.1.2.2.1.length:Int) - j4.1.2.2.2.1);bif decide (v8 < v7) then some (((j4.1.1,j4.1.2.1,j4.1.2.2.1,j4.1.2.2.2.1,()),()),0,0#64,1,()) else bif decide (0<=Qa .i64 (j4.1.2.2.2.1+v7))&&decide (Qa .i64 (j4.1.2.2.2.1+v7)<=j4.1.2.2.1.length) then bif decide (0<=j4.1.2.2.2.1)&&decide (j4.1.2.2.2.1<=(Qa .i64 (j4.1.2.2.2.1+v7)).toNat) then let v9:=Qi j4.1.2.2.2.1.toNat (Qj (Qa .i64 (j4.1.2.2.2.1+v7)).toNat j4.1.2.2.1);(Zgi_L1 ((j4.1.1,j4.1.2.1,j4.1.2.2.1,j4.1.2.2.2.1,()),Qa .i64 (1+v6),j4.2.1,v7,v9,(v9.length:Int),0,())).bind λz11=>(Zks z11.2.2.1).bind λr12=>bif decide (r12.2.1 < z11.2.2.2.1) then some (((z11.1.1,z11.1.2.1,z11.1.2.2.1,Qa .i64 (z11.1.2.2.2.1+z11.2.2.2.1),()),()),0,0#64,2,()) else some (((z11.1.1,z11.1.2.1,z11.1.2.2.1,Qa .i64 (z11.1.2.2.2.1+z11.2.2.2.1),()),()),z11.2.1,z11.2.2.1,0,()) else none else none) some)
def c237:=cf c236 315 [qk] [qa,qt,qa] (u1 Zgi)
def s_Zgi_L1:LSpec T:=⟨[(0,qk),(2,qb),(3,qf),(8,qb),(94,qe),(95,qb),(96,qb)],[(.exit 1,[(0,qk),(2,qb),(3,qf),(8,qb)])],Zgi_L1,[]⟩
def A_Zgi:Loc2 T:=lcA [(1,s_Zgi_L1)] [(11,[(0,qk),(3,qf),(5,qav)],false)] []
theorem Vqq:LO c237 Tryz.f315 1 s_Zgi_L1:=lx o236 A_Zgi dn (λ_=>rfl)
theorem o237:EO c237:=sx o236 A_Zgi Tryz.func315 (dc rfl Vqq dn)
def Zgl_L0b (y0:List Jg×Int×List UInt8×Int×Unit) (y1:Int):Option ((((List (Jg)) × Int × (List (UInt8)) × Int × Unit) × Int × Unit)⊕(((List (Jg)) × Int × (List (UInt8)) × Int × Unit) × Unit)):=
 bif decide (0 < y1) then bif decide (0<=Qa .i64 (y1 - 1))&&decide (Qa .i64 (y1 - 1) < y0.1.length) then y0.1[(Qa .i64 (y1 - 1)).toNat]?.bind λx10=>bif decide (x10.left=0) then bif decide (0<=Qa .i64 (y1 - 1))&&decide (Qa .i64 (y1 - 1)<=y0.1.length) then bif decide ((Qa .i64 (y1 - 1)).toNat<=y0.1.length) then some (Qc ((Qj (Qa .i64 (y1 - 1)).toNat y0.1,y0.2.1,y0.2.2.1,y0.2.2.2.1,()),Qa .i64 (y1 - 1),())) else none else none else some (Qb ((y0.1,y0.2.1,y0.2.2.1,y0.2.2.2.1,()),())) else none else some (Qb ((y0.1,y0.2.1,y0.2.2.1,y0.2.2.2.1,()),()))
def Zgl_L0:=Yi2 Zgl_L0b
def Zgl (a0:List Jg×Int×List UInt8×Int×Unit) (a1:Ja):Option (((List Jg×Int×List UInt8×Int×Unit)×Unit)×Unit):=
 (bif decide (0 < (a0.1.length:Int)) then bif decide (0<=Qa .i64 ((a0.1.length:Int) - 1))&&decide (Qa .i64 ((a0.1.length:Int) - 1) < a0.1.length) then a0.1[(Qa .i64 ((a0.1.length:Int) - 1)).toNat]?.bind λx1=>bif decide (0<=Qa .i64 ((a0.1.length:Int) - 1))&&decide (Qa .i64 ((a0.1.length:Int) - 1) < a0.1.length) then a0.1[(Qa .i64 ((a0.1.length:Int) - 1)).toNat]?.bind λx2=>let v3:=Ql a0.1 (Qa .i64 ((a0.1.length:Int) - 1)).toNat ({x2 with left:=Qa .i64 (x1.left - 1)}:Jg);some ((v3,Qa .i64 (a0.2.1+1),a0.2.2.1,a0.2.2.2.1,()),(a1,()),()) else none else none else some ((a0.1,Qa .i64 (a0.2.1+1),a0.2.2.1,a0.2.2.2.1,()),(a1,()),())).bind λj4=>(bif decide (j4.2.1.1.kind=5) then bif decide ((0#64).toNat < j4.2.1.1.number.toNat) then let v5:List Jg:=[{left:=Qa .i64 (j4.2.1.1.number.toNat:Int)}];bif small (j4.1.1.length+(v5:List Jg).length) 40 then some ((j4.1.1++v5,j4.1.2.1,j4.1.2.2.1,j4.1.2.2.2.1,()),(j4.2.1.1,()),()) else none else some ((j4.1.1,j4.1.2.1,j4.1.2.2.1,j4.1.2.2.2.1,()),(j4.2.1.1,()),()) else some ((j4.1.1,j4.1.2.1,j4.1.2.2.1,j4.1.2.2.2.1,()),(j4.2.1.1,()),())).bind λj6=>(bif decide (j6.2.1.1.kind=6) then bif decide ((0#64).toNat < j6.2.1.1.number.toNat) then let v7:=Qa .i64 (2*Qa .i64 (j6.2.1.1.number.toNat:Int));bif small (j6.1.1.length+([⟨true,v7,[]⟩]:List Jg).length) 40 then let v8:=j6.1.1++[⟨true,v7,[]⟩];some ((v8,j6.1.2.1,j6.1.2.2.1,j6.1.2.2.2.1,()),()) else none else some ((j6.1.1,j6.1.2.1,j6.1.2.2.1,j6.1.2.2.2.1,()),()) else some ((j6.1.1,j6.1.2.1,j6.1.2.2.1,j6.1.2.2.2.1,()),())).bind λj9=>(Zgl_L0 ((j9.1.1,j9.1.2.1,j9.1.2.2.1,j9.1.2.2.2.1,()),(j9.1.1.length:Int),())).bind λz11=>some (((z11.1.1,z11.1.2.1,z11.1.2.2.1,z11.1.2.2.2.1,()),()),())
def c238:=cf c237 391 [qk,qb1] [] (u2 Zgl)
def s_Zgl_L0:LSpec T:=⟨[(0,qk),(5,qb)],[(.exit 0,[(0,qk)])],Zgl_L0,[]⟩
def A_Zgl:Loc2 T:=lcA [(0,s_Zgl_L0)] [(5,[(0,qk),(3,qa5)],true),(7,[(0,qk),(3,qa5)],true),(9,[(0,qk)],true)] [6,8]
theorem Vqr:LO c238 Tryz.f391 0 s_Zgl_L0:=lx o237 A_Zgl dn (λ_=>rfl)
theorem o238:EO c238:=sx o237 A_Zgl Tryz.func391 (dc rfl Vqr dn)
def Zds (a0:List Jg×Int×List UInt8×Int×Unit) (a1:Ja):Option (((List Jg×Int×List UInt8×Int×Unit)×Unit)×Int×Unit):=
 bif decide (a1.kind=4) then (Zhp a1.data).bind λr1=>bif !r1.2.1 then some (((a0.1,a0.2.1,a0.2.2.1,a0.2.2.2.1,()),()),6,()) else (Zhu ⟨a0.1,a0.2.1⟩).bind λr2=>bif r2.2.1 then bif decide (0<=Qa .i64 ((a0.1.length:Int) - 1))&&decide (Qa .i64 ((a0.1.length:Int) - 1) < a0.1.length) then (Zhs [] a1).bind λr3=>a0.1[(Qa .i64 ((a0.1.length:Int) - 1)).toNat]?.bind λx4=>bif !x4.jap.isEmpty then a0.1[(Qa .i64 ((a0.1.length:Int) - 1)).toNat]?.bind λx5=>(Zjm x5.jap r3.2.1).bind λr6=>bif !r6.2.1 then some (((a0.1,a0.2.1,a0.2.2.1,a0.2.2.2.1,()),()),7,()) else a0.1[(Qa .i64 ((a0.1.length:Int) - 1)).toNat]?.bind λx7=>bif r3.2.1.isEmpty then none else let v8:=Ql a0.1 (Qa .i64 ((a0.1.length:Int) - 1)).toNat ({x7 with jap:=r3.2.1}:Jg);(Zgl (v8,a0.2.1,a0.2.2.1,a0.2.2.2.1,()) a1).bind λr9=>some (((r9.1.1.1,r9.1.1.2.1,r9.1.1.2.2.1,r9.1.1.2.2.2.1,()),()),0,()) else a0.1[(Qa .i64 ((a0.1.length:Int) - 1)).toNat]?.bind λx10=>bif r3.2.1.isEmpty then none else let v11:=Ql a0.1 (Qa .i64 ((a0.1.length:Int) - 1)).toNat ({x10 with jap:=r3.2.1}:Jg);(Zgl (v11,a0.2.1,a0.2.2.1,a0.2.2.2.1,()) a1).bind λr12=>some (((r12.1.1.1,r12.1.1.2.1,r12.1.1.2.2.1,r12.1.1.2.2.2.1,()),()),0,()) else none else (Zgl (a0.1,a0.2.1,a0.2.2.1,a0.2.2.2.1,()) a1).bind λr13=>some (((r13.1.1.1,r13.1.1.2.1,r13.1.1.2.2.1,r13.1.1.2.2.2.1,()),()),0,()) else (Zhu ⟨a0.1,a0.2.1⟩).bind λr14=>bif r14.2.1 then bif decide (0<=Qa .i64 ((a0.1.length:Int) - 1))&&decide (Qa .i64 ((a0.1.length:Int) - 1) < a0.1.length) then (Zhs [] a1).bind λr15=>a0.1[(Qa .i64 ((a0.1.length:Int) - 1)).toNat]?.bind λx16=>bif !x16.jap.isEmpty then a0.1[(Qa .i64 ((a0.1.length:Int) - 1)).toNat]?.bind λx17=>(Zjm x17.jap r15.2.1).bind λr18=>bif !r18.2.1 then some (((a0.1,a0.2.1,a0.2.2.1,a0.2.2.2.1,()),()),7,()) else a0.1[(Qa .i64 ((a0.1.length:Int) - 1)).toNat]?.bind λx19=>bif r15.2.1.isEmpty then none else let v20:=Ql a0.1 (Qa .i64 ((a0.1.length:Int) - 1)).toNat ({x19 with jap:=r15.2.1}:Jg);(Zgl (v20,a0.2.1,a0.2.2.1,a0.2.2.2.1,()) a1).bind λr21=>some (((r21.1.1.1,r21.1.1.2.1,r21.1.1.2.2.1,r21.1.1.2.2.2.1,()),()),0,()) else a0.1[(Qa .i64 ((a0.1.length:Int) - 1)).toNat]?.bind λx22=>bif r15.2.1.isEmpty then none else let v23:=Ql a0.1 (Qa .i64 ((a0.1.length:Int) - 1)).toNat ({x22 with jap:=r15.2.1}:Jg);(Zgl (v23,a0.2.1,a0.2.2.1,a0.2.2.2.1,()) a1).bind λr24=>some (((r24.1.1.1,r24.1.1.2.1,r24.1.1.2.2.1,r24.1.1.2.2.2.1,()),()),0,()) else none else (Zgl (a0.1,a0.2.1,a0.2.2.1,a0.2.2.2.1,()) a1).bind λr25=>some (((r25.1.1.1,r25.1.1.2.1,r25.1.1.2.2.1,r25.1.1.2.2.2.1,()),()),0,())
def c239:=cf c238 317 [qk,qb1] [qa] (u2 Zds)
theorem o239:EO c239:=sz o238 Tryz.func317
def Zgj (a0:List Jg×Int×List UInt8×Int×Unit):Option (((List Jg×Int×List UInt8×Int×Unit)×Unit)×Ja×Int×Unit):=
 (Zgi (a0.1,a0.2.1,a0.2.2.1,a0.2.2.2.1,())).bind λr1=>bif !(decide (r1.2.2.2.1=0)) then some (((r1.1.1.1,r1.1.1.2.1,r1.1.1.2.2.1,r1.1.1.2.2.2.1,()),()),{},r1.2.2.2.1,()) else (Zht ⟨r1.1.1.1,r1.1.1.2.1⟩ r1.2.1).bind λr2=>bif !(decide (r2.2.1=0)) then some (((r1.1.1.1,r1.1.1.2.1,r1.1.1.2.2.1,r1.1.1.2.2.2.1,()),()),{},r2.2.1,()) else (bif decide (r1.2.1=5) then bif decide (r1.2.1=5) then bif decide ((512#64).toNat < r1.2.2.1.toNat) then (some (((r1.1.1.1,r1.1.1.2.1,r1.1.1.2.2.1,r1.1.1.2.2.2.1,()),()),({}:Ja),(8:Int),())).bind λq=>some (Qb q) else some (Qc ((r1.1.1.1,r1.1.1.2.1,r1.1.1.2.2.1,r1.1.1.2.2.2.1,()),(({}:Ja),()),((⟨r1.2.1,r1.2.2.1,[]⟩:Ja),()),())) else bif decide (r1.2.1=3) then bif decide (r1.2.1=3) then bif decide ((1024#64).toNat < r1.2.2.1.toNat) then (some (((r1.1.1.1,r1.1.1.2.1,r1.1.1.2.2.1,r1.1.1.2.2.2.1,()),()),({}:Ja),(8:Int),())).bind λq=>some (Qb q) else let v3:=Qa .i64 ((r1.1.1.2.2.1.length:Int) - r1.1.1.2.2.2.1);bif decide (v3 < Qa .i64 (r1.2.2.1.toNat:Int)) then (some (((r1.1.1.1,r1.1.1.2.1,r1.1.1.2.2.1,r1.1.1.2.2.2.1,()),()),({}:Ja),(1:Int),())).bind λq=>some (Qb q) else let v4:=Qa .i64 (r1.1.1.2.2.2.1+Qa .i64 (r1.2.2.1.toNat:Int));bif decide (0<=v4)&&decide (v4<=r1.1.1.2.2.1.length) then bif decide (0<=r1.1.1.2.2.2.1)&&decide (r1.1.1.2.2.2.1<=v4.toNat) then let v5:=Qi r1.1.1.2.2.2.1.toNat (Qj v4.toNat r1.1.1.2.2.1);let v6:=Qa .i64 (r1.1.1.2.2.2.1+Qa .i64 (r1.2.2.1.toNat:Int));some (Qc ((r1.1.1.1,r1.1.1.2.1,r1.1.1.2.2.1,v6,()),(({}:Ja),()),((⟨r1.2.1,0#64,v5⟩:Ja),()),())) else none else none else some (Qc ((r1.1.1.1,r1.1.1.2.1,r1.1.1.2.2.1,r1.1.1.2.2.2.1,()),(({}:Ja),()),((⟨r1.2.1,r1.2.2.1,[]⟩:Ja),()),())) else bif decide (r1.2.1=4) then bif decide ((1024#64).toNat < r1.2.2.1.toNat) then (some (((r1.1.1.1,r1.1.1.2.1,r1.1.1.2.2.1,r1.1.1.2.2.2.1,()),()),({}:Ja),(8:Int),())).bind λq=>some (Qb q) else let v7:=Qa .i64 ((r1.1.1.2.2.1.length:Int) - r1.1.1.2.2.2.1);bif decide (v7 < Qa .i64 (r1.2.2.1.toNat:Int)) then (some (((r1.1.1.1,r1.1.1.2.1,r1.1.1.2.2.1,r1.1.1.2.2.2.1,()),()),({}:Ja),(1:Int),())).bind λq=>some (Qb q) else let v8:=Qa .i64 (r1.1.1.2.2.2.1+Qa .i64 (r1.2.2.1.toNat:Int));bif decide (0<=v8)&&decide (v8<=r1.1.1.2.2.1.length) then bif decide (0<=r1.1.1.2.2.2.1)&&decide (r1.1.1.2.2.2.1<=v8.toNat) then let v9:=Qi r1.1.1.2.2.2.1.toNat (Qj v8.toNat r1.1.1.2.2.1);let v10:=Qa .i64 (r1.1.1.2.2.2.1+Qa .i64 (r1.2.2.1.toNat:Int));some (Qc ((r1.1.1.1,r1.1.1.2.1,r1.1.1.2.2.1,v10,()),(({}:Ja),()),((⟨r1.2.1,0#64,v9⟩:Ja),()),())) else none else none else some (Qc ((r1.1.1.1,r1.1.1.2.1,r1.1.1.2.2.1,r1.1.1.2.2.2.1,()),(({}:Ja),()),((⟨r1.2.1,r1.2.2.1,[]⟩:Ja),()),())) else bif decide (r1.2.1=6) then bif decide ((512#64).toNat < r1.2.2.1.toNat) then (some (((r1.1.1.1,r1.1.1.2.1,r1.1.1.2.2.1,r1.1.1.2.2.2.1,()),()),({}:Ja),(8:Int),())).bind λq=>some (Qb q) else some (Qc ((r1.1.1.1,r1.1.1.2.1,r1.1.1.2.2.1,r1.1.1.2.2.2.1,()),(({}:Ja),()),((⟨r1.2.1,r1.2.2.1,[]⟩:Ja),()),())) else bif decide (r1.2.1=3) then bif decide (r1.2.1=3) then bif decide ((1024#64).toNat < r1.2.2.1.toNat) then (some (((r1.1.1.1,r1.1.1.2.1,r1.1.1.2.2.1,r1.1.1.2.2.2.1,()),()),({}:Ja),(8:Int),())).bind λq=>some (Qb q) else let v11:=Qa .i64 ((r1.1.1.2.2.1.length:Int) - r1.1.1.2.2.2.1);bif decide (v11 < Qa .i64 (r1.2.2.1.toNat:Int)) then (some (((r1.1.1.1,r1.1.1.2.1,r1.1.1.2.2.1,r1.1.1.2.2.2.1,()),()),({}:Ja),(1:Int),())).bind λq=>some (Qb q) else let v12:=Qa .i64 (r1.1.1.2.2.2.1+Qa .i64 (r1.2.2.1.toNat:Int));bif decide (0<=v12)&&decide (v12<=r1.1.1.2.2.1.length) then bif decide (0<=r1.1.1.2.2.2.1)&&decide (r1.1.1.2.2.2.1<=v12.toNat) then let v13:=Qi r1.1.1.2.2.2.1.toNat (Qj v12.toNat r1.1.1.2.2.1);let v14:=Qa .i64 (r1.1.1.2.2.2.1+Qa .i64 (r1.2.2.1.toNat:Int));some (Qc ((r1.1.1.1,r1.1.1.2.1,r1.1.1.2.2.1,v14,()),(({}:Ja),()),((⟨r1.2.1,0#64,v13⟩:Ja),()),())) else none else none else some (Qc ((r1.1.1.1,r1.1.1.2.1,r1.1.1.2.2.1,r1.1.1.2.2.2.1,()),(({}:Ja),()),((⟨r1.2.1,r1.2.2.1,[]⟩:Ja),()),())) else bif decide (r1.2.1=4) then bif decide ((1024#64).toNat < r1.2.2.1.toNat) then (some (((r1.1.1.1,r1.1.1.2.1,r1.1.1.2.2.1,r1.1.1.2.2.2.1,()),()),({}:Ja),(8:Int),())).bind λq=>some (Qb q) else let v15:=Qa .i64 ((r1.1.1.2.2.1.length:Int) - r1.1.1.2.2.2.1);bif decide (v15 < Qa .i64 (r1.2.2.1.toNat:Int)) then (some (((r1.1.1.1,r1.1.1.2.1,r1.1.1.2.2.1,r1.1.1.2.2.2.1,()),()),({}:Ja),(1:Int),())).bind λq=>some (Qb q) else let v16:=Qa .i64 (r1.1.1.2.2.2.1+Qa .i64 (r1.2.2.1.toNat:Int));bif decide (0<=v16)&&decide (v16<=r1.1.1.2.2.1.length) then bif decide (0<=r1.1.1.2.2.2.1)&&decide (r1.1.1.2.2.2.1<=v16.toNat) then let v17:=Qi r1.1.1.2.2.2.1.toNat (Qj v16.toNat r1.1.1.2.2.1);let v18:=Qa .i64 (r1.1.1.2.2.2.1+Qa .i64 (r1.2.2.1.toNat:Int));some (Qc ((r1.1.1.1,r1.1.1.2.1,r1.1.1.2.2.1,v18,()),(({}:Ja),()),((⟨r1.2.1,0#64,v17⟩:Ja),()),())) else none else none else some (Qc ((r1.1.1.1,r1.1.1.2.1,r1.1.1.2.2.1,r1.1.1.2.2.2.1,()),(({}:Ja),()),((⟨r1.2.1,r1.2.2.1,[]⟩:Ja),()),()))).bind (Qh (λj19=>(Zds (j19.1.1,j19.1.2.1,j19.1.2.2.1,j19.1.2.2.2.1,()) j19.2.2.1.1).bind λr20=>bif !(decide (r20.2.1=0)) then some (((r20.1.1.1,r20.1.1.2.1,r20.1.1.2.2.1,r20.1.1.2.2.2.1,()),()),{},r20.2.1,()) else some (((r20.1.1.1,r20.1.1.2.1,r20.1.1.2.2.1,r20.1.1.2.2.2.1,()),()),j19.2.2.1.1,0,())) some)
def c240:=cf c239 190 [qk] [qv,qa] (u1 Zgj)
theorem o240:EO c240:=sx o239 (lcA [] [(21,[(0,qk),(2,qa5),(8,qa5)],false)] [19]) Tryz.func190 dn
def Zkb_L0b (y0:List Ja) (y1:List Jg×Int×List UInt8×Int×Unit):Option (((List (Ja)) × ((List (Jg)) × Int × (List (UInt8)) × Int × Unit) × Unit)⊕(((List (Ja)) × Int × Int × Unit) ⊕ ((List (Ja)) × ((List (Jg)) × Int × (List (UInt8)) × Int × Unit) × Unit))):=
 (Zio ⟨y1.1,y1.2.1⟩).bind λr1=>bif !r1.2.1 then (Zgj (y1.1,y1.2.1,y1.2.2.1,y1.2.2.2.1,())).bind λr2=>bif !(decide (r2.2.2.1=0)) then some (Qb (Qc ([],0,r2.2.2.1,()))) else bif small (y0.length+([r2.2.1]).length) 32 then some (Qc (y0++[r2.2.1],(r2.1.1.1,r2.1.1.2.1,r2.1.1.2.2.1,r2.1.1.2.2.2.1,()),())) else none else some (Qb (Qb (y0,(y1.1,y1.2.1,y1.2.2.1,y1.2.2.2.1,()),())))
def Zkb_L0:=Yi2 Zkb_L0b
def Zkb (a0:List UInt8):Option (Unit×List Ja×Int×Int×Unit):=
 (Zkb_L0 ([],([],0,a0,0,()),())).bind (Qh (λz3=>some ((),z3.1,z3.2.1,z3.2.2.1,())) (λz4=>some ((),z4.1,z4.2.1.2.2.2.1,0,())))
def c241:=cf c240 103 [qe] [qw,qa,qa] (u1 Zkb)
def s_Zkb_L0:LSpec T:=⟨[(2,qbh),(5,qk)],[(.ret,[(2,qbh),(3,qb),(4,qb)]),(.exit 0,[(2,qbh),(5,qk)])],Zkb_L0,[]⟩
def A_Zkb:Loc2 T:=lcA [(0,s_Zkb_L0)] [] []
theorem Vqs:LO c241 Tryz.f103 0 s_Zkb_L0:=lx o240 A_Zkb dn (λ_=>rfl)
theorem o241:EO c241:=sx o240 A_Zkb Tryz.func103 (dc rfl Vqs dn)
def Zkz_L0b (y0:List Ja) (y1 y2:Int):Option (((List (Ja)) × Int × Int × Unit)⊕((Int × Bool × Unit) ⊕ (Int × Unit))):=
 bif decide (0 < y2) then bif decide (y0.length<=y1) then some (Qb (Qc (0,false,()))) else (getI y0 y1).bind λx1=>bif !(decide (x1.kind=5)) then bif !(decide (x1.kind=6)) then some (Qc (y0,Qa .i64 (y1+1),Qa .i64 (y2 - 1),())) else bif decide ((512#64).toNat < x1.number.toNat) then some (Qb (Qc (0,false,()))) else let v2:=Qa .i64 (Qa .i64 (y2 - 1)+Qa .i64 (x1.number.toNat:Int));bif decide (x1.kind=6) then let v3:=Qa .i64 (v2+Qa .i64 (x1.number.toNat:Int));some (Qc (y0,Qa .i64 (y1+1),v3,())) else some (Qc (y0,Qa .i64 (y1+1),v2,())) else bif decide ((512#64).toNat < x1.number.toNat) then some (Qb (Qc (0,false,()))) else let v4:=Qa .i64 (Qa .i64 (y2 - 1)+Qa .i64 (x1.number.toNat:Int));bif decide (x1.kind=6) then let v5:=Qa .i64 (v4+Qa .i64 (x1.number.toNat:Int));some (Qc (y0,Qa .i64 (y1+1),v5,())) else some (Qc (y0,Qa .i64 (y1+1),v4,())) else some (Qb (Qb (y1,())))
def Zkz_L0:=Yi3 Zkz_L0b
def Zkz (a0:List Ja) (a1:Int):O2 Int Bool:=
 bif decide (a1 < 0) then ru 0 false else bif decide (a0.length<=a1) then ru 0 false else (Zkz_L0 (a0,a1,1,())).bind (Qh (λz6=>ru z6.1 z6.2.1) (λz7=>ru z7.1 true))
def S_Zkz:FSpec T:=⟨[ql,qb],[qa,qd],λx=>Zkz x.1 x.2.1⟩
def s_Zkz_L0:LSpec T:=⟨[(0,ql),(4,qb),(6,qb)],[(.ret,[(4,qb),(5,qn)]),(.exit 0,[(4,qb)])],Zkz_L0,[]⟩
def A_Zkz:Loc2 T:=lcA [(0,s_Zkz_L0)] [] []
theorem Vqt:LoopOk Tryz.prog (mE c241) Tryz.f320.ntmps (kqOf S_Zkz.ps 0) (loopAt 0 (bodyOf Tryz.f320)) s_Zkz_L0:=
 lpC hmix o241 A_Zkz Vaa 0 (st:=λy=>Zkz_L0b y.1 y.2.1 y.2.2.1) (λ_=>rfl) (by kernel_rfl) (by kernel_rfl) λx=>by kernel_rfl
theorem Vv8:SoundT Tryz.prog cd gdn 320 S_Zkz:=
 sndC hmix o241 A_Zkz Tryz.func320 (Vab rfl Vqt Vaa) (by kernel_rfl) (by kernel_rfl) λx=>by kernel_rfl
def c242:List (Ct T):=⟨320,none,S_Zkz,true⟩::c241
theorem o242:EnvOk Tryz.prog (mE c242):=eCons Vv8 o241
def c243:List (Ct T):=⟨392,none,S_Zjv,false⟩::c242
theorem o243:EnvOk Tryz.prog (mE c243):=eCons Vvh o242
def Zkd_L0b (y0:List Ja) (y1:BitVec 64) (y2:Int) (y3 y4:BitVec 64):Option (((List (Ja)) × (BitVec 64) × Int × (BitVec 64) × (BitVec 64) × Unit)⊕(((List (Ja)) × Bool × Unit) ⊕ (Unit))):=
 bif decide (y4.toNat < y3.toNat) then (Zkz y0 (Qa .i64 (y2+1))).bind λr4=>bif !r4.2.2.1 then some (Qb (Qc ([],false,()))) else (getI y0 y2).bind λx5=>bif decide (x5.kind=1) then (getI y0 y2).bind λx6=>bif decide (x6.number=y1) then bif decide (0<=r4.2.1)&&decide (r4.2.1<=y0.length) then bif decide (0<=Qa .i64 (y2+1))&&decide (Qa .i64 (y2+1)<=r4.2.1.toNat) then let v7:=Qi (Qa .i64 (y2+1)).toNat (Qj r4.2.1.toNat y0);(Zjv v7).bind λr8=>some (Qb (Qc (r8.2.1,true,()))) else none else none else some (Qc (y0,y1,r4.2.1,y3,y4+1#64,())) else some (Qc (y0,y1,r4.2.1,y3,y4+1#64,())) else some (Qb (Qb ()))
def Zkd_L0:=Yi5 Zkd_L0b
def Zkd (a0:List Ja) (a1:BitVec 64):O2 (List Ja) Bool:=
 (Ziw a0).bind λr1=>bif !(decide (r1.2.1=0)) then ru [] false else (getI a0 (0:Int)).bind λx2=>bif !(decide (x2.kind=6)) then ru [] false else (getI a0 (0:Int)).bind λx3=>(Zkd_L0 (a0,a1,1,x3.number,0#64,())).bind (Qh (λz9=>ru z9.1 z9.2.1) (λz10=>ru [] false))
def S_Zkd:FSpec T:=⟨[ql,qf],[qw,qd],λx=>Zkd x.1 x.2.1⟩
def E_Zkd:Env T:=⟨tab.find,cd,globs,flc,λf ds=>match f with
  | 320=>some S_Zkz
  | 365=>some S_Ziw
  | 392=>some S_Zjv
  | _=>none,λf=>match f with
  | 320=>true
  | 365=>true
  | _=>false⟩
def A_Zkd:Loc2 T:=⟨λid=>match id with
  | 0=>some ⟨[(0,.f (.v (.rs 1))),(1,.f (.v .u64)),(6,.f (.v (.int .i64))),(22,.f (.v .u64)),(23,.f (.v .u64))],[(.ret,[(4,.f (.own 1)),(5,.f (.v .bool))]),(.exit 0,[])],Zkd_L0,[]⟩
  | _=>none,λr=>match r with
  | _=>none,λr=>match r with
  | _=>false⟩
theorem Vqu (y0:(List (Ja))) (y1:(BitVec 64)) (y2:Int) (y3:(BitVec 64)) (y4:(BitVec 64)):run E_Zkd A_Zkd (loopAt 0 (Tryz.f319.body.getD .skip)) (layC cd [(0,.f (.v (.rs 1))),(1,.f (.v .u64)),(6,.f (.v (.int .i64))),(22,.f (.v .u64)),(23,.f (.v .u64))] [] (y0,y1,y2,y3,y4,())) (roundK cd [(0,.f (.v (.rs 1))),(1,.f (.v .u64)),(6,.f (.v (.int .i64))),(22,.f (.v .u64)),(23,.f (.v .u64))] [] [(.ret,[(4,.f (.own 1)),(5,.f (.v .bool))]),(.exit 0,[])])=Zkd_L0b y0 y1 y2 y3 y4:=by kernel_rfl
theorem Vzc (x:tySs T S_Zkd.ps):run E_Zkd A_Zkd (Tryz.f319.body.getD .skip) (enterT E_Zkd.C S_Zkd.ps x) (retK E_Zkd Tryz.f319.results.toList S_Zkd.ps S_Zkd.rs)=S_Zkd.fn x:=by kernel_rfl
theorem Vqv:EnvOk Tryz.prog E_Zkd:=envOk (E:=E_Zkd) cd_ok tys fl_ok λf ds S h=>by
  dsimp only [E_Zkd] at h
  split at h
  ·cases h; exact Vv8
  ·cases h; exact Vv7
  ·cases h; exact Vvh
  ·cases h
theorem Vqw:LoopOk Tryz.prog E_Zkd Tryz.f319.ntmps (kqOf S_Zkd.ps 0) (loopAt 0 (Tryz.f319.body.getD .skip)) ⟨[(0,.f (.v (.rs 1))),(1,.f (.v .u64)),(6,.f (.v (.int .i64))),(22,.f (.v .u64)),(23,.f (.v .u64))],[(.ret,[(4,.f (.own 1)),(5,.f (.v .bool))]),(.exit 0,[])],Zkd_L0,[]⟩:=
 Vdr (A:=A_Zkd) (done:=[]) (c0:=(Tryz.f319.body.getD .skip)) hmix Vqv Vaa rounds (by kernel_rfl) (by kernel_rfl) (λx=>Vqu x.1 x.2.1 x.2.2.1 x.2.2.2.1 x.2.2.2.2.1) (λ_=>rfl)
theorem Vzd:SoundT Tryz.prog cd gdn 319 S_Zkd:=
 Vbe (E:=E_Zkd) (A:=A_Zkd) (done:=[0]) (c:=(Tryz.f319.body.getD .skip)) (S:=S_Zkd) (fn:=Tryz.f319) hmix Vqv Tryz.func319 rfl (by kernel_rfl) (by kernel_rfl) (Vab rfl Vqw Vaa) (by kernel_rfl) (by kernel_rfl) Vzc
def c244:List (Ct T):=⟨319,none,S_Zkd,false⟩::c243
theorem o244:EnvOk Tryz.prog (mE c244):=eCons Vzd o243
def Zcv (a0:List Ja) (a1:BitVec 64):O1 Ja:=
 (Zkd a0 a1).bind λr1=>bif !r1.2.2.1 then some ((),{},()) else bif decide ((r1.2.1.length:Int)=0) then some ((),{},()) else bif decide (0 < (r1.2.1.length:Int)) then r1.2.1[0]?.bind λx2=>rt x2 else none
def c245:=ct c244 318 [ql,qf] [qv] (u2 Zcv)
theorem o245:EO c245:=sz o244 Tryz.func318
def Zch (a0:List Ja) (a1:BitVec 64):O1 (List UInt8):=
 (Zcv a0 a1).bind λr1=>rt r1.2.1.data
def c246:=cf c245 191 [ql,qf] [qj] (u2 Zch)
theorem o246:EO c246:=sz o245 Tryz.func191
def Zat_L0b (y0:List Ja) (y1:List (List Ja)) (y2:Int):Option (((List (Ja)) × (List (List Ja)) × Int × Unit)⊕((List (List Ja)) × Unit)):=
 bif decide (y2 < y0.length) then (Zkz y0 y2).bind λr4=>bif !r4.2.2.1 then some (Qb (y1,())) else bif decide (r4.2.1<=y2) then some (Qb (y1,())) else bif decide (y0.length < r4.2.1) then some (Qb (y1,())) else bif decide (0<=r4.2.1)&&decide (r4.2.1<=y0.length) then bif decide (0<=y2)&&decide (y2<=r4.2.1.toNat) then let v5:List (List Ja):=[Qi y2.toNat (Qj r4.2.1.toNat y0)];bif small (y1.length+(v5:List (List Ja)).length) 24 then some (Qc (y0,y1++v5,r4.2.1,())) else none else none else none else some (Qb (y1,()))
def Zat_L0:=Yi3 Zat_L0b
def Zat (a0:List Ja) (a1:BitVec 64):O1 (List (List Ja)):=
 (Zkd a0 a1).bind λr1=>bif !r1.2.2.1 then rt [] else (Zat_L0 (r1.2.1,[],1,())).bind λz6=>rt z6.1
def c247:=cf c246 197 [ql,qf] [(.own 31)] (u2 Zat)
def s_Zat_L0:LSpec T:=⟨[(5,ql),(7,qax),(8,qb)],[(.exit 0,[(7,qax)])],Zat_L0,[]⟩
def A_Zat:Loc2 T:=lcA [(0,s_Zat_L0)] [] []
theorem Vqx:LO c247 Tryz.f197 0 s_Zat_L0:=lx o246 A_Zat dn (λ_=>rfl)
theorem o247:EO c247:=sx o246 A_Zat Tryz.func197 (dc rfl Vqx dn)
def Zcw_L0b (y0:List (List UInt8)) (y1:List (List Ja)) (y2 y3:Int):Option (((List (List UInt8)) × (List (List Ja)) × Int × Int × Unit)⊕((List (List UInt8)) × Unit)):=
 bif decide (y3 < y2) then bif decide (0<=y3)&&decide (y3 < y1.length) then y1[y3.toNat]?.bind λx2=>(getI x2 (0:Int)).bind λx3=>bif small (y0.length+([x3.data]).length) 24 then some (Qc (y0++[x3.data],y1,y2,Qa .i64 (y3+1),())) else none else none else some (Qb (y0,()))
def Zcw_L0:=Yi4 Zcw_L0b
def Zcw (a0:List Ja) (a1:BitVec 64):O1 (List (List UInt8)):=
 (Zat a0 a1).bind λr1=>(Zcw_L0 ([],r1.2.1,(r1.2.1.length:Int),0,())).bind λz4=>rt z4.1
def c248:=cf c247 192 [ql,qf] [qbg] (u2 Zcw)
def s_Zcw_L0:LSpec T:=⟨[(5,(.f qbg)),(10,qax),(11,qb),(12,qb)],[(.exit 0,[(5,(.f qbg))])],Zcw_L0,[]⟩
def A_Zcw:Loc2 T:=lcA [(0,s_Zcw_L0)] [] []
theorem Vqy:LO c248 Tryz.f192 0 s_Zcw_L0:=lx o247 A_Zcw dn (λ_=>rfl)
theorem o248:EO c248:=sx o247 A_Zcw Tryz.func192 (dc rfl Vqy dn)
def Zbr (a0:List Ja) (a1:BitVec 64):O1 Int:=
 (Zcv a0 a1).bind λr1=>rt (Qa .i64 (r1.2.1.number.toNat:Int))
def c249:=ct c248 193 [ql,qf] [qa] (u2 Zbr)
theorem o249:EO c249:=sz o248 Tryz.func193
def Zcx (a0:List Ja) (a1:BitVec 64):O1 (List UInt8):=
 (Zcv a0 a1).bind λr1=>rt r1.2.1.data
def c250:=ct c249 194 [ql,qf] [qaf] (u2 Zcx)
theorem o250:EO c250:=sz o249 Tryz.func194
def Zcy (a0:List Ja) (a1:BitVec 64):O1 (BitVec 64):=
 (Zcv a0 a1).bind λr1=>rt r1.2.1.number
def c251:=ct c250 195 [ql,qf] [qt] (u2 Zcy)
theorem o251:EO c251:=sz o250 Tryz.func195
def Zcu (a0:List Ja) (a1:BitVec 64):O1 Bool:=
 (Zcv a0 a1).bind λr1=>rt (decide (r1.2.1.number=1#64))
def c252:=ct c251 196 [ql,qf] [qd] (u2 Zcu)
theorem o252:EO c252:=sz o251 Tryz.func196
def Zjd_L0b (y0:Jf×Unit) (y1:Int×List UInt8×List UInt8×List (List UInt8)×Int×List UInt8×List UInt8×List UInt8×Int×BitVec 64×List UInt8×BitVec 64×Int×Int×Int×Bool×Bool×List Jw×Unit) (y2:List (List Ja)) (y3 y4:Int):Option (((Jf × Unit) × (Int × (List (UInt8)) × (List (UInt8)) × (List (List UInt8)) × Int × (List (UInt8)) × (List UInt8) × (List UInt8) × Int × (BitVec 64) × (List (UInt8)) × (BitVec 64) × Int × Int × Int × Bool × Bool × (List (Jw)) × Unit) × (List (List Ja)) × Int × Int × Unit)⊕((Jf × Unit) × (Int × (List (UInt8)) × (List (UInt8)) × (List (List UInt8)) × Int × (List (UInt8)) × (List UInt8) × (List UInt8) × Int × (BitVec 64) × (List (UInt8)) × (BitVec 64) × Int × Int × Int × Bool × Bool × (List (Jw)) × Unit) × Unit)):=
 bif decide (y4 < y3) then bif decide (0<=y4)&&decide (y4 < y2.length) then y2[y4.toNat]?.bind λx18=>(Zcx x18 1#64).bind λr19=>(Zcx x18 2#64).bind λr20=>(Zcx x18 3#64).bind λr21=>(Zch x18 4#64).bind λr22=>(Zbr x18 5#64).bind λr23=>let v24:List Jw:=[⟨r19.2.1,r20.2.1,r21.2.1,r22.2.1,r23.2.1⟩];bif small (y1.2.2.2.2.2.2.2.2.2.2.2.2.2.2.2.2.2.1.length+(v24:List Jw).length) 80 then let v25:=y1.2.2.2.2.2.2.2.2.2.2.2.2.2.2.2.2.2.1++v24;some (Qc ((y0.1,()),(y1.1,y1.2.1,y1.2.2.1,y1.2.2.2.1,y1.2.2.2.2.1,y1.2.2.2.2.2.1,y1.2.2.2.2.2.2.1,y1.2.2.2.2.2.2.2.1,y1.2.2.2.2.2.2.2.2.1,y1.2.2.2.2.2.2.2.2.2.1,y1.2.2.2.2.2.2.2.2.2.2.1,y1.2.2.2.2.2.2.2.2.2.2.2.1,y1.2.2.2.2.2.2.2.2.2.2.2.2.1,y1.2.2.2.2.2.2.2.2.2.2.2.2.2.1,y1.2.2.2.2.2.2.2.2.2.2.2.2.2.2.1,y1.2.2.2.2.2.2.2.2.2.2.2.2.2.2.2.1,y1.2.2.2.2.2.2.2.2.2.2.2.2.2.2.2.2.1,v25,()),y2,y3,Qa .i64 (y4+1),())) else none else none else some (Qb ((y0.1,()),y1,()))
def Zjd_L0:=Yi5 Zjd_L0b
def Zjd (a0:List Ja):O1 Jf:=
 (Zch a0 1#64).bind λr1=>(Zch a0 2#64).bind λr2=>(Zcw a0 3#64).bind λr3=>(Zbr a0 4#64).bind λr4=>(Zch a0 5#64).bind λr5=>(Zcx a0 6#64).bind λr6=>(Zcx a0 7#64).bind λr7=>(Zbr a0 8#64).bind λr8=>(Zcy a0 9#64).bind λr9=>(Zch a0 10#64).bind λr10=>(Zcy a0 11#64).bind λr11=>(Zbr a0 12#64).bind λr12=>(Zbr a0 13#64).bind λr13=>(Zbr a0 14#64).bind λr14=>(Zcu a0 15#64).bind λr15=>(Zcu a0 16#64).bind λr16=>(Zat a0 17#64).bind λr17=>(Zjd_L0 (({},()),(0,r1.2.1,r2.2.1,r3.2.1,r4.2.1,r5.2.1,r6.2.1,r7.2.1,r8.2.1,r9.2.1,r10.2.1,r11.2.1,r12.2.1,r13.2.1,r14.2.1,r15.2.1,r16.2.1,[],()),r17.2.1,(r17.2.1.length:Int),0,())).bind λz26=>rt ⟨z26.2.1.1,z26.2.1.2.1,z26.2.1.2.2.1,z26.2.1.2.2.2.1,z26.2.1.2.2.2.2.1,z26.2.1.2.2.2.2.2.1,z26.2.1.2.2.2.2.2.2.1,z26.2.1.2.2.2.2.2.2.2.1,z26.2.1.2.2.2.2.2.2.2.2.1,z26.2.1.2.2.2.2.2.2.2.2.2.1,z26.2.1.2.2.2.2.2.2.2.2.2.2.1,z26.2.1.2.2.2.2.2.2.2.2.2.2.2.1,z26.2.1.2.2.2.2.2.2.2.2.2.2.2.2.1,z26.2.1.2.2.2.2.2.2.2.2.2.2.2.2.2.1,z26.2.1.2.2.2.2.2.2.2.2.2.2.2.2.2.2.1,z26.2.1.2.2.2.2.2.2.2.2.2.2.2.2.2.2.2.1,z26.2.1.2.2.2.2.2.2.2.2.2.2.2.2.2.2.2.2.1,z26.2.1.2.2.2.2.2.2.2.2.2.2.2.2.2.2.2.2.2.1⟩
def c253:=cf c252 104 [ql] [qah] (u1 Zjd)
def s_Zjd_L0:LSpec T:=⟨[(2,qi),(3,qa2),(41,qax),(42,qb),(43,qb)],[(.exit 0,[(2,qi),(3,qa2)])],Zjd_L0,[]⟩
def A_Zjd:Loc2 T:=lcA [(0,s_Zjd_L0)] [] [6]
theorem Vqz:LO c253 Tryz.f104 0 s_Zjd_L0:=lx o252 A_Zjd dn (λ_=>rfl)
theorem o253:EO c253:=sx o252 A_Zjd Tryz.func104 (dc rfl Vqz dn)
def Zdv (a0:Jf):O1 (BitVec 32):=
 let v1:List Bool:=[decide (0 < (a0.jz.length:Int)),decide (0 < (a0.jx.length:Int)),decide (0 < (a0.jf.length:Int)),!(decide (a0.jk=0)),decide (0 < (a0.iD.length:Int)),!(decide (a0.user=([]:List UInt8))),!(decide (a0.name=([]:List UInt8))),!(decide (a0.count=0)),!(decide (a0.jbe=0#64)),decide (0 < (a0.box.length:Int)),!(decide (a0.jaf=0#64)),!(decide (a0.jan=0)),!(decide (a0.jbm=0)),!(decide (a0.jbi=0)),a0.jai,a0.jac,decide (0 < (a0.jv.length:Int))];(Zjq v1).bind λr2=>rt r2.2.1
def c254:=ct c253 199 qbq [(.v .u32)] (u1 Zdv)
theorem o254:EO c254:=sz o253 Tryz.func199
def Zbs_L0b (y0:Jf×Unit) (y1:List (List UInt8)) (y2 y3:Int):Option (((Jf × Unit) × (List (List UInt8)) × Int × Int × Unit)⊕((Bool × Unit) ⊕ ((Jf × Unit) × Unit))):=
 bif decide (y3 < y2) then (getI y1 y3).bind λx1=>bif decide (1024 < (x1.length:Int)) then some (Qb (Qc (true,()))) else some (Qc ((y0.1,()),y1,y2,Qa .i64 (y3+1),())) else some (Qb (Qb ((y0.1,()),())))
def Zbs_L0:=Yi4 Zbs_L0b
def Zbs_L2b (y0:Jf×Unit) (y1:List Jw) (y2 y3:Int):Option (((Jf × Unit) × (List (Jw)) × Int × Int × Unit)⊕((Bool × Unit) ⊕ ((Jf × Unit) × Unit))):=
 bif decide (y3 < y2) then (getI y1 y3).bind λx4=>bif decide (64 < (x4.rP.length:Int)) then some (Qb (Qc (true,()))) else bif decide (16 < (x4.user.length:Int)) then some (Qb (Qc (true,()))) else bif decide (32 < (x4.name.length:Int)) then some (Qb (Qc (true,()))) else some (Qc ((y0.1,()),y1,y2,Qa .i64 (y3+1),())) else some (Qb (Qb ((y0.1,()),())))
def Zbs_L2:=Yi4 Zbs_L2b
def Zbs (a0:Jf):O1 Bool:=
 (Zbs_L0 ((a0,()),a0.jf,(a0.jf.length:Int),0,())).bind (Qh (λz2=>rt z2.1) (λz3=>(Zbs_L2 ((z3.1.1,()),z3.1.1.jv,(z3.1.1.jv.length:Int),0,())).bind (Qh (λz5=>rt z5.1) (λz6=>let v7:Int:=bif decide ((bif decide ((z6.1.1.jz.length:Int) < (z6.1.1.jx.length:Int)) then (z6.1.1.jx.length:Int) else (z6.1.1.jz.length:Int)) < z6.1.1.box.length) then (z6.1.1.box.length:Int) else bif decide ((z6.1.1.jz.length:Int) < (z6.1.1.jx.length:Int)) then (z6.1.1.jx.length:Int) else (z6.1.1.jz.length:Int);bif decide (1024 < v7) then rt true else bif decide (3 < (z6.1.1.jf.length:Int)) then rt true else bif decide (8 < (z6.1.1.jv.length:Int)) then rt true else bif decide (16 < (z6.1.1.user.length:Int)) then rt true else rt (decide (32 < (z6.1.1.name.length:Int)))))))
def c255:=ct c254 322 qbq [qd] (u1 Zbs)
def s_Zbs_L0:LSpec T:=⟨[(1,qi),(8,qay),(9,qb),(10,qb)],[(.ret,[(2,qn)]),(.exit 0,[(1,qi)])],Zbs_L0,[]⟩
def s_Zbs_L2:LSpec T:=⟨[(1,qi),(19,qa9),(20,qb),(21,qb)],[(.ret,[(2,qn)]),(.exit 2,[(1,qi)])],Zbs_L2,[]⟩
def A_Zbs:Loc2 T:=lcA [(0,s_Zbs_L0),(2,s_Zbs_L2)] [] []
theorem Vjr:LO c255 Tryz.f322 0 s_Zbs_L0:=lx o254 A_Zbs dn (λ_=>rfl)
theorem Vq0:LO c255 Tryz.f322 2 s_Zbs_L2:=lx o254 A_Zbs (dc rfl Vjr dn) (λ_=>rfl)
theorem o255:EO c255:=sx o254 A_Zbs Tryz.func322 (dc rfl Vjr (dc rfl Vq0 dn))
def Zdw_L0b (y0:Jf×Unit) (y1:List Jw) (y2 y3:Int):Option (((Jf × Unit) × (List (Jw)) × Int × Int × Unit)⊕((Bool × Unit) ⊕ ((Jf × Unit) × Unit))):=
 bif decide (y3 < y2) then (getI y1 y3).bind λx1=>(Zhp x1.rP).bind λr2=>bif !r2.2.1 then some (Qb (Qc (false,()))) else (Zhp x1.name).bind λr3=>bif !r3.2.1 then some (Qb (Qc (false,()))) else some (Qc ((y0.1,()),y1,y2,Qa .i64 (y3+1),())) else some (Qb (Qb ((y0.1,()),())))
def Zdw_L0:=Yi4 Zdw_L0b
def Zdw (a0:Jf):O1 Bool:=
 (Zdw_L0 ((a0,()),a0.jv,(a0.jv.length:Int),0,())).bind (Qh (λz4=>rt z4.1) (λz5=>(Zhp z5.1.1.name).bind λr6=>rt r6.2.1))
def c256:=ct c255 323 qbq [qd] (u1 Zdw)
def s_Zdw_L0:LSpec T:=⟨[(1,qi),(6,qa9),(7,qb),(8,qb)],[(.ret,[(2,qn)]),(.exit 0,[(1,qi)])],Zdw_L0,[]⟩
def A_Zdw:Loc2 T:=lcA [(0,s_Zdw_L0)] [] []
theorem Vq1:LO c256 Tryz.f323 0 s_Zdw_L0:=lx o255 A_Zdw dn (λ_=>rfl)
theorem o256:EO c256:=sx o255 A_Zdw Tryz.func323 (dc rfl Vq1 dn)
def Zci_L0b (y0:Jf×Unit) (y1:List Jw) (y2 y3:Int):Option (((Jf × Unit) × (List (Jw)) × Int × Int × Unit)⊕((Bool × Unit) ⊕ ((Jf × Unit) × Unit))):=
 bif decide (y3 < y2) then (getI y1 y3).bind λx1=>(Zgp [x1.left]).bind λr2=>bif !r2.2.1 then some (Qb (Qc (false,()))) else some (Qc ((y0.1,()),y1,y2,Qa .i64 (y3+1),())) else some (Qb (Qb ((y0.1,()),())))
def Zci_L0:=Yi4 Zci_L0b
def Zci (a0:Jf):O1 Bool:=
 (Zci_L0 ((a0,()),a0.jv,(a0.jv.length:Int),0,())).bind (Qh (λz3=>rt z3.1) (λz4=>let v5:List Int:=[z4.1.1.jk,z4.1.1.count,z4.1.1.jan,z4.1.1.jbm,z4.1.1.jbi];(Zgp v5).bind λr6=>rt r6.2.1))
def c257:=ct c256 321 qbq [qd] (u1 Zci)
def s_Zci_L0:LSpec T:=⟨[(1,qi),(6,qa9),(7,qb),(8,qb)],[(.ret,[(2,qn)]),(.exit 0,[(1,qi)])],Zci_L0,[]⟩
def A_Zci:Loc2 T:=lcA [(0,s_Zci_L0)] [] []
theorem Vq2:LO c257 Tryz.f321 0 s_Zci_L0:=lx o256 A_Zci dn (λ_=>rfl)
theorem o257:EO c257:=sx o256 A_Zci Tryz.func321 (dc rfl Vq2 dn)
def Zbq_L1b (y0:List Jw) (y1 y2:Int):Option (((List (Jw)) × Int × Int × Unit)⊕((Int × Unit) ⊕ (Unit))):=
 bif decide (y2 < y1) then (getI y0 y2).bind λx18=>bif !(decide ((x18.iD.length:Int)=176)) then some (Qb (Qc (4,()))) else some (Qc (y0,y1,Qa .i64 (y2+1),())) else some (Qb (Qb ()))
def Zbq_L1:=Yi3 Zbq_L1b
def Zbq (a0:Jf):O1 Int:=
 (bif decide (a0.err < 0) then bif decide (a0.err < 0) then (rt (9:Int)).bind λq=>some (Qb q) else bif !(decide (a0.err=0)) then (Zdv a0).bind λr1=>bif !(decide (r1.2.1=0#32)) then (rt (4:Int)).bind λq=>some (Qb q) else (Zbs a0).bind λr2=>bif r2.2.1 then (rt (8:Int)).bind λq=>some (Qb q) else (Zdw a0).bind λr3=>bif !r3.2.1 then (rt (6:Int)).bind λq=>some (Qb q) else bif decide (0 < (a0.iD.length:Int)) then bif !(decide ((a0.iD.length:Int)=176)) then (rt (4:Int)).bind λq=>some (Qb q) else some (Qc ((a0,()),())) else some (Qc ((a0,()),())) else (Zbs a0).bind λr4=>bif r4.2.1 then (rt (8:Int)).bind λq=>some (Qb q) else (Zdw a0).bind λr5=>bif !r5.2.1 then (rt (6:Int)).bind λq=>some (Qb q) else bif decide (0 < (a0.iD.length:Int)) then bif !(decide ((a0.iD.length:Int)=176)) then (rt (4:Int)).bind λq=>some (Qb q) else some (Qc ((a0,()),())) else some (Qc ((a0,()),())) else bif decide (42 < a0.err) then bif decide (42 < a0.err) then (rt (9:Int)).bind λq=>some (Qb q) else bif !(decide (a0.err=0)) then (Zdv a0).bind λr6=>bif !(decide (r6.2.1=0#32)) then (rt (4:Int)).bind λq=>some (Qb q) else (Zbs a0).bind λr7=>bif r7.2.1 then (rt (8:Int)).bind λq=>some (Qb q) else (Zdw a0).bind λr8=>bif !r8.2.1 then (rt (6:Int)).bind λq=>some (Qb q) else bif decide (0 < (a0.iD.length:Int)) then bif !(decide ((a0.iD.length:Int)=176)) then (rt (4:Int)).bind λq=>some (Qb q) else some (Qc ((a0,()),())) else some (Qc ((a0,()),())) else (Zbs a0).bind λr9=>bif r9.2.1 then (rt (8:Int)).bind λq=>some (Qb q) else (Zdw a0).bind λr10=>bif !r10.2.1 then (rt (6:Int)).bind λq=>some (Qb q) else bif decide (0 < (a0.iD.length:Int)) then bif !(decide ((a0.iD.length:Int)=176)) then (rt (4:Int)).bind λq=>some (Qb q) else some (Qc ((a0,()),())) else some (Qc ((a0,()),())) else (Zci a0).bind λr11=>bif !r11.2.1 then (rt (9:Int)).bind λq=>some (Qb q) else bif !(decide (a0.err=0)) then (Zdv a0).bind λr12=>bif !(decide (r12.2.1=0#32)) then (rt (4:Int)).bind λq=>some (Qb q) else (Zbs a0).bind λr13=>bif r13.2.1 then (rt (8:Int)).bind λq=>some (Qb q) else (Zdw a0).bind λr14=>bif !r14.2.1 then (rt (6:Int)).bind λq=>some (Qb q) else bif decide (0 < (a0.iD.length:Int)) then bif !(decide ((a0.iD.length:Int)=176)) then (rt (4:Int)).bind λq=>some (Qb q) else some (Qc ((a0,()),())) else some (Qc ((a0,()),())) else (Zbs a0).bind λr15=>bif r15.2.1 then (rt (8:Int)).bind λq=>some (Qb q) else (Zdw a0).bind λr16=>bif !r16.2.1 then (rt (6:Int)).bind λq=>some (Qb q) else bif decide (0 < (a0.iD.length:Int)) then bif !(decide ((a0.iD.length:Int)=176)) then (rt (4:Int)).bind λq=>some (Qb q) else some (Qc ((a0,()),())) else some (Qc ((a0,()),()))).bind (Qh (λj17=>(Zbq_L1 (j17.1.1.jv,(j17.1.1.jv.length:Int),0,())).bind (Qh (λz19=>rt z19.1) (λz20=>rt 0))) some)
def c258:=ct c257 198 qbq [qa] (u1 Zbq)
def s_Zbq_L1:LSpec T:=⟨[(43,qa9),(44,qb),(45,qb)],[(.ret,[(2,qb)]),(.exit 1,[])],Zbq_L1,[]⟩
def A_Zbq:Loc2 T:=lcA [(1,s_Zbq_L1)] [(13,[(1,qi)],false)] []
theorem Vq3:LO c258 Tryz.f198 1 s_Zbq_L1:=lx o257 A_Zbq dn (λ_=>rfl)
theorem o258:EO c258:=sx o257 A_Zbq Tryz.func198 (dc rfl Vq3 dn)
def Zdu_L0b (y0:List (List Ja)) (y1:List Jw) (y2 y3:Int):Option (((List (List Ja)) × (List (Jw)) × Int × Int × Unit)⊕(((List (Ja)) × Unit) ⊕ ((List (List Ja)) × Unit))):=
 bif decide (y3 < y2) then (getI y1 y3).bind λx1=>(Zla x1.rP).bind λr2=>(Zkq x1.user).bind λr3=>(Zla x1.name).bind λr4=>(Zkq x1.iD).bind λr5=>(Zlb (Qf 64 x1.left)).bind λr6=>let v7:List (List Ja):=[r2.2.1,r3.2.1,r4.2.1,r5.2.1,r6.2.1];(Zle [1#64,2#64,3#64,4#64,5#64] v7).bind λr8=>bif !(decide (r8.2.2.1=0)) then some (Qb (Qc ([],()))) else bif small (y0.length+([r8.2.1]).length) 24 then some (Qc (y0++[r8.2.1],y1,y2,Qa .i64 (y3+1),())) else none else some (Qb (Qb (y0,())))
def Zdu_L0:=Yi4 Zdu_L0b
def Zdu (a0:List Jw):O1 (List Ja):=
 (Zdu_L0 ([],a0,(a0.length:Int),0,())).bind (Qh (λz9=>rt z9.1) (λz10=>(Zjb z10.1).bind λr11=>rt r11.2.1))
def c259:=cf c258 200 [qa9] [qbn] (u1 Zdu)
def s_Zdu_L0:LSpec T:=⟨[(3,qax),(9,qa9),(10,qb),(11,qb)],[(.ret,[(2,qbh)]),(.exit 0,[(3,qax)])],Zdu_L0,[]⟩
def A_Zdu:Loc2 T:=lcA [(0,s_Zdu_L0)] [] [6]
theorem Vq4:LO c259 Tryz.f200 0 s_Zdu_L0:=lx o258 A_Zdu dn (λ_=>rfl)
theorem o259:EO c259:=sx o258 A_Zdu Tryz.func200 (dc rfl Vq4 dn)
def Zct (a0:Jf):O2 (List UInt8) Int:=
 (Zbq a0).bind λr1=>bif !(decide (r1.2.1=0)) then ru [] r1.2.1 else bif !(decide (a0.err=0)) then ru [Qd (Qf 8 a0.err)] 0 else (Zdv a0).bind λr2=>(Zkq a0.jz).bind λr3=>(Zkq a0.jx).bind λr4=>(Zib a0.jf).bind λr5=>(Zlb (Qf 64 a0.jk)).bind λr6=>(Zkq a0.iD).bind λr7=>(Zkq a0.user).bind λr8=>(Zla a0.name).bind λr9=>(Zlb (Qf 64 a0.count)).bind λr10=>(Zlb a0.jbe).bind λr11=>(Zkq a0.box).bind λr12=>(Zlb a0.jaf).bind λr13=>(Zlb (Qf 64 a0.jan)).bind λr14=>(Zlb (Qf 64 a0.jbm)).bind λr15=>(Zlb (Qf 64 a0.jbi)).bind λr16=>(Zky a0.jai).bind λr17=>(Zky a0.jac).bind λr18=>(Zdu a0.jv).bind λr19=>let v20:List (List Ja):=[r3.2.1,r4.2.1,r5.2.1,r6.2.1,r7.2.1,r8.2.1,r9.2.1,r10.2.1,r11.2.1,r12.2.1,r13.2.1,r14.2.1,r15.2.1,r16.2.1,r17.2.1,r18.2.1,r19.2.1];(Zis 0 r2.2.1 v20).bind λr21=>bif decide (r21.2.2.1=0) then bif decide (4096 < (r21.2.1.length:Int)) then ru [] 8 else ru r21.2.1 r21.2.2.1 else ru r21.2.1 r21.2.2.1
def c260:=cf c259 105 qbq [qj,qa] (u1 Zct)
theorem o260:EO c260:=sx o259 (lcA [] [] [6]) Tryz.func105 dn
def Zcs (a0:List UInt8):O2 Jf Int:=
 bif decide ((a0.length:Int)=0) then some ((),{},1,()) else bif decide (4096 < (a0.length:Int)) then some ((),{},8,()) else (getI a0 (0:Int)).bind λx1=>bif decide (42 < (x1.toBitVec.toNat:Int)) then some ((),{},2,()) else (getI a0 (0:Int)).bind λx2=>(bif decide ((x2.toBitVec.toNat:Int)=0) then bif decide (1<=(a0.length:Int)) then (Zkb (Qi 1 a0)).bind λr3=>bif !(decide (r3.2.2.2.1=0)) then (ru ({}:Jf) r3.2.2.2.1).bind λq=>some (Qb q) else (Zjd r3.2.1).bind λr4=>some (Qc (a0,(({}:Jf),()),(r4.2.1,()),())) else none else some (Qc (a0,(({}:Jf),()),(({err:=(x2.toBitVec.toNat:Int)}:Jf),()),()))).bind (Qh (λj5=>(Zct j5.2.2.1.1).bind λr6=>bif !(decide (r6.2.2.1=0)) then some ((),{},2,()) else (Zka r6.2.1 j5.1).bind λr7=>bif !r7.2.1 then some ((),{},2,()) else ru j5.2.2.1.1 0) some)
def c261:=cf c260 51 [qe] [qah,qa] (u1 Zcs)
theorem o261:EO c261:=sx o260 (lcA [] [(13,[(0,qe),(2,qi),(4,qi)],false)] []) Tryz.func51 dn
def Zki (a0:Int) (a1:List UInt8):O1 (BitVec 64):=
 (Zkw (Qf 64 a0) 0#64 a1).bind λr1=>rt r1.2.1
def c262:=ct c261 204 [qb,qe] [qt] (u2 Zki)
theorem o262:EO c262:=sz o261 Tryz.func204
def Zhx (a0:List UInt8):O1 (BitVec 64):=
 (Zki 11 a0).bind λr1=>rt r1.2.1
def c263:=ct c262 201 [qh] [qt] (u1 Zhx)
theorem o263:EO c263:=sz o262 Tryz.func201
def Zir (a0:Jc):Option (Unit×Jc×List Je×Jp×Unit):=
 (Zhx a0.data).bind λr1=>(bif decide (a0.jh.kind=1) then some ((a0,()),(({}:Jc),()),(({}:Jp),()),(({a0.jh with kind:=2,jbh:=r1.2.1,jbb:=false,jo:=a0.jo,auth:=0#64,jal:=false,jbe:=0#64,box:=[],proof:=[],jm:=0,iD:=[],count:=0}:Jj),()),()) else some ((a0,()),(({}:Jc),()),(({}:Jp),()),(({kind:=3,rP:=a0.jh.rP,jbh:=r1.2.1,list:=a0.jh.list,jbb:=true,jo:=a0.jo}:Jj),()),())).bind λj2=>(bif j2.1.1.jbq then none else some ((j2.1.1,()),(j2.2.1.1,()),(j2.2.2.1.1,()),(j2.2.2.2.1.1,()),())).bind λj3=>(Zku ({j3.1.1 with jt:=6}:Jc) j3.2.2.2.1.1).bind λr4=>some ((),r4.2.1,r4.2.2.1,r4.2.2.2.1,())
def c264:=cf c263 106 [qbs] [qp,qa1,qa7] (u1 Zir)
theorem o264:EO c264:=sx o263 (lcA [] [(13,[(1,qbb),(2,qbb),(4,qai),(6,qm)],true),(16,[(1,qbb),(2,qbb),(4,qai),(6,qm)],true)] [2,14]) Tryz.func106 dn
def Zhv (a0:Jc) (a1:Jf):Option (Unit×Jc×List Je×Jp×Unit):=
 bif decide (a0.jh.jo=2) then bif !a1.jac then bif !a1.jai then none else some ((),{a0 with jt:=3},[],{},()) else (Zir ({a0 with jo:=true}:Jc)).bind λr1=>some ((),r1.2.1,r1.2.2.1,r1.2.2.2.1,()) else bif decide (a0.jh.jo=1) then bif a1.jac then bif !a1.jac then bif !a1.jai then none else some ((),{a0 with jt:=3},[],{},()) else (Zir ({a0 with jo:=true}:Jc)).bind λr2=>some ((),r2.2.1,r2.2.2.1,r2.2.2.2.1,()) else bif a1.jai then bif !a1.jac then bif !a1.jai then none else some ((),{a0 with jt:=3},[],{},()) else (Zir ({a0 with jo:=true}:Jc)).bind λr3=>some ((),r3.2.1,r3.2.2.1,r3.2.2.2.1,()) else bif decide (a0.jh.kind=1) then bif a1.jai then bif !a1.jac then bif !a1.jai then none else some ((),{a0 with jt:=3},[],{},()) else bif a1.jai then (Zir ({a0 with jo:=true}:Jc)).bind λr4=>some ((),r4.2.1,r4.2.2.1,r4.2.2.2.1,()) else (Zir a0).bind λr5=>some ((),r5.2.1,r5.2.2.1,r5.2.2.2.1,()) else bif a1.jai then (Zir ({a0 with jo:=true}:Jc)).bind λr6=>some ((),r6.2.1,r6.2.2.1,r6.2.2.2.1,()) else (Zir a0).bind λr7=>some ((),r7.2.1,r7.2.2.1,r7.2.2.2.1,()) else (Zir a0).bind λr8=>some ((),r8.2.1,r8.2.2.1,r8.2.2.2.1,()) else bif decide (a0.jh.kind=1) then bif a1.jai then bif !a1.jac then bif !a1.jai then none else some ((),{a0 with jt:=3},[],{},()) else bif a1.jai then (Zir ({a0 with jo:=true}:Jc)).bind λr9=>some ((),r9.2.1,r9.2.2.1,r9.2.2.2.1,()) else (Zir a0).bind λr10=>some ((),r10.2.1,r10.2.2.1,r10.2.2.2.1,()) else bif a1.jai then (Zir ({a0 with jo:=true}:Jc)).bind λr11=>some ((),r11.2.1,r11.2.2.1,r11.2.2.2.1,()) else (Zir a0).bind λr12=>some ((),r12.2.1,r12.2.2.1,r12.2.2.2.1,()) else (Zir a0).bind λr13=>some ((),r13.2.1,r13.2.2.1,r13.2.2.2.1,())
def c265:=cf c264 52 [qbs,(.f qah)] [qp,qa1,qa7] (u2 Zhv)
theorem o265:EO c265:=sz o264 Tryz.func52
def Zkh (a0:Jc):O1 Jc:=
 rt {jba:=a0.jba,jah:=a0.jah,jao:=a0.jao}
def c266:=cf c265 55 [qbs] [qp] (u1 Zkh)
theorem o266:EO c266:=sz o265 Tryz.func55
def Ziu_L0b (y0:BitVec 64) (y1:List UInt8) (y2 y3:Int):Option (((BitVec 64) × (List (UInt8)) × Int × Int × Unit)⊕((BitVec 64) × Unit)):=
 bif decide (y3 < y2) then (getI y1 y3).bind λx1=>some (Qc (y0 <<< 8 ||| Qg 64 x1.toBitVec,y1,y2,Qa .i64 (y3+1),())) else some (Qb (y0,()))
def Ziu_L0:=Yi4 Ziu_L0b
def Ziu (a0:List UInt8):O1 (BitVec 64):=
 (Ziu_L0 (0#64,a0,(a0.length:Int),(0:Int),())).bind λz2=>rt z2.1
def S_Ziu:FSpec T:=⟨[qe],[qt],λx=>Ziu x.1⟩
def s_Ziu_L0:LSpec T:=⟨[(3,qf),(6,qe),(7,qb),(8,qb)],[(.exit 0,[(3,qf)])],Ziu_L0,[]⟩
def A_Ziu:Loc2 T:=lcA [(0,s_Ziu_L0)] [] []
theorem Vq5:LoopOk Tryz.prog (mE c266) Tryz.f209.ntmps (kqOf S_Ziu.ps 0) (loopAt 0 (bodyOf Tryz.f209)) s_Ziu_L0:=
 lpC hmix o266 A_Ziu Vaa 0 (st:=λy=>Ziu_L0b y.1 y.2.1 y.2.2.1 y.2.2.2.1) (λ_=>rfl) (by kernel_rfl) (by kernel_rfl) λx=>by kernel_rfl
theorem Vv9:SoundT Tryz.prog cd gdn 209 S_Ziu:=
 sndC hmix o266 A_Ziu Tryz.func209 (Vab rfl Vq5 Vaa) (by kernel_rfl) (by kernel_rfl) λx=>by kernel_rfl
def c267:List (Ct T):=⟨209,none,S_Ziu,true⟩::c266
theorem o267:EnvOk Tryz.prog (mE c267):=eCons Vv9 o266
def Zjk (a0:Jt) (a1:Int):O1 Bool:=
 let v1:=Qa .i64 ((Qf (Qk .i64) a0.jar&&&Qf (Qk .i64) a1).toNat:Int);rt (!(decide (v1=0)))
def S_Zjk:FSpec T:=⟨[(.f qa8),qb],[qd],λx=>Zjk x.1 x.2.1⟩
theorem Vwa:SoundT Tryz.prog cd gdn 210 S_Zjk:=
 sndC hmix o267 (lcA [] [] []) Tryz.func210 Vaa (by kernel_rfl) (by kernel_rfl) λx=>by kernel_rfl
def c268:List (Ct T):=⟨210,none,S_Zjk,true⟩::c267
theorem o268:EnvOk Tryz.prog (mE c268):=eCons Vwa o267
def Zjy (a0:Int):O1 Bool:=
 bif decide (a0 < 0) then rt true else rt (decide (4 < a0))
def c269:=ct c268 329 [qb] [qd] (u1 Zjy)
theorem o269:EO c269:=sz o268 Tryz.func329
def Zjj_L2b (y0:List UInt8) (y1:List (BitVec 64)) (y2 y3 y4:Int) (y5:List UInt8) (y6 y7:Int):Option (((List (UInt8)) × (List (BitVec 64)) × Int × Int × Int × (List (UInt8)) × Int × Int × Unit)⊕((List (UInt8)) × (List (BitVec 64)) × Int × Int × Unit)):=
 bif decide (y7 < y6) then (getI y5 y7).bind λx5=>bif decide (0<=y2)&&decide (y2 < y1.length) then y1[y2.toNat]?.bind λx6=>bif decide (0<=y2)&&decide (y2 < y1.length) then y1[y2.toNat]?.bind λx7=>let v8:=Ql y1 y2.toNat (x6 <<< 8 ||| Qg 64 x5.toBitVec);some (Qc (y0,v8,y2,y3,y4,y5,y6,Qa .i64 (y7+1),())) else none else none else some (Qb (y0,y1,y3,y4,()))
def Zjj_L2:=Yi8 Zjj_L2b
def Zjj_L0b (y0:List UInt8) (y1:List (BitVec 64)) (y2 y3:Int):Option (((List (UInt8)) × (List (BitVec 64)) × Int × Int × Unit)⊕((List (BitVec 64)) × Unit)):=
 bif decide (y3 < y2) then let v3:=Qa .i64 (Qa .i64 (8*y3)+8);bif decide (0<=v3)&&decide (v3<=y0.length) then bif decide (0<=Qa .i64 (8*y3))&&decide (Qa .i64 (8*y3)<=v3.toNat) then let v4:=Qi (Qa .i64 (8*y3)).toNat (Qj v3.toNat y0);(Zjj_L2 (y0,y1,y3,y2,y3,v4,(v4.length:Int),(0:Int),())).bind λz5=>some (Qc (z5.1,z5.2.1,z5.2.2.1,Qa .i64 (z5.2.2.2.1+1),())) else none else none else some (Qb (y1,()))
def Zjj_L0:=Yi4 Zjj_L0b
def Zjj (a0:List UInt8):O1 (List (BitVec 64)):=
 bif decide (0<=Qa .i64 (Qn (a0.length:Int) 8))&&(decide (Qa .i64 (Qn (a0.length:Int) 8)<=Qa .i64 (Qn (a0.length:Int) 8))&&decide (8*Qa .i64 (Qn (a0.length:Int) 8)<=281474976710656/\Qa .i64 (Qn (a0.length:Int) 8)<=9223372036854775807)) then let v1:=Qo (Qa .i64 (Qn (a0.length:Int) 8)).toNat 0#64;let v2:=((Qa .i64 (Qn (a0.length:Int) 8)).toNat:Int);(Zjj_L0 (a0,v1,v2,(0:Int),())).bind λz6=>rt z6.1 else none
def c270:=cf c269 330 [qe] [(.own 4)] (u1 Zjj)
def s_Zjj_L2:LSpec T:=⟨[(0,qe),(3,qbr),(4,qb),(12,qb),(13,qb),(22,qe),(23,qb),(24,qb)],[(.exit 2,[(0,qe),(3,qbr),(12,qb),(13,qb)])],Zjj_L2,[]⟩
def s_Zjj_L0:LSpec T:=⟨[(0,qe),(3,qbr),(12,qb),(13,qb)],[(.exit 0,[(3,qbr)])],Zjj_L0,[]⟩
def A_Zjj:Loc2 T:=lcA [(2,s_Zjj_L2),(0,s_Zjj_L0)] [] []
theorem Vjs:LO c270 Tryz.f330 2 s_Zjj_L2:=lx o269 A_Zjj dn (λ_=>rfl)
theorem Vq6:LO c270 Tryz.f330 0 s_Zjj_L0:=lx o269 A_Zjj (dc rfl Vjs dn) (λ_=>rfl)
theorem o270:EO c270:=sx o269 A_Zjj Tryz.func330 (dc rfl Vjs (dc rfl Vq6 dn))
def Zgg (a0:List UInt8):O2 Jy Int:=
 bif !(decide ((a0.length:Int)=9)) then some ((),{},2,()) else (getI a0 (0:Int)).bind λx1=>(Zjy (x1.toBitVec.toNat:Int)).bind λr2=>bif r2.2.1 then some ((),{},2,()) else (getI a0 (0:Int)).bind λx3=>bif decide (1<=(a0.length:Int)) then (Zjj (Qi 1 a0)).bind λr4=>bif decide (0 < (r4.2.1.length:Int)) then r4.2.1[0]?.bind λx5=>ru ⟨(x3.toBitVec.toNat:Int),x5⟩ 0 else none else none
def S_Zgg:FSpec T:=⟨[qe],[qbe,qa],λx=>Zgg x.1⟩
theorem Vwb:SoundT Tryz.prog cd gdn 211 S_Zgg:=
 sndC hmix o270 (lcA [] [] [3]) Tryz.func211 Vaa (by kernel_rfl) (by kernel_rfl) λx=>by kernel_rfl
def c271:List (Ct T):=⟨211,none,S_Zgg,true⟩::c270
theorem o271:EnvOk Tryz.prog (mE c271):=eCons Vwb o270
def Zgh (a0:Jy):O2 (List UInt8) Int:=
 (Zjy a0.jl).bind λr1=>bif r1.2.1 then ru [] 9 else let v2:List UInt8:=[Qd (Qf 8 a0.jl)];(Zjo [a0.jbs]).bind λr3=>bif small (v2.length+(r3.2.1:List UInt8).length) 1 then ru (v2++r3.2.1) 0 else none
def c272:=cf c271 331 [(.f qbe)] [qj,qa] (u1 Zgh)
theorem o272:EO c272:=sx o271 (lcA [] [] [3]) Tryz.func331 dn
def Zfc (a0:Jt):O1 Int:=
 let v1:=Qa .i64 ((Qf (Qk .i64) a0.jar&&&~~~(Qf (Qk .i64) 93)).toNat:Int);bif !(decide (v1=0)) then rt 9 else bif decide (a0.jbo < 0) then rt 9 else bif decide (16 < a0.jbo) then rt 9 else bif decide (a0.range < 0) then rt 9 else bif decide (16<=a0.range) then rt 9 else (Zjk a0 (16:Int)).bind λr2=>bif r2.2.1 then (Zjk a0 (8:Int)).bind λr3=>bif !r3.2.1 then rt 18 else (Zjk a0 (64:Int)).bind λr4=>bif !r4.2.1 then bif !(decide (a0.jaf=0#64)) then rt 4 else bif !(decide ((a0.iD.length:Int)=0)) then rt 4 else bif !(decide (a0.key.jl=0)&&(decide (a0.key.jbs=0#64)&&true)) then rt 4 else rt 0 else bif !(decide ((a0.iD.length:Int)=176)) then rt 4 else (Zgh a0.key).bind λr5=>rt r5.2.2.1 else (Zjk a0 (64:Int)).bind λr6=>bif !r6.2.1 then bif !(decide (a0.jaf=0#64)) then rt 4 else bif !(decide ((a0.iD.length:Int)=0)) then rt 4 else bif !(decide (a0.key.jl=0)&&(decide (a0.key.jbs=0#64)&&true)) then rt 4 else rt 0 else bif !(decide ((a0.iD.length:Int)=176)) then rt 4 else (Zgh a0.key).bind λr7=>rt r7.2.2.1
def S_Zfc:FSpec T:=⟨[(.f qa8)],[qa],λx=>Zfc x.1⟩
theorem Vwc:SoundT Tryz.prog cd gdn 212 S_Zfc:=
 sndC hmix o272 (lcA [] [] []) Tryz.func212 Vaa (by kernel_rfl) (by kernel_rfl) λx=>by kernel_rfl
def c273:List (Ct T):=⟨212,none,S_Zfc,true⟩::c272
theorem o273:EnvOk Tryz.prog (mE c273):=eCons Vwc o272
def Zhq (a0:List UInt8):O2 Jt Int:=
 bif decide ((a0.length:Int) < 11) then some ((),{},2,()) else bif decide (8<=(a0.length:Int)) then (Ziu (Qj 8 a0)).bind λr1=>(getI a0 (8:Int)).bind λx2=>(getI a0 (9:Int)).bind λx3=>(getI a0 (10:Int)).bind λx4=>(Zjk (⟨r1.2.1,(x2.toBitVec.toNat:Int),(x3.toBitVec.toNat:Int),(x4.toBitVec.toNat:Int),0#64,[],{}⟩:Jt) (64:Int)).bind λr5=>bif r5.2.1 then bif decide ((a0.length:Int) < 195) then some ((),{},2,()) else bif decide (195<=(a0.length:Int)) then (Zgg (Qi 195 a0)).bind λr6=>bif !(decide (r6.2.2.1=0)) then some ((),{},2,()) else bif decide (19<=(a0.length:Int)) then (Ziu (Qi 11 (Qj 19 a0))).bind λr7=>bif decide (195<=(a0.length:Int)) then (Zjz (Qi 19 (Qj 195 a0))).bind λr8=>(Zfc (⟨r1.2.1,(x2.toBitVec.toNat:Int),(x3.toBitVec.toNat:Int),(x4.toBitVec.toNat:Int),r7.2.1,r8.2.1,r6.2.1⟩:Jt)).bind λr9=>bif !(decide (r9.2.1=0)) then some ((),{},2,()) else ru ⟨r1.2.1,(x2.toBitVec.toNat:Int),(x3.toBitVec.toNat:Int),(x4.toBitVec.toNat:Int),r7.2.1,r8.2.1,r6.2.1⟩ 0 else none else none else none else bif decide (11 < (a0.length:Int)) then some ((),{},2,()) else (Zfc (⟨r1.2.1,(x2.toBitVec.toNat:Int),(x3.toBitVec.toNat:Int),(x4.toBitVec.toNat:Int),0#64,[],{}⟩:Jt)).bind λr10=>bif !(decide (r10.2.1=0)) then some ((),{},2,()) else ru ⟨r1.2.1,(x2.toBitVec.toNat:Int),(x3.toBitVec.toNat:Int),(x4.toBitVec.toNat:Int),0#64,[],{}⟩ 0 else none
def S_Zhq:FSpec T:=⟨[qe],[qa8,qa],λx=>Zhq x.1⟩
def E_Zhq:Env T:=⟨tab.find,cd,globs,flc,λf ds=>match f with
  | 38=>some S_Zjz
  | 209=>some S_Ziu
  | 210=>some S_Zjk
  | 211=>some S_Zgg
  | 212=>some S_Zfc
  | _=>none,λf=>match f with
  | 209=>true
  | 210=>true
  | 211=>true
  | 212=>true
  | _=>false⟩
def A_Zhq:Loc2 T:=⟨λid=>match id with
  | _=>none,λr=>match r with
  | _=>none,λr=>match r with
  | 3=>true
  | _=>false⟩
theorem Vze (x:tySs T S_Zhq.ps):run E_Zhq A_Zhq (Tryz.f112.body.getD .skip) (enterT E_Zhq.C S_Zhq.ps x) (retK E_Zhq Tryz.f112.results.toList S_Zhq.ps S_Zhq.rs)=S_Zhq.fn x:=by kernel_rfl
theorem Vxn:EnvOk Tryz.prog E_Zhq:=envOk (E:=E_Zhq) cd_ok tys fl_ok λf ds S h=>by
  dsimp only [E_Zhq] at h
  split at h
  ·cases h; exact Voc
  ·cases h; exact Vv9
  ·cases h; exact Vwa
  ·cases h; exact Vwb
  ·cases h; exact Vwc
  ·cases h
theorem Vzf:SoundT Tryz.prog cd gdn 112 S_Zhq:=
 Vbe (E:=E_Zhq) (A:=A_Zhq) (done:=[]) (c:=(Tryz.f112.body.getD .skip)) (S:=S_Zhq) (fn:=Tryz.f112) hmix Vxn Tryz.func112 rfl (by kernel_rfl) (by kernel_rfl) Vaa (by kernel_rfl) (by kernel_rfl) Vze
def c274:List (Ct T):=⟨112,none,S_Zhq,false⟩::c273
theorem o274:EnvOk Tryz.prog (mE c274):=eCons Vzf o273
def Zhw (a0:Jc) (a1:Jf):O1 Jai:=
 bif decide (a0.jh.kind=2) then rt {a1 with kind:=a0.jh.kind,jaz:=a0.data} else (Zhq a1.jz).bind λr1=>bif decide (r1.2.2.1=0) then rt {a1 with kind:=a0.jh.kind,jaz:=a0.data,iD:=r1.2.1.iD} else rt {a1 with kind:=a0.jh.kind,jaz:=a0.data,iD:=[]}
def c275:=cf c274 56 [qbs,(.f qah)] [(.v (.agg 47))] (u2 Zhw)
theorem o275:EO c275:=sz o274 Tryz.func56
def Ziq (a0:Jc) (a1:Int) (a2:Je):Option (Unit×Jc×List Je×Jp×Unit):=
 bif decide (a0.jt=0) then some ((),a0,[],{},()) else bif decide (a0.jt=3) then some ((),a0,[],{},()) else (Zkm a0.ju a2).bind λr1=>bif !r1.2.2.2.2.1 then some ((),{a0 with ju:=r1.2.1},[],{},()) else bif decide (r1.2.2.1=63) then bif decide ((r1.2.2.2.1.length:Int)=1) then bif decide (0 < (r1.2.2.2.1.length:Int)) then r1.2.2.2.1[0]?.bind λx2=>bif decide ((1:UInt8).toBitVec.toNat<=x2.toBitVec.toNat) then bif decide (0 < (r1.2.2.2.1.length:Int)) then r1.2.2.2.1[0]?.bind λx3=>bif decide ((x3.toBitVec.toNat:Int)<=42) then bif decide (0 < (r1.2.2.2.1.length:Int)) then r1.2.2.2.1[0]?.bind λx4=>none else none else bif decide (a0.jt=1) then (Zgm ({a0 with ju:=r1.2.1}:Jc) r1.2.2.1 r1.2.2.2.1).bind λr5=>some ((),r5.2.1,r5.2.2.1,r5.2.2.2.1,()) else bif !(decide (r1.2.2.1=3)) then none else (Zcs r1.2.2.2.1).bind λr6=>bif !(decide (r6.2.2.1=0)) then none else bif !(decide (r6.2.1.err=0)) then none else bif decide (a0.jt=2) then (Zhv ({a0 with ju:=r1.2.1}:Jc) r6.2.1).bind λr7=>some ((),r7.2.1,r7.2.2.1,r7.2.2.2.1,()) else bif decide (a0.jt=4) then none else bif decide (a0.jt=5) then none else bif decide (a0.jt=6) then (Zkh ({a0 with ju:=r1.2.1}:Jc)).bind λr8=>(Zhw ({a0 with ju:=r1.2.1}:Jc) r6.2.1).bind λr9=>some ((),r8.2.1,[],⟨true,0,r9.2.1⟩,()) else some ((),{a0 with ju:=r1.2.1},[],{},()) else none else bif decide (a0.jt=1) then (Zgm ({a0 with ju:=r1.2.1}:Jc) r1.2.2.1 r1.2.2.2.1).bind λr10=>some ((),r10.2.1,r10.2.2.1,r10.2.2.2.1,()) else bif !(decide (r1.2.2.1=3)) then none else (Zcs r1.2.2.2.1).bind λr11=>bif !(decide (r11.2.2.1=0)) then none else bif !(decide (r11.2.1.err=0)) then none else bif decide (a0.jt=2) then (Zhv ({a0 with ju:=r1.2.1}:Jc) r11.2.1).bind λr12=>some ((),r12.2.1,r12.2.2.1,r12.2.2.2.1,()) else bif decide (a0.jt=4) then none else bif decide (a0.jt=5) then none else bif decide (a0.jt=6) then (Zkh ({a0 with ju:=r1.2.1}:Jc)).bind λr13=>(Zhw ({a0 with ju:=r1.2.1}:Jc) r11.2.1).bind λr14=>some ((),r13.2.1,[],⟨true,0,r14.2.1⟩,()) else some ((),{a0 with ju:=r1.2.1},[],{},()) else none else bif decide (a0.jt=1) then (Zgm ({a0 with ju:=r1.2.1}:Jc) r1.2.2.1 r1.2.2.2.1).bind λr15=>some ((),r15.2.1,r15.2.2.1,r15.2.2.2.1,()) else bif !(decide (r1.2.2.1=3)) then none else (Zcs r1.2.2.2.1).bind λr16=>bif !(decide (r16.2.2.1=0)) then none else bif !(decide (r16.2.1.err=0)) then none else bif decide (a0.jt=2) then (Zhv ({a0 with ju:=r1.2.1}:Jc) r16.2.1).bind λr17=>some ((),r17.2.1,r17.2.2.1,r17.2.2.2.1,()) else bif decide (a0.jt=4) then none else bif decide (a0.jt=5) then none else bif decide (a0.jt=6) then (Zkh ({a0 with ju:=r1.2.1}:Jc)).bind λr18=>(Zhw ({a0 with ju:=r1.2.1}:Jc) r16.2.1).bind λr19=>some ((),r18.2.1,[],⟨true,0,r19.2.1⟩,()) else some ((),{a0 with ju:=r1.2.1},[],{},()) else bif decide (a0.jt=1) then (Zgm ({a0 with ju:=r1.2.1}:Jc) r1.2.2.1 r1.2.2.2.1).bind λr20=>some ((),r20.2.1,r20.2.2.1,r20.2.2.2.1,()) else bif !(decide (r1.2.2.1=3)) then none else (Zcs r1.2.2.2.1).bind λr21=>bif !(decide (r21.2.2.1=0)) then none else bif !(decide (r21.2.1.err=0)) then none else bif decide (a0.jt=2) then (Zhv ({a0 with ju:=r1.2.1}:Jc) r21.2.1).bind λr22=>some ((),r22.2.1,r22.2.2.1,r22.2.2.2.1,()) else bif decide (a0.jt=4) then none else bif decide (a0.jt=5) then none else bif decide (a0.jt=6) then (Zkh ({a0 with ju:=r1.2.1}:Jc)).bind λr23=>(Zhw ({a0 with ju:=r1.2.1}:Jc) r21.2.1).bind λr24=>some ((),r23.2.1,[],⟨true,0,r24.2.1⟩,()) else some ((),{a0 with ju:=r1.2.1},[],{},())
def c276:=cf c275 23 [qbs,qb,qbw] [qp,qa1,qa7] (u3 Ziq)
theorem o276:EO c276:=sx o275 (lcA [] [] [26]) Tryz.func23 dn
def Zbt_L2b (y0:Int) (y1:List UInt8) (y2:Bool) (y3:Jc×Unit) (y4 y5:Jk×Unit) (y6:Jp×Unit) (y7:List Je) (y8:Jp×Unit) (y9 y10:Int) (y11:List Je) (y12:Int):Option ((Int × (List UInt8) × Bool × (Jc × Unit) × (Jk × Unit) × (Jk × Unit) × (Jp × Unit) × (List (Je)) × (Jp × Unit) × Int × Int × (List (Je)) × Int × Unit)⊕(Int × (List UInt8) × Bool × (Jc × Unit) × (Jk × Unit) × (Jk × Unit) × (Jp × Unit) × (List (Je)) × (Jp × Unit) × Int × Int × Unit)):=
 bif decide (y12 < y11.length) then bif !y8.1.done then (getI y11 y12).bind λx5=>(Ziq y3.1 y0 x5).bind λr6=>bif small (y7.length+(r6.2.2.1:List Je).length) 56 then some (Qc (y0,y1,y2,(r6.2.1,()),(y4.1,()),(y5.1,()),(y6.1,()),y7++r6.2.2.1,(r6.2.2.2.1,()),Qa .i64 (y9+(r6.2.2.1.length:Int)),y10,y11,Qa .i64 (y12+1),())) else none else some (Qb (y0,y1,y2,(y3.1,()),(y4.1,()),(y5.1,()),(y6.1,()),y7,(y8.1,()),y9,y10,())) else some (Qb (y0,y1,y2,(y3.1,()),(y4.1,()),(y5.1,()),(y6.1,()),y7,(y8.1,()),y9,y10,()))
def Zbt_L2:=Yi13 Zbt_L2b
def Zbt_L0b (y0:Int) (y1:List UInt8) (y2:Bool) (y3:Jc×Unit) (y4 y5:Jk×Unit) (y6:Jp×Unit) (y7:List Je) (y8:Jp×Unit) (y9 y10:Int):Option ((Int × (List UInt8) × Bool × (Jc × Unit) × (Jk × Unit) × (Jk × Unit) × (Jp × Unit) × (List (Je)) × (Jp × Unit) × Int × Int × Unit)⊕((Jk × Unit) × (Jk × Unit) × (Jp × Unit) × (Jp × Unit) × Int × Unit)):=
 bif decide (y10 < 600) then bif !y8.1.done then bif decide ((y7.length:Int)=0) then bif !(decide (y3.1.jt=3)) then some (Qb ((y4.1,()),(y5.1,()),(y6.1,()),(y8.1,()),y9,())) else bif decide (500 < y10) then some (Qb ((y4.1,()),(y5.1,()),(y6.1,()),(y8.1,()),y9,())) else none else bif decide (0 < (y7.length:Int)) then y7[0]?.bind λx2=>bif decide (1<=(y7.length:Int)) then bif decide (y7.length - 1+1<=y7.length) then let v3:=Qj (y7.length - 1) (Qi 1 y7);bif small v3.length 56 then (Zbg y4.1 y0 x2 y2).bind λr4=>(Zbt_L2 (y0,y1,y2,(y3.1,()),(r4.2.1,()),(y5.1,()),(y6.1,()),v3,(y8.1,()),y9,y10,r4.2.2.1,0,())).bind λz5=>some (Qc (z5.1,z5.2.1,z5.2.2.1,(z5.2.2.2.1.1,()),(z5.2.2.2.2.1.1,()),(z5.2.2.2.2.2.1.1,()),(z5.2.2.2.2.2.2.1.1,()),z5.2.2.2.2.2.2.2.1,(z5.2.2.2.2.2.2.2.2.1.1,()),z5.2.2.2.2.2.2.2.2.2.1,Qa .i64 (z5.2.2.2.2.2.2.2.2.2.2.1+1),())) else none else none else none else none else some (Qb ((y4.1,()),(y5.1,()),(y6.1,()),(y8.1,()),y9,())) else some (Qb ((y4.1,()),(y5.1,()),(y6.1,()),(y8.1,()),y9,()))
def Zbt_L0:=Yi11 Zbt_L0b
def Zbt (a0:Jc) (a1:Jk) (a2:Int) (a3:Jaa) (a4:Jae) (a5:List UInt8) (a6:Bool):Option (Unit×Jk×Jp×Int×Unit):=
 (Zjn a0 a2 a3 false ([]:List UInt8) a4).bind λr1=>(Zbt_L0 (a2,a5,a6,(r1.2.1,()),(a1,()),({},()),({},()),r1.2.2.1,(r1.2.2.2.1,()),(r1.2.2.1.length:Int),0,())).bind λz6=>some ((),z6.1.1,z6.2.2.2.1.1,z6.2.2.2.2.1,())
def c277:=cf c276 10 [qbs,(.f qbk),qb,(.f qa3),qbf,qh,qn] [qbk,qa7,qa] λx=>Zbt x.1 x.2.1 x.2.2.1 x.2.2.2.1 x.2.2.2.2.1 x.2.2.2.2.2.1 x.2.2.2.2.2.2.1
def s_Zbt_L2:LSpec T:=⟨[(2,qb),(5,qh),(6,qn),(7,qbb),(8,qab),(14,qab),(15,qai),(17,(.f qa1)),(18,qai),(19,qb),(20,qb),(22,(.f (.v (.rs 26)))),(23,qb)],[(.exit 2,[(2,qb),(5,qh),(6,qn),(7,qbb),(8,qab),(14,qab),(15,qai),(17,(.f qa1)),(18,qai),(19,qb),(20,qb)])],Zbt_L2,[]⟩
def s_Zbt_L0:LSpec T:=⟨[(2,qb),(5,qh),(6,qn),(7,qbb),(8,qab),(14,qab),(15,qai),(17,(.f qa1)),(18,qai),(19,qb),(20,qb)],[(.exit 0,[(8,qab),(14,qab),(15,qai),(18,qai),(19,qb)])],Zbt_L0,[]⟩
def A_Zbt:Loc2 T:=lcA [(2,s_Zbt_L2),(0,s_Zbt_L0)] [] [22]
theorem Vjt:LO c277 Tryz.f10 2 s_Zbt_L2:=lx o276 A_Zbt dn (λ_=>rfl)
theorem Vq7:LO c277 Tryz.f10 0 s_Zbt_L0:=lx o276 A_Zbt (dc rfl Vjt dn) (λ_=>rfl)
theorem o277:EO c277:=sx o276 A_Zbt Tryz.func10 (dc rfl Vjt (dc rfl Vq7 dn))
def Zcb (a0:List UInt8):O2 Jy Int:=
 bif !(decide ((a0.length:Int)=9)) then some ((),{},2,()) else (getI a0 (0:Int)).bind λx1=>(Zeu (x1.toBitVec.toNat:Int)).bind λr2=>bif !r2.2.1 then some ((),{},2,()) else (getI a0 (0:Int)).bind λx3=>bif decide (1<=(a0.length:Int)) then (Zha (Qi 1 a0)).bind λr4=>ru ⟨(x3.toBitVec.toNat:Int),r4.2.1⟩ 0 else none
def c278:=ct c277 27 [qe] [qbe,qa] (u1 Zcb)
theorem o278:EO c278:=sz o277 Tryz.func27
def Zav (a0:List UInt8):O2 Jt Int:=
 (bif !(decide ((a0.length:Int)=11)) then bif !(decide ((a0.length:Int)=204)) then (ru ({}:Jt) (2:Int)).bind λq=>some (Qb q) else some (Qc (a0,(({}:Jt),()),())) else some (Qc (a0,(({}:Jt),()),()))).bind (Qh (λj1=>bif decide (8<=(j1.1.length:Int)) then (Zha (Qj 8 j1.1)).bind λr2=>(getI j1.1 (8:Int)).bind λx3=>(getI j1.1 (9:Int)).bind λx4=>(getI j1.1 (10:Int)).bind λx5=>(bif decide (11 < (j1.1.length:Int)) then bif decide (195<=(j1.1.length:Int)) then (Zcb (Qi 195 j1.1)).bind λr6=>bif !(decide (r6.2.2.1=0)) then (ru ({}:Jt) (2:Int)).bind λq=>some (Qb q) else bif decide (19<=(j1.1.length:Int)) then (Zha (Qi 11 (Qj 19 j1.1))).bind λr7=>bif decide (195<=(j1.1.length:Int)) then bif small (Qi 19 (Qj 195 j1.1)).length 1 then some (Qc (j1.1,(j1.2.1.1,()),(r2.2.1,(x3.toBitVec.toNat:Int),(x4.toBitVec.toNat:Int),(x5.toBitVec.toNat:Int),r7.2.1,Qi 19 (Qj 195 j1.1),r6.2.1,()),())) else none else none else none else none else some (Qc (j1.1,(j1.2.1.1,()),(r2.2.1,(x3.toBitVec.toNat:Int),(x4.toBitVec.toNat:Int),(x5.toBitVec.toNat:Int),0#64,[],({}:Jy),()),()))).bind (Qh (λj8=>(Zaj ⟨j8.2.2.1.1,j8.2.2.1.2.1,j8.2.2.1.2.2.1,j8.2.2.1.2.2.2.1,j8.2.2.1.2.2.2.2.1,j8.2.2.1.2.2.2.2.2.1,j8.2.2.1.2.2.2.2.2.2.1⟩).bind λr9=>bif !(decide (r9.2.1=0)) then some ((),{},2,()) else let v10:=Qa .i64 ((Qf (Qk .i64) j8.2.2.1.2.1&&&Qf (Qk .i64) 64).toNat:Int);bif !(decide (11 < (j8.1.length:Int))==(!(decide (v10=0)))) then some ((),{},2,()) else ru ⟨j8.2.2.1.1,j8.2.2.1.2.1,j8.2.2.1.2.2.1,j8.2.2.1.2.2.2.1,j8.2.2.1.2.2.2.2.1,j8.2.2.1.2.2.2.2.2.1,j8.2.2.1.2.2.2.2.2.2.1⟩ 0) some) else none) some)
def c279:=cf c278 13 [qe] [qa8,qa] (u1 Zav)
theorem o279:EO c279:=sx o278 (lcA [] [(3,[(0,qe),(2,(.ptr [qa8]))],false),(9,[(0,qe),(2,(.ptr [qa8])),(4,(.ptr [qt,qa,qa,qa,qt,qj,qbe]))],false)] [3,8]) Tryz.func13 dn
def Zdy:O1 Bool:=
 (Zkt 3#64 []).bind λr1=>(Zcj 0 0 false).bind λr2=>Zfi.bind λr3=>(Zbt r1.2.1 r2.2.1 20 r3.2.1 ⟨1,[101,120,97,109,112,108,101,46,99,111,109],[1],[117],[],[],1,1,false,0,false,0⟩ [] false).bind λr4=>(Zav r4.2.2.1.jaa.jz).bind λr5=>bif decide (r1.2.2.1=0) then bif decide (1 < r4.2.2.2.1) then bif r4.2.2.1.done then bif decide (r4.2.2.1.err=0) then bif decide (r5.2.2.1=0) then bif decide ((r5.2.1.iD.length:Int)=176) then rt (decide (r4.2.2.1.jaa.iD=r5.2.1.iD)) else rt false else rt false else rt false else rt false else rt false else rt false
def c280:=ct c279 4 [] [qd] λx=>Zdy 
theorem o280:EO c280:=sx o279 (lcA [] [] [3]) Tryz.func4 dn
def Zfh_L0b (y0:Int) (y1 y2:List Jb) (y3:Int):Option ((Int × (List (Jb)) × (List (Jb)) × Int × Unit)⊕((List (Jb)) × Unit)):=
 bif decide (y3 < y1.length) then let v6:=Int.fdiv y0 (2 ^ min (Qf 64 y3).toNat (Qk .i64));let v7:=Qa .i64 ((Qf (Qk .i64) v6&&&Qf (Qk .i64) 1).toNat:Int);bif decide (v7=0) then bif decide (0<=y3)&&decide (y3 < y1.length) then y1[y3.toNat]?.bind λx8=>bif small (y2.length+([x8]).length) 32 then some (Qc (y0,y1,y2++[x8],Qa .i64 (y3+1),())) else none else none else some (Qc (y0,y1,y2,Qa .i64 (y3+1),())) else some (Qb (y2,()))
def Zfh_L0:=Yi4 Zfh_L0b
def Zfh (a0:Int):O1 (List Jb):=
 let v1:List (List UInt8):=[[99,111],[117,107]];let v2:List (List UInt8):=[[119,119,119],[99,107]];let v3:List (List UInt8):=[[103,105,116,104,117,98],[105,111]];let v4:List (List UInt8):=[[98],[99,111],[117,107]];let v5:List Jb:=[{jb:=[[99,111,109]]},{jb:=[[117,107]]},{jb:=v1},⟨[[99,107]],true,false⟩,⟨v2,false,true⟩,{jb:=v3},{jb:=[[116,101,115,116]]},⟨v4,false,true⟩];(Zfh_L0 (a0,v5,[],0,())).bind λz9=>rt z9.1
def c281:=cf c280 5 [qb] [(.own 9)] (u1 Zfh)
def s_Zfh_L0:LSpec T:=⟨[(0,qb),(3,qbz),(4,qbz),(5,qb)],[(.exit 0,[(4,qbz)])],Zfh_L0,[]⟩
def A_Zfh:Loc2 T:=lcA [(0,s_Zfh_L0)] [] []
theorem Vq8:LO c281 Tryz.f5 0 s_Zfh_L0:=lx o280 A_Zfh dn (λ_=>rfl)
theorem o281:EO c281:=sx o280 A_Zfh Tryz.func5 (dc rfl Vq8 dn)
def Zeo (a0:UInt8):O1 Bool:=
 bif decide ((48:UInt8).toBitVec.toNat<=a0.toBitVec.toNat) then rt (decide (a0.toBitVec.toNat<=(57:UInt8).toBitVec.toNat)) else rt false
def c282:=ct c281 78 [qav] [qd] (u1 Zeo)
theorem o282:EO c282:=sz o281 Tryz.func78
def Zep_L0b (y0:List UInt8) (y1:Int):Option (((List UInt8) × Int × Unit)⊕((Bool × Unit) ⊕ (Unit))):=
 bif decide (y1 < y0.length) then (getI y0 y1).bind λx3=>bif decide ((97:UInt8).toBitVec.toNat<=x3.toBitVec.toNat) then (getI y0 y1).bind λx4=>bif !(decide (x4.toBitVec.toNat<=(122:UInt8).toBitVec.toNat)) then (getI y0 y1).bind λx5=>(Zeo x5).bind λr6=>bif !r6.2.1 then (getI y0 y1).bind λx7=>bif !(decide (x7.toBitVec=(45:UInt8).toBitVec)) then some (Qb (Qc (false,()))) else some (Qc (y0,Qa .i64 (y1+1),())) else some (Qc (y0,Qa .i64 (y1+1),())) else some (Qc (y0,Qa .i64 (y1+1),())) else (getI y0 y1).bind λx8=>(Zeo x8).bind λr9=>bif !r9.2.1 then (getI y0 y1).bind λx10=>bif !(decide (x10.toBitVec=(45:UInt8).toBitVec)) then some (Qb (Qc (false,()))) else some (Qc (y0,Qa .i64 (y1+1),())) else some (Qc (y0,Qa .i64 (y1+1),())) else some (Qb (Qb ()))
def Zep_L0:=Yi2 Zep_L0b
def Zep (a0:List UInt8):O1 Bool:=
 bif decide ((a0.length:Int) < 1) then rt false else bif decide (63 < (a0.length:Int)) then rt false else (getI a0 (0:Int)).bind λx1=>bif decide (x1.toBitVec=(45:UInt8).toBitVec) then rt false else (getI a0 (Qa .i64 ((a0.length:Int) - 1))).bind λx2=>bif decide (x2.toBitVec=(45:UInt8).toBitVec) then rt false else (Zep_L0 (a0,0,())).bind (Qh (λz11=>rt z11.1) (λz12=>rt true))
def c283:=ct c282 32 [qh] [qd] (u1 Zep)
def s_Zep_L0:LSpec T:=⟨[(0,qh),(3,qb)],[(.ret,[(2,qn)]),(.exit 0,[])],Zep_L0,[]⟩
def A_Zep:Loc2 T:=lcA [(0,s_Zep_L0)] [] []
theorem Vq9:LO c283 Tryz.f32 0 s_Zep_L0:=lx o282 A_Zep dn (λ_=>rfl)
theorem o283:EO c283:=sx o282 A_Zep Tryz.func32 (dc rfl Vq9 dn)
def Zfz_L0b (y0:List (List UInt8)) (y1:List UInt8) (y2:Int):Option (((List (List UInt8)) × (List UInt8) × Int × Unit)⊕((List UInt8) × Unit)):=
 bif decide (y2 < y0.length) then bif decide (0 < y2) then bif Qm (y1.length+([46]:List UInt8).length) 9223372036854775807 then (getI y0 y2).bind λx1=>bif Qm ((y1++[46]).length+x1.length) 9223372036854775807 then some (Qc (y0,y1++[46]++x1,Qa .i64 (y2+1),())) else none else none else (getI y0 y2).bind λx2=>bif Qm (y1.length+x2.length) 9223372036854775807 then some (Qc (y0,y1++x2,Qa .i64 (y2+1),())) else none else some (Qb (y1,()))
def Zfz_L0:=Yi3 Zfz_L0b
def Zfz (a0:List (List UInt8)):O1 (List UInt8):=
 (Zfz_L0 (a0,[],0,())).bind λz3=>rt z3.1
def c284:=ct c283 33 [qad] [qaf] (u1 Zfz)
def s_Zfz_L0:LSpec T:=⟨[(0,qad),(3,qh),(4,qb)],[(.exit 0,[(3,qh)])],Zfz_L0,[]⟩
def A_Zfz:Loc2 T:=lcA [(0,s_Zfz_L0)] [] []
theorem Vra:LO c284 Tryz.f33 0 s_Zfz_L0:=lx o283 A_Zfz dn (λ_=>rfl)
theorem o284:EO c284:=sx o283 A_Zfz Tryz.func33 (dc rfl Vra dn)
def Zeq_L0b (y0:List UInt8) (y1:UInt8) (y2:List (List UInt8)) (y3 y4:Int):Option (((List UInt8) × UInt8 × (List (List UInt8)) × Int × Int × Unit)⊕((List UInt8) × (List (List UInt8)) × Int × Unit)):=
 bif decide (y4 < y0.length) then (getI y0 y4).bind λx1=>bif decide (x1.toBitVec=y1.toBitVec) then bif decide (0<=y4)&&decide (y4<=y0.length) then bif decide (0<=y3)&&decide (y3<=y4.toNat) then let v2:List (List UInt8):=[Qi y3.toNat (Qj y4.toNat y0)];bif small (y2.length+(v2:List (List UInt8)).length) 16 then some (Qc (y0,y1,y2++v2,Qa .i64 (y4+1),Qa .i64 (y4+1),())) else none else none else none else some (Qc (y0,y1,y2,y3,Qa .i64 (y4+1),())) else some (Qb (y0,y2,y3,()))
def Zeq_L0:=Yi5 Zeq_L0b
def Zeq (a0:List UInt8) (a1:UInt8):O1 (List (List UInt8)):=
 (Zeq_L0 (a0,a1,[],0,0,())).bind λz3=>bif decide (0<=z3.2.2.1)&&decide (z3.2.2.1<=z3.1.length) then bif small (z3.2.1.length+([Qi z3.2.2.1.toNat z3.1]).length) 16 then let v4:=z3.2.1++[Qi z3.2.2.1.toNat z3.1];rt v4 else none else none
def c285:=cf c284 79 [qh,qav] [(.own 2)] (u2 Zeq)
def s_Zeq_L0:LSpec T:=⟨[(0,qh),(1,qav),(5,qby),(6,qb),(7,qb)],[(.exit 0,[(0,qh),(5,qby),(6,qb)])],Zeq_L0,[]⟩
def A_Zeq:Loc2 T:=lcA [(0,s_Zeq_L0)] [] []
theorem Vrb:LO c285 Tryz.f79 0 s_Zeq_L0:=lx o284 A_Zeq dn (λ_=>rfl)
theorem o285:EO c285:=sx o284 A_Zeq Tryz.func79 (dc rfl Vrb dn)
def Zbz_L0b (y0:List (List UInt8)) (y1:Int):Option (((List (List UInt8)) × Int × Unit)⊕((Int × Unit) ⊕ ((List (List UInt8)) × Unit))):=
 bif decide (y1 < y0.length) then bif decide (0<=y1)&&decide (y1 < y0.length) then y0[y1.toNat]?.bind λx2=>(Zep x2).bind λr3=>bif !r3.2.1 then some (Qb (Qc (2,()))) else some (Qc (y0,Qa .i64 (y1+1),())) else none else some (Qb (Qb (y0,())))
def Zbz_L0:=Yi2 Zbz_L0b
def Zbz_L2b (y0:List UInt8) (y1:Int):Option (((List UInt8) × Int × Unit)⊕((Int × Unit) ⊕ (Unit))):=
 bif decide (y1 < y0.length) then (getI y0 y1).bind λx7=>(Zeo x7).bind λr8=>bif !r8.2.1 then some (Qb (Qc (0,()))) else some (Qc (y0,Qa .i64 (y1+1),())) else some (Qb (Qb ()))
def Zbz_L2:=Yi2 Zbz_L2b
def Zbz (a0:List UInt8):O1 Int:=
 bif decide (100 < (a0.length:Int)) then rt 8 else (Zeq a0 46).bind λr1=>(Zbz_L0 (r1.2.1,0,())).bind (Qh (λz4=>rt z4.1) (λz5=>bif decide (0<=Qa .i64 ((z5.1.length:Int) - 1))&&decide (Qa .i64 ((z5.1.length:Int) - 1) < z5.1.length) then z5.1[(Qa .i64 ((z5.1.length:Int) - 1)).toNat]?.bind λx6=>(Zbz_L2 (x6,0,())).bind (Qh (λz9=>rt z9.1) (λz10=>rt 2)) else none))
def c286:=ct c285 34 [qh] [qa] (u1 Zbz)
def s_Zbz_L0:LSpec T:=⟨[(3,qby),(4,qb)],[(.ret,[(2,qb)]),(.exit 0,[(3,qby)])],Zbz_L0,[]⟩
def s_Zbz_L2:LSpec T:=⟨[(5,qh),(6,qb)],[(.ret,[(2,qb)]),(.exit 2,[])],Zbz_L2,[]⟩
def A_Zbz:Loc2 T:=lcA [(0,s_Zbz_L0),(2,s_Zbz_L2)] [] []
theorem Vju:LO c286 Tryz.f34 0 s_Zbz_L0:=lx o285 A_Zbz dn (λ_=>rfl)
theorem Vrc:LO c286 Tryz.f34 2 s_Zbz_L2:=lx o285 A_Zbz (dc rfl Vju dn) (λ_=>rfl)
theorem o286:EO c286:=sx o285 A_Zbz Tryz.func34 (dc rfl Vju (dc rfl Vrc dn))
def Zbb_L0b (y0:Jb×Unit) (y1:Int):Option (((Jb × Unit) × Int × Unit)⊕(((List UInt8) × Int × Unit) ⊕ ((Jb × Unit) × Unit))):=
 bif decide (y1 < y0.1.jb.length) then (getI y0.1.jb y1).bind λx1=>(Zep x1).bind λr2=>bif !r2.2.1 then some (Qb (Qc ([],4,()))) else some (Qc ((y0.1,()),Qa .i64 (y1+1),())) else some (Qb (Qb ((y0.1,()),())))
def Zbb_L0:=Yi2 Zbb_L0b
def Zbb (a0:Jb):O2 (List UInt8) Int:=
 (Zbb_L0 ((a0,()),0,())).bind (Qh (λz3=>ru z3.1 z3.2.1) (λz4=>(Zfz z4.1.1.jb).bind λr5=>(Zbz r5.2.1).bind λr6=>bif !(decide (r6.2.1=0)) then ru [] 4 else bif z4.1.1.jaq then bif z4.1.1.jy then ru [] 4 else bif z4.1.1.jy then bif decide ((z4.1.1.jb.length:Int) < 2) then ru [] 4 else bif z4.1.1.jaq then bif Qm (([42,46]:List UInt8).length+r5.2.1.length) 9223372036854775807 then ru (([42,46]:List UInt8)++r5.2.1) 0 else none else bif z4.1.1.jy then bif Qm (([33]:List UInt8).length+r5.2.1.length) 9223372036854775807 then ru (([33]:List UInt8)++r5.2.1) 0 else none else ru r5.2.1 0 else bif z4.1.1.jaq then bif Qm (([42,46]:List UInt8).length+r5.2.1.length) 9223372036854775807 then ru (([42,46]:List UInt8)++r5.2.1) 0 else none else bif z4.1.1.jy then bif Qm (([33]:List UInt8).length+r5.2.1.length) 9223372036854775807 then ru (([33]:List UInt8)++r5.2.1) 0 else none else ru r5.2.1 0 else bif z4.1.1.jy then bif decide ((z4.1.1.jb.length:Int) < 2) then ru [] 4 else bif z4.1.1.jaq then bif Qm (([42,46]:List UInt8).length+r5.2.1.length) 9223372036854775807 then ru (([42,46]:List UInt8)++r5.2.1) 0 else none else bif z4.1.1.jy then bif Qm (([33]:List UInt8).length+r5.2.1.length) 9223372036854775807 then ru (([33]:List UInt8)++r5.2.1) 0 else none else ru r5.2.1 0 else bif z4.1.1.jaq then bif Qm (([42,46]:List UInt8).length+r5.2.1.length) 9223372036854775807 then ru (([42,46]:List UInt8)++r5.2.1) 0 else none else bif z4.1.1.jy then bif Qm (([33]:List UInt8).length+r5.2.1.length) 9223372036854775807 then ru (([33]:List UInt8)++r5.2.1) 0 else none else ru r5.2.1 0))
def c287:=ct c286 16 [(.f qa6)] [qaf,qa] (u1 Zbb)
def s_Zbb_L0:LSpec T:=⟨[(1,(.ptr [qa6])),(4,qb)],[(.ret,[(2,qh),(3,qb)]),(.exit 0,[(1,(.ptr [qa6]))])],Zbb_L0,[]⟩
def A_Zbb:Loc2 T:=lcA [(0,s_Zbb_L0)] [] []
theorem Vrd:LO c287 Tryz.f16 0 s_Zbb_L0:=lx o286 A_Zbb dn (λ_=>rfl)
theorem o287:EO c287:=sx o286 A_Zbb Tryz.func16 (dc rfl Vrd dn)
def Zhe_L0b (y0:BitVec 64) (y1:List Jb) (y2:Jc×Unit) (y3:Int):Option (((BitVec 64) × (List (Jb)) × (Jc × Unit) × Int × Unit)⊕(((Jc × Unit) × Int × Unit) ⊕ ((BitVec 64) × (List (Jb)) × (Jc × Unit) × Unit))):=
 bif decide (y3 < y1.length) then (getI y1 y3).bind λx1=>(Zbb x1).bind λr2=>bif !(decide (r2.2.2.1=0)) then some (Qb (Qc (({},()),r2.2.2.1,()))) else some (Qc (y0,y1,(y2.1,()),Qa .i64 (y3+1),())) else some (Qb (Qb (y0,y1,(y2.1,()),())))
def Zhe_L0:=Yi4 Zhe_L0b
def Zhe (a0:BitVec 64) (a1:List Jb):O2 Jc Int:=
 bif decide (64 < (a1.length:Int)) then some ((),{},8,()) else (Zhe_L0 (a0,a1,({},()),0,())).bind (Qh (λz3=>ru z3.1.1 z3.2.1) (λz4=>bif small z4.2.1.length 32 then ru {jba:=z4.2.1,jah:=z4.1} 0 else none))
def c288:=cf c287 8 [qf,qz] [qp,qa] (u2 Zhe)
def s_Zhe_L0:LSpec T:=⟨[(0,qf),(1,qz),(4,qbb),(6,qb)],[(.ret,[(4,qbb),(5,qb)]),(.exit 0,[(0,qf),(1,qz),(4,qbb)])],Zhe_L0,[]⟩
def A_Zhe:Loc2 T:=lcA [(0,s_Zhe_L0)] [] []
theorem Vre:LO c288 Tryz.f8 0 s_Zhe_L0:=lx o287 A_Zhe dn (λ_=>rfl)
theorem o288:EO c288:=sx o287 A_Zhe Tryz.func8 (dc rfl Vre dn)
def Zbl_L0b (y0 y1:List (List UInt8)) (y2:Int):Option (((List (List UInt8)) × (List (List UInt8)) × Int × Unit)⊕((Bool × Unit) ⊕ (Unit))):=
 bif decide (y2 < y0.length) then (getI y0 y2).bind λx1=>(getI y1 y2).bind λx2=>bif !(decide (x1=x2)) then some (Qb (Qc (false,()))) else some (Qc (y0,y1,Qa .i64 (y2+1),())) else some (Qb (Qb ()))
def Zbl_L0:=Yi3 Zbl_L0b
def Zbl (a0 a1:List (List UInt8)):O1 Bool:=
 bif !(decide ((a0.length:Int)=(a1.length:Int))) then rt false else (Zbl_L0 (a0,a1,0,())).bind (Qh (λz3=>rt z3.1) (λz4=>rt true))
def c289:=ct c288 80 [qad,qad] [qd] (u2 Zbl)
def s_Zbl_L0:LSpec T:=⟨[(0,qad),(1,qad),(5,qb)],[(.ret,[(4,qn)]),(.exit 0,[])],Zbl_L0,[]⟩
def A_Zbl:Loc2 T:=lcA [(0,s_Zbl_L0)] [] []
theorem Vrf:LO c289 Tryz.f80 0 s_Zbl_L0:=lx o288 A_Zbl dn (λ_=>rfl)
theorem o289:EO c289:=sx o288 A_Zbl Tryz.func80 (dc rfl Vrf dn)
def Zby (a0 a1:Jb):O1 Bool:=
 (Zbl a0.jb a1.jb).bind λr1=>bif r1.2.1 then bif a0.jaq==a1.jaq then rt (a0.jy==a1.jy) else rt false else rt false
def c290:=ct c289 35 [(.f qa6),(.f qa6)] [qd] (u2 Zby)
theorem o290:EO c290:=sz o289 Tryz.func35
def Zbm_L0b (y0 y1:List Jb) (y2:Int):Option (((List (Jb)) × (List (Jb)) × Int × Unit)⊕((Bool × Unit) ⊕ (Unit))):=
 bif decide (y2 < y0.length) then (getI y0 y2).bind λx1=>(getI y1 y2).bind λx2=>(Zby x1 x2).bind λr3=>bif !r3.2.1 then some (Qb (Qc (false,()))) else some (Qc (y0,y1,Qa .i64 (y2+1),())) else some (Qb (Qb ()))
def Zbm_L0:=Yi3 Zbm_L0b
def Zbm (a0 a1:List Jb):O1 Bool:=
 bif !(decide ((a0.length:Int)=(a1.length:Int))) then rt false else (Zbm_L0 (a0,a1,0,())).bind (Qh (λz4=>rt z4.1) (λz5=>rt true))
def c291:=ct c290 17 [qz,qz] [qd] (u2 Zbm)
def s_Zbm_L0:LSpec T:=⟨[(0,qz),(1,qz),(5,qb)],[(.ret,[(4,qn)]),(.exit 0,[])],Zbm_L0,[]⟩
def A_Zbm:Loc2 T:=lcA [(0,s_Zbm_L0)] [] []
theorem Vrg:LO c291 Tryz.f17 0 s_Zbm_L0:=lx o290 A_Zbm dn (λ_=>rfl)
theorem o291:EO c291:=sx o290 A_Zbm Tryz.func17 (dc rfl Vrg dn)
def Zbx (a0 a1:Jaj):O1 Bool:=
 bif decide (a0.jc=a1.jc) then bif decide (a0.jd=a1.jd) then bif decide (a0.length=a1.length) then bif decide (a0.data=a1.data) then rt (decide (a0.seq=a1.seq)) else rt false else rt false else rt false else rt false
def c292:=ct c291 18 [(.f qbl),(.f qbl)] [qd] (u2 Zbx)
theorem o292:EO c292:=sz o291 Tryz.func18
def Zca_L0b (y0 y1:List (List UInt8)) (y2:Int):Option (((List (List UInt8)) × (List (List UInt8)) × Int × Unit)⊕((Bool × Unit) ⊕ (Unit))):=
 bif decide (y2 < y0.length) then (getI y0 y2).bind λx1=>(getI y1 y2).bind λx2=>bif !(decide (x1=x2)) then some (Qb (Qc (false,()))) else some (Qc (y0,y1,Qa .i64 (y2+1),())) else some (Qb (Qb ()))
def Zca_L0:=Yi3 Zca_L0b
def Zca (a0 a1:List (List UInt8)):O1 Bool:=
 bif !(decide ((a0.length:Int)=(a1.length:Int))) then rt false else (Zca_L0 (a0,a1,0,())).bind (Qh (λz3=>rt z3.1) (λz4=>rt true))
def c293:=ct c292 36 [qay,qay] [qd] (u2 Zca)
def s_Zca_L0:LSpec T:=⟨[(0,qay),(1,qay),(5,qb)],[(.ret,[(4,qn)]),(.exit 0,[])],Zca_L0,[]⟩
def A_Zca:Loc2 T:=lcA [(0,s_Zca_L0)] [] []
theorem Vrh:LO c293 Tryz.f36 0 s_Zca_L0:=lx o292 A_Zca dn (λ_=>rfl)
theorem o293:EO c293:=sx o292 A_Zca Tryz.func36 (dc rfl Vrh dn)
end Go.Proofs.YtnnohacnlkdlgaaGreatDoor

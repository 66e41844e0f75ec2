/- The functions of the program, as plain functions, and that the program computes them. Written by a program. -/
import Derived.Test.YtaddhgkhilmniaaGreatDoorFns4
set_option linter.unusedVariables false
set_option maxRecDepth 100000
namespace Go.Proofs.YtaddhgkhilmniaaGreatDoor
open Go Go.Abs
open Go.IntKind renaming wrap → Qa, bits → Qi
open _root_.Sum renaming inr → Qb, inl → Qc, elim → Qk
open _root_.Nat renaming ble → Qd
open _root_.List renaming take → Qf, drop → Qh
open _root_.BitVec renaming ofInt → Qg, setWidth → Qj
open _root_.UInt8 renaming ofBitVec → Ql
def Zhs (a0:Int):O1 (List UInt8):=
 let v1:List (List UInt8):=[[101,120,97,109,112,108,101,46,99,111,109],[108,111,103,105,110,46,101,120,97,109,112,108,101,46,99,111,109],[97,46,98,46,99,111,46,117,107],[98,46,99,111,46,117,107],[99,111,46,117,107],[117,107],[120,46,121,46,99,107],[119,119,119,46,99,107],[99,107],[108,111,99,97,108,104,111,115,116],[101,118,105,108,46,116,101,115,116],[101,120,97,109,112,108,101,46,99,111,109,46,101,118,105,108,46,116,101,115,116],[97,46,108,111,103,105,110,46,101,120,97,109,112,108,101,46,99,111,109],[120,97,109,112,108,101,46,99,111,109],[121,46,99,107],[122,46,120,46,121,46,99,107],[103,105,116,104,117,98,46,105,111],[109,101,46,103,105,116,104,117,98,46,105,111],[121,111,117,46,103,105,116,104,117,98,46,105,111],[105,111],[49,46,50,46,51,46,52],[],[97,46,46,98],[69,120,97,109,112,108,101,46,99,111,109],[45,97,46,99,111,109],[97,46,99,111,109,46],[97,45,98,46,99,49],[99,49]];(Zjh a0 28).bind λr2=>bif decide (0<=r2.2.1)&&decide (r2.2.1 < 28) then v1[r2.2.1.toNat]?.bind λx3=>rt x3 else none
def c293:=ct c292 26 [qb] [qs] (u1 Zhs)
theorem o293:EO c293:=sz o292 Tryz.func26
def Zet (a0:Int):O1 Jf:=
 let v1:=Qa .i64 ((Qg (Qi .i64) a0&&&Qg (Qi .i64) 7).toNat:Int);(Zhs (Int.fdiv a0 (2 ^ min 3 (Qi .i64)))).bind λr2=>let v3:List Int:=[443,80,8080,443,1,65535,0,65536];let v4:=Qa .i64 ((Qg (Qi .i64) (Int.fdiv a0 (2 ^ min 10 (Qi .i64)))&&&Qg (Qi .i64) 7).toNat:Int);bif decide (0<=v4)&&decide (v4 < 8) then v3[v4.toNat]?.bind λx5=>rt ⟨!(decide (v1=7)),r2.2.1,x5⟩ else none
def c294:=ct c293 10 [qb] [qad] (u1 Zet)
theorem o294:EO c294:=sx o293 (lcA [] [] [1]) Tryz.func10 dn
def Zgf (a0 a1:Int):O1 (List UInt8):=
 let v1:Int:=bif decide ((bif decide (1024 < a1) then (1024:Int) else a1) < 0) then 0 else bif decide (1024 < a1) then 1024 else a1;(Zfr (Qg 64 a0+1#64) 7#64 v1).bind λr2=>rt r2.2.1
def c295:=cf c294 27 [qb,qb] [qj] (u2 Zgf)
theorem o295:EO c295:=sz o294 Tryz.func27
def Zht (a0:Int):O1 (List UInt8):=
 let v1:List (List UInt8):=[[97,108,105,99,101],[98,111,98],[99,97,114,111,108],[],[255]];(Zjh a0 5).bind λr2=>bif decide (0<=r2.2.1)&&decide (r2.2.1 < 5) then v1[r2.2.1.toNat]?.bind λx3=>rt x3 else none
def c296:=ct c295 28 [qb] [qs] (u1 Zht)
theorem o296:EO c296:=sz o295 Tryz.func28
def Zap_L0b (y0:Jl×Unit) (y1:Jr×Unit) (y2:Int×List UInt8×List UInt8×List UInt8×List UInt8×List (List UInt8)×Int×Int×Bool×Int×Bool×Int×Unit) (y3:Int):Option (((Jl × Unit) × (Jr × Unit) × Ybq × Int × Unit)⊕((Jl × Unit) × (Jr × Unit) × Ybq × Unit)):=
 bif decide (0 < y3) then (Zcg (y0.1,()) 9).bind λr16=>(Zgf r16.2.1 176).bind λr17=>bif small (y2.2.2.2.2.2.1.length+([r17.2.1]).length) 24 then let v18:=y2.2.2.2.2.2.1++[r17.2.1];some (Qc ((r16.1.1.1,()),(y1.1,()),(y2.1,y2.2.1,y2.2.2.1,y2.2.2.2.1,y2.2.2.2.2.1,v18,y2.2.2.2.2.2.2),Qa .i64 (y3 - 1),())) else none else some (Qb ((y0.1,()),(y1.1,()),y2,()))
def Zap_L0:=Yi4 Zap_L0b
def Zap (a0:Jl×Unit):Option (((Jl×Unit)×Unit)×Jr×Unit):=
 (Zcg (a0.1,()) 2).bind λr1=>let v2:List (List UInt8):=[[101,120,97,109,112,108,101,46,99,111,109],[108,111,103,105,110,46,101,120,97,109,112,108,101,46,99,111,109],[99,111,109],[98,46,99,111,46,117,107],[108,111,99,97,108,104,111,115,116],[97,46,101,120,97,109,112,108,101],[],[101,118,105,108,46,116,101,115,116]];(Zcg (r1.1.1.1,()) 8).bind λr3=>bif decide (0<=r3.2.1)&&decide (r3.2.1 < 8) then v2[r3.2.1.toNat]?.bind λx4=>(Zcg (r3.1.1.1,()) 5).bind λr5=>(Zgf r5.2.1 16).bind λr6=>(Zcg (r5.1.1.1,()) 3).bind λr7=>(Zht r7.2.1).bind λr8=>(Zcg (r7.1.1.1,()) 2).bind λr9=>(Zcg (r9.1.1.1,()) 3).bind λr10=>(Zcg (r10.1.1.1,()) 2).bind λr11=>(Zcg (r11.1.1.1,()) 3).bind λr12=>(Zcg (r12.1.1.1,()) 3).bind λr13=>bif decide (r11.2.1=1) then (Zcg (r13.1.1.1,()) 2).bind λr14=>(Zcg (r14.1.1.1,()) 3).bind λr15=>(Zap_L0 ((r15.1.1.1,()),({},()),(Qa .i64 (1+r1.2.1),x4,r6.2.1,[117,115,101,114],r8.2.1,[],Qa .i64 (1+r9.2.1),Qa .i64 (1+r10.2.1),decide (r11.2.1=1),r12.2.1,decide (r14.2.1=1),r13.2.1,()),r15.2.1,())).bind λz19=>(Zcg (z19.1.1,()) 16).bind λr20=>bif decide (r20.2.1=12) then (Zcg (r20.1.1.1,()) 5).bind λr21=>some (((r21.1.1.1,()),()),⟨Qa .i64 (r21.2.1 - 1),z19.2.2.1.2.1,z19.2.2.1.2.2.1,z19.2.2.1.2.2.2.1,z19.2.2.1.2.2.2.2.1,z19.2.2.1.2.2.2.2.2.1,z19.2.2.1.2.2.2.2.2.2.1,z19.2.2.1.2.2.2.2.2.2.2.1,z19.2.2.1.2.2.2.2.2.2.2.2.1,z19.2.2.1.2.2.2.2.2.2.2.2.2.1,z19.2.2.1.2.2.2.2.2.2.2.2.2.2.1,z19.2.2.1.2.2.2.2.2.2.2.2.2.2.2.1⟩,()) else bif decide (r20.2.1=13) then let v22:List Int:=[0,65,64,1];(Zcg (r20.1.1.1,()) 4).bind λr23=>bif decide (0<=r23.2.1)&&decide (r23.2.1 < 4) then v22[r23.2.1.toNat]?.bind λx24=>(Zgf 1 x24).bind λr25=>some (((r23.1.1.1,()),()),⟨z19.2.2.1.1,z19.2.2.1.2.1,r25.2.1,z19.2.2.1.2.2.2.1,z19.2.2.1.2.2.2.2.1,z19.2.2.1.2.2.2.2.2.1,z19.2.2.1.2.2.2.2.2.2.1,z19.2.2.1.2.2.2.2.2.2.2.1,z19.2.2.1.2.2.2.2.2.2.2.2.1,z19.2.2.1.2.2.2.2.2.2.2.2.2.1,z19.2.2.1.2.2.2.2.2.2.2.2.2.2.1,z19.2.2.1.2.2.2.2.2.2.2.2.2.2.2.1⟩,()) else none else bif decide (r20.2.1=14) then (Zcg (r20.1.1.1,()) 6).bind λr26=>some (((r26.1.1.1,()),()),⟨z19.2.2.1.1,z19.2.2.1.2.1,z19.2.2.1.2.2.1,z19.2.2.1.2.2.2.1,z19.2.2.1.2.2.2.2.1,z19.2.2.1.2.2.2.2.2.1,z19.2.2.1.2.2.2.2.2.2.1,z19.2.2.1.2.2.2.2.2.2.2.1,z19.2.2.1.2.2.2.2.2.2.2.2.1,Qa .i64 (r26.2.1 - 2),z19.2.2.1.2.2.2.2.2.2.2.2.2.2.1,z19.2.2.1.2.2.2.2.2.2.2.2.2.2.2.1⟩,()) else bif decide (r20.2.1=15) then (Zcg (r20.1.1.1,()) 300).bind λr27=>(Zcg (r27.1.1.1,()) 40).bind λr28=>(Zgf 1 r28.2.1).bind λr29=>some (((r28.1.1.1,()),()),⟨z19.2.2.1.1,z19.2.2.1.2.1,z19.2.2.1.2.2.1,z19.2.2.1.2.2.2.1,r29.2.1,z19.2.2.1.2.2.2.2.2.1,r27.2.1,z19.2.2.1.2.2.2.2.2.2.2.1,z19.2.2.1.2.2.2.2.2.2.2.2.1,z19.2.2.1.2.2.2.2.2.2.2.2.2.1,z19.2.2.1.2.2.2.2.2.2.2.2.2.2.1,z19.2.2.1.2.2.2.2.2.2.2.2.2.2.2.1⟩,()) else some (((r20.1.1.1,()),()),⟨z19.2.2.1.1,z19.2.2.1.2.1,z19.2.2.1.2.2.1,z19.2.2.1.2.2.2.1,z19.2.2.1.2.2.2.2.1,z19.2.2.1.2.2.2.2.2.1,z19.2.2.1.2.2.2.2.2.2.1,z19.2.2.1.2.2.2.2.2.2.2.1,z19.2.2.1.2.2.2.2.2.2.2.2.1,z19.2.2.1.2.2.2.2.2.2.2.2.2.1,z19.2.2.1.2.2.2.2.2.2.2.2.2.2.1,z19.2.2.1.2.2.2.2.2.2.2.2.2.2.2.1⟩,()) else (Zcg (r13.1.1.1,()) 3).bind λr30=>(Zap_L0 ((r30.1.1.1,()),({},()),(Qa .i64 (1+r1.2.1),x4,r6.2.1,[117,115,101,114],r8.2.1,[],Qa .i64 (1+r9.2.1),Qa .i64 (1+r10.2.1),decide (r11.2.1=1),r12.2.1,false,r13.2.1,()),r30.2.1,())).bind λz31=>(Zcg (z31.1.1,()) 16).bind λr32=>bif decide (r32.2.1=12) then (Zcg (r32.1.1.1,()) 5).bind λr33=>some (((r33.1.1.1,()),()),⟨Qa .i64 (r33.2.1 - 1),z31.2.2.1.2.1,z31.2.2.1.2.2.1,z31.2.2.1.2.2.2.1,z31.2.2.1.2.2.2.2.1,z31.2.2.1.2.2.2.2.2.1,z31.2.2.1.2.2.2.2.2.2.1,z31.2.2.1.2.2.2.2.2.2.2.1,z31.2.2.1.2.2.2.2.2.2.2.2.1,z31.2.2.1.2.2.2.2.2.2.2.2.2.1,z31.2.2.1.2.2.2.2.2.2.2.2.2.2.1,z31.2.2.1.2.2.2.2.2.2.2.2.2.2.2.1⟩,()) else bif decide (r32.2.1=13) then let v34:List Int:=[0,65,64,1];(Zcg (r32.1.1.1,()) 4).bind λr35=>bif decide (0<=r35.2.1)&&decide (r35.2.1 < 4) then v34[r35.2.1.toNat]?.bind λx36=>(Zgf 1 x36).bind λr37=>some (((r35.1.1.1,()),()),⟨z31.2.2.1.1,z31.2.2.1.2.1,r37.2.1,z31.2.2.1.2.2.2.1,z31.2.2.1.2.2.2.2.1,z31.2.2.1.2.2.2.2.2.1,z31.2.2.1.2.2.2.2.2.2.1,z31.2.2.1.2.2.2.2.2.2.2.1,z31.2.2.1.2.2.2.2.2.2.2.2.1,z31.2.2.1.2.2.2.2.2.2.2.2.2.1,z31.2.2.1.2.2.2.2.2.2.2.2.2.2.1,z31.2.2.1.2.2.2.2.2.2.2.2.2.2.2.1⟩,()) else none else bif decide (r32.2.1=14) then (Zcg (r32.1.1.1,()) 6).bind λr38=>some (((r38.1.1.1,()),()),⟨z31.2.2.1.1,z31.2.2.1.2.1,z31.2.2.1.2.2.1,z31.2.2.1.2.2.2.1,z31.2.2.1.2.2.2.2.1,z31.2.2.1.2.2.2.2.2.1,z31.2.2.1.2.2.2.2.2.2.1,z31.2.2.1.2.2.2.2.2.2.2.1,z31.2.2.1.2.2.2.2.2.2.2.2.1,Qa .i64 (r38.2.1 - 2),z31.2.2.1.2.2.2.2.2.2.2.2.2.2.1,z31.2.2.1.2.2.2.2.2.2.2.2.2.2.2.1⟩,()) else bif decide (r32.2.1=15) then (Zcg (r32.1.1.1,()) 300).bind λr39=>(Zcg (r39.1.1.1,()) 40).bind λr40=>(Zgf 1 r40.2.1).bind λr41=>some (((r40.1.1.1,()),()),⟨z31.2.2.1.1,z31.2.2.1.2.1,z31.2.2.1.2.2.1,z31.2.2.1.2.2.2.1,r41.2.1,z31.2.2.1.2.2.2.2.2.1,r39.2.1,z31.2.2.1.2.2.2.2.2.2.2.1,z31.2.2.1.2.2.2.2.2.2.2.2.1,z31.2.2.1.2.2.2.2.2.2.2.2.2.1,z31.2.2.1.2.2.2.2.2.2.2.2.2.2.1,z31.2.2.1.2.2.2.2.2.2.2.2.2.2.2.1⟩,()) else some (((r32.1.1.1,()),()),⟨z31.2.2.1.1,z31.2.2.1.2.1,z31.2.2.1.2.2.1,z31.2.2.1.2.2.2.1,z31.2.2.1.2.2.2.2.1,z31.2.2.1.2.2.2.2.2.1,z31.2.2.1.2.2.2.2.2.2.1,z31.2.2.1.2.2.2.2.2.2.2.1,z31.2.2.1.2.2.2.2.2.2.2.2.1,z31.2.2.1.2.2.2.2.2.2.2.2.2.1,z31.2.2.1.2.2.2.2.2.2.2.2.2.2.1,z31.2.2.1.2.2.2.2.2.2.2.2.2.2.2.1⟩,()) else none
def c297:=cf c296 11 [qaw] [qap] (u1 Zap)
def s_Zap_L0:LSpec T:=⟨[(0,qaw),(2,qbx),(3,qby),(4,qb)],[(.exit 0,[(0,qaw),(2,qbx),(3,qby)])],Zap_L0,[]⟩
def A_Zap:Loc2 T:=lcA [(0,s_Zap_L0)] [] [1,6,15]
theorem Vp8:LO c297 Tryz.f11 0 s_Zap_L0:=lx o296 A_Zap dn (λ_=>rfl)
theorem o297:EO c297:=sx o296 A_Zap Tryz.func11 (dc rfl Vp8 dn)
def Zbs (a0:Int):O1 (List UInt8):=
 let v1:List (List UInt8):=[[104,116,116,112,115,58,47,47,101,120,97,109,112,108,101,46,99,111,109],[104,116,116,112,115,58,47,47,108,111,103,105,110,46,101,120,97,109,112,108,101,46,99,111,109],[104,116,116,112,115,58,47,47,101,118,105,108,46,116,101,115,116],[104,116,116,112,58,47,47,108,111,99,97,108,104,111,115,116,58,56,48,56,48],[104,116,116,112,115,58,47,47,98,46,99,111,46,117,107],[104,116,116,112,58,47,47,101,120,97,109,112,108,101,46,99,111,109]];(Zjh a0 6).bind λr2=>bif decide (0<=r2.2.1)&&decide (r2.2.1 < 6) then v1[r2.2.1.toNat]?.bind λx3=>rt x3 else none
def c298:=ct c297 12 [qb] [qs] (u1 Zbs)
theorem o298:EO c298:=sz o297 Tryz.func12
def Zax (a0:Bool):O1 Int:=
 bif a0 then rt 443 else rt 80
def c299:=ct c298 67 [qm] [qa] (u1 Zax)
theorem o299:EO c299:=sz o298 Tryz.func67
def Zei (a0:Bool):O1 (List UInt8):=
 bif a0 then rt [104,116,116,112,115,58,47,47] else rt [104,116,116,112,58,47,47]
def c300:=ct c299 68 [qm] [qs] (u1 Zei)
theorem o300:EO c300:=sz o299 Tryz.func68
def Zde_L0b (y0:Int) (y1:List UInt8):Option ((Int × (List UInt8) × Unit)⊕((List UInt8) × Unit)):=
 let v1:=Ql (Qg 8 (Qa .i64 (48+Int.tmod y0 10)));bif Qd (([v1]).length+y1.length) 9223372036854775807 then bif decide (Qa .i64 (Int.tdiv y0 10)=0) then some (Qb ([v1]++y1,())) else some (Qc (Qa .i64 (Int.tdiv y0 10),[v1]++y1,())) else none
def Zde_L0:=Yi2 Zde_L0b
def Zde (a0:Int):O1 (List UInt8):=
 (Zde_L0 (a0,[],())).bind λz2=>rt z2.1
def c301:=ct c300 69 [qb] [qs] (u1 Zde)
def s_Zde_L0:LSpec T:=⟨[(0,qb),(3,qg)],[(.ret,[(2,qg)])],Zde_L0,[]⟩
def A_Zde:Loc2 T:=lcA [(0,s_Zde_L0)] [] []
theorem Vp9:LO c301 Tryz.f69 0 s_Zde_L0:=lx o300 A_Zde dn (λ_=>rfl)
theorem o301:EO c301:=sx o300 A_Zde Tryz.func69 (dc rfl Vp9 dn)
def Zal (a0:Jf):O2 (List UInt8) Int:=
 (Zcn a0.ju).bind λr1=>bif !(decide (r1.2.1=0)) then ru [] r1.2.1 else bif decide (a0.ji < 1) then ru [] 9 else bif decide (65535 < a0.ji) then ru [] 9 else (Zax a0.jp).bind λr2=>bif decide (a0.ji=r2.2.1) then (Zei a0.jp).bind λr3=>bif Qd (r3.2.1.length+a0.ju.length) 9223372036854775807 then ru (r3.2.1++a0.ju) 0 else none else (Zei a0.jp).bind λr4=>bif Qd (r4.2.1.length+a0.ju.length) 9223372036854775807 then bif Qd ((r4.2.1++a0.ju).length+([58]:List UInt8).length) 9223372036854775807 then (Zde a0.ji).bind λr5=>bif Qd ((r4.2.1++a0.ju++[58]).length+r5.2.1.length) 9223372036854775807 then ru (r4.2.1++a0.ju++[58]++r5.2.1) 0 else none else none else none
def c302:=ct c301 35 [(.f qad)] [qs,qa] (u1 Zal)
theorem o302:EO c302:=sz o301 Tryz.func35
def Zej (a0:Int):O1 (List UInt8):=
 bif decide (a0=1) then let v1:List UInt8:=[112,97,115,115,107,101,121,46,99,114,101,97,116,101];rt v1 else bif decide (a0=2) then let v2:List UInt8:=[112,97,115,115,107,101,121,46,103,101,116];rt v2 else rt []
def c303:=ct c302 70 [qb] [qs] (u1 Zej)
theorem o303:EO c303:=sz o302 Tryz.func70
def Zha_L0b (y0:List UInt8) (y1:Bool) (y2 y3:Int):Option (((List UInt8) × Bool × Int × Int × Unit)⊕((Int × Bool × Unit) ⊕ (Bool × Int × Unit))):=
 bif decide (y3 < y0.length) then (getI y0 y3).bind λx2=>(Zfl x2).bind λr3=>bif !r3.2.1 then some (Qb (Qc (0,false,()))) else (getI y0 y3).bind λx4=>let v5:=((Ql (x4.toBitVec - (48:UInt8).toBitVec)).toBitVec.toNat:Int);let v6:=Qa .i64 (Qa .i64 (10*y2)+v5);some (Qc (y0,y1,v6,Qa .i64 (y3+1),())) else some (Qb (Qb (y1,y2,())))
def Zha_L0:=Yi4 Zha_L0b
def Zha (a0:List UInt8) (a1:Bool):O2 Int Bool:=
 bif decide ((a0.length:Int) < 1) then ru 0 false else bif decide (5 < (a0.length:Int)) then ru 0 false else (getI a0 (0:Int)).bind λx1=>bif decide (x1.toBitVec=(48:UInt8).toBitVec) then ru 0 false else (Zha_L0 (a0,a1,0,0,())).bind (Qk (λz7=>ru z7.1 z7.2.1) (λz8=>bif decide (z8.2.1<=65535) then (Zax z8.1).bind λr9=>ru z8.2.1 (!(decide (z8.2.1=r9.2.1))) else ru z8.2.1 false))
def c304:=ct c303 126 [qg,qm] [qa,qd] (u2 Zha)
def s_Zha_L0:LSpec T:=⟨[(0,qg),(1,qm),(6,qb),(7,qb)],[(.ret,[(4,qb),(5,qm)]),(.exit 0,[(1,qm),(6,qb)])],Zha_L0,[]⟩
def A_Zha:Loc2 T:=lcA [(0,s_Zha_L0)] [] []
theorem Vqa:LO c304 Tryz.f126 0 s_Zha_L0:=lx o303 A_Zha dn (λ_=>rfl)
theorem o304:EO c304:=sx o303 A_Zha Tryz.func126 (dc rfl Vqa dn)
def Zaw_L0b (y0 y1:Jf×Unit) (y2:List UInt8) (y3 y4:Int):Option (((Jf × Unit) × (Jf × Unit) × (List UInt8) × Int × Int × Unit)⊕((Jf × Unit) × (Jf × Unit) × (List UInt8) × Int × Unit)):=
 bif decide (0<=y4) then (getI y2 y4).bind λx4=>bif decide (x4.toBitVec=(58:UInt8).toBitVec) then some (Qc ((y0.1,()),(y1.1,()),y2,y4,Qa .i64 (y4 - 1),())) else some (Qc ((y0.1,()),(y1.1,()),y2,y3,Qa .i64 (y4 - 1),())) else some (Qb ((y0.1,()),(y1.1,()),y2,y3,()))
def Zaw_L0:=Yi5 Zaw_L0b
def Zaw (a0:List UInt8):O2 Jf Int:=
 bif decide (8<=(a0.length:Int)) then bif decide (8<=(a0.length:Int)) then (Zei (decide (Qf 8 a0=([104,116,116,112,115,58,47,47]:List UInt8)))).bind λr1=>bif decide ((a0.length:Int) < (r1.2.1.length:Int)) then some ((),{},2,()) else bif decide (0<=(r1.2.1.length:Int))&&decide ((r1.2.1.length:Int)<=(a0.length:Int)) then bif !(decide (Qf (r1.2.1.length:Int).toNat a0=r1.2.1)) then some ((),{},2,()) else bif decide (0<=(r1.2.1.length:Int))&&decide ((r1.2.1.length:Int)<=(a0.length:Int)) then let v2:=((Qh (r1.2.1.length:Int).toNat a0).length:Int);let v3:=((Qh (r1.2.1.length:Int).toNat a0).length:Int);(Zaw_L0 (({},()),({jp:=decide (Qf 8 a0=([104,116,116,112,115,58,47,47]:List UInt8))},()),Qh (r1.2.1.length:Int).toNat a0,v2,Qa .i64 (v3 - 1),())).bind λz5=>bif decide (0<=z5.2.2.2.1)&&decide (z5.2.2.2.1<=z5.2.2.1.length) then (Zcn (Qf z5.2.2.2.1.toNat z5.2.2.1)).bind λr6=>bif !(decide (r6.2.1=0)) then some ((),{},r6.2.1,()) else bif decide (0<=z5.2.2.2.1)&&decide (z5.2.2.2.1<=z5.2.2.1.length) then (Zax z5.2.1.1.jp).bind λr7=>bif decide (z5.2.2.2.1 < z5.2.2.1.length) then bif decide (0<=Qa .i64 (z5.2.2.2.1+1))&&decide (Qa .i64 (z5.2.2.2.1+1)<=z5.2.2.1.length) then let v8:=Qh (Qa .i64 (z5.2.2.2.1+1)).toNat z5.2.2.1;(Zha v8 z5.2.1.1.jp).bind λr9=>bif !r9.2.2.1 then some ((),{},2,()) else ru ⟨z5.2.1.1.jp,Qf z5.2.2.2.1.toNat z5.2.2.1,r9.2.1⟩ 0 else none else ru ⟨z5.2.1.1.jp,Qf z5.2.2.2.1.toNat z5.2.2.1,r7.2.1⟩ 0 else none else none else none else none else none else (Zei false).bind λr10=>bif decide ((a0.length:Int) < (r10.2.1.length:Int)) then some ((),{},2,()) else bif decide (0<=(r10.2.1.length:Int))&&decide ((r10.2.1.length:Int)<=(a0.length:Int)) then bif !(decide (Qf (r10.2.1.length:Int).toNat a0=r10.2.1)) then some ((),{},2,()) else bif decide (0<=(r10.2.1.length:Int))&&decide ((r10.2.1.length:Int)<=(a0.length:Int)) then let v11:=((Qh (r10.2.1.length:Int).toNat a0).length:Int);let v12:=((Qh (r10.2.1.length:Int).toNat a0).length:Int);(Zaw_L0 (({},()),({},()),Qh (r10.2.1.length:Int).toNat a0,v11,Qa .i64 (v12 - 1),())).bind λz13=>bif decide (0<=z13.2.2.2.1)&&decide (z13.2.2.2.1<=z13.2.2.1.length) then (Zcn (Qf z13.2.2.2.1.toNat z13.2.2.1)).bind λr14=>bif !(decide (r14.2.1=0)) then some ((),{},r14.2.1,()) else bif decide (0<=z13.2.2.2.1)&&decide (z13.2.2.2.1<=z13.2.2.1.length) then (Zax z13.2.1.1.jp).bind λr15=>bif decide (z13.2.2.2.1 < z13.2.2.1.length) then bif decide (0<=Qa .i64 (z13.2.2.2.1+1))&&decide (Qa .i64 (z13.2.2.2.1+1)<=z13.2.2.1.length) then let v16:=Qh (Qa .i64 (z13.2.2.2.1+1)).toNat z13.2.2.1;(Zha v16 z13.2.1.1.jp).bind λr17=>bif !r17.2.2.1 then some ((),{},2,()) else ru ⟨z13.2.1.1.jp,Qf z13.2.2.2.1.toNat z13.2.2.1,r17.2.1⟩ 0 else none else ru ⟨z13.2.1.1.jp,Qf z13.2.2.2.1.toNat z13.2.2.1,r15.2.1⟩ 0 else none else none else none else none
def c305:=ct c304 71 [qg] [qad,qa] (u1 Zaw)
def s_Zaw_L0:LSpec T:=⟨[(2,qa7),(4,qa7),(6,qg),(7,qb),(8,qb)],[(.exit 0,[(2,qa7),(4,qa7),(6,qg),(7,qb)])],Zaw_L0,[]⟩
def A_Zaw:Loc2 T:=lcA [(0,s_Zaw_L0)] [] []
theorem Vqb:LO c305 Tryz.f71 0 s_Zaw_L0:=lx o304 A_Zaw dn (λ_=>rfl)
theorem o305:EO c305:=sx o304 A_Zaw Tryz.func71 (dc rfl Vqb dn)
def Zbj_L2b (y0 y1:List UInt8) (y2:Int) (y3:BitVec 64) (y4:Int):Option (((List (UInt8)) × (List UInt8) × Int × (BitVec 64) × Int × Unit)⊕((List (UInt8)) × (List UInt8) × Int × Unit)):=
 bif decide (y4 < 4) then bif decide (y4<=Qa .i64 ((y0.length:Int) - y2)) then let v7:=y3>>>(18#64 - 6#64*Qg 64 y4).toNat&&&63#64;bif decide ((v7+1#64).toNat<=([65,66,67,68,69,70,71,72,73,74,75,76,77,78,79,80,81,82,83,84,85,86,87,88,89,90,97,98,99,100,101,102,103,104,105,106,107,108,109,110,111,112,113,114,115,116,117,118,119,120,121,122,48,49,50,51,52,53,54,55,56,57,45,95]:List UInt8).length) then bif decide (v7.toNat<=(v7+1#64).toNat) then let v8:=Qh v7.toNat (Qf (v7+1#64).toNat ([65,66,67,68,69,70,71,72,73,74,75,76,77,78,79,80,81,82,83,84,85,86,87,88,89,90,97,98,99,100,101,102,103,104,105,106,107,108,109,110,111,112,113,114,115,116,117,118,119,120,121,122,48,49,50,51,52,53,54,55,56,57,45,95]:List UInt8));bif Qd (y1.length+v8.length) 9223372036854775807 then some (Qc (y0,y1++v8,y2,y3,Qa .i64 (y4+1),())) else none else none else none else some (Qb (y0,y1,y2,())) else some (Qb (y0,y1,y2,()))
def Zbj_L2:=Yi5 Zbj_L2b
abbrev Y_Zbj_L0:=((List (UInt8))×(List UInt8)×Int×Unit)
def Zbj_L0b (y0 y1:List UInt8) (y2:Int):Option (Y_Zbj_L0⊕((List UInt8) × Unit)):=
 bif decide (y2 < y0.length) then (getI y0 y2).bind λx1=>(bif decide (Qa .i64 (y2+1) < y0.length) then (getI y0 (Qa .i64 (y2+1))).bind λx2=>let v3:=Qj 64 x1.toBitVec <<< 16 ||| Qj 64 x2.toBitVec <<< 8;some (y0,y1,y2,v3,()) else some (y0,y1,y2,Qj 64 x1.toBitVec <<< 16,())).bind λj4=>(bif decide (Qa .i64 (j4.2.2.1+2) < j4.1.length) then (getI j4.1 (Qa .i64 (j4.2.2.1+2))).bind λx5=>some (j4.1,j4.2.1,j4.2.2.1,j4.2.2.2.1 ||| Qj 64 x5.toBitVec,()) else some (j4.1,j4.2.1,j4.2.2.1,j4.2.2.2.1,())).bind λj6=>(Zbj_L2 (j6.1,j6.2.1,j6.2.2.1,j6.2.2.2.1,0,())).bind λz7=>some (Qc (z7.1,z7.2.1,Qa .i64 (z7.2.2.1+3),())) else some (Qb (y1,()))
def Zbj_L0:=Yi3 Zbj_L0b
def Zbj (a0:List UInt8):O1 (List UInt8):=
 (Zbj_L0 (a0,[],0,())).bind λz8=>rt z8.1
def c306:=ct c305 72 [qe] [qs] (u1 Zbj)
def s_Zbj_L2:LSpec T:=⟨[(0,qe),(3,qg),(4,qb),(5,qf),(6,qb)],[(.exit 2,[(0,qe),(3,qg),(4,qb)])],Zbj_L2,[]⟩
def s_Zbj_L0:LSpec T:=⟨[(0,qe),(3,qg),(4,qb)],[(.exit 0,[(3,qg)])],Zbj_L0,[]⟩
def A_Zbj:Loc2 T:=lcA [(2,s_Zbj_L2),(0,s_Zbj_L0)] [(8,[(0,qe),(3,qg),(4,qb),(5,qf)],true),(10,[(0,qe),(3,qg),(4,qb),(5,qf)],true)] []
theorem Vkk:LO c306 Tryz.f72 2 s_Zbj_L2:=lx o305 A_Zbj dn (λ_=>rfl)
theorem Vqc:LO c306 Tryz.f72 0 s_Zbj_L0:=lx o305 A_Zbj (dc rfl Vkk dn) (λ_=>rfl)
theorem o306:EO c306:=sx o305 A_Zbj Tryz.func72 (dc rfl Vkk (dc rfl Vqc dn))
def Zbk (a0:Jae):O2 (List UInt8) Int:=
 (Zej a0.kind).bind λr1=>bif decide (r1.2.1=([]:List UInt8)) then ru [] 3 else bif decide ((a0.jt.length:Int) < 1) then ru [] 9 else bif decide (64 < (a0.jt.length:Int)) then ru [] 9 else (Zaw a0.jau).bind λr2=>bif !(decide (r2.2.2.1=0)) then ru [] r2.2.2.1 else (Zej a0.kind).bind λr3=>bif Qd (([123,34,116,121,112,101,34,58,34]:List UInt8).length+r3.2.1.length) 9223372036854775807 then let v4:=([123,34,116,121,112,101,34,58,34]:List UInt8)++r3.2.1;bif Qd (v4.length+([34,44,34,99,104,97,108,108,101,110,103,101,34,58,34]:List UInt8).length) 9223372036854775807 then let v5:=v4++[34,44,34,99,104,97,108,108,101,110,103,101,34,58,34];(Zbj a0.jt).bind λr6=>bif Qd (v5.length+r6.2.1.length) 9223372036854775807 then bif Qd ((v5++r6.2.1).length+([34,44,34,111,114,105,103,105,110,34,58,34]:List UInt8).length) 9223372036854775807 then let v7:=v5++r6.2.1++[34,44,34,111,114,105,103,105,110,34,58,34];bif Qd (v7.length+a0.jau.length) 9223372036854775807 then bif Qd ((v7++a0.jau).length+([34,44,34,99,114,111,115,115,79,114,105,103,105,110,34,58]:List UInt8).length) 9223372036854775807 then let v8:=v7++a0.jau++[34,44,34,99,114,111,115,115,79,114,105,103,105,110,34,58];bif !a0.jbz then bif !(decide (a0.top=([]:List UInt8))) then ru [] 4 else bif Qd (v8.length+([102,97,108,115,101,125]:List UInt8).length) 9223372036854775807 then ru (v8++[102,97,108,115,101,125]) 0 else none else (Zaw a0.top).bind λr9=>bif !(decide (r9.2.2.1=0)) then ru [] r9.2.2.1 else bif Qd (v8.length+([116,114,117,101,44,34,116,111,112,79,114,105,103,105,110,34,58,34]:List UInt8).length) 9223372036854775807 then let v10:=v8++[116,114,117,101,44,34,116,111,112,79,114,105,103,105,110,34,58,34];bif Qd (v10.length+a0.top.length) 9223372036854775807 then bif Qd ((v10++a0.top).length+([34,125]:List UInt8).length) 9223372036854775807 then ru (v10++a0.top++[34,125]) 0 else none else none else none else none else none else none else none else none else none
def c307:=ct c306 36 [(.f (.v (.agg 23)))] [qs,qa] (u1 Zbk)
theorem o307:EO c307:=sz o306 Tryz.func36
def Zgy_L0b (y0 y1:List (List UInt8)) (y2:Int):Option (((List (List UInt8)) × (List (List UInt8)) × Int × Unit)⊕((Bool × Unit) ⊕ (Unit))):=
 bif decide (y2 < y1.length) then let v1:=Qa .i64 ((y0.length:Int) - (y1.length:Int));(getI y0 (Qa .i64 (v1+y2))).bind λx2=>(getI y1 y2).bind λx3=>bif !(decide (x2=x3)) then some (Qb (Qc (false,()))) else some (Qc (y0,y1,Qa .i64 (y2+1),())) else some (Qb (Qb ()))
def Zgy_L0:=Yi3 Zgy_L0b
def Zgy (a0 a1:List (List UInt8)):O1 Bool:=
 bif decide ((a0.length:Int) < (a1.length:Int)) then rt false else (Zgy_L0 (a0,a1,0,())).bind (Qk (λz4=>rt z4.1) (λz5=>rt true))
def c308:=ct c307 127 [qy,qy] [qd] (u2 Zgy)
def s_Zgy_L0:LSpec T:=⟨[(0,qy),(1,qy),(5,qb)],[(.ret,[(4,qm)]),(.exit 0,[])],Zgy_L0,[]⟩
def A_Zgy:Loc2 T:=lcA [(0,s_Zgy_L0)] [] []
theorem Vqd:LO c308 Tryz.f127 0 s_Zgy_L0:=lx o307 A_Zgy dn (λ_=>rfl)
theorem o308:EO c308:=sx o307 A_Zgy Tryz.func127 (dc rfl Vqd dn)
def Zeh (a0 a1:List UInt8):O1 Bool:=
 (Zcn a0).bind λr1=>bif decide (r1.2.1=0) then (Zcn a1).bind λr2=>bif decide (r2.2.1=0) then (Zfn a0 46).bind λr3=>(Zfn a1 46).bind λr4=>(Zgy r3.2.1 r4.2.1).bind λr5=>rt r5.2.1 else rt false else rt false
def c309:=ct c308 73 [qg,qg] [qd] (u2 Zeh)
theorem o309:EO c309:=sz o308 Tryz.func73
def Zef (a0:List UInt8):O1 (List (List UInt8)):=
 (Zcn a0).bind λr1=>bif !(decide (r1.2.1=0)) then rt [] else (Zfn a0 46).bind λr2=>rt r2.2.1
def c310:=cf c309 74 [qg] [(.own 2)] (u1 Zef)
theorem o310:EO c310:=sz o309 Tryz.func74
def Zeg_L0b (y0:List Jc) (y1:List (List UInt8)) (y2 y3 y4:Int):Option (((List (Jc)) × (List (List UInt8)) × Int × Int × Int × Unit)⊕(Int × Int × Unit)):=
 bif decide (y4 < y0.length) then bif decide (y4 < 64) then (getI y0 y4).bind λx2=>(Zbl x2).bind λr3=>bif !(decide (r3.2.2.1=0)) then some (Qc (y0,y1,y2,y3,Qa .i64 (y4+1),())) else (Zgy y1 x2.jd).bind λr4=>bif !r4.2.1 then some (Qc (y0,y1,y2,y3,Qa .i64 (y4+1),())) else bif x2.jaj then bif decide ((y1.length:Int)=(x2.jd.length:Int)) then some (Qc (y0,y1,y2,y3,Qa .i64 (y4+1),())) else (bif x2.jaj then some (y0,y1,y2,y3,y4,(x2,()),Qa .i64 ((x2.jd.length:Int)+1),()) else some (y0,y1,y2,y3,y4,(x2,()),(x2.jd.length:Int),())).bind λj5=>bif j5.2.2.2.2.2.1.1.jv then let v6:Int:=bif decide (j5.2.2.2.1 < j5.2.2.2.2.2.2.1) then j5.2.2.2.2.2.2.1 else j5.2.2.2.1;some (Qc (j5.1,j5.2.1,j5.2.2.1,v6,Qa .i64 (j5.2.2.2.2.1+1),())) else let v7:Int:=bif decide (j5.2.2.1 < j5.2.2.2.2.2.2.1) then j5.2.2.2.2.2.2.1 else j5.2.2.1;some (Qc (j5.1,j5.2.1,v7,j5.2.2.2.1,Qa .i64 (j5.2.2.2.2.1+1),())) else (bif x2.jaj then some (y0,y1,y2,y3,y4,(x2,()),Qa .i64 ((x2.jd.length:Int)+1),()) else some (y0,y1,y2,y3,y4,(x2,()),(x2.jd.length:Int),())).bind λj8=>bif j8.2.2.2.2.2.1.1.jv then let v9:Int:=bif decide (j8.2.2.2.1 < j8.2.2.2.2.2.2.1) then j8.2.2.2.2.2.2.1 else j8.2.2.2.1;some (Qc (j8.1,j8.2.1,j8.2.2.1,v9,Qa .i64 (j8.2.2.2.2.1+1),())) else let v10:Int:=bif decide (j8.2.2.1 < j8.2.2.2.2.2.2.1) then j8.2.2.2.2.2.2.1 else j8.2.2.1;some (Qc (j8.1,j8.2.1,v10,j8.2.2.2.1,Qa .i64 (j8.2.2.2.2.1+1),())) else some (Qb (y2,y3,())) else some (Qb (y2,y3,()))
def Zeg_L0:=Yi5 Zeg_L0b
def Zeg (a0:List Jc) (a1:List UInt8):O1 Int:=
 (Zef a1).bind λr1=>bif decide ((r1.2.1.length:Int)=0) then rt 0 else (Zeg_L0 (a0,r1.2.1,1,0,0,())).bind λz11=>bif decide (0 < z11.2.1) then rt (Qa .i64 (z11.2.1 - 1)) else rt z11.1
def c311:=ct c310 75 [qah,qg] [qa] (u2 Zeg)
def s_Zeg_L0:LSpec T:=⟨[(0,qah),(5,qbm),(6,qb),(7,qb),(8,qb)],[(.exit 0,[(6,qb),(7,qb)])],Zeg_L0,[]⟩
def A_Zeg:Loc2 T:=lcA [(0,s_Zeg_L0)] [(14,[(0,qah),(5,qbm),(6,qb),(7,qb),(8,qb),(9,qb6),(12,qb)],true)] []
theorem Vqe:LO c311 Tryz.f75 0 s_Zeg_L0:=lx o310 A_Zeg dn (λ_=>rfl)
theorem o311:EO c311:=sx o310 A_Zeg Tryz.func75 (dc rfl Vqe dn)
def Zdd (a0:List Jc) (a1:Jf) (a2:List UInt8):O1 Int:=
 (Zcn a1.ju).bind λr1=>bif !(decide (r1.2.1=0)) then rt r1.2.1 else (Zcn a2).bind λr2=>bif !(decide (r2.2.1=0)) then rt r2.2.1 else bif decide (a2=([108,111,99,97,108,104,111,115,116]:List UInt8)) then bif decide (a1.ju=([108,111,99,97,108,104,111,115,116]:List UInt8)) then rt 0 else bif a1.jp then (Zeh a1.ju a2).bind λr3=>bif r3.2.1 then (Zef a2).bind λr4=>(Zeg a0 a1.ju).bind λr5=>bif decide (r5.2.1 < r4.2.1.length) then rt 0 else rt 34 else rt 34 else rt 34 else bif a1.jp then (Zeh a1.ju a2).bind λr6=>bif r6.2.1 then (Zef a2).bind λr7=>(Zeg a0 a1.ju).bind λr8=>bif decide (r8.2.1 < r7.2.1.length) then rt 0 else rt 34 else rt 34 else rt 34
def c312:=ct c311 37 [qah,(.f qad),qg] [qa] (u3 Zdd)
theorem o312:EO c312:=sx o311 (lcA [] [] [7]) Tryz.func37 dn
def Zby (a0:Jb×List Je×Jp×Unit):Option (((Jb×List Je×Jp×Unit)×Unit)×BitVec 64×Unit):=
 let v1:=Qa .i64 (Qa .i64 (a0.1.jaa+1) - 1);(Zfd a0.1.jak [99,108,105,101,110,116] v1).bind λr2=>some ((({a0.1 with jaa:=Qa .i64 (a0.1.jaa+1)},a0.2.1,a0.2.2.1,()),()),r2.2.1,())
def c313:=cf c312 38 [(.ptr [ql,qax,qab])] [qu] (u1 Zby)
theorem o313:EO c313:=sz o312 Tryz.func38
def Zfh (a0:BitVec 32):O1 Jaj:=
 rt ⟨a0,0,-1,[],0⟩
def c314:=cf c313 39 [qal] [qbk] (u1 Zfh)
theorem o314:EO c314:=sz o313 Tryz.func39
def Zbz (a0:Jb×List Je×Jp×Unit) (a1:Int) (a2:List UInt8):Option (((Jb×List Je×Jp×Unit)×Unit)×Unit):=
 (Zfi a0.1.ji.je a1 a2).bind λr1=>bif small (a0.2.1.length+(r1.2.1:List Je).length) 56 then some (((a0.1,a0.2.1++r1.2.1,a0.2.2.1,()),()),()) else none
def c315:=cf c314 40 [(.ptr [ql,qax,qab]),qb,qe] [] (u3 Zbz)
theorem o315:EO c315:=sz o314 Tryz.func40
def Zfo (a0:Jb) (a1:Int) (a2:Jf) (a3:Bool) (a4:List UInt8) (a5:Jr):Option (Unit×Jb×List Je×Jp×Unit):=
 bif !(decide (a0.jy=0)) then some ((),a0,[],⟨true,32,{}⟩,()) else bif decide (a1 < 0) then some ((),a0,[],⟨true,9,{}⟩,()) else bif decide (1099511627776 < a1) then some ((),a0,[],⟨true,9,{}⟩,()) else (Zal a2).bind λr1=>bif !(decide (r1.2.2.1=0)) then some ((),a0,[],⟨true,r1.2.2.1,{}⟩,()) else (Zbk ⟨a5.kind,a5.jt,r1.2.1,a3,a4⟩).bind λr2=>bif !(decide (r2.2.2.1=0)) then some ((),a0,[],⟨true,r2.2.2.1,{}⟩,()) else (Zdd a0.jah a2 a5.rP).bind λr3=>bif !(decide (r3.2.1=0)) then some ((),a0,[],⟨true,r3.2.1,{}⟩,()) else bif decide (a5.jo < 0) then some ((),a0,[],⟨true,9,{}⟩,()) else bif decide (2 < a5.jo) then some ((),a0,[],⟨true,9,{}⟩,()) else (Zby ({a0 with jy:=1,js:=a5,data:=r2.2.1,jam:=a1},[],{},())).bind λr4=>(Zfh 4294967295#32).bind λr5=>(passkeyref1_WordsF [r4.2.1]).bind λr6=>(Zbz ({r4.1.1.1 with ji:=r5.2.1,jbw:=r4.2.1},r4.1.1.2.1,r4.1.1.2.2.1,()) 6 r6.2.1).bind λr7=>some ((),r7.1.1.1,r7.1.1.2.1,r7.1.1.2.2.1,())
def c316:=cf c315 14 qbh [ql,qax,qab] λx=>Zfo x.1 x.2.1 x.2.2.1 x.2.2.2.1 x.2.2.2.2.1 x.2.2.2.2.2.1
theorem o316:EO c316:=sx o315 (lcA [] [] [21]) Tryz.func14 dn
def Zbw_L0b (y0 y1:List (List UInt8)) (y2:Int):Option (((List (List UInt8)) × (List (List UInt8)) × Int × Unit)⊕((Bool × Unit) ⊕ (Unit))):=
 bif decide (y2 < y0.length) then (getI y0 y2).bind λx1=>(getI y1 y2).bind λx2=>bif !(decide (x1=x2)) then some (Qb (Qc (false,()))) else some (Qc (y0,y1,Qa .i64 (y2+1),())) else some (Qb (Qb ()))
def Zbw_L0:=Yi3 Zbw_L0b
def Zbw (a0 a1:List (List UInt8)):O1 Bool:=
 bif !(decide ((a0.length:Int)=(a1.length:Int))) then rt false else (Zbw_L0 (a0,a1,0,())).bind (Qk (λz3=>rt z3.1) (λz4=>rt true))
def c317:=ct c316 128 [qy,qy] [qd] (u2 Zbw)
def s_Zbw_L0:LSpec T:=⟨[(0,qy),(1,qy),(5,qb)],[(.ret,[(4,qm)]),(.exit 0,[])],Zbw_L0,[]⟩
def A_Zbw:Loc2 T:=lcA [(0,s_Zbw_L0)] [] []
theorem Vqf:LO c317 Tryz.f128 0 s_Zbw_L0:=lx o316 A_Zbw dn (λ_=>rfl)
theorem o317:EO c317:=sx o316 A_Zbw Tryz.func128 (dc rfl Vqf dn)
def Zcm (a0 a1:Jc):O1 Bool:=
 (Zbw a0.jd a1.jd).bind λr1=>bif r1.2.1 then bif a0.jaj==a1.jaj then rt (a0.jv==a1.jv) else rt false else rt false
def c318:=ct c317 78 [(.f qaz),(.f qaz)] [qd] (u2 Zcm)
theorem o318:EO c318:=sz o317 Tryz.func78
def Zbx_L0b (y0 y1:List Jc) (y2:Int):Option (((List (Jc)) × (List (Jc)) × Int × Unit)⊕((Bool × Unit) ⊕ (Unit))):=
 bif decide (y2 < y0.length) then (getI y0 y2).bind λx1=>(getI y1 y2).bind λx2=>(Zcm x1 x2).bind λr3=>bif !r3.2.1 then some (Qb (Qc (false,()))) else some (Qc (y0,y1,Qa .i64 (y2+1),())) else some (Qb (Qb ()))
def Zbx_L0:=Yi3 Zbx_L0b
def Zbx (a0 a1:List Jc):O1 Bool:=
 bif !(decide ((a0.length:Int)=(a1.length:Int))) then rt false else (Zbx_L0 (a0,a1,0,())).bind (Qk (λz4=>rt z4.1) (λz5=>rt true))
def c319:=ct c318 42 [qah,qah] [qd] (u2 Zbx)
def s_Zbx_L0:LSpec T:=⟨[(0,qah),(1,qah),(5,qb)],[(.ret,[(4,qm)]),(.exit 0,[])],Zbx_L0,[]⟩
def A_Zbx:Loc2 T:=lcA [(0,s_Zbx_L0)] [] []
theorem Vqg:LO c319 Tryz.f42 0 s_Zbx_L0:=lx o318 A_Zbx dn (λ_=>rfl)
theorem o319:EO c319:=sx o318 A_Zbx Tryz.func42 (dc rfl Vqg dn)
def Zcl (a0 a1:Jaj):O1 Bool:=
 bif decide (a0.je=a1.je) then bif decide (a0.jf=a1.jf) then bif decide (a0.length=a1.length) then bif decide (a0.data=a1.data) then rt (decide (a0.seq=a1.seq)) else rt false else rt false else rt false else rt false
def c320:=ct c319 43 [(.f qbk),(.f qbk)] [qd] (u2 Zcl)
theorem o320:EO c320:=sz o319 Tryz.func43
def Zco_L0b (y0 y1:List (List UInt8)) (y2:Int):Option (((List (List UInt8)) × (List (List UInt8)) × Int × Unit)⊕((Bool × Unit) ⊕ (Unit))):=
 bif decide (y2 < y0.length) then (getI y0 y2).bind λx1=>(getI y1 y2).bind λx2=>bif !(decide (x1=x2)) then some (Qb (Qc (false,()))) else some (Qc (y0,y1,Qa .i64 (y2+1),())) else some (Qb (Qb ()))
def Zco_L0:=Yi3 Zco_L0b
def Zco (a0 a1:List (List UInt8)):O1 Bool:=
 bif !(decide ((a0.length:Int)=(a1.length:Int))) then rt false else (Zco_L0 (a0,a1,0,())).bind (Qk (λz3=>rt z3.1) (λz4=>rt true))
def c321:=ct c320 79 [qa3,qa3] [qd] (u2 Zco)
def s_Zco_L0:LSpec T:=⟨[(0,qa3),(1,qa3),(5,qb)],[(.ret,[(4,qm)]),(.exit 0,[])],Zco_L0,[]⟩
def A_Zco:Loc2 T:=lcA [(0,s_Zco_L0)] [] []
theorem Vqh:LO c321 Tryz.f79 0 s_Zco_L0:=lx o320 A_Zco dn (λ_=>rfl)
theorem o321:EO c321:=sx o320 A_Zco Tryz.func79 (dc rfl Vqh dn)
def Zay (a0 a1:Jr):O1 Bool:=
 bif decide (a0.kind=a1.kind) then bif decide (a0.rP=a1.rP) then bif decide (a0.jt=a1.jt) then bif decide (a0.user=a1.user) then bif decide (a0.name=a1.name) then (Zco a0.list a1.list).bind λr1=>bif r1.2.1 then bif decide (a0.jr=a1.jr) then bif decide (a0.jag=a1.jag) then bif a0.jw==a1.jw then bif decide (a0.jo=a1.jo) then bif a0.jal==a1.jal then rt (decide (a0.jm=a1.jm)) else rt false else rt false else rt false else rt false else rt false else rt false else rt false else rt false else rt false else rt false else rt false
def c322:=ct c321 44 [(.f qap),(.f qap)] [qd] (u2 Zay)
theorem o322:EO c322:=sz o321 Tryz.func44
def Zbm (a0 a1:Jb):O1 Bool:=
 (Zbx a0.jah a1.jah).bind λr1=>bif r1.2.1 then bif decide (a0.jak=a1.jak) then bif decide (a0.jaa=a1.jaa) then bif decide (a0.jy=a1.jy) then (Zcl a0.ji a1.ji).bind λr2=>bif r2.2.1 then (Zay a0.js a1.js).bind λr3=>bif r3.2.1 then bif decide (a0.data=a1.data) then bif a0.jo==a1.jo then bif decide (a0.jbw=a1.jbw) then bif decide (a0.jbc=a1.jbc) then bif decide (a0.pin=a1.pin) then bif decide (a0.jac=a1.jac) then bif a0.jbu==a1.jbu then rt (decide (a0.jam=a1.jam)) else rt false else rt false else rt false else rt false else rt false else rt false else rt false else rt false else rt false else rt false else rt false else rt false else rt false
def c323:=ct c322 15 [qb4,qb4] [qd] (u2 Zbm)
theorem o323:EO c323:=sz o322 Tryz.func15
def Zbi (a0 a1:Je):O1 Bool:=
 bif decide (a0.je=a1.je) then bif a0.first==a1.first then bif decide (a0.jf=a1.jf) then bif decide (a0.length=a1.length) then bif decide (a0.seq=a1.seq) then rt (decide (a0.data=a1.data)) else rt false else rt false else rt false else rt false else rt false
def c324:=ct c323 45 [qbt,qbt] [qd] (u2 Zbi)
theorem o324:EO c324:=sz o323 Tryz.func45
def Zav_L0b (y0 y1:List Je) (y2:Int):Option (((List (Je)) × (List (Je)) × Int × Unit)⊕((Bool × Unit) ⊕ (Unit))):=
 bif decide (y2 < y0.length) then (getI y0 y2).bind λx1=>(getI y1 y2).bind λx2=>(Zbi x1 x2).bind λr3=>bif !r3.2.1 then some (Qb (Qc (false,()))) else some (Qc (y0,y1,Qa .i64 (y2+1),())) else some (Qb (Qb ()))
def Zav_L0:=Yi3 Zav_L0b
def Zav (a0 a1:List Je):O1 Bool:=
 bif !(decide ((a0.length:Int)=(a1.length:Int))) then rt false else (Zav_L0 (a0,a1,0,())).bind (Qk (λz4=>rt z4.1) (λz5=>rt true))
def c325:=ct c324 16 [qa8,qa8] [qd] (u2 Zav)
def s_Zav_L0:LSpec T:=⟨[(0,qa8),(1,qa8),(5,qb)],[(.ret,[(4,qm)]),(.exit 0,[])],Zav_L0,[]⟩
def A_Zav:Loc2 T:=lcA [(0,s_Zav_L0)] [] []
theorem Vqi:LO c325 Tryz.f16 0 s_Zav_L0:=lx o324 A_Zav dn (λ_=>rfl)
theorem o325:EO c325:=sx o324 A_Zav Tryz.func16 (dc rfl Vqi dn)
def Zam (a0 a1:Jah):O1 Bool:=
 bif decide (a0.kind=a1.kind) then bif decide (a0.jaw=a1.jaw) then bif decide (a0.jaf=a1.jaf) then bif decide (a0.jab=a1.jab) then (Zco a0.jh a1.jh).bind λr1=>bif r1.2.1 then bif decide (a0.jm=a1.jm) then bif decide (a0.iD=a1.iD) then rt (decide (a0.user=a1.user)) else rt false else rt false else rt false else rt false else rt false else rt false else rt false
def c326:=ct c325 46 [(.f (.v (.agg 47))),(.f (.v (.agg 47)))] [qd] (u2 Zam)
theorem o326:EO c326:=sz o325 Tryz.func46
def Zbn (a0 a1:Jp):O1 Bool:=
 bif a0.done==a1.done then bif decide (a0.err=a1.err) then (Zam a0.jad a1.jad).bind λr1=>rt r1.2.1 else rt false else rt false
def c327:=ct c326 17 [(.f qab),(.f qab)] [qd] (u2 Zbn)
theorem o327:EO c327:=sz o326 Tryz.func17
def Zaj_L0b (y0:Int) (y1:Bool) (y2:List UInt8) (y3:Jf×Unit) (y4:Jr×Unit) (y5:Jl×Unit) (y6 y7:Jb×Unit) (y8:Int):Option ((Int × Bool × (List UInt8) × (Jf × Unit) × (Jr × Unit) × (Jl × Unit) × (Jb × Unit) × (Jb × Unit) × Int × Unit)⊕((Bool × Unit) ⊕ (Unit))):=
 bif decide (y8 < 4) then (bif decide (0 < y8) then (Zcg (y5.1,()) 8192).bind λr11=>(Zet r11.2.1).bind λr12=>(Zap (r11.1.1.1,())).bind λr13=>(Zcg (r13.1.1.1,()) 50).bind λr14=>(Zcg (r14.1.1.1,()) 4).bind λr15=>bif decide (r15.2.1=3) then (Zcg (r15.1.1.1,()) 6).bind λr16=>(Zbs r16.2.1).bind λr17=>some (y0,y1,y2,(y3.1,()),(y4.1,()),(r16.1.1.1,()),(y6.1,()),(y7.1,()),y8,(r12.2.1,()),(r13.2.1,()),decide (r15.2.1=3),r17.2.1,r14.2.1,()) else some (y0,y1,y2,(y3.1,()),(y4.1,()),(r15.1.1.1,()),(y6.1,()),(y7.1,()),y8,(r12.2.1,()),(r13.2.1,()),decide (r15.2.1=3),([]:List UInt8),r14.2.1,()) else some (y0,y1,y2,(y3.1,()),(y4.1,()),(y5.1,()),(y6.1,()),(y7.1,()),y8,(y3.1,()),(y4.1,()),y1,y2,y0,())).bind λj18=>(bif decide (1 < j18.2.2.2.2.2.2.2.2.1) then bif Qd (([120,46]:List UInt8).length+j18.2.2.2.2.2.2.2.2.2.2.1.1.rP.length) 9223372036854775807 then some (j18.1,j18.2.1,j18.2.2.1,(j18.2.2.2.1.1,()),(j18.2.2.2.2.1.1,()),(j18.2.2.2.2.2.1.1,()),(j18.2.2.2.2.2.2.1.1,()),(j18.2.2.2.2.2.2.2.1.1,()),j18.2.2.2.2.2.2.2.2.1,((⟨true,([120,46]:List UInt8)++j18.2.2.2.2.2.2.2.2.2.2.1.1.rP,443⟩:Jf),()),(j18.2.2.2.2.2.2.2.2.2.2.1.1,()),j18.2.2.2.2.2.2.2.2.2.2.2.1,j18.2.2.2.2.2.2.2.2.2.2.2.2.1,j18.2.2.2.2.2.2.2.2.2.2.2.2.2.1,()) else none else some (j18.1,j18.2.1,j18.2.2.1,(j18.2.2.2.1.1,()),(j18.2.2.2.2.1.1,()),(j18.2.2.2.2.2.1.1,()),(j18.2.2.2.2.2.2.1.1,()),(j18.2.2.2.2.2.2.2.1.1,()),j18.2.2.2.2.2.2.2.2.1,(j18.2.2.2.2.2.2.2.2.2.1.1,()),(j18.2.2.2.2.2.2.2.2.2.2.1.1,()),j18.2.2.2.2.2.2.2.2.2.2.2.1,j18.2.2.2.2.2.2.2.2.2.2.2.2.1,j18.2.2.2.2.2.2.2.2.2.2.2.2.2.1,())).bind λj19=>(Zks j19.2.2.2.2.2.2.1.1 j19.2.2.2.2.2.2.2.2.2.2.2.2.2.1 j19.2.2.2.2.2.2.2.2.2.1.1 j19.2.2.2.2.2.2.2.2.2.2.2.1 j19.2.2.2.2.2.2.2.2.2.2.2.2.1 j19.2.2.2.2.2.2.2.2.2.2.1.1).bind λr20=>(Zfo j19.2.2.2.2.2.2.2.1.1 j19.2.2.2.2.2.2.2.2.2.2.2.2.2.1 j19.2.2.2.2.2.2.2.2.2.1.1 j19.2.2.2.2.2.2.2.2.2.2.2.1 j19.2.2.2.2.2.2.2.2.2.2.2.2.1 j19.2.2.2.2.2.2.2.2.2.2.1.1).bind λr21=>(Zbm r20.2.1 r21.2.1).bind λr22=>bif !r22.2.1 then some (Qb (Qc (false,()))) else (Zav r20.2.2.1 r21.2.2.1).bind λr23=>bif !r23.2.1 then some (Qb (Qc (false,()))) else (Zbn r20.2.2.2.1 r21.2.2.2.1).bind λr24=>bif !r24.2.1 then some (Qb (Qc (false,()))) else some (Qc (j19.1,j19.2.1,j19.2.2.1,(j19.2.2.2.1.1,()),(j19.2.2.2.2.1.1,()),(j19.2.2.2.2.2.1.1,()),(r20.2.1,()),(r21.2.1,()),Qa .i64 (j19.2.2.2.2.2.2.2.2.1+1),())) else some (Qb (Qb ()))
def Zaj_L0:=Yi9 Zaj_L0b
def Zaj (a0:BitVec 64) (a1:Int) (a2:Jf) (a3:Bool) (a4:List UInt8) (a5:Jr) (a6:List Int):O1 Bool:=
 bif decide (200 < (a2.ju.length:Int)) then Zeu.bind λr1=>rt r1.2.1 else bif decide (200 < (a4.length:Int)) then Zeu.bind λr2=>rt r2.2.1 else bif decide (200 < (a5.rP.length:Int)) then Zeu.bind λr3=>rt r3.2.1 else bif decide (100 < (a5.jt.length:Int)) then Zeu.bind λr4=>rt r4.2.1 else bif decide (10 < (a5.list.length:Int)) then Zeu.bind λr5=>rt r5.2.1 else (Zji a6).bind λr6=>(Zcg (r6.2.1,()) 256).bind λr7=>(Zgg r7.2.1).bind λr8=>(Zlz a0 r8.2.1).bind λr9=>(Zii a0 r8.2.1).bind λr10=>bif !(decide (r9.2.2.1=r10.2.2.1)) then rt false else (Zaj_L0 (a1,a3,a4,(a2,()),(a5,()),(r7.1.1.1,()),(r9.2.1,()),(r10.2.1,()),0,())).bind (Qk (λz25=>rt z25.1) (λz26=>Zeu.bind λr27=>rt r27.2.1))
def S_Zaj:FSpec T:=⟨[.f (.v .u64),.f (.v (.int .i64)),.f (.v (.agg 9)),.f (.v .bool),.f (.v .str),.f (.v (.agg 10)),.f (.v (.rs 11))],[(.v .bool)],λx=>Zaj x.1 x.2.1 x.2.2.1 x.2.2.2.1 x.2.2.2.2.1 x.2.2.2.2.2.1 x.2.2.2.2.2.2.1⟩
def s_Zaj_L0:LSpec T:=⟨[(1,qb),(3,qm),(4,qg),(9,qa7),(12,qbx),(15,qaw),(17,qav),(19,qav),(21,qb)],[(.ret,[(14,qm)]),(.exit 0,[])],Zaj_L0,[]⟩
def A_Zaj:Loc2 T:=lcA [(0,s_Zaj_L0)] [(21,[(1,qb),(3,qm),(4,qg),(9,qa7),(12,qbx),(15,qaw),(17,qav),(19,qav),(21,qb),(22,qa7),(23,qbx),(24,qm),(25,qg),(26,qb)],true),(23,[(1,qb),(3,qm),(4,qg),(9,qa7),(12,qbx),(15,qaw),(17,qav),(19,qav),(21,qb),(22,qa7),(23,qbx),(24,qm),(25,qg),(26,qb)],true)] [12]
theorem Vqj:LoopOk Tryz.prog (mE c327) Tryz.f3.ntmps (kqOf S_Zaj.ps 0) (loopAt 0 (bodyOf Tryz.f3)) s_Zaj_L0:=
 lpC hmix o327 A_Zaj Vaa 0 (st:=λy=>Zaj_L0b y.1 y.2.1 y.2.2.1 y.2.2.2.1 y.2.2.2.2.1 y.2.2.2.2.2.1 y.2.2.2.2.2.2.1 y.2.2.2.2.2.2.2.1 y.2.2.2.2.2.2.2.2.1) (λ_=>rfl) (by kernel_rfl) (by kernel_rfl) λx=>by kernel_rfl
theorem Vbsa:SoundT Tryz.prog cd gdn 3 S_Zaj:=
 sndC hmix o327 A_Zaj Tryz.func3 (Vah rfl Vqj Vaa) (by kernel_rfl) (by kernel_rfl) λx=>by kernel_rfl
def ClientBegins_dom (a0:(BitVec 64)) (a1:Int) (a2:Jf) (a3:Bool) (a4:(List UInt8)) (a5:Jr) (a6:(List (Int))):Prop:=ArgD cd [.u64,(.int .i64),(.agg 9),.bool,.str,(.agg 10),(.rs 11)] (a0,a1,a2,a3,a4,a5,a6,())
end Go.Proofs.YtaddhgkhilmniaaGreatDoor

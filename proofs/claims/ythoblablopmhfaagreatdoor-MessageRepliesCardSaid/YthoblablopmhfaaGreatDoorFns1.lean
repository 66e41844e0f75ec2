/- The functions of the program, as plain functions, and that the program computes them. Written by a program. -/
import Derived.Test.YthoblablopmhfaaGreatDoorFns0
set_option linter.unusedVariables false
set_option maxRecDepth 100000
namespace Go.Proofs.YthoblablopmhfaaGreatDoor
open Go Go.Abs
def Zbf (a0:((List (CborFrame))×Int×(List (UInt8))×Int×Unit)) (a1:ApiItem):Option (Ydq×(Int×Unit)):=
 (bif (decide (a1.kind=(4:Int))) then ((Zck a1.data).bind fun r1=>(bif (!r1.2.1) then (some (((a0.1,a0.2.1,a0.2.2.1,a0.2.2.2.1,()),()),((6:Int),())))
 else ((Zco (⟨a0.1,a0.2.1⟩:CborWalk)).bind fun r2=>(bif r2.2.1 then (bif (decide ((0:Int)≤(IntKind.wrap .i64 (((a0.1).length:Int)-(1:Int))))&&decide ((IntKind.wrap .i64 (((a0.1).length:Int)-(1:Int)))<((a0.1).length:Int))) then ((Zcm [] a1).bind fun r3=>(((a0.1)[((IntKind.wrap .i64 (((a0.1).length:Int)-(1:Int)))).toNat]?).bind fun x4=>(bif (!(x4.last_).isEmpty) then (((a0.1)[((IntKind.wrap .i64 (((a0.1).length:Int)-(1:Int)))).toNat]?).bind fun x5=>((Zde x5.last_ r3.2.1).bind fun r6=>(bif (!r6.2.1) then (some (((a0.1,a0.2.1,a0.2.2.1,a0.2.2.2.1,()),()),((7:Int),())))
 else (((a0.1)[((IntKind.wrap .i64 (((a0.1).length:Int)-(1:Int)))).toNat]?).bind fun x7=>(bif (r3.2.1).isEmpty then none
 else (let v8:List (CborFrame):=(List.set a0.1 ((IntKind.wrap .i64 (((a0.1).length:Int)-(1:Int)))).toNat (⟨x7.pairs,x7.left,r3.2.1⟩:CborFrame))
 ((Zcb (v8,a0.2.1,a0.2.2.1,a0.2.2.2.1,()) a1).bind fun r9=>(some (((r9.1.1.1,r9.1.1.2.1,r9.1.1.2.2.1,r9.1.1.2.2.2.1,()),()),((0:Int),()))))))))))
 else (((a0.1)[((IntKind.wrap .i64 (((a0.1).length:Int)-(1:Int)))).toNat]?).bind fun x10=>(bif (r3.2.1).isEmpty then none
 else (let v11:List (CborFrame):=(List.set a0.1 ((IntKind.wrap .i64 (((a0.1).length:Int)-(1:Int)))).toNat (⟨x10.pairs,x10.left,r3.2.1⟩:CborFrame))
 ((Zcb (v11,a0.2.1,a0.2.2.1,a0.2.2.2.1,()) a1).bind fun r12=>(some (((r12.1.1.1,r12.1.1.2.1,r12.1.1.2.2.1,r12.1.1.2.2.2.1,()),()),((0:Int),()))))))))))
 else none)
 else ((Zcb (a0.1,a0.2.1,a0.2.2.1,a0.2.2.2.1,()) a1).bind fun r13=>(some (((r13.1.1.1,r13.1.1.2.1,r13.1.1.2.2.1,r13.1.1.2.2.2.1,()),()),((0:Int),()))))))))
 else ((Zco (⟨a0.1,a0.2.1⟩:CborWalk)).bind fun r14=>(bif r14.2.1 then (bif (decide ((0:Int)≤(IntKind.wrap .i64 (((a0.1).length:Int)-(1:Int))))&&decide ((IntKind.wrap .i64 (((a0.1).length:Int)-(1:Int)))<((a0.1).length:Int))) then ((Zcm [] a1).bind fun r15=>(((a0.1)[((IntKind.wrap .i64 (((a0.1).length:Int)-(1:Int)))).toNat]?).bind fun x16=>(bif (!(x16.last_).isEmpty) then (((a0.1)[((IntKind.wrap .i64 (((a0.1).length:Int)-(1:Int)))).toNat]?).bind fun x17=>((Zde x17.last_ r15.2.1).bind fun r18=>(bif (!r18.2.1) then (some (((a0.1,a0.2.1,a0.2.2.1,a0.2.2.2.1,()),()),((7:Int),())))
 else (((a0.1)[((IntKind.wrap .i64 (((a0.1).length:Int)-(1:Int)))).toNat]?).bind fun x19=>(bif (r15.2.1).isEmpty then none
 else (let v20:List (CborFrame):=(List.set a0.1 ((IntKind.wrap .i64 (((a0.1).length:Int)-(1:Int)))).toNat (⟨x19.pairs,x19.left,r15.2.1⟩:CborFrame))
 ((Zcb (v20,a0.2.1,a0.2.2.1,a0.2.2.2.1,()) a1).bind fun r21=>(some (((r21.1.1.1,r21.1.1.2.1,r21.1.1.2.2.1,r21.1.1.2.2.2.1,()),()),((0:Int),()))))))))))
 else (((a0.1)[((IntKind.wrap .i64 (((a0.1).length:Int)-(1:Int)))).toNat]?).bind fun x22=>(bif (r15.2.1).isEmpty then none
 else (let v23:List (CborFrame):=(List.set a0.1 ((IntKind.wrap .i64 (((a0.1).length:Int)-(1:Int)))).toNat (⟨x22.pairs,x22.left,r15.2.1⟩:CborFrame))
 ((Zcb (v23,a0.2.1,a0.2.2.1,a0.2.2.2.1,()) a1).bind fun r24=>(some (((r24.1.1.1,r24.1.1.2.1,r24.1.1.2.2.1,r24.1.1.2.2.2.1,()),()),((0:Int),()))))))))))
 else none)
 else ((Zcb (a0.1,a0.2.1,a0.2.2.1,a0.2.2.2.1,()) a1).bind fun r25=>(some (((r25.1.1.1,r25.1.1.2.1,r25.1.1.2.2.1,r25.1.1.2.2.2.1,()),()),((0:Int),())))))))
def S_Zbf:FSpec T:=⟨[.ptr [(.own 9),(.v (.int .i64)),(.v (.rs 0)),(.v (.int .i64))],.f (.v (.agg 1))],[(.v (.int .i64))],fun x=>Zbf x.1 x.2.1⟩
def E_Zbf:Env T:=⟨tab.find,cd,globs,flc,fun f ds=>match f with
  | 37=>some S_Zck
  | 81=>some S_Zcm
  | 102=>some S_Zco
  | 103=>some S_Zde
  | 104=>some S_Zcb
  | _=>none,fun f=>match f with
  | 37=>true
  | 102=>true
  | 103=>true
  | _=>false⟩
def A_Zbf:Loc2 T:=⟨fun id=>match id with
  | _=>none,fun r=>match r with
  | _=>none,fun r=>match r with
  | _=>false⟩
theorem Vhea (x:tySs T S_Zbf.ps):run E_Zbf A_Zbf (Tryz.f85.body.getD .skip) (enterT E_Zbf.C S_Zbf.ps x) (retK E_Zbf Tryz.f85.results.toList S_Zbf.ps S_Zbf.rs)=S_Zbf.fn x:=by kernel_rfl
theorem Vcja:EnvOk Tryz.prog E_Zbf:=envOk (E:=E_Zbf) cd_ok tys fl_ok fun f ds S h=>by
  dsimp only [E_Zbf] at h
  split at h
  ·cases h; exact Vjm
  ·cases h; exact Vsq
  ·cases h; exact Vsm
  ·cases h; exact Vzw
  ·cases h; exact Vhda
  ·cases h
theorem Vhfa:SoundT Tryz.prog cd gdn 85 S_Zbf:=
 Vab (E:=E_Zbf) (A:=A_Zbf) (done:=[]) (c:=(Tryz.f85.body.getD .skip)) (S:=S_Zbf) (fn:=Tryz.f85) hmix Vcja Tryz.func85 rfl (by kernel_rfl) (by kernel_rfl) Vaa (by kernel_rfl) (by kernel_rfl) Vhea
def Zbz (a0:((List (CborFrame))×Int×(List (UInt8))×Int×Unit)):Option (Ydq×(ApiItem×Int×Unit)):=
 ((Zby (a0.1,a0.2.1,a0.2.2.1,a0.2.2.2.1,())).bind fun r1=>(bif (!decide (r1.2.2.2.1=(0:Int))) then (some (((r1.1.1.1,r1.1.1.2.1,r1.1.1.2.2.1,r1.1.1.2.2.2.1,()),()),((⟨(0:Int),0#64,([]:List UInt8)⟩:ApiItem),r1.2.2.2.1,())))
 else ((Zcn (⟨r1.1.1.1,r1.1.1.2.1⟩:CborWalk) r1.2.1).bind fun r2=>(bif (!decide (r2.2.1=(0:Int))) then (some (((r1.1.1.1,r1.1.1.2.1,r1.1.1.2.2.1,r1.1.1.2.2.2.1,()),()),((⟨(0:Int),0#64,([]:List UInt8)⟩:ApiItem),r2.2.1,())))
 else ((bif (decide (r1.2.1=(5:Int))) then (bif (decide (r1.2.1=(5:Int))) then (bif (decide ((512#64).toNat<r1.2.2.1.toNat)) then (((some (((r1.1.1.1,r1.1.1.2.1,r1.1.1.2.2.1,r1.1.1.2.2.2.1,()),()),((⟨(0:Int),0#64,([]:List UInt8)⟩:ApiItem),(8:Int),())))).bind fun q=>some (Sum.inr q))
 else (some (Sum.inl ((r1.1.1.1,r1.1.1.2.1,r1.1.1.2.2.1,r1.1.1.2.2.2.1,()),((⟨(0:Int),0#64,([]:List UInt8)⟩:ApiItem),()),((⟨r1.2.1,r1.2.2.1,([]:List UInt8)⟩:ApiItem),()),()))))
 else (bif (decide (r1.2.1=(3:Int))) then (bif (decide (r1.2.1=(3:Int))) then (bif (decide ((1024#64).toNat<r1.2.2.1.toNat)) then (((some (((r1.1.1.1,r1.1.1.2.1,r1.1.1.2.2.1,r1.1.1.2.2.2.1,()),()),((⟨(0:Int),0#64,([]:List UInt8)⟩:ApiItem),(8:Int),())))).bind fun q=>some (Sum.inr q))
 else (let v3:Int:=(IntKind.wrap .i64 (((r1.1.1.2.2.1).length:Int)-r1.1.1.2.2.2.1))
 (bif (decide (v3<(IntKind.wrap .i64 (r1.2.2.1.toNat:Int)))) then (((some (((r1.1.1.1,r1.1.1.2.1,r1.1.1.2.2.1,r1.1.1.2.2.2.1,()),()),((⟨(0:Int),0#64,([]:List UInt8)⟩:ApiItem),(1:Int),())))).bind fun q=>some (Sum.inr q))
 else (let v4:Int:=(IntKind.wrap .i64 (r1.1.1.2.2.2.1+(IntKind.wrap .i64 (r1.2.2.1.toNat:Int))))
 (bif (decide ((0:Int)≤v4)&&decide (v4≤((r1.1.1.2.2.1).length:Int))) then (bif (decide ((0:Int)≤r1.1.1.2.2.2.1)&&decide (r1.1.1.2.2.2.1≤((v4).toNat:Int))) then (let v5:List (UInt8):=(List.drop (r1.1.1.2.2.2.1).toNat (List.take (v4).toNat r1.1.1.2.2.1))
 (let v6:Int:=(IntKind.wrap .i64 (r1.1.1.2.2.2.1+(IntKind.wrap .i64 (r1.2.2.1.toNat:Int))))
 (some (Sum.inl ((r1.1.1.1,r1.1.1.2.1,r1.1.1.2.2.1,v6,()),((⟨(0:Int),0#64,([]:List UInt8)⟩:ApiItem),()),((⟨r1.2.1,0#64,v5⟩:ApiItem),()),())))))
 else none)
 else none)))))
 else (some (Sum.inl ((r1.1.1.1,r1.1.1.2.1,r1.1.1.2.2.1,r1.1.1.2.2.2.1,()),((⟨(0:Int),0#64,([]:List UInt8)⟩:ApiItem),()),((⟨r1.2.1,r1.2.2.1,([]:List UInt8)⟩:ApiItem),()),()))))
 else (bif (decide (r1.2.1=(4:Int))) then (bif (decide ((1024#64).toNat<r1.2.2.1.toNat)) then (((some (((r1.1.1.1,r1.1.1.2.1,r1.1.1.2.2.1,r1.1.1.2.2.2.1,()),()),((⟨(0:Int),0#64,([]:List UInt8)⟩:ApiItem),(8:Int),())))).bind fun q=>some (Sum.inr q))
 else (let v7:Int:=(IntKind.wrap .i64 (((r1.1.1.2.2.1).length:Int)-r1.1.1.2.2.2.1))
 (bif (decide (v7<(IntKind.wrap .i64 (r1.2.2.1.toNat:Int)))) then (((some (((r1.1.1.1,r1.1.1.2.1,r1.1.1.2.2.1,r1.1.1.2.2.2.1,()),()),((⟨(0:Int),0#64,([]:List UInt8)⟩:ApiItem),(1:Int),())))).bind fun q=>some (Sum.inr q))
 else (let v8:Int:=(IntKind.wrap .i64 (r1.1.1.2.2.2.1+(IntKind.wrap .i64 (r1.2.2.1.toNat:Int))))
 (bif (decide ((0:Int)≤v8)&&decide (v8≤((r1.1.1.2.2.1).length:Int))) then (bif (decide ((0:Int)≤r1.1.1.2.2.2.1)&&decide (r1.1.1.2.2.2.1≤((v8).toNat:Int))) then (let v9:List (UInt8):=(List.drop (r1.1.1.2.2.2.1).toNat (List.take (v8).toNat r1.1.1.2.2.1))
 (let v10:Int:=(IntKind.wrap .i64 (r1.1.1.2.2.2.1+(IntKind.wrap .i64 (r1.2.2.1.toNat:Int))))
 (some (Sum.inl ((r1.1.1.1,r1.1.1.2.1,r1.1.1.2.2.1,v10,()),((⟨(0:Int),0#64,([]:List UInt8)⟩:ApiItem),()),((⟨r1.2.1,0#64,v9⟩:ApiItem),()),())))))
 else none)
 else none)))))
 else (some (Sum.inl ((r1.1.1.1,r1.1.1.2.1,r1.1.1.2.2.1,r1.1.1.2.2.2.1,()),((⟨(0:Int),0#64,([]:List UInt8)⟩:ApiItem),()),((⟨r1.2.1,r1.2.2.1,([]:List UInt8)⟩:ApiItem),()),()))))))
 else (bif (decide (r1.2.1=(6:Int))) then (bif (decide ((512#64).toNat<r1.2.2.1.toNat)) then (((some (((r1.1.1.1,r1.1.1.2.1,r1.1.1.2.2.1,r1.1.1.2.2.2.1,()),()),((⟨(0:Int),0#64,([]:List UInt8)⟩:ApiItem),(8:Int),())))).bind fun q=>some (Sum.inr q))
 else (some (Sum.inl ((r1.1.1.1,r1.1.1.2.1,r1.1.1.2.2.1,r1.1.1.2.2.2.1,()),((⟨(0:Int),0#64,([]:List UInt8)⟩:ApiItem),()),((⟨r1.2.1,r1.2.2.1,([]:List UInt8)⟩:ApiItem),()),()))))
 else (bif (decide (r1.2.1=(3:Int))) then (bif (decide (r1.2.1=(3:Int))) then (bif (decide ((1024#64).toNat<r1.2.2.1.toNat)) then (((some (((r1.1.1.1,r1.1.1.2.1,r1.1.1.2.2.1,r1.1.1.2.2.2.1,()),()),((⟨(0:Int),0#64,([]:List UInt8)⟩:ApiItem),(8:Int),())))).bind fun q=>some (Sum.inr q))
 else (let v11:Int:=(IntKind.wrap .i64 (((r1.1.1.2.2.1).length:Int)-r1.1.1.2.2.2.1))
 (bif (decide (v11<(IntKind.wrap .i64 (r1.2.2.1.toNat:Int)))) then (((some (((r1.1.1.1,r1.1.1.2.1,r1.1.1.2.2.1,r1.1.1.2.2.2.1,()),()),((⟨(0:Int),0#64,([]:List UInt8)⟩:ApiItem),(1:Int),())))).bind fun q=>some (Sum.inr q))
 else (let v12:Int:=(IntKind.wrap .i64 (r1.1.1.2.2.2.1+(IntKind.wrap .i64 (r1.2.2.1.toNat:Int))))
 (bif (decide ((0:Int)≤v12)&&decide (v12≤((r1.1.1.2.2.1).length:Int))) then (bif (decide ((0:Int)≤r1.1.1.2.2.2.1)&&decide (r1.1.1.2.2.2.1≤((v12).toNat:Int))) then (let v13:List (UInt8):=(List.drop (r1.1.1.2.2.2.1).toNat (List.take (v12).toNat r1.1.1.2.2.1))
 (let v14:Int:=(IntKind.wrap .i64 (r1.1.1.2.2.2.1+(IntKind.wrap .i64 (r1.2.2.1.toNat:Int))))
 (some (Sum.inl ((r1.1.1.1,r1.1.1.2.1,r1.1.1.2.2.1,v14,()),((⟨(0:Int),0#64,([]:List UInt8)⟩:ApiItem),()),((⟨r1.2.1,0#64,v13⟩:ApiItem),()),())))))
 else none)
 else none)))))
 else (some (Sum.inl ((r1.1.1.1,r1.1.1.2.1,r1.1.1.2.2.1,r1.1.1.2.2.2.1,()),((⟨(0:Int),0#64,([]:List UInt8)⟩:ApiItem),()),((⟨r1.2.1,r1.2.2.1,([]:List UInt8)⟩:ApiItem),()),()))))
 else (bif (decide (r1.2.1=(4:Int))) then (bif (decide ((1024#64).toNat<r1.2.2.1.toNat)) then (((some (((r1.1.1.1,r1.1.1.2.1,r1.1.1.2.2.1,r1.1.1.2.2.2.1,()),()),((⟨(0:Int),0#64,([]:List UInt8)⟩:ApiItem),(8:Int),())))).bind fun q=>some (Sum.inr q))
 else (let v15:Int:=(IntKind.wrap .i64 (((r1.1.1.2.2.1).length:Int)-r1.1.1.2.2.2.1))
 (bif (decide (v15<(IntKind.wrap .i64 (r1.2.2.1.toNat:Int)))) then (((some (((r1.1.1.1,r1.1.1.2.1,r1.1.1.2.2.1,r1.1.1.2.2.2.1,()),()),((⟨(0:Int),0#64,([]:List UInt8)⟩:ApiItem),(1:Int),())))).bind fun q=>some (Sum.inr q))
 else (let v16:Int:=(IntKind.wrap .i64 (r1.1.1.2.2.2.1+(IntKind.wrap .i64 (r1.2.2.1.toNat:Int))))
 (bif (decide ((0:Int)≤v16)&&decide (v16≤((r1.1.1.2.2.1).length:Int))) then (bif (decide ((0:Int)≤r1.1.1.2.2.2.1)&&decide (r1.1.1.2.2.2.1≤((v16).toNat:Int))) then (let v17:List (UInt8):=(List.drop (r1.1.1.2.2.2.1).toNat (List.take (v16).toNat r1.1.1.2.2.1))
 (let v18:Int:=(IntKind.wrap .i64 (r1.1.1.2.2.2.1+(IntKind.wrap .i64 (r1.2.2.1.toNat:Int))))
 (some (Sum.inl ((r1.1.1.1,r1.1.1.2.1,r1.1.1.2.2.1,v18,()),((⟨(0:Int),0#64,([]:List UInt8)⟩:ApiItem),()),((⟨r1.2.1,0#64,v17⟩:ApiItem),()),())))))
 else none)
 else none)))))
 else (some (Sum.inl ((r1.1.1.1,r1.1.1.2.1,r1.1.1.2.2.1,r1.1.1.2.2.2.1,()),((⟨(0:Int),0#64,([]:List UInt8)⟩:ApiItem),()),((⟨r1.2.1,r1.2.2.1,([]:List UInt8)⟩:ApiItem),()),()))))))).bind (Sum.elim (fun (j19:(((List (CborFrame))×Int×(List (UInt8))×Int×Unit)×(ApiItem×Unit)×(ApiItem×Unit)×Unit))=>((Zbf (j19.1.1,j19.1.2.1,j19.1.2.2.1,j19.1.2.2.2.1,()) j19.2.2.1.1).bind fun r20=>(bif (!decide (r20.2.1=(0:Int))) then (some (((r20.1.1.1,r20.1.1.2.1,r20.1.1.2.2.1,r20.1.1.2.2.2.1,()),()),((⟨(0:Int),0#64,([]:List UInt8)⟩:ApiItem),r20.2.1,())))
 else (some (((r20.1.1.1,r20.1.1.2.1,r20.1.1.2.2.1,r20.1.1.2.2.2.1,()),()),(j19.2.2.1.1,(0:Int),())))))) some))))))
def S_Zbz:FSpec T:=⟨[.ptr [(.own 9),(.v (.int .i64)),(.v (.rs 0)),(.v (.int .i64))]],[(.v (.agg 1)),(.v (.int .i64))],fun x=>Zbz x.1⟩
def E_Zbz:Env T:=⟨tab.find,cd,globs,flc,fun f ds=>match f with
  | 83=>some S_Zby
  | 84=>some S_Zcn
  | 85=>some S_Zbf
  | _=>none,fun f=>match f with
  | 84=>true
  | _=>false⟩
def A_Zbz:Loc2 T:=⟨fun id=>match id with
  | _=>none,fun r=>match r with
  | 21=>some ([(0,.ptr [(.own 9),(.v (.int .i64)),(.v (.rs 0)),(.v (.int .i64))]),(2,.ptr [(.v (.agg 1))]),(8,.ptr [(.v (.agg 1))])],false)
  | _=>none,fun r=>match r with
  | 19=>true
  | _=>false⟩
theorem Vhga (x:tySs T S_Zbz.ps):run E_Zbz A_Zbz (Tryz.f60.body.getD .skip) (enterT E_Zbz.C S_Zbz.ps x) (retK E_Zbz Tryz.f60.results.toList S_Zbz.ps S_Zbz.rs)=S_Zbz.fn x:=by kernel_rfl
theorem Vcka:EnvOk Tryz.prog E_Zbz:=envOk (E:=E_Zbz) cd_ok tys fl_ok fun f ds S h=>by
  dsimp only [E_Zbz] at h
  split at h
  ·cases h; exact Vhba
  ·cases h; exact Vzv
  ·cases h; exact Vhfa
  ·cases h
theorem Vhha:SoundT Tryz.prog cd gdn 60 S_Zbz:=
 Vab (E:=E_Zbz) (A:=A_Zbz) (done:=[]) (c:=(Tryz.f60.body.getD .skip)) (S:=S_Zbz) (fn:=Tryz.f60) hmix Vcka Tryz.func60 rfl (by kernel_rfl) (by kernel_rfl) Vaa (by kernel_rfl) (by kernel_rfl) Vhga
def Zdi_L0b (y0:(List (ApiItem))) (y1:((List (CborFrame))×Int×(List (UInt8))×Int×Unit)):Option (Yeq⊕(((List (ApiItem))×Int×Int×Unit)⊕Yeq)):=
 ((Zct (⟨y1.1,y1.2.1⟩:CborWalk)).bind fun r1=>(bif (!r1.2.1) then ((Zbz (y1.1,y1.2.1,y1.2.2.1,y1.2.2.2.1,())).bind fun r2=>(bif (!decide (r2.2.2.1=(0:Int))) then (some (Sum.inr (Sum.inl ([],(0:Int),r2.2.2.1,()))))
 else (bif small ((y0).length+(([r2.2.1]:List (ApiItem)):List (ApiItem)).length) 32 then (some (Sum.inl ((y0++([r2.2.1]:List (ApiItem))),(r2.1.1.1,r2.1.1.2.1,r2.1.1.2.2.1,r2.1.1.2.2.2.1,()),())))
 else none)))
 else (some (Sum.inr (Sum.inr (y0,(y1.1,y1.2.1,y1.2.2.1,y1.2.2.2.1,()),()))))))
def Zdi_L0 (y:Yeq):Option (((List (ApiItem))×Int×Int×Unit)⊕Yeq):=iter (fun (y:Yeq)=>Zdi_L0b y.1 y.2.1) rounds y
def Zdi (a0:(List (UInt8))):Option ((Unit)×((List (ApiItem))×Int×Int×Unit)):=
 ((Zdi_L0 ([],([],(0:Int),a0,(0:Int),()),())).bind (Sum.elim (fun (z3:((List (ApiItem))×Int×Int×Unit))=>(some ((),(z3.1,z3.2.1,z3.2.2.1,())))) (fun (z4:Yeq)=>(some ((),(z4.1,z4.2.1.2.2.2.1,(0:Int),()))))))
def S_Zdi:FSpec T:=⟨[.f (.v (.rs 0))],[(.own 1),(.v (.int .i64)),(.v (.int .i64))],fun x=>Zdi x.1⟩
def E_Zdi:Env T:=⟨tab.find,cd,globs,flc,fun f ds=>match f with
  | 59=>some S_Zct
  | 60=>some S_Zbz
  | _=>none,fun f=>match f with
  | 59=>true
  | _=>false⟩
def A_Zdi:Loc2 T:=⟨fun id=>match id with
  | 0=>some ⟨[(2,.f (.own 1)),(5,.ptr [(.own 9),(.v (.int .i64)),(.v (.rs 0)),(.v (.int .i64))])],[(.ret,[(2,.f (.own 1)),(3,.f (.v (.int .i64))),(4,.f (.v (.int .i64)))]),(.exit 0,[(2,.f (.own 1)),(5,.ptr [(.own 9),(.v (.int .i64)),(.v (.rs 0)),(.v (.int .i64))])])],Zdi_L0,[]⟩
  | _=>none,fun r=>match r with
  | _=>none,fun r=>match r with
  | _=>false⟩
theorem Vt6 (y0:(List (ApiItem))) (y1:((List (CborFrame))×Int×(List (UInt8))×Int×Unit)):run E_Zdi A_Zdi (loopAt 0 (Tryz.f33.body.getD .skip)) (layC cd [(2,.f (.own 1)),(5,.ptr [(.own 9),(.v (.int .i64)),(.v (.rs 0)),(.v (.int .i64))])] [] (y0,y1,())) (roundK cd [(2,.f (.own 1)),(5,.ptr [(.own 9),(.v (.int .i64)),(.v (.rs 0)),(.v (.int .i64))])] [] [(.ret,[(2,.f (.own 1)),(3,.f (.v (.int .i64))),(4,.f (.v (.int .i64)))]),(.exit 0,[(2,.f (.own 1)),(5,.ptr [(.own 9),(.v (.int .i64)),(.v (.rs 0)),(.v (.int .i64))])])])=Zdi_L0b y0 y1:=by kernel_rfl
theorem Vhia (x:tySs T S_Zdi.ps):run E_Zdi A_Zdi (Tryz.f33.body.getD .skip) (enterT E_Zdi.C S_Zdi.ps x) (retK E_Zdi Tryz.f33.results.toList S_Zdi.ps S_Zdi.rs)=S_Zdi.fn x:=by kernel_rfl
theorem Vt7:EnvOk Tryz.prog E_Zdi:=envOk (E:=E_Zdi) cd_ok tys fl_ok fun f ds S h=>by
  dsimp only [E_Zdi] at h
  split at h
  ·cases h; exact Vsl
  ·cases h; exact Vhha
  ·cases h
theorem Vt8:LoopOk Tryz.prog E_Zdi Tryz.f33.ntmps (kqOf S_Zdi.ps 0) (loopAt 0 (Tryz.f33.body.getD .skip)) ⟨[(2,.f (.own 1)),(5,.ptr [(.own 9),(.v (.int .i64)),(.v (.rs 0)),(.v (.int .i64))])],[(.ret,[(2,.f (.own 1)),(3,.f (.v (.int .i64))),(4,.f (.v (.int .i64)))]),(.exit 0,[(2,.f (.own 1)),(5,.ptr [(.own 9),(.v (.int .i64)),(.v (.rs 0)),(.v (.int .i64))])])],Zdi_L0,[]⟩:=
 Vaf (A:=A_Zdi) (done:=[]) (c0:=(Tryz.f33.body.getD .skip)) hmix Vt7 Vaa rounds (by kernel_rfl) (by kernel_rfl) (fun x=>Vt6 x.1 x.2.1) (fun _=>rfl)
theorem Vhja:SoundT Tryz.prog cd gdn 33 S_Zdi:=
 Vab (E:=E_Zdi) (A:=A_Zdi) (done:=[0]) (c:=(Tryz.f33.body.getD .skip)) (S:=S_Zdi) (fn:=Tryz.f33) hmix Vt7 Tryz.func33 rfl (by kernel_rfl) (by kernel_rfl) (Vac rfl Vt8 Vaa) (by kernel_rfl) (by kernel_rfl) Vhia
def cbor_Skip_L0b (y0:(List (ApiItem))) (y1:Int) (y2:Int):Option (((List (ApiItem))×Int×Int×Unit)⊕((Int×Bool×Unit)⊕(Int×Unit))):=
 (bif (decide ((0:Int)<y2)) then (bif (decide (((y0).length:Int)≤y1)) then (some (Sum.inr (Sum.inl ((0:Int),false,()))))
 else ((getI y0 y1).bind fun x1=>(bif (!decide (x1.kind=(5:Int))) then (bif (!decide (x1.kind=(6:Int))) then (some (Sum.inl (y0,(IntKind.wrap .i64 (y1+(1:Int))),(IntKind.wrap .i64 (y2-(1:Int))),())))
 else (bif (decide ((512#64).toNat<x1.number.toNat)) then (some (Sum.inr (Sum.inl ((0:Int),false,()))))
 else (let v2:Int:=(IntKind.wrap .i64 ((IntKind.wrap .i64 (y2-(1:Int)))+(IntKind.wrap .i64 (x1.number.toNat:Int))))
 (bif (decide (x1.kind=(6:Int))) then (let v3:Int:=(IntKind.wrap .i64 (v2+(IntKind.wrap .i64 (x1.number.toNat:Int))))
 (some (Sum.inl (y0,(IntKind.wrap .i64 (y1+(1:Int))),v3,()))))
 else (some (Sum.inl (y0,(IntKind.wrap .i64 (y1+(1:Int))),v2,())))))))
 else (bif (decide ((512#64).toNat<x1.number.toNat)) then (some (Sum.inr (Sum.inl ((0:Int),false,()))))
 else (let v4:Int:=(IntKind.wrap .i64 ((IntKind.wrap .i64 (y2-(1:Int)))+(IntKind.wrap .i64 (x1.number.toNat:Int))))
 (bif (decide (x1.kind=(6:Int))) then (let v5:Int:=(IntKind.wrap .i64 (v4+(IntKind.wrap .i64 (x1.number.toNat:Int))))
 (some (Sum.inl (y0,(IntKind.wrap .i64 (y1+(1:Int))),v5,()))))
 else (some (Sum.inl (y0,(IntKind.wrap .i64 (y1+(1:Int))),v4,())))))))))
 else (some (Sum.inr (Sum.inr (y1,())))))
def cbor_Skip_L0 (y:((List (ApiItem))×Int×Int×Unit)):Option ((Int×Bool×Unit)⊕(Int×Unit)):=iter (fun (y:((List (ApiItem))×Int×Int×Unit))=>cbor_Skip_L0b y.1 y.2.1 y.2.2.1) rounds y
def cbor_Skip (a0:(List (ApiItem))) (a1:Int):Option ((Unit)×(Int×Bool×Unit)):=
 (bif (decide (a1<(0:Int))) then (some ((),((0:Int),false,())))
 else (bif (decide (((a0).length:Int)≤a1)) then (some ((),((0:Int),false,())))
 else ((cbor_Skip_L0 (a0,a1,(1:Int),())).bind (Sum.elim (fun (z6:(Int×Bool×Unit))=>(some ((),(z6.1,z6.2.1,())))) (fun (z7:(Int×Unit))=>(some ((),(z7.1,true,()))))))))
def S_cbor_Skip:FSpec T:=⟨[.f (.v (.rs 1)),.f (.v (.int .i64))],[(.v (.int .i64)),(.v .bool)],fun x=>cbor_Skip x.1 x.2.1⟩
def E_cbor_Skip:Env T:=⟨tab.find,cd,globs,flc,fun f ds=>match f with
  | _=>none,fun f=>match f with
  | _=>false⟩
def A_cbor_Skip:Loc2 T:=⟨fun id=>match id with
  | 0=>some ⟨[(0,.f (.v (.rs 1))),(4,.f (.v (.int .i64))),(6,.f (.v (.int .i64)))],[(.ret,[(4,.f (.v (.int .i64))),(5,.f (.v .bool))]),(.exit 0,[(4,.f (.v (.int .i64)))])],cbor_Skip_L0,[]⟩
  | _=>none,fun r=>match r with
  | _=>none,fun r=>match r with
  | _=>false⟩
theorem Vhs (y0:(List (ApiItem))) (y1:Int) (y2:Int):run E_cbor_Skip A_cbor_Skip (loopAt 0 (Tryz.f88.body.getD .skip)) (layC cd [(0,.f (.v (.rs 1))),(4,.f (.v (.int .i64))),(6,.f (.v (.int .i64)))] [] (y0,y1,y2,())) (roundK cd [(0,.f (.v (.rs 1))),(4,.f (.v (.int .i64))),(6,.f (.v (.int .i64)))] [] [(.ret,[(4,.f (.v (.int .i64))),(5,.f (.v .bool))]),(.exit 0,[(4,.f (.v (.int .i64)))])])=cbor_Skip_L0b y0 y1 y2:=by kernel_rfl
theorem Vl3 (x:tySs T S_cbor_Skip.ps):run E_cbor_Skip A_cbor_Skip (Tryz.f88.body.getD .skip) (enterT E_cbor_Skip.C S_cbor_Skip.ps x) (retK E_cbor_Skip Tryz.f88.results.toList S_cbor_Skip.ps S_cbor_Skip.rs)=S_cbor_Skip.fn x:=by kernel_rfl
theorem Vfu:EnvOk Tryz.prog E_cbor_Skip:=envOk (E:=E_cbor_Skip) cd_ok tys fl_ok fun f ds S h=>by cases h
theorem Vht:LoopOk Tryz.prog E_cbor_Skip Tryz.f88.ntmps (kqOf S_cbor_Skip.ps 0) (loopAt 0 (Tryz.f88.body.getD .skip)) ⟨[(0,.f (.v (.rs 1))),(4,.f (.v (.int .i64))),(6,.f (.v (.int .i64)))],[(.ret,[(4,.f (.v (.int .i64))),(5,.f (.v .bool))]),(.exit 0,[(4,.f (.v (.int .i64)))])],cbor_Skip_L0,[]⟩:=
 Vaf (A:=A_cbor_Skip) (done:=[]) (c0:=(Tryz.f88.body.getD .skip)) hmix Vfu Vaa rounds (by kernel_rfl) (by kernel_rfl) (fun x=>Vhs x.1 x.2.1 x.2.2.1) (fun _=>rfl)
theorem Vg1:SoundT Tryz.prog cd gdn 88 S_cbor_Skip:=
 Vab (E:=E_cbor_Skip) (A:=A_cbor_Skip) (done:=[0]) (c:=(Tryz.f88.body.getD .skip)) (S:=S_cbor_Skip) (fn:=Tryz.f88) hmix Vfu Tryz.func88 rfl (by kernel_rfl) (by kernel_rfl) (Vac rfl Vht Vaa) (by kernel_rfl) (by kernel_rfl) Vl3
def Zdk_L0b (y0:(List (ApiItem))) (y1:(BitVec 64)) (y2:Int) (y3:(BitVec 64)) (y4:(BitVec 64)):Option (((List (ApiItem))×(BitVec 64)×Int×(BitVec 64)×(BitVec 64)×Unit)⊕(((List (ApiItem))×Bool×Unit)⊕(Unit))):=
 (bif (decide (y4.toNat<y3.toNat)) then ((cbor_Skip y0 (IntKind.wrap .i64 (y2+(1:Int)))).bind fun r4=>(bif (!r4.2.2.1) then (some (Sum.inr (Sum.inl ([],false,()))))
 else ((getI y0 y2).bind fun x5=>(bif (decide (x5.kind=(1:Int))) then ((getI y0 y2).bind fun x6=>(bif (decide (x6.number=y1)) then (bif (decide ((0:Int)≤r4.2.1)&&decide (r4.2.1≤((y0).length:Int))) then (bif (decide ((0:Int)≤(IntKind.wrap .i64 (y2+(1:Int))))&&decide ((IntKind.wrap .i64 (y2+(1:Int)))≤((r4.2.1).toNat:Int))) then (let v7:List (ApiItem):=(List.drop ((IntKind.wrap .i64 (y2+(1:Int)))).toNat (List.take (r4.2.1).toNat y0))
 ((Zdg v7).bind fun r8=>(some (Sum.inr (Sum.inl (r8.2.1,true,()))))))
 else none)
 else none)
 else (some (Sum.inl (y0,y1,r4.2.1,y3,(y4+1#64),())))))
 else (some (Sum.inl (y0,y1,r4.2.1,y3,(y4+1#64),())))))))
 else (some (Sum.inr (Sum.inr ()))))
def Zdk_L0 (y:((List (ApiItem))×(BitVec 64)×Int×(BitVec 64)×(BitVec 64)×Unit)):Option (((List (ApiItem))×Bool×Unit)⊕(Unit)):=iter (fun (y:((List (ApiItem))×(BitVec 64)×Int×(BitVec 64)×(BitVec 64)×Unit))=>Zdk_L0b y.1 y.2.1 y.2.2.1 y.2.2.2.1 y.2.2.2.2.1) rounds y
def Zdk (a0:(List (ApiItem))) (a1:(BitVec 64)):Option ((Unit)×((List (ApiItem))×Bool×Unit)):=
 ((Zcy a0).bind fun r1=>(bif (!decide (r1.2.1=(0:Int))) then (some ((),([],false,())))
 else ((getI a0 (0:Int)).bind fun x2=>(bif (!decide (x2.kind=(6:Int))) then (some ((),([],false,())))
 else ((getI a0 (0:Int)).bind fun x3=>((Zdk_L0 (a0,a1,(1:Int),x3.number,0#64,())).bind (Sum.elim (fun (z9:((List (ApiItem))×Bool×Unit))=>(some ((),(z9.1,z9.2.1,())))) (fun (z10:(Unit))=>(some ((),([],false,())))))))))))
def S_Zdk:FSpec T:=⟨[.f (.v (.rs 1)),.f (.v .u64)],[(.own 1),(.v .bool)],fun x=>Zdk x.1 x.2.1⟩
def E_Zdk:Env T:=⟨tab.find,cd,globs,flc,fun f ds=>match f with
  | 80=>some S_Zcy
  | 88=>some S_cbor_Skip
  | 105=>some S_Zdg
  | _=>none,fun f=>match f with
  | 80=>true
  | 88=>true
  | _=>false⟩
def A_Zdk:Loc2 T:=⟨fun id=>match id with
  | 0=>some ⟨[(0,.f (.v (.rs 1))),(1,.f (.v .u64)),(6,.f (.v (.int .i64))),(22,.f (.v .u64)),(23,.f (.v .u64))],[(.ret,[(4,.f (.own 1)),(5,.f (.v .bool))]),(.exit 0,[])],Zdk_L0,[]⟩
  | _=>none,fun r=>match r with
  | _=>none,fun r=>match r with
  | _=>false⟩
theorem Vt9 (y0:(List (ApiItem))) (y1:(BitVec 64)) (y2:Int) (y3:(BitVec 64)) (y4:(BitVec 64)):run E_Zdk A_Zdk (loopAt 0 (Tryz.f87.body.getD .skip)) (layC cd [(0,.f (.v (.rs 1))),(1,.f (.v .u64)),(6,.f (.v (.int .i64))),(22,.f (.v .u64)),(23,.f (.v .u64))] [] (y0,y1,y2,y3,y4,())) (roundK cd [(0,.f (.v (.rs 1))),(1,.f (.v .u64)),(6,.f (.v (.int .i64))),(22,.f (.v .u64)),(23,.f (.v .u64))] [] [(.ret,[(4,.f (.own 1)),(5,.f (.v .bool))]),(.exit 0,[])])=Zdk_L0b y0 y1 y2 y3 y4:=by kernel_rfl
theorem Vhka (x:tySs T S_Zdk.ps):run E_Zdk A_Zdk (Tryz.f87.body.getD .skip) (enterT E_Zdk.C S_Zdk.ps x) (retK E_Zdk Tryz.f87.results.toList S_Zdk.ps S_Zdk.rs)=S_Zdk.fn x:=by kernel_rfl
theorem Vua:EnvOk Tryz.prog E_Zdk:=envOk (E:=E_Zdk) cd_ok tys fl_ok fun f ds S h=>by
  dsimp only [E_Zdk] at h
  split at h
  ·cases h; exact Voz
  ·cases h; exact Vg1
  ·cases h; exact Vfaa
  ·cases h
theorem Vub:LoopOk Tryz.prog E_Zdk Tryz.f87.ntmps (kqOf S_Zdk.ps 0) (loopAt 0 (Tryz.f87.body.getD .skip)) ⟨[(0,.f (.v (.rs 1))),(1,.f (.v .u64)),(6,.f (.v (.int .i64))),(22,.f (.v .u64)),(23,.f (.v .u64))],[(.ret,[(4,.f (.own 1)),(5,.f (.v .bool))]),(.exit 0,[])],Zdk_L0,[]⟩:=
 Vaf (A:=A_Zdk) (done:=[]) (c0:=(Tryz.f87.body.getD .skip)) hmix Vua Vaa rounds (by kernel_rfl) (by kernel_rfl) (fun x=>Vt9 x.1 x.2.1 x.2.2.1 x.2.2.2.1 x.2.2.2.2.1) (fun _=>rfl)
theorem Vz5:SoundT Tryz.prog cd gdn 87 S_Zdk:=
 Vab (E:=E_Zdk) (A:=A_Zdk) (done:=[0]) (c:=(Tryz.f87.body.getD .skip)) (S:=S_Zdk) (fn:=Tryz.f87) hmix Vua Tryz.func87 rfl (by kernel_rfl) (by kernel_rfl) (Vac rfl Vub Vaa) (by kernel_rfl) (by kernel_rfl) Vhka
def Zaz (a0:(List (ApiItem))) (a1:(BitVec 64)):Option ((Unit)×(ApiItem×Unit)):=
 ((Zdk a0 a1).bind fun r1=>(bif (!r1.2.2.1) then (some ((),((⟨(0:Int),0#64,([]:List UInt8)⟩:ApiItem),())))
 else (bif (decide (((r1.2.1).length:Int)=(0:Int))) then (some ((),((⟨(0:Int),0#64,([]:List UInt8)⟩:ApiItem),())))
 else (bif decide ((0:Int)<((r1.2.1).length:Int)) then (((r1.2.1)[0]?).bind fun x2=>(some ((),(x2,()))))
 else none))))
def S_Zaz:FSpec T:=⟨[.f (.v (.rs 1)),.f (.v .u64)],[(.v (.agg 1))],fun x=>Zaz x.1 x.2.1⟩
def E_Zaz:Env T:=⟨tab.find,cd,globs,flc,fun f ds=>match f with
  | 87=>some S_Zdk
  | _=>none,fun f=>match f with
  | _=>false⟩
def A_Zaz:Loc2 T:=⟨fun id=>match id with
  | _=>none,fun r=>match r with
  | _=>none,fun r=>match r with
  | _=>false⟩
theorem Vhla (x:tySs T S_Zaz.ps):run E_Zaz A_Zaz (Tryz.f86.body.getD .skip) (enterT E_Zaz.C S_Zaz.ps x) (retK E_Zaz Tryz.f86.results.toList S_Zaz.ps S_Zaz.rs)=S_Zaz.fn x:=by kernel_rfl
theorem Vcla:EnvOk Tryz.prog E_Zaz:=envOk (E:=E_Zaz) cd_ok tys fl_ok fun f ds S h=>by
  dsimp only [E_Zaz] at h
  split at h
  ·cases h; exact Vz5
  ·cases h
theorem Vl4:SoundT Tryz.prog cd gdn 86 S_Zaz:=
 Vab (E:=E_Zaz) (A:=A_Zaz) (done:=[]) (c:=(Tryz.f86.body.getD .skip)) (S:=S_Zaz) (fn:=Tryz.f86) hmix Vcla Tryz.func86 rfl (by kernel_rfl) (by kernel_rfl) Vaa (by kernel_rfl) (by kernel_rfl) Vhla
def Zar (a0:(List (ApiItem))) (a1:(BitVec 64)):Option ((Unit)×((List (UInt8))×Unit)):=
 ((Zaz a0 a1).bind fun r1=>(some ((),(r1.2.1.data,()))))
def S_Zar:FSpec T:=⟨[.f (.v (.rs 1)),.f (.v .u64)],[(.own 0)],fun x=>Zar x.1 x.2.1⟩
def E_Zar:Env T:=⟨tab.find,cd,globs,flc,fun f ds=>match f with
  | 86=>some S_Zaz
  | _=>none,fun f=>match f with
  | 86=>true
  | _=>false⟩
def A_Zar:Loc2 T:=⟨fun id=>match id with
  | _=>none,fun r=>match r with
  | _=>none,fun r=>match r with
  | _=>false⟩
theorem Vhma (x:tySs T S_Zar.ps):run E_Zar A_Zar (Tryz.f61.body.getD .skip) (enterT E_Zar.C S_Zar.ps x) (retK E_Zar Tryz.f61.results.toList S_Zar.ps S_Zar.rs)=S_Zar.fn x:=by kernel_rfl
theorem Vcma:EnvOk Tryz.prog E_Zar:=envOk (E:=E_Zar) cd_ok tys fl_ok fun f ds S h=>by
  dsimp only [E_Zar] at h
  split at h
  ·cases h; exact Vl4
  ·cases h
theorem Vhna:SoundT Tryz.prog cd gdn 61 S_Zar:=
 Vab (E:=E_Zar) (A:=A_Zar) (done:=[]) (c:=(Tryz.f61.body.getD .skip)) (S:=S_Zar) (fn:=Tryz.f61) hmix Vcma Tryz.func61 rfl (by kernel_rfl) (by kernel_rfl) Vaa (by kernel_rfl) (by kernel_rfl) Vhma
def Zak_L0b (y0:(List (ApiItem))) (y1:(List (List ApiItem))) (y2:Int):Option (((List (ApiItem))×(List (List ApiItem))×Int×Unit)⊕((List (List ApiItem))×Unit)):=
 (bif (decide (y2<((y0).length:Int))) then ((cbor_Skip y0 y2).bind fun r4=>(bif (!r4.2.2.1) then (some (Sum.inr (y1,())))
 else (bif (decide (r4.2.1≤y2)) then (some (Sum.inr (y1,())))
 else (bif (decide (((y0).length:Int)<r4.2.1)) then (some (Sum.inr (y1,())))
 else (bif (decide ((0:Int)≤r4.2.1)&&decide (r4.2.1≤((y0).length:Int))) then (bif (decide ((0:Int)≤y2)&&decide (y2≤((r4.2.1).toNat:Int))) then (let v5:List (List ApiItem):=([(List.drop (y2).toNat (List.take (r4.2.1).toNat y0))]:List (List ApiItem))
 (bif small ((y1).length+(v5:List (List ApiItem)).length) 24 then (some (Sum.inl (y0,(y1++v5),r4.2.1,())))
 else none))
 else none)
 else none)))))
 else (some (Sum.inr (y1,()))))
def Zak_L0 (y:((List (ApiItem))×(List (List ApiItem))×Int×Unit)):Option ((List (List ApiItem))×Unit):=iter (fun (y:((List (ApiItem))×(List (List ApiItem))×Int×Unit))=>Zak_L0b y.1 y.2.1 y.2.2.1) rounds y
def Zak (a0:(List (ApiItem))) (a1:(BitVec 64)):Option ((Unit)×((List (List ApiItem))×Unit)):=
 ((Zdk a0 a1).bind fun r1=>(bif (!r1.2.2.1) then (some ((),([],())))
 else ((Zak_L0 (r1.2.1,[],(1:Int),())).bind (fun (z6:((List (List ApiItem))×Unit))=>(some ((),(z6.1,())))))))
def S_Zak:FSpec T:=⟨[.f (.v (.rs 1)),.f (.v .u64)],[(.own 8)],fun x=>Zak x.1 x.2.1⟩
def E_Zak:Env T:=⟨tab.find,cd,globs,flc,fun f ds=>match f with
  | 87=>some S_Zdk
  | 88=>some S_cbor_Skip
  | _=>none,fun f=>match f with
  | 88=>true
  | _=>false⟩
def A_Zak:Loc2 T:=⟨fun id=>match id with
  | 0=>some ⟨[(5,.f (.v (.rs 1))),(7,.f (.own 8)),(8,.f (.v (.int .i64)))],[(.exit 0,[(7,.f (.own 8))])],Zak_L0,[]⟩
  | _=>none,fun r=>match r with
  | _=>none,fun r=>match r with
  | _=>false⟩
theorem Vuc (y0:(List (ApiItem))) (y1:(List (List ApiItem))) (y2:Int):run E_Zak A_Zak (loopAt 0 (Tryz.f67.body.getD .skip)) (layC cd [(5,.f (.v (.rs 1))),(7,.f (.own 8)),(8,.f (.v (.int .i64)))] [] (y0,y1,y2,())) (roundK cd [(5,.f (.v (.rs 1))),(7,.f (.own 8)),(8,.f (.v (.int .i64)))] [] [(.exit 0,[(7,.f (.own 8))])])=Zak_L0b y0 y1 y2:=by kernel_rfl
theorem Vhoa (x:tySs T S_Zak.ps):run E_Zak A_Zak (Tryz.f67.body.getD .skip) (enterT E_Zak.C S_Zak.ps x) (retK E_Zak Tryz.f67.results.toList S_Zak.ps S_Zak.rs)=S_Zak.fn x:=by kernel_rfl
theorem Vud:EnvOk Tryz.prog E_Zak:=envOk (E:=E_Zak) cd_ok tys fl_ok fun f ds S h=>by
  dsimp only [E_Zak] at h
  split at h
  ·cases h; exact Vz5
  ·cases h; exact Vg1
  ·cases h
theorem Vue:LoopOk Tryz.prog E_Zak Tryz.f67.ntmps (kqOf S_Zak.ps 0) (loopAt 0 (Tryz.f67.body.getD .skip)) ⟨[(5,.f (.v (.rs 1))),(7,.f (.own 8)),(8,.f (.v (.int .i64)))],[(.exit 0,[(7,.f (.own 8))])],Zak_L0,[]⟩:=
 Vaf (A:=A_Zak) (done:=[]) (c0:=(Tryz.f67.body.getD .skip)) hmix Vud Vaa rounds (by kernel_rfl) (by kernel_rfl) (fun x=>Vuc x.1 x.2.1 x.2.2.1) (fun _=>rfl)
theorem Vz6:SoundT Tryz.prog cd gdn 67 S_Zak:=
 Vab (E:=E_Zak) (A:=A_Zak) (done:=[0]) (c:=(Tryz.f67.body.getD .skip)) (S:=S_Zak) (fn:=Tryz.f67) hmix Vud Tryz.func67 rfl (by kernel_rfl) (by kernel_rfl) (Vac rfl Vue Vaa) (by kernel_rfl) (by kernel_rfl) Vhoa
def Zba_L0b (y0:(List (List UInt8))) (y1:(List (List ApiItem))) (y2:Int) (y3:Int):Option (((List (List UInt8))×(List (List ApiItem))×Int×Int×Unit)⊕((List (List UInt8))×Unit)):=
 (bif (decide (y3<y2)) then (bif (decide ((0:Int)≤y3)&&decide (y3<((y1).length:Int))) then (((y1)[(y3).toNat]?).bind fun x2=>((getI x2 (0:Int)).bind fun x3=>(bif small ((y0).length+(([x3.data]:List (List UInt8)):List (List UInt8)).length) 24 then (some (Sum.inl ((y0++([x3.data]:List (List UInt8))),y1,y2,(IntKind.wrap .i64 (y3+(1:Int))),())))
 else none)))
 else none)
 else (some (Sum.inr (y0,()))))
def Zba_L0 (y:((List (List UInt8))×(List (List ApiItem))×Int×Int×Unit)):Option ((List (List UInt8))×Unit):=iter (fun (y:((List (List UInt8))×(List (List ApiItem))×Int×Int×Unit))=>Zba_L0b y.1 y.2.1 y.2.2.1 y.2.2.2.1) rounds y
def Zba (a0:(List (ApiItem))) (a1:(BitVec 64)):Option ((Unit)×((List (List UInt8))×Unit)):=
 ((Zak a0 a1).bind fun r1=>((Zba_L0 ([],r1.2.1,((r1.2.1).length:Int),(0:Int),())).bind (fun (z4:((List (List UInt8))×Unit))=>(some ((),(z4.1,()))))))
def S_Zba:FSpec T:=⟨[.f (.v (.rs 1)),.f (.v .u64)],[(.own 2)],fun x=>Zba x.1 x.2.1⟩
def E_Zba:Env T:=⟨tab.find,cd,globs,flc,fun f ds=>match f with
  | 67=>some S_Zak
  | _=>none,fun f=>match f with
  | _=>false⟩
def A_Zba:Loc2 T:=⟨fun id=>match id with
  | 0=>some ⟨[(5,.f (.own 2)),(10,.f (.own 8)),(11,.f (.v (.int .i64))),(12,.f (.v (.int .i64)))],[(.exit 0,[(5,.f (.own 2))])],Zba_L0,[]⟩
  | _=>none,fun r=>match r with
  | _=>none,fun r=>match r with
  | _=>false⟩
theorem Vuf (y0:(List (List UInt8))) (y1:(List (List ApiItem))) (y2:Int) (y3:Int):run E_Zba A_Zba (loopAt 0 (Tryz.f62.body.getD .skip)) (layC cd [(5,.f (.own 2)),(10,.f (.own 8)),(11,.f (.v (.int .i64))),(12,.f (.v (.int .i64)))] [] (y0,y1,y2,y3,())) (roundK cd [(5,.f (.own 2)),(10,.f (.own 8)),(11,.f (.v (.int .i64))),(12,.f (.v (.int .i64)))] [] [(.exit 0,[(5,.f (.own 2))])])=Zba_L0b y0 y1 y2 y3:=by kernel_rfl
theorem Vhpa (x:tySs T S_Zba.ps):run E_Zba A_Zba (Tryz.f62.body.getD .skip) (enterT E_Zba.C S_Zba.ps x) (retK E_Zba Tryz.f62.results.toList S_Zba.ps S_Zba.rs)=S_Zba.fn x:=by kernel_rfl
theorem Vug:EnvOk Tryz.prog E_Zba:=envOk (E:=E_Zba) cd_ok tys fl_ok fun f ds S h=>by
  dsimp only [E_Zba] at h
  split at h
  ·cases h; exact Vz6
  ·cases h
theorem Vuh:LoopOk Tryz.prog E_Zba Tryz.f62.ntmps (kqOf S_Zba.ps 0) (loopAt 0 (Tryz.f62.body.getD .skip)) ⟨[(5,.f (.own 2)),(10,.f (.own 8)),(11,.f (.v (.int .i64))),(12,.f (.v (.int .i64)))],[(.exit 0,[(5,.f (.own 2))])],Zba_L0,[]⟩:=
 Vaf (A:=A_Zba) (done:=[]) (c0:=(Tryz.f62.body.getD .skip)) hmix Vug Vaa rounds (by kernel_rfl) (by kernel_rfl) (fun x=>Vuf x.1 x.2.1 x.2.2.1 x.2.2.2.1) (fun _=>rfl)
theorem Vhqa:SoundT Tryz.prog cd gdn 62 S_Zba:=
 Vab (E:=E_Zba) (A:=A_Zba) (done:=[0]) (c:=(Tryz.f62.body.getD .skip)) (S:=S_Zba) (fn:=Tryz.f62) hmix Vug Tryz.func62 rfl (by kernel_rfl) (by kernel_rfl) (Vac rfl Vuh Vaa) (by kernel_rfl) (by kernel_rfl) Vhpa
def Zap (a0:(List (ApiItem))) (a1:(BitVec 64)):Option ((Unit)×(Int×Unit)):=
 ((Zaz a0 a1).bind fun r1=>(some ((),((IntKind.wrap .i64 (r1.2.1.number.toNat:Int)),()))))
def S_Zap:FSpec T:=⟨[.f (.v (.rs 1)),.f (.v .u64)],[(.v (.int .i64))],fun x=>Zap x.1 x.2.1⟩
def E_Zap:Env T:=⟨tab.find,cd,globs,flc,fun f ds=>match f with
  | 86=>some S_Zaz
  | _=>none,fun f=>match f with
  | 86=>true
  | _=>false⟩
def A_Zap:Loc2 T:=⟨fun id=>match id with
  | _=>none,fun r=>match r with
  | _=>none,fun r=>match r with
  | _=>false⟩
theorem Vhra (x:tySs T S_Zap.ps):run E_Zap A_Zap (Tryz.f63.body.getD .skip) (enterT E_Zap.C S_Zap.ps x) (retK E_Zap Tryz.f63.results.toList S_Zap.ps S_Zap.rs)=S_Zap.fn x:=by kernel_rfl
theorem Vcna:EnvOk Tryz.prog E_Zap:=envOk (E:=E_Zap) cd_ok tys fl_ok fun f ds S h=>by
  dsimp only [E_Zap] at h
  split at h
  ·cases h; exact Vl4
  ·cases h
theorem Vhsa:SoundT Tryz.prog cd gdn 63 S_Zap:=
 Vab (E:=E_Zap) (A:=A_Zap) (done:=[]) (c:=(Tryz.f63.body.getD .skip)) (S:=S_Zap) (fn:=Tryz.f63) hmix Vcna Tryz.func63 rfl (by kernel_rfl) (by kernel_rfl) Vaa (by kernel_rfl) (by kernel_rfl) Vhra
def Zbb (a0:(List (ApiItem))) (a1:(BitVec 64)):Option ((Unit)×((List UInt8)×Unit)):=
 ((Zaz a0 a1).bind fun r1=>(some ((),(r1.2.1.data,()))))
def S_Zbb:FSpec T:=⟨[.f (.v (.rs 1)),.f (.v .u64)],[(.v .str)],fun x=>Zbb x.1 x.2.1⟩
def E_Zbb:Env T:=⟨tab.find,cd,globs,flc,fun f ds=>match f with
  | 86=>some S_Zaz
  | _=>none,fun f=>match f with
  | 86=>true
  | _=>false⟩
def A_Zbb:Loc2 T:=⟨fun id=>match id with
  | _=>none,fun r=>match r with
  | _=>none,fun r=>match r with
  | _=>false⟩
theorem Vhta (x:tySs T S_Zbb.ps):run E_Zbb A_Zbb (Tryz.f64.body.getD .skip) (enterT E_Zbb.C S_Zbb.ps x) (retK E_Zbb Tryz.f64.results.toList S_Zbb.ps S_Zbb.rs)=S_Zbb.fn x:=by kernel_rfl
theorem Vcoa:EnvOk Tryz.prog E_Zbb:=envOk (E:=E_Zbb) cd_ok tys fl_ok fun f ds S h=>by
  dsimp only [E_Zbb] at h
  split at h
  ·cases h; exact Vl4
  ·cases h
theorem Vhua:SoundT Tryz.prog cd gdn 64 S_Zbb:=
 Vab (E:=E_Zbb) (A:=A_Zbb) (done:=[]) (c:=(Tryz.f64.body.getD .skip)) (S:=S_Zbb) (fn:=Tryz.f64) hmix Vcoa Tryz.func64 rfl (by kernel_rfl) (by kernel_rfl) Vaa (by kernel_rfl) (by kernel_rfl) Vhta
def Zbc (a0:(List (ApiItem))) (a1:(BitVec 64)):Option ((Unit)×((BitVec 64)×Unit)):=
 ((Zaz a0 a1).bind fun r1=>(some ((),(r1.2.1.number,()))))
def S_Zbc:FSpec T:=⟨[.f (.v (.rs 1)),.f (.v .u64)],[(.v .u64)],fun x=>Zbc x.1 x.2.1⟩
def E_Zbc:Env T:=⟨tab.find,cd,globs,flc,fun f ds=>match f with
  | 86=>some S_Zaz
  | _=>none,fun f=>match f with
  | 86=>true
  | _=>false⟩
def A_Zbc:Loc2 T:=⟨fun id=>match id with
  | _=>none,fun r=>match r with
  | _=>none,fun r=>match r with
  | _=>false⟩
theorem Vhva (x:tySs T S_Zbc.ps):run E_Zbc A_Zbc (Tryz.f65.body.getD .skip) (enterT E_Zbc.C S_Zbc.ps x) (retK E_Zbc Tryz.f65.results.toList S_Zbc.ps S_Zbc.rs)=S_Zbc.fn x:=by kernel_rfl
theorem Vcpa:EnvOk Tryz.prog E_Zbc:=envOk (E:=E_Zbc) cd_ok tys fl_ok fun f ds S h=>by
  dsimp only [E_Zbc] at h
  split at h
  ·cases h; exact Vl4
  ·cases h
theorem Vhwa:SoundT Tryz.prog cd gdn 65 S_Zbc:=
 Vab (E:=E_Zbc) (A:=A_Zbc) (done:=[]) (c:=(Tryz.f65.body.getD .skip)) (S:=S_Zbc) (fn:=Tryz.f65) hmix Vcpa Tryz.func65 rfl (by kernel_rfl) (by kernel_rfl) Vaa (by kernel_rfl) (by kernel_rfl) Vhva
def Zay (a0:(List (ApiItem))) (a1:(BitVec 64)):Option ((Unit)×(Bool×Unit)):=
 ((Zaz a0 a1).bind fun r1=>(some ((),((decide (r1.2.1.number=1#64)),()))))
def S_Zay:FSpec T:=⟨[.f (.v (.rs 1)),.f (.v .u64)],[(.v .bool)],fun x=>Zay x.1 x.2.1⟩
def E_Zay:Env T:=⟨tab.find,cd,globs,flc,fun f ds=>match f with
  | 86=>some S_Zaz
  | _=>none,fun f=>match f with
  | 86=>true
  | _=>false⟩
def A_Zay:Loc2 T:=⟨fun id=>match id with
  | _=>none,fun r=>match r with
  | _=>none,fun r=>match r with
  | _=>false⟩
theorem Vhxa (x:tySs T S_Zay.ps):run E_Zay A_Zay (Tryz.f66.body.getD .skip) (enterT E_Zay.C S_Zay.ps x) (retK E_Zay Tryz.f66.results.toList S_Zay.ps S_Zay.rs)=S_Zay.fn x:=by kernel_rfl
theorem Vcqa:EnvOk Tryz.prog E_Zay:=envOk (E:=E_Zay) cd_ok tys fl_ok fun f ds S h=>by
  dsimp only [E_Zay] at h
  split at h
  ·cases h; exact Vl4
  ·cases h
theorem Vhya:SoundT Tryz.prog cd gdn 66 S_Zay:=
 Vab (E:=E_Zay) (A:=A_Zay) (done:=[]) (c:=(Tryz.f66.body.getD .skip)) (S:=S_Zay) (fn:=Tryz.f66) hmix Vcqa Tryz.func66 rfl (by kernel_rfl) (by kernel_rfl) Vaa (by kernel_rfl) (by kernel_rfl) Vhxa
def Zdc_L0b (y0:(ApiReply×Unit)) (y1:Ybq) (y2:(List (List ApiItem))) (y3:Int) (y4:Int):Option (((ApiReply×Unit)×Ybq×(List (List ApiItem))×Int×Int×Unit)⊕((ApiReply×Unit)×Ybq×Unit)):=
 (bif (decide (y4<y3)) then (bif (decide ((0:Int)≤y4)&&decide (y4<((y2).length:Int))) then (((y2)[(y4).toNat]?).bind fun x18=>((Zbb x18 (1#64)).bind fun r19=>((Zbb x18 (2#64)).bind fun r20=>((Zbb x18 (3#64)).bind fun r21=>((Zar x18 (4#64)).bind fun r22=>((Zap x18 (5#64)).bind fun r23=>(let v24:List (ApiEntry):=([(⟨r19.2.1,r20.2.1,r21.2.1,r22.2.1,r23.2.1⟩:ApiEntry)]:List (ApiEntry))
 (bif small ((y1.2.2.2.2.2.2.2.2.2.2.2.2.2.2.2.2.2.1).length+(v24:List (ApiEntry)).length) 80 then (let v25:List (ApiEntry):=(y1.2.2.2.2.2.2.2.2.2.2.2.2.2.2.2.2.2.1++v24)
 (some (Sum.inl ((y0.1,()),(y1.1,y1.2.1,y1.2.2.1,y1.2.2.2.1,y1.2.2.2.2.1,y1.2.2.2.2.2.1,y1.2.2.2.2.2.2.1,y1.2.2.2.2.2.2.2.1,y1.2.2.2.2.2.2.2.2.1,y1.2.2.2.2.2.2.2.2.2.1,y1.2.2.2.2.2.2.2.2.2.2.1,y1.2.2.2.2.2.2.2.2.2.2.2.1,y1.2.2.2.2.2.2.2.2.2.2.2.2.1,y1.2.2.2.2.2.2.2.2.2.2.2.2.2.1,y1.2.2.2.2.2.2.2.2.2.2.2.2.2.2.1,y1.2.2.2.2.2.2.2.2.2.2.2.2.2.2.2.1,y1.2.2.2.2.2.2.2.2.2.2.2.2.2.2.2.2.1,v25,()),y2,y3,(IntKind.wrap .i64 (y4+(1:Int))),()))))
 else none))))))))
 else none)
 else (some (Sum.inr ((y0.1,()),y1,()))))
def Zdc_L0 (y:((ApiReply×Unit)×Ybq×(List (List ApiItem))×Int×Int×Unit)):Option ((ApiReply×Unit)×Ybq×Unit):=iter (fun (y:((ApiReply×Unit)×Ybq×(List (List ApiItem))×Int×Int×Unit))=>Zdc_L0b y.1 y.2.1 y.2.2.1 y.2.2.2.1 y.2.2.2.2.1) rounds y
def Zdc (a0:(List (ApiItem))):Option ((Unit)×(ApiReply×Unit)):=
 ((Zar a0 (1#64)).bind fun r1=>((Zar a0 (2#64)).bind fun r2=>((Zba a0 (3#64)).bind fun r3=>((Zap a0 (4#64)).bind fun r4=>((Zar a0 (5#64)).bind fun r5=>((Zbb a0 (6#64)).bind fun r6=>((Zbb a0 (7#64)).bind fun r7=>((Zap a0 (8#64)).bind fun r8=>((Zbc a0 (9#64)).bind fun r9=>((Zar a0 (10#64)).bind fun r10=>((Zbc a0 (11#64)).bind fun r11=>((Zap a0 (12#64)).bind fun r12=>((Zap a0 (13#64)).bind fun r13=>((Zap a0 (14#64)).bind fun r14=>((Zay a0 (15#64)).bind fun r15=>((Zay a0 (16#64)).bind fun r16=>((Zak a0 (17#64)).bind fun r17=>((Zdc_L0 (((⟨(0:Int),[],[],[],(0:Int),[],([]:List UInt8),([]:List UInt8),(0:Int),0#64,[],0#64,(0:Int),(0:Int),(0:Int),false,false,[]⟩:ApiReply),()),((0:Int),r1.2.1,r2.2.1,r3.2.1,r4.2.1,r5.2.1,r6.2.1,r7.2.1,r8.2.1,r9.2.1,r10.2.1,r11.2.1,r12.2.1,r13.2.1,r14.2.1,r15.2.1,r16.2.1,[],()),r17.2.1,((r17.2.1).length:Int),(0:Int),())).bind (fun (z26:((ApiReply×Unit)×Ybq×Unit))=>(some ((),((⟨z26.2.1.1,z26.2.1.2.1,z26.2.1.2.2.1,z26.2.1.2.2.2.1,z26.2.1.2.2.2.2.1,z26.2.1.2.2.2.2.2.1,z26.2.1.2.2.2.2.2.2.1,z26.2.1.2.2.2.2.2.2.2.1,z26.2.1.2.2.2.2.2.2.2.2.1,z26.2.1.2.2.2.2.2.2.2.2.2.1,z26.2.1.2.2.2.2.2.2.2.2.2.2.1,z26.2.1.2.2.2.2.2.2.2.2.2.2.2.1,z26.2.1.2.2.2.2.2.2.2.2.2.2.2.2.1,z26.2.1.2.2.2.2.2.2.2.2.2.2.2.2.2.1,z26.2.1.2.2.2.2.2.2.2.2.2.2.2.2.2.2.1,z26.2.1.2.2.2.2.2.2.2.2.2.2.2.2.2.2.2.1,z26.2.1.2.2.2.2.2.2.2.2.2.2.2.2.2.2.2.2.1,z26.2.1.2.2.2.2.2.2.2.2.2.2.2.2.2.2.2.2.2.1⟩:ApiReply),()))))))))))))))))))))))
def S_Zdc:FSpec T:=⟨[.f (.v (.rs 1))],[(.v (.agg 4))],fun x=>Zdc x.1⟩
def E_Zdc:Env T:=⟨tab.find,cd,globs,flc,fun f ds=>match f with
  | 61=>some S_Zar
  | 62=>some S_Zba
  | 63=>some S_Zap
  | 64=>some S_Zbb
  | 65=>some S_Zbc
  | 66=>some S_Zay
  | 67=>some S_Zak
  | _=>none,fun f=>match f with
  | 63=>true
  | 64=>true
  | 65=>true
  | 66=>true
  | _=>false⟩
def A_Zdc:Loc2 T:=⟨fun id=>match id with
  | 0=>some ⟨[(2,.ptr [(.v (.agg 4))]),(3,.ptr [(.v (.int .i64)),(.own 0),(.own 0),(.own 2),(.v (.int .i64)),(.own 0),(.v .str),(.v .str),(.v (.int .i64)),(.v .u64),(.own 0),(.v .u64),(.v (.int .i64)),(.v (.int .i64)),(.v (.int .i64)),(.v .bool),(.v .bool),(.own 3)]),(41,.f (.own 8)),(42,.f (.v (.int .i64))),(43,.f (.v (.int .i64)))],[(.exit 0,[(2,.ptr [(.v (.agg 4))]),(3,.ptr [(.v (.int .i64)),(.own 0),(.own 0),(.own 2),(.v (.int .i64)),(.own 0),(.v .str),(.v .str),(.v (.int .i64)),(.v .u64),(.own 0),(.v .u64),(.v (.int .i64)),(.v (.int .i64)),(.v (.int .i64)),(.v .bool),(.v .bool),(.own 3)])])],Zdc_L0,[]⟩
  | _=>none,fun r=>match r with
  | _=>none,fun r=>match r with
  | 6=>true
  | _=>false⟩
theorem Vui (y0:(ApiReply×Unit)) (y1:Ybq) (y2:(List (List ApiItem))) (y3:Int) (y4:Int):run E_Zdc A_Zdc (loopAt 0 (Tryz.f34.body.getD .skip)) (layC cd [(2,.ptr [(.v (.agg 4))]),(3,.ptr [(.v (.int .i64)),(.own 0),(.own 0),(.own 2),(.v (.int .i64)),(.own 0),(.v .str),(.v .str),(.v (.int .i64)),(.v .u64),(.own 0),(.v .u64),(.v (.int .i64)),(.v (.int .i64)),(.v (.int .i64)),(.v .bool),(.v .bool),(.own 3)]),(41,.f (.own 8)),(42,.f (.v (.int .i64))),(43,.f (.v (.int .i64)))] [] (y0,y1,y2,y3,y4,())) (roundK cd [(2,.ptr [(.v (.agg 4))]),(3,.ptr [(.v (.int .i64)),(.own 0),(.own 0),(.own 2),(.v (.int .i64)),(.own 0),(.v .str),(.v .str),(.v (.int .i64)),(.v .u64),(.own 0),(.v .u64),(.v (.int .i64)),(.v (.int .i64)),(.v (.int .i64)),(.v .bool),(.v .bool),(.own 3)]),(41,.f (.own 8)),(42,.f (.v (.int .i64))),(43,.f (.v (.int .i64)))] [] [(.exit 0,[(2,.ptr [(.v (.agg 4))]),(3,.ptr [(.v (.int .i64)),(.own 0),(.own 0),(.own 2),(.v (.int .i64)),(.own 0),(.v .str),(.v .str),(.v (.int .i64)),(.v .u64),(.own 0),(.v .u64),(.v (.int .i64)),(.v (.int .i64)),(.v (.int .i64)),(.v .bool),(.v .bool),(.own 3)])])])=Zdc_L0b y0 y1 y2 y3 y4:=by kernel_rfl
theorem Vhza (x:tySs T S_Zdc.ps):run E_Zdc A_Zdc (Tryz.f34.body.getD .skip) (enterT E_Zdc.C S_Zdc.ps x) (retK E_Zdc Tryz.f34.results.toList S_Zdc.ps S_Zdc.rs)=S_Zdc.fn x:=by kernel_rfl
theorem Vuj:EnvOk Tryz.prog E_Zdc:=envOk (E:=E_Zdc) cd_ok tys fl_ok fun f ds S h=>by
  dsimp only [E_Zdc] at h
  split at h
  ·cases h; exact Vhna
  ·cases h; exact Vhqa
  ·cases h; exact Vhsa
  ·cases h; exact Vhua
  ·cases h; exact Vhwa
  ·cases h; exact Vhya
  ·cases h; exact Vz6
  ·cases h
theorem Vuk:LoopOk Tryz.prog E_Zdc Tryz.f34.ntmps (kqOf S_Zdc.ps 0) (loopAt 0 (Tryz.f34.body.getD .skip)) ⟨[(2,.ptr [(.v (.agg 4))]),(3,.ptr [(.v (.int .i64)),(.own 0),(.own 0),(.own 2),(.v (.int .i64)),(.own 0),(.v .str),(.v .str),(.v (.int .i64)),(.v .u64),(.own 0),(.v .u64),(.v (.int .i64)),(.v (.int .i64)),(.v (.int .i64)),(.v .bool),(.v .bool),(.own 3)]),(41,.f (.own 8)),(42,.f (.v (.int .i64))),(43,.f (.v (.int .i64)))],[(.exit 0,[(2,.ptr [(.v (.agg 4))]),(3,.ptr [(.v (.int .i64)),(.own 0),(.own 0),(.own 2),(.v (.int .i64)),(.own 0),(.v .str),(.v .str),(.v (.int .i64)),(.v .u64),(.own 0),(.v .u64),(.v (.int .i64)),(.v (.int .i64)),(.v (.int .i64)),(.v .bool),(.v .bool),(.own 3)])])],Zdc_L0,[]⟩:=
 Vaf (A:=A_Zdc) (done:=[]) (c0:=(Tryz.f34.body.getD .skip)) hmix Vuj Vaa rounds (by kernel_rfl) (by kernel_rfl) (fun x=>Vui x.1 x.2.1 x.2.2.1 x.2.2.2.1 x.2.2.2.2.1) (fun _=>rfl)
theorem Vh0a:SoundT Tryz.prog cd gdn 34 S_Zdc:=
 Vab (E:=E_Zdc) (A:=A_Zdc) (done:=[0]) (c:=(Tryz.f34.body.getD .skip)) (S:=S_Zdc) (fn:=Tryz.f34) hmix Vuj Tryz.func34 rfl (by kernel_rfl) (by kernel_rfl) (Vac rfl Vuk Vaa) (by kernel_rfl) (by kernel_rfl) Vhza
def Zdh (a0:(List (UInt8))) (a1:(List (UInt8))):Option ((Unit)×(Bool×Unit)):=
 (some ((),((decide (a0=a1)),())))
def S_Zdh:FSpec T:=⟨[.f (.v (.rs 0)),.f (.v (.rs 0))],[(.v .bool)],fun x=>Zdh x.1 x.2.1⟩
def E_Zdh:Env T:=⟨tab.find,cd,globs,flc,fun f ds=>match f with
  | _=>none,fun f=>match f with
  | _=>false⟩
def A_Zdh:Loc2 T:=⟨fun id=>match id with
  | _=>none,fun r=>match r with
  | _=>none,fun r=>match r with
  | _=>false⟩
theorem Vh1a (x:tySs T S_Zdh.ps):run E_Zdh A_Zdh (Tryz.f35.body.getD .skip) (enterT E_Zdh.C S_Zdh.ps x) (retK E_Zdh Tryz.f35.results.toList S_Zdh.ps S_Zdh.rs)=S_Zdh.fn x:=by kernel_rfl
theorem Vcra:EnvOk Tryz.prog E_Zdh:=envOk (E:=E_Zdh) cd_ok tys fl_ok fun f ds S h=>by cases h
theorem Vh2a:SoundT Tryz.prog cd gdn 35 S_Zdh:=
 Vab (E:=E_Zdh) (A:=A_Zdh) (done:=[]) (c:=(Tryz.f35.body.getD .skip)) (S:=S_Zdh) (fn:=Tryz.f35) hmix Vcra Tryz.func35 rfl (by kernel_rfl) (by kernel_rfl) Vaa (by kernel_rfl) (by kernel_rfl) Vh1a
def Zaw (a0:(List (UInt8))):Option ((Unit)×(ApiReply×Int×Unit)):=
 (bif (decide (((a0).length:Int)=(0:Int))) then (some ((),((⟨(0:Int),[],[],[],(0:Int),[],([]:List UInt8),([]:List UInt8),(0:Int),0#64,[],0#64,(0:Int),(0:Int),(0:Int),false,false,[]⟩:ApiReply),(1:Int),())))
 else (bif (decide ((4096:Int)<((a0).length:Int))) then (some ((),((⟨(0:Int),[],[],[],(0:Int),[],([]:List UInt8),([]:List UInt8),(0:Int),0#64,[],0#64,(0:Int),(0:Int),(0:Int),false,false,[]⟩:ApiReply),(8:Int),())))
 else ((getI a0 (0:Int)).bind fun x1=>(bif (decide ((42:Int)<(x1.toBitVec.toNat:Int))) then (some ((),((⟨(0:Int),[],[],[],(0:Int),[],([]:List UInt8),([]:List UInt8),(0:Int),0#64,[],0#64,(0:Int),(0:Int),(0:Int),false,false,[]⟩:ApiReply),(2:Int),())))
 else ((getI a0 (0:Int)).bind fun x2=>((bif (decide ((x2.toBitVec.toNat:Int)=(0:Int))) then (bif decide ((1:Int)≤((a0).length:Int)) then ((Zdi (List.drop 1 a0)).bind fun r3=>(bif (!decide (r3.2.2.2.1=(0:Int))) then (((some ((),((⟨(0:Int),[],[],[],(0:Int),[],([]:List UInt8),([]:List UInt8),(0:Int),0#64,[],0#64,(0:Int),(0:Int),(0:Int),false,false,[]⟩:ApiReply),r3.2.2.2.1,())))).bind fun q=>some (Sum.inr q))
 else ((Zdc r3.2.1).bind fun r4=>(some (Sum.inl (a0,((⟨(0:Int),[],[],[],(0:Int),[],([]:List UInt8),([]:List UInt8),(0:Int),0#64,[],0#64,(0:Int),(0:Int),(0:Int),false,false,[]⟩:ApiReply),()),(r4.2.1,()),()))))))
 else none)
 else (some (Sum.inl (a0,((⟨(0:Int),[],[],[],(0:Int),[],([]:List UInt8),([]:List UInt8),(0:Int),0#64,[],0#64,(0:Int),(0:Int),(0:Int),false,false,[]⟩:ApiReply),()),((⟨(x2.toBitVec.toNat:Int),[],[],[],(0:Int),[],([]:List UInt8),([]:List UInt8),(0:Int),0#64,[],0#64,(0:Int),(0:Int),(0:Int),false,false,[]⟩:ApiReply),()),())))).bind (Sum.elim (fun (j5:((List (UInt8))×(ApiReply×Unit)×(ApiReply×Unit)×Unit))=>((Zax j5.2.2.1.1).bind fun r6=>(bif (!decide (r6.2.2.1=(0:Int))) then (some ((),((⟨(0:Int),[],[],[],(0:Int),[],([]:List UInt8),([]:List UInt8),(0:Int),0#64,[],0#64,(0:Int),(0:Int),(0:Int),false,false,[]⟩:ApiReply),(2:Int),())))
 else ((Zdh r6.2.1 j5.1).bind fun r7=>(bif (!r7.2.1) then (some ((),((⟨(0:Int),[],[],[],(0:Int),[],([]:List UInt8),([]:List UInt8),(0:Int),0#64,[],0#64,(0:Int),(0:Int),(0:Int),false,false,[]⟩:ApiReply),(2:Int),())))
 else (some ((),(j5.2.2.1.1,(0:Int),())))))))) some)))))))
def S_Zaw:FSpec T:=⟨[.f (.v (.rs 0))],[(.v (.agg 4)),(.v (.int .i64))],fun x=>Zaw x.1⟩
def E_Zaw:Env T:=⟨tab.find,cd,globs,flc,fun f ds=>match f with
  | 11=>some S_Zax
  | 33=>some S_Zdi
  | 34=>some S_Zdc
  | 35=>some S_Zdh
  | _=>none,fun f=>match f with
  | 35=>true
  | _=>false⟩
def A_Zaw:Loc2 T:=⟨fun id=>match id with
  | _=>none,fun r=>match r with
  | 13=>some ([(0,.f (.v (.rs 0))),(2,.ptr [(.v (.agg 4))]),(4,.ptr [(.v (.agg 4))])],false)
  | _=>none,fun r=>match r with
  | _=>false⟩
theorem Vh3a (x:tySs T S_Zaw.ps):run E_Zaw A_Zaw (Tryz.f12.body.getD .skip) (enterT E_Zaw.C S_Zaw.ps x) (retK E_Zaw Tryz.f12.results.toList S_Zaw.ps S_Zaw.rs)=S_Zaw.fn x:=by kernel_rfl
theorem Vcsa:EnvOk Tryz.prog E_Zaw:=envOk (E:=E_Zaw) cd_ok tys fl_ok fun f ds S h=>by
  dsimp only [E_Zaw] at h
  split at h
  ·cases h; exact Vtz
  ·cases h; exact Vhja
  ·cases h; exact Vh0a
  ·cases h; exact Vh2a
  ·cases h
theorem Vz7:SoundT Tryz.prog cd gdn 12 S_Zaw:=
 Vab (E:=E_Zaw) (A:=A_Zaw) (done:=[]) (c:=(Tryz.f12.body.getD .skip)) (S:=S_Zaw) (fn:=Tryz.f12) hmix Vcsa Tryz.func12 rfl (by kernel_rfl) (by kernel_rfl) Vaa (by kernel_rfl) (by kernel_rfl) Vh3a
def Zbk:Option ((Unit)×(Bool×Unit)):=
 ((Zan (⟨(1:Int),([]:List UInt8),([]:List UInt8),([]:List UInt8),0#64,(0:Int),(0:Int),[],false,false,false,false,(0:Int),0#64,false,0#64,[],[],(0:Int),[],(0:Int)⟩:ApiRequest)).bind fun r1=>((Zax (⟨(24:Int),[],[],[],(0:Int),[],([]:List UInt8),([]:List UInt8),(0:Int),0#64,[],0#64,(0:Int),(0:Int),(0:Int),false,false,[]⟩:ApiReply)).bind fun r2=>((Zaw r2.2.1).bind fun r3=>(bif (decide (r1.2.2.1=(0:Int))) then (bif (decide (r2.2.2.1=(0:Int))) then (bif (decide (r3.2.2.1=(0:Int))) then (bif (decide (r1.2.1=([1,160]:List UInt8))) then (bif (decide (((r2.2.1).length:Int)=(1:Int))) then (bif (decide (r3.2.1.err=(24:Int))) then ((Zcd (⟨(0:Int),([]:List UInt8),([]:List UInt8),([]:List UInt8),0#64,(0:Int),(0:Int),[],false,false,false,false,(0:Int),0#64,false,0#64,[],[],(0:Int),[],(0:Int)⟩:ApiRequest)).bind fun r4=>(some ((),((decide (r4.2.1=(3:Int))),()))))
 else (some ((),(false,()))))
 else (some ((),(false,()))))
 else (some ((),(false,()))))
 else (some ((),(false,()))))
 else (some ((),(false,()))))
 else (some ((),(false,())))))))
def S_Zbk:FSpec T:=⟨[],[(.v .bool)],fun x=>Zbk ⟩
def E_Zbk:Env T:=⟨tab.find,cd,globs,flc,fun f ds=>match f with
  | 10=>some S_Zan
  | 11=>some S_Zax
  | 12=>some S_Zaw
  | 13=>some S_Zcd
  | _=>none,fun f=>match f with
  | 13=>true
  | _=>false⟩
def A_Zbk:Loc2 T:=⟨fun id=>match id with
  | _=>none,fun r=>match r with
  | _=>none,fun r=>match r with
  | _=>false⟩
theorem Vh4a (x:tySs T S_Zbk.ps):run E_Zbk A_Zbk (Tryz.f5.body.getD .skip) (enterT E_Zbk.C S_Zbk.ps x) (retK E_Zbk Tryz.f5.results.toList S_Zbk.ps S_Zbk.rs)=S_Zbk.fn x:=by kernel_rfl
theorem Vcta:EnvOk Tryz.prog E_Zbk:=envOk (E:=E_Zbk) cd_ok tys fl_ok fun f ds S h=>by
  dsimp only [E_Zbk] at h
  split at h
  ·cases h; exact Vgwa
  ·cases h; exact Vtz
  ·cases h; exact Vz7
  ·cases h; exact Vzu
  ·cases h
theorem Vh5a:SoundT Tryz.prog cd gdn 5 S_Zbk:=
 Vab (E:=E_Zbk) (A:=A_Zbk) (done:=[]) (c:=(Tryz.f5.body.getD .skip)) (S:=S_Zbk) (fn:=Tryz.f5) hmix Vcta Tryz.func5 rfl (by kernel_rfl) (by kernel_rfl) Vaa (by kernel_rfl) (by kernel_rfl) Vh4a
def Zbe (a0:Int) (a1:Int) (a2:Int):Option ((Unit)×(Bool×Unit)):=
 (bif (decide (a1≤a0)) then (some ((),((decide (a0≤a2)),())))
 else (some ((),(false,()))))
def S_Zbe:FSpec T:=⟨[.f (.v (.int .i64)),.f (.v (.int .i64)),.f (.v (.int .i64))],[(.v .bool)],fun x=>Zbe x.1 x.2.1 x.2.2.1⟩
def E_Zbe:Env T:=⟨tab.find,cd,globs,flc,fun f ds=>match f with
  | _=>none,fun f=>match f with
  | _=>false⟩
def A_Zbe:Loc2 T:=⟨fun id=>match id with
  | _=>none,fun r=>match r with
  | _=>none,fun r=>match r with
  | _=>false⟩
theorem Vh6a (x:tySs T S_Zbe.ps):run E_Zbe A_Zbe (Tryz.f41.body.getD .skip) (enterT E_Zbe.C S_Zbe.ps x) (retK E_Zbe Tryz.f41.results.toList S_Zbe.ps S_Zbe.rs)=S_Zbe.fn x:=by kernel_rfl
theorem Vcua:EnvOk Tryz.prog E_Zbe:=envOk (E:=E_Zbe) cd_ok tys fl_ok fun f ds S h=>by cases h
theorem Vh7a:SoundT Tryz.prog cd gdn 41 S_Zbe:=
 Vab (E:=E_Zbe) (A:=A_Zbe) (done:=[]) (c:=(Tryz.f41.body.getD .skip)) (S:=S_Zbe) (fn:=Tryz.f41) hmix Vcua Tryz.func41 rfl (by kernel_rfl) (by kernel_rfl) Vaa (by kernel_rfl) (by kernel_rfl) Vh6a
def Zam_L0b (y0:(ApiReply×Unit)) (y1:(ApiReply×Unit)) (y2:Int):Option (((ApiReply×Unit)×(ApiReply×Unit)×Int×Unit)⊕((Bool×Unit)⊕((ApiReply×Unit)×(ApiReply×Unit)×Unit))):=
 (bif (decide (y2<((y0.1.certificates).length:Int))) then ((getI y0.1.certificates y2).bind fun x1=>((getI y1.1.certificates y2).bind fun x2=>(bif (!decide (x1=x2)) then (some (Sum.inr (Sum.inl (false,()))))
 else (some (Sum.inl ((y0.1,()),(y1.1,()),(IntKind.wrap .i64 (y2+(1:Int))),()))))))
 else (some (Sum.inr (Sum.inr ((y0.1,()),(y1.1,()),())))))
def Zam_L0 (y:((ApiReply×Unit)×(ApiReply×Unit)×Int×Unit)):Option ((Bool×Unit)⊕((ApiReply×Unit)×(ApiReply×Unit)×Unit)):=iter (fun (y:((ApiReply×Unit)×(ApiReply×Unit)×Int×Unit))=>Zam_L0b y.1 y.2.1 y.2.2.1) rounds y
def Zam_L2b (y0:(ApiReply×Unit)) (y1:(ApiReply×Unit)) (y2:Int):Option (((ApiReply×Unit)×(ApiReply×Unit)×Int×Unit)⊕((Bool×Unit)⊕((ApiReply×Unit)×(ApiReply×Unit)×Unit))):=
 (bif (decide (y2<((y0.1.entries).length:Int))) then ((getI y0.1.entries y2).bind fun x5=>((getI y1.1.entries y2).bind fun x6=>(bif (!decide (x5.rP=x6.rP)) then (some (Sum.inr (Sum.inl (false,()))))
 else (bif (!decide (x5.user=x6.user)) then (some (Sum.inr (Sum.inl (false,()))))
 else (bif (!decide (x5.name=x6.name)) then (some (Sum.inr (Sum.inl (false,()))))
 else (bif (!decide (x5.iD=x6.iD)) then (some (Sum.inr (Sum.inl (false,()))))
 else (bif (!decide (x5.left=x6.left)) then (some (Sum.inr (Sum.inl (false,()))))
 else (some (Sum.inl ((y0.1,()),(y1.1,()),(IntKind.wrap .i64 (y2+(1:Int))),()))))))))))
 else (some (Sum.inr (Sum.inr ((y0.1,()),(y1.1,()),())))))
def Zam_L2 (y:((ApiReply×Unit)×(ApiReply×Unit)×Int×Unit)):Option ((Bool×Unit)⊕((ApiReply×Unit)×(ApiReply×Unit)×Unit)):=iter (fun (y:((ApiReply×Unit)×(ApiReply×Unit)×Int×Unit))=>Zam_L2b y.1 y.2.1 y.2.2.1) rounds y
def Zam (a0:ApiReply) (a1:ApiReply):Option ((Unit)×(Bool×Unit)):=
 (bif (!decide (((a0.certificates).length:Int)=((a1.certificates).length:Int))) then (some ((),(false,())))
 else (bif (!decide (((a0.entries).length:Int)=((a1.entries).length:Int))) then (some ((),(false,())))
 else ((Zam_L0 ((a0,()),(a1,()),(0:Int),())).bind (Sum.elim (fun (z3:(Bool×Unit))=>(some ((),(z3.1,())))) (fun (z4:((ApiReply×Unit)×(ApiReply×Unit)×Unit))=>((Zam_L2 ((z4.1.1,()),(z4.2.1.1,()),(0:Int),())).bind (Sum.elim (fun (z7:(Bool×Unit))=>(some ((),(z7.1,())))) (fun (z8:((ApiReply×Unit)×(ApiReply×Unit)×Unit))=>(bif (decide (z8.1.1.err=z8.2.1.1.err)) then (bif (decide (z8.1.1.authData=z8.2.1.1.authData)) then (bif (decide (z8.1.1.signature=z8.2.1.1.signature)) then (bif (decide (z8.1.1.format=z8.2.1.1.format)) then (bif (decide (z8.1.1.iD=z8.2.1.1.iD)) then (bif (decide (z8.1.1.user=z8.2.1.1.user)) then (bif (decide (z8.1.1.name=z8.2.1.1.name)) then (bif (decide (z8.1.1.count=z8.2.1.1.count)) then (bif (decide (z8.1.1.peer=z8.2.1.1.peer)) then (bif (decide (z8.1.1.box=z8.2.1.1.box)) then (bif (decide (z8.1.1.model=z8.2.1.1.model)) then (bif (decide (z8.1.1.retries=z8.2.1.1.retries)) then (bif (decide (z8.1.1.rooms=z8.2.1.1.rooms)) then (bif (decide (z8.1.1.leases=z8.2.1.1.leases)) then (bif (z8.1.1.pinSet == z8.2.1.1.pinSet) then (some ((),((z8.1.1.finger == z8.2.1.1.finger),())))
 else (some ((),(false,()))))
 else (some ((),(false,()))))
 else (some ((),(false,()))))
 else (some ((),(false,()))))
 else (some ((),(false,()))))
 else (some ((),(false,()))))
 else (some ((),(false,()))))
 else (some ((),(false,()))))
 else (some ((),(false,()))))
 else (some ((),(false,()))))
 else (some ((),(false,()))))
 else (some ((),(false,()))))
 else (some ((),(false,()))))
 else (some ((),(false,()))))
 else (some ((),(false,()))))))))))))
def S_Zam:FSpec T:=⟨[.f (.v (.agg 4)),.f (.v (.agg 4))],[(.v .bool)],fun x=>Zam x.1 x.2.1⟩
def E_Zam:Env T:=⟨tab.find,cd,globs,flc,fun f ds=>match f with
  | _=>none,fun f=>match f with
  | _=>false⟩
def A_Zam:Loc2 T:=⟨fun id=>match id with
  | 0=>some ⟨[(2,.ptr [(.v (.agg 4))]),(3,.ptr [(.v (.agg 4))]),(5,.f (.v (.int .i64)))],[(.ret,[(4,.f (.v .bool))]),(.exit 0,[(2,.ptr [(.v (.agg 4))]),(3,.ptr [(.v (.agg 4))])])],Zam_L0,[]⟩
  | 2=>some ⟨[(2,.ptr [(.v (.agg 4))]),(3,.ptr [(.v (.agg 4))]),(6,.f (.v (.int .i64)))],[(.ret,[(4,.f (.v .bool))]),(.exit 2,[(2,.ptr [(.v (.agg 4))]),(3,.ptr [(.v (.agg 4))])])],Zam_L2,[]⟩
  | _=>none,fun r=>match r with
  | _=>none,fun r=>match r with
  | 11=>true
  | _=>false⟩
theorem Vul (y0:(ApiReply×Unit)) (y1:(ApiReply×Unit)) (y2:Int):run E_Zam A_Zam (loopAt 0 (Tryz.f16.body.getD .skip)) (layC cd [(2,.ptr [(.v (.agg 4))]),(3,.ptr [(.v (.agg 4))]),(5,.f (.v (.int .i64)))] [] (y0,y1,y2,())) (roundK cd [(2,.ptr [(.v (.agg 4))]),(3,.ptr [(.v (.agg 4))]),(5,.f (.v (.int .i64)))] [] [(.ret,[(4,.f (.v .bool))]),(.exit 0,[(2,.ptr [(.v (.agg 4))]),(3,.ptr [(.v (.agg 4))])])])=Zam_L0b y0 y1 y2:=by kernel_rfl
theorem Vum (y0:(ApiReply×Unit)) (y1:(ApiReply×Unit)) (y2:Int):run E_Zam A_Zam (loopAt 2 (Tryz.f16.body.getD .skip)) (layC cd [(2,.ptr [(.v (.agg 4))]),(3,.ptr [(.v (.agg 4))]),(6,.f (.v (.int .i64)))] [] (y0,y1,y2,())) (roundK cd [(2,.ptr [(.v (.agg 4))]),(3,.ptr [(.v (.agg 4))]),(6,.f (.v (.int .i64)))] [] [(.ret,[(4,.f (.v .bool))]),(.exit 2,[(2,.ptr [(.v (.agg 4))]),(3,.ptr [(.v (.agg 4))])])])=Zam_L2b y0 y1 y2:=by kernel_rfl
theorem Vh8a (x:tySs T S_Zam.ps):run E_Zam A_Zam (Tryz.f16.body.getD .skip) (enterT E_Zam.C S_Zam.ps x) (retK E_Zam Tryz.f16.results.toList S_Zam.ps S_Zam.rs)=S_Zam.fn x:=by kernel_rfl
theorem Vnp:EnvOk Tryz.prog E_Zam:=envOk (E:=E_Zam) cd_ok tys fl_ok fun f ds S h=>by cases h
theorem Vl5:LoopOk Tryz.prog E_Zam Tryz.f16.ntmps (kqOf S_Zam.ps 0) (loopAt 0 (Tryz.f16.body.getD .skip)) ⟨[(2,.ptr [(.v (.agg 4))]),(3,.ptr [(.v (.agg 4))]),(5,.f (.v (.int .i64)))],[(.ret,[(4,.f (.v .bool))]),(.exit 0,[(2,.ptr [(.v (.agg 4))]),(3,.ptr [(.v (.agg 4))])])],Zam_L0,[]⟩:=
 Vaf (A:=A_Zam) (done:=[]) (c0:=(Tryz.f16.body.getD .skip)) hmix Vnp Vaa rounds (by kernel_rfl) (by kernel_rfl) (fun x=>Vul x.1 x.2.1 x.2.2.1) (fun _=>rfl)
theorem Vun:LoopOk Tryz.prog E_Zam Tryz.f16.ntmps (kqOf S_Zam.ps 0) (loopAt 2 (Tryz.f16.body.getD .skip)) ⟨[(2,.ptr [(.v (.agg 4))]),(3,.ptr [(.v (.agg 4))]),(6,.f (.v (.int .i64)))],[(.ret,[(4,.f (.v .bool))]),(.exit 2,[(2,.ptr [(.v (.agg 4))]),(3,.ptr [(.v (.agg 4))])])],Zam_L2,[]⟩:=
 Vaf (A:=A_Zam) (done:=[0]) (c0:=(Tryz.f16.body.getD .skip)) hmix Vnp (Vac rfl Vl5 Vaa) rounds (by kernel_rfl) (by kernel_rfl) (fun x=>Vum x.1 x.2.1 x.2.2.1) (fun _=>rfl)
theorem Vz8:SoundT Tryz.prog cd gdn 16 S_Zam:=
 Vab (E:=E_Zam) (A:=A_Zam) (done:=[0,2]) (c:=(Tryz.f16.body.getD .skip)) (S:=S_Zam) (fn:=Tryz.f16) hmix Vnp Tryz.func16 rfl (by kernel_rfl) (by kernel_rfl) (Vac rfl Vl5 (Vac rfl Vun Vaa)) (by kernel_rfl) (by kernel_rfl) Vh8a
def Zbt (a0:ApiReply):Option ((Unit)×(Bool×Unit)):=
 ((Zam a0 (⟨a0.err,[],[],[],(0:Int),[],([]:List UInt8),([]:List UInt8),(0:Int),0#64,[],0#64,(0:Int),(0:Int),(0:Int),false,false,[]⟩:ApiReply)).bind fun r1=>(some ((),(r1.2.1,()))))
def S_Zbt:FSpec T:=⟨[.f (.v (.agg 4))],[(.v .bool)],fun x=>Zbt x.1⟩
def E_Zbt:Env T:=⟨tab.find,cd,globs,flc,fun f ds=>match f with
  | 16=>some S_Zam
  | _=>none,fun f=>match f with
  | 16=>true
  | _=>false⟩
def A_Zbt:Loc2 T:=⟨fun id=>match id with
  | _=>none,fun r=>match r with
  | _=>none,fun r=>match r with
  | _=>false⟩
theorem Vh9a (x:tySs T S_Zbt.ps):run E_Zbt A_Zbt (Tryz.f42.body.getD .skip) (enterT E_Zbt.C S_Zbt.ps x) (retK E_Zbt Tryz.f42.results.toList S_Zbt.ps S_Zbt.rs)=S_Zbt.fn x:=by kernel_rfl
theorem Vcva:EnvOk Tryz.prog E_Zbt:=envOk (E:=E_Zbt) cd_ok tys fl_ok fun f ds S h=>by
  dsimp only [E_Zbt] at h
  split at h
  ·cases h; exact Vz8
  ·cases h
theorem Viaa:SoundT Tryz.prog cd gdn 42 S_Zbt:=
 Vab (E:=E_Zbt) (A:=A_Zbt) (done:=[]) (c:=(Tryz.f42.body.getD .skip)) (S:=S_Zbt) (fn:=Tryz.f42) hmix Vcva Tryz.func42 rfl (by kernel_rfl) (by kernel_rfl) Vaa (by kernel_rfl) (by kernel_rfl) Vh9a
def Zaf_L0b (y0:(ApiReply×Unit)) (y1:Int):Option (((ApiReply×Unit)×Int×Unit)⊕((Int×Unit)⊕((ApiReply×Unit)×Unit))):=
 (bif (decide (y1<((y0.1.entries).length:Int))) then ((getI y0.1.entries y1).bind fun x7=>((Zbe x7.left (0:Int) (255:Int)).bind fun r8=>(bif (!r8.2.1) then (some (Sum.inr (Sum.inl ((9:Int),()))))
 else (some (Sum.inl ((y0.1,()),(IntKind.wrap .i64 (y1+(1:Int))),()))))))
 else (some (Sum.inr (Sum.inr ((y0.1,()),())))))
def Zaf_L0 (y:((ApiReply×Unit)×Int×Unit)):Option ((Int×Unit)⊕((ApiReply×Unit)×Unit)):=iter (fun (y:((ApiReply×Unit)×Int×Unit))=>Zaf_L0b y.1 y.2.1) rounds y
def Zaf_L2b (y0:(ApiReply×Unit)) (y1:Bool) (y2:Int):Option (((ApiReply×Unit)×Bool×Int×Unit)⊕((ApiReply×Unit)×Bool×Unit)):=
 (bif (decide (y2<((y0.1.certificates).length:Int))) then (bif y1 then (some (Sum.inl ((y0.1,()),true,(IntKind.wrap .i64 (y2+(1:Int))),())))
 else ((getI y0.1.certificates y2).bind fun x12=>(some (Sum.inl ((y0.1,()),(decide ((1024:Int)<((x12).length:Int))),(IntKind.wrap .i64 (y2+(1:Int))),())))))
 else (some (Sum.inr ((y0.1,()),y1,()))))
def Zaf_L2 (y:((ApiReply×Unit)×Bool×Int×Unit)):Option ((ApiReply×Unit)×Bool×Unit):=iter (fun (y:((ApiReply×Unit)×Bool×Int×Unit))=>Zaf_L2b y.1 y.2.1 y.2.2.1) rounds y
def Zaf_L4b (y0:(ApiReply×Unit)) (y1:Bool) (y2:Bool) (y3:Bool) (y4:Int):Option (((ApiReply×Unit)×Bool×Bool×Bool×Int×Unit)⊕(Bool×Bool×Bool×Unit)):=
 (bif (decide (y4<((y0.1.entries).length:Int))) then ((getI y0.1.entries y4).bind fun x15=>(bif y1 then (bif y2 then ((Zck x15.rP).bind fun r16=>(bif r16.2.1 then ((Zck x15.name).bind fun r17=>(bif y3 then (some (Sum.inl ((y0.1,()),true,r17.2.1,(decide (((x15.iD).length:Int)=(176:Int))),(IntKind.wrap .i64 (y4+(1:Int))),())))
 else (some (Sum.inl ((y0.1,()),true,r17.2.1,false,(IntKind.wrap .i64 (y4+(1:Int))),())))))
 else (bif y3 then (some (Sum.inl ((y0.1,()),true,false,(decide (((x15.iD).length:Int)=(176:Int))),(IntKind.wrap .i64 (y4+(1:Int))),())))
 else (some (Sum.inl ((y0.1,()),true,false,false,(IntKind.wrap .i64 (y4+(1:Int))),()))))))
 else (bif y3 then (some (Sum.inl ((y0.1,()),true,false,(decide (((x15.iD).length:Int)=(176:Int))),(IntKind.wrap .i64 (y4+(1:Int))),())))
 else (some (Sum.inl ((y0.1,()),true,false,false,(IntKind.wrap .i64 (y4+(1:Int))),())))))
 else (bif (decide ((64:Int)<((x15.rP).length:Int))) then (bif y2 then ((Zck x15.rP).bind fun r18=>(bif r18.2.1 then ((Zck x15.name).bind fun r19=>(bif y3 then (some (Sum.inl ((y0.1,()),true,r19.2.1,(decide (((x15.iD).length:Int)=(176:Int))),(IntKind.wrap .i64 (y4+(1:Int))),())))
 else (some (Sum.inl ((y0.1,()),true,r19.2.1,false,(IntKind.wrap .i64 (y4+(1:Int))),())))))
 else (bif y3 then (some (Sum.inl ((y0.1,()),true,false,(decide (((x15.iD).length:Int)=(176:Int))),(IntKind.wrap .i64 (y4+(1:Int))),())))
 else (some (Sum.inl ((y0.1,()),true,false,false,(IntKind.wrap .i64 (y4+(1:Int))),()))))))
 else (bif y3 then (some (Sum.inl ((y0.1,()),true,false,(decide (((x15.iD).length:Int)=(176:Int))),(IntKind.wrap .i64 (y4+(1:Int))),())))
 else (some (Sum.inl ((y0.1,()),true,false,false,(IntKind.wrap .i64 (y4+(1:Int))),())))))
 else (bif (decide ((16:Int)<((x15.user).length:Int))) then (bif y2 then ((Zck x15.rP).bind fun r20=>(bif r20.2.1 then ((Zck x15.name).bind fun r21=>(bif y3 then (some (Sum.inl ((y0.1,()),true,r21.2.1,(decide (((x15.iD).length:Int)=(176:Int))),(IntKind.wrap .i64 (y4+(1:Int))),())))
 else (some (Sum.inl ((y0.1,()),true,r21.2.1,false,(IntKind.wrap .i64 (y4+(1:Int))),())))))
 else (bif y3 then (some (Sum.inl ((y0.1,()),true,false,(decide (((x15.iD).length:Int)=(176:Int))),(IntKind.wrap .i64 (y4+(1:Int))),())))
 else (some (Sum.inl ((y0.1,()),true,false,false,(IntKind.wrap .i64 (y4+(1:Int))),()))))))
 else (bif y3 then (some (Sum.inl ((y0.1,()),true,false,(decide (((x15.iD).length:Int)=(176:Int))),(IntKind.wrap .i64 (y4+(1:Int))),())))
 else (some (Sum.inl ((y0.1,()),true,false,false,(IntKind.wrap .i64 (y4+(1:Int))),())))))
 else (bif y2 then ((Zck x15.rP).bind fun r22=>(bif r22.2.1 then ((Zck x15.name).bind fun r23=>(bif y3 then (some (Sum.inl ((y0.1,()),(decide ((32:Int)<((x15.name).length:Int))),r23.2.1,(decide (((x15.iD).length:Int)=(176:Int))),(IntKind.wrap .i64 (y4+(1:Int))),())))
 else (some (Sum.inl ((y0.1,()),(decide ((32:Int)<((x15.name).length:Int))),r23.2.1,false,(IntKind.wrap .i64 (y4+(1:Int))),())))))
 else (bif y3 then (some (Sum.inl ((y0.1,()),(decide ((32:Int)<((x15.name).length:Int))),false,(decide (((x15.iD).length:Int)=(176:Int))),(IntKind.wrap .i64 (y4+(1:Int))),())))
 else (some (Sum.inl ((y0.1,()),(decide ((32:Int)<((x15.name).length:Int))),false,false,(IntKind.wrap .i64 (y4+(1:Int))),()))))))
 else (bif y3 then (some (Sum.inl ((y0.1,()),(decide ((32:Int)<((x15.name).length:Int))),false,(decide (((x15.iD).length:Int)=(176:Int))),(IntKind.wrap .i64 (y4+(1:Int))),())))
 else (some (Sum.inl ((y0.1,()),(decide ((32:Int)<((x15.name).length:Int))),false,false,(IntKind.wrap .i64 (y4+(1:Int))),())))))))))
 else (some (Sum.inr (y1,y2,y3,()))))
def Zaf_L4 (y:((ApiReply×Unit)×Bool×Bool×Bool×Int×Unit)):Option (Bool×Bool×Bool×Unit):=iter (fun (y:((ApiReply×Unit)×Bool×Bool×Bool×Int×Unit))=>Zaf_L4b y.1 y.2.1 y.2.2.1 y.2.2.2.1 y.2.2.2.2.1) rounds y
def Zaf (a0:ApiReply):Option ((Unit)×(Int×Unit)):=
 ((Zbe a0.err (0:Int) (42:Int)).bind fun r1=>(bif (!r1.2.1) then (some ((),((9:Int),())))
 else ((Zbe a0.format (0:Int) (255:Int)).bind fun r2=>(bif (!r2.2.1) then (some ((),((9:Int),())))
 else ((Zbe a0.count (0:Int) (255:Int)).bind fun r3=>(bif (!r3.2.1) then (some ((),((9:Int),())))
 else ((Zbe a0.retries (0:Int) (255:Int)).bind fun r4=>(bif (!r4.2.1) then (some ((),((9:Int),())))
 else ((Zbe a0.rooms (0:Int) (255:Int)).bind fun r5=>(bif (!r5.2.1) then (some ((),((9:Int),())))
 else ((Zbe a0.leases (0:Int) (255:Int)).bind fun r6=>(bif (!r6.2.1) then (some ((),((9:Int),())))
 else ((Zaf_L0 ((a0,()),(0:Int),())).bind (Sum.elim (fun (z9:(Int×Unit))=>(some ((),(z9.1,())))) (fun (z10:((ApiReply×Unit)×Unit))=>(bif (!decide (z10.1.1.err=(0:Int))) then ((Zbt z10.1.1).bind fun r11=>(bif (!r11.2.1) then (some ((),((4:Int),())))
 else (bif (decide ((1024:Int)<((z10.1.1.authData).length:Int))) then ((Zaf_L2 ((z10.1.1,()),true,(0:Int),())).bind (fun (z13:((ApiReply×Unit)×Bool×Unit))=>((Zck z13.1.1.name).bind fun r14=>(bif (decide (((z13.1.1.iD).length:Int)=(0:Int))) then ((Zaf_L4 ((z13.1.1,()),z13.2.1,r14.2.1,true,(0:Int),())).bind (fun (z24:(Bool×Bool×Bool×Unit))=>(bif z24.1 then (some ((),((8:Int),())))
 else (bif (!z24.2.1) then (some ((),((6:Int),())))
 else (bif (!z24.2.2.1) then (some ((),((4:Int),())))
 else (some ((),((0:Int),()))))))))
 else ((Zaf_L4 ((z13.1.1,()),z13.2.1,r14.2.1,(decide (((z13.1.1.iD).length:Int)=(176:Int))),(0:Int),())).bind (fun (z25:(Bool×Bool×Bool×Unit))=>(bif z25.1 then (some ((),((8:Int),())))
 else (bif (!z25.2.1) then (some ((),((6:Int),())))
 else (bif (!z25.2.2.1) then (some ((),((4:Int),())))
 else (some ((),((0:Int),()))))))))))))
 else (bif (decide ((1024:Int)<((z10.1.1.signature).length:Int))) then ((Zaf_L2 ((z10.1.1,()),true,(0:Int),())).bind (fun (z26:((ApiReply×Unit)×Bool×Unit))=>((Zck z26.1.1.name).bind fun r27=>(bif (decide (((z26.1.1.iD).length:Int)=(0:Int))) then ((Zaf_L4 ((z26.1.1,()),z26.2.1,r27.2.1,true,(0:Int),())).bind (fun (z28:(Bool×Bool×Bool×Unit))=>(bif z28.1 then (some ((),((8:Int),())))
 else (bif (!z28.2.1) then (some ((),((6:Int),())))
 else (bif (!z28.2.2.1) then (some ((),((4:Int),())))
 else (some ((),((0:Int),()))))))))
 else ((Zaf_L4 ((z26.1.1,()),z26.2.1,r27.2.1,(decide (((z26.1.1.iD).length:Int)=(176:Int))),(0:Int),())).bind (fun (z29:(Bool×Bool×Bool×Unit))=>(bif z29.1 then (some ((),((8:Int),())))
 else (bif (!z29.2.1) then (some ((),((6:Int),())))
 else (bif (!z29.2.2.1) then (some ((),((4:Int),())))
 else (some ((),((0:Int),()))))))))))))
 else (bif (decide ((1024:Int)<((z10.1.1.box).length:Int))) then ((Zaf_L2 ((z10.1.1,()),true,(0:Int),())).bind (fun (z30:((ApiReply×Unit)×Bool×Unit))=>((Zck z30.1.1.name).bind fun r31=>(bif (decide (((z30.1.1.iD).length:Int)=(0:Int))) then ((Zaf_L4 ((z30.1.1,()),z30.2.1,r31.2.1,true,(0:Int),())).bind (fun (z32:(Bool×Bool×Bool×Unit))=>(bif z32.1 then (some ((),((8:Int),())))
 else (bif (!z32.2.1) then (some ((),((6:Int),())))
 else (bif (!z32.2.2.1) then (some ((),((4:Int),())))
 else (some ((),((0:Int),()))))))))
 else ((Zaf_L4 ((z30.1.1,()),z30.2.1,r31.2.1,(decide (((z30.1.1.iD).length:Int)=(176:Int))),(0:Int),())).bind (fun (z33:(Bool×Bool×Bool×Unit))=>(bif z33.1 then (some ((),((8:Int),())))
 else (bif (!z33.2.1) then (some ((),((6:Int),())))
 else (bif (!z33.2.2.1) then (some ((),((4:Int),())))
 else (some ((),((0:Int),()))))))))))))
 else (bif (decide ((3:Int)<((z10.1.1.certificates).length:Int))) then ((Zaf_L2 ((z10.1.1,()),true,(0:Int),())).bind (fun (z34:((ApiReply×Unit)×Bool×Unit))=>((Zck z34.1.1.name).bind fun r35=>(bif (decide (((z34.1.1.iD).length:Int)=(0:Int))) then ((Zaf_L4 ((z34.1.1,()),z34.2.1,r35.2.1,true,(0:Int),())).bind (fun (z36:(Bool×Bool×Bool×Unit))=>(bif z36.1 then (some ((),((8:Int),())))
 else (bif (!z36.2.1) then (some ((),((6:Int),())))
 else (bif (!z36.2.2.1) then (some ((),((4:Int),())))
 else (some ((),((0:Int),()))))))))
 else ((Zaf_L4 ((z34.1.1,()),z34.2.1,r35.2.1,(decide (((z34.1.1.iD).length:Int)=(176:Int))),(0:Int),())).bind (fun (z37:(Bool×Bool×Bool×Unit))=>(bif z37.1 then (some ((),((8:Int),())))
 else (bif (!z37.2.1) then (some ((),((6:Int),())))
 else (bif (!z37.2.2.1) then (some ((),((4:Int),())))
 else (some ((),((0:Int),()))))))))))))
 else (bif (decide ((8:Int)<((z10.1.1.entries).length:Int))) then ((Zaf_L2 ((z10.1.1,()),true,(0:Int),())).bind (fun (z38:((ApiReply×Unit)×Bool×Unit))=>((Zck z38.1.1.name).bind fun r39=>(bif (decide (((z38.1.1.iD).length:Int)=(0:Int))) then ((Zaf_L4 ((z38.1.1,()),z38.2.1,r39.2.1,true,(0:Int),())).bind (fun (z40:(Bool×Bool×Bool×Unit))=>(bif z40.1 then (some ((),((8:Int),())))
 else (bif (!z40.2.1) then (some ((),((6:Int),())))
 else (bif (!z40.2.2.1) then (some ((),((4:Int),())))
 else (some ((),((0:Int),()))))))))
 else ((Zaf_L4 ((z38.1.1,()),z38.2.1,r39.2.1,(decide (((z38.1.1.iD).length:Int)=(176:Int))),(0:Int),())).bind (fun (z41:(Bool×Bool×Bool×Unit))=>(bif z41.1 then (some ((),((8:Int),())))
 else (bif (!z41.2.1) then (some ((),((6:Int),())))
 else (bif (!z41.2.2.1) then (some ((),((4:Int),())))
 else (some ((),((0:Int),()))))))))))))
 else (bif (decide ((16:Int)<((z10.1.1.user).length:Int))) then ((Zaf_L2 ((z10.1.1,()),true,(0:Int),())).bind (fun (z42:((ApiReply×Unit)×Bool×Unit))=>((Zck z42.1.1.name).bind fun r43=>(bif (decide (((z42.1.1.iD).length:Int)=(0:Int))) then ((Zaf_L4 ((z42.1.1,()),z42.2.1,r43.2.1,true,(0:Int),())).bind (fun (z44:(Bool×Bool×Bool×Unit))=>(bif z44.1 then (some ((),((8:Int),())))
 else (bif (!z44.2.1) then (some ((),((6:Int),())))
 else (bif (!z44.2.2.1) then (some ((),((4:Int),())))
 else (some ((),((0:Int),()))))))))
 else ((Zaf_L4 ((z42.1.1,()),z42.2.1,r43.2.1,(decide (((z42.1.1.iD).length:Int)=(176:Int))),(0:Int),())).bind (fun (z45:(Bool×Bool×Bool×Unit))=>(bif z45.1 then (some ((),((8:Int),())))
 else (bif (!z45.2.1) then (some ((),((6:Int),())))
 else (bif (!z45.2.2.1) then (some ((),((4:Int),())))
 else (some ((),((0:Int),()))))))))))))
 else ((Zaf_L2 ((z10.1.1,()),(decide ((32:Int)<((z10.1.1.name).length:Int))),(0:Int),())).bind (fun (z46:((ApiReply×Unit)×Bool×Unit))=>((Zck z46.1.1.name).bind fun r47=>(bif (decide (((z46.1.1.iD).length:Int)=(0:Int))) then ((Zaf_L4 ((z46.1.1,()),z46.2.1,r47.2.1,true,(0:Int),())).bind (fun (z48:(Bool×Bool×Bool×Unit))=>(bif z48.1 then (some ((),((8:Int),())))
 else (bif (!z48.2.1) then (some ((),((6:Int),())))
 else (bif (!z48.2.2.1) then (some ((),((4:Int),())))
 else (some ((),((0:Int),()))))))))
 else ((Zaf_L4 ((z46.1.1,()),z46.2.1,r47.2.1,(decide (((z46.1.1.iD).length:Int)=(176:Int))),(0:Int),())).bind (fun (z49:(Bool×Bool×Bool×Unit))=>(bif z49.1 then (some ((),((8:Int),())))
 else (bif (!z49.2.1) then (some ((),((6:Int),())))
 else (bif (!z49.2.2.1) then (some ((),((4:Int),())))
 else (some ((),((0:Int),()))))))))))))))))))))
 else (bif (decide ((1024:Int)<((z10.1.1.authData).length:Int))) then ((Zaf_L2 ((z10.1.1,()),true,(0:Int),())).bind (fun (z50:((ApiReply×Unit)×Bool×Unit))=>((Zck z50.1.1.name).bind fun r51=>(bif (decide (((z50.1.1.iD).length:Int)=(0:Int))) then ((Zaf_L4 ((z50.1.1,()),z50.2.1,r51.2.1,true,(0:Int),())).bind (fun (z52:(Bool×Bool×Bool×Unit))=>(bif z52.1 then (some ((),((8:Int),())))
 else (bif (!z52.2.1) then (some ((),((6:Int),())))
 else (bif (!z52.2.2.1) then (some ((),((4:Int),())))
 else (some ((),((0:Int),()))))))))
 else ((Zaf_L4 ((z50.1.1,()),z50.2.1,r51.2.1,(decide (((z50.1.1.iD).length:Int)=(176:Int))),(0:Int),())).bind (fun (z53:(Bool×Bool×Bool×Unit))=>(bif z53.1 then (some ((),((8:Int),())))
 else (bif (!z53.2.1) then (some ((),((6:Int),())))
 else (bif (!z53.2.2.1) then (some ((),((4:Int),())))
 else (some ((),((0:Int),()))))))))))))
 else (bif (decide ((1024:Int)<((z10.1.1.signature).length:Int))) then ((Zaf_L2 ((z10.1.1,()),true,(0:Int),())).bind (fun (z54:((ApiReply×Unit)×Bool×Unit))=>((Zck z54.1.1.name).bind fun r55=>(bif (decide (((z54.1.1.iD).length:Int)=(0:Int))) then ((Zaf_L4 ((z54.1.1,()),z54.2.1,r55.2.1,true,(0:Int),())).bind (fun (z56:(Bool×Bool×Bool×Unit))=>(bif z56.1 then (some ((),((8:Int),())))
 else (bif (!z56.2.1) then (some ((),((6:Int),())))
 else (bif (!z56.2.2.1) then (some ((),((4:Int),())))
 else (some ((),((0:Int),()))))))))
 else ((Zaf_L4 ((z54.1.1,()),z54.2.1,r55.2.1,(decide (((z54.1.1.iD).length:Int)=(176:Int))),(0:Int),())).bind (fun (z57:(Bool×Bool×Bool×Unit))=>(bif z57.1 then (some ((),((8:Int),())))
 else (bif (!z57.2.1) then (some ((),((6:Int),())))
 else (bif (!z57.2.2.1) then (some ((),((4:Int),())))
 else (some ((),((0:Int),()))))))))))))
 else (bif (decide ((1024:Int)<((z10.1.1.box).length:Int))) then ((Zaf_L2 ((z10.1.1,()),true,(0:Int),())).bind (fun (z58:((ApiReply×Unit)×Bool×Unit))=>((Zck z58.1.1.name).bind fun r59=>(bif (decide (((z58.1.1.iD).length:Int)=(0:Int))) then ((Zaf_L4 ((z58.1.1,()),z58.2.1,r59.2.1,true,(0:Int),())).bind (fun (z60:(Bool×Bool×Bool×Unit))=>(bif z60.1 then (some ((),((8:Int),())))
 else (bif (!z60.2.1) then (some ((),((6:Int),())))
 else (bif (!z60.2.2.1) then (some ((),((4:Int),())))
 else (some ((),((0:Int),()))))))))
 else ((Zaf_L4 ((z58.1.1,()),z58.2.1,r59.2.1,(decide (((z58.1.1.iD).length:Int)=(176:Int))),(0:Int),())).bind (fun (z61:(Bool×Bool×Bool×Unit))=>(bif z61.1 then (some ((),((8:Int),())))
 else (bif (!z61.2.1) then (some ((),((6:Int),())))
 else (bif (!z61.2.2.1) then (some ((),((4:Int),())))
 else (some ((),((0:Int),()))))))))))))
 else (bif (decide ((3:Int)<((z10.1.1.certificates).length:Int))) then ((Zaf_L2 ((z10.1.1,()),true,(0:Int),())).bind (fun (z62:((ApiReply×Unit)×Bool×Unit))=>((Zck z62.1.1.name).bind fun r63=>(bif (decide (((z62.1.1.iD).length:Int)=(0:Int))) then ((Zaf_L4 ((z62.1.1,()),z62.2.1,r63.2.1,true,(0:Int),())).bind (fun (z64:(Bool×Bool×Bool×Unit))=>(bif z64.1 then (some ((),((8:Int),())))
 else (bif (!z64.2.1) then (some ((),((6:Int),())))
 else (bif (!z64.2.2.1) then (some ((),((4:Int),())))
 else (some ((),((0:Int),()))))))))
 else ((Zaf_L4 ((z62.1.1,()),z62.2.1,r63.2.1,(decide (((z62.1.1.iD).length:Int)=(176:Int))),(0:Int),())).bind (fun (z65:(Bool×Bool×Bool×Unit))=>(bif z65.1 then (some ((),((8:Int),())))
 else (bif (!z65.2.1) then (some ((),((6:Int),())))
 else (bif (!z65.2.2.1) then (some ((),((4:Int),())))
 else (some ((),((0:Int),()))))))))))))
 else (bif (decide ((8:Int)<((z10.1.1.entries).length:Int))) then ((Zaf_L2 ((z10.1.1,()),true,(0:Int),())).bind (fun (z66:((ApiReply×Unit)×Bool×Unit))=>((Zck z66.1.1.name).bind fun r67=>(bif (decide (((z66.1.1.iD).length:Int)=(0:Int))) then ((Zaf_L4 ((z66.1.1,()),z66.2.1,r67.2.1,true,(0:Int),())).bind (fun (z68:(Bool×Bool×Bool×Unit))=>(bif z68.1 then (some ((),((8:Int),())))
 else (bif (!z68.2.1) then (some ((),((6:Int),())))
 else (bif (!z68.2.2.1) then (some ((),((4:Int),())))
 else (some ((),((0:Int),()))))))))
 else ((Zaf_L4 ((z66.1.1,()),z66.2.1,r67.2.1,(decide (((z66.1.1.iD).length:Int)=(176:Int))),(0:Int),())).bind (fun (z69:(Bool×Bool×Bool×Unit))=>(bif z69.1 then (some ((),((8:Int),())))
 else (bif (!z69.2.1) then (some ((),((6:Int),())))
 else (bif (!z69.2.2.1) then (some ((),((4:Int),())))
 else (some ((),((0:Int),()))))))))))))
 else (bif (decide ((16:Int)<((z10.1.1.user).length:Int))) then ((Zaf_L2 ((z10.1.1,()),true,(0:Int),())).bind (fun (z70:((ApiReply×Unit)×Bool×Unit))=>((Zck z70.1.1.name).bind fun r71=>(bif (decide (((z70.1.1.iD).length:Int)=(0:Int))) then ((Zaf_L4 ((z70.1.1,()),z70.2.1,r71.2.1,true,(0:Int),())).bind (fun (z72:(Bool×Bool×Bool×Unit))=>(bif z72.1 then (some ((),((8:Int),())))
 else (bif (!z72.2.1) then (some ((),((6:Int),())))
 else (bif (!z72.2.2.1) then (some ((),((4:Int),())))
 else (some ((),((0:Int),()))))))))
 else ((Zaf_L4 ((z70.1.1,()),z70.2.1,r71.2.1,(decide (((z70.1.1.iD).length:Int)=(176:Int))),(0:Int),())).bind (fun (z73:(Bool×Bool×Bool×Unit))=>(bif z73.1 then (some ((),((8:Int),())))
 else (bif (!z73.2.1) then (some ((),((6:Int),())))
 else (bif (!z73.2.2.1) then (some ((),((4:Int),())))
 else (some ((),((0:Int),()))))))))))))
 else ((Zaf_L2 ((z10.1.1,()),(decide ((32:Int)<((z10.1.1.name).length:Int))),(0:Int),())).bind (fun (z74:((ApiReply×Unit)×Bool×Unit))=>((Zck z74.1.1.name).bind fun r75=>(bif (decide (((z74.1.1.iD).length:Int)=(0:Int))) then ((Zaf_L4 ((z74.1.1,()),z74.2.1,r75.2.1,true,(0:Int),())).bind (fun (z76:(Bool×Bool×Bool×Unit))=>(bif z76.1 then (some ((),((8:Int),())))
 else (bif (!z76.2.1) then (some ((),((6:Int),())))
 else (bif (!z76.2.2.1) then (some ((),((4:Int),())))
 else (some ((),((0:Int),()))))))))
 else ((Zaf_L4 ((z74.1.1,()),z74.2.1,r75.2.1,(decide (((z74.1.1.iD).length:Int)=(176:Int))),(0:Int),())).bind (fun (z77:(Bool×Bool×Bool×Unit))=>(bif z77.1 then (some ((),((8:Int),())))
 else (bif (!z77.2.1) then (some ((),((6:Int),())))
 else (bif (!z77.2.2.1) then (some ((),((4:Int),())))
 else (some ((),((0:Int),()))))))))))))))))))))))))))))))))))
def S_Zaf:FSpec T:=⟨[.f (.v (.agg 4))],[(.v (.int .i64))],fun x=>Zaf x.1⟩
def E_Zaf:Env T:=⟨tab.find,cd,globs,flc,fun f ds=>match f with
  | 37=>some S_Zck
  | 41=>some S_Zbe
  | 42=>some S_Zbt
  | _=>none,fun f=>match f with
  | 37=>true
  | 41=>true
  | 42=>true
  | _=>false⟩
def A_Zaf:Loc2 T:=⟨fun id=>match id with
  | 0=>some ⟨[(1,.ptr [(.v (.agg 4))]),(3,.f (.v (.int .i64)))],[(.ret,[(2,.f (.v (.int .i64)))]),(.exit 0,[(1,.ptr [(.v (.agg 4))])])],Zaf_L0,[]⟩
  | 2=>some ⟨[(1,.ptr [(.v (.agg 4))]),(4,.f (.v .bool)),(5,.f (.v (.int .i64)))],[(.exit 2,[(1,.ptr [(.v (.agg 4))]),(4,.f (.v .bool))])],Zaf_L2,[]⟩
  | 4=>some ⟨[(1,.ptr [(.v (.agg 4))]),(4,.f (.v .bool)),(6,.f (.v .bool)),(7,.f (.v .bool)),(8,.f (.v (.int .i64)))],[(.exit 4,[(4,.f (.v .bool)),(6,.f (.v .bool)),(7,.f (.v .bool))])],Zaf_L4,[]⟩
  | _=>none,fun r=>match r with
  | _=>none,fun r=>match r with
  | _=>false⟩
theorem Vuo (y0:(ApiReply×Unit)) (y1:Int):run E_Zaf A_Zaf (loopAt 0 (Tryz.f15.body.getD .skip)) (layC cd [(1,.ptr [(.v (.agg 4))]),(3,.f (.v (.int .i64)))] [] (y0,y1,())) (roundK cd [(1,.ptr [(.v (.agg 4))]),(3,.f (.v (.int .i64)))] [] [(.ret,[(2,.f (.v (.int .i64)))]),(.exit 0,[(1,.ptr [(.v (.agg 4))])])])=Zaf_L0b y0 y1:=by kernel_rfl
theorem Vup (y0:(ApiReply×Unit)) (y1:Bool) (y2:Int):run E_Zaf A_Zaf (loopAt 2 (Tryz.f15.body.getD .skip)) (layC cd [(1,.ptr [(.v (.agg 4))]),(4,.f (.v .bool)),(5,.f (.v (.int .i64)))] [] (y0,y1,y2,())) (roundK cd [(1,.ptr [(.v (.agg 4))]),(4,.f (.v .bool)),(5,.f (.v (.int .i64)))] [] [(.exit 2,[(1,.ptr [(.v (.agg 4))]),(4,.f (.v .bool))])])=Zaf_L2b y0 y1 y2:=by kernel_rfl
theorem Vuq (y0:(ApiReply×Unit)) (y1:Bool) (y2:Bool) (y3:Bool) (y4:Int):run E_Zaf A_Zaf (loopAt 4 (Tryz.f15.body.getD .skip)) (layC cd [(1,.ptr [(.v (.agg 4))]),(4,.f (.v .bool)),(6,.f (.v .bool)),(7,.f (.v .bool)),(8,.f (.v (.int .i64)))] [] (y0,y1,y2,y3,y4,())) (roundK cd [(1,.ptr [(.v (.agg 4))]),(4,.f (.v .bool)),(6,.f (.v .bool)),(7,.f (.v .bool)),(8,.f (.v (.int .i64)))] [] [(.exit 4,[(4,.f (.v .bool)),(6,.f (.v .bool)),(7,.f (.v .bool))])])=Zaf_L4b y0 y1 y2 y3 y4:=by kernel_rfl
theorem Viba (x:tySs T S_Zaf.ps):run E_Zaf A_Zaf (Tryz.f15.body.getD .skip) (enterT E_Zaf.C S_Zaf.ps x) (retK E_Zaf Tryz.f15.results.toList S_Zaf.ps S_Zaf.rs)=S_Zaf.fn x:=by kernel_rfl
theorem Vkf:EnvOk Tryz.prog E_Zaf:=envOk (E:=E_Zaf) cd_ok tys fl_ok fun f ds S h=>by
  dsimp only [E_Zaf] at h
  split at h
  ·cases h; exact Vjm
  ·cases h; exact Vh7a
  ·cases h; exact Viaa
  ·cases h
theorem Vhu:LoopOk Tryz.prog E_Zaf Tryz.f15.ntmps (kqOf S_Zaf.ps 0) (loopAt 0 (Tryz.f15.body.getD .skip)) ⟨[(1,.ptr [(.v (.agg 4))]),(3,.f (.v (.int .i64)))],[(.ret,[(2,.f (.v (.int .i64)))]),(.exit 0,[(1,.ptr [(.v (.agg 4))])])],Zaf_L0,[]⟩:=
 Vaf (A:=A_Zaf) (done:=[]) (c0:=(Tryz.f15.body.getD .skip)) hmix Vkf Vaa rounds (by kernel_rfl) (by kernel_rfl) (fun x=>Vuo x.1 x.2.1) (fun _=>rfl)
theorem Vl6:LoopOk Tryz.prog E_Zaf Tryz.f15.ntmps (kqOf S_Zaf.ps 0) (loopAt 2 (Tryz.f15.body.getD .skip)) ⟨[(1,.ptr [(.v (.agg 4))]),(4,.f (.v .bool)),(5,.f (.v (.int .i64)))],[(.exit 2,[(1,.ptr [(.v (.agg 4))]),(4,.f (.v .bool))])],Zaf_L2,[]⟩:=
 Vaf (A:=A_Zaf) (done:=[0]) (c0:=(Tryz.f15.body.getD .skip)) hmix Vkf (Vac rfl Vhu Vaa) rounds (by kernel_rfl) (by kernel_rfl) (fun x=>Vup x.1 x.2.1 x.2.2.1) (fun _=>rfl)
theorem Vur:LoopOk Tryz.prog E_Zaf Tryz.f15.ntmps (kqOf S_Zaf.ps 0) (loopAt 4 (Tryz.f15.body.getD .skip)) ⟨[(1,.ptr [(.v (.agg 4))]),(4,.f (.v .bool)),(6,.f (.v .bool)),(7,.f (.v .bool)),(8,.f (.v (.int .i64)))],[(.exit 4,[(4,.f (.v .bool)),(6,.f (.v .bool)),(7,.f (.v .bool))])],Zaf_L4,[]⟩:=
 Vaf (A:=A_Zaf) (done:=[0,2]) (c0:=(Tryz.f15.body.getD .skip)) hmix Vkf (Vac rfl Vhu (Vac rfl Vl6 Vaa)) rounds (by kernel_rfl) (by kernel_rfl) (fun x=>Vuq x.1 x.2.1 x.2.2.1 x.2.2.2.1 x.2.2.2.2.1) (fun _=>rfl)
theorem Vz9:SoundT Tryz.prog cd gdn 15 S_Zaf:=
 Vab (E:=E_Zaf) (A:=A_Zaf) (done:=[0,2,4]) (c:=(Tryz.f15.body.getD .skip)) (S:=S_Zaf) (fn:=Tryz.f15) hmix Vkf Tryz.func15 rfl (by kernel_rfl) (by kernel_rfl) (Vac rfl Vhu (Vac rfl Vl6 (Vac rfl Vur Vaa))) (by kernel_rfl) (by kernel_rfl) Viba
def Zbd (a0:(BitVec 64)):Option ((Unit)×(ApiItem×Unit)):=
 (some ((),((⟨(1:Int),a0,([]:List UInt8)⟩:ApiItem),())))
def S_Zbd:FSpec T:=⟨[.f (.v .u64)],[(.v (.agg 1))],fun x=>Zbd x.1⟩
def E_Zbd:Env T:=⟨tab.find,cd,globs,flc,fun f ds=>match f with
  | _=>none,fun f=>match f with
  | _=>false⟩
def A_Zbd:Loc2 T:=⟨fun id=>match id with
  | _=>none,fun r=>match r with
  | _=>none,fun r=>match r with
  | _=>false⟩
theorem Vica (x:tySs T S_Zbd.ps):run E_Zbd A_Zbd (Tryz.f44.body.getD .skip) (enterT E_Zbd.C S_Zbd.ps x) (retK E_Zbd Tryz.f44.results.toList S_Zbd.ps S_Zbd.rs)=S_Zbd.fn x:=by kernel_rfl
theorem Vcwa:EnvOk Tryz.prog E_Zbd:=envOk (E:=E_Zbd) cd_ok tys fl_ok fun f ds S h=>by cases h
theorem Vaaa:SoundT Tryz.prog cd gdn 44 S_Zbd:=
 Vab (E:=E_Zbd) (A:=A_Zbd) (done:=[]) (c:=(Tryz.f44.body.getD .skip)) (S:=S_Zbd) (fn:=Tryz.f44) hmix Vcwa Tryz.func44 rfl (by kernel_rfl) (by kernel_rfl) Vaa (by kernel_rfl) (by kernel_rfl) Vica
def Zbs (a0:(List UInt8)):Option ((Unit)×(ApiItem×Unit)):=
 (some ((),((⟨(4:Int),0#64,a0⟩:ApiItem),())))
def S_Zbs:FSpec T:=⟨[.f (.v .str)],[(.v (.agg 1))],fun x=>Zbs x.1⟩
def E_Zbs:Env T:=⟨tab.find,cd,globs,flc,fun f ds=>match f with
  | _=>none,fun f=>match f with
  | _=>false⟩
def A_Zbs:Loc2 T:=⟨fun id=>match id with
  | _=>none,fun r=>match r with
  | _=>none,fun r=>match r with
  | _=>false⟩
theorem Vida (x:tySs T S_Zbs.ps):run E_Zbs A_Zbs (Tryz.f45.body.getD .skip) (enterT E_Zbs.C S_Zbs.ps x) (retK E_Zbs Tryz.f45.results.toList S_Zbs.ps S_Zbs.rs)=S_Zbs.fn x:=by kernel_rfl
theorem Vcxa:EnvOk Tryz.prog E_Zbs:=envOk (E:=E_Zbs) cd_ok tys fl_ok fun f ds S h=>by cases h
theorem Viea:SoundT Tryz.prog cd gdn 45 S_Zbs:=
 Vab (E:=E_Zbs) (A:=A_Zbs) (done:=[]) (c:=(Tryz.f45.body.getD .skip)) (S:=S_Zbs) (fn:=Tryz.f45) hmix Vcxa Tryz.func45 rfl (by kernel_rfl) (by kernel_rfl) Vaa (by kernel_rfl) (by kernel_rfl) Vida
def Zbq (a0:(List UInt8)):Option ((Unit)×(ApiItem×Unit)):=
 (some ((),((⟨(3:Int),0#64,a0⟩:ApiItem),())))
def S_Zbq:FSpec T:=⟨[.f (.v .str)],[(.v (.agg 1))],fun x=>Zbq x.1⟩
def E_Zbq:Env T:=⟨tab.find,cd,globs,flc,fun f ds=>match f with
  | _=>none,fun f=>match f with
  | _=>false⟩
def A_Zbq:Loc2 T:=⟨fun id=>match id with
  | _=>none,fun r=>match r with
  | _=>none,fun r=>match r with
  | _=>false⟩
theorem Vifa (x:tySs T S_Zbq.ps):run E_Zbq A_Zbq (Tryz.f46.body.getD .skip) (enterT E_Zbq.C S_Zbq.ps x) (retK E_Zbq Tryz.f46.results.toList S_Zbq.ps S_Zbq.rs)=S_Zbq.fn x:=by kernel_rfl
theorem Vcya:EnvOk Tryz.prog E_Zbq:=envOk (E:=E_Zbq) cd_ok tys fl_ok fun f ds S h=>by cases h
theorem Vaba:SoundT Tryz.prog cd gdn 46 S_Zbq:=
 Vab (E:=E_Zbq) (A:=A_Zbq) (done:=[]) (c:=(Tryz.f46.body.getD .skip)) (S:=S_Zbq) (fn:=Tryz.f46) hmix Vcya Tryz.func46 rfl (by kernel_rfl) (by kernel_rfl) Vaa (by kernel_rfl) (by kernel_rfl) Vifa
def Zau (a0:Bool):Option ((Unit)×(ApiItem×Unit)):=
 (bif a0 then (some ((),((⟨(7:Int),1#64,([]:List UInt8)⟩:ApiItem),())))
 else (some ((),((⟨(7:Int),0#64,([]:List UInt8)⟩:ApiItem),()))))
def S_Zau:FSpec T:=⟨[.f (.v .bool)],[(.v (.agg 1))],fun x=>Zau x.1⟩
def E_Zau:Env T:=⟨tab.find,cd,globs,flc,fun f ds=>match f with
  | _=>none,fun f=>match f with
  | _=>false⟩
def A_Zau:Loc2 T:=⟨fun id=>match id with
  | _=>none,fun r=>match r with
  | _=>none,fun r=>match r with
  | _=>false⟩
theorem Viga (x:tySs T S_Zau.ps):run E_Zau A_Zau (Tryz.f47.body.getD .skip) (enterT E_Zau.C S_Zau.ps x) (retK E_Zau Tryz.f47.results.toList S_Zau.ps S_Zau.rs)=S_Zau.fn x:=by kernel_rfl
theorem Vcza:EnvOk Tryz.prog E_Zau:=envOk (E:=E_Zau) cd_ok tys fl_ok fun f ds S h=>by cases h
theorem Viha:SoundT Tryz.prog cd gdn 47 S_Zau:=
 Vab (E:=E_Zau) (A:=A_Zau) (done:=[]) (c:=(Tryz.f47.body.getD .skip)) (S:=S_Zau) (fn:=Tryz.f47) hmix Vcza Tryz.func47 rfl (by kernel_rfl) (by kernel_rfl) Vaa (by kernel_rfl) (by kernel_rfl) Viga
def Zbr_L0b (y0:(List (List UInt8))) (y1:(List (ApiItem))) (y2:Int):Option (((List (List UInt8))×(List (ApiItem))×Int×Unit)⊕((List (ApiItem))×Unit)):=
 (bif (decide (y2<((y0).length:Int))) then ((getI y0 y2).bind fun x2=>((Zbq x2).bind fun r3=>(bif small ((y1).length+(([r3.2.1]:List (ApiItem)):List (ApiItem)).length) 32 then (some (Sum.inl (y0,(y1++([r3.2.1]:List (ApiItem))),(IntKind.wrap .i64 (y2+(1:Int))),())))
 else none)))
 else (some (Sum.inr (y1,()))))
def Zbr_L0 (y:((List (List UInt8))×(List (ApiItem))×Int×Unit)):Option ((List (ApiItem))×Unit):=iter (fun (y:((List (List UInt8))×(List (ApiItem))×Int×Unit))=>Zbr_L0b y.1 y.2.1 y.2.2.1) rounds y
def Zbr (a0:(List (List UInt8))):Option ((Unit)×((List (ApiItem))×Unit)):=
 (let v1:List (ApiItem):=([(⟨(5:Int),(BitVec.ofInt 64 ((a0).length:Int)),([]:List UInt8)⟩:ApiItem)]:List (ApiItem))
 ((Zbr_L0 (a0,v1,(0:Int),())).bind (fun (z4:((List (ApiItem))×Unit))=>(some ((),(z4.1,()))))))
def S_Zbr:FSpec T:=⟨[.f (.v (.rs 2))],[(.own 1)],fun x=>Zbr x.1⟩
def E_Zbr:Env T:=⟨tab.find,cd,globs,flc,fun f ds=>match f with
  | 46=>some S_Zbq
  | _=>none,fun f=>match f with
  | 46=>true
  | _=>false⟩
def A_Zbr:Loc2 T:=⟨fun id=>match id with
  | 0=>some ⟨[(0,.f (.v (.rs 2))),(3,.f (.own 1)),(4,.f (.v (.int .i64)))],[(.exit 0,[(3,.f (.own 1))])],Zbr_L0,[]⟩
  | _=>none,fun r=>match r with
  | _=>none,fun r=>match r with
  | _=>false⟩
theorem Vus (y0:(List (List UInt8))) (y1:(List (ApiItem))) (y2:Int):run E_Zbr A_Zbr (loopAt 0 (Tryz.f48.body.getD .skip)) (layC cd [(0,.f (.v (.rs 2))),(3,.f (.own 1)),(4,.f (.v (.int .i64)))] [] (y0,y1,y2,())) (roundK cd [(0,.f (.v (.rs 2))),(3,.f (.own 1)),(4,.f (.v (.int .i64)))] [] [(.exit 0,[(3,.f (.own 1))])])=Zbr_L0b y0 y1 y2:=by kernel_rfl
theorem Viia (x:tySs T S_Zbr.ps):run E_Zbr A_Zbr (Tryz.f48.body.getD .skip) (enterT E_Zbr.C S_Zbr.ps x) (retK E_Zbr Tryz.f48.results.toList S_Zbr.ps S_Zbr.rs)=S_Zbr.fn x:=by kernel_rfl
theorem Vut:EnvOk Tryz.prog E_Zbr:=envOk (E:=E_Zbr) cd_ok tys fl_ok fun f ds S h=>by
  dsimp only [E_Zbr] at h
  split at h
  ·cases h; exact Vaba
  ·cases h
theorem Vuu:LoopOk Tryz.prog E_Zbr Tryz.f48.ntmps (kqOf S_Zbr.ps 0) (loopAt 0 (Tryz.f48.body.getD .skip)) ⟨[(0,.f (.v (.rs 2))),(3,.f (.own 1)),(4,.f (.v (.int .i64)))],[(.exit 0,[(3,.f (.own 1))])],Zbr_L0,[]⟩:=
 Vaf (A:=A_Zbr) (done:=[]) (c0:=(Tryz.f48.body.getD .skip)) hmix Vut Vaa rounds (by kernel_rfl) (by kernel_rfl) (fun x=>Vus x.1 x.2.1 x.2.2.1) (fun _=>rfl)
theorem Vija:SoundT Tryz.prog cd gdn 48 S_Zbr:=
 Vab (E:=E_Zbr) (A:=A_Zbr) (done:=[0]) (c:=(Tryz.f48.body.getD .skip)) (S:=S_Zbr) (fn:=Tryz.f48) hmix Vut Tryz.func48 rfl (by kernel_rfl) (by kernel_rfl) (Vac rfl Vuu Vaa) (by kernel_rfl) (by kernel_rfl) Viia
def passkeyref14_replyFields_L0b (y0:(ApiReply×Unit)) (y1:Yaq) (y2:Yaq) (y3:(List (BitVec 64))) (y4:(List (List UInt8))) (y5:(List (Bool))) (y6:Int):Option (((ApiReply×Unit)×Yaq×Yaq×(List (BitVec 64))×(List (List UInt8))×(List (Bool))×Int×Unit)⊕((ApiReply×Unit)×Yaq×Yaq×Unit)):=
 (bif (decide (y6<(18:Int))) then (bif (decide ((0:Int)≤y6)&&decide (y6<(18:Int))) then (((y3)[(y6).toNat]?).bind fun x1=>(bif (!decide (x1=0#64)) then (bif (decide ((0:Int)≤y6)&&decide (y6<(18:Int))) then (((y3)[(y6).toNat]?).bind fun x2=>((Zbd x2).bind fun r3=>(bif (decide ((0:Int)≤y6)&&decide (y6<(18:Int))) then (bif Nat.beq (y6).toNat 17 then (some (Sum.inl ((y0.1,()),y1,(y2.1,y2.2.1,y2.2.2.1,y2.2.2.2.1,y2.2.2.2.2.1,y2.2.2.2.2.2.1,y2.2.2.2.2.2.2.1,y2.2.2.2.2.2.2.2.1,y2.2.2.2.2.2.2.2.2.1,y2.2.2.2.2.2.2.2.2.2.1,y2.2.2.2.2.2.2.2.2.2.2.1,y2.2.2.2.2.2.2.2.2.2.2.2.1,y2.2.2.2.2.2.2.2.2.2.2.2.2.1,y2.2.2.2.2.2.2.2.2.2.2.2.2.2.1,y2.2.2.2.2.2.2.2.2.2.2.2.2.2.2.1,y2.2.2.2.2.2.2.2.2.2.2.2.2.2.2.2.1,y2.2.2.2.2.2.2.2.2.2.2.2.2.2.2.2.2.1,([r3.2.1]:List (ApiItem)),()),y3,y4,y5,(IntKind.wrap .i64 (y6+(1:Int))),())))
 else (bif Nat.beq (y6).toNat 16 then (some (Sum.inl ((y0.1,()),y1,(y2.1,y2.2.1,y2.2.2.1,y2.2.2.2.1,y2.2.2.2.2.1,y2.2.2.2.2.2.1,y2.2.2.2.2.2.2.1,y2.2.2.2.2.2.2.2.1,y2.2.2.2.2.2.2.2.2.1,y2.2.2.2.2.2.2.2.2.2.1,y2.2.2.2.2.2.2.2.2.2.2.1,y2.2.2.2.2.2.2.2.2.2.2.2.1,y2.2.2.2.2.2.2.2.2.2.2.2.2.1,y2.2.2.2.2.2.2.2.2.2.2.2.2.2.1,y2.2.2.2.2.2.2.2.2.2.2.2.2.2.2.1,y2.2.2.2.2.2.2.2.2.2.2.2.2.2.2.2.1,([r3.2.1]:List (ApiItem)),y2.2.2.2.2.2.2.2.2.2.2.2.2.2.2.2.2.2.1,()),y3,y4,y5,(IntKind.wrap .i64 (y6+(1:Int))),())))
 else (bif Nat.beq (y6).toNat 15 then (some (Sum.inl ((y0.1,()),y1,(y2.1,y2.2.1,y2.2.2.1,y2.2.2.2.1,y2.2.2.2.2.1,y2.2.2.2.2.2.1,y2.2.2.2.2.2.2.1,y2.2.2.2.2.2.2.2.1,y2.2.2.2.2.2.2.2.2.1,y2.2.2.2.2.2.2.2.2.2.1,y2.2.2.2.2.2.2.2.2.2.2.1,y2.2.2.2.2.2.2.2.2.2.2.2.1,y2.2.2.2.2.2.2.2.2.2.2.2.2.1,y2.2.2.2.2.2.2.2.2.2.2.2.2.2.1,y2.2.2.2.2.2.2.2.2.2.2.2.2.2.2.1,([r3.2.1]:List (ApiItem)),y2.2.2.2.2.2.2.2.2.2.2.2.2.2.2.2.2),y3,y4,y5,(IntKind.wrap .i64 (y6+(1:Int))),())))
 else (bif Nat.beq (y6).toNat 14 then (some (Sum.inl ((y0.1,()),y1,(y2.1,y2.2.1,y2.2.2.1,y2.2.2.2.1,y2.2.2.2.2.1,y2.2.2.2.2.2.1,y2.2.2.2.2.2.2.1,y2.2.2.2.2.2.2.2.1,y2.2.2.2.2.2.2.2.2.1,y2.2.2.2.2.2.2.2.2.2.1,y2.2.2.2.2.2.2.2.2.2.2.1,y2.2.2.2.2.2.2.2.2.2.2.2.1,y2.2.2.2.2.2.2.2.2.2.2.2.2.1,y2.2.2.2.2.2.2.2.2.2.2.2.2.2.1,([r3.2.1]:List (ApiItem)),y2.2.2.2.2.2.2.2.2.2.2.2.2.2.2.2),y3,y4,y5,(IntKind.wrap .i64 (y6+(1:Int))),())))
 else (bif Nat.beq (y6).toNat 13 then (some (Sum.inl ((y0.1,()),y1,(y2.1,y2.2.1,y2.2.2.1,y2.2.2.2.1,y2.2.2.2.2.1,y2.2.2.2.2.2.1,y2.2.2.2.2.2.2.1,y2.2.2.2.2.2.2.2.1,y2.2.2.2.2.2.2.2.2.1,y2.2.2.2.2.2.2.2.2.2.1,y2.2.2.2.2.2.2.2.2.2.2.1,y2.2.2.2.2.2.2.2.2.2.2.2.1,y2.2.2.2.2.2.2.2.2.2.2.2.2.1,([r3.2.1]:List (ApiItem)),y2.2.2.2.2.2.2.2.2.2.2.2.2.2.2),y3,y4,y5,(IntKind.wrap .i64 (y6+(1:Int))),())))
 else (bif Nat.beq (y6).toNat 12 then (some (Sum.inl ((y0.1,()),y1,(y2.1,y2.2.1,y2.2.2.1,y2.2.2.2.1,y2.2.2.2.2.1,y2.2.2.2.2.2.1,y2.2.2.2.2.2.2.1,y2.2.2.2.2.2.2.2.1,y2.2.2.2.2.2.2.2.2.1,y2.2.2.2.2.2.2.2.2.2.1,y2.2.2.2.2.2.2.2.2.2.2.1,y2.2.2.2.2.2.2.2.2.2.2.2.1,([r3.2.1]:List (ApiItem)),y2.2.2.2.2.2.2.2.2.2.2.2.2.2),y3,y4,y5,(IntKind.wrap .i64 (y6+(1:Int))),())))
 else (bif Nat.beq (y6).toNat 11 then (some (Sum.inl ((y0.1,()),y1,(y2.1,y2.2.1,y2.2.2.1,y2.2.2.2.1,y2.2.2.2.2.1,y2.2.2.2.2.2.1,y2.2.2.2.2.2.2.1,y2.2.2.2.2.2.2.2.1,y2.2.2.2.2.2.2.2.2.1,y2.2.2.2.2.2.2.2.2.2.1,y2.2.2.2.2.2.2.2.2.2.2.1,([r3.2.1]:List (ApiItem)),y2.2.2.2.2.2.2.2.2.2.2.2.2),y3,y4,y5,(IntKind.wrap .i64 (y6+(1:Int))),())))
 else (bif Nat.beq (y6).toNat 10 then (some (Sum.inl ((y0.1,()),y1,(y2.1,y2.2.1,y2.2.2.1,y2.2.2.2.1,y2.2.2.2.2.1,y2.2.2.2.2.2.1,y2.2.2.2.2.2.2.1,y2.2.2.2.2.2.2.2.1,y2.2.2.2.2.2.2.2.2.1,y2.2.2.2.2.2.2.2.2.2.1,([r3.2.1]:List (ApiItem)),y2.2.2.2.2.2.2.2.2.2.2.2),y3,y4,y5,(IntKind.wrap .i64 (y6+(1:Int))),())))
 else (bif Nat.beq (y6).toNat 9 then (some (Sum.inl ((y0.1,()),y1,(y2.1,y2.2.1,y2.2.2.1,y2.2.2.2.1,y2.2.2.2.2.1,y2.2.2.2.2.2.1,y2.2.2.2.2.2.2.1,y2.2.2.2.2.2.2.2.1,y2.2.2.2.2.2.2.2.2.1,([r3.2.1]:List (ApiItem)),y2.2.2.2.2.2.2.2.2.2.2),y3,y4,y5,(IntKind.wrap .i64 (y6+(1:Int))),())))
 else (bif Nat.beq (y6).toNat 8 then (some (Sum.inl ((y0.1,()),y1,(y2.1,y2.2.1,y2.2.2.1,y2.2.2.2.1,y2.2.2.2.2.1,y2.2.2.2.2.2.1,y2.2.2.2.2.2.2.1,y2.2.2.2.2.2.2.2.1,([r3.2.1]:List (ApiItem)),y2.2.2.2.2.2.2.2.2.2),y3,y4,y5,(IntKind.wrap .i64 (y6+(1:Int))),())))
 else (bif Nat.beq (y6).toNat 7 then (some (Sum.inl ((y0.1,()),y1,(y2.1,y2.2.1,y2.2.2.1,y2.2.2.2.1,y2.2.2.2.2.1,y2.2.2.2.2.2.1,y2.2.2.2.2.2.2.1,([r3.2.1]:List (ApiItem)),y2.2.2.2.2.2.2.2.2),y3,y4,y5,(IntKind.wrap .i64 (y6+(1:Int))),())))
 else (bif Nat.beq (y6).toNat 6 then (some (Sum.inl ((y0.1,()),y1,(y2.1,y2.2.1,y2.2.2.1,y2.2.2.2.1,y2.2.2.2.2.1,y2.2.2.2.2.2.1,([r3.2.1]:List (ApiItem)),y2.2.2.2.2.2.2.2),y3,y4,y5,(IntKind.wrap .i64 (y6+(1:Int))),())))
 else (bif Nat.beq (y6).toNat 5 then (some (Sum.inl ((y0.1,()),y1,(y2.1,y2.2.1,y2.2.2.1,y2.2.2.2.1,y2.2.2.2.2.1,([r3.2.1]:List (ApiItem)),y2.2.2.2.2.2.2),y3,y4,y5,(IntKind.wrap .i64 (y6+(1:Int))),())))
 else (bif Nat.beq (y6).toNat 4 then (some (Sum.inl ((y0.1,()),y1,(y2.1,y2.2.1,y2.2.2.1,y2.2.2.2.1,([r3.2.1]:List (ApiItem)),y2.2.2.2.2.2),y3,y4,y5,(IntKind.wrap .i64 (y6+(1:Int))),())))
 else (bif Nat.beq (y6).toNat 3 then (some (Sum.inl ((y0.1,()),y1,(y2.1,y2.2.1,y2.2.2.1,([r3.2.1]:List (ApiItem)),y2.2.2.2.2),y3,y4,y5,(IntKind.wrap .i64 (y6+(1:Int))),())))
 else (bif Nat.beq (y6).toNat 2 then (some (Sum.inl ((y0.1,()),y1,(y2.1,y2.2.1,([r3.2.1]:List (ApiItem)),y2.2.2.2),y3,y4,y5,(IntKind.wrap .i64 (y6+(1:Int))),())))
 else (bif Nat.beq (y6).toNat 1 then (some (Sum.inl ((y0.1,()),y1,(y2.1,([r3.2.1]:List (ApiItem)),y2.2.2),y3,y4,y5,(IntKind.wrap .i64 (y6+(1:Int))),())))
 else (bif Nat.beq (y6).toNat 0 then (some (Sum.inl ((y0.1,()),y1,(([r3.2.1]:List (ApiItem)),y2.2),y3,y4,y5,(IntKind.wrap .i64 (y6+(1:Int))),())))
 else none))))))))))))))))))
 else none)))
 else none)
 else (bif (decide ((0:Int)≤y6)&&decide (y6<(18:Int))) then (((y4)[(y6).toNat]?).bind fun x4=>(bif (!decide (x4=([]:List UInt8))) then (bif (decide (y6=(7:Int))) then (bif (decide ((0:Int)≤y6)&&decide (y6<(18:Int))) then (((y4)[(y6).toNat]?).bind fun x5=>((Zbs x5).bind fun r6=>(bif (decide ((0:Int)≤y6)&&decide (y6<(18:Int))) then (bif Nat.beq (y6).toNat 17 then (some (Sum.inl ((y0.1,()),y1,(y2.1,y2.2.1,y2.2.2.1,y2.2.2.2.1,y2.2.2.2.2.1,y2.2.2.2.2.2.1,y2.2.2.2.2.2.2.1,y2.2.2.2.2.2.2.2.1,y2.2.2.2.2.2.2.2.2.1,y2.2.2.2.2.2.2.2.2.2.1,y2.2.2.2.2.2.2.2.2.2.2.1,y2.2.2.2.2.2.2.2.2.2.2.2.1,y2.2.2.2.2.2.2.2.2.2.2.2.2.1,y2.2.2.2.2.2.2.2.2.2.2.2.2.2.1,y2.2.2.2.2.2.2.2.2.2.2.2.2.2.2.1,y2.2.2.2.2.2.2.2.2.2.2.2.2.2.2.2.1,y2.2.2.2.2.2.2.2.2.2.2.2.2.2.2.2.2.1,([r6.2.1]:List (ApiItem)),()),y3,y4,y5,(IntKind.wrap .i64 (y6+(1:Int))),())))
 else (bif Nat.beq (y6).toNat 16 then (some (Sum.inl ((y0.1,()),y1,(y2.1,y2.2.1,y2.2.2.1,y2.2.2.2.1,y2.2.2.2.2.1,y2.2.2.2.2.2.1,y2.2.2.2.2.2.2.1,y2.2.2.2.2.2.2.2.1,y2.2.2.2.2.2.2.2.2.1,y2.2.2.2.2.2.2.2.2.2.1,y2.2.2.2.2.2.2.2.2.2.2.1,y2.2.2.2.2.2.2.2.2.2.2.2.1,y2.2.2.2.2.2.2.2.2.2.2.2.2.1,y2.2.2.2.2.2.2.2.2.2.2.2.2.2.1,y2.2.2.2.2.2.2.2.2.2.2.2.2.2.2.1,y2.2.2.2.2.2.2.2.2.2.2.2.2.2.2.2.1,([r6.2.1]:List (ApiItem)),y2.2.2.2.2.2.2.2.2.2.2.2.2.2.2.2.2.2.1,()),y3,y4,y5,(IntKind.wrap .i64 (y6+(1:Int))),())))
 else (bif Nat.beq (y6).toNat 15 then (some (Sum.inl ((y0.1,()),y1,(y2.1,y2.2.1,y2.2.2.1,y2.2.2.2.1,y2.2.2.2.2.1,y2.2.2.2.2.2.1,y2.2.2.2.2.2.2.1,y2.2.2.2.2.2.2.2.1,y2.2.2.2.2.2.2.2.2.1,y2.2.2.2.2.2.2.2.2.2.1,y2.2.2.2.2.2.2.2.2.2.2.1,y2.2.2.2.2.2.2.2.2.2.2.2.1,y2.2.2.2.2.2.2.2.2.2.2.2.2.1,y2.2.2.2.2.2.2.2.2.2.2.2.2.2.1,y2.2.2.2.2.2.2.2.2.2.2.2.2.2.2.1,([r6.2.1]:List (ApiItem)),y2.2.2.2.2.2.2.2.2.2.2.2.2.2.2.2.2),y3,y4,y5,(IntKind.wrap .i64 (y6+(1:Int))),())))
 else (bif Nat.beq (y6).toNat 14 then (some (Sum.inl ((y0.1,()),y1,(y2.1,y2.2.1,y2.2.2.1,y2.2.2.2.1,y2.2.2.2.2.1,y2.2.2.2.2.2.1,y2.2.2.2.2.2.2.1,y2.2.2.2.2.2.2.2.1,y2.2.2.2.2.2.2.2.2.1,y2.2.2.2.2.2.2.2.2.2.1,y2.2.2.2.2.2.2.2.2.2.2.1,y2.2.2.2.2.2.2.2.2.2.2.2.1,y2.2.2.2.2.2.2.2.2.2.2.2.2.1,y2.2.2.2.2.2.2.2.2.2.2.2.2.2.1,([r6.2.1]:List (ApiItem)),y2.2.2.2.2.2.2.2.2.2.2.2.2.2.2.2),y3,y4,y5,(IntKind.wrap .i64 (y6+(1:Int))),())))
 else (bif Nat.beq (y6).toNat 13 then (some (Sum.inl ((y0.1,()),y1,(y2.1,y2.2.1,y2.2.2.1,y2.2.2.2.1,y2.2.2.2.2.1,y2.2.2.2.2.2.1,y2.2.2.2.2.2.2.1,y2.2.2.2.2.2.2.2.1,y2.2.2.2.2.2.2.2.2.1,y2.2.2.2.2.2.2.2.2.2.1,y2.2.2.2.2.2.2.2.2.2.2.1,y2.2.2.2.2.2.2.2.2.2.2.2.1,y2.2.2.2.2.2.2.2.2.2.2.2.2.1,([r6.2.1]:List (ApiItem)),y2.2.2.2.2.2.2.2.2.2.2.2.2.2.2),y3,y4,y5,(IntKind.wrap .i64 (y6+(1:Int))),())))
 else (bif Nat.beq (y6).toNat 12 then (some (Sum.inl ((y0.1,()),y1,(y2.1,y2.2.1,y2.2.2.1,y2.2.2.2.1,y2.2.2.2.2.1,y2.2.2.2.2.2.1,y2.2.2.2.2.2.2.1,y2.2.2.2.2.2.2.2.1,y2.2.2.2.2.2.2.2.2.1,y2.2.2.2.2.2.2.2.2.2.1,y2.2.2.2.2.2.2.2.2.2.2.1,y2.2.2.2.2.2.2.2.2.2.2.2.1,([r6.2.1]:List (ApiItem)),y2.2.2.2.2.2.2.2.2.2.2.2.2.2),y3,y4,y5,(IntKind.wrap .i64 (y6+(1:Int))),())))
 else (bif Nat.beq (y6).toNat 11 then (some (Sum.inl ((y0.1,()),y1,(y2.1,y2.2.1,y2.2.2.1,y2.2.2.2.1,y2.2.2.2.2.1,y2.2.2.2.2.2.1,y2.2.2.2.2.2.2.1,y2.2.2.2.2.2.2.2.1,y2.2.2.2.2.2.2.2.2.1,y2.2.2.2.2.2.2.2.2.2.1,y2.2.2.2.2.2.2.2.2.2.2.1,([r6.2.1]:List (ApiItem)),y2.2.2.2.2.2.2.2.2.2.2.2.2),y3,y4,y5,(IntKind.wrap .i64 (y6+(1:Int))),())))
 else (bif Nat.beq (y6).toNat 10 then (some (Sum.inl ((y0.1,()),y1,(y2.1,y2.2.1,y2.2.2.1,y2.2.2.2.1,y2.2.2.2.2.1,y2.2.2.2.2.2.1,y2.2.2.2.2.2.2.1,y2.2.2.2.2.2.2.2.1,y2.2.2.2.2.2.2.2.2.1,y2.2.2.2.2.2.2.2.2.2.1,([r6.2.1]:List (ApiItem)),y2.2.2.2.2.2.2.2.2.2.2.2),y3,y4,y5,(IntKind.wrap .i64 (y6+(1:Int))),())))
 else (bif Nat.beq (y6).toNat 9 then (some (Sum.inl ((y0.1,()),y1,(y2.1,y2.2.1,y2.2.2.1,y2.2.2.2.1,y2.2.2.2.2.1,y2.2.2.2.2.2.1,y2.2.2.2.2.2.2.1,y2.2.2.2.2.2.2.2.1,y2.2.2.2.2.2.2.2.2.1,([r6.2.1]:List (ApiItem)),y2.2.2.2.2.2.2.2.2.2.2),y3,y4,y5,(IntKind.wrap .i64 (y6+(1:Int))),())))
 else (bif Nat.beq (y6).toNat 8 then (some (Sum.inl ((y0.1,()),y1,(y2.1,y2.2.1,y2.2.2.1,y2.2.2.2.1,y2.2.2.2.2.1,y2.2.2.2.2.2.1,y2.2.2.2.2.2.2.1,y2.2.2.2.2.2.2.2.1,([r6.2.1]:List (ApiItem)),y2.2.2.2.2.2.2.2.2.2),y3,y4,y5,(IntKind.wrap .i64 (y6+(1:Int))),())))
 else (bif Nat.beq (y6).toNat 7 then (some (Sum.inl ((y0.1,()),y1,(y2.1,y2.2.1,y2.2.2.1,y2.2.2.2.1,y2.2.2.2.2.1,y2.2.2.2.2.2.1,y2.2.2.2.2.2.2.1,([r6.2.1]:List (ApiItem)),y2.2.2.2.2.2.2.2.2),y3,y4,y5,(IntKind.wrap .i64 (y6+(1:Int))),())))
 else (bif Nat.beq (y6).toNat 6 then (some (Sum.inl ((y0.1,()),y1,(y2.1,y2.2.1,y2.2.2.1,y2.2.2.2.1,y2.2.2.2.2.1,y2.2.2.2.2.2.1,([r6.2.1]:List (ApiItem)),y2.2.2.2.2.2.2.2),y3,y4,y5,(IntKind.wrap .i64 (y6+(1:Int))),())))
 else (bif Nat.beq (y6).toNat 5 then (some (Sum.inl ((y0.1,()),y1,(y2.1,y2.2.1,y2.2.2.1,y2.2.2.2.1,y2.2.2.2.2.1,([r6.2.1]:List (ApiItem)),y2.2.2.2.2.2.2),y3,y4,y5,(IntKind.wrap .i64 (y6+(1:Int))),())))
 else (bif Nat.beq (y6).toNat 4 then (some (Sum.inl ((y0.1,()),y1,(y2.1,y2.2.1,y2.2.2.1,y2.2.2.2.1,([r6.2.1]:List (ApiItem)),y2.2.2.2.2.2),y3,y4,y5,(IntKind.wrap .i64 (y6+(1:Int))),())))
 else (bif Nat.beq (y6).toNat 3 then (some (Sum.inl ((y0.1,()),y1,(y2.1,y2.2.1,y2.2.2.1,([r6.2.1]:List (ApiItem)),y2.2.2.2.2),y3,y4,y5,(IntKind.wrap .i64 (y6+(1:Int))),())))
 else (bif Nat.beq (y6).toNat 2 then (some (Sum.inl ((y0.1,()),y1,(y2.1,y2.2.1,([r6.2.1]:List (ApiItem)),y2.2.2.2),y3,y4,y5,(IntKind.wrap .i64 (y6+(1:Int))),())))
 else (bif Nat.beq (y6).toNat 1 then (some (Sum.inl ((y0.1,()),y1,(y2.1,([r6.2.1]:List (ApiItem)),y2.2.2),y3,y4,y5,(IntKind.wrap .i64 (y6+(1:Int))),())))
 else (bif Nat.beq (y6).toNat 0 then (some (Sum.inl ((y0.1,()),y1,(([r6.2.1]:List (ApiItem)),y2.2),y3,y4,y5,(IntKind.wrap .i64 (y6+(1:Int))),())))
 else none))))))))))))))))))
 else none)))
 else none)
 else (bif (decide ((0:Int)≤y6)&&decide (y6<(18:Int))) then (((y4)[(y6).toNat]?).bind fun x7=>(bif (!decide (x7=([]:List UInt8))) then (bif (decide ((0:Int)≤y6)&&decide (y6<(18:Int))) then (((y4)[(y6).toNat]?).bind fun x8=>((Zbq x8).bind fun r9=>(bif (decide ((0:Int)≤y6)&&decide (y6<(18:Int))) then (bif Nat.beq (y6).toNat 17 then (some (Sum.inl ((y0.1,()),y1,(y2.1,y2.2.1,y2.2.2.1,y2.2.2.2.1,y2.2.2.2.2.1,y2.2.2.2.2.2.1,y2.2.2.2.2.2.2.1,y2.2.2.2.2.2.2.2.1,y2.2.2.2.2.2.2.2.2.1,y2.2.2.2.2.2.2.2.2.2.1,y2.2.2.2.2.2.2.2.2.2.2.1,y2.2.2.2.2.2.2.2.2.2.2.2.1,y2.2.2.2.2.2.2.2.2.2.2.2.2.1,y2.2.2.2.2.2.2.2.2.2.2.2.2.2.1,y2.2.2.2.2.2.2.2.2.2.2.2.2.2.2.1,y2.2.2.2.2.2.2.2.2.2.2.2.2.2.2.2.1,y2.2.2.2.2.2.2.2.2.2.2.2.2.2.2.2.2.1,([r9.2.1]:List (ApiItem)),()),y3,y4,y5,(IntKind.wrap .i64 (y6+(1:Int))),())))
 else (bif Nat.beq (y6).toNat 16 then (some (Sum.inl ((y0.1,()),y1,(y2.1,y2.2.1,y2.2.2.1,y2.2.2.2.1,y2.2.2.2.2.1,y2.2.2.2.2.2.1,y2.2.2.2.2.2.2.1,y2.2.2.2.2.2.2.2.1,y2.2.2.2.2.2.2.2.2.1,y2.2.2.2.2.2.2.2.2.2.1,y2.2.2.2.2.2.2.2.2.2.2.1,y2.2.2.2.2.2.2.2.2.2.2.2.1,y2.2.2.2.2.2.2.2.2.2.2.2.2.1,y2.2.2.2.2.2.2.2.2.2.2.2.2.2.1,y2.2.2.2.2.2.2.2.2.2.2.2.2.2.2.1,y2.2.2.2.2.2.2.2.2.2.2.2.2.2.2.2.1,([r9.2.1]:List (ApiItem)),y2.2.2.2.2.2.2.2.2.2.2.2.2.2.2.2.2.2.1,()),y3,y4,y5,(IntKind.wrap .i64 (y6+(1:Int))),())))
 else (bif Nat.beq (y6).toNat 15 then (some (Sum.inl ((y0.1,()),y1,(y2.1,y2.2.1,y2.2.2.1,y2.2.2.2.1,y2.2.2.2.2.1,y2.2.2.2.2.2.1,y2.2.2.2.2.2.2.1,y2.2.2.2.2.2.2.2.1,y2.2.2.2.2.2.2.2.2.1,y2.2.2.2.2.2.2.2.2.2.1,y2.2.2.2.2.2.2.2.2.2.2.1,y2.2.2.2.2.2.2.2.2.2.2.2.1,y2.2.2.2.2.2.2.2.2.2.2.2.2.1,y2.2.2.2.2.2.2.2.2.2.2.2.2.2.1,y2.2.2.2.2.2.2.2.2.2.2.2.2.2.2.1,([r9.2.1]:List (ApiItem)),y2.2.2.2.2.2.2.2.2.2.2.2.2.2.2.2.2),y3,y4,y5,(IntKind.wrap .i64 (y6+(1:Int))),())))
 else (bif Nat.beq (y6).toNat 14 then (some (Sum.inl ((y0.1,()),y1,(y2.1,y2.2.1,y2.2.2.1,y2.2.2.2.1,y2.2.2.2.2.1,y2.2.2.2.2.2.1,y2.2.2.2.2.2.2.1,y2.2.2.2.2.2.2.2.1,y2.2.2.2.2.2.2.2.2.1,y2.2.2.2.2.2.2.2.2.2.1,y2.2.2.2.2.2.2.2.2.2.2.1,y2.2.2.2.2.2.2.2.2.2.2.2.1,y2.2.2.2.2.2.2.2.2.2.2.2.2.1,y2.2.2.2.2.2.2.2.2.2.2.2.2.2.1,([r9.2.1]:List (ApiItem)),y2.2.2.2.2.2.2.2.2.2.2.2.2.2.2.2),y3,y4,y5,(IntKind.wrap .i64 (y6+(1:Int))),())))
 else (bif Nat.beq (y6).toNat 13 then (some (Sum.inl ((y0.1,()),y1,(y2.1,y2.2.1,y2.2.2.1,y2.2.2.2.1,y2.2.2.2.2.1,y2.2.2.2.2.2.1,y2.2.2.2.2.2.2.1,y2.2.2.2.2.2.2.2.1,y2.2.2.2.2.2.2.2.2.1,y2.2.2.2.2.2.2.2.2.2.1,y2.2.2.2.2.2.2.2.2.2.2.1,y2.2.2.2.2.2.2.2.2.2.2.2.1,y2.2.2.2.2.2.2.2.2.2.2.2.2.1,([r9.2.1]:List (ApiItem)),y2.2.2.2.2.2.2.2.2.2.2.2.2.2.2),y3,y4,y5,(IntKind.wrap .i64 (y6+(1:Int))),())))
 else (bif Nat.beq (y6).toNat 12 then (some (Sum.inl ((y0.1,()),y1,(y2.1,y2.2.1,y2.2.2.1,y2.2.2.2.1,y2.2.2.2.2.1,y2.2.2.2.2.2.1,y2.2.2.2.2.2.2.1,y2.2.2.2.2.2.2.2.1,y2.2.2.2.2.2.2.2.2.1,y2.2.2.2.2.2.2.2.2.2.1,y2.2.2.2.2.2.2.2.2.2.2.1,y2.2.2.2.2.2.2.2.2.2.2.2.1,([r9.2.1]:List (ApiItem)),y2.2.2.2.2.2.2.2.2.2.2.2.2.2),y3,y4,y5,(IntKind.wrap .i64 (y6+(1:Int))),())))
 else (bif Nat.beq (y6).toNat 11 then (some (Sum.inl ((y0.1,()),y1,(y2.1,y2.2.1,y2.2.2.1,y2.2.2.2.1,y2.2.2.2.2.1,y2.2.2.2.2.2.1,y2.2.2.2.2.2.2.1,y2.2.2.2.2.2.2.2.1,y2.2.2.2.2.2.2.2.2.1,y2.2.2.2.2.2.2.2.2.2.1,y2.2.2.2.2.2.2.2.2.2.2.1,([r9.2.1]:List (ApiItem)),y2.2.2.2.2.2.2.2.2.2.2.2.2),y3,y4,y5,(IntKind.wrap .i64 (y6+(1:Int))),())))
 else (bif Nat.beq (y6).toNat 10 then (some (Sum.inl ((y0.1,()),y1,(y2.1,y2.2.1,y2.2.2.1,y2.2.2.2.1,y2.2.2.2.2.1,y2.2.2.2.2.2.1,y2.2.2.2.2.2.2.1,y2.2.2.2.2.2.2.2.1,y2.2.2.2.2.2.2.2.2.1,y2.2.2.2.2.2.2.2.2.2.1,([r9.2.1]:List (ApiItem)),y2.2.2.2.2.2.2.2.2.2.2.2),y3,y4,y5,(IntKind.wrap .i64 (y6+(1:Int))),())))
 else (bif Nat.beq (y6).toNat 9 then (some (Sum.inl ((y0.1,()),y1,(y2.1,y2.2.1,y2.2.2.1,y2.2.2.2.1,y2.2.2.2.2.1,y2.2.2.2.2.2.1,y2.2.2.2.2.2.2.1,y2.2.2.2.2.2.2.2.1,y2.2.2.2.2.2.2.2.2.1,([r9.2.1]:List (ApiItem)),y2.2.2.2.2.2.2.2.2.2.2),y3,y4,y5,(IntKind.wrap .i64 (y6+(1:Int))),())))
 else (bif Nat.beq (y6).toNat 8 then (some (Sum.inl ((y0.1,()),y1,(y2.1,y2.2.1,y2.2.2.1,y2.2.2.2.1,y2.2.2.2.2.1,y2.2.2.2.2.2.1,y2.2.2.2.2.2.2.1,y2.2.2.2.2.2.2.2.1,([r9.2.1]:List (ApiItem)),y2.2.2.2.2.2.2.2.2.2),y3,y4,y5,(IntKind.wrap .i64 (y6+(1:Int))),())))
 else (bif Nat.beq (y6).toNat 7 then (some (Sum.inl ((y0.1,()),y1,(y2.1,y2.2.1,y2.2.2.1,y2.2.2.2.1,y2.2.2.2.2.1,y2.2.2.2.2.2.1,y2.2.2.2.2.2.2.1,([r9.2.1]:List (ApiItem)),y2.2.2.2.2.2.2.2.2),y3,y4,y5,(IntKind.wrap .i64 (y6+(1:Int))),())))
 else (bif Nat.beq (y6).toNat 6 then (some (Sum.inl ((y0.1,()),y1,(y2.1,y2.2.1,y2.2.2.1,y2.2.2.2.1,y2.2.2.2.2.1,y2.2.2.2.2.2.1,([r9.2.1]:List (ApiItem)),y2.2.2.2.2.2.2.2),y3,y4,y5,(IntKind.wrap .i64 (y6+(1:Int))),())))
 else (bif Nat.beq (y6).toNat 5 then (some (Sum.inl ((y0.1,()),y1,(y2.1,y2.2.1,y2.2.2.1,y2.2.2.2.1,y2.2.2.2.2.1,([r9.2.1]:List (ApiItem)),y2.2.2.2.2.2.2),y3,y4,y5,(IntKind.wrap .i64 (y6+(1:Int))),())))
 else (bif Nat.beq (y6).toNat 4 then (some (Sum.inl ((y0.1,()),y1,(y2.1,y2.2.1,y2.2.2.1,y2.2.2.2.1,([r9.2.1]:List (ApiItem)),y2.2.2.2.2.2),y3,y4,y5,(IntKind.wrap .i64 (y6+(1:Int))),())))
 else (bif Nat.beq (y6).toNat 3 then (some (Sum.inl ((y0.1,()),y1,(y2.1,y2.2.1,y2.2.2.1,([r9.2.1]:List (ApiItem)),y2.2.2.2.2),y3,y4,y5,(IntKind.wrap .i64 (y6+(1:Int))),())))
 else (bif Nat.beq (y6).toNat 2 then (some (Sum.inl ((y0.1,()),y1,(y2.1,y2.2.1,([r9.2.1]:List (ApiItem)),y2.2.2.2),y3,y4,y5,(IntKind.wrap .i64 (y6+(1:Int))),())))
 else (bif Nat.beq (y6).toNat 1 then (some (Sum.inl ((y0.1,()),y1,(y2.1,([r9.2.1]:List (ApiItem)),y2.2.2),y3,y4,y5,(IntKind.wrap .i64 (y6+(1:Int))),())))
 else (bif Nat.beq (y6).toNat 0 then (some (Sum.inl ((y0.1,()),y1,(([r9.2.1]:List (ApiItem)),y2.2),y3,y4,y5,(IntKind.wrap .i64 (y6+(1:Int))),())))
 else none))))))))))))))))))
 else none)))
 else none)
 else (bif (decide ((0:Int)≤y6)&&decide (y6<(18:Int))) then (((y5)[(y6).toNat]?).bind fun x10=>(bif x10 then ((Zau true).bind fun r11=>(bif (decide ((0:Int)≤y6)&&decide (y6<(18:Int))) then (bif Nat.beq (y6).toNat 17 then (some (Sum.inl ((y0.1,()),y1,(y2.1,y2.2.1,y2.2.2.1,y2.2.2.2.1,y2.2.2.2.2.1,y2.2.2.2.2.2.1,y2.2.2.2.2.2.2.1,y2.2.2.2.2.2.2.2.1,y2.2.2.2.2.2.2.2.2.1,y2.2.2.2.2.2.2.2.2.2.1,y2.2.2.2.2.2.2.2.2.2.2.1,y2.2.2.2.2.2.2.2.2.2.2.2.1,y2.2.2.2.2.2.2.2.2.2.2.2.2.1,y2.2.2.2.2.2.2.2.2.2.2.2.2.2.1,y2.2.2.2.2.2.2.2.2.2.2.2.2.2.2.1,y2.2.2.2.2.2.2.2.2.2.2.2.2.2.2.2.1,y2.2.2.2.2.2.2.2.2.2.2.2.2.2.2.2.2.1,([r11.2.1]:List (ApiItem)),()),y3,y4,y5,(IntKind.wrap .i64 (y6+(1:Int))),())))
 else (bif Nat.beq (y6).toNat 16 then (some (Sum.inl ((y0.1,()),y1,(y2.1,y2.2.1,y2.2.2.1,y2.2.2.2.1,y2.2.2.2.2.1,y2.2.2.2.2.2.1,y2.2.2.2.2.2.2.1,y2.2.2.2.2.2.2.2.1,y2.2.2.2.2.2.2.2.2.1,y2.2.2.2.2.2.2.2.2.2.1,y2.2.2.2.2.2.2.2.2.2.2.1,y2.2.2.2.2.2.2.2.2.2.2.2.1,y2.2.2.2.2.2.2.2.2.2.2.2.2.1,y2.2.2.2.2.2.2.2.2.2.2.2.2.2.1,y2.2.2.2.2.2.2.2.2.2.2.2.2.2.2.1,y2.2.2.2.2.2.2.2.2.2.2.2.2.2.2.2.1,([r11.2.1]:List (ApiItem)),y2.2.2.2.2.2.2.2.2.2.2.2.2.2.2.2.2.2.1,()),y3,y4,y5,(IntKind.wrap .i64 (y6+(1:Int))),())))
 else (bif Nat.beq (y6).toNat 15 then (some (Sum.inl ((y0.1,()),y1,(y2.1,y2.2.1,y2.2.2.1,y2.2.2.2.1,y2.2.2.2.2.1,y2.2.2.2.2.2.1,y2.2.2.2.2.2.2.1,y2.2.2.2.2.2.2.2.1,y2.2.2.2.2.2.2.2.2.1,y2.2.2.2.2.2.2.2.2.2.1,y2.2.2.2.2.2.2.2.2.2.2.1,y2.2.2.2.2.2.2.2.2.2.2.2.1,y2.2.2.2.2.2.2.2.2.2.2.2.2.1,y2.2.2.2.2.2.2.2.2.2.2.2.2.2.1,y2.2.2.2.2.2.2.2.2.2.2.2.2.2.2.1,([r11.2.1]:List (ApiItem)),y2.2.2.2.2.2.2.2.2.2.2.2.2.2.2.2.2),y3,y4,y5,(IntKind.wrap .i64 (y6+(1:Int))),())))
 else (bif Nat.beq (y6).toNat 14 then (some (Sum.inl ((y0.1,()),y1,(y2.1,y2.2.1,y2.2.2.1,y2.2.2.2.1,y2.2.2.2.2.1,y2.2.2.2.2.2.1,y2.2.2.2.2.2.2.1,y2.2.2.2.2.2.2.2.1,y2.2.2.2.2.2.2.2.2.1,y2.2.2.2.2.2.2.2.2.2.1,y2.2.2.2.2.2.2.2.2.2.2.1,y2.2.2.2.2.2.2.2.2.2.2.2.1,y2.2.2.2.2.2.2.2.2.2.2.2.2.1,y2.2.2.2.2.2.2.2.2.2.2.2.2.2.1,([r11.2.1]:List (ApiItem)),y2.2.2.2.2.2.2.2.2.2.2.2.2.2.2.2),y3,y4,y5,(IntKind.wrap .i64 (y6+(1:Int))),())))
 else (bif Nat.beq (y6).toNat 13 then (some (Sum.inl ((y0.1,()),y1,(y2.1,y2.2.1,y2.2.2.1,y2.2.2.2.1,y2.2.2.2.2.1,y2.2.2.2.2.2.1,y2.2.2.2.2.2.2.1,y2.2.2.2.2.2.2.2.1,y2.2.2.2.2.2.2.2.2.1,y2.2.2.2.2.2.2.2.2.2.1,y2.2.2.2.2.2.2.2.2.2.2.1,y2.2.2.2.2.2.2.2.2.2.2.2.1,y2.2.2.2.2.2.2.2.2.2.2.2.2.1,([r11.2.1]:List (ApiItem)),y2.2.2.2.2.2.2.2.2.2.2.2.2.2.2),y3,y4,y5,(IntKind.wrap .i64 (y6+(1:Int))),())))
 else (bif Nat.beq (y6).toNat 12 then (some (Sum.inl ((y0.1,()),y1,(y2.1,y2.2.1,y2.2.2.1,y2.2.2.2.1,y2.2.2.2.2.1,y2.2.2.2.2.2.1,y2.2.2.2.2.2.2.1,y2.2.2.2.2.2.2.2.1,y2.2.2.2.2.2.2.2.2.1,y2.2.2.2.2.2.2.2.2.2.1,y2.2.2.2.2.2.2.2.2.2.2.1,y2.2.2.2.2.2.2.2.2.2.2.2.1,([r11.2.1]:List (ApiItem)),y2.2.2.2.2.2.2.2.2.2.2.2.2.2),y3,y4,y5,(IntKind.wrap .i64 (y6+(1:Int))),())))
 else (bif Nat.beq (y6).toNat 11 then (some (Sum.inl ((y0.1,()),y1,(y2.1,y2.2.1,y2.2.2.1,y2.2.2.2.1,y2.2.2.2.2.1,y2.2.2.2.2.2.1,y2.2.2.2.2.2.2.1,y2.2.2.2.2.2.2.2.1,y2.2.2.2.2.2.2.2.2.1,y2.2.2.2.2.2.2.2.2.2.1,y2.2.2.2.2.2.2.2.2.2.2.1,([r11.2.1]:List (ApiItem)),y2.2.2.2.2.2.2.2.2.2.2.2.2),y3,y4,y5,(IntKind.wrap .i64 (y6+(1:Int))),())))
 else (bif Nat.beq (y6).toNat 10 then (some (Sum.inl ((y0.1,()),y1,(y2.1,y2.2.1,y2.2.2.1,y2.2.2.2.1,y2.2.2.2.2.1,y2.2.2.2.2.2.1,y2.2.2.2.2.2.2.1,y2.2.2.2.2.2.2.2.1,y2.2.2.2.2.2.2.2.2.1,y2.2.2.2.2.2.2.2.2.2.1,([r11.2.1]:List (ApiItem)),y2.2.2.2.2.2.2.2.2.2.2.2),y3,y4,y5,(IntKind.wrap .i64 (y6+(1:Int))),())))
 else (bif Nat.beq (y6).toNat 9 then (some (Sum.inl ((y0.1,()),y1,(y2.1,y2.2.1,y2.2.2.1,y2.2.2.2.1,y2.2.2.2.2.1,y2.2.2.2.2.2.1,y2.2.2.2.2.2.2.1,y2.2.2.2.2.2.2.2.1,y2.2.2.2.2.2.2.2.2.1,([r11.2.1]:List (ApiItem)),y2.2.2.2.2.2.2.2.2.2.2),y3,y4,y5,(IntKind.wrap .i64 (y6+(1:Int))),())))
 else (bif Nat.beq (y6).toNat 8 then (some (Sum.inl ((y0.1,()),y1,(y2.1,y2.2.1,y2.2.2.1,y2.2.2.2.1,y2.2.2.2.2.1,y2.2.2.2.2.2.1,y2.2.2.2.2.2.2.1,y2.2.2.2.2.2.2.2.1,([r11.2.1]:List (ApiItem)),y2.2.2.2.2.2.2.2.2.2),y3,y4,y5,(IntKind.wrap .i64 (y6+(1:Int))),())))
 else (bif Nat.beq (y6).toNat 7 then (some (Sum.inl ((y0.1,()),y1,(y2.1,y2.2.1,y2.2.2.1,y2.2.2.2.1,y2.2.2.2.2.1,y2.2.2.2.2.2.1,y2.2.2.2.2.2.2.1,([r11.2.1]:List (ApiItem)),y2.2.2.2.2.2.2.2.2),y3,y4,y5,(IntKind.wrap .i64 (y6+(1:Int))),())))
 else (bif Nat.beq (y6).toNat 6 then (some (Sum.inl ((y0.1,()),y1,(y2.1,y2.2.1,y2.2.2.1,y2.2.2.2.1,y2.2.2.2.2.1,y2.2.2.2.2.2.1,([r11.2.1]:List (ApiItem)),y2.2.2.2.2.2.2.2),y3,y4,y5,(IntKind.wrap .i64 (y6+(1:Int))),())))
 else (bif Nat.beq (y6).toNat 5 then (some (Sum.inl ((y0.1,()),y1,(y2.1,y2.2.1,y2.2.2.1,y2.2.2.2.1,y2.2.2.2.2.1,([r11.2.1]:List (ApiItem)),y2.2.2.2.2.2.2),y3,y4,y5,(IntKind.wrap .i64 (y6+(1:Int))),())))
 else (bif Nat.beq (y6).toNat 4 then (some (Sum.inl ((y0.1,()),y1,(y2.1,y2.2.1,y2.2.2.1,y2.2.2.2.1,([r11.2.1]:List (ApiItem)),y2.2.2.2.2.2),y3,y4,y5,(IntKind.wrap .i64 (y6+(1:Int))),())))
 else (bif Nat.beq (y6).toNat 3 then (some (Sum.inl ((y0.1,()),y1,(y2.1,y2.2.1,y2.2.2.1,([r11.2.1]:List (ApiItem)),y2.2.2.2.2),y3,y4,y5,(IntKind.wrap .i64 (y6+(1:Int))),())))
 else (bif Nat.beq (y6).toNat 2 then (some (Sum.inl ((y0.1,()),y1,(y2.1,y2.2.1,([r11.2.1]:List (ApiItem)),y2.2.2.2),y3,y4,y5,(IntKind.wrap .i64 (y6+(1:Int))),())))
 else (bif Nat.beq (y6).toNat 1 then (some (Sum.inl ((y0.1,()),y1,(y2.1,([r11.2.1]:List (ApiItem)),y2.2.2),y3,y4,y5,(IntKind.wrap .i64 (y6+(1:Int))),())))
 else (bif Nat.beq (y6).toNat 0 then (some (Sum.inl ((y0.1,()),y1,(([r11.2.1]:List (ApiItem)),y2.2),y3,y4,y5,(IntKind.wrap .i64 (y6+(1:Int))),())))
 else none))))))))))))))))))
 else none))
 else (some (Sum.inl ((y0.1,()),y1,y2,y3,y4,y5,(IntKind.wrap .i64 (y6+(1:Int))),())))))
 else none)))
 else none))
 else (bif (decide ((0:Int)≤y6)&&decide (y6<(18:Int))) then (((y4)[(y6).toNat]?).bind fun x12=>(bif (!decide (x12=([]:List UInt8))) then (bif (decide ((0:Int)≤y6)&&decide (y6<(18:Int))) then (((y4)[(y6).toNat]?).bind fun x13=>((Zbq x13).bind fun r14=>(bif (decide ((0:Int)≤y6)&&decide (y6<(18:Int))) then (bif Nat.beq (y6).toNat 17 then (some (Sum.inl ((y0.1,()),y1,(y2.1,y2.2.1,y2.2.2.1,y2.2.2.2.1,y2.2.2.2.2.1,y2.2.2.2.2.2.1,y2.2.2.2.2.2.2.1,y2.2.2.2.2.2.2.2.1,y2.2.2.2.2.2.2.2.2.1,y2.2.2.2.2.2.2.2.2.2.1,y2.2.2.2.2.2.2.2.2.2.2.1,y2.2.2.2.2.2.2.2.2.2.2.2.1,y2.2.2.2.2.2.2.2.2.2.2.2.2.1,y2.2.2.2.2.2.2.2.2.2.2.2.2.2.1,y2.2.2.2.2.2.2.2.2.2.2.2.2.2.2.1,y2.2.2.2.2.2.2.2.2.2.2.2.2.2.2.2.1,y2.2.2.2.2.2.2.2.2.2.2.2.2.2.2.2.2.1,([r14.2.1]:List (ApiItem)),()),y3,y4,y5,(IntKind.wrap .i64 (y6+(1:Int))),())))
 else (bif Nat.beq (y6).toNat 16 then (some (Sum.inl ((y0.1,()),y1,(y2.1,y2.2.1,y2.2.2.1,y2.2.2.2.1,y2.2.2.2.2.1,y2.2.2.2.2.2.1,y2.2.2.2.2.2.2.1,y2.2.2.2.2.2.2.2.1,y2.2.2.2.2.2.2.2.2.1,y2.2.2.2.2.2.2.2.2.2.1,y2.2.2.2.2.2.2.2.2.2.2.1,y2.2.2.2.2.2.2.2.2.2.2.2.1,y2.2.2.2.2.2.2.2.2.2.2.2.2.1,y2.2.2.2.2.2.2.2.2.2.2.2.2.2.1,y2.2.2.2.2.2.2.2.2.2.2.2.2.2.2.1,y2.2.2.2.2.2.2.2.2.2.2.2.2.2.2.2.1,([r14.2.1]:List (ApiItem)),y2.2.2.2.2.2.2.2.2.2.2.2.2.2.2.2.2.2.1,()),y3,y4,y5,(IntKind.wrap .i64 (y6+(1:Int))),())))
 else (bif Nat.beq (y6).toNat 15 then (some (Sum.inl ((y0.1,()),y1,(y2.1,y2.2.1,y2.2.2.1,y2.2.2.2.1,y2.2.2.2.2.1,y2.2.2.2.2.2.1,y2.2.2.2.2.2.2.1,y2.2.2.2.2.2.2.2.1,y2.2.2.2.2.2.2.2.2.1,y2.2.2.2.2.2.2.2.2.2.1,y2.2.2.2.2.2.2.2.2.2.2.1,y2.2.2.2.2.2.2.2.2.2.2.2.1,y2.2.2.2.2.2.2.2.2.2.2.2.2.1,y2.2.2.2.2.2.2.2.2.2.2.2.2.2.1,y2.2.2.2.2.2.2.2.2.2.2.2.2.2.2.1,([r14.2.1]:List (ApiItem)),y2.2.2.2.2.2.2.2.2.2.2.2.2.2.2.2.2),y3,y4,y5,(IntKind.wrap .i64 (y6+(1:Int))),())))
 else (bif Nat.beq (y6).toNat 14 then (some (Sum.inl ((y0.1,()),y1,(y2.1,y2.2.1,y2.2.2.1,y2.2.2.2.1,y2.2.2.2.2.1,y2.2.2.2.2.2.1,y2.2.2.2.2.2.2.1,y2.2.2.2.2.2.2.2.1,y2.2.2.2.2.2.2.2.2.1,y2.2.2.2.2.2.2.2.2.2.1,y2.2.2.2.2.2.2.2.2.2.2.1,y2.2.2.2.2.2.2.2.2.2.2.2.1,y2.2.2.2.2.2.2.2.2.2.2.2.2.1,y2.2.2.2.2.2.2.2.2.2.2.2.2.2.1,([r14.2.1]:List (ApiItem)),y2.2.2.2.2.2.2.2.2.2.2.2.2.2.2.2),y3,y4,y5,(IntKind.wrap .i64 (y6+(1:Int))),())))
 else (bif Nat.beq (y6).toNat 13 then (some (Sum.inl ((y0.1,()),y1,(y2.1,y2.2.1,y2.2.2.1,y2.2.2.2.1,y2.2.2.2.2.1,y2.2.2.2.2.2.1,y2.2.2.2.2.2.2.1,y2.2.2.2.2.2.2.2.1,y2.2.2.2.2.2.2.2.2.1,y2.2.2.2.2.2.2.2.2.2.1,y2.2.2.2.2.2.2.2.2.2.2.1,y2.2.2.2.2.2.2.2.2.2.2.2.1,y2.2.2.2.2.2.2.2.2.2.2.2.2.1,([r14.2.1]:List (ApiItem)),y2.2.2.2.2.2.2.2.2.2.2.2.2.2.2),y3,y4,y5,(IntKind.wrap .i64 (y6+(1:Int))),())))
 else (bif Nat.beq (y6).toNat 12 then (some (Sum.inl ((y0.1,()),y1,(y2.1,y2.2.1,y2.2.2.1,y2.2.2.2.1,y2.2.2.2.2.1,y2.2.2.2.2.2.1,y2.2.2.2.2.2.2.1,y2.2.2.2.2.2.2.2.1,y2.2.2.2.2.2.2.2.2.1,y2.2.2.2.2.2.2.2.2.2.1,y2.2.2.2.2.2.2.2.2.2.2.1,y2.2.2.2.2.2.2.2.2.2.2.2.1,([r14.2.1]:List (ApiItem)),y2.2.2.2.2.2.2.2.2.2.2.2.2.2),y3,y4,y5,(IntKind.wrap .i64 (y6+(1:Int))),())))
 else (bif Nat.beq (y6).toNat 11 then (some (Sum.inl ((y0.1,()),y1,(y2.1,y2.2.1,y2.2.2.1,y2.2.2.2.1,y2.2.2.2.2.1,y2.2.2.2.2.2.1,y2.2.2.2.2.2.2.1,y2.2.2.2.2.2.2.2.1,y2.2.2.2.2.2.2.2.2.1,y2.2.2.2.2.2.2.2.2.2.1,y2.2.2.2.2.2.2.2.2.2.2.1,([r14.2.1]:List (ApiItem)),y2.2.2.2.2.2.2.2.2.2.2.2.2),y3,y4,y5,(IntKind.wrap .i64 (y6+(1:Int))),())))
 else (bif Nat.beq (y6).toNat 10 then (some (Sum.inl ((y0.1,()),y1,(y2.1,y2.2.1,y2.2.2.1,y2.2.2.2.1,y2.2.2.2.2.1,y2.2.2.2.2.2.1,y2.2.2.2.2.2.2.1,y2.2.2.2.2.2.2.2.1,y2.2.2.2.2.2.2.2.2.1,y2.2.2.2.2.2.2.2.2.2.1,([r14.2.1]:List (ApiItem)),y2.2.2.2.2.2.2.2.2.2.2.2),y3,y4,y5,(IntKind.wrap .i64 (y6+(1:Int))),())))
 else (bif Nat.beq (y6).toNat 9 then (some (Sum.inl ((y0.1,()),y1,(y2.1,y2.2.1,y2.2.2.1,y2.2.2.2.1,y2.2.2.2.2.1,y2.2.2.2.2.2.1,y2.2.2.2.2.2.2.1,y2.2.2.2.2.2.2.2.1,y2.2.2.2.2.2.2.2.2.1,([r14.2.1]:List (ApiItem)),y2.2.2.2.2.2.2.2.2.2.2),y3,y4,y5,(IntKind.wrap .i64 (y6+(1:Int))),())))
 else (bif Nat.beq (y6).toNat 8 then (some (Sum.inl ((y0.1,()),y1,(y2.1,y2.2.1,y2.2.2.1,y2.2.2.2.1,y2.2.2.2.2.1,y2.2.2.2.2.2.1,y2.2.2.2.2.2.2.1,y2.2.2.2.2.2.2.2.1,([r14.2.1]:List (ApiItem)),y2.2.2.2.2.2.2.2.2.2),y3,y4,y5,(IntKind.wrap .i64 (y6+(1:Int))),())))
 else (bif Nat.beq (y6).toNat 7 then (some (Sum.inl ((y0.1,()),y1,(y2.1,y2.2.1,y2.2.2.1,y2.2.2.2.1,y2.2.2.2.2.1,y2.2.2.2.2.2.1,y2.2.2.2.2.2.2.1,([r14.2.1]:List (ApiItem)),y2.2.2.2.2.2.2.2.2),y3,y4,y5,(IntKind.wrap .i64 (y6+(1:Int))),())))
 else (bif Nat.beq (y6).toNat 6 then (some (Sum.inl ((y0.1,()),y1,(y2.1,y2.2.1,y2.2.2.1,y2.2.2.2.1,y2.2.2.2.2.1,y2.2.2.2.2.2.1,([r14.2.1]:List (ApiItem)),y2.2.2.2.2.2.2.2),y3,y4,y5,(IntKind.wrap .i64 (y6+(1:Int))),())))
 else (bif Nat.beq (y6).toNat 5 then (some (Sum.inl ((y0.1,()),y1,(y2.1,y2.2.1,y2.2.2.1,y2.2.2.2.1,y2.2.2.2.2.1,([r14.2.1]:List (ApiItem)),y2.2.2.2.2.2.2),y3,y4,y5,(IntKind.wrap .i64 (y6+(1:Int))),())))
 else (bif Nat.beq (y6).toNat 4 then (some (Sum.inl ((y0.1,()),y1,(y2.1,y2.2.1,y2.2.2.1,y2.2.2.2.1,([r14.2.1]:List (ApiItem)),y2.2.2.2.2.2),y3,y4,y5,(IntKind.wrap .i64 (y6+(1:Int))),())))
 else (bif Nat.beq (y6).toNat 3 then (some (Sum.inl ((y0.1,()),y1,(y2.1,y2.2.1,y2.2.2.1,([r14.2.1]:List (ApiItem)),y2.2.2.2.2),y3,y4,y5,(IntKind.wrap .i64 (y6+(1:Int))),())))
 else (bif Nat.beq (y6).toNat 2 then (some (Sum.inl ((y0.1,()),y1,(y2.1,y2.2.1,([r14.2.1]:List (ApiItem)),y2.2.2.2),y3,y4,y5,(IntKind.wrap .i64 (y6+(1:Int))),())))
 else (bif Nat.beq (y6).toNat 1 then (some (Sum.inl ((y0.1,()),y1,(y2.1,([r14.2.1]:List (ApiItem)),y2.2.2),y3,y4,y5,(IntKind.wrap .i64 (y6+(1:Int))),())))
 else (bif Nat.beq (y6).toNat 0 then (some (Sum.inl ((y0.1,()),y1,(([r14.2.1]:List (ApiItem)),y2.2),y3,y4,y5,(IntKind.wrap .i64 (y6+(1:Int))),())))
 else none))))))))))))))))))
 else none)))
 else none)
 else (bif (decide ((0:Int)≤y6)&&decide (y6<(18:Int))) then (((y5)[(y6).toNat]?).bind fun x15=>(bif x15 then ((Zau true).bind fun r16=>(bif (decide ((0:Int)≤y6)&&decide (y6<(18:Int))) then (bif Nat.beq (y6).toNat 17 then (some (Sum.inl ((y0.1,()),y1,(y2.1,y2.2.1,y2.2.2.1,y2.2.2.2.1,y2.2.2.2.2.1,y2.2.2.2.2.2.1,y2.2.2.2.2.2.2.1,y2.2.2.2.2.2.2.2.1,y2.2.2.2.2.2.2.2.2.1,y2.2.2.2.2.2.2.2.2.2.1,y2.2.2.2.2.2.2.2.2.2.2.1,y2.2.2.2.2.2.2.2.2.2.2.2.1,y2.2.2.2.2.2.2.2.2.2.2.2.2.1,y2.2.2.2.2.2.2.2.2.2.2.2.2.2.1,y2.2.2.2.2.2.2.2.2.2.2.2.2.2.2.1,y2.2.2.2.2.2.2.2.2.2.2.2.2.2.2.2.1,y2.2.2.2.2.2.2.2.2.2.2.2.2.2.2.2.2.1,([r16.2.1]:List (ApiItem)),()),y3,y4,y5,(IntKind.wrap .i64 (y6+(1:Int))),())))
 else (bif Nat.beq (y6).toNat 16 then (some (Sum.inl ((y0.1,()),y1,(y2.1,y2.2.1,y2.2.2.1,y2.2.2.2.1,y2.2.2.2.2.1,y2.2.2.2.2.2.1,y2.2.2.2.2.2.2.1,y2.2.2.2.2.2.2.2.1,y2.2.2.2.2.2.2.2.2.1,y2.2.2.2.2.2.2.2.2.2.1,y2.2.2.2.2.2.2.2.2.2.2.1,y2.2.2.2.2.2.2.2.2.2.2.2.1,y2.2.2.2.2.2.2.2.2.2.2.2.2.1,y2.2.2.2.2.2.2.2.2.2.2.2.2.2.1,y2.2.2.2.2.2.2.2.2.2.2.2.2.2.2.1,y2.2.2.2.2.2.2.2.2.2.2.2.2.2.2.2.1,([r16.2.1]:List (ApiItem)),y2.2.2.2.2.2.2.2.2.2.2.2.2.2.2.2.2.2.1,()),y3,y4,y5,(IntKind.wrap .i64 (y6+(1:Int))),())))
 else (bif Nat.beq (y6).toNat 15 then (some (Sum.inl ((y0.1,()),y1,(y2.1,y2.2.1,y2.2.2.1,y2.2.2.2.1,y2.2.2.2.2.1,y2.2.2.2.2.2.1,y2.2.2.2.2.2.2.1,y2.2.2.2.2.2.2.2.1,y2.2.2.2.2.2.2.2.2.1,y2.2.2.2.2.2.2.2.2.2.1,y2.2.2.2.2.2.2.2.2.2.2.1,y2.2.2.2.2.2.2.2.2.2.2.2.1,y2.2.2.2.2.2.2.2.2.2.2.2.2.1,y2.2.2.2.2.2.2.2.2.2.2.2.2.2.1,y2.2.2.2.2.2.2.2.2.2.2.2.2.2.2.1,([r16.2.1]:List (ApiItem)),y2.2.2.2.2.2.2.2.2.2.2.2.2.2.2.2.2),y3,y4,y5,(IntKind.wrap .i64 (y6+(1:Int))),())))
 else (bif Nat.beq (y6).toNat 14 then (some (Sum.inl ((y0.1,()),y1,(y2.1,y2.2.1,y2.2.2.1,y2.2.2.2.1,y2.2.2.2.2.1,y2.2.2.2.2.2.1,y2.2.2.2.2.2.2.1,y2.2.2.2.2.2.2.2.1,y2.2.2.2.2.2.2.2.2.1,y2.2.2.2.2.2.2.2.2.2.1,y2.2.2.2.2.2.2.2.2.2.2.1,y2.2.2.2.2.2.2.2.2.2.2.2.1,y2.2.2.2.2.2.2.2.2.2.2.2.2.1,y2.2.2.2.2.2.2.2.2.2.2.2.2.2.1,([r16.2.1]:List (ApiItem)),y2.2.2.2.2.2.2.2.2.2.2.2.2.2.2.2),y3,y4,y5,(IntKind.wrap .i64 (y6+(1:Int))),())))
 else (bif Nat.beq (y6).toNat 13 then (some (Sum.inl ((y0.1,()),y1,(y2.1,y2.2.1,y2.2.2.1,y2.2.2.2.1,y2.2.2.2.2.1,y2.2.2.2.2.2.1,y2.2.2.2.2.2.2.1,y2.2.2.2.2.2.2.2.1,y2.2.2.2.2.2.2.2.2.1,y2.2.2.2.2.2.2.2.2.2.1,y2.2.2.2.2.2.2.2.2.2.2.1,y2.2.2.2.2.2.2.2.2.2.2.2.1,y2.2.2.2.2.2.2.2.2.2.2.2.2.1,([r16.2.1]:List (ApiItem)),y2.2.2.2.2.2.2.2.2.2.2.2.2.2.2),y3,y4,y5,(IntKind.wrap .i64 (y6+(1:Int))),())))
 else (bif Nat.beq (y6).toNat 12 then (some (Sum.inl ((y0.1,()),y1,(y2.1,y2.2.1,y2.2.2.1,y2.2.2.2.1,y2.2.2.2.2.1,y2.2.2.2.2.2.1,y2.2.2.2.2.2.2.1,y2.2.2.2.2.2.2.2.1,y2.2.2.2.2.2.2.2.2.1,y2.2.2.2.2.2.2.2.2.2.1,y2.2.2.2.2.2.2.2.2.2.2.1,y2.2.2.2.2.2.2.2.2.2.2.2.1,([r16.2.1]:List (ApiItem)),y2.2.2.2.2.2.2.2.2.2.2.2.2.2),y3,y4,y5,(IntKind.wrap .i64 (y6+(1:Int))),())))
 else (bif Nat.beq (y6).toNat 11 then (some (Sum.inl ((y0.1,()),y1,(y2.1,y2.2.1,y2.2.2.1,y2.2.2.2.1,y2.2.2.2.2.1,y2.2.2.2.2.2.1,y2.2.2.2.2.2.2.1,y2.2.2.2.2.2.2.2.1,y2.2.2.2.2.2.2.2.2.1,y2.2.2.2.2.2.2.2.2.2.1,y2.2.2.2.2.2.2.2.2.2.2.1,([r16.2.1]:List (ApiItem)),y2.2.2.2.2.2.2.2.2.2.2.2.2),y3,y4,y5,(IntKind.wrap .i64 (y6+(1:Int))),())))
 else (bif Nat.beq (y6).toNat 10 then (some (Sum.inl ((y0.1,()),y1,(y2.1,y2.2.1,y2.2.2.1,y2.2.2.2.1,y2.2.2.2.2.1,y2.2.2.2.2.2.1,y2.2.2.2.2.2.2.1,y2.2.2.2.2.2.2.2.1,y2.2.2.2.2.2.2.2.2.1,y2.2.2.2.2.2.2.2.2.2.1,([r16.2.1]:List (ApiItem)),y2.2.2.2.2.2.2.2.2.2.2.2),y3,y4,y5,(IntKind.wrap .i64 (y6+(1:Int))),())))
 else (bif Nat.beq (y6).toNat 9 then (some (Sum.inl ((y0.1,()),y1,(y2.1,y2.2.1,y2.2.2.1,y2.2.2.2.1,y2.2.2.2.2.1,y2.2.2.2.2.2.1,y2.2.2.2.2.2.2.1,y2.2.2.2.2.2.2.2.1,y2.2.2.2.2.2.2.2.2.1,([r16.2.1]:List (ApiItem)),y2.2.2.2.2.2.2.2.2.2.2),y3,y4,y5,(IntKind.wrap .i64 (y6+(1:Int))),())))
 else (bif Nat.beq (y6).toNat 8 then (some (Sum.inl ((y0.1,()),y1,(y2.1,y2.2.1,y2.2.2.1,y2.2.2.2.1,y2.2.2.2.2.1,y2.2.2.2.2.2.1,y2.2.2.2.2.2.2.1,y2.2.2.2.2.2.2.2.1,([r16.2.1]:List (ApiItem)),y2.2.2.2.2.2.2.2.2.2),y3,y4,y5,(IntKind.wrap .i64 (y6+(1:Int))),())))
 else (bif Nat.beq (y6).toNat 7 then (some (Sum.inl ((y0.1,()),y1,(y2.1,y2.2.1,y2.2.2.1,y2.2.2.2.1,y2.2.2.2.2.1,y2.2.2.2.2.2.1,y2.2.2.2.2.2.2.1,([r16.2.1]:List (ApiItem)),y2.2.2.2.2.2.2.2.2),y3,y4,y5,(IntKind.wrap .i64 (y6+(1:Int))),())))
 else (bif Nat.beq (y6).toNat 6 then (some (Sum.inl ((y0.1,()),y1,(y2.1,y2.2.1,y2.2.2.1,y2.2.2.2.1,y2.2.2.2.2.1,y2.2.2.2.2.2.1,([r16.2.1]:List (ApiItem)),y2.2.2.2.2.2.2.2),y3,y4,y5,(IntKind.wrap .i64 (y6+(1:Int))),())))
 else (bif Nat.beq (y6).toNat 5 then (some (Sum.inl ((y0.1,()),y1,(y2.1,y2.2.1,y2.2.2.1,y2.2.2.2.1,y2.2.2.2.2.1,([r16.2.1]:List (ApiItem)),y2.2.2.2.2.2.2),y3,y4,y5,(IntKind.wrap .i64 (y6+(1:Int))),())))
 else (bif Nat.beq (y6).toNat 4 then (some (Sum.inl ((y0.1,()),y1,(y2.1,y2.2.1,y2.2.2.1,y2.2.2.2.1,([r16.2.1]:List (ApiItem)),y2.2.2.2.2.2),y3,y4,y5,(IntKind.wrap .i64 (y6+(1:Int))),())))
 else (bif Nat.beq (y6).toNat 3 then (some (Sum.inl ((y0.1,()),y1,(y2.1,y2.2.1,y2.2.2.1,([r16.2.1]:List (ApiItem)),y2.2.2.2.2),y3,y4,y5,(IntKind.wrap .i64 (y6+(1:Int))),())))
 else (bif Nat.beq (y6).toNat 2 then (some (Sum.inl ((y0.1,()),y1,(y2.1,y2.2.1,([r16.2.1]:List (ApiItem)),y2.2.2.2),y3,y4,y5,(IntKind.wrap .i64 (y6+(1:Int))),())))
 else (bif Nat.beq (y6).toNat 1 then (some (Sum.inl ((y0.1,()),y1,(y2.1,([r16.2.1]:List (ApiItem)),y2.2.2),y3,y4,y5,(IntKind.wrap .i64 (y6+(1:Int))),())))
 else (bif Nat.beq (y6).toNat 0 then (some (Sum.inl ((y0.1,()),y1,(([r16.2.1]:List (ApiItem)),y2.2),y3,y4,y5,(IntKind.wrap .i64 (y6+(1:Int))),())))
 else none))))))))))))))))))
 else none))
 else (some (Sum.inl ((y0.1,()),y1,y2,y3,y4,y5,(IntKind.wrap .i64 (y6+(1:Int))),())))))
 else none)))
 else none)))
 else none)))
 else none)
 else (some (Sum.inr ((y0.1,()),y1,y2,()))))
def passkeyref14_replyFields_L0 (y:((ApiReply×Unit)×Yaq×Yaq×(List (BitVec 64))×(List (List UInt8))×(List (Bool))×Int×Unit)):Option ((ApiReply×Unit)×Yaq×Yaq×Unit):=iter (fun (y:((ApiReply×Unit)×Yaq×Yaq×(List (BitVec 64))×(List (List UInt8))×(List (Bool))×Int×Unit))=>passkeyref14_replyFields_L0b y.1 y.2.1 y.2.2.1 y.2.2.2.1 y.2.2.2.2.1 y.2.2.2.2.2.1 y.2.2.2.2.2.2.1) rounds y
def passkeyref14_replyFields_L3b (y0:(ApiReply×Unit)) (y1:Yaq) (y2:Yaq) (y3:Int):Option (((ApiReply×Unit)×Yaq×Yaq×Int×Unit)⊕(Yaq×Yaq×Unit)):=
 (bif (decide (y3<((y0.1.entries).length:Int))) then ((getI y0.1.entries y3).bind fun x22=>((Zbd (1#64)).bind fun r23=>((Zbs x22.rP).bind fun r24=>((Zbd (2#64)).bind fun r25=>((Zbq x22.user).bind fun r26=>((Zbd (3#64)).bind fun r27=>((Zbs x22.name).bind fun r28=>((Zbd (4#64)).bind fun r29=>((Zbq x22.iD).bind fun r30=>((Zbd (5#64)).bind fun r31=>((Zbd (BitVec.ofInt 64 x22.left)).bind fun r32=>(let v33:List (ApiItem):=([(⟨(6:Int),5#64,([]:List UInt8)⟩:ApiItem),r23.2.1,r24.2.1,r25.2.1,r26.2.1,r27.2.1,r28.2.1,r29.2.1,r30.2.1,r31.2.1,r32.2.1]:List (ApiItem))
 (bif small ((y2.2.2.2.2.2.2.2.2.2.2.2.2.2.2.2.2.2.1).length+(v33:List (ApiItem)).length) 32 then (let v34:List (ApiItem):=(y2.2.2.2.2.2.2.2.2.2.2.2.2.2.2.2.2.2.1++v33)
 (some (Sum.inl ((y0.1,()),y1,(y2.1,y2.2.1,y2.2.2.1,y2.2.2.2.1,y2.2.2.2.2.1,y2.2.2.2.2.2.1,y2.2.2.2.2.2.2.1,y2.2.2.2.2.2.2.2.1,y2.2.2.2.2.2.2.2.2.1,y2.2.2.2.2.2.2.2.2.2.1,y2.2.2.2.2.2.2.2.2.2.2.1,y2.2.2.2.2.2.2.2.2.2.2.2.1,y2.2.2.2.2.2.2.2.2.2.2.2.2.1,y2.2.2.2.2.2.2.2.2.2.2.2.2.2.1,y2.2.2.2.2.2.2.2.2.2.2.2.2.2.2.1,y2.2.2.2.2.2.2.2.2.2.2.2.2.2.2.2.1,y2.2.2.2.2.2.2.2.2.2.2.2.2.2.2.2.2.1,v34,()),(IntKind.wrap .i64 (y3+(1:Int))),()))))
 else none)))))))))))))
 else (some (Sum.inr (y1,y2,()))))
def passkeyref14_replyFields_L3 (y:((ApiReply×Unit)×Yaq×Yaq×Int×Unit)):Option (Yaq×Yaq×Unit):=iter (fun (y:((ApiReply×Unit)×Yaq×Yaq×Int×Unit))=>passkeyref14_replyFields_L3b y.1 y.2.1 y.2.2.1 y.2.2.2.1) rounds y
def passkeyref14_replyFields (a0:ApiReply):Option ((Unit)×(Arr18_ListApiItem×Unit)):=
 ((passkeyref14_replyFields_L0 ((a0,()),([],[],[],[],[],[],[],[],[],[],[],[],[],[],[],[],[],[],()),([],[],[],[],[],[],[],[],[],[],[],[],[],[],[],[],[],[],()),([0#64,0#64,0#64,0#64,(BitVec.ofInt 64 a0.format),0#64,0#64,0#64,(BitVec.ofInt 64 a0.count),a0.peer,0#64,a0.model,(BitVec.ofInt 64 a0.retries),(BitVec.ofInt 64 a0.rooms),(BitVec.ofInt 64 a0.leases),0#64,0#64,0#64]:List (BitVec 64)),([([]:List UInt8),a0.authData,a0.signature,([]:List UInt8),([]:List UInt8),a0.iD,a0.user,a0.name,([]:List UInt8),([]:List UInt8),a0.box,([]:List UInt8),([]:List UInt8),([]:List UInt8),([]:List UInt8),([]:List UInt8),([]:List UInt8),([]:List UInt8)]:List (List UInt8)),([false,false,false,false,false,false,false,false,false,false,false,false,false,false,false,a0.pinSet,a0.finger,false]:List (Bool)),(1:Int),())).bind (fun (z17:((ApiReply×Unit)×Yaq×Yaq×Unit))=>((bif (decide ((0:Int)<((z17.1.1.certificates).length:Int))) then ((Zbr z17.1.1.certificates).bind fun r18=>(some ((z17.1.1,()),z17.2.1,(z17.2.2.1.1,z17.2.2.1.2.1,z17.2.2.1.2.2.1,r18.2.1,z17.2.2.1.2.2.2.2),())))
 else (some ((z17.1.1,()),z17.2.1,z17.2.2.1,()))).bind (fun (j19:((ApiReply×Unit)×Yaq×Yaq×Unit))=>((bif (decide ((0:Int)<((j19.1.1.entries).length:Int))) then (let v20:List (ApiItem):=([(⟨(5:Int),(BitVec.ofInt 64 ((j19.1.1.entries).length:Int)),([]:List UInt8)⟩:ApiItem)]:List (ApiItem))
 (some ((j19.1.1,()),j19.2.1,(j19.2.2.1.1,j19.2.2.1.2.1,j19.2.2.1.2.2.1,j19.2.2.1.2.2.2.1,j19.2.2.1.2.2.2.2.1,j19.2.2.1.2.2.2.2.2.1,j19.2.2.1.2.2.2.2.2.2.1,j19.2.2.1.2.2.2.2.2.2.2.1,j19.2.2.1.2.2.2.2.2.2.2.2.1,j19.2.2.1.2.2.2.2.2.2.2.2.2.1,j19.2.2.1.2.2.2.2.2.2.2.2.2.2.1,j19.2.2.1.2.2.2.2.2.2.2.2.2.2.2.1,j19.2.2.1.2.2.2.2.2.2.2.2.2.2.2.2.1,j19.2.2.1.2.2.2.2.2.2.2.2.2.2.2.2.2.1,j19.2.2.1.2.2.2.2.2.2.2.2.2.2.2.2.2.2.1,j19.2.2.1.2.2.2.2.2.2.2.2.2.2.2.2.2.2.2.1,j19.2.2.1.2.2.2.2.2.2.2.2.2.2.2.2.2.2.2.2.1,v20,()),())))
 else (some ((j19.1.1,()),j19.2.1,j19.2.2.1,()))).bind (fun (j21:((ApiReply×Unit)×Yaq×Yaq×Unit))=>((passkeyref14_replyFields_L3 ((j21.1.1,()),j21.2.1,j21.2.2.1,(0:Int),())).bind (fun (z35:(Yaq×Yaq×Unit))=>(some ((),((⟨z35.2.1.1,z35.2.1.2.1,z35.2.1.2.2.1,z35.2.1.2.2.2.1,z35.2.1.2.2.2.2.1,z35.2.1.2.2.2.2.2.1,z35.2.1.2.2.2.2.2.2.1,z35.2.1.2.2.2.2.2.2.2.1,z35.2.1.2.2.2.2.2.2.2.2.1,z35.2.1.2.2.2.2.2.2.2.2.2.1,z35.2.1.2.2.2.2.2.2.2.2.2.2.1,z35.2.1.2.2.2.2.2.2.2.2.2.2.2.1,z35.2.1.2.2.2.2.2.2.2.2.2.2.2.2.1,z35.2.1.2.2.2.2.2.2.2.2.2.2.2.2.2.1,z35.2.1.2.2.2.2.2.2.2.2.2.2.2.2.2.2.1,z35.2.1.2.2.2.2.2.2.2.2.2.2.2.2.2.2.2.1,z35.2.1.2.2.2.2.2.2.2.2.2.2.2.2.2.2.2.2.1,z35.2.1.2.2.2.2.2.2.2.2.2.2.2.2.2.2.2.2.2.1⟩:Arr18_ListApiItem),())))))))))))
def S_passkeyref14_replyFields:FSpec T:=⟨[.f (.v (.agg 4))],[(.v (.agg 15))],fun x=>passkeyref14_replyFields x.1⟩
def E_passkeyref14_replyFields:Env T:=⟨tab.find,cd,globs,flc,fun f ds=>match f with
  | 44=>some S_Zbd
  | 45=>some S_Zbs
  | 46=>some S_Zbq
  | 47=>some S_Zau
  | 48=>some S_Zbr
  | _=>none,fun f=>match f with
  | 44=>true
  | 45=>true
  | 46=>true
  | 47=>true
  | _=>false⟩
def A_passkeyref14_replyFields:Loc2 T:=⟨fun id=>match id with
  | 0=>some ⟨[(1,.ptr [(.v (.agg 4))]),(2,.ptr [(.own 1),(.own 1),(.own 1),(.own 1),(.own 1),(.own 1),(.own 1),(.own 1),(.own 1),(.own 1),(.own 1),(.own 1),(.own 1),(.own 1),(.own 1),(.own 1),(.own 1),(.own 1)]),(3,.ptr [(.own 1),(.own 1),(.own 1),(.own 1),(.own 1),(.own 1),(.own 1),(.own 1),(.own 1),(.own 1),(.own 1),(.own 1),(.own 1),(.own 1),(.own 1),(.own 1),(.own 1),(.own 1)]),(4,.lar 12),(5,.lar 14),(6,.lar 6),(7,.f (.v (.int .i64)))],[(.exit 0,[(1,.ptr [(.v (.agg 4))]),(2,.ptr [(.own 1),(.own 1),(.own 1),(.own 1),(.own 1),(.own 1),(.own 1),(.own 1),(.own 1),(.own 1),(.own 1),(.own 1),(.own 1),(.own 1),(.own 1),(.own 1),(.own 1),(.own 1)]),(3,.ptr [(.own 1),(.own 1),(.own 1),(.own 1),(.own 1),(.own 1),(.own 1),(.own 1),(.own 1),(.own 1),(.own 1),(.own 1),(.own 1),(.own 1),(.own 1),(.own 1),(.own 1),(.own 1)])])],passkeyref14_replyFields_L0,[]⟩
  | 3=>some ⟨[(1,.ptr [(.v (.agg 4))]),(2,.ptr [(.own 1),(.own 1),(.own 1),(.own 1),(.own 1),(.own 1),(.own 1),(.own 1),(.own 1),(.own 1),(.own 1),(.own 1),(.own 1),(.own 1),(.own 1),(.own 1),(.own 1),(.own 1)]),(3,.ptr [(.own 1),(.own 1),(.own 1),(.own 1),(.own 1),(.own 1),(.own 1),(.own 1),(.own 1),(.own 1),(.own 1),(.own 1),(.own 1),(.own 1),(.own 1),(.own 1),(.own 1),(.own 1)]),(8,.f (.v (.int .i64)))],[(.exit 3,[(2,.ptr [(.own 1),(.own 1),(.own 1),(.own 1),(.own 1),(.own 1),(.own 1),(.own 1),(.own 1),(.own 1),(.own 1),(.own 1),(.own 1),(.own 1),(.own 1),(.own 1),(.own 1),(.own 1)]),(3,.ptr [(.own 1),(.own 1),(.own 1),(.own 1),(.own 1),(.own 1),(.own 1),(.own 1),(.own 1),(.own 1),(.own 1),(.own 1),(.own 1),(.own 1),(.own 1),(.own 1),(.own 1),(.own 1)])])],passkeyref14_replyFields_L3,[]⟩
  | _=>none,fun r=>match r with
  | 18=>some ([(1,.ptr [(.v (.agg 4))]),(2,.ptr [(.own 1),(.own 1),(.own 1),(.own 1),(.own 1),(.own 1),(.own 1),(.own 1),(.own 1),(.own 1),(.own 1),(.own 1),(.own 1),(.own 1),(.own 1),(.own 1),(.own 1),(.own 1)]),(3,.ptr [(.own 1),(.own 1),(.own 1),(.own 1),(.own 1),(.own 1),(.own 1),(.own 1),(.own 1),(.own 1),(.own 1),(.own 1),(.own 1),(.own 1),(.own 1),(.own 1),(.own 1),(.own 1)])],true)
  | 20=>some ([(1,.ptr [(.v (.agg 4))]),(2,.ptr [(.own 1),(.own 1),(.own 1),(.own 1),(.own 1),(.own 1),(.own 1),(.own 1),(.own 1),(.own 1),(.own 1),(.own 1),(.own 1),(.own 1),(.own 1),(.own 1),(.own 1),(.own 1)]),(3,.ptr [(.own 1),(.own 1),(.own 1),(.own 1),(.own 1),(.own 1),(.own 1),(.own 1),(.own 1),(.own 1),(.own 1),(.own 1),(.own 1),(.own 1),(.own 1),(.own 1),(.own 1),(.own 1)])],true)
  | _=>none,fun r=>match r with
  | 24=>true
  | _=>false⟩
theorem Vb7 (y0:(ApiReply×Unit)) (y1:Yaq) (y2:Yaq) (y3:(List (BitVec 64))) (y4:(List (List UInt8))) (y5:(List (Bool))) (y6:Int):run E_passkeyref14_replyFields A_passkeyref14_replyFields (loopAt 0 (Tryz.f21.body.getD .skip)) (layC cd [(1,.ptr [(.v (.agg 4))]),(2,.ptr [(.own 1),(.own 1),(.own 1),(.own 1),(.own 1),(.own 1),(.own 1),(.own 1),(.own 1),(.own 1),(.own 1),(.own 1),(.own 1),(.own 1),(.own 1),(.own 1),(.own 1),(.own 1)]),(3,.ptr [(.own 1),(.own 1),(.own 1),(.own 1),(.own 1),(.own 1),(.own 1),(.own 1),(.own 1),(.own 1),(.own 1),(.own 1),(.own 1),(.own 1),(.own 1),(.own 1),(.own 1),(.own 1)]),(4,.lar 12),(5,.lar 14),(6,.lar 6),(7,.f (.v (.int .i64)))] [] (y0,y1,y2,y3,y4,y5,y6,())) (roundK cd [(1,.ptr [(.v (.agg 4))]),(2,.ptr [(.own 1),(.own 1),(.own 1),(.own 1),(.own 1),(.own 1),(.own 1),(.own 1),(.own 1),(.own 1),(.own 1),(.own 1),(.own 1),(.own 1),(.own 1),(.own 1),(.own 1),(.own 1)]),(3,.ptr [(.own 1),(.own 1),(.own 1),(.own 1),(.own 1),(.own 1),(.own 1),(.own 1),(.own 1),(.own 1),(.own 1),(.own 1),(.own 1),(.own 1),(.own 1),(.own 1),(.own 1),(.own 1)]),(4,.lar 12),(5,.lar 14),(6,.lar 6),(7,.f (.v (.int .i64)))] [] [(.exit 0,[(1,.ptr [(.v (.agg 4))]),(2,.ptr [(.own 1),(.own 1),(.own 1),(.own 1),(.own 1),(.own 1),(.own 1),(.own 1),(.own 1),(.own 1),(.own 1),(.own 1),(.own 1),(.own 1),(.own 1),(.own 1),(.own 1),(.own 1)]),(3,.ptr [(.own 1),(.own 1),(.own 1),(.own 1),(.own 1),(.own 1),(.own 1),(.own 1),(.own 1),(.own 1),(.own 1),(.own 1),(.own 1),(.own 1),(.own 1),(.own 1),(.own 1),(.own 1)])])])=passkeyref14_replyFields_L0b y0 y1 y2 y3 y4 y5 y6:=by kernel_rfl
theorem Vb8 (y0:(ApiReply×Unit)) (y1:Yaq) (y2:Yaq) (y3:Int):run E_passkeyref14_replyFields A_passkeyref14_replyFields (loopAt 3 (Tryz.f21.body.getD .skip)) (layC cd [(1,.ptr [(.v (.agg 4))]),(2,.ptr [(.own 1),(.own 1),(.own 1),(.own 1),(.own 1),(.own 1),(.own 1),(.own 1),(.own 1),(.own 1),(.own 1),(.own 1),(.own 1),(.own 1),(.own 1),(.own 1),(.own 1),(.own 1)]),(3,.ptr [(.own 1),(.own 1),(.own 1),(.own 1),(.own 1),(.own 1),(.own 1),(.own 1),(.own 1),(.own 1),(.own 1),(.own 1),(.own 1),(.own 1),(.own 1),(.own 1),(.own 1),(.own 1)]),(8,.f (.v (.int .i64)))] [] (y0,y1,y2,y3,())) (roundK cd [(1,.ptr [(.v (.agg 4))]),(2,.ptr [(.own 1),(.own 1),(.own 1),(.own 1),(.own 1),(.own 1),(.own 1),(.own 1),(.own 1),(.own 1),(.own 1),(.own 1),(.own 1),(.own 1),(.own 1),(.own 1),(.own 1),(.own 1)]),(3,.ptr [(.own 1),(.own 1),(.own 1),(.own 1),(.own 1),(.own 1),(.own 1),(.own 1),(.own 1),(.own 1),(.own 1),(.own 1),(.own 1),(.own 1),(.own 1),(.own 1),(.own 1),(.own 1)]),(8,.f (.v (.int .i64)))] [] [(.exit 3,[(2,.ptr [(.own 1),(.own 1),(.own 1),(.own 1),(.own 1),(.own 1),(.own 1),(.own 1),(.own 1),(.own 1),(.own 1),(.own 1),(.own 1),(.own 1),(.own 1),(.own 1),(.own 1),(.own 1)]),(3,.ptr [(.own 1),(.own 1),(.own 1),(.own 1),(.own 1),(.own 1),(.own 1),(.own 1),(.own 1),(.own 1),(.own 1),(.own 1),(.own 1),(.own 1),(.own 1),(.own 1),(.own 1),(.own 1)])])])=passkeyref14_replyFields_L3b y0 y1 y2 y3:=by kernel_rfl
theorem Vcs (x:tySs T S_passkeyref14_replyFields.ps):run E_passkeyref14_replyFields A_passkeyref14_replyFields (Tryz.f21.body.getD .skip) (enterT E_passkeyref14_replyFields.C S_passkeyref14_replyFields.ps x) (retK E_passkeyref14_replyFields Tryz.f21.results.toList S_passkeyref14_replyFields.ps S_passkeyref14_replyFields.rs)=S_passkeyref14_replyFields.fn x:=by kernel_rfl
theorem Vau:EnvOk Tryz.prog E_passkeyref14_replyFields:=envOk (E:=E_passkeyref14_replyFields) cd_ok tys fl_ok fun f ds S h=>by
  dsimp only [E_passkeyref14_replyFields] at h
  split at h
  ·cases h; exact Vaaa
  ·cases h; exact Viea
  ·cases h; exact Vaba
  ·cases h; exact Viha
  ·cases h; exact Vija
  ·cases h
theorem Va6:LoopOk Tryz.prog E_passkeyref14_replyFields Tryz.f21.ntmps (kqOf S_passkeyref14_replyFields.ps 0) (loopAt 0 (Tryz.f21.body.getD .skip)) ⟨[(1,.ptr [(.v (.agg 4))]),(2,.ptr [(.own 1),(.own 1),(.own 1),(.own 1),(.own 1),(.own 1),(.own 1),(.own 1),(.own 1),(.own 1),(.own 1),(.own 1),(.own 1),(.own 1),(.own 1),(.own 1),(.own 1),(.own 1)]),(3,.ptr [(.own 1),(.own 1),(.own 1),(.own 1),(.own 1),(.own 1),(.own 1),(.own 1),(.own 1),(.own 1),(.own 1),(.own 1),(.own 1),(.own 1),(.own 1),(.own 1),(.own 1),(.own 1)]),(4,.lar 12),(5,.lar 14),(6,.lar 6),(7,.f (.v (.int .i64)))],[(.exit 0,[(1,.ptr [(.v (.agg 4))]),(2,.ptr [(.own 1),(.own 1),(.own 1),(.own 1),(.own 1),(.own 1),(.own 1),(.own 1),(.own 1),(.own 1),(.own 1),(.own 1),(.own 1),(.own 1),(.own 1),(.own 1),(.own 1),(.own 1)]),(3,.ptr [(.own 1),(.own 1),(.own 1),(.own 1),(.own 1),(.own 1),(.own 1),(.own 1),(.own 1),(.own 1),(.own 1),(.own 1),(.own 1),(.own 1),(.own 1),(.own 1),(.own 1),(.own 1)])])],passkeyref14_replyFields_L0,[]⟩:=
 Vaf (A:=A_passkeyref14_replyFields) (done:=[]) (c0:=(Tryz.f21.body.getD .skip)) hmix Vau Vaa rounds (by kernel_rfl) (by kernel_rfl) (fun x=>Vb7 x.1 x.2.1 x.2.2.1 x.2.2.2.1 x.2.2.2.2.1 x.2.2.2.2.2.1 x.2.2.2.2.2.2.1) (fun _=>rfl)
theorem Vb9:LoopOk Tryz.prog E_passkeyref14_replyFields Tryz.f21.ntmps (kqOf S_passkeyref14_replyFields.ps 0) (loopAt 3 (Tryz.f21.body.getD .skip)) ⟨[(1,.ptr [(.v (.agg 4))]),(2,.ptr [(.own 1),(.own 1),(.own 1),(.own 1),(.own 1),(.own 1),(.own 1),(.own 1),(.own 1),(.own 1),(.own 1),(.own 1),(.own 1),(.own 1),(.own 1),(.own 1),(.own 1),(.own 1)]),(3,.ptr [(.own 1),(.own 1),(.own 1),(.own 1),(.own 1),(.own 1),(.own 1),(.own 1),(.own 1),(.own 1),(.own 1),(.own 1),(.own 1),(.own 1),(.own 1),(.own 1),(.own 1),(.own 1)]),(8,.f (.v (.int .i64)))],[(.exit 3,[(2,.ptr [(.own 1),(.own 1),(.own 1),(.own 1),(.own 1),(.own 1),(.own 1),(.own 1),(.own 1),(.own 1),(.own 1),(.own 1),(.own 1),(.own 1),(.own 1),(.own 1),(.own 1),(.own 1)]),(3,.ptr [(.own 1),(.own 1),(.own 1),(.own 1),(.own 1),(.own 1),(.own 1),(.own 1),(.own 1),(.own 1),(.own 1),(.own 1),(.own 1),(.own 1),(.own 1),(.own 1),(.own 1),(.own 1)])])],passkeyref14_replyFields_L3,[]⟩:=
 Vaf (A:=A_passkeyref14_replyFields) (done:=[0]) (c0:=(Tryz.f21.body.getD .skip)) hmix Vau (Vac rfl Va6 Vaa) rounds (by kernel_rfl) (by kernel_rfl) (fun x=>Vb8 x.1 x.2.1 x.2.2.1 x.2.2.2.1) (fun _=>rfl)
theorem Vct:SoundT Tryz.prog cd gdn 21 S_passkeyref14_replyFields:=
 Vab (E:=E_passkeyref14_replyFields) (A:=A_passkeyref14_replyFields) (done:=[0,3]) (c:=(Tryz.f21.body.getD .skip)) (S:=S_passkeyref14_replyFields) (fn:=Tryz.f21) hmix Vau Tryz.func21 rfl (by kernel_rfl) (by kernel_rfl) (Vac rfl Va6 (Vac rfl Vb9 Vaa)) (by kernel_rfl) (by kernel_rfl) Vcs
def Zbn (a0:Int) (a1:Int) (a2:Int):Option ((Unit)×(Bool×Unit)):=
 (bif (decide (a1≤a0)) then (some ((),((decide (a0≤a2)),())))
 else (some ((),(false,()))))
def S_Zbn:FSpec T:=⟨[.f (.v (.int .i64)),.f (.v (.int .i64)),.f (.v (.int .i64))],[(.v .bool)],fun x=>Zbn x.1 x.2.1 x.2.2.1⟩
def E_Zbn:Env T:=⟨tab.find,cd,globs,flc,fun f ds=>match f with
  | _=>none,fun f=>match f with
  | _=>false⟩
def A_Zbn:Loc2 T:=⟨fun id=>match id with
  | _=>none,fun r=>match r with
  | _=>none,fun r=>match r with
  | _=>false⟩
theorem Vika (x:tySs T S_Zbn.ps):run E_Zbn A_Zbn (Tryz.f121.body.getD .skip) (enterT E_Zbn.C S_Zbn.ps x) (retK E_Zbn Tryz.f121.results.toList S_Zbn.ps S_Zbn.rs)=S_Zbn.fn x:=by kernel_rfl
theorem Vc0a:EnvOk Tryz.prog E_Zbn:=envOk (E:=E_Zbn) cd_ok tys fl_ok fun f ds S h=>by cases h
theorem Vila:SoundT Tryz.prog cd gdn 121 S_Zbn:=
 Vab (E:=E_Zbn) (A:=A_Zbn) (done:=[]) (c:=(Tryz.f121.body.getD .skip)) (S:=S_Zbn) (fn:=Tryz.f121) hmix Vc0a Tryz.func121 rfl (by kernel_rfl) (by kernel_rfl) Vaa (by kernel_rfl) (by kernel_rfl) Vika
def Zbw (a0:Int):Option ((Unit)×(Bool×Unit)):=
 (bif (decide (a0=(1:Int))) then (some ((),(true,())))
 else (bif (decide (a0=(2:Int))) then (some ((),(true,())))
 else (some ((),((decide (a0=(4:Int))),())))))
def S_Zbw:FSpec T:=⟨[.f (.v (.int .i64))],[(.v .bool)],fun x=>Zbw x.1⟩
def E_Zbw:Env T:=⟨tab.find,cd,globs,flc,fun f ds=>match f with
  | _=>none,fun f=>match f with
  | _=>false⟩
def A_Zbw:Loc2 T:=⟨fun id=>match id with
  | _=>none,fun r=>match r with
  | _=>none,fun r=>match r with
  | _=>false⟩
theorem Vima (x:tySs T S_Zbw.ps):run E_Zbw A_Zbw (Tryz.f93.body.getD .skip) (enterT E_Zbw.C S_Zbw.ps x) (retK E_Zbw Tryz.f93.results.toList S_Zbw.ps S_Zbw.rs)=S_Zbw.fn x:=by kernel_rfl
theorem Vc1a:EnvOk Tryz.prog E_Zbw:=envOk (E:=E_Zbw) cd_ok tys fl_ok fun f ds S h=>by cases h
theorem Vina:SoundT Tryz.prog cd gdn 93 S_Zbw:=
 Vab (E:=E_Zbw) (A:=A_Zbw) (done:=[]) (c:=(Tryz.f93.body.getD .skip)) (S:=S_Zbw) (fn:=Tryz.f93) hmix Vc1a Tryz.func93 rfl (by kernel_rfl) (by kernel_rfl) Vaa (by kernel_rfl) (by kernel_rfl) Vima
def passkeyref1_Words_L2b (y0:(List (BitVec 64))) (y1:(List (UInt8))) (y2:Int) (y3:Int):Option (((List (BitVec 64))×(List (UInt8))×Int×Int×Unit)⊕((List (BitVec 64))×(List (UInt8))×Int×Unit)):=
 (bif (decide ((0:Int)≤y3)) then ((getI y0 y2).bind fun x1=>(let v2:BitVec 64:=(x1 >>> (BitVec.ofInt 64 (IntKind.wrap .i64 ((8:Int) * y3))).toNat)
 (bif small ((y1).length+(([(UInt8.ofBitVec (BitVec.setWidth 8 v2))]:List (UInt8)):List (UInt8)).length) 1 then (let v3:List (UInt8):=(y1++([(UInt8.ofBitVec (BitVec.setWidth 8 v2))]:List (UInt8)))
 (some (Sum.inl (y0,v3,y2,(IntKind.wrap .i64 (y3-(1:Int))),()))))
 else none)))
 else (some (Sum.inr (y0,y1,y2,()))))
def passkeyref1_Words_L2 (y:((List (BitVec 64))×(List (UInt8))×Int×Int×Unit)):Option ((List (BitVec 64))×(List (UInt8))×Int×Unit):=iter (fun (y:((List (BitVec 64))×(List (UInt8))×Int×Int×Unit))=>passkeyref1_Words_L2b y.1 y.2.1 y.2.2.1 y.2.2.2.1) rounds y
def passkeyref1_Words_L0b (y0:(List (BitVec 64))) (y1:(List (UInt8))) (y2:Int):Option (((List (BitVec 64))×(List (UInt8))×Int×Unit)⊕((List (UInt8))×Unit)):=
 (bif (decide (y2<((y0).length:Int))) then ((passkeyref1_Words_L2 (y0,y1,y2,(7:Int),())).bind (fun (z1:((List (BitVec 64))×(List (UInt8))×Int×Unit))=>(some (Sum.inl (z1.1,z1.2.1,(IntKind.wrap .i64 (z1.2.2.1+(1:Int))),())))))
 else (some (Sum.inr (y1,()))))
def passkeyref1_Words_L0 (y:((List (BitVec 64))×(List (UInt8))×Int×Unit)):Option ((List (UInt8))×Unit):=iter (fun (y:((List (BitVec 64))×(List (UInt8))×Int×Unit))=>passkeyref1_Words_L0b y.1 y.2.1 y.2.2.1) rounds y
def passkeyref1_Words (a0:(List (BitVec 64))):Option ((Unit)×((List (UInt8))×Unit)):=
 ((passkeyref1_Words_L0 (a0,[],(0:Int),())).bind (fun (z2:((List (UInt8))×Unit))=>(some ((),(z2.1,())))))
def S_passkeyref1_Words:FSpec T:=⟨[.f (.v (.rs 12))],[(.own 0)],fun x=>passkeyref1_Words x.1⟩
def E_passkeyref1_Words:Env T:=⟨tab.find,cd,globs,flc,fun f ds=>match f with
  | _=>none,fun f=>match f with
  | _=>false⟩
def A_passkeyref1_Words:Loc2 T:=⟨fun id=>match id with
  | 2=>some ⟨[(0,.f (.v (.rs 12))),(3,.f (.own 0)),(4,.f (.v (.int .i64))),(5,.f (.v (.int .i64)))],[(.exit 2,[(0,.f (.v (.rs 12))),(3,.f (.own 0)),(4,.f (.v (.int .i64)))])],passkeyref1_Words_L2,[]⟩
  | 0=>some ⟨[(0,.f (.v (.rs 12))),(3,.f (.own 0)),(4,.f (.v (.int .i64)))],[(.exit 0,[(3,.f (.own 0))])],passkeyref1_Words_L0,[]⟩
  | _=>none,fun r=>match r with
  | _=>none,fun r=>match r with
  | _=>false⟩
theorem Vdp (y0:(List (BitVec 64))) (y1:(List (UInt8))) (y2:Int) (y3:Int):run E_passkeyref1_Words A_passkeyref1_Words (loopAt 2 (Tryz.f69.body.getD .skip)) (layC cd [(0,.f (.v (.rs 12))),(3,.f (.own 0)),(4,.f (.v (.int .i64))),(5,.f (.v (.int .i64)))] [] (y0,y1,y2,y3,())) (roundK cd [(0,.f (.v (.rs 12))),(3,.f (.own 0)),(4,.f (.v (.int .i64))),(5,.f (.v (.int .i64)))] [] [(.exit 2,[(0,.f (.v (.rs 12))),(3,.f (.own 0)),(4,.f (.v (.int .i64)))])])=passkeyref1_Words_L2b y0 y1 y2 y3:=by kernel_rfl
theorem Vdq (y0:(List (BitVec 64))) (y1:(List (UInt8))) (y2:Int):run E_passkeyref1_Words A_passkeyref1_Words (loopAt 0 (Tryz.f69.body.getD .skip)) (layC cd [(0,.f (.v (.rs 12))),(3,.f (.own 0)),(4,.f (.v (.int .i64)))] [] (y0,y1,y2,())) (roundK cd [(0,.f (.v (.rs 12))),(3,.f (.own 0)),(4,.f (.v (.int .i64)))] [] [(.exit 0,[(3,.f (.own 0))])])=passkeyref1_Words_L0b y0 y1 y2:=by kernel_rfl
theorem Ve8 (x:tySs T S_passkeyref1_Words.ps):run E_passkeyref1_Words A_passkeyref1_Words (Tryz.f69.body.getD .skip) (enterT E_passkeyref1_Words.C S_passkeyref1_Words.ps x) (retK E_passkeyref1_Words Tryz.f69.results.toList S_passkeyref1_Words.ps S_passkeyref1_Words.rs)=S_passkeyref1_Words.fn x:=by kernel_rfl
theorem Vbb:EnvOk Tryz.prog E_passkeyref1_Words:=envOk (E:=E_passkeyref1_Words) cd_ok tys fl_ok fun f ds S h=>by cases h
theorem Vbn:LoopOk Tryz.prog E_passkeyref1_Words Tryz.f69.ntmps (kqOf S_passkeyref1_Words.ps 0) (loopAt 2 (Tryz.f69.body.getD .skip)) ⟨[(0,.f (.v (.rs 12))),(3,.f (.own 0)),(4,.f (.v (.int .i64))),(5,.f (.v (.int .i64)))],[(.exit 2,[(0,.f (.v (.rs 12))),(3,.f (.own 0)),(4,.f (.v (.int .i64)))])],passkeyref1_Words_L2,[]⟩:=
 Vaf (A:=A_passkeyref1_Words) (done:=[]) (c0:=(Tryz.f69.body.getD .skip)) hmix Vbb Vaa rounds (by kernel_rfl) (by kernel_rfl) (fun x=>Vdp x.1 x.2.1 x.2.2.1 x.2.2.2.1) (fun _=>rfl)
theorem Vdr:LoopOk Tryz.prog E_passkeyref1_Words Tryz.f69.ntmps (kqOf S_passkeyref1_Words.ps 0) (loopAt 0 (Tryz.f69.body.getD .skip)) ⟨[(0,.f (.v (.rs 12))),(3,.f (.own 0)),(4,.f (.v (.int .i64)))],[(.exit 0,[(3,.f (.own 0))])],passkeyref1_Words_L0,[]⟩:=
 Vaf (A:=A_passkeyref1_Words) (done:=[2]) (c0:=(Tryz.f69.body.getD .skip)) hmix Vbb (Vac rfl Vbn Vaa) rounds (by kernel_rfl) (by kernel_rfl) (fun x=>Vdq x.1 x.2.1 x.2.2.1) (fun _=>rfl)
theorem Vch:SoundT Tryz.prog cd gdn 69 S_passkeyref1_Words:=
 Vab (E:=E_passkeyref1_Words) (A:=A_passkeyref1_Words) (done:=[2,0]) (c:=(Tryz.f69.body.getD .skip)) (S:=S_passkeyref1_Words) (fn:=Tryz.f69) hmix Vbb Tryz.func69 rfl (by kernel_rfl) (by kernel_rfl) (Vac rfl Vbn (Vac rfl Vdr Vaa)) (by kernel_rfl) (by kernel_rfl) Ve8
def Zch (a0:ApiItem):Option ((Unit)×((List (UInt8))×Unit)):=
 ((bif (decide (a0.kind=(7:Int))) then (let v1:UInt8:=(UInt8.ofBitVec ((244:UInt8).toBitVec+(UInt8.ofBitVec (BitVec.setWidth 8 a0.number)).toBitVec))
 (((some ((),(([v1]:List (UInt8)),())))).bind fun q=>some (Sum.inr q)))
 else (bif (decide (a0.kind=(8:Int))) then (((some ((),(([(246:UInt8)]:List (UInt8)),())))).bind fun q=>some (Sum.inr q))
 else (bif (decide (a0.kind=(2:Int))) then (some (Sum.inl (a0.number,(32:UInt8),())))
 else (bif (decide (a0.kind=(3:Int))) then (some (Sum.inl ((BitVec.ofInt 64 ((a0.data).length:Int)),(64:UInt8),())))
 else (bif (decide (a0.kind=(4:Int))) then (some (Sum.inl ((BitVec.ofInt 64 ((a0.data).length:Int)),(96:UInt8),())))
 else (bif (decide (a0.kind=(5:Int))) then (some (Sum.inl (a0.number,(128:UInt8),())))
 else (bif (decide (a0.kind=(6:Int))) then (some (Sum.inl (a0.number,(160:UInt8),())))
 else (some (Sum.inl (a0.number,(0:UInt8),())))))))))).bind (Sum.elim (fun (j2:((BitVec 64)×UInt8×Unit))=>(bif (decide (j2.1.toNat<(24#64).toNat)) then (let v3:UInt8:=(UInt8.ofBitVec (j2.2.1.toBitVec+(UInt8.ofBitVec (BitVec.setWidth 8 j2.1)).toBitVec))
 (some ((),(([v3]:List (UInt8)),()))))
 else (bif (decide (j2.1.toNat<(256#64).toNat)) then (let v4:List (UInt8):=([(UInt8.ofBitVec (j2.2.1.toBitVec+(24:UInt8).toBitVec)),(UInt8.ofBitVec (BitVec.setWidth 8 j2.1))]:List (UInt8))
 (some ((),(v4,()))))
 else (bif (decide (j2.1.toNat<(65536#64).toNat)) then (let v5:List (UInt8):=([(UInt8.ofBitVec (j2.2.1.toBitVec+(25:UInt8).toBitVec)),(UInt8.ofBitVec (BitVec.setWidth 8 (j2.1 >>> 8))),(UInt8.ofBitVec (BitVec.setWidth 8 j2.1))]:List (UInt8))
 (some ((),(v5,()))))
 else (bif (decide (j2.1.toNat<(4294967296#64).toNat)) then (let v6:List (UInt8):=([(UInt8.ofBitVec (j2.2.1.toBitVec+(26:UInt8).toBitVec)),(UInt8.ofBitVec (BitVec.setWidth 8 (j2.1 >>> 24))),(UInt8.ofBitVec (BitVec.setWidth 8 (j2.1 >>> 16))),(UInt8.ofBitVec (BitVec.setWidth 8 (j2.1 >>> 8))),(UInt8.ofBitVec (BitVec.setWidth 8 j2.1))]:List (UInt8))
 (some ((),(v6,()))))
 else (let v7:List (UInt8):=([(UInt8.ofBitVec (j2.2.1.toBitVec+(27:UInt8).toBitVec))]:List (UInt8))
 ((passkeyref1_Words ([j2.1]:List (BitVec 64))).bind fun r8=>(bif small ((v7).length+(r8.2.1:List (UInt8)).length) 1 then (some ((),((v7++r8.2.1),())))
 else none)))))))) some))
def S_Zch:FSpec T:=⟨[.f (.v (.agg 1))],[(.own 0)],fun x=>Zch x.1⟩
def E_Zch:Env T:=⟨tab.find,cd,globs,flc,fun f ds=>match f with
  | 69=>some S_passkeyref1_Words
  | _=>none,fun f=>match f with
  | _=>false⟩
def A_Zch:Loc2 T:=⟨fun id=>match id with
  | _=>none,fun r=>match r with
  | 18=>some ([(3,.f (.v .u64)),(4,.f (.v .u8))],false)
  | _=>none,fun r=>match r with
  | _=>false⟩
theorem Vioa (x:tySs T S_Zch.ps):run E_Zch A_Zch (Tryz.f91.body.getD .skip) (enterT E_Zch.C S_Zch.ps x) (retK E_Zch Tryz.f91.results.toList S_Zch.ps S_Zch.rs)=S_Zch.fn x:=by kernel_rfl
theorem Vc2a:EnvOk Tryz.prog E_Zch:=envOk (E:=E_Zch) cd_ok tys fl_ok fun f ds S h=>by
  dsimp only [E_Zch] at h
  split at h
  ·cases h; exact Vch
  ·cases h
theorem Vipa:SoundT Tryz.prog cd gdn 91 S_Zch:=
 Vab (E:=E_Zch) (A:=A_Zch) (done:=[]) (c:=(Tryz.f91.body.getD .skip)) (S:=S_Zch) (fn:=Tryz.f91) hmix Vc2a Tryz.func91 rfl (by kernel_rfl) (by kernel_rfl) Vaa (by kernel_rfl) (by kernel_rfl) Vioa
def Zbu (a0:ApiItem):Option ((Unit)×((List UInt8)×Unit)):=
 ((Zch a0).bind fun r1=>(bif Nat.ble ((r1.2.1).length+(a0.data).length) 9223372036854775807 then (some ((),((r1.2.1++a0.data),())))
 else none))
def S_Zbu:FSpec T:=⟨[.f (.v (.agg 1))],[(.v .str)],fun x=>Zbu x.1⟩
def E_Zbu:Env T:=⟨tab.find,cd,globs,flc,fun f ds=>match f with
  | 91=>some S_Zch
  | _=>none,fun f=>match f with
  | _=>false⟩
def A_Zbu:Loc2 T:=⟨fun id=>match id with
  | _=>none,fun r=>match r with
  | _=>none,fun r=>match r with
  | 1=>true
  | _=>false⟩
theorem Viqa (x:tySs T S_Zbu.ps):run E_Zbu A_Zbu (Tryz.f72.body.getD .skip) (enterT E_Zbu.C S_Zbu.ps x) (retK E_Zbu Tryz.f72.results.toList S_Zbu.ps S_Zbu.rs)=S_Zbu.fn x:=by kernel_rfl
theorem Vc3a:EnvOk Tryz.prog E_Zbu:=envOk (E:=E_Zbu) cd_ok tys fl_ok fun f ds S h=>by
  dsimp only [E_Zbu] at h
  split at h
  ·cases h; exact Vipa
  ·cases h
theorem Vuv:SoundT Tryz.prog cd gdn 72 S_Zbu:=
 Vab (E:=E_Zbu) (A:=A_Zbu) (done:=[]) (c:=(Tryz.f72.body.getD .skip)) (S:=S_Zbu) (fn:=Tryz.f72) hmix Vc3a Tryz.func72 rfl (by kernel_rfl) (by kernel_rfl) Vaa (by kernel_rfl) (by kernel_rfl) Viqa
def Zci (a0:(List UInt8)) (a1:(List UInt8)):Option ((Unit)×(Bool×Unit)):=
 (bif (!decide (((a0).length:Int)=((a1).length:Int))) then (some ((),((decide (((a0).length:Int)<((a1).length:Int))),())))
 else (some ((),((Op.bytesLess a0 a1),()))))
def S_Zci:FSpec T:=⟨[.f (.v .str),.f (.v .str)],[(.v .bool)],fun x=>Zci x.1 x.2.1⟩
def E_Zci:Env T:=⟨tab.find,cd,globs,flc,fun f ds=>match f with
  | _=>none,fun f=>match f with
  | _=>false⟩
def A_Zci:Loc2 T:=⟨fun id=>match id with
  | _=>none,fun r=>match r with
  | _=>none,fun r=>match r with
  | _=>false⟩
theorem Vira (x:tySs T S_Zci.ps):run E_Zci A_Zci (Tryz.f94.body.getD .skip) (enterT E_Zci.C S_Zci.ps x) (retK E_Zci Tryz.f94.results.toList S_Zci.ps S_Zci.rs)=S_Zci.fn x:=by kernel_rfl
theorem Vc4a:EnvOk Tryz.prog E_Zci:=envOk (E:=E_Zci) cd_ok tys fl_ok fun f ds S h=>by cases h
theorem Visa:SoundT Tryz.prog cd gdn 94 S_Zci:=
 Vab (E:=E_Zci) (A:=A_Zci) (done:=[]) (c:=(Tryz.f94.body.getD .skip)) (S:=S_Zci) (fn:=Tryz.f94) hmix Vc4a Tryz.func94 rfl (by kernel_rfl) (by kernel_rfl) Vaa (by kernel_rfl) (by kernel_rfl) Vira
def Zbv (a0:ApiItem) (a1:Int) (a2:Int) (a3:Bool) (a4:(List UInt8)):Option ((Unit)×(Int×Unit)):=
 ((bif (decide (a0.kind=(3:Int))) then (some (a1,a2,a3,a4,(a0,()),true,()))
 else (some (a1,a2,a3,a4,(a0,()),(decide (a0.kind=(4:Int))),()))).bind (fun (j1:(Int×Int×Bool×(List UInt8)×(ApiItem×Unit)×Bool×Unit))=>((bif (decide (j1.2.2.2.2.1.1.kind=(5:Int))) then (some (j1.1,j1.2.1,j1.2.2.1,j1.2.2.2.1,(j1.2.2.2.2.1.1,()),j1.2.2.2.2.2.1,true,()))
 else (some (j1.1,j1.2.1,j1.2.2.1,j1.2.2.2.1,(j1.2.2.2.2.1.1,()),j1.2.2.2.2.2.1,(decide (j1.2.2.2.2.1.1.kind=(6:Int))),()))).bind (fun (j2:(Int×Int×Bool×(List UInt8)×(ApiItem×Unit)×Bool×Bool×Unit))=>(bif (decide ((512:Int)≤j2.1)) then (some ((),((8:Int),())))
 else (((Zbn j2.2.2.2.2.1.1.kind (1:Int) (8:Int)).bind fun r3=>(bif (!r3.2.1) then (some (j2.2.1,j2.2.2.1,j2.2.2.2.1,(j2.2.2.2.2.1.1,()),j2.2.2.2.2.2.1,j2.2.2.2.2.2.2.1,true,()))
 else (bif j2.2.2.1 then ((Zbw j2.2.2.2.2.1.1.kind).bind fun r4=>(some (j2.2.1,j2.2.2.1,j2.2.2.2.1,(j2.2.2.2.2.1.1,()),j2.2.2.2.2.2.1,j2.2.2.2.2.2.2.1,(!r4.2.1),())))
 else (some (j2.2.1,j2.2.2.1,j2.2.2.2.1,(j2.2.2.2.2.1.1,()),j2.2.2.2.2.2.1,j2.2.2.2.2.2.2.1,false,()))))).bind (fun (j5:(Int×Bool×(List UInt8)×(ApiItem×Unit)×Bool×Bool×Bool×Unit))=>(bif j5.2.2.2.2.2.2.1 then (some ((),((3:Int),())))
 else (bif (decide ((8:Int)<j5.1)) then (some ((),((5:Int),())))
 else ((bif j5.2.2.2.2.1 then (bif (!decide (j5.2.2.2.1.1.number=0#64)) then (some (j5.2.1,j5.2.2.1,(j5.2.2.2.1.1,()),j5.2.2.2.2.2.1,true,()))
 else (bif (decide (j5.2.2.2.1.1.kind=(7:Int))) then (bif (decide ((1#64).toNat<j5.2.2.2.1.1.number.toNat)) then (some (j5.2.1,j5.2.2.1,(j5.2.2.2.1.1,()),j5.2.2.2.2.2.1,true,()))
 else (bif (!j5.2.2.2.2.1) then (some (j5.2.1,j5.2.2.1,(j5.2.2.2.1.1,()),j5.2.2.2.2.2.1,(!decide (j5.2.2.2.1.1.data=([]:List UInt8))),()))
 else (some (j5.2.1,j5.2.2.1,(j5.2.2.2.1.1,()),j5.2.2.2.2.2.1,false,()))))
 else (bif (!j5.2.2.2.2.1) then (some (j5.2.1,j5.2.2.1,(j5.2.2.2.1.1,()),j5.2.2.2.2.2.1,(!decide (j5.2.2.2.1.1.data=([]:List UInt8))),()))
 else (some (j5.2.1,j5.2.2.1,(j5.2.2.2.1.1,()),j5.2.2.2.2.2.1,false,())))))
 else (bif (decide (j5.2.2.2.1.1.kind=(8:Int))) then (bif (!decide (j5.2.2.2.1.1.number=0#64)) then (some (j5.2.1,j5.2.2.1,(j5.2.2.2.1.1,()),j5.2.2.2.2.2.1,true,()))
 else (bif (decide (j5.2.2.2.1.1.kind=(7:Int))) then (bif (decide ((1#64).toNat<j5.2.2.2.1.1.number.toNat)) then (some (j5.2.1,j5.2.2.1,(j5.2.2.2.1.1,()),j5.2.2.2.2.2.1,true,()))
 else (bif (!j5.2.2.2.2.1) then (some (j5.2.1,j5.2.2.1,(j5.2.2.2.1.1,()),j5.2.2.2.2.2.1,(!decide (j5.2.2.2.1.1.data=([]:List UInt8))),()))
 else (some (j5.2.1,j5.2.2.1,(j5.2.2.2.1.1,()),j5.2.2.2.2.2.1,false,()))))
 else (bif (!j5.2.2.2.2.1) then (some (j5.2.1,j5.2.2.1,(j5.2.2.2.1.1,()),j5.2.2.2.2.2.1,(!decide (j5.2.2.2.1.1.data=([]:List UInt8))),()))
 else (some (j5.2.1,j5.2.2.1,(j5.2.2.2.1.1,()),j5.2.2.2.2.2.1,false,())))))
 else (bif (decide (j5.2.2.2.1.1.kind=(7:Int))) then (bif (decide ((1#64).toNat<j5.2.2.2.1.1.number.toNat)) then (some (j5.2.1,j5.2.2.1,(j5.2.2.2.1.1,()),j5.2.2.2.2.2.1,true,()))
 else (bif (!j5.2.2.2.2.1) then (some (j5.2.1,j5.2.2.1,(j5.2.2.2.1.1,()),j5.2.2.2.2.2.1,(!decide (j5.2.2.2.1.1.data=([]:List UInt8))),()))
 else (some (j5.2.1,j5.2.2.1,(j5.2.2.2.1.1,()),j5.2.2.2.2.2.1,false,()))))
 else (bif (!j5.2.2.2.2.1) then (some (j5.2.1,j5.2.2.1,(j5.2.2.2.1.1,()),j5.2.2.2.2.2.1,(!decide (j5.2.2.2.1.1.data=([]:List UInt8))),()))
 else (some (j5.2.1,j5.2.2.1,(j5.2.2.2.1.1,()),j5.2.2.2.2.2.1,false,())))))).bind (fun (j6:(Bool×(List UInt8)×(ApiItem×Unit)×Bool×Bool×Unit))=>(bif j6.2.2.2.2.1 then (some ((),((4:Int),())))
 else ((bif (decide ((1024:Int)<((j6.2.2.1.1.data).length:Int))) then (some (j6.1,j6.2.1,(j6.2.2.1.1,()),true,()))
 else (bif j6.2.2.2.1 then (some (j6.1,j6.2.1,(j6.2.2.1.1,()),(decide ((512#64).toNat<j6.2.2.1.1.number.toNat)),()))
 else (some (j6.1,j6.2.1,(j6.2.2.1.1,()),false,())))).bind (fun (j7:(Bool×(List UInt8)×(ApiItem×Unit)×Bool×Unit))=>(bif j7.2.2.2.1 then (some ((),((8:Int),())))
 else ((bif (decide (j7.2.2.1.1.kind=(4:Int))) then ((Zck j7.2.2.1.1.data).bind fun r8=>(some (j7.1,j7.2.1,(j7.2.2.1.1,()),(!r8.2.1),())))
 else (some (j7.1,j7.2.1,(j7.2.2.1.1,()),false,()))).bind (fun (j9:(Bool×(List UInt8)×(ApiItem×Unit)×Bool×Unit))=>(bif j9.2.2.2.1 then (some ((),((6:Int),())))
 else ((bif j9.1 then (bif (!decide (j9.2.1=([]:List UInt8))) then ((Zbu j9.2.2.1.1).bind fun r10=>((Zci j9.2.1 r10.2.1).bind fun r11=>(some ((!r11.2.1),()))))
 else (some (false,())))
 else (some (false,()))).bind (fun (j12:(Bool×Unit))=>(bif j12.1 then (some ((),((7:Int),())))
 else (some ((),((0:Int),()))))))))))))))))))))))))
def S_Zbv:FSpec T:=⟨[.f (.v (.agg 1)),.f (.v (.int .i64)),.f (.v (.int .i64)),.f (.v .bool),.f (.v .str)],[(.v (.int .i64))],fun x=>Zbv x.1 x.2.1 x.2.2.1 x.2.2.2.1 x.2.2.2.2.1⟩
def E_Zbv:Env T:=⟨tab.find,cd,globs,flc,fun f ds=>match f with
  | 37=>some S_Zck
  | 72=>some S_Zbu
  | 93=>some S_Zbw
  | 94=>some S_Zci
  | 121=>some S_Zbn
  | _=>none,fun f=>match f with
  | 37=>true
  | 72=>true
  | 93=>true
  | 94=>true
  | 121=>true
  | _=>false⟩
def A_Zbv:Loc2 T:=⟨fun id=>match id with
  | _=>none,fun r=>match r with
  | 2=>some ([(1,.f (.v (.int .i64))),(2,.f (.v (.int .i64))),(3,.f (.v .bool)),(4,.f (.v .str)),(5,.ptr [(.v (.agg 1))]),(11,.f (.v .bool))],true)
  | 3=>some ([(1,.f (.v (.int .i64))),(2,.f (.v (.int .i64))),(3,.f (.v .bool)),(4,.f (.v .str)),(5,.ptr [(.v (.agg 1))]),(11,.f (.v .bool)),(12,.f (.v .bool))],true)
  | 6=>some ([(2,.f (.v (.int .i64))),(3,.f (.v .bool)),(4,.f (.v .str)),(5,.ptr [(.v (.agg 1))]),(11,.f (.v .bool)),(12,.f (.v .bool)),(32,.f (.v .bool))],true)
  | 10=>some ([(3,.f (.v .bool)),(4,.f (.v .str)),(5,.ptr [(.v (.agg 1))]),(12,.f (.v .bool)),(49,.f (.v .bool))],true)
  | 12=>some ([(3,.f (.v .bool)),(4,.f (.v .str)),(5,.ptr [(.v (.agg 1))]),(80,.f (.v .bool))],true)
  | 14=>some ([(3,.f (.v .bool)),(4,.f (.v .str)),(5,.ptr [(.v (.agg 1))]),(93,.f (.v .bool))],true)
  | 16=>some ([(103,.f (.v .bool))],true)
  | _=>none,fun r=>match r with
  | _=>false⟩
theorem Vita (x:tySs T S_Zbv.ps):run E_Zbv A_Zbv (Tryz.f107.body.getD .skip) (enterT E_Zbv.C S_Zbv.ps x) (retK E_Zbv Tryz.f107.results.toList S_Zbv.ps S_Zbv.rs)=S_Zbv.fn x:=by kernel_rfl
theorem Vc5a:EnvOk Tryz.prog E_Zbv:=envOk (E:=E_Zbv) cd_ok tys fl_ok fun f ds S h=>by
  dsimp only [E_Zbv] at h
  split at h
  ·cases h; exact Vjm
  ·cases h; exact Vuv
  ·cases h; exact Vina
  ·cases h; exact Visa
  ·cases h; exact Vila
  ·cases h
theorem Viua:SoundT Tryz.prog cd gdn 107 S_Zbv:=
 Vab (E:=E_Zbv) (A:=A_Zbv) (done:=[]) (c:=(Tryz.f107.body.getD .skip)) (S:=S_Zbv) (fn:=Tryz.f107) hmix Vc5a Tryz.func107 rfl (by kernel_rfl) (by kernel_rfl) Vaa (by kernel_rfl) (by kernel_rfl) Vita
def passkeyref1_walk_L0b (k_rec:(List (ApiItem))→Int→Int→Bool→(List UInt8)→Option ((Unit)×(Int×Int×Unit))) (y0:(List (ApiItem))) (y1:Int) (y2:(ApiItem×Unit)) (y3:Int) (y4:(List UInt8)) (y5:(BitVec 64)):Option (Yhq⊕((Int×Int×Unit)⊕(Int×Unit))):=
 (bif (decide (y5.toNat<y2.1.number.toNat)) then (bif (decide (y2.1.kind=(5:Int))) then ((bif (decide (y2.1.kind=(6:Int))) then ((k_rec y0 y3 (IntKind.wrap .i64 (y1+(1:Int))) true y4).bind fun r3=>(bif (!decide (r3.2.2.1=(0:Int))) then (((some (Sum.inr (Sum.inl (r3.2.1,r3.2.2.1,()))))).bind fun q=>some (Sum.inr q))
 else ((getI y0 y3).bind fun x4=>((Zbu x4).bind fun r5=>(some (Sum.inl (y0,y1,(y2.1,()),r3.2.1,r5.2.1,y5,())))))))
 else (some (Sum.inl (y0,y1,(y2.1,()),y3,y4,y5,())))).bind (Sum.elim (fun (j6:Yhq)=>((k_rec j6.1 j6.2.2.2.1 (IntKind.wrap .i64 (j6.2.1+(1:Int))) false ([]:List UInt8)).bind fun r7=>(bif (!decide (r7.2.2.1=(0:Int))) then (some (Sum.inr (Sum.inl (r7.2.1,r7.2.2.1,()))))
 else (some (Sum.inl (j6.1,j6.2.1,(j6.2.2.1.1,()),r7.2.1,j6.2.2.2.2.1,(j6.2.2.2.2.2.1+1#64),())))))) some))
 else (bif (decide (y2.1.kind=(6:Int))) then ((bif (decide (y2.1.kind=(6:Int))) then ((k_rec y0 y3 (IntKind.wrap .i64 (y1+(1:Int))) true y4).bind fun r8=>(bif (!decide (r8.2.2.1=(0:Int))) then (((some (Sum.inr (Sum.inl (r8.2.1,r8.2.2.1,()))))).bind fun q=>some (Sum.inr q))
 else ((getI y0 y3).bind fun x9=>((Zbu x9).bind fun r10=>(some (Sum.inl (y0,y1,(y2.1,()),r8.2.1,r10.2.1,y5,())))))))
 else (some (Sum.inl (y0,y1,(y2.1,()),y3,y4,y5,())))).bind (Sum.elim (fun (j11:Yhq)=>((k_rec j11.1 j11.2.2.2.1 (IntKind.wrap .i64 (j11.2.1+(1:Int))) false ([]:List UInt8)).bind fun r12=>(bif (!decide (r12.2.2.1=(0:Int))) then (some (Sum.inr (Sum.inl (r12.2.1,r12.2.2.1,()))))
 else (some (Sum.inl (j11.1,j11.2.1,(j11.2.2.1.1,()),r12.2.1,j11.2.2.2.2.1,(j11.2.2.2.2.2.1+1#64),())))))) some))
 else (some (Sum.inr (Sum.inr (y3,()))))))
 else (some (Sum.inr (Sum.inr (y3,())))))
def passkeyref1_walk_L0 (k_rec:(List (ApiItem))→Int→Int→Bool→(List UInt8)→Option ((Unit)×(Int×Int×Unit))) (y:Yhq):Option ((Int×Int×Unit)⊕(Int×Unit)):=iter (fun (y:Yhq)=>passkeyref1_walk_L0b k_rec y.1 y.2.1 y.2.2.1 y.2.2.2.1 y.2.2.2.2.1 y.2.2.2.2.2.1) rounds y
def passkeyref1_walk_R (k_rec:(List (ApiItem))→Int→Int→Bool→(List UInt8)→Option ((Unit)×(Int×Int×Unit))) (a0:(List (ApiItem))) (a1:Int) (a2:Int) (a3:Bool) (a4:(List UInt8)):Option ((Unit)×(Int×Int×Unit)):=
 (bif (decide (((a0).length:Int)≤a1)) then (some ((),(a1,(1:Int),())))
 else ((getI a0 a1).bind fun x1=>((Zbv x1 a1 a2 a3 a4).bind fun r2=>(bif (!decide (r2.2.1=(0:Int))) then (some ((),(a1,r2.2.1,())))
 else ((passkeyref1_walk_L0 k_rec (a0,a2,(x1,()),(IntKind.wrap .i64 (a1+(1:Int))),([]:List UInt8),0#64,())).bind (Sum.elim (fun (z13:(Int×Int×Unit))=>(some ((),(z13.1,z13.2.1,())))) (fun (z14:(Int×Unit))=>(some ((),(z14.1,(0:Int),()))))))))))
abbrev ps_passkeyref1_walk:List Slot:=[.f (.v (.rs 1)),.f (.v (.int .i64)),.f (.v (.int .i64)),.f (.v .bool),.f (.v .str)]
abbrev rs_passkeyref1_walk:List Fld:=[(.v (.int .i64)),(.v (.int .i64))]
def E_passkeyref1_walk (k_rec:(List (ApiItem))→Int→Int→Bool→(List UInt8)→Option ((Unit)×(Int×Int×Unit))):Env T:=⟨tab.find,cd,globs,flc,fun f ds=>match f with
  | 72=>some S_Zbu
  | 90=>some ⟨ps_passkeyref1_walk,rs_passkeyref1_walk,fun x=>k_rec x.1 x.2.1 x.2.2.1 x.2.2.2.1 x.2.2.2.2.1⟩
  | 107=>some S_Zbv
  | _=>none,fun f=>match f with
  | 72=>true
  | 90=>true
  | 107=>true
  | _=>false⟩
def A_passkeyref1_walk (k_rec:(List (ApiItem))→Int→Int→Bool→(List UInt8)→Option ((Unit)×(Int×Int×Unit))):Loc2 T:=⟨fun id=>match id with
  | 0=>some ⟨[(0,.f (.v (.rs 1))),(2,.f (.v (.int .i64))),(12,.ptr [(.v (.agg 1))]),(14,.f (.v (.int .i64))),(15,.f (.v .str)),(16,.f (.v .u64))],[(.ret,[(10,.f (.v (.int .i64))),(11,.f (.v (.int .i64)))]),(.exit 0,[(14,.f (.v (.int .i64)))])],passkeyref1_walk_L0 k_rec,[]⟩
  | _=>none,fun r=>match r with
  | 19=>some ([(0,.f (.v (.rs 1))),(2,.f (.v (.int .i64))),(12,.ptr [(.v (.agg 1))]),(14,.f (.v (.int .i64))),(15,.f (.v .str)),(16,.f (.v .u64))],false)
  | _=>none,fun r=>match r with
  | _=>false⟩
theorem Vd9 (k_rec:(List (ApiItem))→Int→Int→Bool→(List UInt8)→Option ((Unit)×(Int×Int×Unit))) (y0:(List (ApiItem))) (y1:Int) (y2:(ApiItem×Unit)) (y3:Int) (y4:(List UInt8)) (y5:(BitVec 64)):run (E_passkeyref1_walk k_rec) (A_passkeyref1_walk k_rec) (loopAt 0 (Tryz.f90.body.getD .skip)) (layC cd [(0,.f (.v (.rs 1))),(2,.f (.v (.int .i64))),(12,.ptr [(.v (.agg 1))]),(14,.f (.v (.int .i64))),(15,.f (.v .str)),(16,.f (.v .u64))] [] (y0,y1,y2,y3,y4,y5,())) (roundK cd [(0,.f (.v (.rs 1))),(2,.f (.v (.int .i64))),(12,.ptr [(.v (.agg 1))]),(14,.f (.v (.int .i64))),(15,.f (.v .str)),(16,.f (.v .u64))] [] [(.ret,[(10,.f (.v (.int .i64))),(11,.f (.v (.int .i64)))]),(.exit 0,[(14,.f (.v (.int .i64)))])])=passkeyref1_walk_L0b k_rec y0 y1 y2 y3 y4 y5:=by kernel_rfl
theorem Ve9 (k_rec:(List (ApiItem))→Int→Int→Bool→(List UInt8)→Option ((Unit)×(Int×Int×Unit))) (x:tySs T ps_passkeyref1_walk):run (E_passkeyref1_walk k_rec) (A_passkeyref1_walk k_rec) (Tryz.f90.body.getD .skip) (enterT (E_passkeyref1_walk k_rec).C ps_passkeyref1_walk x) (retK (E_passkeyref1_walk k_rec) Tryz.f90.results.toList ps_passkeyref1_walk rs_passkeyref1_walk)=passkeyref1_walk_R k_rec x.1 x.2.1 x.2.2.1 x.2.2.2.1 x.2.2.2.2.1:=by kernel_rfl
def passkeyref1_walk_n:Nat→(List (ApiItem))→Int→Int→Bool→(List UInt8)→Option ((Unit)×(Int×Int×Unit))
 | 0=>fun _ _ _ _ _=>none
 | n+1=>passkeyref1_walk_R (passkeyref1_walk_n n)
def passkeyref1_walk (a0:(List (ApiItem))) (a1:Int) (a2:Int) (a3:Bool) (a4:(List UInt8)):=passkeyref1_walk_n 12 a0 a1 a2 a3 a4
def S_passkeyref1_walk:FSpec T:=⟨ps_passkeyref1_walk,rs_passkeyref1_walk,fun x=>passkeyref1_walk x.1 x.2.1 x.2.2.1 x.2.2.2.1 x.2.2.2.2.1⟩
theorem Vci (k_rec:(List (ApiItem))→Int→Int→Bool→(List UInt8)→Option ((Unit)×(Int×Int×Unit))) (hk:SoundT Tryz.prog cd gdn 90 ⟨ps_passkeyref1_walk,rs_passkeyref1_walk,fun x=>k_rec x.1 x.2.1 x.2.2.1 x.2.2.2.1 x.2.2.2.2.1⟩):EnvOk Tryz.prog (E_passkeyref1_walk k_rec):=envOk (E:=(E_passkeyref1_walk k_rec)) cd_ok tys fl_ok fun f ds S h=>by
  dsimp only [E_passkeyref1_walk] at h
  split at h
  ·cases h; exact Vuv
  ·cases h; exact hk
  ·cases h; exact Viua
  ·cases h
theorem Vea (k_rec:(List (ApiItem))→Int→Int→Bool→(List UInt8)→Option ((Unit)×(Int×Int×Unit))) (hk:SoundT Tryz.prog cd gdn 90 ⟨ps_passkeyref1_walk,rs_passkeyref1_walk,fun x=>k_rec x.1 x.2.1 x.2.2.1 x.2.2.2.1 x.2.2.2.2.1⟩):LoopOk Tryz.prog (E_passkeyref1_walk k_rec) Tryz.f90.ntmps (kqOf ps_passkeyref1_walk 0) (loopAt 0 (Tryz.f90.body.getD .skip)) ⟨[(0,.f (.v (.rs 1))),(2,.f (.v (.int .i64))),(12,.ptr [(.v (.agg 1))]),(14,.f (.v (.int .i64))),(15,.f (.v .str)),(16,.f (.v .u64))],[(.ret,[(10,.f (.v (.int .i64))),(11,.f (.v (.int .i64)))]),(.exit 0,[(14,.f (.v (.int .i64)))])],passkeyref1_walk_L0 k_rec,[]⟩:=
 Vaf (A:=(A_passkeyref1_walk k_rec)) (done:=[]) (c0:=(Tryz.f90.body.getD .skip)) hmix (Vci k_rec hk) Vaa rounds (by kernel_rfl) (by kernel_rfl) (fun x=>Vd9 k_rec x.1 x.2.1 x.2.2.1 x.2.2.2.1 x.2.2.2.2.1 x.2.2.2.2.2.1) (fun _=>rfl)
theorem Vbh:∀ n:Nat,SoundT Tryz.prog cd gdn 90 ⟨ps_passkeyref1_walk,rs_passkeyref1_walk,fun x=>passkeyref1_walk_n n x.1 x.2.1 x.2.2.1 x.2.2.2.1 x.2.2.2.2.1⟩
 | 0=>sound_none ⟨_,Tryz.func90,by kernel_rfl,by kernel_rfl⟩
 | n+1=>Vab (E:=E_passkeyref1_walk (passkeyref1_walk_n n)) (A:=A_passkeyref1_walk (passkeyref1_walk_n n)) (done:=[0]) (c:=(Tryz.f90.body.getD .skip)) (S:=⟨ps_passkeyref1_walk,rs_passkeyref1_walk,fun x=>passkeyref1_walk_n (n+1) x.1 x.2.1 x.2.2.1 x.2.2.2.1 x.2.2.2.2.1⟩) (fn:=Tryz.f90) hmix (Vci _ (Vbh n)) Tryz.func90 rfl (by kernel_rfl) (by kernel_rfl) (Vac rfl (Vea _ (Vbh n)) Vaa) (by kernel_rfl) (by kernel_rfl) (Ve9 (passkeyref1_walk_n n))
theorem Vff:SoundT Tryz.prog cd gdn 90 S_passkeyref1_walk:=Vbh 12
def Zav (a0:(List (ApiItem))):Option ((Unit)×(Int×Unit)):=
 ((passkeyref1_walk a0 (0:Int) (0:Int) false ([]:List UInt8)).bind fun r1=>(bif (!decide (r1.2.2.1=(0:Int))) then (some ((),(r1.2.2.1,())))
 else (bif (decide (r1.2.1<((a0).length:Int))) then (some ((),((2:Int),())))
 else (some ((),((0:Int),()))))))
def S_Zav:FSpec T:=⟨[.f (.v (.rs 1))],[(.v (.int .i64))],fun x=>Zav x.1⟩
def E_Zav:Env T:=⟨tab.find,cd,globs,flc,fun f ds=>match f with
  | 90=>some S_passkeyref1_walk
  | _=>none,fun f=>match f with
  | 90=>true
  | _=>false⟩
def A_Zav:Loc2 T:=⟨fun id=>match id with
  | _=>none,fun r=>match r with
  | _=>none,fun r=>match r with
  | _=>false⟩
theorem Viva (x:tySs T S_Zav.ps):run E_Zav A_Zav (Tryz.f71.body.getD .skip) (enterT E_Zav.C S_Zav.ps x) (retK E_Zav Tryz.f71.results.toList S_Zav.ps S_Zav.rs)=S_Zav.fn x:=by kernel_rfl
theorem Vc6a:EnvOk Tryz.prog E_Zav:=envOk (E:=E_Zav) cd_ok tys fl_ok fun f ds S h=>by
  dsimp only [E_Zav] at h
  split at h
  ·cases h; exact Vff
  ·cases h
theorem Viwa:SoundT Tryz.prog cd gdn 71 S_Zav:=
 Vab (E:=E_Zav) (A:=A_Zav) (done:=[]) (c:=(Tryz.f71.body.getD .skip)) (S:=S_Zav) (fn:=Tryz.f71) hmix Vc6a Tryz.func71 rfl (by kernel_rfl) (by kernel_rfl) Vaa (by kernel_rfl) (by kernel_rfl) Viva
def Zbm_L0b (y0:(List (ApiItem))) (y1:(List (UInt8))) (y2:Int):Option (((List (ApiItem))×(List (UInt8))×Int×Unit)⊕((List (UInt8))×Unit)):=
 (bif (decide (y2<((y0).length:Int))) then ((getI y0 y2).bind fun x2=>((Zbu x2).bind fun r3=>(bif small ((y1).length+(r3.2.1:List (UInt8)).length) 1 then (some (Sum.inl (y0,(y1++r3.2.1),(IntKind.wrap .i64 (y2+(1:Int))),())))
 else none)))
 else (some (Sum.inr (y1,()))))
def Zbm_L0 (y:((List (ApiItem))×(List (UInt8))×Int×Unit)):Option ((List (UInt8))×Unit):=iter (fun (y:((List (ApiItem))×(List (UInt8))×Int×Unit))=>Zbm_L0b y.1 y.2.1 y.2.2.1) rounds y
def Zbm (a0:(List (ApiItem))):Option ((Unit)×((List (UInt8))×Int×Unit)):=
 ((Zav a0).bind fun r1=>(bif (!decide (r1.2.1=(0:Int))) then (some ((),([],r1.2.1,())))
 else ((Zbm_L0 (a0,[],(0:Int),())).bind (fun (z4:((List (UInt8))×Unit))=>(some ((),(z4.1,(0:Int),())))))))
def S_Zbm:FSpec T:=⟨[.f (.v (.rs 1))],[(.own 0),(.v (.int .i64))],fun x=>Zbm x.1⟩
def E_Zbm:Env T:=⟨tab.find,cd,globs,flc,fun f ds=>match f with
  | 71=>some S_Zav
  | 72=>some S_Zbu
  | _=>none,fun f=>match f with
  | 71=>true
  | 72=>true
  | _=>false⟩
def A_Zbm:Loc2 T:=⟨fun id=>match id with
  | 0=>some ⟨[(0,.f (.v (.rs 1))),(5,.f (.own 0)),(6,.f (.v (.int .i64)))],[(.exit 0,[(5,.f (.own 0))])],Zbm_L0,[]⟩
  | _=>none,fun r=>match r with
  | _=>none,fun r=>match r with
  | _=>false⟩
theorem Vuw (y0:(List (ApiItem))) (y1:(List (UInt8))) (y2:Int):run E_Zbm A_Zbm (loopAt 0 (Tryz.f49.body.getD .skip)) (layC cd [(0,.f (.v (.rs 1))),(5,.f (.own 0)),(6,.f (.v (.int .i64)))] [] (y0,y1,y2,())) (roundK cd [(0,.f (.v (.rs 1))),(5,.f (.own 0)),(6,.f (.v (.int .i64)))] [] [(.exit 0,[(5,.f (.own 0))])])=Zbm_L0b y0 y1 y2:=by kernel_rfl
theorem Vixa (x:tySs T S_Zbm.ps):run E_Zbm A_Zbm (Tryz.f49.body.getD .skip) (enterT E_Zbm.C S_Zbm.ps x) (retK E_Zbm Tryz.f49.results.toList S_Zbm.ps S_Zbm.rs)=S_Zbm.fn x:=by kernel_rfl
theorem Vux:EnvOk Tryz.prog E_Zbm:=envOk (E:=E_Zbm) cd_ok tys fl_ok fun f ds S h=>by
  dsimp only [E_Zbm] at h
  split at h
  ·cases h; exact Viwa
  ·cases h; exact Vuv
  ·cases h
theorem Vuy:LoopOk Tryz.prog E_Zbm Tryz.f49.ntmps (kqOf S_Zbm.ps 0) (loopAt 0 (Tryz.f49.body.getD .skip)) ⟨[(0,.f (.v (.rs 1))),(5,.f (.own 0)),(6,.f (.v (.int .i64)))],[(.exit 0,[(5,.f (.own 0))])],Zbm_L0,[]⟩:=
 Vaf (A:=A_Zbm) (done:=[]) (c0:=(Tryz.f49.body.getD .skip)) hmix Vux Vaa rounds (by kernel_rfl) (by kernel_rfl) (fun x=>Vuw x.1 x.2.1 x.2.2.1) (fun _=>rfl)
theorem Viya:SoundT Tryz.prog cd gdn 49 S_Zbm:=
 Vab (E:=E_Zbm) (A:=A_Zbm) (done:=[0]) (c:=(Tryz.f49.body.getD .skip)) (S:=S_Zbm) (fn:=Tryz.f49) hmix Vux Tryz.func49 rfl (by kernel_rfl) (by kernel_rfl) (Vac rfl Vuy Vaa) (by kernel_rfl) (by kernel_rfl) Vixa
def passkeyref14_encode_L0b (y0:(List (List ApiItem))) (y1:(List (ApiItem))) (y2:Int):Option (((List (List ApiItem))×(List (ApiItem))×Int×Unit)⊕((List (ApiItem))×Unit)):=
 (bif (decide (y2<((y0).length:Int))) then ((getI y0 y2).bind fun x2=>(bif (decide ((0:Int)<((x2).length:Int))) then (bif decide ((0:Int)<((y1).length:Int)) then (((y1)[0]?).bind fun x3=>(bif decide ((0:Int)<((y1).length:Int)) then (((y1)[0]?).bind fun x4=>(let v5:List (ApiItem):=(List.set y1 0 (⟨x4.kind,(x3.number+1#64),x4.data⟩:ApiItem))
 ((Zbd (BitVec.ofInt 64 y2)).bind fun r6=>(bif small ((v5).length+(([r6.2.1]:List (ApiItem)):List (ApiItem)).length) 32 then ((getI y0 y2).bind fun x7=>(bif small (((v5++([r6.2.1]:List (ApiItem)))).length+(x7:List (ApiItem)).length) 32 then (let v8:List (ApiItem):=((v5++([r6.2.1]:List (ApiItem)))++x7)
 (some (Sum.inl (y0,v8,(IntKind.wrap .i64 (y2+(1:Int))),()))))
 else none))
 else none))))
 else none))
 else none)
 else (some (Sum.inl (y0,y1,(IntKind.wrap .i64 (y2+(1:Int))),())))))
 else (some (Sum.inr (y1,()))))
def passkeyref14_encode_L0 (y:((List (List ApiItem))×(List (ApiItem))×Int×Unit)):Option ((List (ApiItem))×Unit):=iter (fun (y:((List (List ApiItem))×(List (ApiItem))×Int×Unit))=>passkeyref14_encode_L0b y.1 y.2.1 y.2.2.1) rounds y
def passkeyref14_encode (a0:(List (List ApiItem))):Option ((Unit)×((List (UInt8))×Unit)):=
 (let v1:List (ApiItem):=([(⟨(6:Int),0#64,([]:List UInt8)⟩:ApiItem)]:List (ApiItem))
 ((passkeyref14_encode_L0 (a0,v1,(1:Int),())).bind (fun (z9:((List (ApiItem))×Unit))=>((Zbm z9.1).bind fun r10=>(some ((),(r10.2.1,())))))))
def S_passkeyref14_encode:FSpec T:=⟨[.f (.v (.rs 8))],[(.own 0)],fun x=>passkeyref14_encode x.1⟩
def E_passkeyref14_encode:Env T:=⟨tab.find,cd,globs,flc,fun f ds=>match f with
  | 44=>some S_Zbd
  | 49=>some S_Zbm
  | _=>none,fun f=>match f with
  | 44=>true
  | _=>false⟩
def A_passkeyref14_encode:Loc2 T:=⟨fun id=>match id with
  | 0=>some ⟨[(0,.f (.v (.rs 8))),(3,.f (.own 1)),(4,.f (.v (.int .i64)))],[(.exit 0,[(3,.f (.own 1))])],passkeyref14_encode_L0,[]⟩
  | _=>none,fun r=>match r with
  | _=>none,fun r=>match r with
  | 7=>true
  | _=>false⟩
theorem Vc8 (y0:(List (List ApiItem))) (y1:(List (ApiItem))) (y2:Int):run E_passkeyref14_encode A_passkeyref14_encode (loopAt 0 (Tryz.f22.body.getD .skip)) (layC cd [(0,.f (.v (.rs 8))),(3,.f (.own 1)),(4,.f (.v (.int .i64)))] [] (y0,y1,y2,())) (roundK cd [(0,.f (.v (.rs 8))),(3,.f (.own 1)),(4,.f (.v (.int .i64)))] [] [(.exit 0,[(3,.f (.own 1))])])=passkeyref14_encode_L0b y0 y1 y2:=by kernel_rfl
theorem Veb (x:tySs T S_passkeyref14_encode.ps):run E_passkeyref14_encode A_passkeyref14_encode (Tryz.f22.body.getD .skip) (enterT E_passkeyref14_encode.C S_passkeyref14_encode.ps x) (retK E_passkeyref14_encode Tryz.f22.results.toList S_passkeyref14_encode.ps S_passkeyref14_encode.rs)=S_passkeyref14_encode.fn x:=by kernel_rfl
theorem Vbo:EnvOk Tryz.prog E_passkeyref14_encode:=envOk (E:=E_passkeyref14_encode) cd_ok tys fl_ok fun f ds S h=>by
  dsimp only [E_passkeyref14_encode] at h
  split at h
  ·cases h; exact Vaaa
  ·cases h; exact Viya
  ·cases h
theorem Vc9:LoopOk Tryz.prog E_passkeyref14_encode Tryz.f22.ntmps (kqOf S_passkeyref14_encode.ps 0) (loopAt 0 (Tryz.f22.body.getD .skip)) ⟨[(0,.f (.v (.rs 8))),(3,.f (.own 1)),(4,.f (.v (.int .i64)))],[(.exit 0,[(3,.f (.own 1))])],passkeyref14_encode_L0,[]⟩:=
 Vaf (A:=A_passkeyref14_encode) (done:=[]) (c0:=(Tryz.f22.body.getD .skip)) hmix Vbo Vaa rounds (by kernel_rfl) (by kernel_rfl) (fun x=>Vc8 x.1 x.2.1 x.2.2.1) (fun _=>rfl)
theorem Vec:SoundT Tryz.prog cd gdn 22 S_passkeyref14_encode:=
 Vab (E:=E_passkeyref14_encode) (A:=A_passkeyref14_encode) (done:=[0]) (c:=(Tryz.f22.body.getD .skip)) (S:=S_passkeyref14_encode) (fn:=Tryz.f22) hmix Vbo Tryz.func22 rfl (by kernel_rfl) (by kernel_rfl) (Vac rfl Vc9 Vaa) (by kernel_rfl) (by kernel_rfl) Veb
def Zah (a0:ApiReply):Option ((Unit)×((List (UInt8))×Int×Unit)):=
 ((Zaf a0).bind fun r1=>(bif (!decide (r1.2.1=(0:Int))) then (some ((),([],r1.2.1,())))
 else (bif (decide (a0.err=(0:Int))) then ((passkeyref14_replyFields a0).bind fun r2=>((passkeyref14_encode ([r2.2.1.a0,r2.2.1.a1,r2.2.1.a2,r2.2.1.a3,r2.2.1.a4,r2.2.1.a5,r2.2.1.a6,r2.2.1.a7,r2.2.1.a8,r2.2.1.a9,r2.2.1.a10,r2.2.1.a11,r2.2.1.a12,r2.2.1.a13,r2.2.1.a14,r2.2.1.a15,r2.2.1.a16,r2.2.1.a17]:List (List ApiItem))).bind fun r3=>(bif small ((([(UInt8.ofBitVec (BitVec.ofInt 8 a0.err))]:List (UInt8))).length+(r3.2.1:List (UInt8)).length) 1 then (let v4:List (UInt8):=(([(UInt8.ofBitVec (BitVec.ofInt 8 a0.err))]:List (UInt8))++r3.2.1)
 (bif (decide ((4096:Int)<((v4).length:Int))) then (some ((),([],(8:Int),())))
 else (some ((),(v4,(0:Int),())))))
 else none)))
 else (some ((),(([(UInt8.ofBitVec (BitVec.ofInt 8 a0.err))]:List (UInt8)),(0:Int),()))))))
def S_Zah:FSpec T:=⟨[.f (.v (.agg 4))],[(.own 0),(.v (.int .i64))],fun x=>Zah x.1⟩
def E_Zah:Env T:=⟨tab.find,cd,globs,flc,fun f ds=>match f with
  | 15=>some S_Zaf
  | 21=>some S_passkeyref14_replyFields
  | 22=>some S_passkeyref14_encode
  | _=>none,fun f=>match f with
  | 15=>true
  | _=>false⟩
def A_Zah:Loc2 T:=⟨fun id=>match id with
  | _=>none,fun r=>match r with
  | _=>none,fun r=>match r with
  | _=>false⟩
theorem Viza (x:tySs T S_Zah.ps):run E_Zah A_Zah (Tryz.f8.body.getD .skip) (enterT E_Zah.C S_Zah.ps x) (retK E_Zah Tryz.f8.results.toList S_Zah.ps S_Zah.rs)=S_Zah.fn x:=by kernel_rfl
theorem Vc7a:EnvOk Tryz.prog E_Zah:=envOk (E:=E_Zah) cd_ok tys fl_ok fun f ds S h=>by
  dsimp only [E_Zah] at h
  split at h
  ·cases h; exact Vz9
  ·cases h; exact Vct
  ·cases h; exact Vec
  ·cases h
theorem Vi0a:SoundT Tryz.prog cd gdn 8 S_Zah:=
 Vab (E:=E_Zah) (A:=A_Zah) (done:=[]) (c:=(Tryz.f8.body.getD .skip)) (S:=S_Zah) (fn:=Tryz.f8) hmix Vc7a Tryz.func8 rfl (by kernel_rfl) (by kernel_rfl) Vaa (by kernel_rfl) (by kernel_rfl) Viza
def Zat (a0:ApiReply):Option ((Unit)×(Bool×Unit)):=
 ((Zax a0).bind fun r1=>((Zah a0).bind fun r2=>((Zao a0).bind fun r3=>((Zaf a0).bind fun r4=>(bif (!decide (r3.2.1=r4.2.1)) then (some ((),(false,())))
 else (bif (!decide (r1.2.2.1=r2.2.2.1)) then (some ((),(false,())))
 else (bif (!decide (r1.2.1=r2.2.1)) then (some ((),(false,())))
 else (bif (!decide (r1.2.2.1=(0:Int))) then (some ((),(true,())))
 else ((Zaw r1.2.1).bind fun r5=>(bif (decide (r5.2.2.1=(0:Int))) then ((Zam r5.2.1 a0).bind fun r6=>(some ((),(r6.2.1,()))))
 else (some ((),(false,())))))))))))))
def S_Zat:FSpec T:=⟨[.f (.v (.agg 4))],[(.v .bool)],fun x=>Zat x.1⟩
def E_Zat:Env T:=⟨tab.find,cd,globs,flc,fun f ds=>match f with
  | 8=>some S_Zah
  | 11=>some S_Zax
  | 12=>some S_Zaw
  | 14=>some S_Zao
  | 15=>some S_Zaf
  | 16=>some S_Zam
  | _=>none,fun f=>match f with
  | 14=>true
  | 15=>true
  | 16=>true
  | _=>false⟩
def A_Zat:Loc2 T:=⟨fun id=>match id with
  | _=>none,fun r=>match r with
  | _=>none,fun r=>match r with
  | _=>false⟩
theorem Vi1a (x:tySs T S_Zat.ps):run E_Zat A_Zat (Tryz.f6.body.getD .skip) (enterT E_Zat.C S_Zat.ps x) (retK E_Zat Tryz.f6.results.toList S_Zat.ps S_Zat.rs)=S_Zat.fn x:=by kernel_rfl
theorem Vc8a:EnvOk Tryz.prog E_Zat:=envOk (E:=E_Zat) cd_ok tys fl_ok fun f ds S h=>by
  dsimp only [E_Zat] at h
  split at h
  ·cases h; exact Vi0a
  ·cases h; exact Vtz
  ·cases h; exact Vz7
  ·cases h; exact Vz4
  ·cases h; exact Vz9
  ·cases h; exact Vz8
  ·cases h
theorem Vi2a:SoundT Tryz.prog cd gdn 6 S_Zat:=
 Vab (E:=E_Zat) (A:=A_Zat) (done:=[]) (c:=(Tryz.f6.body.getD .skip)) (S:=S_Zat) (fn:=Tryz.f6) hmix Vc8a Tryz.func6 rfl (by kernel_rfl) (by kernel_rfl) Vaa (by kernel_rfl) (by kernel_rfl) Vi1a
def Zcg (a0:Int):Option ((Unit)×((List UInt8)×Unit)):=
 (let v1:List (List UInt8):=([([117,49]:List UInt8),([117,50]:List UInt8),([0,255]:List UInt8)]:List (List UInt8))
 (let v2:Int:=(IntKind.wrap .i64 ((BitVec.ofInt (IntKind.bits .i64) a0 &&& BitVec.ofInt (IntKind.bits .i64) (65535:Int)).toNat:Int))
 (bif (decide ((0:Int)≤(Int.tmod v2 (3:Int)))&&decide ((Int.tmod v2 (3:Int))<(3:Int))) then (((v1)[((Int.tmod v2 (3:Int))).toNat]?).bind fun x3=>(some ((),(x3,()))))
 else none)))
def S_Zcg:FSpec T:=⟨[.f (.v (.int .i64))],[(.v .str)],fun x=>Zcg x.1⟩
def E_Zcg:Env T:=⟨tab.find,cd,globs,flc,fun f ds=>match f with
  | _=>none,fun f=>match f with
  | _=>false⟩
def A_Zcg:Loc2 T:=⟨fun id=>match id with
  | _=>none,fun r=>match r with
  | _=>none,fun r=>match r with
  | _=>false⟩
theorem Vi3a (x:tySs T S_Zcg.ps):run E_Zcg A_Zcg (Tryz.f17.body.getD .skip) (enterT E_Zcg.C S_Zcg.ps x) (retK E_Zcg Tryz.f17.results.toList S_Zcg.ps S_Zcg.rs)=S_Zcg.fn x:=by kernel_rfl
theorem Vc9a:EnvOk Tryz.prog E_Zcg:=envOk (E:=E_Zcg) cd_ok tys fl_ok fun f ds S h=>by cases h
theorem Vi4a:SoundT Tryz.prog cd gdn 17 S_Zcg:=
 Vab (E:=E_Zcg) (A:=A_Zcg) (done:=[]) (c:=(Tryz.f17.body.getD .skip)) (S:=S_Zcg) (fn:=Tryz.f17) hmix Vc9a Tryz.func17 rfl (by kernel_rfl) (by kernel_rfl) Vaa (by kernel_rfl) (by kernel_rfl) Vi3a
def Zcf (a0:Int):Option ((Unit)×((List UInt8)×Unit)):=
 (let v1:List (List UInt8):=([([]:List UInt8),([97]:List UInt8),([98]:List UInt8),([108,111,103,105,110]:List UInt8),([107,101,121]:List UInt8),([101,120,97,109,112,108,101,46,111,114,103]:List UInt8),([195,169]:List UInt8),([48,49,50,51,52,53,54,55,56,57,48,49,50,51,52,53]:List UInt8)]:List (List UInt8))
 (let v2:Int:=(IntKind.wrap .i64 ((BitVec.ofInt (IntKind.bits .i64) a0 &&& BitVec.ofInt (IntKind.bits .i64) (7:Int)).toNat:Int))
 (bif (decide ((0:Int)≤v2)&&decide (v2<(8:Int))) then (((v1)[(v2).toNat]?).bind fun x3=>(let v4:Int:=(IntKind.wrap .i64 ((BitVec.ofInt (IntKind.bits .i64) (Int.fdiv a0 (2 ^ (min 3 (IntKind.bits .i64)))) &&& BitVec.ofInt (IntKind.bits .i64) (7:Int)).toNat:Int))
 (bif (decide ((0:Int)≤v4)&&decide (v4<(8:Int))) then (((v1)[(v4).toNat]?).bind fun x5=>(bif Nat.ble ((x3).length+(x5).length) 9223372036854775807 then (some ((),((x3++x5),())))
 else none))
 else none)))
 else none)))
def S_Zcf:FSpec T:=⟨[.f (.v (.int .i64))],[(.v .str)],fun x=>Zcf x.1⟩
def E_Zcf:Env T:=⟨tab.find,cd,globs,flc,fun f ds=>match f with
  | _=>none,fun f=>match f with
  | _=>false⟩
def A_Zcf:Loc2 T:=⟨fun id=>match id with
  | _=>none,fun r=>match r with
  | _=>none,fun r=>match r with
  | _=>false⟩
theorem Vi5a (x:tySs T S_Zcf.ps):run E_Zcf A_Zcf (Tryz.f18.body.getD .skip) (enterT E_Zcf.C S_Zcf.ps x) (retK E_Zcf Tryz.f18.results.toList S_Zcf.ps S_Zcf.rs)=S_Zcf.fn x:=by kernel_rfl
theorem Vdaa:EnvOk Tryz.prog E_Zcf:=envOk (E:=E_Zcf) cd_ok tys fl_ok fun f ds S h=>by cases h
theorem Vi6a:SoundT Tryz.prog cd gdn 18 S_Zcf:=
 Vab (E:=E_Zcf) (A:=A_Zcf) (done:=[]) (c:=(Tryz.f18.body.getD .skip)) (S:=S_Zcf) (fn:=Tryz.f18) hmix Vdaa Tryz.func18 rfl (by kernel_rfl) (by kernel_rfl) Vaa (by kernel_rfl) (by kernel_rfl) Vi5a
def Zcj (a0:(BitVec 64)) (a1:(BitVec 64)):Option ((Unit)×((BitVec 64)×Unit)):=
 (some ((),(((a0 <<< a1.toNat) ||| (a0 >>> (64#64-a1).toNat)),())))
def S_Zcj:FSpec T:=⟨[.f (.v .u64),.f (.v .u64)],[(.v .u64)],fun x=>Zcj x.1 x.2.1⟩
def E_Zcj:Env T:=⟨tab.find,cd,globs,flc,fun f ds=>match f with
  | _=>none,fun f=>match f with
  | _=>false⟩
def A_Zcj:Loc2 T:=⟨fun id=>match id with
  | _=>none,fun r=>match r with
  | _=>none,fun r=>match r with
  | _=>false⟩
theorem Vi7a (x:tySs T S_Zcj.ps):run E_Zcj A_Zcj (Tryz.f120.body.getD .skip) (enterT E_Zcj.C S_Zcj.ps x) (retK E_Zcj Tryz.f120.results.toList S_Zcj.ps S_Zcj.rs)=S_Zcj.fn x:=by kernel_rfl
theorem Vdba:EnvOk Tryz.prog E_Zcj:=envOk (E:=E_Zcj) cd_ok tys fl_ok fun f ds S h=>by cases h
theorem Vi8a:SoundT Tryz.prog cd gdn 120 S_Zcj:=
 Vab (E:=E_Zcj) (A:=A_Zcj) (done:=[]) (c:=(Tryz.f120.body.getD .skip)) (S:=S_Zcj) (fn:=Tryz.f120) hmix Vdba Tryz.func120 rfl (by kernel_rfl) (by kernel_rfl) Vaa (by kernel_rfl) (by kernel_rfl) Vi7a
def Zbx (a0:Arr4_BitVec64):Option ((Unit)×(Arr4_BitVec64×Unit)):=
 ((Zcj a0.a1 (13#64)).bind fun r1=>((Zcj (a0.a0+a0.a1) (32#64)).bind fun r2=>((Zcj a0.a3 (16#64)).bind fun r3=>((Zcj (r3.2.1 ^^^ (a0.a2+a0.a3)) (21#64)).bind fun r4=>((Zcj (r1.2.1 ^^^ (a0.a0+a0.a1)) (17#64)).bind fun r5=>(let v6:BitVec 64:=(r5.2.1 ^^^ ((a0.a2+a0.a3)+(r1.2.1 ^^^ (a0.a0+a0.a1))))
 ((Zcj ((a0.a2+a0.a3)+(r1.2.1 ^^^ (a0.a0+a0.a1))) (32#64)).bind fun r7=>(some ((),((⟨(r2.2.1+(r3.2.1 ^^^ (a0.a2+a0.a3))),v6,r7.2.1,(r4.2.1 ^^^ (r2.2.1+(r3.2.1 ^^^ (a0.a2+a0.a3))))⟩:Arr4_BitVec64),()))))))))))
def S_Zbx:FSpec T:=⟨[.f (.v (.agg 16))],[(.v (.agg 16))],fun x=>Zbx x.1⟩
def E_Zbx:Env T:=⟨tab.find,cd,globs,flc,fun f ds=>match f with
  | 120=>some S_Zcj
  | _=>none,fun f=>match f with
  | 120=>true
  | _=>false⟩
def A_Zbx:Loc2 T:=⟨fun id=>match id with
  | _=>none,fun r=>match r with
  | _=>none,fun r=>match r with
  | _=>false⟩
theorem Vi9a (x:tySs T S_Zbx.ps):run E_Zbx A_Zbx (Tryz.f106.body.getD .skip) (enterT E_Zbx.C S_Zbx.ps x) (retK E_Zbx Tryz.f106.results.toList S_Zbx.ps S_Zbx.rs)=S_Zbx.fn x:=by kernel_rfl
theorem Vdca:EnvOk Tryz.prog E_Zbx:=envOk (E:=E_Zbx) cd_ok tys fl_ok fun f ds S h=>by
  dsimp only [E_Zbx] at h
  split at h
  ·cases h; exact Vi8a
  ·cases h
theorem Vjaa:SoundT Tryz.prog cd gdn 106 S_Zbx:=
 Vab (E:=E_Zbx) (A:=A_Zbx) (done:=[]) (c:=(Tryz.f106.body.getD .skip)) (S:=S_Zbx) (fn:=Tryz.f106) hmix Vdca Tryz.func106 rfl (by kernel_rfl) (by kernel_rfl) Vaa (by kernel_rfl) (by kernel_rfl) Vi9a
def Zcs_L2b (y0:(List (UInt8))) (y1:(Arr4_BitVec64×Unit)) (y2:Int) (y3:(BitVec 64)) (y4:Int):Option (((List (UInt8))×(Arr4_BitVec64×Unit)×Int×(BitVec 64)×Int×Unit)⊕((List (UInt8))×(Arr4_BitVec64×Unit)×Int×(BitVec 64)×Unit)):=
 (bif (decide ((0:Int)≤y4)) then (bif (decide ((IntKind.wrap .i64 (y2+y4))<((y0).length:Int))) then ((getI y0 (IntKind.wrap .i64 (y2+y4))).bind fun x1=>(some (Sum.inl (y0,(y1.1,()),y2,((y3 <<< 8) ||| (BitVec.setWidth 64 x1.toBitVec)),(IntKind.wrap .i64 (y4-(1:Int))),()))))
 else (bif (decide (y4=(7:Int))) then (let v2:BitVec 64:=(BitVec.setWidth 64 (UInt8.ofBitVec (BitVec.ofInt 8 ((y0).length:Int))).toBitVec)
 (some (Sum.inl (y0,(y1.1,()),y2,((y3 <<< 8) ||| v2),(IntKind.wrap .i64 (y4-(1:Int))),()))))
 else (some (Sum.inl (y0,(y1.1,()),y2,((y3 <<< 8) ||| (BitVec.setWidth 64 (0:UInt8).toBitVec)),(IntKind.wrap .i64 (y4-(1:Int))),())))))
 else (some (Sum.inr (y0,(y1.1,()),y2,y3,()))))
def Zcs_L2 (y:((List (UInt8))×(Arr4_BitVec64×Unit)×Int×(BitVec 64)×Int×Unit)):Option ((List (UInt8))×(Arr4_BitVec64×Unit)×Int×(BitVec 64)×Unit):=iter (fun (y:((List (UInt8))×(Arr4_BitVec64×Unit)×Int×(BitVec 64)×Int×Unit))=>Zcs_L2b y.1 y.2.1 y.2.2.1 y.2.2.2.1 y.2.2.2.2.1) rounds y
def Zcs_L0b (y0:(List (UInt8))) (y1:(Arr4_BitVec64×Unit)) (y2:Int):Option (((List (UInt8))×(Arr4_BitVec64×Unit)×Int×Unit)⊕((Arr4_BitVec64×Unit)×Unit)):=
 (bif (decide (y2≤((y0).length:Int))) then ((Zcs_L2 (y0,(y1.1,()),y2,0#64,(7:Int),())).bind (fun (z1:((List (UInt8))×(Arr4_BitVec64×Unit)×Int×(BitVec 64)×Unit))=>((Zbx (⟨z1.2.1.1.a0,z1.2.1.1.a1,z1.2.1.1.a2,(z1.2.1.1.a3 ^^^ z1.2.2.2.1)⟩:Arr4_BitVec64)).bind fun r2=>((Zbx r2.2.1).bind fun r3=>(some (Sum.inl (z1.1,((⟨(r3.2.1.a0 ^^^ z1.2.2.2.1),r3.2.1.a1,r3.2.1.a2,r3.2.1.a3⟩:Arr4_BitVec64),()),(IntKind.wrap .i64 (z1.2.2.1+(8:Int))),())))))))
 else (some (Sum.inr ((y1.1,()),()))))
def Zcs_L0 (y:((List (UInt8))×(Arr4_BitVec64×Unit)×Int×Unit)):Option ((Arr4_BitVec64×Unit)×Unit):=iter (fun (y:((List (UInt8))×(Arr4_BitVec64×Unit)×Int×Unit))=>Zcs_L0b y.1 y.2.1 y.2.2.1) rounds y
def Zcs (a0:(BitVec 64)) (a1:(BitVec 64)) (a2:(List (UInt8))):Option ((Unit)×((BitVec 64)×Unit)):=
 ((Zcs_L0 (a2,((⟨(a0 ^^^ 8317987319222330741#64),(a1 ^^^ 7237128888997146477#64),(a0 ^^^ 7816392313619706465#64),(a1 ^^^ 8387220255154660723#64)⟩:Arr4_BitVec64),()),(0:Int),())).bind (fun (z4:((Arr4_BitVec64×Unit)×Unit))=>((Zbx (⟨z4.1.1.a0,z4.1.1.a1,(z4.1.1.a2 ^^^ 255#64),z4.1.1.a3⟩:Arr4_BitVec64)).bind fun r5=>((Zbx r5.2.1).bind fun r6=>((Zbx r6.2.1).bind fun r7=>((Zbx r7.2.1).bind fun r8=>(some ((),((((r8.2.1.a0 ^^^ r8.2.1.a1) ^^^ r8.2.1.a2) ^^^ r8.2.1.a3),())))))))))
def S_Zcs:FSpec T:=⟨[.f (.v .u64),.f (.v .u64),.f (.v (.rs 0))],[(.v .u64)],fun x=>Zcs x.1 x.2.1 x.2.2.1⟩
def E_Zcs:Env T:=⟨tab.find,cd,globs,flc,fun f ds=>match f with
  | 106=>some S_Zbx
  | _=>none,fun f=>match f with
  | 106=>true
  | _=>false⟩
def A_Zcs:Loc2 T:=⟨fun id=>match id with
  | 2=>some ⟨[(2,.f (.v (.rs 0))),(7,.ptr [(.v (.agg 16))]),(8,.f (.v (.int .i64))),(9,.f (.v .u64)),(10,.f (.v (.int .i64)))],[(.exit 2,[(2,.f (.v (.rs 0))),(7,.ptr [(.v (.agg 16))]),(8,.f (.v (.int .i64))),(9,.f (.v .u64))])],Zcs_L2,[]⟩
  | 0=>some ⟨[(2,.f (.v (.rs 0))),(7,.ptr [(.v (.agg 16))]),(8,.f (.v (.int .i64)))],[(.exit 0,[(7,.ptr [(.v (.agg 16))])])],Zcs_L0,[]⟩
  | _=>none,fun r=>match r with
  | _=>none,fun r=>match r with
  | _=>false⟩
theorem Vuz (y0:(List (UInt8))) (y1:(Arr4_BitVec64×Unit)) (y2:Int) (y3:(BitVec 64)) (y4:Int):run E_Zcs A_Zcs (loopAt 2 (Tryz.f89.body.getD .skip)) (layC cd [(2,.f (.v (.rs 0))),(7,.ptr [(.v (.agg 16))]),(8,.f (.v (.int .i64))),(9,.f (.v .u64)),(10,.f (.v (.int .i64)))] [] (y0,y1,y2,y3,y4,())) (roundK cd [(2,.f (.v (.rs 0))),(7,.ptr [(.v (.agg 16))]),(8,.f (.v (.int .i64))),(9,.f (.v .u64)),(10,.f (.v (.int .i64)))] [] [(.exit 2,[(2,.f (.v (.rs 0))),(7,.ptr [(.v (.agg 16))]),(8,.f (.v (.int .i64))),(9,.f (.v .u64))])])=Zcs_L2b y0 y1 y2 y3 y4:=by kernel_rfl
theorem Vu0 (y0:(List (UInt8))) (y1:(Arr4_BitVec64×Unit)) (y2:Int):run E_Zcs A_Zcs (loopAt 0 (Tryz.f89.body.getD .skip)) (layC cd [(2,.f (.v (.rs 0))),(7,.ptr [(.v (.agg 16))]),(8,.f (.v (.int .i64)))] [] (y0,y1,y2,())) (roundK cd [(2,.f (.v (.rs 0))),(7,.ptr [(.v (.agg 16))]),(8,.f (.v (.int .i64)))] [] [(.exit 0,[(7,.ptr [(.v (.agg 16))])])])=Zcs_L0b y0 y1 y2:=by kernel_rfl
theorem Vjba (x:tySs T S_Zcs.ps):run E_Zcs A_Zcs (Tryz.f89.body.getD .skip) (enterT E_Zcs.C S_Zcs.ps x) (retK E_Zcs Tryz.f89.results.toList S_Zcs.ps S_Zcs.rs)=S_Zcs.fn x:=by kernel_rfl
theorem Vnq:EnvOk Tryz.prog E_Zcs:=envOk (E:=E_Zcs) cd_ok tys fl_ok fun f ds S h=>by
  dsimp only [E_Zcs] at h
  split at h
  ·cases h; exact Vjaa
  ·cases h
theorem Vl7:LoopOk Tryz.prog E_Zcs Tryz.f89.ntmps (kqOf S_Zcs.ps 0) (loopAt 2 (Tryz.f89.body.getD .skip)) ⟨[(2,.f (.v (.rs 0))),(7,.ptr [(.v (.agg 16))]),(8,.f (.v (.int .i64))),(9,.f (.v .u64)),(10,.f (.v (.int .i64)))],[(.exit 2,[(2,.f (.v (.rs 0))),(7,.ptr [(.v (.agg 16))]),(8,.f (.v (.int .i64))),(9,.f (.v .u64))])],Zcs_L2,[]⟩:=
 Vaf (A:=A_Zcs) (done:=[]) (c0:=(Tryz.f89.body.getD .skip)) hmix Vnq Vaa rounds (by kernel_rfl) (by kernel_rfl) (fun x=>Vuz x.1 x.2.1 x.2.2.1 x.2.2.2.1 x.2.2.2.2.1) (fun _=>rfl)
theorem Vu1:LoopOk Tryz.prog E_Zcs Tryz.f89.ntmps (kqOf S_Zcs.ps 0) (loopAt 0 (Tryz.f89.body.getD .skip)) ⟨[(2,.f (.v (.rs 0))),(7,.ptr [(.v (.agg 16))]),(8,.f (.v (.int .i64)))],[(.exit 0,[(7,.ptr [(.v (.agg 16))])])],Zcs_L0,[]⟩:=
 Vaf (A:=A_Zcs) (done:=[2]) (c0:=(Tryz.f89.body.getD .skip)) hmix Vnq (Vac rfl Vl7 Vaa) rounds (by kernel_rfl) (by kernel_rfl) (fun x=>Vu0 x.1 x.2.1 x.2.2.1) (fun _=>rfl)
theorem Vjca:SoundT Tryz.prog cd gdn 89 S_Zcs:=
 Vab (E:=E_Zcs) (A:=A_Zcs) (done:=[2,0]) (c:=(Tryz.f89.body.getD .skip)) (S:=S_Zcs) (fn:=Tryz.f89) hmix Vnq Tryz.func89 rfl (by kernel_rfl) (by kernel_rfl) (Vac rfl Vl7 (Vac rfl Vu1 Vaa)) (by kernel_rfl) (by kernel_rfl) Vjba
def Zcr (a0:(BitVec 64)) (a1:Int) (a2:(List (UInt8))):Option ((Unit)×((BitVec 64)×Unit)):=
 ((Zcs a0 (1#64+(BitVec.ofInt 64 a1)) a2).bind fun r1=>(some ((),(r1.2.1,()))))
def S_Zcr:FSpec T:=⟨[.f (.v .u64),.f (.v (.int .i64)),.f (.v (.rs 0))],[(.v .u64)],fun x=>Zcr x.1 x.2.1 x.2.2.1⟩
def E_Zcr:Env T:=⟨tab.find,cd,globs,flc,fun f ds=>match f with
  | 89=>some S_Zcs
  | _=>none,fun f=>match f with
  | 89=>true
  | _=>false⟩
def A_Zcr:Loc2 T:=⟨fun id=>match id with
  | _=>none,fun r=>match r with
  | _=>none,fun r=>match r with
  | _=>false⟩
theorem Vjda (x:tySs T S_Zcr.ps):run E_Zcr A_Zcr (Tryz.f70.body.getD .skip) (enterT E_Zcr.C S_Zcr.ps x) (retK E_Zcr Tryz.f70.results.toList S_Zcr.ps S_Zcr.rs)=S_Zcr.fn x:=by kernel_rfl
theorem Vdda:EnvOk Tryz.prog E_Zcr:=envOk (E:=E_Zcr) cd_ok tys fl_ok fun f ds S h=>by
  dsimp only [E_Zcr] at h
  split at h
  ·cases h; exact Vjca
  ·cases h
theorem Vjea:SoundT Tryz.prog cd gdn 70 S_Zcr:=
 Vab (E:=E_Zcr) (A:=A_Zcr) (done:=[]) (c:=(Tryz.f70.body.getD .skip)) (S:=S_Zcr) (fn:=Tryz.f70) hmix Vdda Tryz.func70 rfl (by kernel_rfl) (by kernel_rfl) Vaa (by kernel_rfl) (by kernel_rfl) Vjda
def Zbo_L0b (y0:(BitVec 64)) (y1:(BitVec 64)) (y2:Int) (y3:(List (UInt8))) (y4:Int):Option (((BitVec 64)×(BitVec 64)×Int×(List (UInt8))×Int×Unit)⊕(Int×(List (UInt8))×Unit)):=
 (bif (decide (((y3).length:Int)<y2)) then ((passkeyref1_Words ([y1,(BitVec.ofInt 64 y4)]:List (BitVec 64))).bind fun r2=>((Zcr y0 (5:Int) r2.2.1).bind fun r3=>((passkeyref1_Words ([r3.2.1]:List (BitVec 64))).bind fun r4=>(bif small ((y3).length+(r4.2.1:List (UInt8)).length) 1 then (some (Sum.inl (y0,y1,y2,(y3++r4.2.1),(IntKind.wrap .i64 (y4+(1:Int))),())))
 else none))))
 else (some (Sum.inr (y2,y3,()))))
def Zbo_L0 (y:((BitVec 64)×(BitVec 64)×Int×(List (UInt8))×Int×Unit)):Option (Int×(List (UInt8))×Unit):=iter (fun (y:((BitVec 64)×(BitVec 64)×Int×(List (UInt8))×Int×Unit))=>Zbo_L0b y.1 y.2.1 y.2.2.1 y.2.2.2.1 y.2.2.2.2.1) rounds y
def Zbo (a0:(BitVec 64)) (a1:(BitVec 64)) (a2:Int):Option ((Unit)×((List (UInt8))×Unit)):=
 (let v1:Int:=(bif decide ((1024:Int)<(bif decide (a2<(0:Int)) then (0:Int) else a2)) then (1024:Int) else (bif decide (a2<(0:Int)) then (0:Int) else a2))
 ((Zbo_L0 (a0,a1,v1,[],(0:Int),())).bind (fun (z5:(Int×(List (UInt8))×Unit))=>(bif (decide ((0:Int)≤z5.1)&&decide (z5.1≤((z5.2.1).length:Int))) then (bif decide ((z5.1).toNat≤(z5.2.1).length) then (some ((),((List.take (z5.1).toNat z5.2.1),())))
 else none)
 else none))))
def S_Zbo:FSpec T:=⟨[.f (.v .u64),.f (.v .u64),.f (.v (.int .i64))],[(.own 0)],fun x=>Zbo x.1 x.2.1 x.2.2.1⟩
def E_Zbo:Env T:=⟨tab.find,cd,globs,flc,fun f ds=>match f with
  | 69=>some S_passkeyref1_Words
  | 70=>some S_Zcr
  | _=>none,fun f=>match f with
  | 70=>true
  | _=>false⟩
def A_Zbo:Loc2 T:=⟨fun id=>match id with
  | 0=>some ⟨[(0,.f (.v .u64)),(1,.f (.v .u64)),(2,.f (.v (.int .i64))),(7,.f (.own 0)),(8,.f (.v (.int .i64)))],[(.exit 0,[(2,.f (.v (.int .i64))),(7,.f (.own 0))])],Zbo_L0,[]⟩
  | _=>none,fun r=>match r with
  | _=>none,fun r=>match r with
  | _=>false⟩
theorem Vu2 (y0:(BitVec 64)) (y1:(BitVec 64)) (y2:Int) (y3:(List (UInt8))) (y4:Int):run E_Zbo A_Zbo (loopAt 0 (Tryz.f43.body.getD .skip)) (layC cd [(0,.f (.v .u64)),(1,.f (.v .u64)),(2,.f (.v (.int .i64))),(7,.f (.own 0)),(8,.f (.v (.int .i64)))] [] (y0,y1,y2,y3,y4,())) (roundK cd [(0,.f (.v .u64)),(1,.f (.v .u64)),(2,.f (.v (.int .i64))),(7,.f (.own 0)),(8,.f (.v (.int .i64)))] [] [(.exit 0,[(2,.f (.v (.int .i64))),(7,.f (.own 0))])])=Zbo_L0b y0 y1 y2 y3 y4:=by kernel_rfl
theorem Vjfa (x:tySs T S_Zbo.ps):run E_Zbo A_Zbo (Tryz.f43.body.getD .skip) (enterT E_Zbo.C S_Zbo.ps x) (retK E_Zbo Tryz.f43.results.toList S_Zbo.ps S_Zbo.rs)=S_Zbo.fn x:=by kernel_rfl
theorem Vu3:EnvOk Tryz.prog E_Zbo:=envOk (E:=E_Zbo) cd_ok tys fl_ok fun f ds S h=>by
  dsimp only [E_Zbo] at h
  split at h
  ·cases h; exact Vch
  ·cases h; exact Vjea
  ·cases h
theorem Vu4:LoopOk Tryz.prog E_Zbo Tryz.f43.ntmps (kqOf S_Zbo.ps 0) (loopAt 0 (Tryz.f43.body.getD .skip)) ⟨[(0,.f (.v .u64)),(1,.f (.v .u64)),(2,.f (.v (.int .i64))),(7,.f (.own 0)),(8,.f (.v (.int .i64)))],[(.exit 0,[(2,.f (.v (.int .i64))),(7,.f (.own 0))])],Zbo_L0,[]⟩:=
 Vaf (A:=A_Zbo) (done:=[]) (c0:=(Tryz.f43.body.getD .skip)) hmix Vu3 Vaa rounds (by kernel_rfl) (by kernel_rfl) (fun x=>Vu2 x.1 x.2.1 x.2.2.1 x.2.2.2.1 x.2.2.2.2.1) (fun _=>rfl)
theorem Vjga:SoundT Tryz.prog cd gdn 43 S_Zbo:=
 Vab (E:=E_Zbo) (A:=A_Zbo) (done:=[0]) (c:=(Tryz.f43.body.getD .skip)) (S:=S_Zbo) (fn:=Tryz.f43) hmix Vu3 Tryz.func43 rfl (by kernel_rfl) (by kernel_rfl) (Vac rfl Vu4 Vaa) (by kernel_rfl) (by kernel_rfl) Vjfa
def Zcv (a0:Int):Option ((Unit)×((List (UInt8))×Unit)):=
 (let v1:Int:=(IntKind.wrap .i64 ((BitVec.ofInt (IntKind.bits .i64) a0 &&& BitVec.ofInt (IntKind.bits .i64) (7:Int)).toNat:Int))
 ((Zbo ((BitVec.ofInt 64 v1)+1#64) (5#64) (176:Int)).bind fun r2=>(some ((),(r2.2.1,())))))
def S_Zcv:FSpec T:=⟨[.f (.v (.int .i64))],[(.own 0)],fun x=>Zcv x.1⟩
def E_Zcv:Env T:=⟨tab.find,cd,globs,flc,fun f ds=>match f with
  | 43=>some S_Zbo
  | _=>none,fun f=>match f with
  | _=>false⟩
def A_Zcv:Loc2 T:=⟨fun id=>match id with
  | _=>none,fun r=>match r with
  | _=>none,fun r=>match r with
  | _=>false⟩
theorem Vjha (x:tySs T S_Zcv.ps):run E_Zcv A_Zcv (Tryz.f19.body.getD .skip) (enterT E_Zcv.C S_Zcv.ps x) (retK E_Zcv Tryz.f19.results.toList S_Zcv.ps S_Zcv.rs)=S_Zcv.fn x:=by kernel_rfl
theorem Vdea:EnvOk Tryz.prog E_Zcv:=envOk (E:=E_Zcv) cd_ok tys fl_ok fun f ds S h=>by
  dsimp only [E_Zcv] at h
  split at h
  ·cases h; exact Vjga
  ·cases h
theorem Vjia:SoundT Tryz.prog cd gdn 19 S_Zcv:=
 Vab (E:=E_Zcv) (A:=A_Zcv) (done:=[]) (c:=(Tryz.f19.body.getD .skip)) (S:=S_Zcv) (fn:=Tryz.f19) hmix Vdea Tryz.func19 rfl (by kernel_rfl) (by kernel_rfl) Vaa (by kernel_rfl) (by kernel_rfl) Vjha
end Go.Proofs.YthoblablopmhfaaGreatDoor

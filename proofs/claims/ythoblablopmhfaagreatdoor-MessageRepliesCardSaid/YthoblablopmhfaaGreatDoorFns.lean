/- The functions of the program, as plain functions, and that the program computes them. Written by a program. -/
import Derived.Test.YthoblablopmhfaaGreatDoorFns1
set_option linter.unusedVariables false
set_option maxRecDepth 100000
namespace Go.Proofs.YthoblablopmhfaaGreatDoor
open Go Go.Abs
def Zcw (a0:Int):Option ((Unit)×((List UInt8)×Unit)):=
 (let v1:List (List UInt8):=([([97,46,101,120,97,109,112,108,101]:List UInt8),([98,46,101,120,97,109,112,108,101]:List UInt8),([115,104,111,112,46,116,101,115,116]:List UInt8)]:List (List UInt8))
 (let v2:Int:=(IntKind.wrap .i64 ((BitVec.ofInt (IntKind.bits .i64) a0 &&& BitVec.ofInt (IntKind.bits .i64) (65535:Int)).toNat:Int))
 (bif (decide ((0:Int)≤(Int.tmod v2 (3:Int)))&&decide ((Int.tmod v2 (3:Int))<(3:Int))) then (((v1)[((Int.tmod v2 (3:Int))).toNat]?).bind fun x3=>(some ((),(x3,()))))
 else none)))
def S_Zcw:FSpec T:=⟨[.f (.v (.int .i64))],[(.v .str)],fun x=>Zcw x.1⟩
def E_Zcw:Env T:=⟨tab.find,cd,globs,flc,fun f ds=>match f with
  | _=>none,fun f=>match f with
  | _=>false⟩
def A_Zcw:Loc2 T:=⟨fun id=>match id with
  | _=>none,fun r=>match r with
  | _=>none,fun r=>match r with
  | _=>false⟩
theorem Ve3a (x:tySs T S_Zcw.ps):run E_Zcw A_Zcw (Tryz.f20.body.getD .skip) (enterT E_Zcw.C S_Zcw.ps x) (retK E_Zcw Tryz.f20.results.toList S_Zcw.ps S_Zcw.rs)=S_Zcw.fn x:=by kernel_rfl
theorem Vbna:EnvOk Tryz.prog E_Zcw:=envOk (E:=E_Zcw) cd_ok tys fl_ok fun f ds S h=>by cases h
theorem Ve4a:SoundT Tryz.prog cd gdn 20 S_Zcw:=
 Vab (E:=E_Zcw) (A:=A_Zcw) (done:=[]) (c:=(Tryz.f20.body.getD .skip)) (S:=S_Zcw) (fn:=Tryz.f20) hmix Vbna Tryz.func20 rfl (by kernel_rfl) (by kernel_rfl) Vaa (by kernel_rfl) (by kernel_rfl) Ve3a
def Zbl_L0b (y0:Int) (y1:(ApiReply×Unit)) (y2:Ybq) (y3:Int):Option ((Int×(ApiReply×Unit)×Ybq×Int×Unit)⊕(Int×(ApiReply×Unit)×Ybq×Unit)):=
 (let v19:Int:=(IntKind.wrap .i64 ((BitVec.ofInt (IntKind.bits .i64) (Int.fdiv y0 (2 ^ (min 5 (IntKind.bits .i64)))) &&& BitVec.ofInt (IntKind.bits .i64) (3:Int)).toNat:Int))
 (bif (decide (y3<v19)) then (let v20:Int:=(Int.fdiv y0 (2 ^ (min (BitVec.ofInt 64 (IntKind.wrap .i64 ((3:Int)+y3))).toNat (IntKind.bits .i64))))
 (let v21:Int:=(IntKind.wrap .i64 ((BitVec.ofInt (IntKind.bits .i64) v20 &&& BitVec.ofInt (IntKind.bits .i64) (31:Int)).toNat:Int))
 (bif (decide ((0:Int)≤v21)&&(decide (v21≤v21)&&decide ((1:Int) * v21≤281474976710656∧v21≤9223372036854775807))) then (let v22:List (UInt8):=(List.replicate (v21).toNat (0:UInt8))
 (bif small ((y2.2.2.2.1).length+(([v22]:List (List UInt8)):List (List UInt8)).length) 24 then (let v23:List (List UInt8):=(y2.2.2.2.1++([v22]:List (List UInt8)))
 ((Zcw (Int.fdiv y0 (2 ^ (min 3 (IntKind.bits .i64))))).bind fun r24=>((Zcg y3).bind fun r25=>(let v26:Int:=(Int.fdiv y0 (2 ^ (min (BitVec.ofInt 64 y3).toNat (IntKind.bits .i64))))
 ((Zcf v26).bind fun r27=>((Zcv y3).bind fun r28=>(let v29:Int:=(Int.fdiv y0 (2 ^ (min (BitVec.ofInt 64 (IntKind.wrap .i64 ((4:Int)+y3))).toNat (IntKind.bits .i64))))
 (let v30:Int:=(IntKind.wrap .i64 ((BitVec.ofInt (IntKind.bits .i64) v29 &&& BitVec.ofInt (IntKind.bits .i64) (15:Int)).toNat:Int))
 (let v31:List (ApiEntry):=([(⟨r24.2.1,r25.2.1,r27.2.1,r28.2.1,v30⟩:ApiEntry)]:List (ApiEntry))
 (bif small ((y2.2.2.2.2.2.2.2.2.2.2.2.2.2.2.2.2.2.1).length+(v31:List (ApiEntry)).length) 80 then (let v32:List (ApiEntry):=(y2.2.2.2.2.2.2.2.2.2.2.2.2.2.2.2.2.2.1++v31)
 (some (Sum.inl (y0,(y1.1,()),(y2.1,y2.2.1,y2.2.2.1,v23,y2.2.2.2.2.1,y2.2.2.2.2.2.1,y2.2.2.2.2.2.2.1,y2.2.2.2.2.2.2.2.1,y2.2.2.2.2.2.2.2.2.1,y2.2.2.2.2.2.2.2.2.2.1,y2.2.2.2.2.2.2.2.2.2.2.1,y2.2.2.2.2.2.2.2.2.2.2.2.1,y2.2.2.2.2.2.2.2.2.2.2.2.2.1,y2.2.2.2.2.2.2.2.2.2.2.2.2.2.1,y2.2.2.2.2.2.2.2.2.2.2.2.2.2.2.1,y2.2.2.2.2.2.2.2.2.2.2.2.2.2.2.2.1,y2.2.2.2.2.2.2.2.2.2.2.2.2.2.2.2.2.1,v32,()),(IntKind.wrap .i64 (y3+(1:Int))),()))))
 else none))))))))))
 else none))
 else none)))
 else (some (Sum.inr (y0,(y1.1,()),y2,())))))
def Zbl_L0 (y:(Int×(ApiReply×Unit)×Ybq×Int×Unit)):Option (Int×(ApiReply×Unit)×Ybq×Unit):=iter (fun (y:(Int×(ApiReply×Unit)×Ybq×Int×Unit))=>Zbl_L0b y.1 y.2.1 y.2.2.1 y.2.2.2.1) rounds y
def Zbl (a0:Int) (a1:Int):Option ((Unit)×(ApiReply×Unit)):=
 (let v1:Int:=(IntKind.wrap .i64 ((BitVec.ofInt (IntKind.bits .i64) a0 &&& BitVec.ofInt (IntKind.bits .i64) (3:Int)).toNat:Int))
 (let v2:Int:=(IntKind.wrap .i64 ((BitVec.ofInt (IntKind.bits .i64) (Int.fdiv a0 (2 ^ (min 2 (IntKind.bits .i64)))) &&& BitVec.ofInt (IntKind.bits .i64) (7:Int)).toNat:Int))
 (let v3:Int:=(IntKind.wrap .i64 ((BitVec.ofInt (IntKind.bits .i64) (Int.fdiv a0 (2 ^ (min 5 (IntKind.bits .i64)))) &&& BitVec.ofInt (IntKind.bits .i64) (3:Int)).toNat:Int))
 (let v4:Int:=(IntKind.wrap .i64 ((BitVec.ofInt (IntKind.bits .i64) (Int.fdiv a0 (2 ^ (min 7 (IntKind.bits .i64)))) &&& BitVec.ofInt (IntKind.bits .i64) (3:Int)).toNat:Int))
 (let v5:Int:=(IntKind.wrap .i64 ((BitVec.ofInt (IntKind.bits .i64) (Int.fdiv a0 (2 ^ (min 9 (IntKind.bits .i64)))) &&& BitVec.ofInt (IntKind.bits .i64) (7:Int)).toNat:Int))
 (let v6:Int:=(IntKind.wrap .i64 ((BitVec.ofInt (IntKind.bits .i64) (Int.fdiv a0 (2 ^ (min 12 (IntKind.bits .i64)))) &&& BitVec.ofInt (IntKind.bits .i64) (7:Int)).toNat:Int))
 (let v7:Int:=(IntKind.wrap .i64 ((BitVec.ofInt (IntKind.bits .i64) (Int.fdiv a0 (2 ^ (min 15 (IntKind.bits .i64)))) &&& BitVec.ofInt (IntKind.bits .i64) (7:Int)).toNat:Int))
 (let v8:Int:=(IntKind.wrap .i64 ((BitVec.ofInt (IntKind.bits .i64) (Int.fdiv a0 (2 ^ (min 18 (IntKind.bits .i64)))) &&& BitVec.ofInt (IntKind.bits .i64) (1:Int)).toNat:Int))
 (let v9:Int:=(IntKind.wrap .i64 ((BitVec.ofInt (IntKind.bits .i64) (Int.fdiv a0 (2 ^ (min 19 (IntKind.bits .i64)))) &&& BitVec.ofInt (IntKind.bits .i64) (1:Int)).toNat:Int))
 ((Zcg a1).bind fun r10=>((Zcf (Int.fdiv a1 (2 ^ (min 2 (IntKind.bits .i64))))).bind fun r11=>((let v12:Int:=(IntKind.wrap .i64 ((BitVec.ofInt (IntKind.bits .i64) (Int.fdiv a0 (2 ^ (min 20 (IntKind.bits .i64)))) &&& BitVec.ofInt (IntKind.bits .i64) (1:Int)).toNat:Int))
 (bif (decide (v12=(1:Int))) then ((Zcv a1).bind fun r13=>(let v14:Int:=(IntKind.wrap .i64 ((BitVec.ofInt (IntKind.bits .i64) (Int.fdiv a1 (2 ^ (min 3 (IntKind.bits .i64)))) &&& BitVec.ofInt (IntKind.bits .i64) (63:Int)).toNat:Int))
 (bif (decide ((0:Int)≤v14)&&(decide (v14≤v14)&&decide ((1:Int) * v14≤281474976710656∧v14≤9223372036854775807))) then (let v15:List (UInt8):=(List.replicate (v14).toNat (0:UInt8))
 (let v16:Int:=(IntKind.wrap .i64 ((BitVec.ofInt (IntKind.bits .i64) (Int.fdiv a1 (2 ^ (min 9 (IntKind.bits .i64)))) &&& BitVec.ofInt (IntKind.bits .i64) (63:Int)).toNat:Int))
 (bif (decide ((0:Int)≤v16)&&(decide (v16≤v16)&&decide ((1:Int) * v16≤281474976710656∧v16≤9223372036854775807))) then (let v17:List (UInt8):=(List.replicate (v16).toNat (0:UInt8))
 (some (a1,((⟨(0:Int),[],[],[],(0:Int),[],([]:List UInt8),([]:List UInt8),(0:Int),0#64,[],0#64,(0:Int),(0:Int),(0:Int),false,false,[]⟩:ApiReply),()),((0:Int),v15,v17,[],v1,r13.2.1,r10.2.1,r11.2.1,v2,(BitVec.ofInt 64 v3),[],(BitVec.ofInt 64 v4),v5,v6,v7,(decide (v8=(1:Int))),(decide (v9=(1:Int))),[],()),())))
 else none)))
 else none)))
 else (some (a1,((⟨(0:Int),[],[],[],(0:Int),[],([]:List UInt8),([]:List UInt8),(0:Int),0#64,[],0#64,(0:Int),(0:Int),(0:Int),false,false,[]⟩:ApiReply),()),((0:Int),[],[],[],v1,[],r10.2.1,r11.2.1,v2,(BitVec.ofInt 64 v3),[],(BitVec.ofInt 64 v4),v5,v6,v7,(decide (v8=(1:Int))),(decide (v9=(1:Int))),[],()),())))).bind (fun (j18:(Int×(ApiReply×Unit)×Ybq×Unit))=>((Zbl_L0 (j18.1,(j18.2.1.1,()),j18.2.2.1,(0:Int),())).bind (fun (z33:(Int×(ApiReply×Unit)×Ybq×Unit))=>(let v34:Int:=(IntKind.wrap .i64 ((BitVec.ofInt (IntKind.bits .i64) (Int.fdiv z33.1 (2 ^ (min 4 (IntKind.bits .i64)))) &&& BitVec.ofInt (IntKind.bits .i64) (65535:Int)).toNat:Int))
 (let v35:Int:=(IntKind.wrap .i64 ((BitVec.ofInt (IntKind.bits .i64) (Int.fdiv z33.1 (2 ^ (min 16 (IntKind.bits .i64)))) &&& BitVec.ofInt (IntKind.bits .i64) (15:Int)).toNat:Int))
 (bif (decide (v35=(0:Int))) then (let v36:Int:=(IntKind.wrap .i64 ((BitVec.ofInt (IntKind.bits .i64) v34 &&& BitVec.ofInt (IntKind.bits .i64) (63:Int)).toNat:Int))
 (some ((),((⟨(IntKind.wrap .i64 (v36-(2:Int))),[],[],[],(0:Int),[],([]:List UInt8),([]:List UInt8),(0:Int),0#64,[],0#64,(0:Int),(0:Int),(0:Int),false,false,[]⟩:ApiReply),()))))
 else (bif (decide (v35=(1:Int))) then (some ((),((⟨(24:Int),z33.2.2.1.2.1,z33.2.2.1.2.2.1,z33.2.2.1.2.2.2.1,z33.2.2.1.2.2.2.2.1,z33.2.2.1.2.2.2.2.2.1,z33.2.2.1.2.2.2.2.2.2.1,z33.2.2.1.2.2.2.2.2.2.2.1,z33.2.2.1.2.2.2.2.2.2.2.2.1,z33.2.2.1.2.2.2.2.2.2.2.2.2.1,z33.2.2.1.2.2.2.2.2.2.2.2.2.2.1,z33.2.2.1.2.2.2.2.2.2.2.2.2.2.2.1,z33.2.2.1.2.2.2.2.2.2.2.2.2.2.2.2.1,z33.2.2.1.2.2.2.2.2.2.2.2.2.2.2.2.2.1,z33.2.2.1.2.2.2.2.2.2.2.2.2.2.2.2.2.2.1,z33.2.2.1.2.2.2.2.2.2.2.2.2.2.2.2.2.2.2.1,z33.2.2.1.2.2.2.2.2.2.2.2.2.2.2.2.2.2.2.2.1,z33.2.2.1.2.2.2.2.2.2.2.2.2.2.2.2.2.2.2.2.2.1⟩:ApiReply),())))
 else (bif (decide (v35=(2:Int))) then (let v37:Int:=(IntKind.wrap .i64 ((Int.tmod v34 (300:Int))-(20:Int)))
 (some ((),((⟨z33.2.2.1.1,z33.2.2.1.2.1,z33.2.2.1.2.2.1,z33.2.2.1.2.2.2.1,z33.2.2.1.2.2.2.2.1,z33.2.2.1.2.2.2.2.2.1,z33.2.2.1.2.2.2.2.2.2.1,z33.2.2.1.2.2.2.2.2.2.2.1,v37,z33.2.2.1.2.2.2.2.2.2.2.2.2.1,z33.2.2.1.2.2.2.2.2.2.2.2.2.2.1,z33.2.2.1.2.2.2.2.2.2.2.2.2.2.2.1,z33.2.2.1.2.2.2.2.2.2.2.2.2.2.2.2.1,z33.2.2.1.2.2.2.2.2.2.2.2.2.2.2.2.2.1,z33.2.2.1.2.2.2.2.2.2.2.2.2.2.2.2.2.2.1,z33.2.2.1.2.2.2.2.2.2.2.2.2.2.2.2.2.2.2.1,z33.2.2.1.2.2.2.2.2.2.2.2.2.2.2.2.2.2.2.2.1,z33.2.2.1.2.2.2.2.2.2.2.2.2.2.2.2.2.2.2.2.2.1⟩:ApiReply),()))))
 else (bif (decide (v35=(3:Int))) then (let v38:Int:=(IntKind.wrap .i64 ((BitVec.ofInt (IntKind.bits .i64) v34 &&& BitVec.ofInt (IntKind.bits .i64) (7:Int)).toNat:Int))
 (bif (decide ((0:Int)≤(IntKind.wrap .i64 ((1020:Int)+v38)))&&(decide ((IntKind.wrap .i64 ((1020:Int)+v38))≤(IntKind.wrap .i64 ((1020:Int)+v38)))&&decide ((1:Int) * (IntKind.wrap .i64 ((1020:Int)+v38))≤281474976710656∧(IntKind.wrap .i64 ((1020:Int)+v38))≤9223372036854775807))) then (let v39:List (UInt8):=(List.replicate ((IntKind.wrap .i64 ((1020:Int)+v38))).toNat (0:UInt8))
 (some ((),((⟨z33.2.2.1.1,z33.2.2.1.2.1,z33.2.2.1.2.2.1,z33.2.2.1.2.2.2.1,z33.2.2.1.2.2.2.2.1,z33.2.2.1.2.2.2.2.2.1,z33.2.2.1.2.2.2.2.2.2.1,z33.2.2.1.2.2.2.2.2.2.2.1,z33.2.2.1.2.2.2.2.2.2.2.2.1,z33.2.2.1.2.2.2.2.2.2.2.2.2.1,v39,z33.2.2.1.2.2.2.2.2.2.2.2.2.2.2.1,z33.2.2.1.2.2.2.2.2.2.2.2.2.2.2.2.1,z33.2.2.1.2.2.2.2.2.2.2.2.2.2.2.2.2.1,z33.2.2.1.2.2.2.2.2.2.2.2.2.2.2.2.2.2.1,z33.2.2.1.2.2.2.2.2.2.2.2.2.2.2.2.2.2.2.1,z33.2.2.1.2.2.2.2.2.2.2.2.2.2.2.2.2.2.2.2.1,z33.2.2.1.2.2.2.2.2.2.2.2.2.2.2.2.2.2.2.2.2.1⟩:ApiReply),()))))
 else none))
 else (bif (decide (v35=(4:Int))) then (let v40:List (UInt8):=(List.replicate 33 (0:UInt8))
 (let v41:Int:=(IntKind.wrap .i64 ((BitVec.ofInt (IntKind.bits .i64) v34 &&& BitVec.ofInt (IntKind.bits .i64) (1:Int)).toNat:Int))
 (bif (decide ((0:Int)≤v41)&&decide (v41<(2:Int))) then (((([([255]:List UInt8),v40]:List (List UInt8)))[(v41).toNat]?).bind fun x42=>(some ((),((⟨z33.2.2.1.1,z33.2.2.1.2.1,z33.2.2.1.2.2.1,z33.2.2.1.2.2.2.1,z33.2.2.1.2.2.2.2.1,z33.2.2.1.2.2.2.2.2.1,z33.2.2.1.2.2.2.2.2.2.1,x42,z33.2.2.1.2.2.2.2.2.2.2.2.1,z33.2.2.1.2.2.2.2.2.2.2.2.2.1,z33.2.2.1.2.2.2.2.2.2.2.2.2.2.1,z33.2.2.1.2.2.2.2.2.2.2.2.2.2.2.1,z33.2.2.1.2.2.2.2.2.2.2.2.2.2.2.2.1,z33.2.2.1.2.2.2.2.2.2.2.2.2.2.2.2.2.1,z33.2.2.1.2.2.2.2.2.2.2.2.2.2.2.2.2.2.1,z33.2.2.1.2.2.2.2.2.2.2.2.2.2.2.2.2.2.2.1,z33.2.2.1.2.2.2.2.2.2.2.2.2.2.2.2.2.2.2.2.1,z33.2.2.1.2.2.2.2.2.2.2.2.2.2.2.2.2.2.2.2.2.1⟩:ApiReply),()))))
 else none)))
 else (bif (decide (v35=(5:Int))) then (bif (decide ((0:Int)≤(IntKind.wrap .i64 ((175:Int)+(Int.tmod v34 (3:Int)))))&&(decide ((IntKind.wrap .i64 ((175:Int)+(Int.tmod v34 (3:Int))))≤(IntKind.wrap .i64 ((175:Int)+(Int.tmod v34 (3:Int)))))&&decide ((1:Int) * (IntKind.wrap .i64 ((175:Int)+(Int.tmod v34 (3:Int))))≤281474976710656∧(IntKind.wrap .i64 ((175:Int)+(Int.tmod v34 (3:Int))))≤9223372036854775807))) then (let v43:List (UInt8):=(List.replicate ((IntKind.wrap .i64 ((175:Int)+(Int.tmod v34 (3:Int))))).toNat (0:UInt8))
 (some ((),((⟨z33.2.2.1.1,z33.2.2.1.2.1,z33.2.2.1.2.2.1,z33.2.2.1.2.2.2.1,z33.2.2.1.2.2.2.2.1,v43,z33.2.2.1.2.2.2.2.2.2.1,z33.2.2.1.2.2.2.2.2.2.2.1,z33.2.2.1.2.2.2.2.2.2.2.2.1,z33.2.2.1.2.2.2.2.2.2.2.2.2.1,z33.2.2.1.2.2.2.2.2.2.2.2.2.2.1,z33.2.2.1.2.2.2.2.2.2.2.2.2.2.2.1,z33.2.2.1.2.2.2.2.2.2.2.2.2.2.2.2.1,z33.2.2.1.2.2.2.2.2.2.2.2.2.2.2.2.2.1,z33.2.2.1.2.2.2.2.2.2.2.2.2.2.2.2.2.2.1,z33.2.2.1.2.2.2.2.2.2.2.2.2.2.2.2.2.2.2.1,z33.2.2.1.2.2.2.2.2.2.2.2.2.2.2.2.2.2.2.2.1,z33.2.2.1.2.2.2.2.2.2.2.2.2.2.2.2.2.2.2.2.2.1⟩:ApiReply),()))))
 else none)
 else (bif (decide (v35=(6:Int))) then (bif (decide ((0:Int)≤(IntKind.wrap .i64 ((175:Int)+(Int.tmod v34 (3:Int)))))&&(decide ((IntKind.wrap .i64 ((175:Int)+(Int.tmod v34 (3:Int))))≤(IntKind.wrap .i64 ((175:Int)+(Int.tmod v34 (3:Int)))))&&decide ((1:Int) * (IntKind.wrap .i64 ((175:Int)+(Int.tmod v34 (3:Int))))≤281474976710656∧(IntKind.wrap .i64 ((175:Int)+(Int.tmod v34 (3:Int))))≤9223372036854775807))) then (let v44:List (UInt8):=(List.replicate ((IntKind.wrap .i64 ((175:Int)+(Int.tmod v34 (3:Int))))).toNat (0:UInt8))
 (let v45:Int:=(IntKind.wrap .i64 ((BitVec.ofInt (IntKind.bits .i64) (Int.fdiv v34 (2 ^ (min 2 (IntKind.bits .i64)))) &&& BitVec.ofInt (IntKind.bits .i64) (511:Int)).toNat:Int))
 (let v46:List (ApiEntry):=([(⟨([120]:List UInt8),([]:List UInt8),([]:List UInt8),v44,(IntKind.wrap .i64 (v45-(100:Int)))⟩:ApiEntry)]:List (ApiEntry))
 (bif small ((z33.2.2.1.2.2.2.2.2.2.2.2.2.2.2.2.2.2.2.2.2.1).length+(v46:List (ApiEntry)).length) 80 then (let v47:List (ApiEntry):=(z33.2.2.1.2.2.2.2.2.2.2.2.2.2.2.2.2.2.2.2.2.1++v46)
 (some ((),((⟨z33.2.2.1.1,z33.2.2.1.2.1,z33.2.2.1.2.2.1,z33.2.2.1.2.2.2.1,z33.2.2.1.2.2.2.2.1,z33.2.2.1.2.2.2.2.2.1,z33.2.2.1.2.2.2.2.2.2.1,z33.2.2.1.2.2.2.2.2.2.2.1,z33.2.2.1.2.2.2.2.2.2.2.2.1,z33.2.2.1.2.2.2.2.2.2.2.2.2.1,z33.2.2.1.2.2.2.2.2.2.2.2.2.2.1,z33.2.2.1.2.2.2.2.2.2.2.2.2.2.2.1,z33.2.2.1.2.2.2.2.2.2.2.2.2.2.2.2.1,z33.2.2.1.2.2.2.2.2.2.2.2.2.2.2.2.2.1,z33.2.2.1.2.2.2.2.2.2.2.2.2.2.2.2.2.2.1,z33.2.2.1.2.2.2.2.2.2.2.2.2.2.2.2.2.2.2.1,z33.2.2.1.2.2.2.2.2.2.2.2.2.2.2.2.2.2.2.2.1,v47⟩:ApiReply),()))))
 else none))))
 else none)
 else (bif (decide (v35=(7:Int))) then (let v48:Int:=(IntKind.wrap .i64 ((BitVec.ofInt (IntKind.bits .i64) v34 &&& BitVec.ofInt (IntKind.bits .i64) (7:Int)).toNat:Int))
 (bif (decide ((0:Int)≤v48)&&(decide (v48≤v48)&&decide ((24:Int) * v48≤281474976710656∧v48≤9223372036854775807))) then (let v49:List (List UInt8):=(List.replicate (v48).toNat [])
 (some ((),((⟨z33.2.2.1.1,z33.2.2.1.2.1,z33.2.2.1.2.2.1,v49,z33.2.2.1.2.2.2.2.1,z33.2.2.1.2.2.2.2.2.1,z33.2.2.1.2.2.2.2.2.2.1,z33.2.2.1.2.2.2.2.2.2.2.1,z33.2.2.1.2.2.2.2.2.2.2.2.1,z33.2.2.1.2.2.2.2.2.2.2.2.2.1,z33.2.2.1.2.2.2.2.2.2.2.2.2.2.1,z33.2.2.1.2.2.2.2.2.2.2.2.2.2.2.1,z33.2.2.1.2.2.2.2.2.2.2.2.2.2.2.2.1,z33.2.2.1.2.2.2.2.2.2.2.2.2.2.2.2.2.1,z33.2.2.1.2.2.2.2.2.2.2.2.2.2.2.2.2.2.1,z33.2.2.1.2.2.2.2.2.2.2.2.2.2.2.2.2.2.2.1,z33.2.2.1.2.2.2.2.2.2.2.2.2.2.2.2.2.2.2.2.1,z33.2.2.1.2.2.2.2.2.2.2.2.2.2.2.2.2.2.2.2.2.1⟩:ApiReply),()))))
 else none))
 else (bif (decide (v35=(8:Int))) then (let v50:List (UInt8):=(List.replicate 1024 (0:UInt8))
 (let v51:List (UInt8):=(List.replicate 1024 (0:UInt8))
 (let v52:List (UInt8):=(List.replicate 1000 (0:UInt8))
 (let v53:Int:=(IntKind.wrap .i64 ((BitVec.ofInt (IntKind.bits .i64) v34 &&& BitVec.ofInt (IntKind.bits .i64) (255:Int)).toNat:Int))
 (bif (decide ((0:Int)≤(IntKind.wrap .i64 ((900:Int)+v53)))&&(decide ((IntKind.wrap .i64 ((900:Int)+v53))≤(IntKind.wrap .i64 ((900:Int)+v53)))&&decide ((1:Int) * (IntKind.wrap .i64 ((900:Int)+v53))≤281474976710656∧(IntKind.wrap .i64 ((900:Int)+v53))≤9223372036854775807))) then (let v54:List (UInt8):=(List.replicate ((IntKind.wrap .i64 ((900:Int)+v53))).toNat (0:UInt8))
 (some ((),((⟨z33.2.2.1.1,v50,v51,([v54]:List (List UInt8)),z33.2.2.1.2.2.2.2.1,z33.2.2.1.2.2.2.2.2.1,z33.2.2.1.2.2.2.2.2.2.1,z33.2.2.1.2.2.2.2.2.2.2.1,z33.2.2.1.2.2.2.2.2.2.2.2.1,z33.2.2.1.2.2.2.2.2.2.2.2.2.1,v52,z33.2.2.1.2.2.2.2.2.2.2.2.2.2.2.1,z33.2.2.1.2.2.2.2.2.2.2.2.2.2.2.2.1,z33.2.2.1.2.2.2.2.2.2.2.2.2.2.2.2.2.1,z33.2.2.1.2.2.2.2.2.2.2.2.2.2.2.2.2.2.1,z33.2.2.1.2.2.2.2.2.2.2.2.2.2.2.2.2.2.2.1,z33.2.2.1.2.2.2.2.2.2.2.2.2.2.2.2.2.2.2.2.1,z33.2.2.1.2.2.2.2.2.2.2.2.2.2.2.2.2.2.2.2.2.1⟩:ApiReply),()))))
 else none)))))
 else (some ((),((⟨z33.2.2.1.1,z33.2.2.1.2.1,z33.2.2.1.2.2.1,z33.2.2.1.2.2.2.1,z33.2.2.1.2.2.2.2.1,z33.2.2.1.2.2.2.2.2.1,z33.2.2.1.2.2.2.2.2.2.1,z33.2.2.1.2.2.2.2.2.2.2.1,z33.2.2.1.2.2.2.2.2.2.2.2.1,z33.2.2.1.2.2.2.2.2.2.2.2.2.1,z33.2.2.1.2.2.2.2.2.2.2.2.2.2.1,z33.2.2.1.2.2.2.2.2.2.2.2.2.2.2.1,z33.2.2.1.2.2.2.2.2.2.2.2.2.2.2.2.1,z33.2.2.1.2.2.2.2.2.2.2.2.2.2.2.2.2.1,z33.2.2.1.2.2.2.2.2.2.2.2.2.2.2.2.2.2.1,z33.2.2.1.2.2.2.2.2.2.2.2.2.2.2.2.2.2.2.1,z33.2.2.1.2.2.2.2.2.2.2.2.2.2.2.2.2.2.2.2.1,z33.2.2.1.2.2.2.2.2.2.2.2.2.2.2.2.2.2.2.2.2.1⟩:ApiReply),())))))))))))))))))))))))))))))
def S_Zbl:FSpec T:=⟨[.f (.v (.int .i64)),.f (.v (.int .i64))],[(.v (.agg 4))],fun x=>Zbl x.1 x.2.1⟩
def E_Zbl:Env T:=⟨tab.find,cd,globs,flc,fun f ds=>match f with
  | 17=>some S_Zcg
  | 18=>some S_Zcf
  | 19=>some S_Zcv
  | 20=>some S_Zcw
  | _=>none,fun f=>match f with
  | 17=>true
  | 18=>true
  | 20=>true
  | _=>false⟩
def A_Zbl:Loc2 T:=⟨fun id=>match id with
  | 0=>some ⟨[(1,.f (.v (.int .i64))),(4,.ptr [(.v (.agg 4))]),(5,.ptr [(.v (.int .i64)),(.own 0),(.own 0),(.own 2),(.v (.int .i64)),(.own 0),(.v .str),(.v .str),(.v (.int .i64)),(.v .u64),(.own 0),(.v .u64),(.v (.int .i64)),(.v (.int .i64)),(.v (.int .i64)),(.v .bool),(.v .bool),(.own 3)]),(6,.f (.v (.int .i64)))],[(.exit 0,[(1,.f (.v (.int .i64))),(4,.ptr [(.v (.agg 4))]),(5,.ptr [(.v (.int .i64)),(.own 0),(.own 0),(.own 2),(.v (.int .i64)),(.own 0),(.v .str),(.v .str),(.v (.int .i64)),(.v .u64),(.own 0),(.v .u64),(.v (.int .i64)),(.v (.int .i64)),(.v (.int .i64)),(.v .bool),(.v .bool),(.own 3)])])],Zbl_L0,[]⟩
  | _=>none,fun r=>match r with
  | 4=>some ([(1,.f (.v (.int .i64))),(4,.ptr [(.v (.agg 4))]),(5,.ptr [(.v (.int .i64)),(.own 0),(.own 0),(.own 2),(.v (.int .i64)),(.own 0),(.v .str),(.v .str),(.v (.int .i64)),(.v .u64),(.own 0),(.v .u64),(.v (.int .i64)),(.v (.int .i64)),(.v (.int .i64)),(.v .bool),(.v .bool),(.own 3)])],true)
  | _=>none,fun r=>match r with
  | 3=>true
  | 7=>true
  | 8=>true
  | 24=>true
  | 28=>true
  | _=>false⟩
theorem Vr3 (y0:Int) (y1:(ApiReply×Unit)) (y2:Ybq) (y3:Int):run E_Zbl A_Zbl (loopAt 0 (Tryz.f7.body.getD .skip)) (layC cd [(1,.f (.v (.int .i64))),(4,.ptr [(.v (.agg 4))]),(5,.ptr [(.v (.int .i64)),(.own 0),(.own 0),(.own 2),(.v (.int .i64)),(.own 0),(.v .str),(.v .str),(.v (.int .i64)),(.v .u64),(.own 0),(.v .u64),(.v (.int .i64)),(.v (.int .i64)),(.v (.int .i64)),(.v .bool),(.v .bool),(.own 3)]),(6,.f (.v (.int .i64)))] [] (y0,y1,y2,y3,())) (roundK cd [(1,.f (.v (.int .i64))),(4,.ptr [(.v (.agg 4))]),(5,.ptr [(.v (.int .i64)),(.own 0),(.own 0),(.own 2),(.v (.int .i64)),(.own 0),(.v .str),(.v .str),(.v (.int .i64)),(.v .u64),(.own 0),(.v .u64),(.v (.int .i64)),(.v (.int .i64)),(.v (.int .i64)),(.v .bool),(.v .bool),(.own 3)]),(6,.f (.v (.int .i64)))] [] [(.exit 0,[(1,.f (.v (.int .i64))),(4,.ptr [(.v (.agg 4))]),(5,.ptr [(.v (.int .i64)),(.own 0),(.own 0),(.own 2),(.v (.int .i64)),(.own 0),(.v .str),(.v .str),(.v (.int .i64)),(.v .u64),(.own 0),(.v .u64),(.v (.int .i64)),(.v (.int .i64)),(.v (.int .i64)),(.v .bool),(.v .bool),(.own 3)])])])=Zbl_L0b y0 y1 y2 y3:=by kernel_rfl
theorem Ve5a (x:tySs T S_Zbl.ps):run E_Zbl A_Zbl (Tryz.f7.body.getD .skip) (enterT E_Zbl.C S_Zbl.ps x) (retK E_Zbl Tryz.f7.results.toList S_Zbl.ps S_Zbl.rs)=S_Zbl.fn x:=by kernel_rfl
theorem Vr4:EnvOk Tryz.prog E_Zbl:=envOk (E:=E_Zbl) cd_ok tys fl_ok fun f ds S h=>by
  dsimp only [E_Zbl] at h
  split at h
  ·cases h; exact Vi4a
  ·cases h; exact Vi6a
  ·cases h; exact Vjia
  ·cases h; exact Ve4a
  ·cases h
theorem Vr5:LoopOk Tryz.prog E_Zbl Tryz.f7.ntmps (kqOf S_Zbl.ps 0) (loopAt 0 (Tryz.f7.body.getD .skip)) ⟨[(1,.f (.v (.int .i64))),(4,.ptr [(.v (.agg 4))]),(5,.ptr [(.v (.int .i64)),(.own 0),(.own 0),(.own 2),(.v (.int .i64)),(.own 0),(.v .str),(.v .str),(.v (.int .i64)),(.v .u64),(.own 0),(.v .u64),(.v (.int .i64)),(.v (.int .i64)),(.v (.int .i64)),(.v .bool),(.v .bool),(.own 3)]),(6,.f (.v (.int .i64)))],[(.exit 0,[(1,.f (.v (.int .i64))),(4,.ptr [(.v (.agg 4))]),(5,.ptr [(.v (.int .i64)),(.own 0),(.own 0),(.own 2),(.v (.int .i64)),(.own 0),(.v .str),(.v .str),(.v (.int .i64)),(.v .u64),(.own 0),(.v .u64),(.v (.int .i64)),(.v (.int .i64)),(.v (.int .i64)),(.v .bool),(.v .bool),(.own 3)])])],Zbl_L0,[]⟩:=
 Vaf (A:=A_Zbl) (done:=[]) (c0:=(Tryz.f7.body.getD .skip)) hmix Vr4 Vaa rounds (by kernel_rfl) (by kernel_rfl) (fun x=>Vr3 x.1 x.2.1 x.2.2.1 x.2.2.2.1) (fun _=>rfl)
theorem Ve6a:SoundT Tryz.prog cd gdn 7 S_Zbl:=
 Vab (E:=E_Zbl) (A:=A_Zbl) (done:=[0]) (c:=(Tryz.f7.body.getD .skip)) (S:=S_Zbl) (fn:=Tryz.f7) hmix Vr4 Tryz.func7 rfl (by kernel_rfl) (by kernel_rfl) (Vac rfl Vr5 Vaa) (by kernel_rfl) (by kernel_rfl) Ve5a
def Zae_L0b (y0:Int) (y1:Int) (y2:(ApiReply×Unit)) (y3:Int):Option ((Int×Int×(ApiReply×Unit)×Int×Unit)⊕((Bool×Unit)⊕(Int×Int×(ApiReply×Unit)×Unit))):=
 (bif (decide (y3<((y2.1.entries).length:Int))) then ((getI y2.1.entries y3).bind fun x9=>(bif (decide ((100:Int)<((x9.rP).length:Int))) then ((Zbk).bind fun r10=>(some (Sum.inr (Sum.inl (r10.2.1,())))))
 else ((getI y2.1.entries y3).bind fun x11=>(bif (decide ((100:Int)<((x11.user).length:Int))) then ((Zbk).bind fun r12=>(some (Sum.inr (Sum.inl (r12.2.1,())))))
 else ((getI y2.1.entries y3).bind fun x13=>(bif (decide ((100:Int)<((x13.name).length:Int))) then ((Zbk).bind fun r14=>(some (Sum.inr (Sum.inl (r14.2.1,())))))
 else ((getI y2.1.entries y3).bind fun x15=>(bif (decide ((300:Int)<((x15.iD).length:Int))) then ((Zbk).bind fun r16=>(some (Sum.inr (Sum.inl (r16.2.1,())))))
 else (some (Sum.inl (y0,y1,(y2.1,()),(IntKind.wrap .i64 (y3+(1:Int))),())))))))))))
 else (some (Sum.inr (Sum.inr (y0,y1,(y2.1,()),())))))
def Zae_L0 (y:(Int×Int×(ApiReply×Unit)×Int×Unit)):Option ((Bool×Unit)⊕(Int×Int×(ApiReply×Unit)×Unit)):=iter (fun (y:(Int×Int×(ApiReply×Unit)×Int×Unit))=>Zae_L0b y.1 y.2.1 y.2.2.1 y.2.2.2.1) rounds y
def Zae_L2b (y0:Int) (y1:Int) (y2:(ApiReply×Unit)) (y3:Int):Option ((Int×Int×(ApiReply×Unit)×Int×Unit)⊕((Bool×Unit)⊕(Int×Int×(ApiReply×Unit)×Unit))):=
 (bif (decide (y3<((y2.1.certificates).length:Int))) then ((getI y2.1.certificates y3).bind fun x19=>(bif (decide ((1200:Int)<((x19).length:Int))) then ((Zbk).bind fun r20=>(some (Sum.inr (Sum.inl (r20.2.1,())))))
 else (some (Sum.inl (y0,y1,(y2.1,()),(IntKind.wrap .i64 (y3+(1:Int))),())))))
 else (some (Sum.inr (Sum.inr (y0,y1,(y2.1,()),())))))
def Zae_L2 (y:(Int×Int×(ApiReply×Unit)×Int×Unit)):Option ((Bool×Unit)⊕(Int×Int×(ApiReply×Unit)×Unit)):=iter (fun (y:(Int×Int×(ApiReply×Unit)×Int×Unit))=>Zae_L2b y.1 y.2.1 y.2.2.1 y.2.2.2.1) rounds y
def Zae (a0:ApiReply) (a1:Int) (a2:Int):Option ((Unit)×(Bool×Unit)):=
 (bif (decide ((1200:Int)<((a0.authData).length:Int))) then ((Zbk).bind fun r1=>(some ((),(r1.2.1,()))))
 else (bif (decide ((1200:Int)<((a0.signature).length:Int))) then ((Zbk).bind fun r2=>(some ((),(r2.2.1,()))))
 else (bif (decide ((1200:Int)<((a0.box).length:Int))) then ((Zbk).bind fun r3=>(some ((),(r3.2.1,()))))
 else (bif (decide ((10:Int)<((a0.certificates).length:Int))) then ((Zbk).bind fun r4=>(some ((),(r4.2.1,()))))
 else (bif (decide ((12:Int)<((a0.entries).length:Int))) then ((Zbk).bind fun r5=>(some ((),(r5.2.1,()))))
 else (bif (decide ((300:Int)<((a0.iD).length:Int))) then ((Zbk).bind fun r6=>(some ((),(r6.2.1,()))))
 else (bif (decide ((100:Int)<((a0.user).length:Int))) then ((Zbk).bind fun r7=>(some ((),(r7.2.1,()))))
 else (bif (decide ((100:Int)<((a0.name).length:Int))) then ((Zbk).bind fun r8=>(some ((),(r8.2.1,()))))
 else ((Zae_L0 (a1,a2,(a0,()),(0:Int),())).bind (Sum.elim (fun (z17:(Bool×Unit))=>(some ((),(z17.1,())))) (fun (z18:(Int×Int×(ApiReply×Unit)×Unit))=>((Zae_L2 (z18.1,z18.2.1,(z18.2.2.1.1,()),(0:Int),())).bind (Sum.elim (fun (z21:(Bool×Unit))=>(some ((),(z21.1,())))) (fun (z22:(Int×Int×(ApiReply×Unit)×Unit))=>((Zat z22.2.2.1.1).bind fun r23=>(bif r23.2.1 then (let v24:Int:=(IntKind.wrap .i64 ((BitVec.ofInt (IntKind.bits .i64) z22.1 &&& BitVec.ofInt (IntKind.bits .i64) (16777215:Int)).toNat:Int))
 (let v25:Int:=(IntKind.wrap .i64 ((BitVec.ofInt (IntKind.bits .i64) z22.2.1 &&& BitVec.ofInt (IntKind.bits .i64) (1048575:Int)).toNat:Int))
 ((Zbl v24 v25).bind fun r26=>((Zat r26.2.1).bind fun r27=>(bif r27.2.1 then ((Zbk).bind fun r28=>(some ((),(r28.2.1,()))))
 else (some ((),(false,()))))))))
 else (some ((),(false,())))))))))))))))))))
def S_Zae:FSpec T:=⟨[.f (.v (.agg 4)),.f (.v (.int .i64)),.f (.v (.int .i64))],[(.v .bool)],fun x=>Zae x.1 x.2.1 x.2.2.1⟩
def E_Zae:Env T:=⟨tab.find,cd,globs,flc,fun f ds=>match f with
  | 5=>some S_Zbk
  | 6=>some S_Zat
  | 7=>some S_Zbl
  | _=>none,fun f=>match f with
  | 5=>true
  | 6=>true
  | _=>false⟩
def A_Zae:Loc2 T:=⟨fun id=>match id with
  | 0=>some ⟨[(1,.f (.v (.int .i64))),(2,.f (.v (.int .i64))),(3,.ptr [(.v (.agg 4))]),(7,.f (.v (.int .i64)))],[(.ret,[(6,.f (.v .bool))]),(.exit 0,[(1,.f (.v (.int .i64))),(2,.f (.v (.int .i64))),(3,.ptr [(.v (.agg 4))])])],Zae_L0,[]⟩
  | 2=>some ⟨[(1,.f (.v (.int .i64))),(2,.f (.v (.int .i64))),(3,.ptr [(.v (.agg 4))]),(8,.f (.v (.int .i64)))],[(.ret,[(6,.f (.v .bool))]),(.exit 2,[(1,.f (.v (.int .i64))),(2,.f (.v (.int .i64))),(3,.ptr [(.v (.agg 4))])])],Zae_L2,[]⟩
  | _=>none,fun r=>match r with
  | _=>none,fun r=>match r with
  | _=>false⟩
theorem Vr6 (y0:Int) (y1:Int) (y2:(ApiReply×Unit)) (y3:Int):run E_Zae A_Zae (loopAt 0 (Tryz.f3.body.getD .skip)) (layC cd [(1,.f (.v (.int .i64))),(2,.f (.v (.int .i64))),(3,.ptr [(.v (.agg 4))]),(7,.f (.v (.int .i64)))] [] (y0,y1,y2,y3,())) (roundK cd [(1,.f (.v (.int .i64))),(2,.f (.v (.int .i64))),(3,.ptr [(.v (.agg 4))]),(7,.f (.v (.int .i64)))] [] [(.ret,[(6,.f (.v .bool))]),(.exit 0,[(1,.f (.v (.int .i64))),(2,.f (.v (.int .i64))),(3,.ptr [(.v (.agg 4))])])])=Zae_L0b y0 y1 y2 y3:=by kernel_rfl
theorem Vr7 (y0:Int) (y1:Int) (y2:(ApiReply×Unit)) (y3:Int):run E_Zae A_Zae (loopAt 2 (Tryz.f3.body.getD .skip)) (layC cd [(1,.f (.v (.int .i64))),(2,.f (.v (.int .i64))),(3,.ptr [(.v (.agg 4))]),(8,.f (.v (.int .i64)))] [] (y0,y1,y2,y3,())) (roundK cd [(1,.f (.v (.int .i64))),(2,.f (.v (.int .i64))),(3,.ptr [(.v (.agg 4))]),(8,.f (.v (.int .i64)))] [] [(.ret,[(6,.f (.v .bool))]),(.exit 2,[(1,.f (.v (.int .i64))),(2,.f (.v (.int .i64))),(3,.ptr [(.v (.agg 4))])])])=Zae_L2b y0 y1 y2 y3:=by kernel_rfl
theorem Ve7a (x:tySs T S_Zae.ps):run E_Zae A_Zae (Tryz.f3.body.getD .skip) (enterT E_Zae.C S_Zae.ps x) (retK E_Zae Tryz.f3.results.toList S_Zae.ps S_Zae.rs)=S_Zae.fn x:=by kernel_rfl
theorem Vnl:EnvOk Tryz.prog E_Zae:=envOk (E:=E_Zae) cd_ok tys fl_ok fun f ds S h=>by
  dsimp only [E_Zae] at h
  split at h
  ·cases h; exact Vh5a
  ·cases h; exact Vi2a
  ·cases h; exact Ve6a
  ·cases h
theorem Vlz:LoopOk Tryz.prog E_Zae Tryz.f3.ntmps (kqOf S_Zae.ps 0) (loopAt 0 (Tryz.f3.body.getD .skip)) ⟨[(1,.f (.v (.int .i64))),(2,.f (.v (.int .i64))),(3,.ptr [(.v (.agg 4))]),(7,.f (.v (.int .i64)))],[(.ret,[(6,.f (.v .bool))]),(.exit 0,[(1,.f (.v (.int .i64))),(2,.f (.v (.int .i64))),(3,.ptr [(.v (.agg 4))])])],Zae_L0,[]⟩:=
 Vaf (A:=A_Zae) (done:=[]) (c0:=(Tryz.f3.body.getD .skip)) hmix Vnl Vaa rounds (by kernel_rfl) (by kernel_rfl) (fun x=>Vr6 x.1 x.2.1 x.2.2.1 x.2.2.2.1) (fun _=>rfl)
theorem Vr8:LoopOk Tryz.prog E_Zae Tryz.f3.ntmps (kqOf S_Zae.ps 0) (loopAt 2 (Tryz.f3.body.getD .skip)) ⟨[(1,.f (.v (.int .i64))),(2,.f (.v (.int .i64))),(3,.ptr [(.v (.agg 4))]),(8,.f (.v (.int .i64)))],[(.ret,[(6,.f (.v .bool))]),(.exit 2,[(1,.f (.v (.int .i64))),(2,.f (.v (.int .i64))),(3,.ptr [(.v (.agg 4))])])],Zae_L2,[]⟩:=
 Vaf (A:=A_Zae) (done:=[0]) (c0:=(Tryz.f3.body.getD .skip)) hmix Vnl (Vac rfl Vlz Vaa) rounds (by kernel_rfl) (by kernel_rfl) (fun x=>Vr7 x.1 x.2.1 x.2.2.1 x.2.2.2.1) (fun _=>rfl)
theorem Ve8a:SoundT Tryz.prog cd gdn 3 S_Zae:=
 Vab (E:=E_Zae) (A:=A_Zae) (done:=[0,2]) (c:=(Tryz.f3.body.getD .skip)) (S:=S_Zae) (fn:=Tryz.f3) hmix Vnl Tryz.func3 rfl (by kernel_rfl) (by kernel_rfl) (Vac rfl Vlz (Vac rfl Vr8 Vaa)) (by kernel_rfl) (by kernel_rfl) Ve7a
def MessageReplies_dom (a0:ApiReply) (a1:Int) (a2:Int):Prop:=ArgD cd [(.agg 4),(.int .i64),(.int .i64)] (a0,a1,a2,())
end Go.Proofs.YthoblablopmhfaaGreatDoor

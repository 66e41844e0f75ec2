/- The functions of the program, as plain functions, and that the program computes them. Written by a program. -/
import Derived.Test.YtghfcfjnfgmkgaaGreatDoorFns0
set_option linter.unusedVariables false
set_option maxRecDepth 100000
namespace Go.Proofs.YtghfcfjnfgmkgaaGreatDoor
open Go Go.Abs
def Zbr (a0:(BitVec 64)) (a1:(List UInt8)) (a2:(List (UInt8))):Option ((Unit) × (ApiCredential × Int × Unit)):=
 (bif (!decide (((a2).length:Int)=(176:Int))) then (some ((),((⟨([]:List UInt8),([]:List UInt8),([]:List UInt8),0#64,(0:Int),false,(0:Int),false,false⟩:ApiCredential),(4:Int),())))
 else ((Zbf a0).bind fun r1=>((Zcf a1).bind fun r2=>((Zei r1.2.1 r2.2.1 a2).bind fun r3=>(bif (!decide (r3.2.2.1=(0:Int))) then (some ((),((⟨([]:List UInt8),([]:List UInt8),([]:List UInt8),0#64,(0:Int),false,(0:Int),false,false⟩:ApiCredential),r3.2.2.1,())))
 else ((Zds r3.2.1).bind fun r4=>(bif (!decide (r4.2.2.2.1=(0:Int))) then (some ((),((⟨([]:List UInt8),([]:List UInt8),([]:List UInt8),0#64,(0:Int),false,(0:Int),false,false⟩:ApiCredential),(2:Int),())))
 else (bif (decide (r4.2.2.1 < (0:Int))) then (some ((),((⟨([]:List UInt8),([]:List UInt8),([]:List UInt8),0#64,(0:Int),false,(0:Int),false,false⟩:ApiCredential),(2:Int),())))
 else (bif (decide (((r3.2.1).length:Int) < r4.2.2.1)) then (some ((),((⟨([]:List UInt8),([]:List UInt8),([]:List UInt8),0#64,(0:Int),false,(0:Int),false,false⟩:ApiCredential),(2:Int),())))
 else (bif (decide ((0:Int) ≤ r4.2.2.1) && decide (r4.2.2.1 ≤ ((r3.2.1).length:Int))) then (bif decide ((r4.2.2.1).toNat ≤ (r3.2.1).length) then ((Zbp (List.take (r4.2.2.1).toNat r3.2.1)).bind fun r5=>(bif (!decide (r5.2.2.1=(0:Int))) then (some ((),((⟨([]:List UInt8),([]:List UInt8),([]:List UInt8),0#64,(0:Int),false,(0:Int),false,false⟩:ApiCredential),(2:Int),())))
 else (bif (!decide (((r3.2.1).length:Int)=(160:Int))) then (some ((),((⟨([]:List UInt8),([]:List UInt8),([]:List UInt8),0#64,(0:Int),false,(0:Int),false,false⟩:ApiCredential),(2:Int),())))
 else (bif (decide ((0:Int) ≤ r4.2.2.1) && decide (r4.2.2.1 ≤ ((r3.2.1).length:Int))) then (bif decide (((r3.2.1).length - (r4.2.2.1).toNat) + (r4.2.2.1).toNat ≤ (r3.2.1).length) then ((Zdz (List.take ((r3.2.1).length - (r4.2.2.1).toNat) (List.drop (r4.2.2.1).toNat r3.2.1)) ([0]:List UInt8)).bind fun r6=>(bif (decide ((0:Int) < ((r6.2.1).length:Int))) then (some ((),((⟨([]:List UInt8),([]:List UInt8),([]:List UInt8),0#64,(0:Int),false,(0:Int),false,false⟩:ApiCredential),(2:Int),())))
 else (bif r5.2.1.resident then (some ((),((⟨([]:List UInt8),([]:List UInt8),([]:List UInt8),0#64,(0:Int),false,(0:Int),false,false⟩:ApiCredential),(11:Int),())))
 else (bif (!decide (r5.2.1.rP=a1)) then (some ((),((⟨([]:List UInt8),([]:List UInt8),([]:List UInt8),0#64,(0:Int),false,(0:Int),false,false⟩:ApiCredential),(11:Int),())))
 else (some ((),(r5.2.1,(0:Int),())))))))
 else none)
 else none))))
 else none)
 else none))))))))))
def S_Zbr:FSpec T:=⟨[.f (.v .u64),.f (.v .str),.f (.v (.rs 0))],[(.v (.agg 2)),(.v (.int .i64))],fun x=>Zbr x.1 x.2.1 x.2.2.1⟩
def E_Zbr:Env T:=⟨tab.find,cd,globs,flc,fun f ds=>match f with
    | 16=>some S_Zbp
    | 51=>some S_Zds
    | 65=>some S_Zbf
    | 66=>some S_Zcf
    | 71=>some S_Zei
    | 72=>some S_Zdz
    | _=>none,fun f=>match f with
    | 16=>true
    | 65=>true
    | _=>false⟩
def A_Zbr:Loc2 T:=⟨fun id=>match id with
    | _=>none,fun r=>match r with
    | _=>none,fun r=>match r with
    | _=>false⟩
theorem Zbr_eq (x:tySs T S_Zbr.ps):run E_Zbr A_Zbr (Tryz.f34.body.getD .skip) (enterT E_Zbr.C S_Zbr.ps x) (retK E_Zbr Tryz.f34.results.toList S_Zbr.ps S_Zbr.rs)=S_Zbr.fn x:=by kernel_rfl
theorem Zbr_env:EnvOk Tryz.prog E_Zbr:=envOk (E:=E_Zbr) cd_ok tys fl_ok fun f ds S h=>by
    dsimp only [E_Zbr] at h
    split at h
    · cases h; exact Zbp_ok
    · cases h; exact Zds_ok
    · cases h; exact Zbf_ok
    · cases h; exact Zcf_ok
    · cases h; exact Zei_ok
    · cases h; exact Zdz_ok
    · cases h
theorem Zbr_ok:SoundT Tryz.prog cd gdn 34 S_Zbr:=
  sound_fn (E:=E_Zbr) (A:=A_Zbr) (done:=[]) (c:=(Tryz.f34.body.getD .skip)) (S:=S_Zbr) (fn:=Tryz.f34) hmix Zbr_env Tryz.func34 rfl (by kernel_rfl) (by kernel_rfl) done_nil (by kernel_rfl) (by kernel_rfl) Zbr_eq
def Zbg:Option ((Unit) × (Bool × Unit)):=
 ((Zdj (7#64) (8#64) (⟨([97,46,101,120,97,109,112,108,101]:List UInt8),([117]:List UInt8),([]:List UInt8),3#64,(1:Int),false,(1:Int),false,false⟩:ApiCredential)).bind fun r1=>((Zbr (7#64) ([97,46,101,120,97,109,112,108,101]:List UInt8) r1.2.1).bind fun r2=>((Zbr (7#64) ([98,46,101,120,97,109,112,108,101]:List UInt8) r1.2.1).bind fun r3=>(bif (decide (r1.2.2.1=(0:Int))) then (bif (decide (r2.2.2.1=(0:Int))) then (bif (decide (r3.2.2.1=(14:Int))) then (let v4:Bool:=(decide (r2.2.1.rP=([97,46,101,120,97,109,112,108,101]:List UInt8)) && (decide (r2.2.1.user=([117]:List UInt8)) && (decide (r2.2.1.name=([]:List UInt8)) && (decide (r2.2.1.seed=3#64) && (decide (r2.2.1.height=(1:Int)) && ((r2.2.1.resident == false) && (decide (r2.2.1.protect=(1:Int)) && ((r2.2.1.shared == false) && ((r2.2.1.backed == false) && true)))))))))
 (bif v4 then (bif (decide (((r1.2.1).length:Int)=(176:Int))) then ((Zav (⟨([]:List UInt8),([]:List UInt8),([]:List UInt8),0#64,(0:Int),false,(0:Int),false,false⟩:ApiCredential)).bind fun r5=>(some ((),((decide (r5.2.1=(9:Int))),()))))
 else (some ((),(false,()))))
 else (some ((),(false,())))))
 else (some ((),(false,()))))
 else (some ((),(false,()))))
 else (some ((),(false,())))))))
def S_Zbg:FSpec T:=⟨[],[(.v .bool)],fun x=>Zbg ⟩
def E_Zbg:Env T:=⟨tab.find,cd,globs,flc,fun f ds=>match f with
    | 14=>some S_Zav
    | 25=>some S_Zdj
    | 34=>some S_Zbr
    | _=>none,fun f=>match f with
    | 14=>true
    | 34=>true
    | _=>false⟩
def A_Zbg:Loc2 T:=⟨fun id=>match id with
    | _=>none,fun r=>match r with
    | _=>none,fun r=>match r with
    | _=>false⟩
theorem Zbg_eq (x:tySs T S_Zbg.ps):run E_Zbg A_Zbg (Tryz.f9.body.getD .skip) (enterT E_Zbg.C S_Zbg.ps x) (retK E_Zbg Tryz.f9.results.toList S_Zbg.ps S_Zbg.rs)=S_Zbg.fn x:=by kernel_rfl
theorem Zbg_env:EnvOk Tryz.prog E_Zbg:=envOk (E:=E_Zbg) cd_ok tys fl_ok fun f ds S h=>by
    dsimp only [E_Zbg] at h
    split at h
    · cases h; exact Zav_ok
    · cases h; exact Zdj_ok
    · cases h; exact Zbr_ok
    · cases h
theorem Zbg_ok:SoundT Tryz.prog cd gdn 9 S_Zbg:=
  sound_fn (E:=E_Zbg) (A:=A_Zbg) (done:=[]) (c:=(Tryz.f9.body.getD .skip)) (S:=S_Zbg) (fn:=Tryz.f9) hmix Zbg_env Tryz.func9 rfl (by kernel_rfl) (by kernel_rfl) done_nil (by kernel_rfl) (by kernel_rfl) Zbg_eq
def Zdg (a0:Int):Option ((Unit) × ((List UInt8) × Unit)):=
 (let v1:List (List UInt8):=([([97,46,101,120,97,109,112,108,101]:List UInt8),([98,46,101,120,97,109,112,108,101]:List UInt8),([115,104,111,112,46,116,101,115,116]:List UInt8)]:List (List UInt8))
 (let v2:Int:=(IntKind.wrap .i64 ((BitVec.ofInt (IntKind.bits .i64) a0 &&& BitVec.ofInt (IntKind.bits .i64) (65535:Int)).toNat:Int))
 (bif (decide ((0:Int) ≤ (Int.tmod v2 (3:Int))) && decide ((Int.tmod v2 (3:Int)) < (3:Int))) then (((v1)[((Int.tmod v2 (3:Int))).toNat]?).bind fun x3=>(some ((),(x3,()))))
 else none)))
def S_Zdg:FSpec T:=⟨[.f (.v (.int .i64))],[(.v .str)],fun x=>Zdg x.1⟩
def E_Zdg:Env T:=⟨tab.find,cd,globs,flc,fun f ds=>match f with
    | _=>none,fun f=>match f with
    | _=>false⟩
def A_Zdg:Loc2 T:=⟨fun id=>match id with
    | _=>none,fun r=>match r with
    | _=>none,fun r=>match r with
    | _=>false⟩
theorem Zdg_eq (x:tySs T S_Zdg.ps):run E_Zdg A_Zdg (Tryz.f24.body.getD .skip) (enterT E_Zdg.C S_Zdg.ps x) (retK E_Zdg Tryz.f24.results.toList S_Zdg.ps S_Zdg.rs)=S_Zdg.fn x:=by kernel_rfl
theorem Zdg_env:EnvOk Tryz.prog E_Zdg:=envOk (E:=E_Zdg) cd_ok tys fl_ok fun f ds S h=>by cases h
theorem Zdg_ok:SoundT Tryz.prog cd gdn 24 S_Zdg:=
  sound_fn (E:=E_Zdg) (A:=A_Zdg) (done:=[]) (c:=(Tryz.f24.body.getD .skip)) (S:=S_Zdg) (fn:=Tryz.f24) hmix Zdg_env Tryz.func24 rfl (by kernel_rfl) (by kernel_rfl) done_nil (by kernel_rfl) (by kernel_rfl) Zdg_eq
def Zci (a0:Int):Option ((Unit) × ((List UInt8) × Unit)):=
 (let v1:List (List UInt8):=([([117,49]:List UInt8),([117,50]:List UInt8),([0,255]:List UInt8)]:List (List UInt8))
 (let v2:Int:=(IntKind.wrap .i64 ((BitVec.ofInt (IntKind.bits .i64) a0 &&& BitVec.ofInt (IntKind.bits .i64) (65535:Int)).toNat:Int))
 (bif (decide ((0:Int) ≤ (Int.tmod v2 (3:Int))) && decide ((Int.tmod v2 (3:Int)) < (3:Int))) then (((v1)[((Int.tmod v2 (3:Int))).toNat]?).bind fun x3=>(some ((),(x3,()))))
 else none)))
def S_Zci:FSpec T:=⟨[.f (.v (.int .i64))],[(.v .str)],fun x=>Zci x.1⟩
def E_Zci:Env T:=⟨tab.find,cd,globs,flc,fun f ds=>match f with
    | _=>none,fun f=>match f with
    | _=>false⟩
def A_Zci:Loc2 T:=⟨fun id=>match id with
    | _=>none,fun r=>match r with
    | _=>none,fun r=>match r with
    | _=>false⟩
theorem Zci_eq (x:tySs T S_Zci.ps):run E_Zci A_Zci (Tryz.f35.body.getD .skip) (enterT E_Zci.C S_Zci.ps x) (retK E_Zci Tryz.f35.results.toList S_Zci.ps S_Zci.rs)=S_Zci.fn x:=by kernel_rfl
theorem Zci_env:EnvOk Tryz.prog E_Zci:=envOk (E:=E_Zci) cd_ok tys fl_ok fun f ds S h=>by cases h
theorem Zci_ok:SoundT Tryz.prog cd gdn 35 S_Zci:=
  sound_fn (E:=E_Zci) (A:=A_Zci) (done:=[]) (c:=(Tryz.f35.body.getD .skip)) (S:=S_Zci) (fn:=Tryz.f35) hmix Zci_env Tryz.func35 rfl (by kernel_rfl) (by kernel_rfl) done_nil (by kernel_rfl) (by kernel_rfl) Zci_eq
def Zch (a0:Int):Option ((Unit) × ((List UInt8) × Unit)):=
 (let v1:List (List UInt8):=([([]:List UInt8),([97]:List UInt8),([98]:List UInt8),([108,111,103,105,110]:List UInt8),([107,101,121]:List UInt8),([101,120,97,109,112,108,101,46,111,114,103]:List UInt8),([195,169]:List UInt8),([48,49,50,51,52,53,54,55,56,57,48,49,50,51,52,53]:List UInt8)]:List (List UInt8))
 (let v2:Int:=(IntKind.wrap .i64 ((BitVec.ofInt (IntKind.bits .i64) a0 &&& BitVec.ofInt (IntKind.bits .i64) (7:Int)).toNat:Int))
 (bif (decide ((0:Int) ≤ v2) && decide (v2 < (8:Int))) then (((v1)[(v2).toNat]?).bind fun x3=>(let v4:Int:=(IntKind.wrap .i64 ((BitVec.ofInt (IntKind.bits .i64) (Int.fdiv a0 (2 ^ (min 3 (IntKind.bits .i64)))) &&& BitVec.ofInt (IntKind.bits .i64) (7:Int)).toNat:Int))
 (bif (decide ((0:Int) ≤ v4) && decide (v4 < (8:Int))) then (((v1)[(v4).toNat]?).bind fun x5=>(bif Nat.ble ((x3).length + (x5).length) 9223372036854775807 then (some ((),((x3 ++ x5),())))
 else none))
 else none)))
 else none)))
def S_Zch:FSpec T:=⟨[.f (.v (.int .i64))],[(.v .str)],fun x=>Zch x.1⟩
def E_Zch:Env T:=⟨tab.find,cd,globs,flc,fun f ds=>match f with
    | _=>none,fun f=>match f with
    | _=>false⟩
def A_Zch:Loc2 T:=⟨fun id=>match id with
    | _=>none,fun r=>match r with
    | _=>none,fun r=>match r with
    | _=>false⟩
theorem Zch_eq (x:tySs T S_Zch.ps):run E_Zch A_Zch (Tryz.f36.body.getD .skip) (enterT E_Zch.C S_Zch.ps x) (retK E_Zch Tryz.f36.results.toList S_Zch.ps S_Zch.rs)=S_Zch.fn x:=by kernel_rfl
theorem Zch_env:EnvOk Tryz.prog E_Zch:=envOk (E:=E_Zch) cd_ok tys fl_ok fun f ds S h=>by cases h
theorem Zch_ok:SoundT Tryz.prog cd gdn 36 S_Zch:=
  sound_fn (E:=E_Zch) (A:=A_Zch) (done:=[]) (c:=(Tryz.f36.body.getD .skip)) (S:=S_Zch) (fn:=Tryz.f36) hmix Zch_env Tryz.func36 rfl (by kernel_rfl) (by kernel_rfl) done_nil (by kernel_rfl) (by kernel_rfl) Zch_eq
def Zan (a0:Int):Option ((Unit) × (ApiCredential × Unit)):=
 ((Zdg a0).bind fun r1=>((Zci (Int.fdiv a0 (2 ^ (min 2 (IntKind.bits .i64))))).bind fun r2=>((Zch (Int.fdiv a0 (2 ^ (min 4 (IntKind.bits .i64))))).bind fun r3=>(let v4:Int:=(IntKind.wrap .i64 ((BitVec.ofInt (IntKind.bits .i64) (Int.fdiv a0 (2 ^ (min 3 (IntKind.bits .i64)))) &&& BitVec.ofInt (IntKind.bits .i64) (1:Int)).toNat:Int))
 (let v5:Int:=(Int.tmod (Int.fdiv a0 (2 ^ (min 5 (IntKind.bits .i64)))) (3:Int))
 (let v6:Int:=(IntKind.wrap .i64 ((BitVec.ofInt (IntKind.bits .i64) (Int.fdiv a0 (2 ^ (min 7 (IntKind.bits .i64)))) &&& BitVec.ofInt (IntKind.bits .i64) (1:Int)).toNat:Int))
 (bif (decide (v6=(1:Int))) then (let v7:Int:=(IntKind.wrap .i64 ((BitVec.ofInt (IntKind.bits .i64) (Int.fdiv a0 (2 ^ (min 8 (IntKind.bits .i64)))) &&& BitVec.ofInt (IntKind.bits .i64) (1:Int)).toNat:Int))
 (bif (decide (v7=(1:Int))) then (let v8:Int:=(IntKind.wrap .i64 ((BitVec.ofInt (IntKind.bits .i64) (Int.fdiv a0 (2 ^ (min 9 (IntKind.bits .i64)))) &&& BitVec.ofInt (IntKind.bits .i64) (1:Int)).toNat:Int))
 (some ((),((⟨r1.2.1,r2.2.1,r3.2.1,((BitVec.ofInt 64 a0) * 11400714819323198485#64),(IntKind.wrap .i64 ((1:Int) + v4)),(decide (v6=(1:Int))),(IntKind.wrap .i64 ((1:Int) + v5)),(decide (v7=(1:Int))),(decide (v8=(1:Int)))⟩:ApiCredential),()))))
 else (some ((),((⟨r1.2.1,r2.2.1,r3.2.1,((BitVec.ofInt 64 a0) * 11400714819323198485#64),(IntKind.wrap .i64 ((1:Int) + v4)),(decide (v6=(1:Int))),(IntKind.wrap .i64 ((1:Int) + v5)),(decide (v7=(1:Int))),false⟩:ApiCredential),())))))
 else (some ((),((⟨r1.2.1,r2.2.1,r3.2.1,((BitVec.ofInt 64 a0) * 11400714819323198485#64),(IntKind.wrap .i64 ((1:Int) + v4)),(decide (v6=(1:Int))),(IntKind.wrap .i64 ((1:Int) + v5)),false,false⟩:ApiCredential),()))))))))))
def S_Zan:FSpec T:=⟨[.f (.v (.int .i64))],[(.v (.agg 2))],fun x=>Zan x.1⟩
def E_Zan:Env T:=⟨tab.find,cd,globs,flc,fun f ds=>match f with
    | 24=>some S_Zdg
    | 35=>some S_Zci
    | 36=>some S_Zch
    | _=>none,fun f=>match f with
    | 24=>true
    | 35=>true
    | 36=>true
    | _=>false⟩
def A_Zan:Loc2 T:=⟨fun id=>match id with
    | _=>none,fun r=>match r with
    | _=>none,fun r=>match r with
    | _=>false⟩
theorem Zan_eq (x:tySs T S_Zan.ps):run E_Zan A_Zan (Tryz.f11.body.getD .skip) (enterT E_Zan.C S_Zan.ps x) (retK E_Zan Tryz.f11.results.toList S_Zan.ps S_Zan.rs)=S_Zan.fn x:=by kernel_rfl
theorem Zan_env:EnvOk Tryz.prog E_Zan:=envOk (E:=E_Zan) cd_ok tys fl_ok fun f ds S h=>by
    dsimp only [E_Zan] at h
    split at h
    · cases h; exact Zdg_ok
    · cases h; exact Zci_ok
    · cases h; exact Zch_ok
    · cases h
theorem Zan_ok:SoundT Tryz.prog cd gdn 11 S_Zan:=
  sound_fn (E:=E_Zan) (A:=A_Zan) (done:=[]) (c:=(Tryz.f11.body.getD .skip)) (S:=S_Zan) (fn:=Tryz.f11) hmix Zan_env Tryz.func11 rfl (by kernel_rfl) (by kernel_rfl) done_nil (by kernel_rfl) (by kernel_rfl) Zan_eq
def Zbh (a0:ApiCredential) (a1:Int):Option ((Unit) × (ApiCredential × Unit)):=
 (let v1:Int:=(IntKind.wrap .i64 ((BitVec.ofInt (IntKind.bits .i64) (Int.fdiv a1 (2 ^ (min 4 (IntKind.bits .i64)))) &&& BitVec.ofInt (IntKind.bits .i64) (65535:Int)).toNat:Int))
 (let v2:Int:=(IntKind.wrap .i64 ((BitVec.ofInt (IntKind.bits .i64) a1 &&& BitVec.ofInt (IntKind.bits .i64) (15:Int)).toNat:Int))
 (bif (decide (v2=(0:Int))) then (let v3:List (UInt8):=(List.replicate 64 (0:UInt8))
 (let v4:List (UInt8):=(List.replicate 65 (0:UInt8))
 (let v5:List (List UInt8):=([([]:List UInt8),([255]:List UInt8),v3,v4]:List (List UInt8))
 (let v6:Int:=(IntKind.wrap .i64 ((BitVec.ofInt (IntKind.bits .i64) v1 &&& BitVec.ofInt (IntKind.bits .i64) (3:Int)).toNat:Int))
 (bif (decide ((0:Int) ≤ v6) && decide (v6 < (4:Int))) then (((v5)[(v6).toNat]?).bind fun x7=>(some ((),((⟨x7,a0.user,a0.name,a0.seed,a0.height,a0.resident,a0.protect,a0.shared,a0.backed⟩:ApiCredential),()))))
 else none)))))
 else (bif (decide (v2=(1:Int))) then (let v8:List (List UInt8):=([([]:List UInt8),([255,254]:List UInt8),([48,49,50,51,52,53,54,55,56,57,48,49,50,51,52,53]:List UInt8),([48,49,50,51,52,53,54,55,56,57,48,49,50,51,52,53,54]:List UInt8)]:List (List UInt8))
 (let v9:Int:=(IntKind.wrap .i64 ((BitVec.ofInt (IntKind.bits .i64) v1 &&& BitVec.ofInt (IntKind.bits .i64) (3:Int)).toNat:Int))
 (bif (decide ((0:Int) ≤ v9) && decide (v9 < (4:Int))) then (((v8)[(v9).toNat]?).bind fun x10=>(some ((),((⟨a0.rP,x10,a0.name,a0.seed,a0.height,a0.resident,a0.protect,a0.shared,a0.backed⟩:ApiCredential),()))))
 else none)))
 else (bif (decide (v2=(2:Int))) then (let v11:List (UInt8):=(List.replicate 32 (0:UInt8))
 (let v12:List (UInt8):=(List.replicate 33 (0:UInt8))
 (let v13:List (List UInt8):=([([]:List UInt8),([195]:List UInt8),v11,v12]:List (List UInt8))
 (let v14:Int:=(IntKind.wrap .i64 ((BitVec.ofInt (IntKind.bits .i64) v1 &&& BitVec.ofInt (IntKind.bits .i64) (3:Int)).toNat:Int))
 (bif (decide ((0:Int) ≤ v14) && decide (v14 < (4:Int))) then (((v13)[(v14).toNat]?).bind fun x15=>(some ((),((⟨a0.rP,a0.user,x15,a0.seed,a0.height,a0.resident,a0.protect,a0.shared,a0.backed⟩:ApiCredential),()))))
 else none)))))
 else (bif (decide (v2=(3:Int))) then (let v16:Int:=(IntKind.wrap .i64 ((BitVec.ofInt (IntKind.bits .i64) v1 &&& BitVec.ofInt (IntKind.bits .i64) (7:Int)).toNat:Int))
 (some ((),((⟨a0.rP,a0.user,a0.name,a0.seed,(IntKind.wrap .i64 (v16 - (1:Int))),a0.resident,a0.protect,a0.shared,a0.backed⟩:ApiCredential),()))))
 else (bif (decide (v2=(4:Int))) then (let v17:Int:=(IntKind.wrap .i64 ((BitVec.ofInt (IntKind.bits .i64) v1 &&& BitVec.ofInt (IntKind.bits .i64) (7:Int)).toNat:Int))
 (some ((),((⟨a0.rP,a0.user,a0.name,a0.seed,a0.height,a0.resident,(IntKind.wrap .i64 (v17 - (1:Int))),a0.shared,a0.backed⟩:ApiCredential),()))))
 else (bif (decide (v2=(5:Int))) then (some ((),((⟨a0.rP,a0.user,a0.name,a0.seed,a0.height,a0.resident,a0.protect,(!a0.shared),a0.backed⟩:ApiCredential),())))
 else (bif (decide (v2=(6:Int))) then (some ((),((⟨a0.rP,a0.user,a0.name,a0.seed,a0.height,a0.resident,a0.protect,a0.shared,(!a0.backed)⟩:ApiCredential),())))
 else (bif (decide (v2=(7:Int))) then (some ((),((⟨a0.rP,a0.user,a0.name,a0.seed,a0.height,(!a0.resident),a0.protect,a0.shared,a0.backed⟩:ApiCredential),())))
 else (some ((),(a0,())))))))))))))
def S_Zbh:FSpec T:=⟨[.f (.v (.agg 2)),.f (.v (.int .i64))],[(.v (.agg 2))],fun x=>Zbh x.1 x.2.1⟩
def E_Zbh:Env T:=⟨tab.find,cd,globs,flc,fun f ds=>match f with
    | _=>none,fun f=>match f with
    | _=>false⟩
def A_Zbh:Loc2 T:=⟨fun id=>match id with
    | _=>none,fun r=>match r with
    | _=>none,fun r=>match r with
    | 4=>true
    | 8=>true
    | _=>false⟩
theorem Zbh_eq (x:tySs T S_Zbh.ps):run E_Zbh A_Zbh (Tryz.f10.body.getD .skip) (enterT E_Zbh.C S_Zbh.ps x) (retK E_Zbh Tryz.f10.results.toList S_Zbh.ps S_Zbh.rs)=S_Zbh.fn x:=by kernel_rfl
theorem Zbh_env:EnvOk Tryz.prog E_Zbh:=envOk (E:=E_Zbh) cd_ok tys fl_ok fun f ds S h=>by cases h
theorem Zbh_ok:SoundT Tryz.prog cd gdn 10 S_Zbh:=
  sound_fn (E:=E_Zbh) (A:=A_Zbh) (done:=[]) (c:=(Tryz.f10.body.getD .skip)) (S:=S_Zbh) (fn:=Tryz.f10) hmix Zbh_env Tryz.func10 rfl (by kernel_rfl) (by kernel_rfl) done_nil (by kernel_rfl) (by kernel_rfl) Zbh_eq
def Zbb (a0:Int) (a1:Int) (a2:Int):Option ((Unit) × (Bool × Unit)):=
 (bif (decide (a1 ≤ a0)) then (some ((),((decide (a0 ≤ a2)),())))
 else (some ((),(false,()))))
def S_Zbb:FSpec T:=⟨[.f (.v (.int .i64)),.f (.v (.int .i64)),.f (.v (.int .i64))],[(.v .bool)],fun x=>Zbb x.1 x.2.1 x.2.2.1⟩
def E_Zbb:Env T:=⟨tab.find,cd,globs,flc,fun f ds=>match f with
    | _=>none,fun f=>match f with
    | _=>false⟩
def A_Zbb:Loc2 T:=⟨fun id=>match id with
    | _=>none,fun r=>match r with
    | _=>none,fun r=>match r with
    | _=>false⟩
theorem Zbb_eq (x:tySs T S_Zbb.ps):run E_Zbb A_Zbb (Tryz.f50.body.getD .skip) (enterT E_Zbb.C S_Zbb.ps x) (retK E_Zbb Tryz.f50.results.toList S_Zbb.ps S_Zbb.rs)=S_Zbb.fn x:=by kernel_rfl
theorem Zbb_env:EnvOk Tryz.prog E_Zbb:=envOk (E:=E_Zbb) cd_ok tys fl_ok fun f ds S h=>by cases h
theorem Zbb_ok:SoundT Tryz.prog cd gdn 50 S_Zbb:=
  sound_fn (E:=E_Zbb) (A:=A_Zbb) (done:=[]) (c:=(Tryz.f50.body.getD .skip)) (S:=S_Zbb) (fn:=Tryz.f50) hmix Zbb_env Tryz.func50 rfl (by kernel_rfl) (by kernel_rfl) done_nil (by kernel_rfl) (by kernel_rfl) Zbb_eq
def Zaa (a0:ApiCredential):Option ((Unit) × (Int × Unit)):=
 ((Zbb ((a0.rP).length:Int) (1:Int) (64:Int)).bind fun r1=>(bif (!r1.2.1) then (some ((),((9:Int),())))
 else ((Zbb ((a0.user).length:Int) (1:Int) (16:Int)).bind fun r2=>(bif (!r2.2.1) then (some ((),((9:Int),())))
 else (bif (decide ((32:Int) < ((a0.name).length:Int))) then (some ((),((9:Int),())))
 else ((Zbb a0.height (1:Int) (4:Int)).bind fun r3=>(bif (!r3.2.1) then (some ((),((9:Int),())))
 else ((Zbb a0.protect (1:Int) (3:Int)).bind fun r4=>(bif (!r4.2.1) then (some ((),((9:Int),())))
 else ((Zcr a0.rP).bind fun r5=>(bif (!r5.2.1) then (some ((),((6:Int),())))
 else ((Zcr a0.name).bind fun r6=>(bif (!r6.2.1) then (some ((),((6:Int),())))
 else (bif a0.shared then (bif (!a0.resident) then (some ((),((18:Int),())))
 else (bif a0.backed then (bif (!a0.shared) then (some ((),((18:Int),())))
 else (some ((),((0:Int),()))))
 else (some ((),((0:Int),())))))
 else (bif a0.backed then (bif (!a0.shared) then (some ((),((18:Int),())))
 else (some ((),((0:Int),()))))
 else (some ((),((0:Int),()))))))))))))))))))
def S_Zaa:FSpec T:=⟨[.f (.v (.agg 2))],[(.v (.int .i64))],fun x=>Zaa x.1⟩
def E_Zaa:Env T:=⟨tab.find,cd,globs,flc,fun f ds=>match f with
    | 49=>some S_Zcr
    | 50=>some S_Zbb
    | _=>none,fun f=>match f with
    | 49=>true
    | 50=>true
    | _=>false⟩
def A_Zaa:Loc2 T:=⟨fun id=>match id with
    | _=>none,fun r=>match r with
    | _=>none,fun r=>match r with
    | _=>false⟩
theorem Zaa_eq (x:tySs T S_Zaa.ps):run E_Zaa A_Zaa (Tryz.f15.body.getD .skip) (enterT E_Zaa.C S_Zaa.ps x) (retK E_Zaa Tryz.f15.results.toList S_Zaa.ps S_Zaa.rs)=S_Zaa.fn x:=by kernel_rfl
theorem Zaa_env:EnvOk Tryz.prog E_Zaa:=envOk (E:=E_Zaa) cd_ok tys fl_ok fun f ds S h=>by
    dsimp only [E_Zaa] at h
    split at h
    · cases h; exact Zcr_ok
    · cases h; exact Zbb_ok
    · cases h
theorem Zaa_ok:SoundT Tryz.prog cd gdn 15 S_Zaa:=
  sound_fn (E:=E_Zaa) (A:=A_Zaa) (done:=[]) (c:=(Tryz.f15.body.getD .skip)) (S:=S_Zaa) (fn:=Tryz.f15) hmix Zaa_env Tryz.func15 rfl (by kernel_rfl) (by kernel_rfl) done_nil (by kernel_rfl) (by kernel_rfl) Zaa_eq
def Zbv (a0:(List UInt8)):Option ((Unit) × (ApiItem × Unit)):=
 (some ((),((⟨(4:Int),0#64,a0⟩:ApiItem),())))
def S_Zbv:FSpec T:=⟨[.f (.v .str)],[(.v (.agg 1))],fun x=>Zbv x.1⟩
def E_Zbv:Env T:=⟨tab.find,cd,globs,flc,fun f ds=>match f with
    | _=>none,fun f=>match f with
    | _=>false⟩
def A_Zbv:Loc2 T:=⟨fun id=>match id with
    | _=>none,fun r=>match r with
    | _=>none,fun r=>match r with
    | _=>false⟩
theorem Zbv_eq (x:tySs T S_Zbv.ps):run E_Zbv A_Zbv (Tryz.f43.body.getD .skip) (enterT E_Zbv.C S_Zbv.ps x) (retK E_Zbv Tryz.f43.results.toList S_Zbv.ps S_Zbv.rs)=S_Zbv.fn x:=by kernel_rfl
theorem Zbv_env:EnvOk Tryz.prog E_Zbv:=envOk (E:=E_Zbv) cd_ok tys fl_ok fun f ds S h=>by cases h
theorem Zbv_ok:SoundT Tryz.prog cd gdn 43 S_Zbv:=
  sound_fn (E:=E_Zbv) (A:=A_Zbv) (done:=[]) (c:=(Tryz.f43.body.getD .skip)) (S:=S_Zbv) (fn:=Tryz.f43) hmix Zbv_env Tryz.func43 rfl (by kernel_rfl) (by kernel_rfl) done_nil (by kernel_rfl) (by kernel_rfl) Zbv_eq
def Zbt (a0:(List UInt8)):Option ((Unit) × (ApiItem × Unit)):=
 (some ((),((⟨(3:Int),0#64,a0⟩:ApiItem),())))
def S_Zbt:FSpec T:=⟨[.f (.v .str)],[(.v (.agg 1))],fun x=>Zbt x.1⟩
def E_Zbt:Env T:=⟨tab.find,cd,globs,flc,fun f ds=>match f with
    | _=>none,fun f=>match f with
    | _=>false⟩
def A_Zbt:Loc2 T:=⟨fun id=>match id with
    | _=>none,fun r=>match r with
    | _=>none,fun r=>match r with
    | _=>false⟩
theorem Zbt_eq (x:tySs T S_Zbt.ps):run E_Zbt A_Zbt (Tryz.f44.body.getD .skip) (enterT E_Zbt.C S_Zbt.ps x) (retK E_Zbt Tryz.f44.results.toList S_Zbt.ps S_Zbt.rs)=S_Zbt.fn x:=by kernel_rfl
theorem Zbt_env:EnvOk Tryz.prog E_Zbt:=envOk (E:=E_Zbt) cd_ok tys fl_ok fun f ds S h=>by cases h
theorem Zbt_ok:SoundT Tryz.prog cd gdn 44 S_Zbt:=
  sound_fn (E:=E_Zbt) (A:=A_Zbt) (done:=[]) (c:=(Tryz.f44.body.getD .skip)) (S:=S_Zbt) (fn:=Tryz.f44) hmix Zbt_env Tryz.func44 rfl (by kernel_rfl) (by kernel_rfl) done_nil (by kernel_rfl) (by kernel_rfl) Zbt_eq
def Zba (a0:(BitVec 64)):Option ((Unit) × (ApiItem × Unit)):=
 (some ((),((⟨(1:Int),a0,([]:List UInt8)⟩:ApiItem),())))
def S_Zba:FSpec T:=⟨[.f (.v .u64)],[(.v (.agg 1))],fun x=>Zba x.1⟩
def E_Zba:Env T:=⟨tab.find,cd,globs,flc,fun f ds=>match f with
    | _=>none,fun f=>match f with
    | _=>false⟩
def A_Zba:Loc2 T:=⟨fun id=>match id with
    | _=>none,fun r=>match r with
    | _=>none,fun r=>match r with
    | _=>false⟩
theorem Zba_eq (x:tySs T S_Zba.ps):run E_Zba A_Zba (Tryz.f45.body.getD .skip) (enterT E_Zba.C S_Zba.ps x) (retK E_Zba Tryz.f45.results.toList S_Zba.ps S_Zba.rs)=S_Zba.fn x:=by kernel_rfl
theorem Zba_env:EnvOk Tryz.prog E_Zba:=envOk (E:=E_Zba) cd_ok tys fl_ok fun f ds S h=>by cases h
theorem Zba_ok:SoundT Tryz.prog cd gdn 45 S_Zba:=
  sound_fn (E:=E_Zba) (A:=A_Zba) (done:=[]) (c:=(Tryz.f45.body.getD .skip)) (S:=S_Zba) (fn:=Tryz.f45) hmix Zba_env Tryz.func45 rfl (by kernel_rfl) (by kernel_rfl) done_nil (by kernel_rfl) (by kernel_rfl) Zba_eq
def Zar (a0:Bool):Option ((Unit) × (ApiItem × Unit)):=
 (bif a0 then (some ((),((⟨(7:Int),1#64,([]:List UInt8)⟩:ApiItem),())))
 else (some ((),((⟨(7:Int),0#64,([]:List UInt8)⟩:ApiItem),()))))
def S_Zar:FSpec T:=⟨[.f (.v .bool)],[(.v (.agg 1))],fun x=>Zar x.1⟩
def E_Zar:Env T:=⟨tab.find,cd,globs,flc,fun f ds=>match f with
    | _=>none,fun f=>match f with
    | _=>false⟩
def A_Zar:Loc2 T:=⟨fun id=>match id with
    | _=>none,fun r=>match r with
    | _=>none,fun r=>match r with
    | _=>false⟩
theorem Zar_eq (x:tySs T S_Zar.ps):run E_Zar A_Zar (Tryz.f46.body.getD .skip) (enterT E_Zar.C S_Zar.ps x) (retK E_Zar Tryz.f46.results.toList S_Zar.ps S_Zar.rs)=S_Zar.fn x:=by kernel_rfl
theorem Zar_env:EnvOk Tryz.prog E_Zar:=envOk (E:=E_Zar) cd_ok tys fl_ok fun f ds S h=>by cases h
theorem Zar_ok:SoundT Tryz.prog cd gdn 46 S_Zar:=
  sound_fn (E:=E_Zar) (A:=A_Zar) (done:=[]) (c:=(Tryz.f46.body.getD .skip)) (S:=S_Zar) (fn:=Tryz.f46) hmix Zar_env Tryz.func46 rfl (by kernel_rfl) (by kernel_rfl) done_nil (by kernel_rfl) (by kernel_rfl) Zar_eq
def Zbm (a0:Int) (a1:Int) (a2:Int):Option ((Unit) × (Bool × Unit)):=
 (bif (decide (a1 ≤ a0)) then (some ((),((decide (a0 ≤ a2)),())))
 else (some ((),(false,()))))
def S_Zbm:FSpec T:=⟨[.f (.v (.int .i64)),.f (.v (.int .i64)),.f (.v (.int .i64))],[(.v .bool)],fun x=>Zbm x.1 x.2.1 x.2.2.1⟩
def E_Zbm:Env T:=⟨tab.find,cd,globs,flc,fun f ds=>match f with
    | _=>none,fun f=>match f with
    | _=>false⟩
def A_Zbm:Loc2 T:=⟨fun id=>match id with
    | _=>none,fun r=>match r with
    | _=>none,fun r=>match r with
    | _=>false⟩
theorem Zbm_eq (x:tySs T S_Zbm.ps):run E_Zbm A_Zbm (Tryz.f168.body.getD .skip) (enterT E_Zbm.C S_Zbm.ps x) (retK E_Zbm Tryz.f168.results.toList S_Zbm.ps S_Zbm.rs)=S_Zbm.fn x:=by kernel_rfl
theorem Zbm_env:EnvOk Tryz.prog E_Zbm:=envOk (E:=E_Zbm) cd_ok tys fl_ok fun f ds S h=>by cases h
theorem Zbm_ok:SoundT Tryz.prog cd gdn 168 S_Zbm:=
  sound_fn (E:=E_Zbm) (A:=A_Zbm) (done:=[]) (c:=(Tryz.f168.body.getD .skip)) (S:=S_Zbm) (fn:=Tryz.f168) hmix Zbm_env Tryz.func168 rfl (by kernel_rfl) (by kernel_rfl) done_nil (by kernel_rfl) (by kernel_rfl) Zbm_eq
def Zby (a0:Int):Option ((Unit) × (Bool × Unit)):=
 (bif (decide (a0=(1:Int))) then (some ((),(true,())))
 else (bif (decide (a0=(2:Int))) then (some ((),(true,())))
 else (some ((),((decide (a0=(4:Int))),())))))
def S_Zby:FSpec T:=⟨[.f (.v (.int .i64))],[(.v .bool)],fun x=>Zby x.1⟩
def E_Zby:Env T:=⟨tab.find,cd,globs,flc,fun f ds=>match f with
    | _=>none,fun f=>match f with
    | _=>false⟩
def A_Zby:Loc2 T:=⟨fun id=>match id with
    | _=>none,fun r=>match r with
    | _=>none,fun r=>match r with
    | _=>false⟩
theorem Zby_eq (x:tySs T S_Zby.ps):run E_Zby A_Zby (Tryz.f169.body.getD .skip) (enterT E_Zby.C S_Zby.ps x) (retK E_Zby Tryz.f169.results.toList S_Zby.ps S_Zby.rs)=S_Zby.fn x:=by kernel_rfl
theorem Zby_env:EnvOk Tryz.prog E_Zby:=envOk (E:=E_Zby) cd_ok tys fl_ok fun f ds S h=>by cases h
theorem Zby_ok:SoundT Tryz.prog cd gdn 169 S_Zby:=
  sound_fn (E:=E_Zby) (A:=A_Zby) (done:=[]) (c:=(Tryz.f169.body.getD .skip)) (S:=S_Zby) (fn:=Tryz.f169) hmix Zby_env Tryz.func169 rfl (by kernel_rfl) (by kernel_rfl) done_nil (by kernel_rfl) (by kernel_rfl) Zby_eq
def passkeyref1_Words_L2b (y0:(List (BitVec 64))) (y1:(List (UInt8))) (y2:Int) (y3:Int):Option (((List (BitVec 64)) × (List (UInt8)) × Int × Int × Unit) ⊕ ((List (BitVec 64)) × (List (UInt8)) × Int × Unit)):=
 (bif (decide ((0:Int) ≤ y3)) then ((getI y0 y2).bind fun x1=>(let v2:BitVec 64:=(x1 >>> (BitVec.ofInt 64 (IntKind.wrap .i64 ((8:Int) * y3))).toNat)
 (bif small ((y1).length + (([(UInt8.ofBitVec (BitVec.setWidth 8 v2))]:List (UInt8)):List (UInt8)).length) 1 then (let v3:List (UInt8):=(y1 ++ ([(UInt8.ofBitVec (BitVec.setWidth 8 v2))]:List (UInt8)))
 (some (Sum.inl (y0,v3,y2,(IntKind.wrap .i64 (y3 - (1:Int))),()))))
 else none)))
 else (some (Sum.inr (y0,y1,y2,()))))
def passkeyref1_Words_L2 (y:((List (BitVec 64)) × (List (UInt8)) × Int × Int × Unit)):Option ((List (BitVec 64)) × (List (UInt8)) × Int × Unit):=iter (fun (y:((List (BitVec 64)) × (List (UInt8)) × Int × Int × Unit))=>passkeyref1_Words_L2b y.1 y.2.1 y.2.2.1 y.2.2.2.1) rounds y
def passkeyref1_Words_L0b (y0:(List (BitVec 64))) (y1:(List (UInt8))) (y2:Int):Option (((List (BitVec 64)) × (List (UInt8)) × Int × Unit) ⊕ ((List (UInt8)) × Unit)):=
 (bif (decide (y2 < ((y0).length:Int))) then ((passkeyref1_Words_L2 (y0,y1,y2,(7:Int),())).bind (fun (z1:((List (BitVec 64)) × (List (UInt8)) × Int × Unit))=>(some (Sum.inl (z1.1,z1.2.1,(IntKind.wrap .i64 (z1.2.2.1 + (1:Int))),())))))
 else (some (Sum.inr (y1,()))))
def passkeyref1_Words_L0 (y:((List (BitVec 64)) × (List (UInt8)) × Int × Unit)):Option ((List (UInt8)) × Unit):=iter (fun (y:((List (BitVec 64)) × (List (UInt8)) × Int × Unit))=>passkeyref1_Words_L0b y.1 y.2.1 y.2.2.1) rounds y
def passkeyref1_Words (a0:(List (BitVec 64))):Option ((Unit) × ((List (UInt8)) × Unit)):=
 ((passkeyref1_Words_L0 (a0,[],(0:Int),())).bind (fun (z2:((List (UInt8)) × Unit))=>(some ((),(z2.1,())))))
def S_passkeyref1_Words:FSpec T:=⟨[.f (.v (.rs 3))],[(.own 0)],fun x=>passkeyref1_Words x.1⟩
def E_passkeyref1_Words:Env T:=⟨tab.find,cd,globs,flc,fun f ds=>match f with
    | _=>none,fun f=>match f with
    | _=>false⟩
def A_passkeyref1_Words:Loc2 T:=⟨fun id=>match id with
    | 2=>some ⟨[(0,.f (.v (.rs 3))),(3,.f (.own 0)),(4,.f (.v (.int .i64))),(5,.f (.v (.int .i64)))],[(.exit 2,[(0,.f (.v (.rs 3))),(3,.f (.own 0)),(4,.f (.v (.int .i64)))])],passkeyref1_Words_L2,[]⟩
    | 0=>some ⟨[(0,.f (.v (.rs 3))),(3,.f (.own 0)),(4,.f (.v (.int .i64)))],[(.exit 0,[(3,.f (.own 0))])],passkeyref1_Words_L0,[]⟩
    | _=>none,fun r=>match r with
    | _=>none,fun r=>match r with
    | _=>false⟩
theorem passkeyref1_Words_L2_eq (y0:(List (BitVec 64))) (y1:(List (UInt8))) (y2:Int) (y3:Int):run E_passkeyref1_Words A_passkeyref1_Words (loopAt 2 (Tryz.f21.body.getD .skip)) (layC cd [(0,.f (.v (.rs 3))),(3,.f (.own 0)),(4,.f (.v (.int .i64))),(5,.f (.v (.int .i64)))] [] (y0,y1,y2,y3,())) (roundK cd [(0,.f (.v (.rs 3))),(3,.f (.own 0)),(4,.f (.v (.int .i64))),(5,.f (.v (.int .i64)))] [] [(.exit 2,[(0,.f (.v (.rs 3))),(3,.f (.own 0)),(4,.f (.v (.int .i64)))])])=passkeyref1_Words_L2b y0 y1 y2 y3:=by kernel_rfl
theorem passkeyref1_Words_L0_eq (y0:(List (BitVec 64))) (y1:(List (UInt8))) (y2:Int):run E_passkeyref1_Words A_passkeyref1_Words (loopAt 0 (Tryz.f21.body.getD .skip)) (layC cd [(0,.f (.v (.rs 3))),(3,.f (.own 0)),(4,.f (.v (.int .i64)))] [] (y0,y1,y2,())) (roundK cd [(0,.f (.v (.rs 3))),(3,.f (.own 0)),(4,.f (.v (.int .i64)))] [] [(.exit 0,[(3,.f (.own 0))])])=passkeyref1_Words_L0b y0 y1 y2:=by kernel_rfl
theorem passkeyref1_Words_eq (x:tySs T S_passkeyref1_Words.ps):run E_passkeyref1_Words A_passkeyref1_Words (Tryz.f21.body.getD .skip) (enterT E_passkeyref1_Words.C S_passkeyref1_Words.ps x) (retK E_passkeyref1_Words Tryz.f21.results.toList S_passkeyref1_Words.ps S_passkeyref1_Words.rs)=S_passkeyref1_Words.fn x:=by kernel_rfl
theorem passkeyref1_Words_env:EnvOk Tryz.prog E_passkeyref1_Words:=envOk (E:=E_passkeyref1_Words) cd_ok tys fl_ok fun f ds S h=>by cases h
theorem passkeyref1_Words_L2_ok:LoopOk Tryz.prog E_passkeyref1_Words Tryz.f21.ntmps (kqOf S_passkeyref1_Words.ps 0) (loopAt 2 (Tryz.f21.body.getD .skip)) ⟨[(0,.f (.v (.rs 3))),(3,.f (.own 0)),(4,.f (.v (.int .i64))),(5,.f (.v (.int .i64)))],[(.exit 2,[(0,.f (.v (.rs 3))),(3,.f (.own 0)),(4,.f (.v (.int .i64)))])],passkeyref1_Words_L2,[]⟩:=
  loop_ok (A:=A_passkeyref1_Words) (done:=[]) (c0:=(Tryz.f21.body.getD .skip)) hmix passkeyref1_Words_env done_nil rounds (by kernel_rfl) (by kernel_rfl) (fun x=>passkeyref1_Words_L2_eq x.1 x.2.1 x.2.2.1 x.2.2.2.1) (fun _=>rfl)
theorem passkeyref1_Words_L0_ok:LoopOk Tryz.prog E_passkeyref1_Words Tryz.f21.ntmps (kqOf S_passkeyref1_Words.ps 0) (loopAt 0 (Tryz.f21.body.getD .skip)) ⟨[(0,.f (.v (.rs 3))),(3,.f (.own 0)),(4,.f (.v (.int .i64)))],[(.exit 0,[(3,.f (.own 0))])],passkeyref1_Words_L0,[]⟩:=
  loop_ok (A:=A_passkeyref1_Words) (done:=[2]) (c0:=(Tryz.f21.body.getD .skip)) hmix passkeyref1_Words_env (done_cons rfl passkeyref1_Words_L2_ok done_nil) rounds (by kernel_rfl) (by kernel_rfl) (fun x=>passkeyref1_Words_L0_eq x.1 x.2.1 x.2.2.1) (fun _=>rfl)
theorem passkeyref1_Words_ok:SoundT Tryz.prog cd gdn 21 S_passkeyref1_Words:=
  sound_fn (E:=E_passkeyref1_Words) (A:=A_passkeyref1_Words) (done:=[2,0]) (c:=(Tryz.f21.body.getD .skip)) (S:=S_passkeyref1_Words) (fn:=Tryz.f21) hmix passkeyref1_Words_env Tryz.func21 rfl (by kernel_rfl) (by kernel_rfl) (done_cons rfl passkeyref1_Words_L2_ok (done_cons rfl passkeyref1_Words_L0_ok done_nil)) (by kernel_rfl) (by kernel_rfl) passkeyref1_Words_eq
def Zcl (a0:ApiItem):Option ((Unit) × ((List (UInt8)) × Unit)):=
 ((bif (decide (a0.kind=(7:Int))) then (let v1:UInt8:=(UInt8.ofBitVec ((244:UInt8).toBitVec + (UInt8.ofBitVec (BitVec.setWidth 8 a0.number)).toBitVec))
 (((some ((),(([v1]:List (UInt8)),())))).bind fun q=>some (Sum.inr q)))
 else (bif (decide (a0.kind=(8:Int))) then (((some ((),(([(246:UInt8)]:List (UInt8)),())))).bind fun q=>some (Sum.inr q))
 else (bif (decide (a0.kind=(2:Int))) then (some (Sum.inl (a0.number,(32:UInt8),())))
 else (bif (decide (a0.kind=(3:Int))) then (some (Sum.inl ((BitVec.ofInt 64 ((a0.data).length:Int)),(64:UInt8),())))
 else (bif (decide (a0.kind=(4:Int))) then (some (Sum.inl ((BitVec.ofInt 64 ((a0.data).length:Int)),(96:UInt8),())))
 else (bif (decide (a0.kind=(5:Int))) then (some (Sum.inl (a0.number,(128:UInt8),())))
 else (bif (decide (a0.kind=(6:Int))) then (some (Sum.inl (a0.number,(160:UInt8),())))
 else (some (Sum.inl (a0.number,(0:UInt8),())))))))))).bind (Sum.elim (fun (j2:((BitVec 64) × UInt8 × Unit))=>(bif (decide (j2.1.toNat < (24#64).toNat)) then (let v3:UInt8:=(UInt8.ofBitVec (j2.2.1.toBitVec + (UInt8.ofBitVec (BitVec.setWidth 8 j2.1)).toBitVec))
 (some ((),(([v3]:List (UInt8)),()))))
 else (bif (decide (j2.1.toNat < (256#64).toNat)) then (let v4:List (UInt8):=([(UInt8.ofBitVec (j2.2.1.toBitVec + (24:UInt8).toBitVec)),(UInt8.ofBitVec (BitVec.setWidth 8 j2.1))]:List (UInt8))
 (some ((),(v4,()))))
 else (bif (decide (j2.1.toNat < (65536#64).toNat)) then (let v5:List (UInt8):=([(UInt8.ofBitVec (j2.2.1.toBitVec + (25:UInt8).toBitVec)),(UInt8.ofBitVec (BitVec.setWidth 8 (j2.1 >>> 8))),(UInt8.ofBitVec (BitVec.setWidth 8 j2.1))]:List (UInt8))
 (some ((),(v5,()))))
 else (bif (decide (j2.1.toNat < (4294967296#64).toNat)) then (let v6:List (UInt8):=([(UInt8.ofBitVec (j2.2.1.toBitVec + (26:UInt8).toBitVec)),(UInt8.ofBitVec (BitVec.setWidth 8 (j2.1 >>> 24))),(UInt8.ofBitVec (BitVec.setWidth 8 (j2.1 >>> 16))),(UInt8.ofBitVec (BitVec.setWidth 8 (j2.1 >>> 8))),(UInt8.ofBitVec (BitVec.setWidth 8 j2.1))]:List (UInt8))
 (some ((),(v6,()))))
 else (let v7:List (UInt8):=([(UInt8.ofBitVec (j2.2.1.toBitVec + (27:UInt8).toBitVec))]:List (UInt8))
 ((passkeyref1_Words ([j2.1]:List (BitVec 64))).bind fun r8=>(bif small ((v7).length + (r8.2.1:List (UInt8)).length) 1 then (some ((),((v7 ++ r8.2.1),())))
 else none)))))))) some))
def S_Zcl:FSpec T:=⟨[.f (.v (.agg 1))],[(.own 0)],fun x=>Zcl x.1⟩
def E_Zcl:Env T:=⟨tab.find,cd,globs,flc,fun f ds=>match f with
    | 21=>some S_passkeyref1_Words
    | _=>none,fun f=>match f with
    | _=>false⟩
def A_Zcl:Loc2 T:=⟨fun id=>match id with
    | _=>none,fun r=>match r with
    | 18=>some ([(3,.f (.v .u64)),(4,.f (.v .u8))],false)
    | _=>none,fun r=>match r with
    | _=>false⟩
theorem Zcl_eq (x:tySs T S_Zcl.ps):run E_Zcl A_Zcl (Tryz.f113.body.getD .skip) (enterT E_Zcl.C S_Zcl.ps x) (retK E_Zcl Tryz.f113.results.toList S_Zcl.ps S_Zcl.rs)=S_Zcl.fn x:=by kernel_rfl
theorem Zcl_env:EnvOk Tryz.prog E_Zcl:=envOk (E:=E_Zcl) cd_ok tys fl_ok fun f ds S h=>by
    dsimp only [E_Zcl] at h
    split at h
    · cases h; exact passkeyref1_Words_ok
    · cases h
theorem Zcl_ok:SoundT Tryz.prog cd gdn 113 S_Zcl:=
  sound_fn (E:=E_Zcl) (A:=A_Zcl) (done:=[]) (c:=(Tryz.f113.body.getD .skip)) (S:=S_Zcl) (fn:=Tryz.f113) hmix Zcl_env Tryz.func113 rfl (by kernel_rfl) (by kernel_rfl) done_nil (by kernel_rfl) (by kernel_rfl) Zcl_eq
def Zbw (a0:ApiItem):Option ((Unit) × ((List UInt8) × Unit)):=
 ((Zcl a0).bind fun r1=>(bif Nat.ble ((r1.2.1).length + (a0.data).length) 9223372036854775807 then (some ((),((r1.2.1 ++ a0.data),())))
 else none))
def S_Zbw:FSpec T:=⟨[.f (.v (.agg 1))],[(.v .str)],fun x=>Zbw x.1⟩
def E_Zbw:Env T:=⟨tab.find,cd,globs,flc,fun f ds=>match f with
    | 113=>some S_Zcl
    | _=>none,fun f=>match f with
    | _=>false⟩
def A_Zbw:Loc2 T:=⟨fun id=>match id with
    | _=>none,fun r=>match r with
    | _=>none,fun r=>match r with
    | 1=>true
    | _=>false⟩
theorem Zbw_eq (x:tySs T S_Zbw.ps):run E_Zbw A_Zbw (Tryz.f81.body.getD .skip) (enterT E_Zbw.C S_Zbw.ps x) (retK E_Zbw Tryz.f81.results.toList S_Zbw.ps S_Zbw.rs)=S_Zbw.fn x:=by kernel_rfl
theorem Zbw_env:EnvOk Tryz.prog E_Zbw:=envOk (E:=E_Zbw) cd_ok tys fl_ok fun f ds S h=>by
    dsimp only [E_Zbw] at h
    split at h
    · cases h; exact Zcl_ok
    · cases h
theorem Zbw_ok:SoundT Tryz.prog cd gdn 81 S_Zbw:=
  sound_fn (E:=E_Zbw) (A:=A_Zbw) (done:=[]) (c:=(Tryz.f81.body.getD .skip)) (S:=S_Zbw) (fn:=Tryz.f81) hmix Zbw_env Tryz.func81 rfl (by kernel_rfl) (by kernel_rfl) done_nil (by kernel_rfl) (by kernel_rfl) Zbw_eq
def Zcn (a0:(List UInt8)) (a1:(List UInt8)):Option ((Unit) × (Bool × Unit)):=
 (bif (!decide (((a0).length:Int)=((a1).length:Int))) then (some ((),((decide (((a0).length:Int) < ((a1).length:Int))),())))
 else (some ((),((Op.bytesLess a0 a1),()))))
def S_Zcn:FSpec T:=⟨[.f (.v .str),.f (.v .str)],[(.v .bool)],fun x=>Zcn x.1 x.2.1⟩
def E_Zcn:Env T:=⟨tab.find,cd,globs,flc,fun f ds=>match f with
    | _=>none,fun f=>match f with
    | _=>false⟩
def A_Zcn:Loc2 T:=⟨fun id=>match id with
    | _=>none,fun r=>match r with
    | _=>none,fun r=>match r with
    | _=>false⟩
theorem Zcn_eq (x:tySs T S_Zcn.ps):run E_Zcn A_Zcn (Tryz.f170.body.getD .skip) (enterT E_Zcn.C S_Zcn.ps x) (retK E_Zcn Tryz.f170.results.toList S_Zcn.ps S_Zcn.rs)=S_Zcn.fn x:=by kernel_rfl
theorem Zcn_env:EnvOk Tryz.prog E_Zcn:=envOk (E:=E_Zcn) cd_ok tys fl_ok fun f ds S h=>by cases h
theorem Zcn_ok:SoundT Tryz.prog cd gdn 170 S_Zcn:=
  sound_fn (E:=E_Zcn) (A:=A_Zcn) (done:=[]) (c:=(Tryz.f170.body.getD .skip)) (S:=S_Zcn) (fn:=Tryz.f170) hmix Zcn_env Tryz.func170 rfl (by kernel_rfl) (by kernel_rfl) done_nil (by kernel_rfl) (by kernel_rfl) Zcn_eq
def Zbx (a0:ApiItem) (a1:Int) (a2:Int) (a3:Bool) (a4:(List UInt8)):Option ((Unit) × (Int × Unit)):=
 ((bif (decide (a0.kind=(3:Int))) then (some (a1,a2,a3,a4,(a0,()),true,()))
 else (some (a1,a2,a3,a4,(a0,()),(decide (a0.kind=(4:Int))),()))).bind (fun (j1:(Int × Int × Bool × (List UInt8) × (ApiItem × Unit) × Bool × Unit))=>((bif (decide (j1.2.2.2.2.1.1.kind=(5:Int))) then (some (j1.1,j1.2.1,j1.2.2.1,j1.2.2.2.1,(j1.2.2.2.2.1.1,()),j1.2.2.2.2.2.1,true,()))
 else (some (j1.1,j1.2.1,j1.2.2.1,j1.2.2.2.1,(j1.2.2.2.2.1.1,()),j1.2.2.2.2.2.1,(decide (j1.2.2.2.2.1.1.kind=(6:Int))),()))).bind (fun (j2:(Int × Int × Bool × (List UInt8) × (ApiItem × Unit) × Bool × Bool × Unit))=>(bif (decide ((512:Int) ≤ j2.1)) then (some ((),((8:Int),())))
 else (((Zbm j2.2.2.2.2.1.1.kind (1:Int) (8:Int)).bind fun r3=>(bif (!r3.2.1) then (some (j2.2.1,j2.2.2.1,j2.2.2.2.1,(j2.2.2.2.2.1.1,()),j2.2.2.2.2.2.1,j2.2.2.2.2.2.2.1,true,()))
 else (bif j2.2.2.1 then ((Zby j2.2.2.2.2.1.1.kind).bind fun r4=>(some (j2.2.1,j2.2.2.1,j2.2.2.2.1,(j2.2.2.2.2.1.1,()),j2.2.2.2.2.2.1,j2.2.2.2.2.2.2.1,(!r4.2.1),())))
 else (some (j2.2.1,j2.2.2.1,j2.2.2.2.1,(j2.2.2.2.2.1.1,()),j2.2.2.2.2.2.1,j2.2.2.2.2.2.2.1,false,()))))).bind (fun (j5:(Int × Bool × (List UInt8) × (ApiItem × Unit) × Bool × Bool × Bool × Unit))=>(bif j5.2.2.2.2.2.2.1 then (some ((),((3:Int),())))
 else (bif (decide ((8:Int) < j5.1)) then (some ((),((5:Int),())))
 else ((bif j5.2.2.2.2.1 then (bif (!decide (j5.2.2.2.1.1.number=0#64)) then (some (j5.2.1,j5.2.2.1,(j5.2.2.2.1.1,()),j5.2.2.2.2.2.1,true,()))
 else (bif (decide (j5.2.2.2.1.1.kind=(7:Int))) then (bif (decide ((1#64).toNat < j5.2.2.2.1.1.number.toNat)) then (some (j5.2.1,j5.2.2.1,(j5.2.2.2.1.1,()),j5.2.2.2.2.2.1,true,()))
 else (bif (!j5.2.2.2.2.1) then (some (j5.2.1,j5.2.2.1,(j5.2.2.2.1.1,()),j5.2.2.2.2.2.1,(!decide (j5.2.2.2.1.1.data=([]:List UInt8))),()))
 else (some (j5.2.1,j5.2.2.1,(j5.2.2.2.1.1,()),j5.2.2.2.2.2.1,false,()))))
 else (bif (!j5.2.2.2.2.1) then (some (j5.2.1,j5.2.2.1,(j5.2.2.2.1.1,()),j5.2.2.2.2.2.1,(!decide (j5.2.2.2.1.1.data=([]:List UInt8))),()))
 else (some (j5.2.1,j5.2.2.1,(j5.2.2.2.1.1,()),j5.2.2.2.2.2.1,false,())))))
 else (bif (decide (j5.2.2.2.1.1.kind=(8:Int))) then (bif (!decide (j5.2.2.2.1.1.number=0#64)) then (some (j5.2.1,j5.2.2.1,(j5.2.2.2.1.1,()),j5.2.2.2.2.2.1,true,()))
 else (bif (decide (j5.2.2.2.1.1.kind=(7:Int))) then (bif (decide ((1#64).toNat < j5.2.2.2.1.1.number.toNat)) then (some (j5.2.1,j5.2.2.1,(j5.2.2.2.1.1,()),j5.2.2.2.2.2.1,true,()))
 else (bif (!j5.2.2.2.2.1) then (some (j5.2.1,j5.2.2.1,(j5.2.2.2.1.1,()),j5.2.2.2.2.2.1,(!decide (j5.2.2.2.1.1.data=([]:List UInt8))),()))
 else (some (j5.2.1,j5.2.2.1,(j5.2.2.2.1.1,()),j5.2.2.2.2.2.1,false,()))))
 else (bif (!j5.2.2.2.2.1) then (some (j5.2.1,j5.2.2.1,(j5.2.2.2.1.1,()),j5.2.2.2.2.2.1,(!decide (j5.2.2.2.1.1.data=([]:List UInt8))),()))
 else (some (j5.2.1,j5.2.2.1,(j5.2.2.2.1.1,()),j5.2.2.2.2.2.1,false,())))))
 else (bif (decide (j5.2.2.2.1.1.kind=(7:Int))) then (bif (decide ((1#64).toNat < j5.2.2.2.1.1.number.toNat)) then (some (j5.2.1,j5.2.2.1,(j5.2.2.2.1.1,()),j5.2.2.2.2.2.1,true,()))
 else (bif (!j5.2.2.2.2.1) then (some (j5.2.1,j5.2.2.1,(j5.2.2.2.1.1,()),j5.2.2.2.2.2.1,(!decide (j5.2.2.2.1.1.data=([]:List UInt8))),()))
 else (some (j5.2.1,j5.2.2.1,(j5.2.2.2.1.1,()),j5.2.2.2.2.2.1,false,()))))
 else (bif (!j5.2.2.2.2.1) then (some (j5.2.1,j5.2.2.1,(j5.2.2.2.1.1,()),j5.2.2.2.2.2.1,(!decide (j5.2.2.2.1.1.data=([]:List UInt8))),()))
 else (some (j5.2.1,j5.2.2.1,(j5.2.2.2.1.1,()),j5.2.2.2.2.2.1,false,())))))).bind (fun (j6:(Bool × (List UInt8) × (ApiItem × Unit) × Bool × Bool × Unit))=>(bif j6.2.2.2.2.1 then (some ((),((4:Int),())))
 else ((bif (decide ((1024:Int) < ((j6.2.2.1.1.data).length:Int))) then (some (j6.1,j6.2.1,(j6.2.2.1.1,()),true,()))
 else (bif j6.2.2.2.1 then (some (j6.1,j6.2.1,(j6.2.2.1.1,()),(decide ((512#64).toNat < j6.2.2.1.1.number.toNat)),()))
 else (some (j6.1,j6.2.1,(j6.2.2.1.1,()),false,())))).bind (fun (j7:(Bool × (List UInt8) × (ApiItem × Unit) × Bool × Unit))=>(bif j7.2.2.2.1 then (some ((),((8:Int),())))
 else ((bif (decide (j7.2.2.1.1.kind=(4:Int))) then ((Zcr j7.2.2.1.1.data).bind fun r8=>(some (j7.1,j7.2.1,(j7.2.2.1.1,()),(!r8.2.1),())))
 else (some (j7.1,j7.2.1,(j7.2.2.1.1,()),false,()))).bind (fun (j9:(Bool × (List UInt8) × (ApiItem × Unit) × Bool × Unit))=>(bif j9.2.2.2.1 then (some ((),((6:Int),())))
 else ((bif j9.1 then (bif (!decide (j9.2.1=([]:List UInt8))) then ((Zbw j9.2.2.1.1).bind fun r10=>((Zcn j9.2.1 r10.2.1).bind fun r11=>(some ((!r11.2.1),()))))
 else (some (false,())))
 else (some (false,()))).bind (fun (j12:(Bool × Unit))=>(bif j12.1 then (some ((),((7:Int),())))
 else (some ((),((0:Int),()))))))))))))))))))))))))
def S_Zbx:FSpec T:=⟨[.f (.v (.agg 1)),.f (.v (.int .i64)),.f (.v (.int .i64)),.f (.v .bool),.f (.v .str)],[(.v (.int .i64))],fun x=>Zbx x.1 x.2.1 x.2.2.1 x.2.2.2.1 x.2.2.2.2.1⟩
def E_Zbx:Env T:=⟨tab.find,cd,globs,flc,fun f ds=>match f with
    | 49=>some S_Zcr
    | 81=>some S_Zbw
    | 168=>some S_Zbm
    | 169=>some S_Zby
    | 170=>some S_Zcn
    | _=>none,fun f=>match f with
    | 49=>true
    | 81=>true
    | 168=>true
    | 169=>true
    | 170=>true
    | _=>false⟩
def A_Zbx:Loc2 T:=⟨fun id=>match id with
    | _=>none,fun r=>match r with
    | 2=>some ([(1,.f (.v (.int .i64))),(2,.f (.v (.int .i64))),(3,.f (.v .bool)),(4,.f (.v .str)),(5,.ptr [(.v (.agg 1))]),(11,.f (.v .bool))],true)
    | 3=>some ([(1,.f (.v (.int .i64))),(2,.f (.v (.int .i64))),(3,.f (.v .bool)),(4,.f (.v .str)),(5,.ptr [(.v (.agg 1))]),(11,.f (.v .bool)),(12,.f (.v .bool))],true)
    | 6=>some ([(2,.f (.v (.int .i64))),(3,.f (.v .bool)),(4,.f (.v .str)),(5,.ptr [(.v (.agg 1))]),(11,.f (.v .bool)),(12,.f (.v .bool)),(32,.f (.v .bool))],true)
    | 10=>some ([(3,.f (.v .bool)),(4,.f (.v .str)),(5,.ptr [(.v (.agg 1))]),(12,.f (.v .bool)),(49,.f (.v .bool))],true)
    | 12=>some ([(3,.f (.v .bool)),(4,.f (.v .str)),(5,.ptr [(.v (.agg 1))]),(80,.f (.v .bool))],true)
    | 14=>some ([(3,.f (.v .bool)),(4,.f (.v .str)),(5,.ptr [(.v (.agg 1))]),(93,.f (.v .bool))],true)
    | 16=>some ([(103,.f (.v .bool))],true)
    | _=>none,fun r=>match r with
    | _=>false⟩
theorem Zbx_eq (x:tySs T S_Zbx.ps):run E_Zbx A_Zbx (Tryz.f147.body.getD .skip) (enterT E_Zbx.C S_Zbx.ps x) (retK E_Zbx Tryz.f147.results.toList S_Zbx.ps S_Zbx.rs)=S_Zbx.fn x:=by kernel_rfl
theorem Zbx_env:EnvOk Tryz.prog E_Zbx:=envOk (E:=E_Zbx) cd_ok tys fl_ok fun f ds S h=>by
    dsimp only [E_Zbx] at h
    split at h
    · cases h; exact Zcr_ok
    · cases h; exact Zbw_ok
    · cases h; exact Zbm_ok
    · cases h; exact Zby_ok
    · cases h; exact Zcn_ok
    · cases h
theorem Zbx_ok:SoundT Tryz.prog cd gdn 147 S_Zbx:=
  sound_fn (E:=E_Zbx) (A:=A_Zbx) (done:=[]) (c:=(Tryz.f147.body.getD .skip)) (S:=S_Zbx) (fn:=Tryz.f147) hmix Zbx_env Tryz.func147 rfl (by kernel_rfl) (by kernel_rfl) done_nil (by kernel_rfl) (by kernel_rfl) Zbx_eq
def passkeyref1_walk_L0b (k_rec:(List (ApiItem)) → Int → Int → Bool → (List UInt8) → Option ((Unit) × (Int × Int × Unit))) (y0:(List (ApiItem))) (y1:Int) (y2:(ApiItem × Unit)) (y3:Int) (y4:(List UInt8)) (y5:(BitVec 64)):Option (((List (ApiItem)) × Int × (ApiItem × Unit) × Int × (List UInt8) × (BitVec 64) × Unit) ⊕ ((Int × Int × Unit) ⊕ (Int × Unit))):=
 (bif (decide (y5.toNat < y2.1.number.toNat)) then (bif (decide (y2.1.kind=(5:Int))) then ((bif (decide (y2.1.kind=(6:Int))) then ((k_rec y0 y3 (IntKind.wrap .i64 (y1 + (1:Int))) true y4).bind fun r3=>(bif (!decide (r3.2.2.1=(0:Int))) then (((some (Sum.inr (Sum.inl (r3.2.1,r3.2.2.1,()))))).bind fun q=>some (Sum.inr q))
 else ((getI y0 y3).bind fun x4=>((Zbw x4).bind fun r5=>(some (Sum.inl (y0,y1,(y2.1,()),r3.2.1,r5.2.1,y5,())))))))
 else (some (Sum.inl (y0,y1,(y2.1,()),y3,y4,y5,())))).bind (Sum.elim (fun (j6:((List (ApiItem)) × Int × (ApiItem × Unit) × Int × (List UInt8) × (BitVec 64) × Unit))=>((k_rec j6.1 j6.2.2.2.1 (IntKind.wrap .i64 (j6.2.1 + (1:Int))) false ([]:List UInt8)).bind fun r7=>(bif (!decide (r7.2.2.1=(0:Int))) then (some (Sum.inr (Sum.inl (r7.2.1,r7.2.2.1,()))))
 else (some (Sum.inl (j6.1,j6.2.1,(j6.2.2.1.1,()),r7.2.1,j6.2.2.2.2.1,(j6.2.2.2.2.2.1 + 1#64),())))))) some))
 else (bif (decide (y2.1.kind=(6:Int))) then ((bif (decide (y2.1.kind=(6:Int))) then ((k_rec y0 y3 (IntKind.wrap .i64 (y1 + (1:Int))) true y4).bind fun r8=>(bif (!decide (r8.2.2.1=(0:Int))) then (((some (Sum.inr (Sum.inl (r8.2.1,r8.2.2.1,()))))).bind fun q=>some (Sum.inr q))
 else ((getI y0 y3).bind fun x9=>((Zbw x9).bind fun r10=>(some (Sum.inl (y0,y1,(y2.1,()),r8.2.1,r10.2.1,y5,())))))))
 else (some (Sum.inl (y0,y1,(y2.1,()),y3,y4,y5,())))).bind (Sum.elim (fun (j11:((List (ApiItem)) × Int × (ApiItem × Unit) × Int × (List UInt8) × (BitVec 64) × Unit))=>((k_rec j11.1 j11.2.2.2.1 (IntKind.wrap .i64 (j11.2.1 + (1:Int))) false ([]:List UInt8)).bind fun r12=>(bif (!decide (r12.2.2.1=(0:Int))) then (some (Sum.inr (Sum.inl (r12.2.1,r12.2.2.1,()))))
 else (some (Sum.inl (j11.1,j11.2.1,(j11.2.2.1.1,()),r12.2.1,j11.2.2.2.2.1,(j11.2.2.2.2.2.1 + 1#64),())))))) some))
 else (some (Sum.inr (Sum.inr (y3,()))))))
 else (some (Sum.inr (Sum.inr (y3,())))))
def passkeyref1_walk_L0 (k_rec:(List (ApiItem)) → Int → Int → Bool → (List UInt8) → Option ((Unit) × (Int × Int × Unit))) (y:((List (ApiItem)) × Int × (ApiItem × Unit) × Int × (List UInt8) × (BitVec 64) × Unit)):Option ((Int × Int × Unit) ⊕ (Int × Unit)):=iter (fun (y:((List (ApiItem)) × Int × (ApiItem × Unit) × Int × (List UInt8) × (BitVec 64) × Unit))=>passkeyref1_walk_L0b k_rec y.1 y.2.1 y.2.2.1 y.2.2.2.1 y.2.2.2.2.1 y.2.2.2.2.2.1) rounds y
def passkeyref1_walk_R (k_rec:(List (ApiItem)) → Int → Int → Bool → (List UInt8) → Option ((Unit) × (Int × Int × Unit))) (a0:(List (ApiItem))) (a1:Int) (a2:Int) (a3:Bool) (a4:(List UInt8)):Option ((Unit) × (Int × Int × Unit)):=
 (bif (decide (((a0).length:Int) ≤ a1)) then (some ((),(a1,(1:Int),())))
 else ((getI a0 a1).bind fun x1=>((Zbx x1 a1 a2 a3 a4).bind fun r2=>(bif (!decide (r2.2.1=(0:Int))) then (some ((),(a1,r2.2.1,())))
 else ((passkeyref1_walk_L0 k_rec (a0,a2,(x1,()),(IntKind.wrap .i64 (a1 + (1:Int))),([]:List UInt8),0#64,())).bind (Sum.elim (fun (z13:(Int × Int × Unit))=>(some ((),(z13.1,z13.2.1,())))) (fun (z14:(Int × Unit))=>(some ((),(z14.1,(0:Int),()))))))))))
abbrev ps_passkeyref1_walk:List Slot:=[.f (.v (.rs 1)),.f (.v (.int .i64)),.f (.v (.int .i64)),.f (.v .bool),.f (.v .str)]
abbrev rs_passkeyref1_walk:List Fld:=[(.v (.int .i64)),(.v (.int .i64))]
def E_passkeyref1_walk (k_rec:(List (ApiItem)) → Int → Int → Bool → (List UInt8) → Option ((Unit) × (Int × Int × Unit))):Env T:=⟨tab.find,cd,globs,flc,fun f ds=>match f with
    | 81=>some S_Zbw
    | 112=>some ⟨ps_passkeyref1_walk,rs_passkeyref1_walk,fun x=>k_rec x.1 x.2.1 x.2.2.1 x.2.2.2.1 x.2.2.2.2.1⟩
    | 147=>some S_Zbx
    | _=>none,fun f=>match f with
    | 81=>true
    | 112=>true
    | 147=>true
    | _=>false⟩
def A_passkeyref1_walk (k_rec:(List (ApiItem)) → Int → Int → Bool → (List UInt8) → Option ((Unit) × (Int × Int × Unit))):Loc2 T:=⟨fun id=>match id with
    | 0=>some ⟨[(0,.f (.v (.rs 1))),(2,.f (.v (.int .i64))),(12,.ptr [(.v (.agg 1))]),(14,.f (.v (.int .i64))),(15,.f (.v .str)),(16,.f (.v .u64))],[(.ret,[(10,.f (.v (.int .i64))),(11,.f (.v (.int .i64)))]),(.exit 0,[(14,.f (.v (.int .i64)))])],passkeyref1_walk_L0 k_rec,[]⟩
    | _=>none,fun r=>match r with
    | 19=>some ([(0,.f (.v (.rs 1))),(2,.f (.v (.int .i64))),(12,.ptr [(.v (.agg 1))]),(14,.f (.v (.int .i64))),(15,.f (.v .str)),(16,.f (.v .u64))],false)
    | _=>none,fun r=>match r with
    | _=>false⟩
theorem passkeyref1_walk_L0_eq (k_rec:(List (ApiItem)) → Int → Int → Bool → (List UInt8) → Option ((Unit) × (Int × Int × Unit))) (y0:(List (ApiItem))) (y1:Int) (y2:(ApiItem × Unit)) (y3:Int) (y4:(List UInt8)) (y5:(BitVec 64)):run (E_passkeyref1_walk k_rec) (A_passkeyref1_walk k_rec) (loopAt 0 (Tryz.f112.body.getD .skip)) (layC cd [(0,.f (.v (.rs 1))),(2,.f (.v (.int .i64))),(12,.ptr [(.v (.agg 1))]),(14,.f (.v (.int .i64))),(15,.f (.v .str)),(16,.f (.v .u64))] [] (y0,y1,y2,y3,y4,y5,())) (roundK cd [(0,.f (.v (.rs 1))),(2,.f (.v (.int .i64))),(12,.ptr [(.v (.agg 1))]),(14,.f (.v (.int .i64))),(15,.f (.v .str)),(16,.f (.v .u64))] [] [(.ret,[(10,.f (.v (.int .i64))),(11,.f (.v (.int .i64)))]),(.exit 0,[(14,.f (.v (.int .i64)))])])=passkeyref1_walk_L0b k_rec y0 y1 y2 y3 y4 y5:=by kernel_rfl
theorem passkeyref1_walk_eqR (k_rec:(List (ApiItem)) → Int → Int → Bool → (List UInt8) → Option ((Unit) × (Int × Int × Unit))) (x:tySs T ps_passkeyref1_walk):run (E_passkeyref1_walk k_rec) (A_passkeyref1_walk k_rec) (Tryz.f112.body.getD .skip) (enterT (E_passkeyref1_walk k_rec).C ps_passkeyref1_walk x) (retK (E_passkeyref1_walk k_rec) Tryz.f112.results.toList ps_passkeyref1_walk rs_passkeyref1_walk)=passkeyref1_walk_R k_rec x.1 x.2.1 x.2.2.1 x.2.2.2.1 x.2.2.2.2.1:=by kernel_rfl
def passkeyref1_walk_n:Nat → (List (ApiItem)) → Int → Int → Bool → (List UInt8) → Option ((Unit) × (Int × Int × Unit))
  | 0=>fun _ _ _ _ _=>none
  | n + 1=>passkeyref1_walk_R (passkeyref1_walk_n n)
def passkeyref1_walk (a0:(List (ApiItem))) (a1:Int) (a2:Int) (a3:Bool) (a4:(List UInt8)):=passkeyref1_walk_n 12 a0 a1 a2 a3 a4
def S_passkeyref1_walk:FSpec T:=⟨ps_passkeyref1_walk,rs_passkeyref1_walk,fun x=>passkeyref1_walk x.1 x.2.1 x.2.2.1 x.2.2.2.1 x.2.2.2.2.1⟩
theorem passkeyref1_walk_env (k_rec:(List (ApiItem)) → Int → Int → Bool → (List UInt8) → Option ((Unit) × (Int × Int × Unit))) (hk:SoundT Tryz.prog cd gdn 112 ⟨ps_passkeyref1_walk,rs_passkeyref1_walk,fun x=>k_rec x.1 x.2.1 x.2.2.1 x.2.2.2.1 x.2.2.2.2.1⟩):EnvOk Tryz.prog (E_passkeyref1_walk k_rec):=envOk (E:=(E_passkeyref1_walk k_rec)) cd_ok tys fl_ok fun f ds S h=>by
    dsimp only [E_passkeyref1_walk] at h
    split at h
    · cases h; exact Zbw_ok
    · cases h; exact hk
    · cases h; exact Zbx_ok
    · cases h
theorem passkeyref1_walk_L0_ok (k_rec:(List (ApiItem)) → Int → Int → Bool → (List UInt8) → Option ((Unit) × (Int × Int × Unit))) (hk:SoundT Tryz.prog cd gdn 112 ⟨ps_passkeyref1_walk,rs_passkeyref1_walk,fun x=>k_rec x.1 x.2.1 x.2.2.1 x.2.2.2.1 x.2.2.2.2.1⟩):LoopOk Tryz.prog (E_passkeyref1_walk k_rec) Tryz.f112.ntmps (kqOf ps_passkeyref1_walk 0) (loopAt 0 (Tryz.f112.body.getD .skip)) ⟨[(0,.f (.v (.rs 1))),(2,.f (.v (.int .i64))),(12,.ptr [(.v (.agg 1))]),(14,.f (.v (.int .i64))),(15,.f (.v .str)),(16,.f (.v .u64))],[(.ret,[(10,.f (.v (.int .i64))),(11,.f (.v (.int .i64)))]),(.exit 0,[(14,.f (.v (.int .i64)))])],passkeyref1_walk_L0 k_rec,[]⟩:=
  loop_ok (A:=(A_passkeyref1_walk k_rec)) (done:=[]) (c0:=(Tryz.f112.body.getD .skip)) hmix (passkeyref1_walk_env k_rec hk) done_nil rounds (by kernel_rfl) (by kernel_rfl) (fun x=>passkeyref1_walk_L0_eq k_rec x.1 x.2.1 x.2.2.1 x.2.2.2.1 x.2.2.2.2.1 x.2.2.2.2.2.1) (fun _=>rfl)
theorem passkeyref1_walk_okn:∀ n:Nat,SoundT Tryz.prog cd gdn 112 ⟨ps_passkeyref1_walk,rs_passkeyref1_walk,fun x=>passkeyref1_walk_n n x.1 x.2.1 x.2.2.1 x.2.2.2.1 x.2.2.2.2.1⟩
  | 0=>sound_none ⟨_,Tryz.func112,by kernel_rfl,by kernel_rfl⟩
  | n + 1=>sound_fn (E:=E_passkeyref1_walk (passkeyref1_walk_n n)) (A:=A_passkeyref1_walk (passkeyref1_walk_n n)) (done:=[0]) (c:=(Tryz.f112.body.getD .skip)) (S:=⟨ps_passkeyref1_walk,rs_passkeyref1_walk,fun x=>passkeyref1_walk_n (n + 1) x.1 x.2.1 x.2.2.1 x.2.2.2.1 x.2.2.2.2.1⟩) (fn:=Tryz.f112) hmix (passkeyref1_walk_env _ (passkeyref1_walk_okn n)) Tryz.func112 rfl (by kernel_rfl) (by kernel_rfl) (done_cons rfl (passkeyref1_walk_L0_ok _ (passkeyref1_walk_okn n)) done_nil) (by kernel_rfl) (by kernel_rfl) (passkeyref1_walk_eqR (passkeyref1_walk_n n))
theorem passkeyref1_walk_ok:SoundT Tryz.prog cd gdn 112 S_passkeyref1_walk:=passkeyref1_walk_okn 12
def Zat (a0:(List (ApiItem))):Option ((Unit) × (Int × Unit)):=
 ((passkeyref1_walk a0 (0:Int) (0:Int) false ([]:List UInt8)).bind fun r1=>(bif (!decide (r1.2.2.1=(0:Int))) then (some ((),(r1.2.2.1,())))
 else (bif (decide (r1.2.1 < ((a0).length:Int))) then (some ((),((2:Int),())))
 else (some ((),((0:Int),()))))))
def S_Zat:FSpec T:=⟨[.f (.v (.rs 1))],[(.v (.int .i64))],fun x=>Zat x.1⟩
def E_Zat:Env T:=⟨tab.find,cd,globs,flc,fun f ds=>match f with
    | 112=>some S_passkeyref1_walk
    | _=>none,fun f=>match f with
    | 112=>true
    | _=>false⟩
def A_Zat:Loc2 T:=⟨fun id=>match id with
    | _=>none,fun r=>match r with
    | _=>none,fun r=>match r with
    | _=>false⟩
theorem Zat_eq (x:tySs T S_Zat.ps):run E_Zat A_Zat (Tryz.f80.body.getD .skip) (enterT E_Zat.C S_Zat.ps x) (retK E_Zat Tryz.f80.results.toList S_Zat.ps S_Zat.rs)=S_Zat.fn x:=by kernel_rfl
theorem Zat_env:EnvOk Tryz.prog E_Zat:=envOk (E:=E_Zat) cd_ok tys fl_ok fun f ds S h=>by
    dsimp only [E_Zat] at h
    split at h
    · cases h; exact passkeyref1_walk_ok
    · cases h
theorem Zat_ok:SoundT Tryz.prog cd gdn 80 S_Zat:=
  sound_fn (E:=E_Zat) (A:=A_Zat) (done:=[]) (c:=(Tryz.f80.body.getD .skip)) (S:=S_Zat) (fn:=Tryz.f80) hmix Zat_env Tryz.func80 rfl (by kernel_rfl) (by kernel_rfl) done_nil (by kernel_rfl) (by kernel_rfl) Zat_eq
def Zbl_L0b (y0:(List (ApiItem))) (y1:(List (UInt8))) (y2:Int):Option (((List (ApiItem)) × (List (UInt8)) × Int × Unit) ⊕ ((List (UInt8)) × Unit)):=
 (bif (decide (y2 < ((y0).length:Int))) then ((getI y0 y2).bind fun x2=>((Zbw x2).bind fun r3=>(bif small ((y1).length + (r3.2.1:List (UInt8)).length) 1 then (some (Sum.inl (y0,(y1 ++ r3.2.1),(IntKind.wrap .i64 (y2 + (1:Int))),())))
 else none)))
 else (some (Sum.inr (y1,()))))
def Zbl_L0 (y:((List (ApiItem)) × (List (UInt8)) × Int × Unit)):Option ((List (UInt8)) × Unit):=iter (fun (y:((List (ApiItem)) × (List (UInt8)) × Int × Unit))=>Zbl_L0b y.1 y.2.1 y.2.2.1) rounds y
def Zbl (a0:(List (ApiItem))):Option ((Unit) × ((List (UInt8)) × Int × Unit)):=
 ((Zat a0).bind fun r1=>(bif (!decide (r1.2.1=(0:Int))) then (some ((),([],r1.2.1,())))
 else ((Zbl_L0 (a0,[],(0:Int),())).bind (fun (z4:((List (UInt8)) × Unit))=>(some ((),(z4.1,(0:Int),())))))))
def S_Zbl:FSpec T:=⟨[.f (.v (.rs 1))],[(.own 0),(.v (.int .i64))],fun x=>Zbl x.1⟩
def E_Zbl:Env T:=⟨tab.find,cd,globs,flc,fun f ds=>match f with
    | 80=>some S_Zat
    | 81=>some S_Zbw
    | _=>none,fun f=>match f with
    | 80=>true
    | 81=>true
    | _=>false⟩
def A_Zbl:Loc2 T:=⟨fun id=>match id with
    | 0=>some ⟨[(0,.f (.v (.rs 1))),(5,.f (.own 0)),(6,.f (.v (.int .i64)))],[(.exit 0,[(5,.f (.own 0))])],Zbl_L0,[]⟩
    | _=>none,fun r=>match r with
    | _=>none,fun r=>match r with
    | _=>false⟩
theorem Zbl_L0_eq (y0:(List (ApiItem))) (y1:(List (UInt8))) (y2:Int):run E_Zbl A_Zbl (loopAt 0 (Tryz.f47.body.getD .skip)) (layC cd [(0,.f (.v (.rs 1))),(5,.f (.own 0)),(6,.f (.v (.int .i64)))] [] (y0,y1,y2,())) (roundK cd [(0,.f (.v (.rs 1))),(5,.f (.own 0)),(6,.f (.v (.int .i64)))] [] [(.exit 0,[(5,.f (.own 0))])])=Zbl_L0b y0 y1 y2:=by kernel_rfl
theorem Zbl_eq (x:tySs T S_Zbl.ps):run E_Zbl A_Zbl (Tryz.f47.body.getD .skip) (enterT E_Zbl.C S_Zbl.ps x) (retK E_Zbl Tryz.f47.results.toList S_Zbl.ps S_Zbl.rs)=S_Zbl.fn x:=by kernel_rfl
theorem Zbl_env:EnvOk Tryz.prog E_Zbl:=envOk (E:=E_Zbl) cd_ok tys fl_ok fun f ds S h=>by
    dsimp only [E_Zbl] at h
    split at h
    · cases h; exact Zat_ok
    · cases h; exact Zbw_ok
    · cases h
theorem Zbl_L0_ok:LoopOk Tryz.prog E_Zbl Tryz.f47.ntmps (kqOf S_Zbl.ps 0) (loopAt 0 (Tryz.f47.body.getD .skip)) ⟨[(0,.f (.v (.rs 1))),(5,.f (.own 0)),(6,.f (.v (.int .i64)))],[(.exit 0,[(5,.f (.own 0))])],Zbl_L0,[]⟩:=
  loop_ok (A:=A_Zbl) (done:=[]) (c0:=(Tryz.f47.body.getD .skip)) hmix Zbl_env done_nil rounds (by kernel_rfl) (by kernel_rfl) (fun x=>Zbl_L0_eq x.1 x.2.1 x.2.2.1) (fun _=>rfl)
theorem Zbl_ok:SoundT Tryz.prog cd gdn 47 S_Zbl:=
  sound_fn (E:=E_Zbl) (A:=A_Zbl) (done:=[0]) (c:=(Tryz.f47.body.getD .skip)) (S:=S_Zbl) (fn:=Tryz.f47) hmix Zbl_env Tryz.func47 rfl (by kernel_rfl) (by kernel_rfl) (done_cons rfl Zbl_L0_ok done_nil) (by kernel_rfl) (by kernel_rfl) Zbl_eq
def Zaf_L0b (y0:(List (ApiItem))) (y1:(List (ApiItem))) (y2:Int):Option (((List (ApiItem)) × (List (ApiItem)) × Int × Unit) ⊕ ((List (ApiItem)) × Unit)):=
 (bif (decide (y2 < ((y0).length:Int))) then ((Zba (BitVec.ofInt 64 (IntKind.wrap .i64 (y2 + (1:Int))))).bind fun r13=>(bif (decide ((0:Int) ≤ y2) && decide (y2 < ((y0).length:Int))) then (((y0)[(y2).toNat]?).bind fun x14=>(bif small ((y1).length + (([r13.2.1,x14]:List (ApiItem)):List (ApiItem)).length) 32 then (let v15:List (ApiItem):=(y1 ++ ([r13.2.1,x14]:List (ApiItem)))
 (some (Sum.inl (y0,v15,(IntKind.wrap .i64 (y2 + (1:Int))),()))))
 else none))
 else none))
 else (some (Sum.inr (y1,()))))
def Zaf_L0 (y:((List (ApiItem)) × (List (ApiItem)) × Int × Unit)):Option ((List (ApiItem)) × Unit):=iter (fun (y:((List (ApiItem)) × (List (ApiItem)) × Int × Unit))=>Zaf_L0b y.1 y.2.1 y.2.2.1) rounds y
def Zaf (a0:ApiCredential):Option ((Unit) × ((List (UInt8)) × Int × Unit)):=
 ((Zaa a0).bind fun r1=>(bif (!decide (r1.2.1=(0:Int))) then (some ((),([],r1.2.1,())))
 else ((Zbv a0.rP).bind fun r2=>((Zbt a0.user).bind fun r3=>((Zbv a0.name).bind fun r4=>((Zba a0.seed).bind fun r5=>((Zba (BitVec.ofInt 64 a0.height)).bind fun r6=>((Zar a0.resident).bind fun r7=>((Zba (BitVec.ofInt 64 a0.protect)).bind fun r8=>((Zar a0.shared).bind fun r9=>((Zar a0.backed).bind fun r10=>(let v11:List (ApiItem):=([r2.2.1,r3.2.1,r4.2.1,r5.2.1,r6.2.1,r7.2.1,r8.2.1,r9.2.1,r10.2.1]:List (ApiItem))
 (let v12:List (ApiItem):=([(⟨(6:Int),9#64,([]:List UInt8)⟩:ApiItem)]:List (ApiItem))
 ((Zaf_L0 (v11,v12,(0:Int),())).bind (fun (z16:((List (ApiItem)) × Unit))=>((Zbl z16.1).bind fun r17=>(some ((),(r17.2.1,r17.2.2.1,())))))))))))))))))))
def S_Zaf:FSpec T:=⟨[.f (.v (.agg 2))],[(.own 0),(.v (.int .i64))],fun x=>Zaf x.1⟩
def E_Zaf:Env T:=⟨tab.find,cd,globs,flc,fun f ds=>match f with
    | 15=>some S_Zaa
    | 43=>some S_Zbv
    | 44=>some S_Zbt
    | 45=>some S_Zba
    | 46=>some S_Zar
    | 47=>some S_Zbl
    | _=>none,fun f=>match f with
    | 15=>true
    | 43=>true
    | 44=>true
    | 45=>true
    | 46=>true
    | _=>false⟩
def A_Zaf:Loc2 T:=⟨fun id=>match id with
    | 0=>some ⟨[(5,.f (.own 1)),(6,.f (.own 1)),(7,.f (.v (.int .i64)))],[(.exit 0,[(6,.f (.own 1))])],Zaf_L0,[]⟩
    | _=>none,fun r=>match r with
    | _=>none,fun r=>match r with
    | _=>false⟩
theorem Zaf_L0_eq (y0:(List (ApiItem))) (y1:(List (ApiItem))) (y2:Int):run E_Zaf A_Zaf (loopAt 0 (Tryz.f13.body.getD .skip)) (layC cd [(5,.f (.own 1)),(6,.f (.own 1)),(7,.f (.v (.int .i64)))] [] (y0,y1,y2,())) (roundK cd [(5,.f (.own 1)),(6,.f (.own 1)),(7,.f (.v (.int .i64)))] [] [(.exit 0,[(6,.f (.own 1))])])=Zaf_L0b y0 y1 y2:=by kernel_rfl
theorem Zaf_eq (x:tySs T S_Zaf.ps):run E_Zaf A_Zaf (Tryz.f13.body.getD .skip) (enterT E_Zaf.C S_Zaf.ps x) (retK E_Zaf Tryz.f13.results.toList S_Zaf.ps S_Zaf.rs)=S_Zaf.fn x:=by kernel_rfl
theorem Zaf_env:EnvOk Tryz.prog E_Zaf:=envOk (E:=E_Zaf) cd_ok tys fl_ok fun f ds S h=>by
    dsimp only [E_Zaf] at h
    split at h
    · cases h; exact Zaa_ok
    · cases h; exact Zbv_ok
    · cases h; exact Zbt_ok
    · cases h; exact Zba_ok
    · cases h; exact Zar_ok
    · cases h; exact Zbl_ok
    · cases h
theorem Zaf_L0_ok:LoopOk Tryz.prog E_Zaf Tryz.f13.ntmps (kqOf S_Zaf.ps 0) (loopAt 0 (Tryz.f13.body.getD .skip)) ⟨[(5,.f (.own 1)),(6,.f (.own 1)),(7,.f (.v (.int .i64)))],[(.exit 0,[(6,.f (.own 1))])],Zaf_L0,[]⟩:=
  loop_ok (A:=A_Zaf) (done:=[]) (c0:=(Tryz.f13.body.getD .skip)) hmix Zaf_env done_nil rounds (by kernel_rfl) (by kernel_rfl) (fun x=>Zaf_L0_eq x.1 x.2.1 x.2.2.1) (fun _=>rfl)
theorem Zaf_ok:SoundT Tryz.prog cd gdn 13 S_Zaf:=
  sound_fn (E:=E_Zaf) (A:=A_Zaf) (done:=[0]) (c:=(Tryz.f13.body.getD .skip)) (S:=S_Zaf) (fn:=Tryz.f13) hmix Zaf_env Tryz.func13 rfl (by kernel_rfl) (by kernel_rfl) (done_cons rfl Zaf_L0_ok done_nil) (by kernel_rfl) (by kernel_rfl) Zaf_eq
def Zai_L1b (y0:((List UInt8) × Int × (List (ApiItem)) × Unit)) (y1:(ApiItem × Unit)) (y2:Int) (y3:Int) (y4:(BitVec 64)) (y5:Int):Option ((((List UInt8) × Int × (List (ApiItem)) × Unit) × (ApiItem × Unit) × Int × Int × (BitVec 64) × Int × Unit) ⊕ (((List UInt8) × Int × (List (ApiItem)) × Unit) × (ApiItem × Unit) × Int × Int × (BitVec 64) × Unit)):=
 (bif (decide (y5 < y3)) then (let v12:Int:=(IntKind.wrap .i64 ((IntKind.wrap .i64 (y0.2.1 + (1:Int))) + y5))
 ((getI y0.1 v12).bind fun x13=>(some (Sum.inl ((y0.1,y0.2.1,y0.2.2.1,()),(y1.1,()),y2,y3,((y4 <<< 8) ||| (BitVec.setWidth 64 x13.toBitVec)),(IntKind.wrap .i64 (y5 + (1:Int))),())))))
 else (some (Sum.inr ((y0.1,y0.2.1,y0.2.2.1,()),(y1.1,()),y2,y3,y4,()))))
def Zai_L1 (y:(((List UInt8) × Int × (List (ApiItem)) × Unit) × (ApiItem × Unit) × Int × Int × (BitVec 64) × Int × Unit)):Option (((List UInt8) × Int × (List (ApiItem)) × Unit) × (ApiItem × Unit) × Int × Int × (BitVec 64) × Unit):=iter (fun (y:(((List UInt8) × Int × (List (ApiItem)) × Unit) × (ApiItem × Unit) × Int × Int × (BitVec 64) × Int × Unit))=>Zai_L1b y.1 y.2.1 y.2.2.1 y.2.2.2.1 y.2.2.2.2.1 y.2.2.2.2.2.1) rounds y
def Zai (a0:((List UInt8) × Int × (List (ApiItem)) × Unit)):Option ((((List UInt8) × Int × (List (ApiItem)) × Unit) × Unit) × (ApiItem × Int × Unit)):=
 (bif (decide (((a0.1).length:Int) ≤ a0.2.1)) then (some (((a0.1,a0.2.1,a0.2.2.1,()),()),((⟨(0:Int),0#64,([]:List UInt8)⟩:ApiItem),(1:Int),())))
 else ((getI a0.1 a0.2.1).bind fun x1=>((bif (decide (x1.toBitVec=(244:UInt8).toBitVec)) then (bif (decide (x1.toBitVec=(244:UInt8).toBitVec)) then (let v2:BitVec 64:=(BitVec.setWidth 64 (UInt8.ofBitVec (x1.toBitVec - (244:UInt8).toBitVec)).toBitVec)
 (((some (((a0.1,(IntKind.wrap .i64 (a0.2.1 + (1:Int))),a0.2.2.1,()),()),((⟨(7:Int),v2,([]:List UInt8)⟩:ApiItem),(0:Int),())))).bind fun q=>some (Sum.inr q)))
 else (bif (decide (x1.toBitVec=(246:UInt8).toBitVec)) then (((some (((a0.1,(IntKind.wrap .i64 (a0.2.1 + (1:Int))),a0.2.2.1,()),()),((⟨(8:Int),0#64,([]:List UInt8)⟩:ApiItem),(0:Int),())))).bind fun q=>some (Sum.inr q))
 else (some (Sum.inl ((a0.1,a0.2.1,a0.2.2.1,()),((⟨(0:Int),0#64,([]:List UInt8)⟩:ApiItem),()),x1,())))))
 else (bif (decide (x1.toBitVec=(245:UInt8).toBitVec)) then (let v3:BitVec 64:=(BitVec.setWidth 64 (UInt8.ofBitVec (x1.toBitVec - (244:UInt8).toBitVec)).toBitVec)
 (((some (((a0.1,(IntKind.wrap .i64 (a0.2.1 + (1:Int))),a0.2.2.1,()),()),((⟨(7:Int),v3,([]:List UInt8)⟩:ApiItem),(0:Int),())))).bind fun q=>some (Sum.inr q)))
 else (bif (decide (x1.toBitVec=(246:UInt8).toBitVec)) then (((some (((a0.1,(IntKind.wrap .i64 (a0.2.1 + (1:Int))),a0.2.2.1,()),()),((⟨(8:Int),0#64,([]:List UInt8)⟩:ApiItem),(0:Int),())))).bind fun q=>some (Sum.inr q))
 else (some (Sum.inl ((a0.1,a0.2.1,a0.2.2.1,()),((⟨(0:Int),0#64,([]:List UInt8)⟩:ApiItem),()),x1,())))))).bind (Sum.elim (fun (j4:(((List UInt8) × Int × (List (ApiItem)) × Unit) × (ApiItem × Unit) × UInt8 × Unit))=>(let v5:Int:=((UInt8.ofBitVec (j4.2.2.1.toBitVec >>> 5)).toBitVec.toNat:Int)
 (let v6:UInt8:=(UInt8.ofBitVec (j4.2.2.1.toBitVec &&& (31:UInt8).toBitVec))
 (bif (decide ((5:Int) < v5)) then (some (((j4.1.1,j4.1.2.1,j4.1.2.2.1,()),()),((⟨(0:Int),0#64,([]:List UInt8)⟩:ApiItem),(2:Int),())))
 else (bif (decide ((27:Int) < (v6.toBitVec.toNat:Int))) then (some (((j4.1.1,j4.1.2.1,j4.1.2.2.1,()),()),((⟨(0:Int),0#64,([]:List UInt8)⟩:ApiItem),(2:Int),())))
 else ((bif (decide ((24:Int) ≤ (v6.toBitVec.toNat:Int))) then (let v7:BitVec 64:=(BitVec.ofInt 64 (IntKind.wrap .i64 ((v6.toBitVec.toNat:Int) - (24:Int))))
 (let v8:Int:=(IntKind.wrap .i64 ((1:Int) * 2 ^ (min v7.toNat (IntKind.bits .i64))))
 (some ((j4.1.1,j4.1.2.1,j4.1.2.2.1,()),(j4.2.1.1,()),v5,(v6.toBitVec.toNat:Int),v8,()))))
 else (some ((j4.1.1,j4.1.2.1,j4.1.2.2.1,()),(j4.2.1.1,()),v5,(v6.toBitVec.toNat:Int),(0:Int),()))).bind (fun (j9:(((List UInt8) × Int × (List (ApiItem)) × Unit) × (ApiItem × Unit) × Int × Int × Int × Unit))=>(let v10:Int:=(IntKind.wrap .i64 ((IntKind.wrap .i64 (((j9.1.1).length:Int) - j9.1.2.1)) - (1:Int)))
 (bif (decide (v10 < j9.2.2.2.2.1)) then (some (((j9.1.1,j9.1.2.1,j9.1.2.2.1,()),()),((⟨(0:Int),0#64,([]:List UInt8)⟩:ApiItem),(1:Int),())))
 else ((bif (decide ((0:Int) < j9.2.2.2.2.1)) then (some ((j9.1.1,j9.1.2.1,j9.1.2.2.1,()),(j9.2.1.1,()),j9.2.2.1,j9.2.2.2.2.1,0#64,()))
 else (some ((j9.1.1,j9.1.2.1,j9.1.2.2.1,()),(j9.2.1.1,()),j9.2.2.1,j9.2.2.2.2.1,(BitVec.ofInt 64 j9.2.2.2.1),()))).bind (fun (j11:(((List UInt8) × Int × (List (ApiItem)) × Unit) × (ApiItem × Unit) × Int × Int × (BitVec 64) × Unit))=>((Zai_L1 ((j11.1.1,j11.1.2.1,j11.1.2.2.1,()),(j11.2.1.1,()),j11.2.2.1,j11.2.2.2.1,j11.2.2.2.2.1,(0:Int),())).bind (fun (z14:(((List UInt8) × Int × (List (ApiItem)) × Unit) × (ApiItem × Unit) × Int × Int × (BitVec 64) × Unit))=>(let v15:List (BitVec 64):=([0#64,24#64,256#64,0#64,65536#64,0#64,0#64,0#64,4294967296#64]:List (BitVec 64))
 (bif (decide ((0:Int) ≤ z14.2.2.2.1) && decide (z14.2.2.2.1 < (9:Int))) then (((v15)[(z14.2.2.2.1).toNat]?).bind fun x16=>(bif (decide (z14.2.2.2.2.1.toNat < x16.toNat)) then (some (((z14.1.1,z14.1.2.1,z14.1.2.2.1,()),()),((⟨(0:Int),0#64,([]:List UInt8)⟩:ApiItem),(2:Int),())))
 else (let v17:Int:=(IntKind.wrap .i64 (z14.1.2.1 + (IntKind.wrap .i64 ((1:Int) + z14.2.2.2.1))))
 (let v18:List (Int):=([(1:Int),(2:Int),(3:Int),(4:Int),(5:Int),(6:Int)]:List (Int))
 (bif (decide ((0:Int) ≤ z14.2.2.1) && decide (z14.2.2.1 < (6:Int))) then (((v18)[(z14.2.2.1).toNat]?).bind fun x19=>(some (((z14.1.1,v17,z14.1.2.2.1,()),()),((⟨x19,z14.2.2.2.2.1,([]:List UInt8)⟩:ApiItem),(0:Int),()))))
 else none)))))
 else none))))))))))))))) some))))
def S_Zai:FSpec T:=⟨[.ptr [(.v .str),(.v (.int .i64)),(.own 1)]],[(.v (.agg 1)),(.v (.int .i64))],fun x=>Zai x.1⟩
def E_Zai:Env T:=⟨tab.find,cd,globs,flc,fun f ds=>match f with
    | _=>none,fun f=>match f with
    | _=>false⟩
def A_Zai:Loc2 T:=⟨fun id=>match id with
    | 1=>some ⟨[(0,.ptr [(.v .str),(.v (.int .i64)),(.own 1)]),(2,.ptr [(.v (.agg 1))]),(5,.f (.v (.int .i64))),(7,.f (.v (.int .i64))),(8,.f (.v .u64)),(9,.f (.v (.int .i64)))],[(.exit 1,[(0,.ptr [(.v .str),(.v (.int .i64)),(.own 1)]),(2,.ptr [(.v (.agg 1))]),(5,.f (.v (.int .i64))),(7,.f (.v (.int .i64))),(8,.f (.v .u64))])],Zai_L1,[]⟩
    | _=>none,fun r=>match r with
    | 12=>some ([(0,.ptr [(.v .str),(.v (.int .i64)),(.own 1)]),(2,.ptr [(.v (.agg 1))]),(4,.f (.v .u8))],false)
    | 18=>some ([(0,.ptr [(.v .str),(.v (.int .i64)),(.own 1)]),(2,.ptr [(.v (.agg 1))]),(5,.f (.v (.int .i64))),(6,.f (.v (.int .i64))),(7,.f (.v (.int .i64)))],true)
    | 23=>some ([(0,.ptr [(.v .str),(.v (.int .i64)),(.own 1)]),(2,.ptr [(.v (.agg 1))]),(5,.f (.v (.int .i64))),(7,.f (.v (.int .i64))),(8,.f (.v .u64))],true)
    | _=>none,fun r=>match r with
    | _=>false⟩
theorem Zai_L1_eq (y0:((List UInt8) × Int × (List (ApiItem)) × Unit)) (y1:(ApiItem × Unit)) (y2:Int) (y3:Int) (y4:(BitVec 64)) (y5:Int):run E_Zai A_Zai (loopAt 1 (Tryz.f172.body.getD .skip)) (layC cd [(0,.ptr [(.v .str),(.v (.int .i64)),(.own 1)]),(2,.ptr [(.v (.agg 1))]),(5,.f (.v (.int .i64))),(7,.f (.v (.int .i64))),(8,.f (.v .u64)),(9,.f (.v (.int .i64)))] [] (y0,y1,y2,y3,y4,y5,())) (roundK cd [(0,.ptr [(.v .str),(.v (.int .i64)),(.own 1)]),(2,.ptr [(.v (.agg 1))]),(5,.f (.v (.int .i64))),(7,.f (.v (.int .i64))),(8,.f (.v .u64)),(9,.f (.v (.int .i64)))] [] [(.exit 1,[(0,.ptr [(.v .str),(.v (.int .i64)),(.own 1)]),(2,.ptr [(.v (.agg 1))]),(5,.f (.v (.int .i64))),(7,.f (.v (.int .i64))),(8,.f (.v .u64))])])=Zai_L1b y0 y1 y2 y3 y4 y5:=by kernel_rfl
theorem Zai_eq (x:tySs T S_Zai.ps):run E_Zai A_Zai (Tryz.f172.body.getD .skip) (enterT E_Zai.C S_Zai.ps x) (retK E_Zai Tryz.f172.results.toList S_Zai.ps S_Zai.rs)=S_Zai.fn x:=by kernel_rfl
theorem Zai_env:EnvOk Tryz.prog E_Zai:=envOk (E:=E_Zai) cd_ok tys fl_ok fun f ds S h=>by cases h
theorem Zai_L1_ok:LoopOk Tryz.prog E_Zai Tryz.f172.ntmps (kqOf S_Zai.ps 0) (loopAt 1 (Tryz.f172.body.getD .skip)) ⟨[(0,.ptr [(.v .str),(.v (.int .i64)),(.own 1)]),(2,.ptr [(.v (.agg 1))]),(5,.f (.v (.int .i64))),(7,.f (.v (.int .i64))),(8,.f (.v .u64)),(9,.f (.v (.int .i64)))],[(.exit 1,[(0,.ptr [(.v .str),(.v (.int .i64)),(.own 1)]),(2,.ptr [(.v (.agg 1))]),(5,.f (.v (.int .i64))),(7,.f (.v (.int .i64))),(8,.f (.v .u64))])],Zai_L1,[]⟩:=
  loop_ok (A:=A_Zai) (done:=[]) (c0:=(Tryz.f172.body.getD .skip)) hmix Zai_env done_nil rounds (by kernel_rfl) (by kernel_rfl) (fun x=>Zai_L1_eq x.1 x.2.1 x.2.2.1 x.2.2.2.1 x.2.2.2.2.1 x.2.2.2.2.2.1) (fun _=>rfl)
theorem Zai_ok:SoundT Tryz.prog cd gdn 172 S_Zai:=
  sound_fn (E:=E_Zai) (A:=A_Zai) (done:=[1]) (c:=(Tryz.f172.body.getD .skip)) (S:=S_Zai) (fn:=Tryz.f172) hmix Zai_env Tryz.func172 rfl (by kernel_rfl) (by kernel_rfl) (done_cons rfl Zai_L1_ok done_nil) (by kernel_rfl) (by kernel_rfl) Zai_eq
def Zaj_L1b (k_rec:((List UInt8) × Int × (List (ApiItem)) × Unit) → Int → Bool → (List UInt8) → Option ((((List UInt8) × Int × (List (ApiItem)) × Unit) × Unit) × (Int × Unit))) (y0:((List UInt8) × Int × (List (ApiItem)) × Unit)) (y1:Int) (y2:(ApiItem × Unit)) (y3:(BitVec 64)) (y4:Bool) (y5:(List UInt8)) (y6:(BitVec 64)):Option ((((List UInt8) × Int × (List (ApiItem)) × Unit) × Int × (ApiItem × Unit) × (BitVec 64) × Bool × (List UInt8) × (BitVec 64) × Unit) ⊕ ((((List UInt8) × Int × (List (ApiItem)) × Unit) × Int × Unit) ⊕ (((List UInt8) × Int × (List (ApiItem)) × Unit) × Unit))):=
 (bif y4 then (bif (decide (y6.toNat < y3.toNat)) then (bif (decide (y2.1.kind=(6:Int))) then ((k_rec (y0.1,y0.2.1,y0.2.2.1,()) (IntKind.wrap .i64 (y1 + (1:Int))) true y5).bind fun r18=>(bif (!decide (r18.2.1=(0:Int))) then (some (Sum.inr (Sum.inl ((r18.1.1.1,r18.1.1.2.1,r18.1.1.2.2.1,()),r18.2.1,()))))
 else (bif (decide ((0:Int) ≤ ((y0.2.2.1).length:Int)) && decide (((y0.2.2.1).length:Int) < ((r18.1.1.2.2.1).length:Int))) then (((r18.1.1.2.2.1)[(((y0.2.2.1).length:Int)).toNat]?).bind fun x19=>((Zbw x19).bind fun r20=>((k_rec (r18.1.1.1,r18.1.1.2.1,r18.1.1.2.2.1,()) (IntKind.wrap .i64 (y1 + (1:Int))) false ([]:List UInt8)).bind fun r21=>(bif (!decide (r21.2.1=(0:Int))) then (some (Sum.inr (Sum.inl ((r21.1.1.1,r21.1.1.2.1,r21.1.1.2.2.1,()),r21.2.1,()))))
 else (some (Sum.inl ((r21.1.1.1,r21.1.1.2.1,r21.1.1.2.2.1,()),y1,(y2.1,()),y3,y4,r20.2.1,(y6 + 1#64),())))))))
 else none)))
 else ((k_rec (y0.1,y0.2.1,y0.2.2.1,()) (IntKind.wrap .i64 (y1 + (1:Int))) false ([]:List UInt8)).bind fun r22=>(bif (!decide (r22.2.1=(0:Int))) then (some (Sum.inr (Sum.inl ((r22.1.1.1,r22.1.1.2.1,r22.1.1.2.2.1,()),r22.2.1,()))))
 else (some (Sum.inl ((r22.1.1.1,r22.1.1.2.1,r22.1.1.2.2.1,()),y1,(y2.1,()),y3,y4,y5,(y6 + 1#64),()))))))
 else (some (Sum.inr (Sum.inr ((y0.1,y0.2.1,y0.2.2.1,()),())))))
 else (some (Sum.inr (Sum.inr ((y0.1,y0.2.1,y0.2.2.1,()),())))))
def Zaj_L1 (k_rec:((List UInt8) × Int × (List (ApiItem)) × Unit) → Int → Bool → (List UInt8) → Option ((((List UInt8) × Int × (List (ApiItem)) × Unit) × Unit) × (Int × Unit))) (y:(((List UInt8) × Int × (List (ApiItem)) × Unit) × Int × (ApiItem × Unit) × (BitVec 64) × Bool × (List UInt8) × (BitVec 64) × Unit)):Option ((((List UInt8) × Int × (List (ApiItem)) × Unit) × Int × Unit) ⊕ (((List UInt8) × Int × (List (ApiItem)) × Unit) × Unit)):=iter (fun (y:(((List UInt8) × Int × (List (ApiItem)) × Unit) × Int × (ApiItem × Unit) × (BitVec 64) × Bool × (List UInt8) × (BitVec 64) × Unit))=>Zaj_L1b k_rec y.1 y.2.1 y.2.2.1 y.2.2.2.1 y.2.2.2.2.1 y.2.2.2.2.2.1 y.2.2.2.2.2.2.1) rounds y
def Zaj_R (k_rec:((List UInt8) × Int × (List (ApiItem)) × Unit) → Int → Bool → (List UInt8) → Option ((((List UInt8) × Int × (List (ApiItem)) × Unit) × Unit) × (Int × Unit))) (a0:((List UInt8) × Int × (List (ApiItem)) × Unit)) (a1:Int) (a2:Bool) (a3:(List UInt8)):Option ((((List UInt8) × Int × (List (ApiItem)) × Unit) × Unit) × (Int × Unit)):=
 ((Zai (a0.1,a0.2.1,a0.2.2.1,())).bind fun r1=>(bif (!decide (r1.2.2.1=(0:Int))) then (some (((r1.1.1.1,r1.1.1.2.1,r1.1.1.2.2.1,()),()),(r1.2.2.1,())))
 else ((bif (decide (r1.2.1.kind=(3:Int))) then (some ((r1.1.1.1,r1.1.1.2.1,r1.1.1.2.2.1,()),a1,a2,a3,(r1.2.1,()),r1.2.1.number,true,()))
 else (some ((r1.1.1.1,r1.1.1.2.1,r1.1.1.2.2.1,()),a1,a2,a3,(r1.2.1,()),r1.2.1.number,(decide (r1.2.1.kind=(4:Int))),()))).bind (fun (j2:(((List UInt8) × Int × (List (ApiItem)) × Unit) × Int × Bool × (List UInt8) × (ApiItem × Unit) × (BitVec 64) × Bool × Unit))=>((bif (decide (j2.2.2.2.2.1.1.kind=(5:Int))) then (some ((j2.1.1,j2.1.2.1,j2.1.2.2.1,()),j2.2.1,j2.2.2.1,j2.2.2.2.1,(j2.2.2.2.2.1.1,()),j2.2.2.2.2.2.1,j2.2.2.2.2.2.2.1,true,()))
 else (some ((j2.1.1,j2.1.2.1,j2.1.2.2.1,()),j2.2.1,j2.2.2.1,j2.2.2.2.1,(j2.2.2.2.2.1.1,()),j2.2.2.2.2.2.1,j2.2.2.2.2.2.2.1,(decide (j2.2.2.2.2.1.1.kind=(6:Int))),()))).bind (fun (j3:(((List UInt8) × Int × (List (ApiItem)) × Unit) × Int × Bool × (List UInt8) × (ApiItem × Unit) × (BitVec 64) × Bool × Bool × Unit))=>(bif (decide ((512:Int) ≤ ((j3.1.2.2.1).length:Int))) then (some (((j3.1.1,j3.1.2.1,j3.1.2.2.1,()),()),((8:Int),())))
 else ((bif j3.2.2.1 then ((Zby j3.2.2.2.2.1.1.kind).bind fun r4=>(some ((j3.1.1,j3.1.2.1,j3.1.2.2.1,()),j3.2.1,j3.2.2.1,j3.2.2.2.1,(j3.2.2.2.2.1.1,()),j3.2.2.2.2.2.1,j3.2.2.2.2.2.2.1,j3.2.2.2.2.2.2.2.1,(!r4.2.1),())))
 else (some ((j3.1.1,j3.1.2.1,j3.1.2.2.1,()),j3.2.1,j3.2.2.1,j3.2.2.2.1,(j3.2.2.2.2.1.1,()),j3.2.2.2.2.2.1,j3.2.2.2.2.2.2.1,j3.2.2.2.2.2.2.2.1,false,()))).bind (fun (j5:(((List UInt8) × Int × (List (ApiItem)) × Unit) × Int × Bool × (List UInt8) × (ApiItem × Unit) × (BitVec 64) × Bool × Bool × Bool × Unit))=>(bif j5.2.2.2.2.2.2.2.2.1 then (some (((j5.1.1,j5.1.2.1,j5.1.2.2.1,()),()),((3:Int),())))
 else (bif (decide ((8:Int) < j5.2.1)) then (some (((j5.1.1,j5.1.2.1,j5.1.2.2.1,()),()),((5:Int),())))
 else ((bif j5.2.2.2.2.2.2.1 then (bif (decide ((1024#64).toNat < j5.2.2.2.2.2.1.toNat)) then (some ((j5.1.1,j5.1.2.1,j5.1.2.2.1,()),j5.2.1,j5.2.2.1,j5.2.2.2.1,(j5.2.2.2.2.1.1,()),j5.2.2.2.2.2.1,j5.2.2.2.2.2.2.1,j5.2.2.2.2.2.2.2.1,true,()))
 else (bif j5.2.2.2.2.2.2.2.1 then (some ((j5.1.1,j5.1.2.1,j5.1.2.2.1,()),j5.2.1,j5.2.2.1,j5.2.2.2.1,(j5.2.2.2.2.1.1,()),j5.2.2.2.2.2.1,j5.2.2.2.2.2.2.1,j5.2.2.2.2.2.2.2.1,(decide ((512#64).toNat < j5.2.2.2.2.2.1.toNat)),()))
 else (some ((j5.1.1,j5.1.2.1,j5.1.2.2.1,()),j5.2.1,j5.2.2.1,j5.2.2.2.1,(j5.2.2.2.2.1.1,()),j5.2.2.2.2.2.1,j5.2.2.2.2.2.2.1,j5.2.2.2.2.2.2.2.1,false,()))))
 else (bif j5.2.2.2.2.2.2.2.1 then (some ((j5.1.1,j5.1.2.1,j5.1.2.2.1,()),j5.2.1,j5.2.2.1,j5.2.2.2.1,(j5.2.2.2.2.1.1,()),j5.2.2.2.2.2.1,j5.2.2.2.2.2.2.1,j5.2.2.2.2.2.2.2.1,(decide ((512#64).toNat < j5.2.2.2.2.2.1.toNat)),()))
 else (some ((j5.1.1,j5.1.2.1,j5.1.2.2.1,()),j5.2.1,j5.2.2.1,j5.2.2.2.1,(j5.2.2.2.2.1.1,()),j5.2.2.2.2.2.1,j5.2.2.2.2.2.2.1,j5.2.2.2.2.2.2.2.1,false,())))).bind (fun (j6:(((List UInt8) × Int × (List (ApiItem)) × Unit) × Int × Bool × (List UInt8) × (ApiItem × Unit) × (BitVec 64) × Bool × Bool × Bool × Unit))=>(bif j6.2.2.2.2.2.2.2.2.1 then (some (((j6.1.1,j6.1.2.1,j6.1.2.2.1,()),()),((8:Int),())))
 else ((bif j6.2.2.2.2.2.2.1 then (let v7:BitVec 64:=(BitVec.ofInt 64 (IntKind.wrap .i64 (((j6.1.1).length:Int) - j6.1.2.1)))
 (some ((j6.1.1,j6.1.2.1,j6.1.2.2.1,()),j6.2.1,j6.2.2.1,j6.2.2.2.1,(j6.2.2.2.2.1.1,()),j6.2.2.2.2.2.1,j6.2.2.2.2.2.2.1,j6.2.2.2.2.2.2.2.1,(decide (v7.toNat < j6.2.2.2.2.2.1.toNat)),())))
 else (some ((j6.1.1,j6.1.2.1,j6.1.2.2.1,()),j6.2.1,j6.2.2.1,j6.2.2.2.1,(j6.2.2.2.2.1.1,()),j6.2.2.2.2.2.1,j6.2.2.2.2.2.2.1,j6.2.2.2.2.2.2.2.1,false,()))).bind (fun (j8:(((List UInt8) × Int × (List (ApiItem)) × Unit) × Int × Bool × (List UInt8) × (ApiItem × Unit) × (BitVec 64) × Bool × Bool × Bool × Unit))=>(bif j8.2.2.2.2.2.2.2.2.1 then (some (((j8.1.1,j8.1.2.1,j8.1.2.2.1,()),()),((1:Int),())))
 else ((bif j8.2.2.2.2.2.2.1 then (let v9:Int:=(IntKind.wrap .i64 (j8.1.2.1 + (IntKind.wrap .i64 (j8.2.2.2.2.2.1.toNat:Int))))
 (bif (decide ((0:Int) ≤ v9) && decide (v9 ≤ ((j8.1.1).length:Int))) then (bif (decide ((0:Int) ≤ j8.1.2.1) && decide (j8.1.2.1 ≤ ((v9).toNat:Int))) then (let v10:Int:=(IntKind.wrap .i64 (j8.1.2.1 + (IntKind.wrap .i64 (j8.2.2.2.2.2.1.toNat:Int))))
 (some ((j8.1.1,v10,j8.1.2.2.1,()),j8.2.1,j8.2.2.1,j8.2.2.2.1,((⟨j8.2.2.2.2.1.1.kind,0#64,(List.drop (j8.1.2.1).toNat (List.take (v9).toNat j8.1.1))⟩:ApiItem),()),j8.2.2.2.2.2.1,j8.2.2.2.2.2.2.2.1,())))
 else none)
 else none))
 else (some ((j8.1.1,j8.1.2.1,j8.1.2.2.1,()),j8.2.1,j8.2.2.1,j8.2.2.2.1,(j8.2.2.2.2.1.1,()),j8.2.2.2.2.2.1,j8.2.2.2.2.2.2.2.1,()))).bind (fun (j11:(((List UInt8) × Int × (List (ApiItem)) × Unit) × Int × Bool × (List UInt8) × (ApiItem × Unit) × (BitVec 64) × Bool × Unit))=>((bif (decide (j11.2.2.2.2.1.1.kind=(4:Int))) then ((Zcr j11.2.2.2.2.1.1.data).bind fun r12=>(some ((j11.1.1,j11.1.2.1,j11.1.2.2.1,()),j11.2.1,j11.2.2.1,j11.2.2.2.1,(j11.2.2.2.2.1.1,()),j11.2.2.2.2.2.1,j11.2.2.2.2.2.2.1,(!r12.2.1),())))
 else (some ((j11.1.1,j11.1.2.1,j11.1.2.2.1,()),j11.2.1,j11.2.2.1,j11.2.2.2.1,(j11.2.2.2.2.1.1,()),j11.2.2.2.2.2.1,j11.2.2.2.2.2.2.1,false,()))).bind (fun (j13:(((List UInt8) × Int × (List (ApiItem)) × Unit) × Int × Bool × (List UInt8) × (ApiItem × Unit) × (BitVec 64) × Bool × Bool × Unit))=>(bif j13.2.2.2.2.2.2.2.1 then (some (((j13.1.1,j13.1.2.1,j13.1.2.2.1,()),()),((6:Int),())))
 else ((bif j13.2.2.1 then (bif (!decide (j13.2.2.2.1=([]:List UInt8))) then ((Zbw j13.2.2.2.2.1.1).bind fun r14=>((Zcn j13.2.2.2.1 r14.2.1).bind fun r15=>(some ((j13.1.1,j13.1.2.1,j13.1.2.2.1,()),j13.2.1,(j13.2.2.2.2.1.1,()),j13.2.2.2.2.2.1,j13.2.2.2.2.2.2.1,(!r15.2.1),()))))
 else (some ((j13.1.1,j13.1.2.1,j13.1.2.2.1,()),j13.2.1,(j13.2.2.2.2.1.1,()),j13.2.2.2.2.2.1,j13.2.2.2.2.2.2.1,false,())))
 else (some ((j13.1.1,j13.1.2.1,j13.1.2.2.1,()),j13.2.1,(j13.2.2.2.2.1.1,()),j13.2.2.2.2.2.1,j13.2.2.2.2.2.2.1,false,()))).bind (fun (j16:(((List UInt8) × Int × (List (ApiItem)) × Unit) × Int × (ApiItem × Unit) × (BitVec 64) × Bool × Bool × Unit))=>(bif j16.2.2.2.2.2.1 then (some (((j16.1.1,j16.1.2.1,j16.1.2.2.1,()),()),((7:Int),())))
 else (bif small ((j16.1.2.2.1).length + (([j16.2.2.1.1]:List (ApiItem)):List (ApiItem)).length) 32 then (let v17:List (ApiItem):=(j16.1.2.2.1 ++ ([j16.2.2.1.1]:List (ApiItem)))
 ((Zaj_L1 k_rec ((j16.1.1,j16.1.2.1,v17,()),j16.2.1,(j16.2.2.1.1,()),j16.2.2.2.1,j16.2.2.2.2.1,([]:List UInt8),0#64,())).bind (Sum.elim (fun (z23:(((List UInt8) × Int × (List (ApiItem)) × Unit) × Int × Unit))=>(some (((z23.1.1,z23.1.2.1,z23.1.2.2.1,()),()),(z23.2.1,())))) (fun (z24:(((List UInt8) × Int × (List (ApiItem)) × Unit) × Unit))=>(some (((z24.1.1,z24.1.2.1,z24.1.2.2.1,()),()),((0:Int),())))))))
 else none))))))))))))))))))))))))))
abbrev ps_Zaj:List Slot:=[.ptr [(.v .str),(.v (.int .i64)),(.own 1)],.f (.v (.int .i64)),.f (.v .bool),.f (.v .str)]
abbrev rs_Zaj:List Fld:=[(.v (.int .i64))]
def E_Zaj (k_rec:((List UInt8) × Int × (List (ApiItem)) × Unit) → Int → Bool → (List UInt8) → Option ((((List UInt8) × Int × (List (ApiItem)) × Unit) × Unit) × (Int × Unit))):Env T:=⟨tab.find,cd,globs,flc,fun f ds=>match f with
    | 49=>some S_Zcr
    | 81=>some S_Zbw
    | 152=>some ⟨ps_Zaj,rs_Zaj,fun x=>k_rec x.1 x.2.1 x.2.2.1 x.2.2.2.1⟩
    | 169=>some S_Zby
    | 170=>some S_Zcn
    | 172=>some S_Zai
    | _=>none,fun f=>match f with
    | 49=>true
    | 81=>true
    | 169=>true
    | 170=>true
    | _=>false⟩
def A_Zaj (k_rec:((List UInt8) × Int × (List (ApiItem)) × Unit) → Int → Bool → (List UInt8) → Option ((((List UInt8) × Int × (List (ApiItem)) × Unit) × Unit) × (Int × Unit))):Loc2 T:=⟨fun id=>match id with
    | 1=>some ⟨[(0,.ptr [(.v .str),(.v (.int .i64)),(.own 1)]),(1,.f (.v (.int .i64))),(9,.ptr [(.v (.agg 1))]),(11,.f (.v .u64)),(13,.f (.v .bool)),(14,.f (.v .str)),(15,.f (.v .u64))],[(.ret,[(0,.ptr [(.v .str),(.v (.int .i64)),(.own 1)]),(8,.f (.v (.int .i64)))]),(.exit 1,[(0,.ptr [(.v .str),(.v (.int .i64)),(.own 1)])])],Zaj_L1 k_rec,[]⟩
    | _=>none,fun r=>match r with
    | 6=>some ([(0,.ptr [(.v .str),(.v (.int .i64)),(.own 1)]),(1,.f (.v (.int .i64))),(2,.f (.v .bool)),(3,.f (.v .str)),(9,.ptr [(.v (.agg 1))]),(11,.f (.v .u64)),(12,.f (.v .bool))],true)
    | 7=>some ([(0,.ptr [(.v .str),(.v (.int .i64)),(.own 1)]),(1,.f (.v (.int .i64))),(2,.f (.v .bool)),(3,.f (.v .str)),(9,.ptr [(.v (.agg 1))]),(11,.f (.v .u64)),(12,.f (.v .bool)),(13,.f (.v .bool))],true)
    | 10=>some ([(0,.ptr [(.v .str),(.v (.int .i64)),(.own 1)]),(1,.f (.v (.int .i64))),(2,.f (.v .bool)),(3,.f (.v .str)),(9,.ptr [(.v (.agg 1))]),(11,.f (.v .u64)),(12,.f (.v .bool)),(13,.f (.v .bool)),(52,.f (.v .bool))],true)
    | 14=>some ([(0,.ptr [(.v .str),(.v (.int .i64)),(.own 1)]),(1,.f (.v (.int .i64))),(2,.f (.v .bool)),(3,.f (.v .str)),(9,.ptr [(.v (.agg 1))]),(11,.f (.v .u64)),(12,.f (.v .bool)),(13,.f (.v .bool)),(63,.f (.v .bool))],true)
    | 16=>some ([(0,.ptr [(.v .str),(.v (.int .i64)),(.own 1)]),(1,.f (.v (.int .i64))),(2,.f (.v .bool)),(3,.f (.v .str)),(9,.ptr [(.v (.agg 1))]),(11,.f (.v .u64)),(12,.f (.v .bool)),(13,.f (.v .bool)),(76,.f (.v .bool))],true)
    | 20=>some ([(0,.ptr [(.v .str),(.v (.int .i64)),(.own 1)]),(1,.f (.v (.int .i64))),(2,.f (.v .bool)),(3,.f (.v .str)),(9,.ptr [(.v (.agg 1))]),(11,.f (.v .u64)),(13,.f (.v .bool))],true)
    | 21=>some ([(0,.ptr [(.v .str),(.v (.int .i64)),(.own 1)]),(1,.f (.v (.int .i64))),(2,.f (.v .bool)),(3,.f (.v .str)),(9,.ptr [(.v (.agg 1))]),(11,.f (.v .u64)),(13,.f (.v .bool)),(129,.f (.v .bool))],true)
    | 23=>some ([(0,.ptr [(.v .str),(.v (.int .i64)),(.own 1)]),(1,.f (.v (.int .i64))),(9,.ptr [(.v (.agg 1))]),(11,.f (.v .u64)),(13,.f (.v .bool)),(141,.f (.v .bool))],true)
    | _=>none,fun r=>match r with
    | 18=>true
    | 24=>true
    | _=>false⟩
theorem Zaj_L1_eq (k_rec:((List UInt8) × Int × (List (ApiItem)) × Unit) → Int → Bool → (List UInt8) → Option ((((List UInt8) × Int × (List (ApiItem)) × Unit) × Unit) × (Int × Unit))) (y0:((List UInt8) × Int × (List (ApiItem)) × Unit)) (y1:Int) (y2:(ApiItem × Unit)) (y3:(BitVec 64)) (y4:Bool) (y5:(List UInt8)) (y6:(BitVec 64)):run (E_Zaj k_rec) (A_Zaj k_rec) (loopAt 1 (Tryz.f152.body.getD .skip)) (layC cd [(0,.ptr [(.v .str),(.v (.int .i64)),(.own 1)]),(1,.f (.v (.int .i64))),(9,.ptr [(.v (.agg 1))]),(11,.f (.v .u64)),(13,.f (.v .bool)),(14,.f (.v .str)),(15,.f (.v .u64))] [] (y0,y1,y2,y3,y4,y5,y6,())) (roundK cd [(0,.ptr [(.v .str),(.v (.int .i64)),(.own 1)]),(1,.f (.v (.int .i64))),(9,.ptr [(.v (.agg 1))]),(11,.f (.v .u64)),(13,.f (.v .bool)),(14,.f (.v .str)),(15,.f (.v .u64))] [] [(.ret,[(0,.ptr [(.v .str),(.v (.int .i64)),(.own 1)]),(8,.f (.v (.int .i64)))]),(.exit 1,[(0,.ptr [(.v .str),(.v (.int .i64)),(.own 1)])])])=Zaj_L1b k_rec y0 y1 y2 y3 y4 y5 y6:=by kernel_rfl
theorem Zaj_eqR (k_rec:((List UInt8) × Int × (List (ApiItem)) × Unit) → Int → Bool → (List UInt8) → Option ((((List UInt8) × Int × (List (ApiItem)) × Unit) × Unit) × (Int × Unit))) (x:tySs T ps_Zaj):run (E_Zaj k_rec) (A_Zaj k_rec) (Tryz.f152.body.getD .skip) (enterT (E_Zaj k_rec).C ps_Zaj x) (retK (E_Zaj k_rec) Tryz.f152.results.toList ps_Zaj rs_Zaj)=Zaj_R k_rec x.1 x.2.1 x.2.2.1 x.2.2.2.1:=by kernel_rfl
def Zaj_n:Nat → ((List UInt8) × Int × (List (ApiItem)) × Unit) → Int → Bool → (List UInt8) → Option ((((List UInt8) × Int × (List (ApiItem)) × Unit) × Unit) × (Int × Unit))
  | 0=>fun _ _ _ _=>none
  | n + 1=>Zaj_R (Zaj_n n)
def Zaj (a0:((List UInt8) × Int × (List (ApiItem)) × Unit)) (a1:Int) (a2:Bool) (a3:(List UInt8)):=Zaj_n 12 a0 a1 a2 a3
def S_Zaj:FSpec T:=⟨ps_Zaj,rs_Zaj,fun x=>Zaj x.1 x.2.1 x.2.2.1 x.2.2.2.1⟩
theorem Zaj_env (k_rec:((List UInt8) × Int × (List (ApiItem)) × Unit) → Int → Bool → (List UInt8) → Option ((((List UInt8) × Int × (List (ApiItem)) × Unit) × Unit) × (Int × Unit))) (hk:SoundT Tryz.prog cd gdn 152 ⟨ps_Zaj,rs_Zaj,fun x=>k_rec x.1 x.2.1 x.2.2.1 x.2.2.2.1⟩):EnvOk Tryz.prog (E_Zaj k_rec):=envOk (E:=(E_Zaj k_rec)) cd_ok tys fl_ok fun f ds S h=>by
    dsimp only [E_Zaj] at h
    split at h
    · cases h; exact Zcr_ok
    · cases h; exact Zbw_ok
    · cases h; exact hk
    · cases h; exact Zby_ok
    · cases h; exact Zcn_ok
    · cases h; exact Zai_ok
    · cases h
theorem Zaj_L1_ok (k_rec:((List UInt8) × Int × (List (ApiItem)) × Unit) → Int → Bool → (List UInt8) → Option ((((List UInt8) × Int × (List (ApiItem)) × Unit) × Unit) × (Int × Unit))) (hk:SoundT Tryz.prog cd gdn 152 ⟨ps_Zaj,rs_Zaj,fun x=>k_rec x.1 x.2.1 x.2.2.1 x.2.2.2.1⟩):LoopOk Tryz.prog (E_Zaj k_rec) Tryz.f152.ntmps (kqOf ps_Zaj 0) (loopAt 1 (Tryz.f152.body.getD .skip)) ⟨[(0,.ptr [(.v .str),(.v (.int .i64)),(.own 1)]),(1,.f (.v (.int .i64))),(9,.ptr [(.v (.agg 1))]),(11,.f (.v .u64)),(13,.f (.v .bool)),(14,.f (.v .str)),(15,.f (.v .u64))],[(.ret,[(0,.ptr [(.v .str),(.v (.int .i64)),(.own 1)]),(8,.f (.v (.int .i64)))]),(.exit 1,[(0,.ptr [(.v .str),(.v (.int .i64)),(.own 1)])])],Zaj_L1 k_rec,[]⟩:=
  loop_ok (A:=(A_Zaj k_rec)) (done:=[]) (c0:=(Tryz.f152.body.getD .skip)) hmix (Zaj_env k_rec hk) done_nil rounds (by kernel_rfl) (by kernel_rfl) (fun x=>Zaj_L1_eq k_rec x.1 x.2.1 x.2.2.1 x.2.2.2.1 x.2.2.2.2.1 x.2.2.2.2.2.1 x.2.2.2.2.2.2.1) (fun _=>rfl)
theorem Zaj_okn:∀ n:Nat,SoundT Tryz.prog cd gdn 152 ⟨ps_Zaj,rs_Zaj,fun x=>Zaj_n n x.1 x.2.1 x.2.2.1 x.2.2.2.1⟩
  | 0=>sound_none ⟨_,Tryz.func152,by kernel_rfl,by kernel_rfl⟩
  | n + 1=>sound_fn (E:=E_Zaj (Zaj_n n)) (A:=A_Zaj (Zaj_n n)) (done:=[1]) (c:=(Tryz.f152.body.getD .skip)) (S:=⟨ps_Zaj,rs_Zaj,fun x=>Zaj_n (n + 1) x.1 x.2.1 x.2.2.1 x.2.2.2.1⟩) (fn:=Tryz.f152) hmix (Zaj_env _ (Zaj_okn n)) Tryz.func152 rfl (by kernel_rfl) (by kernel_rfl) (done_cons rfl (Zaj_L1_ok _ (Zaj_okn n)) done_nil) (by kernel_rfl) (by kernel_rfl) (Zaj_eqR (Zaj_n n))
theorem Zaj_ok:SoundT Tryz.prog cd gdn 152 S_Zaj:=Zaj_okn 12
def Zbj (a0:(List (UInt8))):Option ((Unit) × ((List (ApiItem)) × Int × Int × Unit)):=
 ((Zaj (a0,(0:Int),[],()) (0:Int) false ([]:List UInt8)).bind fun r1=>(bif (!decide (r1.2.1=(0:Int))) then (some ((),([],(0:Int),r1.2.1,())))
 else (some ((),(r1.1.1.2.2.1,r1.1.1.2.1,(0:Int),())))))
def S_Zbj:FSpec T:=⟨[.f (.v (.rs 0))],[(.own 1),(.v (.int .i64)),(.v (.int .i64))],fun x=>Zbj x.1⟩
def E_Zbj:Env T:=⟨tab.find,cd,globs,flc,fun f ds=>match f with
    | 152=>some S_Zaj
    | _=>none,fun f=>match f with
    | _=>false⟩
def A_Zbj:Loc2 T:=⟨fun id=>match id with
    | _=>none,fun r=>match r with
    | _=>none,fun r=>match r with
    | _=>false⟩
theorem Zbj_eq (x:tySs T S_Zbj.ps):run E_Zbj A_Zbj (Tryz.f119.body.getD .skip) (enterT E_Zbj.C S_Zbj.ps x) (retK E_Zbj Tryz.f119.results.toList S_Zbj.ps S_Zbj.rs)=S_Zbj.fn x:=by kernel_rfl
theorem Zbj_env:EnvOk Tryz.prog E_Zbj:=envOk (E:=E_Zbj) cd_ok tys fl_ok fun f ds S h=>by
    dsimp only [E_Zbj] at h
    split at h
    · cases h; exact Zaj_ok
    · cases h
theorem Zbj_ok:SoundT Tryz.prog cd gdn 119 S_Zbj:=
  sound_fn (E:=E_Zbj) (A:=A_Zbj) (done:=[]) (c:=(Tryz.f119.body.getD .skip)) (S:=S_Zbj) (fn:=Tryz.f119) hmix Zbj_env Tryz.func119 rfl (by kernel_rfl) (by kernel_rfl) done_nil (by kernel_rfl) (by kernel_rfl) Zbj_eq
def Zbi (a0:(BitVec 64)):Option ((Unit) × (Int × Unit)):=
 (let v1:BitVec 64:=(bif decide ((1048576#64).toNat < (a0).toNat) then 1048576#64 else a0)
 (some ((),((IntKind.wrap .i64 (v1.toNat:Int)),()))))
def S_Zbi:FSpec T:=⟨[.f (.v .u64)],[(.v (.int .i64))],fun x=>Zbi x.1⟩
def E_Zbi:Env T:=⟨tab.find,cd,globs,flc,fun f ds=>match f with
    | _=>none,fun f=>match f with
    | _=>false⟩
def A_Zbi:Loc2 T:=⟨fun id=>match id with
    | _=>none,fun r=>match r with
    | _=>none,fun r=>match r with
    | _=>false⟩
theorem Zbi_eq (x:tySs T S_Zbi.ps):run E_Zbi A_Zbi (Tryz.f120.body.getD .skip) (enterT E_Zbi.C S_Zbi.ps x) (retK E_Zbi Tryz.f120.results.toList S_Zbi.ps S_Zbi.rs)=S_Zbi.fn x:=by kernel_rfl
theorem Zbi_env:EnvOk Tryz.prog E_Zbi:=envOk (E:=E_Zbi) cd_ok tys fl_ok fun f ds S h=>by cases h
theorem Zbi_ok:SoundT Tryz.prog cd gdn 120 S_Zbi:=
  sound_fn (E:=E_Zbi) (A:=A_Zbi) (done:=[]) (c:=(Tryz.f120.body.getD .skip)) (S:=S_Zbi) (fn:=Tryz.f120) hmix Zbi_env Tryz.func120 rfl (by kernel_rfl) (by kernel_rfl) done_nil (by kernel_rfl) (by kernel_rfl) Zbi_eq
def Zbu (a0:(List (UInt8))):Option ((Unit) × (ApiCredential × Int × Bool × Unit)):=
 ((Zbj a0).bind fun r1=>(bif (!decide (r1.2.2.2.1=(0:Int))) then (some ((),((⟨([]:List UInt8),([]:List UInt8),([]:List UInt8),0#64,(0:Int),false,(0:Int),false,false⟩:ApiCredential),(0:Int),false,())))
 else (bif (!decide (((r1.2.1).length:Int)=(19:Int))) then (some ((),((⟨([]:List UInt8),([]:List UInt8),([]:List UInt8),0#64,(0:Int),false,(0:Int),false,false⟩:ApiCredential),(0:Int),false,())))
 else (bif decide ((2:Int) < ((r1.2.1).length:Int)) then (((r1.2.1)[2]?).bind fun x2=>(bif decide ((4:Int) < ((r1.2.1).length:Int)) then (((r1.2.1)[4]?).bind fun x3=>(bif decide ((6:Int) < ((r1.2.1).length:Int)) then (((r1.2.1)[6]?).bind fun x4=>(bif decide ((8:Int) < ((r1.2.1).length:Int)) then (((r1.2.1)[8]?).bind fun x5=>(bif decide ((10:Int) < ((r1.2.1).length:Int)) then (((r1.2.1)[10]?).bind fun x6=>((Zbi x6.number).bind fun r7=>(bif decide ((12:Int) < ((r1.2.1).length:Int)) then (((r1.2.1)[12]?).bind fun x8=>(bif decide ((14:Int) < ((r1.2.1).length:Int)) then (((r1.2.1)[14]?).bind fun x9=>((Zbi x9.number).bind fun r10=>(bif decide ((16:Int) < ((r1.2.1).length:Int)) then (((r1.2.1)[16]?).bind fun x11=>(bif decide ((18:Int) < ((r1.2.1).length:Int)) then (((r1.2.1)[18]?).bind fun x12=>((Zaf (⟨x2.data,x3.data,x4.data,x5.number,r7.2.1,(decide (x8.number=1#64)),r10.2.1,(decide (x11.number=1#64)),(decide (x12.number=1#64))⟩:ApiCredential)).bind fun r13=>(bif (decide (r13.2.2.1=(0:Int))) then (bif (decide ((0:Int) ≤ r1.2.2.1) && decide (r1.2.2.1 ≤ ((a0).length:Int))) then (some ((),((⟨x2.data,x3.data,x4.data,x5.number,r7.2.1,(decide (x8.number=1#64)),r10.2.1,(decide (x11.number=1#64)),(decide (x12.number=1#64))⟩:ApiCredential),r1.2.2.1,(decide (r13.2.1=(List.take (r1.2.2.1).toNat a0))),())))
 else none)
 else (some ((),((⟨x2.data,x3.data,x4.data,x5.number,r7.2.1,(decide (x8.number=1#64)),r10.2.1,(decide (x11.number=1#64)),(decide (x12.number=1#64))⟩:ApiCredential),r1.2.2.1,false,()))))))
 else none))
 else none)))
 else none))
 else none)))
 else none))
 else none))
 else none))
 else none))
 else none))))
def S_Zbu:FSpec T:=⟨[.f (.v (.rs 0))],[(.v (.agg 2)),(.v (.int .i64)),(.v .bool)],fun x=>Zbu x.1⟩
def E_Zbu:Env T:=⟨tab.find,cd,globs,flc,fun f ds=>match f with
    | 13=>some S_Zaf
    | 119=>some S_Zbj
    | 120=>some S_Zbi
    | _=>none,fun f=>match f with
    | 120=>true
    | _=>false⟩
def A_Zbu:Loc2 T:=⟨fun id=>match id with
    | _=>none,fun r=>match r with
    | _=>none,fun r=>match r with
    | 4=>true
    | 6=>true
    | _=>false⟩
theorem Zbu_eq (x:tySs T S_Zbu.ps):run E_Zbu A_Zbu (Tryz.f86.body.getD .skip) (enterT E_Zbu.C S_Zbu.ps x) (retK E_Zbu Tryz.f86.results.toList S_Zbu.ps S_Zbu.rs)=S_Zbu.fn x:=by kernel_rfl
theorem Zbu_env:EnvOk Tryz.prog E_Zbu:=envOk (E:=E_Zbu) cd_ok tys fl_ok fun f ds S h=>by
    dsimp only [E_Zbu] at h
    split at h
    · cases h; exact Zaf_ok
    · cases h; exact Zbj_ok
    · cases h; exact Zbi_ok
    · cases h
theorem Zbu_ok:SoundT Tryz.prog cd gdn 86 S_Zbu:=
  sound_fn (E:=E_Zbu) (A:=A_Zbu) (done:=[]) (c:=(Tryz.f86.body.getD .skip)) (S:=S_Zbu) (fn:=Tryz.f86) hmix Zbu_env Tryz.func86 rfl (by kernel_rfl) (by kernel_rfl) done_nil (by kernel_rfl) (by kernel_rfl) Zbu_eq
def Zae (a0:(List (UInt8))):Option ((Unit) × (ApiCredential × Int × Unit)):=
 ((Zbu a0).bind fun r1=>(bif (!r1.2.2.2.1) then (some ((),((⟨([]:List UInt8),([]:List UInt8),([]:List UInt8),0#64,(0:Int),false,(0:Int),false,false⟩:ApiCredential),(2:Int),())))
 else (bif (!decide (r1.2.2.1=((a0).length:Int))) then (some ((),((⟨([]:List UInt8),([]:List UInt8),([]:List UInt8),0#64,(0:Int),false,(0:Int),false,false⟩:ApiCredential),(2:Int),())))
 else (some ((),(r1.2.1,(0:Int),()))))))
def S_Zae:FSpec T:=⟨[.f (.v (.rs 0))],[(.v (.agg 2)),(.v (.int .i64))],fun x=>Zae x.1⟩
def E_Zae:Env T:=⟨tab.find,cd,globs,flc,fun f ds=>match f with
    | 86=>some S_Zbu
    | _=>none,fun f=>match f with
    | 86=>true
    | _=>false⟩
def A_Zae:Loc2 T:=⟨fun id=>match id with
    | _=>none,fun r=>match r with
    | _=>none,fun r=>match r with
    | _=>false⟩
theorem Zae_eq (x:tySs T S_Zae.ps):run E_Zae A_Zae (Tryz.f54.body.getD .skip) (enterT E_Zae.C S_Zae.ps x) (retK E_Zae Tryz.f54.results.toList S_Zae.ps S_Zae.rs)=S_Zae.fn x:=by kernel_rfl
theorem Zae_env:EnvOk Tryz.prog E_Zae:=envOk (E:=E_Zae) cd_ok tys fl_ok fun f ds S h=>by
    dsimp only [E_Zae] at h
    split at h
    · cases h; exact Zbu_ok
    · cases h
theorem Zae_ok:SoundT Tryz.prog cd gdn 54 S_Zae:=
  sound_fn (E:=E_Zae) (A:=A_Zae) (done:=[]) (c:=(Tryz.f54.body.getD .skip)) (S:=S_Zae) (fn:=Tryz.f54) hmix Zae_env Tryz.func54 rfl (by kernel_rfl) (by kernel_rfl) done_nil (by kernel_rfl) (by kernel_rfl) Zae_eq
def Zap (a0:(List (UInt8))):Option ((Unit) × (Bool × Unit)):=
 ((Zbp a0).bind fun r1=>((Zae a0).bind fun r2=>(bif (decide (r1.2.2.1=r2.2.2.1)) then (let v3:Bool:=(decide (r1.2.1.rP=r2.2.1.rP) && (decide (r1.2.1.user=r2.2.1.user) && (decide (r1.2.1.name=r2.2.1.name) && (decide (r1.2.1.seed=r2.2.1.seed) && (decide (r1.2.1.height=r2.2.1.height) && ((r1.2.1.resident == r2.2.1.resident) && (decide (r1.2.1.protect=r2.2.1.protect) && ((r1.2.1.shared == r2.2.1.shared) && ((r1.2.1.backed == r2.2.1.backed) && true)))))))))
 (some ((),(v3,()))))
 else (some ((),(false,()))))))
def S_Zap:FSpec T:=⟨[.f (.v (.rs 0))],[(.v .bool)],fun x=>Zap x.1⟩
def E_Zap:Env T:=⟨tab.find,cd,globs,flc,fun f ds=>match f with
    | 16=>some S_Zbp
    | 54=>some S_Zae
    | _=>none,fun f=>match f with
    | 16=>true
    | 54=>true
    | _=>false⟩
def A_Zap:Loc2 T:=⟨fun id=>match id with
    | _=>none,fun r=>match r with
    | _=>none,fun r=>match r with
    | _=>false⟩
theorem Zap_eq (x:tySs T S_Zap.ps):run E_Zap A_Zap (Tryz.f17.body.getD .skip) (enterT E_Zap.C S_Zap.ps x) (retK E_Zap Tryz.f17.results.toList S_Zap.ps S_Zap.rs)=S_Zap.fn x:=by kernel_rfl
theorem Zap_env:EnvOk Tryz.prog E_Zap:=envOk (E:=E_Zap) cd_ok tys fl_ok fun f ds S h=>by
    dsimp only [E_Zap] at h
    split at h
    · cases h; exact Zbp_ok
    · cases h; exact Zae_ok
    · cases h
theorem Zap_ok:SoundT Tryz.prog cd gdn 17 S_Zap:=
  sound_fn (E:=E_Zap) (A:=A_Zap) (done:=[]) (c:=(Tryz.f17.body.getD .skip)) (S:=S_Zap) (fn:=Tryz.f17) hmix Zap_env Tryz.func17 rfl (by kernel_rfl) (by kernel_rfl) done_nil (by kernel_rfl) (by kernel_rfl) Zap_eq
def Zac (a0:(List (UInt8))) (a1:Int) (a2:Int) (a3:UInt8):Option ((Unit) × (Bool × Unit)):=
 (bif (decide ((400:Int) < ((a0).length:Int))) then ((Zbg).bind fun r1=>(some ((),(r1.2.1,()))))
 else (let v2:Int:=(IntKind.wrap .i64 ((BitVec.ofInt (IntKind.bits .i64) a1 &&& BitVec.ofInt (IntKind.bits .i64) (1048575:Int)).toNat:Int))
 ((Zan v2).bind fun r3=>((Zaf r3.2.1).bind fun r4=>((Zbp r4.2.1).bind fun r5=>(bif (!decide (r5.2.2.1=(0:Int))) then (some ((),(false,())))
 else (let v6:Bool:=(!(decide (r5.2.1.rP=r3.2.1.rP) && (decide (r5.2.1.user=r3.2.1.user) && (decide (r5.2.1.name=r3.2.1.name) && (decide (r5.2.1.seed=r3.2.1.seed) && (decide (r5.2.1.height=r3.2.1.height) && ((r5.2.1.resident == r3.2.1.resident) && (decide (r5.2.1.protect=r3.2.1.protect) && ((r5.2.1.shared == r3.2.1.shared) && ((r5.2.1.backed == r3.2.1.backed) && true))))))))))
 (bif v6 then (some ((),(false,())))
 else (let v7:Int:=(IntKind.wrap .i64 ((BitVec.ofInt (IntKind.bits .i64) a2 &&& BitVec.ofInt (IntKind.bits .i64) (65535:Int)).toNat:Int))
 (bif decide (((r4.2.1).length:Int)=0) then none
 else (bif (decide ((0:Int) ≤ (Int.tmod v7 ((r4.2.1).length:Int))) && decide ((Int.tmod v7 ((r4.2.1).length:Int)) < ((r4.2.1).length:Int))) then (((r4.2.1)[((Int.tmod v7 ((r4.2.1).length:Int))).toNat]?).bind fun x8=>(bif (decide ((0:Int) ≤ (Int.tmod v7 ((r4.2.1).length:Int))) && decide ((Int.tmod v7 ((r4.2.1).length:Int)) < ((r4.2.1).length:Int))) then (((r4.2.1)[((Int.tmod v7 ((r4.2.1).length:Int))).toNat]?).bind fun x9=>(let v10:List (UInt8):=(List.set r4.2.1 ((Int.tmod v7 ((r4.2.1).length:Int))).toNat (UInt8.ofBitVec (x8.toBitVec ^^^ a3.toBitVec)))
 ((Zap a0).bind fun r11=>(bif r11.2.1 then ((Zap v10).bind fun r12=>(bif r12.2.1 then (bif small ((v10).length + (([(0:UInt8)]:List (UInt8)):List (UInt8)).length) 1 then ((Zap (v10 ++ ([(0:UInt8)]:List (UInt8)))).bind fun r13=>(bif r13.2.1 then ((Zbg).bind fun r14=>(some ((),(r14.2.1,()))))
 else (some ((),(false,())))))
 else none)
 else (some ((),(false,())))))
 else (some ((),(false,())))))))
 else none))
 else none)))))))))))
def S_Zac:FSpec T:=⟨[.f (.v (.rs 0)),.f (.v (.int .i64)),.f (.v (.int .i64)),.f (.v .u8)],[(.v .bool)],fun x=>Zac x.1 x.2.1 x.2.2.1 x.2.2.2.1⟩
def E_Zac:Env T:=⟨tab.find,cd,globs,flc,fun f ds=>match f with
    | 9=>some S_Zbg
    | 11=>some S_Zan
    | 13=>some S_Zaf
    | 16=>some S_Zbp
    | 17=>some S_Zap
    | _=>none,fun f=>match f with
    | 9=>true
    | 11=>true
    | 16=>true
    | 17=>true
    | _=>false⟩
def A_Zac:Loc2 T:=⟨fun id=>match id with
    | _=>none,fun r=>match r with
    | _=>none,fun r=>match r with
    | _=>false⟩
theorem Zac_eq (x:tySs T S_Zac.ps):run E_Zac A_Zac (Tryz.f4.body.getD .skip) (enterT E_Zac.C S_Zac.ps x) (retK E_Zac Tryz.f4.results.toList S_Zac.ps S_Zac.rs)=S_Zac.fn x:=by kernel_rfl
theorem Zac_env:EnvOk Tryz.prog E_Zac:=envOk (E:=E_Zac) cd_ok tys fl_ok fun f ds S h=>by
    dsimp only [E_Zac] at h
    split at h
    · cases h; exact Zbg_ok
    · cases h; exact Zan_ok
    · cases h; exact Zaf_ok
    · cases h; exact Zbp_ok
    · cases h; exact Zap_ok
    · cases h
theorem Zac_ok:SoundT Tryz.prog cd gdn 4 S_Zac:=
  sound_fn (E:=E_Zac) (A:=A_Zac) (done:=[]) (c:=(Tryz.f4.body.getD .skip)) (S:=S_Zac) (fn:=Tryz.f4) hmix Zac_env Tryz.func4 rfl (by kernel_rfl) (by kernel_rfl) done_nil (by kernel_rfl) (by kernel_rfl) Zac_eq
def Zco (a0:(BitVec 64)) (a1:(BitVec 64)):Option ((Unit) × ((BitVec 64) × Unit)):=
 (some ((),(((a0 <<< a1.toNat) ||| (a0 >>> (64#64 - a1).toNat)),())))
def S_Zco:FSpec T:=⟨[.f (.v .u64),.f (.v .u64)],[(.v .u64)],fun x=>Zco x.1 x.2.1⟩
def E_Zco:Env T:=⟨tab.find,cd,globs,flc,fun f ds=>match f with
    | _=>none,fun f=>match f with
    | _=>false⟩
def A_Zco:Loc2 T:=⟨fun id=>match id with
    | _=>none,fun r=>match r with
    | _=>none,fun r=>match r with
    | _=>false⟩
theorem Zco_eq (x:tySs T S_Zco.ps):run E_Zco A_Zco (Tryz.f153.body.getD .skip) (enterT E_Zco.C S_Zco.ps x) (retK E_Zco Tryz.f153.results.toList S_Zco.ps S_Zco.rs)=S_Zco.fn x:=by kernel_rfl
theorem Zco_env:EnvOk Tryz.prog E_Zco:=envOk (E:=E_Zco) cd_ok tys fl_ok fun f ds S h=>by cases h
theorem Zco_ok:SoundT Tryz.prog cd gdn 153 S_Zco:=
  sound_fn (E:=E_Zco) (A:=A_Zco) (done:=[]) (c:=(Tryz.f153.body.getD .skip)) (S:=S_Zco) (fn:=Tryz.f153) hmix Zco_env Tryz.func153 rfl (by kernel_rfl) (by kernel_rfl) done_nil (by kernel_rfl) (by kernel_rfl) Zco_eq
def Zbz (a0:Arr4_BitVec64):Option ((Unit) × (Arr4_BitVec64 × Unit)):=
 ((Zco a0.a1 (13#64)).bind fun r1=>((Zco (a0.a0 + a0.a1) (32#64)).bind fun r2=>((Zco a0.a3 (16#64)).bind fun r3=>((Zco (r3.2.1 ^^^ (a0.a2 + a0.a3)) (21#64)).bind fun r4=>((Zco (r1.2.1 ^^^ (a0.a0 + a0.a1)) (17#64)).bind fun r5=>(let v6:BitVec 64:=(r5.2.1 ^^^ ((a0.a2 + a0.a3) + (r1.2.1 ^^^ (a0.a0 + a0.a1))))
 ((Zco ((a0.a2 + a0.a3) + (r1.2.1 ^^^ (a0.a0 + a0.a1))) (32#64)).bind fun r7=>(some ((),((⟨(r2.2.1 + (r3.2.1 ^^^ (a0.a2 + a0.a3))),v6,r7.2.1,(r4.2.1 ^^^ (r2.2.1 + (r3.2.1 ^^^ (a0.a2 + a0.a3))))⟩:Arr4_BitVec64),()))))))))))
def S_Zbz:FSpec T:=⟨[.f (.v (.agg 14))],[(.v (.agg 14))],fun x=>Zbz x.1⟩
def E_Zbz:Env T:=⟨tab.find,cd,globs,flc,fun f ds=>match f with
    | 153=>some S_Zco
    | _=>none,fun f=>match f with
    | 153=>true
    | _=>false⟩
def A_Zbz:Loc2 T:=⟨fun id=>match id with
    | _=>none,fun r=>match r with
    | _=>none,fun r=>match r with
    | _=>false⟩
theorem Zbz_eq (x:tySs T S_Zbz.ps):run E_Zbz A_Zbz (Tryz.f121.body.getD .skip) (enterT E_Zbz.C S_Zbz.ps x) (retK E_Zbz Tryz.f121.results.toList S_Zbz.ps S_Zbz.rs)=S_Zbz.fn x:=by kernel_rfl
theorem Zbz_env:EnvOk Tryz.prog E_Zbz:=envOk (E:=E_Zbz) cd_ok tys fl_ok fun f ds S h=>by
    dsimp only [E_Zbz] at h
    split at h
    · cases h; exact Zco_ok
    · cases h
theorem Zbz_ok:SoundT Tryz.prog cd gdn 121 S_Zbz:=
  sound_fn (E:=E_Zbz) (A:=A_Zbz) (done:=[]) (c:=(Tryz.f121.body.getD .skip)) (S:=S_Zbz) (fn:=Tryz.f121) hmix Zbz_env Tryz.func121 rfl (by kernel_rfl) (by kernel_rfl) done_nil (by kernel_rfl) (by kernel_rfl) Zbz_eq
def Zda_L2b (y0:(List (UInt8))) (y1:(Arr4_BitVec64 × Unit)) (y2:Int) (y3:(BitVec 64)) (y4:Int):Option (((List (UInt8)) × (Arr4_BitVec64 × Unit) × Int × (BitVec 64) × Int × Unit) ⊕ ((List (UInt8)) × (Arr4_BitVec64 × Unit) × Int × (BitVec 64) × Unit)):=
 (bif (decide ((0:Int) ≤ y4)) then (bif (decide ((IntKind.wrap .i64 (y2 + y4)) < ((y0).length:Int))) then ((getI y0 (IntKind.wrap .i64 (y2 + y4))).bind fun x1=>(some (Sum.inl (y0,(y1.1,()),y2,((y3 <<< 8) ||| (BitVec.setWidth 64 x1.toBitVec)),(IntKind.wrap .i64 (y4 - (1:Int))),()))))
 else (bif (decide (y4=(7:Int))) then (let v2:BitVec 64:=(BitVec.setWidth 64 (UInt8.ofBitVec (BitVec.ofInt 8 ((y0).length:Int))).toBitVec)
 (some (Sum.inl (y0,(y1.1,()),y2,((y3 <<< 8) ||| v2),(IntKind.wrap .i64 (y4 - (1:Int))),()))))
 else (some (Sum.inl (y0,(y1.1,()),y2,((y3 <<< 8) ||| (BitVec.setWidth 64 (0:UInt8).toBitVec)),(IntKind.wrap .i64 (y4 - (1:Int))),())))))
 else (some (Sum.inr (y0,(y1.1,()),y2,y3,()))))
def Zda_L2 (y:((List (UInt8)) × (Arr4_BitVec64 × Unit) × Int × (BitVec 64) × Int × Unit)):Option ((List (UInt8)) × (Arr4_BitVec64 × Unit) × Int × (BitVec 64) × Unit):=iter (fun (y:((List (UInt8)) × (Arr4_BitVec64 × Unit) × Int × (BitVec 64) × Int × Unit))=>Zda_L2b y.1 y.2.1 y.2.2.1 y.2.2.2.1 y.2.2.2.2.1) rounds y
def Zda_L0b (y0:(List (UInt8))) (y1:(Arr4_BitVec64 × Unit)) (y2:Int):Option (((List (UInt8)) × (Arr4_BitVec64 × Unit) × Int × Unit) ⊕ ((Arr4_BitVec64 × Unit) × Unit)):=
 (bif (decide (y2 ≤ ((y0).length:Int))) then ((Zda_L2 (y0,(y1.1,()),y2,0#64,(7:Int),())).bind (fun (z1:((List (UInt8)) × (Arr4_BitVec64 × Unit) × Int × (BitVec 64) × Unit))=>((Zbz (⟨z1.2.1.1.a0,z1.2.1.1.a1,z1.2.1.1.a2,(z1.2.1.1.a3 ^^^ z1.2.2.2.1)⟩:Arr4_BitVec64)).bind fun r2=>((Zbz r2.2.1).bind fun r3=>(some (Sum.inl (z1.1,((⟨(r3.2.1.a0 ^^^ z1.2.2.2.1),r3.2.1.a1,r3.2.1.a2,r3.2.1.a3⟩:Arr4_BitVec64),()),(IntKind.wrap .i64 (z1.2.2.1 + (8:Int))),())))))))
 else (some (Sum.inr ((y1.1,()),()))))
def Zda_L0 (y:((List (UInt8)) × (Arr4_BitVec64 × Unit) × Int × Unit)):Option ((Arr4_BitVec64 × Unit) × Unit):=iter (fun (y:((List (UInt8)) × (Arr4_BitVec64 × Unit) × Int × Unit))=>Zda_L0b y.1 y.2.1 y.2.2.1) rounds y
def Zda (a0:(BitVec 64)) (a1:(BitVec 64)) (a2:(List (UInt8))):Option ((Unit) × ((BitVec 64) × Unit)):=
 ((Zda_L0 (a2,((⟨(a0 ^^^ 8317987319222330741#64),(a1 ^^^ 7237128888997146477#64),(a0 ^^^ 7816392313619706465#64),(a1 ^^^ 8387220255154660723#64)⟩:Arr4_BitVec64),()),(0:Int),())).bind (fun (z4:((Arr4_BitVec64 × Unit) × Unit))=>((Zbz (⟨z4.1.1.a0,z4.1.1.a1,(z4.1.1.a2 ^^^ 255#64),z4.1.1.a3⟩:Arr4_BitVec64)).bind fun r5=>((Zbz r5.2.1).bind fun r6=>((Zbz r6.2.1).bind fun r7=>((Zbz r7.2.1).bind fun r8=>(some ((),((((r8.2.1.a0 ^^^ r8.2.1.a1) ^^^ r8.2.1.a2) ^^^ r8.2.1.a3),())))))))))
def S_Zda:FSpec T:=⟨[.f (.v .u64),.f (.v .u64),.f (.v (.rs 0))],[(.v .u64)],fun x=>Zda x.1 x.2.1 x.2.2.1⟩
def E_Zda:Env T:=⟨tab.find,cd,globs,flc,fun f ds=>match f with
    | 121=>some S_Zbz
    | _=>none,fun f=>match f with
    | 121=>true
    | _=>false⟩
def A_Zda:Loc2 T:=⟨fun id=>match id with
    | 2=>some ⟨[(2,.f (.v (.rs 0))),(7,.ptr [(.v (.agg 14))]),(8,.f (.v (.int .i64))),(9,.f (.v .u64)),(10,.f (.v (.int .i64)))],[(.exit 2,[(2,.f (.v (.rs 0))),(7,.ptr [(.v (.agg 14))]),(8,.f (.v (.int .i64))),(9,.f (.v .u64))])],Zda_L2,[]⟩
    | 0=>some ⟨[(2,.f (.v (.rs 0))),(7,.ptr [(.v (.agg 14))]),(8,.f (.v (.int .i64)))],[(.exit 0,[(7,.ptr [(.v (.agg 14))])])],Zda_L0,[]⟩
    | _=>none,fun r=>match r with
    | _=>none,fun r=>match r with
    | _=>false⟩
theorem Zda_L2_eq (y0:(List (UInt8))) (y1:(Arr4_BitVec64 × Unit)) (y2:Int) (y3:(BitVec 64)) (y4:Int):run E_Zda A_Zda (loopAt 2 (Tryz.f87.body.getD .skip)) (layC cd [(2,.f (.v (.rs 0))),(7,.ptr [(.v (.agg 14))]),(8,.f (.v (.int .i64))),(9,.f (.v .u64)),(10,.f (.v (.int .i64)))] [] (y0,y1,y2,y3,y4,())) (roundK cd [(2,.f (.v (.rs 0))),(7,.ptr [(.v (.agg 14))]),(8,.f (.v (.int .i64))),(9,.f (.v .u64)),(10,.f (.v (.int .i64)))] [] [(.exit 2,[(2,.f (.v (.rs 0))),(7,.ptr [(.v (.agg 14))]),(8,.f (.v (.int .i64))),(9,.f (.v .u64))])])=Zda_L2b y0 y1 y2 y3 y4:=by kernel_rfl
theorem Zda_L0_eq (y0:(List (UInt8))) (y1:(Arr4_BitVec64 × Unit)) (y2:Int):run E_Zda A_Zda (loopAt 0 (Tryz.f87.body.getD .skip)) (layC cd [(2,.f (.v (.rs 0))),(7,.ptr [(.v (.agg 14))]),(8,.f (.v (.int .i64)))] [] (y0,y1,y2,())) (roundK cd [(2,.f (.v (.rs 0))),(7,.ptr [(.v (.agg 14))]),(8,.f (.v (.int .i64)))] [] [(.exit 0,[(7,.ptr [(.v (.agg 14))])])])=Zda_L0b y0 y1 y2:=by kernel_rfl
theorem Zda_eq (x:tySs T S_Zda.ps):run E_Zda A_Zda (Tryz.f87.body.getD .skip) (enterT E_Zda.C S_Zda.ps x) (retK E_Zda Tryz.f87.results.toList S_Zda.ps S_Zda.rs)=S_Zda.fn x:=by kernel_rfl
theorem Zda_env:EnvOk Tryz.prog E_Zda:=envOk (E:=E_Zda) cd_ok tys fl_ok fun f ds S h=>by
    dsimp only [E_Zda] at h
    split at h
    · cases h; exact Zbz_ok
    · cases h
theorem Zda_L2_ok:LoopOk Tryz.prog E_Zda Tryz.f87.ntmps (kqOf S_Zda.ps 0) (loopAt 2 (Tryz.f87.body.getD .skip)) ⟨[(2,.f (.v (.rs 0))),(7,.ptr [(.v (.agg 14))]),(8,.f (.v (.int .i64))),(9,.f (.v .u64)),(10,.f (.v (.int .i64)))],[(.exit 2,[(2,.f (.v (.rs 0))),(7,.ptr [(.v (.agg 14))]),(8,.f (.v (.int .i64))),(9,.f (.v .u64))])],Zda_L2,[]⟩:=
  loop_ok (A:=A_Zda) (done:=[]) (c0:=(Tryz.f87.body.getD .skip)) hmix Zda_env done_nil rounds (by kernel_rfl) (by kernel_rfl) (fun x=>Zda_L2_eq x.1 x.2.1 x.2.2.1 x.2.2.2.1 x.2.2.2.2.1) (fun _=>rfl)
theorem Zda_L0_ok:LoopOk Tryz.prog E_Zda Tryz.f87.ntmps (kqOf S_Zda.ps 0) (loopAt 0 (Tryz.f87.body.getD .skip)) ⟨[(2,.f (.v (.rs 0))),(7,.ptr [(.v (.agg 14))]),(8,.f (.v (.int .i64)))],[(.exit 0,[(7,.ptr [(.v (.agg 14))])])],Zda_L0,[]⟩:=
  loop_ok (A:=A_Zda) (done:=[2]) (c0:=(Tryz.f87.body.getD .skip)) hmix Zda_env (done_cons rfl Zda_L2_ok done_nil) rounds (by kernel_rfl) (by kernel_rfl) (fun x=>Zda_L0_eq x.1 x.2.1 x.2.2.1) (fun _=>rfl)
theorem Zda_ok:SoundT Tryz.prog cd gdn 87 S_Zda:=
  sound_fn (E:=E_Zda) (A:=A_Zda) (done:=[2,0]) (c:=(Tryz.f87.body.getD .skip)) (S:=S_Zda) (fn:=Tryz.f87) hmix Zda_env Tryz.func87 rfl (by kernel_rfl) (by kernel_rfl) (done_cons rfl Zda_L2_ok (done_cons rfl Zda_L0_ok done_nil)) (by kernel_rfl) (by kernel_rfl) Zda_eq
def Zcz (a0:(BitVec 64)) (a1:Int) (a2:(List (UInt8))):Option ((Unit) × ((BitVec 64) × Unit)):=
 ((Zda a0 (1#64 + (BitVec.ofInt 64 a1)) a2).bind fun r1=>(some ((),(r1.2.1,()))))
def S_Zcz:FSpec T:=⟨[.f (.v .u64),.f (.v (.int .i64)),.f (.v (.rs 0))],[(.v .u64)],fun x=>Zcz x.1 x.2.1 x.2.2.1⟩
def E_Zcz:Env T:=⟨tab.find,cd,globs,flc,fun f ds=>match f with
    | 87=>some S_Zda
    | _=>none,fun f=>match f with
    | 87=>true
    | _=>false⟩
def A_Zcz:Loc2 T:=⟨fun id=>match id with
    | _=>none,fun r=>match r with
    | _=>none,fun r=>match r with
    | _=>false⟩
theorem Zcz_eq (x:tySs T S_Zcz.ps):run E_Zcz A_Zcz (Tryz.f57.body.getD .skip) (enterT E_Zcz.C S_Zcz.ps x) (retK E_Zcz Tryz.f57.results.toList S_Zcz.ps S_Zcz.rs)=S_Zcz.fn x:=by kernel_rfl
theorem Zcz_env:EnvOk Tryz.prog E_Zcz:=envOk (E:=E_Zcz) cd_ok tys fl_ok fun f ds S h=>by
    dsimp only [E_Zcz] at h
    split at h
    · cases h; exact Zda_ok
    · cases h
theorem Zcz_ok:SoundT Tryz.prog cd gdn 57 S_Zcz:=
  sound_fn (E:=E_Zcz) (A:=A_Zcz) (done:=[]) (c:=(Tryz.f57.body.getD .skip)) (S:=S_Zcz) (fn:=Tryz.f57) hmix Zcz_env Tryz.func57 rfl (by kernel_rfl) (by kernel_rfl) done_nil (by kernel_rfl) (by kernel_rfl) Zcz_eq
def Zbk (a0:(BitVec 64)) (a1:(List UInt8)) (a2:Int):Option ((Unit) × ((BitVec 64) × Unit)):=
 (bif small ((a1).length + (([(0:UInt8)]:List (UInt8)):List (UInt8)).length) 1 then ((passkeyref1_Words ([(BitVec.ofInt 64 a2)]:List (BitVec 64))).bind fun r1=>(bif small (((a1 ++ ([(0:UInt8)]:List (UInt8)))).length + (r1.2.1:List (UInt8)).length) 1 then (let v2:List (UInt8):=((a1 ++ ([(0:UInt8)]:List (UInt8))) ++ r1.2.1)
 ((Zcz a0 (4:Int) v2).bind fun r3=>(some ((),(r3.2.1,())))))
 else none))
 else none)
def S_Zbk:FSpec T:=⟨[.f (.v .u64),.f (.v .str),.f (.v (.int .i64))],[(.v .u64)],fun x=>Zbk x.1 x.2.1 x.2.2.1⟩
def E_Zbk:Env T:=⟨tab.find,cd,globs,flc,fun f ds=>match f with
    | 21=>some S_passkeyref1_Words
    | 57=>some S_Zcz
    | _=>none,fun f=>match f with
    | 57=>true
    | _=>false⟩
def A_Zbk:Loc2 T:=⟨fun id=>match id with
    | _=>none,fun r=>match r with
    | _=>none,fun r=>match r with
    | _=>false⟩
theorem Zbk_eq (x:tySs T S_Zbk.ps):run E_Zbk A_Zbk (Tryz.f19.body.getD .skip) (enterT E_Zbk.C S_Zbk.ps x) (retK E_Zbk Tryz.f19.results.toList S_Zbk.ps S_Zbk.rs)=S_Zbk.fn x:=by kernel_rfl
theorem Zbk_env:EnvOk Tryz.prog E_Zbk:=envOk (E:=E_Zbk) cd_ok tys fl_ok fun f ds S h=>by
    dsimp only [E_Zbk] at h
    split at h
    · cases h; exact passkeyref1_Words_ok
    · cases h; exact Zcz_ok
    · cases h
theorem Zbk_ok:SoundT Tryz.prog cd gdn 19 S_Zbk:=
  sound_fn (E:=E_Zbk) (A:=A_Zbk) (done:=[]) (c:=(Tryz.f19.body.getD .skip)) (S:=S_Zbk) (fn:=Tryz.f19) hmix Zbk_env Tryz.func19 rfl (by kernel_rfl) (by kernel_rfl) done_nil (by kernel_rfl) (by kernel_rfl) Zbk_eq
def Zbn_L0b (y0:(BitVec 64)) (y1:(BitVec 64)) (y2:Int) (y3:(List (UInt8))) (y4:Int):Option (((BitVec 64) × (BitVec 64) × Int × (List (UInt8)) × Int × Unit) ⊕ (Int × (List (UInt8)) × Unit)):=
 (bif (decide (((y3).length:Int) < y2)) then ((passkeyref1_Words ([y1,(BitVec.ofInt 64 y4)]:List (BitVec 64))).bind fun r2=>((Zcz y0 (5:Int) r2.2.1).bind fun r3=>((passkeyref1_Words ([r3.2.1]:List (BitVec 64))).bind fun r4=>(bif small ((y3).length + (r4.2.1:List (UInt8)).length) 1 then (some (Sum.inl (y0,y1,y2,(y3 ++ r4.2.1),(IntKind.wrap .i64 (y4 + (1:Int))),())))
 else none))))
 else (some (Sum.inr (y2,y3,()))))
def Zbn_L0 (y:((BitVec 64) × (BitVec 64) × Int × (List (UInt8)) × Int × Unit)):Option (Int × (List (UInt8)) × Unit):=iter (fun (y:((BitVec 64) × (BitVec 64) × Int × (List (UInt8)) × Int × Unit))=>Zbn_L0b y.1 y.2.1 y.2.2.1 y.2.2.2.1 y.2.2.2.2.1) rounds y
def Zbn (a0:(BitVec 64)) (a1:(BitVec 64)) (a2:Int):Option ((Unit) × ((List (UInt8)) × Unit)):=
 (let v1:Int:=(bif decide ((1024:Int) < (bif decide (a2 < (0:Int)) then (0:Int) else a2)) then (1024:Int) else (bif decide (a2 < (0:Int)) then (0:Int) else a2))
 ((Zbn_L0 (a0,a1,v1,[],(0:Int),())).bind (fun (z5:(Int × (List (UInt8)) × Unit))=>(bif (decide ((0:Int) ≤ z5.1) && decide (z5.1 ≤ ((z5.2.1).length:Int))) then (bif decide ((z5.1).toNat ≤ (z5.2.1).length) then (some ((),((List.take (z5.1).toNat z5.2.1),())))
 else none)
 else none))))
def S_Zbn:FSpec T:=⟨[.f (.v .u64),.f (.v .u64),.f (.v (.int .i64))],[(.own 0)],fun x=>Zbn x.1 x.2.1 x.2.2.1⟩
def E_Zbn:Env T:=⟨tab.find,cd,globs,flc,fun f ds=>match f with
    | 21=>some S_passkeyref1_Words
    | 57=>some S_Zcz
    | _=>none,fun f=>match f with
    | 57=>true
    | _=>false⟩
def A_Zbn:Loc2 T:=⟨fun id=>match id with
    | 0=>some ⟨[(0,.f (.v .u64)),(1,.f (.v .u64)),(2,.f (.v (.int .i64))),(7,.f (.own 0)),(8,.f (.v (.int .i64)))],[(.exit 0,[(2,.f (.v (.int .i64))),(7,.f (.own 0))])],Zbn_L0,[]⟩
    | _=>none,fun r=>match r with
    | _=>none,fun r=>match r with
    | _=>false⟩
theorem Zbn_L0_eq (y0:(BitVec 64)) (y1:(BitVec 64)) (y2:Int) (y3:(List (UInt8))) (y4:Int):run E_Zbn A_Zbn (loopAt 0 (Tryz.f55.body.getD .skip)) (layC cd [(0,.f (.v .u64)),(1,.f (.v .u64)),(2,.f (.v (.int .i64))),(7,.f (.own 0)),(8,.f (.v (.int .i64)))] [] (y0,y1,y2,y3,y4,())) (roundK cd [(0,.f (.v .u64)),(1,.f (.v .u64)),(2,.f (.v (.int .i64))),(7,.f (.own 0)),(8,.f (.v (.int .i64)))] [] [(.exit 0,[(2,.f (.v (.int .i64))),(7,.f (.own 0))])])=Zbn_L0b y0 y1 y2 y3 y4:=by kernel_rfl
theorem Zbn_eq (x:tySs T S_Zbn.ps):run E_Zbn A_Zbn (Tryz.f55.body.getD .skip) (enterT E_Zbn.C S_Zbn.ps x) (retK E_Zbn Tryz.f55.results.toList S_Zbn.ps S_Zbn.rs)=S_Zbn.fn x:=by kernel_rfl
theorem Zbn_env:EnvOk Tryz.prog E_Zbn:=envOk (E:=E_Zbn) cd_ok tys fl_ok fun f ds S h=>by
    dsimp only [E_Zbn] at h
    split at h
    · cases h; exact passkeyref1_Words_ok
    · cases h; exact Zcz_ok
    · cases h
theorem Zbn_L0_ok:LoopOk Tryz.prog E_Zbn Tryz.f55.ntmps (kqOf S_Zbn.ps 0) (loopAt 0 (Tryz.f55.body.getD .skip)) ⟨[(0,.f (.v .u64)),(1,.f (.v .u64)),(2,.f (.v (.int .i64))),(7,.f (.own 0)),(8,.f (.v (.int .i64)))],[(.exit 0,[(2,.f (.v (.int .i64))),(7,.f (.own 0))])],Zbn_L0,[]⟩:=
  loop_ok (A:=A_Zbn) (done:=[]) (c0:=(Tryz.f55.body.getD .skip)) hmix Zbn_env done_nil rounds (by kernel_rfl) (by kernel_rfl) (fun x=>Zbn_L0_eq x.1 x.2.1 x.2.2.1 x.2.2.2.1 x.2.2.2.2.1) (fun _=>rfl)
theorem Zbn_ok:SoundT Tryz.prog cd gdn 55 S_Zbn:=
  sound_fn (E:=E_Zbn) (A:=A_Zbn) (done:=[0]) (c:=(Tryz.f55.body.getD .skip)) (S:=S_Zbn) (fn:=Tryz.f55) hmix Zbn_env Tryz.func55 rfl (by kernel_rfl) (by kernel_rfl) (done_cons rfl Zbn_L0_ok done_nil) (by kernel_rfl) (by kernel_rfl) Zbn_eq
def Zas (a0:(BitVec 64)):Option ((Unit) × ((BitVec 64) × Unit)):=
 ((Zbk a0 ([119,114,97,112]:List UInt8) (0:Int)).bind fun r1=>(some ((),(r1.2.1,()))))
def S_Zas:FSpec T:=⟨[.f (.v .u64)],[(.v .u64)],fun x=>Zas x.1⟩
def E_Zas:Env T:=⟨tab.find,cd,globs,flc,fun f ds=>match f with
    | 19=>some S_Zbk
    | _=>none,fun f=>match f with
    | 19=>true
    | _=>false⟩
def A_Zas:Loc2 T:=⟨fun id=>match id with
    | _=>none,fun r=>match r with
    | _=>none,fun r=>match r with
    | _=>false⟩
theorem Zas_eq (x:tySs T S_Zas.ps):run E_Zas A_Zas (Tryz.f56.body.getD .skip) (enterT E_Zas.C S_Zas.ps x) (retK E_Zas Tryz.f56.results.toList S_Zas.ps S_Zas.rs)=S_Zas.fn x:=by kernel_rfl
theorem Zas_env:EnvOk Tryz.prog E_Zas:=envOk (E:=E_Zas) cd_ok tys fl_ok fun f ds S h=>by
    dsimp only [E_Zas] at h
    split at h
    · cases h; exact Zbk_ok
    · cases h
theorem Zas_ok:SoundT Tryz.prog cd gdn 56 S_Zas:=
  sound_fn (E:=E_Zas) (A:=A_Zas) (done:=[]) (c:=(Tryz.f56.body.getD .skip)) (S:=S_Zas) (fn:=Tryz.f56) hmix Zas_env Tryz.func56 rfl (by kernel_rfl) (by kernel_rfl) done_nil (by kernel_rfl) (by kernel_rfl) Zas_eq
def Zck (a0:Int) (a1:(List (UInt8))):Option ((Unit) × ((BitVec 64) × Unit)):=
 ((Zda (BitVec.ofInt 64 a0) (0#64) a1).bind fun r1=>(some ((),(r1.2.1,()))))
def S_Zck:FSpec T:=⟨[.f (.v (.int .i64)),.f (.v (.rs 0))],[(.v .u64)],fun x=>Zck x.1 x.2.1⟩
def E_Zck:Env T:=⟨tab.find,cd,globs,flc,fun f ds=>match f with
    | 87=>some S_Zda
    | _=>none,fun f=>match f with
    | 87=>true
    | _=>false⟩
def A_Zck:Loc2 T:=⟨fun id=>match id with
    | _=>none,fun r=>match r with
    | _=>none,fun r=>match r with
    | _=>false⟩
theorem Zck_eq (x:tySs T S_Zck.ps):run E_Zck A_Zck (Tryz.f60.body.getD .skip) (enterT E_Zck.C S_Zck.ps x) (retK E_Zck Tryz.f60.results.toList S_Zck.ps S_Zck.rs)=S_Zck.fn x:=by kernel_rfl
theorem Zck_env:EnvOk Tryz.prog E_Zck:=envOk (E:=E_Zck) cd_ok tys fl_ok fun f ds S h=>by
    dsimp only [E_Zck] at h
    split at h
    · cases h; exact Zda_ok
    · cases h
theorem Zck_ok:SoundT Tryz.prog cd gdn 60 S_Zck:=
  sound_fn (E:=E_Zck) (A:=A_Zck) (done:=[]) (c:=(Tryz.f60.body.getD .skip)) (S:=S_Zck) (fn:=Tryz.f60) hmix Zck_env Tryz.func60 rfl (by kernel_rfl) (by kernel_rfl) done_nil (by kernel_rfl) (by kernel_rfl) Zck_eq
def Zay (a0:(List UInt8)):Option ((Unit) × ((BitVec 64) × Unit)):=
 ((Zck (9:Int) a0).bind fun r1=>(some ((),(r1.2.1,()))))
def S_Zay:FSpec T:=⟨[.f (.v .str)],[(.v .u64)],fun x=>Zay x.1⟩
def E_Zay:Env T:=⟨tab.find,cd,globs,flc,fun f ds=>match f with
    | 60=>some S_Zck
    | _=>none,fun f=>match f with
    | 60=>true
    | _=>false⟩
def A_Zay:Loc2 T:=⟨fun id=>match id with
    | _=>none,fun r=>match r with
    | _=>none,fun r=>match r with
    | _=>false⟩
theorem Zay_eq (x:tySs T S_Zay.ps):run E_Zay A_Zay (Tryz.f22.body.getD .skip) (enterT E_Zay.C S_Zay.ps x) (retK E_Zay Tryz.f22.results.toList S_Zay.ps S_Zay.rs)=S_Zay.fn x:=by kernel_rfl
theorem Zay_env:EnvOk Tryz.prog E_Zay:=envOk (E:=E_Zay) cd_ok tys fl_ok fun f ds S h=>by
    dsimp only [E_Zay] at h
    split at h
    · cases h; exact Zck_ok
    · cases h
theorem Zay_ok:SoundT Tryz.prog cd gdn 22 S_Zay:=
  sound_fn (E:=E_Zay) (A:=A_Zay) (done:=[]) (c:=(Tryz.f22.body.getD .skip)) (S:=S_Zay) (fn:=Tryz.f22) hmix Zay_env Tryz.func22 rfl (by kernel_rfl) (by kernel_rfl) done_nil (by kernel_rfl) (by kernel_rfl) Zay_eq
def Zdb_L0b (y0:(List (UInt8))) (y1:(List (UInt8))) (y2:(List (UInt8))) (y3:Int):Option (((List (UInt8)) × (List (UInt8)) × (List (UInt8)) × Int × Unit) ⊕ ((List (UInt8)) × Unit)):=
 (bif (decide (y3 < ((y0).length:Int))) then ((getI y0 y3).bind fun x2=>(bif (decide ((0:Int) ≤ y3) && decide (y3 < ((y1).length:Int))) then (((y1)[(y3).toNat]?).bind fun x3=>(let v4:List (UInt8):=([(UInt8.ofBitVec (x2.toBitVec ^^^ x3.toBitVec))]:List (UInt8))
 (bif small ((y2).length + (v4:List (UInt8)).length) 1 then (some (Sum.inl (y0,y1,(y2 ++ v4),(IntKind.wrap .i64 (y3 + (1:Int))),())))
 else none)))
 else none))
 else (some (Sum.inr (y2,()))))
def Zdb_L0 (y:((List (UInt8)) × (List (UInt8)) × (List (UInt8)) × Int × Unit)):Option ((List (UInt8)) × Unit):=iter (fun (y:((List (UInt8)) × (List (UInt8)) × (List (UInt8)) × Int × Unit))=>Zdb_L0b y.1 y.2.1 y.2.2.1 y.2.2.2.1) rounds y
def Zdb (a0:(BitVec 64)) (a1:(BitVec 64)) (a2:(List (UInt8))):Option ((Unit) × ((List (UInt8)) × Unit)):=
 ((Zbn a0 a1 ((a2).length:Int)).bind fun r1=>((Zdb_L0 (a2,r1.2.1,[],(0:Int),())).bind (fun (z5:((List (UInt8)) × Unit))=>(some ((),(z5.1,()))))))
def S_Zdb:FSpec T:=⟨[.f (.v .u64),.f (.v .u64),.f (.v (.rs 0))],[(.own 0)],fun x=>Zdb x.1 x.2.1 x.2.2.1⟩
def E_Zdb:Env T:=⟨tab.find,cd,globs,flc,fun f ds=>match f with
    | 55=>some S_Zbn
    | _=>none,fun f=>match f with
    | _=>false⟩
def A_Zdb:Loc2 T:=⟨fun id=>match id with
    | 0=>some ⟨[(2,.f (.v (.rs 0))),(7,.f (.own 0)),(8,.f (.own 0)),(9,.f (.v (.int .i64)))],[(.exit 0,[(8,.f (.own 0))])],Zdb_L0,[]⟩
    | _=>none,fun r=>match r with
    | _=>none,fun r=>match r with
    | _=>false⟩
theorem Zdb_L0_eq (y0:(List (UInt8))) (y1:(List (UInt8))) (y2:(List (UInt8))) (y3:Int):run E_Zdb A_Zdb (loopAt 0 (Tryz.f58.body.getD .skip)) (layC cd [(2,.f (.v (.rs 0))),(7,.f (.own 0)),(8,.f (.own 0)),(9,.f (.v (.int .i64)))] [] (y0,y1,y2,y3,())) (roundK cd [(2,.f (.v (.rs 0))),(7,.f (.own 0)),(8,.f (.own 0)),(9,.f (.v (.int .i64)))] [] [(.exit 0,[(8,.f (.own 0))])])=Zdb_L0b y0 y1 y2 y3:=by kernel_rfl
theorem Zdb_eq (x:tySs T S_Zdb.ps):run E_Zdb A_Zdb (Tryz.f58.body.getD .skip) (enterT E_Zdb.C S_Zdb.ps x) (retK E_Zdb Tryz.f58.results.toList S_Zdb.ps S_Zdb.rs)=S_Zdb.fn x:=by kernel_rfl
theorem Zdb_env:EnvOk Tryz.prog E_Zdb:=envOk (E:=E_Zdb) cd_ok tys fl_ok fun f ds S h=>by
    dsimp only [E_Zdb] at h
    split at h
    · cases h; exact Zbn_ok
    · cases h
theorem Zdb_L0_ok:LoopOk Tryz.prog E_Zdb Tryz.f58.ntmps (kqOf S_Zdb.ps 0) (loopAt 0 (Tryz.f58.body.getD .skip)) ⟨[(2,.f (.v (.rs 0))),(7,.f (.own 0)),(8,.f (.own 0)),(9,.f (.v (.int .i64)))],[(.exit 0,[(8,.f (.own 0))])],Zdb_L0,[]⟩:=
  loop_ok (A:=A_Zdb) (done:=[]) (c0:=(Tryz.f58.body.getD .skip)) hmix Zdb_env done_nil rounds (by kernel_rfl) (by kernel_rfl) (fun x=>Zdb_L0_eq x.1 x.2.1 x.2.2.1 x.2.2.2.1) (fun _=>rfl)
theorem Zdb_ok:SoundT Tryz.prog cd gdn 58 S_Zdb:=
  sound_fn (E:=E_Zdb) (A:=A_Zdb) (done:=[0]) (c:=(Tryz.f58.body.getD .skip)) (S:=S_Zdb) (fn:=Tryz.f58) hmix Zdb_env Tryz.func58 rfl (by kernel_rfl) (by kernel_rfl) (done_cons rfl Zdb_L0_ok done_nil) (by kernel_rfl) (by kernel_rfl) Zdb_eq
def Zdc (a0:(BitVec 64)) (a1:(BitVec 64)) (a2:(List (UInt8))) (a3:(List (UInt8))):Option ((Unit) × ((BitVec 64) × Unit)):=
 (let v1:List (BitVec 64):=([a1,(BitVec.ofInt 64 ((a2).length:Int))]:List (BitVec 64))
 ((passkeyref1_Words v1).bind fun r2=>(bif small ((r2.2.1).length + (a2:List (UInt8)).length) 1 then (bif small (((r2.2.1 ++ a2)).length + (a3:List (UInt8)).length) 1 then ((Zcz a0 (6:Int) ((r2.2.1 ++ a2) ++ a3)).bind fun r3=>(some ((),(r3.2.1,()))))
 else none)
 else none)))
def S_Zdc:FSpec T:=⟨[.f (.v .u64),.f (.v .u64),.f (.v (.rs 0)),.f (.v (.rs 0))],[(.v .u64)],fun x=>Zdc x.1 x.2.1 x.2.2.1 x.2.2.2.1⟩
def E_Zdc:Env T:=⟨tab.find,cd,globs,flc,fun f ds=>match f with
    | 21=>some S_passkeyref1_Words
    | 57=>some S_Zcz
    | _=>none,fun f=>match f with
    | 57=>true
    | _=>false⟩
def A_Zdc:Loc2 T:=⟨fun id=>match id with
    | _=>none,fun r=>match r with
    | _=>none,fun r=>match r with
    | _=>false⟩
theorem Zdc_eq (x:tySs T S_Zdc.ps):run E_Zdc A_Zdc (Tryz.f59.body.getD .skip) (enterT E_Zdc.C S_Zdc.ps x) (retK E_Zdc Tryz.f59.results.toList S_Zdc.ps S_Zdc.rs)=S_Zdc.fn x:=by kernel_rfl
theorem Zdc_env:EnvOk Tryz.prog E_Zdc:=envOk (E:=E_Zdc) cd_ok tys fl_ok fun f ds S h=>by
    dsimp only [E_Zdc] at h
    split at h
    · cases h; exact passkeyref1_Words_ok
    · cases h; exact Zcz_ok
    · cases h
theorem Zdc_ok:SoundT Tryz.prog cd gdn 59 S_Zdc:=
  sound_fn (E:=E_Zdc) (A:=A_Zdc) (done:=[]) (c:=(Tryz.f59.body.getD .skip)) (S:=S_Zdc) (fn:=Tryz.f59) hmix Zdc_env Tryz.func59 rfl (by kernel_rfl) (by kernel_rfl) done_nil (by kernel_rfl) (by kernel_rfl) Zdc_eq
def Zcq (a0:(BitVec 64)) (a1:(BitVec 64)) (a2:(List (UInt8))) (a3:(List (UInt8))):Option ((Unit) × ((List (UInt8)) × Int × Unit)):=
 (bif (decide ((1024:Int) < ((a3).length:Int))) then (some ((),([],(8:Int),())))
 else (bif (decide ((1024:Int) < ((a2).length:Int))) then (some ((),([],(8:Int),())))
 else ((Zdb a0 a1 a3).bind fun r1=>((passkeyref1_Words ([a1]:List (BitVec 64))).bind fun r2=>(bif small ((r2.2.1).length + (r1.2.1:List (UInt8)).length) 1 then ((Zdc a0 a1 a2 r1.2.1).bind fun r3=>((passkeyref1_Words ([r3.2.1]:List (BitVec 64))).bind fun r4=>(bif small (((r2.2.1 ++ r1.2.1)).length + (r4.2.1:List (UInt8)).length) 1 then (some ((),(((r2.2.1 ++ r1.2.1) ++ r4.2.1),(0:Int),())))
 else none)))
 else none)))))
def S_Zcq:FSpec T:=⟨[.f (.v .u64),.f (.v .u64),.f (.v (.rs 0)),.f (.v (.rs 0))],[(.own 0),(.v (.int .i64))],fun x=>Zcq x.1 x.2.1 x.2.2.1 x.2.2.2.1⟩
def E_Zcq:Env T:=⟨tab.find,cd,globs,flc,fun f ds=>match f with
    | 21=>some S_passkeyref1_Words
    | 58=>some S_Zdb
    | 59=>some S_Zdc
    | _=>none,fun f=>match f with
    | 59=>true
    | _=>false⟩
def A_Zcq:Loc2 T:=⟨fun id=>match id with
    | _=>none,fun r=>match r with
    | _=>none,fun r=>match r with
    | _=>false⟩
theorem Zcq_eq (x:tySs T S_Zcq.ps):run E_Zcq A_Zcq (Tryz.f20.body.getD .skip) (enterT E_Zcq.C S_Zcq.ps x) (retK E_Zcq Tryz.f20.results.toList S_Zcq.ps S_Zcq.rs)=S_Zcq.fn x:=by kernel_rfl
theorem Zcq_env:EnvOk Tryz.prog E_Zcq:=envOk (E:=E_Zcq) cd_ok tys fl_ok fun f ds S h=>by
    dsimp only [E_Zcq] at h
    split at h
    · cases h; exact passkeyref1_Words_ok
    · cases h; exact Zdb_ok
    · cases h; exact Zdc_ok
    · cases h
theorem Zcq_ok:SoundT Tryz.prog cd gdn 20 S_Zcq:=
  sound_fn (E:=E_Zcq) (A:=A_Zcq) (done:=[]) (c:=(Tryz.f20.body.getD .skip)) (S:=S_Zcq) (fn:=Tryz.f20) hmix Zcq_env Tryz.func20 rfl (by kernel_rfl) (by kernel_rfl) done_nil (by kernel_rfl) (by kernel_rfl) Zcq_eq
def Zcy (a0:(BitVec 64)) (a1:(BitVec 64)) (a2:ApiCredential):Option ((Unit) × ((List (UInt8)) × Int × Unit)):=
 ((Zaf a2).bind fun r1=>(bif (!decide (r1.2.2.1=(0:Int))) then (some ((),([],r1.2.2.1,())))
 else (bif a2.resident then ((Zbk a2.seed ([105,100]:List UInt8) (0:Int)).bind fun r2=>((Zbn r2.2.1 (0#64) (176:Int)).bind fun r3=>(some ((),(r3.2.1,(0:Int),())))))
 else (let v4:List (UInt8):=(List.replicate 160 (0:UInt8))
 (bif decide ((r1.2.1:List (UInt8)).length ≤ (v4).length) then (let v5:List (UInt8):=(r1.2.1 ++ List.drop (r1.2.1:List (UInt8)).length v4)
 ((Zas a0).bind fun r6=>((Zay a2.rP).bind fun r7=>((passkeyref1_Words ([r7.2.1]:List (BitVec 64))).bind fun r8=>((Zcq r6.2.1 a1 r8.2.1 v5).bind fun r9=>(some ((),(r9.2.1,r9.2.2.1,()))))))))
 else none)))))
def S_Zcy:FSpec T:=⟨[.f (.v .u64),.f (.v .u64),.f (.v (.agg 2))],[(.own 0),(.v (.int .i64))],fun x=>Zcy x.1 x.2.1 x.2.2.1⟩
def E_Zcy:Env T:=⟨tab.find,cd,globs,flc,fun f ds=>match f with
    | 13=>some S_Zaf
    | 19=>some S_Zbk
    | 20=>some S_Zcq
    | 21=>some S_passkeyref1_Words
    | 22=>some S_Zay
    | 55=>some S_Zbn
    | 56=>some S_Zas
    | _=>none,fun f=>match f with
    | 19=>true
    | 22=>true
    | 56=>true
    | _=>false⟩
def A_Zcy:Loc2 T:=⟨fun id=>match id with
    | _=>none,fun r=>match r with
    | _=>none,fun r=>match r with
    | _=>false⟩
theorem Zcy_eq (x:tySs T S_Zcy.ps):run E_Zcy A_Zcy (Tryz.f18.body.getD .skip) (enterT E_Zcy.C S_Zcy.ps x) (retK E_Zcy Tryz.f18.results.toList S_Zcy.ps S_Zcy.rs)=S_Zcy.fn x:=by kernel_rfl
theorem Zcy_env:EnvOk Tryz.prog E_Zcy:=envOk (E:=E_Zcy) cd_ok tys fl_ok fun f ds S h=>by
    dsimp only [E_Zcy] at h
    split at h
    · cases h; exact Zaf_ok
    · cases h; exact Zbk_ok
    · cases h; exact Zcq_ok
    · cases h; exact passkeyref1_Words_ok
    · cases h; exact Zay_ok
    · cases h; exact Zbn_ok
    · cases h; exact Zas_ok
    · cases h
theorem Zcy_ok:SoundT Tryz.prog cd gdn 18 S_Zcy:=
  sound_fn (E:=E_Zcy) (A:=A_Zcy) (done:=[]) (c:=(Tryz.f18.body.getD .skip)) (S:=S_Zcy) (fn:=Tryz.f18) hmix Zcy_env Tryz.func18 rfl (by kernel_rfl) (by kernel_rfl) done_nil (by kernel_rfl) (by kernel_rfl) Zcy_eq
def Zcm_L0b (y0:(List (UInt8))) (y1:(BitVec 64)) (y2:Int):Option (((List (UInt8)) × (BitVec 64) × Int × Unit) ⊕ ((BitVec 64) × Unit)):=
 (bif (decide (y2 < (8:Int))) then (bif (decide (y2 < ((y0).length:Int))) then ((getI y0 y2).bind fun x1=>(some (Sum.inl (y0,((y1 <<< 8) ||| (BitVec.setWidth 64 x1.toBitVec)),(IntKind.wrap .i64 (y2 + (1:Int))),()))))
 else (some (Sum.inr (y1,()))))
 else (some (Sum.inr (y1,()))))
def Zcm_L0 (y:((List (UInt8)) × (BitVec 64) × Int × Unit)):Option ((BitVec 64) × Unit):=iter (fun (y:((List (UInt8)) × (BitVec 64) × Int × Unit))=>Zcm_L0b y.1 y.2.1 y.2.2.1) rounds y
def Zcm (a0:(List (UInt8))):Option ((Unit) × ((BitVec 64) × Unit)):=
 ((Zcm_L0 (a0,0#64,(0:Int),())).bind (fun (z2:((BitVec 64) × Unit))=>(some ((),(z2.1,())))))
def S_Zcm:FSpec T:=⟨[.f (.v (.rs 0))],[(.v .u64)],fun x=>Zcm x.1⟩
def E_Zcm:Env T:=⟨tab.find,cd,globs,flc,fun f ds=>match f with
    | _=>none,fun f=>match f with
    | _=>false⟩
def A_Zcm:Loc2 T:=⟨fun id=>match id with
    | 0=>some ⟨[(0,.f (.v (.rs 0))),(3,.f (.v .u64)),(4,.f (.v (.int .i64)))],[(.exit 0,[(3,.f (.v .u64))])],Zcm_L0,[]⟩
    | _=>none,fun r=>match r with
    | _=>none,fun r=>match r with
    | _=>false⟩
theorem Zcm_L0_eq (y0:(List (UInt8))) (y1:(BitVec 64)) (y2:Int):run E_Zcm A_Zcm (loopAt 0 (Tryz.f122.body.getD .skip)) (layC cd [(0,.f (.v (.rs 0))),(3,.f (.v .u64)),(4,.f (.v (.int .i64)))] [] (y0,y1,y2,())) (roundK cd [(0,.f (.v (.rs 0))),(3,.f (.v .u64)),(4,.f (.v (.int .i64)))] [] [(.exit 0,[(3,.f (.v .u64))])])=Zcm_L0b y0 y1 y2:=by kernel_rfl
theorem Zcm_eq (x:tySs T S_Zcm.ps):run E_Zcm A_Zcm (Tryz.f122.body.getD .skip) (enterT E_Zcm.C S_Zcm.ps x) (retK E_Zcm Tryz.f122.results.toList S_Zcm.ps S_Zcm.rs)=S_Zcm.fn x:=by kernel_rfl
theorem Zcm_env:EnvOk Tryz.prog E_Zcm:=envOk (E:=E_Zcm) cd_ok tys fl_ok fun f ds S h=>by cases h
theorem Zcm_L0_ok:LoopOk Tryz.prog E_Zcm Tryz.f122.ntmps (kqOf S_Zcm.ps 0) (loopAt 0 (Tryz.f122.body.getD .skip)) ⟨[(0,.f (.v (.rs 0))),(3,.f (.v .u64)),(4,.f (.v (.int .i64)))],[(.exit 0,[(3,.f (.v .u64))])],Zcm_L0,[]⟩:=
  loop_ok (A:=A_Zcm) (done:=[]) (c0:=(Tryz.f122.body.getD .skip)) hmix Zcm_env done_nil rounds (by kernel_rfl) (by kernel_rfl) (fun x=>Zcm_L0_eq x.1 x.2.1 x.2.2.1) (fun _=>rfl)
theorem Zcm_ok:SoundT Tryz.prog cd gdn 122 S_Zcm:=
  sound_fn (E:=E_Zcm) (A:=A_Zcm) (done:=[0]) (c:=(Tryz.f122.body.getD .skip)) (S:=S_Zcm) (fn:=Tryz.f122) hmix Zcm_env Tryz.func122 rfl (by kernel_rfl) (by kernel_rfl) (done_cons rfl Zcm_L0_ok done_nil) (by kernel_rfl) (by kernel_rfl) Zcm_eq
def Zcp (a0:(BitVec 64)) (a1:(List (UInt8))) (a2:(List (UInt8))):Option ((Unit) × ((List (UInt8)) × Int × Unit)):=
 (bif (decide (((a2).length:Int) < (16:Int))) then (some ((),([],(1:Int),())))
 else (bif (decide ((1040:Int) < ((a2).length:Int))) then (some ((),([],(8:Int),())))
 else (bif (decide ((1024:Int) < ((a1).length:Int))) then (some ((),([],(8:Int),())))
 else (bif decide ((8:Int) ≤ ((a2).length:Int)) then ((Zcm (List.take 8 a2)).bind fun r1=>(bif (decide ((0:Int) ≤ (IntKind.wrap .i64 (((a2).length:Int) - (8:Int)))) && decide ((IntKind.wrap .i64 (((a2).length:Int) - (8:Int))) ≤ ((a2).length:Int))) then (bif decide ((8:Int) ≤ (((IntKind.wrap .i64 (((a2).length:Int) - (8:Int)))).toNat:Int)) then (let v2:List (UInt8):=(List.drop 8 (List.take ((IntKind.wrap .i64 (((a2).length:Int) - (8:Int)))).toNat a2))
 (bif (decide ((0:Int) ≤ (IntKind.wrap .i64 (((a2).length:Int) - (8:Int)))) && decide ((IntKind.wrap .i64 (((a2).length:Int) - (8:Int))) ≤ ((a2).length:Int))) then (let v3:List (UInt8):=(List.drop ((IntKind.wrap .i64 (((a2).length:Int) - (8:Int)))).toNat a2)
 ((Zcm v3).bind fun r4=>((Zdc a0 r1.2.1 a1 v2).bind fun r5=>(bif (!decide (r4.2.1=r5.2.1)) then (some ((),([],(14:Int),())))
 else ((Zdb a0 r1.2.1 v2).bind fun r6=>(some ((),(r6.2.1,(0:Int),()))))))))
 else none))
 else none)
 else none))
 else none))))
def S_Zcp:FSpec T:=⟨[.f (.v .u64),.f (.v (.rs 0)),.f (.v (.rs 0))],[(.own 0),(.v (.int .i64))],fun x=>Zcp x.1 x.2.1 x.2.2.1⟩
def E_Zcp:Env T:=⟨tab.find,cd,globs,flc,fun f ds=>match f with
    | 58=>some S_Zdb
    | 59=>some S_Zdc
    | 122=>some S_Zcm
    | _=>none,fun f=>match f with
    | 59=>true
    | 122=>true
    | _=>false⟩
def A_Zcp:Loc2 T:=⟨fun id=>match id with
    | _=>none,fun r=>match r with
    | _=>none,fun r=>match r with
    | _=>false⟩
theorem Zcp_eq (x:tySs T S_Zcp.ps):run E_Zcp A_Zcp (Tryz.f88.body.getD .skip) (enterT E_Zcp.C S_Zcp.ps x) (retK E_Zcp Tryz.f88.results.toList S_Zcp.ps S_Zcp.rs)=S_Zcp.fn x:=by kernel_rfl
theorem Zcp_env:EnvOk Tryz.prog E_Zcp:=envOk (E:=E_Zcp) cd_ok tys fl_ok fun f ds S h=>by
    dsimp only [E_Zcp] at h
    split at h
    · cases h; exact Zdb_ok
    · cases h; exact Zdc_ok
    · cases h; exact Zcm_ok
    · cases h
theorem Zcp_ok:SoundT Tryz.prog cd gdn 88 S_Zcp:=
  sound_fn (E:=E_Zcp) (A:=A_Zcp) (done:=[]) (c:=(Tryz.f88.body.getD .skip)) (S:=S_Zcp) (fn:=Tryz.f88) hmix Zcp_env Tryz.func88 rfl (by kernel_rfl) (by kernel_rfl) done_nil (by kernel_rfl) (by kernel_rfl) Zcp_eq
def Zaz_L0b (y0:(List UInt8)) (y1:(ApiCredential × Unit)) (y2:(List (UInt8))) (y3:(ApiCredential × Unit)) (y4:Bool) (y5:Int):Option (((List UInt8) × (ApiCredential × Unit) × (List (UInt8)) × (ApiCredential × Unit) × Bool × Int × Unit) ⊕ ((List UInt8) × (ApiCredential × Unit) × (ApiCredential × Unit) × Bool × Unit)):=
 (bif (decide (y5 < ((y2).length:Int))) then (bif y4 then (bif (decide ((0:Int) ≤ y5) && decide (y5 < ((y2).length:Int))) then (((y2)[(y5).toNat]?).bind fun x6=>(some (Sum.inl (y0,(y1.1,()),y2,(y3.1,()),(decide (x6.toBitVec=(0:UInt8).toBitVec)),(IntKind.wrap .i64 (y5 + (1:Int))),()))))
 else none)
 else (some (Sum.inl (y0,(y1.1,()),y2,(y3.1,()),false,(IntKind.wrap .i64 (y5 + (1:Int))),()))))
 else (some (Sum.inr (y0,(y1.1,()),(y3.1,()),y4,()))))
def Zaz_L0 (y:((List UInt8) × (ApiCredential × Unit) × (List (UInt8)) × (ApiCredential × Unit) × Bool × Int × Unit)):Option ((List UInt8) × (ApiCredential × Unit) × (ApiCredential × Unit) × Bool × Unit):=iter (fun (y:((List UInt8) × (ApiCredential × Unit) × (List (UInt8)) × (ApiCredential × Unit) × Bool × Int × Unit))=>Zaz_L0b y.1 y.2.1 y.2.2.1 y.2.2.2.1 y.2.2.2.2.1 y.2.2.2.2.2.1) rounds y
def Zaz (a0:(BitVec 64)) (a1:(List UInt8)) (a2:(List (UInt8))):Option ((Unit) × (ApiCredential × Int × Unit)):=
 (bif (!decide (((a2).length:Int)=(176:Int))) then (some ((),((⟨([]:List UInt8),([]:List UInt8),([]:List UInt8),0#64,(0:Int),false,(0:Int),false,false⟩:ApiCredential),(4:Int),())))
 else ((Zas a0).bind fun r1=>((Zay a1).bind fun r2=>((passkeyref1_Words ([r2.2.1]:List (BitVec 64))).bind fun r3=>((Zcp r1.2.1 r3.2.1 a2).bind fun r4=>(bif (!decide (r4.2.2.1=(0:Int))) then (some ((),((⟨([]:List UInt8),([]:List UInt8),([]:List UInt8),0#64,(0:Int),false,(0:Int),false,false⟩:ApiCredential),r4.2.2.1,())))
 else ((Zbu r4.2.1).bind fun r5=>((Zaz_L0 (a1,((⟨([]:List UInt8),([]:List UInt8),([]:List UInt8),0#64,(0:Int),false,(0:Int),false,false⟩:ApiCredential),()),r4.2.1,(r5.2.1,()),r5.2.2.2.1,r5.2.2.1,())).bind (fun (z7:((List UInt8) × (ApiCredential × Unit) × (ApiCredential × Unit) × Bool × Unit))=>(bif (!z7.2.2.2.1) then (some ((),((⟨([]:List UInt8),([]:List UInt8),([]:List UInt8),0#64,(0:Int),false,(0:Int),false,false⟩:ApiCredential),(2:Int),())))
 else (bif z7.2.2.1.1.resident then (some ((),((⟨([]:List UInt8),([]:List UInt8),([]:List UInt8),0#64,(0:Int),false,(0:Int),false,false⟩:ApiCredential),(11:Int),())))
 else (bif (!decide (z7.2.2.1.1.rP=z7.1)) then (some ((),((⟨([]:List UInt8),([]:List UInt8),([]:List UInt8),0#64,(0:Int),false,(0:Int),false,false⟩:ApiCredential),(11:Int),())))
 else (some ((),(z7.2.2.1.1,(0:Int),())))))))))))))))
def S_Zaz:FSpec T:=⟨[.f (.v .u64),.f (.v .str),.f (.v (.rs 0))],[(.v (.agg 2)),(.v (.int .i64))],fun x=>Zaz x.1 x.2.1 x.2.2.1⟩
def E_Zaz:Env T:=⟨tab.find,cd,globs,flc,fun f ds=>match f with
    | 21=>some S_passkeyref1_Words
    | 22=>some S_Zay
    | 56=>some S_Zas
    | 86=>some S_Zbu
    | 88=>some S_Zcp
    | _=>none,fun f=>match f with
    | 22=>true
    | 56=>true
    | 86=>true
    | _=>false⟩
def A_Zaz:Loc2 T:=⟨fun id=>match id with
    | 0=>some ⟨[(1,.f (.v .str)),(6,.ptr [(.v (.agg 2))]),(8,.f (.own 0)),(10,.ptr [(.v (.agg 2))]),(12,.f (.v .bool)),(13,.f (.v (.int .i64)))],[(.exit 0,[(1,.f (.v .str)),(6,.ptr [(.v (.agg 2))]),(10,.ptr [(.v (.agg 2))]),(12,.f (.v .bool))])],Zaz_L0,[]⟩
    | _=>none,fun r=>match r with
    | _=>none,fun r=>match r with
    | _=>false⟩
theorem Zaz_L0_eq (y0:(List UInt8)) (y1:(ApiCredential × Unit)) (y2:(List (UInt8))) (y3:(ApiCredential × Unit)) (y4:Bool) (y5:Int):run E_Zaz A_Zaz (loopAt 0 (Tryz.f61.body.getD .skip)) (layC cd [(1,.f (.v .str)),(6,.ptr [(.v (.agg 2))]),(8,.f (.own 0)),(10,.ptr [(.v (.agg 2))]),(12,.f (.v .bool)),(13,.f (.v (.int .i64)))] [] (y0,y1,y2,y3,y4,y5,())) (roundK cd [(1,.f (.v .str)),(6,.ptr [(.v (.agg 2))]),(8,.f (.own 0)),(10,.ptr [(.v (.agg 2))]),(12,.f (.v .bool)),(13,.f (.v (.int .i64)))] [] [(.exit 0,[(1,.f (.v .str)),(6,.ptr [(.v (.agg 2))]),(10,.ptr [(.v (.agg 2))]),(12,.f (.v .bool))])])=Zaz_L0b y0 y1 y2 y3 y4 y5:=by kernel_rfl
theorem Zaz_eq (x:tySs T S_Zaz.ps):run E_Zaz A_Zaz (Tryz.f61.body.getD .skip) (enterT E_Zaz.C S_Zaz.ps x) (retK E_Zaz Tryz.f61.results.toList S_Zaz.ps S_Zaz.rs)=S_Zaz.fn x:=by kernel_rfl
theorem Zaz_env:EnvOk Tryz.prog E_Zaz:=envOk (E:=E_Zaz) cd_ok tys fl_ok fun f ds S h=>by
    dsimp only [E_Zaz] at h
    split at h
    · cases h; exact passkeyref1_Words_ok
    · cases h; exact Zay_ok
    · cases h; exact Zas_ok
    · cases h; exact Zbu_ok
    · cases h; exact Zcp_ok
    · cases h
theorem Zaz_L0_ok:LoopOk Tryz.prog E_Zaz Tryz.f61.ntmps (kqOf S_Zaz.ps 0) (loopAt 0 (Tryz.f61.body.getD .skip)) ⟨[(1,.f (.v .str)),(6,.ptr [(.v (.agg 2))]),(8,.f (.own 0)),(10,.ptr [(.v (.agg 2))]),(12,.f (.v .bool)),(13,.f (.v (.int .i64)))],[(.exit 0,[(1,.f (.v .str)),(6,.ptr [(.v (.agg 2))]),(10,.ptr [(.v (.agg 2))]),(12,.f (.v .bool))])],Zaz_L0,[]⟩:=
  loop_ok (A:=A_Zaz) (done:=[]) (c0:=(Tryz.f61.body.getD .skip)) hmix Zaz_env done_nil rounds (by kernel_rfl) (by kernel_rfl) (fun x=>Zaz_L0_eq x.1 x.2.1 x.2.2.1 x.2.2.2.1 x.2.2.2.2.1 x.2.2.2.2.2.1) (fun _=>rfl)
theorem Zaz_ok:SoundT Tryz.prog cd gdn 61 S_Zaz:=
  sound_fn (E:=E_Zaz) (A:=A_Zaz) (done:=[0]) (c:=(Tryz.f61.body.getD .skip)) (S:=S_Zaz) (fn:=Tryz.f61) hmix Zaz_env Tryz.func61 rfl (by kernel_rfl) (by kernel_rfl) (done_cons rfl Zaz_L0_ok done_nil) (by kernel_rfl) (by kernel_rfl) Zaz_eq
def Zaq (a0:(BitVec 64)) (a1:(List UInt8)) (a2:(List (UInt8))):Option ((Unit) × (Bool × Unit)):=
 ((Zbr a0 a1 a2).bind fun r1=>((Zaz a0 a1 a2).bind fun r2=>(bif (decide (r1.2.2.1=r2.2.2.1)) then (let v3:Bool:=(decide (r1.2.1.rP=r2.2.1.rP) && (decide (r1.2.1.user=r2.2.1.user) && (decide (r1.2.1.name=r2.2.1.name) && (decide (r1.2.1.seed=r2.2.1.seed) && (decide (r1.2.1.height=r2.2.1.height) && ((r1.2.1.resident == r2.2.1.resident) && (decide (r1.2.1.protect=r2.2.1.protect) && ((r1.2.1.shared == r2.2.1.shared) && ((r1.2.1.backed == r2.2.1.backed) && true)))))))))
 (some ((),(v3,()))))
 else (some ((),(false,()))))))
def S_Zaq:FSpec T:=⟨[.f (.v .u64),.f (.v .str),.f (.v (.rs 0))],[(.v .bool)],fun x=>Zaq x.1 x.2.1 x.2.2.1⟩
def E_Zaq:Env T:=⟨tab.find,cd,globs,flc,fun f ds=>match f with
    | 34=>some S_Zbr
    | 61=>some S_Zaz
    | _=>none,fun f=>match f with
    | 34=>true
    | 61=>true
    | _=>false⟩
def A_Zaq:Loc2 T:=⟨fun id=>match id with
    | _=>none,fun r=>match r with
    | _=>none,fun r=>match r with
    | _=>false⟩
theorem Zaq_eq (x:tySs T S_Zaq.ps):run E_Zaq A_Zaq (Tryz.f23.body.getD .skip) (enterT E_Zaq.C S_Zaq.ps x) (retK E_Zaq Tryz.f23.results.toList S_Zaq.ps S_Zaq.rs)=S_Zaq.fn x:=by kernel_rfl
theorem Zaq_env:EnvOk Tryz.prog E_Zaq:=envOk (E:=E_Zaq) cd_ok tys fl_ok fun f ds S h=>by
    dsimp only [E_Zaq] at h
    split at h
    · cases h; exact Zbr_ok
    · cases h; exact Zaz_ok
    · cases h
theorem Zaq_ok:SoundT Tryz.prog cd gdn 23 S_Zaq:=
  sound_fn (E:=E_Zaq) (A:=A_Zaq) (done:=[]) (c:=(Tryz.f23.body.getD .skip)) (S:=S_Zaq) (fn:=Tryz.f23) hmix Zaq_env Tryz.func23 rfl (by kernel_rfl) (by kernel_rfl) done_nil (by kernel_rfl) (by kernel_rfl) Zaq_eq
def Zad (a0:(BitVec 64)) (a1:(BitVec 64)) (a2:Int) (a3:Int) (a4:Int) (a5:UInt8) (a6:(List (UInt8))):Option ((Unit) × (Bool × Unit)):=
 (bif (decide ((400:Int) < ((a6).length:Int))) then ((Zbg).bind fun r1=>(some ((),(r1.2.1,()))))
 else (let v2:Int:=(IntKind.wrap .i64 ((BitVec.ofInt (IntKind.bits .i64) a2 &&& BitVec.ofInt (IntKind.bits .i64) (1048575:Int)).toNat:Int))
 ((Zan v2).bind fun r3=>((Zcy a0 a1 r3.2.1).bind fun r4=>(bif small ((r4.2.1).length) 1 then (let v5:Int:=(IntKind.wrap .i64 ((BitVec.ofInt (IntKind.bits .i64) a4 &&& BitVec.ofInt (IntKind.bits .i64) (65535:Int)).toNat:Int))
 (bif decide (((r4.2.1).length:Int)=0) then none
 else (bif (decide ((0:Int) ≤ (Int.tmod v5 ((r4.2.1).length:Int))) && decide ((Int.tmod v5 ((r4.2.1).length:Int)) < ((r4.2.1).length:Int))) then (((r4.2.1)[((Int.tmod v5 ((r4.2.1).length:Int))).toNat]?).bind fun x6=>(bif (decide ((0:Int) ≤ (Int.tmod v5 ((r4.2.1).length:Int))) && decide ((Int.tmod v5 ((r4.2.1).length:Int)) < ((r4.2.1).length:Int))) then (((r4.2.1)[((Int.tmod v5 ((r4.2.1).length:Int))).toNat]?).bind fun x7=>(let v8:List (UInt8):=(List.set r4.2.1 ((Int.tmod v5 ((r4.2.1).length:Int))).toNat (UInt8.ofBitVec (x6.toBitVec ^^^ a5.toBitVec)))
 (let v9:Int:=(IntKind.wrap .i64 ((BitVec.ofInt (IntKind.bits .i64) a3 &&& BitVec.ofInt (IntKind.bits .i64) (1048575:Int)).toNat:Int))
 ((Zan v9).bind fun r10=>(let v11:List (UInt8):=(List.replicate 160 (0:UInt8))
 ((Zaf r10.2.1).bind fun r12=>(bif decide ((r12.2.1:List (UInt8)).length ≤ (v11).length) then (let v13:List (UInt8):=(r12.2.1 ++ List.drop (r12.2.1:List (UInt8)).length v11)
 ((let v14:Int:=(IntKind.wrap .i64 ((BitVec.ofInt (IntKind.bits .i64) (Int.fdiv a3 (2 ^ (min 20 (IntKind.bits .i64)))) &&& BitVec.ofInt (IntKind.bits .i64) (3:Int)).toNat:Int))
 (bif (decide (v14=(0:Int))) then (let v15:Int:=(IntKind.wrap .i64 ((BitVec.ofInt (IntKind.bits .i64) a4 &&& BitVec.ofInt (IntKind.bits .i64) (65535:Int)).toNat:Int))
 (bif (decide ((0:Int) ≤ (Int.tmod v15 (160:Int))) && decide ((Int.tmod v15 (160:Int)) < (160:Int))) then (((v13)[((Int.tmod v15 (160:Int))).toNat]?).bind fun x16=>(bif (decide ((0:Int) ≤ (Int.tmod v15 (160:Int))) && decide ((Int.tmod v15 (160:Int)) < (160:Int))) then (((v13)[((Int.tmod v15 (160:Int))).toNat]?).bind fun x17=>(let v18:List (UInt8):=(List.set v13 ((Int.tmod v15 (160:Int))).toNat (UInt8.ofBitVec (x16.toBitVec ^^^ a5.toBitVec)))
 (some (a0,a1,a3,a6,(r3.2.1,()),r4.2.1,v8,v18,()))))
 else none))
 else none))
 else (some (a0,a1,a3,a6,(r3.2.1,()),r4.2.1,v8,v13,())))).bind (fun (j19:((BitVec 64) × (BitVec 64) × Int × (List (UInt8)) × (ApiCredential × Unit) × (List (UInt8)) × (List (UInt8)) × (List (UInt8)) × Unit))=>((Zbk j19.1 ([119,114,97,112]:List UInt8) (0:Int)).bind fun r20=>((Zay j19.2.2.2.2.1.1.rP).bind fun r21=>((passkeyref1_Words ([r21.2.1]:List (BitVec 64))).bind fun r22=>((Zcq r20.2.1 j19.2.1 r22.2.1 j19.2.2.2.2.2.2.2.1).bind fun r23=>((Zaq j19.1 j19.2.2.2.2.1.1.rP j19.2.2.2.2.2.1).bind fun r24=>(bif r24.2.1 then ((Zaq j19.1 j19.2.2.2.2.1.1.rP j19.2.2.2.2.2.2.1).bind fun r25=>(bif r25.2.1 then ((Zaq j19.1 j19.2.2.2.2.1.1.rP j19.2.2.2.1).bind fun r26=>(bif r26.2.1 then ((Zaq (j19.1 + 1#64) j19.2.2.2.2.1.1.rP j19.2.2.2.2.2.1).bind fun r27=>(bif r27.2.1 then ((Zdg j19.2.2.1).bind fun r28=>((Zaq j19.1 r28.2.1 j19.2.2.2.2.2.1).bind fun r29=>(bif r29.2.1 then ((Zaq j19.1 j19.2.2.2.2.1.1.rP r23.2.1).bind fun r30=>(bif r30.2.1 then ((Zbg).bind fun r31=>(some ((),(r31.2.1,()))))
 else (some ((),(false,())))))
 else (some ((),(false,()))))))
 else (some ((),(false,())))))
 else (some ((),(false,())))))
 else (some ((),(false,())))))
 else (some ((),(false,()))))))))))))
 else none)))))))
 else none))
 else none)))
 else none)))))
def S_Zad:FSpec T:=⟨[.f (.v .u64),.f (.v .u64),.f (.v (.int .i64)),.f (.v (.int .i64)),.f (.v (.int .i64)),.f (.v .u8),.f (.v (.rs 0))],[(.v .bool)],fun x=>Zad x.1 x.2.1 x.2.2.1 x.2.2.2.1 x.2.2.2.2.1 x.2.2.2.2.2.1 x.2.2.2.2.2.2.1⟩
def E_Zad:Env T:=⟨tab.find,cd,globs,flc,fun f ds=>match f with
    | 9=>some S_Zbg
    | 11=>some S_Zan
    | 13=>some S_Zaf
    | 18=>some S_Zcy
    | 19=>some S_Zbk
    | 20=>some S_Zcq
    | 21=>some S_passkeyref1_Words
    | 22=>some S_Zay
    | 23=>some S_Zaq
    | 24=>some S_Zdg
    | _=>none,fun f=>match f with
    | 9=>true
    | 11=>true
    | 19=>true
    | 22=>true
    | 23=>true
    | 24=>true
    | _=>false⟩
def A_Zad:Loc2 T:=⟨fun id=>match id with
    | _=>none,fun r=>match r with
    | 13=>some ([(0,.f (.v .u64)),(1,.f (.v .u64)),(3,.f (.v (.int .i64))),(6,.f (.v (.rs 0))),(15,.ptr [(.v (.agg 2))]),(16,.f (.own 0)),(18,.f (.own 0)),(20,.f (.own 0))],true)
    | _=>none,fun r=>match r with
    | _=>false⟩
theorem Zad_eq (x:tySs T S_Zad.ps):run E_Zad A_Zad (Tryz.f5.body.getD .skip) (enterT E_Zad.C S_Zad.ps x) (retK E_Zad Tryz.f5.results.toList S_Zad.ps S_Zad.rs)=S_Zad.fn x:=by kernel_rfl
theorem Zad_env:EnvOk Tryz.prog E_Zad:=envOk (E:=E_Zad) cd_ok tys fl_ok fun f ds S h=>by
    dsimp only [E_Zad] at h
    split at h
    · cases h; exact Zbg_ok
    · cases h; exact Zan_ok
    · cases h; exact Zaf_ok
    · cases h; exact Zcy_ok
    · cases h; exact Zbk_ok
    · cases h; exact Zcq_ok
    · cases h; exact passkeyref1_Words_ok
    · cases h; exact Zay_ok
    · cases h; exact Zaq_ok
    · cases h; exact Zdg_ok
    · cases h
theorem Zad_ok:SoundT Tryz.prog cd gdn 5 S_Zad:=
  sound_fn (E:=E_Zad) (A:=A_Zad) (done:=[]) (c:=(Tryz.f5.body.getD .skip)) (S:=S_Zad) (fn:=Tryz.f5) hmix Zad_env Tryz.func5 rfl (by kernel_rfl) (by kernel_rfl) done_nil (by kernel_rfl) (by kernel_rfl) Zad_eq
def Zdf (a0:(List (UInt8))):Option ((Unit) × ((BitVec 64) × Unit)):=
 ((Zdx (10:Int) a0).bind fun r1=>(some ((),(r1.2.1,()))))
def S_Zdf:FSpec T:=⟨[.f (.v (.rs 0))],[(.v .u64)],fun x=>Zdf x.1⟩
def E_Zdf:Env T:=⟨tab.find,cd,globs,flc,fun f ds=>match f with
    | 67=>some S_Zdx
    | _=>none,fun f=>match f with
    | 67=>true
    | _=>false⟩
def A_Zdf:Loc2 T:=⟨fun id=>match id with
    | _=>none,fun r=>match r with
    | _=>none,fun r=>match r with
    | _=>false⟩
theorem Zdf_eq (x:tySs T S_Zdf.ps):run E_Zdf A_Zdf (Tryz.f26.body.getD .skip) (enterT E_Zdf.C S_Zdf.ps x) (retK E_Zdf Tryz.f26.results.toList S_Zdf.ps S_Zdf.rs)=S_Zdf.fn x:=by kernel_rfl
theorem Zdf_env:EnvOk Tryz.prog E_Zdf:=envOk (E:=E_Zdf) cd_ok tys fl_ok fun f ds S h=>by
    dsimp only [E_Zdf] at h
    split at h
    · cases h; exact Zdx_ok
    · cases h
theorem Zdf_ok:SoundT Tryz.prog cd gdn 26 S_Zdf:=
  sound_fn (E:=E_Zdf) (A:=A_Zdf) (done:=[]) (c:=(Tryz.f26.body.getD .skip)) (S:=S_Zdf) (fn:=Tryz.f26) hmix Zdf_env Tryz.func26 rfl (by kernel_rfl) (by kernel_rfl) done_nil (by kernel_rfl) (by kernel_rfl) Zdf_eq
def Zcj (a0:(List (UInt8))):Option ((Unit) × ((BitVec 64) × Unit)):=
 ((Zck (10:Int) a0).bind fun r1=>(some ((),(r1.2.1,()))))
def S_Zcj:FSpec T:=⟨[.f (.v (.rs 0))],[(.v .u64)],fun x=>Zcj x.1⟩
def E_Zcj:Env T:=⟨tab.find,cd,globs,flc,fun f ds=>match f with
    | 60=>some S_Zck
    | _=>none,fun f=>match f with
    | 60=>true
    | _=>false⟩
def A_Zcj:Loc2 T:=⟨fun id=>match id with
    | _=>none,fun r=>match r with
    | _=>none,fun r=>match r with
    | _=>false⟩
theorem Zcj_eq (x:tySs T S_Zcj.ps):run E_Zcj A_Zcj (Tryz.f27.body.getD .skip) (enterT E_Zcj.C S_Zcj.ps x) (retK E_Zcj Tryz.f27.results.toList S_Zcj.ps S_Zcj.rs)=S_Zcj.fn x:=by kernel_rfl
theorem Zcj_env:EnvOk Tryz.prog E_Zcj:=envOk (E:=E_Zcj) cd_ok tys fl_ok fun f ds S h=>by
    dsimp only [E_Zcj] at h
    split at h
    · cases h; exact Zck_ok
    · cases h
theorem Zcj_ok:SoundT Tryz.prog cd gdn 27 S_Zcj:=
  sound_fn (E:=E_Zcj) (A:=A_Zcj) (done:=[]) (c:=(Tryz.f27.body.getD .skip)) (S:=S_Zcj) (fn:=Tryz.f27) hmix Zcj_env Tryz.func27 rfl (by kernel_rfl) (by kernel_rfl) done_nil (by kernel_rfl) (by kernel_rfl) Zcj_eq
def Zag (a0:(BitVec 64)) (a1:(BitVec 64)) (a2:Int) (a3:Int) (a4:(List (UInt8))):Option ((Unit) × (Bool × Unit)):=
 (bif (decide ((400:Int) < ((a4).length:Int))) then ((Zbg).bind fun r1=>(some ((),(r1.2.1,()))))
 else (let v2:Int:=(IntKind.wrap .i64 ((BitVec.ofInt (IntKind.bits .i64) a2 &&& BitVec.ofInt (IntKind.bits .i64) (1048575:Int)).toNat:Int))
 ((Zan v2).bind fun r3=>((Zbh r3.2.1 a3).bind fun r4=>((Zdj a0 a1 r4.2.1).bind fun r5=>((Zcy a0 a1 r4.2.1).bind fun r6=>(bif (decide (r5.2.2.1=r6.2.2.1)) then (bif (decide (r5.2.1=r6.2.1)) then ((Zdf a4).bind fun r7=>((Zcj a4).bind fun r8=>(bif (decide (r7.2.1=r8.2.1)) then ((Zdf r5.2.1).bind fun r9=>((Zcj r6.2.1).bind fun r10=>(bif (decide (r9.2.1=r10.2.1)) then ((Zbg).bind fun r11=>(some ((),(r11.2.1,()))))
 else (some ((),(false,()))))))
 else (some ((),(false,()))))))
 else (some ((),(false,()))))
 else (some ((),(false,()))))))))))
def S_Zag:FSpec T:=⟨[.f (.v .u64),.f (.v .u64),.f (.v (.int .i64)),.f (.v (.int .i64)),.f (.v (.rs 0))],[(.v .bool)],fun x=>Zag x.1 x.2.1 x.2.2.1 x.2.2.2.1 x.2.2.2.2.1⟩
def E_Zag:Env T:=⟨tab.find,cd,globs,flc,fun f ds=>match f with
    | 9=>some S_Zbg
    | 10=>some S_Zbh
    | 11=>some S_Zan
    | 18=>some S_Zcy
    | 25=>some S_Zdj
    | 26=>some S_Zdf
    | 27=>some S_Zcj
    | _=>none,fun f=>match f with
    | 9=>true
    | 10=>true
    | 11=>true
    | 26=>true
    | 27=>true
    | _=>false⟩
def A_Zag:Loc2 T:=⟨fun id=>match id with
    | _=>none,fun r=>match r with
    | _=>none,fun r=>match r with
    | _=>false⟩
theorem Zag_eq (x:tySs T S_Zag.ps):run E_Zag A_Zag (Tryz.f6.body.getD .skip) (enterT E_Zag.C S_Zag.ps x) (retK E_Zag Tryz.f6.results.toList S_Zag.ps S_Zag.rs)=S_Zag.fn x:=by kernel_rfl
theorem Zag_env:EnvOk Tryz.prog E_Zag:=envOk (E:=E_Zag) cd_ok tys fl_ok fun f ds S h=>by
    dsimp only [E_Zag] at h
    split at h
    · cases h; exact Zbg_ok
    · cases h; exact Zbh_ok
    · cases h; exact Zan_ok
    · cases h; exact Zcy_ok
    · cases h; exact Zdj_ok
    · cases h; exact Zdf_ok
    · cases h; exact Zcj_ok
    · cases h
theorem Zag_ok:SoundT Tryz.prog cd gdn 6 S_Zag:=
  sound_fn (E:=E_Zag) (A:=A_Zag) (done:=[]) (c:=(Tryz.f6.body.getD .skip)) (S:=S_Zag) (fn:=Tryz.f6) hmix Zag_env Tryz.func6 rfl (by kernel_rfl) (by kernel_rfl) done_nil (by kernel_rfl) (by kernel_rfl) Zag_eq
def CredentialDecodes_dom (a0:(List (UInt8))) (a1:Int) (a2:Int) (a3:UInt8):Prop:=ArgD cd [(.rs 0),(.int .i64),(.int .i64),.u8] (a0,a1,a2,a3,())
def CredentialUnwraps_dom (a0:(BitVec 64)) (a1:(BitVec 64)) (a2:Int) (a3:Int) (a4:Int) (a5:UInt8) (a6:(List (UInt8))):Prop:=ArgD cd [.u64,.u64,(.int .i64),(.int .i64),(.int .i64),.u8,(.rs 0)] (a0,a1,a2,a3,a4,a5,a6,())
def CredentialIDs_dom (a0:(BitVec 64)) (a1:(BitVec 64)) (a2:Int) (a3:Int) (a4:(List (UInt8))):Prop:=ArgD cd [.u64,.u64,(.int .i64),(.int .i64),(.rs 0)] (a0,a1,a2,a3,a4,())
end Go.Proofs.YtghfcfjnfgmkgaaGreatDoor

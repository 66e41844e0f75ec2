/- The functions of the program, as plain functions, and that the program computes them. Written by a program. -/
import Derived.Test.YtghfcfjnfgmkgaaGreatDoorFns0
set_option linter.unusedVariables false
set_option maxRecDepth 100000
namespace Go.Proofs.YtghfcfjnfgmkgaaGreatDoor
open Go Go.Abs
def Zbn (a0:(BitVec 64)) (a1:(List UInt8)) (a2:(List (UInt8))):Option ((Unit) × (ApiCredential × Int × Unit)):=
 (bif (!decide (((a2).length:Int)=(176:Int))) then (some ((),((⟨([]:List UInt8),([]:List UInt8),([]:List UInt8),0#64,(0:Int),false,(0:Int),false,false⟩:ApiCredential),(4:Int),())))
 else ((Zbd a0).bind fun r1=>((Zca a1).bind fun r2=>((Zdr r1.2.1 r2.2.1 a2).bind fun r3=>(bif (!decide (r3.2.2.1=(0:Int))) then (some ((),((⟨([]:List UInt8),([]:List UInt8),([]:List UInt8),0#64,(0:Int),false,(0:Int),false,false⟩:ApiCredential),r3.2.2.1,())))
 else ((Zdb r3.2.1).bind fun r4=>(bif (!decide (r4.2.2.2.1=(0:Int))) then (some ((),((⟨([]:List UInt8),([]:List UInt8),([]:List UInt8),0#64,(0:Int),false,(0:Int),false,false⟩:ApiCredential),(2:Int),())))
 else (bif (decide (r4.2.2.1 < (0:Int))) then (some ((),((⟨([]:List UInt8),([]:List UInt8),([]:List UInt8),0#64,(0:Int),false,(0:Int),false,false⟩:ApiCredential),(2:Int),())))
 else (bif (decide (((r3.2.1).length:Int) < r4.2.2.1)) then (some ((),((⟨([]:List UInt8),([]:List UInt8),([]:List UInt8),0#64,(0:Int),false,(0:Int),false,false⟩:ApiCredential),(2:Int),())))
 else (bif (decide ((0:Int) ≤ r4.2.2.1) && decide (r4.2.2.1 ≤ ((r3.2.1).length:Int))) then (bif decide ((r4.2.2.1).toNat ≤ (r3.2.1).length) then ((Zbl (List.take (r4.2.2.1).toNat r3.2.1)).bind fun r5=>(bif (!decide (r5.2.2.1=(0:Int))) then (some ((),((⟨([]:List UInt8),([]:List UInt8),([]:List UInt8),0#64,(0:Int),false,(0:Int),false,false⟩:ApiCredential),(2:Int),())))
 else (bif (!decide (((r3.2.1).length:Int)=(160:Int))) then (some ((),((⟨([]:List UInt8),([]:List UInt8),([]:List UInt8),0#64,(0:Int),false,(0:Int),false,false⟩:ApiCredential),(2:Int),())))
 else (bif (decide ((0:Int) ≤ r4.2.2.1) && decide (r4.2.2.1 ≤ ((r3.2.1).length:Int))) then (bif decide (((r3.2.1).length - (r4.2.2.1).toNat) + (r4.2.2.1).toNat ≤ (r3.2.1).length) then ((Zdi (List.take ((r3.2.1).length - (r4.2.2.1).toNat) (List.drop (r4.2.2.1).toNat r3.2.1)) ([0]:List UInt8)).bind fun r6=>(bif (decide ((0:Int) < ((r6.2.1).length:Int))) then (some ((),((⟨([]:List UInt8),([]:List UInt8),([]:List UInt8),0#64,(0:Int),false,(0:Int),false,false⟩:ApiCredential),(2:Int),())))
 else (bif r5.2.1.resident then (some ((),((⟨([]:List UInt8),([]:List UInt8),([]:List UInt8),0#64,(0:Int),false,(0:Int),false,false⟩:ApiCredential),(11:Int),())))
 else (bif (!decide (r5.2.1.rP=a1)) then (some ((),((⟨([]:List UInt8),([]:List UInt8),([]:List UInt8),0#64,(0:Int),false,(0:Int),false,false⟩:ApiCredential),(11:Int),())))
 else (some ((),(r5.2.1,(0:Int),())))))))
 else none)
 else none))))
 else none)
 else none))))))))))
def S_Zbn:FSpec T:=⟨[.f (.v .u64),.f (.v .str),.f (.v (.rs 0))],[(.v (.agg 2)),(.v (.int .i64))],fun x=>Zbn x.1 x.2.1 x.2.2.1⟩
def E_Zbn:Env T:=⟨tab.find,cd,globs,flc,fun f ds=>match f with
    | 16=>some S_Zbl
    | 51=>some S_Zdb
    | 65=>some S_Zbd
    | 66=>some S_Zca
    | 71=>some S_Zdr
    | 72=>some S_Zdi
    | _=>none,fun f=>match f with
    | 16=>true
    | 65=>true
    | _=>false⟩
def A_Zbn:Loc2 T:=⟨fun id=>match id with
    | _=>none,fun r=>match r with
    | _=>none,fun r=>match r with
    | _=>false⟩
theorem Zbn_eq (x:tySs T S_Zbn.ps):run E_Zbn A_Zbn (Tryz.f34.body.getD .skip) (enterT E_Zbn.C S_Zbn.ps x) (retK E_Zbn Tryz.f34.results.toList S_Zbn.ps S_Zbn.rs)=S_Zbn.fn x:=by kernel_rfl
theorem Zbn_env:EnvOk Tryz.prog E_Zbn:=envOk (E:=E_Zbn) cd_ok tys fl_ok fun f ds S h=>by
    dsimp only [E_Zbn] at h
    split at h
    · cases h; exact Zbl_ok
    · cases h; exact Zdb_ok
    · cases h; exact Zbd_ok
    · cases h; exact Zca_ok
    · cases h; exact Zdr_ok
    · cases h; exact Zdi_ok
    · cases h
theorem Zbn_ok:SoundT Tryz.prog cd gdn 34 S_Zbn:=
  sound_fn (E:=E_Zbn) (A:=A_Zbn) (done:=[]) (c:=(Tryz.f34.body.getD .skip)) (S:=S_Zbn) (fn:=Tryz.f34) hmix Zbn_env Tryz.func34 rfl (by kernel_rfl) (by kernel_rfl) done_nil (by kernel_rfl) (by kernel_rfl) Zbn_eq
def Zbe:Option ((Unit) × (Bool × Unit)):=
 ((Zcs (7#64) (8#64) (⟨([97,46,101,120,97,109,112,108,101]:List UInt8),([117]:List UInt8),([]:List UInt8),3#64,(1:Int),false,(1:Int),false,false⟩:ApiCredential)).bind fun r1=>((Zbn (7#64) ([97,46,101,120,97,109,112,108,101]:List UInt8) r1.2.1).bind fun r2=>((Zbn (7#64) ([98,46,101,120,97,109,112,108,101]:List UInt8) r1.2.1).bind fun r3=>(bif (decide (r1.2.2.1=(0:Int))) then (bif (decide (r2.2.2.1=(0:Int))) then (bif (decide (r3.2.2.1=(14:Int))) then (let v4:Bool:=(decide (r2.2.1.rP=([97,46,101,120,97,109,112,108,101]:List UInt8)) && (decide (r2.2.1.user=([117]:List UInt8)) && (decide (r2.2.1.name=([]:List UInt8)) && (decide (r2.2.1.seed=3#64) && (decide (r2.2.1.height=(1:Int)) && ((r2.2.1.resident == false) && (decide (r2.2.1.protect=(1:Int)) && ((r2.2.1.shared == false) && ((r2.2.1.backed == false) && true)))))))))
 (bif v4 then (bif (decide (((r1.2.1).length:Int)=(176:Int))) then ((Zau (⟨([]:List UInt8),([]:List UInt8),([]:List UInt8),0#64,(0:Int),false,(0:Int),false,false⟩:ApiCredential)).bind fun r5=>(some ((),((decide (r5.2.1=(9:Int))),()))))
 else (some ((),(false,()))))
 else (some ((),(false,())))))
 else (some ((),(false,()))))
 else (some ((),(false,()))))
 else (some ((),(false,())))))))
def S_Zbe:FSpec T:=⟨[],[(.v .bool)],fun x=>Zbe ⟩
def E_Zbe:Env T:=⟨tab.find,cd,globs,flc,fun f ds=>match f with
    | 14=>some S_Zau
    | 25=>some S_Zcs
    | 34=>some S_Zbn
    | _=>none,fun f=>match f with
    | 14=>true
    | 34=>true
    | _=>false⟩
def A_Zbe:Loc2 T:=⟨fun id=>match id with
    | _=>none,fun r=>match r with
    | _=>none,fun r=>match r with
    | _=>false⟩
theorem Zbe_eq (x:tySs T S_Zbe.ps):run E_Zbe A_Zbe (Tryz.f9.body.getD .skip) (enterT E_Zbe.C S_Zbe.ps x) (retK E_Zbe Tryz.f9.results.toList S_Zbe.ps S_Zbe.rs)=S_Zbe.fn x:=by kernel_rfl
theorem Zbe_env:EnvOk Tryz.prog E_Zbe:=envOk (E:=E_Zbe) cd_ok tys fl_ok fun f ds S h=>by
    dsimp only [E_Zbe] at h
    split at h
    · cases h; exact Zau_ok
    · cases h; exact Zcs_ok
    · cases h; exact Zbn_ok
    · cases h
theorem Zbe_ok:SoundT Tryz.prog cd gdn 9 S_Zbe:=
  sound_fn (E:=E_Zbe) (A:=A_Zbe) (done:=[]) (c:=(Tryz.f9.body.getD .skip)) (S:=S_Zbe) (fn:=Tryz.f9) hmix Zbe_env Tryz.func9 rfl (by kernel_rfl) (by kernel_rfl) done_nil (by kernel_rfl) (by kernel_rfl) Zbe_eq
def Zcp (a0:Int):Option ((Unit) × ((List UInt8) × Unit)):=
 (let v1:List (List UInt8):=([([97,46,101,120,97,109,112,108,101]:List UInt8),([98,46,101,120,97,109,112,108,101]:List UInt8),([115,104,111,112,46,116,101,115,116]:List UInt8)]:List (List UInt8))
 (let v2:Int:=(IntKind.wrap .i64 ((BitVec.ofInt (IntKind.bits .i64) a0 &&& BitVec.ofInt (IntKind.bits .i64) (65535:Int)).toNat:Int))
 (bif (decide ((0:Int) ≤ (Int.tmod v2 (3:Int))) && decide ((Int.tmod v2 (3:Int)) < (3:Int))) then (((v1)[((Int.tmod v2 (3:Int))).toNat]?).bind fun x3=>(some ((),(x3,()))))
 else none)))
def S_Zcp:FSpec T:=⟨[.f (.v (.int .i64))],[(.v .str)],fun x=>Zcp x.1⟩
def E_Zcp:Env T:=⟨tab.find,cd,globs,flc,fun f ds=>match f with
    | _=>none,fun f=>match f with
    | _=>false⟩
def A_Zcp:Loc2 T:=⟨fun id=>match id with
    | _=>none,fun r=>match r with
    | _=>none,fun r=>match r with
    | _=>false⟩
theorem Zcp_eq (x:tySs T S_Zcp.ps):run E_Zcp A_Zcp (Tryz.f24.body.getD .skip) (enterT E_Zcp.C S_Zcp.ps x) (retK E_Zcp Tryz.f24.results.toList S_Zcp.ps S_Zcp.rs)=S_Zcp.fn x:=by kernel_rfl
theorem Zcp_env:EnvOk Tryz.prog E_Zcp:=envOk (E:=E_Zcp) cd_ok tys fl_ok fun f ds S h=>by cases h
theorem Zcp_ok:SoundT Tryz.prog cd gdn 24 S_Zcp:=
  sound_fn (E:=E_Zcp) (A:=A_Zcp) (done:=[]) (c:=(Tryz.f24.body.getD .skip)) (S:=S_Zcp) (fn:=Tryz.f24) hmix Zcp_env Tryz.func24 rfl (by kernel_rfl) (by kernel_rfl) done_nil (by kernel_rfl) (by kernel_rfl) Zcp_eq
def Zcd (a0:Int):Option ((Unit) × ((List UInt8) × Unit)):=
 (let v1:List (List UInt8):=([([117,49]:List UInt8),([117,50]:List UInt8),([0,255]:List UInt8)]:List (List UInt8))
 (let v2:Int:=(IntKind.wrap .i64 ((BitVec.ofInt (IntKind.bits .i64) a0 &&& BitVec.ofInt (IntKind.bits .i64) (65535:Int)).toNat:Int))
 (bif (decide ((0:Int) ≤ (Int.tmod v2 (3:Int))) && decide ((Int.tmod v2 (3:Int)) < (3:Int))) then (((v1)[((Int.tmod v2 (3:Int))).toNat]?).bind fun x3=>(some ((),(x3,()))))
 else none)))
def S_Zcd:FSpec T:=⟨[.f (.v (.int .i64))],[(.v .str)],fun x=>Zcd x.1⟩
def E_Zcd:Env T:=⟨tab.find,cd,globs,flc,fun f ds=>match f with
    | _=>none,fun f=>match f with
    | _=>false⟩
def A_Zcd:Loc2 T:=⟨fun id=>match id with
    | _=>none,fun r=>match r with
    | _=>none,fun r=>match r with
    | _=>false⟩
theorem Zcd_eq (x:tySs T S_Zcd.ps):run E_Zcd A_Zcd (Tryz.f35.body.getD .skip) (enterT E_Zcd.C S_Zcd.ps x) (retK E_Zcd Tryz.f35.results.toList S_Zcd.ps S_Zcd.rs)=S_Zcd.fn x:=by kernel_rfl
theorem Zcd_env:EnvOk Tryz.prog E_Zcd:=envOk (E:=E_Zcd) cd_ok tys fl_ok fun f ds S h=>by cases h
theorem Zcd_ok:SoundT Tryz.prog cd gdn 35 S_Zcd:=
  sound_fn (E:=E_Zcd) (A:=A_Zcd) (done:=[]) (c:=(Tryz.f35.body.getD .skip)) (S:=S_Zcd) (fn:=Tryz.f35) hmix Zcd_env Tryz.func35 rfl (by kernel_rfl) (by kernel_rfl) done_nil (by kernel_rfl) (by kernel_rfl) Zcd_eq
def Zcc (a0:Int):Option ((Unit) × ((List UInt8) × Unit)):=
 (let v1:List (List UInt8):=([([]:List UInt8),([97]:List UInt8),([98]:List UInt8),([108,111,103,105,110]:List UInt8),([107,101,121]:List UInt8),([101,120,97,109,112,108,101,46,111,114,103]:List UInt8),([195,169]:List UInt8),([48,49,50,51,52,53,54,55,56,57,48,49,50,51,52,53]:List UInt8)]:List (List UInt8))
 (let v2:Int:=(IntKind.wrap .i64 ((BitVec.ofInt (IntKind.bits .i64) a0 &&& BitVec.ofInt (IntKind.bits .i64) (7:Int)).toNat:Int))
 (bif (decide ((0:Int) ≤ v2) && decide (v2 < (8:Int))) then (((v1)[(v2).toNat]?).bind fun x3=>(let v4:Int:=(IntKind.wrap .i64 ((BitVec.ofInt (IntKind.bits .i64) (Int.fdiv a0 (2 ^ (min 3 (IntKind.bits .i64)))) &&& BitVec.ofInt (IntKind.bits .i64) (7:Int)).toNat:Int))
 (bif (decide ((0:Int) ≤ v4) && decide (v4 < (8:Int))) then (((v1)[(v4).toNat]?).bind fun x5=>(bif Nat.ble ((x3).length + (x5).length) 9223372036854775807 then (some ((),((x3 ++ x5),())))
 else none))
 else none)))
 else none)))
def S_Zcc:FSpec T:=⟨[.f (.v (.int .i64))],[(.v .str)],fun x=>Zcc x.1⟩
def E_Zcc:Env T:=⟨tab.find,cd,globs,flc,fun f ds=>match f with
    | _=>none,fun f=>match f with
    | _=>false⟩
def A_Zcc:Loc2 T:=⟨fun id=>match id with
    | _=>none,fun r=>match r with
    | _=>none,fun r=>match r with
    | _=>false⟩
theorem Zcc_eq (x:tySs T S_Zcc.ps):run E_Zcc A_Zcc (Tryz.f36.body.getD .skip) (enterT E_Zcc.C S_Zcc.ps x) (retK E_Zcc Tryz.f36.results.toList S_Zcc.ps S_Zcc.rs)=S_Zcc.fn x:=by kernel_rfl
theorem Zcc_env:EnvOk Tryz.prog E_Zcc:=envOk (E:=E_Zcc) cd_ok tys fl_ok fun f ds S h=>by cases h
theorem Zcc_ok:SoundT Tryz.prog cd gdn 36 S_Zcc:=
  sound_fn (E:=E_Zcc) (A:=A_Zcc) (done:=[]) (c:=(Tryz.f36.body.getD .skip)) (S:=S_Zcc) (fn:=Tryz.f36) hmix Zcc_env Tryz.func36 rfl (by kernel_rfl) (by kernel_rfl) done_nil (by kernel_rfl) (by kernel_rfl) Zcc_eq
def Zap (a0:Int):Option ((Unit) × (ApiCredential × Unit)):=
 ((Zcp a0).bind fun r1=>((Zcd (Int.fdiv a0 (2 ^ (min 2 (IntKind.bits .i64))))).bind fun r2=>((Zcc (Int.fdiv a0 (2 ^ (min 4 (IntKind.bits .i64))))).bind fun r3=>(let v4:Int:=(IntKind.wrap .i64 ((BitVec.ofInt (IntKind.bits .i64) (Int.fdiv a0 (2 ^ (min 3 (IntKind.bits .i64)))) &&& BitVec.ofInt (IntKind.bits .i64) (1:Int)).toNat:Int))
 (let v5:Int:=(Int.tmod (Int.fdiv a0 (2 ^ (min 5 (IntKind.bits .i64)))) (3:Int))
 (let v6:Int:=(IntKind.wrap .i64 ((BitVec.ofInt (IntKind.bits .i64) (Int.fdiv a0 (2 ^ (min 7 (IntKind.bits .i64)))) &&& BitVec.ofInt (IntKind.bits .i64) (1:Int)).toNat:Int))
 (bif (decide (v6=(1:Int))) then (let v7:Int:=(IntKind.wrap .i64 ((BitVec.ofInt (IntKind.bits .i64) (Int.fdiv a0 (2 ^ (min 8 (IntKind.bits .i64)))) &&& BitVec.ofInt (IntKind.bits .i64) (1:Int)).toNat:Int))
 (bif (decide (v7=(1:Int))) then (let v8:Int:=(IntKind.wrap .i64 ((BitVec.ofInt (IntKind.bits .i64) (Int.fdiv a0 (2 ^ (min 9 (IntKind.bits .i64)))) &&& BitVec.ofInt (IntKind.bits .i64) (1:Int)).toNat:Int))
 (some ((),((⟨r1.2.1,r2.2.1,r3.2.1,((BitVec.ofInt 64 a0) * 11400714819323198485#64),(IntKind.wrap .i64 ((1:Int) + v4)),(decide (v6=(1:Int))),(IntKind.wrap .i64 ((1:Int) + v5)),(decide (v7=(1:Int))),(decide (v8=(1:Int)))⟩:ApiCredential),()))))
 else (some ((),((⟨r1.2.1,r2.2.1,r3.2.1,((BitVec.ofInt 64 a0) * 11400714819323198485#64),(IntKind.wrap .i64 ((1:Int) + v4)),(decide (v6=(1:Int))),(IntKind.wrap .i64 ((1:Int) + v5)),(decide (v7=(1:Int))),false⟩:ApiCredential),())))))
 else (some ((),((⟨r1.2.1,r2.2.1,r3.2.1,((BitVec.ofInt 64 a0) * 11400714819323198485#64),(IntKind.wrap .i64 ((1:Int) + v4)),(decide (v6=(1:Int))),(IntKind.wrap .i64 ((1:Int) + v5)),false,false⟩:ApiCredential),()))))))))))
def S_Zap:FSpec T:=⟨[.f (.v (.int .i64))],[(.v (.agg 2))],fun x=>Zap x.1⟩
def E_Zap:Env T:=⟨tab.find,cd,globs,flc,fun f ds=>match f with
    | 24=>some S_Zcp
    | 35=>some S_Zcd
    | 36=>some S_Zcc
    | _=>none,fun f=>match f with
    | 24=>true
    | 35=>true
    | 36=>true
    | _=>false⟩
def A_Zap:Loc2 T:=⟨fun id=>match id with
    | _=>none,fun r=>match r with
    | _=>none,fun r=>match r with
    | _=>false⟩
theorem Zap_eq (x:tySs T S_Zap.ps):run E_Zap A_Zap (Tryz.f11.body.getD .skip) (enterT E_Zap.C S_Zap.ps x) (retK E_Zap Tryz.f11.results.toList S_Zap.ps S_Zap.rs)=S_Zap.fn x:=by kernel_rfl
theorem Zap_env:EnvOk Tryz.prog E_Zap:=envOk (E:=E_Zap) cd_ok tys fl_ok fun f ds S h=>by
    dsimp only [E_Zap] at h
    split at h
    · cases h; exact Zcp_ok
    · cases h; exact Zcd_ok
    · cases h; exact Zcc_ok
    · cases h
theorem Zap_ok:SoundT Tryz.prog cd gdn 11 S_Zap:=
  sound_fn (E:=E_Zap) (A:=A_Zap) (done:=[]) (c:=(Tryz.f11.body.getD .skip)) (S:=S_Zap) (fn:=Tryz.f11) hmix Zap_env Tryz.func11 rfl (by kernel_rfl) (by kernel_rfl) done_nil (by kernel_rfl) (by kernel_rfl) Zap_eq
def Zbf (a0:ApiCredential) (a1:Int):Option ((Unit) × (ApiCredential × Unit)):=
 (let v1:Int:=(IntKind.wrap .i64 ((BitVec.ofInt (IntKind.bits .i64) (Int.fdiv a1 (2 ^ (min 4 (IntKind.bits .i64)))) &&& BitVec.ofInt (IntKind.bits .i64) (65535:Int)).toNat:Int))
 (let v2:Int:=(IntKind.wrap .i64 ((BitVec.ofInt (IntKind.bits .i64) a1 &&& BitVec.ofInt (IntKind.bits .i64) (15:Int)).toNat:Int))
 (bif (decide (v2=(0:Int))) then (let v3:List (UInt8):=(List.replicate 64 (0:UInt8))
 (let v4:List (UInt8):=(List.replicate 65 (0:UInt8))
 (let v5:List (List UInt8):=([([]:List UInt8),([255]:List UInt8),v3,v4]:List (List UInt8))
 (let v6:Int:=(IntKind.wrap .i64 ((BitVec.ofInt (IntKind.bits .i64) v1 &&& BitVec.ofInt (IntKind.bits .i64) (3:Int)).toNat:Int))
 (bif (decide ((0:Int) ≤ v6) && decide (v6 < (4:Int))) then (((v5)[(v6).toNat]?).bind fun x7=>(some ((),((⟨x7,a0.user,a0.name,a0.seed,a0.height,a0.resident,a0.protect,a0.shared,a0.backed⟩:ApiCredential),()))))
 else none)))))
 else (bif (decide (v2=(1:Int))) then (let v8:List (List UInt8):=([([]:List UInt8),([255,254]:List UInt8),([48,49,50,51,52,53,54,55,56,57,48,49,50,51,52,53]:List UInt8),([48,49,50,51,52,53,54,55,56,57,48,49,50,51,52,53,54]:List UInt8)]:List (List UInt8))
 (let v9:Int:=(IntKind.wrap .i64 ((BitVec.ofInt (IntKind.bits .i64) v1 &&& BitVec.ofInt (IntKind.bits .i64) (3:Int)).toNat:Int))
 (bif (decide ((0:Int) ≤ v9) && decide (v9 < (4:Int))) then (((v8)[(v9).toNat]?).bind fun x10=>(some ((),((⟨a0.rP,x10,a0.name,a0.seed,a0.height,a0.resident,a0.protect,a0.shared,a0.backed⟩:ApiCredential),()))))
 else none)))
 else (bif (decide (v2=(2:Int))) then (let v11:List (UInt8):=(List.replicate 32 (0:UInt8))
 (let v12:List (UInt8):=(List.replicate 33 (0:UInt8))
 (let v13:List (List UInt8):=([([]:List UInt8),([195]:List UInt8),v11,v12]:List (List UInt8))
 (let v14:Int:=(IntKind.wrap .i64 ((BitVec.ofInt (IntKind.bits .i64) v1 &&& BitVec.ofInt (IntKind.bits .i64) (3:Int)).toNat:Int))
 (bif (decide ((0:Int) ≤ v14) && decide (v14 < (4:Int))) then (((v13)[(v14).toNat]?).bind fun x15=>(some ((),((⟨a0.rP,a0.user,x15,a0.seed,a0.height,a0.resident,a0.protect,a0.shared,a0.backed⟩:ApiCredential),()))))
 else none)))))
 else (bif (decide (v2=(3:Int))) then (let v16:Int:=(IntKind.wrap .i64 ((BitVec.ofInt (IntKind.bits .i64) v1 &&& BitVec.ofInt (IntKind.bits .i64) (7:Int)).toNat:Int))
 (some ((),((⟨a0.rP,a0.user,a0.name,a0.seed,(IntKind.wrap .i64 (v16 - (1:Int))),a0.resident,a0.protect,a0.shared,a0.backed⟩:ApiCredential),()))))
 else (bif (decide (v2=(4:Int))) then (let v17:Int:=(IntKind.wrap .i64 ((BitVec.ofInt (IntKind.bits .i64) v1 &&& BitVec.ofInt (IntKind.bits .i64) (7:Int)).toNat:Int))
 (some ((),((⟨a0.rP,a0.user,a0.name,a0.seed,a0.height,a0.resident,(IntKind.wrap .i64 (v17 - (1:Int))),a0.shared,a0.backed⟩:ApiCredential),()))))
 else (bif (decide (v2=(5:Int))) then (some ((),((⟨a0.rP,a0.user,a0.name,a0.seed,a0.height,a0.resident,a0.protect,(!a0.shared),a0.backed⟩:ApiCredential),())))
 else (bif (decide (v2=(6:Int))) then (some ((),((⟨a0.rP,a0.user,a0.name,a0.seed,a0.height,a0.resident,a0.protect,a0.shared,(!a0.backed)⟩:ApiCredential),())))
 else (bif (decide (v2=(7:Int))) then (some ((),((⟨a0.rP,a0.user,a0.name,a0.seed,a0.height,(!a0.resident),a0.protect,a0.shared,a0.backed⟩:ApiCredential),())))
 else (some ((),(a0,())))))))))))))
def S_Zbf:FSpec T:=⟨[.f (.v (.agg 2)),.f (.v (.int .i64))],[(.v (.agg 2))],fun x=>Zbf x.1 x.2.1⟩
def E_Zbf:Env T:=⟨tab.find,cd,globs,flc,fun f ds=>match f with
    | _=>none,fun f=>match f with
    | _=>false⟩
def A_Zbf:Loc2 T:=⟨fun id=>match id with
    | _=>none,fun r=>match r with
    | _=>none,fun r=>match r with
    | 4=>true
    | 8=>true
    | _=>false⟩
theorem Zbf_eq (x:tySs T S_Zbf.ps):run E_Zbf A_Zbf (Tryz.f10.body.getD .skip) (enterT E_Zbf.C S_Zbf.ps x) (retK E_Zbf Tryz.f10.results.toList S_Zbf.ps S_Zbf.rs)=S_Zbf.fn x:=by kernel_rfl
theorem Zbf_env:EnvOk Tryz.prog E_Zbf:=envOk (E:=E_Zbf) cd_ok tys fl_ok fun f ds S h=>by cases h
theorem Zbf_ok:SoundT Tryz.prog cd gdn 10 S_Zbf:=
  sound_fn (E:=E_Zbf) (A:=A_Zbf) (done:=[]) (c:=(Tryz.f10.body.getD .skip)) (S:=S_Zbf) (fn:=Tryz.f10) hmix Zbf_env Tryz.func10 rfl (by kernel_rfl) (by kernel_rfl) done_nil (by kernel_rfl) (by kernel_rfl) Zbf_eq
def Zaz (a0:Int) (a1:Int) (a2:Int):Option ((Unit) × (Bool × Unit)):=
 (bif (decide (a1 ≤ a0)) then (some ((),((decide (a0 ≤ a2)),())))
 else (some ((),(false,()))))
def S_Zaz:FSpec T:=⟨[.f (.v (.int .i64)),.f (.v (.int .i64)),.f (.v (.int .i64))],[(.v .bool)],fun x=>Zaz x.1 x.2.1 x.2.2.1⟩
def E_Zaz:Env T:=⟨tab.find,cd,globs,flc,fun f ds=>match f with
    | _=>none,fun f=>match f with
    | _=>false⟩
def A_Zaz:Loc2 T:=⟨fun id=>match id with
    | _=>none,fun r=>match r with
    | _=>none,fun r=>match r with
    | _=>false⟩
theorem Zaz_eq (x:tySs T S_Zaz.ps):run E_Zaz A_Zaz (Tryz.f50.body.getD .skip) (enterT E_Zaz.C S_Zaz.ps x) (retK E_Zaz Tryz.f50.results.toList S_Zaz.ps S_Zaz.rs)=S_Zaz.fn x:=by kernel_rfl
theorem Zaz_env:EnvOk Tryz.prog E_Zaz:=envOk (E:=E_Zaz) cd_ok tys fl_ok fun f ds S h=>by cases h
theorem Zaz_ok:SoundT Tryz.prog cd gdn 50 S_Zaz:=
  sound_fn (E:=E_Zaz) (A:=A_Zaz) (done:=[]) (c:=(Tryz.f50.body.getD .skip)) (S:=S_Zaz) (fn:=Tryz.f50) hmix Zaz_env Tryz.func50 rfl (by kernel_rfl) (by kernel_rfl) done_nil (by kernel_rfl) (by kernel_rfl) Zaz_eq
def Zaa (a0:ApiCredential):Option ((Unit) × (Int × Unit)):=
 ((Zaz ((a0.rP).length:Int) (1:Int) (64:Int)).bind fun r1=>(bif (!r1.2.1) then (some ((),((9:Int),())))
 else ((Zaz ((a0.user).length:Int) (1:Int) (16:Int)).bind fun r2=>(bif (!r2.2.1) then (some ((),((9:Int),())))
 else (bif (decide ((32:Int) < ((a0.name).length:Int))) then (some ((),((9:Int),())))
 else ((Zaz a0.height (1:Int) (4:Int)).bind fun r3=>(bif (!r3.2.1) then (some ((),((9:Int),())))
 else ((Zaz a0.protect (1:Int) (3:Int)).bind fun r4=>(bif (!r4.2.1) then (some ((),((9:Int),())))
 else ((Zcg a0.rP).bind fun r5=>(bif (!r5.2.1) then (some ((),((6:Int),())))
 else ((Zcg a0.name).bind fun r6=>(bif (!r6.2.1) then (some ((),((6:Int),())))
 else (bif a0.shared then (bif (!a0.resident) then (some ((),((18:Int),())))
 else (bif a0.backed then (bif (!a0.shared) then (some ((),((18:Int),())))
 else (some ((),((0:Int),()))))
 else (some ((),((0:Int),())))))
 else (bif a0.backed then (bif (!a0.shared) then (some ((),((18:Int),())))
 else (some ((),((0:Int),()))))
 else (some ((),((0:Int),()))))))))))))))))))
def S_Zaa:FSpec T:=⟨[.f (.v (.agg 2))],[(.v (.int .i64))],fun x=>Zaa x.1⟩
def E_Zaa:Env T:=⟨tab.find,cd,globs,flc,fun f ds=>match f with
    | 49=>some S_Zcg
    | 50=>some S_Zaz
    | _=>none,fun f=>match f with
    | 49=>true
    | 50=>true
    | _=>false⟩
def A_Zaa:Loc2 T:=⟨fun id=>match id with
    | _=>none,fun r=>match r with
    | _=>none,fun r=>match r with
    | _=>false⟩
theorem Zaa_eq (x:tySs T S_Zaa.ps):run E_Zaa A_Zaa (Tryz.f15.body.getD .skip) (enterT E_Zaa.C S_Zaa.ps x) (retK E_Zaa Tryz.f15.results.toList S_Zaa.ps S_Zaa.rs)=S_Zaa.fn x:=by kernel_rfl
theorem Zaa_env:EnvOk Tryz.prog E_Zaa:=envOk (E:=E_Zaa) cd_ok tys fl_ok fun f ds S h=>by
    dsimp only [E_Zaa] at h
    split at h
    · cases h; exact Zcg_ok
    · cases h; exact Zaz_ok
    · cases h
theorem Zaa_ok:SoundT Tryz.prog cd gdn 15 S_Zaa:=
  sound_fn (E:=E_Zaa) (A:=A_Zaa) (done:=[]) (c:=(Tryz.f15.body.getD .skip)) (S:=S_Zaa) (fn:=Tryz.f15) hmix Zaa_env Tryz.func15 rfl (by kernel_rfl) (by kernel_rfl) done_nil (by kernel_rfl) (by kernel_rfl) Zaa_eq
def Zbr (a0:(List UInt8)):Option ((Unit) × (ApiItem × Unit)):=
 (some ((),((⟨(4:Int),0#64,a0⟩:ApiItem),())))
def S_Zbr:FSpec T:=⟨[.f (.v .str)],[(.v (.agg 1))],fun x=>Zbr x.1⟩
def E_Zbr:Env T:=⟨tab.find,cd,globs,flc,fun f ds=>match f with
    | _=>none,fun f=>match f with
    | _=>false⟩
def A_Zbr:Loc2 T:=⟨fun id=>match id with
    | _=>none,fun r=>match r with
    | _=>none,fun r=>match r with
    | _=>false⟩
theorem Zbr_eq (x:tySs T S_Zbr.ps):run E_Zbr A_Zbr (Tryz.f43.body.getD .skip) (enterT E_Zbr.C S_Zbr.ps x) (retK E_Zbr Tryz.f43.results.toList S_Zbr.ps S_Zbr.rs)=S_Zbr.fn x:=by kernel_rfl
theorem Zbr_env:EnvOk Tryz.prog E_Zbr:=envOk (E:=E_Zbr) cd_ok tys fl_ok fun f ds S h=>by cases h
theorem Zbr_ok:SoundT Tryz.prog cd gdn 43 S_Zbr:=
  sound_fn (E:=E_Zbr) (A:=A_Zbr) (done:=[]) (c:=(Tryz.f43.body.getD .skip)) (S:=S_Zbr) (fn:=Tryz.f43) hmix Zbr_env Tryz.func43 rfl (by kernel_rfl) (by kernel_rfl) done_nil (by kernel_rfl) (by kernel_rfl) Zbr_eq
def Zbp (a0:(List UInt8)):Option ((Unit) × (ApiItem × Unit)):=
 (some ((),((⟨(3:Int),0#64,a0⟩:ApiItem),())))
def S_Zbp:FSpec T:=⟨[.f (.v .str)],[(.v (.agg 1))],fun x=>Zbp x.1⟩
def E_Zbp:Env T:=⟨tab.find,cd,globs,flc,fun f ds=>match f with
    | _=>none,fun f=>match f with
    | _=>false⟩
def A_Zbp:Loc2 T:=⟨fun id=>match id with
    | _=>none,fun r=>match r with
    | _=>none,fun r=>match r with
    | _=>false⟩
theorem Zbp_eq (x:tySs T S_Zbp.ps):run E_Zbp A_Zbp (Tryz.f44.body.getD .skip) (enterT E_Zbp.C S_Zbp.ps x) (retK E_Zbp Tryz.f44.results.toList S_Zbp.ps S_Zbp.rs)=S_Zbp.fn x:=by kernel_rfl
theorem Zbp_env:EnvOk Tryz.prog E_Zbp:=envOk (E:=E_Zbp) cd_ok tys fl_ok fun f ds S h=>by cases h
theorem Zbp_ok:SoundT Tryz.prog cd gdn 44 S_Zbp:=
  sound_fn (E:=E_Zbp) (A:=A_Zbp) (done:=[]) (c:=(Tryz.f44.body.getD .skip)) (S:=S_Zbp) (fn:=Tryz.f44) hmix Zbp_env Tryz.func44 rfl (by kernel_rfl) (by kernel_rfl) done_nil (by kernel_rfl) (by kernel_rfl) Zbp_eq
def Zay (a0:(BitVec 64)):Option ((Unit) × (ApiItem × Unit)):=
 (some ((),((⟨(1:Int),a0,([]:List UInt8)⟩:ApiItem),())))
def S_Zay:FSpec T:=⟨[.f (.v .u64)],[(.v (.agg 1))],fun x=>Zay x.1⟩
def E_Zay:Env T:=⟨tab.find,cd,globs,flc,fun f ds=>match f with
    | _=>none,fun f=>match f with
    | _=>false⟩
def A_Zay:Loc2 T:=⟨fun id=>match id with
    | _=>none,fun r=>match r with
    | _=>none,fun r=>match r with
    | _=>false⟩
theorem Zay_eq (x:tySs T S_Zay.ps):run E_Zay A_Zay (Tryz.f45.body.getD .skip) (enterT E_Zay.C S_Zay.ps x) (retK E_Zay Tryz.f45.results.toList S_Zay.ps S_Zay.rs)=S_Zay.fn x:=by kernel_rfl
theorem Zay_env:EnvOk Tryz.prog E_Zay:=envOk (E:=E_Zay) cd_ok tys fl_ok fun f ds S h=>by cases h
theorem Zay_ok:SoundT Tryz.prog cd gdn 45 S_Zay:=
  sound_fn (E:=E_Zay) (A:=A_Zay) (done:=[]) (c:=(Tryz.f45.body.getD .skip)) (S:=S_Zay) (fn:=Tryz.f45) hmix Zay_env Tryz.func45 rfl (by kernel_rfl) (by kernel_rfl) done_nil (by kernel_rfl) (by kernel_rfl) Zay_eq
def Zar (a0:Bool):Option ((Unit) × (ApiItem × Unit)):=
 (bif a0 then (some ((),((⟨(7:Int),1#64,([]:List UInt8)⟩:ApiItem),())))
 else (some ((),((⟨(7:Int),0#64,([]:List UInt8)⟩:ApiItem),()))))
def S_Zar:FSpec T:=⟨[.f (.v .bool)],[(.v (.agg 1))],fun x=>Zar x.1⟩
def E_Zar:Env T:=⟨tab.find,cd,globs,flc,fun f ds=>match f with
    | _=>none,fun f=>match f with
    | _=>false⟩
def A_Zar:Loc2 T:=⟨fun id=>match id with
    | _=>none,fun r=>match r with
    | _=>none,fun r=>match r with
    | _=>false⟩
theorem Zar_eq (x:tySs T S_Zar.ps):run E_Zar A_Zar (Tryz.f46.body.getD .skip) (enterT E_Zar.C S_Zar.ps x) (retK E_Zar Tryz.f46.results.toList S_Zar.ps S_Zar.rs)=S_Zar.fn x:=by kernel_rfl
theorem Zar_env:EnvOk Tryz.prog E_Zar:=envOk (E:=E_Zar) cd_ok tys fl_ok fun f ds S h=>by cases h
theorem Zar_ok:SoundT Tryz.prog cd gdn 46 S_Zar:=
  sound_fn (E:=E_Zar) (A:=A_Zar) (done:=[]) (c:=(Tryz.f46.body.getD .skip)) (S:=S_Zar) (fn:=Tryz.f46) hmix Zar_env Tryz.func46 rfl (by kernel_rfl) (by kernel_rfl) done_nil (by kernel_rfl) (by kernel_rfl) Zar_eq
def Zbj (a0:Int) (a1:Int) (a2:Int):Option ((Unit) × (Bool × Unit)):=
 (bif (decide (a1 ≤ a0)) then (some ((),((decide (a0 ≤ a2)),())))
 else (some ((),(false,()))))
def S_Zbj:FSpec T:=⟨[.f (.v (.int .i64)),.f (.v (.int .i64)),.f (.v (.int .i64))],[(.v .bool)],fun x=>Zbj x.1 x.2.1 x.2.2.1⟩
def E_Zbj:Env T:=⟨tab.find,cd,globs,flc,fun f ds=>match f with
    | _=>none,fun f=>match f with
    | _=>false⟩
def A_Zbj:Loc2 T:=⟨fun id=>match id with
    | _=>none,fun r=>match r with
    | _=>none,fun r=>match r with
    | _=>false⟩
theorem Zbj_eq (x:tySs T S_Zbj.ps):run E_Zbj A_Zbj (Tryz.f168.body.getD .skip) (enterT E_Zbj.C S_Zbj.ps x) (retK E_Zbj Tryz.f168.results.toList S_Zbj.ps S_Zbj.rs)=S_Zbj.fn x:=by kernel_rfl
theorem Zbj_env:EnvOk Tryz.prog E_Zbj:=envOk (E:=E_Zbj) cd_ok tys fl_ok fun f ds S h=>by cases h
theorem Zbj_ok:SoundT Tryz.prog cd gdn 168 S_Zbj:=
  sound_fn (E:=E_Zbj) (A:=A_Zbj) (done:=[]) (c:=(Tryz.f168.body.getD .skip)) (S:=S_Zbj) (fn:=Tryz.f168) hmix Zbj_env Tryz.func168 rfl (by kernel_rfl) (by kernel_rfl) done_nil (by kernel_rfl) (by kernel_rfl) Zbj_eq
def Zbu (a0:Int):Option ((Unit) × (Bool × Unit)):=
 (bif (decide (a0=(1:Int))) then (some ((),(true,())))
 else (bif (decide (a0=(2:Int))) then (some ((),(true,())))
 else (some ((),((decide (a0=(4:Int))),())))))
def S_Zbu:FSpec T:=⟨[.f (.v (.int .i64))],[(.v .bool)],fun x=>Zbu x.1⟩
def E_Zbu:Env T:=⟨tab.find,cd,globs,flc,fun f ds=>match f with
    | _=>none,fun f=>match f with
    | _=>false⟩
def A_Zbu:Loc2 T:=⟨fun id=>match id with
    | _=>none,fun r=>match r with
    | _=>none,fun r=>match r with
    | _=>false⟩
theorem Zbu_eq (x:tySs T S_Zbu.ps):run E_Zbu A_Zbu (Tryz.f169.body.getD .skip) (enterT E_Zbu.C S_Zbu.ps x) (retK E_Zbu Tryz.f169.results.toList S_Zbu.ps S_Zbu.rs)=S_Zbu.fn x:=by kernel_rfl
theorem Zbu_env:EnvOk Tryz.prog E_Zbu:=envOk (E:=E_Zbu) cd_ok tys fl_ok fun f ds S h=>by cases h
theorem Zbu_ok:SoundT Tryz.prog cd gdn 169 S_Zbu:=
  sound_fn (E:=E_Zbu) (A:=A_Zbu) (done:=[]) (c:=(Tryz.f169.body.getD .skip)) (S:=S_Zbu) (fn:=Tryz.f169) hmix Zbu_env Tryz.func169 rfl (by kernel_rfl) (by kernel_rfl) done_nil (by kernel_rfl) (by kernel_rfl) Zbu_eq
def passkeyref1_Words_L2b (y0:(List (BitVec 64))) (y1:(List (UInt8))) (y2:Int) (y3:Int):Option (((List (BitVec 64)) × (List (UInt8)) × Int × Int × Unit) ⊕ ((List (BitVec 64)) × (List (UInt8)) × Int × Unit)):=
 (bif (decide ((0:Int) ≤ y3)) then ((getI y0 y2).bind fun x1=>(let v2:BitVec 64:=(x1 >>> (BitVec.ofInt 64 (IntKind.wrap .i64 ((8:Int) * y3))).toNat)
 (bif small ((y1).length + (([(UInt8.ofBitVec (BitVec.setWidth 8 v2))]:List (UInt8)):List (UInt8)).length) 1 then (let v3:List (UInt8):=(y1 ++ ([(UInt8.ofBitVec (BitVec.setWidth 8 v2))]:List (UInt8)))
 (some (Sum.inl (y0,v3,y2,(IntKind.wrap .i64 (y3 - (1:Int))),()))))
 else none)))
 else (some (Sum.inr (y0,y1,y2,()))))
def passkeyref1_Words_L2 (y:((List (BitVec 64)) × (List (UInt8)) × Int × Int × Unit)):Option ((List (BitVec 64)) × (List (UInt8)) × Int × Unit):=iter (fun (y:((List (BitVec 64)) × (List (UInt8)) × Int × Int × Unit))=>passkeyref1_Words_L2b y.1 y.2.1 y.2.2.1 y.2.2.2.1) rounds y
def passkeyref1_Words_L0b (y0:(List (BitVec 64))) (y1:(List (UInt8))) (y2:Int):Option (((List (BitVec 64)) × (List (UInt8)) × Int × Unit) ⊕ ((List (UInt8)) × Unit)):=
 (bif (decide (y2 < ((y0).length:Int))) then ((passkeyref1_Words_L2 (y0,y1,y2,(7:Int),())).bind (fun (z1:((List (BitVec 64)) × (List (UInt8)) × Int × Unit))=>(some (Sum.inl (z1.1,z1.2.1,(IntKind.wrap .i64 (z1.2.2.1 + (1:Int))),())))))
 else (some (Sum.inr (y1,()))))
def passkeyref1_Words_L0 (y:((List (BitVec 64)) × (List (UInt8)) × Int × Unit)):Option ((List (UInt8)) × Unit):=iter (fun (y:((List (BitVec 64)) × (List (UInt8)) × Int × Unit))=>passkeyref1_Words_L0b y.1 y.2.1 y.2.2.1) rounds y
def passkeyref1_Words (a0:(List (BitVec 64))):Option ((Unit) × ((List (UInt8)) × Unit)):=
 ((passkeyref1_Words_L0 (a0,[],(0:Int),())).bind (fun (z2:((List (UInt8)) × Unit))=>(some ((),(z2.1,())))))
def S_passkeyref1_Words:FSpec T:=⟨[.f (.v (.rs 3))],[(.own 0)],fun x=>passkeyref1_Words x.1⟩
def E_passkeyref1_Words:Env T:=⟨tab.find,cd,globs,flc,fun f ds=>match f with
    | _=>none,fun f=>match f with
    | _=>false⟩
def A_passkeyref1_Words:Loc2 T:=⟨fun id=>match id with
    | 2=>some ⟨[(0,.f (.v (.rs 3))),(3,.f (.own 0)),(4,.f (.v (.int .i64))),(5,.f (.v (.int .i64)))],[(.exit 2,[(0,.f (.v (.rs 3))),(3,.f (.own 0)),(4,.f (.v (.int .i64)))])],passkeyref1_Words_L2,[]⟩
    | 0=>some ⟨[(0,.f (.v (.rs 3))),(3,.f (.own 0)),(4,.f (.v (.int .i64)))],[(.exit 0,[(3,.f (.own 0))])],passkeyref1_Words_L0,[]⟩
    | _=>none,fun r=>match r with
    | _=>none,fun r=>match r with
    | _=>false⟩
theorem passkeyref1_Words_L2_eq (y0:(List (BitVec 64))) (y1:(List (UInt8))) (y2:Int) (y3:Int):run E_passkeyref1_Words A_passkeyref1_Words (loopAt 2 (Tryz.f21.body.getD .skip)) (layC cd [(0,.f (.v (.rs 3))),(3,.f (.own 0)),(4,.f (.v (.int .i64))),(5,.f (.v (.int .i64)))] [] (y0,y1,y2,y3,())) (roundK cd [(0,.f (.v (.rs 3))),(3,.f (.own 0)),(4,.f (.v (.int .i64))),(5,.f (.v (.int .i64)))] [] [(.exit 2,[(0,.f (.v (.rs 3))),(3,.f (.own 0)),(4,.f (.v (.int .i64)))])])=passkeyref1_Words_L2b y0 y1 y2 y3:=by kernel_rfl
theorem passkeyref1_Words_L0_eq (y0:(List (BitVec 64))) (y1:(List (UInt8))) (y2:Int):run E_passkeyref1_Words A_passkeyref1_Words (loopAt 0 (Tryz.f21.body.getD .skip)) (layC cd [(0,.f (.v (.rs 3))),(3,.f (.own 0)),(4,.f (.v (.int .i64)))] [] (y0,y1,y2,())) (roundK cd [(0,.f (.v (.rs 3))),(3,.f (.own 0)),(4,.f (.v (.int .i64)))] [] [(.exit 0,[(3,.f (.own 0))])])=passkeyref1_Words_L0b y0 y1 y2:=by kernel_rfl
theorem passkeyref1_Words_eq (x:tySs T S_passkeyref1_Words.ps):run E_passkeyref1_Words A_passkeyref1_Words (Tryz.f21.body.getD .skip) (enterT E_passkeyref1_Words.C S_passkeyref1_Words.ps x) (retK E_passkeyref1_Words Tryz.f21.results.toList S_passkeyref1_Words.ps S_passkeyref1_Words.rs)=S_passkeyref1_Words.fn x:=by kernel_rfl
theorem passkeyref1_Words_env:EnvOk Tryz.prog E_passkeyref1_Words:=envOk (E:=E_passkeyref1_Words) cd_ok tys fl_ok fun f ds S h=>by cases h
theorem passkeyref1_Words_L2_ok:LoopOk Tryz.prog E_passkeyref1_Words Tryz.f21.ntmps (kqOf S_passkeyref1_Words.ps 0) (loopAt 2 (Tryz.f21.body.getD .skip)) ⟨[(0,.f (.v (.rs 3))),(3,.f (.own 0)),(4,.f (.v (.int .i64))),(5,.f (.v (.int .i64)))],[(.exit 2,[(0,.f (.v (.rs 3))),(3,.f (.own 0)),(4,.f (.v (.int .i64)))])],passkeyref1_Words_L2,[]⟩:=
  loop_ok (A:=A_passkeyref1_Words) (done:=[]) (c0:=(Tryz.f21.body.getD .skip)) hmix passkeyref1_Words_env done_nil rounds (by kernel_rfl) (by kernel_rfl) (fun x=>passkeyref1_Words_L2_eq x.1 x.2.1 x.2.2.1 x.2.2.2.1) (fun _=>rfl)
theorem passkeyref1_Words_L0_ok:LoopOk Tryz.prog E_passkeyref1_Words Tryz.f21.ntmps (kqOf S_passkeyref1_Words.ps 0) (loopAt 0 (Tryz.f21.body.getD .skip)) ⟨[(0,.f (.v (.rs 3))),(3,.f (.own 0)),(4,.f (.v (.int .i64)))],[(.exit 0,[(3,.f (.own 0))])],passkeyref1_Words_L0,[]⟩:=
  loop_ok (A:=A_passkeyref1_Words) (done:=[2]) (c0:=(Tryz.f21.body.getD .skip)) hmix passkeyref1_Words_env (done_cons rfl passkeyref1_Words_L2_ok done_nil) rounds (by kernel_rfl) (by kernel_rfl) (fun x=>passkeyref1_Words_L0_eq x.1 x.2.1 x.2.2.1) (fun _=>rfl)
theorem passkeyref1_Words_ok:SoundT Tryz.prog cd gdn 21 S_passkeyref1_Words:=
  sound_fn (E:=E_passkeyref1_Words) (A:=A_passkeyref1_Words) (done:=[2,0]) (c:=(Tryz.f21.body.getD .skip)) (S:=S_passkeyref1_Words) (fn:=Tryz.f21) hmix passkeyref1_Words_env Tryz.func21 rfl (by kernel_rfl) (by kernel_rfl) (done_cons rfl passkeyref1_Words_L2_ok (done_cons rfl passkeyref1_Words_L0_ok done_nil)) (by kernel_rfl) (by kernel_rfl) passkeyref1_Words_eq
def Zce (a0:ApiItem):Option ((Unit) × ((List (UInt8)) × Unit)):=
 ((bif (decide (a0.kind=(7:Int))) then (let v1:UInt8:=(UInt8.ofBitVec ((244:UInt8).toBitVec + (UInt8.ofBitVec (BitVec.setWidth 8 a0.number)).toBitVec))
 (((some ((),(([v1]:List (UInt8)),())))).bind fun q=>some (Sum.inr q)))
 else (bif (decide (a0.kind=(8:Int))) then (((some ((),(([(246:UInt8)]:List (UInt8)),())))).bind fun q=>some (Sum.inr q))
 else (bif (decide (a0.kind=(2:Int))) then (some (Sum.inl (a0.number,(32:UInt8),())))
 else (bif (decide (a0.kind=(3:Int))) then (some (Sum.inl ((BitVec.ofInt 64 ((a0.data).length:Int)),(64:UInt8),())))
 else (bif (decide (a0.kind=(4:Int))) then (some (Sum.inl ((BitVec.ofInt 64 ((a0.data).length:Int)),(96:UInt8),())))
 else (bif (decide (a0.kind=(5:Int))) then (some (Sum.inl (a0.number,(128:UInt8),())))
 else (bif (decide (a0.kind=(6:Int))) then (some (Sum.inl (a0.number,(160:UInt8),())))
 else (some (Sum.inl (a0.number,(0:UInt8),())))))))))).bind (Sum.elim (fun (j2:((BitVec 64) × UInt8 × Unit))=>(bif (decide (j2.1.toNat < (24#64).toNat)) then (let v3:UInt8:=(UInt8.ofBitVec (j2.2.1.toBitVec + (UInt8.ofBitVec (BitVec.setWidth 8 j2.1)).toBitVec))
 (some ((),(([v3]:List (UInt8)),()))))
 else (bif (decide (j2.1.toNat < (256#64).toNat)) then (let v4:List (UInt8):=([(UInt8.ofBitVec (j2.2.1.toBitVec + (24:UInt8).toBitVec)),(UInt8.ofBitVec (BitVec.setWidth 8 j2.1))]:List (UInt8))
 (some ((),(v4,()))))
 else (bif (decide (j2.1.toNat < (65536#64).toNat)) then (let v5:List (UInt8):=([(UInt8.ofBitVec (j2.2.1.toBitVec + (25:UInt8).toBitVec)),(UInt8.ofBitVec (BitVec.setWidth 8 (j2.1 >>> 8))),(UInt8.ofBitVec (BitVec.setWidth 8 j2.1))]:List (UInt8))
 (some ((),(v5,()))))
 else (bif (decide (j2.1.toNat < (4294967296#64).toNat)) then (let v6:List (UInt8):=([(UInt8.ofBitVec (j2.2.1.toBitVec + (26:UInt8).toBitVec)),(UInt8.ofBitVec (BitVec.setWidth 8 (j2.1 >>> 24))),(UInt8.ofBitVec (BitVec.setWidth 8 (j2.1 >>> 16))),(UInt8.ofBitVec (BitVec.setWidth 8 (j2.1 >>> 8))),(UInt8.ofBitVec (BitVec.setWidth 8 j2.1))]:List (UInt8))
 (some ((),(v6,()))))
 else (let v7:List (UInt8):=([(UInt8.ofBitVec (j2.2.1.toBitVec + (27:UInt8).toBitVec))]:List (UInt8))
 ((passkeyref1_Words ([j2.1]:List (BitVec 64))).bind fun r8=>(bif small ((v7).length + (r8.2.1:List (UInt8)).length) 1 then (some ((),((v7 ++ r8.2.1),())))
 else none)))))))) some))
def S_Zce:FSpec T:=⟨[.f (.v (.agg 1))],[(.own 0)],fun x=>Zce x.1⟩
def E_Zce:Env T:=⟨tab.find,cd,globs,flc,fun f ds=>match f with
    | 21=>some S_passkeyref1_Words
    | _=>none,fun f=>match f with
    | _=>false⟩
def A_Zce:Loc2 T:=⟨fun id=>match id with
    | _=>none,fun r=>match r with
    | 18=>some ([(3,.f (.v .u64)),(4,.f (.v .u8))],false)
    | _=>none,fun r=>match r with
    | _=>false⟩
theorem Zce_eq (x:tySs T S_Zce.ps):run E_Zce A_Zce (Tryz.f113.body.getD .skip) (enterT E_Zce.C S_Zce.ps x) (retK E_Zce Tryz.f113.results.toList S_Zce.ps S_Zce.rs)=S_Zce.fn x:=by kernel_rfl
theorem Zce_env:EnvOk Tryz.prog E_Zce:=envOk (E:=E_Zce) cd_ok tys fl_ok fun f ds S h=>by
    dsimp only [E_Zce] at h
    split at h
    · cases h; exact passkeyref1_Words_ok
    · cases h
theorem Zce_ok:SoundT Tryz.prog cd gdn 113 S_Zce:=
  sound_fn (E:=E_Zce) (A:=A_Zce) (done:=[]) (c:=(Tryz.f113.body.getD .skip)) (S:=S_Zce) (fn:=Tryz.f113) hmix Zce_env Tryz.func113 rfl (by kernel_rfl) (by kernel_rfl) done_nil (by kernel_rfl) (by kernel_rfl) Zce_eq
def Zbs (a0:ApiItem):Option ((Unit) × ((List UInt8) × Unit)):=
 ((Zce a0).bind fun r1=>(bif Nat.ble ((r1.2.1).length + (a0.data).length) 9223372036854775807 then (some ((),((r1.2.1 ++ a0.data),())))
 else none))
def S_Zbs:FSpec T:=⟨[.f (.v (.agg 1))],[(.v .str)],fun x=>Zbs x.1⟩
def E_Zbs:Env T:=⟨tab.find,cd,globs,flc,fun f ds=>match f with
    | 113=>some S_Zce
    | _=>none,fun f=>match f with
    | _=>false⟩
def A_Zbs:Loc2 T:=⟨fun id=>match id with
    | _=>none,fun r=>match r with
    | _=>none,fun r=>match r with
    | 1=>true
    | _=>false⟩
theorem Zbs_eq (x:tySs T S_Zbs.ps):run E_Zbs A_Zbs (Tryz.f81.body.getD .skip) (enterT E_Zbs.C S_Zbs.ps x) (retK E_Zbs Tryz.f81.results.toList S_Zbs.ps S_Zbs.rs)=S_Zbs.fn x:=by kernel_rfl
theorem Zbs_env:EnvOk Tryz.prog E_Zbs:=envOk (E:=E_Zbs) cd_ok tys fl_ok fun f ds S h=>by
    dsimp only [E_Zbs] at h
    split at h
    · cases h; exact Zce_ok
    · cases h
theorem Zbs_ok:SoundT Tryz.prog cd gdn 81 S_Zbs:=
  sound_fn (E:=E_Zbs) (A:=A_Zbs) (done:=[]) (c:=(Tryz.f81.body.getD .skip)) (S:=S_Zbs) (fn:=Tryz.f81) hmix Zbs_env Tryz.func81 rfl (by kernel_rfl) (by kernel_rfl) done_nil (by kernel_rfl) (by kernel_rfl) Zbs_eq
def Zcf (a0:(List UInt8)) (a1:(List UInt8)):Option ((Unit) × (Bool × Unit)):=
 (bif (!decide (((a0).length:Int)=((a1).length:Int))) then (some ((),((decide (((a0).length:Int) < ((a1).length:Int))),())))
 else (some ((),((Op.bytesLess a0 a1),()))))
def S_Zcf:FSpec T:=⟨[.f (.v .str),.f (.v .str)],[(.v .bool)],fun x=>Zcf x.1 x.2.1⟩
def E_Zcf:Env T:=⟨tab.find,cd,globs,flc,fun f ds=>match f with
    | _=>none,fun f=>match f with
    | _=>false⟩
def A_Zcf:Loc2 T:=⟨fun id=>match id with
    | _=>none,fun r=>match r with
    | _=>none,fun r=>match r with
    | _=>false⟩
theorem Zcf_eq (x:tySs T S_Zcf.ps):run E_Zcf A_Zcf (Tryz.f170.body.getD .skip) (enterT E_Zcf.C S_Zcf.ps x) (retK E_Zcf Tryz.f170.results.toList S_Zcf.ps S_Zcf.rs)=S_Zcf.fn x:=by kernel_rfl
theorem Zcf_env:EnvOk Tryz.prog E_Zcf:=envOk (E:=E_Zcf) cd_ok tys fl_ok fun f ds S h=>by cases h
theorem Zcf_ok:SoundT Tryz.prog cd gdn 170 S_Zcf:=
  sound_fn (E:=E_Zcf) (A:=A_Zcf) (done:=[]) (c:=(Tryz.f170.body.getD .skip)) (S:=S_Zcf) (fn:=Tryz.f170) hmix Zcf_env Tryz.func170 rfl (by kernel_rfl) (by kernel_rfl) done_nil (by kernel_rfl) (by kernel_rfl) Zcf_eq
def Zbt (a0:ApiItem) (a1:Int) (a2:Int) (a3:Bool) (a4:(List UInt8)):Option ((Unit) × (Int × Unit)):=
 ((bif (decide (a0.kind=(3:Int))) then (some (a1,a2,a3,a4,(a0,()),true,()))
 else (some (a1,a2,a3,a4,(a0,()),(decide (a0.kind=(4:Int))),()))).bind (fun (j1:(Int × Int × Bool × (List UInt8) × (ApiItem × Unit) × Bool × Unit))=>((bif (decide (j1.2.2.2.2.1.1.kind=(5:Int))) then (some (j1.1,j1.2.1,j1.2.2.1,j1.2.2.2.1,(j1.2.2.2.2.1.1,()),j1.2.2.2.2.2.1,true,()))
 else (some (j1.1,j1.2.1,j1.2.2.1,j1.2.2.2.1,(j1.2.2.2.2.1.1,()),j1.2.2.2.2.2.1,(decide (j1.2.2.2.2.1.1.kind=(6:Int))),()))).bind (fun (j2:(Int × Int × Bool × (List UInt8) × (ApiItem × Unit) × Bool × Bool × Unit))=>(bif (decide ((512:Int) ≤ j2.1)) then (some ((),((8:Int),())))
 else (((Zbj j2.2.2.2.2.1.1.kind (1:Int) (8:Int)).bind fun r3=>(bif (!r3.2.1) then (some (j2.2.1,j2.2.2.1,j2.2.2.2.1,(j2.2.2.2.2.1.1,()),j2.2.2.2.2.2.1,j2.2.2.2.2.2.2.1,true,()))
 else (bif j2.2.2.1 then ((Zbu j2.2.2.2.2.1.1.kind).bind fun r4=>(some (j2.2.1,j2.2.2.1,j2.2.2.2.1,(j2.2.2.2.2.1.1,()),j2.2.2.2.2.2.1,j2.2.2.2.2.2.2.1,(!r4.2.1),())))
 else (some (j2.2.1,j2.2.2.1,j2.2.2.2.1,(j2.2.2.2.2.1.1,()),j2.2.2.2.2.2.1,j2.2.2.2.2.2.2.1,false,()))))).bind (fun (j5:(Int × Bool × (List UInt8) × (ApiItem × Unit) × Bool × Bool × Bool × Unit))=>(bif j5.2.2.2.2.2.2.1 then (some ((),((3:Int),())))
 else (bif (decide ((8:Int) < j5.1)) then (some ((),((5:Int),())))
 else ((bif j5.2.2.2.2.1 then (bif (!decide (j5.2.2.2.1.1.number=0#64)) then (some (j5.2.1,j5.2.2.1,(j5.2.2.2.1.1,()),j5.2.2.2.2.2.1,true,()))
 else (bif (decide (j5.2.2.2.1.1.kind=(7:Int))) then (bif (decide ((1#64).toNat < j5.2.2.2.1.1.number.toNat)) then (some (j5.2.1,j5.2.2.1,(j5.2.2.2.1.1,()),j5.2.2.2.2.2.1,true,()))
 else (bif (!j5.2.2.2.2.1) then (some (j5.2.1,j5.2.2.1,(j5.2.2.2.1.1,()),j5.2.2.2.2.2.1,(!decide (j5.2.2.2.1.1.data=([]:List UInt8))),()))
 else (some (j5.2.1,j5.2.2.1,(j5.2.2.2.1.1,()),j5.2.2.2.2.2.1,false,()))))
 else (bif (!j5.2.2.2.2.1) then (some (j5.2.1,j5.2.2.1,(j5.2.2.2.1.1,()),j5.2.2.2.2.2.1,(!decide (j5.2.2.2.1.1.data=([]:List UInt8))),()))
 else (some (j5.2.1,j5.2.2.1,(j5.2.2.2.1.1,()),j5.2.2.2.2.2.1,false,())))))
 else (bif (decide (j5.2.2.2.1.1.kind=(8:Int))) then (bif (!decide (j5.2.2.2.1.1.number=0#64)) then (some (j5.2.1,j5.2.2.1,(j5.2.2.2.1.1,()),j5.2.2.2.2.2.1,true,()))
 else (bif (decide (j5.2.2.2.1.1.kind=(7:Int))) then (bif (decide ((1#64).toNat < j5.2.2.2.1.1.number.toNat)) then (some (j5.2.1,j5.2.2.1,(j5.2.2.2.1.1,()),j5.2.2.2.2.2.1,true,()))
 else (bif (!j5.2.2.2.2.1) then (some (j5.2.1,j5.2.2.1,(j5.2.2.2.1.1,()),j5.2.2.2.2.2.1,(!decide (j5.2.2.2.1.1.data=([]:List UInt8))),()))
 else (some (j5.2.1,j5.2.2.1,(j5.2.2.2.1.1,()),j5.2.2.2.2.2.1,false,()))))
 else (bif (!j5.2.2.2.2.1) then (some (j5.2.1,j5.2.2.1,(j5.2.2.2.1.1,()),j5.2.2.2.2.2.1,(!decide (j5.2.2.2.1.1.data=([]:List UInt8))),()))
 else (some (j5.2.1,j5.2.2.1,(j5.2.2.2.1.1,()),j5.2.2.2.2.2.1,false,())))))
 else (bif (decide (j5.2.2.2.1.1.kind=(7:Int))) then (bif (decide ((1#64).toNat < j5.2.2.2.1.1.number.toNat)) then (some (j5.2.1,j5.2.2.1,(j5.2.2.2.1.1,()),j5.2.2.2.2.2.1,true,()))
 else (bif (!j5.2.2.2.2.1) then (some (j5.2.1,j5.2.2.1,(j5.2.2.2.1.1,()),j5.2.2.2.2.2.1,(!decide (j5.2.2.2.1.1.data=([]:List UInt8))),()))
 else (some (j5.2.1,j5.2.2.1,(j5.2.2.2.1.1,()),j5.2.2.2.2.2.1,false,()))))
 else (bif (!j5.2.2.2.2.1) then (some (j5.2.1,j5.2.2.1,(j5.2.2.2.1.1,()),j5.2.2.2.2.2.1,(!decide (j5.2.2.2.1.1.data=([]:List UInt8))),()))
 else (some (j5.2.1,j5.2.2.1,(j5.2.2.2.1.1,()),j5.2.2.2.2.2.1,false,())))))).bind (fun (j6:(Bool × (List UInt8) × (ApiItem × Unit) × Bool × Bool × Unit))=>(bif j6.2.2.2.2.1 then (some ((),((4:Int),())))
 else ((bif (decide ((1024:Int) < ((j6.2.2.1.1.data).length:Int))) then (some (j6.1,j6.2.1,(j6.2.2.1.1,()),true,()))
 else (bif j6.2.2.2.1 then (some (j6.1,j6.2.1,(j6.2.2.1.1,()),(decide ((512#64).toNat < j6.2.2.1.1.number.toNat)),()))
 else (some (j6.1,j6.2.1,(j6.2.2.1.1,()),false,())))).bind (fun (j7:(Bool × (List UInt8) × (ApiItem × Unit) × Bool × Unit))=>(bif j7.2.2.2.1 then (some ((),((8:Int),())))
 else ((bif (decide (j7.2.2.1.1.kind=(4:Int))) then ((Zcg j7.2.2.1.1.data).bind fun r8=>(some (j7.1,j7.2.1,(j7.2.2.1.1,()),(!r8.2.1),())))
 else (some (j7.1,j7.2.1,(j7.2.2.1.1,()),false,()))).bind (fun (j9:(Bool × (List UInt8) × (ApiItem × Unit) × Bool × Unit))=>(bif j9.2.2.2.1 then (some ((),((6:Int),())))
 else ((bif j9.1 then (bif (!decide (j9.2.1=([]:List UInt8))) then ((Zbs j9.2.2.1.1).bind fun r10=>((Zcf j9.2.1 r10.2.1).bind fun r11=>(some ((!r11.2.1),()))))
 else (some (false,())))
 else (some (false,()))).bind (fun (j12:(Bool × Unit))=>(bif j12.1 then (some ((),((7:Int),())))
 else (some ((),((0:Int),()))))))))))))))))))))))))
def S_Zbt:FSpec T:=⟨[.f (.v (.agg 1)),.f (.v (.int .i64)),.f (.v (.int .i64)),.f (.v .bool),.f (.v .str)],[(.v (.int .i64))],fun x=>Zbt x.1 x.2.1 x.2.2.1 x.2.2.2.1 x.2.2.2.2.1⟩
def E_Zbt:Env T:=⟨tab.find,cd,globs,flc,fun f ds=>match f with
    | 49=>some S_Zcg
    | 81=>some S_Zbs
    | 168=>some S_Zbj
    | 169=>some S_Zbu
    | 170=>some S_Zcf
    | _=>none,fun f=>match f with
    | 49=>true
    | 81=>true
    | 168=>true
    | 169=>true
    | 170=>true
    | _=>false⟩
def A_Zbt:Loc2 T:=⟨fun id=>match id with
    | _=>none,fun r=>match r with
    | 2=>some ([(1,.f (.v (.int .i64))),(2,.f (.v (.int .i64))),(3,.f (.v .bool)),(4,.f (.v .str)),(5,.ptr [(.v (.agg 1))]),(11,.f (.v .bool))],true)
    | 3=>some ([(1,.f (.v (.int .i64))),(2,.f (.v (.int .i64))),(3,.f (.v .bool)),(4,.f (.v .str)),(5,.ptr [(.v (.agg 1))]),(11,.f (.v .bool)),(12,.f (.v .bool))],true)
    | 6=>some ([(2,.f (.v (.int .i64))),(3,.f (.v .bool)),(4,.f (.v .str)),(5,.ptr [(.v (.agg 1))]),(11,.f (.v .bool)),(12,.f (.v .bool)),(32,.f (.v .bool))],true)
    | 10=>some ([(3,.f (.v .bool)),(4,.f (.v .str)),(5,.ptr [(.v (.agg 1))]),(12,.f (.v .bool)),(49,.f (.v .bool))],true)
    | 12=>some ([(3,.f (.v .bool)),(4,.f (.v .str)),(5,.ptr [(.v (.agg 1))]),(80,.f (.v .bool))],true)
    | 14=>some ([(3,.f (.v .bool)),(4,.f (.v .str)),(5,.ptr [(.v (.agg 1))]),(93,.f (.v .bool))],true)
    | 16=>some ([(103,.f (.v .bool))],true)
    | _=>none,fun r=>match r with
    | _=>false⟩
theorem Zbt_eq (x:tySs T S_Zbt.ps):run E_Zbt A_Zbt (Tryz.f147.body.getD .skip) (enterT E_Zbt.C S_Zbt.ps x) (retK E_Zbt Tryz.f147.results.toList S_Zbt.ps S_Zbt.rs)=S_Zbt.fn x:=by kernel_rfl
theorem Zbt_env:EnvOk Tryz.prog E_Zbt:=envOk (E:=E_Zbt) cd_ok tys fl_ok fun f ds S h=>by
    dsimp only [E_Zbt] at h
    split at h
    · cases h; exact Zcg_ok
    · cases h; exact Zbs_ok
    · cases h; exact Zbj_ok
    · cases h; exact Zbu_ok
    · cases h; exact Zcf_ok
    · cases h
theorem Zbt_ok:SoundT Tryz.prog cd gdn 147 S_Zbt:=
  sound_fn (E:=E_Zbt) (A:=A_Zbt) (done:=[]) (c:=(Tryz.f147.body.getD .skip)) (S:=S_Zbt) (fn:=Tryz.f147) hmix Zbt_env Tryz.func147 rfl (by kernel_rfl) (by kernel_rfl) done_nil (by kernel_rfl) (by kernel_rfl) Zbt_eq
def passkeyref1_walk_L0b (k_rec:(List (ApiItem)) → Int → Int → Bool → (List UInt8) → Option ((Unit) × (Int × Int × Unit))) (y0:(List (ApiItem))) (y1:Int) (y2:(ApiItem × Unit)) (y3:Int) (y4:(List UInt8)) (y5:(BitVec 64)):Option (((List (ApiItem)) × Int × (ApiItem × Unit) × Int × (List UInt8) × (BitVec 64) × Unit) ⊕ ((Int × Int × Unit) ⊕ (Int × Unit))):=
 (bif (decide (y5.toNat < y2.1.number.toNat)) then (bif (decide (y2.1.kind=(5:Int))) then ((bif (decide (y2.1.kind=(6:Int))) then ((k_rec y0 y3 (IntKind.wrap .i64 (y1 + (1:Int))) true y4).bind fun r3=>(bif (!decide (r3.2.2.1=(0:Int))) then (((some (Sum.inr (Sum.inl (r3.2.1,r3.2.2.1,()))))).bind fun q=>some (Sum.inr q))
 else ((getI y0 y3).bind fun x4=>((Zbs x4).bind fun r5=>(some (Sum.inl (y0,y1,(y2.1,()),r3.2.1,r5.2.1,y5,())))))))
 else (some (Sum.inl (y0,y1,(y2.1,()),y3,y4,y5,())))).bind (Sum.elim (fun (j6:((List (ApiItem)) × Int × (ApiItem × Unit) × Int × (List UInt8) × (BitVec 64) × Unit))=>((k_rec j6.1 j6.2.2.2.1 (IntKind.wrap .i64 (j6.2.1 + (1:Int))) false ([]:List UInt8)).bind fun r7=>(bif (!decide (r7.2.2.1=(0:Int))) then (some (Sum.inr (Sum.inl (r7.2.1,r7.2.2.1,()))))
 else (some (Sum.inl (j6.1,j6.2.1,(j6.2.2.1.1,()),r7.2.1,j6.2.2.2.2.1,(j6.2.2.2.2.2.1 + 1#64),())))))) some))
 else (bif (decide (y2.1.kind=(6:Int))) then ((bif (decide (y2.1.kind=(6:Int))) then ((k_rec y0 y3 (IntKind.wrap .i64 (y1 + (1:Int))) true y4).bind fun r8=>(bif (!decide (r8.2.2.1=(0:Int))) then (((some (Sum.inr (Sum.inl (r8.2.1,r8.2.2.1,()))))).bind fun q=>some (Sum.inr q))
 else ((getI y0 y3).bind fun x9=>((Zbs x9).bind fun r10=>(some (Sum.inl (y0,y1,(y2.1,()),r8.2.1,r10.2.1,y5,())))))))
 else (some (Sum.inl (y0,y1,(y2.1,()),y3,y4,y5,())))).bind (Sum.elim (fun (j11:((List (ApiItem)) × Int × (ApiItem × Unit) × Int × (List UInt8) × (BitVec 64) × Unit))=>((k_rec j11.1 j11.2.2.2.1 (IntKind.wrap .i64 (j11.2.1 + (1:Int))) false ([]:List UInt8)).bind fun r12=>(bif (!decide (r12.2.2.1=(0:Int))) then (some (Sum.inr (Sum.inl (r12.2.1,r12.2.2.1,()))))
 else (some (Sum.inl (j11.1,j11.2.1,(j11.2.2.1.1,()),r12.2.1,j11.2.2.2.2.1,(j11.2.2.2.2.2.1 + 1#64),())))))) some))
 else (some (Sum.inr (Sum.inr (y3,()))))))
 else (some (Sum.inr (Sum.inr (y3,())))))
def passkeyref1_walk_L0 (k_rec:(List (ApiItem)) → Int → Int → Bool → (List UInt8) → Option ((Unit) × (Int × Int × Unit))) (y:((List (ApiItem)) × Int × (ApiItem × Unit) × Int × (List UInt8) × (BitVec 64) × Unit)):Option ((Int × Int × Unit) ⊕ (Int × Unit)):=iter (fun (y:((List (ApiItem)) × Int × (ApiItem × Unit) × Int × (List UInt8) × (BitVec 64) × Unit))=>passkeyref1_walk_L0b k_rec y.1 y.2.1 y.2.2.1 y.2.2.2.1 y.2.2.2.2.1 y.2.2.2.2.2.1) rounds y
def passkeyref1_walk_R (k_rec:(List (ApiItem)) → Int → Int → Bool → (List UInt8) → Option ((Unit) × (Int × Int × Unit))) (a0:(List (ApiItem))) (a1:Int) (a2:Int) (a3:Bool) (a4:(List UInt8)):Option ((Unit) × (Int × Int × Unit)):=
 (bif (decide (((a0).length:Int) ≤ a1)) then (some ((),(a1,(1:Int),())))
 else ((getI a0 a1).bind fun x1=>((Zbt x1 a1 a2 a3 a4).bind fun r2=>(bif (!decide (r2.2.1=(0:Int))) then (some ((),(a1,r2.2.1,())))
 else ((passkeyref1_walk_L0 k_rec (a0,a2,(x1,()),(IntKind.wrap .i64 (a1 + (1:Int))),([]:List UInt8),0#64,())).bind (Sum.elim (fun (z13:(Int × Int × Unit))=>(some ((),(z13.1,z13.2.1,())))) (fun (z14:(Int × Unit))=>(some ((),(z14.1,(0:Int),()))))))))))
abbrev ps_passkeyref1_walk:List Slot:=[.f (.v (.rs 1)),.f (.v (.int .i64)),.f (.v (.int .i64)),.f (.v .bool),.f (.v .str)]
abbrev rs_passkeyref1_walk:List Fld:=[(.v (.int .i64)),(.v (.int .i64))]
def E_passkeyref1_walk (k_rec:(List (ApiItem)) → Int → Int → Bool → (List UInt8) → Option ((Unit) × (Int × Int × Unit))):Env T:=⟨tab.find,cd,globs,flc,fun f ds=>match f with
    | 81=>some S_Zbs
    | 112=>some ⟨ps_passkeyref1_walk,rs_passkeyref1_walk,fun x=>k_rec x.1 x.2.1 x.2.2.1 x.2.2.2.1 x.2.2.2.2.1⟩
    | 147=>some S_Zbt
    | _=>none,fun f=>match f with
    | 81=>true
    | 112=>true
    | 147=>true
    | _=>false⟩
def A_passkeyref1_walk (k_rec:(List (ApiItem)) → Int → Int → Bool → (List UInt8) → Option ((Unit) × (Int × Int × Unit))):Loc2 T:=⟨fun id=>match id with
    | 0=>some ⟨[(0,.f (.v (.rs 1))),(2,.f (.v (.int .i64))),(12,.ptr [(.v (.agg 1))]),(14,.f (.v (.int .i64))),(15,.f (.v .str)),(16,.f (.v .u64))],[(.ret,[(10,.f (.v (.int .i64))),(11,.f (.v (.int .i64)))]),(.exit 0,[(14,.f (.v (.int .i64)))])],passkeyref1_walk_L0 k_rec,[]⟩
    | _=>none,fun r=>match r with
    | 19=>some ([(0,.f (.v (.rs 1))),(2,.f (.v (.int .i64))),(12,.ptr [(.v (.agg 1))]),(14,.f (.v (.int .i64))),(15,.f (.v .str)),(16,.f (.v .u64))],false)
    | _=>none,fun r=>match r with
    | _=>false⟩
theorem passkeyref1_walk_L0_eq (k_rec:(List (ApiItem)) → Int → Int → Bool → (List UInt8) → Option ((Unit) × (Int × Int × Unit))) (y0:(List (ApiItem))) (y1:Int) (y2:(ApiItem × Unit)) (y3:Int) (y4:(List UInt8)) (y5:(BitVec 64)):run (E_passkeyref1_walk k_rec) (A_passkeyref1_walk k_rec) (loopAt 0 (Tryz.f112.body.getD .skip)) (layC cd [(0,.f (.v (.rs 1))),(2,.f (.v (.int .i64))),(12,.ptr [(.v (.agg 1))]),(14,.f (.v (.int .i64))),(15,.f (.v .str)),(16,.f (.v .u64))] [] (y0,y1,y2,y3,y4,y5,())) (roundK cd [(0,.f (.v (.rs 1))),(2,.f (.v (.int .i64))),(12,.ptr [(.v (.agg 1))]),(14,.f (.v (.int .i64))),(15,.f (.v .str)),(16,.f (.v .u64))] [] [(.ret,[(10,.f (.v (.int .i64))),(11,.f (.v (.int .i64)))]),(.exit 0,[(14,.f (.v (.int .i64)))])])=passkeyref1_walk_L0b k_rec y0 y1 y2 y3 y4 y5:=by kernel_rfl
theorem passkeyref1_walk_eqR (k_rec:(List (ApiItem)) → Int → Int → Bool → (List UInt8) → Option ((Unit) × (Int × Int × Unit))) (x:tySs T ps_passkeyref1_walk):run (E_passkeyref1_walk k_rec) (A_passkeyref1_walk k_rec) (Tryz.f112.body.getD .skip) (enterT (E_passkeyref1_walk k_rec).C ps_passkeyref1_walk x) (retK (E_passkeyref1_walk k_rec) Tryz.f112.results.toList ps_passkeyref1_walk rs_passkeyref1_walk)=passkeyref1_walk_R k_rec x.1 x.2.1 x.2.2.1 x.2.2.2.1 x.2.2.2.2.1:=by kernel_rfl
def passkeyref1_walk_n:Nat → (List (ApiItem)) → Int → Int → Bool → (List UInt8) → Option ((Unit) × (Int × Int × Unit))
  | 0=>fun _ _ _ _ _=>none
  | n + 1=>passkeyref1_walk_R (passkeyref1_walk_n n)
def passkeyref1_walk (a0:(List (ApiItem))) (a1:Int) (a2:Int) (a3:Bool) (a4:(List UInt8)):=passkeyref1_walk_n 12 a0 a1 a2 a3 a4
def S_passkeyref1_walk:FSpec T:=⟨ps_passkeyref1_walk,rs_passkeyref1_walk,fun x=>passkeyref1_walk x.1 x.2.1 x.2.2.1 x.2.2.2.1 x.2.2.2.2.1⟩
theorem passkeyref1_walk_env (k_rec:(List (ApiItem)) → Int → Int → Bool → (List UInt8) → Option ((Unit) × (Int × Int × Unit))) (hk:SoundT Tryz.prog cd gdn 112 ⟨ps_passkeyref1_walk,rs_passkeyref1_walk,fun x=>k_rec x.1 x.2.1 x.2.2.1 x.2.2.2.1 x.2.2.2.2.1⟩):EnvOk Tryz.prog (E_passkeyref1_walk k_rec):=envOk (E:=(E_passkeyref1_walk k_rec)) cd_ok tys fl_ok fun f ds S h=>by
    dsimp only [E_passkeyref1_walk] at h
    split at h
    · cases h; exact Zbs_ok
    · cases h; exact hk
    · cases h; exact Zbt_ok
    · cases h
theorem passkeyref1_walk_L0_ok (k_rec:(List (ApiItem)) → Int → Int → Bool → (List UInt8) → Option ((Unit) × (Int × Int × Unit))) (hk:SoundT Tryz.prog cd gdn 112 ⟨ps_passkeyref1_walk,rs_passkeyref1_walk,fun x=>k_rec x.1 x.2.1 x.2.2.1 x.2.2.2.1 x.2.2.2.2.1⟩):LoopOk Tryz.prog (E_passkeyref1_walk k_rec) Tryz.f112.ntmps (kqOf ps_passkeyref1_walk 0) (loopAt 0 (Tryz.f112.body.getD .skip)) ⟨[(0,.f (.v (.rs 1))),(2,.f (.v (.int .i64))),(12,.ptr [(.v (.agg 1))]),(14,.f (.v (.int .i64))),(15,.f (.v .str)),(16,.f (.v .u64))],[(.ret,[(10,.f (.v (.int .i64))),(11,.f (.v (.int .i64)))]),(.exit 0,[(14,.f (.v (.int .i64)))])],passkeyref1_walk_L0 k_rec,[]⟩:=
  loop_ok (A:=(A_passkeyref1_walk k_rec)) (done:=[]) (c0:=(Tryz.f112.body.getD .skip)) hmix (passkeyref1_walk_env k_rec hk) done_nil rounds (by kernel_rfl) (by kernel_rfl) (fun x=>passkeyref1_walk_L0_eq k_rec x.1 x.2.1 x.2.2.1 x.2.2.2.1 x.2.2.2.2.1 x.2.2.2.2.2.1) (fun _=>rfl)
theorem passkeyref1_walk_okn:∀ n:Nat,SoundT Tryz.prog cd gdn 112 ⟨ps_passkeyref1_walk,rs_passkeyref1_walk,fun x=>passkeyref1_walk_n n x.1 x.2.1 x.2.2.1 x.2.2.2.1 x.2.2.2.2.1⟩
  | 0=>sound_none ⟨_,Tryz.func112,by kernel_rfl,by kernel_rfl⟩
  | n + 1=>sound_fn (E:=E_passkeyref1_walk (passkeyref1_walk_n n)) (A:=A_passkeyref1_walk (passkeyref1_walk_n n)) (done:=[0]) (c:=(Tryz.f112.body.getD .skip)) (S:=⟨ps_passkeyref1_walk,rs_passkeyref1_walk,fun x=>passkeyref1_walk_n (n + 1) x.1 x.2.1 x.2.2.1 x.2.2.2.1 x.2.2.2.2.1⟩) (fn:=Tryz.f112) hmix (passkeyref1_walk_env _ (passkeyref1_walk_okn n)) Tryz.func112 rfl (by kernel_rfl) (by kernel_rfl) (done_cons rfl (passkeyref1_walk_L0_ok _ (passkeyref1_walk_okn n)) done_nil) (by kernel_rfl) (by kernel_rfl) (passkeyref1_walk_eqR (passkeyref1_walk_n n))
theorem passkeyref1_walk_ok:SoundT Tryz.prog cd gdn 112 S_passkeyref1_walk:=passkeyref1_walk_okn 12
def Zas (a0:(List (ApiItem))):Option ((Unit) × (Int × Unit)):=
 ((passkeyref1_walk a0 (0:Int) (0:Int) false ([]:List UInt8)).bind fun r1=>(bif (!decide (r1.2.2.1=(0:Int))) then (some ((),(r1.2.2.1,())))
 else (bif (decide (r1.2.1 < ((a0).length:Int))) then (some ((),((2:Int),())))
 else (some ((),((0:Int),()))))))
def S_Zas:FSpec T:=⟨[.f (.v (.rs 1))],[(.v (.int .i64))],fun x=>Zas x.1⟩
def E_Zas:Env T:=⟨tab.find,cd,globs,flc,fun f ds=>match f with
    | 112=>some S_passkeyref1_walk
    | _=>none,fun f=>match f with
    | 112=>true
    | _=>false⟩
def A_Zas:Loc2 T:=⟨fun id=>match id with
    | _=>none,fun r=>match r with
    | _=>none,fun r=>match r with
    | _=>false⟩
theorem Zas_eq (x:tySs T S_Zas.ps):run E_Zas A_Zas (Tryz.f80.body.getD .skip) (enterT E_Zas.C S_Zas.ps x) (retK E_Zas Tryz.f80.results.toList S_Zas.ps S_Zas.rs)=S_Zas.fn x:=by kernel_rfl
theorem Zas_env:EnvOk Tryz.prog E_Zas:=envOk (E:=E_Zas) cd_ok tys fl_ok fun f ds S h=>by
    dsimp only [E_Zas] at h
    split at h
    · cases h; exact passkeyref1_walk_ok
    · cases h
theorem Zas_ok:SoundT Tryz.prog cd gdn 80 S_Zas:=
  sound_fn (E:=E_Zas) (A:=A_Zas) (done:=[]) (c:=(Tryz.f80.body.getD .skip)) (S:=S_Zas) (fn:=Tryz.f80) hmix Zas_env Tryz.func80 rfl (by kernel_rfl) (by kernel_rfl) done_nil (by kernel_rfl) (by kernel_rfl) Zas_eq
def Zbi_L0b (y0:(List (ApiItem))) (y1:(List (UInt8))) (y2:Int):Option (((List (ApiItem)) × (List (UInt8)) × Int × Unit) ⊕ ((List (UInt8)) × Unit)):=
 (bif (decide (y2 < ((y0).length:Int))) then ((getI y0 y2).bind fun x2=>((Zbs x2).bind fun r3=>(bif small ((y1).length + (r3.2.1:List (UInt8)).length) 1 then (some (Sum.inl (y0,(y1 ++ r3.2.1),(IntKind.wrap .i64 (y2 + (1:Int))),())))
 else none)))
 else (some (Sum.inr (y1,()))))
def Zbi_L0 (y:((List (ApiItem)) × (List (UInt8)) × Int × Unit)):Option ((List (UInt8)) × Unit):=iter (fun (y:((List (ApiItem)) × (List (UInt8)) × Int × Unit))=>Zbi_L0b y.1 y.2.1 y.2.2.1) rounds y
def Zbi (a0:(List (ApiItem))):Option ((Unit) × ((List (UInt8)) × Int × Unit)):=
 ((Zas a0).bind fun r1=>(bif (!decide (r1.2.1=(0:Int))) then (some ((),([],r1.2.1,())))
 else ((Zbi_L0 (a0,[],(0:Int),())).bind (fun (z4:((List (UInt8)) × Unit))=>(some ((),(z4.1,(0:Int),())))))))
def S_Zbi:FSpec T:=⟨[.f (.v (.rs 1))],[(.own 0),(.v (.int .i64))],fun x=>Zbi x.1⟩
def E_Zbi:Env T:=⟨tab.find,cd,globs,flc,fun f ds=>match f with
    | 80=>some S_Zas
    | 81=>some S_Zbs
    | _=>none,fun f=>match f with
    | 80=>true
    | 81=>true
    | _=>false⟩
def A_Zbi:Loc2 T:=⟨fun id=>match id with
    | 0=>some ⟨[(0,.f (.v (.rs 1))),(5,.f (.own 0)),(6,.f (.v (.int .i64)))],[(.exit 0,[(5,.f (.own 0))])],Zbi_L0,[]⟩
    | _=>none,fun r=>match r with
    | _=>none,fun r=>match r with
    | _=>false⟩
theorem Zbi_L0_eq (y0:(List (ApiItem))) (y1:(List (UInt8))) (y2:Int):run E_Zbi A_Zbi (loopAt 0 (Tryz.f47.body.getD .skip)) (layC cd [(0,.f (.v (.rs 1))),(5,.f (.own 0)),(6,.f (.v (.int .i64)))] [] (y0,y1,y2,())) (roundK cd [(0,.f (.v (.rs 1))),(5,.f (.own 0)),(6,.f (.v (.int .i64)))] [] [(.exit 0,[(5,.f (.own 0))])])=Zbi_L0b y0 y1 y2:=by kernel_rfl
theorem Zbi_eq (x:tySs T S_Zbi.ps):run E_Zbi A_Zbi (Tryz.f47.body.getD .skip) (enterT E_Zbi.C S_Zbi.ps x) (retK E_Zbi Tryz.f47.results.toList S_Zbi.ps S_Zbi.rs)=S_Zbi.fn x:=by kernel_rfl
theorem Zbi_env:EnvOk Tryz.prog E_Zbi:=envOk (E:=E_Zbi) cd_ok tys fl_ok fun f ds S h=>by
    dsimp only [E_Zbi] at h
    split at h
    · cases h; exact Zas_ok
    · cases h; exact Zbs_ok
    · cases h
theorem Zbi_L0_ok:LoopOk Tryz.prog E_Zbi Tryz.f47.ntmps (kqOf S_Zbi.ps 0) (loopAt 0 (Tryz.f47.body.getD .skip)) ⟨[(0,.f (.v (.rs 1))),(5,.f (.own 0)),(6,.f (.v (.int .i64)))],[(.exit 0,[(5,.f (.own 0))])],Zbi_L0,[]⟩:=
  loop_ok (A:=A_Zbi) (done:=[]) (c0:=(Tryz.f47.body.getD .skip)) hmix Zbi_env done_nil rounds (by kernel_rfl) (by kernel_rfl) (fun x=>Zbi_L0_eq x.1 x.2.1 x.2.2.1) (fun _=>rfl)
theorem Zbi_ok:SoundT Tryz.prog cd gdn 47 S_Zbi:=
  sound_fn (E:=E_Zbi) (A:=A_Zbi) (done:=[0]) (c:=(Tryz.f47.body.getD .skip)) (S:=S_Zbi) (fn:=Tryz.f47) hmix Zbi_env Tryz.func47 rfl (by kernel_rfl) (by kernel_rfl) (done_cons rfl Zbi_L0_ok done_nil) (by kernel_rfl) (by kernel_rfl) Zbi_eq
def Zae_L0b (y0:(List (ApiItem))) (y1:(List (ApiItem))) (y2:Int):Option (((List (ApiItem)) × (List (ApiItem)) × Int × Unit) ⊕ ((List (ApiItem)) × Unit)):=
 (bif (decide (y2 < ((y0).length:Int))) then ((Zay (BitVec.ofInt 64 (IntKind.wrap .i64 (y2 + (1:Int))))).bind fun r13=>(bif (decide ((0:Int) ≤ y2) && decide (y2 < ((y0).length:Int))) then (((y0)[(y2).toNat]?).bind fun x14=>(bif small ((y1).length + (([r13.2.1,x14]:List (ApiItem)):List (ApiItem)).length) 32 then (let v15:List (ApiItem):=(y1 ++ ([r13.2.1,x14]:List (ApiItem)))
 (some (Sum.inl (y0,v15,(IntKind.wrap .i64 (y2 + (1:Int))),()))))
 else none))
 else none))
 else (some (Sum.inr (y1,()))))
def Zae_L0 (y:((List (ApiItem)) × (List (ApiItem)) × Int × Unit)):Option ((List (ApiItem)) × Unit):=iter (fun (y:((List (ApiItem)) × (List (ApiItem)) × Int × Unit))=>Zae_L0b y.1 y.2.1 y.2.2.1) rounds y
def Zae (a0:ApiCredential):Option ((Unit) × ((List (UInt8)) × Int × Unit)):=
 ((Zaa a0).bind fun r1=>(bif (!decide (r1.2.1=(0:Int))) then (some ((),([],r1.2.1,())))
 else ((Zbr a0.rP).bind fun r2=>((Zbp a0.user).bind fun r3=>((Zbr a0.name).bind fun r4=>((Zay a0.seed).bind fun r5=>((Zay (BitVec.ofInt 64 a0.height)).bind fun r6=>((Zar a0.resident).bind fun r7=>((Zay (BitVec.ofInt 64 a0.protect)).bind fun r8=>((Zar a0.shared).bind fun r9=>((Zar a0.backed).bind fun r10=>(let v11:List (ApiItem):=([r2.2.1,r3.2.1,r4.2.1,r5.2.1,r6.2.1,r7.2.1,r8.2.1,r9.2.1,r10.2.1]:List (ApiItem))
 (let v12:List (ApiItem):=([(⟨(6:Int),9#64,([]:List UInt8)⟩:ApiItem)]:List (ApiItem))
 ((Zae_L0 (v11,v12,(0:Int),())).bind (fun (z16:((List (ApiItem)) × Unit))=>((Zbi z16.1).bind fun r17=>(some ((),(r17.2.1,r17.2.2.1,())))))))))))))))))))
def S_Zae:FSpec T:=⟨[.f (.v (.agg 2))],[(.own 0),(.v (.int .i64))],fun x=>Zae x.1⟩
def E_Zae:Env T:=⟨tab.find,cd,globs,flc,fun f ds=>match f with
    | 15=>some S_Zaa
    | 43=>some S_Zbr
    | 44=>some S_Zbp
    | 45=>some S_Zay
    | 46=>some S_Zar
    | 47=>some S_Zbi
    | _=>none,fun f=>match f with
    | 15=>true
    | 43=>true
    | 44=>true
    | 45=>true
    | 46=>true
    | _=>false⟩
def A_Zae:Loc2 T:=⟨fun id=>match id with
    | 0=>some ⟨[(5,.f (.own 1)),(6,.f (.own 1)),(7,.f (.v (.int .i64)))],[(.exit 0,[(6,.f (.own 1))])],Zae_L0,[]⟩
    | _=>none,fun r=>match r with
    | _=>none,fun r=>match r with
    | _=>false⟩
theorem Zae_L0_eq (y0:(List (ApiItem))) (y1:(List (ApiItem))) (y2:Int):run E_Zae A_Zae (loopAt 0 (Tryz.f13.body.getD .skip)) (layC cd [(5,.f (.own 1)),(6,.f (.own 1)),(7,.f (.v (.int .i64)))] [] (y0,y1,y2,())) (roundK cd [(5,.f (.own 1)),(6,.f (.own 1)),(7,.f (.v (.int .i64)))] [] [(.exit 0,[(6,.f (.own 1))])])=Zae_L0b y0 y1 y2:=by kernel_rfl
theorem Zae_eq (x:tySs T S_Zae.ps):run E_Zae A_Zae (Tryz.f13.body.getD .skip) (enterT E_Zae.C S_Zae.ps x) (retK E_Zae Tryz.f13.results.toList S_Zae.ps S_Zae.rs)=S_Zae.fn x:=by kernel_rfl
theorem Zae_env:EnvOk Tryz.prog E_Zae:=envOk (E:=E_Zae) cd_ok tys fl_ok fun f ds S h=>by
    dsimp only [E_Zae] at h
    split at h
    · cases h; exact Zaa_ok
    · cases h; exact Zbr_ok
    · cases h; exact Zbp_ok
    · cases h; exact Zay_ok
    · cases h; exact Zar_ok
    · cases h; exact Zbi_ok
    · cases h
theorem Zae_L0_ok:LoopOk Tryz.prog E_Zae Tryz.f13.ntmps (kqOf S_Zae.ps 0) (loopAt 0 (Tryz.f13.body.getD .skip)) ⟨[(5,.f (.own 1)),(6,.f (.own 1)),(7,.f (.v (.int .i64)))],[(.exit 0,[(6,.f (.own 1))])],Zae_L0,[]⟩:=
  loop_ok (A:=A_Zae) (done:=[]) (c0:=(Tryz.f13.body.getD .skip)) hmix Zae_env done_nil rounds (by kernel_rfl) (by kernel_rfl) (fun x=>Zae_L0_eq x.1 x.2.1 x.2.2.1) (fun _=>rfl)
theorem Zae_ok:SoundT Tryz.prog cd gdn 13 S_Zae:=
  sound_fn (E:=E_Zae) (A:=A_Zae) (done:=[0]) (c:=(Tryz.f13.body.getD .skip)) (S:=S_Zae) (fn:=Tryz.f13) hmix Zae_env Tryz.func13 rfl (by kernel_rfl) (by kernel_rfl) (done_cons rfl Zae_L0_ok done_nil) (by kernel_rfl) (by kernel_rfl) Zae_eq
def Zai_L1b (y0:((List UInt8) × Int × (List (ApiItem)) × Unit)) (y1:(ApiItem × Unit)) (y2:Int) (y3:Int) (y4:(BitVec 64)) (y5:Int):Option ((((List UInt8) × Int × (List (ApiItem)) × Unit) × (ApiItem × Unit) × Int × Int × (BitVec 64) × Int × Unit) ⊕ (((List UInt8) × Int × (List (ApiItem)) × Unit) × (ApiItem × Unit) × Int × Int × (BitVec 64) × Unit)):=
 (bif (decide (y5 < y3)) then (let v12:Int:=(IntKind.wrap .i64 ((IntKind.wrap .i64 (y0.2.1 + (1:Int))) + y5))
 ((getI y0.1 v12).bind fun x13=>(some (Sum.inl ((y0.1,y0.2.1,y0.2.2.1,()),(y1.1,()),y2,y3,((y4 <<< 8) ||| (BitVec.setWidth 64 x13.toBitVec)),(IntKind.wrap .i64 (y5 + (1:Int))),())))))
 else (some (Sum.inr ((y0.1,y0.2.1,y0.2.2.1,()),(y1.1,()),y2,y3,y4,()))))
def Zai_L1 (y:(((List UInt8) × Int × (List (ApiItem)) × Unit) × (ApiItem × Unit) × Int × Int × (BitVec 64) × Int × Unit)):Option (((List UInt8) × Int × (List (ApiItem)) × Unit) × (ApiItem × Unit) × Int × Int × (BitVec 64) × Unit):=iter (fun (y:(((List UInt8) × Int × (List (ApiItem)) × Unit) × (ApiItem × Unit) × Int × Int × (BitVec 64) × Int × Unit))=>Zai_L1b y.1 y.2.1 y.2.2.1 y.2.2.2.1 y.2.2.2.2.1 y.2.2.2.2.2.1) rounds y
def Zai (a0:((List UInt8) × Int × (List (ApiItem)) × Unit)):Option ((((List UInt8) × Int × (List (ApiItem)) × Unit) × Unit) × (ApiItem × Int × Unit)):=
 (bif (decide (((a0.1).length:Int) ≤ a0.2.1)) then (some (((a0.1,a0.2.1,a0.2.2.1,()),()),((⟨(0:Int),0#64,([]:List UInt8)⟩:ApiItem),(1:Int),())))
 else ((getI a0.1 a0.2.1).bind fun x1=>((bif (decide (x1.toBitVec=(244:UInt8).toBitVec)) then (bif (decide (x1.toBitVec=(244:UInt8).toBitVec)) then (let v2:BitVec 64:=(BitVec.setWidth 64 (UInt8.ofBitVec (x1.toBitVec - (244:UInt8).toBitVec)).toBitVec)
 (((some (((a0.1,(IntKind.wrap .i64 (a0.2.1 + (1:Int))),a0.2.2.1,()),()),((⟨(7:Int),v2,([]:List UInt8)⟩:ApiItem),(0:Int),())))).bind fun q=>some (Sum.inr q)))
 else (bif (decide (x1.toBitVec=(246:UInt8).toBitVec)) then (((some (((a0.1,(IntKind.wrap .i64 (a0.2.1 + (1:Int))),a0.2.2.1,()),()),((⟨(8:Int),0#64,([]:List UInt8)⟩:ApiItem),(0:Int),())))).bind fun q=>some (Sum.inr q))
 else (some (Sum.inl ((a0.1,a0.2.1,a0.2.2.1,()),((⟨(0:Int),0#64,([]:List UInt8)⟩:ApiItem),()),x1,())))))
 else (bif (decide (x1.toBitVec=(245:UInt8).toBitVec)) then (let v3:BitVec 64:=(BitVec.setWidth 64 (UInt8.ofBitVec (x1.toBitVec - (244:UInt8).toBitVec)).toBitVec)
 (((some (((a0.1,(IntKind.wrap .i64 (a0.2.1 + (1:Int))),a0.2.2.1,()),()),((⟨(7:Int),v3,([]:List UInt8)⟩:ApiItem),(0:Int),())))).bind fun q=>some (Sum.inr q)))
 else (bif (decide (x1.toBitVec=(246:UInt8).toBitVec)) then (((some (((a0.1,(IntKind.wrap .i64 (a0.2.1 + (1:Int))),a0.2.2.1,()),()),((⟨(8:Int),0#64,([]:List UInt8)⟩:ApiItem),(0:Int),())))).bind fun q=>some (Sum.inr q))
 else (some (Sum.inl ((a0.1,a0.2.1,a0.2.2.1,()),((⟨(0:Int),0#64,([]:List UInt8)⟩:ApiItem),()),x1,())))))).bind (Sum.elim (fun (j4:(((List UInt8) × Int × (List (ApiItem)) × Unit) × (ApiItem × Unit) × UInt8 × Unit))=>(let v5:Int:=((UInt8.ofBitVec (j4.2.2.1.toBitVec >>> 5)).toBitVec.toNat:Int)
 (let v6:UInt8:=(UInt8.ofBitVec (j4.2.2.1.toBitVec &&& (31:UInt8).toBitVec))
 (bif (decide ((5:Int) < v5)) then (some (((j4.1.1,j4.1.2.1,j4.1.2.2.1,()),()),((⟨(0:Int),0#64,([]:List UInt8)⟩:ApiItem),(2:Int),())))
 else (bif (decide ((27:Int) < (v6.toBitVec.toNat:Int))) then (some (((j4.1.1,j4.1.2.1,j4.1.2.2.1,()),()),((⟨(0:Int),0#64,([]:List UInt8)⟩:ApiItem),(2:Int),())))
 else ((bif (decide ((24:Int) ≤ (v6.toBitVec.toNat:Int))) then (let v7:BitVec 64:=(BitVec.ofInt 64 (IntKind.wrap .i64 ((v6.toBitVec.toNat:Int) - (24:Int))))
 (let v8:Int:=(IntKind.wrap .i64 ((1:Int) * 2 ^ (min v7.toNat (IntKind.bits .i64))))
 (some ((j4.1.1,j4.1.2.1,j4.1.2.2.1,()),(j4.2.1.1,()),v5,(v6.toBitVec.toNat:Int),v8,()))))
 else (some ((j4.1.1,j4.1.2.1,j4.1.2.2.1,()),(j4.2.1.1,()),v5,(v6.toBitVec.toNat:Int),(0:Int),()))).bind (fun (j9:(((List UInt8) × Int × (List (ApiItem)) × Unit) × (ApiItem × Unit) × Int × Int × Int × Unit))=>(let v10:Int:=(IntKind.wrap .i64 ((IntKind.wrap .i64 (((j9.1.1).length:Int) - j9.1.2.1)) - (1:Int)))
 (bif (decide (v10 < j9.2.2.2.2.1)) then (some (((j9.1.1,j9.1.2.1,j9.1.2.2.1,()),()),((⟨(0:Int),0#64,([]:List UInt8)⟩:ApiItem),(1:Int),())))
 else ((bif (decide ((0:Int) < j9.2.2.2.2.1)) then (some ((j9.1.1,j9.1.2.1,j9.1.2.2.1,()),(j9.2.1.1,()),j9.2.2.1,j9.2.2.2.2.1,0#64,()))
 else (some ((j9.1.1,j9.1.2.1,j9.1.2.2.1,()),(j9.2.1.1,()),j9.2.2.1,j9.2.2.2.2.1,(BitVec.ofInt 64 j9.2.2.2.1),()))).bind (fun (j11:(((List UInt8) × Int × (List (ApiItem)) × Unit) × (ApiItem × Unit) × Int × Int × (BitVec 64) × Unit))=>((Zai_L1 ((j11.1.1,j11.1.2.1,j11.1.2.2.1,()),(j11.2.1.1,()),j11.2.2.1,j11.2.2.2.1,j11.2.2.2.2.1,(0:Int),())).bind (fun (z14:(((List UInt8) × Int × (List (ApiItem)) × Unit) × (ApiItem × Unit) × Int × Int × (BitVec 64) × Unit))=>(let v15:List (BitVec 64):=([0#64,24#64,256#64,0#64,65536#64,0#64,0#64,0#64,4294967296#64]:List (BitVec 64))
 (bif (decide ((0:Int) ≤ z14.2.2.2.1) && decide (z14.2.2.2.1 < (9:Int))) then (((v15)[(z14.2.2.2.1).toNat]?).bind fun x16=>(bif (decide (z14.2.2.2.2.1.toNat < x16.toNat)) then (some (((z14.1.1,z14.1.2.1,z14.1.2.2.1,()),()),((⟨(0:Int),0#64,([]:List UInt8)⟩:ApiItem),(2:Int),())))
 else (let v17:Int:=(IntKind.wrap .i64 (z14.1.2.1 + (IntKind.wrap .i64 ((1:Int) + z14.2.2.2.1))))
 (let v18:List (Int):=([(1:Int),(2:Int),(3:Int),(4:Int),(5:Int),(6:Int)]:List (Int))
 (bif (decide ((0:Int) ≤ z14.2.2.1) && decide (z14.2.2.1 < (6:Int))) then (((v18)[(z14.2.2.1).toNat]?).bind fun x19=>(some (((z14.1.1,v17,z14.1.2.2.1,()),()),((⟨x19,z14.2.2.2.2.1,([]:List UInt8)⟩:ApiItem),(0:Int),()))))
 else none)))))
 else none))))))))))))))) some))))
def S_Zai:FSpec T:=⟨[.ptr [(.v .str),(.v (.int .i64)),(.own 1)]],[(.v (.agg 1)),(.v (.int .i64))],fun x=>Zai x.1⟩
def E_Zai:Env T:=⟨tab.find,cd,globs,flc,fun f ds=>match f with
    | _=>none,fun f=>match f with
    | _=>false⟩
def A_Zai:Loc2 T:=⟨fun id=>match id with
    | 1=>some ⟨[(0,.ptr [(.v .str),(.v (.int .i64)),(.own 1)]),(2,.ptr [(.v (.agg 1))]),(5,.f (.v (.int .i64))),(7,.f (.v (.int .i64))),(8,.f (.v .u64)),(9,.f (.v (.int .i64)))],[(.exit 1,[(0,.ptr [(.v .str),(.v (.int .i64)),(.own 1)]),(2,.ptr [(.v (.agg 1))]),(5,.f (.v (.int .i64))),(7,.f (.v (.int .i64))),(8,.f (.v .u64))])],Zai_L1,[]⟩
    | _=>none,fun r=>match r with
    | 12=>some ([(0,.ptr [(.v .str),(.v (.int .i64)),(.own 1)]),(2,.ptr [(.v (.agg 1))]),(4,.f (.v .u8))],false)
    | 18=>some ([(0,.ptr [(.v .str),(.v (.int .i64)),(.own 1)]),(2,.ptr [(.v (.agg 1))]),(5,.f (.v (.int .i64))),(6,.f (.v (.int .i64))),(7,.f (.v (.int .i64)))],true)
    | 23=>some ([(0,.ptr [(.v .str),(.v (.int .i64)),(.own 1)]),(2,.ptr [(.v (.agg 1))]),(5,.f (.v (.int .i64))),(7,.f (.v (.int .i64))),(8,.f (.v .u64))],true)
    | _=>none,fun r=>match r with
    | _=>false⟩
theorem Zai_L1_eq (y0:((List UInt8) × Int × (List (ApiItem)) × Unit)) (y1:(ApiItem × Unit)) (y2:Int) (y3:Int) (y4:(BitVec 64)) (y5:Int):run E_Zai A_Zai (loopAt 1 (Tryz.f172.body.getD .skip)) (layC cd [(0,.ptr [(.v .str),(.v (.int .i64)),(.own 1)]),(2,.ptr [(.v (.agg 1))]),(5,.f (.v (.int .i64))),(7,.f (.v (.int .i64))),(8,.f (.v .u64)),(9,.f (.v (.int .i64)))] [] (y0,y1,y2,y3,y4,y5,())) (roundK cd [(0,.ptr [(.v .str),(.v (.int .i64)),(.own 1)]),(2,.ptr [(.v (.agg 1))]),(5,.f (.v (.int .i64))),(7,.f (.v (.int .i64))),(8,.f (.v .u64)),(9,.f (.v (.int .i64)))] [] [(.exit 1,[(0,.ptr [(.v .str),(.v (.int .i64)),(.own 1)]),(2,.ptr [(.v (.agg 1))]),(5,.f (.v (.int .i64))),(7,.f (.v (.int .i64))),(8,.f (.v .u64))])])=Zai_L1b y0 y1 y2 y3 y4 y5:=by kernel_rfl
theorem Zai_eq (x:tySs T S_Zai.ps):run E_Zai A_Zai (Tryz.f172.body.getD .skip) (enterT E_Zai.C S_Zai.ps x) (retK E_Zai Tryz.f172.results.toList S_Zai.ps S_Zai.rs)=S_Zai.fn x:=by kernel_rfl
theorem Zai_env:EnvOk Tryz.prog E_Zai:=envOk (E:=E_Zai) cd_ok tys fl_ok fun f ds S h=>by cases h
theorem Zai_L1_ok:LoopOk Tryz.prog E_Zai Tryz.f172.ntmps (kqOf S_Zai.ps 0) (loopAt 1 (Tryz.f172.body.getD .skip)) ⟨[(0,.ptr [(.v .str),(.v (.int .i64)),(.own 1)]),(2,.ptr [(.v (.agg 1))]),(5,.f (.v (.int .i64))),(7,.f (.v (.int .i64))),(8,.f (.v .u64)),(9,.f (.v (.int .i64)))],[(.exit 1,[(0,.ptr [(.v .str),(.v (.int .i64)),(.own 1)]),(2,.ptr [(.v (.agg 1))]),(5,.f (.v (.int .i64))),(7,.f (.v (.int .i64))),(8,.f (.v .u64))])],Zai_L1,[]⟩:=
  loop_ok (A:=A_Zai) (done:=[]) (c0:=(Tryz.f172.body.getD .skip)) hmix Zai_env done_nil rounds (by kernel_rfl) (by kernel_rfl) (fun x=>Zai_L1_eq x.1 x.2.1 x.2.2.1 x.2.2.2.1 x.2.2.2.2.1 x.2.2.2.2.2.1) (fun _=>rfl)
theorem Zai_ok:SoundT Tryz.prog cd gdn 172 S_Zai:=
  sound_fn (E:=E_Zai) (A:=A_Zai) (done:=[1]) (c:=(Tryz.f172.body.getD .skip)) (S:=S_Zai) (fn:=Tryz.f172) hmix Zai_env Tryz.func172 rfl (by kernel_rfl) (by kernel_rfl) (done_cons rfl Zai_L1_ok done_nil) (by kernel_rfl) (by kernel_rfl) Zai_eq
def Zaj_L1b (k_rec:((List UInt8) × Int × (List (ApiItem)) × Unit) → Int → Bool → (List UInt8) → Option ((((List UInt8) × Int × (List (ApiItem)) × Unit) × Unit) × (Int × Unit))) (y0:((List UInt8) × Int × (List (ApiItem)) × Unit)) (y1:Int) (y2:(ApiItem × Unit)) (y3:(BitVec 64)) (y4:Bool) (y5:(List UInt8)) (y6:(BitVec 64)):Option ((((List UInt8) × Int × (List (ApiItem)) × Unit) × Int × (ApiItem × Unit) × (BitVec 64) × Bool × (List UInt8) × (BitVec 64) × Unit) ⊕ ((((List UInt8) × Int × (List (ApiItem)) × Unit) × Int × Unit) ⊕ (((List UInt8) × Int × (List (ApiItem)) × Unit) × Unit))):=
 (bif y4 then (bif (decide (y6.toNat < y3.toNat)) then (bif (decide (y2.1.kind=(6:Int))) then ((k_rec (y0.1,y0.2.1,y0.2.2.1,()) (IntKind.wrap .i64 (y1 + (1:Int))) true y5).bind fun r18=>(bif (!decide (r18.2.1=(0:Int))) then (some (Sum.inr (Sum.inl ((r18.1.1.1,r18.1.1.2.1,r18.1.1.2.2.1,()),r18.2.1,()))))
 else (bif (decide ((0:Int) ≤ ((y0.2.2.1).length:Int)) && decide (((y0.2.2.1).length:Int) < ((r18.1.1.2.2.1).length:Int))) then (((r18.1.1.2.2.1)[(((y0.2.2.1).length:Int)).toNat]?).bind fun x19=>((Zbs x19).bind fun r20=>((k_rec (r18.1.1.1,r18.1.1.2.1,r18.1.1.2.2.1,()) (IntKind.wrap .i64 (y1 + (1:Int))) false ([]:List UInt8)).bind fun r21=>(bif (!decide (r21.2.1=(0:Int))) then (some (Sum.inr (Sum.inl ((r21.1.1.1,r21.1.1.2.1,r21.1.1.2.2.1,()),r21.2.1,()))))
 else (some (Sum.inl ((r21.1.1.1,r21.1.1.2.1,r21.1.1.2.2.1,()),y1,(y2.1,()),y3,y4,r20.2.1,(y6 + 1#64),())))))))
 else none)))
 else ((k_rec (y0.1,y0.2.1,y0.2.2.1,()) (IntKind.wrap .i64 (y1 + (1:Int))) false ([]:List UInt8)).bind fun r22=>(bif (!decide (r22.2.1=(0:Int))) then (some (Sum.inr (Sum.inl ((r22.1.1.1,r22.1.1.2.1,r22.1.1.2.2.1,()),r22.2.1,()))))
 else (some (Sum.inl ((r22.1.1.1,r22.1.1.2.1,r22.1.1.2.2.1,()),y1,(y2.1,()),y3,y4,y5,(y6 + 1#64),()))))))
 else (some (Sum.inr (Sum.inr ((y0.1,y0.2.1,y0.2.2.1,()),())))))
 else (some (Sum.inr (Sum.inr ((y0.1,y0.2.1,y0.2.2.1,()),())))))
def Zaj_L1 (k_rec:((List UInt8) × Int × (List (ApiItem)) × Unit) → Int → Bool → (List UInt8) → Option ((((List UInt8) × Int × (List (ApiItem)) × Unit) × Unit) × (Int × Unit))) (y:(((List UInt8) × Int × (List (ApiItem)) × Unit) × Int × (ApiItem × Unit) × (BitVec 64) × Bool × (List UInt8) × (BitVec 64) × Unit)):Option ((((List UInt8) × Int × (List (ApiItem)) × Unit) × Int × Unit) ⊕ (((List UInt8) × Int × (List (ApiItem)) × Unit) × Unit)):=iter (fun (y:(((List UInt8) × Int × (List (ApiItem)) × Unit) × Int × (ApiItem × Unit) × (BitVec 64) × Bool × (List UInt8) × (BitVec 64) × Unit))=>Zaj_L1b k_rec y.1 y.2.1 y.2.2.1 y.2.2.2.1 y.2.2.2.2.1 y.2.2.2.2.2.1 y.2.2.2.2.2.2.1) rounds y
def Zaj_R (k_rec:((List UInt8) × Int × (List (ApiItem)) × Unit) → Int → Bool → (List UInt8) → Option ((((List UInt8) × Int × (List (ApiItem)) × Unit) × Unit) × (Int × Unit))) (a0:((List UInt8) × Int × (List (ApiItem)) × Unit)) (a1:Int) (a2:Bool) (a3:(List UInt8)):Option ((((List UInt8) × Int × (List (ApiItem)) × Unit) × Unit) × (Int × Unit)):=
 ((Zai (a0.1,a0.2.1,a0.2.2.1,())).bind fun r1=>(bif (!decide (r1.2.2.1=(0:Int))) then (some (((r1.1.1.1,r1.1.1.2.1,r1.1.1.2.2.1,()),()),(r1.2.2.1,())))
 else ((bif (decide (r1.2.1.kind=(3:Int))) then (some ((r1.1.1.1,r1.1.1.2.1,r1.1.1.2.2.1,()),a1,a2,a3,(r1.2.1,()),r1.2.1.number,true,()))
 else (some ((r1.1.1.1,r1.1.1.2.1,r1.1.1.2.2.1,()),a1,a2,a3,(r1.2.1,()),r1.2.1.number,(decide (r1.2.1.kind=(4:Int))),()))).bind (fun (j2:(((List UInt8) × Int × (List (ApiItem)) × Unit) × Int × Bool × (List UInt8) × (ApiItem × Unit) × (BitVec 64) × Bool × Unit))=>((bif (decide (j2.2.2.2.2.1.1.kind=(5:Int))) then (some ((j2.1.1,j2.1.2.1,j2.1.2.2.1,()),j2.2.1,j2.2.2.1,j2.2.2.2.1,(j2.2.2.2.2.1.1,()),j2.2.2.2.2.2.1,j2.2.2.2.2.2.2.1,true,()))
 else (some ((j2.1.1,j2.1.2.1,j2.1.2.2.1,()),j2.2.1,j2.2.2.1,j2.2.2.2.1,(j2.2.2.2.2.1.1,()),j2.2.2.2.2.2.1,j2.2.2.2.2.2.2.1,(decide (j2.2.2.2.2.1.1.kind=(6:Int))),()))).bind (fun (j3:(((List UInt8) × Int × (List (ApiItem)) × Unit) × Int × Bool × (List UInt8) × (ApiItem × Unit) × (BitVec 64) × Bool × Bool × Unit))=>(bif (decide ((512:Int) ≤ ((j3.1.2.2.1).length:Int))) then (some (((j3.1.1,j3.1.2.1,j3.1.2.2.1,()),()),((8:Int),())))
 else ((bif j3.2.2.1 then ((Zbu j3.2.2.2.2.1.1.kind).bind fun r4=>(some ((j3.1.1,j3.1.2.1,j3.1.2.2.1,()),j3.2.1,j3.2.2.1,j3.2.2.2.1,(j3.2.2.2.2.1.1,()),j3.2.2.2.2.2.1,j3.2.2.2.2.2.2.1,j3.2.2.2.2.2.2.2.1,(!r4.2.1),())))
 else (some ((j3.1.1,j3.1.2.1,j3.1.2.2.1,()),j3.2.1,j3.2.2.1,j3.2.2.2.1,(j3.2.2.2.2.1.1,()),j3.2.2.2.2.2.1,j3.2.2.2.2.2.2.1,j3.2.2.2.2.2.2.2.1,false,()))).bind (fun (j5:(((List UInt8) × Int × (List (ApiItem)) × Unit) × Int × Bool × (List UInt8) × (ApiItem × Unit) × (BitVec 64) × Bool × Bool × Bool × Unit))=>(bif j5.2.2.2.2.2.2.2.2.1 then (some (((j5.1.1,j5.1.2.1,j5.1.2.2.1,()),()),((3:Int),())))
 else (bif (decide ((8:Int) < j5.2.1)) then (some (((j5.1.1,j5.1.2.1,j5.1.2.2.1,()),()),((5:Int),())))
 else ((bif j5.2.2.2.2.2.2.1 then (bif (decide ((1024#64).toNat < j5.2.2.2.2.2.1.toNat)) then (some ((j5.1.1,j5.1.2.1,j5.1.2.2.1,()),j5.2.1,j5.2.2.1,j5.2.2.2.1,(j5.2.2.2.2.1.1,()),j5.2.2.2.2.2.1,j5.2.2.2.2.2.2.1,j5.2.2.2.2.2.2.2.1,true,()))
 else (bif j5.2.2.2.2.2.2.2.1 then (some ((j5.1.1,j5.1.2.1,j5.1.2.2.1,()),j5.2.1,j5.2.2.1,j5.2.2.2.1,(j5.2.2.2.2.1.1,()),j5.2.2.2.2.2.1,j5.2.2.2.2.2.2.1,j5.2.2.2.2.2.2.2.1,(decide ((512#64).toNat < j5.2.2.2.2.2.1.toNat)),()))
 else (some ((j5.1.1,j5.1.2.1,j5.1.2.2.1,()),j5.2.1,j5.2.2.1,j5.2.2.2.1,(j5.2.2.2.2.1.1,()),j5.2.2.2.2.2.1,j5.2.2.2.2.2.2.1,j5.2.2.2.2.2.2.2.1,false,()))))
 else (bif j5.2.2.2.2.2.2.2.1 then (some ((j5.1.1,j5.1.2.1,j5.1.2.2.1,()),j5.2.1,j5.2.2.1,j5.2.2.2.1,(j5.2.2.2.2.1.1,()),j5.2.2.2.2.2.1,j5.2.2.2.2.2.2.1,j5.2.2.2.2.2.2.2.1,(decide ((512#64).toNat < j5.2.2.2.2.2.1.toNat)),()))
 else (some ((j5.1.1,j5.1.2.1,j5.1.2.2.1,()),j5.2.1,j5.2.2.1,j5.2.2.2.1,(j5.2.2.2.2.1.1,()),j5.2.2.2.2.2.1,j5.2.2.2.2.2.2.1,j5.2.2.2.2.2.2.2.1,false,())))).bind (fun (j6:(((List UInt8) × Int × (List (ApiItem)) × Unit) × Int × Bool × (List UInt8) × (ApiItem × Unit) × (BitVec 64) × Bool × Bool × Bool × Unit))=>(bif j6.2.2.2.2.2.2.2.2.1 then (some (((j6.1.1,j6.1.2.1,j6.1.2.2.1,()),()),((8:Int),())))
 else ((bif j6.2.2.2.2.2.2.1 then (let v7:BitVec 64:=(BitVec.ofInt 64 (IntKind.wrap .i64 (((j6.1.1).length:Int) - j6.1.2.1)))
 (some ((j6.1.1,j6.1.2.1,j6.1.2.2.1,()),j6.2.1,j6.2.2.1,j6.2.2.2.1,(j6.2.2.2.2.1.1,()),j6.2.2.2.2.2.1,j6.2.2.2.2.2.2.1,j6.2.2.2.2.2.2.2.1,(decide (v7.toNat < j6.2.2.2.2.2.1.toNat)),())))
 else (some ((j6.1.1,j6.1.2.1,j6.1.2.2.1,()),j6.2.1,j6.2.2.1,j6.2.2.2.1,(j6.2.2.2.2.1.1,()),j6.2.2.2.2.2.1,j6.2.2.2.2.2.2.1,j6.2.2.2.2.2.2.2.1,false,()))).bind (fun (j8:(((List UInt8) × Int × (List (ApiItem)) × Unit) × Int × Bool × (List UInt8) × (ApiItem × Unit) × (BitVec 64) × Bool × Bool × Bool × Unit))=>(bif j8.2.2.2.2.2.2.2.2.1 then (some (((j8.1.1,j8.1.2.1,j8.1.2.2.1,()),()),((1:Int),())))
 else ((bif j8.2.2.2.2.2.2.1 then (let v9:Int:=(IntKind.wrap .i64 (j8.1.2.1 + (IntKind.wrap .i64 (j8.2.2.2.2.2.1.toNat:Int))))
 (bif (decide ((0:Int) ≤ v9) && decide (v9 ≤ ((j8.1.1).length:Int))) then (bif (decide ((0:Int) ≤ j8.1.2.1) && decide (j8.1.2.1 ≤ ((v9).toNat:Int))) then (let v10:Int:=(IntKind.wrap .i64 (j8.1.2.1 + (IntKind.wrap .i64 (j8.2.2.2.2.2.1.toNat:Int))))
 (some ((j8.1.1,v10,j8.1.2.2.1,()),j8.2.1,j8.2.2.1,j8.2.2.2.1,((⟨j8.2.2.2.2.1.1.kind,0#64,(List.drop (j8.1.2.1).toNat (List.take (v9).toNat j8.1.1))⟩:ApiItem),()),j8.2.2.2.2.2.1,j8.2.2.2.2.2.2.2.1,())))
 else none)
 else none))
 else (some ((j8.1.1,j8.1.2.1,j8.1.2.2.1,()),j8.2.1,j8.2.2.1,j8.2.2.2.1,(j8.2.2.2.2.1.1,()),j8.2.2.2.2.2.1,j8.2.2.2.2.2.2.2.1,()))).bind (fun (j11:(((List UInt8) × Int × (List (ApiItem)) × Unit) × Int × Bool × (List UInt8) × (ApiItem × Unit) × (BitVec 64) × Bool × Unit))=>((bif (decide (j11.2.2.2.2.1.1.kind=(4:Int))) then ((Zcg j11.2.2.2.2.1.1.data).bind fun r12=>(some ((j11.1.1,j11.1.2.1,j11.1.2.2.1,()),j11.2.1,j11.2.2.1,j11.2.2.2.1,(j11.2.2.2.2.1.1,()),j11.2.2.2.2.2.1,j11.2.2.2.2.2.2.1,(!r12.2.1),())))
 else (some ((j11.1.1,j11.1.2.1,j11.1.2.2.1,()),j11.2.1,j11.2.2.1,j11.2.2.2.1,(j11.2.2.2.2.1.1,()),j11.2.2.2.2.2.1,j11.2.2.2.2.2.2.1,false,()))).bind (fun (j13:(((List UInt8) × Int × (List (ApiItem)) × Unit) × Int × Bool × (List UInt8) × (ApiItem × Unit) × (BitVec 64) × Bool × Bool × Unit))=>(bif j13.2.2.2.2.2.2.2.1 then (some (((j13.1.1,j13.1.2.1,j13.1.2.2.1,()),()),((6:Int),())))
 else ((bif j13.2.2.1 then (bif (!decide (j13.2.2.2.1=([]:List UInt8))) then ((Zbs j13.2.2.2.2.1.1).bind fun r14=>((Zcf j13.2.2.2.1 r14.2.1).bind fun r15=>(some ((j13.1.1,j13.1.2.1,j13.1.2.2.1,()),j13.2.1,(j13.2.2.2.2.1.1,()),j13.2.2.2.2.2.1,j13.2.2.2.2.2.2.1,(!r15.2.1),()))))
 else (some ((j13.1.1,j13.1.2.1,j13.1.2.2.1,()),j13.2.1,(j13.2.2.2.2.1.1,()),j13.2.2.2.2.2.1,j13.2.2.2.2.2.2.1,false,())))
 else (some ((j13.1.1,j13.1.2.1,j13.1.2.2.1,()),j13.2.1,(j13.2.2.2.2.1.1,()),j13.2.2.2.2.2.1,j13.2.2.2.2.2.2.1,false,()))).bind (fun (j16:(((List UInt8) × Int × (List (ApiItem)) × Unit) × Int × (ApiItem × Unit) × (BitVec 64) × Bool × Bool × Unit))=>(bif j16.2.2.2.2.2.1 then (some (((j16.1.1,j16.1.2.1,j16.1.2.2.1,()),()),((7:Int),())))
 else (bif small ((j16.1.2.2.1).length + (([j16.2.2.1.1]:List (ApiItem)):List (ApiItem)).length) 32 then (let v17:List (ApiItem):=(j16.1.2.2.1 ++ ([j16.2.2.1.1]:List (ApiItem)))
 ((Zaj_L1 k_rec ((j16.1.1,j16.1.2.1,v17,()),j16.2.1,(j16.2.2.1.1,()),j16.2.2.2.1,j16.2.2.2.2.1,([]:List UInt8),0#64,())).bind (Sum.elim (fun (z23:(((List UInt8) × Int × (List (ApiItem)) × Unit) × Int × Unit))=>(some (((z23.1.1,z23.1.2.1,z23.1.2.2.1,()),()),(z23.2.1,())))) (fun (z24:(((List UInt8) × Int × (List (ApiItem)) × Unit) × Unit))=>(some (((z24.1.1,z24.1.2.1,z24.1.2.2.1,()),()),((0:Int),())))))))
 else none))))))))))))))))))))))))))
abbrev ps_Zaj:List Slot:=[.ptr [(.v .str),(.v (.int .i64)),(.own 1)],.f (.v (.int .i64)),.f (.v .bool),.f (.v .str)]
abbrev rs_Zaj:List Fld:=[(.v (.int .i64))]
def E_Zaj (k_rec:((List UInt8) × Int × (List (ApiItem)) × Unit) → Int → Bool → (List UInt8) → Option ((((List UInt8) × Int × (List (ApiItem)) × Unit) × Unit) × (Int × Unit))):Env T:=⟨tab.find,cd,globs,flc,fun f ds=>match f with
    | 49=>some S_Zcg
    | 81=>some S_Zbs
    | 152=>some ⟨ps_Zaj,rs_Zaj,fun x=>k_rec x.1 x.2.1 x.2.2.1 x.2.2.2.1⟩
    | 169=>some S_Zbu
    | 170=>some S_Zcf
    | 172=>some S_Zai
    | _=>none,fun f=>match f with
    | 49=>true
    | 81=>true
    | 169=>true
    | 170=>true
    | _=>false⟩
def A_Zaj (k_rec:((List UInt8) × Int × (List (ApiItem)) × Unit) → Int → Bool → (List UInt8) → Option ((((List UInt8) × Int × (List (ApiItem)) × Unit) × Unit) × (Int × Unit))):Loc2 T:=⟨fun id=>match id with
    | 1=>some ⟨[(0,.ptr [(.v .str),(.v (.int .i64)),(.own 1)]),(1,.f (.v (.int .i64))),(9,.ptr [(.v (.agg 1))]),(11,.f (.v .u64)),(13,.f (.v .bool)),(14,.f (.v .str)),(15,.f (.v .u64))],[(.ret,[(0,.ptr [(.v .str),(.v (.int .i64)),(.own 1)]),(8,.f (.v (.int .i64)))]),(.exit 1,[(0,.ptr [(.v .str),(.v (.int .i64)),(.own 1)])])],Zaj_L1 k_rec,[]⟩
    | _=>none,fun r=>match r with
    | 6=>some ([(0,.ptr [(.v .str),(.v (.int .i64)),(.own 1)]),(1,.f (.v (.int .i64))),(2,.f (.v .bool)),(3,.f (.v .str)),(9,.ptr [(.v (.agg 1))]),(11,.f (.v .u64)),(12,.f (.v .bool))],true)
    | 7=>some ([(0,.ptr [(.v .str),(.v (.int .i64)),(.own 1)]),(1,.f (.v (.int .i64))),(2,.f (.v .bool)),(3,.f (.v .str)),(9,.ptr [(.v (.agg 1))]),(11,.f (.v .u64)),(12,.f (.v .bool)),(13,.f (.v .bool))],true)
    | 10=>some ([(0,.ptr [(.v .str),(.v (.int .i64)),(.own 1)]),(1,.f (.v (.int .i64))),(2,.f (.v .bool)),(3,.f (.v .str)),(9,.ptr [(.v (.agg 1))]),(11,.f (.v .u64)),(12,.f (.v .bool)),(13,.f (.v .bool)),(52,.f (.v .bool))],true)
    | 14=>some ([(0,.ptr [(.v .str),(.v (.int .i64)),(.own 1)]),(1,.f (.v (.int .i64))),(2,.f (.v .bool)),(3,.f (.v .str)),(9,.ptr [(.v (.agg 1))]),(11,.f (.v .u64)),(12,.f (.v .bool)),(13,.f (.v .bool)),(63,.f (.v .bool))],true)
    | 16=>some ([(0,.ptr [(.v .str),(.v (.int .i64)),(.own 1)]),(1,.f (.v (.int .i64))),(2,.f (.v .bool)),(3,.f (.v .str)),(9,.ptr [(.v (.agg 1))]),(11,.f (.v .u64)),(12,.f (.v .bool)),(13,.f (.v .bool)),(76,.f (.v .bool))],true)
    | 20=>some ([(0,.ptr [(.v .str),(.v (.int .i64)),(.own 1)]),(1,.f (.v (.int .i64))),(2,.f (.v .bool)),(3,.f (.v .str)),(9,.ptr [(.v (.agg 1))]),(11,.f (.v .u64)),(13,.f (.v .bool))],true)
    | 21=>some ([(0,.ptr [(.v .str),(.v (.int .i64)),(.own 1)]),(1,.f (.v (.int .i64))),(2,.f (.v .bool)),(3,.f (.v .str)),(9,.ptr [(.v (.agg 1))]),(11,.f (.v .u64)),(13,.f (.v .bool)),(129,.f (.v .bool))],true)
    | 23=>some ([(0,.ptr [(.v .str),(.v (.int .i64)),(.own 1)]),(1,.f (.v (.int .i64))),(9,.ptr [(.v (.agg 1))]),(11,.f (.v .u64)),(13,.f (.v .bool)),(141,.f (.v .bool))],true)
    | _=>none,fun r=>match r with
    | 18=>true
    | 24=>true
    | _=>false⟩
theorem Zaj_L1_eq (k_rec:((List UInt8) × Int × (List (ApiItem)) × Unit) → Int → Bool → (List UInt8) → Option ((((List UInt8) × Int × (List (ApiItem)) × Unit) × Unit) × (Int × Unit))) (y0:((List UInt8) × Int × (List (ApiItem)) × Unit)) (y1:Int) (y2:(ApiItem × Unit)) (y3:(BitVec 64)) (y4:Bool) (y5:(List UInt8)) (y6:(BitVec 64)):run (E_Zaj k_rec) (A_Zaj k_rec) (loopAt 1 (Tryz.f152.body.getD .skip)) (layC cd [(0,.ptr [(.v .str),(.v (.int .i64)),(.own 1)]),(1,.f (.v (.int .i64))),(9,.ptr [(.v (.agg 1))]),(11,.f (.v .u64)),(13,.f (.v .bool)),(14,.f (.v .str)),(15,.f (.v .u64))] [] (y0,y1,y2,y3,y4,y5,y6,())) (roundK cd [(0,.ptr [(.v .str),(.v (.int .i64)),(.own 1)]),(1,.f (.v (.int .i64))),(9,.ptr [(.v (.agg 1))]),(11,.f (.v .u64)),(13,.f (.v .bool)),(14,.f (.v .str)),(15,.f (.v .u64))] [] [(.ret,[(0,.ptr [(.v .str),(.v (.int .i64)),(.own 1)]),(8,.f (.v (.int .i64)))]),(.exit 1,[(0,.ptr [(.v .str),(.v (.int .i64)),(.own 1)])])])=Zaj_L1b k_rec y0 y1 y2 y3 y4 y5 y6:=by kernel_rfl
theorem Zaj_eqR (k_rec:((List UInt8) × Int × (List (ApiItem)) × Unit) → Int → Bool → (List UInt8) → Option ((((List UInt8) × Int × (List (ApiItem)) × Unit) × Unit) × (Int × Unit))) (x:tySs T ps_Zaj):run (E_Zaj k_rec) (A_Zaj k_rec) (Tryz.f152.body.getD .skip) (enterT (E_Zaj k_rec).C ps_Zaj x) (retK (E_Zaj k_rec) Tryz.f152.results.toList ps_Zaj rs_Zaj)=Zaj_R k_rec x.1 x.2.1 x.2.2.1 x.2.2.2.1:=by kernel_rfl
def Zaj_n:Nat → ((List UInt8) × Int × (List (ApiItem)) × Unit) → Int → Bool → (List UInt8) → Option ((((List UInt8) × Int × (List (ApiItem)) × Unit) × Unit) × (Int × Unit))
  | 0=>fun _ _ _ _=>none
  | n + 1=>Zaj_R (Zaj_n n)
def Zaj (a0:((List UInt8) × Int × (List (ApiItem)) × Unit)) (a1:Int) (a2:Bool) (a3:(List UInt8)):=Zaj_n 12 a0 a1 a2 a3
def S_Zaj:FSpec T:=⟨ps_Zaj,rs_Zaj,fun x=>Zaj x.1 x.2.1 x.2.2.1 x.2.2.2.1⟩
theorem Zaj_env (k_rec:((List UInt8) × Int × (List (ApiItem)) × Unit) → Int → Bool → (List UInt8) → Option ((((List UInt8) × Int × (List (ApiItem)) × Unit) × Unit) × (Int × Unit))) (hk:SoundT Tryz.prog cd gdn 152 ⟨ps_Zaj,rs_Zaj,fun x=>k_rec x.1 x.2.1 x.2.2.1 x.2.2.2.1⟩):EnvOk Tryz.prog (E_Zaj k_rec):=envOk (E:=(E_Zaj k_rec)) cd_ok tys fl_ok fun f ds S h=>by
    dsimp only [E_Zaj] at h
    split at h
    · cases h; exact Zcg_ok
    · cases h; exact Zbs_ok
    · cases h; exact hk
    · cases h; exact Zbu_ok
    · cases h; exact Zcf_ok
    · cases h; exact Zai_ok
    · cases h
theorem Zaj_L1_ok (k_rec:((List UInt8) × Int × (List (ApiItem)) × Unit) → Int → Bool → (List UInt8) → Option ((((List UInt8) × Int × (List (ApiItem)) × Unit) × Unit) × (Int × Unit))) (hk:SoundT Tryz.prog cd gdn 152 ⟨ps_Zaj,rs_Zaj,fun x=>k_rec x.1 x.2.1 x.2.2.1 x.2.2.2.1⟩):LoopOk Tryz.prog (E_Zaj k_rec) Tryz.f152.ntmps (kqOf ps_Zaj 0) (loopAt 1 (Tryz.f152.body.getD .skip)) ⟨[(0,.ptr [(.v .str),(.v (.int .i64)),(.own 1)]),(1,.f (.v (.int .i64))),(9,.ptr [(.v (.agg 1))]),(11,.f (.v .u64)),(13,.f (.v .bool)),(14,.f (.v .str)),(15,.f (.v .u64))],[(.ret,[(0,.ptr [(.v .str),(.v (.int .i64)),(.own 1)]),(8,.f (.v (.int .i64)))]),(.exit 1,[(0,.ptr [(.v .str),(.v (.int .i64)),(.own 1)])])],Zaj_L1 k_rec,[]⟩:=
  loop_ok (A:=(A_Zaj k_rec)) (done:=[]) (c0:=(Tryz.f152.body.getD .skip)) hmix (Zaj_env k_rec hk) done_nil rounds (by kernel_rfl) (by kernel_rfl) (fun x=>Zaj_L1_eq k_rec x.1 x.2.1 x.2.2.1 x.2.2.2.1 x.2.2.2.2.1 x.2.2.2.2.2.1 x.2.2.2.2.2.2.1) (fun _=>rfl)
theorem Zaj_okn:∀ n:Nat,SoundT Tryz.prog cd gdn 152 ⟨ps_Zaj,rs_Zaj,fun x=>Zaj_n n x.1 x.2.1 x.2.2.1 x.2.2.2.1⟩
  | 0=>sound_none ⟨_,Tryz.func152,by kernel_rfl,by kernel_rfl⟩
  | n + 1=>sound_fn (E:=E_Zaj (Zaj_n n)) (A:=A_Zaj (Zaj_n n)) (done:=[1]) (c:=(Tryz.f152.body.getD .skip)) (S:=⟨ps_Zaj,rs_Zaj,fun x=>Zaj_n (n + 1) x.1 x.2.1 x.2.2.1 x.2.2.2.1⟩) (fn:=Tryz.f152) hmix (Zaj_env _ (Zaj_okn n)) Tryz.func152 rfl (by kernel_rfl) (by kernel_rfl) (done_cons rfl (Zaj_L1_ok _ (Zaj_okn n)) done_nil) (by kernel_rfl) (by kernel_rfl) (Zaj_eqR (Zaj_n n))
theorem Zaj_ok:SoundT Tryz.prog cd gdn 152 S_Zaj:=Zaj_okn 12
def Zbh (a0:(List (UInt8))):Option ((Unit) × ((List (ApiItem)) × Int × Int × Unit)):=
 ((Zaj (a0,(0:Int),[],()) (0:Int) false ([]:List UInt8)).bind fun r1=>(bif (!decide (r1.2.1=(0:Int))) then (some ((),([],(0:Int),r1.2.1,())))
 else (some ((),(r1.1.1.2.2.1,r1.1.1.2.1,(0:Int),())))))
def S_Zbh:FSpec T:=⟨[.f (.v (.rs 0))],[(.own 1),(.v (.int .i64)),(.v (.int .i64))],fun x=>Zbh x.1⟩
def E_Zbh:Env T:=⟨tab.find,cd,globs,flc,fun f ds=>match f with
    | 152=>some S_Zaj
    | _=>none,fun f=>match f with
    | _=>false⟩
def A_Zbh:Loc2 T:=⟨fun id=>match id with
    | _=>none,fun r=>match r with
    | _=>none,fun r=>match r with
    | _=>false⟩
theorem Zbh_eq (x:tySs T S_Zbh.ps):run E_Zbh A_Zbh (Tryz.f119.body.getD .skip) (enterT E_Zbh.C S_Zbh.ps x) (retK E_Zbh Tryz.f119.results.toList S_Zbh.ps S_Zbh.rs)=S_Zbh.fn x:=by kernel_rfl
theorem Zbh_env:EnvOk Tryz.prog E_Zbh:=envOk (E:=E_Zbh) cd_ok tys fl_ok fun f ds S h=>by
    dsimp only [E_Zbh] at h
    split at h
    · cases h; exact Zaj_ok
    · cases h
theorem Zbh_ok:SoundT Tryz.prog cd gdn 119 S_Zbh:=
  sound_fn (E:=E_Zbh) (A:=A_Zbh) (done:=[]) (c:=(Tryz.f119.body.getD .skip)) (S:=S_Zbh) (fn:=Tryz.f119) hmix Zbh_env Tryz.func119 rfl (by kernel_rfl) (by kernel_rfl) done_nil (by kernel_rfl) (by kernel_rfl) Zbh_eq
def Zbg (a0:(BitVec 64)):Option ((Unit) × (Int × Unit)):=
 (let v1:BitVec 64:=(bif decide ((1048576#64).toNat < (a0).toNat) then 1048576#64 else a0)
 (some ((),((IntKind.wrap .i64 (v1.toNat:Int)),()))))
def S_Zbg:FSpec T:=⟨[.f (.v .u64)],[(.v (.int .i64))],fun x=>Zbg x.1⟩
def E_Zbg:Env T:=⟨tab.find,cd,globs,flc,fun f ds=>match f with
    | _=>none,fun f=>match f with
    | _=>false⟩
def A_Zbg:Loc2 T:=⟨fun id=>match id with
    | _=>none,fun r=>match r with
    | _=>none,fun r=>match r with
    | _=>false⟩
theorem Zbg_eq (x:tySs T S_Zbg.ps):run E_Zbg A_Zbg (Tryz.f120.body.getD .skip) (enterT E_Zbg.C S_Zbg.ps x) (retK E_Zbg Tryz.f120.results.toList S_Zbg.ps S_Zbg.rs)=S_Zbg.fn x:=by kernel_rfl
theorem Zbg_env:EnvOk Tryz.prog E_Zbg:=envOk (E:=E_Zbg) cd_ok tys fl_ok fun f ds S h=>by cases h
theorem Zbg_ok:SoundT Tryz.prog cd gdn 120 S_Zbg:=
  sound_fn (E:=E_Zbg) (A:=A_Zbg) (done:=[]) (c:=(Tryz.f120.body.getD .skip)) (S:=S_Zbg) (fn:=Tryz.f120) hmix Zbg_env Tryz.func120 rfl (by kernel_rfl) (by kernel_rfl) done_nil (by kernel_rfl) (by kernel_rfl) Zbg_eq
def Zbq (a0:(List (UInt8))):Option ((Unit) × (ApiCredential × Int × Bool × Unit)):=
 ((Zbh a0).bind fun r1=>(bif (!decide (r1.2.2.2.1=(0:Int))) then (some ((),((⟨([]:List UInt8),([]:List UInt8),([]:List UInt8),0#64,(0:Int),false,(0:Int),false,false⟩:ApiCredential),(0:Int),false,())))
 else (bif (!decide (((r1.2.1).length:Int)=(19:Int))) then (some ((),((⟨([]:List UInt8),([]:List UInt8),([]:List UInt8),0#64,(0:Int),false,(0:Int),false,false⟩:ApiCredential),(0:Int),false,())))
 else (bif decide ((2:Int) < ((r1.2.1).length:Int)) then (((r1.2.1)[2]?).bind fun x2=>(bif decide ((4:Int) < ((r1.2.1).length:Int)) then (((r1.2.1)[4]?).bind fun x3=>(bif decide ((6:Int) < ((r1.2.1).length:Int)) then (((r1.2.1)[6]?).bind fun x4=>(bif decide ((8:Int) < ((r1.2.1).length:Int)) then (((r1.2.1)[8]?).bind fun x5=>(bif decide ((10:Int) < ((r1.2.1).length:Int)) then (((r1.2.1)[10]?).bind fun x6=>((Zbg x6.number).bind fun r7=>(bif decide ((12:Int) < ((r1.2.1).length:Int)) then (((r1.2.1)[12]?).bind fun x8=>(bif decide ((14:Int) < ((r1.2.1).length:Int)) then (((r1.2.1)[14]?).bind fun x9=>((Zbg x9.number).bind fun r10=>(bif decide ((16:Int) < ((r1.2.1).length:Int)) then (((r1.2.1)[16]?).bind fun x11=>(bif decide ((18:Int) < ((r1.2.1).length:Int)) then (((r1.2.1)[18]?).bind fun x12=>((Zae (⟨x2.data,x3.data,x4.data,x5.number,r7.2.1,(decide (x8.number=1#64)),r10.2.1,(decide (x11.number=1#64)),(decide (x12.number=1#64))⟩:ApiCredential)).bind fun r13=>(bif (decide (r13.2.2.1=(0:Int))) then (bif (decide ((0:Int) ≤ r1.2.2.1) && decide (r1.2.2.1 ≤ ((a0).length:Int))) then (some ((),((⟨x2.data,x3.data,x4.data,x5.number,r7.2.1,(decide (x8.number=1#64)),r10.2.1,(decide (x11.number=1#64)),(decide (x12.number=1#64))⟩:ApiCredential),r1.2.2.1,(decide (r13.2.1=(List.take (r1.2.2.1).toNat a0))),())))
 else none)
 else (some ((),((⟨x2.data,x3.data,x4.data,x5.number,r7.2.1,(decide (x8.number=1#64)),r10.2.1,(decide (x11.number=1#64)),(decide (x12.number=1#64))⟩:ApiCredential),r1.2.2.1,false,()))))))
 else none))
 else none)))
 else none))
 else none)))
 else none))
 else none))
 else none))
 else none))
 else none))))
def S_Zbq:FSpec T:=⟨[.f (.v (.rs 0))],[(.v (.agg 2)),(.v (.int .i64)),(.v .bool)],fun x=>Zbq x.1⟩
def E_Zbq:Env T:=⟨tab.find,cd,globs,flc,fun f ds=>match f with
    | 13=>some S_Zae
    | 119=>some S_Zbh
    | 120=>some S_Zbg
    | _=>none,fun f=>match f with
    | 120=>true
    | _=>false⟩
def A_Zbq:Loc2 T:=⟨fun id=>match id with
    | _=>none,fun r=>match r with
    | _=>none,fun r=>match r with
    | 4=>true
    | 6=>true
    | _=>false⟩
theorem Zbq_eq (x:tySs T S_Zbq.ps):run E_Zbq A_Zbq (Tryz.f86.body.getD .skip) (enterT E_Zbq.C S_Zbq.ps x) (retK E_Zbq Tryz.f86.results.toList S_Zbq.ps S_Zbq.rs)=S_Zbq.fn x:=by kernel_rfl
theorem Zbq_env:EnvOk Tryz.prog E_Zbq:=envOk (E:=E_Zbq) cd_ok tys fl_ok fun f ds S h=>by
    dsimp only [E_Zbq] at h
    split at h
    · cases h; exact Zae_ok
    · cases h; exact Zbh_ok
    · cases h; exact Zbg_ok
    · cases h
theorem Zbq_ok:SoundT Tryz.prog cd gdn 86 S_Zbq:=
  sound_fn (E:=E_Zbq) (A:=A_Zbq) (done:=[]) (c:=(Tryz.f86.body.getD .skip)) (S:=S_Zbq) (fn:=Tryz.f86) hmix Zbq_env Tryz.func86 rfl (by kernel_rfl) (by kernel_rfl) done_nil (by kernel_rfl) (by kernel_rfl) Zbq_eq
def Zad (a0:(List (UInt8))):Option ((Unit) × (ApiCredential × Int × Unit)):=
 ((Zbq a0).bind fun r1=>(bif (!r1.2.2.2.1) then (some ((),((⟨([]:List UInt8),([]:List UInt8),([]:List UInt8),0#64,(0:Int),false,(0:Int),false,false⟩:ApiCredential),(2:Int),())))
 else (bif (!decide (r1.2.2.1=((a0).length:Int))) then (some ((),((⟨([]:List UInt8),([]:List UInt8),([]:List UInt8),0#64,(0:Int),false,(0:Int),false,false⟩:ApiCredential),(2:Int),())))
 else (some ((),(r1.2.1,(0:Int),()))))))
def S_Zad:FSpec T:=⟨[.f (.v (.rs 0))],[(.v (.agg 2)),(.v (.int .i64))],fun x=>Zad x.1⟩
def E_Zad:Env T:=⟨tab.find,cd,globs,flc,fun f ds=>match f with
    | 86=>some S_Zbq
    | _=>none,fun f=>match f with
    | 86=>true
    | _=>false⟩
def A_Zad:Loc2 T:=⟨fun id=>match id with
    | _=>none,fun r=>match r with
    | _=>none,fun r=>match r with
    | _=>false⟩
theorem Zad_eq (x:tySs T S_Zad.ps):run E_Zad A_Zad (Tryz.f54.body.getD .skip) (enterT E_Zad.C S_Zad.ps x) (retK E_Zad Tryz.f54.results.toList S_Zad.ps S_Zad.rs)=S_Zad.fn x:=by kernel_rfl
theorem Zad_env:EnvOk Tryz.prog E_Zad:=envOk (E:=E_Zad) cd_ok tys fl_ok fun f ds S h=>by
    dsimp only [E_Zad] at h
    split at h
    · cases h; exact Zbq_ok
    · cases h
theorem Zad_ok:SoundT Tryz.prog cd gdn 54 S_Zad:=
  sound_fn (E:=E_Zad) (A:=A_Zad) (done:=[]) (c:=(Tryz.f54.body.getD .skip)) (S:=S_Zad) (fn:=Tryz.f54) hmix Zad_env Tryz.func54 rfl (by kernel_rfl) (by kernel_rfl) done_nil (by kernel_rfl) (by kernel_rfl) Zad_eq
def Zan (a0:ApiCredential) (a1:Int) (a2:Int):Option ((Unit) × ((List (UInt8)) × Int × Unit)):=
 ((Zbm a0).bind fun r1=>(bif (!decide (r1.2.2.1=(0:Int))) then (some ((),([],r1.2.2.1,())))
 else (bif (!a0.backed) then (some ((),([],(18:Int),())))
 else (bif (decide (a1 < (0:Int))) then (bif (decide (a1 < (0:Int))) then (some ((),([],(9:Int),())))
 else (let v2:List (UInt8):=([(UInt8.ofBitVec (BitVec.ofInt 8 a1)),(UInt8.ofBitVec (BitVec.ofInt 8 a2))]:List (UInt8))
 (bif small ((v2).length + (r1.2.1:List (UInt8)).length) 1 then (some ((),((v2 ++ r1.2.1),(0:Int),())))
 else none)))
 else (bif (decide (a2 < a1)) then (bif (decide (a2 < a1)) then (some ((),([],(9:Int),())))
 else (let v3:List (UInt8):=([(UInt8.ofBitVec (BitVec.ofInt 8 a1)),(UInt8.ofBitVec (BitVec.ofInt 8 a2))]:List (UInt8))
 (bif small ((v3).length + (r1.2.1:List (UInt8)).length) 1 then (some ((),((v3 ++ r1.2.1),(0:Int),())))
 else none)))
 else (bif decide ((0:Int) ≤ a0.height) then (let v4:Int:=(IntKind.wrap .i64 ((1:Int) * 2 ^ (min (a0.height).toNat (IntKind.bits .i64))))
 (bif (decide (v4 < a2)) then (some ((),([],(9:Int),())))
 else (let v5:List (UInt8):=([(UInt8.ofBitVec (BitVec.ofInt 8 a1)),(UInt8.ofBitVec (BitVec.ofInt 8 a2))]:List (UInt8))
 (bif small ((v5).length + (r1.2.1:List (UInt8)).length) 1 then (some ((),((v5 ++ r1.2.1),(0:Int),())))
 else none))))
 else none))))))
def S_Zan:FSpec T:=⟨[.f (.v (.agg 2)),.f (.v (.int .i64)),.f (.v (.int .i64))],[(.own 0),(.v (.int .i64))],fun x=>Zan x.1 x.2.1 x.2.2.1⟩
def E_Zan:Env T:=⟨tab.find,cd,globs,flc,fun f ds=>match f with
    | 12=>some S_Zbm
    | _=>none,fun f=>match f with
    | _=>false⟩
def A_Zan:Loc2 T:=⟨fun id=>match id with
    | _=>none,fun r=>match r with
    | _=>none,fun r=>match r with
    | _=>false⟩
theorem Zan_eq (x:tySs T S_Zan.ps):run E_Zan A_Zan (Tryz.f28.body.getD .skip) (enterT E_Zan.C S_Zan.ps x) (retK E_Zan Tryz.f28.results.toList S_Zan.ps S_Zan.rs)=S_Zan.fn x:=by kernel_rfl
theorem Zan_env:EnvOk Tryz.prog E_Zan:=envOk (E:=E_Zan) cd_ok tys fl_ok fun f ds S h=>by
    dsimp only [E_Zan] at h
    split at h
    · cases h; exact Zbm_ok
    · cases h
theorem Zan_ok:SoundT Tryz.prog cd gdn 28 S_Zan:=
  sound_fn (E:=E_Zan) (A:=A_Zan) (done:=[]) (c:=(Tryz.f28.body.getD .skip)) (S:=S_Zan) (fn:=Tryz.f28) hmix Zan_env Tryz.func28 rfl (by kernel_rfl) (by kernel_rfl) done_nil (by kernel_rfl) (by kernel_rfl) Zan_eq
def Zah (a0:ApiCredential) (a1:Int) (a2:Int):Option ((Unit) × ((List (UInt8)) × Int × Unit)):=
 ((Zae a0).bind fun r1=>(bif (!decide (r1.2.2.1=(0:Int))) then (some ((),([],r1.2.2.1,())))
 else (bif (!a0.backed) then (some ((),([],(18:Int),())))
 else (bif (decide (a1 < (0:Int))) then (some ((),([],(9:Int),())))
 else (bif (decide (a2 < a1)) then (some ((),([],(9:Int),())))
 else (let v2:Int:=(IntKind.wrap .i64 ((1:Int) * 2 ^ (min (BitVec.ofInt 64 a0.height).toNat (IntKind.bits .i64))))
 (bif (decide (v2 < a2)) then (some ((),([],(9:Int),())))
 else (let v3:List (UInt8):=([(UInt8.ofBitVec (BitVec.ofInt 8 a1)),(UInt8.ofBitVec (BitVec.ofInt 8 a2))]:List (UInt8))
 (bif small ((v3).length + (r1.2.1:List (UInt8)).length) 1 then (some ((),((v3 ++ r1.2.1),(0:Int),())))
 else none)))))))))
def S_Zah:FSpec T:=⟨[.f (.v (.agg 2)),.f (.v (.int .i64)),.f (.v (.int .i64))],[(.own 0),(.v (.int .i64))],fun x=>Zah x.1 x.2.1 x.2.2.1⟩
def E_Zah:Env T:=⟨tab.find,cd,globs,flc,fun f ds=>match f with
    | 13=>some S_Zae
    | _=>none,fun f=>match f with
    | _=>false⟩
def A_Zah:Loc2 T:=⟨fun id=>match id with
    | _=>none,fun r=>match r with
    | _=>none,fun r=>match r with
    | _=>false⟩
theorem Zah_eq (x:tySs T S_Zah.ps):run E_Zah A_Zah (Tryz.f29.body.getD .skip) (enterT E_Zah.C S_Zah.ps x) (retK E_Zah Tryz.f29.results.toList S_Zah.ps S_Zah.rs)=S_Zah.fn x:=by kernel_rfl
theorem Zah_env:EnvOk Tryz.prog E_Zah:=envOk (E:=E_Zah) cd_ok tys fl_ok fun f ds S h=>by
    dsimp only [E_Zah] at h
    split at h
    · cases h; exact Zae_ok
    · cases h
theorem Zah_ok:SoundT Tryz.prog cd gdn 29 S_Zah:=
  sound_fn (E:=E_Zah) (A:=A_Zah) (done:=[]) (c:=(Tryz.f29.body.getD .skip)) (S:=S_Zah) (fn:=Tryz.f29) hmix Zah_env Tryz.func29 rfl (by kernel_rfl) (by kernel_rfl) done_nil (by kernel_rfl) (by kernel_rfl) Zah_eq
def Zam (a0:(List (UInt8))):Option ((Unit) × (ApiCredential × Int × Int × Int × Unit)):=
 (bif (decide (((a0).length:Int) < (2:Int))) then (some ((),((⟨([]:List UInt8),([]:List UInt8),([]:List UInt8),0#64,(0:Int),false,(0:Int),false,false⟩:ApiCredential),(0:Int),(0:Int),(2:Int),())))
 else (bif decide ((2:Int) ≤ ((a0).length:Int)) then ((Zbl (List.drop 2 a0)).bind fun r1=>(bif (!decide (r1.2.2.1=(0:Int))) then (some ((),((⟨([]:List UInt8),([]:List UInt8),([]:List UInt8),0#64,(0:Int),false,(0:Int),false,false⟩:ApiCredential),(0:Int),(0:Int),(2:Int),())))
 else ((getI a0 (0:Int)).bind fun x2=>((getI a0 (1:Int)).bind fun x3=>((Zan r1.2.1 (x2.toBitVec.toNat:Int) (x3.toBitVec.toNat:Int)).bind fun r4=>(bif (!decide (r4.2.2.1=(0:Int))) then (some ((),((⟨([]:List UInt8),([]:List UInt8),([]:List UInt8),0#64,(0:Int),false,(0:Int),false,false⟩:ApiCredential),(0:Int),(0:Int),(2:Int),())))
 else (some ((),(r1.2.1,(x2.toBitVec.toNat:Int),(x3.toBitVec.toNat:Int),(0:Int),())))))))))
 else none))
def S_Zam:FSpec T:=⟨[.f (.v (.rs 0))],[(.v (.agg 2)),(.v (.int .i64)),(.v (.int .i64)),(.v (.int .i64))],fun x=>Zam x.1⟩
def E_Zam:Env T:=⟨tab.find,cd,globs,flc,fun f ds=>match f with
    | 16=>some S_Zbl
    | 28=>some S_Zan
    | _=>none,fun f=>match f with
    | 16=>true
    | _=>false⟩
def A_Zam:Loc2 T:=⟨fun id=>match id with
    | _=>none,fun r=>match r with
    | _=>none,fun r=>match r with
    | _=>false⟩
theorem Zam_eq (x:tySs T S_Zam.ps):run E_Zam A_Zam (Tryz.f30.body.getD .skip) (enterT E_Zam.C S_Zam.ps x) (retK E_Zam Tryz.f30.results.toList S_Zam.ps S_Zam.rs)=S_Zam.fn x:=by kernel_rfl
theorem Zam_env:EnvOk Tryz.prog E_Zam:=envOk (E:=E_Zam) cd_ok tys fl_ok fun f ds S h=>by
    dsimp only [E_Zam] at h
    split at h
    · cases h; exact Zbl_ok
    · cases h; exact Zan_ok
    · cases h
theorem Zam_ok:SoundT Tryz.prog cd gdn 30 S_Zam:=
  sound_fn (E:=E_Zam) (A:=A_Zam) (done:=[]) (c:=(Tryz.f30.body.getD .skip)) (S:=S_Zam) (fn:=Tryz.f30) hmix Zam_env Tryz.func30 rfl (by kernel_rfl) (by kernel_rfl) done_nil (by kernel_rfl) (by kernel_rfl) Zam_eq
def Zag (a0:(List (UInt8))):Option ((Unit) × (ApiCredential × Int × Int × Int × Unit)):=
 (bif (decide (((a0).length:Int) < (2:Int))) then (some ((),((⟨([]:List UInt8),([]:List UInt8),([]:List UInt8),0#64,(0:Int),false,(0:Int),false,false⟩:ApiCredential),(0:Int),(0:Int),(2:Int),())))
 else (bif decide ((2:Int) ≤ ((a0).length:Int)) then ((Zad (List.drop 2 a0)).bind fun r1=>(bif (!decide (r1.2.2.1=(0:Int))) then (some ((),((⟨([]:List UInt8),([]:List UInt8),([]:List UInt8),0#64,(0:Int),false,(0:Int),false,false⟩:ApiCredential),(0:Int),(0:Int),(2:Int),())))
 else ((getI a0 (0:Int)).bind fun x2=>((getI a0 (1:Int)).bind fun x3=>((Zah r1.2.1 (x2.toBitVec.toNat:Int) (x3.toBitVec.toNat:Int)).bind fun r4=>(bif (!decide (r4.2.2.1=(0:Int))) then (some ((),((⟨([]:List UInt8),([]:List UInt8),([]:List UInt8),0#64,(0:Int),false,(0:Int),false,false⟩:ApiCredential),(0:Int),(0:Int),(2:Int),())))
 else ((getI a0 (0:Int)).bind fun x5=>((getI a0 (1:Int)).bind fun x6=>(some ((),(r1.2.1,(x5.toBitVec.toNat:Int),(x6.toBitVec.toNat:Int),(0:Int),())))))))))))
 else none))
def S_Zag:FSpec T:=⟨[.f (.v (.rs 0))],[(.v (.agg 2)),(.v (.int .i64)),(.v (.int .i64)),(.v (.int .i64))],fun x=>Zag x.1⟩
def E_Zag:Env T:=⟨tab.find,cd,globs,flc,fun f ds=>match f with
    | 29=>some S_Zah
    | 54=>some S_Zad
    | _=>none,fun f=>match f with
    | 54=>true
    | _=>false⟩
def A_Zag:Loc2 T:=⟨fun id=>match id with
    | _=>none,fun r=>match r with
    | _=>none,fun r=>match r with
    | 9=>true
    | _=>false⟩
theorem Zag_eq (x:tySs T S_Zag.ps):run E_Zag A_Zag (Tryz.f68.body.getD .skip) (enterT E_Zag.C S_Zag.ps x) (retK E_Zag Tryz.f68.results.toList S_Zag.ps S_Zag.rs)=S_Zag.fn x:=by kernel_rfl
theorem Zag_env:EnvOk Tryz.prog E_Zag:=envOk (E:=E_Zag) cd_ok tys fl_ok fun f ds S h=>by
    dsimp only [E_Zag] at h
    split at h
    · cases h; exact Zah_ok
    · cases h; exact Zad_ok
    · cases h
theorem Zag_ok:SoundT Tryz.prog cd gdn 68 S_Zag:=
  sound_fn (E:=E_Zag) (A:=A_Zag) (done:=[]) (c:=(Tryz.f68.body.getD .skip)) (S:=S_Zag) (fn:=Tryz.f68) hmix Zag_env Tryz.func68 rfl (by kernel_rfl) (by kernel_rfl) done_nil (by kernel_rfl) (by kernel_rfl) Zag_eq
def Zax (a0:(List (UInt8))):Option ((Unit) × (Bool × Unit)):=
 ((Zam a0).bind fun r1=>((Zag a0).bind fun r2=>(bif (decide (r1.2.2.2.2.1=r2.2.2.2.2.1)) then (let v3:Bool:=(decide (r1.2.1.rP=r2.2.1.rP) && (decide (r1.2.1.user=r2.2.1.user) && (decide (r1.2.1.name=r2.2.1.name) && (decide (r1.2.1.seed=r2.2.1.seed) && (decide (r1.2.1.height=r2.2.1.height) && ((r1.2.1.resident == r2.2.1.resident) && (decide (r1.2.1.protect=r2.2.1.protect) && ((r1.2.1.shared == r2.2.1.shared) && ((r1.2.1.backed == r2.2.1.backed) && true)))))))))
 (bif v3 then (bif (decide (r1.2.2.1=r2.2.2.1)) then (some ((),((decide (r1.2.2.2.1=r2.2.2.2.1)),())))
 else (some ((),(false,()))))
 else (some ((),(false,())))))
 else (some ((),(false,()))))))
def S_Zax:FSpec T:=⟨[.f (.v (.rs 0))],[(.v .bool)],fun x=>Zax x.1⟩
def E_Zax:Env T:=⟨tab.find,cd,globs,flc,fun f ds=>match f with
    | 30=>some S_Zam
    | 68=>some S_Zag
    | _=>none,fun f=>match f with
    | 30=>true
    | 68=>true
    | _=>false⟩
def A_Zax:Loc2 T:=⟨fun id=>match id with
    | _=>none,fun r=>match r with
    | _=>none,fun r=>match r with
    | _=>false⟩
theorem Zax_eq (x:tySs T S_Zax.ps):run E_Zax A_Zax (Tryz.f31.body.getD .skip) (enterT E_Zax.C S_Zax.ps x) (retK E_Zax Tryz.f31.results.toList S_Zax.ps S_Zax.rs)=S_Zax.fn x:=by kernel_rfl
theorem Zax_env:EnvOk Tryz.prog E_Zax:=envOk (E:=E_Zax) cd_ok tys fl_ok fun f ds S h=>by
    dsimp only [E_Zax] at h
    split at h
    · cases h; exact Zam_ok
    · cases h; exact Zag_ok
    · cases h
theorem Zax_ok:SoundT Tryz.prog cd gdn 31 S_Zax:=
  sound_fn (E:=E_Zax) (A:=A_Zax) (done:=[]) (c:=(Tryz.f31.body.getD .skip)) (S:=S_Zax) (fn:=Tryz.f31) hmix Zax_env Tryz.func31 rfl (by kernel_rfl) (by kernel_rfl) done_nil (by kernel_rfl) (by kernel_rfl) Zax_eq
def Zac (a0:Int) (a1:Int) (a2:Int) (a3:Int) (a4:(List (UInt8))) (a5:Int) (a6:UInt8):Option ((Unit) × (Bool × Unit)):=
 (bif (decide ((400:Int) < ((a4).length:Int))) then ((Zbe).bind fun r1=>(some ((),(r1.2.1,()))))
 else (let v2:Int:=(IntKind.wrap .i64 ((BitVec.ofInt (IntKind.bits .i64) a0 &&& BitVec.ofInt (IntKind.bits .i64) (1048575:Int)).toNat:Int))
 (let v3:Int:=(IntKind.wrap .i64 ((BitVec.ofInt (IntKind.bits .i64) v2 ||| BitVec.ofInt (IntKind.bits .i64) (896:Int)).toNat:Int))
 ((Zap v3).bind fun r4=>((Zbf r4.2.1 a1).bind fun r5=>((Zan r5.2.1 a2 a3).bind fun r6=>((Zah r5.2.1 a2 a3).bind fun r7=>(let v8:Int:=(IntKind.wrap .i64 ((BitVec.ofInt (IntKind.bits .i64) a2 &&& BitVec.ofInt (IntKind.bits .i64) (7:Int)).toNat:Int))
 (let v9:Int:=(IntKind.wrap .i64 ((BitVec.ofInt (IntKind.bits .i64) a3 &&& BitVec.ofInt (IntKind.bits .i64) (7:Int)).toNat:Int))
 ((Zan r5.2.1 (IntKind.wrap .i64 (v8 - (1:Int))) v9).bind fun r10=>((Zah r5.2.1 (IntKind.wrap .i64 (v8 - (1:Int))) v9).bind fun r11=>(bif (!decide (r6.2.2.1=r7.2.2.1)) then (some ((),(false,())))
 else (bif (!decide (r6.2.1=r7.2.1)) then (some ((),(false,())))
 else (bif (!decide (r10.2.2.1=r11.2.2.1)) then (some ((),(false,())))
 else (bif (!decide (r10.2.1=r11.2.1)) then (some ((),(false,())))
 else ((bif (decide (r10.2.2.1=(0:Int))) then ((Zam r10.2.1).bind fun r12=>(bif (!decide (r12.2.2.2.2.1=(0:Int))) then (((some ((),(false,())))).bind fun q=>some (Sum.inr q))
 else (let v13:Bool:=(!(decide (r12.2.1.rP=r5.2.1.rP) && (decide (r12.2.1.user=r5.2.1.user) && (decide (r12.2.1.name=r5.2.1.name) && (decide (r12.2.1.seed=r5.2.1.seed) && (decide (r12.2.1.height=r5.2.1.height) && ((r12.2.1.resident == r5.2.1.resident) && (decide (r12.2.1.protect=r5.2.1.protect) && ((r12.2.1.shared == r5.2.1.shared) && ((r12.2.1.backed == r5.2.1.backed) && true))))))))))
 (bif v13 then (((some ((),(false,())))).bind fun q=>some (Sum.inr q))
 else (bif (!decide (r12.2.2.1=(IntKind.wrap .i64 (v8 - (1:Int))))) then (((some ((),(false,())))).bind fun q=>some (Sum.inr q))
 else (bif (!decide (r12.2.2.2.1=v9)) then (((some ((),(false,())))).bind fun q=>some (Sum.inr q))
 else (let v14:Int:=(IntKind.wrap .i64 ((BitVec.ofInt (IntKind.bits .i64) a5 &&& BitVec.ofInt (IntKind.bits .i64) (65535:Int)).toNat:Int))
 (bif decide (((r11.2.1).length:Int)=0) then none
 else (bif (decide ((0:Int) ≤ (Int.tmod v14 ((r11.2.1).length:Int))) && decide ((Int.tmod v14 ((r11.2.1).length:Int)) < ((r11.2.1).length:Int))) then (((r11.2.1)[((Int.tmod v14 ((r11.2.1).length:Int))).toNat]?).bind fun x15=>(bif (decide ((0:Int) ≤ (Int.tmod v14 ((r11.2.1).length:Int))) && decide ((Int.tmod v14 ((r11.2.1).length:Int)) < ((r11.2.1).length:Int))) then (((r11.2.1)[((Int.tmod v14 ((r11.2.1).length:Int))).toNat]?).bind fun x16=>(let v17:List (UInt8):=(List.set r11.2.1 ((Int.tmod v14 ((r11.2.1).length:Int))).toNat (UInt8.ofBitVec (x15.toBitVec ^^^ a6.toBitVec)))
 (some (Sum.inl (a4,v17,())))))
 else none))
 else none)))))))))
 else (some (Sum.inl (a4,r11.2.1,())))).bind (Sum.elim (fun (j18:((List (UInt8)) × (List (UInt8)) × Unit))=>((Zax j18.2.1).bind fun r19=>(bif r19.2.1 then ((Zax j18.1).bind fun r20=>(bif r20.2.1 then ((Zbe).bind fun r21=>(some ((),(r21.2.1,()))))
 else (some ((),(false,())))))
 else (some ((),(false,())))))) some)))))))))))))))))
def S_Zac:FSpec T:=⟨[.f (.v (.int .i64)),.f (.v (.int .i64)),.f (.v (.int .i64)),.f (.v (.int .i64)),.f (.v (.rs 0)),.f (.v (.int .i64)),.f (.v .u8)],[(.v .bool)],fun x=>Zac x.1 x.2.1 x.2.2.1 x.2.2.2.1 x.2.2.2.2.1 x.2.2.2.2.2.1 x.2.2.2.2.2.2.1⟩
def E_Zac:Env T:=⟨tab.find,cd,globs,flc,fun f ds=>match f with
    | 9=>some S_Zbe
    | 10=>some S_Zbf
    | 11=>some S_Zap
    | 28=>some S_Zan
    | 29=>some S_Zah
    | 30=>some S_Zam
    | 31=>some S_Zax
    | _=>none,fun f=>match f with
    | 9=>true
    | 10=>true
    | 11=>true
    | 30=>true
    | 31=>true
    | _=>false⟩
def A_Zac:Loc2 T:=⟨fun id=>match id with
    | _=>none,fun r=>match r with
    | 16=>some ([(4,.f (.v (.rs 0))),(24,.f (.own 0))],false)
    | _=>none,fun r=>match r with
    | _=>false⟩
theorem Zac_eq (x:tySs T S_Zac.ps):run E_Zac A_Zac (Tryz.f7.body.getD .skip) (enterT E_Zac.C S_Zac.ps x) (retK E_Zac Tryz.f7.results.toList S_Zac.ps S_Zac.rs)=S_Zac.fn x:=by kernel_rfl
theorem Zac_env:EnvOk Tryz.prog E_Zac:=envOk (E:=E_Zac) cd_ok tys fl_ok fun f ds S h=>by
    dsimp only [E_Zac] at h
    split at h
    · cases h; exact Zbe_ok
    · cases h; exact Zbf_ok
    · cases h; exact Zap_ok
    · cases h; exact Zan_ok
    · cases h; exact Zah_ok
    · cases h; exact Zam_ok
    · cases h; exact Zax_ok
    · cases h
theorem Zac_ok:SoundT Tryz.prog cd gdn 7 S_Zac:=
  sound_fn (E:=E_Zac) (A:=A_Zac) (done:=[]) (c:=(Tryz.f7.body.getD .skip)) (S:=S_Zac) (fn:=Tryz.f7) hmix Zac_env Tryz.func7 rfl (by kernel_rfl) (by kernel_rfl) done_nil (by kernel_rfl) (by kernel_rfl) Zac_eq
def CredentialGrants_dom (a0:Int) (a1:Int) (a2:Int) (a3:Int) (a4:(List (UInt8))) (a5:Int) (a6:UInt8):Prop:=ArgD cd [(.int .i64),(.int .i64),(.int .i64),(.int .i64),(.rs 0),(.int .i64),.u8] (a0,a1,a2,a3,a4,a5,a6,())
end Go.Proofs.YtghfcfjnfgmkgaaGreatDoor

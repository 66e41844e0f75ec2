/- The functions of the program, as plain functions, and that the program computes them. Written by a program. -/
import Derived.Test.YtghfcfjnfgmkgaaGreatDoorFns0
set_option linter.unusedVariables false
set_option maxRecDepth 100000
namespace Go.Proofs.YtghfcfjnfgmkgaaGreatDoor
open Go Go.Abs
def Zbm (a0:(BitVec 64)) (a1:(List UInt8)) (a2:(List (UInt8))):Option ((Unit) × (ApiCredential × Int × Unit)):=
 (bif (!decide (((a2).length:Int)=(176:Int))) then (some ((),((⟨([]:List UInt8),([]:List UInt8),([]:List UInt8),0#64,(0:Int),false,(0:Int),false,false⟩:ApiCredential),(4:Int),())))
 else ((Zbb a0).bind fun r1=>((Zca a1).bind fun r2=>((Zeb r1.2.1 r2.2.1 a2).bind fun r3=>(bif (!decide (r3.2.2.1=(0:Int))) then (some ((),((⟨([]:List UInt8),([]:List UInt8),([]:List UInt8),0#64,(0:Int),false,(0:Int),false,false⟩:ApiCredential),r3.2.2.1,())))
 else ((Zdl r3.2.1).bind fun r4=>(bif (!decide (r4.2.2.2.1=(0:Int))) then (some ((),((⟨([]:List UInt8),([]:List UInt8),([]:List UInt8),0#64,(0:Int),false,(0:Int),false,false⟩:ApiCredential),(2:Int),())))
 else (bif (decide (r4.2.2.1 < (0:Int))) then (some ((),((⟨([]:List UInt8),([]:List UInt8),([]:List UInt8),0#64,(0:Int),false,(0:Int),false,false⟩:ApiCredential),(2:Int),())))
 else (bif (decide (((r3.2.1).length:Int) < r4.2.2.1)) then (some ((),((⟨([]:List UInt8),([]:List UInt8),([]:List UInt8),0#64,(0:Int),false,(0:Int),false,false⟩:ApiCredential),(2:Int),())))
 else (bif (decide ((0:Int) ≤ r4.2.2.1) && decide (r4.2.2.1 ≤ ((r3.2.1).length:Int))) then (bif decide ((r4.2.2.1).toNat ≤ (r3.2.1).length) then ((Zbk (List.take (r4.2.2.1).toNat r3.2.1)).bind fun r5=>(bif (!decide (r5.2.2.1=(0:Int))) then (some ((),((⟨([]:List UInt8),([]:List UInt8),([]:List UInt8),0#64,(0:Int),false,(0:Int),false,false⟩:ApiCredential),(2:Int),())))
 else (bif (!decide (((r3.2.1).length:Int)=(160:Int))) then (some ((),((⟨([]:List UInt8),([]:List UInt8),([]:List UInt8),0#64,(0:Int),false,(0:Int),false,false⟩:ApiCredential),(2:Int),())))
 else (bif (decide ((0:Int) ≤ r4.2.2.1) && decide (r4.2.2.1 ≤ ((r3.2.1).length:Int))) then (bif decide (((r3.2.1).length - (r4.2.2.1).toNat) + (r4.2.2.1).toNat ≤ (r3.2.1).length) then ((Zds (List.take ((r3.2.1).length - (r4.2.2.1).toNat) (List.drop (r4.2.2.1).toNat r3.2.1)) ([0]:List UInt8)).bind fun r6=>(bif (decide ((0:Int) < ((r6.2.1).length:Int))) then (some ((),((⟨([]:List UInt8),([]:List UInt8),([]:List UInt8),0#64,(0:Int),false,(0:Int),false,false⟩:ApiCredential),(2:Int),())))
 else (bif r5.2.1.resident then (some ((),((⟨([]:List UInt8),([]:List UInt8),([]:List UInt8),0#64,(0:Int),false,(0:Int),false,false⟩:ApiCredential),(11:Int),())))
 else (bif (!decide (r5.2.1.rP=a1)) then (some ((),((⟨([]:List UInt8),([]:List UInt8),([]:List UInt8),0#64,(0:Int),false,(0:Int),false,false⟩:ApiCredential),(11:Int),())))
 else (some ((),(r5.2.1,(0:Int),())))))))
 else none)
 else none))))
 else none)
 else none))))))))))
def S_Zbm:FSpec T:=⟨[.f (.v .u64),.f (.v .str),.f (.v (.rs 0))],[(.v (.agg 2)),(.v (.int .i64))],fun x=>Zbm x.1 x.2.1 x.2.2.1⟩
def E_Zbm:Env T:=⟨tab.find,cd,globs,flc,fun f ds=>match f with
    | 16=>some S_Zbk
    | 51=>some S_Zdl
    | 65=>some S_Zbb
    | 66=>some S_Zca
    | 71=>some S_Zeb
    | 72=>some S_Zds
    | _=>none,fun f=>match f with
    | 16=>true
    | 65=>true
    | _=>false⟩
def A_Zbm:Loc2 T:=⟨fun id=>match id with
    | _=>none,fun r=>match r with
    | _=>none,fun r=>match r with
    | _=>false⟩
theorem Zbm_eq (x:tySs T S_Zbm.ps):run E_Zbm A_Zbm (Tryz.f34.body.getD .skip) (enterT E_Zbm.C S_Zbm.ps x) (retK E_Zbm Tryz.f34.results.toList S_Zbm.ps S_Zbm.rs)=S_Zbm.fn x:=by kernel_rfl
theorem Zbm_env:EnvOk Tryz.prog E_Zbm:=envOk (E:=E_Zbm) cd_ok tys fl_ok fun f ds S h=>by
    dsimp only [E_Zbm] at h
    split at h
    · cases h; exact Zbk_ok
    · cases h; exact Zdl_ok
    · cases h; exact Zbb_ok
    · cases h; exact Zca_ok
    · cases h; exact Zeb_ok
    · cases h; exact Zds_ok
    · cases h
theorem Zbm_ok:SoundT Tryz.prog cd gdn 34 S_Zbm:=
  sound_fn (E:=E_Zbm) (A:=A_Zbm) (done:=[]) (c:=(Tryz.f34.body.getD .skip)) (S:=S_Zbm) (fn:=Tryz.f34) hmix Zbm_env Tryz.func34 rfl (by kernel_rfl) (by kernel_rfl) done_nil (by kernel_rfl) (by kernel_rfl) Zbm_eq
def Zbc:Option ((Unit) × (Bool × Unit)):=
 ((Zdc (7#64) (8#64) (⟨([97,46,101,120,97,109,112,108,101]:List UInt8),([117]:List UInt8),([]:List UInt8),3#64,(1:Int),false,(1:Int),false,false⟩:ApiCredential)).bind fun r1=>((Zbm (7#64) ([97,46,101,120,97,109,112,108,101]:List UInt8) r1.2.1).bind fun r2=>((Zbm (7#64) ([98,46,101,120,97,109,112,108,101]:List UInt8) r1.2.1).bind fun r3=>(bif (decide (r1.2.2.1=(0:Int))) then (bif (decide (r2.2.2.1=(0:Int))) then (bif (decide (r3.2.2.1=(14:Int))) then (let v4:Bool:=(decide (r2.2.1.rP=([97,46,101,120,97,109,112,108,101]:List UInt8)) && (decide (r2.2.1.user=([117]:List UInt8)) && (decide (r2.2.1.name=([]:List UInt8)) && (decide (r2.2.1.seed=3#64) && (decide (r2.2.1.height=(1:Int)) && ((r2.2.1.resident == false) && (decide (r2.2.1.protect=(1:Int)) && ((r2.2.1.shared == false) && ((r2.2.1.backed == false) && true)))))))))
 (bif v4 then (bif (decide (((r1.2.1).length:Int)=(176:Int))) then ((Zar (⟨([]:List UInt8),([]:List UInt8),([]:List UInt8),0#64,(0:Int),false,(0:Int),false,false⟩:ApiCredential)).bind fun r5=>(some ((),((decide (r5.2.1=(9:Int))),()))))
 else (some ((),(false,()))))
 else (some ((),(false,())))))
 else (some ((),(false,()))))
 else (some ((),(false,()))))
 else (some ((),(false,())))))))
def S_Zbc:FSpec T:=⟨[],[(.v .bool)],fun x=>Zbc ⟩
def E_Zbc:Env T:=⟨tab.find,cd,globs,flc,fun f ds=>match f with
    | 14=>some S_Zar
    | 25=>some S_Zdc
    | 34=>some S_Zbm
    | _=>none,fun f=>match f with
    | 14=>true
    | 34=>true
    | _=>false⟩
def A_Zbc:Loc2 T:=⟨fun id=>match id with
    | _=>none,fun r=>match r with
    | _=>none,fun r=>match r with
    | _=>false⟩
theorem Zbc_eq (x:tySs T S_Zbc.ps):run E_Zbc A_Zbc (Tryz.f9.body.getD .skip) (enterT E_Zbc.C S_Zbc.ps x) (retK E_Zbc Tryz.f9.results.toList S_Zbc.ps S_Zbc.rs)=S_Zbc.fn x:=by kernel_rfl
theorem Zbc_env:EnvOk Tryz.prog E_Zbc:=envOk (E:=E_Zbc) cd_ok tys fl_ok fun f ds S h=>by
    dsimp only [E_Zbc] at h
    split at h
    · cases h; exact Zar_ok
    · cases h; exact Zdc_ok
    · cases h; exact Zbm_ok
    · cases h
theorem Zbc_ok:SoundT Tryz.prog cd gdn 9 S_Zbc:=
  sound_fn (E:=E_Zbc) (A:=A_Zbc) (done:=[]) (c:=(Tryz.f9.body.getD .skip)) (S:=S_Zbc) (fn:=Tryz.f9) hmix Zbc_env Tryz.func9 rfl (by kernel_rfl) (by kernel_rfl) done_nil (by kernel_rfl) (by kernel_rfl) Zbc_eq
def Zcz (a0:Int):Option ((Unit) × ((List UInt8) × Unit)):=
 (let v1:List (List UInt8):=([([97,46,101,120,97,109,112,108,101]:List UInt8),([98,46,101,120,97,109,112,108,101]:List UInt8),([115,104,111,112,46,116,101,115,116]:List UInt8)]:List (List UInt8))
 (let v2:Int:=(IntKind.wrap .i64 ((BitVec.ofInt (IntKind.bits .i64) a0 &&& BitVec.ofInt (IntKind.bits .i64) (65535:Int)).toNat:Int))
 (bif (decide ((0:Int) ≤ (Int.tmod v2 (3:Int))) && decide ((Int.tmod v2 (3:Int)) < (3:Int))) then (((v1)[((Int.tmod v2 (3:Int))).toNat]?).bind fun x3=>(some ((),(x3,()))))
 else none)))
def S_Zcz:FSpec T:=⟨[.f (.v (.int .i64))],[(.v .str)],fun x=>Zcz x.1⟩
def E_Zcz:Env T:=⟨tab.find,cd,globs,flc,fun f ds=>match f with
    | _=>none,fun f=>match f with
    | _=>false⟩
def A_Zcz:Loc2 T:=⟨fun id=>match id with
    | _=>none,fun r=>match r with
    | _=>none,fun r=>match r with
    | _=>false⟩
theorem Zcz_eq (x:tySs T S_Zcz.ps):run E_Zcz A_Zcz (Tryz.f24.body.getD .skip) (enterT E_Zcz.C S_Zcz.ps x) (retK E_Zcz Tryz.f24.results.toList S_Zcz.ps S_Zcz.rs)=S_Zcz.fn x:=by kernel_rfl
theorem Zcz_env:EnvOk Tryz.prog E_Zcz:=envOk (E:=E_Zcz) cd_ok tys fl_ok fun f ds S h=>by cases h
theorem Zcz_ok:SoundT Tryz.prog cd gdn 24 S_Zcz:=
  sound_fn (E:=E_Zcz) (A:=A_Zcz) (done:=[]) (c:=(Tryz.f24.body.getD .skip)) (S:=S_Zcz) (fn:=Tryz.f24) hmix Zcz_env Tryz.func24 rfl (by kernel_rfl) (by kernel_rfl) done_nil (by kernel_rfl) (by kernel_rfl) Zcz_eq
def Zcd (a0:Int):Option ((Unit) × ((List UInt8) × Unit)):=
 (let v1:List (List UInt8):=([([117,49]:List UInt8),([117,50]:List UInt8),([0,255]:List UInt8)]:List (List UInt8))
 (let v2:Int:=(IntKind.wrap .i64 ((BitVec.ofInt (IntKind.bits .i64) a0 &&& BitVec.ofInt (IntKind.bits .i64) (65535:Int)).toNat:Int))
 (bif (decide ((0:Int) ≤ (Int.tmod v2 (3:Int))) && decide ((Int.tmod v2 (3:Int)) < (3:Int))) then (((v1)[((Int.tmod v2 (3:Int))).toNat]?).bind fun x3=>(some ((),(x3,()))))
 else none)))
def S_Zcd:FSpec T:=⟨[.f (.v (.int .i64))],[(.v .str)],fun x=>Zcd x.1⟩
def E_Zcd:Env T:=⟨tab.find,cd,globs,flc,fun f ds=>match f with
    | _=>none,fun f=>match f with
    | _=>false⟩
def A_Zcd:Loc2 T:=⟨fun id=>match id with
    | _=>none,fun r=>match r with
    | _=>none,fun r=>match r with
    | _=>false⟩
theorem Zcd_eq (x:tySs T S_Zcd.ps):run E_Zcd A_Zcd (Tryz.f35.body.getD .skip) (enterT E_Zcd.C S_Zcd.ps x) (retK E_Zcd Tryz.f35.results.toList S_Zcd.ps S_Zcd.rs)=S_Zcd.fn x:=by kernel_rfl
theorem Zcd_env:EnvOk Tryz.prog E_Zcd:=envOk (E:=E_Zcd) cd_ok tys fl_ok fun f ds S h=>by cases h
theorem Zcd_ok:SoundT Tryz.prog cd gdn 35 S_Zcd:=
  sound_fn (E:=E_Zcd) (A:=A_Zcd) (done:=[]) (c:=(Tryz.f35.body.getD .skip)) (S:=S_Zcd) (fn:=Tryz.f35) hmix Zcd_env Tryz.func35 rfl (by kernel_rfl) (by kernel_rfl) done_nil (by kernel_rfl) (by kernel_rfl) Zcd_eq
def Zcc (a0:Int):Option ((Unit) × ((List UInt8) × Unit)):=
 (let v1:List (List UInt8):=([([]:List UInt8),([97]:List UInt8),([98]:List UInt8),([108,111,103,105,110]:List UInt8),([107,101,121]:List UInt8),([101,120,97,109,112,108,101,46,111,114,103]:List UInt8),([195,169]:List UInt8),([48,49,50,51,52,53,54,55,56,57,48,49,50,51,52,53]:List UInt8)]:List (List UInt8))
 (let v2:Int:=(IntKind.wrap .i64 ((BitVec.ofInt (IntKind.bits .i64) a0 &&& BitVec.ofInt (IntKind.bits .i64) (7:Int)).toNat:Int))
 (bif (decide ((0:Int) ≤ v2) && decide (v2 < (8:Int))) then (((v1)[(v2).toNat]?).bind fun x3=>(let v4:Int:=(IntKind.wrap .i64 ((BitVec.ofInt (IntKind.bits .i64) (Int.fdiv a0 (2 ^ (min 3 (IntKind.bits .i64)))) &&& BitVec.ofInt (IntKind.bits .i64) (7:Int)).toNat:Int))
 (bif (decide ((0:Int) ≤ v4) && decide (v4 < (8:Int))) then (((v1)[(v4).toNat]?).bind fun x5=>(bif Nat.ble ((x3).length + (x5).length) 9223372036854775807 then (some ((),((x3 ++ x5),())))
 else none))
 else none)))
 else none)))
def S_Zcc:FSpec T:=⟨[.f (.v (.int .i64))],[(.v .str)],fun x=>Zcc x.1⟩
def E_Zcc:Env T:=⟨tab.find,cd,globs,flc,fun f ds=>match f with
    | _=>none,fun f=>match f with
    | _=>false⟩
def A_Zcc:Loc2 T:=⟨fun id=>match id with
    | _=>none,fun r=>match r with
    | _=>none,fun r=>match r with
    | _=>false⟩
theorem Zcc_eq (x:tySs T S_Zcc.ps):run E_Zcc A_Zcc (Tryz.f36.body.getD .skip) (enterT E_Zcc.C S_Zcc.ps x) (retK E_Zcc Tryz.f36.results.toList S_Zcc.ps S_Zcc.rs)=S_Zcc.fn x:=by kernel_rfl
theorem Zcc_env:EnvOk Tryz.prog E_Zcc:=envOk (E:=E_Zcc) cd_ok tys fl_ok fun f ds S h=>by cases h
theorem Zcc_ok:SoundT Tryz.prog cd gdn 36 S_Zcc:=
  sound_fn (E:=E_Zcc) (A:=A_Zcc) (done:=[]) (c:=(Tryz.f36.body.getD .skip)) (S:=S_Zcc) (fn:=Tryz.f36) hmix Zcc_env Tryz.func36 rfl (by kernel_rfl) (by kernel_rfl) done_nil (by kernel_rfl) (by kernel_rfl) Zcc_eq
def Zak (a0:Int):Option ((Unit) × (ApiCredential × Unit)):=
 ((Zcz a0).bind fun r1=>((Zcd (Int.fdiv a0 (2 ^ (min 2 (IntKind.bits .i64))))).bind fun r2=>((Zcc (Int.fdiv a0 (2 ^ (min 4 (IntKind.bits .i64))))).bind fun r3=>(let v4:Int:=(IntKind.wrap .i64 ((BitVec.ofInt (IntKind.bits .i64) (Int.fdiv a0 (2 ^ (min 3 (IntKind.bits .i64)))) &&& BitVec.ofInt (IntKind.bits .i64) (1:Int)).toNat:Int))
 (let v5:Int:=(Int.tmod (Int.fdiv a0 (2 ^ (min 5 (IntKind.bits .i64)))) (3:Int))
 (let v6:Int:=(IntKind.wrap .i64 ((BitVec.ofInt (IntKind.bits .i64) (Int.fdiv a0 (2 ^ (min 7 (IntKind.bits .i64)))) &&& BitVec.ofInt (IntKind.bits .i64) (1:Int)).toNat:Int))
 (bif (decide (v6=(1:Int))) then (let v7:Int:=(IntKind.wrap .i64 ((BitVec.ofInt (IntKind.bits .i64) (Int.fdiv a0 (2 ^ (min 8 (IntKind.bits .i64)))) &&& BitVec.ofInt (IntKind.bits .i64) (1:Int)).toNat:Int))
 (bif (decide (v7=(1:Int))) then (let v8:Int:=(IntKind.wrap .i64 ((BitVec.ofInt (IntKind.bits .i64) (Int.fdiv a0 (2 ^ (min 9 (IntKind.bits .i64)))) &&& BitVec.ofInt (IntKind.bits .i64) (1:Int)).toNat:Int))
 (some ((),((⟨r1.2.1,r2.2.1,r3.2.1,((BitVec.ofInt 64 a0) * 11400714819323198485#64),(IntKind.wrap .i64 ((1:Int) + v4)),(decide (v6=(1:Int))),(IntKind.wrap .i64 ((1:Int) + v5)),(decide (v7=(1:Int))),(decide (v8=(1:Int)))⟩:ApiCredential),()))))
 else (some ((),((⟨r1.2.1,r2.2.1,r3.2.1,((BitVec.ofInt 64 a0) * 11400714819323198485#64),(IntKind.wrap .i64 ((1:Int) + v4)),(decide (v6=(1:Int))),(IntKind.wrap .i64 ((1:Int) + v5)),(decide (v7=(1:Int))),false⟩:ApiCredential),())))))
 else (some ((),((⟨r1.2.1,r2.2.1,r3.2.1,((BitVec.ofInt 64 a0) * 11400714819323198485#64),(IntKind.wrap .i64 ((1:Int) + v4)),(decide (v6=(1:Int))),(IntKind.wrap .i64 ((1:Int) + v5)),false,false⟩:ApiCredential),()))))))))))
def S_Zak:FSpec T:=⟨[.f (.v (.int .i64))],[(.v (.agg 2))],fun x=>Zak x.1⟩
def E_Zak:Env T:=⟨tab.find,cd,globs,flc,fun f ds=>match f with
    | 24=>some S_Zcz
    | 35=>some S_Zcd
    | 36=>some S_Zcc
    | _=>none,fun f=>match f with
    | 24=>true
    | 35=>true
    | 36=>true
    | _=>false⟩
def A_Zak:Loc2 T:=⟨fun id=>match id with
    | _=>none,fun r=>match r with
    | _=>none,fun r=>match r with
    | _=>false⟩
theorem Zak_eq (x:tySs T S_Zak.ps):run E_Zak A_Zak (Tryz.f11.body.getD .skip) (enterT E_Zak.C S_Zak.ps x) (retK E_Zak Tryz.f11.results.toList S_Zak.ps S_Zak.rs)=S_Zak.fn x:=by kernel_rfl
theorem Zak_env:EnvOk Tryz.prog E_Zak:=envOk (E:=E_Zak) cd_ok tys fl_ok fun f ds S h=>by
    dsimp only [E_Zak] at h
    split at h
    · cases h; exact Zcz_ok
    · cases h; exact Zcd_ok
    · cases h; exact Zcc_ok
    · cases h
theorem Zak_ok:SoundT Tryz.prog cd gdn 11 S_Zak:=
  sound_fn (E:=E_Zak) (A:=A_Zak) (done:=[]) (c:=(Tryz.f11.body.getD .skip)) (S:=S_Zak) (fn:=Tryz.f11) hmix Zak_env Tryz.func11 rfl (by kernel_rfl) (by kernel_rfl) done_nil (by kernel_rfl) (by kernel_rfl) Zak_eq
def Zax (a0:Int) (a1:Int) (a2:Int):Option ((Unit) × (Bool × Unit)):=
 (bif (decide (a1 ≤ a0)) then (some ((),((decide (a0 ≤ a2)),())))
 else (some ((),(false,()))))
def S_Zax:FSpec T:=⟨[.f (.v (.int .i64)),.f (.v (.int .i64)),.f (.v (.int .i64))],[(.v .bool)],fun x=>Zax x.1 x.2.1 x.2.2.1⟩
def E_Zax:Env T:=⟨tab.find,cd,globs,flc,fun f ds=>match f with
    | _=>none,fun f=>match f with
    | _=>false⟩
def A_Zax:Loc2 T:=⟨fun id=>match id with
    | _=>none,fun r=>match r with
    | _=>none,fun r=>match r with
    | _=>false⟩
theorem Zax_eq (x:tySs T S_Zax.ps):run E_Zax A_Zax (Tryz.f50.body.getD .skip) (enterT E_Zax.C S_Zax.ps x) (retK E_Zax Tryz.f50.results.toList S_Zax.ps S_Zax.rs)=S_Zax.fn x:=by kernel_rfl
theorem Zax_env:EnvOk Tryz.prog E_Zax:=envOk (E:=E_Zax) cd_ok tys fl_ok fun f ds S h=>by cases h
theorem Zax_ok:SoundT Tryz.prog cd gdn 50 S_Zax:=
  sound_fn (E:=E_Zax) (A:=A_Zax) (done:=[]) (c:=(Tryz.f50.body.getD .skip)) (S:=S_Zax) (fn:=Tryz.f50) hmix Zax_env Tryz.func50 rfl (by kernel_rfl) (by kernel_rfl) done_nil (by kernel_rfl) (by kernel_rfl) Zax_eq
def Zaa (a0:ApiCredential):Option ((Unit) × (Int × Unit)):=
 ((Zax ((a0.rP).length:Int) (1:Int) (64:Int)).bind fun r1=>(bif (!r1.2.1) then (some ((),((9:Int),())))
 else ((Zax ((a0.user).length:Int) (1:Int) (16:Int)).bind fun r2=>(bif (!r2.2.1) then (some ((),((9:Int),())))
 else (bif (decide ((32:Int) < ((a0.name).length:Int))) then (some ((),((9:Int),())))
 else ((Zax a0.height (1:Int) (4:Int)).bind fun r3=>(bif (!r3.2.1) then (some ((),((9:Int),())))
 else ((Zax a0.protect (1:Int) (3:Int)).bind fun r4=>(bif (!r4.2.1) then (some ((),((9:Int),())))
 else ((Zcl a0.rP).bind fun r5=>(bif (!r5.2.1) then (some ((),((6:Int),())))
 else ((Zcl a0.name).bind fun r6=>(bif (!r6.2.1) then (some ((),((6:Int),())))
 else (bif a0.shared then (bif (!a0.resident) then (some ((),((18:Int),())))
 else (bif a0.backed then (bif (!a0.shared) then (some ((),((18:Int),())))
 else (some ((),((0:Int),()))))
 else (some ((),((0:Int),())))))
 else (bif a0.backed then (bif (!a0.shared) then (some ((),((18:Int),())))
 else (some ((),((0:Int),()))))
 else (some ((),((0:Int),()))))))))))))))))))
def S_Zaa:FSpec T:=⟨[.f (.v (.agg 2))],[(.v (.int .i64))],fun x=>Zaa x.1⟩
def E_Zaa:Env T:=⟨tab.find,cd,globs,flc,fun f ds=>match f with
    | 49=>some S_Zcl
    | 50=>some S_Zax
    | _=>none,fun f=>match f with
    | 49=>true
    | 50=>true
    | _=>false⟩
def A_Zaa:Loc2 T:=⟨fun id=>match id with
    | _=>none,fun r=>match r with
    | _=>none,fun r=>match r with
    | _=>false⟩
theorem Zaa_eq (x:tySs T S_Zaa.ps):run E_Zaa A_Zaa (Tryz.f15.body.getD .skip) (enterT E_Zaa.C S_Zaa.ps x) (retK E_Zaa Tryz.f15.results.toList S_Zaa.ps S_Zaa.rs)=S_Zaa.fn x:=by kernel_rfl
theorem Zaa_env:EnvOk Tryz.prog E_Zaa:=envOk (E:=E_Zaa) cd_ok tys fl_ok fun f ds S h=>by
    dsimp only [E_Zaa] at h
    split at h
    · cases h; exact Zcl_ok
    · cases h; exact Zax_ok
    · cases h
theorem Zaa_ok:SoundT Tryz.prog cd gdn 15 S_Zaa:=
  sound_fn (E:=E_Zaa) (A:=A_Zaa) (done:=[]) (c:=(Tryz.f15.body.getD .skip)) (S:=S_Zaa) (fn:=Tryz.f15) hmix Zaa_env Tryz.func15 rfl (by kernel_rfl) (by kernel_rfl) done_nil (by kernel_rfl) (by kernel_rfl) Zaa_eq
def Zbq (a0:(List UInt8)):Option ((Unit) × (ApiItem × Unit)):=
 (some ((),((⟨(4:Int),0#64,a0⟩:ApiItem),())))
def S_Zbq:FSpec T:=⟨[.f (.v .str)],[(.v (.agg 1))],fun x=>Zbq x.1⟩
def E_Zbq:Env T:=⟨tab.find,cd,globs,flc,fun f ds=>match f with
    | _=>none,fun f=>match f with
    | _=>false⟩
def A_Zbq:Loc2 T:=⟨fun id=>match id with
    | _=>none,fun r=>match r with
    | _=>none,fun r=>match r with
    | _=>false⟩
theorem Zbq_eq (x:tySs T S_Zbq.ps):run E_Zbq A_Zbq (Tryz.f43.body.getD .skip) (enterT E_Zbq.C S_Zbq.ps x) (retK E_Zbq Tryz.f43.results.toList S_Zbq.ps S_Zbq.rs)=S_Zbq.fn x:=by kernel_rfl
theorem Zbq_env:EnvOk Tryz.prog E_Zbq:=envOk (E:=E_Zbq) cd_ok tys fl_ok fun f ds S h=>by cases h
theorem Zbq_ok:SoundT Tryz.prog cd gdn 43 S_Zbq:=
  sound_fn (E:=E_Zbq) (A:=A_Zbq) (done:=[]) (c:=(Tryz.f43.body.getD .skip)) (S:=S_Zbq) (fn:=Tryz.f43) hmix Zbq_env Tryz.func43 rfl (by kernel_rfl) (by kernel_rfl) done_nil (by kernel_rfl) (by kernel_rfl) Zbq_eq
def Zbo (a0:(List UInt8)):Option ((Unit) × (ApiItem × Unit)):=
 (some ((),((⟨(3:Int),0#64,a0⟩:ApiItem),())))
def S_Zbo:FSpec T:=⟨[.f (.v .str)],[(.v (.agg 1))],fun x=>Zbo x.1⟩
def E_Zbo:Env T:=⟨tab.find,cd,globs,flc,fun f ds=>match f with
    | _=>none,fun f=>match f with
    | _=>false⟩
def A_Zbo:Loc2 T:=⟨fun id=>match id with
    | _=>none,fun r=>match r with
    | _=>none,fun r=>match r with
    | _=>false⟩
theorem Zbo_eq (x:tySs T S_Zbo.ps):run E_Zbo A_Zbo (Tryz.f44.body.getD .skip) (enterT E_Zbo.C S_Zbo.ps x) (retK E_Zbo Tryz.f44.results.toList S_Zbo.ps S_Zbo.rs)=S_Zbo.fn x:=by kernel_rfl
theorem Zbo_env:EnvOk Tryz.prog E_Zbo:=envOk (E:=E_Zbo) cd_ok tys fl_ok fun f ds S h=>by cases h
theorem Zbo_ok:SoundT Tryz.prog cd gdn 44 S_Zbo:=
  sound_fn (E:=E_Zbo) (A:=A_Zbo) (done:=[]) (c:=(Tryz.f44.body.getD .skip)) (S:=S_Zbo) (fn:=Tryz.f44) hmix Zbo_env Tryz.func44 rfl (by kernel_rfl) (by kernel_rfl) done_nil (by kernel_rfl) (by kernel_rfl) Zbo_eq
def Zaw (a0:(BitVec 64)):Option ((Unit) × (ApiItem × Unit)):=
 (some ((),((⟨(1:Int),a0,([]:List UInt8)⟩:ApiItem),())))
def S_Zaw:FSpec T:=⟨[.f (.v .u64)],[(.v (.agg 1))],fun x=>Zaw x.1⟩
def E_Zaw:Env T:=⟨tab.find,cd,globs,flc,fun f ds=>match f with
    | _=>none,fun f=>match f with
    | _=>false⟩
def A_Zaw:Loc2 T:=⟨fun id=>match id with
    | _=>none,fun r=>match r with
    | _=>none,fun r=>match r with
    | _=>false⟩
theorem Zaw_eq (x:tySs T S_Zaw.ps):run E_Zaw A_Zaw (Tryz.f45.body.getD .skip) (enterT E_Zaw.C S_Zaw.ps x) (retK E_Zaw Tryz.f45.results.toList S_Zaw.ps S_Zaw.rs)=S_Zaw.fn x:=by kernel_rfl
theorem Zaw_env:EnvOk Tryz.prog E_Zaw:=envOk (E:=E_Zaw) cd_ok tys fl_ok fun f ds S h=>by cases h
theorem Zaw_ok:SoundT Tryz.prog cd gdn 45 S_Zaw:=
  sound_fn (E:=E_Zaw) (A:=A_Zaw) (done:=[]) (c:=(Tryz.f45.body.getD .skip)) (S:=S_Zaw) (fn:=Tryz.f45) hmix Zaw_env Tryz.func45 rfl (by kernel_rfl) (by kernel_rfl) done_nil (by kernel_rfl) (by kernel_rfl) Zaw_eq
def Zan (a0:Bool):Option ((Unit) × (ApiItem × Unit)):=
 (bif a0 then (some ((),((⟨(7:Int),1#64,([]:List UInt8)⟩:ApiItem),())))
 else (some ((),((⟨(7:Int),0#64,([]:List UInt8)⟩:ApiItem),()))))
def S_Zan:FSpec T:=⟨[.f (.v .bool)],[(.v (.agg 1))],fun x=>Zan x.1⟩
def E_Zan:Env T:=⟨tab.find,cd,globs,flc,fun f ds=>match f with
    | _=>none,fun f=>match f with
    | _=>false⟩
def A_Zan:Loc2 T:=⟨fun id=>match id with
    | _=>none,fun r=>match r with
    | _=>none,fun r=>match r with
    | _=>false⟩
theorem Zan_eq (x:tySs T S_Zan.ps):run E_Zan A_Zan (Tryz.f46.body.getD .skip) (enterT E_Zan.C S_Zan.ps x) (retK E_Zan Tryz.f46.results.toList S_Zan.ps S_Zan.rs)=S_Zan.fn x:=by kernel_rfl
theorem Zan_env:EnvOk Tryz.prog E_Zan:=envOk (E:=E_Zan) cd_ok tys fl_ok fun f ds S h=>by cases h
theorem Zan_ok:SoundT Tryz.prog cd gdn 46 S_Zan:=
  sound_fn (E:=E_Zan) (A:=A_Zan) (done:=[]) (c:=(Tryz.f46.body.getD .skip)) (S:=S_Zan) (fn:=Tryz.f46) hmix Zan_env Tryz.func46 rfl (by kernel_rfl) (by kernel_rfl) done_nil (by kernel_rfl) (by kernel_rfl) Zan_eq
def Zbh (a0:Int) (a1:Int) (a2:Int):Option ((Unit) × (Bool × Unit)):=
 (bif (decide (a1 ≤ a0)) then (some ((),((decide (a0 ≤ a2)),())))
 else (some ((),(false,()))))
def S_Zbh:FSpec T:=⟨[.f (.v (.int .i64)),.f (.v (.int .i64)),.f (.v (.int .i64))],[(.v .bool)],fun x=>Zbh x.1 x.2.1 x.2.2.1⟩
def E_Zbh:Env T:=⟨tab.find,cd,globs,flc,fun f ds=>match f with
    | _=>none,fun f=>match f with
    | _=>false⟩
def A_Zbh:Loc2 T:=⟨fun id=>match id with
    | _=>none,fun r=>match r with
    | _=>none,fun r=>match r with
    | _=>false⟩
theorem Zbh_eq (x:tySs T S_Zbh.ps):run E_Zbh A_Zbh (Tryz.f168.body.getD .skip) (enterT E_Zbh.C S_Zbh.ps x) (retK E_Zbh Tryz.f168.results.toList S_Zbh.ps S_Zbh.rs)=S_Zbh.fn x:=by kernel_rfl
theorem Zbh_env:EnvOk Tryz.prog E_Zbh:=envOk (E:=E_Zbh) cd_ok tys fl_ok fun f ds S h=>by cases h
theorem Zbh_ok:SoundT Tryz.prog cd gdn 168 S_Zbh:=
  sound_fn (E:=E_Zbh) (A:=A_Zbh) (done:=[]) (c:=(Tryz.f168.body.getD .skip)) (S:=S_Zbh) (fn:=Tryz.f168) hmix Zbh_env Tryz.func168 rfl (by kernel_rfl) (by kernel_rfl) done_nil (by kernel_rfl) (by kernel_rfl) Zbh_eq
def Zbt (a0:Int):Option ((Unit) × (Bool × Unit)):=
 (bif (decide (a0=(1:Int))) then (some ((),(true,())))
 else (bif (decide (a0=(2:Int))) then (some ((),(true,())))
 else (some ((),((decide (a0=(4:Int))),())))))
def S_Zbt:FSpec T:=⟨[.f (.v (.int .i64))],[(.v .bool)],fun x=>Zbt x.1⟩
def E_Zbt:Env T:=⟨tab.find,cd,globs,flc,fun f ds=>match f with
    | _=>none,fun f=>match f with
    | _=>false⟩
def A_Zbt:Loc2 T:=⟨fun id=>match id with
    | _=>none,fun r=>match r with
    | _=>none,fun r=>match r with
    | _=>false⟩
theorem Zbt_eq (x:tySs T S_Zbt.ps):run E_Zbt A_Zbt (Tryz.f169.body.getD .skip) (enterT E_Zbt.C S_Zbt.ps x) (retK E_Zbt Tryz.f169.results.toList S_Zbt.ps S_Zbt.rs)=S_Zbt.fn x:=by kernel_rfl
theorem Zbt_env:EnvOk Tryz.prog E_Zbt:=envOk (E:=E_Zbt) cd_ok tys fl_ok fun f ds S h=>by cases h
theorem Zbt_ok:SoundT Tryz.prog cd gdn 169 S_Zbt:=
  sound_fn (E:=E_Zbt) (A:=A_Zbt) (done:=[]) (c:=(Tryz.f169.body.getD .skip)) (S:=S_Zbt) (fn:=Tryz.f169) hmix Zbt_env Tryz.func169 rfl (by kernel_rfl) (by kernel_rfl) done_nil (by kernel_rfl) (by kernel_rfl) Zbt_eq
def passkeyref1_Words_L2b (y0:(List (BitVec 64))) (y1:(List (UInt8))) (y2:Int) (y3:Int):Option (((List (BitVec 64)) × (List (UInt8)) × Int × Int × Unit) ⊕ ((List (BitVec 64)) × (List (UInt8)) × Int × Unit)):=
 (bif (decide ((0:Int) ≤ y3)) then ((getI y0 y2).bind fun x1=>(let v2:BitVec 64:=(x1 >>> (BitVec.ofInt 64 (IntKind.wrap .i64 ((8:Int) * y3))).toNat)
 (bif small ((y1).length + (([(UInt8.ofBitVec (BitVec.setWidth 8 v2))]:List (UInt8)):List (UInt8)).length) 1 then (let v3:List (UInt8):=(y1 ++ ([(UInt8.ofBitVec (BitVec.setWidth 8 v2))]:List (UInt8)))
 (some (Sum.inl (y0,v3,y2,(IntKind.wrap .i64 (y3 - (1:Int))),()))))
 else none)))
 else (some (Sum.inr (y0,y1,y2,()))))
def passkeyref1_Words_L2 (y:((List (BitVec 64)) × (List (UInt8)) × Int × Int × Unit)):Option ((List (BitVec 64)) × (List (UInt8)) × Int × Unit):=iter (fun (y:((List (BitVec 64)) × (List (UInt8)) × Int × Int × Unit))=>passkeyref1_Words_L2b y.1 y.2.1 y.2.2.1 y.2.2.2.1) rounds y
def passkeyref1_Words_L0b (y0:(List (BitVec 64))) (y1:(List (UInt8))) (y2:Int):Option (((List (BitVec 64)) × (List (UInt8)) × Int × Unit) ⊕ ((List (UInt8)) × Unit)):=
 (bif (decide (y2 < ((y0).length:Int))) then ((passkeyref1_Words_L2 (y0,y1,y2,(7:Int),())).bind (fun (z1:((List (BitVec 64)) × (List (UInt8)) × Int × Unit))=>(some (Sum.inl (z1.1,z1.2.1,(IntKind.wrap .i64 (z1.2.2.1 + (1:Int))),())))))
 else (some (Sum.inr (y1,()))))
def passkeyref1_Words_L0 (y:((List (BitVec 64)) × (List (UInt8)) × Int × Unit)):Option ((List (UInt8)) × Unit):=iter (fun (y:((List (BitVec 64)) × (List (UInt8)) × Int × Unit))=>passkeyref1_Words_L0b y.1 y.2.1 y.2.2.1) rounds y
def passkeyref1_Words (a0:(List (BitVec 64))):Option ((Unit) × ((List (UInt8)) × Unit)):=
 ((passkeyref1_Words_L0 (a0,[],(0:Int),())).bind (fun (z2:((List (UInt8)) × Unit))=>(some ((),(z2.1,())))))
def S_passkeyref1_Words:FSpec T:=⟨[.f (.v (.rs 3))],[(.own 0)],fun x=>passkeyref1_Words x.1⟩
def E_passkeyref1_Words:Env T:=⟨tab.find,cd,globs,flc,fun f ds=>match f with
    | _=>none,fun f=>match f with
    | _=>false⟩
def A_passkeyref1_Words:Loc2 T:=⟨fun id=>match id with
    | 2=>some ⟨[(0,.f (.v (.rs 3))),(3,.f (.own 0)),(4,.f (.v (.int .i64))),(5,.f (.v (.int .i64)))],[(.exit 2,[(0,.f (.v (.rs 3))),(3,.f (.own 0)),(4,.f (.v (.int .i64)))])],passkeyref1_Words_L2,[]⟩
    | 0=>some ⟨[(0,.f (.v (.rs 3))),(3,.f (.own 0)),(4,.f (.v (.int .i64)))],[(.exit 0,[(3,.f (.own 0))])],passkeyref1_Words_L0,[]⟩
    | _=>none,fun r=>match r with
    | _=>none,fun r=>match r with
    | _=>false⟩
theorem passkeyref1_Words_L2_eq (y0:(List (BitVec 64))) (y1:(List (UInt8))) (y2:Int) (y3:Int):run E_passkeyref1_Words A_passkeyref1_Words (loopAt 2 (Tryz.f21.body.getD .skip)) (layC cd [(0,.f (.v (.rs 3))),(3,.f (.own 0)),(4,.f (.v (.int .i64))),(5,.f (.v (.int .i64)))] [] (y0,y1,y2,y3,())) (roundK cd [(0,.f (.v (.rs 3))),(3,.f (.own 0)),(4,.f (.v (.int .i64))),(5,.f (.v (.int .i64)))] [] [(.exit 2,[(0,.f (.v (.rs 3))),(3,.f (.own 0)),(4,.f (.v (.int .i64)))])])=passkeyref1_Words_L2b y0 y1 y2 y3:=by kernel_rfl
theorem passkeyref1_Words_L0_eq (y0:(List (BitVec 64))) (y1:(List (UInt8))) (y2:Int):run E_passkeyref1_Words A_passkeyref1_Words (loopAt 0 (Tryz.f21.body.getD .skip)) (layC cd [(0,.f (.v (.rs 3))),(3,.f (.own 0)),(4,.f (.v (.int .i64)))] [] (y0,y1,y2,())) (roundK cd [(0,.f (.v (.rs 3))),(3,.f (.own 0)),(4,.f (.v (.int .i64)))] [] [(.exit 0,[(3,.f (.own 0))])])=passkeyref1_Words_L0b y0 y1 y2:=by kernel_rfl
theorem passkeyref1_Words_eq (x:tySs T S_passkeyref1_Words.ps):run E_passkeyref1_Words A_passkeyref1_Words (Tryz.f21.body.getD .skip) (enterT E_passkeyref1_Words.C S_passkeyref1_Words.ps x) (retK E_passkeyref1_Words Tryz.f21.results.toList S_passkeyref1_Words.ps S_passkeyref1_Words.rs)=S_passkeyref1_Words.fn x:=by kernel_rfl
theorem passkeyref1_Words_env:EnvOk Tryz.prog E_passkeyref1_Words:=envOk (E:=E_passkeyref1_Words) cd_ok tys fl_ok fun f ds S h=>by cases h
theorem passkeyref1_Words_L2_ok:LoopOk Tryz.prog E_passkeyref1_Words Tryz.f21.ntmps (kqOf S_passkeyref1_Words.ps 0) (loopAt 2 (Tryz.f21.body.getD .skip)) ⟨[(0,.f (.v (.rs 3))),(3,.f (.own 0)),(4,.f (.v (.int .i64))),(5,.f (.v (.int .i64)))],[(.exit 2,[(0,.f (.v (.rs 3))),(3,.f (.own 0)),(4,.f (.v (.int .i64)))])],passkeyref1_Words_L2,[]⟩:=
  loop_ok (A:=A_passkeyref1_Words) (done:=[]) (c0:=(Tryz.f21.body.getD .skip)) hmix passkeyref1_Words_env done_nil rounds (by kernel_rfl) (by kernel_rfl) (fun x=>passkeyref1_Words_L2_eq x.1 x.2.1 x.2.2.1 x.2.2.2.1) (fun _=>rfl)
theorem passkeyref1_Words_L0_ok:LoopOk Tryz.prog E_passkeyref1_Words Tryz.f21.ntmps (kqOf S_passkeyref1_Words.ps 0) (loopAt 0 (Tryz.f21.body.getD .skip)) ⟨[(0,.f (.v (.rs 3))),(3,.f (.own 0)),(4,.f (.v (.int .i64)))],[(.exit 0,[(3,.f (.own 0))])],passkeyref1_Words_L0,[]⟩:=
  loop_ok (A:=A_passkeyref1_Words) (done:=[2]) (c0:=(Tryz.f21.body.getD .skip)) hmix passkeyref1_Words_env (done_cons rfl passkeyref1_Words_L2_ok done_nil) rounds (by kernel_rfl) (by kernel_rfl) (fun x=>passkeyref1_Words_L0_eq x.1 x.2.1 x.2.2.1) (fun _=>rfl)
theorem passkeyref1_Words_ok:SoundT Tryz.prog cd gdn 21 S_passkeyref1_Words:=
  sound_fn (E:=E_passkeyref1_Words) (A:=A_passkeyref1_Words) (done:=[2,0]) (c:=(Tryz.f21.body.getD .skip)) (S:=S_passkeyref1_Words) (fn:=Tryz.f21) hmix passkeyref1_Words_env Tryz.func21 rfl (by kernel_rfl) (by kernel_rfl) (done_cons rfl passkeyref1_Words_L2_ok (done_cons rfl passkeyref1_Words_L0_ok done_nil)) (by kernel_rfl) (by kernel_rfl) passkeyref1_Words_eq
def Zcf (a0:ApiItem):Option ((Unit) × ((List (UInt8)) × Unit)):=
 ((bif (decide (a0.kind=(7:Int))) then (let v1:UInt8:=(UInt8.ofBitVec ((244:UInt8).toBitVec + (UInt8.ofBitVec (BitVec.setWidth 8 a0.number)).toBitVec))
 (((some ((),(([v1]:List (UInt8)),())))).bind fun q=>some (Sum.inr q)))
 else (bif (decide (a0.kind=(8:Int))) then (((some ((),(([(246:UInt8)]:List (UInt8)),())))).bind fun q=>some (Sum.inr q))
 else (bif (decide (a0.kind=(2:Int))) then (some (Sum.inl (a0.number,(32:UInt8),())))
 else (bif (decide (a0.kind=(3:Int))) then (some (Sum.inl ((BitVec.ofInt 64 ((a0.data).length:Int)),(64:UInt8),())))
 else (bif (decide (a0.kind=(4:Int))) then (some (Sum.inl ((BitVec.ofInt 64 ((a0.data).length:Int)),(96:UInt8),())))
 else (bif (decide (a0.kind=(5:Int))) then (some (Sum.inl (a0.number,(128:UInt8),())))
 else (bif (decide (a0.kind=(6:Int))) then (some (Sum.inl (a0.number,(160:UInt8),())))
 else (some (Sum.inl (a0.number,(0:UInt8),())))))))))).bind (Sum.elim (fun (j2:((BitVec 64) × UInt8 × Unit))=>(bif (decide (j2.1.toNat < (24#64).toNat)) then (let v3:UInt8:=(UInt8.ofBitVec (j2.2.1.toBitVec + (UInt8.ofBitVec (BitVec.setWidth 8 j2.1)).toBitVec))
 (some ((),(([v3]:List (UInt8)),()))))
 else (bif (decide (j2.1.toNat < (256#64).toNat)) then (let v4:List (UInt8):=([(UInt8.ofBitVec (j2.2.1.toBitVec + (24:UInt8).toBitVec)),(UInt8.ofBitVec (BitVec.setWidth 8 j2.1))]:List (UInt8))
 (some ((),(v4,()))))
 else (bif (decide (j2.1.toNat < (65536#64).toNat)) then (let v5:List (UInt8):=([(UInt8.ofBitVec (j2.2.1.toBitVec + (25:UInt8).toBitVec)),(UInt8.ofBitVec (BitVec.setWidth 8 (j2.1 >>> 8))),(UInt8.ofBitVec (BitVec.setWidth 8 j2.1))]:List (UInt8))
 (some ((),(v5,()))))
 else (bif (decide (j2.1.toNat < (4294967296#64).toNat)) then (let v6:List (UInt8):=([(UInt8.ofBitVec (j2.2.1.toBitVec + (26:UInt8).toBitVec)),(UInt8.ofBitVec (BitVec.setWidth 8 (j2.1 >>> 24))),(UInt8.ofBitVec (BitVec.setWidth 8 (j2.1 >>> 16))),(UInt8.ofBitVec (BitVec.setWidth 8 (j2.1 >>> 8))),(UInt8.ofBitVec (BitVec.setWidth 8 j2.1))]:List (UInt8))
 (some ((),(v6,()))))
 else (let v7:List (UInt8):=([(UInt8.ofBitVec (j2.2.1.toBitVec + (27:UInt8).toBitVec))]:List (UInt8))
 ((passkeyref1_Words ([j2.1]:List (BitVec 64))).bind fun r8=>(bif small ((v7).length + (r8.2.1:List (UInt8)).length) 1 then (some ((),((v7 ++ r8.2.1),())))
 else none)))))))) some))
def S_Zcf:FSpec T:=⟨[.f (.v (.agg 1))],[(.own 0)],fun x=>Zcf x.1⟩
def E_Zcf:Env T:=⟨tab.find,cd,globs,flc,fun f ds=>match f with
    | 21=>some S_passkeyref1_Words
    | _=>none,fun f=>match f with
    | _=>false⟩
def A_Zcf:Loc2 T:=⟨fun id=>match id with
    | _=>none,fun r=>match r with
    | 18=>some ([(3,.f (.v .u64)),(4,.f (.v .u8))],false)
    | _=>none,fun r=>match r with
    | _=>false⟩
theorem Zcf_eq (x:tySs T S_Zcf.ps):run E_Zcf A_Zcf (Tryz.f113.body.getD .skip) (enterT E_Zcf.C S_Zcf.ps x) (retK E_Zcf Tryz.f113.results.toList S_Zcf.ps S_Zcf.rs)=S_Zcf.fn x:=by kernel_rfl
theorem Zcf_env:EnvOk Tryz.prog E_Zcf:=envOk (E:=E_Zcf) cd_ok tys fl_ok fun f ds S h=>by
    dsimp only [E_Zcf] at h
    split at h
    · cases h; exact passkeyref1_Words_ok
    · cases h
theorem Zcf_ok:SoundT Tryz.prog cd gdn 113 S_Zcf:=
  sound_fn (E:=E_Zcf) (A:=A_Zcf) (done:=[]) (c:=(Tryz.f113.body.getD .skip)) (S:=S_Zcf) (fn:=Tryz.f113) hmix Zcf_env Tryz.func113 rfl (by kernel_rfl) (by kernel_rfl) done_nil (by kernel_rfl) (by kernel_rfl) Zcf_eq
def Zbr (a0:ApiItem):Option ((Unit) × ((List UInt8) × Unit)):=
 ((Zcf a0).bind fun r1=>(bif Nat.ble ((r1.2.1).length + (a0.data).length) 9223372036854775807 then (some ((),((r1.2.1 ++ a0.data),())))
 else none))
def S_Zbr:FSpec T:=⟨[.f (.v (.agg 1))],[(.v .str)],fun x=>Zbr x.1⟩
def E_Zbr:Env T:=⟨tab.find,cd,globs,flc,fun f ds=>match f with
    | 113=>some S_Zcf
    | _=>none,fun f=>match f with
    | _=>false⟩
def A_Zbr:Loc2 T:=⟨fun id=>match id with
    | _=>none,fun r=>match r with
    | _=>none,fun r=>match r with
    | 1=>true
    | _=>false⟩
theorem Zbr_eq (x:tySs T S_Zbr.ps):run E_Zbr A_Zbr (Tryz.f81.body.getD .skip) (enterT E_Zbr.C S_Zbr.ps x) (retK E_Zbr Tryz.f81.results.toList S_Zbr.ps S_Zbr.rs)=S_Zbr.fn x:=by kernel_rfl
theorem Zbr_env:EnvOk Tryz.prog E_Zbr:=envOk (E:=E_Zbr) cd_ok tys fl_ok fun f ds S h=>by
    dsimp only [E_Zbr] at h
    split at h
    · cases h; exact Zcf_ok
    · cases h
theorem Zbr_ok:SoundT Tryz.prog cd gdn 81 S_Zbr:=
  sound_fn (E:=E_Zbr) (A:=A_Zbr) (done:=[]) (c:=(Tryz.f81.body.getD .skip)) (S:=S_Zbr) (fn:=Tryz.f81) hmix Zbr_env Tryz.func81 rfl (by kernel_rfl) (by kernel_rfl) done_nil (by kernel_rfl) (by kernel_rfl) Zbr_eq
def Zch (a0:(List UInt8)) (a1:(List UInt8)):Option ((Unit) × (Bool × Unit)):=
 (bif (!decide (((a0).length:Int)=((a1).length:Int))) then (some ((),((decide (((a0).length:Int) < ((a1).length:Int))),())))
 else (some ((),((Op.bytesLess a0 a1),()))))
def S_Zch:FSpec T:=⟨[.f (.v .str),.f (.v .str)],[(.v .bool)],fun x=>Zch x.1 x.2.1⟩
def E_Zch:Env T:=⟨tab.find,cd,globs,flc,fun f ds=>match f with
    | _=>none,fun f=>match f with
    | _=>false⟩
def A_Zch:Loc2 T:=⟨fun id=>match id with
    | _=>none,fun r=>match r with
    | _=>none,fun r=>match r with
    | _=>false⟩
theorem Zch_eq (x:tySs T S_Zch.ps):run E_Zch A_Zch (Tryz.f170.body.getD .skip) (enterT E_Zch.C S_Zch.ps x) (retK E_Zch Tryz.f170.results.toList S_Zch.ps S_Zch.rs)=S_Zch.fn x:=by kernel_rfl
theorem Zch_env:EnvOk Tryz.prog E_Zch:=envOk (E:=E_Zch) cd_ok tys fl_ok fun f ds S h=>by cases h
theorem Zch_ok:SoundT Tryz.prog cd gdn 170 S_Zch:=
  sound_fn (E:=E_Zch) (A:=A_Zch) (done:=[]) (c:=(Tryz.f170.body.getD .skip)) (S:=S_Zch) (fn:=Tryz.f170) hmix Zch_env Tryz.func170 rfl (by kernel_rfl) (by kernel_rfl) done_nil (by kernel_rfl) (by kernel_rfl) Zch_eq
def Zbs (a0:ApiItem) (a1:Int) (a2:Int) (a3:Bool) (a4:(List UInt8)):Option ((Unit) × (Int × Unit)):=
 ((bif (decide (a0.kind=(3:Int))) then (some (a1,a2,a3,a4,(a0,()),true,()))
 else (some (a1,a2,a3,a4,(a0,()),(decide (a0.kind=(4:Int))),()))).bind (fun (j1:(Int × Int × Bool × (List UInt8) × (ApiItem × Unit) × Bool × Unit))=>((bif (decide (j1.2.2.2.2.1.1.kind=(5:Int))) then (some (j1.1,j1.2.1,j1.2.2.1,j1.2.2.2.1,(j1.2.2.2.2.1.1,()),j1.2.2.2.2.2.1,true,()))
 else (some (j1.1,j1.2.1,j1.2.2.1,j1.2.2.2.1,(j1.2.2.2.2.1.1,()),j1.2.2.2.2.2.1,(decide (j1.2.2.2.2.1.1.kind=(6:Int))),()))).bind (fun (j2:(Int × Int × Bool × (List UInt8) × (ApiItem × Unit) × Bool × Bool × Unit))=>(bif (decide ((512:Int) ≤ j2.1)) then (some ((),((8:Int),())))
 else (((Zbh j2.2.2.2.2.1.1.kind (1:Int) (8:Int)).bind fun r3=>(bif (!r3.2.1) then (some (j2.2.1,j2.2.2.1,j2.2.2.2.1,(j2.2.2.2.2.1.1,()),j2.2.2.2.2.2.1,j2.2.2.2.2.2.2.1,true,()))
 else (bif j2.2.2.1 then ((Zbt j2.2.2.2.2.1.1.kind).bind fun r4=>(some (j2.2.1,j2.2.2.1,j2.2.2.2.1,(j2.2.2.2.2.1.1,()),j2.2.2.2.2.2.1,j2.2.2.2.2.2.2.1,(!r4.2.1),())))
 else (some (j2.2.1,j2.2.2.1,j2.2.2.2.1,(j2.2.2.2.2.1.1,()),j2.2.2.2.2.2.1,j2.2.2.2.2.2.2.1,false,()))))).bind (fun (j5:(Int × Bool × (List UInt8) × (ApiItem × Unit) × Bool × Bool × Bool × Unit))=>(bif j5.2.2.2.2.2.2.1 then (some ((),((3:Int),())))
 else (bif (decide ((8:Int) < j5.1)) then (some ((),((5:Int),())))
 else ((bif j5.2.2.2.2.1 then (bif (!decide (j5.2.2.2.1.1.number=0#64)) then (some (j5.2.1,j5.2.2.1,(j5.2.2.2.1.1,()),j5.2.2.2.2.2.1,true,()))
 else (bif (decide (j5.2.2.2.1.1.kind=(7:Int))) then (bif (decide ((1#64).toNat < j5.2.2.2.1.1.number.toNat)) then (some (j5.2.1,j5.2.2.1,(j5.2.2.2.1.1,()),j5.2.2.2.2.2.1,true,()))
 else (bif (!j5.2.2.2.2.1) then (some (j5.2.1,j5.2.2.1,(j5.2.2.2.1.1,()),j5.2.2.2.2.2.1,(!decide (j5.2.2.2.1.1.data=([]:List UInt8))),()))
 else (some (j5.2.1,j5.2.2.1,(j5.2.2.2.1.1,()),j5.2.2.2.2.2.1,false,()))))
 else (bif (!j5.2.2.2.2.1) then (some (j5.2.1,j5.2.2.1,(j5.2.2.2.1.1,()),j5.2.2.2.2.2.1,(!decide (j5.2.2.2.1.1.data=([]:List UInt8))),()))
 else (some (j5.2.1,j5.2.2.1,(j5.2.2.2.1.1,()),j5.2.2.2.2.2.1,false,())))))
 else (bif (decide (j5.2.2.2.1.1.kind=(8:Int))) then (bif (!decide (j5.2.2.2.1.1.number=0#64)) then (some (j5.2.1,j5.2.2.1,(j5.2.2.2.1.1,()),j5.2.2.2.2.2.1,true,()))
 else (bif (decide (j5.2.2.2.1.1.kind=(7:Int))) then (bif (decide ((1#64).toNat < j5.2.2.2.1.1.number.toNat)) then (some (j5.2.1,j5.2.2.1,(j5.2.2.2.1.1,()),j5.2.2.2.2.2.1,true,()))
 else (bif (!j5.2.2.2.2.1) then (some (j5.2.1,j5.2.2.1,(j5.2.2.2.1.1,()),j5.2.2.2.2.2.1,(!decide (j5.2.2.2.1.1.data=([]:List UInt8))),()))
 else (some (j5.2.1,j5.2.2.1,(j5.2.2.2.1.1,()),j5.2.2.2.2.2.1,false,()))))
 else (bif (!j5.2.2.2.2.1) then (some (j5.2.1,j5.2.2.1,(j5.2.2.2.1.1,()),j5.2.2.2.2.2.1,(!decide (j5.2.2.2.1.1.data=([]:List UInt8))),()))
 else (some (j5.2.1,j5.2.2.1,(j5.2.2.2.1.1,()),j5.2.2.2.2.2.1,false,())))))
 else (bif (decide (j5.2.2.2.1.1.kind=(7:Int))) then (bif (decide ((1#64).toNat < j5.2.2.2.1.1.number.toNat)) then (some (j5.2.1,j5.2.2.1,(j5.2.2.2.1.1,()),j5.2.2.2.2.2.1,true,()))
 else (bif (!j5.2.2.2.2.1) then (some (j5.2.1,j5.2.2.1,(j5.2.2.2.1.1,()),j5.2.2.2.2.2.1,(!decide (j5.2.2.2.1.1.data=([]:List UInt8))),()))
 else (some (j5.2.1,j5.2.2.1,(j5.2.2.2.1.1,()),j5.2.2.2.2.2.1,false,()))))
 else (bif (!j5.2.2.2.2.1) then (some (j5.2.1,j5.2.2.1,(j5.2.2.2.1.1,()),j5.2.2.2.2.2.1,(!decide (j5.2.2.2.1.1.data=([]:List UInt8))),()))
 else (some (j5.2.1,j5.2.2.1,(j5.2.2.2.1.1,()),j5.2.2.2.2.2.1,false,())))))).bind (fun (j6:(Bool × (List UInt8) × (ApiItem × Unit) × Bool × Bool × Unit))=>(bif j6.2.2.2.2.1 then (some ((),((4:Int),())))
 else ((bif (decide ((1024:Int) < ((j6.2.2.1.1.data).length:Int))) then (some (j6.1,j6.2.1,(j6.2.2.1.1,()),true,()))
 else (bif j6.2.2.2.1 then (some (j6.1,j6.2.1,(j6.2.2.1.1,()),(decide ((512#64).toNat < j6.2.2.1.1.number.toNat)),()))
 else (some (j6.1,j6.2.1,(j6.2.2.1.1,()),false,())))).bind (fun (j7:(Bool × (List UInt8) × (ApiItem × Unit) × Bool × Unit))=>(bif j7.2.2.2.1 then (some ((),((8:Int),())))
 else ((bif (decide (j7.2.2.1.1.kind=(4:Int))) then ((Zcl j7.2.2.1.1.data).bind fun r8=>(some (j7.1,j7.2.1,(j7.2.2.1.1,()),(!r8.2.1),())))
 else (some (j7.1,j7.2.1,(j7.2.2.1.1,()),false,()))).bind (fun (j9:(Bool × (List UInt8) × (ApiItem × Unit) × Bool × Unit))=>(bif j9.2.2.2.1 then (some ((),((6:Int),())))
 else ((bif j9.1 then (bif (!decide (j9.2.1=([]:List UInt8))) then ((Zbr j9.2.2.1.1).bind fun r10=>((Zch j9.2.1 r10.2.1).bind fun r11=>(some ((!r11.2.1),()))))
 else (some (false,())))
 else (some (false,()))).bind (fun (j12:(Bool × Unit))=>(bif j12.1 then (some ((),((7:Int),())))
 else (some ((),((0:Int),()))))))))))))))))))))))))
def S_Zbs:FSpec T:=⟨[.f (.v (.agg 1)),.f (.v (.int .i64)),.f (.v (.int .i64)),.f (.v .bool),.f (.v .str)],[(.v (.int .i64))],fun x=>Zbs x.1 x.2.1 x.2.2.1 x.2.2.2.1 x.2.2.2.2.1⟩
def E_Zbs:Env T:=⟨tab.find,cd,globs,flc,fun f ds=>match f with
    | 49=>some S_Zcl
    | 81=>some S_Zbr
    | 168=>some S_Zbh
    | 169=>some S_Zbt
    | 170=>some S_Zch
    | _=>none,fun f=>match f with
    | 49=>true
    | 81=>true
    | 168=>true
    | 169=>true
    | 170=>true
    | _=>false⟩
def A_Zbs:Loc2 T:=⟨fun id=>match id with
    | _=>none,fun r=>match r with
    | 2=>some ([(1,.f (.v (.int .i64))),(2,.f (.v (.int .i64))),(3,.f (.v .bool)),(4,.f (.v .str)),(5,.ptr [(.v (.agg 1))]),(11,.f (.v .bool))],true)
    | 3=>some ([(1,.f (.v (.int .i64))),(2,.f (.v (.int .i64))),(3,.f (.v .bool)),(4,.f (.v .str)),(5,.ptr [(.v (.agg 1))]),(11,.f (.v .bool)),(12,.f (.v .bool))],true)
    | 6=>some ([(2,.f (.v (.int .i64))),(3,.f (.v .bool)),(4,.f (.v .str)),(5,.ptr [(.v (.agg 1))]),(11,.f (.v .bool)),(12,.f (.v .bool)),(32,.f (.v .bool))],true)
    | 10=>some ([(3,.f (.v .bool)),(4,.f (.v .str)),(5,.ptr [(.v (.agg 1))]),(12,.f (.v .bool)),(49,.f (.v .bool))],true)
    | 12=>some ([(3,.f (.v .bool)),(4,.f (.v .str)),(5,.ptr [(.v (.agg 1))]),(80,.f (.v .bool))],true)
    | 14=>some ([(3,.f (.v .bool)),(4,.f (.v .str)),(5,.ptr [(.v (.agg 1))]),(93,.f (.v .bool))],true)
    | 16=>some ([(103,.f (.v .bool))],true)
    | _=>none,fun r=>match r with
    | _=>false⟩
theorem Zbs_eq (x:tySs T S_Zbs.ps):run E_Zbs A_Zbs (Tryz.f147.body.getD .skip) (enterT E_Zbs.C S_Zbs.ps x) (retK E_Zbs Tryz.f147.results.toList S_Zbs.ps S_Zbs.rs)=S_Zbs.fn x:=by kernel_rfl
theorem Zbs_env:EnvOk Tryz.prog E_Zbs:=envOk (E:=E_Zbs) cd_ok tys fl_ok fun f ds S h=>by
    dsimp only [E_Zbs] at h
    split at h
    · cases h; exact Zcl_ok
    · cases h; exact Zbr_ok
    · cases h; exact Zbh_ok
    · cases h; exact Zbt_ok
    · cases h; exact Zch_ok
    · cases h
theorem Zbs_ok:SoundT Tryz.prog cd gdn 147 S_Zbs:=
  sound_fn (E:=E_Zbs) (A:=A_Zbs) (done:=[]) (c:=(Tryz.f147.body.getD .skip)) (S:=S_Zbs) (fn:=Tryz.f147) hmix Zbs_env Tryz.func147 rfl (by kernel_rfl) (by kernel_rfl) done_nil (by kernel_rfl) (by kernel_rfl) Zbs_eq
def passkeyref1_walk_L0b (k_rec:(List (ApiItem)) → Int → Int → Bool → (List UInt8) → Option ((Unit) × (Int × Int × Unit))) (y0:(List (ApiItem))) (y1:Int) (y2:(ApiItem × Unit)) (y3:Int) (y4:(List UInt8)) (y5:(BitVec 64)):Option (((List (ApiItem)) × Int × (ApiItem × Unit) × Int × (List UInt8) × (BitVec 64) × Unit) ⊕ ((Int × Int × Unit) ⊕ (Int × Unit))):=
 (bif (decide (y5.toNat < y2.1.number.toNat)) then (bif (decide (y2.1.kind=(5:Int))) then ((bif (decide (y2.1.kind=(6:Int))) then ((k_rec y0 y3 (IntKind.wrap .i64 (y1 + (1:Int))) true y4).bind fun r3=>(bif (!decide (r3.2.2.1=(0:Int))) then (((some (Sum.inr (Sum.inl (r3.2.1,r3.2.2.1,()))))).bind fun q=>some (Sum.inr q))
 else ((getI y0 y3).bind fun x4=>((Zbr x4).bind fun r5=>(some (Sum.inl (y0,y1,(y2.1,()),r3.2.1,r5.2.1,y5,())))))))
 else (some (Sum.inl (y0,y1,(y2.1,()),y3,y4,y5,())))).bind (Sum.elim (fun (j6:((List (ApiItem)) × Int × (ApiItem × Unit) × Int × (List UInt8) × (BitVec 64) × Unit))=>((k_rec j6.1 j6.2.2.2.1 (IntKind.wrap .i64 (j6.2.1 + (1:Int))) false ([]:List UInt8)).bind fun r7=>(bif (!decide (r7.2.2.1=(0:Int))) then (some (Sum.inr (Sum.inl (r7.2.1,r7.2.2.1,()))))
 else (some (Sum.inl (j6.1,j6.2.1,(j6.2.2.1.1,()),r7.2.1,j6.2.2.2.2.1,(j6.2.2.2.2.2.1 + 1#64),())))))) some))
 else (bif (decide (y2.1.kind=(6:Int))) then ((bif (decide (y2.1.kind=(6:Int))) then ((k_rec y0 y3 (IntKind.wrap .i64 (y1 + (1:Int))) true y4).bind fun r8=>(bif (!decide (r8.2.2.1=(0:Int))) then (((some (Sum.inr (Sum.inl (r8.2.1,r8.2.2.1,()))))).bind fun q=>some (Sum.inr q))
 else ((getI y0 y3).bind fun x9=>((Zbr x9).bind fun r10=>(some (Sum.inl (y0,y1,(y2.1,()),r8.2.1,r10.2.1,y5,())))))))
 else (some (Sum.inl (y0,y1,(y2.1,()),y3,y4,y5,())))).bind (Sum.elim (fun (j11:((List (ApiItem)) × Int × (ApiItem × Unit) × Int × (List UInt8) × (BitVec 64) × Unit))=>((k_rec j11.1 j11.2.2.2.1 (IntKind.wrap .i64 (j11.2.1 + (1:Int))) false ([]:List UInt8)).bind fun r12=>(bif (!decide (r12.2.2.1=(0:Int))) then (some (Sum.inr (Sum.inl (r12.2.1,r12.2.2.1,()))))
 else (some (Sum.inl (j11.1,j11.2.1,(j11.2.2.1.1,()),r12.2.1,j11.2.2.2.2.1,(j11.2.2.2.2.2.1 + 1#64),())))))) some))
 else (some (Sum.inr (Sum.inr (y3,()))))))
 else (some (Sum.inr (Sum.inr (y3,())))))
def passkeyref1_walk_L0 (k_rec:(List (ApiItem)) → Int → Int → Bool → (List UInt8) → Option ((Unit) × (Int × Int × Unit))) (y:((List (ApiItem)) × Int × (ApiItem × Unit) × Int × (List UInt8) × (BitVec 64) × Unit)):Option ((Int × Int × Unit) ⊕ (Int × Unit)):=iter (fun (y:((List (ApiItem)) × Int × (ApiItem × Unit) × Int × (List UInt8) × (BitVec 64) × Unit))=>passkeyref1_walk_L0b k_rec y.1 y.2.1 y.2.2.1 y.2.2.2.1 y.2.2.2.2.1 y.2.2.2.2.2.1) rounds y
def passkeyref1_walk_R (k_rec:(List (ApiItem)) → Int → Int → Bool → (List UInt8) → Option ((Unit) × (Int × Int × Unit))) (a0:(List (ApiItem))) (a1:Int) (a2:Int) (a3:Bool) (a4:(List UInt8)):Option ((Unit) × (Int × Int × Unit)):=
 (bif (decide (((a0).length:Int) ≤ a1)) then (some ((),(a1,(1:Int),())))
 else ((getI a0 a1).bind fun x1=>((Zbs x1 a1 a2 a3 a4).bind fun r2=>(bif (!decide (r2.2.1=(0:Int))) then (some ((),(a1,r2.2.1,())))
 else ((passkeyref1_walk_L0 k_rec (a0,a2,(x1,()),(IntKind.wrap .i64 (a1 + (1:Int))),([]:List UInt8),0#64,())).bind (Sum.elim (fun (z13:(Int × Int × Unit))=>(some ((),(z13.1,z13.2.1,())))) (fun (z14:(Int × Unit))=>(some ((),(z14.1,(0:Int),()))))))))))
abbrev ps_passkeyref1_walk:List Slot:=[.f (.v (.rs 1)),.f (.v (.int .i64)),.f (.v (.int .i64)),.f (.v .bool),.f (.v .str)]
abbrev rs_passkeyref1_walk:List Fld:=[(.v (.int .i64)),(.v (.int .i64))]
def E_passkeyref1_walk (k_rec:(List (ApiItem)) → Int → Int → Bool → (List UInt8) → Option ((Unit) × (Int × Int × Unit))):Env T:=⟨tab.find,cd,globs,flc,fun f ds=>match f with
    | 81=>some S_Zbr
    | 112=>some ⟨ps_passkeyref1_walk,rs_passkeyref1_walk,fun x=>k_rec x.1 x.2.1 x.2.2.1 x.2.2.2.1 x.2.2.2.2.1⟩
    | 147=>some S_Zbs
    | _=>none,fun f=>match f with
    | 81=>true
    | 112=>true
    | 147=>true
    | _=>false⟩
def A_passkeyref1_walk (k_rec:(List (ApiItem)) → Int → Int → Bool → (List UInt8) → Option ((Unit) × (Int × Int × Unit))):Loc2 T:=⟨fun id=>match id with
    | 0=>some ⟨[(0,.f (.v (.rs 1))),(2,.f (.v (.int .i64))),(12,.ptr [(.v (.agg 1))]),(14,.f (.v (.int .i64))),(15,.f (.v .str)),(16,.f (.v .u64))],[(.ret,[(10,.f (.v (.int .i64))),(11,.f (.v (.int .i64)))]),(.exit 0,[(14,.f (.v (.int .i64)))])],passkeyref1_walk_L0 k_rec,[]⟩
    | _=>none,fun r=>match r with
    | 19=>some ([(0,.f (.v (.rs 1))),(2,.f (.v (.int .i64))),(12,.ptr [(.v (.agg 1))]),(14,.f (.v (.int .i64))),(15,.f (.v .str)),(16,.f (.v .u64))],false)
    | _=>none,fun r=>match r with
    | _=>false⟩
theorem passkeyref1_walk_L0_eq (k_rec:(List (ApiItem)) → Int → Int → Bool → (List UInt8) → Option ((Unit) × (Int × Int × Unit))) (y0:(List (ApiItem))) (y1:Int) (y2:(ApiItem × Unit)) (y3:Int) (y4:(List UInt8)) (y5:(BitVec 64)):run (E_passkeyref1_walk k_rec) (A_passkeyref1_walk k_rec) (loopAt 0 (Tryz.f112.body.getD .skip)) (layC cd [(0,.f (.v (.rs 1))),(2,.f (.v (.int .i64))),(12,.ptr [(.v (.agg 1))]),(14,.f (.v (.int .i64))),(15,.f (.v .str)),(16,.f (.v .u64))] [] (y0,y1,y2,y3,y4,y5,())) (roundK cd [(0,.f (.v (.rs 1))),(2,.f (.v (.int .i64))),(12,.ptr [(.v (.agg 1))]),(14,.f (.v (.int .i64))),(15,.f (.v .str)),(16,.f (.v .u64))] [] [(.ret,[(10,.f (.v (.int .i64))),(11,.f (.v (.int .i64)))]),(.exit 0,[(14,.f (.v (.int .i64)))])])=passkeyref1_walk_L0b k_rec y0 y1 y2 y3 y4 y5:=by kernel_rfl
theorem passkeyref1_walk_eqR (k_rec:(List (ApiItem)) → Int → Int → Bool → (List UInt8) → Option ((Unit) × (Int × Int × Unit))) (x:tySs T ps_passkeyref1_walk):run (E_passkeyref1_walk k_rec) (A_passkeyref1_walk k_rec) (Tryz.f112.body.getD .skip) (enterT (E_passkeyref1_walk k_rec).C ps_passkeyref1_walk x) (retK (E_passkeyref1_walk k_rec) Tryz.f112.results.toList ps_passkeyref1_walk rs_passkeyref1_walk)=passkeyref1_walk_R k_rec x.1 x.2.1 x.2.2.1 x.2.2.2.1 x.2.2.2.2.1:=by kernel_rfl
def passkeyref1_walk_n:Nat → (List (ApiItem)) → Int → Int → Bool → (List UInt8) → Option ((Unit) × (Int × Int × Unit))
  | 0=>fun _ _ _ _ _=>none
  | n + 1=>passkeyref1_walk_R (passkeyref1_walk_n n)
def passkeyref1_walk (a0:(List (ApiItem))) (a1:Int) (a2:Int) (a3:Bool) (a4:(List UInt8)):=passkeyref1_walk_n 12 a0 a1 a2 a3 a4
def S_passkeyref1_walk:FSpec T:=⟨ps_passkeyref1_walk,rs_passkeyref1_walk,fun x=>passkeyref1_walk x.1 x.2.1 x.2.2.1 x.2.2.2.1 x.2.2.2.2.1⟩
theorem passkeyref1_walk_env (k_rec:(List (ApiItem)) → Int → Int → Bool → (List UInt8) → Option ((Unit) × (Int × Int × Unit))) (hk:SoundT Tryz.prog cd gdn 112 ⟨ps_passkeyref1_walk,rs_passkeyref1_walk,fun x=>k_rec x.1 x.2.1 x.2.2.1 x.2.2.2.1 x.2.2.2.2.1⟩):EnvOk Tryz.prog (E_passkeyref1_walk k_rec):=envOk (E:=(E_passkeyref1_walk k_rec)) cd_ok tys fl_ok fun f ds S h=>by
    dsimp only [E_passkeyref1_walk] at h
    split at h
    · cases h; exact Zbr_ok
    · cases h; exact hk
    · cases h; exact Zbs_ok
    · cases h
theorem passkeyref1_walk_L0_ok (k_rec:(List (ApiItem)) → Int → Int → Bool → (List UInt8) → Option ((Unit) × (Int × Int × Unit))) (hk:SoundT Tryz.prog cd gdn 112 ⟨ps_passkeyref1_walk,rs_passkeyref1_walk,fun x=>k_rec x.1 x.2.1 x.2.2.1 x.2.2.2.1 x.2.2.2.2.1⟩):LoopOk Tryz.prog (E_passkeyref1_walk k_rec) Tryz.f112.ntmps (kqOf ps_passkeyref1_walk 0) (loopAt 0 (Tryz.f112.body.getD .skip)) ⟨[(0,.f (.v (.rs 1))),(2,.f (.v (.int .i64))),(12,.ptr [(.v (.agg 1))]),(14,.f (.v (.int .i64))),(15,.f (.v .str)),(16,.f (.v .u64))],[(.ret,[(10,.f (.v (.int .i64))),(11,.f (.v (.int .i64)))]),(.exit 0,[(14,.f (.v (.int .i64)))])],passkeyref1_walk_L0 k_rec,[]⟩:=
  loop_ok (A:=(A_passkeyref1_walk k_rec)) (done:=[]) (c0:=(Tryz.f112.body.getD .skip)) hmix (passkeyref1_walk_env k_rec hk) done_nil rounds (by kernel_rfl) (by kernel_rfl) (fun x=>passkeyref1_walk_L0_eq k_rec x.1 x.2.1 x.2.2.1 x.2.2.2.1 x.2.2.2.2.1 x.2.2.2.2.2.1) (fun _=>rfl)
theorem passkeyref1_walk_okn:∀ n:Nat,SoundT Tryz.prog cd gdn 112 ⟨ps_passkeyref1_walk,rs_passkeyref1_walk,fun x=>passkeyref1_walk_n n x.1 x.2.1 x.2.2.1 x.2.2.2.1 x.2.2.2.2.1⟩
  | 0=>sound_none ⟨_,Tryz.func112,by kernel_rfl,by kernel_rfl⟩
  | n + 1=>sound_fn (E:=E_passkeyref1_walk (passkeyref1_walk_n n)) (A:=A_passkeyref1_walk (passkeyref1_walk_n n)) (done:=[0]) (c:=(Tryz.f112.body.getD .skip)) (S:=⟨ps_passkeyref1_walk,rs_passkeyref1_walk,fun x=>passkeyref1_walk_n (n + 1) x.1 x.2.1 x.2.2.1 x.2.2.2.1 x.2.2.2.2.1⟩) (fn:=Tryz.f112) hmix (passkeyref1_walk_env _ (passkeyref1_walk_okn n)) Tryz.func112 rfl (by kernel_rfl) (by kernel_rfl) (done_cons rfl (passkeyref1_walk_L0_ok _ (passkeyref1_walk_okn n)) done_nil) (by kernel_rfl) (by kernel_rfl) (passkeyref1_walk_eqR (passkeyref1_walk_n n))
theorem passkeyref1_walk_ok:SoundT Tryz.prog cd gdn 112 S_passkeyref1_walk:=passkeyref1_walk_okn 12
def Zap (a0:(List (ApiItem))):Option ((Unit) × (Int × Unit)):=
 ((passkeyref1_walk a0 (0:Int) (0:Int) false ([]:List UInt8)).bind fun r1=>(bif (!decide (r1.2.2.1=(0:Int))) then (some ((),(r1.2.2.1,())))
 else (bif (decide (r1.2.1 < ((a0).length:Int))) then (some ((),((2:Int),())))
 else (some ((),((0:Int),()))))))
def S_Zap:FSpec T:=⟨[.f (.v (.rs 1))],[(.v (.int .i64))],fun x=>Zap x.1⟩
def E_Zap:Env T:=⟨tab.find,cd,globs,flc,fun f ds=>match f with
    | 112=>some S_passkeyref1_walk
    | _=>none,fun f=>match f with
    | 112=>true
    | _=>false⟩
def A_Zap:Loc2 T:=⟨fun id=>match id with
    | _=>none,fun r=>match r with
    | _=>none,fun r=>match r with
    | _=>false⟩
theorem Zap_eq (x:tySs T S_Zap.ps):run E_Zap A_Zap (Tryz.f80.body.getD .skip) (enterT E_Zap.C S_Zap.ps x) (retK E_Zap Tryz.f80.results.toList S_Zap.ps S_Zap.rs)=S_Zap.fn x:=by kernel_rfl
theorem Zap_env:EnvOk Tryz.prog E_Zap:=envOk (E:=E_Zap) cd_ok tys fl_ok fun f ds S h=>by
    dsimp only [E_Zap] at h
    split at h
    · cases h; exact passkeyref1_walk_ok
    · cases h
theorem Zap_ok:SoundT Tryz.prog cd gdn 80 S_Zap:=
  sound_fn (E:=E_Zap) (A:=A_Zap) (done:=[]) (c:=(Tryz.f80.body.getD .skip)) (S:=S_Zap) (fn:=Tryz.f80) hmix Zap_env Tryz.func80 rfl (by kernel_rfl) (by kernel_rfl) done_nil (by kernel_rfl) (by kernel_rfl) Zap_eq
def Zbg_L0b (y0:(List (ApiItem))) (y1:(List (UInt8))) (y2:Int):Option (((List (ApiItem)) × (List (UInt8)) × Int × Unit) ⊕ ((List (UInt8)) × Unit)):=
 (bif (decide (y2 < ((y0).length:Int))) then ((getI y0 y2).bind fun x2=>((Zbr x2).bind fun r3=>(bif small ((y1).length + (r3.2.1:List (UInt8)).length) 1 then (some (Sum.inl (y0,(y1 ++ r3.2.1),(IntKind.wrap .i64 (y2 + (1:Int))),())))
 else none)))
 else (some (Sum.inr (y1,()))))
def Zbg_L0 (y:((List (ApiItem)) × (List (UInt8)) × Int × Unit)):Option ((List (UInt8)) × Unit):=iter (fun (y:((List (ApiItem)) × (List (UInt8)) × Int × Unit))=>Zbg_L0b y.1 y.2.1 y.2.2.1) rounds y
def Zbg (a0:(List (ApiItem))):Option ((Unit) × ((List (UInt8)) × Int × Unit)):=
 ((Zap a0).bind fun r1=>(bif (!decide (r1.2.1=(0:Int))) then (some ((),([],r1.2.1,())))
 else ((Zbg_L0 (a0,[],(0:Int),())).bind (fun (z4:((List (UInt8)) × Unit))=>(some ((),(z4.1,(0:Int),())))))))
def S_Zbg:FSpec T:=⟨[.f (.v (.rs 1))],[(.own 0),(.v (.int .i64))],fun x=>Zbg x.1⟩
def E_Zbg:Env T:=⟨tab.find,cd,globs,flc,fun f ds=>match f with
    | 80=>some S_Zap
    | 81=>some S_Zbr
    | _=>none,fun f=>match f with
    | 80=>true
    | 81=>true
    | _=>false⟩
def A_Zbg:Loc2 T:=⟨fun id=>match id with
    | 0=>some ⟨[(0,.f (.v (.rs 1))),(5,.f (.own 0)),(6,.f (.v (.int .i64)))],[(.exit 0,[(5,.f (.own 0))])],Zbg_L0,[]⟩
    | _=>none,fun r=>match r with
    | _=>none,fun r=>match r with
    | _=>false⟩
theorem Zbg_L0_eq (y0:(List (ApiItem))) (y1:(List (UInt8))) (y2:Int):run E_Zbg A_Zbg (loopAt 0 (Tryz.f47.body.getD .skip)) (layC cd [(0,.f (.v (.rs 1))),(5,.f (.own 0)),(6,.f (.v (.int .i64)))] [] (y0,y1,y2,())) (roundK cd [(0,.f (.v (.rs 1))),(5,.f (.own 0)),(6,.f (.v (.int .i64)))] [] [(.exit 0,[(5,.f (.own 0))])])=Zbg_L0b y0 y1 y2:=by kernel_rfl
theorem Zbg_eq (x:tySs T S_Zbg.ps):run E_Zbg A_Zbg (Tryz.f47.body.getD .skip) (enterT E_Zbg.C S_Zbg.ps x) (retK E_Zbg Tryz.f47.results.toList S_Zbg.ps S_Zbg.rs)=S_Zbg.fn x:=by kernel_rfl
theorem Zbg_env:EnvOk Tryz.prog E_Zbg:=envOk (E:=E_Zbg) cd_ok tys fl_ok fun f ds S h=>by
    dsimp only [E_Zbg] at h
    split at h
    · cases h; exact Zap_ok
    · cases h; exact Zbr_ok
    · cases h
theorem Zbg_L0_ok:LoopOk Tryz.prog E_Zbg Tryz.f47.ntmps (kqOf S_Zbg.ps 0) (loopAt 0 (Tryz.f47.body.getD .skip)) ⟨[(0,.f (.v (.rs 1))),(5,.f (.own 0)),(6,.f (.v (.int .i64)))],[(.exit 0,[(5,.f (.own 0))])],Zbg_L0,[]⟩:=
  loop_ok (A:=A_Zbg) (done:=[]) (c0:=(Tryz.f47.body.getD .skip)) hmix Zbg_env done_nil rounds (by kernel_rfl) (by kernel_rfl) (fun x=>Zbg_L0_eq x.1 x.2.1 x.2.2.1) (fun _=>rfl)
theorem Zbg_ok:SoundT Tryz.prog cd gdn 47 S_Zbg:=
  sound_fn (E:=E_Zbg) (A:=A_Zbg) (done:=[0]) (c:=(Tryz.f47.body.getD .skip)) (S:=S_Zbg) (fn:=Tryz.f47) hmix Zbg_env Tryz.func47 rfl (by kernel_rfl) (by kernel_rfl) (done_cons rfl Zbg_L0_ok done_nil) (by kernel_rfl) (by kernel_rfl) Zbg_eq
def Zad_L0b (y0:(List (ApiItem))) (y1:(List (ApiItem))) (y2:Int):Option (((List (ApiItem)) × (List (ApiItem)) × Int × Unit) ⊕ ((List (ApiItem)) × Unit)):=
 (bif (decide (y2 < ((y0).length:Int))) then ((Zaw (BitVec.ofInt 64 (IntKind.wrap .i64 (y2 + (1:Int))))).bind fun r13=>(bif (decide ((0:Int) ≤ y2) && decide (y2 < ((y0).length:Int))) then (((y0)[(y2).toNat]?).bind fun x14=>(bif small ((y1).length + (([r13.2.1,x14]:List (ApiItem)):List (ApiItem)).length) 32 then (let v15:List (ApiItem):=(y1 ++ ([r13.2.1,x14]:List (ApiItem)))
 (some (Sum.inl (y0,v15,(IntKind.wrap .i64 (y2 + (1:Int))),()))))
 else none))
 else none))
 else (some (Sum.inr (y1,()))))
def Zad_L0 (y:((List (ApiItem)) × (List (ApiItem)) × Int × Unit)):Option ((List (ApiItem)) × Unit):=iter (fun (y:((List (ApiItem)) × (List (ApiItem)) × Int × Unit))=>Zad_L0b y.1 y.2.1 y.2.2.1) rounds y
def Zad (a0:ApiCredential):Option ((Unit) × ((List (UInt8)) × Int × Unit)):=
 ((Zaa a0).bind fun r1=>(bif (!decide (r1.2.1=(0:Int))) then (some ((),([],r1.2.1,())))
 else ((Zbq a0.rP).bind fun r2=>((Zbo a0.user).bind fun r3=>((Zbq a0.name).bind fun r4=>((Zaw a0.seed).bind fun r5=>((Zaw (BitVec.ofInt 64 a0.height)).bind fun r6=>((Zan a0.resident).bind fun r7=>((Zaw (BitVec.ofInt 64 a0.protect)).bind fun r8=>((Zan a0.shared).bind fun r9=>((Zan a0.backed).bind fun r10=>(let v11:List (ApiItem):=([r2.2.1,r3.2.1,r4.2.1,r5.2.1,r6.2.1,r7.2.1,r8.2.1,r9.2.1,r10.2.1]:List (ApiItem))
 (let v12:List (ApiItem):=([(⟨(6:Int),9#64,([]:List UInt8)⟩:ApiItem)]:List (ApiItem))
 ((Zad_L0 (v11,v12,(0:Int),())).bind (fun (z16:((List (ApiItem)) × Unit))=>((Zbg z16.1).bind fun r17=>(some ((),(r17.2.1,r17.2.2.1,())))))))))))))))))))
def S_Zad:FSpec T:=⟨[.f (.v (.agg 2))],[(.own 0),(.v (.int .i64))],fun x=>Zad x.1⟩
def E_Zad:Env T:=⟨tab.find,cd,globs,flc,fun f ds=>match f with
    | 15=>some S_Zaa
    | 43=>some S_Zbq
    | 44=>some S_Zbo
    | 45=>some S_Zaw
    | 46=>some S_Zan
    | 47=>some S_Zbg
    | _=>none,fun f=>match f with
    | 15=>true
    | 43=>true
    | 44=>true
    | 45=>true
    | 46=>true
    | _=>false⟩
def A_Zad:Loc2 T:=⟨fun id=>match id with
    | 0=>some ⟨[(5,.f (.own 1)),(6,.f (.own 1)),(7,.f (.v (.int .i64)))],[(.exit 0,[(6,.f (.own 1))])],Zad_L0,[]⟩
    | _=>none,fun r=>match r with
    | _=>none,fun r=>match r with
    | _=>false⟩
theorem Zad_L0_eq (y0:(List (ApiItem))) (y1:(List (ApiItem))) (y2:Int):run E_Zad A_Zad (loopAt 0 (Tryz.f13.body.getD .skip)) (layC cd [(5,.f (.own 1)),(6,.f (.own 1)),(7,.f (.v (.int .i64)))] [] (y0,y1,y2,())) (roundK cd [(5,.f (.own 1)),(6,.f (.own 1)),(7,.f (.v (.int .i64)))] [] [(.exit 0,[(6,.f (.own 1))])])=Zad_L0b y0 y1 y2:=by kernel_rfl
theorem Zad_eq (x:tySs T S_Zad.ps):run E_Zad A_Zad (Tryz.f13.body.getD .skip) (enterT E_Zad.C S_Zad.ps x) (retK E_Zad Tryz.f13.results.toList S_Zad.ps S_Zad.rs)=S_Zad.fn x:=by kernel_rfl
theorem Zad_env:EnvOk Tryz.prog E_Zad:=envOk (E:=E_Zad) cd_ok tys fl_ok fun f ds S h=>by
    dsimp only [E_Zad] at h
    split at h
    · cases h; exact Zaa_ok
    · cases h; exact Zbq_ok
    · cases h; exact Zbo_ok
    · cases h; exact Zaw_ok
    · cases h; exact Zan_ok
    · cases h; exact Zbg_ok
    · cases h
theorem Zad_L0_ok:LoopOk Tryz.prog E_Zad Tryz.f13.ntmps (kqOf S_Zad.ps 0) (loopAt 0 (Tryz.f13.body.getD .skip)) ⟨[(5,.f (.own 1)),(6,.f (.own 1)),(7,.f (.v (.int .i64)))],[(.exit 0,[(6,.f (.own 1))])],Zad_L0,[]⟩:=
  loop_ok (A:=A_Zad) (done:=[]) (c0:=(Tryz.f13.body.getD .skip)) hmix Zad_env done_nil rounds (by kernel_rfl) (by kernel_rfl) (fun x=>Zad_L0_eq x.1 x.2.1 x.2.2.1) (fun _=>rfl)
theorem Zad_ok:SoundT Tryz.prog cd gdn 13 S_Zad:=
  sound_fn (E:=E_Zad) (A:=A_Zad) (done:=[0]) (c:=(Tryz.f13.body.getD .skip)) (S:=S_Zad) (fn:=Tryz.f13) hmix Zad_env Tryz.func13 rfl (by kernel_rfl) (by kernel_rfl) (done_cons rfl Zad_L0_ok done_nil) (by kernel_rfl) (by kernel_rfl) Zad_eq
def Zaf_L1b (y0:((List UInt8) × Int × (List (ApiItem)) × Unit)) (y1:(ApiItem × Unit)) (y2:Int) (y3:Int) (y4:(BitVec 64)) (y5:Int):Option ((((List UInt8) × Int × (List (ApiItem)) × Unit) × (ApiItem × Unit) × Int × Int × (BitVec 64) × Int × Unit) ⊕ (((List UInt8) × Int × (List (ApiItem)) × Unit) × (ApiItem × Unit) × Int × Int × (BitVec 64) × Unit)):=
 (bif (decide (y5 < y3)) then (let v12:Int:=(IntKind.wrap .i64 ((IntKind.wrap .i64 (y0.2.1 + (1:Int))) + y5))
 ((getI y0.1 v12).bind fun x13=>(some (Sum.inl ((y0.1,y0.2.1,y0.2.2.1,()),(y1.1,()),y2,y3,((y4 <<< 8) ||| (BitVec.setWidth 64 x13.toBitVec)),(IntKind.wrap .i64 (y5 + (1:Int))),())))))
 else (some (Sum.inr ((y0.1,y0.2.1,y0.2.2.1,()),(y1.1,()),y2,y3,y4,()))))
def Zaf_L1 (y:(((List UInt8) × Int × (List (ApiItem)) × Unit) × (ApiItem × Unit) × Int × Int × (BitVec 64) × Int × Unit)):Option (((List UInt8) × Int × (List (ApiItem)) × Unit) × (ApiItem × Unit) × Int × Int × (BitVec 64) × Unit):=iter (fun (y:(((List UInt8) × Int × (List (ApiItem)) × Unit) × (ApiItem × Unit) × Int × Int × (BitVec 64) × Int × Unit))=>Zaf_L1b y.1 y.2.1 y.2.2.1 y.2.2.2.1 y.2.2.2.2.1 y.2.2.2.2.2.1) rounds y
def Zaf (a0:((List UInt8) × Int × (List (ApiItem)) × Unit)):Option ((((List UInt8) × Int × (List (ApiItem)) × Unit) × Unit) × (ApiItem × Int × Unit)):=
 (bif (decide (((a0.1).length:Int) ≤ a0.2.1)) then (some (((a0.1,a0.2.1,a0.2.2.1,()),()),((⟨(0:Int),0#64,([]:List UInt8)⟩:ApiItem),(1:Int),())))
 else ((getI a0.1 a0.2.1).bind fun x1=>((bif (decide (x1.toBitVec=(244:UInt8).toBitVec)) then (bif (decide (x1.toBitVec=(244:UInt8).toBitVec)) then (let v2:BitVec 64:=(BitVec.setWidth 64 (UInt8.ofBitVec (x1.toBitVec - (244:UInt8).toBitVec)).toBitVec)
 (((some (((a0.1,(IntKind.wrap .i64 (a0.2.1 + (1:Int))),a0.2.2.1,()),()),((⟨(7:Int),v2,([]:List UInt8)⟩:ApiItem),(0:Int),())))).bind fun q=>some (Sum.inr q)))
 else (bif (decide (x1.toBitVec=(246:UInt8).toBitVec)) then (((some (((a0.1,(IntKind.wrap .i64 (a0.2.1 + (1:Int))),a0.2.2.1,()),()),((⟨(8:Int),0#64,([]:List UInt8)⟩:ApiItem),(0:Int),())))).bind fun q=>some (Sum.inr q))
 else (some (Sum.inl ((a0.1,a0.2.1,a0.2.2.1,()),((⟨(0:Int),0#64,([]:List UInt8)⟩:ApiItem),()),x1,())))))
 else (bif (decide (x1.toBitVec=(245:UInt8).toBitVec)) then (let v3:BitVec 64:=(BitVec.setWidth 64 (UInt8.ofBitVec (x1.toBitVec - (244:UInt8).toBitVec)).toBitVec)
 (((some (((a0.1,(IntKind.wrap .i64 (a0.2.1 + (1:Int))),a0.2.2.1,()),()),((⟨(7:Int),v3,([]:List UInt8)⟩:ApiItem),(0:Int),())))).bind fun q=>some (Sum.inr q)))
 else (bif (decide (x1.toBitVec=(246:UInt8).toBitVec)) then (((some (((a0.1,(IntKind.wrap .i64 (a0.2.1 + (1:Int))),a0.2.2.1,()),()),((⟨(8:Int),0#64,([]:List UInt8)⟩:ApiItem),(0:Int),())))).bind fun q=>some (Sum.inr q))
 else (some (Sum.inl ((a0.1,a0.2.1,a0.2.2.1,()),((⟨(0:Int),0#64,([]:List UInt8)⟩:ApiItem),()),x1,())))))).bind (Sum.elim (fun (j4:(((List UInt8) × Int × (List (ApiItem)) × Unit) × (ApiItem × Unit) × UInt8 × Unit))=>(let v5:Int:=((UInt8.ofBitVec (j4.2.2.1.toBitVec >>> 5)).toBitVec.toNat:Int)
 (let v6:UInt8:=(UInt8.ofBitVec (j4.2.2.1.toBitVec &&& (31:UInt8).toBitVec))
 (bif (decide ((5:Int) < v5)) then (some (((j4.1.1,j4.1.2.1,j4.1.2.2.1,()),()),((⟨(0:Int),0#64,([]:List UInt8)⟩:ApiItem),(2:Int),())))
 else (bif (decide ((27:Int) < (v6.toBitVec.toNat:Int))) then (some (((j4.1.1,j4.1.2.1,j4.1.2.2.1,()),()),((⟨(0:Int),0#64,([]:List UInt8)⟩:ApiItem),(2:Int),())))
 else ((bif (decide ((24:Int) ≤ (v6.toBitVec.toNat:Int))) then (let v7:BitVec 64:=(BitVec.ofInt 64 (IntKind.wrap .i64 ((v6.toBitVec.toNat:Int) - (24:Int))))
 (let v8:Int:=(IntKind.wrap .i64 ((1:Int) * 2 ^ (min v7.toNat (IntKind.bits .i64))))
 (some ((j4.1.1,j4.1.2.1,j4.1.2.2.1,()),(j4.2.1.1,()),v5,(v6.toBitVec.toNat:Int),v8,()))))
 else (some ((j4.1.1,j4.1.2.1,j4.1.2.2.1,()),(j4.2.1.1,()),v5,(v6.toBitVec.toNat:Int),(0:Int),()))).bind (fun (j9:(((List UInt8) × Int × (List (ApiItem)) × Unit) × (ApiItem × Unit) × Int × Int × Int × Unit))=>(let v10:Int:=(IntKind.wrap .i64 ((IntKind.wrap .i64 (((j9.1.1).length:Int) - j9.1.2.1)) - (1:Int)))
 (bif (decide (v10 < j9.2.2.2.2.1)) then (some (((j9.1.1,j9.1.2.1,j9.1.2.2.1,()),()),((⟨(0:Int),0#64,([]:List UInt8)⟩:ApiItem),(1:Int),())))
 else ((bif (decide ((0:Int) < j9.2.2.2.2.1)) then (some ((j9.1.1,j9.1.2.1,j9.1.2.2.1,()),(j9.2.1.1,()),j9.2.2.1,j9.2.2.2.2.1,0#64,()))
 else (some ((j9.1.1,j9.1.2.1,j9.1.2.2.1,()),(j9.2.1.1,()),j9.2.2.1,j9.2.2.2.2.1,(BitVec.ofInt 64 j9.2.2.2.1),()))).bind (fun (j11:(((List UInt8) × Int × (List (ApiItem)) × Unit) × (ApiItem × Unit) × Int × Int × (BitVec 64) × Unit))=>((Zaf_L1 ((j11.1.1,j11.1.2.1,j11.1.2.2.1,()),(j11.2.1.1,()),j11.2.2.1,j11.2.2.2.1,j11.2.2.2.2.1,(0:Int),())).bind (fun (z14:(((List UInt8) × Int × (List (ApiItem)) × Unit) × (ApiItem × Unit) × Int × Int × (BitVec 64) × Unit))=>(let v15:List (BitVec 64):=([0#64,24#64,256#64,0#64,65536#64,0#64,0#64,0#64,4294967296#64]:List (BitVec 64))
 (bif (decide ((0:Int) ≤ z14.2.2.2.1) && decide (z14.2.2.2.1 < (9:Int))) then (((v15)[(z14.2.2.2.1).toNat]?).bind fun x16=>(bif (decide (z14.2.2.2.2.1.toNat < x16.toNat)) then (some (((z14.1.1,z14.1.2.1,z14.1.2.2.1,()),()),((⟨(0:Int),0#64,([]:List UInt8)⟩:ApiItem),(2:Int),())))
 else (let v17:Int:=(IntKind.wrap .i64 (z14.1.2.1 + (IntKind.wrap .i64 ((1:Int) + z14.2.2.2.1))))
 (let v18:List (Int):=([(1:Int),(2:Int),(3:Int),(4:Int),(5:Int),(6:Int)]:List (Int))
 (bif (decide ((0:Int) ≤ z14.2.2.1) && decide (z14.2.2.1 < (6:Int))) then (((v18)[(z14.2.2.1).toNat]?).bind fun x19=>(some (((z14.1.1,v17,z14.1.2.2.1,()),()),((⟨x19,z14.2.2.2.2.1,([]:List UInt8)⟩:ApiItem),(0:Int),()))))
 else none)))))
 else none))))))))))))))) some))))
def S_Zaf:FSpec T:=⟨[.ptr [(.v .str),(.v (.int .i64)),(.own 1)]],[(.v (.agg 1)),(.v (.int .i64))],fun x=>Zaf x.1⟩
def E_Zaf:Env T:=⟨tab.find,cd,globs,flc,fun f ds=>match f with
    | _=>none,fun f=>match f with
    | _=>false⟩
def A_Zaf:Loc2 T:=⟨fun id=>match id with
    | 1=>some ⟨[(0,.ptr [(.v .str),(.v (.int .i64)),(.own 1)]),(2,.ptr [(.v (.agg 1))]),(5,.f (.v (.int .i64))),(7,.f (.v (.int .i64))),(8,.f (.v .u64)),(9,.f (.v (.int .i64)))],[(.exit 1,[(0,.ptr [(.v .str),(.v (.int .i64)),(.own 1)]),(2,.ptr [(.v (.agg 1))]),(5,.f (.v (.int .i64))),(7,.f (.v (.int .i64))),(8,.f (.v .u64))])],Zaf_L1,[]⟩
    | _=>none,fun r=>match r with
    | 12=>some ([(0,.ptr [(.v .str),(.v (.int .i64)),(.own 1)]),(2,.ptr [(.v (.agg 1))]),(4,.f (.v .u8))],false)
    | 18=>some ([(0,.ptr [(.v .str),(.v (.int .i64)),(.own 1)]),(2,.ptr [(.v (.agg 1))]),(5,.f (.v (.int .i64))),(6,.f (.v (.int .i64))),(7,.f (.v (.int .i64)))],true)
    | 23=>some ([(0,.ptr [(.v .str),(.v (.int .i64)),(.own 1)]),(2,.ptr [(.v (.agg 1))]),(5,.f (.v (.int .i64))),(7,.f (.v (.int .i64))),(8,.f (.v .u64))],true)
    | _=>none,fun r=>match r with
    | _=>false⟩
theorem Zaf_L1_eq (y0:((List UInt8) × Int × (List (ApiItem)) × Unit)) (y1:(ApiItem × Unit)) (y2:Int) (y3:Int) (y4:(BitVec 64)) (y5:Int):run E_Zaf A_Zaf (loopAt 1 (Tryz.f172.body.getD .skip)) (layC cd [(0,.ptr [(.v .str),(.v (.int .i64)),(.own 1)]),(2,.ptr [(.v (.agg 1))]),(5,.f (.v (.int .i64))),(7,.f (.v (.int .i64))),(8,.f (.v .u64)),(9,.f (.v (.int .i64)))] [] (y0,y1,y2,y3,y4,y5,())) (roundK cd [(0,.ptr [(.v .str),(.v (.int .i64)),(.own 1)]),(2,.ptr [(.v (.agg 1))]),(5,.f (.v (.int .i64))),(7,.f (.v (.int .i64))),(8,.f (.v .u64)),(9,.f (.v (.int .i64)))] [] [(.exit 1,[(0,.ptr [(.v .str),(.v (.int .i64)),(.own 1)]),(2,.ptr [(.v (.agg 1))]),(5,.f (.v (.int .i64))),(7,.f (.v (.int .i64))),(8,.f (.v .u64))])])=Zaf_L1b y0 y1 y2 y3 y4 y5:=by kernel_rfl
theorem Zaf_eq (x:tySs T S_Zaf.ps):run E_Zaf A_Zaf (Tryz.f172.body.getD .skip) (enterT E_Zaf.C S_Zaf.ps x) (retK E_Zaf Tryz.f172.results.toList S_Zaf.ps S_Zaf.rs)=S_Zaf.fn x:=by kernel_rfl
theorem Zaf_env:EnvOk Tryz.prog E_Zaf:=envOk (E:=E_Zaf) cd_ok tys fl_ok fun f ds S h=>by cases h
theorem Zaf_L1_ok:LoopOk Tryz.prog E_Zaf Tryz.f172.ntmps (kqOf S_Zaf.ps 0) (loopAt 1 (Tryz.f172.body.getD .skip)) ⟨[(0,.ptr [(.v .str),(.v (.int .i64)),(.own 1)]),(2,.ptr [(.v (.agg 1))]),(5,.f (.v (.int .i64))),(7,.f (.v (.int .i64))),(8,.f (.v .u64)),(9,.f (.v (.int .i64)))],[(.exit 1,[(0,.ptr [(.v .str),(.v (.int .i64)),(.own 1)]),(2,.ptr [(.v (.agg 1))]),(5,.f (.v (.int .i64))),(7,.f (.v (.int .i64))),(8,.f (.v .u64))])],Zaf_L1,[]⟩:=
  loop_ok (A:=A_Zaf) (done:=[]) (c0:=(Tryz.f172.body.getD .skip)) hmix Zaf_env done_nil rounds (by kernel_rfl) (by kernel_rfl) (fun x=>Zaf_L1_eq x.1 x.2.1 x.2.2.1 x.2.2.2.1 x.2.2.2.2.1 x.2.2.2.2.2.1) (fun _=>rfl)
theorem Zaf_ok:SoundT Tryz.prog cd gdn 172 S_Zaf:=
  sound_fn (E:=E_Zaf) (A:=A_Zaf) (done:=[1]) (c:=(Tryz.f172.body.getD .skip)) (S:=S_Zaf) (fn:=Tryz.f172) hmix Zaf_env Tryz.func172 rfl (by kernel_rfl) (by kernel_rfl) (done_cons rfl Zaf_L1_ok done_nil) (by kernel_rfl) (by kernel_rfl) Zaf_eq
def Zag_L1b (k_rec:((List UInt8) × Int × (List (ApiItem)) × Unit) → Int → Bool → (List UInt8) → Option ((((List UInt8) × Int × (List (ApiItem)) × Unit) × Unit) × (Int × Unit))) (y0:((List UInt8) × Int × (List (ApiItem)) × Unit)) (y1:Int) (y2:(ApiItem × Unit)) (y3:(BitVec 64)) (y4:Bool) (y5:(List UInt8)) (y6:(BitVec 64)):Option ((((List UInt8) × Int × (List (ApiItem)) × Unit) × Int × (ApiItem × Unit) × (BitVec 64) × Bool × (List UInt8) × (BitVec 64) × Unit) ⊕ ((((List UInt8) × Int × (List (ApiItem)) × Unit) × Int × Unit) ⊕ (((List UInt8) × Int × (List (ApiItem)) × Unit) × Unit))):=
 (bif y4 then (bif (decide (y6.toNat < y3.toNat)) then (bif (decide (y2.1.kind=(6:Int))) then ((k_rec (y0.1,y0.2.1,y0.2.2.1,()) (IntKind.wrap .i64 (y1 + (1:Int))) true y5).bind fun r18=>(bif (!decide (r18.2.1=(0:Int))) then (some (Sum.inr (Sum.inl ((r18.1.1.1,r18.1.1.2.1,r18.1.1.2.2.1,()),r18.2.1,()))))
 else (bif (decide ((0:Int) ≤ ((y0.2.2.1).length:Int)) && decide (((y0.2.2.1).length:Int) < ((r18.1.1.2.2.1).length:Int))) then (((r18.1.1.2.2.1)[(((y0.2.2.1).length:Int)).toNat]?).bind fun x19=>((Zbr x19).bind fun r20=>((k_rec (r18.1.1.1,r18.1.1.2.1,r18.1.1.2.2.1,()) (IntKind.wrap .i64 (y1 + (1:Int))) false ([]:List UInt8)).bind fun r21=>(bif (!decide (r21.2.1=(0:Int))) then (some (Sum.inr (Sum.inl ((r21.1.1.1,r21.1.1.2.1,r21.1.1.2.2.1,()),r21.2.1,()))))
 else (some (Sum.inl ((r21.1.1.1,r21.1.1.2.1,r21.1.1.2.2.1,()),y1,(y2.1,()),y3,y4,r20.2.1,(y6 + 1#64),())))))))
 else none)))
 else ((k_rec (y0.1,y0.2.1,y0.2.2.1,()) (IntKind.wrap .i64 (y1 + (1:Int))) false ([]:List UInt8)).bind fun r22=>(bif (!decide (r22.2.1=(0:Int))) then (some (Sum.inr (Sum.inl ((r22.1.1.1,r22.1.1.2.1,r22.1.1.2.2.1,()),r22.2.1,()))))
 else (some (Sum.inl ((r22.1.1.1,r22.1.1.2.1,r22.1.1.2.2.1,()),y1,(y2.1,()),y3,y4,y5,(y6 + 1#64),()))))))
 else (some (Sum.inr (Sum.inr ((y0.1,y0.2.1,y0.2.2.1,()),())))))
 else (some (Sum.inr (Sum.inr ((y0.1,y0.2.1,y0.2.2.1,()),())))))
def Zag_L1 (k_rec:((List UInt8) × Int × (List (ApiItem)) × Unit) → Int → Bool → (List UInt8) → Option ((((List UInt8) × Int × (List (ApiItem)) × Unit) × Unit) × (Int × Unit))) (y:(((List UInt8) × Int × (List (ApiItem)) × Unit) × Int × (ApiItem × Unit) × (BitVec 64) × Bool × (List UInt8) × (BitVec 64) × Unit)):Option ((((List UInt8) × Int × (List (ApiItem)) × Unit) × Int × Unit) ⊕ (((List UInt8) × Int × (List (ApiItem)) × Unit) × Unit)):=iter (fun (y:(((List UInt8) × Int × (List (ApiItem)) × Unit) × Int × (ApiItem × Unit) × (BitVec 64) × Bool × (List UInt8) × (BitVec 64) × Unit))=>Zag_L1b k_rec y.1 y.2.1 y.2.2.1 y.2.2.2.1 y.2.2.2.2.1 y.2.2.2.2.2.1 y.2.2.2.2.2.2.1) rounds y
def Zag_R (k_rec:((List UInt8) × Int × (List (ApiItem)) × Unit) → Int → Bool → (List UInt8) → Option ((((List UInt8) × Int × (List (ApiItem)) × Unit) × Unit) × (Int × Unit))) (a0:((List UInt8) × Int × (List (ApiItem)) × Unit)) (a1:Int) (a2:Bool) (a3:(List UInt8)):Option ((((List UInt8) × Int × (List (ApiItem)) × Unit) × Unit) × (Int × Unit)):=
 ((Zaf (a0.1,a0.2.1,a0.2.2.1,())).bind fun r1=>(bif (!decide (r1.2.2.1=(0:Int))) then (some (((r1.1.1.1,r1.1.1.2.1,r1.1.1.2.2.1,()),()),(r1.2.2.1,())))
 else ((bif (decide (r1.2.1.kind=(3:Int))) then (some ((r1.1.1.1,r1.1.1.2.1,r1.1.1.2.2.1,()),a1,a2,a3,(r1.2.1,()),r1.2.1.number,true,()))
 else (some ((r1.1.1.1,r1.1.1.2.1,r1.1.1.2.2.1,()),a1,a2,a3,(r1.2.1,()),r1.2.1.number,(decide (r1.2.1.kind=(4:Int))),()))).bind (fun (j2:(((List UInt8) × Int × (List (ApiItem)) × Unit) × Int × Bool × (List UInt8) × (ApiItem × Unit) × (BitVec 64) × Bool × Unit))=>((bif (decide (j2.2.2.2.2.1.1.kind=(5:Int))) then (some ((j2.1.1,j2.1.2.1,j2.1.2.2.1,()),j2.2.1,j2.2.2.1,j2.2.2.2.1,(j2.2.2.2.2.1.1,()),j2.2.2.2.2.2.1,j2.2.2.2.2.2.2.1,true,()))
 else (some ((j2.1.1,j2.1.2.1,j2.1.2.2.1,()),j2.2.1,j2.2.2.1,j2.2.2.2.1,(j2.2.2.2.2.1.1,()),j2.2.2.2.2.2.1,j2.2.2.2.2.2.2.1,(decide (j2.2.2.2.2.1.1.kind=(6:Int))),()))).bind (fun (j3:(((List UInt8) × Int × (List (ApiItem)) × Unit) × Int × Bool × (List UInt8) × (ApiItem × Unit) × (BitVec 64) × Bool × Bool × Unit))=>(bif (decide ((512:Int) ≤ ((j3.1.2.2.1).length:Int))) then (some (((j3.1.1,j3.1.2.1,j3.1.2.2.1,()),()),((8:Int),())))
 else ((bif j3.2.2.1 then ((Zbt j3.2.2.2.2.1.1.kind).bind fun r4=>(some ((j3.1.1,j3.1.2.1,j3.1.2.2.1,()),j3.2.1,j3.2.2.1,j3.2.2.2.1,(j3.2.2.2.2.1.1,()),j3.2.2.2.2.2.1,j3.2.2.2.2.2.2.1,j3.2.2.2.2.2.2.2.1,(!r4.2.1),())))
 else (some ((j3.1.1,j3.1.2.1,j3.1.2.2.1,()),j3.2.1,j3.2.2.1,j3.2.2.2.1,(j3.2.2.2.2.1.1,()),j3.2.2.2.2.2.1,j3.2.2.2.2.2.2.1,j3.2.2.2.2.2.2.2.1,false,()))).bind (fun (j5:(((List UInt8) × Int × (List (ApiItem)) × Unit) × Int × Bool × (List UInt8) × (ApiItem × Unit) × (BitVec 64) × Bool × Bool × Bool × Unit))=>(bif j5.2.2.2.2.2.2.2.2.1 then (some (((j5.1.1,j5.1.2.1,j5.1.2.2.1,()),()),((3:Int),())))
 else (bif (decide ((8:Int) < j5.2.1)) then (some (((j5.1.1,j5.1.2.1,j5.1.2.2.1,()),()),((5:Int),())))
 else ((bif j5.2.2.2.2.2.2.1 then (bif (decide ((1024#64).toNat < j5.2.2.2.2.2.1.toNat)) then (some ((j5.1.1,j5.1.2.1,j5.1.2.2.1,()),j5.2.1,j5.2.2.1,j5.2.2.2.1,(j5.2.2.2.2.1.1,()),j5.2.2.2.2.2.1,j5.2.2.2.2.2.2.1,j5.2.2.2.2.2.2.2.1,true,()))
 else (bif j5.2.2.2.2.2.2.2.1 then (some ((j5.1.1,j5.1.2.1,j5.1.2.2.1,()),j5.2.1,j5.2.2.1,j5.2.2.2.1,(j5.2.2.2.2.1.1,()),j5.2.2.2.2.2.1,j5.2.2.2.2.2.2.1,j5.2.2.2.2.2.2.2.1,(decide ((512#64).toNat < j5.2.2.2.2.2.1.toNat)),()))
 else (some ((j5.1.1,j5.1.2.1,j5.1.2.2.1,()),j5.2.1,j5.2.2.1,j5.2.2.2.1,(j5.2.2.2.2.1.1,()),j5.2.2.2.2.2.1,j5.2.2.2.2.2.2.1,j5.2.2.2.2.2.2.2.1,false,()))))
 else (bif j5.2.2.2.2.2.2.2.1 then (some ((j5.1.1,j5.1.2.1,j5.1.2.2.1,()),j5.2.1,j5.2.2.1,j5.2.2.2.1,(j5.2.2.2.2.1.1,()),j5.2.2.2.2.2.1,j5.2.2.2.2.2.2.1,j5.2.2.2.2.2.2.2.1,(decide ((512#64).toNat < j5.2.2.2.2.2.1.toNat)),()))
 else (some ((j5.1.1,j5.1.2.1,j5.1.2.2.1,()),j5.2.1,j5.2.2.1,j5.2.2.2.1,(j5.2.2.2.2.1.1,()),j5.2.2.2.2.2.1,j5.2.2.2.2.2.2.1,j5.2.2.2.2.2.2.2.1,false,())))).bind (fun (j6:(((List UInt8) × Int × (List (ApiItem)) × Unit) × Int × Bool × (List UInt8) × (ApiItem × Unit) × (BitVec 64) × Bool × Bool × Bool × Unit))=>(bif j6.2.2.2.2.2.2.2.2.1 then (some (((j6.1.1,j6.1.2.1,j6.1.2.2.1,()),()),((8:Int),())))
 else ((bif j6.2.2.2.2.2.2.1 then (let v7:BitVec 64:=(BitVec.ofInt 64 (IntKind.wrap .i64 (((j6.1.1).length:Int) - j6.1.2.1)))
 (some ((j6.1.1,j6.1.2.1,j6.1.2.2.1,()),j6.2.1,j6.2.2.1,j6.2.2.2.1,(j6.2.2.2.2.1.1,()),j6.2.2.2.2.2.1,j6.2.2.2.2.2.2.1,j6.2.2.2.2.2.2.2.1,(decide (v7.toNat < j6.2.2.2.2.2.1.toNat)),())))
 else (some ((j6.1.1,j6.1.2.1,j6.1.2.2.1,()),j6.2.1,j6.2.2.1,j6.2.2.2.1,(j6.2.2.2.2.1.1,()),j6.2.2.2.2.2.1,j6.2.2.2.2.2.2.1,j6.2.2.2.2.2.2.2.1,false,()))).bind (fun (j8:(((List UInt8) × Int × (List (ApiItem)) × Unit) × Int × Bool × (List UInt8) × (ApiItem × Unit) × (BitVec 64) × Bool × Bool × Bool × Unit))=>(bif j8.2.2.2.2.2.2.2.2.1 then (some (((j8.1.1,j8.1.2.1,j8.1.2.2.1,()),()),((1:Int),())))
 else ((bif j8.2.2.2.2.2.2.1 then (let v9:Int:=(IntKind.wrap .i64 (j8.1.2.1 + (IntKind.wrap .i64 (j8.2.2.2.2.2.1.toNat:Int))))
 (bif (decide ((0:Int) ≤ v9) && decide (v9 ≤ ((j8.1.1).length:Int))) then (bif (decide ((0:Int) ≤ j8.1.2.1) && decide (j8.1.2.1 ≤ ((v9).toNat:Int))) then (let v10:Int:=(IntKind.wrap .i64 (j8.1.2.1 + (IntKind.wrap .i64 (j8.2.2.2.2.2.1.toNat:Int))))
 (some ((j8.1.1,v10,j8.1.2.2.1,()),j8.2.1,j8.2.2.1,j8.2.2.2.1,((⟨j8.2.2.2.2.1.1.kind,0#64,(List.drop (j8.1.2.1).toNat (List.take (v9).toNat j8.1.1))⟩:ApiItem),()),j8.2.2.2.2.2.1,j8.2.2.2.2.2.2.2.1,())))
 else none)
 else none))
 else (some ((j8.1.1,j8.1.2.1,j8.1.2.2.1,()),j8.2.1,j8.2.2.1,j8.2.2.2.1,(j8.2.2.2.2.1.1,()),j8.2.2.2.2.2.1,j8.2.2.2.2.2.2.2.1,()))).bind (fun (j11:(((List UInt8) × Int × (List (ApiItem)) × Unit) × Int × Bool × (List UInt8) × (ApiItem × Unit) × (BitVec 64) × Bool × Unit))=>((bif (decide (j11.2.2.2.2.1.1.kind=(4:Int))) then ((Zcl j11.2.2.2.2.1.1.data).bind fun r12=>(some ((j11.1.1,j11.1.2.1,j11.1.2.2.1,()),j11.2.1,j11.2.2.1,j11.2.2.2.1,(j11.2.2.2.2.1.1,()),j11.2.2.2.2.2.1,j11.2.2.2.2.2.2.1,(!r12.2.1),())))
 else (some ((j11.1.1,j11.1.2.1,j11.1.2.2.1,()),j11.2.1,j11.2.2.1,j11.2.2.2.1,(j11.2.2.2.2.1.1,()),j11.2.2.2.2.2.1,j11.2.2.2.2.2.2.1,false,()))).bind (fun (j13:(((List UInt8) × Int × (List (ApiItem)) × Unit) × Int × Bool × (List UInt8) × (ApiItem × Unit) × (BitVec 64) × Bool × Bool × Unit))=>(bif j13.2.2.2.2.2.2.2.1 then (some (((j13.1.1,j13.1.2.1,j13.1.2.2.1,()),()),((6:Int),())))
 else ((bif j13.2.2.1 then (bif (!decide (j13.2.2.2.1=([]:List UInt8))) then ((Zbr j13.2.2.2.2.1.1).bind fun r14=>((Zch j13.2.2.2.1 r14.2.1).bind fun r15=>(some ((j13.1.1,j13.1.2.1,j13.1.2.2.1,()),j13.2.1,(j13.2.2.2.2.1.1,()),j13.2.2.2.2.2.1,j13.2.2.2.2.2.2.1,(!r15.2.1),()))))
 else (some ((j13.1.1,j13.1.2.1,j13.1.2.2.1,()),j13.2.1,(j13.2.2.2.2.1.1,()),j13.2.2.2.2.2.1,j13.2.2.2.2.2.2.1,false,())))
 else (some ((j13.1.1,j13.1.2.1,j13.1.2.2.1,()),j13.2.1,(j13.2.2.2.2.1.1,()),j13.2.2.2.2.2.1,j13.2.2.2.2.2.2.1,false,()))).bind (fun (j16:(((List UInt8) × Int × (List (ApiItem)) × Unit) × Int × (ApiItem × Unit) × (BitVec 64) × Bool × Bool × Unit))=>(bif j16.2.2.2.2.2.1 then (some (((j16.1.1,j16.1.2.1,j16.1.2.2.1,()),()),((7:Int),())))
 else (bif small ((j16.1.2.2.1).length + (([j16.2.2.1.1]:List (ApiItem)):List (ApiItem)).length) 32 then (let v17:List (ApiItem):=(j16.1.2.2.1 ++ ([j16.2.2.1.1]:List (ApiItem)))
 ((Zag_L1 k_rec ((j16.1.1,j16.1.2.1,v17,()),j16.2.1,(j16.2.2.1.1,()),j16.2.2.2.1,j16.2.2.2.2.1,([]:List UInt8),0#64,())).bind (Sum.elim (fun (z23:(((List UInt8) × Int × (List (ApiItem)) × Unit) × Int × Unit))=>(some (((z23.1.1,z23.1.2.1,z23.1.2.2.1,()),()),(z23.2.1,())))) (fun (z24:(((List UInt8) × Int × (List (ApiItem)) × Unit) × Unit))=>(some (((z24.1.1,z24.1.2.1,z24.1.2.2.1,()),()),((0:Int),())))))))
 else none))))))))))))))))))))))))))
abbrev ps_Zag:List Slot:=[.ptr [(.v .str),(.v (.int .i64)),(.own 1)],.f (.v (.int .i64)),.f (.v .bool),.f (.v .str)]
abbrev rs_Zag:List Fld:=[(.v (.int .i64))]
def E_Zag (k_rec:((List UInt8) × Int × (List (ApiItem)) × Unit) → Int → Bool → (List UInt8) → Option ((((List UInt8) × Int × (List (ApiItem)) × Unit) × Unit) × (Int × Unit))):Env T:=⟨tab.find,cd,globs,flc,fun f ds=>match f with
    | 49=>some S_Zcl
    | 81=>some S_Zbr
    | 152=>some ⟨ps_Zag,rs_Zag,fun x=>k_rec x.1 x.2.1 x.2.2.1 x.2.2.2.1⟩
    | 169=>some S_Zbt
    | 170=>some S_Zch
    | 172=>some S_Zaf
    | _=>none,fun f=>match f with
    | 49=>true
    | 81=>true
    | 169=>true
    | 170=>true
    | _=>false⟩
def A_Zag (k_rec:((List UInt8) × Int × (List (ApiItem)) × Unit) → Int → Bool → (List UInt8) → Option ((((List UInt8) × Int × (List (ApiItem)) × Unit) × Unit) × (Int × Unit))):Loc2 T:=⟨fun id=>match id with
    | 1=>some ⟨[(0,.ptr [(.v .str),(.v (.int .i64)),(.own 1)]),(1,.f (.v (.int .i64))),(9,.ptr [(.v (.agg 1))]),(11,.f (.v .u64)),(13,.f (.v .bool)),(14,.f (.v .str)),(15,.f (.v .u64))],[(.ret,[(0,.ptr [(.v .str),(.v (.int .i64)),(.own 1)]),(8,.f (.v (.int .i64)))]),(.exit 1,[(0,.ptr [(.v .str),(.v (.int .i64)),(.own 1)])])],Zag_L1 k_rec,[]⟩
    | _=>none,fun r=>match r with
    | 6=>some ([(0,.ptr [(.v .str),(.v (.int .i64)),(.own 1)]),(1,.f (.v (.int .i64))),(2,.f (.v .bool)),(3,.f (.v .str)),(9,.ptr [(.v (.agg 1))]),(11,.f (.v .u64)),(12,.f (.v .bool))],true)
    | 7=>some ([(0,.ptr [(.v .str),(.v (.int .i64)),(.own 1)]),(1,.f (.v (.int .i64))),(2,.f (.v .bool)),(3,.f (.v .str)),(9,.ptr [(.v (.agg 1))]),(11,.f (.v .u64)),(12,.f (.v .bool)),(13,.f (.v .bool))],true)
    | 10=>some ([(0,.ptr [(.v .str),(.v (.int .i64)),(.own 1)]),(1,.f (.v (.int .i64))),(2,.f (.v .bool)),(3,.f (.v .str)),(9,.ptr [(.v (.agg 1))]),(11,.f (.v .u64)),(12,.f (.v .bool)),(13,.f (.v .bool)),(52,.f (.v .bool))],true)
    | 14=>some ([(0,.ptr [(.v .str),(.v (.int .i64)),(.own 1)]),(1,.f (.v (.int .i64))),(2,.f (.v .bool)),(3,.f (.v .str)),(9,.ptr [(.v (.agg 1))]),(11,.f (.v .u64)),(12,.f (.v .bool)),(13,.f (.v .bool)),(63,.f (.v .bool))],true)
    | 16=>some ([(0,.ptr [(.v .str),(.v (.int .i64)),(.own 1)]),(1,.f (.v (.int .i64))),(2,.f (.v .bool)),(3,.f (.v .str)),(9,.ptr [(.v (.agg 1))]),(11,.f (.v .u64)),(12,.f (.v .bool)),(13,.f (.v .bool)),(76,.f (.v .bool))],true)
    | 20=>some ([(0,.ptr [(.v .str),(.v (.int .i64)),(.own 1)]),(1,.f (.v (.int .i64))),(2,.f (.v .bool)),(3,.f (.v .str)),(9,.ptr [(.v (.agg 1))]),(11,.f (.v .u64)),(13,.f (.v .bool))],true)
    | 21=>some ([(0,.ptr [(.v .str),(.v (.int .i64)),(.own 1)]),(1,.f (.v (.int .i64))),(2,.f (.v .bool)),(3,.f (.v .str)),(9,.ptr [(.v (.agg 1))]),(11,.f (.v .u64)),(13,.f (.v .bool)),(129,.f (.v .bool))],true)
    | 23=>some ([(0,.ptr [(.v .str),(.v (.int .i64)),(.own 1)]),(1,.f (.v (.int .i64))),(9,.ptr [(.v (.agg 1))]),(11,.f (.v .u64)),(13,.f (.v .bool)),(141,.f (.v .bool))],true)
    | _=>none,fun r=>match r with
    | 18=>true
    | 24=>true
    | _=>false⟩
theorem Zag_L1_eq (k_rec:((List UInt8) × Int × (List (ApiItem)) × Unit) → Int → Bool → (List UInt8) → Option ((((List UInt8) × Int × (List (ApiItem)) × Unit) × Unit) × (Int × Unit))) (y0:((List UInt8) × Int × (List (ApiItem)) × Unit)) (y1:Int) (y2:(ApiItem × Unit)) (y3:(BitVec 64)) (y4:Bool) (y5:(List UInt8)) (y6:(BitVec 64)):run (E_Zag k_rec) (A_Zag k_rec) (loopAt 1 (Tryz.f152.body.getD .skip)) (layC cd [(0,.ptr [(.v .str),(.v (.int .i64)),(.own 1)]),(1,.f (.v (.int .i64))),(9,.ptr [(.v (.agg 1))]),(11,.f (.v .u64)),(13,.f (.v .bool)),(14,.f (.v .str)),(15,.f (.v .u64))] [] (y0,y1,y2,y3,y4,y5,y6,())) (roundK cd [(0,.ptr [(.v .str),(.v (.int .i64)),(.own 1)]),(1,.f (.v (.int .i64))),(9,.ptr [(.v (.agg 1))]),(11,.f (.v .u64)),(13,.f (.v .bool)),(14,.f (.v .str)),(15,.f (.v .u64))] [] [(.ret,[(0,.ptr [(.v .str),(.v (.int .i64)),(.own 1)]),(8,.f (.v (.int .i64)))]),(.exit 1,[(0,.ptr [(.v .str),(.v (.int .i64)),(.own 1)])])])=Zag_L1b k_rec y0 y1 y2 y3 y4 y5 y6:=by kernel_rfl
theorem Zag_eqR (k_rec:((List UInt8) × Int × (List (ApiItem)) × Unit) → Int → Bool → (List UInt8) → Option ((((List UInt8) × Int × (List (ApiItem)) × Unit) × Unit) × (Int × Unit))) (x:tySs T ps_Zag):run (E_Zag k_rec) (A_Zag k_rec) (Tryz.f152.body.getD .skip) (enterT (E_Zag k_rec).C ps_Zag x) (retK (E_Zag k_rec) Tryz.f152.results.toList ps_Zag rs_Zag)=Zag_R k_rec x.1 x.2.1 x.2.2.1 x.2.2.2.1:=by kernel_rfl
def Zag_n:Nat → ((List UInt8) × Int × (List (ApiItem)) × Unit) → Int → Bool → (List UInt8) → Option ((((List UInt8) × Int × (List (ApiItem)) × Unit) × Unit) × (Int × Unit))
  | 0=>fun _ _ _ _=>none
  | n + 1=>Zag_R (Zag_n n)
def Zag (a0:((List UInt8) × Int × (List (ApiItem)) × Unit)) (a1:Int) (a2:Bool) (a3:(List UInt8)):=Zag_n 12 a0 a1 a2 a3
def S_Zag:FSpec T:=⟨ps_Zag,rs_Zag,fun x=>Zag x.1 x.2.1 x.2.2.1 x.2.2.2.1⟩
theorem Zag_env (k_rec:((List UInt8) × Int × (List (ApiItem)) × Unit) → Int → Bool → (List UInt8) → Option ((((List UInt8) × Int × (List (ApiItem)) × Unit) × Unit) × (Int × Unit))) (hk:SoundT Tryz.prog cd gdn 152 ⟨ps_Zag,rs_Zag,fun x=>k_rec x.1 x.2.1 x.2.2.1 x.2.2.2.1⟩):EnvOk Tryz.prog (E_Zag k_rec):=envOk (E:=(E_Zag k_rec)) cd_ok tys fl_ok fun f ds S h=>by
    dsimp only [E_Zag] at h
    split at h
    · cases h; exact Zcl_ok
    · cases h; exact Zbr_ok
    · cases h; exact hk
    · cases h; exact Zbt_ok
    · cases h; exact Zch_ok
    · cases h; exact Zaf_ok
    · cases h
theorem Zag_L1_ok (k_rec:((List UInt8) × Int × (List (ApiItem)) × Unit) → Int → Bool → (List UInt8) → Option ((((List UInt8) × Int × (List (ApiItem)) × Unit) × Unit) × (Int × Unit))) (hk:SoundT Tryz.prog cd gdn 152 ⟨ps_Zag,rs_Zag,fun x=>k_rec x.1 x.2.1 x.2.2.1 x.2.2.2.1⟩):LoopOk Tryz.prog (E_Zag k_rec) Tryz.f152.ntmps (kqOf ps_Zag 0) (loopAt 1 (Tryz.f152.body.getD .skip)) ⟨[(0,.ptr [(.v .str),(.v (.int .i64)),(.own 1)]),(1,.f (.v (.int .i64))),(9,.ptr [(.v (.agg 1))]),(11,.f (.v .u64)),(13,.f (.v .bool)),(14,.f (.v .str)),(15,.f (.v .u64))],[(.ret,[(0,.ptr [(.v .str),(.v (.int .i64)),(.own 1)]),(8,.f (.v (.int .i64)))]),(.exit 1,[(0,.ptr [(.v .str),(.v (.int .i64)),(.own 1)])])],Zag_L1 k_rec,[]⟩:=
  loop_ok (A:=(A_Zag k_rec)) (done:=[]) (c0:=(Tryz.f152.body.getD .skip)) hmix (Zag_env k_rec hk) done_nil rounds (by kernel_rfl) (by kernel_rfl) (fun x=>Zag_L1_eq k_rec x.1 x.2.1 x.2.2.1 x.2.2.2.1 x.2.2.2.2.1 x.2.2.2.2.2.1 x.2.2.2.2.2.2.1) (fun _=>rfl)
theorem Zag_okn:∀ n:Nat,SoundT Tryz.prog cd gdn 152 ⟨ps_Zag,rs_Zag,fun x=>Zag_n n x.1 x.2.1 x.2.2.1 x.2.2.2.1⟩
  | 0=>sound_none ⟨_,Tryz.func152,by kernel_rfl,by kernel_rfl⟩
  | n + 1=>sound_fn (E:=E_Zag (Zag_n n)) (A:=A_Zag (Zag_n n)) (done:=[1]) (c:=(Tryz.f152.body.getD .skip)) (S:=⟨ps_Zag,rs_Zag,fun x=>Zag_n (n + 1) x.1 x.2.1 x.2.2.1 x.2.2.2.1⟩) (fn:=Tryz.f152) hmix (Zag_env _ (Zag_okn n)) Tryz.func152 rfl (by kernel_rfl) (by kernel_rfl) (done_cons rfl (Zag_L1_ok _ (Zag_okn n)) done_nil) (by kernel_rfl) (by kernel_rfl) (Zag_eqR (Zag_n n))
theorem Zag_ok:SoundT Tryz.prog cd gdn 152 S_Zag:=Zag_okn 12
def Zbe (a0:(List (UInt8))):Option ((Unit) × ((List (ApiItem)) × Int × Int × Unit)):=
 ((Zag (a0,(0:Int),[],()) (0:Int) false ([]:List UInt8)).bind fun r1=>(bif (!decide (r1.2.1=(0:Int))) then (some ((),([],(0:Int),r1.2.1,())))
 else (some ((),(r1.1.1.2.2.1,r1.1.1.2.1,(0:Int),())))))
def S_Zbe:FSpec T:=⟨[.f (.v (.rs 0))],[(.own 1),(.v (.int .i64)),(.v (.int .i64))],fun x=>Zbe x.1⟩
def E_Zbe:Env T:=⟨tab.find,cd,globs,flc,fun f ds=>match f with
    | 152=>some S_Zag
    | _=>none,fun f=>match f with
    | _=>false⟩
def A_Zbe:Loc2 T:=⟨fun id=>match id with
    | _=>none,fun r=>match r with
    | _=>none,fun r=>match r with
    | _=>false⟩
theorem Zbe_eq (x:tySs T S_Zbe.ps):run E_Zbe A_Zbe (Tryz.f119.body.getD .skip) (enterT E_Zbe.C S_Zbe.ps x) (retK E_Zbe Tryz.f119.results.toList S_Zbe.ps S_Zbe.rs)=S_Zbe.fn x:=by kernel_rfl
theorem Zbe_env:EnvOk Tryz.prog E_Zbe:=envOk (E:=E_Zbe) cd_ok tys fl_ok fun f ds S h=>by
    dsimp only [E_Zbe] at h
    split at h
    · cases h; exact Zag_ok
    · cases h
theorem Zbe_ok:SoundT Tryz.prog cd gdn 119 S_Zbe:=
  sound_fn (E:=E_Zbe) (A:=A_Zbe) (done:=[]) (c:=(Tryz.f119.body.getD .skip)) (S:=S_Zbe) (fn:=Tryz.f119) hmix Zbe_env Tryz.func119 rfl (by kernel_rfl) (by kernel_rfl) done_nil (by kernel_rfl) (by kernel_rfl) Zbe_eq
def Zbd (a0:(BitVec 64)):Option ((Unit) × (Int × Unit)):=
 (let v1:BitVec 64:=(bif decide ((1048576#64).toNat < (a0).toNat) then 1048576#64 else a0)
 (some ((),((IntKind.wrap .i64 (v1.toNat:Int)),()))))
def S_Zbd:FSpec T:=⟨[.f (.v .u64)],[(.v (.int .i64))],fun x=>Zbd x.1⟩
def E_Zbd:Env T:=⟨tab.find,cd,globs,flc,fun f ds=>match f with
    | _=>none,fun f=>match f with
    | _=>false⟩
def A_Zbd:Loc2 T:=⟨fun id=>match id with
    | _=>none,fun r=>match r with
    | _=>none,fun r=>match r with
    | _=>false⟩
theorem Zbd_eq (x:tySs T S_Zbd.ps):run E_Zbd A_Zbd (Tryz.f120.body.getD .skip) (enterT E_Zbd.C S_Zbd.ps x) (retK E_Zbd Tryz.f120.results.toList S_Zbd.ps S_Zbd.rs)=S_Zbd.fn x:=by kernel_rfl
theorem Zbd_env:EnvOk Tryz.prog E_Zbd:=envOk (E:=E_Zbd) cd_ok tys fl_ok fun f ds S h=>by cases h
theorem Zbd_ok:SoundT Tryz.prog cd gdn 120 S_Zbd:=
  sound_fn (E:=E_Zbd) (A:=A_Zbd) (done:=[]) (c:=(Tryz.f120.body.getD .skip)) (S:=S_Zbd) (fn:=Tryz.f120) hmix Zbd_env Tryz.func120 rfl (by kernel_rfl) (by kernel_rfl) done_nil (by kernel_rfl) (by kernel_rfl) Zbd_eq
def Zbp (a0:(List (UInt8))):Option ((Unit) × (ApiCredential × Int × Bool × Unit)):=
 ((Zbe a0).bind fun r1=>(bif (!decide (r1.2.2.2.1=(0:Int))) then (some ((),((⟨([]:List UInt8),([]:List UInt8),([]:List UInt8),0#64,(0:Int),false,(0:Int),false,false⟩:ApiCredential),(0:Int),false,())))
 else (bif (!decide (((r1.2.1).length:Int)=(19:Int))) then (some ((),((⟨([]:List UInt8),([]:List UInt8),([]:List UInt8),0#64,(0:Int),false,(0:Int),false,false⟩:ApiCredential),(0:Int),false,())))
 else (bif decide ((2:Int) < ((r1.2.1).length:Int)) then (((r1.2.1)[2]?).bind fun x2=>(bif decide ((4:Int) < ((r1.2.1).length:Int)) then (((r1.2.1)[4]?).bind fun x3=>(bif decide ((6:Int) < ((r1.2.1).length:Int)) then (((r1.2.1)[6]?).bind fun x4=>(bif decide ((8:Int) < ((r1.2.1).length:Int)) then (((r1.2.1)[8]?).bind fun x5=>(bif decide ((10:Int) < ((r1.2.1).length:Int)) then (((r1.2.1)[10]?).bind fun x6=>((Zbd x6.number).bind fun r7=>(bif decide ((12:Int) < ((r1.2.1).length:Int)) then (((r1.2.1)[12]?).bind fun x8=>(bif decide ((14:Int) < ((r1.2.1).length:Int)) then (((r1.2.1)[14]?).bind fun x9=>((Zbd x9.number).bind fun r10=>(bif decide ((16:Int) < ((r1.2.1).length:Int)) then (((r1.2.1)[16]?).bind fun x11=>(bif decide ((18:Int) < ((r1.2.1).length:Int)) then (((r1.2.1)[18]?).bind fun x12=>((Zad (⟨x2.data,x3.data,x4.data,x5.number,r7.2.1,(decide (x8.number=1#64)),r10.2.1,(decide (x11.number=1#64)),(decide (x12.number=1#64))⟩:ApiCredential)).bind fun r13=>(bif (decide (r13.2.2.1=(0:Int))) then (bif (decide ((0:Int) ≤ r1.2.2.1) && decide (r1.2.2.1 ≤ ((a0).length:Int))) then (some ((),((⟨x2.data,x3.data,x4.data,x5.number,r7.2.1,(decide (x8.number=1#64)),r10.2.1,(decide (x11.number=1#64)),(decide (x12.number=1#64))⟩:ApiCredential),r1.2.2.1,(decide (r13.2.1=(List.take (r1.2.2.1).toNat a0))),())))
 else none)
 else (some ((),((⟨x2.data,x3.data,x4.data,x5.number,r7.2.1,(decide (x8.number=1#64)),r10.2.1,(decide (x11.number=1#64)),(decide (x12.number=1#64))⟩:ApiCredential),r1.2.2.1,false,()))))))
 else none))
 else none)))
 else none))
 else none)))
 else none))
 else none))
 else none))
 else none))
 else none))))
def S_Zbp:FSpec T:=⟨[.f (.v (.rs 0))],[(.v (.agg 2)),(.v (.int .i64)),(.v .bool)],fun x=>Zbp x.1⟩
def E_Zbp:Env T:=⟨tab.find,cd,globs,flc,fun f ds=>match f with
    | 13=>some S_Zad
    | 119=>some S_Zbe
    | 120=>some S_Zbd
    | _=>none,fun f=>match f with
    | 120=>true
    | _=>false⟩
def A_Zbp:Loc2 T:=⟨fun id=>match id with
    | _=>none,fun r=>match r with
    | _=>none,fun r=>match r with
    | 4=>true
    | 6=>true
    | _=>false⟩
theorem Zbp_eq (x:tySs T S_Zbp.ps):run E_Zbp A_Zbp (Tryz.f86.body.getD .skip) (enterT E_Zbp.C S_Zbp.ps x) (retK E_Zbp Tryz.f86.results.toList S_Zbp.ps S_Zbp.rs)=S_Zbp.fn x:=by kernel_rfl
theorem Zbp_env:EnvOk Tryz.prog E_Zbp:=envOk (E:=E_Zbp) cd_ok tys fl_ok fun f ds S h=>by
    dsimp only [E_Zbp] at h
    split at h
    · cases h; exact Zad_ok
    · cases h; exact Zbe_ok
    · cases h; exact Zbd_ok
    · cases h
theorem Zbp_ok:SoundT Tryz.prog cd gdn 86 S_Zbp:=
  sound_fn (E:=E_Zbp) (A:=A_Zbp) (done:=[]) (c:=(Tryz.f86.body.getD .skip)) (S:=S_Zbp) (fn:=Tryz.f86) hmix Zbp_env Tryz.func86 rfl (by kernel_rfl) (by kernel_rfl) done_nil (by kernel_rfl) (by kernel_rfl) Zbp_eq
def Zci (a0:(BitVec 64)) (a1:(BitVec 64)):Option ((Unit) × ((BitVec 64) × Unit)):=
 (some ((),(((a0 <<< a1.toNat) ||| (a0 >>> (64#64 - a1).toNat)),())))
def S_Zci:FSpec T:=⟨[.f (.v .u64),.f (.v .u64)],[(.v .u64)],fun x=>Zci x.1 x.2.1⟩
def E_Zci:Env T:=⟨tab.find,cd,globs,flc,fun f ds=>match f with
    | _=>none,fun f=>match f with
    | _=>false⟩
def A_Zci:Loc2 T:=⟨fun id=>match id with
    | _=>none,fun r=>match r with
    | _=>none,fun r=>match r with
    | _=>false⟩
theorem Zci_eq (x:tySs T S_Zci.ps):run E_Zci A_Zci (Tryz.f153.body.getD .skip) (enterT E_Zci.C S_Zci.ps x) (retK E_Zci Tryz.f153.results.toList S_Zci.ps S_Zci.rs)=S_Zci.fn x:=by kernel_rfl
theorem Zci_env:EnvOk Tryz.prog E_Zci:=envOk (E:=E_Zci) cd_ok tys fl_ok fun f ds S h=>by cases h
theorem Zci_ok:SoundT Tryz.prog cd gdn 153 S_Zci:=
  sound_fn (E:=E_Zci) (A:=A_Zci) (done:=[]) (c:=(Tryz.f153.body.getD .skip)) (S:=S_Zci) (fn:=Tryz.f153) hmix Zci_env Tryz.func153 rfl (by kernel_rfl) (by kernel_rfl) done_nil (by kernel_rfl) (by kernel_rfl) Zci_eq
def Zbu (a0:Arr4_BitVec64):Option ((Unit) × (Arr4_BitVec64 × Unit)):=
 ((Zci a0.a1 (13#64)).bind fun r1=>((Zci (a0.a0 + a0.a1) (32#64)).bind fun r2=>((Zci a0.a3 (16#64)).bind fun r3=>((Zci (r3.2.1 ^^^ (a0.a2 + a0.a3)) (21#64)).bind fun r4=>((Zci (r1.2.1 ^^^ (a0.a0 + a0.a1)) (17#64)).bind fun r5=>(let v6:BitVec 64:=(r5.2.1 ^^^ ((a0.a2 + a0.a3) + (r1.2.1 ^^^ (a0.a0 + a0.a1))))
 ((Zci ((a0.a2 + a0.a3) + (r1.2.1 ^^^ (a0.a0 + a0.a1))) (32#64)).bind fun r7=>(some ((),((⟨(r2.2.1 + (r3.2.1 ^^^ (a0.a2 + a0.a3))),v6,r7.2.1,(r4.2.1 ^^^ (r2.2.1 + (r3.2.1 ^^^ (a0.a2 + a0.a3))))⟩:Arr4_BitVec64),()))))))))))
def S_Zbu:FSpec T:=⟨[.f (.v (.agg 14))],[(.v (.agg 14))],fun x=>Zbu x.1⟩
def E_Zbu:Env T:=⟨tab.find,cd,globs,flc,fun f ds=>match f with
    | 153=>some S_Zci
    | _=>none,fun f=>match f with
    | 153=>true
    | _=>false⟩
def A_Zbu:Loc2 T:=⟨fun id=>match id with
    | _=>none,fun r=>match r with
    | _=>none,fun r=>match r with
    | _=>false⟩
theorem Zbu_eq (x:tySs T S_Zbu.ps):run E_Zbu A_Zbu (Tryz.f121.body.getD .skip) (enterT E_Zbu.C S_Zbu.ps x) (retK E_Zbu Tryz.f121.results.toList S_Zbu.ps S_Zbu.rs)=S_Zbu.fn x:=by kernel_rfl
theorem Zbu_env:EnvOk Tryz.prog E_Zbu:=envOk (E:=E_Zbu) cd_ok tys fl_ok fun f ds S h=>by
    dsimp only [E_Zbu] at h
    split at h
    · cases h; exact Zci_ok
    · cases h
theorem Zbu_ok:SoundT Tryz.prog cd gdn 121 S_Zbu:=
  sound_fn (E:=E_Zbu) (A:=A_Zbu) (done:=[]) (c:=(Tryz.f121.body.getD .skip)) (S:=S_Zbu) (fn:=Tryz.f121) hmix Zbu_env Tryz.func121 rfl (by kernel_rfl) (by kernel_rfl) done_nil (by kernel_rfl) (by kernel_rfl) Zbu_eq
def Zcu_L2b (y0:(List (UInt8))) (y1:(Arr4_BitVec64 × Unit)) (y2:Int) (y3:(BitVec 64)) (y4:Int):Option (((List (UInt8)) × (Arr4_BitVec64 × Unit) × Int × (BitVec 64) × Int × Unit) ⊕ ((List (UInt8)) × (Arr4_BitVec64 × Unit) × Int × (BitVec 64) × Unit)):=
 (bif (decide ((0:Int) ≤ y4)) then (bif (decide ((IntKind.wrap .i64 (y2 + y4)) < ((y0).length:Int))) then ((getI y0 (IntKind.wrap .i64 (y2 + y4))).bind fun x1=>(some (Sum.inl (y0,(y1.1,()),y2,((y3 <<< 8) ||| (BitVec.setWidth 64 x1.toBitVec)),(IntKind.wrap .i64 (y4 - (1:Int))),()))))
 else (bif (decide (y4=(7:Int))) then (let v2:BitVec 64:=(BitVec.setWidth 64 (UInt8.ofBitVec (BitVec.ofInt 8 ((y0).length:Int))).toBitVec)
 (some (Sum.inl (y0,(y1.1,()),y2,((y3 <<< 8) ||| v2),(IntKind.wrap .i64 (y4 - (1:Int))),()))))
 else (some (Sum.inl (y0,(y1.1,()),y2,((y3 <<< 8) ||| (BitVec.setWidth 64 (0:UInt8).toBitVec)),(IntKind.wrap .i64 (y4 - (1:Int))),())))))
 else (some (Sum.inr (y0,(y1.1,()),y2,y3,()))))
def Zcu_L2 (y:((List (UInt8)) × (Arr4_BitVec64 × Unit) × Int × (BitVec 64) × Int × Unit)):Option ((List (UInt8)) × (Arr4_BitVec64 × Unit) × Int × (BitVec 64) × Unit):=iter (fun (y:((List (UInt8)) × (Arr4_BitVec64 × Unit) × Int × (BitVec 64) × Int × Unit))=>Zcu_L2b y.1 y.2.1 y.2.2.1 y.2.2.2.1 y.2.2.2.2.1) rounds y
def Zcu_L0b (y0:(List (UInt8))) (y1:(Arr4_BitVec64 × Unit)) (y2:Int):Option (((List (UInt8)) × (Arr4_BitVec64 × Unit) × Int × Unit) ⊕ ((Arr4_BitVec64 × Unit) × Unit)):=
 (bif (decide (y2 ≤ ((y0).length:Int))) then ((Zcu_L2 (y0,(y1.1,()),y2,0#64,(7:Int),())).bind (fun (z1:((List (UInt8)) × (Arr4_BitVec64 × Unit) × Int × (BitVec 64) × Unit))=>((Zbu (⟨z1.2.1.1.a0,z1.2.1.1.a1,z1.2.1.1.a2,(z1.2.1.1.a3 ^^^ z1.2.2.2.1)⟩:Arr4_BitVec64)).bind fun r2=>((Zbu r2.2.1).bind fun r3=>(some (Sum.inl (z1.1,((⟨(r3.2.1.a0 ^^^ z1.2.2.2.1),r3.2.1.a1,r3.2.1.a2,r3.2.1.a3⟩:Arr4_BitVec64),()),(IntKind.wrap .i64 (z1.2.2.1 + (8:Int))),())))))))
 else (some (Sum.inr ((y1.1,()),()))))
def Zcu_L0 (y:((List (UInt8)) × (Arr4_BitVec64 × Unit) × Int × Unit)):Option ((Arr4_BitVec64 × Unit) × Unit):=iter (fun (y:((List (UInt8)) × (Arr4_BitVec64 × Unit) × Int × Unit))=>Zcu_L0b y.1 y.2.1 y.2.2.1) rounds y
def Zcu (a0:(BitVec 64)) (a1:(BitVec 64)) (a2:(List (UInt8))):Option ((Unit) × ((BitVec 64) × Unit)):=
 ((Zcu_L0 (a2,((⟨(a0 ^^^ 8317987319222330741#64),(a1 ^^^ 7237128888997146477#64),(a0 ^^^ 7816392313619706465#64),(a1 ^^^ 8387220255154660723#64)⟩:Arr4_BitVec64),()),(0:Int),())).bind (fun (z4:((Arr4_BitVec64 × Unit) × Unit))=>((Zbu (⟨z4.1.1.a0,z4.1.1.a1,(z4.1.1.a2 ^^^ 255#64),z4.1.1.a3⟩:Arr4_BitVec64)).bind fun r5=>((Zbu r5.2.1).bind fun r6=>((Zbu r6.2.1).bind fun r7=>((Zbu r7.2.1).bind fun r8=>(some ((),((((r8.2.1.a0 ^^^ r8.2.1.a1) ^^^ r8.2.1.a2) ^^^ r8.2.1.a3),())))))))))
def S_Zcu:FSpec T:=⟨[.f (.v .u64),.f (.v .u64),.f (.v (.rs 0))],[(.v .u64)],fun x=>Zcu x.1 x.2.1 x.2.2.1⟩
def E_Zcu:Env T:=⟨tab.find,cd,globs,flc,fun f ds=>match f with
    | 121=>some S_Zbu
    | _=>none,fun f=>match f with
    | 121=>true
    | _=>false⟩
def A_Zcu:Loc2 T:=⟨fun id=>match id with
    | 2=>some ⟨[(2,.f (.v (.rs 0))),(7,.ptr [(.v (.agg 14))]),(8,.f (.v (.int .i64))),(9,.f (.v .u64)),(10,.f (.v (.int .i64)))],[(.exit 2,[(2,.f (.v (.rs 0))),(7,.ptr [(.v (.agg 14))]),(8,.f (.v (.int .i64))),(9,.f (.v .u64))])],Zcu_L2,[]⟩
    | 0=>some ⟨[(2,.f (.v (.rs 0))),(7,.ptr [(.v (.agg 14))]),(8,.f (.v (.int .i64)))],[(.exit 0,[(7,.ptr [(.v (.agg 14))])])],Zcu_L0,[]⟩
    | _=>none,fun r=>match r with
    | _=>none,fun r=>match r with
    | _=>false⟩
theorem Zcu_L2_eq (y0:(List (UInt8))) (y1:(Arr4_BitVec64 × Unit)) (y2:Int) (y3:(BitVec 64)) (y4:Int):run E_Zcu A_Zcu (loopAt 2 (Tryz.f87.body.getD .skip)) (layC cd [(2,.f (.v (.rs 0))),(7,.ptr [(.v (.agg 14))]),(8,.f (.v (.int .i64))),(9,.f (.v .u64)),(10,.f (.v (.int .i64)))] [] (y0,y1,y2,y3,y4,())) (roundK cd [(2,.f (.v (.rs 0))),(7,.ptr [(.v (.agg 14))]),(8,.f (.v (.int .i64))),(9,.f (.v .u64)),(10,.f (.v (.int .i64)))] [] [(.exit 2,[(2,.f (.v (.rs 0))),(7,.ptr [(.v (.agg 14))]),(8,.f (.v (.int .i64))),(9,.f (.v .u64))])])=Zcu_L2b y0 y1 y2 y3 y4:=by kernel_rfl
theorem Zcu_L0_eq (y0:(List (UInt8))) (y1:(Arr4_BitVec64 × Unit)) (y2:Int):run E_Zcu A_Zcu (loopAt 0 (Tryz.f87.body.getD .skip)) (layC cd [(2,.f (.v (.rs 0))),(7,.ptr [(.v (.agg 14))]),(8,.f (.v (.int .i64)))] [] (y0,y1,y2,())) (roundK cd [(2,.f (.v (.rs 0))),(7,.ptr [(.v (.agg 14))]),(8,.f (.v (.int .i64)))] [] [(.exit 0,[(7,.ptr [(.v (.agg 14))])])])=Zcu_L0b y0 y1 y2:=by kernel_rfl
theorem Zcu_eq (x:tySs T S_Zcu.ps):run E_Zcu A_Zcu (Tryz.f87.body.getD .skip) (enterT E_Zcu.C S_Zcu.ps x) (retK E_Zcu Tryz.f87.results.toList S_Zcu.ps S_Zcu.rs)=S_Zcu.fn x:=by kernel_rfl
theorem Zcu_env:EnvOk Tryz.prog E_Zcu:=envOk (E:=E_Zcu) cd_ok tys fl_ok fun f ds S h=>by
    dsimp only [E_Zcu] at h
    split at h
    · cases h; exact Zbu_ok
    · cases h
theorem Zcu_L2_ok:LoopOk Tryz.prog E_Zcu Tryz.f87.ntmps (kqOf S_Zcu.ps 0) (loopAt 2 (Tryz.f87.body.getD .skip)) ⟨[(2,.f (.v (.rs 0))),(7,.ptr [(.v (.agg 14))]),(8,.f (.v (.int .i64))),(9,.f (.v .u64)),(10,.f (.v (.int .i64)))],[(.exit 2,[(2,.f (.v (.rs 0))),(7,.ptr [(.v (.agg 14))]),(8,.f (.v (.int .i64))),(9,.f (.v .u64))])],Zcu_L2,[]⟩:=
  loop_ok (A:=A_Zcu) (done:=[]) (c0:=(Tryz.f87.body.getD .skip)) hmix Zcu_env done_nil rounds (by kernel_rfl) (by kernel_rfl) (fun x=>Zcu_L2_eq x.1 x.2.1 x.2.2.1 x.2.2.2.1 x.2.2.2.2.1) (fun _=>rfl)
theorem Zcu_L0_ok:LoopOk Tryz.prog E_Zcu Tryz.f87.ntmps (kqOf S_Zcu.ps 0) (loopAt 0 (Tryz.f87.body.getD .skip)) ⟨[(2,.f (.v (.rs 0))),(7,.ptr [(.v (.agg 14))]),(8,.f (.v (.int .i64)))],[(.exit 0,[(7,.ptr [(.v (.agg 14))])])],Zcu_L0,[]⟩:=
  loop_ok (A:=A_Zcu) (done:=[2]) (c0:=(Tryz.f87.body.getD .skip)) hmix Zcu_env (done_cons rfl Zcu_L2_ok done_nil) rounds (by kernel_rfl) (by kernel_rfl) (fun x=>Zcu_L0_eq x.1 x.2.1 x.2.2.1) (fun _=>rfl)
theorem Zcu_ok:SoundT Tryz.prog cd gdn 87 S_Zcu:=
  sound_fn (E:=E_Zcu) (A:=A_Zcu) (done:=[2,0]) (c:=(Tryz.f87.body.getD .skip)) (S:=S_Zcu) (fn:=Tryz.f87) hmix Zcu_env Tryz.func87 rfl (by kernel_rfl) (by kernel_rfl) (done_cons rfl Zcu_L2_ok (done_cons rfl Zcu_L0_ok done_nil)) (by kernel_rfl) (by kernel_rfl) Zcu_eq
def Zct (a0:(BitVec 64)) (a1:Int) (a2:(List (UInt8))):Option ((Unit) × ((BitVec 64) × Unit)):=
 ((Zcu a0 (1#64 + (BitVec.ofInt 64 a1)) a2).bind fun r1=>(some ((),(r1.2.1,()))))
def S_Zct:FSpec T:=⟨[.f (.v .u64),.f (.v (.int .i64)),.f (.v (.rs 0))],[(.v .u64)],fun x=>Zct x.1 x.2.1 x.2.2.1⟩
def E_Zct:Env T:=⟨tab.find,cd,globs,flc,fun f ds=>match f with
    | 87=>some S_Zcu
    | _=>none,fun f=>match f with
    | 87=>true
    | _=>false⟩
def A_Zct:Loc2 T:=⟨fun id=>match id with
    | _=>none,fun r=>match r with
    | _=>none,fun r=>match r with
    | _=>false⟩
theorem Zct_eq (x:tySs T S_Zct.ps):run E_Zct A_Zct (Tryz.f57.body.getD .skip) (enterT E_Zct.C S_Zct.ps x) (retK E_Zct Tryz.f57.results.toList S_Zct.ps S_Zct.rs)=S_Zct.fn x:=by kernel_rfl
theorem Zct_env:EnvOk Tryz.prog E_Zct:=envOk (E:=E_Zct) cd_ok tys fl_ok fun f ds S h=>by
    dsimp only [E_Zct] at h
    split at h
    · cases h; exact Zcu_ok
    · cases h
theorem Zct_ok:SoundT Tryz.prog cd gdn 57 S_Zct:=
  sound_fn (E:=E_Zct) (A:=A_Zct) (done:=[]) (c:=(Tryz.f57.body.getD .skip)) (S:=S_Zct) (fn:=Tryz.f57) hmix Zct_env Tryz.func57 rfl (by kernel_rfl) (by kernel_rfl) done_nil (by kernel_rfl) (by kernel_rfl) Zct_eq
def Zbf (a0:(BitVec 64)) (a1:(List UInt8)) (a2:Int):Option ((Unit) × ((BitVec 64) × Unit)):=
 (bif small ((a1).length + (([(0:UInt8)]:List (UInt8)):List (UInt8)).length) 1 then ((passkeyref1_Words ([(BitVec.ofInt 64 a2)]:List (BitVec 64))).bind fun r1=>(bif small (((a1 ++ ([(0:UInt8)]:List (UInt8)))).length + (r1.2.1:List (UInt8)).length) 1 then (let v2:List (UInt8):=((a1 ++ ([(0:UInt8)]:List (UInt8))) ++ r1.2.1)
 ((Zct a0 (4:Int) v2).bind fun r3=>(some ((),(r3.2.1,())))))
 else none))
 else none)
def S_Zbf:FSpec T:=⟨[.f (.v .u64),.f (.v .str),.f (.v (.int .i64))],[(.v .u64)],fun x=>Zbf x.1 x.2.1 x.2.2.1⟩
def E_Zbf:Env T:=⟨tab.find,cd,globs,flc,fun f ds=>match f with
    | 21=>some S_passkeyref1_Words
    | 57=>some S_Zct
    | _=>none,fun f=>match f with
    | 57=>true
    | _=>false⟩
def A_Zbf:Loc2 T:=⟨fun id=>match id with
    | _=>none,fun r=>match r with
    | _=>none,fun r=>match r with
    | _=>false⟩
theorem Zbf_eq (x:tySs T S_Zbf.ps):run E_Zbf A_Zbf (Tryz.f19.body.getD .skip) (enterT E_Zbf.C S_Zbf.ps x) (retK E_Zbf Tryz.f19.results.toList S_Zbf.ps S_Zbf.rs)=S_Zbf.fn x:=by kernel_rfl
theorem Zbf_env:EnvOk Tryz.prog E_Zbf:=envOk (E:=E_Zbf) cd_ok tys fl_ok fun f ds S h=>by
    dsimp only [E_Zbf] at h
    split at h
    · cases h; exact passkeyref1_Words_ok
    · cases h; exact Zct_ok
    · cases h
theorem Zbf_ok:SoundT Tryz.prog cd gdn 19 S_Zbf:=
  sound_fn (E:=E_Zbf) (A:=A_Zbf) (done:=[]) (c:=(Tryz.f19.body.getD .skip)) (S:=S_Zbf) (fn:=Tryz.f19) hmix Zbf_env Tryz.func19 rfl (by kernel_rfl) (by kernel_rfl) done_nil (by kernel_rfl) (by kernel_rfl) Zbf_eq
def Zbi_L0b (y0:(BitVec 64)) (y1:(BitVec 64)) (y2:Int) (y3:(List (UInt8))) (y4:Int):Option (((BitVec 64) × (BitVec 64) × Int × (List (UInt8)) × Int × Unit) ⊕ (Int × (List (UInt8)) × Unit)):=
 (bif (decide (((y3).length:Int) < y2)) then ((passkeyref1_Words ([y1,(BitVec.ofInt 64 y4)]:List (BitVec 64))).bind fun r2=>((Zct y0 (5:Int) r2.2.1).bind fun r3=>((passkeyref1_Words ([r3.2.1]:List (BitVec 64))).bind fun r4=>(bif small ((y3).length + (r4.2.1:List (UInt8)).length) 1 then (some (Sum.inl (y0,y1,y2,(y3 ++ r4.2.1),(IntKind.wrap .i64 (y4 + (1:Int))),())))
 else none))))
 else (some (Sum.inr (y2,y3,()))))
def Zbi_L0 (y:((BitVec 64) × (BitVec 64) × Int × (List (UInt8)) × Int × Unit)):Option (Int × (List (UInt8)) × Unit):=iter (fun (y:((BitVec 64) × (BitVec 64) × Int × (List (UInt8)) × Int × Unit))=>Zbi_L0b y.1 y.2.1 y.2.2.1 y.2.2.2.1 y.2.2.2.2.1) rounds y
def Zbi (a0:(BitVec 64)) (a1:(BitVec 64)) (a2:Int):Option ((Unit) × ((List (UInt8)) × Unit)):=
 (let v1:Int:=(bif decide ((1024:Int) < (bif decide (a2 < (0:Int)) then (0:Int) else a2)) then (1024:Int) else (bif decide (a2 < (0:Int)) then (0:Int) else a2))
 ((Zbi_L0 (a0,a1,v1,[],(0:Int),())).bind (fun (z5:(Int × (List (UInt8)) × Unit))=>(bif (decide ((0:Int) ≤ z5.1) && decide (z5.1 ≤ ((z5.2.1).length:Int))) then (bif decide ((z5.1).toNat ≤ (z5.2.1).length) then (some ((),((List.take (z5.1).toNat z5.2.1),())))
 else none)
 else none))))
def S_Zbi:FSpec T:=⟨[.f (.v .u64),.f (.v .u64),.f (.v (.int .i64))],[(.own 0)],fun x=>Zbi x.1 x.2.1 x.2.2.1⟩
def E_Zbi:Env T:=⟨tab.find,cd,globs,flc,fun f ds=>match f with
    | 21=>some S_passkeyref1_Words
    | 57=>some S_Zct
    | _=>none,fun f=>match f with
    | 57=>true
    | _=>false⟩
def A_Zbi:Loc2 T:=⟨fun id=>match id with
    | 0=>some ⟨[(0,.f (.v .u64)),(1,.f (.v .u64)),(2,.f (.v (.int .i64))),(7,.f (.own 0)),(8,.f (.v (.int .i64)))],[(.exit 0,[(2,.f (.v (.int .i64))),(7,.f (.own 0))])],Zbi_L0,[]⟩
    | _=>none,fun r=>match r with
    | _=>none,fun r=>match r with
    | _=>false⟩
theorem Zbi_L0_eq (y0:(BitVec 64)) (y1:(BitVec 64)) (y2:Int) (y3:(List (UInt8))) (y4:Int):run E_Zbi A_Zbi (loopAt 0 (Tryz.f55.body.getD .skip)) (layC cd [(0,.f (.v .u64)),(1,.f (.v .u64)),(2,.f (.v (.int .i64))),(7,.f (.own 0)),(8,.f (.v (.int .i64)))] [] (y0,y1,y2,y3,y4,())) (roundK cd [(0,.f (.v .u64)),(1,.f (.v .u64)),(2,.f (.v (.int .i64))),(7,.f (.own 0)),(8,.f (.v (.int .i64)))] [] [(.exit 0,[(2,.f (.v (.int .i64))),(7,.f (.own 0))])])=Zbi_L0b y0 y1 y2 y3 y4:=by kernel_rfl
theorem Zbi_eq (x:tySs T S_Zbi.ps):run E_Zbi A_Zbi (Tryz.f55.body.getD .skip) (enterT E_Zbi.C S_Zbi.ps x) (retK E_Zbi Tryz.f55.results.toList S_Zbi.ps S_Zbi.rs)=S_Zbi.fn x:=by kernel_rfl
theorem Zbi_env:EnvOk Tryz.prog E_Zbi:=envOk (E:=E_Zbi) cd_ok tys fl_ok fun f ds S h=>by
    dsimp only [E_Zbi] at h
    split at h
    · cases h; exact passkeyref1_Words_ok
    · cases h; exact Zct_ok
    · cases h
theorem Zbi_L0_ok:LoopOk Tryz.prog E_Zbi Tryz.f55.ntmps (kqOf S_Zbi.ps 0) (loopAt 0 (Tryz.f55.body.getD .skip)) ⟨[(0,.f (.v .u64)),(1,.f (.v .u64)),(2,.f (.v (.int .i64))),(7,.f (.own 0)),(8,.f (.v (.int .i64)))],[(.exit 0,[(2,.f (.v (.int .i64))),(7,.f (.own 0))])],Zbi_L0,[]⟩:=
  loop_ok (A:=A_Zbi) (done:=[]) (c0:=(Tryz.f55.body.getD .skip)) hmix Zbi_env done_nil rounds (by kernel_rfl) (by kernel_rfl) (fun x=>Zbi_L0_eq x.1 x.2.1 x.2.2.1 x.2.2.2.1 x.2.2.2.2.1) (fun _=>rfl)
theorem Zbi_ok:SoundT Tryz.prog cd gdn 55 S_Zbi:=
  sound_fn (E:=E_Zbi) (A:=A_Zbi) (done:=[0]) (c:=(Tryz.f55.body.getD .skip)) (S:=S_Zbi) (fn:=Tryz.f55) hmix Zbi_env Tryz.func55 rfl (by kernel_rfl) (by kernel_rfl) (done_cons rfl Zbi_L0_ok done_nil) (by kernel_rfl) (by kernel_rfl) Zbi_eq
def Zao (a0:(BitVec 64)):Option ((Unit) × ((BitVec 64) × Unit)):=
 ((Zbf a0 ([119,114,97,112]:List UInt8) (0:Int)).bind fun r1=>(some ((),(r1.2.1,()))))
def S_Zao:FSpec T:=⟨[.f (.v .u64)],[(.v .u64)],fun x=>Zao x.1⟩
def E_Zao:Env T:=⟨tab.find,cd,globs,flc,fun f ds=>match f with
    | 19=>some S_Zbf
    | _=>none,fun f=>match f with
    | 19=>true
    | _=>false⟩
def A_Zao:Loc2 T:=⟨fun id=>match id with
    | _=>none,fun r=>match r with
    | _=>none,fun r=>match r with
    | _=>false⟩
theorem Zao_eq (x:tySs T S_Zao.ps):run E_Zao A_Zao (Tryz.f56.body.getD .skip) (enterT E_Zao.C S_Zao.ps x) (retK E_Zao Tryz.f56.results.toList S_Zao.ps S_Zao.rs)=S_Zao.fn x:=by kernel_rfl
theorem Zao_env:EnvOk Tryz.prog E_Zao:=envOk (E:=E_Zao) cd_ok tys fl_ok fun f ds S h=>by
    dsimp only [E_Zao] at h
    split at h
    · cases h; exact Zbf_ok
    · cases h
theorem Zao_ok:SoundT Tryz.prog cd gdn 56 S_Zao:=
  sound_fn (E:=E_Zao) (A:=A_Zao) (done:=[]) (c:=(Tryz.f56.body.getD .skip)) (S:=S_Zao) (fn:=Tryz.f56) hmix Zao_env Tryz.func56 rfl (by kernel_rfl) (by kernel_rfl) done_nil (by kernel_rfl) (by kernel_rfl) Zao_eq
def Zce (a0:Int) (a1:(List (UInt8))):Option ((Unit) × ((BitVec 64) × Unit)):=
 ((Zcu (BitVec.ofInt 64 a0) (0#64) a1).bind fun r1=>(some ((),(r1.2.1,()))))
def S_Zce:FSpec T:=⟨[.f (.v (.int .i64)),.f (.v (.rs 0))],[(.v .u64)],fun x=>Zce x.1 x.2.1⟩
def E_Zce:Env T:=⟨tab.find,cd,globs,flc,fun f ds=>match f with
    | 87=>some S_Zcu
    | _=>none,fun f=>match f with
    | 87=>true
    | _=>false⟩
def A_Zce:Loc2 T:=⟨fun id=>match id with
    | _=>none,fun r=>match r with
    | _=>none,fun r=>match r with
    | _=>false⟩
theorem Zce_eq (x:tySs T S_Zce.ps):run E_Zce A_Zce (Tryz.f60.body.getD .skip) (enterT E_Zce.C S_Zce.ps x) (retK E_Zce Tryz.f60.results.toList S_Zce.ps S_Zce.rs)=S_Zce.fn x:=by kernel_rfl
theorem Zce_env:EnvOk Tryz.prog E_Zce:=envOk (E:=E_Zce) cd_ok tys fl_ok fun f ds S h=>by
    dsimp only [E_Zce] at h
    split at h
    · cases h; exact Zcu_ok
    · cases h
theorem Zce_ok:SoundT Tryz.prog cd gdn 60 S_Zce:=
  sound_fn (E:=E_Zce) (A:=A_Zce) (done:=[]) (c:=(Tryz.f60.body.getD .skip)) (S:=S_Zce) (fn:=Tryz.f60) hmix Zce_env Tryz.func60 rfl (by kernel_rfl) (by kernel_rfl) done_nil (by kernel_rfl) (by kernel_rfl) Zce_eq
def Zau (a0:(List UInt8)):Option ((Unit) × ((BitVec 64) × Unit)):=
 ((Zce (9:Int) a0).bind fun r1=>(some ((),(r1.2.1,()))))
def S_Zau:FSpec T:=⟨[.f (.v .str)],[(.v .u64)],fun x=>Zau x.1⟩
def E_Zau:Env T:=⟨tab.find,cd,globs,flc,fun f ds=>match f with
    | 60=>some S_Zce
    | _=>none,fun f=>match f with
    | 60=>true
    | _=>false⟩
def A_Zau:Loc2 T:=⟨fun id=>match id with
    | _=>none,fun r=>match r with
    | _=>none,fun r=>match r with
    | _=>false⟩
theorem Zau_eq (x:tySs T S_Zau.ps):run E_Zau A_Zau (Tryz.f22.body.getD .skip) (enterT E_Zau.C S_Zau.ps x) (retK E_Zau Tryz.f22.results.toList S_Zau.ps S_Zau.rs)=S_Zau.fn x:=by kernel_rfl
theorem Zau_env:EnvOk Tryz.prog E_Zau:=envOk (E:=E_Zau) cd_ok tys fl_ok fun f ds S h=>by
    dsimp only [E_Zau] at h
    split at h
    · cases h; exact Zce_ok
    · cases h
theorem Zau_ok:SoundT Tryz.prog cd gdn 22 S_Zau:=
  sound_fn (E:=E_Zau) (A:=A_Zau) (done:=[]) (c:=(Tryz.f22.body.getD .skip)) (S:=S_Zau) (fn:=Tryz.f22) hmix Zau_env Tryz.func22 rfl (by kernel_rfl) (by kernel_rfl) done_nil (by kernel_rfl) (by kernel_rfl) Zau_eq
def Zcv_L0b (y0:(List (UInt8))) (y1:(List (UInt8))) (y2:(List (UInt8))) (y3:Int):Option (((List (UInt8)) × (List (UInt8)) × (List (UInt8)) × Int × Unit) ⊕ ((List (UInt8)) × Unit)):=
 (bif (decide (y3 < ((y0).length:Int))) then ((getI y0 y3).bind fun x2=>(bif (decide ((0:Int) ≤ y3) && decide (y3 < ((y1).length:Int))) then (((y1)[(y3).toNat]?).bind fun x3=>(let v4:List (UInt8):=([(UInt8.ofBitVec (x2.toBitVec ^^^ x3.toBitVec))]:List (UInt8))
 (bif small ((y2).length + (v4:List (UInt8)).length) 1 then (some (Sum.inl (y0,y1,(y2 ++ v4),(IntKind.wrap .i64 (y3 + (1:Int))),())))
 else none)))
 else none))
 else (some (Sum.inr (y2,()))))
def Zcv_L0 (y:((List (UInt8)) × (List (UInt8)) × (List (UInt8)) × Int × Unit)):Option ((List (UInt8)) × Unit):=iter (fun (y:((List (UInt8)) × (List (UInt8)) × (List (UInt8)) × Int × Unit))=>Zcv_L0b y.1 y.2.1 y.2.2.1 y.2.2.2.1) rounds y
def Zcv (a0:(BitVec 64)) (a1:(BitVec 64)) (a2:(List (UInt8))):Option ((Unit) × ((List (UInt8)) × Unit)):=
 ((Zbi a0 a1 ((a2).length:Int)).bind fun r1=>((Zcv_L0 (a2,r1.2.1,[],(0:Int),())).bind (fun (z5:((List (UInt8)) × Unit))=>(some ((),(z5.1,()))))))
def S_Zcv:FSpec T:=⟨[.f (.v .u64),.f (.v .u64),.f (.v (.rs 0))],[(.own 0)],fun x=>Zcv x.1 x.2.1 x.2.2.1⟩
def E_Zcv:Env T:=⟨tab.find,cd,globs,flc,fun f ds=>match f with
    | 55=>some S_Zbi
    | _=>none,fun f=>match f with
    | _=>false⟩
def A_Zcv:Loc2 T:=⟨fun id=>match id with
    | 0=>some ⟨[(2,.f (.v (.rs 0))),(7,.f (.own 0)),(8,.f (.own 0)),(9,.f (.v (.int .i64)))],[(.exit 0,[(8,.f (.own 0))])],Zcv_L0,[]⟩
    | _=>none,fun r=>match r with
    | _=>none,fun r=>match r with
    | _=>false⟩
theorem Zcv_L0_eq (y0:(List (UInt8))) (y1:(List (UInt8))) (y2:(List (UInt8))) (y3:Int):run E_Zcv A_Zcv (loopAt 0 (Tryz.f58.body.getD .skip)) (layC cd [(2,.f (.v (.rs 0))),(7,.f (.own 0)),(8,.f (.own 0)),(9,.f (.v (.int .i64)))] [] (y0,y1,y2,y3,())) (roundK cd [(2,.f (.v (.rs 0))),(7,.f (.own 0)),(8,.f (.own 0)),(9,.f (.v (.int .i64)))] [] [(.exit 0,[(8,.f (.own 0))])])=Zcv_L0b y0 y1 y2 y3:=by kernel_rfl
theorem Zcv_eq (x:tySs T S_Zcv.ps):run E_Zcv A_Zcv (Tryz.f58.body.getD .skip) (enterT E_Zcv.C S_Zcv.ps x) (retK E_Zcv Tryz.f58.results.toList S_Zcv.ps S_Zcv.rs)=S_Zcv.fn x:=by kernel_rfl
theorem Zcv_env:EnvOk Tryz.prog E_Zcv:=envOk (E:=E_Zcv) cd_ok tys fl_ok fun f ds S h=>by
    dsimp only [E_Zcv] at h
    split at h
    · cases h; exact Zbi_ok
    · cases h
theorem Zcv_L0_ok:LoopOk Tryz.prog E_Zcv Tryz.f58.ntmps (kqOf S_Zcv.ps 0) (loopAt 0 (Tryz.f58.body.getD .skip)) ⟨[(2,.f (.v (.rs 0))),(7,.f (.own 0)),(8,.f (.own 0)),(9,.f (.v (.int .i64)))],[(.exit 0,[(8,.f (.own 0))])],Zcv_L0,[]⟩:=
  loop_ok (A:=A_Zcv) (done:=[]) (c0:=(Tryz.f58.body.getD .skip)) hmix Zcv_env done_nil rounds (by kernel_rfl) (by kernel_rfl) (fun x=>Zcv_L0_eq x.1 x.2.1 x.2.2.1 x.2.2.2.1) (fun _=>rfl)
theorem Zcv_ok:SoundT Tryz.prog cd gdn 58 S_Zcv:=
  sound_fn (E:=E_Zcv) (A:=A_Zcv) (done:=[0]) (c:=(Tryz.f58.body.getD .skip)) (S:=S_Zcv) (fn:=Tryz.f58) hmix Zcv_env Tryz.func58 rfl (by kernel_rfl) (by kernel_rfl) (done_cons rfl Zcv_L0_ok done_nil) (by kernel_rfl) (by kernel_rfl) Zcv_eq
def Zcw (a0:(BitVec 64)) (a1:(BitVec 64)) (a2:(List (UInt8))) (a3:(List (UInt8))):Option ((Unit) × ((BitVec 64) × Unit)):=
 (let v1:List (BitVec 64):=([a1,(BitVec.ofInt 64 ((a2).length:Int))]:List (BitVec 64))
 ((passkeyref1_Words v1).bind fun r2=>(bif small ((r2.2.1).length + (a2:List (UInt8)).length) 1 then (bif small (((r2.2.1 ++ a2)).length + (a3:List (UInt8)).length) 1 then ((Zct a0 (6:Int) ((r2.2.1 ++ a2) ++ a3)).bind fun r3=>(some ((),(r3.2.1,()))))
 else none)
 else none)))
def S_Zcw:FSpec T:=⟨[.f (.v .u64),.f (.v .u64),.f (.v (.rs 0)),.f (.v (.rs 0))],[(.v .u64)],fun x=>Zcw x.1 x.2.1 x.2.2.1 x.2.2.2.1⟩
def E_Zcw:Env T:=⟨tab.find,cd,globs,flc,fun f ds=>match f with
    | 21=>some S_passkeyref1_Words
    | 57=>some S_Zct
    | _=>none,fun f=>match f with
    | 57=>true
    | _=>false⟩
def A_Zcw:Loc2 T:=⟨fun id=>match id with
    | _=>none,fun r=>match r with
    | _=>none,fun r=>match r with
    | _=>false⟩
theorem Zcw_eq (x:tySs T S_Zcw.ps):run E_Zcw A_Zcw (Tryz.f59.body.getD .skip) (enterT E_Zcw.C S_Zcw.ps x) (retK E_Zcw Tryz.f59.results.toList S_Zcw.ps S_Zcw.rs)=S_Zcw.fn x:=by kernel_rfl
theorem Zcw_env:EnvOk Tryz.prog E_Zcw:=envOk (E:=E_Zcw) cd_ok tys fl_ok fun f ds S h=>by
    dsimp only [E_Zcw] at h
    split at h
    · cases h; exact passkeyref1_Words_ok
    · cases h; exact Zct_ok
    · cases h
theorem Zcw_ok:SoundT Tryz.prog cd gdn 59 S_Zcw:=
  sound_fn (E:=E_Zcw) (A:=A_Zcw) (done:=[]) (c:=(Tryz.f59.body.getD .skip)) (S:=S_Zcw) (fn:=Tryz.f59) hmix Zcw_env Tryz.func59 rfl (by kernel_rfl) (by kernel_rfl) done_nil (by kernel_rfl) (by kernel_rfl) Zcw_eq
def Zck (a0:(BitVec 64)) (a1:(BitVec 64)) (a2:(List (UInt8))) (a3:(List (UInt8))):Option ((Unit) × ((List (UInt8)) × Int × Unit)):=
 (bif (decide ((1024:Int) < ((a3).length:Int))) then (some ((),([],(8:Int),())))
 else (bif (decide ((1024:Int) < ((a2).length:Int))) then (some ((),([],(8:Int),())))
 else ((Zcv a0 a1 a3).bind fun r1=>((passkeyref1_Words ([a1]:List (BitVec 64))).bind fun r2=>(bif small ((r2.2.1).length + (r1.2.1:List (UInt8)).length) 1 then ((Zcw a0 a1 a2 r1.2.1).bind fun r3=>((passkeyref1_Words ([r3.2.1]:List (BitVec 64))).bind fun r4=>(bif small (((r2.2.1 ++ r1.2.1)).length + (r4.2.1:List (UInt8)).length) 1 then (some ((),(((r2.2.1 ++ r1.2.1) ++ r4.2.1),(0:Int),())))
 else none)))
 else none)))))
def S_Zck:FSpec T:=⟨[.f (.v .u64),.f (.v .u64),.f (.v (.rs 0)),.f (.v (.rs 0))],[(.own 0),(.v (.int .i64))],fun x=>Zck x.1 x.2.1 x.2.2.1 x.2.2.2.1⟩
def E_Zck:Env T:=⟨tab.find,cd,globs,flc,fun f ds=>match f with
    | 21=>some S_passkeyref1_Words
    | 58=>some S_Zcv
    | 59=>some S_Zcw
    | _=>none,fun f=>match f with
    | 59=>true
    | _=>false⟩
def A_Zck:Loc2 T:=⟨fun id=>match id with
    | _=>none,fun r=>match r with
    | _=>none,fun r=>match r with
    | _=>false⟩
theorem Zck_eq (x:tySs T S_Zck.ps):run E_Zck A_Zck (Tryz.f20.body.getD .skip) (enterT E_Zck.C S_Zck.ps x) (retK E_Zck Tryz.f20.results.toList S_Zck.ps S_Zck.rs)=S_Zck.fn x:=by kernel_rfl
theorem Zck_env:EnvOk Tryz.prog E_Zck:=envOk (E:=E_Zck) cd_ok tys fl_ok fun f ds S h=>by
    dsimp only [E_Zck] at h
    split at h
    · cases h; exact passkeyref1_Words_ok
    · cases h; exact Zcv_ok
    · cases h; exact Zcw_ok
    · cases h
theorem Zck_ok:SoundT Tryz.prog cd gdn 20 S_Zck:=
  sound_fn (E:=E_Zck) (A:=A_Zck) (done:=[]) (c:=(Tryz.f20.body.getD .skip)) (S:=S_Zck) (fn:=Tryz.f20) hmix Zck_env Tryz.func20 rfl (by kernel_rfl) (by kernel_rfl) done_nil (by kernel_rfl) (by kernel_rfl) Zck_eq
def Zcs (a0:(BitVec 64)) (a1:(BitVec 64)) (a2:ApiCredential):Option ((Unit) × ((List (UInt8)) × Int × Unit)):=
 ((Zad a2).bind fun r1=>(bif (!decide (r1.2.2.1=(0:Int))) then (some ((),([],r1.2.2.1,())))
 else (bif a2.resident then ((Zbf a2.seed ([105,100]:List UInt8) (0:Int)).bind fun r2=>((Zbi r2.2.1 (0#64) (176:Int)).bind fun r3=>(some ((),(r3.2.1,(0:Int),())))))
 else (let v4:List (UInt8):=(List.replicate 160 (0:UInt8))
 (bif decide ((r1.2.1:List (UInt8)).length ≤ (v4).length) then (let v5:List (UInt8):=(r1.2.1 ++ List.drop (r1.2.1:List (UInt8)).length v4)
 ((Zao a0).bind fun r6=>((Zau a2.rP).bind fun r7=>((passkeyref1_Words ([r7.2.1]:List (BitVec 64))).bind fun r8=>((Zck r6.2.1 a1 r8.2.1 v5).bind fun r9=>(some ((),(r9.2.1,r9.2.2.1,()))))))))
 else none)))))
def S_Zcs:FSpec T:=⟨[.f (.v .u64),.f (.v .u64),.f (.v (.agg 2))],[(.own 0),(.v (.int .i64))],fun x=>Zcs x.1 x.2.1 x.2.2.1⟩
def E_Zcs:Env T:=⟨tab.find,cd,globs,flc,fun f ds=>match f with
    | 13=>some S_Zad
    | 19=>some S_Zbf
    | 20=>some S_Zck
    | 21=>some S_passkeyref1_Words
    | 22=>some S_Zau
    | 55=>some S_Zbi
    | 56=>some S_Zao
    | _=>none,fun f=>match f with
    | 19=>true
    | 22=>true
    | 56=>true
    | _=>false⟩
def A_Zcs:Loc2 T:=⟨fun id=>match id with
    | _=>none,fun r=>match r with
    | _=>none,fun r=>match r with
    | _=>false⟩
theorem Zcs_eq (x:tySs T S_Zcs.ps):run E_Zcs A_Zcs (Tryz.f18.body.getD .skip) (enterT E_Zcs.C S_Zcs.ps x) (retK E_Zcs Tryz.f18.results.toList S_Zcs.ps S_Zcs.rs)=S_Zcs.fn x:=by kernel_rfl
theorem Zcs_env:EnvOk Tryz.prog E_Zcs:=envOk (E:=E_Zcs) cd_ok tys fl_ok fun f ds S h=>by
    dsimp only [E_Zcs] at h
    split at h
    · cases h; exact Zad_ok
    · cases h; exact Zbf_ok
    · cases h; exact Zck_ok
    · cases h; exact passkeyref1_Words_ok
    · cases h; exact Zau_ok
    · cases h; exact Zbi_ok
    · cases h; exact Zao_ok
    · cases h
theorem Zcs_ok:SoundT Tryz.prog cd gdn 18 S_Zcs:=
  sound_fn (E:=E_Zcs) (A:=A_Zcs) (done:=[]) (c:=(Tryz.f18.body.getD .skip)) (S:=S_Zcs) (fn:=Tryz.f18) hmix Zcs_env Tryz.func18 rfl (by kernel_rfl) (by kernel_rfl) done_nil (by kernel_rfl) (by kernel_rfl) Zcs_eq
def Zcg_L0b (y0:(List (UInt8))) (y1:(BitVec 64)) (y2:Int):Option (((List (UInt8)) × (BitVec 64) × Int × Unit) ⊕ ((BitVec 64) × Unit)):=
 (bif (decide (y2 < (8:Int))) then (bif (decide (y2 < ((y0).length:Int))) then ((getI y0 y2).bind fun x1=>(some (Sum.inl (y0,((y1 <<< 8) ||| (BitVec.setWidth 64 x1.toBitVec)),(IntKind.wrap .i64 (y2 + (1:Int))),()))))
 else (some (Sum.inr (y1,()))))
 else (some (Sum.inr (y1,()))))
def Zcg_L0 (y:((List (UInt8)) × (BitVec 64) × Int × Unit)):Option ((BitVec 64) × Unit):=iter (fun (y:((List (UInt8)) × (BitVec 64) × Int × Unit))=>Zcg_L0b y.1 y.2.1 y.2.2.1) rounds y
def Zcg (a0:(List (UInt8))):Option ((Unit) × ((BitVec 64) × Unit)):=
 ((Zcg_L0 (a0,0#64,(0:Int),())).bind (fun (z2:((BitVec 64) × Unit))=>(some ((),(z2.1,())))))
def S_Zcg:FSpec T:=⟨[.f (.v (.rs 0))],[(.v .u64)],fun x=>Zcg x.1⟩
def E_Zcg:Env T:=⟨tab.find,cd,globs,flc,fun f ds=>match f with
    | _=>none,fun f=>match f with
    | _=>false⟩
def A_Zcg:Loc2 T:=⟨fun id=>match id with
    | 0=>some ⟨[(0,.f (.v (.rs 0))),(3,.f (.v .u64)),(4,.f (.v (.int .i64)))],[(.exit 0,[(3,.f (.v .u64))])],Zcg_L0,[]⟩
    | _=>none,fun r=>match r with
    | _=>none,fun r=>match r with
    | _=>false⟩
theorem Zcg_L0_eq (y0:(List (UInt8))) (y1:(BitVec 64)) (y2:Int):run E_Zcg A_Zcg (loopAt 0 (Tryz.f122.body.getD .skip)) (layC cd [(0,.f (.v (.rs 0))),(3,.f (.v .u64)),(4,.f (.v (.int .i64)))] [] (y0,y1,y2,())) (roundK cd [(0,.f (.v (.rs 0))),(3,.f (.v .u64)),(4,.f (.v (.int .i64)))] [] [(.exit 0,[(3,.f (.v .u64))])])=Zcg_L0b y0 y1 y2:=by kernel_rfl
theorem Zcg_eq (x:tySs T S_Zcg.ps):run E_Zcg A_Zcg (Tryz.f122.body.getD .skip) (enterT E_Zcg.C S_Zcg.ps x) (retK E_Zcg Tryz.f122.results.toList S_Zcg.ps S_Zcg.rs)=S_Zcg.fn x:=by kernel_rfl
theorem Zcg_env:EnvOk Tryz.prog E_Zcg:=envOk (E:=E_Zcg) cd_ok tys fl_ok fun f ds S h=>by cases h
theorem Zcg_L0_ok:LoopOk Tryz.prog E_Zcg Tryz.f122.ntmps (kqOf S_Zcg.ps 0) (loopAt 0 (Tryz.f122.body.getD .skip)) ⟨[(0,.f (.v (.rs 0))),(3,.f (.v .u64)),(4,.f (.v (.int .i64)))],[(.exit 0,[(3,.f (.v .u64))])],Zcg_L0,[]⟩:=
  loop_ok (A:=A_Zcg) (done:=[]) (c0:=(Tryz.f122.body.getD .skip)) hmix Zcg_env done_nil rounds (by kernel_rfl) (by kernel_rfl) (fun x=>Zcg_L0_eq x.1 x.2.1 x.2.2.1) (fun _=>rfl)
theorem Zcg_ok:SoundT Tryz.prog cd gdn 122 S_Zcg:=
  sound_fn (E:=E_Zcg) (A:=A_Zcg) (done:=[0]) (c:=(Tryz.f122.body.getD .skip)) (S:=S_Zcg) (fn:=Tryz.f122) hmix Zcg_env Tryz.func122 rfl (by kernel_rfl) (by kernel_rfl) (done_cons rfl Zcg_L0_ok done_nil) (by kernel_rfl) (by kernel_rfl) Zcg_eq
def Zcj (a0:(BitVec 64)) (a1:(List (UInt8))) (a2:(List (UInt8))):Option ((Unit) × ((List (UInt8)) × Int × Unit)):=
 (bif (decide (((a2).length:Int) < (16:Int))) then (some ((),([],(1:Int),())))
 else (bif (decide ((1040:Int) < ((a2).length:Int))) then (some ((),([],(8:Int),())))
 else (bif (decide ((1024:Int) < ((a1).length:Int))) then (some ((),([],(8:Int),())))
 else (bif decide ((8:Int) ≤ ((a2).length:Int)) then ((Zcg (List.take 8 a2)).bind fun r1=>(bif (decide ((0:Int) ≤ (IntKind.wrap .i64 (((a2).length:Int) - (8:Int)))) && decide ((IntKind.wrap .i64 (((a2).length:Int) - (8:Int))) ≤ ((a2).length:Int))) then (bif decide ((8:Int) ≤ (((IntKind.wrap .i64 (((a2).length:Int) - (8:Int)))).toNat:Int)) then (let v2:List (UInt8):=(List.drop 8 (List.take ((IntKind.wrap .i64 (((a2).length:Int) - (8:Int)))).toNat a2))
 (bif (decide ((0:Int) ≤ (IntKind.wrap .i64 (((a2).length:Int) - (8:Int)))) && decide ((IntKind.wrap .i64 (((a2).length:Int) - (8:Int))) ≤ ((a2).length:Int))) then (let v3:List (UInt8):=(List.drop ((IntKind.wrap .i64 (((a2).length:Int) - (8:Int)))).toNat a2)
 ((Zcg v3).bind fun r4=>((Zcw a0 r1.2.1 a1 v2).bind fun r5=>(bif (!decide (r4.2.1=r5.2.1)) then (some ((),([],(14:Int),())))
 else ((Zcv a0 r1.2.1 v2).bind fun r6=>(some ((),(r6.2.1,(0:Int),()))))))))
 else none))
 else none)
 else none))
 else none))))
def S_Zcj:FSpec T:=⟨[.f (.v .u64),.f (.v (.rs 0)),.f (.v (.rs 0))],[(.own 0),(.v (.int .i64))],fun x=>Zcj x.1 x.2.1 x.2.2.1⟩
def E_Zcj:Env T:=⟨tab.find,cd,globs,flc,fun f ds=>match f with
    | 58=>some S_Zcv
    | 59=>some S_Zcw
    | 122=>some S_Zcg
    | _=>none,fun f=>match f with
    | 59=>true
    | 122=>true
    | _=>false⟩
def A_Zcj:Loc2 T:=⟨fun id=>match id with
    | _=>none,fun r=>match r with
    | _=>none,fun r=>match r with
    | _=>false⟩
theorem Zcj_eq (x:tySs T S_Zcj.ps):run E_Zcj A_Zcj (Tryz.f88.body.getD .skip) (enterT E_Zcj.C S_Zcj.ps x) (retK E_Zcj Tryz.f88.results.toList S_Zcj.ps S_Zcj.rs)=S_Zcj.fn x:=by kernel_rfl
theorem Zcj_env:EnvOk Tryz.prog E_Zcj:=envOk (E:=E_Zcj) cd_ok tys fl_ok fun f ds S h=>by
    dsimp only [E_Zcj] at h
    split at h
    · cases h; exact Zcv_ok
    · cases h; exact Zcw_ok
    · cases h; exact Zcg_ok
    · cases h
theorem Zcj_ok:SoundT Tryz.prog cd gdn 88 S_Zcj:=
  sound_fn (E:=E_Zcj) (A:=A_Zcj) (done:=[]) (c:=(Tryz.f88.body.getD .skip)) (S:=S_Zcj) (fn:=Tryz.f88) hmix Zcj_env Tryz.func88 rfl (by kernel_rfl) (by kernel_rfl) done_nil (by kernel_rfl) (by kernel_rfl) Zcj_eq
def Zav_L0b (y0:(List UInt8)) (y1:(ApiCredential × Unit)) (y2:(List (UInt8))) (y3:(ApiCredential × Unit)) (y4:Bool) (y5:Int):Option (((List UInt8) × (ApiCredential × Unit) × (List (UInt8)) × (ApiCredential × Unit) × Bool × Int × Unit) ⊕ ((List UInt8) × (ApiCredential × Unit) × (ApiCredential × Unit) × Bool × Unit)):=
 (bif (decide (y5 < ((y2).length:Int))) then (bif y4 then (bif (decide ((0:Int) ≤ y5) && decide (y5 < ((y2).length:Int))) then (((y2)[(y5).toNat]?).bind fun x6=>(some (Sum.inl (y0,(y1.1,()),y2,(y3.1,()),(decide (x6.toBitVec=(0:UInt8).toBitVec)),(IntKind.wrap .i64 (y5 + (1:Int))),()))))
 else none)
 else (some (Sum.inl (y0,(y1.1,()),y2,(y3.1,()),false,(IntKind.wrap .i64 (y5 + (1:Int))),()))))
 else (some (Sum.inr (y0,(y1.1,()),(y3.1,()),y4,()))))
def Zav_L0 (y:((List UInt8) × (ApiCredential × Unit) × (List (UInt8)) × (ApiCredential × Unit) × Bool × Int × Unit)):Option ((List UInt8) × (ApiCredential × Unit) × (ApiCredential × Unit) × Bool × Unit):=iter (fun (y:((List UInt8) × (ApiCredential × Unit) × (List (UInt8)) × (ApiCredential × Unit) × Bool × Int × Unit))=>Zav_L0b y.1 y.2.1 y.2.2.1 y.2.2.2.1 y.2.2.2.2.1 y.2.2.2.2.2.1) rounds y
def Zav (a0:(BitVec 64)) (a1:(List UInt8)) (a2:(List (UInt8))):Option ((Unit) × (ApiCredential × Int × Unit)):=
 (bif (!decide (((a2).length:Int)=(176:Int))) then (some ((),((⟨([]:List UInt8),([]:List UInt8),([]:List UInt8),0#64,(0:Int),false,(0:Int),false,false⟩:ApiCredential),(4:Int),())))
 else ((Zao a0).bind fun r1=>((Zau a1).bind fun r2=>((passkeyref1_Words ([r2.2.1]:List (BitVec 64))).bind fun r3=>((Zcj r1.2.1 r3.2.1 a2).bind fun r4=>(bif (!decide (r4.2.2.1=(0:Int))) then (some ((),((⟨([]:List UInt8),([]:List UInt8),([]:List UInt8),0#64,(0:Int),false,(0:Int),false,false⟩:ApiCredential),r4.2.2.1,())))
 else ((Zbp r4.2.1).bind fun r5=>((Zav_L0 (a1,((⟨([]:List UInt8),([]:List UInt8),([]:List UInt8),0#64,(0:Int),false,(0:Int),false,false⟩:ApiCredential),()),r4.2.1,(r5.2.1,()),r5.2.2.2.1,r5.2.2.1,())).bind (fun (z7:((List UInt8) × (ApiCredential × Unit) × (ApiCredential × Unit) × Bool × Unit))=>(bif (!z7.2.2.2.1) then (some ((),((⟨([]:List UInt8),([]:List UInt8),([]:List UInt8),0#64,(0:Int),false,(0:Int),false,false⟩:ApiCredential),(2:Int),())))
 else (bif z7.2.2.1.1.resident then (some ((),((⟨([]:List UInt8),([]:List UInt8),([]:List UInt8),0#64,(0:Int),false,(0:Int),false,false⟩:ApiCredential),(11:Int),())))
 else (bif (!decide (z7.2.2.1.1.rP=z7.1)) then (some ((),((⟨([]:List UInt8),([]:List UInt8),([]:List UInt8),0#64,(0:Int),false,(0:Int),false,false⟩:ApiCredential),(11:Int),())))
 else (some ((),(z7.2.2.1.1,(0:Int),())))))))))))))))
def S_Zav:FSpec T:=⟨[.f (.v .u64),.f (.v .str),.f (.v (.rs 0))],[(.v (.agg 2)),(.v (.int .i64))],fun x=>Zav x.1 x.2.1 x.2.2.1⟩
def E_Zav:Env T:=⟨tab.find,cd,globs,flc,fun f ds=>match f with
    | 21=>some S_passkeyref1_Words
    | 22=>some S_Zau
    | 56=>some S_Zao
    | 86=>some S_Zbp
    | 88=>some S_Zcj
    | _=>none,fun f=>match f with
    | 22=>true
    | 56=>true
    | 86=>true
    | _=>false⟩
def A_Zav:Loc2 T:=⟨fun id=>match id with
    | 0=>some ⟨[(1,.f (.v .str)),(6,.ptr [(.v (.agg 2))]),(8,.f (.own 0)),(10,.ptr [(.v (.agg 2))]),(12,.f (.v .bool)),(13,.f (.v (.int .i64)))],[(.exit 0,[(1,.f (.v .str)),(6,.ptr [(.v (.agg 2))]),(10,.ptr [(.v (.agg 2))]),(12,.f (.v .bool))])],Zav_L0,[]⟩
    | _=>none,fun r=>match r with
    | _=>none,fun r=>match r with
    | _=>false⟩
theorem Zav_L0_eq (y0:(List UInt8)) (y1:(ApiCredential × Unit)) (y2:(List (UInt8))) (y3:(ApiCredential × Unit)) (y4:Bool) (y5:Int):run E_Zav A_Zav (loopAt 0 (Tryz.f61.body.getD .skip)) (layC cd [(1,.f (.v .str)),(6,.ptr [(.v (.agg 2))]),(8,.f (.own 0)),(10,.ptr [(.v (.agg 2))]),(12,.f (.v .bool)),(13,.f (.v (.int .i64)))] [] (y0,y1,y2,y3,y4,y5,())) (roundK cd [(1,.f (.v .str)),(6,.ptr [(.v (.agg 2))]),(8,.f (.own 0)),(10,.ptr [(.v (.agg 2))]),(12,.f (.v .bool)),(13,.f (.v (.int .i64)))] [] [(.exit 0,[(1,.f (.v .str)),(6,.ptr [(.v (.agg 2))]),(10,.ptr [(.v (.agg 2))]),(12,.f (.v .bool))])])=Zav_L0b y0 y1 y2 y3 y4 y5:=by kernel_rfl
theorem Zav_eq (x:tySs T S_Zav.ps):run E_Zav A_Zav (Tryz.f61.body.getD .skip) (enterT E_Zav.C S_Zav.ps x) (retK E_Zav Tryz.f61.results.toList S_Zav.ps S_Zav.rs)=S_Zav.fn x:=by kernel_rfl
theorem Zav_env:EnvOk Tryz.prog E_Zav:=envOk (E:=E_Zav) cd_ok tys fl_ok fun f ds S h=>by
    dsimp only [E_Zav] at h
    split at h
    · cases h; exact passkeyref1_Words_ok
    · cases h; exact Zau_ok
    · cases h; exact Zao_ok
    · cases h; exact Zbp_ok
    · cases h; exact Zcj_ok
    · cases h
theorem Zav_L0_ok:LoopOk Tryz.prog E_Zav Tryz.f61.ntmps (kqOf S_Zav.ps 0) (loopAt 0 (Tryz.f61.body.getD .skip)) ⟨[(1,.f (.v .str)),(6,.ptr [(.v (.agg 2))]),(8,.f (.own 0)),(10,.ptr [(.v (.agg 2))]),(12,.f (.v .bool)),(13,.f (.v (.int .i64)))],[(.exit 0,[(1,.f (.v .str)),(6,.ptr [(.v (.agg 2))]),(10,.ptr [(.v (.agg 2))]),(12,.f (.v .bool))])],Zav_L0,[]⟩:=
  loop_ok (A:=A_Zav) (done:=[]) (c0:=(Tryz.f61.body.getD .skip)) hmix Zav_env done_nil rounds (by kernel_rfl) (by kernel_rfl) (fun x=>Zav_L0_eq x.1 x.2.1 x.2.2.1 x.2.2.2.1 x.2.2.2.2.1 x.2.2.2.2.2.1) (fun _=>rfl)
theorem Zav_ok:SoundT Tryz.prog cd gdn 61 S_Zav:=
  sound_fn (E:=E_Zav) (A:=A_Zav) (done:=[0]) (c:=(Tryz.f61.body.getD .skip)) (S:=S_Zav) (fn:=Tryz.f61) hmix Zav_env Tryz.func61 rfl (by kernel_rfl) (by kernel_rfl) (done_cons rfl Zav_L0_ok done_nil) (by kernel_rfl) (by kernel_rfl) Zav_eq
def Zam (a0:(BitVec 64)) (a1:(List UInt8)) (a2:(List (UInt8))):Option ((Unit) × (Bool × Unit)):=
 ((Zbm a0 a1 a2).bind fun r1=>((Zav a0 a1 a2).bind fun r2=>(bif (decide (r1.2.2.1=r2.2.2.1)) then (let v3:Bool:=(decide (r1.2.1.rP=r2.2.1.rP) && (decide (r1.2.1.user=r2.2.1.user) && (decide (r1.2.1.name=r2.2.1.name) && (decide (r1.2.1.seed=r2.2.1.seed) && (decide (r1.2.1.height=r2.2.1.height) && ((r1.2.1.resident == r2.2.1.resident) && (decide (r1.2.1.protect=r2.2.1.protect) && ((r1.2.1.shared == r2.2.1.shared) && ((r1.2.1.backed == r2.2.1.backed) && true)))))))))
 (some ((),(v3,()))))
 else (some ((),(false,()))))))
def S_Zam:FSpec T:=⟨[.f (.v .u64),.f (.v .str),.f (.v (.rs 0))],[(.v .bool)],fun x=>Zam x.1 x.2.1 x.2.2.1⟩
def E_Zam:Env T:=⟨tab.find,cd,globs,flc,fun f ds=>match f with
    | 34=>some S_Zbm
    | 61=>some S_Zav
    | _=>none,fun f=>match f with
    | 34=>true
    | 61=>true
    | _=>false⟩
def A_Zam:Loc2 T:=⟨fun id=>match id with
    | _=>none,fun r=>match r with
    | _=>none,fun r=>match r with
    | _=>false⟩
theorem Zam_eq (x:tySs T S_Zam.ps):run E_Zam A_Zam (Tryz.f23.body.getD .skip) (enterT E_Zam.C S_Zam.ps x) (retK E_Zam Tryz.f23.results.toList S_Zam.ps S_Zam.rs)=S_Zam.fn x:=by kernel_rfl
theorem Zam_env:EnvOk Tryz.prog E_Zam:=envOk (E:=E_Zam) cd_ok tys fl_ok fun f ds S h=>by
    dsimp only [E_Zam] at h
    split at h
    · cases h; exact Zbm_ok
    · cases h; exact Zav_ok
    · cases h
theorem Zam_ok:SoundT Tryz.prog cd gdn 23 S_Zam:=
  sound_fn (E:=E_Zam) (A:=A_Zam) (done:=[]) (c:=(Tryz.f23.body.getD .skip)) (S:=S_Zam) (fn:=Tryz.f23) hmix Zam_env Tryz.func23 rfl (by kernel_rfl) (by kernel_rfl) done_nil (by kernel_rfl) (by kernel_rfl) Zam_eq
def Zac (a0:(BitVec 64)) (a1:(BitVec 64)) (a2:Int) (a3:Int) (a4:Int) (a5:UInt8) (a6:(List (UInt8))):Option ((Unit) × (Bool × Unit)):=
 (bif (decide ((400:Int) < ((a6).length:Int))) then ((Zbc).bind fun r1=>(some ((),(r1.2.1,()))))
 else (let v2:Int:=(IntKind.wrap .i64 ((BitVec.ofInt (IntKind.bits .i64) a2 &&& BitVec.ofInt (IntKind.bits .i64) (1048575:Int)).toNat:Int))
 ((Zak v2).bind fun r3=>((Zcs a0 a1 r3.2.1).bind fun r4=>(bif small ((r4.2.1).length) 1 then (let v5:Int:=(IntKind.wrap .i64 ((BitVec.ofInt (IntKind.bits .i64) a4 &&& BitVec.ofInt (IntKind.bits .i64) (65535:Int)).toNat:Int))
 (bif decide (((r4.2.1).length:Int)=0) then none
 else (bif (decide ((0:Int) ≤ (Int.tmod v5 ((r4.2.1).length:Int))) && decide ((Int.tmod v5 ((r4.2.1).length:Int)) < ((r4.2.1).length:Int))) then (((r4.2.1)[((Int.tmod v5 ((r4.2.1).length:Int))).toNat]?).bind fun x6=>(bif (decide ((0:Int) ≤ (Int.tmod v5 ((r4.2.1).length:Int))) && decide ((Int.tmod v5 ((r4.2.1).length:Int)) < ((r4.2.1).length:Int))) then (((r4.2.1)[((Int.tmod v5 ((r4.2.1).length:Int))).toNat]?).bind fun x7=>(let v8:List (UInt8):=(List.set r4.2.1 ((Int.tmod v5 ((r4.2.1).length:Int))).toNat (UInt8.ofBitVec (x6.toBitVec ^^^ a5.toBitVec)))
 (let v9:Int:=(IntKind.wrap .i64 ((BitVec.ofInt (IntKind.bits .i64) a3 &&& BitVec.ofInt (IntKind.bits .i64) (1048575:Int)).toNat:Int))
 ((Zak v9).bind fun r10=>(let v11:List (UInt8):=(List.replicate 160 (0:UInt8))
 ((Zad r10.2.1).bind fun r12=>(bif decide ((r12.2.1:List (UInt8)).length ≤ (v11).length) then (let v13:List (UInt8):=(r12.2.1 ++ List.drop (r12.2.1:List (UInt8)).length v11)
 ((let v14:Int:=(IntKind.wrap .i64 ((BitVec.ofInt (IntKind.bits .i64) (Int.fdiv a3 (2 ^ (min 20 (IntKind.bits .i64)))) &&& BitVec.ofInt (IntKind.bits .i64) (3:Int)).toNat:Int))
 (bif (decide (v14=(0:Int))) then (let v15:Int:=(IntKind.wrap .i64 ((BitVec.ofInt (IntKind.bits .i64) a4 &&& BitVec.ofInt (IntKind.bits .i64) (65535:Int)).toNat:Int))
 (bif (decide ((0:Int) ≤ (Int.tmod v15 (160:Int))) && decide ((Int.tmod v15 (160:Int)) < (160:Int))) then (((v13)[((Int.tmod v15 (160:Int))).toNat]?).bind fun x16=>(bif (decide ((0:Int) ≤ (Int.tmod v15 (160:Int))) && decide ((Int.tmod v15 (160:Int)) < (160:Int))) then (((v13)[((Int.tmod v15 (160:Int))).toNat]?).bind fun x17=>(let v18:List (UInt8):=(List.set v13 ((Int.tmod v15 (160:Int))).toNat (UInt8.ofBitVec (x16.toBitVec ^^^ a5.toBitVec)))
 (some (a0,a1,a3,a6,(r3.2.1,()),r4.2.1,v8,v18,()))))
 else none))
 else none))
 else (some (a0,a1,a3,a6,(r3.2.1,()),r4.2.1,v8,v13,())))).bind (fun (j19:((BitVec 64) × (BitVec 64) × Int × (List (UInt8)) × (ApiCredential × Unit) × (List (UInt8)) × (List (UInt8)) × (List (UInt8)) × Unit))=>((Zbf j19.1 ([119,114,97,112]:List UInt8) (0:Int)).bind fun r20=>((Zau j19.2.2.2.2.1.1.rP).bind fun r21=>((passkeyref1_Words ([r21.2.1]:List (BitVec 64))).bind fun r22=>((Zck r20.2.1 j19.2.1 r22.2.1 j19.2.2.2.2.2.2.2.1).bind fun r23=>((Zam j19.1 j19.2.2.2.2.1.1.rP j19.2.2.2.2.2.1).bind fun r24=>(bif r24.2.1 then ((Zam j19.1 j19.2.2.2.2.1.1.rP j19.2.2.2.2.2.2.1).bind fun r25=>(bif r25.2.1 then ((Zam j19.1 j19.2.2.2.2.1.1.rP j19.2.2.2.1).bind fun r26=>(bif r26.2.1 then ((Zam (j19.1 + 1#64) j19.2.2.2.2.1.1.rP j19.2.2.2.2.2.1).bind fun r27=>(bif r27.2.1 then ((Zcz j19.2.2.1).bind fun r28=>((Zam j19.1 r28.2.1 j19.2.2.2.2.2.1).bind fun r29=>(bif r29.2.1 then ((Zam j19.1 j19.2.2.2.2.1.1.rP r23.2.1).bind fun r30=>(bif r30.2.1 then ((Zbc).bind fun r31=>(some ((),(r31.2.1,()))))
 else (some ((),(false,())))))
 else (some ((),(false,()))))))
 else (some ((),(false,())))))
 else (some ((),(false,())))))
 else (some ((),(false,())))))
 else (some ((),(false,()))))))))))))
 else none)))))))
 else none))
 else none)))
 else none)))))
def S_Zac:FSpec T:=⟨[.f (.v .u64),.f (.v .u64),.f (.v (.int .i64)),.f (.v (.int .i64)),.f (.v (.int .i64)),.f (.v .u8),.f (.v (.rs 0))],[(.v .bool)],fun x=>Zac x.1 x.2.1 x.2.2.1 x.2.2.2.1 x.2.2.2.2.1 x.2.2.2.2.2.1 x.2.2.2.2.2.2.1⟩
def E_Zac:Env T:=⟨tab.find,cd,globs,flc,fun f ds=>match f with
    | 9=>some S_Zbc
    | 11=>some S_Zak
    | 13=>some S_Zad
    | 18=>some S_Zcs
    | 19=>some S_Zbf
    | 20=>some S_Zck
    | 21=>some S_passkeyref1_Words
    | 22=>some S_Zau
    | 23=>some S_Zam
    | 24=>some S_Zcz
    | _=>none,fun f=>match f with
    | 9=>true
    | 11=>true
    | 19=>true
    | 22=>true
    | 23=>true
    | 24=>true
    | _=>false⟩
def A_Zac:Loc2 T:=⟨fun id=>match id with
    | _=>none,fun r=>match r with
    | 13=>some ([(0,.f (.v .u64)),(1,.f (.v .u64)),(3,.f (.v (.int .i64))),(6,.f (.v (.rs 0))),(15,.ptr [(.v (.agg 2))]),(16,.f (.own 0)),(18,.f (.own 0)),(20,.f (.own 0))],true)
    | _=>none,fun r=>match r with
    | _=>false⟩
theorem Zac_eq (x:tySs T S_Zac.ps):run E_Zac A_Zac (Tryz.f5.body.getD .skip) (enterT E_Zac.C S_Zac.ps x) (retK E_Zac Tryz.f5.results.toList S_Zac.ps S_Zac.rs)=S_Zac.fn x:=by kernel_rfl
theorem Zac_env:EnvOk Tryz.prog E_Zac:=envOk (E:=E_Zac) cd_ok tys fl_ok fun f ds S h=>by
    dsimp only [E_Zac] at h
    split at h
    · cases h; exact Zbc_ok
    · cases h; exact Zak_ok
    · cases h; exact Zad_ok
    · cases h; exact Zcs_ok
    · cases h; exact Zbf_ok
    · cases h; exact Zck_ok
    · cases h; exact passkeyref1_Words_ok
    · cases h; exact Zau_ok
    · cases h; exact Zam_ok
    · cases h; exact Zcz_ok
    · cases h
theorem Zac_ok:SoundT Tryz.prog cd gdn 5 S_Zac:=
  sound_fn (E:=E_Zac) (A:=A_Zac) (done:=[]) (c:=(Tryz.f5.body.getD .skip)) (S:=S_Zac) (fn:=Tryz.f5) hmix Zac_env Tryz.func5 rfl (by kernel_rfl) (by kernel_rfl) done_nil (by kernel_rfl) (by kernel_rfl) Zac_eq
def CredentialUnwraps_dom (a0:(BitVec 64)) (a1:(BitVec 64)) (a2:Int) (a3:Int) (a4:Int) (a5:UInt8) (a6:(List (UInt8))):Prop:=ArgD cd [.u64,.u64,(.int .i64),(.int .i64),(.int .i64),.u8,(.rs 0)] (a0,a1,a2,a3,a4,a5,a6,())
end Go.Proofs.YtghfcfjnfgmkgaaGreatDoor

/- The functions of the program, as plain functions, and that the program computes them. Written by a program. -/
import Derived.Test.YtghfcfjnfgmkgaaGreatDoorFns0
set_option linter.unusedVariables false
set_option maxRecDepth 100000
namespace Go.Proofs.YtghfcfjnfgmkgaaGreatDoor
open Go Go.Abs
def credential_Unwrap (a0 : (BitVec 64)) (a1 : (List UInt8)) (a2 : (List (UInt8))) : Option ((Unit) × (ApiCredential × Int × Unit)) :=
 (bif (!decide (((a2).length : Int) = (176 : Int))) then (some ((), ((⟨([] : List UInt8), ([] : List UInt8), ([] : List UInt8), 0#64, (0 : Int), false, (0 : Int), false, false⟩ : ApiCredential), (4 : Int), ())))
 else ((credential_wrapKey a0).bind fun r1 => ((credential_bound a1).bind fun r2 => ((seal_Open r1.2.1 r2.2.1 a2).bind fun r3 => (bif (!decide (r3.2.2.1 = (0 : Int))) then (some ((), ((⟨([] : List UInt8), ([] : List UInt8), ([] : List UInt8), 0#64, (0 : Int), false, (0 : Int), false, false⟩ : ApiCredential), r3.2.2.1, ())))
 else ((cbor_Decode r3.2.1).bind fun r4 => (bif (!decide (r4.2.2.2.1 = (0 : Int))) then (some ((), ((⟨([] : List UInt8), ([] : List UInt8), ([] : List UInt8), 0#64, (0 : Int), false, (0 : Int), false, false⟩ : ApiCredential), (2 : Int), ())))
 else (bif (decide (r4.2.2.1 < (0 : Int))) then (some ((), ((⟨([] : List UInt8), ([] : List UInt8), ([] : List UInt8), 0#64, (0 : Int), false, (0 : Int), false, false⟩ : ApiCredential), (2 : Int), ())))
 else (bif (decide (((r3.2.1).length : Int) < r4.2.2.1)) then (some ((), ((⟨([] : List UInt8), ([] : List UInt8), ([] : List UInt8), 0#64, (0 : Int), false, (0 : Int), false, false⟩ : ApiCredential), (2 : Int), ())))
 else (bif (decide ((0 : Int) ≤ r4.2.2.1) && decide (r4.2.2.1 ≤ ((r3.2.1).length : Int))) then (bif decide ((r4.2.2.1).toNat ≤ (r3.2.1).length) then ((credential_Decode (List.take (r4.2.2.1).toNat r3.2.1)).bind fun r5 => (bif (!decide (r5.2.2.1 = (0 : Int))) then (some ((), ((⟨([] : List UInt8), ([] : List UInt8), ([] : List UInt8), 0#64, (0 : Int), false, (0 : Int), false, false⟩ : ApiCredential), (2 : Int), ())))
 else (bif (!decide (((r3.2.1).length : Int) = (160 : Int))) then (some ((), ((⟨([] : List UInt8), ([] : List UInt8), ([] : List UInt8), 0#64, (0 : Int), false, (0 : Int), false, false⟩ : ApiCredential), (2 : Int), ())))
 else (bif (decide ((0 : Int) ≤ r4.2.2.1) && decide (r4.2.2.1 ≤ ((r3.2.1).length : Int))) then (bif decide (((r3.2.1).length - (r4.2.2.1).toNat) + (r4.2.2.1).toNat ≤ (r3.2.1).length) then ((bytes_Trim (List.take ((r3.2.1).length - (r4.2.2.1).toNat) (List.drop (r4.2.2.1).toNat r3.2.1)) ([0] : List UInt8)).bind fun r6 => (bif (decide ((0 : Int) < ((r6.2.1).length : Int))) then (some ((), ((⟨([] : List UInt8), ([] : List UInt8), ([] : List UInt8), 0#64, (0 : Int), false, (0 : Int), false, false⟩ : ApiCredential), (2 : Int), ())))
 else (bif r5.2.1.resident then (some ((), ((⟨([] : List UInt8), ([] : List UInt8), ([] : List UInt8), 0#64, (0 : Int), false, (0 : Int), false, false⟩ : ApiCredential), (11 : Int), ())))
 else (bif (!decide (r5.2.1.rP = a1)) then (some ((), ((⟨([] : List UInt8), ([] : List UInt8), ([] : List UInt8), 0#64, (0 : Int), false, (0 : Int), false, false⟩ : ApiCredential), (11 : Int), ())))
 else (some ((), (r5.2.1, (0 : Int), ())))))))
 else none)
 else none))))
 else none)
 else none))))))))))
def S_credential_Unwrap : FSpec T := ⟨[.f (.v .u64), .f (.v .str), .f (.v (.rs 0))], [(.v (.agg 2)), (.v (.int .i64))], fun x => credential_Unwrap x.1 x.2.1 x.2.2.1⟩
def E_credential_Unwrap : Env T := ⟨tab.find, cd, globs, flc, fun f ds => match f with
    | 16 => some S_credential_Decode
    | 51 => some S_cbor_Decode
    | 65 => some S_credential_wrapKey
    | 66 => some S_credential_bound
    | 71 => some S_seal_Open
    | 72 => some S_bytes_Trim
    | _ => none, fun f => match f with
    | 16 => true
    | 65 => true
    | _ => false⟩
def A_credential_Unwrap : Loc2 T := ⟨fun id => match id with
    | _ => none, fun r => match r with
    | _ => none, fun r => match r with
    | _ => false⟩
theorem credential_Unwrap_eq (x : tySs T S_credential_Unwrap.ps) : run E_credential_Unwrap A_credential_Unwrap (Tryz.f34.body.getD .skip) (enterT E_credential_Unwrap.C S_credential_Unwrap.ps x) (retK E_credential_Unwrap Tryz.f34.results.toList S_credential_Unwrap.ps S_credential_Unwrap.rs) = S_credential_Unwrap.fn x := by kernel_rfl
theorem credential_Unwrap_env : EnvOk Tryz.prog E_credential_Unwrap := envOk (E := E_credential_Unwrap) cd_ok tys fl_ok fun f ds S h => by
    dsimp only [E_credential_Unwrap] at h
    split at h
    · cases h; exact credential_Decode_ok
    · cases h; exact cbor_Decode_ok
    · cases h; exact credential_wrapKey_ok
    · cases h; exact credential_bound_ok
    · cases h; exact seal_Open_ok
    · cases h; exact bytes_Trim_ok
    · cases h
theorem credential_Unwrap_ok : SoundT Tryz.prog cd gdn 34 S_credential_Unwrap :=
  sound_fn (E := E_credential_Unwrap) (A := A_credential_Unwrap) (done := []) (c := (Tryz.f34.body.getD .skip)) (S := S_credential_Unwrap) (fn := Tryz.f34) hmix credential_Unwrap_env Tryz.func34 rfl (by kernel_rfl) (by kernel_rfl) done_nil (by kernel_rfl) (by kernel_rfl) credential_Unwrap_eq
def passkeylaw15_awake : Option ((Unit) × (Bool × Unit)) :=
 ((credential_ID (7#64) (8#64) (⟨([97, 46, 101, 120, 97, 109, 112, 108, 101] : List UInt8), ([117] : List UInt8), ([] : List UInt8), 3#64, (1 : Int), false, (1 : Int), false, false⟩ : ApiCredential)).bind fun r1 => ((credential_Unwrap (7#64) ([97, 46, 101, 120, 97, 109, 112, 108, 101] : List UInt8) r1.2.1).bind fun r2 => ((credential_Unwrap (7#64) ([98, 46, 101, 120, 97, 109, 112, 108, 101] : List UInt8) r1.2.1).bind fun r3 => (bif (decide (r1.2.2.1 = (0 : Int))) then (bif (decide (r2.2.2.1 = (0 : Int))) then (bif (decide (r3.2.2.1 = (14 : Int))) then (let v4 : Bool := (decide (r2.2.1.rP = ([97, 46, 101, 120, 97, 109, 112, 108, 101] : List UInt8)) && (decide (r2.2.1.user = ([117] : List UInt8)) && (decide (r2.2.1.name = ([] : List UInt8)) && (decide (r2.2.1.seed = 3#64) && (decide (r2.2.1.height = (1 : Int)) && ((r2.2.1.resident == false) && (decide (r2.2.1.protect = (1 : Int)) && ((r2.2.1.shared == false) && ((r2.2.1.backed == false) && true)))))))))
 (bif v4 then (bif (decide (((r1.2.1).length : Int) = (176 : Int))) then ((credential_Validate (⟨([] : List UInt8), ([] : List UInt8), ([] : List UInt8), 0#64, (0 : Int), false, (0 : Int), false, false⟩ : ApiCredential)).bind fun r5 => (some ((), ((decide (r5.2.1 = (9 : Int))), ()))))
 else (some ((), (false, ()))))
 else (some ((), (false, ())))))
 else (some ((), (false, ()))))
 else (some ((), (false, ()))))
 else (some ((), (false, ())))))))
def S_passkeylaw15_awake : FSpec T := ⟨[], [(.v .bool)], fun x => passkeylaw15_awake ⟩
def E_passkeylaw15_awake : Env T := ⟨tab.find, cd, globs, flc, fun f ds => match f with
    | 14 => some S_credential_Validate
    | 25 => some S_credential_ID
    | 34 => some S_credential_Unwrap
    | _ => none, fun f => match f with
    | 14 => true
    | 34 => true
    | _ => false⟩
def A_passkeylaw15_awake : Loc2 T := ⟨fun id => match id with
    | _ => none, fun r => match r with
    | _ => none, fun r => match r with
    | _ => false⟩
theorem passkeylaw15_awake_eq (x : tySs T S_passkeylaw15_awake.ps) : run E_passkeylaw15_awake A_passkeylaw15_awake (Tryz.f9.body.getD .skip) (enterT E_passkeylaw15_awake.C S_passkeylaw15_awake.ps x) (retK E_passkeylaw15_awake Tryz.f9.results.toList S_passkeylaw15_awake.ps S_passkeylaw15_awake.rs) = S_passkeylaw15_awake.fn x := by kernel_rfl
theorem passkeylaw15_awake_env : EnvOk Tryz.prog E_passkeylaw15_awake := envOk (E := E_passkeylaw15_awake) cd_ok tys fl_ok fun f ds S h => by
    dsimp only [E_passkeylaw15_awake] at h
    split at h
    · cases h; exact credential_Validate_ok
    · cases h; exact credential_ID_ok
    · cases h; exact credential_Unwrap_ok
    · cases h
theorem passkeylaw15_awake_ok : SoundT Tryz.prog cd gdn 9 S_passkeylaw15_awake :=
  sound_fn (E := E_passkeylaw15_awake) (A := A_passkeylaw15_awake) (done := []) (c := (Tryz.f9.body.getD .skip)) (S := S_passkeylaw15_awake) (fn := Tryz.f9) hmix passkeylaw15_awake_env Tryz.func9 rfl (by kernel_rfl) (by kernel_rfl) done_nil (by kernel_rfl) (by kernel_rfl) passkeylaw15_awake_eq
def passkeybase_RP (a0 : Int) : Option ((Unit) × ((List UInt8) × Unit)) :=
 (let v1 : List (List UInt8) := ([([97, 46, 101, 120, 97, 109, 112, 108, 101] : List UInt8), ([98, 46, 101, 120, 97, 109, 112, 108, 101] : List UInt8), ([115, 104, 111, 112, 46, 116, 101, 115, 116] : List UInt8)] : List (List UInt8))
 (let v2 : Int := (IntKind.wrap .i64 ((BitVec.ofInt (IntKind.bits .i64) a0 &&& BitVec.ofInt (IntKind.bits .i64) (65535 : Int)).toNat : Int))
 (bif (decide ((0 : Int) ≤ (Int.tmod v2 (3 : Int))) && decide ((Int.tmod v2 (3 : Int)) < (3 : Int))) then (((v1)[((Int.tmod v2 (3 : Int))).toNat]?).bind fun x3 => (some ((), (x3, ()))))
 else none)))
def S_passkeybase_RP : FSpec T := ⟨[.f (.v (.int .i64))], [(.v .str)], fun x => passkeybase_RP x.1⟩
def E_passkeybase_RP : Env T := ⟨tab.find, cd, globs, flc, fun f ds => match f with
    | _ => none, fun f => match f with
    | _ => false⟩
def A_passkeybase_RP : Loc2 T := ⟨fun id => match id with
    | _ => none, fun r => match r with
    | _ => none, fun r => match r with
    | _ => false⟩
theorem passkeybase_RP_eq (x : tySs T S_passkeybase_RP.ps) : run E_passkeybase_RP A_passkeybase_RP (Tryz.f24.body.getD .skip) (enterT E_passkeybase_RP.C S_passkeybase_RP.ps x) (retK E_passkeybase_RP Tryz.f24.results.toList S_passkeybase_RP.ps S_passkeybase_RP.rs) = S_passkeybase_RP.fn x := by kernel_rfl
theorem passkeybase_RP_env : EnvOk Tryz.prog E_passkeybase_RP := envOk (E := E_passkeybase_RP) cd_ok tys fl_ok fun f ds S h => by cases h
theorem passkeybase_RP_ok : SoundT Tryz.prog cd gdn 24 S_passkeybase_RP :=
  sound_fn (E := E_passkeybase_RP) (A := A_passkeybase_RP) (done := []) (c := (Tryz.f24.body.getD .skip)) (S := S_passkeybase_RP) (fn := Tryz.f24) hmix passkeybase_RP_env Tryz.func24 rfl (by kernel_rfl) (by kernel_rfl) done_nil (by kernel_rfl) (by kernel_rfl) passkeybase_RP_eq
def passkeybase_User (a0 : Int) : Option ((Unit) × ((List UInt8) × Unit)) :=
 (let v1 : List (List UInt8) := ([([117, 49] : List UInt8), ([117, 50] : List UInt8), ([0, 255] : List UInt8)] : List (List UInt8))
 (let v2 : Int := (IntKind.wrap .i64 ((BitVec.ofInt (IntKind.bits .i64) a0 &&& BitVec.ofInt (IntKind.bits .i64) (65535 : Int)).toNat : Int))
 (bif (decide ((0 : Int) ≤ (Int.tmod v2 (3 : Int))) && decide ((Int.tmod v2 (3 : Int)) < (3 : Int))) then (((v1)[((Int.tmod v2 (3 : Int))).toNat]?).bind fun x3 => (some ((), (x3, ()))))
 else none)))
def S_passkeybase_User : FSpec T := ⟨[.f (.v (.int .i64))], [(.v .str)], fun x => passkeybase_User x.1⟩
def E_passkeybase_User : Env T := ⟨tab.find, cd, globs, flc, fun f ds => match f with
    | _ => none, fun f => match f with
    | _ => false⟩
def A_passkeybase_User : Loc2 T := ⟨fun id => match id with
    | _ => none, fun r => match r with
    | _ => none, fun r => match r with
    | _ => false⟩
theorem passkeybase_User_eq (x : tySs T S_passkeybase_User.ps) : run E_passkeybase_User A_passkeybase_User (Tryz.f35.body.getD .skip) (enterT E_passkeybase_User.C S_passkeybase_User.ps x) (retK E_passkeybase_User Tryz.f35.results.toList S_passkeybase_User.ps S_passkeybase_User.rs) = S_passkeybase_User.fn x := by kernel_rfl
theorem passkeybase_User_env : EnvOk Tryz.prog E_passkeybase_User := envOk (E := E_passkeybase_User) cd_ok tys fl_ok fun f ds S h => by cases h
theorem passkeybase_User_ok : SoundT Tryz.prog cd gdn 35 S_passkeybase_User :=
  sound_fn (E := E_passkeybase_User) (A := A_passkeybase_User) (done := []) (c := (Tryz.f35.body.getD .skip)) (S := S_passkeybase_User) (fn := Tryz.f35) hmix passkeybase_User_env Tryz.func35 rfl (by kernel_rfl) (by kernel_rfl) done_nil (by kernel_rfl) (by kernel_rfl) passkeybase_User_eq
def passkeybase_Text (a0 : Int) : Option ((Unit) × ((List UInt8) × Unit)) :=
 (let v1 : List (List UInt8) := ([([] : List UInt8), ([97] : List UInt8), ([98] : List UInt8), ([108, 111, 103, 105, 110] : List UInt8), ([107, 101, 121] : List UInt8), ([101, 120, 97, 109, 112, 108, 101, 46, 111, 114, 103] : List UInt8), ([195, 169] : List UInt8), ([48, 49, 50, 51, 52, 53, 54, 55, 56, 57, 48, 49, 50, 51, 52, 53] : List UInt8)] : List (List UInt8))
 (let v2 : Int := (IntKind.wrap .i64 ((BitVec.ofInt (IntKind.bits .i64) a0 &&& BitVec.ofInt (IntKind.bits .i64) (7 : Int)).toNat : Int))
 (bif (decide ((0 : Int) ≤ v2) && decide (v2 < (8 : Int))) then (((v1)[(v2).toNat]?).bind fun x3 => (let v4 : Int := (IntKind.wrap .i64 ((BitVec.ofInt (IntKind.bits .i64) (Int.fdiv a0 (2 ^ (min 3 (IntKind.bits .i64)))) &&& BitVec.ofInt (IntKind.bits .i64) (7 : Int)).toNat : Int))
 (bif (decide ((0 : Int) ≤ v4) && decide (v4 < (8 : Int))) then (((v1)[(v4).toNat]?).bind fun x5 => (bif Nat.ble ((x3).length + (x5).length) 9223372036854775807 then (some ((), ((x3 ++ x5), ())))
 else none))
 else none)))
 else none)))
def S_passkeybase_Text : FSpec T := ⟨[.f (.v (.int .i64))], [(.v .str)], fun x => passkeybase_Text x.1⟩
def E_passkeybase_Text : Env T := ⟨tab.find, cd, globs, flc, fun f ds => match f with
    | _ => none, fun f => match f with
    | _ => false⟩
def A_passkeybase_Text : Loc2 T := ⟨fun id => match id with
    | _ => none, fun r => match r with
    | _ => none, fun r => match r with
    | _ => false⟩
theorem passkeybase_Text_eq (x : tySs T S_passkeybase_Text.ps) : run E_passkeybase_Text A_passkeybase_Text (Tryz.f36.body.getD .skip) (enterT E_passkeybase_Text.C S_passkeybase_Text.ps x) (retK E_passkeybase_Text Tryz.f36.results.toList S_passkeybase_Text.ps S_passkeybase_Text.rs) = S_passkeybase_Text.fn x := by kernel_rfl
theorem passkeybase_Text_env : EnvOk Tryz.prog E_passkeybase_Text := envOk (E := E_passkeybase_Text) cd_ok tys fl_ok fun f ds S h => by cases h
theorem passkeybase_Text_ok : SoundT Tryz.prog cd gdn 36 S_passkeybase_Text :=
  sound_fn (E := E_passkeybase_Text) (A := A_passkeybase_Text) (done := []) (c := (Tryz.f36.body.getD .skip)) (S := S_passkeybase_Text) (fn := Tryz.f36) hmix passkeybase_Text_env Tryz.func36 rfl (by kernel_rfl) (by kernel_rfl) done_nil (by kernel_rfl) (by kernel_rfl) passkeybase_Text_eq
def passkeybase_Credential (a0 : Int) : Option ((Unit) × (ApiCredential × Unit)) :=
 ((passkeybase_RP a0).bind fun r1 => ((passkeybase_User (Int.fdiv a0 (2 ^ (min 2 (IntKind.bits .i64))))).bind fun r2 => ((passkeybase_Text (Int.fdiv a0 (2 ^ (min 4 (IntKind.bits .i64))))).bind fun r3 => (let v4 : Int := (IntKind.wrap .i64 ((BitVec.ofInt (IntKind.bits .i64) (Int.fdiv a0 (2 ^ (min 3 (IntKind.bits .i64)))) &&& BitVec.ofInt (IntKind.bits .i64) (1 : Int)).toNat : Int))
 (let v5 : Int := (Int.tmod (Int.fdiv a0 (2 ^ (min 5 (IntKind.bits .i64)))) (3 : Int))
 (let v6 : Int := (IntKind.wrap .i64 ((BitVec.ofInt (IntKind.bits .i64) (Int.fdiv a0 (2 ^ (min 7 (IntKind.bits .i64)))) &&& BitVec.ofInt (IntKind.bits .i64) (1 : Int)).toNat : Int))
 (bif (decide (v6 = (1 : Int))) then (let v7 : Int := (IntKind.wrap .i64 ((BitVec.ofInt (IntKind.bits .i64) (Int.fdiv a0 (2 ^ (min 8 (IntKind.bits .i64)))) &&& BitVec.ofInt (IntKind.bits .i64) (1 : Int)).toNat : Int))
 (bif (decide (v7 = (1 : Int))) then (let v8 : Int := (IntKind.wrap .i64 ((BitVec.ofInt (IntKind.bits .i64) (Int.fdiv a0 (2 ^ (min 9 (IntKind.bits .i64)))) &&& BitVec.ofInt (IntKind.bits .i64) (1 : Int)).toNat : Int))
 (some ((), ((⟨r1.2.1, r2.2.1, r3.2.1, ((BitVec.ofInt 64 a0) * 11400714819323198485#64), (IntKind.wrap .i64 ((1 : Int) + v4)), (decide (v6 = (1 : Int))), (IntKind.wrap .i64 ((1 : Int) + v5)), (decide (v7 = (1 : Int))), (decide (v8 = (1 : Int)))⟩ : ApiCredential), ()))))
 else (some ((), ((⟨r1.2.1, r2.2.1, r3.2.1, ((BitVec.ofInt 64 a0) * 11400714819323198485#64), (IntKind.wrap .i64 ((1 : Int) + v4)), (decide (v6 = (1 : Int))), (IntKind.wrap .i64 ((1 : Int) + v5)), (decide (v7 = (1 : Int))), false⟩ : ApiCredential), ())))))
 else (some ((), ((⟨r1.2.1, r2.2.1, r3.2.1, ((BitVec.ofInt 64 a0) * 11400714819323198485#64), (IntKind.wrap .i64 ((1 : Int) + v4)), (decide (v6 = (1 : Int))), (IntKind.wrap .i64 ((1 : Int) + v5)), false, false⟩ : ApiCredential), ()))))))))))
def S_passkeybase_Credential : FSpec T := ⟨[.f (.v (.int .i64))], [(.v (.agg 2))], fun x => passkeybase_Credential x.1⟩
def E_passkeybase_Credential : Env T := ⟨tab.find, cd, globs, flc, fun f ds => match f with
    | 24 => some S_passkeybase_RP
    | 35 => some S_passkeybase_User
    | 36 => some S_passkeybase_Text
    | _ => none, fun f => match f with
    | 24 => true
    | 35 => true
    | 36 => true
    | _ => false⟩
def A_passkeybase_Credential : Loc2 T := ⟨fun id => match id with
    | _ => none, fun r => match r with
    | _ => none, fun r => match r with
    | _ => false⟩
theorem passkeybase_Credential_eq (x : tySs T S_passkeybase_Credential.ps) : run E_passkeybase_Credential A_passkeybase_Credential (Tryz.f11.body.getD .skip) (enterT E_passkeybase_Credential.C S_passkeybase_Credential.ps x) (retK E_passkeybase_Credential Tryz.f11.results.toList S_passkeybase_Credential.ps S_passkeybase_Credential.rs) = S_passkeybase_Credential.fn x := by kernel_rfl
theorem passkeybase_Credential_env : EnvOk Tryz.prog E_passkeybase_Credential := envOk (E := E_passkeybase_Credential) cd_ok tys fl_ok fun f ds S h => by
    dsimp only [E_passkeybase_Credential] at h
    split at h
    · cases h; exact passkeybase_RP_ok
    · cases h; exact passkeybase_User_ok
    · cases h; exact passkeybase_Text_ok
    · cases h
theorem passkeybase_Credential_ok : SoundT Tryz.prog cd gdn 11 S_passkeybase_Credential :=
  sound_fn (E := E_passkeybase_Credential) (A := A_passkeybase_Credential) (done := []) (c := (Tryz.f11.body.getD .skip)) (S := S_passkeybase_Credential) (fn := Tryz.f11) hmix passkeybase_Credential_env Tryz.func11 rfl (by kernel_rfl) (by kernel_rfl) done_nil (by kernel_rfl) (by kernel_rfl) passkeybase_Credential_eq
def passkeylaw15_spoil (a0 : ApiCredential) (a1 : Int) : Option ((Unit) × (ApiCredential × Unit)) :=
 (let v1 : Int := (IntKind.wrap .i64 ((BitVec.ofInt (IntKind.bits .i64) (Int.fdiv a1 (2 ^ (min 4 (IntKind.bits .i64)))) &&& BitVec.ofInt (IntKind.bits .i64) (65535 : Int)).toNat : Int))
 (let v2 : Int := (IntKind.wrap .i64 ((BitVec.ofInt (IntKind.bits .i64) a1 &&& BitVec.ofInt (IntKind.bits .i64) (15 : Int)).toNat : Int))
 (bif (decide (v2 = (0 : Int))) then (let v3 : List (UInt8) := (List.replicate 64 (0 : UInt8))
 (let v4 : List (UInt8) := (List.replicate 65 (0 : UInt8))
 (let v5 : List (List UInt8) := ([([] : List UInt8), ([255] : List UInt8), v3, v4] : List (List UInt8))
 (let v6 : Int := (IntKind.wrap .i64 ((BitVec.ofInt (IntKind.bits .i64) v1 &&& BitVec.ofInt (IntKind.bits .i64) (3 : Int)).toNat : Int))
 (bif (decide ((0 : Int) ≤ v6) && decide (v6 < (4 : Int))) then (((v5)[(v6).toNat]?).bind fun x7 => (some ((), ((⟨x7, a0.user, a0.name, a0.seed, a0.height, a0.resident, a0.protect, a0.shared, a0.backed⟩ : ApiCredential), ()))))
 else none)))))
 else (bif (decide (v2 = (1 : Int))) then (let v8 : List (List UInt8) := ([([] : List UInt8), ([255, 254] : List UInt8), ([48, 49, 50, 51, 52, 53, 54, 55, 56, 57, 48, 49, 50, 51, 52, 53] : List UInt8), ([48, 49, 50, 51, 52, 53, 54, 55, 56, 57, 48, 49, 50, 51, 52, 53, 54] : List UInt8)] : List (List UInt8))
 (let v9 : Int := (IntKind.wrap .i64 ((BitVec.ofInt (IntKind.bits .i64) v1 &&& BitVec.ofInt (IntKind.bits .i64) (3 : Int)).toNat : Int))
 (bif (decide ((0 : Int) ≤ v9) && decide (v9 < (4 : Int))) then (((v8)[(v9).toNat]?).bind fun x10 => (some ((), ((⟨a0.rP, x10, a0.name, a0.seed, a0.height, a0.resident, a0.protect, a0.shared, a0.backed⟩ : ApiCredential), ()))))
 else none)))
 else (bif (decide (v2 = (2 : Int))) then (let v11 : List (UInt8) := (List.replicate 32 (0 : UInt8))
 (let v12 : List (UInt8) := (List.replicate 33 (0 : UInt8))
 (let v13 : List (List UInt8) := ([([] : List UInt8), ([195] : List UInt8), v11, v12] : List (List UInt8))
 (let v14 : Int := (IntKind.wrap .i64 ((BitVec.ofInt (IntKind.bits .i64) v1 &&& BitVec.ofInt (IntKind.bits .i64) (3 : Int)).toNat : Int))
 (bif (decide ((0 : Int) ≤ v14) && decide (v14 < (4 : Int))) then (((v13)[(v14).toNat]?).bind fun x15 => (some ((), ((⟨a0.rP, a0.user, x15, a0.seed, a0.height, a0.resident, a0.protect, a0.shared, a0.backed⟩ : ApiCredential), ()))))
 else none)))))
 else (bif (decide (v2 = (3 : Int))) then (let v16 : Int := (IntKind.wrap .i64 ((BitVec.ofInt (IntKind.bits .i64) v1 &&& BitVec.ofInt (IntKind.bits .i64) (7 : Int)).toNat : Int))
 (some ((), ((⟨a0.rP, a0.user, a0.name, a0.seed, (IntKind.wrap .i64 (v16 - (1 : Int))), a0.resident, a0.protect, a0.shared, a0.backed⟩ : ApiCredential), ()))))
 else (bif (decide (v2 = (4 : Int))) then (let v17 : Int := (IntKind.wrap .i64 ((BitVec.ofInt (IntKind.bits .i64) v1 &&& BitVec.ofInt (IntKind.bits .i64) (7 : Int)).toNat : Int))
 (some ((), ((⟨a0.rP, a0.user, a0.name, a0.seed, a0.height, a0.resident, (IntKind.wrap .i64 (v17 - (1 : Int))), a0.shared, a0.backed⟩ : ApiCredential), ()))))
 else (bif (decide (v2 = (5 : Int))) then (some ((), ((⟨a0.rP, a0.user, a0.name, a0.seed, a0.height, a0.resident, a0.protect, (!a0.shared), a0.backed⟩ : ApiCredential), ())))
 else (bif (decide (v2 = (6 : Int))) then (some ((), ((⟨a0.rP, a0.user, a0.name, a0.seed, a0.height, a0.resident, a0.protect, a0.shared, (!a0.backed)⟩ : ApiCredential), ())))
 else (bif (decide (v2 = (7 : Int))) then (some ((), ((⟨a0.rP, a0.user, a0.name, a0.seed, a0.height, (!a0.resident), a0.protect, a0.shared, a0.backed⟩ : ApiCredential), ())))
 else (some ((), (a0, ())))))))))))))
def S_passkeylaw15_spoil : FSpec T := ⟨[.f (.v (.agg 2)), .f (.v (.int .i64))], [(.v (.agg 2))], fun x => passkeylaw15_spoil x.1 x.2.1⟩
def E_passkeylaw15_spoil : Env T := ⟨tab.find, cd, globs, flc, fun f ds => match f with
    | _ => none, fun f => match f with
    | _ => false⟩
def A_passkeylaw15_spoil : Loc2 T := ⟨fun id => match id with
    | _ => none, fun r => match r with
    | _ => none, fun r => match r with
    | 4 => true
    | 8 => true
    | _ => false⟩
theorem passkeylaw15_spoil_eq (x : tySs T S_passkeylaw15_spoil.ps) : run E_passkeylaw15_spoil A_passkeylaw15_spoil (Tryz.f10.body.getD .skip) (enterT E_passkeylaw15_spoil.C S_passkeylaw15_spoil.ps x) (retK E_passkeylaw15_spoil Tryz.f10.results.toList S_passkeylaw15_spoil.ps S_passkeylaw15_spoil.rs) = S_passkeylaw15_spoil.fn x := by kernel_rfl
theorem passkeylaw15_spoil_env : EnvOk Tryz.prog E_passkeylaw15_spoil := envOk (E := E_passkeylaw15_spoil) cd_ok tys fl_ok fun f ds S h => by cases h
theorem passkeylaw15_spoil_ok : SoundT Tryz.prog cd gdn 10 S_passkeylaw15_spoil :=
  sound_fn (E := E_passkeylaw15_spoil) (A := A_passkeylaw15_spoil) (done := []) (c := (Tryz.f10.body.getD .skip)) (S := S_passkeylaw15_spoil) (fn := Tryz.f10) hmix passkeylaw15_spoil_env Tryz.func10 rfl (by kernel_rfl) (by kernel_rfl) done_nil (by kernel_rfl) (by kernel_rfl) passkeylaw15_spoil_eq
def passkeyref14_within (a0 : Int) (a1 : Int) (a2 : Int) : Option ((Unit) × (Bool × Unit)) :=
 (bif (decide (a1 ≤ a0)) then (some ((), ((decide (a0 ≤ a2)), ())))
 else (some ((), (false, ()))))
def S_passkeyref14_within : FSpec T := ⟨[.f (.v (.int .i64)), .f (.v (.int .i64)), .f (.v (.int .i64))], [(.v .bool)], fun x => passkeyref14_within x.1 x.2.1 x.2.2.1⟩
def E_passkeyref14_within : Env T := ⟨tab.find, cd, globs, flc, fun f ds => match f with
    | _ => none, fun f => match f with
    | _ => false⟩
def A_passkeyref14_within : Loc2 T := ⟨fun id => match id with
    | _ => none, fun r => match r with
    | _ => none, fun r => match r with
    | _ => false⟩
theorem passkeyref14_within_eq (x : tySs T S_passkeyref14_within.ps) : run E_passkeyref14_within A_passkeyref14_within (Tryz.f50.body.getD .skip) (enterT E_passkeyref14_within.C S_passkeyref14_within.ps x) (retK E_passkeyref14_within Tryz.f50.results.toList S_passkeyref14_within.ps S_passkeyref14_within.rs) = S_passkeyref14_within.fn x := by kernel_rfl
theorem passkeyref14_within_env : EnvOk Tryz.prog E_passkeyref14_within := envOk (E := E_passkeyref14_within) cd_ok tys fl_ok fun f ds S h => by cases h
theorem passkeyref14_within_ok : SoundT Tryz.prog cd gdn 50 S_passkeyref14_within :=
  sound_fn (E := E_passkeyref14_within) (A := A_passkeyref14_within) (done := []) (c := (Tryz.f50.body.getD .skip)) (S := S_passkeyref14_within) (fn := Tryz.f50) hmix passkeyref14_within_env Tryz.func50 rfl (by kernel_rfl) (by kernel_rfl) done_nil (by kernel_rfl) (by kernel_rfl) passkeyref14_within_eq
def passkeyref14_ValidateCredential (a0 : ApiCredential) : Option ((Unit) × (Int × Unit)) :=
 ((passkeyref14_within ((a0.rP).length : Int) (1 : Int) (64 : Int)).bind fun r1 => (bif (!r1.2.1) then (some ((), ((9 : Int), ())))
 else ((passkeyref14_within ((a0.user).length : Int) (1 : Int) (16 : Int)).bind fun r2 => (bif (!r2.2.1) then (some ((), ((9 : Int), ())))
 else (bif (decide ((32 : Int) < ((a0.name).length : Int))) then (some ((), ((9 : Int), ())))
 else ((passkeyref14_within a0.height (1 : Int) (4 : Int)).bind fun r3 => (bif (!r3.2.1) then (some ((), ((9 : Int), ())))
 else ((passkeyref14_within a0.protect (1 : Int) (3 : Int)).bind fun r4 => (bif (!r4.2.1) then (some ((), ((9 : Int), ())))
 else ((utf8_ValidString a0.rP).bind fun r5 => (bif (!r5.2.1) then (some ((), ((6 : Int), ())))
 else ((utf8_ValidString a0.name).bind fun r6 => (bif (!r6.2.1) then (some ((), ((6 : Int), ())))
 else (bif a0.shared then (bif (!a0.resident) then (some ((), ((18 : Int), ())))
 else (bif a0.backed then (bif (!a0.shared) then (some ((), ((18 : Int), ())))
 else (some ((), ((0 : Int), ()))))
 else (some ((), ((0 : Int), ())))))
 else (bif a0.backed then (bif (!a0.shared) then (some ((), ((18 : Int), ())))
 else (some ((), ((0 : Int), ()))))
 else (some ((), ((0 : Int), ()))))))))))))))))))
def S_passkeyref14_ValidateCredential : FSpec T := ⟨[.f (.v (.agg 2))], [(.v (.int .i64))], fun x => passkeyref14_ValidateCredential x.1⟩
def E_passkeyref14_ValidateCredential : Env T := ⟨tab.find, cd, globs, flc, fun f ds => match f with
    | 49 => some S_utf8_ValidString
    | 50 => some S_passkeyref14_within
    | _ => none, fun f => match f with
    | 49 => true
    | 50 => true
    | _ => false⟩
def A_passkeyref14_ValidateCredential : Loc2 T := ⟨fun id => match id with
    | _ => none, fun r => match r with
    | _ => none, fun r => match r with
    | _ => false⟩
theorem passkeyref14_ValidateCredential_eq (x : tySs T S_passkeyref14_ValidateCredential.ps) : run E_passkeyref14_ValidateCredential A_passkeyref14_ValidateCredential (Tryz.f15.body.getD .skip) (enterT E_passkeyref14_ValidateCredential.C S_passkeyref14_ValidateCredential.ps x) (retK E_passkeyref14_ValidateCredential Tryz.f15.results.toList S_passkeyref14_ValidateCredential.ps S_passkeyref14_ValidateCredential.rs) = S_passkeyref14_ValidateCredential.fn x := by kernel_rfl
theorem passkeyref14_ValidateCredential_env : EnvOk Tryz.prog E_passkeyref14_ValidateCredential := envOk (E := E_passkeyref14_ValidateCredential) cd_ok tys fl_ok fun f ds S h => by
    dsimp only [E_passkeyref14_ValidateCredential] at h
    split at h
    · cases h; exact utf8_ValidString_ok
    · cases h; exact passkeyref14_within_ok
    · cases h
theorem passkeyref14_ValidateCredential_ok : SoundT Tryz.prog cd gdn 15 S_passkeyref14_ValidateCredential :=
  sound_fn (E := E_passkeyref14_ValidateCredential) (A := A_passkeyref14_ValidateCredential) (done := []) (c := (Tryz.f15.body.getD .skip)) (S := S_passkeyref14_ValidateCredential) (fn := Tryz.f15) hmix passkeyref14_ValidateCredential_env Tryz.func15 rfl (by kernel_rfl) (by kernel_rfl) done_nil (by kernel_rfl) (by kernel_rfl) passkeyref14_ValidateCredential_eq
def passkeyref14_text (a0 : (List UInt8)) : Option ((Unit) × (ApiItem × Unit)) :=
 (some ((), ((⟨(4 : Int), 0#64, a0⟩ : ApiItem), ())))
def S_passkeyref14_text : FSpec T := ⟨[.f (.v .str)], [(.v (.agg 1))], fun x => passkeyref14_text x.1⟩
def E_passkeyref14_text : Env T := ⟨tab.find, cd, globs, flc, fun f ds => match f with
    | _ => none, fun f => match f with
    | _ => false⟩
def A_passkeyref14_text : Loc2 T := ⟨fun id => match id with
    | _ => none, fun r => match r with
    | _ => none, fun r => match r with
    | _ => false⟩
theorem passkeyref14_text_eq (x : tySs T S_passkeyref14_text.ps) : run E_passkeyref14_text A_passkeyref14_text (Tryz.f43.body.getD .skip) (enterT E_passkeyref14_text.C S_passkeyref14_text.ps x) (retK E_passkeyref14_text Tryz.f43.results.toList S_passkeyref14_text.ps S_passkeyref14_text.rs) = S_passkeyref14_text.fn x := by kernel_rfl
theorem passkeyref14_text_env : EnvOk Tryz.prog E_passkeyref14_text := envOk (E := E_passkeyref14_text) cd_ok tys fl_ok fun f ds S h => by cases h
theorem passkeyref14_text_ok : SoundT Tryz.prog cd gdn 43 S_passkeyref14_text :=
  sound_fn (E := E_passkeyref14_text) (A := A_passkeyref14_text) (done := []) (c := (Tryz.f43.body.getD .skip)) (S := S_passkeyref14_text) (fn := Tryz.f43) hmix passkeyref14_text_env Tryz.func43 rfl (by kernel_rfl) (by kernel_rfl) done_nil (by kernel_rfl) (by kernel_rfl) passkeyref14_text_eq
def passkeyref14_data (a0 : (List UInt8)) : Option ((Unit) × (ApiItem × Unit)) :=
 (some ((), ((⟨(3 : Int), 0#64, a0⟩ : ApiItem), ())))
def S_passkeyref14_data : FSpec T := ⟨[.f (.v .str)], [(.v (.agg 1))], fun x => passkeyref14_data x.1⟩
def E_passkeyref14_data : Env T := ⟨tab.find, cd, globs, flc, fun f ds => match f with
    | _ => none, fun f => match f with
    | _ => false⟩
def A_passkeyref14_data : Loc2 T := ⟨fun id => match id with
    | _ => none, fun r => match r with
    | _ => none, fun r => match r with
    | _ => false⟩
theorem passkeyref14_data_eq (x : tySs T S_passkeyref14_data.ps) : run E_passkeyref14_data A_passkeyref14_data (Tryz.f44.body.getD .skip) (enterT E_passkeyref14_data.C S_passkeyref14_data.ps x) (retK E_passkeyref14_data Tryz.f44.results.toList S_passkeyref14_data.ps S_passkeyref14_data.rs) = S_passkeyref14_data.fn x := by kernel_rfl
theorem passkeyref14_data_env : EnvOk Tryz.prog E_passkeyref14_data := envOk (E := E_passkeyref14_data) cd_ok tys fl_ok fun f ds S h => by cases h
theorem passkeyref14_data_ok : SoundT Tryz.prog cd gdn 44 S_passkeyref14_data :=
  sound_fn (E := E_passkeyref14_data) (A := A_passkeyref14_data) (done := []) (c := (Tryz.f44.body.getD .skip)) (S := S_passkeyref14_data) (fn := Tryz.f44) hmix passkeyref14_data_env Tryz.func44 rfl (by kernel_rfl) (by kernel_rfl) done_nil (by kernel_rfl) (by kernel_rfl) passkeyref14_data_eq
def passkeyref14_number (a0 : (BitVec 64)) : Option ((Unit) × (ApiItem × Unit)) :=
 (some ((), ((⟨(1 : Int), a0, ([] : List UInt8)⟩ : ApiItem), ())))
def S_passkeyref14_number : FSpec T := ⟨[.f (.v .u64)], [(.v (.agg 1))], fun x => passkeyref14_number x.1⟩
def E_passkeyref14_number : Env T := ⟨tab.find, cd, globs, flc, fun f ds => match f with
    | _ => none, fun f => match f with
    | _ => false⟩
def A_passkeyref14_number : Loc2 T := ⟨fun id => match id with
    | _ => none, fun r => match r with
    | _ => none, fun r => match r with
    | _ => false⟩
theorem passkeyref14_number_eq (x : tySs T S_passkeyref14_number.ps) : run E_passkeyref14_number A_passkeyref14_number (Tryz.f45.body.getD .skip) (enterT E_passkeyref14_number.C S_passkeyref14_number.ps x) (retK E_passkeyref14_number Tryz.f45.results.toList S_passkeyref14_number.ps S_passkeyref14_number.rs) = S_passkeyref14_number.fn x := by kernel_rfl
theorem passkeyref14_number_env : EnvOk Tryz.prog E_passkeyref14_number := envOk (E := E_passkeyref14_number) cd_ok tys fl_ok fun f ds S h => by cases h
theorem passkeyref14_number_ok : SoundT Tryz.prog cd gdn 45 S_passkeyref14_number :=
  sound_fn (E := E_passkeyref14_number) (A := A_passkeyref14_number) (done := []) (c := (Tryz.f45.body.getD .skip)) (S := S_passkeyref14_number) (fn := Tryz.f45) hmix passkeyref14_number_env Tryz.func45 rfl (by kernel_rfl) (by kernel_rfl) done_nil (by kernel_rfl) (by kernel_rfl) passkeyref14_number_eq
def passkeyref14_boolean (a0 : Bool) : Option ((Unit) × (ApiItem × Unit)) :=
 (bif a0 then (some ((), ((⟨(7 : Int), 1#64, ([] : List UInt8)⟩ : ApiItem), ())))
 else (some ((), ((⟨(7 : Int), 0#64, ([] : List UInt8)⟩ : ApiItem), ()))))
def S_passkeyref14_boolean : FSpec T := ⟨[.f (.v .bool)], [(.v (.agg 1))], fun x => passkeyref14_boolean x.1⟩
def E_passkeyref14_boolean : Env T := ⟨tab.find, cd, globs, flc, fun f ds => match f with
    | _ => none, fun f => match f with
    | _ => false⟩
def A_passkeyref14_boolean : Loc2 T := ⟨fun id => match id with
    | _ => none, fun r => match r with
    | _ => none, fun r => match r with
    | _ => false⟩
theorem passkeyref14_boolean_eq (x : tySs T S_passkeyref14_boolean.ps) : run E_passkeyref14_boolean A_passkeyref14_boolean (Tryz.f46.body.getD .skip) (enterT E_passkeyref14_boolean.C S_passkeyref14_boolean.ps x) (retK E_passkeyref14_boolean Tryz.f46.results.toList S_passkeyref14_boolean.ps S_passkeyref14_boolean.rs) = S_passkeyref14_boolean.fn x := by kernel_rfl
theorem passkeyref14_boolean_env : EnvOk Tryz.prog E_passkeyref14_boolean := envOk (E := E_passkeyref14_boolean) cd_ok tys fl_ok fun f ds S h => by cases h
theorem passkeyref14_boolean_ok : SoundT Tryz.prog cd gdn 46 S_passkeyref14_boolean :=
  sound_fn (E := E_passkeyref14_boolean) (A := A_passkeyref14_boolean) (done := []) (c := (Tryz.f46.body.getD .skip)) (S := S_passkeyref14_boolean) (fn := Tryz.f46) hmix passkeyref14_boolean_env Tryz.func46 rfl (by kernel_rfl) (by kernel_rfl) done_nil (by kernel_rfl) (by kernel_rfl) passkeyref14_boolean_eq
def passkeyref1_within (a0 : Int) (a1 : Int) (a2 : Int) : Option ((Unit) × (Bool × Unit)) :=
 (bif (decide (a1 ≤ a0)) then (some ((), ((decide (a0 ≤ a2)), ())))
 else (some ((), (false, ()))))
def S_passkeyref1_within : FSpec T := ⟨[.f (.v (.int .i64)), .f (.v (.int .i64)), .f (.v (.int .i64))], [(.v .bool)], fun x => passkeyref1_within x.1 x.2.1 x.2.2.1⟩
def E_passkeyref1_within : Env T := ⟨tab.find, cd, globs, flc, fun f ds => match f with
    | _ => none, fun f => match f with
    | _ => false⟩
def A_passkeyref1_within : Loc2 T := ⟨fun id => match id with
    | _ => none, fun r => match r with
    | _ => none, fun r => match r with
    | _ => false⟩
theorem passkeyref1_within_eq (x : tySs T S_passkeyref1_within.ps) : run E_passkeyref1_within A_passkeyref1_within (Tryz.f168.body.getD .skip) (enterT E_passkeyref1_within.C S_passkeyref1_within.ps x) (retK E_passkeyref1_within Tryz.f168.results.toList S_passkeyref1_within.ps S_passkeyref1_within.rs) = S_passkeyref1_within.fn x := by kernel_rfl
theorem passkeyref1_within_env : EnvOk Tryz.prog E_passkeyref1_within := envOk (E := E_passkeyref1_within) cd_ok tys fl_ok fun f ds S h => by cases h
theorem passkeyref1_within_ok : SoundT Tryz.prog cd gdn 168 S_passkeyref1_within :=
  sound_fn (E := E_passkeyref1_within) (A := A_passkeyref1_within) (done := []) (c := (Tryz.f168.body.getD .skip)) (S := S_passkeyref1_within) (fn := Tryz.f168) hmix passkeyref1_within_env Tryz.func168 rfl (by kernel_rfl) (by kernel_rfl) done_nil (by kernel_rfl) (by kernel_rfl) passkeyref1_within_eq
def passkeyref1_isKey (a0 : Int) : Option ((Unit) × (Bool × Unit)) :=
 (bif (decide (a0 = (1 : Int))) then (some ((), (true, ())))
 else (bif (decide (a0 = (2 : Int))) then (some ((), (true, ())))
 else (some ((), ((decide (a0 = (4 : Int))), ())))))
def S_passkeyref1_isKey : FSpec T := ⟨[.f (.v (.int .i64))], [(.v .bool)], fun x => passkeyref1_isKey x.1⟩
def E_passkeyref1_isKey : Env T := ⟨tab.find, cd, globs, flc, fun f ds => match f with
    | _ => none, fun f => match f with
    | _ => false⟩
def A_passkeyref1_isKey : Loc2 T := ⟨fun id => match id with
    | _ => none, fun r => match r with
    | _ => none, fun r => match r with
    | _ => false⟩
theorem passkeyref1_isKey_eq (x : tySs T S_passkeyref1_isKey.ps) : run E_passkeyref1_isKey A_passkeyref1_isKey (Tryz.f169.body.getD .skip) (enterT E_passkeyref1_isKey.C S_passkeyref1_isKey.ps x) (retK E_passkeyref1_isKey Tryz.f169.results.toList S_passkeyref1_isKey.ps S_passkeyref1_isKey.rs) = S_passkeyref1_isKey.fn x := by kernel_rfl
theorem passkeyref1_isKey_env : EnvOk Tryz.prog E_passkeyref1_isKey := envOk (E := E_passkeyref1_isKey) cd_ok tys fl_ok fun f ds S h => by cases h
theorem passkeyref1_isKey_ok : SoundT Tryz.prog cd gdn 169 S_passkeyref1_isKey :=
  sound_fn (E := E_passkeyref1_isKey) (A := A_passkeyref1_isKey) (done := []) (c := (Tryz.f169.body.getD .skip)) (S := S_passkeyref1_isKey) (fn := Tryz.f169) hmix passkeyref1_isKey_env Tryz.func169 rfl (by kernel_rfl) (by kernel_rfl) done_nil (by kernel_rfl) (by kernel_rfl) passkeyref1_isKey_eq
def passkeyref1_Words_L2b (y0 : (List (BitVec 64))) (y1 : (List (UInt8))) (y2 : Int) (y3 : Int) : Option (((List (BitVec 64)) × (List (UInt8)) × Int × Int × Unit) ⊕ ((List (BitVec 64)) × (List (UInt8)) × Int × Unit)) :=
 (bif (decide ((0 : Int) ≤ y3)) then ((getI y0 y2).bind fun x1 => (let v2 : BitVec 64 := (x1 >>> (BitVec.ofInt 64 (IntKind.wrap .i64 ((8 : Int) * y3))).toNat)
 (bif small ((y1).length + (([(UInt8.ofBitVec (BitVec.setWidth 8 v2))] : List (UInt8)) : List (UInt8)).length) 1 then (let v3 : List (UInt8) := (y1 ++ ([(UInt8.ofBitVec (BitVec.setWidth 8 v2))] : List (UInt8)))
 (some (Sum.inl (y0, v3, y2, (IntKind.wrap .i64 (y3 - (1 : Int))), ()))))
 else none)))
 else (some (Sum.inr (y0, y1, y2, ()))))
def passkeyref1_Words_L2 (y : ((List (BitVec 64)) × (List (UInt8)) × Int × Int × Unit)) : Option ((List (BitVec 64)) × (List (UInt8)) × Int × Unit) := iter (fun (y : ((List (BitVec 64)) × (List (UInt8)) × Int × Int × Unit)) => passkeyref1_Words_L2b y.1 y.2.1 y.2.2.1 y.2.2.2.1) rounds y
def passkeyref1_Words_L0b (y0 : (List (BitVec 64))) (y1 : (List (UInt8))) (y2 : Int) : Option (((List (BitVec 64)) × (List (UInt8)) × Int × Unit) ⊕ ((List (UInt8)) × Unit)) :=
 (bif (decide (y2 < ((y0).length : Int))) then ((passkeyref1_Words_L2 (y0, y1, y2, (7 : Int), ())).bind (fun (z1 : ((List (BitVec 64)) × (List (UInt8)) × Int × Unit)) => (some (Sum.inl (z1.1, z1.2.1, (IntKind.wrap .i64 (z1.2.2.1 + (1 : Int))), ())))))
 else (some (Sum.inr (y1, ()))))
def passkeyref1_Words_L0 (y : ((List (BitVec 64)) × (List (UInt8)) × Int × Unit)) : Option ((List (UInt8)) × Unit) := iter (fun (y : ((List (BitVec 64)) × (List (UInt8)) × Int × Unit)) => passkeyref1_Words_L0b y.1 y.2.1 y.2.2.1) rounds y
def passkeyref1_Words (a0 : (List (BitVec 64))) : Option ((Unit) × ((List (UInt8)) × Unit)) :=
 ((passkeyref1_Words_L0 (a0, [], (0 : Int), ())).bind (fun (z2 : ((List (UInt8)) × Unit)) => (some ((), (z2.1, ())))))
def S_passkeyref1_Words : FSpec T := ⟨[.f (.v (.rs 3))], [(.own 0)], fun x => passkeyref1_Words x.1⟩
def E_passkeyref1_Words : Env T := ⟨tab.find, cd, globs, flc, fun f ds => match f with
    | _ => none, fun f => match f with
    | _ => false⟩
def A_passkeyref1_Words : Loc2 T := ⟨fun id => match id with
    | 2 => some ⟨[(0, .f (.v (.rs 3))), (3, .f (.own 0)), (4, .f (.v (.int .i64))), (5, .f (.v (.int .i64)))], [(.exit 2, [(0, .f (.v (.rs 3))), (3, .f (.own 0)), (4, .f (.v (.int .i64)))])], passkeyref1_Words_L2, []⟩
    | 0 => some ⟨[(0, .f (.v (.rs 3))), (3, .f (.own 0)), (4, .f (.v (.int .i64)))], [(.exit 0, [(3, .f (.own 0))])], passkeyref1_Words_L0, []⟩
    | _ => none, fun r => match r with
    | _ => none, fun r => match r with
    | _ => false⟩
theorem passkeyref1_Words_L2_eq (y0 : (List (BitVec 64))) (y1 : (List (UInt8))) (y2 : Int) (y3 : Int) : run E_passkeyref1_Words A_passkeyref1_Words (loopAt 2 (Tryz.f21.body.getD .skip)) (layC cd [(0, .f (.v (.rs 3))), (3, .f (.own 0)), (4, .f (.v (.int .i64))), (5, .f (.v (.int .i64)))] [] (y0, y1, y2, y3, ())) (roundK cd [(0, .f (.v (.rs 3))), (3, .f (.own 0)), (4, .f (.v (.int .i64))), (5, .f (.v (.int .i64)))] [] [(.exit 2, [(0, .f (.v (.rs 3))), (3, .f (.own 0)), (4, .f (.v (.int .i64)))])]) = passkeyref1_Words_L2b y0 y1 y2 y3 := by kernel_rfl
theorem passkeyref1_Words_L0_eq (y0 : (List (BitVec 64))) (y1 : (List (UInt8))) (y2 : Int) : run E_passkeyref1_Words A_passkeyref1_Words (loopAt 0 (Tryz.f21.body.getD .skip)) (layC cd [(0, .f (.v (.rs 3))), (3, .f (.own 0)), (4, .f (.v (.int .i64)))] [] (y0, y1, y2, ())) (roundK cd [(0, .f (.v (.rs 3))), (3, .f (.own 0)), (4, .f (.v (.int .i64)))] [] [(.exit 0, [(3, .f (.own 0))])]) = passkeyref1_Words_L0b y0 y1 y2 := by kernel_rfl
theorem passkeyref1_Words_eq (x : tySs T S_passkeyref1_Words.ps) : run E_passkeyref1_Words A_passkeyref1_Words (Tryz.f21.body.getD .skip) (enterT E_passkeyref1_Words.C S_passkeyref1_Words.ps x) (retK E_passkeyref1_Words Tryz.f21.results.toList S_passkeyref1_Words.ps S_passkeyref1_Words.rs) = S_passkeyref1_Words.fn x := by kernel_rfl
theorem passkeyref1_Words_env : EnvOk Tryz.prog E_passkeyref1_Words := envOk (E := E_passkeyref1_Words) cd_ok tys fl_ok fun f ds S h => by cases h
theorem passkeyref1_Words_L2_ok : LoopOk Tryz.prog E_passkeyref1_Words Tryz.f21.ntmps (kqOf S_passkeyref1_Words.ps 0) (loopAt 2 (Tryz.f21.body.getD .skip)) ⟨[(0, .f (.v (.rs 3))), (3, .f (.own 0)), (4, .f (.v (.int .i64))), (5, .f (.v (.int .i64)))], [(.exit 2, [(0, .f (.v (.rs 3))), (3, .f (.own 0)), (4, .f (.v (.int .i64)))])], passkeyref1_Words_L2, []⟩ :=
  loop_ok (A := A_passkeyref1_Words) (done := []) (c0 := (Tryz.f21.body.getD .skip)) hmix passkeyref1_Words_env done_nil rounds (by kernel_rfl) (by kernel_rfl) (fun x => passkeyref1_Words_L2_eq x.1 x.2.1 x.2.2.1 x.2.2.2.1) (fun _ => rfl)
theorem passkeyref1_Words_L0_ok : LoopOk Tryz.prog E_passkeyref1_Words Tryz.f21.ntmps (kqOf S_passkeyref1_Words.ps 0) (loopAt 0 (Tryz.f21.body.getD .skip)) ⟨[(0, .f (.v (.rs 3))), (3, .f (.own 0)), (4, .f (.v (.int .i64)))], [(.exit 0, [(3, .f (.own 0))])], passkeyref1_Words_L0, []⟩ :=
  loop_ok (A := A_passkeyref1_Words) (done := [2]) (c0 := (Tryz.f21.body.getD .skip)) hmix passkeyref1_Words_env (done_cons rfl passkeyref1_Words_L2_ok done_nil) rounds (by kernel_rfl) (by kernel_rfl) (fun x => passkeyref1_Words_L0_eq x.1 x.2.1 x.2.2.1) (fun _ => rfl)
theorem passkeyref1_Words_ok : SoundT Tryz.prog cd gdn 21 S_passkeyref1_Words :=
  sound_fn (E := E_passkeyref1_Words) (A := A_passkeyref1_Words) (done := [2, 0]) (c := (Tryz.f21.body.getD .skip)) (S := S_passkeyref1_Words) (fn := Tryz.f21) hmix passkeyref1_Words_env Tryz.func21 rfl (by kernel_rfl) (by kernel_rfl) (done_cons rfl passkeyref1_Words_L2_ok (done_cons rfl passkeyref1_Words_L0_ok done_nil)) (by kernel_rfl) (by kernel_rfl) passkeyref1_Words_eq
def passkeyref1_Head (a0 : ApiItem) : Option ((Unit) × ((List (UInt8)) × Unit)) :=
 ((bif (decide (a0.kind = (7 : Int))) then (let v1 : UInt8 := (UInt8.ofBitVec ((244 : UInt8).toBitVec + (UInt8.ofBitVec (BitVec.setWidth 8 a0.number)).toBitVec))
 (((some ((), (([v1] : List (UInt8)), ())))).bind fun q => some (Sum.inr q)))
 else (bif (decide (a0.kind = (8 : Int))) then (((some ((), (([(246 : UInt8)] : List (UInt8)), ())))).bind fun q => some (Sum.inr q))
 else (bif (decide (a0.kind = (2 : Int))) then (some (Sum.inl (a0.number, (32 : UInt8), ())))
 else (bif (decide (a0.kind = (3 : Int))) then (some (Sum.inl ((BitVec.ofInt 64 ((a0.data).length : Int)), (64 : UInt8), ())))
 else (bif (decide (a0.kind = (4 : Int))) then (some (Sum.inl ((BitVec.ofInt 64 ((a0.data).length : Int)), (96 : UInt8), ())))
 else (bif (decide (a0.kind = (5 : Int))) then (some (Sum.inl (a0.number, (128 : UInt8), ())))
 else (bif (decide (a0.kind = (6 : Int))) then (some (Sum.inl (a0.number, (160 : UInt8), ())))
 else (some (Sum.inl (a0.number, (0 : UInt8), ())))))))))).bind (Sum.elim (fun (j2 : ((BitVec 64) × UInt8 × Unit)) => (bif (decide (j2.1.toNat < (24#64).toNat)) then (let v3 : UInt8 := (UInt8.ofBitVec (j2.2.1.toBitVec + (UInt8.ofBitVec (BitVec.setWidth 8 j2.1)).toBitVec))
 (some ((), (([v3] : List (UInt8)), ()))))
 else (bif (decide (j2.1.toNat < (256#64).toNat)) then (let v4 : List (UInt8) := ([(UInt8.ofBitVec (j2.2.1.toBitVec + (24 : UInt8).toBitVec)), (UInt8.ofBitVec (BitVec.setWidth 8 j2.1))] : List (UInt8))
 (some ((), (v4, ()))))
 else (bif (decide (j2.1.toNat < (65536#64).toNat)) then (let v5 : List (UInt8) := ([(UInt8.ofBitVec (j2.2.1.toBitVec + (25 : UInt8).toBitVec)), (UInt8.ofBitVec (BitVec.setWidth 8 (j2.1 >>> 8))), (UInt8.ofBitVec (BitVec.setWidth 8 j2.1))] : List (UInt8))
 (some ((), (v5, ()))))
 else (bif (decide (j2.1.toNat < (4294967296#64).toNat)) then (let v6 : List (UInt8) := ([(UInt8.ofBitVec (j2.2.1.toBitVec + (26 : UInt8).toBitVec)), (UInt8.ofBitVec (BitVec.setWidth 8 (j2.1 >>> 24))), (UInt8.ofBitVec (BitVec.setWidth 8 (j2.1 >>> 16))), (UInt8.ofBitVec (BitVec.setWidth 8 (j2.1 >>> 8))), (UInt8.ofBitVec (BitVec.setWidth 8 j2.1))] : List (UInt8))
 (some ((), (v6, ()))))
 else (let v7 : List (UInt8) := ([(UInt8.ofBitVec (j2.2.1.toBitVec + (27 : UInt8).toBitVec))] : List (UInt8))
 ((passkeyref1_Words ([j2.1] : List (BitVec 64))).bind fun r8 => (bif small ((v7).length + (r8.2.1 : List (UInt8)).length) 1 then (some ((), ((v7 ++ r8.2.1), ())))
 else none)))))))) some))
def S_passkeyref1_Head : FSpec T := ⟨[.f (.v (.agg 1))], [(.own 0)], fun x => passkeyref1_Head x.1⟩
def E_passkeyref1_Head : Env T := ⟨tab.find, cd, globs, flc, fun f ds => match f with
    | 21 => some S_passkeyref1_Words
    | _ => none, fun f => match f with
    | _ => false⟩
def A_passkeyref1_Head : Loc2 T := ⟨fun id => match id with
    | _ => none, fun r => match r with
    | 18 => some ([(3, .f (.v .u64)), (4, .f (.v .u8))], false)
    | _ => none, fun r => match r with
    | _ => false⟩
theorem passkeyref1_Head_eq (x : tySs T S_passkeyref1_Head.ps) : run E_passkeyref1_Head A_passkeyref1_Head (Tryz.f113.body.getD .skip) (enterT E_passkeyref1_Head.C S_passkeyref1_Head.ps x) (retK E_passkeyref1_Head Tryz.f113.results.toList S_passkeyref1_Head.ps S_passkeyref1_Head.rs) = S_passkeyref1_Head.fn x := by kernel_rfl
theorem passkeyref1_Head_env : EnvOk Tryz.prog E_passkeyref1_Head := envOk (E := E_passkeyref1_Head) cd_ok tys fl_ok fun f ds S h => by
    dsimp only [E_passkeyref1_Head] at h
    split at h
    · cases h; exact passkeyref1_Words_ok
    · cases h
theorem passkeyref1_Head_ok : SoundT Tryz.prog cd gdn 113 S_passkeyref1_Head :=
  sound_fn (E := E_passkeyref1_Head) (A := A_passkeyref1_Head) (done := []) (c := (Tryz.f113.body.getD .skip)) (S := S_passkeyref1_Head) (fn := Tryz.f113) hmix passkeyref1_Head_env Tryz.func113 rfl (by kernel_rfl) (by kernel_rfl) done_nil (by kernel_rfl) (by kernel_rfl) passkeyref1_Head_eq
def passkeyref1_Bytes (a0 : ApiItem) : Option ((Unit) × ((List UInt8) × Unit)) :=
 ((passkeyref1_Head a0).bind fun r1 => (bif Nat.ble ((r1.2.1).length + (a0.data).length) 9223372036854775807 then (some ((), ((r1.2.1 ++ a0.data), ())))
 else none))
def S_passkeyref1_Bytes : FSpec T := ⟨[.f (.v (.agg 1))], [(.v .str)], fun x => passkeyref1_Bytes x.1⟩
def E_passkeyref1_Bytes : Env T := ⟨tab.find, cd, globs, flc, fun f ds => match f with
    | 113 => some S_passkeyref1_Head
    | _ => none, fun f => match f with
    | _ => false⟩
def A_passkeyref1_Bytes : Loc2 T := ⟨fun id => match id with
    | _ => none, fun r => match r with
    | _ => none, fun r => match r with
    | 1 => true
    | _ => false⟩
theorem passkeyref1_Bytes_eq (x : tySs T S_passkeyref1_Bytes.ps) : run E_passkeyref1_Bytes A_passkeyref1_Bytes (Tryz.f81.body.getD .skip) (enterT E_passkeyref1_Bytes.C S_passkeyref1_Bytes.ps x) (retK E_passkeyref1_Bytes Tryz.f81.results.toList S_passkeyref1_Bytes.ps S_passkeyref1_Bytes.rs) = S_passkeyref1_Bytes.fn x := by kernel_rfl
theorem passkeyref1_Bytes_env : EnvOk Tryz.prog E_passkeyref1_Bytes := envOk (E := E_passkeyref1_Bytes) cd_ok tys fl_ok fun f ds S h => by
    dsimp only [E_passkeyref1_Bytes] at h
    split at h
    · cases h; exact passkeyref1_Head_ok
    · cases h
theorem passkeyref1_Bytes_ok : SoundT Tryz.prog cd gdn 81 S_passkeyref1_Bytes :=
  sound_fn (E := E_passkeyref1_Bytes) (A := A_passkeyref1_Bytes) (done := []) (c := (Tryz.f81.body.getD .skip)) (S := S_passkeyref1_Bytes) (fn := Tryz.f81) hmix passkeyref1_Bytes_env Tryz.func81 rfl (by kernel_rfl) (by kernel_rfl) done_nil (by kernel_rfl) (by kernel_rfl) passkeyref1_Bytes_eq
def passkeyref1_less (a0 : (List UInt8)) (a1 : (List UInt8)) : Option ((Unit) × (Bool × Unit)) :=
 (bif (!decide (((a0).length : Int) = ((a1).length : Int))) then (some ((), ((decide (((a0).length : Int) < ((a1).length : Int))), ())))
 else (some ((), ((Op.bytesLess a0 a1), ()))))
def S_passkeyref1_less : FSpec T := ⟨[.f (.v .str), .f (.v .str)], [(.v .bool)], fun x => passkeyref1_less x.1 x.2.1⟩
def E_passkeyref1_less : Env T := ⟨tab.find, cd, globs, flc, fun f ds => match f with
    | _ => none, fun f => match f with
    | _ => false⟩
def A_passkeyref1_less : Loc2 T := ⟨fun id => match id with
    | _ => none, fun r => match r with
    | _ => none, fun r => match r with
    | _ => false⟩
theorem passkeyref1_less_eq (x : tySs T S_passkeyref1_less.ps) : run E_passkeyref1_less A_passkeyref1_less (Tryz.f170.body.getD .skip) (enterT E_passkeyref1_less.C S_passkeyref1_less.ps x) (retK E_passkeyref1_less Tryz.f170.results.toList S_passkeyref1_less.ps S_passkeyref1_less.rs) = S_passkeyref1_less.fn x := by kernel_rfl
theorem passkeyref1_less_env : EnvOk Tryz.prog E_passkeyref1_less := envOk (E := E_passkeyref1_less) cd_ok tys fl_ok fun f ds S h => by cases h
theorem passkeyref1_less_ok : SoundT Tryz.prog cd gdn 170 S_passkeyref1_less :=
  sound_fn (E := E_passkeyref1_less) (A := A_passkeyref1_less) (done := []) (c := (Tryz.f170.body.getD .skip)) (S := S_passkeyref1_less) (fn := Tryz.f170) hmix passkeyref1_less_env Tryz.func170 rfl (by kernel_rfl) (by kernel_rfl) done_nil (by kernel_rfl) (by kernel_rfl) passkeyref1_less_eq
def passkeyref1_check (a0 : ApiItem) (a1 : Int) (a2 : Int) (a3 : Bool) (a4 : (List UInt8)) : Option ((Unit) × (Int × Unit)) :=
 ((bif (decide (a0.kind = (3 : Int))) then (some (a1, a2, a3, a4, (a0, ()), true, ()))
 else (some (a1, a2, a3, a4, (a0, ()), (decide (a0.kind = (4 : Int))), ()))).bind (fun (j1 : (Int × Int × Bool × (List UInt8) × (ApiItem × Unit) × Bool × Unit)) => ((bif (decide (j1.2.2.2.2.1.1.kind = (5 : Int))) then (some (j1.1, j1.2.1, j1.2.2.1, j1.2.2.2.1, (j1.2.2.2.2.1.1, ()), j1.2.2.2.2.2.1, true, ()))
 else (some (j1.1, j1.2.1, j1.2.2.1, j1.2.2.2.1, (j1.2.2.2.2.1.1, ()), j1.2.2.2.2.2.1, (decide (j1.2.2.2.2.1.1.kind = (6 : Int))), ()))).bind (fun (j2 : (Int × Int × Bool × (List UInt8) × (ApiItem × Unit) × Bool × Bool × Unit)) => (bif (decide ((512 : Int) ≤ j2.1)) then (some ((), ((8 : Int), ())))
 else (((passkeyref1_within j2.2.2.2.2.1.1.kind (1 : Int) (8 : Int)).bind fun r3 => (bif (!r3.2.1) then (some (j2.2.1, j2.2.2.1, j2.2.2.2.1, (j2.2.2.2.2.1.1, ()), j2.2.2.2.2.2.1, j2.2.2.2.2.2.2.1, true, ()))
 else (bif j2.2.2.1 then ((passkeyref1_isKey j2.2.2.2.2.1.1.kind).bind fun r4 => (some (j2.2.1, j2.2.2.1, j2.2.2.2.1, (j2.2.2.2.2.1.1, ()), j2.2.2.2.2.2.1, j2.2.2.2.2.2.2.1, (!r4.2.1), ())))
 else (some (j2.2.1, j2.2.2.1, j2.2.2.2.1, (j2.2.2.2.2.1.1, ()), j2.2.2.2.2.2.1, j2.2.2.2.2.2.2.1, false, ()))))).bind (fun (j5 : (Int × Bool × (List UInt8) × (ApiItem × Unit) × Bool × Bool × Bool × Unit)) => (bif j5.2.2.2.2.2.2.1 then (some ((), ((3 : Int), ())))
 else (bif (decide ((8 : Int) < j5.1)) then (some ((), ((5 : Int), ())))
 else ((bif j5.2.2.2.2.1 then (bif (!decide (j5.2.2.2.1.1.number = 0#64)) then (some (j5.2.1, j5.2.2.1, (j5.2.2.2.1.1, ()), j5.2.2.2.2.2.1, true, ()))
 else (bif (decide (j5.2.2.2.1.1.kind = (7 : Int))) then (bif (decide ((1#64).toNat < j5.2.2.2.1.1.number.toNat)) then (some (j5.2.1, j5.2.2.1, (j5.2.2.2.1.1, ()), j5.2.2.2.2.2.1, true, ()))
 else (bif (!j5.2.2.2.2.1) then (some (j5.2.1, j5.2.2.1, (j5.2.2.2.1.1, ()), j5.2.2.2.2.2.1, (!decide (j5.2.2.2.1.1.data = ([] : List UInt8))), ()))
 else (some (j5.2.1, j5.2.2.1, (j5.2.2.2.1.1, ()), j5.2.2.2.2.2.1, false, ()))))
 else (bif (!j5.2.2.2.2.1) then (some (j5.2.1, j5.2.2.1, (j5.2.2.2.1.1, ()), j5.2.2.2.2.2.1, (!decide (j5.2.2.2.1.1.data = ([] : List UInt8))), ()))
 else (some (j5.2.1, j5.2.2.1, (j5.2.2.2.1.1, ()), j5.2.2.2.2.2.1, false, ())))))
 else (bif (decide (j5.2.2.2.1.1.kind = (8 : Int))) then (bif (!decide (j5.2.2.2.1.1.number = 0#64)) then (some (j5.2.1, j5.2.2.1, (j5.2.2.2.1.1, ()), j5.2.2.2.2.2.1, true, ()))
 else (bif (decide (j5.2.2.2.1.1.kind = (7 : Int))) then (bif (decide ((1#64).toNat < j5.2.2.2.1.1.number.toNat)) then (some (j5.2.1, j5.2.2.1, (j5.2.2.2.1.1, ()), j5.2.2.2.2.2.1, true, ()))
 else (bif (!j5.2.2.2.2.1) then (some (j5.2.1, j5.2.2.1, (j5.2.2.2.1.1, ()), j5.2.2.2.2.2.1, (!decide (j5.2.2.2.1.1.data = ([] : List UInt8))), ()))
 else (some (j5.2.1, j5.2.2.1, (j5.2.2.2.1.1, ()), j5.2.2.2.2.2.1, false, ()))))
 else (bif (!j5.2.2.2.2.1) then (some (j5.2.1, j5.2.2.1, (j5.2.2.2.1.1, ()), j5.2.2.2.2.2.1, (!decide (j5.2.2.2.1.1.data = ([] : List UInt8))), ()))
 else (some (j5.2.1, j5.2.2.1, (j5.2.2.2.1.1, ()), j5.2.2.2.2.2.1, false, ())))))
 else (bif (decide (j5.2.2.2.1.1.kind = (7 : Int))) then (bif (decide ((1#64).toNat < j5.2.2.2.1.1.number.toNat)) then (some (j5.2.1, j5.2.2.1, (j5.2.2.2.1.1, ()), j5.2.2.2.2.2.1, true, ()))
 else (bif (!j5.2.2.2.2.1) then (some (j5.2.1, j5.2.2.1, (j5.2.2.2.1.1, ()), j5.2.2.2.2.2.1, (!decide (j5.2.2.2.1.1.data = ([] : List UInt8))), ()))
 else (some (j5.2.1, j5.2.2.1, (j5.2.2.2.1.1, ()), j5.2.2.2.2.2.1, false, ()))))
 else (bif (!j5.2.2.2.2.1) then (some (j5.2.1, j5.2.2.1, (j5.2.2.2.1.1, ()), j5.2.2.2.2.2.1, (!decide (j5.2.2.2.1.1.data = ([] : List UInt8))), ()))
 else (some (j5.2.1, j5.2.2.1, (j5.2.2.2.1.1, ()), j5.2.2.2.2.2.1, false, ())))))).bind (fun (j6 : (Bool × (List UInt8) × (ApiItem × Unit) × Bool × Bool × Unit)) => (bif j6.2.2.2.2.1 then (some ((), ((4 : Int), ())))
 else ((bif (decide ((1024 : Int) < ((j6.2.2.1.1.data).length : Int))) then (some (j6.1, j6.2.1, (j6.2.2.1.1, ()), true, ()))
 else (bif j6.2.2.2.1 then (some (j6.1, j6.2.1, (j6.2.2.1.1, ()), (decide ((512#64).toNat < j6.2.2.1.1.number.toNat)), ()))
 else (some (j6.1, j6.2.1, (j6.2.2.1.1, ()), false, ())))).bind (fun (j7 : (Bool × (List UInt8) × (ApiItem × Unit) × Bool × Unit)) => (bif j7.2.2.2.1 then (some ((), ((8 : Int), ())))
 else ((bif (decide (j7.2.2.1.1.kind = (4 : Int))) then ((utf8_ValidString j7.2.2.1.1.data).bind fun r8 => (some (j7.1, j7.2.1, (j7.2.2.1.1, ()), (!r8.2.1), ())))
 else (some (j7.1, j7.2.1, (j7.2.2.1.1, ()), false, ()))).bind (fun (j9 : (Bool × (List UInt8) × (ApiItem × Unit) × Bool × Unit)) => (bif j9.2.2.2.1 then (some ((), ((6 : Int), ())))
 else ((bif j9.1 then (bif (!decide (j9.2.1 = ([] : List UInt8))) then ((passkeyref1_Bytes j9.2.2.1.1).bind fun r10 => ((passkeyref1_less j9.2.1 r10.2.1).bind fun r11 => (some ((!r11.2.1), ()))))
 else (some (false, ())))
 else (some (false, ()))).bind (fun (j12 : (Bool × Unit)) => (bif j12.1 then (some ((), ((7 : Int), ())))
 else (some ((), ((0 : Int), ()))))))))))))))))))))))))
def S_passkeyref1_check : FSpec T := ⟨[.f (.v (.agg 1)), .f (.v (.int .i64)), .f (.v (.int .i64)), .f (.v .bool), .f (.v .str)], [(.v (.int .i64))], fun x => passkeyref1_check x.1 x.2.1 x.2.2.1 x.2.2.2.1 x.2.2.2.2.1⟩
def E_passkeyref1_check : Env T := ⟨tab.find, cd, globs, flc, fun f ds => match f with
    | 49 => some S_utf8_ValidString
    | 81 => some S_passkeyref1_Bytes
    | 168 => some S_passkeyref1_within
    | 169 => some S_passkeyref1_isKey
    | 170 => some S_passkeyref1_less
    | _ => none, fun f => match f with
    | 49 => true
    | 81 => true
    | 168 => true
    | 169 => true
    | 170 => true
    | _ => false⟩
def A_passkeyref1_check : Loc2 T := ⟨fun id => match id with
    | _ => none, fun r => match r with
    | 2 => some ([(1, .f (.v (.int .i64))), (2, .f (.v (.int .i64))), (3, .f (.v .bool)), (4, .f (.v .str)), (5, .ptr [(.v (.agg 1))]), (11, .f (.v .bool))], true)
    | 3 => some ([(1, .f (.v (.int .i64))), (2, .f (.v (.int .i64))), (3, .f (.v .bool)), (4, .f (.v .str)), (5, .ptr [(.v (.agg 1))]), (11, .f (.v .bool)), (12, .f (.v .bool))], true)
    | 6 => some ([(2, .f (.v (.int .i64))), (3, .f (.v .bool)), (4, .f (.v .str)), (5, .ptr [(.v (.agg 1))]), (11, .f (.v .bool)), (12, .f (.v .bool)), (32, .f (.v .bool))], true)
    | 10 => some ([(3, .f (.v .bool)), (4, .f (.v .str)), (5, .ptr [(.v (.agg 1))]), (12, .f (.v .bool)), (49, .f (.v .bool))], true)
    | 12 => some ([(3, .f (.v .bool)), (4, .f (.v .str)), (5, .ptr [(.v (.agg 1))]), (80, .f (.v .bool))], true)
    | 14 => some ([(3, .f (.v .bool)), (4, .f (.v .str)), (5, .ptr [(.v (.agg 1))]), (93, .f (.v .bool))], true)
    | 16 => some ([(103, .f (.v .bool))], true)
    | _ => none, fun r => match r with
    | _ => false⟩
theorem passkeyref1_check_eq (x : tySs T S_passkeyref1_check.ps) : run E_passkeyref1_check A_passkeyref1_check (Tryz.f147.body.getD .skip) (enterT E_passkeyref1_check.C S_passkeyref1_check.ps x) (retK E_passkeyref1_check Tryz.f147.results.toList S_passkeyref1_check.ps S_passkeyref1_check.rs) = S_passkeyref1_check.fn x := by kernel_rfl
theorem passkeyref1_check_env : EnvOk Tryz.prog E_passkeyref1_check := envOk (E := E_passkeyref1_check) cd_ok tys fl_ok fun f ds S h => by
    dsimp only [E_passkeyref1_check] at h
    split at h
    · cases h; exact utf8_ValidString_ok
    · cases h; exact passkeyref1_Bytes_ok
    · cases h; exact passkeyref1_within_ok
    · cases h; exact passkeyref1_isKey_ok
    · cases h; exact passkeyref1_less_ok
    · cases h
theorem passkeyref1_check_ok : SoundT Tryz.prog cd gdn 147 S_passkeyref1_check :=
  sound_fn (E := E_passkeyref1_check) (A := A_passkeyref1_check) (done := []) (c := (Tryz.f147.body.getD .skip)) (S := S_passkeyref1_check) (fn := Tryz.f147) hmix passkeyref1_check_env Tryz.func147 rfl (by kernel_rfl) (by kernel_rfl) done_nil (by kernel_rfl) (by kernel_rfl) passkeyref1_check_eq
def passkeyref1_walk_L0b (k_rec : (List (ApiItem)) → Int → Int → Bool → (List UInt8) → Option ((Unit) × (Int × Int × Unit))) (y0 : (List (ApiItem))) (y1 : Int) (y2 : (ApiItem × Unit)) (y3 : Int) (y4 : (List UInt8)) (y5 : (BitVec 64)) : Option (((List (ApiItem)) × Int × (ApiItem × Unit) × Int × (List UInt8) × (BitVec 64) × Unit) ⊕ ((Int × Int × Unit) ⊕ (Int × Unit))) :=
 (bif (decide (y5.toNat < y2.1.number.toNat)) then (bif (decide (y2.1.kind = (5 : Int))) then ((bif (decide (y2.1.kind = (6 : Int))) then ((k_rec y0 y3 (IntKind.wrap .i64 (y1 + (1 : Int))) true y4).bind fun r3 => (bif (!decide (r3.2.2.1 = (0 : Int))) then (((some (Sum.inr (Sum.inl (r3.2.1, r3.2.2.1, ()))))).bind fun q => some (Sum.inr q))
 else ((getI y0 y3).bind fun x4 => ((passkeyref1_Bytes x4).bind fun r5 => (some (Sum.inl (y0, y1, (y2.1, ()), r3.2.1, r5.2.1, y5, ())))))))
 else (some (Sum.inl (y0, y1, (y2.1, ()), y3, y4, y5, ())))).bind (Sum.elim (fun (j6 : ((List (ApiItem)) × Int × (ApiItem × Unit) × Int × (List UInt8) × (BitVec 64) × Unit)) => ((k_rec j6.1 j6.2.2.2.1 (IntKind.wrap .i64 (j6.2.1 + (1 : Int))) false ([] : List UInt8)).bind fun r7 => (bif (!decide (r7.2.2.1 = (0 : Int))) then (some (Sum.inr (Sum.inl (r7.2.1, r7.2.2.1, ()))))
 else (some (Sum.inl (j6.1, j6.2.1, (j6.2.2.1.1, ()), r7.2.1, j6.2.2.2.2.1, (j6.2.2.2.2.2.1 + 1#64), ())))))) some))
 else (bif (decide (y2.1.kind = (6 : Int))) then ((bif (decide (y2.1.kind = (6 : Int))) then ((k_rec y0 y3 (IntKind.wrap .i64 (y1 + (1 : Int))) true y4).bind fun r8 => (bif (!decide (r8.2.2.1 = (0 : Int))) then (((some (Sum.inr (Sum.inl (r8.2.1, r8.2.2.1, ()))))).bind fun q => some (Sum.inr q))
 else ((getI y0 y3).bind fun x9 => ((passkeyref1_Bytes x9).bind fun r10 => (some (Sum.inl (y0, y1, (y2.1, ()), r8.2.1, r10.2.1, y5, ())))))))
 else (some (Sum.inl (y0, y1, (y2.1, ()), y3, y4, y5, ())))).bind (Sum.elim (fun (j11 : ((List (ApiItem)) × Int × (ApiItem × Unit) × Int × (List UInt8) × (BitVec 64) × Unit)) => ((k_rec j11.1 j11.2.2.2.1 (IntKind.wrap .i64 (j11.2.1 + (1 : Int))) false ([] : List UInt8)).bind fun r12 => (bif (!decide (r12.2.2.1 = (0 : Int))) then (some (Sum.inr (Sum.inl (r12.2.1, r12.2.2.1, ()))))
 else (some (Sum.inl (j11.1, j11.2.1, (j11.2.2.1.1, ()), r12.2.1, j11.2.2.2.2.1, (j11.2.2.2.2.2.1 + 1#64), ())))))) some))
 else (some (Sum.inr (Sum.inr (y3, ()))))))
 else (some (Sum.inr (Sum.inr (y3, ())))))
def passkeyref1_walk_L0 (k_rec : (List (ApiItem)) → Int → Int → Bool → (List UInt8) → Option ((Unit) × (Int × Int × Unit))) (y : ((List (ApiItem)) × Int × (ApiItem × Unit) × Int × (List UInt8) × (BitVec 64) × Unit)) : Option ((Int × Int × Unit) ⊕ (Int × Unit)) := iter (fun (y : ((List (ApiItem)) × Int × (ApiItem × Unit) × Int × (List UInt8) × (BitVec 64) × Unit)) => passkeyref1_walk_L0b k_rec y.1 y.2.1 y.2.2.1 y.2.2.2.1 y.2.2.2.2.1 y.2.2.2.2.2.1) rounds y
def passkeyref1_walk_R (k_rec : (List (ApiItem)) → Int → Int → Bool → (List UInt8) → Option ((Unit) × (Int × Int × Unit))) (a0 : (List (ApiItem))) (a1 : Int) (a2 : Int) (a3 : Bool) (a4 : (List UInt8)) : Option ((Unit) × (Int × Int × Unit)) :=
 (bif (decide (((a0).length : Int) ≤ a1)) then (some ((), (a1, (1 : Int), ())))
 else ((getI a0 a1).bind fun x1 => ((passkeyref1_check x1 a1 a2 a3 a4).bind fun r2 => (bif (!decide (r2.2.1 = (0 : Int))) then (some ((), (a1, r2.2.1, ())))
 else ((passkeyref1_walk_L0 k_rec (a0, a2, (x1, ()), (IntKind.wrap .i64 (a1 + (1 : Int))), ([] : List UInt8), 0#64, ())).bind (Sum.elim (fun (z13 : (Int × Int × Unit)) => (some ((), (z13.1, z13.2.1, ())))) (fun (z14 : (Int × Unit)) => (some ((), (z14.1, (0 : Int), ()))))))))))
abbrev ps_passkeyref1_walk : List Slot := [.f (.v (.rs 1)), .f (.v (.int .i64)), .f (.v (.int .i64)), .f (.v .bool), .f (.v .str)]
abbrev rs_passkeyref1_walk : List Fld := [(.v (.int .i64)), (.v (.int .i64))]
def E_passkeyref1_walk (k_rec : (List (ApiItem)) → Int → Int → Bool → (List UInt8) → Option ((Unit) × (Int × Int × Unit))) : Env T := ⟨tab.find, cd, globs, flc, fun f ds => match f with
    | 81 => some S_passkeyref1_Bytes
    | 112 => some ⟨ps_passkeyref1_walk, rs_passkeyref1_walk, fun x => k_rec x.1 x.2.1 x.2.2.1 x.2.2.2.1 x.2.2.2.2.1⟩
    | 147 => some S_passkeyref1_check
    | _ => none, fun f => match f with
    | 81 => true
    | 112 => true
    | 147 => true
    | _ => false⟩
def A_passkeyref1_walk (k_rec : (List (ApiItem)) → Int → Int → Bool → (List UInt8) → Option ((Unit) × (Int × Int × Unit))) : Loc2 T := ⟨fun id => match id with
    | 0 => some ⟨[(0, .f (.v (.rs 1))), (2, .f (.v (.int .i64))), (12, .ptr [(.v (.agg 1))]), (14, .f (.v (.int .i64))), (15, .f (.v .str)), (16, .f (.v .u64))], [(.ret, [(10, .f (.v (.int .i64))), (11, .f (.v (.int .i64)))]), (.exit 0, [(14, .f (.v (.int .i64)))])], passkeyref1_walk_L0 k_rec, []⟩
    | _ => none, fun r => match r with
    | 19 => some ([(0, .f (.v (.rs 1))), (2, .f (.v (.int .i64))), (12, .ptr [(.v (.agg 1))]), (14, .f (.v (.int .i64))), (15, .f (.v .str)), (16, .f (.v .u64))], false)
    | _ => none, fun r => match r with
    | _ => false⟩
theorem passkeyref1_walk_L0_eq (k_rec : (List (ApiItem)) → Int → Int → Bool → (List UInt8) → Option ((Unit) × (Int × Int × Unit))) (y0 : (List (ApiItem))) (y1 : Int) (y2 : (ApiItem × Unit)) (y3 : Int) (y4 : (List UInt8)) (y5 : (BitVec 64)) : run (E_passkeyref1_walk k_rec) (A_passkeyref1_walk k_rec) (loopAt 0 (Tryz.f112.body.getD .skip)) (layC cd [(0, .f (.v (.rs 1))), (2, .f (.v (.int .i64))), (12, .ptr [(.v (.agg 1))]), (14, .f (.v (.int .i64))), (15, .f (.v .str)), (16, .f (.v .u64))] [] (y0, y1, y2, y3, y4, y5, ())) (roundK cd [(0, .f (.v (.rs 1))), (2, .f (.v (.int .i64))), (12, .ptr [(.v (.agg 1))]), (14, .f (.v (.int .i64))), (15, .f (.v .str)), (16, .f (.v .u64))] [] [(.ret, [(10, .f (.v (.int .i64))), (11, .f (.v (.int .i64)))]), (.exit 0, [(14, .f (.v (.int .i64)))])]) = passkeyref1_walk_L0b k_rec y0 y1 y2 y3 y4 y5 := by kernel_rfl
theorem passkeyref1_walk_eqR (k_rec : (List (ApiItem)) → Int → Int → Bool → (List UInt8) → Option ((Unit) × (Int × Int × Unit))) (x : tySs T ps_passkeyref1_walk) : run (E_passkeyref1_walk k_rec) (A_passkeyref1_walk k_rec) (Tryz.f112.body.getD .skip) (enterT (E_passkeyref1_walk k_rec).C ps_passkeyref1_walk x) (retK (E_passkeyref1_walk k_rec) Tryz.f112.results.toList ps_passkeyref1_walk rs_passkeyref1_walk) = passkeyref1_walk_R k_rec x.1 x.2.1 x.2.2.1 x.2.2.2.1 x.2.2.2.2.1 := by kernel_rfl
def passkeyref1_walk_n : Nat → (List (ApiItem)) → Int → Int → Bool → (List UInt8) → Option ((Unit) × (Int × Int × Unit))
  | 0 => fun _ _ _ _ _ => none
  | n + 1 => passkeyref1_walk_R (passkeyref1_walk_n n)
def passkeyref1_walk (a0 : (List (ApiItem))) (a1 : Int) (a2 : Int) (a3 : Bool) (a4 : (List UInt8)) := passkeyref1_walk_n 12 a0 a1 a2 a3 a4
def S_passkeyref1_walk : FSpec T := ⟨ps_passkeyref1_walk, rs_passkeyref1_walk, fun x => passkeyref1_walk x.1 x.2.1 x.2.2.1 x.2.2.2.1 x.2.2.2.2.1⟩
theorem passkeyref1_walk_env (k_rec : (List (ApiItem)) → Int → Int → Bool → (List UInt8) → Option ((Unit) × (Int × Int × Unit))) (hk : SoundT Tryz.prog cd gdn 112 ⟨ps_passkeyref1_walk, rs_passkeyref1_walk, fun x => k_rec x.1 x.2.1 x.2.2.1 x.2.2.2.1 x.2.2.2.2.1⟩) : EnvOk Tryz.prog (E_passkeyref1_walk k_rec) := envOk (E := (E_passkeyref1_walk k_rec)) cd_ok tys fl_ok fun f ds S h => by
    dsimp only [E_passkeyref1_walk] at h
    split at h
    · cases h; exact passkeyref1_Bytes_ok
    · cases h; exact hk
    · cases h; exact passkeyref1_check_ok
    · cases h
theorem passkeyref1_walk_L0_ok (k_rec : (List (ApiItem)) → Int → Int → Bool → (List UInt8) → Option ((Unit) × (Int × Int × Unit))) (hk : SoundT Tryz.prog cd gdn 112 ⟨ps_passkeyref1_walk, rs_passkeyref1_walk, fun x => k_rec x.1 x.2.1 x.2.2.1 x.2.2.2.1 x.2.2.2.2.1⟩) : LoopOk Tryz.prog (E_passkeyref1_walk k_rec) Tryz.f112.ntmps (kqOf ps_passkeyref1_walk 0) (loopAt 0 (Tryz.f112.body.getD .skip)) ⟨[(0, .f (.v (.rs 1))), (2, .f (.v (.int .i64))), (12, .ptr [(.v (.agg 1))]), (14, .f (.v (.int .i64))), (15, .f (.v .str)), (16, .f (.v .u64))], [(.ret, [(10, .f (.v (.int .i64))), (11, .f (.v (.int .i64)))]), (.exit 0, [(14, .f (.v (.int .i64)))])], passkeyref1_walk_L0 k_rec, []⟩ :=
  loop_ok (A := (A_passkeyref1_walk k_rec)) (done := []) (c0 := (Tryz.f112.body.getD .skip)) hmix (passkeyref1_walk_env k_rec hk) done_nil rounds (by kernel_rfl) (by kernel_rfl) (fun x => passkeyref1_walk_L0_eq k_rec x.1 x.2.1 x.2.2.1 x.2.2.2.1 x.2.2.2.2.1 x.2.2.2.2.2.1) (fun _ => rfl)
theorem passkeyref1_walk_okn : ∀ n : Nat, SoundT Tryz.prog cd gdn 112 ⟨ps_passkeyref1_walk, rs_passkeyref1_walk, fun x => passkeyref1_walk_n n x.1 x.2.1 x.2.2.1 x.2.2.2.1 x.2.2.2.2.1⟩
  | 0 => sound_none ⟨_, Tryz.func112, by kernel_rfl, by kernel_rfl⟩
  | n + 1 => sound_fn (E := E_passkeyref1_walk (passkeyref1_walk_n n)) (A := A_passkeyref1_walk (passkeyref1_walk_n n)) (done := [0]) (c := (Tryz.f112.body.getD .skip)) (S := ⟨ps_passkeyref1_walk, rs_passkeyref1_walk, fun x => passkeyref1_walk_n (n + 1) x.1 x.2.1 x.2.2.1 x.2.2.2.1 x.2.2.2.2.1⟩) (fn := Tryz.f112) hmix (passkeyref1_walk_env _ (passkeyref1_walk_okn n)) Tryz.func112 rfl (by kernel_rfl) (by kernel_rfl) (done_cons rfl (passkeyref1_walk_L0_ok _ (passkeyref1_walk_okn n)) done_nil) (by kernel_rfl) (by kernel_rfl) (passkeyref1_walk_eqR (passkeyref1_walk_n n))
theorem passkeyref1_walk_ok : SoundT Tryz.prog cd gdn 112 S_passkeyref1_walk := passkeyref1_walk_okn 12
def passkeyref1_Validate (a0 : (List (ApiItem))) : Option ((Unit) × (Int × Unit)) :=
 ((passkeyref1_walk a0 (0 : Int) (0 : Int) false ([] : List UInt8)).bind fun r1 => (bif (!decide (r1.2.2.1 = (0 : Int))) then (some ((), (r1.2.2.1, ())))
 else (bif (decide (r1.2.1 < ((a0).length : Int))) then (some ((), ((2 : Int), ())))
 else (some ((), ((0 : Int), ()))))))
def S_passkeyref1_Validate : FSpec T := ⟨[.f (.v (.rs 1))], [(.v (.int .i64))], fun x => passkeyref1_Validate x.1⟩
def E_passkeyref1_Validate : Env T := ⟨tab.find, cd, globs, flc, fun f ds => match f with
    | 112 => some S_passkeyref1_walk
    | _ => none, fun f => match f with
    | 112 => true
    | _ => false⟩
def A_passkeyref1_Validate : Loc2 T := ⟨fun id => match id with
    | _ => none, fun r => match r with
    | _ => none, fun r => match r with
    | _ => false⟩
theorem passkeyref1_Validate_eq (x : tySs T S_passkeyref1_Validate.ps) : run E_passkeyref1_Validate A_passkeyref1_Validate (Tryz.f80.body.getD .skip) (enterT E_passkeyref1_Validate.C S_passkeyref1_Validate.ps x) (retK E_passkeyref1_Validate Tryz.f80.results.toList S_passkeyref1_Validate.ps S_passkeyref1_Validate.rs) = S_passkeyref1_Validate.fn x := by kernel_rfl
theorem passkeyref1_Validate_env : EnvOk Tryz.prog E_passkeyref1_Validate := envOk (E := E_passkeyref1_Validate) cd_ok tys fl_ok fun f ds S h => by
    dsimp only [E_passkeyref1_Validate] at h
    split at h
    · cases h; exact passkeyref1_walk_ok
    · cases h
theorem passkeyref1_Validate_ok : SoundT Tryz.prog cd gdn 80 S_passkeyref1_Validate :=
  sound_fn (E := E_passkeyref1_Validate) (A := A_passkeyref1_Validate) (done := []) (c := (Tryz.f80.body.getD .skip)) (S := S_passkeyref1_Validate) (fn := Tryz.f80) hmix passkeyref1_Validate_env Tryz.func80 rfl (by kernel_rfl) (by kernel_rfl) done_nil (by kernel_rfl) (by kernel_rfl) passkeyref1_Validate_eq
def passkeyref1_Encode_L0b (y0 : (List (ApiItem))) (y1 : (List (UInt8))) (y2 : Int) : Option (((List (ApiItem)) × (List (UInt8)) × Int × Unit) ⊕ ((List (UInt8)) × Unit)) :=
 (bif (decide (y2 < ((y0).length : Int))) then ((getI y0 y2).bind fun x2 => ((passkeyref1_Bytes x2).bind fun r3 => (bif small ((y1).length + (r3.2.1 : List (UInt8)).length) 1 then (some (Sum.inl (y0, (y1 ++ r3.2.1), (IntKind.wrap .i64 (y2 + (1 : Int))), ())))
 else none)))
 else (some (Sum.inr (y1, ()))))
def passkeyref1_Encode_L0 (y : ((List (ApiItem)) × (List (UInt8)) × Int × Unit)) : Option ((List (UInt8)) × Unit) := iter (fun (y : ((List (ApiItem)) × (List (UInt8)) × Int × Unit)) => passkeyref1_Encode_L0b y.1 y.2.1 y.2.2.1) rounds y
def passkeyref1_Encode (a0 : (List (ApiItem))) : Option ((Unit) × ((List (UInt8)) × Int × Unit)) :=
 ((passkeyref1_Validate a0).bind fun r1 => (bif (!decide (r1.2.1 = (0 : Int))) then (some ((), ([], r1.2.1, ())))
 else ((passkeyref1_Encode_L0 (a0, [], (0 : Int), ())).bind (fun (z4 : ((List (UInt8)) × Unit)) => (some ((), (z4.1, (0 : Int), ())))))))
def S_passkeyref1_Encode : FSpec T := ⟨[.f (.v (.rs 1))], [(.own 0), (.v (.int .i64))], fun x => passkeyref1_Encode x.1⟩
def E_passkeyref1_Encode : Env T := ⟨tab.find, cd, globs, flc, fun f ds => match f with
    | 80 => some S_passkeyref1_Validate
    | 81 => some S_passkeyref1_Bytes
    | _ => none, fun f => match f with
    | 80 => true
    | 81 => true
    | _ => false⟩
def A_passkeyref1_Encode : Loc2 T := ⟨fun id => match id with
    | 0 => some ⟨[(0, .f (.v (.rs 1))), (5, .f (.own 0)), (6, .f (.v (.int .i64)))], [(.exit 0, [(5, .f (.own 0))])], passkeyref1_Encode_L0, []⟩
    | _ => none, fun r => match r with
    | _ => none, fun r => match r with
    | _ => false⟩
theorem passkeyref1_Encode_L0_eq (y0 : (List (ApiItem))) (y1 : (List (UInt8))) (y2 : Int) : run E_passkeyref1_Encode A_passkeyref1_Encode (loopAt 0 (Tryz.f47.body.getD .skip)) (layC cd [(0, .f (.v (.rs 1))), (5, .f (.own 0)), (6, .f (.v (.int .i64)))] [] (y0, y1, y2, ())) (roundK cd [(0, .f (.v (.rs 1))), (5, .f (.own 0)), (6, .f (.v (.int .i64)))] [] [(.exit 0, [(5, .f (.own 0))])]) = passkeyref1_Encode_L0b y0 y1 y2 := by kernel_rfl
theorem passkeyref1_Encode_eq (x : tySs T S_passkeyref1_Encode.ps) : run E_passkeyref1_Encode A_passkeyref1_Encode (Tryz.f47.body.getD .skip) (enterT E_passkeyref1_Encode.C S_passkeyref1_Encode.ps x) (retK E_passkeyref1_Encode Tryz.f47.results.toList S_passkeyref1_Encode.ps S_passkeyref1_Encode.rs) = S_passkeyref1_Encode.fn x := by kernel_rfl
theorem passkeyref1_Encode_env : EnvOk Tryz.prog E_passkeyref1_Encode := envOk (E := E_passkeyref1_Encode) cd_ok tys fl_ok fun f ds S h => by
    dsimp only [E_passkeyref1_Encode] at h
    split at h
    · cases h; exact passkeyref1_Validate_ok
    · cases h; exact passkeyref1_Bytes_ok
    · cases h
theorem passkeyref1_Encode_L0_ok : LoopOk Tryz.prog E_passkeyref1_Encode Tryz.f47.ntmps (kqOf S_passkeyref1_Encode.ps 0) (loopAt 0 (Tryz.f47.body.getD .skip)) ⟨[(0, .f (.v (.rs 1))), (5, .f (.own 0)), (6, .f (.v (.int .i64)))], [(.exit 0, [(5, .f (.own 0))])], passkeyref1_Encode_L0, []⟩ :=
  loop_ok (A := A_passkeyref1_Encode) (done := []) (c0 := (Tryz.f47.body.getD .skip)) hmix passkeyref1_Encode_env done_nil rounds (by kernel_rfl) (by kernel_rfl) (fun x => passkeyref1_Encode_L0_eq x.1 x.2.1 x.2.2.1) (fun _ => rfl)
theorem passkeyref1_Encode_ok : SoundT Tryz.prog cd gdn 47 S_passkeyref1_Encode :=
  sound_fn (E := E_passkeyref1_Encode) (A := A_passkeyref1_Encode) (done := [0]) (c := (Tryz.f47.body.getD .skip)) (S := S_passkeyref1_Encode) (fn := Tryz.f47) hmix passkeyref1_Encode_env Tryz.func47 rfl (by kernel_rfl) (by kernel_rfl) (done_cons rfl passkeyref1_Encode_L0_ok done_nil) (by kernel_rfl) (by kernel_rfl) passkeyref1_Encode_eq
def passkeyref14_EncodeCredential_L0b (y0 : (List (ApiItem))) (y1 : (List (ApiItem))) (y2 : Int) : Option (((List (ApiItem)) × (List (ApiItem)) × Int × Unit) ⊕ ((List (ApiItem)) × Unit)) :=
 (bif (decide (y2 < ((y0).length : Int))) then ((passkeyref14_number (BitVec.ofInt 64 (IntKind.wrap .i64 (y2 + (1 : Int))))).bind fun r13 => (bif (decide ((0 : Int) ≤ y2) && decide (y2 < ((y0).length : Int))) then (((y0)[(y2).toNat]?).bind fun x14 => (bif small ((y1).length + (([r13.2.1, x14] : List (ApiItem)) : List (ApiItem)).length) 32 then (let v15 : List (ApiItem) := (y1 ++ ([r13.2.1, x14] : List (ApiItem)))
 (some (Sum.inl (y0, v15, (IntKind.wrap .i64 (y2 + (1 : Int))), ()))))
 else none))
 else none))
 else (some (Sum.inr (y1, ()))))
def passkeyref14_EncodeCredential_L0 (y : ((List (ApiItem)) × (List (ApiItem)) × Int × Unit)) : Option ((List (ApiItem)) × Unit) := iter (fun (y : ((List (ApiItem)) × (List (ApiItem)) × Int × Unit)) => passkeyref14_EncodeCredential_L0b y.1 y.2.1 y.2.2.1) rounds y
def passkeyref14_EncodeCredential (a0 : ApiCredential) : Option ((Unit) × ((List (UInt8)) × Int × Unit)) :=
 ((passkeyref14_ValidateCredential a0).bind fun r1 => (bif (!decide (r1.2.1 = (0 : Int))) then (some ((), ([], r1.2.1, ())))
 else ((passkeyref14_text a0.rP).bind fun r2 => ((passkeyref14_data a0.user).bind fun r3 => ((passkeyref14_text a0.name).bind fun r4 => ((passkeyref14_number a0.seed).bind fun r5 => ((passkeyref14_number (BitVec.ofInt 64 a0.height)).bind fun r6 => ((passkeyref14_boolean a0.resident).bind fun r7 => ((passkeyref14_number (BitVec.ofInt 64 a0.protect)).bind fun r8 => ((passkeyref14_boolean a0.shared).bind fun r9 => ((passkeyref14_boolean a0.backed).bind fun r10 => (let v11 : List (ApiItem) := ([r2.2.1, r3.2.1, r4.2.1, r5.2.1, r6.2.1, r7.2.1, r8.2.1, r9.2.1, r10.2.1] : List (ApiItem))
 (let v12 : List (ApiItem) := ([(⟨(6 : Int), 9#64, ([] : List UInt8)⟩ : ApiItem)] : List (ApiItem))
 ((passkeyref14_EncodeCredential_L0 (v11, v12, (0 : Int), ())).bind (fun (z16 : ((List (ApiItem)) × Unit)) => ((passkeyref1_Encode z16.1).bind fun r17 => (some ((), (r17.2.1, r17.2.2.1, ())))))))))))))))))))
def S_passkeyref14_EncodeCredential : FSpec T := ⟨[.f (.v (.agg 2))], [(.own 0), (.v (.int .i64))], fun x => passkeyref14_EncodeCredential x.1⟩
def E_passkeyref14_EncodeCredential : Env T := ⟨tab.find, cd, globs, flc, fun f ds => match f with
    | 15 => some S_passkeyref14_ValidateCredential
    | 43 => some S_passkeyref14_text
    | 44 => some S_passkeyref14_data
    | 45 => some S_passkeyref14_number
    | 46 => some S_passkeyref14_boolean
    | 47 => some S_passkeyref1_Encode
    | _ => none, fun f => match f with
    | 15 => true
    | 43 => true
    | 44 => true
    | 45 => true
    | 46 => true
    | _ => false⟩
def A_passkeyref14_EncodeCredential : Loc2 T := ⟨fun id => match id with
    | 0 => some ⟨[(5, .f (.own 1)), (6, .f (.own 1)), (7, .f (.v (.int .i64)))], [(.exit 0, [(6, .f (.own 1))])], passkeyref14_EncodeCredential_L0, []⟩
    | _ => none, fun r => match r with
    | _ => none, fun r => match r with
    | _ => false⟩
theorem passkeyref14_EncodeCredential_L0_eq (y0 : (List (ApiItem))) (y1 : (List (ApiItem))) (y2 : Int) : run E_passkeyref14_EncodeCredential A_passkeyref14_EncodeCredential (loopAt 0 (Tryz.f13.body.getD .skip)) (layC cd [(5, .f (.own 1)), (6, .f (.own 1)), (7, .f (.v (.int .i64)))] [] (y0, y1, y2, ())) (roundK cd [(5, .f (.own 1)), (6, .f (.own 1)), (7, .f (.v (.int .i64)))] [] [(.exit 0, [(6, .f (.own 1))])]) = passkeyref14_EncodeCredential_L0b y0 y1 y2 := by kernel_rfl
theorem passkeyref14_EncodeCredential_eq (x : tySs T S_passkeyref14_EncodeCredential.ps) : run E_passkeyref14_EncodeCredential A_passkeyref14_EncodeCredential (Tryz.f13.body.getD .skip) (enterT E_passkeyref14_EncodeCredential.C S_passkeyref14_EncodeCredential.ps x) (retK E_passkeyref14_EncodeCredential Tryz.f13.results.toList S_passkeyref14_EncodeCredential.ps S_passkeyref14_EncodeCredential.rs) = S_passkeyref14_EncodeCredential.fn x := by kernel_rfl
theorem passkeyref14_EncodeCredential_env : EnvOk Tryz.prog E_passkeyref14_EncodeCredential := envOk (E := E_passkeyref14_EncodeCredential) cd_ok tys fl_ok fun f ds S h => by
    dsimp only [E_passkeyref14_EncodeCredential] at h
    split at h
    · cases h; exact passkeyref14_ValidateCredential_ok
    · cases h; exact passkeyref14_text_ok
    · cases h; exact passkeyref14_data_ok
    · cases h; exact passkeyref14_number_ok
    · cases h; exact passkeyref14_boolean_ok
    · cases h; exact passkeyref1_Encode_ok
    · cases h
theorem passkeyref14_EncodeCredential_L0_ok : LoopOk Tryz.prog E_passkeyref14_EncodeCredential Tryz.f13.ntmps (kqOf S_passkeyref14_EncodeCredential.ps 0) (loopAt 0 (Tryz.f13.body.getD .skip)) ⟨[(5, .f (.own 1)), (6, .f (.own 1)), (7, .f (.v (.int .i64)))], [(.exit 0, [(6, .f (.own 1))])], passkeyref14_EncodeCredential_L0, []⟩ :=
  loop_ok (A := A_passkeyref14_EncodeCredential) (done := []) (c0 := (Tryz.f13.body.getD .skip)) hmix passkeyref14_EncodeCredential_env done_nil rounds (by kernel_rfl) (by kernel_rfl) (fun x => passkeyref14_EncodeCredential_L0_eq x.1 x.2.1 x.2.2.1) (fun _ => rfl)
theorem passkeyref14_EncodeCredential_ok : SoundT Tryz.prog cd gdn 13 S_passkeyref14_EncodeCredential :=
  sound_fn (E := E_passkeyref14_EncodeCredential) (A := A_passkeyref14_EncodeCredential) (done := [0]) (c := (Tryz.f13.body.getD .skip)) (S := S_passkeyref14_EncodeCredential) (fn := Tryz.f13) hmix passkeyref14_EncodeCredential_env Tryz.func13 rfl (by kernel_rfl) (by kernel_rfl) (done_cons rfl passkeyref14_EncodeCredential_L0_ok done_nil) (by kernel_rfl) (by kernel_rfl) passkeyref14_EncodeCredential_eq
def passkeylaw15_CredentialValidates (a0 : ApiCredential) (a1 : Int) (a2 : Int) : Option ((Unit) × (Bool × Unit)) :=
 (bif (decide ((100 : Int) < ((a0.rP).length : Int))) then ((passkeylaw15_awake).bind fun r1 => (some ((), (r1.2.1, ()))))
 else (bif (decide ((100 : Int) < ((a0.user).length : Int))) then ((passkeylaw15_awake).bind fun r2 => (some ((), (r2.2.1, ()))))
 else (bif (decide ((100 : Int) < ((a0.name).length : Int))) then ((passkeylaw15_awake).bind fun r3 => (some ((), (r3.2.1, ()))))
 else (let v4 : Int := (IntKind.wrap .i64 ((BitVec.ofInt (IntKind.bits .i64) a1 &&& BitVec.ofInt (IntKind.bits .i64) (1048575 : Int)).toNat : Int))
 ((passkeybase_Credential v4).bind fun r5 => ((passkeylaw15_spoil r5.2.1 a2).bind fun r6 => ((credential_Encode a0).bind fun r7 => ((passkeyref14_EncodeCredential a0).bind fun r8 => ((credential_Encode r6.2.1).bind fun r9 => ((passkeyref14_EncodeCredential r6.2.1).bind fun r10 => ((credential_Validate a0).bind fun r11 => ((passkeyref14_ValidateCredential a0).bind fun r12 => (bif (decide (r11.2.1 = r12.2.1)) then ((credential_Validate r6.2.1).bind fun r13 => ((passkeyref14_ValidateCredential r6.2.1).bind fun r14 => (bif (decide (r13.2.1 = r14.2.1)) then (bif (decide (r7.2.2.1 = r8.2.2.1)) then (bif (decide (r7.2.1 = r8.2.1)) then (bif (decide (r9.2.2.1 = r10.2.2.1)) then (bif (decide (r9.2.1 = r10.2.1)) then (bif (decide (((r9.2.1).length : Int) ≤ (160 : Int))) then ((passkeylaw15_awake).bind fun r15 => (some ((), (r15.2.1, ()))))
 else (some ((), (false, ()))))
 else (some ((), (false, ()))))
 else (some ((), (false, ()))))
 else (some ((), (false, ()))))
 else (some ((), (false, ()))))
 else (some ((), (false, ()))))))
 else (some ((), (false, ()))))))))))))))))
def S_passkeylaw15_CredentialValidates : FSpec T := ⟨[.f (.v (.agg 2)), .f (.v (.int .i64)), .f (.v (.int .i64))], [(.v .bool)], fun x => passkeylaw15_CredentialValidates x.1 x.2.1 x.2.2.1⟩
def E_passkeylaw15_CredentialValidates : Env T := ⟨tab.find, cd, globs, flc, fun f ds => match f with
    | 9 => some S_passkeylaw15_awake
    | 10 => some S_passkeylaw15_spoil
    | 11 => some S_passkeybase_Credential
    | 12 => some S_credential_Encode
    | 13 => some S_passkeyref14_EncodeCredential
    | 14 => some S_credential_Validate
    | 15 => some S_passkeyref14_ValidateCredential
    | _ => none, fun f => match f with
    | 9 => true
    | 10 => true
    | 11 => true
    | 14 => true
    | 15 => true
    | _ => false⟩
def A_passkeylaw15_CredentialValidates : Loc2 T := ⟨fun id => match id with
    | _ => none, fun r => match r with
    | _ => none, fun r => match r with
    | _ => false⟩
theorem passkeylaw15_CredentialValidates_eq (x : tySs T S_passkeylaw15_CredentialValidates.ps) : run E_passkeylaw15_CredentialValidates A_passkeylaw15_CredentialValidates (Tryz.f3.body.getD .skip) (enterT E_passkeylaw15_CredentialValidates.C S_passkeylaw15_CredentialValidates.ps x) (retK E_passkeylaw15_CredentialValidates Tryz.f3.results.toList S_passkeylaw15_CredentialValidates.ps S_passkeylaw15_CredentialValidates.rs) = S_passkeylaw15_CredentialValidates.fn x := by kernel_rfl
theorem passkeylaw15_CredentialValidates_env : EnvOk Tryz.prog E_passkeylaw15_CredentialValidates := envOk (E := E_passkeylaw15_CredentialValidates) cd_ok tys fl_ok fun f ds S h => by
    dsimp only [E_passkeylaw15_CredentialValidates] at h
    split at h
    · cases h; exact passkeylaw15_awake_ok
    · cases h; exact passkeylaw15_spoil_ok
    · cases h; exact passkeybase_Credential_ok
    · cases h; exact credential_Encode_ok
    · cases h; exact passkeyref14_EncodeCredential_ok
    · cases h; exact credential_Validate_ok
    · cases h; exact passkeyref14_ValidateCredential_ok
    · cases h
theorem passkeylaw15_CredentialValidates_ok : SoundT Tryz.prog cd gdn 3 S_passkeylaw15_CredentialValidates :=
  sound_fn (E := E_passkeylaw15_CredentialValidates) (A := A_passkeylaw15_CredentialValidates) (done := []) (c := (Tryz.f3.body.getD .skip)) (S := S_passkeylaw15_CredentialValidates) (fn := Tryz.f3) hmix passkeylaw15_CredentialValidates_env Tryz.func3 rfl (by kernel_rfl) (by kernel_rfl) done_nil (by kernel_rfl) (by kernel_rfl) passkeylaw15_CredentialValidates_eq
def CredentialValidates_dom (a0 : ApiCredential) (a1 : Int) (a2 : Int) : Prop := ArgD cd [(.agg 2), (.int .i64), (.int .i64)] (a0, a1, a2, ())
end Go.Proofs.YtghfcfjnfgmkgaaGreatDoor

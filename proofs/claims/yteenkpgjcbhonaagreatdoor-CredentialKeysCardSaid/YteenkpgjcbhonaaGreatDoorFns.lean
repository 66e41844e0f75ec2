/- The functions of the program, as plain functions, and that the program computes them. Written by a program. -/
import Derived.Test.YteenkpgjcbhonaaGreatDoorFns0
import Derived.Test.YteenkpgjcbhonaaGreatDoorRgC
set_option linter.unusedVariables false
set_option maxRecDepth 100000
namespace Go.Proofs.YteenkpgjcbhonaaGreatDoor
open Go Go.Abs
def passkeybase_RP (a0 : Int) : Option ((Unit) × ((List UInt8) × Unit)) :=
 (let v1 : List (List UInt8) := ([([97, 46, 101, 120, 97, 109, 112, 108, 101] : List UInt8), ([98, 46, 101, 120, 97, 109, 112, 108, 101] : List UInt8), ([115, 104, 111, 112, 46, 116, 101, 115, 116] : List UInt8)] : List (List UInt8))
 (let v2 : Int := (IntKind.wrap .i64 ((BitVec.ofInt (IntKind.bits .i64) a0 &&& BitVec.ofInt (IntKind.bits .i64) (65535 : Int)).toNat : Int))
 (bif (decide ((0 : Int) ≤ (Int.tmod v2 (3 : Int))) && decide ((Int.tmod v2 (3 : Int)) < (3 : Int))) then (((v1)[((Int.tmod v2 (3 : Int))).toNat]?).bind fun x3 => (some ((), (x3, ()))))
 else none)))

def S_passkeybase_RP : FSpec T := ⟨[.f (.v (.int .i64))], [(.v .str)], fun x => passkeybase_RP x.1⟩

theorem passkeybase_RP_ok : SoundT Tryz.prog cd gdn 9 S_passkeybase_RP :=
  sndC hmix o13 (lcA [] [] []) Tryz.func9 done_nil (by kernel_rfl) (by kernel_rfl) fun x => by kernel_rfl

def c14 : List (Ct T) := ⟨9, none, S_passkeybase_RP, true⟩ :: c13
theorem o14 : EnvOk Tryz.prog (mE c14) := eCons passkeybase_RP_ok o13

def passkeybase_User (a0 : Int) : Option ((Unit) × ((List UInt8) × Unit)) :=
 (let v1 : List (List UInt8) := ([([117, 49] : List UInt8), ([117, 50] : List UInt8), ([0, 255] : List UInt8)] : List (List UInt8))
 (let v2 : Int := (IntKind.wrap .i64 ((BitVec.ofInt (IntKind.bits .i64) a0 &&& BitVec.ofInt (IntKind.bits .i64) (65535 : Int)).toNat : Int))
 (bif (decide ((0 : Int) ≤ (Int.tmod v2 (3 : Int))) && decide ((Int.tmod v2 (3 : Int)) < (3 : Int))) then (((v1)[((Int.tmod v2 (3 : Int))).toNat]?).bind fun x3 => (some ((), (x3, ()))))
 else none)))

def S_passkeybase_User : FSpec T := ⟨[.f (.v (.int .i64))], [(.v .str)], fun x => passkeybase_User x.1⟩

theorem passkeybase_User_ok : SoundT Tryz.prog cd gdn 10 S_passkeybase_User :=
  sndC hmix o14 (lcA [] [] []) Tryz.func10 done_nil (by kernel_rfl) (by kernel_rfl) fun x => by kernel_rfl

def c15 : List (Ct T) := ⟨10, none, S_passkeybase_User, true⟩ :: c14
theorem o15 : EnvOk Tryz.prog (mE c15) := eCons passkeybase_User_ok o14

def passkeybase_Text (a0 : Int) : Option ((Unit) × ((List UInt8) × Unit)) :=
 (let v1 : List (List UInt8) := ([([] : List UInt8), ([97] : List UInt8), ([98] : List UInt8), ([108, 111, 103, 105, 110] : List UInt8), ([107, 101, 121] : List UInt8), ([101, 120, 97, 109, 112, 108, 101, 46, 111, 114, 103] : List UInt8), ([195, 169] : List UInt8), ([48, 49, 50, 51, 52, 53, 54, 55, 56, 57, 48, 49, 50, 51, 52, 53] : List UInt8)] : List (List UInt8))
 (let v2 : Int := (IntKind.wrap .i64 ((BitVec.ofInt (IntKind.bits .i64) a0 &&& BitVec.ofInt (IntKind.bits .i64) (7 : Int)).toNat : Int))
 (bif (decide ((0 : Int) ≤ v2) && decide (v2 < (8 : Int))) then (((v1)[(v2).toNat]?).bind fun x3 => (let v4 : Int := (IntKind.wrap .i64 ((BitVec.ofInt (IntKind.bits .i64) (Int.fdiv a0 (2 ^ (min 3 (IntKind.bits .i64)))) &&& BitVec.ofInt (IntKind.bits .i64) (7 : Int)).toNat : Int))
 (bif (decide ((0 : Int) ≤ v4) && decide (v4 < (8 : Int))) then (((v1)[(v4).toNat]?).bind fun x5 => (bif Nat.ble ((x3).length + (x5).length) 9223372036854775807 then (some ((), ((x3 ++ x5), ())))
 else none))
 else none)))
 else none)))

def S_passkeybase_Text : FSpec T := ⟨[.f (.v (.int .i64))], [(.v .str)], fun x => passkeybase_Text x.1⟩

theorem passkeybase_Text_ok : SoundT Tryz.prog cd gdn 11 S_passkeybase_Text :=
  sndC hmix o15 (lcA [] [] []) Tryz.func11 done_nil (by kernel_rfl) (by kernel_rfl) fun x => by kernel_rfl

def c16 : List (Ct T) := ⟨11, none, S_passkeybase_Text, true⟩ :: c15
theorem o16 : EnvOk Tryz.prog (mE c16) := eCons passkeybase_Text_ok o15

def passkeybase_Credential (a0 : Int) : Option ((Unit) × (ApiCredential × Unit)) :=
 ((passkeybase_RP a0).bind fun r1 => ((passkeybase_User (Int.fdiv a0 (2 ^ (min 2 (IntKind.bits .i64))))).bind fun r2 => ((passkeybase_Text (Int.fdiv a0 (2 ^ (min 4 (IntKind.bits .i64))))).bind fun r3 => (let v4 : Int := (IntKind.wrap .i64 ((BitVec.ofInt (IntKind.bits .i64) (Int.fdiv a0 (2 ^ (min 3 (IntKind.bits .i64)))) &&& BitVec.ofInt (IntKind.bits .i64) (1 : Int)).toNat : Int))
 (let v5 : Int := (Int.tmod (Int.fdiv a0 (2 ^ (min 5 (IntKind.bits .i64)))) (3 : Int))
 (let v6 : Int := (IntKind.wrap .i64 ((BitVec.ofInt (IntKind.bits .i64) (Int.fdiv a0 (2 ^ (min 7 (IntKind.bits .i64)))) &&& BitVec.ofInt (IntKind.bits .i64) (1 : Int)).toNat : Int))
 (bif (decide (v6 = (1 : Int))) then (let v7 : Int := (IntKind.wrap .i64 ((BitVec.ofInt (IntKind.bits .i64) (Int.fdiv a0 (2 ^ (min 8 (IntKind.bits .i64)))) &&& BitVec.ofInt (IntKind.bits .i64) (1 : Int)).toNat : Int))
 (bif (decide (v7 = (1 : Int))) then (let v8 : Int := (IntKind.wrap .i64 ((BitVec.ofInt (IntKind.bits .i64) (Int.fdiv a0 (2 ^ (min 9 (IntKind.bits .i64)))) &&& BitVec.ofInt (IntKind.bits .i64) (1 : Int)).toNat : Int))
 (some ((), ((⟨r1.2.1, r2.2.1, r3.2.1, ((BitVec.ofInt 64 a0) * 11400714819323198485#64), (IntKind.wrap .i64 ((1 : Int) + v4)), (decide (v6 = (1 : Int))), (IntKind.wrap .i64 ((1 : Int) + v5)), (decide (v7 = (1 : Int))), (decide (v8 = (1 : Int)))⟩ : ApiCredential), ()))))
 else (some ((), ((⟨r1.2.1, r2.2.1, r3.2.1, ((BitVec.ofInt 64 a0) * 11400714819323198485#64), (IntKind.wrap .i64 ((1 : Int) + v4)), (decide (v6 = (1 : Int))), (IntKind.wrap .i64 ((1 : Int) + v5)), (decide (v7 = (1 : Int))), false⟩ : ApiCredential), ())))))
 else (some ((), ((⟨r1.2.1, r2.2.1, r3.2.1, ((BitVec.ofInt 64 a0) * 11400714819323198485#64), (IntKind.wrap .i64 ((1 : Int) + v4)), (decide (v6 = (1 : Int))), (IntKind.wrap .i64 ((1 : Int) + v5)), false, false⟩ : ApiCredential), ()))))))))))

def S_passkeybase_Credential : FSpec T := ⟨[.f (.v (.int .i64))], [(.v (.agg 7))], fun x => passkeybase_Credential x.1⟩

theorem passkeybase_Credential_ok : SoundT Tryz.prog cd gdn 5 S_passkeybase_Credential :=
  sndC hmix o16 (lcA [] [] []) Tryz.func5 done_nil (by kernel_rfl) (by kernel_rfl) fun x => by kernel_rfl

def c17 : List (Ct T) := ⟨5, none, S_passkeybase_Credential, true⟩ :: c16
theorem o17 : EnvOk Tryz.prog (mE c17) := eCons passkeybase_Credential_ok o16

def passkeylaw15_spoil (a0 : ApiCredential) (a1 : Int) : Option ((Unit) × (ApiCredential × Unit)) :=
 (let v1 : Int := (IntKind.wrap .i64 ((BitVec.ofInt (IntKind.bits .i64) (Int.fdiv a1 (2 ^ (min 4 (IntKind.bits .i64)))) &&& BitVec.ofInt (IntKind.bits .i64) (65535 : Int)).toNat : Int))
 (let v2 : Int := (IntKind.wrap .i64 ((BitVec.ofInt (IntKind.bits .i64) a1 &&& BitVec.ofInt (IntKind.bits .i64) (15 : Int)).toNat : Int))
 (bif (decide (v2 = (0 : Int))) then (let v3 : List (UInt8) := (List.replicate 64 (0 : UInt8))
 (let v4 : List (UInt8) := (List.replicate 65 (0 : UInt8))
 (let v5 : List (List UInt8) := ([([] : List UInt8), ([255] : List UInt8), v3, v4] : List (List UInt8))
 (let v6 : Int := (IntKind.wrap .i64 ((BitVec.ofInt (IntKind.bits .i64) v1 &&& BitVec.ofInt (IntKind.bits .i64) (3 : Int)).toNat : Int))
 (bif (decide ((0 : Int) ≤ v6) && decide (v6 < (4 : Int))) then (((v5)[(v6).toNat]?).bind fun x7 => (some ((), ((⟨x7, a0.user, a0.name, a0.seed, a0.height, a0.resident, a0.protect, a0.shared, a0.backed⟩ : ApiCredential), ()))))
 else none)))))
 else (bif (decide (v2 = (1 : Int))) then (let v8 : List (List UInt8) := ([([] : List UInt8), ([255, 254] : List UInt8), ([48, 49, 50, 51, 52, 53, 54, 55, 56, 57, 48, 49, 50, 51, 52, 53] : List UInt8), ([48, 49, 50, 51, 52, 53, 54, 55, 56, 57, 48, 49, 50, 51, 52, 53, 54] : List UInt8)] : List (List UInt8))
 (let v9 : Int := (IntKind.wrap .i64 ((BitVec.ofInt (IntKind.bits .i64) v1 &&& BitVec.ofInt (IntKind.bits .i64) (3 : Int)).toNat : Int))
 (bif (decide ((0 : Int) ≤ v9) && decide (v9 < (4 : Int))) then (((v8)[(v9).toNat]?).bind fun x10 => (some ((), ((⟨a0.rP, x10, a0.name, a0.seed, a0.height, a0.resident, a0.protect, a0.shared, a0.backed⟩ : ApiCredential), ()))))
 else none)))
 else (bif (decide (v2 = (2 : Int))) then (let v11 : List (UInt8) := (List.replicate 32 (0 : UInt8))
 (let v12 : List (UInt8) := (List.replicate 33 (0 : UInt8))
 (let v13 : List (List UInt8) := ([([] : List UInt8), ([195] : List UInt8), v11, v12] : List (List UInt8))
 (let v14 : Int := (IntKind.wrap .i64 ((BitVec.ofInt (IntKind.bits .i64) v1 &&& BitVec.ofInt (IntKind.bits .i64) (3 : Int)).toNat : Int))
 (bif (decide ((0 : Int) ≤ v14) && decide (v14 < (4 : Int))) then (((v13)[(v14).toNat]?).bind fun x15 => (some ((), ((⟨a0.rP, a0.user, x15, a0.seed, a0.height, a0.resident, a0.protect, a0.shared, a0.backed⟩ : ApiCredential), ()))))
 else none)))))
 else (bif (decide (v2 = (3 : Int))) then (let v16 : Int := (IntKind.wrap .i64 ((BitVec.ofInt (IntKind.bits .i64) v1 &&& BitVec.ofInt (IntKind.bits .i64) (7 : Int)).toNat : Int))
 (some ((), ((⟨a0.rP, a0.user, a0.name, a0.seed, (IntKind.wrap .i64 (v16 - (1 : Int))), a0.resident, a0.protect, a0.shared, a0.backed⟩ : ApiCredential), ()))))
 else (bif (decide (v2 = (4 : Int))) then (let v17 : Int := (IntKind.wrap .i64 ((BitVec.ofInt (IntKind.bits .i64) v1 &&& BitVec.ofInt (IntKind.bits .i64) (7 : Int)).toNat : Int))
 (some ((), ((⟨a0.rP, a0.user, a0.name, a0.seed, a0.height, a0.resident, (IntKind.wrap .i64 (v17 - (1 : Int))), a0.shared, a0.backed⟩ : ApiCredential), ()))))
 else (bif (decide (v2 = (5 : Int))) then (some ((), ((⟨a0.rP, a0.user, a0.name, a0.seed, a0.height, a0.resident, a0.protect, (!a0.shared), a0.backed⟩ : ApiCredential), ())))
 else (bif (decide (v2 = (6 : Int))) then (some ((), ((⟨a0.rP, a0.user, a0.name, a0.seed, a0.height, a0.resident, a0.protect, a0.shared, (!a0.backed)⟩ : ApiCredential), ())))
 else (bif (decide (v2 = (7 : Int))) then (some ((), ((⟨a0.rP, a0.user, a0.name, a0.seed, a0.height, (!a0.resident), a0.protect, a0.shared, a0.backed⟩ : ApiCredential), ())))
 else (some ((), (a0, ())))))))))))))

def S_passkeylaw15_spoil : FSpec T := ⟨[.f (.v (.agg 7)), .f (.v (.int .i64))], [(.v (.agg 7))], fun x => passkeylaw15_spoil x.1 x.2.1⟩

theorem passkeylaw15_spoil_ok : SoundT Tryz.prog cd gdn 4 S_passkeylaw15_spoil :=
  sndC hmix o17 (lcA [] [] [4, 8]) Tryz.func4 done_nil (by kernel_rfl) (by kernel_rfl) fun x => by kernel_rfl

def c18 : List (Ct T) := ⟨4, none, S_passkeylaw15_spoil, true⟩ :: c17
theorem o18 : EnvOk Tryz.prog (mE c18) := eCons passkeylaw15_spoil_ok o17

def credential_within (a0 : Int) (a1 : Int) (a2 : Int) : Option ((Unit) × (Bool × Unit)) :=
 (bif (decide (a1 ≤ a0)) then (some ((), ((decide (a0 ≤ a2)), ())))
 else (some ((), (false, ()))))

def S_credential_within : FSpec T := ⟨[.f (.v (.int .i64)), .f (.v (.int .i64)), .f (.v (.int .i64))], [(.v .bool)], fun x => credential_within x.1 x.2.1 x.2.2.1⟩

theorem credential_within_ok : SoundT Tryz.prog cd gdn 18 S_credential_within :=
  sndC hmix o18 (lcA [] [] []) Tryz.func18 done_nil (by kernel_rfl) (by kernel_rfl) fun x => by kernel_rfl

def c19 : List (Ct T) := ⟨18, none, S_credential_within, true⟩ :: c18
theorem o19 : EnvOk Tryz.prog (mE c19) := eCons credential_within_ok o18

def c20 : List (Ct T) := ⟨19, none, S_utf8_ValidString, true⟩ :: c19
theorem o20 : EnvOk Tryz.prog (mE c20) := eCons utf8_ValidString_ok o19

def credential_Validate (a0 : ApiCredential) : Option ((Unit) × (Int × Unit)) :=
 ((credential_within ((a0.rP).length : Int) (1 : Int) (64 : Int)).bind fun r1 => (bif (!r1.2.1) then (bif (!r1.2.1) then (some ((), ((9 : Int), ())))
 else ((utf8_ValidString a0.rP).bind fun r2 => (bif (!r2.2.1) then (bif (!r2.2.1) then (some ((), ((6 : Int), ())))
 else (bif a0.shared then (bif (!a0.resident) then (bif (!a0.resident) then (some ((), ((18 : Int), ())))
 else (some ((), ((0 : Int), ()))))
 else (bif a0.backed then (bif (!a0.shared) then (some ((), ((18 : Int), ())))
 else (some ((), ((0 : Int), ()))))
 else (some ((), ((0 : Int), ())))))
 else (bif a0.backed then (bif (!a0.shared) then (some ((), ((18 : Int), ())))
 else (some ((), ((0 : Int), ()))))
 else (some ((), ((0 : Int), ()))))))
 else ((utf8_ValidString a0.name).bind fun r3 => (bif (!r3.2.1) then (some ((), ((6 : Int), ())))
 else (bif a0.shared then (bif (!a0.resident) then (bif (!a0.resident) then (some ((), ((18 : Int), ())))
 else (some ((), ((0 : Int), ()))))
 else (bif a0.backed then (bif (!a0.shared) then (some ((), ((18 : Int), ())))
 else (some ((), ((0 : Int), ()))))
 else (some ((), ((0 : Int), ())))))
 else (bif a0.backed then (bif (!a0.shared) then (some ((), ((18 : Int), ())))
 else (some ((), ((0 : Int), ()))))
 else (some ((), ((0 : Int), ()))))))))))
 else ((credential_within ((a0.user).length : Int) (1 : Int) (16 : Int)).bind fun r4 => (bif (!r4.2.1) then (bif (!r4.2.1) then (some ((), ((9 : Int), ())))
 else ((utf8_ValidString a0.rP).bind fun r5 => (bif (!r5.2.1) then (bif (!r5.2.1) then (some ((), ((6 : Int), ())))
 else (bif a0.shared then (bif (!a0.resident) then (bif (!a0.resident) then (some ((), ((18 : Int), ())))
 else (some ((), ((0 : Int), ()))))
 else (bif a0.backed then (bif (!a0.shared) then (some ((), ((18 : Int), ())))
 else (some ((), ((0 : Int), ()))))
 else (some ((), ((0 : Int), ())))))
 else (bif a0.backed then (bif (!a0.shared) then (some ((), ((18 : Int), ())))
 else (some ((), ((0 : Int), ()))))
 else (some ((), ((0 : Int), ()))))))
 else ((utf8_ValidString a0.name).bind fun r6 => (bif (!r6.2.1) then (some ((), ((6 : Int), ())))
 else (bif a0.shared then (bif (!a0.resident) then (bif (!a0.resident) then (some ((), ((18 : Int), ())))
 else (some ((), ((0 : Int), ()))))
 else (bif a0.backed then (bif (!a0.shared) then (some ((), ((18 : Int), ())))
 else (some ((), ((0 : Int), ()))))
 else (some ((), ((0 : Int), ())))))
 else (bif a0.backed then (bif (!a0.shared) then (some ((), ((18 : Int), ())))
 else (some ((), ((0 : Int), ()))))
 else (some ((), ((0 : Int), ()))))))))))
 else (bif (decide ((32 : Int) < ((a0.name).length : Int))) then (bif (decide ((32 : Int) < ((a0.name).length : Int))) then (some ((), ((9 : Int), ())))
 else ((utf8_ValidString a0.rP).bind fun r7 => (bif (!r7.2.1) then (bif (!r7.2.1) then (some ((), ((6 : Int), ())))
 else (bif a0.shared then (bif (!a0.resident) then (bif (!a0.resident) then (some ((), ((18 : Int), ())))
 else (some ((), ((0 : Int), ()))))
 else (bif a0.backed then (bif (!a0.shared) then (some ((), ((18 : Int), ())))
 else (some ((), ((0 : Int), ()))))
 else (some ((), ((0 : Int), ())))))
 else (bif a0.backed then (bif (!a0.shared) then (some ((), ((18 : Int), ())))
 else (some ((), ((0 : Int), ()))))
 else (some ((), ((0 : Int), ()))))))
 else ((utf8_ValidString a0.name).bind fun r8 => (bif (!r8.2.1) then (some ((), ((6 : Int), ())))
 else (bif a0.shared then (bif (!a0.resident) then (bif (!a0.resident) then (some ((), ((18 : Int), ())))
 else (some ((), ((0 : Int), ()))))
 else (bif a0.backed then (bif (!a0.shared) then (some ((), ((18 : Int), ())))
 else (some ((), ((0 : Int), ()))))
 else (some ((), ((0 : Int), ())))))
 else (bif a0.backed then (bif (!a0.shared) then (some ((), ((18 : Int), ())))
 else (some ((), ((0 : Int), ()))))
 else (some ((), ((0 : Int), ()))))))))))
 else ((credential_within a0.height (1 : Int) (4 : Int)).bind fun r9 => (bif (!r9.2.1) then (bif (!r9.2.1) then (some ((), ((9 : Int), ())))
 else ((utf8_ValidString a0.rP).bind fun r10 => (bif (!r10.2.1) then (bif (!r10.2.1) then (some ((), ((6 : Int), ())))
 else (bif a0.shared then (bif (!a0.resident) then (bif (!a0.resident) then (some ((), ((18 : Int), ())))
 else (some ((), ((0 : Int), ()))))
 else (bif a0.backed then (bif (!a0.shared) then (some ((), ((18 : Int), ())))
 else (some ((), ((0 : Int), ()))))
 else (some ((), ((0 : Int), ())))))
 else (bif a0.backed then (bif (!a0.shared) then (some ((), ((18 : Int), ())))
 else (some ((), ((0 : Int), ()))))
 else (some ((), ((0 : Int), ()))))))
 else ((utf8_ValidString a0.name).bind fun r11 => (bif (!r11.2.1) then (some ((), ((6 : Int), ())))
 else (bif a0.shared then (bif (!a0.resident) then (bif (!a0.resident) then (some ((), ((18 : Int), ())))
 else (some ((), ((0 : Int), ()))))
 else (bif a0.backed then (bif (!a0.shared) then (some ((), ((18 : Int), ())))
 else (some ((), ((0 : Int), ()))))
 else (some ((), ((0 : Int), ())))))
 else (bif a0.backed then (bif (!a0.shared) then (some ((), ((18 : Int), ())))
 else (some ((), ((0 : Int), ()))))
 else (some ((), ((0 : Int), ()))))))))))
 else ((credential_within a0.protect (1 : Int) (3 : Int)).bind fun r12 => (bif (!r12.2.1) then (some ((), ((9 : Int), ())))
 else ((utf8_ValidString a0.rP).bind fun r13 => (bif (!r13.2.1) then (bif (!r13.2.1) then (some ((), ((6 : Int), ())))
 else (bif a0.shared then (bif (!a0.resident) then (bif (!a0.resident) then (some ((), ((18 : Int), ())))
 else (some ((), ((0 : Int), ()))))
 else (bif a0.backed then (bif (!a0.shared) then (some ((), ((18 : Int), ())))
 else (some ((), ((0 : Int), ()))))
 else (some ((), ((0 : Int), ())))))
 else (bif a0.backed then (bif (!a0.shared) then (some ((), ((18 : Int), ())))
 else (some ((), ((0 : Int), ()))))
 else (some ((), ((0 : Int), ()))))))
 else ((utf8_ValidString a0.name).bind fun r14 => (bif (!r14.2.1) then (some ((), ((6 : Int), ())))
 else (bif a0.shared then (bif (!a0.resident) then (bif (!a0.resident) then (some ((), ((18 : Int), ())))
 else (some ((), ((0 : Int), ()))))
 else (bif a0.backed then (bif (!a0.shared) then (some ((), ((18 : Int), ())))
 else (some ((), ((0 : Int), ()))))
 else (some ((), ((0 : Int), ())))))
 else (bif a0.backed then (bif (!a0.shared) then (some ((), ((18 : Int), ())))
 else (some ((), ((0 : Int), ()))))
 else (some ((), ((0 : Int), ()))))))))))))))))))

def S_credential_Validate : FSpec T := ⟨[.f (.v (.agg 7))], [(.v (.int .i64))], fun x => credential_Validate x.1⟩

theorem credential_Validate_ok : SoundT Tryz.prog cd gdn 12 S_credential_Validate :=
  sndC hmix o20 (lcA [] [] []) Tryz.func12 done_nil (by kernel_rfl) (by kernel_rfl) fun x => by kernel_rfl

def c21 : List (Ct T) := ⟨12, none, S_credential_Validate, true⟩ :: c20
theorem o21 : EnvOk Tryz.prog (mE c21) := eCons credential_Validate_ok o20

def c22 : List (Ct T) := ⟨13, none, S_treekey_Public, true⟩ :: c21
theorem o22 : EnvOk Tryz.prog (mE c22) := eCons treekey_Public_ok o21

def credential_Key (a0 : ApiCredential) : Option ((Unit) × (ApiPublicKey × Int × Unit)) :=
 ((credential_Validate a0).bind fun r1 => (bif (!decide (r1.2.1 = (0 : Int))) then (some ((), ((⟨(0 : Int), 0#64⟩ : ApiPublicKey), r1.2.1, ())))
 else ((treekey_Public a0.seed a0.height).bind fun r2 => (some ((), (r2.2.1, r2.2.2.1, ()))))))

def S_credential_Key : FSpec T := ⟨[.f (.v (.agg 7))], [(.v (.agg 5)), (.v (.int .i64))], fun x => credential_Key x.1⟩

theorem credential_Key_ok : SoundT Tryz.prog cd gdn 6 S_credential_Key :=
  sndC hmix o22 (lcA [] [] []) Tryz.func6 done_nil (by kernel_rfl) (by kernel_rfl) fun x => by kernel_rfl

def c23 : List (Ct T) := ⟨6, none, S_credential_Key, true⟩ :: c22
theorem o23 : EnvOk Tryz.prog (mE c23) := eCons credential_Key_ok o22

def passkeyref14_within (a0 : Int) (a1 : Int) (a2 : Int) : Option ((Unit) × (Bool × Unit)) :=
 (bif (decide (a1 ≤ a0)) then (some ((), ((decide (a0 ≤ a2)), ())))
 else (some ((), (false, ()))))

def S_passkeyref14_within : FSpec T := ⟨[.f (.v (.int .i64)), .f (.v (.int .i64)), .f (.v (.int .i64))], [(.v .bool)], fun x => passkeyref14_within x.1 x.2.1 x.2.2.1⟩

theorem passkeyref14_within_ok : SoundT Tryz.prog cd gdn 22 S_passkeyref14_within :=
  sndC hmix o23 (lcA [] [] []) Tryz.func22 done_nil (by kernel_rfl) (by kernel_rfl) fun x => by kernel_rfl

def c24 : List (Ct T) := ⟨22, none, S_passkeyref14_within, true⟩ :: c23
theorem o24 : EnvOk Tryz.prog (mE c24) := eCons passkeyref14_within_ok o23

def passkeyref14_ValidateCredential (a0 : ApiCredential) : Option ((Unit) × (Int × Unit)) :=
 ((passkeyref14_within ((a0.rP).length : Int) (1 : Int) (64 : Int)).bind fun r1 => (bif (!r1.2.1) then (some ((), ((9 : Int), ())))
 else ((passkeyref14_within ((a0.user).length : Int) (1 : Int) (16 : Int)).bind fun r2 => (bif (!r2.2.1) then (some ((), ((9 : Int), ())))
 else (bif (decide ((32 : Int) < ((a0.name).length : Int))) then (some ((), ((9 : Int), ())))
 else ((passkeyref14_within a0.height (1 : Int) (4 : Int)).bind fun r3 => (bif (!r3.2.1) then (some ((), ((9 : Int), ())))
 else ((passkeyref14_within a0.protect (1 : Int) (3 : Int)).bind fun r4 => (bif (!r4.2.1) then (some ((), ((9 : Int), ())))
 else ((utf8_ValidString a0.rP).bind fun r5 => (bif (!r5.2.1) then (some ((), ((6 : Int), ())))
 else ((utf8_ValidString a0.name).bind fun r6 => (bif (!r6.2.1) then (some ((), ((6 : Int), ())))
 else (bif a0.shared then (bif (!a0.resident) then (some ((), ((18 : Int), ())))
 else (bif a0.backed then (bif (!a0.shared) then (some ((), ((18 : Int), ())))
 else (some ((), ((0 : Int), ()))))
 else (some ((), ((0 : Int), ())))))
 else (bif a0.backed then (bif (!a0.shared) then (some ((), ((18 : Int), ())))
 else (some ((), ((0 : Int), ()))))
 else (some ((), ((0 : Int), ()))))))))))))))))))

def S_passkeyref14_ValidateCredential : FSpec T := ⟨[.f (.v (.agg 7))], [(.v (.int .i64))], fun x => passkeyref14_ValidateCredential x.1⟩

theorem passkeyref14_ValidateCredential_ok : SoundT Tryz.prog cd gdn 14 S_passkeyref14_ValidateCredential :=
  sndC hmix o24 (lcA [] [] []) Tryz.func14 done_nil (by kernel_rfl) (by kernel_rfl) fun x => by kernel_rfl

def c25 : List (Ct T) := ⟨14, none, S_passkeyref14_ValidateCredential, true⟩ :: c24
theorem o25 : EnvOk Tryz.prog (mE c25) := eCons passkeyref14_ValidateCredential_ok o24

def passkeyref3_height (a0 : Int) : Option ((Unit) × (Bool × Unit)) :=
 (bif (decide ((0 : Int) ≤ a0)) then (some ((), ((decide (a0 ≤ (4 : Int))), ())))
 else (some ((), (false, ()))))

def S_passkeyref3_height : FSpec T := ⟨[.f (.v (.int .i64))], [(.v .bool)], fun x => passkeyref3_height x.1⟩

theorem passkeyref3_height_ok : SoundT Tryz.prog cd gdn 23 S_passkeyref3_height :=
  sndC hmix o25 (lcA [] [] []) Tryz.func23 done_nil (by kernel_rfl) (by kernel_rfl) fun x => by kernel_rfl

def c26 : List (Ct T) := ⟨23, none, S_passkeyref3_height, true⟩ :: c25
theorem o26 : EnvOk Tryz.prog (mE c26) := eCons passkeyref3_height_ok o25

abbrev Y_passkeyref1_Words_L2 := ((List (BitVec 64)) × (List (UInt8)) × Int × Int × Unit)
abbrev Z_passkeyref1_Words_L2 := ((List (BitVec 64)) × (List (UInt8)) × Int × Unit)

def passkeyref1_Words_L2b (y0 : (List (BitVec 64))) (y1 : (List (UInt8))) (y2 : Int) (y3 : Int) : Option (Y_passkeyref1_Words_L2 ⊕ Z_passkeyref1_Words_L2) :=
 (bif (decide ((0 : Int) ≤ y3)) then ((getI y0 y2).bind fun x1 => (let v2 : BitVec 64 := (x1 >>> (BitVec.ofInt 64 (IntKind.wrap .i64 ((8 : Int) * y3))).toNat)
 (bif small ((y1).length + (([(UInt8.ofBitVec (BitVec.setWidth 8 v2))] : List (UInt8)) : List (UInt8)).length) 1 then (let v3 : List (UInt8) := (y1 ++ ([(UInt8.ofBitVec (BitVec.setWidth 8 v2))] : List (UInt8)))
 (some (Sum.inl (y0, v3, y2, (IntKind.wrap .i64 (y3 - (1 : Int))), ()))))
 else none)))
 else (some (Sum.inr (y0, y1, y2, ()))))

def passkeyref1_Words_L2 (y : Y_passkeyref1_Words_L2) : Option Z_passkeyref1_Words_L2 := iter (fun (y : Y_passkeyref1_Words_L2) => passkeyref1_Words_L2b y.1 y.2.1 y.2.2.1 y.2.2.2.1) rounds y

abbrev Y_passkeyref1_Words_L0 := ((List (BitVec 64)) × (List (UInt8)) × Int × Unit)
abbrev Z_passkeyref1_Words_L0 := ((List (UInt8)) × Unit)

def passkeyref1_Words_L0b (y0 : (List (BitVec 64))) (y1 : (List (UInt8))) (y2 : Int) : Option (Y_passkeyref1_Words_L0 ⊕ Z_passkeyref1_Words_L0) :=
 (bif (decide (y2 < ((y0).length : Int))) then ((passkeyref1_Words_L2 (y0, y1, y2, (7 : Int), ())).bind (fun (z1 : ((List (BitVec 64)) × (List (UInt8)) × Int × Unit)) => (some (Sum.inl (z1.1, z1.2.1, (IntKind.wrap .i64 (z1.2.2.1 + (1 : Int))), ())))))
 else (some (Sum.inr (y1, ()))))

def passkeyref1_Words_L0 (y : Y_passkeyref1_Words_L0) : Option Z_passkeyref1_Words_L0 := iter (fun (y : Y_passkeyref1_Words_L0) => passkeyref1_Words_L0b y.1 y.2.1 y.2.2.1) rounds y

def passkeyref1_Words (a0 : (List (BitVec 64))) : Option ((Unit) × ((List (UInt8)) × Unit)) :=
 ((passkeyref1_Words_L0 (a0, [], (0 : Int), ())).bind (fun (z2 : ((List (UInt8)) × Unit)) => (some ((), (z2.1, ())))))

def S_passkeyref1_Words : FSpec T := ⟨[.f (.v (.rs 2))], [(.own 0)], fun x => passkeyref1_Words x.1⟩

def s_passkeyref1_Words_L2 : LSpec T := ⟨[(0, .f (.v (.rs 2))), (3, .f (.own 0)), (4, .f (.v (.int .i64))), (5, .f (.v (.int .i64)))], [(.exit 2, [(0, .f (.v (.rs 2))), (3, .f (.own 0)), (4, .f (.v (.int .i64)))])], passkeyref1_Words_L2, []⟩

def s_passkeyref1_Words_L0 : LSpec T := ⟨[(0, .f (.v (.rs 2))), (3, .f (.own 0)), (4, .f (.v (.int .i64)))], [(.exit 0, [(3, .f (.own 0))])], passkeyref1_Words_L0, []⟩

def A_passkeyref1_Words : Loc2 T := lcA [(2, s_passkeyref1_Words_L2), (0, s_passkeyref1_Words_L0)] [] []

theorem passkeyref1_Words_L2_ok : LoopOk Tryz.prog (mE c26) Tryz.f72.ntmps (kqOf S_passkeyref1_Words.ps 0) (loopAt 2 (bodyOf Tryz.f72)) s_passkeyref1_Words_L2 :=
  lpC hmix o26 A_passkeyref1_Words done_nil 2 (st := fun y => passkeyref1_Words_L2b y.1 y.2.1 y.2.2.1 y.2.2.2.1) (fun _ => rfl) (by kernel_rfl) (by kernel_rfl) fun x => by kernel_rfl

theorem passkeyref1_Words_L0_ok : LoopOk Tryz.prog (mE c26) Tryz.f72.ntmps (kqOf S_passkeyref1_Words.ps 0) (loopAt 0 (bodyOf Tryz.f72)) s_passkeyref1_Words_L0 :=
  lpC hmix o26 A_passkeyref1_Words (done_cons rfl passkeyref1_Words_L2_ok done_nil) 0 (st := fun y => passkeyref1_Words_L0b y.1 y.2.1 y.2.2.1) (fun _ => rfl) (by kernel_rfl) (by kernel_rfl) fun x => by kernel_rfl

theorem passkeyref1_Words_ok : SoundT Tryz.prog cd gdn 72 S_passkeyref1_Words :=
  sndC hmix o26 A_passkeyref1_Words Tryz.func72 (done_cons rfl passkeyref1_Words_L2_ok (done_cons rfl passkeyref1_Words_L0_ok done_nil)) (by kernel_rfl) (by kernel_rfl) fun x => by kernel_rfl

def c27 : List (Ct T) := ⟨72, none, S_passkeyref1_Words, false⟩ :: c26
theorem o27 : EnvOk Tryz.prog (mE c27) := eCons passkeyref1_Words_ok o26

def passkeyref1_rotl (a0 : (BitVec 64)) (a1 : (BitVec 64)) : Option ((Unit) × ((BitVec 64) × Unit)) :=
 (some ((), (((a0 <<< a1.toNat) ||| (a0 >>> (64#64 - a1).toNat)), ())))

def S_passkeyref1_rotl : FSpec T := ⟨[.f (.v .u64), .f (.v .u64)], [(.v .u64)], fun x => passkeyref1_rotl x.1 x.2.1⟩

theorem passkeyref1_rotl_ok : SoundT Tryz.prog cd gdn 122 S_passkeyref1_rotl :=
  sndC hmix o27 (lcA [] [] []) Tryz.func122 done_nil (by kernel_rfl) (by kernel_rfl) fun x => by kernel_rfl

def c28 : List (Ct T) := ⟨122, none, S_passkeyref1_rotl, true⟩ :: c27
theorem o28 : EnvOk Tryz.prog (mE c28) := eCons passkeyref1_rotl_ok o27

def passkeyref1_round (a0 : Arr4_BitVec64) : Option ((Unit) × (Arr4_BitVec64 × Unit)) :=
 ((passkeyref1_rotl a0.a1 (13#64)).bind fun r1 => ((passkeyref1_rotl (a0.a0 + a0.a1) (32#64)).bind fun r2 => ((passkeyref1_rotl a0.a3 (16#64)).bind fun r3 => ((passkeyref1_rotl (r3.2.1 ^^^ (a0.a2 + a0.a3)) (21#64)).bind fun r4 => ((passkeyref1_rotl (r1.2.1 ^^^ (a0.a0 + a0.a1)) (17#64)).bind fun r5 => (let v6 : BitVec 64 := (r5.2.1 ^^^ ((a0.a2 + a0.a3) + (r1.2.1 ^^^ (a0.a0 + a0.a1))))
 ((passkeyref1_rotl ((a0.a2 + a0.a3) + (r1.2.1 ^^^ (a0.a0 + a0.a1))) (32#64)).bind fun r7 => (some ((), ((⟨(r2.2.1 + (r3.2.1 ^^^ (a0.a2 + a0.a3))), v6, r7.2.1, (r4.2.1 ^^^ (r2.2.1 + (r3.2.1 ^^^ (a0.a2 + a0.a3))))⟩ : Arr4_BitVec64), ()))))))))))

def S_passkeyref1_round : FSpec T := ⟨[.f (.v (.agg 8))], [(.v (.agg 8))], fun x => passkeyref1_round x.1⟩

theorem passkeyref1_round_ok : SoundT Tryz.prog cd gdn 108 S_passkeyref1_round :=
  sndC hmix o28 (lcA [] [] []) Tryz.func108 done_nil (by kernel_rfl) (by kernel_rfl) fun x => by kernel_rfl

def c29 : List (Ct T) := ⟨108, none, S_passkeyref1_round, true⟩ :: c28
theorem o29 : EnvOk Tryz.prog (mE c29) := eCons passkeyref1_round_ok o28

abbrev Y_passkeyref1_Sum_L2 := ((List (UInt8)) × (Arr4_BitVec64 × Unit) × Int × (BitVec 64) × Int × Unit)
abbrev Z_passkeyref1_Sum_L2 := ((List (UInt8)) × (Arr4_BitVec64 × Unit) × Int × (BitVec 64) × Unit)

def passkeyref1_Sum_L2b (y0 : (List (UInt8))) (y1 : (Arr4_BitVec64 × Unit)) (y2 : Int) (y3 : (BitVec 64)) (y4 : Int) : Option (Y_passkeyref1_Sum_L2 ⊕ Z_passkeyref1_Sum_L2) :=
 (bif (decide ((0 : Int) ≤ y4)) then (bif (decide ((IntKind.wrap .i64 (y2 + y4)) < ((y0).length : Int))) then ((getI y0 (IntKind.wrap .i64 (y2 + y4))).bind fun x1 => (some (Sum.inl (y0, (y1.1, ()), y2, ((y3 <<< 8) ||| (BitVec.setWidth 64 x1.toBitVec)), (IntKind.wrap .i64 (y4 - (1 : Int))), ()))))
 else (bif (decide (y4 = (7 : Int))) then (let v2 : BitVec 64 := (BitVec.setWidth 64 (UInt8.ofBitVec (BitVec.ofInt 8 ((y0).length : Int))).toBitVec)
 (some (Sum.inl (y0, (y1.1, ()), y2, ((y3 <<< 8) ||| v2), (IntKind.wrap .i64 (y4 - (1 : Int))), ()))))
 else (some (Sum.inl (y0, (y1.1, ()), y2, ((y3 <<< 8) ||| (BitVec.setWidth 64 (0 : UInt8).toBitVec)), (IntKind.wrap .i64 (y4 - (1 : Int))), ())))))
 else (some (Sum.inr (y0, (y1.1, ()), y2, y3, ()))))

def passkeyref1_Sum_L2 (y : Y_passkeyref1_Sum_L2) : Option Z_passkeyref1_Sum_L2 := iter (fun (y : Y_passkeyref1_Sum_L2) => passkeyref1_Sum_L2b y.1 y.2.1 y.2.2.1 y.2.2.2.1 y.2.2.2.2.1) rounds y

abbrev Y_passkeyref1_Sum_L0 := ((List (UInt8)) × (Arr4_BitVec64 × Unit) × Int × Unit)
abbrev Z_passkeyref1_Sum_L0 := ((Arr4_BitVec64 × Unit) × Unit)

def passkeyref1_Sum_L0b (y0 : (List (UInt8))) (y1 : (Arr4_BitVec64 × Unit)) (y2 : Int) : Option (Y_passkeyref1_Sum_L0 ⊕ Z_passkeyref1_Sum_L0) :=
 (bif (decide (y2 ≤ ((y0).length : Int))) then ((passkeyref1_Sum_L2 (y0, (y1.1, ()), y2, 0#64, (7 : Int), ())).bind (fun (z1 : ((List (UInt8)) × (Arr4_BitVec64 × Unit) × Int × (BitVec 64) × Unit)) => ((passkeyref1_round (⟨z1.2.1.1.a0, z1.2.1.1.a1, z1.2.1.1.a2, (z1.2.1.1.a3 ^^^ z1.2.2.2.1)⟩ : Arr4_BitVec64)).bind fun r2 => ((passkeyref1_round r2.2.1).bind fun r3 => (some (Sum.inl (z1.1, ((⟨(r3.2.1.a0 ^^^ z1.2.2.2.1), r3.2.1.a1, r3.2.1.a2, r3.2.1.a3⟩ : Arr4_BitVec64), ()), (IntKind.wrap .i64 (z1.2.2.1 + (8 : Int))), ())))))))
 else (some (Sum.inr ((y1.1, ()), ()))))

def passkeyref1_Sum_L0 (y : Y_passkeyref1_Sum_L0) : Option Z_passkeyref1_Sum_L0 := iter (fun (y : Y_passkeyref1_Sum_L0) => passkeyref1_Sum_L0b y.1 y.2.1 y.2.2.1) rounds y

def passkeyref1_Sum (a0 : (BitVec 64)) (a1 : (BitVec 64)) (a2 : (List (UInt8))) : Option ((Unit) × ((BitVec 64) × Unit)) :=
 ((passkeyref1_Sum_L0 (a2, ((⟨(a0 ^^^ 8317987319222330741#64), (a1 ^^^ 7237128888997146477#64), (a0 ^^^ 7816392313619706465#64), (a1 ^^^ 8387220255154660723#64)⟩ : Arr4_BitVec64), ()), (0 : Int), ())).bind (fun (z4 : ((Arr4_BitVec64 × Unit) × Unit)) => ((passkeyref1_round (⟨z4.1.1.a0, z4.1.1.a1, (z4.1.1.a2 ^^^ 255#64), z4.1.1.a3⟩ : Arr4_BitVec64)).bind fun r5 => ((passkeyref1_round r5.2.1).bind fun r6 => ((passkeyref1_round r6.2.1).bind fun r7 => ((passkeyref1_round r7.2.1).bind fun r8 => (some ((), ((((r8.2.1.a0 ^^^ r8.2.1.a1) ^^^ r8.2.1.a2) ^^^ r8.2.1.a3), ())))))))))

def S_passkeyref1_Sum : FSpec T := ⟨[.f (.v .u64), .f (.v .u64), .f (.v (.rs 0))], [(.v .u64)], fun x => passkeyref1_Sum x.1 x.2.1 x.2.2.1⟩

def s_passkeyref1_Sum_L2 : LSpec T := ⟨[(2, .f (.v (.rs 0))), (7, .ptr [(.v (.agg 8))]), (8, .f (.v (.int .i64))), (9, .f (.v .u64)), (10, .f (.v (.int .i64)))], [(.exit 2, [(2, .f (.v (.rs 0))), (7, .ptr [(.v (.agg 8))]), (8, .f (.v (.int .i64))), (9, .f (.v .u64))])], passkeyref1_Sum_L2, []⟩

def s_passkeyref1_Sum_L0 : LSpec T := ⟨[(2, .f (.v (.rs 0))), (7, .ptr [(.v (.agg 8))]), (8, .f (.v (.int .i64)))], [(.exit 0, [(7, .ptr [(.v (.agg 8))])])], passkeyref1_Sum_L0, []⟩

def A_passkeyref1_Sum : Loc2 T := lcA [(2, s_passkeyref1_Sum_L2), (0, s_passkeyref1_Sum_L0)] [] []

theorem passkeyref1_Sum_L2_ok : LoopOk Tryz.prog (mE c29) Tryz.f91.ntmps (kqOf S_passkeyref1_Sum.ps 0) (loopAt 2 (bodyOf Tryz.f91)) s_passkeyref1_Sum_L2 :=
  lpC hmix o29 A_passkeyref1_Sum done_nil 2 (st := fun y => passkeyref1_Sum_L2b y.1 y.2.1 y.2.2.1 y.2.2.2.1 y.2.2.2.2.1) (fun _ => rfl) (by kernel_rfl) (by kernel_rfl) fun x => by kernel_rfl

theorem passkeyref1_Sum_L0_ok : LoopOk Tryz.prog (mE c29) Tryz.f91.ntmps (kqOf S_passkeyref1_Sum.ps 0) (loopAt 0 (bodyOf Tryz.f91)) s_passkeyref1_Sum_L0 :=
  lpC hmix o29 A_passkeyref1_Sum (done_cons rfl passkeyref1_Sum_L2_ok done_nil) 0 (st := fun y => passkeyref1_Sum_L0b y.1 y.2.1 y.2.2.1) (fun _ => rfl) (by kernel_rfl) (by kernel_rfl) fun x => by kernel_rfl

theorem passkeyref1_Sum_ok : SoundT Tryz.prog cd gdn 91 S_passkeyref1_Sum :=
  sndC hmix o29 A_passkeyref1_Sum Tryz.func91 (done_cons rfl passkeyref1_Sum_L2_ok (done_cons rfl passkeyref1_Sum_L0_ok done_nil)) (by kernel_rfl) (by kernel_rfl) fun x => by kernel_rfl

def c30 : List (Ct T) := ⟨91, none, S_passkeyref1_Sum, true⟩ :: c29
theorem o30 : EnvOk Tryz.prog (mE c30) := eCons passkeyref1_Sum_ok o29

def passkeyref1_Mac (a0 : (BitVec 64)) (a1 : Int) (a2 : (List (UInt8))) : Option ((Unit) × ((BitVec 64) × Unit)) :=
 ((passkeyref1_Sum a0 (1#64 + (BitVec.ofInt 64 a1)) a2).bind fun r1 => (some ((), (r1.2.1, ()))))

def S_passkeyref1_Mac : FSpec T := ⟨[.f (.v .u64), .f (.v (.int .i64)), .f (.v (.rs 0))], [(.v .u64)], fun x => passkeyref1_Mac x.1 x.2.1 x.2.2.1⟩

theorem passkeyref1_Mac_ok : SoundT Tryz.prog cd gdn 90 S_passkeyref1_Mac :=
  sndC hmix o30 (lcA [] [] []) Tryz.func90 done_nil (by kernel_rfl) (by kernel_rfl) fun x => by kernel_rfl

def c31 : List (Ct T) := ⟨90, none, S_passkeyref1_Mac, true⟩ :: c30
theorem o31 : EnvOk Tryz.prog (mE c31) := eCons passkeyref1_Mac_ok o30

def passkeyref3_Secret (a0 : (BitVec 64)) (a1 : Int) (a2 : Int) : Option ((Unit) × ((BitVec 64) × Unit)) :=
 (let v1 : List (BitVec 64) := ([(BitVec.ofInt 64 a1), (BitVec.ofInt 64 a2)] : List (BitVec 64))
 ((passkeyref1_Words v1).bind fun r2 => ((passkeyref1_Mac a0 (1 : Int) r2.2.1).bind fun r3 => (some ((), (r3.2.1, ()))))))

def S_passkeyref3_Secret : FSpec T := ⟨[.f (.v .u64), .f (.v (.int .i64)), .f (.v (.int .i64))], [(.v .u64)], fun x => passkeyref3_Secret x.1 x.2.1 x.2.2.1⟩

theorem passkeyref3_Secret_ok : SoundT Tryz.prog cd gdn 69 S_passkeyref3_Secret :=
  sndC hmix o31 (lcA [] [] []) Tryz.func69 done_nil (by kernel_rfl) (by kernel_rfl) fun x => by kernel_rfl

def c32 : List (Ct T) := ⟨69, none, S_passkeyref3_Secret, true⟩ :: c31
theorem o32 : EnvOk Tryz.prog (mE c32) := eCons passkeyref3_Secret_ok o31

def passkeyref1_Hash (a0 : Int) (a1 : (List (UInt8))) : Option ((Unit) × ((BitVec 64) × Unit)) :=
 ((passkeyref1_Sum (BitVec.ofInt 64 a0) (0#64) a1).bind fun r1 => (some ((), (r1.2.1, ()))))

def S_passkeyref1_Hash : FSpec T := ⟨[.f (.v (.int .i64)), .f (.v (.rs 0))], [(.v .u64)], fun x => passkeyref1_Hash x.1 x.2.1⟩

theorem passkeyref1_Hash_ok : SoundT Tryz.prog cd gdn 71 S_passkeyref1_Hash :=
  sndC hmix o32 (lcA [] [] []) Tryz.func71 done_nil (by kernel_rfl) (by kernel_rfl) fun x => by kernel_rfl

def c33 : List (Ct T) := ⟨71, none, S_passkeyref1_Hash, true⟩ :: c32
theorem o33 : EnvOk Tryz.prog (mE c33) := eCons passkeyref1_Hash_ok o32

abbrev Y_passkeyref3_Run_L0 := (Int × Int × Int × (BitVec 64) × Int × Unit)
abbrev Z_passkeyref3_Run_L0 := ((BitVec 64) × Unit)

def passkeyref3_Run_L0b (y0 : Int) (y1 : Int) (y2 : Int) (y3 : (BitVec 64)) (y4 : Int) : Option (Y_passkeyref3_Run_L0 ⊕ Z_passkeyref3_Run_L0) :=
 (bif (decide (y4 < (bif decide ((15 : Int) < y2) then (15 : Int) else y2))) then (let v1 : List (BitVec 64) := ([(BitVec.ofInt 64 y0), (BitVec.ofInt 64 y1), (BitVec.ofInt 64 y4), y3] : List (BitVec 64))
 ((passkeyref1_Words v1).bind fun r2 => ((passkeyref1_Hash (1 : Int) r2.2.1).bind fun r3 => (some (Sum.inl (y0, y1, y2, r3.2.1, (IntKind.wrap .i64 (y4 + (1 : Int))), ()))))))
 else (some (Sum.inr (y3, ()))))

def passkeyref3_Run_L0 (y : Y_passkeyref3_Run_L0) : Option Z_passkeyref3_Run_L0 := iter (fun (y : Y_passkeyref3_Run_L0) => passkeyref3_Run_L0b y.1 y.2.1 y.2.2.1 y.2.2.2.1 y.2.2.2.2.1) rounds y

def passkeyref3_Run (a0 : Int) (a1 : Int) (a2 : Int) (a3 : Int) (a4 : (BitVec 64)) : Option ((Unit) × ((BitVec 64) × Unit)) :=
 ((passkeyref3_Run_L0 (a0, a1, a3, a4, (bif decide (a2 < (0 : Int)) then (0 : Int) else a2), ())).bind (fun (z4 : ((BitVec 64) × Unit)) => (some ((), (z4.1, ())))))

def S_passkeyref3_Run : FSpec T := ⟨[.f (.v (.int .i64)), .f (.v (.int .i64)), .f (.v (.int .i64)), .f (.v (.int .i64)), .f (.v .u64)], [(.v .u64)], fun x => passkeyref3_Run x.1 x.2.1 x.2.2.1 x.2.2.2.1 x.2.2.2.2.1⟩

def s_passkeyref3_Run_L0 : LSpec T := ⟨[(0, .f (.v (.int .i64))), (1, .f (.v (.int .i64))), (3, .f (.v (.int .i64))), (4, .f (.v .u64)), (11, .f (.v (.int .i64)))], [(.exit 0, [(4, .f (.v .u64))])], passkeyref3_Run_L0, []⟩

def A_passkeyref3_Run : Loc2 T := lcA [(0, s_passkeyref3_Run_L0)] [] []

theorem passkeyref3_Run_L0_ok : LoopOk Tryz.prog (mE c33) Tryz.f68.ntmps (kqOf S_passkeyref3_Run.ps 0) (loopAt 0 (bodyOf Tryz.f68)) s_passkeyref3_Run_L0 :=
  lpC hmix o33 A_passkeyref3_Run done_nil 0 (st := fun y => passkeyref3_Run_L0b y.1 y.2.1 y.2.2.1 y.2.2.2.1 y.2.2.2.2.1) (fun _ => rfl) (by kernel_rfl) (by kernel_rfl) fun x => by kernel_rfl

theorem passkeyref3_Run_ok : SoundT Tryz.prog cd gdn 68 S_passkeyref3_Run :=
  sndC hmix o33 A_passkeyref3_Run Tryz.func68 (done_cons rfl passkeyref3_Run_L0_ok done_nil) (by kernel_rfl) (by kernel_rfl) fun x => by kernel_rfl

def c34 : List (Ct T) := ⟨68, none, S_passkeyref3_Run, true⟩ :: c33
theorem o34 : EnvOk Tryz.prog (mE c34) := eCons passkeyref3_Run_ok o33

def passkeyref3_ends (a0 : Int) (a1 : (List (BitVec 64))) : Option ((Unit) × ((BitVec 64) × Unit)) :=
 ((passkeyref1_Words ([(BitVec.ofInt 64 a0)] : List (BitVec 64))).bind fun r1 => ((passkeyref1_Words a1).bind fun r2 => (bif small ((r1.2.1).length + (r2.2.1 : List (UInt8)).length) 1 then ((passkeyref1_Hash (2 : Int) (r1.2.1 ++ r2.2.1)).bind fun r3 => (some ((), (r3.2.1, ()))))
 else none)))

def S_passkeyref3_ends : FSpec T := ⟨[.f (.v (.int .i64)), .f (.v (.rs 2))], [(.v .u64)], fun x => passkeyref3_ends x.1 x.2.1⟩

theorem passkeyref3_ends_ok : SoundT Tryz.prog cd gdn 70 S_passkeyref3_ends :=
  sndC hmix o34 (lcA [] [] []) Tryz.func70 done_nil (by kernel_rfl) (by kernel_rfl) fun x => by kernel_rfl

def c35 : List (Ct T) := ⟨70, none, S_passkeyref3_ends, true⟩ :: c34
theorem o35 : EnvOk Tryz.prog (mE c35) := eCons passkeyref3_ends_ok o34

abbrev Y_passkeyref3_Leaf_L0 := ((BitVec 64) × Int × (List (BitVec 64)) × Int × Unit)
abbrev Z_passkeyref3_Leaf_L0 := (Int × (List (BitVec 64)) × Unit)

def passkeyref3_Leaf_L0b (y0 : (BitVec 64)) (y1 : Int) (y2 : (List (BitVec 64))) (y3 : Int) : Option (Y_passkeyref3_Leaf_L0 ⊕ Z_passkeyref3_Leaf_L0) :=
 (bif (decide (y3 < (18 : Int))) then ((passkeyref3_Secret y0 y1 y3).bind fun r1 => ((passkeyref3_Run y1 y3 (0 : Int) (15 : Int) r1.2.1).bind fun r2 => (bif small ((y2).length + (([r2.2.1] : List (BitVec 64)) : List (BitVec 64)).length) 8 then (some (Sum.inl (y0, y1, (y2 ++ ([r2.2.1] : List (BitVec 64))), (IntKind.wrap .i64 (y3 + (1 : Int))), ())))
 else none)))
 else (some (Sum.inr (y1, y2, ()))))

def passkeyref3_Leaf_L0 (y : Y_passkeyref3_Leaf_L0) : Option Z_passkeyref3_Leaf_L0 := iter (fun (y : Y_passkeyref3_Leaf_L0) => passkeyref3_Leaf_L0b y.1 y.2.1 y.2.2.1 y.2.2.2.1) rounds y

def passkeyref3_LeafG (k_passkeyref3_Secret : (BitVec 64) → Int → Int → Option ((Unit) × ((BitVec 64) × Unit))) (k_passkeyref3_Run : Int → Int → Int → Int → (BitVec 64) → Option ((Unit) × ((BitVec 64) × Unit))) (k_passkeyref3_ends : Int → (List (BitVec 64)) → Option ((Unit) × ((BitVec 64) × Unit))) (l_passkeyref3_Leaf_L0 : Y_passkeyref3_Leaf_L0 → Option Z_passkeyref3_Leaf_L0) (a0 : (BitVec 64)) (a1 : Int) : Option ((Unit) × ((BitVec 64) × Unit)) :=
 ((l_passkeyref3_Leaf_L0 (a0, a1, [], (0 : Int), ())).bind (fun (z3 : (Int × (List (BitVec 64)) × Unit)) => ((k_passkeyref3_ends z3.1 z3.2.1).bind fun r4 => (some ((), (r4.2.1, ()))))))

def passkeyref3_Leaf (a0 : (BitVec 64)) (a1 : Int) : Option ((Unit) × ((BitVec 64) × Unit)) := passkeyref3_LeafG passkeyref3_Secret passkeyref3_Run passkeyref3_ends passkeyref3_Leaf_L0 a0 a1

def S_passkeyref3_Leaf : FSpec T := ⟨[.f (.v .u64), .f (.v (.int .i64))], [(.v .u64)], fun x => passkeyref3_Leaf x.1 x.2.1⟩

def EG_passkeyref3_Leaf (k_passkeyref3_Secret : (BitVec 64) → Int → Int → Option ((Unit) × ((BitVec 64) × Unit))) (k_passkeyref3_Run : Int → Int → Int → Int → (BitVec 64) → Option ((Unit) × ((BitVec 64) × Unit))) (k_passkeyref3_ends : Int → (List (BitVec 64)) → Option ((Unit) × ((BitVec 64) × Unit))) (l_passkeyref3_Leaf_L0 : Y_passkeyref3_Leaf_L0 → Option Z_passkeyref3_Leaf_L0) : Env T := ⟨tab.find, cd, globs, flc, fun f ds => match f with
    | 68 => some ⟨S_passkeyref3_Run.ps, S_passkeyref3_Run.rs, fun x => k_passkeyref3_Run x.1 x.2.1 x.2.2.1 x.2.2.2.1 x.2.2.2.2.1⟩
    | 69 => some ⟨S_passkeyref3_Secret.ps, S_passkeyref3_Secret.rs, fun x => k_passkeyref3_Secret x.1 x.2.1 x.2.2.1⟩
    | 70 => some ⟨S_passkeyref3_ends.ps, S_passkeyref3_ends.rs, fun x => k_passkeyref3_ends x.1 x.2.1⟩
    | _ => none, fun f => match f with
    | 68 => true
    | 69 => true
    | 70 => true
    | _ => false⟩

def E_passkeyref3_Leaf : Env T := EG_passkeyref3_Leaf passkeyref3_Secret passkeyref3_Run passkeyref3_ends passkeyref3_Leaf_L0

def AG_passkeyref3_Leaf (k_passkeyref3_Secret : (BitVec 64) → Int → Int → Option ((Unit) × ((BitVec 64) × Unit))) (k_passkeyref3_Run : Int → Int → Int → Int → (BitVec 64) → Option ((Unit) × ((BitVec 64) × Unit))) (k_passkeyref3_ends : Int → (List (BitVec 64)) → Option ((Unit) × ((BitVec 64) × Unit))) (l_passkeyref3_Leaf_L0 : Y_passkeyref3_Leaf_L0 → Option Z_passkeyref3_Leaf_L0) : Loc2 T := ⟨fun id => match id with
    | 0 => some ⟨[(0, .f (.v .u64)), (1, .f (.v (.int .i64))), (5, .f (.own 2)), (6, .f (.v (.int .i64)))], [(.exit 0, [(1, .f (.v (.int .i64))), (5, .f (.own 2))])], l_passkeyref3_Leaf_L0, []⟩
    | _ => none, fun r => match r with
    | _ => none, fun r => match r with
    | _ => false⟩

def A_passkeyref3_Leaf : Loc2 T := AG_passkeyref3_Leaf passkeyref3_Secret passkeyref3_Run passkeyref3_ends passkeyref3_Leaf_L0

theorem passkeyref3_Leaf_L0_eq (y0 : (BitVec 64)) (y1 : Int) (y2 : (List (BitVec 64))) (y3 : Int) : run E_passkeyref3_Leaf A_passkeyref3_Leaf (loopAt 0 (Tryz.f39.body.getD .skip)) (layC cd [(0, .f (.v .u64)), (1, .f (.v (.int .i64))), (5, .f (.own 2)), (6, .f (.v (.int .i64)))] [] (y0, y1, y2, y3, ())) (roundK cd [(0, .f (.v .u64)), (1, .f (.v (.int .i64))), (5, .f (.own 2)), (6, .f (.v (.int .i64)))] [] [(.exit 0, [(1, .f (.v (.int .i64))), (5, .f (.own 2))])]) = passkeyref3_Leaf_L0b y0 y1 y2 y3 := by kernel_rfl

theorem passkeyref3_Leaf_eqg (k_passkeyref3_Secret : (BitVec 64) → Int → Int → Option ((Unit) × ((BitVec 64) × Unit))) (k_passkeyref3_Run : Int → Int → Int → Int → (BitVec 64) → Option ((Unit) × ((BitVec 64) × Unit))) (k_passkeyref3_ends : Int → (List (BitVec 64)) → Option ((Unit) × ((BitVec 64) × Unit))) (l_passkeyref3_Leaf_L0 : Y_passkeyref3_Leaf_L0 → Option Z_passkeyref3_Leaf_L0) (x : tySs T S_passkeyref3_Leaf.ps) : run (EG_passkeyref3_Leaf k_passkeyref3_Secret k_passkeyref3_Run k_passkeyref3_ends l_passkeyref3_Leaf_L0) (AG_passkeyref3_Leaf k_passkeyref3_Secret k_passkeyref3_Run k_passkeyref3_ends l_passkeyref3_Leaf_L0) (Tryz.f39.body.getD .skip) (enterT (EG_passkeyref3_Leaf k_passkeyref3_Secret k_passkeyref3_Run k_passkeyref3_ends l_passkeyref3_Leaf_L0).C S_passkeyref3_Leaf.ps x) (retK (EG_passkeyref3_Leaf k_passkeyref3_Secret k_passkeyref3_Run k_passkeyref3_ends l_passkeyref3_Leaf_L0) Tryz.f39.results.toList S_passkeyref3_Leaf.ps S_passkeyref3_Leaf.rs) = passkeyref3_LeafG k_passkeyref3_Secret k_passkeyref3_Run k_passkeyref3_ends l_passkeyref3_Leaf_L0 x.1 x.2.1 := by kernel_rfl

theorem passkeyref3_Leaf_eq (x : tySs T S_passkeyref3_Leaf.ps) : run E_passkeyref3_Leaf A_passkeyref3_Leaf (Tryz.f39.body.getD .skip) (enterT E_passkeyref3_Leaf.C S_passkeyref3_Leaf.ps x) (retK E_passkeyref3_Leaf Tryz.f39.results.toList S_passkeyref3_Leaf.ps S_passkeyref3_Leaf.rs) = S_passkeyref3_Leaf.fn x := Eq.mp (by kernel_rfl) (passkeyref3_Leaf_eqg passkeyref3_Secret passkeyref3_Run passkeyref3_ends passkeyref3_Leaf_L0 x)

theorem passkeyref3_Leaf_env : EnvOk Tryz.prog E_passkeyref3_Leaf := envOk (E := E_passkeyref3_Leaf) cd_ok tys fl_ok fun f ds S h => by
    dsimp only [E_passkeyref3_Leaf, EG_passkeyref3_Leaf] at h
    split at h
    · cases h; exact passkeyref3_Run_ok
    · cases h; exact passkeyref3_Secret_ok
    · cases h; exact passkeyref3_ends_ok
    · cases h

theorem passkeyref3_Leaf_L0_ok : LoopOk Tryz.prog E_passkeyref3_Leaf Tryz.f39.ntmps (kqOf S_passkeyref3_Leaf.ps 0) (loopAt 0 (Tryz.f39.body.getD .skip)) ⟨[(0, .f (.v .u64)), (1, .f (.v (.int .i64))), (5, .f (.own 2)), (6, .f (.v (.int .i64)))], [(.exit 0, [(1, .f (.v (.int .i64))), (5, .f (.own 2))])], passkeyref3_Leaf_L0, []⟩ :=
  loop_ok (A := A_passkeyref3_Leaf) (done := []) (c0 := (Tryz.f39.body.getD .skip)) hmix passkeyref3_Leaf_env done_nil rounds (by kernel_rfl) (by kernel_rfl) (fun x => passkeyref3_Leaf_L0_eq x.1 x.2.1 x.2.2.1 x.2.2.2.1) (fun _ => rfl)

theorem passkeyref3_Leaf_ok : SoundT Tryz.prog cd gdn 39 S_passkeyref3_Leaf :=
  sound_fn (E := E_passkeyref3_Leaf) (A := A_passkeyref3_Leaf) (done := [0]) (c := (Tryz.f39.body.getD .skip)) (S := S_passkeyref3_Leaf) (fn := Tryz.f39) hmix passkeyref3_Leaf_env Tryz.func39 rfl (by kernel_rfl) (by kernel_rfl) (done_cons rfl passkeyref3_Leaf_L0_ok done_nil) (by kernel_rfl) (by kernel_rfl) passkeyref3_Leaf_eq

def c36 : List (Ct T) := ⟨39, none, S_passkeyref3_Leaf, true⟩ :: c35
theorem o36 : EnvOk Tryz.prog (mE c36) := eCons passkeyref3_Leaf_ok o35

def passkeyref3_parent (a0 : Int) (a1 : (BitVec 64)) (a2 : (BitVec 64)) : Option ((Unit) × ((BitVec 64) × Unit)) :=
 ((passkeyref1_Words ([(BitVec.ofInt 64 a0), a1, a2] : List (BitVec 64))).bind fun r1 => ((passkeyref1_Hash (3 : Int) r1.2.1).bind fun r2 => (some ((), (r2.2.1, ())))))

def S_passkeyref3_parent : FSpec T := ⟨[.f (.v (.int .i64)), .f (.v .u64), .f (.v .u64)], [(.v .u64)], fun x => passkeyref3_parent x.1 x.2.1 x.2.2.1⟩

theorem passkeyref3_parent_ok : SoundT Tryz.prog cd gdn 40 S_passkeyref3_parent :=
  sndC hmix o36 (lcA [] [] []) Tryz.func40 done_nil (by kernel_rfl) (by kernel_rfl) fun x => by kernel_rfl

def c37 : List (Ct T) := ⟨40, none, S_passkeyref3_parent, true⟩ :: c36
theorem o37 : EnvOk Tryz.prog (mE c37) := eCons passkeyref3_parent_ok o36

def passkeyref3_node_R (k_rec : (BitVec 64) → Int → Int → Option ((Unit) × ((BitVec 64) × Unit))) (a0 : (BitVec 64)) (a1 : Int) (a2 : Int) : Option ((Unit) × ((BitVec 64) × Unit)) :=
 (bif (decide (a1 = (0 : Int))) then ((passkeyref3_Leaf a0 a2).bind fun r1 => (some ((), (r1.2.1, ()))))
 else ((k_rec a0 (IntKind.wrap .i64 (a1 - (1 : Int))) (IntKind.wrap .i64 ((2 : Int) * a2))).bind fun r2 => (let v3 : Int := (IntKind.wrap .i64 ((IntKind.wrap .i64 ((2 : Int) * a2)) + (1 : Int)))
 ((k_rec a0 (IntKind.wrap .i64 (a1 - (1 : Int))) v3).bind fun r4 => ((passkeyref3_parent a1 r2.2.1 r4.2.1).bind fun r5 => (some ((), (r5.2.1, ()))))))))

abbrev ps_passkeyref3_node : List Slot := [.f (.v .u64), .f (.v (.int .i64)), .f (.v (.int .i64))]
abbrev rs_passkeyref3_node : List Fld := [(.v .u64)]

def passkeyref3_node_RG (k_rec : (BitVec 64) → Int → Int → Option ((Unit) × ((BitVec 64) × Unit))) (k_passkeyref3_Leaf : (BitVec 64) → Int → Option ((Unit) × ((BitVec 64) × Unit))) (k_passkeyref3_parent : Int → (BitVec 64) → (BitVec 64) → Option ((Unit) × ((BitVec 64) × Unit))) (a0 : (BitVec 64)) (a1 : Int) (a2 : Int) : Option ((Unit) × ((BitVec 64) × Unit)) :=
 (bif (decide (a1 = (0 : Int))) then ((k_passkeyref3_Leaf a0 a2).bind fun r1 => (some ((), (r1.2.1, ()))))
 else ((k_rec a0 (IntKind.wrap .i64 (a1 - (1 : Int))) (IntKind.wrap .i64 ((2 : Int) * a2))).bind fun r2 => (let v3 : Int := (IntKind.wrap .i64 ((IntKind.wrap .i64 ((2 : Int) * a2)) + (1 : Int)))
 ((k_rec a0 (IntKind.wrap .i64 (a1 - (1 : Int))) v3).bind fun r4 => ((k_passkeyref3_parent a1 r2.2.1 r4.2.1).bind fun r5 => (some ((), (r5.2.1, ()))))))))

def EG_passkeyref3_node (k_rec : (BitVec 64) → Int → Int → Option ((Unit) × ((BitVec 64) × Unit))) (k_passkeyref3_Leaf : (BitVec 64) → Int → Option ((Unit) × ((BitVec 64) × Unit))) (k_passkeyref3_parent : Int → (BitVec 64) → (BitVec 64) → Option ((Unit) × ((BitVec 64) × Unit))) : Env T := ⟨tab.find, cd, globs, flc, fun f ds => match f with
    | 24 => some ⟨ps_passkeyref3_node, rs_passkeyref3_node, fun x => k_rec x.1 x.2.1 x.2.2.1⟩
    | 39 => some ⟨S_passkeyref3_Leaf.ps, S_passkeyref3_Leaf.rs, fun x => k_passkeyref3_Leaf x.1 x.2.1⟩
    | 40 => some ⟨S_passkeyref3_parent.ps, S_passkeyref3_parent.rs, fun x => k_passkeyref3_parent x.1 x.2.1 x.2.2.1⟩
    | _ => none, fun f => match f with
    | 24 => true
    | 39 => true
    | 40 => true
    | _ => false⟩

def E_passkeyref3_node (k_rec : (BitVec 64) → Int → Int → Option ((Unit) × ((BitVec 64) × Unit))) : Env T := EG_passkeyref3_node k_rec passkeyref3_Leaf passkeyref3_parent

def A_passkeyref3_node (k_rec : (BitVec 64) → Int → Int → Option ((Unit) × ((BitVec 64) × Unit))) : Loc2 T := ⟨fun id => match id with
    | _ => none, fun r => match r with
    | _ => none, fun r => match r with
    | _ => false⟩

theorem passkeyref3_node_eqRG (k_rec : (BitVec 64) → Int → Int → Option ((Unit) × ((BitVec 64) × Unit))) (k_passkeyref3_Leaf : (BitVec 64) → Int → Option ((Unit) × ((BitVec 64) × Unit))) (k_passkeyref3_parent : Int → (BitVec 64) → (BitVec 64) → Option ((Unit) × ((BitVec 64) × Unit))) (x : tySs T ps_passkeyref3_node) : run (EG_passkeyref3_node k_rec k_passkeyref3_Leaf k_passkeyref3_parent) (A_passkeyref3_node k_rec) (Tryz.f24.body.getD .skip) (enterT (EG_passkeyref3_node k_rec k_passkeyref3_Leaf k_passkeyref3_parent).C ps_passkeyref3_node x) (retK (EG_passkeyref3_node k_rec k_passkeyref3_Leaf k_passkeyref3_parent) Tryz.f24.results.toList ps_passkeyref3_node rs_passkeyref3_node) = passkeyref3_node_RG k_rec k_passkeyref3_Leaf k_passkeyref3_parent x.1 x.2.1 x.2.2.1 := by kernel_rfl

theorem passkeyref3_node_eqR (k_rec : (BitVec 64) → Int → Int → Option ((Unit) × ((BitVec 64) × Unit))) (x : tySs T ps_passkeyref3_node) : run (E_passkeyref3_node k_rec) (A_passkeyref3_node k_rec) (Tryz.f24.body.getD .skip) (enterT (E_passkeyref3_node k_rec).C ps_passkeyref3_node x) (retK (E_passkeyref3_node k_rec) Tryz.f24.results.toList ps_passkeyref3_node rs_passkeyref3_node) = passkeyref3_node_R k_rec x.1 x.2.1 x.2.2.1 := Eq.mp (by kernel_rfl) (passkeyref3_node_eqRG k_rec passkeyref3_Leaf passkeyref3_parent x)

def passkeyref3_node_n : Nat → (BitVec 64) → Int → Int → Option ((Unit) × ((BitVec 64) × Unit))
  | 0 => fun _ _ _ => none
  | n + 1 => passkeyref3_node_R (passkeyref3_node_n n)

def passkeyref3_node (a0 : (BitVec 64)) (a1 : Int) (a2 : Int) := passkeyref3_node_n 8 a0 a1 a2

def S_passkeyref3_node : FSpec T := ⟨ps_passkeyref3_node, rs_passkeyref3_node, fun x => passkeyref3_node x.1 x.2.1 x.2.2.1⟩

theorem passkeyref3_node_env (k_rec : (BitVec 64) → Int → Int → Option ((Unit) × ((BitVec 64) × Unit))) (hk : SoundT Tryz.prog cd gdn 24 ⟨ps_passkeyref3_node, rs_passkeyref3_node, fun x => k_rec x.1 x.2.1 x.2.2.1⟩) : EnvOk Tryz.prog (E_passkeyref3_node k_rec) := envOk (E := (E_passkeyref3_node k_rec)) cd_ok tys fl_ok fun f ds S h => by
    dsimp only [E_passkeyref3_node, EG_passkeyref3_node] at h
    split at h
    · cases h; exact hk
    · cases h; exact passkeyref3_Leaf_ok
    · cases h; exact passkeyref3_parent_ok
    · cases h

theorem passkeyref3_node_okn : ∀ n : Nat, SoundT Tryz.prog cd gdn 24 ⟨ps_passkeyref3_node, rs_passkeyref3_node, fun x => passkeyref3_node_n n x.1 x.2.1 x.2.2.1⟩
  | 0 => sound_none ⟨_, Tryz.func24, by kernel_rfl, by kernel_rfl⟩
  | n + 1 => sound_fn (E := E_passkeyref3_node (passkeyref3_node_n n)) (A := A_passkeyref3_node (passkeyref3_node_n n)) (done := []) (c := (Tryz.f24.body.getD .skip)) (S := ⟨ps_passkeyref3_node, rs_passkeyref3_node, fun x => passkeyref3_node_n (n + 1) x.1 x.2.1 x.2.2.1⟩) (fn := Tryz.f24) hmix (passkeyref3_node_env _ (passkeyref3_node_okn n)) Tryz.func24 rfl (by kernel_rfl) (by kernel_rfl) done_nil (by kernel_rfl) (by kernel_rfl) (passkeyref3_node_eqR (passkeyref3_node_n n))

theorem passkeyref3_node_ok : SoundT Tryz.prog cd gdn 24 S_passkeyref3_node := passkeyref3_node_okn 8

def c38 : List (Ct T) := ⟨24, none, S_passkeyref3_node, true⟩ :: c37
theorem o38 : EnvOk Tryz.prog (mE c38) := eCons passkeyref3_node_ok o37

def passkeyref3_Public (a0 : (BitVec 64)) (a1 : Int) : Option ((Unit) × (ApiPublicKey × Int × Unit)) :=
 ((passkeyref3_height a1).bind fun r1 => (bif (!r1.2.1) then (some ((), ((⟨(0 : Int), 0#64⟩ : ApiPublicKey), (9 : Int), ())))
 else ((passkeyref3_node a0 a1 (0 : Int)).bind fun r2 => (some ((), ((⟨a1, r2.2.1⟩ : ApiPublicKey), (0 : Int), ()))))))

def S_passkeyref3_Public : FSpec T := ⟨[.f (.v .u64), .f (.v (.int .i64))], [(.v (.agg 5)), (.v (.int .i64))], fun x => passkeyref3_Public x.1 x.2.1⟩

theorem passkeyref3_Public_ok : SoundT Tryz.prog cd gdn 15 S_passkeyref3_Public :=
  sndC hmix o38 (lcA [] [] []) Tryz.func15 done_nil (by kernel_rfl) (by kernel_rfl) fun x => by kernel_rfl

def c39 : List (Ct T) := ⟨15, none, S_passkeyref3_Public, true⟩ :: c38
theorem o39 : EnvOk Tryz.prog (mE c39) := eCons passkeyref3_Public_ok o38

def passkeyref14_Key (a0 : ApiCredential) : Option ((Unit) × (ApiPublicKey × Int × Unit)) :=
 ((passkeyref14_ValidateCredential a0).bind fun r1 => (bif (!decide (r1.2.1 = (0 : Int))) then (some ((), ((⟨(0 : Int), 0#64⟩ : ApiPublicKey), r1.2.1, ())))
 else ((passkeyref3_Public a0.seed a0.height).bind fun r2 => (some ((), (r2.2.1, r2.2.2.1, ()))))))

def S_passkeyref14_Key : FSpec T := ⟨[.f (.v (.agg 7))], [(.v (.agg 5)), (.v (.int .i64))], fun x => passkeyref14_Key x.1⟩

theorem passkeyref14_Key_ok : SoundT Tryz.prog cd gdn 7 S_passkeyref14_Key :=
  sndC hmix o39 (lcA [] [] []) Tryz.func7 done_nil (by kernel_rfl) (by kernel_rfl) fun x => by kernel_rfl

def c40 : List (Ct T) := ⟨7, none, S_passkeyref14_Key, true⟩ :: c39
theorem o40 : EnvOk Tryz.prog (mE c40) := eCons passkeyref14_Key_ok o39

def cbor_Text (a0 : (List UInt8)) : Option ((Unit) × ((List (ApiItem)) × Unit)) :=
 (some ((), (([(⟨(4 : Int), 0#64, a0⟩ : ApiItem)] : List (ApiItem)), ())))

def S_cbor_Text : FSpec T := ⟨[.f (.v .str)], [(.own 1)], fun x => cbor_Text x.1⟩

theorem cbor_Text_ok : SoundT Tryz.prog cd gdn 42 S_cbor_Text :=
  sndC hmix o40 (lcA [] [] []) Tryz.func42 done_nil (by kernel_rfl) (by kernel_rfl) fun x => by kernel_rfl

def c41 : List (Ct T) := ⟨42, none, S_cbor_Text, false⟩ :: c40
theorem o41 : EnvOk Tryz.prog (mE c41) := eCons cbor_Text_ok o40

def cbor_Bytes (a0 : (List (UInt8))) : Option ((Unit) × ((List (ApiItem)) × Unit)) :=
 (some ((), (([(⟨(3 : Int), 0#64, a0⟩ : ApiItem)] : List (ApiItem)), ())))

def S_cbor_Bytes : FSpec T := ⟨[.f (.v (.rs 0))], [(.own 1)], fun x => cbor_Bytes x.1⟩

theorem cbor_Bytes_ok : SoundT Tryz.prog cd gdn 43 S_cbor_Bytes :=
  sndC hmix o41 (lcA [] [] []) Tryz.func43 done_nil (by kernel_rfl) (by kernel_rfl) fun x => by kernel_rfl

def c42 : List (Ct T) := ⟨43, none, S_cbor_Bytes, false⟩ :: c41
theorem o42 : EnvOk Tryz.prog (mE c42) := eCons cbor_Bytes_ok o41

def cbor_Uint (a0 : (BitVec 64)) : Option ((Unit) × ((List (ApiItem)) × Unit)) :=
 (let v1 : List (ApiItem) := ([(⟨(1 : Int), a0, ([] : List UInt8)⟩ : ApiItem)] : List (ApiItem))
 (some ((), (v1, ()))))

def S_cbor_Uint : FSpec T := ⟨[.f (.v .u64)], [(.own 1)], fun x => cbor_Uint x.1⟩

theorem cbor_Uint_ok : SoundT Tryz.prog cd gdn 44 S_cbor_Uint :=
  sndC hmix o42 (lcA [] [] []) Tryz.func44 done_nil (by kernel_rfl) (by kernel_rfl) fun x => by kernel_rfl

def c43 : List (Ct T) := ⟨44, none, S_cbor_Uint, false⟩ :: c42
theorem o43 : EnvOk Tryz.prog (mE c43) := eCons cbor_Uint_ok o42

def cbor_Bool (a0 : Bool) : Option ((Unit) × ((List (ApiItem)) × Unit)) :=
 (bif a0 then (let v1 : List (ApiItem) := ([(⟨(7 : Int), 1#64, ([] : List UInt8)⟩ : ApiItem)] : List (ApiItem))
 (some ((), (v1, ()))))
 else (let v2 : List (ApiItem) := ([(⟨(7 : Int), 0#64, ([] : List UInt8)⟩ : ApiItem)] : List (ApiItem))
 (some ((), (v2, ())))))

def S_cbor_Bool : FSpec T := ⟨[.f (.v .bool)], [(.own 1)], fun x => cbor_Bool x.1⟩

theorem cbor_Bool_ok : SoundT Tryz.prog cd gdn 45 S_cbor_Bool :=
  sndC hmix o43 (lcA [] [] []) Tryz.func45 done_nil (by kernel_rfl) (by kernel_rfl) fun x => by kernel_rfl

def c44 : List (Ct T) := ⟨45, none, S_cbor_Bool, false⟩ :: c43
theorem o44 : EnvOk Tryz.prog (mE c44) := eCons cbor_Bool_ok o43

def math_bits_Len64 (a0 : (BitVec 64)) : Option ((Unit) × (Int × Unit)) :=
 ((bif (decide ((4294967296#64).toNat ≤ a0.toNat)) then (some ((a0 >>> 32), (32 : Int), ()))
 else (some (a0, (0 : Int), ()))).bind (fun (j1 : ((BitVec 64) × Int × Unit)) => ((bif (decide ((65536#64).toNat ≤ j1.1.toNat)) then (some ((j1.1 >>> 16), (IntKind.wrap .i64 (j1.2.1 + (16 : Int))), ()))
 else (some (j1.1, j1.2.1, ()))).bind (fun (j2 : ((BitVec 64) × Int × Unit)) => (bif (decide ((256#64).toNat ≤ j2.1.toNat)) then (((([0, 1, 2, 2, 3, 3, 3, 3, 4, 4, 4, 4, 4, 4, 4, 4, 5, 5, 5, 5, 5, 5, 5, 5, 5, 5, 5, 5, 5, 5, 5, 5, 6, 6, 6, 6, 6, 6, 6, 6, 6, 6, 6, 6, 6, 6, 6, 6, 6, 6, 6, 6, 6, 6, 6, 6, 6, 6, 6, 6, 6, 6, 6, 6, 7, 7, 7, 7, 7, 7, 7, 7, 7, 7, 7, 7, 7, 7, 7, 7, 7, 7, 7, 7, 7, 7, 7, 7, 7, 7, 7, 7, 7, 7, 7, 7, 7, 7, 7, 7, 7, 7, 7, 7, 7, 7, 7, 7, 7, 7, 7, 7, 7, 7, 7, 7, 7, 7, 7, 7, 7, 7, 7, 7, 7, 7, 7, 7, 8, 8, 8, 8, 8, 8, 8, 8, 8, 8, 8, 8, 8, 8, 8, 8, 8, 8, 8, 8, 8, 8, 8, 8, 8, 8, 8, 8, 8, 8, 8, 8, 8, 8, 8, 8, 8, 8, 8, 8, 8, 8, 8, 8, 8, 8, 8, 8, 8, 8, 8, 8, 8, 8, 8, 8, 8, 8, 8, 8, 8, 8, 8, 8, 8, 8, 8, 8, 8, 8, 8, 8, 8, 8, 8, 8, 8, 8, 8, 8, 8, 8, 8, 8, 8, 8, 8, 8, 8, 8, 8, 8, 8, 8, 8, 8, 8, 8, 8, 8, 8, 8, 8, 8, 8, 8, 8, 8, 8, 8, 8, 8, 8, 8, 8, 8, 8, 8, 8, 8, 8, 8, 8, 8, 8, 8, 8, 8] : List UInt8))[(UInt8.ofBitVec (BitVec.setWidth 8 (j2.1 >>> 8))).toNat]?).bind fun x3 => (let v4 : Int := (IntKind.wrap .i64 ((IntKind.wrap .i64 (j2.2.1 + (8 : Int))) + (x3.toBitVec.toNat : Int)))
 (some ((), (v4, ())))))
 else (((([0, 1, 2, 2, 3, 3, 3, 3, 4, 4, 4, 4, 4, 4, 4, 4, 5, 5, 5, 5, 5, 5, 5, 5, 5, 5, 5, 5, 5, 5, 5, 5, 6, 6, 6, 6, 6, 6, 6, 6, 6, 6, 6, 6, 6, 6, 6, 6, 6, 6, 6, 6, 6, 6, 6, 6, 6, 6, 6, 6, 6, 6, 6, 6, 7, 7, 7, 7, 7, 7, 7, 7, 7, 7, 7, 7, 7, 7, 7, 7, 7, 7, 7, 7, 7, 7, 7, 7, 7, 7, 7, 7, 7, 7, 7, 7, 7, 7, 7, 7, 7, 7, 7, 7, 7, 7, 7, 7, 7, 7, 7, 7, 7, 7, 7, 7, 7, 7, 7, 7, 7, 7, 7, 7, 7, 7, 7, 7, 8, 8, 8, 8, 8, 8, 8, 8, 8, 8, 8, 8, 8, 8, 8, 8, 8, 8, 8, 8, 8, 8, 8, 8, 8, 8, 8, 8, 8, 8, 8, 8, 8, 8, 8, 8, 8, 8, 8, 8, 8, 8, 8, 8, 8, 8, 8, 8, 8, 8, 8, 8, 8, 8, 8, 8, 8, 8, 8, 8, 8, 8, 8, 8, 8, 8, 8, 8, 8, 8, 8, 8, 8, 8, 8, 8, 8, 8, 8, 8, 8, 8, 8, 8, 8, 8, 8, 8, 8, 8, 8, 8, 8, 8, 8, 8, 8, 8, 8, 8, 8, 8, 8, 8, 8, 8, 8, 8, 8, 8, 8, 8, 8, 8, 8, 8, 8, 8, 8, 8, 8, 8, 8, 8, 8, 8, 8, 8] : List UInt8))[(UInt8.ofBitVec (BitVec.setWidth 8 j2.1)).toNat]?).bind fun x5 => (some ((), ((IntKind.wrap .i64 (j2.2.1 + (x5.toBitVec.toNat : Int))), ())))))))))

def S_math_bits_Len64 : FSpec T := ⟨[.f (.v .u64)], [(.v (.int .i64))], fun x => math_bits_Len64 x.1⟩

theorem math_bits_Len64_ok : SoundT Tryz.prog cd gdn 118 S_math_bits_Len64 :=
  sndC hmix o44 (lcA [] [(4, [(0, .f (.v .u64)), (2, .f (.v (.int .i64)))], true), (7, [(0, .f (.v .u64)), (2, .f (.v (.int .i64)))], true)] []) Tryz.func118 done_nil (by kernel_rfl) (by kernel_rfl) fun x => by kernel_rfl

def c45 : List (Ct T) := ⟨118, none, S_math_bits_Len64, true⟩ :: c44
theorem o45 : EnvOk Tryz.prog (mE c45) := eCons math_bits_Len64_ok o44

def math_bits_Len (a0 : (BitVec 64)) : Option ((Unit) × (Int × Unit)) :=
 ((math_bits_Len64 a0).bind fun r1 => (some ((), (r1.2.1, ()))))

def S_math_bits_Len : FSpec T := ⟨[.f (.v .u64)], [(.v (.int .i64))], fun x => math_bits_Len x.1⟩

theorem math_bits_Len_ok : SoundT Tryz.prog cd gdn 93 S_math_bits_Len :=
  sndC hmix o45 (lcA [] [] []) Tryz.func93 done_nil (by kernel_rfl) (by kernel_rfl) fun x => by kernel_rfl

def c46 : List (Ct T) := ⟨93, none, S_math_bits_Len, true⟩ :: c45
theorem o46 : EnvOk Tryz.prog (mE c46) := eCons math_bits_Len_ok o45

def cmp_isNaN_uint64 (a0 : (BitVec 64)) : Option ((Unit) × (Bool × Unit)) :=
 (some ((), ((!decide (a0 = a0)), ())))

def S_cmp_isNaN_uint64 : FSpec T := ⟨[.f (.v .u64)], [(.v .bool)], fun x => cmp_isNaN_uint64 x.1⟩

theorem cmp_isNaN_uint64_ok : SoundT Tryz.prog cd gdn 94 S_cmp_isNaN_uint64 :=
  sndC hmix o46 (lcA [] [] []) Tryz.func94 done_nil (by kernel_rfl) (by kernel_rfl) fun x => by kernel_rfl

def c47 : List (Ct T) := ⟨94, none, S_cmp_isNaN_uint64, true⟩ :: c46
theorem o47 : EnvOk Tryz.prog (mE c47) := eCons cmp_isNaN_uint64_ok o46

def cmp_Compare_uint64 (a0 : (BitVec 64)) (a1 : (BitVec 64)) : Option ((Unit) × (Int × Unit)) :=
 ((cmp_isNaN_uint64 a0).bind fun r1 => ((cmp_isNaN_uint64 a1).bind fun r2 => (bif r1.2.1 then (bif r2.2.1 then (some ((), ((0 : Int), ())))
 else (some ((), ((-1 : Int), ()))))
 else (bif r2.2.1 then (some ((), ((1 : Int), ())))
 else (bif (decide (a0.toNat < a1.toNat)) then (some ((), ((-1 : Int), ())))
 else (bif (decide (a1.toNat < a0.toNat)) then (some ((), ((1 : Int), ())))
 else (some ((), ((0 : Int), ())))))))))

def S_cmp_Compare_uint64 : FSpec T := ⟨[.f (.v .u64), .f (.v .u64)], [(.v (.int .i64))], fun x => cmp_Compare_uint64 x.1 x.2.1⟩

theorem cmp_Compare_uint64_ok : SoundT Tryz.prog cd gdn 75 S_cmp_Compare_uint64 :=
  sndC hmix o47 (lcA [] [] []) Tryz.func75 done_nil (by kernel_rfl) (by kernel_rfl) fun x => by kernel_rfl

def c48 : List (Ct T) := ⟨75, none, S_cmp_Compare_uint64, true⟩ :: c47
theorem o48 : EnvOk Tryz.prog (mE c48) := eCons cmp_Compare_uint64_ok o47

def cbor_Map_1 (a0 : Int) (a1 : Int) (a2 : (List (BitVec 64))) : Option ((Unit) × (Int × Unit)) :=
 ((getI a2 a0).bind fun x1 => ((getI a2 a1).bind fun x2 => ((cmp_Compare_uint64 x1 x2).bind fun r3 => (some ((), (r3.2.1, ()))))))

def S_cbor_Map_1 : FSpec T := ⟨[.f (.v (.int .i64)), .f (.v (.int .i64)), .f (.v (.ref (.rs 2)))], [(.v (.int .i64))], fun x => cbor_Map_1 x.1 x.2.1 x.2.2.1⟩

theorem cbor_Map_1_ok : SoundT Tryz.prog cd gdn 74 S_cbor_Map_1 :=
  sndC hmix o48 (lcA [] [] []) Tryz.func74 done_nil (by kernel_rfl) (by kernel_rfl) fun x => by kernel_rfl

def c49 : List (Ct T) := ⟨74, none, S_cbor_Map_1, true⟩ :: c48
theorem o49 : EnvOk Tryz.prog (mE c49) := eCons cbor_Map_1_ok o48

abbrev Y_slices_insertionSortCmpFunc_int_L2 := ((List (Int)) × Int × Int × ((List (BitVec 64)) × Unit) × Int × Int × Unit)
abbrev Z_slices_insertionSortCmpFunc_int_L2 := ((List (Int)) × Int × Int × ((List (BitVec 64)) × Unit) × Int × Unit)

def slices_insertionSortCmpFunc_int_L2b (y0 : (List (Int))) (y1 : Int) (y2 : Int) (y3 : ((List (BitVec 64)) × Unit)) (y4 : Int) (y5 : Int) : Option (Y_slices_insertionSortCmpFunc_int_L2 ⊕ Z_slices_insertionSortCmpFunc_int_L2) :=
 (bif (decide (y1 < y5)) then (bif (decide ((0 : Int) ≤ y5) && decide (y5 < ((y0).length : Int))) then (((y0)[(y5).toNat]?).bind fun x1 => (bif (decide ((0 : Int) ≤ (IntKind.wrap .i64 (y5 - (1 : Int)))) && decide ((IntKind.wrap .i64 (y5 - (1 : Int))) < ((y0).length : Int))) then (((y0)[((IntKind.wrap .i64 (y5 - (1 : Int)))).toNat]?).bind fun x2 => ((cbor_Map_1 x1 x2 y3.1).bind fun r3 => (bif (decide (r3.2.1 < (0 : Int))) then (bif (decide ((0 : Int) ≤ (IntKind.wrap .i64 (y5 - (1 : Int)))) && decide ((IntKind.wrap .i64 (y5 - (1 : Int))) < ((y0).length : Int))) then (((y0)[((IntKind.wrap .i64 (y5 - (1 : Int)))).toNat]?).bind fun x4 => (bif (decide ((0 : Int) ≤ y5) && decide (y5 < ((y0).length : Int))) then (((y0)[(y5).toNat]?).bind fun x5 => (bif (decide ((0 : Int) ≤ y5) && decide (y5 < ((y0).length : Int))) then (((y0)[(y5).toNat]?).bind fun x6 => (bif (decide ((0 : Int) ≤ (IntKind.wrap .i64 (y5 - (1 : Int)))) && decide ((IntKind.wrap .i64 (y5 - (1 : Int))) < ((y0).length : Int))) then ((((List.set y0 (y5).toNat x4))[((IntKind.wrap .i64 (y5 - (1 : Int)))).toNat]?).bind fun x7 => (let v8 : List (Int) := (List.set (List.set y0 (y5).toNat x4) ((IntKind.wrap .i64 (y5 - (1 : Int)))).toNat x5)
 (some (Sum.inl (v8, y1, y2, (y3.1, ()), y4, (IntKind.wrap .i64 (y5 - (1 : Int))), ())))))
 else none))
 else none))
 else none))
 else none)
 else (some (Sum.inr (y0, y1, y2, (y3.1, ()), y4, ()))))))
 else none))
 else none)
 else (some (Sum.inr (y0, y1, y2, (y3.1, ()), y4, ()))))

def slices_insertionSortCmpFunc_int_L2 (y : Y_slices_insertionSortCmpFunc_int_L2) : Option Z_slices_insertionSortCmpFunc_int_L2 := iter (fun (y : Y_slices_insertionSortCmpFunc_int_L2) => slices_insertionSortCmpFunc_int_L2b y.1 y.2.1 y.2.2.1 y.2.2.2.1 y.2.2.2.2.1 y.2.2.2.2.2.1) rounds y

abbrev Y_slices_insertionSortCmpFunc_int_L0 := ((List (Int)) × Int × Int × ((List (BitVec 64)) × Unit) × Int × Unit)
abbrev Z_slices_insertionSortCmpFunc_int_L0 := ((List (Int)) × Unit)

def slices_insertionSortCmpFunc_int_L0b (y0 : (List (Int))) (y1 : Int) (y2 : Int) (y3 : ((List (BitVec 64)) × Unit)) (y4 : Int) : Option (Y_slices_insertionSortCmpFunc_int_L0 ⊕ Z_slices_insertionSortCmpFunc_int_L0) :=
 (bif (decide (y4 < y2)) then ((slices_insertionSortCmpFunc_int_L2 (y0, y1, y2, (y3.1, ()), y4, y4, ())).bind (fun (z1 : ((List (Int)) × Int × Int × ((List (BitVec 64)) × Unit) × Int × Unit)) => (some (Sum.inl (z1.1, z1.2.1, z1.2.2.1, (z1.2.2.2.1.1, ()), (IntKind.wrap .i64 (z1.2.2.2.2.1 + (1 : Int))), ())))))
 else (some (Sum.inr (y0, ()))))

def slices_insertionSortCmpFunc_int_L0 (y : Y_slices_insertionSortCmpFunc_int_L0) : Option Z_slices_insertionSortCmpFunc_int_L0 := iter (fun (y : Y_slices_insertionSortCmpFunc_int_L0) => slices_insertionSortCmpFunc_int_L0b y.1 y.2.1 y.2.2.1 y.2.2.2.1 y.2.2.2.2.1) rounds y

def slices_insertionSortCmpFunc_int (a0 : (List (Int))) (a1 : Int) (a2 : Int) (a3 : ((List (BitVec 64)) × Unit)) : Option (((List (Int)) × Unit) × (Unit)) :=
 ((slices_insertionSortCmpFunc_int_L0 (a0, a1, a2, (a3.1, ()), (IntKind.wrap .i64 (a1 + (1 : Int))), ())).bind (fun (z2 : ((List (Int)) × Unit)) => (some ((z2.1, ()), ()))))

def S_slices_insertionSortCmpFunc_int : FSpec T := ⟨[.inp 10, .f (.v (.int .i64)), .f (.v (.int .i64)), .f (.v (.fn 74 (.cons (.ref (.rs 2)) .nil)))], [], fun x => slices_insertionSortCmpFunc_int x.1 x.2.1 x.2.2.1 x.2.2.2.1⟩

def s_slices_insertionSortCmpFunc_int_L2 : LSpec T := ⟨[(0, .f (.own 10)), (1, .f (.v (.int .i64))), (2, .f (.v (.int .i64))), (3, .f (.v (.fn 74 (.cons (.ref (.rs 2)) .nil)))), (8, .f (.v (.int .i64))), (9, .f (.v (.int .i64)))], [(.exit 2, [(0, .f (.own 10)), (1, .f (.v (.int .i64))), (2, .f (.v (.int .i64))), (3, .f (.v (.fn 74 (.cons (.ref (.rs 2)) .nil)))), (8, .f (.v (.int .i64)))])], slices_insertionSortCmpFunc_int_L2, []⟩

def s_slices_insertionSortCmpFunc_int_L0 : LSpec T := ⟨[(0, .f (.own 10)), (1, .f (.v (.int .i64))), (2, .f (.v (.int .i64))), (3, .f (.v (.fn 74 (.cons (.ref (.rs 2)) .nil)))), (8, .f (.v (.int .i64)))], [(.exit 0, [(0, .f (.own 10))])], slices_insertionSortCmpFunc_int_L0, []⟩

def A_slices_insertionSortCmpFunc_int : Loc2 T := lcA [(2, s_slices_insertionSortCmpFunc_int_L2), (0, s_slices_insertionSortCmpFunc_int_L0)] [] []

theorem slices_insertionSortCmpFunc_int_L2_ok : LoopOk Tryz.prog (mE c49) Tryz.f109.ntmps (kqOf S_slices_insertionSortCmpFunc_int.ps 0) (loopAt 2 (bodyOf Tryz.f109)) s_slices_insertionSortCmpFunc_int_L2 :=
  lpC hmix o49 A_slices_insertionSortCmpFunc_int done_nil 2 (st := fun y => slices_insertionSortCmpFunc_int_L2b y.1 y.2.1 y.2.2.1 y.2.2.2.1 y.2.2.2.2.1 y.2.2.2.2.2.1) (fun _ => rfl) (by kernel_rfl) (by kernel_rfl) fun x => by kernel_rfl

theorem slices_insertionSortCmpFunc_int_L0_ok : LoopOk Tryz.prog (mE c49) Tryz.f109.ntmps (kqOf S_slices_insertionSortCmpFunc_int.ps 0) (loopAt 0 (bodyOf Tryz.f109)) s_slices_insertionSortCmpFunc_int_L0 :=
  lpC hmix o49 A_slices_insertionSortCmpFunc_int (done_cons rfl slices_insertionSortCmpFunc_int_L2_ok done_nil) 0 (st := fun y => slices_insertionSortCmpFunc_int_L0b y.1 y.2.1 y.2.2.1 y.2.2.2.1 y.2.2.2.2.1) (fun _ => rfl) (by kernel_rfl) (by kernel_rfl) fun x => by kernel_rfl

theorem slices_insertionSortCmpFunc_int_ok : SoundT Tryz.prog cd gdn 109 S_slices_insertionSortCmpFunc_int :=
  sndC hmix o49 A_slices_insertionSortCmpFunc_int Tryz.func109 (done_cons rfl slices_insertionSortCmpFunc_int_L2_ok (done_cons rfl slices_insertionSortCmpFunc_int_L0_ok done_nil)) (by kernel_rfl) (by kernel_rfl) fun x => by kernel_rfl

def c50 : List (Ct T) := ⟨109, (some (3, 74)), S_slices_insertionSortCmpFunc_int, false⟩ :: c49
theorem o50 : EnvOk Tryz.prog (mE c50) := eCons slices_insertionSortCmpFunc_int_ok o49

abbrev Y_slices_pdqsortCmpFunc_int_L0 := ((List (Int)) × Int × Int × Int × ((List (BitVec 64)) × Unit) × Bool × Bool × Unit)
abbrev Z_slices_pdqsortCmpFunc_int_L0 := ((List (Int)) × Unit)

def slices_pdqsortCmpFunc_int_L0b (y0 : (List (Int))) (y1 : Int) (y2 : Int) (y3 : Int) (y4 : ((List (BitVec 64)) × Unit)) (y5 : Bool) (y6 : Bool) : Option (Y_slices_pdqsortCmpFunc_int_L0 ⊕ Z_slices_pdqsortCmpFunc_int_L0) :=
 (bif (decide ((IntKind.wrap .i64 (y2 - y1)) ≤ (12 : Int))) then ((slices_insertionSortCmpFunc_int y0 y1 y2 (y4.1, ())).bind fun r1 => (some (Sum.inr (r1.1.1, ()))))
 else (bif (decide (y3 = (0 : Int))) then none
 else ((bif (!y5) then none
 else (some (y0, y1, y2, y3, (y4.1, ()), y5, y6, (IntKind.wrap .i64 (y2 - y1)), ()))).bind (fun (j2 : ((List (Int)) × Int × Int × Int × ((List (BitVec 64)) × Unit) × Bool × Bool × Int × Unit)) => none))))

def slices_pdqsortCmpFunc_int_L0 (y : Y_slices_pdqsortCmpFunc_int_L0) : Option Z_slices_pdqsortCmpFunc_int_L0 := iter (fun (y : Y_slices_pdqsortCmpFunc_int_L0) => slices_pdqsortCmpFunc_int_L0b y.1 y.2.1 y.2.2.1 y.2.2.2.1 y.2.2.2.2.1 y.2.2.2.2.2.1 y.2.2.2.2.2.2.1) rounds y

def slices_pdqsortCmpFunc_int (a0 : (List (Int))) (a1 : Int) (a2 : Int) (a3 : Int) (a4 : ((List (BitVec 64)) × Unit)) : Option (((List (Int)) × Unit) × (Unit)) :=
 ((slices_pdqsortCmpFunc_int_L0 (a0, a1, a2, a3, (a4.1, ()), true, true, ())).bind (fun (z3 : ((List (Int)) × Unit)) => (some ((z3.1, ()), ()))))

def S_slices_pdqsortCmpFunc_int : FSpec T := ⟨[.inp 10, .f (.v (.int .i64)), .f (.v (.int .i64)), .f (.v (.int .i64)), .f (.v (.fn 74 (.cons (.ref (.rs 2)) .nil)))], [], fun x => slices_pdqsortCmpFunc_int x.1 x.2.1 x.2.2.1 x.2.2.2.1 x.2.2.2.2.1⟩

def s_slices_pdqsortCmpFunc_int_L0 : LSpec T := ⟨[(0, .f (.own 10)), (1, .f (.v (.int .i64))), (2, .f (.v (.int .i64))), (3, .f (.v (.int .i64))), (4, .f (.v (.fn 74 (.cons (.ref (.rs 2)) .nil)))), (10, .f (.v .bool)), (11, .f (.v .bool))], [(.ret, [(0, .f (.own 10))])], slices_pdqsortCmpFunc_int_L0, []⟩

def A_slices_pdqsortCmpFunc_int : Loc2 T := lcA [(0, s_slices_pdqsortCmpFunc_int_L0)] [(10, [(0, .f (.own 10)), (1, .f (.v (.int .i64))), (2, .f (.v (.int .i64))), (3, .f (.v (.int .i64))), (4, .f (.v (.fn 74 (.cons (.ref (.rs 2)) .nil)))), (10, .f (.v .bool)), (11, .f (.v .bool)), (12, .f (.v (.int .i64)))], true)] []

theorem slices_pdqsortCmpFunc_int_L0_ok : LoopOk Tryz.prog (mE c50) Tryz.f92.ntmps (kqOf S_slices_pdqsortCmpFunc_int.ps 0) (loopAt 0 (bodyOf Tryz.f92)) s_slices_pdqsortCmpFunc_int_L0 :=
  lpC hmix o50 A_slices_pdqsortCmpFunc_int done_nil 0 (st := fun y => slices_pdqsortCmpFunc_int_L0b y.1 y.2.1 y.2.2.1 y.2.2.2.1 y.2.2.2.2.1 y.2.2.2.2.2.1 y.2.2.2.2.2.2.1) (fun _ => rfl) (by kernel_rfl) (by kernel_rfl) fun x => by kernel_rfl

theorem slices_pdqsortCmpFunc_int_ok : SoundT Tryz.prog cd gdn 92 S_slices_pdqsortCmpFunc_int :=
  sndC hmix o50 A_slices_pdqsortCmpFunc_int Tryz.func92 (done_cons rfl slices_pdqsortCmpFunc_int_L0_ok done_nil) (by kernel_rfl) (by kernel_rfl) fun x => by kernel_rfl

def c51 : List (Ct T) := ⟨92, (some (4, 74)), S_slices_pdqsortCmpFunc_int, false⟩ :: c50
theorem o51 : EnvOk Tryz.prog (mE c51) := eCons slices_pdqsortCmpFunc_int_ok o50

def slices_SortFunc_int_int (a0 : (List (Int))) (a1 : ((List (BitVec 64)) × Unit)) : Option (((List (Int)) × Unit) × (Unit)) :=
 ((math_bits_Len (BitVec.ofInt 64 ((a0).length : Int))).bind fun r1 => ((slices_pdqsortCmpFunc_int a0 (0 : Int) ((a0).length : Int) r1.2.1 (a1.1, ())).bind fun r2 => (some ((r2.1.1, ()), ()))))

def S_slices_SortFunc_int_int : FSpec T := ⟨[.inp 10, .f (.v (.fn 74 (.cons (.ref (.rs 2)) .nil)))], [], fun x => slices_SortFunc_int_int x.1 x.2.1⟩

theorem slices_SortFunc_int_int_ok : SoundT Tryz.prog cd gdn 73 S_slices_SortFunc_int_int :=
  sndC hmix o51 (lcA [] [] []) Tryz.func73 done_nil (by kernel_rfl) (by kernel_rfl) fun x => by kernel_rfl

def c52 : List (Ct T) := ⟨73, (some (1, 74)), S_slices_SortFunc_int_int, false⟩ :: c51
theorem o52 : EnvOk Tryz.prog (mE c52) := eCons slices_SortFunc_int_int_ok o51

def cbor_walk_done (a0 : CborWalk) : Option ((Unit) × (Bool × Unit)) :=
 (bif (decide ((0 : Int) < a0.count)) then (some ((), ((decide (((a0.open_).length : Int) = (0 : Int))), ())))
 else (some ((), (false, ()))))

def S_cbor_walk_done : FSpec T := ⟨[.f (.v (.ref (.agg 12)))], [(.v .bool)], fun x => cbor_walk_done x.1⟩

theorem cbor_walk_done_ok : SoundT Tryz.prog cd gdn 53 S_cbor_walk_done :=
  sndC hmix o52 (lcA [] [] []) Tryz.func53 done_nil (by kernel_rfl) (by kernel_rfl) fun x => by kernel_rfl

def c53 : List (Ct T) := ⟨53, none, S_cbor_walk_done, true⟩ :: c52
theorem o53 : EnvOk Tryz.prog (mE c53) := eCons cbor_walk_done_ok o52

def cbor_walk_atKey (a0 : CborWalk) : Option ((Unit) × (Bool × Unit)) :=
 (bif (decide ((0 : Int) < ((a0.open_).length : Int))) then ((getI a0.open_ (IntKind.wrap .i64 (((a0.open_).length : Int) - (1 : Int)))).bind fun x1 => (bif x1.pairs then ((getI a0.open_ (IntKind.wrap .i64 (((a0.open_).length : Int) - (1 : Int)))).bind fun x2 => (some ((), ((decide ((Int.tmod x2.left (2 : Int)) = (0 : Int))), ()))))
 else (some ((), (false, ())))))
 else (some ((), (false, ()))))

def S_cbor_walk_atKey : FSpec T := ⟨[.f (.v (.ref (.agg 12)))], [(.v .bool)], fun x => cbor_walk_atKey x.1⟩

theorem cbor_walk_atKey_ok : SoundT Tryz.prog cd gdn 101 S_cbor_walk_atKey :=
  sndC hmix o53 (lcA [] [] []) Tryz.func101 done_nil (by kernel_rfl) (by kernel_rfl) fun x => by kernel_rfl

def c54 : List (Ct T) := ⟨101, none, S_cbor_walk_atKey, true⟩ :: c53
theorem o54 : EnvOk Tryz.prog (mE c54) := eCons cbor_walk_atKey_ok o53

def cbor_walk_admit (a0 : CborWalk) (a1 : Int) : Option ((Unit) × (Int × Unit)) :=
 (bif (decide ((512 : Int) ≤ a0.count)) then (some ((), ((8 : Int), ())))
 else (bif (decide (a1 < (1 : Int))) then (some ((), ((3 : Int), ())))
 else (bif (decide ((8 : Int) < a1)) then (some ((), ((3 : Int), ())))
 else ((cbor_walk_atKey a0).bind fun r1 => (bif r1.2.1 then (bif (!decide (a1 = (1 : Int))) then (bif (!decide (a1 = (2 : Int))) then (bif (!decide (a1 = (4 : Int))) then (some ((), ((3 : Int), ())))
 else (bif (decide ((8 : Int) < ((a0.open_).length : Int))) then (some ((), ((5 : Int), ())))
 else (some ((), ((0 : Int), ())))))
 else (bif (decide ((8 : Int) < ((a0.open_).length : Int))) then (some ((), ((5 : Int), ())))
 else (some ((), ((0 : Int), ())))))
 else (bif (decide ((8 : Int) < ((a0.open_).length : Int))) then (some ((), ((5 : Int), ())))
 else (some ((), ((0 : Int), ())))))
 else (bif (decide ((8 : Int) < ((a0.open_).length : Int))) then (some ((), ((5 : Int), ())))
 else (some ((), ((0 : Int), ())))))))))

def S_cbor_walk_admit : FSpec T := ⟨[.f (.v (.ref (.agg 12))), .f (.v (.int .i64))], [(.v (.int .i64))], fun x => cbor_walk_admit x.1 x.2.1⟩

theorem cbor_walk_admit_ok : SoundT Tryz.prog cd gdn 83 S_cbor_walk_admit :=
  sndC hmix o54 (lcA [] [] []) Tryz.func83 done_nil (by kernel_rfl) (by kernel_rfl) fun x => by kernel_rfl

def c55 : List (Ct T) := ⟨83, none, S_cbor_walk_admit, true⟩ :: c54
theorem o55 : EnvOk Tryz.prog (mE c55) := eCons cbor_walk_admit_ok o54

def cbor_shaped (a0 : ApiItem) : Option ((Unit) × (Bool × Unit)) :=
 (bif (decide (a0.kind = (3 : Int))) then (bif (decide (a0.kind = (3 : Int))) then (some ((), ((decide (a0.number = 0#64)), ())))
 else (bif (decide (a0.kind = (8 : Int))) then (bif (decide (a0.number = 0#64)) then (some ((), ((decide (a0.data = ([] : List UInt8))), ())))
 else (some ((), (false, ()))))
 else (bif (decide (a0.kind = (7 : Int))) then (bif (decide (a0.number.toNat ≤ (1#64).toNat)) then (some ((), ((decide (a0.data = ([] : List UInt8))), ())))
 else (some ((), (false, ()))))
 else (some ((), ((decide (a0.data = ([] : List UInt8))), ()))))))
 else (bif (decide (a0.kind = (4 : Int))) then (some ((), ((decide (a0.number = 0#64)), ())))
 else (bif (decide (a0.kind = (8 : Int))) then (bif (decide (a0.number = 0#64)) then (some ((), ((decide (a0.data = ([] : List UInt8))), ())))
 else (some ((), (false, ()))))
 else (bif (decide (a0.kind = (7 : Int))) then (bif (decide (a0.number.toNat ≤ (1#64).toNat)) then (some ((), ((decide (a0.data = ([] : List UInt8))), ())))
 else (some ((), (false, ()))))
 else (some ((), ((decide (a0.data = ([] : List UInt8))), ())))))))

def S_cbor_shaped : FSpec T := ⟨[.f (.v (.agg 1))], [(.v .bool)], fun x => cbor_shaped x.1⟩

theorem cbor_shaped_ok : SoundT Tryz.prog cd gdn 119 S_cbor_shaped :=
  sndC hmix o55 (lcA [] [] []) Tryz.func119 done_nil (by kernel_rfl) (by kernel_rfl) fun x => by kernel_rfl

def c56 : List (Ct T) := ⟨119, none, S_cbor_shaped, true⟩ :: c55
theorem o56 : EnvOk Tryz.prog (mE c56) := eCons cbor_shaped_ok o55

abbrev Y_cbor_appendHead_L1 := ((List (UInt8)) × (BitVec 64) × Int × Unit)
abbrev Z_cbor_appendHead_L1 := ((List (UInt8)) × Unit)

def cbor_appendHead_L1b (y0 : (List (UInt8))) (y1 : (BitVec 64)) (y2 : Int) : Option (Y_cbor_appendHead_L1 ⊕ Z_cbor_appendHead_L1) :=
 (bif (decide ((0 : Int) ≤ y2)) then (bif decide ((0 : Int) ≤ (IntKind.wrap .i64 ((8 : Int) * y2))) then (let v7 : UInt8 := (UInt8.ofBitVec (BitVec.setWidth 8 (y1 >>> ((IntKind.wrap .i64 ((8 : Int) * y2))).toNat)))
 (bif small ((y0).length + (([v7] : List (UInt8)) : List (UInt8)).length) 1 then (some (Sum.inl ((y0 ++ ([v7] : List (UInt8))), y1, (IntKind.wrap .i64 (y2 - (1 : Int))), ())))
 else none))
 else none)
 else (some (Sum.inr (y0, ()))))

def cbor_appendHead_L1 (y : Y_cbor_appendHead_L1) : Option Z_cbor_appendHead_L1 := iter (fun (y : Y_cbor_appendHead_L1) => cbor_appendHead_L1b y.1 y.2.1 y.2.2.1) rounds y

def cbor_appendHead (a0 : (List (UInt8))) (a1 : UInt8) (a2 : (BitVec 64)) : Option ((Unit) × ((List (UInt8)) × Unit)) :=
 ((bif (decide (a2.toNat < (24#64).toNat)) then (let v1 : UInt8 := (UInt8.ofBitVec ((UInt8.ofBitVec (a1.toBitVec <<< 5)).toBitVec + (UInt8.ofBitVec (BitVec.setWidth 8 a2)).toBitVec))
 (bif small ((a0).length + (([v1] : List (UInt8)) : List (UInt8)).length) 1 then (((some ((), ((a0 ++ ([v1] : List (UInt8))), ())))).bind fun q => some (Sum.inr q))
 else none))
 else (bif (decide (a2.toNat < (256#64).toNat)) then (let v2 : UInt8 := (UInt8.ofBitVec ((UInt8.ofBitVec (a1.toBitVec <<< 5)).toBitVec + (24 : UInt8).toBitVec))
 (some (Sum.inl (a0, a2, v2, (1 : Int), ()))))
 else (bif (decide (a2.toNat < (65536#64).toNat)) then (let v3 : UInt8 := (UInt8.ofBitVec ((UInt8.ofBitVec (a1.toBitVec <<< 5)).toBitVec + (25 : UInt8).toBitVec))
 (some (Sum.inl (a0, a2, v3, (2 : Int), ()))))
 else (bif (decide (a2.toNat < (4294967296#64).toNat)) then (let v4 : UInt8 := (UInt8.ofBitVec ((UInt8.ofBitVec (a1.toBitVec <<< 5)).toBitVec + (26 : UInt8).toBitVec))
 (some (Sum.inl (a0, a2, v4, (4 : Int), ()))))
 else (let v5 : UInt8 := (UInt8.ofBitVec ((UInt8.ofBitVec (a1.toBitVec <<< 5)).toBitVec + (27 : UInt8).toBitVec))
 (some (Sum.inl (a0, a2, v5, (8 : Int), ())))))))).bind (Sum.elim (fun (j6 : ((List (UInt8)) × (BitVec 64) × UInt8 × Int × Unit)) => (bif small ((j6.1).length + (([j6.2.2.1] : List (UInt8)) : List (UInt8)).length) 1 then ((cbor_appendHead_L1 ((j6.1 ++ ([j6.2.2.1] : List (UInt8))), j6.2.1, (IntKind.wrap .i64 (j6.2.2.2.1 - (1 : Int))), ())).bind (fun (z8 : ((List (UInt8)) × Unit)) => (some ((), (z8.1, ())))))
 else none)) some))

def S_cbor_appendHead : FSpec T := ⟨[.f (.own 0), .f (.v .u8), .f (.v .u64)], [(.own 0)], fun x => cbor_appendHead x.1 x.2.1 x.2.2.1⟩

def s_cbor_appendHead_L1 : LSpec T := ⟨[(0, .f (.own 0)), (2, .f (.v .u64)), (9, .f (.v (.int .i64)))], [(.exit 1, [(0, .f (.own 0))])], cbor_appendHead_L1, []⟩

def A_cbor_appendHead : Loc2 T := lcA [(1, s_cbor_appendHead_L1)] [(12, [(0, .f (.own 0)), (2, .f (.v .u64)), (7, .f (.v .u8)), (8, .f (.v (.int .i64)))], false)] []

theorem cbor_appendHead_L1_ok : LoopOk Tryz.prog (mE c56) Tryz.f96.ntmps (kqOf S_cbor_appendHead.ps 0) (loopAt 1 (bodyOf Tryz.f96)) s_cbor_appendHead_L1 :=
  lpC hmix o56 A_cbor_appendHead done_nil 1 (st := fun y => cbor_appendHead_L1b y.1 y.2.1 y.2.2.1) (fun _ => rfl) (by kernel_rfl) (by kernel_rfl) fun x => by kernel_rfl

theorem cbor_appendHead_ok : SoundT Tryz.prog cd gdn 96 S_cbor_appendHead :=
  sndC hmix o56 A_cbor_appendHead Tryz.func96 (done_cons rfl cbor_appendHead_L1_ok done_nil) (by kernel_rfl) (by kernel_rfl) fun x => by kernel_rfl

def c57 : List (Ct T) := ⟨96, none, S_cbor_appendHead, false⟩ :: c56
theorem o57 : EnvOk Tryz.prog (mE c57) := eCons cbor_appendHead_ok o56

def cbor_appendItem (a0 : (List (UInt8))) (a1 : ApiItem) : Option ((Unit) × ((List (UInt8)) × Unit)) :=
 (bif (decide (a1.kind = (7 : Int))) then (let v1 : UInt8 := (UInt8.ofBitVec ((244 : UInt8).toBitVec + (UInt8.ofBitVec (BitVec.setWidth 8 a1.number)).toBitVec))
 (bif small ((a0).length + (([v1] : List (UInt8)) : List (UInt8)).length) 1 then (some ((), ((a0 ++ ([v1] : List (UInt8))), ())))
 else none))
 else (bif (decide (a1.kind = (8 : Int))) then (bif small ((a0).length + (([(246 : UInt8)] : List (UInt8)) : List (UInt8)).length) 1 then (some ((), ((a0 ++ ([(246 : UInt8)] : List (UInt8))), ())))
 else none)
 else (bif (decide (a1.kind = (3 : Int))) then (bif (decide (a1.kind = (3 : Int))) then (let v2 : UInt8 := (UInt8.ofBitVec (BitVec.ofInt 8 (IntKind.wrap .i64 (a1.kind - (1 : Int)))))
 ((cbor_appendHead a0 v2 (BitVec.ofInt 64 ((a1.data).length : Int))).bind fun r3 => (bif small ((r3.2.1).length + (a1.data : List (UInt8)).length) 1 then (some ((), ((r3.2.1 ++ a1.data), ())))
 else none)))
 else (let v4 : UInt8 := (UInt8.ofBitVec (BitVec.ofInt 8 (IntKind.wrap .i64 (a1.kind - (1 : Int)))))
 ((cbor_appendHead a0 v4 a1.number).bind fun r5 => (some ((), (r5.2.1, ()))))))
 else (bif (decide (a1.kind = (4 : Int))) then (let v6 : UInt8 := (UInt8.ofBitVec (BitVec.ofInt 8 (IntKind.wrap .i64 (a1.kind - (1 : Int)))))
 ((cbor_appendHead a0 v6 (BitVec.ofInt 64 ((a1.data).length : Int))).bind fun r7 => (bif small ((r7.2.1).length + (a1.data : List (UInt8)).length) 1 then (some ((), ((r7.2.1 ++ a1.data), ())))
 else none)))
 else (let v8 : UInt8 := (UInt8.ofBitVec (BitVec.ofInt 8 (IntKind.wrap .i64 (a1.kind - (1 : Int)))))
 ((cbor_appendHead a0 v8 a1.number).bind fun r9 => (some ((), (r9.2.1, ())))))))))

def S_cbor_appendItem : FSpec T := ⟨[.f (.own 0), .f (.v (.agg 1))], [(.own 0)], fun x => cbor_appendItem x.1 x.2.1⟩

theorem cbor_appendItem_ok : SoundT Tryz.prog cd gdn 79 S_cbor_appendItem :=
  sndC hmix o57 (lcA [] [] []) Tryz.func79 done_nil (by kernel_rfl) (by kernel_rfl) fun x => by kernel_rfl

def c58 : List (Ct T) := ⟨79, none, S_cbor_appendItem, false⟩ :: c57
theorem o58 : EnvOk Tryz.prog (mE c58) := eCons cbor_appendItem_ok o57

def c59 : List (Ct T) := ⟨121, none, S_bytes_Compare, true⟩ :: c58
theorem o59 : EnvOk Tryz.prog (mE c59) := eCons bytes_Compare_ok o58

def cbor_smaller (a0 : (List (UInt8))) (a1 : (List (UInt8))) : Option ((Unit) × (Bool × Unit)) :=
 (bif (!decide (((a0).length : Int) = ((a1).length : Int))) then (some ((), ((decide (((a0).length : Int) < ((a1).length : Int))), ())))
 else ((bytes_Compare a0 a1).bind fun r1 => (some ((), ((decide (r1.2.1 < (0 : Int))), ())))))

def S_cbor_smaller : FSpec T := ⟨[.f (.v (.rs 0)), .f (.v (.rs 0))], [(.v .bool)], fun x => cbor_smaller x.1 x.2.1⟩

theorem cbor_smaller_ok : SoundT Tryz.prog cd gdn 102 S_cbor_smaller :=
  sndC hmix o59 (lcA [] [] []) Tryz.func102 done_nil (by kernel_rfl) (by kernel_rfl) fun x => by kernel_rfl

def c60 : List (Ct T) := ⟨102, none, S_cbor_smaller, true⟩ :: c59
theorem o60 : EnvOk Tryz.prog (mE c60) := eCons cbor_smaller_ok o59

abbrev Y_cbor_walk_step_L0 := (((List (CborFrame)) × Int × Unit) × Int × Unit)
abbrev Z_cbor_walk_step_L0 := (((List (CborFrame)) × Int × Unit) × Unit)

def cbor_walk_step_L0b (y0 : ((List (CborFrame)) × Int × Unit)) (y1 : Int) : Option (Y_cbor_walk_step_L0 ⊕ Z_cbor_walk_step_L0) :=
 (bif (decide ((0 : Int) < y1)) then (bif (decide ((0 : Int) ≤ (IntKind.wrap .i64 (y1 - (1 : Int)))) && decide ((IntKind.wrap .i64 (y1 - (1 : Int))) < ((y0.1).length : Int))) then (((y0.1)[((IntKind.wrap .i64 (y1 - (1 : Int)))).toNat]?).bind fun x10 => (bif (decide (x10.left = (0 : Int))) then (bif (decide ((0 : Int) ≤ (IntKind.wrap .i64 (y1 - (1 : Int)))) && decide ((IntKind.wrap .i64 (y1 - (1 : Int))) ≤ ((y0.1).length : Int))) then (bif decide (((IntKind.wrap .i64 (y1 - (1 : Int)))).toNat ≤ (y0.1).length) then (some (Sum.inl (((List.take ((IntKind.wrap .i64 (y1 - (1 : Int)))).toNat y0.1), y0.2.1, ()), (IntKind.wrap .i64 (y1 - (1 : Int))), ())))
 else none)
 else none)
 else (some (Sum.inr ((y0.1, y0.2.1, ()), ())))))
 else none)
 else (some (Sum.inr ((y0.1, y0.2.1, ()), ()))))

def cbor_walk_step_L0 (y : Y_cbor_walk_step_L0) : Option Z_cbor_walk_step_L0 := iter (fun (y : Y_cbor_walk_step_L0) => cbor_walk_step_L0b y.1 y.2.1) rounds y

def cbor_walk_step (a0 : ((List (CborFrame)) × Int × Unit)) (a1 : ApiItem) : Option ((((List (CborFrame)) × Int × Unit) × Unit) × (Unit)) :=
 ((bif (decide ((0 : Int) < ((a0.1).length : Int))) then (bif (decide ((0 : Int) ≤ (IntKind.wrap .i64 (((a0.1).length : Int) - (1 : Int)))) && decide ((IntKind.wrap .i64 (((a0.1).length : Int) - (1 : Int))) < ((a0.1).length : Int))) then (((a0.1)[((IntKind.wrap .i64 (((a0.1).length : Int) - (1 : Int)))).toNat]?).bind fun x1 => (bif (decide ((0 : Int) ≤ (IntKind.wrap .i64 (((a0.1).length : Int) - (1 : Int)))) && decide ((IntKind.wrap .i64 (((a0.1).length : Int) - (1 : Int))) < ((a0.1).length : Int))) then (((a0.1)[((IntKind.wrap .i64 (((a0.1).length : Int) - (1 : Int)))).toNat]?).bind fun x2 => (let v3 : List (CborFrame) := (List.set a0.1 ((IntKind.wrap .i64 (((a0.1).length : Int) - (1 : Int)))).toNat (⟨x2.pairs, (IntKind.wrap .i64 (x1.left - (1 : Int))), x2.last_⟩ : CborFrame))
 (some ((v3, (IntKind.wrap .i64 (a0.2.1 + (1 : Int))), ()), (a1, ()), ()))))
 else none))
 else none)
 else (some ((a0.1, (IntKind.wrap .i64 (a0.2.1 + (1 : Int))), ()), (a1, ()), ()))).bind (fun (j4 : (((List (CborFrame)) × Int × Unit) × (ApiItem × Unit) × Unit)) => ((bif (decide (j4.2.1.1.kind = (5 : Int))) then (bif (decide ((0#64).toNat < j4.2.1.1.number.toNat)) then (let v5 : List (CborFrame) := ([(⟨false, (IntKind.wrap .i64 (j4.2.1.1.number.toNat : Int)), []⟩ : CborFrame)] : List (CborFrame))
 (bif small ((j4.1.1).length + (v5 : List (CborFrame)).length) 40 then (some (((j4.1.1 ++ v5), j4.1.2.1, ()), (j4.2.1.1, ()), ()))
 else none))
 else (some ((j4.1.1, j4.1.2.1, ()), (j4.2.1.1, ()), ())))
 else (some ((j4.1.1, j4.1.2.1, ()), (j4.2.1.1, ()), ()))).bind (fun (j6 : (((List (CborFrame)) × Int × Unit) × (ApiItem × Unit) × Unit)) => ((bif (decide (j6.2.1.1.kind = (6 : Int))) then (bif (decide ((0#64).toNat < j6.2.1.1.number.toNat)) then (let v7 : Int := (IntKind.wrap .i64 ((2 : Int) * (IntKind.wrap .i64 (j6.2.1.1.number.toNat : Int))))
 (bif small ((j6.1.1).length + (([(⟨true, v7, []⟩ : CborFrame)] : List (CborFrame)) : List (CborFrame)).length) 40 then (let v8 : List (CborFrame) := (j6.1.1 ++ ([(⟨true, v7, []⟩ : CborFrame)] : List (CborFrame)))
 (some ((v8, j6.1.2.1, ()), ())))
 else none))
 else (some ((j6.1.1, j6.1.2.1, ()), ())))
 else (some ((j6.1.1, j6.1.2.1, ()), ()))).bind (fun (j9 : (((List (CborFrame)) × Int × Unit) × Unit)) => ((cbor_walk_step_L0 ((j9.1.1, j9.1.2.1, ()), ((j9.1.1).length : Int), ())).bind (fun (z11 : (((List (CborFrame)) × Int × Unit) × Unit)) => (some (((z11.1.1, z11.1.2.1, ()), ()), ()))))))))))

def S_cbor_walk_step : FSpec T := ⟨[.ptr [(.own 11), (.v (.int .i64))], .f (.v (.agg 1))], [], fun x => cbor_walk_step x.1 x.2.1⟩

def s_cbor_walk_step_L0 : LSpec T := ⟨[(0, .ptr [(.own 11), (.v (.int .i64))]), (5, .f (.v (.int .i64)))], [(.exit 0, [(0, .ptr [(.own 11), (.v (.int .i64))])])], cbor_walk_step_L0, []⟩

def A_cbor_walk_step : Loc2 T := lcA [(0, s_cbor_walk_step_L0)] [(5, [(0, .ptr [(.own 11), (.v (.int .i64))]), (3, .ptr [(.v (.agg 1))])], true), (7, [(0, .ptr [(.own 11), (.v (.int .i64))]), (3, .ptr [(.v (.agg 1))])], true), (9, [(0, .ptr [(.own 11), (.v (.int .i64))])], true)] [6, 8]

theorem cbor_walk_step_L0_ok : LoopOk Tryz.prog (mE c60) Tryz.f103.ntmps (kqOf S_cbor_walk_step.ps 0) (loopAt 0 (bodyOf Tryz.f103)) s_cbor_walk_step_L0 :=
  lpC hmix o60 A_cbor_walk_step done_nil 0 (st := fun y => cbor_walk_step_L0b y.1 y.2.1) (fun _ => rfl) (by kernel_rfl) (by kernel_rfl) fun x => by kernel_rfl

theorem cbor_walk_step_ok : SoundT Tryz.prog cd gdn 103 S_cbor_walk_step :=
  sndC hmix o60 A_cbor_walk_step Tryz.func103 (done_cons rfl cbor_walk_step_L0_ok done_nil) (by kernel_rfl) (by kernel_rfl) fun x => by kernel_rfl

def c61 : List (Ct T) := ⟨103, none, S_cbor_walk_step, false⟩ :: c60
theorem o61 : EnvOk Tryz.prog (mE c61) := eCons cbor_walk_step_ok o60

def cbor_walk_accept (a0 : ((List (CborFrame)) × Int × Unit)) (a1 : ApiItem) : Option ((((List (CborFrame)) × Int × Unit) × Unit) × (Int × Unit)) :=
 (bif (decide (a1.kind = (4 : Int))) then ((utf8_ValidString a1.data).bind fun r1 => (bif (!r1.2.1) then (some (((a0.1, a0.2.1, ()), ()), ((6 : Int), ())))
 else ((cbor_walk_atKey (⟨a0.1, a0.2.1⟩ : CborWalk)).bind fun r2 => (bif r2.2.1 then (bif (decide ((0 : Int) ≤ (IntKind.wrap .i64 (((a0.1).length : Int) - (1 : Int)))) && decide ((IntKind.wrap .i64 (((a0.1).length : Int) - (1 : Int))) < ((a0.1).length : Int))) then ((cbor_appendItem [] a1).bind fun r3 => (((a0.1)[((IntKind.wrap .i64 (((a0.1).length : Int) - (1 : Int)))).toNat]?).bind fun x4 => (bif (!(x4.last_).isEmpty) then (((a0.1)[((IntKind.wrap .i64 (((a0.1).length : Int) - (1 : Int)))).toNat]?).bind fun x5 => ((cbor_smaller x5.last_ r3.2.1).bind fun r6 => (bif (!r6.2.1) then (some (((a0.1, a0.2.1, ()), ()), ((7 : Int), ())))
 else (((a0.1)[((IntKind.wrap .i64 (((a0.1).length : Int) - (1 : Int)))).toNat]?).bind fun x7 => (bif (r3.2.1).isEmpty then none
 else (let v8 : List (CborFrame) := (List.set a0.1 ((IntKind.wrap .i64 (((a0.1).length : Int) - (1 : Int)))).toNat (⟨x7.pairs, x7.left, r3.2.1⟩ : CborFrame))
 ((cbor_walk_step (v8, a0.2.1, ()) a1).bind fun r9 => (some (((r9.1.1.1, r9.1.1.2.1, ()), ()), ((0 : Int), ()))))))))))
 else (((a0.1)[((IntKind.wrap .i64 (((a0.1).length : Int) - (1 : Int)))).toNat]?).bind fun x10 => (bif (r3.2.1).isEmpty then none
 else (let v11 : List (CborFrame) := (List.set a0.1 ((IntKind.wrap .i64 (((a0.1).length : Int) - (1 : Int)))).toNat (⟨x10.pairs, x10.left, r3.2.1⟩ : CborFrame))
 ((cbor_walk_step (v11, a0.2.1, ()) a1).bind fun r12 => (some (((r12.1.1.1, r12.1.1.2.1, ()), ()), ((0 : Int), ()))))))))))
 else none)
 else ((cbor_walk_step (a0.1, a0.2.1, ()) a1).bind fun r13 => (some (((r13.1.1.1, r13.1.1.2.1, ()), ()), ((0 : Int), ()))))))))
 else ((cbor_walk_atKey (⟨a0.1, a0.2.1⟩ : CborWalk)).bind fun r14 => (bif r14.2.1 then (bif (decide ((0 : Int) ≤ (IntKind.wrap .i64 (((a0.1).length : Int) - (1 : Int)))) && decide ((IntKind.wrap .i64 (((a0.1).length : Int) - (1 : Int))) < ((a0.1).length : Int))) then ((cbor_appendItem [] a1).bind fun r15 => (((a0.1)[((IntKind.wrap .i64 (((a0.1).length : Int) - (1 : Int)))).toNat]?).bind fun x16 => (bif (!(x16.last_).isEmpty) then (((a0.1)[((IntKind.wrap .i64 (((a0.1).length : Int) - (1 : Int)))).toNat]?).bind fun x17 => ((cbor_smaller x17.last_ r15.2.1).bind fun r18 => (bif (!r18.2.1) then (some (((a0.1, a0.2.1, ()), ()), ((7 : Int), ())))
 else (((a0.1)[((IntKind.wrap .i64 (((a0.1).length : Int) - (1 : Int)))).toNat]?).bind fun x19 => (bif (r15.2.1).isEmpty then none
 else (let v20 : List (CborFrame) := (List.set a0.1 ((IntKind.wrap .i64 (((a0.1).length : Int) - (1 : Int)))).toNat (⟨x19.pairs, x19.left, r15.2.1⟩ : CborFrame))
 ((cbor_walk_step (v20, a0.2.1, ()) a1).bind fun r21 => (some (((r21.1.1.1, r21.1.1.2.1, ()), ()), ((0 : Int), ()))))))))))
 else (((a0.1)[((IntKind.wrap .i64 (((a0.1).length : Int) - (1 : Int)))).toNat]?).bind fun x22 => (bif (r15.2.1).isEmpty then none
 else (let v23 : List (CborFrame) := (List.set a0.1 ((IntKind.wrap .i64 (((a0.1).length : Int) - (1 : Int)))).toNat (⟨x22.pairs, x22.left, r15.2.1⟩ : CborFrame))
 ((cbor_walk_step (v23, a0.2.1, ()) a1).bind fun r24 => (some (((r24.1.1.1, r24.1.1.2.1, ()), ()), ((0 : Int), ()))))))))))
 else none)
 else ((cbor_walk_step (a0.1, a0.2.1, ()) a1).bind fun r25 => (some (((r25.1.1.1, r25.1.1.2.1, ()), ()), ((0 : Int), ())))))))

def S_cbor_walk_accept : FSpec T := ⟨[.ptr [(.own 11), (.v (.int .i64))], .f (.v (.agg 1))], [(.v (.int .i64))], fun x => cbor_walk_accept x.1 x.2.1⟩

theorem cbor_walk_accept_ok : SoundT Tryz.prog cd gdn 84 S_cbor_walk_accept :=
  sndC hmix o61 (lcA [] [] []) Tryz.func84 done_nil (by kernel_rfl) (by kernel_rfl) fun x => by kernel_rfl

def c62 : List (Ct T) := ⟨84, none, S_cbor_walk_accept, false⟩ :: c61
theorem o62 : EnvOk Tryz.prog (mE c62) := eCons cbor_walk_accept_ok o61

def cbor_checker_item (a0 : ((List (CborFrame)) × Int × Unit)) (a1 : ApiItem) : Option ((((List (CborFrame)) × Int × Unit) × Unit) × (Int × Unit)) :=
 ((cbor_walk_done (⟨a0.1, a0.2.1⟩ : CborWalk)).bind fun r1 => (bif r1.2.1 then (some (((a0.1, a0.2.1, ()), ()), ((2 : Int), ())))
 else ((cbor_walk_admit (⟨a0.1, a0.2.1⟩ : CborWalk) a1.kind).bind fun r2 => (bif (!decide (r2.2.1 = (0 : Int))) then (some (((a0.1, a0.2.1, ()), ()), (r2.2.1, ())))
 else ((cbor_shaped a1).bind fun r3 => (bif (!r3.2.1) then (some (((a0.1, a0.2.1, ()), ()), ((4 : Int), ())))
 else (bif (decide ((1024 : Int) < ((a1.data).length : Int))) then (some (((a0.1, a0.2.1, ()), ()), ((8 : Int), ())))
 else (bif (decide (a1.kind = (5 : Int))) then (bif (decide ((512#64).toNat < a1.number.toNat)) then (some (((a0.1, a0.2.1, ()), ()), ((8 : Int), ())))
 else ((cbor_walk_accept (a0.1, a0.2.1, ()) a1).bind fun r4 => (some (((r4.1.1.1, r4.1.1.2.1, ()), ()), (r4.2.1, ())))))
 else (bif (decide (a1.kind = (6 : Int))) then (bif (decide ((512#64).toNat < a1.number.toNat)) then (some (((a0.1, a0.2.1, ()), ()), ((8 : Int), ())))
 else ((cbor_walk_accept (a0.1, a0.2.1, ()) a1).bind fun r5 => (some (((r5.1.1.1, r5.1.1.2.1, ()), ()), (r5.2.1, ())))))
 else ((cbor_walk_accept (a0.1, a0.2.1, ()) a1).bind fun r6 => (some (((r6.1.1.1, r6.1.1.2.1, ()), ()), (r6.2.1, ())))))))))))))

def S_cbor_checker_item : FSpec T := ⟨[.ptr [(.own 11), (.v (.int .i64))], .f (.v (.agg 1))], [(.v (.int .i64))], fun x => cbor_checker_item x.1 x.2.1⟩

theorem cbor_checker_item_ok : SoundT Tryz.prog cd gdn 95 S_cbor_checker_item :=
  sndC hmix o62 (lcA [] [] []) Tryz.func95 done_nil (by kernel_rfl) (by kernel_rfl) fun x => by kernel_rfl

def c63 : List (Ct T) := ⟨95, none, S_cbor_checker_item, false⟩ :: c62
theorem o63 : EnvOk Tryz.prog (mE c63) := eCons cbor_checker_item_ok o62

abbrev Y_cbor_Validate_L0 := (((List (CborFrame)) × Int × Unit) × (List (ApiItem)) × Int × Int × Unit)
abbrev Z_cbor_Validate_L0 := ((Int × Unit) ⊕ (((List (CborFrame)) × Int × Unit) × Unit))

def cbor_Validate_L0b (y0 : ((List (CborFrame)) × Int × Unit)) (y1 : (List (ApiItem))) (y2 : Int) (y3 : Int) : Option (Y_cbor_Validate_L0 ⊕ Z_cbor_Validate_L0) :=
 (bif (decide (y3 < y2)) then ((getI y1 y3).bind fun x1 => ((cbor_checker_item (y0.1, y0.2.1, ()) x1).bind fun r2 => (bif (!decide (r2.2.1 = (0 : Int))) then (some (Sum.inr (Sum.inl (r2.2.1, ()))))
 else (some (Sum.inl ((r2.1.1.1, r2.1.1.2.1, ()), y1, y2, (IntKind.wrap .i64 (y3 + (1 : Int))), ()))))))
 else (some (Sum.inr (Sum.inr ((y0.1, y0.2.1, ()), ())))))

def cbor_Validate_L0 (y : Y_cbor_Validate_L0) : Option Z_cbor_Validate_L0 := iter (fun (y : Y_cbor_Validate_L0) => cbor_Validate_L0b y.1 y.2.1 y.2.2.1 y.2.2.2.1) rounds y

def cbor_Validate (a0 : (List (ApiItem))) : Option ((Unit) × (Int × Unit)) :=
 ((cbor_Validate_L0 (([], (0 : Int), ()), a0, ((a0).length : Int), (0 : Int), ())).bind (Sum.elim (fun (z3 : (Int × Unit)) => (some ((), (z3.1, ())))) (fun (z4 : (((List (CborFrame)) × Int × Unit) × Unit)) => ((cbor_walk_done (⟨z4.1.1, z4.1.2.1⟩ : CborWalk)).bind fun r5 => (bif (!r5.2.1) then (some ((), ((1 : Int), ())))
 else (some ((), ((0 : Int), ()))))))))

def S_cbor_Validate : FSpec T := ⟨[.f (.v (.rs 1))], [(.v (.int .i64))], fun x => cbor_Validate x.1⟩

def s_cbor_Validate_L0 : LSpec T := ⟨[(3, .ptr [(.own 11), (.v (.int .i64))]), (7, .f (.v (.rs 1))), (8, .f (.v (.int .i64))), (9, .f (.v (.int .i64)))], [(.ret, [(2, .f (.v (.int .i64)))]), (.exit 0, [(3, .ptr [(.own 11), (.v (.int .i64))])])], cbor_Validate_L0, []⟩

def A_cbor_Validate : Loc2 T := lcA [(0, s_cbor_Validate_L0)] [] []

theorem cbor_Validate_L0_ok : LoopOk Tryz.prog (mE c63) Tryz.f78.ntmps (kqOf S_cbor_Validate.ps 0) (loopAt 0 (bodyOf Tryz.f78)) s_cbor_Validate_L0 :=
  lpC hmix o63 A_cbor_Validate done_nil 0 (st := fun y => cbor_Validate_L0b y.1 y.2.1 y.2.2.1 y.2.2.2.1) (fun _ => rfl) (by kernel_rfl) (by kernel_rfl) fun x => by kernel_rfl

theorem cbor_Validate_ok : SoundT Tryz.prog cd gdn 78 S_cbor_Validate :=
  sndC hmix o63 A_cbor_Validate Tryz.func78 (done_cons rfl cbor_Validate_L0_ok done_nil) (by kernel_rfl) (by kernel_rfl) fun x => by kernel_rfl

def c64 : List (Ct T) := ⟨78, none, S_cbor_Validate, true⟩ :: c63
theorem o64 : EnvOk Tryz.prog (mE c64) := eCons cbor_Validate_ok o63

abbrev Y_cbor_faulty_L0 := ((List (List ApiItem)) × Int × Int × Unit)
abbrev Z_cbor_faulty_L0 := ((Int × Unit) ⊕ (Unit))

def cbor_faulty_L0b (y0 : (List (List ApiItem))) (y1 : Int) (y2 : Int) : Option (Y_cbor_faulty_L0 ⊕ Z_cbor_faulty_L0) :=
 (bif (decide (y2 < y1)) then ((getI y0 y2).bind fun x1 => ((cbor_Validate x1).bind fun r2 => (bif (!decide (r2.2.1 = (0 : Int))) then (some (Sum.inr (Sum.inl (r2.2.1, ()))))
 else (some (Sum.inl (y0, y1, (IntKind.wrap .i64 (y2 + (1 : Int))), ()))))))
 else (some (Sum.inr (Sum.inr ()))))

def cbor_faulty_L0 (y : Y_cbor_faulty_L0) : Option Z_cbor_faulty_L0 := iter (fun (y : Y_cbor_faulty_L0) => cbor_faulty_L0b y.1 y.2.1 y.2.2.1) rounds y

def cbor_faulty (a0 : (List (List ApiItem))) : Option ((Unit) × (Int × Unit)) :=
 ((cbor_faulty_L0 (a0, ((a0).length : Int), (0 : Int), ())).bind (Sum.elim (fun (z3 : (Int × Unit)) => (some ((), (z3.1, ())))) (fun (z4 : (Unit)) => (some ((), ((0 : Int), ()))))))

def S_cbor_faulty : FSpec T := ⟨[.f (.v (.rs 9))], [(.v (.int .i64))], fun x => cbor_faulty x.1⟩

def s_cbor_faulty_L0 : LSpec T := ⟨[(6, .f (.v (.rs 9))), (7, .f (.v (.int .i64))), (8, .f (.v (.int .i64)))], [(.ret, [(2, .f (.v (.int .i64)))]), (.exit 0, [])], cbor_faulty_L0, []⟩

def A_cbor_faulty : Loc2 T := lcA [(0, s_cbor_faulty_L0)] [] []

theorem cbor_faulty_L0_ok : LoopOk Tryz.prog (mE c64) Tryz.f76.ntmps (kqOf S_cbor_faulty.ps 0) (loopAt 0 (bodyOf Tryz.f76)) s_cbor_faulty_L0 :=
  lpC hmix o64 A_cbor_faulty done_nil 0 (st := fun y => cbor_faulty_L0b y.1 y.2.1 y.2.2.1) (fun _ => rfl) (by kernel_rfl) (by kernel_rfl) fun x => by kernel_rfl

theorem cbor_faulty_ok : SoundT Tryz.prog cd gdn 76 S_cbor_faulty :=
  sndC hmix o64 A_cbor_faulty Tryz.func76 (done_cons rfl cbor_faulty_L0_ok done_nil) (by kernel_rfl) (by kernel_rfl) fun x => by kernel_rfl

def c65 : List (Ct T) := ⟨76, none, S_cbor_faulty, true⟩ :: c64
theorem o65 : EnvOk Tryz.prog (mE c65) := eCons cbor_faulty_ok o64

def cbor_checked (a0 : (List (ApiItem))) : Option ((Unit) × ((List (ApiItem)) × Int × Unit)) :=
 ((cbor_Validate a0).bind fun r1 => (bif (!decide (r1.2.1 = (0 : Int))) then (some ((), ([], r1.2.1, ())))
 else (some ((), (a0, (0 : Int), ())))))

def S_cbor_checked : FSpec T := ⟨[.f (.v (.rs 1))], [(.v (.rs 1)), (.v (.int .i64))], fun x => cbor_checked x.1⟩

theorem cbor_checked_ok : SoundT Tryz.prog cd gdn 77 S_cbor_checked :=
  sndC hmix o65 (lcA [] [] []) Tryz.func77 done_nil (by kernel_rfl) (by kernel_rfl) fun x => by kernel_rfl

def c66 : List (Ct T) := ⟨77, none, S_cbor_checked, false⟩ :: c65
theorem o66 : EnvOk Tryz.prog (mE c66) := eCons cbor_checked_ok o65

abbrev Y_cbor_Map_L0 := ((List (List ApiItem)) × (List (BitVec 64)) × (List (Int)) × Int × Int × Unit)
abbrev Z_cbor_Map_L0 := ((List (List ApiItem)) × (List (BitVec 64)) × (List (Int)) × Unit)

def cbor_Map_L0b (y0 : (List (List ApiItem))) (y1 : (List (BitVec 64))) (y2 : (List (Int))) (y3 : Int) (y4 : Int) : Option (Y_cbor_Map_L0 ⊕ Z_cbor_Map_L0) :=
 (bif (decide (y4 < y3)) then (bif (decide ((0 : Int) ≤ y4) && decide (y4 < ((y2).length : Int))) then (((y2)[(y4).toNat]?).bind fun x2 => (some (Sum.inl (y0, y1, (List.set y2 (y4).toNat y4), y3, (IntKind.wrap .i64 (y4 + (1 : Int))), ()))))
 else none)
 else (some (Sum.inr (y0, y1, y2, ()))))

def cbor_Map_L0 (y : Y_cbor_Map_L0) : Option Z_cbor_Map_L0 := iter (fun (y : Y_cbor_Map_L0) => cbor_Map_L0b y.1 y.2.1 y.2.2.1 y.2.2.2.1 y.2.2.2.2.1) rounds y

abbrev Y_cbor_Map_L2 := ((List (List ApiItem)) × (List (BitVec 64)) × (List (Int)) × Int × Unit)
abbrev Z_cbor_Map_L2 := (((List (ApiItem)) × Int × Unit) ⊕ ((List (List ApiItem)) × (List (BitVec 64)) × (List (Int)) × Unit))

def cbor_Map_L2b (y0 : (List (List ApiItem))) (y1 : (List (BitVec 64))) (y2 : (List (Int))) (y3 : Int) : Option (Y_cbor_Map_L2 ⊕ Z_cbor_Map_L2) :=
 (bif (decide (y3 < ((y2).length : Int))) then (bif (decide ((0 : Int) ≤ (IntKind.wrap .i64 (y3 - (1 : Int)))) && decide ((IntKind.wrap .i64 (y3 - (1 : Int))) < ((y2).length : Int))) then (((y2)[((IntKind.wrap .i64 (y3 - (1 : Int)))).toNat]?).bind fun x5 => ((getI y1 x5).bind fun x6 => (bif (decide ((0 : Int) ≤ y3) && decide (y3 < ((y2).length : Int))) then (((y2)[(y3).toNat]?).bind fun x7 => ((getI y1 x7).bind fun x8 => (bif (decide (x6 = x8)) then (some (Sum.inr (Sum.inl ([], (10 : Int), ()))))
 else (some (Sum.inl (y0, y1, y2, (IntKind.wrap .i64 (y3 + (1 : Int))), ()))))))
 else none)))
 else none)
 else (some (Sum.inr (Sum.inr (y0, y1, y2, ())))))

def cbor_Map_L2 (y : Y_cbor_Map_L2) : Option Z_cbor_Map_L2 := iter (fun (y : Y_cbor_Map_L2) => cbor_Map_L2b y.1 y.2.1 y.2.2.1 y.2.2.2.1) rounds y

abbrev Y_cbor_Map_L4 := ((List (List ApiItem)) × (List (BitVec 64)) × (List (ApiItem)) × (List (Int)) × Int × Int × Unit)
abbrev Z_cbor_Map_L4 := ((List (ApiItem)) × Unit)

def cbor_Map_L4b (y0 : (List (List ApiItem))) (y1 : (List (BitVec 64))) (y2 : (List (ApiItem))) (y3 : (List (Int))) (y4 : Int) (y5 : Int) : Option (Y_cbor_Map_L4 ⊕ Z_cbor_Map_L4) :=
 (bif (decide (y5 < y4)) then (bif (decide ((0 : Int) ≤ y5) && decide (y5 < ((y3).length : Int))) then (((y3)[(y5).toNat]?).bind fun x13 => (bif (decide ((512 : Int) < ((y2).length : Int))) then (some (Sum.inr (y2, ())))
 else ((getI y1 x13).bind fun x14 => ((cbor_Uint x14).bind fun r15 => (bif small ((y2).length + (r15.2.1 : List (ApiItem)).length) 32 then ((getI y0 x13).bind fun x16 => (bif small (((y2 ++ r15.2.1)).length + (x16 : List (ApiItem)).length) 32 then (some (Sum.inl (y0, y1, ((y2 ++ r15.2.1) ++ x16), y3, y4, (IntKind.wrap .i64 (y5 + (1 : Int))), ())))
 else none))
 else none)))))
 else none)
 else (some (Sum.inr (y2, ()))))

def cbor_Map_L4 (y : Y_cbor_Map_L4) : Option Z_cbor_Map_L4 := iter (fun (y : Y_cbor_Map_L4) => cbor_Map_L4b y.1 y.2.1 y.2.2.1 y.2.2.2.1 y.2.2.2.2.1 y.2.2.2.2.2.1) rounds y

def cbor_Map (a0 : (List (BitVec 64))) (a1 : (List (List ApiItem))) : Option ((Unit) × ((List (ApiItem)) × Int × Unit)) :=
 (bif (!decide (((a0).length : Int) = ((a1).length : Int))) then (some ((), ([], (4 : Int), ())))
 else (bif (decide ((0 : Int) ≤ ((a0).length : Int)) && (decide (((a0).length : Int) ≤ ((a0).length : Int)) && decide ((8 : Int) * ((a0).length : Int) ≤ 281474976710656 ∧ ((a0).length : Int) ≤ 9223372036854775807))) then (let v1 : List (Int) := (List.replicate (((a0).length : Int)).toNat (0 : Int))
 ((cbor_Map_L0 (a1, a0, v1, ((((a0).length : Int)).toNat : Int), (0 : Int), ())).bind (fun (z3 : ((List (List ApiItem)) × (List (BitVec 64)) × (List (Int)) × Unit)) => ((slices_SortFunc_int_int z3.2.2.1 (z3.2.1, ())).bind fun r4 => ((cbor_Map_L2 (z3.1, z3.2.1, r4.1.1, (1 : Int), ())).bind (Sum.elim (fun (z9 : ((List (ApiItem)) × Int × Unit)) => (some ((), (z9.1, z9.2.1, ())))) (fun (z10 : ((List (List ApiItem)) × (List (BitVec 64)) × (List (Int)) × Unit)) => ((cbor_faulty z10.1).bind fun r11 => (bif (!decide (r11.2.1 = (0 : Int))) then (some ((), ([], r11.2.1, ())))
 else (let v12 : List (ApiItem) := ([(⟨(6 : Int), (BitVec.ofInt 64 ((z10.2.1).length : Int)), ([] : List UInt8)⟩ : ApiItem)] : List (ApiItem))
 ((cbor_Map_L4 (z10.1, z10.2.1, v12, z10.2.2.1, ((z10.2.2.1).length : Int), (0 : Int), ())).bind (fun (z17 : ((List (ApiItem)) × Unit)) => ((cbor_checked z17.1).bind fun r18 => (some ((), (r18.2.1, r18.2.2.1, ()))))))))))))))))
 else none))

def S_cbor_Map : FSpec T := ⟨[.f (.v (.rs 2)), .f (.v (.rs 9))], [(.v (.rs 1)), (.v (.int .i64))], fun x => cbor_Map x.1 x.2.1⟩

def s_cbor_Map_L0 : LSpec T := ⟨[(1, .f (.v (.rs 9))), (2, .f (.v (.ref (.rs 2)))), (6, .f (.own 10)), (22, .f (.v (.int .i64))), (23, .f (.v (.int .i64)))], [(.exit 0, [(1, .f (.v (.rs 9))), (2, .f (.v (.ref (.rs 2)))), (6, .f (.own 10))])], cbor_Map_L0, []⟩

def s_cbor_Map_L2 : LSpec T := ⟨[(1, .f (.v (.rs 9))), (2, .f (.v (.ref (.rs 2)))), (6, .f (.own 10)), (8, .f (.v (.int .i64)))], [(.ret, [(4, .f (.own 1)), (5, .f (.v (.int .i64)))]), (.exit 2, [(1, .f (.v (.rs 9))), (2, .f (.v (.ref (.rs 2)))), (6, .f (.own 10))])], cbor_Map_L2, []⟩

def s_cbor_Map_L4 : LSpec T := ⟨[(1, .f (.v (.rs 9))), (2, .f (.v (.ref (.rs 2)))), (10, .f (.own 1)), (66, .f (.own 10)), (67, .f (.v (.int .i64))), (68, .f (.v (.int .i64)))], [(.exit 4, [(10, .f (.own 1))])], cbor_Map_L4, []⟩

def A_cbor_Map : Loc2 T := lcA [(0, s_cbor_Map_L0), (2, s_cbor_Map_L2), (4, s_cbor_Map_L4)] [] []

theorem cbor_Map_L0_ok : LoopOk Tryz.prog (mE c66) Tryz.f41.ntmps (kqOf S_cbor_Map.ps 0) (loopAt 0 (bodyOf Tryz.f41)) s_cbor_Map_L0 :=
  lpC hmix o66 A_cbor_Map done_nil 0 (st := fun y => cbor_Map_L0b y.1 y.2.1 y.2.2.1 y.2.2.2.1 y.2.2.2.2.1) (fun _ => rfl) (by kernel_rfl) (by kernel_rfl) fun x => by kernel_rfl

theorem cbor_Map_L2_ok : LoopOk Tryz.prog (mE c66) Tryz.f41.ntmps (kqOf S_cbor_Map.ps 0) (loopAt 2 (bodyOf Tryz.f41)) s_cbor_Map_L2 :=
  lpC hmix o66 A_cbor_Map (done_cons rfl cbor_Map_L0_ok done_nil) 2 (st := fun y => cbor_Map_L2b y.1 y.2.1 y.2.2.1 y.2.2.2.1) (fun _ => rfl) (by kernel_rfl) (by kernel_rfl) fun x => by kernel_rfl

theorem cbor_Map_L4_ok : LoopOk Tryz.prog (mE c66) Tryz.f41.ntmps (kqOf S_cbor_Map.ps 0) (loopAt 4 (bodyOf Tryz.f41)) s_cbor_Map_L4 :=
  lpC hmix o66 A_cbor_Map (done_cons rfl cbor_Map_L0_ok (done_cons rfl cbor_Map_L2_ok done_nil)) 4 (st := fun y => cbor_Map_L4b y.1 y.2.1 y.2.2.1 y.2.2.2.1 y.2.2.2.2.1 y.2.2.2.2.2.1) (fun _ => rfl) (by kernel_rfl) (by kernel_rfl) fun x => by kernel_rfl

theorem cbor_Map_ok : SoundT Tryz.prog cd gdn 41 S_cbor_Map :=
  sndC hmix o66 A_cbor_Map Tryz.func41 (done_cons rfl cbor_Map_L0_ok (done_cons rfl cbor_Map_L2_ok (done_cons rfl cbor_Map_L4_ok done_nil))) (by kernel_rfl) (by kernel_rfl) fun x => by kernel_rfl

def c67 : List (Ct T) := ⟨41, none, S_cbor_Map, false⟩ :: c66
theorem o67 : EnvOk Tryz.prog (mE c67) := eCons cbor_Map_ok o66

abbrev Y_cbor_Encode_L0 := ((List (UInt8)) × (List (ApiItem)) × Int × Int × Unit)
abbrev Z_cbor_Encode_L0 := ((List (UInt8)) × Unit)

def cbor_Encode_L0b (y0 : (List (UInt8))) (y1 : (List (ApiItem))) (y2 : Int) (y3 : Int) : Option (Y_cbor_Encode_L0 ⊕ Z_cbor_Encode_L0) :=
 (bif (decide (y3 < y2)) then ((getI y1 y3).bind fun x2 => ((cbor_appendItem y0 x2).bind fun r3 => (some (Sum.inl (r3.2.1, y1, y2, (IntKind.wrap .i64 (y3 + (1 : Int))), ())))))
 else (some (Sum.inr (y0, ()))))

def cbor_Encode_L0 (y : Y_cbor_Encode_L0) : Option Z_cbor_Encode_L0 := iter (fun (y : Y_cbor_Encode_L0) => cbor_Encode_L0b y.1 y.2.1 y.2.2.1 y.2.2.2.1) rounds y

def cbor_Encode (a0 : (List (ApiItem))) : Option ((Unit) × ((List (UInt8)) × Int × Unit)) :=
 ((cbor_Validate a0).bind fun r1 => (bif (!decide (r1.2.1 = (0 : Int))) then (some ((), ([], r1.2.1, ())))
 else ((cbor_Encode_L0 ([], a0, ((a0).length : Int), (0 : Int), ())).bind (fun (z4 : ((List (UInt8)) × Unit)) => (some ((), (z4.1, (0 : Int), ())))))))

def S_cbor_Encode : FSpec T := ⟨[.f (.v (.rs 1))], [(.own 0), (.v (.int .i64))], fun x => cbor_Encode x.1⟩

def s_cbor_Encode_L0 : LSpec T := ⟨[(5, .f (.own 0)), (13, .f (.v (.rs 1))), (14, .f (.v (.int .i64))), (15, .f (.v (.int .i64)))], [(.exit 0, [(5, .f (.own 0))])], cbor_Encode_L0, []⟩

def A_cbor_Encode : Loc2 T := lcA [(0, s_cbor_Encode_L0)] [] []

theorem cbor_Encode_L0_ok : LoopOk Tryz.prog (mE c67) Tryz.f46.ntmps (kqOf S_cbor_Encode.ps 0) (loopAt 0 (bodyOf Tryz.f46)) s_cbor_Encode_L0 :=
  lpC hmix o67 A_cbor_Encode done_nil 0 (st := fun y => cbor_Encode_L0b y.1 y.2.1 y.2.2.1 y.2.2.2.1) (fun _ => rfl) (by kernel_rfl) (by kernel_rfl) fun x => by kernel_rfl

theorem cbor_Encode_ok : SoundT Tryz.prog cd gdn 46 S_cbor_Encode :=
  sndC hmix o67 A_cbor_Encode Tryz.func46 (done_cons rfl cbor_Encode_L0_ok done_nil) (by kernel_rfl) (by kernel_rfl) fun x => by kernel_rfl

def c68 : List (Ct T) := ⟨46, none, S_cbor_Encode, false⟩ :: c67
theorem o68 : EnvOk Tryz.prog (mE c68) := eCons cbor_Encode_ok o67

def credential_Encode (a0 : ApiCredential) : Option ((Unit) × ((List (UInt8)) × Int × Unit)) :=
 ((credential_Validate a0).bind fun r1 => (bif (!decide (r1.2.1 = (0 : Int))) then (some ((), ([], r1.2.1, ())))
 else (let v2 : List (BitVec 64) := ([1#64, 2#64, 3#64, 4#64, 5#64, 6#64, 7#64, 8#64, 9#64] : List (BitVec 64))
 ((cbor_Text a0.rP).bind fun r3 => ((cbor_Bytes a0.user).bind fun r4 => ((cbor_Text a0.name).bind fun r5 => ((cbor_Uint a0.seed).bind fun r6 => ((cbor_Uint (BitVec.ofInt 64 a0.height)).bind fun r7 => ((cbor_Bool a0.resident).bind fun r8 => ((cbor_Uint (BitVec.ofInt 64 a0.protect)).bind fun r9 => ((cbor_Bool a0.shared).bind fun r10 => ((cbor_Bool a0.backed).bind fun r11 => (let v12 : List (List ApiItem) := ([r3.2.1, r4.2.1, r5.2.1, r6.2.1, r7.2.1, r8.2.1, r9.2.1, r10.2.1, r11.2.1] : List (List ApiItem))
 ((cbor_Map v2 v12).bind fun r13 => (bif (!decide (r13.2.2.1 = (0 : Int))) then (some ((), ([], r13.2.2.1, ())))
 else ((cbor_Encode r13.2.1).bind fun r14 => (some ((), (r14.2.1, r14.2.2.1, ())))))))))))))))))))

def S_credential_Encode : FSpec T := ⟨[.f (.v (.agg 7))], [(.own 0), (.v (.int .i64))], fun x => credential_Encode x.1⟩

theorem credential_Encode_ok : SoundT Tryz.prog cd gdn 25 S_credential_Encode :=
  sndC hmix o68 (lcA [] [] [5]) Tryz.func25 done_nil (by kernel_rfl) (by kernel_rfl) fun x => by kernel_rfl

def c69 : List (Ct T) := ⟨25, none, S_credential_Encode, false⟩ :: c68
theorem o69 : EnvOk Tryz.prog (mE c69) := eCons credential_Encode_ok o68

def digest_Derive (a0 : (BitVec 64)) (a1 : (List UInt8)) (a2 : Int) : Option ((Unit) × ((BitVec 64) × Unit)) :=
 (bif small ((a1).length + (([(0 : UInt8)] : List (UInt8)) : List (UInt8)).length) 1 then ((digest_Words ([(BitVec.ofInt 64 a2)] : List (BitVec 64))).bind fun r1 => (bif small (((a1 ++ ([(0 : UInt8)] : List (UInt8)))).length + (r1.2.1 : List (UInt8)).length) 1 then (let v2 : List (UInt8) := ((a1 ++ ([(0 : UInt8)] : List (UInt8))) ++ r1.2.1)
 ((digest_Mac a0 (4 : Int) v2).bind fun r3 => (some ((), (r3.2.1, ())))))
 else none))
 else none)

def S_digest_Derive : FSpec T := ⟨[.f (.v .u64), .f (.v .str), .f (.v (.int .i64))], [(.v .u64)], fun x => digest_Derive x.1 x.2.1 x.2.2.1⟩

theorem digest_Derive_ok : SoundT Tryz.prog cd gdn 27 S_digest_Derive :=
  sndC hmix o69 (lcA [] [] []) Tryz.func27 done_nil (by kernel_rfl) (by kernel_rfl) fun x => by kernel_rfl

def c70 : List (Ct T) := ⟨27, none, S_digest_Derive, true⟩ :: c69
theorem o70 : EnvOk Tryz.prog (mE c70) := eCons digest_Derive_ok o69

abbrev Y_seal_Stream_L0 := ((BitVec 64) × (BitVec 64) × Int × (List (UInt8)) × (BitVec 64) × Unit)
abbrev Z_seal_Stream_L0 := (Int × (List (UInt8)) × Unit)

def seal_Stream_L0b (y0 : (BitVec 64)) (y1 : (BitVec 64)) (y2 : Int) (y3 : (List (UInt8))) (y4 : (BitVec 64)) : Option (Y_seal_Stream_L0 ⊕ Z_seal_Stream_L0) :=
 (bif (decide (((y3).length : Int) < y2)) then ((digest_Words ([y1, y4] : List (BitVec 64))).bind fun r2 => ((digest_Mac y0 (5 : Int) r2.2.1).bind fun r3 => ((digest_Words ([r3.2.1] : List (BitVec 64))).bind fun r4 => (bif small ((y3).length + (r4.2.1 : List (UInt8)).length) 1 then (some (Sum.inl (y0, y1, y2, (y3 ++ r4.2.1), (y4 + 1#64), ())))
 else none))))
 else (some (Sum.inr (y2, y3, ()))))

def seal_Stream_L0 (y : Y_seal_Stream_L0) : Option Z_seal_Stream_L0 := iter (fun (y : Y_seal_Stream_L0) => seal_Stream_L0b y.1 y.2.1 y.2.2.1 y.2.2.2.1 y.2.2.2.2.1) rounds y

def seal_Stream (a0 : (BitVec 64)) (a1 : (BitVec 64)) (a2 : Int) : Option ((Unit) × ((List (UInt8)) × Unit)) :=
 (let v1 : Int := (bif decide ((1024 : Int) < (bif decide (a2 < (0 : Int)) then (0 : Int) else a2)) then (1024 : Int) else (bif decide (a2 < (0 : Int)) then (0 : Int) else a2))
 (bif (decide ((0 : Int) ≤ (0 : Int)) && (decide ((0 : Int) ≤ (IntKind.wrap .i64 (v1 + (8 : Int)))) && decide ((1 : Int) * (IntKind.wrap .i64 (v1 + (8 : Int))) ≤ 281474976710656 ∧ (IntKind.wrap .i64 (v1 + (8 : Int))) ≤ 9223372036854775807))) then ((seal_Stream_L0 (a0, a1, v1, (List.replicate 0 (0 : UInt8)), 0#64, ())).bind (fun (z5 : (Int × (List (UInt8)) × Unit)) => (bif (decide ((0 : Int) ≤ z5.1) && decide (z5.1 ≤ ((z5.2.1).length : Int))) then (bif decide ((z5.1).toNat ≤ (z5.2.1).length) then (some ((), ((List.take (z5.1).toNat z5.2.1), ())))
 else none)
 else none)))
 else none))

def S_seal_Stream : FSpec T := ⟨[.f (.v .u64), .f (.v .u64), .f (.v (.int .i64))], [(.own 0)], fun x => seal_Stream x.1 x.2.1 x.2.2.1⟩

def s_seal_Stream_L0 : LSpec T := ⟨[(0, .f (.v .u64)), (1, .f (.v .u64)), (2, .f (.v (.int .i64))), (7, .f (.own 0)), (8, .f (.v .u64))], [(.exit 0, [(2, .f (.v (.int .i64))), (7, .f (.own 0))])], seal_Stream_L0, []⟩

def A_seal_Stream : Loc2 T := lcA [(0, s_seal_Stream_L0)] [] []

theorem seal_Stream_L0_ok : LoopOk Tryz.prog (mE c70) Tryz.f26.ntmps (kqOf S_seal_Stream.ps 0) (loopAt 0 (bodyOf Tryz.f26)) s_seal_Stream_L0 :=
  lpC hmix o70 A_seal_Stream done_nil 0 (st := fun y => seal_Stream_L0b y.1 y.2.1 y.2.2.1 y.2.2.2.1 y.2.2.2.2.1) (fun _ => rfl) (by kernel_rfl) (by kernel_rfl) fun x => by kernel_rfl

theorem seal_Stream_ok : SoundT Tryz.prog cd gdn 26 S_seal_Stream :=
  sndC hmix o70 A_seal_Stream Tryz.func26 (done_cons rfl seal_Stream_L0_ok done_nil) (by kernel_rfl) (by kernel_rfl) fun x => by kernel_rfl

def c71 : List (Ct T) := ⟨26, none, S_seal_Stream, false⟩ :: c70
theorem o71 : EnvOk Tryz.prog (mE c71) := eCons seal_Stream_ok o70

def credential_wrapKey (a0 : (BitVec 64)) : Option ((Unit) × ((BitVec 64) × Unit)) :=
 ((digest_Derive a0 ([119, 114, 97, 112] : List UInt8) (0 : Int)).bind fun r1 => (some ((), (r1.2.1, ()))))

def S_credential_wrapKey : FSpec T := ⟨[.f (.v .u64)], [(.v .u64)], fun x => credential_wrapKey x.1⟩

theorem credential_wrapKey_ok : SoundT Tryz.prog cd gdn 29 S_credential_wrapKey :=
  sndC hmix o71 (lcA [] [] []) Tryz.func29 done_nil (by kernel_rfl) (by kernel_rfl) fun x => by kernel_rfl

def c72 : List (Ct T) := ⟨29, none, S_credential_wrapKey, true⟩ :: c71
theorem o72 : EnvOk Tryz.prog (mE c72) := eCons credential_wrapKey_ok o71

def authdata_RPHash (a0 : (List UInt8)) : Option ((Unit) × ((BitVec 64) × Unit)) :=
 ((digest_Hash (9 : Int) a0).bind fun r1 => (some ((), (r1.2.1, ()))))

def S_authdata_RPHash : FSpec T := ⟨[.f (.v .str)], [(.v .u64)], fun x => authdata_RPHash x.1⟩

theorem authdata_RPHash_ok : SoundT Tryz.prog cd gdn 52 S_authdata_RPHash :=
  sndC hmix o72 (lcA [] [] []) Tryz.func52 done_nil (by kernel_rfl) (by kernel_rfl) fun x => by kernel_rfl

def c73 : List (Ct T) := ⟨52, none, S_authdata_RPHash, true⟩ :: c72
theorem o73 : EnvOk Tryz.prog (mE c73) := eCons authdata_RPHash_ok o72

def credential_bound (a0 : (List UInt8)) : Option ((Unit) × ((List (UInt8)) × Unit)) :=
 ((authdata_RPHash a0).bind fun r1 => ((digest_Words ([r1.2.1] : List (BitVec 64))).bind fun r2 => (some ((), (r2.2.1, ())))))

def S_credential_bound : FSpec T := ⟨[.f (.v .str)], [(.own 0)], fun x => credential_bound x.1⟩

theorem credential_bound_ok : SoundT Tryz.prog cd gdn 30 S_credential_bound :=
  sndC hmix o73 (lcA [] [] []) Tryz.func30 done_nil (by kernel_rfl) (by kernel_rfl) fun x => by kernel_rfl

def c74 : List (Ct T) := ⟨30, none, S_credential_bound, false⟩ :: c73
theorem o74 : EnvOk Tryz.prog (mE c74) := eCons credential_bound_ok o73

abbrev Y_seal_mix_L0 := ((List (UInt8)) × (List (UInt8)) × Int × Int × Unit)
abbrev Z_seal_mix_L0 := ((List (UInt8)) × Unit)

def seal_mix_L0b (y0 : (List (UInt8))) (y1 : (List (UInt8))) (y2 : Int) (y3 : Int) : Option (Y_seal_mix_L0 ⊕ Z_seal_mix_L0) :=
 (bif (decide (y3 < y2)) then (bif (decide ((0 : Int) ≤ y3) && decide (y3 < ((y1).length : Int))) then (((y1)[(y3).toNat]?).bind fun x2 => ((getI y0 y3).bind fun x3 => (bif (decide ((0 : Int) ≤ y3) && decide (y3 < ((y1).length : Int))) then (((y1)[(y3).toNat]?).bind fun x4 => (let v5 : List (UInt8) := (List.set y1 (y3).toNat (UInt8.ofBitVec (x2.toBitVec ^^^ x3.toBitVec)))
 (some (Sum.inl (y0, v5, y2, (IntKind.wrap .i64 (y3 + (1 : Int))), ())))))
 else none)))
 else none)
 else (some (Sum.inr (y1, ()))))

def seal_mix_L0 (y : Y_seal_mix_L0) : Option Z_seal_mix_L0 := iter (fun (y : Y_seal_mix_L0) => seal_mix_L0b y.1 y.2.1 y.2.2.1 y.2.2.2.1) rounds y

def seal_mix (a0 : (BitVec 64)) (a1 : (BitVec 64)) (a2 : (List (UInt8))) : Option ((Unit) × ((List (UInt8)) × Unit)) :=
 ((seal_Stream a0 a1 ((a2).length : Int)).bind fun r1 => ((seal_mix_L0 (a2, r1.2.1, ((r1.2.1).length : Int), (0 : Int), ())).bind (fun (z6 : ((List (UInt8)) × Unit)) => (some ((), (z6.1, ()))))))

def S_seal_mix : FSpec T := ⟨[.f (.v .u64), .f (.v .u64), .f (.v (.rs 0))], [(.own 0)], fun x => seal_mix x.1 x.2.1 x.2.2.1⟩

def s_seal_mix_L0 : LSpec T := ⟨[(2, .f (.v (.rs 0))), (7, .f (.own 0)), (15, .f (.v (.int .i64))), (16, .f (.v (.int .i64)))], [(.exit 0, [(7, .f (.own 0))])], seal_mix_L0, []⟩

def A_seal_mix : Loc2 T := lcA [(0, s_seal_mix_L0)] [] []

theorem seal_mix_L0_ok : LoopOk Tryz.prog (mE c74) Tryz.f49.ntmps (kqOf S_seal_mix.ps 0) (loopAt 0 (bodyOf Tryz.f49)) s_seal_mix_L0 :=
  lpC hmix o74 A_seal_mix done_nil 0 (st := fun y => seal_mix_L0b y.1 y.2.1 y.2.2.1 y.2.2.2.1) (fun _ => rfl) (by kernel_rfl) (by kernel_rfl) fun x => by kernel_rfl

theorem seal_mix_ok : SoundT Tryz.prog cd gdn 49 S_seal_mix :=
  sndC hmix o74 A_seal_mix Tryz.func49 (done_cons rfl seal_mix_L0_ok done_nil) (by kernel_rfl) (by kernel_rfl) fun x => by kernel_rfl

def c75 : List (Ct T) := ⟨49, none, S_seal_mix, false⟩ :: c74
theorem o75 : EnvOk Tryz.prog (mE c75) := eCons seal_mix_ok o74

def slices_Grow_byte_byte (a0 : Unit) (a1 : Int) : Option ((Unit) × ((List (UInt8)) × Unit)) :=
 (bif (decide (a1 < (0 : Int))) then none
 else (bif (decide ((0 : Int) < (IntKind.wrap .i64 (a1 - (0 : Int))))) then (bif (decide ((0 : Int) < (IntKind.wrap .i64 (a1 - (0 : Int)))) && (decide ((IntKind.wrap .i64 (a1 - (0 : Int))) ≤ 9223372036854775807) && small ((IntKind.wrap .i64 (a1 - (0 : Int)))).toNat 1)) then (bif decide ((0 : Int) ≤ (((IntKind.wrap .i64 (a1 - (0 : Int)))).toNat : Int)) then (bif decide (0 ≤ ((List.replicate ((IntKind.wrap .i64 (a1 - (0 : Int)))).toNat (0 : UInt8))).length) then (some ((), ((List.take 0 (List.replicate ((IntKind.wrap .i64 (a1 - (0 : Int)))).toNat (0 : UInt8))), ())))
 else none)
 else none)
 else none)
 else (some ((), ([], ())))))

def S_slices_Grow_byte_byte : FSpec T := ⟨[.f (.v .kn), .f (.v (.int .i64))], [(.own 0)], fun x => slices_Grow_byte_byte x.1 x.2.1⟩

theorem slices_Grow_byte_byte_ok : SoundT Tryz.prog cd gdn 81 S_slices_Grow_byte_byte :=
  sndC hmix o75 (lcA [] [] []) Tryz.func81 done_nil (by kernel_rfl) (by kernel_rfl) fun x => by kernel_rfl

def c76 : List (Ct T) := ⟨81, none, S_slices_Grow_byte_byte, false⟩ :: c75
theorem o76 : EnvOk Tryz.prog (mE c76) := eCons slices_Grow_byte_byte_ok o75

abbrev Y_slices_Concat_byte_byte_L0 := ((List (List UInt8)) × Int × (List (List UInt8)) × Int × Int × Unit)
abbrev Z_slices_Concat_byte_byte_L0 := ((List (List UInt8)) × Int × Unit)

def slices_Concat_byte_byte_L0b (y0 : (List (List UInt8))) (y1 : Int) (y2 : (List (List UInt8))) (y3 : Int) (y4 : Int) : Option (Y_slices_Concat_byte_byte_L0 ⊕ Z_slices_Concat_byte_byte_L0) :=
 (bif (decide (y4 < y3)) then ((getI y2 y4).bind fun x1 => (bif (decide ((IntKind.wrap .i64 (y1 + ((x1).length : Int))) < (0 : Int))) then none
 else (some (Sum.inl (y0, (IntKind.wrap .i64 (y1 + ((x1).length : Int))), y2, y3, (IntKind.wrap .i64 (y4 + (1 : Int))), ())))))
 else (some (Sum.inr (y0, y1, ()))))

def slices_Concat_byte_byte_L0 (y : Y_slices_Concat_byte_byte_L0) : Option Z_slices_Concat_byte_byte_L0 := iter (fun (y : Y_slices_Concat_byte_byte_L0) => slices_Concat_byte_byte_L0b y.1 y.2.1 y.2.2.1 y.2.2.2.1 y.2.2.2.2.1) rounds y

abbrev Y_slices_Concat_byte_byte_L2 := ((List (UInt8)) × (List (List UInt8)) × Int × Int × Unit)
abbrev Z_slices_Concat_byte_byte_L2 := ((List (UInt8)) × Unit)

def slices_Concat_byte_byte_L2b (y0 : (List (UInt8))) (y1 : (List (List UInt8))) (y2 : Int) (y3 : Int) : Option (Y_slices_Concat_byte_byte_L2 ⊕ Z_slices_Concat_byte_byte_L2) :=
 (bif (decide (y3 < y2)) then ((getI y1 y3).bind fun x4 => (bif small ((y0).length + (x4 : List (UInt8)).length) 1 then (some (Sum.inl ((y0 ++ x4), y1, y2, (IntKind.wrap .i64 (y3 + (1 : Int))), ())))
 else none))
 else (some (Sum.inr (y0, ()))))

def slices_Concat_byte_byte_L2 (y : Y_slices_Concat_byte_byte_L2) : Option Z_slices_Concat_byte_byte_L2 := iter (fun (y : Y_slices_Concat_byte_byte_L2) => slices_Concat_byte_byte_L2b y.1 y.2.1 y.2.2.1 y.2.2.2.1) rounds y

def slices_Concat_byte_byte (a0 : (List (List UInt8))) : Option ((Unit) × ((List (UInt8)) × Unit)) :=
 ((slices_Concat_byte_byte_L0 (a0, (0 : Int), a0, ((a0).length : Int), (0 : Int), ())).bind (fun (z2 : ((List (List UInt8)) × Int × Unit)) => ((slices_Grow_byte_byte () z2.2.1).bind fun r3 => ((slices_Concat_byte_byte_L2 (r3.2.1, z2.1, ((z2.1).length : Int), (0 : Int), ())).bind (fun (z5 : ((List (UInt8)) × Unit)) => (some ((), (z5.1, ()))))))))

def S_slices_Concat_byte_byte : FSpec T := ⟨[.f (.v (.rs 14))], [(.own 0)], fun x => slices_Concat_byte_byte x.1⟩

def s_slices_Concat_byte_byte_L0 : LSpec T := ⟨[(0, .f (.v (.rs 14))), (3, .f (.v (.int .i64))), (9, .f (.v (.rs 14))), (10, .f (.v (.int .i64))), (11, .f (.v (.int .i64)))], [(.exit 0, [(0, .f (.v (.rs 14))), (3, .f (.v (.int .i64)))])], slices_Concat_byte_byte_L0, []⟩

def s_slices_Concat_byte_byte_L2 : LSpec T := ⟨[(6, .f (.own 0)), (25, .f (.v (.rs 14))), (26, .f (.v (.int .i64))), (27, .f (.v (.int .i64)))], [(.exit 2, [(6, .f (.own 0))])], slices_Concat_byte_byte_L2, []⟩

def A_slices_Concat_byte_byte : Loc2 T := lcA [(0, s_slices_Concat_byte_byte_L0), (2, s_slices_Concat_byte_byte_L2)] [] []

theorem slices_Concat_byte_byte_L0_ok : LoopOk Tryz.prog (mE c76) Tryz.f51.ntmps (kqOf S_slices_Concat_byte_byte.ps 0) (loopAt 0 (bodyOf Tryz.f51)) s_slices_Concat_byte_byte_L0 :=
  lpC hmix o76 A_slices_Concat_byte_byte done_nil 0 (st := fun y => slices_Concat_byte_byte_L0b y.1 y.2.1 y.2.2.1 y.2.2.2.1 y.2.2.2.2.1) (fun _ => rfl) (by kernel_rfl) (by kernel_rfl) fun x => by kernel_rfl

theorem slices_Concat_byte_byte_L2_ok : LoopOk Tryz.prog (mE c76) Tryz.f51.ntmps (kqOf S_slices_Concat_byte_byte.ps 0) (loopAt 2 (bodyOf Tryz.f51)) s_slices_Concat_byte_byte_L2 :=
  lpC hmix o76 A_slices_Concat_byte_byte (done_cons rfl slices_Concat_byte_byte_L0_ok done_nil) 2 (st := fun y => slices_Concat_byte_byte_L2b y.1 y.2.1 y.2.2.1 y.2.2.2.1) (fun _ => rfl) (by kernel_rfl) (by kernel_rfl) fun x => by kernel_rfl

theorem slices_Concat_byte_byte_ok : SoundT Tryz.prog cd gdn 51 S_slices_Concat_byte_byte :=
  sndC hmix o76 A_slices_Concat_byte_byte Tryz.func51 (done_cons rfl slices_Concat_byte_byte_L0_ok (done_cons rfl slices_Concat_byte_byte_L2_ok done_nil)) (by kernel_rfl) (by kernel_rfl) fun x => by kernel_rfl

def c77 : List (Ct T) := ⟨51, none, S_slices_Concat_byte_byte, false⟩ :: c76
theorem o77 : EnvOk Tryz.prog (mE c77) := eCons slices_Concat_byte_byte_ok o76

def seal_tag (a0 : (BitVec 64)) (a1 : (BitVec 64)) (a2 : (List (UInt8))) (a3 : (List (UInt8))) : Option ((Unit) × (Arr8_UInt8 × Unit)) :=
 (let v1 : List (BitVec 64) := ([a1, (BitVec.ofInt 64 ((a2).length : Int))] : List (BitVec 64))
 ((digest_Words v1).bind fun r2 => ((slices_Concat_byte_byte ([r2.2.1, a2, a3] : List (List UInt8))).bind fun r3 => ((digest_Mac a0 (6 : Int) r3.2.1).bind fun r4 => ((digest_Words ([r4.2.1] : List (BitVec 64))).bind fun r5 => (bif decide (8 ≤ (r5.2.1).length) then (((r5.2.1)[0]?).bind fun x6 => (((r5.2.1)[1]?).bind fun x7 => (((r5.2.1)[2]?).bind fun x8 => (((r5.2.1)[3]?).bind fun x9 => (((r5.2.1)[4]?).bind fun x10 => (((r5.2.1)[5]?).bind fun x11 => (((r5.2.1)[6]?).bind fun x12 => (((r5.2.1)[7]?).bind fun x13 => (((([x6, x7, x8, x9, x10, x11, x12, x13] : List (UInt8)))[0]?).bind fun x14 => (((([x6, x7, x8, x9, x10, x11, x12, x13] : List (UInt8)))[1]?).bind fun x15 => (((([x6, x7, x8, x9, x10, x11, x12, x13] : List (UInt8)))[2]?).bind fun x16 => (((([x6, x7, x8, x9, x10, x11, x12, x13] : List (UInt8)))[3]?).bind fun x17 => (((([x6, x7, x8, x9, x10, x11, x12, x13] : List (UInt8)))[4]?).bind fun x18 => (((([x6, x7, x8, x9, x10, x11, x12, x13] : List (UInt8)))[5]?).bind fun x19 => (((([x6, x7, x8, x9, x10, x11, x12, x13] : List (UInt8)))[6]?).bind fun x20 => (((([x6, x7, x8, x9, x10, x11, x12, x13] : List (UInt8)))[7]?).bind fun x21 => (some ((), ((⟨x14, x15, x16, x17, x18, x19, x20, x21⟩ : Arr8_UInt8), ())))))))))))))))))))
 else none))))))

def S_seal_tag : FSpec T := ⟨[.f (.v .u64), .f (.v .u64), .f (.v (.rs 0)), .f (.v (.rs 0))], [(.v (.agg 15))], fun x => seal_tag x.1 x.2.1 x.2.2.1 x.2.2.2.1⟩

theorem seal_tag_ok : SoundT Tryz.prog cd gdn 50 S_seal_tag :=
  sndC hmix o77 (lcA [] [] []) Tryz.func50 done_nil (by kernel_rfl) (by kernel_rfl) fun x => by kernel_rfl

def c78 : List (Ct T) := ⟨50, none, S_seal_tag, true⟩ :: c77
theorem o78 : EnvOk Tryz.prog (mE c78) := eCons seal_tag_ok o77

def seal_Seal (a0 : (BitVec 64)) (a1 : (BitVec 64)) (a2 : (List (UInt8))) (a3 : (List (UInt8))) : Option ((Unit) × ((List (UInt8)) × Int × Unit)) :=
 (bif (decide ((1024 : Int) < ((a3).length : Int))) then (some ((), ([], (8 : Int), ())))
 else (bif (decide ((1024 : Int) < ((a2).length : Int))) then (some ((), ([], (8 : Int), ())))
 else ((seal_mix a0 a1 a3).bind fun r1 => ((seal_tag a0 a1 a2 r1.2.1).bind fun r2 => ((digest_Words ([a1] : List (BitVec 64))).bind fun r3 => (let v4 : List (List UInt8) := ([r3.2.1, r1.2.1, ([r2.2.1.a0, r2.2.1.a1, r2.2.1.a2, r2.2.1.a3, r2.2.1.a4, r2.2.1.a5, r2.2.1.a6, r2.2.1.a7] : List (UInt8))] : List (List UInt8))
 ((slices_Concat_byte_byte v4).bind fun r5 => (some ((), (r5.2.1, (0 : Int), ()))))))))))

def S_seal_Seal : FSpec T := ⟨[.f (.v .u64), .f (.v .u64), .f (.v (.rs 0)), .f (.v (.rs 0))], [(.own 0), (.v (.int .i64))], fun x => seal_Seal x.1 x.2.1 x.2.2.1 x.2.2.2.1⟩

theorem seal_Seal_ok : SoundT Tryz.prog cd gdn 28 S_seal_Seal :=
  sndC hmix o78 (lcA [] [] [5]) Tryz.func28 done_nil (by kernel_rfl) (by kernel_rfl) fun x => by kernel_rfl

def c79 : List (Ct T) := ⟨28, none, S_seal_Seal, false⟩ :: c78
theorem o79 : EnvOk Tryz.prog (mE c79) := eCons seal_Seal_ok o78

def credential_ID (a0 : (BitVec 64)) (a1 : (BitVec 64)) (a2 : ApiCredential) : Option ((Unit) × ((List (UInt8)) × Int × Unit)) :=
 ((credential_Encode a2).bind fun r1 => (bif (!decide (r1.2.2.1 = (0 : Int))) then (some ((), ([], r1.2.2.1, ())))
 else (bif a2.resident then ((digest_Derive a2.seed ([105, 100] : List UInt8) (0 : Int)).bind fun r2 => ((seal_Stream r2.2.1 (0#64) (176 : Int)).bind fun r3 => (some ((), (r3.2.1, (0 : Int), ())))))
 else (let v4 : List (UInt8) := (List.replicate 160 (0 : UInt8))
 (bif decide ((r1.2.1 : List (UInt8)).length ≤ (v4).length) then (let v5 : List (UInt8) := (r1.2.1 ++ List.drop (r1.2.1 : List (UInt8)).length v4)
 ((credential_wrapKey a0).bind fun r6 => ((credential_bound a2.rP).bind fun r7 => ((seal_Seal r6.2.1 a1 r7.2.1 v5).bind fun r8 => (some ((), (r8.2.1, r8.2.2.1, ())))))))
 else none)))))

def S_credential_ID : FSpec T := ⟨[.f (.v .u64), .f (.v .u64), .f (.v (.agg 7))], [(.own 0), (.v (.int .i64))], fun x => credential_ID x.1 x.2.1 x.2.2.1⟩

theorem credential_ID_ok : SoundT Tryz.prog cd gdn 16 S_credential_ID :=
  sndC hmix o79 (lcA [] [] []) Tryz.func16 done_nil (by kernel_rfl) (by kernel_rfl) fun x => by kernel_rfl

def c80 : List (Ct T) := ⟨16, none, S_credential_ID, false⟩ :: c79
theorem o80 : EnvOk Tryz.prog (mE c80) := eCons credential_ID_ok o79

abbrev Y_seal_Open_L0 := ((BitVec 64) × (List (UInt8)) × (List (UInt8)) × (BitVec 64) × (List (UInt8)) × Int × Int × Unit)
abbrev Z_seal_Open_L0 := ((BitVec 64) × (List (UInt8)) × (List (UInt8)) × (BitVec 64) × Unit)

def seal_Open_L0b (y0 : (BitVec 64)) (y1 : (List (UInt8))) (y2 : (List (UInt8))) (y3 : (BitVec 64)) (y4 : (List (UInt8))) (y5 : Int) (y6 : Int) : Option (Y_seal_Open_L0 ⊕ Z_seal_Open_L0) :=
 (bif (decide (y6 < y5)) then ((getI y4 y6).bind fun x1 => (some (Sum.inl (y0, y1, y2, ((y3 <<< 8) ||| (BitVec.setWidth 64 x1.toBitVec)), y4, y5, (IntKind.wrap .i64 (y6 + (1 : Int))), ()))))
 else (some (Sum.inr (y0, y1, y2, y3, ()))))

def seal_Open_L0 (y : Y_seal_Open_L0) : Option Z_seal_Open_L0 := iter (fun (y : Y_seal_Open_L0) => seal_Open_L0b y.1 y.2.1 y.2.2.1 y.2.2.2.1 y.2.2.2.2.1 y.2.2.2.2.2.1 y.2.2.2.2.2.2.1) rounds y

def seal_Open (a0 : (BitVec 64)) (a1 : (List (UInt8))) (a2 : (List (UInt8))) : Option ((Unit) × ((List (UInt8)) × Int × Unit)) :=
 (bif (decide (((a2).length : Int) < (16 : Int))) then (some ((), ([], (1 : Int), ())))
 else (bif (decide ((1040 : Int) < ((a2).length : Int))) then (some ((), ([], (8 : Int), ())))
 else (bif (decide ((1024 : Int) < ((a1).length : Int))) then (some ((), ([], (8 : Int), ())))
 else (bif decide ((8 : Int) ≤ ((a2).length : Int)) then ((seal_Open_L0 (a0, a1, a2, 0#64, (List.take 8 a2), (((List.take 8 a2)).length : Int), (0 : Int), ())).bind (fun (z2 : ((BitVec 64) × (List (UInt8)) × (List (UInt8)) × (BitVec 64) × Unit)) => (bif (decide ((0 : Int) ≤ (IntKind.wrap .i64 (((z2.2.2.1).length : Int) - (8 : Int)))) && decide ((IntKind.wrap .i64 (((z2.2.2.1).length : Int) - (8 : Int))) ≤ ((z2.2.2.1).length : Int))) then (let v3 : List (UInt8) := (List.drop ((IntKind.wrap .i64 (((z2.2.2.1).length : Int) - (8 : Int)))).toNat z2.2.2.1)
 (((v3)[0]?).bind fun x4 => (((v3)[1]?).bind fun x5 => (((v3)[2]?).bind fun x6 => (((v3)[3]?).bind fun x7 => (((v3)[4]?).bind fun x8 => (((v3)[5]?).bind fun x9 => (((v3)[6]?).bind fun x10 => (((v3)[7]?).bind fun x11 => (bif (decide ((0 : Int) ≤ (IntKind.wrap .i64 (((z2.2.2.1).length : Int) - (8 : Int)))) && decide ((IntKind.wrap .i64 (((z2.2.2.1).length : Int) - (8 : Int))) ≤ ((z2.2.2.1).length : Int))) then (bif decide ((8 : Int) ≤ (((IntKind.wrap .i64 (((z2.2.2.1).length : Int) - (8 : Int)))).toNat : Int)) then (let v12 : List (UInt8) := (List.drop 8 (List.take ((IntKind.wrap .i64 (((z2.2.2.1).length : Int) - (8 : Int)))).toNat z2.2.2.1))
 ((seal_tag z2.1 z2.2.2.2.1 z2.2.1 v12).bind fun r13 => (let v14 : Bool := (!(decide (x4 = r13.2.1.a0) && (decide (x5 = r13.2.1.a1) && (decide (x6 = r13.2.1.a2) && (decide (x7 = r13.2.1.a3) && (decide (x8 = r13.2.1.a4) && (decide (x9 = r13.2.1.a5) && (decide (x10 = r13.2.1.a6) && (decide (x11 = r13.2.1.a7) && true)))))))))
 (bif v14 then (some ((), ([], (14 : Int), ())))
 else (bif (decide ((0 : Int) ≤ (IntKind.wrap .i64 (((z2.2.2.1).length : Int) - (8 : Int)))) && decide ((IntKind.wrap .i64 (((z2.2.2.1).length : Int) - (8 : Int))) ≤ ((z2.2.2.1).length : Int))) then (bif decide ((8 : Int) ≤ (((IntKind.wrap .i64 (((z2.2.2.1).length : Int) - (8 : Int)))).toNat : Int)) then (let v15 : List (UInt8) := (List.drop 8 (List.take ((IntKind.wrap .i64 (((z2.2.2.1).length : Int) - (8 : Int)))).toNat z2.2.2.1))
 ((seal_mix z2.1 z2.2.2.2.1 v15).bind fun r16 => (some ((), (r16.2.1, (0 : Int), ())))))
 else none)
 else none)))))
 else none)
 else none))))))))))
 else none)))
 else none))))

def S_seal_Open : FSpec T := ⟨[.f (.v .u64), .f (.v (.rs 0)), .f (.v (.rs 0))], [(.own 0), (.v (.int .i64))], fun x => seal_Open x.1 x.2.1 x.2.2.1⟩

def s_seal_Open_L0 : LSpec T := ⟨[(0, .f (.v .u64)), (1, .f (.v (.rs 0))), (2, .f (.v (.rs 0))), (8, .f (.v .u64)), (24, .f (.v (.rs 0))), (25, .f (.v (.int .i64))), (26, .f (.v (.int .i64)))], [(.exit 0, [(0, .f (.v .u64)), (1, .f (.v (.rs 0))), (2, .f (.v (.rs 0))), (8, .f (.v .u64))])], seal_Open_L0, []⟩

def A_seal_Open : Loc2 T := lcA [(0, s_seal_Open_L0)] [] []

theorem seal_Open_L0_ok : LoopOk Tryz.prog (mE c80) Tryz.f31.ntmps (kqOf S_seal_Open.ps 0) (loopAt 0 (bodyOf Tryz.f31)) s_seal_Open_L0 :=
  lpC hmix o80 A_seal_Open done_nil 0 (st := fun y => seal_Open_L0b y.1 y.2.1 y.2.2.1 y.2.2.2.1 y.2.2.2.2.1 y.2.2.2.2.2.1 y.2.2.2.2.2.2.1) (fun _ => rfl) (by kernel_rfl) (by kernel_rfl) fun x => by kernel_rfl

theorem seal_Open_ok : SoundT Tryz.prog cd gdn 31 S_seal_Open :=
  sndC hmix o80 A_seal_Open Tryz.func31 (done_cons rfl seal_Open_L0_ok done_nil) (by kernel_rfl) (by kernel_rfl) fun x => by kernel_rfl

def c81 : List (Ct T) := ⟨31, none, S_seal_Open, false⟩ :: c80
theorem o81 : EnvOk Tryz.prog (mE c81) := eCons seal_Open_ok o80

def cbor_short (a0 : (BitVec 64)) : Option ((Unit) × (Int × Unit)) :=
 (bif (decide (a0.toNat < (24#64).toNat)) then (some ((), ((0 : Int), ())))
 else (bif (decide (a0.toNat < (256#64).toNat)) then (some ((), ((1 : Int), ())))
 else (bif (decide (a0.toNat < (65536#64).toNat)) then (some ((), ((2 : Int), ())))
 else (bif (decide (a0.toNat < (4294967296#64).toNat)) then (some ((), ((4 : Int), ())))
 else (some ((), ((8 : Int), ())))))))

def S_cbor_short : FSpec T := ⟨[.f (.v .u64)], [(.v (.int .i64))], fun x => cbor_short x.1⟩

theorem cbor_short_ok : SoundT Tryz.prog cd gdn 100 S_cbor_short :=
  sndC hmix o81 (lcA [] [] []) Tryz.func100 done_nil (by kernel_rfl) (by kernel_rfl) fun x => by kernel_rfl

def c82 : List (Ct T) := ⟨100, none, S_cbor_short, true⟩ :: c81
theorem o82 : EnvOk Tryz.prog (mE c82) := eCons cbor_short_ok o81

abbrev Y_cbor_reader_head_L1 := (((List (CborFrame)) × Int × (List (UInt8)) × Int × Unit) × Int × (BitVec 64) × Int × (List (UInt8)) × Int × Int × Unit)
abbrev Z_cbor_reader_head_L1 := (((List (CborFrame)) × Int × (List (UInt8)) × Int × Unit) × Int × (BitVec 64) × Int × Unit)

def cbor_reader_head_L1b (y0 : ((List (CborFrame)) × Int × (List (UInt8)) × Int × Unit)) (y1 : Int) (y2 : (BitVec 64)) (y3 : Int) (y4 : (List (UInt8))) (y5 : Int) (y6 : Int) : Option (Y_cbor_reader_head_L1 ⊕ Z_cbor_reader_head_L1) :=
 (bif (decide (y6 < y5)) then ((getI y4 y6).bind fun x10 => (some (Sum.inl ((y0.1, y0.2.1, y0.2.2.1, y0.2.2.2.1, ()), y1, ((y2 <<< 8) ||| (BitVec.setWidth 64 x10.toBitVec)), y3, y4, y5, (IntKind.wrap .i64 (y6 + (1 : Int))), ()))))
 else (some (Sum.inr ((y0.1, y0.2.1, y0.2.2.1, y0.2.2.2.1, ()), y1, y2, y3, ()))))

def cbor_reader_head_L1 (y : Y_cbor_reader_head_L1) : Option Z_cbor_reader_head_L1 := iter (fun (y : Y_cbor_reader_head_L1) => cbor_reader_head_L1b y.1 y.2.1 y.2.2.1 y.2.2.2.1 y.2.2.2.2.1 y.2.2.2.2.2.1 y.2.2.2.2.2.2.1) rounds y

def cbor_reader_head (a0 : ((List (CborFrame)) × Int × (List (UInt8)) × Int × Unit)) : Option ((((List (CborFrame)) × Int × (List (UInt8)) × Int × Unit) × Unit) × (Int × (BitVec 64) × Int × Unit)) :=
 (bif (decide (((a0.2.2.1).length : Int) ≤ a0.2.2.2.1)) then (some (((a0.1, a0.2.1, a0.2.2.1, a0.2.2.2.1, ()), ()), ((0 : Int), 0#64, (1 : Int), ())))
 else ((getI a0.2.2.1 a0.2.2.2.1).bind fun x1 => ((bif (decide (x1.toBitVec = (244 : UInt8).toBitVec)) then (bif (decide (x1.toBitVec = (244 : UInt8).toBitVec)) then (let v2 : BitVec 64 := (BitVec.setWidth 64 (UInt8.ofBitVec (x1.toBitVec - (244 : UInt8).toBitVec)).toBitVec)
 (((some (((a0.1, a0.2.1, a0.2.2.1, (IntKind.wrap .i64 (a0.2.2.2.1 + (1 : Int))), ()), ()), ((7 : Int), v2, (0 : Int), ())))).bind fun q => some (Sum.inr q)))
 else (bif (decide (x1.toBitVec = (246 : UInt8).toBitVec)) then (((some (((a0.1, a0.2.1, a0.2.2.1, (IntKind.wrap .i64 (a0.2.2.2.1 + (1 : Int))), ()), ()), ((8 : Int), 0#64, (0 : Int), ())))).bind fun q => some (Sum.inr q))
 else (some (Sum.inl ((a0.1, a0.2.1, a0.2.2.1, (IntKind.wrap .i64 (a0.2.2.2.1 + (1 : Int))), ()), 0#64, x1, ())))))
 else (bif (decide (x1.toBitVec = (245 : UInt8).toBitVec)) then (let v3 : BitVec 64 := (BitVec.setWidth 64 (UInt8.ofBitVec (x1.toBitVec - (244 : UInt8).toBitVec)).toBitVec)
 (((some (((a0.1, a0.2.1, a0.2.2.1, (IntKind.wrap .i64 (a0.2.2.2.1 + (1 : Int))), ()), ()), ((7 : Int), v3, (0 : Int), ())))).bind fun q => some (Sum.inr q)))
 else (bif (decide (x1.toBitVec = (246 : UInt8).toBitVec)) then (((some (((a0.1, a0.2.1, a0.2.2.1, (IntKind.wrap .i64 (a0.2.2.2.1 + (1 : Int))), ()), ()), ((8 : Int), 0#64, (0 : Int), ())))).bind fun q => some (Sum.inr q))
 else (some (Sum.inl ((a0.1, a0.2.1, a0.2.2.1, (IntKind.wrap .i64 (a0.2.2.2.1 + (1 : Int))), ()), 0#64, x1, ())))))).bind (Sum.elim (fun (j4 : (((List (CborFrame)) × Int × (List (UInt8)) × Int × Unit) × (BitVec 64) × UInt8 × Unit)) => (let v5 : UInt8 := (UInt8.ofBitVec (j4.2.2.1.toBitVec &&& (31 : UInt8).toBitVec))
 (bif (decide ((5 : UInt8).toBitVec.toNat < (UInt8.ofBitVec (j4.2.2.1.toBitVec >>> 5)).toBitVec.toNat)) then (some (((j4.1.1, j4.1.2.1, j4.1.2.2.1, j4.1.2.2.2.1, ()), ()), ((0 : Int), 0#64, (2 : Int), ())))
 else (bif (decide ((27 : UInt8).toBitVec.toNat < v5.toBitVec.toNat)) then (some (((j4.1.1, j4.1.2.1, j4.1.2.2.1, j4.1.2.2.2.1, ()), ()), ((0 : Int), 0#64, (2 : Int), ())))
 else (let v6 : Int := ((UInt8.ofBitVec (j4.2.2.1.toBitVec >>> 5)).toBitVec.toNat : Int)
 (bif (decide (v5.toBitVec.toNat < (24 : UInt8).toBitVec.toNat)) then (some (((j4.1.1, j4.1.2.1, j4.1.2.2.1, j4.1.2.2.2.1, ()), ()), ((IntKind.wrap .i64 ((1 : Int) + v6)), (BitVec.setWidth 64 v5.toBitVec), (0 : Int), ())))
 else (let v7 : Int := (IntKind.wrap .i64 ((1 : Int) * 2 ^ (min (UInt8.ofBitVec (v5.toBitVec - (24 : UInt8).toBitVec)).toNat (IntKind.bits .i64))))
 (let v8 : Int := (IntKind.wrap .i64 (((j4.1.2.2.1).length : Int) - j4.1.2.2.2.1))
 (bif (decide (v8 < v7)) then (some (((j4.1.1, j4.1.2.1, j4.1.2.2.1, j4.1.2.2.2.1, ()), ()), ((0 : Int), 0#64, (1 : Int), ())))
 else (bif (decide ((0 : Int) ≤ (IntKind.wrap .i64 (j4.1.2.2.2.1 + v7))) && decide ((IntKind.wrap .i64 (j4.1.2.2.2.1 + v7)) ≤ ((j4.1.2.2.1).length : Int))) then (bif (decide ((0 : Int) ≤ j4.1.2.2.2.1) && decide (j4.1.2.2.2.1 ≤ (((IntKind.wrap .i64 (j4.1.2.2.2.1 + v7))).toNat : Int))) then (let v9 : List (UInt8) := (List.drop (j4.1.2.2.2.1).toNat (List.take ((IntKind.wrap .i64 (j4.1.2.2.2.1 + v7))).toNat j4.1.2.2.1))
 ((cbor_reader_head_L1 ((j4.1.1, j4.1.2.1, j4.1.2.2.1, j4.1.2.2.2.1, ()), (IntKind.wrap .i64 ((1 : Int) + v6)), j4.2.1, v7, v9, ((v9).length : Int), (0 : Int), ())).bind (fun (z11 : (((List (CborFrame)) × Int × (List (UInt8)) × Int × Unit) × Int × (BitVec 64) × Int × Unit)) => ((cbor_short z11.2.2.1).bind fun r12 => (bif (decide (r12.2.1 < z11.2.2.2.1)) then (some (((z11.1.1, z11.1.2.1, z11.1.2.2.1, (IntKind.wrap .i64 (z11.1.2.2.2.1 + z11.2.2.2.1)), ()), ()), ((0 : Int), 0#64, (2 : Int), ())))
 else (some (((z11.1.1, z11.1.2.1, z11.1.2.2.1, (IntKind.wrap .i64 (z11.1.2.2.2.1 + z11.2.2.2.1)), ()), ()), (z11.2.1, z11.2.2.1, (0 : Int), ()))))))))
 else none)
 else none)))))))))) some))))

def S_cbor_reader_head : FSpec T := ⟨[.ptr [(.own 11), (.v (.int .i64)), (.v (.rs 0)), (.v (.int .i64))]], [(.v (.int .i64)), (.v .u64), (.v (.int .i64))], fun x => cbor_reader_head x.1⟩

def s_cbor_reader_head_L1 : LSpec T := ⟨[(0, .ptr [(.own 11), (.v (.int .i64)), (.v (.rs 0)), (.v (.int .i64))]), (2, .f (.v (.int .i64))), (3, .f (.v .u64)), (8, .f (.v (.int .i64))), (94, .f (.v (.rs 0))), (95, .f (.v (.int .i64))), (96, .f (.v (.int .i64)))], [(.exit 1, [(0, .ptr [(.own 11), (.v (.int .i64)), (.v (.rs 0)), (.v (.int .i64))]), (2, .f (.v (.int .i64))), (3, .f (.v .u64)), (8, .f (.v (.int .i64)))])], cbor_reader_head_L1, []⟩

def A_cbor_reader_head : Loc2 T := lcA [(1, s_cbor_reader_head_L1)] [(11, [(0, .ptr [(.own 11), (.v (.int .i64)), (.v (.rs 0)), (.v (.int .i64))]), (3, .f (.v .u64)), (5, .f (.v .u8))], false)] []

theorem cbor_reader_head_L1_ok : LoopOk Tryz.prog (mE c82) Tryz.f82.ntmps (kqOf S_cbor_reader_head.ps 0) (loopAt 1 (bodyOf Tryz.f82)) s_cbor_reader_head_L1 :=
  lpC hmix o82 A_cbor_reader_head done_nil 1 (st := fun y => cbor_reader_head_L1b y.1 y.2.1 y.2.2.1 y.2.2.2.1 y.2.2.2.2.1 y.2.2.2.2.2.1 y.2.2.2.2.2.2.1) (fun _ => rfl) (by kernel_rfl) (by kernel_rfl) fun x => by kernel_rfl

theorem cbor_reader_head_ok : SoundT Tryz.prog cd gdn 82 S_cbor_reader_head :=
  sndC hmix o82 A_cbor_reader_head Tryz.func82 (done_cons rfl cbor_reader_head_L1_ok done_nil) (by kernel_rfl) (by kernel_rfl) fun x => by kernel_rfl

def c83 : List (Ct T) := ⟨82, none, S_cbor_reader_head, false⟩ :: c82
theorem o83 : EnvOk Tryz.prog (mE c83) := eCons cbor_reader_head_ok o82

abbrev Y_cbor_walk_step_1_L0 := (((List (CborFrame)) × Int × (List (UInt8)) × Int × Unit) × Int × Unit)
abbrev Z_cbor_walk_step_1_L0 := (((List (CborFrame)) × Int × (List (UInt8)) × Int × Unit) × Unit)

def cbor_walk_step_1_L0b (y0 : ((List (CborFrame)) × Int × (List (UInt8)) × Int × Unit)) (y1 : Int) : Option (Y_cbor_walk_step_1_L0 ⊕ Z_cbor_walk_step_1_L0) :=
 (bif (decide ((0 : Int) < y1)) then (bif (decide ((0 : Int) ≤ (IntKind.wrap .i64 (y1 - (1 : Int)))) && decide ((IntKind.wrap .i64 (y1 - (1 : Int))) < ((y0.1).length : Int))) then (((y0.1)[((IntKind.wrap .i64 (y1 - (1 : Int)))).toNat]?).bind fun x10 => (bif (decide (x10.left = (0 : Int))) then (bif (decide ((0 : Int) ≤ (IntKind.wrap .i64 (y1 - (1 : Int)))) && decide ((IntKind.wrap .i64 (y1 - (1 : Int))) ≤ ((y0.1).length : Int))) then (bif decide (((IntKind.wrap .i64 (y1 - (1 : Int)))).toNat ≤ (y0.1).length) then (some (Sum.inl (((List.take ((IntKind.wrap .i64 (y1 - (1 : Int)))).toNat y0.1), y0.2.1, y0.2.2.1, y0.2.2.2.1, ()), (IntKind.wrap .i64 (y1 - (1 : Int))), ())))
 else none)
 else none)
 else (some (Sum.inr ((y0.1, y0.2.1, y0.2.2.1, y0.2.2.2.1, ()), ())))))
 else none)
 else (some (Sum.inr ((y0.1, y0.2.1, y0.2.2.1, y0.2.2.2.1, ()), ()))))

def cbor_walk_step_1_L0 (y : Y_cbor_walk_step_1_L0) : Option Z_cbor_walk_step_1_L0 := iter (fun (y : Y_cbor_walk_step_1_L0) => cbor_walk_step_1_L0b y.1 y.2.1) rounds y

def cbor_walk_step_1 (a0 : ((List (CborFrame)) × Int × (List (UInt8)) × Int × Unit)) (a1 : ApiItem) : Option ((((List (CborFrame)) × Int × (List (UInt8)) × Int × Unit) × Unit) × (Unit)) :=
 ((bif (decide ((0 : Int) < ((a0.1).length : Int))) then (bif (decide ((0 : Int) ≤ (IntKind.wrap .i64 (((a0.1).length : Int) - (1 : Int)))) && decide ((IntKind.wrap .i64 (((a0.1).length : Int) - (1 : Int))) < ((a0.1).length : Int))) then (((a0.1)[((IntKind.wrap .i64 (((a0.1).length : Int) - (1 : Int)))).toNat]?).bind fun x1 => (bif (decide ((0 : Int) ≤ (IntKind.wrap .i64 (((a0.1).length : Int) - (1 : Int)))) && decide ((IntKind.wrap .i64 (((a0.1).length : Int) - (1 : Int))) < ((a0.1).length : Int))) then (((a0.1)[((IntKind.wrap .i64 (((a0.1).length : Int) - (1 : Int)))).toNat]?).bind fun x2 => (let v3 : List (CborFrame) := (List.set a0.1 ((IntKind.wrap .i64 (((a0.1).length : Int) - (1 : Int)))).toNat (⟨x2.pairs, (IntKind.wrap .i64 (x1.left - (1 : Int))), x2.last_⟩ : CborFrame))
 (some ((v3, (IntKind.wrap .i64 (a0.2.1 + (1 : Int))), a0.2.2.1, a0.2.2.2.1, ()), (a1, ()), ()))))
 else none))
 else none)
 else (some ((a0.1, (IntKind.wrap .i64 (a0.2.1 + (1 : Int))), a0.2.2.1, a0.2.2.2.1, ()), (a1, ()), ()))).bind (fun (j4 : (((List (CborFrame)) × Int × (List (UInt8)) × Int × Unit) × (ApiItem × Unit) × Unit)) => ((bif (decide (j4.2.1.1.kind = (5 : Int))) then (bif (decide ((0#64).toNat < j4.2.1.1.number.toNat)) then (let v5 : List (CborFrame) := ([(⟨false, (IntKind.wrap .i64 (j4.2.1.1.number.toNat : Int)), []⟩ : CborFrame)] : List (CborFrame))
 (bif small ((j4.1.1).length + (v5 : List (CborFrame)).length) 40 then (some (((j4.1.1 ++ v5), j4.1.2.1, j4.1.2.2.1, j4.1.2.2.2.1, ()), (j4.2.1.1, ()), ()))
 else none))
 else (some ((j4.1.1, j4.1.2.1, j4.1.2.2.1, j4.1.2.2.2.1, ()), (j4.2.1.1, ()), ())))
 else (some ((j4.1.1, j4.1.2.1, j4.1.2.2.1, j4.1.2.2.2.1, ()), (j4.2.1.1, ()), ()))).bind (fun (j6 : (((List (CborFrame)) × Int × (List (UInt8)) × Int × Unit) × (ApiItem × Unit) × Unit)) => ((bif (decide (j6.2.1.1.kind = (6 : Int))) then (bif (decide ((0#64).toNat < j6.2.1.1.number.toNat)) then (let v7 : Int := (IntKind.wrap .i64 ((2 : Int) * (IntKind.wrap .i64 (j6.2.1.1.number.toNat : Int))))
 (bif small ((j6.1.1).length + (([(⟨true, v7, []⟩ : CborFrame)] : List (CborFrame)) : List (CborFrame)).length) 40 then (let v8 : List (CborFrame) := (j6.1.1 ++ ([(⟨true, v7, []⟩ : CborFrame)] : List (CborFrame)))
 (some ((v8, j6.1.2.1, j6.1.2.2.1, j6.1.2.2.2.1, ()), ())))
 else none))
 else (some ((j6.1.1, j6.1.2.1, j6.1.2.2.1, j6.1.2.2.2.1, ()), ())))
 else (some ((j6.1.1, j6.1.2.1, j6.1.2.2.1, j6.1.2.2.2.1, ()), ()))).bind (fun (j9 : (((List (CborFrame)) × Int × (List (UInt8)) × Int × Unit) × Unit)) => ((cbor_walk_step_1_L0 ((j9.1.1, j9.1.2.1, j9.1.2.2.1, j9.1.2.2.2.1, ()), ((j9.1.1).length : Int), ())).bind (fun (z11 : (((List (CborFrame)) × Int × (List (UInt8)) × Int × Unit) × Unit)) => (some (((z11.1.1, z11.1.2.1, z11.1.2.2.1, z11.1.2.2.2.1, ()), ()), ()))))))))))

def S_cbor_walk_step_1 : FSpec T := ⟨[.ptr [(.own 11), (.v (.int .i64)), (.v (.rs 0)), (.v (.int .i64))], .f (.v (.agg 1))], [], fun x => cbor_walk_step_1 x.1 x.2.1⟩

def s_cbor_walk_step_1_L0 : LSpec T := ⟨[(0, .ptr [(.own 11), (.v (.int .i64)), (.v (.rs 0)), (.v (.int .i64))]), (5, .f (.v (.int .i64)))], [(.exit 0, [(0, .ptr [(.own 11), (.v (.int .i64)), (.v (.rs 0)), (.v (.int .i64))])])], cbor_walk_step_1_L0, []⟩

def A_cbor_walk_step_1 : Loc2 T := lcA [(0, s_cbor_walk_step_1_L0)] [(5, [(0, .ptr [(.own 11), (.v (.int .i64)), (.v (.rs 0)), (.v (.int .i64))]), (3, .ptr [(.v (.agg 1))])], true), (7, [(0, .ptr [(.own 11), (.v (.int .i64)), (.v (.rs 0)), (.v (.int .i64))]), (3, .ptr [(.v (.agg 1))])], true), (9, [(0, .ptr [(.own 11), (.v (.int .i64)), (.v (.rs 0)), (.v (.int .i64))])], true)] [6, 8]

theorem cbor_walk_step_1_L0_ok : LoopOk Tryz.prog (mE c83) Tryz.f103.ntmps (kqOf S_cbor_walk_step_1.ps 0) (loopAt 0 (bodyOf Tryz.f103)) s_cbor_walk_step_1_L0 :=
  lpC hmix o83 A_cbor_walk_step_1 done_nil 0 (st := fun y => cbor_walk_step_1_L0b y.1 y.2.1) (fun _ => rfl) (by kernel_rfl) (by kernel_rfl) fun x => by kernel_rfl

theorem cbor_walk_step_1_ok : SoundT Tryz.prog cd gdn 103 S_cbor_walk_step_1 :=
  sndC hmix o83 A_cbor_walk_step_1 Tryz.func103 (done_cons rfl cbor_walk_step_1_L0_ok done_nil) (by kernel_rfl) (by kernel_rfl) fun x => by kernel_rfl

def c84 : List (Ct T) := ⟨103, none, S_cbor_walk_step_1, false⟩ :: c83
theorem o84 : EnvOk Tryz.prog (mE c84) := eCons cbor_walk_step_1_ok o83

def cbor_walk_accept_1 (a0 : ((List (CborFrame)) × Int × (List (UInt8)) × Int × Unit)) (a1 : ApiItem) : Option ((((List (CborFrame)) × Int × (List (UInt8)) × Int × Unit) × Unit) × (Int × Unit)) :=
 (bif (decide (a1.kind = (4 : Int))) then ((utf8_ValidString a1.data).bind fun r1 => (bif (!r1.2.1) then (some (((a0.1, a0.2.1, a0.2.2.1, a0.2.2.2.1, ()), ()), ((6 : Int), ())))
 else ((cbor_walk_atKey (⟨a0.1, a0.2.1⟩ : CborWalk)).bind fun r2 => (bif r2.2.1 then (bif (decide ((0 : Int) ≤ (IntKind.wrap .i64 (((a0.1).length : Int) - (1 : Int)))) && decide ((IntKind.wrap .i64 (((a0.1).length : Int) - (1 : Int))) < ((a0.1).length : Int))) then ((cbor_appendItem [] a1).bind fun r3 => (((a0.1)[((IntKind.wrap .i64 (((a0.1).length : Int) - (1 : Int)))).toNat]?).bind fun x4 => (bif (!(x4.last_).isEmpty) then (((a0.1)[((IntKind.wrap .i64 (((a0.1).length : Int) - (1 : Int)))).toNat]?).bind fun x5 => ((cbor_smaller x5.last_ r3.2.1).bind fun r6 => (bif (!r6.2.1) then (some (((a0.1, a0.2.1, a0.2.2.1, a0.2.2.2.1, ()), ()), ((7 : Int), ())))
 else (((a0.1)[((IntKind.wrap .i64 (((a0.1).length : Int) - (1 : Int)))).toNat]?).bind fun x7 => (bif (r3.2.1).isEmpty then none
 else (let v8 : List (CborFrame) := (List.set a0.1 ((IntKind.wrap .i64 (((a0.1).length : Int) - (1 : Int)))).toNat (⟨x7.pairs, x7.left, r3.2.1⟩ : CborFrame))
 ((cbor_walk_step_1 (v8, a0.2.1, a0.2.2.1, a0.2.2.2.1, ()) a1).bind fun r9 => (some (((r9.1.1.1, r9.1.1.2.1, r9.1.1.2.2.1, r9.1.1.2.2.2.1, ()), ()), ((0 : Int), ()))))))))))
 else (((a0.1)[((IntKind.wrap .i64 (((a0.1).length : Int) - (1 : Int)))).toNat]?).bind fun x10 => (bif (r3.2.1).isEmpty then none
 else (let v11 : List (CborFrame) := (List.set a0.1 ((IntKind.wrap .i64 (((a0.1).length : Int) - (1 : Int)))).toNat (⟨x10.pairs, x10.left, r3.2.1⟩ : CborFrame))
 ((cbor_walk_step_1 (v11, a0.2.1, a0.2.2.1, a0.2.2.2.1, ()) a1).bind fun r12 => (some (((r12.1.1.1, r12.1.1.2.1, r12.1.1.2.2.1, r12.1.1.2.2.2.1, ()), ()), ((0 : Int), ()))))))))))
 else none)
 else ((cbor_walk_step_1 (a0.1, a0.2.1, a0.2.2.1, a0.2.2.2.1, ()) a1).bind fun r13 => (some (((r13.1.1.1, r13.1.1.2.1, r13.1.1.2.2.1, r13.1.1.2.2.2.1, ()), ()), ((0 : Int), ()))))))))
 else ((cbor_walk_atKey (⟨a0.1, a0.2.1⟩ : CborWalk)).bind fun r14 => (bif r14.2.1 then (bif (decide ((0 : Int) ≤ (IntKind.wrap .i64 (((a0.1).length : Int) - (1 : Int)))) && decide ((IntKind.wrap .i64 (((a0.1).length : Int) - (1 : Int))) < ((a0.1).length : Int))) then ((cbor_appendItem [] a1).bind fun r15 => (((a0.1)[((IntKind.wrap .i64 (((a0.1).length : Int) - (1 : Int)))).toNat]?).bind fun x16 => (bif (!(x16.last_).isEmpty) then (((a0.1)[((IntKind.wrap .i64 (((a0.1).length : Int) - (1 : Int)))).toNat]?).bind fun x17 => ((cbor_smaller x17.last_ r15.2.1).bind fun r18 => (bif (!r18.2.1) then (some (((a0.1, a0.2.1, a0.2.2.1, a0.2.2.2.1, ()), ()), ((7 : Int), ())))
 else (((a0.1)[((IntKind.wrap .i64 (((a0.1).length : Int) - (1 : Int)))).toNat]?).bind fun x19 => (bif (r15.2.1).isEmpty then none
 else (let v20 : List (CborFrame) := (List.set a0.1 ((IntKind.wrap .i64 (((a0.1).length : Int) - (1 : Int)))).toNat (⟨x19.pairs, x19.left, r15.2.1⟩ : CborFrame))
 ((cbor_walk_step_1 (v20, a0.2.1, a0.2.2.1, a0.2.2.2.1, ()) a1).bind fun r21 => (some (((r21.1.1.1, r21.1.1.2.1, r21.1.1.2.2.1, r21.1.1.2.2.2.1, ()), ()), ((0 : Int), ()))))))))))
 else (((a0.1)[((IntKind.wrap .i64 (((a0.1).length : Int) - (1 : Int)))).toNat]?).bind fun x22 => (bif (r15.2.1).isEmpty then none
 else (let v23 : List (CborFrame) := (List.set a0.1 ((IntKind.wrap .i64 (((a0.1).length : Int) - (1 : Int)))).toNat (⟨x22.pairs, x22.left, r15.2.1⟩ : CborFrame))
 ((cbor_walk_step_1 (v23, a0.2.1, a0.2.2.1, a0.2.2.2.1, ()) a1).bind fun r24 => (some (((r24.1.1.1, r24.1.1.2.1, r24.1.1.2.2.1, r24.1.1.2.2.2.1, ()), ()), ((0 : Int), ()))))))))))
 else none)
 else ((cbor_walk_step_1 (a0.1, a0.2.1, a0.2.2.1, a0.2.2.2.1, ()) a1).bind fun r25 => (some (((r25.1.1.1, r25.1.1.2.1, r25.1.1.2.2.1, r25.1.1.2.2.2.1, ()), ()), ((0 : Int), ())))))))

def S_cbor_walk_accept_1 : FSpec T := ⟨[.ptr [(.own 11), (.v (.int .i64)), (.v (.rs 0)), (.v (.int .i64))], .f (.v (.agg 1))], [(.v (.int .i64))], fun x => cbor_walk_accept_1 x.1 x.2.1⟩

theorem cbor_walk_accept_1_ok : SoundT Tryz.prog cd gdn 84 S_cbor_walk_accept_1 :=
  sndC hmix o84 (lcA [] [] []) Tryz.func84 done_nil (by kernel_rfl) (by kernel_rfl) fun x => by kernel_rfl

def c85 : List (Ct T) := ⟨84, none, S_cbor_walk_accept_1, false⟩ :: c84
theorem o85 : EnvOk Tryz.prog (mE c85) := eCons cbor_walk_accept_1_ok o84

def cbor_reader_item (a0 : ((List (CborFrame)) × Int × (List (UInt8)) × Int × Unit)) : Option ((((List (CborFrame)) × Int × (List (UInt8)) × Int × Unit) × Unit) × (ApiItem × Int × Unit)) :=
 ((cbor_reader_head (a0.1, a0.2.1, a0.2.2.1, a0.2.2.2.1, ())).bind fun r1 => (bif (!decide (r1.2.2.2.1 = (0 : Int))) then (some (((r1.1.1.1, r1.1.1.2.1, r1.1.1.2.2.1, r1.1.1.2.2.2.1, ()), ()), ((⟨(0 : Int), 0#64, ([] : List UInt8)⟩ : ApiItem), r1.2.2.2.1, ())))
 else ((cbor_walk_admit (⟨r1.1.1.1, r1.1.1.2.1⟩ : CborWalk) r1.2.1).bind fun r2 => (bif (!decide (r2.2.1 = (0 : Int))) then (some (((r1.1.1.1, r1.1.1.2.1, r1.1.1.2.2.1, r1.1.1.2.2.2.1, ()), ()), ((⟨(0 : Int), 0#64, ([] : List UInt8)⟩ : ApiItem), r2.2.1, ())))
 else ((bif (decide (r1.2.1 = (5 : Int))) then (bif (decide (r1.2.1 = (5 : Int))) then (bif (decide ((512#64).toNat < r1.2.2.1.toNat)) then (((some (((r1.1.1.1, r1.1.1.2.1, r1.1.1.2.2.1, r1.1.1.2.2.2.1, ()), ()), ((⟨(0 : Int), 0#64, ([] : List UInt8)⟩ : ApiItem), (8 : Int), ())))).bind fun q => some (Sum.inr q))
 else (some (Sum.inl ((r1.1.1.1, r1.1.1.2.1, r1.1.1.2.2.1, r1.1.1.2.2.2.1, ()), ((⟨(0 : Int), 0#64, ([] : List UInt8)⟩ : ApiItem), ()), ((⟨r1.2.1, r1.2.2.1, ([] : List UInt8)⟩ : ApiItem), ()), ()))))
 else (bif (decide (r1.2.1 = (3 : Int))) then (bif (decide (r1.2.1 = (3 : Int))) then (bif (decide ((1024#64).toNat < r1.2.2.1.toNat)) then (((some (((r1.1.1.1, r1.1.1.2.1, r1.1.1.2.2.1, r1.1.1.2.2.2.1, ()), ()), ((⟨(0 : Int), 0#64, ([] : List UInt8)⟩ : ApiItem), (8 : Int), ())))).bind fun q => some (Sum.inr q))
 else (let v3 : Int := (IntKind.wrap .i64 (((r1.1.1.2.2.1).length : Int) - r1.1.1.2.2.2.1))
 (bif (decide (v3 < (IntKind.wrap .i64 (r1.2.2.1.toNat : Int)))) then (((some (((r1.1.1.1, r1.1.1.2.1, r1.1.1.2.2.1, r1.1.1.2.2.2.1, ()), ()), ((⟨(0 : Int), 0#64, ([] : List UInt8)⟩ : ApiItem), (1 : Int), ())))).bind fun q => some (Sum.inr q))
 else (let v4 : Int := (IntKind.wrap .i64 (r1.1.1.2.2.2.1 + (IntKind.wrap .i64 (r1.2.2.1.toNat : Int))))
 (bif (decide ((0 : Int) ≤ v4) && decide (v4 ≤ ((r1.1.1.2.2.1).length : Int))) then (bif (decide ((0 : Int) ≤ r1.1.1.2.2.2.1) && decide (r1.1.1.2.2.2.1 ≤ ((v4).toNat : Int))) then (let v5 : List (UInt8) := (List.drop (r1.1.1.2.2.2.1).toNat (List.take (v4).toNat r1.1.1.2.2.1))
 (let v6 : Int := (IntKind.wrap .i64 (r1.1.1.2.2.2.1 + (IntKind.wrap .i64 (r1.2.2.1.toNat : Int))))
 (some (Sum.inl ((r1.1.1.1, r1.1.1.2.1, r1.1.1.2.2.1, v6, ()), ((⟨(0 : Int), 0#64, ([] : List UInt8)⟩ : ApiItem), ()), ((⟨r1.2.1, 0#64, v5⟩ : ApiItem), ()), ())))))
 else none)
 else none)))))
 else (some (Sum.inl ((r1.1.1.1, r1.1.1.2.1, r1.1.1.2.2.1, r1.1.1.2.2.2.1, ()), ((⟨(0 : Int), 0#64, ([] : List UInt8)⟩ : ApiItem), ()), ((⟨r1.2.1, r1.2.2.1, ([] : List UInt8)⟩ : ApiItem), ()), ()))))
 else (bif (decide (r1.2.1 = (4 : Int))) then (bif (decide ((1024#64).toNat < r1.2.2.1.toNat)) then (((some (((r1.1.1.1, r1.1.1.2.1, r1.1.1.2.2.1, r1.1.1.2.2.2.1, ()), ()), ((⟨(0 : Int), 0#64, ([] : List UInt8)⟩ : ApiItem), (8 : Int), ())))).bind fun q => some (Sum.inr q))
 else (let v7 : Int := (IntKind.wrap .i64 (((r1.1.1.2.2.1).length : Int) - r1.1.1.2.2.2.1))
 (bif (decide (v7 < (IntKind.wrap .i64 (r1.2.2.1.toNat : Int)))) then (((some (((r1.1.1.1, r1.1.1.2.1, r1.1.1.2.2.1, r1.1.1.2.2.2.1, ()), ()), ((⟨(0 : Int), 0#64, ([] : List UInt8)⟩ : ApiItem), (1 : Int), ())))).bind fun q => some (Sum.inr q))
 else (let v8 : Int := (IntKind.wrap .i64 (r1.1.1.2.2.2.1 + (IntKind.wrap .i64 (r1.2.2.1.toNat : Int))))
 (bif (decide ((0 : Int) ≤ v8) && decide (v8 ≤ ((r1.1.1.2.2.1).length : Int))) then (bif (decide ((0 : Int) ≤ r1.1.1.2.2.2.1) && decide (r1.1.1.2.2.2.1 ≤ ((v8).toNat : Int))) then (let v9 : List (UInt8) := (List.drop (r1.1.1.2.2.2.1).toNat (List.take (v8).toNat r1.1.1.2.2.1))
 (let v10 : Int := (IntKind.wrap .i64 (r1.1.1.2.2.2.1 + (IntKind.wrap .i64 (r1.2.2.1.toNat : Int))))
 (some (Sum.inl ((r1.1.1.1, r1.1.1.2.1, r1.1.1.2.2.1, v10, ()), ((⟨(0 : Int), 0#64, ([] : List UInt8)⟩ : ApiItem), ()), ((⟨r1.2.1, 0#64, v9⟩ : ApiItem), ()), ())))))
 else none)
 else none)))))
 else (some (Sum.inl ((r1.1.1.1, r1.1.1.2.1, r1.1.1.2.2.1, r1.1.1.2.2.2.1, ()), ((⟨(0 : Int), 0#64, ([] : List UInt8)⟩ : ApiItem), ()), ((⟨r1.2.1, r1.2.2.1, ([] : List UInt8)⟩ : ApiItem), ()), ()))))))
 else (bif (decide (r1.2.1 = (6 : Int))) then (bif (decide ((512#64).toNat < r1.2.2.1.toNat)) then (((some (((r1.1.1.1, r1.1.1.2.1, r1.1.1.2.2.1, r1.1.1.2.2.2.1, ()), ()), ((⟨(0 : Int), 0#64, ([] : List UInt8)⟩ : ApiItem), (8 : Int), ())))).bind fun q => some (Sum.inr q))
 else (some (Sum.inl ((r1.1.1.1, r1.1.1.2.1, r1.1.1.2.2.1, r1.1.1.2.2.2.1, ()), ((⟨(0 : Int), 0#64, ([] : List UInt8)⟩ : ApiItem), ()), ((⟨r1.2.1, r1.2.2.1, ([] : List UInt8)⟩ : ApiItem), ()), ()))))
 else (bif (decide (r1.2.1 = (3 : Int))) then (bif (decide (r1.2.1 = (3 : Int))) then (bif (decide ((1024#64).toNat < r1.2.2.1.toNat)) then (((some (((r1.1.1.1, r1.1.1.2.1, r1.1.1.2.2.1, r1.1.1.2.2.2.1, ()), ()), ((⟨(0 : Int), 0#64, ([] : List UInt8)⟩ : ApiItem), (8 : Int), ())))).bind fun q => some (Sum.inr q))
 else (let v11 : Int := (IntKind.wrap .i64 (((r1.1.1.2.2.1).length : Int) - r1.1.1.2.2.2.1))
 (bif (decide (v11 < (IntKind.wrap .i64 (r1.2.2.1.toNat : Int)))) then (((some (((r1.1.1.1, r1.1.1.2.1, r1.1.1.2.2.1, r1.1.1.2.2.2.1, ()), ()), ((⟨(0 : Int), 0#64, ([] : List UInt8)⟩ : ApiItem), (1 : Int), ())))).bind fun q => some (Sum.inr q))
 else (let v12 : Int := (IntKind.wrap .i64 (r1.1.1.2.2.2.1 + (IntKind.wrap .i64 (r1.2.2.1.toNat : Int))))
 (bif (decide ((0 : Int) ≤ v12) && decide (v12 ≤ ((r1.1.1.2.2.1).length : Int))) then (bif (decide ((0 : Int) ≤ r1.1.1.2.2.2.1) && decide (r1.1.1.2.2.2.1 ≤ ((v12).toNat : Int))) then (let v13 : List (UInt8) := (List.drop (r1.1.1.2.2.2.1).toNat (List.take (v12).toNat r1.1.1.2.2.1))
 (let v14 : Int := (IntKind.wrap .i64 (r1.1.1.2.2.2.1 + (IntKind.wrap .i64 (r1.2.2.1.toNat : Int))))
 (some (Sum.inl ((r1.1.1.1, r1.1.1.2.1, r1.1.1.2.2.1, v14, ()), ((⟨(0 : Int), 0#64, ([] : List UInt8)⟩ : ApiItem), ()), ((⟨r1.2.1, 0#64, v13⟩ : ApiItem), ()), ())))))
 else none)
 else none)))))
 else (some (Sum.inl ((r1.1.1.1, r1.1.1.2.1, r1.1.1.2.2.1, r1.1.1.2.2.2.1, ()), ((⟨(0 : Int), 0#64, ([] : List UInt8)⟩ : ApiItem), ()), ((⟨r1.2.1, r1.2.2.1, ([] : List UInt8)⟩ : ApiItem), ()), ()))))
 else (bif (decide (r1.2.1 = (4 : Int))) then (bif (decide ((1024#64).toNat < r1.2.2.1.toNat)) then (((some (((r1.1.1.1, r1.1.1.2.1, r1.1.1.2.2.1, r1.1.1.2.2.2.1, ()), ()), ((⟨(0 : Int), 0#64, ([] : List UInt8)⟩ : ApiItem), (8 : Int), ())))).bind fun q => some (Sum.inr q))
 else (let v15 : Int := (IntKind.wrap .i64 (((r1.1.1.2.2.1).length : Int) - r1.1.1.2.2.2.1))
 (bif (decide (v15 < (IntKind.wrap .i64 (r1.2.2.1.toNat : Int)))) then (((some (((r1.1.1.1, r1.1.1.2.1, r1.1.1.2.2.1, r1.1.1.2.2.2.1, ()), ()), ((⟨(0 : Int), 0#64, ([] : List UInt8)⟩ : ApiItem), (1 : Int), ())))).bind fun q => some (Sum.inr q))
 else (let v16 : Int := (IntKind.wrap .i64 (r1.1.1.2.2.2.1 + (IntKind.wrap .i64 (r1.2.2.1.toNat : Int))))
 (bif (decide ((0 : Int) ≤ v16) && decide (v16 ≤ ((r1.1.1.2.2.1).length : Int))) then (bif (decide ((0 : Int) ≤ r1.1.1.2.2.2.1) && decide (r1.1.1.2.2.2.1 ≤ ((v16).toNat : Int))) then (let v17 : List (UInt8) := (List.drop (r1.1.1.2.2.2.1).toNat (List.take (v16).toNat r1.1.1.2.2.1))
 (let v18 : Int := (IntKind.wrap .i64 (r1.1.1.2.2.2.1 + (IntKind.wrap .i64 (r1.2.2.1.toNat : Int))))
 (some (Sum.inl ((r1.1.1.1, r1.1.1.2.1, r1.1.1.2.2.1, v18, ()), ((⟨(0 : Int), 0#64, ([] : List UInt8)⟩ : ApiItem), ()), ((⟨r1.2.1, 0#64, v17⟩ : ApiItem), ()), ())))))
 else none)
 else none)))))
 else (some (Sum.inl ((r1.1.1.1, r1.1.1.2.1, r1.1.1.2.2.1, r1.1.1.2.2.2.1, ()), ((⟨(0 : Int), 0#64, ([] : List UInt8)⟩ : ApiItem), ()), ((⟨r1.2.1, r1.2.2.1, ([] : List UInt8)⟩ : ApiItem), ()), ()))))))).bind (Sum.elim (fun (j19 : (((List (CborFrame)) × Int × (List (UInt8)) × Int × Unit) × (ApiItem × Unit) × (ApiItem × Unit) × Unit)) => ((cbor_walk_accept_1 (j19.1.1, j19.1.2.1, j19.1.2.2.1, j19.1.2.2.2.1, ()) j19.2.2.1.1).bind fun r20 => (bif (!decide (r20.2.1 = (0 : Int))) then (some (((r20.1.1.1, r20.1.1.2.1, r20.1.1.2.2.1, r20.1.1.2.2.2.1, ()), ()), ((⟨(0 : Int), 0#64, ([] : List UInt8)⟩ : ApiItem), r20.2.1, ())))
 else (some (((r20.1.1.1, r20.1.1.2.1, r20.1.1.2.2.1, r20.1.1.2.2.2.1, ()), ()), (j19.2.2.1.1, (0 : Int), ())))))) some))))))

def S_cbor_reader_item : FSpec T := ⟨[.ptr [(.own 11), (.v (.int .i64)), (.v (.rs 0)), (.v (.int .i64))]], [(.v (.agg 1)), (.v (.int .i64))], fun x => cbor_reader_item x.1⟩

theorem cbor_reader_item_ok : SoundT Tryz.prog cd gdn 54 S_cbor_reader_item :=
  sndC hmix o85 (lcA [] [(21, [(0, .ptr [(.own 11), (.v (.int .i64)), (.v (.rs 0)), (.v (.int .i64))]), (2, .ptr [(.v (.agg 1))]), (8, .ptr [(.v (.agg 1))])], false)] [19]) Tryz.func54 done_nil (by kernel_rfl) (by kernel_rfl) fun x => by kernel_rfl

def c86 : List (Ct T) := ⟨54, none, S_cbor_reader_item, false⟩ :: c85
theorem o86 : EnvOk Tryz.prog (mE c86) := eCons cbor_reader_item_ok o85

abbrev Y_cbor_Decode_L0 := ((List (ApiItem)) × ((List (CborFrame)) × Int × (List (UInt8)) × Int × Unit) × Unit)
abbrev Z_cbor_Decode_L0 := (((List (ApiItem)) × Int × Int × Unit) ⊕ ((List (ApiItem)) × ((List (CborFrame)) × Int × (List (UInt8)) × Int × Unit) × Unit))

def cbor_Decode_L0b (y0 : (List (ApiItem))) (y1 : ((List (CborFrame)) × Int × (List (UInt8)) × Int × Unit)) : Option (Y_cbor_Decode_L0 ⊕ Z_cbor_Decode_L0) :=
 ((cbor_walk_done (⟨y1.1, y1.2.1⟩ : CborWalk)).bind fun r1 => (bif (!r1.2.1) then ((cbor_reader_item (y1.1, y1.2.1, y1.2.2.1, y1.2.2.2.1, ())).bind fun r2 => (bif (!decide (r2.2.2.1 = (0 : Int))) then (some (Sum.inr (Sum.inl ([], (0 : Int), r2.2.2.1, ()))))
 else (bif small ((y0).length + (([r2.2.1] : List (ApiItem)) : List (ApiItem)).length) 32 then (some (Sum.inl ((y0 ++ ([r2.2.1] : List (ApiItem))), (r2.1.1.1, r2.1.1.2.1, r2.1.1.2.2.1, r2.1.1.2.2.2.1, ()), ())))
 else none)))
 else (some (Sum.inr (Sum.inr (y0, (y1.1, y1.2.1, y1.2.2.1, y1.2.2.2.1, ()), ()))))))

def cbor_Decode_L0 (y : Y_cbor_Decode_L0) : Option Z_cbor_Decode_L0 := iter (fun (y : Y_cbor_Decode_L0) => cbor_Decode_L0b y.1 y.2.1) rounds y

def cbor_Decode (a0 : (List (UInt8))) : Option ((Unit) × ((List (ApiItem)) × Int × Int × Unit)) :=
 ((cbor_Decode_L0 ([], ([], (0 : Int), a0, (0 : Int), ()), ())).bind (Sum.elim (fun (z3 : ((List (ApiItem)) × Int × Int × Unit)) => (some ((), (z3.1, z3.2.1, z3.2.2.1, ())))) (fun (z4 : ((List (ApiItem)) × ((List (CborFrame)) × Int × (List (UInt8)) × Int × Unit) × Unit)) => (some ((), (z4.1, z4.2.1.2.2.2.1, (0 : Int), ()))))))

def S_cbor_Decode : FSpec T := ⟨[.f (.v (.rs 0))], [(.own 1), (.v (.int .i64)), (.v (.int .i64))], fun x => cbor_Decode x.1⟩

def s_cbor_Decode_L0 : LSpec T := ⟨[(2, .f (.own 1)), (5, .ptr [(.own 11), (.v (.int .i64)), (.v (.rs 0)), (.v (.int .i64))])], [(.ret, [(2, .f (.own 1)), (3, .f (.v (.int .i64))), (4, .f (.v (.int .i64)))]), (.exit 0, [(2, .f (.own 1)), (5, .ptr [(.own 11), (.v (.int .i64)), (.v (.rs 0)), (.v (.int .i64))])])], cbor_Decode_L0, []⟩

def A_cbor_Decode : Loc2 T := lcA [(0, s_cbor_Decode_L0)] [] []

theorem cbor_Decode_L0_ok : LoopOk Tryz.prog (mE c86) Tryz.f32.ntmps (kqOf S_cbor_Decode.ps 0) (loopAt 0 (bodyOf Tryz.f32)) s_cbor_Decode_L0 :=
  lpC hmix o86 A_cbor_Decode done_nil 0 (st := fun y => cbor_Decode_L0b y.1 y.2.1) (fun _ => rfl) (by kernel_rfl) (by kernel_rfl) fun x => by kernel_rfl

theorem cbor_Decode_ok : SoundT Tryz.prog cd gdn 32 S_cbor_Decode :=
  sndC hmix o86 A_cbor_Decode Tryz.func32 (done_cons rfl cbor_Decode_L0_ok done_nil) (by kernel_rfl) (by kernel_rfl) fun x => by kernel_rfl

def c87 : List (Ct T) := ⟨32, none, S_cbor_Decode, false⟩ :: c86
theorem o87 : EnvOk Tryz.prog (mE c87) := eCons cbor_Decode_ok o86

abbrev Y_cbor_Skip_L0 := ((List (ApiItem)) × Int × Int × Unit)
abbrev Z_cbor_Skip_L0 := ((Int × Bool × Unit) ⊕ (Int × Unit))

def cbor_Skip_L0b (y0 : (List (ApiItem))) (y1 : Int) (y2 : Int) : Option (Y_cbor_Skip_L0 ⊕ Z_cbor_Skip_L0) :=
 (bif (decide ((0 : Int) < y2)) then (bif (decide (((y0).length : Int) ≤ y1)) then (some (Sum.inr (Sum.inl ((0 : Int), false, ()))))
 else ((getI y0 y1).bind fun x1 => (bif (!decide (x1.kind = (5 : Int))) then (bif (!decide (x1.kind = (6 : Int))) then (some (Sum.inl (y0, (IntKind.wrap .i64 (y1 + (1 : Int))), (IntKind.wrap .i64 (y2 - (1 : Int))), ())))
 else (bif (decide ((512#64).toNat < x1.number.toNat)) then (some (Sum.inr (Sum.inl ((0 : Int), false, ()))))
 else (let v2 : Int := (IntKind.wrap .i64 ((IntKind.wrap .i64 (y2 - (1 : Int))) + (IntKind.wrap .i64 (x1.number.toNat : Int))))
 (bif (decide (x1.kind = (6 : Int))) then (let v3 : Int := (IntKind.wrap .i64 (v2 + (IntKind.wrap .i64 (x1.number.toNat : Int))))
 (some (Sum.inl (y0, (IntKind.wrap .i64 (y1 + (1 : Int))), v3, ()))))
 else (some (Sum.inl (y0, (IntKind.wrap .i64 (y1 + (1 : Int))), v2, ())))))))
 else (bif (decide ((512#64).toNat < x1.number.toNat)) then (some (Sum.inr (Sum.inl ((0 : Int), false, ()))))
 else (let v4 : Int := (IntKind.wrap .i64 ((IntKind.wrap .i64 (y2 - (1 : Int))) + (IntKind.wrap .i64 (x1.number.toNat : Int))))
 (bif (decide (x1.kind = (6 : Int))) then (let v5 : Int := (IntKind.wrap .i64 (v4 + (IntKind.wrap .i64 (x1.number.toNat : Int))))
 (some (Sum.inl (y0, (IntKind.wrap .i64 (y1 + (1 : Int))), v5, ()))))
 else (some (Sum.inl (y0, (IntKind.wrap .i64 (y1 + (1 : Int))), v4, ())))))))))
 else (some (Sum.inr (Sum.inr (y1, ())))))

def cbor_Skip_L0 (y : Y_cbor_Skip_L0) : Option Z_cbor_Skip_L0 := iter (fun (y : Y_cbor_Skip_L0) => cbor_Skip_L0b y.1 y.2.1 y.2.2.1) rounds y

def cbor_Skip (a0 : (List (ApiItem))) (a1 : Int) : Option ((Unit) × (Int × Bool × Unit)) :=
 (bif (decide (a1 < (0 : Int))) then (some ((), ((0 : Int), false, ())))
 else (bif (decide (((a0).length : Int) ≤ a1)) then (some ((), ((0 : Int), false, ())))
 else ((cbor_Skip_L0 (a0, a1, (1 : Int), ())).bind (Sum.elim (fun (z6 : (Int × Bool × Unit)) => (some ((), (z6.1, z6.2.1, ())))) (fun (z7 : (Int × Unit)) => (some ((), (z7.1, true, ()))))))))

def S_cbor_Skip : FSpec T := ⟨[.f (.v (.rs 1)), .f (.v (.int .i64))], [(.v (.int .i64)), (.v .bool)], fun x => cbor_Skip x.1 x.2.1⟩

def s_cbor_Skip_L0 : LSpec T := ⟨[(0, .f (.v (.rs 1))), (4, .f (.v (.int .i64))), (6, .f (.v (.int .i64)))], [(.ret, [(4, .f (.v (.int .i64))), (5, .f (.v .bool))]), (.exit 0, [(4, .f (.v (.int .i64)))])], cbor_Skip_L0, []⟩

def A_cbor_Skip : Loc2 T := lcA [(0, s_cbor_Skip_L0)] [] []

theorem cbor_Skip_L0_ok : LoopOk Tryz.prog (mE c87) Tryz.f104.ntmps (kqOf S_cbor_Skip.ps 0) (loopAt 0 (bodyOf Tryz.f104)) s_cbor_Skip_L0 :=
  lpC hmix o87 A_cbor_Skip done_nil 0 (st := fun y => cbor_Skip_L0b y.1 y.2.1 y.2.2.1) (fun _ => rfl) (by kernel_rfl) (by kernel_rfl) fun x => by kernel_rfl

theorem cbor_Skip_ok : SoundT Tryz.prog cd gdn 104 S_cbor_Skip :=
  sndC hmix o87 A_cbor_Skip Tryz.func104 (done_cons rfl cbor_Skip_L0_ok done_nil) (by kernel_rfl) (by kernel_rfl) fun x => by kernel_rfl

def c88 : List (Ct T) := ⟨104, none, S_cbor_Skip, true⟩ :: c87
theorem o88 : EnvOk Tryz.prog (mE c88) := eCons cbor_Skip_ok o87

def c89 : List (Ct T) := ⟨105, none, S_slices_Clone, false⟩ :: c88
theorem o89 : EnvOk Tryz.prog (mE c89) := eCons slices_Clone_ok o88

abbrev Y_cbor_Lookup_L0 := ((List (ApiItem)) × (BitVec 64) × Int × (BitVec 64) × (BitVec 64) × Unit)
abbrev Z_cbor_Lookup_L0 := (((List (ApiItem)) × Bool × Unit) ⊕ (Unit))

def cbor_Lookup_L0b (y0 : (List (ApiItem))) (y1 : (BitVec 64)) (y2 : Int) (y3 : (BitVec 64)) (y4 : (BitVec 64)) : Option (Y_cbor_Lookup_L0 ⊕ Z_cbor_Lookup_L0) :=
 (bif (decide (y4.toNat < y3.toNat)) then ((cbor_Skip y0 (IntKind.wrap .i64 (y2 + (1 : Int)))).bind fun r4 => (bif (!r4.2.2.1) then (some (Sum.inr (Sum.inl ([], false, ()))))
 else ((getI y0 y2).bind fun x5 => (bif (decide (x5.kind = (1 : Int))) then ((getI y0 y2).bind fun x6 => (bif (decide (x6.number = y1)) then (bif (decide ((0 : Int) ≤ r4.2.1) && decide (r4.2.1 ≤ ((y0).length : Int))) then (bif (decide ((0 : Int) ≤ (IntKind.wrap .i64 (y2 + (1 : Int)))) && decide ((IntKind.wrap .i64 (y2 + (1 : Int))) ≤ ((r4.2.1).toNat : Int))) then (let v7 : List (ApiItem) := (List.drop ((IntKind.wrap .i64 (y2 + (1 : Int)))).toNat (List.take (r4.2.1).toNat y0))
 ((slices_Clone v7).bind fun r8 => (some (Sum.inr (Sum.inl (r8.2.1, true, ()))))))
 else none)
 else none)
 else (some (Sum.inl (y0, y1, r4.2.1, y3, (y4 + 1#64), ())))))
 else (some (Sum.inl (y0, y1, r4.2.1, y3, (y4 + 1#64), ())))))))
 else (some (Sum.inr (Sum.inr ()))))

def cbor_Lookup_L0 (y : Y_cbor_Lookup_L0) : Option Z_cbor_Lookup_L0 := iter (fun (y : Y_cbor_Lookup_L0) => cbor_Lookup_L0b y.1 y.2.1 y.2.2.1 y.2.2.2.1 y.2.2.2.2.1) rounds y

def cbor_Lookup (a0 : (List (ApiItem))) (a1 : (BitVec 64)) : Option ((Unit) × ((List (ApiItem)) × Bool × Unit)) :=
 ((cbor_Validate a0).bind fun r1 => (bif (!decide (r1.2.1 = (0 : Int))) then (some ((), ([], false, ())))
 else ((getI a0 (0 : Int)).bind fun x2 => (bif (!decide (x2.kind = (6 : Int))) then (some ((), ([], false, ())))
 else ((getI a0 (0 : Int)).bind fun x3 => ((cbor_Lookup_L0 (a0, a1, (1 : Int), x3.number, 0#64, ())).bind (Sum.elim (fun (z9 : ((List (ApiItem)) × Bool × Unit)) => (some ((), (z9.1, z9.2.1, ())))) (fun (z10 : (Unit)) => (some ((), ([], false, ())))))))))))

def S_cbor_Lookup : FSpec T := ⟨[.f (.v (.rs 1)), .f (.v .u64)], [(.own 1), (.v .bool)], fun x => cbor_Lookup x.1 x.2.1⟩

def E_cbor_Lookup : Env T := ⟨tab.find, cd, globs, flc, fun f ds => match f with
    | 78 => some S_cbor_Validate
    | 104 => some S_cbor_Skip
    | 105 => some S_slices_Clone
    | _ => none, fun f => match f with
    | 78 => true
    | 104 => true
    | _ => false⟩

def A_cbor_Lookup : Loc2 T := ⟨fun id => match id with
    | 0 => some ⟨[(0, .f (.v (.rs 1))), (1, .f (.v .u64)), (6, .f (.v (.int .i64))), (22, .f (.v .u64)), (23, .f (.v .u64))], [(.ret, [(4, .f (.own 1)), (5, .f (.v .bool))]), (.exit 0, [])], cbor_Lookup_L0, []⟩
    | _ => none, fun r => match r with
    | _ => none, fun r => match r with
    | _ => false⟩

theorem cbor_Lookup_L0_eq (y0 : (List (ApiItem))) (y1 : (BitVec 64)) (y2 : Int) (y3 : (BitVec 64)) (y4 : (BitVec 64)) : run E_cbor_Lookup A_cbor_Lookup (loopAt 0 (Tryz.f85.body.getD .skip)) (layC cd [(0, .f (.v (.rs 1))), (1, .f (.v .u64)), (6, .f (.v (.int .i64))), (22, .f (.v .u64)), (23, .f (.v .u64))] [] (y0, y1, y2, y3, y4, ())) (roundK cd [(0, .f (.v (.rs 1))), (1, .f (.v .u64)), (6, .f (.v (.int .i64))), (22, .f (.v .u64)), (23, .f (.v .u64))] [] [(.ret, [(4, .f (.own 1)), (5, .f (.v .bool))]), (.exit 0, [])]) = cbor_Lookup_L0b y0 y1 y2 y3 y4 := by kernel_rfl

theorem cbor_Lookup_eq (x : tySs T S_cbor_Lookup.ps) : run E_cbor_Lookup A_cbor_Lookup (Tryz.f85.body.getD .skip) (enterT E_cbor_Lookup.C S_cbor_Lookup.ps x) (retK E_cbor_Lookup Tryz.f85.results.toList S_cbor_Lookup.ps S_cbor_Lookup.rs) = S_cbor_Lookup.fn x := by kernel_rfl

theorem cbor_Lookup_env : EnvOk Tryz.prog E_cbor_Lookup := envOk (E := E_cbor_Lookup) cd_ok tys fl_ok fun f ds S h => by
    dsimp only [E_cbor_Lookup] at h
    split at h
    · cases h; exact cbor_Validate_ok
    · cases h; exact cbor_Skip_ok
    · cases h; exact slices_Clone_ok
    · cases h

theorem cbor_Lookup_L0_ok : LoopOk Tryz.prog E_cbor_Lookup Tryz.f85.ntmps (kqOf S_cbor_Lookup.ps 0) (loopAt 0 (Tryz.f85.body.getD .skip)) ⟨[(0, .f (.v (.rs 1))), (1, .f (.v .u64)), (6, .f (.v (.int .i64))), (22, .f (.v .u64)), (23, .f (.v .u64))], [(.ret, [(4, .f (.own 1)), (5, .f (.v .bool))]), (.exit 0, [])], cbor_Lookup_L0, []⟩ :=
  loop_ok (A := A_cbor_Lookup) (done := []) (c0 := (Tryz.f85.body.getD .skip)) hmix cbor_Lookup_env done_nil rounds (by kernel_rfl) (by kernel_rfl) (fun x => cbor_Lookup_L0_eq x.1 x.2.1 x.2.2.1 x.2.2.2.1 x.2.2.2.2.1) (fun _ => rfl)

theorem cbor_Lookup_ok : SoundT Tryz.prog cd gdn 85 S_cbor_Lookup :=
  sound_fn (E := E_cbor_Lookup) (A := A_cbor_Lookup) (done := [0]) (c := (Tryz.f85.body.getD .skip)) (S := S_cbor_Lookup) (fn := Tryz.f85) hmix cbor_Lookup_env Tryz.func85 rfl (by kernel_rfl) (by kernel_rfl) (done_cons rfl cbor_Lookup_L0_ok done_nil) (by kernel_rfl) (by kernel_rfl) cbor_Lookup_eq

def c90 : List (Ct T) := ⟨85, none, S_cbor_Lookup, false⟩ :: c89
theorem o90 : EnvOk Tryz.prog (mE c90) := eCons cbor_Lookup_ok o89

def credential_field (a0 : (List (ApiItem))) (a1 : (BitVec 64)) : Option ((Unit) × (ApiItem × Unit)) :=
 ((cbor_Lookup a0 a1).bind fun r1 => (bif (!r1.2.2.1) then (some ((), ((⟨(0 : Int), 0#64, ([] : List UInt8)⟩ : ApiItem), ())))
 else (bif (decide (((r1.2.1).length : Int) = (0 : Int))) then (some ((), ((⟨(0 : Int), 0#64, ([] : List UInt8)⟩ : ApiItem), ())))
 else (bif decide ((0 : Int) < ((r1.2.1).length : Int)) then (((r1.2.1)[0]?).bind fun x2 => (some ((), (x2, ()))))
 else none))))

def S_credential_field : FSpec T := ⟨[.f (.v (.rs 1)), .f (.v .u64)], [(.v (.agg 1))], fun x => credential_field x.1 x.2.1⟩

theorem credential_field_ok : SoundT Tryz.prog cd gdn 55 S_credential_field :=
  sndC hmix o90 (lcA [] [] []) Tryz.func55 done_nil (by kernel_rfl) (by kernel_rfl) fun x => by kernel_rfl

def c91 : List (Ct T) := ⟨55, none, S_credential_field, true⟩ :: c90
theorem o91 : EnvOk Tryz.prog (mE c91) := eCons credential_field_ok o90

def bytes_Equal (a0 : (List (UInt8))) (a1 : (List (UInt8))) : Option ((Unit) × (Bool × Unit)) :=
 (some ((), ((decide (a0 = a1)), ())))

def S_bytes_Equal : FSpec T := ⟨[.f (.v (.rs 0)), .f (.v (.rs 0))], [(.v .bool)], fun x => bytes_Equal x.1 x.2.1⟩

theorem bytes_Equal_ok : SoundT Tryz.prog cd gdn 56 S_bytes_Equal :=
  sndC hmix o91 (lcA [] [] []) Tryz.func56 done_nil (by kernel_rfl) (by kernel_rfl) fun x => by kernel_rfl

def c92 : List (Ct T) := ⟨56, none, S_bytes_Equal, true⟩ :: c91
theorem o92 : EnvOk Tryz.prog (mE c92) := eCons bytes_Equal_ok o91

def credential_Decode (a0 : (List (UInt8))) : Option ((Unit) × (ApiCredential × Int × Unit)) :=
 ((cbor_Decode a0).bind fun r1 => (bif (!decide (r1.2.2.2.1 = (0 : Int))) then (some ((), ((⟨([] : List UInt8), ([] : List UInt8), ([] : List UInt8), 0#64, (0 : Int), false, (0 : Int), false, false⟩ : ApiCredential), (2 : Int), ())))
 else ((credential_field r1.2.1 (1#64)).bind fun r2 => ((credential_field r1.2.1 (2#64)).bind fun r3 => ((credential_field r1.2.1 (3#64)).bind fun r4 => ((credential_field r1.2.1 (4#64)).bind fun r5 => ((credential_field r1.2.1 (5#64)).bind fun r6 => ((credential_field r1.2.1 (6#64)).bind fun r7 => ((credential_field r1.2.1 (7#64)).bind fun r8 => ((credential_field r1.2.1 (8#64)).bind fun r9 => ((credential_field r1.2.1 (9#64)).bind fun r10 => ((credential_Encode (⟨r2.2.1.data, r3.2.1.data, r4.2.1.data, r5.2.1.number, (IntKind.wrap .i64 (r6.2.1.number.toNat : Int)), (decide (r7.2.1.number = 1#64)), (IntKind.wrap .i64 (r8.2.1.number.toNat : Int)), (decide (r9.2.1.number = 1#64)), (decide (r10.2.1.number = 1#64))⟩ : ApiCredential)).bind fun r11 => (bif (!decide (r11.2.2.1 = (0 : Int))) then (some ((), ((⟨([] : List UInt8), ([] : List UInt8), ([] : List UInt8), 0#64, (0 : Int), false, (0 : Int), false, false⟩ : ApiCredential), (2 : Int), ())))
 else ((bytes_Equal r11.2.1 a0).bind fun r12 => (bif (!r12.2.1) then (some ((), ((⟨([] : List UInt8), ([] : List UInt8), ([] : List UInt8), 0#64, (0 : Int), false, (0 : Int), false, false⟩ : ApiCredential), (2 : Int), ())))
 else (some ((), ((⟨r2.2.1.data, r3.2.1.data, r4.2.1.data, r5.2.1.number, (IntKind.wrap .i64 (r6.2.1.number.toNat : Int)), (decide (r7.2.1.number = 1#64)), (IntKind.wrap .i64 (r8.2.1.number.toNat : Int)), (decide (r9.2.1.number = 1#64)), (decide (r10.2.1.number = 1#64))⟩ : ApiCredential), (0 : Int), ()))))))))))))))))))

def S_credential_Decode : FSpec T := ⟨[.f (.v (.rs 0))], [(.v (.agg 7)), (.v (.int .i64))], fun x => credential_Decode x.1⟩

theorem credential_Decode_ok : SoundT Tryz.prog cd gdn 33 S_credential_Decode :=
  sndC hmix o92 (lcA [] [] []) Tryz.func33 done_nil (by kernel_rfl) (by kernel_rfl) fun x => by kernel_rfl

def c93 : List (Ct T) := ⟨33, none, S_credential_Decode, true⟩ :: c92
theorem o93 : EnvOk Tryz.prog (mE c93) := eCons credential_Decode_ok o92

abbrev Y_bytes_trimRightByte_L0 := ((List (UInt8)) × UInt8 × Unit)
abbrev Z_bytes_trimRightByte_L0 := ((List (UInt8)) × Unit)

def bytes_trimRightByte_L0b (y0 : (List (UInt8))) (y1 : UInt8) : Option (Y_bytes_trimRightByte_L0 ⊕ Z_bytes_trimRightByte_L0) :=
 (bif (decide ((0 : Int) < ((y0).length : Int))) then ((getI y0 (IntKind.wrap .i64 (((y0).length : Int) - (1 : Int)))).bind fun x1 => (bif (decide (x1.toBitVec = y1.toBitVec)) then (bif (decide ((0 : Int) ≤ (IntKind.wrap .i64 (((y0).length : Int) - (1 : Int)))) && decide ((IntKind.wrap .i64 (((y0).length : Int) - (1 : Int))) ≤ ((y0).length : Int))) then (let v2 : List (UInt8) := (List.take ((IntKind.wrap .i64 (((y0).length : Int) - (1 : Int)))).toNat y0)
 (some (Sum.inl (v2, y1, ()))))
 else none)
 else (some (Sum.inr (y0, ())))))
 else (some (Sum.inr (y0, ()))))

def bytes_trimRightByte_L0 (y : Y_bytes_trimRightByte_L0) : Option Z_bytes_trimRightByte_L0 := iter (fun (y : Y_bytes_trimRightByte_L0) => bytes_trimRightByte_L0b y.1 y.2.1) rounds y

def bytes_trimRightByte (a0 : (List (UInt8))) (a1 : UInt8) : Option ((Unit) × ((List (UInt8)) × Unit)) :=
 ((bytes_trimRightByte_L0 (a0, a1, ())).bind (fun (z3 : ((List (UInt8)) × Unit)) => (some ((), (z3.1, ())))))

def S_bytes_trimRightByte : FSpec T := ⟨[.f (.v (.rs 0)), .f (.v .u8)], [(.v (.rs 0))], fun x => bytes_trimRightByte x.1 x.2.1⟩

def s_bytes_trimRightByte_L0 : LSpec T := ⟨[(0, .f (.v (.rs 0))), (1, .f (.v .u8))], [(.exit 0, [(0, .f (.v (.rs 0)))])], bytes_trimRightByte_L0, []⟩

def A_bytes_trimRightByte : Loc2 T := lcA [(0, s_bytes_trimRightByte_L0)] [] []

theorem bytes_trimRightByte_L0_ok : LoopOk Tryz.prog (mE c93) Tryz.f58.ntmps (kqOf S_bytes_trimRightByte.ps 0) (loopAt 0 (bodyOf Tryz.f58)) s_bytes_trimRightByte_L0 :=
  lpC hmix o93 A_bytes_trimRightByte done_nil 0 (st := fun y => bytes_trimRightByte_L0b y.1 y.2.1) (fun _ => rfl) (by kernel_rfl) (by kernel_rfl) fun x => by kernel_rfl

theorem bytes_trimRightByte_ok : SoundT Tryz.prog cd gdn 58 S_bytes_trimRightByte :=
  sndC hmix o93 A_bytes_trimRightByte Tryz.func58 (done_cons rfl bytes_trimRightByte_L0_ok done_nil) (by kernel_rfl) (by kernel_rfl) fun x => by kernel_rfl

def c94 : List (Ct T) := ⟨58, none, S_bytes_trimRightByte, false⟩ :: c93
theorem o94 : EnvOk Tryz.prog (mE c94) := eCons bytes_trimRightByte_ok o93

abbrev Y_bytes_trimLeftByte_L0 := ((List (UInt8)) × UInt8 × Unit)
abbrev Z_bytes_trimLeftByte_L0 := ((List (UInt8)) × Unit)

def bytes_trimLeftByte_L0b (y0 : (List (UInt8))) (y1 : UInt8) : Option (Y_bytes_trimLeftByte_L0 ⊕ Z_bytes_trimLeftByte_L0) :=
 (bif (decide ((0 : Int) < ((y0).length : Int))) then ((getI y0 (0 : Int)).bind fun x1 => (bif (decide (x1.toBitVec = y1.toBitVec)) then (bif decide ((1 : Int) ≤ ((y0).length : Int)) then (some (Sum.inl ((List.drop 1 y0), y1, ())))
 else none)
 else (some (Sum.inr (y0, ())))))
 else (some (Sum.inr (y0, ()))))

def bytes_trimLeftByte_L0 (y : Y_bytes_trimLeftByte_L0) : Option Z_bytes_trimLeftByte_L0 := iter (fun (y : Y_bytes_trimLeftByte_L0) => bytes_trimLeftByte_L0b y.1 y.2.1) rounds y

def bytes_trimLeftByte (a0 : (List (UInt8))) (a1 : UInt8) : Option ((Unit) × ((List (UInt8)) × Unit)) :=
 ((bytes_trimLeftByte_L0 (a0, a1, ())).bind (fun (z2 : ((List (UInt8)) × Unit)) => (bif (decide (((z2.1).length : Int) = (0 : Int))) then (some ((), ([], ())))
 else (some ((), (z2.1, ()))))))

def S_bytes_trimLeftByte : FSpec T := ⟨[.f (.v (.rs 0)), .f (.v .u8)], [(.v (.rs 0))], fun x => bytes_trimLeftByte x.1 x.2.1⟩

def s_bytes_trimLeftByte_L0 : LSpec T := ⟨[(0, .f (.v (.rs 0))), (1, .f (.v .u8))], [(.exit 0, [(0, .f (.v (.rs 0)))])], bytes_trimLeftByte_L0, []⟩

def A_bytes_trimLeftByte : Loc2 T := lcA [(0, s_bytes_trimLeftByte_L0)] [] []

theorem bytes_trimLeftByte_L0_ok : LoopOk Tryz.prog (mE c94) Tryz.f57.ntmps (kqOf S_bytes_trimLeftByte.ps 0) (loopAt 0 (bodyOf Tryz.f57)) s_bytes_trimLeftByte_L0 :=
  lpC hmix o94 A_bytes_trimLeftByte done_nil 0 (st := fun y => bytes_trimLeftByte_L0b y.1 y.2.1) (fun _ => rfl) (by kernel_rfl) (by kernel_rfl) fun x => by kernel_rfl

theorem bytes_trimLeftByte_ok : SoundT Tryz.prog cd gdn 57 S_bytes_trimLeftByte :=
  sndC hmix o94 A_bytes_trimLeftByte Tryz.func57 (done_cons rfl bytes_trimLeftByte_L0_ok done_nil) (by kernel_rfl) (by kernel_rfl) fun x => by kernel_rfl

def c95 : List (Ct T) := ⟨57, none, S_bytes_trimLeftByte, false⟩ :: c94
theorem o95 : EnvOk Tryz.prog (mE c95) := eCons bytes_trimLeftByte_ok o94

def bytes_Trim (a0 : (List (UInt8))) (a1 : (List UInt8)) : Option ((Unit) × ((List (UInt8)) × Unit)) :=
 (bif (decide (((a0).length : Int) = (0 : Int))) then (some ((), ([], ())))
 else (bif (decide (a1 = ([] : List UInt8))) then (some ((), (a0, ())))
 else (bif (decide (((a1).length : Int) = (1 : Int))) then ((getI a1 (0 : Int)).bind fun x1 => (bif (decide (x1.toBitVec.toNat < (128 : UInt8).toBitVec.toNat)) then ((getI a1 (0 : Int)).bind fun x2 => ((bytes_trimRightByte a0 x2).bind fun r3 => ((getI a1 (0 : Int)).bind fun x4 => ((bytes_trimLeftByte r3.2.1 x4).bind fun r5 => (some ((), (r5.2.1, ())))))))
 else none))
 else none)))

def S_bytes_Trim : FSpec T := ⟨[.f (.v (.rs 0)), .f (.v .str)], [(.v (.rs 0))], fun x => bytes_Trim x.1 x.2.1⟩

theorem bytes_Trim_ok : SoundT Tryz.prog cd gdn 34 S_bytes_Trim :=
  sndC hmix o95 (lcA [] [] []) Tryz.func34 done_nil (by kernel_rfl) (by kernel_rfl) fun x => by kernel_rfl

def c96 : List (Ct T) := ⟨34, none, S_bytes_Trim, false⟩ :: c95
theorem o96 : EnvOk Tryz.prog (mE c96) := eCons bytes_Trim_ok o95

def credential_Unwrap (a0 : (BitVec 64)) (a1 : (List UInt8)) (a2 : (List (UInt8))) : Option ((Unit) × (ApiCredential × Int × Unit)) :=
 (bif (!decide (((a2).length : Int) = (176 : Int))) then (some ((), ((⟨([] : List UInt8), ([] : List UInt8), ([] : List UInt8), 0#64, (0 : Int), false, (0 : Int), false, false⟩ : ApiCredential), (4 : Int), ())))
 else ((credential_wrapKey a0).bind fun r1 => ((credential_bound a1).bind fun r2 => ((seal_Open r1.2.1 r2.2.1 a2).bind fun r3 => (bif (!decide (r3.2.2.1 = (0 : Int))) then (some ((), ((⟨([] : List UInt8), ([] : List UInt8), ([] : List UInt8), 0#64, (0 : Int), false, (0 : Int), false, false⟩ : ApiCredential), r3.2.2.1, ())))
 else ((cbor_Decode r3.2.1).bind fun r4 => (bif (!decide (r4.2.2.2.1 = (0 : Int))) then (some ((), ((⟨([] : List UInt8), ([] : List UInt8), ([] : List UInt8), 0#64, (0 : Int), false, (0 : Int), false, false⟩ : ApiCredential), (2 : Int), ())))
 else (bif (decide (r4.2.2.1 < (0 : Int))) then (some ((), ((⟨([] : List UInt8), ([] : List UInt8), ([] : List UInt8), 0#64, (0 : Int), false, (0 : Int), false, false⟩ : ApiCredential), (2 : Int), ())))
 else (bif (decide (((r3.2.1).length : Int) < r4.2.2.1)) then (some ((), ((⟨([] : List UInt8), ([] : List UInt8), ([] : List UInt8), 0#64, (0 : Int), false, (0 : Int), false, false⟩ : ApiCredential), (2 : Int), ())))
 else (bif (decide ((0 : Int) ≤ r4.2.2.1) && decide (r4.2.2.1 ≤ ((r3.2.1).length : Int))) then (bif decide ((r4.2.2.1).toNat ≤ (r3.2.1).length) then ((credential_Decode (List.take (r4.2.2.1).toNat r3.2.1)).bind fun r5 => (bif (!decide (r5.2.2.1 = (0 : Int))) then (some ((), ((⟨([] : List UInt8), ([] : List UInt8), ([] : List UInt8), 0#64, (0 : Int), false, (0 : Int), false, false⟩ : ApiCredential), (2 : Int), ())))
 else (bif (!decide (((r3.2.1).length : Int) = (160 : Int))) then (some ((), ((⟨([] : List UInt8), ([] : List UInt8), ([] : List UInt8), 0#64, (0 : Int), false, (0 : Int), false, false⟩ : ApiCredential), (2 : Int), ())))
 else (bif (decide ((0 : Int) ≤ r4.2.2.1) && decide (r4.2.2.1 ≤ ((r3.2.1).length : Int))) then (bif decide (((r3.2.1).length - (r4.2.2.1).toNat) + (r4.2.2.1).toNat ≤ (r3.2.1).length) then ((bytes_Trim (List.take ((r3.2.1).length - (r4.2.2.1).toNat) (List.drop (r4.2.2.1).toNat r3.2.1)) ([0] : List UInt8)).bind fun r6 => (bif (decide ((0 : Int) < ((r6.2.1).length : Int))) then (some ((), ((⟨([] : List UInt8), ([] : List UInt8), ([] : List UInt8), 0#64, (0 : Int), false, (0 : Int), false, false⟩ : ApiCredential), (2 : Int), ())))
 else (bif r5.2.1.resident then (some ((), ((⟨([] : List UInt8), ([] : List UInt8), ([] : List UInt8), 0#64, (0 : Int), false, (0 : Int), false, false⟩ : ApiCredential), (11 : Int), ())))
 else (bif (!decide (r5.2.1.rP = a1)) then (some ((), ((⟨([] : List UInt8), ([] : List UInt8), ([] : List UInt8), 0#64, (0 : Int), false, (0 : Int), false, false⟩ : ApiCredential), (11 : Int), ())))
 else (some ((), (r5.2.1, (0 : Int), ())))))))
 else none)
 else none))))
 else none)
 else none))))))))))

def S_credential_Unwrap : FSpec T := ⟨[.f (.v .u64), .f (.v .str), .f (.v (.rs 0))], [(.v (.agg 7)), (.v (.int .i64))], fun x => credential_Unwrap x.1 x.2.1 x.2.2.1⟩

theorem credential_Unwrap_ok : SoundT Tryz.prog cd gdn 17 S_credential_Unwrap :=
  sndC hmix o96 (lcA [] [] []) Tryz.func17 done_nil (by kernel_rfl) (by kernel_rfl) fun x => by kernel_rfl

def c97 : List (Ct T) := ⟨17, none, S_credential_Unwrap, true⟩ :: c96
theorem o97 : EnvOk Tryz.prog (mE c97) := eCons credential_Unwrap_ok o96

def passkeylaw15_awake : Option ((Unit) × (Bool × Unit)) :=
 ((credential_ID (7#64) (8#64) (⟨([97, 46, 101, 120, 97, 109, 112, 108, 101] : List UInt8), ([117] : List UInt8), ([] : List UInt8), 3#64, (1 : Int), false, (1 : Int), false, false⟩ : ApiCredential)).bind fun r1 => ((credential_Unwrap (7#64) ([97, 46, 101, 120, 97, 109, 112, 108, 101] : List UInt8) r1.2.1).bind fun r2 => ((credential_Unwrap (7#64) ([98, 46, 101, 120, 97, 109, 112, 108, 101] : List UInt8) r1.2.1).bind fun r3 => (bif (decide (r1.2.2.1 = (0 : Int))) then (bif (decide (r2.2.2.1 = (0 : Int))) then (bif (decide (r3.2.2.1 = (14 : Int))) then (let v4 : Bool := (decide (r2.2.1.rP = ([97, 46, 101, 120, 97, 109, 112, 108, 101] : List UInt8)) && (decide (r2.2.1.user = ([117] : List UInt8)) && (decide (r2.2.1.name = ([] : List UInt8)) && (decide (r2.2.1.seed = 3#64) && (decide (r2.2.1.height = (1 : Int)) && ((r2.2.1.resident == false) && (decide (r2.2.1.protect = (1 : Int)) && ((r2.2.1.shared == false) && ((r2.2.1.backed == false) && true)))))))))
 (bif v4 then (bif (decide (((r1.2.1).length : Int) = (176 : Int))) then ((credential_Validate (⟨([] : List UInt8), ([] : List UInt8), ([] : List UInt8), 0#64, (0 : Int), false, (0 : Int), false, false⟩ : ApiCredential)).bind fun r5 => (some ((), ((decide (r5.2.1 = (9 : Int))), ()))))
 else (some ((), (false, ()))))
 else (some ((), (false, ())))))
 else (some ((), (false, ()))))
 else (some ((), (false, ()))))
 else (some ((), (false, ())))))))

def S_passkeylaw15_awake : FSpec T := ⟨[], [(.v .bool)], fun x => passkeylaw15_awake ⟩

theorem passkeylaw15_awake_ok : SoundT Tryz.prog cd gdn 8 S_passkeylaw15_awake :=
  sndC hmix o97 (lcA [] [] []) Tryz.func8 done_nil (by kernel_rfl) (by kernel_rfl) fun x => by kernel_rfl

def c98 : List (Ct T) := ⟨8, none, S_passkeylaw15_awake, true⟩ :: c97
theorem o98 : EnvOk Tryz.prog (mE c98) := eCons passkeylaw15_awake_ok o97

def passkeylaw15_CredentialKeys (a0 : Int) (a1 : Int) : Option ((Unit) × (Bool × Unit)) :=
 (let v1 : Int := (IntKind.wrap .i64 ((BitVec.ofInt (IntKind.bits .i64) a0 &&& BitVec.ofInt (IntKind.bits .i64) (1048575 : Int)).toNat : Int))
 ((passkeybase_Credential v1).bind fun r2 => ((passkeylaw15_spoil r2.2.1 a1).bind fun r3 => ((credential_Key r3.2.1).bind fun r4 => ((passkeyref14_Key r3.2.1).bind fun r5 => (bif (decide (r4.2.1.height = r5.2.1.height) && (decide (r4.2.1.root = r5.2.1.root) && true)) then (bif (decide (r4.2.2.1 = r5.2.2.1)) then ((passkeylaw15_awake).bind fun r6 => (some ((), (r6.2.1, ()))))
 else (some ((), (false, ()))))
 else (some ((), (false, ())))))))))

def S_passkeylaw15_CredentialKeys : FSpec T := ⟨[.f (.v (.int .i64)), .f (.v (.int .i64))], [(.v .bool)], fun x => passkeylaw15_CredentialKeys x.1 x.2.1⟩

theorem passkeylaw15_CredentialKeys_ok : SoundT Tryz.prog cd gdn 3 S_passkeylaw15_CredentialKeys :=
  sndC hmix o98 (lcA [] [] []) Tryz.func3 done_nil (by kernel_rfl) (by kernel_rfl) fun x => by kernel_rfl

def c99 : List (Ct T) := ⟨3, none, S_passkeylaw15_CredentialKeys, true⟩ :: c98
theorem o99 : EnvOk Tryz.prog (mE c99) := eCons passkeylaw15_CredentialKeys_ok o98

def CredentialKeys_dom (a0 : Int) (a1 : Int) : Prop := ArgD cd [(.int .i64), (.int .i64)] (a0, a1, ())
end Go.Proofs.YteenkpgjcbhonaaGreatDoor

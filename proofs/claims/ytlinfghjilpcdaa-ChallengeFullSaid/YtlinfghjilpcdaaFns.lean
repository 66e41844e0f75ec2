/- The functions of the program, as plain functions, and that the program computes them. Written by a program. -/
import Derived.Test.YtlinfghjilpcdaaTyZb
import Derived.Test.YtlinfghjilpcdaaTyZd
import Derived.Test.YtlinfghjilpcdaaProg
import Derived.WalkKit
set_option linter.unusedVariables false
set_option maxRecDepth 100000
namespace Go.Proofs.Ytlinfghjilpcdaa
open Go Go.Abs
structure ApiChallenge where
  number : Int
  kind : Int
  account : List UInt8
  bound : Bool
  since : Int
  deriving DecidableEq, Inhabited

structure ApiChallenges where
  secret : BitVec 64
  count : Int
  open_ : List ApiChallenge
  deriving DecidableEq, Inhabited

structure DigestState where
  v0 : BitVec 64
  v1 : BitVec 64
  v2 : BitVec 64
  v3 : BitVec 64
  deriving DecidableEq, Inhabited

structure PasskeycastDeck where
  l : List Int
  at_ : Int
  deriving DecidableEq, Inhabited

structure Arr4_BitVec64 where
  a0 : BitVec 64
  a1 : BitVec 64
  a2 : BitVec 64
  a3 : BitVec 64
  deriving DecidableEq, Inhabited

abbrev T : Nat → Type
  | 0 => UInt8
  | 1 => Int
  | 2 => ApiChallenge
  | 3 => ApiChallenges
  | 4 => BitVec 64
  | 5 => DigestState
  | 6 => PasskeycastDeck
  | 7 => List UInt8
  | 8 => List UInt8
  | 9 => Arr4_BitVec64
  | 10 => Bool
  | _ => Unit

def lfs : Nat → List Lf
  | 0 => [.u8]
  | 1 => [.int .i64]
  | 2 => [.int .i64, .int .i64, .str, .bool, .int .i64]
  | 3 => [.u64, .int .i64, .rs 2]
  | 4 => [.u64]
  | 5 => [.u64, .u64, .u64, .u64]
  | 6 => [.rs 1, .int .i64]
  | 7 => [.rs 0]
  | 8 => [.str]
  | 9 => [.u64, .u64, .u64, .u64]
  | 10 => [.bool]
  | _ => []

def to0 (x : UInt8) : tyLs T (lfs 0) := (x, ())
def of0 (y : tyLs T (lfs 0)) : UInt8 := y.1
def eD0 (x : UInt8) : List D := [.int .u8 x.toNat]
def to1 (x : Int) : tyLs T (lfs 1) := (x, ())
def of1 (y : tyLs T (lfs 1)) : Int := y.1
def eD1 (x : Int) : List D := [.int .i64 x]
def to2 (x : ApiChallenge) : tyLs T (lfs 2) := (x.number, x.kind, x.account, x.bound, x.since, ())
def of2 (y : tyLs T (lfs 2)) : ApiChallenge := ⟨y.1, y.2.1, y.2.2.1, y.2.2.2.1, y.2.2.2.2.1⟩
def eD2 (x : ApiChallenge) : List D := [.int .i64 x.number, .int .i64 x.kind, .str x.account, .bool x.bound, .int .i64 x.since]
def to3 (x : ApiChallenges) : tyLs T (lfs 3) := (x.secret, x.count, x.open_, ())
def of3 (y : tyLs T (lfs 3)) : ApiChallenges := ⟨y.1, y.2.1, y.2.2.1⟩
def eD3 (x : ApiChallenges) : List D := [.int .u64 x.secret.toNat, .int .i64 x.count, .rs 5 (x.open_.map eD2)]
def to4 (x : BitVec 64) : tyLs T (lfs 4) := (x, ())
def of4 (y : tyLs T (lfs 4)) : BitVec 64 := y.1
def eD4 (x : BitVec 64) : List D := [.int .u64 x.toNat]
def to5 (x : DigestState) : tyLs T (lfs 5) := (x.v0, x.v1, x.v2, x.v3, ())
def of5 (y : tyLs T (lfs 5)) : DigestState := ⟨y.1, y.2.1, y.2.2.1, y.2.2.2.1⟩
def eD5 (x : DigestState) : List D := [.int .u64 x.v0.toNat, .int .u64 x.v1.toNat, .int .u64 x.v2.toNat, .int .u64 x.v3.toNat]
def to6 (x : PasskeycastDeck) : tyLs T (lfs 6) := (x.l, x.at_, ())
def of6 (y : tyLs T (lfs 6)) : PasskeycastDeck := ⟨y.1, y.2.1⟩
def eD6 (x : PasskeycastDeck) : List D := [.rs 1 (x.l.map eD1), .int .i64 x.at_]
def to7 (x : List UInt8) : tyLs T (lfs 7) := (x, ())
def of7 (y : tyLs T (lfs 7)) : List UInt8 := y.1
def eD7 (x : List UInt8) : List D := [.rs 1 (x.map eD0)]
def to8 (x : List UInt8) : tyLs T (lfs 8) := (x, ())
def of8 (y : tyLs T (lfs 8)) : List UInt8 := y.1
def eD8 (x : List UInt8) : List D := [.str x]
def to9 (x : Arr4_BitVec64) : tyLs T (lfs 9) := (x.a0, x.a1, x.a2, x.a3, ())
def of9 (y : tyLs T (lfs 9)) : Arr4_BitVec64 := ⟨y.1, y.2.1, y.2.2.1, y.2.2.2.1⟩
def eD9 (x : Arr4_BitVec64) : List D := [.int .u64 x.a0.toNat, .int .u64 x.a1.toNat, .int .u64 x.a2.toNat, .int .u64 x.a3.toNat]
def to10 (x : Bool) : tyLs T (lfs 10) := (x, ())
def of10 (y : tyLs T (lfs 10)) : Bool := y.1
def eD10 (x : Bool) : List D := [.bool x]
def cd : Cd T where
  sz := fun c => match c with
    | 0 => 1
    | 1 => 1
    | 2 => 5
    | 3 => 3
    | 4 => 1
    | 5 => 4
    | 6 => 2
    | 7 => 1
    | 8 => 1
    | 9 => 4
    | 10 => 1
    | _ => 0
  encD := fun c x => match c, x with
    | 0, x => eD0 x
    | 1, x => eD1 x
    | 2, x => eD2 x
    | 3, x => eD3 x
    | 4, x => eD4 x
    | 5, x => eD5 x
    | 6, x => eD6 x
    | 7, x => eD7 x
    | 8, x => eD8 x
    | 9, x => eD9 x
    | 10, x => eD10 x
    | _, _ => []
  enc := fun c x => match c, x with
    | 0, x => encL (lfs 0) (to0 x)
    | 1, x => encL (lfs 1) (to1 x)
    | 2, x => encL (lfs 2) (to2 x)
    | 3, x => encL (lfs 3) (to3 x)
    | 4, x => encL (lfs 4) (to4 x)
    | 5, x => encL (lfs 5) (to5 x)
    | 6, x => encL (lfs 6) (to6 x)
    | 7, x => encL (lfs 7) (to7 x)
    | 8, x => encL (lfs 8) (to8 x)
    | 9, x => encL (lfs 9) (to9 x)
    | 10, x => encL (lfs 10) (to10 x)
    | _, _ => []
  dec := fun c ds => match c with
    | 0 => (decL (lfs 0) ds).map of0
    | 1 => (decL (lfs 1) ds).map of1
    | 2 => (decL (lfs 2) ds).map of2
    | 3 => (decL (lfs 3) ds).map of3
    | 4 => (decL (lfs 4) ds).map of4
    | 5 => (decL (lfs 5) ds).map of5
    | 6 => (decL (lfs 6) ds).map of6
    | 7 => (decL (lfs 7) ds).map of7
    | 8 => (decL (lfs 8) ds).map of8
    | 9 => (decL (lfs 9) ds).map of9
    | 10 => (decL (lfs 10) ds).map of10
    | _ => none
  bt := 0
  hb := rfl

theorem cd_ok : CdOk cd where
  len := fun c => match c with
    | 0 => fun _ => rfl
    | 1 => fun _ => rfl
    | 2 => fun _ => rfl
    | 3 => fun _ => rfl
    | 4 => fun _ => rfl
    | 5 => fun _ => rfl
    | 6 => fun _ => rfl
    | 7 => fun _ => rfl
    | 8 => fun _ => rfl
    | 9 => fun _ => rfl
    | 10 => fun _ => rfl
    | _ + 11 => fun _ => rfl
  enc := fun c => match c with
    | 0 => fun _ => rfl
    | 1 => fun _ => rfl
    | 2 => fun _ => rfl
    | 3 => fun _ => rfl
    | 4 => fun _ => rfl
    | 5 => fun _ => rfl
    | 6 => fun _ => rfl
    | 7 => fun _ => rfl
    | 8 => fun _ => rfl
    | 9 => fun _ => rfl
    | 10 => fun _ => rfl
    | _ + 11 => fun _ => rfl
  epure := fun c => match c with
    | 0 => fun _ => rfl
    | 1 => fun _ => rfl
    | 2 => fun _ => rfl
    | 3 => fun _ => rfl
    | 4 => fun _ => rfl
    | 5 => fun _ => rfl
    | 6 => fun _ => rfl
    | 7 => fun _ => rfl
    | 8 => fun _ => rfl
    | 9 => fun _ => rfl
    | 10 => fun _ => rfl
    | _ + 11 => fun _ => rfl
  byte := fun _ => rfl
  bsz := rfl
  dec := fun c => match c with
    | 0 => fun ds x h => dec_ok cd (c := 0) (lfs 0) (of := of0) (e := eD0) (fun _ => rfl) ds x h
    | 1 => fun ds x h => dec_ok cd (c := 1) (lfs 1) (of := of1) (e := eD1) (fun _ => rfl) ds x h
    | 2 => fun ds x h => dec_ok cd (c := 2) (lfs 2) (of := of2) (e := eD2) (fun _ => rfl) ds x h
    | 3 => fun ds x h => dec_ok cd (c := 3) (lfs 3) (of := of3) (e := eD3) (fun _ => rfl) ds x h
    | 4 => fun ds x h => dec_ok cd (c := 4) (lfs 4) (of := of4) (e := eD4) (fun _ => rfl) ds x h
    | 5 => fun ds x h => dec_ok cd (c := 5) (lfs 5) (of := of5) (e := eD5) (fun _ => rfl) ds x h
    | 6 => fun ds x h => dec_ok cd (c := 6) (lfs 6) (of := of6) (e := eD6) (fun _ => rfl) ds x h
    | 7 => fun ds x h => dec_ok cd (c := 7) (lfs 7) (of := of7) (e := eD7) (fun _ => rfl) ds x h
    | 8 => fun ds x h => dec_ok cd (c := 8) (lfs 8) (of := of8) (e := eD8) (fun _ => rfl) ds x h
    | 9 => fun ds x h => dec_ok cd (c := 9) (lfs 9) (of := of9) (e := eD9) (fun _ => rfl) ds x h
    | 10 => fun ds x h => dec_ok cd (c := 10) (lfs 10) (of := of10) (e := eD10) (fun _ => rfl) ds x h
    | _ + 11 => fun _ _ h => by cases h


def ti3 : TI := ⟨1, 1, 8, .int .i64, [.i .i64], [], [], none⟩
def ti4 : TI := ⟨10, 1, 1, .bool, [.b], [], [], none⟩
def ti5 : TI := ⟨0, 1, 1, .int .u8, [.i .u8], [], [], none⟩
def ti9 : TI := ⟨8, 1, 16, .str, [.s], [], [], none⟩
def ti22 : TI := ⟨4, 1, 8, .int .u64, [.i .u64], [], [], none⟩
def ti23 : TI := ⟨12, 1, 24, .slice 3, [.ns], [], [], none⟩
def ti24 : TI := ⟨7, 1, 24, .slice 5, [.ns], [], [], none⟩
def ti28 : TI := ⟨12, 1, 24, .slice 39, [.ns], [], [], none⟩
def ti30 : TI := ⟨3, 3, 40, .strct, [.i .u64, .i .i64, .ns], [some (0, 22), some (1, 3), some (2, 28)], [(0, 1), (1, 1), (2, 1)], none⟩
def ti32 : TI := ⟨12, 1, 24, .slice 24, [.ns], [], [], none⟩
def ti35 : TI := ⟨12, 1, 8, .int .i64, [.i .i64], [], [], none⟩
def ti39 : TI := ⟨2, 5, 48, .strct, [.i .i64, .i .i64, .s, .b, .i .i64], [some (0, 3), some (1, 3), some (2, 9), some (3, 4), some (4, 3)], [(0, 1), (1, 1), (2, 1), (3, 1), (4, 1)], some [3, 3, 2, 1, 3]⟩
def ti47 : TI := ⟨12, 1, 24, .slice 4, [.ns], [], [], none⟩
def ti48 : TI := ⟨12, 1, 8, .int .u64, [.i .u64], [], [], none⟩
def ti52 : TI := ⟨6, 2, 32, .strct, [.ns, .i .i64], [some (0, 23), some (1, 3)], [(0, 1), (1, 1)], none⟩
def ti54 : TI := ⟨12, 1, 24, .slice 9, [.ns], [], [], none⟩
def ti60 : TI := ⟨12, 1, 24, .slice 22, [.ns], [], [], none⟩
def ti63 : TI := ⟨5, 4, 32, .strct, [.i .u64, .i .u64, .i .u64, .i .u64], [some (0, 22), some (1, 22), some (2, 22), some (3, 22)], [(0, 1), (1, 1), (2, 1), (3, 1)], some [3, 3, 3, 3]⟩
def ti67 : TI := ⟨9, 4, 32, .arr 4 22, [.i .u64, .i .u64, .i .u64, .i .u64], [], [], none⟩
def tab : Tr := .node (.node (.node (.node (.node .leaf 3 ti3 .leaf) 4 ti4 .leaf) 5 ti5 (.node .leaf 9 ti9 .leaf)) 22 ti22 (.node (.node (.node .leaf 23 ti23 .leaf) 24 ti24 .leaf) 28 ti28 (.node .leaf 30 ti30 .leaf))) 32 ti32 (.node (.node (.node (.node .leaf 35 ti35 .leaf) 39 ti39 .leaf) 47 ti47 (.node .leaf 48 ti48 .leaf)) 52 ti52 (.node (.node (.node .leaf 54 ti54 .leaf) 60 ti60 .leaf) 63 ti63 (.node .leaf 67 ti67 .leaf)))

def globs : Nat → Option (List (DT T)) := fun _ => none
def flc : Nat → Bool := fun c => match c with
  | 0 => true
  | 1 => true
  | 2 => true
  | 3 => false
  | 4 => true
  | 5 => true
  | 6 => false
  | 7 => false
  | 8 => true
  | 9 => true
  | 10 => true
  | _ => false
theorem hmix : Try.prog.follows .mixedOrders = true := by kernel_rfl
theorem tys : TysOk Try.prog tab.find := tys_ok (by kernel_rfl)
abbrev gdn : Nat → Option (List D) := fun g => (globs g).map (denL cd)
theorem fl_ok : FlOk cd flc := fun c => match c with
  | 0 => fun h _ => rfl
  | 1 => fun h _ => rfl
  | 2 => fun h _ => rfl
  | 3 => fun h _ => by cases h
  | 4 => fun h _ => rfl
  | 5 => fun h _ => rfl
  | 6 => fun h _ => by cases h
  | 7 => fun h _ => by cases h
  | 8 => fun h _ => rfl
  | 9 => fun h _ => rfl
  | 10 => fun h _ => rfl
  | _ + 11 => fun h _ => by cases h
def challenge_New (a0 : (BitVec 64)) : Option ((Unit) × (ApiChallenges × Unit)) :=
 (some ((), ((⟨a0, (0 : Int), []⟩ : ApiChallenges), ())))

def S_challenge_New : FSpec T := ⟨[.f (.v .u64)], [(.v (.agg 3))], fun x => challenge_New x.1⟩

def E_challenge_New : Env T := ⟨tab.find, cd, globs, flc, fun f ds => match f with
    | _ => none, fun f => match f with
    | _ => false⟩

def A_challenge_New : Loc2 T := ⟨fun id => match id with
    | _ => none, fun r => match r with
    | _ => none, fun r => match r with
    | _ => false⟩

theorem challenge_New_eq (x : tySs T S_challenge_New.ps) : run E_challenge_New A_challenge_New (Try.f9.body.getD .skip) (enterT E_challenge_New.C S_challenge_New.ps x) (retK E_challenge_New Try.f9.results.toList S_challenge_New.ps S_challenge_New.rs) = S_challenge_New.fn x := by kernel_rfl

theorem challenge_New_env : EnvOk Try.prog E_challenge_New := envOk (E := E_challenge_New) cd_ok tys fl_ok fun f ds S h => by cases h

theorem challenge_New_ok : SoundT Try.prog cd gdn 9 S_challenge_New :=
  sound_fn (E := E_challenge_New) (A := A_challenge_New) (done := []) (c := (Try.f9.body.getD .skip)) (S := S_challenge_New) (fn := Try.f9) hmix challenge_New_env Try.func9 rfl (by kernel_rfl) (by kernel_rfl) done_nil (by kernel_rfl) (by kernel_rfl) challenge_New_eq

def challenge_isTime (a0 : Int) : Option ((Unit) × (Bool × Unit)) :=
 (bif (decide ((0 : Int) ≤ a0)) then (some ((), ((decide (a0 ≤ (1099511627776 : Int))), ())))
 else (some ((), (false, ()))))

def S_challenge_isTime : FSpec T := ⟨[.f (.v (.int .i64))], [(.v .bool)], fun x => challenge_isTime x.1⟩

def E_challenge_isTime : Env T := ⟨tab.find, cd, globs, flc, fun f ds => match f with
    | _ => none, fun f => match f with
    | _ => false⟩

def A_challenge_isTime : Loc2 T := ⟨fun id => match id with
    | _ => none, fun r => match r with
    | _ => none, fun r => match r with
    | _ => false⟩

theorem challenge_isTime_eq (x : tySs T S_challenge_isTime.ps) : run E_challenge_isTime A_challenge_isTime (Try.f24.body.getD .skip) (enterT E_challenge_isTime.C S_challenge_isTime.ps x) (retK E_challenge_isTime Try.f24.results.toList S_challenge_isTime.ps S_challenge_isTime.rs) = S_challenge_isTime.fn x := by kernel_rfl

theorem challenge_isTime_env : EnvOk Try.prog E_challenge_isTime := envOk (E := E_challenge_isTime) cd_ok tys fl_ok fun f ds S h => by cases h

theorem challenge_isTime_ok : SoundT Try.prog cd gdn 24 S_challenge_isTime :=
  sound_fn (E := E_challenge_isTime) (A := A_challenge_isTime) (done := []) (c := (Try.f24.body.getD .skip)) (S := S_challenge_isTime) (fn := Try.f24) hmix challenge_isTime_env Try.func24 rfl (by kernel_rfl) (by kernel_rfl) done_nil (by kernel_rfl) (by kernel_rfl) challenge_isTime_eq

def challenge_Expire_L0b (y0 : Int) (y1 : (ApiChallenges × Unit)) (y2 : (ApiChallenges × Unit)) (y3 : (List (ApiChallenge))) (y4 : (List (ApiChallenge))) (y5 : Int) (y6 : Int) : Option ((Int × (ApiChallenges × Unit) × (ApiChallenges × Unit) × (List (ApiChallenge)) × (List (ApiChallenge)) × Int × Int × Unit) ⊕ ((ApiChallenges × Unit) × (ApiChallenges × Unit) × (List (ApiChallenge)) × Unit)) :=
 (bif (decide (y6 < y5)) then ((getI y4 y6).bind fun x2 => ((challenge_isTime y0).bind fun r3 => (bif (!r3.2.1) then (bif small ((y3).length + (([x2] : List (ApiChallenge)) : List (ApiChallenge)).length) 48 then (some (Sum.inl (y0, (y1.1, ()), (y2.1, ()), (y3 ++ ([x2] : List (ApiChallenge))), y4, y5, (IntKind.wrap .i64 (y6 + (1 : Int))), ())))
 else none)
 else (bif (decide ((IntKind.wrap .i64 (y0 - (60 : Int))) ≤ x2.since)) then (bif small ((y3).length + (([x2] : List (ApiChallenge)) : List (ApiChallenge)).length) 48 then (some (Sum.inl (y0, (y1.1, ()), (y2.1, ()), (y3 ++ ([x2] : List (ApiChallenge))), y4, y5, (IntKind.wrap .i64 (y6 + (1 : Int))), ())))
 else none)
 else (some (Sum.inl (y0, (y1.1, ()), (y2.1, ()), y3, y4, y5, (IntKind.wrap .i64 (y6 + (1 : Int))), ())))))))
 else (some (Sum.inr ((y1.1, ()), (y2.1, ()), y3, ()))))

def challenge_Expire_L0 (y : (Int × (ApiChallenges × Unit) × (ApiChallenges × Unit) × (List (ApiChallenge)) × (List (ApiChallenge)) × Int × Int × Unit)) : Option ((ApiChallenges × Unit) × (ApiChallenges × Unit) × (List (ApiChallenge)) × Unit) := iter (fun (y : (Int × (ApiChallenges × Unit) × (ApiChallenges × Unit) × (List (ApiChallenge)) × (List (ApiChallenge)) × Int × Int × Unit)) => challenge_Expire_L0b y.1 y.2.1 y.2.2.1 y.2.2.2.1 y.2.2.2.2.1 y.2.2.2.2.2.1 y.2.2.2.2.2.2.1) rounds y

def challenge_Expire (a0 : ApiChallenges) (a1 : Int) : Option ((Unit) × ((((BitVec 64) × Int × Unit) × (List (ApiChallenge)) × Unit) × Unit)) :=
 (bif (decide ((0 : Int) ≤ (0 : Int)) && (decide ((0 : Int) ≤ ((a0.open_).length : Int)) && decide ((48 : Int) * ((a0.open_).length : Int) ≤ 281474976710656 ∧ ((a0.open_).length : Int) ≤ 9223372036854775807))) then (let v1 : List (ApiChallenge) := (List.replicate 0 (⟨(0 : Int), (0 : Int), ([] : List UInt8), false, (0 : Int)⟩ : ApiChallenge))
 ((challenge_Expire_L0 (a1, (a0, ()), ((⟨0#64, (0 : Int), []⟩ : ApiChallenges), ()), v1, a0.open_, ((a0.open_).length : Int), (0 : Int), ())).bind (fun (z4 : ((ApiChallenges × Unit) × (ApiChallenges × Unit) × (List (ApiChallenge)) × Unit)) => (some ((), (((z4.1.1.secret, z4.1.1.count, ()), z4.2.2.1, ()), ()))))))
 else none)

def S_challenge_Expire : FSpec T := ⟨[.f (.v (.agg 3)), .f (.v (.int .i64))], [(.st (.cons .u64 (.cons (.int .i64) .nil)) 2 .nil)], fun x => challenge_Expire x.1 x.2.1⟩

def E_challenge_Expire : Env T := ⟨tab.find, cd, globs, flc, fun f ds => match f with
    | 24 => some S_challenge_isTime
    | _ => none, fun f => match f with
    | 24 => true
    | _ => false⟩

def A_challenge_Expire : Loc2 T := ⟨fun id => match id with
    | 0 => some ⟨[(1, .f (.v (.int .i64))), (2, .ptr [(.v (.agg 3))]), (4, .ptr [(.v (.agg 3))]), (5, .f (.own 2)), (13, .f (.v (.rs 2))), (14, .f (.v (.int .i64))), (15, .f (.v (.int .i64)))], [(.exit 0, [(2, .ptr [(.v (.agg 3))]), (4, .ptr [(.v (.agg 3))]), (5, .f (.own 2))])], challenge_Expire_L0, []⟩
    | _ => none, fun r => match r with
    | _ => none, fun r => match r with
    | _ => false⟩

theorem challenge_Expire_L0_eq (y0 : Int) (y1 : (ApiChallenges × Unit)) (y2 : (ApiChallenges × Unit)) (y3 : (List (ApiChallenge))) (y4 : (List (ApiChallenge))) (y5 : Int) (y6 : Int) : run E_challenge_Expire A_challenge_Expire (loopAt 0 (Try.f18.body.getD .skip)) (layC cd [(1, .f (.v (.int .i64))), (2, .ptr [(.v (.agg 3))]), (4, .ptr [(.v (.agg 3))]), (5, .f (.own 2)), (13, .f (.v (.rs 2))), (14, .f (.v (.int .i64))), (15, .f (.v (.int .i64)))] [] (y0, y1, y2, y3, y4, y5, y6, ())) (roundK cd [(1, .f (.v (.int .i64))), (2, .ptr [(.v (.agg 3))]), (4, .ptr [(.v (.agg 3))]), (5, .f (.own 2)), (13, .f (.v (.rs 2))), (14, .f (.v (.int .i64))), (15, .f (.v (.int .i64)))] [] [(.exit 0, [(2, .ptr [(.v (.agg 3))]), (4, .ptr [(.v (.agg 3))]), (5, .f (.own 2))])]) = challenge_Expire_L0b y0 y1 y2 y3 y4 y5 y6 := by kernel_rfl

theorem challenge_Expire_eq (x : tySs T S_challenge_Expire.ps) : run E_challenge_Expire A_challenge_Expire (Try.f18.body.getD .skip) (enterT E_challenge_Expire.C S_challenge_Expire.ps x) (retK E_challenge_Expire Try.f18.results.toList S_challenge_Expire.ps S_challenge_Expire.rs) = S_challenge_Expire.fn x := by kernel_rfl

theorem challenge_Expire_env : EnvOk Try.prog E_challenge_Expire := envOk (E := E_challenge_Expire) cd_ok tys fl_ok fun f ds S h => by
    dsimp only [E_challenge_Expire] at h
    split at h
    · cases h; exact challenge_isTime_ok
    · cases h

theorem challenge_Expire_L0_ok : LoopOk Try.prog E_challenge_Expire Try.f18.ntmps (kqOf S_challenge_Expire.ps 0) (loopAt 0 (Try.f18.body.getD .skip)) ⟨[(1, .f (.v (.int .i64))), (2, .ptr [(.v (.agg 3))]), (4, .ptr [(.v (.agg 3))]), (5, .f (.own 2)), (13, .f (.v (.rs 2))), (14, .f (.v (.int .i64))), (15, .f (.v (.int .i64)))], [(.exit 0, [(2, .ptr [(.v (.agg 3))]), (4, .ptr [(.v (.agg 3))]), (5, .f (.own 2))])], challenge_Expire_L0, []⟩ :=
  loop_ok (A := A_challenge_Expire) (done := []) (c0 := (Try.f18.body.getD .skip)) hmix challenge_Expire_env done_nil rounds (by kernel_rfl) (by kernel_rfl) (fun x => challenge_Expire_L0_eq x.1 x.2.1 x.2.2.1 x.2.2.2.1 x.2.2.2.2.1 x.2.2.2.2.2.1 x.2.2.2.2.2.2.1) (fun _ => rfl)

theorem challenge_Expire_ok : SoundT Try.prog cd gdn 18 S_challenge_Expire :=
  sound_fn (E := E_challenge_Expire) (A := A_challenge_Expire) (done := [0]) (c := (Try.f18.body.getD .skip)) (S := S_challenge_Expire) (fn := Try.f18) hmix challenge_Expire_env Try.func18 rfl (by kernel_rfl) (by kernel_rfl) (done_cons rfl challenge_Expire_L0_ok done_nil) (by kernel_rfl) (by kernel_rfl) challenge_Expire_eq

def digest_Words_L2b (y0 : (List (UInt8))) (y1 : (BitVec 64)) (y2 : (List (BitVec 64))) (y3 : Int) (y4 : Int) (y5 : Int) : Option (((List (UInt8)) × (BitVec 64) × (List (BitVec 64)) × Int × Int × Int × Unit) ⊕ ((List (UInt8)) × (List (BitVec 64)) × Int × Int × Unit)) :=
 (bif (decide (y5 < (8 : Int))) then (let v2 : Int := (IntKind.wrap .i64 ((56 : Int) - (IntKind.wrap .i64 ((8 : Int) * y5))))
 (bif decide ((0 : Int) ≤ v2) then (let v3 : List (UInt8) := ([(UInt8.ofBitVec (BitVec.setWidth 8 (y1 >>> (v2).toNat)))] : List (UInt8))
 (bif small ((y0).length + (v3 : List (UInt8)).length) 1 then (some (Sum.inl ((y0 ++ v3), y1, y2, y3, y4, (IntKind.wrap .i64 (y5 + (1 : Int))), ())))
 else none))
 else none))
 else (some (Sum.inr (y0, y2, y3, y4, ()))))

def digest_Words_L2 (y : ((List (UInt8)) × (BitVec 64) × (List (BitVec 64)) × Int × Int × Int × Unit)) : Option ((List (UInt8)) × (List (BitVec 64)) × Int × Int × Unit) := iter (fun (y : ((List (UInt8)) × (BitVec 64) × (List (BitVec 64)) × Int × Int × Int × Unit)) => digest_Words_L2b y.1 y.2.1 y.2.2.1 y.2.2.2.1 y.2.2.2.2.1 y.2.2.2.2.2.1) rounds y

def digest_Words_L0b (y0 : (List (UInt8))) (y1 : (List (BitVec 64))) (y2 : Int) (y3 : Int) : Option (((List (UInt8)) × (List (BitVec 64)) × Int × Int × Unit) ⊕ ((List (UInt8)) × Unit)) :=
 (bif (decide (y3 < y2)) then ((getI y1 y3).bind fun x1 => ((digest_Words_L2 (y0, x1, y1, y2, y3, (0 : Int), ())).bind (fun (z2 : ((List (UInt8)) × (List (BitVec 64)) × Int × Int × Unit)) => (some (Sum.inl (z2.1, z2.2.1, z2.2.2.1, (IntKind.wrap .i64 (z2.2.2.2.1 + (1 : Int))), ()))))))
 else (some (Sum.inr (y0, ()))))

def digest_Words_L0 (y : ((List (UInt8)) × (List (BitVec 64)) × Int × Int × Unit)) : Option ((List (UInt8)) × Unit) := iter (fun (y : ((List (UInt8)) × (List (BitVec 64)) × Int × Int × Unit)) => digest_Words_L0b y.1 y.2.1 y.2.2.1 y.2.2.2.1) rounds y

def digest_Words (a0 : (List (BitVec 64))) : Option ((Unit) × ((List (UInt8)) × Unit)) :=
 (bif (decide ((0 : Int) ≤ (0 : Int)) && (decide ((0 : Int) ≤ (IntKind.wrap .i64 ((8 : Int) * ((a0).length : Int)))) && decide ((1 : Int) * (IntKind.wrap .i64 ((8 : Int) * ((a0).length : Int))) ≤ 281474976710656 ∧ (IntKind.wrap .i64 ((8 : Int) * ((a0).length : Int))) ≤ 9223372036854775807))) then ((digest_Words_L0 ((List.replicate 0 (0 : UInt8)), a0, ((a0).length : Int), (0 : Int), ())).bind (fun (z3 : ((List (UInt8)) × Unit)) => (some ((), (z3.1, ())))))
 else none)

def S_digest_Words : FSpec T := ⟨[.f (.v (.rs 4))], [(.own 0)], fun x => digest_Words x.1⟩

def E_digest_Words : Env T := ⟨tab.find, cd, globs, flc, fun f ds => match f with
    | _ => none, fun f => match f with
    | _ => false⟩

def A_digest_Words : Loc2 T := ⟨fun id => match id with
    | 2 => some ⟨[(3, .f (.own 0)), (5, .f (.v .u64)), (11, .f (.v (.rs 4))), (12, .f (.v (.int .i64))), (13, .f (.v (.int .i64))), (17, .f (.v (.int .i64)))], [(.exit 2, [(3, .f (.own 0)), (11, .f (.v (.rs 4))), (12, .f (.v (.int .i64))), (13, .f (.v (.int .i64)))])], digest_Words_L2, []⟩
    | 0 => some ⟨[(3, .f (.own 0)), (11, .f (.v (.rs 4))), (12, .f (.v (.int .i64))), (13, .f (.v (.int .i64)))], [(.exit 0, [(3, .f (.own 0))])], digest_Words_L0, []⟩
    | _ => none, fun r => match r with
    | _ => none, fun r => match r with
    | _ => false⟩

theorem digest_Words_L2_eq (y0 : (List (UInt8))) (y1 : (BitVec 64)) (y2 : (List (BitVec 64))) (y3 : Int) (y4 : Int) (y5 : Int) : run E_digest_Words A_digest_Words (loopAt 2 (Try.f27.body.getD .skip)) (layC cd [(3, .f (.own 0)), (5, .f (.v .u64)), (11, .f (.v (.rs 4))), (12, .f (.v (.int .i64))), (13, .f (.v (.int .i64))), (17, .f (.v (.int .i64)))] [] (y0, y1, y2, y3, y4, y5, ())) (roundK cd [(3, .f (.own 0)), (5, .f (.v .u64)), (11, .f (.v (.rs 4))), (12, .f (.v (.int .i64))), (13, .f (.v (.int .i64))), (17, .f (.v (.int .i64)))] [] [(.exit 2, [(3, .f (.own 0)), (11, .f (.v (.rs 4))), (12, .f (.v (.int .i64))), (13, .f (.v (.int .i64)))])]) = digest_Words_L2b y0 y1 y2 y3 y4 y5 := by kernel_rfl

theorem digest_Words_L0_eq (y0 : (List (UInt8))) (y1 : (List (BitVec 64))) (y2 : Int) (y3 : Int) : run E_digest_Words A_digest_Words (loopAt 0 (Try.f27.body.getD .skip)) (layC cd [(3, .f (.own 0)), (11, .f (.v (.rs 4))), (12, .f (.v (.int .i64))), (13, .f (.v (.int .i64)))] [] (y0, y1, y2, y3, ())) (roundK cd [(3, .f (.own 0)), (11, .f (.v (.rs 4))), (12, .f (.v (.int .i64))), (13, .f (.v (.int .i64)))] [] [(.exit 0, [(3, .f (.own 0))])]) = digest_Words_L0b y0 y1 y2 y3 := by kernel_rfl

theorem digest_Words_eq (x : tySs T S_digest_Words.ps) : run E_digest_Words A_digest_Words (Try.f27.body.getD .skip) (enterT E_digest_Words.C S_digest_Words.ps x) (retK E_digest_Words Try.f27.results.toList S_digest_Words.ps S_digest_Words.rs) = S_digest_Words.fn x := by kernel_rfl

theorem digest_Words_env : EnvOk Try.prog E_digest_Words := envOk (E := E_digest_Words) cd_ok tys fl_ok fun f ds S h => by cases h

theorem digest_Words_L2_ok : LoopOk Try.prog E_digest_Words Try.f27.ntmps (kqOf S_digest_Words.ps 0) (loopAt 2 (Try.f27.body.getD .skip)) ⟨[(3, .f (.own 0)), (5, .f (.v .u64)), (11, .f (.v (.rs 4))), (12, .f (.v (.int .i64))), (13, .f (.v (.int .i64))), (17, .f (.v (.int .i64)))], [(.exit 2, [(3, .f (.own 0)), (11, .f (.v (.rs 4))), (12, .f (.v (.int .i64))), (13, .f (.v (.int .i64)))])], digest_Words_L2, []⟩ :=
  loop_ok (A := A_digest_Words) (done := []) (c0 := (Try.f27.body.getD .skip)) hmix digest_Words_env done_nil rounds (by kernel_rfl) (by kernel_rfl) (fun x => digest_Words_L2_eq x.1 x.2.1 x.2.2.1 x.2.2.2.1 x.2.2.2.2.1 x.2.2.2.2.2.1) (fun _ => rfl)

theorem digest_Words_L0_ok : LoopOk Try.prog E_digest_Words Try.f27.ntmps (kqOf S_digest_Words.ps 0) (loopAt 0 (Try.f27.body.getD .skip)) ⟨[(3, .f (.own 0)), (11, .f (.v (.rs 4))), (12, .f (.v (.int .i64))), (13, .f (.v (.int .i64)))], [(.exit 0, [(3, .f (.own 0))])], digest_Words_L0, []⟩ :=
  loop_ok (A := A_digest_Words) (done := [2]) (c0 := (Try.f27.body.getD .skip)) hmix digest_Words_env (done_cons rfl digest_Words_L2_ok done_nil) rounds (by kernel_rfl) (by kernel_rfl) (fun x => digest_Words_L0_eq x.1 x.2.1 x.2.2.1 x.2.2.2.1) (fun _ => rfl)

theorem digest_Words_ok : SoundT Try.prog cd gdn 27 S_digest_Words :=
  sound_fn (E := E_digest_Words) (A := A_digest_Words) (done := [2, 0]) (c := (Try.f27.body.getD .skip)) (S := S_digest_Words) (fn := Try.f27) hmix digest_Words_env Try.func27 rfl (by kernel_rfl) (by kernel_rfl) (done_cons rfl digest_Words_L2_ok (done_cons rfl digest_Words_L0_ok done_nil)) (by kernel_rfl) (by kernel_rfl) digest_Words_eq

def digest_little_L0b (y0 : (BitVec 64)) (y1 : (List (UInt8))) (y2 : Int) (y3 : Int) : Option (((BitVec 64) × (List (UInt8)) × Int × Int × Unit) ⊕ ((BitVec 64) × Unit)) :=
 (bif (decide (y3 < y2)) then ((getI y1 y3).bind fun x1 => (bif decide ((0 : Int) ≤ (IntKind.wrap .i64 ((8 : Int) * y3))) then (let v2 : BitVec 64 := ((BitVec.setWidth 64 x1.toBitVec) <<< ((IntKind.wrap .i64 ((8 : Int) * y3))).toNat)
 (some (Sum.inl ((y0 ||| v2), y1, y2, (IntKind.wrap .i64 (y3 + (1 : Int))), ()))))
 else none))
 else (some (Sum.inr (y0, ()))))

def digest_little_L0 (y : ((BitVec 64) × (List (UInt8)) × Int × Int × Unit)) : Option ((BitVec 64) × Unit) := iter (fun (y : ((BitVec 64) × (List (UInt8)) × Int × Int × Unit)) => digest_little_L0b y.1 y.2.1 y.2.2.1 y.2.2.2.1) rounds y

def digest_little (a0 : (List (UInt8))) : Option ((Unit) × ((BitVec 64) × Unit)) :=
 ((digest_little_L0 (0#64, a0, ((a0).length : Int), (0 : Int), ())).bind (fun (z3 : ((BitVec 64) × Unit)) => (some ((), (z3.1, ())))))

def S_digest_little : FSpec T := ⟨[.f (.v (.rs 0))], [(.v .u64)], fun x => digest_little x.1⟩

def E_digest_little : Env T := ⟨tab.find, cd, globs, flc, fun f ds => match f with
    | _ => none, fun f => match f with
    | _ => false⟩

def A_digest_little : Loc2 T := ⟨fun id => match id with
    | 0 => some ⟨[(3, .f (.v .u64)), (6, .f (.v (.rs 0))), (7, .f (.v (.int .i64))), (8, .f (.v (.int .i64)))], [(.exit 0, [(3, .f (.v .u64))])], digest_little_L0, []⟩
    | _ => none, fun r => match r with
    | _ => none, fun r => match r with
    | _ => false⟩

theorem digest_little_L0_eq (y0 : (BitVec 64)) (y1 : (List (UInt8))) (y2 : Int) (y3 : Int) : run E_digest_little A_digest_little (loopAt 0 (Try.f34.body.getD .skip)) (layC cd [(3, .f (.v .u64)), (6, .f (.v (.rs 0))), (7, .f (.v (.int .i64))), (8, .f (.v (.int .i64)))] [] (y0, y1, y2, y3, ())) (roundK cd [(3, .f (.v .u64)), (6, .f (.v (.rs 0))), (7, .f (.v (.int .i64))), (8, .f (.v (.int .i64)))] [] [(.exit 0, [(3, .f (.v .u64))])]) = digest_little_L0b y0 y1 y2 y3 := by kernel_rfl

theorem digest_little_eq (x : tySs T S_digest_little.ps) : run E_digest_little A_digest_little (Try.f34.body.getD .skip) (enterT E_digest_little.C S_digest_little.ps x) (retK E_digest_little Try.f34.results.toList S_digest_little.ps S_digest_little.rs) = S_digest_little.fn x := by kernel_rfl

theorem digest_little_env : EnvOk Try.prog E_digest_little := envOk (E := E_digest_little) cd_ok tys fl_ok fun f ds S h => by cases h

theorem digest_little_L0_ok : LoopOk Try.prog E_digest_little Try.f34.ntmps (kqOf S_digest_little.ps 0) (loopAt 0 (Try.f34.body.getD .skip)) ⟨[(3, .f (.v .u64)), (6, .f (.v (.rs 0))), (7, .f (.v (.int .i64))), (8, .f (.v (.int .i64)))], [(.exit 0, [(3, .f (.v .u64))])], digest_little_L0, []⟩ :=
  loop_ok (A := A_digest_little) (done := []) (c0 := (Try.f34.body.getD .skip)) hmix digest_little_env done_nil rounds (by kernel_rfl) (by kernel_rfl) (fun x => digest_little_L0_eq x.1 x.2.1 x.2.2.1 x.2.2.2.1) (fun _ => rfl)

theorem digest_little_ok : SoundT Try.prog cd gdn 34 S_digest_little :=
  sound_fn (E := E_digest_little) (A := A_digest_little) (done := [0]) (c := (Try.f34.body.getD .skip)) (S := S_digest_little) (fn := Try.f34) hmix digest_little_env Try.func34 rfl (by kernel_rfl) (by kernel_rfl) (done_cons rfl digest_little_L0_ok done_nil) (by kernel_rfl) (by kernel_rfl) digest_little_eq

def math_bits_RotateLeft64 (a0 : (BitVec 64)) (a1 : Int) : Option ((Unit) × ((BitVec 64) × Unit)) :=
 (let v1 : BitVec 64 := ((a0 <<< ((BitVec.ofInt 64 a1) &&& 63#64).toNat) ||| (a0 >>> (64#64 - ((BitVec.ofInt 64 a1) &&& 63#64)).toNat))
 (some ((), (v1, ()))))

def S_math_bits_RotateLeft64 : FSpec T := ⟨[.f (.v .u64), .f (.v (.int .i64))], [(.v .u64)], fun x => math_bits_RotateLeft64 x.1 x.2.1⟩

def E_math_bits_RotateLeft64 : Env T := ⟨tab.find, cd, globs, flc, fun f ds => match f with
    | _ => none, fun f => match f with
    | _ => false⟩

def A_math_bits_RotateLeft64 : Loc2 T := ⟨fun id => match id with
    | _ => none, fun r => match r with
    | _ => none, fun r => match r with
    | _ => false⟩

theorem math_bits_RotateLeft64_eq (x : tySs T S_math_bits_RotateLeft64.ps) : run E_math_bits_RotateLeft64 A_math_bits_RotateLeft64 (Try.f37.body.getD .skip) (enterT E_math_bits_RotateLeft64.C S_math_bits_RotateLeft64.ps x) (retK E_math_bits_RotateLeft64 Try.f37.results.toList S_math_bits_RotateLeft64.ps S_math_bits_RotateLeft64.rs) = S_math_bits_RotateLeft64.fn x := by kernel_rfl

theorem math_bits_RotateLeft64_env : EnvOk Try.prog E_math_bits_RotateLeft64 := envOk (E := E_math_bits_RotateLeft64) cd_ok tys fl_ok fun f ds S h => by cases h

theorem math_bits_RotateLeft64_ok : SoundT Try.prog cd gdn 37 S_math_bits_RotateLeft64 :=
  sound_fn (E := E_math_bits_RotateLeft64) (A := A_math_bits_RotateLeft64) (done := []) (c := (Try.f37.body.getD .skip)) (S := S_math_bits_RotateLeft64) (fn := Try.f37) hmix math_bits_RotateLeft64_env Try.func37 rfl (by kernel_rfl) (by kernel_rfl) done_nil (by kernel_rfl) (by kernel_rfl) math_bits_RotateLeft64_eq

def digest_state_rounds_L0b (y0 : (DigestState × Unit)) (y1 : Int) (y2 : Int) : Option (((DigestState × Unit) × Int × Int × Unit) ⊕ ((DigestState × Unit) × Unit)) :=
 (bif (decide (y2 < y1)) then ((math_bits_RotateLeft64 y0.1.v1 (13 : Int)).bind fun r1 => ((math_bits_RotateLeft64 (y0.1.v0 + y0.1.v1) (32 : Int)).bind fun r2 => ((math_bits_RotateLeft64 y0.1.v3 (16 : Int)).bind fun r3 => ((math_bits_RotateLeft64 (r3.2.1 ^^^ (y0.1.v2 + y0.1.v3)) (21 : Int)).bind fun r4 => ((math_bits_RotateLeft64 (r1.2.1 ^^^ (y0.1.v0 + y0.1.v1)) (17 : Int)).bind fun r5 => (let v6 : BitVec 64 := (r5.2.1 ^^^ ((y0.1.v2 + y0.1.v3) + (r1.2.1 ^^^ (y0.1.v0 + y0.1.v1))))
 ((math_bits_RotateLeft64 ((y0.1.v2 + y0.1.v3) + (r1.2.1 ^^^ (y0.1.v0 + y0.1.v1))) (32 : Int)).bind fun r7 => (some (Sum.inl (((⟨(r2.2.1 + (r3.2.1 ^^^ (y0.1.v2 + y0.1.v3))), v6, r7.2.1, (r4.2.1 ^^^ (r2.2.1 + (r3.2.1 ^^^ (y0.1.v2 + y0.1.v3))))⟩ : DigestState), ()), y1, (IntKind.wrap .i64 (y2 + (1 : Int))), ()))))))))))
 else (some (Sum.inr ((y0.1, ()), ()))))

def digest_state_rounds_L0 (y : ((DigestState × Unit) × Int × Int × Unit)) : Option ((DigestState × Unit) × Unit) := iter (fun (y : ((DigestState × Unit) × Int × Int × Unit)) => digest_state_rounds_L0b y.1 y.2.1 y.2.2.1) rounds y

def digest_state_rounds (a0 : (DigestState × Unit)) (a1 : Int) : Option (((DigestState × Unit) × Unit) × (Unit)) :=
 ((digest_state_rounds_L0 ((a0.1, ()), a1, (0 : Int), ())).bind (fun (z8 : ((DigestState × Unit) × Unit)) => (some (((z8.1.1, ()), ()), ()))))

def S_digest_state_rounds : FSpec T := ⟨[.ptr [(.v (.agg 5))], .f (.v (.int .i64))], [], fun x => digest_state_rounds x.1 x.2.1⟩

def E_digest_state_rounds : Env T := ⟨tab.find, cd, globs, flc, fun f ds => match f with
    | 37 => some S_math_bits_RotateLeft64
    | _ => none, fun f => match f with
    | 37 => true
    | _ => false⟩

def A_digest_state_rounds : Loc2 T := ⟨fun id => match id with
    | 0 => some ⟨[(0, .ptr [(.v (.agg 5))]), (4, .f (.v (.int .i64))), (5, .f (.v (.int .i64)))], [(.exit 0, [(0, .ptr [(.v (.agg 5))])])], digest_state_rounds_L0, []⟩
    | _ => none, fun r => match r with
    | _ => none, fun r => match r with
    | _ => false⟩

theorem digest_state_rounds_L0_eq (y0 : (DigestState × Unit)) (y1 : Int) (y2 : Int) : run E_digest_state_rounds A_digest_state_rounds (loopAt 0 (Try.f35.body.getD .skip)) (layC cd [(0, .ptr [(.v (.agg 5))]), (4, .f (.v (.int .i64))), (5, .f (.v (.int .i64)))] [] (y0, y1, y2, ())) (roundK cd [(0, .ptr [(.v (.agg 5))]), (4, .f (.v (.int .i64))), (5, .f (.v (.int .i64)))] [] [(.exit 0, [(0, .ptr [(.v (.agg 5))])])]) = digest_state_rounds_L0b y0 y1 y2 := by kernel_rfl

theorem digest_state_rounds_eq (x : tySs T S_digest_state_rounds.ps) : run E_digest_state_rounds A_digest_state_rounds (Try.f35.body.getD .skip) (enterT E_digest_state_rounds.C S_digest_state_rounds.ps x) (retK E_digest_state_rounds Try.f35.results.toList S_digest_state_rounds.ps S_digest_state_rounds.rs) = S_digest_state_rounds.fn x := by kernel_rfl

theorem digest_state_rounds_env : EnvOk Try.prog E_digest_state_rounds := envOk (E := E_digest_state_rounds) cd_ok tys fl_ok fun f ds S h => by
    dsimp only [E_digest_state_rounds] at h
    split at h
    · cases h; exact math_bits_RotateLeft64_ok
    · cases h

theorem digest_state_rounds_L0_ok : LoopOk Try.prog E_digest_state_rounds Try.f35.ntmps (kqOf S_digest_state_rounds.ps 0) (loopAt 0 (Try.f35.body.getD .skip)) ⟨[(0, .ptr [(.v (.agg 5))]), (4, .f (.v (.int .i64))), (5, .f (.v (.int .i64)))], [(.exit 0, [(0, .ptr [(.v (.agg 5))])])], digest_state_rounds_L0, []⟩ :=
  loop_ok (A := A_digest_state_rounds) (done := []) (c0 := (Try.f35.body.getD .skip)) hmix digest_state_rounds_env done_nil rounds (by kernel_rfl) (by kernel_rfl) (fun x => digest_state_rounds_L0_eq x.1 x.2.1 x.2.2.1) (fun _ => rfl)

theorem digest_state_rounds_ok : SoundT Try.prog cd gdn 35 S_digest_state_rounds :=
  sound_fn (E := E_digest_state_rounds) (A := A_digest_state_rounds) (done := [0]) (c := (Try.f35.body.getD .skip)) (S := S_digest_state_rounds) (fn := Try.f35) hmix digest_state_rounds_env Try.func35 rfl (by kernel_rfl) (by kernel_rfl) (done_cons rfl digest_state_rounds_L0_ok done_nil) (by kernel_rfl) (by kernel_rfl) digest_state_rounds_eq

def digest_state_absorb (a0 : (DigestState × Unit)) (a1 : (BitVec 64)) : Option (((DigestState × Unit) × Unit) × (Unit)) :=
 ((digest_state_rounds ((⟨a0.1.v0, a0.1.v1, a0.1.v2, (a0.1.v3 ^^^ a1)⟩ : DigestState), ()) (2 : Int)).bind fun r1 => (some ((((⟨(r1.1.1.1.v0 ^^^ a1), r1.1.1.1.v1, r1.1.1.1.v2, r1.1.1.1.v3⟩ : DigestState), ()), ()), ())))

def S_digest_state_absorb : FSpec T := ⟨[.ptr [(.v (.agg 5))], .f (.v .u64)], [], fun x => digest_state_absorb x.1 x.2.1⟩

def E_digest_state_absorb : Env T := ⟨tab.find, cd, globs, flc, fun f ds => match f with
    | 35 => some S_digest_state_rounds
    | _ => none, fun f => match f with
    | _ => false⟩

def A_digest_state_absorb : Loc2 T := ⟨fun id => match id with
    | _ => none, fun r => match r with
    | _ => none, fun r => match r with
    | _ => false⟩

theorem digest_state_absorb_eq (x : tySs T S_digest_state_absorb.ps) : run E_digest_state_absorb A_digest_state_absorb (Try.f33.body.getD .skip) (enterT E_digest_state_absorb.C S_digest_state_absorb.ps x) (retK E_digest_state_absorb Try.f33.results.toList S_digest_state_absorb.ps S_digest_state_absorb.rs) = S_digest_state_absorb.fn x := by kernel_rfl

theorem digest_state_absorb_env : EnvOk Try.prog E_digest_state_absorb := envOk (E := E_digest_state_absorb) cd_ok tys fl_ok fun f ds S h => by
    dsimp only [E_digest_state_absorb] at h
    split at h
    · cases h; exact digest_state_rounds_ok
    · cases h

theorem digest_state_absorb_ok : SoundT Try.prog cd gdn 33 S_digest_state_absorb :=
  sound_fn (E := E_digest_state_absorb) (A := A_digest_state_absorb) (done := []) (c := (Try.f33.body.getD .skip)) (S := S_digest_state_absorb) (fn := Try.f33) hmix digest_state_absorb_env Try.func33 rfl (by kernel_rfl) (by kernel_rfl) done_nil (by kernel_rfl) (by kernel_rfl) digest_state_absorb_eq

def digest_Sum_L0b (y0 : (List (UInt8))) (y1 : (DigestState × Unit)) (y2 : Int) (y3 : Int) (y4 : Int) : Option (((List (UInt8)) × (DigestState × Unit) × Int × Int × Int × Unit) ⊕ ((List (UInt8)) × (DigestState × Unit) × Int × Unit)) :=
 (bif (decide (y4 < y3)) then (let v1 : Int := (IntKind.wrap .i64 ((IntKind.wrap .i64 ((8 : Int) * y4)) + (8 : Int)))
 (bif (decide ((0 : Int) ≤ v1) && decide (v1 ≤ ((y0).length : Int))) then (bif (decide ((0 : Int) ≤ (IntKind.wrap .i64 ((8 : Int) * y4))) && decide ((IntKind.wrap .i64 ((8 : Int) * y4)) ≤ ((v1).toNat : Int))) then (let v2 : List (UInt8) := (List.drop ((IntKind.wrap .i64 ((8 : Int) * y4))).toNat (List.take (v1).toNat y0))
 ((digest_little v2).bind fun r3 => ((digest_state_absorb (y1.1, ()) r3.2.1).bind fun r4 => (some (Sum.inl (y0, (r4.1.1.1, ()), y2, y3, (IntKind.wrap .i64 (y4 + (1 : Int))), ()))))))
 else none)
 else none))
 else (some (Sum.inr (y0, (y1.1, ()), y2, ()))))

def digest_Sum_L0 (y : ((List (UInt8)) × (DigestState × Unit) × Int × Int × Int × Unit)) : Option ((List (UInt8)) × (DigestState × Unit) × Int × Unit) := iter (fun (y : ((List (UInt8)) × (DigestState × Unit) × Int × Int × Int × Unit)) => digest_Sum_L0b y.1 y.2.1 y.2.2.1 y.2.2.2.1 y.2.2.2.2.1) rounds y

def digest_Sum (a0 : (BitVec 64)) (a1 : (BitVec 64)) (a2 : (List (UInt8))) : Option ((Unit) × ((BitVec 64) × Unit)) :=
 ((digest_Sum_L0 (a2, ((⟨(a0 ^^^ 8317987319222330741#64), (a1 ^^^ 7237128888997146477#64), (a0 ^^^ 7816392313619706465#64), (a1 ^^^ 8387220255154660723#64)⟩ : DigestState), ()), (IntKind.wrap .i64 (Int.tdiv ((a2).length : Int) (8 : Int))), (IntKind.wrap .i64 (Int.tdiv ((a2).length : Int) (8 : Int))), (0 : Int), ())).bind (fun (z5 : ((List (UInt8)) × (DigestState × Unit) × Int × Unit)) => (bif (decide ((0 : Int) ≤ (IntKind.wrap .i64 ((8 : Int) * z5.2.2.1))) && decide ((IntKind.wrap .i64 ((8 : Int) * z5.2.2.1)) ≤ ((z5.1).length : Int))) then (let v6 : List (UInt8) := (List.drop ((IntKind.wrap .i64 ((8 : Int) * z5.2.2.1))).toNat z5.1)
 ((digest_little v6).bind fun r7 => (let v8 : BitVec 64 := (r7.2.1 ||| ((BitVec.ofInt 64 ((z5.1).length : Int)) <<< 56))
 ((digest_state_absorb (z5.2.1.1, ()) v8).bind fun r9 => ((digest_state_rounds ((⟨r9.1.1.1.v0, r9.1.1.1.v1, (r9.1.1.1.v2 ^^^ 255#64), r9.1.1.1.v3⟩ : DigestState), ()) (4 : Int)).bind fun r10 => (let v11 : BitVec 64 := (((r10.1.1.1.v0 ^^^ r10.1.1.1.v1) ^^^ r10.1.1.1.v2) ^^^ r10.1.1.1.v3)
 (some ((), (v11, ())))))))))
 else none)))

def S_digest_Sum : FSpec T := ⟨[.f (.v .u64), .f (.v .u64), .f (.v (.rs 0))], [(.v .u64)], fun x => digest_Sum x.1 x.2.1 x.2.2.1⟩

def E_digest_Sum : Env T := ⟨tab.find, cd, globs, flc, fun f ds => match f with
    | 33 => some S_digest_state_absorb
    | 34 => some S_digest_little
    | 35 => some S_digest_state_rounds
    | _ => none, fun f => match f with
    | 34 => true
    | _ => false⟩

def A_digest_Sum : Loc2 T := ⟨fun id => match id with
    | 0 => some ⟨[(2, .f (.v (.rs 0))), (7, .ptr [(.v (.agg 5))]), (8, .f (.v (.int .i64))), (22, .f (.v (.int .i64))), (23, .f (.v (.int .i64)))], [(.exit 0, [(2, .f (.v (.rs 0))), (7, .ptr [(.v (.agg 5))]), (8, .f (.v (.int .i64)))])], digest_Sum_L0, []⟩
    | _ => none, fun r => match r with
    | _ => none, fun r => match r with
    | _ => false⟩

theorem digest_Sum_L0_eq (y0 : (List (UInt8))) (y1 : (DigestState × Unit)) (y2 : Int) (y3 : Int) (y4 : Int) : run E_digest_Sum A_digest_Sum (loopAt 0 (Try.f31.body.getD .skip)) (layC cd [(2, .f (.v (.rs 0))), (7, .ptr [(.v (.agg 5))]), (8, .f (.v (.int .i64))), (22, .f (.v (.int .i64))), (23, .f (.v (.int .i64)))] [] (y0, y1, y2, y3, y4, ())) (roundK cd [(2, .f (.v (.rs 0))), (7, .ptr [(.v (.agg 5))]), (8, .f (.v (.int .i64))), (22, .f (.v (.int .i64))), (23, .f (.v (.int .i64)))] [] [(.exit 0, [(2, .f (.v (.rs 0))), (7, .ptr [(.v (.agg 5))]), (8, .f (.v (.int .i64)))])]) = digest_Sum_L0b y0 y1 y2 y3 y4 := by kernel_rfl

theorem digest_Sum_eq (x : tySs T S_digest_Sum.ps) : run E_digest_Sum A_digest_Sum (Try.f31.body.getD .skip) (enterT E_digest_Sum.C S_digest_Sum.ps x) (retK E_digest_Sum Try.f31.results.toList S_digest_Sum.ps S_digest_Sum.rs) = S_digest_Sum.fn x := by kernel_rfl

theorem digest_Sum_env : EnvOk Try.prog E_digest_Sum := envOk (E := E_digest_Sum) cd_ok tys fl_ok fun f ds S h => by
    dsimp only [E_digest_Sum] at h
    split at h
    · cases h; exact digest_state_absorb_ok
    · cases h; exact digest_little_ok
    · cases h; exact digest_state_rounds_ok
    · cases h

theorem digest_Sum_L0_ok : LoopOk Try.prog E_digest_Sum Try.f31.ntmps (kqOf S_digest_Sum.ps 0) (loopAt 0 (Try.f31.body.getD .skip)) ⟨[(2, .f (.v (.rs 0))), (7, .ptr [(.v (.agg 5))]), (8, .f (.v (.int .i64))), (22, .f (.v (.int .i64))), (23, .f (.v (.int .i64)))], [(.exit 0, [(2, .f (.v (.rs 0))), (7, .ptr [(.v (.agg 5))]), (8, .f (.v (.int .i64)))])], digest_Sum_L0, []⟩ :=
  loop_ok (A := A_digest_Sum) (done := []) (c0 := (Try.f31.body.getD .skip)) hmix digest_Sum_env done_nil rounds (by kernel_rfl) (by kernel_rfl) (fun x => digest_Sum_L0_eq x.1 x.2.1 x.2.2.1 x.2.2.2.1 x.2.2.2.2.1) (fun _ => rfl)

theorem digest_Sum_ok : SoundT Try.prog cd gdn 31 S_digest_Sum :=
  sound_fn (E := E_digest_Sum) (A := A_digest_Sum) (done := [0]) (c := (Try.f31.body.getD .skip)) (S := S_digest_Sum) (fn := Try.f31) hmix digest_Sum_env Try.func31 rfl (by kernel_rfl) (by kernel_rfl) (done_cons rfl digest_Sum_L0_ok done_nil) (by kernel_rfl) (by kernel_rfl) digest_Sum_eq

def digest_Mac (a0 : (BitVec 64)) (a1 : Int) (a2 : (List (UInt8))) : Option ((Unit) × ((BitVec 64) × Unit)) :=
 ((digest_Sum a0 (1#64 + (BitVec.ofInt 64 a1)) a2).bind fun r1 => (some ((), (r1.2.1, ()))))

def S_digest_Mac : FSpec T := ⟨[.f (.v .u64), .f (.v (.int .i64)), .f (.v (.rs 0))], [(.v .u64)], fun x => digest_Mac x.1 x.2.1 x.2.2.1⟩

def E_digest_Mac : Env T := ⟨tab.find, cd, globs, flc, fun f ds => match f with
    | 31 => some S_digest_Sum
    | _ => none, fun f => match f with
    | 31 => true
    | _ => false⟩

def A_digest_Mac : Loc2 T := ⟨fun id => match id with
    | _ => none, fun r => match r with
    | _ => none, fun r => match r with
    | _ => false⟩

theorem digest_Mac_eq (x : tySs T S_digest_Mac.ps) : run E_digest_Mac A_digest_Mac (Try.f28.body.getD .skip) (enterT E_digest_Mac.C S_digest_Mac.ps x) (retK E_digest_Mac Try.f28.results.toList S_digest_Mac.ps S_digest_Mac.rs) = S_digest_Mac.fn x := by kernel_rfl

theorem digest_Mac_env : EnvOk Try.prog E_digest_Mac := envOk (E := E_digest_Mac) cd_ok tys fl_ok fun f ds S h => by
    dsimp only [E_digest_Mac] at h
    split at h
    · cases h; exact digest_Sum_ok
    · cases h

theorem digest_Mac_ok : SoundT Try.prog cd gdn 28 S_digest_Mac :=
  sound_fn (E := E_digest_Mac) (A := A_digest_Mac) (done := []) (c := (Try.f28.body.getD .skip)) (S := S_digest_Mac) (fn := Try.f28) hmix digest_Mac_env Try.func28 rfl (by kernel_rfl) (by kernel_rfl) done_nil (by kernel_rfl) (by kernel_rfl) digest_Mac_eq

def challenge_Bytes (a0 : ApiChallenges) (a1 : ApiChallenge) : Option ((Unit) × ((List (UInt8)) × Unit)) :=
 ((bif a1.bound then (some ((a0, ()), (a1, ()), 1#64, ()))
 else (some ((a0, ()), (a1, ()), 0#64, ()))).bind (fun (j1 : ((ApiChallenges × Unit) × (ApiChallenge × Unit) × (BitVec 64) × Unit)) => (let v2 : List (BitVec 64) := ([(BitVec.ofInt 64 j1.2.1.1.number), (BitVec.ofInt 64 j1.2.1.1.kind), j1.2.2.1, (BitVec.ofInt 64 j1.2.1.1.since)] : List (BitVec 64))
 ((digest_Words v2).bind fun r3 => (bif small ((r3.2.1).length + (j1.2.1.1.account : List (UInt8)).length) 1 then ((digest_Mac j1.1.1.secret (17 : Int) (r3.2.1 ++ j1.2.1.1.account)).bind fun r4 => (let v5 : List (BitVec 64) := ([(BitVec.ofInt 64 j1.2.1.1.number), r4.2.1] : List (BitVec 64))
 ((digest_Words v5).bind fun r6 => (some ((), (r6.2.1, ()))))))
 else none)))))

def S_challenge_Bytes : FSpec T := ⟨[.f (.v (.agg 3)), .f (.v (.agg 2))], [(.own 0)], fun x => challenge_Bytes x.1 x.2.1⟩

def E_challenge_Bytes : Env T := ⟨tab.find, cd, globs, flc, fun f ds => match f with
    | 27 => some S_digest_Words
    | 28 => some S_digest_Mac
    | _ => none, fun f => match f with
    | 28 => true
    | _ => false⟩

def A_challenge_Bytes : Loc2 T := ⟨fun id => match id with
    | _ => none, fun r => match r with
    | 4 => some ([(2, .ptr [(.v (.agg 3))]), (3, .ptr [(.v (.agg 2))]), (5, .f (.v .u64))], true)
    | _ => none, fun r => match r with
    | _ => false⟩

theorem challenge_Bytes_eq (x : tySs T S_challenge_Bytes.ps) : run E_challenge_Bytes A_challenge_Bytes (Try.f21.body.getD .skip) (enterT E_challenge_Bytes.C S_challenge_Bytes.ps x) (retK E_challenge_Bytes Try.f21.results.toList S_challenge_Bytes.ps S_challenge_Bytes.rs) = S_challenge_Bytes.fn x := by kernel_rfl

theorem challenge_Bytes_env : EnvOk Try.prog E_challenge_Bytes := envOk (E := E_challenge_Bytes) cd_ok tys fl_ok fun f ds S h => by
    dsimp only [E_challenge_Bytes] at h
    split at h
    · cases h; exact digest_Words_ok
    · cases h; exact digest_Mac_ok
    · cases h

theorem challenge_Bytes_ok : SoundT Try.prog cd gdn 21 S_challenge_Bytes :=
  sound_fn (E := E_challenge_Bytes) (A := A_challenge_Bytes) (done := []) (c := (Try.f21.body.getD .skip)) (S := S_challenge_Bytes) (fn := Try.f21) hmix challenge_Bytes_env Try.func21 rfl (by kernel_rfl) (by kernel_rfl) done_nil (by kernel_rfl) (by kernel_rfl) challenge_Bytes_eq

def challenge_Issue (a0 : ApiChallenges) (a1 : Int) (a2 : (List UInt8)) (a3 : Bool) (a4 : Int) : Option ((Unit) × (ApiChallenges × (List (UInt8)) × Int × Unit)) :=
 ((challenge_isTime a4).bind fun r1 => (bif (!r1.2.1) then (some ((), (a0, [], (9 : Int), ())))
 else (bif (!decide (a1 = (1 : Int))) then (bif (!decide (a1 = (2 : Int))) then (some ((), (a0, [], (3 : Int), ())))
 else (bif (decide ((32 : Int) < ((a2).length : Int))) then (some ((), (a0, [], (8 : Int), ())))
 else ((challenge_Expire a0 a4).bind fun r2 => (bif (decide ((32 : Int) ≤ ((r2.2.1.2.1).length : Int))) then (some ((), (a0, [], (12 : Int), ())))
 else ((let v3 : List (ApiChallenge) := ([(⟨r2.2.1.1.2.1, a1, a2, a3, a4⟩ : ApiChallenge)] : List (ApiChallenge))
 (bif small ((r2.2.1.2.1).length + (v3 : List (ApiChallenge)).length) 48 then (some (((⟨0#64, (0 : Int), []⟩ : ApiChallenges), ()), ((⟨r2.2.1.1.1, (IntKind.wrap .i64 (r2.2.1.1.2.1 + (1 : Int))), (r2.2.1.2.1 ++ v3)⟩ : ApiChallenges), ()), ((⟨r2.2.1.1.2.1, a1, a2, a3, a4⟩ : ApiChallenge), ()), ()))
 else none)).bind (fun (j4 : ((ApiChallenges × Unit) × (ApiChallenges × Unit) × (ApiChallenge × Unit) × Unit)) => ((challenge_Bytes j4.2.1.1 j4.2.2.1.1).bind fun r5 => (some ((), (j4.2.1.1, r5.2.1, (0 : Int), ()))))))))))
 else (bif (decide ((32 : Int) < ((a2).length : Int))) then (some ((), (a0, [], (8 : Int), ())))
 else ((challenge_Expire a0 a4).bind fun r6 => (bif (decide ((32 : Int) ≤ ((r6.2.1.2.1).length : Int))) then (some ((), (a0, [], (12 : Int), ())))
 else ((let v7 : List (ApiChallenge) := ([(⟨r6.2.1.1.2.1, a1, a2, a3, a4⟩ : ApiChallenge)] : List (ApiChallenge))
 (bif small ((r6.2.1.2.1).length + (v7 : List (ApiChallenge)).length) 48 then (some (((⟨0#64, (0 : Int), []⟩ : ApiChallenges), ()), ((⟨r6.2.1.1.1, (IntKind.wrap .i64 (r6.2.1.1.2.1 + (1 : Int))), (r6.2.1.2.1 ++ v7)⟩ : ApiChallenges), ()), ((⟨r6.2.1.1.2.1, a1, a2, a3, a4⟩ : ApiChallenge), ()), ()))
 else none)).bind (fun (j8 : ((ApiChallenges × Unit) × (ApiChallenges × Unit) × (ApiChallenge × Unit) × Unit)) => ((challenge_Bytes j8.2.1.1 j8.2.2.1.1).bind fun r9 => (some ((), (j8.2.1.1, r9.2.1, (0 : Int), ()))))))))))))

def S_challenge_Issue : FSpec T := ⟨[.f (.v (.agg 3)), .f (.v (.int .i64)), .f (.v .str), .f (.v .bool), .f (.v (.int .i64))], [(.v (.agg 3)), (.own 0), (.v (.int .i64))], fun x => challenge_Issue x.1 x.2.1 x.2.2.1 x.2.2.2.1 x.2.2.2.2.1⟩

def E_challenge_Issue : Env T := ⟨tab.find, cd, globs, flc, fun f ds => match f with
    | 18 => some S_challenge_Expire
    | 21 => some S_challenge_Bytes
    | 24 => some S_challenge_isTime
    | _ => none, fun f => match f with
    | 24 => true
    | _ => false⟩

def A_challenge_Issue : Loc2 T := ⟨fun id => match id with
    | _ => none, fun r => match r with
    | 13 => some ([(10, .ptr [(.v (.agg 3))]), (13, .ptr [(.v (.agg 3))]), (14, .ptr [(.v (.agg 2))])], true)
    | _ => none, fun r => match r with
    | 13 => true
    | _ => false⟩

theorem challenge_Issue_eq (x : tySs T S_challenge_Issue.ps) : run E_challenge_Issue A_challenge_Issue (Try.f14.body.getD .skip) (enterT E_challenge_Issue.C S_challenge_Issue.ps x) (retK E_challenge_Issue Try.f14.results.toList S_challenge_Issue.ps S_challenge_Issue.rs) = S_challenge_Issue.fn x := by kernel_rfl

theorem challenge_Issue_env : EnvOk Try.prog E_challenge_Issue := envOk (E := E_challenge_Issue) cd_ok tys fl_ok fun f ds S h => by
    dsimp only [E_challenge_Issue] at h
    split at h
    · cases h; exact challenge_Expire_ok
    · cases h; exact challenge_Bytes_ok
    · cases h; exact challenge_isTime_ok
    · cases h

theorem challenge_Issue_ok : SoundT Try.prog cd gdn 14 S_challenge_Issue :=
  sound_fn (E := E_challenge_Issue) (A := A_challenge_Issue) (done := []) (c := (Try.f14.body.getD .skip)) (S := S_challenge_Issue) (fn := Try.f14) hmix challenge_Issue_env Try.func14 rfl (by kernel_rfl) (by kernel_rfl) done_nil (by kernel_rfl) (by kernel_rfl) challenge_Issue_eq

def bytes_Equal (a0 : (List (UInt8))) (a1 : (List (UInt8))) : Option ((Unit) × (Bool × Unit)) :=
 (some ((), ((decide (a0 = a1)), ())))

def S_bytes_Equal : FSpec T := ⟨[.f (.v (.rs 0)), .f (.v (.rs 0))], [(.v .bool)], fun x => bytes_Equal x.1 x.2.1⟩

def E_bytes_Equal : Env T := ⟨tab.find, cd, globs, flc, fun f ds => match f with
    | _ => none, fun f => match f with
    | _ => false⟩

def A_bytes_Equal : Loc2 T := ⟨fun id => match id with
    | _ => none, fun r => match r with
    | _ => none, fun r => match r with
    | _ => false⟩

theorem bytes_Equal_eq (x : tySs T S_bytes_Equal.ps) : run E_bytes_Equal A_bytes_Equal (Try.f26.body.getD .skip) (enterT E_bytes_Equal.C S_bytes_Equal.ps x) (retK E_bytes_Equal Try.f26.results.toList S_bytes_Equal.ps S_bytes_Equal.rs) = S_bytes_Equal.fn x := by kernel_rfl

theorem bytes_Equal_env : EnvOk Try.prog E_bytes_Equal := envOk (E := E_bytes_Equal) cd_ok tys fl_ok fun f ds S h => by cases h

theorem bytes_Equal_ok : SoundT Try.prog cd gdn 26 S_bytes_Equal :=
  sound_fn (E := E_bytes_Equal) (A := A_bytes_Equal) (done := []) (c := (Try.f26.body.getD .skip)) (S := S_bytes_Equal) (fn := Try.f26) hmix bytes_Equal_env Try.func26 rfl (by kernel_rfl) (by kernel_rfl) done_nil (by kernel_rfl) (by kernel_rfl) bytes_Equal_eq

def challenge_Use_L0b (y0 : (List (UInt8))) (y1 : Int) (y2 : (ApiChallenges × Unit)) (y3 : (ApiChallenges × Unit)) (y4 : (ApiChallenge × Unit)) (y5 : ((BitVec 64) × Int × (List (ApiChallenge)) × Unit)) (y6 : Int) (y7 : Int) : Option (((List (UInt8)) × Int × (ApiChallenges × Unit) × (ApiChallenges × Unit) × (ApiChallenge × Unit) × ((BitVec 64) × Int × (List (ApiChallenge)) × Unit) × Int × Int × Unit) ⊕ ((((BitVec 64) × Int × (List (ApiChallenge)) × Unit) × (ApiChallenge × Unit) × Int × Unit) ⊕ ((ApiChallenges × Unit) × (ApiChallenges × Unit) × (ApiChallenge × Unit) × Unit))) :=
 (bif (decide (y7 < y6)) then (bif (decide ((0 : Int) ≤ y7) && decide (y7 < ((y5.2.2.1).length : Int))) then (((y5.2.2.1)[(y7).toNat]?).bind fun x3 => (bif (decide (x3.kind = y1)) then ((challenge_Bytes (⟨y5.1, y5.2.1, y5.2.2.1⟩ : ApiChallenges) x3).bind fun r4 => ((bytes_Equal r4.2.1 y0).bind fun r5 => (bif r5.2.1 then (bif (decide ((0 : Int) ≤ y7) && decide (y7 ≤ ((y5.2.2.1).length : Int))) then (bif (decide ((0 : Int) ≤ (IntKind.wrap .i64 (y7 + (1 : Int)))) && decide ((IntKind.wrap .i64 (y7 + (1 : Int))) ≤ ((y5.2.2.1).length : Int))) then (bif decide (((y5.2.2.1).length - ((IntKind.wrap .i64 (y7 + (1 : Int)))).toNat) + ((IntKind.wrap .i64 (y7 + (1 : Int)))).toNat ≤ (y5.2.2.1).length) then (bif (decide ((y7).toNat ≤ (y5.2.2.1).length) && small ((y7).toNat + ((List.take ((y5.2.2.1).length - ((IntKind.wrap .i64 (y7 + (1 : Int)))).toNat) (List.drop ((IntKind.wrap .i64 (y7 + (1 : Int)))).toNat y5.2.2.1)) : List (ApiChallenge)).length) 48) then (let v6 : List (ApiChallenge) := (List.take (y7).toNat y5.2.2.1 ++ (List.take ((y5.2.2.1).length - ((IntKind.wrap .i64 (y7 + (1 : Int)))).toNat) (List.drop ((IntKind.wrap .i64 (y7 + (1 : Int)))).toNat y5.2.2.1)))
 (some (Sum.inr (Sum.inl ((y5.1, y5.2.1, v6, ()), (x3, ()), (0 : Int), ())))))
 else none)
 else none)
 else none)
 else none)
 else (some (Sum.inl (y0, y1, (y2.1, ()), (y3.1, ()), (y4.1, ()), (y5.1, y5.2.1, y5.2.2.1, ()), y6, (IntKind.wrap .i64 (y7 + (1 : Int))), ()))))))
 else (some (Sum.inl (y0, y1, (y2.1, ()), (y3.1, ()), (y4.1, ()), (y5.1, y5.2.1, y5.2.2.1, ()), y6, (IntKind.wrap .i64 (y7 + (1 : Int))), ())))))
 else none)
 else (some (Sum.inr (Sum.inr ((y2.1, ()), (y3.1, ()), (y4.1, ()), ())))))

def challenge_Use_L0 (y : ((List (UInt8)) × Int × (ApiChallenges × Unit) × (ApiChallenges × Unit) × (ApiChallenge × Unit) × ((BitVec 64) × Int × (List (ApiChallenge)) × Unit) × Int × Int × Unit)) : Option ((((BitVec 64) × Int × (List (ApiChallenge)) × Unit) × (ApiChallenge × Unit) × Int × Unit) ⊕ ((ApiChallenges × Unit) × (ApiChallenges × Unit) × (ApiChallenge × Unit) × Unit)) := iter (fun (y : ((List (UInt8)) × Int × (ApiChallenges × Unit) × (ApiChallenges × Unit) × (ApiChallenge × Unit) × ((BitVec 64) × Int × (List (ApiChallenge)) × Unit) × Int × Int × Unit)) => challenge_Use_L0b y.1 y.2.1 y.2.2.1 y.2.2.2.1 y.2.2.2.2.1 y.2.2.2.2.2.1 y.2.2.2.2.2.2.1 y.2.2.2.2.2.2.2.1) rounds y

def challenge_Use (a0 : ApiChallenges) (a1 : (List (UInt8))) (a2 : Int) (a3 : Int) : Option ((Unit) × (ApiChallenges × ApiChallenge × Int × Unit)) :=
 ((challenge_isTime a3).bind fun r1 => (bif (!r1.2.1) then (some ((), (a0, (⟨(0 : Int), (0 : Int), ([] : List UInt8), false, (0 : Int)⟩ : ApiChallenge), (9 : Int), ())))
 else ((challenge_Expire a0 a3).bind fun r2 => ((challenge_Use_L0 (a1, a2, (a0, ()), ((⟨0#64, (0 : Int), []⟩ : ApiChallenges), ()), ((⟨(0 : Int), (0 : Int), ([] : List UInt8), false, (0 : Int)⟩ : ApiChallenge), ()), (r2.2.1.1.1, r2.2.1.1.2.1, r2.2.1.2.1, ()), ((r2.2.1.2.1).length : Int), (0 : Int), ())).bind (Sum.elim (fun (z7 : (((BitVec 64) × Int × (List (ApiChallenge)) × Unit) × (ApiChallenge × Unit) × Int × Unit)) => (some ((), ((⟨z7.1.1, z7.1.2.1, z7.1.2.2.1⟩ : ApiChallenges), z7.2.1.1, z7.2.2.1, ())))) (fun (z8 : ((ApiChallenges × Unit) × (ApiChallenges × Unit) × (ApiChallenge × Unit) × Unit)) => (some ((), (z8.1.1, (⟨(0 : Int), (0 : Int), ([] : List UInt8), false, (0 : Int)⟩ : ApiChallenge), (35 : Int), ())))))))))

def S_challenge_Use : FSpec T := ⟨[.f (.v (.agg 3)), .f (.v (.rs 0)), .f (.v (.int .i64)), .f (.v (.int .i64))], [(.v (.agg 3)), (.v (.agg 2)), (.v (.int .i64))], fun x => challenge_Use x.1 x.2.1 x.2.2.1 x.2.2.2.1⟩

def E_challenge_Use : Env T := ⟨tab.find, cd, globs, flc, fun f ds => match f with
    | 18 => some S_challenge_Expire
    | 21 => some S_challenge_Bytes
    | 24 => some S_challenge_isTime
    | 26 => some S_bytes_Equal
    | _ => none, fun f => match f with
    | 24 => true
    | 26 => true
    | _ => false⟩

def A_challenge_Use : Loc2 T := ⟨fun id => match id with
    | 0 => some ⟨[(1, .f (.v (.rs 0))), (2, .f (.v (.int .i64))), (4, .ptr [(.v (.agg 3))]), (8, .ptr [(.v (.agg 3))]), (9, .ptr [(.v (.agg 2))]), (11, .ptr [(.v .u64), (.v (.int .i64)), (.own 2)]), (24, .f (.v (.int .i64))), (25, .f (.v (.int .i64)))], [(.ret, [(8, .ptr [(.v .u64), (.v (.int .i64)), (.own 2)]), (9, .ptr [(.v (.agg 2))]), (10, .f (.v (.int .i64)))]), (.exit 0, [(4, .ptr [(.v (.agg 3))]), (8, .ptr [(.v (.agg 3))]), (9, .ptr [(.v (.agg 2))])])], challenge_Use_L0, [(23, 11, 2, 2)]⟩
    | _ => none, fun r => match r with
    | _ => none, fun r => match r with
    | 9 => true
    | _ => false⟩

theorem challenge_Use_L0_eq (y0 : (List (UInt8))) (y1 : Int) (y2 : (ApiChallenges × Unit)) (y3 : (ApiChallenges × Unit)) (y4 : (ApiChallenge × Unit)) (y5 : ((BitVec 64) × Int × (List (ApiChallenge)) × Unit)) (y6 : Int) (y7 : Int) : run E_challenge_Use A_challenge_Use (loopAt 0 (Try.f16.body.getD .skip)) (layC cd [(1, .f (.v (.rs 0))), (2, .f (.v (.int .i64))), (4, .ptr [(.v (.agg 3))]), (8, .ptr [(.v (.agg 3))]), (9, .ptr [(.v (.agg 2))]), (11, .ptr [(.v .u64), (.v (.int .i64)), (.own 2)]), (24, .f (.v (.int .i64))), (25, .f (.v (.int .i64)))] [(23, 11, 2, 2)] (y0, y1, y2, y3, y4, y5, y6, y7, ())) (roundK cd [(1, .f (.v (.rs 0))), (2, .f (.v (.int .i64))), (4, .ptr [(.v (.agg 3))]), (8, .ptr [(.v (.agg 3))]), (9, .ptr [(.v (.agg 2))]), (11, .ptr [(.v .u64), (.v (.int .i64)), (.own 2)]), (24, .f (.v (.int .i64))), (25, .f (.v (.int .i64)))] [(23, 11, 2, 2)] [(.ret, [(8, .ptr [(.v .u64), (.v (.int .i64)), (.own 2)]), (9, .ptr [(.v (.agg 2))]), (10, .f (.v (.int .i64)))]), (.exit 0, [(4, .ptr [(.v (.agg 3))]), (8, .ptr [(.v (.agg 3))]), (9, .ptr [(.v (.agg 2))])])]) = challenge_Use_L0b y0 y1 y2 y3 y4 y5 y6 y7 := by kernel_rfl

theorem challenge_Use_eq (x : tySs T S_challenge_Use.ps) : run E_challenge_Use A_challenge_Use (Try.f16.body.getD .skip) (enterT E_challenge_Use.C S_challenge_Use.ps x) (retK E_challenge_Use Try.f16.results.toList S_challenge_Use.ps S_challenge_Use.rs) = S_challenge_Use.fn x := by kernel_rfl

theorem challenge_Use_env : EnvOk Try.prog E_challenge_Use := envOk (E := E_challenge_Use) cd_ok tys fl_ok fun f ds S h => by
    dsimp only [E_challenge_Use] at h
    split at h
    · cases h; exact challenge_Expire_ok
    · cases h; exact challenge_Bytes_ok
    · cases h; exact challenge_isTime_ok
    · cases h; exact bytes_Equal_ok
    · cases h

theorem challenge_Use_L0_ok : LoopOk Try.prog E_challenge_Use Try.f16.ntmps (kqOf S_challenge_Use.ps 0) (loopAt 0 (Try.f16.body.getD .skip)) ⟨[(1, .f (.v (.rs 0))), (2, .f (.v (.int .i64))), (4, .ptr [(.v (.agg 3))]), (8, .ptr [(.v (.agg 3))]), (9, .ptr [(.v (.agg 2))]), (11, .ptr [(.v .u64), (.v (.int .i64)), (.own 2)]), (24, .f (.v (.int .i64))), (25, .f (.v (.int .i64)))], [(.ret, [(8, .ptr [(.v .u64), (.v (.int .i64)), (.own 2)]), (9, .ptr [(.v (.agg 2))]), (10, .f (.v (.int .i64)))]), (.exit 0, [(4, .ptr [(.v (.agg 3))]), (8, .ptr [(.v (.agg 3))]), (9, .ptr [(.v (.agg 2))])])], challenge_Use_L0, [(23, 11, 2, 2)]⟩ :=
  loop_ok (A := A_challenge_Use) (done := []) (c0 := (Try.f16.body.getD .skip)) hmix challenge_Use_env done_nil rounds (by kernel_rfl) (by kernel_rfl) (fun x => challenge_Use_L0_eq x.1 x.2.1 x.2.2.1 x.2.2.2.1 x.2.2.2.2.1 x.2.2.2.2.2.1 x.2.2.2.2.2.2.1 x.2.2.2.2.2.2.2.1) (fun _ => rfl)

theorem challenge_Use_ok : SoundT Try.prog cd gdn 16 S_challenge_Use :=
  sound_fn (E := E_challenge_Use) (A := A_challenge_Use) (done := [0]) (c := (Try.f16.body.getD .skip)) (S := S_challenge_Use) (fn := Try.f16) hmix challenge_Use_env Try.func16 rfl (by kernel_rfl) (by kernel_rfl) (done_cons rfl challenge_Use_L0_ok done_nil) (by kernel_rfl) (by kernel_rfl) challenge_Use_eq

def passkeylaw29_awake : Option ((Unit) × (Bool × Unit)) :=
 ((challenge_New (7#64)).bind fun r1 => ((challenge_Issue r1.2.1 (2 : Int) ([97, 108, 105, 99, 101] : List UInt8) false (10 : Int)).bind fun r2 => ((challenge_Use r2.2.1 r2.2.2.1 (2 : Int) (70 : Int)).bind fun r3 => ((challenge_Use r3.2.1 r2.2.2.1 (2 : Int) (70 : Int)).bind fun r4 => ((challenge_Use r2.2.1 r2.2.2.1 (2 : Int) (71 : Int)).bind fun r5 => (bif (decide (r2.2.2.2.1 = (0 : Int))) then (bif (decide (r3.2.2.2.1 = (0 : Int))) then (bif (decide (((r2.2.2.1).length : Int) = (16 : Int))) then (bif (decide (r3.2.2.1.account = ([97, 108, 105, 99, 101] : List UInt8))) then (bif (decide (((r3.2.1.open_).length : Int) = (0 : Int))) then (bif (decide (r4.2.2.2.1 = (35 : Int))) then (some ((), ((decide (r5.2.2.2.1 = (35 : Int))), ())))
 else (some ((), (false, ()))))
 else (some ((), (false, ()))))
 else (some ((), (false, ()))))
 else (some ((), (false, ()))))
 else (some ((), (false, ()))))
 else (some ((), (false, ())))))))))

def S_passkeylaw29_awake : FSpec T := ⟨[], [(.v .bool)], fun x => passkeylaw29_awake ⟩

def E_passkeylaw29_awake : Env T := ⟨tab.find, cd, globs, flc, fun f ds => match f with
    | 9 => some S_challenge_New
    | 14 => some S_challenge_Issue
    | 16 => some S_challenge_Use
    | _ => none, fun f => match f with
    | _ => false⟩

def A_passkeylaw29_awake : Loc2 T := ⟨fun id => match id with
    | _ => none, fun r => match r with
    | _ => none, fun r => match r with
    | _ => false⟩

theorem passkeylaw29_awake_eq (x : tySs T S_passkeylaw29_awake.ps) : run E_passkeylaw29_awake A_passkeylaw29_awake (Try.f7.body.getD .skip) (enterT E_passkeylaw29_awake.C S_passkeylaw29_awake.ps x) (retK E_passkeylaw29_awake Try.f7.results.toList S_passkeylaw29_awake.ps S_passkeylaw29_awake.rs) = S_passkeylaw29_awake.fn x := by kernel_rfl

theorem passkeylaw29_awake_env : EnvOk Try.prog E_passkeylaw29_awake := envOk (E := E_passkeylaw29_awake) cd_ok tys fl_ok fun f ds S h => by
    dsimp only [E_passkeylaw29_awake] at h
    split at h
    · cases h; exact challenge_New_ok
    · cases h; exact challenge_Issue_ok
    · cases h; exact challenge_Use_ok
    · cases h

theorem passkeylaw29_awake_ok : SoundT Try.prog cd gdn 7 S_passkeylaw29_awake :=
  sound_fn (E := E_passkeylaw29_awake) (A := A_passkeylaw29_awake) (done := []) (c := (Try.f7.body.getD .skip)) (S := S_passkeylaw29_awake) (fn := Try.f7) hmix passkeylaw29_awake_env Try.func7 rfl (by kernel_rfl) (by kernel_rfl) done_nil (by kernel_rfl) (by kernel_rfl) passkeylaw29_awake_eq

def passkeycast_New (a0 : (List (Int))) : Option ((Unit) × (PasskeycastDeck × Unit)) :=
 (some ((), ((⟨a0, (0 : Int)⟩ : PasskeycastDeck), ())))

def S_passkeycast_New : FSpec T := ⟨[.f (.v (.rs 1))], [(.pt (.agg 6))], fun x => passkeycast_New x.1⟩

def E_passkeycast_New : Env T := ⟨tab.find, cd, globs, flc, fun f ds => match f with
    | _ => none, fun f => match f with
    | _ => false⟩

def A_passkeycast_New : Loc2 T := ⟨fun id => match id with
    | _ => none, fun r => match r with
    | _ => none, fun r => match r with
    | _ => false⟩

theorem passkeycast_New_eq (x : tySs T S_passkeycast_New.ps) : run E_passkeycast_New A_passkeycast_New (Try.f8.body.getD .skip) (enterT E_passkeycast_New.C S_passkeycast_New.ps x) (retK E_passkeycast_New Try.f8.results.toList S_passkeycast_New.ps S_passkeycast_New.rs) = S_passkeycast_New.fn x := by kernel_rfl

theorem passkeycast_New_env : EnvOk Try.prog E_passkeycast_New := envOk (E := E_passkeycast_New) cd_ok tys fl_ok fun f ds S h => by cases h

theorem passkeycast_New_ok : SoundT Try.prog cd gdn 8 S_passkeycast_New :=
  sound_fn (E := E_passkeycast_New) (A := A_passkeycast_New) (done := []) (c := (Try.f8.body.getD .skip)) (S := S_passkeycast_New) (fn := Try.f8) hmix passkeycast_New_env Try.func8 rfl (by kernel_rfl) (by kernel_rfl) done_nil (by kernel_rfl) (by kernel_rfl) passkeycast_New_eq

def passkeyref29_NewChallenges (a0 : (BitVec 64)) : Option ((Unit) × (ApiChallenges × Unit)) :=
 (some ((), ((⟨a0, (0 : Int), []⟩ : ApiChallenges), ())))

def S_passkeyref29_NewChallenges : FSpec T := ⟨[.f (.v .u64)], [(.v (.agg 3))], fun x => passkeyref29_NewChallenges x.1⟩

def E_passkeyref29_NewChallenges : Env T := ⟨tab.find, cd, globs, flc, fun f ds => match f with
    | _ => none, fun f => match f with
    | _ => false⟩

def A_passkeyref29_NewChallenges : Loc2 T := ⟨fun id => match id with
    | _ => none, fun r => match r with
    | _ => none, fun r => match r with
    | _ => false⟩

theorem passkeyref29_NewChallenges_eq (x : tySs T S_passkeyref29_NewChallenges.ps) : run E_passkeyref29_NewChallenges A_passkeyref29_NewChallenges (Try.f10.body.getD .skip) (enterT E_passkeyref29_NewChallenges.C S_passkeyref29_NewChallenges.ps x) (retK E_passkeyref29_NewChallenges Try.f10.results.toList S_passkeyref29_NewChallenges.ps S_passkeyref29_NewChallenges.rs) = S_passkeyref29_NewChallenges.fn x := by kernel_rfl

theorem passkeyref29_NewChallenges_env : EnvOk Try.prog E_passkeyref29_NewChallenges := envOk (E := E_passkeyref29_NewChallenges) cd_ok tys fl_ok fun f ds S h => by cases h

theorem passkeyref29_NewChallenges_ok : SoundT Try.prog cd gdn 10 S_passkeyref29_NewChallenges :=
  sound_fn (E := E_passkeyref29_NewChallenges) (A := A_passkeyref29_NewChallenges) (done := []) (c := (Try.f10.body.getD .skip)) (S := S_passkeyref29_NewChallenges) (fn := Try.f10) hmix passkeyref29_NewChallenges_env Try.func10 rfl (by kernel_rfl) (by kernel_rfl) done_nil (by kernel_rfl) (by kernel_rfl) passkeyref29_NewChallenges_eq

def passkeycast_Deck_Left (a0 : PasskeycastDeck) : Option ((Unit) × (Bool × Unit)) :=
 (some ((), ((decide (a0.at_ < ((a0.l).length : Int))), ())))

def S_passkeycast_Deck_Left : FSpec T := ⟨[.f (.v (.ref (.agg 6)))], [(.v .bool)], fun x => passkeycast_Deck_Left x.1⟩

def E_passkeycast_Deck_Left : Env T := ⟨tab.find, cd, globs, flc, fun f ds => match f with
    | _ => none, fun f => match f with
    | _ => false⟩

def A_passkeycast_Deck_Left : Loc2 T := ⟨fun id => match id with
    | _ => none, fun r => match r with
    | _ => none, fun r => match r with
    | _ => false⟩

theorem passkeycast_Deck_Left_eq (x : tySs T S_passkeycast_Deck_Left.ps) : run E_passkeycast_Deck_Left A_passkeycast_Deck_Left (Try.f11.body.getD .skip) (enterT E_passkeycast_Deck_Left.C S_passkeycast_Deck_Left.ps x) (retK E_passkeycast_Deck_Left Try.f11.results.toList S_passkeycast_Deck_Left.ps S_passkeycast_Deck_Left.rs) = S_passkeycast_Deck_Left.fn x := by kernel_rfl

theorem passkeycast_Deck_Left_env : EnvOk Try.prog E_passkeycast_Deck_Left := envOk (E := E_passkeycast_Deck_Left) cd_ok tys fl_ok fun f ds S h => by cases h

theorem passkeycast_Deck_Left_ok : SoundT Try.prog cd gdn 11 S_passkeycast_Deck_Left :=
  sound_fn (E := E_passkeycast_Deck_Left) (A := A_passkeycast_Deck_Left) (done := []) (c := (Try.f11.body.getD .skip)) (S := S_passkeycast_Deck_Left) (fn := Try.f11) hmix passkeycast_Deck_Left_env Try.func11 rfl (by kernel_rfl) (by kernel_rfl) done_nil (by kernel_rfl) (by kernel_rfl) passkeycast_Deck_Left_eq

def passkeycast_Mod (a0 : Int) (a1 : Int) : Option ((Unit) × (Int × Unit)) :=
 (bif decide ((BitVec.ofInt 64 a1) = 0) then none
 else (let v1 : Int := (IntKind.wrap .i64 (((BitVec.ofInt 64 a0) % (BitVec.ofInt 64 a1)).toNat : Int))
 (some ((), (v1, ())))))

def S_passkeycast_Mod : FSpec T := ⟨[.f (.v (.int .i64)), .f (.v (.int .i64))], [(.v (.int .i64))], fun x => passkeycast_Mod x.1 x.2.1⟩

def E_passkeycast_Mod : Env T := ⟨tab.find, cd, globs, flc, fun f ds => match f with
    | _ => none, fun f => match f with
    | _ => false⟩

def A_passkeycast_Mod : Loc2 T := ⟨fun id => match id with
    | _ => none, fun r => match r with
    | _ => none, fun r => match r with
    | _ => false⟩

theorem passkeycast_Mod_eq (x : tySs T S_passkeycast_Mod.ps) : run E_passkeycast_Mod A_passkeycast_Mod (Try.f23.body.getD .skip) (enterT E_passkeycast_Mod.C S_passkeycast_Mod.ps x) (retK E_passkeycast_Mod Try.f23.results.toList S_passkeycast_Mod.ps S_passkeycast_Mod.rs) = S_passkeycast_Mod.fn x := by kernel_rfl

theorem passkeycast_Mod_env : EnvOk Try.prog E_passkeycast_Mod := envOk (E := E_passkeycast_Mod) cd_ok tys fl_ok fun f ds S h => by cases h

theorem passkeycast_Mod_ok : SoundT Try.prog cd gdn 23 S_passkeycast_Mod :=
  sound_fn (E := E_passkeycast_Mod) (A := A_passkeycast_Mod) (done := []) (c := (Try.f23.body.getD .skip)) (S := S_passkeycast_Mod) (fn := Try.f23) hmix passkeycast_Mod_env Try.func23 rfl (by kernel_rfl) (by kernel_rfl) done_nil (by kernel_rfl) (by kernel_rfl) passkeycast_Mod_eq

def passkeycast_Deck_Next (a0 : (PasskeycastDeck × Unit)) (a1 : Int) : Option (((PasskeycastDeck × Unit) × Unit) × (Int × Unit)) :=
 (bif (decide (((a0.1.l).length : Int) ≤ a0.1.at_)) then (some (((a0.1, ()), ()), ((0 : Int), ())))
 else (let v1 : Int := (IntKind.wrap .i64 ((IntKind.wrap .i64 (a0.1.at_ + (1 : Int))) - (1 : Int)))
 ((getI a0.1.l v1).bind fun x2 => ((passkeycast_Mod x2 a1).bind fun r3 => (some ((((⟨a0.1.l, (IntKind.wrap .i64 (a0.1.at_ + (1 : Int)))⟩ : PasskeycastDeck), ()), ()), (r3.2.1, ())))))))

def S_passkeycast_Deck_Next : FSpec T := ⟨[.ptr [(.v (.agg 6))], .f (.v (.int .i64))], [(.v (.int .i64))], fun x => passkeycast_Deck_Next x.1 x.2.1⟩

def E_passkeycast_Deck_Next : Env T := ⟨tab.find, cd, globs, flc, fun f ds => match f with
    | 23 => some S_passkeycast_Mod
    | _ => none, fun f => match f with
    | 23 => true
    | _ => false⟩

def A_passkeycast_Deck_Next : Loc2 T := ⟨fun id => match id with
    | _ => none, fun r => match r with
    | _ => none, fun r => match r with
    | _ => false⟩

theorem passkeycast_Deck_Next_eq (x : tySs T S_passkeycast_Deck_Next.ps) : run E_passkeycast_Deck_Next A_passkeycast_Deck_Next (Try.f12.body.getD .skip) (enterT E_passkeycast_Deck_Next.C S_passkeycast_Deck_Next.ps x) (retK E_passkeycast_Deck_Next Try.f12.results.toList S_passkeycast_Deck_Next.ps S_passkeycast_Deck_Next.rs) = S_passkeycast_Deck_Next.fn x := by kernel_rfl

theorem passkeycast_Deck_Next_env : EnvOk Try.prog E_passkeycast_Deck_Next := envOk (E := E_passkeycast_Deck_Next) cd_ok tys fl_ok fun f ds S h => by
    dsimp only [E_passkeycast_Deck_Next] at h
    split at h
    · cases h; exact passkeycast_Mod_ok
    · cases h

theorem passkeycast_Deck_Next_ok : SoundT Try.prog cd gdn 12 S_passkeycast_Deck_Next :=
  sound_fn (E := E_passkeycast_Deck_Next) (A := A_passkeycast_Deck_Next) (done := []) (c := (Try.f12.body.getD .skip)) (S := S_passkeycast_Deck_Next) (fn := Try.f12) hmix passkeycast_Deck_Next_env Try.func12 rfl (by kernel_rfl) (by kernel_rfl) done_nil (by kernel_rfl) (by kernel_rfl) passkeycast_Deck_Next_eq

def passkeycast_Name (a0 : Int) : Option ((Unit) × ((List UInt8) × Unit)) :=
 (let v1 : List (List UInt8) := ([([97, 108, 105, 99, 101] : List UInt8), ([98, 111, 98] : List UInt8), ([99, 97, 114, 111, 108] : List UInt8), ([] : List UInt8), ([255] : List UInt8)] : List (List UInt8))
 ((passkeycast_Mod a0 (5 : Int)).bind fun r2 => (bif (decide ((0 : Int) ≤ r2.2.1) && decide (r2.2.1 < (5 : Int))) then (((v1)[(r2.2.1).toNat]?).bind fun x3 => (some ((), (x3, ()))))
 else none)))

def S_passkeycast_Name : FSpec T := ⟨[.f (.v (.int .i64))], [(.v .str)], fun x => passkeycast_Name x.1⟩

def E_passkeycast_Name : Env T := ⟨tab.find, cd, globs, flc, fun f ds => match f with
    | 23 => some S_passkeycast_Mod
    | _ => none, fun f => match f with
    | 23 => true
    | _ => false⟩

def A_passkeycast_Name : Loc2 T := ⟨fun id => match id with
    | _ => none, fun r => match r with
    | _ => none, fun r => match r with
    | _ => false⟩

theorem passkeycast_Name_eq (x : tySs T S_passkeycast_Name.ps) : run E_passkeycast_Name A_passkeycast_Name (Try.f13.body.getD .skip) (enterT E_passkeycast_Name.C S_passkeycast_Name.ps x) (retK E_passkeycast_Name Try.f13.results.toList S_passkeycast_Name.ps S_passkeycast_Name.rs) = S_passkeycast_Name.fn x := by kernel_rfl

theorem passkeycast_Name_env : EnvOk Try.prog E_passkeycast_Name := envOk (E := E_passkeycast_Name) cd_ok tys fl_ok fun f ds S h => by
    dsimp only [E_passkeycast_Name] at h
    split at h
    · cases h; exact passkeycast_Mod_ok
    · cases h

theorem passkeycast_Name_ok : SoundT Try.prog cd gdn 13 S_passkeycast_Name :=
  sound_fn (E := E_passkeycast_Name) (A := A_passkeycast_Name) (done := []) (c := (Try.f13.body.getD .skip)) (S := S_passkeycast_Name) (fn := Try.f13) hmix passkeycast_Name_env Try.func13 rfl (by kernel_rfl) (by kernel_rfl) done_nil (by kernel_rfl) (by kernel_rfl) passkeycast_Name_eq

def passkeyref29_within (a0 : Int) (a1 : Int) (a2 : Int) : Option ((Unit) × (Bool × Unit)) :=
 (bif (decide (a1 ≤ a0)) then (some ((), ((decide (a0 ≤ a2)), ())))
 else (some ((), (false, ()))))

def S_passkeyref29_within : FSpec T := ⟨[.f (.v (.int .i64)), .f (.v (.int .i64)), .f (.v (.int .i64))], [(.v .bool)], fun x => passkeyref29_within x.1 x.2.1 x.2.2.1⟩

def E_passkeyref29_within : Env T := ⟨tab.find, cd, globs, flc, fun f ds => match f with
    | _ => none, fun f => match f with
    | _ => false⟩

def A_passkeyref29_within : Loc2 T := ⟨fun id => match id with
    | _ => none, fun r => match r with
    | _ => none, fun r => match r with
    | _ => false⟩

theorem passkeyref29_within_eq (x : tySs T S_passkeyref29_within.ps) : run E_passkeyref29_within A_passkeyref29_within (Try.f25.body.getD .skip) (enterT E_passkeyref29_within.C S_passkeyref29_within.ps x) (retK E_passkeyref29_within Try.f25.results.toList S_passkeyref29_within.ps S_passkeyref29_within.rs) = S_passkeyref29_within.fn x := by kernel_rfl

theorem passkeyref29_within_env : EnvOk Try.prog E_passkeyref29_within := envOk (E := E_passkeyref29_within) cd_ok tys fl_ok fun f ds S h => by cases h

theorem passkeyref29_within_ok : SoundT Try.prog cd gdn 25 S_passkeyref29_within :=
  sound_fn (E := E_passkeyref29_within) (A := A_passkeyref29_within) (done := []) (c := (Try.f25.body.getD .skip)) (S := S_passkeyref29_within) (fn := Try.f25) hmix passkeyref29_within_env Try.func25 rfl (by kernel_rfl) (by kernel_rfl) done_nil (by kernel_rfl) (by kernel_rfl) passkeyref29_within_eq

def passkeyref29_ExpireChallenges_L0b (y0 : Int) (y1 : (ApiChallenges × Unit)) (y2 : (ApiChallenges × Unit)) (y3 : (List (ApiChallenge))) (y4 : Int) : Option ((Int × (ApiChallenges × Unit) × (ApiChallenges × Unit) × (List (ApiChallenge)) × Int × Unit) ⊕ ((ApiChallenges × Unit) × (ApiChallenges × Unit) × (List (ApiChallenge)) × Unit)) :=
 (bif (decide (y4 < ((y1.1.open_).length : Int))) then ((getI y1.1.open_ y4).bind fun x2 => (bif (decide ((IntKind.wrap .i64 (y0 - x2.since)) ≤ (60 : Int))) then ((getI y1.1.open_ y4).bind fun x3 => (bif small ((y3).length + (([x3] : List (ApiChallenge)) : List (ApiChallenge)).length) 48 then (some (Sum.inl (y0, (y1.1, ()), (y2.1, ()), (y3 ++ ([x3] : List (ApiChallenge))), (IntKind.wrap .i64 (y4 + (1 : Int))), ())))
 else none))
 else (some (Sum.inl (y0, (y1.1, ()), (y2.1, ()), y3, (IntKind.wrap .i64 (y4 + (1 : Int))), ())))))
 else (some (Sum.inr ((y1.1, ()), (y2.1, ()), y3, ()))))

def passkeyref29_ExpireChallenges_L0 (y : (Int × (ApiChallenges × Unit) × (ApiChallenges × Unit) × (List (ApiChallenge)) × Int × Unit)) : Option ((ApiChallenges × Unit) × (ApiChallenges × Unit) × (List (ApiChallenge)) × Unit) := iter (fun (y : (Int × (ApiChallenges × Unit) × (ApiChallenges × Unit) × (List (ApiChallenge)) × Int × Unit)) => passkeyref29_ExpireChallenges_L0b y.1 y.2.1 y.2.2.1 y.2.2.2.1 y.2.2.2.2.1) rounds y

def passkeyref29_ExpireChallenges (a0 : ApiChallenges) (a1 : Int) : Option ((Unit) × (ApiChallenges × Unit)) :=
 ((passkeyref29_within a1 (0 : Int) (1099511627776 : Int)).bind fun r1 => (bif (!r1.2.1) then (some ((), (a0, ())))
 else ((passkeyref29_ExpireChallenges_L0 (a1, (a0, ()), ((⟨0#64, (0 : Int), []⟩ : ApiChallenges), ()), [], (0 : Int), ())).bind (fun (z4 : ((ApiChallenges × Unit) × (ApiChallenges × Unit) × (List (ApiChallenge)) × Unit)) => (some ((), ((⟨z4.1.1.secret, z4.1.1.count, z4.2.2.1⟩ : ApiChallenges), ())))))))

def S_passkeyref29_ExpireChallenges : FSpec T := ⟨[.f (.v (.agg 3)), .f (.v (.int .i64))], [(.v (.agg 3))], fun x => passkeyref29_ExpireChallenges x.1 x.2.1⟩

def E_passkeyref29_ExpireChallenges : Env T := ⟨tab.find, cd, globs, flc, fun f ds => match f with
    | 25 => some S_passkeyref29_within
    | _ => none, fun f => match f with
    | 25 => true
    | _ => false⟩

def A_passkeyref29_ExpireChallenges : Loc2 T := ⟨fun id => match id with
    | 0 => some ⟨[(1, .f (.v (.int .i64))), (2, .ptr [(.v (.agg 3))]), (4, .ptr [(.v (.agg 3))]), (5, .f (.own 2)), (6, .f (.v (.int .i64)))], [(.exit 0, [(2, .ptr [(.v (.agg 3))]), (4, .ptr [(.v (.agg 3))]), (5, .f (.own 2))])], passkeyref29_ExpireChallenges_L0, []⟩
    | _ => none, fun r => match r with
    | _ => none, fun r => match r with
    | _ => false⟩

theorem passkeyref29_ExpireChallenges_L0_eq (y0 : Int) (y1 : (ApiChallenges × Unit)) (y2 : (ApiChallenges × Unit)) (y3 : (List (ApiChallenge))) (y4 : Int) : run E_passkeyref29_ExpireChallenges A_passkeyref29_ExpireChallenges (loopAt 0 (Try.f19.body.getD .skip)) (layC cd [(1, .f (.v (.int .i64))), (2, .ptr [(.v (.agg 3))]), (4, .ptr [(.v (.agg 3))]), (5, .f (.own 2)), (6, .f (.v (.int .i64)))] [] (y0, y1, y2, y3, y4, ())) (roundK cd [(1, .f (.v (.int .i64))), (2, .ptr [(.v (.agg 3))]), (4, .ptr [(.v (.agg 3))]), (5, .f (.own 2)), (6, .f (.v (.int .i64)))] [] [(.exit 0, [(2, .ptr [(.v (.agg 3))]), (4, .ptr [(.v (.agg 3))]), (5, .f (.own 2))])]) = passkeyref29_ExpireChallenges_L0b y0 y1 y2 y3 y4 := by kernel_rfl

theorem passkeyref29_ExpireChallenges_eq (x : tySs T S_passkeyref29_ExpireChallenges.ps) : run E_passkeyref29_ExpireChallenges A_passkeyref29_ExpireChallenges (Try.f19.body.getD .skip) (enterT E_passkeyref29_ExpireChallenges.C S_passkeyref29_ExpireChallenges.ps x) (retK E_passkeyref29_ExpireChallenges Try.f19.results.toList S_passkeyref29_ExpireChallenges.ps S_passkeyref29_ExpireChallenges.rs) = S_passkeyref29_ExpireChallenges.fn x := by kernel_rfl

theorem passkeyref29_ExpireChallenges_env : EnvOk Try.prog E_passkeyref29_ExpireChallenges := envOk (E := E_passkeyref29_ExpireChallenges) cd_ok tys fl_ok fun f ds S h => by
    dsimp only [E_passkeyref29_ExpireChallenges] at h
    split at h
    · cases h; exact passkeyref29_within_ok
    · cases h

theorem passkeyref29_ExpireChallenges_L0_ok : LoopOk Try.prog E_passkeyref29_ExpireChallenges Try.f19.ntmps (kqOf S_passkeyref29_ExpireChallenges.ps 0) (loopAt 0 (Try.f19.body.getD .skip)) ⟨[(1, .f (.v (.int .i64))), (2, .ptr [(.v (.agg 3))]), (4, .ptr [(.v (.agg 3))]), (5, .f (.own 2)), (6, .f (.v (.int .i64)))], [(.exit 0, [(2, .ptr [(.v (.agg 3))]), (4, .ptr [(.v (.agg 3))]), (5, .f (.own 2))])], passkeyref29_ExpireChallenges_L0, []⟩ :=
  loop_ok (A := A_passkeyref29_ExpireChallenges) (done := []) (c0 := (Try.f19.body.getD .skip)) hmix passkeyref29_ExpireChallenges_env done_nil rounds (by kernel_rfl) (by kernel_rfl) (fun x => passkeyref29_ExpireChallenges_L0_eq x.1 x.2.1 x.2.2.1 x.2.2.2.1 x.2.2.2.2.1) (fun _ => rfl)

theorem passkeyref29_ExpireChallenges_ok : SoundT Try.prog cd gdn 19 S_passkeyref29_ExpireChallenges :=
  sound_fn (E := E_passkeyref29_ExpireChallenges) (A := A_passkeyref29_ExpireChallenges) (done := [0]) (c := (Try.f19.body.getD .skip)) (S := S_passkeyref29_ExpireChallenges) (fn := Try.f19) hmix passkeyref29_ExpireChallenges_env Try.func19 rfl (by kernel_rfl) (by kernel_rfl) (done_cons rfl passkeyref29_ExpireChallenges_L0_ok done_nil) (by kernel_rfl) (by kernel_rfl) passkeyref29_ExpireChallenges_eq

def passkeyref1_Words_L2b (y0 : (List (BitVec 64))) (y1 : (List (UInt8))) (y2 : Int) (y3 : Int) : Option (((List (BitVec 64)) × (List (UInt8)) × Int × Int × Unit) ⊕ ((List (BitVec 64)) × (List (UInt8)) × Int × Unit)) :=
 (bif (decide ((0 : Int) ≤ y3)) then ((getI y0 y2).bind fun x1 => (let v2 : BitVec 64 := (x1 >>> (BitVec.ofInt 64 (IntKind.wrap .i64 ((8 : Int) * y3))).toNat)
 (bif small ((y1).length + (([(UInt8.ofBitVec (BitVec.setWidth 8 v2))] : List (UInt8)) : List (UInt8)).length) 1 then (let v3 : List (UInt8) := (y1 ++ ([(UInt8.ofBitVec (BitVec.setWidth 8 v2))] : List (UInt8)))
 (some (Sum.inl (y0, v3, y2, (IntKind.wrap .i64 (y3 - (1 : Int))), ()))))
 else none)))
 else (some (Sum.inr (y0, y1, y2, ()))))

def passkeyref1_Words_L2 (y : ((List (BitVec 64)) × (List (UInt8)) × Int × Int × Unit)) : Option ((List (BitVec 64)) × (List (UInt8)) × Int × Unit) := iter (fun (y : ((List (BitVec 64)) × (List (UInt8)) × Int × Int × Unit)) => passkeyref1_Words_L2b y.1 y.2.1 y.2.2.1 y.2.2.2.1) rounds y

def passkeyref1_Words_L0b (y0 : (List (BitVec 64))) (y1 : (List (UInt8))) (y2 : Int) : Option (((List (BitVec 64)) × (List (UInt8)) × Int × Unit) ⊕ ((List (UInt8)) × Unit)) :=
 (bif (decide (y2 < ((y0).length : Int))) then ((passkeyref1_Words_L2 (y0, y1, y2, (7 : Int), ())).bind (fun (z1 : ((List (BitVec 64)) × (List (UInt8)) × Int × Unit)) => (some (Sum.inl (z1.1, z1.2.1, (IntKind.wrap .i64 (z1.2.2.1 + (1 : Int))), ())))))
 else (some (Sum.inr (y1, ()))))

def passkeyref1_Words_L0 (y : ((List (BitVec 64)) × (List (UInt8)) × Int × Unit)) : Option ((List (UInt8)) × Unit) := iter (fun (y : ((List (BitVec 64)) × (List (UInt8)) × Int × Unit)) => passkeyref1_Words_L0b y.1 y.2.1 y.2.2.1) rounds y

def passkeyref1_Words (a0 : (List (BitVec 64))) : Option ((Unit) × ((List (UInt8)) × Unit)) :=
 ((passkeyref1_Words_L0 (a0, [], (0 : Int), ())).bind (fun (z2 : ((List (UInt8)) × Unit)) => (some ((), (z2.1, ())))))

def S_passkeyref1_Words : FSpec T := ⟨[.f (.v (.rs 4))], [(.own 0)], fun x => passkeyref1_Words x.1⟩

def E_passkeyref1_Words : Env T := ⟨tab.find, cd, globs, flc, fun f ds => match f with
    | _ => none, fun f => match f with
    | _ => false⟩

def A_passkeyref1_Words : Loc2 T := ⟨fun id => match id with
    | 2 => some ⟨[(0, .f (.v (.rs 4))), (3, .f (.own 0)), (4, .f (.v (.int .i64))), (5, .f (.v (.int .i64)))], [(.exit 2, [(0, .f (.v (.rs 4))), (3, .f (.own 0)), (4, .f (.v (.int .i64)))])], passkeyref1_Words_L2, []⟩
    | 0 => some ⟨[(0, .f (.v (.rs 4))), (3, .f (.own 0)), (4, .f (.v (.int .i64)))], [(.exit 0, [(3, .f (.own 0))])], passkeyref1_Words_L0, []⟩
    | _ => none, fun r => match r with
    | _ => none, fun r => match r with
    | _ => false⟩

theorem passkeyref1_Words_L2_eq (y0 : (List (BitVec 64))) (y1 : (List (UInt8))) (y2 : Int) (y3 : Int) : run E_passkeyref1_Words A_passkeyref1_Words (loopAt 2 (Try.f29.body.getD .skip)) (layC cd [(0, .f (.v (.rs 4))), (3, .f (.own 0)), (4, .f (.v (.int .i64))), (5, .f (.v (.int .i64)))] [] (y0, y1, y2, y3, ())) (roundK cd [(0, .f (.v (.rs 4))), (3, .f (.own 0)), (4, .f (.v (.int .i64))), (5, .f (.v (.int .i64)))] [] [(.exit 2, [(0, .f (.v (.rs 4))), (3, .f (.own 0)), (4, .f (.v (.int .i64)))])]) = passkeyref1_Words_L2b y0 y1 y2 y3 := by kernel_rfl

theorem passkeyref1_Words_L0_eq (y0 : (List (BitVec 64))) (y1 : (List (UInt8))) (y2 : Int) : run E_passkeyref1_Words A_passkeyref1_Words (loopAt 0 (Try.f29.body.getD .skip)) (layC cd [(0, .f (.v (.rs 4))), (3, .f (.own 0)), (4, .f (.v (.int .i64)))] [] (y0, y1, y2, ())) (roundK cd [(0, .f (.v (.rs 4))), (3, .f (.own 0)), (4, .f (.v (.int .i64)))] [] [(.exit 0, [(3, .f (.own 0))])]) = passkeyref1_Words_L0b y0 y1 y2 := by kernel_rfl

theorem passkeyref1_Words_eq (x : tySs T S_passkeyref1_Words.ps) : run E_passkeyref1_Words A_passkeyref1_Words (Try.f29.body.getD .skip) (enterT E_passkeyref1_Words.C S_passkeyref1_Words.ps x) (retK E_passkeyref1_Words Try.f29.results.toList S_passkeyref1_Words.ps S_passkeyref1_Words.rs) = S_passkeyref1_Words.fn x := by kernel_rfl

theorem passkeyref1_Words_env : EnvOk Try.prog E_passkeyref1_Words := envOk (E := E_passkeyref1_Words) cd_ok tys fl_ok fun f ds S h => by cases h

theorem passkeyref1_Words_L2_ok : LoopOk Try.prog E_passkeyref1_Words Try.f29.ntmps (kqOf S_passkeyref1_Words.ps 0) (loopAt 2 (Try.f29.body.getD .skip)) ⟨[(0, .f (.v (.rs 4))), (3, .f (.own 0)), (4, .f (.v (.int .i64))), (5, .f (.v (.int .i64)))], [(.exit 2, [(0, .f (.v (.rs 4))), (3, .f (.own 0)), (4, .f (.v (.int .i64)))])], passkeyref1_Words_L2, []⟩ :=
  loop_ok (A := A_passkeyref1_Words) (done := []) (c0 := (Try.f29.body.getD .skip)) hmix passkeyref1_Words_env done_nil rounds (by kernel_rfl) (by kernel_rfl) (fun x => passkeyref1_Words_L2_eq x.1 x.2.1 x.2.2.1 x.2.2.2.1) (fun _ => rfl)

theorem passkeyref1_Words_L0_ok : LoopOk Try.prog E_passkeyref1_Words Try.f29.ntmps (kqOf S_passkeyref1_Words.ps 0) (loopAt 0 (Try.f29.body.getD .skip)) ⟨[(0, .f (.v (.rs 4))), (3, .f (.own 0)), (4, .f (.v (.int .i64)))], [(.exit 0, [(3, .f (.own 0))])], passkeyref1_Words_L0, []⟩ :=
  loop_ok (A := A_passkeyref1_Words) (done := [2]) (c0 := (Try.f29.body.getD .skip)) hmix passkeyref1_Words_env (done_cons rfl passkeyref1_Words_L2_ok done_nil) rounds (by kernel_rfl) (by kernel_rfl) (fun x => passkeyref1_Words_L0_eq x.1 x.2.1 x.2.2.1) (fun _ => rfl)

theorem passkeyref1_Words_ok : SoundT Try.prog cd gdn 29 S_passkeyref1_Words :=
  sound_fn (E := E_passkeyref1_Words) (A := A_passkeyref1_Words) (done := [2, 0]) (c := (Try.f29.body.getD .skip)) (S := S_passkeyref1_Words) (fn := Try.f29) hmix passkeyref1_Words_env Try.func29 rfl (by kernel_rfl) (by kernel_rfl) (done_cons rfl passkeyref1_Words_L2_ok (done_cons rfl passkeyref1_Words_L0_ok done_nil)) (by kernel_rfl) (by kernel_rfl) passkeyref1_Words_eq

def passkeyref1_rotl (a0 : (BitVec 64)) (a1 : (BitVec 64)) : Option ((Unit) × ((BitVec 64) × Unit)) :=
 (some ((), (((a0 <<< a1.toNat) ||| (a0 >>> (64#64 - a1).toNat)), ())))

def S_passkeyref1_rotl : FSpec T := ⟨[.f (.v .u64), .f (.v .u64)], [(.v .u64)], fun x => passkeyref1_rotl x.1 x.2.1⟩

def E_passkeyref1_rotl : Env T := ⟨tab.find, cd, globs, flc, fun f ds => match f with
    | _ => none, fun f => match f with
    | _ => false⟩

def A_passkeyref1_rotl : Loc2 T := ⟨fun id => match id with
    | _ => none, fun r => match r with
    | _ => none, fun r => match r with
    | _ => false⟩

theorem passkeyref1_rotl_eq (x : tySs T S_passkeyref1_rotl.ps) : run E_passkeyref1_rotl A_passkeyref1_rotl (Try.f38.body.getD .skip) (enterT E_passkeyref1_rotl.C S_passkeyref1_rotl.ps x) (retK E_passkeyref1_rotl Try.f38.results.toList S_passkeyref1_rotl.ps S_passkeyref1_rotl.rs) = S_passkeyref1_rotl.fn x := by kernel_rfl

theorem passkeyref1_rotl_env : EnvOk Try.prog E_passkeyref1_rotl := envOk (E := E_passkeyref1_rotl) cd_ok tys fl_ok fun f ds S h => by cases h

theorem passkeyref1_rotl_ok : SoundT Try.prog cd gdn 38 S_passkeyref1_rotl :=
  sound_fn (E := E_passkeyref1_rotl) (A := A_passkeyref1_rotl) (done := []) (c := (Try.f38.body.getD .skip)) (S := S_passkeyref1_rotl) (fn := Try.f38) hmix passkeyref1_rotl_env Try.func38 rfl (by kernel_rfl) (by kernel_rfl) done_nil (by kernel_rfl) (by kernel_rfl) passkeyref1_rotl_eq

def passkeyref1_round (a0 : Arr4_BitVec64) : Option ((Unit) × (Arr4_BitVec64 × Unit)) :=
 ((passkeyref1_rotl a0.a1 (13#64)).bind fun r1 => ((passkeyref1_rotl (a0.a0 + a0.a1) (32#64)).bind fun r2 => ((passkeyref1_rotl a0.a3 (16#64)).bind fun r3 => ((passkeyref1_rotl (r3.2.1 ^^^ (a0.a2 + a0.a3)) (21#64)).bind fun r4 => ((passkeyref1_rotl (r1.2.1 ^^^ (a0.a0 + a0.a1)) (17#64)).bind fun r5 => (let v6 : BitVec 64 := (r5.2.1 ^^^ ((a0.a2 + a0.a3) + (r1.2.1 ^^^ (a0.a0 + a0.a1))))
 ((passkeyref1_rotl ((a0.a2 + a0.a3) + (r1.2.1 ^^^ (a0.a0 + a0.a1))) (32#64)).bind fun r7 => (some ((), ((⟨(r2.2.1 + (r3.2.1 ^^^ (a0.a2 + a0.a3))), v6, r7.2.1, (r4.2.1 ^^^ (r2.2.1 + (r3.2.1 ^^^ (a0.a2 + a0.a3))))⟩ : Arr4_BitVec64), ()))))))))))

def S_passkeyref1_round : FSpec T := ⟨[.f (.v (.agg 9))], [(.v (.agg 9))], fun x => passkeyref1_round x.1⟩

def E_passkeyref1_round : Env T := ⟨tab.find, cd, globs, flc, fun f ds => match f with
    | 38 => some S_passkeyref1_rotl
    | _ => none, fun f => match f with
    | 38 => true
    | _ => false⟩

def A_passkeyref1_round : Loc2 T := ⟨fun id => match id with
    | _ => none, fun r => match r with
    | _ => none, fun r => match r with
    | _ => false⟩

theorem passkeyref1_round_eq (x : tySs T S_passkeyref1_round.ps) : run E_passkeyref1_round A_passkeyref1_round (Try.f36.body.getD .skip) (enterT E_passkeyref1_round.C S_passkeyref1_round.ps x) (retK E_passkeyref1_round Try.f36.results.toList S_passkeyref1_round.ps S_passkeyref1_round.rs) = S_passkeyref1_round.fn x := by kernel_rfl

theorem passkeyref1_round_env : EnvOk Try.prog E_passkeyref1_round := envOk (E := E_passkeyref1_round) cd_ok tys fl_ok fun f ds S h => by
    dsimp only [E_passkeyref1_round] at h
    split at h
    · cases h; exact passkeyref1_rotl_ok
    · cases h

theorem passkeyref1_round_ok : SoundT Try.prog cd gdn 36 S_passkeyref1_round :=
  sound_fn (E := E_passkeyref1_round) (A := A_passkeyref1_round) (done := []) (c := (Try.f36.body.getD .skip)) (S := S_passkeyref1_round) (fn := Try.f36) hmix passkeyref1_round_env Try.func36 rfl (by kernel_rfl) (by kernel_rfl) done_nil (by kernel_rfl) (by kernel_rfl) passkeyref1_round_eq

def passkeyref1_Sum_L2b (y0 : (List (UInt8))) (y1 : (Arr4_BitVec64 × Unit)) (y2 : Int) (y3 : (BitVec 64)) (y4 : Int) : Option (((List (UInt8)) × (Arr4_BitVec64 × Unit) × Int × (BitVec 64) × Int × Unit) ⊕ ((List (UInt8)) × (Arr4_BitVec64 × Unit) × Int × (BitVec 64) × Unit)) :=
 (bif (decide ((0 : Int) ≤ y4)) then (bif (decide ((IntKind.wrap .i64 (y2 + y4)) < ((y0).length : Int))) then ((getI y0 (IntKind.wrap .i64 (y2 + y4))).bind fun x1 => (some (Sum.inl (y0, (y1.1, ()), y2, ((y3 <<< 8) ||| (BitVec.setWidth 64 x1.toBitVec)), (IntKind.wrap .i64 (y4 - (1 : Int))), ()))))
 else (bif (decide (y4 = (7 : Int))) then (let v2 : BitVec 64 := (BitVec.setWidth 64 (UInt8.ofBitVec (BitVec.ofInt 8 ((y0).length : Int))).toBitVec)
 (some (Sum.inl (y0, (y1.1, ()), y2, ((y3 <<< 8) ||| v2), (IntKind.wrap .i64 (y4 - (1 : Int))), ()))))
 else (some (Sum.inl (y0, (y1.1, ()), y2, ((y3 <<< 8) ||| (BitVec.setWidth 64 (0 : UInt8).toBitVec)), (IntKind.wrap .i64 (y4 - (1 : Int))), ())))))
 else (some (Sum.inr (y0, (y1.1, ()), y2, y3, ()))))

def passkeyref1_Sum_L2 (y : ((List (UInt8)) × (Arr4_BitVec64 × Unit) × Int × (BitVec 64) × Int × Unit)) : Option ((List (UInt8)) × (Arr4_BitVec64 × Unit) × Int × (BitVec 64) × Unit) := iter (fun (y : ((List (UInt8)) × (Arr4_BitVec64 × Unit) × Int × (BitVec 64) × Int × Unit)) => passkeyref1_Sum_L2b y.1 y.2.1 y.2.2.1 y.2.2.2.1 y.2.2.2.2.1) rounds y

def passkeyref1_Sum_L0b (y0 : (List (UInt8))) (y1 : (Arr4_BitVec64 × Unit)) (y2 : Int) : Option (((List (UInt8)) × (Arr4_BitVec64 × Unit) × Int × Unit) ⊕ ((Arr4_BitVec64 × Unit) × Unit)) :=
 (bif (decide (y2 ≤ ((y0).length : Int))) then ((passkeyref1_Sum_L2 (y0, (y1.1, ()), y2, 0#64, (7 : Int), ())).bind (fun (z1 : ((List (UInt8)) × (Arr4_BitVec64 × Unit) × Int × (BitVec 64) × Unit)) => ((passkeyref1_round (⟨z1.2.1.1.a0, z1.2.1.1.a1, z1.2.1.1.a2, (z1.2.1.1.a3 ^^^ z1.2.2.2.1)⟩ : Arr4_BitVec64)).bind fun r2 => ((passkeyref1_round r2.2.1).bind fun r3 => (some (Sum.inl (z1.1, ((⟨(r3.2.1.a0 ^^^ z1.2.2.2.1), r3.2.1.a1, r3.2.1.a2, r3.2.1.a3⟩ : Arr4_BitVec64), ()), (IntKind.wrap .i64 (z1.2.2.1 + (8 : Int))), ())))))))
 else (some (Sum.inr ((y1.1, ()), ()))))

def passkeyref1_Sum_L0 (y : ((List (UInt8)) × (Arr4_BitVec64 × Unit) × Int × Unit)) : Option ((Arr4_BitVec64 × Unit) × Unit) := iter (fun (y : ((List (UInt8)) × (Arr4_BitVec64 × Unit) × Int × Unit)) => passkeyref1_Sum_L0b y.1 y.2.1 y.2.2.1) rounds y

def passkeyref1_Sum (a0 : (BitVec 64)) (a1 : (BitVec 64)) (a2 : (List (UInt8))) : Option ((Unit) × ((BitVec 64) × Unit)) :=
 ((passkeyref1_Sum_L0 (a2, ((⟨(a0 ^^^ 8317987319222330741#64), (a1 ^^^ 7237128888997146477#64), (a0 ^^^ 7816392313619706465#64), (a1 ^^^ 8387220255154660723#64)⟩ : Arr4_BitVec64), ()), (0 : Int), ())).bind (fun (z4 : ((Arr4_BitVec64 × Unit) × Unit)) => ((passkeyref1_round (⟨z4.1.1.a0, z4.1.1.a1, (z4.1.1.a2 ^^^ 255#64), z4.1.1.a3⟩ : Arr4_BitVec64)).bind fun r5 => ((passkeyref1_round r5.2.1).bind fun r6 => ((passkeyref1_round r6.2.1).bind fun r7 => ((passkeyref1_round r7.2.1).bind fun r8 => (some ((), ((((r8.2.1.a0 ^^^ r8.2.1.a1) ^^^ r8.2.1.a2) ^^^ r8.2.1.a3), ())))))))))

def S_passkeyref1_Sum : FSpec T := ⟨[.f (.v .u64), .f (.v .u64), .f (.v (.rs 0))], [(.v .u64)], fun x => passkeyref1_Sum x.1 x.2.1 x.2.2.1⟩

def E_passkeyref1_Sum : Env T := ⟨tab.find, cd, globs, flc, fun f ds => match f with
    | 36 => some S_passkeyref1_round
    | _ => none, fun f => match f with
    | 36 => true
    | _ => false⟩

def A_passkeyref1_Sum : Loc2 T := ⟨fun id => match id with
    | 2 => some ⟨[(2, .f (.v (.rs 0))), (7, .ptr [(.v (.agg 9))]), (8, .f (.v (.int .i64))), (9, .f (.v .u64)), (10, .f (.v (.int .i64)))], [(.exit 2, [(2, .f (.v (.rs 0))), (7, .ptr [(.v (.agg 9))]), (8, .f (.v (.int .i64))), (9, .f (.v .u64))])], passkeyref1_Sum_L2, []⟩
    | 0 => some ⟨[(2, .f (.v (.rs 0))), (7, .ptr [(.v (.agg 9))]), (8, .f (.v (.int .i64)))], [(.exit 0, [(7, .ptr [(.v (.agg 9))])])], passkeyref1_Sum_L0, []⟩
    | _ => none, fun r => match r with
    | _ => none, fun r => match r with
    | _ => false⟩

theorem passkeyref1_Sum_L2_eq (y0 : (List (UInt8))) (y1 : (Arr4_BitVec64 × Unit)) (y2 : Int) (y3 : (BitVec 64)) (y4 : Int) : run E_passkeyref1_Sum A_passkeyref1_Sum (loopAt 2 (Try.f32.body.getD .skip)) (layC cd [(2, .f (.v (.rs 0))), (7, .ptr [(.v (.agg 9))]), (8, .f (.v (.int .i64))), (9, .f (.v .u64)), (10, .f (.v (.int .i64)))] [] (y0, y1, y2, y3, y4, ())) (roundK cd [(2, .f (.v (.rs 0))), (7, .ptr [(.v (.agg 9))]), (8, .f (.v (.int .i64))), (9, .f (.v .u64)), (10, .f (.v (.int .i64)))] [] [(.exit 2, [(2, .f (.v (.rs 0))), (7, .ptr [(.v (.agg 9))]), (8, .f (.v (.int .i64))), (9, .f (.v .u64))])]) = passkeyref1_Sum_L2b y0 y1 y2 y3 y4 := by kernel_rfl

theorem passkeyref1_Sum_L0_eq (y0 : (List (UInt8))) (y1 : (Arr4_BitVec64 × Unit)) (y2 : Int) : run E_passkeyref1_Sum A_passkeyref1_Sum (loopAt 0 (Try.f32.body.getD .skip)) (layC cd [(2, .f (.v (.rs 0))), (7, .ptr [(.v (.agg 9))]), (8, .f (.v (.int .i64)))] [] (y0, y1, y2, ())) (roundK cd [(2, .f (.v (.rs 0))), (7, .ptr [(.v (.agg 9))]), (8, .f (.v (.int .i64)))] [] [(.exit 0, [(7, .ptr [(.v (.agg 9))])])]) = passkeyref1_Sum_L0b y0 y1 y2 := by kernel_rfl

theorem passkeyref1_Sum_eq (x : tySs T S_passkeyref1_Sum.ps) : run E_passkeyref1_Sum A_passkeyref1_Sum (Try.f32.body.getD .skip) (enterT E_passkeyref1_Sum.C S_passkeyref1_Sum.ps x) (retK E_passkeyref1_Sum Try.f32.results.toList S_passkeyref1_Sum.ps S_passkeyref1_Sum.rs) = S_passkeyref1_Sum.fn x := by kernel_rfl

theorem passkeyref1_Sum_env : EnvOk Try.prog E_passkeyref1_Sum := envOk (E := E_passkeyref1_Sum) cd_ok tys fl_ok fun f ds S h => by
    dsimp only [E_passkeyref1_Sum] at h
    split at h
    · cases h; exact passkeyref1_round_ok
    · cases h

theorem passkeyref1_Sum_L2_ok : LoopOk Try.prog E_passkeyref1_Sum Try.f32.ntmps (kqOf S_passkeyref1_Sum.ps 0) (loopAt 2 (Try.f32.body.getD .skip)) ⟨[(2, .f (.v (.rs 0))), (7, .ptr [(.v (.agg 9))]), (8, .f (.v (.int .i64))), (9, .f (.v .u64)), (10, .f (.v (.int .i64)))], [(.exit 2, [(2, .f (.v (.rs 0))), (7, .ptr [(.v (.agg 9))]), (8, .f (.v (.int .i64))), (9, .f (.v .u64))])], passkeyref1_Sum_L2, []⟩ :=
  loop_ok (A := A_passkeyref1_Sum) (done := []) (c0 := (Try.f32.body.getD .skip)) hmix passkeyref1_Sum_env done_nil rounds (by kernel_rfl) (by kernel_rfl) (fun x => passkeyref1_Sum_L2_eq x.1 x.2.1 x.2.2.1 x.2.2.2.1 x.2.2.2.2.1) (fun _ => rfl)

theorem passkeyref1_Sum_L0_ok : LoopOk Try.prog E_passkeyref1_Sum Try.f32.ntmps (kqOf S_passkeyref1_Sum.ps 0) (loopAt 0 (Try.f32.body.getD .skip)) ⟨[(2, .f (.v (.rs 0))), (7, .ptr [(.v (.agg 9))]), (8, .f (.v (.int .i64)))], [(.exit 0, [(7, .ptr [(.v (.agg 9))])])], passkeyref1_Sum_L0, []⟩ :=
  loop_ok (A := A_passkeyref1_Sum) (done := [2]) (c0 := (Try.f32.body.getD .skip)) hmix passkeyref1_Sum_env (done_cons rfl passkeyref1_Sum_L2_ok done_nil) rounds (by kernel_rfl) (by kernel_rfl) (fun x => passkeyref1_Sum_L0_eq x.1 x.2.1 x.2.2.1) (fun _ => rfl)

theorem passkeyref1_Sum_ok : SoundT Try.prog cd gdn 32 S_passkeyref1_Sum :=
  sound_fn (E := E_passkeyref1_Sum) (A := A_passkeyref1_Sum) (done := [2, 0]) (c := (Try.f32.body.getD .skip)) (S := S_passkeyref1_Sum) (fn := Try.f32) hmix passkeyref1_Sum_env Try.func32 rfl (by kernel_rfl) (by kernel_rfl) (done_cons rfl passkeyref1_Sum_L2_ok (done_cons rfl passkeyref1_Sum_L0_ok done_nil)) (by kernel_rfl) (by kernel_rfl) passkeyref1_Sum_eq

def passkeyref1_Mac (a0 : (BitVec 64)) (a1 : Int) (a2 : (List (UInt8))) : Option ((Unit) × ((BitVec 64) × Unit)) :=
 ((passkeyref1_Sum a0 (1#64 + (BitVec.ofInt 64 a1)) a2).bind fun r1 => (some ((), (r1.2.1, ()))))

def S_passkeyref1_Mac : FSpec T := ⟨[.f (.v .u64), .f (.v (.int .i64)), .f (.v (.rs 0))], [(.v .u64)], fun x => passkeyref1_Mac x.1 x.2.1 x.2.2.1⟩

def E_passkeyref1_Mac : Env T := ⟨tab.find, cd, globs, flc, fun f ds => match f with
    | 32 => some S_passkeyref1_Sum
    | _ => none, fun f => match f with
    | 32 => true
    | _ => false⟩

def A_passkeyref1_Mac : Loc2 T := ⟨fun id => match id with
    | _ => none, fun r => match r with
    | _ => none, fun r => match r with
    | _ => false⟩

theorem passkeyref1_Mac_eq (x : tySs T S_passkeyref1_Mac.ps) : run E_passkeyref1_Mac A_passkeyref1_Mac (Try.f30.body.getD .skip) (enterT E_passkeyref1_Mac.C S_passkeyref1_Mac.ps x) (retK E_passkeyref1_Mac Try.f30.results.toList S_passkeyref1_Mac.ps S_passkeyref1_Mac.rs) = S_passkeyref1_Mac.fn x := by kernel_rfl

theorem passkeyref1_Mac_env : EnvOk Try.prog E_passkeyref1_Mac := envOk (E := E_passkeyref1_Mac) cd_ok tys fl_ok fun f ds S h => by
    dsimp only [E_passkeyref1_Mac] at h
    split at h
    · cases h; exact passkeyref1_Sum_ok
    · cases h

theorem passkeyref1_Mac_ok : SoundT Try.prog cd gdn 30 S_passkeyref1_Mac :=
  sound_fn (E := E_passkeyref1_Mac) (A := A_passkeyref1_Mac) (done := []) (c := (Try.f30.body.getD .skip)) (S := S_passkeyref1_Mac) (fn := Try.f30) hmix passkeyref1_Mac_env Try.func30 rfl (by kernel_rfl) (by kernel_rfl) done_nil (by kernel_rfl) (by kernel_rfl) passkeyref1_Mac_eq

def passkeyref29_ChallengeBytes (a0 : ApiChallenges) (a1 : ApiChallenge) : Option ((Unit) × ((List (UInt8)) × Unit)) :=
 ((bif a1.bound then (some ((a0, ()), (a1, ()), 1#64, ()))
 else (some ((a0, ()), (a1, ()), 0#64, ()))).bind (fun (j1 : ((ApiChallenges × Unit) × (ApiChallenge × Unit) × (BitVec 64) × Unit)) => (let v2 : List (BitVec 64) := ([(BitVec.ofInt 64 j1.2.1.1.number), (BitVec.ofInt 64 j1.2.1.1.kind), j1.2.2.1, (BitVec.ofInt 64 j1.2.1.1.since)] : List (BitVec 64))
 ((passkeyref1_Words v2).bind fun r3 => (bif small ((r3.2.1).length + (j1.2.1.1.account : List (UInt8)).length) 1 then ((passkeyref1_Mac j1.1.1.secret (17 : Int) (r3.2.1 ++ j1.2.1.1.account)).bind fun r4 => (let v5 : List (BitVec 64) := ([(BitVec.ofInt 64 j1.2.1.1.number), r4.2.1] : List (BitVec 64))
 ((passkeyref1_Words v5).bind fun r6 => (some ((), (r6.2.1, ()))))))
 else none)))))

def S_passkeyref29_ChallengeBytes : FSpec T := ⟨[.f (.v (.agg 3)), .f (.v (.agg 2))], [(.own 0)], fun x => passkeyref29_ChallengeBytes x.1 x.2.1⟩

def E_passkeyref29_ChallengeBytes : Env T := ⟨tab.find, cd, globs, flc, fun f ds => match f with
    | 29 => some S_passkeyref1_Words
    | 30 => some S_passkeyref1_Mac
    | _ => none, fun f => match f with
    | 30 => true
    | _ => false⟩

def A_passkeyref29_ChallengeBytes : Loc2 T := ⟨fun id => match id with
    | _ => none, fun r => match r with
    | 4 => some ([(2, .ptr [(.v (.agg 3))]), (3, .ptr [(.v (.agg 2))]), (5, .f (.v .u64))], true)
    | _ => none, fun r => match r with
    | 4 => true
    | _ => false⟩

theorem passkeyref29_ChallengeBytes_eq (x : tySs T S_passkeyref29_ChallengeBytes.ps) : run E_passkeyref29_ChallengeBytes A_passkeyref29_ChallengeBytes (Try.f22.body.getD .skip) (enterT E_passkeyref29_ChallengeBytes.C S_passkeyref29_ChallengeBytes.ps x) (retK E_passkeyref29_ChallengeBytes Try.f22.results.toList S_passkeyref29_ChallengeBytes.ps S_passkeyref29_ChallengeBytes.rs) = S_passkeyref29_ChallengeBytes.fn x := by kernel_rfl

theorem passkeyref29_ChallengeBytes_env : EnvOk Try.prog E_passkeyref29_ChallengeBytes := envOk (E := E_passkeyref29_ChallengeBytes) cd_ok tys fl_ok fun f ds S h => by
    dsimp only [E_passkeyref29_ChallengeBytes] at h
    split at h
    · cases h; exact passkeyref1_Words_ok
    · cases h; exact passkeyref1_Mac_ok
    · cases h

theorem passkeyref29_ChallengeBytes_ok : SoundT Try.prog cd gdn 22 S_passkeyref29_ChallengeBytes :=
  sound_fn (E := E_passkeyref29_ChallengeBytes) (A := A_passkeyref29_ChallengeBytes) (done := []) (c := (Try.f22.body.getD .skip)) (S := S_passkeyref29_ChallengeBytes) (fn := Try.f22) hmix passkeyref29_ChallengeBytes_env Try.func22 rfl (by kernel_rfl) (by kernel_rfl) done_nil (by kernel_rfl) (by kernel_rfl) passkeyref29_ChallengeBytes_eq

def passkeyref29_Issue (a0 : ApiChallenges) (a1 : Int) (a2 : (List UInt8)) (a3 : Bool) (a4 : Int) : Option ((Unit) × (ApiChallenges × (List (UInt8)) × Int × Unit)) :=
 ((passkeyref29_within a4 (0 : Int) (1099511627776 : Int)).bind fun r1 => (bif (!r1.2.1) then (some ((), (a0, [], (9 : Int), ())))
 else (bif (!decide (a1 = (1 : Int))) then (bif (!decide (a1 = (2 : Int))) then (some ((), (a0, [], (3 : Int), ())))
 else (bif (decide ((32 : Int) < ((a2).length : Int))) then (some ((), (a0, [], (8 : Int), ())))
 else ((passkeyref29_ExpireChallenges a0 a4).bind fun r2 => (bif (decide ((32 : Int) ≤ ((r2.2.1.open_).length : Int))) then (some ((), (a0, [], (12 : Int), ())))
 else ((bif small ((r2.2.1.open_).length) 48 then (let v3 : List (ApiChallenge) := ([(⟨r2.2.1.count, a1, a2, a3, a4⟩ : ApiChallenge)] : List (ApiChallenge))
 (bif small ((r2.2.1.open_).length + (v3 : List (ApiChallenge)).length) 48 then (some (((⟨0#64, (0 : Int), []⟩ : ApiChallenges), ()), ((⟨r2.2.1.secret, (IntKind.wrap .i64 (r2.2.1.count + (1 : Int))), (r2.2.1.open_ ++ v3)⟩ : ApiChallenges), ()), ((⟨r2.2.1.count, a1, a2, a3, a4⟩ : ApiChallenge), ()), ()))
 else none))
 else none).bind (fun (j4 : ((ApiChallenges × Unit) × (ApiChallenges × Unit) × (ApiChallenge × Unit) × Unit)) => ((passkeyref29_ChallengeBytes j4.2.1.1 j4.2.2.1.1).bind fun r5 => (some ((), (j4.2.1.1, r5.2.1, (0 : Int), ()))))))))))
 else (bif (decide ((32 : Int) < ((a2).length : Int))) then (some ((), (a0, [], (8 : Int), ())))
 else ((passkeyref29_ExpireChallenges a0 a4).bind fun r6 => (bif (decide ((32 : Int) ≤ ((r6.2.1.open_).length : Int))) then (some ((), (a0, [], (12 : Int), ())))
 else ((bif small ((r6.2.1.open_).length) 48 then (let v7 : List (ApiChallenge) := ([(⟨r6.2.1.count, a1, a2, a3, a4⟩ : ApiChallenge)] : List (ApiChallenge))
 (bif small ((r6.2.1.open_).length + (v7 : List (ApiChallenge)).length) 48 then (some (((⟨0#64, (0 : Int), []⟩ : ApiChallenges), ()), ((⟨r6.2.1.secret, (IntKind.wrap .i64 (r6.2.1.count + (1 : Int))), (r6.2.1.open_ ++ v7)⟩ : ApiChallenges), ()), ((⟨r6.2.1.count, a1, a2, a3, a4⟩ : ApiChallenge), ()), ()))
 else none))
 else none).bind (fun (j8 : ((ApiChallenges × Unit) × (ApiChallenges × Unit) × (ApiChallenge × Unit) × Unit)) => ((passkeyref29_ChallengeBytes j8.2.1.1 j8.2.2.1.1).bind fun r9 => (some ((), (j8.2.1.1, r9.2.1, (0 : Int), ()))))))))))))

def S_passkeyref29_Issue : FSpec T := ⟨[.f (.v (.agg 3)), .f (.v (.int .i64)), .f (.v .str), .f (.v .bool), .f (.v (.int .i64))], [(.v (.agg 3)), (.own 0), (.v (.int .i64))], fun x => passkeyref29_Issue x.1 x.2.1 x.2.2.1 x.2.2.2.1 x.2.2.2.2.1⟩

def E_passkeyref29_Issue : Env T := ⟨tab.find, cd, globs, flc, fun f ds => match f with
    | 19 => some S_passkeyref29_ExpireChallenges
    | 22 => some S_passkeyref29_ChallengeBytes
    | 25 => some S_passkeyref29_within
    | _ => none, fun f => match f with
    | 25 => true
    | _ => false⟩

def A_passkeyref29_Issue : Loc2 T := ⟨fun id => match id with
    | _ => none, fun r => match r with
    | 13 => some ([(10, .ptr [(.v (.agg 3))]), (13, .ptr [(.v (.agg 3))]), (14, .ptr [(.v (.agg 2))])], true)
    | _ => none, fun r => match r with
    | 12 => true
    | 13 => true
    | _ => false⟩

theorem passkeyref29_Issue_eq (x : tySs T S_passkeyref29_Issue.ps) : run E_passkeyref29_Issue A_passkeyref29_Issue (Try.f15.body.getD .skip) (enterT E_passkeyref29_Issue.C S_passkeyref29_Issue.ps x) (retK E_passkeyref29_Issue Try.f15.results.toList S_passkeyref29_Issue.ps S_passkeyref29_Issue.rs) = S_passkeyref29_Issue.fn x := by kernel_rfl

theorem passkeyref29_Issue_env : EnvOk Try.prog E_passkeyref29_Issue := envOk (E := E_passkeyref29_Issue) cd_ok tys fl_ok fun f ds S h => by
    dsimp only [E_passkeyref29_Issue] at h
    split at h
    · cases h; exact passkeyref29_ExpireChallenges_ok
    · cases h; exact passkeyref29_ChallengeBytes_ok
    · cases h; exact passkeyref29_within_ok
    · cases h

theorem passkeyref29_Issue_ok : SoundT Try.prog cd gdn 15 S_passkeyref29_Issue :=
  sound_fn (E := E_passkeyref29_Issue) (A := A_passkeyref29_Issue) (done := []) (c := (Try.f15.body.getD .skip)) (S := S_passkeyref29_Issue) (fn := Try.f15) hmix passkeyref29_Issue_env Try.func15 rfl (by kernel_rfl) (by kernel_rfl) done_nil (by kernel_rfl) (by kernel_rfl) passkeyref29_Issue_eq

def passkeyref29_SameChallenges_L0b (y0 : (ApiChallenges × Unit)) (y1 : (ApiChallenges × Unit)) (y2 : Int) : Option (((ApiChallenges × Unit) × (ApiChallenges × Unit) × Int × Unit) ⊕ ((Bool × Unit) ⊕ (Unit))) :=
 (bif (decide (y2 < ((y0.1.open_).length : Int))) then ((getI y0.1.open_ y2).bind fun x1 => ((getI y1.1.open_ y2).bind fun x2 => (let v3 : Bool := (!(decide (x1.number = x2.number) && (decide (x1.kind = x2.kind) && (decide (x1.account = x2.account) && ((x1.bound == x2.bound) && (decide (x1.since = x2.since) && true))))))
 (bif v3 then (some (Sum.inr (Sum.inl (false, ()))))
 else (some (Sum.inl ((y0.1, ()), (y1.1, ()), (IntKind.wrap .i64 (y2 + (1 : Int))), ())))))))
 else (some (Sum.inr (Sum.inr ()))))

def passkeyref29_SameChallenges_L0 (y : ((ApiChallenges × Unit) × (ApiChallenges × Unit) × Int × Unit)) : Option ((Bool × Unit) ⊕ (Unit)) := iter (fun (y : ((ApiChallenges × Unit) × (ApiChallenges × Unit) × Int × Unit)) => passkeyref29_SameChallenges_L0b y.1 y.2.1 y.2.2.1) rounds y

def passkeyref29_SameChallenges (a0 : ApiChallenges) (a1 : ApiChallenges) : Option ((Unit) × (Bool × Unit)) :=
 (bif (!decide (a0.secret = a1.secret)) then (some ((), (false, ())))
 else (bif (!decide (a0.count = a1.count)) then (some ((), (false, ())))
 else (bif (!decide (((a0.open_).length : Int) = ((a1.open_).length : Int))) then (some ((), (false, ())))
 else ((passkeyref29_SameChallenges_L0 ((a0, ()), (a1, ()), (0 : Int), ())).bind (Sum.elim (fun (z4 : (Bool × Unit)) => (some ((), (z4.1, ())))) (fun (z5 : (Unit)) => (some ((), (true, ())))))))))

def S_passkeyref29_SameChallenges : FSpec T := ⟨[.f (.v (.agg 3)), .f (.v (.agg 3))], [(.v .bool)], fun x => passkeyref29_SameChallenges x.1 x.2.1⟩

def E_passkeyref29_SameChallenges : Env T := ⟨tab.find, cd, globs, flc, fun f ds => match f with
    | _ => none, fun f => match f with
    | _ => false⟩

def A_passkeyref29_SameChallenges : Loc2 T := ⟨fun id => match id with
    | 0 => some ⟨[(2, .ptr [(.v (.agg 3))]), (3, .ptr [(.v (.agg 3))]), (5, .f (.v (.int .i64)))], [(.ret, [(4, .f (.v .bool))]), (.exit 0, [])], passkeyref29_SameChallenges_L0, []⟩
    | _ => none, fun r => match r with
    | _ => none, fun r => match r with
    | _ => false⟩

theorem passkeyref29_SameChallenges_L0_eq (y0 : (ApiChallenges × Unit)) (y1 : (ApiChallenges × Unit)) (y2 : Int) : run E_passkeyref29_SameChallenges A_passkeyref29_SameChallenges (loopAt 0 (Try.f20.body.getD .skip)) (layC cd [(2, .ptr [(.v (.agg 3))]), (3, .ptr [(.v (.agg 3))]), (5, .f (.v (.int .i64)))] [] (y0, y1, y2, ())) (roundK cd [(2, .ptr [(.v (.agg 3))]), (3, .ptr [(.v (.agg 3))]), (5, .f (.v (.int .i64)))] [] [(.ret, [(4, .f (.v .bool))]), (.exit 0, [])]) = passkeyref29_SameChallenges_L0b y0 y1 y2 := by kernel_rfl

theorem passkeyref29_SameChallenges_eq (x : tySs T S_passkeyref29_SameChallenges.ps) : run E_passkeyref29_SameChallenges A_passkeyref29_SameChallenges (Try.f20.body.getD .skip) (enterT E_passkeyref29_SameChallenges.C S_passkeyref29_SameChallenges.ps x) (retK E_passkeyref29_SameChallenges Try.f20.results.toList S_passkeyref29_SameChallenges.ps S_passkeyref29_SameChallenges.rs) = S_passkeyref29_SameChallenges.fn x := by kernel_rfl

theorem passkeyref29_SameChallenges_env : EnvOk Try.prog E_passkeyref29_SameChallenges := envOk (E := E_passkeyref29_SameChallenges) cd_ok tys fl_ok fun f ds S h => by cases h

theorem passkeyref29_SameChallenges_L0_ok : LoopOk Try.prog E_passkeyref29_SameChallenges Try.f20.ntmps (kqOf S_passkeyref29_SameChallenges.ps 0) (loopAt 0 (Try.f20.body.getD .skip)) ⟨[(2, .ptr [(.v (.agg 3))]), (3, .ptr [(.v (.agg 3))]), (5, .f (.v (.int .i64)))], [(.ret, [(4, .f (.v .bool))]), (.exit 0, [])], passkeyref29_SameChallenges_L0, []⟩ :=
  loop_ok (A := A_passkeyref29_SameChallenges) (done := []) (c0 := (Try.f20.body.getD .skip)) hmix passkeyref29_SameChallenges_env done_nil rounds (by kernel_rfl) (by kernel_rfl) (fun x => passkeyref29_SameChallenges_L0_eq x.1 x.2.1 x.2.2.1) (fun _ => rfl)

theorem passkeyref29_SameChallenges_ok : SoundT Try.prog cd gdn 20 S_passkeyref29_SameChallenges :=
  sound_fn (E := E_passkeyref29_SameChallenges) (A := A_passkeyref29_SameChallenges) (done := [0]) (c := (Try.f20.body.getD .skip)) (S := S_passkeyref29_SameChallenges) (fn := Try.f20) hmix passkeyref29_SameChallenges_env Try.func20 rfl (by kernel_rfl) (by kernel_rfl) (done_cons rfl passkeyref29_SameChallenges_L0_ok done_nil) (by kernel_rfl) (by kernel_rfl) passkeyref29_SameChallenges_eq

def passkeyref29_UseChallenge_L0b (y0 : (List (UInt8))) (y1 : Int) (y2 : (ApiChallenges × Unit)) (y3 : (ApiChallenges × Unit)) (y4 : (ApiChallenge × Unit)) (y5 : (ApiChallenges × Unit)) (y6 : Int) : Option (((List (UInt8)) × Int × (ApiChallenges × Unit) × (ApiChallenges × Unit) × (ApiChallenge × Unit) × (ApiChallenges × Unit) × Int × Unit) ⊕ ((((BitVec 64) × Int × (List (ApiChallenge)) × Unit) × (ApiChallenge × Unit) × Int × Unit) ⊕ ((ApiChallenges × Unit) × (ApiChallenges × Unit) × (ApiChallenge × Unit) × Unit))) :=
 (bif (decide (y6 < ((y5.1.open_).length : Int))) then ((getI y5.1.open_ y6).bind fun x3 => (bif (decide (x3.kind = y1)) then ((passkeyref29_ChallengeBytes y5.1 x3).bind fun r4 => (bif (decide (r4.2.1 = y0)) then (bif (decide ((0 : Int) ≤ y6) && decide (y6 ≤ ((y5.1.open_).length : Int))) then (bif small (((List.take (y6).toNat y5.1.open_)).length) 48 then (bif (decide ((0 : Int) ≤ (IntKind.wrap .i64 (y6 + (1 : Int)))) && decide ((IntKind.wrap .i64 (y6 + (1 : Int))) ≤ ((y5.1.open_).length : Int))) then (let v5 : List (ApiChallenge) := (List.drop ((IntKind.wrap .i64 (y6 + (1 : Int)))).toNat y5.1.open_)
 (bif small (((List.take (y6).toNat y5.1.open_)).length + (v5 : List (ApiChallenge)).length) 48 then (let v6 : List (ApiChallenge) := ((List.take (y6).toNat y5.1.open_) ++ v5)
 (some (Sum.inr (Sum.inl ((y5.1.secret, y5.1.count, v6, ()), (x3, ()), (0 : Int), ())))))
 else none))
 else none)
 else none)
 else none)
 else (some (Sum.inl (y0, y1, (y2.1, ()), (y3.1, ()), (y4.1, ()), (y5.1, ()), (IntKind.wrap .i64 (y6 + (1 : Int))), ())))))
 else (some (Sum.inl (y0, y1, (y2.1, ()), (y3.1, ()), (y4.1, ()), (y5.1, ()), (IntKind.wrap .i64 (y6 + (1 : Int))), ())))))
 else (some (Sum.inr (Sum.inr ((y2.1, ()), (y3.1, ()), (y4.1, ()), ())))))

def passkeyref29_UseChallenge_L0 (y : ((List (UInt8)) × Int × (ApiChallenges × Unit) × (ApiChallenges × Unit) × (ApiChallenge × Unit) × (ApiChallenges × Unit) × Int × Unit)) : Option ((((BitVec 64) × Int × (List (ApiChallenge)) × Unit) × (ApiChallenge × Unit) × Int × Unit) ⊕ ((ApiChallenges × Unit) × (ApiChallenges × Unit) × (ApiChallenge × Unit) × Unit)) := iter (fun (y : ((List (UInt8)) × Int × (ApiChallenges × Unit) × (ApiChallenges × Unit) × (ApiChallenge × Unit) × (ApiChallenges × Unit) × Int × Unit)) => passkeyref29_UseChallenge_L0b y.1 y.2.1 y.2.2.1 y.2.2.2.1 y.2.2.2.2.1 y.2.2.2.2.2.1 y.2.2.2.2.2.2.1) rounds y

def passkeyref29_UseChallenge (a0 : ApiChallenges) (a1 : (List (UInt8))) (a2 : Int) (a3 : Int) : Option ((Unit) × (ApiChallenges × ApiChallenge × Int × Unit)) :=
 ((passkeyref29_within a3 (0 : Int) (1099511627776 : Int)).bind fun r1 => (bif (!r1.2.1) then (some ((), (a0, (⟨(0 : Int), (0 : Int), ([] : List UInt8), false, (0 : Int)⟩ : ApiChallenge), (9 : Int), ())))
 else ((passkeyref29_ExpireChallenges a0 a3).bind fun r2 => ((passkeyref29_UseChallenge_L0 (a1, a2, (a0, ()), ((⟨0#64, (0 : Int), []⟩ : ApiChallenges), ()), ((⟨(0 : Int), (0 : Int), ([] : List UInt8), false, (0 : Int)⟩ : ApiChallenge), ()), (r2.2.1, ()), (0 : Int), ())).bind (Sum.elim (fun (z7 : (((BitVec 64) × Int × (List (ApiChallenge)) × Unit) × (ApiChallenge × Unit) × Int × Unit)) => (some ((), ((⟨z7.1.1, z7.1.2.1, z7.1.2.2.1⟩ : ApiChallenges), z7.2.1.1, z7.2.2.1, ())))) (fun (z8 : ((ApiChallenges × Unit) × (ApiChallenges × Unit) × (ApiChallenge × Unit) × Unit)) => (some ((), (z8.1.1, (⟨(0 : Int), (0 : Int), ([] : List UInt8), false, (0 : Int)⟩ : ApiChallenge), (35 : Int), ())))))))))

def S_passkeyref29_UseChallenge : FSpec T := ⟨[.f (.v (.agg 3)), .f (.v (.rs 0)), .f (.v (.int .i64)), .f (.v (.int .i64))], [(.v (.agg 3)), (.v (.agg 2)), (.v (.int .i64))], fun x => passkeyref29_UseChallenge x.1 x.2.1 x.2.2.1 x.2.2.2.1⟩

def E_passkeyref29_UseChallenge : Env T := ⟨tab.find, cd, globs, flc, fun f ds => match f with
    | 19 => some S_passkeyref29_ExpireChallenges
    | 22 => some S_passkeyref29_ChallengeBytes
    | 25 => some S_passkeyref29_within
    | _ => none, fun f => match f with
    | 25 => true
    | _ => false⟩

def A_passkeyref29_UseChallenge : Loc2 T := ⟨fun id => match id with
    | 0 => some ⟨[(1, .f (.v (.rs 0))), (2, .f (.v (.int .i64))), (4, .ptr [(.v (.agg 3))]), (8, .ptr [(.v (.agg 3))]), (9, .ptr [(.v (.agg 2))]), (11, .ptr [(.v (.agg 3))]), (12, .f (.v (.int .i64)))], [(.ret, [(8, .ptr [(.v .u64), (.v (.int .i64)), (.own 2)]), (9, .ptr [(.v (.agg 2))]), (10, .f (.v (.int .i64)))]), (.exit 0, [(4, .ptr [(.v (.agg 3))]), (8, .ptr [(.v (.agg 3))]), (9, .ptr [(.v (.agg 2))])])], passkeyref29_UseChallenge_L0, []⟩
    | _ => none, fun r => match r with
    | _ => none, fun r => match r with
    | 8 => true
    | 9 => true
    | 10 => true
    | _ => false⟩

theorem passkeyref29_UseChallenge_L0_eq (y0 : (List (UInt8))) (y1 : Int) (y2 : (ApiChallenges × Unit)) (y3 : (ApiChallenges × Unit)) (y4 : (ApiChallenge × Unit)) (y5 : (ApiChallenges × Unit)) (y6 : Int) : run E_passkeyref29_UseChallenge A_passkeyref29_UseChallenge (loopAt 0 (Try.f17.body.getD .skip)) (layC cd [(1, .f (.v (.rs 0))), (2, .f (.v (.int .i64))), (4, .ptr [(.v (.agg 3))]), (8, .ptr [(.v (.agg 3))]), (9, .ptr [(.v (.agg 2))]), (11, .ptr [(.v (.agg 3))]), (12, .f (.v (.int .i64)))] [] (y0, y1, y2, y3, y4, y5, y6, ())) (roundK cd [(1, .f (.v (.rs 0))), (2, .f (.v (.int .i64))), (4, .ptr [(.v (.agg 3))]), (8, .ptr [(.v (.agg 3))]), (9, .ptr [(.v (.agg 2))]), (11, .ptr [(.v (.agg 3))]), (12, .f (.v (.int .i64)))] [] [(.ret, [(8, .ptr [(.v .u64), (.v (.int .i64)), (.own 2)]), (9, .ptr [(.v (.agg 2))]), (10, .f (.v (.int .i64)))]), (.exit 0, [(4, .ptr [(.v (.agg 3))]), (8, .ptr [(.v (.agg 3))]), (9, .ptr [(.v (.agg 2))])])]) = passkeyref29_UseChallenge_L0b y0 y1 y2 y3 y4 y5 y6 := by kernel_rfl

theorem passkeyref29_UseChallenge_eq (x : tySs T S_passkeyref29_UseChallenge.ps) : run E_passkeyref29_UseChallenge A_passkeyref29_UseChallenge (Try.f17.body.getD .skip) (enterT E_passkeyref29_UseChallenge.C S_passkeyref29_UseChallenge.ps x) (retK E_passkeyref29_UseChallenge Try.f17.results.toList S_passkeyref29_UseChallenge.ps S_passkeyref29_UseChallenge.rs) = S_passkeyref29_UseChallenge.fn x := by kernel_rfl

theorem passkeyref29_UseChallenge_env : EnvOk Try.prog E_passkeyref29_UseChallenge := envOk (E := E_passkeyref29_UseChallenge) cd_ok tys fl_ok fun f ds S h => by
    dsimp only [E_passkeyref29_UseChallenge] at h
    split at h
    · cases h; exact passkeyref29_ExpireChallenges_ok
    · cases h; exact passkeyref29_ChallengeBytes_ok
    · cases h; exact passkeyref29_within_ok
    · cases h

theorem passkeyref29_UseChallenge_L0_ok : LoopOk Try.prog E_passkeyref29_UseChallenge Try.f17.ntmps (kqOf S_passkeyref29_UseChallenge.ps 0) (loopAt 0 (Try.f17.body.getD .skip)) ⟨[(1, .f (.v (.rs 0))), (2, .f (.v (.int .i64))), (4, .ptr [(.v (.agg 3))]), (8, .ptr [(.v (.agg 3))]), (9, .ptr [(.v (.agg 2))]), (11, .ptr [(.v (.agg 3))]), (12, .f (.v (.int .i64)))], [(.ret, [(8, .ptr [(.v .u64), (.v (.int .i64)), (.own 2)]), (9, .ptr [(.v (.agg 2))]), (10, .f (.v (.int .i64)))]), (.exit 0, [(4, .ptr [(.v (.agg 3))]), (8, .ptr [(.v (.agg 3))]), (9, .ptr [(.v (.agg 2))])])], passkeyref29_UseChallenge_L0, []⟩ :=
  loop_ok (A := A_passkeyref29_UseChallenge) (done := []) (c0 := (Try.f17.body.getD .skip)) hmix passkeyref29_UseChallenge_env done_nil rounds (by kernel_rfl) (by kernel_rfl) (fun x => passkeyref29_UseChallenge_L0_eq x.1 x.2.1 x.2.2.1 x.2.2.2.1 x.2.2.2.2.1 x.2.2.2.2.2.1 x.2.2.2.2.2.2.1) (fun _ => rfl)

theorem passkeyref29_UseChallenge_ok : SoundT Try.prog cd gdn 17 S_passkeyref29_UseChallenge :=
  sound_fn (E := E_passkeyref29_UseChallenge) (A := A_passkeyref29_UseChallenge) (done := [0]) (c := (Try.f17.body.getD .skip)) (S := S_passkeyref29_UseChallenge) (fn := Try.f17) hmix passkeyref29_UseChallenge_env Try.func17 rfl (by kernel_rfl) (by kernel_rfl) (done_cons rfl passkeyref29_UseChallenge_L0_ok done_nil) (by kernel_rfl) (by kernel_rfl) passkeyref29_UseChallenge_eq

def passkeylaw29_ChallengePlays_L0b (y0 : (List UInt8)) (y1 : Int) (y2 : (PasskeycastDeck × Unit)) (y3 : (ApiChallenges × Unit)) (y4 : (ApiChallenges × Unit)) (y5 : (List (List UInt8))) (y6 : Int) (y7 : Int) : Option (((List UInt8) × Int × (PasskeycastDeck × Unit) × (ApiChallenges × Unit) × (ApiChallenges × Unit) × (List (List UInt8)) × Int × Int × Unit) ⊕ ((Bool × Unit) ⊕ (Unit))) :=
 (bif (decide (y7 < (60 : Int))) then ((passkeycast_Deck_Left y2.1).bind fun r6 => (bif r6.2.1 then (let v7 : List (Int) := ([(0 : Int), (1 : Int), (0 : Int), (30 : Int), (60 : Int), (61 : Int)] : List (Int))
 ((passkeycast_Deck_Next (y2.1, ()) (6 : Int)).bind fun r8 => (bif (decide ((0 : Int) ≤ r8.2.1) && decide (r8.2.1 < (6 : Int))) then (((v7)[(r8.2.1).toNat]?).bind fun x9 => (((passkeycast_Deck_Next (r8.1.1.1, ()) (16 : Int)).bind fun r10 => (bif (decide (r10.2.1 = (15 : Int))) then (some (y0, y1, (r10.1.1.1, ()), (y3.1, ()), (y4.1, ()), y5, (IntKind.wrap .i64 (y6 + x9)), y7, y1, ()))
 else (some (y0, y1, (r10.1.1.1, ()), (y3.1, ()), (y4.1, ()), y5, (IntKind.wrap .i64 (y6 + x9)), y7, (IntKind.wrap .i64 (y6 + x9)), ())))).bind (fun (j11 : ((List UInt8) × Int × (PasskeycastDeck × Unit) × (ApiChallenges × Unit) × (ApiChallenges × Unit) × (List (List UInt8)) × Int × Int × Int × Unit)) => ((passkeycast_Deck_Next (j11.2.2.1.1, ()) (5 : Int)).bind fun r12 => (bif (decide (r12.2.1 = (0 : Int))) then (bif (decide (r12.2.1 = (0 : Int))) then ((passkeycast_Deck_Next (r12.1.1.1, ()) (5 : Int)).bind fun r13 => ((passkeycast_Name r13.2.1).bind fun r14 => (((passkeycast_Deck_Next (r13.1.1.1, ()) (12 : Int)).bind fun r15 => (bif (decide (r15.2.1 = (11 : Int))) then (some (j11.1, j11.2.1, (r15.1.1.1, ()), (j11.2.2.2.1.1, ()), (j11.2.2.2.2.1.1, ()), j11.2.2.2.2.2.1, j11.2.2.2.2.2.2.1, j11.2.2.2.2.2.2.2.1, j11.2.2.2.2.2.2.2.2.1, j11.1, ()))
 else (some (j11.1, j11.2.1, (r15.1.1.1, ()), (j11.2.2.2.1.1, ()), (j11.2.2.2.2.1.1, ()), j11.2.2.2.2.2.1, j11.2.2.2.2.2.2.1, j11.2.2.2.2.2.2.2.1, j11.2.2.2.2.2.2.2.2.1, r14.2.1, ())))).bind (fun (j16 : ((List UInt8) × Int × (PasskeycastDeck × Unit) × (ApiChallenges × Unit) × (ApiChallenges × Unit) × (List (List UInt8)) × Int × Int × Int × (List UInt8) × Unit)) => (let v17 : List (Int) := ([(1 : Int), (2 : Int), (1 : Int), (2 : Int), (0 : Int), (3 : Int)] : List (Int))
 ((passkeycast_Deck_Next (j16.2.2.1.1, ()) (6 : Int)).bind fun r18 => (bif (decide ((0 : Int) ≤ r18.2.1) && decide (r18.2.1 < (6 : Int))) then (((v17)[(r18.2.1).toNat]?).bind fun x19 => ((passkeycast_Deck_Next (r18.1.1.1, ()) (2 : Int)).bind fun r20 => ((challenge_Issue j16.2.2.2.1.1 x19 j16.2.2.2.2.2.2.2.2.2.1 (decide (r20.2.1 = (1 : Int))) j16.2.2.2.2.2.2.2.2.1).bind fun r21 => ((passkeyref29_Issue j16.2.2.2.2.1.1 x19 j16.2.2.2.2.2.2.2.2.2.1 (decide (r20.2.1 = (1 : Int))) j16.2.2.2.2.2.2.2.2.1).bind fun r22 => (bif (!decide (r21.2.2.1 = r22.2.2.1)) then (some (Sum.inr (Sum.inl (false, ()))))
 else (bif (!decide (r21.2.2.2.1 = r22.2.2.2.1)) then (some (Sum.inr (Sum.inl (false, ()))))
 else (bif small ((j16.2.2.2.2.2.1).length + (([r21.2.2.1] : List (List UInt8)) : List (List UInt8)).length) 24 then (let v23 : List (List UInt8) := (j16.2.2.2.2.2.1 ++ ([r21.2.2.1] : List (List UInt8)))
 ((passkeyref29_SameChallenges r21.2.1 r22.2.1).bind fun r24 => (bif (!r24.2.1) then (some (Sum.inr (Sum.inl (false, ()))))
 else (some (Sum.inl (j16.1, j16.2.1, (r20.1.1.1, ()), (r21.2.1, ()), (r22.2.1, ()), v23, j16.2.2.2.2.2.2.1, (IntKind.wrap .i64 (j16.2.2.2.2.2.2.2.1 + (1 : Int))), ()))))))
 else none)))))))
 else none)))))))
 else (bif (decide (r12.2.1 = (3 : Int))) then ((passkeycast_Deck_Next (r12.1.1.1, ()) ((j11.2.2.2.2.2.1).length : Int)).bind fun r25 => (bif (decide ((0 : Int) ≤ r25.2.1) && decide (r25.2.1 < ((j11.2.2.2.2.2.1).length : Int))) then (((j11.2.2.2.2.2.1)[(r25.2.1).toNat]?).bind fun x26 => ((passkeycast_Deck_Next (r25.1.1.1, ()) (2 : Int)).bind fun r27 => ((challenge_Use j11.2.2.2.1.1 x26 (IntKind.wrap .i64 ((1 : Int) + r27.2.1)) j11.2.2.2.2.2.2.2.2.1).bind fun r28 => ((passkeyref29_UseChallenge j11.2.2.2.2.1.1 x26 (IntKind.wrap .i64 ((1 : Int) + r27.2.1)) j11.2.2.2.2.2.2.2.2.1).bind fun r29 => (let v30 : Bool := (!(decide (r28.2.2.1.number = r29.2.2.1.number) && (decide (r28.2.2.1.kind = r29.2.2.1.kind) && (decide (r28.2.2.1.account = r29.2.2.1.account) && ((r28.2.2.1.bound == r29.2.2.1.bound) && (decide (r28.2.2.1.since = r29.2.2.1.since) && true))))))
 (bif v30 then (some (Sum.inr (Sum.inl (false, ()))))
 else (bif (!decide (r28.2.2.2.1 = r29.2.2.2.1)) then (some (Sum.inr (Sum.inl (false, ()))))
 else ((passkeyref29_SameChallenges r28.2.1 r29.2.1).bind fun r31 => (bif (!r31.2.1) then (some (Sum.inr (Sum.inl (false, ()))))
 else (some (Sum.inl (j11.1, j11.2.1, (r27.1.1.1, ()), (r28.2.1, ()), (r29.2.1, ()), j11.2.2.2.2.2.1, j11.2.2.2.2.2.2.1, (IntKind.wrap .i64 (j11.2.2.2.2.2.2.2.1 + (1 : Int))), ()))))))))))))
 else none))
 else (bif (decide (r12.2.1 = (4 : Int))) then ((challenge_Expire j11.2.2.2.1.1 j11.2.2.2.2.2.2.2.2.1).bind fun r32 => ((passkeyref29_ExpireChallenges j11.2.2.2.2.1.1 j11.2.2.2.2.2.2.2.2.1).bind fun r33 => ((passkeyref29_SameChallenges (⟨r32.2.1.1.1, r32.2.1.1.2.1, r32.2.1.2.1⟩ : ApiChallenges) r33.2.1).bind fun r34 => (bif (!r34.2.1) then (some (Sum.inr (Sum.inl (false, ()))))
 else (some (Sum.inl (j11.1, j11.2.1, (r12.1.1.1, ()), ((⟨r32.2.1.1.1, r32.2.1.1.2.1, r32.2.1.2.1⟩ : ApiChallenges), ()), (r33.2.1, ()), j11.2.2.2.2.2.1, j11.2.2.2.2.2.2.1, (IntKind.wrap .i64 (j11.2.2.2.2.2.2.2.1 + (1 : Int))), ())))))))
 else ((passkeyref29_SameChallenges j11.2.2.2.1.1 j11.2.2.2.2.1.1).bind fun r35 => (bif (!r35.2.1) then (some (Sum.inr (Sum.inl (false, ()))))
 else (some (Sum.inl (j11.1, j11.2.1, (r12.1.1.1, ()), (j11.2.2.2.1.1, ()), (j11.2.2.2.2.1.1, ()), j11.2.2.2.2.2.1, j11.2.2.2.2.2.2.1, (IntKind.wrap .i64 (j11.2.2.2.2.2.2.2.1 + (1 : Int))), ()))))))))
 else (bif (decide (r12.2.1 = (1 : Int))) then (bif (decide (r12.2.1 = (1 : Int))) then ((passkeycast_Deck_Next (r12.1.1.1, ()) (5 : Int)).bind fun r36 => ((passkeycast_Name r36.2.1).bind fun r37 => (((passkeycast_Deck_Next (r36.1.1.1, ()) (12 : Int)).bind fun r38 => (bif (decide (r38.2.1 = (11 : Int))) then (some (j11.1, j11.2.1, (r38.1.1.1, ()), (j11.2.2.2.1.1, ()), (j11.2.2.2.2.1.1, ()), j11.2.2.2.2.2.1, j11.2.2.2.2.2.2.1, j11.2.2.2.2.2.2.2.1, j11.2.2.2.2.2.2.2.2.1, j11.1, ()))
 else (some (j11.1, j11.2.1, (r38.1.1.1, ()), (j11.2.2.2.1.1, ()), (j11.2.2.2.2.1.1, ()), j11.2.2.2.2.2.1, j11.2.2.2.2.2.2.1, j11.2.2.2.2.2.2.2.1, j11.2.2.2.2.2.2.2.2.1, r37.2.1, ())))).bind (fun (j39 : ((List UInt8) × Int × (PasskeycastDeck × Unit) × (ApiChallenges × Unit) × (ApiChallenges × Unit) × (List (List UInt8)) × Int × Int × Int × (List UInt8) × Unit)) => (let v40 : List (Int) := ([(1 : Int), (2 : Int), (1 : Int), (2 : Int), (0 : Int), (3 : Int)] : List (Int))
 ((passkeycast_Deck_Next (j39.2.2.1.1, ()) (6 : Int)).bind fun r41 => (bif (decide ((0 : Int) ≤ r41.2.1) && decide (r41.2.1 < (6 : Int))) then (((v40)[(r41.2.1).toNat]?).bind fun x42 => ((passkeycast_Deck_Next (r41.1.1.1, ()) (2 : Int)).bind fun r43 => ((challenge_Issue j39.2.2.2.1.1 x42 j39.2.2.2.2.2.2.2.2.2.1 (decide (r43.2.1 = (1 : Int))) j39.2.2.2.2.2.2.2.2.1).bind fun r44 => ((passkeyref29_Issue j39.2.2.2.2.1.1 x42 j39.2.2.2.2.2.2.2.2.2.1 (decide (r43.2.1 = (1 : Int))) j39.2.2.2.2.2.2.2.2.1).bind fun r45 => (bif (!decide (r44.2.2.1 = r45.2.2.1)) then (some (Sum.inr (Sum.inl (false, ()))))
 else (bif (!decide (r44.2.2.2.1 = r45.2.2.2.1)) then (some (Sum.inr (Sum.inl (false, ()))))
 else (bif small ((j39.2.2.2.2.2.1).length + (([r44.2.2.1] : List (List UInt8)) : List (List UInt8)).length) 24 then (let v46 : List (List UInt8) := (j39.2.2.2.2.2.1 ++ ([r44.2.2.1] : List (List UInt8)))
 ((passkeyref29_SameChallenges r44.2.1 r45.2.1).bind fun r47 => (bif (!r47.2.1) then (some (Sum.inr (Sum.inl (false, ()))))
 else (some (Sum.inl (j39.1, j39.2.1, (r43.1.1.1, ()), (r44.2.1, ()), (r45.2.1, ()), v46, j39.2.2.2.2.2.2.1, (IntKind.wrap .i64 (j39.2.2.2.2.2.2.2.1 + (1 : Int))), ()))))))
 else none)))))))
 else none)))))))
 else (bif (decide (r12.2.1 = (3 : Int))) then ((passkeycast_Deck_Next (r12.1.1.1, ()) ((j11.2.2.2.2.2.1).length : Int)).bind fun r48 => (bif (decide ((0 : Int) ≤ r48.2.1) && decide (r48.2.1 < ((j11.2.2.2.2.2.1).length : Int))) then (((j11.2.2.2.2.2.1)[(r48.2.1).toNat]?).bind fun x49 => ((passkeycast_Deck_Next (r48.1.1.1, ()) (2 : Int)).bind fun r50 => ((challenge_Use j11.2.2.2.1.1 x49 (IntKind.wrap .i64 ((1 : Int) + r50.2.1)) j11.2.2.2.2.2.2.2.2.1).bind fun r51 => ((passkeyref29_UseChallenge j11.2.2.2.2.1.1 x49 (IntKind.wrap .i64 ((1 : Int) + r50.2.1)) j11.2.2.2.2.2.2.2.2.1).bind fun r52 => (let v53 : Bool := (!(decide (r51.2.2.1.number = r52.2.2.1.number) && (decide (r51.2.2.1.kind = r52.2.2.1.kind) && (decide (r51.2.2.1.account = r52.2.2.1.account) && ((r51.2.2.1.bound == r52.2.2.1.bound) && (decide (r51.2.2.1.since = r52.2.2.1.since) && true))))))
 (bif v53 then (some (Sum.inr (Sum.inl (false, ()))))
 else (bif (!decide (r51.2.2.2.1 = r52.2.2.2.1)) then (some (Sum.inr (Sum.inl (false, ()))))
 else ((passkeyref29_SameChallenges r51.2.1 r52.2.1).bind fun r54 => (bif (!r54.2.1) then (some (Sum.inr (Sum.inl (false, ()))))
 else (some (Sum.inl (j11.1, j11.2.1, (r50.1.1.1, ()), (r51.2.1, ()), (r52.2.1, ()), j11.2.2.2.2.2.1, j11.2.2.2.2.2.2.1, (IntKind.wrap .i64 (j11.2.2.2.2.2.2.2.1 + (1 : Int))), ()))))))))))))
 else none))
 else (bif (decide (r12.2.1 = (4 : Int))) then ((challenge_Expire j11.2.2.2.1.1 j11.2.2.2.2.2.2.2.2.1).bind fun r55 => ((passkeyref29_ExpireChallenges j11.2.2.2.2.1.1 j11.2.2.2.2.2.2.2.2.1).bind fun r56 => ((passkeyref29_SameChallenges (⟨r55.2.1.1.1, r55.2.1.1.2.1, r55.2.1.2.1⟩ : ApiChallenges) r56.2.1).bind fun r57 => (bif (!r57.2.1) then (some (Sum.inr (Sum.inl (false, ()))))
 else (some (Sum.inl (j11.1, j11.2.1, (r12.1.1.1, ()), ((⟨r55.2.1.1.1, r55.2.1.1.2.1, r55.2.1.2.1⟩ : ApiChallenges), ()), (r56.2.1, ()), j11.2.2.2.2.2.1, j11.2.2.2.2.2.2.1, (IntKind.wrap .i64 (j11.2.2.2.2.2.2.2.1 + (1 : Int))), ())))))))
 else ((passkeyref29_SameChallenges j11.2.2.2.1.1 j11.2.2.2.2.1.1).bind fun r58 => (bif (!r58.2.1) then (some (Sum.inr (Sum.inl (false, ()))))
 else (some (Sum.inl (j11.1, j11.2.1, (r12.1.1.1, ()), (j11.2.2.2.1.1, ()), (j11.2.2.2.2.1.1, ()), j11.2.2.2.2.2.1, j11.2.2.2.2.2.2.1, (IntKind.wrap .i64 (j11.2.2.2.2.2.2.2.1 + (1 : Int))), ()))))))))
 else (bif (decide (r12.2.1 = (2 : Int))) then ((passkeycast_Deck_Next (r12.1.1.1, ()) (5 : Int)).bind fun r59 => ((passkeycast_Name r59.2.1).bind fun r60 => (((passkeycast_Deck_Next (r59.1.1.1, ()) (12 : Int)).bind fun r61 => (bif (decide (r61.2.1 = (11 : Int))) then (some (j11.1, j11.2.1, (r61.1.1.1, ()), (j11.2.2.2.1.1, ()), (j11.2.2.2.2.1.1, ()), j11.2.2.2.2.2.1, j11.2.2.2.2.2.2.1, j11.2.2.2.2.2.2.2.1, j11.2.2.2.2.2.2.2.2.1, j11.1, ()))
 else (some (j11.1, j11.2.1, (r61.1.1.1, ()), (j11.2.2.2.1.1, ()), (j11.2.2.2.2.1.1, ()), j11.2.2.2.2.2.1, j11.2.2.2.2.2.2.1, j11.2.2.2.2.2.2.2.1, j11.2.2.2.2.2.2.2.2.1, r60.2.1, ())))).bind (fun (j62 : ((List UInt8) × Int × (PasskeycastDeck × Unit) × (ApiChallenges × Unit) × (ApiChallenges × Unit) × (List (List UInt8)) × Int × Int × Int × (List UInt8) × Unit)) => (let v63 : List (Int) := ([(1 : Int), (2 : Int), (1 : Int), (2 : Int), (0 : Int), (3 : Int)] : List (Int))
 ((passkeycast_Deck_Next (j62.2.2.1.1, ()) (6 : Int)).bind fun r64 => (bif (decide ((0 : Int) ≤ r64.2.1) && decide (r64.2.1 < (6 : Int))) then (((v63)[(r64.2.1).toNat]?).bind fun x65 => ((passkeycast_Deck_Next (r64.1.1.1, ()) (2 : Int)).bind fun r66 => ((challenge_Issue j62.2.2.2.1.1 x65 j62.2.2.2.2.2.2.2.2.2.1 (decide (r66.2.1 = (1 : Int))) j62.2.2.2.2.2.2.2.2.1).bind fun r67 => ((passkeyref29_Issue j62.2.2.2.2.1.1 x65 j62.2.2.2.2.2.2.2.2.2.1 (decide (r66.2.1 = (1 : Int))) j62.2.2.2.2.2.2.2.2.1).bind fun r68 => (bif (!decide (r67.2.2.1 = r68.2.2.1)) then (some (Sum.inr (Sum.inl (false, ()))))
 else (bif (!decide (r67.2.2.2.1 = r68.2.2.2.1)) then (some (Sum.inr (Sum.inl (false, ()))))
 else (bif small ((j62.2.2.2.2.2.1).length + (([r67.2.2.1] : List (List UInt8)) : List (List UInt8)).length) 24 then (let v69 : List (List UInt8) := (j62.2.2.2.2.2.1 ++ ([r67.2.2.1] : List (List UInt8)))
 ((passkeyref29_SameChallenges r67.2.1 r68.2.1).bind fun r70 => (bif (!r70.2.1) then (some (Sum.inr (Sum.inl (false, ()))))
 else (some (Sum.inl (j62.1, j62.2.1, (r66.1.1.1, ()), (r67.2.1, ()), (r68.2.1, ()), v69, j62.2.2.2.2.2.2.1, (IntKind.wrap .i64 (j62.2.2.2.2.2.2.2.1 + (1 : Int))), ()))))))
 else none)))))))
 else none)))))))
 else (bif (decide (r12.2.1 = (3 : Int))) then ((passkeycast_Deck_Next (r12.1.1.1, ()) ((j11.2.2.2.2.2.1).length : Int)).bind fun r71 => (bif (decide ((0 : Int) ≤ r71.2.1) && decide (r71.2.1 < ((j11.2.2.2.2.2.1).length : Int))) then (((j11.2.2.2.2.2.1)[(r71.2.1).toNat]?).bind fun x72 => ((passkeycast_Deck_Next (r71.1.1.1, ()) (2 : Int)).bind fun r73 => ((challenge_Use j11.2.2.2.1.1 x72 (IntKind.wrap .i64 ((1 : Int) + r73.2.1)) j11.2.2.2.2.2.2.2.2.1).bind fun r74 => ((passkeyref29_UseChallenge j11.2.2.2.2.1.1 x72 (IntKind.wrap .i64 ((1 : Int) + r73.2.1)) j11.2.2.2.2.2.2.2.2.1).bind fun r75 => (let v76 : Bool := (!(decide (r74.2.2.1.number = r75.2.2.1.number) && (decide (r74.2.2.1.kind = r75.2.2.1.kind) && (decide (r74.2.2.1.account = r75.2.2.1.account) && ((r74.2.2.1.bound == r75.2.2.1.bound) && (decide (r74.2.2.1.since = r75.2.2.1.since) && true))))))
 (bif v76 then (some (Sum.inr (Sum.inl (false, ()))))
 else (bif (!decide (r74.2.2.2.1 = r75.2.2.2.1)) then (some (Sum.inr (Sum.inl (false, ()))))
 else ((passkeyref29_SameChallenges r74.2.1 r75.2.1).bind fun r77 => (bif (!r77.2.1) then (some (Sum.inr (Sum.inl (false, ()))))
 else (some (Sum.inl (j11.1, j11.2.1, (r73.1.1.1, ()), (r74.2.1, ()), (r75.2.1, ()), j11.2.2.2.2.2.1, j11.2.2.2.2.2.2.1, (IntKind.wrap .i64 (j11.2.2.2.2.2.2.2.1 + (1 : Int))), ()))))))))))))
 else none))
 else (bif (decide (r12.2.1 = (4 : Int))) then ((challenge_Expire j11.2.2.2.1.1 j11.2.2.2.2.2.2.2.2.1).bind fun r78 => ((passkeyref29_ExpireChallenges j11.2.2.2.2.1.1 j11.2.2.2.2.2.2.2.2.1).bind fun r79 => ((passkeyref29_SameChallenges (⟨r78.2.1.1.1, r78.2.1.1.2.1, r78.2.1.2.1⟩ : ApiChallenges) r79.2.1).bind fun r80 => (bif (!r80.2.1) then (some (Sum.inr (Sum.inl (false, ()))))
 else (some (Sum.inl (j11.1, j11.2.1, (r12.1.1.1, ()), ((⟨r78.2.1.1.1, r78.2.1.1.2.1, r78.2.1.2.1⟩ : ApiChallenges), ()), (r79.2.1, ()), j11.2.2.2.2.2.1, j11.2.2.2.2.2.2.1, (IntKind.wrap .i64 (j11.2.2.2.2.2.2.2.1 + (1 : Int))), ())))))))
 else ((passkeyref29_SameChallenges j11.2.2.2.1.1 j11.2.2.2.2.1.1).bind fun r81 => (bif (!r81.2.1) then (some (Sum.inr (Sum.inl (false, ()))))
 else (some (Sum.inl (j11.1, j11.2.1, (r12.1.1.1, ()), (j11.2.2.2.1.1, ()), (j11.2.2.2.2.1.1, ()), j11.2.2.2.2.2.1, j11.2.2.2.2.2.2.1, (IntKind.wrap .i64 (j11.2.2.2.2.2.2.2.1 + (1 : Int))), ()))))))))))))))
 else none)))
 else (bif (decide (y7 < (3 : Int))) then (let v82 : List (Int) := ([(0 : Int), (1 : Int), (0 : Int), (30 : Int), (60 : Int), (61 : Int)] : List (Int))
 ((passkeycast_Deck_Next (y2.1, ()) (6 : Int)).bind fun r83 => (bif (decide ((0 : Int) ≤ r83.2.1) && decide (r83.2.1 < (6 : Int))) then (((v82)[(r83.2.1).toNat]?).bind fun x84 => (((passkeycast_Deck_Next (r83.1.1.1, ()) (16 : Int)).bind fun r85 => (bif (decide (r85.2.1 = (15 : Int))) then (some (y0, y1, (r85.1.1.1, ()), (y3.1, ()), (y4.1, ()), y5, (IntKind.wrap .i64 (y6 + x84)), y7, y1, ()))
 else (some (y0, y1, (r85.1.1.1, ()), (y3.1, ()), (y4.1, ()), y5, (IntKind.wrap .i64 (y6 + x84)), y7, (IntKind.wrap .i64 (y6 + x84)), ())))).bind (fun (j86 : ((List UInt8) × Int × (PasskeycastDeck × Unit) × (ApiChallenges × Unit) × (ApiChallenges × Unit) × (List (List UInt8)) × Int × Int × Int × Unit)) => ((passkeycast_Deck_Next (j86.2.2.1.1, ()) (5 : Int)).bind fun r87 => (bif (decide (r87.2.1 = (0 : Int))) then (bif (decide (r87.2.1 = (0 : Int))) then ((passkeycast_Deck_Next (r87.1.1.1, ()) (5 : Int)).bind fun r88 => ((passkeycast_Name r88.2.1).bind fun r89 => (((passkeycast_Deck_Next (r88.1.1.1, ()) (12 : Int)).bind fun r90 => (bif (decide (r90.2.1 = (11 : Int))) then (some (j86.1, j86.2.1, (r90.1.1.1, ()), (j86.2.2.2.1.1, ()), (j86.2.2.2.2.1.1, ()), j86.2.2.2.2.2.1, j86.2.2.2.2.2.2.1, j86.2.2.2.2.2.2.2.1, j86.2.2.2.2.2.2.2.2.1, j86.1, ()))
 else (some (j86.1, j86.2.1, (r90.1.1.1, ()), (j86.2.2.2.1.1, ()), (j86.2.2.2.2.1.1, ()), j86.2.2.2.2.2.1, j86.2.2.2.2.2.2.1, j86.2.2.2.2.2.2.2.1, j86.2.2.2.2.2.2.2.2.1, r89.2.1, ())))).bind (fun (j91 : ((List UInt8) × Int × (PasskeycastDeck × Unit) × (ApiChallenges × Unit) × (ApiChallenges × Unit) × (List (List UInt8)) × Int × Int × Int × (List UInt8) × Unit)) => (let v92 : List (Int) := ([(1 : Int), (2 : Int), (1 : Int), (2 : Int), (0 : Int), (3 : Int)] : List (Int))
 ((passkeycast_Deck_Next (j91.2.2.1.1, ()) (6 : Int)).bind fun r93 => (bif (decide ((0 : Int) ≤ r93.2.1) && decide (r93.2.1 < (6 : Int))) then (((v92)[(r93.2.1).toNat]?).bind fun x94 => ((passkeycast_Deck_Next (r93.1.1.1, ()) (2 : Int)).bind fun r95 => ((challenge_Issue j91.2.2.2.1.1 x94 j91.2.2.2.2.2.2.2.2.2.1 (decide (r95.2.1 = (1 : Int))) j91.2.2.2.2.2.2.2.2.1).bind fun r96 => ((passkeyref29_Issue j91.2.2.2.2.1.1 x94 j91.2.2.2.2.2.2.2.2.2.1 (decide (r95.2.1 = (1 : Int))) j91.2.2.2.2.2.2.2.2.1).bind fun r97 => (bif (!decide (r96.2.2.1 = r97.2.2.1)) then (some (Sum.inr (Sum.inl (false, ()))))
 else (bif (!decide (r96.2.2.2.1 = r97.2.2.2.1)) then (some (Sum.inr (Sum.inl (false, ()))))
 else (bif small ((j91.2.2.2.2.2.1).length + (([r96.2.2.1] : List (List UInt8)) : List (List UInt8)).length) 24 then (let v98 : List (List UInt8) := (j91.2.2.2.2.2.1 ++ ([r96.2.2.1] : List (List UInt8)))
 ((passkeyref29_SameChallenges r96.2.1 r97.2.1).bind fun r99 => (bif (!r99.2.1) then (some (Sum.inr (Sum.inl (false, ()))))
 else (some (Sum.inl (j91.1, j91.2.1, (r95.1.1.1, ()), (r96.2.1, ()), (r97.2.1, ()), v98, j91.2.2.2.2.2.2.1, (IntKind.wrap .i64 (j91.2.2.2.2.2.2.2.1 + (1 : Int))), ()))))))
 else none)))))))
 else none)))))))
 else (bif (decide (r87.2.1 = (3 : Int))) then ((passkeycast_Deck_Next (r87.1.1.1, ()) ((j86.2.2.2.2.2.1).length : Int)).bind fun r100 => (bif (decide ((0 : Int) ≤ r100.2.1) && decide (r100.2.1 < ((j86.2.2.2.2.2.1).length : Int))) then (((j86.2.2.2.2.2.1)[(r100.2.1).toNat]?).bind fun x101 => ((passkeycast_Deck_Next (r100.1.1.1, ()) (2 : Int)).bind fun r102 => ((challenge_Use j86.2.2.2.1.1 x101 (IntKind.wrap .i64 ((1 : Int) + r102.2.1)) j86.2.2.2.2.2.2.2.2.1).bind fun r103 => ((passkeyref29_UseChallenge j86.2.2.2.2.1.1 x101 (IntKind.wrap .i64 ((1 : Int) + r102.2.1)) j86.2.2.2.2.2.2.2.2.1).bind fun r104 => (let v105 : Bool := (!(decide (r103.2.2.1.number = r104.2.2.1.number) && (decide (r103.2.2.1.kind = r104.2.2.1.kind) && (decide (r103.2.2.1.account = r104.2.2.1.account) && ((r103.2.2.1.bound == r104.2.2.1.bound) && (decide (r103.2.2.1.since = r104.2.2.1.since) && true))))))
 (bif v105 then (some (Sum.inr (Sum.inl (false, ()))))
 else (bif (!decide (r103.2.2.2.1 = r104.2.2.2.1)) then (some (Sum.inr (Sum.inl (false, ()))))
 else ((passkeyref29_SameChallenges r103.2.1 r104.2.1).bind fun r106 => (bif (!r106.2.1) then (some (Sum.inr (Sum.inl (false, ()))))
 else (some (Sum.inl (j86.1, j86.2.1, (r102.1.1.1, ()), (r103.2.1, ()), (r104.2.1, ()), j86.2.2.2.2.2.1, j86.2.2.2.2.2.2.1, (IntKind.wrap .i64 (j86.2.2.2.2.2.2.2.1 + (1 : Int))), ()))))))))))))
 else none))
 else (bif (decide (r87.2.1 = (4 : Int))) then ((challenge_Expire j86.2.2.2.1.1 j86.2.2.2.2.2.2.2.2.1).bind fun r107 => ((passkeyref29_ExpireChallenges j86.2.2.2.2.1.1 j86.2.2.2.2.2.2.2.2.1).bind fun r108 => ((passkeyref29_SameChallenges (⟨r107.2.1.1.1, r107.2.1.1.2.1, r107.2.1.2.1⟩ : ApiChallenges) r108.2.1).bind fun r109 => (bif (!r109.2.1) then (some (Sum.inr (Sum.inl (false, ()))))
 else (some (Sum.inl (j86.1, j86.2.1, (r87.1.1.1, ()), ((⟨r107.2.1.1.1, r107.2.1.1.2.1, r107.2.1.2.1⟩ : ApiChallenges), ()), (r108.2.1, ()), j86.2.2.2.2.2.1, j86.2.2.2.2.2.2.1, (IntKind.wrap .i64 (j86.2.2.2.2.2.2.2.1 + (1 : Int))), ())))))))
 else ((passkeyref29_SameChallenges j86.2.2.2.1.1 j86.2.2.2.2.1.1).bind fun r110 => (bif (!r110.2.1) then (some (Sum.inr (Sum.inl (false, ()))))
 else (some (Sum.inl (j86.1, j86.2.1, (r87.1.1.1, ()), (j86.2.2.2.1.1, ()), (j86.2.2.2.2.1.1, ()), j86.2.2.2.2.2.1, j86.2.2.2.2.2.2.1, (IntKind.wrap .i64 (j86.2.2.2.2.2.2.2.1 + (1 : Int))), ()))))))))
 else (bif (decide (r87.2.1 = (1 : Int))) then (bif (decide (r87.2.1 = (1 : Int))) then ((passkeycast_Deck_Next (r87.1.1.1, ()) (5 : Int)).bind fun r111 => ((passkeycast_Name r111.2.1).bind fun r112 => (((passkeycast_Deck_Next (r111.1.1.1, ()) (12 : Int)).bind fun r113 => (bif (decide (r113.2.1 = (11 : Int))) then (some (j86.1, j86.2.1, (r113.1.1.1, ()), (j86.2.2.2.1.1, ()), (j86.2.2.2.2.1.1, ()), j86.2.2.2.2.2.1, j86.2.2.2.2.2.2.1, j86.2.2.2.2.2.2.2.1, j86.2.2.2.2.2.2.2.2.1, j86.1, ()))
 else (some (j86.1, j86.2.1, (r113.1.1.1, ()), (j86.2.2.2.1.1, ()), (j86.2.2.2.2.1.1, ()), j86.2.2.2.2.2.1, j86.2.2.2.2.2.2.1, j86.2.2.2.2.2.2.2.1, j86.2.2.2.2.2.2.2.2.1, r112.2.1, ())))).bind (fun (j114 : ((List UInt8) × Int × (PasskeycastDeck × Unit) × (ApiChallenges × Unit) × (ApiChallenges × Unit) × (List (List UInt8)) × Int × Int × Int × (List UInt8) × Unit)) => (let v115 : List (Int) := ([(1 : Int), (2 : Int), (1 : Int), (2 : Int), (0 : Int), (3 : Int)] : List (Int))
 ((passkeycast_Deck_Next (j114.2.2.1.1, ()) (6 : Int)).bind fun r116 => (bif (decide ((0 : Int) ≤ r116.2.1) && decide (r116.2.1 < (6 : Int))) then (((v115)[(r116.2.1).toNat]?).bind fun x117 => ((passkeycast_Deck_Next (r116.1.1.1, ()) (2 : Int)).bind fun r118 => ((challenge_Issue j114.2.2.2.1.1 x117 j114.2.2.2.2.2.2.2.2.2.1 (decide (r118.2.1 = (1 : Int))) j114.2.2.2.2.2.2.2.2.1).bind fun r119 => ((passkeyref29_Issue j114.2.2.2.2.1.1 x117 j114.2.2.2.2.2.2.2.2.2.1 (decide (r118.2.1 = (1 : Int))) j114.2.2.2.2.2.2.2.2.1).bind fun r120 => (bif (!decide (r119.2.2.1 = r120.2.2.1)) then (some (Sum.inr (Sum.inl (false, ()))))
 else (bif (!decide (r119.2.2.2.1 = r120.2.2.2.1)) then (some (Sum.inr (Sum.inl (false, ()))))
 else (bif small ((j114.2.2.2.2.2.1).length + (([r119.2.2.1] : List (List UInt8)) : List (List UInt8)).length) 24 then (let v121 : List (List UInt8) := (j114.2.2.2.2.2.1 ++ ([r119.2.2.1] : List (List UInt8)))
 ((passkeyref29_SameChallenges r119.2.1 r120.2.1).bind fun r122 => (bif (!r122.2.1) then (some (Sum.inr (Sum.inl (false, ()))))
 else (some (Sum.inl (j114.1, j114.2.1, (r118.1.1.1, ()), (r119.2.1, ()), (r120.2.1, ()), v121, j114.2.2.2.2.2.2.1, (IntKind.wrap .i64 (j114.2.2.2.2.2.2.2.1 + (1 : Int))), ()))))))
 else none)))))))
 else none)))))))
 else (bif (decide (r87.2.1 = (3 : Int))) then ((passkeycast_Deck_Next (r87.1.1.1, ()) ((j86.2.2.2.2.2.1).length : Int)).bind fun r123 => (bif (decide ((0 : Int) ≤ r123.2.1) && decide (r123.2.1 < ((j86.2.2.2.2.2.1).length : Int))) then (((j86.2.2.2.2.2.1)[(r123.2.1).toNat]?).bind fun x124 => ((passkeycast_Deck_Next (r123.1.1.1, ()) (2 : Int)).bind fun r125 => ((challenge_Use j86.2.2.2.1.1 x124 (IntKind.wrap .i64 ((1 : Int) + r125.2.1)) j86.2.2.2.2.2.2.2.2.1).bind fun r126 => ((passkeyref29_UseChallenge j86.2.2.2.2.1.1 x124 (IntKind.wrap .i64 ((1 : Int) + r125.2.1)) j86.2.2.2.2.2.2.2.2.1).bind fun r127 => (let v128 : Bool := (!(decide (r126.2.2.1.number = r127.2.2.1.number) && (decide (r126.2.2.1.kind = r127.2.2.1.kind) && (decide (r126.2.2.1.account = r127.2.2.1.account) && ((r126.2.2.1.bound == r127.2.2.1.bound) && (decide (r126.2.2.1.since = r127.2.2.1.since) && true))))))
 (bif v128 then (some (Sum.inr (Sum.inl (false, ()))))
 else (bif (!decide (r126.2.2.2.1 = r127.2.2.2.1)) then (some (Sum.inr (Sum.inl (false, ()))))
 else ((passkeyref29_SameChallenges r126.2.1 r127.2.1).bind fun r129 => (bif (!r129.2.1) then (some (Sum.inr (Sum.inl (false, ()))))
 else (some (Sum.inl (j86.1, j86.2.1, (r125.1.1.1, ()), (r126.2.1, ()), (r127.2.1, ()), j86.2.2.2.2.2.1, j86.2.2.2.2.2.2.1, (IntKind.wrap .i64 (j86.2.2.2.2.2.2.2.1 + (1 : Int))), ()))))))))))))
 else none))
 else (bif (decide (r87.2.1 = (4 : Int))) then ((challenge_Expire j86.2.2.2.1.1 j86.2.2.2.2.2.2.2.2.1).bind fun r130 => ((passkeyref29_ExpireChallenges j86.2.2.2.2.1.1 j86.2.2.2.2.2.2.2.2.1).bind fun r131 => ((passkeyref29_SameChallenges (⟨r130.2.1.1.1, r130.2.1.1.2.1, r130.2.1.2.1⟩ : ApiChallenges) r131.2.1).bind fun r132 => (bif (!r132.2.1) then (some (Sum.inr (Sum.inl (false, ()))))
 else (some (Sum.inl (j86.1, j86.2.1, (r87.1.1.1, ()), ((⟨r130.2.1.1.1, r130.2.1.1.2.1, r130.2.1.2.1⟩ : ApiChallenges), ()), (r131.2.1, ()), j86.2.2.2.2.2.1, j86.2.2.2.2.2.2.1, (IntKind.wrap .i64 (j86.2.2.2.2.2.2.2.1 + (1 : Int))), ())))))))
 else ((passkeyref29_SameChallenges j86.2.2.2.1.1 j86.2.2.2.2.1.1).bind fun r133 => (bif (!r133.2.1) then (some (Sum.inr (Sum.inl (false, ()))))
 else (some (Sum.inl (j86.1, j86.2.1, (r87.1.1.1, ()), (j86.2.2.2.1.1, ()), (j86.2.2.2.2.1.1, ()), j86.2.2.2.2.2.1, j86.2.2.2.2.2.2.1, (IntKind.wrap .i64 (j86.2.2.2.2.2.2.2.1 + (1 : Int))), ()))))))))
 else (bif (decide (r87.2.1 = (2 : Int))) then ((passkeycast_Deck_Next (r87.1.1.1, ()) (5 : Int)).bind fun r134 => ((passkeycast_Name r134.2.1).bind fun r135 => (((passkeycast_Deck_Next (r134.1.1.1, ()) (12 : Int)).bind fun r136 => (bif (decide (r136.2.1 = (11 : Int))) then (some (j86.1, j86.2.1, (r136.1.1.1, ()), (j86.2.2.2.1.1, ()), (j86.2.2.2.2.1.1, ()), j86.2.2.2.2.2.1, j86.2.2.2.2.2.2.1, j86.2.2.2.2.2.2.2.1, j86.2.2.2.2.2.2.2.2.1, j86.1, ()))
 else (some (j86.1, j86.2.1, (r136.1.1.1, ()), (j86.2.2.2.1.1, ()), (j86.2.2.2.2.1.1, ()), j86.2.2.2.2.2.1, j86.2.2.2.2.2.2.1, j86.2.2.2.2.2.2.2.1, j86.2.2.2.2.2.2.2.2.1, r135.2.1, ())))).bind (fun (j137 : ((List UInt8) × Int × (PasskeycastDeck × Unit) × (ApiChallenges × Unit) × (ApiChallenges × Unit) × (List (List UInt8)) × Int × Int × Int × (List UInt8) × Unit)) => (let v138 : List (Int) := ([(1 : Int), (2 : Int), (1 : Int), (2 : Int), (0 : Int), (3 : Int)] : List (Int))
 ((passkeycast_Deck_Next (j137.2.2.1.1, ()) (6 : Int)).bind fun r139 => (bif (decide ((0 : Int) ≤ r139.2.1) && decide (r139.2.1 < (6 : Int))) then (((v138)[(r139.2.1).toNat]?).bind fun x140 => ((passkeycast_Deck_Next (r139.1.1.1, ()) (2 : Int)).bind fun r141 => ((challenge_Issue j137.2.2.2.1.1 x140 j137.2.2.2.2.2.2.2.2.2.1 (decide (r141.2.1 = (1 : Int))) j137.2.2.2.2.2.2.2.2.1).bind fun r142 => ((passkeyref29_Issue j137.2.2.2.2.1.1 x140 j137.2.2.2.2.2.2.2.2.2.1 (decide (r141.2.1 = (1 : Int))) j137.2.2.2.2.2.2.2.2.1).bind fun r143 => (bif (!decide (r142.2.2.1 = r143.2.2.1)) then (some (Sum.inr (Sum.inl (false, ()))))
 else (bif (!decide (r142.2.2.2.1 = r143.2.2.2.1)) then (some (Sum.inr (Sum.inl (false, ()))))
 else (bif small ((j137.2.2.2.2.2.1).length + (([r142.2.2.1] : List (List UInt8)) : List (List UInt8)).length) 24 then (let v144 : List (List UInt8) := (j137.2.2.2.2.2.1 ++ ([r142.2.2.1] : List (List UInt8)))
 ((passkeyref29_SameChallenges r142.2.1 r143.2.1).bind fun r145 => (bif (!r145.2.1) then (some (Sum.inr (Sum.inl (false, ()))))
 else (some (Sum.inl (j137.1, j137.2.1, (r141.1.1.1, ()), (r142.2.1, ()), (r143.2.1, ()), v144, j137.2.2.2.2.2.2.1, (IntKind.wrap .i64 (j137.2.2.2.2.2.2.2.1 + (1 : Int))), ()))))))
 else none)))))))
 else none)))))))
 else (bif (decide (r87.2.1 = (3 : Int))) then ((passkeycast_Deck_Next (r87.1.1.1, ()) ((j86.2.2.2.2.2.1).length : Int)).bind fun r146 => (bif (decide ((0 : Int) ≤ r146.2.1) && decide (r146.2.1 < ((j86.2.2.2.2.2.1).length : Int))) then (((j86.2.2.2.2.2.1)[(r146.2.1).toNat]?).bind fun x147 => ((passkeycast_Deck_Next (r146.1.1.1, ()) (2 : Int)).bind fun r148 => ((challenge_Use j86.2.2.2.1.1 x147 (IntKind.wrap .i64 ((1 : Int) + r148.2.1)) j86.2.2.2.2.2.2.2.2.1).bind fun r149 => ((passkeyref29_UseChallenge j86.2.2.2.2.1.1 x147 (IntKind.wrap .i64 ((1 : Int) + r148.2.1)) j86.2.2.2.2.2.2.2.2.1).bind fun r150 => (let v151 : Bool := (!(decide (r149.2.2.1.number = r150.2.2.1.number) && (decide (r149.2.2.1.kind = r150.2.2.1.kind) && (decide (r149.2.2.1.account = r150.2.2.1.account) && ((r149.2.2.1.bound == r150.2.2.1.bound) && (decide (r149.2.2.1.since = r150.2.2.1.since) && true))))))
 (bif v151 then (some (Sum.inr (Sum.inl (false, ()))))
 else (bif (!decide (r149.2.2.2.1 = r150.2.2.2.1)) then (some (Sum.inr (Sum.inl (false, ()))))
 else ((passkeyref29_SameChallenges r149.2.1 r150.2.1).bind fun r152 => (bif (!r152.2.1) then (some (Sum.inr (Sum.inl (false, ()))))
 else (some (Sum.inl (j86.1, j86.2.1, (r148.1.1.1, ()), (r149.2.1, ()), (r150.2.1, ()), j86.2.2.2.2.2.1, j86.2.2.2.2.2.2.1, (IntKind.wrap .i64 (j86.2.2.2.2.2.2.2.1 + (1 : Int))), ()))))))))))))
 else none))
 else (bif (decide (r87.2.1 = (4 : Int))) then ((challenge_Expire j86.2.2.2.1.1 j86.2.2.2.2.2.2.2.2.1).bind fun r153 => ((passkeyref29_ExpireChallenges j86.2.2.2.2.1.1 j86.2.2.2.2.2.2.2.2.1).bind fun r154 => ((passkeyref29_SameChallenges (⟨r153.2.1.1.1, r153.2.1.1.2.1, r153.2.1.2.1⟩ : ApiChallenges) r154.2.1).bind fun r155 => (bif (!r155.2.1) then (some (Sum.inr (Sum.inl (false, ()))))
 else (some (Sum.inl (j86.1, j86.2.1, (r87.1.1.1, ()), ((⟨r153.2.1.1.1, r153.2.1.1.2.1, r153.2.1.2.1⟩ : ApiChallenges), ()), (r154.2.1, ()), j86.2.2.2.2.2.1, j86.2.2.2.2.2.2.1, (IntKind.wrap .i64 (j86.2.2.2.2.2.2.2.1 + (1 : Int))), ())))))))
 else ((passkeyref29_SameChallenges j86.2.2.2.1.1 j86.2.2.2.2.1.1).bind fun r156 => (bif (!r156.2.1) then (some (Sum.inr (Sum.inl (false, ()))))
 else (some (Sum.inl (j86.1, j86.2.1, (r87.1.1.1, ()), (j86.2.2.2.1.1, ()), (j86.2.2.2.2.1.1, ()), j86.2.2.2.2.2.1, j86.2.2.2.2.2.2.1, (IntKind.wrap .i64 (j86.2.2.2.2.2.2.2.1 + (1 : Int))), ()))))))))))))))
 else none)))
 else (some (Sum.inr (Sum.inr ()))))))
 else (some (Sum.inr (Sum.inr ()))))

def passkeylaw29_ChallengePlays_L0 (y : ((List UInt8) × Int × (PasskeycastDeck × Unit) × (ApiChallenges × Unit) × (ApiChallenges × Unit) × (List (List UInt8)) × Int × Int × Unit)) : Option ((Bool × Unit) ⊕ (Unit)) := iter (fun (y : ((List UInt8) × Int × (PasskeycastDeck × Unit) × (ApiChallenges × Unit) × (ApiChallenges × Unit) × (List (List UInt8)) × Int × Int × Unit)) => passkeylaw29_ChallengePlays_L0b y.1 y.2.1 y.2.2.1 y.2.2.2.1 y.2.2.2.2.1 y.2.2.2.2.2.1 y.2.2.2.2.2.2.1 y.2.2.2.2.2.2.2.1) rounds y

def passkeylaw29_ChallengePlays (a0 : (BitVec 64)) (a1 : (List (Int))) (a2 : (List (UInt8))) (a3 : (List UInt8)) (a4 : Int) : Option ((Unit) × (Bool × Unit)) :=
 (bif (decide ((100 : Int) < ((a2).length : Int))) then ((passkeylaw29_awake).bind fun r1 => (some ((), (r1.2.1, ()))))
 else (bif (decide ((100 : Int) < ((a3).length : Int))) then ((passkeylaw29_awake).bind fun r2 => (some ((), (r2.2.1, ()))))
 else ((passkeycast_New a1).bind fun r3 => ((challenge_New a0).bind fun r4 => ((passkeyref29_NewChallenges a0).bind fun r5 => ((passkeylaw29_ChallengePlays_L0 (a3, a4, (r3.2.1, ()), (r4.2.1, ()), (r5.2.1, ()), ([a2] : List (List UInt8)), (0 : Int), (0 : Int), ())).bind (Sum.elim (fun (z157 : (Bool × Unit)) => (some ((), (z157.1, ())))) (fun (z158 : (Unit)) => ((passkeylaw29_awake).bind fun r159 => (some ((), (r159.2.1, ()))))))))))))

def S_passkeylaw29_ChallengePlays : FSpec T := ⟨[.f (.v .u64), .f (.v (.rs 1)), .f (.v (.rs 0)), .f (.v .str), .f (.v (.int .i64))], [(.v .bool)], fun x => passkeylaw29_ChallengePlays x.1 x.2.1 x.2.2.1 x.2.2.2.1 x.2.2.2.2.1⟩

def E_passkeylaw29_ChallengePlays : Env T := ⟨tab.find, cd, globs, flc, fun f ds => match f with
    | 7 => some S_passkeylaw29_awake
    | 8 => some S_passkeycast_New
    | 9 => some S_challenge_New
    | 10 => some S_passkeyref29_NewChallenges
    | 11 => some S_passkeycast_Deck_Left
    | 12 => some S_passkeycast_Deck_Next
    | 13 => some S_passkeycast_Name
    | 14 => some S_challenge_Issue
    | 15 => some S_passkeyref29_Issue
    | 16 => some S_challenge_Use
    | 17 => some S_passkeyref29_UseChallenge
    | 18 => some S_challenge_Expire
    | 19 => some S_passkeyref29_ExpireChallenges
    | 20 => some S_passkeyref29_SameChallenges
    | _ => none, fun f => match f with
    | 7 => true
    | 11 => true
    | 13 => true
    | 20 => true
    | _ => false⟩

def A_passkeylaw29_ChallengePlays : Loc2 T := ⟨fun id => match id with
    | 0 => some ⟨[(3, .f (.v .str)), (4, .f (.v (.int .i64))), (11, .ptr [(.v (.agg 6))]), (12, .ptr [(.v (.agg 3))]), (13, .ptr [(.v (.agg 3))]), (14, .f (.own 7)), (15, .f (.v (.int .i64))), (16, .f (.v (.int .i64)))], [(.ret, [(10, .f (.v .bool))]), (.exit 0, [])], passkeylaw29_ChallengePlays_L0, []⟩
    | _ => none, fun r => match r with
    | 14 => some ([(3, .f (.v .str)), (4, .f (.v (.int .i64))), (11, .ptr [(.v (.agg 6))]), (12, .ptr [(.v (.agg 3))]), (13, .ptr [(.v (.agg 3))]), (14, .f (.own 7)), (15, .f (.v (.int .i64))), (16, .f (.v (.int .i64))), (17, .f (.v (.int .i64)))], true)
    | 21 => some ([(3, .f (.v .str)), (4, .f (.v (.int .i64))), (11, .ptr [(.v (.agg 6))]), (12, .ptr [(.v (.agg 3))]), (13, .ptr [(.v (.agg 3))]), (14, .f (.own 7)), (15, .f (.v (.int .i64))), (16, .f (.v (.int .i64))), (17, .f (.v (.int .i64))), (18, .f (.v .str))], true)
    | _ => none, fun r => match r with
    | 40 => true
    | _ => false⟩

theorem passkeylaw29_ChallengePlays_L0_eq (y0 : (List UInt8)) (y1 : Int) (y2 : (PasskeycastDeck × Unit)) (y3 : (ApiChallenges × Unit)) (y4 : (ApiChallenges × Unit)) (y5 : (List (List UInt8))) (y6 : Int) (y7 : Int) : run E_passkeylaw29_ChallengePlays A_passkeylaw29_ChallengePlays (loopAt 0 (Try.f3.body.getD .skip)) (layC cd [(3, .f (.v .str)), (4, .f (.v (.int .i64))), (11, .ptr [(.v (.agg 6))]), (12, .ptr [(.v (.agg 3))]), (13, .ptr [(.v (.agg 3))]), (14, .f (.own 7)), (15, .f (.v (.int .i64))), (16, .f (.v (.int .i64)))] [] (y0, y1, y2, y3, y4, y5, y6, y7, ())) (roundK cd [(3, .f (.v .str)), (4, .f (.v (.int .i64))), (11, .ptr [(.v (.agg 6))]), (12, .ptr [(.v (.agg 3))]), (13, .ptr [(.v (.agg 3))]), (14, .f (.own 7)), (15, .f (.v (.int .i64))), (16, .f (.v (.int .i64)))] [] [(.ret, [(10, .f (.v .bool))]), (.exit 0, [])]) = passkeylaw29_ChallengePlays_L0b y0 y1 y2 y3 y4 y5 y6 y7 := by kernel_rfl

theorem passkeylaw29_ChallengePlays_eq (x : tySs T S_passkeylaw29_ChallengePlays.ps) : run E_passkeylaw29_ChallengePlays A_passkeylaw29_ChallengePlays (Try.f3.body.getD .skip) (enterT E_passkeylaw29_ChallengePlays.C S_passkeylaw29_ChallengePlays.ps x) (retK E_passkeylaw29_ChallengePlays Try.f3.results.toList S_passkeylaw29_ChallengePlays.ps S_passkeylaw29_ChallengePlays.rs) = S_passkeylaw29_ChallengePlays.fn x := by kernel_rfl

theorem passkeylaw29_ChallengePlays_env : EnvOk Try.prog E_passkeylaw29_ChallengePlays := envOk (E := E_passkeylaw29_ChallengePlays) cd_ok tys fl_ok fun f ds S h => by
    dsimp only [E_passkeylaw29_ChallengePlays] at h
    split at h
    · cases h; exact passkeylaw29_awake_ok
    · cases h; exact passkeycast_New_ok
    · cases h; exact challenge_New_ok
    · cases h; exact passkeyref29_NewChallenges_ok
    · cases h; exact passkeycast_Deck_Left_ok
    · cases h; exact passkeycast_Deck_Next_ok
    · cases h; exact passkeycast_Name_ok
    · cases h; exact challenge_Issue_ok
    · cases h; exact passkeyref29_Issue_ok
    · cases h; exact challenge_Use_ok
    · cases h; exact passkeyref29_UseChallenge_ok
    · cases h; exact challenge_Expire_ok
    · cases h; exact passkeyref29_ExpireChallenges_ok
    · cases h; exact passkeyref29_SameChallenges_ok
    · cases h

theorem passkeylaw29_ChallengePlays_L0_ok : LoopOk Try.prog E_passkeylaw29_ChallengePlays Try.f3.ntmps (kqOf S_passkeylaw29_ChallengePlays.ps 0) (loopAt 0 (Try.f3.body.getD .skip)) ⟨[(3, .f (.v .str)), (4, .f (.v (.int .i64))), (11, .ptr [(.v (.agg 6))]), (12, .ptr [(.v (.agg 3))]), (13, .ptr [(.v (.agg 3))]), (14, .f (.own 7)), (15, .f (.v (.int .i64))), (16, .f (.v (.int .i64)))], [(.ret, [(10, .f (.v .bool))]), (.exit 0, [])], passkeylaw29_ChallengePlays_L0, []⟩ :=
  loop_ok (A := A_passkeylaw29_ChallengePlays) (done := []) (c0 := (Try.f3.body.getD .skip)) hmix passkeylaw29_ChallengePlays_env done_nil rounds (by kernel_rfl) (by kernel_rfl) (fun x => passkeylaw29_ChallengePlays_L0_eq x.1 x.2.1 x.2.2.1 x.2.2.2.1 x.2.2.2.2.1 x.2.2.2.2.2.1 x.2.2.2.2.2.2.1 x.2.2.2.2.2.2.2.1) (fun _ => rfl)

theorem passkeylaw29_ChallengePlays_ok : SoundT Try.prog cd gdn 3 S_passkeylaw29_ChallengePlays :=
  sound_fn (E := E_passkeylaw29_ChallengePlays) (A := A_passkeylaw29_ChallengePlays) (done := [0]) (c := (Try.f3.body.getD .skip)) (S := S_passkeylaw29_ChallengePlays) (fn := Try.f3) hmix passkeylaw29_ChallengePlays_env Try.func3 rfl (by kernel_rfl) (by kernel_rfl) (done_cons rfl passkeylaw29_ChallengePlays_L0_ok done_nil) (by kernel_rfl) (by kernel_rfl) passkeylaw29_ChallengePlays_eq

def passkeylaw29_ChallengeBytes (a0 : ApiChallenges) (a1 : ApiChallenge) : Option ((Unit) × (Bool × Unit)) :=
 (bif (decide ((200 : Int) < ((a1.account).length : Int))) then ((passkeylaw29_awake).bind fun r1 => (some ((), (r1.2.1, ()))))
 else ((challenge_Bytes a0 a1).bind fun r2 => ((passkeyref29_ChallengeBytes a0 a1).bind fun r3 => (bif (decide (r2.2.1 = r3.2.1)) then ((passkeylaw29_awake).bind fun r4 => (some ((), (r4.2.1, ()))))
 else (some ((), (false, ())))))))

def S_passkeylaw29_ChallengeBytes : FSpec T := ⟨[.f (.v (.agg 3)), .f (.v (.agg 2))], [(.v .bool)], fun x => passkeylaw29_ChallengeBytes x.1 x.2.1⟩

def E_passkeylaw29_ChallengeBytes : Env T := ⟨tab.find, cd, globs, flc, fun f ds => match f with
    | 7 => some S_passkeylaw29_awake
    | 21 => some S_challenge_Bytes
    | 22 => some S_passkeyref29_ChallengeBytes
    | _ => none, fun f => match f with
    | 7 => true
    | _ => false⟩

def A_passkeylaw29_ChallengeBytes : Loc2 T := ⟨fun id => match id with
    | _ => none, fun r => match r with
    | _ => none, fun r => match r with
    | 3 => true
    | _ => false⟩

theorem passkeylaw29_ChallengeBytes_eq (x : tySs T S_passkeylaw29_ChallengeBytes.ps) : run E_passkeylaw29_ChallengeBytes A_passkeylaw29_ChallengeBytes (Try.f4.body.getD .skip) (enterT E_passkeylaw29_ChallengeBytes.C S_passkeylaw29_ChallengeBytes.ps x) (retK E_passkeylaw29_ChallengeBytes Try.f4.results.toList S_passkeylaw29_ChallengeBytes.ps S_passkeylaw29_ChallengeBytes.rs) = S_passkeylaw29_ChallengeBytes.fn x := by kernel_rfl

theorem passkeylaw29_ChallengeBytes_env : EnvOk Try.prog E_passkeylaw29_ChallengeBytes := envOk (E := E_passkeylaw29_ChallengeBytes) cd_ok tys fl_ok fun f ds S h => by
    dsimp only [E_passkeylaw29_ChallengeBytes] at h
    split at h
    · cases h; exact passkeylaw29_awake_ok
    · cases h; exact challenge_Bytes_ok
    · cases h; exact passkeyref29_ChallengeBytes_ok
    · cases h

theorem passkeylaw29_ChallengeBytes_ok : SoundT Try.prog cd gdn 4 S_passkeylaw29_ChallengeBytes :=
  sound_fn (E := E_passkeylaw29_ChallengeBytes) (A := A_passkeylaw29_ChallengeBytes) (done := []) (c := (Try.f4.body.getD .skip)) (S := S_passkeylaw29_ChallengeBytes) (fn := Try.f4) hmix passkeylaw29_ChallengeBytes_env Try.func4 rfl (by kernel_rfl) (by kernel_rfl) done_nil (by kernel_rfl) (by kernel_rfl) passkeylaw29_ChallengeBytes_eq

def passkeylaw29_ChallengeOnce_L0b (y0 : (List (UInt8))) (y1 : (List (UInt8))) (y2 : UInt8) (y3 : (ApiChallenges × Unit)) (y4 : (List (List UInt8))) (y5 : Int) : Option (((List (UInt8)) × (List (UInt8)) × UInt8 × (ApiChallenges × Unit) × (List (List UInt8)) × Int × Unit) ⊕ ((Bool × Unit) ⊕ ((List (UInt8)) × (List (UInt8)) × UInt8 × (ApiChallenges × Unit) × (List (List UInt8)) × Unit))) :=
 (bif (decide (y5 < ((y0).length : Int))) then (bif (decide (y5 < (20 : Int))) then ((getI y0 y5).bind fun x2 => (let v3 : Int := ((UInt8.ofBitVec (x2.toBitVec &&& (1 : UInt8).toBitVec)).toBitVec.toNat : Int)
 ((getI y0 y5).bind fun x4 => ((passkeycast_Name (Int.tmod (x4.toBitVec.toNat : Int) (3 : Int))).bind fun r5 => ((getI y0 y5).bind fun x6 => ((challenge_Issue y3.1 (IntKind.wrap .i64 ((1 : Int) + v3)) r5.2.1 (decide ((UInt8.ofBitVec (x6.toBitVec &&& (8 : UInt8).toBitVec)).toBitVec = (8 : UInt8).toBitVec)) (100 : Int)).bind fun r7 => (bif (!decide (r7.2.2.2.1 = (0 : Int))) then (some (Sum.inr (Sum.inl (false, ()))))
 else (bif small ((y4).length + (([r7.2.2.1] : List (List UInt8)) : List (List UInt8)).length) 24 then (some (Sum.inl (y0, y1, y2, (r7.2.1, ()), (y4 ++ ([r7.2.2.1] : List (List UInt8))), (IntKind.wrap .i64 (y5 + (1 : Int))), ())))
 else none))))))))
 else (some (Sum.inr (Sum.inr (y0, y1, y2, (y3.1, ()), y4, ())))))
 else (some (Sum.inr (Sum.inr (y0, y1, y2, (y3.1, ()), y4, ())))))

def passkeylaw29_ChallengeOnce_L0 (y : ((List (UInt8)) × (List (UInt8)) × UInt8 × (ApiChallenges × Unit) × (List (List UInt8)) × Int × Unit)) : Option ((Bool × Unit) ⊕ ((List (UInt8)) × (List (UInt8)) × UInt8 × (ApiChallenges × Unit) × (List (List UInt8)) × Unit)) := iter (fun (y : ((List (UInt8)) × (List (UInt8)) × UInt8 × (ApiChallenges × Unit) × (List (List UInt8)) × Int × Unit)) => passkeylaw29_ChallengeOnce_L0b y.1 y.2.1 y.2.2.1 y.2.2.2.1 y.2.2.2.2.1 y.2.2.2.2.2.1) rounds y

def passkeylaw29_ChallengeOnce_L4b (y0 : (List (UInt8))) (y1 : (List (UInt8))) (y2 : UInt8) (y3 : (ApiChallenges × Unit)) (y4 : (List (List UInt8))) (y5 : Int) (y6 : Int) : Option (((List (UInt8)) × (List (UInt8)) × UInt8 × (ApiChallenges × Unit) × (List (List UInt8)) × Int × Int × Unit) ⊕ ((Bool × Unit) ⊕ ((List (UInt8)) × (List (UInt8)) × UInt8 × (ApiChallenges × Unit) × (List (List UInt8)) × Int × Unit))) :=
 (bif (decide (y6 < y5)) then (bif (decide ((0 : Int) ≤ y5) && decide (y5 < ((y4).length : Int))) then (((y4)[(y5).toNat]?).bind fun x10 => (bif (decide ((0 : Int) ≤ y6) && decide (y6 < ((y4).length : Int))) then (((y4)[(y6).toNat]?).bind fun x11 => (bif (decide (x10 = x11)) then (some (Sum.inr (Sum.inl (false, ()))))
 else (some (Sum.inl (y0, y1, y2, (y3.1, ()), y4, y5, (IntKind.wrap .i64 (y6 + (1 : Int))), ())))))
 else none))
 else none)
 else (some (Sum.inr (Sum.inr (y0, y1, y2, (y3.1, ()), y4, y5, ())))))

def passkeylaw29_ChallengeOnce_L4 (y : ((List (UInt8)) × (List (UInt8)) × UInt8 × (ApiChallenges × Unit) × (List (List UInt8)) × Int × Int × Unit)) : Option ((Bool × Unit) ⊕ ((List (UInt8)) × (List (UInt8)) × UInt8 × (ApiChallenges × Unit) × (List (List UInt8)) × Int × Unit)) := iter (fun (y : ((List (UInt8)) × (List (UInt8)) × UInt8 × (ApiChallenges × Unit) × (List (List UInt8)) × Int × Int × Unit)) => passkeylaw29_ChallengeOnce_L4b y.1 y.2.1 y.2.2.1 y.2.2.2.1 y.2.2.2.2.1 y.2.2.2.2.2.1 y.2.2.2.2.2.2.1) rounds y

def passkeylaw29_ChallengeOnce_L2b (y0 : (List (UInt8))) (y1 : (List (UInt8))) (y2 : UInt8) (y3 : (ApiChallenges × Unit)) (y4 : (List (List UInt8))) (y5 : Int) : Option (((List (UInt8)) × (List (UInt8)) × UInt8 × (ApiChallenges × Unit) × (List (List UInt8)) × Int × Unit) ⊕ ((Bool × Unit) ⊕ ((List (UInt8)) × (List (UInt8)) × UInt8 × (ApiChallenges × Unit) × (List (List UInt8)) × Unit))) :=
 (bif (decide (y5 < ((y4).length : Int))) then ((passkeylaw29_ChallengeOnce_L4 (y0, y1, y2, (y3.1, ()), y4, y5, (0 : Int), ())).bind (Sum.elim (fun (z10 : (Bool × Unit)) => (some (Sum.inr (Sum.inl (z10.1, ()))))) (fun (z11 : ((List (UInt8)) × (List (UInt8)) × UInt8 × (ApiChallenges × Unit) × (List (List UInt8)) × Int × Unit)) => (some (Sum.inl (z11.1, z11.2.1, z11.2.2.1, (z11.2.2.2.1.1, ()), z11.2.2.2.2.1, (IntKind.wrap .i64 (z11.2.2.2.2.2.1 + (1 : Int))), ()))))))
 else (some (Sum.inr (Sum.inr (y0, y1, y2, (y3.1, ()), y4, ())))))

def passkeylaw29_ChallengeOnce_L2 (y : ((List (UInt8)) × (List (UInt8)) × UInt8 × (ApiChallenges × Unit) × (List (List UInt8)) × Int × Unit)) : Option ((Bool × Unit) ⊕ ((List (UInt8)) × (List (UInt8)) × UInt8 × (ApiChallenges × Unit) × (List (List UInt8)) × Unit)) := iter (fun (y : ((List (UInt8)) × (List (UInt8)) × UInt8 × (ApiChallenges × Unit) × (List (List UInt8)) × Int × Unit)) => passkeylaw29_ChallengeOnce_L2b y.1 y.2.1 y.2.2.1 y.2.2.2.1 y.2.2.2.2.1 y.2.2.2.2.2.1) rounds y

def passkeylaw29_ChallengeOnce_L6b (y0 : (List (UInt8))) (y1 : (List (UInt8))) (y2 : UInt8) (y3 : (ApiChallenges × Unit)) (y4 : (List (List UInt8))) (y5 : (List (Bool))) (y6 : Int) : Option (((List (UInt8)) × (List (UInt8)) × UInt8 × (ApiChallenges × Unit) × (List (List UInt8)) × (List (Bool)) × Int × Unit) ⊕ ((Bool × Unit) ⊕ (Unit))) :=
 (bif (decide (y6 < ((y1).length : Int))) then (bif (decide (y6 < (40 : Int))) then (bif (decide ((0 : Int) < ((y4).length : Int))) then ((getI y1 y6).bind fun x15 => (bif decide (((y4).length : Int) = 0) then none
 else ((getI y1 y6).bind fun x16 => (let v17 : Int := (IntKind.wrap .i64 ((1 : Int) + ((UInt8.ofBitVec (x16.toBitVec >>> 7)).toBitVec.toNat : Int)))
 (bif (decide ((0 : Int) ≤ (Int.tmod (x15.toBitVec.toNat : Int) ((y4).length : Int))) && decide ((Int.tmod (x15.toBitVec.toNat : Int) ((y4).length : Int)) < ((y4).length : Int))) then (((y4)[((Int.tmod (x15.toBitVec.toNat : Int) ((y4).length : Int))).toNat]?).bind fun x18 => (let v19 : Int := (IntKind.wrap .i64 ((100 : Int) + (y2.toBitVec.toNat : Int)))
 ((challenge_Use y3.1 x18 v17 v19).bind fun r20 => (bif (decide ((0 : Int) ≤ (Int.tmod (x15.toBitVec.toNat : Int) ((y4).length : Int))) && decide ((Int.tmod (x15.toBitVec.toNat : Int) ((y4).length : Int)) < ((y5).length : Int))) then (((y5)[((Int.tmod (x15.toBitVec.toNat : Int) ((y4).length : Int))).toNat]?).bind fun x21 => (bif (!x21) then ((getI y0 (Int.tmod (x15.toBitVec.toNat : Int) ((y4).length : Int))).bind fun x22 => (let v23 : Int := ((UInt8.ofBitVec (x22.toBitVec &&& (1 : UInt8).toBitVec)).toBitVec.toNat : Int)
 (bif (decide (v17 = (IntKind.wrap .i64 ((1 : Int) + v23)))) then (bif (!((decide (r20.2.2.2.1 = (0 : Int))) == (decide ((y2.toBitVec.toNat : Int) ≤ (60 : Int))))) then (some (Sum.inr (Sum.inl (false, ()))))
 else (bif (decide (r20.2.2.2.1 = (0 : Int))) then (bif (!decide (r20.2.2.1.number = (Int.tmod (x15.toBitVec.toNat : Int) ((y4).length : Int)))) then (some (Sum.inr (Sum.inl (false, ()))))
 else ((getI y0 (Int.tmod (x15.toBitVec.toNat : Int) ((y4).length : Int))).bind fun x24 => ((passkeycast_Name (Int.tmod (x24.toBitVec.toNat : Int) (3 : Int))).bind fun r25 => (bif (!decide (r20.2.2.1.account = r25.2.1)) then (some (Sum.inr (Sum.inl (false, ()))))
 else ((getI y0 (Int.tmod (x15.toBitVec.toNat : Int) ((y4).length : Int))).bind fun x26 => (let v27 : Bool := (!(r20.2.2.1.bound == (decide ((UInt8.ofBitVec (x26.toBitVec &&& (8 : UInt8).toBitVec)).toBitVec = (8 : UInt8).toBitVec))))
 (bif v27 then (some (Sum.inr (Sum.inl (false, ()))))
 else (bif (decide ((0 : Int) ≤ (Int.tmod (x15.toBitVec.toNat : Int) ((y4).length : Int))) && decide ((Int.tmod (x15.toBitVec.toNat : Int) ((y4).length : Int)) < ((y5).length : Int))) then (((y5)[((Int.tmod (x15.toBitVec.toNat : Int) ((y4).length : Int))).toNat]?).bind fun x28 => (bif x28 then (bif (decide ((0 : Int) ≤ (Int.tmod (x15.toBitVec.toNat : Int) ((y4).length : Int))) && decide ((Int.tmod (x15.toBitVec.toNat : Int) ((y4).length : Int)) < ((y5).length : Int))) then (((y5)[((Int.tmod (x15.toBitVec.toNat : Int) ((y4).length : Int))).toNat]?).bind fun x29 => (let v30 : List (Bool) := (List.set y5 ((Int.tmod (x15.toBitVec.toNat : Int) ((y4).length : Int))).toNat true)
 (some (Sum.inl (y0, y1, y2, (r20.2.1, ()), y4, v30, (IntKind.wrap .i64 (y6 + (1 : Int))), ())))))
 else none)
 else (bif (decide ((0 : Int) ≤ (Int.tmod (x15.toBitVec.toNat : Int) ((y4).length : Int))) && decide ((Int.tmod (x15.toBitVec.toNat : Int) ((y4).length : Int)) < ((y5).length : Int))) then (((y5)[((Int.tmod (x15.toBitVec.toNat : Int) ((y4).length : Int))).toNat]?).bind fun x31 => (let v32 : List (Bool) := (List.set y5 ((Int.tmod (x15.toBitVec.toNat : Int) ((y4).length : Int))).toNat (decide ((y2.toBitVec.toNat : Int) ≤ (60 : Int))))
 (some (Sum.inl (y0, y1, y2, (r20.2.1, ()), y4, v32, (IntKind.wrap .i64 (y6 + (1 : Int))), ())))))
 else none)))
 else none))))))))
 else (bif (decide ((0 : Int) ≤ (Int.tmod (x15.toBitVec.toNat : Int) ((y4).length : Int))) && decide ((Int.tmod (x15.toBitVec.toNat : Int) ((y4).length : Int)) < ((y5).length : Int))) then (((y5)[((Int.tmod (x15.toBitVec.toNat : Int) ((y4).length : Int))).toNat]?).bind fun x33 => (bif x33 then (bif (decide ((0 : Int) ≤ (Int.tmod (x15.toBitVec.toNat : Int) ((y4).length : Int))) && decide ((Int.tmod (x15.toBitVec.toNat : Int) ((y4).length : Int)) < ((y5).length : Int))) then (((y5)[((Int.tmod (x15.toBitVec.toNat : Int) ((y4).length : Int))).toNat]?).bind fun x34 => (let v35 : List (Bool) := (List.set y5 ((Int.tmod (x15.toBitVec.toNat : Int) ((y4).length : Int))).toNat true)
 (some (Sum.inl (y0, y1, y2, (r20.2.1, ()), y4, v35, (IntKind.wrap .i64 (y6 + (1 : Int))), ())))))
 else none)
 else (bif (decide ((0 : Int) ≤ (Int.tmod (x15.toBitVec.toNat : Int) ((y4).length : Int))) && decide ((Int.tmod (x15.toBitVec.toNat : Int) ((y4).length : Int)) < ((y5).length : Int))) then (((y5)[((Int.tmod (x15.toBitVec.toNat : Int) ((y4).length : Int))).toNat]?).bind fun x36 => (let v37 : List (Bool) := (List.set y5 ((Int.tmod (x15.toBitVec.toNat : Int) ((y4).length : Int))).toNat (decide ((y2.toBitVec.toNat : Int) ≤ (60 : Int))))
 (some (Sum.inl (y0, y1, y2, (r20.2.1, ()), y4, v37, (IntKind.wrap .i64 (y6 + (1 : Int))), ())))))
 else none)))
 else none)))
 else (bif (!((decide (r20.2.2.2.1 = (0 : Int))) == false)) then (some (Sum.inr (Sum.inl (false, ()))))
 else (bif (decide (r20.2.2.2.1 = (0 : Int))) then (bif (!decide (r20.2.2.1.number = (Int.tmod (x15.toBitVec.toNat : Int) ((y4).length : Int)))) then (some (Sum.inr (Sum.inl (false, ()))))
 else ((getI y0 (Int.tmod (x15.toBitVec.toNat : Int) ((y4).length : Int))).bind fun x38 => ((passkeycast_Name (Int.tmod (x38.toBitVec.toNat : Int) (3 : Int))).bind fun r39 => (bif (!decide (r20.2.2.1.account = r39.2.1)) then (some (Sum.inr (Sum.inl (false, ()))))
 else ((getI y0 (Int.tmod (x15.toBitVec.toNat : Int) ((y4).length : Int))).bind fun x40 => (let v41 : Bool := (!(r20.2.2.1.bound == (decide ((UInt8.ofBitVec (x40.toBitVec &&& (8 : UInt8).toBitVec)).toBitVec = (8 : UInt8).toBitVec))))
 (bif v41 then (some (Sum.inr (Sum.inl (false, ()))))
 else (bif (decide ((0 : Int) ≤ (Int.tmod (x15.toBitVec.toNat : Int) ((y4).length : Int))) && decide ((Int.tmod (x15.toBitVec.toNat : Int) ((y4).length : Int)) < ((y5).length : Int))) then (((y5)[((Int.tmod (x15.toBitVec.toNat : Int) ((y4).length : Int))).toNat]?).bind fun x42 => (bif x42 then (bif (decide ((0 : Int) ≤ (Int.tmod (x15.toBitVec.toNat : Int) ((y4).length : Int))) && decide ((Int.tmod (x15.toBitVec.toNat : Int) ((y4).length : Int)) < ((y5).length : Int))) then (((y5)[((Int.tmod (x15.toBitVec.toNat : Int) ((y4).length : Int))).toNat]?).bind fun x43 => (let v44 : List (Bool) := (List.set y5 ((Int.tmod (x15.toBitVec.toNat : Int) ((y4).length : Int))).toNat true)
 (some (Sum.inl (y0, y1, y2, (r20.2.1, ()), y4, v44, (IntKind.wrap .i64 (y6 + (1 : Int))), ())))))
 else none)
 else (bif (decide ((0 : Int) ≤ (Int.tmod (x15.toBitVec.toNat : Int) ((y4).length : Int))) && decide ((Int.tmod (x15.toBitVec.toNat : Int) ((y4).length : Int)) < ((y5).length : Int))) then (((y5)[((Int.tmod (x15.toBitVec.toNat : Int) ((y4).length : Int))).toNat]?).bind fun x45 => (let v46 : List (Bool) := (List.set y5 ((Int.tmod (x15.toBitVec.toNat : Int) ((y4).length : Int))).toNat false)
 (some (Sum.inl (y0, y1, y2, (r20.2.1, ()), y4, v46, (IntKind.wrap .i64 (y6 + (1 : Int))), ())))))
 else none)))
 else none))))))))
 else (bif (decide ((0 : Int) ≤ (Int.tmod (x15.toBitVec.toNat : Int) ((y4).length : Int))) && decide ((Int.tmod (x15.toBitVec.toNat : Int) ((y4).length : Int)) < ((y5).length : Int))) then (((y5)[((Int.tmod (x15.toBitVec.toNat : Int) ((y4).length : Int))).toNat]?).bind fun x47 => (bif x47 then (bif (decide ((0 : Int) ≤ (Int.tmod (x15.toBitVec.toNat : Int) ((y4).length : Int))) && decide ((Int.tmod (x15.toBitVec.toNat : Int) ((y4).length : Int)) < ((y5).length : Int))) then (((y5)[((Int.tmod (x15.toBitVec.toNat : Int) ((y4).length : Int))).toNat]?).bind fun x48 => (let v49 : List (Bool) := (List.set y5 ((Int.tmod (x15.toBitVec.toNat : Int) ((y4).length : Int))).toNat true)
 (some (Sum.inl (y0, y1, y2, (r20.2.1, ()), y4, v49, (IntKind.wrap .i64 (y6 + (1 : Int))), ())))))
 else none)
 else (bif (decide ((0 : Int) ≤ (Int.tmod (x15.toBitVec.toNat : Int) ((y4).length : Int))) && decide ((Int.tmod (x15.toBitVec.toNat : Int) ((y4).length : Int)) < ((y5).length : Int))) then (((y5)[((Int.tmod (x15.toBitVec.toNat : Int) ((y4).length : Int))).toNat]?).bind fun x50 => (let v51 : List (Bool) := (List.set y5 ((Int.tmod (x15.toBitVec.toNat : Int) ((y4).length : Int))).toNat false)
 (some (Sum.inl (y0, y1, y2, (r20.2.1, ()), y4, v51, (IntKind.wrap .i64 (y6 + (1 : Int))), ())))))
 else none)))
 else none))))))
 else (bif (!((decide (r20.2.2.2.1 = (0 : Int))) == false)) then (some (Sum.inr (Sum.inl (false, ()))))
 else (bif (decide (r20.2.2.2.1 = (0 : Int))) then (bif (!decide (r20.2.2.1.number = (Int.tmod (x15.toBitVec.toNat : Int) ((y4).length : Int)))) then (some (Sum.inr (Sum.inl (false, ()))))
 else ((getI y0 (Int.tmod (x15.toBitVec.toNat : Int) ((y4).length : Int))).bind fun x52 => ((passkeycast_Name (Int.tmod (x52.toBitVec.toNat : Int) (3 : Int))).bind fun r53 => (bif (!decide (r20.2.2.1.account = r53.2.1)) then (some (Sum.inr (Sum.inl (false, ()))))
 else ((getI y0 (Int.tmod (x15.toBitVec.toNat : Int) ((y4).length : Int))).bind fun x54 => (let v55 : Bool := (!(r20.2.2.1.bound == (decide ((UInt8.ofBitVec (x54.toBitVec &&& (8 : UInt8).toBitVec)).toBitVec = (8 : UInt8).toBitVec))))
 (bif v55 then (some (Sum.inr (Sum.inl (false, ()))))
 else (bif (decide ((0 : Int) ≤ (Int.tmod (x15.toBitVec.toNat : Int) ((y4).length : Int))) && decide ((Int.tmod (x15.toBitVec.toNat : Int) ((y4).length : Int)) < ((y5).length : Int))) then (((y5)[((Int.tmod (x15.toBitVec.toNat : Int) ((y4).length : Int))).toNat]?).bind fun x56 => (bif x56 then (bif (decide ((0 : Int) ≤ (Int.tmod (x15.toBitVec.toNat : Int) ((y4).length : Int))) && decide ((Int.tmod (x15.toBitVec.toNat : Int) ((y4).length : Int)) < ((y5).length : Int))) then (((y5)[((Int.tmod (x15.toBitVec.toNat : Int) ((y4).length : Int))).toNat]?).bind fun x57 => (let v58 : List (Bool) := (List.set y5 ((Int.tmod (x15.toBitVec.toNat : Int) ((y4).length : Int))).toNat true)
 (some (Sum.inl (y0, y1, y2, (r20.2.1, ()), y4, v58, (IntKind.wrap .i64 (y6 + (1 : Int))), ())))))
 else none)
 else (bif (decide ((0 : Int) ≤ (Int.tmod (x15.toBitVec.toNat : Int) ((y4).length : Int))) && decide ((Int.tmod (x15.toBitVec.toNat : Int) ((y4).length : Int)) < ((y5).length : Int))) then (((y5)[((Int.tmod (x15.toBitVec.toNat : Int) ((y4).length : Int))).toNat]?).bind fun x59 => (let v60 : List (Bool) := (List.set y5 ((Int.tmod (x15.toBitVec.toNat : Int) ((y4).length : Int))).toNat false)
 (some (Sum.inl (y0, y1, y2, (r20.2.1, ()), y4, v60, (IntKind.wrap .i64 (y6 + (1 : Int))), ())))))
 else none)))
 else none))))))))
 else (bif (decide ((0 : Int) ≤ (Int.tmod (x15.toBitVec.toNat : Int) ((y4).length : Int))) && decide ((Int.tmod (x15.toBitVec.toNat : Int) ((y4).length : Int)) < ((y5).length : Int))) then (((y5)[((Int.tmod (x15.toBitVec.toNat : Int) ((y4).length : Int))).toNat]?).bind fun x61 => (bif x61 then (bif (decide ((0 : Int) ≤ (Int.tmod (x15.toBitVec.toNat : Int) ((y4).length : Int))) && decide ((Int.tmod (x15.toBitVec.toNat : Int) ((y4).length : Int)) < ((y5).length : Int))) then (((y5)[((Int.tmod (x15.toBitVec.toNat : Int) ((y4).length : Int))).toNat]?).bind fun x62 => (let v63 : List (Bool) := (List.set y5 ((Int.tmod (x15.toBitVec.toNat : Int) ((y4).length : Int))).toNat true)
 (some (Sum.inl (y0, y1, y2, (r20.2.1, ()), y4, v63, (IntKind.wrap .i64 (y6 + (1 : Int))), ())))))
 else none)
 else (bif (decide ((0 : Int) ≤ (Int.tmod (x15.toBitVec.toNat : Int) ((y4).length : Int))) && decide ((Int.tmod (x15.toBitVec.toNat : Int) ((y4).length : Int)) < ((y5).length : Int))) then (((y5)[((Int.tmod (x15.toBitVec.toNat : Int) ((y4).length : Int))).toNat]?).bind fun x64 => (let v65 : List (Bool) := (List.set y5 ((Int.tmod (x15.toBitVec.toNat : Int) ((y4).length : Int))).toNat false)
 (some (Sum.inl (y0, y1, y2, (r20.2.1, ()), y4, v65, (IntKind.wrap .i64 (y6 + (1 : Int))), ())))))
 else none)))
 else none)))))
 else none))))
 else none)))))
 else (some (Sum.inr (Sum.inr ()))))
 else (some (Sum.inr (Sum.inr ()))))
 else (some (Sum.inr (Sum.inr ()))))

def passkeylaw29_ChallengeOnce_L6 (y : ((List (UInt8)) × (List (UInt8)) × UInt8 × (ApiChallenges × Unit) × (List (List UInt8)) × (List (Bool)) × Int × Unit)) : Option ((Bool × Unit) ⊕ (Unit)) := iter (fun (y : ((List (UInt8)) × (List (UInt8)) × UInt8 × (ApiChallenges × Unit) × (List (List UInt8)) × (List (Bool)) × Int × Unit)) => passkeylaw29_ChallengeOnce_L6b y.1 y.2.1 y.2.2.1 y.2.2.2.1 y.2.2.2.2.1 y.2.2.2.2.2.1 y.2.2.2.2.2.2.1) rounds y

def passkeylaw29_ChallengeOnce (a0 : (BitVec 64)) (a1 : (List (UInt8))) (a2 : (List (UInt8))) (a3 : UInt8) : Option ((Unit) × (Bool × Unit)) :=
 ((challenge_New a0).bind fun r1 => ((passkeylaw29_ChallengeOnce_L0 (a1, a2, a3, (r1.2.1, ()), [], (0 : Int), ())).bind (Sum.elim (fun (z8 : (Bool × Unit)) => (some ((), (z8.1, ())))) (fun (z9 : ((List (UInt8)) × (List (UInt8)) × UInt8 × (ApiChallenges × Unit) × (List (List UInt8)) × Unit)) => ((passkeylaw29_ChallengeOnce_L2 (z9.1, z9.2.1, z9.2.2.1, (z9.2.2.2.1.1, ()), z9.2.2.2.2.1, (0 : Int), ())).bind (Sum.elim (fun (z12 : (Bool × Unit)) => (some ((), (z12.1, ())))) (fun (z13 : ((List (UInt8)) × (List (UInt8)) × UInt8 × (ApiChallenges × Unit) × (List (List UInt8)) × Unit)) => (bif (decide ((0 : Int) ≤ ((z13.2.2.2.2.1).length : Int)) && (decide (((z13.2.2.2.2.1).length : Int) ≤ ((z13.2.2.2.2.1).length : Int)) && decide ((1 : Int) * ((z13.2.2.2.2.1).length : Int) ≤ 281474976710656 ∧ ((z13.2.2.2.2.1).length : Int) ≤ 9223372036854775807))) then (let v14 : List (Bool) := (List.replicate (((z13.2.2.2.2.1).length : Int)).toNat false)
 ((passkeylaw29_ChallengeOnce_L6 (z13.1, z13.2.1, z13.2.2.1, (z13.2.2.2.1.1, ()), z13.2.2.2.2.1, v14, (0 : Int), ())).bind (Sum.elim (fun (z66 : (Bool × Unit)) => (some ((), (z66.1, ())))) (fun (z67 : (Unit)) => ((passkeylaw29_awake).bind fun r68 => (some ((), (r68.2.1, ()))))))))
 else none))))))))

def S_passkeylaw29_ChallengeOnce : FSpec T := ⟨[.f (.v .u64), .f (.v (.rs 0)), .f (.v (.rs 0)), .f (.v .u8)], [(.v .bool)], fun x => passkeylaw29_ChallengeOnce x.1 x.2.1 x.2.2.1 x.2.2.2.1⟩

def E_passkeylaw29_ChallengeOnce : Env T := ⟨tab.find, cd, globs, flc, fun f ds => match f with
    | 7 => some S_passkeylaw29_awake
    | 9 => some S_challenge_New
    | 13 => some S_passkeycast_Name
    | 14 => some S_challenge_Issue
    | 16 => some S_challenge_Use
    | _ => none, fun f => match f with
    | 7 => true
    | 13 => true
    | _ => false⟩

def A_passkeylaw29_ChallengeOnce : Loc2 T := ⟨fun id => match id with
    | 0 => some ⟨[(1, .f (.v (.rs 0))), (2, .f (.v (.rs 0))), (3, .f (.v .u8)), (9, .ptr [(.v (.agg 3))]), (10, .f (.own 7)), (11, .f (.v (.int .i64)))], [(.ret, [(8, .f (.v .bool))]), (.exit 0, [(1, .f (.v (.rs 0))), (2, .f (.v (.rs 0))), (3, .f (.v .u8)), (9, .ptr [(.v (.agg 3))]), (10, .f (.own 7))])], passkeylaw29_ChallengeOnce_L0, []⟩
    | 4 => some ⟨[(1, .f (.v (.rs 0))), (2, .f (.v (.rs 0))), (3, .f (.v .u8)), (9, .ptr [(.v (.agg 3))]), (10, .f (.own 7)), (15, .f (.v (.int .i64))), (16, .f (.v (.int .i64)))], [(.ret, [(8, .f (.v .bool))]), (.exit 4, [(1, .f (.v (.rs 0))), (2, .f (.v (.rs 0))), (3, .f (.v .u8)), (9, .ptr [(.v (.agg 3))]), (10, .f (.own 7)), (15, .f (.v (.int .i64)))])], passkeylaw29_ChallengeOnce_L4, []⟩
    | 2 => some ⟨[(1, .f (.v (.rs 0))), (2, .f (.v (.rs 0))), (3, .f (.v .u8)), (9, .ptr [(.v (.agg 3))]), (10, .f (.own 7)), (15, .f (.v (.int .i64)))], [(.ret, [(8, .f (.v .bool))]), (.exit 2, [(1, .f (.v (.rs 0))), (2, .f (.v (.rs 0))), (3, .f (.v .u8)), (9, .ptr [(.v (.agg 3))]), (10, .f (.own 7))])], passkeylaw29_ChallengeOnce_L2, []⟩
    | 6 => some ⟨[(1, .f (.v (.rs 0))), (2, .f (.v (.rs 0))), (3, .f (.v .u8)), (9, .ptr [(.v (.agg 3))]), (10, .f (.own 7)), (17, .f (.own 10)), (18, .f (.v (.int .i64)))], [(.ret, [(8, .f (.v .bool))]), (.exit 6, [])], passkeylaw29_ChallengeOnce_L6, []⟩
    | _ => none, fun r => match r with
    | _ => none, fun r => match r with
    | 6 => true
    | 9 => true
    | 24 => true
    | _ => false⟩

theorem passkeylaw29_ChallengeOnce_L0_eq (y0 : (List (UInt8))) (y1 : (List (UInt8))) (y2 : UInt8) (y3 : (ApiChallenges × Unit)) (y4 : (List (List UInt8))) (y5 : Int) : run E_passkeylaw29_ChallengeOnce A_passkeylaw29_ChallengeOnce (loopAt 0 (Try.f5.body.getD .skip)) (layC cd [(1, .f (.v (.rs 0))), (2, .f (.v (.rs 0))), (3, .f (.v .u8)), (9, .ptr [(.v (.agg 3))]), (10, .f (.own 7)), (11, .f (.v (.int .i64)))] [] (y0, y1, y2, y3, y4, y5, ())) (roundK cd [(1, .f (.v (.rs 0))), (2, .f (.v (.rs 0))), (3, .f (.v .u8)), (9, .ptr [(.v (.agg 3))]), (10, .f (.own 7)), (11, .f (.v (.int .i64)))] [] [(.ret, [(8, .f (.v .bool))]), (.exit 0, [(1, .f (.v (.rs 0))), (2, .f (.v (.rs 0))), (3, .f (.v .u8)), (9, .ptr [(.v (.agg 3))]), (10, .f (.own 7))])]) = passkeylaw29_ChallengeOnce_L0b y0 y1 y2 y3 y4 y5 := by kernel_rfl

theorem passkeylaw29_ChallengeOnce_L4_eq (y0 : (List (UInt8))) (y1 : (List (UInt8))) (y2 : UInt8) (y3 : (ApiChallenges × Unit)) (y4 : (List (List UInt8))) (y5 : Int) (y6 : Int) : run E_passkeylaw29_ChallengeOnce A_passkeylaw29_ChallengeOnce (loopAt 4 (Try.f5.body.getD .skip)) (layC cd [(1, .f (.v (.rs 0))), (2, .f (.v (.rs 0))), (3, .f (.v .u8)), (9, .ptr [(.v (.agg 3))]), (10, .f (.own 7)), (15, .f (.v (.int .i64))), (16, .f (.v (.int .i64)))] [] (y0, y1, y2, y3, y4, y5, y6, ())) (roundK cd [(1, .f (.v (.rs 0))), (2, .f (.v (.rs 0))), (3, .f (.v .u8)), (9, .ptr [(.v (.agg 3))]), (10, .f (.own 7)), (15, .f (.v (.int .i64))), (16, .f (.v (.int .i64)))] [] [(.ret, [(8, .f (.v .bool))]), (.exit 4, [(1, .f (.v (.rs 0))), (2, .f (.v (.rs 0))), (3, .f (.v .u8)), (9, .ptr [(.v (.agg 3))]), (10, .f (.own 7)), (15, .f (.v (.int .i64)))])]) = passkeylaw29_ChallengeOnce_L4b y0 y1 y2 y3 y4 y5 y6 := by kernel_rfl

theorem passkeylaw29_ChallengeOnce_L2_eq (y0 : (List (UInt8))) (y1 : (List (UInt8))) (y2 : UInt8) (y3 : (ApiChallenges × Unit)) (y4 : (List (List UInt8))) (y5 : Int) : run E_passkeylaw29_ChallengeOnce A_passkeylaw29_ChallengeOnce (loopAt 2 (Try.f5.body.getD .skip)) (layC cd [(1, .f (.v (.rs 0))), (2, .f (.v (.rs 0))), (3, .f (.v .u8)), (9, .ptr [(.v (.agg 3))]), (10, .f (.own 7)), (15, .f (.v (.int .i64)))] [] (y0, y1, y2, y3, y4, y5, ())) (roundK cd [(1, .f (.v (.rs 0))), (2, .f (.v (.rs 0))), (3, .f (.v .u8)), (9, .ptr [(.v (.agg 3))]), (10, .f (.own 7)), (15, .f (.v (.int .i64)))] [] [(.ret, [(8, .f (.v .bool))]), (.exit 2, [(1, .f (.v (.rs 0))), (2, .f (.v (.rs 0))), (3, .f (.v .u8)), (9, .ptr [(.v (.agg 3))]), (10, .f (.own 7))])]) = passkeylaw29_ChallengeOnce_L2b y0 y1 y2 y3 y4 y5 := by kernel_rfl

theorem passkeylaw29_ChallengeOnce_L6_eq (y0 : (List (UInt8))) (y1 : (List (UInt8))) (y2 : UInt8) (y3 : (ApiChallenges × Unit)) (y4 : (List (List UInt8))) (y5 : (List (Bool))) (y6 : Int) : run E_passkeylaw29_ChallengeOnce A_passkeylaw29_ChallengeOnce (loopAt 6 (Try.f5.body.getD .skip)) (layC cd [(1, .f (.v (.rs 0))), (2, .f (.v (.rs 0))), (3, .f (.v .u8)), (9, .ptr [(.v (.agg 3))]), (10, .f (.own 7)), (17, .f (.own 10)), (18, .f (.v (.int .i64)))] [] (y0, y1, y2, y3, y4, y5, y6, ())) (roundK cd [(1, .f (.v (.rs 0))), (2, .f (.v (.rs 0))), (3, .f (.v .u8)), (9, .ptr [(.v (.agg 3))]), (10, .f (.own 7)), (17, .f (.own 10)), (18, .f (.v (.int .i64)))] [] [(.ret, [(8, .f (.v .bool))]), (.exit 6, [])]) = passkeylaw29_ChallengeOnce_L6b y0 y1 y2 y3 y4 y5 y6 := by kernel_rfl

theorem passkeylaw29_ChallengeOnce_eq (x : tySs T S_passkeylaw29_ChallengeOnce.ps) : run E_passkeylaw29_ChallengeOnce A_passkeylaw29_ChallengeOnce (Try.f5.body.getD .skip) (enterT E_passkeylaw29_ChallengeOnce.C S_passkeylaw29_ChallengeOnce.ps x) (retK E_passkeylaw29_ChallengeOnce Try.f5.results.toList S_passkeylaw29_ChallengeOnce.ps S_passkeylaw29_ChallengeOnce.rs) = S_passkeylaw29_ChallengeOnce.fn x := by kernel_rfl

theorem passkeylaw29_ChallengeOnce_env : EnvOk Try.prog E_passkeylaw29_ChallengeOnce := envOk (E := E_passkeylaw29_ChallengeOnce) cd_ok tys fl_ok fun f ds S h => by
    dsimp only [E_passkeylaw29_ChallengeOnce] at h
    split at h
    · cases h; exact passkeylaw29_awake_ok
    · cases h; exact challenge_New_ok
    · cases h; exact passkeycast_Name_ok
    · cases h; exact challenge_Issue_ok
    · cases h; exact challenge_Use_ok
    · cases h

theorem passkeylaw29_ChallengeOnce_L0_ok : LoopOk Try.prog E_passkeylaw29_ChallengeOnce Try.f5.ntmps (kqOf S_passkeylaw29_ChallengeOnce.ps 0) (loopAt 0 (Try.f5.body.getD .skip)) ⟨[(1, .f (.v (.rs 0))), (2, .f (.v (.rs 0))), (3, .f (.v .u8)), (9, .ptr [(.v (.agg 3))]), (10, .f (.own 7)), (11, .f (.v (.int .i64)))], [(.ret, [(8, .f (.v .bool))]), (.exit 0, [(1, .f (.v (.rs 0))), (2, .f (.v (.rs 0))), (3, .f (.v .u8)), (9, .ptr [(.v (.agg 3))]), (10, .f (.own 7))])], passkeylaw29_ChallengeOnce_L0, []⟩ :=
  loop_ok (A := A_passkeylaw29_ChallengeOnce) (done := []) (c0 := (Try.f5.body.getD .skip)) hmix passkeylaw29_ChallengeOnce_env done_nil rounds (by kernel_rfl) (by kernel_rfl) (fun x => passkeylaw29_ChallengeOnce_L0_eq x.1 x.2.1 x.2.2.1 x.2.2.2.1 x.2.2.2.2.1 x.2.2.2.2.2.1) (fun _ => rfl)

theorem passkeylaw29_ChallengeOnce_L4_ok : LoopOk Try.prog E_passkeylaw29_ChallengeOnce Try.f5.ntmps (kqOf S_passkeylaw29_ChallengeOnce.ps 0) (loopAt 4 (Try.f5.body.getD .skip)) ⟨[(1, .f (.v (.rs 0))), (2, .f (.v (.rs 0))), (3, .f (.v .u8)), (9, .ptr [(.v (.agg 3))]), (10, .f (.own 7)), (15, .f (.v (.int .i64))), (16, .f (.v (.int .i64)))], [(.ret, [(8, .f (.v .bool))]), (.exit 4, [(1, .f (.v (.rs 0))), (2, .f (.v (.rs 0))), (3, .f (.v .u8)), (9, .ptr [(.v (.agg 3))]), (10, .f (.own 7)), (15, .f (.v (.int .i64)))])], passkeylaw29_ChallengeOnce_L4, []⟩ :=
  loop_ok (A := A_passkeylaw29_ChallengeOnce) (done := [0]) (c0 := (Try.f5.body.getD .skip)) hmix passkeylaw29_ChallengeOnce_env (done_cons rfl passkeylaw29_ChallengeOnce_L0_ok done_nil) rounds (by kernel_rfl) (by kernel_rfl) (fun x => passkeylaw29_ChallengeOnce_L4_eq x.1 x.2.1 x.2.2.1 x.2.2.2.1 x.2.2.2.2.1 x.2.2.2.2.2.1 x.2.2.2.2.2.2.1) (fun _ => rfl)

theorem passkeylaw29_ChallengeOnce_L2_ok : LoopOk Try.prog E_passkeylaw29_ChallengeOnce Try.f5.ntmps (kqOf S_passkeylaw29_ChallengeOnce.ps 0) (loopAt 2 (Try.f5.body.getD .skip)) ⟨[(1, .f (.v (.rs 0))), (2, .f (.v (.rs 0))), (3, .f (.v .u8)), (9, .ptr [(.v (.agg 3))]), (10, .f (.own 7)), (15, .f (.v (.int .i64)))], [(.ret, [(8, .f (.v .bool))]), (.exit 2, [(1, .f (.v (.rs 0))), (2, .f (.v (.rs 0))), (3, .f (.v .u8)), (9, .ptr [(.v (.agg 3))]), (10, .f (.own 7))])], passkeylaw29_ChallengeOnce_L2, []⟩ :=
  loop_ok (A := A_passkeylaw29_ChallengeOnce) (done := [0, 4]) (c0 := (Try.f5.body.getD .skip)) hmix passkeylaw29_ChallengeOnce_env (done_cons rfl passkeylaw29_ChallengeOnce_L0_ok (done_cons rfl passkeylaw29_ChallengeOnce_L4_ok done_nil)) rounds (by kernel_rfl) (by kernel_rfl) (fun x => passkeylaw29_ChallengeOnce_L2_eq x.1 x.2.1 x.2.2.1 x.2.2.2.1 x.2.2.2.2.1 x.2.2.2.2.2.1) (fun _ => rfl)

theorem passkeylaw29_ChallengeOnce_L6_ok : LoopOk Try.prog E_passkeylaw29_ChallengeOnce Try.f5.ntmps (kqOf S_passkeylaw29_ChallengeOnce.ps 0) (loopAt 6 (Try.f5.body.getD .skip)) ⟨[(1, .f (.v (.rs 0))), (2, .f (.v (.rs 0))), (3, .f (.v .u8)), (9, .ptr [(.v (.agg 3))]), (10, .f (.own 7)), (17, .f (.own 10)), (18, .f (.v (.int .i64)))], [(.ret, [(8, .f (.v .bool))]), (.exit 6, [])], passkeylaw29_ChallengeOnce_L6, []⟩ :=
  loop_ok (A := A_passkeylaw29_ChallengeOnce) (done := [0, 4, 2]) (c0 := (Try.f5.body.getD .skip)) hmix passkeylaw29_ChallengeOnce_env (done_cons rfl passkeylaw29_ChallengeOnce_L0_ok (done_cons rfl passkeylaw29_ChallengeOnce_L4_ok (done_cons rfl passkeylaw29_ChallengeOnce_L2_ok done_nil))) rounds (by kernel_rfl) (by kernel_rfl) (fun x => passkeylaw29_ChallengeOnce_L6_eq x.1 x.2.1 x.2.2.1 x.2.2.2.1 x.2.2.2.2.1 x.2.2.2.2.2.1 x.2.2.2.2.2.2.1) (fun _ => rfl)

theorem passkeylaw29_ChallengeOnce_ok : SoundT Try.prog cd gdn 5 S_passkeylaw29_ChallengeOnce :=
  sound_fn (E := E_passkeylaw29_ChallengeOnce) (A := A_passkeylaw29_ChallengeOnce) (done := [0, 4, 2, 6]) (c := (Try.f5.body.getD .skip)) (S := S_passkeylaw29_ChallengeOnce) (fn := Try.f5) hmix passkeylaw29_ChallengeOnce_env Try.func5 rfl (by kernel_rfl) (by kernel_rfl) (done_cons rfl passkeylaw29_ChallengeOnce_L0_ok (done_cons rfl passkeylaw29_ChallengeOnce_L4_ok (done_cons rfl passkeylaw29_ChallengeOnce_L2_ok (done_cons rfl passkeylaw29_ChallengeOnce_L6_ok done_nil)))) (by kernel_rfl) (by kernel_rfl) passkeylaw29_ChallengeOnce_eq

def passkeylaw29_ChallengeFull_L2b (y0 : UInt8) (y1 : (ApiChallenges × Unit)) (y2 : Int) (y3 : Int) (y4 : Int) (y5 : (ApiChallenges × Unit)) (y6 : Int) (y7 : Int) (y8 : Int) : Option ((UInt8 × (ApiChallenges × Unit) × Int × Int × Int × (ApiChallenges × Unit) × Int × Int × Int × Unit) ⊕ (UInt8 × (ApiChallenges × Unit) × Int × Int × (ApiChallenges × Unit) × Int × Int × Unit)) :=
 (bif (decide (y8 < ((y1.1.open_).length : Int))) then ((getI y1.1.open_ y8).bind fun x5 => (bif (decide ((IntKind.wrap .i64 (y4 - x5.since)) ≤ (60 : Int))) then (some (Sum.inl (y0, (y1.1, ()), y2, y3, y4, (y5.1, ()), y6, (IntKind.wrap .i64 (y7 + (1 : Int))), (IntKind.wrap .i64 (y8 + (1 : Int))), ())))
 else (some (Sum.inl (y0, (y1.1, ()), y2, y3, y4, (y5.1, ()), y6, y7, (IntKind.wrap .i64 (y8 + (1 : Int))), ())))))
 else (some (Sum.inr (y0, (y1.1, ()), y2, y3, (y5.1, ()), y6, y7, ()))))

def passkeylaw29_ChallengeFull_L2 (y : (UInt8 × (ApiChallenges × Unit) × Int × Int × Int × (ApiChallenges × Unit) × Int × Int × Int × Unit)) : Option (UInt8 × (ApiChallenges × Unit) × Int × Int × (ApiChallenges × Unit) × Int × Int × Unit) := iter (fun (y : (UInt8 × (ApiChallenges × Unit) × Int × Int × Int × (ApiChallenges × Unit) × Int × Int × Int × Unit)) => passkeylaw29_ChallengeFull_L2b y.1 y.2.1 y.2.2.1 y.2.2.2.1 y.2.2.2.2.1 y.2.2.2.2.2.1 y.2.2.2.2.2.2.1 y.2.2.2.2.2.2.2.1 y.2.2.2.2.2.2.2.2.1) rounds y

def passkeylaw29_ChallengeFull_L0b (y0 : UInt8) (y1 : (ApiChallenges × Unit)) (y2 : Int) (y3 : Int) : Option ((UInt8 × (ApiChallenges × Unit) × Int × Int × Unit) ⊕ ((Bool × Unit) ⊕ (Unit))) :=
 (bif decide ((40 : UInt8).toBitVec = 0) then none
 else (let v3 : Int := ((UInt8.ofBitVec (y0.toBitVec % (40 : UInt8).toBitVec)).toBitVec.toNat : Int)
 (bif (decide (y3 < (IntKind.wrap .i64 ((40 : Int) + v3)))) then ((challenge_Issue y1.1 (2 : Int) ([] : List UInt8) false (IntKind.wrap .i64 (y3 * y2))).bind fun r4 => ((passkeylaw29_ChallengeFull_L2 (y0, (y1.1, ()), y2, y3, (IntKind.wrap .i64 (y3 * y2)), (r4.2.1, ()), r4.2.2.2.1, (0 : Int), (0 : Int), ())).bind (fun (z5 : (UInt8 × (ApiChallenges × Unit) × Int × Int × (ApiChallenges × Unit) × Int × Int × Unit)) => (bif (!((decide (z5.2.2.2.2.2.1 = (0 : Int))) == (decide (z5.2.2.2.2.2.2.1 < (32 : Int))))) then (some (Sum.inr (Sum.inl (false, ()))))
 else (bif (!decide (z5.2.2.2.2.2.1 = (0 : Int))) then (bif (!decide (z5.2.2.2.2.2.1 = (12 : Int))) then (some (Sum.inr (Sum.inl (false, ()))))
 else (bif (decide ((32 : Int) < ((z5.2.2.2.2.1.1.open_).length : Int))) then (some (Sum.inr (Sum.inl (false, ()))))
 else (some (Sum.inl (z5.1, (z5.2.2.2.2.1.1, ()), z5.2.2.1, (IntKind.wrap .i64 (z5.2.2.2.1 + (1 : Int))), ())))))
 else (bif (decide ((32 : Int) < ((z5.2.2.2.2.1.1.open_).length : Int))) then (some (Sum.inr (Sum.inl (false, ()))))
 else (some (Sum.inl (z5.1, (z5.2.2.2.2.1.1, ()), z5.2.2.1, (IntKind.wrap .i64 (z5.2.2.2.1 + (1 : Int))), ())))))))))
 else (some (Sum.inr (Sum.inr ()))))))

def passkeylaw29_ChallengeFull_L0 (y : (UInt8 × (ApiChallenges × Unit) × Int × Int × Unit)) : Option ((Bool × Unit) ⊕ (Unit)) := iter (fun (y : (UInt8 × (ApiChallenges × Unit) × Int × Int × Unit)) => passkeylaw29_ChallengeFull_L0b y.1 y.2.1 y.2.2.1 y.2.2.2.1) rounds y

def passkeylaw29_ChallengeFull (a0 : (BitVec 64)) (a1 : UInt8) (a2 : UInt8) : Option ((Unit) × (Bool × Unit)) :=
 ((challenge_New a0).bind fun r1 => (bif decide ((5 : UInt8).toBitVec = 0) then none
 else (let v2 : Int := ((UInt8.ofBitVec (a1.toBitVec % (5 : UInt8).toBitVec)).toBitVec.toNat : Int)
 ((passkeylaw29_ChallengeFull_L0 (a2, (r1.2.1, ()), (IntKind.wrap .i64 ((1 : Int) + v2)), (0 : Int), ())).bind (Sum.elim (fun (z6 : (Bool × Unit)) => (some ((), (z6.1, ())))) (fun (z7 : (Unit)) => ((passkeylaw29_awake).bind fun r8 => (some ((), (r8.2.1, ()))))))))))

def S_passkeylaw29_ChallengeFull : FSpec T := ⟨[.f (.v .u64), .f (.v .u8), .f (.v .u8)], [(.v .bool)], fun x => passkeylaw29_ChallengeFull x.1 x.2.1 x.2.2.1⟩

def E_passkeylaw29_ChallengeFull : Env T := ⟨tab.find, cd, globs, flc, fun f ds => match f with
    | 7 => some S_passkeylaw29_awake
    | 9 => some S_challenge_New
    | 14 => some S_challenge_Issue
    | _ => none, fun f => match f with
    | 7 => true
    | _ => false⟩

def A_passkeylaw29_ChallengeFull : Loc2 T := ⟨fun id => match id with
    | 2 => some ⟨[(2, .f (.v .u8)), (7, .ptr [(.v (.agg 3))]), (8, .f (.v (.int .i64))), (9, .f (.v (.int .i64))), (10, .f (.v (.int .i64))), (11, .ptr [(.v (.agg 3))]), (13, .f (.v (.int .i64))), (14, .f (.v (.int .i64))), (15, .f (.v (.int .i64)))], [(.exit 2, [(2, .f (.v .u8)), (7, .ptr [(.v (.agg 3))]), (8, .f (.v (.int .i64))), (9, .f (.v (.int .i64))), (11, .ptr [(.v (.agg 3))]), (13, .f (.v (.int .i64))), (14, .f (.v (.int .i64)))])], passkeylaw29_ChallengeFull_L2, []⟩
    | 0 => some ⟨[(2, .f (.v .u8)), (7, .ptr [(.v (.agg 3))]), (8, .f (.v (.int .i64))), (9, .f (.v (.int .i64)))], [(.ret, [(6, .f (.v .bool))]), (.exit 0, [])], passkeylaw29_ChallengeFull_L0, []⟩
    | _ => none, fun r => match r with
    | _ => none, fun r => match r with
    | _ => false⟩

theorem passkeylaw29_ChallengeFull_L2_eq (y0 : UInt8) (y1 : (ApiChallenges × Unit)) (y2 : Int) (y3 : Int) (y4 : Int) (y5 : (ApiChallenges × Unit)) (y6 : Int) (y7 : Int) (y8 : Int) : run E_passkeylaw29_ChallengeFull A_passkeylaw29_ChallengeFull (loopAt 2 (Try.f6.body.getD .skip)) (layC cd [(2, .f (.v .u8)), (7, .ptr [(.v (.agg 3))]), (8, .f (.v (.int .i64))), (9, .f (.v (.int .i64))), (10, .f (.v (.int .i64))), (11, .ptr [(.v (.agg 3))]), (13, .f (.v (.int .i64))), (14, .f (.v (.int .i64))), (15, .f (.v (.int .i64)))] [] (y0, y1, y2, y3, y4, y5, y6, y7, y8, ())) (roundK cd [(2, .f (.v .u8)), (7, .ptr [(.v (.agg 3))]), (8, .f (.v (.int .i64))), (9, .f (.v (.int .i64))), (10, .f (.v (.int .i64))), (11, .ptr [(.v (.agg 3))]), (13, .f (.v (.int .i64))), (14, .f (.v (.int .i64))), (15, .f (.v (.int .i64)))] [] [(.exit 2, [(2, .f (.v .u8)), (7, .ptr [(.v (.agg 3))]), (8, .f (.v (.int .i64))), (9, .f (.v (.int .i64))), (11, .ptr [(.v (.agg 3))]), (13, .f (.v (.int .i64))), (14, .f (.v (.int .i64)))])]) = passkeylaw29_ChallengeFull_L2b y0 y1 y2 y3 y4 y5 y6 y7 y8 := by kernel_rfl

theorem passkeylaw29_ChallengeFull_L0_eq (y0 : UInt8) (y1 : (ApiChallenges × Unit)) (y2 : Int) (y3 : Int) : run E_passkeylaw29_ChallengeFull A_passkeylaw29_ChallengeFull (loopAt 0 (Try.f6.body.getD .skip)) (layC cd [(2, .f (.v .u8)), (7, .ptr [(.v (.agg 3))]), (8, .f (.v (.int .i64))), (9, .f (.v (.int .i64)))] [] (y0, y1, y2, y3, ())) (roundK cd [(2, .f (.v .u8)), (7, .ptr [(.v (.agg 3))]), (8, .f (.v (.int .i64))), (9, .f (.v (.int .i64)))] [] [(.ret, [(6, .f (.v .bool))]), (.exit 0, [])]) = passkeylaw29_ChallengeFull_L0b y0 y1 y2 y3 := by kernel_rfl

theorem passkeylaw29_ChallengeFull_eq (x : tySs T S_passkeylaw29_ChallengeFull.ps) : run E_passkeylaw29_ChallengeFull A_passkeylaw29_ChallengeFull (Try.f6.body.getD .skip) (enterT E_passkeylaw29_ChallengeFull.C S_passkeylaw29_ChallengeFull.ps x) (retK E_passkeylaw29_ChallengeFull Try.f6.results.toList S_passkeylaw29_ChallengeFull.ps S_passkeylaw29_ChallengeFull.rs) = S_passkeylaw29_ChallengeFull.fn x := by kernel_rfl

theorem passkeylaw29_ChallengeFull_env : EnvOk Try.prog E_passkeylaw29_ChallengeFull := envOk (E := E_passkeylaw29_ChallengeFull) cd_ok tys fl_ok fun f ds S h => by
    dsimp only [E_passkeylaw29_ChallengeFull] at h
    split at h
    · cases h; exact passkeylaw29_awake_ok
    · cases h; exact challenge_New_ok
    · cases h; exact challenge_Issue_ok
    · cases h

theorem passkeylaw29_ChallengeFull_L2_ok : LoopOk Try.prog E_passkeylaw29_ChallengeFull Try.f6.ntmps (kqOf S_passkeylaw29_ChallengeFull.ps 0) (loopAt 2 (Try.f6.body.getD .skip)) ⟨[(2, .f (.v .u8)), (7, .ptr [(.v (.agg 3))]), (8, .f (.v (.int .i64))), (9, .f (.v (.int .i64))), (10, .f (.v (.int .i64))), (11, .ptr [(.v (.agg 3))]), (13, .f (.v (.int .i64))), (14, .f (.v (.int .i64))), (15, .f (.v (.int .i64)))], [(.exit 2, [(2, .f (.v .u8)), (7, .ptr [(.v (.agg 3))]), (8, .f (.v (.int .i64))), (9, .f (.v (.int .i64))), (11, .ptr [(.v (.agg 3))]), (13, .f (.v (.int .i64))), (14, .f (.v (.int .i64)))])], passkeylaw29_ChallengeFull_L2, []⟩ :=
  loop_ok (A := A_passkeylaw29_ChallengeFull) (done := []) (c0 := (Try.f6.body.getD .skip)) hmix passkeylaw29_ChallengeFull_env done_nil rounds (by kernel_rfl) (by kernel_rfl) (fun x => passkeylaw29_ChallengeFull_L2_eq x.1 x.2.1 x.2.2.1 x.2.2.2.1 x.2.2.2.2.1 x.2.2.2.2.2.1 x.2.2.2.2.2.2.1 x.2.2.2.2.2.2.2.1 x.2.2.2.2.2.2.2.2.1) (fun _ => rfl)

theorem passkeylaw29_ChallengeFull_L0_ok : LoopOk Try.prog E_passkeylaw29_ChallengeFull Try.f6.ntmps (kqOf S_passkeylaw29_ChallengeFull.ps 0) (loopAt 0 (Try.f6.body.getD .skip)) ⟨[(2, .f (.v .u8)), (7, .ptr [(.v (.agg 3))]), (8, .f (.v (.int .i64))), (9, .f (.v (.int .i64)))], [(.ret, [(6, .f (.v .bool))]), (.exit 0, [])], passkeylaw29_ChallengeFull_L0, []⟩ :=
  loop_ok (A := A_passkeylaw29_ChallengeFull) (done := [2]) (c0 := (Try.f6.body.getD .skip)) hmix passkeylaw29_ChallengeFull_env (done_cons rfl passkeylaw29_ChallengeFull_L2_ok done_nil) rounds (by kernel_rfl) (by kernel_rfl) (fun x => passkeylaw29_ChallengeFull_L0_eq x.1 x.2.1 x.2.2.1 x.2.2.2.1) (fun _ => rfl)

theorem passkeylaw29_ChallengeFull_ok : SoundT Try.prog cd gdn 6 S_passkeylaw29_ChallengeFull :=
  sound_fn (E := E_passkeylaw29_ChallengeFull) (A := A_passkeylaw29_ChallengeFull) (done := [2, 0]) (c := (Try.f6.body.getD .skip)) (S := S_passkeylaw29_ChallengeFull) (fn := Try.f6) hmix passkeylaw29_ChallengeFull_env Try.func6 rfl (by kernel_rfl) (by kernel_rfl) (done_cons rfl passkeylaw29_ChallengeFull_L2_ok (done_cons rfl passkeylaw29_ChallengeFull_L0_ok done_nil)) (by kernel_rfl) (by kernel_rfl) passkeylaw29_ChallengeFull_eq

def ChallengePlays_dom (a0 : (BitVec 64)) (a1 : (List (Int))) (a2 : (List (UInt8))) (a3 : (List UInt8)) (a4 : Int) : Prop := ArgD cd [.u64, (.rs 1), (.rs 0), .str, (.int .i64)] (a0, a1, a2, a3, a4, ())
def ChallengeBytes_dom (a0 : ApiChallenges) (a1 : ApiChallenge) : Prop := ArgD cd [(.agg 3), (.agg 2)] (a0, a1, ())
def ChallengeOnce_dom (a0 : (BitVec 64)) (a1 : (List (UInt8))) (a2 : (List (UInt8))) (a3 : UInt8) : Prop := ArgD cd [.u64, (.rs 0), (.rs 0), .u8] (a0, a1, a2, a3, ())
def ChallengeFull_dom (a0 : (BitVec 64)) (a1 : UInt8) (a2 : UInt8) : Prop := ArgD cd [.u64, .u8, .u8] (a0, a1, a2, ())
end Go.Proofs.Ytlinfghjilpcdaa

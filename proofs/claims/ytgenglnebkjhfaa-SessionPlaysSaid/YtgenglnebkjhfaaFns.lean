/- The functions of the program, as plain functions, and that the program computes them. Written by a program. -/
import Derived.Test.YtgenglnebkjhfaaTyZb
import Derived.Test.YtgenglnebkjhfaaTyZd
import Derived.Test.YtgenglnebkjhfaaLay
import Derived.Test.YtgenglnebkjhfaaProg
import Derived.WalkKit
set_option linter.unusedVariables false
set_option maxRecDepth 100000
namespace Go.Proofs.Ytgenglnebkjhfaa
open Go Go.Abs
structure ApiSession where
  number : Int
  account : List UInt8
  iD : List UInt8
  model : BitVec 64
  since : Int
  until_ : Int
  deriving DecidableEq, Inhabited

structure ApiSessions where
  secret : BitVec 64
  count : Int
  open_ : List ApiSession
  deriving DecidableEq, Inhabited

structure DigestState where
  v0 : BitVec 64
  v1 : BitVec 64
  v2 : BitVec 64
  v3 : BitVec 64
  deriving DecidableEq, Inhabited

structure Arr4_BitVec64 where
  a0 : BitVec 64
  a1 : BitVec 64
  a2 : BitVec 64
  a3 : BitVec 64
  deriving DecidableEq, Inhabited

structure PasskeycastDeck where
  l : List Int
  at_ : Int
  deriving DecidableEq, Inhabited

abbrev T : Nat → Type
  | 0 => UInt8
  | 1 => ApiSession
  | 2 => ApiSessions
  | 3 => BitVec 64
  | 4 => DigestState
  | 5 => Arr4_BitVec64
  | 6 => List UInt8
  | 7 => Int
  | 8 => PasskeycastDeck
  | 9 => List UInt8
  | 10 => Bool
  | _ => Unit

def lfs : Nat → List Lf
  | 0 => [.u8]
  | 1 => [.int .i64, .str, .rs 0, .u64, .int .i64, .int .i64]
  | 2 => [.u64, .int .i64, .rs 1]
  | 3 => [.u64]
  | 4 => [.u64, .u64, .u64, .u64]
  | 5 => [.u64, .u64, .u64, .u64]
  | 6 => [.rs 0]
  | 7 => [.int .i64]
  | 8 => [.rs 7, .int .i64]
  | 9 => [.str]
  | 10 => [.bool]
  | _ => []

def to0 (x : UInt8) : tyLs T (lfs 0) := (x, ())
def of0 (y : tyLs T (lfs 0)) : UInt8 := y.1
def eD0 (x : UInt8) : List D := [.int .u8 x.toNat]
def to1 (x : ApiSession) : tyLs T (lfs 1) := (x.number, x.account, x.iD, x.model, x.since, x.until_, ())
def of1 (y : tyLs T (lfs 1)) : ApiSession := ⟨y.1, y.2.1, y.2.2.1, y.2.2.2.1, y.2.2.2.2.1, y.2.2.2.2.2.1⟩
def eD1 (x : ApiSession) : List D := [.int .i64 x.number, .str x.account, .rs 1 (x.iD.map eD0), .int .u64 x.model.toNat, .int .i64 x.since, .int .i64 x.until_]
def to2 (x : ApiSessions) : tyLs T (lfs 2) := (x.secret, x.count, x.open_, ())
def of2 (y : tyLs T (lfs 2)) : ApiSessions := ⟨y.1, y.2.1, y.2.2.1⟩
def eD2 (x : ApiSessions) : List D := [.int .u64 x.secret.toNat, .int .i64 x.count, .rs 6 (x.open_.map eD1)]
def to3 (x : BitVec 64) : tyLs T (lfs 3) := (x, ())
def of3 (y : tyLs T (lfs 3)) : BitVec 64 := y.1
def eD3 (x : BitVec 64) : List D := [.int .u64 x.toNat]
def to4 (x : DigestState) : tyLs T (lfs 4) := (x.v0, x.v1, x.v2, x.v3, ())
def of4 (y : tyLs T (lfs 4)) : DigestState := ⟨y.1, y.2.1, y.2.2.1, y.2.2.2.1⟩
def eD4 (x : DigestState) : List D := [.int .u64 x.v0.toNat, .int .u64 x.v1.toNat, .int .u64 x.v2.toNat, .int .u64 x.v3.toNat]
def to5 (x : Arr4_BitVec64) : tyLs T (lfs 5) := (x.a0, x.a1, x.a2, x.a3, ())
def of5 (y : tyLs T (lfs 5)) : Arr4_BitVec64 := ⟨y.1, y.2.1, y.2.2.1, y.2.2.2.1⟩
def eD5 (x : Arr4_BitVec64) : List D := [.int .u64 x.a0.toNat, .int .u64 x.a1.toNat, .int .u64 x.a2.toNat, .int .u64 x.a3.toNat]
def to6 (x : List UInt8) : tyLs T (lfs 6) := (x, ())
def of6 (y : tyLs T (lfs 6)) : List UInt8 := y.1
def eD6 (x : List UInt8) : List D := [.rs 1 (x.map eD0)]
def to7 (x : Int) : tyLs T (lfs 7) := (x, ())
def of7 (y : tyLs T (lfs 7)) : Int := y.1
def eD7 (x : Int) : List D := [.int .i64 x]
def to8 (x : PasskeycastDeck) : tyLs T (lfs 8) := (x.l, x.at_, ())
def of8 (y : tyLs T (lfs 8)) : PasskeycastDeck := ⟨y.1, y.2.1⟩
def eD8 (x : PasskeycastDeck) : List D := [.rs 1 (x.l.map eD7), .int .i64 x.at_]
def to9 (x : List UInt8) : tyLs T (lfs 9) := (x, ())
def of9 (y : tyLs T (lfs 9)) : List UInt8 := y.1
def eD9 (x : List UInt8) : List D := [.str x]
def to10 (x : Bool) : tyLs T (lfs 10) := (x, ())
def of10 (y : tyLs T (lfs 10)) : Bool := y.1
def eD10 (x : Bool) : List D := [.bool x]
def cd : Cd T where
  sz := fun c => match c with
    | 0 => 1
    | 1 => 6
    | 2 => 3
    | 3 => 1
    | 4 => 4
    | 5 => 4
    | 6 => 1
    | 7 => 1
    | 8 => 2
    | 9 => 1
    | 10 => 1
    | _ => 0
  encD := fun c x => match c, x with
    | 0, x => eD0 x
    | 1, x => eD1 x
    | 2, x => eD2 x
    | 3, x => eD3 x
    | 4, x => eD4 x
    | 5, x => eD5 x
    | 6, x => eD6 x
    | 7, x => eD7 x
    | 8, x => eD8 x
    | 9, x => eD9 x
    | 10, x => eD10 x
    | _, _ => []
  enc := fun c x => match c, x with
    | 0, x => encL (lfs 0) (to0 x)
    | 1, x => encL (lfs 1) (to1 x)
    | 2, x => encL (lfs 2) (to2 x)
    | 3, x => encL (lfs 3) (to3 x)
    | 4, x => encL (lfs 4) (to4 x)
    | 5, x => encL (lfs 5) (to5 x)
    | 6, x => encL (lfs 6) (to6 x)
    | 7, x => encL (lfs 7) (to7 x)
    | 8, x => encL (lfs 8) (to8 x)
    | 9, x => encL (lfs 9) (to9 x)
    | 10, x => encL (lfs 10) (to10 x)
    | _, _ => []
  dec := fun c ds => match c with
    | 0 => (decL (lfs 0) ds).map of0
    | 1 => (decL (lfs 1) ds).map of1
    | 2 => (decL (lfs 2) ds).map of2
    | 3 => (decL (lfs 3) ds).map of3
    | 4 => (decL (lfs 4) ds).map of4
    | 5 => (decL (lfs 5) ds).map of5
    | 6 => (decL (lfs 6) ds).map of6
    | 7 => (decL (lfs 7) ds).map of7
    | 8 => (decL (lfs 8) ds).map of8
    | 9 => (decL (lfs 9) ds).map of9
    | 10 => (decL (lfs 10) ds).map of10
    | _ => none
  bt := 0
  hb := rfl

theorem cd_ok : CdOk cd where
  len := fun c => match c with
    | 0 => fun _ => rfl
    | 1 => fun _ => rfl
    | 2 => fun _ => rfl
    | 3 => fun _ => rfl
    | 4 => fun _ => rfl
    | 5 => fun _ => rfl
    | 6 => fun _ => rfl
    | 7 => fun _ => rfl
    | 8 => fun _ => rfl
    | 9 => fun _ => rfl
    | 10 => fun _ => rfl
    | _ + 11 => fun _ => rfl
  enc := fun c => match c with
    | 0 => fun _ => rfl
    | 1 => fun _ => rfl
    | 2 => fun _ => rfl
    | 3 => fun _ => rfl
    | 4 => fun _ => rfl
    | 5 => fun _ => rfl
    | 6 => fun _ => rfl
    | 7 => fun _ => rfl
    | 8 => fun _ => rfl
    | 9 => fun _ => rfl
    | 10 => fun _ => rfl
    | _ + 11 => fun _ => rfl
  epure := fun c => match c with
    | 0 => fun _ => rfl
    | 1 => fun _ => rfl
    | 2 => fun _ => rfl
    | 3 => fun _ => rfl
    | 4 => fun _ => rfl
    | 5 => fun _ => rfl
    | 6 => fun _ => rfl
    | 7 => fun _ => rfl
    | 8 => fun _ => rfl
    | 9 => fun _ => rfl
    | 10 => fun _ => rfl
    | _ + 11 => fun _ => rfl
  byte := fun _ => rfl
  bsz := rfl
  dec := fun c => match c with
    | 0 => fun ds x h => dec_ok cd (c := 0) (lfs 0) (of := of0) (e := eD0) (fun _ => rfl) ds x h
    | 1 => fun ds x h => dec_ok cd (c := 1) (lfs 1) (of := of1) (e := eD1) (fun _ => rfl) ds x h
    | 2 => fun ds x h => dec_ok cd (c := 2) (lfs 2) (of := of2) (e := eD2) (fun _ => rfl) ds x h
    | 3 => fun ds x h => dec_ok cd (c := 3) (lfs 3) (of := of3) (e := eD3) (fun _ => rfl) ds x h
    | 4 => fun ds x h => dec_ok cd (c := 4) (lfs 4) (of := of4) (e := eD4) (fun _ => rfl) ds x h
    | 5 => fun ds x h => dec_ok cd (c := 5) (lfs 5) (of := of5) (e := eD5) (fun _ => rfl) ds x h
    | 6 => fun ds x h => dec_ok cd (c := 6) (lfs 6) (of := of6) (e := eD6) (fun _ => rfl) ds x h
    | 7 => fun ds x h => dec_ok cd (c := 7) (lfs 7) (of := of7) (e := eD7) (fun _ => rfl) ds x h
    | 8 => fun ds x h => dec_ok cd (c := 8) (lfs 8) (of := of8) (e := eD8) (fun _ => rfl) ds x h
    | 9 => fun ds x h => dec_ok cd (c := 9) (lfs 9) (of := of9) (e := eD9) (fun _ => rfl) ds x h
    | 10 => fun ds x h => dec_ok cd (c := 10) (lfs 10) (of := of10) (e := eD10) (fun _ => rfl) ds x h
    | _ + 11 => fun _ _ h => by cases h


def ti3 : TI := ⟨7, 1, 8, .int .i64, [.i .i64], [], [], none⟩
def ti4 : TI := ⟨10, 1, 1, .bool, [.b], [], [], none⟩
def ti5 : TI := ⟨0, 1, 1, .int .u8, [.i .u8], [], [], none⟩
def ti9 : TI := ⟨9, 1, 16, .str, [.s], [], [], none⟩
def ti22 : TI := ⟨3, 1, 8, .int .u64, [.i .u64], [], [], none⟩
def ti23 : TI := ⟨12, 1, 24, .slice 28, [.ns], [], [], none⟩
def ti25 : TI := ⟨2, 3, 40, .strct, [.i .u64, .i .i64, .ns], [some (0, 22), some (1, 3), some (2, 23)], [(0, 1), (1, 1), (2, 1)], none⟩
def ti26 : TI := ⟨6, 1, 24, .slice 5, [.ns], [], [], none⟩
def ti28 : TI := ⟨1, 6, 72, .strct, [.i .i64, .s, .ns, .i .u64, .i .i64, .i .i64], [some (0, 3), some (1, 9), some (2, 26), some (3, 22), some (4, 3), some (5, 3)], [(0, 1), (1, 1), (2, 1), (3, 1), (4, 1), (5, 1)], none⟩
def ti33 : TI := ⟨12, 1, 24, .slice 26, [.ns], [], [], none⟩
def ti34 : TI := ⟨12, 1, 8, .int .i64, [.i .i64], [], [], none⟩
def ti40 : TI := ⟨12, 1, 24, .slice 3, [.ns], [], [], none⟩
def ti54 : TI := ⟨12, 1, 24, .slice 4, [.ns], [], [], none⟩
def ti55 : TI := ⟨12, 1, 8, .int .u64, [.i .u64], [], [], none⟩
def ti66 : TI := ⟨8, 2, 32, .strct, [.ns, .i .i64], [some (0, 40), some (1, 3)], [(0, 1), (1, 1)], none⟩
def ti68 : TI := ⟨12, 1, 24, .slice 9, [.ns], [], [], none⟩
def ti73 : TI := ⟨12, 1, 24, .slice 22, [.ns], [], [], none⟩
def ti76 : TI := ⟨4, 4, 32, .strct, [.i .u64, .i .u64, .i .u64, .i .u64], [some (0, 22), some (1, 22), some (2, 22), some (3, 22)], [(0, 1), (1, 1), (2, 1), (3, 1)], some [3, 3, 3, 3]⟩
def ti80 : TI := ⟨5, 4, 32, .arr 4 22, [.i .u64, .i .u64, .i .u64, .i .u64], [], [], none⟩
def tab : Tr := .node (.node (.node (.node (.node .leaf 3 ti3 .leaf) 4 ti4 .leaf) 5 ti5 (.node .leaf 9 ti9 .leaf)) 22 ti22 (.node (.node (.node .leaf 23 ti23 .leaf) 25 ti25 .leaf) 26 ti26 (.node .leaf 28 ti28 .leaf))) 33 ti33 (.node (.node (.node (.node .leaf 34 ti34 .leaf) 40 ti40 .leaf) 54 ti54 (.node .leaf 55 ti55 .leaf)) 66 ti66 (.node (.node (.node .leaf 68 ti68 .leaf) 73 ti73 .leaf) 76 ti76 (.node .leaf 80 ti80 .leaf)))

def globs : Nat → Option (List (DT T)) := fun _ => none
def flc : Nat → Bool := fun c => match c with
  | 0 => true
  | 1 => false
  | 2 => false
  | 3 => true
  | 4 => true
  | 5 => true
  | 6 => false
  | 7 => true
  | 8 => false
  | 9 => true
  | 10 => true
  | _ => false
theorem hmix : Try.prog.follows .mixedOrders = true := by kernel_rfl
theorem tys : TysOk Try.prog tab.find := tys_ok (by kernel_rfl)
abbrev gdn : Nat → Option (List D) := fun g => (globs g).map (denL cd)
theorem fl_ok : FlOk cd flc := fun c => match c with
  | 0 => fun h _ => rfl
  | 1 => fun h _ => by cases h
  | 2 => fun h _ => by cases h
  | 3 => fun h _ => rfl
  | 4 => fun h _ => rfl
  | 5 => fun h _ => rfl
  | 6 => fun h _ => by cases h
  | 7 => fun h _ => rfl
  | 8 => fun h _ => by cases h
  | 9 => fun h _ => rfl
  | 10 => fun h _ => rfl
  | _ + 11 => fun h _ => by cases h

def bytes_Clone (a0 : List UInt8) : Option (Unit × (List UInt8 × Unit)) := bif decide (a0.length ≤ 140737488355328) then some ((), a0, ()) else none
def S_bytes_Clone : FSpec T := ⟨[.f (.v (.rs 0))], [.own 0], fun x => bytes_Clone x.1⟩
theorem bytes_Clone_ok : SoundT Try.prog cd gdn 38 S_bytes_Clone := by
  refine sound_clone (C := cd) (c := 0) rfl (F := fun x => bytes_Clone x.1) rfl (fun l => rfl) ⟨_, Try.func38, by kernel_rfl, by kernel_rfl⟩ (fun x r h => ?_) (fun n c w => Any.bytes_Clone_nil Try.laysClone n c w) (fun a n c xs w h1 h2 h3 => Any.bytes_Clone_at Try.laysClone a n c xs w h1 h2 h3)
  change bytes_Clone x.1 = some r at h
  unfold bytes_Clone at h
  by_cases hs : List.length x.1 ≤ 140737488355328
  · simp only [hs, decide_true, cond_true] at h
    have hr := Option.some.inj h
    subst hr
    exact ⟨rfl, hs⟩
  · simp [hs] at h
def session_New (a0 : (BitVec 64)) : Option ((Unit) × (ApiSessions × Unit)) :=
 (some ((), ((⟨a0, (0 : Int), []⟩ : ApiSessions), ())))

def S_session_New : FSpec T := ⟨[.f (.v .u64)], [(.v (.agg 2))], fun x => session_New x.1⟩

def E_session_New : Env T := ⟨tab.find, cd, globs, flc, fun f ds => match f with
    | _ => none, fun f => match f with
    | _ => false⟩

def A_session_New : Loc2 T := ⟨fun id => match id with
    | _ => none, fun r => match r with
    | _ => none, fun r => match r with
    | _ => false⟩

theorem session_New_eq (x : tySs T S_session_New.ps) : run E_session_New A_session_New (Try.f10.body.getD .skip) (enterT E_session_New.C S_session_New.ps x) (retK E_session_New Try.f10.results.toList S_session_New.ps S_session_New.rs) = S_session_New.fn x := by kernel_rfl

theorem session_New_env : EnvOk Try.prog E_session_New := envOk (E := E_session_New) cd_ok tys fl_ok fun f ds S h => by cases h

theorem session_New_ok : SoundT Try.prog cd gdn 10 S_session_New :=
  sound_fn (E := E_session_New) (A := A_session_New) (done := []) (c := (Try.f10.body.getD .skip)) (S := S_session_New) (fn := Try.f10) hmix session_New_env Try.func10 rfl (by kernel_rfl) (by kernel_rfl) done_nil (by kernel_rfl) (by kernel_rfl) session_New_eq

def session_isTime (a0 : Int) : Option ((Unit) × (Bool × Unit)) :=
 (bif (decide ((0 : Int) ≤ a0)) then (some ((), ((decide (a0 ≤ (1099511627776 : Int))), ())))
 else (some ((), (false, ()))))

def S_session_isTime : FSpec T := ⟨[.f (.v (.int .i64))], [(.v .bool)], fun x => session_isTime x.1⟩

def E_session_isTime : Env T := ⟨tab.find, cd, globs, flc, fun f ds => match f with
    | _ => none, fun f => match f with
    | _ => false⟩

def A_session_isTime : Loc2 T := ⟨fun id => match id with
    | _ => none, fun r => match r with
    | _ => none, fun r => match r with
    | _ => false⟩

theorem session_isTime_eq (x : tySs T S_session_isTime.ps) : run E_session_isTime A_session_isTime (Try.f35.body.getD .skip) (enterT E_session_isTime.C S_session_isTime.ps x) (retK E_session_isTime Try.f35.results.toList S_session_isTime.ps S_session_isTime.rs) = S_session_isTime.fn x := by kernel_rfl

theorem session_isTime_env : EnvOk Try.prog E_session_isTime := envOk (E := E_session_isTime) cd_ok tys fl_ok fun f ds S h => by cases h

theorem session_isTime_ok : SoundT Try.prog cd gdn 35 S_session_isTime :=
  sound_fn (E := E_session_isTime) (A := A_session_isTime) (done := []) (c := (Try.f35.body.getD .skip)) (S := S_session_isTime) (fn := Try.f35) hmix session_isTime_env Try.func35 rfl (by kernel_rfl) (by kernel_rfl) done_nil (by kernel_rfl) (by kernel_rfl) session_isTime_eq

def session_Expire_1 (a0 : ApiSession) (a1 : Int) : Option ((Unit) × (Bool × Unit)) :=
 ((session_isTime a1).bind fun r1 => (bif (!r1.2.1) then (some ((), (true, ())))
 else (some ((), ((decide (a1 ≤ a0.until_)), ())))))

def S_session_Expire_1 : FSpec T := ⟨[.f (.v (.agg 1)), .f (.v (.ref (.int .i64)))], [(.v .bool)], fun x => session_Expire_1 x.1 x.2.1⟩

def E_session_Expire_1 : Env T := ⟨tab.find, cd, globs, flc, fun f ds => match f with
    | 35 => some S_session_isTime
    | _ => none, fun f => match f with
    | 35 => true
    | _ => false⟩

def A_session_Expire_1 : Loc2 T := ⟨fun id => match id with
    | _ => none, fun r => match r with
    | _ => none, fun r => match r with
    | _ => false⟩

theorem session_Expire_1_eq (x : tySs T S_session_Expire_1.ps) : run E_session_Expire_1 A_session_Expire_1 (Try.f48.body.getD .skip) (enterT E_session_Expire_1.C S_session_Expire_1.ps x) (retK E_session_Expire_1 Try.f48.results.toList S_session_Expire_1.ps S_session_Expire_1.rs) = S_session_Expire_1.fn x := by kernel_rfl

theorem session_Expire_1_env : EnvOk Try.prog E_session_Expire_1 := envOk (E := E_session_Expire_1) cd_ok tys fl_ok fun f ds S h => by
    dsimp only [E_session_Expire_1] at h
    split at h
    · cases h; exact session_isTime_ok
    · cases h

theorem session_Expire_1_ok : SoundT Try.prog cd gdn 48 S_session_Expire_1 :=
  sound_fn (E := E_session_Expire_1) (A := A_session_Expire_1) (done := []) (c := (Try.f48.body.getD .skip)) (S := S_session_Expire_1) (fn := Try.f48) hmix session_Expire_1_env Try.func48 rfl (by kernel_rfl) (by kernel_rfl) done_nil (by kernel_rfl) (by kernel_rfl) session_Expire_1_eq

def session_filter_L0b (y0 : Int) (y1 : (ApiSessions × Unit)) (y2 : (ApiSessions × Unit)) (y3 : (List (ApiSession))) (y4 : (List (ApiSession))) (y5 : Int) (y6 : Int) : Option ((Int × (ApiSessions × Unit) × (ApiSessions × Unit) × (List (ApiSession)) × (List (ApiSession)) × Int × Int × Unit) ⊕ ((ApiSessions × Unit) × (ApiSessions × Unit) × (List (ApiSession)) × Unit)) :=
 (bif (decide (y6 < y5)) then ((getI y4 y6).bind fun x2 => ((session_Expire_1 x2 y0).bind fun r3 => (bif r3.2.1 then (bif small ((y3).length + (([x2] : List (ApiSession)) : List (ApiSession)).length) 72 then (some (Sum.inl (y0, (y1.1, ()), (y2.1, ()), (y3 ++ ([x2] : List (ApiSession))), y4, y5, (IntKind.wrap .i64 (y6 + (1 : Int))), ())))
 else none)
 else (some (Sum.inl (y0, (y1.1, ()), (y2.1, ()), y3, y4, y5, (IntKind.wrap .i64 (y6 + (1 : Int))), ()))))))
 else (some (Sum.inr ((y1.1, ()), (y2.1, ()), y3, ()))))

def session_filter_L0 (y : (Int × (ApiSessions × Unit) × (ApiSessions × Unit) × (List (ApiSession)) × (List (ApiSession)) × Int × Int × Unit)) : Option ((ApiSessions × Unit) × (ApiSessions × Unit) × (List (ApiSession)) × Unit) := iter (fun (y : (Int × (ApiSessions × Unit) × (ApiSessions × Unit) × (List (ApiSession)) × (List (ApiSession)) × Int × Int × Unit)) => session_filter_L0b y.1 y.2.1 y.2.2.1 y.2.2.2.1 y.2.2.2.2.1 y.2.2.2.2.2.1 y.2.2.2.2.2.2.1) rounds y

def session_filter (a0 : ApiSessions) (a1 : Int) : Option ((Unit) × ((((BitVec 64) × Int × Unit) × (List (ApiSession)) × Unit) × Unit)) :=
 (bif (decide ((0 : Int) ≤ (0 : Int)) && (decide ((0 : Int) ≤ ((a0.open_).length : Int)) && decide ((72 : Int) * ((a0.open_).length : Int) ≤ 281474976710656 ∧ ((a0.open_).length : Int) ≤ 9223372036854775807))) then (let v1 : List (ApiSession) := (List.replicate 0 (⟨(0 : Int), ([] : List UInt8), [], 0#64, (0 : Int), (0 : Int)⟩ : ApiSession))
 ((session_filter_L0 (a1, (a0, ()), ((⟨0#64, (0 : Int), []⟩ : ApiSessions), ()), v1, a0.open_, ((a0.open_).length : Int), (0 : Int), ())).bind (fun (z4 : ((ApiSessions × Unit) × (ApiSessions × Unit) × (List (ApiSession)) × Unit)) => (some ((), (((z4.1.1.secret, z4.1.1.count, ()), z4.2.2.1, ()), ()))))))
 else none)

def S_session_filter : FSpec T := ⟨[.f (.v (.agg 2)), .f (.fp 48 (.int .i64))], [(.st (.cons .u64 (.cons (.int .i64) .nil)) 1 .nil)], fun x => session_filter x.1 x.2.1⟩

def E_session_filter : Env T := ⟨tab.find, cd, globs, flc, fun f ds => match f with
    | 48 => some S_session_Expire_1
    | _ => none, fun f => match f with
    | 48 => true
    | _ => false⟩

def A_session_filter : Loc2 T := ⟨fun id => match id with
    | 0 => some ⟨[(1, .f (.fp 48 (.int .i64))), (2, .ptr [(.v (.agg 2))]), (4, .ptr [(.v (.agg 2))]), (5, .f (.own 1)), (13, .f (.v (.rs 1))), (14, .f (.v (.int .i64))), (15, .f (.v (.int .i64)))], [(.exit 0, [(2, .ptr [(.v (.agg 2))]), (4, .ptr [(.v (.agg 2))]), (5, .f (.own 1))])], session_filter_L0⟩
    | _ => none, fun r => match r with
    | _ => none, fun r => match r with
    | _ => false⟩

theorem session_filter_L0_eq (y0 : Int) (y1 : (ApiSessions × Unit)) (y2 : (ApiSessions × Unit)) (y3 : (List (ApiSession))) (y4 : (List (ApiSession))) (y5 : Int) (y6 : Int) : run E_session_filter A_session_filter (loopAt 0 (Try.f36.body.getD .skip)) (lay cd [(1, .f (.fp 48 (.int .i64))), (2, .ptr [(.v (.agg 2))]), (4, .ptr [(.v (.agg 2))]), (5, .f (.own 1)), (13, .f (.v (.rs 1))), (14, .f (.v (.int .i64))), (15, .f (.v (.int .i64)))] (y0, y1, y2, y3, y4, y5, y6, ())) (roundK cd [(1, .f (.fp 48 (.int .i64))), (2, .ptr [(.v (.agg 2))]), (4, .ptr [(.v (.agg 2))]), (5, .f (.own 1)), (13, .f (.v (.rs 1))), (14, .f (.v (.int .i64))), (15, .f (.v (.int .i64)))] [(.exit 0, [(2, .ptr [(.v (.agg 2))]), (4, .ptr [(.v (.agg 2))]), (5, .f (.own 1))])]) = session_filter_L0b y0 y1 y2 y3 y4 y5 y6 := by kernel_rfl

theorem session_filter_eq (x : tySs T S_session_filter.ps) : run E_session_filter A_session_filter (Try.f36.body.getD .skip) (enterT E_session_filter.C S_session_filter.ps x) (retK E_session_filter Try.f36.results.toList S_session_filter.ps S_session_filter.rs) = S_session_filter.fn x := by kernel_rfl

theorem session_filter_env : EnvOk Try.prog E_session_filter := envOk (E := E_session_filter) cd_ok tys fl_ok fun f ds S h => by
    dsimp only [E_session_filter] at h
    split at h
    · cases h; exact session_Expire_1_ok
    · cases h

theorem session_filter_L0_ok : LoopOk Try.prog E_session_filter Try.f36.ntmps (kqOf S_session_filter.ps 0) (loopAt 0 (Try.f36.body.getD .skip)) ⟨[(1, .f (.fp 48 (.int .i64))), (2, .ptr [(.v (.agg 2))]), (4, .ptr [(.v (.agg 2))]), (5, .f (.own 1)), (13, .f (.v (.rs 1))), (14, .f (.v (.int .i64))), (15, .f (.v (.int .i64)))], [(.exit 0, [(2, .ptr [(.v (.agg 2))]), (4, .ptr [(.v (.agg 2))]), (5, .f (.own 1))])], session_filter_L0⟩ :=
  loop_ok (A := A_session_filter) (done := []) (c0 := (Try.f36.body.getD .skip)) hmix session_filter_env done_nil rounds (by kernel_rfl) (by kernel_rfl) (fun x => session_filter_L0_eq x.1 x.2.1 x.2.2.1 x.2.2.2.1 x.2.2.2.2.1 x.2.2.2.2.2.1 x.2.2.2.2.2.2.1) (fun _ => rfl)

theorem session_filter_ok : SoundT Try.prog cd gdn 36 S_session_filter :=
  sound_fn (E := E_session_filter) (A := A_session_filter) (done := [0]) (c := (Try.f36.body.getD .skip)) (S := S_session_filter) (fn := Try.f36) hmix session_filter_env Try.func36 rfl (by kernel_rfl) (by kernel_rfl) (done_cons rfl session_filter_L0_ok done_nil) (by kernel_rfl) (by kernel_rfl) session_filter_eq

def session_Expire (a0 : ApiSessions) (a1 : Int) : Option ((Unit) × ((((BitVec 64) × Int × Unit) × (List (ApiSession)) × Unit) × Unit)) :=
 ((session_filter a0 a1).bind fun r1 => (some ((), (((r1.2.1.1.1, r1.2.1.1.2.1, ()), r1.2.1.2.1, ()), ()))))

def S_session_Expire : FSpec T := ⟨[.f (.v (.agg 2)), .f (.v (.int .i64))], [(.st (.cons .u64 (.cons (.int .i64) .nil)) 1 .nil)], fun x => session_Expire x.1 x.2.1⟩

def E_session_Expire : Env T := ⟨tab.find, cd, globs, flc, fun f ds => match f with
    | 36 => match fnAt ds 1 with
      | some 48 => some S_session_filter
      | _ => none
    | _ => none, fun f => match f with
    | _ => false⟩

def A_session_Expire : Loc2 T := ⟨fun id => match id with
    | _ => none, fun r => match r with
    | _ => none, fun r => match r with
    | _ => false⟩

theorem session_Expire_eq (x : tySs T S_session_Expire.ps) : run E_session_Expire A_session_Expire (Try.f28.body.getD .skip) (enterT E_session_Expire.C S_session_Expire.ps x) (retK E_session_Expire Try.f28.results.toList S_session_Expire.ps S_session_Expire.rs) = S_session_Expire.fn x := by kernel_rfl

theorem session_Expire_env : EnvOk Try.prog E_session_Expire := envOk (E := E_session_Expire) cd_ok tys fl_ok fun f ds S h => by
    dsimp only [E_session_Expire] at h
    split at h
    · split at h
      · cases h; exact session_filter_ok
      · cases h
    · cases h

theorem session_Expire_ok : SoundT Try.prog cd gdn 28 S_session_Expire :=
  sound_fn (E := E_session_Expire) (A := A_session_Expire) (done := []) (c := (Try.f28.body.getD .skip)) (S := S_session_Expire) (fn := Try.f28) hmix session_Expire_env Try.func28 rfl (by kernel_rfl) (by kernel_rfl) done_nil (by kernel_rfl) (by kernel_rfl) session_Expire_eq

def session_Open_1 (a0 : ApiSession) (a1 : Int) : Option ((Unit) × (Bool × Unit)) :=
 (some ((), ((!decide (a0.number = a1)), ())))

def S_session_Open_1 : FSpec T := ⟨[.f (.v (.agg 1)), .f (.v (.ref (.int .i64)))], [(.v .bool)], fun x => session_Open_1 x.1 x.2.1⟩

def E_session_Open_1 : Env T := ⟨tab.find, cd, globs, flc, fun f ds => match f with
    | _ => none, fun f => match f with
    | _ => false⟩

def A_session_Open_1 : Loc2 T := ⟨fun id => match id with
    | _ => none, fun r => match r with
    | _ => none, fun r => match r with
    | _ => false⟩

theorem session_Open_1_eq (x : tySs T S_session_Open_1.ps) : run E_session_Open_1 A_session_Open_1 (Try.f37.body.getD .skip) (enterT E_session_Open_1.C S_session_Open_1.ps x) (retK E_session_Open_1 Try.f37.results.toList S_session_Open_1.ps S_session_Open_1.rs) = S_session_Open_1.fn x := by kernel_rfl

theorem session_Open_1_env : EnvOk Try.prog E_session_Open_1 := envOk (E := E_session_Open_1) cd_ok tys fl_ok fun f ds S h => by cases h

theorem session_Open_1_ok : SoundT Try.prog cd gdn 37 S_session_Open_1 :=
  sound_fn (E := E_session_Open_1) (A := A_session_Open_1) (done := []) (c := (Try.f37.body.getD .skip)) (S := S_session_Open_1) (fn := Try.f37) hmix session_Open_1_env Try.func37 rfl (by kernel_rfl) (by kernel_rfl) done_nil (by kernel_rfl) (by kernel_rfl) session_Open_1_eq

def session_filter_1_L0b (y0 : Int) (y1 : (ApiSessions × Unit)) (y2 : (ApiSessions × Unit)) (y3 : (List (ApiSession))) (y4 : (List (ApiSession))) (y5 : Int) (y6 : Int) : Option ((Int × (ApiSessions × Unit) × (ApiSessions × Unit) × (List (ApiSession)) × (List (ApiSession)) × Int × Int × Unit) ⊕ ((ApiSessions × Unit) × (ApiSessions × Unit) × (List (ApiSession)) × Unit)) :=
 (bif (decide (y6 < y5)) then ((getI y4 y6).bind fun x2 => ((session_Open_1 x2 y0).bind fun r3 => (bif r3.2.1 then (bif small ((y3).length + (([x2] : List (ApiSession)) : List (ApiSession)).length) 72 then (some (Sum.inl (y0, (y1.1, ()), (y2.1, ()), (y3 ++ ([x2] : List (ApiSession))), y4, y5, (IntKind.wrap .i64 (y6 + (1 : Int))), ())))
 else none)
 else (some (Sum.inl (y0, (y1.1, ()), (y2.1, ()), y3, y4, y5, (IntKind.wrap .i64 (y6 + (1 : Int))), ()))))))
 else (some (Sum.inr ((y1.1, ()), (y2.1, ()), y3, ()))))

def session_filter_1_L0 (y : (Int × (ApiSessions × Unit) × (ApiSessions × Unit) × (List (ApiSession)) × (List (ApiSession)) × Int × Int × Unit)) : Option ((ApiSessions × Unit) × (ApiSessions × Unit) × (List (ApiSession)) × Unit) := iter (fun (y : (Int × (ApiSessions × Unit) × (ApiSessions × Unit) × (List (ApiSession)) × (List (ApiSession)) × Int × Int × Unit)) => session_filter_1_L0b y.1 y.2.1 y.2.2.1 y.2.2.2.1 y.2.2.2.2.1 y.2.2.2.2.2.1 y.2.2.2.2.2.2.1) rounds y

def session_filter_1 (a0 : ApiSessions) (a1 : Int) : Option ((Unit) × ((((BitVec 64) × Int × Unit) × (List (ApiSession)) × Unit) × Unit)) :=
 (bif (decide ((0 : Int) ≤ (0 : Int)) && (decide ((0 : Int) ≤ ((a0.open_).length : Int)) && decide ((72 : Int) * ((a0.open_).length : Int) ≤ 281474976710656 ∧ ((a0.open_).length : Int) ≤ 9223372036854775807))) then (let v1 : List (ApiSession) := (List.replicate 0 (⟨(0 : Int), ([] : List UInt8), [], 0#64, (0 : Int), (0 : Int)⟩ : ApiSession))
 ((session_filter_1_L0 (a1, (a0, ()), ((⟨0#64, (0 : Int), []⟩ : ApiSessions), ()), v1, a0.open_, ((a0.open_).length : Int), (0 : Int), ())).bind (fun (z4 : ((ApiSessions × Unit) × (ApiSessions × Unit) × (List (ApiSession)) × Unit)) => (some ((), (((z4.1.1.secret, z4.1.1.count, ()), z4.2.2.1, ()), ()))))))
 else none)

def S_session_filter_1 : FSpec T := ⟨[.f (.v (.agg 2)), .f (.fp 37 (.int .i64))], [(.st (.cons .u64 (.cons (.int .i64) .nil)) 1 .nil)], fun x => session_filter_1 x.1 x.2.1⟩

def E_session_filter_1 : Env T := ⟨tab.find, cd, globs, flc, fun f ds => match f with
    | 37 => some S_session_Open_1
    | _ => none, fun f => match f with
    | 37 => true
    | _ => false⟩

def A_session_filter_1 : Loc2 T := ⟨fun id => match id with
    | 0 => some ⟨[(1, .f (.fp 37 (.int .i64))), (2, .ptr [(.v (.agg 2))]), (4, .ptr [(.v (.agg 2))]), (5, .f (.own 1)), (13, .f (.v (.rs 1))), (14, .f (.v (.int .i64))), (15, .f (.v (.int .i64)))], [(.exit 0, [(2, .ptr [(.v (.agg 2))]), (4, .ptr [(.v (.agg 2))]), (5, .f (.own 1))])], session_filter_1_L0⟩
    | _ => none, fun r => match r with
    | _ => none, fun r => match r with
    | _ => false⟩

theorem session_filter_1_L0_eq (y0 : Int) (y1 : (ApiSessions × Unit)) (y2 : (ApiSessions × Unit)) (y3 : (List (ApiSession))) (y4 : (List (ApiSession))) (y5 : Int) (y6 : Int) : run E_session_filter_1 A_session_filter_1 (loopAt 0 (Try.f36.body.getD .skip)) (lay cd [(1, .f (.fp 37 (.int .i64))), (2, .ptr [(.v (.agg 2))]), (4, .ptr [(.v (.agg 2))]), (5, .f (.own 1)), (13, .f (.v (.rs 1))), (14, .f (.v (.int .i64))), (15, .f (.v (.int .i64)))] (y0, y1, y2, y3, y4, y5, y6, ())) (roundK cd [(1, .f (.fp 37 (.int .i64))), (2, .ptr [(.v (.agg 2))]), (4, .ptr [(.v (.agg 2))]), (5, .f (.own 1)), (13, .f (.v (.rs 1))), (14, .f (.v (.int .i64))), (15, .f (.v (.int .i64)))] [(.exit 0, [(2, .ptr [(.v (.agg 2))]), (4, .ptr [(.v (.agg 2))]), (5, .f (.own 1))])]) = session_filter_1_L0b y0 y1 y2 y3 y4 y5 y6 := by kernel_rfl

theorem session_filter_1_eq (x : tySs T S_session_filter_1.ps) : run E_session_filter_1 A_session_filter_1 (Try.f36.body.getD .skip) (enterT E_session_filter_1.C S_session_filter_1.ps x) (retK E_session_filter_1 Try.f36.results.toList S_session_filter_1.ps S_session_filter_1.rs) = S_session_filter_1.fn x := by kernel_rfl

theorem session_filter_1_env : EnvOk Try.prog E_session_filter_1 := envOk (E := E_session_filter_1) cd_ok tys fl_ok fun f ds S h => by
    dsimp only [E_session_filter_1] at h
    split at h
    · cases h; exact session_Open_1_ok
    · cases h

theorem session_filter_1_L0_ok : LoopOk Try.prog E_session_filter_1 Try.f36.ntmps (kqOf S_session_filter_1.ps 0) (loopAt 0 (Try.f36.body.getD .skip)) ⟨[(1, .f (.fp 37 (.int .i64))), (2, .ptr [(.v (.agg 2))]), (4, .ptr [(.v (.agg 2))]), (5, .f (.own 1)), (13, .f (.v (.rs 1))), (14, .f (.v (.int .i64))), (15, .f (.v (.int .i64)))], [(.exit 0, [(2, .ptr [(.v (.agg 2))]), (4, .ptr [(.v (.agg 2))]), (5, .f (.own 1))])], session_filter_1_L0⟩ :=
  loop_ok (A := A_session_filter_1) (done := []) (c0 := (Try.f36.body.getD .skip)) hmix session_filter_1_env done_nil rounds (by kernel_rfl) (by kernel_rfl) (fun x => session_filter_1_L0_eq x.1 x.2.1 x.2.2.1 x.2.2.2.1 x.2.2.2.2.1 x.2.2.2.2.2.1 x.2.2.2.2.2.2.1) (fun _ => rfl)

theorem session_filter_1_ok : SoundT Try.prog cd gdn 36 S_session_filter_1 :=
  sound_fn (E := E_session_filter_1) (A := A_session_filter_1) (done := [0]) (c := (Try.f36.body.getD .skip)) (S := S_session_filter_1) (fn := Try.f36) hmix session_filter_1_env Try.func36 rfl (by kernel_rfl) (by kernel_rfl) (done_cons rfl session_filter_1_L0_ok done_nil) (by kernel_rfl) (by kernel_rfl) session_filter_1_eq

def digest_Words_L2b (y0 : (List (UInt8))) (y1 : (BitVec 64)) (y2 : (List (BitVec 64))) (y3 : Int) (y4 : Int) (y5 : Int) : Option (((List (UInt8)) × (BitVec 64) × (List (BitVec 64)) × Int × Int × Int × Unit) ⊕ ((List (UInt8)) × (List (BitVec 64)) × Int × Int × Unit)) :=
 (bif (decide (y5 < (8 : Int))) then (let v2 : Int := (IntKind.wrap .i64 ((56 : Int) - (IntKind.wrap .i64 ((8 : Int) * y5))))
 (bif decide ((0 : Int) ≤ v2) then (let v3 : List (UInt8) := ([(UInt8.ofBitVec (BitVec.setWidth 8 (y1 >>> (v2).toNat)))] : List (UInt8))
 (bif small ((y0).length + (v3 : List (UInt8)).length) 1 then (some (Sum.inl ((y0 ++ v3), y1, y2, y3, y4, (IntKind.wrap .i64 (y5 + (1 : Int))), ())))
 else none))
 else none))
 else (some (Sum.inr (y0, y2, y3, y4, ()))))

def digest_Words_L2 (y : ((List (UInt8)) × (BitVec 64) × (List (BitVec 64)) × Int × Int × Int × Unit)) : Option ((List (UInt8)) × (List (BitVec 64)) × Int × Int × Unit) := iter (fun (y : ((List (UInt8)) × (BitVec 64) × (List (BitVec 64)) × Int × Int × Int × Unit)) => digest_Words_L2b y.1 y.2.1 y.2.2.1 y.2.2.2.1 y.2.2.2.2.1 y.2.2.2.2.2.1) rounds y

def digest_Words_L0b (y0 : (List (UInt8))) (y1 : (List (BitVec 64))) (y2 : Int) (y3 : Int) : Option (((List (UInt8)) × (List (BitVec 64)) × Int × Int × Unit) ⊕ ((List (UInt8)) × Unit)) :=
 (bif (decide (y3 < y2)) then ((getI y1 y3).bind fun x1 => ((digest_Words_L2 (y0, x1, y1, y2, y3, (0 : Int), ())).bind (fun (z2 : ((List (UInt8)) × (List (BitVec 64)) × Int × Int × Unit)) => (some (Sum.inl (z2.1, z2.2.1, z2.2.2.1, (IntKind.wrap .i64 (z2.2.2.2.1 + (1 : Int))), ()))))))
 else (some (Sum.inr (y0, ()))))

def digest_Words_L0 (y : ((List (UInt8)) × (List (BitVec 64)) × Int × Int × Unit)) : Option ((List (UInt8)) × Unit) := iter (fun (y : ((List (UInt8)) × (List (BitVec 64)) × Int × Int × Unit)) => digest_Words_L0b y.1 y.2.1 y.2.2.1 y.2.2.2.1) rounds y

def digest_Words (a0 : (List (BitVec 64))) : Option ((Unit) × ((List (UInt8)) × Unit)) :=
 (bif (decide ((0 : Int) ≤ (0 : Int)) && (decide ((0 : Int) ≤ (IntKind.wrap .i64 ((8 : Int) * ((a0).length : Int)))) && decide ((1 : Int) * (IntKind.wrap .i64 ((8 : Int) * ((a0).length : Int))) ≤ 281474976710656 ∧ (IntKind.wrap .i64 ((8 : Int) * ((a0).length : Int))) ≤ 9223372036854775807))) then ((digest_Words_L0 ((List.replicate 0 (0 : UInt8)), a0, ((a0).length : Int), (0 : Int), ())).bind (fun (z3 : ((List (UInt8)) × Unit)) => (some ((), (z3.1, ())))))
 else none)

def S_digest_Words : FSpec T := ⟨[.f (.v (.rs 3))], [(.own 0)], fun x => digest_Words x.1⟩

def E_digest_Words : Env T := ⟨tab.find, cd, globs, flc, fun f ds => match f with
    | _ => none, fun f => match f with
    | _ => false⟩

def A_digest_Words : Loc2 T := ⟨fun id => match id with
    | 2 => some ⟨[(3, .f (.own 0)), (5, .f (.v .u64)), (11, .f (.v (.rs 3))), (12, .f (.v (.int .i64))), (13, .f (.v (.int .i64))), (17, .f (.v (.int .i64)))], [(.exit 2, [(3, .f (.own 0)), (11, .f (.v (.rs 3))), (12, .f (.v (.int .i64))), (13, .f (.v (.int .i64)))])], digest_Words_L2⟩
    | 0 => some ⟨[(3, .f (.own 0)), (11, .f (.v (.rs 3))), (12, .f (.v (.int .i64))), (13, .f (.v (.int .i64)))], [(.exit 0, [(3, .f (.own 0))])], digest_Words_L0⟩
    | _ => none, fun r => match r with
    | _ => none, fun r => match r with
    | _ => false⟩

theorem digest_Words_L2_eq (y0 : (List (UInt8))) (y1 : (BitVec 64)) (y2 : (List (BitVec 64))) (y3 : Int) (y4 : Int) (y5 : Int) : run E_digest_Words A_digest_Words (loopAt 2 (Try.f31.body.getD .skip)) (lay cd [(3, .f (.own 0)), (5, .f (.v .u64)), (11, .f (.v (.rs 3))), (12, .f (.v (.int .i64))), (13, .f (.v (.int .i64))), (17, .f (.v (.int .i64)))] (y0, y1, y2, y3, y4, y5, ())) (roundK cd [(3, .f (.own 0)), (5, .f (.v .u64)), (11, .f (.v (.rs 3))), (12, .f (.v (.int .i64))), (13, .f (.v (.int .i64))), (17, .f (.v (.int .i64)))] [(.exit 2, [(3, .f (.own 0)), (11, .f (.v (.rs 3))), (12, .f (.v (.int .i64))), (13, .f (.v (.int .i64)))])]) = digest_Words_L2b y0 y1 y2 y3 y4 y5 := by kernel_rfl

theorem digest_Words_L0_eq (y0 : (List (UInt8))) (y1 : (List (BitVec 64))) (y2 : Int) (y3 : Int) : run E_digest_Words A_digest_Words (loopAt 0 (Try.f31.body.getD .skip)) (lay cd [(3, .f (.own 0)), (11, .f (.v (.rs 3))), (12, .f (.v (.int .i64))), (13, .f (.v (.int .i64)))] (y0, y1, y2, y3, ())) (roundK cd [(3, .f (.own 0)), (11, .f (.v (.rs 3))), (12, .f (.v (.int .i64))), (13, .f (.v (.int .i64)))] [(.exit 0, [(3, .f (.own 0))])]) = digest_Words_L0b y0 y1 y2 y3 := by kernel_rfl

theorem digest_Words_eq (x : tySs T S_digest_Words.ps) : run E_digest_Words A_digest_Words (Try.f31.body.getD .skip) (enterT E_digest_Words.C S_digest_Words.ps x) (retK E_digest_Words Try.f31.results.toList S_digest_Words.ps S_digest_Words.rs) = S_digest_Words.fn x := by kernel_rfl

theorem digest_Words_env : EnvOk Try.prog E_digest_Words := envOk (E := E_digest_Words) cd_ok tys fl_ok fun f ds S h => by cases h

theorem digest_Words_L2_ok : LoopOk Try.prog E_digest_Words Try.f31.ntmps (kqOf S_digest_Words.ps 0) (loopAt 2 (Try.f31.body.getD .skip)) ⟨[(3, .f (.own 0)), (5, .f (.v .u64)), (11, .f (.v (.rs 3))), (12, .f (.v (.int .i64))), (13, .f (.v (.int .i64))), (17, .f (.v (.int .i64)))], [(.exit 2, [(3, .f (.own 0)), (11, .f (.v (.rs 3))), (12, .f (.v (.int .i64))), (13, .f (.v (.int .i64)))])], digest_Words_L2⟩ :=
  loop_ok (A := A_digest_Words) (done := []) (c0 := (Try.f31.body.getD .skip)) hmix digest_Words_env done_nil rounds (by kernel_rfl) (by kernel_rfl) (fun x => digest_Words_L2_eq x.1 x.2.1 x.2.2.1 x.2.2.2.1 x.2.2.2.2.1 x.2.2.2.2.2.1) (fun _ => rfl)

theorem digest_Words_L0_ok : LoopOk Try.prog E_digest_Words Try.f31.ntmps (kqOf S_digest_Words.ps 0) (loopAt 0 (Try.f31.body.getD .skip)) ⟨[(3, .f (.own 0)), (11, .f (.v (.rs 3))), (12, .f (.v (.int .i64))), (13, .f (.v (.int .i64)))], [(.exit 0, [(3, .f (.own 0))])], digest_Words_L0⟩ :=
  loop_ok (A := A_digest_Words) (done := [2]) (c0 := (Try.f31.body.getD .skip)) hmix digest_Words_env (done_cons rfl digest_Words_L2_ok done_nil) rounds (by kernel_rfl) (by kernel_rfl) (fun x => digest_Words_L0_eq x.1 x.2.1 x.2.2.1 x.2.2.2.1) (fun _ => rfl)

theorem digest_Words_ok : SoundT Try.prog cd gdn 31 S_digest_Words :=
  sound_fn (E := E_digest_Words) (A := A_digest_Words) (done := [2, 0]) (c := (Try.f31.body.getD .skip)) (S := S_digest_Words) (fn := Try.f31) hmix digest_Words_env Try.func31 rfl (by kernel_rfl) (by kernel_rfl) (done_cons rfl digest_Words_L2_ok (done_cons rfl digest_Words_L0_ok done_nil)) (by kernel_rfl) (by kernel_rfl) digest_Words_eq

def digest_little_L0b (y0 : (BitVec 64)) (y1 : (List (UInt8))) (y2 : Int) (y3 : Int) : Option (((BitVec 64) × (List (UInt8)) × Int × Int × Unit) ⊕ ((BitVec 64) × Unit)) :=
 (bif (decide (y3 < y2)) then ((getI y1 y3).bind fun x1 => (bif decide ((0 : Int) ≤ (IntKind.wrap .i64 ((8 : Int) * y3))) then (let v2 : BitVec 64 := ((BitVec.setWidth 64 x1.toBitVec) <<< ((IntKind.wrap .i64 ((8 : Int) * y3))).toNat)
 (some (Sum.inl ((y0 ||| v2), y1, y2, (IntKind.wrap .i64 (y3 + (1 : Int))), ()))))
 else none))
 else (some (Sum.inr (y0, ()))))

def digest_little_L0 (y : ((BitVec 64) × (List (UInt8)) × Int × Int × Unit)) : Option ((BitVec 64) × Unit) := iter (fun (y : ((BitVec 64) × (List (UInt8)) × Int × Int × Unit)) => digest_little_L0b y.1 y.2.1 y.2.2.1 y.2.2.2.1) rounds y

def digest_little (a0 : (List (UInt8))) : Option ((Unit) × ((BitVec 64) × Unit)) :=
 ((digest_little_L0 (0#64, a0, ((a0).length : Int), (0 : Int), ())).bind (fun (z3 : ((BitVec 64) × Unit)) => (some ((), (z3.1, ())))))

def S_digest_little : FSpec T := ⟨[.f (.v (.rs 0))], [(.v .u64)], fun x => digest_little x.1⟩

def E_digest_little : Env T := ⟨tab.find, cd, globs, flc, fun f ds => match f with
    | _ => none, fun f => match f with
    | _ => false⟩

def A_digest_little : Loc2 T := ⟨fun id => match id with
    | 0 => some ⟨[(3, .f (.v .u64)), (6, .f (.v (.rs 0))), (7, .f (.v (.int .i64))), (8, .f (.v (.int .i64)))], [(.exit 0, [(3, .f (.v .u64))])], digest_little_L0⟩
    | _ => none, fun r => match r with
    | _ => none, fun r => match r with
    | _ => false⟩

theorem digest_little_L0_eq (y0 : (BitVec 64)) (y1 : (List (UInt8))) (y2 : Int) (y3 : Int) : run E_digest_little A_digest_little (loopAt 0 (Try.f52.body.getD .skip)) (lay cd [(3, .f (.v .u64)), (6, .f (.v (.rs 0))), (7, .f (.v (.int .i64))), (8, .f (.v (.int .i64)))] (y0, y1, y2, y3, ())) (roundK cd [(3, .f (.v .u64)), (6, .f (.v (.rs 0))), (7, .f (.v (.int .i64))), (8, .f (.v (.int .i64)))] [(.exit 0, [(3, .f (.v .u64))])]) = digest_little_L0b y0 y1 y2 y3 := by kernel_rfl

theorem digest_little_eq (x : tySs T S_digest_little.ps) : run E_digest_little A_digest_little (Try.f52.body.getD .skip) (enterT E_digest_little.C S_digest_little.ps x) (retK E_digest_little Try.f52.results.toList S_digest_little.ps S_digest_little.rs) = S_digest_little.fn x := by kernel_rfl

theorem digest_little_env : EnvOk Try.prog E_digest_little := envOk (E := E_digest_little) cd_ok tys fl_ok fun f ds S h => by cases h

theorem digest_little_L0_ok : LoopOk Try.prog E_digest_little Try.f52.ntmps (kqOf S_digest_little.ps 0) (loopAt 0 (Try.f52.body.getD .skip)) ⟨[(3, .f (.v .u64)), (6, .f (.v (.rs 0))), (7, .f (.v (.int .i64))), (8, .f (.v (.int .i64)))], [(.exit 0, [(3, .f (.v .u64))])], digest_little_L0⟩ :=
  loop_ok (A := A_digest_little) (done := []) (c0 := (Try.f52.body.getD .skip)) hmix digest_little_env done_nil rounds (by kernel_rfl) (by kernel_rfl) (fun x => digest_little_L0_eq x.1 x.2.1 x.2.2.1 x.2.2.2.1) (fun _ => rfl)

theorem digest_little_ok : SoundT Try.prog cd gdn 52 S_digest_little :=
  sound_fn (E := E_digest_little) (A := A_digest_little) (done := [0]) (c := (Try.f52.body.getD .skip)) (S := S_digest_little) (fn := Try.f52) hmix digest_little_env Try.func52 rfl (by kernel_rfl) (by kernel_rfl) (done_cons rfl digest_little_L0_ok done_nil) (by kernel_rfl) (by kernel_rfl) digest_little_eq

def math_bits_RotateLeft64 (a0 : (BitVec 64)) (a1 : Int) : Option ((Unit) × ((BitVec 64) × Unit)) :=
 (let v1 : BitVec 64 := ((a0 <<< ((BitVec.ofInt 64 a1) &&& 63#64).toNat) ||| (a0 >>> (64#64 - ((BitVec.ofInt 64 a1) &&& 63#64)).toNat))
 (some ((), (v1, ()))))

def S_math_bits_RotateLeft64 : FSpec T := ⟨[.f (.v .u64), .f (.v (.int .i64))], [(.v .u64)], fun x => math_bits_RotateLeft64 x.1 x.2.1⟩

def E_math_bits_RotateLeft64 : Env T := ⟨tab.find, cd, globs, flc, fun f ds => match f with
    | _ => none, fun f => match f with
    | _ => false⟩

def A_math_bits_RotateLeft64 : Loc2 T := ⟨fun id => match id with
    | _ => none, fun r => match r with
    | _ => none, fun r => match r with
    | _ => false⟩

theorem math_bits_RotateLeft64_eq (x : tySs T S_math_bits_RotateLeft64.ps) : run E_math_bits_RotateLeft64 A_math_bits_RotateLeft64 (Try.f55.body.getD .skip) (enterT E_math_bits_RotateLeft64.C S_math_bits_RotateLeft64.ps x) (retK E_math_bits_RotateLeft64 Try.f55.results.toList S_math_bits_RotateLeft64.ps S_math_bits_RotateLeft64.rs) = S_math_bits_RotateLeft64.fn x := by kernel_rfl

theorem math_bits_RotateLeft64_env : EnvOk Try.prog E_math_bits_RotateLeft64 := envOk (E := E_math_bits_RotateLeft64) cd_ok tys fl_ok fun f ds S h => by cases h

theorem math_bits_RotateLeft64_ok : SoundT Try.prog cd gdn 55 S_math_bits_RotateLeft64 :=
  sound_fn (E := E_math_bits_RotateLeft64) (A := A_math_bits_RotateLeft64) (done := []) (c := (Try.f55.body.getD .skip)) (S := S_math_bits_RotateLeft64) (fn := Try.f55) hmix math_bits_RotateLeft64_env Try.func55 rfl (by kernel_rfl) (by kernel_rfl) done_nil (by kernel_rfl) (by kernel_rfl) math_bits_RotateLeft64_eq

def digest_state_rounds_L0b (y0 : (DigestState × Unit)) (y1 : Int) (y2 : Int) : Option (((DigestState × Unit) × Int × Int × Unit) ⊕ ((DigestState × Unit) × Unit)) :=
 (bif (decide (y2 < y1)) then ((math_bits_RotateLeft64 y0.1.v1 (13 : Int)).bind fun r1 => ((math_bits_RotateLeft64 (y0.1.v0 + y0.1.v1) (32 : Int)).bind fun r2 => ((math_bits_RotateLeft64 y0.1.v3 (16 : Int)).bind fun r3 => ((math_bits_RotateLeft64 (r3.2.1 ^^^ (y0.1.v2 + y0.1.v3)) (21 : Int)).bind fun r4 => ((math_bits_RotateLeft64 (r1.2.1 ^^^ (y0.1.v0 + y0.1.v1)) (17 : Int)).bind fun r5 => (let v6 : BitVec 64 := (r5.2.1 ^^^ ((y0.1.v2 + y0.1.v3) + (r1.2.1 ^^^ (y0.1.v0 + y0.1.v1))))
 ((math_bits_RotateLeft64 ((y0.1.v2 + y0.1.v3) + (r1.2.1 ^^^ (y0.1.v0 + y0.1.v1))) (32 : Int)).bind fun r7 => (some (Sum.inl (((⟨(r2.2.1 + (r3.2.1 ^^^ (y0.1.v2 + y0.1.v3))), v6, r7.2.1, (r4.2.1 ^^^ (r2.2.1 + (r3.2.1 ^^^ (y0.1.v2 + y0.1.v3))))⟩ : DigestState), ()), y1, (IntKind.wrap .i64 (y2 + (1 : Int))), ()))))))))))
 else (some (Sum.inr ((y0.1, ()), ()))))

def digest_state_rounds_L0 (y : ((DigestState × Unit) × Int × Int × Unit)) : Option ((DigestState × Unit) × Unit) := iter (fun (y : ((DigestState × Unit) × Int × Int × Unit)) => digest_state_rounds_L0b y.1 y.2.1 y.2.2.1) rounds y

def digest_state_rounds (a0 : (DigestState × Unit)) (a1 : Int) : Option (((DigestState × Unit) × Unit) × (Unit)) :=
 ((digest_state_rounds_L0 ((a0.1, ()), a1, (0 : Int), ())).bind (fun (z8 : ((DigestState × Unit) × Unit)) => (some (((z8.1.1, ()), ()), ()))))

def S_digest_state_rounds : FSpec T := ⟨[.ptr [(.v (.agg 4))], .f (.v (.int .i64))], [], fun x => digest_state_rounds x.1 x.2.1⟩

def E_digest_state_rounds : Env T := ⟨tab.find, cd, globs, flc, fun f ds => match f with
    | 55 => some S_math_bits_RotateLeft64
    | _ => none, fun f => match f with
    | 55 => true
    | _ => false⟩

def A_digest_state_rounds : Loc2 T := ⟨fun id => match id with
    | 0 => some ⟨[(0, .ptr [(.v (.agg 4))]), (4, .f (.v (.int .i64))), (5, .f (.v (.int .i64)))], [(.exit 0, [(0, .ptr [(.v (.agg 4))])])], digest_state_rounds_L0⟩
    | _ => none, fun r => match r with
    | _ => none, fun r => match r with
    | _ => false⟩

theorem digest_state_rounds_L0_eq (y0 : (DigestState × Unit)) (y1 : Int) (y2 : Int) : run E_digest_state_rounds A_digest_state_rounds (loopAt 0 (Try.f53.body.getD .skip)) (lay cd [(0, .ptr [(.v (.agg 4))]), (4, .f (.v (.int .i64))), (5, .f (.v (.int .i64)))] (y0, y1, y2, ())) (roundK cd [(0, .ptr [(.v (.agg 4))]), (4, .f (.v (.int .i64))), (5, .f (.v (.int .i64)))] [(.exit 0, [(0, .ptr [(.v (.agg 4))])])]) = digest_state_rounds_L0b y0 y1 y2 := by kernel_rfl

theorem digest_state_rounds_eq (x : tySs T S_digest_state_rounds.ps) : run E_digest_state_rounds A_digest_state_rounds (Try.f53.body.getD .skip) (enterT E_digest_state_rounds.C S_digest_state_rounds.ps x) (retK E_digest_state_rounds Try.f53.results.toList S_digest_state_rounds.ps S_digest_state_rounds.rs) = S_digest_state_rounds.fn x := by kernel_rfl

theorem digest_state_rounds_env : EnvOk Try.prog E_digest_state_rounds := envOk (E := E_digest_state_rounds) cd_ok tys fl_ok fun f ds S h => by
    dsimp only [E_digest_state_rounds] at h
    split at h
    · cases h; exact math_bits_RotateLeft64_ok
    · cases h

theorem digest_state_rounds_L0_ok : LoopOk Try.prog E_digest_state_rounds Try.f53.ntmps (kqOf S_digest_state_rounds.ps 0) (loopAt 0 (Try.f53.body.getD .skip)) ⟨[(0, .ptr [(.v (.agg 4))]), (4, .f (.v (.int .i64))), (5, .f (.v (.int .i64)))], [(.exit 0, [(0, .ptr [(.v (.agg 4))])])], digest_state_rounds_L0⟩ :=
  loop_ok (A := A_digest_state_rounds) (done := []) (c0 := (Try.f53.body.getD .skip)) hmix digest_state_rounds_env done_nil rounds (by kernel_rfl) (by kernel_rfl) (fun x => digest_state_rounds_L0_eq x.1 x.2.1 x.2.2.1) (fun _ => rfl)

theorem digest_state_rounds_ok : SoundT Try.prog cd gdn 53 S_digest_state_rounds :=
  sound_fn (E := E_digest_state_rounds) (A := A_digest_state_rounds) (done := [0]) (c := (Try.f53.body.getD .skip)) (S := S_digest_state_rounds) (fn := Try.f53) hmix digest_state_rounds_env Try.func53 rfl (by kernel_rfl) (by kernel_rfl) (done_cons rfl digest_state_rounds_L0_ok done_nil) (by kernel_rfl) (by kernel_rfl) digest_state_rounds_eq

def digest_state_absorb (a0 : (DigestState × Unit)) (a1 : (BitVec 64)) : Option (((DigestState × Unit) × Unit) × (Unit)) :=
 ((digest_state_rounds ((⟨a0.1.v0, a0.1.v1, a0.1.v2, (a0.1.v3 ^^^ a1)⟩ : DigestState), ()) (2 : Int)).bind fun r1 => (some ((((⟨(r1.1.1.1.v0 ^^^ a1), r1.1.1.1.v1, r1.1.1.1.v2, r1.1.1.1.v3⟩ : DigestState), ()), ()), ())))

def S_digest_state_absorb : FSpec T := ⟨[.ptr [(.v (.agg 4))], .f (.v .u64)], [], fun x => digest_state_absorb x.1 x.2.1⟩

def E_digest_state_absorb : Env T := ⟨tab.find, cd, globs, flc, fun f ds => match f with
    | 53 => some S_digest_state_rounds
    | _ => none, fun f => match f with
    | _ => false⟩

def A_digest_state_absorb : Loc2 T := ⟨fun id => match id with
    | _ => none, fun r => match r with
    | _ => none, fun r => match r with
    | _ => false⟩

theorem digest_state_absorb_eq (x : tySs T S_digest_state_absorb.ps) : run E_digest_state_absorb A_digest_state_absorb (Try.f51.body.getD .skip) (enterT E_digest_state_absorb.C S_digest_state_absorb.ps x) (retK E_digest_state_absorb Try.f51.results.toList S_digest_state_absorb.ps S_digest_state_absorb.rs) = S_digest_state_absorb.fn x := by kernel_rfl

theorem digest_state_absorb_env : EnvOk Try.prog E_digest_state_absorb := envOk (E := E_digest_state_absorb) cd_ok tys fl_ok fun f ds S h => by
    dsimp only [E_digest_state_absorb] at h
    split at h
    · cases h; exact digest_state_rounds_ok
    · cases h

theorem digest_state_absorb_ok : SoundT Try.prog cd gdn 51 S_digest_state_absorb :=
  sound_fn (E := E_digest_state_absorb) (A := A_digest_state_absorb) (done := []) (c := (Try.f51.body.getD .skip)) (S := S_digest_state_absorb) (fn := Try.f51) hmix digest_state_absorb_env Try.func51 rfl (by kernel_rfl) (by kernel_rfl) done_nil (by kernel_rfl) (by kernel_rfl) digest_state_absorb_eq

def digest_Sum_L0b (y0 : (List (UInt8))) (y1 : (DigestState × Unit)) (y2 : Int) (y3 : Int) (y4 : Int) : Option (((List (UInt8)) × (DigestState × Unit) × Int × Int × Int × Unit) ⊕ ((List (UInt8)) × (DigestState × Unit) × Int × Unit)) :=
 (bif (decide (y4 < y3)) then (let v1 : Int := (IntKind.wrap .i64 ((IntKind.wrap .i64 ((8 : Int) * y4)) + (8 : Int)))
 (bif (decide ((0 : Int) ≤ v1) && decide (v1 ≤ ((y0).length : Int))) then (bif (decide ((0 : Int) ≤ (IntKind.wrap .i64 ((8 : Int) * y4))) && decide ((IntKind.wrap .i64 ((8 : Int) * y4)) ≤ ((v1).toNat : Int))) then (let v2 : List (UInt8) := (List.drop ((IntKind.wrap .i64 ((8 : Int) * y4))).toNat (List.take (v1).toNat y0))
 ((digest_little v2).bind fun r3 => ((digest_state_absorb (y1.1, ()) r3.2.1).bind fun r4 => (some (Sum.inl (y0, (r4.1.1.1, ()), y2, y3, (IntKind.wrap .i64 (y4 + (1 : Int))), ()))))))
 else none)
 else none))
 else (some (Sum.inr (y0, (y1.1, ()), y2, ()))))

def digest_Sum_L0 (y : ((List (UInt8)) × (DigestState × Unit) × Int × Int × Int × Unit)) : Option ((List (UInt8)) × (DigestState × Unit) × Int × Unit) := iter (fun (y : ((List (UInt8)) × (DigestState × Unit) × Int × Int × Int × Unit)) => digest_Sum_L0b y.1 y.2.1 y.2.2.1 y.2.2.2.1 y.2.2.2.2.1) rounds y

def digest_Sum (a0 : (BitVec 64)) (a1 : (BitVec 64)) (a2 : (List (UInt8))) : Option ((Unit) × ((BitVec 64) × Unit)) :=
 ((digest_Sum_L0 (a2, ((⟨(a0 ^^^ 8317987319222330741#64), (a1 ^^^ 7237128888997146477#64), (a0 ^^^ 7816392313619706465#64), (a1 ^^^ 8387220255154660723#64)⟩ : DigestState), ()), (IntKind.wrap .i64 (Int.tdiv ((a2).length : Int) (8 : Int))), (IntKind.wrap .i64 (Int.tdiv ((a2).length : Int) (8 : Int))), (0 : Int), ())).bind (fun (z5 : ((List (UInt8)) × (DigestState × Unit) × Int × Unit)) => (bif (decide ((0 : Int) ≤ (IntKind.wrap .i64 ((8 : Int) * z5.2.2.1))) && decide ((IntKind.wrap .i64 ((8 : Int) * z5.2.2.1)) ≤ ((z5.1).length : Int))) then (let v6 : List (UInt8) := (List.drop ((IntKind.wrap .i64 ((8 : Int) * z5.2.2.1))).toNat z5.1)
 ((digest_little v6).bind fun r7 => (let v8 : BitVec 64 := (r7.2.1 ||| ((BitVec.ofInt 64 ((z5.1).length : Int)) <<< 56))
 ((digest_state_absorb (z5.2.1.1, ()) v8).bind fun r9 => ((digest_state_rounds ((⟨r9.1.1.1.v0, r9.1.1.1.v1, (r9.1.1.1.v2 ^^^ 255#64), r9.1.1.1.v3⟩ : DigestState), ()) (4 : Int)).bind fun r10 => (let v11 : BitVec 64 := (((r10.1.1.1.v0 ^^^ r10.1.1.1.v1) ^^^ r10.1.1.1.v2) ^^^ r10.1.1.1.v3)
 (some ((), (v11, ())))))))))
 else none)))

def S_digest_Sum : FSpec T := ⟨[.f (.v .u64), .f (.v .u64), .f (.v (.rs 0))], [(.v .u64)], fun x => digest_Sum x.1 x.2.1 x.2.2.1⟩

def E_digest_Sum : Env T := ⟨tab.find, cd, globs, flc, fun f ds => match f with
    | 51 => some S_digest_state_absorb
    | 52 => some S_digest_little
    | 53 => some S_digest_state_rounds
    | _ => none, fun f => match f with
    | 52 => true
    | _ => false⟩

def A_digest_Sum : Loc2 T := ⟨fun id => match id with
    | 0 => some ⟨[(2, .f (.v (.rs 0))), (7, .ptr [(.v (.agg 4))]), (8, .f (.v (.int .i64))), (22, .f (.v (.int .i64))), (23, .f (.v (.int .i64)))], [(.exit 0, [(2, .f (.v (.rs 0))), (7, .ptr [(.v (.agg 4))]), (8, .f (.v (.int .i64)))])], digest_Sum_L0⟩
    | _ => none, fun r => match r with
    | _ => none, fun r => match r with
    | _ => false⟩

theorem digest_Sum_L0_eq (y0 : (List (UInt8))) (y1 : (DigestState × Unit)) (y2 : Int) (y3 : Int) (y4 : Int) : run E_digest_Sum A_digest_Sum (loopAt 0 (Try.f49.body.getD .skip)) (lay cd [(2, .f (.v (.rs 0))), (7, .ptr [(.v (.agg 4))]), (8, .f (.v (.int .i64))), (22, .f (.v (.int .i64))), (23, .f (.v (.int .i64)))] (y0, y1, y2, y3, y4, ())) (roundK cd [(2, .f (.v (.rs 0))), (7, .ptr [(.v (.agg 4))]), (8, .f (.v (.int .i64))), (22, .f (.v (.int .i64))), (23, .f (.v (.int .i64)))] [(.exit 0, [(2, .f (.v (.rs 0))), (7, .ptr [(.v (.agg 4))]), (8, .f (.v (.int .i64)))])]) = digest_Sum_L0b y0 y1 y2 y3 y4 := by kernel_rfl

theorem digest_Sum_eq (x : tySs T S_digest_Sum.ps) : run E_digest_Sum A_digest_Sum (Try.f49.body.getD .skip) (enterT E_digest_Sum.C S_digest_Sum.ps x) (retK E_digest_Sum Try.f49.results.toList S_digest_Sum.ps S_digest_Sum.rs) = S_digest_Sum.fn x := by kernel_rfl

theorem digest_Sum_env : EnvOk Try.prog E_digest_Sum := envOk (E := E_digest_Sum) cd_ok tys fl_ok fun f ds S h => by
    dsimp only [E_digest_Sum] at h
    split at h
    · cases h; exact digest_state_absorb_ok
    · cases h; exact digest_little_ok
    · cases h; exact digest_state_rounds_ok
    · cases h

theorem digest_Sum_L0_ok : LoopOk Try.prog E_digest_Sum Try.f49.ntmps (kqOf S_digest_Sum.ps 0) (loopAt 0 (Try.f49.body.getD .skip)) ⟨[(2, .f (.v (.rs 0))), (7, .ptr [(.v (.agg 4))]), (8, .f (.v (.int .i64))), (22, .f (.v (.int .i64))), (23, .f (.v (.int .i64)))], [(.exit 0, [(2, .f (.v (.rs 0))), (7, .ptr [(.v (.agg 4))]), (8, .f (.v (.int .i64)))])], digest_Sum_L0⟩ :=
  loop_ok (A := A_digest_Sum) (done := []) (c0 := (Try.f49.body.getD .skip)) hmix digest_Sum_env done_nil rounds (by kernel_rfl) (by kernel_rfl) (fun x => digest_Sum_L0_eq x.1 x.2.1 x.2.2.1 x.2.2.2.1 x.2.2.2.2.1) (fun _ => rfl)

theorem digest_Sum_ok : SoundT Try.prog cd gdn 49 S_digest_Sum :=
  sound_fn (E := E_digest_Sum) (A := A_digest_Sum) (done := [0]) (c := (Try.f49.body.getD .skip)) (S := S_digest_Sum) (fn := Try.f49) hmix digest_Sum_env Try.func49 rfl (by kernel_rfl) (by kernel_rfl) (done_cons rfl digest_Sum_L0_ok done_nil) (by kernel_rfl) (by kernel_rfl) digest_Sum_eq

def digest_Mac (a0 : (BitVec 64)) (a1 : Int) (a2 : (List (UInt8))) : Option ((Unit) × ((BitVec 64) × Unit)) :=
 ((digest_Sum a0 (1#64 + (BitVec.ofInt 64 a1)) a2).bind fun r1 => (some ((), (r1.2.1, ()))))

def S_digest_Mac : FSpec T := ⟨[.f (.v .u64), .f (.v (.int .i64)), .f (.v (.rs 0))], [(.v .u64)], fun x => digest_Mac x.1 x.2.1 x.2.2.1⟩

def E_digest_Mac : Env T := ⟨tab.find, cd, globs, flc, fun f ds => match f with
    | 49 => some S_digest_Sum
    | _ => none, fun f => match f with
    | 49 => true
    | _ => false⟩

def A_digest_Mac : Loc2 T := ⟨fun id => match id with
    | _ => none, fun r => match r with
    | _ => none, fun r => match r with
    | _ => false⟩

theorem digest_Mac_eq (x : tySs T S_digest_Mac.ps) : run E_digest_Mac A_digest_Mac (Try.f32.body.getD .skip) (enterT E_digest_Mac.C S_digest_Mac.ps x) (retK E_digest_Mac Try.f32.results.toList S_digest_Mac.ps S_digest_Mac.rs) = S_digest_Mac.fn x := by kernel_rfl

theorem digest_Mac_env : EnvOk Try.prog E_digest_Mac := envOk (E := E_digest_Mac) cd_ok tys fl_ok fun f ds S h => by
    dsimp only [E_digest_Mac] at h
    split at h
    · cases h; exact digest_Sum_ok
    · cases h

theorem digest_Mac_ok : SoundT Try.prog cd gdn 32 S_digest_Mac :=
  sound_fn (E := E_digest_Mac) (A := A_digest_Mac) (done := []) (c := (Try.f32.body.getD .skip)) (S := S_digest_Mac) (fn := Try.f32) hmix digest_Mac_env Try.func32 rfl (by kernel_rfl) (by kernel_rfl) done_nil (by kernel_rfl) (by kernel_rfl) digest_Mac_eq

def session_Bytes (a0 : ApiSessions) (a1 : ApiSession) : Option ((Unit) × ((List (UInt8)) × Unit)) :=
 (let v1 : List (BitVec 64) := ([(BitVec.ofInt 64 a1.number), (BitVec.ofInt 64 a1.since)] : List (BitVec 64))
 ((digest_Words v1).bind fun r2 => (bif small ((r2.2.1).length + (a1.account : List (UInt8)).length) 1 then ((digest_Mac a0.secret (18 : Int) (r2.2.1 ++ a1.account)).bind fun r3 => ((digest_Words ([(BitVec.ofInt 64 a1.number), r3.2.1] : List (BitVec 64))).bind fun r4 => (some ((), (r4.2.1, ())))))
 else none)))

def S_session_Bytes : FSpec T := ⟨[.f (.v (.agg 2)), .f (.v (.agg 1))], [(.own 0)], fun x => session_Bytes x.1 x.2.1⟩

def E_session_Bytes : Env T := ⟨tab.find, cd, globs, flc, fun f ds => match f with
    | 31 => some S_digest_Words
    | 32 => some S_digest_Mac
    | _ => none, fun f => match f with
    | 32 => true
    | _ => false⟩

def A_session_Bytes : Loc2 T := ⟨fun id => match id with
    | _ => none, fun r => match r with
    | _ => none, fun r => match r with
    | _ => false⟩

theorem session_Bytes_eq (x : tySs T S_session_Bytes.ps) : run E_session_Bytes A_session_Bytes (Try.f8.body.getD .skip) (enterT E_session_Bytes.C S_session_Bytes.ps x) (retK E_session_Bytes Try.f8.results.toList S_session_Bytes.ps S_session_Bytes.rs) = S_session_Bytes.fn x := by kernel_rfl

theorem session_Bytes_env : EnvOk Try.prog E_session_Bytes := envOk (E := E_session_Bytes) cd_ok tys fl_ok fun f ds S h => by
    dsimp only [E_session_Bytes] at h
    split at h
    · cases h; exact digest_Words_ok
    · cases h; exact digest_Mac_ok
    · cases h

theorem session_Bytes_ok : SoundT Try.prog cd gdn 8 S_session_Bytes :=
  sound_fn (E := E_session_Bytes) (A := A_session_Bytes) (done := []) (c := (Try.f8.body.getD .skip)) (S := S_session_Bytes) (fn := Try.f8) hmix session_Bytes_env Try.func8 rfl (by kernel_rfl) (by kernel_rfl) done_nil (by kernel_rfl) (by kernel_rfl) session_Bytes_eq

def session_Open_L0b (y0 : (List UInt8)) (y1 : (List (UInt8))) (y2 : (BitVec 64)) (y3 : Int) (y4 : Int) (y5 : (ApiSessions × Unit)) (y6 : (ApiSessions × Unit)) (y7 : (Int × Unit)) (y8 : (List (ApiSession))) (y9 : Int) (y10 : Int) : Option (((List UInt8) × (List (UInt8)) × (BitVec 64) × Int × Int × (ApiSessions × Unit) × (ApiSessions × Unit) × (Int × Unit) × (List (ApiSession)) × Int × Int × Unit) ⊕ ((List UInt8) × (List (UInt8)) × (BitVec 64) × Int × Int × (ApiSessions × Unit) × (ApiSessions × Unit) × (Int × Unit) × Unit)) :=
 (bif (decide (y10 < y9)) then ((getI y8 y10).bind fun x4 => (some (Sum.inl (y0, y1, y2, y3, y4, (y5.1, ()), (y6.1, ()), ((bif decide (x4.number < y7.1) then x4.number else y7.1), ()), y8, y9, (IntKind.wrap .i64 (y10 + (1 : Int))), ()))))
 else (some (Sum.inr (y0, y1, y2, y3, y4, (y5.1, ()), (y6.1, ()), (y7.1, ()), ()))))

def session_Open_L0 (y : ((List UInt8) × (List (UInt8)) × (BitVec 64) × Int × Int × (ApiSessions × Unit) × (ApiSessions × Unit) × (Int × Unit) × (List (ApiSession)) × Int × Int × Unit)) : Option ((List UInt8) × (List (UInt8)) × (BitVec 64) × Int × Int × (ApiSessions × Unit) × (ApiSessions × Unit) × (Int × Unit) × Unit) := iter (fun (y : ((List UInt8) × (List (UInt8)) × (BitVec 64) × Int × Int × (ApiSessions × Unit) × (ApiSessions × Unit) × (Int × Unit) × (List (ApiSession)) × Int × Int × Unit)) => session_Open_L0b y.1 y.2.1 y.2.2.1 y.2.2.2.1 y.2.2.2.2.1 y.2.2.2.2.2.1 y.2.2.2.2.2.2.1 y.2.2.2.2.2.2.2.1 y.2.2.2.2.2.2.2.2.1 y.2.2.2.2.2.2.2.2.2.1 y.2.2.2.2.2.2.2.2.2.2.1) rounds y

def session_Open (a0 : ApiSessions) (a1 : (List UInt8)) (a2 : (List (UInt8))) (a3 : (BitVec 64)) (a4 : Int) (a5 : Int) : Option ((Unit) × (ApiSessions × (List (UInt8)) × Int × Unit)) :=
 ((session_isTime a4).bind fun r1 => (bif (!r1.2.1) then (some ((), (a0, [], (9 : Int), ())))
 else (bif (decide (a5 < (1 : Int))) then (some ((), (a0, [], (9 : Int), ())))
 else (bif (decide ((1099511627776 : Int) < a5)) then (some ((), (a0, [], (9 : Int), ())))
 else ((session_Expire a0 a4).bind fun r2 => ((bif (decide ((32 : Int) ≤ ((r2.2.1.2.1).length : Int))) then (bif decide ((0 : Int) < ((r2.2.1.2.1).length : Int)) then (((r2.2.1.2.1)[0]?).bind fun x3 => ((session_Open_L0 (a1, a2, a3, a4, a5, ((⟨0#64, (0 : Int), []⟩ : ApiSessions), ()), ((⟨r2.2.1.1.1, r2.2.1.1.2.1, r2.2.1.2.1⟩ : ApiSessions), ()), (x3.number, ()), r2.2.1.2.1, ((r2.2.1.2.1).length : Int), (0 : Int), ())).bind (fun (z5 : ((List UInt8) × (List (UInt8)) × (BitVec 64) × Int × Int × (ApiSessions × Unit) × (ApiSessions × Unit) × (Int × Unit) × Unit)) => ((session_filter_1 z5.2.2.2.2.2.2.1.1 z5.2.2.2.2.2.2.2.1.1).bind fun r6 => (some (z5.1, z5.2.1, z5.2.2.1, z5.2.2.2.1, z5.2.2.2.2.1, (z5.2.2.2.2.2.1.1, ()), (r6.2.1.1.1, r6.2.1.1.2.1, r6.2.1.2.1, ()), ()))))))
 else none)
 else (some (a1, a2, a3, a4, a5, ((⟨0#64, (0 : Int), []⟩ : ApiSessions), ()), (r2.2.1.1.1, r2.2.1.1.2.1, r2.2.1.2.1, ()), ()))).bind (fun (j7 : ((List UInt8) × (List (UInt8)) × (BitVec 64) × Int × Int × (ApiSessions × Unit) × ((BitVec 64) × Int × (List (ApiSession)) × Unit) × Unit)) => ((bytes_Clone j7.2.1).bind fun r8 => (let v9 : Int := (bif decide ((1099511627776 : Int) < (IntKind.wrap .i64 (j7.2.2.2.1 + j7.2.2.2.2.1))) then (1099511627776 : Int) else (IntKind.wrap .i64 (j7.2.2.2.1 + j7.2.2.2.2.1)))
 ((let v10 : List (ApiSession) := ([(⟨j7.2.2.2.2.2.2.1.2.1, j7.1, r8.2.1, j7.2.2.1, j7.2.2.2.1, v9⟩ : ApiSession)] : List (ApiSession))
 (bif small ((j7.2.2.2.2.2.2.1.2.2.1).length + (v10 : List (ApiSession)).length) 72 then (some ((j7.2.2.2.2.2.1.1, ()), ((⟨j7.2.2.2.2.2.2.1.1, (IntKind.wrap .i64 (j7.2.2.2.2.2.2.1.2.1 + (1 : Int))), (j7.2.2.2.2.2.2.1.2.2.1 ++ v10)⟩ : ApiSessions), ()), ((⟨j7.2.2.2.2.2.2.1.2.1, j7.1, r8.2.1, j7.2.2.1, j7.2.2.2.1, v9⟩ : ApiSession), ()), ()))
 else none)).bind (fun (j11 : ((ApiSessions × Unit) × (ApiSessions × Unit) × (ApiSession × Unit) × Unit)) => ((session_Bytes j11.2.1.1 j11.2.2.1.1).bind fun r12 => (some ((), (j11.2.1.1, r12.2.1, (0 : Int), ())))))))))))))))

def S_session_Open : FSpec T := ⟨[.f (.v (.agg 2)), .f (.v .str), .f (.v (.rs 0)), .f (.v .u64), .f (.v (.int .i64)), .f (.v (.int .i64))], [(.v (.agg 2)), (.own 0), (.v (.int .i64))], fun x => session_Open x.1 x.2.1 x.2.2.1 x.2.2.2.1 x.2.2.2.2.1 x.2.2.2.2.2.1⟩

def E_session_Open : Env T := ⟨tab.find, cd, globs, flc, fun f ds => match f with
    | 8 => some S_session_Bytes
    | 28 => some S_session_Expire
    | 35 => some S_session_isTime
    | 36 => match fnAt ds 1 with
      | some 37 => some S_session_filter_1
      | _ => none
    | 38 => some S_bytes_Clone
    | _ => none, fun f => match f with
    | 35 => true
    | _ => false⟩

def A_session_Open : Loc2 T := ⟨fun id => match id with
    | 0 => some ⟨[(1, .f (.v .str)), (2, .f (.v (.rs 0))), (3, .f (.v .u64)), (4, .f (.v (.int .i64))), (5, .f (.v (.int .i64))), (12, .ptr [(.v (.agg 2))]), (15, .ptr [(.v (.agg 2))]), (16, .ptr [(.v (.int .i64))]), (45, .f (.v (.rs 1))), (46, .f (.v (.int .i64))), (47, .f (.v (.int .i64)))], [(.exit 0, [(1, .f (.v .str)), (2, .f (.v (.rs 0))), (3, .f (.v .u64)), (4, .f (.v (.int .i64))), (5, .f (.v (.int .i64))), (12, .ptr [(.v (.agg 2))]), (15, .ptr [(.v (.agg 2))]), (16, .ptr [(.v (.int .i64))])])], session_Open_L0⟩
    | _ => none, fun r => match r with
    | 12 => some ([(1, .f (.v .str)), (2, .f (.v (.rs 0))), (3, .f (.v .u64)), (4, .f (.v (.int .i64))), (5, .f (.v (.int .i64))), (12, .ptr [(.v (.agg 2))]), (15, .ptr [(.v .u64), (.v (.int .i64)), (.own 1)])], true)
    | 15 => some ([(12, .ptr [(.v (.agg 2))]), (15, .ptr [(.v (.agg 2))]), (19, .ptr [(.v (.agg 1))])], true)
    | _ => none, fun r => match r with
    | 12 => true
    | 15 => true
    | _ => false⟩

theorem session_Open_L0_eq (y0 : (List UInt8)) (y1 : (List (UInt8))) (y2 : (BitVec 64)) (y3 : Int) (y4 : Int) (y5 : (ApiSessions × Unit)) (y6 : (ApiSessions × Unit)) (y7 : (Int × Unit)) (y8 : (List (ApiSession))) (y9 : Int) (y10 : Int) : run E_session_Open A_session_Open (loopAt 0 (Try.f11.body.getD .skip)) (lay cd [(1, .f (.v .str)), (2, .f (.v (.rs 0))), (3, .f (.v .u64)), (4, .f (.v (.int .i64))), (5, .f (.v (.int .i64))), (12, .ptr [(.v (.agg 2))]), (15, .ptr [(.v (.agg 2))]), (16, .ptr [(.v (.int .i64))]), (45, .f (.v (.rs 1))), (46, .f (.v (.int .i64))), (47, .f (.v (.int .i64)))] (y0, y1, y2, y3, y4, y5, y6, y7, y8, y9, y10, ())) (roundK cd [(1, .f (.v .str)), (2, .f (.v (.rs 0))), (3, .f (.v .u64)), (4, .f (.v (.int .i64))), (5, .f (.v (.int .i64))), (12, .ptr [(.v (.agg 2))]), (15, .ptr [(.v (.agg 2))]), (16, .ptr [(.v (.int .i64))]), (45, .f (.v (.rs 1))), (46, .f (.v (.int .i64))), (47, .f (.v (.int .i64)))] [(.exit 0, [(1, .f (.v .str)), (2, .f (.v (.rs 0))), (3, .f (.v .u64)), (4, .f (.v (.int .i64))), (5, .f (.v (.int .i64))), (12, .ptr [(.v (.agg 2))]), (15, .ptr [(.v (.agg 2))]), (16, .ptr [(.v (.int .i64))])])]) = session_Open_L0b y0 y1 y2 y3 y4 y5 y6 y7 y8 y9 y10 := by kernel_rfl

theorem session_Open_eq (x : tySs T S_session_Open.ps) : run E_session_Open A_session_Open (Try.f11.body.getD .skip) (enterT E_session_Open.C S_session_Open.ps x) (retK E_session_Open Try.f11.results.toList S_session_Open.ps S_session_Open.rs) = S_session_Open.fn x := by kernel_rfl

theorem session_Open_env : EnvOk Try.prog E_session_Open := envOk (E := E_session_Open) cd_ok tys fl_ok fun f ds S h => by
    dsimp only [E_session_Open] at h
    split at h
    · cases h; exact session_Bytes_ok
    · cases h; exact session_Expire_ok
    · cases h; exact session_isTime_ok
    · split at h
      · cases h; exact session_filter_1_ok
      · cases h
    · cases h; exact bytes_Clone_ok
    · cases h

theorem session_Open_L0_ok : LoopOk Try.prog E_session_Open Try.f11.ntmps (kqOf S_session_Open.ps 0) (loopAt 0 (Try.f11.body.getD .skip)) ⟨[(1, .f (.v .str)), (2, .f (.v (.rs 0))), (3, .f (.v .u64)), (4, .f (.v (.int .i64))), (5, .f (.v (.int .i64))), (12, .ptr [(.v (.agg 2))]), (15, .ptr [(.v (.agg 2))]), (16, .ptr [(.v (.int .i64))]), (45, .f (.v (.rs 1))), (46, .f (.v (.int .i64))), (47, .f (.v (.int .i64)))], [(.exit 0, [(1, .f (.v .str)), (2, .f (.v (.rs 0))), (3, .f (.v .u64)), (4, .f (.v (.int .i64))), (5, .f (.v (.int .i64))), (12, .ptr [(.v (.agg 2))]), (15, .ptr [(.v (.agg 2))]), (16, .ptr [(.v (.int .i64))])])], session_Open_L0⟩ :=
  loop_ok (A := A_session_Open) (done := []) (c0 := (Try.f11.body.getD .skip)) hmix session_Open_env done_nil rounds (by kernel_rfl) (by kernel_rfl) (fun x => session_Open_L0_eq x.1 x.2.1 x.2.2.1 x.2.2.2.1 x.2.2.2.2.1 x.2.2.2.2.2.1 x.2.2.2.2.2.2.1 x.2.2.2.2.2.2.2.1 x.2.2.2.2.2.2.2.2.1 x.2.2.2.2.2.2.2.2.2.1 x.2.2.2.2.2.2.2.2.2.2.1) (fun _ => rfl)

theorem session_Open_ok : SoundT Try.prog cd gdn 11 S_session_Open :=
  sound_fn (E := E_session_Open) (A := A_session_Open) (done := [0]) (c := (Try.f11.body.getD .skip)) (S := S_session_Open) (fn := Try.f11) hmix session_Open_env Try.func11 rfl (by kernel_rfl) (by kernel_rfl) (done_cons rfl session_Open_L0_ok done_nil) (by kernel_rfl) (by kernel_rfl) session_Open_eq

def bytes_Equal (a0 : (List (UInt8))) (a1 : (List (UInt8))) : Option ((Unit) × (Bool × Unit)) :=
 (some ((), ((decide (a0 = a1)), ())))

def S_bytes_Equal : FSpec T := ⟨[.f (.v (.rs 0)), .f (.v (.rs 0))], [(.v .bool)], fun x => bytes_Equal x.1 x.2.1⟩

def E_bytes_Equal : Env T := ⟨tab.find, cd, globs, flc, fun f ds => match f with
    | _ => none, fun f => match f with
    | _ => false⟩

def A_bytes_Equal : Loc2 T := ⟨fun id => match id with
    | _ => none, fun r => match r with
    | _ => none, fun r => match r with
    | _ => false⟩

theorem bytes_Equal_eq (x : tySs T S_bytes_Equal.ps) : run E_bytes_Equal A_bytes_Equal (Try.f47.body.getD .skip) (enterT E_bytes_Equal.C S_bytes_Equal.ps x) (retK E_bytes_Equal Try.f47.results.toList S_bytes_Equal.ps S_bytes_Equal.rs) = S_bytes_Equal.fn x := by kernel_rfl

theorem bytes_Equal_env : EnvOk Try.prog E_bytes_Equal := envOk (E := E_bytes_Equal) cd_ok tys fl_ok fun f ds S h => by cases h

theorem bytes_Equal_ok : SoundT Try.prog cd gdn 47 S_bytes_Equal :=
  sound_fn (E := E_bytes_Equal) (A := A_bytes_Equal) (done := []) (c := (Try.f47.body.getD .skip)) (S := S_bytes_Equal) (fn := Try.f47) hmix bytes_Equal_env Try.func47 rfl (by kernel_rfl) (by kernel_rfl) done_nil (by kernel_rfl) (by kernel_rfl) bytes_Equal_eq

def session_find_L0b (y0 : (List (UInt8))) (y1 : (ApiSessions × Unit)) (y2 : (ApiSession × Unit)) (y3 : (List (ApiSession))) (y4 : Int) (y5 : Int) : Option (((List (UInt8)) × (ApiSessions × Unit) × (ApiSession × Unit) × (List (ApiSession)) × Int × Int × Unit) ⊕ (((ApiSession × Unit) × Bool × Unit) ⊕ ((ApiSession × Unit) × Unit))) :=
 (bif (decide (y5 < y4)) then ((getI y3 y5).bind fun x1 => ((session_Bytes y1.1 x1).bind fun r2 => ((bytes_Equal r2.2.1 y0).bind fun r3 => (bif r3.2.1 then (some (Sum.inr (Sum.inl ((x1, ()), true, ()))))
 else (some (Sum.inl (y0, (y1.1, ()), (y2.1, ()), y3, y4, (IntKind.wrap .i64 (y5 + (1 : Int))), ())))))))
 else (some (Sum.inr (Sum.inr ((y2.1, ()), ())))))

def session_find_L0 (y : ((List (UInt8)) × (ApiSessions × Unit) × (ApiSession × Unit) × (List (ApiSession)) × Int × Int × Unit)) : Option (((ApiSession × Unit) × Bool × Unit) ⊕ ((ApiSession × Unit) × Unit)) := iter (fun (y : ((List (UInt8)) × (ApiSessions × Unit) × (ApiSession × Unit) × (List (ApiSession)) × Int × Int × Unit)) => session_find_L0b y.1 y.2.1 y.2.2.1 y.2.2.2.1 y.2.2.2.2.1 y.2.2.2.2.2.1) rounds y

def session_find (a0 : ApiSessions) (a1 : (List (UInt8))) : Option ((Unit) × (ApiSession × Bool × Unit)) :=
 ((session_find_L0 (a1, (a0, ()), ((⟨(0 : Int), ([] : List UInt8), [], 0#64, (0 : Int), (0 : Int)⟩ : ApiSession), ()), a0.open_, ((a0.open_).length : Int), (0 : Int), ())).bind (Sum.elim (fun (z4 : ((ApiSession × Unit) × Bool × Unit)) => (some ((), (z4.1.1, z4.2.1, ())))) (fun (z5 : ((ApiSession × Unit) × Unit)) => (some ((), ((⟨(0 : Int), ([] : List UInt8), [], 0#64, (0 : Int), (0 : Int)⟩ : ApiSession), false, ()))))))

def S_session_find : FSpec T := ⟨[.f (.v (.agg 2)), .f (.v (.rs 0))], [(.v (.agg 1)), (.v .bool)], fun x => session_find x.1 x.2.1⟩

def E_session_find : Env T := ⟨tab.find, cd, globs, flc, fun f ds => match f with
    | 8 => some S_session_Bytes
    | 47 => some S_bytes_Equal
    | _ => none, fun f => match f with
    | 47 => true
    | _ => false⟩

def A_session_find : Loc2 T := ⟨fun id => match id with
    | 0 => some ⟨[(1, .f (.v (.rs 0))), (2, .ptr [(.v (.agg 2))]), (4, .ptr [(.v (.agg 1))]), (9, .f (.v (.rs 1))), (10, .f (.v (.int .i64))), (11, .f (.v (.int .i64)))], [(.ret, [(4, .ptr [(.v (.agg 1))]), (5, .f (.v .bool))]), (.exit 0, [(4, .ptr [(.v (.agg 1))])])], session_find_L0⟩
    | _ => none, fun r => match r with
    | _ => none, fun r => match r with
    | _ => false⟩

theorem session_find_L0_eq (y0 : (List (UInt8))) (y1 : (ApiSessions × Unit)) (y2 : (ApiSession × Unit)) (y3 : (List (ApiSession))) (y4 : Int) (y5 : Int) : run E_session_find A_session_find (loopAt 0 (Try.f39.body.getD .skip)) (lay cd [(1, .f (.v (.rs 0))), (2, .ptr [(.v (.agg 2))]), (4, .ptr [(.v (.agg 1))]), (9, .f (.v (.rs 1))), (10, .f (.v (.int .i64))), (11, .f (.v (.int .i64)))] (y0, y1, y2, y3, y4, y5, ())) (roundK cd [(1, .f (.v (.rs 0))), (2, .ptr [(.v (.agg 2))]), (4, .ptr [(.v (.agg 1))]), (9, .f (.v (.rs 1))), (10, .f (.v (.int .i64))), (11, .f (.v (.int .i64)))] [(.ret, [(4, .ptr [(.v (.agg 1))]), (5, .f (.v .bool))]), (.exit 0, [(4, .ptr [(.v (.agg 1))])])]) = session_find_L0b y0 y1 y2 y3 y4 y5 := by kernel_rfl

theorem session_find_eq (x : tySs T S_session_find.ps) : run E_session_find A_session_find (Try.f39.body.getD .skip) (enterT E_session_find.C S_session_find.ps x) (retK E_session_find Try.f39.results.toList S_session_find.ps S_session_find.rs) = S_session_find.fn x := by kernel_rfl

theorem session_find_env : EnvOk Try.prog E_session_find := envOk (E := E_session_find) cd_ok tys fl_ok fun f ds S h => by
    dsimp only [E_session_find] at h
    split at h
    · cases h; exact session_Bytes_ok
    · cases h; exact bytes_Equal_ok
    · cases h

theorem session_find_L0_ok : LoopOk Try.prog E_session_find Try.f39.ntmps (kqOf S_session_find.ps 0) (loopAt 0 (Try.f39.body.getD .skip)) ⟨[(1, .f (.v (.rs 0))), (2, .ptr [(.v (.agg 2))]), (4, .ptr [(.v (.agg 1))]), (9, .f (.v (.rs 1))), (10, .f (.v (.int .i64))), (11, .f (.v (.int .i64)))], [(.ret, [(4, .ptr [(.v (.agg 1))]), (5, .f (.v .bool))]), (.exit 0, [(4, .ptr [(.v (.agg 1))])])], session_find_L0⟩ :=
  loop_ok (A := A_session_find) (done := []) (c0 := (Try.f39.body.getD .skip)) hmix session_find_env done_nil rounds (by kernel_rfl) (by kernel_rfl) (fun x => session_find_L0_eq x.1 x.2.1 x.2.2.1 x.2.2.2.1 x.2.2.2.2.1 x.2.2.2.2.2.1) (fun _ => rfl)

theorem session_find_ok : SoundT Try.prog cd gdn 39 S_session_find :=
  sound_fn (E := E_session_find) (A := A_session_find) (done := [0]) (c := (Try.f39.body.getD .skip)) (S := S_session_find) (fn := Try.f39) hmix session_find_env Try.func39 rfl (by kernel_rfl) (by kernel_rfl) (done_cons rfl session_find_L0_ok done_nil) (by kernel_rfl) (by kernel_rfl) session_find_eq

def session_Check (a0 : ApiSessions) (a1 : (List (UInt8))) (a2 : Int) : Option ((Unit) × (ApiSession × Int × Unit)) :=
 ((session_isTime a2).bind fun r1 => (bif (!r1.2.1) then (some ((), ((⟨(0 : Int), ([] : List UInt8), [], 0#64, (0 : Int), (0 : Int)⟩ : ApiSession), (9 : Int), ())))
 else ((session_Expire a0 a2).bind fun r2 => ((session_find (⟨r2.2.1.1.1, r2.2.1.1.2.1, r2.2.1.2.1⟩ : ApiSessions) a1).bind fun r3 => (bif (!r3.2.2.1) then (some ((), ((⟨(0 : Int), ([] : List UInt8), [], 0#64, (0 : Int), (0 : Int)⟩ : ApiSession), (11 : Int), ())))
 else ((bytes_Clone r3.2.1.iD).bind fun r4 => (some ((), ((⟨r3.2.1.number, r3.2.1.account, r4.2.1, r3.2.1.model, r3.2.1.since, r3.2.1.until_⟩ : ApiSession), (0 : Int), ())))))))))

def S_session_Check : FSpec T := ⟨[.f (.v (.agg 2)), .f (.v (.rs 0)), .f (.v (.int .i64))], [(.v (.agg 1)), (.v (.int .i64))], fun x => session_Check x.1 x.2.1 x.2.2.1⟩

def E_session_Check : Env T := ⟨tab.find, cd, globs, flc, fun f ds => match f with
    | 28 => some S_session_Expire
    | 35 => some S_session_isTime
    | 38 => some S_bytes_Clone
    | 39 => some S_session_find
    | _ => none, fun f => match f with
    | 35 => true
    | _ => false⟩

def A_session_Check : Loc2 T := ⟨fun id => match id with
    | _ => none, fun r => match r with
    | _ => none, fun r => match r with
    | _ => false⟩

theorem session_Check_eq (x : tySs T S_session_Check.ps) : run E_session_Check A_session_Check (Try.f12.body.getD .skip) (enterT E_session_Check.C S_session_Check.ps x) (retK E_session_Check Try.f12.results.toList S_session_Check.ps S_session_Check.rs) = S_session_Check.fn x := by kernel_rfl

theorem session_Check_env : EnvOk Try.prog E_session_Check := envOk (E := E_session_Check) cd_ok tys fl_ok fun f ds S h => by
    dsimp only [E_session_Check] at h
    split at h
    · cases h; exact session_Expire_ok
    · cases h; exact session_isTime_ok
    · cases h; exact bytes_Clone_ok
    · cases h; exact session_find_ok
    · cases h

theorem session_Check_ok : SoundT Try.prog cd gdn 12 S_session_Check :=
  sound_fn (E := E_session_Check) (A := A_session_Check) (done := []) (c := (Try.f12.body.getD .skip)) (S := S_session_Check) (fn := Try.f12) hmix session_Check_env Try.func12 rfl (by kernel_rfl) (by kernel_rfl) done_nil (by kernel_rfl) (by kernel_rfl) session_Check_eq

def session_Close_1 (a0 : ApiSession) (a1 : ApiSession) : Option ((Unit) × (Bool × Unit)) :=
 (some ((), ((!decide (a0.number = a1.number)), ())))

def S_session_Close_1 : FSpec T := ⟨[.f (.v (.agg 1)), .f (.v (.ref (.agg 1)))], [(.v .bool)], fun x => session_Close_1 x.1 x.2.1⟩

def E_session_Close_1 : Env T := ⟨tab.find, cd, globs, flc, fun f ds => match f with
    | _ => none, fun f => match f with
    | _ => false⟩

def A_session_Close_1 : Loc2 T := ⟨fun id => match id with
    | _ => none, fun r => match r with
    | _ => none, fun r => match r with
    | _ => false⟩

theorem session_Close_1_eq (x : tySs T S_session_Close_1.ps) : run E_session_Close_1 A_session_Close_1 (Try.f44.body.getD .skip) (enterT E_session_Close_1.C S_session_Close_1.ps x) (retK E_session_Close_1 Try.f44.results.toList S_session_Close_1.ps S_session_Close_1.rs) = S_session_Close_1.fn x := by kernel_rfl

theorem session_Close_1_env : EnvOk Try.prog E_session_Close_1 := envOk (E := E_session_Close_1) cd_ok tys fl_ok fun f ds S h => by cases h

theorem session_Close_1_ok : SoundT Try.prog cd gdn 44 S_session_Close_1 :=
  sound_fn (E := E_session_Close_1) (A := A_session_Close_1) (done := []) (c := (Try.f44.body.getD .skip)) (S := S_session_Close_1) (fn := Try.f44) hmix session_Close_1_env Try.func44 rfl (by kernel_rfl) (by kernel_rfl) done_nil (by kernel_rfl) (by kernel_rfl) session_Close_1_eq

def session_filter_2_L0b (y0 : ApiSession) (y1 : (ApiSessions × Unit)) (y2 : (ApiSessions × Unit)) (y3 : (List (ApiSession))) (y4 : (List (ApiSession))) (y5 : Int) (y6 : Int) : Option ((ApiSession × (ApiSessions × Unit) × (ApiSessions × Unit) × (List (ApiSession)) × (List (ApiSession)) × Int × Int × Unit) ⊕ ((ApiSessions × Unit) × (ApiSessions × Unit) × (List (ApiSession)) × Unit)) :=
 (bif (decide (y6 < y5)) then ((getI y4 y6).bind fun x2 => ((session_Close_1 x2 y0).bind fun r3 => (bif r3.2.1 then (bif small ((y3).length + (([x2] : List (ApiSession)) : List (ApiSession)).length) 72 then (some (Sum.inl (y0, (y1.1, ()), (y2.1, ()), (y3 ++ ([x2] : List (ApiSession))), y4, y5, (IntKind.wrap .i64 (y6 + (1 : Int))), ())))
 else none)
 else (some (Sum.inl (y0, (y1.1, ()), (y2.1, ()), y3, y4, y5, (IntKind.wrap .i64 (y6 + (1 : Int))), ()))))))
 else (some (Sum.inr ((y1.1, ()), (y2.1, ()), y3, ()))))

def session_filter_2_L0 (y : (ApiSession × (ApiSessions × Unit) × (ApiSessions × Unit) × (List (ApiSession)) × (List (ApiSession)) × Int × Int × Unit)) : Option ((ApiSessions × Unit) × (ApiSessions × Unit) × (List (ApiSession)) × Unit) := iter (fun (y : (ApiSession × (ApiSessions × Unit) × (ApiSessions × Unit) × (List (ApiSession)) × (List (ApiSession)) × Int × Int × Unit)) => session_filter_2_L0b y.1 y.2.1 y.2.2.1 y.2.2.2.1 y.2.2.2.2.1 y.2.2.2.2.2.1 y.2.2.2.2.2.2.1) rounds y

def session_filter_2 (a0 : ApiSessions) (a1 : ApiSession) : Option ((Unit) × ((((BitVec 64) × Int × Unit) × (List (ApiSession)) × Unit) × Unit)) :=
 (bif (decide ((0 : Int) ≤ (0 : Int)) && (decide ((0 : Int) ≤ ((a0.open_).length : Int)) && decide ((72 : Int) * ((a0.open_).length : Int) ≤ 281474976710656 ∧ ((a0.open_).length : Int) ≤ 9223372036854775807))) then (let v1 : List (ApiSession) := (List.replicate 0 (⟨(0 : Int), ([] : List UInt8), [], 0#64, (0 : Int), (0 : Int)⟩ : ApiSession))
 ((session_filter_2_L0 (a1, (a0, ()), ((⟨0#64, (0 : Int), []⟩ : ApiSessions), ()), v1, a0.open_, ((a0.open_).length : Int), (0 : Int), ())).bind (fun (z4 : ((ApiSessions × Unit) × (ApiSessions × Unit) × (List (ApiSession)) × Unit)) => (some ((), (((z4.1.1.secret, z4.1.1.count, ()), z4.2.2.1, ()), ()))))))
 else none)

def S_session_filter_2 : FSpec T := ⟨[.f (.v (.agg 2)), .f (.fp 44 (.agg 1))], [(.st (.cons .u64 (.cons (.int .i64) .nil)) 1 .nil)], fun x => session_filter_2 x.1 x.2.1⟩

def E_session_filter_2 : Env T := ⟨tab.find, cd, globs, flc, fun f ds => match f with
    | 44 => some S_session_Close_1
    | _ => none, fun f => match f with
    | 44 => true
    | _ => false⟩

def A_session_filter_2 : Loc2 T := ⟨fun id => match id with
    | 0 => some ⟨[(1, .f (.fp 44 (.agg 1))), (2, .ptr [(.v (.agg 2))]), (4, .ptr [(.v (.agg 2))]), (5, .f (.own 1)), (13, .f (.v (.rs 1))), (14, .f (.v (.int .i64))), (15, .f (.v (.int .i64)))], [(.exit 0, [(2, .ptr [(.v (.agg 2))]), (4, .ptr [(.v (.agg 2))]), (5, .f (.own 1))])], session_filter_2_L0⟩
    | _ => none, fun r => match r with
    | _ => none, fun r => match r with
    | _ => false⟩

theorem session_filter_2_L0_eq (y0 : ApiSession) (y1 : (ApiSessions × Unit)) (y2 : (ApiSessions × Unit)) (y3 : (List (ApiSession))) (y4 : (List (ApiSession))) (y5 : Int) (y6 : Int) : run E_session_filter_2 A_session_filter_2 (loopAt 0 (Try.f36.body.getD .skip)) (lay cd [(1, .f (.fp 44 (.agg 1))), (2, .ptr [(.v (.agg 2))]), (4, .ptr [(.v (.agg 2))]), (5, .f (.own 1)), (13, .f (.v (.rs 1))), (14, .f (.v (.int .i64))), (15, .f (.v (.int .i64)))] (y0, y1, y2, y3, y4, y5, y6, ())) (roundK cd [(1, .f (.fp 44 (.agg 1))), (2, .ptr [(.v (.agg 2))]), (4, .ptr [(.v (.agg 2))]), (5, .f (.own 1)), (13, .f (.v (.rs 1))), (14, .f (.v (.int .i64))), (15, .f (.v (.int .i64)))] [(.exit 0, [(2, .ptr [(.v (.agg 2))]), (4, .ptr [(.v (.agg 2))]), (5, .f (.own 1))])]) = session_filter_2_L0b y0 y1 y2 y3 y4 y5 y6 := by kernel_rfl

theorem session_filter_2_eq (x : tySs T S_session_filter_2.ps) : run E_session_filter_2 A_session_filter_2 (Try.f36.body.getD .skip) (enterT E_session_filter_2.C S_session_filter_2.ps x) (retK E_session_filter_2 Try.f36.results.toList S_session_filter_2.ps S_session_filter_2.rs) = S_session_filter_2.fn x := by kernel_rfl

theorem session_filter_2_env : EnvOk Try.prog E_session_filter_2 := envOk (E := E_session_filter_2) cd_ok tys fl_ok fun f ds S h => by
    dsimp only [E_session_filter_2] at h
    split at h
    · cases h; exact session_Close_1_ok
    · cases h

theorem session_filter_2_L0_ok : LoopOk Try.prog E_session_filter_2 Try.f36.ntmps (kqOf S_session_filter_2.ps 0) (loopAt 0 (Try.f36.body.getD .skip)) ⟨[(1, .f (.fp 44 (.agg 1))), (2, .ptr [(.v (.agg 2))]), (4, .ptr [(.v (.agg 2))]), (5, .f (.own 1)), (13, .f (.v (.rs 1))), (14, .f (.v (.int .i64))), (15, .f (.v (.int .i64)))], [(.exit 0, [(2, .ptr [(.v (.agg 2))]), (4, .ptr [(.v (.agg 2))]), (5, .f (.own 1))])], session_filter_2_L0⟩ :=
  loop_ok (A := A_session_filter_2) (done := []) (c0 := (Try.f36.body.getD .skip)) hmix session_filter_2_env done_nil rounds (by kernel_rfl) (by kernel_rfl) (fun x => session_filter_2_L0_eq x.1 x.2.1 x.2.2.1 x.2.2.2.1 x.2.2.2.2.1 x.2.2.2.2.2.1 x.2.2.2.2.2.2.1) (fun _ => rfl)

theorem session_filter_2_ok : SoundT Try.prog cd gdn 36 S_session_filter_2 :=
  sound_fn (E := E_session_filter_2) (A := A_session_filter_2) (done := [0]) (c := (Try.f36.body.getD .skip)) (S := S_session_filter_2) (fn := Try.f36) hmix session_filter_2_env Try.func36 rfl (by kernel_rfl) (by kernel_rfl) (done_cons rfl session_filter_2_L0_ok done_nil) (by kernel_rfl) (by kernel_rfl) session_filter_2_eq

def session_Close (a0 : ApiSessions) (a1 : (List (UInt8))) (a2 : Int) : Option ((Unit) × (ApiSessions × Int × Unit)) :=
 ((session_isTime a2).bind fun r1 => (bif (!r1.2.1) then (some ((), (a0, (9 : Int), ())))
 else ((session_Expire a0 a2).bind fun r2 => ((session_find (⟨r2.2.1.1.1, r2.2.1.1.2.1, r2.2.1.2.1⟩ : ApiSessions) a1).bind fun r3 => (bif (!r3.2.2.1) then (some ((), (a0, (11 : Int), ())))
 else ((session_filter_2 (⟨r2.2.1.1.1, r2.2.1.1.2.1, r2.2.1.2.1⟩ : ApiSessions) r3.2.1).bind fun r4 => (some ((), ((⟨r4.2.1.1.1, r4.2.1.1.2.1, r4.2.1.2.1⟩ : ApiSessions), (0 : Int), ())))))))))

def S_session_Close : FSpec T := ⟨[.f (.v (.agg 2)), .f (.v (.rs 0)), .f (.v (.int .i64))], [(.v (.agg 2)), (.v (.int .i64))], fun x => session_Close x.1 x.2.1 x.2.2.1⟩

def E_session_Close : Env T := ⟨tab.find, cd, globs, flc, fun f ds => match f with
    | 28 => some S_session_Expire
    | 35 => some S_session_isTime
    | 36 => match fnAt ds 1 with
      | some 44 => some S_session_filter_2
      | _ => none
    | 39 => some S_session_find
    | _ => none, fun f => match f with
    | 35 => true
    | _ => false⟩

def A_session_Close : Loc2 T := ⟨fun id => match id with
    | _ => none, fun r => match r with
    | _ => none, fun r => match r with
    | _ => false⟩

theorem session_Close_eq (x : tySs T S_session_Close.ps) : run E_session_Close A_session_Close (Try.f22.body.getD .skip) (enterT E_session_Close.C S_session_Close.ps x) (retK E_session_Close Try.f22.results.toList S_session_Close.ps S_session_Close.rs) = S_session_Close.fn x := by kernel_rfl

theorem session_Close_env : EnvOk Try.prog E_session_Close := envOk (E := E_session_Close) cd_ok tys fl_ok fun f ds S h => by
    dsimp only [E_session_Close] at h
    split at h
    · cases h; exact session_Expire_ok
    · cases h; exact session_isTime_ok
    · split at h
      · cases h; exact session_filter_2_ok
      · cases h
    · cases h; exact session_find_ok
    · cases h

theorem session_Close_ok : SoundT Try.prog cd gdn 22 S_session_Close :=
  sound_fn (E := E_session_Close) (A := A_session_Close) (done := []) (c := (Try.f22.body.getD .skip)) (S := S_session_Close) (fn := Try.f22) hmix session_Close_env Try.func22 rfl (by kernel_rfl) (by kernel_rfl) done_nil (by kernel_rfl) (by kernel_rfl) session_Close_eq

def session_RevokeModel_1 (a0 : ApiSession) (a1 : (BitVec 64)) : Option ((Unit) × (Bool × Unit)) :=
 (bif (decide (a1 = 0#64)) then (some ((), (true, ())))
 else (some ((), ((!decide (a0.model = a1)), ()))))

def S_session_RevokeModel_1 : FSpec T := ⟨[.f (.v (.agg 1)), .f (.v (.ref .u64))], [(.v .bool)], fun x => session_RevokeModel_1 x.1 x.2.1⟩

def E_session_RevokeModel_1 : Env T := ⟨tab.find, cd, globs, flc, fun f ds => match f with
    | _ => none, fun f => match f with
    | _ => false⟩

def A_session_RevokeModel_1 : Loc2 T := ⟨fun id => match id with
    | _ => none, fun r => match r with
    | _ => none, fun r => match r with
    | _ => false⟩

theorem session_RevokeModel_1_eq (x : tySs T S_session_RevokeModel_1.ps) : run E_session_RevokeModel_1 A_session_RevokeModel_1 (Try.f45.body.getD .skip) (enterT E_session_RevokeModel_1.C S_session_RevokeModel_1.ps x) (retK E_session_RevokeModel_1 Try.f45.results.toList S_session_RevokeModel_1.ps S_session_RevokeModel_1.rs) = S_session_RevokeModel_1.fn x := by kernel_rfl

theorem session_RevokeModel_1_env : EnvOk Try.prog E_session_RevokeModel_1 := envOk (E := E_session_RevokeModel_1) cd_ok tys fl_ok fun f ds S h => by cases h

theorem session_RevokeModel_1_ok : SoundT Try.prog cd gdn 45 S_session_RevokeModel_1 :=
  sound_fn (E := E_session_RevokeModel_1) (A := A_session_RevokeModel_1) (done := []) (c := (Try.f45.body.getD .skip)) (S := S_session_RevokeModel_1) (fn := Try.f45) hmix session_RevokeModel_1_env Try.func45 rfl (by kernel_rfl) (by kernel_rfl) done_nil (by kernel_rfl) (by kernel_rfl) session_RevokeModel_1_eq

def session_filter_3_L0b (y0 : (BitVec 64)) (y1 : (ApiSessions × Unit)) (y2 : (ApiSessions × Unit)) (y3 : (List (ApiSession))) (y4 : (List (ApiSession))) (y5 : Int) (y6 : Int) : Option (((BitVec 64) × (ApiSessions × Unit) × (ApiSessions × Unit) × (List (ApiSession)) × (List (ApiSession)) × Int × Int × Unit) ⊕ ((ApiSessions × Unit) × (ApiSessions × Unit) × (List (ApiSession)) × Unit)) :=
 (bif (decide (y6 < y5)) then ((getI y4 y6).bind fun x2 => ((session_RevokeModel_1 x2 y0).bind fun r3 => (bif r3.2.1 then (bif small ((y3).length + (([x2] : List (ApiSession)) : List (ApiSession)).length) 72 then (some (Sum.inl (y0, (y1.1, ()), (y2.1, ()), (y3 ++ ([x2] : List (ApiSession))), y4, y5, (IntKind.wrap .i64 (y6 + (1 : Int))), ())))
 else none)
 else (some (Sum.inl (y0, (y1.1, ()), (y2.1, ()), y3, y4, y5, (IntKind.wrap .i64 (y6 + (1 : Int))), ()))))))
 else (some (Sum.inr ((y1.1, ()), (y2.1, ()), y3, ()))))

def session_filter_3_L0 (y : ((BitVec 64) × (ApiSessions × Unit) × (ApiSessions × Unit) × (List (ApiSession)) × (List (ApiSession)) × Int × Int × Unit)) : Option ((ApiSessions × Unit) × (ApiSessions × Unit) × (List (ApiSession)) × Unit) := iter (fun (y : ((BitVec 64) × (ApiSessions × Unit) × (ApiSessions × Unit) × (List (ApiSession)) × (List (ApiSession)) × Int × Int × Unit)) => session_filter_3_L0b y.1 y.2.1 y.2.2.1 y.2.2.2.1 y.2.2.2.2.1 y.2.2.2.2.2.1 y.2.2.2.2.2.2.1) rounds y

def session_filter_3 (a0 : ApiSessions) (a1 : (BitVec 64)) : Option ((Unit) × ((((BitVec 64) × Int × Unit) × (List (ApiSession)) × Unit) × Unit)) :=
 (bif (decide ((0 : Int) ≤ (0 : Int)) && (decide ((0 : Int) ≤ ((a0.open_).length : Int)) && decide ((72 : Int) * ((a0.open_).length : Int) ≤ 281474976710656 ∧ ((a0.open_).length : Int) ≤ 9223372036854775807))) then (let v1 : List (ApiSession) := (List.replicate 0 (⟨(0 : Int), ([] : List UInt8), [], 0#64, (0 : Int), (0 : Int)⟩ : ApiSession))
 ((session_filter_3_L0 (a1, (a0, ()), ((⟨0#64, (0 : Int), []⟩ : ApiSessions), ()), v1, a0.open_, ((a0.open_).length : Int), (0 : Int), ())).bind (fun (z4 : ((ApiSessions × Unit) × (ApiSessions × Unit) × (List (ApiSession)) × Unit)) => (some ((), (((z4.1.1.secret, z4.1.1.count, ()), z4.2.2.1, ()), ()))))))
 else none)

def S_session_filter_3 : FSpec T := ⟨[.f (.v (.agg 2)), .f (.fp 45 .u64)], [(.st (.cons .u64 (.cons (.int .i64) .nil)) 1 .nil)], fun x => session_filter_3 x.1 x.2.1⟩

def E_session_filter_3 : Env T := ⟨tab.find, cd, globs, flc, fun f ds => match f with
    | 45 => some S_session_RevokeModel_1
    | _ => none, fun f => match f with
    | 45 => true
    | _ => false⟩

def A_session_filter_3 : Loc2 T := ⟨fun id => match id with
    | 0 => some ⟨[(1, .f (.fp 45 .u64)), (2, .ptr [(.v (.agg 2))]), (4, .ptr [(.v (.agg 2))]), (5, .f (.own 1)), (13, .f (.v (.rs 1))), (14, .f (.v (.int .i64))), (15, .f (.v (.int .i64)))], [(.exit 0, [(2, .ptr [(.v (.agg 2))]), (4, .ptr [(.v (.agg 2))]), (5, .f (.own 1))])], session_filter_3_L0⟩
    | _ => none, fun r => match r with
    | _ => none, fun r => match r with
    | _ => false⟩

theorem session_filter_3_L0_eq (y0 : (BitVec 64)) (y1 : (ApiSessions × Unit)) (y2 : (ApiSessions × Unit)) (y3 : (List (ApiSession))) (y4 : (List (ApiSession))) (y5 : Int) (y6 : Int) : run E_session_filter_3 A_session_filter_3 (loopAt 0 (Try.f36.body.getD .skip)) (lay cd [(1, .f (.fp 45 .u64)), (2, .ptr [(.v (.agg 2))]), (4, .ptr [(.v (.agg 2))]), (5, .f (.own 1)), (13, .f (.v (.rs 1))), (14, .f (.v (.int .i64))), (15, .f (.v (.int .i64)))] (y0, y1, y2, y3, y4, y5, y6, ())) (roundK cd [(1, .f (.fp 45 .u64)), (2, .ptr [(.v (.agg 2))]), (4, .ptr [(.v (.agg 2))]), (5, .f (.own 1)), (13, .f (.v (.rs 1))), (14, .f (.v (.int .i64))), (15, .f (.v (.int .i64)))] [(.exit 0, [(2, .ptr [(.v (.agg 2))]), (4, .ptr [(.v (.agg 2))]), (5, .f (.own 1))])]) = session_filter_3_L0b y0 y1 y2 y3 y4 y5 y6 := by kernel_rfl

theorem session_filter_3_eq (x : tySs T S_session_filter_3.ps) : run E_session_filter_3 A_session_filter_3 (Try.f36.body.getD .skip) (enterT E_session_filter_3.C S_session_filter_3.ps x) (retK E_session_filter_3 Try.f36.results.toList S_session_filter_3.ps S_session_filter_3.rs) = S_session_filter_3.fn x := by kernel_rfl

theorem session_filter_3_env : EnvOk Try.prog E_session_filter_3 := envOk (E := E_session_filter_3) cd_ok tys fl_ok fun f ds S h => by
    dsimp only [E_session_filter_3] at h
    split at h
    · cases h; exact session_RevokeModel_1_ok
    · cases h

theorem session_filter_3_L0_ok : LoopOk Try.prog E_session_filter_3 Try.f36.ntmps (kqOf S_session_filter_3.ps 0) (loopAt 0 (Try.f36.body.getD .skip)) ⟨[(1, .f (.fp 45 .u64)), (2, .ptr [(.v (.agg 2))]), (4, .ptr [(.v (.agg 2))]), (5, .f (.own 1)), (13, .f (.v (.rs 1))), (14, .f (.v (.int .i64))), (15, .f (.v (.int .i64)))], [(.exit 0, [(2, .ptr [(.v (.agg 2))]), (4, .ptr [(.v (.agg 2))]), (5, .f (.own 1))])], session_filter_3_L0⟩ :=
  loop_ok (A := A_session_filter_3) (done := []) (c0 := (Try.f36.body.getD .skip)) hmix session_filter_3_env done_nil rounds (by kernel_rfl) (by kernel_rfl) (fun x => session_filter_3_L0_eq x.1 x.2.1 x.2.2.1 x.2.2.2.1 x.2.2.2.2.1 x.2.2.2.2.2.1 x.2.2.2.2.2.2.1) (fun _ => rfl)

theorem session_filter_3_ok : SoundT Try.prog cd gdn 36 S_session_filter_3 :=
  sound_fn (E := E_session_filter_3) (A := A_session_filter_3) (done := [0]) (c := (Try.f36.body.getD .skip)) (S := S_session_filter_3) (fn := Try.f36) hmix session_filter_3_env Try.func36 rfl (by kernel_rfl) (by kernel_rfl) (done_cons rfl session_filter_3_L0_ok done_nil) (by kernel_rfl) (by kernel_rfl) session_filter_3_eq

def session_RevokeModel (a0 : ApiSessions) (a1 : (BitVec 64)) : Option ((Unit) × (ApiSessions × Unit)) :=
 ((session_filter_3 a0 a1).bind fun r1 => (some ((), ((⟨r1.2.1.1.1, r1.2.1.1.2.1, r1.2.1.2.1⟩ : ApiSessions), ()))))

def S_session_RevokeModel : FSpec T := ⟨[.f (.v (.agg 2)), .f (.v .u64)], [(.v (.agg 2))], fun x => session_RevokeModel x.1 x.2.1⟩

def E_session_RevokeModel : Env T := ⟨tab.find, cd, globs, flc, fun f ds => match f with
    | 36 => match fnAt ds 1 with
      | some 45 => some S_session_filter_3
      | _ => none
    | _ => none, fun f => match f with
    | _ => false⟩

def A_session_RevokeModel : Loc2 T := ⟨fun id => match id with
    | _ => none, fun r => match r with
    | _ => none, fun r => match r with
    | _ => false⟩

theorem session_RevokeModel_eq (x : tySs T S_session_RevokeModel.ps) : run E_session_RevokeModel A_session_RevokeModel (Try.f24.body.getD .skip) (enterT E_session_RevokeModel.C S_session_RevokeModel.ps x) (retK E_session_RevokeModel Try.f24.results.toList S_session_RevokeModel.ps S_session_RevokeModel.rs) = S_session_RevokeModel.fn x := by kernel_rfl

theorem session_RevokeModel_env : EnvOk Try.prog E_session_RevokeModel := envOk (E := E_session_RevokeModel) cd_ok tys fl_ok fun f ds S h => by
    dsimp only [E_session_RevokeModel] at h
    split at h
    · split at h
      · cases h; exact session_filter_3_ok
      · cases h
    · cases h

theorem session_RevokeModel_ok : SoundT Try.prog cd gdn 24 S_session_RevokeModel :=
  sound_fn (E := E_session_RevokeModel) (A := A_session_RevokeModel) (done := []) (c := (Try.f24.body.getD .skip)) (S := S_session_RevokeModel) (fn := Try.f24) hmix session_RevokeModel_env Try.func24 rfl (by kernel_rfl) (by kernel_rfl) done_nil (by kernel_rfl) (by kernel_rfl) session_RevokeModel_eq

def passkeylaw34_awake : Option ((Unit) × (Bool × Unit)) :=
 ((session_New (7#64)).bind fun r1 => ((session_Open r1.2.1 ([97, 108, 105, 99, 101] : List UInt8) ([(1 : UInt8)] : List (UInt8)) (3#64) (10 : Int) (5 : Int)).bind fun r2 => ((session_Check r2.2.1 r2.2.2.1 (15 : Int)).bind fun r3 => ((session_Check r2.2.1 r2.2.2.1 (16 : Int)).bind fun r4 => ((session_Close r2.2.1 r2.2.2.1 (12 : Int)).bind fun r5 => ((session_Check r5.2.1 r2.2.2.1 (12 : Int)).bind fun r6 => ((session_RevokeModel r2.2.1 (3#64)).bind fun r7 => ((session_Check r7.2.1 r2.2.2.1 (12 : Int)).bind fun r8 => (bif (decide (r2.2.2.2.1 = (0 : Int))) then (bif (decide (r3.2.2.1 = (0 : Int))) then (bif (decide (((r2.2.2.1).length : Int) = (16 : Int))) then (bif (decide (r3.2.1.account = ([97, 108, 105, 99, 101] : List UInt8))) then (bif (decide (r3.2.1.until_ = (15 : Int))) then (bif (decide (r4.2.2.1 = (11 : Int))) then (bif (decide (r5.2.2.1 = (0 : Int))) then (bif (decide (r6.2.2.1 = (11 : Int))) then (some ((), ((decide (r8.2.2.1 = (11 : Int))), ())))
 else (some ((), (false, ()))))
 else (some ((), (false, ()))))
 else (some ((), (false, ()))))
 else (some ((), (false, ()))))
 else (some ((), (false, ()))))
 else (some ((), (false, ()))))
 else (some ((), (false, ()))))
 else (some ((), (false, ()))))))))))))

def S_passkeylaw34_awake : FSpec T := ⟨[], [(.v .bool)], fun x => passkeylaw34_awake ⟩

def E_passkeylaw34_awake : Env T := ⟨tab.find, cd, globs, flc, fun f ds => match f with
    | 10 => some S_session_New
    | 11 => some S_session_Open
    | 12 => some S_session_Check
    | 22 => some S_session_Close
    | 24 => some S_session_RevokeModel
    | _ => none, fun f => match f with
    | _ => false⟩

def A_passkeylaw34_awake : Loc2 T := ⟨fun id => match id with
    | _ => none, fun r => match r with
    | _ => none, fun r => match r with
    | _ => false⟩

theorem passkeylaw34_awake_eq (x : tySs T S_passkeylaw34_awake.ps) : run E_passkeylaw34_awake A_passkeylaw34_awake (Try.f7.body.getD .skip) (enterT E_passkeylaw34_awake.C S_passkeylaw34_awake.ps x) (retK E_passkeylaw34_awake Try.f7.results.toList S_passkeylaw34_awake.ps S_passkeylaw34_awake.rs) = S_passkeylaw34_awake.fn x := by kernel_rfl

theorem passkeylaw34_awake_env : EnvOk Try.prog E_passkeylaw34_awake := envOk (E := E_passkeylaw34_awake) cd_ok tys fl_ok fun f ds S h => by
    dsimp only [E_passkeylaw34_awake] at h
    split at h
    · cases h; exact session_New_ok
    · cases h; exact session_Open_ok
    · cases h; exact session_Check_ok
    · cases h; exact session_Close_ok
    · cases h; exact session_RevokeModel_ok
    · cases h

theorem passkeylaw34_awake_ok : SoundT Try.prog cd gdn 7 S_passkeylaw34_awake :=
  sound_fn (E := E_passkeylaw34_awake) (A := A_passkeylaw34_awake) (done := []) (c := (Try.f7.body.getD .skip)) (S := S_passkeylaw34_awake) (fn := Try.f7) hmix passkeylaw34_awake_env Try.func7 rfl (by kernel_rfl) (by kernel_rfl) done_nil (by kernel_rfl) (by kernel_rfl) passkeylaw34_awake_eq

def passkeyref1_Words_L2b (y0 : (List (BitVec 64))) (y1 : (List (UInt8))) (y2 : Int) (y3 : Int) : Option (((List (BitVec 64)) × (List (UInt8)) × Int × Int × Unit) ⊕ ((List (BitVec 64)) × (List (UInt8)) × Int × Unit)) :=
 (bif (decide ((0 : Int) ≤ y3)) then ((getI y0 y2).bind fun x1 => (let v2 : BitVec 64 := (x1 >>> (BitVec.ofInt 64 (IntKind.wrap .i64 ((8 : Int) * y3))).toNat)
 (bif small ((y1).length + (([(UInt8.ofBitVec (BitVec.setWidth 8 v2))] : List (UInt8)) : List (UInt8)).length) 1 then (let v3 : List (UInt8) := (y1 ++ ([(UInt8.ofBitVec (BitVec.setWidth 8 v2))] : List (UInt8)))
 (some (Sum.inl (y0, v3, y2, (IntKind.wrap .i64 (y3 - (1 : Int))), ()))))
 else none)))
 else (some (Sum.inr (y0, y1, y2, ()))))

def passkeyref1_Words_L2 (y : ((List (BitVec 64)) × (List (UInt8)) × Int × Int × Unit)) : Option ((List (BitVec 64)) × (List (UInt8)) × Int × Unit) := iter (fun (y : ((List (BitVec 64)) × (List (UInt8)) × Int × Int × Unit)) => passkeyref1_Words_L2b y.1 y.2.1 y.2.2.1 y.2.2.2.1) rounds y

def passkeyref1_Words_L0b (y0 : (List (BitVec 64))) (y1 : (List (UInt8))) (y2 : Int) : Option (((List (BitVec 64)) × (List (UInt8)) × Int × Unit) ⊕ ((List (UInt8)) × Unit)) :=
 (bif (decide (y2 < ((y0).length : Int))) then ((passkeyref1_Words_L2 (y0, y1, y2, (7 : Int), ())).bind (fun (z1 : ((List (BitVec 64)) × (List (UInt8)) × Int × Unit)) => (some (Sum.inl (z1.1, z1.2.1, (IntKind.wrap .i64 (z1.2.2.1 + (1 : Int))), ())))))
 else (some (Sum.inr (y1, ()))))

def passkeyref1_Words_L0 (y : ((List (BitVec 64)) × (List (UInt8)) × Int × Unit)) : Option ((List (UInt8)) × Unit) := iter (fun (y : ((List (BitVec 64)) × (List (UInt8)) × Int × Unit)) => passkeyref1_Words_L0b y.1 y.2.1 y.2.2.1) rounds y

def passkeyref1_Words (a0 : (List (BitVec 64))) : Option ((Unit) × ((List (UInt8)) × Unit)) :=
 ((passkeyref1_Words_L0 (a0, [], (0 : Int), ())).bind (fun (z2 : ((List (UInt8)) × Unit)) => (some ((), (z2.1, ())))))

def S_passkeyref1_Words : FSpec T := ⟨[.f (.v (.rs 3))], [(.own 0)], fun x => passkeyref1_Words x.1⟩

def E_passkeyref1_Words : Env T := ⟨tab.find, cd, globs, flc, fun f ds => match f with
    | _ => none, fun f => match f with
    | _ => false⟩

def A_passkeyref1_Words : Loc2 T := ⟨fun id => match id with
    | 2 => some ⟨[(0, .f (.v (.rs 3))), (3, .f (.own 0)), (4, .f (.v (.int .i64))), (5, .f (.v (.int .i64)))], [(.exit 2, [(0, .f (.v (.rs 3))), (3, .f (.own 0)), (4, .f (.v (.int .i64)))])], passkeyref1_Words_L2⟩
    | 0 => some ⟨[(0, .f (.v (.rs 3))), (3, .f (.own 0)), (4, .f (.v (.int .i64)))], [(.exit 0, [(3, .f (.own 0))])], passkeyref1_Words_L0⟩
    | _ => none, fun r => match r with
    | _ => none, fun r => match r with
    | _ => false⟩

theorem passkeyref1_Words_L2_eq (y0 : (List (BitVec 64))) (y1 : (List (UInt8))) (y2 : Int) (y3 : Int) : run E_passkeyref1_Words A_passkeyref1_Words (loopAt 2 (Try.f33.body.getD .skip)) (lay cd [(0, .f (.v (.rs 3))), (3, .f (.own 0)), (4, .f (.v (.int .i64))), (5, .f (.v (.int .i64)))] (y0, y1, y2, y3, ())) (roundK cd [(0, .f (.v (.rs 3))), (3, .f (.own 0)), (4, .f (.v (.int .i64))), (5, .f (.v (.int .i64)))] [(.exit 2, [(0, .f (.v (.rs 3))), (3, .f (.own 0)), (4, .f (.v (.int .i64)))])]) = passkeyref1_Words_L2b y0 y1 y2 y3 := by kernel_rfl

theorem passkeyref1_Words_L0_eq (y0 : (List (BitVec 64))) (y1 : (List (UInt8))) (y2 : Int) : run E_passkeyref1_Words A_passkeyref1_Words (loopAt 0 (Try.f33.body.getD .skip)) (lay cd [(0, .f (.v (.rs 3))), (3, .f (.own 0)), (4, .f (.v (.int .i64)))] (y0, y1, y2, ())) (roundK cd [(0, .f (.v (.rs 3))), (3, .f (.own 0)), (4, .f (.v (.int .i64)))] [(.exit 0, [(3, .f (.own 0))])]) = passkeyref1_Words_L0b y0 y1 y2 := by kernel_rfl

theorem passkeyref1_Words_eq (x : tySs T S_passkeyref1_Words.ps) : run E_passkeyref1_Words A_passkeyref1_Words (Try.f33.body.getD .skip) (enterT E_passkeyref1_Words.C S_passkeyref1_Words.ps x) (retK E_passkeyref1_Words Try.f33.results.toList S_passkeyref1_Words.ps S_passkeyref1_Words.rs) = S_passkeyref1_Words.fn x := by kernel_rfl

theorem passkeyref1_Words_env : EnvOk Try.prog E_passkeyref1_Words := envOk (E := E_passkeyref1_Words) cd_ok tys fl_ok fun f ds S h => by cases h

theorem passkeyref1_Words_L2_ok : LoopOk Try.prog E_passkeyref1_Words Try.f33.ntmps (kqOf S_passkeyref1_Words.ps 0) (loopAt 2 (Try.f33.body.getD .skip)) ⟨[(0, .f (.v (.rs 3))), (3, .f (.own 0)), (4, .f (.v (.int .i64))), (5, .f (.v (.int .i64)))], [(.exit 2, [(0, .f (.v (.rs 3))), (3, .f (.own 0)), (4, .f (.v (.int .i64)))])], passkeyref1_Words_L2⟩ :=
  loop_ok (A := A_passkeyref1_Words) (done := []) (c0 := (Try.f33.body.getD .skip)) hmix passkeyref1_Words_env done_nil rounds (by kernel_rfl) (by kernel_rfl) (fun x => passkeyref1_Words_L2_eq x.1 x.2.1 x.2.2.1 x.2.2.2.1) (fun _ => rfl)

theorem passkeyref1_Words_L0_ok : LoopOk Try.prog E_passkeyref1_Words Try.f33.ntmps (kqOf S_passkeyref1_Words.ps 0) (loopAt 0 (Try.f33.body.getD .skip)) ⟨[(0, .f (.v (.rs 3))), (3, .f (.own 0)), (4, .f (.v (.int .i64)))], [(.exit 0, [(3, .f (.own 0))])], passkeyref1_Words_L0⟩ :=
  loop_ok (A := A_passkeyref1_Words) (done := [2]) (c0 := (Try.f33.body.getD .skip)) hmix passkeyref1_Words_env (done_cons rfl passkeyref1_Words_L2_ok done_nil) rounds (by kernel_rfl) (by kernel_rfl) (fun x => passkeyref1_Words_L0_eq x.1 x.2.1 x.2.2.1) (fun _ => rfl)

theorem passkeyref1_Words_ok : SoundT Try.prog cd gdn 33 S_passkeyref1_Words :=
  sound_fn (E := E_passkeyref1_Words) (A := A_passkeyref1_Words) (done := [2, 0]) (c := (Try.f33.body.getD .skip)) (S := S_passkeyref1_Words) (fn := Try.f33) hmix passkeyref1_Words_env Try.func33 rfl (by kernel_rfl) (by kernel_rfl) (done_cons rfl passkeyref1_Words_L2_ok (done_cons rfl passkeyref1_Words_L0_ok done_nil)) (by kernel_rfl) (by kernel_rfl) passkeyref1_Words_eq

def passkeyref1_rotl (a0 : (BitVec 64)) (a1 : (BitVec 64)) : Option ((Unit) × ((BitVec 64) × Unit)) :=
 (some ((), (((a0 <<< a1.toNat) ||| (a0 >>> (64#64 - a1).toNat)), ())))

def S_passkeyref1_rotl : FSpec T := ⟨[.f (.v .u64), .f (.v .u64)], [(.v .u64)], fun x => passkeyref1_rotl x.1 x.2.1⟩

def E_passkeyref1_rotl : Env T := ⟨tab.find, cd, globs, flc, fun f ds => match f with
    | _ => none, fun f => match f with
    | _ => false⟩

def A_passkeyref1_rotl : Loc2 T := ⟨fun id => match id with
    | _ => none, fun r => match r with
    | _ => none, fun r => match r with
    | _ => false⟩

theorem passkeyref1_rotl_eq (x : tySs T S_passkeyref1_rotl.ps) : run E_passkeyref1_rotl A_passkeyref1_rotl (Try.f56.body.getD .skip) (enterT E_passkeyref1_rotl.C S_passkeyref1_rotl.ps x) (retK E_passkeyref1_rotl Try.f56.results.toList S_passkeyref1_rotl.ps S_passkeyref1_rotl.rs) = S_passkeyref1_rotl.fn x := by kernel_rfl

theorem passkeyref1_rotl_env : EnvOk Try.prog E_passkeyref1_rotl := envOk (E := E_passkeyref1_rotl) cd_ok tys fl_ok fun f ds S h => by cases h

theorem passkeyref1_rotl_ok : SoundT Try.prog cd gdn 56 S_passkeyref1_rotl :=
  sound_fn (E := E_passkeyref1_rotl) (A := A_passkeyref1_rotl) (done := []) (c := (Try.f56.body.getD .skip)) (S := S_passkeyref1_rotl) (fn := Try.f56) hmix passkeyref1_rotl_env Try.func56 rfl (by kernel_rfl) (by kernel_rfl) done_nil (by kernel_rfl) (by kernel_rfl) passkeyref1_rotl_eq

def passkeyref1_round (a0 : Arr4_BitVec64) : Option ((Unit) × (Arr4_BitVec64 × Unit)) :=
 ((passkeyref1_rotl a0.a1 (13#64)).bind fun r1 => ((passkeyref1_rotl (a0.a0 + a0.a1) (32#64)).bind fun r2 => ((passkeyref1_rotl a0.a3 (16#64)).bind fun r3 => ((passkeyref1_rotl (r3.2.1 ^^^ (a0.a2 + a0.a3)) (21#64)).bind fun r4 => ((passkeyref1_rotl (r1.2.1 ^^^ (a0.a0 + a0.a1)) (17#64)).bind fun r5 => (let v6 : BitVec 64 := (r5.2.1 ^^^ ((a0.a2 + a0.a3) + (r1.2.1 ^^^ (a0.a0 + a0.a1))))
 ((passkeyref1_rotl ((a0.a2 + a0.a3) + (r1.2.1 ^^^ (a0.a0 + a0.a1))) (32#64)).bind fun r7 => (some ((), ((⟨(r2.2.1 + (r3.2.1 ^^^ (a0.a2 + a0.a3))), v6, r7.2.1, (r4.2.1 ^^^ (r2.2.1 + (r3.2.1 ^^^ (a0.a2 + a0.a3))))⟩ : Arr4_BitVec64), ()))))))))))

def S_passkeyref1_round : FSpec T := ⟨[.f (.v (.agg 5))], [(.v (.agg 5))], fun x => passkeyref1_round x.1⟩

def E_passkeyref1_round : Env T := ⟨tab.find, cd, globs, flc, fun f ds => match f with
    | 56 => some S_passkeyref1_rotl
    | _ => none, fun f => match f with
    | 56 => true
    | _ => false⟩

def A_passkeyref1_round : Loc2 T := ⟨fun id => match id with
    | _ => none, fun r => match r with
    | _ => none, fun r => match r with
    | _ => false⟩

theorem passkeyref1_round_eq (x : tySs T S_passkeyref1_round.ps) : run E_passkeyref1_round A_passkeyref1_round (Try.f54.body.getD .skip) (enterT E_passkeyref1_round.C S_passkeyref1_round.ps x) (retK E_passkeyref1_round Try.f54.results.toList S_passkeyref1_round.ps S_passkeyref1_round.rs) = S_passkeyref1_round.fn x := by kernel_rfl

theorem passkeyref1_round_env : EnvOk Try.prog E_passkeyref1_round := envOk (E := E_passkeyref1_round) cd_ok tys fl_ok fun f ds S h => by
    dsimp only [E_passkeyref1_round] at h
    split at h
    · cases h; exact passkeyref1_rotl_ok
    · cases h

theorem passkeyref1_round_ok : SoundT Try.prog cd gdn 54 S_passkeyref1_round :=
  sound_fn (E := E_passkeyref1_round) (A := A_passkeyref1_round) (done := []) (c := (Try.f54.body.getD .skip)) (S := S_passkeyref1_round) (fn := Try.f54) hmix passkeyref1_round_env Try.func54 rfl (by kernel_rfl) (by kernel_rfl) done_nil (by kernel_rfl) (by kernel_rfl) passkeyref1_round_eq

def passkeyref1_Sum_L2b (y0 : (List (UInt8))) (y1 : (Arr4_BitVec64 × Unit)) (y2 : Int) (y3 : (BitVec 64)) (y4 : Int) : Option (((List (UInt8)) × (Arr4_BitVec64 × Unit) × Int × (BitVec 64) × Int × Unit) ⊕ ((List (UInt8)) × (Arr4_BitVec64 × Unit) × Int × (BitVec 64) × Unit)) :=
 (bif (decide ((0 : Int) ≤ y4)) then (bif (decide ((IntKind.wrap .i64 (y2 + y4)) < ((y0).length : Int))) then ((getI y0 (IntKind.wrap .i64 (y2 + y4))).bind fun x1 => (some (Sum.inl (y0, (y1.1, ()), y2, ((y3 <<< 8) ||| (BitVec.setWidth 64 x1.toBitVec)), (IntKind.wrap .i64 (y4 - (1 : Int))), ()))))
 else (bif (decide (y4 = (7 : Int))) then (let v2 : BitVec 64 := (BitVec.setWidth 64 (UInt8.ofBitVec (BitVec.ofInt 8 ((y0).length : Int))).toBitVec)
 (some (Sum.inl (y0, (y1.1, ()), y2, ((y3 <<< 8) ||| v2), (IntKind.wrap .i64 (y4 - (1 : Int))), ()))))
 else (some (Sum.inl (y0, (y1.1, ()), y2, ((y3 <<< 8) ||| (BitVec.setWidth 64 (0 : UInt8).toBitVec)), (IntKind.wrap .i64 (y4 - (1 : Int))), ())))))
 else (some (Sum.inr (y0, (y1.1, ()), y2, y3, ()))))

def passkeyref1_Sum_L2 (y : ((List (UInt8)) × (Arr4_BitVec64 × Unit) × Int × (BitVec 64) × Int × Unit)) : Option ((List (UInt8)) × (Arr4_BitVec64 × Unit) × Int × (BitVec 64) × Unit) := iter (fun (y : ((List (UInt8)) × (Arr4_BitVec64 × Unit) × Int × (BitVec 64) × Int × Unit)) => passkeyref1_Sum_L2b y.1 y.2.1 y.2.2.1 y.2.2.2.1 y.2.2.2.2.1) rounds y

def passkeyref1_Sum_L0b (y0 : (List (UInt8))) (y1 : (Arr4_BitVec64 × Unit)) (y2 : Int) : Option (((List (UInt8)) × (Arr4_BitVec64 × Unit) × Int × Unit) ⊕ ((Arr4_BitVec64 × Unit) × Unit)) :=
 (bif (decide (y2 ≤ ((y0).length : Int))) then ((passkeyref1_Sum_L2 (y0, (y1.1, ()), y2, 0#64, (7 : Int), ())).bind (fun (z1 : ((List (UInt8)) × (Arr4_BitVec64 × Unit) × Int × (BitVec 64) × Unit)) => ((passkeyref1_round (⟨z1.2.1.1.a0, z1.2.1.1.a1, z1.2.1.1.a2, (z1.2.1.1.a3 ^^^ z1.2.2.2.1)⟩ : Arr4_BitVec64)).bind fun r2 => ((passkeyref1_round r2.2.1).bind fun r3 => (some (Sum.inl (z1.1, ((⟨(r3.2.1.a0 ^^^ z1.2.2.2.1), r3.2.1.a1, r3.2.1.a2, r3.2.1.a3⟩ : Arr4_BitVec64), ()), (IntKind.wrap .i64 (z1.2.2.1 + (8 : Int))), ())))))))
 else (some (Sum.inr ((y1.1, ()), ()))))

def passkeyref1_Sum_L0 (y : ((List (UInt8)) × (Arr4_BitVec64 × Unit) × Int × Unit)) : Option ((Arr4_BitVec64 × Unit) × Unit) := iter (fun (y : ((List (UInt8)) × (Arr4_BitVec64 × Unit) × Int × Unit)) => passkeyref1_Sum_L0b y.1 y.2.1 y.2.2.1) rounds y

def passkeyref1_Sum (a0 : (BitVec 64)) (a1 : (BitVec 64)) (a2 : (List (UInt8))) : Option ((Unit) × ((BitVec 64) × Unit)) :=
 ((passkeyref1_Sum_L0 (a2, ((⟨(a0 ^^^ 8317987319222330741#64), (a1 ^^^ 7237128888997146477#64), (a0 ^^^ 7816392313619706465#64), (a1 ^^^ 8387220255154660723#64)⟩ : Arr4_BitVec64), ()), (0 : Int), ())).bind (fun (z4 : ((Arr4_BitVec64 × Unit) × Unit)) => ((passkeyref1_round (⟨z4.1.1.a0, z4.1.1.a1, (z4.1.1.a2 ^^^ 255#64), z4.1.1.a3⟩ : Arr4_BitVec64)).bind fun r5 => ((passkeyref1_round r5.2.1).bind fun r6 => ((passkeyref1_round r6.2.1).bind fun r7 => ((passkeyref1_round r7.2.1).bind fun r8 => (some ((), ((((r8.2.1.a0 ^^^ r8.2.1.a1) ^^^ r8.2.1.a2) ^^^ r8.2.1.a3), ())))))))))

def S_passkeyref1_Sum : FSpec T := ⟨[.f (.v .u64), .f (.v .u64), .f (.v (.rs 0))], [(.v .u64)], fun x => passkeyref1_Sum x.1 x.2.1 x.2.2.1⟩

def E_passkeyref1_Sum : Env T := ⟨tab.find, cd, globs, flc, fun f ds => match f with
    | 54 => some S_passkeyref1_round
    | _ => none, fun f => match f with
    | 54 => true
    | _ => false⟩

def A_passkeyref1_Sum : Loc2 T := ⟨fun id => match id with
    | 2 => some ⟨[(2, .f (.v (.rs 0))), (7, .ptr [(.v (.agg 5))]), (8, .f (.v (.int .i64))), (9, .f (.v .u64)), (10, .f (.v (.int .i64)))], [(.exit 2, [(2, .f (.v (.rs 0))), (7, .ptr [(.v (.agg 5))]), (8, .f (.v (.int .i64))), (9, .f (.v .u64))])], passkeyref1_Sum_L2⟩
    | 0 => some ⟨[(2, .f (.v (.rs 0))), (7, .ptr [(.v (.agg 5))]), (8, .f (.v (.int .i64)))], [(.exit 0, [(7, .ptr [(.v (.agg 5))])])], passkeyref1_Sum_L0⟩
    | _ => none, fun r => match r with
    | _ => none, fun r => match r with
    | _ => false⟩

theorem passkeyref1_Sum_L2_eq (y0 : (List (UInt8))) (y1 : (Arr4_BitVec64 × Unit)) (y2 : Int) (y3 : (BitVec 64)) (y4 : Int) : run E_passkeyref1_Sum A_passkeyref1_Sum (loopAt 2 (Try.f50.body.getD .skip)) (lay cd [(2, .f (.v (.rs 0))), (7, .ptr [(.v (.agg 5))]), (8, .f (.v (.int .i64))), (9, .f (.v .u64)), (10, .f (.v (.int .i64)))] (y0, y1, y2, y3, y4, ())) (roundK cd [(2, .f (.v (.rs 0))), (7, .ptr [(.v (.agg 5))]), (8, .f (.v (.int .i64))), (9, .f (.v .u64)), (10, .f (.v (.int .i64)))] [(.exit 2, [(2, .f (.v (.rs 0))), (7, .ptr [(.v (.agg 5))]), (8, .f (.v (.int .i64))), (9, .f (.v .u64))])]) = passkeyref1_Sum_L2b y0 y1 y2 y3 y4 := by kernel_rfl

theorem passkeyref1_Sum_L0_eq (y0 : (List (UInt8))) (y1 : (Arr4_BitVec64 × Unit)) (y2 : Int) : run E_passkeyref1_Sum A_passkeyref1_Sum (loopAt 0 (Try.f50.body.getD .skip)) (lay cd [(2, .f (.v (.rs 0))), (7, .ptr [(.v (.agg 5))]), (8, .f (.v (.int .i64)))] (y0, y1, y2, ())) (roundK cd [(2, .f (.v (.rs 0))), (7, .ptr [(.v (.agg 5))]), (8, .f (.v (.int .i64)))] [(.exit 0, [(7, .ptr [(.v (.agg 5))])])]) = passkeyref1_Sum_L0b y0 y1 y2 := by kernel_rfl

theorem passkeyref1_Sum_eq (x : tySs T S_passkeyref1_Sum.ps) : run E_passkeyref1_Sum A_passkeyref1_Sum (Try.f50.body.getD .skip) (enterT E_passkeyref1_Sum.C S_passkeyref1_Sum.ps x) (retK E_passkeyref1_Sum Try.f50.results.toList S_passkeyref1_Sum.ps S_passkeyref1_Sum.rs) = S_passkeyref1_Sum.fn x := by kernel_rfl

theorem passkeyref1_Sum_env : EnvOk Try.prog E_passkeyref1_Sum := envOk (E := E_passkeyref1_Sum) cd_ok tys fl_ok fun f ds S h => by
    dsimp only [E_passkeyref1_Sum] at h
    split at h
    · cases h; exact passkeyref1_round_ok
    · cases h

theorem passkeyref1_Sum_L2_ok : LoopOk Try.prog E_passkeyref1_Sum Try.f50.ntmps (kqOf S_passkeyref1_Sum.ps 0) (loopAt 2 (Try.f50.body.getD .skip)) ⟨[(2, .f (.v (.rs 0))), (7, .ptr [(.v (.agg 5))]), (8, .f (.v (.int .i64))), (9, .f (.v .u64)), (10, .f (.v (.int .i64)))], [(.exit 2, [(2, .f (.v (.rs 0))), (7, .ptr [(.v (.agg 5))]), (8, .f (.v (.int .i64))), (9, .f (.v .u64))])], passkeyref1_Sum_L2⟩ :=
  loop_ok (A := A_passkeyref1_Sum) (done := []) (c0 := (Try.f50.body.getD .skip)) hmix passkeyref1_Sum_env done_nil rounds (by kernel_rfl) (by kernel_rfl) (fun x => passkeyref1_Sum_L2_eq x.1 x.2.1 x.2.2.1 x.2.2.2.1 x.2.2.2.2.1) (fun _ => rfl)

theorem passkeyref1_Sum_L0_ok : LoopOk Try.prog E_passkeyref1_Sum Try.f50.ntmps (kqOf S_passkeyref1_Sum.ps 0) (loopAt 0 (Try.f50.body.getD .skip)) ⟨[(2, .f (.v (.rs 0))), (7, .ptr [(.v (.agg 5))]), (8, .f (.v (.int .i64)))], [(.exit 0, [(7, .ptr [(.v (.agg 5))])])], passkeyref1_Sum_L0⟩ :=
  loop_ok (A := A_passkeyref1_Sum) (done := [2]) (c0 := (Try.f50.body.getD .skip)) hmix passkeyref1_Sum_env (done_cons rfl passkeyref1_Sum_L2_ok done_nil) rounds (by kernel_rfl) (by kernel_rfl) (fun x => passkeyref1_Sum_L0_eq x.1 x.2.1 x.2.2.1) (fun _ => rfl)

theorem passkeyref1_Sum_ok : SoundT Try.prog cd gdn 50 S_passkeyref1_Sum :=
  sound_fn (E := E_passkeyref1_Sum) (A := A_passkeyref1_Sum) (done := [2, 0]) (c := (Try.f50.body.getD .skip)) (S := S_passkeyref1_Sum) (fn := Try.f50) hmix passkeyref1_Sum_env Try.func50 rfl (by kernel_rfl) (by kernel_rfl) (done_cons rfl passkeyref1_Sum_L2_ok (done_cons rfl passkeyref1_Sum_L0_ok done_nil)) (by kernel_rfl) (by kernel_rfl) passkeyref1_Sum_eq

def passkeyref1_Mac (a0 : (BitVec 64)) (a1 : Int) (a2 : (List (UInt8))) : Option ((Unit) × ((BitVec 64) × Unit)) :=
 ((passkeyref1_Sum a0 (1#64 + (BitVec.ofInt 64 a1)) a2).bind fun r1 => (some ((), (r1.2.1, ()))))

def S_passkeyref1_Mac : FSpec T := ⟨[.f (.v .u64), .f (.v (.int .i64)), .f (.v (.rs 0))], [(.v .u64)], fun x => passkeyref1_Mac x.1 x.2.1 x.2.2.1⟩

def E_passkeyref1_Mac : Env T := ⟨tab.find, cd, globs, flc, fun f ds => match f with
    | 50 => some S_passkeyref1_Sum
    | _ => none, fun f => match f with
    | 50 => true
    | _ => false⟩

def A_passkeyref1_Mac : Loc2 T := ⟨fun id => match id with
    | _ => none, fun r => match r with
    | _ => none, fun r => match r with
    | _ => false⟩

theorem passkeyref1_Mac_eq (x : tySs T S_passkeyref1_Mac.ps) : run E_passkeyref1_Mac A_passkeyref1_Mac (Try.f34.body.getD .skip) (enterT E_passkeyref1_Mac.C S_passkeyref1_Mac.ps x) (retK E_passkeyref1_Mac Try.f34.results.toList S_passkeyref1_Mac.ps S_passkeyref1_Mac.rs) = S_passkeyref1_Mac.fn x := by kernel_rfl

theorem passkeyref1_Mac_env : EnvOk Try.prog E_passkeyref1_Mac := envOk (E := E_passkeyref1_Mac) cd_ok tys fl_ok fun f ds S h => by
    dsimp only [E_passkeyref1_Mac] at h
    split at h
    · cases h; exact passkeyref1_Sum_ok
    · cases h

theorem passkeyref1_Mac_ok : SoundT Try.prog cd gdn 34 S_passkeyref1_Mac :=
  sound_fn (E := E_passkeyref1_Mac) (A := A_passkeyref1_Mac) (done := []) (c := (Try.f34.body.getD .skip)) (S := S_passkeyref1_Mac) (fn := Try.f34) hmix passkeyref1_Mac_env Try.func34 rfl (by kernel_rfl) (by kernel_rfl) done_nil (by kernel_rfl) (by kernel_rfl) passkeyref1_Mac_eq

def passkeyref29_SessionBytes (a0 : ApiSessions) (a1 : ApiSession) : Option ((Unit) × ((List (UInt8)) × Unit)) :=
 (let v1 : List (BitVec 64) := ([(BitVec.ofInt 64 a1.number), (BitVec.ofInt 64 a1.since)] : List (BitVec 64))
 ((passkeyref1_Words v1).bind fun r2 => (bif small ((r2.2.1).length + (a1.account : List (UInt8)).length) 1 then ((passkeyref1_Mac a0.secret (18 : Int) (r2.2.1 ++ a1.account)).bind fun r3 => ((passkeyref1_Words ([(BitVec.ofInt 64 a1.number), r3.2.1] : List (BitVec 64))).bind fun r4 => (some ((), (r4.2.1, ())))))
 else none)))

def S_passkeyref29_SessionBytes : FSpec T := ⟨[.f (.v (.agg 2)), .f (.v (.agg 1))], [(.own 0)], fun x => passkeyref29_SessionBytes x.1 x.2.1⟩

def E_passkeyref29_SessionBytes : Env T := ⟨tab.find, cd, globs, flc, fun f ds => match f with
    | 33 => some S_passkeyref1_Words
    | 34 => some S_passkeyref1_Mac
    | _ => none, fun f => match f with
    | 34 => true
    | _ => false⟩

def A_passkeyref29_SessionBytes : Loc2 T := ⟨fun id => match id with
    | _ => none, fun r => match r with
    | _ => none, fun r => match r with
    | 1 => true
    | _ => false⟩

theorem passkeyref29_SessionBytes_eq (x : tySs T S_passkeyref29_SessionBytes.ps) : run E_passkeyref29_SessionBytes A_passkeyref29_SessionBytes (Try.f9.body.getD .skip) (enterT E_passkeyref29_SessionBytes.C S_passkeyref29_SessionBytes.ps x) (retK E_passkeyref29_SessionBytes Try.f9.results.toList S_passkeyref29_SessionBytes.ps S_passkeyref29_SessionBytes.rs) = S_passkeyref29_SessionBytes.fn x := by kernel_rfl

theorem passkeyref29_SessionBytes_env : EnvOk Try.prog E_passkeyref29_SessionBytes := envOk (E := E_passkeyref29_SessionBytes) cd_ok tys fl_ok fun f ds S h => by
    dsimp only [E_passkeyref29_SessionBytes] at h
    split at h
    · cases h; exact passkeyref1_Words_ok
    · cases h; exact passkeyref1_Mac_ok
    · cases h

theorem passkeyref29_SessionBytes_ok : SoundT Try.prog cd gdn 9 S_passkeyref29_SessionBytes :=
  sound_fn (E := E_passkeyref29_SessionBytes) (A := A_passkeyref29_SessionBytes) (done := []) (c := (Try.f9.body.getD .skip)) (S := S_passkeyref29_SessionBytes) (fn := Try.f9) hmix passkeyref29_SessionBytes_env Try.func9 rfl (by kernel_rfl) (by kernel_rfl) done_nil (by kernel_rfl) (by kernel_rfl) passkeyref29_SessionBytes_eq

def passkeylaw34_SessionBytes (a0 : ApiSessions) (a1 : ApiSession) : Option ((Unit) × (Bool × Unit)) :=
 (bif (decide ((200 : Int) < ((a1.account).length : Int))) then ((passkeylaw34_awake).bind fun r1 => (some ((), (r1.2.1, ()))))
 else ((session_Bytes a0 a1).bind fun r2 => ((passkeyref29_SessionBytes a0 a1).bind fun r3 => (bif (decide (r2.2.1 = r3.2.1)) then ((passkeylaw34_awake).bind fun r4 => (some ((), (r4.2.1, ()))))
 else (some ((), (false, ())))))))

def S_passkeylaw34_SessionBytes : FSpec T := ⟨[.f (.v (.agg 2)), .f (.v (.agg 1))], [(.v .bool)], fun x => passkeylaw34_SessionBytes x.1 x.2.1⟩

def E_passkeylaw34_SessionBytes : Env T := ⟨tab.find, cd, globs, flc, fun f ds => match f with
    | 7 => some S_passkeylaw34_awake
    | 8 => some S_session_Bytes
    | 9 => some S_passkeyref29_SessionBytes
    | _ => none, fun f => match f with
    | 7 => true
    | _ => false⟩

def A_passkeylaw34_SessionBytes : Loc2 T := ⟨fun id => match id with
    | _ => none, fun r => match r with
    | _ => none, fun r => match r with
    | 3 => true
    | _ => false⟩

theorem passkeylaw34_SessionBytes_eq (x : tySs T S_passkeylaw34_SessionBytes.ps) : run E_passkeylaw34_SessionBytes A_passkeylaw34_SessionBytes (Try.f3.body.getD .skip) (enterT E_passkeylaw34_SessionBytes.C S_passkeylaw34_SessionBytes.ps x) (retK E_passkeylaw34_SessionBytes Try.f3.results.toList S_passkeylaw34_SessionBytes.ps S_passkeylaw34_SessionBytes.rs) = S_passkeylaw34_SessionBytes.fn x := by kernel_rfl

theorem passkeylaw34_SessionBytes_env : EnvOk Try.prog E_passkeylaw34_SessionBytes := envOk (E := E_passkeylaw34_SessionBytes) cd_ok tys fl_ok fun f ds S h => by
    dsimp only [E_passkeylaw34_SessionBytes] at h
    split at h
    · cases h; exact passkeylaw34_awake_ok
    · cases h; exact session_Bytes_ok
    · cases h; exact passkeyref29_SessionBytes_ok
    · cases h

theorem passkeylaw34_SessionBytes_ok : SoundT Try.prog cd gdn 3 S_passkeylaw34_SessionBytes :=
  sound_fn (E := E_passkeylaw34_SessionBytes) (A := A_passkeylaw34_SessionBytes) (done := []) (c := (Try.f3.body.getD .skip)) (S := S_passkeylaw34_SessionBytes) (fn := Try.f3) hmix passkeylaw34_SessionBytes_env Try.func3 rfl (by kernel_rfl) (by kernel_rfl) done_nil (by kernel_rfl) (by kernel_rfl) passkeylaw34_SessionBytes_eq

def passkeylaw34_SessionMany_L0b (y0 : (ApiSessions × Unit)) (y1 : Int) (y2 : (List (List UInt8))) (y3 : Int) : Option (((ApiSessions × Unit) × Int × (List (List UInt8)) × Int × Unit) ⊕ ((Bool × Unit) ⊕ ((ApiSessions × Unit) × Int × (List (List UInt8)) × Unit))) :=
 (bif (decide (y3 < y1)) then ((session_Open y0.1 ([97] : List UInt8) [] (0#64) y3 (1000 : Int)).bind fun r3 => (bif (!decide (r3.2.2.2.1 = (0 : Int))) then (some (Sum.inr (Sum.inl (false, ()))))
 else (bif (decide ((32 : Int) < ((r3.2.1.open_).length : Int))) then (some (Sum.inr (Sum.inl (false, ()))))
 else (bif small ((y2).length + (([r3.2.2.1] : List (List UInt8)) : List (List UInt8)).length) 24 then (some (Sum.inl ((r3.2.1, ()), y1, (y2 ++ ([r3.2.2.1] : List (List UInt8))), (IntKind.wrap .i64 (y3 + (1 : Int))), ())))
 else none))))
 else (some (Sum.inr (Sum.inr ((y0.1, ()), y1, y2, ())))))

def passkeylaw34_SessionMany_L0 (y : ((ApiSessions × Unit) × Int × (List (List UInt8)) × Int × Unit)) : Option ((Bool × Unit) ⊕ ((ApiSessions × Unit) × Int × (List (List UInt8)) × Unit)) := iter (fun (y : ((ApiSessions × Unit) × Int × (List (List UInt8)) × Int × Unit)) => passkeylaw34_SessionMany_L0b y.1 y.2.1 y.2.2.1 y.2.2.2.1) rounds y

def passkeylaw34_SessionMany_L2b (y0 : (ApiSessions × Unit)) (y1 : Int) (y2 : (List (List UInt8))) (y3 : Int) : Option (((ApiSessions × Unit) × Int × (List (List UInt8)) × Int × Unit) ⊕ ((Bool × Unit) ⊕ (Unit))) :=
 (bif (decide (y3 < y1)) then (bif (decide ((0 : Int) ≤ y3) && decide (y3 < ((y2).length : Int))) then (((y2)[(y3).toNat]?).bind fun x6 => ((session_Check y0.1 x6 y1).bind fun r7 => (bif (!((decide (r7.2.2.1 = (0 : Int))) == (decide ((IntKind.wrap .i64 (y1 - (32 : Int))) ≤ y3)))) then (some (Sum.inr (Sum.inl (false, ()))))
 else (bif (decide (r7.2.2.1 = (0 : Int))) then (bif (!decide (r7.2.1.number = y3)) then (some (Sum.inr (Sum.inl (false, ()))))
 else (some (Sum.inl ((y0.1, ()), y1, y2, (IntKind.wrap .i64 (y3 + (1 : Int))), ()))))
 else (some (Sum.inl ((y0.1, ()), y1, y2, (IntKind.wrap .i64 (y3 + (1 : Int))), ())))))))
 else none)
 else (some (Sum.inr (Sum.inr ()))))

def passkeylaw34_SessionMany_L2 (y : ((ApiSessions × Unit) × Int × (List (List UInt8)) × Int × Unit)) : Option ((Bool × Unit) ⊕ (Unit)) := iter (fun (y : ((ApiSessions × Unit) × Int × (List (List UInt8)) × Int × Unit)) => passkeylaw34_SessionMany_L2b y.1 y.2.1 y.2.2.1 y.2.2.2.1) rounds y

def passkeylaw34_SessionMany (a0 : (BitVec 64)) (a1 : UInt8) : Option ((Unit) × (Bool × Unit)) :=
 ((session_New a0).bind fun r1 => (bif decide ((70 : UInt8).toBitVec = 0) then none
 else (let v2 : Int := ((UInt8.ofBitVec (a1.toBitVec % (70 : UInt8).toBitVec)).toBitVec.toNat : Int)
 ((passkeylaw34_SessionMany_L0 ((r1.2.1, ()), (IntKind.wrap .i64 ((1 : Int) + v2)), [], (0 : Int), ())).bind (Sum.elim (fun (z4 : (Bool × Unit)) => (some ((), (z4.1, ())))) (fun (z5 : ((ApiSessions × Unit) × Int × (List (List UInt8)) × Unit)) => ((passkeylaw34_SessionMany_L2 ((z5.1.1, ()), z5.2.1, z5.2.2.1, (0 : Int), ())).bind (Sum.elim (fun (z8 : (Bool × Unit)) => (some ((), (z8.1, ())))) (fun (z9 : (Unit)) => ((passkeylaw34_awake).bind fun r10 => (some ((), (r10.2.1, ())))))))))))))

def S_passkeylaw34_SessionMany : FSpec T := ⟨[.f (.v .u64), .f (.v .u8)], [(.v .bool)], fun x => passkeylaw34_SessionMany x.1 x.2.1⟩

def E_passkeylaw34_SessionMany : Env T := ⟨tab.find, cd, globs, flc, fun f ds => match f with
    | 7 => some S_passkeylaw34_awake
    | 10 => some S_session_New
    | 11 => some S_session_Open
    | 12 => some S_session_Check
    | _ => none, fun f => match f with
    | 7 => true
    | _ => false⟩

def A_passkeylaw34_SessionMany : Loc2 T := ⟨fun id => match id with
    | 0 => some ⟨[(5, .ptr [(.v (.agg 2))]), (6, .f (.v (.int .i64))), (7, .f (.own 6)), (8, .f (.v (.int .i64)))], [(.ret, [(4, .f (.v .bool))]), (.exit 0, [(5, .ptr [(.v (.agg 2))]), (6, .f (.v (.int .i64))), (7, .f (.own 6))])], passkeylaw34_SessionMany_L0⟩
    | 2 => some ⟨[(5, .ptr [(.v (.agg 2))]), (6, .f (.v (.int .i64))), (7, .f (.own 6)), (12, .f (.v (.int .i64)))], [(.ret, [(4, .f (.v .bool))]), (.exit 2, [])], passkeylaw34_SessionMany_L2⟩
    | _ => none, fun r => match r with
    | _ => none, fun r => match r with
    | 10 => true
    | 14 => true
    | _ => false⟩

theorem passkeylaw34_SessionMany_L0_eq (y0 : (ApiSessions × Unit)) (y1 : Int) (y2 : (List (List UInt8))) (y3 : Int) : run E_passkeylaw34_SessionMany A_passkeylaw34_SessionMany (loopAt 0 (Try.f4.body.getD .skip)) (lay cd [(5, .ptr [(.v (.agg 2))]), (6, .f (.v (.int .i64))), (7, .f (.own 6)), (8, .f (.v (.int .i64)))] (y0, y1, y2, y3, ())) (roundK cd [(5, .ptr [(.v (.agg 2))]), (6, .f (.v (.int .i64))), (7, .f (.own 6)), (8, .f (.v (.int .i64)))] [(.ret, [(4, .f (.v .bool))]), (.exit 0, [(5, .ptr [(.v (.agg 2))]), (6, .f (.v (.int .i64))), (7, .f (.own 6))])]) = passkeylaw34_SessionMany_L0b y0 y1 y2 y3 := by kernel_rfl

theorem passkeylaw34_SessionMany_L2_eq (y0 : (ApiSessions × Unit)) (y1 : Int) (y2 : (List (List UInt8))) (y3 : Int) : run E_passkeylaw34_SessionMany A_passkeylaw34_SessionMany (loopAt 2 (Try.f4.body.getD .skip)) (lay cd [(5, .ptr [(.v (.agg 2))]), (6, .f (.v (.int .i64))), (7, .f (.own 6)), (12, .f (.v (.int .i64)))] (y0, y1, y2, y3, ())) (roundK cd [(5, .ptr [(.v (.agg 2))]), (6, .f (.v (.int .i64))), (7, .f (.own 6)), (12, .f (.v (.int .i64)))] [(.ret, [(4, .f (.v .bool))]), (.exit 2, [])]) = passkeylaw34_SessionMany_L2b y0 y1 y2 y3 := by kernel_rfl

theorem passkeylaw34_SessionMany_eq (x : tySs T S_passkeylaw34_SessionMany.ps) : run E_passkeylaw34_SessionMany A_passkeylaw34_SessionMany (Try.f4.body.getD .skip) (enterT E_passkeylaw34_SessionMany.C S_passkeylaw34_SessionMany.ps x) (retK E_passkeylaw34_SessionMany Try.f4.results.toList S_passkeylaw34_SessionMany.ps S_passkeylaw34_SessionMany.rs) = S_passkeylaw34_SessionMany.fn x := by kernel_rfl

theorem passkeylaw34_SessionMany_env : EnvOk Try.prog E_passkeylaw34_SessionMany := envOk (E := E_passkeylaw34_SessionMany) cd_ok tys fl_ok fun f ds S h => by
    dsimp only [E_passkeylaw34_SessionMany] at h
    split at h
    · cases h; exact passkeylaw34_awake_ok
    · cases h; exact session_New_ok
    · cases h; exact session_Open_ok
    · cases h; exact session_Check_ok
    · cases h

theorem passkeylaw34_SessionMany_L0_ok : LoopOk Try.prog E_passkeylaw34_SessionMany Try.f4.ntmps (kqOf S_passkeylaw34_SessionMany.ps 0) (loopAt 0 (Try.f4.body.getD .skip)) ⟨[(5, .ptr [(.v (.agg 2))]), (6, .f (.v (.int .i64))), (7, .f (.own 6)), (8, .f (.v (.int .i64)))], [(.ret, [(4, .f (.v .bool))]), (.exit 0, [(5, .ptr [(.v (.agg 2))]), (6, .f (.v (.int .i64))), (7, .f (.own 6))])], passkeylaw34_SessionMany_L0⟩ :=
  loop_ok (A := A_passkeylaw34_SessionMany) (done := []) (c0 := (Try.f4.body.getD .skip)) hmix passkeylaw34_SessionMany_env done_nil rounds (by kernel_rfl) (by kernel_rfl) (fun x => passkeylaw34_SessionMany_L0_eq x.1 x.2.1 x.2.2.1 x.2.2.2.1) (fun _ => rfl)

theorem passkeylaw34_SessionMany_L2_ok : LoopOk Try.prog E_passkeylaw34_SessionMany Try.f4.ntmps (kqOf S_passkeylaw34_SessionMany.ps 0) (loopAt 2 (Try.f4.body.getD .skip)) ⟨[(5, .ptr [(.v (.agg 2))]), (6, .f (.v (.int .i64))), (7, .f (.own 6)), (12, .f (.v (.int .i64)))], [(.ret, [(4, .f (.v .bool))]), (.exit 2, [])], passkeylaw34_SessionMany_L2⟩ :=
  loop_ok (A := A_passkeylaw34_SessionMany) (done := [0]) (c0 := (Try.f4.body.getD .skip)) hmix passkeylaw34_SessionMany_env (done_cons rfl passkeylaw34_SessionMany_L0_ok done_nil) rounds (by kernel_rfl) (by kernel_rfl) (fun x => passkeylaw34_SessionMany_L2_eq x.1 x.2.1 x.2.2.1 x.2.2.2.1) (fun _ => rfl)

theorem passkeylaw34_SessionMany_ok : SoundT Try.prog cd gdn 4 S_passkeylaw34_SessionMany :=
  sound_fn (E := E_passkeylaw34_SessionMany) (A := A_passkeylaw34_SessionMany) (done := [0, 2]) (c := (Try.f4.body.getD .skip)) (S := S_passkeylaw34_SessionMany) (fn := Try.f4) hmix passkeylaw34_SessionMany_env Try.func4 rfl (by kernel_rfl) (by kernel_rfl) (done_cons rfl passkeylaw34_SessionMany_L0_ok (done_cons rfl passkeylaw34_SessionMany_L2_ok done_nil)) (by kernel_rfl) (by kernel_rfl) passkeylaw34_SessionMany_eq

def passkeycast_New (a0 : (List (Int))) : Option ((Unit) × (PasskeycastDeck × Unit)) :=
 (some ((), ((⟨a0, (0 : Int)⟩ : PasskeycastDeck), ())))

def S_passkeycast_New : FSpec T := ⟨[.f (.v (.rs 7))], [(.pt (.agg 8))], fun x => passkeycast_New x.1⟩

def E_passkeycast_New : Env T := ⟨tab.find, cd, globs, flc, fun f ds => match f with
    | _ => none, fun f => match f with
    | _ => false⟩

def A_passkeycast_New : Loc2 T := ⟨fun id => match id with
    | _ => none, fun r => match r with
    | _ => none, fun r => match r with
    | _ => false⟩

theorem passkeycast_New_eq (x : tySs T S_passkeycast_New.ps) : run E_passkeycast_New A_passkeycast_New (Try.f13.body.getD .skip) (enterT E_passkeycast_New.C S_passkeycast_New.ps x) (retK E_passkeycast_New Try.f13.results.toList S_passkeycast_New.ps S_passkeycast_New.rs) = S_passkeycast_New.fn x := by kernel_rfl

theorem passkeycast_New_env : EnvOk Try.prog E_passkeycast_New := envOk (E := E_passkeycast_New) cd_ok tys fl_ok fun f ds S h => by cases h

theorem passkeycast_New_ok : SoundT Try.prog cd gdn 13 S_passkeycast_New :=
  sound_fn (E := E_passkeycast_New) (A := A_passkeycast_New) (done := []) (c := (Try.f13.body.getD .skip)) (S := S_passkeycast_New) (fn := Try.f13) hmix passkeycast_New_env Try.func13 rfl (by kernel_rfl) (by kernel_rfl) done_nil (by kernel_rfl) (by kernel_rfl) passkeycast_New_eq

def passkeyref29_NewSessions (a0 : (BitVec 64)) : Option ((Unit) × (ApiSessions × Unit)) :=
 (some ((), ((⟨a0, (0 : Int), []⟩ : ApiSessions), ())))

def S_passkeyref29_NewSessions : FSpec T := ⟨[.f (.v .u64)], [(.v (.agg 2))], fun x => passkeyref29_NewSessions x.1⟩

def E_passkeyref29_NewSessions : Env T := ⟨tab.find, cd, globs, flc, fun f ds => match f with
    | _ => none, fun f => match f with
    | _ => false⟩

def A_passkeyref29_NewSessions : Loc2 T := ⟨fun id => match id with
    | _ => none, fun r => match r with
    | _ => none, fun r => match r with
    | _ => false⟩

theorem passkeyref29_NewSessions_eq (x : tySs T S_passkeyref29_NewSessions.ps) : run E_passkeyref29_NewSessions A_passkeyref29_NewSessions (Try.f14.body.getD .skip) (enterT E_passkeyref29_NewSessions.C S_passkeyref29_NewSessions.ps x) (retK E_passkeyref29_NewSessions Try.f14.results.toList S_passkeyref29_NewSessions.ps S_passkeyref29_NewSessions.rs) = S_passkeyref29_NewSessions.fn x := by kernel_rfl

theorem passkeyref29_NewSessions_env : EnvOk Try.prog E_passkeyref29_NewSessions := envOk (E := E_passkeyref29_NewSessions) cd_ok tys fl_ok fun f ds S h => by cases h

theorem passkeyref29_NewSessions_ok : SoundT Try.prog cd gdn 14 S_passkeyref29_NewSessions :=
  sound_fn (E := E_passkeyref29_NewSessions) (A := A_passkeyref29_NewSessions) (done := []) (c := (Try.f14.body.getD .skip)) (S := S_passkeyref29_NewSessions) (fn := Try.f14) hmix passkeyref29_NewSessions_env Try.func14 rfl (by kernel_rfl) (by kernel_rfl) done_nil (by kernel_rfl) (by kernel_rfl) passkeyref29_NewSessions_eq

def passkeycast_Deck_Left (a0 : PasskeycastDeck) : Option ((Unit) × (Bool × Unit)) :=
 (some ((), ((decide (a0.at_ < ((a0.l).length : Int))), ())))

def S_passkeycast_Deck_Left : FSpec T := ⟨[.f (.v (.ref (.agg 8)))], [(.v .bool)], fun x => passkeycast_Deck_Left x.1⟩

def E_passkeycast_Deck_Left : Env T := ⟨tab.find, cd, globs, flc, fun f ds => match f with
    | _ => none, fun f => match f with
    | _ => false⟩

def A_passkeycast_Deck_Left : Loc2 T := ⟨fun id => match id with
    | _ => none, fun r => match r with
    | _ => none, fun r => match r with
    | _ => false⟩

theorem passkeycast_Deck_Left_eq (x : tySs T S_passkeycast_Deck_Left.ps) : run E_passkeycast_Deck_Left A_passkeycast_Deck_Left (Try.f15.body.getD .skip) (enterT E_passkeycast_Deck_Left.C S_passkeycast_Deck_Left.ps x) (retK E_passkeycast_Deck_Left Try.f15.results.toList S_passkeycast_Deck_Left.ps S_passkeycast_Deck_Left.rs) = S_passkeycast_Deck_Left.fn x := by kernel_rfl

theorem passkeycast_Deck_Left_env : EnvOk Try.prog E_passkeycast_Deck_Left := envOk (E := E_passkeycast_Deck_Left) cd_ok tys fl_ok fun f ds S h => by cases h

theorem passkeycast_Deck_Left_ok : SoundT Try.prog cd gdn 15 S_passkeycast_Deck_Left :=
  sound_fn (E := E_passkeycast_Deck_Left) (A := A_passkeycast_Deck_Left) (done := []) (c := (Try.f15.body.getD .skip)) (S := S_passkeycast_Deck_Left) (fn := Try.f15) hmix passkeycast_Deck_Left_env Try.func15 rfl (by kernel_rfl) (by kernel_rfl) done_nil (by kernel_rfl) (by kernel_rfl) passkeycast_Deck_Left_eq

def passkeycast_Mod (a0 : Int) (a1 : Int) : Option ((Unit) × (Int × Unit)) :=
 (bif decide ((BitVec.ofInt 64 a1) = 0) then none
 else (let v1 : Int := (IntKind.wrap .i64 (((BitVec.ofInt 64 a0) % (BitVec.ofInt 64 a1)).toNat : Int))
 (some ((), (v1, ())))))

def S_passkeycast_Mod : FSpec T := ⟨[.f (.v (.int .i64)), .f (.v (.int .i64))], [(.v (.int .i64))], fun x => passkeycast_Mod x.1 x.2.1⟩

def E_passkeycast_Mod : Env T := ⟨tab.find, cd, globs, flc, fun f ds => match f with
    | _ => none, fun f => match f with
    | _ => false⟩

def A_passkeycast_Mod : Loc2 T := ⟨fun id => match id with
    | _ => none, fun r => match r with
    | _ => none, fun r => match r with
    | _ => false⟩

theorem passkeycast_Mod_eq (x : tySs T S_passkeycast_Mod.ps) : run E_passkeycast_Mod A_passkeycast_Mod (Try.f40.body.getD .skip) (enterT E_passkeycast_Mod.C S_passkeycast_Mod.ps x) (retK E_passkeycast_Mod Try.f40.results.toList S_passkeycast_Mod.ps S_passkeycast_Mod.rs) = S_passkeycast_Mod.fn x := by kernel_rfl

theorem passkeycast_Mod_env : EnvOk Try.prog E_passkeycast_Mod := envOk (E := E_passkeycast_Mod) cd_ok tys fl_ok fun f ds S h => by cases h

theorem passkeycast_Mod_ok : SoundT Try.prog cd gdn 40 S_passkeycast_Mod :=
  sound_fn (E := E_passkeycast_Mod) (A := A_passkeycast_Mod) (done := []) (c := (Try.f40.body.getD .skip)) (S := S_passkeycast_Mod) (fn := Try.f40) hmix passkeycast_Mod_env Try.func40 rfl (by kernel_rfl) (by kernel_rfl) done_nil (by kernel_rfl) (by kernel_rfl) passkeycast_Mod_eq

def passkeycast_Deck_Next (a0 : (PasskeycastDeck × Unit)) (a1 : Int) : Option (((PasskeycastDeck × Unit) × Unit) × (Int × Unit)) :=
 (bif (decide (((a0.1.l).length : Int) ≤ a0.1.at_)) then (some (((a0.1, ()), ()), ((0 : Int), ())))
 else (let v1 : Int := (IntKind.wrap .i64 ((IntKind.wrap .i64 (a0.1.at_ + (1 : Int))) - (1 : Int)))
 ((getI a0.1.l v1).bind fun x2 => ((passkeycast_Mod x2 a1).bind fun r3 => (some ((((⟨a0.1.l, (IntKind.wrap .i64 (a0.1.at_ + (1 : Int)))⟩ : PasskeycastDeck), ()), ()), (r3.2.1, ())))))))

def S_passkeycast_Deck_Next : FSpec T := ⟨[.ptr [(.v (.agg 8))], .f (.v (.int .i64))], [(.v (.int .i64))], fun x => passkeycast_Deck_Next x.1 x.2.1⟩

def E_passkeycast_Deck_Next : Env T := ⟨tab.find, cd, globs, flc, fun f ds => match f with
    | 40 => some S_passkeycast_Mod
    | _ => none, fun f => match f with
    | 40 => true
    | _ => false⟩

def A_passkeycast_Deck_Next : Loc2 T := ⟨fun id => match id with
    | _ => none, fun r => match r with
    | _ => none, fun r => match r with
    | _ => false⟩

theorem passkeycast_Deck_Next_eq (x : tySs T S_passkeycast_Deck_Next.ps) : run E_passkeycast_Deck_Next A_passkeycast_Deck_Next (Try.f16.body.getD .skip) (enterT E_passkeycast_Deck_Next.C S_passkeycast_Deck_Next.ps x) (retK E_passkeycast_Deck_Next Try.f16.results.toList S_passkeycast_Deck_Next.ps S_passkeycast_Deck_Next.rs) = S_passkeycast_Deck_Next.fn x := by kernel_rfl

theorem passkeycast_Deck_Next_env : EnvOk Try.prog E_passkeycast_Deck_Next := envOk (E := E_passkeycast_Deck_Next) cd_ok tys fl_ok fun f ds S h => by
    dsimp only [E_passkeycast_Deck_Next] at h
    split at h
    · cases h; exact passkeycast_Mod_ok
    · cases h

theorem passkeycast_Deck_Next_ok : SoundT Try.prog cd gdn 16 S_passkeycast_Deck_Next :=
  sound_fn (E := E_passkeycast_Deck_Next) (A := A_passkeycast_Deck_Next) (done := []) (c := (Try.f16.body.getD .skip)) (S := S_passkeycast_Deck_Next) (fn := Try.f16) hmix passkeycast_Deck_Next_env Try.func16 rfl (by kernel_rfl) (by kernel_rfl) done_nil (by kernel_rfl) (by kernel_rfl) passkeycast_Deck_Next_eq

def passkeycast_Name (a0 : Int) : Option ((Unit) × ((List UInt8) × Unit)) :=
 (let v1 : List (List UInt8) := ([([97, 108, 105, 99, 101] : List UInt8), ([98, 111, 98] : List UInt8), ([99, 97, 114, 111, 108] : List UInt8), ([] : List UInt8), ([255] : List UInt8)] : List (List UInt8))
 ((passkeycast_Mod a0 (5 : Int)).bind fun r2 => (bif (decide ((0 : Int) ≤ r2.2.1) && decide (r2.2.1 < (5 : Int))) then (((v1)[(r2.2.1).toNat]?).bind fun x3 => (some ((), (x3, ()))))
 else none)))

def S_passkeycast_Name : FSpec T := ⟨[.f (.v (.int .i64))], [(.v .str)], fun x => passkeycast_Name x.1⟩

def E_passkeycast_Name : Env T := ⟨tab.find, cd, globs, flc, fun f ds => match f with
    | 40 => some S_passkeycast_Mod
    | _ => none, fun f => match f with
    | 40 => true
    | _ => false⟩

def A_passkeycast_Name : Loc2 T := ⟨fun id => match id with
    | _ => none, fun r => match r with
    | _ => none, fun r => match r with
    | _ => false⟩

theorem passkeycast_Name_eq (x : tySs T S_passkeycast_Name.ps) : run E_passkeycast_Name A_passkeycast_Name (Try.f17.body.getD .skip) (enterT E_passkeycast_Name.C S_passkeycast_Name.ps x) (retK E_passkeycast_Name Try.f17.results.toList S_passkeycast_Name.ps S_passkeycast_Name.rs) = S_passkeycast_Name.fn x := by kernel_rfl

theorem passkeycast_Name_env : EnvOk Try.prog E_passkeycast_Name := envOk (E := E_passkeycast_Name) cd_ok tys fl_ok fun f ds S h => by
    dsimp only [E_passkeycast_Name] at h
    split at h
    · cases h; exact passkeycast_Mod_ok
    · cases h

theorem passkeycast_Name_ok : SoundT Try.prog cd gdn 17 S_passkeycast_Name :=
  sound_fn (E := E_passkeycast_Name) (A := A_passkeycast_Name) (done := []) (c := (Try.f17.body.getD .skip)) (S := S_passkeycast_Name) (fn := Try.f17) hmix passkeycast_Name_env Try.func17 rfl (by kernel_rfl) (by kernel_rfl) done_nil (by kernel_rfl) (by kernel_rfl) passkeycast_Name_eq

def passkeyref3_Stream_L0b (y0 : (BitVec 64)) (y1 : (BitVec 64)) (y2 : Int) (y3 : (List (UInt8))) (y4 : Int) : Option (((BitVec 64) × (BitVec 64) × Int × (List (UInt8)) × Int × Unit) ⊕ (Int × (List (UInt8)) × Unit)) :=
 (bif (decide (((y3).length : Int) < y2)) then ((passkeyref1_Words ([y1, (BitVec.ofInt 64 y4)] : List (BitVec 64))).bind fun r2 => ((passkeyref1_Mac y0 (5 : Int) r2.2.1).bind fun r3 => ((passkeyref1_Words ([r3.2.1] : List (BitVec 64))).bind fun r4 => (bif small ((y3).length + (r4.2.1 : List (UInt8)).length) 1 then (some (Sum.inl (y0, y1, y2, (y3 ++ r4.2.1), (IntKind.wrap .i64 (y4 + (1 : Int))), ())))
 else none))))
 else (some (Sum.inr (y2, y3, ()))))

def passkeyref3_Stream_L0 (y : ((BitVec 64) × (BitVec 64) × Int × (List (UInt8)) × Int × Unit)) : Option (Int × (List (UInt8)) × Unit) := iter (fun (y : ((BitVec 64) × (BitVec 64) × Int × (List (UInt8)) × Int × Unit)) => passkeyref3_Stream_L0b y.1 y.2.1 y.2.2.1 y.2.2.2.1 y.2.2.2.2.1) rounds y

def passkeyref3_Stream (a0 : (BitVec 64)) (a1 : (BitVec 64)) (a2 : Int) : Option ((Unit) × ((List (UInt8)) × Unit)) :=
 (let v1 : Int := (bif decide ((1024 : Int) < (bif decide (a2 < (0 : Int)) then (0 : Int) else a2)) then (1024 : Int) else (bif decide (a2 < (0 : Int)) then (0 : Int) else a2))
 ((passkeyref3_Stream_L0 (a0, a1, v1, [], (0 : Int), ())).bind (fun (z5 : (Int × (List (UInt8)) × Unit)) => (bif (decide ((0 : Int) ≤ z5.1) && decide (z5.1 ≤ ((z5.2.1).length : Int))) then (bif decide ((z5.1).toNat ≤ (z5.2.1).length) then (some ((), ((List.take (z5.1).toNat z5.2.1), ())))
 else none)
 else none))))

def S_passkeyref3_Stream : FSpec T := ⟨[.f (.v .u64), .f (.v .u64), .f (.v (.int .i64))], [(.own 0)], fun x => passkeyref3_Stream x.1 x.2.1 x.2.2.1⟩

def E_passkeyref3_Stream : Env T := ⟨tab.find, cd, globs, flc, fun f ds => match f with
    | 33 => some S_passkeyref1_Words
    | 34 => some S_passkeyref1_Mac
    | _ => none, fun f => match f with
    | 34 => true
    | _ => false⟩

def A_passkeyref3_Stream : Loc2 T := ⟨fun id => match id with
    | 0 => some ⟨[(0, .f (.v .u64)), (1, .f (.v .u64)), (2, .f (.v (.int .i64))), (7, .f (.own 0)), (8, .f (.v (.int .i64)))], [(.exit 0, [(2, .f (.v (.int .i64))), (7, .f (.own 0))])], passkeyref3_Stream_L0⟩
    | _ => none, fun r => match r with
    | _ => none, fun r => match r with
    | _ => false⟩

theorem passkeyref3_Stream_L0_eq (y0 : (BitVec 64)) (y1 : (BitVec 64)) (y2 : Int) (y3 : (List (UInt8))) (y4 : Int) : run E_passkeyref3_Stream A_passkeyref3_Stream (loopAt 0 (Try.f41.body.getD .skip)) (lay cd [(0, .f (.v .u64)), (1, .f (.v .u64)), (2, .f (.v (.int .i64))), (7, .f (.own 0)), (8, .f (.v (.int .i64)))] (y0, y1, y2, y3, y4, ())) (roundK cd [(0, .f (.v .u64)), (1, .f (.v .u64)), (2, .f (.v (.int .i64))), (7, .f (.own 0)), (8, .f (.v (.int .i64)))] [(.exit 0, [(2, .f (.v (.int .i64))), (7, .f (.own 0))])]) = passkeyref3_Stream_L0b y0 y1 y2 y3 y4 := by kernel_rfl

theorem passkeyref3_Stream_eq (x : tySs T S_passkeyref3_Stream.ps) : run E_passkeyref3_Stream A_passkeyref3_Stream (Try.f41.body.getD .skip) (enterT E_passkeyref3_Stream.C S_passkeyref3_Stream.ps x) (retK E_passkeyref3_Stream Try.f41.results.toList S_passkeyref3_Stream.ps S_passkeyref3_Stream.rs) = S_passkeyref3_Stream.fn x := by kernel_rfl

theorem passkeyref3_Stream_env : EnvOk Try.prog E_passkeyref3_Stream := envOk (E := E_passkeyref3_Stream) cd_ok tys fl_ok fun f ds S h => by
    dsimp only [E_passkeyref3_Stream] at h
    split at h
    · cases h; exact passkeyref1_Words_ok
    · cases h; exact passkeyref1_Mac_ok
    · cases h

theorem passkeyref3_Stream_L0_ok : LoopOk Try.prog E_passkeyref3_Stream Try.f41.ntmps (kqOf S_passkeyref3_Stream.ps 0) (loopAt 0 (Try.f41.body.getD .skip)) ⟨[(0, .f (.v .u64)), (1, .f (.v .u64)), (2, .f (.v (.int .i64))), (7, .f (.own 0)), (8, .f (.v (.int .i64)))], [(.exit 0, [(2, .f (.v (.int .i64))), (7, .f (.own 0))])], passkeyref3_Stream_L0⟩ :=
  loop_ok (A := A_passkeyref3_Stream) (done := []) (c0 := (Try.f41.body.getD .skip)) hmix passkeyref3_Stream_env done_nil rounds (by kernel_rfl) (by kernel_rfl) (fun x => passkeyref3_Stream_L0_eq x.1 x.2.1 x.2.2.1 x.2.2.2.1 x.2.2.2.2.1) (fun _ => rfl)

theorem passkeyref3_Stream_ok : SoundT Try.prog cd gdn 41 S_passkeyref3_Stream :=
  sound_fn (E := E_passkeyref3_Stream) (A := A_passkeyref3_Stream) (done := [0]) (c := (Try.f41.body.getD .skip)) (S := S_passkeyref3_Stream) (fn := Try.f41) hmix passkeyref3_Stream_env Try.func41 rfl (by kernel_rfl) (by kernel_rfl) (done_cons rfl passkeyref3_Stream_L0_ok done_nil) (by kernel_rfl) (by kernel_rfl) passkeyref3_Stream_eq

def passkeycast_Bytes (a0 : Int) (a1 : Int) : Option ((Unit) × ((List (UInt8)) × Unit)) :=
 (let v1 : Int := (bif decide ((bif decide ((1024 : Int) < a1) then (1024 : Int) else a1) < (0 : Int)) then (0 : Int) else (bif decide ((1024 : Int) < a1) then (1024 : Int) else a1))
 ((passkeyref3_Stream ((BitVec.ofInt 64 a0) + 1#64) (7#64) v1).bind fun r2 => (some ((), (r2.2.1, ())))))

def S_passkeycast_Bytes : FSpec T := ⟨[.f (.v (.int .i64)), .f (.v (.int .i64))], [(.own 0)], fun x => passkeycast_Bytes x.1 x.2.1⟩

def E_passkeycast_Bytes : Env T := ⟨tab.find, cd, globs, flc, fun f ds => match f with
    | 41 => some S_passkeyref3_Stream
    | _ => none, fun f => match f with
    | _ => false⟩

def A_passkeycast_Bytes : Loc2 T := ⟨fun id => match id with
    | _ => none, fun r => match r with
    | _ => none, fun r => match r with
    | _ => false⟩

theorem passkeycast_Bytes_eq (x : tySs T S_passkeycast_Bytes.ps) : run E_passkeycast_Bytes A_passkeycast_Bytes (Try.f18.body.getD .skip) (enterT E_passkeycast_Bytes.C S_passkeycast_Bytes.ps x) (retK E_passkeycast_Bytes Try.f18.results.toList S_passkeycast_Bytes.ps S_passkeycast_Bytes.rs) = S_passkeycast_Bytes.fn x := by kernel_rfl

theorem passkeycast_Bytes_env : EnvOk Try.prog E_passkeycast_Bytes := envOk (E := E_passkeycast_Bytes) cd_ok tys fl_ok fun f ds S h => by
    dsimp only [E_passkeycast_Bytes] at h
    split at h
    · cases h; exact passkeyref3_Stream_ok
    · cases h

theorem passkeycast_Bytes_ok : SoundT Try.prog cd gdn 18 S_passkeycast_Bytes :=
  sound_fn (E := E_passkeycast_Bytes) (A := A_passkeycast_Bytes) (done := []) (c := (Try.f18.body.getD .skip)) (S := S_passkeycast_Bytes) (fn := Try.f18) hmix passkeycast_Bytes_env Try.func18 rfl (by kernel_rfl) (by kernel_rfl) done_nil (by kernel_rfl) (by kernel_rfl) passkeycast_Bytes_eq

def passkeyref29_within (a0 : Int) (a1 : Int) (a2 : Int) : Option ((Unit) × (Bool × Unit)) :=
 (bif (decide (a1 ≤ a0)) then (some ((), ((decide (a0 ≤ a2)), ())))
 else (some ((), (false, ()))))

def S_passkeyref29_within : FSpec T := ⟨[.f (.v (.int .i64)), .f (.v (.int .i64)), .f (.v (.int .i64))], [(.v .bool)], fun x => passkeyref29_within x.1 x.2.1 x.2.2.1⟩

def E_passkeyref29_within : Env T := ⟨tab.find, cd, globs, flc, fun f ds => match f with
    | _ => none, fun f => match f with
    | _ => false⟩

def A_passkeyref29_within : Loc2 T := ⟨fun id => match id with
    | _ => none, fun r => match r with
    | _ => none, fun r => match r with
    | _ => false⟩

theorem passkeyref29_within_eq (x : tySs T S_passkeyref29_within.ps) : run E_passkeyref29_within A_passkeyref29_within (Try.f42.body.getD .skip) (enterT E_passkeyref29_within.C S_passkeyref29_within.ps x) (retK E_passkeyref29_within Try.f42.results.toList S_passkeyref29_within.ps S_passkeyref29_within.rs) = S_passkeyref29_within.fn x := by kernel_rfl

theorem passkeyref29_within_env : EnvOk Try.prog E_passkeyref29_within := envOk (E := E_passkeyref29_within) cd_ok tys fl_ok fun f ds S h => by cases h

theorem passkeyref29_within_ok : SoundT Try.prog cd gdn 42 S_passkeyref29_within :=
  sound_fn (E := E_passkeyref29_within) (A := A_passkeyref29_within) (done := []) (c := (Try.f42.body.getD .skip)) (S := S_passkeyref29_within) (fn := Try.f42) hmix passkeyref29_within_env Try.func42 rfl (by kernel_rfl) (by kernel_rfl) done_nil (by kernel_rfl) (by kernel_rfl) passkeyref29_within_eq

def passkeyref29_ExpireSessions_L0b (y0 : Int) (y1 : (ApiSessions × Unit)) (y2 : (ApiSessions × Unit)) (y3 : (List (ApiSession))) (y4 : Int) : Option ((Int × (ApiSessions × Unit) × (ApiSessions × Unit) × (List (ApiSession)) × Int × Unit) ⊕ ((ApiSessions × Unit) × (ApiSessions × Unit) × (List (ApiSession)) × Unit)) :=
 (bif (decide (y4 < ((y1.1.open_).length : Int))) then ((getI y1.1.open_ y4).bind fun x2 => (bif (decide (y0 ≤ x2.until_)) then ((getI y1.1.open_ y4).bind fun x3 => (bif small ((y3).length + (([x3] : List (ApiSession)) : List (ApiSession)).length) 72 then (some (Sum.inl (y0, (y1.1, ()), (y2.1, ()), (y3 ++ ([x3] : List (ApiSession))), (IntKind.wrap .i64 (y4 + (1 : Int))), ())))
 else none))
 else (some (Sum.inl (y0, (y1.1, ()), (y2.1, ()), y3, (IntKind.wrap .i64 (y4 + (1 : Int))), ())))))
 else (some (Sum.inr ((y1.1, ()), (y2.1, ()), y3, ()))))

def passkeyref29_ExpireSessions_L0 (y : (Int × (ApiSessions × Unit) × (ApiSessions × Unit) × (List (ApiSession)) × Int × Unit)) : Option ((ApiSessions × Unit) × (ApiSessions × Unit) × (List (ApiSession)) × Unit) := iter (fun (y : (Int × (ApiSessions × Unit) × (ApiSessions × Unit) × (List (ApiSession)) × Int × Unit)) => passkeyref29_ExpireSessions_L0b y.1 y.2.1 y.2.2.1 y.2.2.2.1 y.2.2.2.2.1) rounds y

def passkeyref29_ExpireSessions (a0 : ApiSessions) (a1 : Int) : Option ((Unit) × (ApiSessions × Unit)) :=
 ((passkeyref29_within a1 (0 : Int) (1099511627776 : Int)).bind fun r1 => (bif (!r1.2.1) then (some ((), (a0, ())))
 else ((passkeyref29_ExpireSessions_L0 (a1, (a0, ()), ((⟨0#64, (0 : Int), []⟩ : ApiSessions), ()), [], (0 : Int), ())).bind (fun (z4 : ((ApiSessions × Unit) × (ApiSessions × Unit) × (List (ApiSession)) × Unit)) => (some ((), ((⟨z4.1.1.secret, z4.1.1.count, z4.2.2.1⟩ : ApiSessions), ())))))))

def S_passkeyref29_ExpireSessions : FSpec T := ⟨[.f (.v (.agg 2)), .f (.v (.int .i64))], [(.v (.agg 2))], fun x => passkeyref29_ExpireSessions x.1 x.2.1⟩

def E_passkeyref29_ExpireSessions : Env T := ⟨tab.find, cd, globs, flc, fun f ds => match f with
    | 42 => some S_passkeyref29_within
    | _ => none, fun f => match f with
    | 42 => true
    | _ => false⟩

def A_passkeyref29_ExpireSessions : Loc2 T := ⟨fun id => match id with
    | 0 => some ⟨[(1, .f (.v (.int .i64))), (2, .ptr [(.v (.agg 2))]), (4, .ptr [(.v (.agg 2))]), (5, .f (.own 1)), (6, .f (.v (.int .i64)))], [(.exit 0, [(2, .ptr [(.v (.agg 2))]), (4, .ptr [(.v (.agg 2))]), (5, .f (.own 1))])], passkeyref29_ExpireSessions_L0⟩
    | _ => none, fun r => match r with
    | _ => none, fun r => match r with
    | _ => false⟩

theorem passkeyref29_ExpireSessions_L0_eq (y0 : Int) (y1 : (ApiSessions × Unit)) (y2 : (ApiSessions × Unit)) (y3 : (List (ApiSession))) (y4 : Int) : run E_passkeyref29_ExpireSessions A_passkeyref29_ExpireSessions (loopAt 0 (Try.f29.body.getD .skip)) (lay cd [(1, .f (.v (.int .i64))), (2, .ptr [(.v (.agg 2))]), (4, .ptr [(.v (.agg 2))]), (5, .f (.own 1)), (6, .f (.v (.int .i64)))] (y0, y1, y2, y3, y4, ())) (roundK cd [(1, .f (.v (.int .i64))), (2, .ptr [(.v (.agg 2))]), (4, .ptr [(.v (.agg 2))]), (5, .f (.own 1)), (6, .f (.v (.int .i64)))] [(.exit 0, [(2, .ptr [(.v (.agg 2))]), (4, .ptr [(.v (.agg 2))]), (5, .f (.own 1))])]) = passkeyref29_ExpireSessions_L0b y0 y1 y2 y3 y4 := by kernel_rfl

theorem passkeyref29_ExpireSessions_eq (x : tySs T S_passkeyref29_ExpireSessions.ps) : run E_passkeyref29_ExpireSessions A_passkeyref29_ExpireSessions (Try.f29.body.getD .skip) (enterT E_passkeyref29_ExpireSessions.C S_passkeyref29_ExpireSessions.ps x) (retK E_passkeyref29_ExpireSessions Try.f29.results.toList S_passkeyref29_ExpireSessions.ps S_passkeyref29_ExpireSessions.rs) = S_passkeyref29_ExpireSessions.fn x := by kernel_rfl

theorem passkeyref29_ExpireSessions_env : EnvOk Try.prog E_passkeyref29_ExpireSessions := envOk (E := E_passkeyref29_ExpireSessions) cd_ok tys fl_ok fun f ds S h => by
    dsimp only [E_passkeyref29_ExpireSessions] at h
    split at h
    · cases h; exact passkeyref29_within_ok
    · cases h

theorem passkeyref29_ExpireSessions_L0_ok : LoopOk Try.prog E_passkeyref29_ExpireSessions Try.f29.ntmps (kqOf S_passkeyref29_ExpireSessions.ps 0) (loopAt 0 (Try.f29.body.getD .skip)) ⟨[(1, .f (.v (.int .i64))), (2, .ptr [(.v (.agg 2))]), (4, .ptr [(.v (.agg 2))]), (5, .f (.own 1)), (6, .f (.v (.int .i64)))], [(.exit 0, [(2, .ptr [(.v (.agg 2))]), (4, .ptr [(.v (.agg 2))]), (5, .f (.own 1))])], passkeyref29_ExpireSessions_L0⟩ :=
  loop_ok (A := A_passkeyref29_ExpireSessions) (done := []) (c0 := (Try.f29.body.getD .skip)) hmix passkeyref29_ExpireSessions_env done_nil rounds (by kernel_rfl) (by kernel_rfl) (fun x => passkeyref29_ExpireSessions_L0_eq x.1 x.2.1 x.2.2.1 x.2.2.2.1 x.2.2.2.2.1) (fun _ => rfl)

theorem passkeyref29_ExpireSessions_ok : SoundT Try.prog cd gdn 29 S_passkeyref29_ExpireSessions :=
  sound_fn (E := E_passkeyref29_ExpireSessions) (A := A_passkeyref29_ExpireSessions) (done := [0]) (c := (Try.f29.body.getD .skip)) (S := S_passkeyref29_ExpireSessions) (fn := Try.f29) hmix passkeyref29_ExpireSessions_env Try.func29 rfl (by kernel_rfl) (by kernel_rfl) (done_cons rfl passkeyref29_ExpireSessions_L0_ok done_nil) (by kernel_rfl) (by kernel_rfl) passkeyref29_ExpireSessions_eq

def passkeyref29_OpenSession (a0 : ApiSessions) (a1 : (List UInt8)) (a2 : (List (UInt8))) (a3 : (BitVec 64)) (a4 : Int) (a5 : Int) : Option ((Unit) × (ApiSessions × (List (UInt8)) × Int × Unit)) :=
 ((passkeyref29_within a4 (0 : Int) (1099511627776 : Int)).bind fun r1 => (bif (!r1.2.1) then (some ((), (a0, [], (9 : Int), ())))
 else ((passkeyref29_within a5 (1 : Int) (1099511627776 : Int)).bind fun r2 => (bif (!r2.2.1) then (some ((), (a0, [], (9 : Int), ())))
 else ((passkeyref29_ExpireSessions a0 a4).bind fun r3 => ((bif (decide ((32 : Int) ≤ ((r3.2.1.open_).length : Int))) then (bif decide ((1 : Int) ≤ ((r3.2.1.open_).length : Int)) then (some (a1, a2, a3, a4, a5, ((⟨0#64, (0 : Int), []⟩ : ApiSessions), ()), (r3.2.1, ()), (List.drop 1 r3.2.1.open_), ()))
 else none)
 else (some (a1, a2, a3, a4, a5, ((⟨0#64, (0 : Int), []⟩ : ApiSessions), ()), (r3.2.1, ()), r3.2.1.open_, ()))).bind (fun (j4 : ((List UInt8) × (List (UInt8)) × (BitVec 64) × Int × Int × (ApiSessions × Unit) × (ApiSessions × Unit) × (List (ApiSession)) × Unit)) => (bif small ((j4.2.1).length) 1 then (let v5 : Int := (bif decide ((1099511627776 : Int) < (IntKind.wrap .i64 (j4.2.2.2.1 + j4.2.2.2.2.1))) then (1099511627776 : Int) else (IntKind.wrap .i64 (j4.2.2.2.1 + j4.2.2.2.2.1)))
 ((bif small ((j4.2.2.2.2.2.2.2.1).length) 72 then (let v6 : List (ApiSession) := ([(⟨j4.2.2.2.2.2.2.1.1.count, j4.1, j4.2.1, j4.2.2.1, j4.2.2.2.1, v5⟩ : ApiSession)] : List (ApiSession))
 (bif small ((j4.2.2.2.2.2.2.2.1).length + (v6 : List (ApiSession)).length) 72 then (some ((j4.2.2.2.2.2.1.1, ()), ((⟨j4.2.2.2.2.2.2.1.1.secret, (IntKind.wrap .i64 (j4.2.2.2.2.2.2.1.1.count + (1 : Int))), (j4.2.2.2.2.2.2.2.1 ++ v6)⟩ : ApiSessions), ()), ((⟨j4.2.2.2.2.2.2.1.1.count, j4.1, j4.2.1, j4.2.2.1, j4.2.2.2.1, v5⟩ : ApiSession), ()), ()))
 else none))
 else none).bind (fun (j7 : ((ApiSessions × Unit) × (ApiSessions × Unit) × (ApiSession × Unit) × Unit)) => ((passkeyref29_SessionBytes j7.2.1.1 j7.2.2.1.1).bind fun r8 => (some ((), (j7.2.1.1, r8.2.1, (0 : Int), ())))))))
 else none))))))))

def S_passkeyref29_OpenSession : FSpec T := ⟨[.f (.v (.agg 2)), .f (.v .str), .f (.v (.rs 0)), .f (.v .u64), .f (.v (.int .i64)), .f (.v (.int .i64))], [(.v (.agg 2)), (.own 0), (.v (.int .i64))], fun x => passkeyref29_OpenSession x.1 x.2.1 x.2.2.1 x.2.2.2.1 x.2.2.2.2.1 x.2.2.2.2.2.1⟩

def E_passkeyref29_OpenSession : Env T := ⟨tab.find, cd, globs, flc, fun f ds => match f with
    | 9 => some S_passkeyref29_SessionBytes
    | 29 => some S_passkeyref29_ExpireSessions
    | 42 => some S_passkeyref29_within
    | _ => none, fun f => match f with
    | 42 => true
    | _ => false⟩

def A_passkeyref29_OpenSession : Loc2 T := ⟨fun id => match id with
    | _ => none, fun r => match r with
    | 7 => some ([(1, .f (.v .str)), (2, .f (.v (.rs 0))), (3, .f (.v .u64)), (4, .f (.v (.int .i64))), (5, .f (.v (.int .i64))), (12, .ptr [(.v (.agg 2))]), (15, .ptr [(.v (.agg 2))]), (16, .f (.v (.rs 1)))], true)
    | 10 => some ([(12, .ptr [(.v (.agg 2))]), (15, .ptr [(.v (.agg 2))]), (17, .ptr [(.v (.agg 1))])], true)
    | _ => none, fun r => match r with
    | 7 => true
    | 9 => true
    | 10 => true
    | _ => false⟩

theorem passkeyref29_OpenSession_eq (x : tySs T S_passkeyref29_OpenSession.ps) : run E_passkeyref29_OpenSession A_passkeyref29_OpenSession (Try.f19.body.getD .skip) (enterT E_passkeyref29_OpenSession.C S_passkeyref29_OpenSession.ps x) (retK E_passkeyref29_OpenSession Try.f19.results.toList S_passkeyref29_OpenSession.ps S_passkeyref29_OpenSession.rs) = S_passkeyref29_OpenSession.fn x := by kernel_rfl

theorem passkeyref29_OpenSession_env : EnvOk Try.prog E_passkeyref29_OpenSession := envOk (E := E_passkeyref29_OpenSession) cd_ok tys fl_ok fun f ds S h => by
    dsimp only [E_passkeyref29_OpenSession] at h
    split at h
    · cases h; exact passkeyref29_SessionBytes_ok
    · cases h; exact passkeyref29_ExpireSessions_ok
    · cases h; exact passkeyref29_within_ok
    · cases h

theorem passkeyref29_OpenSession_ok : SoundT Try.prog cd gdn 19 S_passkeyref29_OpenSession :=
  sound_fn (E := E_passkeyref29_OpenSession) (A := A_passkeyref29_OpenSession) (done := []) (c := (Try.f19.body.getD .skip)) (S := S_passkeyref29_OpenSession) (fn := Try.f19) hmix passkeyref29_OpenSession_env Try.func19 rfl (by kernel_rfl) (by kernel_rfl) done_nil (by kernel_rfl) (by kernel_rfl) passkeyref29_OpenSession_eq

def passkeyref29_find_L0b (y0 : (List (UInt8))) (y1 : Int) (y2 : (ApiSessions × Unit)) (y3 : Int) : Option (((List (UInt8)) × Int × (ApiSessions × Unit) × Int × Unit) ⊕ ((Int × Unit) ⊕ (Unit))) :=
 (bif (decide (y3 < ((y2.1.open_).length : Int))) then ((getI y2.1.open_ y3).bind fun x1 => (bif (decide (y1 ≤ x1.until_)) then ((getI y2.1.open_ y3).bind fun x2 => ((passkeyref29_SessionBytes y2.1 x2).bind fun r3 => (bif (decide (r3.2.1 = y0)) then (some (Sum.inr (Sum.inl (y3, ()))))
 else (some (Sum.inl (y0, y1, (y2.1, ()), (IntKind.wrap .i64 (y3 + (1 : Int))), ()))))))
 else (some (Sum.inl (y0, y1, (y2.1, ()), (IntKind.wrap .i64 (y3 + (1 : Int))), ())))))
 else (some (Sum.inr (Sum.inr ()))))

def passkeyref29_find_L0 (y : ((List (UInt8)) × Int × (ApiSessions × Unit) × Int × Unit)) : Option ((Int × Unit) ⊕ (Unit)) := iter (fun (y : ((List (UInt8)) × Int × (ApiSessions × Unit) × Int × Unit)) => passkeyref29_find_L0b y.1 y.2.1 y.2.2.1 y.2.2.2.1) rounds y

def passkeyref29_find (a0 : ApiSessions) (a1 : (List (UInt8))) (a2 : Int) : Option ((Unit) × (Int × Unit)) :=
 ((passkeyref29_find_L0 (a1, a2, (a0, ()), (0 : Int), ())).bind (Sum.elim (fun (z4 : (Int × Unit)) => (some ((), (z4.1, ())))) (fun (z5 : (Unit)) => (some ((), ((-1 : Int), ()))))))

def S_passkeyref29_find : FSpec T := ⟨[.f (.v (.agg 2)), .f (.v (.rs 0)), .f (.v (.int .i64))], [(.v (.int .i64))], fun x => passkeyref29_find x.1 x.2.1 x.2.2.1⟩

def E_passkeyref29_find : Env T := ⟨tab.find, cd, globs, flc, fun f ds => match f with
    | 9 => some S_passkeyref29_SessionBytes
    | _ => none, fun f => match f with
    | _ => false⟩

def A_passkeyref29_find : Loc2 T := ⟨fun id => match id with
    | 0 => some ⟨[(1, .f (.v (.rs 0))), (2, .f (.v (.int .i64))), (3, .ptr [(.v (.agg 2))]), (7, .f (.v (.int .i64)))], [(.ret, [(6, .f (.v (.int .i64)))]), (.exit 0, [])], passkeyref29_find_L0⟩
    | _ => none, fun r => match r with
    | _ => none, fun r => match r with
    | 4 => true
    | _ => false⟩

theorem passkeyref29_find_L0_eq (y0 : (List (UInt8))) (y1 : Int) (y2 : (ApiSessions × Unit)) (y3 : Int) : run E_passkeyref29_find A_passkeyref29_find (loopAt 0 (Try.f43.body.getD .skip)) (lay cd [(1, .f (.v (.rs 0))), (2, .f (.v (.int .i64))), (3, .ptr [(.v (.agg 2))]), (7, .f (.v (.int .i64)))] (y0, y1, y2, y3, ())) (roundK cd [(1, .f (.v (.rs 0))), (2, .f (.v (.int .i64))), (3, .ptr [(.v (.agg 2))]), (7, .f (.v (.int .i64)))] [(.ret, [(6, .f (.v (.int .i64)))]), (.exit 0, [])]) = passkeyref29_find_L0b y0 y1 y2 y3 := by kernel_rfl

theorem passkeyref29_find_eq (x : tySs T S_passkeyref29_find.ps) : run E_passkeyref29_find A_passkeyref29_find (Try.f43.body.getD .skip) (enterT E_passkeyref29_find.C S_passkeyref29_find.ps x) (retK E_passkeyref29_find Try.f43.results.toList S_passkeyref29_find.ps S_passkeyref29_find.rs) = S_passkeyref29_find.fn x := by kernel_rfl

theorem passkeyref29_find_env : EnvOk Try.prog E_passkeyref29_find := envOk (E := E_passkeyref29_find) cd_ok tys fl_ok fun f ds S h => by
    dsimp only [E_passkeyref29_find] at h
    split at h
    · cases h; exact passkeyref29_SessionBytes_ok
    · cases h

theorem passkeyref29_find_L0_ok : LoopOk Try.prog E_passkeyref29_find Try.f43.ntmps (kqOf S_passkeyref29_find.ps 0) (loopAt 0 (Try.f43.body.getD .skip)) ⟨[(1, .f (.v (.rs 0))), (2, .f (.v (.int .i64))), (3, .ptr [(.v (.agg 2))]), (7, .f (.v (.int .i64)))], [(.ret, [(6, .f (.v (.int .i64)))]), (.exit 0, [])], passkeyref29_find_L0⟩ :=
  loop_ok (A := A_passkeyref29_find) (done := []) (c0 := (Try.f43.body.getD .skip)) hmix passkeyref29_find_env done_nil rounds (by kernel_rfl) (by kernel_rfl) (fun x => passkeyref29_find_L0_eq x.1 x.2.1 x.2.2.1 x.2.2.2.1) (fun _ => rfl)

theorem passkeyref29_find_ok : SoundT Try.prog cd gdn 43 S_passkeyref29_find :=
  sound_fn (E := E_passkeyref29_find) (A := A_passkeyref29_find) (done := [0]) (c := (Try.f43.body.getD .skip)) (S := S_passkeyref29_find) (fn := Try.f43) hmix passkeyref29_find_env Try.func43 rfl (by kernel_rfl) (by kernel_rfl) (done_cons rfl passkeyref29_find_L0_ok done_nil) (by kernel_rfl) (by kernel_rfl) passkeyref29_find_eq

def passkeyref29_CheckSession (a0 : ApiSessions) (a1 : (List (UInt8))) (a2 : Int) : Option ((Unit) × (ApiSession × Int × Unit)) :=
 ((passkeyref29_within a2 (0 : Int) (1099511627776 : Int)).bind fun r1 => (bif (!r1.2.1) then (some ((), ((⟨(0 : Int), ([] : List UInt8), [], 0#64, (0 : Int), (0 : Int)⟩ : ApiSession), (9 : Int), ())))
 else ((passkeyref29_find a0 a1 a2).bind fun r2 => (bif (decide (r2.2.1 < (0 : Int))) then (some ((), ((⟨(0 : Int), ([] : List UInt8), [], 0#64, (0 : Int), (0 : Int)⟩ : ApiSession), (11 : Int), ())))
 else ((getI a0.open_ r2.2.1).bind fun x3 => (some ((), (x3, (0 : Int), ()))))))))

def S_passkeyref29_CheckSession : FSpec T := ⟨[.f (.v (.agg 2)), .f (.v (.rs 0)), .f (.v (.int .i64))], [(.v (.agg 1)), (.v (.int .i64))], fun x => passkeyref29_CheckSession x.1 x.2.1 x.2.2.1⟩

def E_passkeyref29_CheckSession : Env T := ⟨tab.find, cd, globs, flc, fun f ds => match f with
    | 42 => some S_passkeyref29_within
    | 43 => some S_passkeyref29_find
    | _ => none, fun f => match f with
    | 42 => true
    | 43 => true
    | _ => false⟩

def A_passkeyref29_CheckSession : Loc2 T := ⟨fun id => match id with
    | _ => none, fun r => match r with
    | _ => none, fun r => match r with
    | _ => false⟩

theorem passkeyref29_CheckSession_eq (x : tySs T S_passkeyref29_CheckSession.ps) : run E_passkeyref29_CheckSession A_passkeyref29_CheckSession (Try.f20.body.getD .skip) (enterT E_passkeyref29_CheckSession.C S_passkeyref29_CheckSession.ps x) (retK E_passkeyref29_CheckSession Try.f20.results.toList S_passkeyref29_CheckSession.ps S_passkeyref29_CheckSession.rs) = S_passkeyref29_CheckSession.fn x := by kernel_rfl

theorem passkeyref29_CheckSession_env : EnvOk Try.prog E_passkeyref29_CheckSession := envOk (E := E_passkeyref29_CheckSession) cd_ok tys fl_ok fun f ds S h => by
    dsimp only [E_passkeyref29_CheckSession] at h
    split at h
    · cases h; exact passkeyref29_within_ok
    · cases h; exact passkeyref29_find_ok
    · cases h

theorem passkeyref29_CheckSession_ok : SoundT Try.prog cd gdn 20 S_passkeyref29_CheckSession :=
  sound_fn (E := E_passkeyref29_CheckSession) (A := A_passkeyref29_CheckSession) (done := []) (c := (Try.f20.body.getD .skip)) (S := S_passkeyref29_CheckSession) (fn := Try.f20) hmix passkeyref29_CheckSession_env Try.func20 rfl (by kernel_rfl) (by kernel_rfl) done_nil (by kernel_rfl) (by kernel_rfl) passkeyref29_CheckSession_eq

def passkeyref29_SameSession (a0 : ApiSession) (a1 : ApiSession) : Option ((Unit) × (Bool × Unit)) :=
 (bif (decide (a0.number = a1.number)) then (bif (decide (a0.account = a1.account)) then (bif (decide (a0.iD = a1.iD)) then (bif (decide (a0.model = a1.model)) then (bif (decide (a0.since = a1.since)) then (some ((), ((decide (a0.until_ = a1.until_)), ())))
 else (some ((), (false, ()))))
 else (some ((), (false, ()))))
 else (some ((), (false, ()))))
 else (some ((), (false, ()))))
 else (some ((), (false, ()))))

def S_passkeyref29_SameSession : FSpec T := ⟨[.f (.v (.agg 1)), .f (.v (.agg 1))], [(.v .bool)], fun x => passkeyref29_SameSession x.1 x.2.1⟩

def E_passkeyref29_SameSession : Env T := ⟨tab.find, cd, globs, flc, fun f ds => match f with
    | _ => none, fun f => match f with
    | _ => false⟩

def A_passkeyref29_SameSession : Loc2 T := ⟨fun id => match id with
    | _ => none, fun r => match r with
    | _ => none, fun r => match r with
    | _ => false⟩

theorem passkeyref29_SameSession_eq (x : tySs T S_passkeyref29_SameSession.ps) : run E_passkeyref29_SameSession A_passkeyref29_SameSession (Try.f21.body.getD .skip) (enterT E_passkeyref29_SameSession.C S_passkeyref29_SameSession.ps x) (retK E_passkeyref29_SameSession Try.f21.results.toList S_passkeyref29_SameSession.ps S_passkeyref29_SameSession.rs) = S_passkeyref29_SameSession.fn x := by kernel_rfl

theorem passkeyref29_SameSession_env : EnvOk Try.prog E_passkeyref29_SameSession := envOk (E := E_passkeyref29_SameSession) cd_ok tys fl_ok fun f ds S h => by cases h

theorem passkeyref29_SameSession_ok : SoundT Try.prog cd gdn 21 S_passkeyref29_SameSession :=
  sound_fn (E := E_passkeyref29_SameSession) (A := A_passkeyref29_SameSession) (done := []) (c := (Try.f21.body.getD .skip)) (S := S_passkeyref29_SameSession) (fn := Try.f21) hmix passkeyref29_SameSession_env Try.func21 rfl (by kernel_rfl) (by kernel_rfl) done_nil (by kernel_rfl) (by kernel_rfl) passkeyref29_SameSession_eq

def passkeyref29_CloseSession (a0 : ApiSessions) (a1 : (List (UInt8))) (a2 : Int) : Option ((Unit) × (ApiSessions × Int × Unit)) :=
 ((passkeyref29_within a2 (0 : Int) (1099511627776 : Int)).bind fun r1 => (bif (!r1.2.1) then (some ((), (a0, (9 : Int), ())))
 else ((passkeyref29_ExpireSessions a0 a2).bind fun r2 => ((passkeyref29_find r2.2.1 a1 a2).bind fun r3 => (bif (decide (r3.2.1 < (0 : Int))) then (some ((), (a0, (11 : Int), ())))
 else (bif (decide ((0 : Int) ≤ r3.2.1) && decide (r3.2.1 ≤ ((r2.2.1.open_).length : Int))) then (bif small (((List.take (r3.2.1).toNat r2.2.1.open_)).length) 72 then (bif (decide ((0 : Int) ≤ (IntKind.wrap .i64 (r3.2.1 + (1 : Int)))) && decide ((IntKind.wrap .i64 (r3.2.1 + (1 : Int))) ≤ ((r2.2.1.open_).length : Int))) then (let v4 : List (ApiSession) := (List.drop ((IntKind.wrap .i64 (r3.2.1 + (1 : Int)))).toNat r2.2.1.open_)
 (bif small (((List.take (r3.2.1).toNat r2.2.1.open_)).length + (v4 : List (ApiSession)).length) 72 then (let v5 : List (ApiSession) := ((List.take (r3.2.1).toNat r2.2.1.open_) ++ v4)
 (some ((), ((⟨r2.2.1.secret, r2.2.1.count, v5⟩ : ApiSessions), (0 : Int), ()))))
 else none))
 else none)
 else none)
 else none))))))

def S_passkeyref29_CloseSession : FSpec T := ⟨[.f (.v (.agg 2)), .f (.v (.rs 0)), .f (.v (.int .i64))], [(.v (.agg 2)), (.v (.int .i64))], fun x => passkeyref29_CloseSession x.1 x.2.1 x.2.2.1⟩

def E_passkeyref29_CloseSession : Env T := ⟨tab.find, cd, globs, flc, fun f ds => match f with
    | 29 => some S_passkeyref29_ExpireSessions
    | 42 => some S_passkeyref29_within
    | 43 => some S_passkeyref29_find
    | _ => none, fun f => match f with
    | 42 => true
    | 43 => true
    | _ => false⟩

def A_passkeyref29_CloseSession : Loc2 T := ⟨fun id => match id with
    | _ => none, fun r => match r with
    | _ => none, fun r => match r with
    | 7 => true
    | _ => false⟩

theorem passkeyref29_CloseSession_eq (x : tySs T S_passkeyref29_CloseSession.ps) : run E_passkeyref29_CloseSession A_passkeyref29_CloseSession (Try.f23.body.getD .skip) (enterT E_passkeyref29_CloseSession.C S_passkeyref29_CloseSession.ps x) (retK E_passkeyref29_CloseSession Try.f23.results.toList S_passkeyref29_CloseSession.ps S_passkeyref29_CloseSession.rs) = S_passkeyref29_CloseSession.fn x := by kernel_rfl

theorem passkeyref29_CloseSession_env : EnvOk Try.prog E_passkeyref29_CloseSession := envOk (E := E_passkeyref29_CloseSession) cd_ok tys fl_ok fun f ds S h => by
    dsimp only [E_passkeyref29_CloseSession] at h
    split at h
    · cases h; exact passkeyref29_ExpireSessions_ok
    · cases h; exact passkeyref29_within_ok
    · cases h; exact passkeyref29_find_ok
    · cases h

theorem passkeyref29_CloseSession_ok : SoundT Try.prog cd gdn 23 S_passkeyref29_CloseSession :=
  sound_fn (E := E_passkeyref29_CloseSession) (A := A_passkeyref29_CloseSession) (done := []) (c := (Try.f23.body.getD .skip)) (S := S_passkeyref29_CloseSession) (fn := Try.f23) hmix passkeyref29_CloseSession_env Try.func23 rfl (by kernel_rfl) (by kernel_rfl) done_nil (by kernel_rfl) (by kernel_rfl) passkeyref29_CloseSession_eq

def passkeyref29_RevokeModel_L0b (y0 : (BitVec 64)) (y1 : (ApiSessions × Unit)) (y2 : (ApiSessions × Unit)) (y3 : (List (ApiSession))) (y4 : Int) : Option (((BitVec 64) × (ApiSessions × Unit) × (ApiSessions × Unit) × (List (ApiSession)) × Int × Unit) ⊕ ((ApiSessions × Unit) × (ApiSessions × Unit) × (List (ApiSession)) × Unit)) :=
 (bif (decide (y4 < ((y1.1.open_).length : Int))) then (bif (decide (y0 = 0#64)) then ((getI y1.1.open_ y4).bind fun x1 => (bif small ((y3).length + (([x1] : List (ApiSession)) : List (ApiSession)).length) 72 then (some (Sum.inl (y0, (y1.1, ()), (y2.1, ()), (y3 ++ ([x1] : List (ApiSession))), (IntKind.wrap .i64 (y4 + (1 : Int))), ())))
 else none))
 else ((getI y1.1.open_ y4).bind fun x2 => (bif (!decide (x2.model = y0)) then ((getI y1.1.open_ y4).bind fun x3 => (bif small ((y3).length + (([x3] : List (ApiSession)) : List (ApiSession)).length) 72 then (some (Sum.inl (y0, (y1.1, ()), (y2.1, ()), (y3 ++ ([x3] : List (ApiSession))), (IntKind.wrap .i64 (y4 + (1 : Int))), ())))
 else none))
 else (some (Sum.inl (y0, (y1.1, ()), (y2.1, ()), y3, (IntKind.wrap .i64 (y4 + (1 : Int))), ()))))))
 else (some (Sum.inr ((y1.1, ()), (y2.1, ()), y3, ()))))

def passkeyref29_RevokeModel_L0 (y : ((BitVec 64) × (ApiSessions × Unit) × (ApiSessions × Unit) × (List (ApiSession)) × Int × Unit)) : Option ((ApiSessions × Unit) × (ApiSessions × Unit) × (List (ApiSession)) × Unit) := iter (fun (y : ((BitVec 64) × (ApiSessions × Unit) × (ApiSessions × Unit) × (List (ApiSession)) × Int × Unit)) => passkeyref29_RevokeModel_L0b y.1 y.2.1 y.2.2.1 y.2.2.2.1 y.2.2.2.2.1) rounds y

def passkeyref29_RevokeModel (a0 : ApiSessions) (a1 : (BitVec 64)) : Option ((Unit) × (ApiSessions × Unit)) :=
 ((passkeyref29_RevokeModel_L0 (a1, (a0, ()), ((⟨0#64, (0 : Int), []⟩ : ApiSessions), ()), [], (0 : Int), ())).bind (fun (z4 : ((ApiSessions × Unit) × (ApiSessions × Unit) × (List (ApiSession)) × Unit)) => (some ((), ((⟨z4.1.1.secret, z4.1.1.count, z4.2.2.1⟩ : ApiSessions), ())))))

def S_passkeyref29_RevokeModel : FSpec T := ⟨[.f (.v (.agg 2)), .f (.v .u64)], [(.v (.agg 2))], fun x => passkeyref29_RevokeModel x.1 x.2.1⟩

def E_passkeyref29_RevokeModel : Env T := ⟨tab.find, cd, globs, flc, fun f ds => match f with
    | _ => none, fun f => match f with
    | _ => false⟩

def A_passkeyref29_RevokeModel : Loc2 T := ⟨fun id => match id with
    | 0 => some ⟨[(1, .f (.v .u64)), (2, .ptr [(.v (.agg 2))]), (4, .ptr [(.v (.agg 2))]), (5, .f (.own 1)), (6, .f (.v (.int .i64)))], [(.exit 0, [(2, .ptr [(.v (.agg 2))]), (4, .ptr [(.v (.agg 2))]), (5, .f (.own 1))])], passkeyref29_RevokeModel_L0⟩
    | _ => none, fun r => match r with
    | _ => none, fun r => match r with
    | _ => false⟩

theorem passkeyref29_RevokeModel_L0_eq (y0 : (BitVec 64)) (y1 : (ApiSessions × Unit)) (y2 : (ApiSessions × Unit)) (y3 : (List (ApiSession))) (y4 : Int) : run E_passkeyref29_RevokeModel A_passkeyref29_RevokeModel (loopAt 0 (Try.f25.body.getD .skip)) (lay cd [(1, .f (.v .u64)), (2, .ptr [(.v (.agg 2))]), (4, .ptr [(.v (.agg 2))]), (5, .f (.own 1)), (6, .f (.v (.int .i64)))] (y0, y1, y2, y3, y4, ())) (roundK cd [(1, .f (.v .u64)), (2, .ptr [(.v (.agg 2))]), (4, .ptr [(.v (.agg 2))]), (5, .f (.own 1)), (6, .f (.v (.int .i64)))] [(.exit 0, [(2, .ptr [(.v (.agg 2))]), (4, .ptr [(.v (.agg 2))]), (5, .f (.own 1))])]) = passkeyref29_RevokeModel_L0b y0 y1 y2 y3 y4 := by kernel_rfl

theorem passkeyref29_RevokeModel_eq (x : tySs T S_passkeyref29_RevokeModel.ps) : run E_passkeyref29_RevokeModel A_passkeyref29_RevokeModel (Try.f25.body.getD .skip) (enterT E_passkeyref29_RevokeModel.C S_passkeyref29_RevokeModel.ps x) (retK E_passkeyref29_RevokeModel Try.f25.results.toList S_passkeyref29_RevokeModel.ps S_passkeyref29_RevokeModel.rs) = S_passkeyref29_RevokeModel.fn x := by kernel_rfl

theorem passkeyref29_RevokeModel_env : EnvOk Try.prog E_passkeyref29_RevokeModel := envOk (E := E_passkeyref29_RevokeModel) cd_ok tys fl_ok fun f ds S h => by cases h

theorem passkeyref29_RevokeModel_L0_ok : LoopOk Try.prog E_passkeyref29_RevokeModel Try.f25.ntmps (kqOf S_passkeyref29_RevokeModel.ps 0) (loopAt 0 (Try.f25.body.getD .skip)) ⟨[(1, .f (.v .u64)), (2, .ptr [(.v (.agg 2))]), (4, .ptr [(.v (.agg 2))]), (5, .f (.own 1)), (6, .f (.v (.int .i64)))], [(.exit 0, [(2, .ptr [(.v (.agg 2))]), (4, .ptr [(.v (.agg 2))]), (5, .f (.own 1))])], passkeyref29_RevokeModel_L0⟩ :=
  loop_ok (A := A_passkeyref29_RevokeModel) (done := []) (c0 := (Try.f25.body.getD .skip)) hmix passkeyref29_RevokeModel_env done_nil rounds (by kernel_rfl) (by kernel_rfl) (fun x => passkeyref29_RevokeModel_L0_eq x.1 x.2.1 x.2.2.1 x.2.2.2.1 x.2.2.2.2.1) (fun _ => rfl)

theorem passkeyref29_RevokeModel_ok : SoundT Try.prog cd gdn 25 S_passkeyref29_RevokeModel :=
  sound_fn (E := E_passkeyref29_RevokeModel) (A := A_passkeyref29_RevokeModel) (done := [0]) (c := (Try.f25.body.getD .skip)) (S := S_passkeyref29_RevokeModel) (fn := Try.f25) hmix passkeyref29_RevokeModel_env Try.func25 rfl (by kernel_rfl) (by kernel_rfl) (done_cons rfl passkeyref29_RevokeModel_L0_ok done_nil) (by kernel_rfl) (by kernel_rfl) passkeyref29_RevokeModel_eq

def session_RevokeCredential_1 (a0 : ApiSession) (a1 : (List (UInt8))) : Option ((Unit) × (Bool × Unit)) :=
 ((bytes_Equal a0.iD a1).bind fun r1 => (some ((), ((!r1.2.1), ()))))

def S_session_RevokeCredential_1 : FSpec T := ⟨[.f (.v (.agg 1)), .f (.v (.ref (.rs 0)))], [(.v .bool)], fun x => session_RevokeCredential_1 x.1 x.2.1⟩

def E_session_RevokeCredential_1 : Env T := ⟨tab.find, cd, globs, flc, fun f ds => match f with
    | 47 => some S_bytes_Equal
    | _ => none, fun f => match f with
    | 47 => true
    | _ => false⟩

def A_session_RevokeCredential_1 : Loc2 T := ⟨fun id => match id with
    | _ => none, fun r => match r with
    | _ => none, fun r => match r with
    | _ => false⟩

theorem session_RevokeCredential_1_eq (x : tySs T S_session_RevokeCredential_1.ps) : run E_session_RevokeCredential_1 A_session_RevokeCredential_1 (Try.f46.body.getD .skip) (enterT E_session_RevokeCredential_1.C S_session_RevokeCredential_1.ps x) (retK E_session_RevokeCredential_1 Try.f46.results.toList S_session_RevokeCredential_1.ps S_session_RevokeCredential_1.rs) = S_session_RevokeCredential_1.fn x := by kernel_rfl

theorem session_RevokeCredential_1_env : EnvOk Try.prog E_session_RevokeCredential_1 := envOk (E := E_session_RevokeCredential_1) cd_ok tys fl_ok fun f ds S h => by
    dsimp only [E_session_RevokeCredential_1] at h
    split at h
    · cases h; exact bytes_Equal_ok
    · cases h

theorem session_RevokeCredential_1_ok : SoundT Try.prog cd gdn 46 S_session_RevokeCredential_1 :=
  sound_fn (E := E_session_RevokeCredential_1) (A := A_session_RevokeCredential_1) (done := []) (c := (Try.f46.body.getD .skip)) (S := S_session_RevokeCredential_1) (fn := Try.f46) hmix session_RevokeCredential_1_env Try.func46 rfl (by kernel_rfl) (by kernel_rfl) done_nil (by kernel_rfl) (by kernel_rfl) session_RevokeCredential_1_eq

def session_filter_4_L0b (y0 : (List (UInt8))) (y1 : (ApiSessions × Unit)) (y2 : (ApiSessions × Unit)) (y3 : (List (ApiSession))) (y4 : (List (ApiSession))) (y5 : Int) (y6 : Int) : Option (((List (UInt8)) × (ApiSessions × Unit) × (ApiSessions × Unit) × (List (ApiSession)) × (List (ApiSession)) × Int × Int × Unit) ⊕ ((ApiSessions × Unit) × (ApiSessions × Unit) × (List (ApiSession)) × Unit)) :=
 (bif (decide (y6 < y5)) then ((getI y4 y6).bind fun x2 => ((session_RevokeCredential_1 x2 y0).bind fun r3 => (bif r3.2.1 then (bif small ((y3).length + (([x2] : List (ApiSession)) : List (ApiSession)).length) 72 then (some (Sum.inl (y0, (y1.1, ()), (y2.1, ()), (y3 ++ ([x2] : List (ApiSession))), y4, y5, (IntKind.wrap .i64 (y6 + (1 : Int))), ())))
 else none)
 else (some (Sum.inl (y0, (y1.1, ()), (y2.1, ()), y3, y4, y5, (IntKind.wrap .i64 (y6 + (1 : Int))), ()))))))
 else (some (Sum.inr ((y1.1, ()), (y2.1, ()), y3, ()))))

def session_filter_4_L0 (y : ((List (UInt8)) × (ApiSessions × Unit) × (ApiSessions × Unit) × (List (ApiSession)) × (List (ApiSession)) × Int × Int × Unit)) : Option ((ApiSessions × Unit) × (ApiSessions × Unit) × (List (ApiSession)) × Unit) := iter (fun (y : ((List (UInt8)) × (ApiSessions × Unit) × (ApiSessions × Unit) × (List (ApiSession)) × (List (ApiSession)) × Int × Int × Unit)) => session_filter_4_L0b y.1 y.2.1 y.2.2.1 y.2.2.2.1 y.2.2.2.2.1 y.2.2.2.2.2.1 y.2.2.2.2.2.2.1) rounds y

def session_filter_4 (a0 : ApiSessions) (a1 : (List (UInt8))) : Option ((Unit) × ((((BitVec 64) × Int × Unit) × (List (ApiSession)) × Unit) × Unit)) :=
 (bif (decide ((0 : Int) ≤ (0 : Int)) && (decide ((0 : Int) ≤ ((a0.open_).length : Int)) && decide ((72 : Int) * ((a0.open_).length : Int) ≤ 281474976710656 ∧ ((a0.open_).length : Int) ≤ 9223372036854775807))) then (let v1 : List (ApiSession) := (List.replicate 0 (⟨(0 : Int), ([] : List UInt8), [], 0#64, (0 : Int), (0 : Int)⟩ : ApiSession))
 ((session_filter_4_L0 (a1, (a0, ()), ((⟨0#64, (0 : Int), []⟩ : ApiSessions), ()), v1, a0.open_, ((a0.open_).length : Int), (0 : Int), ())).bind (fun (z4 : ((ApiSessions × Unit) × (ApiSessions × Unit) × (List (ApiSession)) × Unit)) => (some ((), (((z4.1.1.secret, z4.1.1.count, ()), z4.2.2.1, ()), ()))))))
 else none)

def S_session_filter_4 : FSpec T := ⟨[.f (.v (.agg 2)), .f (.fp 46 (.rs 0))], [(.st (.cons .u64 (.cons (.int .i64) .nil)) 1 .nil)], fun x => session_filter_4 x.1 x.2.1⟩

def E_session_filter_4 : Env T := ⟨tab.find, cd, globs, flc, fun f ds => match f with
    | 46 => some S_session_RevokeCredential_1
    | _ => none, fun f => match f with
    | 46 => true
    | _ => false⟩

def A_session_filter_4 : Loc2 T := ⟨fun id => match id with
    | 0 => some ⟨[(1, .f (.fp 46 (.rs 0))), (2, .ptr [(.v (.agg 2))]), (4, .ptr [(.v (.agg 2))]), (5, .f (.own 1)), (13, .f (.v (.rs 1))), (14, .f (.v (.int .i64))), (15, .f (.v (.int .i64)))], [(.exit 0, [(2, .ptr [(.v (.agg 2))]), (4, .ptr [(.v (.agg 2))]), (5, .f (.own 1))])], session_filter_4_L0⟩
    | _ => none, fun r => match r with
    | _ => none, fun r => match r with
    | _ => false⟩

theorem session_filter_4_L0_eq (y0 : (List (UInt8))) (y1 : (ApiSessions × Unit)) (y2 : (ApiSessions × Unit)) (y3 : (List (ApiSession))) (y4 : (List (ApiSession))) (y5 : Int) (y6 : Int) : run E_session_filter_4 A_session_filter_4 (loopAt 0 (Try.f36.body.getD .skip)) (lay cd [(1, .f (.fp 46 (.rs 0))), (2, .ptr [(.v (.agg 2))]), (4, .ptr [(.v (.agg 2))]), (5, .f (.own 1)), (13, .f (.v (.rs 1))), (14, .f (.v (.int .i64))), (15, .f (.v (.int .i64)))] (y0, y1, y2, y3, y4, y5, y6, ())) (roundK cd [(1, .f (.fp 46 (.rs 0))), (2, .ptr [(.v (.agg 2))]), (4, .ptr [(.v (.agg 2))]), (5, .f (.own 1)), (13, .f (.v (.rs 1))), (14, .f (.v (.int .i64))), (15, .f (.v (.int .i64)))] [(.exit 0, [(2, .ptr [(.v (.agg 2))]), (4, .ptr [(.v (.agg 2))]), (5, .f (.own 1))])]) = session_filter_4_L0b y0 y1 y2 y3 y4 y5 y6 := by kernel_rfl

theorem session_filter_4_eq (x : tySs T S_session_filter_4.ps) : run E_session_filter_4 A_session_filter_4 (Try.f36.body.getD .skip) (enterT E_session_filter_4.C S_session_filter_4.ps x) (retK E_session_filter_4 Try.f36.results.toList S_session_filter_4.ps S_session_filter_4.rs) = S_session_filter_4.fn x := by kernel_rfl

theorem session_filter_4_env : EnvOk Try.prog E_session_filter_4 := envOk (E := E_session_filter_4) cd_ok tys fl_ok fun f ds S h => by
    dsimp only [E_session_filter_4] at h
    split at h
    · cases h; exact session_RevokeCredential_1_ok
    · cases h

theorem session_filter_4_L0_ok : LoopOk Try.prog E_session_filter_4 Try.f36.ntmps (kqOf S_session_filter_4.ps 0) (loopAt 0 (Try.f36.body.getD .skip)) ⟨[(1, .f (.fp 46 (.rs 0))), (2, .ptr [(.v (.agg 2))]), (4, .ptr [(.v (.agg 2))]), (5, .f (.own 1)), (13, .f (.v (.rs 1))), (14, .f (.v (.int .i64))), (15, .f (.v (.int .i64)))], [(.exit 0, [(2, .ptr [(.v (.agg 2))]), (4, .ptr [(.v (.agg 2))]), (5, .f (.own 1))])], session_filter_4_L0⟩ :=
  loop_ok (A := A_session_filter_4) (done := []) (c0 := (Try.f36.body.getD .skip)) hmix session_filter_4_env done_nil rounds (by kernel_rfl) (by kernel_rfl) (fun x => session_filter_4_L0_eq x.1 x.2.1 x.2.2.1 x.2.2.2.1 x.2.2.2.2.1 x.2.2.2.2.2.1 x.2.2.2.2.2.2.1) (fun _ => rfl)

theorem session_filter_4_ok : SoundT Try.prog cd gdn 36 S_session_filter_4 :=
  sound_fn (E := E_session_filter_4) (A := A_session_filter_4) (done := [0]) (c := (Try.f36.body.getD .skip)) (S := S_session_filter_4) (fn := Try.f36) hmix session_filter_4_env Try.func36 rfl (by kernel_rfl) (by kernel_rfl) (done_cons rfl session_filter_4_L0_ok done_nil) (by kernel_rfl) (by kernel_rfl) session_filter_4_eq

def session_RevokeCredential (a0 : ApiSessions) (a1 : (List (UInt8))) : Option ((Unit) × (ApiSessions × Unit)) :=
 ((session_filter_4 a0 a1).bind fun r1 => (some ((), ((⟨r1.2.1.1.1, r1.2.1.1.2.1, r1.2.1.2.1⟩ : ApiSessions), ()))))

def S_session_RevokeCredential : FSpec T := ⟨[.f (.v (.agg 2)), .f (.v (.rs 0))], [(.v (.agg 2))], fun x => session_RevokeCredential x.1 x.2.1⟩

def E_session_RevokeCredential : Env T := ⟨tab.find, cd, globs, flc, fun f ds => match f with
    | 36 => match fnAt ds 1 with
      | some 46 => some S_session_filter_4
      | _ => none
    | _ => none, fun f => match f with
    | _ => false⟩

def A_session_RevokeCredential : Loc2 T := ⟨fun id => match id with
    | _ => none, fun r => match r with
    | _ => none, fun r => match r with
    | _ => false⟩

theorem session_RevokeCredential_eq (x : tySs T S_session_RevokeCredential.ps) : run E_session_RevokeCredential A_session_RevokeCredential (Try.f26.body.getD .skip) (enterT E_session_RevokeCredential.C S_session_RevokeCredential.ps x) (retK E_session_RevokeCredential Try.f26.results.toList S_session_RevokeCredential.ps S_session_RevokeCredential.rs) = S_session_RevokeCredential.fn x := by kernel_rfl

theorem session_RevokeCredential_env : EnvOk Try.prog E_session_RevokeCredential := envOk (E := E_session_RevokeCredential) cd_ok tys fl_ok fun f ds S h => by
    dsimp only [E_session_RevokeCredential] at h
    split at h
    · split at h
      · cases h; exact session_filter_4_ok
      · cases h
    · cases h

theorem session_RevokeCredential_ok : SoundT Try.prog cd gdn 26 S_session_RevokeCredential :=
  sound_fn (E := E_session_RevokeCredential) (A := A_session_RevokeCredential) (done := []) (c := (Try.f26.body.getD .skip)) (S := S_session_RevokeCredential) (fn := Try.f26) hmix session_RevokeCredential_env Try.func26 rfl (by kernel_rfl) (by kernel_rfl) done_nil (by kernel_rfl) (by kernel_rfl) session_RevokeCredential_eq

def passkeyref29_RevokeCredential_L0b (y0 : (List (UInt8))) (y1 : (ApiSessions × Unit)) (y2 : (ApiSessions × Unit)) (y3 : (List (ApiSession))) (y4 : Int) : Option (((List (UInt8)) × (ApiSessions × Unit) × (ApiSessions × Unit) × (List (ApiSession)) × Int × Unit) ⊕ ((ApiSessions × Unit) × (ApiSessions × Unit) × (List (ApiSession)) × Unit)) :=
 (bif (decide (y4 < ((y1.1.open_).length : Int))) then ((getI y1.1.open_ y4).bind fun x1 => (bif (!decide (x1.iD = y0)) then ((getI y1.1.open_ y4).bind fun x2 => (bif small ((y3).length + (([x2] : List (ApiSession)) : List (ApiSession)).length) 72 then (some (Sum.inl (y0, (y1.1, ()), (y2.1, ()), (y3 ++ ([x2] : List (ApiSession))), (IntKind.wrap .i64 (y4 + (1 : Int))), ())))
 else none))
 else (some (Sum.inl (y0, (y1.1, ()), (y2.1, ()), y3, (IntKind.wrap .i64 (y4 + (1 : Int))), ())))))
 else (some (Sum.inr ((y1.1, ()), (y2.1, ()), y3, ()))))

def passkeyref29_RevokeCredential_L0 (y : ((List (UInt8)) × (ApiSessions × Unit) × (ApiSessions × Unit) × (List (ApiSession)) × Int × Unit)) : Option ((ApiSessions × Unit) × (ApiSessions × Unit) × (List (ApiSession)) × Unit) := iter (fun (y : ((List (UInt8)) × (ApiSessions × Unit) × (ApiSessions × Unit) × (List (ApiSession)) × Int × Unit)) => passkeyref29_RevokeCredential_L0b y.1 y.2.1 y.2.2.1 y.2.2.2.1 y.2.2.2.2.1) rounds y

def passkeyref29_RevokeCredential (a0 : ApiSessions) (a1 : (List (UInt8))) : Option ((Unit) × (ApiSessions × Unit)) :=
 ((passkeyref29_RevokeCredential_L0 (a1, (a0, ()), ((⟨0#64, (0 : Int), []⟩ : ApiSessions), ()), [], (0 : Int), ())).bind (fun (z3 : ((ApiSessions × Unit) × (ApiSessions × Unit) × (List (ApiSession)) × Unit)) => (some ((), ((⟨z3.1.1.secret, z3.1.1.count, z3.2.2.1⟩ : ApiSessions), ())))))

def S_passkeyref29_RevokeCredential : FSpec T := ⟨[.f (.v (.agg 2)), .f (.v (.rs 0))], [(.v (.agg 2))], fun x => passkeyref29_RevokeCredential x.1 x.2.1⟩

def E_passkeyref29_RevokeCredential : Env T := ⟨tab.find, cd, globs, flc, fun f ds => match f with
    | _ => none, fun f => match f with
    | _ => false⟩

def A_passkeyref29_RevokeCredential : Loc2 T := ⟨fun id => match id with
    | 0 => some ⟨[(1, .f (.v (.rs 0))), (2, .ptr [(.v (.agg 2))]), (4, .ptr [(.v (.agg 2))]), (5, .f (.own 1)), (6, .f (.v (.int .i64)))], [(.exit 0, [(2, .ptr [(.v (.agg 2))]), (4, .ptr [(.v (.agg 2))]), (5, .f (.own 1))])], passkeyref29_RevokeCredential_L0⟩
    | _ => none, fun r => match r with
    | _ => none, fun r => match r with
    | _ => false⟩

theorem passkeyref29_RevokeCredential_L0_eq (y0 : (List (UInt8))) (y1 : (ApiSessions × Unit)) (y2 : (ApiSessions × Unit)) (y3 : (List (ApiSession))) (y4 : Int) : run E_passkeyref29_RevokeCredential A_passkeyref29_RevokeCredential (loopAt 0 (Try.f27.body.getD .skip)) (lay cd [(1, .f (.v (.rs 0))), (2, .ptr [(.v (.agg 2))]), (4, .ptr [(.v (.agg 2))]), (5, .f (.own 1)), (6, .f (.v (.int .i64)))] (y0, y1, y2, y3, y4, ())) (roundK cd [(1, .f (.v (.rs 0))), (2, .ptr [(.v (.agg 2))]), (4, .ptr [(.v (.agg 2))]), (5, .f (.own 1)), (6, .f (.v (.int .i64)))] [(.exit 0, [(2, .ptr [(.v (.agg 2))]), (4, .ptr [(.v (.agg 2))]), (5, .f (.own 1))])]) = passkeyref29_RevokeCredential_L0b y0 y1 y2 y3 y4 := by kernel_rfl

theorem passkeyref29_RevokeCredential_eq (x : tySs T S_passkeyref29_RevokeCredential.ps) : run E_passkeyref29_RevokeCredential A_passkeyref29_RevokeCredential (Try.f27.body.getD .skip) (enterT E_passkeyref29_RevokeCredential.C S_passkeyref29_RevokeCredential.ps x) (retK E_passkeyref29_RevokeCredential Try.f27.results.toList S_passkeyref29_RevokeCredential.ps S_passkeyref29_RevokeCredential.rs) = S_passkeyref29_RevokeCredential.fn x := by kernel_rfl

theorem passkeyref29_RevokeCredential_env : EnvOk Try.prog E_passkeyref29_RevokeCredential := envOk (E := E_passkeyref29_RevokeCredential) cd_ok tys fl_ok fun f ds S h => by cases h

theorem passkeyref29_RevokeCredential_L0_ok : LoopOk Try.prog E_passkeyref29_RevokeCredential Try.f27.ntmps (kqOf S_passkeyref29_RevokeCredential.ps 0) (loopAt 0 (Try.f27.body.getD .skip)) ⟨[(1, .f (.v (.rs 0))), (2, .ptr [(.v (.agg 2))]), (4, .ptr [(.v (.agg 2))]), (5, .f (.own 1)), (6, .f (.v (.int .i64)))], [(.exit 0, [(2, .ptr [(.v (.agg 2))]), (4, .ptr [(.v (.agg 2))]), (5, .f (.own 1))])], passkeyref29_RevokeCredential_L0⟩ :=
  loop_ok (A := A_passkeyref29_RevokeCredential) (done := []) (c0 := (Try.f27.body.getD .skip)) hmix passkeyref29_RevokeCredential_env done_nil rounds (by kernel_rfl) (by kernel_rfl) (fun x => passkeyref29_RevokeCredential_L0_eq x.1 x.2.1 x.2.2.1 x.2.2.2.1 x.2.2.2.2.1) (fun _ => rfl)

theorem passkeyref29_RevokeCredential_ok : SoundT Try.prog cd gdn 27 S_passkeyref29_RevokeCredential :=
  sound_fn (E := E_passkeyref29_RevokeCredential) (A := A_passkeyref29_RevokeCredential) (done := [0]) (c := (Try.f27.body.getD .skip)) (S := S_passkeyref29_RevokeCredential) (fn := Try.f27) hmix passkeyref29_RevokeCredential_env Try.func27 rfl (by kernel_rfl) (by kernel_rfl) (done_cons rfl passkeyref29_RevokeCredential_L0_ok done_nil) (by kernel_rfl) (by kernel_rfl) passkeyref29_RevokeCredential_eq

def passkeyref29_SameSessions_L0b (y0 : (ApiSessions × Unit)) (y1 : (ApiSessions × Unit)) (y2 : Int) : Option (((ApiSessions × Unit) × (ApiSessions × Unit) × Int × Unit) ⊕ ((Bool × Unit) ⊕ (Unit))) :=
 (bif (decide (y2 < ((y0.1.open_).length : Int))) then ((getI y0.1.open_ y2).bind fun x1 => ((getI y1.1.open_ y2).bind fun x2 => ((passkeyref29_SameSession x1 x2).bind fun r3 => (bif (!r3.2.1) then (some (Sum.inr (Sum.inl (false, ()))))
 else (some (Sum.inl ((y0.1, ()), (y1.1, ()), (IntKind.wrap .i64 (y2 + (1 : Int))), ())))))))
 else (some (Sum.inr (Sum.inr ()))))

def passkeyref29_SameSessions_L0 (y : ((ApiSessions × Unit) × (ApiSessions × Unit) × Int × Unit)) : Option ((Bool × Unit) ⊕ (Unit)) := iter (fun (y : ((ApiSessions × Unit) × (ApiSessions × Unit) × Int × Unit)) => passkeyref29_SameSessions_L0b y.1 y.2.1 y.2.2.1) rounds y

def passkeyref29_SameSessions (a0 : ApiSessions) (a1 : ApiSessions) : Option ((Unit) × (Bool × Unit)) :=
 (bif (!decide (a0.secret = a1.secret)) then (some ((), (false, ())))
 else (bif (!decide (a0.count = a1.count)) then (some ((), (false, ())))
 else (bif (!decide (((a0.open_).length : Int) = ((a1.open_).length : Int))) then (some ((), (false, ())))
 else ((passkeyref29_SameSessions_L0 ((a0, ()), (a1, ()), (0 : Int), ())).bind (Sum.elim (fun (z4 : (Bool × Unit)) => (some ((), (z4.1, ())))) (fun (z5 : (Unit)) => (some ((), (true, ())))))))))

def S_passkeyref29_SameSessions : FSpec T := ⟨[.f (.v (.agg 2)), .f (.v (.agg 2))], [(.v .bool)], fun x => passkeyref29_SameSessions x.1 x.2.1⟩

def E_passkeyref29_SameSessions : Env T := ⟨tab.find, cd, globs, flc, fun f ds => match f with
    | 21 => some S_passkeyref29_SameSession
    | _ => none, fun f => match f with
    | 21 => true
    | _ => false⟩

def A_passkeyref29_SameSessions : Loc2 T := ⟨fun id => match id with
    | 0 => some ⟨[(2, .ptr [(.v (.agg 2))]), (3, .ptr [(.v (.agg 2))]), (5, .f (.v (.int .i64)))], [(.ret, [(4, .f (.v .bool))]), (.exit 0, [])], passkeyref29_SameSessions_L0⟩
    | _ => none, fun r => match r with
    | _ => none, fun r => match r with
    | _ => false⟩

theorem passkeyref29_SameSessions_L0_eq (y0 : (ApiSessions × Unit)) (y1 : (ApiSessions × Unit)) (y2 : Int) : run E_passkeyref29_SameSessions A_passkeyref29_SameSessions (loopAt 0 (Try.f30.body.getD .skip)) (lay cd [(2, .ptr [(.v (.agg 2))]), (3, .ptr [(.v (.agg 2))]), (5, .f (.v (.int .i64)))] (y0, y1, y2, ())) (roundK cd [(2, .ptr [(.v (.agg 2))]), (3, .ptr [(.v (.agg 2))]), (5, .f (.v (.int .i64)))] [(.ret, [(4, .f (.v .bool))]), (.exit 0, [])]) = passkeyref29_SameSessions_L0b y0 y1 y2 := by kernel_rfl

theorem passkeyref29_SameSessions_eq (x : tySs T S_passkeyref29_SameSessions.ps) : run E_passkeyref29_SameSessions A_passkeyref29_SameSessions (Try.f30.body.getD .skip) (enterT E_passkeyref29_SameSessions.C S_passkeyref29_SameSessions.ps x) (retK E_passkeyref29_SameSessions Try.f30.results.toList S_passkeyref29_SameSessions.ps S_passkeyref29_SameSessions.rs) = S_passkeyref29_SameSessions.fn x := by kernel_rfl

theorem passkeyref29_SameSessions_env : EnvOk Try.prog E_passkeyref29_SameSessions := envOk (E := E_passkeyref29_SameSessions) cd_ok tys fl_ok fun f ds S h => by
    dsimp only [E_passkeyref29_SameSessions] at h
    split at h
    · cases h; exact passkeyref29_SameSession_ok
    · cases h

theorem passkeyref29_SameSessions_L0_ok : LoopOk Try.prog E_passkeyref29_SameSessions Try.f30.ntmps (kqOf S_passkeyref29_SameSessions.ps 0) (loopAt 0 (Try.f30.body.getD .skip)) ⟨[(2, .ptr [(.v (.agg 2))]), (3, .ptr [(.v (.agg 2))]), (5, .f (.v (.int .i64)))], [(.ret, [(4, .f (.v .bool))]), (.exit 0, [])], passkeyref29_SameSessions_L0⟩ :=
  loop_ok (A := A_passkeyref29_SameSessions) (done := []) (c0 := (Try.f30.body.getD .skip)) hmix passkeyref29_SameSessions_env done_nil rounds (by kernel_rfl) (by kernel_rfl) (fun x => passkeyref29_SameSessions_L0_eq x.1 x.2.1 x.2.2.1) (fun _ => rfl)

theorem passkeyref29_SameSessions_ok : SoundT Try.prog cd gdn 30 S_passkeyref29_SameSessions :=
  sound_fn (E := E_passkeyref29_SameSessions) (A := A_passkeyref29_SameSessions) (done := [0]) (c := (Try.f30.body.getD .skip)) (S := S_passkeyref29_SameSessions) (fn := Try.f30) hmix passkeyref29_SameSessions_env Try.func30 rfl (by kernel_rfl) (by kernel_rfl) (done_cons rfl passkeyref29_SameSessions_L0_ok done_nil) (by kernel_rfl) (by kernel_rfl) passkeyref29_SameSessions_eq

def passkeylaw34_SessionPlays_L0b (y0 : Int) (y1 : (PasskeycastDeck × Unit)) (y2 : (ApiSessions × Unit)) (y3 : (ApiSessions × Unit)) (y4 : (List (List UInt8))) (y5 : Int) (y6 : Int) : Option ((Int × (PasskeycastDeck × Unit) × (ApiSessions × Unit) × (ApiSessions × Unit) × (List (List UInt8)) × Int × Int × Unit) ⊕ ((Bool × Unit) ⊕ (Unit))) :=
 (bif (decide (y6 < (80 : Int))) then ((passkeycast_Deck_Left y1.1).bind fun r5 => (bif r5.2.1 then ((passkeycast_Deck_Next (y1.1, ()) (4 : Int)).bind fun r6 => (bif (decide ((0 : Int) ≤ r6.2.1) && decide (r6.2.1 < (4 : Int))) then (((([(0 : Int), (1 : Int), (0 : Int), (3 : Int)] : List (Int)))[(r6.2.1).toNat]?).bind fun x7 => (((passkeycast_Deck_Next (r6.1.1.1, ()) (16 : Int)).bind fun r8 => (bif (decide (r8.2.1 = (15 : Int))) then (some (y0, (r8.1.1.1, ()), (y2.1, ()), (y3.1, ()), y4, (IntKind.wrap .i64 (y5 + x7)), y6, y0, ()))
 else (some (y0, (r8.1.1.1, ()), (y2.1, ()), (y3.1, ()), y4, (IntKind.wrap .i64 (y5 + x7)), y6, (IntKind.wrap .i64 (y5 + x7)), ())))).bind (fun (j9 : (Int × (PasskeycastDeck × Unit) × (ApiSessions × Unit) × (ApiSessions × Unit) × (List (List UInt8)) × Int × Int × Int × Unit)) => ((passkeycast_Deck_Next (j9.2.1.1, ()) ((j9.2.2.2.2.1).length : Int)).bind fun r10 => (bif (decide ((0 : Int) ≤ r10.2.1) && decide (r10.2.1 < ((j9.2.2.2.2.1).length : Int))) then (((j9.2.2.2.2.1)[(r10.2.1).toNat]?).bind fun x11 => (((passkeycast_Deck_Next (r10.1.1.1, ()) (9 : Int)).bind fun r12 => (bif (decide (r12.2.1 = (0 : Int))) then (bif (decide (r12.2.1 = (0 : Int))) then ((passkeycast_Deck_Next (r12.1.1.1, ()) (3 : Int)).bind fun r13 => ((passkeycast_Name r13.2.1).bind fun r14 => ((passkeycast_Deck_Next (r13.1.1.1, ()) (3 : Int)).bind fun r15 => ((passkeycast_Bytes r15.2.1 (4 : Int)).bind fun r16 => ((passkeycast_Deck_Next (r15.1.1.1, ()) (3 : Int)).bind fun r17 => (let v18 : List (Int) := ([(5 : Int), (50 : Int), (1 : Int), (0 : Int), (1099511627776 : Int), (1099511627777 : Int)] : List (Int))
 ((passkeycast_Deck_Next (r17.1.1.1, ()) (6 : Int)).bind fun r19 => (bif (decide ((0 : Int) ≤ r19.2.1) && decide (r19.2.1 < (6 : Int))) then (((v18)[(r19.2.1).toNat]?).bind fun x20 => ((session_Open j9.2.2.1.1 r14.2.1 r16.2.1 (BitVec.ofInt 64 r17.2.1) j9.2.2.2.2.2.2.2.1 x20).bind fun r21 => ((passkeyref29_OpenSession j9.2.2.2.1.1 r14.2.1 r16.2.1 (BitVec.ofInt 64 r17.2.1) j9.2.2.2.2.2.2.2.1 x20).bind fun r22 => (bif (!decide (r21.2.2.1 = r22.2.2.1)) then (((some (Sum.inr (Sum.inl (false, ()))))).bind fun q => some (Sum.inr q))
 else (bif small ((j9.2.2.2.2.1).length + (([r21.2.2.1] : List (List UInt8)) : List (List UInt8)).length) 24 then (let v23 : List (List UInt8) := (j9.2.2.2.2.1 ++ ([r21.2.2.1] : List (List UInt8)))
 (some (Sum.inl (j9.1, (r19.1.1.1, ()), (r21.2.1, ()), (r22.2.1, ()), v23, j9.2.2.2.2.2.1, j9.2.2.2.2.2.2.1, r21.2.2.2.1, r22.2.2.2.1, ()))))
 else none)))))
 else none))))))))
 else (bif (decide (r12.2.1 = (4 : Int))) then ((session_Check j9.2.2.1.1 x11 j9.2.2.2.2.2.2.2.1).bind fun r24 => ((passkeyref29_CheckSession j9.2.2.2.1.1 x11 j9.2.2.2.2.2.2.2.1).bind fun r25 => ((passkeyref29_SameSession r24.2.1 r25.2.1).bind fun r26 => (bif (!r26.2.1) then (((some (Sum.inr (Sum.inl (false, ()))))).bind fun q => some (Sum.inr q))
 else (some (Sum.inl (j9.1, (r12.1.1.1, ()), (j9.2.2.1.1, ()), (j9.2.2.2.1.1, ()), j9.2.2.2.2.1, j9.2.2.2.2.2.1, j9.2.2.2.2.2.2.1, r24.2.2.1, r25.2.2.1, ())))))))
 else (bif (decide (r12.2.1 = (5 : Int))) then ((session_Close j9.2.2.1.1 x11 j9.2.2.2.2.2.2.2.1).bind fun r27 => ((passkeyref29_CloseSession j9.2.2.2.1.1 x11 j9.2.2.2.2.2.2.2.1).bind fun r28 => (some (Sum.inl (j9.1, (r12.1.1.1, ()), (r27.2.1, ()), (r28.2.1, ()), j9.2.2.2.2.1, j9.2.2.2.2.2.1, j9.2.2.2.2.2.2.1, r27.2.2.1, r28.2.2.1, ())))))
 else (bif (decide (r12.2.1 = (6 : Int))) then ((passkeycast_Deck_Next (r12.1.1.1, ()) (3 : Int)).bind fun r29 => ((session_RevokeModel j9.2.2.1.1 (BitVec.ofInt 64 r29.2.1)).bind fun r30 => ((passkeyref29_RevokeModel j9.2.2.2.1.1 (BitVec.ofInt 64 r29.2.1)).bind fun r31 => (some (Sum.inl (j9.1, (r29.1.1.1, ()), (r30.2.1, ()), (r31.2.1, ()), j9.2.2.2.2.1, j9.2.2.2.2.2.1, j9.2.2.2.2.2.2.1, (0 : Int), (0 : Int), ()))))))
 else (bif (decide (r12.2.1 = (7 : Int))) then ((passkeycast_Deck_Next (r12.1.1.1, ()) (3 : Int)).bind fun r32 => ((passkeycast_Bytes r32.2.1 (4 : Int)).bind fun r33 => ((session_RevokeCredential j9.2.2.1.1 r33.2.1).bind fun r34 => ((passkeyref29_RevokeCredential j9.2.2.2.1.1 r33.2.1).bind fun r35 => (some (Sum.inl (j9.1, (r32.1.1.1, ()), (r34.2.1, ()), (r35.2.1, ()), j9.2.2.2.2.1, j9.2.2.2.2.2.1, j9.2.2.2.2.2.2.1, (0 : Int), (0 : Int), ())))))))
 else (bif (decide (r12.2.1 = (8 : Int))) then ((session_Expire j9.2.2.1.1 j9.2.2.2.2.2.2.2.1).bind fun r36 => ((passkeyref29_ExpireSessions j9.2.2.2.1.1 j9.2.2.2.2.2.2.2.1).bind fun r37 => (some (Sum.inl (j9.1, (r12.1.1.1, ()), ((⟨r36.2.1.1.1, r36.2.1.1.2.1, r36.2.1.2.1⟩ : ApiSessions), ()), (r37.2.1, ()), j9.2.2.2.2.1, j9.2.2.2.2.2.1, j9.2.2.2.2.2.2.1, (0 : Int), (0 : Int), ())))))
 else (some (Sum.inl (j9.1, (r12.1.1.1, ()), (j9.2.2.1.1, ()), (j9.2.2.2.1.1, ()), j9.2.2.2.2.1, j9.2.2.2.2.2.1, j9.2.2.2.2.2.2.1, (0 : Int), (0 : Int), ())))))))))
 else (bif (decide (r12.2.1 = (1 : Int))) then (bif (decide (r12.2.1 = (1 : Int))) then ((passkeycast_Deck_Next (r12.1.1.1, ()) (3 : Int)).bind fun r38 => ((passkeycast_Name r38.2.1).bind fun r39 => ((passkeycast_Deck_Next (r38.1.1.1, ()) (3 : Int)).bind fun r40 => ((passkeycast_Bytes r40.2.1 (4 : Int)).bind fun r41 => ((passkeycast_Deck_Next (r40.1.1.1, ()) (3 : Int)).bind fun r42 => (let v43 : List (Int) := ([(5 : Int), (50 : Int), (1 : Int), (0 : Int), (1099511627776 : Int), (1099511627777 : Int)] : List (Int))
 ((passkeycast_Deck_Next (r42.1.1.1, ()) (6 : Int)).bind fun r44 => (bif (decide ((0 : Int) ≤ r44.2.1) && decide (r44.2.1 < (6 : Int))) then (((v43)[(r44.2.1).toNat]?).bind fun x45 => ((session_Open j9.2.2.1.1 r39.2.1 r41.2.1 (BitVec.ofInt 64 r42.2.1) j9.2.2.2.2.2.2.2.1 x45).bind fun r46 => ((passkeyref29_OpenSession j9.2.2.2.1.1 r39.2.1 r41.2.1 (BitVec.ofInt 64 r42.2.1) j9.2.2.2.2.2.2.2.1 x45).bind fun r47 => (bif (!decide (r46.2.2.1 = r47.2.2.1)) then (((some (Sum.inr (Sum.inl (false, ()))))).bind fun q => some (Sum.inr q))
 else (bif small ((j9.2.2.2.2.1).length + (([r46.2.2.1] : List (List UInt8)) : List (List UInt8)).length) 24 then (let v48 : List (List UInt8) := (j9.2.2.2.2.1 ++ ([r46.2.2.1] : List (List UInt8)))
 (some (Sum.inl (j9.1, (r44.1.1.1, ()), (r46.2.1, ()), (r47.2.1, ()), v48, j9.2.2.2.2.2.1, j9.2.2.2.2.2.2.1, r46.2.2.2.1, r47.2.2.2.1, ()))))
 else none)))))
 else none))))))))
 else (bif (decide (r12.2.1 = (4 : Int))) then ((session_Check j9.2.2.1.1 x11 j9.2.2.2.2.2.2.2.1).bind fun r49 => ((passkeyref29_CheckSession j9.2.2.2.1.1 x11 j9.2.2.2.2.2.2.2.1).bind fun r50 => ((passkeyref29_SameSession r49.2.1 r50.2.1).bind fun r51 => (bif (!r51.2.1) then (((some (Sum.inr (Sum.inl (false, ()))))).bind fun q => some (Sum.inr q))
 else (some (Sum.inl (j9.1, (r12.1.1.1, ()), (j9.2.2.1.1, ()), (j9.2.2.2.1.1, ()), j9.2.2.2.2.1, j9.2.2.2.2.2.1, j9.2.2.2.2.2.2.1, r49.2.2.1, r50.2.2.1, ())))))))
 else (bif (decide (r12.2.1 = (5 : Int))) then ((session_Close j9.2.2.1.1 x11 j9.2.2.2.2.2.2.2.1).bind fun r52 => ((passkeyref29_CloseSession j9.2.2.2.1.1 x11 j9.2.2.2.2.2.2.2.1).bind fun r53 => (some (Sum.inl (j9.1, (r12.1.1.1, ()), (r52.2.1, ()), (r53.2.1, ()), j9.2.2.2.2.1, j9.2.2.2.2.2.1, j9.2.2.2.2.2.2.1, r52.2.2.1, r53.2.2.1, ())))))
 else (bif (decide (r12.2.1 = (6 : Int))) then ((passkeycast_Deck_Next (r12.1.1.1, ()) (3 : Int)).bind fun r54 => ((session_RevokeModel j9.2.2.1.1 (BitVec.ofInt 64 r54.2.1)).bind fun r55 => ((passkeyref29_RevokeModel j9.2.2.2.1.1 (BitVec.ofInt 64 r54.2.1)).bind fun r56 => (some (Sum.inl (j9.1, (r54.1.1.1, ()), (r55.2.1, ()), (r56.2.1, ()), j9.2.2.2.2.1, j9.2.2.2.2.2.1, j9.2.2.2.2.2.2.1, (0 : Int), (0 : Int), ()))))))
 else (bif (decide (r12.2.1 = (7 : Int))) then ((passkeycast_Deck_Next (r12.1.1.1, ()) (3 : Int)).bind fun r57 => ((passkeycast_Bytes r57.2.1 (4 : Int)).bind fun r58 => ((session_RevokeCredential j9.2.2.1.1 r58.2.1).bind fun r59 => ((passkeyref29_RevokeCredential j9.2.2.2.1.1 r58.2.1).bind fun r60 => (some (Sum.inl (j9.1, (r57.1.1.1, ()), (r59.2.1, ()), (r60.2.1, ()), j9.2.2.2.2.1, j9.2.2.2.2.2.1, j9.2.2.2.2.2.2.1, (0 : Int), (0 : Int), ())))))))
 else (bif (decide (r12.2.1 = (8 : Int))) then ((session_Expire j9.2.2.1.1 j9.2.2.2.2.2.2.2.1).bind fun r61 => ((passkeyref29_ExpireSessions j9.2.2.2.1.1 j9.2.2.2.2.2.2.2.1).bind fun r62 => (some (Sum.inl (j9.1, (r12.1.1.1, ()), ((⟨r61.2.1.1.1, r61.2.1.1.2.1, r61.2.1.2.1⟩ : ApiSessions), ()), (r62.2.1, ()), j9.2.2.2.2.1, j9.2.2.2.2.2.1, j9.2.2.2.2.2.2.1, (0 : Int), (0 : Int), ())))))
 else (some (Sum.inl (j9.1, (r12.1.1.1, ()), (j9.2.2.1.1, ()), (j9.2.2.2.1.1, ()), j9.2.2.2.2.1, j9.2.2.2.2.2.1, j9.2.2.2.2.2.2.1, (0 : Int), (0 : Int), ())))))))))
 else (bif (decide (r12.2.1 = (2 : Int))) then (bif (decide (r12.2.1 = (2 : Int))) then ((passkeycast_Deck_Next (r12.1.1.1, ()) (3 : Int)).bind fun r63 => ((passkeycast_Name r63.2.1).bind fun r64 => ((passkeycast_Deck_Next (r63.1.1.1, ()) (3 : Int)).bind fun r65 => ((passkeycast_Bytes r65.2.1 (4 : Int)).bind fun r66 => ((passkeycast_Deck_Next (r65.1.1.1, ()) (3 : Int)).bind fun r67 => (let v68 : List (Int) := ([(5 : Int), (50 : Int), (1 : Int), (0 : Int), (1099511627776 : Int), (1099511627777 : Int)] : List (Int))
 ((passkeycast_Deck_Next (r67.1.1.1, ()) (6 : Int)).bind fun r69 => (bif (decide ((0 : Int) ≤ r69.2.1) && decide (r69.2.1 < (6 : Int))) then (((v68)[(r69.2.1).toNat]?).bind fun x70 => ((session_Open j9.2.2.1.1 r64.2.1 r66.2.1 (BitVec.ofInt 64 r67.2.1) j9.2.2.2.2.2.2.2.1 x70).bind fun r71 => ((passkeyref29_OpenSession j9.2.2.2.1.1 r64.2.1 r66.2.1 (BitVec.ofInt 64 r67.2.1) j9.2.2.2.2.2.2.2.1 x70).bind fun r72 => (bif (!decide (r71.2.2.1 = r72.2.2.1)) then (((some (Sum.inr (Sum.inl (false, ()))))).bind fun q => some (Sum.inr q))
 else (bif small ((j9.2.2.2.2.1).length + (([r71.2.2.1] : List (List UInt8)) : List (List UInt8)).length) 24 then (let v73 : List (List UInt8) := (j9.2.2.2.2.1 ++ ([r71.2.2.1] : List (List UInt8)))
 (some (Sum.inl (j9.1, (r69.1.1.1, ()), (r71.2.1, ()), (r72.2.1, ()), v73, j9.2.2.2.2.2.1, j9.2.2.2.2.2.2.1, r71.2.2.2.1, r72.2.2.2.1, ()))))
 else none)))))
 else none))))))))
 else (bif (decide (r12.2.1 = (4 : Int))) then ((session_Check j9.2.2.1.1 x11 j9.2.2.2.2.2.2.2.1).bind fun r74 => ((passkeyref29_CheckSession j9.2.2.2.1.1 x11 j9.2.2.2.2.2.2.2.1).bind fun r75 => ((passkeyref29_SameSession r74.2.1 r75.2.1).bind fun r76 => (bif (!r76.2.1) then (((some (Sum.inr (Sum.inl (false, ()))))).bind fun q => some (Sum.inr q))
 else (some (Sum.inl (j9.1, (r12.1.1.1, ()), (j9.2.2.1.1, ()), (j9.2.2.2.1.1, ()), j9.2.2.2.2.1, j9.2.2.2.2.2.1, j9.2.2.2.2.2.2.1, r74.2.2.1, r75.2.2.1, ())))))))
 else (bif (decide (r12.2.1 = (5 : Int))) then ((session_Close j9.2.2.1.1 x11 j9.2.2.2.2.2.2.2.1).bind fun r77 => ((passkeyref29_CloseSession j9.2.2.2.1.1 x11 j9.2.2.2.2.2.2.2.1).bind fun r78 => (some (Sum.inl (j9.1, (r12.1.1.1, ()), (r77.2.1, ()), (r78.2.1, ()), j9.2.2.2.2.1, j9.2.2.2.2.2.1, j9.2.2.2.2.2.2.1, r77.2.2.1, r78.2.2.1, ())))))
 else (bif (decide (r12.2.1 = (6 : Int))) then ((passkeycast_Deck_Next (r12.1.1.1, ()) (3 : Int)).bind fun r79 => ((session_RevokeModel j9.2.2.1.1 (BitVec.ofInt 64 r79.2.1)).bind fun r80 => ((passkeyref29_RevokeModel j9.2.2.2.1.1 (BitVec.ofInt 64 r79.2.1)).bind fun r81 => (some (Sum.inl (j9.1, (r79.1.1.1, ()), (r80.2.1, ()), (r81.2.1, ()), j9.2.2.2.2.1, j9.2.2.2.2.2.1, j9.2.2.2.2.2.2.1, (0 : Int), (0 : Int), ()))))))
 else (bif (decide (r12.2.1 = (7 : Int))) then ((passkeycast_Deck_Next (r12.1.1.1, ()) (3 : Int)).bind fun r82 => ((passkeycast_Bytes r82.2.1 (4 : Int)).bind fun r83 => ((session_RevokeCredential j9.2.2.1.1 r83.2.1).bind fun r84 => ((passkeyref29_RevokeCredential j9.2.2.2.1.1 r83.2.1).bind fun r85 => (some (Sum.inl (j9.1, (r82.1.1.1, ()), (r84.2.1, ()), (r85.2.1, ()), j9.2.2.2.2.1, j9.2.2.2.2.2.1, j9.2.2.2.2.2.2.1, (0 : Int), (0 : Int), ())))))))
 else (bif (decide (r12.2.1 = (8 : Int))) then ((session_Expire j9.2.2.1.1 j9.2.2.2.2.2.2.2.1).bind fun r86 => ((passkeyref29_ExpireSessions j9.2.2.2.1.1 j9.2.2.2.2.2.2.2.1).bind fun r87 => (some (Sum.inl (j9.1, (r12.1.1.1, ()), ((⟨r86.2.1.1.1, r86.2.1.1.2.1, r86.2.1.2.1⟩ : ApiSessions), ()), (r87.2.1, ()), j9.2.2.2.2.1, j9.2.2.2.2.2.1, j9.2.2.2.2.2.2.1, (0 : Int), (0 : Int), ())))))
 else (some (Sum.inl (j9.1, (r12.1.1.1, ()), (j9.2.2.1.1, ()), (j9.2.2.2.1.1, ()), j9.2.2.2.2.1, j9.2.2.2.2.2.1, j9.2.2.2.2.2.2.1, (0 : Int), (0 : Int), ())))))))))
 else (bif (decide (r12.2.1 = (3 : Int))) then ((passkeycast_Deck_Next (r12.1.1.1, ()) (3 : Int)).bind fun r88 => ((passkeycast_Name r88.2.1).bind fun r89 => ((passkeycast_Deck_Next (r88.1.1.1, ()) (3 : Int)).bind fun r90 => ((passkeycast_Bytes r90.2.1 (4 : Int)).bind fun r91 => ((passkeycast_Deck_Next (r90.1.1.1, ()) (3 : Int)).bind fun r92 => (let v93 : List (Int) := ([(5 : Int), (50 : Int), (1 : Int), (0 : Int), (1099511627776 : Int), (1099511627777 : Int)] : List (Int))
 ((passkeycast_Deck_Next (r92.1.1.1, ()) (6 : Int)).bind fun r94 => (bif (decide ((0 : Int) ≤ r94.2.1) && decide (r94.2.1 < (6 : Int))) then (((v93)[(r94.2.1).toNat]?).bind fun x95 => ((session_Open j9.2.2.1.1 r89.2.1 r91.2.1 (BitVec.ofInt 64 r92.2.1) j9.2.2.2.2.2.2.2.1 x95).bind fun r96 => ((passkeyref29_OpenSession j9.2.2.2.1.1 r89.2.1 r91.2.1 (BitVec.ofInt 64 r92.2.1) j9.2.2.2.2.2.2.2.1 x95).bind fun r97 => (bif (!decide (r96.2.2.1 = r97.2.2.1)) then (((some (Sum.inr (Sum.inl (false, ()))))).bind fun q => some (Sum.inr q))
 else (bif small ((j9.2.2.2.2.1).length + (([r96.2.2.1] : List (List UInt8)) : List (List UInt8)).length) 24 then (let v98 : List (List UInt8) := (j9.2.2.2.2.1 ++ ([r96.2.2.1] : List (List UInt8)))
 (some (Sum.inl (j9.1, (r94.1.1.1, ()), (r96.2.1, ()), (r97.2.1, ()), v98, j9.2.2.2.2.2.1, j9.2.2.2.2.2.2.1, r96.2.2.2.1, r97.2.2.2.1, ()))))
 else none)))))
 else none))))))))
 else (bif (decide (r12.2.1 = (4 : Int))) then ((session_Check j9.2.2.1.1 x11 j9.2.2.2.2.2.2.2.1).bind fun r99 => ((passkeyref29_CheckSession j9.2.2.2.1.1 x11 j9.2.2.2.2.2.2.2.1).bind fun r100 => ((passkeyref29_SameSession r99.2.1 r100.2.1).bind fun r101 => (bif (!r101.2.1) then (((some (Sum.inr (Sum.inl (false, ()))))).bind fun q => some (Sum.inr q))
 else (some (Sum.inl (j9.1, (r12.1.1.1, ()), (j9.2.2.1.1, ()), (j9.2.2.2.1.1, ()), j9.2.2.2.2.1, j9.2.2.2.2.2.1, j9.2.2.2.2.2.2.1, r99.2.2.1, r100.2.2.1, ())))))))
 else (bif (decide (r12.2.1 = (5 : Int))) then ((session_Close j9.2.2.1.1 x11 j9.2.2.2.2.2.2.2.1).bind fun r102 => ((passkeyref29_CloseSession j9.2.2.2.1.1 x11 j9.2.2.2.2.2.2.2.1).bind fun r103 => (some (Sum.inl (j9.1, (r12.1.1.1, ()), (r102.2.1, ()), (r103.2.1, ()), j9.2.2.2.2.1, j9.2.2.2.2.2.1, j9.2.2.2.2.2.2.1, r102.2.2.1, r103.2.2.1, ())))))
 else (bif (decide (r12.2.1 = (6 : Int))) then ((passkeycast_Deck_Next (r12.1.1.1, ()) (3 : Int)).bind fun r104 => ((session_RevokeModel j9.2.2.1.1 (BitVec.ofInt 64 r104.2.1)).bind fun r105 => ((passkeyref29_RevokeModel j9.2.2.2.1.1 (BitVec.ofInt 64 r104.2.1)).bind fun r106 => (some (Sum.inl (j9.1, (r104.1.1.1, ()), (r105.2.1, ()), (r106.2.1, ()), j9.2.2.2.2.1, j9.2.2.2.2.2.1, j9.2.2.2.2.2.2.1, (0 : Int), (0 : Int), ()))))))
 else (bif (decide (r12.2.1 = (7 : Int))) then ((passkeycast_Deck_Next (r12.1.1.1, ()) (3 : Int)).bind fun r107 => ((passkeycast_Bytes r107.2.1 (4 : Int)).bind fun r108 => ((session_RevokeCredential j9.2.2.1.1 r108.2.1).bind fun r109 => ((passkeyref29_RevokeCredential j9.2.2.2.1.1 r108.2.1).bind fun r110 => (some (Sum.inl (j9.1, (r107.1.1.1, ()), (r109.2.1, ()), (r110.2.1, ()), j9.2.2.2.2.1, j9.2.2.2.2.2.1, j9.2.2.2.2.2.2.1, (0 : Int), (0 : Int), ())))))))
 else (bif (decide (r12.2.1 = (8 : Int))) then ((session_Expire j9.2.2.1.1 j9.2.2.2.2.2.2.2.1).bind fun r111 => ((passkeyref29_ExpireSessions j9.2.2.2.1.1 j9.2.2.2.2.2.2.2.1).bind fun r112 => (some (Sum.inl (j9.1, (r12.1.1.1, ()), ((⟨r111.2.1.1.1, r111.2.1.1.2.1, r111.2.1.2.1⟩ : ApiSessions), ()), (r112.2.1, ()), j9.2.2.2.2.1, j9.2.2.2.2.2.1, j9.2.2.2.2.2.2.1, (0 : Int), (0 : Int), ())))))
 else (some (Sum.inl (j9.1, (r12.1.1.1, ()), (j9.2.2.1.1, ()), (j9.2.2.2.1.1, ()), j9.2.2.2.2.1, j9.2.2.2.2.2.1, j9.2.2.2.2.2.2.1, (0 : Int), (0 : Int), ()))))))))))))).bind (Sum.elim (fun (j113 : (Int × (PasskeycastDeck × Unit) × (ApiSessions × Unit) × (ApiSessions × Unit) × (List (List UInt8)) × Int × Int × Int × Int × Unit)) => (bif (!decide (j113.2.2.2.2.2.2.2.1 = j113.2.2.2.2.2.2.2.2.1)) then (some (Sum.inr (Sum.inl (false, ()))))
 else ((passkeyref29_SameSessions j113.2.2.1.1 j113.2.2.2.1.1).bind fun r114 => (bif (!r114.2.1) then (some (Sum.inr (Sum.inl (false, ()))))
 else (some (Sum.inl (j113.1, (j113.2.1.1, ()), (j113.2.2.1.1, ()), (j113.2.2.2.1.1, ()), j113.2.2.2.2.1, j113.2.2.2.2.2.1, (IntKind.wrap .i64 (j113.2.2.2.2.2.2.1 + (1 : Int))), ()))))))) some)))
 else none)))))
 else none))
 else (some (Sum.inr (Sum.inr ())))))
 else (some (Sum.inr (Sum.inr ()))))

def passkeylaw34_SessionPlays_L0 (y : (Int × (PasskeycastDeck × Unit) × (ApiSessions × Unit) × (ApiSessions × Unit) × (List (List UInt8)) × Int × Int × Unit)) : Option ((Bool × Unit) ⊕ (Unit)) := iter (fun (y : (Int × (PasskeycastDeck × Unit) × (ApiSessions × Unit) × (ApiSessions × Unit) × (List (List UInt8)) × Int × Int × Unit)) => passkeylaw34_SessionPlays_L0b y.1 y.2.1 y.2.2.1 y.2.2.2.1 y.2.2.2.2.1 y.2.2.2.2.2.1 y.2.2.2.2.2.2.1) rounds y

def passkeylaw34_SessionPlays (a0 : (BitVec 64)) (a1 : (List (Int))) (a2 : (List (UInt8))) (a3 : Int) : Option ((Unit) × (Bool × Unit)) :=
 (bif (decide ((100 : Int) < ((a2).length : Int))) then ((passkeylaw34_awake).bind fun r1 => (some ((), (r1.2.1, ()))))
 else ((passkeycast_New a1).bind fun r2 => ((session_New a0).bind fun r3 => ((passkeyref29_NewSessions a0).bind fun r4 => ((passkeylaw34_SessionPlays_L0 (a3, (r2.2.1, ()), (r3.2.1, ()), (r4.2.1, ()), ([a2] : List (List UInt8)), (0 : Int), (0 : Int), ())).bind (Sum.elim (fun (z115 : (Bool × Unit)) => (some ((), (z115.1, ())))) (fun (z116 : (Unit)) => ((passkeylaw34_awake).bind fun r117 => (some ((), (r117.2.1, ())))))))))))

def S_passkeylaw34_SessionPlays : FSpec T := ⟨[.f (.v .u64), .f (.v (.rs 7)), .f (.v (.rs 0)), .f (.v (.int .i64))], [(.v .bool)], fun x => passkeylaw34_SessionPlays x.1 x.2.1 x.2.2.1 x.2.2.2.1⟩

def E_passkeylaw34_SessionPlays : Env T := ⟨tab.find, cd, globs, flc, fun f ds => match f with
    | 7 => some S_passkeylaw34_awake
    | 10 => some S_session_New
    | 11 => some S_session_Open
    | 12 => some S_session_Check
    | 13 => some S_passkeycast_New
    | 14 => some S_passkeyref29_NewSessions
    | 15 => some S_passkeycast_Deck_Left
    | 16 => some S_passkeycast_Deck_Next
    | 17 => some S_passkeycast_Name
    | 18 => some S_passkeycast_Bytes
    | 19 => some S_passkeyref29_OpenSession
    | 20 => some S_passkeyref29_CheckSession
    | 21 => some S_passkeyref29_SameSession
    | 22 => some S_session_Close
    | 23 => some S_passkeyref29_CloseSession
    | 24 => some S_session_RevokeModel
    | 25 => some S_passkeyref29_RevokeModel
    | 26 => some S_session_RevokeCredential
    | 27 => some S_passkeyref29_RevokeCredential
    | 28 => some S_session_Expire
    | 29 => some S_passkeyref29_ExpireSessions
    | 30 => some S_passkeyref29_SameSessions
    | _ => none, fun f => match f with
    | 7 => true
    | 15 => true
    | 17 => true
    | 21 => true
    | 30 => true
    | _ => false⟩

def A_passkeylaw34_SessionPlays : Loc2 T := ⟨fun id => match id with
    | 0 => some ⟨[(3, .f (.v (.int .i64))), (9, .ptr [(.v (.agg 8))]), (10, .ptr [(.v (.agg 2))]), (11, .ptr [(.v (.agg 2))]), (12, .f (.own 6)), (13, .f (.v (.int .i64))), (14, .f (.v (.int .i64)))], [(.ret, [(8, .f (.v .bool))]), (.exit 0, [])], passkeylaw34_SessionPlays_L0⟩
    | _ => none, fun r => match r with
    | 14 => some ([(3, .f (.v (.int .i64))), (9, .ptr [(.v (.agg 8))]), (10, .ptr [(.v (.agg 2))]), (11, .ptr [(.v (.agg 2))]), (12, .f (.own 6)), (13, .f (.v (.int .i64))), (14, .f (.v (.int .i64))), (15, .f (.v (.int .i64)))], true)
    | 47 => some ([(3, .f (.v (.int .i64))), (9, .ptr [(.v (.agg 8))]), (10, .ptr [(.v (.agg 2))]), (11, .ptr [(.v (.agg 2))]), (12, .f (.own 6)), (13, .f (.v (.int .i64))), (14, .f (.v (.int .i64))), (17, .f (.v (.int .i64))), (18, .f (.v (.int .i64)))], false)
    | _ => none, fun r => match r with
    | 41 => true
    | 44 => true
    | 46 => true
    | _ => false⟩

theorem passkeylaw34_SessionPlays_L0_eq (y0 : Int) (y1 : (PasskeycastDeck × Unit)) (y2 : (ApiSessions × Unit)) (y3 : (ApiSessions × Unit)) (y4 : (List (List UInt8))) (y5 : Int) (y6 : Int) : run E_passkeylaw34_SessionPlays A_passkeylaw34_SessionPlays (loopAt 0 (Try.f5.body.getD .skip)) (lay cd [(3, .f (.v (.int .i64))), (9, .ptr [(.v (.agg 8))]), (10, .ptr [(.v (.agg 2))]), (11, .ptr [(.v (.agg 2))]), (12, .f (.own 6)), (13, .f (.v (.int .i64))), (14, .f (.v (.int .i64)))] (y0, y1, y2, y3, y4, y5, y6, ())) (roundK cd [(3, .f (.v (.int .i64))), (9, .ptr [(.v (.agg 8))]), (10, .ptr [(.v (.agg 2))]), (11, .ptr [(.v (.agg 2))]), (12, .f (.own 6)), (13, .f (.v (.int .i64))), (14, .f (.v (.int .i64)))] [(.ret, [(8, .f (.v .bool))]), (.exit 0, [])]) = passkeylaw34_SessionPlays_L0b y0 y1 y2 y3 y4 y5 y6 := by kernel_rfl

theorem passkeylaw34_SessionPlays_eq (x : tySs T S_passkeylaw34_SessionPlays.ps) : run E_passkeylaw34_SessionPlays A_passkeylaw34_SessionPlays (Try.f5.body.getD .skip) (enterT E_passkeylaw34_SessionPlays.C S_passkeylaw34_SessionPlays.ps x) (retK E_passkeylaw34_SessionPlays Try.f5.results.toList S_passkeylaw34_SessionPlays.ps S_passkeylaw34_SessionPlays.rs) = S_passkeylaw34_SessionPlays.fn x := by kernel_rfl

theorem passkeylaw34_SessionPlays_env : EnvOk Try.prog E_passkeylaw34_SessionPlays := envOk (E := E_passkeylaw34_SessionPlays) cd_ok tys fl_ok fun f ds S h => by
    dsimp only [E_passkeylaw34_SessionPlays] at h
    split at h
    · cases h; exact passkeylaw34_awake_ok
    · cases h; exact session_New_ok
    · cases h; exact session_Open_ok
    · cases h; exact session_Check_ok
    · cases h; exact passkeycast_New_ok
    · cases h; exact passkeyref29_NewSessions_ok
    · cases h; exact passkeycast_Deck_Left_ok
    · cases h; exact passkeycast_Deck_Next_ok
    · cases h; exact passkeycast_Name_ok
    · cases h; exact passkeycast_Bytes_ok
    · cases h; exact passkeyref29_OpenSession_ok
    · cases h; exact passkeyref29_CheckSession_ok
    · cases h; exact passkeyref29_SameSession_ok
    · cases h; exact session_Close_ok
    · cases h; exact passkeyref29_CloseSession_ok
    · cases h; exact session_RevokeModel_ok
    · cases h; exact passkeyref29_RevokeModel_ok
    · cases h; exact session_RevokeCredential_ok
    · cases h; exact passkeyref29_RevokeCredential_ok
    · cases h; exact session_Expire_ok
    · cases h; exact passkeyref29_ExpireSessions_ok
    · cases h; exact passkeyref29_SameSessions_ok
    · cases h

theorem passkeylaw34_SessionPlays_L0_ok : LoopOk Try.prog E_passkeylaw34_SessionPlays Try.f5.ntmps (kqOf S_passkeylaw34_SessionPlays.ps 0) (loopAt 0 (Try.f5.body.getD .skip)) ⟨[(3, .f (.v (.int .i64))), (9, .ptr [(.v (.agg 8))]), (10, .ptr [(.v (.agg 2))]), (11, .ptr [(.v (.agg 2))]), (12, .f (.own 6)), (13, .f (.v (.int .i64))), (14, .f (.v (.int .i64)))], [(.ret, [(8, .f (.v .bool))]), (.exit 0, [])], passkeylaw34_SessionPlays_L0⟩ :=
  loop_ok (A := A_passkeylaw34_SessionPlays) (done := []) (c0 := (Try.f5.body.getD .skip)) hmix passkeylaw34_SessionPlays_env done_nil rounds (by kernel_rfl) (by kernel_rfl) (fun x => passkeylaw34_SessionPlays_L0_eq x.1 x.2.1 x.2.2.1 x.2.2.2.1 x.2.2.2.2.1 x.2.2.2.2.2.1 x.2.2.2.2.2.2.1) (fun _ => rfl)

theorem passkeylaw34_SessionPlays_ok : SoundT Try.prog cd gdn 5 S_passkeylaw34_SessionPlays :=
  sound_fn (E := E_passkeylaw34_SessionPlays) (A := A_passkeylaw34_SessionPlays) (done := [0]) (c := (Try.f5.body.getD .skip)) (S := S_passkeylaw34_SessionPlays) (fn := Try.f5) hmix passkeylaw34_SessionPlays_env Try.func5 rfl (by kernel_rfl) (by kernel_rfl) (done_cons rfl passkeylaw34_SessionPlays_L0_ok done_nil) (by kernel_rfl) (by kernel_rfl) passkeylaw34_SessionPlays_eq

def passkeylaw34_SessionGone_L2b (y0 : (List (UInt8))) (y1 : UInt8) (y2 : UInt8) (y3 : (ApiSessions × Unit)) (y4 : (List (List UInt8))) (y5 : Int) (y6 : (ApiSessions × Unit)) (y7 : (List (UInt8))) (y8 : Int) : Option (((List (UInt8)) × UInt8 × UInt8 × (ApiSessions × Unit) × (List (List UInt8)) × Int × (ApiSessions × Unit) × (List (UInt8)) × Int × Unit) ⊕ ((Bool × Unit) ⊕ ((List (UInt8)) × UInt8 × UInt8 × (ApiSessions × Unit) × (List (List UInt8)) × Int × (ApiSessions × Unit) × (List (UInt8)) × Unit))) :=
 (bif (decide (y8 < ((y4).length : Int))) then (bif (decide ((0 : Int) ≤ y8) && decide (y8 < ((y4).length : Int))) then (((y4)[(y8).toNat]?).bind fun x7 => (bif (decide (x7 = y7)) then (some (Sum.inr (Sum.inl (false, ()))))
 else (some (Sum.inl (y0, y1, y2, (y3.1, ()), y4, y5, (y6.1, ()), y7, (IntKind.wrap .i64 (y8 + (1 : Int))), ())))))
 else none)
 else (some (Sum.inr (Sum.inr (y0, y1, y2, (y3.1, ()), y4, y5, (y6.1, ()), y7, ())))))

def passkeylaw34_SessionGone_L2 (y : ((List (UInt8)) × UInt8 × UInt8 × (ApiSessions × Unit) × (List (List UInt8)) × Int × (ApiSessions × Unit) × (List (UInt8)) × Int × Unit)) : Option ((Bool × Unit) ⊕ ((List (UInt8)) × UInt8 × UInt8 × (ApiSessions × Unit) × (List (List UInt8)) × Int × (ApiSessions × Unit) × (List (UInt8)) × Unit)) := iter (fun (y : ((List (UInt8)) × UInt8 × UInt8 × (ApiSessions × Unit) × (List (List UInt8)) × Int × (ApiSessions × Unit) × (List (UInt8)) × Int × Unit)) => passkeylaw34_SessionGone_L2b y.1 y.2.1 y.2.2.1 y.2.2.2.1 y.2.2.2.2.1 y.2.2.2.2.2.1 y.2.2.2.2.2.2.1 y.2.2.2.2.2.2.2.1 y.2.2.2.2.2.2.2.2.1) rounds y

def passkeylaw34_SessionGone_L0b (y0 : (List (UInt8))) (y1 : UInt8) (y2 : UInt8) (y3 : (ApiSessions × Unit)) (y4 : (List (List UInt8))) (y5 : Int) : Option (((List (UInt8)) × UInt8 × UInt8 × (ApiSessions × Unit) × (List (List UInt8)) × Int × Unit) ⊕ ((Bool × Unit) ⊕ ((List (UInt8)) × UInt8 × UInt8 × (ApiSessions × Unit) × (List (List UInt8)) × Unit))) :=
 (bif (decide (y5 < ((y0).length : Int))) then (bif (decide (y5 < (20 : Int))) then ((getI y0 y5).bind fun x2 => (bif decide ((4 : UInt8).toBitVec = 0) then none
 else (let v3 : List (UInt8) := ([(UInt8.ofBitVec (x2.toBitVec % (4 : UInt8).toBitVec))] : List (UInt8))
 ((getI y0 y5).bind fun x4 => (bif decide ((3 : UInt8).toBitVec = 0) then none
 else (let v5 : BitVec 64 := (BitVec.setWidth 64 (UInt8.ofBitVec (x4.toBitVec % (3 : UInt8).toBitVec)).toBitVec)
 ((session_Open y3.1 ([97] : List UInt8) v3 (v5 + 1#64) (0 : Int) (100 : Int)).bind fun r6 => (bif (!decide (r6.2.2.2.1 = (0 : Int))) then (some (Sum.inr (Sum.inl (false, ()))))
 else ((passkeylaw34_SessionGone_L2 (y0, y1, y2, (y3.1, ()), y4, y5, (r6.2.1, ()), r6.2.2.1, (0 : Int), ())).bind (Sum.elim (fun (z7 : (Bool × Unit)) => (some (Sum.inr (Sum.inl (z7.1, ()))))) (fun (z8 : ((List (UInt8)) × UInt8 × UInt8 × (ApiSessions × Unit) × (List (List UInt8)) × Int × (ApiSessions × Unit) × (List (UInt8)) × Unit)) => (bif small ((z8.2.2.2.2.1).length + (([z8.2.2.2.2.2.2.2.1] : List (List UInt8)) : List (List UInt8)).length) 24 then (let v9 : List (List UInt8) := (z8.2.2.2.2.1 ++ ([z8.2.2.2.2.2.2.2.1] : List (List UInt8)))
 (some (Sum.inl (z8.1, z8.2.1, z8.2.2.1, (z8.2.2.2.2.2.2.1.1, ()), v9, (IntKind.wrap .i64 (z8.2.2.2.2.2.1 + (1 : Int))), ()))))
 else none))))))))))))
 else (some (Sum.inr (Sum.inr (y0, y1, y2, (y3.1, ()), y4, ())))))
 else (some (Sum.inr (Sum.inr (y0, y1, y2, (y3.1, ()), y4, ())))))

def passkeylaw34_SessionGone_L0 (y : ((List (UInt8)) × UInt8 × UInt8 × (ApiSessions × Unit) × (List (List UInt8)) × Int × Unit)) : Option ((Bool × Unit) ⊕ ((List (UInt8)) × UInt8 × UInt8 × (ApiSessions × Unit) × (List (List UInt8)) × Unit)) := iter (fun (y : ((List (UInt8)) × UInt8 × UInt8 × (ApiSessions × Unit) × (List (List UInt8)) × Int × Unit)) => passkeylaw34_SessionGone_L0b y.1 y.2.1 y.2.2.1 y.2.2.2.1 y.2.2.2.2.1 y.2.2.2.2.2.1) rounds y

def passkeylaw34_SessionGone_L5b (y0 : (List (UInt8))) (y1 : UInt8) (y2 : UInt8) (y3 : (ApiSessions × Unit)) (y4 : (List (List UInt8))) (y5 : (List (Bool))) (y6 : Int) (y7 : Int) : Option (((List (UInt8)) × UInt8 × UInt8 × (ApiSessions × Unit) × (List (List UInt8)) × (List (Bool)) × Int × Int × Unit) ⊕ (UInt8 × (ApiSessions × Unit) × (List (List UInt8)) × (List (Bool)) × Unit)) :=
 (bif (decide (y7 < ((y4).length : Int))) then (bif (decide ((UInt8.ofBitVec (y1.toBitVec &&& (3 : UInt8).toBitVec)).toBitVec = (0 : UInt8).toBitVec)) then ((getI y0 y7).bind fun x23 => (bif decide ((3 : UInt8).toBitVec = 0) then none
 else (let v24 : Int := ((UInt8.ofBitVec (x23.toBitVec % (3 : UInt8).toBitVec)).toBitVec.toNat : Int)
 (bif (decide (v24 = (Int.tmod y6 (3 : Int)))) then (bif (decide ((0 : Int) ≤ y7) && decide (y7 < ((y5).length : Int))) then (((y5)[(y7).toNat]?).bind fun x25 => (some (Sum.inl (y0, y1, y2, (y3.1, ()), y4, (List.set y5 (y7).toNat true), y6, (IntKind.wrap .i64 (y7 + (1 : Int))), ()))))
 else none)
 else (bif (decide ((UInt8.ofBitVec (y1.toBitVec &&& (3 : UInt8).toBitVec)).toBitVec = (1 : UInt8).toBitVec)) then ((getI y0 y7).bind fun x26 => (bif decide ((4 : UInt8).toBitVec = 0) then none
 else (let v27 : Int := ((UInt8.ofBitVec (x26.toBitVec % (4 : UInt8).toBitVec)).toBitVec.toNat : Int)
 (bif (decide (v27 = (Int.tmod y6 (4 : Int)))) then (bif (decide ((0 : Int) ≤ y7) && decide (y7 < ((y5).length : Int))) then (((y5)[(y7).toNat]?).bind fun x28 => (some (Sum.inl (y0, y1, y2, (y3.1, ()), y4, (List.set y5 (y7).toNat true), y6, (IntKind.wrap .i64 (y7 + (1 : Int))), ()))))
 else none)
 else (bif (decide ((UInt8.ofBitVec (y1.toBitVec &&& (3 : UInt8).toBitVec)).toBitVec = (2 : UInt8).toBitVec)) then (bif decide (((y4).length : Int) = 0) then none
 else (bif (decide ((0 : Int) ≤ y7) && decide (y7 < ((y5).length : Int))) then (((y5)[(y7).toNat]?).bind fun x29 => (let v30 : List (Bool) := (List.set y5 (y7).toNat (decide (y7 = (Int.tmod y6 ((y4).length : Int)))))
 (some (Sum.inl (y0, y1, y2, (y3.1, ()), y4, v30, y6, (IntKind.wrap .i64 (y7 + (1 : Int))), ())))))
 else none))
 else (bif (decide ((0 : Int) ≤ y7) && decide (y7 < ((y5).length : Int))) then (((y5)[(y7).toNat]?).bind fun x31 => (some (Sum.inl (y0, y1, y2, (y3.1, ()), y4, (List.set y5 (y7).toNat false), y6, (IntKind.wrap .i64 (y7 + (1 : Int))), ()))))
 else none))))))
 else (bif (decide ((UInt8.ofBitVec (y1.toBitVec &&& (3 : UInt8).toBitVec)).toBitVec = (2 : UInt8).toBitVec)) then (bif decide (((y4).length : Int) = 0) then none
 else (bif (decide ((0 : Int) ≤ y7) && decide (y7 < ((y5).length : Int))) then (((y5)[(y7).toNat]?).bind fun x32 => (let v33 : List (Bool) := (List.set y5 (y7).toNat (decide (y7 = (Int.tmod y6 ((y4).length : Int)))))
 (some (Sum.inl (y0, y1, y2, (y3.1, ()), y4, v33, y6, (IntKind.wrap .i64 (y7 + (1 : Int))), ())))))
 else none))
 else (bif (decide ((0 : Int) ≤ y7) && decide (y7 < ((y5).length : Int))) then (((y5)[(y7).toNat]?).bind fun x34 => (some (Sum.inl (y0, y1, y2, (y3.1, ()), y4, (List.set y5 (y7).toNat false), y6, (IntKind.wrap .i64 (y7 + (1 : Int))), ()))))
 else none)))))))
 else (bif (decide ((UInt8.ofBitVec (y1.toBitVec &&& (3 : UInt8).toBitVec)).toBitVec = (1 : UInt8).toBitVec)) then ((getI y0 y7).bind fun x35 => (bif decide ((4 : UInt8).toBitVec = 0) then none
 else (let v36 : Int := ((UInt8.ofBitVec (x35.toBitVec % (4 : UInt8).toBitVec)).toBitVec.toNat : Int)
 (bif (decide (v36 = (Int.tmod y6 (4 : Int)))) then (bif (decide ((0 : Int) ≤ y7) && decide (y7 < ((y5).length : Int))) then (((y5)[(y7).toNat]?).bind fun x37 => (some (Sum.inl (y0, y1, y2, (y3.1, ()), y4, (List.set y5 (y7).toNat true), y6, (IntKind.wrap .i64 (y7 + (1 : Int))), ()))))
 else none)
 else (bif (decide ((UInt8.ofBitVec (y1.toBitVec &&& (3 : UInt8).toBitVec)).toBitVec = (2 : UInt8).toBitVec)) then (bif decide (((y4).length : Int) = 0) then none
 else (bif (decide ((0 : Int) ≤ y7) && decide (y7 < ((y5).length : Int))) then (((y5)[(y7).toNat]?).bind fun x38 => (let v39 : List (Bool) := (List.set y5 (y7).toNat (decide (y7 = (Int.tmod y6 ((y4).length : Int)))))
 (some (Sum.inl (y0, y1, y2, (y3.1, ()), y4, v39, y6, (IntKind.wrap .i64 (y7 + (1 : Int))), ())))))
 else none))
 else (bif (decide ((0 : Int) ≤ y7) && decide (y7 < ((y5).length : Int))) then (((y5)[(y7).toNat]?).bind fun x40 => (some (Sum.inl (y0, y1, y2, (y3.1, ()), y4, (List.set y5 (y7).toNat false), y6, (IntKind.wrap .i64 (y7 + (1 : Int))), ()))))
 else none))))))
 else (bif (decide ((UInt8.ofBitVec (y1.toBitVec &&& (3 : UInt8).toBitVec)).toBitVec = (2 : UInt8).toBitVec)) then (bif decide (((y4).length : Int) = 0) then none
 else (bif (decide ((0 : Int) ≤ y7) && decide (y7 < ((y5).length : Int))) then (((y5)[(y7).toNat]?).bind fun x41 => (let v42 : List (Bool) := (List.set y5 (y7).toNat (decide (y7 = (Int.tmod y6 ((y4).length : Int)))))
 (some (Sum.inl (y0, y1, y2, (y3.1, ()), y4, v42, y6, (IntKind.wrap .i64 (y7 + (1 : Int))), ())))))
 else none))
 else (bif (decide ((0 : Int) ≤ y7) && decide (y7 < ((y5).length : Int))) then (((y5)[(y7).toNat]?).bind fun x43 => (some (Sum.inl (y0, y1, y2, (y3.1, ()), y4, (List.set y5 (y7).toNat false), y6, (IntKind.wrap .i64 (y7 + (1 : Int))), ()))))
 else none))))
 else (some (Sum.inr (y2, (y3.1, ()), y4, y5, ()))))

def passkeylaw34_SessionGone_L5 (y : ((List (UInt8)) × UInt8 × UInt8 × (ApiSessions × Unit) × (List (List UInt8)) × (List (Bool)) × Int × Int × Unit)) : Option (UInt8 × (ApiSessions × Unit) × (List (List UInt8)) × (List (Bool)) × Unit) := iter (fun (y : ((List (UInt8)) × UInt8 × UInt8 × (ApiSessions × Unit) × (List (List UInt8)) × (List (Bool)) × Int × Int × Unit)) => passkeylaw34_SessionGone_L5b y.1 y.2.1 y.2.2.1 y.2.2.2.1 y.2.2.2.2.1 y.2.2.2.2.2.1 y.2.2.2.2.2.2.1 y.2.2.2.2.2.2.2.1) rounds y

def passkeylaw34_SessionGone_L7b (y0 : UInt8) (y1 : (ApiSessions × Unit)) (y2 : (List (List UInt8))) (y3 : (List (Bool))) (y4 : Int) : Option ((UInt8 × (ApiSessions × Unit) × (List (List UInt8)) × (List (Bool)) × Int × Unit) ⊕ ((Bool × Unit) ⊕ ((ApiSessions × Unit) × (List (List UInt8)) × (List (Bool)) × Unit))) :=
 (bif decide ((8 : UInt8).toBitVec = 0) then none
 else (let v45 : Int := ((UInt8.ofBitVec (y0.toBitVec % (8 : UInt8).toBitVec)).toBitVec.toNat : Int)
 (bif (decide (y4 < v45)) then ((session_Open y1.1 ([97] : List UInt8) ([(UInt8.ofBitVec (BitVec.ofInt 8 y4))] : List (UInt8)) (2#64) (60 : Int) (10 : Int)).bind fun r46 => (bif (!decide (r46.2.2.2.1 = (0 : Int))) then (some (Sum.inr (Sum.inl (false, ()))))
 else (some (Sum.inl (y0, (r46.2.1, ()), y2, y3, (IntKind.wrap .i64 (y4 + (1 : Int))), ())))))
 else (some (Sum.inr (Sum.inr ((y1.1, ()), y2, y3, ())))))))

def passkeylaw34_SessionGone_L7 (y : (UInt8 × (ApiSessions × Unit) × (List (List UInt8)) × (List (Bool)) × Int × Unit)) : Option ((Bool × Unit) ⊕ ((ApiSessions × Unit) × (List (List UInt8)) × (List (Bool)) × Unit)) := iter (fun (y : (UInt8 × (ApiSessions × Unit) × (List (List UInt8)) × (List (Bool)) × Int × Unit)) => passkeylaw34_SessionGone_L7b y.1 y.2.1 y.2.2.1 y.2.2.2.1 y.2.2.2.2.1) rounds y

def passkeylaw34_SessionGone_L9b (y0 : (ApiSessions × Unit)) (y1 : (List (List UInt8))) (y2 : (List (Bool))) (y3 : Int) : Option (((ApiSessions × Unit) × (List (List UInt8)) × (List (Bool)) × Int × Unit) ⊕ ((Bool × Unit) ⊕ (Unit))) :=
 (bif (decide (y3 < ((y1).length : Int))) then (bif (decide ((0 : Int) ≤ y3) && decide (y3 < ((y1).length : Int))) then (((y1)[(y3).toNat]?).bind fun x49 => ((session_Check y0.1 x49 (65 : Int)).bind fun r50 => (bif (decide ((0 : Int) ≤ y3) && decide (y3 < ((y2).length : Int))) then (((y2)[(y3).toNat]?).bind fun x51 => (bif ((decide (r50.2.2.1 = (0 : Int))) == x51) then (some (Sum.inr (Sum.inl (false, ()))))
 else (some (Sum.inl ((y0.1, ()), y1, y2, (IntKind.wrap .i64 (y3 + (1 : Int))), ())))))
 else none)))
 else none)
 else (some (Sum.inr (Sum.inr ()))))

def passkeylaw34_SessionGone_L9 (y : ((ApiSessions × Unit) × (List (List UInt8)) × (List (Bool)) × Int × Unit)) : Option ((Bool × Unit) ⊕ (Unit)) := iter (fun (y : ((ApiSessions × Unit) × (List (List UInt8)) × (List (Bool)) × Int × Unit)) => passkeylaw34_SessionGone_L9b y.1 y.2.1 y.2.2.1 y.2.2.2.1) rounds y

def passkeylaw34_SessionGone (a0 : (BitVec 64)) (a1 : (List (UInt8))) (a2 : UInt8) (a3 : UInt8) : Option ((Unit) × (Bool × Unit)) :=
 ((session_New a0).bind fun r1 => ((passkeylaw34_SessionGone_L0 (a1, a2, a3, (r1.2.1, ()), [], (0 : Int), ())).bind (Sum.elim (fun (z10 : (Bool × Unit)) => (some ((), (z10.1, ())))) (fun (z11 : ((List (UInt8)) × UInt8 × UInt8 × (ApiSessions × Unit) × (List (List UInt8)) × Unit)) => (bif (decide ((0 : Int) ≤ ((z11.2.2.2.2.1).length : Int)) && (decide (((z11.2.2.2.2.1).length : Int) ≤ ((z11.2.2.2.2.1).length : Int)) && decide ((1 : Int) * ((z11.2.2.2.2.1).length : Int) ≤ 281474976710656 ∧ ((z11.2.2.2.2.1).length : Int) ≤ 9223372036854775807))) then (let v12 : List (Bool) := (List.replicate (((z11.2.2.2.2.1).length : Int)).toNat false)
 (let v13 : Int := ((UInt8.ofBitVec (z11.2.1.toBitVec >>> 2)).toBitVec.toNat : Int)
 ((let v14 : Bool := (decide ((UInt8.ofBitVec (z11.2.1.toBitVec &&& (3 : UInt8).toBitVec)).toBitVec = (0 : UInt8).toBitVec))
 (bif v14 then ((session_RevokeModel z11.2.2.2.1.1 ((BitVec.ofInt 64 (Int.tmod v13 (3 : Int))) + 1#64)).bind fun r15 => (some (z11.1, z11.2.1, z11.2.2.1, (r15.2.1, ()), z11.2.2.2.2.1, v12, v13, ())))
 else (let v16 : Bool := (decide ((UInt8.ofBitVec (z11.2.1.toBitVec &&& (3 : UInt8).toBitVec)).toBitVec = (1 : UInt8).toBitVec))
 (bif v16 then (let v17 : List (UInt8) := ([(UInt8.ofBitVec (BitVec.ofInt 8 (Int.tmod v13 (4 : Int))))] : List (UInt8))
 ((session_RevokeCredential z11.2.2.2.1.1 v17).bind fun r18 => (some (z11.1, z11.2.1, z11.2.2.1, (r18.2.1, ()), z11.2.2.2.2.1, v12, v13, ()))))
 else (let v19 : Bool := (decide ((UInt8.ofBitVec (z11.2.1.toBitVec &&& (3 : UInt8).toBitVec)).toBitVec = (2 : UInt8).toBitVec))
 (bif v19 then (bif (decide ((0 : Int) < ((z11.2.2.2.2.1).length : Int))) then (bif decide (((z11.2.2.2.2.1).length : Int) = 0) then none
 else (bif (decide ((0 : Int) ≤ (Int.tmod v13 ((z11.2.2.2.2.1).length : Int))) && decide ((Int.tmod v13 ((z11.2.2.2.2.1).length : Int)) < ((z11.2.2.2.2.1).length : Int))) then (((z11.2.2.2.2.1)[((Int.tmod v13 ((z11.2.2.2.2.1).length : Int))).toNat]?).bind fun x20 => ((session_Close z11.2.2.2.1.1 x20 (50 : Int)).bind fun r21 => (some (z11.1, z11.2.1, z11.2.2.1, (r21.2.1, ()), z11.2.2.2.2.1, v12, v13, ()))))
 else none))
 else (some (z11.1, z11.2.1, z11.2.2.1, (z11.2.2.2.1.1, ()), z11.2.2.2.2.1, v12, v13, ())))
 else (some (z11.1, z11.2.1, z11.2.2.1, (z11.2.2.2.1.1, ()), z11.2.2.2.2.1, v12, v13, ())))))))).bind (fun (j22 : ((List (UInt8)) × UInt8 × UInt8 × (ApiSessions × Unit) × (List (List UInt8)) × (List (Bool)) × Int × Unit)) => ((passkeylaw34_SessionGone_L5 (j22.1, j22.2.1, j22.2.2.1, (j22.2.2.2.1.1, ()), j22.2.2.2.2.1, j22.2.2.2.2.2.1, j22.2.2.2.2.2.2.1, (0 : Int), ())).bind (fun (z44 : (UInt8 × (ApiSessions × Unit) × (List (List UInt8)) × (List (Bool)) × Unit)) => ((passkeylaw34_SessionGone_L7 (z44.1, (z44.2.1.1, ()), z44.2.2.1, z44.2.2.2.1, (0 : Int), ())).bind (Sum.elim (fun (z47 : (Bool × Unit)) => (some ((), (z47.1, ())))) (fun (z48 : ((ApiSessions × Unit) × (List (List UInt8)) × (List (Bool)) × Unit)) => ((passkeylaw34_SessionGone_L9 ((z48.1.1, ()), z48.2.1, z48.2.2.1, (0 : Int), ())).bind (Sum.elim (fun (z52 : (Bool × Unit)) => (some ((), (z52.1, ())))) (fun (z53 : (Unit)) => ((passkeylaw34_awake).bind fun r54 => (some ((), (r54.2.1, ()))))))))))))))))
 else none)))))

def S_passkeylaw34_SessionGone : FSpec T := ⟨[.f (.v .u64), .f (.v (.rs 0)), .f (.v .u8), .f (.v .u8)], [(.v .bool)], fun x => passkeylaw34_SessionGone x.1 x.2.1 x.2.2.1 x.2.2.2.1⟩

def E_passkeylaw34_SessionGone : Env T := ⟨tab.find, cd, globs, flc, fun f ds => match f with
    | 7 => some S_passkeylaw34_awake
    | 10 => some S_session_New
    | 11 => some S_session_Open
    | 12 => some S_session_Check
    | 22 => some S_session_Close
    | 24 => some S_session_RevokeModel
    | 26 => some S_session_RevokeCredential
    | _ => none, fun f => match f with
    | 7 => true
    | _ => false⟩

def A_passkeylaw34_SessionGone : Loc2 T := ⟨fun id => match id with
    | 2 => some ⟨[(1, .f (.v (.rs 0))), (2, .f (.v .u8)), (3, .f (.v .u8)), (9, .ptr [(.v (.agg 2))]), (10, .f (.own 6)), (11, .f (.v (.int .i64))), (12, .ptr [(.v (.agg 2))]), (13, .f (.own 0)), (15, .f (.v (.int .i64)))], [(.ret, [(8, .f (.v .bool))]), (.exit 2, [(1, .f (.v (.rs 0))), (2, .f (.v .u8)), (3, .f (.v .u8)), (9, .ptr [(.v (.agg 2))]), (10, .f (.own 6)), (11, .f (.v (.int .i64))), (12, .ptr [(.v (.agg 2))]), (13, .f (.own 0))])], passkeylaw34_SessionGone_L2⟩
    | 0 => some ⟨[(1, .f (.v (.rs 0))), (2, .f (.v .u8)), (3, .f (.v .u8)), (9, .ptr [(.v (.agg 2))]), (10, .f (.own 6)), (11, .f (.v (.int .i64)))], [(.ret, [(8, .f (.v .bool))]), (.exit 0, [(1, .f (.v (.rs 0))), (2, .f (.v .u8)), (3, .f (.v .u8)), (9, .ptr [(.v (.agg 2))]), (10, .f (.own 6))])], passkeylaw34_SessionGone_L0⟩
    | 5 => some ⟨[(1, .f (.v (.rs 0))), (2, .f (.v .u8)), (3, .f (.v .u8)), (9, .ptr [(.v (.agg 2))]), (10, .f (.own 6)), (16, .f (.own 10)), (17, .f (.v (.int .i64))), (18, .f (.v (.int .i64)))], [(.exit 5, [(3, .f (.v .u8)), (9, .ptr [(.v (.agg 2))]), (10, .f (.own 6)), (16, .f (.own 10))])], passkeylaw34_SessionGone_L5⟩
    | 7 => some ⟨[(3, .f (.v .u8)), (9, .ptr [(.v (.agg 2))]), (10, .f (.own 6)), (16, .f (.own 10)), (19, .f (.v (.int .i64)))], [(.ret, [(8, .f (.v .bool))]), (.exit 7, [(9, .ptr [(.v (.agg 2))]), (10, .f (.own 6)), (16, .f (.own 10))])], passkeylaw34_SessionGone_L7⟩
    | 9 => some ⟨[(9, .ptr [(.v (.agg 2))]), (10, .f (.own 6)), (16, .f (.own 10)), (23, .f (.v (.int .i64)))], [(.ret, [(8, .f (.v .bool))]), (.exit 9, [])], passkeylaw34_SessionGone_L9⟩
    | _ => none, fun r => match r with
    | 25 => some ([(1, .f (.v (.rs 0))), (2, .f (.v .u8)), (3, .f (.v .u8)), (9, .ptr [(.v (.agg 2))]), (10, .f (.own 6)), (16, .f (.own 10)), (17, .f (.v (.int .i64)))], true)
    | _ => none, fun r => match r with
    | 6 => true
    | 14 => true
    | 39 => true
    | _ => false⟩

theorem passkeylaw34_SessionGone_L2_eq (y0 : (List (UInt8))) (y1 : UInt8) (y2 : UInt8) (y3 : (ApiSessions × Unit)) (y4 : (List (List UInt8))) (y5 : Int) (y6 : (ApiSessions × Unit)) (y7 : (List (UInt8))) (y8 : Int) : run E_passkeylaw34_SessionGone A_passkeylaw34_SessionGone (loopAt 2 (Try.f6.body.getD .skip)) (lay cd [(1, .f (.v (.rs 0))), (2, .f (.v .u8)), (3, .f (.v .u8)), (9, .ptr [(.v (.agg 2))]), (10, .f (.own 6)), (11, .f (.v (.int .i64))), (12, .ptr [(.v (.agg 2))]), (13, .f (.own 0)), (15, .f (.v (.int .i64)))] (y0, y1, y2, y3, y4, y5, y6, y7, y8, ())) (roundK cd [(1, .f (.v (.rs 0))), (2, .f (.v .u8)), (3, .f (.v .u8)), (9, .ptr [(.v (.agg 2))]), (10, .f (.own 6)), (11, .f (.v (.int .i64))), (12, .ptr [(.v (.agg 2))]), (13, .f (.own 0)), (15, .f (.v (.int .i64)))] [(.ret, [(8, .f (.v .bool))]), (.exit 2, [(1, .f (.v (.rs 0))), (2, .f (.v .u8)), (3, .f (.v .u8)), (9, .ptr [(.v (.agg 2))]), (10, .f (.own 6)), (11, .f (.v (.int .i64))), (12, .ptr [(.v (.agg 2))]), (13, .f (.own 0))])]) = passkeylaw34_SessionGone_L2b y0 y1 y2 y3 y4 y5 y6 y7 y8 := by kernel_rfl

theorem passkeylaw34_SessionGone_L0_eq (y0 : (List (UInt8))) (y1 : UInt8) (y2 : UInt8) (y3 : (ApiSessions × Unit)) (y4 : (List (List UInt8))) (y5 : Int) : run E_passkeylaw34_SessionGone A_passkeylaw34_SessionGone (loopAt 0 (Try.f6.body.getD .skip)) (lay cd [(1, .f (.v (.rs 0))), (2, .f (.v .u8)), (3, .f (.v .u8)), (9, .ptr [(.v (.agg 2))]), (10, .f (.own 6)), (11, .f (.v (.int .i64)))] (y0, y1, y2, y3, y4, y5, ())) (roundK cd [(1, .f (.v (.rs 0))), (2, .f (.v .u8)), (3, .f (.v .u8)), (9, .ptr [(.v (.agg 2))]), (10, .f (.own 6)), (11, .f (.v (.int .i64)))] [(.ret, [(8, .f (.v .bool))]), (.exit 0, [(1, .f (.v (.rs 0))), (2, .f (.v .u8)), (3, .f (.v .u8)), (9, .ptr [(.v (.agg 2))]), (10, .f (.own 6))])]) = passkeylaw34_SessionGone_L0b y0 y1 y2 y3 y4 y5 := by kernel_rfl

theorem passkeylaw34_SessionGone_L5_eq (y0 : (List (UInt8))) (y1 : UInt8) (y2 : UInt8) (y3 : (ApiSessions × Unit)) (y4 : (List (List UInt8))) (y5 : (List (Bool))) (y6 : Int) (y7 : Int) : run E_passkeylaw34_SessionGone A_passkeylaw34_SessionGone (loopAt 5 (Try.f6.body.getD .skip)) (lay cd [(1, .f (.v (.rs 0))), (2, .f (.v .u8)), (3, .f (.v .u8)), (9, .ptr [(.v (.agg 2))]), (10, .f (.own 6)), (16, .f (.own 10)), (17, .f (.v (.int .i64))), (18, .f (.v (.int .i64)))] (y0, y1, y2, y3, y4, y5, y6, y7, ())) (roundK cd [(1, .f (.v (.rs 0))), (2, .f (.v .u8)), (3, .f (.v .u8)), (9, .ptr [(.v (.agg 2))]), (10, .f (.own 6)), (16, .f (.own 10)), (17, .f (.v (.int .i64))), (18, .f (.v (.int .i64)))] [(.exit 5, [(3, .f (.v .u8)), (9, .ptr [(.v (.agg 2))]), (10, .f (.own 6)), (16, .f (.own 10))])]) = passkeylaw34_SessionGone_L5b y0 y1 y2 y3 y4 y5 y6 y7 := by kernel_rfl

theorem passkeylaw34_SessionGone_L7_eq (y0 : UInt8) (y1 : (ApiSessions × Unit)) (y2 : (List (List UInt8))) (y3 : (List (Bool))) (y4 : Int) : run E_passkeylaw34_SessionGone A_passkeylaw34_SessionGone (loopAt 7 (Try.f6.body.getD .skip)) (lay cd [(3, .f (.v .u8)), (9, .ptr [(.v (.agg 2))]), (10, .f (.own 6)), (16, .f (.own 10)), (19, .f (.v (.int .i64)))] (y0, y1, y2, y3, y4, ())) (roundK cd [(3, .f (.v .u8)), (9, .ptr [(.v (.agg 2))]), (10, .f (.own 6)), (16, .f (.own 10)), (19, .f (.v (.int .i64)))] [(.ret, [(8, .f (.v .bool))]), (.exit 7, [(9, .ptr [(.v (.agg 2))]), (10, .f (.own 6)), (16, .f (.own 10))])]) = passkeylaw34_SessionGone_L7b y0 y1 y2 y3 y4 := by kernel_rfl

theorem passkeylaw34_SessionGone_L9_eq (y0 : (ApiSessions × Unit)) (y1 : (List (List UInt8))) (y2 : (List (Bool))) (y3 : Int) : run E_passkeylaw34_SessionGone A_passkeylaw34_SessionGone (loopAt 9 (Try.f6.body.getD .skip)) (lay cd [(9, .ptr [(.v (.agg 2))]), (10, .f (.own 6)), (16, .f (.own 10)), (23, .f (.v (.int .i64)))] (y0, y1, y2, y3, ())) (roundK cd [(9, .ptr [(.v (.agg 2))]), (10, .f (.own 6)), (16, .f (.own 10)), (23, .f (.v (.int .i64)))] [(.ret, [(8, .f (.v .bool))]), (.exit 9, [])]) = passkeylaw34_SessionGone_L9b y0 y1 y2 y3 := by kernel_rfl

theorem passkeylaw34_SessionGone_eq (x : tySs T S_passkeylaw34_SessionGone.ps) : run E_passkeylaw34_SessionGone A_passkeylaw34_SessionGone (Try.f6.body.getD .skip) (enterT E_passkeylaw34_SessionGone.C S_passkeylaw34_SessionGone.ps x) (retK E_passkeylaw34_SessionGone Try.f6.results.toList S_passkeylaw34_SessionGone.ps S_passkeylaw34_SessionGone.rs) = S_passkeylaw34_SessionGone.fn x := by kernel_rfl

theorem passkeylaw34_SessionGone_env : EnvOk Try.prog E_passkeylaw34_SessionGone := envOk (E := E_passkeylaw34_SessionGone) cd_ok tys fl_ok fun f ds S h => by
    dsimp only [E_passkeylaw34_SessionGone] at h
    split at h
    · cases h; exact passkeylaw34_awake_ok
    · cases h; exact session_New_ok
    · cases h; exact session_Open_ok
    · cases h; exact session_Check_ok
    · cases h; exact session_Close_ok
    · cases h; exact session_RevokeModel_ok
    · cases h; exact session_RevokeCredential_ok
    · cases h

theorem passkeylaw34_SessionGone_L2_ok : LoopOk Try.prog E_passkeylaw34_SessionGone Try.f6.ntmps (kqOf S_passkeylaw34_SessionGone.ps 0) (loopAt 2 (Try.f6.body.getD .skip)) ⟨[(1, .f (.v (.rs 0))), (2, .f (.v .u8)), (3, .f (.v .u8)), (9, .ptr [(.v (.agg 2))]), (10, .f (.own 6)), (11, .f (.v (.int .i64))), (12, .ptr [(.v (.agg 2))]), (13, .f (.own 0)), (15, .f (.v (.int .i64)))], [(.ret, [(8, .f (.v .bool))]), (.exit 2, [(1, .f (.v (.rs 0))), (2, .f (.v .u8)), (3, .f (.v .u8)), (9, .ptr [(.v (.agg 2))]), (10, .f (.own 6)), (11, .f (.v (.int .i64))), (12, .ptr [(.v (.agg 2))]), (13, .f (.own 0))])], passkeylaw34_SessionGone_L2⟩ :=
  loop_ok (A := A_passkeylaw34_SessionGone) (done := []) (c0 := (Try.f6.body.getD .skip)) hmix passkeylaw34_SessionGone_env done_nil rounds (by kernel_rfl) (by kernel_rfl) (fun x => passkeylaw34_SessionGone_L2_eq x.1 x.2.1 x.2.2.1 x.2.2.2.1 x.2.2.2.2.1 x.2.2.2.2.2.1 x.2.2.2.2.2.2.1 x.2.2.2.2.2.2.2.1 x.2.2.2.2.2.2.2.2.1) (fun _ => rfl)

theorem passkeylaw34_SessionGone_L0_ok : LoopOk Try.prog E_passkeylaw34_SessionGone Try.f6.ntmps (kqOf S_passkeylaw34_SessionGone.ps 0) (loopAt 0 (Try.f6.body.getD .skip)) ⟨[(1, .f (.v (.rs 0))), (2, .f (.v .u8)), (3, .f (.v .u8)), (9, .ptr [(.v (.agg 2))]), (10, .f (.own 6)), (11, .f (.v (.int .i64)))], [(.ret, [(8, .f (.v .bool))]), (.exit 0, [(1, .f (.v (.rs 0))), (2, .f (.v .u8)), (3, .f (.v .u8)), (9, .ptr [(.v (.agg 2))]), (10, .f (.own 6))])], passkeylaw34_SessionGone_L0⟩ :=
  loop_ok (A := A_passkeylaw34_SessionGone) (done := [2]) (c0 := (Try.f6.body.getD .skip)) hmix passkeylaw34_SessionGone_env (done_cons rfl passkeylaw34_SessionGone_L2_ok done_nil) rounds (by kernel_rfl) (by kernel_rfl) (fun x => passkeylaw34_SessionGone_L0_eq x.1 x.2.1 x.2.2.1 x.2.2.2.1 x.2.2.2.2.1 x.2.2.2.2.2.1) (fun _ => rfl)

theorem passkeylaw34_SessionGone_L5_ok : LoopOk Try.prog E_passkeylaw34_SessionGone Try.f6.ntmps (kqOf S_passkeylaw34_SessionGone.ps 0) (loopAt 5 (Try.f6.body.getD .skip)) ⟨[(1, .f (.v (.rs 0))), (2, .f (.v .u8)), (3, .f (.v .u8)), (9, .ptr [(.v (.agg 2))]), (10, .f (.own 6)), (16, .f (.own 10)), (17, .f (.v (.int .i64))), (18, .f (.v (.int .i64)))], [(.exit 5, [(3, .f (.v .u8)), (9, .ptr [(.v (.agg 2))]), (10, .f (.own 6)), (16, .f (.own 10))])], passkeylaw34_SessionGone_L5⟩ :=
  loop_ok (A := A_passkeylaw34_SessionGone) (done := [2, 0]) (c0 := (Try.f6.body.getD .skip)) hmix passkeylaw34_SessionGone_env (done_cons rfl passkeylaw34_SessionGone_L2_ok (done_cons rfl passkeylaw34_SessionGone_L0_ok done_nil)) rounds (by kernel_rfl) (by kernel_rfl) (fun x => passkeylaw34_SessionGone_L5_eq x.1 x.2.1 x.2.2.1 x.2.2.2.1 x.2.2.2.2.1 x.2.2.2.2.2.1 x.2.2.2.2.2.2.1 x.2.2.2.2.2.2.2.1) (fun _ => rfl)

theorem passkeylaw34_SessionGone_L7_ok : LoopOk Try.prog E_passkeylaw34_SessionGone Try.f6.ntmps (kqOf S_passkeylaw34_SessionGone.ps 0) (loopAt 7 (Try.f6.body.getD .skip)) ⟨[(3, .f (.v .u8)), (9, .ptr [(.v (.agg 2))]), (10, .f (.own 6)), (16, .f (.own 10)), (19, .f (.v (.int .i64)))], [(.ret, [(8, .f (.v .bool))]), (.exit 7, [(9, .ptr [(.v (.agg 2))]), (10, .f (.own 6)), (16, .f (.own 10))])], passkeylaw34_SessionGone_L7⟩ :=
  loop_ok (A := A_passkeylaw34_SessionGone) (done := [2, 0, 5]) (c0 := (Try.f6.body.getD .skip)) hmix passkeylaw34_SessionGone_env (done_cons rfl passkeylaw34_SessionGone_L2_ok (done_cons rfl passkeylaw34_SessionGone_L0_ok (done_cons rfl passkeylaw34_SessionGone_L5_ok done_nil))) rounds (by kernel_rfl) (by kernel_rfl) (fun x => passkeylaw34_SessionGone_L7_eq x.1 x.2.1 x.2.2.1 x.2.2.2.1 x.2.2.2.2.1) (fun _ => rfl)

theorem passkeylaw34_SessionGone_L9_ok : LoopOk Try.prog E_passkeylaw34_SessionGone Try.f6.ntmps (kqOf S_passkeylaw34_SessionGone.ps 0) (loopAt 9 (Try.f6.body.getD .skip)) ⟨[(9, .ptr [(.v (.agg 2))]), (10, .f (.own 6)), (16, .f (.own 10)), (23, .f (.v (.int .i64)))], [(.ret, [(8, .f (.v .bool))]), (.exit 9, [])], passkeylaw34_SessionGone_L9⟩ :=
  loop_ok (A := A_passkeylaw34_SessionGone) (done := [2, 0, 5, 7]) (c0 := (Try.f6.body.getD .skip)) hmix passkeylaw34_SessionGone_env (done_cons rfl passkeylaw34_SessionGone_L2_ok (done_cons rfl passkeylaw34_SessionGone_L0_ok (done_cons rfl passkeylaw34_SessionGone_L5_ok (done_cons rfl passkeylaw34_SessionGone_L7_ok done_nil)))) rounds (by kernel_rfl) (by kernel_rfl) (fun x => passkeylaw34_SessionGone_L9_eq x.1 x.2.1 x.2.2.1 x.2.2.2.1) (fun _ => rfl)

theorem passkeylaw34_SessionGone_ok : SoundT Try.prog cd gdn 6 S_passkeylaw34_SessionGone :=
  sound_fn (E := E_passkeylaw34_SessionGone) (A := A_passkeylaw34_SessionGone) (done := [2, 0, 5, 7, 9]) (c := (Try.f6.body.getD .skip)) (S := S_passkeylaw34_SessionGone) (fn := Try.f6) hmix passkeylaw34_SessionGone_env Try.func6 rfl (by kernel_rfl) (by kernel_rfl) (done_cons rfl passkeylaw34_SessionGone_L2_ok (done_cons rfl passkeylaw34_SessionGone_L0_ok (done_cons rfl passkeylaw34_SessionGone_L5_ok (done_cons rfl passkeylaw34_SessionGone_L7_ok (done_cons rfl passkeylaw34_SessionGone_L9_ok done_nil))))) (by kernel_rfl) (by kernel_rfl) passkeylaw34_SessionGone_eq

def SessionBytes_dom (a0 : ApiSessions) (a1 : ApiSession) : Prop := ArgD cd [(.agg 2), (.agg 1)] (a0, a1, ())
def SessionMany_dom (a0 : (BitVec 64)) (a1 : UInt8) : Prop := ArgD cd [.u64, .u8] (a0, a1, ())
def SessionPlays_dom (a0 : (BitVec 64)) (a1 : (List (Int))) (a2 : (List (UInt8))) (a3 : Int) : Prop := ArgD cd [.u64, (.rs 7), (.rs 0), (.int .i64)] (a0, a1, a2, a3, ())
def SessionGone_dom (a0 : (BitVec 64)) (a1 : (List (UInt8))) (a2 : UInt8) (a3 : UInt8) : Prop := ArgD cd [.u64, (.rs 0), .u8, .u8] (a0, a1, a2, a3, ())
end Go.Proofs.Ytgenglnebkjhfaa

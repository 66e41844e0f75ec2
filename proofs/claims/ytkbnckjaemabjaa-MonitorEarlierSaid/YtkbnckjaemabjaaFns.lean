/- The functions of the program, as plain functions, and that the program computes them. Written by a program. -/
import Derived.Test.YtkbnckjaemabjaaTyZb
import Derived.Test.YtkbnckjaemabjaaProg
import Derived.WalkKit
set_option linter.unusedVariables false
set_option maxRecDepth 100000
namespace Go.Proofs.Ytkbnckjaemabjaa
open Go Go.Abs
structure PasskeycastDeck where
  l : List Int
  at_ : Int
  deriving DecidableEq, Inhabited

structure ApiRecord where
  kind : Int
  time : Int
  who : Int
  number : Int
  kind2 : Int
  text : List UInt8
  challenge : List UInt8
  iD : List UInt8
  word : BitVec 64
  hash : BitVec 64
  leaf : Int
  flags : Int
  since : Int
  err : Int
  deriving DecidableEq, Inhabited

structure ApiCause where
  issued : Int
  begun : Int
  signed : Int
  gesture : Int
  deriving DecidableEq, Inhabited

structure ApiFinding where
  record : Int
  err : Int
  deriving DecidableEq, Inhabited

abbrev T : Nat → Type
  | 0 => UInt8
  | 1 => Int
  | 2 => PasskeycastDeck
  | 3 => ApiRecord
  | 4 => List UInt8
  | 5 => Int
  | 6 => ApiCause
  | 7 => ApiFinding
  | _ => Unit

def lfs : Nat → List Lf
  | 0 => [.u8]
  | 1 => [.int .i64]
  | 2 => [.rs 1, .int .i64]
  | 3 => [.int .i64, .int .i64, .int .i64, .int .i64, .int .i64, .str, .rs 0, .rs 0, .u64, .u64, .int .i64, .int .i64, .int .i64, .int .i64]
  | 4 => [.str]
  | 5 => [.int .i64]
  | 6 => [.int .i64, .int .i64, .int .i64, .int .i64]
  | 7 => [.int .i64, .int .i64]
  | _ => []

def to0 (x : UInt8) : tyLs T (lfs 0) := (x, ())
def of0 (y : tyLs T (lfs 0)) : UInt8 := y.1
def eD0 (x : UInt8) : List D := [.int .u8 x.toNat]
def to1 (x : Int) : tyLs T (lfs 1) := (x, ())
def of1 (y : tyLs T (lfs 1)) : Int := y.1
def eD1 (x : Int) : List D := [.int .i64 x]
def to2 (x : PasskeycastDeck) : tyLs T (lfs 2) := (x.l, x.at_, ())
def of2 (y : tyLs T (lfs 2)) : PasskeycastDeck := ⟨y.1, y.2.1⟩
def eD2 (x : PasskeycastDeck) : List D := [.rs 1 (x.l.map eD1), .int .i64 x.at_]
def to3 (x : ApiRecord) : tyLs T (lfs 3) := (x.kind, x.time, x.who, x.number, x.kind2, x.text, x.challenge, x.iD, x.word, x.hash, x.leaf, x.flags, x.since, x.err, ())
def of3 (y : tyLs T (lfs 3)) : ApiRecord := ⟨y.1, y.2.1, y.2.2.1, y.2.2.2.1, y.2.2.2.2.1, y.2.2.2.2.2.1, y.2.2.2.2.2.2.1, y.2.2.2.2.2.2.2.1, y.2.2.2.2.2.2.2.2.1, y.2.2.2.2.2.2.2.2.2.1, y.2.2.2.2.2.2.2.2.2.2.1, y.2.2.2.2.2.2.2.2.2.2.2.1, y.2.2.2.2.2.2.2.2.2.2.2.2.1, y.2.2.2.2.2.2.2.2.2.2.2.2.2.1⟩
def eD3 (x : ApiRecord) : List D := [.int .i64 x.kind, .int .i64 x.time, .int .i64 x.who, .int .i64 x.number, .int .i64 x.kind2, .str x.text, .rs 1 (x.challenge.map eD0), .rs 1 (x.iD.map eD0), .int .u64 x.word.toNat, .int .u64 x.hash.toNat, .int .i64 x.leaf, .int .i64 x.flags, .int .i64 x.since, .int .i64 x.err]
def to4 (x : List UInt8) : tyLs T (lfs 4) := (x, ())
def of4 (y : tyLs T (lfs 4)) : List UInt8 := y.1
def eD4 (x : List UInt8) : List D := [.str x]
def to5 (x : Int) : tyLs T (lfs 5) := (x, ())
def of5 (y : tyLs T (lfs 5)) : Int := y.1
def eD5 (x : Int) : List D := [.int .i64 x]
def to6 (x : ApiCause) : tyLs T (lfs 6) := (x.issued, x.begun, x.signed, x.gesture, ())
def of6 (y : tyLs T (lfs 6)) : ApiCause := ⟨y.1, y.2.1, y.2.2.1, y.2.2.2.1⟩
def eD6 (x : ApiCause) : List D := [.int .i64 x.issued, .int .i64 x.begun, .int .i64 x.signed, .int .i64 x.gesture]
def to7 (x : ApiFinding) : tyLs T (lfs 7) := (x.record, x.err, ())
def of7 (y : tyLs T (lfs 7)) : ApiFinding := ⟨y.1, y.2.1⟩
def eD7 (x : ApiFinding) : List D := [.int .i64 x.record, .int .i64 x.err]
def cd : Cd T where
  sz := fun c => match c with
    | 0 => 1
    | 1 => 1
    | 2 => 2
    | 3 => 14
    | 4 => 1
    | 5 => 1
    | 6 => 4
    | 7 => 2
    | _ => 0
  encD := fun c x => match c, x with
    | 0, x => eD0 x
    | 1, x => eD1 x
    | 2, x => eD2 x
    | 3, x => eD3 x
    | 4, x => eD4 x
    | 5, x => eD5 x
    | 6, x => eD6 x
    | 7, x => eD7 x
    | _, _ => []
  enc := fun c x => match c, x with
    | 0, x => encL (lfs 0) (to0 x)
    | 1, x => encL (lfs 1) (to1 x)
    | 2, x => encL (lfs 2) (to2 x)
    | 3, x => encL (lfs 3) (to3 x)
    | 4, x => encL (lfs 4) (to4 x)
    | 5, x => encL (lfs 5) (to5 x)
    | 6, x => encL (lfs 6) (to6 x)
    | 7, x => encL (lfs 7) (to7 x)
    | _, _ => []
  dec := fun c ds => match c with
    | 0 => (decL (lfs 0) ds).map of0
    | 1 => (decL (lfs 1) ds).map of1
    | 2 => (decL (lfs 2) ds).map of2
    | 3 => (decL (lfs 3) ds).map of3
    | 4 => (decL (lfs 4) ds).map of4
    | 5 => (decL (lfs 5) ds).map of5
    | 6 => (decL (lfs 6) ds).map of6
    | 7 => (decL (lfs 7) ds).map of7
    | _ => none
  bt := 0
  hb := rfl

theorem cd_ok : CdOk cd where
  len := fun c => match c with
    | 0 => fun _ => rfl
    | 1 => fun _ => rfl
    | 2 => fun _ => rfl
    | 3 => fun _ => rfl
    | 4 => fun _ => rfl
    | 5 => fun _ => rfl
    | 6 => fun _ => rfl
    | 7 => fun _ => rfl
    | _ + 8 => fun _ => rfl
  enc := fun c => match c with
    | 0 => fun _ => rfl
    | 1 => fun _ => rfl
    | 2 => fun _ => rfl
    | 3 => fun _ => rfl
    | 4 => fun _ => rfl
    | 5 => fun _ => rfl
    | 6 => fun _ => rfl
    | 7 => fun _ => rfl
    | _ + 8 => fun _ => rfl
  epure := fun c => match c with
    | 0 => fun _ => rfl
    | 1 => fun _ => rfl
    | 2 => fun _ => rfl
    | 3 => fun _ => rfl
    | 4 => fun _ => rfl
    | 5 => fun _ => rfl
    | 6 => fun _ => rfl
    | 7 => fun _ => rfl
    | _ + 8 => fun _ => rfl
  byte := fun _ => rfl
  bsz := rfl
  dec := fun c => match c with
    | 0 => fun ds x h => dec_ok cd (c := 0) (lfs 0) (of := of0) (e := eD0) (fun _ => rfl) ds x h
    | 1 => fun ds x h => dec_ok cd (c := 1) (lfs 1) (of := of1) (e := eD1) (fun _ => rfl) ds x h
    | 2 => fun ds x h => dec_ok cd (c := 2) (lfs 2) (of := of2) (e := eD2) (fun _ => rfl) ds x h
    | 3 => fun ds x h => dec_ok cd (c := 3) (lfs 3) (of := of3) (e := eD3) (fun _ => rfl) ds x h
    | 4 => fun ds x h => dec_ok cd (c := 4) (lfs 4) (of := of4) (e := eD4) (fun _ => rfl) ds x h
    | 5 => fun ds x h => dec_ok cd (c := 5) (lfs 5) (of := of5) (e := eD5) (fun _ => rfl) ds x h
    | 6 => fun ds x h => dec_ok cd (c := 6) (lfs 6) (of := of6) (e := eD6) (fun _ => rfl) ds x h
    | 7 => fun ds x h => dec_ok cd (c := 7) (lfs 7) (of := of7) (e := eD7) (fun _ => rfl) ds x h
    | _ + 8 => fun _ _ h => by cases h


def ti3 : TI := ⟨1, 1, 8, .int .i64, [.i .i64], [], [], none⟩
def ti5 : TI := ⟨0, 1, 1, .int .u8, [.i .u8], [], [], none⟩
def ti9 : TI := ⟨4, 1, 16, .str, [.s], [], [], none⟩
def ti22 : TI := ⟨9, 1, 24, .slice 3, [.ns], [], [], none⟩
def ti25 : TI := ⟨9, 1, 24, .slice 31, [.ns], [], [], none⟩
def ti27 : TI := ⟨9, 1, 24, .slice 5, [.ns], [], [], none⟩
def ti28 : TI := ⟨9, 1, 8, .int .u64, [.i .u64], [], [], none⟩
def ti29 : TI := ⟨5, 1, 8, .int .i64, [.i .i64], [], [], none⟩
def ti31 : TI := ⟨3, 14, 152, .strct, [.i .i64, .i .i64, .i .i64, .i .i64, .i .i64, .s, .ns, .ns, .i .u64, .i .u64, .i .i64, .i .i64, .i .i64, .i .i64], [some (0, 3), some (1, 3), some (2, 3), some (3, 3), some (4, 3), some (5, 9), some (6, 27), some (7, 27), some (8, 28), some (9, 28), some (10, 3), some (11, 3), some (12, 3), some (13, 29)], [(0, 1), (1, 1), (2, 1), (3, 1), (4, 1), (5, 1), (6, 1), (7, 1), (8, 1), (9, 1), (10, 1), (11, 1), (12, 1), (13, 1)], none⟩
def ti34 : TI := ⟨9, 1, 24, .slice 29, [.ns], [], [], none⟩
def ti36 : TI := ⟨6, 4, 32, .strct, [.i .i64, .i .i64, .i .i64, .i .i64], [some (0, 3), some (1, 3), some (2, 3), some (3, 3)], [(0, 1), (1, 1), (2, 1), (3, 1)], some [3, 3, 3, 3]⟩
def ti45 : TI := ⟨2, 2, 32, .strct, [.ns, .i .i64], [some (0, 22), some (1, 3)], [(0, 1), (1, 1)], none⟩
def ti46 : TI := ⟨9, 1, 24, .slice 9, [.ns], [], [], none⟩
def ti47 : TI := ⟨9, 1, 8, .ptr 31, [.np], [], [], none⟩
def ti51 : TI := ⟨9, 1, 24, .slice 54, [.ns], [], [], none⟩
def ti54 : TI := ⟨7, 2, 16, .strct, [.i .i64, .i .i64], [some (0, 3), some (1, 29)], [(0, 1), (1, 1)], some [3, 3]⟩
def ti61 : TI := ⟨9, 1, 8, .int .u64, [.i .u64], [], [], none⟩
def tab : Tr := .node (.node (.node (.node (.node .leaf 3 ti3 .leaf) 5 ti5 .leaf) 9 ti9 (.node .leaf 22 ti22 .leaf)) 25 ti25 (.node (.node .leaf 27 ti27 .leaf) 28 ti28 (.node .leaf 29 ti29 .leaf))) 31 ti31 (.node (.node (.node (.node .leaf 34 ti34 .leaf) 36 ti36 .leaf) 45 ti45 (.node .leaf 46 ti46 .leaf)) 47 ti47 (.node (.node .leaf 51 ti51 .leaf) 54 ti54 (.node .leaf 61 ti61 .leaf)))

def globs : Nat → Option (List (DT T)) := fun _ => none
def flc : Nat → Bool := fun c => match c with
  | 0 => true
  | 1 => true
  | 2 => false
  | 3 => false
  | 4 => true
  | 5 => true
  | 6 => true
  | 7 => true
  | _ => false
theorem hmix : Try.prog.follows .mixedOrders = true := by kernel_rfl
theorem tys : TysOk Try.prog tab.find := tys_ok (by kernel_rfl)
abbrev gdn : Nat → Option (List D) := fun g => (globs g).map (denL cd)
theorem fl_ok : FlOk cd flc := fun c => match c with
  | 0 => fun h _ => rfl
  | 1 => fun h _ => rfl
  | 2 => fun h _ => by cases h
  | 3 => fun h _ => by cases h
  | 4 => fun h _ => rfl
  | 5 => fun h _ => rfl
  | 6 => fun h _ => rfl
  | 7 => fun h _ => rfl
  | _ + 8 => fun h _ => by cases h
def passkeycast_New (a0 : (List (Int))) : Option ((Unit) × (PasskeycastDeck × Unit)) :=
 (some ((), ((⟨a0, (0 : Int)⟩ : PasskeycastDeck), ())))

def S_passkeycast_New : FSpec T := ⟨[.f (.v (.rs 1))], [(.pt (.agg 2))], fun x => passkeycast_New x.1⟩

def E_passkeycast_New : Env T := ⟨tab.find, cd, globs, flc, fun f ds => match f with
    | _ => none, fun f => match f with
    | _ => false⟩

def A_passkeycast_New : Loc2 T := ⟨fun id => match id with
    | _ => none, fun r => match r with
    | _ => none, fun r => match r with
    | _ => false⟩

theorem passkeycast_New_eq (a0 : (List (Int))) : run E_passkeycast_New A_passkeycast_New (Try.f6.body.getD .skip) (enterT cd [.f (.v (.rs 1))] (a0, ())) (retK E_passkeycast_New Try.f6.results.toList [.f (.v (.rs 1))] [(.pt (.agg 2))]) = passkeycast_New a0 := by kernel_rfl

theorem passkeycast_New_env : EnvOk Try.prog E_passkeycast_New := envOk (E := E_passkeycast_New) cd_ok tys fl_ok fun f ds S h => by cases h

theorem passkeycast_New_ok : SoundT Try.prog cd gdn 6 S_passkeycast_New :=
  sound_fn (E := E_passkeycast_New) (A := A_passkeycast_New) (done := []) (c := (Try.f6.body.getD .skip)) hmix passkeycast_New_env Try.func6 rfl (by kernel_rfl) (by kernel_rfl) done_nil (by kernel_rfl) (by kernel_rfl) (fun x => passkeycast_New_eq x.1)

def passkeycast_Deck_Left (a0 : PasskeycastDeck) : Option ((Unit) × (Bool × Unit)) :=
 (some ((), ((decide (a0.at_ < ((a0.l).length : Int))), ())))

def S_passkeycast_Deck_Left : FSpec T := ⟨[.f (.v (.ref (.agg 2)))], [(.v .bool)], fun x => passkeycast_Deck_Left x.1⟩

def E_passkeycast_Deck_Left : Env T := ⟨tab.find, cd, globs, flc, fun f ds => match f with
    | _ => none, fun f => match f with
    | _ => false⟩

def A_passkeycast_Deck_Left : Loc2 T := ⟨fun id => match id with
    | _ => none, fun r => match r with
    | _ => none, fun r => match r with
    | _ => false⟩

theorem passkeycast_Deck_Left_eq (a0 : PasskeycastDeck) : run E_passkeycast_Deck_Left A_passkeycast_Deck_Left (Try.f7.body.getD .skip) (enterT cd [.f (.v (.ref (.agg 2)))] (a0, ())) (retK E_passkeycast_Deck_Left Try.f7.results.toList [.f (.v (.ref (.agg 2)))] [(.v .bool)]) = passkeycast_Deck_Left a0 := by kernel_rfl

theorem passkeycast_Deck_Left_env : EnvOk Try.prog E_passkeycast_Deck_Left := envOk (E := E_passkeycast_Deck_Left) cd_ok tys fl_ok fun f ds S h => by cases h

theorem passkeycast_Deck_Left_ok : SoundT Try.prog cd gdn 7 S_passkeycast_Deck_Left :=
  sound_fn (E := E_passkeycast_Deck_Left) (A := A_passkeycast_Deck_Left) (done := []) (c := (Try.f7.body.getD .skip)) hmix passkeycast_Deck_Left_env Try.func7 rfl (by kernel_rfl) (by kernel_rfl) done_nil (by kernel_rfl) (by kernel_rfl) (fun x => passkeycast_Deck_Left_eq x.1)

def passkeycast_Mod (a0 : Int) (a1 : Int) : Option ((Unit) × (Int × Unit)) :=
 (bif decide ((BitVec.ofInt 64 a1) = 0) then none
 else (let v1 : Int := (IntKind.wrap .i64 (((BitVec.ofInt 64 a0) % (BitVec.ofInt 64 a1)).toNat : Int))
 (some ((), (v1, ())))))

def S_passkeycast_Mod : FSpec T := ⟨[.f (.v (.int .i64)), .f (.v (.int .i64))], [(.v (.int .i64))], fun x => passkeycast_Mod x.1 x.2.1⟩

def E_passkeycast_Mod : Env T := ⟨tab.find, cd, globs, flc, fun f ds => match f with
    | _ => none, fun f => match f with
    | _ => false⟩

def A_passkeycast_Mod : Loc2 T := ⟨fun id => match id with
    | _ => none, fun r => match r with
    | _ => none, fun r => match r with
    | _ => false⟩

theorem passkeycast_Mod_eq (a0 : Int) (a1 : Int) : run E_passkeycast_Mod A_passkeycast_Mod (Try.f23.body.getD .skip) (enterT cd [.f (.v (.int .i64)), .f (.v (.int .i64))] (a0, a1, ())) (retK E_passkeycast_Mod Try.f23.results.toList [.f (.v (.int .i64)), .f (.v (.int .i64))] [(.v (.int .i64))]) = passkeycast_Mod a0 a1 := by kernel_rfl

theorem passkeycast_Mod_env : EnvOk Try.prog E_passkeycast_Mod := envOk (E := E_passkeycast_Mod) cd_ok tys fl_ok fun f ds S h => by cases h

theorem passkeycast_Mod_ok : SoundT Try.prog cd gdn 23 S_passkeycast_Mod :=
  sound_fn (E := E_passkeycast_Mod) (A := A_passkeycast_Mod) (done := []) (c := (Try.f23.body.getD .skip)) hmix passkeycast_Mod_env Try.func23 rfl (by kernel_rfl) (by kernel_rfl) done_nil (by kernel_rfl) (by kernel_rfl) (fun x => passkeycast_Mod_eq x.1 x.2.1)

def passkeycast_Deck_Next (a0 : (PasskeycastDeck × Unit)) (a1 : Int) : Option (((PasskeycastDeck × Unit) × Unit) × (Int × Unit)) :=
 (bif (decide (((a0.1.l).length : Int) ≤ a0.1.at_)) then (some (((a0.1, ()), ()), ((0 : Int), ())))
 else (let v1 : Int := (IntKind.wrap .i64 ((IntKind.wrap .i64 (a0.1.at_ + (1 : Int))) - (1 : Int)))
 ((getI a0.1.l v1).bind fun x2 => ((passkeycast_Mod x2 a1).bind fun r3 => (some ((((⟨a0.1.l, (IntKind.wrap .i64 (a0.1.at_ + (1 : Int)))⟩ : PasskeycastDeck), ()), ()), (r3.2.1, ())))))))

def S_passkeycast_Deck_Next : FSpec T := ⟨[.ptr [(.v (.agg 2))], .f (.v (.int .i64))], [(.v (.int .i64))], fun x => passkeycast_Deck_Next x.1 x.2.1⟩

def E_passkeycast_Deck_Next : Env T := ⟨tab.find, cd, globs, flc, fun f ds => match f with
    | 23 => some S_passkeycast_Mod
    | _ => none, fun f => match f with
    | 23 => true
    | _ => false⟩

def A_passkeycast_Deck_Next : Loc2 T := ⟨fun id => match id with
    | _ => none, fun r => match r with
    | _ => none, fun r => match r with
    | _ => false⟩

theorem passkeycast_Deck_Next_eq (a0 : (PasskeycastDeck × Unit)) (a1 : Int) : run E_passkeycast_Deck_Next A_passkeycast_Deck_Next (Try.f12.body.getD .skip) (enterT cd [.ptr [(.v (.agg 2))], .f (.v (.int .i64))] (a0, a1, ())) (retK E_passkeycast_Deck_Next Try.f12.results.toList [.ptr [(.v (.agg 2))], .f (.v (.int .i64))] [(.v (.int .i64))]) = passkeycast_Deck_Next a0 a1 := by kernel_rfl

theorem passkeycast_Deck_Next_env : EnvOk Try.prog E_passkeycast_Deck_Next := envOk (E := E_passkeycast_Deck_Next) cd_ok tys fl_ok fun f ds S h => by
    dsimp only [E_passkeycast_Deck_Next] at h
    split at h
    · cases h; exact passkeycast_Mod_ok
    · cases h

theorem passkeycast_Deck_Next_ok : SoundT Try.prog cd gdn 12 S_passkeycast_Deck_Next :=
  sound_fn (E := E_passkeycast_Deck_Next) (A := A_passkeycast_Deck_Next) (done := []) (c := (Try.f12.body.getD .skip)) hmix passkeycast_Deck_Next_env Try.func12 rfl (by kernel_rfl) (by kernel_rfl) done_nil (by kernel_rfl) (by kernel_rfl) (fun x => passkeycast_Deck_Next_eq x.1 x.2.1)

def passkeycast_Deck_Record (a0 : (PasskeycastDeck × Unit)) : Option (((PasskeycastDeck × Unit) × Unit) × (ApiRecord × Unit)) :=
 (let v1 : List (Int) := ([(8 : Int), (4 : Int), (6 : Int), (5 : Int), (2 : Int), (7 : Int), (8 : Int), (4 : Int), (3 : Int), (13 : Int)] : List (Int))
 ((passkeycast_Deck_Next (a0.1, ()) (10 : Int)).bind fun r2 => (bif (decide ((0 : Int) ≤ r2.2.1) && decide (r2.2.1 < (10 : Int))) then (((v1)[(r2.2.1).toNat]?).bind fun x3 => ((passkeycast_Deck_Next (r2.1.1.1, ()) (8 : Int)).bind fun r4 => ((passkeycast_Deck_Next (r4.1.1.1, ()) (2 : Int)).bind fun r5 => ((passkeycast_Deck_Next (r5.1.1.1, ()) (2 : Int)).bind fun r6 => ((passkeycast_Deck_Next (r6.1.1.1, ()) (6 : Int)).bind fun r7 => (bif (decide (x3 = (8 : Int))) then (bif (decide (x3 = (8 : Int))) then ((passkeycast_Deck_Next (r7.1.1.1, ()) (3 : Int)).bind fun r8 => (let v9 : List (List UInt8) := ([([97] : List UInt8), ([98] : List UInt8)] : List (List UInt8))
 ((passkeycast_Deck_Next (r8.1.1.1, ()) (2 : Int)).bind fun r10 => (bif (decide ((0 : Int) ≤ r10.2.1) && decide (r10.2.1 < (2 : Int))) then (((v9)[(r10.2.1).toNat]?).bind fun x11 => ((passkeycast_Deck_Next (r10.1.1.1, ()) (2 : Int)).bind fun r12 => ((passkeycast_Deck_Next (r12.1.1.1, ()) (2 : Int)).bind fun r13 => ((passkeycast_Deck_Next (r13.1.1.1, ()) (4 : Int)).bind fun r14 => (bif (decide ((0 : Int) ≤ r14.2.1) && decide (r14.2.1 < (4 : Int))) then (((([(1 : Int), (1 : Int), (5 : Int), (4 : Int)] : List (Int)))[(r14.2.1).toNat]?).bind fun x15 => (some (((r14.1.1.1, ()), ()), ((⟨x3, r4.2.1, r5.2.1, r8.2.1, (0 : Int), x11, [], ([(UInt8.ofBitVec (BitVec.ofInt 8 r12.2.1))] : List (UInt8)), 0#64, (BitVec.ofInt 64 r6.2.1), r13.2.1, x15, r7.2.1, (0 : Int)⟩ : ApiRecord), ()))))
 else none)))))
 else none))))
 else (bif (decide (x3 = (4 : Int))) then ((passkeycast_Deck_Next (r7.1.1.1, ()) (6 : Int)).bind fun r16 => (let v17 : Int := (IntKind.wrap .i64 ((2 : Int) - (IntKind.wrap .i64 (Int.tdiv r16.2.1 (5 : Int)))))
 ((passkeycast_Deck_Next (r16.1.1.1, ()) (2 : Int)).bind fun r18 => ((passkeycast_Deck_Next (r18.1.1.1, ()) (2 : Int)).bind fun r19 => ((passkeycast_Deck_Next (r19.1.1.1, ()) (4 : Int)).bind fun r20 => (bif (decide ((0 : Int) ≤ r20.2.1) && decide (r20.2.1 < (4 : Int))) then (((([(1 : Int), (1 : Int), (5 : Int), (4 : Int)] : List (Int)))[(r20.2.1).toNat]?).bind fun x21 => ((passkeycast_Deck_Next (r20.1.1.1, ()) (3 : Int)).bind fun r22 => (let v23 : BitVec 64 := (BitVec.ofInt 64 (IntKind.wrap .i64 (Int.tdiv r22.2.1 (2 : Int))))
 (some (((r22.1.1.1, ()), ()), ((⟨x3, r4.2.1, r5.2.1, (0 : Int), v17, ([] : List UInt8), [], ([(UInt8.ofBitVec (BitVec.ofInt 8 r18.2.1))] : List (UInt8)), v23, (BitVec.ofInt 64 r6.2.1), r19.2.1, x21, r7.2.1, (0 : Int)⟩ : ApiRecord), ()))))))
 else none))))))
 else (bif (decide (x3 = (6 : Int))) then ((passkeycast_Deck_Next (r7.1.1.1, ()) (3 : Int)).bind fun r24 => ((passkeycast_Deck_Next (r24.1.1.1, ()) (6 : Int)).bind fun r25 => (let v26 : Int := (IntKind.wrap .i64 ((2 : Int) - (IntKind.wrap .i64 (Int.tdiv r25.2.1 (5 : Int)))))
 (let v27 : List (List UInt8) := ([([] : List UInt8), ([97] : List UInt8), ([98] : List UInt8)] : List (List UInt8))
 ((passkeycast_Deck_Next (r25.1.1.1, ()) (3 : Int)).bind fun r28 => (bif (decide ((0 : Int) ≤ r28.2.1) && decide (r28.2.1 < (3 : Int))) then (((v27)[(r28.2.1).toNat]?).bind fun x29 => ((passkeycast_Deck_Next (r28.1.1.1, ()) (2 : Int)).bind fun r30 => (some (((r30.1.1.1, ()), ()), ((⟨x3, r4.2.1, r5.2.1, r24.2.1, v26, x29, ([(UInt8.ofBitVec (BitVec.ofInt 8 r30.2.1))] : List (UInt8)), [], 0#64, (BitVec.ofInt 64 r6.2.1), (0 : Int), (0 : Int), r7.2.1, (0 : Int)⟩ : ApiRecord), ())))))
 else none))))))
 else (bif (decide (x3 = (5 : Int))) then ((passkeycast_Deck_Next (r7.1.1.1, ()) (6 : Int)).bind fun r31 => (let v32 : Int := (IntKind.wrap .i64 ((2 : Int) - (IntKind.wrap .i64 (Int.tdiv r31.2.1 (5 : Int)))))
 ((passkeycast_Deck_Next (r31.1.1.1, ()) (2 : Int)).bind fun r33 => ((passkeycast_Deck_Next (r33.1.1.1, ()) (3 : Int)).bind fun r34 => (let v35 : BitVec 64 := (BitVec.ofInt 64 (IntKind.wrap .i64 (Int.tdiv r34.2.1 (2 : Int))))
 (some (((r34.1.1.1, ()), ()), ((⟨x3, r4.2.1, r5.2.1, (0 : Int), v32, ([] : List UInt8), ([(UInt8.ofBitVec (BitVec.ofInt 8 r33.2.1))] : List (UInt8)), [], v35, (BitVec.ofInt 64 r6.2.1), (0 : Int), (0 : Int), r7.2.1, (0 : Int)⟩ : ApiRecord), ()))))))))
 else (bif (decide (x3 = (2 : Int))) then ((passkeycast_Deck_Next (r7.1.1.1, ()) (4 : Int)).bind fun r36 => (some (((r36.1.1.1, ()), ()), ((⟨x3, r4.2.1, r5.2.1, (IntKind.wrap .i64 ((1 : Int) + r36.2.1)), (0 : Int), ([] : List UInt8), [], [], 0#64, (BitVec.ofInt 64 r6.2.1), (0 : Int), (0 : Int), r7.2.1, (0 : Int)⟩ : ApiRecord), ()))))
 else (some (((r7.1.1.1, ()), ()), ((⟨x3, r4.2.1, r5.2.1, (0 : Int), (0 : Int), ([] : List UInt8), [], [], 0#64, (BitVec.ofInt 64 r6.2.1), (0 : Int), (0 : Int), r7.2.1, (0 : Int)⟩ : ApiRecord), ()))))))))
 else (bif (decide (x3 = (7 : Int))) then ((passkeycast_Deck_Next (r7.1.1.1, ()) (3 : Int)).bind fun r37 => (let v38 : List (List UInt8) := ([([97] : List UInt8), ([98] : List UInt8)] : List (List UInt8))
 ((passkeycast_Deck_Next (r37.1.1.1, ()) (2 : Int)).bind fun r39 => (bif (decide ((0 : Int) ≤ r39.2.1) && decide (r39.2.1 < (2 : Int))) then (((v38)[(r39.2.1).toNat]?).bind fun x40 => ((passkeycast_Deck_Next (r39.1.1.1, ()) (2 : Int)).bind fun r41 => ((passkeycast_Deck_Next (r41.1.1.1, ()) (2 : Int)).bind fun r42 => ((passkeycast_Deck_Next (r42.1.1.1, ()) (4 : Int)).bind fun r43 => (bif (decide ((0 : Int) ≤ r43.2.1) && decide (r43.2.1 < (4 : Int))) then (((([(1 : Int), (1 : Int), (5 : Int), (4 : Int)] : List (Int)))[(r43.2.1).toNat]?).bind fun x44 => (some (((r43.1.1.1, ()), ()), ((⟨x3, r4.2.1, r5.2.1, r37.2.1, (0 : Int), x40, [], ([(UInt8.ofBitVec (BitVec.ofInt 8 r41.2.1))] : List (UInt8)), 0#64, (BitVec.ofInt 64 r6.2.1), r42.2.1, x44, r7.2.1, (0 : Int)⟩ : ApiRecord), ()))))
 else none)))))
 else none))))
 else (bif (decide (x3 = (4 : Int))) then ((passkeycast_Deck_Next (r7.1.1.1, ()) (6 : Int)).bind fun r45 => (let v46 : Int := (IntKind.wrap .i64 ((2 : Int) - (IntKind.wrap .i64 (Int.tdiv r45.2.1 (5 : Int)))))
 ((passkeycast_Deck_Next (r45.1.1.1, ()) (2 : Int)).bind fun r47 => ((passkeycast_Deck_Next (r47.1.1.1, ()) (2 : Int)).bind fun r48 => ((passkeycast_Deck_Next (r48.1.1.1, ()) (4 : Int)).bind fun r49 => (bif (decide ((0 : Int) ≤ r49.2.1) && decide (r49.2.1 < (4 : Int))) then (((([(1 : Int), (1 : Int), (5 : Int), (4 : Int)] : List (Int)))[(r49.2.1).toNat]?).bind fun x50 => ((passkeycast_Deck_Next (r49.1.1.1, ()) (3 : Int)).bind fun r51 => (let v52 : BitVec 64 := (BitVec.ofInt 64 (IntKind.wrap .i64 (Int.tdiv r51.2.1 (2 : Int))))
 (some (((r51.1.1.1, ()), ()), ((⟨x3, r4.2.1, r5.2.1, (0 : Int), v46, ([] : List UInt8), [], ([(UInt8.ofBitVec (BitVec.ofInt 8 r47.2.1))] : List (UInt8)), v52, (BitVec.ofInt 64 r6.2.1), r48.2.1, x50, r7.2.1, (0 : Int)⟩ : ApiRecord), ()))))))
 else none))))))
 else (bif (decide (x3 = (6 : Int))) then ((passkeycast_Deck_Next (r7.1.1.1, ()) (3 : Int)).bind fun r53 => ((passkeycast_Deck_Next (r53.1.1.1, ()) (6 : Int)).bind fun r54 => (let v55 : Int := (IntKind.wrap .i64 ((2 : Int) - (IntKind.wrap .i64 (Int.tdiv r54.2.1 (5 : Int)))))
 (let v56 : List (List UInt8) := ([([] : List UInt8), ([97] : List UInt8), ([98] : List UInt8)] : List (List UInt8))
 ((passkeycast_Deck_Next (r54.1.1.1, ()) (3 : Int)).bind fun r57 => (bif (decide ((0 : Int) ≤ r57.2.1) && decide (r57.2.1 < (3 : Int))) then (((v56)[(r57.2.1).toNat]?).bind fun x58 => ((passkeycast_Deck_Next (r57.1.1.1, ()) (2 : Int)).bind fun r59 => (some (((r59.1.1.1, ()), ()), ((⟨x3, r4.2.1, r5.2.1, r53.2.1, v55, x58, ([(UInt8.ofBitVec (BitVec.ofInt 8 r59.2.1))] : List (UInt8)), [], 0#64, (BitVec.ofInt 64 r6.2.1), (0 : Int), (0 : Int), r7.2.1, (0 : Int)⟩ : ApiRecord), ())))))
 else none))))))
 else (bif (decide (x3 = (5 : Int))) then ((passkeycast_Deck_Next (r7.1.1.1, ()) (6 : Int)).bind fun r60 => (let v61 : Int := (IntKind.wrap .i64 ((2 : Int) - (IntKind.wrap .i64 (Int.tdiv r60.2.1 (5 : Int)))))
 ((passkeycast_Deck_Next (r60.1.1.1, ()) (2 : Int)).bind fun r62 => ((passkeycast_Deck_Next (r62.1.1.1, ()) (3 : Int)).bind fun r63 => (let v64 : BitVec 64 := (BitVec.ofInt 64 (IntKind.wrap .i64 (Int.tdiv r63.2.1 (2 : Int))))
 (some (((r63.1.1.1, ()), ()), ((⟨x3, r4.2.1, r5.2.1, (0 : Int), v61, ([] : List UInt8), ([(UInt8.ofBitVec (BitVec.ofInt 8 r62.2.1))] : List (UInt8)), [], v64, (BitVec.ofInt 64 r6.2.1), (0 : Int), (0 : Int), r7.2.1, (0 : Int)⟩ : ApiRecord), ()))))))))
 else (bif (decide (x3 = (2 : Int))) then ((passkeycast_Deck_Next (r7.1.1.1, ()) (4 : Int)).bind fun r65 => (some (((r65.1.1.1, ()), ()), ((⟨x3, r4.2.1, r5.2.1, (IntKind.wrap .i64 ((1 : Int) + r65.2.1)), (0 : Int), ([] : List UInt8), [], [], 0#64, (BitVec.ofInt 64 r6.2.1), (0 : Int), (0 : Int), r7.2.1, (0 : Int)⟩ : ApiRecord), ()))))
 else (some (((r7.1.1.1, ()), ()), ((⟨x3, r4.2.1, r5.2.1, (0 : Int), (0 : Int), ([] : List UInt8), [], [], 0#64, (BitVec.ofInt 64 r6.2.1), (0 : Int), (0 : Int), r7.2.1, (0 : Int)⟩ : ApiRecord), ()))))))))))))))
 else none)))

def S_passkeycast_Deck_Record : FSpec T := ⟨[.ptr [(.v (.agg 2))]], [(.v (.agg 3))], fun x => passkeycast_Deck_Record x.1⟩

def E_passkeycast_Deck_Record : Env T := ⟨tab.find, cd, globs, flc, fun f ds => match f with
    | 12 => some S_passkeycast_Deck_Next
    | _ => none, fun f => match f with
    | _ => false⟩

def A_passkeycast_Deck_Record : Loc2 T := ⟨fun id => match id with
    | _ => none, fun r => match r with
    | _ => none, fun r => match r with
    | 2 => true
    | 6 => true
    | 8 => true
    | 10 => true
    | _ => false⟩

theorem passkeycast_Deck_Record_eq (a0 : (PasskeycastDeck × Unit)) : run E_passkeycast_Deck_Record A_passkeycast_Deck_Record (Try.f8.body.getD .skip) (enterT cd [.ptr [(.v (.agg 2))]] (a0, ())) (retK E_passkeycast_Deck_Record Try.f8.results.toList [.ptr [(.v (.agg 2))]] [(.v (.agg 3))]) = passkeycast_Deck_Record a0 := by kernel_rfl

theorem passkeycast_Deck_Record_env : EnvOk Try.prog E_passkeycast_Deck_Record := envOk (E := E_passkeycast_Deck_Record) cd_ok tys fl_ok fun f ds S h => by
    dsimp only [E_passkeycast_Deck_Record] at h
    split at h
    · cases h; exact passkeycast_Deck_Next_ok
    · cases h

theorem passkeycast_Deck_Record_ok : SoundT Try.prog cd gdn 8 S_passkeycast_Deck_Record :=
  sound_fn (E := E_passkeycast_Deck_Record) (A := A_passkeycast_Deck_Record) (done := []) (c := (Try.f8.body.getD .skip)) hmix passkeycast_Deck_Record_env Try.func8 rfl (by kernel_rfl) (by kernel_rfl) done_nil (by kernel_rfl) (by kernel_rfl) (fun x => passkeycast_Deck_Record_eq x.1)

def passkeylaw41_story : Option ((Unit) × ((List (ApiRecord)) × Unit)) :=
 (let v1 : List (ApiRecord) := ([(⟨(6 : Int), (0 : Int), (0 : Int), (4 : Int), (2 : Int), ([97, 108, 105, 99, 101] : List UInt8), ([(2 : UInt8)] : List (UInt8)), [], 0#64, 0#64, (0 : Int), (0 : Int), (0 : Int), (0 : Int)⟩ : ApiRecord), (⟨(5 : Int), (0 : Int), (0 : Int), (0 : Int), (2 : Int), ([104, 116, 116, 112, 115, 58, 47, 47, 97, 46, 101, 120, 97, 109, 112, 108, 101] : List UInt8), ([(2 : UInt8)] : List (UInt8)), [], 8#64, 9#64, (0 : Int), (0 : Int), (0 : Int), (0 : Int)⟩ : ApiRecord), (⟨(3 : Int), (0 : Int), (0 : Int), (0 : Int), (2 : Int), ([] : List UInt8), [], [], 8#64, 9#64, (0 : Int), (0 : Int), (0 : Int), (0 : Int)⟩ : ApiRecord), (⟨(2 : Int), (1 : Int), (0 : Int), (1 : Int), (0 : Int), ([] : List UInt8), [], [], 0#64, 0#64, (0 : Int), (0 : Int), (0 : Int), (0 : Int)⟩ : ApiRecord), (⟨(4 : Int), (1 : Int), (0 : Int), (0 : Int), (2 : Int), ([] : List UInt8), [], ([(1 : UInt8)] : List (UInt8)), 8#64, 9#64, (3 : Int), (1 : Int), (0 : Int), (0 : Int)⟩ : ApiRecord), (⟨(8 : Int), (1 : Int), (0 : Int), (4 : Int), (0 : Int), ([97, 108, 105, 99, 101] : List UInt8), [], ([(1 : UInt8)] : List (UInt8)), 0#64, 9#64, (3 : Int), (1 : Int), (0 : Int), (0 : Int)⟩ : ApiRecord)] : List (ApiRecord))
 (some ((), (v1, ()))))

def S_passkeylaw41_story : FSpec T := ⟨[], [(.own 3)], fun x => passkeylaw41_story ⟩

def E_passkeylaw41_story : Env T := ⟨tab.find, cd, globs, flc, fun f ds => match f with
    | _ => none, fun f => match f with
    | _ => false⟩

def A_passkeylaw41_story : Loc2 T := ⟨fun id => match id with
    | _ => none, fun r => match r with
    | _ => none, fun r => match r with
    | _ => false⟩

theorem passkeylaw41_story_eq : run E_passkeylaw41_story A_passkeylaw41_story (Try.f9.body.getD .skip) (enterT cd [] ()) (retK E_passkeylaw41_story Try.f9.results.toList [] [(.own 3)]) = passkeylaw41_story  := by kernel_rfl

theorem passkeylaw41_story_env : EnvOk Try.prog E_passkeylaw41_story := envOk (E := E_passkeylaw41_story) cd_ok tys fl_ok fun f ds S h => by cases h

theorem passkeylaw41_story_ok : SoundT Try.prog cd gdn 9 S_passkeylaw41_story :=
  sound_fn (E := E_passkeylaw41_story) (A := A_passkeylaw41_story) (done := []) (c := (Try.f9.body.getD .skip)) hmix passkeylaw41_story_env Try.func9 rfl (by kernel_rfl) (by kernel_rfl) done_nil (by kernel_rfl) (by kernel_rfl) (fun x => passkeylaw41_story_eq )

def monitor_Explain_1 (a0 : ApiRecord) (a1 : ApiRecord) : Option ((Unit) × (Bool × Unit)) :=
 (bif (decide (a0.kind = (6 : Int))) then (bif (decide (a0.who = a1.who)) then (bif (decide (a0.number = a1.number)) then (some ((), ((decide (a0.kind2 = (2 : Int))), ())))
 else (some ((), (false, ()))))
 else (some ((), (false, ()))))
 else (some ((), (false, ()))))

def S_monitor_Explain_1 : FSpec T := ⟨[.f (.v (.ref (.agg 3))), .f (.v (.ref (.ref (.agg 3))))], [(.v .bool)], fun x => monitor_Explain_1 x.1 x.2.1⟩

def E_monitor_Explain_1 : Env T := ⟨tab.find, cd, globs, flc, fun f ds => match f with
    | _ => none, fun f => match f with
    | _ => false⟩

def A_monitor_Explain_1 : Loc2 T := ⟨fun id => match id with
    | _ => none, fun r => match r with
    | _ => none, fun r => match r with
    | _ => false⟩

theorem monitor_Explain_1_eq (a0 : ApiRecord) (a1 : ApiRecord) : run E_monitor_Explain_1 A_monitor_Explain_1 (Try.f16.body.getD .skip) (enterT cd [.f (.v (.ref (.agg 3))), .f (.v (.ref (.ref (.agg 3))))] (a0, a1, ())) (retK E_monitor_Explain_1 Try.f16.results.toList [.f (.v (.ref (.agg 3))), .f (.v (.ref (.ref (.agg 3))))] [(.v .bool)]) = monitor_Explain_1 a0 a1 := by kernel_rfl

theorem monitor_Explain_1_env : EnvOk Try.prog E_monitor_Explain_1 := envOk (E := E_monitor_Explain_1) cd_ok tys fl_ok fun f ds S h => by cases h

theorem monitor_Explain_1_ok : SoundT Try.prog cd gdn 16 S_monitor_Explain_1 :=
  sound_fn (E := E_monitor_Explain_1) (A := A_monitor_Explain_1) (done := []) (c := (Try.f16.body.getD .skip)) hmix monitor_Explain_1_env Try.func16 rfl (by kernel_rfl) (by kernel_rfl) done_nil (by kernel_rfl) (by kernel_rfl) (fun x => monitor_Explain_1_eq x.1 x.2.1)

def monitor_last_L0b (y0 : (List (ApiRecord))) (y1 : Int) (y2 : (ApiRecord × Unit)) (y3 : Int) : Option (((List (ApiRecord)) × Int × (ApiRecord × Unit) × Int × Unit) ⊕ ((Int × Unit) ⊕ (Unit))) :=
 (bif (decide (y1 ≤ y3)) then ((getI y0 y3).bind fun x1 => ((monitor_Explain_1 x1 y2.1).bind fun r2 => (bif r2.2.1 then (some (Sum.inr (Sum.inl (y3, ()))))
 else (some (Sum.inl (y0, y1, (y2.1, ()), (IntKind.wrap .i64 (y3 - (1 : Int))), ()))))))
 else (some (Sum.inr (Sum.inr ()))))

def monitor_last_L0 (y : ((List (ApiRecord)) × Int × (ApiRecord × Unit) × Int × Unit)) : Option ((Int × Unit) ⊕ (Unit)) := iter (fun (y : ((List (ApiRecord)) × Int × (ApiRecord × Unit) × Int × Unit)) => monitor_last_L0b y.1 y.2.1 y.2.2.1 y.2.2.2.1) rounds y

def monitor_last (a0 : (List (ApiRecord))) (a1 : Int) (a2 : Int) (a3 : (ApiRecord × Unit)) : Option ((Unit) × (Int × Unit)) :=
 ((monitor_last_L0 (a0, a1, (a3.1, ()), (IntKind.wrap .i64 (a2 - (1 : Int))), ())).bind (Sum.elim (fun (z3 : (Int × Unit)) => (some ((), (z3.1, ())))) (fun (z4 : (Unit)) => (some ((), ((-1 : Int), ()))))))

def S_monitor_last : FSpec T := ⟨[.f (.v (.rs 3)), .f (.v (.int .i64)), .f (.v (.int .i64)), .f (.v (.fn 16 (.cons (.ref (.ref (.agg 3))) .nil)))], [(.v (.int .i64))], fun x => monitor_last x.1 x.2.1 x.2.2.1 x.2.2.2.1⟩

def E_monitor_last : Env T := ⟨tab.find, cd, globs, flc, fun f ds => match f with
    | 16 => some S_monitor_Explain_1
    | _ => none, fun f => match f with
    | 16 => true
    | _ => false⟩

def A_monitor_last : Loc2 T := ⟨fun id => match id with
    | 0 => some ⟨[(0, .f (.v (.rs 3))), (1, .f (.v (.int .i64))), (3, .f (.v (.fn 16 (.cons (.ref (.ref (.agg 3))) .nil)))), (9, .f (.v (.int .i64)))], [(.ret, [(8, .f (.v (.int .i64)))]), (.exit 0, [])], monitor_last_L0⟩
    | _ => none, fun r => match r with
    | _ => none, fun r => match r with
    | _ => false⟩

theorem monitor_last_L0_eq (y0 : (List (ApiRecord))) (y1 : Int) (y2 : (ApiRecord × Unit)) (y3 : Int) : run E_monitor_last A_monitor_last (loopAt 0 (Try.f15.body.getD .skip)) (lay cd [(0, .f (.v (.rs 3))), (1, .f (.v (.int .i64))), (3, .f (.v (.fn 16 (.cons (.ref (.ref (.agg 3))) .nil)))), (9, .f (.v (.int .i64)))] (y0, y1, y2, y3, ())) (roundK cd [(0, .f (.v (.rs 3))), (1, .f (.v (.int .i64))), (3, .f (.v (.fn 16 (.cons (.ref (.ref (.agg 3))) .nil)))), (9, .f (.v (.int .i64)))] [(.ret, [(8, .f (.v (.int .i64)))]), (.exit 0, [])]) = monitor_last_L0b y0 y1 y2 y3 := by kernel_rfl

theorem monitor_last_eq (a0 : (List (ApiRecord))) (a1 : Int) (a2 : Int) (a3 : (ApiRecord × Unit)) : run E_monitor_last A_monitor_last (Try.f15.body.getD .skip) (enterT cd [.f (.v (.rs 3)), .f (.v (.int .i64)), .f (.v (.int .i64)), .f (.v (.fn 16 (.cons (.ref (.ref (.agg 3))) .nil)))] (a0, a1, a2, a3, ())) (retK E_monitor_last Try.f15.results.toList [.f (.v (.rs 3)), .f (.v (.int .i64)), .f (.v (.int .i64)), .f (.v (.fn 16 (.cons (.ref (.ref (.agg 3))) .nil)))] [(.v (.int .i64))]) = monitor_last a0 a1 a2 a3 := by kernel_rfl

theorem monitor_last_env : EnvOk Try.prog E_monitor_last := envOk (E := E_monitor_last) cd_ok tys fl_ok fun f ds S h => by
    dsimp only [E_monitor_last] at h
    split at h
    · cases h; exact monitor_Explain_1_ok
    · cases h

theorem monitor_last_L0_ok : LoopOk Try.prog E_monitor_last Try.f15.ntmps (kqOf S_monitor_last.ps 0) (loopAt 0 (Try.f15.body.getD .skip)) ⟨[(0, .f (.v (.rs 3))), (1, .f (.v (.int .i64))), (3, .f (.v (.fn 16 (.cons (.ref (.ref (.agg 3))) .nil)))), (9, .f (.v (.int .i64)))], [(.ret, [(8, .f (.v (.int .i64)))]), (.exit 0, [])], monitor_last_L0⟩ :=
  loop_ok (A := A_monitor_last) (done := []) (c0 := (Try.f15.body.getD .skip)) hmix monitor_last_env done_nil rounds (by kernel_rfl) (by kernel_rfl) (fun x => monitor_last_L0_eq x.1 x.2.1 x.2.2.1 x.2.2.2.1) (fun _ => rfl)

theorem monitor_last_ok : SoundT Try.prog cd gdn 15 S_monitor_last :=
  sound_fn (E := E_monitor_last) (A := A_monitor_last) (done := [0]) (c := (Try.f15.body.getD .skip)) hmix monitor_last_env Try.func15 rfl (by kernel_rfl) (by kernel_rfl) (done_cons rfl monitor_last_L0_ok done_nil) (by kernel_rfl) (by kernel_rfl) (fun x => monitor_last_eq x.1 x.2.1 x.2.2.1 x.2.2.2.1)

def monitor_Explain_2 (a0 : ApiRecord) (a1 : ApiRecord) : Option ((Unit) × (Bool × Unit)) :=
 (bif (decide (a0.kind = (7 : Int))) then (bif (decide (a0.who = a1.who)) then (some ((), ((decide (a0.number = a1.number)), ())))
 else (some ((), (false, ()))))
 else (bif (decide (a0.kind = (8 : Int))) then (bif (decide (a0.who = a1.who)) then (some ((), ((decide (a0.number = a1.number)), ())))
 else (some ((), (false, ()))))
 else (some ((), (false, ())))))

def S_monitor_Explain_2 : FSpec T := ⟨[.f (.v (.ref (.agg 3))), .f (.v (.ref (.ref (.agg 3))))], [(.v .bool)], fun x => monitor_Explain_2 x.1 x.2.1⟩

def E_monitor_Explain_2 : Env T := ⟨tab.find, cd, globs, flc, fun f ds => match f with
    | _ => none, fun f => match f with
    | _ => false⟩

def A_monitor_Explain_2 : Loc2 T := ⟨fun id => match id with
    | _ => none, fun r => match r with
    | _ => none, fun r => match r with
    | _ => false⟩

theorem monitor_Explain_2_eq (a0 : ApiRecord) (a1 : ApiRecord) : run E_monitor_Explain_2 A_monitor_Explain_2 (Try.f17.body.getD .skip) (enterT cd [.f (.v (.ref (.agg 3))), .f (.v (.ref (.ref (.agg 3))))] (a0, a1, ())) (retK E_monitor_Explain_2 Try.f17.results.toList [.f (.v (.ref (.agg 3))), .f (.v (.ref (.ref (.agg 3))))] [(.v .bool)]) = monitor_Explain_2 a0 a1 := by kernel_rfl

theorem monitor_Explain_2_env : EnvOk Try.prog E_monitor_Explain_2 := envOk (E := E_monitor_Explain_2) cd_ok tys fl_ok fun f ds S h => by cases h

theorem monitor_Explain_2_ok : SoundT Try.prog cd gdn 17 S_monitor_Explain_2 :=
  sound_fn (E := E_monitor_Explain_2) (A := A_monitor_Explain_2) (done := []) (c := (Try.f17.body.getD .skip)) hmix monitor_Explain_2_env Try.func17 rfl (by kernel_rfl) (by kernel_rfl) done_nil (by kernel_rfl) (by kernel_rfl) (fun x => monitor_Explain_2_eq x.1 x.2.1)

def monitor_last_1_L0b (y0 : (List (ApiRecord))) (y1 : Int) (y2 : (ApiRecord × Unit)) (y3 : Int) : Option (((List (ApiRecord)) × Int × (ApiRecord × Unit) × Int × Unit) ⊕ ((Int × Unit) ⊕ (Unit))) :=
 (bif (decide (y1 ≤ y3)) then ((getI y0 y3).bind fun x1 => ((monitor_Explain_2 x1 y2.1).bind fun r2 => (bif r2.2.1 then (some (Sum.inr (Sum.inl (y3, ()))))
 else (some (Sum.inl (y0, y1, (y2.1, ()), (IntKind.wrap .i64 (y3 - (1 : Int))), ()))))))
 else (some (Sum.inr (Sum.inr ()))))

def monitor_last_1_L0 (y : ((List (ApiRecord)) × Int × (ApiRecord × Unit) × Int × Unit)) : Option ((Int × Unit) ⊕ (Unit)) := iter (fun (y : ((List (ApiRecord)) × Int × (ApiRecord × Unit) × Int × Unit)) => monitor_last_1_L0b y.1 y.2.1 y.2.2.1 y.2.2.2.1) rounds y

def monitor_last_1 (a0 : (List (ApiRecord))) (a1 : Int) (a2 : Int) (a3 : (ApiRecord × Unit)) : Option ((Unit) × (Int × Unit)) :=
 ((monitor_last_1_L0 (a0, a1, (a3.1, ()), (IntKind.wrap .i64 (a2 - (1 : Int))), ())).bind (Sum.elim (fun (z3 : (Int × Unit)) => (some ((), (z3.1, ())))) (fun (z4 : (Unit)) => (some ((), ((-1 : Int), ()))))))

def S_monitor_last_1 : FSpec T := ⟨[.f (.v (.rs 3)), .f (.v (.int .i64)), .f (.v (.int .i64)), .f (.v (.fn 17 (.cons (.ref (.ref (.agg 3))) .nil)))], [(.v (.int .i64))], fun x => monitor_last_1 x.1 x.2.1 x.2.2.1 x.2.2.2.1⟩

def E_monitor_last_1 : Env T := ⟨tab.find, cd, globs, flc, fun f ds => match f with
    | 17 => some S_monitor_Explain_2
    | _ => none, fun f => match f with
    | 17 => true
    | _ => false⟩

def A_monitor_last_1 : Loc2 T := ⟨fun id => match id with
    | 0 => some ⟨[(0, .f (.v (.rs 3))), (1, .f (.v (.int .i64))), (3, .f (.v (.fn 17 (.cons (.ref (.ref (.agg 3))) .nil)))), (9, .f (.v (.int .i64)))], [(.ret, [(8, .f (.v (.int .i64)))]), (.exit 0, [])], monitor_last_1_L0⟩
    | _ => none, fun r => match r with
    | _ => none, fun r => match r with
    | _ => false⟩

theorem monitor_last_1_L0_eq (y0 : (List (ApiRecord))) (y1 : Int) (y2 : (ApiRecord × Unit)) (y3 : Int) : run E_monitor_last_1 A_monitor_last_1 (loopAt 0 (Try.f15.body.getD .skip)) (lay cd [(0, .f (.v (.rs 3))), (1, .f (.v (.int .i64))), (3, .f (.v (.fn 17 (.cons (.ref (.ref (.agg 3))) .nil)))), (9, .f (.v (.int .i64)))] (y0, y1, y2, y3, ())) (roundK cd [(0, .f (.v (.rs 3))), (1, .f (.v (.int .i64))), (3, .f (.v (.fn 17 (.cons (.ref (.ref (.agg 3))) .nil)))), (9, .f (.v (.int .i64)))] [(.ret, [(8, .f (.v (.int .i64)))]), (.exit 0, [])]) = monitor_last_1_L0b y0 y1 y2 y3 := by kernel_rfl

theorem monitor_last_1_eq (a0 : (List (ApiRecord))) (a1 : Int) (a2 : Int) (a3 : (ApiRecord × Unit)) : run E_monitor_last_1 A_monitor_last_1 (Try.f15.body.getD .skip) (enterT cd [.f (.v (.rs 3)), .f (.v (.int .i64)), .f (.v (.int .i64)), .f (.v (.fn 17 (.cons (.ref (.ref (.agg 3))) .nil)))] (a0, a1, a2, a3, ())) (retK E_monitor_last_1 Try.f15.results.toList [.f (.v (.rs 3)), .f (.v (.int .i64)), .f (.v (.int .i64)), .f (.v (.fn 17 (.cons (.ref (.ref (.agg 3))) .nil)))] [(.v (.int .i64))]) = monitor_last_1 a0 a1 a2 a3 := by kernel_rfl

theorem monitor_last_1_env : EnvOk Try.prog E_monitor_last_1 := envOk (E := E_monitor_last_1) cd_ok tys fl_ok fun f ds S h => by
    dsimp only [E_monitor_last_1] at h
    split at h
    · cases h; exact monitor_Explain_2_ok
    · cases h

theorem monitor_last_1_L0_ok : LoopOk Try.prog E_monitor_last_1 Try.f15.ntmps (kqOf S_monitor_last_1.ps 0) (loopAt 0 (Try.f15.body.getD .skip)) ⟨[(0, .f (.v (.rs 3))), (1, .f (.v (.int .i64))), (3, .f (.v (.fn 17 (.cons (.ref (.ref (.agg 3))) .nil)))), (9, .f (.v (.int .i64)))], [(.ret, [(8, .f (.v (.int .i64)))]), (.exit 0, [])], monitor_last_1_L0⟩ :=
  loop_ok (A := A_monitor_last_1) (done := []) (c0 := (Try.f15.body.getD .skip)) hmix monitor_last_1_env done_nil rounds (by kernel_rfl) (by kernel_rfl) (fun x => monitor_last_1_L0_eq x.1 x.2.1 x.2.2.1 x.2.2.2.1) (fun _ => rfl)

theorem monitor_last_1_ok : SoundT Try.prog cd gdn 15 S_monitor_last_1 :=
  sound_fn (E := E_monitor_last_1) (A := A_monitor_last_1) (done := [0]) (c := (Try.f15.body.getD .skip)) hmix monitor_last_1_env Try.func15 rfl (by kernel_rfl) (by kernel_rfl) (done_cons rfl monitor_last_1_L0_ok done_nil) (by kernel_rfl) (by kernel_rfl) (fun x => monitor_last_1_eq x.1 x.2.1 x.2.2.1 x.2.2.2.1)

def bytes_Equal (a0 : (List (UInt8))) (a1 : (List (UInt8))) : Option ((Unit) × (Bool × Unit)) :=
 (some ((), ((decide (a0 = a1)), ())))

def S_bytes_Equal : FSpec T := ⟨[.f (.v (.rs 0)), .f (.v (.rs 0))], [(.v .bool)], fun x => bytes_Equal x.1 x.2.1⟩

def E_bytes_Equal : Env T := ⟨tab.find, cd, globs, flc, fun f ds => match f with
    | _ => none, fun f => match f with
    | _ => false⟩

def A_bytes_Equal : Loc2 T := ⟨fun id => match id with
    | _ => none, fun r => match r with
    | _ => none, fun r => match r with
    | _ => false⟩

theorem bytes_Equal_eq (a0 : (List (UInt8))) (a1 : (List (UInt8))) : run E_bytes_Equal A_bytes_Equal (Try.f19.body.getD .skip) (enterT cd [.f (.v (.rs 0)), .f (.v (.rs 0))] (a0, a1, ())) (retK E_bytes_Equal Try.f19.results.toList [.f (.v (.rs 0)), .f (.v (.rs 0))] [(.v .bool)]) = bytes_Equal a0 a1 := by kernel_rfl

theorem bytes_Equal_env : EnvOk Try.prog E_bytes_Equal := envOk (E := E_bytes_Equal) cd_ok tys fl_ok fun f ds S h => by cases h

theorem bytes_Equal_ok : SoundT Try.prog cd gdn 19 S_bytes_Equal :=
  sound_fn (E := E_bytes_Equal) (A := A_bytes_Equal) (done := []) (c := (Try.f19.body.getD .skip)) hmix bytes_Equal_env Try.func19 rfl (by kernel_rfl) (by kernel_rfl) done_nil (by kernel_rfl) (by kernel_rfl) (fun x => bytes_Equal_eq x.1 x.2.1)

def monitor_Explain_3 (a0 : ApiRecord) (a1 : ApiRecord) : Option ((Unit) × (Bool × Unit)) :=
 (bif (decide (a0.kind = (4 : Int))) then (bif (decide (a0.kind2 = (2 : Int))) then ((bytes_Equal a0.iD a1.iD).bind fun r1 => (bif r1.2.1 then (bif (decide (a0.leaf = a1.leaf)) then (bif (decide (a0.hash = a1.hash)) then (some ((), ((decide (a0.flags = a1.flags)), ())))
 else (some ((), (false, ()))))
 else (some ((), (false, ()))))
 else (some ((), (false, ())))))
 else (some ((), (false, ()))))
 else (some ((), (false, ()))))

def S_monitor_Explain_3 : FSpec T := ⟨[.f (.v (.ref (.agg 3))), .f (.v (.ref (.ref (.agg 3))))], [(.v .bool)], fun x => monitor_Explain_3 x.1 x.2.1⟩

def E_monitor_Explain_3 : Env T := ⟨tab.find, cd, globs, flc, fun f ds => match f with
    | 19 => some S_bytes_Equal
    | _ => none, fun f => match f with
    | 19 => true
    | _ => false⟩

def A_monitor_Explain_3 : Loc2 T := ⟨fun id => match id with
    | _ => none, fun r => match r with
    | _ => none, fun r => match r with
    | _ => false⟩

theorem monitor_Explain_3_eq (a0 : ApiRecord) (a1 : ApiRecord) : run E_monitor_Explain_3 A_monitor_Explain_3 (Try.f18.body.getD .skip) (enterT cd [.f (.v (.ref (.agg 3))), .f (.v (.ref (.ref (.agg 3))))] (a0, a1, ())) (retK E_monitor_Explain_3 Try.f18.results.toList [.f (.v (.ref (.agg 3))), .f (.v (.ref (.ref (.agg 3))))] [(.v .bool)]) = monitor_Explain_3 a0 a1 := by kernel_rfl

theorem monitor_Explain_3_env : EnvOk Try.prog E_monitor_Explain_3 := envOk (E := E_monitor_Explain_3) cd_ok tys fl_ok fun f ds S h => by
    dsimp only [E_monitor_Explain_3] at h
    split at h
    · cases h; exact bytes_Equal_ok
    · cases h

theorem monitor_Explain_3_ok : SoundT Try.prog cd gdn 18 S_monitor_Explain_3 :=
  sound_fn (E := E_monitor_Explain_3) (A := A_monitor_Explain_3) (done := []) (c := (Try.f18.body.getD .skip)) hmix monitor_Explain_3_env Try.func18 rfl (by kernel_rfl) (by kernel_rfl) done_nil (by kernel_rfl) (by kernel_rfl) (fun x => monitor_Explain_3_eq x.1 x.2.1)

def monitor_last_2_L0b (y0 : (List (ApiRecord))) (y1 : Int) (y2 : (ApiRecord × Unit)) (y3 : Int) : Option (((List (ApiRecord)) × Int × (ApiRecord × Unit) × Int × Unit) ⊕ ((Int × Unit) ⊕ (Unit))) :=
 (bif (decide (y1 ≤ y3)) then ((getI y0 y3).bind fun x1 => ((monitor_Explain_3 x1 y2.1).bind fun r2 => (bif r2.2.1 then (some (Sum.inr (Sum.inl (y3, ()))))
 else (some (Sum.inl (y0, y1, (y2.1, ()), (IntKind.wrap .i64 (y3 - (1 : Int))), ()))))))
 else (some (Sum.inr (Sum.inr ()))))

def monitor_last_2_L0 (y : ((List (ApiRecord)) × Int × (ApiRecord × Unit) × Int × Unit)) : Option ((Int × Unit) ⊕ (Unit)) := iter (fun (y : ((List (ApiRecord)) × Int × (ApiRecord × Unit) × Int × Unit)) => monitor_last_2_L0b y.1 y.2.1 y.2.2.1 y.2.2.2.1) rounds y

def monitor_last_2 (a0 : (List (ApiRecord))) (a1 : Int) (a2 : Int) (a3 : (ApiRecord × Unit)) : Option ((Unit) × (Int × Unit)) :=
 ((monitor_last_2_L0 (a0, a1, (a3.1, ()), (IntKind.wrap .i64 (a2 - (1 : Int))), ())).bind (Sum.elim (fun (z3 : (Int × Unit)) => (some ((), (z3.1, ())))) (fun (z4 : (Unit)) => (some ((), ((-1 : Int), ()))))))

def S_monitor_last_2 : FSpec T := ⟨[.f (.v (.rs 3)), .f (.v (.int .i64)), .f (.v (.int .i64)), .f (.v (.fn 18 (.cons (.ref (.ref (.agg 3))) .nil)))], [(.v (.int .i64))], fun x => monitor_last_2 x.1 x.2.1 x.2.2.1 x.2.2.2.1⟩

def E_monitor_last_2 : Env T := ⟨tab.find, cd, globs, flc, fun f ds => match f with
    | 18 => some S_monitor_Explain_3
    | _ => none, fun f => match f with
    | 18 => true
    | _ => false⟩

def A_monitor_last_2 : Loc2 T := ⟨fun id => match id with
    | 0 => some ⟨[(0, .f (.v (.rs 3))), (1, .f (.v (.int .i64))), (3, .f (.v (.fn 18 (.cons (.ref (.ref (.agg 3))) .nil)))), (9, .f (.v (.int .i64)))], [(.ret, [(8, .f (.v (.int .i64)))]), (.exit 0, [])], monitor_last_2_L0⟩
    | _ => none, fun r => match r with
    | _ => none, fun r => match r with
    | _ => false⟩

theorem monitor_last_2_L0_eq (y0 : (List (ApiRecord))) (y1 : Int) (y2 : (ApiRecord × Unit)) (y3 : Int) : run E_monitor_last_2 A_monitor_last_2 (loopAt 0 (Try.f15.body.getD .skip)) (lay cd [(0, .f (.v (.rs 3))), (1, .f (.v (.int .i64))), (3, .f (.v (.fn 18 (.cons (.ref (.ref (.agg 3))) .nil)))), (9, .f (.v (.int .i64)))] (y0, y1, y2, y3, ())) (roundK cd [(0, .f (.v (.rs 3))), (1, .f (.v (.int .i64))), (3, .f (.v (.fn 18 (.cons (.ref (.ref (.agg 3))) .nil)))), (9, .f (.v (.int .i64)))] [(.ret, [(8, .f (.v (.int .i64)))]), (.exit 0, [])]) = monitor_last_2_L0b y0 y1 y2 y3 := by kernel_rfl

theorem monitor_last_2_eq (a0 : (List (ApiRecord))) (a1 : Int) (a2 : Int) (a3 : (ApiRecord × Unit)) : run E_monitor_last_2 A_monitor_last_2 (Try.f15.body.getD .skip) (enterT cd [.f (.v (.rs 3)), .f (.v (.int .i64)), .f (.v (.int .i64)), .f (.v (.fn 18 (.cons (.ref (.ref (.agg 3))) .nil)))] (a0, a1, a2, a3, ())) (retK E_monitor_last_2 Try.f15.results.toList [.f (.v (.rs 3)), .f (.v (.int .i64)), .f (.v (.int .i64)), .f (.v (.fn 18 (.cons (.ref (.ref (.agg 3))) .nil)))] [(.v (.int .i64))]) = monitor_last_2 a0 a1 a2 a3 := by kernel_rfl

theorem monitor_last_2_env : EnvOk Try.prog E_monitor_last_2 := envOk (E := E_monitor_last_2) cd_ok tys fl_ok fun f ds S h => by
    dsimp only [E_monitor_last_2] at h
    split at h
    · cases h; exact monitor_Explain_3_ok
    · cases h

theorem monitor_last_2_L0_ok : LoopOk Try.prog E_monitor_last_2 Try.f15.ntmps (kqOf S_monitor_last_2.ps 0) (loopAt 0 (Try.f15.body.getD .skip)) ⟨[(0, .f (.v (.rs 3))), (1, .f (.v (.int .i64))), (3, .f (.v (.fn 18 (.cons (.ref (.ref (.agg 3))) .nil)))), (9, .f (.v (.int .i64)))], [(.ret, [(8, .f (.v (.int .i64)))]), (.exit 0, [])], monitor_last_2_L0⟩ :=
  loop_ok (A := A_monitor_last_2) (done := []) (c0 := (Try.f15.body.getD .skip)) hmix monitor_last_2_env done_nil rounds (by kernel_rfl) (by kernel_rfl) (fun x => monitor_last_2_L0_eq x.1 x.2.1 x.2.2.1 x.2.2.2.1) (fun _ => rfl)

theorem monitor_last_2_ok : SoundT Try.prog cd gdn 15 S_monitor_last_2 :=
  sound_fn (E := E_monitor_last_2) (A := A_monitor_last_2) (done := [0]) (c := (Try.f15.body.getD .skip)) hmix monitor_last_2_env Try.func15 rfl (by kernel_rfl) (by kernel_rfl) (done_cons rfl monitor_last_2_L0_ok done_nil) (by kernel_rfl) (by kernel_rfl) (fun x => monitor_last_2_eq x.1 x.2.1 x.2.2.1 x.2.2.2.1)

def monitor_Explain_4 (a0 : ApiRecord) (a1 : ApiRecord) (a2 : (List (ApiRecord))) (a3 : Int) (a4 : Int) : Option ((Unit) × (Bool × Unit)) :=
 (bif (decide (a0.kind = (5 : Int))) then (bif (decide (a0.kind2 = (2 : Int))) then (bif (decide (a0.hash = a1.hash)) then ((getI a2 a3).bind fun x1 => ((bytes_Equal a0.challenge x1.challenge).bind fun r2 => (bif r2.2.1 then ((getI a2 a4).bind fun x3 => (some ((), ((decide (a0.word = x3.word)), ()))))
 else (some ((), (false, ()))))))
 else (some ((), (false, ()))))
 else (some ((), (false, ()))))
 else (some ((), (false, ()))))

def S_monitor_Explain_4 : FSpec T := ⟨[.f (.v (.ref (.agg 3))), .f (.v (.ref (.ref (.agg 3)))), .f (.v (.ref (.rs 3))), .f (.v (.ref (.int .i64))), .f (.v (.ref (.int .i64)))], [(.v .bool)], fun x => monitor_Explain_4 x.1 x.2.1 x.2.2.1 x.2.2.2.1 x.2.2.2.2.1⟩

def E_monitor_Explain_4 : Env T := ⟨tab.find, cd, globs, flc, fun f ds => match f with
    | 19 => some S_bytes_Equal
    | _ => none, fun f => match f with
    | 19 => true
    | _ => false⟩

def A_monitor_Explain_4 : Loc2 T := ⟨fun id => match id with
    | _ => none, fun r => match r with
    | _ => none, fun r => match r with
    | _ => false⟩

theorem monitor_Explain_4_eq (a0 : ApiRecord) (a1 : ApiRecord) (a2 : (List (ApiRecord))) (a3 : Int) (a4 : Int) : run E_monitor_Explain_4 A_monitor_Explain_4 (Try.f20.body.getD .skip) (enterT cd [.f (.v (.ref (.agg 3))), .f (.v (.ref (.ref (.agg 3)))), .f (.v (.ref (.rs 3))), .f (.v (.ref (.int .i64))), .f (.v (.ref (.int .i64)))] (a0, a1, a2, a3, a4, ())) (retK E_monitor_Explain_4 Try.f20.results.toList [.f (.v (.ref (.agg 3))), .f (.v (.ref (.ref (.agg 3)))), .f (.v (.ref (.rs 3))), .f (.v (.ref (.int .i64))), .f (.v (.ref (.int .i64)))] [(.v .bool)]) = monitor_Explain_4 a0 a1 a2 a3 a4 := by kernel_rfl

theorem monitor_Explain_4_env : EnvOk Try.prog E_monitor_Explain_4 := envOk (E := E_monitor_Explain_4) cd_ok tys fl_ok fun f ds S h => by
    dsimp only [E_monitor_Explain_4] at h
    split at h
    · cases h; exact bytes_Equal_ok
    · cases h

theorem monitor_Explain_4_ok : SoundT Try.prog cd gdn 20 S_monitor_Explain_4 :=
  sound_fn (E := E_monitor_Explain_4) (A := A_monitor_Explain_4) (done := []) (c := (Try.f20.body.getD .skip)) hmix monitor_Explain_4_env Try.func20 rfl (by kernel_rfl) (by kernel_rfl) done_nil (by kernel_rfl) (by kernel_rfl) (fun x => monitor_Explain_4_eq x.1 x.2.1 x.2.2.1 x.2.2.2.1 x.2.2.2.2.1)

def monitor_last_3_L0b (y0 : (List (ApiRecord))) (y1 : Int) (y2 : (ApiRecord × (List (ApiRecord)) × Int × Int × Unit)) (y3 : Int) : Option (((List (ApiRecord)) × Int × (ApiRecord × (List (ApiRecord)) × Int × Int × Unit) × Int × Unit) ⊕ ((Int × Unit) ⊕ (Unit))) :=
 (bif (decide (y1 ≤ y3)) then ((getI y0 y3).bind fun x1 => ((monitor_Explain_4 x1 y2.1 y2.2.1 y2.2.2.1 y2.2.2.2.1).bind fun r2 => (bif r2.2.1 then (some (Sum.inr (Sum.inl (y3, ()))))
 else (some (Sum.inl (y0, y1, (y2.1, y2.2.1, y2.2.2.1, y2.2.2.2.1, ()), (IntKind.wrap .i64 (y3 - (1 : Int))), ()))))))
 else (some (Sum.inr (Sum.inr ()))))

def monitor_last_3_L0 (y : ((List (ApiRecord)) × Int × (ApiRecord × (List (ApiRecord)) × Int × Int × Unit) × Int × Unit)) : Option ((Int × Unit) ⊕ (Unit)) := iter (fun (y : ((List (ApiRecord)) × Int × (ApiRecord × (List (ApiRecord)) × Int × Int × Unit) × Int × Unit)) => monitor_last_3_L0b y.1 y.2.1 y.2.2.1 y.2.2.2.1) rounds y

def monitor_last_3 (a0 : (List (ApiRecord))) (a1 : Int) (a2 : Int) (a3 : (ApiRecord × (List (ApiRecord)) × Int × Int × Unit)) : Option ((Unit) × (Int × Unit)) :=
 ((monitor_last_3_L0 (a0, a1, (a3.1, a3.2.1, a3.2.2.1, a3.2.2.2.1, ()), (IntKind.wrap .i64 (a2 - (1 : Int))), ())).bind (Sum.elim (fun (z3 : (Int × Unit)) => (some ((), (z3.1, ())))) (fun (z4 : (Unit)) => (some ((), ((-1 : Int), ()))))))

def S_monitor_last_3 : FSpec T := ⟨[.f (.v (.rs 3)), .f (.v (.int .i64)), .f (.v (.int .i64)), .f (.v (.fn 20 (.cons (.ref (.ref (.agg 3))) (.cons (.ref (.rs 3)) (.cons (.ref (.int .i64)) (.cons (.ref (.int .i64)) .nil))))))], [(.v (.int .i64))], fun x => monitor_last_3 x.1 x.2.1 x.2.2.1 x.2.2.2.1⟩

def E_monitor_last_3 : Env T := ⟨tab.find, cd, globs, flc, fun f ds => match f with
    | 20 => some S_monitor_Explain_4
    | _ => none, fun f => match f with
    | 20 => true
    | _ => false⟩

def A_monitor_last_3 : Loc2 T := ⟨fun id => match id with
    | 0 => some ⟨[(0, .f (.v (.rs 3))), (1, .f (.v (.int .i64))), (3, .f (.v (.fn 20 (.cons (.ref (.ref (.agg 3))) (.cons (.ref (.rs 3)) (.cons (.ref (.int .i64)) (.cons (.ref (.int .i64)) .nil))))))), (9, .f (.v (.int .i64)))], [(.ret, [(8, .f (.v (.int .i64)))]), (.exit 0, [])], monitor_last_3_L0⟩
    | _ => none, fun r => match r with
    | _ => none, fun r => match r with
    | _ => false⟩

theorem monitor_last_3_L0_eq (y0 : (List (ApiRecord))) (y1 : Int) (y2 : (ApiRecord × (List (ApiRecord)) × Int × Int × Unit)) (y3 : Int) : run E_monitor_last_3 A_monitor_last_3 (loopAt 0 (Try.f15.body.getD .skip)) (lay cd [(0, .f (.v (.rs 3))), (1, .f (.v (.int .i64))), (3, .f (.v (.fn 20 (.cons (.ref (.ref (.agg 3))) (.cons (.ref (.rs 3)) (.cons (.ref (.int .i64)) (.cons (.ref (.int .i64)) .nil))))))), (9, .f (.v (.int .i64)))] (y0, y1, y2, y3, ())) (roundK cd [(0, .f (.v (.rs 3))), (1, .f (.v (.int .i64))), (3, .f (.v (.fn 20 (.cons (.ref (.ref (.agg 3))) (.cons (.ref (.rs 3)) (.cons (.ref (.int .i64)) (.cons (.ref (.int .i64)) .nil))))))), (9, .f (.v (.int .i64)))] [(.ret, [(8, .f (.v (.int .i64)))]), (.exit 0, [])]) = monitor_last_3_L0b y0 y1 y2 y3 := by kernel_rfl

theorem monitor_last_3_eq (a0 : (List (ApiRecord))) (a1 : Int) (a2 : Int) (a3 : (ApiRecord × (List (ApiRecord)) × Int × Int × Unit)) : run E_monitor_last_3 A_monitor_last_3 (Try.f15.body.getD .skip) (enterT cd [.f (.v (.rs 3)), .f (.v (.int .i64)), .f (.v (.int .i64)), .f (.v (.fn 20 (.cons (.ref (.ref (.agg 3))) (.cons (.ref (.rs 3)) (.cons (.ref (.int .i64)) (.cons (.ref (.int .i64)) .nil))))))] (a0, a1, a2, a3, ())) (retK E_monitor_last_3 Try.f15.results.toList [.f (.v (.rs 3)), .f (.v (.int .i64)), .f (.v (.int .i64)), .f (.v (.fn 20 (.cons (.ref (.ref (.agg 3))) (.cons (.ref (.rs 3)) (.cons (.ref (.int .i64)) (.cons (.ref (.int .i64)) .nil))))))] [(.v (.int .i64))]) = monitor_last_3 a0 a1 a2 a3 := by kernel_rfl

theorem monitor_last_3_env : EnvOk Try.prog E_monitor_last_3 := envOk (E := E_monitor_last_3) cd_ok tys fl_ok fun f ds S h => by
    dsimp only [E_monitor_last_3] at h
    split at h
    · cases h; exact monitor_Explain_4_ok
    · cases h

theorem monitor_last_3_L0_ok : LoopOk Try.prog E_monitor_last_3 Try.f15.ntmps (kqOf S_monitor_last_3.ps 0) (loopAt 0 (Try.f15.body.getD .skip)) ⟨[(0, .f (.v (.rs 3))), (1, .f (.v (.int .i64))), (3, .f (.v (.fn 20 (.cons (.ref (.ref (.agg 3))) (.cons (.ref (.rs 3)) (.cons (.ref (.int .i64)) (.cons (.ref (.int .i64)) .nil))))))), (9, .f (.v (.int .i64)))], [(.ret, [(8, .f (.v (.int .i64)))]), (.exit 0, [])], monitor_last_3_L0⟩ :=
  loop_ok (A := A_monitor_last_3) (done := []) (c0 := (Try.f15.body.getD .skip)) hmix monitor_last_3_env done_nil rounds (by kernel_rfl) (by kernel_rfl) (fun x => monitor_last_3_L0_eq x.1 x.2.1 x.2.2.1 x.2.2.2.1) (fun _ => rfl)

theorem monitor_last_3_ok : SoundT Try.prog cd gdn 15 S_monitor_last_3 :=
  sound_fn (E := E_monitor_last_3) (A := A_monitor_last_3) (done := [0]) (c := (Try.f15.body.getD .skip)) hmix monitor_last_3_env Try.func15 rfl (by kernel_rfl) (by kernel_rfl) (done_cons rfl monitor_last_3_L0_ok done_nil) (by kernel_rfl) (by kernel_rfl) (fun x => monitor_last_3_eq x.1 x.2.1 x.2.2.1 x.2.2.2.1)

def monitor_Explain_5 (a0 : ApiRecord) (a1 : (List (ApiRecord))) (a2 : Int) : Option ((Unit) × (Bool × Unit)) :=
 (bif (decide (a0.kind = (2 : Int))) then ((getI a1 a2).bind fun x1 => (bif (decide (a0.who = x1.who)) then ((getI a1 a2).bind fun x2 => (bif (decide (x2.since < a0.time)) then (bif (decide (a0.number = (1 : Int))) then (some ((), (true, ())))
 else (bif (decide (a0.number = (2 : Int))) then (some ((), (true, ())))
 else (some ((), ((decide (a0.number = (3 : Int))), ())))))
 else (some ((), (false, ())))))
 else (some ((), (false, ())))))
 else (some ((), (false, ()))))

def S_monitor_Explain_5 : FSpec T := ⟨[.f (.v (.ref (.agg 3))), .f (.v (.ref (.rs 3))), .f (.v (.ref (.int .i64)))], [(.v .bool)], fun x => monitor_Explain_5 x.1 x.2.1 x.2.2.1⟩

def E_monitor_Explain_5 : Env T := ⟨tab.find, cd, globs, flc, fun f ds => match f with
    | _ => none, fun f => match f with
    | _ => false⟩

def A_monitor_Explain_5 : Loc2 T := ⟨fun id => match id with
    | _ => none, fun r => match r with
    | _ => none, fun r => match r with
    | _ => false⟩

theorem monitor_Explain_5_eq (a0 : ApiRecord) (a1 : (List (ApiRecord))) (a2 : Int) : run E_monitor_Explain_5 A_monitor_Explain_5 (Try.f21.body.getD .skip) (enterT cd [.f (.v (.ref (.agg 3))), .f (.v (.ref (.rs 3))), .f (.v (.ref (.int .i64)))] (a0, a1, a2, ())) (retK E_monitor_Explain_5 Try.f21.results.toList [.f (.v (.ref (.agg 3))), .f (.v (.ref (.rs 3))), .f (.v (.ref (.int .i64)))] [(.v .bool)]) = monitor_Explain_5 a0 a1 a2 := by kernel_rfl

theorem monitor_Explain_5_env : EnvOk Try.prog E_monitor_Explain_5 := envOk (E := E_monitor_Explain_5) cd_ok tys fl_ok fun f ds S h => by cases h

theorem monitor_Explain_5_ok : SoundT Try.prog cd gdn 21 S_monitor_Explain_5 :=
  sound_fn (E := E_monitor_Explain_5) (A := A_monitor_Explain_5) (done := []) (c := (Try.f21.body.getD .skip)) hmix monitor_Explain_5_env Try.func21 rfl (by kernel_rfl) (by kernel_rfl) done_nil (by kernel_rfl) (by kernel_rfl) (fun x => monitor_Explain_5_eq x.1 x.2.1 x.2.2.1)

def monitor_last_4_L0b (y0 : (List (ApiRecord))) (y1 : Int) (y2 : ((List (ApiRecord)) × Int × Unit)) (y3 : Int) : Option (((List (ApiRecord)) × Int × ((List (ApiRecord)) × Int × Unit) × Int × Unit) ⊕ ((Int × Unit) ⊕ (Unit))) :=
 (bif (decide (y1 ≤ y3)) then ((getI y0 y3).bind fun x1 => ((monitor_Explain_5 x1 y2.1 y2.2.1).bind fun r2 => (bif r2.2.1 then (some (Sum.inr (Sum.inl (y3, ()))))
 else (some (Sum.inl (y0, y1, (y2.1, y2.2.1, ()), (IntKind.wrap .i64 (y3 - (1 : Int))), ()))))))
 else (some (Sum.inr (Sum.inr ()))))

def monitor_last_4_L0 (y : ((List (ApiRecord)) × Int × ((List (ApiRecord)) × Int × Unit) × Int × Unit)) : Option ((Int × Unit) ⊕ (Unit)) := iter (fun (y : ((List (ApiRecord)) × Int × ((List (ApiRecord)) × Int × Unit) × Int × Unit)) => monitor_last_4_L0b y.1 y.2.1 y.2.2.1 y.2.2.2.1) rounds y

def monitor_last_4 (a0 : (List (ApiRecord))) (a1 : Int) (a2 : Int) (a3 : ((List (ApiRecord)) × Int × Unit)) : Option ((Unit) × (Int × Unit)) :=
 ((monitor_last_4_L0 (a0, a1, (a3.1, a3.2.1, ()), (IntKind.wrap .i64 (a2 - (1 : Int))), ())).bind (Sum.elim (fun (z3 : (Int × Unit)) => (some ((), (z3.1, ())))) (fun (z4 : (Unit)) => (some ((), ((-1 : Int), ()))))))

def S_monitor_last_4 : FSpec T := ⟨[.f (.v (.rs 3)), .f (.v (.int .i64)), .f (.v (.int .i64)), .f (.v (.fn 21 (.cons (.ref (.rs 3)) (.cons (.ref (.int .i64)) .nil))))], [(.v (.int .i64))], fun x => monitor_last_4 x.1 x.2.1 x.2.2.1 x.2.2.2.1⟩

def E_monitor_last_4 : Env T := ⟨tab.find, cd, globs, flc, fun f ds => match f with
    | 21 => some S_monitor_Explain_5
    | _ => none, fun f => match f with
    | 21 => true
    | _ => false⟩

def A_monitor_last_4 : Loc2 T := ⟨fun id => match id with
    | 0 => some ⟨[(0, .f (.v (.rs 3))), (1, .f (.v (.int .i64))), (3, .f (.v (.fn 21 (.cons (.ref (.rs 3)) (.cons (.ref (.int .i64)) .nil))))), (9, .f (.v (.int .i64)))], [(.ret, [(8, .f (.v (.int .i64)))]), (.exit 0, [])], monitor_last_4_L0⟩
    | _ => none, fun r => match r with
    | _ => none, fun r => match r with
    | _ => false⟩

theorem monitor_last_4_L0_eq (y0 : (List (ApiRecord))) (y1 : Int) (y2 : ((List (ApiRecord)) × Int × Unit)) (y3 : Int) : run E_monitor_last_4 A_monitor_last_4 (loopAt 0 (Try.f15.body.getD .skip)) (lay cd [(0, .f (.v (.rs 3))), (1, .f (.v (.int .i64))), (3, .f (.v (.fn 21 (.cons (.ref (.rs 3)) (.cons (.ref (.int .i64)) .nil))))), (9, .f (.v (.int .i64)))] (y0, y1, y2, y3, ())) (roundK cd [(0, .f (.v (.rs 3))), (1, .f (.v (.int .i64))), (3, .f (.v (.fn 21 (.cons (.ref (.rs 3)) (.cons (.ref (.int .i64)) .nil))))), (9, .f (.v (.int .i64)))] [(.ret, [(8, .f (.v (.int .i64)))]), (.exit 0, [])]) = monitor_last_4_L0b y0 y1 y2 y3 := by kernel_rfl

theorem monitor_last_4_eq (a0 : (List (ApiRecord))) (a1 : Int) (a2 : Int) (a3 : ((List (ApiRecord)) × Int × Unit)) : run E_monitor_last_4 A_monitor_last_4 (Try.f15.body.getD .skip) (enterT cd [.f (.v (.rs 3)), .f (.v (.int .i64)), .f (.v (.int .i64)), .f (.v (.fn 21 (.cons (.ref (.rs 3)) (.cons (.ref (.int .i64)) .nil))))] (a0, a1, a2, a3, ())) (retK E_monitor_last_4 Try.f15.results.toList [.f (.v (.rs 3)), .f (.v (.int .i64)), .f (.v (.int .i64)), .f (.v (.fn 21 (.cons (.ref (.rs 3)) (.cons (.ref (.int .i64)) .nil))))] [(.v (.int .i64))]) = monitor_last_4 a0 a1 a2 a3 := by kernel_rfl

theorem monitor_last_4_env : EnvOk Try.prog E_monitor_last_4 := envOk (E := E_monitor_last_4) cd_ok tys fl_ok fun f ds S h => by
    dsimp only [E_monitor_last_4] at h
    split at h
    · cases h; exact monitor_Explain_5_ok
    · cases h

theorem monitor_last_4_L0_ok : LoopOk Try.prog E_monitor_last_4 Try.f15.ntmps (kqOf S_monitor_last_4.ps 0) (loopAt 0 (Try.f15.body.getD .skip)) ⟨[(0, .f (.v (.rs 3))), (1, .f (.v (.int .i64))), (3, .f (.v (.fn 21 (.cons (.ref (.rs 3)) (.cons (.ref (.int .i64)) .nil))))), (9, .f (.v (.int .i64)))], [(.ret, [(8, .f (.v (.int .i64)))]), (.exit 0, [])], monitor_last_4_L0⟩ :=
  loop_ok (A := A_monitor_last_4) (done := []) (c0 := (Try.f15.body.getD .skip)) hmix monitor_last_4_env done_nil rounds (by kernel_rfl) (by kernel_rfl) (fun x => monitor_last_4_L0_eq x.1 x.2.1 x.2.2.1 x.2.2.2.1) (fun _ => rfl)

theorem monitor_last_4_ok : SoundT Try.prog cd gdn 15 S_monitor_last_4 :=
  sound_fn (E := E_monitor_last_4) (A := A_monitor_last_4) (done := [0]) (c := (Try.f15.body.getD .skip)) hmix monitor_last_4_env Try.func15 rfl (by kernel_rfl) (by kernel_rfl) (done_cons rfl monitor_last_4_L0_ok done_nil) (by kernel_rfl) (by kernel_rfl) (fun x => monitor_last_4_eq x.1 x.2.1 x.2.2.1 x.2.2.2.1)

def monitor_Explain (a0 : (List (ApiRecord))) (a1 : Int) : Option ((Unit) × (ApiCause × Int × Unit)) :=
 (bif (decide (a1 < (0 : Int))) then (some ((), ((⟨(0 : Int), (0 : Int), (0 : Int), (0 : Int)⟩ : ApiCause), (9 : Int), ())))
 else (bif (decide (((a0).length : Int) ≤ a1)) then (some ((), ((⟨(0 : Int), (0 : Int), (0 : Int), (0 : Int)⟩ : ApiCause), (9 : Int), ())))
 else ((getI a0 a1).bind fun x1 => (bif (!decide (x1.kind = (8 : Int))) then (some ((), ((⟨(0 : Int), (0 : Int), (0 : Int), (0 : Int)⟩ : ApiCause), (3 : Int), ())))
 else ((monitor_last a0 (0 : Int) a1 (x1, ())).bind fun r2 => (bif (decide (r2.2.1 < (0 : Int))) then (some ((), ((⟨(0 : Int), (0 : Int), (0 : Int), (0 : Int)⟩ : ApiCause), (35 : Int), ())))
 else ((monitor_last_1 a0 (0 : Int) a1 (x1, ())).bind fun r3 => (bif (decide ((0 : Int) ≤ r3.2.1)) then (some ((), ((⟨(0 : Int), (0 : Int), (0 : Int), (0 : Int)⟩ : ApiCause), (35 : Int), ())))
 else ((getI a0 r2.2.1).bind fun x4 => (bif (!decide (x4.text = ([] : List UInt8))) then ((getI a0 r2.2.1).bind fun x5 => (bif (!decide (x5.text = x1.text)) then (some ((), ((⟨(0 : Int), (0 : Int), (0 : Int), (0 : Int)⟩ : ApiCause), (36 : Int), ())))
 else ((monitor_last_2 a0 (0 : Int) a1 (x1, ())).bind fun r6 => (bif (decide (r6.2.1 < (0 : Int))) then (some ((), ((⟨(0 : Int), (0 : Int), (0 : Int), (0 : Int)⟩ : ApiCause), (15 : Int), ())))
 else ((monitor_last_3 a0 (IntKind.wrap .i64 (r2.2.1 + (1 : Int))) r6.2.1 (x1, a0, r2.2.1, r6.2.1, ())).bind fun r7 => (bif (decide (r7.2.1 < (0 : Int))) then (some ((), ((⟨(0 : Int), (0 : Int), (0 : Int), (0 : Int)⟩ : ApiCause), (34 : Int), ())))
 else ((monitor_last_4 a0 (0 : Int) r6.2.1 (a0, r6.2.1, ())).bind fun r8 => (let v9 : Int := (IntKind.wrap .i64 ((BitVec.ofInt (IntKind.bits .i64) x1.flags &&& BitVec.ofInt (IntKind.bits .i64) (1 : Int)).toNat : Int))
 (bif (decide (v9 = (0 : Int))) then (some ((), ((⟨(0 : Int), (0 : Int), (0 : Int), (0 : Int)⟩ : ApiCause), (22 : Int), ())))
 else (bif (decide (r8.2.1 < (0 : Int))) then (some ((), ((⟨(0 : Int), (0 : Int), (0 : Int), (0 : Int)⟩ : ApiCause), (22 : Int), ())))
 else (some ((), ((⟨r2.2.1, r7.2.1, r6.2.1, r8.2.1⟩ : ApiCause), (0 : Int), ())))))))))))))
 else ((monitor_last_2 a0 (0 : Int) a1 (x1, ())).bind fun r10 => (bif (decide (r10.2.1 < (0 : Int))) then (some ((), ((⟨(0 : Int), (0 : Int), (0 : Int), (0 : Int)⟩ : ApiCause), (15 : Int), ())))
 else ((monitor_last_3 a0 (IntKind.wrap .i64 (r2.2.1 + (1 : Int))) r10.2.1 (x1, a0, r2.2.1, r10.2.1, ())).bind fun r11 => (bif (decide (r11.2.1 < (0 : Int))) then (some ((), ((⟨(0 : Int), (0 : Int), (0 : Int), (0 : Int)⟩ : ApiCause), (34 : Int), ())))
 else ((monitor_last_4 a0 (0 : Int) r10.2.1 (a0, r10.2.1, ())).bind fun r12 => (let v13 : Int := (IntKind.wrap .i64 ((BitVec.ofInt (IntKind.bits .i64) x1.flags &&& BitVec.ofInt (IntKind.bits .i64) (1 : Int)).toNat : Int))
 (bif (decide (v13 = (0 : Int))) then (some ((), ((⟨(0 : Int), (0 : Int), (0 : Int), (0 : Int)⟩ : ApiCause), (22 : Int), ())))
 else (bif (decide (r12.2.1 < (0 : Int))) then (some ((), ((⟨(0 : Int), (0 : Int), (0 : Int), (0 : Int)⟩ : ApiCause), (22 : Int), ())))
 else (some ((), ((⟨r2.2.1, r11.2.1, r10.2.1, r12.2.1⟩ : ApiCause), (0 : Int), ())))))))))))))))))))))

def S_monitor_Explain : FSpec T := ⟨[.f (.v (.rs 3)), .f (.v (.int .i64))], [(.v (.agg 6)), (.v (.int .i64))], fun x => monitor_Explain x.1 x.2.1⟩

def E_monitor_Explain : Env T := ⟨tab.find, cd, globs, flc, fun f ds => match f with
    | 15 => match fnAt ds 3 with
      | some 16 => some S_monitor_last
      | some 17 => some S_monitor_last_1
      | some 18 => some S_monitor_last_2
      | some 20 => some S_monitor_last_3
      | some 21 => some S_monitor_last_4
      | _ => none
    | _ => none, fun f => match f with
    | 15 => true
    | _ => false⟩

def A_monitor_Explain : Loc2 T := ⟨fun id => match id with
    | _ => none, fun r => match r with
    | _ => none, fun r => match r with
    | _ => false⟩

theorem monitor_Explain_eq (a0 : (List (ApiRecord))) (a1 : Int) : run E_monitor_Explain A_monitor_Explain (Try.f10.body.getD .skip) (enterT cd [.f (.v (.rs 3)), .f (.v (.int .i64))] (a0, a1, ())) (retK E_monitor_Explain Try.f10.results.toList [.f (.v (.rs 3)), .f (.v (.int .i64))] [(.v (.agg 6)), (.v (.int .i64))]) = monitor_Explain a0 a1 := by kernel_rfl

theorem monitor_Explain_env : EnvOk Try.prog E_monitor_Explain := envOk (E := E_monitor_Explain) cd_ok tys fl_ok fun f ds S h => by
    dsimp only [E_monitor_Explain] at h
    split at h
    · split at h
      · cases h; exact monitor_last_ok
      · cases h; exact monitor_last_1_ok
      · cases h; exact monitor_last_2_ok
      · cases h; exact monitor_last_3_ok
      · cases h; exact monitor_last_4_ok
      · cases h
    · cases h

theorem monitor_Explain_ok : SoundT Try.prog cd gdn 10 S_monitor_Explain :=
  sound_fn (E := E_monitor_Explain) (A := A_monitor_Explain) (done := []) (c := (Try.f10.body.getD .skip)) hmix monitor_Explain_env Try.func10 rfl (by kernel_rfl) (by kernel_rfl) done_nil (by kernel_rfl) (by kernel_rfl) (fun x => monitor_Explain_eq x.1 x.2.1)

def monitor_Check_L0b (y0 : (List (ApiRecord))) (y1 : (List (ApiFinding))) (y2 : Int) (y3 : Int) : Option (((List (ApiRecord)) × (List (ApiFinding)) × Int × Int × Unit) ⊕ ((List (ApiFinding)) × Unit)) :=
 (bif (decide (y3 < y2)) then ((getI y0 y3).bind fun x1 => (bif (!decide (x1.kind = (8 : Int))) then (some (Sum.inl (y0, y1, y2, (IntKind.wrap .i64 (y3 + (1 : Int))), ())))
 else ((monitor_Explain y0 y3).bind fun r2 => (bif (!decide (r2.2.2.1 = (0 : Int))) then (bif small ((y1).length + (([(⟨y3, r2.2.2.1⟩ : ApiFinding)] : List (ApiFinding)) : List (ApiFinding)).length) 16 then (let v3 : List (ApiFinding) := (y1 ++ ([(⟨y3, r2.2.2.1⟩ : ApiFinding)] : List (ApiFinding)))
 (some (Sum.inl (y0, v3, y2, (IntKind.wrap .i64 (y3 + (1 : Int))), ()))))
 else none)
 else (some (Sum.inl (y0, y1, y2, (IntKind.wrap .i64 (y3 + (1 : Int))), ())))))))
 else (some (Sum.inr (y1, ()))))

def monitor_Check_L0 (y : ((List (ApiRecord)) × (List (ApiFinding)) × Int × Int × Unit)) : Option ((List (ApiFinding)) × Unit) := iter (fun (y : ((List (ApiRecord)) × (List (ApiFinding)) × Int × Int × Unit)) => monitor_Check_L0b y.1 y.2.1 y.2.2.1 y.2.2.2.1) rounds y

def monitor_Check (a0 : (List (ApiRecord))) : Option ((Unit) × ((List (ApiFinding)) × Unit)) :=
 ((monitor_Check_L0 (a0, [], ((a0).length : Int), (0 : Int), ())).bind (fun (z4 : ((List (ApiFinding)) × Unit)) => (some ((), (z4.1, ())))))

def S_monitor_Check : FSpec T := ⟨[.f (.v (.rs 3))], [(.own 7)], fun x => monitor_Check x.1⟩

def E_monitor_Check : Env T := ⟨tab.find, cd, globs, flc, fun f ds => match f with
    | 10 => some S_monitor_Explain
    | _ => none, fun f => match f with
    | 10 => true
    | _ => false⟩

def A_monitor_Check : Loc2 T := ⟨fun id => match id with
    | 0 => some ⟨[(0, .f (.v (.rs 3))), (3, .f (.own 7)), (8, .f (.v (.int .i64))), (9, .f (.v (.int .i64)))], [(.exit 0, [(3, .f (.own 7))])], monitor_Check_L0⟩
    | _ => none, fun r => match r with
    | _ => none, fun r => match r with
    | _ => false⟩

theorem monitor_Check_L0_eq (y0 : (List (ApiRecord))) (y1 : (List (ApiFinding))) (y2 : Int) (y3 : Int) : run E_monitor_Check A_monitor_Check (loopAt 0 (Try.f22.body.getD .skip)) (lay cd [(0, .f (.v (.rs 3))), (3, .f (.own 7)), (8, .f (.v (.int .i64))), (9, .f (.v (.int .i64)))] (y0, y1, y2, y3, ())) (roundK cd [(0, .f (.v (.rs 3))), (3, .f (.own 7)), (8, .f (.v (.int .i64))), (9, .f (.v (.int .i64)))] [(.exit 0, [(3, .f (.own 7))])]) = monitor_Check_L0b y0 y1 y2 y3 := by kernel_rfl

theorem monitor_Check_eq (a0 : (List (ApiRecord))) : run E_monitor_Check A_monitor_Check (Try.f22.body.getD .skip) (enterT cd [.f (.v (.rs 3))] (a0, ())) (retK E_monitor_Check Try.f22.results.toList [.f (.v (.rs 3))] [(.own 7)]) = monitor_Check a0 := by kernel_rfl

theorem monitor_Check_env : EnvOk Try.prog E_monitor_Check := envOk (E := E_monitor_Check) cd_ok tys fl_ok fun f ds S h => by
    dsimp only [E_monitor_Check] at h
    split at h
    · cases h; exact monitor_Explain_ok
    · cases h

theorem monitor_Check_L0_ok : LoopOk Try.prog E_monitor_Check Try.f22.ntmps (kqOf S_monitor_Check.ps 0) (loopAt 0 (Try.f22.body.getD .skip)) ⟨[(0, .f (.v (.rs 3))), (3, .f (.own 7)), (8, .f (.v (.int .i64))), (9, .f (.v (.int .i64)))], [(.exit 0, [(3, .f (.own 7))])], monitor_Check_L0⟩ :=
  loop_ok (A := A_monitor_Check) (done := []) (c0 := (Try.f22.body.getD .skip)) hmix monitor_Check_env done_nil rounds (by kernel_rfl) (by kernel_rfl) (fun x => monitor_Check_L0_eq x.1 x.2.1 x.2.2.1 x.2.2.2.1) (fun _ => rfl)

theorem monitor_Check_ok : SoundT Try.prog cd gdn 22 S_monitor_Check :=
  sound_fn (E := E_monitor_Check) (A := A_monitor_Check) (done := [0]) (c := (Try.f22.body.getD .skip)) hmix monitor_Check_env Try.func22 rfl (by kernel_rfl) (by kernel_rfl) (done_cons rfl monitor_Check_L0_ok done_nil) (by kernel_rfl) (by kernel_rfl) (fun x => monitor_Check_eq x.1)

def passkeylaw41_awake : Option ((Unit) × (Bool × Unit)) :=
 ((passkeylaw41_story).bind fun r1 => ((monitor_Explain r1.2.1 (5 : Int)).bind fun r2 => ((passkeylaw41_story).bind fun r3 => (bif decide ((3 : Int) ≤ ((r3.2.1).length : Int)) then (bif decide (((r3.2.1).length - 3) + 3 ≤ (r3.2.1).length) then ((monitor_Check (List.take ((r3.2.1).length - 3) (List.drop 3 r3.2.1))).bind fun r4 => (bif (decide (r2.2.2.1 = (0 : Int))) then (let v5 : Bool := (decide (r2.2.1.issued = (0 : Int)) && (decide (r2.2.1.begun = (1 : Int)) && (decide (r2.2.1.signed = (4 : Int)) && (decide (r2.2.1.gesture = (3 : Int)) && true))))
 (bif v5 then ((passkeylaw41_story).bind fun r6 => ((monitor_Check r6.2.1).bind fun r7 => (bif (decide (((r7.2.1).length : Int) = (0 : Int))) then (bif (decide (((r4.2.1).length : Int) = (1 : Int))) then (bif decide ((0 : Int) < ((r4.2.1).length : Int)) then (((r4.2.1)[0]?).bind fun x8 => (some ((), ((decide (x8.record = (2 : Int)) && (decide (x8.err = (35 : Int)) && true)), ()))))
 else none)
 else (some ((), (false, ()))))
 else (some ((), (false, ()))))))
 else (some ((), (false, ())))))
 else (some ((), (false, ())))))
 else none)
 else none))))

def S_passkeylaw41_awake : FSpec T := ⟨[], [(.v .bool)], fun x => passkeylaw41_awake ⟩

def E_passkeylaw41_awake : Env T := ⟨tab.find, cd, globs, flc, fun f ds => match f with
    | 9 => some S_passkeylaw41_story
    | 10 => some S_monitor_Explain
    | 22 => some S_monitor_Check
    | _ => none, fun f => match f with
    | 10 => true
    | _ => false⟩

def A_passkeylaw41_awake : Loc2 T := ⟨fun id => match id with
    | _ => none, fun r => match r with
    | _ => none, fun r => match r with
    | _ => false⟩

theorem passkeylaw41_awake_eq : run E_passkeylaw41_awake A_passkeylaw41_awake (Try.f11.body.getD .skip) (enterT cd [] ()) (retK E_passkeylaw41_awake Try.f11.results.toList [] [(.v .bool)]) = passkeylaw41_awake  := by kernel_rfl

theorem passkeylaw41_awake_env : EnvOk Try.prog E_passkeylaw41_awake := envOk (E := E_passkeylaw41_awake) cd_ok tys fl_ok fun f ds S h => by
    dsimp only [E_passkeylaw41_awake] at h
    split at h
    · cases h; exact passkeylaw41_story_ok
    · cases h; exact monitor_Explain_ok
    · cases h; exact monitor_Check_ok
    · cases h

theorem passkeylaw41_awake_ok : SoundT Try.prog cd gdn 11 S_passkeylaw41_awake :=
  sound_fn (E := E_passkeylaw41_awake) (A := A_passkeylaw41_awake) (done := []) (c := (Try.f11.body.getD .skip)) hmix passkeylaw41_awake_env Try.func11 rfl (by kernel_rfl) (by kernel_rfl) done_nil (by kernel_rfl) (by kernel_rfl) (fun x => passkeylaw41_awake_eq )

def passkeylaw41_MonitorNeeds_L0b (y0 : UInt8) (y1 : (List (Int))) (y2 : (PasskeycastDeck × Unit)) (y3 : (List (ApiRecord))) : Option ((UInt8 × (List (Int)) × (PasskeycastDeck × Unit) × (List (ApiRecord)) × Unit) ⊕ (UInt8 × (List (Int)) × (List (ApiRecord)) × Unit)) :=
 ((passkeycast_Deck_Left y2.1).bind fun r2 => (bif r2.2.1 then (bif (decide (((y3).length : Int) < (10 : Int))) then ((passkeycast_Deck_Record (y2.1, ())).bind fun r3 => (let v4 : List (ApiRecord) := ([(⟨r3.2.1.kind, r3.2.1.time, (IntKind.wrap .i64 (r3.2.1.who + (5 : Int))), r3.2.1.number, r3.2.1.kind2, r3.2.1.text, r3.2.1.challenge, ([(7 : UInt8)] : List (UInt8)), r3.2.1.word, (r3.2.1.hash + 50#64), r3.2.1.leaf, r3.2.1.flags, r3.2.1.since, r3.2.1.err⟩ : ApiRecord)] : List (ApiRecord))
 (bif small ((y3).length + (v4 : List (ApiRecord)).length) 152 then (some (Sum.inl (y0, y1, (r3.1.1.1, ()), (y3 ++ v4), ())))
 else none)))
 else (some (Sum.inr (y0, y1, y3, ()))))
 else (some (Sum.inr (y0, y1, y3, ())))))

def passkeylaw41_MonitorNeeds_L0 (y : (UInt8 × (List (Int)) × (PasskeycastDeck × Unit) × (List (ApiRecord)) × Unit)) : Option (UInt8 × (List (Int)) × (List (ApiRecord)) × Unit) := iter (fun (y : (UInt8 × (List (Int)) × (PasskeycastDeck × Unit) × (List (ApiRecord)) × Unit)) => passkeylaw41_MonitorNeeds_L0b y.1 y.2.1 y.2.2.1 y.2.2.2.1) rounds y

def passkeylaw41_MonitorNeeds_L2b (y0 : (PasskeycastDeck × Unit)) (y1 : (List (ApiRecord))) (y2 : Int) (y3 : (List (ApiRecord))) (y4 : Int) (y5 : (List (ApiRecord))) : Option (((PasskeycastDeck × Unit) × (List (ApiRecord)) × Int × (List (ApiRecord)) × Int × (List (ApiRecord)) × Unit) ⊕ ((List (ApiRecord)) × Int × (List (ApiRecord)) × Int × (List (ApiRecord)) × Unit)) :=
 ((passkeycast_Deck_Left y0.1).bind fun r13 => (bif r13.2.1 then (bif (decide (((y3).length : Int) < (30 : Int))) then ((passkeycast_Deck_Record (y0.1, ())).bind fun r14 => (bif small ((y3).length + (([r14.2.1] : List (ApiRecord)) : List (ApiRecord)).length) 152 then (bif small ((y5).length + (([r14.2.1] : List (ApiRecord)) : List (ApiRecord)).length) 152 then (some (Sum.inl ((r14.1.1.1, ()), y1, y2, (y3 ++ ([r14.2.1] : List (ApiRecord))), y4, (y5 ++ ([r14.2.1] : List (ApiRecord))), ())))
 else none)
 else none))
 else (some (Sum.inr (y1, y2, y3, y4, y5, ()))))
 else (some (Sum.inr (y1, y2, y3, y4, y5, ())))))

def passkeylaw41_MonitorNeeds_L2 (y : ((PasskeycastDeck × Unit) × (List (ApiRecord)) × Int × (List (ApiRecord)) × Int × (List (ApiRecord)) × Unit)) : Option ((List (ApiRecord)) × Int × (List (ApiRecord)) × Int × (List (ApiRecord)) × Unit) := iter (fun (y : ((PasskeycastDeck × Unit) × (List (ApiRecord)) × Int × (List (ApiRecord)) × Int × (List (ApiRecord)) × Unit)) => passkeylaw41_MonitorNeeds_L2b y.1 y.2.1 y.2.2.1 y.2.2.2.1 y.2.2.2.2.1 y.2.2.2.2.2.1) rounds y

def passkeylaw41_MonitorNeeds (a0 : UInt8) (a1 : (List (Int))) (a2 : (List (Int))) : Option ((Unit) × (Bool × Unit)) :=
 ((passkeycast_New a1).bind fun r1 => ((passkeylaw41_MonitorNeeds_L0 (a0, a2, (r1.2.1, ()), [], ())).bind (fun (z5 : (UInt8 × (List (Int)) × (List (ApiRecord)) × Unit)) => ((passkeylaw41_story).bind fun r6 => (bif decide ((4 : UInt8).toBitVec = 0) then none
 else (bif decide ((UInt8.ofBitVec (z5.1.toBitVec % (4 : UInt8).toBitVec)).toNat < 4) then (((([(0 : Int), (1 : Int), (4 : Int), (3 : Int)] : List (Int)))[(UInt8.ofBitVec (z5.1.toBitVec % (4 : UInt8).toBitVec)).toNat]?).bind fun x7 => (let v8 : List (Int) := ([(35 : Int), (34 : Int), (15 : Int), (22 : Int)] : List (Int))
 (bif decide ((4 : UInt8).toBitVec = 0) then none
 else (bif decide ((UInt8.ofBitVec (z5.1.toBitVec % (4 : UInt8).toBitVec)).toNat < 4) then (((v8)[(UInt8.ofBitVec (z5.1.toBitVec % (4 : UInt8).toBitVec)).toNat]?).bind fun x9 => (bif small ((z5.2.2.1).length) 152 then (bif small ((z5.2.2.1).length + (r6.2.1 : List (ApiRecord)).length) 152 then (bif small ((z5.2.2.1).length) 152 then (bif (decide ((0 : Int) ≤ x7) && decide (x7 ≤ ((r6.2.1).length : Int))) then (bif decide ((x7).toNat ≤ (r6.2.1).length) then (bif small ((z5.2.2.1).length + ((List.take (x7).toNat r6.2.1) : List (ApiRecord)).length) 152 then (let v10 : List (ApiRecord) := (z5.2.2.1 ++ (List.take (x7).toNat r6.2.1))
 (bif (decide ((0 : Int) ≤ (IntKind.wrap .i64 (x7 + (1 : Int)))) && decide ((IntKind.wrap .i64 (x7 + (1 : Int))) ≤ ((r6.2.1).length : Int))) then (bif decide (((r6.2.1).length - ((IntKind.wrap .i64 (x7 + (1 : Int)))).toNat) + ((IntKind.wrap .i64 (x7 + (1 : Int)))).toNat ≤ (r6.2.1).length) then (bif small ((v10).length + ((List.take ((r6.2.1).length - ((IntKind.wrap .i64 (x7 + (1 : Int)))).toNat) (List.drop ((IntKind.wrap .i64 (x7 + (1 : Int)))).toNat r6.2.1)) : List (ApiRecord)).length) 152 then (let v11 : List (ApiRecord) := (v10 ++ (List.take ((r6.2.1).length - ((IntKind.wrap .i64 (x7 + (1 : Int)))).toNat) (List.drop ((IntKind.wrap .i64 (x7 + (1 : Int)))).toNat r6.2.1)))
 ((passkeycast_New z5.2.1).bind fun r12 => ((passkeylaw41_MonitorNeeds_L2 ((r12.2.1, ()), z5.2.2.1, x9, (z5.2.2.1 ++ r6.2.1), (IntKind.wrap .i64 (((z5.2.2.1).length : Int) + (5 : Int))), v11, ())).bind (fun (z15 : ((List (ApiRecord)) × Int × (List (ApiRecord)) × Int × (List (ApiRecord)) × Unit)) => ((monitor_Explain z15.2.2.1 z15.2.2.2.1).bind fun r16 => ((monitor_Explain z15.2.2.2.2.1 (IntKind.wrap .i64 (z15.2.2.2.1 - (1 : Int)))).bind fun r17 => (bif (decide (r16.2.2.1 = (0 : Int))) then (bif (decide (r16.2.1.issued = ((z15.1).length : Int))) then (bif (decide (r16.2.1.begun = (IntKind.wrap .i64 (((z15.1).length : Int) + (1 : Int))))) then (bif (decide (r16.2.1.signed = (IntKind.wrap .i64 (((z15.1).length : Int) + (4 : Int))))) then (bif (decide (r16.2.1.gesture = (IntKind.wrap .i64 (((z15.1).length : Int) + (3 : Int))))) then (bif (decide (r17.2.2.1 = z15.2.1)) then ((passkeylaw41_awake).bind fun r18 => (some ((), (r18.2.1, ()))))
 else (some ((), (false, ()))))
 else (some ((), (false, ()))))
 else (some ((), (false, ()))))
 else (some ((), (false, ()))))
 else (some ((), (false, ()))))
 else (some ((), (false, ()))))))))))
 else none)
 else none)
 else none))
 else none)
 else none)
 else none)
 else none)
 else none)
 else none))
 else none))))
 else none))))))

def S_passkeylaw41_MonitorNeeds : FSpec T := ⟨[.f (.v .u8), .f (.v (.rs 1)), .f (.v (.rs 1))], [(.v .bool)], fun x => passkeylaw41_MonitorNeeds x.1 x.2.1 x.2.2.1⟩

def E_passkeylaw41_MonitorNeeds : Env T := ⟨tab.find, cd, globs, flc, fun f ds => match f with
    | 6 => some S_passkeycast_New
    | 7 => some S_passkeycast_Deck_Left
    | 8 => some S_passkeycast_Deck_Record
    | 9 => some S_passkeylaw41_story
    | 10 => some S_monitor_Explain
    | 11 => some S_passkeylaw41_awake
    | _ => none, fun f => match f with
    | 7 => true
    | 10 => true
    | 11 => true
    | _ => false⟩

def A_passkeylaw41_MonitorNeeds : Loc2 T := ⟨fun id => match id with
    | 0 => some ⟨[(0, .f (.v .u8)), (2, .f (.v (.rs 1))), (7, .ptr [(.v (.agg 2))]), (8, .f (.own 3))], [(.exit 0, [(0, .f (.v .u8)), (2, .f (.v (.rs 1))), (8, .f (.own 3))])], passkeylaw41_MonitorNeeds_L0⟩
    | 2 => some ⟨[(7, .ptr [(.v (.agg 2))]), (8, .f (.own 3)), (12, .f (.v (.int .i64))), (13, .f (.own 3)), (14, .f (.v (.int .i64))), (15, .f (.own 3))], [(.exit 2, [(8, .f (.own 3)), (12, .f (.v (.int .i64))), (13, .f (.own 3)), (14, .f (.v (.int .i64))), (15, .f (.own 3))])], passkeylaw41_MonitorNeeds_L2⟩
    | _ => none, fun r => match r with
    | _ => none, fun r => match r with
    | 17 => true
    | _ => false⟩

theorem passkeylaw41_MonitorNeeds_L0_eq (y0 : UInt8) (y1 : (List (Int))) (y2 : (PasskeycastDeck × Unit)) (y3 : (List (ApiRecord))) : run E_passkeylaw41_MonitorNeeds A_passkeylaw41_MonitorNeeds (loopAt 0 (Try.f3.body.getD .skip)) (lay cd [(0, .f (.v .u8)), (2, .f (.v (.rs 1))), (7, .ptr [(.v (.agg 2))]), (8, .f (.own 3))] (y0, y1, y2, y3, ())) (roundK cd [(0, .f (.v .u8)), (2, .f (.v (.rs 1))), (7, .ptr [(.v (.agg 2))]), (8, .f (.own 3))] [(.exit 0, [(0, .f (.v .u8)), (2, .f (.v (.rs 1))), (8, .f (.own 3))])]) = passkeylaw41_MonitorNeeds_L0b y0 y1 y2 y3 := by kernel_rfl

theorem passkeylaw41_MonitorNeeds_L2_eq (y0 : (PasskeycastDeck × Unit)) (y1 : (List (ApiRecord))) (y2 : Int) (y3 : (List (ApiRecord))) (y4 : Int) (y5 : (List (ApiRecord))) : run E_passkeylaw41_MonitorNeeds A_passkeylaw41_MonitorNeeds (loopAt 2 (Try.f3.body.getD .skip)) (lay cd [(7, .ptr [(.v (.agg 2))]), (8, .f (.own 3)), (12, .f (.v (.int .i64))), (13, .f (.own 3)), (14, .f (.v (.int .i64))), (15, .f (.own 3))] (y0, y1, y2, y3, y4, y5, ())) (roundK cd [(7, .ptr [(.v (.agg 2))]), (8, .f (.own 3)), (12, .f (.v (.int .i64))), (13, .f (.own 3)), (14, .f (.v (.int .i64))), (15, .f (.own 3))] [(.exit 2, [(8, .f (.own 3)), (12, .f (.v (.int .i64))), (13, .f (.own 3)), (14, .f (.v (.int .i64))), (15, .f (.own 3))])]) = passkeylaw41_MonitorNeeds_L2b y0 y1 y2 y3 y4 y5 := by kernel_rfl

theorem passkeylaw41_MonitorNeeds_eq (a0 : UInt8) (a1 : (List (Int))) (a2 : (List (Int))) : run E_passkeylaw41_MonitorNeeds A_passkeylaw41_MonitorNeeds (Try.f3.body.getD .skip) (enterT cd [.f (.v .u8), .f (.v (.rs 1)), .f (.v (.rs 1))] (a0, a1, a2, ())) (retK E_passkeylaw41_MonitorNeeds Try.f3.results.toList [.f (.v .u8), .f (.v (.rs 1)), .f (.v (.rs 1))] [(.v .bool)]) = passkeylaw41_MonitorNeeds a0 a1 a2 := by kernel_rfl

theorem passkeylaw41_MonitorNeeds_env : EnvOk Try.prog E_passkeylaw41_MonitorNeeds := envOk (E := E_passkeylaw41_MonitorNeeds) cd_ok tys fl_ok fun f ds S h => by
    dsimp only [E_passkeylaw41_MonitorNeeds] at h
    split at h
    · cases h; exact passkeycast_New_ok
    · cases h; exact passkeycast_Deck_Left_ok
    · cases h; exact passkeycast_Deck_Record_ok
    · cases h; exact passkeylaw41_story_ok
    · cases h; exact monitor_Explain_ok
    · cases h; exact passkeylaw41_awake_ok
    · cases h

theorem passkeylaw41_MonitorNeeds_L0_ok : LoopOk Try.prog E_passkeylaw41_MonitorNeeds Try.f3.ntmps (kqOf S_passkeylaw41_MonitorNeeds.ps 0) (loopAt 0 (Try.f3.body.getD .skip)) ⟨[(0, .f (.v .u8)), (2, .f (.v (.rs 1))), (7, .ptr [(.v (.agg 2))]), (8, .f (.own 3))], [(.exit 0, [(0, .f (.v .u8)), (2, .f (.v (.rs 1))), (8, .f (.own 3))])], passkeylaw41_MonitorNeeds_L0⟩ :=
  loop_ok (A := A_passkeylaw41_MonitorNeeds) (done := []) (c0 := (Try.f3.body.getD .skip)) hmix passkeylaw41_MonitorNeeds_env done_nil rounds (by kernel_rfl) (by kernel_rfl) (fun x => passkeylaw41_MonitorNeeds_L0_eq x.1 x.2.1 x.2.2.1 x.2.2.2.1) (fun _ => rfl)

theorem passkeylaw41_MonitorNeeds_L2_ok : LoopOk Try.prog E_passkeylaw41_MonitorNeeds Try.f3.ntmps (kqOf S_passkeylaw41_MonitorNeeds.ps 0) (loopAt 2 (Try.f3.body.getD .skip)) ⟨[(7, .ptr [(.v (.agg 2))]), (8, .f (.own 3)), (12, .f (.v (.int .i64))), (13, .f (.own 3)), (14, .f (.v (.int .i64))), (15, .f (.own 3))], [(.exit 2, [(8, .f (.own 3)), (12, .f (.v (.int .i64))), (13, .f (.own 3)), (14, .f (.v (.int .i64))), (15, .f (.own 3))])], passkeylaw41_MonitorNeeds_L2⟩ :=
  loop_ok (A := A_passkeylaw41_MonitorNeeds) (done := [0]) (c0 := (Try.f3.body.getD .skip)) hmix passkeylaw41_MonitorNeeds_env (done_cons rfl passkeylaw41_MonitorNeeds_L0_ok done_nil) rounds (by kernel_rfl) (by kernel_rfl) (fun x => passkeylaw41_MonitorNeeds_L2_eq x.1 x.2.1 x.2.2.1 x.2.2.2.1 x.2.2.2.2.1 x.2.2.2.2.2.1) (fun _ => rfl)

theorem passkeylaw41_MonitorNeeds_ok : SoundT Try.prog cd gdn 3 S_passkeylaw41_MonitorNeeds :=
  sound_fn (E := E_passkeylaw41_MonitorNeeds) (A := A_passkeylaw41_MonitorNeeds) (done := [0, 2]) (c := (Try.f3.body.getD .skip)) hmix passkeylaw41_MonitorNeeds_env Try.func3 rfl (by kernel_rfl) (by kernel_rfl) (done_cons rfl passkeylaw41_MonitorNeeds_L0_ok (done_cons rfl passkeylaw41_MonitorNeeds_L2_ok done_nil)) (by kernel_rfl) (by kernel_rfl) (fun x => passkeylaw41_MonitorNeeds_eq x.1 x.2.1 x.2.2.1)

def passkeylaw41_MonitorEarlier_L0b (y0 : UInt8) (y1 : (List (Int))) (y2 : (PasskeycastDeck × Unit)) (y3 : (List (ApiRecord))) : Option ((UInt8 × (List (Int)) × (PasskeycastDeck × Unit) × (List (ApiRecord)) × Unit) ⊕ (UInt8 × (List (Int)) × (List (ApiRecord)) × Unit)) :=
 ((passkeycast_Deck_Left y2.1).bind fun r2 => (bif r2.2.1 then (bif (decide (((y3).length : Int) < (25 : Int))) then ((passkeycast_Deck_Record (y2.1, ())).bind fun r3 => (bif small ((y3).length + (([r3.2.1] : List (ApiRecord)) : List (ApiRecord)).length) 152 then (some (Sum.inl (y0, y1, (r3.1.1.1, ()), (y3 ++ ([r3.2.1] : List (ApiRecord))), ())))
 else none))
 else (some (Sum.inr (y0, y1, y3, ()))))
 else (some (Sum.inr (y0, y1, y3, ())))))

def passkeylaw41_MonitorEarlier_L0 (y : (UInt8 × (List (Int)) × (PasskeycastDeck × Unit) × (List (ApiRecord)) × Unit)) : Option (UInt8 × (List (Int)) × (List (ApiRecord)) × Unit) := iter (fun (y : (UInt8 × (List (Int)) × (PasskeycastDeck × Unit) × (List (ApiRecord)) × Unit)) => passkeylaw41_MonitorEarlier_L0b y.1 y.2.1 y.2.2.1 y.2.2.2.1) rounds y

def passkeylaw41_MonitorEarlier_L2b (y0 : (PasskeycastDeck × Unit)) (y1 : (List (ApiRecord))) (y2 : Int) (y3 : (List (ApiRecord))) : Option (((PasskeycastDeck × Unit) × (List (ApiRecord)) × Int × (List (ApiRecord)) × Unit) ⊕ ((List (ApiRecord)) × Int × (List (ApiRecord)) × Unit)) :=
 ((passkeycast_Deck_Left y0.1).bind fun r8 => (bif r8.2.1 then (bif (decide (((y3).length : Int) < (40 : Int))) then ((passkeycast_Deck_Record (y0.1, ())).bind fun r9 => (bif small ((y3).length + (([r9.2.1] : List (ApiRecord)) : List (ApiRecord)).length) 152 then (some (Sum.inl ((r9.1.1.1, ()), y1, y2, (y3 ++ ([r9.2.1] : List (ApiRecord))), ())))
 else none))
 else (some (Sum.inr (y1, y2, y3, ()))))
 else (some (Sum.inr (y1, y2, y3, ())))))

def passkeylaw41_MonitorEarlier_L2 (y : ((PasskeycastDeck × Unit) × (List (ApiRecord)) × Int × (List (ApiRecord)) × Unit)) : Option ((List (ApiRecord)) × Int × (List (ApiRecord)) × Unit) := iter (fun (y : ((PasskeycastDeck × Unit) × (List (ApiRecord)) × Int × (List (ApiRecord)) × Unit)) => passkeylaw41_MonitorEarlier_L2b y.1 y.2.1 y.2.2.1 y.2.2.2.1) rounds y

def passkeylaw41_MonitorEarlier_L4b (y0 : (List (ApiRecord))) (y1 : Int) (y2 : (List (ApiRecord))) (y3 : Int) : Option (((List (ApiRecord)) × Int × (List (ApiRecord)) × Int × Unit) ⊕ ((Bool × Unit) ⊕ (Unit))) :=
 (bif (decide (y3 < y1)) then ((monitor_Explain y0 y3).bind fun r11 => ((monitor_Explain y2 y3).bind fun r12 => (let v13 : Bool := (!(decide (r11.2.1.issued = r12.2.1.issued) && (decide (r11.2.1.begun = r12.2.1.begun) && (decide (r11.2.1.signed = r12.2.1.signed) && (decide (r11.2.1.gesture = r12.2.1.gesture) && true)))))
 (bif v13 then (some (Sum.inr (Sum.inl (false, ()))))
 else (bif (!decide (r11.2.2.1 = r12.2.2.1)) then (some (Sum.inr (Sum.inl (false, ()))))
 else (some (Sum.inl (y0, y1, y2, (IntKind.wrap .i64 (y3 + (1 : Int))), ()))))))))
 else (some (Sum.inr (Sum.inr ()))))

def passkeylaw41_MonitorEarlier_L4 (y : ((List (ApiRecord)) × Int × (List (ApiRecord)) × Int × Unit)) : Option ((Bool × Unit) ⊕ (Unit)) := iter (fun (y : ((List (ApiRecord)) × Int × (List (ApiRecord)) × Int × Unit)) => passkeylaw41_MonitorEarlier_L4b y.1 y.2.1 y.2.2.1 y.2.2.2.1) rounds y

def passkeylaw41_MonitorEarlier (a0 : (List (Int))) (a1 : UInt8) (a2 : (List (Int))) : Option ((Unit) × (Bool × Unit)) :=
 ((passkeycast_New a0).bind fun r1 => ((passkeylaw41_MonitorEarlier_L0 (a1, a2, (r1.2.1, ()), [], ())).bind (fun (z4 : (UInt8 × (List (Int)) × (List (ApiRecord)) × Unit)) => ((bif (decide ((0 : Int) < ((z4.2.2.1).length : Int))) then (bif decide (((z4.2.2.1).length : Int) = 0) then none
 else (let v5 : Int := (Int.tmod (z4.1.toBitVec.toNat : Int) ((z4.2.2.1).length : Int))
 (some (z4.2.1, z4.2.2.1, v5, ()))))
 else (some (z4.2.1, z4.2.2.1, (0 : Int), ()))).bind (fun (j6 : ((List (Int)) × (List (ApiRecord)) × Int × Unit)) => ((passkeycast_New j6.1).bind fun r7 => (bif (decide ((0 : Int) ≤ j6.2.2.1) && decide (j6.2.2.1 ≤ ((j6.2.1).length : Int))) then (bif decide ((j6.2.2.1).toNat ≤ (j6.2.1).length) then (bif small (((List.take (j6.2.2.1).toNat j6.2.1)).length) 152 then ((passkeylaw41_MonitorEarlier_L2 ((r7.2.1, ()), j6.2.1, j6.2.2.1, (List.take (j6.2.2.1).toNat j6.2.1), ())).bind (fun (z10 : ((List (ApiRecord)) × Int × (List (ApiRecord)) × Unit)) => ((passkeylaw41_MonitorEarlier_L4 (z10.1, z10.2.1, z10.2.2.1, (0 : Int), ())).bind (Sum.elim (fun (z14 : (Bool × Unit)) => (some ((), (z14.1, ())))) (fun (z15 : (Unit)) => ((passkeylaw41_awake).bind fun r16 => (some ((), (r16.2.1, ())))))))))
 else none)
 else none)
 else none)))))))

def S_passkeylaw41_MonitorEarlier : FSpec T := ⟨[.f (.v (.rs 1)), .f (.v .u8), .f (.v (.rs 1))], [(.v .bool)], fun x => passkeylaw41_MonitorEarlier x.1 x.2.1 x.2.2.1⟩

def E_passkeylaw41_MonitorEarlier : Env T := ⟨tab.find, cd, globs, flc, fun f ds => match f with
    | 6 => some S_passkeycast_New
    | 7 => some S_passkeycast_Deck_Left
    | 8 => some S_passkeycast_Deck_Record
    | 10 => some S_monitor_Explain
    | 11 => some S_passkeylaw41_awake
    | _ => none, fun f => match f with
    | 7 => true
    | 10 => true
    | 11 => true
    | _ => false⟩

def A_passkeylaw41_MonitorEarlier : Loc2 T := ⟨fun id => match id with
    | 0 => some ⟨[(1, .f (.v .u8)), (2, .f (.v (.rs 1))), (7, .ptr [(.v (.agg 2))]), (8, .f (.own 3))], [(.exit 0, [(1, .f (.v .u8)), (2, .f (.v (.rs 1))), (8, .f (.own 3))])], passkeylaw41_MonitorEarlier_L0⟩
    | 2 => some ⟨[(7, .ptr [(.v (.agg 2))]), (8, .f (.own 3)), (9, .f (.v (.int .i64))), (10, .f (.own 3))], [(.exit 2, [(8, .f (.own 3)), (9, .f (.v (.int .i64))), (10, .f (.own 3))])], passkeylaw41_MonitorEarlier_L2⟩
    | 4 => some ⟨[(8, .f (.own 3)), (9, .f (.v (.int .i64))), (10, .f (.own 3)), (11, .f (.v (.int .i64)))], [(.ret, [(6, .f (.v .bool))]), (.exit 4, [])], passkeylaw41_MonitorEarlier_L4⟩
    | _ => none, fun r => match r with
    | 8 => some ([(2, .f (.v (.rs 1))), (8, .f (.own 3)), (9, .f (.v (.int .i64)))], true)
    | _ => none, fun r => match r with
    | _ => false⟩

theorem passkeylaw41_MonitorEarlier_L0_eq (y0 : UInt8) (y1 : (List (Int))) (y2 : (PasskeycastDeck × Unit)) (y3 : (List (ApiRecord))) : run E_passkeylaw41_MonitorEarlier A_passkeylaw41_MonitorEarlier (loopAt 0 (Try.f4.body.getD .skip)) (lay cd [(1, .f (.v .u8)), (2, .f (.v (.rs 1))), (7, .ptr [(.v (.agg 2))]), (8, .f (.own 3))] (y0, y1, y2, y3, ())) (roundK cd [(1, .f (.v .u8)), (2, .f (.v (.rs 1))), (7, .ptr [(.v (.agg 2))]), (8, .f (.own 3))] [(.exit 0, [(1, .f (.v .u8)), (2, .f (.v (.rs 1))), (8, .f (.own 3))])]) = passkeylaw41_MonitorEarlier_L0b y0 y1 y2 y3 := by kernel_rfl

theorem passkeylaw41_MonitorEarlier_L2_eq (y0 : (PasskeycastDeck × Unit)) (y1 : (List (ApiRecord))) (y2 : Int) (y3 : (List (ApiRecord))) : run E_passkeylaw41_MonitorEarlier A_passkeylaw41_MonitorEarlier (loopAt 2 (Try.f4.body.getD .skip)) (lay cd [(7, .ptr [(.v (.agg 2))]), (8, .f (.own 3)), (9, .f (.v (.int .i64))), (10, .f (.own 3))] (y0, y1, y2, y3, ())) (roundK cd [(7, .ptr [(.v (.agg 2))]), (8, .f (.own 3)), (9, .f (.v (.int .i64))), (10, .f (.own 3))] [(.exit 2, [(8, .f (.own 3)), (9, .f (.v (.int .i64))), (10, .f (.own 3))])]) = passkeylaw41_MonitorEarlier_L2b y0 y1 y2 y3 := by kernel_rfl

theorem passkeylaw41_MonitorEarlier_L4_eq (y0 : (List (ApiRecord))) (y1 : Int) (y2 : (List (ApiRecord))) (y3 : Int) : run E_passkeylaw41_MonitorEarlier A_passkeylaw41_MonitorEarlier (loopAt 4 (Try.f4.body.getD .skip)) (lay cd [(8, .f (.own 3)), (9, .f (.v (.int .i64))), (10, .f (.own 3)), (11, .f (.v (.int .i64)))] (y0, y1, y2, y3, ())) (roundK cd [(8, .f (.own 3)), (9, .f (.v (.int .i64))), (10, .f (.own 3)), (11, .f (.v (.int .i64)))] [(.ret, [(6, .f (.v .bool))]), (.exit 4, [])]) = passkeylaw41_MonitorEarlier_L4b y0 y1 y2 y3 := by kernel_rfl

theorem passkeylaw41_MonitorEarlier_eq (a0 : (List (Int))) (a1 : UInt8) (a2 : (List (Int))) : run E_passkeylaw41_MonitorEarlier A_passkeylaw41_MonitorEarlier (Try.f4.body.getD .skip) (enterT cd [.f (.v (.rs 1)), .f (.v .u8), .f (.v (.rs 1))] (a0, a1, a2, ())) (retK E_passkeylaw41_MonitorEarlier Try.f4.results.toList [.f (.v (.rs 1)), .f (.v .u8), .f (.v (.rs 1))] [(.v .bool)]) = passkeylaw41_MonitorEarlier a0 a1 a2 := by kernel_rfl

theorem passkeylaw41_MonitorEarlier_env : EnvOk Try.prog E_passkeylaw41_MonitorEarlier := envOk (E := E_passkeylaw41_MonitorEarlier) cd_ok tys fl_ok fun f ds S h => by
    dsimp only [E_passkeylaw41_MonitorEarlier] at h
    split at h
    · cases h; exact passkeycast_New_ok
    · cases h; exact passkeycast_Deck_Left_ok
    · cases h; exact passkeycast_Deck_Record_ok
    · cases h; exact monitor_Explain_ok
    · cases h; exact passkeylaw41_awake_ok
    · cases h

theorem passkeylaw41_MonitorEarlier_L0_ok : LoopOk Try.prog E_passkeylaw41_MonitorEarlier Try.f4.ntmps (kqOf S_passkeylaw41_MonitorEarlier.ps 0) (loopAt 0 (Try.f4.body.getD .skip)) ⟨[(1, .f (.v .u8)), (2, .f (.v (.rs 1))), (7, .ptr [(.v (.agg 2))]), (8, .f (.own 3))], [(.exit 0, [(1, .f (.v .u8)), (2, .f (.v (.rs 1))), (8, .f (.own 3))])], passkeylaw41_MonitorEarlier_L0⟩ :=
  loop_ok (A := A_passkeylaw41_MonitorEarlier) (done := []) (c0 := (Try.f4.body.getD .skip)) hmix passkeylaw41_MonitorEarlier_env done_nil rounds (by kernel_rfl) (by kernel_rfl) (fun x => passkeylaw41_MonitorEarlier_L0_eq x.1 x.2.1 x.2.2.1 x.2.2.2.1) (fun _ => rfl)

theorem passkeylaw41_MonitorEarlier_L2_ok : LoopOk Try.prog E_passkeylaw41_MonitorEarlier Try.f4.ntmps (kqOf S_passkeylaw41_MonitorEarlier.ps 0) (loopAt 2 (Try.f4.body.getD .skip)) ⟨[(7, .ptr [(.v (.agg 2))]), (8, .f (.own 3)), (9, .f (.v (.int .i64))), (10, .f (.own 3))], [(.exit 2, [(8, .f (.own 3)), (9, .f (.v (.int .i64))), (10, .f (.own 3))])], passkeylaw41_MonitorEarlier_L2⟩ :=
  loop_ok (A := A_passkeylaw41_MonitorEarlier) (done := [0]) (c0 := (Try.f4.body.getD .skip)) hmix passkeylaw41_MonitorEarlier_env (done_cons rfl passkeylaw41_MonitorEarlier_L0_ok done_nil) rounds (by kernel_rfl) (by kernel_rfl) (fun x => passkeylaw41_MonitorEarlier_L2_eq x.1 x.2.1 x.2.2.1 x.2.2.2.1) (fun _ => rfl)

theorem passkeylaw41_MonitorEarlier_L4_ok : LoopOk Try.prog E_passkeylaw41_MonitorEarlier Try.f4.ntmps (kqOf S_passkeylaw41_MonitorEarlier.ps 0) (loopAt 4 (Try.f4.body.getD .skip)) ⟨[(8, .f (.own 3)), (9, .f (.v (.int .i64))), (10, .f (.own 3)), (11, .f (.v (.int .i64)))], [(.ret, [(6, .f (.v .bool))]), (.exit 4, [])], passkeylaw41_MonitorEarlier_L4⟩ :=
  loop_ok (A := A_passkeylaw41_MonitorEarlier) (done := [0, 2]) (c0 := (Try.f4.body.getD .skip)) hmix passkeylaw41_MonitorEarlier_env (done_cons rfl passkeylaw41_MonitorEarlier_L0_ok (done_cons rfl passkeylaw41_MonitorEarlier_L2_ok done_nil)) rounds (by kernel_rfl) (by kernel_rfl) (fun x => passkeylaw41_MonitorEarlier_L4_eq x.1 x.2.1 x.2.2.1 x.2.2.2.1) (fun _ => rfl)

theorem passkeylaw41_MonitorEarlier_ok : SoundT Try.prog cd gdn 4 S_passkeylaw41_MonitorEarlier :=
  sound_fn (E := E_passkeylaw41_MonitorEarlier) (A := A_passkeylaw41_MonitorEarlier) (done := [0, 2, 4]) (c := (Try.f4.body.getD .skip)) hmix passkeylaw41_MonitorEarlier_env Try.func4 rfl (by kernel_rfl) (by kernel_rfl) (done_cons rfl passkeylaw41_MonitorEarlier_L0_ok (done_cons rfl passkeylaw41_MonitorEarlier_L2_ok (done_cons rfl passkeylaw41_MonitorEarlier_L4_ok done_nil))) (by kernel_rfl) (by kernel_rfl) (fun x => passkeylaw41_MonitorEarlier_eq x.1 x.2.1 x.2.2.1)

def MonitorNeeds_dom (a0 : UInt8) (a1 : (List (Int))) (a2 : (List (Int))) : Prop := ArgD cd [.u8, (.rs 1), (.rs 1)] (a0, a1, a2, ())
def MonitorEarlier_dom (a0 : (List (Int))) (a1 : UInt8) (a2 : (List (Int))) : Prop := ArgD cd [(.rs 1), .u8, (.rs 1)] (a0, a1, a2, ())
end Go.Proofs.Ytkbnckjaemabjaa

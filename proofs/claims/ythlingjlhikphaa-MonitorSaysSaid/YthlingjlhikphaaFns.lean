/- The functions of the program, as plain functions, and that the program computes them. Written by a program. -/
import Derived.Test.YthlingjlhikphaaLib8
import Derived.Test.YthlingjlhikphaaLay
import Derived.Test.YthlingjlhikphaaProg
import Derived.WalkKit
set_option linter.unusedVariables false
set_option maxRecDepth 100000
namespace Go.Proofs.Ythlingjlhikphaa
open Go Go.Abs
structure ApiRecord where
  kind : Int
  time : Int
  who : Int
  number : Int
  kind2 : Int
  text : List UInt8
  challenge : List UInt8
  iD : List UInt8
  word : BitVec 64
  hash : BitVec 64
  leaf : Int
  flags : Int
  since : Int
  err : Int
  deriving DecidableEq, Inhabited
structure ApiCause where
  issued : Int
  begun : Int
  signed : Int
  gesture : Int
  deriving DecidableEq, Inhabited
structure ApiFinding where
  record : Int
  err : Int
  deriving DecidableEq, Inhabited
structure PasskeycastDeck where
  l : List Int
  at_ : Int
  deriving DecidableEq, Inhabited
structure MonitorUse where
  who : Int
  id : List UInt8
  leaf : Int
  deriving DecidableEq, Inhabited
abbrev T : Nat → Type
  | 0 => UInt8
  | 1 => ApiRecord
  | 2 => Int
  | 3 => ApiCause
  | 4 => ApiFinding
  | 5 => PasskeycastDeck
  | 6 => List UInt8
  | 7 => MonitorUse
  | 8 => List UInt8
  | _ => Unit
def lfs : Nat → List Lf
  | 0 => [.u8]
  | 1 => [.int .i64, .int .i64, .int .i64, .int .i64, .int .i64, .str, .rs 0, .rs 0, .u64, .u64, .int .i64, .int .i64, .int .i64, .int .i64]
  | 2 => [.int .i64]
  | 3 => [.int .i64, .int .i64, .int .i64, .int .i64]
  | 4 => [.int .i64, .int .i64]
  | 5 => [.rs 2, .int .i64]
  | 6 => [.str]
  | 7 => [.int .i64, .str, .int .i64]
  | 8 => [.rs 0]
  | _ => []
def to0 (x : UInt8) : tyLs T (lfs 0) := (x, ())
def of0 (y : tyLs T (lfs 0)) : UInt8 := y.1
def eD0 (x : UInt8) : List D := [.int .u8 x.toNat]
def to1 (x : ApiRecord) : tyLs T (lfs 1) := (x.kind, x.time, x.who, x.number, x.kind2, x.text, x.challenge, x.iD, x.word, x.hash, x.leaf, x.flags, x.since, x.err, ())
def of1 (y : tyLs T (lfs 1)) : ApiRecord := ⟨y.1, y.2.1, y.2.2.1, y.2.2.2.1, y.2.2.2.2.1, y.2.2.2.2.2.1, y.2.2.2.2.2.2.1, y.2.2.2.2.2.2.2.1, y.2.2.2.2.2.2.2.2.1, y.2.2.2.2.2.2.2.2.2.1, y.2.2.2.2.2.2.2.2.2.2.1, y.2.2.2.2.2.2.2.2.2.2.2.1, y.2.2.2.2.2.2.2.2.2.2.2.2.1, y.2.2.2.2.2.2.2.2.2.2.2.2.2.1⟩
def eD1 (x : ApiRecord) : List D := [.int .i64 x.kind, .int .i64 x.time, .int .i64 x.who, .int .i64 x.number, .int .i64 x.kind2, .str x.text, .rs 1 (x.challenge.map eD0), .rs 1 (x.iD.map eD0), .int .u64 x.word.toNat, .int .u64 x.hash.toNat, .int .i64 x.leaf, .int .i64 x.flags, .int .i64 x.since, .int .i64 x.err]
def to2 (x : Int) : tyLs T (lfs 2) := (x, ())
def of2 (y : tyLs T (lfs 2)) : Int := y.1
def eD2 (x : Int) : List D := [.int .i64 x]
def to3 (x : ApiCause) : tyLs T (lfs 3) := (x.issued, x.begun, x.signed, x.gesture, ())
def of3 (y : tyLs T (lfs 3)) : ApiCause := ⟨y.1, y.2.1, y.2.2.1, y.2.2.2.1⟩
def eD3 (x : ApiCause) : List D := [.int .i64 x.issued, .int .i64 x.begun, .int .i64 x.signed, .int .i64 x.gesture]
def to4 (x : ApiFinding) : tyLs T (lfs 4) := (x.record, x.err, ())
def of4 (y : tyLs T (lfs 4)) : ApiFinding := ⟨y.1, y.2.1⟩
def eD4 (x : ApiFinding) : List D := [.int .i64 x.record, .int .i64 x.err]
def to5 (x : PasskeycastDeck) : tyLs T (lfs 5) := (x.l, x.at_, ())
def of5 (y : tyLs T (lfs 5)) : PasskeycastDeck := ⟨y.1, y.2.1⟩
def eD5 (x : PasskeycastDeck) : List D := [.rs 1 (x.l.map eD2), .int .i64 x.at_]
def to6 (x : List UInt8) : tyLs T (lfs 6) := (x, ())
def of6 (y : tyLs T (lfs 6)) : List UInt8 := y.1
def eD6 (x : List UInt8) : List D := [.str x]
def to7 (x : MonitorUse) : tyLs T (lfs 7) := (x.who, x.id, x.leaf, ())
def of7 (y : tyLs T (lfs 7)) : MonitorUse := ⟨y.1, y.2.1, y.2.2.1⟩
def eD7 (x : MonitorUse) : List D := [.int .i64 x.who, .str x.id, .int .i64 x.leaf]
def to8 (x : List UInt8) : tyLs T (lfs 8) := (x, ())
def of8 (y : tyLs T (lfs 8)) : List UInt8 := y.1
def eD8 (x : List UInt8) : List D := [.rs 1 (x.map eD0)]
def keq6 (x y : List UInt8) : Bool := ((x == y) && true)
def keq7 (x y : MonitorUse) : Bool := ((x.who == y.who) && ((x.id == y.id) && ((x.leaf == y.leaf) && true)))
def cd : Cd T where
  sz := fun c => match c with
    | 0 => 1
    | 1 => 14
    | 2 => 1
    | 3 => 4
    | 4 => 2
    | 5 => 2
    | 6 => 1
    | 7 => 3
    | 8 => 1
    | _ => 0
  encD := fun c x => match c, x with
    | 0, x => eD0 x
    | 1, x => eD1 x
    | 2, x => eD2 x
    | 3, x => eD3 x
    | 4, x => eD4 x
    | 5, x => eD5 x
    | 6, x => eD6 x
    | 7, x => eD7 x
    | 8, x => eD8 x
    | _, _ => []
  enc := fun c x => match c, x with
    | 0, x => encL (lfs 0) (to0 x)
    | 1, x => encL (lfs 1) (to1 x)
    | 2, x => encL (lfs 2) (to2 x)
    | 3, x => encL (lfs 3) (to3 x)
    | 4, x => encL (lfs 4) (to4 x)
    | 5, x => encL (lfs 5) (to5 x)
    | 6, x => encL (lfs 6) (to6 x)
    | 7, x => encL (lfs 7) (to7 x)
    | 8, x => encL (lfs 8) (to8 x)
    | _, _ => []
  dec := fun c ds => match c with
    | 0 => (decL (lfs 0) ds).map of0
    | 1 => (decL (lfs 1) ds).map of1
    | 2 => (decL (lfs 2) ds).map of2
    | 3 => (decL (lfs 3) ds).map of3
    | 4 => (decL (lfs 4) ds).map of4
    | 5 => (decL (lfs 5) ds).map of5
    | 6 => (decL (lfs 6) ds).map of6
    | 7 => (decL (lfs 7) ds).map of7
    | 8 => (decL (lfs 8) ds).map of8
    | _ => none
  bt := 0
  hb := rfl
  keq := fun c => match c with
    | 6 => some ([2], keq6)
    | 7 => some ([3, 2, 3], keq7)
    | _ => none
theorem cd_ok : CdOk cd where
  len := fun c => match c with
    | 0 => fun _ => rfl
    | 1 => fun _ => rfl
    | 2 => fun _ => rfl
    | 3 => fun _ => rfl
    | 4 => fun _ => rfl
    | 5 => fun _ => rfl
    | 6 => fun _ => rfl
    | 7 => fun _ => rfl
    | 8 => fun _ => rfl
    | _ + 9 => fun _ => rfl
  enc := fun c => match c with
    | 0 => fun _ => rfl
    | 1 => fun _ => rfl
    | 2 => fun _ => rfl
    | 3 => fun _ => rfl
    | 4 => fun _ => rfl
    | 5 => fun _ => rfl
    | 6 => fun _ => rfl
    | 7 => fun _ => rfl
    | 8 => fun _ => rfl
    | _ + 9 => fun _ => rfl
  epure := fun c => match c with
    | 0 => fun _ => rfl
    | 1 => fun _ => rfl
    | 2 => fun _ => rfl
    | 3 => fun _ => rfl
    | 4 => fun _ => rfl
    | 5 => fun _ => rfl
    | 6 => fun _ => rfl
    | 7 => fun _ => rfl
    | 8 => fun _ => rfl
    | _ + 9 => fun _ => rfl
  byte := fun _ => rfl
  bsz := rfl
  dec := fun c => match c with
    | 0 => fun ds x h => dec_ok cd (c := 0) (lfs 0) (of := of0) (e := eD0) (fun _ => rfl) ds x h
    | 1 => fun ds x h => dec_ok cd (c := 1) (lfs 1) (of := of1) (e := eD1) (fun _ => rfl) ds x h
    | 2 => fun ds x h => dec_ok cd (c := 2) (lfs 2) (of := of2) (e := eD2) (fun _ => rfl) ds x h
    | 3 => fun ds x h => dec_ok cd (c := 3) (lfs 3) (of := of3) (e := eD3) (fun _ => rfl) ds x h
    | 4 => fun ds x h => dec_ok cd (c := 4) (lfs 4) (of := of4) (e := eD4) (fun _ => rfl) ds x h
    | 5 => fun ds x h => dec_ok cd (c := 5) (lfs 5) (of := of5) (e := eD5) (fun _ => rfl) ds x h
    | 6 => fun ds x h => dec_ok cd (c := 6) (lfs 6) (of := of6) (e := eD6) (fun _ => rfl) ds x h
    | 7 => fun ds x h => dec_ok cd (c := 7) (lfs 7) (of := of7) (e := eD7) (fun _ => rfl) ds x h
    | 8 => fun ds x h => dec_ok cd (c := 8) (lfs 8) (of := of8) (e := eD8) (fun _ => rfl) ds x h
    | _ + 9 => fun _ _ h => by cases h
  keq := fun c => match c with
    | 0 => fun _ _ h => by cases h
    | 1 => fun _ _ h => by cases h
    | 2 => fun _ _ h => by cases h
    | 3 => fun _ _ h => by cases h
    | 4 => fun _ _ h => by cases h
    | 5 => fun _ _ h => by cases h
    | 6 => fun _ _ h x y => by cases h; rfl
    | 7 => fun _ _ h x y => by cases h; rfl
    | 8 => fun _ _ h => by cases h
    | _ + 9 => fun _ _ h => by cases h
def ti3 : TI := ⟨2, 1, 8, .int .i64, [.i .i64], [], [], none⟩
def ti4 : TI := ⟨10, 1, 1, .bool, [.b], [], [], none⟩
def ti5 : TI := ⟨0, 1, 1, .int .u8, [.i .u8], [], [], none⟩
def ti9 : TI := ⟨6, 1, 16, .str, [.s], [], [], none⟩
def ti22 : TI := ⟨10, 1, 24, .slice 29, [.ns], [], [], none⟩
def ti23 : TI := ⟨10, 1, 24, .slice 3, [.ns], [], [], none⟩
def ti25 : TI := ⟨8, 1, 24, .slice 5, [.ns], [], [], none⟩
def ti26 : TI := ⟨10, 1, 8, .int .u64, [.i .u64], [], [], none⟩
def ti27 : TI := ⟨10, 1, 8, .int .i64, [.i .i64], [], [], none⟩
def ti29 : TI := ⟨1, 14, 152, .strct, [.i .i64, .i .i64, .i .i64, .i .i64, .i .i64, .s, .ns, .ns, .i .u64, .i .u64, .i .i64, .i .i64, .i .i64, .i .i64], [some (0, 3), some (1, 3), some (2, 3), some (3, 3), some (4, 3), some (5, 9), some (6, 25), some (7, 25), some (8, 26), some (9, 26), some (10, 3), some (11, 3), some (12, 3), some (13, 27)], [(0, 1), (1, 1), (2, 1), (3, 1), (4, 1), (5, 1), (6, 1), (7, 1), (8, 1), (9, 1), (10, 1), (11, 1), (12, 1), (13, 1)], none⟩
def ti36 : TI := ⟨3, 4, 32, .strct, [.i .i64, .i .i64, .i .i64, .i .i64], [some (0, 3), some (1, 3), some (2, 3), some (3, 3)], [(0, 1), (1, 1), (2, 1), (3, 1)], some [3, 3, 3, 3]⟩
def ti41 : TI := ⟨10, 1, 24, .slice 44, [.ns], [], [], none⟩
def ti44 : TI := ⟨4, 2, 16, .strct, [.i .i64, .i .i64], [some (0, 3), some (1, 27)], [(0, 1), (1, 1)], some [3, 3]⟩
def ti46 : TI := ⟨5, 2, 32, .strct, [.ns, .i .i64], [some (0, 23), some (1, 3)], [(0, 1), (1, 1)], none⟩
def ti48 : TI := ⟨10, 1, 24, .slice 9, [.ns], [], [], none⟩
def ti49 : TI := ⟨10, 1, 8, .ptr 29, [.np], [], [], none⟩
def ti55 : TI := ⟨10, 1, 24, .slice 25, [.ns], [], [], none⟩
def ti58 : TI := ⟨10, 1, 8, .int .u64, [.i .u64], [], [], none⟩
def ti59 : TI := ⟨10, 1, 8, .map 62 4, [.nm], [], [], none⟩
def ti60 : TI := ⟨10, 1, 8, .map 9 4, [.nm], [], [], none⟩
def ti62 : TI := ⟨7, 3, 32, .strct, [.i .i64, .s, .i .i64], [some (0, 3), some (1, 9), some (2, 3)], [(0, 1), (1, 1), (2, 1)], some [3, 2, 3]⟩
def tab : Tr := .node (.node (.node (.node (.node .leaf 3 ti3 .leaf) 4 ti4 .leaf) 5 ti5 (.node (.node .leaf 9 ti9 .leaf) 22 ti22 .leaf)) 23 ti23 (.node (.node (.node .leaf 25 ti25 .leaf) 26 ti26 .leaf) 27 ti27 (.node .leaf 29 ti29 .leaf))) 36 ti36 (.node (.node (.node (.node .leaf 41 ti41 .leaf) 44 ti44 .leaf) 46 ti46 (.node (.node .leaf 48 ti48 .leaf) 49 ti49 .leaf)) 55 ti55 (.node (.node (.node .leaf 58 ti58 .leaf) 59 ti59 .leaf) 60 ti60 (.node .leaf 62 ti62 .leaf)))
def globs : Nat → Option (List (DT T)) := fun _ => none
def flc : Nat → Bool := fun c => match c with
  | 0 => true
  | 1 => false
  | 2 => true
  | 3 => true
  | 4 => true
  | 5 => false
  | 6 => true
  | 7 => true
  | 8 => false
  | _ => false
theorem hmix : Try.prog.follows .mixedOrders = true := by kernel_rfl
theorem tys : TysOk Try.prog tab.find := tys_ok (by kernel_rfl)
abbrev gdn : Nat → Option (List D) := fun g => (globs g).map (denL cd)
theorem fl_ok : FlOk cd flc := fun c => match c with
  | 0 => fun h _ => rfl
  | 1 => fun h _ => by cases h
  | 2 => fun h _ => rfl
  | 3 => fun h _ => rfl
  | 4 => fun h _ => rfl
  | 5 => fun h _ => by cases h
  | 6 => fun h _ => rfl
  | 7 => fun h _ => rfl
  | 8 => fun h _ => by cases h
  | _ + 9 => fun h _ => by cases h
def bytes_Clone (a0 : List UInt8) : Option (Unit × (List UInt8 × Unit)) := bif decide (a0.length ≤ 140737488355328) then some ((), a0, ()) else none
def S_bytes_Clone : FSpec T := ⟨[.f (.v (.rs 0))], [.own 0], fun x => bytes_Clone x.1⟩
theorem bytes_Clone_ok : SoundT Try.prog cd gdn 29 S_bytes_Clone := by
  refine sound_clone (C := cd) (c := 0) rfl (F := fun x => bytes_Clone x.1) rfl (fun l => rfl) ⟨_, Try.func29, by kernel_rfl, by kernel_rfl⟩ (fun x r h => ?_) (fun n c w => Any.bytes_Clone_nil Try.laysClone n c w) (fun a n c xs w h1 h2 h3 => Any.bytes_Clone_at Try.laysClone a n c xs w h1 h2 h3)
  change bytes_Clone x.1 = some r at h
  unfold bytes_Clone at h
  by_cases hs : List.length x.1 ≤ 140737488355328
  · simp only [hs, decide_true, cond_true] at h
    have hr := Option.some.inj h
    subst hr
    exact ⟨rfl, hs⟩
  · simp [hs] at h
def passkeylaw41_story : Option ((Unit) × ((List (ApiRecord)) × Unit)) :=
 (let v1 : List (ApiRecord) := ([(⟨(6 : Int), (0 : Int), (0 : Int), (4 : Int), (2 : Int), ([97, 108, 105, 99, 101] : List UInt8), ([(2 : UInt8)] : List (UInt8)), [], 0#64, 0#64, (0 : Int), (0 : Int), (0 : Int), (0 : Int)⟩ : ApiRecord), (⟨(5 : Int), (0 : Int), (0 : Int), (0 : Int), (2 : Int), ([104, 116, 116, 112, 115, 58, 47, 47, 97, 46, 101, 120, 97, 109, 112, 108, 101] : List UInt8), ([(2 : UInt8)] : List (UInt8)), [], 8#64, 9#64, (0 : Int), (0 : Int), (0 : Int), (0 : Int)⟩ : ApiRecord), (⟨(3 : Int), (0 : Int), (0 : Int), (0 : Int), (2 : Int), ([] : List UInt8), [], [], 8#64, 9#64, (0 : Int), (0 : Int), (0 : Int), (0 : Int)⟩ : ApiRecord), (⟨(2 : Int), (1 : Int), (0 : Int), (1 : Int), (0 : Int), ([] : List UInt8), [], [], 0#64, 0#64, (0 : Int), (0 : Int), (0 : Int), (0 : Int)⟩ : ApiRecord), (⟨(4 : Int), (1 : Int), (0 : Int), (0 : Int), (2 : Int), ([] : List UInt8), [], ([(1 : UInt8)] : List (UInt8)), 8#64, 9#64, (3 : Int), (1 : Int), (0 : Int), (0 : Int)⟩ : ApiRecord), (⟨(8 : Int), (1 : Int), (0 : Int), (4 : Int), (0 : Int), ([97, 108, 105, 99, 101] : List UInt8), [], ([(1 : UInt8)] : List (UInt8)), 0#64, 9#64, (3 : Int), (1 : Int), (0 : Int), (0 : Int)⟩ : ApiRecord)] : List (ApiRecord))
 (some ((), (v1, ()))))
def S_passkeylaw41_story : FSpec T := ⟨[], [(.own 1)], fun x => passkeylaw41_story ⟩
def E_passkeylaw41_story : Env T := ⟨tab.find, cd, globs, flc, fun f ds => match f with
    | _ => none, fun f => match f with
    | _ => false⟩
def A_passkeylaw41_story : Loc2 T := ⟨fun id => match id with
    | _ => none, fun r => match r with
    | _ => none, fun r => match r with
    | _ => false⟩
theorem passkeylaw41_story_eq (x : tySs T S_passkeylaw41_story.ps) : run E_passkeylaw41_story A_passkeylaw41_story (Try.f8.body.getD .skip) (enterT E_passkeylaw41_story.C S_passkeylaw41_story.ps x) (retK E_passkeylaw41_story Try.f8.results.toList S_passkeylaw41_story.ps S_passkeylaw41_story.rs) = S_passkeylaw41_story.fn x := by kernel_rfl
theorem passkeylaw41_story_env : EnvOk Try.prog E_passkeylaw41_story := envOk (E := E_passkeylaw41_story) cd_ok tys fl_ok fun f ds S h => by cases h
theorem passkeylaw41_story_ok : SoundT Try.prog cd gdn 8 S_passkeylaw41_story :=
  sound_fn (E := E_passkeylaw41_story) (A := A_passkeylaw41_story) (done := []) (c := (Try.f8.body.getD .skip)) (S := S_passkeylaw41_story) (fn := Try.f8) hmix passkeylaw41_story_env Try.func8 rfl (by kernel_rfl) (by kernel_rfl) done_nil (by kernel_rfl) (by kernel_rfl) passkeylaw41_story_eq
def monitor_Explain_1 (a0 : ApiRecord) (a1 : ApiRecord) : Option ((Unit) × (Bool × Unit)) :=
 (bif (decide (a0.kind = (6 : Int))) then (bif (decide (a0.who = a1.who)) then (bif (decide (a0.number = a1.number)) then (some ((), ((decide (a0.kind2 = (2 : Int))), ())))
 else (some ((), (false, ()))))
 else (some ((), (false, ()))))
 else (some ((), (false, ()))))
def S_monitor_Explain_1 : FSpec T := ⟨[.f (.v (.ref (.agg 1))), .f (.v (.ref (.ref (.agg 1))))], [(.v .bool)], fun x => monitor_Explain_1 x.1 x.2.1⟩
def E_monitor_Explain_1 : Env T := ⟨tab.find, cd, globs, flc, fun f ds => match f with
    | _ => none, fun f => match f with
    | _ => false⟩
def A_monitor_Explain_1 : Loc2 T := ⟨fun id => match id with
    | _ => none, fun r => match r with
    | _ => none, fun r => match r with
    | _ => false⟩
theorem monitor_Explain_1_eq (x : tySs T S_monitor_Explain_1.ps) : run E_monitor_Explain_1 A_monitor_Explain_1 (Try.f15.body.getD .skip) (enterT E_monitor_Explain_1.C S_monitor_Explain_1.ps x) (retK E_monitor_Explain_1 Try.f15.results.toList S_monitor_Explain_1.ps S_monitor_Explain_1.rs) = S_monitor_Explain_1.fn x := by kernel_rfl
theorem monitor_Explain_1_env : EnvOk Try.prog E_monitor_Explain_1 := envOk (E := E_monitor_Explain_1) cd_ok tys fl_ok fun f ds S h => by cases h
theorem monitor_Explain_1_ok : SoundT Try.prog cd gdn 15 S_monitor_Explain_1 :=
  sound_fn (E := E_monitor_Explain_1) (A := A_monitor_Explain_1) (done := []) (c := (Try.f15.body.getD .skip)) (S := S_monitor_Explain_1) (fn := Try.f15) hmix monitor_Explain_1_env Try.func15 rfl (by kernel_rfl) (by kernel_rfl) done_nil (by kernel_rfl) (by kernel_rfl) monitor_Explain_1_eq
def monitor_last_L0b (y0 : (List (ApiRecord))) (y1 : Int) (y2 : (ApiRecord × Unit)) (y3 : Int) : Option (((List (ApiRecord)) × Int × (ApiRecord × Unit) × Int × Unit) ⊕ ((Int × Unit) ⊕ (Unit))) :=
 (bif (decide (y1 ≤ y3)) then ((getI y0 y3).bind fun x1 => ((monitor_Explain_1 x1 y2.1).bind fun r2 => (bif r2.2.1 then (some (Sum.inr (Sum.inl (y3, ()))))
 else (some (Sum.inl (y0, y1, (y2.1, ()), (IntKind.wrap .i64 (y3 - (1 : Int))), ()))))))
 else (some (Sum.inr (Sum.inr ()))))
def monitor_last_L0 (y : ((List (ApiRecord)) × Int × (ApiRecord × Unit) × Int × Unit)) : Option ((Int × Unit) ⊕ (Unit)) := iter (fun (y : ((List (ApiRecord)) × Int × (ApiRecord × Unit) × Int × Unit)) => monitor_last_L0b y.1 y.2.1 y.2.2.1 y.2.2.2.1) rounds y
def monitor_last (a0 : (List (ApiRecord))) (a1 : Int) (a2 : Int) (a3 : (ApiRecord × Unit)) : Option ((Unit) × (Int × Unit)) :=
 ((monitor_last_L0 (a0, a1, (a3.1, ()), (IntKind.wrap .i64 (a2 - (1 : Int))), ())).bind (Sum.elim (fun (z3 : (Int × Unit)) => (some ((), (z3.1, ())))) (fun (z4 : (Unit)) => (some ((), ((-1 : Int), ()))))))
def S_monitor_last : FSpec T := ⟨[.f (.v (.rs 1)), .f (.v (.int .i64)), .f (.v (.int .i64)), .f (.v (.fn 15 (.cons (.ref (.ref (.agg 1))) .nil)))], [(.v (.int .i64))], fun x => monitor_last x.1 x.2.1 x.2.2.1 x.2.2.2.1⟩
def E_monitor_last : Env T := ⟨tab.find, cd, globs, flc, fun f ds => match f with
    | 15 => some S_monitor_Explain_1
    | _ => none, fun f => match f with
    | 15 => true
    | _ => false⟩
def A_monitor_last : Loc2 T := ⟨fun id => match id with
    | 0 => some ⟨[(0, .f (.v (.rs 1))), (1, .f (.v (.int .i64))), (3, .f (.v (.fn 15 (.cons (.ref (.ref (.agg 1))) .nil)))), (9, .f (.v (.int .i64)))], [(.ret, [(8, .f (.v (.int .i64)))]), (.exit 0, [])], monitor_last_L0, []⟩
    | _ => none, fun r => match r with
    | _ => none, fun r => match r with
    | _ => false⟩
theorem monitor_last_L0_eq (y0 : (List (ApiRecord))) (y1 : Int) (y2 : (ApiRecord × Unit)) (y3 : Int) : run E_monitor_last A_monitor_last (loopAt 0 (Try.f14.body.getD .skip)) (layC cd [(0, .f (.v (.rs 1))), (1, .f (.v (.int .i64))), (3, .f (.v (.fn 15 (.cons (.ref (.ref (.agg 1))) .nil)))), (9, .f (.v (.int .i64)))] [] (y0, y1, y2, y3, ())) (roundK cd [(0, .f (.v (.rs 1))), (1, .f (.v (.int .i64))), (3, .f (.v (.fn 15 (.cons (.ref (.ref (.agg 1))) .nil)))), (9, .f (.v (.int .i64)))] [] [(.ret, [(8, .f (.v (.int .i64)))]), (.exit 0, [])]) = monitor_last_L0b y0 y1 y2 y3 := by kernel_rfl
theorem monitor_last_eq (x : tySs T S_monitor_last.ps) : run E_monitor_last A_monitor_last (Try.f14.body.getD .skip) (enterT E_monitor_last.C S_monitor_last.ps x) (retK E_monitor_last Try.f14.results.toList S_monitor_last.ps S_monitor_last.rs) = S_monitor_last.fn x := by kernel_rfl
theorem monitor_last_env : EnvOk Try.prog E_monitor_last := envOk (E := E_monitor_last) cd_ok tys fl_ok fun f ds S h => by
    dsimp only [E_monitor_last] at h
    split at h
    · cases h; exact monitor_Explain_1_ok
    · cases h
theorem monitor_last_L0_ok : LoopOk Try.prog E_monitor_last Try.f14.ntmps (kqOf S_monitor_last.ps 0) (loopAt 0 (Try.f14.body.getD .skip)) ⟨[(0, .f (.v (.rs 1))), (1, .f (.v (.int .i64))), (3, .f (.v (.fn 15 (.cons (.ref (.ref (.agg 1))) .nil)))), (9, .f (.v (.int .i64)))], [(.ret, [(8, .f (.v (.int .i64)))]), (.exit 0, [])], monitor_last_L0, []⟩ :=
  loop_ok (A := A_monitor_last) (done := []) (c0 := (Try.f14.body.getD .skip)) hmix monitor_last_env done_nil rounds (by kernel_rfl) (by kernel_rfl) (fun x => monitor_last_L0_eq x.1 x.2.1 x.2.2.1 x.2.2.2.1) (fun _ => rfl)
theorem monitor_last_ok : SoundT Try.prog cd gdn 14 S_monitor_last :=
  sound_fn (E := E_monitor_last) (A := A_monitor_last) (done := [0]) (c := (Try.f14.body.getD .skip)) (S := S_monitor_last) (fn := Try.f14) hmix monitor_last_env Try.func14 rfl (by kernel_rfl) (by kernel_rfl) (done_cons rfl monitor_last_L0_ok done_nil) (by kernel_rfl) (by kernel_rfl) monitor_last_eq
def monitor_Explain_2 (a0 : ApiRecord) (a1 : ApiRecord) : Option ((Unit) × (Bool × Unit)) :=
 (bif (decide (a0.kind = (7 : Int))) then (bif (decide (a0.who = a1.who)) then (some ((), ((decide (a0.number = a1.number)), ())))
 else (some ((), (false, ()))))
 else (bif (decide (a0.kind = (8 : Int))) then (bif (decide (a0.who = a1.who)) then (some ((), ((decide (a0.number = a1.number)), ())))
 else (some ((), (false, ()))))
 else (some ((), (false, ())))))
def S_monitor_Explain_2 : FSpec T := ⟨[.f (.v (.ref (.agg 1))), .f (.v (.ref (.ref (.agg 1))))], [(.v .bool)], fun x => monitor_Explain_2 x.1 x.2.1⟩
def E_monitor_Explain_2 : Env T := ⟨tab.find, cd, globs, flc, fun f ds => match f with
    | _ => none, fun f => match f with
    | _ => false⟩
def A_monitor_Explain_2 : Loc2 T := ⟨fun id => match id with
    | _ => none, fun r => match r with
    | _ => none, fun r => match r with
    | _ => false⟩
theorem monitor_Explain_2_eq (x : tySs T S_monitor_Explain_2.ps) : run E_monitor_Explain_2 A_monitor_Explain_2 (Try.f16.body.getD .skip) (enterT E_monitor_Explain_2.C S_monitor_Explain_2.ps x) (retK E_monitor_Explain_2 Try.f16.results.toList S_monitor_Explain_2.ps S_monitor_Explain_2.rs) = S_monitor_Explain_2.fn x := by kernel_rfl
theorem monitor_Explain_2_env : EnvOk Try.prog E_monitor_Explain_2 := envOk (E := E_monitor_Explain_2) cd_ok tys fl_ok fun f ds S h => by cases h
theorem monitor_Explain_2_ok : SoundT Try.prog cd gdn 16 S_monitor_Explain_2 :=
  sound_fn (E := E_monitor_Explain_2) (A := A_monitor_Explain_2) (done := []) (c := (Try.f16.body.getD .skip)) (S := S_monitor_Explain_2) (fn := Try.f16) hmix monitor_Explain_2_env Try.func16 rfl (by kernel_rfl) (by kernel_rfl) done_nil (by kernel_rfl) (by kernel_rfl) monitor_Explain_2_eq
def monitor_last_1_L0b (y0 : (List (ApiRecord))) (y1 : Int) (y2 : (ApiRecord × Unit)) (y3 : Int) : Option (((List (ApiRecord)) × Int × (ApiRecord × Unit) × Int × Unit) ⊕ ((Int × Unit) ⊕ (Unit))) :=
 (bif (decide (y1 ≤ y3)) then ((getI y0 y3).bind fun x1 => ((monitor_Explain_2 x1 y2.1).bind fun r2 => (bif r2.2.1 then (some (Sum.inr (Sum.inl (y3, ()))))
 else (some (Sum.inl (y0, y1, (y2.1, ()), (IntKind.wrap .i64 (y3 - (1 : Int))), ()))))))
 else (some (Sum.inr (Sum.inr ()))))
def monitor_last_1_L0 (y : ((List (ApiRecord)) × Int × (ApiRecord × Unit) × Int × Unit)) : Option ((Int × Unit) ⊕ (Unit)) := iter (fun (y : ((List (ApiRecord)) × Int × (ApiRecord × Unit) × Int × Unit)) => monitor_last_1_L0b y.1 y.2.1 y.2.2.1 y.2.2.2.1) rounds y
def monitor_last_1 (a0 : (List (ApiRecord))) (a1 : Int) (a2 : Int) (a3 : (ApiRecord × Unit)) : Option ((Unit) × (Int × Unit)) :=
 ((monitor_last_1_L0 (a0, a1, (a3.1, ()), (IntKind.wrap .i64 (a2 - (1 : Int))), ())).bind (Sum.elim (fun (z3 : (Int × Unit)) => (some ((), (z3.1, ())))) (fun (z4 : (Unit)) => (some ((), ((-1 : Int), ()))))))
def S_monitor_last_1 : FSpec T := ⟨[.f (.v (.rs 1)), .f (.v (.int .i64)), .f (.v (.int .i64)), .f (.v (.fn 16 (.cons (.ref (.ref (.agg 1))) .nil)))], [(.v (.int .i64))], fun x => monitor_last_1 x.1 x.2.1 x.2.2.1 x.2.2.2.1⟩
def E_monitor_last_1 : Env T := ⟨tab.find, cd, globs, flc, fun f ds => match f with
    | 16 => some S_monitor_Explain_2
    | _ => none, fun f => match f with
    | 16 => true
    | _ => false⟩
def A_monitor_last_1 : Loc2 T := ⟨fun id => match id with
    | 0 => some ⟨[(0, .f (.v (.rs 1))), (1, .f (.v (.int .i64))), (3, .f (.v (.fn 16 (.cons (.ref (.ref (.agg 1))) .nil)))), (9, .f (.v (.int .i64)))], [(.ret, [(8, .f (.v (.int .i64)))]), (.exit 0, [])], monitor_last_1_L0, []⟩
    | _ => none, fun r => match r with
    | _ => none, fun r => match r with
    | _ => false⟩
theorem monitor_last_1_L0_eq (y0 : (List (ApiRecord))) (y1 : Int) (y2 : (ApiRecord × Unit)) (y3 : Int) : run E_monitor_last_1 A_monitor_last_1 (loopAt 0 (Try.f14.body.getD .skip)) (layC cd [(0, .f (.v (.rs 1))), (1, .f (.v (.int .i64))), (3, .f (.v (.fn 16 (.cons (.ref (.ref (.agg 1))) .nil)))), (9, .f (.v (.int .i64)))] [] (y0, y1, y2, y3, ())) (roundK cd [(0, .f (.v (.rs 1))), (1, .f (.v (.int .i64))), (3, .f (.v (.fn 16 (.cons (.ref (.ref (.agg 1))) .nil)))), (9, .f (.v (.int .i64)))] [] [(.ret, [(8, .f (.v (.int .i64)))]), (.exit 0, [])]) = monitor_last_1_L0b y0 y1 y2 y3 := by kernel_rfl
theorem monitor_last_1_eq (x : tySs T S_monitor_last_1.ps) : run E_monitor_last_1 A_monitor_last_1 (Try.f14.body.getD .skip) (enterT E_monitor_last_1.C S_monitor_last_1.ps x) (retK E_monitor_last_1 Try.f14.results.toList S_monitor_last_1.ps S_monitor_last_1.rs) = S_monitor_last_1.fn x := by kernel_rfl
theorem monitor_last_1_env : EnvOk Try.prog E_monitor_last_1 := envOk (E := E_monitor_last_1) cd_ok tys fl_ok fun f ds S h => by
    dsimp only [E_monitor_last_1] at h
    split at h
    · cases h; exact monitor_Explain_2_ok
    · cases h
theorem monitor_last_1_L0_ok : LoopOk Try.prog E_monitor_last_1 Try.f14.ntmps (kqOf S_monitor_last_1.ps 0) (loopAt 0 (Try.f14.body.getD .skip)) ⟨[(0, .f (.v (.rs 1))), (1, .f (.v (.int .i64))), (3, .f (.v (.fn 16 (.cons (.ref (.ref (.agg 1))) .nil)))), (9, .f (.v (.int .i64)))], [(.ret, [(8, .f (.v (.int .i64)))]), (.exit 0, [])], monitor_last_1_L0, []⟩ :=
  loop_ok (A := A_monitor_last_1) (done := []) (c0 := (Try.f14.body.getD .skip)) hmix monitor_last_1_env done_nil rounds (by kernel_rfl) (by kernel_rfl) (fun x => monitor_last_1_L0_eq x.1 x.2.1 x.2.2.1 x.2.2.2.1) (fun _ => rfl)
theorem monitor_last_1_ok : SoundT Try.prog cd gdn 14 S_monitor_last_1 :=
  sound_fn (E := E_monitor_last_1) (A := A_monitor_last_1) (done := [0]) (c := (Try.f14.body.getD .skip)) (S := S_monitor_last_1) (fn := Try.f14) hmix monitor_last_1_env Try.func14 rfl (by kernel_rfl) (by kernel_rfl) (done_cons rfl monitor_last_1_L0_ok done_nil) (by kernel_rfl) (by kernel_rfl) monitor_last_1_eq
def bytes_Equal (a0 : (List (UInt8))) (a1 : (List (UInt8))) : Option ((Unit) × (Bool × Unit)) :=
 (some ((), ((decide (a0 = a1)), ())))
def S_bytes_Equal : FSpec T := ⟨[.f (.v (.rs 0)), .f (.v (.rs 0))], [(.v .bool)], fun x => bytes_Equal x.1 x.2.1⟩
def E_bytes_Equal : Env T := ⟨tab.find, cd, globs, flc, fun f ds => match f with
    | _ => none, fun f => match f with
    | _ => false⟩
def A_bytes_Equal : Loc2 T := ⟨fun id => match id with
    | _ => none, fun r => match r with
    | _ => none, fun r => match r with
    | _ => false⟩
theorem bytes_Equal_eq (x : tySs T S_bytes_Equal.ps) : run E_bytes_Equal A_bytes_Equal (Try.f18.body.getD .skip) (enterT E_bytes_Equal.C S_bytes_Equal.ps x) (retK E_bytes_Equal Try.f18.results.toList S_bytes_Equal.ps S_bytes_Equal.rs) = S_bytes_Equal.fn x := by kernel_rfl
theorem bytes_Equal_env : EnvOk Try.prog E_bytes_Equal := envOk (E := E_bytes_Equal) cd_ok tys fl_ok fun f ds S h => by cases h
theorem bytes_Equal_ok : SoundT Try.prog cd gdn 18 S_bytes_Equal :=
  sound_fn (E := E_bytes_Equal) (A := A_bytes_Equal) (done := []) (c := (Try.f18.body.getD .skip)) (S := S_bytes_Equal) (fn := Try.f18) hmix bytes_Equal_env Try.func18 rfl (by kernel_rfl) (by kernel_rfl) done_nil (by kernel_rfl) (by kernel_rfl) bytes_Equal_eq
def monitor_Explain_3 (a0 : ApiRecord) (a1 : ApiRecord) : Option ((Unit) × (Bool × Unit)) :=
 (bif (decide (a0.kind = (4 : Int))) then (bif (decide (a0.kind2 = (2 : Int))) then ((bytes_Equal a0.iD a1.iD).bind fun r1 => (bif r1.2.1 then (bif (decide (a0.leaf = a1.leaf)) then (bif (decide (a0.hash = a1.hash)) then (some ((), ((decide (a0.flags = a1.flags)), ())))
 else (some ((), (false, ()))))
 else (some ((), (false, ()))))
 else (some ((), (false, ())))))
 else (some ((), (false, ()))))
 else (some ((), (false, ()))))
def S_monitor_Explain_3 : FSpec T := ⟨[.f (.v (.ref (.agg 1))), .f (.v (.ref (.ref (.agg 1))))], [(.v .bool)], fun x => monitor_Explain_3 x.1 x.2.1⟩
def E_monitor_Explain_3 : Env T := ⟨tab.find, cd, globs, flc, fun f ds => match f with
    | 18 => some S_bytes_Equal
    | _ => none, fun f => match f with
    | 18 => true
    | _ => false⟩
def A_monitor_Explain_3 : Loc2 T := ⟨fun id => match id with
    | _ => none, fun r => match r with
    | _ => none, fun r => match r with
    | _ => false⟩
theorem monitor_Explain_3_eq (x : tySs T S_monitor_Explain_3.ps) : run E_monitor_Explain_3 A_monitor_Explain_3 (Try.f17.body.getD .skip) (enterT E_monitor_Explain_3.C S_monitor_Explain_3.ps x) (retK E_monitor_Explain_3 Try.f17.results.toList S_monitor_Explain_3.ps S_monitor_Explain_3.rs) = S_monitor_Explain_3.fn x := by kernel_rfl
theorem monitor_Explain_3_env : EnvOk Try.prog E_monitor_Explain_3 := envOk (E := E_monitor_Explain_3) cd_ok tys fl_ok fun f ds S h => by
    dsimp only [E_monitor_Explain_3] at h
    split at h
    · cases h; exact bytes_Equal_ok
    · cases h
theorem monitor_Explain_3_ok : SoundT Try.prog cd gdn 17 S_monitor_Explain_3 :=
  sound_fn (E := E_monitor_Explain_3) (A := A_monitor_Explain_3) (done := []) (c := (Try.f17.body.getD .skip)) (S := S_monitor_Explain_3) (fn := Try.f17) hmix monitor_Explain_3_env Try.func17 rfl (by kernel_rfl) (by kernel_rfl) done_nil (by kernel_rfl) (by kernel_rfl) monitor_Explain_3_eq
def monitor_last_2_L0b (y0 : (List (ApiRecord))) (y1 : Int) (y2 : (ApiRecord × Unit)) (y3 : Int) : Option (((List (ApiRecord)) × Int × (ApiRecord × Unit) × Int × Unit) ⊕ ((Int × Unit) ⊕ (Unit))) :=
 (bif (decide (y1 ≤ y3)) then ((getI y0 y3).bind fun x1 => ((monitor_Explain_3 x1 y2.1).bind fun r2 => (bif r2.2.1 then (some (Sum.inr (Sum.inl (y3, ()))))
 else (some (Sum.inl (y0, y1, (y2.1, ()), (IntKind.wrap .i64 (y3 - (1 : Int))), ()))))))
 else (some (Sum.inr (Sum.inr ()))))
def monitor_last_2_L0 (y : ((List (ApiRecord)) × Int × (ApiRecord × Unit) × Int × Unit)) : Option ((Int × Unit) ⊕ (Unit)) := iter (fun (y : ((List (ApiRecord)) × Int × (ApiRecord × Unit) × Int × Unit)) => monitor_last_2_L0b y.1 y.2.1 y.2.2.1 y.2.2.2.1) rounds y
def monitor_last_2 (a0 : (List (ApiRecord))) (a1 : Int) (a2 : Int) (a3 : (ApiRecord × Unit)) : Option ((Unit) × (Int × Unit)) :=
 ((monitor_last_2_L0 (a0, a1, (a3.1, ()), (IntKind.wrap .i64 (a2 - (1 : Int))), ())).bind (Sum.elim (fun (z3 : (Int × Unit)) => (some ((), (z3.1, ())))) (fun (z4 : (Unit)) => (some ((), ((-1 : Int), ()))))))
def S_monitor_last_2 : FSpec T := ⟨[.f (.v (.rs 1)), .f (.v (.int .i64)), .f (.v (.int .i64)), .f (.v (.fn 17 (.cons (.ref (.ref (.agg 1))) .nil)))], [(.v (.int .i64))], fun x => monitor_last_2 x.1 x.2.1 x.2.2.1 x.2.2.2.1⟩
def E_monitor_last_2 : Env T := ⟨tab.find, cd, globs, flc, fun f ds => match f with
    | 17 => some S_monitor_Explain_3
    | _ => none, fun f => match f with
    | 17 => true
    | _ => false⟩
def A_monitor_last_2 : Loc2 T := ⟨fun id => match id with
    | 0 => some ⟨[(0, .f (.v (.rs 1))), (1, .f (.v (.int .i64))), (3, .f (.v (.fn 17 (.cons (.ref (.ref (.agg 1))) .nil)))), (9, .f (.v (.int .i64)))], [(.ret, [(8, .f (.v (.int .i64)))]), (.exit 0, [])], monitor_last_2_L0, []⟩
    | _ => none, fun r => match r with
    | _ => none, fun r => match r with
    | _ => false⟩
theorem monitor_last_2_L0_eq (y0 : (List (ApiRecord))) (y1 : Int) (y2 : (ApiRecord × Unit)) (y3 : Int) : run E_monitor_last_2 A_monitor_last_2 (loopAt 0 (Try.f14.body.getD .skip)) (layC cd [(0, .f (.v (.rs 1))), (1, .f (.v (.int .i64))), (3, .f (.v (.fn 17 (.cons (.ref (.ref (.agg 1))) .nil)))), (9, .f (.v (.int .i64)))] [] (y0, y1, y2, y3, ())) (roundK cd [(0, .f (.v (.rs 1))), (1, .f (.v (.int .i64))), (3, .f (.v (.fn 17 (.cons (.ref (.ref (.agg 1))) .nil)))), (9, .f (.v (.int .i64)))] [] [(.ret, [(8, .f (.v (.int .i64)))]), (.exit 0, [])]) = monitor_last_2_L0b y0 y1 y2 y3 := by kernel_rfl
theorem monitor_last_2_eq (x : tySs T S_monitor_last_2.ps) : run E_monitor_last_2 A_monitor_last_2 (Try.f14.body.getD .skip) (enterT E_monitor_last_2.C S_monitor_last_2.ps x) (retK E_monitor_last_2 Try.f14.results.toList S_monitor_last_2.ps S_monitor_last_2.rs) = S_monitor_last_2.fn x := by kernel_rfl
theorem monitor_last_2_env : EnvOk Try.prog E_monitor_last_2 := envOk (E := E_monitor_last_2) cd_ok tys fl_ok fun f ds S h => by
    dsimp only [E_monitor_last_2] at h
    split at h
    · cases h; exact monitor_Explain_3_ok
    · cases h
theorem monitor_last_2_L0_ok : LoopOk Try.prog E_monitor_last_2 Try.f14.ntmps (kqOf S_monitor_last_2.ps 0) (loopAt 0 (Try.f14.body.getD .skip)) ⟨[(0, .f (.v (.rs 1))), (1, .f (.v (.int .i64))), (3, .f (.v (.fn 17 (.cons (.ref (.ref (.agg 1))) .nil)))), (9, .f (.v (.int .i64)))], [(.ret, [(8, .f (.v (.int .i64)))]), (.exit 0, [])], monitor_last_2_L0, []⟩ :=
  loop_ok (A := A_monitor_last_2) (done := []) (c0 := (Try.f14.body.getD .skip)) hmix monitor_last_2_env done_nil rounds (by kernel_rfl) (by kernel_rfl) (fun x => monitor_last_2_L0_eq x.1 x.2.1 x.2.2.1 x.2.2.2.1) (fun _ => rfl)
theorem monitor_last_2_ok : SoundT Try.prog cd gdn 14 S_monitor_last_2 :=
  sound_fn (E := E_monitor_last_2) (A := A_monitor_last_2) (done := [0]) (c := (Try.f14.body.getD .skip)) (S := S_monitor_last_2) (fn := Try.f14) hmix monitor_last_2_env Try.func14 rfl (by kernel_rfl) (by kernel_rfl) (done_cons rfl monitor_last_2_L0_ok done_nil) (by kernel_rfl) (by kernel_rfl) monitor_last_2_eq
def monitor_Explain_4 (a0 : ApiRecord) (a1 : ApiRecord) (a2 : (List (ApiRecord))) (a3 : Int) (a4 : Int) : Option ((Unit) × (Bool × Unit)) :=
 (bif (decide (a0.kind = (5 : Int))) then (bif (decide (a0.kind2 = (2 : Int))) then (bif (decide (a0.hash = a1.hash)) then ((getI a2 a3).bind fun x1 => ((bytes_Equal a0.challenge x1.challenge).bind fun r2 => (bif r2.2.1 then ((getI a2 a4).bind fun x3 => (some ((), ((decide (a0.word = x3.word)), ()))))
 else (some ((), (false, ()))))))
 else (some ((), (false, ()))))
 else (some ((), (false, ()))))
 else (some ((), (false, ()))))
def S_monitor_Explain_4 : FSpec T := ⟨[.f (.v (.ref (.agg 1))), .f (.v (.ref (.ref (.agg 1)))), .f (.v (.ref (.rs 1))), .f (.v (.ref (.int .i64))), .f (.v (.ref (.int .i64)))], [(.v .bool)], fun x => monitor_Explain_4 x.1 x.2.1 x.2.2.1 x.2.2.2.1 x.2.2.2.2.1⟩
def E_monitor_Explain_4 : Env T := ⟨tab.find, cd, globs, flc, fun f ds => match f with
    | 18 => some S_bytes_Equal
    | _ => none, fun f => match f with
    | 18 => true
    | _ => false⟩
def A_monitor_Explain_4 : Loc2 T := ⟨fun id => match id with
    | _ => none, fun r => match r with
    | _ => none, fun r => match r with
    | _ => false⟩
theorem monitor_Explain_4_eq (x : tySs T S_monitor_Explain_4.ps) : run E_monitor_Explain_4 A_monitor_Explain_4 (Try.f19.body.getD .skip) (enterT E_monitor_Explain_4.C S_monitor_Explain_4.ps x) (retK E_monitor_Explain_4 Try.f19.results.toList S_monitor_Explain_4.ps S_monitor_Explain_4.rs) = S_monitor_Explain_4.fn x := by kernel_rfl
theorem monitor_Explain_4_env : EnvOk Try.prog E_monitor_Explain_4 := envOk (E := E_monitor_Explain_4) cd_ok tys fl_ok fun f ds S h => by
    dsimp only [E_monitor_Explain_4] at h
    split at h
    · cases h; exact bytes_Equal_ok
    · cases h
theorem monitor_Explain_4_ok : SoundT Try.prog cd gdn 19 S_monitor_Explain_4 :=
  sound_fn (E := E_monitor_Explain_4) (A := A_monitor_Explain_4) (done := []) (c := (Try.f19.body.getD .skip)) (S := S_monitor_Explain_4) (fn := Try.f19) hmix monitor_Explain_4_env Try.func19 rfl (by kernel_rfl) (by kernel_rfl) done_nil (by kernel_rfl) (by kernel_rfl) monitor_Explain_4_eq
def monitor_last_3_L0b (y0 : (List (ApiRecord))) (y1 : Int) (y2 : (ApiRecord × (List (ApiRecord)) × Int × Int × Unit)) (y3 : Int) : Option (((List (ApiRecord)) × Int × (ApiRecord × (List (ApiRecord)) × Int × Int × Unit) × Int × Unit) ⊕ ((Int × Unit) ⊕ (Unit))) :=
 (bif (decide (y1 ≤ y3)) then ((getI y0 y3).bind fun x1 => ((monitor_Explain_4 x1 y2.1 y2.2.1 y2.2.2.1 y2.2.2.2.1).bind fun r2 => (bif r2.2.1 then (some (Sum.inr (Sum.inl (y3, ()))))
 else (some (Sum.inl (y0, y1, (y2.1, y2.2.1, y2.2.2.1, y2.2.2.2.1, ()), (IntKind.wrap .i64 (y3 - (1 : Int))), ()))))))
 else (some (Sum.inr (Sum.inr ()))))
def monitor_last_3_L0 (y : ((List (ApiRecord)) × Int × (ApiRecord × (List (ApiRecord)) × Int × Int × Unit) × Int × Unit)) : Option ((Int × Unit) ⊕ (Unit)) := iter (fun (y : ((List (ApiRecord)) × Int × (ApiRecord × (List (ApiRecord)) × Int × Int × Unit) × Int × Unit)) => monitor_last_3_L0b y.1 y.2.1 y.2.2.1 y.2.2.2.1) rounds y
def monitor_last_3 (a0 : (List (ApiRecord))) (a1 : Int) (a2 : Int) (a3 : (ApiRecord × (List (ApiRecord)) × Int × Int × Unit)) : Option ((Unit) × (Int × Unit)) :=
 ((monitor_last_3_L0 (a0, a1, (a3.1, a3.2.1, a3.2.2.1, a3.2.2.2.1, ()), (IntKind.wrap .i64 (a2 - (1 : Int))), ())).bind (Sum.elim (fun (z3 : (Int × Unit)) => (some ((), (z3.1, ())))) (fun (z4 : (Unit)) => (some ((), ((-1 : Int), ()))))))
def S_monitor_last_3 : FSpec T := ⟨[.f (.v (.rs 1)), .f (.v (.int .i64)), .f (.v (.int .i64)), .f (.v (.fn 19 (.cons (.ref (.ref (.agg 1))) (.cons (.ref (.rs 1)) (.cons (.ref (.int .i64)) (.cons (.ref (.int .i64)) .nil))))))], [(.v (.int .i64))], fun x => monitor_last_3 x.1 x.2.1 x.2.2.1 x.2.2.2.1⟩
def E_monitor_last_3 : Env T := ⟨tab.find, cd, globs, flc, fun f ds => match f with
    | 19 => some S_monitor_Explain_4
    | _ => none, fun f => match f with
    | 19 => true
    | _ => false⟩
def A_monitor_last_3 : Loc2 T := ⟨fun id => match id with
    | 0 => some ⟨[(0, .f (.v (.rs 1))), (1, .f (.v (.int .i64))), (3, .f (.v (.fn 19 (.cons (.ref (.ref (.agg 1))) (.cons (.ref (.rs 1)) (.cons (.ref (.int .i64)) (.cons (.ref (.int .i64)) .nil))))))), (9, .f (.v (.int .i64)))], [(.ret, [(8, .f (.v (.int .i64)))]), (.exit 0, [])], monitor_last_3_L0, []⟩
    | _ => none, fun r => match r with
    | _ => none, fun r => match r with
    | _ => false⟩
theorem monitor_last_3_L0_eq (y0 : (List (ApiRecord))) (y1 : Int) (y2 : (ApiRecord × (List (ApiRecord)) × Int × Int × Unit)) (y3 : Int) : run E_monitor_last_3 A_monitor_last_3 (loopAt 0 (Try.f14.body.getD .skip)) (layC cd [(0, .f (.v (.rs 1))), (1, .f (.v (.int .i64))), (3, .f (.v (.fn 19 (.cons (.ref (.ref (.agg 1))) (.cons (.ref (.rs 1)) (.cons (.ref (.int .i64)) (.cons (.ref (.int .i64)) .nil))))))), (9, .f (.v (.int .i64)))] [] (y0, y1, y2, y3, ())) (roundK cd [(0, .f (.v (.rs 1))), (1, .f (.v (.int .i64))), (3, .f (.v (.fn 19 (.cons (.ref (.ref (.agg 1))) (.cons (.ref (.rs 1)) (.cons (.ref (.int .i64)) (.cons (.ref (.int .i64)) .nil))))))), (9, .f (.v (.int .i64)))] [] [(.ret, [(8, .f (.v (.int .i64)))]), (.exit 0, [])]) = monitor_last_3_L0b y0 y1 y2 y3 := by kernel_rfl
theorem monitor_last_3_eq (x : tySs T S_monitor_last_3.ps) : run E_monitor_last_3 A_monitor_last_3 (Try.f14.body.getD .skip) (enterT E_monitor_last_3.C S_monitor_last_3.ps x) (retK E_monitor_last_3 Try.f14.results.toList S_monitor_last_3.ps S_monitor_last_3.rs) = S_monitor_last_3.fn x := by kernel_rfl
theorem monitor_last_3_env : EnvOk Try.prog E_monitor_last_3 := envOk (E := E_monitor_last_3) cd_ok tys fl_ok fun f ds S h => by
    dsimp only [E_monitor_last_3] at h
    split at h
    · cases h; exact monitor_Explain_4_ok
    · cases h
theorem monitor_last_3_L0_ok : LoopOk Try.prog E_monitor_last_3 Try.f14.ntmps (kqOf S_monitor_last_3.ps 0) (loopAt 0 (Try.f14.body.getD .skip)) ⟨[(0, .f (.v (.rs 1))), (1, .f (.v (.int .i64))), (3, .f (.v (.fn 19 (.cons (.ref (.ref (.agg 1))) (.cons (.ref (.rs 1)) (.cons (.ref (.int .i64)) (.cons (.ref (.int .i64)) .nil))))))), (9, .f (.v (.int .i64)))], [(.ret, [(8, .f (.v (.int .i64)))]), (.exit 0, [])], monitor_last_3_L0, []⟩ :=
  loop_ok (A := A_monitor_last_3) (done := []) (c0 := (Try.f14.body.getD .skip)) hmix monitor_last_3_env done_nil rounds (by kernel_rfl) (by kernel_rfl) (fun x => monitor_last_3_L0_eq x.1 x.2.1 x.2.2.1 x.2.2.2.1) (fun _ => rfl)
theorem monitor_last_3_ok : SoundT Try.prog cd gdn 14 S_monitor_last_3 :=
  sound_fn (E := E_monitor_last_3) (A := A_monitor_last_3) (done := [0]) (c := (Try.f14.body.getD .skip)) (S := S_monitor_last_3) (fn := Try.f14) hmix monitor_last_3_env Try.func14 rfl (by kernel_rfl) (by kernel_rfl) (done_cons rfl monitor_last_3_L0_ok done_nil) (by kernel_rfl) (by kernel_rfl) monitor_last_3_eq
def monitor_Explain_5 (a0 : ApiRecord) (a1 : (List (ApiRecord))) (a2 : Int) : Option ((Unit) × (Bool × Unit)) :=
 (bif (decide (a0.kind = (2 : Int))) then ((getI a1 a2).bind fun x1 => (bif (decide (a0.who = x1.who)) then ((getI a1 a2).bind fun x2 => (bif (decide (x2.since < a0.time)) then (bif (decide (a0.number = (1 : Int))) then (some ((), (true, ())))
 else (bif (decide (a0.number = (2 : Int))) then (some ((), (true, ())))
 else (some ((), ((decide (a0.number = (3 : Int))), ())))))
 else (some ((), (false, ())))))
 else (some ((), (false, ())))))
 else (some ((), (false, ()))))
def S_monitor_Explain_5 : FSpec T := ⟨[.f (.v (.ref (.agg 1))), .f (.v (.ref (.rs 1))), .f (.v (.ref (.int .i64)))], [(.v .bool)], fun x => monitor_Explain_5 x.1 x.2.1 x.2.2.1⟩
def E_monitor_Explain_5 : Env T := ⟨tab.find, cd, globs, flc, fun f ds => match f with
    | _ => none, fun f => match f with
    | _ => false⟩
def A_monitor_Explain_5 : Loc2 T := ⟨fun id => match id with
    | _ => none, fun r => match r with
    | _ => none, fun r => match r with
    | _ => false⟩
theorem monitor_Explain_5_eq (x : tySs T S_monitor_Explain_5.ps) : run E_monitor_Explain_5 A_monitor_Explain_5 (Try.f20.body.getD .skip) (enterT E_monitor_Explain_5.C S_monitor_Explain_5.ps x) (retK E_monitor_Explain_5 Try.f20.results.toList S_monitor_Explain_5.ps S_monitor_Explain_5.rs) = S_monitor_Explain_5.fn x := by kernel_rfl
theorem monitor_Explain_5_env : EnvOk Try.prog E_monitor_Explain_5 := envOk (E := E_monitor_Explain_5) cd_ok tys fl_ok fun f ds S h => by cases h
theorem monitor_Explain_5_ok : SoundT Try.prog cd gdn 20 S_monitor_Explain_5 :=
  sound_fn (E := E_monitor_Explain_5) (A := A_monitor_Explain_5) (done := []) (c := (Try.f20.body.getD .skip)) (S := S_monitor_Explain_5) (fn := Try.f20) hmix monitor_Explain_5_env Try.func20 rfl (by kernel_rfl) (by kernel_rfl) done_nil (by kernel_rfl) (by kernel_rfl) monitor_Explain_5_eq
def monitor_last_4_L0b (y0 : (List (ApiRecord))) (y1 : Int) (y2 : ((List (ApiRecord)) × Int × Unit)) (y3 : Int) : Option (((List (ApiRecord)) × Int × ((List (ApiRecord)) × Int × Unit) × Int × Unit) ⊕ ((Int × Unit) ⊕ (Unit))) :=
 (bif (decide (y1 ≤ y3)) then ((getI y0 y3).bind fun x1 => ((monitor_Explain_5 x1 y2.1 y2.2.1).bind fun r2 => (bif r2.2.1 then (some (Sum.inr (Sum.inl (y3, ()))))
 else (some (Sum.inl (y0, y1, (y2.1, y2.2.1, ()), (IntKind.wrap .i64 (y3 - (1 : Int))), ()))))))
 else (some (Sum.inr (Sum.inr ()))))
def monitor_last_4_L0 (y : ((List (ApiRecord)) × Int × ((List (ApiRecord)) × Int × Unit) × Int × Unit)) : Option ((Int × Unit) ⊕ (Unit)) := iter (fun (y : ((List (ApiRecord)) × Int × ((List (ApiRecord)) × Int × Unit) × Int × Unit)) => monitor_last_4_L0b y.1 y.2.1 y.2.2.1 y.2.2.2.1) rounds y
def monitor_last_4 (a0 : (List (ApiRecord))) (a1 : Int) (a2 : Int) (a3 : ((List (ApiRecord)) × Int × Unit)) : Option ((Unit) × (Int × Unit)) :=
 ((monitor_last_4_L0 (a0, a1, (a3.1, a3.2.1, ()), (IntKind.wrap .i64 (a2 - (1 : Int))), ())).bind (Sum.elim (fun (z3 : (Int × Unit)) => (some ((), (z3.1, ())))) (fun (z4 : (Unit)) => (some ((), ((-1 : Int), ()))))))
def S_monitor_last_4 : FSpec T := ⟨[.f (.v (.rs 1)), .f (.v (.int .i64)), .f (.v (.int .i64)), .f (.v (.fn 20 (.cons (.ref (.rs 1)) (.cons (.ref (.int .i64)) .nil))))], [(.v (.int .i64))], fun x => monitor_last_4 x.1 x.2.1 x.2.2.1 x.2.2.2.1⟩
def E_monitor_last_4 : Env T := ⟨tab.find, cd, globs, flc, fun f ds => match f with
    | 20 => some S_monitor_Explain_5
    | _ => none, fun f => match f with
    | 20 => true
    | _ => false⟩
def A_monitor_last_4 : Loc2 T := ⟨fun id => match id with
    | 0 => some ⟨[(0, .f (.v (.rs 1))), (1, .f (.v (.int .i64))), (3, .f (.v (.fn 20 (.cons (.ref (.rs 1)) (.cons (.ref (.int .i64)) .nil))))), (9, .f (.v (.int .i64)))], [(.ret, [(8, .f (.v (.int .i64)))]), (.exit 0, [])], monitor_last_4_L0, []⟩
    | _ => none, fun r => match r with
    | _ => none, fun r => match r with
    | _ => false⟩
theorem monitor_last_4_L0_eq (y0 : (List (ApiRecord))) (y1 : Int) (y2 : ((List (ApiRecord)) × Int × Unit)) (y3 : Int) : run E_monitor_last_4 A_monitor_last_4 (loopAt 0 (Try.f14.body.getD .skip)) (layC cd [(0, .f (.v (.rs 1))), (1, .f (.v (.int .i64))), (3, .f (.v (.fn 20 (.cons (.ref (.rs 1)) (.cons (.ref (.int .i64)) .nil))))), (9, .f (.v (.int .i64)))] [] (y0, y1, y2, y3, ())) (roundK cd [(0, .f (.v (.rs 1))), (1, .f (.v (.int .i64))), (3, .f (.v (.fn 20 (.cons (.ref (.rs 1)) (.cons (.ref (.int .i64)) .nil))))), (9, .f (.v (.int .i64)))] [] [(.ret, [(8, .f (.v (.int .i64)))]), (.exit 0, [])]) = monitor_last_4_L0b y0 y1 y2 y3 := by kernel_rfl
theorem monitor_last_4_eq (x : tySs T S_monitor_last_4.ps) : run E_monitor_last_4 A_monitor_last_4 (Try.f14.body.getD .skip) (enterT E_monitor_last_4.C S_monitor_last_4.ps x) (retK E_monitor_last_4 Try.f14.results.toList S_monitor_last_4.ps S_monitor_last_4.rs) = S_monitor_last_4.fn x := by kernel_rfl
theorem monitor_last_4_env : EnvOk Try.prog E_monitor_last_4 := envOk (E := E_monitor_last_4) cd_ok tys fl_ok fun f ds S h => by
    dsimp only [E_monitor_last_4] at h
    split at h
    · cases h; exact monitor_Explain_5_ok
    · cases h
theorem monitor_last_4_L0_ok : LoopOk Try.prog E_monitor_last_4 Try.f14.ntmps (kqOf S_monitor_last_4.ps 0) (loopAt 0 (Try.f14.body.getD .skip)) ⟨[(0, .f (.v (.rs 1))), (1, .f (.v (.int .i64))), (3, .f (.v (.fn 20 (.cons (.ref (.rs 1)) (.cons (.ref (.int .i64)) .nil))))), (9, .f (.v (.int .i64)))], [(.ret, [(8, .f (.v (.int .i64)))]), (.exit 0, [])], monitor_last_4_L0, []⟩ :=
  loop_ok (A := A_monitor_last_4) (done := []) (c0 := (Try.f14.body.getD .skip)) hmix monitor_last_4_env done_nil rounds (by kernel_rfl) (by kernel_rfl) (fun x => monitor_last_4_L0_eq x.1 x.2.1 x.2.2.1 x.2.2.2.1) (fun _ => rfl)
theorem monitor_last_4_ok : SoundT Try.prog cd gdn 14 S_monitor_last_4 :=
  sound_fn (E := E_monitor_last_4) (A := A_monitor_last_4) (done := [0]) (c := (Try.f14.body.getD .skip)) (S := S_monitor_last_4) (fn := Try.f14) hmix monitor_last_4_env Try.func14 rfl (by kernel_rfl) (by kernel_rfl) (done_cons rfl monitor_last_4_L0_ok done_nil) (by kernel_rfl) (by kernel_rfl) monitor_last_4_eq
def monitor_Explain (a0 : (List (ApiRecord))) (a1 : Int) : Option ((Unit) × (ApiCause × Int × Unit)) :=
 (bif (decide (a1 < (0 : Int))) then (some ((), ((⟨(0 : Int), (0 : Int), (0 : Int), (0 : Int)⟩ : ApiCause), (9 : Int), ())))
 else (bif (decide (((a0).length : Int) ≤ a1)) then (some ((), ((⟨(0 : Int), (0 : Int), (0 : Int), (0 : Int)⟩ : ApiCause), (9 : Int), ())))
 else ((getI a0 a1).bind fun x1 => (bif (!decide (x1.kind = (8 : Int))) then (some ((), ((⟨(0 : Int), (0 : Int), (0 : Int), (0 : Int)⟩ : ApiCause), (3 : Int), ())))
 else ((monitor_last a0 (0 : Int) a1 (x1, ())).bind fun r2 => (bif (decide (r2.2.1 < (0 : Int))) then (some ((), ((⟨(0 : Int), (0 : Int), (0 : Int), (0 : Int)⟩ : ApiCause), (35 : Int), ())))
 else ((monitor_last_1 a0 (0 : Int) a1 (x1, ())).bind fun r3 => (bif (decide ((0 : Int) ≤ r3.2.1)) then (some ((), ((⟨(0 : Int), (0 : Int), (0 : Int), (0 : Int)⟩ : ApiCause), (35 : Int), ())))
 else ((getI a0 r2.2.1).bind fun x4 => (bif (!decide (x4.text = ([] : List UInt8))) then ((getI a0 r2.2.1).bind fun x5 => (bif (!decide (x5.text = x1.text)) then (some ((), ((⟨(0 : Int), (0 : Int), (0 : Int), (0 : Int)⟩ : ApiCause), (36 : Int), ())))
 else ((monitor_last_2 a0 (0 : Int) a1 (x1, ())).bind fun r6 => (bif (decide (r6.2.1 < (0 : Int))) then (some ((), ((⟨(0 : Int), (0 : Int), (0 : Int), (0 : Int)⟩ : ApiCause), (15 : Int), ())))
 else ((monitor_last_3 a0 (IntKind.wrap .i64 (r2.2.1 + (1 : Int))) r6.2.1 (x1, a0, r2.2.1, r6.2.1, ())).bind fun r7 => (bif (decide (r7.2.1 < (0 : Int))) then (some ((), ((⟨(0 : Int), (0 : Int), (0 : Int), (0 : Int)⟩ : ApiCause), (34 : Int), ())))
 else ((monitor_last_4 a0 (0 : Int) r6.2.1 (a0, r6.2.1, ())).bind fun r8 => (let v9 : Int := (IntKind.wrap .i64 ((BitVec.ofInt (IntKind.bits .i64) x1.flags &&& BitVec.ofInt (IntKind.bits .i64) (1 : Int)).toNat : Int))
 (bif (decide (v9 = (0 : Int))) then (some ((), ((⟨(0 : Int), (0 : Int), (0 : Int), (0 : Int)⟩ : ApiCause), (22 : Int), ())))
 else (bif (decide (r8.2.1 < (0 : Int))) then (some ((), ((⟨(0 : Int), (0 : Int), (0 : Int), (0 : Int)⟩ : ApiCause), (22 : Int), ())))
 else (some ((), ((⟨r2.2.1, r7.2.1, r6.2.1, r8.2.1⟩ : ApiCause), (0 : Int), ())))))))))))))
 else ((monitor_last_2 a0 (0 : Int) a1 (x1, ())).bind fun r10 => (bif (decide (r10.2.1 < (0 : Int))) then (some ((), ((⟨(0 : Int), (0 : Int), (0 : Int), (0 : Int)⟩ : ApiCause), (15 : Int), ())))
 else ((monitor_last_3 a0 (IntKind.wrap .i64 (r2.2.1 + (1 : Int))) r10.2.1 (x1, a0, r2.2.1, r10.2.1, ())).bind fun r11 => (bif (decide (r11.2.1 < (0 : Int))) then (some ((), ((⟨(0 : Int), (0 : Int), (0 : Int), (0 : Int)⟩ : ApiCause), (34 : Int), ())))
 else ((monitor_last_4 a0 (0 : Int) r10.2.1 (a0, r10.2.1, ())).bind fun r12 => (let v13 : Int := (IntKind.wrap .i64 ((BitVec.ofInt (IntKind.bits .i64) x1.flags &&& BitVec.ofInt (IntKind.bits .i64) (1 : Int)).toNat : Int))
 (bif (decide (v13 = (0 : Int))) then (some ((), ((⟨(0 : Int), (0 : Int), (0 : Int), (0 : Int)⟩ : ApiCause), (22 : Int), ())))
 else (bif (decide (r12.2.1 < (0 : Int))) then (some ((), ((⟨(0 : Int), (0 : Int), (0 : Int), (0 : Int)⟩ : ApiCause), (22 : Int), ())))
 else (some ((), ((⟨r2.2.1, r11.2.1, r10.2.1, r12.2.1⟩ : ApiCause), (0 : Int), ())))))))))))))))))))))
def S_monitor_Explain : FSpec T := ⟨[.f (.v (.rs 1)), .f (.v (.int .i64))], [(.v (.agg 3)), (.v (.int .i64))], fun x => monitor_Explain x.1 x.2.1⟩
def E_monitor_Explain : Env T := ⟨tab.find, cd, globs, flc, fun f ds => match f with
    | 14 => match fnAt ds 3 with
      | some 15 => some S_monitor_last
      | some 16 => some S_monitor_last_1
      | some 17 => some S_monitor_last_2
      | some 19 => some S_monitor_last_3
      | some 20 => some S_monitor_last_4
      | _ => none
    | _ => none, fun f => match f with
    | 14 => true
    | _ => false⟩
def A_monitor_Explain : Loc2 T := ⟨fun id => match id with
    | _ => none, fun r => match r with
    | _ => none, fun r => match r with
    | _ => false⟩
theorem monitor_Explain_eq (x : tySs T S_monitor_Explain.ps) : run E_monitor_Explain A_monitor_Explain (Try.f9.body.getD .skip) (enterT E_monitor_Explain.C S_monitor_Explain.ps x) (retK E_monitor_Explain Try.f9.results.toList S_monitor_Explain.ps S_monitor_Explain.rs) = S_monitor_Explain.fn x := by kernel_rfl
theorem monitor_Explain_env : EnvOk Try.prog E_monitor_Explain := envOk (E := E_monitor_Explain) cd_ok tys fl_ok fun f ds S h => by
    dsimp only [E_monitor_Explain] at h
    split at h
    · split at h
      · cases h; exact monitor_last_ok
      · cases h; exact monitor_last_1_ok
      · cases h; exact monitor_last_2_ok
      · cases h; exact monitor_last_3_ok
      · cases h; exact monitor_last_4_ok
      · cases h
    · cases h
theorem monitor_Explain_ok : SoundT Try.prog cd gdn 9 S_monitor_Explain :=
  sound_fn (E := E_monitor_Explain) (A := A_monitor_Explain) (done := []) (c := (Try.f9.body.getD .skip)) (S := S_monitor_Explain) (fn := Try.f9) hmix monitor_Explain_env Try.func9 rfl (by kernel_rfl) (by kernel_rfl) done_nil (by kernel_rfl) (by kernel_rfl) monitor_Explain_eq
def monitor_Check_L0b (y0 : (List (ApiRecord))) (y1 : (List (ApiFinding))) (y2 : Int) (y3 : Int) : Option (((List (ApiRecord)) × (List (ApiFinding)) × Int × Int × Unit) ⊕ ((List (ApiFinding)) × Unit)) :=
 (bif (decide (y3 < y2)) then ((getI y0 y3).bind fun x1 => (bif (!decide (x1.kind = (8 : Int))) then (some (Sum.inl (y0, y1, y2, (IntKind.wrap .i64 (y3 + (1 : Int))), ())))
 else ((monitor_Explain y0 y3).bind fun r2 => (bif (!decide (r2.2.2.1 = (0 : Int))) then (bif small ((y1).length + (([(⟨y3, r2.2.2.1⟩ : ApiFinding)] : List (ApiFinding)) : List (ApiFinding)).length) 16 then (let v3 : List (ApiFinding) := (y1 ++ ([(⟨y3, r2.2.2.1⟩ : ApiFinding)] : List (ApiFinding)))
 (some (Sum.inl (y0, v3, y2, (IntKind.wrap .i64 (y3 + (1 : Int))), ()))))
 else none)
 else (some (Sum.inl (y0, y1, y2, (IntKind.wrap .i64 (y3 + (1 : Int))), ())))))))
 else (some (Sum.inr (y1, ()))))
def monitor_Check_L0 (y : ((List (ApiRecord)) × (List (ApiFinding)) × Int × Int × Unit)) : Option ((List (ApiFinding)) × Unit) := iter (fun (y : ((List (ApiRecord)) × (List (ApiFinding)) × Int × Int × Unit)) => monitor_Check_L0b y.1 y.2.1 y.2.2.1 y.2.2.2.1) rounds y
def monitor_Check (a0 : (List (ApiRecord))) : Option ((Unit) × ((List (ApiFinding)) × Unit)) :=
 ((monitor_Check_L0 (a0, [], ((a0).length : Int), (0 : Int), ())).bind (fun (z4 : ((List (ApiFinding)) × Unit)) => (some ((), (z4.1, ())))))
def S_monitor_Check : FSpec T := ⟨[.f (.v (.rs 1))], [(.own 4)], fun x => monitor_Check x.1⟩
def E_monitor_Check : Env T := ⟨tab.find, cd, globs, flc, fun f ds => match f with
    | 9 => some S_monitor_Explain
    | _ => none, fun f => match f with
    | 9 => true
    | _ => false⟩
def A_monitor_Check : Loc2 T := ⟨fun id => match id with
    | 0 => some ⟨[(0, .f (.v (.rs 1))), (3, .f (.own 4)), (8, .f (.v (.int .i64))), (9, .f (.v (.int .i64)))], [(.exit 0, [(3, .f (.own 4))])], monitor_Check_L0, []⟩
    | _ => none, fun r => match r with
    | _ => none, fun r => match r with
    | _ => false⟩
theorem monitor_Check_L0_eq (y0 : (List (ApiRecord))) (y1 : (List (ApiFinding))) (y2 : Int) (y3 : Int) : run E_monitor_Check A_monitor_Check (loopAt 0 (Try.f12.body.getD .skip)) (layC cd [(0, .f (.v (.rs 1))), (3, .f (.own 4)), (8, .f (.v (.int .i64))), (9, .f (.v (.int .i64)))] [] (y0, y1, y2, y3, ())) (roundK cd [(0, .f (.v (.rs 1))), (3, .f (.own 4)), (8, .f (.v (.int .i64))), (9, .f (.v (.int .i64)))] [] [(.exit 0, [(3, .f (.own 4))])]) = monitor_Check_L0b y0 y1 y2 y3 := by kernel_rfl
theorem monitor_Check_eq (x : tySs T S_monitor_Check.ps) : run E_monitor_Check A_monitor_Check (Try.f12.body.getD .skip) (enterT E_monitor_Check.C S_monitor_Check.ps x) (retK E_monitor_Check Try.f12.results.toList S_monitor_Check.ps S_monitor_Check.rs) = S_monitor_Check.fn x := by kernel_rfl
theorem monitor_Check_env : EnvOk Try.prog E_monitor_Check := envOk (E := E_monitor_Check) cd_ok tys fl_ok fun f ds S h => by
    dsimp only [E_monitor_Check] at h
    split at h
    · cases h; exact monitor_Explain_ok
    · cases h
theorem monitor_Check_L0_ok : LoopOk Try.prog E_monitor_Check Try.f12.ntmps (kqOf S_monitor_Check.ps 0) (loopAt 0 (Try.f12.body.getD .skip)) ⟨[(0, .f (.v (.rs 1))), (3, .f (.own 4)), (8, .f (.v (.int .i64))), (9, .f (.v (.int .i64)))], [(.exit 0, [(3, .f (.own 4))])], monitor_Check_L0, []⟩ :=
  loop_ok (A := A_monitor_Check) (done := []) (c0 := (Try.f12.body.getD .skip)) hmix monitor_Check_env done_nil rounds (by kernel_rfl) (by kernel_rfl) (fun x => monitor_Check_L0_eq x.1 x.2.1 x.2.2.1 x.2.2.2.1) (fun _ => rfl)
theorem monitor_Check_ok : SoundT Try.prog cd gdn 12 S_monitor_Check :=
  sound_fn (E := E_monitor_Check) (A := A_monitor_Check) (done := [0]) (c := (Try.f12.body.getD .skip)) (S := S_monitor_Check) (fn := Try.f12) hmix monitor_Check_env Try.func12 rfl (by kernel_rfl) (by kernel_rfl) (done_cons rfl monitor_Check_L0_ok done_nil) (by kernel_rfl) (by kernel_rfl) monitor_Check_eq
def passkeylaw41_awake : Option ((Unit) × (Bool × Unit)) :=
 ((passkeylaw41_story).bind fun r1 => ((monitor_Explain r1.2.1 (5 : Int)).bind fun r2 => ((passkeylaw41_story).bind fun r3 => (bif decide ((3 : Int) ≤ ((r3.2.1).length : Int)) then (bif decide (((r3.2.1).length - 3) + 3 ≤ (r3.2.1).length) then ((monitor_Check (List.take ((r3.2.1).length - 3) (List.drop 3 r3.2.1))).bind fun r4 => (bif (decide (r2.2.2.1 = (0 : Int))) then (let v5 : Bool := (decide (r2.2.1.issued = (0 : Int)) && (decide (r2.2.1.begun = (1 : Int)) && (decide (r2.2.1.signed = (4 : Int)) && (decide (r2.2.1.gesture = (3 : Int)) && true))))
 (bif v5 then ((passkeylaw41_story).bind fun r6 => ((monitor_Check r6.2.1).bind fun r7 => (bif (decide (((r7.2.1).length : Int) = (0 : Int))) then (bif (decide (((r4.2.1).length : Int) = (1 : Int))) then (bif decide ((0 : Int) < ((r4.2.1).length : Int)) then (((r4.2.1)[0]?).bind fun x8 => (some ((), ((decide (x8.record = (2 : Int)) && (decide (x8.err = (35 : Int)) && true)), ()))))
 else none)
 else (some ((), (false, ()))))
 else (some ((), (false, ()))))))
 else (some ((), (false, ())))))
 else (some ((), (false, ())))))
 else none)
 else none))))
def S_passkeylaw41_awake : FSpec T := ⟨[], [(.v .bool)], fun x => passkeylaw41_awake ⟩
def E_passkeylaw41_awake : Env T := ⟨tab.find, cd, globs, flc, fun f ds => match f with
    | 8 => some S_passkeylaw41_story
    | 9 => some S_monitor_Explain
    | 12 => some S_monitor_Check
    | _ => none, fun f => match f with
    | 9 => true
    | _ => false⟩
def A_passkeylaw41_awake : Loc2 T := ⟨fun id => match id with
    | _ => none, fun r => match r with
    | _ => none, fun r => match r with
    | _ => false⟩
theorem passkeylaw41_awake_eq (x : tySs T S_passkeylaw41_awake.ps) : run E_passkeylaw41_awake A_passkeylaw41_awake (Try.f4.body.getD .skip) (enterT E_passkeylaw41_awake.C S_passkeylaw41_awake.ps x) (retK E_passkeylaw41_awake Try.f4.results.toList S_passkeylaw41_awake.ps S_passkeylaw41_awake.rs) = S_passkeylaw41_awake.fn x := by kernel_rfl
theorem passkeylaw41_awake_env : EnvOk Try.prog E_passkeylaw41_awake := envOk (E := E_passkeylaw41_awake) cd_ok tys fl_ok fun f ds S h => by
    dsimp only [E_passkeylaw41_awake] at h
    split at h
    · cases h; exact passkeylaw41_story_ok
    · cases h; exact monitor_Explain_ok
    · cases h; exact monitor_Check_ok
    · cases h
theorem passkeylaw41_awake_ok : SoundT Try.prog cd gdn 4 S_passkeylaw41_awake :=
  sound_fn (E := E_passkeylaw41_awake) (A := A_passkeylaw41_awake) (done := []) (c := (Try.f4.body.getD .skip)) (S := S_passkeylaw41_awake) (fn := Try.f4) hmix passkeylaw41_awake_env Try.func4 rfl (by kernel_rfl) (by kernel_rfl) done_nil (by kernel_rfl) (by kernel_rfl) passkeylaw41_awake_eq
def passkeycast_New (a0 : (List (Int))) : Option ((Unit) × (PasskeycastDeck × Unit)) :=
 (some ((), ((⟨a0, (0 : Int)⟩ : PasskeycastDeck), ())))
def S_passkeycast_New : FSpec T := ⟨[.f (.v (.rs 2))], [(.pt (.agg 5))], fun x => passkeycast_New x.1⟩
def E_passkeycast_New : Env T := ⟨tab.find, cd, globs, flc, fun f ds => match f with
    | _ => none, fun f => match f with
    | _ => false⟩
def A_passkeycast_New : Loc2 T := ⟨fun id => match id with
    | _ => none, fun r => match r with
    | _ => none, fun r => match r with
    | _ => false⟩
theorem passkeycast_New_eq (x : tySs T S_passkeycast_New.ps) : run E_passkeycast_New A_passkeycast_New (Try.f5.body.getD .skip) (enterT E_passkeycast_New.C S_passkeycast_New.ps x) (retK E_passkeycast_New Try.f5.results.toList S_passkeycast_New.ps S_passkeycast_New.rs) = S_passkeycast_New.fn x := by kernel_rfl
theorem passkeycast_New_env : EnvOk Try.prog E_passkeycast_New := envOk (E := E_passkeycast_New) cd_ok tys fl_ok fun f ds S h => by cases h
theorem passkeycast_New_ok : SoundT Try.prog cd gdn 5 S_passkeycast_New :=
  sound_fn (E := E_passkeycast_New) (A := A_passkeycast_New) (done := []) (c := (Try.f5.body.getD .skip)) (S := S_passkeycast_New) (fn := Try.f5) hmix passkeycast_New_env Try.func5 rfl (by kernel_rfl) (by kernel_rfl) done_nil (by kernel_rfl) (by kernel_rfl) passkeycast_New_eq
def passkeycast_Mod (a0 : Int) (a1 : Int) : Option ((Unit) × (Int × Unit)) :=
 (bif decide ((BitVec.ofInt 64 a1) = 0) then none
 else (let v1 : Int := (IntKind.wrap .i64 (((BitVec.ofInt 64 a0) % (BitVec.ofInt 64 a1)).toNat : Int))
 (some ((), (v1, ())))))
def S_passkeycast_Mod : FSpec T := ⟨[.f (.v (.int .i64)), .f (.v (.int .i64))], [(.v (.int .i64))], fun x => passkeycast_Mod x.1 x.2.1⟩
def E_passkeycast_Mod : Env T := ⟨tab.find, cd, globs, flc, fun f ds => match f with
    | _ => none, fun f => match f with
    | _ => false⟩
def A_passkeycast_Mod : Loc2 T := ⟨fun id => match id with
    | _ => none, fun r => match r with
    | _ => none, fun r => match r with
    | _ => false⟩
theorem passkeycast_Mod_eq (x : tySs T S_passkeycast_Mod.ps) : run E_passkeycast_Mod A_passkeycast_Mod (Try.f13.body.getD .skip) (enterT E_passkeycast_Mod.C S_passkeycast_Mod.ps x) (retK E_passkeycast_Mod Try.f13.results.toList S_passkeycast_Mod.ps S_passkeycast_Mod.rs) = S_passkeycast_Mod.fn x := by kernel_rfl
theorem passkeycast_Mod_env : EnvOk Try.prog E_passkeycast_Mod := envOk (E := E_passkeycast_Mod) cd_ok tys fl_ok fun f ds S h => by cases h
theorem passkeycast_Mod_ok : SoundT Try.prog cd gdn 13 S_passkeycast_Mod :=
  sound_fn (E := E_passkeycast_Mod) (A := A_passkeycast_Mod) (done := []) (c := (Try.f13.body.getD .skip)) (S := S_passkeycast_Mod) (fn := Try.f13) hmix passkeycast_Mod_env Try.func13 rfl (by kernel_rfl) (by kernel_rfl) done_nil (by kernel_rfl) (by kernel_rfl) passkeycast_Mod_eq
def passkeycast_Deck_Next (a0 : (PasskeycastDeck × Unit)) (a1 : Int) : Option (((PasskeycastDeck × Unit) × Unit) × (Int × Unit)) :=
 (bif (decide (((a0.1.l).length : Int) ≤ a0.1.at_)) then (some (((a0.1, ()), ()), ((0 : Int), ())))
 else (let v1 : Int := (IntKind.wrap .i64 ((IntKind.wrap .i64 (a0.1.at_ + (1 : Int))) - (1 : Int)))
 ((getI a0.1.l v1).bind fun x2 => ((passkeycast_Mod x2 a1).bind fun r3 => (some ((((⟨a0.1.l, (IntKind.wrap .i64 (a0.1.at_ + (1 : Int)))⟩ : PasskeycastDeck), ()), ()), (r3.2.1, ())))))))
def S_passkeycast_Deck_Next : FSpec T := ⟨[.ptr [(.v (.agg 5))], .f (.v (.int .i64))], [(.v (.int .i64))], fun x => passkeycast_Deck_Next x.1 x.2.1⟩
def E_passkeycast_Deck_Next : Env T := ⟨tab.find, cd, globs, flc, fun f ds => match f with
    | 13 => some S_passkeycast_Mod
    | _ => none, fun f => match f with
    | 13 => true
    | _ => false⟩
def A_passkeycast_Deck_Next : Loc2 T := ⟨fun id => match id with
    | _ => none, fun r => match r with
    | _ => none, fun r => match r with
    | _ => false⟩
theorem passkeycast_Deck_Next_eq (x : tySs T S_passkeycast_Deck_Next.ps) : run E_passkeycast_Deck_Next A_passkeycast_Deck_Next (Try.f6.body.getD .skip) (enterT E_passkeycast_Deck_Next.C S_passkeycast_Deck_Next.ps x) (retK E_passkeycast_Deck_Next Try.f6.results.toList S_passkeycast_Deck_Next.ps S_passkeycast_Deck_Next.rs) = S_passkeycast_Deck_Next.fn x := by kernel_rfl
theorem passkeycast_Deck_Next_env : EnvOk Try.prog E_passkeycast_Deck_Next := envOk (E := E_passkeycast_Deck_Next) cd_ok tys fl_ok fun f ds S h => by
    dsimp only [E_passkeycast_Deck_Next] at h
    split at h
    · cases h; exact passkeycast_Mod_ok
    · cases h
theorem passkeycast_Deck_Next_ok : SoundT Try.prog cd gdn 6 S_passkeycast_Deck_Next :=
  sound_fn (E := E_passkeycast_Deck_Next) (A := A_passkeycast_Deck_Next) (done := []) (c := (Try.f6.body.getD .skip)) (S := S_passkeycast_Deck_Next) (fn := Try.f6) hmix passkeycast_Deck_Next_env Try.func6 rfl (by kernel_rfl) (by kernel_rfl) done_nil (by kernel_rfl) (by kernel_rfl) passkeycast_Deck_Next_eq
def passkeycast_Deck_Record (a0 : (PasskeycastDeck × Unit)) : Option (((PasskeycastDeck × Unit) × Unit) × (ApiRecord × Unit)) :=
 (let v1 : List (Int) := ([(8 : Int), (4 : Int), (6 : Int), (5 : Int), (2 : Int), (7 : Int), (8 : Int), (4 : Int), (3 : Int), (13 : Int)] : List (Int))
 ((passkeycast_Deck_Next (a0.1, ()) (10 : Int)).bind fun r2 => (bif (decide ((0 : Int) ≤ r2.2.1) && decide (r2.2.1 < (10 : Int))) then (((v1)[(r2.2.1).toNat]?).bind fun x3 => ((passkeycast_Deck_Next (r2.1.1.1, ()) (8 : Int)).bind fun r4 => ((passkeycast_Deck_Next (r4.1.1.1, ()) (2 : Int)).bind fun r5 => ((passkeycast_Deck_Next (r5.1.1.1, ()) (2 : Int)).bind fun r6 => ((passkeycast_Deck_Next (r6.1.1.1, ()) (6 : Int)).bind fun r7 => (bif (decide (x3 = (8 : Int))) then (bif (decide (x3 = (8 : Int))) then ((passkeycast_Deck_Next (r7.1.1.1, ()) (3 : Int)).bind fun r8 => (let v9 : List (List UInt8) := ([([97] : List UInt8), ([98] : List UInt8)] : List (List UInt8))
 ((passkeycast_Deck_Next (r8.1.1.1, ()) (2 : Int)).bind fun r10 => (bif (decide ((0 : Int) ≤ r10.2.1) && decide (r10.2.1 < (2 : Int))) then (((v9)[(r10.2.1).toNat]?).bind fun x11 => ((passkeycast_Deck_Next (r10.1.1.1, ()) (2 : Int)).bind fun r12 => ((passkeycast_Deck_Next (r12.1.1.1, ()) (2 : Int)).bind fun r13 => ((passkeycast_Deck_Next (r13.1.1.1, ()) (4 : Int)).bind fun r14 => (bif (decide ((0 : Int) ≤ r14.2.1) && decide (r14.2.1 < (4 : Int))) then (((([(1 : Int), (1 : Int), (5 : Int), (4 : Int)] : List (Int)))[(r14.2.1).toNat]?).bind fun x15 => (some (((r14.1.1.1, ()), ()), ((⟨x3, r4.2.1, r5.2.1, r8.2.1, (0 : Int), x11, [], ([(UInt8.ofBitVec (BitVec.ofInt 8 r12.2.1))] : List (UInt8)), 0#64, (BitVec.ofInt 64 r6.2.1), r13.2.1, x15, r7.2.1, (0 : Int)⟩ : ApiRecord), ()))))
 else none)))))
 else none))))
 else (bif (decide (x3 = (4 : Int))) then ((passkeycast_Deck_Next (r7.1.1.1, ()) (6 : Int)).bind fun r16 => (let v17 : Int := (IntKind.wrap .i64 ((2 : Int) - (IntKind.wrap .i64 (Int.tdiv r16.2.1 (5 : Int)))))
 ((passkeycast_Deck_Next (r16.1.1.1, ()) (2 : Int)).bind fun r18 => ((passkeycast_Deck_Next (r18.1.1.1, ()) (2 : Int)).bind fun r19 => ((passkeycast_Deck_Next (r19.1.1.1, ()) (4 : Int)).bind fun r20 => (bif (decide ((0 : Int) ≤ r20.2.1) && decide (r20.2.1 < (4 : Int))) then (((([(1 : Int), (1 : Int), (5 : Int), (4 : Int)] : List (Int)))[(r20.2.1).toNat]?).bind fun x21 => ((passkeycast_Deck_Next (r20.1.1.1, ()) (3 : Int)).bind fun r22 => (let v23 : BitVec 64 := (BitVec.ofInt 64 (IntKind.wrap .i64 (Int.tdiv r22.2.1 (2 : Int))))
 (some (((r22.1.1.1, ()), ()), ((⟨x3, r4.2.1, r5.2.1, (0 : Int), v17, ([] : List UInt8), [], ([(UInt8.ofBitVec (BitVec.ofInt 8 r18.2.1))] : List (UInt8)), v23, (BitVec.ofInt 64 r6.2.1), r19.2.1, x21, r7.2.1, (0 : Int)⟩ : ApiRecord), ()))))))
 else none))))))
 else (bif (decide (x3 = (6 : Int))) then ((passkeycast_Deck_Next (r7.1.1.1, ()) (3 : Int)).bind fun r24 => ((passkeycast_Deck_Next (r24.1.1.1, ()) (6 : Int)).bind fun r25 => (let v26 : Int := (IntKind.wrap .i64 ((2 : Int) - (IntKind.wrap .i64 (Int.tdiv r25.2.1 (5 : Int)))))
 (let v27 : List (List UInt8) := ([([] : List UInt8), ([97] : List UInt8), ([98] : List UInt8)] : List (List UInt8))
 ((passkeycast_Deck_Next (r25.1.1.1, ()) (3 : Int)).bind fun r28 => (bif (decide ((0 : Int) ≤ r28.2.1) && decide (r28.2.1 < (3 : Int))) then (((v27)[(r28.2.1).toNat]?).bind fun x29 => ((passkeycast_Deck_Next (r28.1.1.1, ()) (2 : Int)).bind fun r30 => (some (((r30.1.1.1, ()), ()), ((⟨x3, r4.2.1, r5.2.1, r24.2.1, v26, x29, ([(UInt8.ofBitVec (BitVec.ofInt 8 r30.2.1))] : List (UInt8)), [], 0#64, (BitVec.ofInt 64 r6.2.1), (0 : Int), (0 : Int), r7.2.1, (0 : Int)⟩ : ApiRecord), ())))))
 else none))))))
 else (bif (decide (x3 = (5 : Int))) then ((passkeycast_Deck_Next (r7.1.1.1, ()) (6 : Int)).bind fun r31 => (let v32 : Int := (IntKind.wrap .i64 ((2 : Int) - (IntKind.wrap .i64 (Int.tdiv r31.2.1 (5 : Int)))))
 ((passkeycast_Deck_Next (r31.1.1.1, ()) (2 : Int)).bind fun r33 => ((passkeycast_Deck_Next (r33.1.1.1, ()) (3 : Int)).bind fun r34 => (let v35 : BitVec 64 := (BitVec.ofInt 64 (IntKind.wrap .i64 (Int.tdiv r34.2.1 (2 : Int))))
 (some (((r34.1.1.1, ()), ()), ((⟨x3, r4.2.1, r5.2.1, (0 : Int), v32, ([] : List UInt8), ([(UInt8.ofBitVec (BitVec.ofInt 8 r33.2.1))] : List (UInt8)), [], v35, (BitVec.ofInt 64 r6.2.1), (0 : Int), (0 : Int), r7.2.1, (0 : Int)⟩ : ApiRecord), ()))))))))
 else (bif (decide (x3 = (2 : Int))) then ((passkeycast_Deck_Next (r7.1.1.1, ()) (4 : Int)).bind fun r36 => (some (((r36.1.1.1, ()), ()), ((⟨x3, r4.2.1, r5.2.1, (IntKind.wrap .i64 ((1 : Int) + r36.2.1)), (0 : Int), ([] : List UInt8), [], [], 0#64, (BitVec.ofInt 64 r6.2.1), (0 : Int), (0 : Int), r7.2.1, (0 : Int)⟩ : ApiRecord), ()))))
 else (some (((r7.1.1.1, ()), ()), ((⟨x3, r4.2.1, r5.2.1, (0 : Int), (0 : Int), ([] : List UInt8), [], [], 0#64, (BitVec.ofInt 64 r6.2.1), (0 : Int), (0 : Int), r7.2.1, (0 : Int)⟩ : ApiRecord), ()))))))))
 else (bif (decide (x3 = (7 : Int))) then ((passkeycast_Deck_Next (r7.1.1.1, ()) (3 : Int)).bind fun r37 => (let v38 : List (List UInt8) := ([([97] : List UInt8), ([98] : List UInt8)] : List (List UInt8))
 ((passkeycast_Deck_Next (r37.1.1.1, ()) (2 : Int)).bind fun r39 => (bif (decide ((0 : Int) ≤ r39.2.1) && decide (r39.2.1 < (2 : Int))) then (((v38)[(r39.2.1).toNat]?).bind fun x40 => ((passkeycast_Deck_Next (r39.1.1.1, ()) (2 : Int)).bind fun r41 => ((passkeycast_Deck_Next (r41.1.1.1, ()) (2 : Int)).bind fun r42 => ((passkeycast_Deck_Next (r42.1.1.1, ()) (4 : Int)).bind fun r43 => (bif (decide ((0 : Int) ≤ r43.2.1) && decide (r43.2.1 < (4 : Int))) then (((([(1 : Int), (1 : Int), (5 : Int), (4 : Int)] : List (Int)))[(r43.2.1).toNat]?).bind fun x44 => (some (((r43.1.1.1, ()), ()), ((⟨x3, r4.2.1, r5.2.1, r37.2.1, (0 : Int), x40, [], ([(UInt8.ofBitVec (BitVec.ofInt 8 r41.2.1))] : List (UInt8)), 0#64, (BitVec.ofInt 64 r6.2.1), r42.2.1, x44, r7.2.1, (0 : Int)⟩ : ApiRecord), ()))))
 else none)))))
 else none))))
 else (bif (decide (x3 = (4 : Int))) then ((passkeycast_Deck_Next (r7.1.1.1, ()) (6 : Int)).bind fun r45 => (let v46 : Int := (IntKind.wrap .i64 ((2 : Int) - (IntKind.wrap .i64 (Int.tdiv r45.2.1 (5 : Int)))))
 ((passkeycast_Deck_Next (r45.1.1.1, ()) (2 : Int)).bind fun r47 => ((passkeycast_Deck_Next (r47.1.1.1, ()) (2 : Int)).bind fun r48 => ((passkeycast_Deck_Next (r48.1.1.1, ()) (4 : Int)).bind fun r49 => (bif (decide ((0 : Int) ≤ r49.2.1) && decide (r49.2.1 < (4 : Int))) then (((([(1 : Int), (1 : Int), (5 : Int), (4 : Int)] : List (Int)))[(r49.2.1).toNat]?).bind fun x50 => ((passkeycast_Deck_Next (r49.1.1.1, ()) (3 : Int)).bind fun r51 => (let v52 : BitVec 64 := (BitVec.ofInt 64 (IntKind.wrap .i64 (Int.tdiv r51.2.1 (2 : Int))))
 (some (((r51.1.1.1, ()), ()), ((⟨x3, r4.2.1, r5.2.1, (0 : Int), v46, ([] : List UInt8), [], ([(UInt8.ofBitVec (BitVec.ofInt 8 r47.2.1))] : List (UInt8)), v52, (BitVec.ofInt 64 r6.2.1), r48.2.1, x50, r7.2.1, (0 : Int)⟩ : ApiRecord), ()))))))
 else none))))))
 else (bif (decide (x3 = (6 : Int))) then ((passkeycast_Deck_Next (r7.1.1.1, ()) (3 : Int)).bind fun r53 => ((passkeycast_Deck_Next (r53.1.1.1, ()) (6 : Int)).bind fun r54 => (let v55 : Int := (IntKind.wrap .i64 ((2 : Int) - (IntKind.wrap .i64 (Int.tdiv r54.2.1 (5 : Int)))))
 (let v56 : List (List UInt8) := ([([] : List UInt8), ([97] : List UInt8), ([98] : List UInt8)] : List (List UInt8))
 ((passkeycast_Deck_Next (r54.1.1.1, ()) (3 : Int)).bind fun r57 => (bif (decide ((0 : Int) ≤ r57.2.1) && decide (r57.2.1 < (3 : Int))) then (((v56)[(r57.2.1).toNat]?).bind fun x58 => ((passkeycast_Deck_Next (r57.1.1.1, ()) (2 : Int)).bind fun r59 => (some (((r59.1.1.1, ()), ()), ((⟨x3, r4.2.1, r5.2.1, r53.2.1, v55, x58, ([(UInt8.ofBitVec (BitVec.ofInt 8 r59.2.1))] : List (UInt8)), [], 0#64, (BitVec.ofInt 64 r6.2.1), (0 : Int), (0 : Int), r7.2.1, (0 : Int)⟩ : ApiRecord), ())))))
 else none))))))
 else (bif (decide (x3 = (5 : Int))) then ((passkeycast_Deck_Next (r7.1.1.1, ()) (6 : Int)).bind fun r60 => (let v61 : Int := (IntKind.wrap .i64 ((2 : Int) - (IntKind.wrap .i64 (Int.tdiv r60.2.1 (5 : Int)))))
 ((passkeycast_Deck_Next (r60.1.1.1, ()) (2 : Int)).bind fun r62 => ((passkeycast_Deck_Next (r62.1.1.1, ()) (3 : Int)).bind fun r63 => (let v64 : BitVec 64 := (BitVec.ofInt 64 (IntKind.wrap .i64 (Int.tdiv r63.2.1 (2 : Int))))
 (some (((r63.1.1.1, ()), ()), ((⟨x3, r4.2.1, r5.2.1, (0 : Int), v61, ([] : List UInt8), ([(UInt8.ofBitVec (BitVec.ofInt 8 r62.2.1))] : List (UInt8)), [], v64, (BitVec.ofInt 64 r6.2.1), (0 : Int), (0 : Int), r7.2.1, (0 : Int)⟩ : ApiRecord), ()))))))))
 else (bif (decide (x3 = (2 : Int))) then ((passkeycast_Deck_Next (r7.1.1.1, ()) (4 : Int)).bind fun r65 => (some (((r65.1.1.1, ()), ()), ((⟨x3, r4.2.1, r5.2.1, (IntKind.wrap .i64 ((1 : Int) + r65.2.1)), (0 : Int), ([] : List UInt8), [], [], 0#64, (BitVec.ofInt 64 r6.2.1), (0 : Int), (0 : Int), r7.2.1, (0 : Int)⟩ : ApiRecord), ()))))
 else (some (((r7.1.1.1, ()), ()), ((⟨x3, r4.2.1, r5.2.1, (0 : Int), (0 : Int), ([] : List UInt8), [], [], 0#64, (BitVec.ofInt 64 r6.2.1), (0 : Int), (0 : Int), r7.2.1, (0 : Int)⟩ : ApiRecord), ()))))))))))))))
 else none)))
def S_passkeycast_Deck_Record : FSpec T := ⟨[.ptr [(.v (.agg 5))]], [(.v (.agg 1))], fun x => passkeycast_Deck_Record x.1⟩
def E_passkeycast_Deck_Record : Env T := ⟨tab.find, cd, globs, flc, fun f ds => match f with
    | 6 => some S_passkeycast_Deck_Next
    | _ => none, fun f => match f with
    | _ => false⟩
def A_passkeycast_Deck_Record : Loc2 T := ⟨fun id => match id with
    | _ => none, fun r => match r with
    | _ => none, fun r => match r with
    | 2 => true
    | 6 => true
    | 8 => true
    | 10 => true
    | _ => false⟩
theorem passkeycast_Deck_Record_eq (x : tySs T S_passkeycast_Deck_Record.ps) : run E_passkeycast_Deck_Record A_passkeycast_Deck_Record (Try.f7.body.getD .skip) (enterT E_passkeycast_Deck_Record.C S_passkeycast_Deck_Record.ps x) (retK E_passkeycast_Deck_Record Try.f7.results.toList S_passkeycast_Deck_Record.ps S_passkeycast_Deck_Record.rs) = S_passkeycast_Deck_Record.fn x := by kernel_rfl
theorem passkeycast_Deck_Record_env : EnvOk Try.prog E_passkeycast_Deck_Record := envOk (E := E_passkeycast_Deck_Record) cd_ok tys fl_ok fun f ds S h => by
    dsimp only [E_passkeycast_Deck_Record] at h
    split at h
    · cases h; exact passkeycast_Deck_Next_ok
    · cases h
theorem passkeycast_Deck_Record_ok : SoundT Try.prog cd gdn 7 S_passkeycast_Deck_Record :=
  sound_fn (E := E_passkeycast_Deck_Record) (A := A_passkeycast_Deck_Record) (done := []) (c := (Try.f7.body.getD .skip)) (S := S_passkeycast_Deck_Record) (fn := Try.f7) hmix passkeycast_Deck_Record_env Try.func7 rfl (by kernel_rfl) (by kernel_rfl) done_nil (by kernel_rfl) (by kernel_rfl) passkeycast_Deck_Record_eq
def passkeyref40_within (a0 : Int) (a1 : Int) (a2 : Int) : Option ((Unit) × (Bool × Unit)) :=
 (bif (decide (a1 ≤ a0)) then (some ((), ((decide (a0 ≤ a2)), ())))
 else (some ((), (false, ()))))
def S_passkeyref40_within : FSpec T := ⟨[.f (.v (.int .i64)), .f (.v (.int .i64)), .f (.v (.int .i64))], [(.v .bool)], fun x => passkeyref40_within x.1 x.2.1 x.2.2.1⟩
def E_passkeyref40_within : Env T := ⟨tab.find, cd, globs, flc, fun f ds => match f with
    | _ => none, fun f => match f with
    | _ => false⟩
def A_passkeyref40_within : Loc2 T := ⟨fun id => match id with
    | _ => none, fun r => match r with
    | _ => none, fun r => match r with
    | _ => false⟩
theorem passkeyref40_within_eq (x : tySs T S_passkeyref40_within.ps) : run E_passkeyref40_within A_passkeyref40_within (Try.f21.body.getD .skip) (enterT E_passkeyref40_within.C S_passkeyref40_within.ps x) (retK E_passkeyref40_within Try.f21.results.toList S_passkeyref40_within.ps S_passkeyref40_within.rs) = S_passkeyref40_within.fn x := by kernel_rfl
theorem passkeyref40_within_env : EnvOk Try.prog E_passkeyref40_within := envOk (E := E_passkeyref40_within) cd_ok tys fl_ok fun f ds S h => by cases h
theorem passkeyref40_within_ok : SoundT Try.prog cd gdn 21 S_passkeyref40_within :=
  sound_fn (E := E_passkeyref40_within) (A := A_passkeyref40_within) (done := []) (c := (Try.f21.body.getD .skip)) (S := S_passkeyref40_within) (fn := Try.f21) hmix passkeyref40_within_env Try.func21 rfl (by kernel_rfl) (by kernel_rfl) done_nil (by kernel_rfl) (by kernel_rfl) passkeyref40_within_eq
def passkeyref40_has (a0 : ApiRecord) (a1 : Int) (a2 : Int) (a3 : Int) : Option ((Unit) × (Bool × Unit)) :=
 (bif (decide (a0.kind = a1)) then (bif (decide (a0.who = a2)) then (some ((), ((decide (a0.number = a3)), ())))
 else (some ((), (false, ()))))
 else (some ((), (false, ()))))
def S_passkeyref40_has : FSpec T := ⟨[.f (.v (.agg 1)), .f (.v (.int .i64)), .f (.v (.int .i64)), .f (.v (.int .i64))], [(.v .bool)], fun x => passkeyref40_has x.1 x.2.1 x.2.2.1 x.2.2.2.1⟩
def E_passkeyref40_has : Env T := ⟨tab.find, cd, globs, flc, fun f ds => match f with
    | _ => none, fun f => match f with
    | _ => false⟩
def A_passkeyref40_has : Loc2 T := ⟨fun id => match id with
    | _ => none, fun r => match r with
    | _ => none, fun r => match r with
    | _ => false⟩
theorem passkeyref40_has_eq (x : tySs T S_passkeyref40_has.ps) : run E_passkeyref40_has A_passkeyref40_has (Try.f22.body.getD .skip) (enterT E_passkeyref40_has.C S_passkeyref40_has.ps x) (retK E_passkeyref40_has Try.f22.results.toList S_passkeyref40_has.ps S_passkeyref40_has.rs) = S_passkeyref40_has.fn x := by kernel_rfl
theorem passkeyref40_has_env : EnvOk Try.prog E_passkeyref40_has := envOk (E := E_passkeyref40_has) cd_ok tys fl_ok fun f ds S h => by cases h
theorem passkeyref40_has_ok : SoundT Try.prog cd gdn 22 S_passkeyref40_has :=
  sound_fn (E := E_passkeyref40_has) (A := A_passkeyref40_has) (done := []) (c := (Try.f22.body.getD .skip)) (S := S_passkeyref40_has) (fn := Try.f22) hmix passkeyref40_has_env Try.func22 rfl (by kernel_rfl) (by kernel_rfl) done_nil (by kernel_rfl) (by kernel_rfl) passkeyref40_has_eq
def passkeyref40_Explain_L0b (y0 : (List (ApiRecord))) (y1 : Int) (y2 : (ApiCause × Unit)) (y3 : (ApiRecord × Unit)) (y4 : (ApiCause × Unit)) (y5 : Bool) (y6 : Int) : Option (((List (ApiRecord)) × Int × (ApiCause × Unit) × (ApiRecord × Unit) × (ApiCause × Unit) × Bool × Int × Unit) ⊕ ((List (ApiRecord)) × (ApiCause × Unit) × (ApiRecord × Unit) × (ApiCause × Unit) × Bool × Unit)) :=
 (bif (decide (y6 < y1)) then ((getI y0 y6).bind fun x3 => (((passkeyref40_has x3 (6 : Int) y3.1.who y3.1.number).bind fun r4 => (bif r4.2.1 then (bif (decide (x3.kind2 = (2 : Int))) then (some (y0, y1, (y2.1, ()), (y3.1, ()), ((⟨y6, y4.1.begun, y4.1.signed, y4.1.gesture⟩ : ApiCause), ()), y5, y6, (x3, ()), ()))
 else (some (y0, y1, (y2.1, ()), (y3.1, ()), (y4.1, ()), y5, y6, (x3, ()), ())))
 else (some (y0, y1, (y2.1, ()), (y3.1, ()), (y4.1, ()), y5, y6, (x3, ()), ())))).bind (fun (j5 : ((List (ApiRecord)) × Int × (ApiCause × Unit) × (ApiRecord × Unit) × (ApiCause × Unit) × Bool × Int × (ApiRecord × Unit) × Unit)) => (bif j5.2.2.2.2.2.1 then (bif (decide (j5.2.2.2.2.2.2.2.1.1.kind = (4 : Int))) then (bif (decide (j5.2.2.2.2.2.2.2.1.1.kind2 = (2 : Int))) then (bif (decide (j5.2.2.2.2.2.2.2.1.1.iD = j5.2.2.2.1.1.iD)) then (bif (decide (j5.2.2.2.2.2.2.2.1.1.leaf = j5.2.2.2.1.1.leaf)) then (bif (decide (j5.2.2.2.2.2.2.2.1.1.hash = j5.2.2.2.1.1.hash)) then (bif (decide (j5.2.2.2.2.2.2.2.1.1.flags = j5.2.2.2.1.1.flags)) then (some (Sum.inl (j5.1, j5.2.1, (j5.2.2.1.1, ()), (j5.2.2.2.1.1, ()), ((⟨j5.2.2.2.2.1.1.issued, j5.2.2.2.2.1.1.begun, j5.2.2.2.2.2.2.1, j5.2.2.2.2.1.1.gesture⟩ : ApiCause), ()), true, (IntKind.wrap .i64 (j5.2.2.2.2.2.2.1 + (1 : Int))), ())))
 else (some (Sum.inl (j5.1, j5.2.1, (j5.2.2.1.1, ()), (j5.2.2.2.1.1, ()), (j5.2.2.2.2.1.1, ()), true, (IntKind.wrap .i64 (j5.2.2.2.2.2.2.1 + (1 : Int))), ()))))
 else (some (Sum.inl (j5.1, j5.2.1, (j5.2.2.1.1, ()), (j5.2.2.2.1.1, ()), (j5.2.2.2.2.1.1, ()), true, (IntKind.wrap .i64 (j5.2.2.2.2.2.2.1 + (1 : Int))), ()))))
 else (some (Sum.inl (j5.1, j5.2.1, (j5.2.2.1.1, ()), (j5.2.2.2.1.1, ()), (j5.2.2.2.2.1.1, ()), true, (IntKind.wrap .i64 (j5.2.2.2.2.2.2.1 + (1 : Int))), ()))))
 else (some (Sum.inl (j5.1, j5.2.1, (j5.2.2.1.1, ()), (j5.2.2.2.1.1, ()), (j5.2.2.2.2.1.1, ()), true, (IntKind.wrap .i64 (j5.2.2.2.2.2.2.1 + (1 : Int))), ()))))
 else (some (Sum.inl (j5.1, j5.2.1, (j5.2.2.1.1, ()), (j5.2.2.2.1.1, ()), (j5.2.2.2.2.1.1, ()), true, (IntKind.wrap .i64 (j5.2.2.2.2.2.2.1 + (1 : Int))), ()))))
 else (some (Sum.inl (j5.1, j5.2.1, (j5.2.2.1.1, ()), (j5.2.2.2.1.1, ()), (j5.2.2.2.2.1.1, ()), true, (IntKind.wrap .i64 (j5.2.2.2.2.2.2.1 + (1 : Int))), ()))))
 else ((passkeyref40_has j5.2.2.2.2.2.2.2.1.1 (7 : Int) j5.2.2.2.1.1.who j5.2.2.2.1.1.number).bind fun r6 => (bif r6.2.1 then (bif (decide (j5.2.2.2.2.2.2.2.1.1.kind = (4 : Int))) then (bif (decide (j5.2.2.2.2.2.2.2.1.1.kind2 = (2 : Int))) then (bif (decide (j5.2.2.2.2.2.2.2.1.1.iD = j5.2.2.2.1.1.iD)) then (bif (decide (j5.2.2.2.2.2.2.2.1.1.leaf = j5.2.2.2.1.1.leaf)) then (bif (decide (j5.2.2.2.2.2.2.2.1.1.hash = j5.2.2.2.1.1.hash)) then (bif (decide (j5.2.2.2.2.2.2.2.1.1.flags = j5.2.2.2.1.1.flags)) then (some (Sum.inl (j5.1, j5.2.1, (j5.2.2.1.1, ()), (j5.2.2.2.1.1, ()), ((⟨j5.2.2.2.2.1.1.issued, j5.2.2.2.2.1.1.begun, j5.2.2.2.2.2.2.1, j5.2.2.2.2.1.1.gesture⟩ : ApiCause), ()), true, (IntKind.wrap .i64 (j5.2.2.2.2.2.2.1 + (1 : Int))), ())))
 else (some (Sum.inl (j5.1, j5.2.1, (j5.2.2.1.1, ()), (j5.2.2.2.1.1, ()), (j5.2.2.2.2.1.1, ()), true, (IntKind.wrap .i64 (j5.2.2.2.2.2.2.1 + (1 : Int))), ()))))
 else (some (Sum.inl (j5.1, j5.2.1, (j5.2.2.1.1, ()), (j5.2.2.2.1.1, ()), (j5.2.2.2.2.1.1, ()), true, (IntKind.wrap .i64 (j5.2.2.2.2.2.2.1 + (1 : Int))), ()))))
 else (some (Sum.inl (j5.1, j5.2.1, (j5.2.2.1.1, ()), (j5.2.2.2.1.1, ()), (j5.2.2.2.2.1.1, ()), true, (IntKind.wrap .i64 (j5.2.2.2.2.2.2.1 + (1 : Int))), ()))))
 else (some (Sum.inl (j5.1, j5.2.1, (j5.2.2.1.1, ()), (j5.2.2.2.1.1, ()), (j5.2.2.2.2.1.1, ()), true, (IntKind.wrap .i64 (j5.2.2.2.2.2.2.1 + (1 : Int))), ()))))
 else (some (Sum.inl (j5.1, j5.2.1, (j5.2.2.1.1, ()), (j5.2.2.2.1.1, ()), (j5.2.2.2.2.1.1, ()), true, (IntKind.wrap .i64 (j5.2.2.2.2.2.2.1 + (1 : Int))), ()))))
 else (some (Sum.inl (j5.1, j5.2.1, (j5.2.2.1.1, ()), (j5.2.2.2.1.1, ()), (j5.2.2.2.2.1.1, ()), true, (IntKind.wrap .i64 (j5.2.2.2.2.2.2.1 + (1 : Int))), ()))))
 else ((passkeyref40_has j5.2.2.2.2.2.2.2.1.1 (8 : Int) j5.2.2.2.1.1.who j5.2.2.2.1.1.number).bind fun r7 => (bif (decide (j5.2.2.2.2.2.2.2.1.1.kind = (4 : Int))) then (bif (decide (j5.2.2.2.2.2.2.2.1.1.kind2 = (2 : Int))) then (bif (decide (j5.2.2.2.2.2.2.2.1.1.iD = j5.2.2.2.1.1.iD)) then (bif (decide (j5.2.2.2.2.2.2.2.1.1.leaf = j5.2.2.2.1.1.leaf)) then (bif (decide (j5.2.2.2.2.2.2.2.1.1.hash = j5.2.2.2.1.1.hash)) then (bif (decide (j5.2.2.2.2.2.2.2.1.1.flags = j5.2.2.2.1.1.flags)) then (some (Sum.inl (j5.1, j5.2.1, (j5.2.2.1.1, ()), (j5.2.2.2.1.1, ()), ((⟨j5.2.2.2.2.1.1.issued, j5.2.2.2.2.1.1.begun, j5.2.2.2.2.2.2.1, j5.2.2.2.2.1.1.gesture⟩ : ApiCause), ()), r7.2.1, (IntKind.wrap .i64 (j5.2.2.2.2.2.2.1 + (1 : Int))), ())))
 else (some (Sum.inl (j5.1, j5.2.1, (j5.2.2.1.1, ()), (j5.2.2.2.1.1, ()), (j5.2.2.2.2.1.1, ()), r7.2.1, (IntKind.wrap .i64 (j5.2.2.2.2.2.2.1 + (1 : Int))), ()))))
 else (some (Sum.inl (j5.1, j5.2.1, (j5.2.2.1.1, ()), (j5.2.2.2.1.1, ()), (j5.2.2.2.2.1.1, ()), r7.2.1, (IntKind.wrap .i64 (j5.2.2.2.2.2.2.1 + (1 : Int))), ()))))
 else (some (Sum.inl (j5.1, j5.2.1, (j5.2.2.1.1, ()), (j5.2.2.2.1.1, ()), (j5.2.2.2.2.1.1, ()), r7.2.1, (IntKind.wrap .i64 (j5.2.2.2.2.2.2.1 + (1 : Int))), ()))))
 else (some (Sum.inl (j5.1, j5.2.1, (j5.2.2.1.1, ()), (j5.2.2.2.1.1, ()), (j5.2.2.2.2.1.1, ()), r7.2.1, (IntKind.wrap .i64 (j5.2.2.2.2.2.2.1 + (1 : Int))), ()))))
 else (some (Sum.inl (j5.1, j5.2.1, (j5.2.2.1.1, ()), (j5.2.2.2.1.1, ()), (j5.2.2.2.2.1.1, ()), r7.2.1, (IntKind.wrap .i64 (j5.2.2.2.2.2.2.1 + (1 : Int))), ()))))
 else (some (Sum.inl (j5.1, j5.2.1, (j5.2.2.1.1, ()), (j5.2.2.2.1.1, ()), (j5.2.2.2.2.1.1, ()), r7.2.1, (IntKind.wrap .i64 (j5.2.2.2.2.2.2.1 + (1 : Int))), ())))))))))))
 else (some (Sum.inr (y0, (y2.1, ()), (y3.1, ()), (y4.1, ()), y5, ()))))
def passkeyref40_Explain_L0 (y : ((List (ApiRecord)) × Int × (ApiCause × Unit) × (ApiRecord × Unit) × (ApiCause × Unit) × Bool × Int × Unit)) : Option ((List (ApiRecord)) × (ApiCause × Unit) × (ApiRecord × Unit) × (ApiCause × Unit) × Bool × Unit) := iter (fun (y : ((List (ApiRecord)) × Int × (ApiCause × Unit) × (ApiRecord × Unit) × (ApiCause × Unit) × Bool × Int × Unit)) => passkeyref40_Explain_L0b y.1 y.2.1 y.2.2.1 y.2.2.2.1 y.2.2.2.2.1 y.2.2.2.2.2.1 y.2.2.2.2.2.2.1) rounds y
def passkeyref40_Explain_L3b (y0 : (List (ApiRecord))) (y1 : (ApiCause × Unit)) (y2 : (ApiRecord × Unit)) (y3 : (ApiCause × Unit)) (y4 : (ApiRecord × Unit)) (y5 : Int) : Option (((List (ApiRecord)) × (ApiCause × Unit) × (ApiRecord × Unit) × (ApiCause × Unit) × (ApiRecord × Unit) × Int × Unit) ⊕ ((ApiCause × Unit) × (ApiRecord × Unit) × (ApiCause × Unit) × Unit)) :=
 (bif (decide (y5 < y3.1.signed)) then ((getI y0 y5).bind fun x12 => ((bif (decide (y3.1.issued < y5)) then (bif (decide (x12.kind = (5 : Int))) then (bif (decide (x12.kind2 = (2 : Int))) then (bif (decide (x12.hash = y2.1.hash)) then ((getI y0 y3.1.issued).bind fun x13 => (bif (decide (x12.challenge = x13.challenge)) then (bif (decide (x12.word = y4.1.word)) then (some (y0, (y1.1, ()), (y2.1, ()), ((⟨y3.1.issued, y5, y3.1.signed, y3.1.gesture⟩ : ApiCause), ()), (y4.1, ()), y5, (x12, ()), ()))
 else (some (y0, (y1.1, ()), (y2.1, ()), (y3.1, ()), (y4.1, ()), y5, (x12, ()), ())))
 else (some (y0, (y1.1, ()), (y2.1, ()), (y3.1, ()), (y4.1, ()), y5, (x12, ()), ()))))
 else (some (y0, (y1.1, ()), (y2.1, ()), (y3.1, ()), (y4.1, ()), y5, (x12, ()), ())))
 else (some (y0, (y1.1, ()), (y2.1, ()), (y3.1, ()), (y4.1, ()), y5, (x12, ()), ())))
 else (some (y0, (y1.1, ()), (y2.1, ()), (y3.1, ()), (y4.1, ()), y5, (x12, ()), ())))
 else (some (y0, (y1.1, ()), (y2.1, ()), (y3.1, ()), (y4.1, ()), y5, (x12, ()), ()))).bind (fun (j14 : ((List (ApiRecord)) × (ApiCause × Unit) × (ApiRecord × Unit) × (ApiCause × Unit) × (ApiRecord × Unit) × Int × (ApiRecord × Unit) × Unit)) => (bif (decide (j14.2.2.2.2.2.2.1.1.kind = (2 : Int))) then (bif (decide (j14.2.2.2.2.2.2.1.1.who = j14.2.2.2.2.1.1.who)) then (bif (decide (j14.2.2.2.2.1.1.since < j14.2.2.2.2.2.2.1.1.time)) then ((passkeyref40_within j14.2.2.2.2.2.2.1.1.number (1 : Int) (3 : Int)).bind fun r15 => (bif r15.2.1 then (some (Sum.inl (j14.1, (j14.2.1.1, ()), (j14.2.2.1.1, ()), ((⟨j14.2.2.2.1.1.issued, j14.2.2.2.1.1.begun, j14.2.2.2.1.1.signed, j14.2.2.2.2.2.1⟩ : ApiCause), ()), (j14.2.2.2.2.1.1, ()), (IntKind.wrap .i64 (j14.2.2.2.2.2.1 + (1 : Int))), ())))
 else (some (Sum.inl (j14.1, (j14.2.1.1, ()), (j14.2.2.1.1, ()), (j14.2.2.2.1.1, ()), (j14.2.2.2.2.1.1, ()), (IntKind.wrap .i64 (j14.2.2.2.2.2.1 + (1 : Int))), ())))))
 else (some (Sum.inl (j14.1, (j14.2.1.1, ()), (j14.2.2.1.1, ()), (j14.2.2.2.1.1, ()), (j14.2.2.2.2.1.1, ()), (IntKind.wrap .i64 (j14.2.2.2.2.2.1 + (1 : Int))), ()))))
 else (some (Sum.inl (j14.1, (j14.2.1.1, ()), (j14.2.2.1.1, ()), (j14.2.2.2.1.1, ()), (j14.2.2.2.2.1.1, ()), (IntKind.wrap .i64 (j14.2.2.2.2.2.1 + (1 : Int))), ()))))
 else (some (Sum.inl (j14.1, (j14.2.1.1, ()), (j14.2.2.1.1, ()), (j14.2.2.2.1.1, ()), (j14.2.2.2.2.1.1, ()), (IntKind.wrap .i64 (j14.2.2.2.2.2.1 + (1 : Int))), ())))))))
 else (some (Sum.inr ((y1.1, ()), (y2.1, ()), (y3.1, ()), ()))))
def passkeyref40_Explain_L3 (y : ((List (ApiRecord)) × (ApiCause × Unit) × (ApiRecord × Unit) × (ApiCause × Unit) × (ApiRecord × Unit) × Int × Unit)) : Option ((ApiCause × Unit) × (ApiRecord × Unit) × (ApiCause × Unit) × Unit) := iter (fun (y : ((List (ApiRecord)) × (ApiCause × Unit) × (ApiRecord × Unit) × (ApiCause × Unit) × (ApiRecord × Unit) × Int × Unit)) => passkeyref40_Explain_L3b y.1 y.2.1 y.2.2.1 y.2.2.2.1 y.2.2.2.2.1 y.2.2.2.2.2.1) rounds y
def passkeyref40_Explain (a0 : (List (ApiRecord))) (a1 : Int) : Option ((Unit) × (ApiCause × Int × Unit)) :=
 ((passkeyref40_within a1 (0 : Int) (IntKind.wrap .i64 (((a0).length : Int) - (1 : Int)))).bind fun r1 => (bif (!r1.2.1) then (some ((), ((⟨(0 : Int), (0 : Int), (0 : Int), (0 : Int)⟩ : ApiCause), (9 : Int), ())))
 else ((getI a0 a1).bind fun x2 => (bif (!decide (x2.kind = (8 : Int))) then (some ((), ((⟨(0 : Int), (0 : Int), (0 : Int), (0 : Int)⟩ : ApiCause), (3 : Int), ())))
 else ((passkeyref40_Explain_L0 (a0, a1, ((⟨(0 : Int), (0 : Int), (0 : Int), (0 : Int)⟩ : ApiCause), ()), (x2, ()), ((⟨(-1 : Int), (-1 : Int), (-1 : Int), (-1 : Int)⟩ : ApiCause), ()), false, (0 : Int), ())).bind (fun (z8 : ((List (ApiRecord)) × (ApiCause × Unit) × (ApiRecord × Unit) × (ApiCause × Unit) × Bool × Unit)) => (bif (decide (z8.2.2.2.1.1.issued < (0 : Int))) then (some ((), ((⟨(0 : Int), (0 : Int), (0 : Int), (0 : Int)⟩ : ApiCause), (35 : Int), ())))
 else (bif z8.2.2.2.2.1 then (some ((), ((⟨(0 : Int), (0 : Int), (0 : Int), (0 : Int)⟩ : ApiCause), (35 : Int), ())))
 else ((getI z8.1 z8.2.2.2.1.1.issued).bind fun x9 => (bif (!decide (x9.text = ([] : List UInt8))) then ((getI z8.1 z8.2.2.2.1.1.issued).bind fun x10 => (bif (!decide (x10.text = z8.2.2.1.1.text)) then (some ((), ((⟨(0 : Int), (0 : Int), (0 : Int), (0 : Int)⟩ : ApiCause), (36 : Int), ())))
 else (bif (decide (z8.2.2.2.1.1.signed < (0 : Int))) then (some ((), ((⟨(0 : Int), (0 : Int), (0 : Int), (0 : Int)⟩ : ApiCause), (15 : Int), ())))
 else ((getI z8.1 z8.2.2.2.1.1.signed).bind fun x11 => ((passkeyref40_Explain_L3 (z8.1, (z8.2.1.1, ()), (z8.2.2.1.1, ()), (z8.2.2.2.1.1, ()), (x11, ()), (0 : Int), ())).bind (fun (z16 : ((ApiCause × Unit) × (ApiRecord × Unit) × (ApiCause × Unit) × Unit)) => (bif (decide (z16.2.2.1.1.begun < (0 : Int))) then (some ((), ((⟨(0 : Int), (0 : Int), (0 : Int), (0 : Int)⟩ : ApiCause), (34 : Int), ())))
 else (let v17 : Int := (IntKind.wrap .i64 ((BitVec.ofInt (IntKind.bits .i64) z16.2.1.1.flags &&& BitVec.ofInt (IntKind.bits .i64) (1 : Int)).toNat : Int))
 (bif (decide (v17 = (0 : Int))) then (some ((), ((⟨(0 : Int), (0 : Int), (0 : Int), (0 : Int)⟩ : ApiCause), (22 : Int), ())))
 else (bif (decide (z16.2.2.1.1.gesture < (0 : Int))) then (some ((), ((⟨(0 : Int), (0 : Int), (0 : Int), (0 : Int)⟩ : ApiCause), (22 : Int), ())))
 else (some ((), (z16.2.2.1.1, (0 : Int), ())))))))))))))
 else (bif (decide (z8.2.2.2.1.1.signed < (0 : Int))) then (some ((), ((⟨(0 : Int), (0 : Int), (0 : Int), (0 : Int)⟩ : ApiCause), (15 : Int), ())))
 else ((getI z8.1 z8.2.2.2.1.1.signed).bind fun x18 => ((passkeyref40_Explain_L3 (z8.1, (z8.2.1.1, ()), (z8.2.2.1.1, ()), (z8.2.2.2.1.1, ()), (x18, ()), (0 : Int), ())).bind (fun (z19 : ((ApiCause × Unit) × (ApiRecord × Unit) × (ApiCause × Unit) × Unit)) => (bif (decide (z19.2.2.1.1.begun < (0 : Int))) then (some ((), ((⟨(0 : Int), (0 : Int), (0 : Int), (0 : Int)⟩ : ApiCause), (34 : Int), ())))
 else (let v20 : Int := (IntKind.wrap .i64 ((BitVec.ofInt (IntKind.bits .i64) z19.2.1.1.flags &&& BitVec.ofInt (IntKind.bits .i64) (1 : Int)).toNat : Int))
 (bif (decide (v20 = (0 : Int))) then (some ((), ((⟨(0 : Int), (0 : Int), (0 : Int), (0 : Int)⟩ : ApiCause), (22 : Int), ())))
 else (bif (decide (z19.2.2.1.1.gesture < (0 : Int))) then (some ((), ((⟨(0 : Int), (0 : Int), (0 : Int), (0 : Int)⟩ : ApiCause), (22 : Int), ())))
 else (some ((), (z19.2.2.1.1, (0 : Int), ())))))))))))))))))))))
def S_passkeyref40_Explain : FSpec T := ⟨[.f (.v (.rs 1)), .f (.v (.int .i64))], [(.v (.agg 3)), (.v (.int .i64))], fun x => passkeyref40_Explain x.1 x.2.1⟩
def E_passkeyref40_Explain : Env T := ⟨tab.find, cd, globs, flc, fun f ds => match f with
    | 21 => some S_passkeyref40_within
    | 22 => some S_passkeyref40_has
    | _ => none, fun f => match f with
    | 21 => true
    | 22 => true
    | _ => false⟩
def A_passkeyref40_Explain : Loc2 T := ⟨fun id => match id with
    | 0 => some ⟨[(0, .f (.v (.rs 1))), (1, .f (.v (.int .i64))), (4, .ptr [(.v (.agg 3))]), (6, .ptr [(.v (.agg 1))]), (7, .ptr [(.v (.agg 3))]), (8, .f (.v .bool)), (9, .f (.v (.int .i64)))], [(.exit 0, [(0, .f (.v (.rs 1))), (4, .ptr [(.v (.agg 3))]), (6, .ptr [(.v (.agg 1))]), (7, .ptr [(.v (.agg 3))]), (8, .f (.v .bool))])], passkeyref40_Explain_L0, []⟩
    | 3 => some ⟨[(0, .f (.v (.rs 1))), (4, .ptr [(.v (.agg 3))]), (6, .ptr [(.v (.agg 1))]), (7, .ptr [(.v (.agg 3))]), (11, .ptr [(.v (.agg 1))]), (12, .f (.v (.int .i64)))], [(.exit 3, [(4, .ptr [(.v (.agg 3))]), (6, .ptr [(.v (.agg 1))]), (7, .ptr [(.v (.agg 3))])])], passkeyref40_Explain_L3, []⟩
    | _ => none, fun r => match r with
    | 14 => some ([(0, .f (.v (.rs 1))), (1, .f (.v (.int .i64))), (4, .ptr [(.v (.agg 3))]), (6, .ptr [(.v (.agg 1))]), (7, .ptr [(.v (.agg 3))]), (8, .f (.v .bool)), (9, .f (.v (.int .i64))), (10, .ptr [(.v (.agg 1))])], true)
    | 30 => some ([(0, .f (.v (.rs 1))), (4, .ptr [(.v (.agg 3))]), (6, .ptr [(.v (.agg 1))]), (7, .ptr [(.v (.agg 3))]), (11, .ptr [(.v (.agg 1))]), (12, .f (.v (.int .i64))), (13, .ptr [(.v (.agg 1))])], true)
    | _ => none, fun r => match r with
    | _ => false⟩
theorem passkeyref40_Explain_L0_eq (y0 : (List (ApiRecord))) (y1 : Int) (y2 : (ApiCause × Unit)) (y3 : (ApiRecord × Unit)) (y4 : (ApiCause × Unit)) (y5 : Bool) (y6 : Int) : run E_passkeyref40_Explain A_passkeyref40_Explain (loopAt 0 (Try.f10.body.getD .skip)) (layC cd [(0, .f (.v (.rs 1))), (1, .f (.v (.int .i64))), (4, .ptr [(.v (.agg 3))]), (6, .ptr [(.v (.agg 1))]), (7, .ptr [(.v (.agg 3))]), (8, .f (.v .bool)), (9, .f (.v (.int .i64)))] [] (y0, y1, y2, y3, y4, y5, y6, ())) (roundK cd [(0, .f (.v (.rs 1))), (1, .f (.v (.int .i64))), (4, .ptr [(.v (.agg 3))]), (6, .ptr [(.v (.agg 1))]), (7, .ptr [(.v (.agg 3))]), (8, .f (.v .bool)), (9, .f (.v (.int .i64)))] [] [(.exit 0, [(0, .f (.v (.rs 1))), (4, .ptr [(.v (.agg 3))]), (6, .ptr [(.v (.agg 1))]), (7, .ptr [(.v (.agg 3))]), (8, .f (.v .bool))])]) = passkeyref40_Explain_L0b y0 y1 y2 y3 y4 y5 y6 := by kernel_rfl
theorem passkeyref40_Explain_L3_eq (y0 : (List (ApiRecord))) (y1 : (ApiCause × Unit)) (y2 : (ApiRecord × Unit)) (y3 : (ApiCause × Unit)) (y4 : (ApiRecord × Unit)) (y5 : Int) : run E_passkeyref40_Explain A_passkeyref40_Explain (loopAt 3 (Try.f10.body.getD .skip)) (layC cd [(0, .f (.v (.rs 1))), (4, .ptr [(.v (.agg 3))]), (6, .ptr [(.v (.agg 1))]), (7, .ptr [(.v (.agg 3))]), (11, .ptr [(.v (.agg 1))]), (12, .f (.v (.int .i64)))] [] (y0, y1, y2, y3, y4, y5, ())) (roundK cd [(0, .f (.v (.rs 1))), (4, .ptr [(.v (.agg 3))]), (6, .ptr [(.v (.agg 1))]), (7, .ptr [(.v (.agg 3))]), (11, .ptr [(.v (.agg 1))]), (12, .f (.v (.int .i64)))] [] [(.exit 3, [(4, .ptr [(.v (.agg 3))]), (6, .ptr [(.v (.agg 1))]), (7, .ptr [(.v (.agg 3))])])]) = passkeyref40_Explain_L3b y0 y1 y2 y3 y4 y5 := by kernel_rfl
theorem passkeyref40_Explain_eq (x : tySs T S_passkeyref40_Explain.ps) : run E_passkeyref40_Explain A_passkeyref40_Explain (Try.f10.body.getD .skip) (enterT E_passkeyref40_Explain.C S_passkeyref40_Explain.ps x) (retK E_passkeyref40_Explain Try.f10.results.toList S_passkeyref40_Explain.ps S_passkeyref40_Explain.rs) = S_passkeyref40_Explain.fn x := by kernel_rfl
theorem passkeyref40_Explain_env : EnvOk Try.prog E_passkeyref40_Explain := envOk (E := E_passkeyref40_Explain) cd_ok tys fl_ok fun f ds S h => by
    dsimp only [E_passkeyref40_Explain] at h
    split at h
    · cases h; exact passkeyref40_within_ok
    · cases h; exact passkeyref40_has_ok
    · cases h
theorem passkeyref40_Explain_L0_ok : LoopOk Try.prog E_passkeyref40_Explain Try.f10.ntmps (kqOf S_passkeyref40_Explain.ps 0) (loopAt 0 (Try.f10.body.getD .skip)) ⟨[(0, .f (.v (.rs 1))), (1, .f (.v (.int .i64))), (4, .ptr [(.v (.agg 3))]), (6, .ptr [(.v (.agg 1))]), (7, .ptr [(.v (.agg 3))]), (8, .f (.v .bool)), (9, .f (.v (.int .i64)))], [(.exit 0, [(0, .f (.v (.rs 1))), (4, .ptr [(.v (.agg 3))]), (6, .ptr [(.v (.agg 1))]), (7, .ptr [(.v (.agg 3))]), (8, .f (.v .bool))])], passkeyref40_Explain_L0, []⟩ :=
  loop_ok (A := A_passkeyref40_Explain) (done := []) (c0 := (Try.f10.body.getD .skip)) hmix passkeyref40_Explain_env done_nil rounds (by kernel_rfl) (by kernel_rfl) (fun x => passkeyref40_Explain_L0_eq x.1 x.2.1 x.2.2.1 x.2.2.2.1 x.2.2.2.2.1 x.2.2.2.2.2.1 x.2.2.2.2.2.2.1) (fun _ => rfl)
theorem passkeyref40_Explain_L3_ok : LoopOk Try.prog E_passkeyref40_Explain Try.f10.ntmps (kqOf S_passkeyref40_Explain.ps 0) (loopAt 3 (Try.f10.body.getD .skip)) ⟨[(0, .f (.v (.rs 1))), (4, .ptr [(.v (.agg 3))]), (6, .ptr [(.v (.agg 1))]), (7, .ptr [(.v (.agg 3))]), (11, .ptr [(.v (.agg 1))]), (12, .f (.v (.int .i64)))], [(.exit 3, [(4, .ptr [(.v (.agg 3))]), (6, .ptr [(.v (.agg 1))]), (7, .ptr [(.v (.agg 3))])])], passkeyref40_Explain_L3, []⟩ :=
  loop_ok (A := A_passkeyref40_Explain) (done := [0]) (c0 := (Try.f10.body.getD .skip)) hmix passkeyref40_Explain_env (done_cons rfl passkeyref40_Explain_L0_ok done_nil) rounds (by kernel_rfl) (by kernel_rfl) (fun x => passkeyref40_Explain_L3_eq x.1 x.2.1 x.2.2.1 x.2.2.2.1 x.2.2.2.2.1 x.2.2.2.2.2.1) (fun _ => rfl)
theorem passkeyref40_Explain_ok : SoundT Try.prog cd gdn 10 S_passkeyref40_Explain :=
  sound_fn (E := E_passkeyref40_Explain) (A := A_passkeyref40_Explain) (done := [0, 3]) (c := (Try.f10.body.getD .skip)) (S := S_passkeyref40_Explain) (fn := Try.f10) hmix passkeyref40_Explain_env Try.func10 rfl (by kernel_rfl) (by kernel_rfl) (done_cons rfl passkeyref40_Explain_L0_ok (done_cons rfl passkeyref40_Explain_L3_ok done_nil)) (by kernel_rfl) (by kernel_rfl) passkeyref40_Explain_eq
def monitor_Copies_L0b (y0 : (List (ApiRecord))) (y1 : (List (List UInt8))) (y2 : (List (MonitorUse))) (y3 : (List (List UInt8))) (y4 : Int) (y5 : Int) : Option (((List (ApiRecord)) × (List (List UInt8)) × (List (MonitorUse)) × (List (List UInt8)) × Int × Int × Unit) ⊕ ((List (List UInt8)) × Unit)) :=
 (bif (decide (y5 < y4)) then ((getI y0 y5).bind fun x1 => (bif (!decide (x1.kind = (4 : Int))) then (some (Sum.inl (y0, y1, y2, y3, y4, (IntKind.wrap .i64 (y5 + (1 : Int))), ())))
 else (bif (!decide (x1.kind2 = (2 : Int))) then (some (Sum.inl (y0, y1, y2, y3, y4, (IntKind.wrap .i64 (y5 + (1 : Int))), ())))
 else (bif (List.any y2 (keq7 (⟨(0 : Int), x1.iD, x1.leaf⟩ : MonitorUse))) then (bif (!(List.any y3 (keq6 x1.iD))) then (let v2 : List (List UInt8) := (bif List.any y3 (keq6 x1.iD) then y3 else y3 ++ [x1.iD])
 ((bytes_Clone x1.iD).bind fun r3 => (bif small ((y1).length + (([r3.2.1] : List (List UInt8)) : List (List UInt8)).length) 24 then (let v4 : List (MonitorUse) := (bif List.any y2 (keq7 (⟨(0 : Int), x1.iD, x1.leaf⟩ : MonitorUse)) then y2 else y2 ++ [(⟨(0 : Int), x1.iD, x1.leaf⟩ : MonitorUse)])
 (some (Sum.inl (y0, (y1 ++ ([r3.2.1] : List (List UInt8))), v4, v2, y4, (IntKind.wrap .i64 (y5 + (1 : Int))), ()))))
 else none)))
 else (let v5 : List (MonitorUse) := (bif List.any y2 (keq7 (⟨(0 : Int), x1.iD, x1.leaf⟩ : MonitorUse)) then y2 else y2 ++ [(⟨(0 : Int), x1.iD, x1.leaf⟩ : MonitorUse)])
 (some (Sum.inl (y0, y1, v5, y3, y4, (IntKind.wrap .i64 (y5 + (1 : Int))), ())))))
 else (let v6 : List (MonitorUse) := (bif List.any y2 (keq7 (⟨(0 : Int), x1.iD, x1.leaf⟩ : MonitorUse)) then y2 else y2 ++ [(⟨(0 : Int), x1.iD, x1.leaf⟩ : MonitorUse)])
 (some (Sum.inl (y0, y1, v6, y3, y4, (IntKind.wrap .i64 (y5 + (1 : Int))), ()))))))))
 else (some (Sum.inr (y1, ()))))
def monitor_Copies_L0 (y : ((List (ApiRecord)) × (List (List UInt8)) × (List (MonitorUse)) × (List (List UInt8)) × Int × Int × Unit)) : Option ((List (List UInt8)) × Unit) := iter (fun (y : ((List (ApiRecord)) × (List (List UInt8)) × (List (MonitorUse)) × (List (List UInt8)) × Int × Int × Unit)) => monitor_Copies_L0b y.1 y.2.1 y.2.2.1 y.2.2.2.1 y.2.2.2.2.1 y.2.2.2.2.2.1) rounds y
def monitor_Copies (a0 : (List (ApiRecord))) : Option ((Unit) × ((List (List UInt8)) × Unit)) :=
 ((monitor_Copies_L0 (a0, [], ([] : List (MonitorUse)), ([] : List (List UInt8)), ((a0).length : Int), (0 : Int), ())).bind (fun (z7 : ((List (List UInt8)) × Unit)) => (some ((), (z7.1, ())))))
def S_monitor_Copies : FSpec T := ⟨[.f (.v (.rs 1))], [(.own 8)], fun x => monitor_Copies x.1⟩
def E_monitor_Copies : Env T := ⟨tab.find, cd, globs, flc, fun f ds => match f with
    | 29 => some S_bytes_Clone
    | _ => none, fun f => match f with
    | _ => false⟩
def A_monitor_Copies : Loc2 T := ⟨fun id => match id with
    | 0 => some ⟨[(0, .f (.v (.rs 1))), (3, .f (.own 8)), (4, .mset true 7), (5, .mset false 6), (12, .f (.v (.int .i64))), (13, .f (.v (.int .i64)))], [(.exit 0, [(3, .f (.own 8))])], monitor_Copies_L0, []⟩
    | _ => none, fun r => match r with
    | _ => none, fun r => match r with
    | 9 => true
    | _ => false⟩
theorem monitor_Copies_L0_eq (y0 : (List (ApiRecord))) (y1 : (List (List UInt8))) (y2 : (List (MonitorUse))) (y3 : (List (List UInt8))) (y4 : Int) (y5 : Int) : run E_monitor_Copies A_monitor_Copies (loopAt 0 (Try.f23.body.getD .skip)) (layC cd [(0, .f (.v (.rs 1))), (3, .f (.own 8)), (4, .mset true 7), (5, .mset false 6), (12, .f (.v (.int .i64))), (13, .f (.v (.int .i64)))] [] (y0, y1, y2, y3, y4, y5, ())) (roundK cd [(0, .f (.v (.rs 1))), (3, .f (.own 8)), (4, .mset true 7), (5, .mset false 6), (12, .f (.v (.int .i64))), (13, .f (.v (.int .i64)))] [] [(.exit 0, [(3, .f (.own 8))])]) = monitor_Copies_L0b y0 y1 y2 y3 y4 y5 := by kernel_rfl
theorem monitor_Copies_eq (x : tySs T S_monitor_Copies.ps) : run E_monitor_Copies A_monitor_Copies (Try.f23.body.getD .skip) (enterT E_monitor_Copies.C S_monitor_Copies.ps x) (retK E_monitor_Copies Try.f23.results.toList S_monitor_Copies.ps S_monitor_Copies.rs) = S_monitor_Copies.fn x := by kernel_rfl
theorem monitor_Copies_env : EnvOk Try.prog E_monitor_Copies := envOk (E := E_monitor_Copies) cd_ok tys fl_ok fun f ds S h => by
    dsimp only [E_monitor_Copies] at h
    split at h
    · cases h; exact bytes_Clone_ok
    · cases h
theorem monitor_Copies_L0_ok : LoopOk Try.prog E_monitor_Copies Try.f23.ntmps (kqOf S_monitor_Copies.ps 0) (loopAt 0 (Try.f23.body.getD .skip)) ⟨[(0, .f (.v (.rs 1))), (3, .f (.own 8)), (4, .mset true 7), (5, .mset false 6), (12, .f (.v (.int .i64))), (13, .f (.v (.int .i64)))], [(.exit 0, [(3, .f (.own 8))])], monitor_Copies_L0, []⟩ :=
  loop_ok (A := A_monitor_Copies) (done := []) (c0 := (Try.f23.body.getD .skip)) hmix monitor_Copies_env done_nil rounds (by kernel_rfl) (by kernel_rfl) (fun x => monitor_Copies_L0_eq x.1 x.2.1 x.2.2.1 x.2.2.2.1 x.2.2.2.2.1 x.2.2.2.2.2.1) (fun _ => rfl)
theorem monitor_Copies_ok : SoundT Try.prog cd gdn 23 S_monitor_Copies :=
  sound_fn (E := E_monitor_Copies) (A := A_monitor_Copies) (done := [0]) (c := (Try.f23.body.getD .skip)) (S := S_monitor_Copies) (fn := Try.f23) hmix monitor_Copies_env Try.func23 rfl (by kernel_rfl) (by kernel_rfl) (done_cons rfl monitor_Copies_L0_ok done_nil) (by kernel_rfl) (by kernel_rfl) monitor_Copies_eq
def passkeyref40_repeated_L0b (y0 : (List (ApiRecord))) (y1 : Int) (y2 : Int) : Option (((List (ApiRecord)) × Int × Int × Unit) ⊕ ((Bool × Unit) ⊕ (Unit))) :=
 (bif (decide (y2 < y1)) then ((getI y0 y2).bind fun x1 => (bif (decide (x1.kind = (4 : Int))) then ((getI y0 y2).bind fun x2 => (bif (decide (x2.kind2 = (2 : Int))) then ((getI y0 y2).bind fun x3 => ((getI y0 y1).bind fun x4 => (bif (decide (x3.iD = x4.iD)) then ((getI y0 y2).bind fun x5 => ((getI y0 y1).bind fun x6 => (bif (decide (x5.leaf = x6.leaf)) then (some (Sum.inr (Sum.inl (true, ()))))
 else (some (Sum.inl (y0, y1, (IntKind.wrap .i64 (y2 + (1 : Int))), ()))))))
 else (some (Sum.inl (y0, y1, (IntKind.wrap .i64 (y2 + (1 : Int))), ()))))))
 else (some (Sum.inl (y0, y1, (IntKind.wrap .i64 (y2 + (1 : Int))), ())))))
 else (some (Sum.inl (y0, y1, (IntKind.wrap .i64 (y2 + (1 : Int))), ())))))
 else (some (Sum.inr (Sum.inr ()))))
def passkeyref40_repeated_L0 (y : ((List (ApiRecord)) × Int × Int × Unit)) : Option ((Bool × Unit) ⊕ (Unit)) := iter (fun (y : ((List (ApiRecord)) × Int × Int × Unit)) => passkeyref40_repeated_L0b y.1 y.2.1 y.2.2.1) rounds y
def passkeyref40_repeated (a0 : (List (ApiRecord))) (a1 : Int) : Option ((Unit) × (Bool × Unit)) :=
 ((passkeyref40_repeated_L0 (a0, a1, (0 : Int), ())).bind (Sum.elim (fun (z7 : (Bool × Unit)) => (some ((), (z7.1, ())))) (fun (z8 : (Unit)) => (some ((), (false, ()))))))
def S_passkeyref40_repeated : FSpec T := ⟨[.f (.v (.rs 1)), .f (.v (.int .i64))], [(.v .bool)], fun x => passkeyref40_repeated x.1 x.2.1⟩
def E_passkeyref40_repeated : Env T := ⟨tab.find, cd, globs, flc, fun f ds => match f with
    | _ => none, fun f => match f with
    | _ => false⟩
def A_passkeyref40_repeated : Loc2 T := ⟨fun id => match id with
    | 0 => some ⟨[(0, .f (.v (.rs 1))), (1, .f (.v (.int .i64))), (5, .f (.v (.int .i64)))], [(.ret, [(4, .f (.v .bool))]), (.exit 0, [])], passkeyref40_repeated_L0, []⟩
    | _ => none, fun r => match r with
    | _ => none, fun r => match r with
    | _ => false⟩
theorem passkeyref40_repeated_L0_eq (y0 : (List (ApiRecord))) (y1 : Int) (y2 : Int) : run E_passkeyref40_repeated A_passkeyref40_repeated (loopAt 0 (Try.f30.body.getD .skip)) (layC cd [(0, .f (.v (.rs 1))), (1, .f (.v (.int .i64))), (5, .f (.v (.int .i64)))] [] (y0, y1, y2, ())) (roundK cd [(0, .f (.v (.rs 1))), (1, .f (.v (.int .i64))), (5, .f (.v (.int .i64)))] [] [(.ret, [(4, .f (.v .bool))]), (.exit 0, [])]) = passkeyref40_repeated_L0b y0 y1 y2 := by kernel_rfl
theorem passkeyref40_repeated_eq (x : tySs T S_passkeyref40_repeated.ps) : run E_passkeyref40_repeated A_passkeyref40_repeated (Try.f30.body.getD .skip) (enterT E_passkeyref40_repeated.C S_passkeyref40_repeated.ps x) (retK E_passkeyref40_repeated Try.f30.results.toList S_passkeyref40_repeated.ps S_passkeyref40_repeated.rs) = S_passkeyref40_repeated.fn x := by kernel_rfl
theorem passkeyref40_repeated_env : EnvOk Try.prog E_passkeyref40_repeated := envOk (E := E_passkeyref40_repeated) cd_ok tys fl_ok fun f ds S h => by cases h
theorem passkeyref40_repeated_L0_ok : LoopOk Try.prog E_passkeyref40_repeated Try.f30.ntmps (kqOf S_passkeyref40_repeated.ps 0) (loopAt 0 (Try.f30.body.getD .skip)) ⟨[(0, .f (.v (.rs 1))), (1, .f (.v (.int .i64))), (5, .f (.v (.int .i64)))], [(.ret, [(4, .f (.v .bool))]), (.exit 0, [])], passkeyref40_repeated_L0, []⟩ :=
  loop_ok (A := A_passkeyref40_repeated) (done := []) (c0 := (Try.f30.body.getD .skip)) hmix passkeyref40_repeated_env done_nil rounds (by kernel_rfl) (by kernel_rfl) (fun x => passkeyref40_repeated_L0_eq x.1 x.2.1 x.2.2.1) (fun _ => rfl)
theorem passkeyref40_repeated_ok : SoundT Try.prog cd gdn 30 S_passkeyref40_repeated :=
  sound_fn (E := E_passkeyref40_repeated) (A := A_passkeyref40_repeated) (done := [0]) (c := (Try.f30.body.getD .skip)) (S := S_passkeyref40_repeated) (fn := Try.f30) hmix passkeyref40_repeated_env Try.func30 rfl (by kernel_rfl) (by kernel_rfl) (done_cons rfl passkeyref40_repeated_L0_ok done_nil) (by kernel_rfl) (by kernel_rfl) passkeyref40_repeated_eq
def passkeyref40_Copies_L2b (y0 : (List (ApiRecord))) (y1 : (List (List UInt8))) (y2 : Int) (y3 : Bool) (y4 : Int) : Option (((List (ApiRecord)) × (List (List UInt8)) × Int × Bool × Int × Unit) ⊕ ((List (ApiRecord)) × (List (List UInt8)) × Int × Bool × Unit)) :=
 (bif (decide (y4 < ((y1).length : Int))) then (bif y3 then (some (Sum.inl (y0, y1, y2, true, (IntKind.wrap .i64 (y4 + (1 : Int))), ())))
 else (bif (decide ((0 : Int) ≤ y4) && decide (y4 < ((y1).length : Int))) then (((y1)[(y4).toNat]?).bind fun x4 => ((getI y0 y2).bind fun x5 => (some (Sum.inl (y0, y1, y2, (decide (x4 = x5.iD)), (IntKind.wrap .i64 (y4 + (1 : Int))), ())))))
 else none))
 else (some (Sum.inr (y0, y1, y2, y3, ()))))
def passkeyref40_Copies_L2 (y : ((List (ApiRecord)) × (List (List UInt8)) × Int × Bool × Int × Unit)) : Option ((List (ApiRecord)) × (List (List UInt8)) × Int × Bool × Unit) := iter (fun (y : ((List (ApiRecord)) × (List (List UInt8)) × Int × Bool × Int × Unit)) => passkeyref40_Copies_L2b y.1 y.2.1 y.2.2.1 y.2.2.2.1 y.2.2.2.2.1) rounds y
def passkeyref40_Copies_L0b (y0 : (List (ApiRecord))) (y1 : (List (List UInt8))) (y2 : Int) : Option (((List (ApiRecord)) × (List (List UInt8)) × Int × Unit) ⊕ ((List (List UInt8)) × Unit)) :=
 (bif (decide (y2 < ((y0).length : Int))) then ((getI y0 y2).bind fun x1 => (bif (!decide (x1.kind = (4 : Int))) then (some (Sum.inl (y0, y1, (IntKind.wrap .i64 (y2 + (1 : Int))), ())))
 else ((getI y0 y2).bind fun x2 => (bif (!decide (x2.kind2 = (2 : Int))) then (some (Sum.inl (y0, y1, (IntKind.wrap .i64 (y2 + (1 : Int))), ())))
 else ((passkeyref40_repeated y0 y2).bind fun r3 => (bif (!r3.2.1) then (some (Sum.inl (y0, y1, (IntKind.wrap .i64 (y2 + (1 : Int))), ())))
 else ((passkeyref40_Copies_L2 (y0, y1, y2, false, (0 : Int), ())).bind (fun (z4 : ((List (ApiRecord)) × (List (List UInt8)) × Int × Bool × Unit)) => (bif (!z4.2.2.2.1) then ((getI z4.1 z4.2.2.1).bind fun x5 => (bif small ((x5.iD).length) 1 then (bif small ((z4.2.1).length + (([x5.iD] : List (List UInt8)) : List (List UInt8)).length) 24 then (let v6 : List (List UInt8) := (z4.2.1 ++ ([x5.iD] : List (List UInt8)))
 (some (Sum.inl (z4.1, v6, (IntKind.wrap .i64 (z4.2.2.1 + (1 : Int))), ()))))
 else none)
 else none))
 else (some (Sum.inl (z4.1, z4.2.1, (IntKind.wrap .i64 (z4.2.2.1 + (1 : Int))), ()))))))))))))
 else (some (Sum.inr (y1, ()))))
def passkeyref40_Copies_L0 (y : ((List (ApiRecord)) × (List (List UInt8)) × Int × Unit)) : Option ((List (List UInt8)) × Unit) := iter (fun (y : ((List (ApiRecord)) × (List (List UInt8)) × Int × Unit)) => passkeyref40_Copies_L0b y.1 y.2.1 y.2.2.1) rounds y
def passkeyref40_Copies (a0 : (List (ApiRecord))) : Option ((Unit) × ((List (List UInt8)) × Unit)) :=
 ((passkeyref40_Copies_L0 (a0, [], (0 : Int), ())).bind (fun (z7 : ((List (List UInt8)) × Unit)) => (some ((), (z7.1, ())))))
def S_passkeyref40_Copies : FSpec T := ⟨[.f (.v (.rs 1))], [(.own 8)], fun x => passkeyref40_Copies x.1⟩
def E_passkeyref40_Copies : Env T := ⟨tab.find, cd, globs, flc, fun f ds => match f with
    | 30 => some S_passkeyref40_repeated
    | _ => none, fun f => match f with
    | 30 => true
    | _ => false⟩
def A_passkeyref40_Copies : Loc2 T := ⟨fun id => match id with
    | 2 => some ⟨[(0, .f (.v (.rs 1))), (3, .f (.own 8)), (4, .f (.v (.int .i64))), (5, .f (.v .bool)), (6, .f (.v (.int .i64)))], [(.exit 2, [(0, .f (.v (.rs 1))), (3, .f (.own 8)), (4, .f (.v (.int .i64))), (5, .f (.v .bool))])], passkeyref40_Copies_L2, []⟩
    | 0 => some ⟨[(0, .f (.v (.rs 1))), (3, .f (.own 8)), (4, .f (.v (.int .i64)))], [(.exit 0, [(3, .f (.own 8))])], passkeyref40_Copies_L0, []⟩
    | _ => none, fun r => match r with
    | _ => none, fun r => match r with
    | _ => false⟩
theorem passkeyref40_Copies_L2_eq (y0 : (List (ApiRecord))) (y1 : (List (List UInt8))) (y2 : Int) (y3 : Bool) (y4 : Int) : run E_passkeyref40_Copies A_passkeyref40_Copies (loopAt 2 (Try.f24.body.getD .skip)) (layC cd [(0, .f (.v (.rs 1))), (3, .f (.own 8)), (4, .f (.v (.int .i64))), (5, .f (.v .bool)), (6, .f (.v (.int .i64)))] [] (y0, y1, y2, y3, y4, ())) (roundK cd [(0, .f (.v (.rs 1))), (3, .f (.own 8)), (4, .f (.v (.int .i64))), (5, .f (.v .bool)), (6, .f (.v (.int .i64)))] [] [(.exit 2, [(0, .f (.v (.rs 1))), (3, .f (.own 8)), (4, .f (.v (.int .i64))), (5, .f (.v .bool))])]) = passkeyref40_Copies_L2b y0 y1 y2 y3 y4 := by kernel_rfl
theorem passkeyref40_Copies_L0_eq (y0 : (List (ApiRecord))) (y1 : (List (List UInt8))) (y2 : Int) : run E_passkeyref40_Copies A_passkeyref40_Copies (loopAt 0 (Try.f24.body.getD .skip)) (layC cd [(0, .f (.v (.rs 1))), (3, .f (.own 8)), (4, .f (.v (.int .i64)))] [] (y0, y1, y2, ())) (roundK cd [(0, .f (.v (.rs 1))), (3, .f (.own 8)), (4, .f (.v (.int .i64)))] [] [(.exit 0, [(3, .f (.own 8))])]) = passkeyref40_Copies_L0b y0 y1 y2 := by kernel_rfl
theorem passkeyref40_Copies_eq (x : tySs T S_passkeyref40_Copies.ps) : run E_passkeyref40_Copies A_passkeyref40_Copies (Try.f24.body.getD .skip) (enterT E_passkeyref40_Copies.C S_passkeyref40_Copies.ps x) (retK E_passkeyref40_Copies Try.f24.results.toList S_passkeyref40_Copies.ps S_passkeyref40_Copies.rs) = S_passkeyref40_Copies.fn x := by kernel_rfl
theorem passkeyref40_Copies_env : EnvOk Try.prog E_passkeyref40_Copies := envOk (E := E_passkeyref40_Copies) cd_ok tys fl_ok fun f ds S h => by
    dsimp only [E_passkeyref40_Copies] at h
    split at h
    · cases h; exact passkeyref40_repeated_ok
    · cases h
theorem passkeyref40_Copies_L2_ok : LoopOk Try.prog E_passkeyref40_Copies Try.f24.ntmps (kqOf S_passkeyref40_Copies.ps 0) (loopAt 2 (Try.f24.body.getD .skip)) ⟨[(0, .f (.v (.rs 1))), (3, .f (.own 8)), (4, .f (.v (.int .i64))), (5, .f (.v .bool)), (6, .f (.v (.int .i64)))], [(.exit 2, [(0, .f (.v (.rs 1))), (3, .f (.own 8)), (4, .f (.v (.int .i64))), (5, .f (.v .bool))])], passkeyref40_Copies_L2, []⟩ :=
  loop_ok (A := A_passkeyref40_Copies) (done := []) (c0 := (Try.f24.body.getD .skip)) hmix passkeyref40_Copies_env done_nil rounds (by kernel_rfl) (by kernel_rfl) (fun x => passkeyref40_Copies_L2_eq x.1 x.2.1 x.2.2.1 x.2.2.2.1 x.2.2.2.2.1) (fun _ => rfl)
theorem passkeyref40_Copies_L0_ok : LoopOk Try.prog E_passkeyref40_Copies Try.f24.ntmps (kqOf S_passkeyref40_Copies.ps 0) (loopAt 0 (Try.f24.body.getD .skip)) ⟨[(0, .f (.v (.rs 1))), (3, .f (.own 8)), (4, .f (.v (.int .i64)))], [(.exit 0, [(3, .f (.own 8))])], passkeyref40_Copies_L0, []⟩ :=
  loop_ok (A := A_passkeyref40_Copies) (done := [2]) (c0 := (Try.f24.body.getD .skip)) hmix passkeyref40_Copies_env (done_cons rfl passkeyref40_Copies_L2_ok done_nil) rounds (by kernel_rfl) (by kernel_rfl) (fun x => passkeyref40_Copies_L0_eq x.1 x.2.1 x.2.2.1) (fun _ => rfl)
theorem passkeyref40_Copies_ok : SoundT Try.prog cd gdn 24 S_passkeyref40_Copies :=
  sound_fn (E := E_passkeyref40_Copies) (A := A_passkeyref40_Copies) (done := [2, 0]) (c := (Try.f24.body.getD .skip)) (S := S_passkeyref40_Copies) (fn := Try.f24) hmix passkeyref40_Copies_env Try.func24 rfl (by kernel_rfl) (by kernel_rfl) (done_cons rfl passkeyref40_Copies_L2_ok (done_cons rfl passkeyref40_Copies_L0_ok done_nil)) (by kernel_rfl) (by kernel_rfl) passkeyref40_Copies_eq
def passkeyref40_Check_L0b (y0 : (List (ApiRecord))) (y1 : (List (ApiFinding))) (y2 : Int) : Option (((List (ApiRecord)) × (List (ApiFinding)) × Int × Unit) ⊕ ((List (ApiFinding)) × Unit)) :=
 (bif (decide (y2 < ((y0).length : Int))) then ((getI y0 y2).bind fun x1 => (bif (!decide (x1.kind = (8 : Int))) then (some (Sum.inl (y0, y1, (IntKind.wrap .i64 (y2 + (1 : Int))), ())))
 else ((passkeyref40_Explain y0 y2).bind fun r2 => (bif (!decide (r2.2.2.1 = (0 : Int))) then (bif small ((y1).length + (([(⟨y2, r2.2.2.1⟩ : ApiFinding)] : List (ApiFinding)) : List (ApiFinding)).length) 16 then (let v3 : List (ApiFinding) := (y1 ++ ([(⟨y2, r2.2.2.1⟩ : ApiFinding)] : List (ApiFinding)))
 (some (Sum.inl (y0, v3, (IntKind.wrap .i64 (y2 + (1 : Int))), ()))))
 else none)
 else (some (Sum.inl (y0, y1, (IntKind.wrap .i64 (y2 + (1 : Int))), ())))))))
 else (some (Sum.inr (y1, ()))))
def passkeyref40_Check_L0 (y : ((List (ApiRecord)) × (List (ApiFinding)) × Int × Unit)) : Option ((List (ApiFinding)) × Unit) := iter (fun (y : ((List (ApiRecord)) × (List (ApiFinding)) × Int × Unit)) => passkeyref40_Check_L0b y.1 y.2.1 y.2.2.1) rounds y
def passkeyref40_Check (a0 : (List (ApiRecord))) : Option ((Unit) × ((List (ApiFinding)) × Unit)) :=
 ((passkeyref40_Check_L0 (a0, [], (0 : Int), ())).bind (fun (z4 : ((List (ApiFinding)) × Unit)) => (some ((), (z4.1, ())))))
def S_passkeyref40_Check : FSpec T := ⟨[.f (.v (.rs 1))], [(.own 4)], fun x => passkeyref40_Check x.1⟩
def E_passkeyref40_Check : Env T := ⟨tab.find, cd, globs, flc, fun f ds => match f with
    | 10 => some S_passkeyref40_Explain
    | _ => none, fun f => match f with
    | 10 => true
    | _ => false⟩
def A_passkeyref40_Check : Loc2 T := ⟨fun id => match id with
    | 0 => some ⟨[(0, .f (.v (.rs 1))), (3, .f (.own 4)), (4, .f (.v (.int .i64)))], [(.exit 0, [(3, .f (.own 4))])], passkeyref40_Check_L0, []⟩
    | _ => none, fun r => match r with
    | _ => none, fun r => match r with
    | _ => false⟩
theorem passkeyref40_Check_L0_eq (y0 : (List (ApiRecord))) (y1 : (List (ApiFinding))) (y2 : Int) : run E_passkeyref40_Check A_passkeyref40_Check (loopAt 0 (Try.f26.body.getD .skip)) (layC cd [(0, .f (.v (.rs 1))), (3, .f (.own 4)), (4, .f (.v (.int .i64)))] [] (y0, y1, y2, ())) (roundK cd [(0, .f (.v (.rs 1))), (3, .f (.own 4)), (4, .f (.v (.int .i64)))] [] [(.exit 0, [(3, .f (.own 4))])]) = passkeyref40_Check_L0b y0 y1 y2 := by kernel_rfl
theorem passkeyref40_Check_eq (x : tySs T S_passkeyref40_Check.ps) : run E_passkeyref40_Check A_passkeyref40_Check (Try.f26.body.getD .skip) (enterT E_passkeyref40_Check.C S_passkeyref40_Check.ps x) (retK E_passkeyref40_Check Try.f26.results.toList S_passkeyref40_Check.ps S_passkeyref40_Check.rs) = S_passkeyref40_Check.fn x := by kernel_rfl
theorem passkeyref40_Check_env : EnvOk Try.prog E_passkeyref40_Check := envOk (E := E_passkeyref40_Check) cd_ok tys fl_ok fun f ds S h => by
    dsimp only [E_passkeyref40_Check] at h
    split at h
    · cases h; exact passkeyref40_Explain_ok
    · cases h
theorem passkeyref40_Check_L0_ok : LoopOk Try.prog E_passkeyref40_Check Try.f26.ntmps (kqOf S_passkeyref40_Check.ps 0) (loopAt 0 (Try.f26.body.getD .skip)) ⟨[(0, .f (.v (.rs 1))), (3, .f (.own 4)), (4, .f (.v (.int .i64)))], [(.exit 0, [(3, .f (.own 4))])], passkeyref40_Check_L0, []⟩ :=
  loop_ok (A := A_passkeyref40_Check) (done := []) (c0 := (Try.f26.body.getD .skip)) hmix passkeyref40_Check_env done_nil rounds (by kernel_rfl) (by kernel_rfl) (fun x => passkeyref40_Check_L0_eq x.1 x.2.1 x.2.2.1) (fun _ => rfl)
theorem passkeyref40_Check_ok : SoundT Try.prog cd gdn 26 S_passkeyref40_Check :=
  sound_fn (E := E_passkeyref40_Check) (A := A_passkeyref40_Check) (done := [0]) (c := (Try.f26.body.getD .skip)) (S := S_passkeyref40_Check) (fn := Try.f26) hmix passkeyref40_Check_env Try.func26 rfl (by kernel_rfl) (by kernel_rfl) (done_cons rfl passkeyref40_Check_L0_ok done_nil) (by kernel_rfl) (by kernel_rfl) passkeyref40_Check_eq
def passkeyref40_SameFindings_L0b (y0 : (List (ApiFinding))) (y1 : (List (ApiFinding))) (y2 : Int) : Option (((List (ApiFinding)) × (List (ApiFinding)) × Int × Unit) ⊕ ((Bool × Unit) ⊕ (Unit))) :=
 (bif (decide (y2 < ((y0).length : Int))) then ((getI y0 y2).bind fun x1 => ((getI y1 y2).bind fun x2 => (bif (!(decide (x1.record = x2.record) && (decide (x1.err = x2.err) && true))) then (some (Sum.inr (Sum.inl (false, ()))))
 else (some (Sum.inl (y0, y1, (IntKind.wrap .i64 (y2 + (1 : Int))), ()))))))
 else (some (Sum.inr (Sum.inr ()))))
def passkeyref40_SameFindings_L0 (y : ((List (ApiFinding)) × (List (ApiFinding)) × Int × Unit)) : Option ((Bool × Unit) ⊕ (Unit)) := iter (fun (y : ((List (ApiFinding)) × (List (ApiFinding)) × Int × Unit)) => passkeyref40_SameFindings_L0b y.1 y.2.1 y.2.2.1) rounds y
def passkeyref40_SameFindings (a0 : (List (ApiFinding))) (a1 : (List (ApiFinding))) : Option ((Unit) × (Bool × Unit)) :=
 (bif (!decide (((a0).length : Int) = ((a1).length : Int))) then (some ((), (false, ())))
 else ((passkeyref40_SameFindings_L0 (a0, a1, (0 : Int), ())).bind (Sum.elim (fun (z3 : (Bool × Unit)) => (some ((), (z3.1, ())))) (fun (z4 : (Unit)) => (some ((), (true, ())))))))
def S_passkeyref40_SameFindings : FSpec T := ⟨[.f (.v (.rs 4)), .f (.v (.rs 4))], [(.v .bool)], fun x => passkeyref40_SameFindings x.1 x.2.1⟩
def E_passkeyref40_SameFindings : Env T := ⟨tab.find, cd, globs, flc, fun f ds => match f with
    | _ => none, fun f => match f with
    | _ => false⟩
def A_passkeyref40_SameFindings : Loc2 T := ⟨fun id => match id with
    | 0 => some ⟨[(0, .f (.v (.rs 4))), (1, .f (.v (.rs 4))), (5, .f (.v (.int .i64)))], [(.ret, [(4, .f (.v .bool))]), (.exit 0, [])], passkeyref40_SameFindings_L0, []⟩
    | _ => none, fun r => match r with
    | _ => none, fun r => match r with
    | _ => false⟩
theorem passkeyref40_SameFindings_L0_eq (y0 : (List (ApiFinding))) (y1 : (List (ApiFinding))) (y2 : Int) : run E_passkeyref40_SameFindings A_passkeyref40_SameFindings (loopAt 0 (Try.f25.body.getD .skip)) (layC cd [(0, .f (.v (.rs 4))), (1, .f (.v (.rs 4))), (5, .f (.v (.int .i64)))] [] (y0, y1, y2, ())) (roundK cd [(0, .f (.v (.rs 4))), (1, .f (.v (.rs 4))), (5, .f (.v (.int .i64)))] [] [(.ret, [(4, .f (.v .bool))]), (.exit 0, [])]) = passkeyref40_SameFindings_L0b y0 y1 y2 := by kernel_rfl
theorem passkeyref40_SameFindings_eq (x : tySs T S_passkeyref40_SameFindings.ps) : run E_passkeyref40_SameFindings A_passkeyref40_SameFindings (Try.f25.body.getD .skip) (enterT E_passkeyref40_SameFindings.C S_passkeyref40_SameFindings.ps x) (retK E_passkeyref40_SameFindings Try.f25.results.toList S_passkeyref40_SameFindings.ps S_passkeyref40_SameFindings.rs) = S_passkeyref40_SameFindings.fn x := by kernel_rfl
theorem passkeyref40_SameFindings_env : EnvOk Try.prog E_passkeyref40_SameFindings := envOk (E := E_passkeyref40_SameFindings) cd_ok tys fl_ok fun f ds S h => by cases h
theorem passkeyref40_SameFindings_L0_ok : LoopOk Try.prog E_passkeyref40_SameFindings Try.f25.ntmps (kqOf S_passkeyref40_SameFindings.ps 0) (loopAt 0 (Try.f25.body.getD .skip)) ⟨[(0, .f (.v (.rs 4))), (1, .f (.v (.rs 4))), (5, .f (.v (.int .i64)))], [(.ret, [(4, .f (.v .bool))]), (.exit 0, [])], passkeyref40_SameFindings_L0, []⟩ :=
  loop_ok (A := A_passkeyref40_SameFindings) (done := []) (c0 := (Try.f25.body.getD .skip)) hmix passkeyref40_SameFindings_env done_nil rounds (by kernel_rfl) (by kernel_rfl) (fun x => passkeyref40_SameFindings_L0_eq x.1 x.2.1 x.2.2.1) (fun _ => rfl)
theorem passkeyref40_SameFindings_ok : SoundT Try.prog cd gdn 25 S_passkeyref40_SameFindings :=
  sound_fn (E := E_passkeyref40_SameFindings) (A := A_passkeyref40_SameFindings) (done := [0]) (c := (Try.f25.body.getD .skip)) (S := S_passkeyref40_SameFindings) (fn := Try.f25) hmix passkeyref40_SameFindings_env Try.func25 rfl (by kernel_rfl) (by kernel_rfl) (done_cons rfl passkeyref40_SameFindings_L0_ok done_nil) (by kernel_rfl) (by kernel_rfl) passkeyref40_SameFindings_eq
def monitor_Leaves_L0b (y0 : (List (ApiRecord))) (y1 : (List (ApiFinding))) (y2 : (List (MonitorUse))) (y3 : Int) (y4 : Int) : Option (((List (ApiRecord)) × (List (ApiFinding)) × (List (MonitorUse)) × Int × Int × Unit) ⊕ ((List (ApiFinding)) × Unit)) :=
 (bif (decide (y4 < y3)) then ((getI y0 y4).bind fun x1 => (bif (!decide (x1.kind = (8 : Int))) then (some (Sum.inl (y0, y1, y2, y3, (IntKind.wrap .i64 (y4 + (1 : Int))), ())))
 else (bif (List.any y2 (keq7 (⟨x1.who, x1.iD, x1.leaf⟩ : MonitorUse))) then (bif small ((y1).length + (([(⟨y4, (37 : Int)⟩ : ApiFinding)] : List (ApiFinding)) : List (ApiFinding)).length) 16 then (let v2 : List (ApiFinding) := (y1 ++ ([(⟨y4, (37 : Int)⟩ : ApiFinding)] : List (ApiFinding)))
 (let v3 : List (MonitorUse) := (bif List.any y2 (keq7 (⟨x1.who, x1.iD, x1.leaf⟩ : MonitorUse)) then y2 else y2 ++ [(⟨x1.who, x1.iD, x1.leaf⟩ : MonitorUse)])
 (some (Sum.inl (y0, v2, v3, y3, (IntKind.wrap .i64 (y4 + (1 : Int))), ())))))
 else none)
 else (let v4 : List (MonitorUse) := (bif List.any y2 (keq7 (⟨x1.who, x1.iD, x1.leaf⟩ : MonitorUse)) then y2 else y2 ++ [(⟨x1.who, x1.iD, x1.leaf⟩ : MonitorUse)])
 (some (Sum.inl (y0, y1, v4, y3, (IntKind.wrap .i64 (y4 + (1 : Int))), ())))))))
 else (some (Sum.inr (y1, ()))))
def monitor_Leaves_L0 (y : ((List (ApiRecord)) × (List (ApiFinding)) × (List (MonitorUse)) × Int × Int × Unit)) : Option ((List (ApiFinding)) × Unit) := iter (fun (y : ((List (ApiRecord)) × (List (ApiFinding)) × (List (MonitorUse)) × Int × Int × Unit)) => monitor_Leaves_L0b y.1 y.2.1 y.2.2.1 y.2.2.2.1 y.2.2.2.2.1) rounds y
def monitor_Leaves (a0 : (List (ApiRecord))) : Option ((Unit) × ((List (ApiFinding)) × Unit)) :=
 ((monitor_Leaves_L0 (a0, [], ([] : List (MonitorUse)), ((a0).length : Int), (0 : Int), ())).bind (fun (z5 : ((List (ApiFinding)) × Unit)) => (some ((), (z5.1, ())))))
def S_monitor_Leaves : FSpec T := ⟨[.f (.v (.rs 1))], [(.own 4)], fun x => monitor_Leaves x.1⟩
def E_monitor_Leaves : Env T := ⟨tab.find, cd, globs, flc, fun f ds => match f with
    | _ => none, fun f => match f with
    | _ => false⟩
def A_monitor_Leaves : Loc2 T := ⟨fun id => match id with
    | 0 => some ⟨[(0, .f (.v (.rs 1))), (3, .f (.own 4)), (4, .mset true 7), (10, .f (.v (.int .i64))), (11, .f (.v (.int .i64)))], [(.exit 0, [(3, .f (.own 4))])], monitor_Leaves_L0, []⟩
    | _ => none, fun r => match r with
    | _ => none, fun r => match r with
    | 8 => true
    | _ => false⟩
theorem monitor_Leaves_L0_eq (y0 : (List (ApiRecord))) (y1 : (List (ApiFinding))) (y2 : (List (MonitorUse))) (y3 : Int) (y4 : Int) : run E_monitor_Leaves A_monitor_Leaves (loopAt 0 (Try.f27.body.getD .skip)) (layC cd [(0, .f (.v (.rs 1))), (3, .f (.own 4)), (4, .mset true 7), (10, .f (.v (.int .i64))), (11, .f (.v (.int .i64)))] [] (y0, y1, y2, y3, y4, ())) (roundK cd [(0, .f (.v (.rs 1))), (3, .f (.own 4)), (4, .mset true 7), (10, .f (.v (.int .i64))), (11, .f (.v (.int .i64)))] [] [(.exit 0, [(3, .f (.own 4))])]) = monitor_Leaves_L0b y0 y1 y2 y3 y4 := by kernel_rfl
theorem monitor_Leaves_eq (x : tySs T S_monitor_Leaves.ps) : run E_monitor_Leaves A_monitor_Leaves (Try.f27.body.getD .skip) (enterT E_monitor_Leaves.C S_monitor_Leaves.ps x) (retK E_monitor_Leaves Try.f27.results.toList S_monitor_Leaves.ps S_monitor_Leaves.rs) = S_monitor_Leaves.fn x := by kernel_rfl
theorem monitor_Leaves_env : EnvOk Try.prog E_monitor_Leaves := envOk (E := E_monitor_Leaves) cd_ok tys fl_ok fun f ds S h => by cases h
theorem monitor_Leaves_L0_ok : LoopOk Try.prog E_monitor_Leaves Try.f27.ntmps (kqOf S_monitor_Leaves.ps 0) (loopAt 0 (Try.f27.body.getD .skip)) ⟨[(0, .f (.v (.rs 1))), (3, .f (.own 4)), (4, .mset true 7), (10, .f (.v (.int .i64))), (11, .f (.v (.int .i64)))], [(.exit 0, [(3, .f (.own 4))])], monitor_Leaves_L0, []⟩ :=
  loop_ok (A := A_monitor_Leaves) (done := []) (c0 := (Try.f27.body.getD .skip)) hmix monitor_Leaves_env done_nil rounds (by kernel_rfl) (by kernel_rfl) (fun x => monitor_Leaves_L0_eq x.1 x.2.1 x.2.2.1 x.2.2.2.1 x.2.2.2.2.1) (fun _ => rfl)
theorem monitor_Leaves_ok : SoundT Try.prog cd gdn 27 S_monitor_Leaves :=
  sound_fn (E := E_monitor_Leaves) (A := A_monitor_Leaves) (done := [0]) (c := (Try.f27.body.getD .skip)) (S := S_monitor_Leaves) (fn := Try.f27) hmix monitor_Leaves_env Try.func27 rfl (by kernel_rfl) (by kernel_rfl) (done_cons rfl monitor_Leaves_L0_ok done_nil) (by kernel_rfl) (by kernel_rfl) monitor_Leaves_eq
def passkeyref40_again_L0b (y0 : (List (ApiRecord))) (y1 : Int) (y2 : Int) : Option (((List (ApiRecord)) × Int × Int × Unit) ⊕ ((Bool × Unit) ⊕ (Unit))) :=
 (bif (decide (y2 < y1)) then ((getI y0 y2).bind fun x1 => (bif (decide (x1.kind = (8 : Int))) then ((getI y0 y2).bind fun x2 => ((getI y0 y1).bind fun x3 => (bif (decide (x2.who = x3.who)) then ((getI y0 y2).bind fun x4 => ((getI y0 y1).bind fun x5 => (bif (decide (x4.iD = x5.iD)) then ((getI y0 y2).bind fun x6 => ((getI y0 y1).bind fun x7 => (bif (decide (x6.leaf = x7.leaf)) then (some (Sum.inr (Sum.inl (true, ()))))
 else (some (Sum.inl (y0, y1, (IntKind.wrap .i64 (y2 + (1 : Int))), ()))))))
 else (some (Sum.inl (y0, y1, (IntKind.wrap .i64 (y2 + (1 : Int))), ()))))))
 else (some (Sum.inl (y0, y1, (IntKind.wrap .i64 (y2 + (1 : Int))), ()))))))
 else (some (Sum.inl (y0, y1, (IntKind.wrap .i64 (y2 + (1 : Int))), ())))))
 else (some (Sum.inr (Sum.inr ()))))
def passkeyref40_again_L0 (y : ((List (ApiRecord)) × Int × Int × Unit)) : Option ((Bool × Unit) ⊕ (Unit)) := iter (fun (y : ((List (ApiRecord)) × Int × Int × Unit)) => passkeyref40_again_L0b y.1 y.2.1 y.2.2.1) rounds y
def passkeyref40_again (a0 : (List (ApiRecord))) (a1 : Int) : Option ((Unit) × (Bool × Unit)) :=
 ((passkeyref40_again_L0 (a0, a1, (0 : Int), ())).bind (Sum.elim (fun (z8 : (Bool × Unit)) => (some ((), (z8.1, ())))) (fun (z9 : (Unit)) => (some ((), (false, ()))))))
def S_passkeyref40_again : FSpec T := ⟨[.f (.v (.rs 1)), .f (.v (.int .i64))], [(.v .bool)], fun x => passkeyref40_again x.1 x.2.1⟩
def E_passkeyref40_again : Env T := ⟨tab.find, cd, globs, flc, fun f ds => match f with
    | _ => none, fun f => match f with
    | _ => false⟩
def A_passkeyref40_again : Loc2 T := ⟨fun id => match id with
    | 0 => some ⟨[(0, .f (.v (.rs 1))), (1, .f (.v (.int .i64))), (5, .f (.v (.int .i64)))], [(.ret, [(4, .f (.v .bool))]), (.exit 0, [])], passkeyref40_again_L0, []⟩
    | _ => none, fun r => match r with
    | _ => none, fun r => match r with
    | _ => false⟩
theorem passkeyref40_again_L0_eq (y0 : (List (ApiRecord))) (y1 : Int) (y2 : Int) : run E_passkeyref40_again A_passkeyref40_again (loopAt 0 (Try.f31.body.getD .skip)) (layC cd [(0, .f (.v (.rs 1))), (1, .f (.v (.int .i64))), (5, .f (.v (.int .i64)))] [] (y0, y1, y2, ())) (roundK cd [(0, .f (.v (.rs 1))), (1, .f (.v (.int .i64))), (5, .f (.v (.int .i64)))] [] [(.ret, [(4, .f (.v .bool))]), (.exit 0, [])]) = passkeyref40_again_L0b y0 y1 y2 := by kernel_rfl
theorem passkeyref40_again_eq (x : tySs T S_passkeyref40_again.ps) : run E_passkeyref40_again A_passkeyref40_again (Try.f31.body.getD .skip) (enterT E_passkeyref40_again.C S_passkeyref40_again.ps x) (retK E_passkeyref40_again Try.f31.results.toList S_passkeyref40_again.ps S_passkeyref40_again.rs) = S_passkeyref40_again.fn x := by kernel_rfl
theorem passkeyref40_again_env : EnvOk Try.prog E_passkeyref40_again := envOk (E := E_passkeyref40_again) cd_ok tys fl_ok fun f ds S h => by cases h
theorem passkeyref40_again_L0_ok : LoopOk Try.prog E_passkeyref40_again Try.f31.ntmps (kqOf S_passkeyref40_again.ps 0) (loopAt 0 (Try.f31.body.getD .skip)) ⟨[(0, .f (.v (.rs 1))), (1, .f (.v (.int .i64))), (5, .f (.v (.int .i64)))], [(.ret, [(4, .f (.v .bool))]), (.exit 0, [])], passkeyref40_again_L0, []⟩ :=
  loop_ok (A := A_passkeyref40_again) (done := []) (c0 := (Try.f31.body.getD .skip)) hmix passkeyref40_again_env done_nil rounds (by kernel_rfl) (by kernel_rfl) (fun x => passkeyref40_again_L0_eq x.1 x.2.1 x.2.2.1) (fun _ => rfl)
theorem passkeyref40_again_ok : SoundT Try.prog cd gdn 31 S_passkeyref40_again :=
  sound_fn (E := E_passkeyref40_again) (A := A_passkeyref40_again) (done := [0]) (c := (Try.f31.body.getD .skip)) (S := S_passkeyref40_again) (fn := Try.f31) hmix passkeyref40_again_env Try.func31 rfl (by kernel_rfl) (by kernel_rfl) (done_cons rfl passkeyref40_again_L0_ok done_nil) (by kernel_rfl) (by kernel_rfl) passkeyref40_again_eq
def passkeyref40_Leaves_L0b (y0 : (List (ApiRecord))) (y1 : (List (ApiFinding))) (y2 : Int) : Option (((List (ApiRecord)) × (List (ApiFinding)) × Int × Unit) ⊕ ((List (ApiFinding)) × Unit)) :=
 (bif (decide (y2 < ((y0).length : Int))) then ((getI y0 y2).bind fun x1 => (bif (decide (x1.kind = (8 : Int))) then ((passkeyref40_again y0 y2).bind fun r2 => (bif r2.2.1 then (bif small ((y1).length + (([(⟨y2, (37 : Int)⟩ : ApiFinding)] : List (ApiFinding)) : List (ApiFinding)).length) 16 then (let v3 : List (ApiFinding) := (y1 ++ ([(⟨y2, (37 : Int)⟩ : ApiFinding)] : List (ApiFinding)))
 (some (Sum.inl (y0, v3, (IntKind.wrap .i64 (y2 + (1 : Int))), ()))))
 else none)
 else (some (Sum.inl (y0, y1, (IntKind.wrap .i64 (y2 + (1 : Int))), ())))))
 else (some (Sum.inl (y0, y1, (IntKind.wrap .i64 (y2 + (1 : Int))), ())))))
 else (some (Sum.inr (y1, ()))))
def passkeyref40_Leaves_L0 (y : ((List (ApiRecord)) × (List (ApiFinding)) × Int × Unit)) : Option ((List (ApiFinding)) × Unit) := iter (fun (y : ((List (ApiRecord)) × (List (ApiFinding)) × Int × Unit)) => passkeyref40_Leaves_L0b y.1 y.2.1 y.2.2.1) rounds y
def passkeyref40_Leaves (a0 : (List (ApiRecord))) : Option ((Unit) × ((List (ApiFinding)) × Unit)) :=
 ((passkeyref40_Leaves_L0 (a0, [], (0 : Int), ())).bind (fun (z4 : ((List (ApiFinding)) × Unit)) => (some ((), (z4.1, ())))))
def S_passkeyref40_Leaves : FSpec T := ⟨[.f (.v (.rs 1))], [(.own 4)], fun x => passkeyref40_Leaves x.1⟩
def E_passkeyref40_Leaves : Env T := ⟨tab.find, cd, globs, flc, fun f ds => match f with
    | 31 => some S_passkeyref40_again
    | _ => none, fun f => match f with
    | 31 => true
    | _ => false⟩
def A_passkeyref40_Leaves : Loc2 T := ⟨fun id => match id with
    | 0 => some ⟨[(0, .f (.v (.rs 1))), (3, .f (.own 4)), (4, .f (.v (.int .i64)))], [(.exit 0, [(3, .f (.own 4))])], passkeyref40_Leaves_L0, []⟩
    | _ => none, fun r => match r with
    | _ => none, fun r => match r with
    | _ => false⟩
theorem passkeyref40_Leaves_L0_eq (y0 : (List (ApiRecord))) (y1 : (List (ApiFinding))) (y2 : Int) : run E_passkeyref40_Leaves A_passkeyref40_Leaves (loopAt 0 (Try.f28.body.getD .skip)) (layC cd [(0, .f (.v (.rs 1))), (3, .f (.own 4)), (4, .f (.v (.int .i64)))] [] (y0, y1, y2, ())) (roundK cd [(0, .f (.v (.rs 1))), (3, .f (.own 4)), (4, .f (.v (.int .i64)))] [] [(.exit 0, [(3, .f (.own 4))])]) = passkeyref40_Leaves_L0b y0 y1 y2 := by kernel_rfl
theorem passkeyref40_Leaves_eq (x : tySs T S_passkeyref40_Leaves.ps) : run E_passkeyref40_Leaves A_passkeyref40_Leaves (Try.f28.body.getD .skip) (enterT E_passkeyref40_Leaves.C S_passkeyref40_Leaves.ps x) (retK E_passkeyref40_Leaves Try.f28.results.toList S_passkeyref40_Leaves.ps S_passkeyref40_Leaves.rs) = S_passkeyref40_Leaves.fn x := by kernel_rfl
theorem passkeyref40_Leaves_env : EnvOk Try.prog E_passkeyref40_Leaves := envOk (E := E_passkeyref40_Leaves) cd_ok tys fl_ok fun f ds S h => by
    dsimp only [E_passkeyref40_Leaves] at h
    split at h
    · cases h; exact passkeyref40_again_ok
    · cases h
theorem passkeyref40_Leaves_L0_ok : LoopOk Try.prog E_passkeyref40_Leaves Try.f28.ntmps (kqOf S_passkeyref40_Leaves.ps 0) (loopAt 0 (Try.f28.body.getD .skip)) ⟨[(0, .f (.v (.rs 1))), (3, .f (.own 4)), (4, .f (.v (.int .i64)))], [(.exit 0, [(3, .f (.own 4))])], passkeyref40_Leaves_L0, []⟩ :=
  loop_ok (A := A_passkeyref40_Leaves) (done := []) (c0 := (Try.f28.body.getD .skip)) hmix passkeyref40_Leaves_env done_nil rounds (by kernel_rfl) (by kernel_rfl) (fun x => passkeyref40_Leaves_L0_eq x.1 x.2.1 x.2.2.1) (fun _ => rfl)
theorem passkeyref40_Leaves_ok : SoundT Try.prog cd gdn 28 S_passkeyref40_Leaves :=
  sound_fn (E := E_passkeyref40_Leaves) (A := A_passkeyref40_Leaves) (done := [0]) (c := (Try.f28.body.getD .skip)) (S := S_passkeyref40_Leaves) (fn := Try.f28) hmix passkeyref40_Leaves_env Try.func28 rfl (by kernel_rfl) (by kernel_rfl) (done_cons rfl passkeyref40_Leaves_L0_ok done_nil) (by kernel_rfl) (by kernel_rfl) passkeyref40_Leaves_eq
def passkeylaw41_same_L0b (y0 : (List (ApiRecord))) (y1 : Int) : Option (((List (ApiRecord)) × Int × Unit) ⊕ ((Bool × Unit) ⊕ ((List (ApiRecord)) × Unit))) :=
 (bif (decide (y1 < ((y0).length : Int))) then ((monitor_Explain y0 y1).bind fun r1 => ((passkeyref40_Explain y0 y1).bind fun r2 => (let v3 : Bool := (!(decide (r1.2.1.issued = r2.2.1.issued) && (decide (r1.2.1.begun = r2.2.1.begun) && (decide (r1.2.1.signed = r2.2.1.signed) && (decide (r1.2.1.gesture = r2.2.1.gesture) && true)))))
 (bif v3 then (some (Sum.inr (Sum.inl (false, ()))))
 else (bif (!decide (r1.2.2.1 = r2.2.2.1)) then (some (Sum.inr (Sum.inl (false, ()))))
 else (some (Sum.inl (y0, (IntKind.wrap .i64 (y1 + (1 : Int))), ()))))))))
 else (some (Sum.inr (Sum.inr (y0, ())))))
def passkeylaw41_same_L0 (y : ((List (ApiRecord)) × Int × Unit)) : Option ((Bool × Unit) ⊕ ((List (ApiRecord)) × Unit)) := iter (fun (y : ((List (ApiRecord)) × Int × Unit)) => passkeylaw41_same_L0b y.1 y.2.1) rounds y
def passkeylaw41_same_L2b (y0 : (List (ApiRecord))) (y1 : (List (List UInt8))) (y2 : (List (List UInt8))) (y3 : Int) : Option (((List (ApiRecord)) × (List (List UInt8)) × (List (List UInt8)) × Int × Unit) ⊕ ((Bool × Unit) ⊕ ((List (ApiRecord)) × Unit))) :=
 (bif (decide (y3 < ((y1).length : Int))) then (bif (decide ((0 : Int) ≤ y3) && decide (y3 < ((y1).length : Int))) then (((y1)[(y3).toNat]?).bind fun x8 => (bif (decide ((0 : Int) ≤ y3) && decide (y3 < ((y2).length : Int))) then (((y2)[(y3).toNat]?).bind fun x9 => (bif (!decide (x8 = x9)) then (some (Sum.inr (Sum.inl (false, ()))))
 else (some (Sum.inl (y0, y1, y2, (IntKind.wrap .i64 (y3 + (1 : Int))), ())))))
 else none))
 else none)
 else (some (Sum.inr (Sum.inr (y0, ())))))
def passkeylaw41_same_L2 (y : ((List (ApiRecord)) × (List (List UInt8)) × (List (List UInt8)) × Int × Unit)) : Option ((Bool × Unit) ⊕ ((List (ApiRecord)) × Unit)) := iter (fun (y : ((List (ApiRecord)) × (List (List UInt8)) × (List (List UInt8)) × Int × Unit)) => passkeylaw41_same_L2b y.1 y.2.1 y.2.2.1 y.2.2.2.1) rounds y
def passkeylaw41_same (a0 : (List (ApiRecord))) : Option ((Unit) × (Bool × Unit)) :=
 ((passkeylaw41_same_L0 (a0, (0 : Int), ())).bind (Sum.elim (fun (z4 : (Bool × Unit)) => (some ((), (z4.1, ())))) (fun (z5 : ((List (ApiRecord)) × Unit)) => ((monitor_Copies z5.1).bind fun r6 => ((passkeyref40_Copies z5.1).bind fun r7 => (bif (!decide (((r6.2.1).length : Int) = ((r7.2.1).length : Int))) then (some ((), (false, ())))
 else ((passkeylaw41_same_L2 (z5.1, r6.2.1, r7.2.1, (0 : Int), ())).bind (Sum.elim (fun (z10 : (Bool × Unit)) => (some ((), (z10.1, ())))) (fun (z11 : ((List (ApiRecord)) × Unit)) => ((monitor_Check z11.1).bind fun r12 => ((passkeyref40_Check z11.1).bind fun r13 => ((passkeyref40_SameFindings r12.2.1 r13.2.1).bind fun r14 => (bif r14.2.1 then ((monitor_Leaves z11.1).bind fun r15 => ((passkeyref40_Leaves z11.1).bind fun r16 => ((passkeyref40_SameFindings r15.2.1 r16.2.1).bind fun r17 => (some ((), (r17.2.1, ()))))))
 else (some ((), (false, ()))))))))))))))))
def S_passkeylaw41_same : FSpec T := ⟨[.f (.v (.rs 1))], [(.v .bool)], fun x => passkeylaw41_same x.1⟩
def E_passkeylaw41_same : Env T := ⟨tab.find, cd, globs, flc, fun f ds => match f with
    | 9 => some S_monitor_Explain
    | 10 => some S_passkeyref40_Explain
    | 12 => some S_monitor_Check
    | 23 => some S_monitor_Copies
    | 24 => some S_passkeyref40_Copies
    | 25 => some S_passkeyref40_SameFindings
    | 26 => some S_passkeyref40_Check
    | 27 => some S_monitor_Leaves
    | 28 => some S_passkeyref40_Leaves
    | _ => none, fun f => match f with
    | 9 => true
    | 10 => true
    | 25 => true
    | _ => false⟩
def A_passkeylaw41_same : Loc2 T := ⟨fun id => match id with
    | 0 => some ⟨[(0, .f (.v (.rs 1))), (3, .f (.v (.int .i64)))], [(.ret, [(2, .f (.v .bool))]), (.exit 0, [(0, .f (.v (.rs 1)))])], passkeylaw41_same_L0, []⟩
    | 2 => some ⟨[(0, .f (.v (.rs 1))), (8, .f (.own 8)), (9, .f (.own 8)), (10, .f (.v (.int .i64)))], [(.ret, [(2, .f (.v .bool))]), (.exit 2, [(0, .f (.v (.rs 1)))])], passkeylaw41_same_L2, []⟩
    | _ => none, fun r => match r with
    | _ => none, fun r => match r with
    | _ => false⟩
theorem passkeylaw41_same_L0_eq (y0 : (List (ApiRecord))) (y1 : Int) : run E_passkeylaw41_same A_passkeylaw41_same (loopAt 0 (Try.f11.body.getD .skip)) (layC cd [(0, .f (.v (.rs 1))), (3, .f (.v (.int .i64)))] [] (y0, y1, ())) (roundK cd [(0, .f (.v (.rs 1))), (3, .f (.v (.int .i64)))] [] [(.ret, [(2, .f (.v .bool))]), (.exit 0, [(0, .f (.v (.rs 1)))])]) = passkeylaw41_same_L0b y0 y1 := by kernel_rfl
theorem passkeylaw41_same_L2_eq (y0 : (List (ApiRecord))) (y1 : (List (List UInt8))) (y2 : (List (List UInt8))) (y3 : Int) : run E_passkeylaw41_same A_passkeylaw41_same (loopAt 2 (Try.f11.body.getD .skip)) (layC cd [(0, .f (.v (.rs 1))), (8, .f (.own 8)), (9, .f (.own 8)), (10, .f (.v (.int .i64)))] [] (y0, y1, y2, y3, ())) (roundK cd [(0, .f (.v (.rs 1))), (8, .f (.own 8)), (9, .f (.own 8)), (10, .f (.v (.int .i64)))] [] [(.ret, [(2, .f (.v .bool))]), (.exit 2, [(0, .f (.v (.rs 1)))])]) = passkeylaw41_same_L2b y0 y1 y2 y3 := by kernel_rfl
theorem passkeylaw41_same_eq (x : tySs T S_passkeylaw41_same.ps) : run E_passkeylaw41_same A_passkeylaw41_same (Try.f11.body.getD .skip) (enterT E_passkeylaw41_same.C S_passkeylaw41_same.ps x) (retK E_passkeylaw41_same Try.f11.results.toList S_passkeylaw41_same.ps S_passkeylaw41_same.rs) = S_passkeylaw41_same.fn x := by kernel_rfl
theorem passkeylaw41_same_env : EnvOk Try.prog E_passkeylaw41_same := envOk (E := E_passkeylaw41_same) cd_ok tys fl_ok fun f ds S h => by
    dsimp only [E_passkeylaw41_same] at h
    split at h
    · cases h; exact monitor_Explain_ok
    · cases h; exact passkeyref40_Explain_ok
    · cases h; exact monitor_Check_ok
    · cases h; exact monitor_Copies_ok
    · cases h; exact passkeyref40_Copies_ok
    · cases h; exact passkeyref40_SameFindings_ok
    · cases h; exact passkeyref40_Check_ok
    · cases h; exact monitor_Leaves_ok
    · cases h; exact passkeyref40_Leaves_ok
    · cases h
theorem passkeylaw41_same_L0_ok : LoopOk Try.prog E_passkeylaw41_same Try.f11.ntmps (kqOf S_passkeylaw41_same.ps 0) (loopAt 0 (Try.f11.body.getD .skip)) ⟨[(0, .f (.v (.rs 1))), (3, .f (.v (.int .i64)))], [(.ret, [(2, .f (.v .bool))]), (.exit 0, [(0, .f (.v (.rs 1)))])], passkeylaw41_same_L0, []⟩ :=
  loop_ok (A := A_passkeylaw41_same) (done := []) (c0 := (Try.f11.body.getD .skip)) hmix passkeylaw41_same_env done_nil rounds (by kernel_rfl) (by kernel_rfl) (fun x => passkeylaw41_same_L0_eq x.1 x.2.1) (fun _ => rfl)
theorem passkeylaw41_same_L2_ok : LoopOk Try.prog E_passkeylaw41_same Try.f11.ntmps (kqOf S_passkeylaw41_same.ps 0) (loopAt 2 (Try.f11.body.getD .skip)) ⟨[(0, .f (.v (.rs 1))), (8, .f (.own 8)), (9, .f (.own 8)), (10, .f (.v (.int .i64)))], [(.ret, [(2, .f (.v .bool))]), (.exit 2, [(0, .f (.v (.rs 1)))])], passkeylaw41_same_L2, []⟩ :=
  loop_ok (A := A_passkeylaw41_same) (done := [0]) (c0 := (Try.f11.body.getD .skip)) hmix passkeylaw41_same_env (done_cons rfl passkeylaw41_same_L0_ok done_nil) rounds (by kernel_rfl) (by kernel_rfl) (fun x => passkeylaw41_same_L2_eq x.1 x.2.1 x.2.2.1 x.2.2.2.1) (fun _ => rfl)
theorem passkeylaw41_same_ok : SoundT Try.prog cd gdn 11 S_passkeylaw41_same :=
  sound_fn (E := E_passkeylaw41_same) (A := A_passkeylaw41_same) (done := [0, 2]) (c := (Try.f11.body.getD .skip)) (S := S_passkeylaw41_same) (fn := Try.f11) hmix passkeylaw41_same_env Try.func11 rfl (by kernel_rfl) (by kernel_rfl) (done_cons rfl passkeylaw41_same_L0_ok (done_cons rfl passkeylaw41_same_L2_ok done_nil)) (by kernel_rfl) (by kernel_rfl) passkeylaw41_same_eq
def passkeylaw41_MonitorSays_L0b (y0 : (List (ApiRecord))) (y1 : (List (Int))) (y2 : Int) (y3 : Int) : Option (((List (ApiRecord)) × (List (Int)) × Int × Int × Unit) ⊕ ((Bool × Unit) ⊕ ((List (ApiRecord)) × (List (Int)) × Int × Unit))) :=
 (bif (decide (y3 < ((y0).length : Int))) then ((getI y0 y3).bind fun x2 => (bif (decide ((100 : Int) < ((x2.text).length : Int))) then ((passkeylaw41_awake).bind fun r3 => (some (Sum.inr (Sum.inl (r3.2.1, ())))))
 else ((getI y0 y3).bind fun x4 => (bif (decide ((100 : Int) < ((x4.challenge).length : Int))) then ((passkeylaw41_awake).bind fun r5 => (some (Sum.inr (Sum.inl (r5.2.1, ())))))
 else ((getI y0 y3).bind fun x6 => (bif (decide ((200 : Int) < ((x6.iD).length : Int))) then ((passkeylaw41_awake).bind fun r7 => (some (Sum.inr (Sum.inl (r7.2.1, ())))))
 else (some (Sum.inl (y0, y1, y2, (IntKind.wrap .i64 (y3 + (1 : Int))), ())))))))))
 else (some (Sum.inr (Sum.inr (y0, y1, y2, ())))))
def passkeylaw41_MonitorSays_L0 (y : ((List (ApiRecord)) × (List (Int)) × Int × Int × Unit)) : Option ((Bool × Unit) ⊕ ((List (ApiRecord)) × (List (Int)) × Int × Unit)) := iter (fun (y : ((List (ApiRecord)) × (List (Int)) × Int × Int × Unit)) => passkeylaw41_MonitorSays_L0b y.1 y.2.1 y.2.2.1 y.2.2.2.1) rounds y
def passkeylaw41_MonitorSays_L2b (y0 : (List (ApiRecord))) (y1 : Int) (y2 : (PasskeycastDeck × Unit)) (y3 : (List (ApiRecord))) (y4 : Int) : Option (((List (ApiRecord)) × Int × (PasskeycastDeck × Unit) × (List (ApiRecord)) × Int × Unit) ⊕ ((List (ApiRecord)) × Int × (PasskeycastDeck × Unit) × (List (ApiRecord)) × Unit)) :=
 (bif (decide ((0 : Int) < y4)) then ((passkeycast_Deck_Record (y2.1, ())).bind fun r12 => (bif small ((y3).length + (([r12.2.1] : List (ApiRecord)) : List (ApiRecord)).length) 152 then (some (Sum.inl (y0, y1, (r12.1.1.1, ()), (y3 ++ ([r12.2.1] : List (ApiRecord))), (IntKind.wrap .i64 (y4 - (1 : Int))), ())))
 else none))
 else (some (Sum.inr (y0, y1, (y2.1, ()), y3, ()))))
def passkeylaw41_MonitorSays_L2 (y : ((List (ApiRecord)) × Int × (PasskeycastDeck × Unit) × (List (ApiRecord)) × Int × Unit)) : Option ((List (ApiRecord)) × Int × (PasskeycastDeck × Unit) × (List (ApiRecord)) × Unit) := iter (fun (y : ((List (ApiRecord)) × Int × (PasskeycastDeck × Unit) × (List (ApiRecord)) × Int × Unit)) => passkeylaw41_MonitorSays_L2b y.1 y.2.1 y.2.2.1 y.2.2.2.1 y.2.2.2.2.1) rounds y
def passkeylaw41_MonitorSays_L4b (y0 : (List (ApiRecord))) (y1 : Int) (y2 : (PasskeycastDeck × Unit)) (y3 : (List (ApiRecord))) (y4 : (List (ApiRecord))) (y5 : Int) : Option (((List (ApiRecord)) × Int × (PasskeycastDeck × Unit) × (List (ApiRecord)) × (List (ApiRecord)) × Int × Unit) ⊕ ((List (ApiRecord)) × Int × (List (ApiRecord)) × (List (ApiRecord)) × Unit)) :=
 (bif (decide ((0 : Int) < y5)) then ((passkeycast_Deck_Next (y2.1, ()) ((y4).length : Int)).bind fun r17 => ((passkeycast_Deck_Next (r17.1.1.1, ()) (6 : Int)).bind fun r18 => (bif (decide (r18.2.1 = (0 : Int))) then ((passkeycast_Deck_Record (r18.1.1.1, ())).bind fun r19 => (bif (decide ((0 : Int) ≤ r17.2.1) && decide (r17.2.1 < ((y4).length : Int))) then (((y4)[(r17.2.1).toNat]?).bind fun x20 => (some (Sum.inl (y0, y1, (r19.1.1.1, ()), y3, (List.set y4 (r17.2.1).toNat r19.2.1), (IntKind.wrap .i64 (y5 - (1 : Int))), ()))))
 else none))
 else (bif (decide (r18.2.1 = (1 : Int))) then ((passkeycast_Deck_Next (r18.1.1.1, ()) ((y4).length : Int)).bind fun r21 => (bif (decide ((0 : Int) ≤ r21.2.1) && decide (r21.2.1 < ((y4).length : Int))) then (((y4)[(r21.2.1).toNat]?).bind fun x22 => (bif (decide ((0 : Int) ≤ r17.2.1) && decide (r17.2.1 < ((y4).length : Int))) then (((y4)[(r17.2.1).toNat]?).bind fun x23 => (bif (decide ((0 : Int) ≤ r17.2.1) && decide (r17.2.1 < ((y4).length : Int))) then (((y4)[(r17.2.1).toNat]?).bind fun x24 => (bif (decide ((0 : Int) ≤ r21.2.1) && decide (r21.2.1 < ((y4).length : Int))) then ((((List.set y4 (r17.2.1).toNat x22))[(r21.2.1).toNat]?).bind fun x25 => (let v26 : List (ApiRecord) := (List.set (List.set y4 (r17.2.1).toNat x22) (r21.2.1).toNat x23)
 (some (Sum.inl (y0, y1, (r21.1.1.1, ()), y3, v26, (IntKind.wrap .i64 (y5 - (1 : Int))), ())))))
 else none))
 else none))
 else none))
 else none))
 else (bif (decide (r18.2.1 = (2 : Int))) then (bif (decide ((0 : Int) ≤ r17.2.1) && decide (r17.2.1 ≤ ((y4).length : Int))) then (bif decide ((r17.2.1).toNat ≤ (y4).length) then (bif small (((List.take (r17.2.1).toNat y4)).length) 152 then (bif (decide ((0 : Int) ≤ (IntKind.wrap .i64 (r17.2.1 + (1 : Int)))) && decide ((IntKind.wrap .i64 (r17.2.1 + (1 : Int))) ≤ ((y4).length : Int))) then (bif decide (((y4).length - ((IntKind.wrap .i64 (r17.2.1 + (1 : Int)))).toNat) + ((IntKind.wrap .i64 (r17.2.1 + (1 : Int)))).toNat ≤ (y4).length) then (bif small (((List.take (r17.2.1).toNat y4)).length + ((List.take ((y4).length - ((IntKind.wrap .i64 (r17.2.1 + (1 : Int)))).toNat) (List.drop ((IntKind.wrap .i64 (r17.2.1 + (1 : Int)))).toNat y4)) : List (ApiRecord)).length) 152 then (let v27 : List (ApiRecord) := ((List.take (r17.2.1).toNat y4) ++ (List.take ((y4).length - ((IntKind.wrap .i64 (r17.2.1 + (1 : Int)))).toNat) (List.drop ((IntKind.wrap .i64 (r17.2.1 + (1 : Int)))).toNat y4)))
 (some (Sum.inl (y0, y1, (r18.1.1.1, ()), y3, v27, (IntKind.wrap .i64 (y5 - (1 : Int))), ()))))
 else none)
 else none)
 else none)
 else none)
 else none)
 else none)
 else (bif (decide (r18.2.1 = (3 : Int))) then ((passkeycast_Deck_Next (r18.1.1.1, ()) (2 : Int)).bind fun r28 => ((passkeycast_Deck_Next (r28.1.1.1, ()) (5 : Int)).bind fun r29 => (bif (decide ((0 : Int) ≤ r17.2.1) && decide (r17.2.1 < ((y4).length : Int))) then (((y4)[(r17.2.1).toNat]?).bind fun x30 => (let v31 : List (ApiRecord) := (List.set y4 (r17.2.1).toNat (⟨x30.kind, x30.time, r28.2.1, x30.number, x30.kind2, x30.text, x30.challenge, x30.iD, x30.word, x30.hash, x30.leaf, x30.flags, x30.since, x30.err⟩ : ApiRecord))
 (bif (decide ((0 : Int) ≤ r17.2.1) && decide (r17.2.1 < ((y4).length : Int))) then (((v31)[(r17.2.1).toNat]?).bind fun x32 => (let v33 : List (ApiRecord) := (List.set v31 (r17.2.1).toNat (⟨x32.kind, x32.time, x32.who, r29.2.1, x32.kind2, x32.text, x32.challenge, x32.iD, x32.word, x32.hash, x32.leaf, x32.flags, x32.since, x32.err⟩ : ApiRecord))
 (some (Sum.inl (y0, y1, (r29.1.1.1, ()), y3, v33, (IntKind.wrap .i64 (y5 - (1 : Int))), ())))))
 else none)))
 else none)))
 else (bif (decide (r18.2.1 = (4 : Int))) then ((passkeycast_Deck_Next (r18.1.1.1, ()) (2 : Int)).bind fun r34 => ((passkeycast_Deck_Next (r34.1.1.1, ()) (2 : Int)).bind fun r35 => ((passkeycast_Deck_Next (r35.1.1.1, ()) (6 : Int)).bind fun r36 => (bif (decide ((0 : Int) ≤ r17.2.1) && decide (r17.2.1 < ((y4).length : Int))) then (((y4)[(r17.2.1).toNat]?).bind fun x37 => (let v38 : List (ApiRecord) := (List.set y4 (r17.2.1).toNat (⟨x37.kind, x37.time, x37.who, x37.number, x37.kind2, x37.text, x37.challenge, x37.iD, x37.word, (BitVec.ofInt 64 (IntKind.wrap .i64 ((8 : Int) + r34.2.1))), x37.leaf, x37.flags, x37.since, x37.err⟩ : ApiRecord))
 (bif (decide ((0 : Int) ≤ r17.2.1) && decide (r17.2.1 < ((y4).length : Int))) then (((v38)[(r17.2.1).toNat]?).bind fun x39 => (let v40 : List (ApiRecord) := (List.set v38 (r17.2.1).toNat (⟨x39.kind, x39.time, x39.who, x39.number, x39.kind2, x39.text, x39.challenge, x39.iD, x39.word, x39.hash, (IntKind.wrap .i64 ((3 : Int) - r35.2.1)), x39.flags, x39.since, x39.err⟩ : ApiRecord))
 (bif (decide ((0 : Int) ≤ r17.2.1) && decide (r17.2.1 < ((y4).length : Int))) then (((v40)[(r17.2.1).toNat]?).bind fun x41 => (let v42 : List (ApiRecord) := (List.set v40 (r17.2.1).toNat (⟨x41.kind, x41.time, x41.who, x41.number, x41.kind2, x41.text, x41.challenge, x41.iD, x41.word, x41.hash, x41.leaf, r36.2.1, x41.since, x41.err⟩ : ApiRecord))
 (some (Sum.inl (y0, y1, (r36.1.1.1, ()), y3, v42, (IntKind.wrap .i64 (y5 - (1 : Int))), ())))))
 else none)))
 else none)))
 else none))))
 else (bif (decide (r18.2.1 = (5 : Int))) then ((passkeycast_Deck_Next (r18.1.1.1, ()) (3 : Int)).bind fun r43 => ((passkeycast_Deck_Next (r43.1.1.1, ()) (3 : Int)).bind fun r44 => ((passkeycast_Deck_Next (r44.1.1.1, ()) (2 : Int)).bind fun r45 => (bif (decide ((0 : Int) ≤ r17.2.1) && decide (r17.2.1 < ((y4).length : Int))) then (((y4)[(r17.2.1).toNat]?).bind fun x46 => (let v47 : List (ApiRecord) := (List.set y4 (r17.2.1).toNat (⟨x46.kind, r43.2.1, x46.who, x46.number, x46.kind2, x46.text, x46.challenge, x46.iD, x46.word, x46.hash, x46.leaf, x46.flags, x46.since, x46.err⟩ : ApiRecord))
 (bif (decide ((0 : Int) ≤ r17.2.1) && decide (r17.2.1 < ((y4).length : Int))) then (((v47)[(r17.2.1).toNat]?).bind fun x48 => (let v49 : List (ApiRecord) := (List.set v47 (r17.2.1).toNat (⟨x48.kind, x48.time, x48.who, x48.number, x48.kind2, x48.text, x48.challenge, x48.iD, x48.word, x48.hash, x48.leaf, x48.flags, r44.2.1, x48.err⟩ : ApiRecord))
 (bif (decide ((0 : Int) ≤ r17.2.1) && decide (r17.2.1 < ((y4).length : Int))) then (((v49)[(r17.2.1).toNat]?).bind fun x50 => (let v51 : List (ApiRecord) := (List.set v49 (r17.2.1).toNat (⟨x50.kind, x50.time, x50.who, x50.number, (IntKind.wrap .i64 ((1 : Int) + r45.2.1)), x50.text, x50.challenge, x50.iD, x50.word, x50.hash, x50.leaf, x50.flags, x50.since, x50.err⟩ : ApiRecord))
 (some (Sum.inl (y0, y1, (r45.1.1.1, ()), y3, v51, (IntKind.wrap .i64 (y5 - (1 : Int))), ())))))
 else none)))
 else none)))
 else none))))
 else (some (Sum.inl (y0, y1, (r18.1.1.1, ()), y3, y4, (IntKind.wrap .i64 (y5 - (1 : Int))), ())))))))))))
 else (some (Sum.inr (y0, y1, y3, y4, ()))))
def passkeylaw41_MonitorSays_L4 (y : ((List (ApiRecord)) × Int × (PasskeycastDeck × Unit) × (List (ApiRecord)) × (List (ApiRecord)) × Int × Unit)) : Option ((List (ApiRecord)) × Int × (List (ApiRecord)) × (List (ApiRecord)) × Unit) := iter (fun (y : ((List (ApiRecord)) × Int × (PasskeycastDeck × Unit) × (List (ApiRecord)) × (List (ApiRecord)) × Int × Unit)) => passkeylaw41_MonitorSays_L4b y.1 y.2.1 y.2.2.1 y.2.2.2.1 y.2.2.2.2.1 y.2.2.2.2.2.1) rounds y
def passkeylaw41_MonitorSays (a0 : (List (ApiRecord))) (a1 : (List (Int))) (a2 : Int) : Option ((Unit) × (Bool × Unit)) :=
 (bif (decide ((30 : Int) < ((a0).length : Int))) then ((passkeylaw41_awake).bind fun r1 => (some ((), (r1.2.1, ()))))
 else ((passkeylaw41_MonitorSays_L0 (a0, a1, a2, (0 : Int), ())).bind (Sum.elim (fun (z8 : (Bool × Unit)) => (some ((), (z8.1, ())))) (fun (z9 : ((List (ApiRecord)) × (List (Int)) × Int × Unit)) => ((passkeycast_New z9.2.1).bind fun r10 => ((passkeycast_Deck_Next (r10.2.1, ()) (30 : Int)).bind fun r11 => ((passkeylaw41_MonitorSays_L2 (z9.1, z9.2.2.1, (r11.1.1.1, ()), [], r11.2.1, ())).bind (fun (z13 : ((List (ApiRecord)) × Int × (PasskeycastDeck × Unit) × (List (ApiRecord)) × Unit)) => ((passkeylaw41_story).bind fun r14 => ((passkeylaw41_story).bind fun r15 => (bif small ((r14.2.1).length + (r15.2.1 : List (ApiRecord)).length) 152 then ((passkeycast_Deck_Next (z13.2.2.1.1, ()) (4 : Int)).bind fun r16 => ((passkeylaw41_MonitorSays_L4 (z13.1, z13.2.1, (r16.1.1.1, ()), z13.2.2.2.1, (r14.2.1 ++ r15.2.1), r16.2.1, ())).bind (fun (z52 : ((List (ApiRecord)) × Int × (List (ApiRecord)) × (List (ApiRecord)) × Unit)) => ((monitor_Explain z52.1 z52.2.1).bind fun r53 => ((passkeyref40_Explain z52.1 z52.2.1).bind fun r54 => (let v55 : Bool := (decide (r53.2.1.issued = r54.2.1.issued) && (decide (r53.2.1.begun = r54.2.1.begun) && (decide (r53.2.1.signed = r54.2.1.signed) && (decide (r53.2.1.gesture = r54.2.1.gesture) && true))))
 (bif v55 then (bif (decide (r53.2.2.1 = r54.2.2.1)) then ((passkeylaw41_same z52.1).bind fun r56 => (bif r56.2.1 then ((passkeylaw41_same z52.2.2.1).bind fun r57 => (bif r57.2.1 then ((passkeylaw41_same z52.2.2.2.1).bind fun r58 => (bif r58.2.1 then (bif small ((z52.2.2.1).length) 152 then (bif small ((z52.2.2.1).length + (z52.2.2.2.1 : List (ApiRecord)).length) 152 then ((passkeylaw41_same (z52.2.2.1 ++ z52.2.2.2.1)).bind fun r59 => (bif r59.2.1 then ((passkeylaw41_awake).bind fun r60 => (some ((), (r60.2.1, ()))))
 else (some ((), (false, ())))))
 else none)
 else none)
 else (some ((), (false, ())))))
 else (some ((), (false, ())))))
 else (some ((), (false, ())))))
 else (some ((), (false, ()))))
 else (some ((), (false, ()))))))))))
 else none)))))))))))
def S_passkeylaw41_MonitorSays : FSpec T := ⟨[.f (.v (.rs 1)), .f (.v (.rs 2)), .f (.v (.int .i64))], [(.v .bool)], fun x => passkeylaw41_MonitorSays x.1 x.2.1 x.2.2.1⟩
def E_passkeylaw41_MonitorSays : Env T := ⟨tab.find, cd, globs, flc, fun f ds => match f with
    | 4 => some S_passkeylaw41_awake
    | 5 => some S_passkeycast_New
    | 6 => some S_passkeycast_Deck_Next
    | 7 => some S_passkeycast_Deck_Record
    | 8 => some S_passkeylaw41_story
    | 9 => some S_monitor_Explain
    | 10 => some S_passkeyref40_Explain
    | 11 => some S_passkeylaw41_same
    | _ => none, fun f => match f with
    | 4 => true
    | 9 => true
    | 10 => true
    | 11 => true
    | _ => false⟩
def A_passkeylaw41_MonitorSays : Loc2 T := ⟨fun id => match id with
    | 0 => some ⟨[(0, .f (.v (.rs 1))), (1, .f (.v (.rs 2))), (2, .f (.v (.int .i64))), (7, .f (.v (.int .i64)))], [(.ret, [(6, .f (.v .bool))]), (.exit 0, [(0, .f (.v (.rs 1))), (1, .f (.v (.rs 2))), (2, .f (.v (.int .i64)))])], passkeylaw41_MonitorSays_L0, []⟩
    | 2 => some ⟨[(0, .f (.v (.rs 1))), (2, .f (.v (.int .i64))), (8, .ptr [(.v (.agg 5))]), (9, .f (.own 1)), (10, .f (.v (.int .i64)))], [(.exit 2, [(0, .f (.v (.rs 1))), (2, .f (.v (.int .i64))), (8, .ptr [(.v (.agg 5))]), (9, .f (.own 1))])], passkeylaw41_MonitorSays_L2, []⟩
    | 4 => some ⟨[(0, .f (.v (.rs 1))), (2, .f (.v (.int .i64))), (8, .ptr [(.v (.agg 5))]), (9, .f (.own 1)), (11, .f (.own 1)), (12, .f (.v (.int .i64)))], [(.exit 4, [(0, .f (.v (.rs 1))), (2, .f (.v (.int .i64))), (9, .f (.own 1)), (11, .f (.own 1))])], passkeylaw41_MonitorSays_L4, []⟩
    | _ => none, fun r => match r with
    | _ => none, fun r => match r with
    | _ => false⟩
theorem passkeylaw41_MonitorSays_L0_eq (y0 : (List (ApiRecord))) (y1 : (List (Int))) (y2 : Int) (y3 : Int) : run E_passkeylaw41_MonitorSays A_passkeylaw41_MonitorSays (loopAt 0 (Try.f3.body.getD .skip)) (layC cd [(0, .f (.v (.rs 1))), (1, .f (.v (.rs 2))), (2, .f (.v (.int .i64))), (7, .f (.v (.int .i64)))] [] (y0, y1, y2, y3, ())) (roundK cd [(0, .f (.v (.rs 1))), (1, .f (.v (.rs 2))), (2, .f (.v (.int .i64))), (7, .f (.v (.int .i64)))] [] [(.ret, [(6, .f (.v .bool))]), (.exit 0, [(0, .f (.v (.rs 1))), (1, .f (.v (.rs 2))), (2, .f (.v (.int .i64)))])]) = passkeylaw41_MonitorSays_L0b y0 y1 y2 y3 := by kernel_rfl
theorem passkeylaw41_MonitorSays_L2_eq (y0 : (List (ApiRecord))) (y1 : Int) (y2 : (PasskeycastDeck × Unit)) (y3 : (List (ApiRecord))) (y4 : Int) : run E_passkeylaw41_MonitorSays A_passkeylaw41_MonitorSays (loopAt 2 (Try.f3.body.getD .skip)) (layC cd [(0, .f (.v (.rs 1))), (2, .f (.v (.int .i64))), (8, .ptr [(.v (.agg 5))]), (9, .f (.own 1)), (10, .f (.v (.int .i64)))] [] (y0, y1, y2, y3, y4, ())) (roundK cd [(0, .f (.v (.rs 1))), (2, .f (.v (.int .i64))), (8, .ptr [(.v (.agg 5))]), (9, .f (.own 1)), (10, .f (.v (.int .i64)))] [] [(.exit 2, [(0, .f (.v (.rs 1))), (2, .f (.v (.int .i64))), (8, .ptr [(.v (.agg 5))]), (9, .f (.own 1))])]) = passkeylaw41_MonitorSays_L2b y0 y1 y2 y3 y4 := by kernel_rfl
theorem passkeylaw41_MonitorSays_L4_eq (y0 : (List (ApiRecord))) (y1 : Int) (y2 : (PasskeycastDeck × Unit)) (y3 : (List (ApiRecord))) (y4 : (List (ApiRecord))) (y5 : Int) : run E_passkeylaw41_MonitorSays A_passkeylaw41_MonitorSays (loopAt 4 (Try.f3.body.getD .skip)) (layC cd [(0, .f (.v (.rs 1))), (2, .f (.v (.int .i64))), (8, .ptr [(.v (.agg 5))]), (9, .f (.own 1)), (11, .f (.own 1)), (12, .f (.v (.int .i64)))] [] (y0, y1, y2, y3, y4, y5, ())) (roundK cd [(0, .f (.v (.rs 1))), (2, .f (.v (.int .i64))), (8, .ptr [(.v (.agg 5))]), (9, .f (.own 1)), (11, .f (.own 1)), (12, .f (.v (.int .i64)))] [] [(.exit 4, [(0, .f (.v (.rs 1))), (2, .f (.v (.int .i64))), (9, .f (.own 1)), (11, .f (.own 1))])]) = passkeylaw41_MonitorSays_L4b y0 y1 y2 y3 y4 y5 := by kernel_rfl
theorem passkeylaw41_MonitorSays_eq (x : tySs T S_passkeylaw41_MonitorSays.ps) : run E_passkeylaw41_MonitorSays A_passkeylaw41_MonitorSays (Try.f3.body.getD .skip) (enterT E_passkeylaw41_MonitorSays.C S_passkeylaw41_MonitorSays.ps x) (retK E_passkeylaw41_MonitorSays Try.f3.results.toList S_passkeylaw41_MonitorSays.ps S_passkeylaw41_MonitorSays.rs) = S_passkeylaw41_MonitorSays.fn x := by kernel_rfl
theorem passkeylaw41_MonitorSays_env : EnvOk Try.prog E_passkeylaw41_MonitorSays := envOk (E := E_passkeylaw41_MonitorSays) cd_ok tys fl_ok fun f ds S h => by
    dsimp only [E_passkeylaw41_MonitorSays] at h
    split at h
    · cases h; exact passkeylaw41_awake_ok
    · cases h; exact passkeycast_New_ok
    · cases h; exact passkeycast_Deck_Next_ok
    · cases h; exact passkeycast_Deck_Record_ok
    · cases h; exact passkeylaw41_story_ok
    · cases h; exact monitor_Explain_ok
    · cases h; exact passkeyref40_Explain_ok
    · cases h; exact passkeylaw41_same_ok
    · cases h
theorem passkeylaw41_MonitorSays_L0_ok : LoopOk Try.prog E_passkeylaw41_MonitorSays Try.f3.ntmps (kqOf S_passkeylaw41_MonitorSays.ps 0) (loopAt 0 (Try.f3.body.getD .skip)) ⟨[(0, .f (.v (.rs 1))), (1, .f (.v (.rs 2))), (2, .f (.v (.int .i64))), (7, .f (.v (.int .i64)))], [(.ret, [(6, .f (.v .bool))]), (.exit 0, [(0, .f (.v (.rs 1))), (1, .f (.v (.rs 2))), (2, .f (.v (.int .i64)))])], passkeylaw41_MonitorSays_L0, []⟩ :=
  loop_ok (A := A_passkeylaw41_MonitorSays) (done := []) (c0 := (Try.f3.body.getD .skip)) hmix passkeylaw41_MonitorSays_env done_nil rounds (by kernel_rfl) (by kernel_rfl) (fun x => passkeylaw41_MonitorSays_L0_eq x.1 x.2.1 x.2.2.1 x.2.2.2.1) (fun _ => rfl)
theorem passkeylaw41_MonitorSays_L2_ok : LoopOk Try.prog E_passkeylaw41_MonitorSays Try.f3.ntmps (kqOf S_passkeylaw41_MonitorSays.ps 0) (loopAt 2 (Try.f3.body.getD .skip)) ⟨[(0, .f (.v (.rs 1))), (2, .f (.v (.int .i64))), (8, .ptr [(.v (.agg 5))]), (9, .f (.own 1)), (10, .f (.v (.int .i64)))], [(.exit 2, [(0, .f (.v (.rs 1))), (2, .f (.v (.int .i64))), (8, .ptr [(.v (.agg 5))]), (9, .f (.own 1))])], passkeylaw41_MonitorSays_L2, []⟩ :=
  loop_ok (A := A_passkeylaw41_MonitorSays) (done := [0]) (c0 := (Try.f3.body.getD .skip)) hmix passkeylaw41_MonitorSays_env (done_cons rfl passkeylaw41_MonitorSays_L0_ok done_nil) rounds (by kernel_rfl) (by kernel_rfl) (fun x => passkeylaw41_MonitorSays_L2_eq x.1 x.2.1 x.2.2.1 x.2.2.2.1 x.2.2.2.2.1) (fun _ => rfl)
theorem passkeylaw41_MonitorSays_L4_ok : LoopOk Try.prog E_passkeylaw41_MonitorSays Try.f3.ntmps (kqOf S_passkeylaw41_MonitorSays.ps 0) (loopAt 4 (Try.f3.body.getD .skip)) ⟨[(0, .f (.v (.rs 1))), (2, .f (.v (.int .i64))), (8, .ptr [(.v (.agg 5))]), (9, .f (.own 1)), (11, .f (.own 1)), (12, .f (.v (.int .i64)))], [(.exit 4, [(0, .f (.v (.rs 1))), (2, .f (.v (.int .i64))), (9, .f (.own 1)), (11, .f (.own 1))])], passkeylaw41_MonitorSays_L4, []⟩ :=
  loop_ok (A := A_passkeylaw41_MonitorSays) (done := [0, 2]) (c0 := (Try.f3.body.getD .skip)) hmix passkeylaw41_MonitorSays_env (done_cons rfl passkeylaw41_MonitorSays_L0_ok (done_cons rfl passkeylaw41_MonitorSays_L2_ok done_nil)) rounds (by kernel_rfl) (by kernel_rfl) (fun x => passkeylaw41_MonitorSays_L4_eq x.1 x.2.1 x.2.2.1 x.2.2.2.1 x.2.2.2.2.1 x.2.2.2.2.2.1) (fun _ => rfl)
theorem passkeylaw41_MonitorSays_ok : SoundT Try.prog cd gdn 3 S_passkeylaw41_MonitorSays :=
  sound_fn (E := E_passkeylaw41_MonitorSays) (A := A_passkeylaw41_MonitorSays) (done := [0, 2, 4]) (c := (Try.f3.body.getD .skip)) (S := S_passkeylaw41_MonitorSays) (fn := Try.f3) hmix passkeylaw41_MonitorSays_env Try.func3 rfl (by kernel_rfl) (by kernel_rfl) (done_cons rfl passkeylaw41_MonitorSays_L0_ok (done_cons rfl passkeylaw41_MonitorSays_L2_ok (done_cons rfl passkeylaw41_MonitorSays_L4_ok done_nil))) (by kernel_rfl) (by kernel_rfl) passkeylaw41_MonitorSays_eq
def MonitorSays_dom (a0 : (List (ApiRecord))) (a1 : (List (Int))) (a2 : Int) : Prop := ArgD cd [(.rs 1), (.rs 2), (.int .i64)] (a0, a1, a2, ())
end Go.Proofs.Ythlingjlhikphaa

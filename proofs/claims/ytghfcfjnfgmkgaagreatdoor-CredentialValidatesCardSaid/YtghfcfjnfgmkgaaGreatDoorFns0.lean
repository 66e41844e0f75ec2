/- The functions of the program, as plain functions, and that the program computes them. Written by a program. -/
import Derived.Test.YtghfcfjnfgmkgaaGreatDoorLib8
import Derived.Test.YtghfcfjnfgmkgaaGreatDoorLay
import Derived.Lib.LaidU8
import Derived.Lib.BytesEntry
import Derived.Lib.Bytealg
import Derived.Lib.ValidU
import Derived.Test.YtghfcfjnfgmkgaaGreatDoorClone
import Derived.Test.YtghfcfjnfgmkgaaGreatDoorProg
import Derived.WalkKit
set_option linter.unusedVariables false
set_option maxRecDepth 100000
namespace Go.Proofs.YtghfcfjnfgmkgaaGreatDoor
open Go Go.Abs
structure ApiItem where
  kind : Int
  number : BitVec 64
  data : List UInt8
  deriving DecidableEq, Inhabited
structure ApiCredential where
  rP : List UInt8
  user : List UInt8
  name : List UInt8
  seed : BitVec 64
  height : Int
  resident : Bool
  protect : Int
  shared : Bool
  backed : Bool
  deriving DecidableEq, Inhabited
structure CborFrame where
  pairs : Bool
  left : Int
  last_ : List UInt8
  deriving DecidableEq, Inhabited
structure CborWalk where
  open_ : List CborFrame
  count : Int
  deriving DecidableEq, Inhabited
structure CborChecker where
  walk : CborWalk
  deriving DecidableEq, Inhabited
structure DigestState where
  v0 : BitVec 64
  v1 : BitVec 64
  v2 : BitVec 64
  v3 : BitVec 64
  deriving DecidableEq, Inhabited
structure Arr8_UInt8 where
  a0 : UInt8
  a1 : UInt8
  a2 : UInt8
  a3 : UInt8
  a4 : UInt8
  a5 : UInt8
  a6 : UInt8
  a7 : UInt8
  deriving DecidableEq, Inhabited
structure CborReader where
  walk : CborWalk
  b : List UInt8
  at_ : Int
  deriving DecidableEq, Inhabited
structure Arr4_BitVec64 where
  a0 : BitVec 64
  a1 : BitVec 64
  a2 : BitVec 64
  a3 : BitVec 64
  deriving DecidableEq, Inhabited
abbrev T : Nat → Type
  | 0 => UInt8
  | 1 => ApiItem
  | 2 => ApiCredential
  | 3 => BitVec 64
  | 4 => List ApiItem
  | 5 => Int
  | 6 => CborFrame
  | 7 => CborWalk
  | 8 => CborChecker
  | 9 => DigestState
  | 10 => List UInt8
  | 11 => Arr8_UInt8
  | 12 => CborReader
  | 13 => List UInt8
  | 14 => Arr4_BitVec64
  | _ => Unit
def lfs : Nat → List Lf
  | 0 => [.u8]
  | 1 => [.int .i64, .u64, .str]
  | 2 => [.str, .str, .str, .u64, .int .i64, .bool, .int .i64, .bool, .bool]
  | 3 => [.u64]
  | 4 => [.rs 1]
  | 5 => [.int .i64]
  | 6 => [.bool, .int .i64, .rn 0]
  | 7 => [.rs 6, .int .i64]
  | 8 => [.rs 6, .int .i64]
  | 9 => [.u64, .u64, .u64, .u64]
  | 10 => [.rs 0]
  | 11 => [.u8, .u8, .u8, .u8, .u8, .u8, .u8, .u8]
  | 12 => [.rs 6, .int .i64, .rs 0, .int .i64]
  | 13 => [.str]
  | 14 => [.u64, .u64, .u64, .u64]
  | _ => []
def to0 (x : UInt8) : tyLs T (lfs 0) := (x, ())
def of0 (y : tyLs T (lfs 0)) : UInt8 := y.1
def eD0 (x : UInt8) : List D := [.int .u8 x.toNat]
def to1 (x : ApiItem) : tyLs T (lfs 1) := (x.kind, x.number, x.data, ())
def of1 (y : tyLs T (lfs 1)) : ApiItem := ⟨y.1, y.2.1, y.2.2.1⟩
def eD1 (x : ApiItem) : List D := [.int .i64 x.kind, .int .u64 x.number.toNat, .str x.data]
def to2 (x : ApiCredential) : tyLs T (lfs 2) := (x.rP, x.user, x.name, x.seed, x.height, x.resident, x.protect, x.shared, x.backed, ())
def of2 (y : tyLs T (lfs 2)) : ApiCredential := ⟨y.1, y.2.1, y.2.2.1, y.2.2.2.1, y.2.2.2.2.1, y.2.2.2.2.2.1, y.2.2.2.2.2.2.1, y.2.2.2.2.2.2.2.1, y.2.2.2.2.2.2.2.2.1⟩
def eD2 (x : ApiCredential) : List D := [.str x.rP, .str x.user, .str x.name, .int .u64 x.seed.toNat, .int .i64 x.height, .bool x.resident, .int .i64 x.protect, .bool x.shared, .bool x.backed]
def to3 (x : BitVec 64) : tyLs T (lfs 3) := (x, ())
def of3 (y : tyLs T (lfs 3)) : BitVec 64 := y.1
def eD3 (x : BitVec 64) : List D := [.int .u64 x.toNat]
def to4 (x : List ApiItem) : tyLs T (lfs 4) := (x, ())
def of4 (y : tyLs T (lfs 4)) : List ApiItem := y.1
def eD4 (x : List ApiItem) : List D := [.rs 3 (x.map eD1)]
def to5 (x : Int) : tyLs T (lfs 5) := (x, ())
def of5 (y : tyLs T (lfs 5)) : Int := y.1
def eD5 (x : Int) : List D := [.int .i64 x]
def to6 (x : CborFrame) : tyLs T (lfs 6) := (x.pairs, x.left, x.last_, ())
def of6 (y : tyLs T (lfs 6)) : CborFrame := ⟨y.1, y.2.1, y.2.2.1⟩
def eD6 (x : CborFrame) : List D := [.bool x.pairs, .int .i64 x.left, rnD 1 (x.last_.map eD0)]
def to7 (x : CborWalk) : tyLs T (lfs 7) := (x.open_, x.count, ())
def of7 (y : tyLs T (lfs 7)) : CborWalk := ⟨y.1, y.2.1⟩
def eD7 (x : CborWalk) : List D := [.rs 3 (x.open_.map eD6), .int .i64 x.count]
def to8 (x : CborChecker) : tyLs T (lfs 8) := (x.walk.open_, x.walk.count, ())
def of8 (y : tyLs T (lfs 8)) : CborChecker := ⟨⟨y.1, y.2.1⟩⟩
def eD8 (x : CborChecker) : List D := [.rs 3 (x.walk.open_.map eD6), .int .i64 x.walk.count]
def to9 (x : DigestState) : tyLs T (lfs 9) := (x.v0, x.v1, x.v2, x.v3, ())
def of9 (y : tyLs T (lfs 9)) : DigestState := ⟨y.1, y.2.1, y.2.2.1, y.2.2.2.1⟩
def eD9 (x : DigestState) : List D := [.int .u64 x.v0.toNat, .int .u64 x.v1.toNat, .int .u64 x.v2.toNat, .int .u64 x.v3.toNat]
def to10 (x : List UInt8) : tyLs T (lfs 10) := (x, ())
def of10 (y : tyLs T (lfs 10)) : List UInt8 := y.1
def eD10 (x : List UInt8) : List D := [.rs 1 (x.map eD0)]
def to11 (x : Arr8_UInt8) : tyLs T (lfs 11) := (x.a0, x.a1, x.a2, x.a3, x.a4, x.a5, x.a6, x.a7, ())
def of11 (y : tyLs T (lfs 11)) : Arr8_UInt8 := ⟨y.1, y.2.1, y.2.2.1, y.2.2.2.1, y.2.2.2.2.1, y.2.2.2.2.2.1, y.2.2.2.2.2.2.1, y.2.2.2.2.2.2.2.1⟩
def eD11 (x : Arr8_UInt8) : List D := [.int .u8 x.a0.toNat, .int .u8 x.a1.toNat, .int .u8 x.a2.toNat, .int .u8 x.a3.toNat, .int .u8 x.a4.toNat, .int .u8 x.a5.toNat, .int .u8 x.a6.toNat, .int .u8 x.a7.toNat]
def to12 (x : CborReader) : tyLs T (lfs 12) := (x.walk.open_, x.walk.count, x.b, x.at_, ())
def of12 (y : tyLs T (lfs 12)) : CborReader := ⟨⟨y.1, y.2.1⟩, y.2.2.1, y.2.2.2.1⟩
def eD12 (x : CborReader) : List D := [.rs 3 (x.walk.open_.map eD6), .int .i64 x.walk.count, .rs 1 (x.b.map eD0), .int .i64 x.at_]
def to13 (x : List UInt8) : tyLs T (lfs 13) := (x, ())
def of13 (y : tyLs T (lfs 13)) : List UInt8 := y.1
def eD13 (x : List UInt8) : List D := [.str x]
def to14 (x : Arr4_BitVec64) : tyLs T (lfs 14) := (x.a0, x.a1, x.a2, x.a3, ())
def of14 (y : tyLs T (lfs 14)) : Arr4_BitVec64 := ⟨y.1, y.2.1, y.2.2.1, y.2.2.2.1⟩
def eD14 (x : Arr4_BitVec64) : List D := [.int .u64 x.a0.toNat, .int .u64 x.a1.toNat, .int .u64 x.a2.toNat, .int .u64 x.a3.toNat]
def cd : Cd T where
  sz := fun c => match c with
    | 0 => 1
    | 1 => 3
    | 2 => 9
    | 3 => 1
    | 4 => 1
    | 5 => 1
    | 6 => 3
    | 7 => 2
    | 8 => 2
    | 9 => 4
    | 10 => 1
    | 11 => 8
    | 12 => 4
    | 13 => 1
    | 14 => 4
    | _ => 0
  encD := fun c x => match c, x with
    | 0, x => eD0 x
    | 1, x => eD1 x
    | 2, x => eD2 x
    | 3, x => eD3 x
    | 4, x => eD4 x
    | 5, x => eD5 x
    | 6, x => eD6 x
    | 7, x => eD7 x
    | 8, x => eD8 x
    | 9, x => eD9 x
    | 10, x => eD10 x
    | 11, x => eD11 x
    | 12, x => eD12 x
    | 13, x => eD13 x
    | 14, x => eD14 x
    | _, _ => []
  enc := fun c x => match c, x with
    | 0, x => encL (lfs 0) (to0 x)
    | 1, x => encL (lfs 1) (to1 x)
    | 2, x => encL (lfs 2) (to2 x)
    | 3, x => encL (lfs 3) (to3 x)
    | 4, x => encL (lfs 4) (to4 x)
    | 5, x => encL (lfs 5) (to5 x)
    | 6, x => encL (lfs 6) (to6 x)
    | 7, x => encL (lfs 7) (to7 x)
    | 8, x => encL (lfs 8) (to8 x)
    | 9, x => encL (lfs 9) (to9 x)
    | 10, x => encL (lfs 10) (to10 x)
    | 11, x => encL (lfs 11) (to11 x)
    | 12, x => encL (lfs 12) (to12 x)
    | 13, x => encL (lfs 13) (to13 x)
    | 14, x => encL (lfs 14) (to14 x)
    | _, _ => []
  dec := fun c ds => match c with
    | 0 => (decL (lfs 0) ds).map of0
    | 1 => (decL (lfs 1) ds).map of1
    | 2 => (decL (lfs 2) ds).map of2
    | 3 => (decL (lfs 3) ds).map of3
    | 4 => (decL (lfs 4) ds).map of4
    | 5 => (decL (lfs 5) ds).map of5
    | 6 => (decL (lfs 6) ds).map of6
    | 7 => (decL (lfs 7) ds).map of7
    | 8 => (decL (lfs 8) ds).map of8
    | 9 => (decL (lfs 9) ds).map of9
    | 10 => (decL (lfs 10) ds).map of10
    | 11 => (decL (lfs 11) ds).map of11
    | 12 => (decL (lfs 12) ds).map of12
    | 13 => (decL (lfs 13) ds).map of13
    | 14 => (decL (lfs 14) ds).map of14
    | _ => none
  bt := 0
  hb := rfl
  rn := fun c => match c with
    | 6 => [false, false, true]
    | _ => []
  im := fun t => match t with
    | 60 => true
    | _ => false
  la := fun t => match t with
    | 117 => some 0
    | _ => none
theorem cd_ok : CdOk cd where
  len := fun c => match c with
    | 0 => fun _ => rfl
    | 1 => fun _ => rfl
    | 2 => fun _ => rfl
    | 3 => fun _ => rfl
    | 4 => fun _ => rfl
    | 5 => fun _ => rfl
    | 6 => fun _ => rfl
    | 7 => fun _ => rfl
    | 8 => fun _ => rfl
    | 9 => fun _ => rfl
    | 10 => fun _ => rfl
    | 11 => fun _ => rfl
    | 12 => fun _ => rfl
    | 13 => fun _ => rfl
    | 14 => fun _ => rfl
    | _ + 15 => fun _ => rfl
  enc := fun c => match c with
    | 0 => fun _ => rfl
    | 1 => fun _ => rfl
    | 2 => fun _ => rfl
    | 3 => fun _ => rfl
    | 4 => fun _ => rfl
    | 5 => fun _ => rfl
    | 6 => fun _ => rfl
    | 7 => fun _ => rfl
    | 8 => fun _ => rfl
    | 9 => fun _ => rfl
    | 10 => fun _ => rfl
    | 11 => fun _ => rfl
    | 12 => fun _ => rfl
    | 13 => fun _ => rfl
    | 14 => fun _ => rfl
    | _ + 15 => fun _ => rfl
  epure := fun c => match c with
    | 0 => fun _ => rfl
    | 1 => fun _ => rfl
    | 2 => fun _ => rfl
    | 3 => fun _ => rfl
    | 4 => fun _ => rfl
    | 5 => fun _ => rfl
    | 6 => fun _ => rfl
    | 7 => fun _ => rfl
    | 8 => fun _ => rfl
    | 9 => fun _ => rfl
    | 10 => fun _ => rfl
    | 11 => fun _ => rfl
    | 12 => fun _ => rfl
    | 13 => fun _ => rfl
    | 14 => fun _ => rfl
    | _ + 15 => fun _ => rfl
  byte := fun _ => rfl
  bsz := rfl
  dec := fun c => match c with
    | 0 => fun ds x h => dec_ok cd (c := 0) (lfs 0) (of := of0) (e := eD0) (fun _ => rfl) ds x h
    | 1 => fun ds x h => dec_ok cd (c := 1) (lfs 1) (of := of1) (e := eD1) (fun _ => rfl) ds x h
    | 2 => fun ds x h => dec_ok cd (c := 2) (lfs 2) (of := of2) (e := eD2) (fun _ => rfl) ds x h
    | 3 => fun ds x h => dec_ok cd (c := 3) (lfs 3) (of := of3) (e := eD3) (fun _ => rfl) ds x h
    | 4 => fun ds x h => dec_ok cd (c := 4) (lfs 4) (of := of4) (e := eD4) (fun _ => rfl) ds x h
    | 5 => fun ds x h => dec_ok cd (c := 5) (lfs 5) (of := of5) (e := eD5) (fun _ => rfl) ds x h
    | 6 => fun ds x h => dec_ok cd (c := 6) (lfs 6) (of := of6) (e := eD6) (fun _ => rfl) ds x h
    | 7 => fun ds x h => dec_ok cd (c := 7) (lfs 7) (of := of7) (e := eD7) (fun _ => rfl) ds x h
    | 8 => fun ds x h => dec_ok cd (c := 8) (lfs 8) (of := of8) (e := eD8) (fun _ => rfl) ds x h
    | 9 => fun ds x h => dec_ok cd (c := 9) (lfs 9) (of := of9) (e := eD9) (fun _ => rfl) ds x h
    | 10 => fun ds x h => dec_ok cd (c := 10) (lfs 10) (of := of10) (e := eD10) (fun _ => rfl) ds x h
    | 11 => fun ds x h => dec_ok cd (c := 11) (lfs 11) (of := of11) (e := eD11) (fun _ => rfl) ds x h
    | 12 => fun ds x h => dec_ok cd (c := 12) (lfs 12) (of := of12) (e := eD12) (fun _ => rfl) ds x h
    | 13 => fun ds x h => dec_ok cd (c := 13) (lfs 13) (of := of13) (e := eD13) (fun _ => rfl) ds x h
    | 14 => fun ds x h => dec_ok cd (c := 14) (lfs 14) (of := of14) (e := eD14) (fun _ => rfl) ds x h
    | _ + 15 => fun _ _ h => by cases h
def ti3 : TI := ⟨5, 1, 8, .int .i64, [.i .i64], [], [], none⟩
def ti4 : TI := ⟨16, 1, 1, .bool, [.b], [], [], none⟩
def ti5 : TI := ⟨0, 1, 1, .int .u8, [.i .u8], [], [], none⟩
def ti9 : TI := ⟨13, 1, 16, .str, [.s], [], [], none⟩
def ti22 : TI := ⟨3, 1, 8, .int .u64, [.i .u64], [], [], none⟩
def ti24 : TI := ⟨2, 9, 88, .strct, [.s, .s, .s, .i .u64, .i .i64, .b, .i .i64, .b, .b], [some (0, 9), some (1, 9), some (2, 9), some (3, 22), some (4, 3), some (5, 4), some (6, 3), some (7, 4), some (8, 4)], [(0, 1), (1, 1), (2, 1), (3, 1), (4, 1), (5, 1), (6, 1), (7, 1), (8, 1)], some [2, 2, 2, 3, 3, 1, 3, 1, 1]⟩
def ti28 : TI := ⟨10, 1, 24, .slice 5, [.ns], [], [], none⟩
def ti29 : TI := ⟨16, 1, 8, .int .i64, [.i .i64], [], [], none⟩
def ti39 : TI := ⟨16, 1, 8, .int .u64, [.i .u64], [], [], none⟩
def ti59 : TI := ⟨16, 1, 24, .slice 9, [.ns], [], [], none⟩
def ti60 : TI := ⟨16, 1, 24, .slice 22, [.ns], [], [], none⟩
def ti61 : TI := ⟨4, 1, 24, .slice 71, [.ns], [], [], none⟩
def ti68 : TI := ⟨16, 1, 24, .slice 61, [.ns], [], [], none⟩
def ti71 : TI := ⟨1, 3, 32, .strct, [.i .i64, .i .u64, .s], [some (0, 3), some (1, 22), some (2, 9)], [(0, 1), (1, 1), (2, 1)], some [3, 3, 2]⟩
def ti91 : TI := ⟨16, 1, 24, .slice 3, [.ns], [], [], none⟩
def ti105 : TI := ⟨16, 1, 24, .slice 180, [.ns], [], [], none⟩
def ti107 : TI := ⟨7, 2, 32, .strct, [.ns, .i .i64], [some (0, 105), some (1, 3)], [(0, 1), (1, 1)], none⟩
def ti109 : TI := ⟨12, 4, 64, .strct, [.ns, .i .i64, .ns, .i .i64], [some (0, 107), some (2, 28), some (3, 3)], [(0, 2), (2, 1), (3, 1)], none⟩
def ti117 : TI := ⟨11, 8, 8, .arr 8 5, [.i .u8, .i .u8, .i .u8, .i .u8, .i .u8, .i .u8, .i .u8, .i .u8], [], [], some [3, 3, 3, 3, 3, 3, 3, 3]⟩
def ti136 : TI := ⟨8, 2, 32, .strct, [.ns, .i .i64], [some (0, 107)], [(0, 2)], none⟩
def ti151 : TI := ⟨14, 4, 32, .arr 4 22, [.i .u64, .i .u64, .i .u64, .i .u64], [], [], some [3, 3, 3, 3]⟩
def ti153 : TI := ⟨16, 1, 24, .slice 28, [.ns], [], [], none⟩
def ti156 : TI := ⟨9, 4, 32, .strct, [.i .u64, .i .u64, .i .u64, .i .u64], [some (0, 22), some (1, 22), some (2, 22), some (3, 22)], [(0, 1), (1, 1), (2, 1), (3, 1)], some [3, 3, 3, 3]⟩
def ti180 : TI := ⟨6, 3, 40, .strct, [.b, .i .i64, .ns], [some (0, 4), some (1, 3), some (2, 28)], [(0, 1), (1, 1), (2, 1)], none⟩
def ti184 : TI := ⟨16, 3, 48, .strct, [.s, .i .i64, .ns], [some (0, 9), some (1, 3), some (2, 61)], [(0, 1), (1, 1), (2, 1)], none⟩
def tab : Tr := .node (.node (.node (.node (.node .leaf 3 ti3 .leaf) 4 ti4 (.node .leaf 5 ti5 .leaf)) 9 ti9 (.node (.node .leaf 22 ti22 .leaf) 24 ti24 .leaf)) 28 ti28 (.node (.node (.node .leaf 29 ti29 .leaf) 39 ti39 .leaf) 59 ti59 (.node (.node .leaf 60 ti60 .leaf) 61 ti61 .leaf))) 68 ti68 (.node (.node (.node (.node .leaf 71 ti71 .leaf) 91 ti91 (.node .leaf 105 ti105 .leaf)) 107 ti107 (.node (.node .leaf 109 ti109 .leaf) 117 ti117 .leaf)) 136 ti136 (.node (.node (.node .leaf 151 ti151 .leaf) 153 ti153 .leaf) 156 ti156 (.node (.node .leaf 180 ti180 .leaf) 184 ti184 .leaf)))
def globs : Nat → Option (List (DT T)) := fun g => match g with
  | 0 => some (Lib.firstTab.map fun z => DT.int .u8 z)
  | 1 => some (((List.range 16).flatMap fun i => [((Lib.accLo i : Nat) : Int), ((Lib.accHi i : Nat) : Int)]).map fun z => DT.int .u8 z)
  | _ => none
def flc : Nat → Bool := fun c => match c with
  | 0 => true
  | 1 => true
  | 2 => true
  | 3 => true
  | 4 => false
  | 5 => true
  | 6 => false
  | 7 => false
  | 8 => false
  | 9 => true
  | 10 => false
  | 11 => true
  | 12 => false
  | 13 => true
  | 14 => true
  | _ => false
theorem hmix : Tryz.prog.follows .mixedOrders = true := by kernel_rfl
theorem tys : TysOk Tryz.prog tab.find := tys_ok (by kernel_rfl)
abbrev gdn : Nat → Option (List D) := fun g => (globs g).map (denL cd)
theorem fl_ok : FlOk cd flc := fun c => match c with
  | 0 => fun h _ => rfl
  | 1 => fun h _ => rfl
  | 2 => fun h _ => rfl
  | 3 => fun h _ => rfl
  | 4 => fun h _ => by cases h
  | 5 => fun h _ => rfl
  | 6 => fun h _ => by cases h
  | 7 => fun h _ => by cases h
  | 8 => fun h _ => by cases h
  | 9 => fun h _ => rfl
  | 10 => fun h _ => by cases h
  | 11 => fun h _ => rfl
  | 12 => fun h _ => by cases h
  | 13 => fun h _ => rfl
  | 14 => fun h _ => rfl
  | _ + 15 => fun h _ => by cases h
theorem row_lt {w : World} {b : Nat} (h : 0 < rowSize w b) : b < w.heap.size := by
  unfold rowSize at h
  cases hh : w.heap[b]? with
  | none => rw [hh] at h; cases h
  | some o => exact (Array.getElem?_eq_some_iff.1 hh).1
def accTab : List Int := (List.range 16).flatMap fun i => [Lib.accLo i, Lib.accHi i]
theorem gdn0 : gdn 0 = some (tabD .u8 Lib.firstTab) := by
  show some (denL cd _) = _
  rw [denL_map]
  simp [tabD, den, Function.comp_def]
theorem gdn1 : gdn 1 = some (tabD .u8 accTab) := by
  show some (denL cd _) = _
  rw [denL_map]
  simp [tabD, den, Function.comp_def, accTab]
theorem acc_lo : ∀ i : Fin 16, accTab[2 * i.val]? = some ((Lib.accLo i.val : Nat) : Int) := by decide
theorem acc_hi : ∀ i : Fin 16, accTab[2 * i.val + 1]? = some ((Lib.accHi i.val : Nat) : Int) := by decide
theorem tabs_of {I : Nat → Prop} {w : World} (h : Glob gdn I w) : Lib.Utf8Tabs 0 1 w := by
  refine ⟨fun c hc => glob_tab (h 0 _ gdn0).2.1 (by simp [Lib.firstTab, hc]), fun i hi => ⟨?_, ?_⟩⟩
  · exact glob_tab (h 1 _ gdn1).2.1 (acc_lo ⟨i, hi⟩)
  · exact glob_tab (h 1 _ gdn1).2.1 (acc_hi ⟨i, hi⟩)
theorem glob_of {w : World} (h : Lib.Utf8Tabs 0 1 w) (h0 : rowSize w 0 = 256) (h1 : rowSize w 1 = 32) : Glob gdn (All w) w := by
  intro g cs e
  match g, e with
  | 0, e =>
    rw [gdn0] at e; cases e
    refine ⟨row_lt (by omega), tab_glob fun i n hn => ?_, by rw [h0]; simp [tabD, Lib.firstTab]⟩
    have hi : i < 256 := by
      have := (List.getElem?_eq_some_iff.1 hn).1
      simpa [Lib.firstTab] using this
    have e2 : Lib.firstTab[i]? = some ((Lib.firstT i : Nat) : Int) := by simp [Lib.firstTab, hi]
    rw [hn] at e2; cases e2
    exact h.1 i hi
  | 1, e =>
    rw [gdn1] at e; cases e
    refine ⟨row_lt (by omega), tab_glob fun i n hn => ?_, by rw [h1]; decide⟩
    have hi : i < 32 := by
      have := (List.getElem?_eq_some_iff.1 hn).1
      have e : accTab.length = 32 := by decide
      omega
    rcases Nat.mod_two_eq_zero_or_one i with hm | hm
    · have e3 : i = 2 * (i / 2) := by omega
      have e2 := acc_lo ⟨i / 2, by omega⟩
      simp only at e2
      rw [← e3, hn] at e2; cases e2
      have := (h.2 (i / 2) (by omega)).1
      rwa [← e3] at this
    · have e3 : i = 2 * (i / 2) + 1 := by omega
      have e2 := acc_hi ⟨i / 2, by omega⟩
      simp only at e2
      rw [← e3, hn] at e2; cases e2
      have := (h.2 (i / 2) (by omega)).2
      rwa [← e3] at this
  | n + 2, e => cases e
def utf8_ValidString (a0 : List UInt8) : Option (Unit × (Bool × Unit)) := bif decide (a0.length ≤ 9223372036854775807) then some ((), Lib.validD a0, ()) else none
def S_utf8_ValidString : FSpec T := ⟨[.f (.v .str)], [.v .bool], fun x => utf8_ValidString x.1⟩
theorem utf8_ValidString_ok : SoundT Tryz.prog cd gdn 49 S_utf8_ValidString := by
  refine sound_below (vts := [.str]) (rts := [.bool]) ⟨_, Tryz.func49, by kernel_rfl, by kernel_rfl⟩ fun I own w args x r hG hv hF => ?_
  obtain ⟨v, vr, _, _, rfl, h1, rfl, _⟩ := hv
  change V I w (.str x.1) free v at h1
  simp only [V] at h1
  subst h1
  change utf8_ValidString x.1 = some r at hF
  unfold utf8_ValidString at hF
  by_cases hs : x.1.length ≤ 9223372036854775807
  · simp only [hs, decide_true, cond_true] at hF
    have hr := Option.some.inj hF
    subst hr
    refine ⟨[.bool (Lib.validD x.1)], fun I' w' => ⟨_, _, none', none', rfl, (show V I' w' (.bool (Lib.validD x.1)) free _ by simp [V]), rfl, fun _ h => h, fun _ h => h, fun _ h => h.elim⟩, ?_⟩
    exact (Any.utf8_ValidString Tryz.lays196 ⟨x.1.toArray⟩ w (by rw [show ByteArray.size ⟨List.toArray x.1⟩ = List.length x.1 from List.size_toArray]; exact hs) (tabs_of hG)).mono fun e w' h => ⟨h.1, h.2⟩
  · simp [hs] at hF
theorem bytesOf_rs {I : Nat → Prop} {w : World} {l : List UInt8} {v : Value} (h : V I w (.rs 1 (l.map byteD)) free v) : (Extern.Bytes.bytesOf v).run Tryz.prog w = .ok ⟨l.toArray⟩ w := by
  simp only [V] at h
  rcases h with ⟨hl, p, cap, rfl⟩ | ⟨b, o, cap, rfl, hcap, hIb, hvr⟩
  · have : l = [] := List.map_eq_nil_iff.1 hl
    subst this
    cases p <;> rfl
  · have := Lib.run_loadBytesX (P := Tryz.prog) w (l.map fun c => (c.toNat : Int)) ⟨b, o, none⟩ .empty (fun j x hj => by
      rw [List.getElem?_map] at hj
      obtain ⟨c, hc, rfl⟩ := Option.map_eq_some_iff.1 hj
      rw [← VR_bytes hvr hc, Addr.add_lit])
    have e : Lib.bytesOf (l.map fun c => (c.toNat : Int)) = l := by
      unfold Lib.bytesOf
      rw [List.map_map]
      conv => rhs; rw [← List.map_id l]
      apply List.map_congr_left
      intro c _
      simp
    rw [e] at this
    simp only [Extern.Bytes.bytesOf, List.length_map] at this ⊢
    rw [this]
    simp
theorem bytes_Compare_calls (v1 v2 : Value) (a b : List UInt8) (w : World) (h1 : (Extern.Bytes.bytesOf v1).run Tryz.prog w = .ok ⟨a.toArray⟩ w) (h2 : (Extern.Bytes.bytesOf v2).run Tryz.prog w = .ok ⟨b.toArray⟩ w) : Calls Tryz.prog 171 #[v1, v2] w fun e w' => e = .returned (.int .i64 (Lib.compareBytes a b)) ∧ w' = w := by
  have hx : ∀ w', w' = w → (callFunc 174 #[v1, v2]).run Tryz.prog w' = .ok (.value (.int .i64 (Lib.compareBytes a b))) w' := by
    intro w' e
    subst e
    rw [run_callFunc_extern Tryz.func174 (by kernel_rfl) (by kernel_rfl) (by kernel_rfl) (e := Extern.BytealgCompare.compare) (by kernel_rfl)]
    change Result.andThen (Sem.run Tryz.prog (do pure (goInt (Extern.BytealgCompare.cmp (← Extern.Bytes.bytesOf v1) (← Extern.Bytes.bytesOf v2)))) w') _ = _
    simp only [Sem.run_bind, h1, h2, Sem.run_pure, Result.andThen]
    rw [Lib.cmp_eq]
    rfl
  go_enter Tryz.func171, Tryz.ntmps171
  go_wp2
  go_ret
  exact ⟨rfl, rfl⟩
def bytes_Compare (a0 a1 : List UInt8) : Option (Unit × (Int × Unit)) := some ((), Lib.compareBytes a0 a1, ())
def S_bytes_Compare : FSpec T := ⟨[.f (.v (.rs 0)), .f (.v (.rs 0))], [.v (.int .i64)], fun x => bytes_Compare x.1 x.2.1⟩
theorem bytes_Compare_ok : SoundT Tryz.prog cd gdn 171 S_bytes_Compare := by
  refine sound_below (vts := [.rs 0, .rs 0]) (rts := [.int .i64]) ⟨_, Tryz.func171, by kernel_rfl, by kernel_rfl⟩ fun I own w args x r hG hv hF => ?_
  obtain ⟨v, vr, _, _, rfl, h1, ⟨v2, vr2, _, _, rfl, h2, rfl, _⟩, _⟩ := hv
  change V I w (.rs 1 (List.map byteD x.1)) free v at h1
  change V I w (.rs 1 (List.map byteD x.2.1)) free v2 at h2
  change bytes_Compare x.1 x.2.1 = some r at hF
  unfold bytes_Compare at hF
  have hr := Option.some.inj hF
  subst hr
  refine ⟨[.int .i64 (Lib.compareBytes x.1 x.2.1)], fun I' w' => ⟨_, _, none', none', rfl, (show V I' w' (.int .i64 (Lib.compareBytes x.1 x.2.1)) free _ by simp [V]), rfl, fun _ h => h, fun _ h => h, fun _ h => h.elim⟩, ?_⟩
  refine (bytes_Compare_calls _ _ _ _ w (bytesOf_rs h1) (bytesOf_rs h2)).mono fun e w' h => ?_
  obtain ⟨rfl, rfl⟩ := h
  exact ⟨rfl, RowKit.Below.refl _ _⟩
def slices_Clone (a0 : List ApiItem) : Option (Unit × (List ApiItem × Unit)) := bif decide (a0.length ≤ 1000000) then some ((), a0, ()) else none
def S_slices_Clone : FSpec T := ⟨[.f (.v (.rs 1))], [.own 1], fun x => slices_Clone x.1⟩
theorem slices_Clone_ok : SoundT Tryz.prog cd gdn 118 S_slices_Clone := by
  refine sound_cloneE (C := cd) (c := 1) (te := 71) (F := fun x => slices_Clone x.1) (by decide) ⟨_, Tryz.func118, by kernel_rfl, by kernel_rfl⟩ (fun x r h => ?_) (fun n c w => AnyE.slices_Clone_nil Tryz.laysCl n c w) (fun a n c news w h1 h2 h3 h4 => ?_)
  · change slices_Clone x.1 = some r at h
    unfold slices_Clone at h
    by_cases hs : List.length x.1 ≤ 1000000
    · simp only [hs, decide_true, cond_true] at h
      have hr := Option.some.inj h
      subst hr
      exact ⟨rfl, hs⟩
    · simp [hs] at h
  · have hi : ((Tryz.prog.info? 71).bind fun i => i.zero.bind fun z => some (i.size, i.bytes, z.cells.size)) = some (3, 32, 3) := by kernel_rfl
    cases hq : Tryz.prog.info? 71 with
    | none => rw [hq] at hi; cases hi
    | some i0 =>
    rw [hq] at hi
    cases hz : i0.zero with
    | none => rw [Option.bind_some, hz] at hi; cases hi
    | some z =>
    rw [Option.bind_some, hz, Option.bind_some] at hi
    obtain ⟨e1, e2, e3⟩ : i0.size = 3 ∧ i0.bytes = 32 ∧ z.cells.size = 3 := by
      have := Option.some.inj hi
      simpa using this
    exact clone_at Tryz.laysCl i0 z 3 32 hq hz e1 e2 e3 (by decide) Tryz.sizeOf71 a n c news w h1 (by unfold maxLen; omega) (by omega) h3 h4
def credential_within (a0 : Int) (a1 : Int) (a2 : Int) : Option ((Unit) × (Bool × Unit)) :=
 (bif (decide (a1 ≤ a0)) then (some ((), ((decide (a0 ≤ a2)), ())))
 else (some ((), (false, ()))))
def S_credential_within : FSpec T := ⟨[.f (.v (.int .i64)), .f (.v (.int .i64)), .f (.v (.int .i64))], [(.v .bool)], fun x => credential_within x.1 x.2.1 x.2.2.1⟩
def E_credential_within : Env T := ⟨tab.find, cd, globs, flc, fun f ds => match f with
    | _ => none, fun f => match f with
    | _ => false⟩
def A_credential_within : Loc2 T := ⟨fun id => match id with
    | _ => none, fun r => match r with
    | _ => none, fun r => match r with
    | _ => false⟩
theorem credential_within_eq (x : tySs T S_credential_within.ps) : run E_credential_within A_credential_within (Tryz.f48.body.getD .skip) (enterT E_credential_within.C S_credential_within.ps x) (retK E_credential_within Tryz.f48.results.toList S_credential_within.ps S_credential_within.rs) = S_credential_within.fn x := by kernel_rfl
theorem credential_within_env : EnvOk Tryz.prog E_credential_within := envOk (E := E_credential_within) cd_ok tys fl_ok fun f ds S h => by cases h
theorem credential_within_ok : SoundT Tryz.prog cd gdn 48 S_credential_within :=
  sound_fn (E := E_credential_within) (A := A_credential_within) (done := []) (c := (Tryz.f48.body.getD .skip)) (S := S_credential_within) (fn := Tryz.f48) hmix credential_within_env Tryz.func48 rfl (by kernel_rfl) (by kernel_rfl) done_nil (by kernel_rfl) (by kernel_rfl) credential_within_eq
def credential_Validate (a0 : ApiCredential) : Option ((Unit) × (Int × Unit)) :=
 ((credential_within ((a0.rP).length : Int) (1 : Int) (64 : Int)).bind fun r1 => (bif (!r1.2.1) then (bif (!r1.2.1) then (some ((), ((9 : Int), ())))
 else ((utf8_ValidString a0.rP).bind fun r2 => (bif (!r2.2.1) then (bif (!r2.2.1) then (some ((), ((6 : Int), ())))
 else (bif a0.shared then (bif (!a0.resident) then (bif (!a0.resident) then (some ((), ((18 : Int), ())))
 else (some ((), ((0 : Int), ()))))
 else (bif a0.backed then (bif (!a0.shared) then (some ((), ((18 : Int), ())))
 else (some ((), ((0 : Int), ()))))
 else (some ((), ((0 : Int), ())))))
 else (bif a0.backed then (bif (!a0.shared) then (some ((), ((18 : Int), ())))
 else (some ((), ((0 : Int), ()))))
 else (some ((), ((0 : Int), ()))))))
 else ((utf8_ValidString a0.name).bind fun r3 => (bif (!r3.2.1) then (some ((), ((6 : Int), ())))
 else (bif a0.shared then (bif (!a0.resident) then (bif (!a0.resident) then (some ((), ((18 : Int), ())))
 else (some ((), ((0 : Int), ()))))
 else (bif a0.backed then (bif (!a0.shared) then (some ((), ((18 : Int), ())))
 else (some ((), ((0 : Int), ()))))
 else (some ((), ((0 : Int), ())))))
 else (bif a0.backed then (bif (!a0.shared) then (some ((), ((18 : Int), ())))
 else (some ((), ((0 : Int), ()))))
 else (some ((), ((0 : Int), ()))))))))))
 else ((credential_within ((a0.user).length : Int) (1 : Int) (16 : Int)).bind fun r4 => (bif (!r4.2.1) then (bif (!r4.2.1) then (some ((), ((9 : Int), ())))
 else ((utf8_ValidString a0.rP).bind fun r5 => (bif (!r5.2.1) then (bif (!r5.2.1) then (some ((), ((6 : Int), ())))
 else (bif a0.shared then (bif (!a0.resident) then (bif (!a0.resident) then (some ((), ((18 : Int), ())))
 else (some ((), ((0 : Int), ()))))
 else (bif a0.backed then (bif (!a0.shared) then (some ((), ((18 : Int), ())))
 else (some ((), ((0 : Int), ()))))
 else (some ((), ((0 : Int), ())))))
 else (bif a0.backed then (bif (!a0.shared) then (some ((), ((18 : Int), ())))
 else (some ((), ((0 : Int), ()))))
 else (some ((), ((0 : Int), ()))))))
 else ((utf8_ValidString a0.name).bind fun r6 => (bif (!r6.2.1) then (some ((), ((6 : Int), ())))
 else (bif a0.shared then (bif (!a0.resident) then (bif (!a0.resident) then (some ((), ((18 : Int), ())))
 else (some ((), ((0 : Int), ()))))
 else (bif a0.backed then (bif (!a0.shared) then (some ((), ((18 : Int), ())))
 else (some ((), ((0 : Int), ()))))
 else (some ((), ((0 : Int), ())))))
 else (bif a0.backed then (bif (!a0.shared) then (some ((), ((18 : Int), ())))
 else (some ((), ((0 : Int), ()))))
 else (some ((), ((0 : Int), ()))))))))))
 else (bif (decide ((32 : Int) < ((a0.name).length : Int))) then (bif (decide ((32 : Int) < ((a0.name).length : Int))) then (some ((), ((9 : Int), ())))
 else ((utf8_ValidString a0.rP).bind fun r7 => (bif (!r7.2.1) then (bif (!r7.2.1) then (some ((), ((6 : Int), ())))
 else (bif a0.shared then (bif (!a0.resident) then (bif (!a0.resident) then (some ((), ((18 : Int), ())))
 else (some ((), ((0 : Int), ()))))
 else (bif a0.backed then (bif (!a0.shared) then (some ((), ((18 : Int), ())))
 else (some ((), ((0 : Int), ()))))
 else (some ((), ((0 : Int), ())))))
 else (bif a0.backed then (bif (!a0.shared) then (some ((), ((18 : Int), ())))
 else (some ((), ((0 : Int), ()))))
 else (some ((), ((0 : Int), ()))))))
 else ((utf8_ValidString a0.name).bind fun r8 => (bif (!r8.2.1) then (some ((), ((6 : Int), ())))
 else (bif a0.shared then (bif (!a0.resident) then (bif (!a0.resident) then (some ((), ((18 : Int), ())))
 else (some ((), ((0 : Int), ()))))
 else (bif a0.backed then (bif (!a0.shared) then (some ((), ((18 : Int), ())))
 else (some ((), ((0 : Int), ()))))
 else (some ((), ((0 : Int), ())))))
 else (bif a0.backed then (bif (!a0.shared) then (some ((), ((18 : Int), ())))
 else (some ((), ((0 : Int), ()))))
 else (some ((), ((0 : Int), ()))))))))))
 else ((credential_within a0.height (1 : Int) (4 : Int)).bind fun r9 => (bif (!r9.2.1) then (bif (!r9.2.1) then (some ((), ((9 : Int), ())))
 else ((utf8_ValidString a0.rP).bind fun r10 => (bif (!r10.2.1) then (bif (!r10.2.1) then (some ((), ((6 : Int), ())))
 else (bif a0.shared then (bif (!a0.resident) then (bif (!a0.resident) then (some ((), ((18 : Int), ())))
 else (some ((), ((0 : Int), ()))))
 else (bif a0.backed then (bif (!a0.shared) then (some ((), ((18 : Int), ())))
 else (some ((), ((0 : Int), ()))))
 else (some ((), ((0 : Int), ())))))
 else (bif a0.backed then (bif (!a0.shared) then (some ((), ((18 : Int), ())))
 else (some ((), ((0 : Int), ()))))
 else (some ((), ((0 : Int), ()))))))
 else ((utf8_ValidString a0.name).bind fun r11 => (bif (!r11.2.1) then (some ((), ((6 : Int), ())))
 else (bif a0.shared then (bif (!a0.resident) then (bif (!a0.resident) then (some ((), ((18 : Int), ())))
 else (some ((), ((0 : Int), ()))))
 else (bif a0.backed then (bif (!a0.shared) then (some ((), ((18 : Int), ())))
 else (some ((), ((0 : Int), ()))))
 else (some ((), ((0 : Int), ())))))
 else (bif a0.backed then (bif (!a0.shared) then (some ((), ((18 : Int), ())))
 else (some ((), ((0 : Int), ()))))
 else (some ((), ((0 : Int), ()))))))))))
 else ((credential_within a0.protect (1 : Int) (3 : Int)).bind fun r12 => (bif (!r12.2.1) then (some ((), ((9 : Int), ())))
 else ((utf8_ValidString a0.rP).bind fun r13 => (bif (!r13.2.1) then (bif (!r13.2.1) then (some ((), ((6 : Int), ())))
 else (bif a0.shared then (bif (!a0.resident) then (bif (!a0.resident) then (some ((), ((18 : Int), ())))
 else (some ((), ((0 : Int), ()))))
 else (bif a0.backed then (bif (!a0.shared) then (some ((), ((18 : Int), ())))
 else (some ((), ((0 : Int), ()))))
 else (some ((), ((0 : Int), ())))))
 else (bif a0.backed then (bif (!a0.shared) then (some ((), ((18 : Int), ())))
 else (some ((), ((0 : Int), ()))))
 else (some ((), ((0 : Int), ()))))))
 else ((utf8_ValidString a0.name).bind fun r14 => (bif (!r14.2.1) then (some ((), ((6 : Int), ())))
 else (bif a0.shared then (bif (!a0.resident) then (bif (!a0.resident) then (some ((), ((18 : Int), ())))
 else (some ((), ((0 : Int), ()))))
 else (bif a0.backed then (bif (!a0.shared) then (some ((), ((18 : Int), ())))
 else (some ((), ((0 : Int), ()))))
 else (some ((), ((0 : Int), ())))))
 else (bif a0.backed then (bif (!a0.shared) then (some ((), ((18 : Int), ())))
 else (some ((), ((0 : Int), ()))))
 else (some ((), ((0 : Int), ()))))))))))))))))))
def S_credential_Validate : FSpec T := ⟨[.f (.v (.agg 2))], [(.v (.int .i64))], fun x => credential_Validate x.1⟩
def E_credential_Validate : Env T := ⟨tab.find, cd, globs, flc, fun f ds => match f with
    | 48 => some S_credential_within
    | 49 => some S_utf8_ValidString
    | _ => none, fun f => match f with
    | 48 => true
    | 49 => true
    | _ => false⟩
def A_credential_Validate : Loc2 T := ⟨fun id => match id with
    | _ => none, fun r => match r with
    | _ => none, fun r => match r with
    | _ => false⟩
theorem credential_Validate_eq (x : tySs T S_credential_Validate.ps) : run E_credential_Validate A_credential_Validate (Tryz.f14.body.getD .skip) (enterT E_credential_Validate.C S_credential_Validate.ps x) (retK E_credential_Validate Tryz.f14.results.toList S_credential_Validate.ps S_credential_Validate.rs) = S_credential_Validate.fn x := by kernel_rfl
theorem credential_Validate_env : EnvOk Tryz.prog E_credential_Validate := envOk (E := E_credential_Validate) cd_ok tys fl_ok fun f ds S h => by
    dsimp only [E_credential_Validate] at h
    split at h
    · cases h; exact credential_within_ok
    · cases h; exact utf8_ValidString_ok
    · cases h
theorem credential_Validate_ok : SoundT Tryz.prog cd gdn 14 S_credential_Validate :=
  sound_fn (E := E_credential_Validate) (A := A_credential_Validate) (done := []) (c := (Tryz.f14.body.getD .skip)) (S := S_credential_Validate) (fn := Tryz.f14) hmix credential_Validate_env Tryz.func14 rfl (by kernel_rfl) (by kernel_rfl) done_nil (by kernel_rfl) (by kernel_rfl) credential_Validate_eq
def cbor_Text (a0 : (List UInt8)) : Option ((Unit) × ((List (ApiItem)) × Unit)) :=
 (some ((), (([(⟨(4 : Int), 0#64, a0⟩ : ApiItem)] : List (ApiItem)), ())))
def S_cbor_Text : FSpec T := ⟨[.f (.v .str)], [(.own 1)], fun x => cbor_Text x.1⟩
def E_cbor_Text : Env T := ⟨tab.find, cd, globs, flc, fun f ds => match f with
    | _ => none, fun f => match f with
    | _ => false⟩
def A_cbor_Text : Loc2 T := ⟨fun id => match id with
    | _ => none, fun r => match r with
    | _ => none, fun r => match r with
    | _ => false⟩
theorem cbor_Text_eq (x : tySs T S_cbor_Text.ps) : run E_cbor_Text A_cbor_Text (Tryz.f38.body.getD .skip) (enterT E_cbor_Text.C S_cbor_Text.ps x) (retK E_cbor_Text Tryz.f38.results.toList S_cbor_Text.ps S_cbor_Text.rs) = S_cbor_Text.fn x := by kernel_rfl
theorem cbor_Text_env : EnvOk Tryz.prog E_cbor_Text := envOk (E := E_cbor_Text) cd_ok tys fl_ok fun f ds S h => by cases h
theorem cbor_Text_ok : SoundT Tryz.prog cd gdn 38 S_cbor_Text :=
  sound_fn (E := E_cbor_Text) (A := A_cbor_Text) (done := []) (c := (Tryz.f38.body.getD .skip)) (S := S_cbor_Text) (fn := Tryz.f38) hmix cbor_Text_env Tryz.func38 rfl (by kernel_rfl) (by kernel_rfl) done_nil (by kernel_rfl) (by kernel_rfl) cbor_Text_eq
def cbor_Bytes (a0 : (List (UInt8))) : Option ((Unit) × ((List (ApiItem)) × Unit)) :=
 (some ((), (([(⟨(3 : Int), 0#64, a0⟩ : ApiItem)] : List (ApiItem)), ())))
def S_cbor_Bytes : FSpec T := ⟨[.f (.v (.rs 0))], [(.own 1)], fun x => cbor_Bytes x.1⟩
def E_cbor_Bytes : Env T := ⟨tab.find, cd, globs, flc, fun f ds => match f with
    | _ => none, fun f => match f with
    | _ => false⟩
def A_cbor_Bytes : Loc2 T := ⟨fun id => match id with
    | _ => none, fun r => match r with
    | _ => none, fun r => match r with
    | _ => false⟩
theorem cbor_Bytes_eq (x : tySs T S_cbor_Bytes.ps) : run E_cbor_Bytes A_cbor_Bytes (Tryz.f39.body.getD .skip) (enterT E_cbor_Bytes.C S_cbor_Bytes.ps x) (retK E_cbor_Bytes Tryz.f39.results.toList S_cbor_Bytes.ps S_cbor_Bytes.rs) = S_cbor_Bytes.fn x := by kernel_rfl
theorem cbor_Bytes_env : EnvOk Tryz.prog E_cbor_Bytes := envOk (E := E_cbor_Bytes) cd_ok tys fl_ok fun f ds S h => by cases h
theorem cbor_Bytes_ok : SoundT Tryz.prog cd gdn 39 S_cbor_Bytes :=
  sound_fn (E := E_cbor_Bytes) (A := A_cbor_Bytes) (done := []) (c := (Tryz.f39.body.getD .skip)) (S := S_cbor_Bytes) (fn := Tryz.f39) hmix cbor_Bytes_env Tryz.func39 rfl (by kernel_rfl) (by kernel_rfl) done_nil (by kernel_rfl) (by kernel_rfl) cbor_Bytes_eq
def cbor_Uint (a0 : (BitVec 64)) : Option ((Unit) × ((List (ApiItem)) × Unit)) :=
 (let v1 : List (ApiItem) := ([(⟨(1 : Int), a0, ([] : List UInt8)⟩ : ApiItem)] : List (ApiItem))
 (some ((), (v1, ()))))
def S_cbor_Uint : FSpec T := ⟨[.f (.v .u64)], [(.own 1)], fun x => cbor_Uint x.1⟩
def E_cbor_Uint : Env T := ⟨tab.find, cd, globs, flc, fun f ds => match f with
    | _ => none, fun f => match f with
    | _ => false⟩
def A_cbor_Uint : Loc2 T := ⟨fun id => match id with
    | _ => none, fun r => match r with
    | _ => none, fun r => match r with
    | _ => false⟩
theorem cbor_Uint_eq (x : tySs T S_cbor_Uint.ps) : run E_cbor_Uint A_cbor_Uint (Tryz.f40.body.getD .skip) (enterT E_cbor_Uint.C S_cbor_Uint.ps x) (retK E_cbor_Uint Tryz.f40.results.toList S_cbor_Uint.ps S_cbor_Uint.rs) = S_cbor_Uint.fn x := by kernel_rfl
theorem cbor_Uint_env : EnvOk Tryz.prog E_cbor_Uint := envOk (E := E_cbor_Uint) cd_ok tys fl_ok fun f ds S h => by cases h
theorem cbor_Uint_ok : SoundT Tryz.prog cd gdn 40 S_cbor_Uint :=
  sound_fn (E := E_cbor_Uint) (A := A_cbor_Uint) (done := []) (c := (Tryz.f40.body.getD .skip)) (S := S_cbor_Uint) (fn := Tryz.f40) hmix cbor_Uint_env Tryz.func40 rfl (by kernel_rfl) (by kernel_rfl) done_nil (by kernel_rfl) (by kernel_rfl) cbor_Uint_eq
def cbor_Bool (a0 : Bool) : Option ((Unit) × ((List (ApiItem)) × Unit)) :=
 (bif a0 then (let v1 : List (ApiItem) := ([(⟨(7 : Int), 1#64, ([] : List UInt8)⟩ : ApiItem)] : List (ApiItem))
 (some ((), (v1, ()))))
 else (let v2 : List (ApiItem) := ([(⟨(7 : Int), 0#64, ([] : List UInt8)⟩ : ApiItem)] : List (ApiItem))
 (some ((), (v2, ())))))
def S_cbor_Bool : FSpec T := ⟨[.f (.v .bool)], [(.own 1)], fun x => cbor_Bool x.1⟩
def E_cbor_Bool : Env T := ⟨tab.find, cd, globs, flc, fun f ds => match f with
    | _ => none, fun f => match f with
    | _ => false⟩
def A_cbor_Bool : Loc2 T := ⟨fun id => match id with
    | _ => none, fun r => match r with
    | _ => none, fun r => match r with
    | _ => false⟩
theorem cbor_Bool_eq (x : tySs T S_cbor_Bool.ps) : run E_cbor_Bool A_cbor_Bool (Tryz.f41.body.getD .skip) (enterT E_cbor_Bool.C S_cbor_Bool.ps x) (retK E_cbor_Bool Tryz.f41.results.toList S_cbor_Bool.ps S_cbor_Bool.rs) = S_cbor_Bool.fn x := by kernel_rfl
theorem cbor_Bool_env : EnvOk Tryz.prog E_cbor_Bool := envOk (E := E_cbor_Bool) cd_ok tys fl_ok fun f ds S h => by cases h
theorem cbor_Bool_ok : SoundT Tryz.prog cd gdn 41 S_cbor_Bool :=
  sound_fn (E := E_cbor_Bool) (A := A_cbor_Bool) (done := []) (c := (Tryz.f41.body.getD .skip)) (S := S_cbor_Bool) (fn := Tryz.f41) hmix cbor_Bool_env Tryz.func41 rfl (by kernel_rfl) (by kernel_rfl) done_nil (by kernel_rfl) (by kernel_rfl) cbor_Bool_eq
def math_bits_Len64 (a0 : (BitVec 64)) : Option ((Unit) × (Int × Unit)) :=
 ((bif (decide ((4294967296#64).toNat ≤ a0.toNat)) then (some ((a0 >>> 32), (32 : Int), ()))
 else (some (a0, (0 : Int), ()))).bind (fun (j1 : ((BitVec 64) × Int × Unit)) => ((bif (decide ((65536#64).toNat ≤ j1.1.toNat)) then (some ((j1.1 >>> 16), (IntKind.wrap .i64 (j1.2.1 + (16 : Int))), ()))
 else (some (j1.1, j1.2.1, ()))).bind (fun (j2 : ((BitVec 64) × Int × Unit)) => (bif (decide ((256#64).toNat ≤ j2.1.toNat)) then (((([0, 1, 2, 2, 3, 3, 3, 3, 4, 4, 4, 4, 4, 4, 4, 4, 5, 5, 5, 5, 5, 5, 5, 5, 5, 5, 5, 5, 5, 5, 5, 5, 6, 6, 6, 6, 6, 6, 6, 6, 6, 6, 6, 6, 6, 6, 6, 6, 6, 6, 6, 6, 6, 6, 6, 6, 6, 6, 6, 6, 6, 6, 6, 6, 7, 7, 7, 7, 7, 7, 7, 7, 7, 7, 7, 7, 7, 7, 7, 7, 7, 7, 7, 7, 7, 7, 7, 7, 7, 7, 7, 7, 7, 7, 7, 7, 7, 7, 7, 7, 7, 7, 7, 7, 7, 7, 7, 7, 7, 7, 7, 7, 7, 7, 7, 7, 7, 7, 7, 7, 7, 7, 7, 7, 7, 7, 7, 7, 8, 8, 8, 8, 8, 8, 8, 8, 8, 8, 8, 8, 8, 8, 8, 8, 8, 8, 8, 8, 8, 8, 8, 8, 8, 8, 8, 8, 8, 8, 8, 8, 8, 8, 8, 8, 8, 8, 8, 8, 8, 8, 8, 8, 8, 8, 8, 8, 8, 8, 8, 8, 8, 8, 8, 8, 8, 8, 8, 8, 8, 8, 8, 8, 8, 8, 8, 8, 8, 8, 8, 8, 8, 8, 8, 8, 8, 8, 8, 8, 8, 8, 8, 8, 8, 8, 8, 8, 8, 8, 8, 8, 8, 8, 8, 8, 8, 8, 8, 8, 8, 8, 8, 8, 8, 8, 8, 8, 8, 8, 8, 8, 8, 8, 8, 8, 8, 8, 8, 8, 8, 8, 8, 8, 8, 8, 8, 8] : List UInt8))[(UInt8.ofBitVec (BitVec.setWidth 8 (j2.1 >>> 8))).toNat]?).bind fun x3 => (let v4 : Int := (IntKind.wrap .i64 ((IntKind.wrap .i64 (j2.2.1 + (8 : Int))) + (x3.toBitVec.toNat : Int)))
 (some ((), (v4, ())))))
 else (((([0, 1, 2, 2, 3, 3, 3, 3, 4, 4, 4, 4, 4, 4, 4, 4, 5, 5, 5, 5, 5, 5, 5, 5, 5, 5, 5, 5, 5, 5, 5, 5, 6, 6, 6, 6, 6, 6, 6, 6, 6, 6, 6, 6, 6, 6, 6, 6, 6, 6, 6, 6, 6, 6, 6, 6, 6, 6, 6, 6, 6, 6, 6, 6, 7, 7, 7, 7, 7, 7, 7, 7, 7, 7, 7, 7, 7, 7, 7, 7, 7, 7, 7, 7, 7, 7, 7, 7, 7, 7, 7, 7, 7, 7, 7, 7, 7, 7, 7, 7, 7, 7, 7, 7, 7, 7, 7, 7, 7, 7, 7, 7, 7, 7, 7, 7, 7, 7, 7, 7, 7, 7, 7, 7, 7, 7, 7, 7, 8, 8, 8, 8, 8, 8, 8, 8, 8, 8, 8, 8, 8, 8, 8, 8, 8, 8, 8, 8, 8, 8, 8, 8, 8, 8, 8, 8, 8, 8, 8, 8, 8, 8, 8, 8, 8, 8, 8, 8, 8, 8, 8, 8, 8, 8, 8, 8, 8, 8, 8, 8, 8, 8, 8, 8, 8, 8, 8, 8, 8, 8, 8, 8, 8, 8, 8, 8, 8, 8, 8, 8, 8, 8, 8, 8, 8, 8, 8, 8, 8, 8, 8, 8, 8, 8, 8, 8, 8, 8, 8, 8, 8, 8, 8, 8, 8, 8, 8, 8, 8, 8, 8, 8, 8, 8, 8, 8, 8, 8, 8, 8, 8, 8, 8, 8, 8, 8, 8, 8, 8, 8, 8, 8, 8, 8, 8, 8] : List UInt8))[(UInt8.ofBitVec (BitVec.setWidth 8 j2.1)).toNat]?).bind fun x5 => (some ((), ((IntKind.wrap .i64 (j2.2.1 + (x5.toBitVec.toNat : Int))), ())))))))))
def S_math_bits_Len64 : FSpec T := ⟨[.f (.v .u64)], [(.v (.int .i64))], fun x => math_bits_Len64 x.1⟩
def E_math_bits_Len64 : Env T := ⟨tab.find, cd, globs, flc, fun f ds => match f with
    | _ => none, fun f => match f with
    | _ => false⟩
def A_math_bits_Len64 : Loc2 T := ⟨fun id => match id with
    | _ => none, fun r => match r with
    | 4 => some ([(0, .f (.v .u64)), (2, .f (.v (.int .i64)))], true)
    | 7 => some ([(0, .f (.v .u64)), (2, .f (.v (.int .i64)))], true)
    | _ => none, fun r => match r with
    | _ => false⟩
theorem math_bits_Len64_eq (x : tySs T S_math_bits_Len64.ps) : run E_math_bits_Len64 A_math_bits_Len64 (Tryz.f145.body.getD .skip) (enterT E_math_bits_Len64.C S_math_bits_Len64.ps x) (retK E_math_bits_Len64 Tryz.f145.results.toList S_math_bits_Len64.ps S_math_bits_Len64.rs) = S_math_bits_Len64.fn x := by kernel_rfl
theorem math_bits_Len64_env : EnvOk Tryz.prog E_math_bits_Len64 := envOk (E := E_math_bits_Len64) cd_ok tys fl_ok fun f ds S h => by cases h
theorem math_bits_Len64_ok : SoundT Tryz.prog cd gdn 145 S_math_bits_Len64 :=
  sound_fn (E := E_math_bits_Len64) (A := A_math_bits_Len64) (done := []) (c := (Tryz.f145.body.getD .skip)) (S := S_math_bits_Len64) (fn := Tryz.f145) hmix math_bits_Len64_env Tryz.func145 rfl (by kernel_rfl) (by kernel_rfl) done_nil (by kernel_rfl) (by kernel_rfl) math_bits_Len64_eq
def math_bits_Len (a0 : (BitVec 64)) : Option ((Unit) × (Int × Unit)) :=
 ((math_bits_Len64 a0).bind fun r1 => (some ((), (r1.2.1, ()))))
def S_math_bits_Len : FSpec T := ⟨[.f (.v .u64)], [(.v (.int .i64))], fun x => math_bits_Len x.1⟩
def E_math_bits_Len : Env T := ⟨tab.find, cd, globs, flc, fun f ds => match f with
    | 145 => some S_math_bits_Len64
    | _ => none, fun f => match f with
    | 145 => true
    | _ => false⟩
def A_math_bits_Len : Loc2 T := ⟨fun id => match id with
    | _ => none, fun r => match r with
    | _ => none, fun r => match r with
    | _ => false⟩
theorem math_bits_Len_eq (x : tySs T S_math_bits_Len.ps) : run E_math_bits_Len A_math_bits_Len (Tryz.f108.body.getD .skip) (enterT E_math_bits_Len.C S_math_bits_Len.ps x) (retK E_math_bits_Len Tryz.f108.results.toList S_math_bits_Len.ps S_math_bits_Len.rs) = S_math_bits_Len.fn x := by kernel_rfl
theorem math_bits_Len_env : EnvOk Tryz.prog E_math_bits_Len := envOk (E := E_math_bits_Len) cd_ok tys fl_ok fun f ds S h => by
    dsimp only [E_math_bits_Len] at h
    split at h
    · cases h; exact math_bits_Len64_ok
    · cases h
theorem math_bits_Len_ok : SoundT Tryz.prog cd gdn 108 S_math_bits_Len :=
  sound_fn (E := E_math_bits_Len) (A := A_math_bits_Len) (done := []) (c := (Tryz.f108.body.getD .skip)) (S := S_math_bits_Len) (fn := Tryz.f108) hmix math_bits_Len_env Tryz.func108 rfl (by kernel_rfl) (by kernel_rfl) done_nil (by kernel_rfl) (by kernel_rfl) math_bits_Len_eq
def cmp_isNaN_uint64 (a0 : (BitVec 64)) : Option ((Unit) × (Bool × Unit)) :=
 (some ((), ((!decide (a0 = a0)), ())))
def S_cmp_isNaN_uint64 : FSpec T := ⟨[.f (.v .u64)], [(.v .bool)], fun x => cmp_isNaN_uint64 x.1⟩
def E_cmp_isNaN_uint64 : Env T := ⟨tab.find, cd, globs, flc, fun f ds => match f with
    | _ => none, fun f => match f with
    | _ => false⟩
def A_cmp_isNaN_uint64 : Loc2 T := ⟨fun id => match id with
    | _ => none, fun r => match r with
    | _ => none, fun r => match r with
    | _ => false⟩
theorem cmp_isNaN_uint64_eq (x : tySs T S_cmp_isNaN_uint64.ps) : run E_cmp_isNaN_uint64 A_cmp_isNaN_uint64 (Tryz.f109.body.getD .skip) (enterT E_cmp_isNaN_uint64.C S_cmp_isNaN_uint64.ps x) (retK E_cmp_isNaN_uint64 Tryz.f109.results.toList S_cmp_isNaN_uint64.ps S_cmp_isNaN_uint64.rs) = S_cmp_isNaN_uint64.fn x := by kernel_rfl
theorem cmp_isNaN_uint64_env : EnvOk Tryz.prog E_cmp_isNaN_uint64 := envOk (E := E_cmp_isNaN_uint64) cd_ok tys fl_ok fun f ds S h => by cases h
theorem cmp_isNaN_uint64_ok : SoundT Tryz.prog cd gdn 109 S_cmp_isNaN_uint64 :=
  sound_fn (E := E_cmp_isNaN_uint64) (A := A_cmp_isNaN_uint64) (done := []) (c := (Tryz.f109.body.getD .skip)) (S := S_cmp_isNaN_uint64) (fn := Tryz.f109) hmix cmp_isNaN_uint64_env Tryz.func109 rfl (by kernel_rfl) (by kernel_rfl) done_nil (by kernel_rfl) (by kernel_rfl) cmp_isNaN_uint64_eq
def cmp_Compare_uint64 (a0 : (BitVec 64)) (a1 : (BitVec 64)) : Option ((Unit) × (Int × Unit)) :=
 ((cmp_isNaN_uint64 a0).bind fun r1 => ((cmp_isNaN_uint64 a1).bind fun r2 => (bif r1.2.1 then (bif r2.2.1 then (some ((), ((0 : Int), ())))
 else (some ((), ((-1 : Int), ()))))
 else (bif r2.2.1 then (some ((), ((1 : Int), ())))
 else (bif (decide (a0.toNat < a1.toNat)) then (some ((), ((-1 : Int), ())))
 else (bif (decide (a1.toNat < a0.toNat)) then (some ((), ((1 : Int), ())))
 else (some ((), ((0 : Int), ())))))))))
def S_cmp_Compare_uint64 : FSpec T := ⟨[.f (.v .u64), .f (.v .u64)], [(.v (.int .i64))], fun x => cmp_Compare_uint64 x.1 x.2.1⟩
def E_cmp_Compare_uint64 : Env T := ⟨tab.find, cd, globs, flc, fun f ds => match f with
    | 109 => some S_cmp_isNaN_uint64
    | _ => none, fun f => match f with
    | 109 => true
    | _ => false⟩
def A_cmp_Compare_uint64 : Loc2 T := ⟨fun id => match id with
    | _ => none, fun r => match r with
    | _ => none, fun r => match r with
    | _ => false⟩
theorem cmp_Compare_uint64_eq (x : tySs T S_cmp_Compare_uint64.ps) : run E_cmp_Compare_uint64 A_cmp_Compare_uint64 (Tryz.f75.body.getD .skip) (enterT E_cmp_Compare_uint64.C S_cmp_Compare_uint64.ps x) (retK E_cmp_Compare_uint64 Tryz.f75.results.toList S_cmp_Compare_uint64.ps S_cmp_Compare_uint64.rs) = S_cmp_Compare_uint64.fn x := by kernel_rfl
theorem cmp_Compare_uint64_env : EnvOk Tryz.prog E_cmp_Compare_uint64 := envOk (E := E_cmp_Compare_uint64) cd_ok tys fl_ok fun f ds S h => by
    dsimp only [E_cmp_Compare_uint64] at h
    split at h
    · cases h; exact cmp_isNaN_uint64_ok
    · cases h
theorem cmp_Compare_uint64_ok : SoundT Tryz.prog cd gdn 75 S_cmp_Compare_uint64 :=
  sound_fn (E := E_cmp_Compare_uint64) (A := A_cmp_Compare_uint64) (done := []) (c := (Tryz.f75.body.getD .skip)) (S := S_cmp_Compare_uint64) (fn := Tryz.f75) hmix cmp_Compare_uint64_env Tryz.func75 rfl (by kernel_rfl) (by kernel_rfl) done_nil (by kernel_rfl) (by kernel_rfl) cmp_Compare_uint64_eq
def cbor_Map_1 (a0 : Int) (a1 : Int) (a2 : (List (BitVec 64))) : Option ((Unit) × (Int × Unit)) :=
 ((getI a2 a0).bind fun x1 => ((getI a2 a1).bind fun x2 => ((cmp_Compare_uint64 x1 x2).bind fun r3 => (some ((), (r3.2.1, ()))))))
def S_cbor_Map_1 : FSpec T := ⟨[.f (.v (.int .i64)), .f (.v (.int .i64)), .f (.v (.ref (.rs 3)))], [(.v (.int .i64))], fun x => cbor_Map_1 x.1 x.2.1 x.2.2.1⟩
def E_cbor_Map_1 : Env T := ⟨tab.find, cd, globs, flc, fun f ds => match f with
    | 75 => some S_cmp_Compare_uint64
    | _ => none, fun f => match f with
    | 75 => true
    | _ => false⟩
def A_cbor_Map_1 : Loc2 T := ⟨fun id => match id with
    | _ => none, fun r => match r with
    | _ => none, fun r => match r with
    | _ => false⟩
theorem cbor_Map_1_eq (x : tySs T S_cbor_Map_1.ps) : run E_cbor_Map_1 A_cbor_Map_1 (Tryz.f74.body.getD .skip) (enterT E_cbor_Map_1.C S_cbor_Map_1.ps x) (retK E_cbor_Map_1 Tryz.f74.results.toList S_cbor_Map_1.ps S_cbor_Map_1.rs) = S_cbor_Map_1.fn x := by kernel_rfl
theorem cbor_Map_1_env : EnvOk Tryz.prog E_cbor_Map_1 := envOk (E := E_cbor_Map_1) cd_ok tys fl_ok fun f ds S h => by
    dsimp only [E_cbor_Map_1] at h
    split at h
    · cases h; exact cmp_Compare_uint64_ok
    · cases h
theorem cbor_Map_1_ok : SoundT Tryz.prog cd gdn 74 S_cbor_Map_1 :=
  sound_fn (E := E_cbor_Map_1) (A := A_cbor_Map_1) (done := []) (c := (Tryz.f74.body.getD .skip)) (S := S_cbor_Map_1) (fn := Tryz.f74) hmix cbor_Map_1_env Tryz.func74 rfl (by kernel_rfl) (by kernel_rfl) done_nil (by kernel_rfl) (by kernel_rfl) cbor_Map_1_eq
def slices_insertionSortCmpFunc_int_L2b (y0 : (List (Int))) (y1 : Int) (y2 : Int) (y3 : ((List (BitVec 64)) × Unit)) (y4 : Int) (y5 : Int) : Option (((List (Int)) × Int × Int × ((List (BitVec 64)) × Unit) × Int × Int × Unit) ⊕ ((List (Int)) × Int × Int × ((List (BitVec 64)) × Unit) × Int × Unit)) :=
 (bif (decide (y1 < y5)) then (bif (decide ((0 : Int) ≤ y5) && decide (y5 < ((y0).length : Int))) then (((y0)[(y5).toNat]?).bind fun x1 => (bif (decide ((0 : Int) ≤ (IntKind.wrap .i64 (y5 - (1 : Int)))) && decide ((IntKind.wrap .i64 (y5 - (1 : Int))) < ((y0).length : Int))) then (((y0)[((IntKind.wrap .i64 (y5 - (1 : Int)))).toNat]?).bind fun x2 => ((cbor_Map_1 x1 x2 y3.1).bind fun r3 => (bif (decide (r3.2.1 < (0 : Int))) then (bif (decide ((0 : Int) ≤ (IntKind.wrap .i64 (y5 - (1 : Int)))) && decide ((IntKind.wrap .i64 (y5 - (1 : Int))) < ((y0).length : Int))) then (((y0)[((IntKind.wrap .i64 (y5 - (1 : Int)))).toNat]?).bind fun x4 => (bif (decide ((0 : Int) ≤ y5) && decide (y5 < ((y0).length : Int))) then (((y0)[(y5).toNat]?).bind fun x5 => (bif (decide ((0 : Int) ≤ y5) && decide (y5 < ((y0).length : Int))) then (((y0)[(y5).toNat]?).bind fun x6 => (bif (decide ((0 : Int) ≤ (IntKind.wrap .i64 (y5 - (1 : Int)))) && decide ((IntKind.wrap .i64 (y5 - (1 : Int))) < ((y0).length : Int))) then ((((List.set y0 (y5).toNat x4))[((IntKind.wrap .i64 (y5 - (1 : Int)))).toNat]?).bind fun x7 => (let v8 : List (Int) := (List.set (List.set y0 (y5).toNat x4) ((IntKind.wrap .i64 (y5 - (1 : Int)))).toNat x5)
 (some (Sum.inl (v8, y1, y2, (y3.1, ()), y4, (IntKind.wrap .i64 (y5 - (1 : Int))), ())))))
 else none))
 else none))
 else none))
 else none)
 else (some (Sum.inr (y0, y1, y2, (y3.1, ()), y4, ()))))))
 else none))
 else none)
 else (some (Sum.inr (y0, y1, y2, (y3.1, ()), y4, ()))))
def slices_insertionSortCmpFunc_int_L2 (y : ((List (Int)) × Int × Int × ((List (BitVec 64)) × Unit) × Int × Int × Unit)) : Option ((List (Int)) × Int × Int × ((List (BitVec 64)) × Unit) × Int × Unit) := iter (fun (y : ((List (Int)) × Int × Int × ((List (BitVec 64)) × Unit) × Int × Int × Unit)) => slices_insertionSortCmpFunc_int_L2b y.1 y.2.1 y.2.2.1 y.2.2.2.1 y.2.2.2.2.1 y.2.2.2.2.2.1) rounds y
def slices_insertionSortCmpFunc_int_L0b (y0 : (List (Int))) (y1 : Int) (y2 : Int) (y3 : ((List (BitVec 64)) × Unit)) (y4 : Int) : Option (((List (Int)) × Int × Int × ((List (BitVec 64)) × Unit) × Int × Unit) ⊕ ((List (Int)) × Unit)) :=
 (bif (decide (y4 < y2)) then ((slices_insertionSortCmpFunc_int_L2 (y0, y1, y2, (y3.1, ()), y4, y4, ())).bind (fun (z1 : ((List (Int)) × Int × Int × ((List (BitVec 64)) × Unit) × Int × Unit)) => (some (Sum.inl (z1.1, z1.2.1, z1.2.2.1, (z1.2.2.2.1.1, ()), (IntKind.wrap .i64 (z1.2.2.2.2.1 + (1 : Int))), ())))))
 else (some (Sum.inr (y0, ()))))
def slices_insertionSortCmpFunc_int_L0 (y : ((List (Int)) × Int × Int × ((List (BitVec 64)) × Unit) × Int × Unit)) : Option ((List (Int)) × Unit) := iter (fun (y : ((List (Int)) × Int × Int × ((List (BitVec 64)) × Unit) × Int × Unit)) => slices_insertionSortCmpFunc_int_L0b y.1 y.2.1 y.2.2.1 y.2.2.2.1 y.2.2.2.2.1) rounds y
def slices_insertionSortCmpFunc_int (a0 : (List (Int))) (a1 : Int) (a2 : Int) (a3 : ((List (BitVec 64)) × Unit)) : Option (((List (Int)) × Unit) × (Unit)) :=
 ((slices_insertionSortCmpFunc_int_L0 (a0, a1, a2, (a3.1, ()), (IntKind.wrap .i64 (a1 + (1 : Int))), ())).bind (fun (z2 : ((List (Int)) × Unit)) => (some ((z2.1, ()), ()))))
def S_slices_insertionSortCmpFunc_int : FSpec T := ⟨[.inp 5, .f (.v (.int .i64)), .f (.v (.int .i64)), .f (.v (.fn 74 (.cons (.ref (.rs 3)) .nil)))], [], fun x => slices_insertionSortCmpFunc_int x.1 x.2.1 x.2.2.1 x.2.2.2.1⟩
def E_slices_insertionSortCmpFunc_int : Env T := ⟨tab.find, cd, globs, flc, fun f ds => match f with
    | 74 => some S_cbor_Map_1
    | _ => none, fun f => match f with
    | 74 => true
    | _ => false⟩
def A_slices_insertionSortCmpFunc_int : Loc2 T := ⟨fun id => match id with
    | 2 => some ⟨[(0, .f (.own 5)), (1, .f (.v (.int .i64))), (2, .f (.v (.int .i64))), (3, .f (.v (.fn 74 (.cons (.ref (.rs 3)) .nil)))), (8, .f (.v (.int .i64))), (9, .f (.v (.int .i64)))], [(.exit 2, [(0, .f (.own 5)), (1, .f (.v (.int .i64))), (2, .f (.v (.int .i64))), (3, .f (.v (.fn 74 (.cons (.ref (.rs 3)) .nil)))), (8, .f (.v (.int .i64)))])], slices_insertionSortCmpFunc_int_L2, []⟩
    | 0 => some ⟨[(0, .f (.own 5)), (1, .f (.v (.int .i64))), (2, .f (.v (.int .i64))), (3, .f (.v (.fn 74 (.cons (.ref (.rs 3)) .nil)))), (8, .f (.v (.int .i64)))], [(.exit 0, [(0, .f (.own 5))])], slices_insertionSortCmpFunc_int_L0, []⟩
    | _ => none, fun r => match r with
    | _ => none, fun r => match r with
    | _ => false⟩
theorem slices_insertionSortCmpFunc_int_L2_eq (y0 : (List (Int))) (y1 : Int) (y2 : Int) (y3 : ((List (BitVec 64)) × Unit)) (y4 : Int) (y5 : Int) : run E_slices_insertionSortCmpFunc_int A_slices_insertionSortCmpFunc_int (loopAt 2 (Tryz.f136.body.getD .skip)) (layC cd [(0, .f (.own 5)), (1, .f (.v (.int .i64))), (2, .f (.v (.int .i64))), (3, .f (.v (.fn 74 (.cons (.ref (.rs 3)) .nil)))), (8, .f (.v (.int .i64))), (9, .f (.v (.int .i64)))] [] (y0, y1, y2, y3, y4, y5, ())) (roundK cd [(0, .f (.own 5)), (1, .f (.v (.int .i64))), (2, .f (.v (.int .i64))), (3, .f (.v (.fn 74 (.cons (.ref (.rs 3)) .nil)))), (8, .f (.v (.int .i64))), (9, .f (.v (.int .i64)))] [] [(.exit 2, [(0, .f (.own 5)), (1, .f (.v (.int .i64))), (2, .f (.v (.int .i64))), (3, .f (.v (.fn 74 (.cons (.ref (.rs 3)) .nil)))), (8, .f (.v (.int .i64)))])]) = slices_insertionSortCmpFunc_int_L2b y0 y1 y2 y3 y4 y5 := by kernel_rfl
theorem slices_insertionSortCmpFunc_int_L0_eq (y0 : (List (Int))) (y1 : Int) (y2 : Int) (y3 : ((List (BitVec 64)) × Unit)) (y4 : Int) : run E_slices_insertionSortCmpFunc_int A_slices_insertionSortCmpFunc_int (loopAt 0 (Tryz.f136.body.getD .skip)) (layC cd [(0, .f (.own 5)), (1, .f (.v (.int .i64))), (2, .f (.v (.int .i64))), (3, .f (.v (.fn 74 (.cons (.ref (.rs 3)) .nil)))), (8, .f (.v (.int .i64)))] [] (y0, y1, y2, y3, y4, ())) (roundK cd [(0, .f (.own 5)), (1, .f (.v (.int .i64))), (2, .f (.v (.int .i64))), (3, .f (.v (.fn 74 (.cons (.ref (.rs 3)) .nil)))), (8, .f (.v (.int .i64)))] [] [(.exit 0, [(0, .f (.own 5))])]) = slices_insertionSortCmpFunc_int_L0b y0 y1 y2 y3 y4 := by kernel_rfl
theorem slices_insertionSortCmpFunc_int_eq (x : tySs T S_slices_insertionSortCmpFunc_int.ps) : run E_slices_insertionSortCmpFunc_int A_slices_insertionSortCmpFunc_int (Tryz.f136.body.getD .skip) (enterT E_slices_insertionSortCmpFunc_int.C S_slices_insertionSortCmpFunc_int.ps x) (retK E_slices_insertionSortCmpFunc_int Tryz.f136.results.toList S_slices_insertionSortCmpFunc_int.ps S_slices_insertionSortCmpFunc_int.rs) = S_slices_insertionSortCmpFunc_int.fn x := by kernel_rfl
theorem slices_insertionSortCmpFunc_int_env : EnvOk Tryz.prog E_slices_insertionSortCmpFunc_int := envOk (E := E_slices_insertionSortCmpFunc_int) cd_ok tys fl_ok fun f ds S h => by
    dsimp only [E_slices_insertionSortCmpFunc_int] at h
    split at h
    · cases h; exact cbor_Map_1_ok
    · cases h
theorem slices_insertionSortCmpFunc_int_L2_ok : LoopOk Tryz.prog E_slices_insertionSortCmpFunc_int Tryz.f136.ntmps (kqOf S_slices_insertionSortCmpFunc_int.ps 0) (loopAt 2 (Tryz.f136.body.getD .skip)) ⟨[(0, .f (.own 5)), (1, .f (.v (.int .i64))), (2, .f (.v (.int .i64))), (3, .f (.v (.fn 74 (.cons (.ref (.rs 3)) .nil)))), (8, .f (.v (.int .i64))), (9, .f (.v (.int .i64)))], [(.exit 2, [(0, .f (.own 5)), (1, .f (.v (.int .i64))), (2, .f (.v (.int .i64))), (3, .f (.v (.fn 74 (.cons (.ref (.rs 3)) .nil)))), (8, .f (.v (.int .i64)))])], slices_insertionSortCmpFunc_int_L2, []⟩ :=
  loop_ok (A := A_slices_insertionSortCmpFunc_int) (done := []) (c0 := (Tryz.f136.body.getD .skip)) hmix slices_insertionSortCmpFunc_int_env done_nil rounds (by kernel_rfl) (by kernel_rfl) (fun x => slices_insertionSortCmpFunc_int_L2_eq x.1 x.2.1 x.2.2.1 x.2.2.2.1 x.2.2.2.2.1 x.2.2.2.2.2.1) (fun _ => rfl)
theorem slices_insertionSortCmpFunc_int_L0_ok : LoopOk Tryz.prog E_slices_insertionSortCmpFunc_int Tryz.f136.ntmps (kqOf S_slices_insertionSortCmpFunc_int.ps 0) (loopAt 0 (Tryz.f136.body.getD .skip)) ⟨[(0, .f (.own 5)), (1, .f (.v (.int .i64))), (2, .f (.v (.int .i64))), (3, .f (.v (.fn 74 (.cons (.ref (.rs 3)) .nil)))), (8, .f (.v (.int .i64)))], [(.exit 0, [(0, .f (.own 5))])], slices_insertionSortCmpFunc_int_L0, []⟩ :=
  loop_ok (A := A_slices_insertionSortCmpFunc_int) (done := [2]) (c0 := (Tryz.f136.body.getD .skip)) hmix slices_insertionSortCmpFunc_int_env (done_cons rfl slices_insertionSortCmpFunc_int_L2_ok done_nil) rounds (by kernel_rfl) (by kernel_rfl) (fun x => slices_insertionSortCmpFunc_int_L0_eq x.1 x.2.1 x.2.2.1 x.2.2.2.1 x.2.2.2.2.1) (fun _ => rfl)
theorem slices_insertionSortCmpFunc_int_ok : SoundT Tryz.prog cd gdn 136 S_slices_insertionSortCmpFunc_int :=
  sound_fn (E := E_slices_insertionSortCmpFunc_int) (A := A_slices_insertionSortCmpFunc_int) (done := [2, 0]) (c := (Tryz.f136.body.getD .skip)) (S := S_slices_insertionSortCmpFunc_int) (fn := Tryz.f136) hmix slices_insertionSortCmpFunc_int_env Tryz.func136 rfl (by kernel_rfl) (by kernel_rfl) (done_cons rfl slices_insertionSortCmpFunc_int_L2_ok (done_cons rfl slices_insertionSortCmpFunc_int_L0_ok done_nil)) (by kernel_rfl) (by kernel_rfl) slices_insertionSortCmpFunc_int_eq
def slices_pdqsortCmpFunc_int_L0b (y0 : (List (Int))) (y1 : Int) (y2 : Int) (y3 : Int) (y4 : ((List (BitVec 64)) × Unit)) (y5 : Bool) (y6 : Bool) : Option (((List (Int)) × Int × Int × Int × ((List (BitVec 64)) × Unit) × Bool × Bool × Unit) ⊕ ((List (Int)) × Unit)) :=
 (bif (decide ((IntKind.wrap .i64 (y2 - y1)) ≤ (12 : Int))) then ((slices_insertionSortCmpFunc_int y0 y1 y2 (y4.1, ())).bind fun r1 => (some (Sum.inr (r1.1.1, ()))))
 else (bif (decide (y3 = (0 : Int))) then none
 else ((bif (!y5) then none
 else (some (y0, y1, y2, y3, (y4.1, ()), y5, y6, (IntKind.wrap .i64 (y2 - y1)), ()))).bind (fun (j2 : ((List (Int)) × Int × Int × Int × ((List (BitVec 64)) × Unit) × Bool × Bool × Int × Unit)) => none))))
def slices_pdqsortCmpFunc_int_L0 (y : ((List (Int)) × Int × Int × Int × ((List (BitVec 64)) × Unit) × Bool × Bool × Unit)) : Option ((List (Int)) × Unit) := iter (fun (y : ((List (Int)) × Int × Int × Int × ((List (BitVec 64)) × Unit) × Bool × Bool × Unit)) => slices_pdqsortCmpFunc_int_L0b y.1 y.2.1 y.2.2.1 y.2.2.2.1 y.2.2.2.2.1 y.2.2.2.2.2.1 y.2.2.2.2.2.2.1) rounds y
def slices_pdqsortCmpFunc_int (a0 : (List (Int))) (a1 : Int) (a2 : Int) (a3 : Int) (a4 : ((List (BitVec 64)) × Unit)) : Option (((List (Int)) × Unit) × (Unit)) :=
 ((slices_pdqsortCmpFunc_int_L0 (a0, a1, a2, a3, (a4.1, ()), true, true, ())).bind (fun (z3 : ((List (Int)) × Unit)) => (some ((z3.1, ()), ()))))
def S_slices_pdqsortCmpFunc_int : FSpec T := ⟨[.inp 5, .f (.v (.int .i64)), .f (.v (.int .i64)), .f (.v (.int .i64)), .f (.v (.fn 74 (.cons (.ref (.rs 3)) .nil)))], [], fun x => slices_pdqsortCmpFunc_int x.1 x.2.1 x.2.2.1 x.2.2.2.1 x.2.2.2.2.1⟩
def E_slices_pdqsortCmpFunc_int : Env T := ⟨tab.find, cd, globs, flc, fun f ds => match f with
    | 136 => match fnAt ds 3 with
      | some 74 => some S_slices_insertionSortCmpFunc_int
      | _ => none
    | _ => none, fun f => match f with
    | _ => false⟩
def A_slices_pdqsortCmpFunc_int : Loc2 T := ⟨fun id => match id with
    | 0 => some ⟨[(0, .f (.own 5)), (1, .f (.v (.int .i64))), (2, .f (.v (.int .i64))), (3, .f (.v (.int .i64))), (4, .f (.v (.fn 74 (.cons (.ref (.rs 3)) .nil)))), (10, .f (.v .bool)), (11, .f (.v .bool))], [(.ret, [(0, .f (.own 5))])], slices_pdqsortCmpFunc_int_L0, []⟩
    | _ => none, fun r => match r with
    | 10 => some ([(0, .f (.own 5)), (1, .f (.v (.int .i64))), (2, .f (.v (.int .i64))), (3, .f (.v (.int .i64))), (4, .f (.v (.fn 74 (.cons (.ref (.rs 3)) .nil)))), (10, .f (.v .bool)), (11, .f (.v .bool)), (12, .f (.v (.int .i64)))], true)
    | _ => none, fun r => match r with
    | _ => false⟩
theorem slices_pdqsortCmpFunc_int_L0_eq (y0 : (List (Int))) (y1 : Int) (y2 : Int) (y3 : Int) (y4 : ((List (BitVec 64)) × Unit)) (y5 : Bool) (y6 : Bool) : run E_slices_pdqsortCmpFunc_int A_slices_pdqsortCmpFunc_int (loopAt 0 (Tryz.f107.body.getD .skip)) (layC cd [(0, .f (.own 5)), (1, .f (.v (.int .i64))), (2, .f (.v (.int .i64))), (3, .f (.v (.int .i64))), (4, .f (.v (.fn 74 (.cons (.ref (.rs 3)) .nil)))), (10, .f (.v .bool)), (11, .f (.v .bool))] [] (y0, y1, y2, y3, y4, y5, y6, ())) (roundK cd [(0, .f (.own 5)), (1, .f (.v (.int .i64))), (2, .f (.v (.int .i64))), (3, .f (.v (.int .i64))), (4, .f (.v (.fn 74 (.cons (.ref (.rs 3)) .nil)))), (10, .f (.v .bool)), (11, .f (.v .bool))] [] [(.ret, [(0, .f (.own 5))])]) = slices_pdqsortCmpFunc_int_L0b y0 y1 y2 y3 y4 y5 y6 := by kernel_rfl
theorem slices_pdqsortCmpFunc_int_eq (x : tySs T S_slices_pdqsortCmpFunc_int.ps) : run E_slices_pdqsortCmpFunc_int A_slices_pdqsortCmpFunc_int (Tryz.f107.body.getD .skip) (enterT E_slices_pdqsortCmpFunc_int.C S_slices_pdqsortCmpFunc_int.ps x) (retK E_slices_pdqsortCmpFunc_int Tryz.f107.results.toList S_slices_pdqsortCmpFunc_int.ps S_slices_pdqsortCmpFunc_int.rs) = S_slices_pdqsortCmpFunc_int.fn x := by kernel_rfl
theorem slices_pdqsortCmpFunc_int_env : EnvOk Tryz.prog E_slices_pdqsortCmpFunc_int := envOk (E := E_slices_pdqsortCmpFunc_int) cd_ok tys fl_ok fun f ds S h => by
    dsimp only [E_slices_pdqsortCmpFunc_int] at h
    split at h
    · split at h
      · cases h; exact slices_insertionSortCmpFunc_int_ok
      · cases h
    · cases h
theorem slices_pdqsortCmpFunc_int_L0_ok : LoopOk Tryz.prog E_slices_pdqsortCmpFunc_int Tryz.f107.ntmps (kqOf S_slices_pdqsortCmpFunc_int.ps 0) (loopAt 0 (Tryz.f107.body.getD .skip)) ⟨[(0, .f (.own 5)), (1, .f (.v (.int .i64))), (2, .f (.v (.int .i64))), (3, .f (.v (.int .i64))), (4, .f (.v (.fn 74 (.cons (.ref (.rs 3)) .nil)))), (10, .f (.v .bool)), (11, .f (.v .bool))], [(.ret, [(0, .f (.own 5))])], slices_pdqsortCmpFunc_int_L0, []⟩ :=
  loop_ok (A := A_slices_pdqsortCmpFunc_int) (done := []) (c0 := (Tryz.f107.body.getD .skip)) hmix slices_pdqsortCmpFunc_int_env done_nil rounds (by kernel_rfl) (by kernel_rfl) (fun x => slices_pdqsortCmpFunc_int_L0_eq x.1 x.2.1 x.2.2.1 x.2.2.2.1 x.2.2.2.2.1 x.2.2.2.2.2.1 x.2.2.2.2.2.2.1) (fun _ => rfl)
theorem slices_pdqsortCmpFunc_int_ok : SoundT Tryz.prog cd gdn 107 S_slices_pdqsortCmpFunc_int :=
  sound_fn (E := E_slices_pdqsortCmpFunc_int) (A := A_slices_pdqsortCmpFunc_int) (done := [0]) (c := (Tryz.f107.body.getD .skip)) (S := S_slices_pdqsortCmpFunc_int) (fn := Tryz.f107) hmix slices_pdqsortCmpFunc_int_env Tryz.func107 rfl (by kernel_rfl) (by kernel_rfl) (done_cons rfl slices_pdqsortCmpFunc_int_L0_ok done_nil) (by kernel_rfl) (by kernel_rfl) slices_pdqsortCmpFunc_int_eq
def slices_SortFunc_int_int (a0 : (List (Int))) (a1 : ((List (BitVec 64)) × Unit)) : Option (((List (Int)) × Unit) × (Unit)) :=
 ((math_bits_Len (BitVec.ofInt 64 ((a0).length : Int))).bind fun r1 => ((slices_pdqsortCmpFunc_int a0 (0 : Int) ((a0).length : Int) r1.2.1 (a1.1, ())).bind fun r2 => (some ((r2.1.1, ()), ()))))
def S_slices_SortFunc_int_int : FSpec T := ⟨[.inp 5, .f (.v (.fn 74 (.cons (.ref (.rs 3)) .nil)))], [], fun x => slices_SortFunc_int_int x.1 x.2.1⟩
def E_slices_SortFunc_int_int : Env T := ⟨tab.find, cd, globs, flc, fun f ds => match f with
    | 107 => match fnAt ds 4 with
      | some 74 => some S_slices_pdqsortCmpFunc_int
      | _ => none
    | 108 => some S_math_bits_Len
    | _ => none, fun f => match f with
    | 108 => true
    | _ => false⟩
def A_slices_SortFunc_int_int : Loc2 T := ⟨fun id => match id with
    | _ => none, fun r => match r with
    | _ => none, fun r => match r with
    | _ => false⟩
theorem slices_SortFunc_int_int_eq (x : tySs T S_slices_SortFunc_int_int.ps) : run E_slices_SortFunc_int_int A_slices_SortFunc_int_int (Tryz.f73.body.getD .skip) (enterT E_slices_SortFunc_int_int.C S_slices_SortFunc_int_int.ps x) (retK E_slices_SortFunc_int_int Tryz.f73.results.toList S_slices_SortFunc_int_int.ps S_slices_SortFunc_int_int.rs) = S_slices_SortFunc_int_int.fn x := by kernel_rfl
theorem slices_SortFunc_int_int_env : EnvOk Tryz.prog E_slices_SortFunc_int_int := envOk (E := E_slices_SortFunc_int_int) cd_ok tys fl_ok fun f ds S h => by
    dsimp only [E_slices_SortFunc_int_int] at h
    split at h
    · split at h
      · cases h; exact slices_pdqsortCmpFunc_int_ok
      · cases h
    · cases h; exact math_bits_Len_ok
    · cases h
theorem slices_SortFunc_int_int_ok : SoundT Tryz.prog cd gdn 73 S_slices_SortFunc_int_int :=
  sound_fn (E := E_slices_SortFunc_int_int) (A := A_slices_SortFunc_int_int) (done := []) (c := (Tryz.f73.body.getD .skip)) (S := S_slices_SortFunc_int_int) (fn := Tryz.f73) hmix slices_SortFunc_int_int_env Tryz.func73 rfl (by kernel_rfl) (by kernel_rfl) done_nil (by kernel_rfl) (by kernel_rfl) slices_SortFunc_int_int_eq
def cbor_walk_done (a0 : CborWalk) : Option ((Unit) × (Bool × Unit)) :=
 (bif (decide ((0 : Int) < a0.count)) then (some ((), ((decide (((a0.open_).length : Int) = (0 : Int))), ())))
 else (some ((), (false, ()))))
def S_cbor_walk_done : FSpec T := ⟨[.f (.v (.ref (.agg 7)))], [(.v .bool)], fun x => cbor_walk_done x.1⟩
def E_cbor_walk_done : Env T := ⟨tab.find, cd, globs, flc, fun f ds => match f with
    | _ => none, fun f => match f with
    | _ => false⟩
def A_cbor_walk_done : Loc2 T := ⟨fun id => match id with
    | _ => none, fun r => match r with
    | _ => none, fun r => match r with
    | _ => false⟩
theorem cbor_walk_done_eq (x : tySs T S_cbor_walk_done.ps) : run E_cbor_walk_done A_cbor_walk_done (Tryz.f83.body.getD .skip) (enterT E_cbor_walk_done.C S_cbor_walk_done.ps x) (retK E_cbor_walk_done Tryz.f83.results.toList S_cbor_walk_done.ps S_cbor_walk_done.rs) = S_cbor_walk_done.fn x := by kernel_rfl
theorem cbor_walk_done_env : EnvOk Tryz.prog E_cbor_walk_done := envOk (E := E_cbor_walk_done) cd_ok tys fl_ok fun f ds S h => by cases h
theorem cbor_walk_done_ok : SoundT Tryz.prog cd gdn 83 S_cbor_walk_done :=
  sound_fn (E := E_cbor_walk_done) (A := A_cbor_walk_done) (done := []) (c := (Tryz.f83.body.getD .skip)) (S := S_cbor_walk_done) (fn := Tryz.f83) hmix cbor_walk_done_env Tryz.func83 rfl (by kernel_rfl) (by kernel_rfl) done_nil (by kernel_rfl) (by kernel_rfl) cbor_walk_done_eq
def cbor_walk_atKey (a0 : CborWalk) : Option ((Unit) × (Bool × Unit)) :=
 (bif (decide ((0 : Int) < ((a0.open_).length : Int))) then ((getI a0.open_ (IntKind.wrap .i64 (((a0.open_).length : Int) - (1 : Int)))).bind fun x1 => (bif x1.pairs then ((getI a0.open_ (IntKind.wrap .i64 (((a0.open_).length : Int) - (1 : Int)))).bind fun x2 => (some ((), ((decide ((Int.tmod x2.left (2 : Int)) = (0 : Int))), ()))))
 else (some ((), (false, ())))))
 else (some ((), (false, ()))))
def S_cbor_walk_atKey : FSpec T := ⟨[.f (.v (.ref (.agg 7)))], [(.v .bool)], fun x => cbor_walk_atKey x.1⟩
def E_cbor_walk_atKey : Env T := ⟨tab.find, cd, globs, flc, fun f ds => match f with
    | _ => none, fun f => match f with
    | _ => false⟩
def A_cbor_walk_atKey : Loc2 T := ⟨fun id => match id with
    | _ => none, fun r => match r with
    | _ => none, fun r => match r with
    | _ => false⟩
theorem cbor_walk_atKey_eq (x : tySs T S_cbor_walk_atKey.ps) : run E_cbor_walk_atKey A_cbor_walk_atKey (Tryz.f149.body.getD .skip) (enterT E_cbor_walk_atKey.C S_cbor_walk_atKey.ps x) (retK E_cbor_walk_atKey Tryz.f149.results.toList S_cbor_walk_atKey.ps S_cbor_walk_atKey.rs) = S_cbor_walk_atKey.fn x := by kernel_rfl
theorem cbor_walk_atKey_env : EnvOk Tryz.prog E_cbor_walk_atKey := envOk (E := E_cbor_walk_atKey) cd_ok tys fl_ok fun f ds S h => by cases h
theorem cbor_walk_atKey_ok : SoundT Tryz.prog cd gdn 149 S_cbor_walk_atKey :=
  sound_fn (E := E_cbor_walk_atKey) (A := A_cbor_walk_atKey) (done := []) (c := (Tryz.f149.body.getD .skip)) (S := S_cbor_walk_atKey) (fn := Tryz.f149) hmix cbor_walk_atKey_env Tryz.func149 rfl (by kernel_rfl) (by kernel_rfl) done_nil (by kernel_rfl) (by kernel_rfl) cbor_walk_atKey_eq
def cbor_walk_admit (a0 : CborWalk) (a1 : Int) : Option ((Unit) × (Int × Unit)) :=
 (bif (decide ((512 : Int) ≤ a0.count)) then (some ((), ((8 : Int), ())))
 else (bif (decide (a1 < (1 : Int))) then (some ((), ((3 : Int), ())))
 else (bif (decide ((8 : Int) < a1)) then (some ((), ((3 : Int), ())))
 else ((cbor_walk_atKey a0).bind fun r1 => (bif r1.2.1 then (bif (!decide (a1 = (1 : Int))) then (bif (!decide (a1 = (2 : Int))) then (bif (!decide (a1 = (4 : Int))) then (some ((), ((3 : Int), ())))
 else (bif (decide ((8 : Int) < ((a0.open_).length : Int))) then (some ((), ((5 : Int), ())))
 else (some ((), ((0 : Int), ())))))
 else (bif (decide ((8 : Int) < ((a0.open_).length : Int))) then (some ((), ((5 : Int), ())))
 else (some ((), ((0 : Int), ())))))
 else (bif (decide ((8 : Int) < ((a0.open_).length : Int))) then (some ((), ((5 : Int), ())))
 else (some ((), ((0 : Int), ())))))
 else (bif (decide ((8 : Int) < ((a0.open_).length : Int))) then (some ((), ((5 : Int), ())))
 else (some ((), ((0 : Int), ())))))))))
def S_cbor_walk_admit : FSpec T := ⟨[.f (.v (.ref (.agg 7))), .f (.v (.int .i64))], [(.v (.int .i64))], fun x => cbor_walk_admit x.1 x.2.1⟩
def E_cbor_walk_admit : Env T := ⟨tab.find, cd, globs, flc, fun f ds => match f with
    | 149 => some S_cbor_walk_atKey
    | _ => none, fun f => match f with
    | 149 => true
    | _ => false⟩
def A_cbor_walk_admit : Loc2 T := ⟨fun id => match id with
    | _ => none, fun r => match r with
    | _ => none, fun r => match r with
    | _ => false⟩
theorem cbor_walk_admit_eq (x : tySs T S_cbor_walk_admit.ps) : run E_cbor_walk_admit A_cbor_walk_admit (Tryz.f115.body.getD .skip) (enterT E_cbor_walk_admit.C S_cbor_walk_admit.ps x) (retK E_cbor_walk_admit Tryz.f115.results.toList S_cbor_walk_admit.ps S_cbor_walk_admit.rs) = S_cbor_walk_admit.fn x := by kernel_rfl
theorem cbor_walk_admit_env : EnvOk Tryz.prog E_cbor_walk_admit := envOk (E := E_cbor_walk_admit) cd_ok tys fl_ok fun f ds S h => by
    dsimp only [E_cbor_walk_admit] at h
    split at h
    · cases h; exact cbor_walk_atKey_ok
    · cases h
theorem cbor_walk_admit_ok : SoundT Tryz.prog cd gdn 115 S_cbor_walk_admit :=
  sound_fn (E := E_cbor_walk_admit) (A := A_cbor_walk_admit) (done := []) (c := (Tryz.f115.body.getD .skip)) (S := S_cbor_walk_admit) (fn := Tryz.f115) hmix cbor_walk_admit_env Tryz.func115 rfl (by kernel_rfl) (by kernel_rfl) done_nil (by kernel_rfl) (by kernel_rfl) cbor_walk_admit_eq
def cbor_shaped (a0 : ApiItem) : Option ((Unit) × (Bool × Unit)) :=
 (bif (decide (a0.kind = (3 : Int))) then (bif (decide (a0.kind = (3 : Int))) then (some ((), ((decide (a0.number = 0#64)), ())))
 else (bif (decide (a0.kind = (8 : Int))) then (bif (decide (a0.number = 0#64)) then (some ((), ((decide (a0.data = ([] : List UInt8))), ())))
 else (some ((), (false, ()))))
 else (bif (decide (a0.kind = (7 : Int))) then (bif (decide (a0.number.toNat ≤ (1#64).toNat)) then (some ((), ((decide (a0.data = ([] : List UInt8))), ())))
 else (some ((), (false, ()))))
 else (some ((), ((decide (a0.data = ([] : List UInt8))), ()))))))
 else (bif (decide (a0.kind = (4 : Int))) then (some ((), ((decide (a0.number = 0#64)), ())))
 else (bif (decide (a0.kind = (8 : Int))) then (bif (decide (a0.number = 0#64)) then (some ((), ((decide (a0.data = ([] : List UInt8))), ())))
 else (some ((), (false, ()))))
 else (bif (decide (a0.kind = (7 : Int))) then (bif (decide (a0.number.toNat ≤ (1#64).toNat)) then (some ((), ((decide (a0.data = ([] : List UInt8))), ())))
 else (some ((), (false, ()))))
 else (some ((), ((decide (a0.data = ([] : List UInt8))), ())))))))
def S_cbor_shaped : FSpec T := ⟨[.f (.v (.agg 1))], [(.v .bool)], fun x => cbor_shaped x.1⟩
def E_cbor_shaped : Env T := ⟨tab.find, cd, globs, flc, fun f ds => match f with
    | _ => none, fun f => match f with
    | _ => false⟩
def A_cbor_shaped : Loc2 T := ⟨fun id => match id with
    | _ => none, fun r => match r with
    | _ => none, fun r => match r with
    | _ => false⟩
theorem cbor_shaped_eq (x : tySs T S_cbor_shaped.ps) : run E_cbor_shaped A_cbor_shaped (Tryz.f146.body.getD .skip) (enterT E_cbor_shaped.C S_cbor_shaped.ps x) (retK E_cbor_shaped Tryz.f146.results.toList S_cbor_shaped.ps S_cbor_shaped.rs) = S_cbor_shaped.fn x := by kernel_rfl
theorem cbor_shaped_env : EnvOk Tryz.prog E_cbor_shaped := envOk (E := E_cbor_shaped) cd_ok tys fl_ok fun f ds S h => by cases h
theorem cbor_shaped_ok : SoundT Tryz.prog cd gdn 146 S_cbor_shaped :=
  sound_fn (E := E_cbor_shaped) (A := A_cbor_shaped) (done := []) (c := (Tryz.f146.body.getD .skip)) (S := S_cbor_shaped) (fn := Tryz.f146) hmix cbor_shaped_env Tryz.func146 rfl (by kernel_rfl) (by kernel_rfl) done_nil (by kernel_rfl) (by kernel_rfl) cbor_shaped_eq
def cbor_appendHead_L1b (y0 : (List (UInt8))) (y1 : (BitVec 64)) (y2 : Int) : Option (((List (UInt8)) × (BitVec 64) × Int × Unit) ⊕ ((List (UInt8)) × Unit)) :=
 (bif (decide ((0 : Int) ≤ y2)) then (bif decide ((0 : Int) ≤ (IntKind.wrap .i64 ((8 : Int) * y2))) then (let v7 : UInt8 := (UInt8.ofBitVec (BitVec.setWidth 8 (y1 >>> ((IntKind.wrap .i64 ((8 : Int) * y2))).toNat)))
 (bif small ((y0).length + (([v7] : List (UInt8)) : List (UInt8)).length) 1 then (some (Sum.inl ((y0 ++ ([v7] : List (UInt8))), y1, (IntKind.wrap .i64 (y2 - (1 : Int))), ())))
 else none))
 else none)
 else (some (Sum.inr (y0, ()))))
def cbor_appendHead_L1 (y : ((List (UInt8)) × (BitVec 64) × Int × Unit)) : Option ((List (UInt8)) × Unit) := iter (fun (y : ((List (UInt8)) × (BitVec 64) × Int × Unit)) => cbor_appendHead_L1b y.1 y.2.1 y.2.2.1) rounds y
def cbor_appendHead (a0 : (List (UInt8))) (a1 : UInt8) (a2 : (BitVec 64)) : Option ((Unit) × ((List (UInt8)) × Unit)) :=
 ((bif (decide (a2.toNat < (24#64).toNat)) then (let v1 : UInt8 := (UInt8.ofBitVec ((UInt8.ofBitVec (a1.toBitVec <<< 5)).toBitVec + (UInt8.ofBitVec (BitVec.setWidth 8 a2)).toBitVec))
 (bif small ((a0).length + (([v1] : List (UInt8)) : List (UInt8)).length) 1 then (((some ((), ((a0 ++ ([v1] : List (UInt8))), ())))).bind fun q => some (Sum.inr q))
 else none))
 else (bif (decide (a2.toNat < (256#64).toNat)) then (let v2 : UInt8 := (UInt8.ofBitVec ((UInt8.ofBitVec (a1.toBitVec <<< 5)).toBitVec + (24 : UInt8).toBitVec))
 (some (Sum.inl (a0, a2, v2, (1 : Int), ()))))
 else (bif (decide (a2.toNat < (65536#64).toNat)) then (let v3 : UInt8 := (UInt8.ofBitVec ((UInt8.ofBitVec (a1.toBitVec <<< 5)).toBitVec + (25 : UInt8).toBitVec))
 (some (Sum.inl (a0, a2, v3, (2 : Int), ()))))
 else (bif (decide (a2.toNat < (4294967296#64).toNat)) then (let v4 : UInt8 := (UInt8.ofBitVec ((UInt8.ofBitVec (a1.toBitVec <<< 5)).toBitVec + (26 : UInt8).toBitVec))
 (some (Sum.inl (a0, a2, v4, (4 : Int), ()))))
 else (let v5 : UInt8 := (UInt8.ofBitVec ((UInt8.ofBitVec (a1.toBitVec <<< 5)).toBitVec + (27 : UInt8).toBitVec))
 (some (Sum.inl (a0, a2, v5, (8 : Int), ())))))))).bind (Sum.elim (fun (j6 : ((List (UInt8)) × (BitVec 64) × UInt8 × Int × Unit)) => (bif small ((j6.1).length + (([j6.2.2.1] : List (UInt8)) : List (UInt8)).length) 1 then ((cbor_appendHead_L1 ((j6.1 ++ ([j6.2.2.1] : List (UInt8))), j6.2.1, (IntKind.wrap .i64 (j6.2.2.2.1 - (1 : Int))), ())).bind (fun (z8 : ((List (UInt8)) × Unit)) => (some ((), (z8.1, ())))))
 else none)) some))
def S_cbor_appendHead : FSpec T := ⟨[.f (.own 0), .f (.v .u8), .f (.v .u64)], [(.own 0)], fun x => cbor_appendHead x.1 x.2.1 x.2.2.1⟩
def E_cbor_appendHead : Env T := ⟨tab.find, cd, globs, flc, fun f ds => match f with
    | _ => none, fun f => match f with
    | _ => false⟩
def A_cbor_appendHead : Loc2 T := ⟨fun id => match id with
    | 1 => some ⟨[(0, .f (.own 0)), (2, .f (.v .u64)), (9, .f (.v (.int .i64)))], [(.exit 1, [(0, .f (.own 0))])], cbor_appendHead_L1, []⟩
    | _ => none, fun r => match r with
    | 12 => some ([(0, .f (.own 0)), (2, .f (.v .u64)), (7, .f (.v .u8)), (8, .f (.v (.int .i64)))], false)
    | _ => none, fun r => match r with
    | _ => false⟩
theorem cbor_appendHead_L1_eq (y0 : (List (UInt8))) (y1 : (BitVec 64)) (y2 : Int) : run E_cbor_appendHead A_cbor_appendHead (loopAt 1 (Tryz.f111.body.getD .skip)) (layC cd [(0, .f (.own 0)), (2, .f (.v .u64)), (9, .f (.v (.int .i64)))] [] (y0, y1, y2, ())) (roundK cd [(0, .f (.own 0)), (2, .f (.v .u64)), (9, .f (.v (.int .i64)))] [] [(.exit 1, [(0, .f (.own 0))])]) = cbor_appendHead_L1b y0 y1 y2 := by kernel_rfl
theorem cbor_appendHead_eq (x : tySs T S_cbor_appendHead.ps) : run E_cbor_appendHead A_cbor_appendHead (Tryz.f111.body.getD .skip) (enterT E_cbor_appendHead.C S_cbor_appendHead.ps x) (retK E_cbor_appendHead Tryz.f111.results.toList S_cbor_appendHead.ps S_cbor_appendHead.rs) = S_cbor_appendHead.fn x := by kernel_rfl
theorem cbor_appendHead_env : EnvOk Tryz.prog E_cbor_appendHead := envOk (E := E_cbor_appendHead) cd_ok tys fl_ok fun f ds S h => by cases h
theorem cbor_appendHead_L1_ok : LoopOk Tryz.prog E_cbor_appendHead Tryz.f111.ntmps (kqOf S_cbor_appendHead.ps 0) (loopAt 1 (Tryz.f111.body.getD .skip)) ⟨[(0, .f (.own 0)), (2, .f (.v .u64)), (9, .f (.v (.int .i64)))], [(.exit 1, [(0, .f (.own 0))])], cbor_appendHead_L1, []⟩ :=
  loop_ok (A := A_cbor_appendHead) (done := []) (c0 := (Tryz.f111.body.getD .skip)) hmix cbor_appendHead_env done_nil rounds (by kernel_rfl) (by kernel_rfl) (fun x => cbor_appendHead_L1_eq x.1 x.2.1 x.2.2.1) (fun _ => rfl)
theorem cbor_appendHead_ok : SoundT Tryz.prog cd gdn 111 S_cbor_appendHead :=
  sound_fn (E := E_cbor_appendHead) (A := A_cbor_appendHead) (done := [1]) (c := (Tryz.f111.body.getD .skip)) (S := S_cbor_appendHead) (fn := Tryz.f111) hmix cbor_appendHead_env Tryz.func111 rfl (by kernel_rfl) (by kernel_rfl) (done_cons rfl cbor_appendHead_L1_ok done_nil) (by kernel_rfl) (by kernel_rfl) cbor_appendHead_eq
def cbor_appendItem (a0 : (List (UInt8))) (a1 : ApiItem) : Option ((Unit) × ((List (UInt8)) × Unit)) :=
 (bif (decide (a1.kind = (7 : Int))) then (let v1 : UInt8 := (UInt8.ofBitVec ((244 : UInt8).toBitVec + (UInt8.ofBitVec (BitVec.setWidth 8 a1.number)).toBitVec))
 (bif small ((a0).length + (([v1] : List (UInt8)) : List (UInt8)).length) 1 then (some ((), ((a0 ++ ([v1] : List (UInt8))), ())))
 else none))
 else (bif (decide (a1.kind = (8 : Int))) then (bif small ((a0).length + (([(246 : UInt8)] : List (UInt8)) : List (UInt8)).length) 1 then (some ((), ((a0 ++ ([(246 : UInt8)] : List (UInt8))), ())))
 else none)
 else (bif (decide (a1.kind = (3 : Int))) then (bif (decide (a1.kind = (3 : Int))) then (let v2 : UInt8 := (UInt8.ofBitVec (BitVec.ofInt 8 (IntKind.wrap .i64 (a1.kind - (1 : Int)))))
 ((cbor_appendHead a0 v2 (BitVec.ofInt 64 ((a1.data).length : Int))).bind fun r3 => (bif small ((r3.2.1).length + (a1.data : List (UInt8)).length) 1 then (some ((), ((r3.2.1 ++ a1.data), ())))
 else none)))
 else (let v4 : UInt8 := (UInt8.ofBitVec (BitVec.ofInt 8 (IntKind.wrap .i64 (a1.kind - (1 : Int)))))
 ((cbor_appendHead a0 v4 a1.number).bind fun r5 => (some ((), (r5.2.1, ()))))))
 else (bif (decide (a1.kind = (4 : Int))) then (let v6 : UInt8 := (UInt8.ofBitVec (BitVec.ofInt 8 (IntKind.wrap .i64 (a1.kind - (1 : Int)))))
 ((cbor_appendHead a0 v6 (BitVec.ofInt 64 ((a1.data).length : Int))).bind fun r7 => (bif small ((r7.2.1).length + (a1.data : List (UInt8)).length) 1 then (some ((), ((r7.2.1 ++ a1.data), ())))
 else none)))
 else (let v8 : UInt8 := (UInt8.ofBitVec (BitVec.ofInt 8 (IntKind.wrap .i64 (a1.kind - (1 : Int)))))
 ((cbor_appendHead a0 v8 a1.number).bind fun r9 => (some ((), (r9.2.1, ())))))))))
def S_cbor_appendItem : FSpec T := ⟨[.f (.own 0), .f (.v (.agg 1))], [(.own 0)], fun x => cbor_appendItem x.1 x.2.1⟩
def E_cbor_appendItem : Env T := ⟨tab.find, cd, globs, flc, fun f ds => match f with
    | 111 => some S_cbor_appendHead
    | _ => none, fun f => match f with
    | _ => false⟩
def A_cbor_appendItem : Loc2 T := ⟨fun id => match id with
    | _ => none, fun r => match r with
    | _ => none, fun r => match r with
    | _ => false⟩
theorem cbor_appendItem_eq (x : tySs T S_cbor_appendItem.ps) : run E_cbor_appendItem A_cbor_appendItem (Tryz.f79.body.getD .skip) (enterT E_cbor_appendItem.C S_cbor_appendItem.ps x) (retK E_cbor_appendItem Tryz.f79.results.toList S_cbor_appendItem.ps S_cbor_appendItem.rs) = S_cbor_appendItem.fn x := by kernel_rfl
theorem cbor_appendItem_env : EnvOk Tryz.prog E_cbor_appendItem := envOk (E := E_cbor_appendItem) cd_ok tys fl_ok fun f ds S h => by
    dsimp only [E_cbor_appendItem] at h
    split at h
    · cases h; exact cbor_appendHead_ok
    · cases h
theorem cbor_appendItem_ok : SoundT Tryz.prog cd gdn 79 S_cbor_appendItem :=
  sound_fn (E := E_cbor_appendItem) (A := A_cbor_appendItem) (done := []) (c := (Tryz.f79.body.getD .skip)) (S := S_cbor_appendItem) (fn := Tryz.f79) hmix cbor_appendItem_env Tryz.func79 rfl (by kernel_rfl) (by kernel_rfl) done_nil (by kernel_rfl) (by kernel_rfl) cbor_appendItem_eq
def cbor_smaller (a0 : (List (UInt8))) (a1 : (List (UInt8))) : Option ((Unit) × (Bool × Unit)) :=
 (bif (!decide (((a0).length : Int) = ((a1).length : Int))) then (some ((), ((decide (((a0).length : Int) < ((a1).length : Int))), ())))
 else ((bytes_Compare a0 a1).bind fun r1 => (some ((), ((decide (r1.2.1 < (0 : Int))), ())))))
def S_cbor_smaller : FSpec T := ⟨[.f (.v (.rs 0)), .f (.v (.rs 0))], [(.v .bool)], fun x => cbor_smaller x.1 x.2.1⟩
def E_cbor_smaller : Env T := ⟨tab.find, cd, globs, flc, fun f ds => match f with
    | 171 => some S_bytes_Compare
    | _ => none, fun f => match f with
    | 171 => true
    | _ => false⟩
def A_cbor_smaller : Loc2 T := ⟨fun id => match id with
    | _ => none, fun r => match r with
    | _ => none, fun r => match r with
    | _ => false⟩
theorem cbor_smaller_eq (x : tySs T S_cbor_smaller.ps) : run E_cbor_smaller A_cbor_smaller (Tryz.f150.body.getD .skip) (enterT E_cbor_smaller.C S_cbor_smaller.ps x) (retK E_cbor_smaller Tryz.f150.results.toList S_cbor_smaller.ps S_cbor_smaller.rs) = S_cbor_smaller.fn x := by kernel_rfl
theorem cbor_smaller_env : EnvOk Tryz.prog E_cbor_smaller := envOk (E := E_cbor_smaller) cd_ok tys fl_ok fun f ds S h => by
    dsimp only [E_cbor_smaller] at h
    split at h
    · cases h; exact bytes_Compare_ok
    · cases h
theorem cbor_smaller_ok : SoundT Tryz.prog cd gdn 150 S_cbor_smaller :=
  sound_fn (E := E_cbor_smaller) (A := A_cbor_smaller) (done := []) (c := (Tryz.f150.body.getD .skip)) (S := S_cbor_smaller) (fn := Tryz.f150) hmix cbor_smaller_env Tryz.func150 rfl (by kernel_rfl) (by kernel_rfl) done_nil (by kernel_rfl) (by kernel_rfl) cbor_smaller_eq
def cbor_walk_step_L0b (y0 : ((List (CborFrame)) × Int × Unit)) (y1 : Int) : Option ((((List (CborFrame)) × Int × Unit) × Int × Unit) ⊕ (((List (CborFrame)) × Int × Unit) × Unit)) :=
 (bif (decide ((0 : Int) < y1)) then (bif (decide ((0 : Int) ≤ (IntKind.wrap .i64 (y1 - (1 : Int)))) && decide ((IntKind.wrap .i64 (y1 - (1 : Int))) < ((y0.1).length : Int))) then (((y0.1)[((IntKind.wrap .i64 (y1 - (1 : Int)))).toNat]?).bind fun x10 => (bif (decide (x10.left = (0 : Int))) then (bif (decide ((0 : Int) ≤ (IntKind.wrap .i64 (y1 - (1 : Int)))) && decide ((IntKind.wrap .i64 (y1 - (1 : Int))) ≤ ((y0.1).length : Int))) then (bif decide (((IntKind.wrap .i64 (y1 - (1 : Int)))).toNat ≤ (y0.1).length) then (some (Sum.inl (((List.take ((IntKind.wrap .i64 (y1 - (1 : Int)))).toNat y0.1), y0.2.1, ()), (IntKind.wrap .i64 (y1 - (1 : Int))), ())))
 else none)
 else none)
 else (some (Sum.inr ((y0.1, y0.2.1, ()), ())))))
 else none)
 else (some (Sum.inr ((y0.1, y0.2.1, ()), ()))))
def cbor_walk_step_L0 (y : (((List (CborFrame)) × Int × Unit) × Int × Unit)) : Option (((List (CborFrame)) × Int × Unit) × Unit) := iter (fun (y : (((List (CborFrame)) × Int × Unit) × Int × Unit)) => cbor_walk_step_L0b y.1 y.2.1) rounds y
def cbor_walk_step (a0 : ((List (CborFrame)) × Int × Unit)) (a1 : ApiItem) : Option ((((List (CborFrame)) × Int × Unit) × Unit) × (Unit)) :=
 ((bif (decide ((0 : Int) < ((a0.1).length : Int))) then (bif (decide ((0 : Int) ≤ (IntKind.wrap .i64 (((a0.1).length : Int) - (1 : Int)))) && decide ((IntKind.wrap .i64 (((a0.1).length : Int) - (1 : Int))) < ((a0.1).length : Int))) then (((a0.1)[((IntKind.wrap .i64 (((a0.1).length : Int) - (1 : Int)))).toNat]?).bind fun x1 => (bif (decide ((0 : Int) ≤ (IntKind.wrap .i64 (((a0.1).length : Int) - (1 : Int)))) && decide ((IntKind.wrap .i64 (((a0.1).length : Int) - (1 : Int))) < ((a0.1).length : Int))) then (((a0.1)[((IntKind.wrap .i64 (((a0.1).length : Int) - (1 : Int)))).toNat]?).bind fun x2 => (let v3 : List (CborFrame) := (List.set a0.1 ((IntKind.wrap .i64 (((a0.1).length : Int) - (1 : Int)))).toNat (⟨x2.pairs, (IntKind.wrap .i64 (x1.left - (1 : Int))), x2.last_⟩ : CborFrame))
 (some ((v3, (IntKind.wrap .i64 (a0.2.1 + (1 : Int))), ()), (a1, ()), ()))))
 else none))
 else none)
 else (some ((a0.1, (IntKind.wrap .i64 (a0.2.1 + (1 : Int))), ()), (a1, ()), ()))).bind (fun (j4 : (((List (CborFrame)) × Int × Unit) × (ApiItem × Unit) × Unit)) => ((bif (decide (j4.2.1.1.kind = (5 : Int))) then (bif (decide ((0#64).toNat < j4.2.1.1.number.toNat)) then (let v5 : List (CborFrame) := ([(⟨false, (IntKind.wrap .i64 (j4.2.1.1.number.toNat : Int)), []⟩ : CborFrame)] : List (CborFrame))
 (bif small ((j4.1.1).length + (v5 : List (CborFrame)).length) 40 then (some (((j4.1.1 ++ v5), j4.1.2.1, ()), (j4.2.1.1, ()), ()))
 else none))
 else (some ((j4.1.1, j4.1.2.1, ()), (j4.2.1.1, ()), ())))
 else (some ((j4.1.1, j4.1.2.1, ()), (j4.2.1.1, ()), ()))).bind (fun (j6 : (((List (CborFrame)) × Int × Unit) × (ApiItem × Unit) × Unit)) => ((bif (decide (j6.2.1.1.kind = (6 : Int))) then (bif (decide ((0#64).toNat < j6.2.1.1.number.toNat)) then (let v7 : Int := (IntKind.wrap .i64 ((2 : Int) * (IntKind.wrap .i64 (j6.2.1.1.number.toNat : Int))))
 (bif small ((j6.1.1).length + (([(⟨true, v7, []⟩ : CborFrame)] : List (CborFrame)) : List (CborFrame)).length) 40 then (let v8 : List (CborFrame) := (j6.1.1 ++ ([(⟨true, v7, []⟩ : CborFrame)] : List (CborFrame)))
 (some ((v8, j6.1.2.1, ()), ())))
 else none))
 else (some ((j6.1.1, j6.1.2.1, ()), ())))
 else (some ((j6.1.1, j6.1.2.1, ()), ()))).bind (fun (j9 : (((List (CborFrame)) × Int × Unit) × Unit)) => ((cbor_walk_step_L0 ((j9.1.1, j9.1.2.1, ()), ((j9.1.1).length : Int), ())).bind (fun (z11 : (((List (CborFrame)) × Int × Unit) × Unit)) => (some (((z11.1.1, z11.1.2.1, ()), ()), ()))))))))))
def S_cbor_walk_step : FSpec T := ⟨[.ptr [(.own 6), (.v (.int .i64))], .f (.v (.agg 1))], [], fun x => cbor_walk_step x.1 x.2.1⟩
def E_cbor_walk_step : Env T := ⟨tab.find, cd, globs, flc, fun f ds => match f with
    | _ => none, fun f => match f with
    | _ => false⟩
def A_cbor_walk_step : Loc2 T := ⟨fun id => match id with
    | 0 => some ⟨[(0, .ptr [(.own 6), (.v (.int .i64))]), (5, .f (.v (.int .i64)))], [(.exit 0, [(0, .ptr [(.own 6), (.v (.int .i64))])])], cbor_walk_step_L0, []⟩
    | _ => none, fun r => match r with
    | 5 => some ([(0, .ptr [(.own 6), (.v (.int .i64))]), (3, .ptr [(.v (.agg 1))])], true)
    | 7 => some ([(0, .ptr [(.own 6), (.v (.int .i64))]), (3, .ptr [(.v (.agg 1))])], true)
    | 9 => some ([(0, .ptr [(.own 6), (.v (.int .i64))])], true)
    | _ => none, fun r => match r with
    | 6 => true
    | 8 => true
    | _ => false⟩
theorem cbor_walk_step_L0_eq (y0 : ((List (CborFrame)) × Int × Unit)) (y1 : Int) : run E_cbor_walk_step A_cbor_walk_step (loopAt 0 (Tryz.f151.body.getD .skip)) (layC cd [(0, .ptr [(.own 6), (.v (.int .i64))]), (5, .f (.v (.int .i64)))] [] (y0, y1, ())) (roundK cd [(0, .ptr [(.own 6), (.v (.int .i64))]), (5, .f (.v (.int .i64)))] [] [(.exit 0, [(0, .ptr [(.own 6), (.v (.int .i64))])])]) = cbor_walk_step_L0b y0 y1 := by kernel_rfl
theorem cbor_walk_step_eq (x : tySs T S_cbor_walk_step.ps) : run E_cbor_walk_step A_cbor_walk_step (Tryz.f151.body.getD .skip) (enterT E_cbor_walk_step.C S_cbor_walk_step.ps x) (retK E_cbor_walk_step Tryz.f151.results.toList S_cbor_walk_step.ps S_cbor_walk_step.rs) = S_cbor_walk_step.fn x := by kernel_rfl
theorem cbor_walk_step_env : EnvOk Tryz.prog E_cbor_walk_step := envOk (E := E_cbor_walk_step) cd_ok tys fl_ok fun f ds S h => by cases h
theorem cbor_walk_step_L0_ok : LoopOk Tryz.prog E_cbor_walk_step Tryz.f151.ntmps (kqOf S_cbor_walk_step.ps 0) (loopAt 0 (Tryz.f151.body.getD .skip)) ⟨[(0, .ptr [(.own 6), (.v (.int .i64))]), (5, .f (.v (.int .i64)))], [(.exit 0, [(0, .ptr [(.own 6), (.v (.int .i64))])])], cbor_walk_step_L0, []⟩ :=
  loop_ok (A := A_cbor_walk_step) (done := []) (c0 := (Tryz.f151.body.getD .skip)) hmix cbor_walk_step_env done_nil rounds (by kernel_rfl) (by kernel_rfl) (fun x => cbor_walk_step_L0_eq x.1 x.2.1) (fun _ => rfl)
theorem cbor_walk_step_ok : SoundT Tryz.prog cd gdn 151 S_cbor_walk_step :=
  sound_fn (E := E_cbor_walk_step) (A := A_cbor_walk_step) (done := [0]) (c := (Tryz.f151.body.getD .skip)) (S := S_cbor_walk_step) (fn := Tryz.f151) hmix cbor_walk_step_env Tryz.func151 rfl (by kernel_rfl) (by kernel_rfl) (done_cons rfl cbor_walk_step_L0_ok done_nil) (by kernel_rfl) (by kernel_rfl) cbor_walk_step_eq
def cbor_walk_accept (a0 : ((List (CborFrame)) × Int × Unit)) (a1 : ApiItem) : Option ((((List (CborFrame)) × Int × Unit) × Unit) × (Int × Unit)) :=
 (bif (decide (a1.kind = (4 : Int))) then ((utf8_ValidString a1.data).bind fun r1 => (bif (!r1.2.1) then (some (((a0.1, a0.2.1, ()), ()), ((6 : Int), ())))
 else ((cbor_walk_atKey (⟨a0.1, a0.2.1⟩ : CborWalk)).bind fun r2 => (bif r2.2.1 then (bif (decide ((0 : Int) ≤ (IntKind.wrap .i64 (((a0.1).length : Int) - (1 : Int)))) && decide ((IntKind.wrap .i64 (((a0.1).length : Int) - (1 : Int))) < ((a0.1).length : Int))) then ((cbor_appendItem [] a1).bind fun r3 => (((a0.1)[((IntKind.wrap .i64 (((a0.1).length : Int) - (1 : Int)))).toNat]?).bind fun x4 => (bif (!(x4.last_).isEmpty) then (((a0.1)[((IntKind.wrap .i64 (((a0.1).length : Int) - (1 : Int)))).toNat]?).bind fun x5 => ((cbor_smaller x5.last_ r3.2.1).bind fun r6 => (bif (!r6.2.1) then (some (((a0.1, a0.2.1, ()), ()), ((7 : Int), ())))
 else (((a0.1)[((IntKind.wrap .i64 (((a0.1).length : Int) - (1 : Int)))).toNat]?).bind fun x7 => (bif (r3.2.1).isEmpty then none
 else (let v8 : List (CborFrame) := (List.set a0.1 ((IntKind.wrap .i64 (((a0.1).length : Int) - (1 : Int)))).toNat (⟨x7.pairs, x7.left, r3.2.1⟩ : CborFrame))
 ((cbor_walk_step (v8, a0.2.1, ()) a1).bind fun r9 => (some (((r9.1.1.1, r9.1.1.2.1, ()), ()), ((0 : Int), ()))))))))))
 else (((a0.1)[((IntKind.wrap .i64 (((a0.1).length : Int) - (1 : Int)))).toNat]?).bind fun x10 => (bif (r3.2.1).isEmpty then none
 else (let v11 : List (CborFrame) := (List.set a0.1 ((IntKind.wrap .i64 (((a0.1).length : Int) - (1 : Int)))).toNat (⟨x10.pairs, x10.left, r3.2.1⟩ : CborFrame))
 ((cbor_walk_step (v11, a0.2.1, ()) a1).bind fun r12 => (some (((r12.1.1.1, r12.1.1.2.1, ()), ()), ((0 : Int), ()))))))))))
 else none)
 else ((cbor_walk_step (a0.1, a0.2.1, ()) a1).bind fun r13 => (some (((r13.1.1.1, r13.1.1.2.1, ()), ()), ((0 : Int), ()))))))))
 else ((cbor_walk_atKey (⟨a0.1, a0.2.1⟩ : CborWalk)).bind fun r14 => (bif r14.2.1 then (bif (decide ((0 : Int) ≤ (IntKind.wrap .i64 (((a0.1).length : Int) - (1 : Int)))) && decide ((IntKind.wrap .i64 (((a0.1).length : Int) - (1 : Int))) < ((a0.1).length : Int))) then ((cbor_appendItem [] a1).bind fun r15 => (((a0.1)[((IntKind.wrap .i64 (((a0.1).length : Int) - (1 : Int)))).toNat]?).bind fun x16 => (bif (!(x16.last_).isEmpty) then (((a0.1)[((IntKind.wrap .i64 (((a0.1).length : Int) - (1 : Int)))).toNat]?).bind fun x17 => ((cbor_smaller x17.last_ r15.2.1).bind fun r18 => (bif (!r18.2.1) then (some (((a0.1, a0.2.1, ()), ()), ((7 : Int), ())))
 else (((a0.1)[((IntKind.wrap .i64 (((a0.1).length : Int) - (1 : Int)))).toNat]?).bind fun x19 => (bif (r15.2.1).isEmpty then none
 else (let v20 : List (CborFrame) := (List.set a0.1 ((IntKind.wrap .i64 (((a0.1).length : Int) - (1 : Int)))).toNat (⟨x19.pairs, x19.left, r15.2.1⟩ : CborFrame))
 ((cbor_walk_step (v20, a0.2.1, ()) a1).bind fun r21 => (some (((r21.1.1.1, r21.1.1.2.1, ()), ()), ((0 : Int), ()))))))))))
 else (((a0.1)[((IntKind.wrap .i64 (((a0.1).length : Int) - (1 : Int)))).toNat]?).bind fun x22 => (bif (r15.2.1).isEmpty then none
 else (let v23 : List (CborFrame) := (List.set a0.1 ((IntKind.wrap .i64 (((a0.1).length : Int) - (1 : Int)))).toNat (⟨x22.pairs, x22.left, r15.2.1⟩ : CborFrame))
 ((cbor_walk_step (v23, a0.2.1, ()) a1).bind fun r24 => (some (((r24.1.1.1, r24.1.1.2.1, ()), ()), ((0 : Int), ()))))))))))
 else none)
 else ((cbor_walk_step (a0.1, a0.2.1, ()) a1).bind fun r25 => (some (((r25.1.1.1, r25.1.1.2.1, ()), ()), ((0 : Int), ())))))))
def S_cbor_walk_accept : FSpec T := ⟨[.ptr [(.own 6), (.v (.int .i64))], .f (.v (.agg 1))], [(.v (.int .i64))], fun x => cbor_walk_accept x.1 x.2.1⟩
def E_cbor_walk_accept : Env T := ⟨tab.find, cd, globs, flc, fun f ds => match f with
    | 49 => some S_utf8_ValidString
    | 79 => some S_cbor_appendItem
    | 149 => some S_cbor_walk_atKey
    | 150 => some S_cbor_smaller
    | 151 => some S_cbor_walk_step
    | _ => none, fun f => match f with
    | 49 => true
    | 149 => true
    | 150 => true
    | _ => false⟩
def A_cbor_walk_accept : Loc2 T := ⟨fun id => match id with
    | _ => none, fun r => match r with
    | _ => none, fun r => match r with
    | _ => false⟩
theorem cbor_walk_accept_eq (x : tySs T S_cbor_walk_accept.ps) : run E_cbor_walk_accept A_cbor_walk_accept (Tryz.f116.body.getD .skip) (enterT E_cbor_walk_accept.C S_cbor_walk_accept.ps x) (retK E_cbor_walk_accept Tryz.f116.results.toList S_cbor_walk_accept.ps S_cbor_walk_accept.rs) = S_cbor_walk_accept.fn x := by kernel_rfl
theorem cbor_walk_accept_env : EnvOk Tryz.prog E_cbor_walk_accept := envOk (E := E_cbor_walk_accept) cd_ok tys fl_ok fun f ds S h => by
    dsimp only [E_cbor_walk_accept] at h
    split at h
    · cases h; exact utf8_ValidString_ok
    · cases h; exact cbor_appendItem_ok
    · cases h; exact cbor_walk_atKey_ok
    · cases h; exact cbor_smaller_ok
    · cases h; exact cbor_walk_step_ok
    · cases h
theorem cbor_walk_accept_ok : SoundT Tryz.prog cd gdn 116 S_cbor_walk_accept :=
  sound_fn (E := E_cbor_walk_accept) (A := A_cbor_walk_accept) (done := []) (c := (Tryz.f116.body.getD .skip)) (S := S_cbor_walk_accept) (fn := Tryz.f116) hmix cbor_walk_accept_env Tryz.func116 rfl (by kernel_rfl) (by kernel_rfl) done_nil (by kernel_rfl) (by kernel_rfl) cbor_walk_accept_eq
def cbor_checker_item (a0 : ((List (CborFrame)) × Int × Unit)) (a1 : ApiItem) : Option ((((List (CborFrame)) × Int × Unit) × Unit) × (Int × Unit)) :=
 ((cbor_walk_done (⟨a0.1, a0.2.1⟩ : CborWalk)).bind fun r1 => (bif r1.2.1 then (some (((a0.1, a0.2.1, ()), ()), ((2 : Int), ())))
 else ((cbor_walk_admit (⟨a0.1, a0.2.1⟩ : CborWalk) a1.kind).bind fun r2 => (bif (!decide (r2.2.1 = (0 : Int))) then (some (((a0.1, a0.2.1, ()), ()), (r2.2.1, ())))
 else ((cbor_shaped a1).bind fun r3 => (bif (!r3.2.1) then (some (((a0.1, a0.2.1, ()), ()), ((4 : Int), ())))
 else (bif (decide ((1024 : Int) < ((a1.data).length : Int))) then (some (((a0.1, a0.2.1, ()), ()), ((8 : Int), ())))
 else (bif (decide (a1.kind = (5 : Int))) then (bif (decide ((512#64).toNat < a1.number.toNat)) then (some (((a0.1, a0.2.1, ()), ()), ((8 : Int), ())))
 else ((cbor_walk_accept (a0.1, a0.2.1, ()) a1).bind fun r4 => (some (((r4.1.1.1, r4.1.1.2.1, ()), ()), (r4.2.1, ())))))
 else (bif (decide (a1.kind = (6 : Int))) then (bif (decide ((512#64).toNat < a1.number.toNat)) then (some (((a0.1, a0.2.1, ()), ()), ((8 : Int), ())))
 else ((cbor_walk_accept (a0.1, a0.2.1, ()) a1).bind fun r5 => (some (((r5.1.1.1, r5.1.1.2.1, ()), ()), (r5.2.1, ())))))
 else ((cbor_walk_accept (a0.1, a0.2.1, ()) a1).bind fun r6 => (some (((r6.1.1.1, r6.1.1.2.1, ()), ()), (r6.2.1, ())))))))))))))
def S_cbor_checker_item : FSpec T := ⟨[.ptr [(.own 6), (.v (.int .i64))], .f (.v (.agg 1))], [(.v (.int .i64))], fun x => cbor_checker_item x.1 x.2.1⟩
def E_cbor_checker_item : Env T := ⟨tab.find, cd, globs, flc, fun f ds => match f with
    | 83 => some S_cbor_walk_done
    | 115 => some S_cbor_walk_admit
    | 116 => some S_cbor_walk_accept
    | 146 => some S_cbor_shaped
    | _ => none, fun f => match f with
    | 83 => true
    | 115 => true
    | 146 => true
    | _ => false⟩
def A_cbor_checker_item : Loc2 T := ⟨fun id => match id with
    | _ => none, fun r => match r with
    | _ => none, fun r => match r with
    | _ => false⟩
theorem cbor_checker_item_eq (x : tySs T S_cbor_checker_item.ps) : run E_cbor_checker_item A_cbor_checker_item (Tryz.f110.body.getD .skip) (enterT E_cbor_checker_item.C S_cbor_checker_item.ps x) (retK E_cbor_checker_item Tryz.f110.results.toList S_cbor_checker_item.ps S_cbor_checker_item.rs) = S_cbor_checker_item.fn x := by kernel_rfl
theorem cbor_checker_item_env : EnvOk Tryz.prog E_cbor_checker_item := envOk (E := E_cbor_checker_item) cd_ok tys fl_ok fun f ds S h => by
    dsimp only [E_cbor_checker_item] at h
    split at h
    · cases h; exact cbor_walk_done_ok
    · cases h; exact cbor_walk_admit_ok
    · cases h; exact cbor_walk_accept_ok
    · cases h; exact cbor_shaped_ok
    · cases h
theorem cbor_checker_item_ok : SoundT Tryz.prog cd gdn 110 S_cbor_checker_item :=
  sound_fn (E := E_cbor_checker_item) (A := A_cbor_checker_item) (done := []) (c := (Tryz.f110.body.getD .skip)) (S := S_cbor_checker_item) (fn := Tryz.f110) hmix cbor_checker_item_env Tryz.func110 rfl (by kernel_rfl) (by kernel_rfl) done_nil (by kernel_rfl) (by kernel_rfl) cbor_checker_item_eq
def cbor_Validate_L0b (y0 : ((List (CborFrame)) × Int × Unit)) (y1 : (List (ApiItem))) (y2 : Int) (y3 : Int) : Option ((((List (CborFrame)) × Int × Unit) × (List (ApiItem)) × Int × Int × Unit) ⊕ ((Int × Unit) ⊕ (((List (CborFrame)) × Int × Unit) × Unit))) :=
 (bif (decide (y3 < y2)) then ((getI y1 y3).bind fun x1 => ((cbor_checker_item (y0.1, y0.2.1, ()) x1).bind fun r2 => (bif (!decide (r2.2.1 = (0 : Int))) then (some (Sum.inr (Sum.inl (r2.2.1, ()))))
 else (some (Sum.inl ((r2.1.1.1, r2.1.1.2.1, ()), y1, y2, (IntKind.wrap .i64 (y3 + (1 : Int))), ()))))))
 else (some (Sum.inr (Sum.inr ((y0.1, y0.2.1, ()), ())))))
def cbor_Validate_L0 (y : (((List (CborFrame)) × Int × Unit) × (List (ApiItem)) × Int × Int × Unit)) : Option ((Int × Unit) ⊕ (((List (CborFrame)) × Int × Unit) × Unit)) := iter (fun (y : (((List (CborFrame)) × Int × Unit) × (List (ApiItem)) × Int × Int × Unit)) => cbor_Validate_L0b y.1 y.2.1 y.2.2.1 y.2.2.2.1) rounds y
def cbor_Validate (a0 : (List (ApiItem))) : Option ((Unit) × (Int × Unit)) :=
 ((cbor_Validate_L0 (([], (0 : Int), ()), a0, ((a0).length : Int), (0 : Int), ())).bind (Sum.elim (fun (z3 : (Int × Unit)) => (some ((), (z3.1, ())))) (fun (z4 : (((List (CborFrame)) × Int × Unit) × Unit)) => ((cbor_walk_done (⟨z4.1.1, z4.1.2.1⟩ : CborWalk)).bind fun r5 => (bif (!r5.2.1) then (some ((), ((1 : Int), ())))
 else (some ((), ((0 : Int), ()))))))))
def S_cbor_Validate : FSpec T := ⟨[.f (.v (.rs 1))], [(.v (.int .i64))], fun x => cbor_Validate x.1⟩
def E_cbor_Validate : Env T := ⟨tab.find, cd, globs, flc, fun f ds => match f with
    | 83 => some S_cbor_walk_done
    | 110 => some S_cbor_checker_item
    | _ => none, fun f => match f with
    | 83 => true
    | _ => false⟩
def A_cbor_Validate : Loc2 T := ⟨fun id => match id with
    | 0 => some ⟨[(3, .ptr [(.own 6), (.v (.int .i64))]), (7, .f (.v (.rs 1))), (8, .f (.v (.int .i64))), (9, .f (.v (.int .i64)))], [(.ret, [(2, .f (.v (.int .i64)))]), (.exit 0, [(3, .ptr [(.own 6), (.v (.int .i64))])])], cbor_Validate_L0, []⟩
    | _ => none, fun r => match r with
    | _ => none, fun r => match r with
    | _ => false⟩
theorem cbor_Validate_L0_eq (y0 : ((List (CborFrame)) × Int × Unit)) (y1 : (List (ApiItem))) (y2 : Int) (y3 : Int) : run E_cbor_Validate A_cbor_Validate (loopAt 0 (Tryz.f78.body.getD .skip)) (layC cd [(3, .ptr [(.own 6), (.v (.int .i64))]), (7, .f (.v (.rs 1))), (8, .f (.v (.int .i64))), (9, .f (.v (.int .i64)))] [] (y0, y1, y2, y3, ())) (roundK cd [(3, .ptr [(.own 6), (.v (.int .i64))]), (7, .f (.v (.rs 1))), (8, .f (.v (.int .i64))), (9, .f (.v (.int .i64)))] [] [(.ret, [(2, .f (.v (.int .i64)))]), (.exit 0, [(3, .ptr [(.own 6), (.v (.int .i64))])])]) = cbor_Validate_L0b y0 y1 y2 y3 := by kernel_rfl
theorem cbor_Validate_eq (x : tySs T S_cbor_Validate.ps) : run E_cbor_Validate A_cbor_Validate (Tryz.f78.body.getD .skip) (enterT E_cbor_Validate.C S_cbor_Validate.ps x) (retK E_cbor_Validate Tryz.f78.results.toList S_cbor_Validate.ps S_cbor_Validate.rs) = S_cbor_Validate.fn x := by kernel_rfl
theorem cbor_Validate_env : EnvOk Tryz.prog E_cbor_Validate := envOk (E := E_cbor_Validate) cd_ok tys fl_ok fun f ds S h => by
    dsimp only [E_cbor_Validate] at h
    split at h
    · cases h; exact cbor_walk_done_ok
    · cases h; exact cbor_checker_item_ok
    · cases h
theorem cbor_Validate_L0_ok : LoopOk Tryz.prog E_cbor_Validate Tryz.f78.ntmps (kqOf S_cbor_Validate.ps 0) (loopAt 0 (Tryz.f78.body.getD .skip)) ⟨[(3, .ptr [(.own 6), (.v (.int .i64))]), (7, .f (.v (.rs 1))), (8, .f (.v (.int .i64))), (9, .f (.v (.int .i64)))], [(.ret, [(2, .f (.v (.int .i64)))]), (.exit 0, [(3, .ptr [(.own 6), (.v (.int .i64))])])], cbor_Validate_L0, []⟩ :=
  loop_ok (A := A_cbor_Validate) (done := []) (c0 := (Tryz.f78.body.getD .skip)) hmix cbor_Validate_env done_nil rounds (by kernel_rfl) (by kernel_rfl) (fun x => cbor_Validate_L0_eq x.1 x.2.1 x.2.2.1 x.2.2.2.1) (fun _ => rfl)
theorem cbor_Validate_ok : SoundT Tryz.prog cd gdn 78 S_cbor_Validate :=
  sound_fn (E := E_cbor_Validate) (A := A_cbor_Validate) (done := [0]) (c := (Tryz.f78.body.getD .skip)) (S := S_cbor_Validate) (fn := Tryz.f78) hmix cbor_Validate_env Tryz.func78 rfl (by kernel_rfl) (by kernel_rfl) (done_cons rfl cbor_Validate_L0_ok done_nil) (by kernel_rfl) (by kernel_rfl) cbor_Validate_eq
def cbor_faulty_L0b (y0 : (List (List ApiItem))) (y1 : Int) (y2 : Int) : Option (((List (List ApiItem)) × Int × Int × Unit) ⊕ ((Int × Unit) ⊕ (Unit))) :=
 (bif (decide (y2 < y1)) then ((getI y0 y2).bind fun x1 => ((cbor_Validate x1).bind fun r2 => (bif (!decide (r2.2.1 = (0 : Int))) then (some (Sum.inr (Sum.inl (r2.2.1, ()))))
 else (some (Sum.inl (y0, y1, (IntKind.wrap .i64 (y2 + (1 : Int))), ()))))))
 else (some (Sum.inr (Sum.inr ()))))
def cbor_faulty_L0 (y : ((List (List ApiItem)) × Int × Int × Unit)) : Option ((Int × Unit) ⊕ (Unit)) := iter (fun (y : ((List (List ApiItem)) × Int × Int × Unit)) => cbor_faulty_L0b y.1 y.2.1 y.2.2.1) rounds y
def cbor_faulty (a0 : (List (List ApiItem))) : Option ((Unit) × (Int × Unit)) :=
 ((cbor_faulty_L0 (a0, ((a0).length : Int), (0 : Int), ())).bind (Sum.elim (fun (z3 : (Int × Unit)) => (some ((), (z3.1, ())))) (fun (z4 : (Unit)) => (some ((), ((0 : Int), ()))))))
def S_cbor_faulty : FSpec T := ⟨[.f (.v (.rs 4))], [(.v (.int .i64))], fun x => cbor_faulty x.1⟩
def E_cbor_faulty : Env T := ⟨tab.find, cd, globs, flc, fun f ds => match f with
    | 78 => some S_cbor_Validate
    | _ => none, fun f => match f with
    | 78 => true
    | _ => false⟩
def A_cbor_faulty : Loc2 T := ⟨fun id => match id with
    | 0 => some ⟨[(6, .f (.v (.rs 4))), (7, .f (.v (.int .i64))), (8, .f (.v (.int .i64)))], [(.ret, [(2, .f (.v (.int .i64)))]), (.exit 0, [])], cbor_faulty_L0, []⟩
    | _ => none, fun r => match r with
    | _ => none, fun r => match r with
    | _ => false⟩
theorem cbor_faulty_L0_eq (y0 : (List (List ApiItem))) (y1 : Int) (y2 : Int) : run E_cbor_faulty A_cbor_faulty (loopAt 0 (Tryz.f76.body.getD .skip)) (layC cd [(6, .f (.v (.rs 4))), (7, .f (.v (.int .i64))), (8, .f (.v (.int .i64)))] [] (y0, y1, y2, ())) (roundK cd [(6, .f (.v (.rs 4))), (7, .f (.v (.int .i64))), (8, .f (.v (.int .i64)))] [] [(.ret, [(2, .f (.v (.int .i64)))]), (.exit 0, [])]) = cbor_faulty_L0b y0 y1 y2 := by kernel_rfl
theorem cbor_faulty_eq (x : tySs T S_cbor_faulty.ps) : run E_cbor_faulty A_cbor_faulty (Tryz.f76.body.getD .skip) (enterT E_cbor_faulty.C S_cbor_faulty.ps x) (retK E_cbor_faulty Tryz.f76.results.toList S_cbor_faulty.ps S_cbor_faulty.rs) = S_cbor_faulty.fn x := by kernel_rfl
theorem cbor_faulty_env : EnvOk Tryz.prog E_cbor_faulty := envOk (E := E_cbor_faulty) cd_ok tys fl_ok fun f ds S h => by
    dsimp only [E_cbor_faulty] at h
    split at h
    · cases h; exact cbor_Validate_ok
    · cases h
theorem cbor_faulty_L0_ok : LoopOk Tryz.prog E_cbor_faulty Tryz.f76.ntmps (kqOf S_cbor_faulty.ps 0) (loopAt 0 (Tryz.f76.body.getD .skip)) ⟨[(6, .f (.v (.rs 4))), (7, .f (.v (.int .i64))), (8, .f (.v (.int .i64)))], [(.ret, [(2, .f (.v (.int .i64)))]), (.exit 0, [])], cbor_faulty_L0, []⟩ :=
  loop_ok (A := A_cbor_faulty) (done := []) (c0 := (Tryz.f76.body.getD .skip)) hmix cbor_faulty_env done_nil rounds (by kernel_rfl) (by kernel_rfl) (fun x => cbor_faulty_L0_eq x.1 x.2.1 x.2.2.1) (fun _ => rfl)
theorem cbor_faulty_ok : SoundT Tryz.prog cd gdn 76 S_cbor_faulty :=
  sound_fn (E := E_cbor_faulty) (A := A_cbor_faulty) (done := [0]) (c := (Tryz.f76.body.getD .skip)) (S := S_cbor_faulty) (fn := Tryz.f76) hmix cbor_faulty_env Tryz.func76 rfl (by kernel_rfl) (by kernel_rfl) (done_cons rfl cbor_faulty_L0_ok done_nil) (by kernel_rfl) (by kernel_rfl) cbor_faulty_eq
def cbor_checked (a0 : (List (ApiItem))) : Option ((Unit) × ((List (ApiItem)) × Int × Unit)) :=
 ((cbor_Validate a0).bind fun r1 => (bif (!decide (r1.2.1 = (0 : Int))) then (some ((), ([], r1.2.1, ())))
 else (some ((), (a0, (0 : Int), ())))))
def S_cbor_checked : FSpec T := ⟨[.f (.v (.rs 1))], [(.v (.rs 1)), (.v (.int .i64))], fun x => cbor_checked x.1⟩
def E_cbor_checked : Env T := ⟨tab.find, cd, globs, flc, fun f ds => match f with
    | 78 => some S_cbor_Validate
    | _ => none, fun f => match f with
    | 78 => true
    | _ => false⟩
def A_cbor_checked : Loc2 T := ⟨fun id => match id with
    | _ => none, fun r => match r with
    | _ => none, fun r => match r with
    | _ => false⟩
theorem cbor_checked_eq (x : tySs T S_cbor_checked.ps) : run E_cbor_checked A_cbor_checked (Tryz.f77.body.getD .skip) (enterT E_cbor_checked.C S_cbor_checked.ps x) (retK E_cbor_checked Tryz.f77.results.toList S_cbor_checked.ps S_cbor_checked.rs) = S_cbor_checked.fn x := by kernel_rfl
theorem cbor_checked_env : EnvOk Tryz.prog E_cbor_checked := envOk (E := E_cbor_checked) cd_ok tys fl_ok fun f ds S h => by
    dsimp only [E_cbor_checked] at h
    split at h
    · cases h; exact cbor_Validate_ok
    · cases h
theorem cbor_checked_ok : SoundT Tryz.prog cd gdn 77 S_cbor_checked :=
  sound_fn (E := E_cbor_checked) (A := A_cbor_checked) (done := []) (c := (Tryz.f77.body.getD .skip)) (S := S_cbor_checked) (fn := Tryz.f77) hmix cbor_checked_env Tryz.func77 rfl (by kernel_rfl) (by kernel_rfl) done_nil (by kernel_rfl) (by kernel_rfl) cbor_checked_eq
def cbor_Map_L0b (y0 : (List (List ApiItem))) (y1 : (List (BitVec 64))) (y2 : (List (Int))) (y3 : Int) (y4 : Int) : Option (((List (List ApiItem)) × (List (BitVec 64)) × (List (Int)) × Int × Int × Unit) ⊕ ((List (List ApiItem)) × (List (BitVec 64)) × (List (Int)) × Unit)) :=
 (bif (decide (y4 < y3)) then (bif (decide ((0 : Int) ≤ y4) && decide (y4 < ((y2).length : Int))) then (((y2)[(y4).toNat]?).bind fun x2 => (some (Sum.inl (y0, y1, (List.set y2 (y4).toNat y4), y3, (IntKind.wrap .i64 (y4 + (1 : Int))), ()))))
 else none)
 else (some (Sum.inr (y0, y1, y2, ()))))
def cbor_Map_L0 (y : ((List (List ApiItem)) × (List (BitVec 64)) × (List (Int)) × Int × Int × Unit)) : Option ((List (List ApiItem)) × (List (BitVec 64)) × (List (Int)) × Unit) := iter (fun (y : ((List (List ApiItem)) × (List (BitVec 64)) × (List (Int)) × Int × Int × Unit)) => cbor_Map_L0b y.1 y.2.1 y.2.2.1 y.2.2.2.1 y.2.2.2.2.1) rounds y
def cbor_Map_L2b (y0 : (List (List ApiItem))) (y1 : (List (BitVec 64))) (y2 : (List (Int))) (y3 : Int) : Option (((List (List ApiItem)) × (List (BitVec 64)) × (List (Int)) × Int × Unit) ⊕ (((List (ApiItem)) × Int × Unit) ⊕ ((List (List ApiItem)) × (List (BitVec 64)) × (List (Int)) × Unit))) :=
 (bif (decide (y3 < ((y2).length : Int))) then (bif (decide ((0 : Int) ≤ (IntKind.wrap .i64 (y3 - (1 : Int)))) && decide ((IntKind.wrap .i64 (y3 - (1 : Int))) < ((y2).length : Int))) then (((y2)[((IntKind.wrap .i64 (y3 - (1 : Int)))).toNat]?).bind fun x5 => ((getI y1 x5).bind fun x6 => (bif (decide ((0 : Int) ≤ y3) && decide (y3 < ((y2).length : Int))) then (((y2)[(y3).toNat]?).bind fun x7 => ((getI y1 x7).bind fun x8 => (bif (decide (x6 = x8)) then (some (Sum.inr (Sum.inl ([], (10 : Int), ()))))
 else (some (Sum.inl (y0, y1, y2, (IntKind.wrap .i64 (y3 + (1 : Int))), ()))))))
 else none)))
 else none)
 else (some (Sum.inr (Sum.inr (y0, y1, y2, ())))))
def cbor_Map_L2 (y : ((List (List ApiItem)) × (List (BitVec 64)) × (List (Int)) × Int × Unit)) : Option (((List (ApiItem)) × Int × Unit) ⊕ ((List (List ApiItem)) × (List (BitVec 64)) × (List (Int)) × Unit)) := iter (fun (y : ((List (List ApiItem)) × (List (BitVec 64)) × (List (Int)) × Int × Unit)) => cbor_Map_L2b y.1 y.2.1 y.2.2.1 y.2.2.2.1) rounds y
def cbor_Map_L4b (y0 : (List (List ApiItem))) (y1 : (List (BitVec 64))) (y2 : (List (ApiItem))) (y3 : (List (Int))) (y4 : Int) (y5 : Int) : Option (((List (List ApiItem)) × (List (BitVec 64)) × (List (ApiItem)) × (List (Int)) × Int × Int × Unit) ⊕ ((List (ApiItem)) × Unit)) :=
 (bif (decide (y5 < y4)) then (bif (decide ((0 : Int) ≤ y5) && decide (y5 < ((y3).length : Int))) then (((y3)[(y5).toNat]?).bind fun x13 => (bif (decide ((512 : Int) < ((y2).length : Int))) then (some (Sum.inr (y2, ())))
 else ((getI y1 x13).bind fun x14 => ((cbor_Uint x14).bind fun r15 => (bif small ((y2).length + (r15.2.1 : List (ApiItem)).length) 32 then ((getI y0 x13).bind fun x16 => (bif small (((y2 ++ r15.2.1)).length + (x16 : List (ApiItem)).length) 32 then (some (Sum.inl (y0, y1, ((y2 ++ r15.2.1) ++ x16), y3, y4, (IntKind.wrap .i64 (y5 + (1 : Int))), ())))
 else none))
 else none)))))
 else none)
 else (some (Sum.inr (y2, ()))))
def cbor_Map_L4 (y : ((List (List ApiItem)) × (List (BitVec 64)) × (List (ApiItem)) × (List (Int)) × Int × Int × Unit)) : Option ((List (ApiItem)) × Unit) := iter (fun (y : ((List (List ApiItem)) × (List (BitVec 64)) × (List (ApiItem)) × (List (Int)) × Int × Int × Unit)) => cbor_Map_L4b y.1 y.2.1 y.2.2.1 y.2.2.2.1 y.2.2.2.2.1 y.2.2.2.2.2.1) rounds y
def cbor_Map (a0 : (List (BitVec 64))) (a1 : (List (List ApiItem))) : Option ((Unit) × ((List (ApiItem)) × Int × Unit)) :=
 (bif (!decide (((a0).length : Int) = ((a1).length : Int))) then (some ((), ([], (4 : Int), ())))
 else (bif (decide ((0 : Int) ≤ ((a0).length : Int)) && (decide (((a0).length : Int) ≤ ((a0).length : Int)) && decide ((8 : Int) * ((a0).length : Int) ≤ 281474976710656 ∧ ((a0).length : Int) ≤ 9223372036854775807))) then (let v1 : List (Int) := (List.replicate (((a0).length : Int)).toNat (0 : Int))
 ((cbor_Map_L0 (a1, a0, v1, ((((a0).length : Int)).toNat : Int), (0 : Int), ())).bind (fun (z3 : ((List (List ApiItem)) × (List (BitVec 64)) × (List (Int)) × Unit)) => ((slices_SortFunc_int_int z3.2.2.1 (z3.2.1, ())).bind fun r4 => ((cbor_Map_L2 (z3.1, z3.2.1, r4.1.1, (1 : Int), ())).bind (Sum.elim (fun (z9 : ((List (ApiItem)) × Int × Unit)) => (some ((), (z9.1, z9.2.1, ())))) (fun (z10 : ((List (List ApiItem)) × (List (BitVec 64)) × (List (Int)) × Unit)) => ((cbor_faulty z10.1).bind fun r11 => (bif (!decide (r11.2.1 = (0 : Int))) then (some ((), ([], r11.2.1, ())))
 else (let v12 : List (ApiItem) := ([(⟨(6 : Int), (BitVec.ofInt 64 ((z10.2.1).length : Int)), ([] : List UInt8)⟩ : ApiItem)] : List (ApiItem))
 ((cbor_Map_L4 (z10.1, z10.2.1, v12, z10.2.2.1, ((z10.2.2.1).length : Int), (0 : Int), ())).bind (fun (z17 : ((List (ApiItem)) × Unit)) => ((cbor_checked z17.1).bind fun r18 => (some ((), (r18.2.1, r18.2.2.1, ()))))))))))))))))
 else none))
def S_cbor_Map : FSpec T := ⟨[.f (.v (.rs 3)), .f (.v (.rs 4))], [(.v (.rs 1)), (.v (.int .i64))], fun x => cbor_Map x.1 x.2.1⟩
def E_cbor_Map : Env T := ⟨tab.find, cd, globs, flc, fun f ds => match f with
    | 40 => some S_cbor_Uint
    | 73 => match fnAt ds 1 with
      | some 74 => some S_slices_SortFunc_int_int
      | _ => none
    | 76 => some S_cbor_faulty
    | 77 => some S_cbor_checked
    | _ => none, fun f => match f with
    | 76 => true
    | _ => false⟩
def A_cbor_Map : Loc2 T := ⟨fun id => match id with
    | 0 => some ⟨[(1, .f (.v (.rs 4))), (2, .f (.v (.ref (.rs 3)))), (6, .f (.own 5)), (22, .f (.v (.int .i64))), (23, .f (.v (.int .i64)))], [(.exit 0, [(1, .f (.v (.rs 4))), (2, .f (.v (.ref (.rs 3)))), (6, .f (.own 5))])], cbor_Map_L0, []⟩
    | 2 => some ⟨[(1, .f (.v (.rs 4))), (2, .f (.v (.ref (.rs 3)))), (6, .f (.own 5)), (8, .f (.v (.int .i64)))], [(.ret, [(4, .f (.own 1)), (5, .f (.v (.int .i64)))]), (.exit 2, [(1, .f (.v (.rs 4))), (2, .f (.v (.ref (.rs 3)))), (6, .f (.own 5))])], cbor_Map_L2, []⟩
    | 4 => some ⟨[(1, .f (.v (.rs 4))), (2, .f (.v (.ref (.rs 3)))), (10, .f (.own 1)), (66, .f (.own 5)), (67, .f (.v (.int .i64))), (68, .f (.v (.int .i64)))], [(.exit 4, [(10, .f (.own 1))])], cbor_Map_L4, []⟩
    | _ => none, fun r => match r with
    | _ => none, fun r => match r with
    | _ => false⟩
theorem cbor_Map_L0_eq (y0 : (List (List ApiItem))) (y1 : (List (BitVec 64))) (y2 : (List (Int))) (y3 : Int) (y4 : Int) : run E_cbor_Map A_cbor_Map (loopAt 0 (Tryz.f37.body.getD .skip)) (layC cd [(1, .f (.v (.rs 4))), (2, .f (.v (.ref (.rs 3)))), (6, .f (.own 5)), (22, .f (.v (.int .i64))), (23, .f (.v (.int .i64)))] [] (y0, y1, y2, y3, y4, ())) (roundK cd [(1, .f (.v (.rs 4))), (2, .f (.v (.ref (.rs 3)))), (6, .f (.own 5)), (22, .f (.v (.int .i64))), (23, .f (.v (.int .i64)))] [] [(.exit 0, [(1, .f (.v (.rs 4))), (2, .f (.v (.ref (.rs 3)))), (6, .f (.own 5))])]) = cbor_Map_L0b y0 y1 y2 y3 y4 := by kernel_rfl
theorem cbor_Map_L2_eq (y0 : (List (List ApiItem))) (y1 : (List (BitVec 64))) (y2 : (List (Int))) (y3 : Int) : run E_cbor_Map A_cbor_Map (loopAt 2 (Tryz.f37.body.getD .skip)) (layC cd [(1, .f (.v (.rs 4))), (2, .f (.v (.ref (.rs 3)))), (6, .f (.own 5)), (8, .f (.v (.int .i64)))] [] (y0, y1, y2, y3, ())) (roundK cd [(1, .f (.v (.rs 4))), (2, .f (.v (.ref (.rs 3)))), (6, .f (.own 5)), (8, .f (.v (.int .i64)))] [] [(.ret, [(4, .f (.own 1)), (5, .f (.v (.int .i64)))]), (.exit 2, [(1, .f (.v (.rs 4))), (2, .f (.v (.ref (.rs 3)))), (6, .f (.own 5))])]) = cbor_Map_L2b y0 y1 y2 y3 := by kernel_rfl
theorem cbor_Map_L4_eq (y0 : (List (List ApiItem))) (y1 : (List (BitVec 64))) (y2 : (List (ApiItem))) (y3 : (List (Int))) (y4 : Int) (y5 : Int) : run E_cbor_Map A_cbor_Map (loopAt 4 (Tryz.f37.body.getD .skip)) (layC cd [(1, .f (.v (.rs 4))), (2, .f (.v (.ref (.rs 3)))), (10, .f (.own 1)), (66, .f (.own 5)), (67, .f (.v (.int .i64))), (68, .f (.v (.int .i64)))] [] (y0, y1, y2, y3, y4, y5, ())) (roundK cd [(1, .f (.v (.rs 4))), (2, .f (.v (.ref (.rs 3)))), (10, .f (.own 1)), (66, .f (.own 5)), (67, .f (.v (.int .i64))), (68, .f (.v (.int .i64)))] [] [(.exit 4, [(10, .f (.own 1))])]) = cbor_Map_L4b y0 y1 y2 y3 y4 y5 := by kernel_rfl
theorem cbor_Map_eq (x : tySs T S_cbor_Map.ps) : run E_cbor_Map A_cbor_Map (Tryz.f37.body.getD .skip) (enterT E_cbor_Map.C S_cbor_Map.ps x) (retK E_cbor_Map Tryz.f37.results.toList S_cbor_Map.ps S_cbor_Map.rs) = S_cbor_Map.fn x := by kernel_rfl
theorem cbor_Map_env : EnvOk Tryz.prog E_cbor_Map := envOk (E := E_cbor_Map) cd_ok tys fl_ok fun f ds S h => by
    dsimp only [E_cbor_Map] at h
    split at h
    · cases h; exact cbor_Uint_ok
    · split at h
      · cases h; exact slices_SortFunc_int_int_ok
      · cases h
    · cases h; exact cbor_faulty_ok
    · cases h; exact cbor_checked_ok
    · cases h
theorem cbor_Map_L0_ok : LoopOk Tryz.prog E_cbor_Map Tryz.f37.ntmps (kqOf S_cbor_Map.ps 0) (loopAt 0 (Tryz.f37.body.getD .skip)) ⟨[(1, .f (.v (.rs 4))), (2, .f (.v (.ref (.rs 3)))), (6, .f (.own 5)), (22, .f (.v (.int .i64))), (23, .f (.v (.int .i64)))], [(.exit 0, [(1, .f (.v (.rs 4))), (2, .f (.v (.ref (.rs 3)))), (6, .f (.own 5))])], cbor_Map_L0, []⟩ :=
  loop_ok (A := A_cbor_Map) (done := []) (c0 := (Tryz.f37.body.getD .skip)) hmix cbor_Map_env done_nil rounds (by kernel_rfl) (by kernel_rfl) (fun x => cbor_Map_L0_eq x.1 x.2.1 x.2.2.1 x.2.2.2.1 x.2.2.2.2.1) (fun _ => rfl)
theorem cbor_Map_L2_ok : LoopOk Tryz.prog E_cbor_Map Tryz.f37.ntmps (kqOf S_cbor_Map.ps 0) (loopAt 2 (Tryz.f37.body.getD .skip)) ⟨[(1, .f (.v (.rs 4))), (2, .f (.v (.ref (.rs 3)))), (6, .f (.own 5)), (8, .f (.v (.int .i64)))], [(.ret, [(4, .f (.own 1)), (5, .f (.v (.int .i64)))]), (.exit 2, [(1, .f (.v (.rs 4))), (2, .f (.v (.ref (.rs 3)))), (6, .f (.own 5))])], cbor_Map_L2, []⟩ :=
  loop_ok (A := A_cbor_Map) (done := [0]) (c0 := (Tryz.f37.body.getD .skip)) hmix cbor_Map_env (done_cons rfl cbor_Map_L0_ok done_nil) rounds (by kernel_rfl) (by kernel_rfl) (fun x => cbor_Map_L2_eq x.1 x.2.1 x.2.2.1 x.2.2.2.1) (fun _ => rfl)
theorem cbor_Map_L4_ok : LoopOk Tryz.prog E_cbor_Map Tryz.f37.ntmps (kqOf S_cbor_Map.ps 0) (loopAt 4 (Tryz.f37.body.getD .skip)) ⟨[(1, .f (.v (.rs 4))), (2, .f (.v (.ref (.rs 3)))), (10, .f (.own 1)), (66, .f (.own 5)), (67, .f (.v (.int .i64))), (68, .f (.v (.int .i64)))], [(.exit 4, [(10, .f (.own 1))])], cbor_Map_L4, []⟩ :=
  loop_ok (A := A_cbor_Map) (done := [0, 2]) (c0 := (Tryz.f37.body.getD .skip)) hmix cbor_Map_env (done_cons rfl cbor_Map_L0_ok (done_cons rfl cbor_Map_L2_ok done_nil)) rounds (by kernel_rfl) (by kernel_rfl) (fun x => cbor_Map_L4_eq x.1 x.2.1 x.2.2.1 x.2.2.2.1 x.2.2.2.2.1 x.2.2.2.2.2.1) (fun _ => rfl)
theorem cbor_Map_ok : SoundT Tryz.prog cd gdn 37 S_cbor_Map :=
  sound_fn (E := E_cbor_Map) (A := A_cbor_Map) (done := [0, 2, 4]) (c := (Tryz.f37.body.getD .skip)) (S := S_cbor_Map) (fn := Tryz.f37) hmix cbor_Map_env Tryz.func37 rfl (by kernel_rfl) (by kernel_rfl) (done_cons rfl cbor_Map_L0_ok (done_cons rfl cbor_Map_L2_ok (done_cons rfl cbor_Map_L4_ok done_nil))) (by kernel_rfl) (by kernel_rfl) cbor_Map_eq
def cbor_Encode_L0b (y0 : (List (UInt8))) (y1 : (List (ApiItem))) (y2 : Int) (y3 : Int) : Option (((List (UInt8)) × (List (ApiItem)) × Int × Int × Unit) ⊕ ((List (UInt8)) × Unit)) :=
 (bif (decide (y3 < y2)) then ((getI y1 y3).bind fun x2 => ((cbor_appendItem y0 x2).bind fun r3 => (some (Sum.inl (r3.2.1, y1, y2, (IntKind.wrap .i64 (y3 + (1 : Int))), ())))))
 else (some (Sum.inr (y0, ()))))
def cbor_Encode_L0 (y : ((List (UInt8)) × (List (ApiItem)) × Int × Int × Unit)) : Option ((List (UInt8)) × Unit) := iter (fun (y : ((List (UInt8)) × (List (ApiItem)) × Int × Int × Unit)) => cbor_Encode_L0b y.1 y.2.1 y.2.2.1 y.2.2.2.1) rounds y
def cbor_Encode (a0 : (List (ApiItem))) : Option ((Unit) × ((List (UInt8)) × Int × Unit)) :=
 ((cbor_Validate a0).bind fun r1 => (bif (!decide (r1.2.1 = (0 : Int))) then (some ((), ([], r1.2.1, ())))
 else ((cbor_Encode_L0 ([], a0, ((a0).length : Int), (0 : Int), ())).bind (fun (z4 : ((List (UInt8)) × Unit)) => (some ((), (z4.1, (0 : Int), ())))))))
def S_cbor_Encode : FSpec T := ⟨[.f (.v (.rs 1))], [(.own 0), (.v (.int .i64))], fun x => cbor_Encode x.1⟩
def E_cbor_Encode : Env T := ⟨tab.find, cd, globs, flc, fun f ds => match f with
    | 78 => some S_cbor_Validate
    | 79 => some S_cbor_appendItem
    | _ => none, fun f => match f with
    | 78 => true
    | _ => false⟩
def A_cbor_Encode : Loc2 T := ⟨fun id => match id with
    | 0 => some ⟨[(5, .f (.own 0)), (13, .f (.v (.rs 1))), (14, .f (.v (.int .i64))), (15, .f (.v (.int .i64)))], [(.exit 0, [(5, .f (.own 0))])], cbor_Encode_L0, []⟩
    | _ => none, fun r => match r with
    | _ => none, fun r => match r with
    | _ => false⟩
theorem cbor_Encode_L0_eq (y0 : (List (UInt8))) (y1 : (List (ApiItem))) (y2 : Int) (y3 : Int) : run E_cbor_Encode A_cbor_Encode (loopAt 0 (Tryz.f42.body.getD .skip)) (layC cd [(5, .f (.own 0)), (13, .f (.v (.rs 1))), (14, .f (.v (.int .i64))), (15, .f (.v (.int .i64)))] [] (y0, y1, y2, y3, ())) (roundK cd [(5, .f (.own 0)), (13, .f (.v (.rs 1))), (14, .f (.v (.int .i64))), (15, .f (.v (.int .i64)))] [] [(.exit 0, [(5, .f (.own 0))])]) = cbor_Encode_L0b y0 y1 y2 y3 := by kernel_rfl
theorem cbor_Encode_eq (x : tySs T S_cbor_Encode.ps) : run E_cbor_Encode A_cbor_Encode (Tryz.f42.body.getD .skip) (enterT E_cbor_Encode.C S_cbor_Encode.ps x) (retK E_cbor_Encode Tryz.f42.results.toList S_cbor_Encode.ps S_cbor_Encode.rs) = S_cbor_Encode.fn x := by kernel_rfl
theorem cbor_Encode_env : EnvOk Tryz.prog E_cbor_Encode := envOk (E := E_cbor_Encode) cd_ok tys fl_ok fun f ds S h => by
    dsimp only [E_cbor_Encode] at h
    split at h
    · cases h; exact cbor_Validate_ok
    · cases h; exact cbor_appendItem_ok
    · cases h
theorem cbor_Encode_L0_ok : LoopOk Tryz.prog E_cbor_Encode Tryz.f42.ntmps (kqOf S_cbor_Encode.ps 0) (loopAt 0 (Tryz.f42.body.getD .skip)) ⟨[(5, .f (.own 0)), (13, .f (.v (.rs 1))), (14, .f (.v (.int .i64))), (15, .f (.v (.int .i64)))], [(.exit 0, [(5, .f (.own 0))])], cbor_Encode_L0, []⟩ :=
  loop_ok (A := A_cbor_Encode) (done := []) (c0 := (Tryz.f42.body.getD .skip)) hmix cbor_Encode_env done_nil rounds (by kernel_rfl) (by kernel_rfl) (fun x => cbor_Encode_L0_eq x.1 x.2.1 x.2.2.1 x.2.2.2.1) (fun _ => rfl)
theorem cbor_Encode_ok : SoundT Tryz.prog cd gdn 42 S_cbor_Encode :=
  sound_fn (E := E_cbor_Encode) (A := A_cbor_Encode) (done := [0]) (c := (Tryz.f42.body.getD .skip)) (S := S_cbor_Encode) (fn := Tryz.f42) hmix cbor_Encode_env Tryz.func42 rfl (by kernel_rfl) (by kernel_rfl) (done_cons rfl cbor_Encode_L0_ok done_nil) (by kernel_rfl) (by kernel_rfl) cbor_Encode_eq
def credential_Encode (a0 : ApiCredential) : Option ((Unit) × ((List (UInt8)) × Int × Unit)) :=
 ((credential_Validate a0).bind fun r1 => (bif (!decide (r1.2.1 = (0 : Int))) then (some ((), ([], r1.2.1, ())))
 else (let v2 : List (BitVec 64) := ([1#64, 2#64, 3#64, 4#64, 5#64, 6#64, 7#64, 8#64, 9#64] : List (BitVec 64))
 ((cbor_Text a0.rP).bind fun r3 => ((cbor_Bytes a0.user).bind fun r4 => ((cbor_Text a0.name).bind fun r5 => ((cbor_Uint a0.seed).bind fun r6 => ((cbor_Uint (BitVec.ofInt 64 a0.height)).bind fun r7 => ((cbor_Bool a0.resident).bind fun r8 => ((cbor_Uint (BitVec.ofInt 64 a0.protect)).bind fun r9 => ((cbor_Bool a0.shared).bind fun r10 => ((cbor_Bool a0.backed).bind fun r11 => (let v12 : List (List ApiItem) := ([r3.2.1, r4.2.1, r5.2.1, r6.2.1, r7.2.1, r8.2.1, r9.2.1, r10.2.1, r11.2.1] : List (List ApiItem))
 ((cbor_Map v2 v12).bind fun r13 => (bif (!decide (r13.2.2.1 = (0 : Int))) then (some ((), ([], r13.2.2.1, ())))
 else ((cbor_Encode r13.2.1).bind fun r14 => (some ((), (r14.2.1, r14.2.2.1, ())))))))))))))))))))
def S_credential_Encode : FSpec T := ⟨[.f (.v (.agg 2))], [(.own 0), (.v (.int .i64))], fun x => credential_Encode x.1⟩
def E_credential_Encode : Env T := ⟨tab.find, cd, globs, flc, fun f ds => match f with
    | 14 => some S_credential_Validate
    | 37 => some S_cbor_Map
    | 38 => some S_cbor_Text
    | 39 => some S_cbor_Bytes
    | 40 => some S_cbor_Uint
    | 41 => some S_cbor_Bool
    | 42 => some S_cbor_Encode
    | _ => none, fun f => match f with
    | 14 => true
    | _ => false⟩
def A_credential_Encode : Loc2 T := ⟨fun id => match id with
    | _ => none, fun r => match r with
    | _ => none, fun r => match r with
    | 5 => true
    | _ => false⟩
theorem credential_Encode_eq (x : tySs T S_credential_Encode.ps) : run E_credential_Encode A_credential_Encode (Tryz.f12.body.getD .skip) (enterT E_credential_Encode.C S_credential_Encode.ps x) (retK E_credential_Encode Tryz.f12.results.toList S_credential_Encode.ps S_credential_Encode.rs) = S_credential_Encode.fn x := by kernel_rfl
theorem credential_Encode_env : EnvOk Tryz.prog E_credential_Encode := envOk (E := E_credential_Encode) cd_ok tys fl_ok fun f ds S h => by
    dsimp only [E_credential_Encode] at h
    split at h
    · cases h; exact credential_Validate_ok
    · cases h; exact cbor_Map_ok
    · cases h; exact cbor_Text_ok
    · cases h; exact cbor_Bytes_ok
    · cases h; exact cbor_Uint_ok
    · cases h; exact cbor_Bool_ok
    · cases h; exact cbor_Encode_ok
    · cases h
theorem credential_Encode_ok : SoundT Tryz.prog cd gdn 12 S_credential_Encode :=
  sound_fn (E := E_credential_Encode) (A := A_credential_Encode) (done := []) (c := (Tryz.f12.body.getD .skip)) (S := S_credential_Encode) (fn := Tryz.f12) hmix credential_Encode_env Tryz.func12 rfl (by kernel_rfl) (by kernel_rfl) done_nil (by kernel_rfl) (by kernel_rfl) credential_Encode_eq
def digest_Words_L2b (y0 : (List (UInt8))) (y1 : (BitVec 64)) (y2 : (List (BitVec 64))) (y3 : Int) (y4 : Int) (y5 : Int) : Option (((List (UInt8)) × (BitVec 64) × (List (BitVec 64)) × Int × Int × Int × Unit) ⊕ ((List (UInt8)) × (List (BitVec 64)) × Int × Int × Unit)) :=
 (bif (decide (y5 < (8 : Int))) then (let v2 : Int := (IntKind.wrap .i64 ((56 : Int) - (IntKind.wrap .i64 ((8 : Int) * y5))))
 (bif decide ((0 : Int) ≤ v2) then (let v3 : List (UInt8) := ([(UInt8.ofBitVec (BitVec.setWidth 8 (y1 >>> (v2).toNat)))] : List (UInt8))
 (bif small ((y0).length + (v3 : List (UInt8)).length) 1 then (some (Sum.inl ((y0 ++ v3), y1, y2, y3, y4, (IntKind.wrap .i64 (y5 + (1 : Int))), ())))
 else none))
 else none))
 else (some (Sum.inr (y0, y2, y3, y4, ()))))
def digest_Words_L2 (y : ((List (UInt8)) × (BitVec 64) × (List (BitVec 64)) × Int × Int × Int × Unit)) : Option ((List (UInt8)) × (List (BitVec 64)) × Int × Int × Unit) := iter (fun (y : ((List (UInt8)) × (BitVec 64) × (List (BitVec 64)) × Int × Int × Int × Unit)) => digest_Words_L2b y.1 y.2.1 y.2.2.1 y.2.2.2.1 y.2.2.2.2.1 y.2.2.2.2.2.1) rounds y
def digest_Words_L0b (y0 : (List (UInt8))) (y1 : (List (BitVec 64))) (y2 : Int) (y3 : Int) : Option (((List (UInt8)) × (List (BitVec 64)) × Int × Int × Unit) ⊕ ((List (UInt8)) × Unit)) :=
 (bif (decide (y3 < y2)) then ((getI y1 y3).bind fun x1 => ((digest_Words_L2 (y0, x1, y1, y2, y3, (0 : Int), ())).bind (fun (z2 : ((List (UInt8)) × (List (BitVec 64)) × Int × Int × Unit)) => (some (Sum.inl (z2.1, z2.2.1, z2.2.2.1, (IntKind.wrap .i64 (z2.2.2.2.1 + (1 : Int))), ()))))))
 else (some (Sum.inr (y0, ()))))
def digest_Words_L0 (y : ((List (UInt8)) × (List (BitVec 64)) × Int × Int × Unit)) : Option ((List (UInt8)) × Unit) := iter (fun (y : ((List (UInt8)) × (List (BitVec 64)) × Int × Int × Unit)) => digest_Words_L0b y.1 y.2.1 y.2.2.1 y.2.2.2.1) rounds y
def digest_Words (a0 : (List (BitVec 64))) : Option ((Unit) × ((List (UInt8)) × Unit)) :=
 (bif (decide ((0 : Int) ≤ (0 : Int)) && (decide ((0 : Int) ≤ (IntKind.wrap .i64 ((8 : Int) * ((a0).length : Int)))) && decide ((1 : Int) * (IntKind.wrap .i64 ((8 : Int) * ((a0).length : Int))) ≤ 281474976710656 ∧ (IntKind.wrap .i64 ((8 : Int) * ((a0).length : Int))) ≤ 9223372036854775807))) then ((digest_Words_L0 ((List.replicate 0 (0 : UInt8)), a0, ((a0).length : Int), (0 : Int), ())).bind (fun (z3 : ((List (UInt8)) × Unit)) => (some ((), (z3.1, ())))))
 else none)
def S_digest_Words : FSpec T := ⟨[.f (.v (.rs 3))], [(.own 0)], fun x => digest_Words x.1⟩
def E_digest_Words : Env T := ⟨tab.find, cd, globs, flc, fun f ds => match f with
    | _ => none, fun f => match f with
    | _ => false⟩
def A_digest_Words : Loc2 T := ⟨fun id => match id with
    | 2 => some ⟨[(3, .f (.own 0)), (5, .f (.v .u64)), (11, .f (.v (.rs 3))), (12, .f (.v (.int .i64))), (13, .f (.v (.int .i64))), (17, .f (.v (.int .i64)))], [(.exit 2, [(3, .f (.own 0)), (11, .f (.v (.rs 3))), (12, .f (.v (.int .i64))), (13, .f (.v (.int .i64)))])], digest_Words_L2, []⟩
    | 0 => some ⟨[(3, .f (.own 0)), (11, .f (.v (.rs 3))), (12, .f (.v (.int .i64))), (13, .f (.v (.int .i64)))], [(.exit 0, [(3, .f (.own 0))])], digest_Words_L0, []⟩
    | _ => none, fun r => match r with
    | _ => none, fun r => match r with
    | _ => false⟩
theorem digest_Words_L2_eq (y0 : (List (UInt8))) (y1 : (BitVec 64)) (y2 : (List (BitVec 64))) (y3 : Int) (y4 : Int) (y5 : Int) : run E_digest_Words A_digest_Words (loopAt 2 (Tryz.f90.body.getD .skip)) (layC cd [(3, .f (.own 0)), (5, .f (.v .u64)), (11, .f (.v (.rs 3))), (12, .f (.v (.int .i64))), (13, .f (.v (.int .i64))), (17, .f (.v (.int .i64)))] [] (y0, y1, y2, y3, y4, y5, ())) (roundK cd [(3, .f (.own 0)), (5, .f (.v .u64)), (11, .f (.v (.rs 3))), (12, .f (.v (.int .i64))), (13, .f (.v (.int .i64))), (17, .f (.v (.int .i64)))] [] [(.exit 2, [(3, .f (.own 0)), (11, .f (.v (.rs 3))), (12, .f (.v (.int .i64))), (13, .f (.v (.int .i64)))])]) = digest_Words_L2b y0 y1 y2 y3 y4 y5 := by kernel_rfl
theorem digest_Words_L0_eq (y0 : (List (UInt8))) (y1 : (List (BitVec 64))) (y2 : Int) (y3 : Int) : run E_digest_Words A_digest_Words (loopAt 0 (Tryz.f90.body.getD .skip)) (layC cd [(3, .f (.own 0)), (11, .f (.v (.rs 3))), (12, .f (.v (.int .i64))), (13, .f (.v (.int .i64)))] [] (y0, y1, y2, y3, ())) (roundK cd [(3, .f (.own 0)), (11, .f (.v (.rs 3))), (12, .f (.v (.int .i64))), (13, .f (.v (.int .i64)))] [] [(.exit 0, [(3, .f (.own 0))])]) = digest_Words_L0b y0 y1 y2 y3 := by kernel_rfl
theorem digest_Words_eq (x : tySs T S_digest_Words.ps) : run E_digest_Words A_digest_Words (Tryz.f90.body.getD .skip) (enterT E_digest_Words.C S_digest_Words.ps x) (retK E_digest_Words Tryz.f90.results.toList S_digest_Words.ps S_digest_Words.rs) = S_digest_Words.fn x := by kernel_rfl
theorem digest_Words_env : EnvOk Tryz.prog E_digest_Words := envOk (E := E_digest_Words) cd_ok tys fl_ok fun f ds S h => by cases h
theorem digest_Words_L2_ok : LoopOk Tryz.prog E_digest_Words Tryz.f90.ntmps (kqOf S_digest_Words.ps 0) (loopAt 2 (Tryz.f90.body.getD .skip)) ⟨[(3, .f (.own 0)), (5, .f (.v .u64)), (11, .f (.v (.rs 3))), (12, .f (.v (.int .i64))), (13, .f (.v (.int .i64))), (17, .f (.v (.int .i64)))], [(.exit 2, [(3, .f (.own 0)), (11, .f (.v (.rs 3))), (12, .f (.v (.int .i64))), (13, .f (.v (.int .i64)))])], digest_Words_L2, []⟩ :=
  loop_ok (A := A_digest_Words) (done := []) (c0 := (Tryz.f90.body.getD .skip)) hmix digest_Words_env done_nil rounds (by kernel_rfl) (by kernel_rfl) (fun x => digest_Words_L2_eq x.1 x.2.1 x.2.2.1 x.2.2.2.1 x.2.2.2.2.1 x.2.2.2.2.2.1) (fun _ => rfl)
theorem digest_Words_L0_ok : LoopOk Tryz.prog E_digest_Words Tryz.f90.ntmps (kqOf S_digest_Words.ps 0) (loopAt 0 (Tryz.f90.body.getD .skip)) ⟨[(3, .f (.own 0)), (11, .f (.v (.rs 3))), (12, .f (.v (.int .i64))), (13, .f (.v (.int .i64)))], [(.exit 0, [(3, .f (.own 0))])], digest_Words_L0, []⟩ :=
  loop_ok (A := A_digest_Words) (done := [2]) (c0 := (Tryz.f90.body.getD .skip)) hmix digest_Words_env (done_cons rfl digest_Words_L2_ok done_nil) rounds (by kernel_rfl) (by kernel_rfl) (fun x => digest_Words_L0_eq x.1 x.2.1 x.2.2.1 x.2.2.2.1) (fun _ => rfl)
theorem digest_Words_ok : SoundT Tryz.prog cd gdn 90 S_digest_Words :=
  sound_fn (E := E_digest_Words) (A := A_digest_Words) (done := [2, 0]) (c := (Tryz.f90.body.getD .skip)) (S := S_digest_Words) (fn := Tryz.f90) hmix digest_Words_env Tryz.func90 rfl (by kernel_rfl) (by kernel_rfl) (done_cons rfl digest_Words_L2_ok (done_cons rfl digest_Words_L0_ok done_nil)) (by kernel_rfl) (by kernel_rfl) digest_Words_eq
def digest_little_L0b (y0 : (BitVec 64)) (y1 : (List (UInt8))) (y2 : Int) (y3 : Int) : Option (((BitVec 64) × (List (UInt8)) × Int × Int × Unit) ⊕ ((BitVec 64) × Unit)) :=
 (bif (decide (y3 < y2)) then ((getI y1 y3).bind fun x1 => (bif decide ((0 : Int) ≤ (IntKind.wrap .i64 ((8 : Int) * y3))) then (let v2 : BitVec 64 := ((BitVec.setWidth 64 x1.toBitVec) <<< ((IntKind.wrap .i64 ((8 : Int) * y3))).toNat)
 (some (Sum.inl ((y0 ||| v2), y1, y2, (IntKind.wrap .i64 (y3 + (1 : Int))), ()))))
 else none))
 else (some (Sum.inr (y0, ()))))
def digest_little_L0 (y : ((BitVec 64) × (List (UInt8)) × Int × Int × Unit)) : Option ((BitVec 64) × Unit) := iter (fun (y : ((BitVec 64) × (List (UInt8)) × Int × Int × Unit)) => digest_little_L0b y.1 y.2.1 y.2.2.1 y.2.2.2.1) rounds y
def digest_little (a0 : (List (UInt8))) : Option ((Unit) × ((BitVec 64) × Unit)) :=
 ((digest_little_L0 (0#64, a0, ((a0).length : Int), (0 : Int), ())).bind (fun (z3 : ((BitVec 64) × Unit)) => (some ((), (z3.1, ())))))
def S_digest_little : FSpec T := ⟨[.f (.v (.rs 0))], [(.v .u64)], fun x => digest_little x.1⟩
def E_digest_little : Env T := ⟨tab.find, cd, globs, flc, fun f ds => match f with
    | _ => none, fun f => match f with
    | _ => false⟩
def A_digest_little : Loc2 T := ⟨fun id => match id with
    | 0 => some ⟨[(3, .f (.v .u64)), (6, .f (.v (.rs 0))), (7, .f (.v (.int .i64))), (8, .f (.v (.int .i64)))], [(.exit 0, [(3, .f (.v .u64))])], digest_little_L0, []⟩
    | _ => none, fun r => match r with
    | _ => none, fun r => match r with
    | _ => false⟩
theorem digest_little_L0_eq (y0 : (BitVec 64)) (y1 : (List (UInt8))) (y2 : Int) (y3 : Int) : run E_digest_little A_digest_little (loopAt 0 (Tryz.f125.body.getD .skip)) (layC cd [(3, .f (.v .u64)), (6, .f (.v (.rs 0))), (7, .f (.v (.int .i64))), (8, .f (.v (.int .i64)))] [] (y0, y1, y2, y3, ())) (roundK cd [(3, .f (.v .u64)), (6, .f (.v (.rs 0))), (7, .f (.v (.int .i64))), (8, .f (.v (.int .i64)))] [] [(.exit 0, [(3, .f (.v .u64))])]) = digest_little_L0b y0 y1 y2 y3 := by kernel_rfl
theorem digest_little_eq (x : tySs T S_digest_little.ps) : run E_digest_little A_digest_little (Tryz.f125.body.getD .skip) (enterT E_digest_little.C S_digest_little.ps x) (retK E_digest_little Tryz.f125.results.toList S_digest_little.ps S_digest_little.rs) = S_digest_little.fn x := by kernel_rfl
theorem digest_little_env : EnvOk Tryz.prog E_digest_little := envOk (E := E_digest_little) cd_ok tys fl_ok fun f ds S h => by cases h
theorem digest_little_L0_ok : LoopOk Tryz.prog E_digest_little Tryz.f125.ntmps (kqOf S_digest_little.ps 0) (loopAt 0 (Tryz.f125.body.getD .skip)) ⟨[(3, .f (.v .u64)), (6, .f (.v (.rs 0))), (7, .f (.v (.int .i64))), (8, .f (.v (.int .i64)))], [(.exit 0, [(3, .f (.v .u64))])], digest_little_L0, []⟩ :=
  loop_ok (A := A_digest_little) (done := []) (c0 := (Tryz.f125.body.getD .skip)) hmix digest_little_env done_nil rounds (by kernel_rfl) (by kernel_rfl) (fun x => digest_little_L0_eq x.1 x.2.1 x.2.2.1 x.2.2.2.1) (fun _ => rfl)
theorem digest_little_ok : SoundT Tryz.prog cd gdn 125 S_digest_little :=
  sound_fn (E := E_digest_little) (A := A_digest_little) (done := [0]) (c := (Tryz.f125.body.getD .skip)) (S := S_digest_little) (fn := Tryz.f125) hmix digest_little_env Tryz.func125 rfl (by kernel_rfl) (by kernel_rfl) (done_cons rfl digest_little_L0_ok done_nil) (by kernel_rfl) (by kernel_rfl) digest_little_eq
def math_bits_RotateLeft64 (a0 : (BitVec 64)) (a1 : Int) : Option ((Unit) × ((BitVec 64) × Unit)) :=
 (let v1 : BitVec 64 := ((a0 <<< ((BitVec.ofInt 64 a1) &&& 63#64).toNat) ||| (a0 >>> (64#64 - ((BitVec.ofInt 64 a1) &&& 63#64)).toNat))
 (some ((), (v1, ()))))
def S_math_bits_RotateLeft64 : FSpec T := ⟨[.f (.v .u64), .f (.v (.int .i64))], [(.v .u64)], fun x => math_bits_RotateLeft64 x.1 x.2.1⟩
def E_math_bits_RotateLeft64 : Env T := ⟨tab.find, cd, globs, flc, fun f ds => match f with
    | _ => none, fun f => match f with
    | _ => false⟩
def A_math_bits_RotateLeft64 : Loc2 T := ⟨fun id => match id with
    | _ => none, fun r => match r with
    | _ => none, fun r => match r with
    | _ => false⟩
theorem math_bits_RotateLeft64_eq (x : tySs T S_math_bits_RotateLeft64.ps) : run E_math_bits_RotateLeft64 A_math_bits_RotateLeft64 (Tryz.f154.body.getD .skip) (enterT E_math_bits_RotateLeft64.C S_math_bits_RotateLeft64.ps x) (retK E_math_bits_RotateLeft64 Tryz.f154.results.toList S_math_bits_RotateLeft64.ps S_math_bits_RotateLeft64.rs) = S_math_bits_RotateLeft64.fn x := by kernel_rfl
theorem math_bits_RotateLeft64_env : EnvOk Tryz.prog E_math_bits_RotateLeft64 := envOk (E := E_math_bits_RotateLeft64) cd_ok tys fl_ok fun f ds S h => by cases h
theorem math_bits_RotateLeft64_ok : SoundT Tryz.prog cd gdn 154 S_math_bits_RotateLeft64 :=
  sound_fn (E := E_math_bits_RotateLeft64) (A := A_math_bits_RotateLeft64) (done := []) (c := (Tryz.f154.body.getD .skip)) (S := S_math_bits_RotateLeft64) (fn := Tryz.f154) hmix math_bits_RotateLeft64_env Tryz.func154 rfl (by kernel_rfl) (by kernel_rfl) done_nil (by kernel_rfl) (by kernel_rfl) math_bits_RotateLeft64_eq
def digest_state_rounds_L0b (y0 : (DigestState × Unit)) (y1 : Int) (y2 : Int) : Option (((DigestState × Unit) × Int × Int × Unit) ⊕ ((DigestState × Unit) × Unit)) :=
 (bif (decide (y2 < y1)) then ((math_bits_RotateLeft64 y0.1.v1 (13 : Int)).bind fun r1 => ((math_bits_RotateLeft64 (y0.1.v0 + y0.1.v1) (32 : Int)).bind fun r2 => ((math_bits_RotateLeft64 y0.1.v3 (16 : Int)).bind fun r3 => ((math_bits_RotateLeft64 (r3.2.1 ^^^ (y0.1.v2 + y0.1.v3)) (21 : Int)).bind fun r4 => ((math_bits_RotateLeft64 (r1.2.1 ^^^ (y0.1.v0 + y0.1.v1)) (17 : Int)).bind fun r5 => (let v6 : BitVec 64 := (r5.2.1 ^^^ ((y0.1.v2 + y0.1.v3) + (r1.2.1 ^^^ (y0.1.v0 + y0.1.v1))))
 ((math_bits_RotateLeft64 ((y0.1.v2 + y0.1.v3) + (r1.2.1 ^^^ (y0.1.v0 + y0.1.v1))) (32 : Int)).bind fun r7 => (some (Sum.inl (((⟨(r2.2.1 + (r3.2.1 ^^^ (y0.1.v2 + y0.1.v3))), v6, r7.2.1, (r4.2.1 ^^^ (r2.2.1 + (r3.2.1 ^^^ (y0.1.v2 + y0.1.v3))))⟩ : DigestState), ()), y1, (IntKind.wrap .i64 (y2 + (1 : Int))), ()))))))))))
 else (some (Sum.inr ((y0.1, ()), ()))))
def digest_state_rounds_L0 (y : ((DigestState × Unit) × Int × Int × Unit)) : Option ((DigestState × Unit) × Unit) := iter (fun (y : ((DigestState × Unit) × Int × Int × Unit)) => digest_state_rounds_L0b y.1 y.2.1 y.2.2.1) rounds y
def digest_state_rounds (a0 : (DigestState × Unit)) (a1 : Int) : Option (((DigestState × Unit) × Unit) × (Unit)) :=
 ((digest_state_rounds_L0 ((a0.1, ()), a1, (0 : Int), ())).bind (fun (z8 : ((DigestState × Unit) × Unit)) => (some (((z8.1.1, ()), ()), ()))))
def S_digest_state_rounds : FSpec T := ⟨[.ptr [(.v (.agg 9))], .f (.v (.int .i64))], [], fun x => digest_state_rounds x.1 x.2.1⟩
def E_digest_state_rounds : Env T := ⟨tab.find, cd, globs, flc, fun f ds => match f with
    | 154 => some S_math_bits_RotateLeft64
    | _ => none, fun f => match f with
    | 154 => true
    | _ => false⟩
def A_digest_state_rounds : Loc2 T := ⟨fun id => match id with
    | 0 => some ⟨[(0, .ptr [(.v (.agg 9))]), (4, .f (.v (.int .i64))), (5, .f (.v (.int .i64)))], [(.exit 0, [(0, .ptr [(.v (.agg 9))])])], digest_state_rounds_L0, []⟩
    | _ => none, fun r => match r with
    | _ => none, fun r => match r with
    | _ => false⟩
theorem digest_state_rounds_L0_eq (y0 : (DigestState × Unit)) (y1 : Int) (y2 : Int) : run E_digest_state_rounds A_digest_state_rounds (loopAt 0 (Tryz.f126.body.getD .skip)) (layC cd [(0, .ptr [(.v (.agg 9))]), (4, .f (.v (.int .i64))), (5, .f (.v (.int .i64)))] [] (y0, y1, y2, ())) (roundK cd [(0, .ptr [(.v (.agg 9))]), (4, .f (.v (.int .i64))), (5, .f (.v (.int .i64)))] [] [(.exit 0, [(0, .ptr [(.v (.agg 9))])])]) = digest_state_rounds_L0b y0 y1 y2 := by kernel_rfl
theorem digest_state_rounds_eq (x : tySs T S_digest_state_rounds.ps) : run E_digest_state_rounds A_digest_state_rounds (Tryz.f126.body.getD .skip) (enterT E_digest_state_rounds.C S_digest_state_rounds.ps x) (retK E_digest_state_rounds Tryz.f126.results.toList S_digest_state_rounds.ps S_digest_state_rounds.rs) = S_digest_state_rounds.fn x := by kernel_rfl
theorem digest_state_rounds_env : EnvOk Tryz.prog E_digest_state_rounds := envOk (E := E_digest_state_rounds) cd_ok tys fl_ok fun f ds S h => by
    dsimp only [E_digest_state_rounds] at h
    split at h
    · cases h; exact math_bits_RotateLeft64_ok
    · cases h
theorem digest_state_rounds_L0_ok : LoopOk Tryz.prog E_digest_state_rounds Tryz.f126.ntmps (kqOf S_digest_state_rounds.ps 0) (loopAt 0 (Tryz.f126.body.getD .skip)) ⟨[(0, .ptr [(.v (.agg 9))]), (4, .f (.v (.int .i64))), (5, .f (.v (.int .i64)))], [(.exit 0, [(0, .ptr [(.v (.agg 9))])])], digest_state_rounds_L0, []⟩ :=
  loop_ok (A := A_digest_state_rounds) (done := []) (c0 := (Tryz.f126.body.getD .skip)) hmix digest_state_rounds_env done_nil rounds (by kernel_rfl) (by kernel_rfl) (fun x => digest_state_rounds_L0_eq x.1 x.2.1 x.2.2.1) (fun _ => rfl)
theorem digest_state_rounds_ok : SoundT Tryz.prog cd gdn 126 S_digest_state_rounds :=
  sound_fn (E := E_digest_state_rounds) (A := A_digest_state_rounds) (done := [0]) (c := (Tryz.f126.body.getD .skip)) (S := S_digest_state_rounds) (fn := Tryz.f126) hmix digest_state_rounds_env Tryz.func126 rfl (by kernel_rfl) (by kernel_rfl) (done_cons rfl digest_state_rounds_L0_ok done_nil) (by kernel_rfl) (by kernel_rfl) digest_state_rounds_eq
def digest_state_absorb (a0 : (DigestState × Unit)) (a1 : (BitVec 64)) : Option (((DigestState × Unit) × Unit) × (Unit)) :=
 ((digest_state_rounds ((⟨a0.1.v0, a0.1.v1, a0.1.v2, (a0.1.v3 ^^^ a1)⟩ : DigestState), ()) (2 : Int)).bind fun r1 => (some ((((⟨(r1.1.1.1.v0 ^^^ a1), r1.1.1.1.v1, r1.1.1.1.v2, r1.1.1.1.v3⟩ : DigestState), ()), ()), ())))
def S_digest_state_absorb : FSpec T := ⟨[.ptr [(.v (.agg 9))], .f (.v .u64)], [], fun x => digest_state_absorb x.1 x.2.1⟩
def E_digest_state_absorb : Env T := ⟨tab.find, cd, globs, flc, fun f ds => match f with
    | 126 => some S_digest_state_rounds
    | _ => none, fun f => match f with
    | _ => false⟩
def A_digest_state_absorb : Loc2 T := ⟨fun id => match id with
    | _ => none, fun r => match r with
    | _ => none, fun r => match r with
    | _ => false⟩
theorem digest_state_absorb_eq (x : tySs T S_digest_state_absorb.ps) : run E_digest_state_absorb A_digest_state_absorb (Tryz.f124.body.getD .skip) (enterT E_digest_state_absorb.C S_digest_state_absorb.ps x) (retK E_digest_state_absorb Tryz.f124.results.toList S_digest_state_absorb.ps S_digest_state_absorb.rs) = S_digest_state_absorb.fn x := by kernel_rfl
theorem digest_state_absorb_env : EnvOk Tryz.prog E_digest_state_absorb := envOk (E := E_digest_state_absorb) cd_ok tys fl_ok fun f ds S h => by
    dsimp only [E_digest_state_absorb] at h
    split at h
    · cases h; exact digest_state_rounds_ok
    · cases h
theorem digest_state_absorb_ok : SoundT Tryz.prog cd gdn 124 S_digest_state_absorb :=
  sound_fn (E := E_digest_state_absorb) (A := A_digest_state_absorb) (done := []) (c := (Tryz.f124.body.getD .skip)) (S := S_digest_state_absorb) (fn := Tryz.f124) hmix digest_state_absorb_env Tryz.func124 rfl (by kernel_rfl) (by kernel_rfl) done_nil (by kernel_rfl) (by kernel_rfl) digest_state_absorb_eq
def digest_Sum_L0b (y0 : (List (UInt8))) (y1 : (DigestState × Unit)) (y2 : Int) (y3 : Int) (y4 : Int) : Option (((List (UInt8)) × (DigestState × Unit) × Int × Int × Int × Unit) ⊕ ((List (UInt8)) × (DigestState × Unit) × Int × Unit)) :=
 (bif (decide (y4 < y3)) then (let v1 : Int := (IntKind.wrap .i64 ((IntKind.wrap .i64 ((8 : Int) * y4)) + (8 : Int)))
 (bif (decide ((0 : Int) ≤ v1) && decide (v1 ≤ ((y0).length : Int))) then (bif (decide ((0 : Int) ≤ (IntKind.wrap .i64 ((8 : Int) * y4))) && decide ((IntKind.wrap .i64 ((8 : Int) * y4)) ≤ ((v1).toNat : Int))) then (let v2 : List (UInt8) := (List.drop ((IntKind.wrap .i64 ((8 : Int) * y4))).toNat (List.take (v1).toNat y0))
 ((digest_little v2).bind fun r3 => ((digest_state_absorb (y1.1, ()) r3.2.1).bind fun r4 => (some (Sum.inl (y0, (r4.1.1.1, ()), y2, y3, (IntKind.wrap .i64 (y4 + (1 : Int))), ()))))))
 else none)
 else none))
 else (some (Sum.inr (y0, (y1.1, ()), y2, ()))))
def digest_Sum_L0 (y : ((List (UInt8)) × (DigestState × Unit) × Int × Int × Int × Unit)) : Option ((List (UInt8)) × (DigestState × Unit) × Int × Unit) := iter (fun (y : ((List (UInt8)) × (DigestState × Unit) × Int × Int × Int × Unit)) => digest_Sum_L0b y.1 y.2.1 y.2.2.1 y.2.2.2.1 y.2.2.2.2.1) rounds y
def digest_Sum (a0 : (BitVec 64)) (a1 : (BitVec 64)) (a2 : (List (UInt8))) : Option ((Unit) × ((BitVec 64) × Unit)) :=
 ((digest_Sum_L0 (a2, ((⟨(a0 ^^^ 8317987319222330741#64), (a1 ^^^ 7237128888997146477#64), (a0 ^^^ 7816392313619706465#64), (a1 ^^^ 8387220255154660723#64)⟩ : DigestState), ()), (IntKind.wrap .i64 (Int.tdiv ((a2).length : Int) (8 : Int))), (IntKind.wrap .i64 (Int.tdiv ((a2).length : Int) (8 : Int))), (0 : Int), ())).bind (fun (z5 : ((List (UInt8)) × (DigestState × Unit) × Int × Unit)) => (bif (decide ((0 : Int) ≤ (IntKind.wrap .i64 ((8 : Int) * z5.2.2.1))) && decide ((IntKind.wrap .i64 ((8 : Int) * z5.2.2.1)) ≤ ((z5.1).length : Int))) then (let v6 : List (UInt8) := (List.drop ((IntKind.wrap .i64 ((8 : Int) * z5.2.2.1))).toNat z5.1)
 ((digest_little v6).bind fun r7 => (let v8 : BitVec 64 := (r7.2.1 ||| ((BitVec.ofInt 64 ((z5.1).length : Int)) <<< 56))
 ((digest_state_absorb (z5.2.1.1, ()) v8).bind fun r9 => ((digest_state_rounds ((⟨r9.1.1.1.v0, r9.1.1.1.v1, (r9.1.1.1.v2 ^^^ 255#64), r9.1.1.1.v3⟩ : DigestState), ()) (4 : Int)).bind fun r10 => (let v11 : BitVec 64 := (((r10.1.1.1.v0 ^^^ r10.1.1.1.v1) ^^^ r10.1.1.1.v2) ^^^ r10.1.1.1.v3)
 (some ((), (v11, ())))))))))
 else none)))
def S_digest_Sum : FSpec T := ⟨[.f (.v .u64), .f (.v .u64), .f (.v (.rs 0))], [(.v .u64)], fun x => digest_Sum x.1 x.2.1 x.2.2.1⟩
def E_digest_Sum : Env T := ⟨tab.find, cd, globs, flc, fun f ds => match f with
    | 124 => some S_digest_state_absorb
    | 125 => some S_digest_little
    | 126 => some S_digest_state_rounds
    | _ => none, fun f => match f with
    | 125 => true
    | _ => false⟩
def A_digest_Sum : Loc2 T := ⟨fun id => match id with
    | 0 => some ⟨[(2, .f (.v (.rs 0))), (7, .ptr [(.v (.agg 9))]), (8, .f (.v (.int .i64))), (22, .f (.v (.int .i64))), (23, .f (.v (.int .i64)))], [(.exit 0, [(2, .f (.v (.rs 0))), (7, .ptr [(.v (.agg 9))]), (8, .f (.v (.int .i64)))])], digest_Sum_L0, []⟩
    | _ => none, fun r => match r with
    | _ => none, fun r => match r with
    | _ => false⟩
theorem digest_Sum_L0_eq (y0 : (List (UInt8))) (y1 : (DigestState × Unit)) (y2 : Int) (y3 : Int) (y4 : Int) : run E_digest_Sum A_digest_Sum (loopAt 0 (Tryz.f95.body.getD .skip)) (layC cd [(2, .f (.v (.rs 0))), (7, .ptr [(.v (.agg 9))]), (8, .f (.v (.int .i64))), (22, .f (.v (.int .i64))), (23, .f (.v (.int .i64)))] [] (y0, y1, y2, y3, y4, ())) (roundK cd [(2, .f (.v (.rs 0))), (7, .ptr [(.v (.agg 9))]), (8, .f (.v (.int .i64))), (22, .f (.v (.int .i64))), (23, .f (.v (.int .i64)))] [] [(.exit 0, [(2, .f (.v (.rs 0))), (7, .ptr [(.v (.agg 9))]), (8, .f (.v (.int .i64)))])]) = digest_Sum_L0b y0 y1 y2 y3 y4 := by kernel_rfl
theorem digest_Sum_eq (x : tySs T S_digest_Sum.ps) : run E_digest_Sum A_digest_Sum (Tryz.f95.body.getD .skip) (enterT E_digest_Sum.C S_digest_Sum.ps x) (retK E_digest_Sum Tryz.f95.results.toList S_digest_Sum.ps S_digest_Sum.rs) = S_digest_Sum.fn x := by kernel_rfl
theorem digest_Sum_env : EnvOk Tryz.prog E_digest_Sum := envOk (E := E_digest_Sum) cd_ok tys fl_ok fun f ds S h => by
    dsimp only [E_digest_Sum] at h
    split at h
    · cases h; exact digest_state_absorb_ok
    · cases h; exact digest_little_ok
    · cases h; exact digest_state_rounds_ok
    · cases h
theorem digest_Sum_L0_ok : LoopOk Tryz.prog E_digest_Sum Tryz.f95.ntmps (kqOf S_digest_Sum.ps 0) (loopAt 0 (Tryz.f95.body.getD .skip)) ⟨[(2, .f (.v (.rs 0))), (7, .ptr [(.v (.agg 9))]), (8, .f (.v (.int .i64))), (22, .f (.v (.int .i64))), (23, .f (.v (.int .i64)))], [(.exit 0, [(2, .f (.v (.rs 0))), (7, .ptr [(.v (.agg 9))]), (8, .f (.v (.int .i64)))])], digest_Sum_L0, []⟩ :=
  loop_ok (A := A_digest_Sum) (done := []) (c0 := (Tryz.f95.body.getD .skip)) hmix digest_Sum_env done_nil rounds (by kernel_rfl) (by kernel_rfl) (fun x => digest_Sum_L0_eq x.1 x.2.1 x.2.2.1 x.2.2.2.1 x.2.2.2.2.1) (fun _ => rfl)
theorem digest_Sum_ok : SoundT Tryz.prog cd gdn 95 S_digest_Sum :=
  sound_fn (E := E_digest_Sum) (A := A_digest_Sum) (done := [0]) (c := (Tryz.f95.body.getD .skip)) (S := S_digest_Sum) (fn := Tryz.f95) hmix digest_Sum_env Tryz.func95 rfl (by kernel_rfl) (by kernel_rfl) (done_cons rfl digest_Sum_L0_ok done_nil) (by kernel_rfl) (by kernel_rfl) digest_Sum_eq
def digest_Mac (a0 : (BitVec 64)) (a1 : Int) (a2 : (List (UInt8))) : Option ((Unit) × ((BitVec 64) × Unit)) :=
 ((digest_Sum a0 (1#64 + (BitVec.ofInt 64 a1)) a2).bind fun r1 => (some ((), (r1.2.1, ()))))
def S_digest_Mac : FSpec T := ⟨[.f (.v .u64), .f (.v (.int .i64)), .f (.v (.rs 0))], [(.v .u64)], fun x => digest_Mac x.1 x.2.1 x.2.2.1⟩
def E_digest_Mac : Env T := ⟨tab.find, cd, globs, flc, fun f ds => match f with
    | 95 => some S_digest_Sum
    | _ => none, fun f => match f with
    | 95 => true
    | _ => false⟩
def A_digest_Mac : Loc2 T := ⟨fun id => match id with
    | _ => none, fun r => match r with
    | _ => none, fun r => match r with
    | _ => false⟩
theorem digest_Mac_eq (x : tySs T S_digest_Mac.ps) : run E_digest_Mac A_digest_Mac (Tryz.f89.body.getD .skip) (enterT E_digest_Mac.C S_digest_Mac.ps x) (retK E_digest_Mac Tryz.f89.results.toList S_digest_Mac.ps S_digest_Mac.rs) = S_digest_Mac.fn x := by kernel_rfl
theorem digest_Mac_env : EnvOk Tryz.prog E_digest_Mac := envOk (E := E_digest_Mac) cd_ok tys fl_ok fun f ds S h => by
    dsimp only [E_digest_Mac] at h
    split at h
    · cases h; exact digest_Sum_ok
    · cases h
theorem digest_Mac_ok : SoundT Tryz.prog cd gdn 89 S_digest_Mac :=
  sound_fn (E := E_digest_Mac) (A := A_digest_Mac) (done := []) (c := (Tryz.f89.body.getD .skip)) (S := S_digest_Mac) (fn := Tryz.f89) hmix digest_Mac_env Tryz.func89 rfl (by kernel_rfl) (by kernel_rfl) done_nil (by kernel_rfl) (by kernel_rfl) digest_Mac_eq
def digest_Derive (a0 : (BitVec 64)) (a1 : (List UInt8)) (a2 : Int) : Option ((Unit) × ((BitVec 64) × Unit)) :=
 (bif small ((a1).length + (([(0 : UInt8)] : List (UInt8)) : List (UInt8)).length) 1 then ((digest_Words ([(BitVec.ofInt 64 a2)] : List (BitVec 64))).bind fun r1 => (bif small (((a1 ++ ([(0 : UInt8)] : List (UInt8)))).length + (r1.2.1 : List (UInt8)).length) 1 then (let v2 : List (UInt8) := ((a1 ++ ([(0 : UInt8)] : List (UInt8))) ++ r1.2.1)
 ((digest_Mac a0 (4 : Int) v2).bind fun r3 => (some ((), (r3.2.1, ())))))
 else none))
 else none)
def S_digest_Derive : FSpec T := ⟨[.f (.v .u64), .f (.v .str), .f (.v (.int .i64))], [(.v .u64)], fun x => digest_Derive x.1 x.2.1 x.2.2.1⟩
def E_digest_Derive : Env T := ⟨tab.find, cd, globs, flc, fun f ds => match f with
    | 89 => some S_digest_Mac
    | 90 => some S_digest_Words
    | _ => none, fun f => match f with
    | 89 => true
    | _ => false⟩
def A_digest_Derive : Loc2 T := ⟨fun id => match id with
    | _ => none, fun r => match r with
    | _ => none, fun r => match r with
    | _ => false⟩
theorem digest_Derive_eq (x : tySs T S_digest_Derive.ps) : run E_digest_Derive A_digest_Derive (Tryz.f63.body.getD .skip) (enterT E_digest_Derive.C S_digest_Derive.ps x) (retK E_digest_Derive Tryz.f63.results.toList S_digest_Derive.ps S_digest_Derive.rs) = S_digest_Derive.fn x := by kernel_rfl
theorem digest_Derive_env : EnvOk Tryz.prog E_digest_Derive := envOk (E := E_digest_Derive) cd_ok tys fl_ok fun f ds S h => by
    dsimp only [E_digest_Derive] at h
    split at h
    · cases h; exact digest_Mac_ok
    · cases h; exact digest_Words_ok
    · cases h
theorem digest_Derive_ok : SoundT Tryz.prog cd gdn 63 S_digest_Derive :=
  sound_fn (E := E_digest_Derive) (A := A_digest_Derive) (done := []) (c := (Tryz.f63.body.getD .skip)) (S := S_digest_Derive) (fn := Tryz.f63) hmix digest_Derive_env Tryz.func63 rfl (by kernel_rfl) (by kernel_rfl) done_nil (by kernel_rfl) (by kernel_rfl) digest_Derive_eq
def seal_Stream_L0b (y0 : (BitVec 64)) (y1 : (BitVec 64)) (y2 : Int) (y3 : (List (UInt8))) (y4 : (BitVec 64)) : Option (((BitVec 64) × (BitVec 64) × Int × (List (UInt8)) × (BitVec 64) × Unit) ⊕ (Int × (List (UInt8)) × Unit)) :=
 (bif (decide (((y3).length : Int) < y2)) then ((digest_Words ([y1, y4] : List (BitVec 64))).bind fun r2 => ((digest_Mac y0 (5 : Int) r2.2.1).bind fun r3 => ((digest_Words ([r3.2.1] : List (BitVec 64))).bind fun r4 => (bif small ((y3).length + (r4.2.1 : List (UInt8)).length) 1 then (some (Sum.inl (y0, y1, y2, (y3 ++ r4.2.1), (y4 + 1#64), ())))
 else none))))
 else (some (Sum.inr (y2, y3, ()))))
def seal_Stream_L0 (y : ((BitVec 64) × (BitVec 64) × Int × (List (UInt8)) × (BitVec 64) × Unit)) : Option (Int × (List (UInt8)) × Unit) := iter (fun (y : ((BitVec 64) × (BitVec 64) × Int × (List (UInt8)) × (BitVec 64) × Unit)) => seal_Stream_L0b y.1 y.2.1 y.2.2.1 y.2.2.2.1 y.2.2.2.2.1) rounds y
def seal_Stream (a0 : (BitVec 64)) (a1 : (BitVec 64)) (a2 : Int) : Option ((Unit) × ((List (UInt8)) × Unit)) :=
 (let v1 : Int := (bif decide ((1024 : Int) < (bif decide (a2 < (0 : Int)) then (0 : Int) else a2)) then (1024 : Int) else (bif decide (a2 < (0 : Int)) then (0 : Int) else a2))
 (bif (decide ((0 : Int) ≤ (0 : Int)) && (decide ((0 : Int) ≤ (IntKind.wrap .i64 (v1 + (8 : Int)))) && decide ((1 : Int) * (IntKind.wrap .i64 (v1 + (8 : Int))) ≤ 281474976710656 ∧ (IntKind.wrap .i64 (v1 + (8 : Int))) ≤ 9223372036854775807))) then ((seal_Stream_L0 (a0, a1, v1, (List.replicate 0 (0 : UInt8)), 0#64, ())).bind (fun (z5 : (Int × (List (UInt8)) × Unit)) => (bif (decide ((0 : Int) ≤ z5.1) && decide (z5.1 ≤ ((z5.2.1).length : Int))) then (bif decide ((z5.1).toNat ≤ (z5.2.1).length) then (some ((), ((List.take (z5.1).toNat z5.2.1), ())))
 else none)
 else none)))
 else none))
def S_seal_Stream : FSpec T := ⟨[.f (.v .u64), .f (.v .u64), .f (.v (.int .i64))], [(.own 0)], fun x => seal_Stream x.1 x.2.1 x.2.2.1⟩
def E_seal_Stream : Env T := ⟨tab.find, cd, globs, flc, fun f ds => match f with
    | 89 => some S_digest_Mac
    | 90 => some S_digest_Words
    | _ => none, fun f => match f with
    | 89 => true
    | _ => false⟩
def A_seal_Stream : Loc2 T := ⟨fun id => match id with
    | 0 => some ⟨[(0, .f (.v .u64)), (1, .f (.v .u64)), (2, .f (.v (.int .i64))), (7, .f (.own 0)), (8, .f (.v .u64))], [(.exit 0, [(2, .f (.v (.int .i64))), (7, .f (.own 0))])], seal_Stream_L0, []⟩
    | _ => none, fun r => match r with
    | _ => none, fun r => match r with
    | _ => false⟩
theorem seal_Stream_L0_eq (y0 : (BitVec 64)) (y1 : (BitVec 64)) (y2 : Int) (y3 : (List (UInt8))) (y4 : (BitVec 64)) : run E_seal_Stream A_seal_Stream (loopAt 0 (Tryz.f62.body.getD .skip)) (layC cd [(0, .f (.v .u64)), (1, .f (.v .u64)), (2, .f (.v (.int .i64))), (7, .f (.own 0)), (8, .f (.v .u64))] [] (y0, y1, y2, y3, y4, ())) (roundK cd [(0, .f (.v .u64)), (1, .f (.v .u64)), (2, .f (.v (.int .i64))), (7, .f (.own 0)), (8, .f (.v .u64))] [] [(.exit 0, [(2, .f (.v (.int .i64))), (7, .f (.own 0))])]) = seal_Stream_L0b y0 y1 y2 y3 y4 := by kernel_rfl
theorem seal_Stream_eq (x : tySs T S_seal_Stream.ps) : run E_seal_Stream A_seal_Stream (Tryz.f62.body.getD .skip) (enterT E_seal_Stream.C S_seal_Stream.ps x) (retK E_seal_Stream Tryz.f62.results.toList S_seal_Stream.ps S_seal_Stream.rs) = S_seal_Stream.fn x := by kernel_rfl
theorem seal_Stream_env : EnvOk Tryz.prog E_seal_Stream := envOk (E := E_seal_Stream) cd_ok tys fl_ok fun f ds S h => by
    dsimp only [E_seal_Stream] at h
    split at h
    · cases h; exact digest_Mac_ok
    · cases h; exact digest_Words_ok
    · cases h
theorem seal_Stream_L0_ok : LoopOk Tryz.prog E_seal_Stream Tryz.f62.ntmps (kqOf S_seal_Stream.ps 0) (loopAt 0 (Tryz.f62.body.getD .skip)) ⟨[(0, .f (.v .u64)), (1, .f (.v .u64)), (2, .f (.v (.int .i64))), (7, .f (.own 0)), (8, .f (.v .u64))], [(.exit 0, [(2, .f (.v (.int .i64))), (7, .f (.own 0))])], seal_Stream_L0, []⟩ :=
  loop_ok (A := A_seal_Stream) (done := []) (c0 := (Tryz.f62.body.getD .skip)) hmix seal_Stream_env done_nil rounds (by kernel_rfl) (by kernel_rfl) (fun x => seal_Stream_L0_eq x.1 x.2.1 x.2.2.1 x.2.2.2.1 x.2.2.2.2.1) (fun _ => rfl)
theorem seal_Stream_ok : SoundT Tryz.prog cd gdn 62 S_seal_Stream :=
  sound_fn (E := E_seal_Stream) (A := A_seal_Stream) (done := [0]) (c := (Tryz.f62.body.getD .skip)) (S := S_seal_Stream) (fn := Tryz.f62) hmix seal_Stream_env Tryz.func62 rfl (by kernel_rfl) (by kernel_rfl) (done_cons rfl seal_Stream_L0_ok done_nil) (by kernel_rfl) (by kernel_rfl) seal_Stream_eq
def credential_wrapKey (a0 : (BitVec 64)) : Option ((Unit) × ((BitVec 64) × Unit)) :=
 ((digest_Derive a0 ([119, 114, 97, 112] : List UInt8) (0 : Int)).bind fun r1 => (some ((), (r1.2.1, ()))))
def S_credential_wrapKey : FSpec T := ⟨[.f (.v .u64)], [(.v .u64)], fun x => credential_wrapKey x.1⟩
def E_credential_wrapKey : Env T := ⟨tab.find, cd, globs, flc, fun f ds => match f with
    | 63 => some S_digest_Derive
    | _ => none, fun f => match f with
    | 63 => true
    | _ => false⟩
def A_credential_wrapKey : Loc2 T := ⟨fun id => match id with
    | _ => none, fun r => match r with
    | _ => none, fun r => match r with
    | _ => false⟩
theorem credential_wrapKey_eq (x : tySs T S_credential_wrapKey.ps) : run E_credential_wrapKey A_credential_wrapKey (Tryz.f65.body.getD .skip) (enterT E_credential_wrapKey.C S_credential_wrapKey.ps x) (retK E_credential_wrapKey Tryz.f65.results.toList S_credential_wrapKey.ps S_credential_wrapKey.rs) = S_credential_wrapKey.fn x := by kernel_rfl
theorem credential_wrapKey_env : EnvOk Tryz.prog E_credential_wrapKey := envOk (E := E_credential_wrapKey) cd_ok tys fl_ok fun f ds S h => by
    dsimp only [E_credential_wrapKey] at h
    split at h
    · cases h; exact digest_Derive_ok
    · cases h
theorem credential_wrapKey_ok : SoundT Tryz.prog cd gdn 65 S_credential_wrapKey :=
  sound_fn (E := E_credential_wrapKey) (A := A_credential_wrapKey) (done := []) (c := (Tryz.f65.body.getD .skip)) (S := S_credential_wrapKey) (fn := Tryz.f65) hmix credential_wrapKey_env Tryz.func65 rfl (by kernel_rfl) (by kernel_rfl) done_nil (by kernel_rfl) (by kernel_rfl) credential_wrapKey_eq
def digest_Hash (a0 : Int) (a1 : (List (UInt8))) : Option ((Unit) × ((BitVec 64) × Unit)) :=
 ((digest_Sum (BitVec.ofInt 64 a0) (0#64) a1).bind fun r1 => (some ((), (r1.2.1, ()))))
def S_digest_Hash : FSpec T := ⟨[.f (.v (.int .i64)), .f (.v (.rs 0))], [(.v .u64)], fun x => digest_Hash x.1 x.2.1⟩
def E_digest_Hash : Env T := ⟨tab.find, cd, globs, flc, fun f ds => match f with
    | 95 => some S_digest_Sum
    | _ => none, fun f => match f with
    | 95 => true
    | _ => false⟩
def A_digest_Hash : Loc2 T := ⟨fun id => match id with
    | _ => none, fun r => match r with
    | _ => none, fun r => match r with
    | _ => false⟩
theorem digest_Hash_eq (x : tySs T S_digest_Hash.ps) : run E_digest_Hash A_digest_Hash (Tryz.f67.body.getD .skip) (enterT E_digest_Hash.C S_digest_Hash.ps x) (retK E_digest_Hash Tryz.f67.results.toList S_digest_Hash.ps S_digest_Hash.rs) = S_digest_Hash.fn x := by kernel_rfl
theorem digest_Hash_env : EnvOk Tryz.prog E_digest_Hash := envOk (E := E_digest_Hash) cd_ok tys fl_ok fun f ds S h => by
    dsimp only [E_digest_Hash] at h
    split at h
    · cases h; exact digest_Sum_ok
    · cases h
theorem digest_Hash_ok : SoundT Tryz.prog cd gdn 67 S_digest_Hash :=
  sound_fn (E := E_digest_Hash) (A := A_digest_Hash) (done := []) (c := (Tryz.f67.body.getD .skip)) (S := S_digest_Hash) (fn := Tryz.f67) hmix digest_Hash_env Tryz.func67 rfl (by kernel_rfl) (by kernel_rfl) done_nil (by kernel_rfl) (by kernel_rfl) digest_Hash_eq
def authdata_RPHash (a0 : (List UInt8)) : Option ((Unit) × ((BitVec 64) × Unit)) :=
 ((digest_Hash (9 : Int) a0).bind fun r1 => (some ((), (r1.2.1, ()))))
def S_authdata_RPHash : FSpec T := ⟨[.f (.v .str)], [(.v .u64)], fun x => authdata_RPHash x.1⟩
def E_authdata_RPHash : Env T := ⟨tab.find, cd, globs, flc, fun f ds => match f with
    | 67 => some S_digest_Hash
    | _ => none, fun f => match f with
    | 67 => true
    | _ => false⟩
def A_authdata_RPHash : Loc2 T := ⟨fun id => match id with
    | _ => none, fun r => match r with
    | _ => none, fun r => match r with
    | _ => false⟩
theorem authdata_RPHash_eq (x : tySs T S_authdata_RPHash.ps) : run E_authdata_RPHash A_authdata_RPHash (Tryz.f94.body.getD .skip) (enterT E_authdata_RPHash.C S_authdata_RPHash.ps x) (retK E_authdata_RPHash Tryz.f94.results.toList S_authdata_RPHash.ps S_authdata_RPHash.rs) = S_authdata_RPHash.fn x := by kernel_rfl
theorem authdata_RPHash_env : EnvOk Tryz.prog E_authdata_RPHash := envOk (E := E_authdata_RPHash) cd_ok tys fl_ok fun f ds S h => by
    dsimp only [E_authdata_RPHash] at h
    split at h
    · cases h; exact digest_Hash_ok
    · cases h
theorem authdata_RPHash_ok : SoundT Tryz.prog cd gdn 94 S_authdata_RPHash :=
  sound_fn (E := E_authdata_RPHash) (A := A_authdata_RPHash) (done := []) (c := (Tryz.f94.body.getD .skip)) (S := S_authdata_RPHash) (fn := Tryz.f94) hmix authdata_RPHash_env Tryz.func94 rfl (by kernel_rfl) (by kernel_rfl) done_nil (by kernel_rfl) (by kernel_rfl) authdata_RPHash_eq
def credential_bound (a0 : (List UInt8)) : Option ((Unit) × ((List (UInt8)) × Unit)) :=
 ((authdata_RPHash a0).bind fun r1 => ((digest_Words ([r1.2.1] : List (BitVec 64))).bind fun r2 => (some ((), (r2.2.1, ())))))
def S_credential_bound : FSpec T := ⟨[.f (.v .str)], [(.own 0)], fun x => credential_bound x.1⟩
def E_credential_bound : Env T := ⟨tab.find, cd, globs, flc, fun f ds => match f with
    | 90 => some S_digest_Words
    | 94 => some S_authdata_RPHash
    | _ => none, fun f => match f with
    | 94 => true
    | _ => false⟩
def A_credential_bound : Loc2 T := ⟨fun id => match id with
    | _ => none, fun r => match r with
    | _ => none, fun r => match r with
    | _ => false⟩
theorem credential_bound_eq (x : tySs T S_credential_bound.ps) : run E_credential_bound A_credential_bound (Tryz.f66.body.getD .skip) (enterT E_credential_bound.C S_credential_bound.ps x) (retK E_credential_bound Tryz.f66.results.toList S_credential_bound.ps S_credential_bound.rs) = S_credential_bound.fn x := by kernel_rfl
theorem credential_bound_env : EnvOk Tryz.prog E_credential_bound := envOk (E := E_credential_bound) cd_ok tys fl_ok fun f ds S h => by
    dsimp only [E_credential_bound] at h
    split at h
    · cases h; exact digest_Words_ok
    · cases h; exact authdata_RPHash_ok
    · cases h
theorem credential_bound_ok : SoundT Tryz.prog cd gdn 66 S_credential_bound :=
  sound_fn (E := E_credential_bound) (A := A_credential_bound) (done := []) (c := (Tryz.f66.body.getD .skip)) (S := S_credential_bound) (fn := Tryz.f66) hmix credential_bound_env Tryz.func66 rfl (by kernel_rfl) (by kernel_rfl) done_nil (by kernel_rfl) (by kernel_rfl) credential_bound_eq
def seal_mix_L0b (y0 : (List (UInt8))) (y1 : (List (UInt8))) (y2 : Int) (y3 : Int) : Option (((List (UInt8)) × (List (UInt8)) × Int × Int × Unit) ⊕ ((List (UInt8)) × Unit)) :=
 (bif (decide (y3 < y2)) then (bif (decide ((0 : Int) ≤ y3) && decide (y3 < ((y1).length : Int))) then (((y1)[(y3).toNat]?).bind fun x2 => ((getI y0 y3).bind fun x3 => (bif (decide ((0 : Int) ≤ y3) && decide (y3 < ((y1).length : Int))) then (((y1)[(y3).toNat]?).bind fun x4 => (let v5 : List (UInt8) := (List.set y1 (y3).toNat (UInt8.ofBitVec (x2.toBitVec ^^^ x3.toBitVec)))
 (some (Sum.inl (y0, v5, y2, (IntKind.wrap .i64 (y3 + (1 : Int))), ())))))
 else none)))
 else none)
 else (some (Sum.inr (y1, ()))))
def seal_mix_L0 (y : ((List (UInt8)) × (List (UInt8)) × Int × Int × Unit)) : Option ((List (UInt8)) × Unit) := iter (fun (y : ((List (UInt8)) × (List (UInt8)) × Int × Int × Unit)) => seal_mix_L0b y.1 y.2.1 y.2.2.1 y.2.2.2.1) rounds y
def seal_mix (a0 : (BitVec 64)) (a1 : (BitVec 64)) (a2 : (List (UInt8))) : Option ((Unit) × ((List (UInt8)) × Unit)) :=
 ((seal_Stream a0 a1 ((a2).length : Int)).bind fun r1 => ((seal_mix_L0 (a2, r1.2.1, ((r1.2.1).length : Int), (0 : Int), ())).bind (fun (z6 : ((List (UInt8)) × Unit)) => (some ((), (z6.1, ()))))))
def S_seal_mix : FSpec T := ⟨[.f (.v .u64), .f (.v .u64), .f (.v (.rs 0))], [(.own 0)], fun x => seal_mix x.1 x.2.1 x.2.2.1⟩
def E_seal_mix : Env T := ⟨tab.find, cd, globs, flc, fun f ds => match f with
    | 62 => some S_seal_Stream
    | _ => none, fun f => match f with
    | _ => false⟩
def A_seal_mix : Loc2 T := ⟨fun id => match id with
    | 0 => some ⟨[(2, .f (.v (.rs 0))), (7, .f (.own 0)), (15, .f (.v (.int .i64))), (16, .f (.v (.int .i64)))], [(.exit 0, [(7, .f (.own 0))])], seal_mix_L0, []⟩
    | _ => none, fun r => match r with
    | _ => none, fun r => match r with
    | _ => false⟩
theorem seal_mix_L0_eq (y0 : (List (UInt8))) (y1 : (List (UInt8))) (y2 : Int) (y3 : Int) : run E_seal_mix A_seal_mix (loopAt 0 (Tryz.f91.body.getD .skip)) (layC cd [(2, .f (.v (.rs 0))), (7, .f (.own 0)), (15, .f (.v (.int .i64))), (16, .f (.v (.int .i64)))] [] (y0, y1, y2, y3, ())) (roundK cd [(2, .f (.v (.rs 0))), (7, .f (.own 0)), (15, .f (.v (.int .i64))), (16, .f (.v (.int .i64)))] [] [(.exit 0, [(7, .f (.own 0))])]) = seal_mix_L0b y0 y1 y2 y3 := by kernel_rfl
theorem seal_mix_eq (x : tySs T S_seal_mix.ps) : run E_seal_mix A_seal_mix (Tryz.f91.body.getD .skip) (enterT E_seal_mix.C S_seal_mix.ps x) (retK E_seal_mix Tryz.f91.results.toList S_seal_mix.ps S_seal_mix.rs) = S_seal_mix.fn x := by kernel_rfl
theorem seal_mix_env : EnvOk Tryz.prog E_seal_mix := envOk (E := E_seal_mix) cd_ok tys fl_ok fun f ds S h => by
    dsimp only [E_seal_mix] at h
    split at h
    · cases h; exact seal_Stream_ok
    · cases h
theorem seal_mix_L0_ok : LoopOk Tryz.prog E_seal_mix Tryz.f91.ntmps (kqOf S_seal_mix.ps 0) (loopAt 0 (Tryz.f91.body.getD .skip)) ⟨[(2, .f (.v (.rs 0))), (7, .f (.own 0)), (15, .f (.v (.int .i64))), (16, .f (.v (.int .i64)))], [(.exit 0, [(7, .f (.own 0))])], seal_mix_L0, []⟩ :=
  loop_ok (A := A_seal_mix) (done := []) (c0 := (Tryz.f91.body.getD .skip)) hmix seal_mix_env done_nil rounds (by kernel_rfl) (by kernel_rfl) (fun x => seal_mix_L0_eq x.1 x.2.1 x.2.2.1 x.2.2.2.1) (fun _ => rfl)
theorem seal_mix_ok : SoundT Tryz.prog cd gdn 91 S_seal_mix :=
  sound_fn (E := E_seal_mix) (A := A_seal_mix) (done := [0]) (c := (Tryz.f91.body.getD .skip)) (S := S_seal_mix) (fn := Tryz.f91) hmix seal_mix_env Tryz.func91 rfl (by kernel_rfl) (by kernel_rfl) (done_cons rfl seal_mix_L0_ok done_nil) (by kernel_rfl) (by kernel_rfl) seal_mix_eq
def slices_Grow_byte_byte (a0 : Unit) (a1 : Int) : Option ((Unit) × ((List (UInt8)) × Unit)) :=
 (bif (decide (a1 < (0 : Int))) then none
 else (bif (decide ((0 : Int) < (IntKind.wrap .i64 (a1 - (0 : Int))))) then (bif (decide ((0 : Int) < (IntKind.wrap .i64 (a1 - (0 : Int)))) && (decide ((IntKind.wrap .i64 (a1 - (0 : Int))) ≤ 9223372036854775807) && small ((IntKind.wrap .i64 (a1 - (0 : Int)))).toNat 1)) then (bif decide ((0 : Int) ≤ (((IntKind.wrap .i64 (a1 - (0 : Int)))).toNat : Int)) then (bif decide (0 ≤ ((List.replicate ((IntKind.wrap .i64 (a1 - (0 : Int)))).toNat (0 : UInt8))).length) then (some ((), ((List.take 0 (List.replicate ((IntKind.wrap .i64 (a1 - (0 : Int)))).toNat (0 : UInt8))), ())))
 else none)
 else none)
 else none)
 else (some ((), ([], ())))))
def S_slices_Grow_byte_byte : FSpec T := ⟨[.f (.v .kn), .f (.v (.int .i64))], [(.own 0)], fun x => slices_Grow_byte_byte x.1 x.2.1⟩
def E_slices_Grow_byte_byte : Env T := ⟨tab.find, cd, globs, flc, fun f ds => match f with
    | _ => none, fun f => match f with
    | _ => false⟩
def A_slices_Grow_byte_byte : Loc2 T := ⟨fun id => match id with
    | _ => none, fun r => match r with
    | _ => none, fun r => match r with
    | _ => false⟩
theorem slices_Grow_byte_byte_eq (x : tySs T S_slices_Grow_byte_byte.ps) : run E_slices_Grow_byte_byte A_slices_Grow_byte_byte (Tryz.f123.body.getD .skip) (enterT E_slices_Grow_byte_byte.C S_slices_Grow_byte_byte.ps x) (retK E_slices_Grow_byte_byte Tryz.f123.results.toList S_slices_Grow_byte_byte.ps S_slices_Grow_byte_byte.rs) = S_slices_Grow_byte_byte.fn x := by kernel_rfl
theorem slices_Grow_byte_byte_env : EnvOk Tryz.prog E_slices_Grow_byte_byte := envOk (E := E_slices_Grow_byte_byte) cd_ok tys fl_ok fun f ds S h => by cases h
theorem slices_Grow_byte_byte_ok : SoundT Tryz.prog cd gdn 123 S_slices_Grow_byte_byte :=
  sound_fn (E := E_slices_Grow_byte_byte) (A := A_slices_Grow_byte_byte) (done := []) (c := (Tryz.f123.body.getD .skip)) (S := S_slices_Grow_byte_byte) (fn := Tryz.f123) hmix slices_Grow_byte_byte_env Tryz.func123 rfl (by kernel_rfl) (by kernel_rfl) done_nil (by kernel_rfl) (by kernel_rfl) slices_Grow_byte_byte_eq
def slices_Concat_byte_byte_L0b (y0 : (List (List UInt8))) (y1 : Int) (y2 : (List (List UInt8))) (y3 : Int) (y4 : Int) : Option (((List (List UInt8)) × Int × (List (List UInt8)) × Int × Int × Unit) ⊕ ((List (List UInt8)) × Int × Unit)) :=
 (bif (decide (y4 < y3)) then ((getI y2 y4).bind fun x1 => (bif (decide ((IntKind.wrap .i64 (y1 + ((x1).length : Int))) < (0 : Int))) then none
 else (some (Sum.inl (y0, (IntKind.wrap .i64 (y1 + ((x1).length : Int))), y2, y3, (IntKind.wrap .i64 (y4 + (1 : Int))), ())))))
 else (some (Sum.inr (y0, y1, ()))))
def slices_Concat_byte_byte_L0 (y : ((List (List UInt8)) × Int × (List (List UInt8)) × Int × Int × Unit)) : Option ((List (List UInt8)) × Int × Unit) := iter (fun (y : ((List (List UInt8)) × Int × (List (List UInt8)) × Int × Int × Unit)) => slices_Concat_byte_byte_L0b y.1 y.2.1 y.2.2.1 y.2.2.2.1 y.2.2.2.2.1) rounds y
def slices_Concat_byte_byte_L2b (y0 : (List (UInt8))) (y1 : (List (List UInt8))) (y2 : Int) (y3 : Int) : Option (((List (UInt8)) × (List (List UInt8)) × Int × Int × Unit) ⊕ ((List (UInt8)) × Unit)) :=
 (bif (decide (y3 < y2)) then ((getI y1 y3).bind fun x4 => (bif small ((y0).length + (x4 : List (UInt8)).length) 1 then (some (Sum.inl ((y0 ++ x4), y1, y2, (IntKind.wrap .i64 (y3 + (1 : Int))), ())))
 else none))
 else (some (Sum.inr (y0, ()))))
def slices_Concat_byte_byte_L2 (y : ((List (UInt8)) × (List (List UInt8)) × Int × Int × Unit)) : Option ((List (UInt8)) × Unit) := iter (fun (y : ((List (UInt8)) × (List (List UInt8)) × Int × Int × Unit)) => slices_Concat_byte_byte_L2b y.1 y.2.1 y.2.2.1 y.2.2.2.1) rounds y
def slices_Concat_byte_byte (a0 : (List (List UInt8))) : Option ((Unit) × ((List (UInt8)) × Unit)) :=
 ((slices_Concat_byte_byte_L0 (a0, (0 : Int), a0, ((a0).length : Int), (0 : Int), ())).bind (fun (z2 : ((List (List UInt8)) × Int × Unit)) => ((slices_Grow_byte_byte () z2.2.1).bind fun r3 => ((slices_Concat_byte_byte_L2 (r3.2.1, z2.1, ((z2.1).length : Int), (0 : Int), ())).bind (fun (z5 : ((List (UInt8)) × Unit)) => (some ((), (z5.1, ()))))))))
def S_slices_Concat_byte_byte : FSpec T := ⟨[.f (.v (.rs 10))], [(.own 0)], fun x => slices_Concat_byte_byte x.1⟩
def E_slices_Concat_byte_byte : Env T := ⟨tab.find, cd, globs, flc, fun f ds => match f with
    | 123 => some S_slices_Grow_byte_byte
    | _ => none, fun f => match f with
    | _ => false⟩
def A_slices_Concat_byte_byte : Loc2 T := ⟨fun id => match id with
    | 0 => some ⟨[(0, .f (.v (.rs 10))), (3, .f (.v (.int .i64))), (9, .f (.v (.rs 10))), (10, .f (.v (.int .i64))), (11, .f (.v (.int .i64)))], [(.exit 0, [(0, .f (.v (.rs 10))), (3, .f (.v (.int .i64)))])], slices_Concat_byte_byte_L0, []⟩
    | 2 => some ⟨[(6, .f (.own 0)), (25, .f (.v (.rs 10))), (26, .f (.v (.int .i64))), (27, .f (.v (.int .i64)))], [(.exit 2, [(6, .f (.own 0))])], slices_Concat_byte_byte_L2, []⟩
    | _ => none, fun r => match r with
    | _ => none, fun r => match r with
    | _ => false⟩
theorem slices_Concat_byte_byte_L0_eq (y0 : (List (List UInt8))) (y1 : Int) (y2 : (List (List UInt8))) (y3 : Int) (y4 : Int) : run E_slices_Concat_byte_byte A_slices_Concat_byte_byte (loopAt 0 (Tryz.f93.body.getD .skip)) (layC cd [(0, .f (.v (.rs 10))), (3, .f (.v (.int .i64))), (9, .f (.v (.rs 10))), (10, .f (.v (.int .i64))), (11, .f (.v (.int .i64)))] [] (y0, y1, y2, y3, y4, ())) (roundK cd [(0, .f (.v (.rs 10))), (3, .f (.v (.int .i64))), (9, .f (.v (.rs 10))), (10, .f (.v (.int .i64))), (11, .f (.v (.int .i64)))] [] [(.exit 0, [(0, .f (.v (.rs 10))), (3, .f (.v (.int .i64)))])]) = slices_Concat_byte_byte_L0b y0 y1 y2 y3 y4 := by kernel_rfl
theorem slices_Concat_byte_byte_L2_eq (y0 : (List (UInt8))) (y1 : (List (List UInt8))) (y2 : Int) (y3 : Int) : run E_slices_Concat_byte_byte A_slices_Concat_byte_byte (loopAt 2 (Tryz.f93.body.getD .skip)) (layC cd [(6, .f (.own 0)), (25, .f (.v (.rs 10))), (26, .f (.v (.int .i64))), (27, .f (.v (.int .i64)))] [] (y0, y1, y2, y3, ())) (roundK cd [(6, .f (.own 0)), (25, .f (.v (.rs 10))), (26, .f (.v (.int .i64))), (27, .f (.v (.int .i64)))] [] [(.exit 2, [(6, .f (.own 0))])]) = slices_Concat_byte_byte_L2b y0 y1 y2 y3 := by kernel_rfl
theorem slices_Concat_byte_byte_eq (x : tySs T S_slices_Concat_byte_byte.ps) : run E_slices_Concat_byte_byte A_slices_Concat_byte_byte (Tryz.f93.body.getD .skip) (enterT E_slices_Concat_byte_byte.C S_slices_Concat_byte_byte.ps x) (retK E_slices_Concat_byte_byte Tryz.f93.results.toList S_slices_Concat_byte_byte.ps S_slices_Concat_byte_byte.rs) = S_slices_Concat_byte_byte.fn x := by kernel_rfl
theorem slices_Concat_byte_byte_env : EnvOk Tryz.prog E_slices_Concat_byte_byte := envOk (E := E_slices_Concat_byte_byte) cd_ok tys fl_ok fun f ds S h => by
    dsimp only [E_slices_Concat_byte_byte] at h
    split at h
    · cases h; exact slices_Grow_byte_byte_ok
    · cases h
theorem slices_Concat_byte_byte_L0_ok : LoopOk Tryz.prog E_slices_Concat_byte_byte Tryz.f93.ntmps (kqOf S_slices_Concat_byte_byte.ps 0) (loopAt 0 (Tryz.f93.body.getD .skip)) ⟨[(0, .f (.v (.rs 10))), (3, .f (.v (.int .i64))), (9, .f (.v (.rs 10))), (10, .f (.v (.int .i64))), (11, .f (.v (.int .i64)))], [(.exit 0, [(0, .f (.v (.rs 10))), (3, .f (.v (.int .i64)))])], slices_Concat_byte_byte_L0, []⟩ :=
  loop_ok (A := A_slices_Concat_byte_byte) (done := []) (c0 := (Tryz.f93.body.getD .skip)) hmix slices_Concat_byte_byte_env done_nil rounds (by kernel_rfl) (by kernel_rfl) (fun x => slices_Concat_byte_byte_L0_eq x.1 x.2.1 x.2.2.1 x.2.2.2.1 x.2.2.2.2.1) (fun _ => rfl)
theorem slices_Concat_byte_byte_L2_ok : LoopOk Tryz.prog E_slices_Concat_byte_byte Tryz.f93.ntmps (kqOf S_slices_Concat_byte_byte.ps 0) (loopAt 2 (Tryz.f93.body.getD .skip)) ⟨[(6, .f (.own 0)), (25, .f (.v (.rs 10))), (26, .f (.v (.int .i64))), (27, .f (.v (.int .i64)))], [(.exit 2, [(6, .f (.own 0))])], slices_Concat_byte_byte_L2, []⟩ :=
  loop_ok (A := A_slices_Concat_byte_byte) (done := [0]) (c0 := (Tryz.f93.body.getD .skip)) hmix slices_Concat_byte_byte_env (done_cons rfl slices_Concat_byte_byte_L0_ok done_nil) rounds (by kernel_rfl) (by kernel_rfl) (fun x => slices_Concat_byte_byte_L2_eq x.1 x.2.1 x.2.2.1 x.2.2.2.1) (fun _ => rfl)
theorem slices_Concat_byte_byte_ok : SoundT Tryz.prog cd gdn 93 S_slices_Concat_byte_byte :=
  sound_fn (E := E_slices_Concat_byte_byte) (A := A_slices_Concat_byte_byte) (done := [0, 2]) (c := (Tryz.f93.body.getD .skip)) (S := S_slices_Concat_byte_byte) (fn := Tryz.f93) hmix slices_Concat_byte_byte_env Tryz.func93 rfl (by kernel_rfl) (by kernel_rfl) (done_cons rfl slices_Concat_byte_byte_L0_ok (done_cons rfl slices_Concat_byte_byte_L2_ok done_nil)) (by kernel_rfl) (by kernel_rfl) slices_Concat_byte_byte_eq
def seal_tag (a0 : (BitVec 64)) (a1 : (BitVec 64)) (a2 : (List (UInt8))) (a3 : (List (UInt8))) : Option ((Unit) × (Arr8_UInt8 × Unit)) :=
 (let v1 : List (BitVec 64) := ([a1, (BitVec.ofInt 64 ((a2).length : Int))] : List (BitVec 64))
 ((digest_Words v1).bind fun r2 => ((slices_Concat_byte_byte ([r2.2.1, a2, a3] : List (List UInt8))).bind fun r3 => ((digest_Mac a0 (6 : Int) r3.2.1).bind fun r4 => ((digest_Words ([r4.2.1] : List (BitVec 64))).bind fun r5 => (bif decide (8 ≤ (r5.2.1).length) then (((r5.2.1)[0]?).bind fun x6 => (((r5.2.1)[1]?).bind fun x7 => (((r5.2.1)[2]?).bind fun x8 => (((r5.2.1)[3]?).bind fun x9 => (((r5.2.1)[4]?).bind fun x10 => (((r5.2.1)[5]?).bind fun x11 => (((r5.2.1)[6]?).bind fun x12 => (((r5.2.1)[7]?).bind fun x13 => (((([x6, x7, x8, x9, x10, x11, x12, x13] : List (UInt8)))[0]?).bind fun x14 => (((([x6, x7, x8, x9, x10, x11, x12, x13] : List (UInt8)))[1]?).bind fun x15 => (((([x6, x7, x8, x9, x10, x11, x12, x13] : List (UInt8)))[2]?).bind fun x16 => (((([x6, x7, x8, x9, x10, x11, x12, x13] : List (UInt8)))[3]?).bind fun x17 => (((([x6, x7, x8, x9, x10, x11, x12, x13] : List (UInt8)))[4]?).bind fun x18 => (((([x6, x7, x8, x9, x10, x11, x12, x13] : List (UInt8)))[5]?).bind fun x19 => (((([x6, x7, x8, x9, x10, x11, x12, x13] : List (UInt8)))[6]?).bind fun x20 => (((([x6, x7, x8, x9, x10, x11, x12, x13] : List (UInt8)))[7]?).bind fun x21 => (some ((), ((⟨x14, x15, x16, x17, x18, x19, x20, x21⟩ : Arr8_UInt8), ())))))))))))))))))))
 else none))))))
def S_seal_tag : FSpec T := ⟨[.f (.v .u64), .f (.v .u64), .f (.v (.rs 0)), .f (.v (.rs 0))], [(.v (.agg 11))], fun x => seal_tag x.1 x.2.1 x.2.2.1 x.2.2.2.1⟩
def E_seal_tag : Env T := ⟨tab.find, cd, globs, flc, fun f ds => match f with
    | 89 => some S_digest_Mac
    | 90 => some S_digest_Words
    | 93 => some S_slices_Concat_byte_byte
    | _ => none, fun f => match f with
    | 89 => true
    | _ => false⟩
def A_seal_tag : Loc2 T := ⟨fun id => match id with
    | _ => none, fun r => match r with
    | _ => none, fun r => match r with
    | _ => false⟩
theorem seal_tag_eq (x : tySs T S_seal_tag.ps) : run E_seal_tag A_seal_tag (Tryz.f92.body.getD .skip) (enterT E_seal_tag.C S_seal_tag.ps x) (retK E_seal_tag Tryz.f92.results.toList S_seal_tag.ps S_seal_tag.rs) = S_seal_tag.fn x := by kernel_rfl
theorem seal_tag_env : EnvOk Tryz.prog E_seal_tag := envOk (E := E_seal_tag) cd_ok tys fl_ok fun f ds S h => by
    dsimp only [E_seal_tag] at h
    split at h
    · cases h; exact digest_Mac_ok
    · cases h; exact digest_Words_ok
    · cases h; exact slices_Concat_byte_byte_ok
    · cases h
theorem seal_tag_ok : SoundT Tryz.prog cd gdn 92 S_seal_tag :=
  sound_fn (E := E_seal_tag) (A := A_seal_tag) (done := []) (c := (Tryz.f92.body.getD .skip)) (S := S_seal_tag) (fn := Tryz.f92) hmix seal_tag_env Tryz.func92 rfl (by kernel_rfl) (by kernel_rfl) done_nil (by kernel_rfl) (by kernel_rfl) seal_tag_eq
def seal_Seal (a0 : (BitVec 64)) (a1 : (BitVec 64)) (a2 : (List (UInt8))) (a3 : (List (UInt8))) : Option ((Unit) × ((List (UInt8)) × Int × Unit)) :=
 (bif (decide ((1024 : Int) < ((a3).length : Int))) then (some ((), ([], (8 : Int), ())))
 else (bif (decide ((1024 : Int) < ((a2).length : Int))) then (some ((), ([], (8 : Int), ())))
 else ((seal_mix a0 a1 a3).bind fun r1 => ((seal_tag a0 a1 a2 r1.2.1).bind fun r2 => ((digest_Words ([a1] : List (BitVec 64))).bind fun r3 => (let v4 : List (List UInt8) := ([r3.2.1, r1.2.1, ([r2.2.1.a0, r2.2.1.a1, r2.2.1.a2, r2.2.1.a3, r2.2.1.a4, r2.2.1.a5, r2.2.1.a6, r2.2.1.a7] : List (UInt8))] : List (List UInt8))
 ((slices_Concat_byte_byte v4).bind fun r5 => (some ((), (r5.2.1, (0 : Int), ()))))))))))
def S_seal_Seal : FSpec T := ⟨[.f (.v .u64), .f (.v .u64), .f (.v (.rs 0)), .f (.v (.rs 0))], [(.own 0), (.v (.int .i64))], fun x => seal_Seal x.1 x.2.1 x.2.2.1 x.2.2.2.1⟩
def E_seal_Seal : Env T := ⟨tab.find, cd, globs, flc, fun f ds => match f with
    | 90 => some S_digest_Words
    | 91 => some S_seal_mix
    | 92 => some S_seal_tag
    | 93 => some S_slices_Concat_byte_byte
    | _ => none, fun f => match f with
    | 92 => true
    | _ => false⟩
def A_seal_Seal : Loc2 T := ⟨fun id => match id with
    | _ => none, fun r => match r with
    | _ => none, fun r => match r with
    | 5 => true
    | _ => false⟩
theorem seal_Seal_eq (x : tySs T S_seal_Seal.ps) : run E_seal_Seal A_seal_Seal (Tryz.f64.body.getD .skip) (enterT E_seal_Seal.C S_seal_Seal.ps x) (retK E_seal_Seal Tryz.f64.results.toList S_seal_Seal.ps S_seal_Seal.rs) = S_seal_Seal.fn x := by kernel_rfl
theorem seal_Seal_env : EnvOk Tryz.prog E_seal_Seal := envOk (E := E_seal_Seal) cd_ok tys fl_ok fun f ds S h => by
    dsimp only [E_seal_Seal] at h
    split at h
    · cases h; exact digest_Words_ok
    · cases h; exact seal_mix_ok
    · cases h; exact seal_tag_ok
    · cases h; exact slices_Concat_byte_byte_ok
    · cases h
theorem seal_Seal_ok : SoundT Tryz.prog cd gdn 64 S_seal_Seal :=
  sound_fn (E := E_seal_Seal) (A := A_seal_Seal) (done := []) (c := (Tryz.f64.body.getD .skip)) (S := S_seal_Seal) (fn := Tryz.f64) hmix seal_Seal_env Tryz.func64 rfl (by kernel_rfl) (by kernel_rfl) done_nil (by kernel_rfl) (by kernel_rfl) seal_Seal_eq
def credential_ID (a0 : (BitVec 64)) (a1 : (BitVec 64)) (a2 : ApiCredential) : Option ((Unit) × ((List (UInt8)) × Int × Unit)) :=
 ((credential_Encode a2).bind fun r1 => (bif (!decide (r1.2.2.1 = (0 : Int))) then (some ((), ([], r1.2.2.1, ())))
 else (bif a2.resident then ((digest_Derive a2.seed ([105, 100] : List UInt8) (0 : Int)).bind fun r2 => ((seal_Stream r2.2.1 (0#64) (176 : Int)).bind fun r3 => (some ((), (r3.2.1, (0 : Int), ())))))
 else (let v4 : List (UInt8) := (List.replicate 160 (0 : UInt8))
 (bif decide ((r1.2.1 : List (UInt8)).length ≤ (v4).length) then (let v5 : List (UInt8) := (r1.2.1 ++ List.drop (r1.2.1 : List (UInt8)).length v4)
 ((credential_wrapKey a0).bind fun r6 => ((credential_bound a2.rP).bind fun r7 => ((seal_Seal r6.2.1 a1 r7.2.1 v5).bind fun r8 => (some ((), (r8.2.1, r8.2.2.1, ())))))))
 else none)))))
def S_credential_ID : FSpec T := ⟨[.f (.v .u64), .f (.v .u64), .f (.v (.agg 2))], [(.own 0), (.v (.int .i64))], fun x => credential_ID x.1 x.2.1 x.2.2.1⟩
def E_credential_ID : Env T := ⟨tab.find, cd, globs, flc, fun f ds => match f with
    | 12 => some S_credential_Encode
    | 62 => some S_seal_Stream
    | 63 => some S_digest_Derive
    | 64 => some S_seal_Seal
    | 65 => some S_credential_wrapKey
    | 66 => some S_credential_bound
    | _ => none, fun f => match f with
    | 63 => true
    | 65 => true
    | _ => false⟩
def A_credential_ID : Loc2 T := ⟨fun id => match id with
    | _ => none, fun r => match r with
    | _ => none, fun r => match r with
    | _ => false⟩
theorem credential_ID_eq (x : tySs T S_credential_ID.ps) : run E_credential_ID A_credential_ID (Tryz.f25.body.getD .skip) (enterT E_credential_ID.C S_credential_ID.ps x) (retK E_credential_ID Tryz.f25.results.toList S_credential_ID.ps S_credential_ID.rs) = S_credential_ID.fn x := by kernel_rfl
theorem credential_ID_env : EnvOk Tryz.prog E_credential_ID := envOk (E := E_credential_ID) cd_ok tys fl_ok fun f ds S h => by
    dsimp only [E_credential_ID] at h
    split at h
    · cases h; exact credential_Encode_ok
    · cases h; exact seal_Stream_ok
    · cases h; exact digest_Derive_ok
    · cases h; exact seal_Seal_ok
    · cases h; exact credential_wrapKey_ok
    · cases h; exact credential_bound_ok
    · cases h
theorem credential_ID_ok : SoundT Tryz.prog cd gdn 25 S_credential_ID :=
  sound_fn (E := E_credential_ID) (A := A_credential_ID) (done := []) (c := (Tryz.f25.body.getD .skip)) (S := S_credential_ID) (fn := Tryz.f25) hmix credential_ID_env Tryz.func25 rfl (by kernel_rfl) (by kernel_rfl) done_nil (by kernel_rfl) (by kernel_rfl) credential_ID_eq
def seal_Open_L0b (y0 : (BitVec 64)) (y1 : (List (UInt8))) (y2 : (List (UInt8))) (y3 : (BitVec 64)) (y4 : (List (UInt8))) (y5 : Int) (y6 : Int) : Option (((BitVec 64) × (List (UInt8)) × (List (UInt8)) × (BitVec 64) × (List (UInt8)) × Int × Int × Unit) ⊕ ((BitVec 64) × (List (UInt8)) × (List (UInt8)) × (BitVec 64) × Unit)) :=
 (bif (decide (y6 < y5)) then ((getI y4 y6).bind fun x1 => (some (Sum.inl (y0, y1, y2, ((y3 <<< 8) ||| (BitVec.setWidth 64 x1.toBitVec)), y4, y5, (IntKind.wrap .i64 (y6 + (1 : Int))), ()))))
 else (some (Sum.inr (y0, y1, y2, y3, ()))))
def seal_Open_L0 (y : ((BitVec 64) × (List (UInt8)) × (List (UInt8)) × (BitVec 64) × (List (UInt8)) × Int × Int × Unit)) : Option ((BitVec 64) × (List (UInt8)) × (List (UInt8)) × (BitVec 64) × Unit) := iter (fun (y : ((BitVec 64) × (List (UInt8)) × (List (UInt8)) × (BitVec 64) × (List (UInt8)) × Int × Int × Unit)) => seal_Open_L0b y.1 y.2.1 y.2.2.1 y.2.2.2.1 y.2.2.2.2.1 y.2.2.2.2.2.1 y.2.2.2.2.2.2.1) rounds y
def seal_Open (a0 : (BitVec 64)) (a1 : (List (UInt8))) (a2 : (List (UInt8))) : Option ((Unit) × ((List (UInt8)) × Int × Unit)) :=
 (bif (decide (((a2).length : Int) < (16 : Int))) then (some ((), ([], (1 : Int), ())))
 else (bif (decide ((1040 : Int) < ((a2).length : Int))) then (some ((), ([], (8 : Int), ())))
 else (bif (decide ((1024 : Int) < ((a1).length : Int))) then (some ((), ([], (8 : Int), ())))
 else (bif decide ((8 : Int) ≤ ((a2).length : Int)) then ((seal_Open_L0 (a0, a1, a2, 0#64, (List.take 8 a2), (((List.take 8 a2)).length : Int), (0 : Int), ())).bind (fun (z2 : ((BitVec 64) × (List (UInt8)) × (List (UInt8)) × (BitVec 64) × Unit)) => (bif (decide ((0 : Int) ≤ (IntKind.wrap .i64 (((z2.2.2.1).length : Int) - (8 : Int)))) && decide ((IntKind.wrap .i64 (((z2.2.2.1).length : Int) - (8 : Int))) ≤ ((z2.2.2.1).length : Int))) then (let v3 : List (UInt8) := (List.drop ((IntKind.wrap .i64 (((z2.2.2.1).length : Int) - (8 : Int)))).toNat z2.2.2.1)
 (((v3)[0]?).bind fun x4 => (((v3)[1]?).bind fun x5 => (((v3)[2]?).bind fun x6 => (((v3)[3]?).bind fun x7 => (((v3)[4]?).bind fun x8 => (((v3)[5]?).bind fun x9 => (((v3)[6]?).bind fun x10 => (((v3)[7]?).bind fun x11 => (bif (decide ((0 : Int) ≤ (IntKind.wrap .i64 (((z2.2.2.1).length : Int) - (8 : Int)))) && decide ((IntKind.wrap .i64 (((z2.2.2.1).length : Int) - (8 : Int))) ≤ ((z2.2.2.1).length : Int))) then (bif decide ((8 : Int) ≤ (((IntKind.wrap .i64 (((z2.2.2.1).length : Int) - (8 : Int)))).toNat : Int)) then (let v12 : List (UInt8) := (List.drop 8 (List.take ((IntKind.wrap .i64 (((z2.2.2.1).length : Int) - (8 : Int)))).toNat z2.2.2.1))
 ((seal_tag z2.1 z2.2.2.2.1 z2.2.1 v12).bind fun r13 => (let v14 : Bool := (!(decide (x4 = r13.2.1.a0) && (decide (x5 = r13.2.1.a1) && (decide (x6 = r13.2.1.a2) && (decide (x7 = r13.2.1.a3) && (decide (x8 = r13.2.1.a4) && (decide (x9 = r13.2.1.a5) && (decide (x10 = r13.2.1.a6) && (decide (x11 = r13.2.1.a7) && true)))))))))
 (bif v14 then (some ((), ([], (14 : Int), ())))
 else (bif (decide ((0 : Int) ≤ (IntKind.wrap .i64 (((z2.2.2.1).length : Int) - (8 : Int)))) && decide ((IntKind.wrap .i64 (((z2.2.2.1).length : Int) - (8 : Int))) ≤ ((z2.2.2.1).length : Int))) then (bif decide ((8 : Int) ≤ (((IntKind.wrap .i64 (((z2.2.2.1).length : Int) - (8 : Int)))).toNat : Int)) then (let v15 : List (UInt8) := (List.drop 8 (List.take ((IntKind.wrap .i64 (((z2.2.2.1).length : Int) - (8 : Int)))).toNat z2.2.2.1))
 ((seal_mix z2.1 z2.2.2.2.1 v15).bind fun r16 => (some ((), (r16.2.1, (0 : Int), ())))))
 else none)
 else none)))))
 else none)
 else none))))))))))
 else none)))
 else none))))
def S_seal_Open : FSpec T := ⟨[.f (.v .u64), .f (.v (.rs 0)), .f (.v (.rs 0))], [(.own 0), (.v (.int .i64))], fun x => seal_Open x.1 x.2.1 x.2.2.1⟩
def E_seal_Open : Env T := ⟨tab.find, cd, globs, flc, fun f ds => match f with
    | 91 => some S_seal_mix
    | 92 => some S_seal_tag
    | _ => none, fun f => match f with
    | 92 => true
    | _ => false⟩
def A_seal_Open : Loc2 T := ⟨fun id => match id with
    | 0 => some ⟨[(0, .f (.v .u64)), (1, .f (.v (.rs 0))), (2, .f (.v (.rs 0))), (8, .f (.v .u64)), (24, .f (.v (.rs 0))), (25, .f (.v (.int .i64))), (26, .f (.v (.int .i64)))], [(.exit 0, [(0, .f (.v .u64)), (1, .f (.v (.rs 0))), (2, .f (.v (.rs 0))), (8, .f (.v .u64))])], seal_Open_L0, []⟩
    | _ => none, fun r => match r with
    | _ => none, fun r => match r with
    | _ => false⟩
theorem seal_Open_L0_eq (y0 : (BitVec 64)) (y1 : (List (UInt8))) (y2 : (List (UInt8))) (y3 : (BitVec 64)) (y4 : (List (UInt8))) (y5 : Int) (y6 : Int) : run E_seal_Open A_seal_Open (loopAt 0 (Tryz.f71.body.getD .skip)) (layC cd [(0, .f (.v .u64)), (1, .f (.v (.rs 0))), (2, .f (.v (.rs 0))), (8, .f (.v .u64)), (24, .f (.v (.rs 0))), (25, .f (.v (.int .i64))), (26, .f (.v (.int .i64)))] [] (y0, y1, y2, y3, y4, y5, y6, ())) (roundK cd [(0, .f (.v .u64)), (1, .f (.v (.rs 0))), (2, .f (.v (.rs 0))), (8, .f (.v .u64)), (24, .f (.v (.rs 0))), (25, .f (.v (.int .i64))), (26, .f (.v (.int .i64)))] [] [(.exit 0, [(0, .f (.v .u64)), (1, .f (.v (.rs 0))), (2, .f (.v (.rs 0))), (8, .f (.v .u64))])]) = seal_Open_L0b y0 y1 y2 y3 y4 y5 y6 := by kernel_rfl
theorem seal_Open_eq (x : tySs T S_seal_Open.ps) : run E_seal_Open A_seal_Open (Tryz.f71.body.getD .skip) (enterT E_seal_Open.C S_seal_Open.ps x) (retK E_seal_Open Tryz.f71.results.toList S_seal_Open.ps S_seal_Open.rs) = S_seal_Open.fn x := by kernel_rfl
theorem seal_Open_env : EnvOk Tryz.prog E_seal_Open := envOk (E := E_seal_Open) cd_ok tys fl_ok fun f ds S h => by
    dsimp only [E_seal_Open] at h
    split at h
    · cases h; exact seal_mix_ok
    · cases h; exact seal_tag_ok
    · cases h
theorem seal_Open_L0_ok : LoopOk Tryz.prog E_seal_Open Tryz.f71.ntmps (kqOf S_seal_Open.ps 0) (loopAt 0 (Tryz.f71.body.getD .skip)) ⟨[(0, .f (.v .u64)), (1, .f (.v (.rs 0))), (2, .f (.v (.rs 0))), (8, .f (.v .u64)), (24, .f (.v (.rs 0))), (25, .f (.v (.int .i64))), (26, .f (.v (.int .i64)))], [(.exit 0, [(0, .f (.v .u64)), (1, .f (.v (.rs 0))), (2, .f (.v (.rs 0))), (8, .f (.v .u64))])], seal_Open_L0, []⟩ :=
  loop_ok (A := A_seal_Open) (done := []) (c0 := (Tryz.f71.body.getD .skip)) hmix seal_Open_env done_nil rounds (by kernel_rfl) (by kernel_rfl) (fun x => seal_Open_L0_eq x.1 x.2.1 x.2.2.1 x.2.2.2.1 x.2.2.2.2.1 x.2.2.2.2.2.1 x.2.2.2.2.2.2.1) (fun _ => rfl)
theorem seal_Open_ok : SoundT Tryz.prog cd gdn 71 S_seal_Open :=
  sound_fn (E := E_seal_Open) (A := A_seal_Open) (done := [0]) (c := (Tryz.f71.body.getD .skip)) (S := S_seal_Open) (fn := Tryz.f71) hmix seal_Open_env Tryz.func71 rfl (by kernel_rfl) (by kernel_rfl) (done_cons rfl seal_Open_L0_ok done_nil) (by kernel_rfl) (by kernel_rfl) seal_Open_eq
def cbor_short (a0 : (BitVec 64)) : Option ((Unit) × (Int × Unit)) :=
 (bif (decide (a0.toNat < (24#64).toNat)) then (some ((), ((0 : Int), ())))
 else (bif (decide (a0.toNat < (256#64).toNat)) then (some ((), ((1 : Int), ())))
 else (bif (decide (a0.toNat < (65536#64).toNat)) then (some ((), ((2 : Int), ())))
 else (bif (decide (a0.toNat < (4294967296#64).toNat)) then (some ((), ((4 : Int), ())))
 else (some ((), ((8 : Int), ())))))))
def S_cbor_short : FSpec T := ⟨[.f (.v .u64)], [(.v (.int .i64))], fun x => cbor_short x.1⟩
def E_cbor_short : Env T := ⟨tab.find, cd, globs, flc, fun f ds => match f with
    | _ => none, fun f => match f with
    | _ => false⟩
def A_cbor_short : Loc2 T := ⟨fun id => match id with
    | _ => none, fun r => match r with
    | _ => none, fun r => match r with
    | _ => false⟩
theorem cbor_short_eq (x : tySs T S_cbor_short.ps) : run E_cbor_short A_cbor_short (Tryz.f148.body.getD .skip) (enterT E_cbor_short.C S_cbor_short.ps x) (retK E_cbor_short Tryz.f148.results.toList S_cbor_short.ps S_cbor_short.rs) = S_cbor_short.fn x := by kernel_rfl
theorem cbor_short_env : EnvOk Tryz.prog E_cbor_short := envOk (E := E_cbor_short) cd_ok tys fl_ok fun f ds S h => by cases h
theorem cbor_short_ok : SoundT Tryz.prog cd gdn 148 S_cbor_short :=
  sound_fn (E := E_cbor_short) (A := A_cbor_short) (done := []) (c := (Tryz.f148.body.getD .skip)) (S := S_cbor_short) (fn := Tryz.f148) hmix cbor_short_env Tryz.func148 rfl (by kernel_rfl) (by kernel_rfl) done_nil (by kernel_rfl) (by kernel_rfl) cbor_short_eq
def cbor_reader_head_L1b (y0 : ((List (CborFrame)) × Int × (List (UInt8)) × Int × Unit)) (y1 : Int) (y2 : (BitVec 64)) (y3 : Int) (y4 : (List (UInt8))) (y5 : Int) (y6 : Int) : Option ((((List (CborFrame)) × Int × (List (UInt8)) × Int × Unit) × Int × (BitVec 64) × Int × (List (UInt8)) × Int × Int × Unit) ⊕ (((List (CborFrame)) × Int × (List (UInt8)) × Int × Unit) × Int × (BitVec 64) × Int × Unit)) :=
 (bif (decide (y6 < y5)) then ((getI y4 y6).bind fun x10 => (some (Sum.inl ((y0.1, y0.2.1, y0.2.2.1, y0.2.2.2.1, ()), y1, ((y2 <<< 8) ||| (BitVec.setWidth 64 x10.toBitVec)), y3, y4, y5, (IntKind.wrap .i64 (y6 + (1 : Int))), ()))))
 else (some (Sum.inr ((y0.1, y0.2.1, y0.2.2.1, y0.2.2.2.1, ()), y1, y2, y3, ()))))
def cbor_reader_head_L1 (y : (((List (CborFrame)) × Int × (List (UInt8)) × Int × Unit) × Int × (BitVec 64) × Int × (List (UInt8)) × Int × Int × Unit)) : Option (((List (CborFrame)) × Int × (List (UInt8)) × Int × Unit) × Int × (BitVec 64) × Int × Unit) := iter (fun (y : (((List (CborFrame)) × Int × (List (UInt8)) × Int × Unit) × Int × (BitVec 64) × Int × (List (UInt8)) × Int × Int × Unit)) => cbor_reader_head_L1b y.1 y.2.1 y.2.2.1 y.2.2.2.1 y.2.2.2.2.1 y.2.2.2.2.2.1 y.2.2.2.2.2.2.1) rounds y
def cbor_reader_head (a0 : ((List (CborFrame)) × Int × (List (UInt8)) × Int × Unit)) : Option ((((List (CborFrame)) × Int × (List (UInt8)) × Int × Unit) × Unit) × (Int × (BitVec 64) × Int × Unit)) :=
 (bif (decide (((a0.2.2.1).length : Int) ≤ a0.2.2.2.1)) then (some (((a0.1, a0.2.1, a0.2.2.1, a0.2.2.2.1, ()), ()), ((0 : Int), 0#64, (1 : Int), ())))
 else ((getI a0.2.2.1 a0.2.2.2.1).bind fun x1 => ((bif (decide (x1.toBitVec = (244 : UInt8).toBitVec)) then (bif (decide (x1.toBitVec = (244 : UInt8).toBitVec)) then (let v2 : BitVec 64 := (BitVec.setWidth 64 (UInt8.ofBitVec (x1.toBitVec - (244 : UInt8).toBitVec)).toBitVec)
 (((some (((a0.1, a0.2.1, a0.2.2.1, (IntKind.wrap .i64 (a0.2.2.2.1 + (1 : Int))), ()), ()), ((7 : Int), v2, (0 : Int), ())))).bind fun q => some (Sum.inr q)))
 else (bif (decide (x1.toBitVec = (246 : UInt8).toBitVec)) then (((some (((a0.1, a0.2.1, a0.2.2.1, (IntKind.wrap .i64 (a0.2.2.2.1 + (1 : Int))), ()), ()), ((8 : Int), 0#64, (0 : Int), ())))).bind fun q => some (Sum.inr q))
 else (some (Sum.inl ((a0.1, a0.2.1, a0.2.2.1, (IntKind.wrap .i64 (a0.2.2.2.1 + (1 : Int))), ()), 0#64, x1, ())))))
 else (bif (decide (x1.toBitVec = (245 : UInt8).toBitVec)) then (let v3 : BitVec 64 := (BitVec.setWidth 64 (UInt8.ofBitVec (x1.toBitVec - (244 : UInt8).toBitVec)).toBitVec)
 (((some (((a0.1, a0.2.1, a0.2.2.1, (IntKind.wrap .i64 (a0.2.2.2.1 + (1 : Int))), ()), ()), ((7 : Int), v3, (0 : Int), ())))).bind fun q => some (Sum.inr q)))
 else (bif (decide (x1.toBitVec = (246 : UInt8).toBitVec)) then (((some (((a0.1, a0.2.1, a0.2.2.1, (IntKind.wrap .i64 (a0.2.2.2.1 + (1 : Int))), ()), ()), ((8 : Int), 0#64, (0 : Int), ())))).bind fun q => some (Sum.inr q))
 else (some (Sum.inl ((a0.1, a0.2.1, a0.2.2.1, (IntKind.wrap .i64 (a0.2.2.2.1 + (1 : Int))), ()), 0#64, x1, ())))))).bind (Sum.elim (fun (j4 : (((List (CborFrame)) × Int × (List (UInt8)) × Int × Unit) × (BitVec 64) × UInt8 × Unit)) => (let v5 : UInt8 := (UInt8.ofBitVec (j4.2.2.1.toBitVec &&& (31 : UInt8).toBitVec))
 (bif (decide ((5 : UInt8).toBitVec.toNat < (UInt8.ofBitVec (j4.2.2.1.toBitVec >>> 5)).toBitVec.toNat)) then (some (((j4.1.1, j4.1.2.1, j4.1.2.2.1, j4.1.2.2.2.1, ()), ()), ((0 : Int), 0#64, (2 : Int), ())))
 else (bif (decide ((27 : UInt8).toBitVec.toNat < v5.toBitVec.toNat)) then (some (((j4.1.1, j4.1.2.1, j4.1.2.2.1, j4.1.2.2.2.1, ()), ()), ((0 : Int), 0#64, (2 : Int), ())))
 else (let v6 : Int := ((UInt8.ofBitVec (j4.2.2.1.toBitVec >>> 5)).toBitVec.toNat : Int)
 (bif (decide (v5.toBitVec.toNat < (24 : UInt8).toBitVec.toNat)) then (some (((j4.1.1, j4.1.2.1, j4.1.2.2.1, j4.1.2.2.2.1, ()), ()), ((IntKind.wrap .i64 ((1 : Int) + v6)), (BitVec.setWidth 64 v5.toBitVec), (0 : Int), ())))
 else (let v7 : Int := (IntKind.wrap .i64 ((1 : Int) * 2 ^ (min (UInt8.ofBitVec (v5.toBitVec - (24 : UInt8).toBitVec)).toNat (IntKind.bits .i64))))
 (let v8 : Int := (IntKind.wrap .i64 (((j4.1.2.2.1).length : Int) - j4.1.2.2.2.1))
 (bif (decide (v8 < v7)) then (some (((j4.1.1, j4.1.2.1, j4.1.2.2.1, j4.1.2.2.2.1, ()), ()), ((0 : Int), 0#64, (1 : Int), ())))
 else (bif (decide ((0 : Int) ≤ (IntKind.wrap .i64 (j4.1.2.2.2.1 + v7))) && decide ((IntKind.wrap .i64 (j4.1.2.2.2.1 + v7)) ≤ ((j4.1.2.2.1).length : Int))) then (bif (decide ((0 : Int) ≤ j4.1.2.2.2.1) && decide (j4.1.2.2.2.1 ≤ (((IntKind.wrap .i64 (j4.1.2.2.2.1 + v7))).toNat : Int))) then (let v9 : List (UInt8) := (List.drop (j4.1.2.2.2.1).toNat (List.take ((IntKind.wrap .i64 (j4.1.2.2.2.1 + v7))).toNat j4.1.2.2.1))
 ((cbor_reader_head_L1 ((j4.1.1, j4.1.2.1, j4.1.2.2.1, j4.1.2.2.2.1, ()), (IntKind.wrap .i64 ((1 : Int) + v6)), j4.2.1, v7, v9, ((v9).length : Int), (0 : Int), ())).bind (fun (z11 : (((List (CborFrame)) × Int × (List (UInt8)) × Int × Unit) × Int × (BitVec 64) × Int × Unit)) => ((cbor_short z11.2.2.1).bind fun r12 => (bif (decide (r12.2.1 < z11.2.2.2.1)) then (some (((z11.1.1, z11.1.2.1, z11.1.2.2.1, (IntKind.wrap .i64 (z11.1.2.2.2.1 + z11.2.2.2.1)), ()), ()), ((0 : Int), 0#64, (2 : Int), ())))
 else (some (((z11.1.1, z11.1.2.1, z11.1.2.2.1, (IntKind.wrap .i64 (z11.1.2.2.2.1 + z11.2.2.2.1)), ()), ()), (z11.2.1, z11.2.2.1, (0 : Int), ()))))))))
 else none)
 else none)))))))))) some))))
def S_cbor_reader_head : FSpec T := ⟨[.ptr [(.own 6), (.v (.int .i64)), (.v (.rs 0)), (.v (.int .i64))]], [(.v (.int .i64)), (.v .u64), (.v (.int .i64))], fun x => cbor_reader_head x.1⟩
def E_cbor_reader_head : Env T := ⟨tab.find, cd, globs, flc, fun f ds => match f with
    | 148 => some S_cbor_short
    | _ => none, fun f => match f with
    | 148 => true
    | _ => false⟩
def A_cbor_reader_head : Loc2 T := ⟨fun id => match id with
    | 1 => some ⟨[(0, .ptr [(.own 6), (.v (.int .i64)), (.v (.rs 0)), (.v (.int .i64))]), (2, .f (.v (.int .i64))), (3, .f (.v .u64)), (8, .f (.v (.int .i64))), (94, .f (.v (.rs 0))), (95, .f (.v (.int .i64))), (96, .f (.v (.int .i64)))], [(.exit 1, [(0, .ptr [(.own 6), (.v (.int .i64)), (.v (.rs 0)), (.v (.int .i64))]), (2, .f (.v (.int .i64))), (3, .f (.v .u64)), (8, .f (.v (.int .i64)))])], cbor_reader_head_L1, []⟩
    | _ => none, fun r => match r with
    | 11 => some ([(0, .ptr [(.own 6), (.v (.int .i64)), (.v (.rs 0)), (.v (.int .i64))]), (3, .f (.v .u64)), (5, .f (.v .u8))], false)
    | _ => none, fun r => match r with
    | _ => false⟩
theorem cbor_reader_head_L1_eq (y0 : ((List (CborFrame)) × Int × (List (UInt8)) × Int × Unit)) (y1 : Int) (y2 : (BitVec 64)) (y3 : Int) (y4 : (List (UInt8))) (y5 : Int) (y6 : Int) : run E_cbor_reader_head A_cbor_reader_head (loopAt 1 (Tryz.f114.body.getD .skip)) (layC cd [(0, .ptr [(.own 6), (.v (.int .i64)), (.v (.rs 0)), (.v (.int .i64))]), (2, .f (.v (.int .i64))), (3, .f (.v .u64)), (8, .f (.v (.int .i64))), (94, .f (.v (.rs 0))), (95, .f (.v (.int .i64))), (96, .f (.v (.int .i64)))] [] (y0, y1, y2, y3, y4, y5, y6, ())) (roundK cd [(0, .ptr [(.own 6), (.v (.int .i64)), (.v (.rs 0)), (.v (.int .i64))]), (2, .f (.v (.int .i64))), (3, .f (.v .u64)), (8, .f (.v (.int .i64))), (94, .f (.v (.rs 0))), (95, .f (.v (.int .i64))), (96, .f (.v (.int .i64)))] [] [(.exit 1, [(0, .ptr [(.own 6), (.v (.int .i64)), (.v (.rs 0)), (.v (.int .i64))]), (2, .f (.v (.int .i64))), (3, .f (.v .u64)), (8, .f (.v (.int .i64)))])]) = cbor_reader_head_L1b y0 y1 y2 y3 y4 y5 y6 := by kernel_rfl
theorem cbor_reader_head_eq (x : tySs T S_cbor_reader_head.ps) : run E_cbor_reader_head A_cbor_reader_head (Tryz.f114.body.getD .skip) (enterT E_cbor_reader_head.C S_cbor_reader_head.ps x) (retK E_cbor_reader_head Tryz.f114.results.toList S_cbor_reader_head.ps S_cbor_reader_head.rs) = S_cbor_reader_head.fn x := by kernel_rfl
theorem cbor_reader_head_env : EnvOk Tryz.prog E_cbor_reader_head := envOk (E := E_cbor_reader_head) cd_ok tys fl_ok fun f ds S h => by
    dsimp only [E_cbor_reader_head] at h
    split at h
    · cases h; exact cbor_short_ok
    · cases h
theorem cbor_reader_head_L1_ok : LoopOk Tryz.prog E_cbor_reader_head Tryz.f114.ntmps (kqOf S_cbor_reader_head.ps 0) (loopAt 1 (Tryz.f114.body.getD .skip)) ⟨[(0, .ptr [(.own 6), (.v (.int .i64)), (.v (.rs 0)), (.v (.int .i64))]), (2, .f (.v (.int .i64))), (3, .f (.v .u64)), (8, .f (.v (.int .i64))), (94, .f (.v (.rs 0))), (95, .f (.v (.int .i64))), (96, .f (.v (.int .i64)))], [(.exit 1, [(0, .ptr [(.own 6), (.v (.int .i64)), (.v (.rs 0)), (.v (.int .i64))]), (2, .f (.v (.int .i64))), (3, .f (.v .u64)), (8, .f (.v (.int .i64)))])], cbor_reader_head_L1, []⟩ :=
  loop_ok (A := A_cbor_reader_head) (done := []) (c0 := (Tryz.f114.body.getD .skip)) hmix cbor_reader_head_env done_nil rounds (by kernel_rfl) (by kernel_rfl) (fun x => cbor_reader_head_L1_eq x.1 x.2.1 x.2.2.1 x.2.2.2.1 x.2.2.2.2.1 x.2.2.2.2.2.1 x.2.2.2.2.2.2.1) (fun _ => rfl)
theorem cbor_reader_head_ok : SoundT Tryz.prog cd gdn 114 S_cbor_reader_head :=
  sound_fn (E := E_cbor_reader_head) (A := A_cbor_reader_head) (done := [1]) (c := (Tryz.f114.body.getD .skip)) (S := S_cbor_reader_head) (fn := Tryz.f114) hmix cbor_reader_head_env Tryz.func114 rfl (by kernel_rfl) (by kernel_rfl) (done_cons rfl cbor_reader_head_L1_ok done_nil) (by kernel_rfl) (by kernel_rfl) cbor_reader_head_eq
def cbor_walk_step_1_L0b (y0 : ((List (CborFrame)) × Int × (List (UInt8)) × Int × Unit)) (y1 : Int) : Option ((((List (CborFrame)) × Int × (List (UInt8)) × Int × Unit) × Int × Unit) ⊕ (((List (CborFrame)) × Int × (List (UInt8)) × Int × Unit) × Unit)) :=
 (bif (decide ((0 : Int) < y1)) then (bif (decide ((0 : Int) ≤ (IntKind.wrap .i64 (y1 - (1 : Int)))) && decide ((IntKind.wrap .i64 (y1 - (1 : Int))) < ((y0.1).length : Int))) then (((y0.1)[((IntKind.wrap .i64 (y1 - (1 : Int)))).toNat]?).bind fun x10 => (bif (decide (x10.left = (0 : Int))) then (bif (decide ((0 : Int) ≤ (IntKind.wrap .i64 (y1 - (1 : Int)))) && decide ((IntKind.wrap .i64 (y1 - (1 : Int))) ≤ ((y0.1).length : Int))) then (bif decide (((IntKind.wrap .i64 (y1 - (1 : Int)))).toNat ≤ (y0.1).length) then (some (Sum.inl (((List.take ((IntKind.wrap .i64 (y1 - (1 : Int)))).toNat y0.1), y0.2.1, y0.2.2.1, y0.2.2.2.1, ()), (IntKind.wrap .i64 (y1 - (1 : Int))), ())))
 else none)
 else none)
 else (some (Sum.inr ((y0.1, y0.2.1, y0.2.2.1, y0.2.2.2.1, ()), ())))))
 else none)
 else (some (Sum.inr ((y0.1, y0.2.1, y0.2.2.1, y0.2.2.2.1, ()), ()))))
def cbor_walk_step_1_L0 (y : (((List (CborFrame)) × Int × (List (UInt8)) × Int × Unit) × Int × Unit)) : Option (((List (CborFrame)) × Int × (List (UInt8)) × Int × Unit) × Unit) := iter (fun (y : (((List (CborFrame)) × Int × (List (UInt8)) × Int × Unit) × Int × Unit)) => cbor_walk_step_1_L0b y.1 y.2.1) rounds y
def cbor_walk_step_1 (a0 : ((List (CborFrame)) × Int × (List (UInt8)) × Int × Unit)) (a1 : ApiItem) : Option ((((List (CborFrame)) × Int × (List (UInt8)) × Int × Unit) × Unit) × (Unit)) :=
 ((bif (decide ((0 : Int) < ((a0.1).length : Int))) then (bif (decide ((0 : Int) ≤ (IntKind.wrap .i64 (((a0.1).length : Int) - (1 : Int)))) && decide ((IntKind.wrap .i64 (((a0.1).length : Int) - (1 : Int))) < ((a0.1).length : Int))) then (((a0.1)[((IntKind.wrap .i64 (((a0.1).length : Int) - (1 : Int)))).toNat]?).bind fun x1 => (bif (decide ((0 : Int) ≤ (IntKind.wrap .i64 (((a0.1).length : Int) - (1 : Int)))) && decide ((IntKind.wrap .i64 (((a0.1).length : Int) - (1 : Int))) < ((a0.1).length : Int))) then (((a0.1)[((IntKind.wrap .i64 (((a0.1).length : Int) - (1 : Int)))).toNat]?).bind fun x2 => (let v3 : List (CborFrame) := (List.set a0.1 ((IntKind.wrap .i64 (((a0.1).length : Int) - (1 : Int)))).toNat (⟨x2.pairs, (IntKind.wrap .i64 (x1.left - (1 : Int))), x2.last_⟩ : CborFrame))
 (some ((v3, (IntKind.wrap .i64 (a0.2.1 + (1 : Int))), a0.2.2.1, a0.2.2.2.1, ()), (a1, ()), ()))))
 else none))
 else none)
 else (some ((a0.1, (IntKind.wrap .i64 (a0.2.1 + (1 : Int))), a0.2.2.1, a0.2.2.2.1, ()), (a1, ()), ()))).bind (fun (j4 : (((List (CborFrame)) × Int × (List (UInt8)) × Int × Unit) × (ApiItem × Unit) × Unit)) => ((bif (decide (j4.2.1.1.kind = (5 : Int))) then (bif (decide ((0#64).toNat < j4.2.1.1.number.toNat)) then (let v5 : List (CborFrame) := ([(⟨false, (IntKind.wrap .i64 (j4.2.1.1.number.toNat : Int)), []⟩ : CborFrame)] : List (CborFrame))
 (bif small ((j4.1.1).length + (v5 : List (CborFrame)).length) 40 then (some (((j4.1.1 ++ v5), j4.1.2.1, j4.1.2.2.1, j4.1.2.2.2.1, ()), (j4.2.1.1, ()), ()))
 else none))
 else (some ((j4.1.1, j4.1.2.1, j4.1.2.2.1, j4.1.2.2.2.1, ()), (j4.2.1.1, ()), ())))
 else (some ((j4.1.1, j4.1.2.1, j4.1.2.2.1, j4.1.2.2.2.1, ()), (j4.2.1.1, ()), ()))).bind (fun (j6 : (((List (CborFrame)) × Int × (List (UInt8)) × Int × Unit) × (ApiItem × Unit) × Unit)) => ((bif (decide (j6.2.1.1.kind = (6 : Int))) then (bif (decide ((0#64).toNat < j6.2.1.1.number.toNat)) then (let v7 : Int := (IntKind.wrap .i64 ((2 : Int) * (IntKind.wrap .i64 (j6.2.1.1.number.toNat : Int))))
 (bif small ((j6.1.1).length + (([(⟨true, v7, []⟩ : CborFrame)] : List (CborFrame)) : List (CborFrame)).length) 40 then (let v8 : List (CborFrame) := (j6.1.1 ++ ([(⟨true, v7, []⟩ : CborFrame)] : List (CborFrame)))
 (some ((v8, j6.1.2.1, j6.1.2.2.1, j6.1.2.2.2.1, ()), ())))
 else none))
 else (some ((j6.1.1, j6.1.2.1, j6.1.2.2.1, j6.1.2.2.2.1, ()), ())))
 else (some ((j6.1.1, j6.1.2.1, j6.1.2.2.1, j6.1.2.2.2.1, ()), ()))).bind (fun (j9 : (((List (CborFrame)) × Int × (List (UInt8)) × Int × Unit) × Unit)) => ((cbor_walk_step_1_L0 ((j9.1.1, j9.1.2.1, j9.1.2.2.1, j9.1.2.2.2.1, ()), ((j9.1.1).length : Int), ())).bind (fun (z11 : (((List (CborFrame)) × Int × (List (UInt8)) × Int × Unit) × Unit)) => (some (((z11.1.1, z11.1.2.1, z11.1.2.2.1, z11.1.2.2.2.1, ()), ()), ()))))))))))
def S_cbor_walk_step_1 : FSpec T := ⟨[.ptr [(.own 6), (.v (.int .i64)), (.v (.rs 0)), (.v (.int .i64))], .f (.v (.agg 1))], [], fun x => cbor_walk_step_1 x.1 x.2.1⟩
def E_cbor_walk_step_1 : Env T := ⟨tab.find, cd, globs, flc, fun f ds => match f with
    | _ => none, fun f => match f with
    | _ => false⟩
def A_cbor_walk_step_1 : Loc2 T := ⟨fun id => match id with
    | 0 => some ⟨[(0, .ptr [(.own 6), (.v (.int .i64)), (.v (.rs 0)), (.v (.int .i64))]), (5, .f (.v (.int .i64)))], [(.exit 0, [(0, .ptr [(.own 6), (.v (.int .i64)), (.v (.rs 0)), (.v (.int .i64))])])], cbor_walk_step_1_L0, []⟩
    | _ => none, fun r => match r with
    | 5 => some ([(0, .ptr [(.own 6), (.v (.int .i64)), (.v (.rs 0)), (.v (.int .i64))]), (3, .ptr [(.v (.agg 1))])], true)
    | 7 => some ([(0, .ptr [(.own 6), (.v (.int .i64)), (.v (.rs 0)), (.v (.int .i64))]), (3, .ptr [(.v (.agg 1))])], true)
    | 9 => some ([(0, .ptr [(.own 6), (.v (.int .i64)), (.v (.rs 0)), (.v (.int .i64))])], true)
    | _ => none, fun r => match r with
    | 6 => true
    | 8 => true
    | _ => false⟩
theorem cbor_walk_step_1_L0_eq (y0 : ((List (CborFrame)) × Int × (List (UInt8)) × Int × Unit)) (y1 : Int) : run E_cbor_walk_step_1 A_cbor_walk_step_1 (loopAt 0 (Tryz.f151.body.getD .skip)) (layC cd [(0, .ptr [(.own 6), (.v (.int .i64)), (.v (.rs 0)), (.v (.int .i64))]), (5, .f (.v (.int .i64)))] [] (y0, y1, ())) (roundK cd [(0, .ptr [(.own 6), (.v (.int .i64)), (.v (.rs 0)), (.v (.int .i64))]), (5, .f (.v (.int .i64)))] [] [(.exit 0, [(0, .ptr [(.own 6), (.v (.int .i64)), (.v (.rs 0)), (.v (.int .i64))])])]) = cbor_walk_step_1_L0b y0 y1 := by kernel_rfl
theorem cbor_walk_step_1_eq (x : tySs T S_cbor_walk_step_1.ps) : run E_cbor_walk_step_1 A_cbor_walk_step_1 (Tryz.f151.body.getD .skip) (enterT E_cbor_walk_step_1.C S_cbor_walk_step_1.ps x) (retK E_cbor_walk_step_1 Tryz.f151.results.toList S_cbor_walk_step_1.ps S_cbor_walk_step_1.rs) = S_cbor_walk_step_1.fn x := by kernel_rfl
theorem cbor_walk_step_1_env : EnvOk Tryz.prog E_cbor_walk_step_1 := envOk (E := E_cbor_walk_step_1) cd_ok tys fl_ok fun f ds S h => by cases h
theorem cbor_walk_step_1_L0_ok : LoopOk Tryz.prog E_cbor_walk_step_1 Tryz.f151.ntmps (kqOf S_cbor_walk_step_1.ps 0) (loopAt 0 (Tryz.f151.body.getD .skip)) ⟨[(0, .ptr [(.own 6), (.v (.int .i64)), (.v (.rs 0)), (.v (.int .i64))]), (5, .f (.v (.int .i64)))], [(.exit 0, [(0, .ptr [(.own 6), (.v (.int .i64)), (.v (.rs 0)), (.v (.int .i64))])])], cbor_walk_step_1_L0, []⟩ :=
  loop_ok (A := A_cbor_walk_step_1) (done := []) (c0 := (Tryz.f151.body.getD .skip)) hmix cbor_walk_step_1_env done_nil rounds (by kernel_rfl) (by kernel_rfl) (fun x => cbor_walk_step_1_L0_eq x.1 x.2.1) (fun _ => rfl)
theorem cbor_walk_step_1_ok : SoundT Tryz.prog cd gdn 151 S_cbor_walk_step_1 :=
  sound_fn (E := E_cbor_walk_step_1) (A := A_cbor_walk_step_1) (done := [0]) (c := (Tryz.f151.body.getD .skip)) (S := S_cbor_walk_step_1) (fn := Tryz.f151) hmix cbor_walk_step_1_env Tryz.func151 rfl (by kernel_rfl) (by kernel_rfl) (done_cons rfl cbor_walk_step_1_L0_ok done_nil) (by kernel_rfl) (by kernel_rfl) cbor_walk_step_1_eq
def cbor_walk_accept_1 (a0 : ((List (CborFrame)) × Int × (List (UInt8)) × Int × Unit)) (a1 : ApiItem) : Option ((((List (CborFrame)) × Int × (List (UInt8)) × Int × Unit) × Unit) × (Int × Unit)) :=
 (bif (decide (a1.kind = (4 : Int))) then ((utf8_ValidString a1.data).bind fun r1 => (bif (!r1.2.1) then (some (((a0.1, a0.2.1, a0.2.2.1, a0.2.2.2.1, ()), ()), ((6 : Int), ())))
 else ((cbor_walk_atKey (⟨a0.1, a0.2.1⟩ : CborWalk)).bind fun r2 => (bif r2.2.1 then (bif (decide ((0 : Int) ≤ (IntKind.wrap .i64 (((a0.1).length : Int) - (1 : Int)))) && decide ((IntKind.wrap .i64 (((a0.1).length : Int) - (1 : Int))) < ((a0.1).length : Int))) then ((cbor_appendItem [] a1).bind fun r3 => (((a0.1)[((IntKind.wrap .i64 (((a0.1).length : Int) - (1 : Int)))).toNat]?).bind fun x4 => (bif (!(x4.last_).isEmpty) then (((a0.1)[((IntKind.wrap .i64 (((a0.1).length : Int) - (1 : Int)))).toNat]?).bind fun x5 => ((cbor_smaller x5.last_ r3.2.1).bind fun r6 => (bif (!r6.2.1) then (some (((a0.1, a0.2.1, a0.2.2.1, a0.2.2.2.1, ()), ()), ((7 : Int), ())))
 else (((a0.1)[((IntKind.wrap .i64 (((a0.1).length : Int) - (1 : Int)))).toNat]?).bind fun x7 => (bif (r3.2.1).isEmpty then none
 else (let v8 : List (CborFrame) := (List.set a0.1 ((IntKind.wrap .i64 (((a0.1).length : Int) - (1 : Int)))).toNat (⟨x7.pairs, x7.left, r3.2.1⟩ : CborFrame))
 ((cbor_walk_step_1 (v8, a0.2.1, a0.2.2.1, a0.2.2.2.1, ()) a1).bind fun r9 => (some (((r9.1.1.1, r9.1.1.2.1, r9.1.1.2.2.1, r9.1.1.2.2.2.1, ()), ()), ((0 : Int), ()))))))))))
 else (((a0.1)[((IntKind.wrap .i64 (((a0.1).length : Int) - (1 : Int)))).toNat]?).bind fun x10 => (bif (r3.2.1).isEmpty then none
 else (let v11 : List (CborFrame) := (List.set a0.1 ((IntKind.wrap .i64 (((a0.1).length : Int) - (1 : Int)))).toNat (⟨x10.pairs, x10.left, r3.2.1⟩ : CborFrame))
 ((cbor_walk_step_1 (v11, a0.2.1, a0.2.2.1, a0.2.2.2.1, ()) a1).bind fun r12 => (some (((r12.1.1.1, r12.1.1.2.1, r12.1.1.2.2.1, r12.1.1.2.2.2.1, ()), ()), ((0 : Int), ()))))))))))
 else none)
 else ((cbor_walk_step_1 (a0.1, a0.2.1, a0.2.2.1, a0.2.2.2.1, ()) a1).bind fun r13 => (some (((r13.1.1.1, r13.1.1.2.1, r13.1.1.2.2.1, r13.1.1.2.2.2.1, ()), ()), ((0 : Int), ()))))))))
 else ((cbor_walk_atKey (⟨a0.1, a0.2.1⟩ : CborWalk)).bind fun r14 => (bif r14.2.1 then (bif (decide ((0 : Int) ≤ (IntKind.wrap .i64 (((a0.1).length : Int) - (1 : Int)))) && decide ((IntKind.wrap .i64 (((a0.1).length : Int) - (1 : Int))) < ((a0.1).length : Int))) then ((cbor_appendItem [] a1).bind fun r15 => (((a0.1)[((IntKind.wrap .i64 (((a0.1).length : Int) - (1 : Int)))).toNat]?).bind fun x16 => (bif (!(x16.last_).isEmpty) then (((a0.1)[((IntKind.wrap .i64 (((a0.1).length : Int) - (1 : Int)))).toNat]?).bind fun x17 => ((cbor_smaller x17.last_ r15.2.1).bind fun r18 => (bif (!r18.2.1) then (some (((a0.1, a0.2.1, a0.2.2.1, a0.2.2.2.1, ()), ()), ((7 : Int), ())))
 else (((a0.1)[((IntKind.wrap .i64 (((a0.1).length : Int) - (1 : Int)))).toNat]?).bind fun x19 => (bif (r15.2.1).isEmpty then none
 else (let v20 : List (CborFrame) := (List.set a0.1 ((IntKind.wrap .i64 (((a0.1).length : Int) - (1 : Int)))).toNat (⟨x19.pairs, x19.left, r15.2.1⟩ : CborFrame))
 ((cbor_walk_step_1 (v20, a0.2.1, a0.2.2.1, a0.2.2.2.1, ()) a1).bind fun r21 => (some (((r21.1.1.1, r21.1.1.2.1, r21.1.1.2.2.1, r21.1.1.2.2.2.1, ()), ()), ((0 : Int), ()))))))))))
 else (((a0.1)[((IntKind.wrap .i64 (((a0.1).length : Int) - (1 : Int)))).toNat]?).bind fun x22 => (bif (r15.2.1).isEmpty then none
 else (let v23 : List (CborFrame) := (List.set a0.1 ((IntKind.wrap .i64 (((a0.1).length : Int) - (1 : Int)))).toNat (⟨x22.pairs, x22.left, r15.2.1⟩ : CborFrame))
 ((cbor_walk_step_1 (v23, a0.2.1, a0.2.2.1, a0.2.2.2.1, ()) a1).bind fun r24 => (some (((r24.1.1.1, r24.1.1.2.1, r24.1.1.2.2.1, r24.1.1.2.2.2.1, ()), ()), ((0 : Int), ()))))))))))
 else none)
 else ((cbor_walk_step_1 (a0.1, a0.2.1, a0.2.2.1, a0.2.2.2.1, ()) a1).bind fun r25 => (some (((r25.1.1.1, r25.1.1.2.1, r25.1.1.2.2.1, r25.1.1.2.2.2.1, ()), ()), ((0 : Int), ())))))))
def S_cbor_walk_accept_1 : FSpec T := ⟨[.ptr [(.own 6), (.v (.int .i64)), (.v (.rs 0)), (.v (.int .i64))], .f (.v (.agg 1))], [(.v (.int .i64))], fun x => cbor_walk_accept_1 x.1 x.2.1⟩
def E_cbor_walk_accept_1 : Env T := ⟨tab.find, cd, globs, flc, fun f ds => match f with
    | 49 => some S_utf8_ValidString
    | 79 => some S_cbor_appendItem
    | 149 => some S_cbor_walk_atKey
    | 150 => some S_cbor_smaller
    | 151 => some S_cbor_walk_step_1
    | _ => none, fun f => match f with
    | 49 => true
    | 149 => true
    | 150 => true
    | _ => false⟩
def A_cbor_walk_accept_1 : Loc2 T := ⟨fun id => match id with
    | _ => none, fun r => match r with
    | _ => none, fun r => match r with
    | _ => false⟩
theorem cbor_walk_accept_1_eq (x : tySs T S_cbor_walk_accept_1.ps) : run E_cbor_walk_accept_1 A_cbor_walk_accept_1 (Tryz.f116.body.getD .skip) (enterT E_cbor_walk_accept_1.C S_cbor_walk_accept_1.ps x) (retK E_cbor_walk_accept_1 Tryz.f116.results.toList S_cbor_walk_accept_1.ps S_cbor_walk_accept_1.rs) = S_cbor_walk_accept_1.fn x := by kernel_rfl
theorem cbor_walk_accept_1_env : EnvOk Tryz.prog E_cbor_walk_accept_1 := envOk (E := E_cbor_walk_accept_1) cd_ok tys fl_ok fun f ds S h => by
    dsimp only [E_cbor_walk_accept_1] at h
    split at h
    · cases h; exact utf8_ValidString_ok
    · cases h; exact cbor_appendItem_ok
    · cases h; exact cbor_walk_atKey_ok
    · cases h; exact cbor_smaller_ok
    · cases h; exact cbor_walk_step_1_ok
    · cases h
theorem cbor_walk_accept_1_ok : SoundT Tryz.prog cd gdn 116 S_cbor_walk_accept_1 :=
  sound_fn (E := E_cbor_walk_accept_1) (A := A_cbor_walk_accept_1) (done := []) (c := (Tryz.f116.body.getD .skip)) (S := S_cbor_walk_accept_1) (fn := Tryz.f116) hmix cbor_walk_accept_1_env Tryz.func116 rfl (by kernel_rfl) (by kernel_rfl) done_nil (by kernel_rfl) (by kernel_rfl) cbor_walk_accept_1_eq
def cbor_reader_item (a0 : ((List (CborFrame)) × Int × (List (UInt8)) × Int × Unit)) : Option ((((List (CborFrame)) × Int × (List (UInt8)) × Int × Unit) × Unit) × (ApiItem × Int × Unit)) :=
 ((cbor_reader_head (a0.1, a0.2.1, a0.2.2.1, a0.2.2.2.1, ())).bind fun r1 => (bif (!decide (r1.2.2.2.1 = (0 : Int))) then (some (((r1.1.1.1, r1.1.1.2.1, r1.1.1.2.2.1, r1.1.1.2.2.2.1, ()), ()), ((⟨(0 : Int), 0#64, ([] : List UInt8)⟩ : ApiItem), r1.2.2.2.1, ())))
 else ((cbor_walk_admit (⟨r1.1.1.1, r1.1.1.2.1⟩ : CborWalk) r1.2.1).bind fun r2 => (bif (!decide (r2.2.1 = (0 : Int))) then (some (((r1.1.1.1, r1.1.1.2.1, r1.1.1.2.2.1, r1.1.1.2.2.2.1, ()), ()), ((⟨(0 : Int), 0#64, ([] : List UInt8)⟩ : ApiItem), r2.2.1, ())))
 else ((bif (decide (r1.2.1 = (5 : Int))) then (bif (decide (r1.2.1 = (5 : Int))) then (bif (decide ((512#64).toNat < r1.2.2.1.toNat)) then (((some (((r1.1.1.1, r1.1.1.2.1, r1.1.1.2.2.1, r1.1.1.2.2.2.1, ()), ()), ((⟨(0 : Int), 0#64, ([] : List UInt8)⟩ : ApiItem), (8 : Int), ())))).bind fun q => some (Sum.inr q))
 else (some (Sum.inl ((r1.1.1.1, r1.1.1.2.1, r1.1.1.2.2.1, r1.1.1.2.2.2.1, ()), ((⟨(0 : Int), 0#64, ([] : List UInt8)⟩ : ApiItem), ()), ((⟨r1.2.1, r1.2.2.1, ([] : List UInt8)⟩ : ApiItem), ()), ()))))
 else (bif (decide (r1.2.1 = (3 : Int))) then (bif (decide (r1.2.1 = (3 : Int))) then (bif (decide ((1024#64).toNat < r1.2.2.1.toNat)) then (((some (((r1.1.1.1, r1.1.1.2.1, r1.1.1.2.2.1, r1.1.1.2.2.2.1, ()), ()), ((⟨(0 : Int), 0#64, ([] : List UInt8)⟩ : ApiItem), (8 : Int), ())))).bind fun q => some (Sum.inr q))
 else (let v3 : Int := (IntKind.wrap .i64 (((r1.1.1.2.2.1).length : Int) - r1.1.1.2.2.2.1))
 (bif (decide (v3 < (IntKind.wrap .i64 (r1.2.2.1.toNat : Int)))) then (((some (((r1.1.1.1, r1.1.1.2.1, r1.1.1.2.2.1, r1.1.1.2.2.2.1, ()), ()), ((⟨(0 : Int), 0#64, ([] : List UInt8)⟩ : ApiItem), (1 : Int), ())))).bind fun q => some (Sum.inr q))
 else (let v4 : Int := (IntKind.wrap .i64 (r1.1.1.2.2.2.1 + (IntKind.wrap .i64 (r1.2.2.1.toNat : Int))))
 (bif (decide ((0 : Int) ≤ v4) && decide (v4 ≤ ((r1.1.1.2.2.1).length : Int))) then (bif (decide ((0 : Int) ≤ r1.1.1.2.2.2.1) && decide (r1.1.1.2.2.2.1 ≤ ((v4).toNat : Int))) then (let v5 : List (UInt8) := (List.drop (r1.1.1.2.2.2.1).toNat (List.take (v4).toNat r1.1.1.2.2.1))
 (let v6 : Int := (IntKind.wrap .i64 (r1.1.1.2.2.2.1 + (IntKind.wrap .i64 (r1.2.2.1.toNat : Int))))
 (some (Sum.inl ((r1.1.1.1, r1.1.1.2.1, r1.1.1.2.2.1, v6, ()), ((⟨(0 : Int), 0#64, ([] : List UInt8)⟩ : ApiItem), ()), ((⟨r1.2.1, 0#64, v5⟩ : ApiItem), ()), ())))))
 else none)
 else none)))))
 else (some (Sum.inl ((r1.1.1.1, r1.1.1.2.1, r1.1.1.2.2.1, r1.1.1.2.2.2.1, ()), ((⟨(0 : Int), 0#64, ([] : List UInt8)⟩ : ApiItem), ()), ((⟨r1.2.1, r1.2.2.1, ([] : List UInt8)⟩ : ApiItem), ()), ()))))
 else (bif (decide (r1.2.1 = (4 : Int))) then (bif (decide ((1024#64).toNat < r1.2.2.1.toNat)) then (((some (((r1.1.1.1, r1.1.1.2.1, r1.1.1.2.2.1, r1.1.1.2.2.2.1, ()), ()), ((⟨(0 : Int), 0#64, ([] : List UInt8)⟩ : ApiItem), (8 : Int), ())))).bind fun q => some (Sum.inr q))
 else (let v7 : Int := (IntKind.wrap .i64 (((r1.1.1.2.2.1).length : Int) - r1.1.1.2.2.2.1))
 (bif (decide (v7 < (IntKind.wrap .i64 (r1.2.2.1.toNat : Int)))) then (((some (((r1.1.1.1, r1.1.1.2.1, r1.1.1.2.2.1, r1.1.1.2.2.2.1, ()), ()), ((⟨(0 : Int), 0#64, ([] : List UInt8)⟩ : ApiItem), (1 : Int), ())))).bind fun q => some (Sum.inr q))
 else (let v8 : Int := (IntKind.wrap .i64 (r1.1.1.2.2.2.1 + (IntKind.wrap .i64 (r1.2.2.1.toNat : Int))))
 (bif (decide ((0 : Int) ≤ v8) && decide (v8 ≤ ((r1.1.1.2.2.1).length : Int))) then (bif (decide ((0 : Int) ≤ r1.1.1.2.2.2.1) && decide (r1.1.1.2.2.2.1 ≤ ((v8).toNat : Int))) then (let v9 : List (UInt8) := (List.drop (r1.1.1.2.2.2.1).toNat (List.take (v8).toNat r1.1.1.2.2.1))
 (let v10 : Int := (IntKind.wrap .i64 (r1.1.1.2.2.2.1 + (IntKind.wrap .i64 (r1.2.2.1.toNat : Int))))
 (some (Sum.inl ((r1.1.1.1, r1.1.1.2.1, r1.1.1.2.2.1, v10, ()), ((⟨(0 : Int), 0#64, ([] : List UInt8)⟩ : ApiItem), ()), ((⟨r1.2.1, 0#64, v9⟩ : ApiItem), ()), ())))))
 else none)
 else none)))))
 else (some (Sum.inl ((r1.1.1.1, r1.1.1.2.1, r1.1.1.2.2.1, r1.1.1.2.2.2.1, ()), ((⟨(0 : Int), 0#64, ([] : List UInt8)⟩ : ApiItem), ()), ((⟨r1.2.1, r1.2.2.1, ([] : List UInt8)⟩ : ApiItem), ()), ()))))))
 else (bif (decide (r1.2.1 = (6 : Int))) then (bif (decide ((512#64).toNat < r1.2.2.1.toNat)) then (((some (((r1.1.1.1, r1.1.1.2.1, r1.1.1.2.2.1, r1.1.1.2.2.2.1, ()), ()), ((⟨(0 : Int), 0#64, ([] : List UInt8)⟩ : ApiItem), (8 : Int), ())))).bind fun q => some (Sum.inr q))
 else (some (Sum.inl ((r1.1.1.1, r1.1.1.2.1, r1.1.1.2.2.1, r1.1.1.2.2.2.1, ()), ((⟨(0 : Int), 0#64, ([] : List UInt8)⟩ : ApiItem), ()), ((⟨r1.2.1, r1.2.2.1, ([] : List UInt8)⟩ : ApiItem), ()), ()))))
 else (bif (decide (r1.2.1 = (3 : Int))) then (bif (decide (r1.2.1 = (3 : Int))) then (bif (decide ((1024#64).toNat < r1.2.2.1.toNat)) then (((some (((r1.1.1.1, r1.1.1.2.1, r1.1.1.2.2.1, r1.1.1.2.2.2.1, ()), ()), ((⟨(0 : Int), 0#64, ([] : List UInt8)⟩ : ApiItem), (8 : Int), ())))).bind fun q => some (Sum.inr q))
 else (let v11 : Int := (IntKind.wrap .i64 (((r1.1.1.2.2.1).length : Int) - r1.1.1.2.2.2.1))
 (bif (decide (v11 < (IntKind.wrap .i64 (r1.2.2.1.toNat : Int)))) then (((some (((r1.1.1.1, r1.1.1.2.1, r1.1.1.2.2.1, r1.1.1.2.2.2.1, ()), ()), ((⟨(0 : Int), 0#64, ([] : List UInt8)⟩ : ApiItem), (1 : Int), ())))).bind fun q => some (Sum.inr q))
 else (let v12 : Int := (IntKind.wrap .i64 (r1.1.1.2.2.2.1 + (IntKind.wrap .i64 (r1.2.2.1.toNat : Int))))
 (bif (decide ((0 : Int) ≤ v12) && decide (v12 ≤ ((r1.1.1.2.2.1).length : Int))) then (bif (decide ((0 : Int) ≤ r1.1.1.2.2.2.1) && decide (r1.1.1.2.2.2.1 ≤ ((v12).toNat : Int))) then (let v13 : List (UInt8) := (List.drop (r1.1.1.2.2.2.1).toNat (List.take (v12).toNat r1.1.1.2.2.1))
 (let v14 : Int := (IntKind.wrap .i64 (r1.1.1.2.2.2.1 + (IntKind.wrap .i64 (r1.2.2.1.toNat : Int))))
 (some (Sum.inl ((r1.1.1.1, r1.1.1.2.1, r1.1.1.2.2.1, v14, ()), ((⟨(0 : Int), 0#64, ([] : List UInt8)⟩ : ApiItem), ()), ((⟨r1.2.1, 0#64, v13⟩ : ApiItem), ()), ())))))
 else none)
 else none)))))
 else (some (Sum.inl ((r1.1.1.1, r1.1.1.2.1, r1.1.1.2.2.1, r1.1.1.2.2.2.1, ()), ((⟨(0 : Int), 0#64, ([] : List UInt8)⟩ : ApiItem), ()), ((⟨r1.2.1, r1.2.2.1, ([] : List UInt8)⟩ : ApiItem), ()), ()))))
 else (bif (decide (r1.2.1 = (4 : Int))) then (bif (decide ((1024#64).toNat < r1.2.2.1.toNat)) then (((some (((r1.1.1.1, r1.1.1.2.1, r1.1.1.2.2.1, r1.1.1.2.2.2.1, ()), ()), ((⟨(0 : Int), 0#64, ([] : List UInt8)⟩ : ApiItem), (8 : Int), ())))).bind fun q => some (Sum.inr q))
 else (let v15 : Int := (IntKind.wrap .i64 (((r1.1.1.2.2.1).length : Int) - r1.1.1.2.2.2.1))
 (bif (decide (v15 < (IntKind.wrap .i64 (r1.2.2.1.toNat : Int)))) then (((some (((r1.1.1.1, r1.1.1.2.1, r1.1.1.2.2.1, r1.1.1.2.2.2.1, ()), ()), ((⟨(0 : Int), 0#64, ([] : List UInt8)⟩ : ApiItem), (1 : Int), ())))).bind fun q => some (Sum.inr q))
 else (let v16 : Int := (IntKind.wrap .i64 (r1.1.1.2.2.2.1 + (IntKind.wrap .i64 (r1.2.2.1.toNat : Int))))
 (bif (decide ((0 : Int) ≤ v16) && decide (v16 ≤ ((r1.1.1.2.2.1).length : Int))) then (bif (decide ((0 : Int) ≤ r1.1.1.2.2.2.1) && decide (r1.1.1.2.2.2.1 ≤ ((v16).toNat : Int))) then (let v17 : List (UInt8) := (List.drop (r1.1.1.2.2.2.1).toNat (List.take (v16).toNat r1.1.1.2.2.1))
 (let v18 : Int := (IntKind.wrap .i64 (r1.1.1.2.2.2.1 + (IntKind.wrap .i64 (r1.2.2.1.toNat : Int))))
 (some (Sum.inl ((r1.1.1.1, r1.1.1.2.1, r1.1.1.2.2.1, v18, ()), ((⟨(0 : Int), 0#64, ([] : List UInt8)⟩ : ApiItem), ()), ((⟨r1.2.1, 0#64, v17⟩ : ApiItem), ()), ())))))
 else none)
 else none)))))
 else (some (Sum.inl ((r1.1.1.1, r1.1.1.2.1, r1.1.1.2.2.1, r1.1.1.2.2.2.1, ()), ((⟨(0 : Int), 0#64, ([] : List UInt8)⟩ : ApiItem), ()), ((⟨r1.2.1, r1.2.2.1, ([] : List UInt8)⟩ : ApiItem), ()), ()))))))).bind (Sum.elim (fun (j19 : (((List (CborFrame)) × Int × (List (UInt8)) × Int × Unit) × (ApiItem × Unit) × (ApiItem × Unit) × Unit)) => ((cbor_walk_accept_1 (j19.1.1, j19.1.2.1, j19.1.2.2.1, j19.1.2.2.2.1, ()) j19.2.2.1.1).bind fun r20 => (bif (!decide (r20.2.1 = (0 : Int))) then (some (((r20.1.1.1, r20.1.1.2.1, r20.1.1.2.2.1, r20.1.1.2.2.2.1, ()), ()), ((⟨(0 : Int), 0#64, ([] : List UInt8)⟩ : ApiItem), r20.2.1, ())))
 else (some (((r20.1.1.1, r20.1.1.2.1, r20.1.1.2.2.1, r20.1.1.2.2.2.1, ()), ()), (j19.2.2.1.1, (0 : Int), ())))))) some))))))
def S_cbor_reader_item : FSpec T := ⟨[.ptr [(.own 6), (.v (.int .i64)), (.v (.rs 0)), (.v (.int .i64))]], [(.v (.agg 1)), (.v (.int .i64))], fun x => cbor_reader_item x.1⟩
def E_cbor_reader_item : Env T := ⟨tab.find, cd, globs, flc, fun f ds => match f with
    | 114 => some S_cbor_reader_head
    | 115 => some S_cbor_walk_admit
    | 116 => some S_cbor_walk_accept_1
    | _ => none, fun f => match f with
    | 115 => true
    | _ => false⟩
def A_cbor_reader_item : Loc2 T := ⟨fun id => match id with
    | _ => none, fun r => match r with
    | 21 => some ([(0, .ptr [(.own 6), (.v (.int .i64)), (.v (.rs 0)), (.v (.int .i64))]), (2, .ptr [(.v (.agg 1))]), (8, .ptr [(.v (.agg 1))])], false)
    | _ => none, fun r => match r with
    | 19 => true
    | _ => false⟩
theorem cbor_reader_item_eq (x : tySs T S_cbor_reader_item.ps) : run E_cbor_reader_item A_cbor_reader_item (Tryz.f84.body.getD .skip) (enterT E_cbor_reader_item.C S_cbor_reader_item.ps x) (retK E_cbor_reader_item Tryz.f84.results.toList S_cbor_reader_item.ps S_cbor_reader_item.rs) = S_cbor_reader_item.fn x := by kernel_rfl
theorem cbor_reader_item_env : EnvOk Tryz.prog E_cbor_reader_item := envOk (E := E_cbor_reader_item) cd_ok tys fl_ok fun f ds S h => by
    dsimp only [E_cbor_reader_item] at h
    split at h
    · cases h; exact cbor_reader_head_ok
    · cases h; exact cbor_walk_admit_ok
    · cases h; exact cbor_walk_accept_1_ok
    · cases h
theorem cbor_reader_item_ok : SoundT Tryz.prog cd gdn 84 S_cbor_reader_item :=
  sound_fn (E := E_cbor_reader_item) (A := A_cbor_reader_item) (done := []) (c := (Tryz.f84.body.getD .skip)) (S := S_cbor_reader_item) (fn := Tryz.f84) hmix cbor_reader_item_env Tryz.func84 rfl (by kernel_rfl) (by kernel_rfl) done_nil (by kernel_rfl) (by kernel_rfl) cbor_reader_item_eq
def cbor_Decode_L0b (y0 : (List (ApiItem))) (y1 : ((List (CborFrame)) × Int × (List (UInt8)) × Int × Unit)) : Option (((List (ApiItem)) × ((List (CborFrame)) × Int × (List (UInt8)) × Int × Unit) × Unit) ⊕ (((List (ApiItem)) × Int × Int × Unit) ⊕ ((List (ApiItem)) × ((List (CborFrame)) × Int × (List (UInt8)) × Int × Unit) × Unit))) :=
 ((cbor_walk_done (⟨y1.1, y1.2.1⟩ : CborWalk)).bind fun r1 => (bif (!r1.2.1) then ((cbor_reader_item (y1.1, y1.2.1, y1.2.2.1, y1.2.2.2.1, ())).bind fun r2 => (bif (!decide (r2.2.2.1 = (0 : Int))) then (some (Sum.inr (Sum.inl ([], (0 : Int), r2.2.2.1, ()))))
 else (bif small ((y0).length + (([r2.2.1] : List (ApiItem)) : List (ApiItem)).length) 32 then (some (Sum.inl ((y0 ++ ([r2.2.1] : List (ApiItem))), (r2.1.1.1, r2.1.1.2.1, r2.1.1.2.2.1, r2.1.1.2.2.2.1, ()), ())))
 else none)))
 else (some (Sum.inr (Sum.inr (y0, (y1.1, y1.2.1, y1.2.2.1, y1.2.2.2.1, ()), ()))))))
def cbor_Decode_L0 (y : ((List (ApiItem)) × ((List (CborFrame)) × Int × (List (UInt8)) × Int × Unit) × Unit)) : Option (((List (ApiItem)) × Int × Int × Unit) ⊕ ((List (ApiItem)) × ((List (CborFrame)) × Int × (List (UInt8)) × Int × Unit) × Unit)) := iter (fun (y : ((List (ApiItem)) × ((List (CborFrame)) × Int × (List (UInt8)) × Int × Unit) × Unit)) => cbor_Decode_L0b y.1 y.2.1) rounds y
def cbor_Decode (a0 : (List (UInt8))) : Option ((Unit) × ((List (ApiItem)) × Int × Int × Unit)) :=
 ((cbor_Decode_L0 ([], ([], (0 : Int), a0, (0 : Int), ()), ())).bind (Sum.elim (fun (z3 : ((List (ApiItem)) × Int × Int × Unit)) => (some ((), (z3.1, z3.2.1, z3.2.2.1, ())))) (fun (z4 : ((List (ApiItem)) × ((List (CborFrame)) × Int × (List (UInt8)) × Int × Unit) × Unit)) => (some ((), (z4.1, z4.2.1.2.2.2.1, (0 : Int), ()))))))
def S_cbor_Decode : FSpec T := ⟨[.f (.v (.rs 0))], [(.own 1), (.v (.int .i64)), (.v (.int .i64))], fun x => cbor_Decode x.1⟩
def E_cbor_Decode : Env T := ⟨tab.find, cd, globs, flc, fun f ds => match f with
    | 83 => some S_cbor_walk_done
    | 84 => some S_cbor_reader_item
    | _ => none, fun f => match f with
    | 83 => true
    | _ => false⟩
def A_cbor_Decode : Loc2 T := ⟨fun id => match id with
    | 0 => some ⟨[(2, .f (.own 1)), (5, .ptr [(.own 6), (.v (.int .i64)), (.v (.rs 0)), (.v (.int .i64))])], [(.ret, [(2, .f (.own 1)), (3, .f (.v (.int .i64))), (4, .f (.v (.int .i64)))]), (.exit 0, [(2, .f (.own 1)), (5, .ptr [(.own 6), (.v (.int .i64)), (.v (.rs 0)), (.v (.int .i64))])])], cbor_Decode_L0, []⟩
    | _ => none, fun r => match r with
    | _ => none, fun r => match r with
    | _ => false⟩
theorem cbor_Decode_L0_eq (y0 : (List (ApiItem))) (y1 : ((List (CborFrame)) × Int × (List (UInt8)) × Int × Unit)) : run E_cbor_Decode A_cbor_Decode (loopAt 0 (Tryz.f51.body.getD .skip)) (layC cd [(2, .f (.own 1)), (5, .ptr [(.own 6), (.v (.int .i64)), (.v (.rs 0)), (.v (.int .i64))])] [] (y0, y1, ())) (roundK cd [(2, .f (.own 1)), (5, .ptr [(.own 6), (.v (.int .i64)), (.v (.rs 0)), (.v (.int .i64))])] [] [(.ret, [(2, .f (.own 1)), (3, .f (.v (.int .i64))), (4, .f (.v (.int .i64)))]), (.exit 0, [(2, .f (.own 1)), (5, .ptr [(.own 6), (.v (.int .i64)), (.v (.rs 0)), (.v (.int .i64))])])]) = cbor_Decode_L0b y0 y1 := by kernel_rfl
theorem cbor_Decode_eq (x : tySs T S_cbor_Decode.ps) : run E_cbor_Decode A_cbor_Decode (Tryz.f51.body.getD .skip) (enterT E_cbor_Decode.C S_cbor_Decode.ps x) (retK E_cbor_Decode Tryz.f51.results.toList S_cbor_Decode.ps S_cbor_Decode.rs) = S_cbor_Decode.fn x := by kernel_rfl
theorem cbor_Decode_env : EnvOk Tryz.prog E_cbor_Decode := envOk (E := E_cbor_Decode) cd_ok tys fl_ok fun f ds S h => by
    dsimp only [E_cbor_Decode] at h
    split at h
    · cases h; exact cbor_walk_done_ok
    · cases h; exact cbor_reader_item_ok
    · cases h
theorem cbor_Decode_L0_ok : LoopOk Tryz.prog E_cbor_Decode Tryz.f51.ntmps (kqOf S_cbor_Decode.ps 0) (loopAt 0 (Tryz.f51.body.getD .skip)) ⟨[(2, .f (.own 1)), (5, .ptr [(.own 6), (.v (.int .i64)), (.v (.rs 0)), (.v (.int .i64))])], [(.ret, [(2, .f (.own 1)), (3, .f (.v (.int .i64))), (4, .f (.v (.int .i64)))]), (.exit 0, [(2, .f (.own 1)), (5, .ptr [(.own 6), (.v (.int .i64)), (.v (.rs 0)), (.v (.int .i64))])])], cbor_Decode_L0, []⟩ :=
  loop_ok (A := A_cbor_Decode) (done := []) (c0 := (Tryz.f51.body.getD .skip)) hmix cbor_Decode_env done_nil rounds (by kernel_rfl) (by kernel_rfl) (fun x => cbor_Decode_L0_eq x.1 x.2.1) (fun _ => rfl)
theorem cbor_Decode_ok : SoundT Tryz.prog cd gdn 51 S_cbor_Decode :=
  sound_fn (E := E_cbor_Decode) (A := A_cbor_Decode) (done := [0]) (c := (Tryz.f51.body.getD .skip)) (S := S_cbor_Decode) (fn := Tryz.f51) hmix cbor_Decode_env Tryz.func51 rfl (by kernel_rfl) (by kernel_rfl) (done_cons rfl cbor_Decode_L0_ok done_nil) (by kernel_rfl) (by kernel_rfl) cbor_Decode_eq
def cbor_Skip_L0b (y0 : (List (ApiItem))) (y1 : Int) (y2 : Int) : Option (((List (ApiItem)) × Int × Int × Unit) ⊕ ((Int × Bool × Unit) ⊕ (Int × Unit))) :=
 (bif (decide ((0 : Int) < y2)) then (bif (decide (((y0).length : Int) ≤ y1)) then (some (Sum.inr (Sum.inl ((0 : Int), false, ()))))
 else ((getI y0 y1).bind fun x1 => (bif (!decide (x1.kind = (5 : Int))) then (bif (!decide (x1.kind = (6 : Int))) then (some (Sum.inl (y0, (IntKind.wrap .i64 (y1 + (1 : Int))), (IntKind.wrap .i64 (y2 - (1 : Int))), ())))
 else (bif (decide ((512#64).toNat < x1.number.toNat)) then (some (Sum.inr (Sum.inl ((0 : Int), false, ()))))
 else (let v2 : Int := (IntKind.wrap .i64 ((IntKind.wrap .i64 (y2 - (1 : Int))) + (IntKind.wrap .i64 (x1.number.toNat : Int))))
 (bif (decide (x1.kind = (6 : Int))) then (let v3 : Int := (IntKind.wrap .i64 (v2 + (IntKind.wrap .i64 (x1.number.toNat : Int))))
 (some (Sum.inl (y0, (IntKind.wrap .i64 (y1 + (1 : Int))), v3, ()))))
 else (some (Sum.inl (y0, (IntKind.wrap .i64 (y1 + (1 : Int))), v2, ())))))))
 else (bif (decide ((512#64).toNat < x1.number.toNat)) then (some (Sum.inr (Sum.inl ((0 : Int), false, ()))))
 else (let v4 : Int := (IntKind.wrap .i64 ((IntKind.wrap .i64 (y2 - (1 : Int))) + (IntKind.wrap .i64 (x1.number.toNat : Int))))
 (bif (decide (x1.kind = (6 : Int))) then (let v5 : Int := (IntKind.wrap .i64 (v4 + (IntKind.wrap .i64 (x1.number.toNat : Int))))
 (some (Sum.inl (y0, (IntKind.wrap .i64 (y1 + (1 : Int))), v5, ()))))
 else (some (Sum.inl (y0, (IntKind.wrap .i64 (y1 + (1 : Int))), v4, ())))))))))
 else (some (Sum.inr (Sum.inr (y1, ())))))
def cbor_Skip_L0 (y : ((List (ApiItem)) × Int × Int × Unit)) : Option ((Int × Bool × Unit) ⊕ (Int × Unit)) := iter (fun (y : ((List (ApiItem)) × Int × Int × Unit)) => cbor_Skip_L0b y.1 y.2.1 y.2.2.1) rounds y
def cbor_Skip (a0 : (List (ApiItem))) (a1 : Int) : Option ((Unit) × (Int × Bool × Unit)) :=
 (bif (decide (a1 < (0 : Int))) then (some ((), ((0 : Int), false, ())))
 else (bif (decide (((a0).length : Int) ≤ a1)) then (some ((), ((0 : Int), false, ())))
 else ((cbor_Skip_L0 (a0, a1, (1 : Int), ())).bind (Sum.elim (fun (z6 : (Int × Bool × Unit)) => (some ((), (z6.1, z6.2.1, ())))) (fun (z7 : (Int × Unit)) => (some ((), (z7.1, true, ()))))))))
def S_cbor_Skip : FSpec T := ⟨[.f (.v (.rs 1)), .f (.v (.int .i64))], [(.v (.int .i64)), (.v .bool)], fun x => cbor_Skip x.1 x.2.1⟩
def E_cbor_Skip : Env T := ⟨tab.find, cd, globs, flc, fun f ds => match f with
    | _ => none, fun f => match f with
    | _ => false⟩
def A_cbor_Skip : Loc2 T := ⟨fun id => match id with
    | 0 => some ⟨[(0, .f (.v (.rs 1))), (4, .f (.v (.int .i64))), (6, .f (.v (.int .i64)))], [(.ret, [(4, .f (.v (.int .i64))), (5, .f (.v .bool))]), (.exit 0, [(4, .f (.v (.int .i64)))])], cbor_Skip_L0, []⟩
    | _ => none, fun r => match r with
    | _ => none, fun r => match r with
    | _ => false⟩
theorem cbor_Skip_L0_eq (y0 : (List (ApiItem))) (y1 : Int) (y2 : Int) : run E_cbor_Skip A_cbor_Skip (loopAt 0 (Tryz.f117.body.getD .skip)) (layC cd [(0, .f (.v (.rs 1))), (4, .f (.v (.int .i64))), (6, .f (.v (.int .i64)))] [] (y0, y1, y2, ())) (roundK cd [(0, .f (.v (.rs 1))), (4, .f (.v (.int .i64))), (6, .f (.v (.int .i64)))] [] [(.ret, [(4, .f (.v (.int .i64))), (5, .f (.v .bool))]), (.exit 0, [(4, .f (.v (.int .i64)))])]) = cbor_Skip_L0b y0 y1 y2 := by kernel_rfl
theorem cbor_Skip_eq (x : tySs T S_cbor_Skip.ps) : run E_cbor_Skip A_cbor_Skip (Tryz.f117.body.getD .skip) (enterT E_cbor_Skip.C S_cbor_Skip.ps x) (retK E_cbor_Skip Tryz.f117.results.toList S_cbor_Skip.ps S_cbor_Skip.rs) = S_cbor_Skip.fn x := by kernel_rfl
theorem cbor_Skip_env : EnvOk Tryz.prog E_cbor_Skip := envOk (E := E_cbor_Skip) cd_ok tys fl_ok fun f ds S h => by cases h
theorem cbor_Skip_L0_ok : LoopOk Tryz.prog E_cbor_Skip Tryz.f117.ntmps (kqOf S_cbor_Skip.ps 0) (loopAt 0 (Tryz.f117.body.getD .skip)) ⟨[(0, .f (.v (.rs 1))), (4, .f (.v (.int .i64))), (6, .f (.v (.int .i64)))], [(.ret, [(4, .f (.v (.int .i64))), (5, .f (.v .bool))]), (.exit 0, [(4, .f (.v (.int .i64)))])], cbor_Skip_L0, []⟩ :=
  loop_ok (A := A_cbor_Skip) (done := []) (c0 := (Tryz.f117.body.getD .skip)) hmix cbor_Skip_env done_nil rounds (by kernel_rfl) (by kernel_rfl) (fun x => cbor_Skip_L0_eq x.1 x.2.1 x.2.2.1) (fun _ => rfl)
theorem cbor_Skip_ok : SoundT Tryz.prog cd gdn 117 S_cbor_Skip :=
  sound_fn (E := E_cbor_Skip) (A := A_cbor_Skip) (done := [0]) (c := (Tryz.f117.body.getD .skip)) (S := S_cbor_Skip) (fn := Tryz.f117) hmix cbor_Skip_env Tryz.func117 rfl (by kernel_rfl) (by kernel_rfl) (done_cons rfl cbor_Skip_L0_ok done_nil) (by kernel_rfl) (by kernel_rfl) cbor_Skip_eq
def cbor_Lookup_L0b (y0 : (List (ApiItem))) (y1 : (BitVec 64)) (y2 : Int) (y3 : (BitVec 64)) (y4 : (BitVec 64)) : Option (((List (ApiItem)) × (BitVec 64) × Int × (BitVec 64) × (BitVec 64) × Unit) ⊕ (((List (ApiItem)) × Bool × Unit) ⊕ (Unit))) :=
 (bif (decide (y4.toNat < y3.toNat)) then ((cbor_Skip y0 (IntKind.wrap .i64 (y2 + (1 : Int)))).bind fun r4 => (bif (!r4.2.2.1) then (some (Sum.inr (Sum.inl ([], false, ()))))
 else ((getI y0 y2).bind fun x5 => (bif (decide (x5.kind = (1 : Int))) then ((getI y0 y2).bind fun x6 => (bif (decide (x6.number = y1)) then (bif (decide ((0 : Int) ≤ r4.2.1) && decide (r4.2.1 ≤ ((y0).length : Int))) then (bif (decide ((0 : Int) ≤ (IntKind.wrap .i64 (y2 + (1 : Int)))) && decide ((IntKind.wrap .i64 (y2 + (1 : Int))) ≤ ((r4.2.1).toNat : Int))) then (let v7 : List (ApiItem) := (List.drop ((IntKind.wrap .i64 (y2 + (1 : Int)))).toNat (List.take (r4.2.1).toNat y0))
 ((slices_Clone v7).bind fun r8 => (some (Sum.inr (Sum.inl (r8.2.1, true, ()))))))
 else none)
 else none)
 else (some (Sum.inl (y0, y1, r4.2.1, y3, (y4 + 1#64), ())))))
 else (some (Sum.inl (y0, y1, r4.2.1, y3, (y4 + 1#64), ())))))))
 else (some (Sum.inr (Sum.inr ()))))
def cbor_Lookup_L0 (y : ((List (ApiItem)) × (BitVec 64) × Int × (BitVec 64) × (BitVec 64) × Unit)) : Option (((List (ApiItem)) × Bool × Unit) ⊕ (Unit)) := iter (fun (y : ((List (ApiItem)) × (BitVec 64) × Int × (BitVec 64) × (BitVec 64) × Unit)) => cbor_Lookup_L0b y.1 y.2.1 y.2.2.1 y.2.2.2.1 y.2.2.2.2.1) rounds y
def cbor_Lookup (a0 : (List (ApiItem))) (a1 : (BitVec 64)) : Option ((Unit) × ((List (ApiItem)) × Bool × Unit)) :=
 ((cbor_Validate a0).bind fun r1 => (bif (!decide (r1.2.1 = (0 : Int))) then (some ((), ([], false, ())))
 else ((getI a0 (0 : Int)).bind fun x2 => (bif (!decide (x2.kind = (6 : Int))) then (some ((), ([], false, ())))
 else ((getI a0 (0 : Int)).bind fun x3 => ((cbor_Lookup_L0 (a0, a1, (1 : Int), x3.number, 0#64, ())).bind (Sum.elim (fun (z9 : ((List (ApiItem)) × Bool × Unit)) => (some ((), (z9.1, z9.2.1, ())))) (fun (z10 : (Unit)) => (some ((), ([], false, ())))))))))))
def S_cbor_Lookup : FSpec T := ⟨[.f (.v (.rs 1)), .f (.v .u64)], [(.own 1), (.v .bool)], fun x => cbor_Lookup x.1 x.2.1⟩
def E_cbor_Lookup : Env T := ⟨tab.find, cd, globs, flc, fun f ds => match f with
    | 78 => some S_cbor_Validate
    | 117 => some S_cbor_Skip
    | 118 => some S_slices_Clone
    | _ => none, fun f => match f with
    | 78 => true
    | 117 => true
    | _ => false⟩
def A_cbor_Lookup : Loc2 T := ⟨fun id => match id with
    | 0 => some ⟨[(0, .f (.v (.rs 1))), (1, .f (.v .u64)), (6, .f (.v (.int .i64))), (22, .f (.v .u64)), (23, .f (.v .u64))], [(.ret, [(4, .f (.own 1)), (5, .f (.v .bool))]), (.exit 0, [])], cbor_Lookup_L0, []⟩
    | _ => none, fun r => match r with
    | _ => none, fun r => match r with
    | _ => false⟩
theorem cbor_Lookup_L0_eq (y0 : (List (ApiItem))) (y1 : (BitVec 64)) (y2 : Int) (y3 : (BitVec 64)) (y4 : (BitVec 64)) : run E_cbor_Lookup A_cbor_Lookup (loopAt 0 (Tryz.f85.body.getD .skip)) (layC cd [(0, .f (.v (.rs 1))), (1, .f (.v .u64)), (6, .f (.v (.int .i64))), (22, .f (.v .u64)), (23, .f (.v .u64))] [] (y0, y1, y2, y3, y4, ())) (roundK cd [(0, .f (.v (.rs 1))), (1, .f (.v .u64)), (6, .f (.v (.int .i64))), (22, .f (.v .u64)), (23, .f (.v .u64))] [] [(.ret, [(4, .f (.own 1)), (5, .f (.v .bool))]), (.exit 0, [])]) = cbor_Lookup_L0b y0 y1 y2 y3 y4 := by kernel_rfl
theorem cbor_Lookup_eq (x : tySs T S_cbor_Lookup.ps) : run E_cbor_Lookup A_cbor_Lookup (Tryz.f85.body.getD .skip) (enterT E_cbor_Lookup.C S_cbor_Lookup.ps x) (retK E_cbor_Lookup Tryz.f85.results.toList S_cbor_Lookup.ps S_cbor_Lookup.rs) = S_cbor_Lookup.fn x := by kernel_rfl
theorem cbor_Lookup_env : EnvOk Tryz.prog E_cbor_Lookup := envOk (E := E_cbor_Lookup) cd_ok tys fl_ok fun f ds S h => by
    dsimp only [E_cbor_Lookup] at h
    split at h
    · cases h; exact cbor_Validate_ok
    · cases h; exact cbor_Skip_ok
    · cases h; exact slices_Clone_ok
    · cases h
theorem cbor_Lookup_L0_ok : LoopOk Tryz.prog E_cbor_Lookup Tryz.f85.ntmps (kqOf S_cbor_Lookup.ps 0) (loopAt 0 (Tryz.f85.body.getD .skip)) ⟨[(0, .f (.v (.rs 1))), (1, .f (.v .u64)), (6, .f (.v (.int .i64))), (22, .f (.v .u64)), (23, .f (.v .u64))], [(.ret, [(4, .f (.own 1)), (5, .f (.v .bool))]), (.exit 0, [])], cbor_Lookup_L0, []⟩ :=
  loop_ok (A := A_cbor_Lookup) (done := []) (c0 := (Tryz.f85.body.getD .skip)) hmix cbor_Lookup_env done_nil rounds (by kernel_rfl) (by kernel_rfl) (fun x => cbor_Lookup_L0_eq x.1 x.2.1 x.2.2.1 x.2.2.2.1 x.2.2.2.2.1) (fun _ => rfl)
theorem cbor_Lookup_ok : SoundT Tryz.prog cd gdn 85 S_cbor_Lookup :=
  sound_fn (E := E_cbor_Lookup) (A := A_cbor_Lookup) (done := [0]) (c := (Tryz.f85.body.getD .skip)) (S := S_cbor_Lookup) (fn := Tryz.f85) hmix cbor_Lookup_env Tryz.func85 rfl (by kernel_rfl) (by kernel_rfl) (done_cons rfl cbor_Lookup_L0_ok done_nil) (by kernel_rfl) (by kernel_rfl) cbor_Lookup_eq
def credential_field (a0 : (List (ApiItem))) (a1 : (BitVec 64)) : Option ((Unit) × (ApiItem × Unit)) :=
 ((cbor_Lookup a0 a1).bind fun r1 => (bif (!r1.2.2.1) then (some ((), ((⟨(0 : Int), 0#64, ([] : List UInt8)⟩ : ApiItem), ())))
 else (bif (decide (((r1.2.1).length : Int) = (0 : Int))) then (some ((), ((⟨(0 : Int), 0#64, ([] : List UInt8)⟩ : ApiItem), ())))
 else (bif decide ((0 : Int) < ((r1.2.1).length : Int)) then (((r1.2.1)[0]?).bind fun x2 => (some ((), (x2, ()))))
 else none))))
def S_credential_field : FSpec T := ⟨[.f (.v (.rs 1)), .f (.v .u64)], [(.v (.agg 1))], fun x => credential_field x.1 x.2.1⟩
def E_credential_field : Env T := ⟨tab.find, cd, globs, flc, fun f ds => match f with
    | 85 => some S_cbor_Lookup
    | _ => none, fun f => match f with
    | _ => false⟩
def A_credential_field : Loc2 T := ⟨fun id => match id with
    | _ => none, fun r => match r with
    | _ => none, fun r => match r with
    | _ => false⟩
theorem credential_field_eq (x : tySs T S_credential_field.ps) : run E_credential_field A_credential_field (Tryz.f52.body.getD .skip) (enterT E_credential_field.C S_credential_field.ps x) (retK E_credential_field Tryz.f52.results.toList S_credential_field.ps S_credential_field.rs) = S_credential_field.fn x := by kernel_rfl
theorem credential_field_env : EnvOk Tryz.prog E_credential_field := envOk (E := E_credential_field) cd_ok tys fl_ok fun f ds S h => by
    dsimp only [E_credential_field] at h
    split at h
    · cases h; exact cbor_Lookup_ok
    · cases h
theorem credential_field_ok : SoundT Tryz.prog cd gdn 52 S_credential_field :=
  sound_fn (E := E_credential_field) (A := A_credential_field) (done := []) (c := (Tryz.f52.body.getD .skip)) (S := S_credential_field) (fn := Tryz.f52) hmix credential_field_env Tryz.func52 rfl (by kernel_rfl) (by kernel_rfl) done_nil (by kernel_rfl) (by kernel_rfl) credential_field_eq
def bytes_Equal (a0 : (List (UInt8))) (a1 : (List (UInt8))) : Option ((Unit) × (Bool × Unit)) :=
 (some ((), ((decide (a0 = a1)), ())))
def S_bytes_Equal : FSpec T := ⟨[.f (.v (.rs 0)), .f (.v (.rs 0))], [(.v .bool)], fun x => bytes_Equal x.1 x.2.1⟩
def E_bytes_Equal : Env T := ⟨tab.find, cd, globs, flc, fun f ds => match f with
    | _ => none, fun f => match f with
    | _ => false⟩
def A_bytes_Equal : Loc2 T := ⟨fun id => match id with
    | _ => none, fun r => match r with
    | _ => none, fun r => match r with
    | _ => false⟩
theorem bytes_Equal_eq (x : tySs T S_bytes_Equal.ps) : run E_bytes_Equal A_bytes_Equal (Tryz.f53.body.getD .skip) (enterT E_bytes_Equal.C S_bytes_Equal.ps x) (retK E_bytes_Equal Tryz.f53.results.toList S_bytes_Equal.ps S_bytes_Equal.rs) = S_bytes_Equal.fn x := by kernel_rfl
theorem bytes_Equal_env : EnvOk Tryz.prog E_bytes_Equal := envOk (E := E_bytes_Equal) cd_ok tys fl_ok fun f ds S h => by cases h
theorem bytes_Equal_ok : SoundT Tryz.prog cd gdn 53 S_bytes_Equal :=
  sound_fn (E := E_bytes_Equal) (A := A_bytes_Equal) (done := []) (c := (Tryz.f53.body.getD .skip)) (S := S_bytes_Equal) (fn := Tryz.f53) hmix bytes_Equal_env Tryz.func53 rfl (by kernel_rfl) (by kernel_rfl) done_nil (by kernel_rfl) (by kernel_rfl) bytes_Equal_eq
def credential_Decode (a0 : (List (UInt8))) : Option ((Unit) × (ApiCredential × Int × Unit)) :=
 ((cbor_Decode a0).bind fun r1 => (bif (!decide (r1.2.2.2.1 = (0 : Int))) then (some ((), ((⟨([] : List UInt8), ([] : List UInt8), ([] : List UInt8), 0#64, (0 : Int), false, (0 : Int), false, false⟩ : ApiCredential), (2 : Int), ())))
 else ((credential_field r1.2.1 (1#64)).bind fun r2 => ((credential_field r1.2.1 (2#64)).bind fun r3 => ((credential_field r1.2.1 (3#64)).bind fun r4 => ((credential_field r1.2.1 (4#64)).bind fun r5 => ((credential_field r1.2.1 (5#64)).bind fun r6 => ((credential_field r1.2.1 (6#64)).bind fun r7 => ((credential_field r1.2.1 (7#64)).bind fun r8 => ((credential_field r1.2.1 (8#64)).bind fun r9 => ((credential_field r1.2.1 (9#64)).bind fun r10 => ((credential_Encode (⟨r2.2.1.data, r3.2.1.data, r4.2.1.data, r5.2.1.number, (IntKind.wrap .i64 (r6.2.1.number.toNat : Int)), (decide (r7.2.1.number = 1#64)), (IntKind.wrap .i64 (r8.2.1.number.toNat : Int)), (decide (r9.2.1.number = 1#64)), (decide (r10.2.1.number = 1#64))⟩ : ApiCredential)).bind fun r11 => (bif (!decide (r11.2.2.1 = (0 : Int))) then (some ((), ((⟨([] : List UInt8), ([] : List UInt8), ([] : List UInt8), 0#64, (0 : Int), false, (0 : Int), false, false⟩ : ApiCredential), (2 : Int), ())))
 else ((bytes_Equal r11.2.1 a0).bind fun r12 => (bif (!r12.2.1) then (some ((), ((⟨([] : List UInt8), ([] : List UInt8), ([] : List UInt8), 0#64, (0 : Int), false, (0 : Int), false, false⟩ : ApiCredential), (2 : Int), ())))
 else (some ((), ((⟨r2.2.1.data, r3.2.1.data, r4.2.1.data, r5.2.1.number, (IntKind.wrap .i64 (r6.2.1.number.toNat : Int)), (decide (r7.2.1.number = 1#64)), (IntKind.wrap .i64 (r8.2.1.number.toNat : Int)), (decide (r9.2.1.number = 1#64)), (decide (r10.2.1.number = 1#64))⟩ : ApiCredential), (0 : Int), ()))))))))))))))))))
def S_credential_Decode : FSpec T := ⟨[.f (.v (.rs 0))], [(.v (.agg 2)), (.v (.int .i64))], fun x => credential_Decode x.1⟩
def E_credential_Decode : Env T := ⟨tab.find, cd, globs, flc, fun f ds => match f with
    | 12 => some S_credential_Encode
    | 51 => some S_cbor_Decode
    | 52 => some S_credential_field
    | 53 => some S_bytes_Equal
    | _ => none, fun f => match f with
    | 52 => true
    | 53 => true
    | _ => false⟩
def A_credential_Decode : Loc2 T := ⟨fun id => match id with
    | _ => none, fun r => match r with
    | _ => none, fun r => match r with
    | _ => false⟩
theorem credential_Decode_eq (x : tySs T S_credential_Decode.ps) : run E_credential_Decode A_credential_Decode (Tryz.f16.body.getD .skip) (enterT E_credential_Decode.C S_credential_Decode.ps x) (retK E_credential_Decode Tryz.f16.results.toList S_credential_Decode.ps S_credential_Decode.rs) = S_credential_Decode.fn x := by kernel_rfl
theorem credential_Decode_env : EnvOk Tryz.prog E_credential_Decode := envOk (E := E_credential_Decode) cd_ok tys fl_ok fun f ds S h => by
    dsimp only [E_credential_Decode] at h
    split at h
    · cases h; exact credential_Encode_ok
    · cases h; exact cbor_Decode_ok
    · cases h; exact credential_field_ok
    · cases h; exact bytes_Equal_ok
    · cases h
theorem credential_Decode_ok : SoundT Tryz.prog cd gdn 16 S_credential_Decode :=
  sound_fn (E := E_credential_Decode) (A := A_credential_Decode) (done := []) (c := (Tryz.f16.body.getD .skip)) (S := S_credential_Decode) (fn := Tryz.f16) hmix credential_Decode_env Tryz.func16 rfl (by kernel_rfl) (by kernel_rfl) done_nil (by kernel_rfl) (by kernel_rfl) credential_Decode_eq
def bytes_trimRightByte_L0b (y0 : (List (UInt8))) (y1 : UInt8) : Option (((List (UInt8)) × UInt8 × Unit) ⊕ ((List (UInt8)) × Unit)) :=
 (bif (decide ((0 : Int) < ((y0).length : Int))) then ((getI y0 (IntKind.wrap .i64 (((y0).length : Int) - (1 : Int)))).bind fun x1 => (bif (decide (x1.toBitVec = y1.toBitVec)) then (bif (decide ((0 : Int) ≤ (IntKind.wrap .i64 (((y0).length : Int) - (1 : Int)))) && decide ((IntKind.wrap .i64 (((y0).length : Int) - (1 : Int))) ≤ ((y0).length : Int))) then (let v2 : List (UInt8) := (List.take ((IntKind.wrap .i64 (((y0).length : Int) - (1 : Int)))).toNat y0)
 (some (Sum.inl (v2, y1, ()))))
 else none)
 else (some (Sum.inr (y0, ())))))
 else (some (Sum.inr (y0, ()))))
def bytes_trimRightByte_L0 (y : ((List (UInt8)) × UInt8 × Unit)) : Option ((List (UInt8)) × Unit) := iter (fun (y : ((List (UInt8)) × UInt8 × Unit)) => bytes_trimRightByte_L0b y.1 y.2.1) rounds y
def bytes_trimRightByte (a0 : (List (UInt8))) (a1 : UInt8) : Option ((Unit) × ((List (UInt8)) × Unit)) :=
 ((bytes_trimRightByte_L0 (a0, a1, ())).bind (fun (z3 : ((List (UInt8)) × Unit)) => (some ((), (z3.1, ())))))
def S_bytes_trimRightByte : FSpec T := ⟨[.f (.v (.rs 0)), .f (.v .u8)], [(.v (.rs 0))], fun x => bytes_trimRightByte x.1 x.2.1⟩
def E_bytes_trimRightByte : Env T := ⟨tab.find, cd, globs, flc, fun f ds => match f with
    | _ => none, fun f => match f with
    | _ => false⟩
def A_bytes_trimRightByte : Loc2 T := ⟨fun id => match id with
    | 0 => some ⟨[(0, .f (.v (.rs 0))), (1, .f (.v .u8))], [(.exit 0, [(0, .f (.v (.rs 0)))])], bytes_trimRightByte_L0, []⟩
    | _ => none, fun r => match r with
    | _ => none, fun r => match r with
    | _ => false⟩
theorem bytes_trimRightByte_L0_eq (y0 : (List (UInt8))) (y1 : UInt8) : run E_bytes_trimRightByte A_bytes_trimRightByte (loopAt 0 (Tryz.f101.body.getD .skip)) (layC cd [(0, .f (.v (.rs 0))), (1, .f (.v .u8))] [] (y0, y1, ())) (roundK cd [(0, .f (.v (.rs 0))), (1, .f (.v .u8))] [] [(.exit 0, [(0, .f (.v (.rs 0)))])]) = bytes_trimRightByte_L0b y0 y1 := by kernel_rfl
theorem bytes_trimRightByte_eq (x : tySs T S_bytes_trimRightByte.ps) : run E_bytes_trimRightByte A_bytes_trimRightByte (Tryz.f101.body.getD .skip) (enterT E_bytes_trimRightByte.C S_bytes_trimRightByte.ps x) (retK E_bytes_trimRightByte Tryz.f101.results.toList S_bytes_trimRightByte.ps S_bytes_trimRightByte.rs) = S_bytes_trimRightByte.fn x := by kernel_rfl
theorem bytes_trimRightByte_env : EnvOk Tryz.prog E_bytes_trimRightByte := envOk (E := E_bytes_trimRightByte) cd_ok tys fl_ok fun f ds S h => by cases h
theorem bytes_trimRightByte_L0_ok : LoopOk Tryz.prog E_bytes_trimRightByte Tryz.f101.ntmps (kqOf S_bytes_trimRightByte.ps 0) (loopAt 0 (Tryz.f101.body.getD .skip)) ⟨[(0, .f (.v (.rs 0))), (1, .f (.v .u8))], [(.exit 0, [(0, .f (.v (.rs 0)))])], bytes_trimRightByte_L0, []⟩ :=
  loop_ok (A := A_bytes_trimRightByte) (done := []) (c0 := (Tryz.f101.body.getD .skip)) hmix bytes_trimRightByte_env done_nil rounds (by kernel_rfl) (by kernel_rfl) (fun x => bytes_trimRightByte_L0_eq x.1 x.2.1) (fun _ => rfl)
theorem bytes_trimRightByte_ok : SoundT Tryz.prog cd gdn 101 S_bytes_trimRightByte :=
  sound_fn (E := E_bytes_trimRightByte) (A := A_bytes_trimRightByte) (done := [0]) (c := (Tryz.f101.body.getD .skip)) (S := S_bytes_trimRightByte) (fn := Tryz.f101) hmix bytes_trimRightByte_env Tryz.func101 rfl (by kernel_rfl) (by kernel_rfl) (done_cons rfl bytes_trimRightByte_L0_ok done_nil) (by kernel_rfl) (by kernel_rfl) bytes_trimRightByte_eq
def bytes_trimLeftByte_L0b (y0 : (List (UInt8))) (y1 : UInt8) : Option (((List (UInt8)) × UInt8 × Unit) ⊕ ((List (UInt8)) × Unit)) :=
 (bif (decide ((0 : Int) < ((y0).length : Int))) then ((getI y0 (0 : Int)).bind fun x1 => (bif (decide (x1.toBitVec = y1.toBitVec)) then (bif decide ((1 : Int) ≤ ((y0).length : Int)) then (some (Sum.inl ((List.drop 1 y0), y1, ())))
 else none)
 else (some (Sum.inr (y0, ())))))
 else (some (Sum.inr (y0, ()))))
def bytes_trimLeftByte_L0 (y : ((List (UInt8)) × UInt8 × Unit)) : Option ((List (UInt8)) × Unit) := iter (fun (y : ((List (UInt8)) × UInt8 × Unit)) => bytes_trimLeftByte_L0b y.1 y.2.1) rounds y
def bytes_trimLeftByte (a0 : (List (UInt8))) (a1 : UInt8) : Option ((Unit) × ((List (UInt8)) × Unit)) :=
 ((bytes_trimLeftByte_L0 (a0, a1, ())).bind (fun (z2 : ((List (UInt8)) × Unit)) => (bif (decide (((z2.1).length : Int) = (0 : Int))) then (some ((), ([], ())))
 else (some ((), (z2.1, ()))))))
def S_bytes_trimLeftByte : FSpec T := ⟨[.f (.v (.rs 0)), .f (.v .u8)], [(.v (.rs 0))], fun x => bytes_trimLeftByte x.1 x.2.1⟩
def E_bytes_trimLeftByte : Env T := ⟨tab.find, cd, globs, flc, fun f ds => match f with
    | _ => none, fun f => match f with
    | _ => false⟩
def A_bytes_trimLeftByte : Loc2 T := ⟨fun id => match id with
    | 0 => some ⟨[(0, .f (.v (.rs 0))), (1, .f (.v .u8))], [(.exit 0, [(0, .f (.v (.rs 0)))])], bytes_trimLeftByte_L0, []⟩
    | _ => none, fun r => match r with
    | _ => none, fun r => match r with
    | _ => false⟩
theorem bytes_trimLeftByte_L0_eq (y0 : (List (UInt8))) (y1 : UInt8) : run E_bytes_trimLeftByte A_bytes_trimLeftByte (loopAt 0 (Tryz.f100.body.getD .skip)) (layC cd [(0, .f (.v (.rs 0))), (1, .f (.v .u8))] [] (y0, y1, ())) (roundK cd [(0, .f (.v (.rs 0))), (1, .f (.v .u8))] [] [(.exit 0, [(0, .f (.v (.rs 0)))])]) = bytes_trimLeftByte_L0b y0 y1 := by kernel_rfl
theorem bytes_trimLeftByte_eq (x : tySs T S_bytes_trimLeftByte.ps) : run E_bytes_trimLeftByte A_bytes_trimLeftByte (Tryz.f100.body.getD .skip) (enterT E_bytes_trimLeftByte.C S_bytes_trimLeftByte.ps x) (retK E_bytes_trimLeftByte Tryz.f100.results.toList S_bytes_trimLeftByte.ps S_bytes_trimLeftByte.rs) = S_bytes_trimLeftByte.fn x := by kernel_rfl
theorem bytes_trimLeftByte_env : EnvOk Tryz.prog E_bytes_trimLeftByte := envOk (E := E_bytes_trimLeftByte) cd_ok tys fl_ok fun f ds S h => by cases h
theorem bytes_trimLeftByte_L0_ok : LoopOk Tryz.prog E_bytes_trimLeftByte Tryz.f100.ntmps (kqOf S_bytes_trimLeftByte.ps 0) (loopAt 0 (Tryz.f100.body.getD .skip)) ⟨[(0, .f (.v (.rs 0))), (1, .f (.v .u8))], [(.exit 0, [(0, .f (.v (.rs 0)))])], bytes_trimLeftByte_L0, []⟩ :=
  loop_ok (A := A_bytes_trimLeftByte) (done := []) (c0 := (Tryz.f100.body.getD .skip)) hmix bytes_trimLeftByte_env done_nil rounds (by kernel_rfl) (by kernel_rfl) (fun x => bytes_trimLeftByte_L0_eq x.1 x.2.1) (fun _ => rfl)
theorem bytes_trimLeftByte_ok : SoundT Tryz.prog cd gdn 100 S_bytes_trimLeftByte :=
  sound_fn (E := E_bytes_trimLeftByte) (A := A_bytes_trimLeftByte) (done := [0]) (c := (Tryz.f100.body.getD .skip)) (S := S_bytes_trimLeftByte) (fn := Tryz.f100) hmix bytes_trimLeftByte_env Tryz.func100 rfl (by kernel_rfl) (by kernel_rfl) (done_cons rfl bytes_trimLeftByte_L0_ok done_nil) (by kernel_rfl) (by kernel_rfl) bytes_trimLeftByte_eq
def bytes_Trim (a0 : (List (UInt8))) (a1 : (List UInt8)) : Option ((Unit) × ((List (UInt8)) × Unit)) :=
 (bif (decide (((a0).length : Int) = (0 : Int))) then (some ((), ([], ())))
 else (bif (decide (a1 = ([] : List UInt8))) then (some ((), (a0, ())))
 else (bif (decide (((a1).length : Int) = (1 : Int))) then ((getI a1 (0 : Int)).bind fun x1 => (bif (decide (x1.toBitVec.toNat < (128 : UInt8).toBitVec.toNat)) then ((getI a1 (0 : Int)).bind fun x2 => ((bytes_trimRightByte a0 x2).bind fun r3 => ((getI a1 (0 : Int)).bind fun x4 => ((bytes_trimLeftByte r3.2.1 x4).bind fun r5 => (some ((), (r5.2.1, ())))))))
 else none))
 else none)))
def S_bytes_Trim : FSpec T := ⟨[.f (.v (.rs 0)), .f (.v .str)], [(.v (.rs 0))], fun x => bytes_Trim x.1 x.2.1⟩
def E_bytes_Trim : Env T := ⟨tab.find, cd, globs, flc, fun f ds => match f with
    | 100 => some S_bytes_trimLeftByte
    | 101 => some S_bytes_trimRightByte
    | _ => none, fun f => match f with
    | _ => false⟩
def A_bytes_Trim : Loc2 T := ⟨fun id => match id with
    | _ => none, fun r => match r with
    | _ => none, fun r => match r with
    | _ => false⟩
theorem bytes_Trim_eq (x : tySs T S_bytes_Trim.ps) : run E_bytes_Trim A_bytes_Trim (Tryz.f72.body.getD .skip) (enterT E_bytes_Trim.C S_bytes_Trim.ps x) (retK E_bytes_Trim Tryz.f72.results.toList S_bytes_Trim.ps S_bytes_Trim.rs) = S_bytes_Trim.fn x := by kernel_rfl
theorem bytes_Trim_env : EnvOk Tryz.prog E_bytes_Trim := envOk (E := E_bytes_Trim) cd_ok tys fl_ok fun f ds S h => by
    dsimp only [E_bytes_Trim] at h
    split at h
    · cases h; exact bytes_trimLeftByte_ok
    · cases h; exact bytes_trimRightByte_ok
    · cases h
theorem bytes_Trim_ok : SoundT Tryz.prog cd gdn 72 S_bytes_Trim :=
  sound_fn (E := E_bytes_Trim) (A := A_bytes_Trim) (done := []) (c := (Tryz.f72.body.getD .skip)) (S := S_bytes_Trim) (fn := Tryz.f72) hmix bytes_Trim_env Tryz.func72 rfl (by kernel_rfl) (by kernel_rfl) done_nil (by kernel_rfl) (by kernel_rfl) bytes_Trim_eq
end Go.Proofs.YtghfcfjnfgmkgaaGreatDoor
